/-
Printed by a program of this session: plain functions, and that the evaluator answers as they do.
-/
import Derived.Test.YtnkjpkfijafkgaaS4
import Derived.Test.YtnkjpkfijafkgaaFns
set_option linter.unusedVariables false
set_option maxRecDepth 100000
namespace Go.Proofs.Ytnkjpkfijafkgaa
open Go.Abs
noncomputable section
/-! 46, loop 6 -/
inductive Qlf46_6 where
  | e0 (h1 : List Int)
  | e1 (s5 : Int) (h2 : List Int)
def slf46_6 (N : Nat) (a0n : Nat) (h0 : List Int) (n : Nat) (go : Int → Int → List Int → Option Qlf46_6) (s5k6 : Int) (s14k6 : Int) (h2k6 : List Int) : Option Qlf46_6 :=
 if (s14k6 < ((a0n : Nat) : Int)) then
  if (((0 : Int) ≤ s14k6) ∧ ((Int.toNat s14k6) < a0n)) then
   if ((0 + (Int.toNat s14k6)) < (List.length h0)) then
    if ((List.getD h0 (0 + (Int.toNat s14k6)) (0 : Int)) < (0 : Int)) then
     some (.e0 h2k6)
    else
     if ((List.getD h0 (0 + (Int.toNat s14k6)) (0 : Int)) > (15 : Int)) then
      some (.e0 h2k6)
     else
     if ((List.getD h0 (0 + (Int.toNat s14k6)) (0 : Int)) > (0 : Int)) then
      go (IntKind.wrap IntKind.i64 (s5k6 + (Int.fdiv (32768 : Int) ((2 : Int) ^ (Min.min (Int.toNat (List.getD h0 (0 + (Int.toNat s14k6)) (0 : Int))) 64))))) (IntKind.wrap IntKind.i64 (s14k6 + (1 : Int))) (List.set h2k6 (Int.toNat (List.getD h0 (0 + (Int.toNat s14k6)) (0 : Int))) (IntKind.wrap IntKind.i64 ((List.getD h2k6 (Int.toNat (List.getD h0 (0 + (Int.toNat s14k6)) (0 : Int))) (0 : Int)) + (1 : Int))))
     else
      go s5k6 (IntKind.wrap IntKind.i64 (s14k6 + (1 : Int))) h2k6
   else
    none
  else
   none
 else
  some (.e1 s5k6 h2k6)
def lf46_6 (N : Nat) (a0n : Nat) (h0 : List Int) : Nat → Int → Int → List Int → Option Qlf46_6
  | 0, _, _, _ => none
  | n + 1, s5k6, s14k6, h2k6 => slf46_6 N a0n h0 n (lf46_6 N a0n h0 n) s5k6 s14k6 h2k6
def qlf46_6 (a0n : Nat) (a0nl : Bool) (h0rw : Bool) (h0 : List Int) : Option Qlf46_6 → Out
  | none => none
  | some (.e0 h1) => some (XT.ret, (St.mk [(2, (AV.ptr 1 0 0 1)), (3, (AV.int IntKind.i64 (1 : Int)))] [(Blk.dyn h0rw 3 [(Col.ints IntKind.i64 h0)]), (Blk.segs true 68 [(Seg.run IntKind.i64 16 h1)])]))
  | some (.e1 s5 h2) => some ((XT.exit 0), (St.mk [(2, (AV.ptr 1 0 0 1)), (4, (AV.ptr 2 0 0 1)), (5, (AV.int IntKind.i64 s5))] [(Blk.dyn h0rw 3 [(Col.ints IntKind.i64 h0)]), (Blk.segs true 68 [(Seg.run IntKind.i64 16 (List.replicate 16 (0 : Int)))]), (Blk.segs true 68 [(Seg.run IntKind.i64 16 h2)])]))
theorem elf46_6 (N : Nat) (a0n : Nat) (a0nl : Bool) (h0rw : Bool) (h0 : List Int) : ∀ (n : Nat) (s5k6 : Int) (s14k6 : Int) (h2k6 : List Int), qlf46_6 a0n a0nl h0rw h0 (lf46_6 N a0n h0 n s5k6 s14k6 h2k6) = lp (ctx46 N) 1 Try.f46 6 n (St.mk [(2, (AV.ptr 1 0 0 1)), (4, (AV.ptr 2 0 0 1)), (5, (AV.int IntKind.i64 s5k6)), (12, (AV.slice 0 0 0 a0n 1 a0nl true)), (13, (AV.int IntKind.i64 ((a0n : Nat) : Int))), (14, (AV.int IntKind.i64 s14k6))] [(Blk.dyn h0rw 3 [(Col.ints IntKind.i64 h0)]), (Blk.segs true 68 [(Seg.run IntKind.i64 16 (List.replicate 16 (0 : Int)))]), (Blk.segs true 68 [(Seg.run IntKind.i64 16 h2k6)])]) := by
  intro n
  induction n with
  | zero => intros; kernel_rfl
  | succ n ih =>
    intro s5k6 s14k6 h2k6
    rw [lf46_6]
    unfold slf46_6
    refine br (p := (s14k6 < ((a0n : Nat) : Int))) (fun h6x => ?_) (fun h6x => finL (ctx46 N) 1 Try.f46 6 n [.b false] (by kernel_rfl) (ya (pF h6x) yz))
    refine br (p := (((0 : Int) ≤ s14k6) ∧ ((Int.toNat s14k6) < a0n))) (fun h7x => ?_) (fun h7x => finL (ctx46 N) 1 Try.f46 6 n [.b true, .b false] (by kernel_rfl) (ya (pT h6x) (ya (pF h7x) yz)))
    refine br (p := ((0 + (Int.toNat s14k6)) < (List.length h0))) (fun h8x => ?_) (fun h8x => finL (ctx46 N) 1 Try.f46 6 n [.b true, .b true, .b false] (by kernel_rfl) (ya (pT h6x) (ya (pT h7x) (ya (pF h8x) yz))))
    refine br (p := ((List.getD h0 (0 + (Int.toNat s14k6)) (0 : Int)) < (0 : Int))) (fun h9x => finL (ctx46 N) 1 Try.f46 6 n [.b true, .b true, .b true, .b true, .b true, .b true] (by kernel_rfl) (ya (pT h6x) (ya (pT h7x) (ya (pT h8x) (ya (pT h9x) (yt (yt yz))))))) (fun h9x => ?_)
    refine br (p := ((List.getD h0 (0 + (Int.toNat s14k6)) (0 : Int)) > (15 : Int))) (fun h10x => finL (ctx46 N) 1 Try.f46 6 n [.b true, .b true, .b true, .b false, .b false, .b true] (by kernel_rfl) (ya (pT h6x) (ya (pT h7x) (ya (pT h8x) (ya (pF h9x) (yf (ya (pT h10x) yz))))))) (fun h10x => ?_)
    refine br (p := ((List.getD h0 (0 + (Int.toNat s14k6)) (0 : Int)) > (0 : Int))) (fun h11x => (ih (IntKind.wrap IntKind.i64 (s5k6 + (Int.fdiv (32768 : Int) ((2 : Int) ^ (Min.min (Int.toNat (List.getD h0 (0 + (Int.toNat s14k6)) (0 : Int))) 64))))) (IntKind.wrap IntKind.i64 (s14k6 + (1 : Int))) (List.set h2k6 (Int.toNat (List.getD h0 (0 + (Int.toNat s14k6)) (0 : Int))) (IntKind.wrap IntKind.i64 ((List.getD h2k6 (Int.toNat (List.getD h0 (0 + (Int.toNat s14k6)) (0 : Int))) (0 : Int)) + (1 : Int))))).trans (finL (ctx46 N) 1 Try.f46 6 n [.b true, .b true, .b true, .b false, .b false, .b false, .b true, .b true, .b true, .b true, .b true, .b false] (by kernel_rfl) (ya (pT h6x) (ya (pT h7x) (ya (pT h8x) (ya (pF h9x) (yf (ya (pF h10x) (ya (pT h11x) (ya (pT (show (((0 : Int) ≤ (List.getD h0 (0 + (Int.toNat s14k6)) (0 : Int))) ∧ ((Int.toNat (List.getD h0 (0 + (Int.toNat s14k6)) (0 : Int))) < 16)) by omega)) (ya (pT (show ((Int.toNat (List.getD h0 (0 + (Int.toNat s14k6)) (0 : Int))) < 16) by omega)) (ya (pT (show (((0 : Int) ≤ (List.getD h0 (0 + (Int.toNat s14k6)) (0 : Int))) ∧ ((Int.toNat (List.getD h0 (0 + (Int.toNat s14k6)) (0 : Int))) < 16)) by omega)) (ya (pT (show ((Int.toNat (List.getD h0 (0 + (Int.toNat s14k6)) (0 : Int))) < 16) by omega)) (ya (pF h9x) yz)))))))))))))) (fun h11x => ?_)
    exact (ih s5k6 (IntKind.wrap IntKind.i64 (s14k6 + (1 : Int))) h2k6).trans (finL (ctx46 N) 1 Try.f46 6 n [.b true, .b true, .b true, .b false, .b false, .b false, .b false] (by kernel_rfl) (ya (pT h6x) (ya (pT h7x) (ya (pT h8x) (ya (pF h9x) (yf (ya (pF h10x) (ya (pF h11x) yz))))))))
/-! 46 -/
inductive Rf46 where
  | r0 (res_0 : List Int) (res_1 : Int)
def f46 (N : Nat) (a0n : Nat) (h0 : List Int) : Option Rf46 :=
 if (((a0n : Nat) : Int) > (320 : Int)) then
  some (.r0 (List.replicate 16 (0 : Int)) (1 : Int))
 else
 (match lf46_6 N a0n h0 N (0 : Int) (0 : Int) (List.replicate 16 (0 : Int)) with
 | none => none
 | some (.e0 h1l12) =>
  some (.r0 h1l12 (1 : Int))
 | some (.e1 s5l12 h2l12) =>
  if (s5l12 > (32768 : Int)) then
   some (.r0 h2l12 (4 : Int))
  else
  some (.r0 h2l12 (0 : Int)))
def rf46 (a0n : Nat) (a0nl : Bool) (h0rw : Bool) (h0 : List Int) : Option Rf46 → Option (AV × Heap)
  | none => none
  | some (.r0 res_0 res_1) => some ((AV.tuple [(AV.agg [(Seg.run IntKind.i64 16 res_0)]), (AV.int IntKind.i64 res_1)]), [(Blk.dyn h0rw 3 [(Col.ints IntKind.i64 h0)])])
theorem ef46 (N : Nat) (a0n : Nat) (a0nl : Bool) (h0rw : Bool) (h0 : List Int) : rf46 a0n a0nl h0rw h0 (f46 N a0n h0) = sem46 N [(AV.slice 0 0 0 a0n 1 a0nl true)] [(Blk.dyn h0rw 3 [(Col.ints IntKind.i64 h0)])] := by
  unfold f46
  refine br (p := (((a0n : Nat) : Int) > (320 : Int))) (fun h0x => finF (ctx46 N) Try.f46 [.b true] (by kernel_rfl) (ya (pT h0x) yz)) (fun h0x => ?_)
  cases ho12 : lf46_6 N a0n h0 N (0 : Int) (0 : Int) (List.replicate 16 (0 : Int)) with
  | none => exact finF (ctx46 N) Try.f46 [.b false, .out (qlf46_6 a0n a0nl h0rw h0 none)] (by kernel_rfl) (ya (pF h0x) (ya (ys (elf46_6 N a0n a0nl h0rw h0 N (0 : Int) (0 : Int) (List.replicate 16 (0 : Int))) ho12) yz))
  | some o =>
    cases o with
    | e0 h1l12 =>
      dsimp only
      exact finF (ctx46 N) Try.f46 [.b false, .out (qlf46_6 a0n a0nl h0rw h0 (some (.e0 h1l12)))] (by kernel_rfl) (ya (pF h0x) (ya (ys (elf46_6 N a0n a0nl h0rw h0 N (0 : Int) (0 : Int) (List.replicate 16 (0 : Int))) ho12) yz))
    | e1 s5l12 h2l12 =>
      dsimp only
      refine br (p := (s5l12 > (32768 : Int))) (fun h13x => finF (ctx46 N) Try.f46 [.b false, .out (qlf46_6 a0n a0nl h0rw h0 (some (.e1 s5l12 h2l12))), .b true] (by kernel_rfl) (ya (pF h0x) (ya (ys (elf46_6 N a0n a0nl h0rw h0 N (0 : Int) (0 : Int) (List.replicate 16 (0 : Int))) ho12) (ya (pT h13x) yz)))) (fun h13x => ?_)
      exact finF (ctx46 N) Try.f46 [.b false, .out (qlf46_6 a0n a0nl h0rw h0 (some (.e1 s5l12 h2l12))), .b false] (by kernel_rfl) (ya (pF h0x) (ya (ys (elf46_6 N a0n a0nl h0rw h0 N (0 : Int) (0 : Int) (List.replicate 16 (0 : Int))) ho12) (ya (pF h13x) yz)))
/-! 24, loop 6 -/
inductive Qlf24_6 where
  | e0 (h1 : List Int)
def slf24_6 (N : Nat) (res_0c0 : List Int) (n : Nat) (go : Int → List Int → Option Qlf24_6) (s7k6 : Int) (h2k6 : List Int) : Option Qlf24_6 :=
 if (s7k6 < (15 : Int)) then
  if (((0 : Int) ≤ s7k6) ∧ ((Int.toNat s7k6) < 16)) then
   if (((0 : Int) ≤ (IntKind.wrap IntKind.i64 (s7k6 + (1 : Int)))) ∧ ((Int.toNat (IntKind.wrap IntKind.i64 (s7k6 + (1 : Int)))) < 16)) then
    go (IntKind.wrap IntKind.i64 (s7k6 + (1 : Int))) (List.set h2k6 (Int.toNat (IntKind.wrap IntKind.i64 (s7k6 + (1 : Int)))) (IntKind.wrap IntKind.i64 ((IntKind.wrap IntKind.i64 ((List.getD h2k6 (Int.toNat s7k6) (0 : Int)) + (List.getD res_0c0 (Int.toNat s7k6) (0 : Int)))) * (2 : Int))))
   else
    none
  else
   none
 else
  some (.e0 h2k6)
def lf24_6 (N : Nat) (res_0c0 : List Int) : Nat → Int → List Int → Option Qlf24_6
  | 0, _, _ => none
  | n + 1, s7k6, h2k6 => slf24_6 N res_0c0 n (lf24_6 N res_0c0 n) s7k6 h2k6
def qlf24_6 (a0n : Nat) (a0nl : Bool) (h0rw : Bool) (h0 : List Int) (res_0c0 : List Int) : Option Qlf24_6 → Out
  | none => none
  | some (.e0 h1) => some ((XT.exit 0), (St.mk [(0, (AV.slice 0 0 0 a0n 1 a0nl true)), (6, (AV.ptr 1 0 0 1))] [(Blk.dyn h0rw 3 [(Col.ints IntKind.i64 h0)]), (Blk.segs true 68 [(Seg.run IntKind.i64 16 h1)])]))
theorem elf24_6 (N : Nat) (a0n : Nat) (a0nl : Bool) (h0rw : Bool) (h0 : List Int) (res_0c0 : List Int) : ∀ (n : Nat) (s7k6 : Int) (h2k6 : List Int), qlf24_6 a0n a0nl h0rw h0 res_0c0 (lf24_6 N res_0c0 n s7k6 h2k6) = lp (ctx24 N) 1 Try.f24 6 n (St.mk [(0, (AV.slice 0 0 0 a0n 1 a0nl true)), (4, (AV.ptr 1 0 0 1)), (6, (AV.ptr 2 0 0 1)), (7, (AV.int IntKind.i64 s7k6))] [(Blk.dyn h0rw 3 [(Col.ints IntKind.i64 h0)]), (Blk.segs true 68 [(Seg.run IntKind.i64 16 res_0c0)]), (Blk.segs true 68 [(Seg.run IntKind.i64 16 h2k6)])]) := by
  intro n
  induction n with
  | zero => intros; kernel_rfl
  | succ n ih =>
    intro s7k6 h2k6
    rw [lf24_6]
    unfold slf24_6
    refine br (p := (s7k6 < (15 : Int))) (fun h2x => ?_) (fun h2x => finL (ctx24 N) 1 Try.f24 6 n [.b false] (by kernel_rfl) (ya (pF h2x) yz))
    refine br (p := (((0 : Int) ≤ s7k6) ∧ ((Int.toNat s7k6) < 16))) (fun h3x => ?_) (fun h3x => finL (ctx24 N) 1 Try.f24 6 n [.b true, .b false] (by kernel_rfl) (ya (pT h2x) (ya (pF h3x) yz)))
    refine br (p := (((0 : Int) ≤ (IntKind.wrap IntKind.i64 (s7k6 + (1 : Int)))) ∧ ((Int.toNat (IntKind.wrap IntKind.i64 (s7k6 + (1 : Int)))) < 16))) (fun h4x => (ih (IntKind.wrap IntKind.i64 (s7k6 + (1 : Int))) (List.set h2k6 (Int.toNat (IntKind.wrap IntKind.i64 (s7k6 + (1 : Int)))) (IntKind.wrap IntKind.i64 ((IntKind.wrap IntKind.i64 ((List.getD h2k6 (Int.toNat s7k6) (0 : Int)) + (List.getD res_0c0 (Int.toNat s7k6) (0 : Int)))) * (2 : Int))))).trans (finL (ctx24 N) 1 Try.f24 6 n [.b true, .b true, .b true, .b true, .b true, .b false, .b true, .b true] (by kernel_rfl) (ya (pT h2x) (ya (pT h3x) (ya (pT (show ((Int.toNat s7k6) < 16) by omega)) (ya (pT h3x) (ya (pT (show ((Int.toNat s7k6) < 16) by omega)) (yf (ya (pT h4x) (ya (pT (show ((Int.toNat (IntKind.wrap IntKind.i64 (s7k6 + (1 : Int)))) < 16) by omega)) yz)))))))))) (fun h4x => ?_)
    exact finL (ctx24 N) 1 Try.f24 6 n [.b true, .b true, .b true, .b true, .b true, .b false, .b false] (by kernel_rfl) (ya (pT h2x) (ya (pT h3x) (ya (pT (show ((Int.toNat s7k6) < 16) by omega)) (ya (pT h3x) (ya (pT (show ((Int.toNat s7k6) < 16) by omega)) (yf (ya (pF h4x) yz)))))))
/-! 24, loop 11 -/
inductive Qlf24_11 where
  | e0 (h1 : List Int)
def slf24_11 (N : Nat) (a0n : Nat) (h0 : List Int) (n : Nat) (go : Int → List Int → List Int → Option Qlf24_11) (s39k11 : Int) (h1k11 : List Int) (h2k11 : List Int) : Option Qlf24_11 :=
 if (s39k11 < ((a0n : Nat) : Int)) then
  if (((0 : Int) ≤ s39k11) ∧ ((Int.toNat s39k11) < a0n)) then
   if ((0 + (Int.toNat s39k11)) < (List.length h0)) then
    if ((List.getD h0 (0 + (Int.toNat s39k11)) (0 : Int)) > (0 : Int)) then
     if (((0 : Int) ≤ (List.getD h0 (0 + (Int.toNat s39k11)) (0 : Int))) ∧ ((Int.toNat (List.getD h0 (0 + (Int.toNat s39k11)) (0 : Int))) < 16)) then
      if ((0 + (Int.toNat s39k11)) < (List.length h2k11)) then
       go (IntKind.wrap IntKind.i64 (s39k11 + (1 : Int))) (List.set h1k11 (Int.toNat (List.getD h0 (0 + (Int.toNat s39k11)) (0 : Int))) (IntKind.wrap IntKind.i64 ((List.getD h1k11 (Int.toNat (List.getD h0 (0 + (Int.toNat s39k11)) (0 : Int))) (0 : Int)) + (1 : Int)))) (List.set h2k11 (0 + (Int.toNat s39k11)) (List.getD h1k11 (Int.toNat (List.getD h0 (0 + (Int.toNat s39k11)) (0 : Int))) (0 : Int)))
      else
       none
     else
      none
    else
     go (IntKind.wrap IntKind.i64 (s39k11 + (1 : Int))) h1k11 h2k11
   else
    none
  else
   none
 else
  some (.e0 h2k11)
def lf24_11 (N : Nat) (a0n : Nat) (h0 : List Int) : Nat → Int → List Int → List Int → Option Qlf24_11
  | 0, _, _, _ => none
  | n + 1, s39k11, h1k11, h2k11 => slf24_11 N a0n h0 n (lf24_11 N a0n h0 n) s39k11 h1k11 h2k11
def qlf24_11 (a0n : Nat) (a0nl : Bool) (h0rw : Bool) (h0 : List Int) : Option Qlf24_11 → Out
  | none => none
  | some (.e0 h1) => some ((XT.exit 2), (St.mk [(8, (AV.slice 1 0 0 a0n 1 false true))] [(Blk.dyn h0rw 3 [(Col.ints IntKind.i64 h0)]), (Blk.dyn true 3 [(Col.ints IntKind.i64 h1)])]))
theorem elf24_11 (N : Nat) (a0n : Nat) (a0nl : Bool) (h0rw : Bool) (h0 : List Int) : ∀ (n : Nat) (s39k11 : Int) (h1k11 : List Int) (h2k11 : List Int), qlf24_11 a0n a0nl h0rw h0 (lf24_11 N a0n h0 n s39k11 h1k11 h2k11) = lp (ctx24 N) 1 Try.f24 11 n (St.mk [(6, (AV.ptr 1 0 0 1)), (8, (AV.slice 2 0 0 a0n 1 false true)), (37, (AV.slice 0 0 0 a0n 1 a0nl true)), (38, (AV.int IntKind.i64 ((a0n : Nat) : Int))), (39, (AV.int IntKind.i64 s39k11))] [(Blk.dyn h0rw 3 [(Col.ints IntKind.i64 h0)]), (Blk.segs true 68 [(Seg.run IntKind.i64 16 h1k11)]), (Blk.dyn true 3 [(Col.ints IntKind.i64 h2k11)])]) := by
  intro n
  induction n with
  | zero => intros; kernel_rfl
  | succ n ih =>
    intro s39k11 h1k11 h2k11
    rw [lf24_11]
    unfold slf24_11
    refine br (p := (s39k11 < ((a0n : Nat) : Int))) (fun h12x => ?_) (fun h12x => finL (ctx24 N) 1 Try.f24 11 n [.b false] (by kernel_rfl) (ya (pF h12x) yz))
    refine br (p := (((0 : Int) ≤ s39k11) ∧ ((Int.toNat s39k11) < a0n))) (fun h13x => ?_) (fun h13x => finL (ctx24 N) 1 Try.f24 11 n [.b true, .b false] (by kernel_rfl) (ya (pT h12x) (ya (pF h13x) yz)))
    refine br (p := ((0 + (Int.toNat s39k11)) < (List.length h0))) (fun h14x => ?_) (fun h14x => finL (ctx24 N) 1 Try.f24 11 n [.b true, .b true, .b false] (by kernel_rfl) (ya (pT h12x) (ya (pT h13x) (ya (pF h14x) yz))))
    refine br (p := ((List.getD h0 (0 + (Int.toNat s39k11)) (0 : Int)) > (0 : Int))) (fun h15x => ?_) (fun h15x => (ih (IntKind.wrap IntKind.i64 (s39k11 + (1 : Int))) h1k11 h2k11).trans (finL (ctx24 N) 1 Try.f24 11 n [.b true, .b true, .b true, .b false] (by kernel_rfl) (ya (pT h12x) (ya (pT h13x) (ya (pT h14x) (ya (pF h15x) yz))))))
    refine br (p := (((0 : Int) ≤ (List.getD h0 (0 + (Int.toNat s39k11)) (0 : Int))) ∧ ((Int.toNat (List.getD h0 (0 + (Int.toNat s39k11)) (0 : Int))) < 16))) (fun h16x => ?_) (fun h16x => finL (ctx24 N) 1 Try.f24 11 n [.b true, .b true, .b true, .b true, .b false] (by kernel_rfl) (ya (pT h12x) (ya (pT h13x) (ya (pT h14x) (ya (pT h15x) (ya (pF h16x) yz))))))
    refine br (p := ((0 + (Int.toNat s39k11)) < (List.length h2k11))) (fun h17x => (ih (IntKind.wrap IntKind.i64 (s39k11 + (1 : Int))) (List.set h1k11 (Int.toNat (List.getD h0 (0 + (Int.toNat s39k11)) (0 : Int))) (IntKind.wrap IntKind.i64 ((List.getD h1k11 (Int.toNat (List.getD h0 (0 + (Int.toNat s39k11)) (0 : Int))) (0 : Int)) + (1 : Int)))) (List.set h2k11 (0 + (Int.toNat s39k11)) (List.getD h1k11 (Int.toNat (List.getD h0 (0 + (Int.toNat s39k11)) (0 : Int))) (0 : Int)))).trans (finL (ctx24 N) 1 Try.f24 11 n [.b true, .b true, .b true, .b true, .b true, .b true, .b true, .b true, .b true, .b true, .b true, .b true] (by kernel_rfl) (ya (pT h12x) (ya (pT h13x) (ya (pT h14x) (ya (pT h15x) (ya (pT h16x) (ya (pT (show ((Int.toNat (List.getD h0 (0 + (Int.toNat s39k11)) (0 : Int))) < 16) by omega)) (ya (pT h13x) (ya (pT h17x) (ya (pT h16x) (ya (pT (show ((Int.toNat (List.getD h0 (0 + (Int.toNat s39k11)) (0 : Int))) < 16) by omega)) (ya (pT h16x) (ya (pT (show ((Int.toNat (List.getD h0 (0 + (Int.toNat s39k11)) (0 : Int))) < 16) by omega)) yz)))))))))))))) (fun h17x => ?_)
    exact finL (ctx24 N) 1 Try.f24 11 n [.b true, .b true, .b true, .b true, .b true, .b true, .b true, .b false] (by kernel_rfl) (ya (pT h12x) (ya (pT h13x) (ya (pT h14x) (ya (pT h15x) (ya (pT h16x) (ya (pT (show ((Int.toNat (List.getD h0 (0 + (Int.toNat s39k11)) (0 : Int))) < 16) by omega)) (ya (pT h13x) (ya (pF h17x) yz))))))))
/-! 24 -/
inductive Rf24 where
  | r0 (res_0n : Nat) (res_0nl : Bool) (res_1 : Int) (h1 : List Int)
def f24 (N : Nat) (a0n : Nat) (h0 : List Int) : Option Rf24 :=
 (match f46 N a0n h0 with
 | none => none
 | some (.r0 res_0c0 res_1c0) =>
  if (res_1c0 = (0 : Int)) then
   (match lf24_6 N res_0c0 N (1 : Int) (List.replicate 16 (0 : Int)) with
   | none => none
   | some (.e0 h1l5) =>
    if (((0 : Int) ≤ ((a0n : Nat) : Int)) ∧ ((((a0n : Nat) : Int) ≤ ((a0n : Nat) : Int)) ∧ (((a0n : Nat) : Int) ≤ (1099511627776 : Int)))) then
     (match lf24_11 N a0n h0 N (0 : Int) h1l5 (List.replicate a0n (0 : Int)) with
     | none => none
     | some (.e0 h1l18) =>
      some (.r0 a0n false (0 : Int) h1l18))
    else
     none)
  else
   some (.r0 0 true res_1c0 ([] : List Int)))
def rf24 (a0n : Nat) (a0nl : Bool) (h0rw : Bool) (h0 : List Int) : Option Rf24 → Option (AV × Heap)
  | none => none
  | some (.r0 res_0n res_0nl res_1 h1) => some ((AV.tuple [(AV.slice 1 0 0 res_0n 1 res_0nl true), (AV.int IntKind.i64 res_1)]), [(Blk.dyn h0rw 3 [(Col.ints IntKind.i64 h0)]), (Blk.dyn true 3 [(Col.ints IntKind.i64 h1)])])
theorem ef24 (N : Nat) (a0n : Nat) (a0nl : Bool) (h0rw : Bool) (h0 : List Int) : rf24 a0n a0nl h0rw h0 (f24 N a0n h0) = sem24 N [(AV.slice 0 0 0 a0n 1 a0nl true)] [(Blk.dyn h0rw 3 [(Col.ints IntKind.i64 h0)])] := by
  unfold f24
  cases hc0 : f46 N a0n h0 with
  | none => exact finF (ctx24 N) Try.f24 [.call (rf46 a0n a0nl h0rw h0 none)] (by kernel_rfl) (ya (ys (ef46 N a0n a0nl h0rw h0) hc0) yz)
  | some o =>
    cases o with
    | r0 res_0c0 res_1c0 =>
      dsimp only
      refine br (p := (res_1c0 = (0 : Int))) (fun h1x => ?_) (fun h1x => finF (ctx24 N) Try.f24 [.call (rf46 a0n a0nl h0rw h0 (some (.r0 res_0c0 res_1c0))), .b true] (by kernel_rfl) (ya (ys (ef46 N a0n a0nl h0rw h0) hc0) (ya (pNX h1x) yz)))
      cases ho5 : lf24_6 N res_0c0 N (1 : Int) (List.replicate 16 (0 : Int)) with
      | none => exact finF (ctx24 N) Try.f24 [.call (rf46 a0n a0nl h0rw h0 (some (.r0 res_0c0 res_1c0))), .b false, .out (qlf24_6 a0n a0nl h0rw h0 res_0c0 none)] (by kernel_rfl) (ya (ys (ef46 N a0n a0nl h0rw h0) hc0) (ya (pX h1x) (ya (ys (elf24_6 N a0n a0nl h0rw h0 res_0c0 N (1 : Int) (List.replicate 16 (0 : Int))) ho5) yz)))
      | some o =>
        cases o with
        | e0 h1l5 =>
          dsimp only
          refine br (p := (((0 : Int) ≤ ((a0n : Nat) : Int)) ∧ ((((a0n : Nat) : Int) ≤ ((a0n : Nat) : Int)) ∧ (((a0n : Nat) : Int) ≤ (1099511627776 : Int))))) (fun h6x => ?_) (fun h6x => finF (ctx24 N) Try.f24 [.call (rf46 a0n a0nl h0rw h0 (some (.r0 res_0c0 res_1c0))), .b false, .out (qlf24_6 a0n a0nl h0rw h0 res_0c0 (some (.e0 h1l5))), .b false] (by kernel_rfl) (ya (ys (ef46 N a0n a0nl h0rw h0) hc0) (ya (pX h1x) (ya (ys (elf24_6 N a0n a0nl h0rw h0 res_0c0 N (1 : Int) (List.replicate 16 (0 : Int))) ho5) (ya (pF h6x) yz)))))
          cases ho18 : lf24_11 N a0n h0 N (0 : Int) h1l5 (List.replicate a0n (0 : Int)) with
          | none => exact finF (ctx24 N) Try.f24 [.call (rf46 a0n a0nl h0rw h0 (some (.r0 res_0c0 res_1c0))), .b false, .out (qlf24_6 a0n a0nl h0rw h0 res_0c0 (some (.e0 h1l5))), .b true, .out (qlf24_11 a0n a0nl h0rw h0 none)] (by kernel_rfl) (ya (ys (ef46 N a0n a0nl h0rw h0) hc0) (ya (pX h1x) (ya (ys (elf24_6 N a0n a0nl h0rw h0 res_0c0 N (1 : Int) (List.replicate 16 (0 : Int))) ho5) (ya (pT h6x) (ya (ys (elf24_11 N a0n a0nl h0rw h0 N (0 : Int) h1l5 (List.replicate a0n (0 : Int))) ho18) yz)))))
          | some o =>
            cases o with
            | e0 h1l18 =>
              dsimp only
              exact finF (ctx24 N) Try.f24 [.call (rf46 a0n a0nl h0rw h0 (some (.r0 res_0c0 res_1c0))), .b false, .out (qlf24_6 a0n a0nl h0rw h0 res_0c0 (some (.e0 h1l5))), .b true, .out (qlf24_11 a0n a0nl h0rw h0 (some (.e0 h1l18)))] (by kernel_rfl) (ya (ys (ef46 N a0n a0nl h0rw h0) hc0) (ya (pX h1x) (ya (ys (elf24_6 N a0n a0nl h0rw h0 res_0c0 N (1 : Int) (List.replicate 16 (0 : Int))) ho5) (ya (pT h6x) (ya (ys (elf24_11 N a0n a0nl h0rw h0 N (0 : Int) h1l5 (List.replicate a0n (0 : Int))) ho18) yz)))))
/-! 36 -/
inductive Rf36 where
  | r0 (resnl : Bool) (h1 : List Int)
def f36 (N : Nat) (a0n : Nat) (a0nl : Bool) (h0 : List Int) : Option Rf36 :=
 if (a0nl = true) then
  some (.r0 true ([] : List Int))
 else
 if (a0n = (List.length h0)) then
  if ((0 = 0) ∧ ((0 + (List.length h0)) ≤ 1099511627776)) then
   some (.r0 ((Go.Abs.isEmptyCols [(Col.ints IntKind.i64 h0)]) && false) (([] : List Int) ++ h0))
  else
  none
 else
  none
def rf36 (a0n : Nat) (a0nl : Bool) (h0rw : Bool) (h0 : List Int) : Option Rf36 → Option (AV × Heap)
  | none => none
  | some (.r0 resnl h1) => some ((AV.slice 1 0 0 (List.length h1) 1 resnl true), [(Blk.dyn h0rw 3 [(Col.ints IntKind.i64 h0)]), (Blk.dyn true 3 [(Col.ints IntKind.i64 h1)])])
theorem ef36 (N : Nat) (a0n : Nat) (a0nl : Bool) (h0rw : Bool) (h0 : List Int) : rf36 a0n a0nl h0rw h0 (f36 N a0n a0nl h0) = sem36 N [(AV.slice 0 0 0 a0n 1 a0nl true)] [(Blk.dyn h0rw 3 [(Col.ints IntKind.i64 h0)])] := by
  unfold f36
  refine br (p := (a0nl = true)) (fun h0x => finF (ctx36 N) Try.f36 [.b true] (by kernel_rfl) (ya h0x yz)) (fun h0x => ?_)
  refine br (p := (a0n = (List.length h0))) (fun h1x => ?_) (fun h1x => finF (ctx36 N) Try.f36 [.b false, .b false] (by kernel_rfl) (ya (pNB h0x) (ya (pF h1x) yz)))
  refine br (p := ((0 = 0) ∧ ((0 + (List.length h0)) ≤ 1099511627776))) (fun h2x => finF (ctx36 N) Try.f36 [.b false, .b true, .b true] (by kernel_rfl) (ya (pNB h0x) (ya (pT h1x) (ya (pT h2x) yz)))) (fun h2x => ?_)
  exact finF (ctx36 N) Try.f36 [.b false, .b true, .b false] (by kernel_rfl) (ya (pNB h0x) (ya (pT h1x) (ya (pF h2x) yz)))
/-! 11, loop 10 -/
inductive Qlf11_10 where
  | e0 (s7 : Int) (h1_0 : List Int) (h1_3nl : Bool) (h4 : List Int)
def slf11_10 (N : Nat) (a0n : Nat) (h0 : List Int) (s24k7 : Int) (n : Nat) (go : Int → Int → List Int → Bool → List Int → Option Qlf11_10) (s7k10 : Int) (s29k10 : Int) (h1_0k10 : List Int) (h1_3nlk10 : Bool) (h4k10 : List Int) : Option Qlf11_10 :=
 if (s29k10 < ((a0n : Nat) : Int)) then
  if (((0 : Int) ≤ s29k10) ∧ ((Int.toNat s29k10) < a0n)) then
   if ((0 + (Int.toNat s29k10)) < (List.length h0)) then
    if ((List.getD h0 (0 + (Int.toNat s29k10)) (0 : Int)) = (IntKind.wrap IntKind.i64 (s24k7 + (1 : Int)))) then
     if (((List.length h4k10) = (List.length h4k10)) ∧ (((List.length h4k10) + (List.length [s29k10])) ≤ 1099511627776)) then
      if (((0 : Int) ≤ (List.getD h0 (0 + (Int.toNat s29k10)) (0 : Int))) ∧ ((Int.toNat (List.getD h0 (0 + (Int.toNat s29k10)) (0 : Int))) < 16)) then
       if ((List.getD h0 (0 + (Int.toNat s29k10)) (0 : Int)) < (0 : Int)) then
        none
       else
       go (IntKind.wrap IntKind.i64 (s7k10 + (Int.fdiv (32768 : Int) ((2 : Int) ^ (Min.min (Int.toNat (List.getD h0 (0 + (Int.toNat s29k10)) (0 : Int))) 64))))) (IntKind.wrap IntKind.i64 (s29k10 + (1 : Int))) (List.set h1_0k10 (Int.toNat (List.getD h0 (0 + (Int.toNat s29k10)) (0 : Int))) (IntKind.wrap IntKind.i64 ((List.getD h1_0k10 (Int.toNat (List.getD h0 (0 + (Int.toNat s29k10)) (0 : Int))) (0 : Int)) + (1 : Int)))) false (h4k10 ++ [s29k10])
      else
       none
     else
      none
    else
     go s7k10 (IntKind.wrap IntKind.i64 (s29k10 + (1 : Int))) h1_0k10 h1_3nlk10 h4k10
   else
    none
  else
   none
 else
  some (.e0 s7k10 h1_0k10 h1_3nlk10 h4k10)
def lf11_10 (N : Nat) (a0n : Nat) (h0 : List Int) (s24k7 : Int) : Nat → Int → Int → List Int → Bool → List Int → Option Qlf11_10
  | 0, _, _, _, _, _ => none
  | n + 1, s7k10, s29k10, h1_0k10, h1_3nlk10, h4k10 => slf11_10 N a0n h0 s24k7 n (lf11_10 N a0n h0 s24k7 n) s7k10 s29k10 h1_0k10 h1_3nlk10 h4k10
def qlf11_10 (a0n : Nat) (a0nl : Bool) (h0rw : Bool) (h0 : List Int) (res_0nc0 : Nat) (res_0nlc0 : Bool) (h1c0 : List Int) (resnlc2 : Bool) (h1c2 : List Int) (s24k7 : Int) : Option Qlf11_10 → Out
  | none => none
  | some (.e0 s7 h1_0 h1_3nl h4) => some ((XT.exit 2), (St.mk [(0, (AV.slice 0 0 0 a0n 1 a0nl true)), (6, (AV.ptr 1 0 0 1)), (7, (AV.int IntKind.i64 s7)), (24, (AV.int IntKind.i64 s24k7))] [(Blk.dyn h0rw 3 [(Col.ints IntKind.i64 h0)]), (Blk.segs true 70 [(Seg.run IntKind.i64 16 h1_0), (Seg.cell (AV.slice 2 0 0 (List.length h1c2) 1 resnlc2 true)), (Seg.cell (AV.slice 3 0 0 res_0nc0 1 res_0nlc0 true)), (Seg.cell (AV.slice 4 0 0 (List.length h4) 1 h1_3nl true))]), (Blk.dyn true 3 [(Col.ints IntKind.i64 h1c2)]), (Blk.dyn true 3 [(Col.ints IntKind.i64 h1c0)]), (Blk.dyn true 3 [(Col.ints IntKind.i64 h4)])]))
theorem elf11_10 (N : Nat) (a0n : Nat) (a0nl : Bool) (h0rw : Bool) (h0 : List Int) (res_0nc0 : Nat) (res_0nlc0 : Bool) (h1c0 : List Int) (resnlc2 : Bool) (h1c2 : List Int) (s24k7 : Int) : ∀ (n : Nat) (s7k10 : Int) (s29k10 : Int) (h1_0k10 : List Int) (h1_3nlk10 : Bool) (h4k10 : List Int), qlf11_10 a0n a0nl h0rw h0 res_0nc0 res_0nlc0 h1c0 resnlc2 h1c2 s24k7 (lf11_10 N a0n h0 s24k7 n s7k10 s29k10 h1_0k10 h1_3nlk10 h4k10) = lp (ctx11 N) 1 Try.f11 10 n (St.mk [(0, (AV.slice 0 0 0 a0n 1 a0nl true)), (6, (AV.ptr 1 0 0 1)), (7, (AV.int IntKind.i64 s7k10)), (8, (AV.int IntKind.i64 s24k7)), (24, (AV.int IntKind.i64 s24k7)), (27, (AV.slice 0 0 0 a0n 1 a0nl true)), (28, (AV.int IntKind.i64 ((a0n : Nat) : Int))), (29, (AV.int IntKind.i64 s29k10))] [(Blk.dyn h0rw 3 [(Col.ints IntKind.i64 h0)]), (Blk.segs true 70 [(Seg.run IntKind.i64 16 h1_0k10), (Seg.cell (AV.slice 2 0 0 (List.length h1c2) 1 resnlc2 true)), (Seg.cell (AV.slice 3 0 0 res_0nc0 1 res_0nlc0 true)), (Seg.cell (AV.slice 4 0 0 (List.length h4k10) 1 h1_3nlk10 true))]), (Blk.dyn true 3 [(Col.ints IntKind.i64 h1c2)]), (Blk.dyn true 3 [(Col.ints IntKind.i64 h1c0)]), (Blk.dyn true 3 [(Col.ints IntKind.i64 h4k10)])]) := by
  intro n
  induction n with
  | zero => intros; kernel_rfl
  | succ n ih =>
    intro s7k10 s29k10 h1_0k10 h1_3nlk10 h4k10
    rw [lf11_10]
    unfold slf11_10
    refine br (p := (s29k10 < ((a0n : Nat) : Int))) (fun h21x => ?_) (fun h21x => finL (ctx11 N) 1 Try.f11 10 n [.b false] (by kernel_rfl) (ya (pF h21x) yz))
    refine br (p := (((0 : Int) ≤ s29k10) ∧ ((Int.toNat s29k10) < a0n))) (fun h22x => ?_) (fun h22x => finL (ctx11 N) 1 Try.f11 10 n [.b true, .b false] (by kernel_rfl) (ya (pT h21x) (ya (pF h22x) yz)))
    refine br (p := ((0 + (Int.toNat s29k10)) < (List.length h0))) (fun h23x => ?_) (fun h23x => finL (ctx11 N) 1 Try.f11 10 n [.b true, .b true, .b false] (by kernel_rfl) (ya (pT h21x) (ya (pT h22x) (ya (pF h23x) yz))))
    refine br (p := ((List.getD h0 (0 + (Int.toNat s29k10)) (0 : Int)) = (IntKind.wrap IntKind.i64 (s24k7 + (1 : Int))))) (fun h24x => ?_) (fun h24x => (ih s7k10 (IntKind.wrap IntKind.i64 (s29k10 + (1 : Int))) h1_0k10 h1_3nlk10 h4k10).trans (finL (ctx11 N) 1 Try.f11 10 n [.b true, .b true, .b true, .b false] (by kernel_rfl) (ya (pT h21x) (ya (pT h22x) (ya (pT h23x) (ya (pNE h24x) yz))))))
    refine br (p := (((List.length h4k10) = (List.length h4k10)) ∧ (((List.length h4k10) + (List.length [s29k10])) ≤ 1099511627776))) (fun h25x => ?_) (fun h25x => finL (ctx11 N) 1 Try.f11 10 n [.b true, .b true, .b true, .b true, .b true, .b false] (by kernel_rfl) (ya (pT h21x) (ya (pT h22x) (ya (pT h23x) (ya (pE h24x) (yt (ya (pF h25x) yz)))))))
    refine br (p := (((0 : Int) ≤ (List.getD h0 (0 + (Int.toNat s29k10)) (0 : Int))) ∧ ((Int.toNat (List.getD h0 (0 + (Int.toNat s29k10)) (0 : Int))) < 16))) (fun h26x => ?_) (fun h26x => finL (ctx11 N) 1 Try.f11 10 n [.b true, .b true, .b true, .b true, .b true, .b true, .b false] (by kernel_rfl) (ya (pT h21x) (ya (pT h22x) (ya (pT h23x) (ya (pE h24x) (yt (ya (pT h25x) (ya (pF h26x) yz))))))))
    refine br (p := ((List.getD h0 (0 + (Int.toNat s29k10)) (0 : Int)) < (0 : Int))) (fun h27x => finL (ctx11 N) 1 Try.f11 10 n [.b true, .b true, .b true, .b true, .b true, .b true, .b true, .b true, .b true, .b true, .b true] (by kernel_rfl) (ya (pT h21x) (ya (pT h22x) (ya (pT h23x) (ya (pE h24x) (yt (ya (pT h25x) (ya (pT h26x) (ya (pT (show ((Int.toNat (List.getD h0 (0 + (Int.toNat s29k10)) (0 : Int))) < 16) by omega)) (ya (pT h26x) (ya (pT (show ((Int.toNat (List.getD h0 (0 + (Int.toNat s29k10)) (0 : Int))) < 16) by omega)) (ya (pT h27x) yz)))))))))))) (fun h27x => ?_)
    exact (ih (IntKind.wrap IntKind.i64 (s7k10 + (Int.fdiv (32768 : Int) ((2 : Int) ^ (Min.min (Int.toNat (List.getD h0 (0 + (Int.toNat s29k10)) (0 : Int))) 64))))) (IntKind.wrap IntKind.i64 (s29k10 + (1 : Int))) (List.set h1_0k10 (Int.toNat (List.getD h0 (0 + (Int.toNat s29k10)) (0 : Int))) (IntKind.wrap IntKind.i64 ((List.getD h1_0k10 (Int.toNat (List.getD h0 (0 + (Int.toNat s29k10)) (0 : Int))) (0 : Int)) + (1 : Int)))) false (h4k10 ++ [s29k10])).trans (finL (ctx11 N) 1 Try.f11 10 n [.b true, .b true, .b true, .b true, .b true, .b true, .b true, .b true, .b true, .b true, .b false] (by kernel_rfl) (ya (pT h21x) (ya (pT h22x) (ya (pT h23x) (ya (pE h24x) (yt (ya (pT h25x) (ya (pT h26x) (ya (pT (show ((Int.toNat (List.getD h0 (0 + (Int.toNat s29k10)) (0 : Int))) < 16) by omega)) (ya (pT h26x) (ya (pT (show ((Int.toNat (List.getD h0 (0 + (Int.toNat s29k10)) (0 : Int))) < 16) by omega)) (ya (pF h27x) yz))))))))))))
/-! 11, loop 7 -/
inductive Qlf11_7 where
  | e0 (s7 : Int) (h1_0 : List Int) (h1_3nl : Bool) (h4 : List Int)
def slf11_7 (N : Nat) (a0n : Nat) (h0 : List Int) (n : Nat) (go : Int → Int → List Int → Bool → List Int → Option Qlf11_7) (s7k7 : Int) (s24k7 : Int) (h1_0k7 : List Int) (h1_3nlk7 : Bool) (h4k7 : List Int) : Option Qlf11_7 :=
 if (s24k7 < (15 : Int)) then
  (match lf11_10 N a0n h0 s24k7 N s7k7 (0 : Int) h1_0k7 h1_3nlk7 h4k7 with
  | none => none
  | some (.e0 s7l28 h1_0l28 h1_3nll28 h4l28) =>
   go s7l28 (IntKind.wrap IntKind.i64 (s24k7 + (1 : Int))) h1_0l28 h1_3nll28 h4l28)
 else
  some (.e0 s7k7 h1_0k7 h1_3nlk7 h4k7)
def lf11_7 (N : Nat) (a0n : Nat) (h0 : List Int) : Nat → Int → Int → List Int → Bool → List Int → Option Qlf11_7
  | 0, _, _, _, _, _ => none
  | n + 1, s7k7, s24k7, h1_0k7, h1_3nlk7, h4k7 => slf11_7 N a0n h0 n (lf11_7 N a0n h0 n) s7k7 s24k7 h1_0k7 h1_3nlk7 h4k7
def qlf11_7 (a0n : Nat) (a0nl : Bool) (h0rw : Bool) (h0 : List Int) (res_0nc0 : Nat) (res_0nlc0 : Bool) (h1c0 : List Int) (resnlc2 : Bool) (h1c2 : List Int) : Option Qlf11_7 → Out
  | none => none
  | some (.e0 s7 h1_0 h1_3nl h4) => some ((XT.exit 0), (St.mk [(6, (AV.ptr 1 0 0 1)), (7, (AV.int IntKind.i64 s7))] [(Blk.dyn h0rw 3 [(Col.ints IntKind.i64 h0)]), (Blk.segs true 70 [(Seg.run IntKind.i64 16 h1_0), (Seg.cell (AV.slice 2 0 0 (List.length h1c2) 1 resnlc2 true)), (Seg.cell (AV.slice 3 0 0 res_0nc0 1 res_0nlc0 true)), (Seg.cell (AV.slice 4 0 0 (List.length h4) 1 h1_3nl true))]), (Blk.dyn true 3 [(Col.ints IntKind.i64 h1c2)]), (Blk.dyn true 3 [(Col.ints IntKind.i64 h1c0)]), (Blk.dyn true 3 [(Col.ints IntKind.i64 h4)])]))
theorem elf11_7 (N : Nat) (a0n : Nat) (a0nl : Bool) (h0rw : Bool) (h0 : List Int) (res_0nc0 : Nat) (res_0nlc0 : Bool) (h1c0 : List Int) (resnlc2 : Bool) (h1c2 : List Int) : ∀ (n : Nat) (s7k7 : Int) (s24k7 : Int) (h1_0k7 : List Int) (h1_3nlk7 : Bool) (h4k7 : List Int), qlf11_7 a0n a0nl h0rw h0 res_0nc0 res_0nlc0 h1c0 resnlc2 h1c2 (lf11_7 N a0n h0 n s7k7 s24k7 h1_0k7 h1_3nlk7 h4k7) = lp (ctx11 N) 1 Try.f11 7 n (St.mk [(0, (AV.slice 0 0 0 a0n 1 a0nl true)), (6, (AV.ptr 1 0 0 1)), (7, (AV.int IntKind.i64 s7k7)), (24, (AV.int IntKind.i64 s24k7))] [(Blk.dyn h0rw 3 [(Col.ints IntKind.i64 h0)]), (Blk.segs true 70 [(Seg.run IntKind.i64 16 h1_0k7), (Seg.cell (AV.slice 2 0 0 (List.length h1c2) 1 resnlc2 true)), (Seg.cell (AV.slice 3 0 0 res_0nc0 1 res_0nlc0 true)), (Seg.cell (AV.slice 4 0 0 (List.length h4k7) 1 h1_3nlk7 true))]), (Blk.dyn true 3 [(Col.ints IntKind.i64 h1c2)]), (Blk.dyn true 3 [(Col.ints IntKind.i64 h1c0)]), (Blk.dyn true 3 [(Col.ints IntKind.i64 h4k7)])]) := by
  intro n
  induction n with
  | zero => intros; kernel_rfl
  | succ n ih =>
    intro s7k7 s24k7 h1_0k7 h1_3nlk7 h4k7
    rw [lf11_7]
    unfold slf11_7
    refine br (p := (s24k7 < (15 : Int))) (fun h14x => ?_) (fun h14x => finL (ctx11 N) 1 Try.f11 7 n [.b false] (by kernel_rfl) (ya (pF h14x) yz))
    cases ho28 : lf11_10 N a0n h0 s24k7 N s7k7 (0 : Int) h1_0k7 h1_3nlk7 h4k7 with
    | none => exact finL (ctx11 N) 1 Try.f11 7 n [.b true, .out (qlf11_10 a0n a0nl h0rw h0 res_0nc0 res_0nlc0 h1c0 resnlc2 h1c2 s24k7 none)] (by kernel_rfl) (ya (pT h14x) (ya (ys (elf11_10 N a0n a0nl h0rw h0 res_0nc0 res_0nlc0 h1c0 resnlc2 h1c2 s24k7 N s7k7 (0 : Int) h1_0k7 h1_3nlk7 h4k7) ho28) yz))
    | some o =>
      cases o with
      | e0 s7l28 h1_0l28 h1_3nll28 h4l28 =>
        dsimp only
        exact (ih s7l28 (IntKind.wrap IntKind.i64 (s24k7 + (1 : Int))) h1_0l28 h1_3nll28 h4l28).trans (finL (ctx11 N) 1 Try.f11 7 n [.b true, .out (qlf11_10 a0n a0nl h0rw h0 res_0nc0 res_0nlc0 h1c0 resnlc2 h1c2 s24k7 (some (.e0 s7l28 h1_0l28 h1_3nll28 h4l28)))] (by kernel_rfl) (ya (pT h14x) (ya (ys (elf11_10 N a0n a0nl h0rw h0 res_0nc0 res_0nlc0 h1c0 resnlc2 h1c2 s24k7 N s7k7 (0 : Int) h1_0k7 h1_3nlk7 h4k7) ho28) yz)))
/-! 11 -/
inductive Rf11 where
  | r0 (res_1 : Int)
  | r1 (h1_0 : List Int) (h1_1nl : Bool) (h1_2n : Nat) (h1_2nl : Bool) (h1_3nl : Bool) (h2 : List Int) (h3 : List Int) (h4 : List Int)
def f11 (N : Nat) (a0n : Nat) (a0nl : Bool) (h0 : List Int) : Option Rf11 :=
 (match f24 N a0n h0 with
 | none => none
 | some (.r0 res_0nc0 res_0nlc0 res_1c0 h1c0) =>
  if (res_1c0 = (0 : Int)) then
   (match f36 N a0n a0nl h0 with
   | none => none
   | some (.r0 resnlc2 h1c2) =>
    (match lf11_7 N a0n h0 N (0 : Int) (0 : Int) (List.replicate 16 (0 : Int)) true ([] : List Int) with
    | none => none
    | some (.e0 s7l29 h1_0l29 h1_3nll29 h4l29) =>
     if (s7l29 < (32768 : Int)) then
      if ((((List.length h4l29) : Nat) : Int) > (0 : Int)) then
       if ((((List.length h4l29) : Nat) : Int) > (1 : Int)) then
        some (.r0 (4 : Int))
       else
        if ((List.getD h1_0l29 1 (0 : Int)) = (0 : Int)) then
         some (.r0 (4 : Int))
        else
        some (.r1 h1_0l29 resnlc2 res_0nc0 res_0nlc0 h1_3nll29 h1c2 h1c0 h4l29)
      else
       some (.r1 h1_0l29 resnlc2 res_0nc0 res_0nlc0 h1_3nll29 h1c2 h1c0 h4l29)
     else
      some (.r1 h1_0l29 resnlc2 res_0nc0 res_0nlc0 h1_3nll29 h1c2 h1c0 h4l29)))
  else
   some (.r0 res_1c0))
def rf11 (a0n : Nat) (a0nl : Bool) (h0rw : Bool) (h0 : List Int) : Option Rf11 → Option (AV × Heap)
  | none => none
  | some (.r0 res_1) => some ((AV.tuple [AV.nilptr, (AV.int IntKind.i64 res_1)]), [(Blk.dyn h0rw 3 [(Col.ints IntKind.i64 h0)])])
  | some (.r1 h1_0 h1_1nl h1_2n h1_2nl h1_3nl h2 h3 h4) => some ((AV.tuple [(AV.ptr 1 0 0 1), (AV.int IntKind.i64 (0 : Int))]), [(Blk.dyn h0rw 3 [(Col.ints IntKind.i64 h0)]), (Blk.segs true 70 [(Seg.run IntKind.i64 16 h1_0), (Seg.cell (AV.slice 2 0 0 (List.length h2) 1 h1_1nl true)), (Seg.cell (AV.slice 3 0 0 h1_2n 1 h1_2nl true)), (Seg.cell (AV.slice 4 0 0 (List.length h4) 1 h1_3nl true))]), (Blk.dyn true 3 [(Col.ints IntKind.i64 h2)]), (Blk.dyn true 3 [(Col.ints IntKind.i64 h3)]), (Blk.dyn true 3 [(Col.ints IntKind.i64 h4)])])
theorem ef11 (N : Nat) (a0n : Nat) (a0nl : Bool) (h0rw : Bool) (h0 : List Int) : rf11 a0n a0nl h0rw h0 (f11 N a0n a0nl h0) = sem11 N [(AV.slice 0 0 0 a0n 1 a0nl true)] [(Blk.dyn h0rw 3 [(Col.ints IntKind.i64 h0)])] := by
  unfold f11
  cases hc0 : f24 N a0n h0 with
  | none => exact finF (ctx11 N) Try.f11 [.call (rf24 a0n a0nl h0rw h0 none)] (by kernel_rfl) (ya (ys (ef24 N a0n a0nl h0rw h0) hc0) yz)
  | some o =>
    cases o with
    | r0 res_0nc0 res_0nlc0 res_1c0 h1c0 =>
      dsimp only
      refine br (p := (res_1c0 = (0 : Int))) (fun h1x => ?_) (fun h1x => finF (ctx11 N) Try.f11 [.call (rf24 a0n a0nl h0rw h0 (some (.r0 res_0nc0 res_0nlc0 res_1c0 h1c0))), .b true] (by kernel_rfl) (ya (ys (ef24 N a0n a0nl h0rw h0) hc0) (ya (pNX h1x) yz)))
      cases hc2 : f36 N a0n a0nl h0 with
      | none => exact finF (ctx11 N) Try.f11 [.call (rf24 a0n a0nl h0rw h0 (some (.r0 res_0nc0 res_0nlc0 res_1c0 h1c0))), .b false, .call (rf36 a0n a0nl h0rw h0 none)] (by kernel_rfl) (ya (ys (ef24 N a0n a0nl h0rw h0) hc0) (ya (pX h1x) (ya (ys (ef36 N a0n a0nl h0rw h0) hc2) yz)))
      | some o =>
        cases o with
        | r0 resnlc2 h1c2 =>
          dsimp only
          cases ho29 : lf11_7 N a0n h0 N (0 : Int) (0 : Int) (List.replicate 16 (0 : Int)) true ([] : List Int) with
          | none => exact finF (ctx11 N) Try.f11 [.call (rf24 a0n a0nl h0rw h0 (some (.r0 res_0nc0 res_0nlc0 res_1c0 h1c0))), .b false, .call (rf36 a0n a0nl h0rw h0 (some (.r0 resnlc2 h1c2))), .out (qlf11_7 a0n a0nl h0rw h0 res_0nc0 res_0nlc0 h1c0 resnlc2 h1c2 none)] (by kernel_rfl) (ya (ys (ef24 N a0n a0nl h0rw h0) hc0) (ya (pX h1x) (ya (ys (ef36 N a0n a0nl h0rw h0) hc2) (ya (ys (elf11_7 N a0n a0nl h0rw h0 res_0nc0 res_0nlc0 h1c0 resnlc2 h1c2 N (0 : Int) (0 : Int) (List.replicate 16 (0 : Int)) true ([] : List Int)) ho29) yz))))
          | some o =>
            cases o with
            | e0 s7l29 h1_0l29 h1_3nll29 h4l29 =>
              dsimp only
              refine br (p := (s7l29 < (32768 : Int))) (fun h30x => ?_) (fun h30x => finF (ctx11 N) Try.f11 [.call (rf24 a0n a0nl h0rw h0 (some (.r0 res_0nc0 res_0nlc0 res_1c0 h1c0))), .b false, .call (rf36 a0n a0nl h0rw h0 (some (.r0 resnlc2 h1c2))), .out (qlf11_7 a0n a0nl h0rw h0 res_0nc0 res_0nlc0 h1c0 resnlc2 h1c2 (some (.e0 s7l29 h1_0l29 h1_3nll29 h4l29))), .b false, .b false, .b false, .b false, .b false, .b false, .b false, .b false, .b false, .b false, .b false, .b false, .b false, .b false, .b false] (by kernel_rfl) (ya (ys (ef24 N a0n a0nl h0rw h0) hc0) (ya (pX h1x) (ya (ys (ef36 N a0n a0nl h0rw h0) hc2) (ya (ys (elf11_7 N a0n a0nl h0rw h0 res_0nc0 res_0nlc0 h1c0 resnlc2 h1c2 N (0 : Int) (0 : Int) (List.replicate 16 (0 : Int)) true ([] : List Int)) ho29) (ya (pF h30x) (yf (yf (yf (yf (yf (yf (yf (yf (yf (yf (yf (yf (yf (yf yz))))))))))))))))))))
              refine br (p := ((((List.length h4l29) : Nat) : Int) > (0 : Int))) (fun h31x => ?_) (fun h31x => finF (ctx11 N) Try.f11 [.call (rf24 a0n a0nl h0rw h0 (some (.r0 res_0nc0 res_0nlc0 res_1c0 h1c0))), .b false, .call (rf36 a0n a0nl h0rw h0 (some (.r0 resnlc2 h1c2))), .out (qlf11_7 a0n a0nl h0rw h0 res_0nc0 res_0nlc0 h1c0 resnlc2 h1c2 (some (.e0 s7l29 h1_0l29 h1_3nll29 h4l29))), .b true, .b true, .b true, .b true, .b true, .b true, .b false, .b false, .b false, .b false, .b false, .b false, .b false, .b false, .b false] (by kernel_rfl) (ya (ys (ef24 N a0n a0nl h0rw h0) hc0) (ya (pX h1x) (ya (ys (ef36 N a0n a0nl h0rw h0) hc2) (ya (ys (elf11_7 N a0n a0nl h0rw h0 res_0nc0 res_0nlc0 h1c0 resnlc2 h1c2 N (0 : Int) (0 : Int) (List.replicate 16 (0 : Int)) true ([] : List Int)) ho29) (ya (pT h30x) (yt (yt (yt (yt (yt (ya (pF h31x) (yf (yf (yf (yf (yf (yf (yf (yf yz))))))))))))))))))))
              refine br (p := ((((List.length h4l29) : Nat) : Int) > (1 : Int))) (fun h32x => finF (ctx11 N) Try.f11 [.call (rf24 a0n a0nl h0rw h0 (some (.r0 res_0nc0 res_0nlc0 res_1c0 h1c0))), .b false, .call (rf36 a0n a0nl h0rw h0 (some (.r0 resnlc2 h1c2))), .out (qlf11_7 a0n a0nl h0rw h0 res_0nc0 res_0nlc0 h1c0 resnlc2 h1c2 (some (.e0 s7l29 h1_0l29 h1_3nll29 h4l29))), .b true, .b true, .b true, .b true, .b true, .b true, .b true, .b true, .b true, .b true, .b true, .b true, .b true, .b true, .b true, .b true, .b true, .b true, .b true, .b true, .b true] (by kernel_rfl) (ya (ys (ef24 N a0n a0nl h0rw h0) hc0) (ya (pX h1x) (ya (ys (ef36 N a0n a0nl h0rw h0) hc2) (ya (ys (elf11_7 N a0n a0nl h0rw h0 res_0nc0 res_0nlc0 h1c0 resnlc2 h1c2 N (0 : Int) (0 : Int) (List.replicate 16 (0 : Int)) true ([] : List Int)) ho29) (ya (pT h30x) (yt (yt (yt (yt (yt (ya (pT h31x) (yt (yt (yt (yt (yt (yt (ya (pT h32x) (yt (yt (yt (yt (yt (yt (yt yz)))))))))))))))))))))))))) (fun h32x => ?_)
              refine br (p := ((List.getD h1_0l29 1 (0 : Int)) = (0 : Int))) (fun h33x => finF (ctx11 N) Try.f11 [.call (rf24 a0n a0nl h0rw h0 (some (.r0 res_0nc0 res_0nlc0 res_1c0 h1c0))), .b false, .call (rf36 a0n a0nl h0rw h0 (some (.r0 resnlc2 h1c2))), .out (qlf11_7 a0n a0nl h0rw h0 res_0nc0 res_0nlc0 h1c0 resnlc2 h1c2 (some (.e0 s7l29 h1_0l29 h1_3nll29 h4l29))), .b true, .b true, .b true, .b true, .b true, .b true, .b true, .b true, .b true, .b true, .b true, .b true, .b true, .b false, .b false, .b false, .b false, .b true, .b false, .b true, .b false, .b true, .b true] (by kernel_rfl) (ya (ys (ef24 N a0n a0nl h0rw h0) hc0) (ya (pX h1x) (ya (ys (ef36 N a0n a0nl h0rw h0) hc2) (ya (ys (elf11_7 N a0n a0nl h0rw h0 res_0nc0 res_0nlc0 h1c0 resnlc2 h1c2 N (0 : Int) (0 : Int) (List.replicate 16 (0 : Int)) true ([] : List Int)) ho29) (ya (pT h30x) (yt (yt (yt (yt (yt (ya (pT h31x) (yt (yt (yt (yt (yt (yt (ya (pF h32x) (yf (yf (yf (yt (yf (yt (yf (yt (ya (pE h33x) yz)))))))))))))))))))))))))))) (fun h33x => ?_)
              exact finF (ctx11 N) Try.f11 [.call (rf24 a0n a0nl h0rw h0 (some (.r0 res_0nc0 res_0nlc0 res_1c0 h1c0))), .b false, .call (rf36 a0n a0nl h0rw h0 (some (.r0 resnlc2 h1c2))), .out (qlf11_7 a0n a0nl h0rw h0 res_0nc0 res_0nlc0 h1c0 resnlc2 h1c2 (some (.e0 s7l29 h1_0l29 h1_3nll29 h4l29))), .b true, .b true, .b true, .b true, .b true, .b true, .b true, .b true, .b true, .b true, .b true, .b true, .b true, .b false, .b false, .b false, .b false, .b true, .b false, .b true, .b false, .b true, .b false] (by kernel_rfl) (ya (ys (ef24 N a0n a0nl h0rw h0) hc0) (ya (pX h1x) (ya (ys (ef36 N a0n a0nl h0rw h0) hc2) (ya (ys (elf11_7 N a0n a0nl h0rw h0 res_0nc0 res_0nlc0 h1c0 resnlc2 h1c2 N (0 : Int) (0 : Int) (List.replicate 16 (0 : Int)) true ([] : List Int)) ho29) (ya (pT h30x) (yt (yt (yt (yt (yt (ya (pT h31x) (yt (yt (yt (yt (yt (yt (ya (pF h32x) (yf (yf (yf (yt (yf (yt (yf (yt (ya (pNE h33x) yz)))))))))))))))))))))))))))
/-! 12 -/
inductive Rf12 where
  | r0
def f12 (N : Nat) : Option Rf12 :=
 some .r0
def rf12 : Option Rf12 → Option (AV × Heap)
  | none => none
  | some .r0 => some ((AV.ptr 0 0 0 1), [(Blk.segs true 72 [(Seg.cell (AV.slice 1 0 0 0 1 true true)), (Seg.cell (AV.int IntKind.i64 (0 : Int))), (Seg.cell (AV.int IntKind.i64 (0 : Int)))]), (Blk.dyn true 5 [(Col.ints IntKind.u8 ([] : List Int))])])
theorem ef12 (N : Nat) : rf12 (f12 N) = sem12 N ([] : List AV) ([] : List Blk) := by
  unfold f12
  exact finF (ctx12 N) Try.f12 [] (by kernel_rfl) yz
/-! 40 -/
inductive Rf40 where
  | r0
def f40 (N : Nat) (a0 : Int) (h1 : Int) (h2_1n : Nat) (h2_2n : Nat) (h3 : List Int) (h4 : List Int) : Option Rf40 :=
 if (((0 : Int) ≤ h1) ∧ ((Int.toNat h1) < h2_2n)) then
  if ((0 + (Int.toNat h1)) < (List.length h4)) then
   if (((0 : Int) ≤ h1) ∧ ((Int.toNat h1) < h2_1n)) then
    if ((0 + (Int.toNat h1)) < (List.length h3)) then
     if ((IntKind.wrap IntKind.i64 ((IntKind.wrap IntKind.i64 ((List.getD h3 (0 + (Int.toNat h1)) (0 : Int)) - (1 : Int))) - a0)) < (0 : Int)) then
      none
     else
     some .r0
    else
     none
   else
    none
  else
   none
 else
  none
def rf40 (a0 : Int) (h0rw : Bool) (h1rw : Bool) (h1 : Int) (h2rw : Bool) (h2_0 : List Int) (h2_1n : Nat) (h2_1nl : Bool) (h2_2n : Nat) (h2_2nl : Bool) (h2_3n : Nat) (h2_3nl : Bool) (h3rw : Bool) (h3 : List Int) (h4rw : Bool) (h4 : List Int) (h5rw : Bool) (h5 : List Int) : Option Rf40 → Option (AV × Heap)
  | none => none
  | some .r0 => some ((AV.int IntKind.i64 (Go.Abs.bits IntKind.i64 (fun z21_0 z21_1 => (z21_0 &&& z21_1)) (Int.fdiv (List.getD h4 (0 + (Int.toNat h1)) (0 : Int)) ((2 : Int) ^ (Min.min (Int.toNat (IntKind.wrap IntKind.i64 ((IntKind.wrap IntKind.i64 ((List.getD h3 (0 + (Int.toNat h1)) (0 : Int)) - (1 : Int))) - a0))) 64))) (1 : Int))), [(Blk.segs h0rw 23 [(Seg.cell (AV.ptr 2 0 0 1))]), (Blk.segs h1rw 3 [(Seg.cell (AV.int IntKind.i64 h1))]), (Blk.segs h2rw 70 [(Seg.run IntKind.i64 16 h2_0), (Seg.cell (AV.slice 3 0 0 h2_1n 1 h2_1nl true)), (Seg.cell (AV.slice 4 0 0 h2_2n 1 h2_2nl true)), (Seg.cell (AV.slice 5 0 0 h2_3n 1 h2_3nl true))]), (Blk.dyn h3rw 3 [(Col.ints IntKind.i64 h3)]), (Blk.dyn h4rw 3 [(Col.ints IntKind.i64 h4)]), (Blk.dyn h5rw 3 [(Col.ints IntKind.i64 h5)])])
theorem ef40 (N : Nat) (a0 : Int) (h0rw : Bool) (h1rw : Bool) (h1 : Int) (h2rw : Bool) (h2_0 : List Int) (h2_1n : Nat) (h2_1nl : Bool) (h2_2n : Nat) (h2_2nl : Bool) (h2_3n : Nat) (h2_3nl : Bool) (h3rw : Bool) (h3 : List Int) (h4rw : Bool) (h4 : List Int) (h5rw : Bool) (h5 : List Int) : rf40 a0 h0rw h1rw h1 h2rw h2_0 h2_1n h2_1nl h2_2n h2_2nl h2_3n h2_3nl h3rw h3 h4rw h4 h5rw h5 (f40 N a0 h1 h2_1n h2_2n h3 h4) = sem40 N [(AV.int IntKind.i64 a0), (AV.ptr 0 0 0 1), (AV.ptr 1 0 0 1)] [(Blk.segs h0rw 23 [(Seg.cell (AV.ptr 2 0 0 1))]), (Blk.segs h1rw 3 [(Seg.cell (AV.int IntKind.i64 h1))]), (Blk.segs h2rw 70 [(Seg.run IntKind.i64 16 h2_0), (Seg.cell (AV.slice 3 0 0 h2_1n 1 h2_1nl true)), (Seg.cell (AV.slice 4 0 0 h2_2n 1 h2_2nl true)), (Seg.cell (AV.slice 5 0 0 h2_3n 1 h2_3nl true))]), (Blk.dyn h3rw 3 [(Col.ints IntKind.i64 h3)]), (Blk.dyn h4rw 3 [(Col.ints IntKind.i64 h4)]), (Blk.dyn h5rw 3 [(Col.ints IntKind.i64 h5)])] := by
  unfold f40
  refine br (p := (((0 : Int) ≤ h1) ∧ ((Int.toNat h1) < h2_2n))) (fun h0x => ?_) (fun h0x => finF (ctx40 N) Try.f40 [.b false] (by kernel_rfl) (ya (pF h0x) yz))
  refine br (p := ((0 + (Int.toNat h1)) < (List.length h4))) (fun h1x => ?_) (fun h1x => finF (ctx40 N) Try.f40 [.b true, .b false] (by kernel_rfl) (ya (pT h0x) (ya (pF h1x) yz)))
  refine br (p := (((0 : Int) ≤ h1) ∧ ((Int.toNat h1) < h2_1n))) (fun h2x => ?_) (fun h2x => finF (ctx40 N) Try.f40 [.b true, .b true, .b false] (by kernel_rfl) (ya (pT h0x) (ya (pT h1x) (ya (pF h2x) yz))))
  refine br (p := ((0 + (Int.toNat h1)) < (List.length h3))) (fun h3x => ?_) (fun h3x => finF (ctx40 N) Try.f40 [.b true, .b true, .b true, .b false] (by kernel_rfl) (ya (pT h0x) (ya (pT h1x) (ya (pT h2x) (ya (pF h3x) yz)))))
  refine br (p := ((IntKind.wrap IntKind.i64 ((IntKind.wrap IntKind.i64 ((List.getD h3 (0 + (Int.toNat h1)) (0 : Int)) - (1 : Int))) - a0)) < (0 : Int))) (fun h4x => finF (ctx40 N) Try.f40 [.b true, .b true, .b true, .b true, .b true] (by kernel_rfl) (ya (pT h0x) (ya (pT h1x) (ya (pT h2x) (ya (pT h3x) (ya (pT h4x) yz)))))) (fun h4x => ?_)
  exact finF (ctx40 N) Try.f40 [.b true, .b true, .b true, .b true, .b false] (by kernel_rfl) (ya (pT h0x) (ya (pT h1x) (ya (pT h2x) (ya (pT h3x) (ya (pF h4x) yz)))))
/-! 41, loop 7 -/
inductive Qlf41_7b where
  | e0
  | e1 (h0_1 : Int) (h0_2 : Int) (h2 : List Int)
def slf41_7 (N : Nat) (n : Nat) (go : Int → Int → List Int → Option Qlf41_7b) (h0_1k7v1 : Int) (h0_2k7v1 : Int) (h2k7v1 : List Int) : Option Qlf41_7b :=
 if (h0_2k7v1 ≥ (8 : Int)) then
  if (((List.length h2k7v1) = (List.length h2k7v1)) ∧ (((List.length h2k7v1) + (List.length [(IntKind.wrap IntKind.u8 h0_1k7v1)])) ≤ 1099511627776)) then
   go (Int.fdiv h0_1k7v1 (256 : Int)) (IntKind.wrap IntKind.i64 (h0_2k7v1 - (8 : Int))) (h2k7v1 ++ [(IntKind.wrap IntKind.u8 h0_1k7v1)])
  else
   none
 else
  some (.e1 h0_1k7v1 h0_2k7v1 h2k7v1)
def lf41_7 (N : Nat) : Nat → Int → Int → List Int → Option Qlf41_7b
  | 0, _, _, _ => none
  | n + 1, h0_1k7v1, h0_2k7v1, h2k7v1 => slf41_7 N n (lf41_7 N n) h0_1k7v1 h0_2k7v1 h2k7v1
def qlf41_7b (a1 : Int) (a2 : Int) (h0_0n : Nat) (h0_0nl : Bool) (h0_1 : Int) (h0_2 : Int) (h1 : List Int) : Option Qlf41_7b → Out
  | none => none
  | some .e0 => some ((XT.exit 1), (St.mk ([] : List (Nat × AV)) [(Blk.segs true 72 [(Seg.cell (AV.slice 1 0 0 h0_0n 1 h0_0nl true)), (Seg.cell (AV.int IntKind.i64 (Go.Abs.bits IntKind.i64 (fun z17_0 z17_1 => (z17_0 ||| z17_1)) h0_1 (IntKind.wrap IntKind.i64 (a1 * ((2 : Int) ^ (Min.min (Int.toNat h0_2) 64))))))), (Seg.cell (AV.int IntKind.i64 (IntKind.wrap IntKind.i64 (h0_2 + a2))))]), (Blk.dyn true 5 [(Col.ints IntKind.u8 h1)])]))
  | some (.e1 h0_1 h0_2 h2) => some ((XT.exit 1), (St.mk ([] : List (Nat × AV)) [(Blk.segs true 72 [(Seg.cell (AV.slice 2 0 0 (List.length h2) 1 false true)), (Seg.cell (AV.int IntKind.i64 h0_1)), (Seg.cell (AV.int IntKind.i64 h0_2))]), Blk.dead, (Blk.dyn true 5 [(Col.ints IntKind.u8 h2)])]))
theorem elf41_7 (N : Nat) (a1 : Int) (a2 : Int) (h0_0n : Nat) (h0_0nl : Bool) (h0_1 : Int) (h0_2 : Int) (h1 : List Int) : ∀ (n : Nat) (h0_1k7v1 : Int) (h0_2k7v1 : Int) (h2k7v1 : List Int), qlf41_7b a1 a2 h0_0n h0_0nl h0_1 h0_2 h1 (lf41_7 N n h0_1k7v1 h0_2k7v1 h2k7v1) = lp (ctx41 N) 2 Try.f41 7 n (St.mk [(0, (AV.ptr 0 0 0 1))] [(Blk.segs true 72 [(Seg.cell (AV.slice 2 0 0 (List.length h2k7v1) 1 false true)), (Seg.cell (AV.int IntKind.i64 h0_1k7v1)), (Seg.cell (AV.int IntKind.i64 h0_2k7v1))]), Blk.dead, (Blk.dyn true 5 [(Col.ints IntKind.u8 h2k7v1)])]) := by
  intro n
  induction n with
  | zero => intros; kernel_rfl
  | succ n ih =>
    intro h0_1k7v1 h0_2k7v1 h2k7v1
    rw [lf41_7]
    unfold slf41_7
    refine br (p := (h0_2k7v1 ≥ (8 : Int))) (fun h11x => ?_) (fun h11x => finL (ctx41 N) 2 Try.f41 7 n [.b false] (by kernel_rfl) (ya (pF h11x) yz))
    refine br (p := (((List.length h2k7v1) = (List.length h2k7v1)) ∧ (((List.length h2k7v1) + (List.length [(IntKind.wrap IntKind.u8 h0_1k7v1)])) ≤ 1099511627776))) (fun h12x => (ih (Int.fdiv h0_1k7v1 (256 : Int)) (IntKind.wrap IntKind.i64 (h0_2k7v1 - (8 : Int))) (h2k7v1 ++ [(IntKind.wrap IntKind.u8 h0_1k7v1)])).trans (finL (ctx41 N) 2 Try.f41 7 n [.b true, .b true, .b true, .b false] (by kernel_rfl) (ya (pT h11x) (yt (ya (pT h12x) (yf yz)))))) (fun h12x => ?_)
    exact finL (ctx41 N) 2 Try.f41 7 n [.b true, .b true, .b false] (by kernel_rfl) (ya (pT h11x) (yt (ya (pF h12x) yz)))
/-! 41, loop 7 -/
def slf41_7b (N : Nat) (a1 : Int) (a2 : Int) (h0_0n : Nat) (h0_1 : Int) (h0_2 : Int) (h1 : List Int) (n : Nat) (go : Option Qlf41_7b) : Option Qlf41_7b :=
 if ((IntKind.wrap IntKind.i64 (h0_2 + a2)) ≥ (8 : Int)) then
  if ((h0_0n = (List.length h1)) ∧ (((List.length h1) + (List.length [(IntKind.wrap IntKind.u8 (Go.Abs.bits IntKind.i64 (fun z17_0 z17_1 => (z17_0 ||| z17_1)) h0_1 (IntKind.wrap IntKind.i64 (a1 * ((2 : Int) ^ (Min.min (Int.toNat h0_2) 64))))))])) ≤ 1099511627776)) then
   lf41_7 N n (Int.fdiv (Go.Abs.bits IntKind.i64 (fun z18_0 z18_1 => (z18_0 ||| z18_1)) h0_1 (IntKind.wrap IntKind.i64 (a1 * ((2 : Int) ^ (Min.min (Int.toNat h0_2) 64))))) (256 : Int)) (IntKind.wrap IntKind.i64 ((IntKind.wrap IntKind.i64 (h0_2 + a2)) - (8 : Int))) (h1 ++ [(IntKind.wrap IntKind.u8 (Go.Abs.bits IntKind.i64 (fun z18_0 z18_1 => (z18_0 ||| z18_1)) h0_1 (IntKind.wrap IntKind.i64 (a1 * ((2 : Int) ^ (Min.min (Int.toNat h0_2) 64))))))])
  else
   none
 else
  some .e0
def lf41_7b (N : Nat) (a1 : Int) (a2 : Int) (h0_0n : Nat) (h0_1 : Int) (h0_2 : Int) (h1 : List Int) : Nat → Option Qlf41_7b
  | 0 => none
  | n + 1 => slf41_7b N a1 a2 h0_0n h0_1 h0_2 h1 n (lf41_7b N a1 a2 h0_0n h0_1 h0_2 h1 n)
theorem elf41_7b (N : Nat) (a1 : Int) (a2 : Int) (h0_0n : Nat) (h0_0nl : Bool) (h0_1 : Int) (h0_2 : Int) (h1 : List Int) : ∀ (n : Nat), qlf41_7b a1 a2 h0_0n h0_0nl h0_1 h0_2 h1 (lf41_7b N a1 a2 h0_0n h0_1 h0_2 h1 n) = lp (ctx41 N) 2 Try.f41 7 n (St.mk [(0, (AV.ptr 0 0 0 1))] [(Blk.segs true 72 [(Seg.cell (AV.slice 1 0 0 h0_0n 1 h0_0nl true)), (Seg.cell (AV.int IntKind.i64 (Go.Abs.bits IntKind.i64 (fun z17_0 z17_1 => (z17_0 ||| z17_1)) h0_1 (IntKind.wrap IntKind.i64 (a1 * ((2 : Int) ^ (Min.min (Int.toNat h0_2) 64))))))), (Seg.cell (AV.int IntKind.i64 (IntKind.wrap IntKind.i64 (h0_2 + a2))))]), (Blk.dyn true 5 [(Col.ints IntKind.u8 h1)])]) := by
  intro n
  induction n with
  | zero => intros; kernel_rfl
  | succ n ih =>
    intros
    rw [lf41_7b]
    unfold slf41_7b
    refine br (p := ((IntKind.wrap IntKind.i64 (h0_2 + a2)) ≥ (8 : Int))) (fun h9x => ?_) (fun h9x => finL (ctx41 N) 2 Try.f41 7 n [.b false] (by kernel_rfl) (ya (pF h9x) yz))
    refine br (p := ((h0_0n = (List.length h1)) ∧ (((List.length h1) + (List.length [(IntKind.wrap IntKind.u8 (Go.Abs.bits IntKind.i64 (fun z17_0 z17_1 => (z17_0 ||| z17_1)) h0_1 (IntKind.wrap IntKind.i64 (a1 * ((2 : Int) ^ (Min.min (Int.toNat h0_2) 64))))))])) ≤ 1099511627776))) (fun h10x => (elf41_7 N a1 a2 h0_0n h0_0nl h0_1 h0_2 h1 n (Int.fdiv (Go.Abs.bits IntKind.i64 (fun z18_0 z18_1 => (z18_0 ||| z18_1)) h0_1 (IntKind.wrap IntKind.i64 (a1 * ((2 : Int) ^ (Min.min (Int.toNat h0_2) 64))))) (256 : Int)) (IntKind.wrap IntKind.i64 ((IntKind.wrap IntKind.i64 (h0_2 + a2)) - (8 : Int))) (h1 ++ [(IntKind.wrap IntKind.u8 (Go.Abs.bits IntKind.i64 (fun z18_0 z18_1 => (z18_0 ||| z18_1)) h0_1 (IntKind.wrap IntKind.i64 (a1 * ((2 : Int) ^ (Min.min (Int.toNat h0_2) 64))))))])).trans (finL (ctx41 N) 2 Try.f41 7 n [.b true, .b true, .b true, .b false] (by kernel_rfl) (ya (pT h9x) (yt (ya (pT h10x) (yf yz)))))) (fun h10x => ?_)
    exact finL (ctx41 N) 2 Try.f41 7 n [.b true, .b true, .b false] (by kernel_rfl) (ya (pT h9x) (yt (ya (pF h10x) yz)))
/-! 41 -/
inductive Rf41 where
  | r0 (res : Int) (h0_1 : Int) (h0_2 : Int)
  | r1 (h0_1 : Int) (h0_2 : Int) (h2 : List Int)
def f41 (N : Nat) (a1 : Int) (a2 : Int) (h0_0n : Nat) (h0_1 : Int) (h0_2 : Int) (h1 : List Int) : Option Rf41 :=
 if (a2 < (0 : Int)) then
  some (.r0 (1 : Int) h0_1 h0_2)
 else
  if (a2 > (24 : Int)) then
   some (.r0 (1 : Int) h0_1 h0_2)
  else
   if (a1 < (0 : Int)) then
    some (.r0 (1 : Int) h0_1 h0_2)
   else
    if ((Int.fdiv a1 ((2 : Int) ^ (Min.min (Int.toNat a2) 64))) = (0 : Int)) then
     if (h0_2 < (0 : Int)) then
      none
     else
     (match lf41_7b N a1 a2 h0_0n h0_1 h0_2 h1 N with
     | none => none
     | some .e0 =>
      some (.r0 (0 : Int) (Go.Abs.bits IntKind.i64 (fun z15_0 z15_1 => (z15_0 ||| z15_1)) h0_1 (IntKind.wrap IntKind.i64 (a1 * ((2 : Int) ^ (Min.min (Int.toNat h0_2) 64))))) (IntKind.wrap IntKind.i64 (h0_2 + a2)))
     | some (.e1 h0_1l13 h0_2l13 h2l13) =>
      some (.r1 h0_1l13 h0_2l13 h2l13))
    else
     some (.r0 (1 : Int) h0_1 h0_2)
def rf41 (a1 : Int) (a2 : Int) (h0_0n : Nat) (h0_0nl : Bool) (h0_1 : Int) (h0_2 : Int) (h1 : List Int) : Option Rf41 → Option (AV × Heap)
  | none => none
  | some (.r0 res h0_1 h0_2) => some ((AV.int IntKind.i64 res), [(Blk.segs true 72 [(Seg.cell (AV.slice 1 0 0 h0_0n 1 h0_0nl true)), (Seg.cell (AV.int IntKind.i64 h0_1)), (Seg.cell (AV.int IntKind.i64 h0_2))]), (Blk.dyn true 5 [(Col.ints IntKind.u8 h1)])])
  | some (.r1 h0_1 h0_2 h2) => some ((AV.int IntKind.i64 (0 : Int)), [(Blk.segs true 72 [(Seg.cell (AV.slice 2 0 0 (List.length h2) 1 false true)), (Seg.cell (AV.int IntKind.i64 h0_1)), (Seg.cell (AV.int IntKind.i64 h0_2))]), Blk.dead, (Blk.dyn true 5 [(Col.ints IntKind.u8 h2)])])
theorem ef41 (N : Nat) (a1 : Int) (a2 : Int) (h0_0n : Nat) (h0_0nl : Bool) (h0_1 : Int) (h0_2 : Int) (h1 : List Int) : rf41 a1 a2 h0_0n h0_0nl h0_1 h0_2 h1 (f41 N a1 a2 h0_0n h0_1 h0_2 h1) = sem41 N [(AV.ptr 0 0 0 1), (AV.int IntKind.i64 a1), (AV.int IntKind.i64 a2)] [(Blk.segs true 72 [(Seg.cell (AV.slice 1 0 0 h0_0n 1 h0_0nl true)), (Seg.cell (AV.int IntKind.i64 h0_1)), (Seg.cell (AV.int IntKind.i64 h0_2))]), (Blk.dyn true 5 [(Col.ints IntKind.u8 h1)])] := by
  unfold f41
  refine br (p := (a2 < (0 : Int))) (fun h0x => finF (ctx41 N) Try.f41 [.b false, .b true, .b true, .b true, .b true, .b true, .b true, .b true, .b true, .b true] (by kernel_rfl) (yf (ya (pT h0x) (yt (yt (yt (yt (yt (yt (yt (yt yz))))))))))) (fun h0x => ?_)
  refine br (p := (a2 > (24 : Int))) (fun h1x => finF (ctx41 N) Try.f41 [.b false, .b false, .b false, .b true, .b true, .b true, .b true, .b true, .b true, .b true] (by kernel_rfl) (yf (ya (pF h0x) (yf (ya (pT h1x) (yt (yt (yt (yt (yt (yt yz))))))))))) (fun h1x => ?_)
  refine br (p := (a1 < (0 : Int))) (fun h2x => finF (ctx41 N) Try.f41 [.b false, .b false, .b false, .b false, .b false, .b true, .b true, .b true, .b true, .b true] (by kernel_rfl) (yf (ya (pF h0x) (yf (ya (pF h1x) (yf (ya (pT h2x) (yt (yt (yt (yt yz))))))))))) (fun h2x => ?_)
  refine br (p := ((Int.fdiv a1 ((2 : Int) ^ (Min.min (Int.toNat a2) 64))) = (0 : Int))) (fun h3x => ?_) (fun h3x => finF (ctx41 N) Try.f41 [.b false, .b false, .b false, .b false, .b false, .b false, .b false, .b false, .b false, .b false, .b true] (by kernel_rfl) (yf (ya (pF h0x) (yf (ya (pF h1x) (yf (ya (pF h2x) (yf (yf (ya (pF h0x) (yf (ya (pNX h3x) yz))))))))))))
  refine br (p := (h0_2 < (0 : Int))) (fun h4x => finF (ctx41 N) Try.f41 [.b false, .b false, .b false, .b false, .b false, .b false, .b false, .b false, .b false, .b false, .b false, .b true] (by kernel_rfl) (yf (ya (pF h0x) (yf (ya (pF h1x) (yf (ya (pF h2x) (yf (yf (ya (pF h0x) (yf (ya (pX h3x) (ya (pT h4x) yz))))))))))))) (fun h4x => ?_)
  cases ho13 : lf41_7b N a1 a2 h0_0n h0_1 h0_2 h1 N with
  | none => exact finF (ctx41 N) Try.f41 [.b false, .b false, .b false, .b false, .b false, .b false, .b false, .b false, .b false, .b false, .b false, .b false, .out (qlf41_7b a1 a2 h0_0n h0_0nl h0_1 h0_2 h1 none)] (by kernel_rfl) (yf (ya (pF h0x) (yf (ya (pF h1x) (yf (ya (pF h2x) (yf (yf (ya (pF h0x) (yf (ya (pX h3x) (ya (pF h4x) (ya (ys (elf41_7b N a1 a2 h0_0n h0_0nl h0_1 h0_2 h1 N) ho13) yz)))))))))))))
  | some o =>
    cases o with
    | e0 =>
      dsimp only
      exact finF (ctx41 N) Try.f41 [.b false, .b false, .b false, .b false, .b false, .b false, .b false, .b false, .b false, .b false, .b false, .b false, .out (qlf41_7b a1 a2 h0_0n h0_0nl h0_1 h0_2 h1 (some .e0))] (by kernel_rfl) (yf (ya (pF h0x) (yf (ya (pF h1x) (yf (ya (pF h2x) (yf (yf (ya (pF h0x) (yf (ya (pX h3x) (ya (pF h4x) (ya (ys (elf41_7b N a1 a2 h0_0n h0_0nl h0_1 h0_2 h1 N) ho13) yz)))))))))))))
    | e1 h0_1l13 h0_2l13 h2l13 =>
      dsimp only
      exact finF (ctx41 N) Try.f41 [.b false, .b false, .b false, .b false, .b false, .b false, .b false, .b false, .b false, .b false, .b false, .b false, .out (qlf41_7b a1 a2 h0_0n h0_0nl h0_1 h0_2 h1 (some (.e1 h0_1l13 h0_2l13 h2l13)))] (by kernel_rfl) (yf (ya (pF h0x) (yf (ya (pF h1x) (yf (ya (pF h2x) (yf (yf (ya (pF h0x) (yf (ya (pX h3x) (ya (pF h4x) (ya (ys (elf41_7b N a1 a2 h0_0n h0_0nl h0_1 h0_2 h1 N) ho13) yz)))))))))))))
/-! 15, loop 7 -/
inductive Qlf15_7b where
  | e0 (s6 : Int) (h1_1 : Int) (h1_2 : Int)
  | e1 (h1_1 : Int) (h1_2 : Int)
  | e2 (s6 : Int) (h1_1 : Int) (h1_2 : Int) (h6 : List Int)
  | e3 (h1_1 : Int) (h1_2 : Int) (h6 : List Int)
def slf15_7 (N : Nat) (a2 : Int) (h0_1n : Nat) (h0_2n : Nat) (h2 : List Int) (h3 : List Int) (n : Nat) (go : Int → Int → Int → List Int → Option Qlf15_7b) (s47k7v1 : Int) (h1_1k7v1 : Int) (h1_2k7v1 : Int) (h8k7v1 : List Int) : Option Qlf15_7b :=
 if (s47k7v1 < (List.getD h2 (0 + (Int.toNat a2)) (0 : Int))) then
  (match f40 N s47k7v1 a2 h0_1n h0_2n h2 h3 with
  | none => none
  | some .r0 =>
   (match f41 N (Go.Abs.bits IntKind.i64 (fun z29_0 z29_1 => (z29_0 &&& z29_1)) (Int.fdiv (List.getD h3 (0 + (Int.toNat a2)) (0 : Int)) ((2 : Int) ^ (Min.min (Int.toNat (IntKind.wrap IntKind.i64 ((IntKind.wrap IntKind.i64 ((List.getD h2 (0 + (Int.toNat a2)) (0 : Int)) - (1 : Int))) - s47k7v1))) 64))) (1 : Int)) (1 : Int) (List.length h8k7v1) h1_1k7v1 h1_2k7v1 h8k7v1 with
   | none => none
   | some (.r0 resc18 h0_1c18 h0_2c18) =>
    if (resc18 = (0 : Int)) then
     go (IntKind.wrap IntKind.i64 (s47k7v1 + (1 : Int))) h0_1c18 h0_2c18 h8k7v1
    else
    some (.e2 resc18 h0_1c18 h0_2c18 h8k7v1)
   | some (.r1 h0_1c18 h0_2c18 h2c18) =>
    go (IntKind.wrap IntKind.i64 (s47k7v1 + (1 : Int))) h0_1c18 h0_2c18 h2c18))
 else
  some (.e3 h1_1k7v1 h1_2k7v1 h8k7v1)
def lf15_7 (N : Nat) (a2 : Int) (h0_1n : Nat) (h0_2n : Nat) (h2 : List Int) (h3 : List Int) : Nat → Int → Int → Int → List Int → Option Qlf15_7b
  | 0, _, _, _, _ => none
  | n + 1, s47k7v1, h1_1k7v1, h1_2k7v1, h8k7v1 => slf15_7 N a2 h0_1n h0_2n h2 h3 n (lf15_7 N a2 h0_1n h0_2n h2 h3 n) s47k7v1 h1_1k7v1 h1_2k7v1 h8k7v1
def qlf15_7b (a2 : Int) (h0_0 : List Int) (h0_1n : Nat) (h0_1nl : Bool) (h0_2n : Nat) (h0_2nl : Bool) (h0_3n : Nat) (h0_3nl : Bool) (h1_0n : Nat) (h1_0nl : Bool) (h2 : List Int) (h3 : List Int) (h4 : List Int) (h5 : List Int) : Option Qlf15_7b → Out
  | none => none
  | some (.e0 s6 h1_1 h1_2) => some (XT.ret, (St.mk [(6, (AV.int IntKind.i64 s6))] [(Blk.segs true 70 [(Seg.run IntKind.i64 16 h0_0), (Seg.cell (AV.slice 2 0 0 h0_1n 1 h0_1nl true)), (Seg.cell (AV.slice 3 0 0 h0_2n 1 h0_2nl true)), (Seg.cell (AV.slice 4 0 0 h0_3n 1 h0_3nl true))]), (Blk.segs true 72 [(Seg.cell (AV.slice 5 0 0 h1_0n 1 h1_0nl true)), (Seg.cell (AV.int IntKind.i64 h1_1)), (Seg.cell (AV.int IntKind.i64 h1_2))]), (Blk.dyn true 3 [(Col.ints IntKind.i64 h2)]), (Blk.dyn true 3 [(Col.ints IntKind.i64 h3)]), (Blk.dyn true 3 [(Col.ints IntKind.i64 h4)]), (Blk.dyn true 5 [(Col.ints IntKind.u8 h5)])]))
  | some (.e1 h1_1 h1_2) => some ((XT.exit 1), (St.mk ([] : List (Nat × AV)) [(Blk.segs true 70 [(Seg.run IntKind.i64 16 h0_0), (Seg.cell (AV.slice 2 0 0 h0_1n 1 h0_1nl true)), (Seg.cell (AV.slice 3 0 0 h0_2n 1 h0_2nl true)), (Seg.cell (AV.slice 4 0 0 h0_3n 1 h0_3nl true))]), (Blk.segs true 72 [(Seg.cell (AV.slice 5 0 0 h1_0n 1 h1_0nl true)), (Seg.cell (AV.int IntKind.i64 h1_1)), (Seg.cell (AV.int IntKind.i64 h1_2))]), (Blk.dyn true 3 [(Col.ints IntKind.i64 h2)]), (Blk.dyn true 3 [(Col.ints IntKind.i64 h3)]), (Blk.dyn true 3 [(Col.ints IntKind.i64 h4)]), (Blk.dyn true 5 [(Col.ints IntKind.u8 h5)])]))
  | some (.e2 s6 h1_1 h1_2 h6) => some (XT.ret, (St.mk [(6, (AV.int IntKind.i64 s6))] [(Blk.segs true 70 [(Seg.run IntKind.i64 16 h0_0), (Seg.cell (AV.slice 2 0 0 h0_1n 1 h0_1nl true)), (Seg.cell (AV.slice 3 0 0 h0_2n 1 h0_2nl true)), (Seg.cell (AV.slice 4 0 0 h0_3n 1 h0_3nl true))]), (Blk.segs true 72 [(Seg.cell (AV.slice 6 0 0 (List.length h6) 1 false true)), (Seg.cell (AV.int IntKind.i64 h1_1)), (Seg.cell (AV.int IntKind.i64 h1_2))]), (Blk.dyn true 3 [(Col.ints IntKind.i64 h2)]), (Blk.dyn true 3 [(Col.ints IntKind.i64 h3)]), (Blk.dyn true 3 [(Col.ints IntKind.i64 h4)]), Blk.dead, (Blk.dyn true 5 [(Col.ints IntKind.u8 h6)])]))
  | some (.e3 h1_1 h1_2 h6) => some ((XT.exit 1), (St.mk ([] : List (Nat × AV)) [(Blk.segs true 70 [(Seg.run IntKind.i64 16 h0_0), (Seg.cell (AV.slice 2 0 0 h0_1n 1 h0_1nl true)), (Seg.cell (AV.slice 3 0 0 h0_2n 1 h0_2nl true)), (Seg.cell (AV.slice 4 0 0 h0_3n 1 h0_3nl true))]), (Blk.segs true 72 [(Seg.cell (AV.slice 6 0 0 (List.length h6) 1 false true)), (Seg.cell (AV.int IntKind.i64 h1_1)), (Seg.cell (AV.int IntKind.i64 h1_2))]), (Blk.dyn true 3 [(Col.ints IntKind.i64 h2)]), (Blk.dyn true 3 [(Col.ints IntKind.i64 h3)]), (Blk.dyn true 3 [(Col.ints IntKind.i64 h4)]), Blk.dead, (Blk.dyn true 5 [(Col.ints IntKind.u8 h6)])]))
theorem elf15_7 (N : Nat) (a2 : Int) (h0_0 : List Int) (h0_1n : Nat) (h0_1nl : Bool) (h0_2n : Nat) (h0_2nl : Bool) (h0_3n : Nat) (h0_3nl : Bool) (h1_0n : Nat) (h1_0nl : Bool) (h2 : List Int) (h3 : List Int) (h4 : List Int) (h5 : List Int) : ∀ (n : Nat) (s47k7v1 : Int) (h1_1k7v1 : Int) (h1_2k7v1 : Int) (h8k7v1 : List Int), qlf15_7b a2 h0_0 h0_1n h0_1nl h0_2n h0_2nl h0_3n h0_3nl h1_0n h1_0nl h2 h3 h4 h5 (lf15_7 N a2 h0_1n h0_2n h2 h3 n s47k7v1 h1_1k7v1 h1_2k7v1 h8k7v1) = lp (ctx15 N) 6 Try.f15 7 n (St.mk [(1, (AV.ptr 1 0 0 1)), (7, (AV.func 40 ([] : List AV) [(AV.ptr 6 0 0 1), (AV.ptr 7 0 0 1)])), (46, (AV.int IntKind.i64 (List.getD h2 (0 + (Int.toNat a2)) (0 : Int)))), (47, (AV.int IntKind.i64 s47k7v1))] [(Blk.segs true 70 [(Seg.run IntKind.i64 16 h0_0), (Seg.cell (AV.slice 2 0 0 h0_1n 1 h0_1nl true)), (Seg.cell (AV.slice 3 0 0 h0_2n 1 h0_2nl true)), (Seg.cell (AV.slice 4 0 0 h0_3n 1 h0_3nl true))]), (Blk.segs true 72 [(Seg.cell (AV.slice 8 0 0 (List.length h8k7v1) 1 false true)), (Seg.cell (AV.int IntKind.i64 h1_1k7v1)), (Seg.cell (AV.int IntKind.i64 h1_2k7v1))]), (Blk.dyn true 3 [(Col.ints IntKind.i64 h2)]), (Blk.dyn true 3 [(Col.ints IntKind.i64 h3)]), (Blk.dyn true 3 [(Col.ints IntKind.i64 h4)]), Blk.dead, (Blk.segs true 23 [(Seg.cell (AV.ptr 0 0 0 1))]), (Blk.segs true 3 [(Seg.cell (AV.int IntKind.i64 a2))]), (Blk.dyn true 5 [(Col.ints IntKind.u8 h8k7v1)])]) := by
  intro n
  induction n with
  | zero => intros; kernel_rfl
  | succ n ih =>
    intro s47k7v1 h1_1k7v1 h1_2k7v1 h8k7v1
    rw [lf15_7]
    unfold slf15_7
    refine br (p := (s47k7v1 < (List.getD h2 (0 + (Int.toNat a2)) (0 : Int)))) (fun h16x => ?_) (fun h16x => finL (ctx15 N) 6 Try.f15 7 n [.b false] (by kernel_rfl) (ya (pF h16x) yz))
    cases hc17 : f40 N s47k7v1 a2 h0_1n h0_2n h2 h3 with
    | none => exact finL (ctx15 N) 6 Try.f15 7 n [.b true, .call (rf40 s47k7v1 true true a2 true h0_0 h0_1n h0_1nl h0_2n h0_2nl h0_3n h0_3nl true h2 true h3 true h4 none)] (by kernel_rfl) (ya (pT h16x) (ya (ys (ef40 N s47k7v1 true true a2 true h0_0 h0_1n h0_1nl h0_2n h0_2nl h0_3n h0_3nl true h2 true h3 true h4) hc17) yz))
    | some o =>
      cases o with
      | r0 =>
        dsimp only
        cases hc18 : f41 N (Go.Abs.bits IntKind.i64 (fun z29_0 z29_1 => (z29_0 &&& z29_1)) (Int.fdiv (List.getD h3 (0 + (Int.toNat a2)) (0 : Int)) ((2 : Int) ^ (Min.min (Int.toNat (IntKind.wrap IntKind.i64 ((IntKind.wrap IntKind.i64 ((List.getD h2 (0 + (Int.toNat a2)) (0 : Int)) - (1 : Int))) - s47k7v1))) 64))) (1 : Int)) (1 : Int) (List.length h8k7v1) h1_1k7v1 h1_2k7v1 h8k7v1 with
        | none => exact finL (ctx15 N) 6 Try.f15 7 n [.b true, .call (rf40 s47k7v1 true true a2 true h0_0 h0_1n h0_1nl h0_2n h0_2nl h0_3n h0_3nl true h2 true h3 true h4 (some .r0)), .call (rf41 (Go.Abs.bits IntKind.i64 (fun z29_0 z29_1 => (z29_0 &&& z29_1)) (Int.fdiv (List.getD h3 (0 + (Int.toNat a2)) (0 : Int)) ((2 : Int) ^ (Min.min (Int.toNat (IntKind.wrap IntKind.i64 ((IntKind.wrap IntKind.i64 ((List.getD h2 (0 + (Int.toNat a2)) (0 : Int)) - (1 : Int))) - s47k7v1))) 64))) (1 : Int)) (1 : Int) (List.length h8k7v1) false h1_1k7v1 h1_2k7v1 h8k7v1 none)] (by kernel_rfl) (ya (pT h16x) (ya (ys (ef40 N s47k7v1 true true a2 true h0_0 h0_1n h0_1nl h0_2n h0_2nl h0_3n h0_3nl true h2 true h3 true h4) hc17) (ya (ys (ef41 N (Go.Abs.bits IntKind.i64 (fun z29_0 z29_1 => (z29_0 &&& z29_1)) (Int.fdiv (List.getD h3 (0 + (Int.toNat a2)) (0 : Int)) ((2 : Int) ^ (Min.min (Int.toNat (IntKind.wrap IntKind.i64 ((IntKind.wrap IntKind.i64 ((List.getD h2 (0 + (Int.toNat a2)) (0 : Int)) - (1 : Int))) - s47k7v1))) 64))) (1 : Int)) (1 : Int) (List.length h8k7v1) false h1_1k7v1 h1_2k7v1 h8k7v1) hc18) yz)))
        | some o =>
          cases o with
          | r0 resc18 h0_1c18 h0_2c18 =>
            dsimp only
            refine br (p := (resc18 = (0 : Int))) (fun h19x => (ih (IntKind.wrap IntKind.i64 (s47k7v1 + (1 : Int))) h0_1c18 h0_2c18 h8k7v1).trans (finL (ctx15 N) 6 Try.f15 7 n [.b true, .call (rf40 s47k7v1 true true a2 true h0_0 h0_1n h0_1nl h0_2n h0_2nl h0_3n h0_3nl true h2 true h3 true h4 (some .r0)), .call (rf41 (Go.Abs.bits IntKind.i64 (fun z29_0 z29_1 => (z29_0 &&& z29_1)) (Int.fdiv (List.getD h3 (0 + (Int.toNat a2)) (0 : Int)) ((2 : Int) ^ (Min.min (Int.toNat (IntKind.wrap IntKind.i64 ((IntKind.wrap IntKind.i64 ((List.getD h2 (0 + (Int.toNat a2)) (0 : Int)) - (1 : Int))) - s47k7v1))) 64))) (1 : Int)) (1 : Int) (List.length h8k7v1) false h1_1k7v1 h1_2k7v1 h8k7v1 (some (.r0 resc18 h0_1c18 h0_2c18))), .b false] (by kernel_rfl) (ya (pT h16x) (ya (ys (ef40 N s47k7v1 true true a2 true h0_0 h0_1n h0_1nl h0_2n h0_2nl h0_3n h0_3nl true h2 true h3 true h4) hc17) (ya (ys (ef41 N (Go.Abs.bits IntKind.i64 (fun z29_0 z29_1 => (z29_0 &&& z29_1)) (Int.fdiv (List.getD h3 (0 + (Int.toNat a2)) (0 : Int)) ((2 : Int) ^ (Min.min (Int.toNat (IntKind.wrap IntKind.i64 ((IntKind.wrap IntKind.i64 ((List.getD h2 (0 + (Int.toNat a2)) (0 : Int)) - (1 : Int))) - s47k7v1))) 64))) (1 : Int)) (1 : Int) (List.length h8k7v1) false h1_1k7v1 h1_2k7v1 h8k7v1) hc18) (ya (pX h19x) yz)))))) (fun h19x => ?_)
            exact finL (ctx15 N) 6 Try.f15 7 n [.b true, .call (rf40 s47k7v1 true true a2 true h0_0 h0_1n h0_1nl h0_2n h0_2nl h0_3n h0_3nl true h2 true h3 true h4 (some .r0)), .call (rf41 (Go.Abs.bits IntKind.i64 (fun z29_0 z29_1 => (z29_0 &&& z29_1)) (Int.fdiv (List.getD h3 (0 + (Int.toNat a2)) (0 : Int)) ((2 : Int) ^ (Min.min (Int.toNat (IntKind.wrap IntKind.i64 ((IntKind.wrap IntKind.i64 ((List.getD h2 (0 + (Int.toNat a2)) (0 : Int)) - (1 : Int))) - s47k7v1))) 64))) (1 : Int)) (1 : Int) (List.length h8k7v1) false h1_1k7v1 h1_2k7v1 h8k7v1 (some (.r0 resc18 h0_1c18 h0_2c18))), .b true] (by kernel_rfl) (ya (pT h16x) (ya (ys (ef40 N s47k7v1 true true a2 true h0_0 h0_1n h0_1nl h0_2n h0_2nl h0_3n h0_3nl true h2 true h3 true h4) hc17) (ya (ys (ef41 N (Go.Abs.bits IntKind.i64 (fun z29_0 z29_1 => (z29_0 &&& z29_1)) (Int.fdiv (List.getD h3 (0 + (Int.toNat a2)) (0 : Int)) ((2 : Int) ^ (Min.min (Int.toNat (IntKind.wrap IntKind.i64 ((IntKind.wrap IntKind.i64 ((List.getD h2 (0 + (Int.toNat a2)) (0 : Int)) - (1 : Int))) - s47k7v1))) 64))) (1 : Int)) (1 : Int) (List.length h8k7v1) false h1_1k7v1 h1_2k7v1 h8k7v1) hc18) (ya (pNX h19x) yz))))
          | r1 h0_1c18 h0_2c18 h2c18 =>
            dsimp only
            exact (ih (IntKind.wrap IntKind.i64 (s47k7v1 + (1 : Int))) h0_1c18 h0_2c18 h2c18).trans (finL (ctx15 N) 6 Try.f15 7 n [.b true, .call (rf40 s47k7v1 true true a2 true h0_0 h0_1n h0_1nl h0_2n h0_2nl h0_3n h0_3nl true h2 true h3 true h4 (some .r0)), .call (rf41 (Go.Abs.bits IntKind.i64 (fun z29_0 z29_1 => (z29_0 &&& z29_1)) (Int.fdiv (List.getD h3 (0 + (Int.toNat a2)) (0 : Int)) ((2 : Int) ^ (Min.min (Int.toNat (IntKind.wrap IntKind.i64 ((IntKind.wrap IntKind.i64 ((List.getD h2 (0 + (Int.toNat a2)) (0 : Int)) - (1 : Int))) - s47k7v1))) 64))) (1 : Int)) (1 : Int) (List.length h8k7v1) false h1_1k7v1 h1_2k7v1 h8k7v1 (some (.r1 h0_1c18 h0_2c18 h2c18))), .b false] (by kernel_rfl) (ya (pT h16x) (ya (ys (ef40 N s47k7v1 true true a2 true h0_0 h0_1n h0_1nl h0_2n h0_2nl h0_3n h0_3nl true h2 true h3 true h4) hc17) (ya (ys (ef41 N (Go.Abs.bits IntKind.i64 (fun z29_0 z29_1 => (z29_0 &&& z29_1)) (Int.fdiv (List.getD h3 (0 + (Int.toNat a2)) (0 : Int)) ((2 : Int) ^ (Min.min (Int.toNat (IntKind.wrap IntKind.i64 ((IntKind.wrap IntKind.i64 ((List.getD h2 (0 + (Int.toNat a2)) (0 : Int)) - (1 : Int))) - s47k7v1))) 64))) (1 : Int)) (1 : Int) (List.length h8k7v1) false h1_1k7v1 h1_2k7v1 h8k7v1) hc18) (yf yz)))))
/-! 15, loop 7 -/
def slf15_7b (N : Nat) (a2 : Int) (h0_1n : Nat) (h0_2n : Nat) (h1_0n : Nat) (h2 : List Int) (h3 : List Int) (h5 : List Int) (n : Nat) (go : Int → Int → Int → Option Qlf15_7b) (s47k7 : Int) (h1_1k7 : Int) (h1_2k7 : Int) : Option Qlf15_7b :=
 if (s47k7 < (List.getD h2 (0 + (Int.toNat a2)) (0 : Int))) then
  (match f40 N s47k7 a2 h0_1n h0_2n h2 h3 with
  | none => none
  | some .r0 =>
   (match f41 N (Go.Abs.bits IntKind.i64 (fun z28_0 z28_1 => (z28_0 &&& z28_1)) (Int.fdiv (List.getD h3 (0 + (Int.toNat a2)) (0 : Int)) ((2 : Int) ^ (Min.min (Int.toNat (IntKind.wrap IntKind.i64 ((IntKind.wrap IntKind.i64 ((List.getD h2 (0 + (Int.toNat a2)) (0 : Int)) - (1 : Int))) - s47k7))) 64))) (1 : Int)) (1 : Int) h1_0n h1_1k7 h1_2k7 h5 with
   | none => none
   | some (.r0 resc14 h0_1c14 h0_2c14) =>
    if (resc14 = (0 : Int)) then
     go (IntKind.wrap IntKind.i64 (s47k7 + (1 : Int))) h0_1c14 h0_2c14
    else
    some (.e0 resc14 h0_1c14 h0_2c14)
   | some (.r1 h0_1c14 h0_2c14 h2c14) =>
    lf15_7 N a2 h0_1n h0_2n h2 h3 n (IntKind.wrap IntKind.i64 (s47k7 + (1 : Int))) h0_1c14 h0_2c14 h2c14))
 else
  some (.e1 h1_1k7 h1_2k7)
def lf15_7b (N : Nat) (a2 : Int) (h0_1n : Nat) (h0_2n : Nat) (h1_0n : Nat) (h2 : List Int) (h3 : List Int) (h5 : List Int) : Nat → Int → Int → Int → Option Qlf15_7b
  | 0, _, _, _ => none
  | n + 1, s47k7, h1_1k7, h1_2k7 => slf15_7b N a2 h0_1n h0_2n h1_0n h2 h3 h5 n (lf15_7b N a2 h0_1n h0_2n h1_0n h2 h3 h5 n) s47k7 h1_1k7 h1_2k7
theorem elf15_7b (N : Nat) (a2 : Int) (h0_0 : List Int) (h0_1n : Nat) (h0_1nl : Bool) (h0_2n : Nat) (h0_2nl : Bool) (h0_3n : Nat) (h0_3nl : Bool) (h1_0n : Nat) (h1_0nl : Bool) (h2 : List Int) (h3 : List Int) (h4 : List Int) (h5 : List Int) : ∀ (n : Nat) (s47k7 : Int) (h1_1k7 : Int) (h1_2k7 : Int), qlf15_7b a2 h0_0 h0_1n h0_1nl h0_2n h0_2nl h0_3n h0_3nl h1_0n h1_0nl h2 h3 h4 h5 (lf15_7b N a2 h0_1n h0_2n h1_0n h2 h3 h5 n s47k7 h1_1k7 h1_2k7) = lp (ctx15 N) 6 Try.f15 7 n (St.mk [(1, (AV.ptr 1 0 0 1)), (7, (AV.func 40 ([] : List AV) [(AV.ptr 6 0 0 1), (AV.ptr 7 0 0 1)])), (46, (AV.int IntKind.i64 (List.getD h2 (0 + (Int.toNat a2)) (0 : Int)))), (47, (AV.int IntKind.i64 s47k7))] [(Blk.segs true 70 [(Seg.run IntKind.i64 16 h0_0), (Seg.cell (AV.slice 2 0 0 h0_1n 1 h0_1nl true)), (Seg.cell (AV.slice 3 0 0 h0_2n 1 h0_2nl true)), (Seg.cell (AV.slice 4 0 0 h0_3n 1 h0_3nl true))]), (Blk.segs true 72 [(Seg.cell (AV.slice 5 0 0 h1_0n 1 h1_0nl true)), (Seg.cell (AV.int IntKind.i64 h1_1k7)), (Seg.cell (AV.int IntKind.i64 h1_2k7))]), (Blk.dyn true 3 [(Col.ints IntKind.i64 h2)]), (Blk.dyn true 3 [(Col.ints IntKind.i64 h3)]), (Blk.dyn true 3 [(Col.ints IntKind.i64 h4)]), (Blk.dyn true 5 [(Col.ints IntKind.u8 h5)]), (Blk.segs true 23 [(Seg.cell (AV.ptr 0 0 0 1))]), (Blk.segs true 3 [(Seg.cell (AV.int IntKind.i64 a2))])]) := by
  intro n
  induction n with
  | zero => intros; kernel_rfl
  | succ n ih =>
    intro s47k7 h1_1k7 h1_2k7
    rw [lf15_7b]
    unfold slf15_7b
    refine br (p := (s47k7 < (List.getD h2 (0 + (Int.toNat a2)) (0 : Int)))) (fun h12x => ?_) (fun h12x => finL (ctx15 N) 6 Try.f15 7 n [.b false] (by kernel_rfl) (ya (pF h12x) yz))
    cases hc13 : f40 N s47k7 a2 h0_1n h0_2n h2 h3 with
    | none => exact finL (ctx15 N) 6 Try.f15 7 n [.b true, .call (rf40 s47k7 true true a2 true h0_0 h0_1n h0_1nl h0_2n h0_2nl h0_3n h0_3nl true h2 true h3 true h4 none)] (by kernel_rfl) (ya (pT h12x) (ya (ys (ef40 N s47k7 true true a2 true h0_0 h0_1n h0_1nl h0_2n h0_2nl h0_3n h0_3nl true h2 true h3 true h4) hc13) yz))
    | some o =>
      cases o with
      | r0 =>
        dsimp only
        cases hc14 : f41 N (Go.Abs.bits IntKind.i64 (fun z28_0 z28_1 => (z28_0 &&& z28_1)) (Int.fdiv (List.getD h3 (0 + (Int.toNat a2)) (0 : Int)) ((2 : Int) ^ (Min.min (Int.toNat (IntKind.wrap IntKind.i64 ((IntKind.wrap IntKind.i64 ((List.getD h2 (0 + (Int.toNat a2)) (0 : Int)) - (1 : Int))) - s47k7))) 64))) (1 : Int)) (1 : Int) h1_0n h1_1k7 h1_2k7 h5 with
        | none => exact finL (ctx15 N) 6 Try.f15 7 n [.b true, .call (rf40 s47k7 true true a2 true h0_0 h0_1n h0_1nl h0_2n h0_2nl h0_3n h0_3nl true h2 true h3 true h4 (some .r0)), .call (rf41 (Go.Abs.bits IntKind.i64 (fun z28_0 z28_1 => (z28_0 &&& z28_1)) (Int.fdiv (List.getD h3 (0 + (Int.toNat a2)) (0 : Int)) ((2 : Int) ^ (Min.min (Int.toNat (IntKind.wrap IntKind.i64 ((IntKind.wrap IntKind.i64 ((List.getD h2 (0 + (Int.toNat a2)) (0 : Int)) - (1 : Int))) - s47k7))) 64))) (1 : Int)) (1 : Int) h1_0n h1_0nl h1_1k7 h1_2k7 h5 none)] (by kernel_rfl) (ya (pT h12x) (ya (ys (ef40 N s47k7 true true a2 true h0_0 h0_1n h0_1nl h0_2n h0_2nl h0_3n h0_3nl true h2 true h3 true h4) hc13) (ya (ys (ef41 N (Go.Abs.bits IntKind.i64 (fun z28_0 z28_1 => (z28_0 &&& z28_1)) (Int.fdiv (List.getD h3 (0 + (Int.toNat a2)) (0 : Int)) ((2 : Int) ^ (Min.min (Int.toNat (IntKind.wrap IntKind.i64 ((IntKind.wrap IntKind.i64 ((List.getD h2 (0 + (Int.toNat a2)) (0 : Int)) - (1 : Int))) - s47k7))) 64))) (1 : Int)) (1 : Int) h1_0n h1_0nl h1_1k7 h1_2k7 h5) hc14) yz)))
        | some o =>
          cases o with
          | r0 resc14 h0_1c14 h0_2c14 =>
            dsimp only
            refine br (p := (resc14 = (0 : Int))) (fun h15x => (ih (IntKind.wrap IntKind.i64 (s47k7 + (1 : Int))) h0_1c14 h0_2c14).trans (finL (ctx15 N) 6 Try.f15 7 n [.b true, .call (rf40 s47k7 true true a2 true h0_0 h0_1n h0_1nl h0_2n h0_2nl h0_3n h0_3nl true h2 true h3 true h4 (some .r0)), .call (rf41 (Go.Abs.bits IntKind.i64 (fun z28_0 z28_1 => (z28_0 &&& z28_1)) (Int.fdiv (List.getD h3 (0 + (Int.toNat a2)) (0 : Int)) ((2 : Int) ^ (Min.min (Int.toNat (IntKind.wrap IntKind.i64 ((IntKind.wrap IntKind.i64 ((List.getD h2 (0 + (Int.toNat a2)) (0 : Int)) - (1 : Int))) - s47k7))) 64))) (1 : Int)) (1 : Int) h1_0n h1_0nl h1_1k7 h1_2k7 h5 (some (.r0 resc14 h0_1c14 h0_2c14))), .b false] (by kernel_rfl) (ya (pT h12x) (ya (ys (ef40 N s47k7 true true a2 true h0_0 h0_1n h0_1nl h0_2n h0_2nl h0_3n h0_3nl true h2 true h3 true h4) hc13) (ya (ys (ef41 N (Go.Abs.bits IntKind.i64 (fun z28_0 z28_1 => (z28_0 &&& z28_1)) (Int.fdiv (List.getD h3 (0 + (Int.toNat a2)) (0 : Int)) ((2 : Int) ^ (Min.min (Int.toNat (IntKind.wrap IntKind.i64 ((IntKind.wrap IntKind.i64 ((List.getD h2 (0 + (Int.toNat a2)) (0 : Int)) - (1 : Int))) - s47k7))) 64))) (1 : Int)) (1 : Int) h1_0n h1_0nl h1_1k7 h1_2k7 h5) hc14) (ya (pX h15x) yz)))))) (fun h15x => ?_)
            exact finL (ctx15 N) 6 Try.f15 7 n [.b true, .call (rf40 s47k7 true true a2 true h0_0 h0_1n h0_1nl h0_2n h0_2nl h0_3n h0_3nl true h2 true h3 true h4 (some .r0)), .call (rf41 (Go.Abs.bits IntKind.i64 (fun z28_0 z28_1 => (z28_0 &&& z28_1)) (Int.fdiv (List.getD h3 (0 + (Int.toNat a2)) (0 : Int)) ((2 : Int) ^ (Min.min (Int.toNat (IntKind.wrap IntKind.i64 ((IntKind.wrap IntKind.i64 ((List.getD h2 (0 + (Int.toNat a2)) (0 : Int)) - (1 : Int))) - s47k7))) 64))) (1 : Int)) (1 : Int) h1_0n h1_0nl h1_1k7 h1_2k7 h5 (some (.r0 resc14 h0_1c14 h0_2c14))), .b true] (by kernel_rfl) (ya (pT h12x) (ya (ys (ef40 N s47k7 true true a2 true h0_0 h0_1n h0_1nl h0_2n h0_2nl h0_3n h0_3nl true h2 true h3 true h4) hc13) (ya (ys (ef41 N (Go.Abs.bits IntKind.i64 (fun z28_0 z28_1 => (z28_0 &&& z28_1)) (Int.fdiv (List.getD h3 (0 + (Int.toNat a2)) (0 : Int)) ((2 : Int) ^ (Min.min (Int.toNat (IntKind.wrap IntKind.i64 ((IntKind.wrap IntKind.i64 ((List.getD h2 (0 + (Int.toNat a2)) (0 : Int)) - (1 : Int))) - s47k7))) 64))) (1 : Int)) (1 : Int) h1_0n h1_0nl h1_1k7 h1_2k7 h5) hc14) (ya (pNX h15x) yz))))
          | r1 h0_1c14 h0_2c14 h2c14 =>
            dsimp only
            exact (elf15_7 N a2 h0_0 h0_1n h0_1nl h0_2n h0_2nl h0_3n h0_3nl h1_0n h1_0nl h2 h3 h4 h5 n (IntKind.wrap IntKind.i64 (s47k7 + (1 : Int))) h0_1c14 h0_2c14 h2c14).trans (finL (ctx15 N) 6 Try.f15 7 n [.b true, .call (rf40 s47k7 true true a2 true h0_0 h0_1n h0_1nl h0_2n h0_2nl h0_3n h0_3nl true h2 true h3 true h4 (some .r0)), .call (rf41 (Go.Abs.bits IntKind.i64 (fun z28_0 z28_1 => (z28_0 &&& z28_1)) (Int.fdiv (List.getD h3 (0 + (Int.toNat a2)) (0 : Int)) ((2 : Int) ^ (Min.min (Int.toNat (IntKind.wrap IntKind.i64 ((IntKind.wrap IntKind.i64 ((List.getD h2 (0 + (Int.toNat a2)) (0 : Int)) - (1 : Int))) - s47k7))) 64))) (1 : Int)) (1 : Int) h1_0n h1_0nl h1_1k7 h1_2k7 h5 (some (.r1 h0_1c14 h0_2c14 h2c14))), .b false] (by kernel_rfl) (ya (pT h12x) (ya (ys (ef40 N s47k7 true true a2 true h0_0 h0_1n h0_1nl h0_2n h0_2nl h0_3n h0_3nl true h2 true h3 true h4) hc13) (ya (ys (ef41 N (Go.Abs.bits IntKind.i64 (fun z28_0 z28_1 => (z28_0 &&& z28_1)) (Int.fdiv (List.getD h3 (0 + (Int.toNat a2)) (0 : Int)) ((2 : Int) ^ (Min.min (Int.toNat (IntKind.wrap IntKind.i64 ((IntKind.wrap IntKind.i64 ((List.getD h2 (0 + (Int.toNat a2)) (0 : Int)) - (1 : Int))) - s47k7))) 64))) (1 : Int)) (1 : Int) h1_0n h1_0nl h1_1k7 h1_2k7 h5) hc14) (yf yz)))))
/-! 15 -/
inductive Rf15 where
  | r0 (res : Int) (h1_1 : Int) (h1_2 : Int)
  | r1 (res : Int) (h1_1 : Int) (h1_2 : Int) (h6 : List Int)
def f15 (N : Nat) (a2 : Int) (h0_1n : Nat) (h0_2n : Nat) (h1_0n : Nat) (h1_1 : Int) (h1_2 : Int) (h2 : List Int) (h3 : List Int) (h5 : List Int) : Option Rf15 :=
 if (a2 < (0 : Int)) then
  some (.r0 (8 : Int) h1_1 h1_2)
 else
  if (a2 ≥ ((h0_1n : Nat) : Int)) then
   some (.r0 (8 : Int) h1_1 h1_2)
  else
   if ((0 + (Int.toNat a2)) < (List.length h2)) then
    if ((List.getD h2 (0 + (Int.toNat a2)) (0 : Int)) = (0 : Int)) then
     some (.r0 (8 : Int) h1_1 h1_2)
    else
    (match lf15_7b N a2 h0_1n h0_2n h1_0n h2 h3 h5 N (0 : Int) h1_1 h1_2 with
    | none => none
    | some (.e0 s6l20 h1_1l20 h1_2l20) =>
     some (.r0 s6l20 h1_1l20 h1_2l20)
    | some (.e1 h1_1l20 h1_2l20) =>
     some (.r0 (0 : Int) h1_1l20 h1_2l20)
    | some (.e2 s6l20 h1_1l20 h1_2l20 h6l20) =>
     some (.r1 s6l20 h1_1l20 h1_2l20 h6l20)
    | some (.e3 h1_1l20 h1_2l20 h6l20) =>
     some (.r1 (0 : Int) h1_1l20 h1_2l20 h6l20))
   else
    none
def rf15 (a2 : Int) (h0_0 : List Int) (h0_1n : Nat) (h0_1nl : Bool) (h0_2n : Nat) (h0_2nl : Bool) (h0_3n : Nat) (h0_3nl : Bool) (h1_0n : Nat) (h1_0nl : Bool) (h1_1 : Int) (h1_2 : Int) (h2 : List Int) (h3 : List Int) (h4 : List Int) (h5 : List Int) : Option Rf15 → Option (AV × Heap)
  | none => none
  | some (.r0 res h1_1 h1_2) => some ((AV.int IntKind.i64 res), [(Blk.segs true 70 [(Seg.run IntKind.i64 16 h0_0), (Seg.cell (AV.slice 2 0 0 h0_1n 1 h0_1nl true)), (Seg.cell (AV.slice 3 0 0 h0_2n 1 h0_2nl true)), (Seg.cell (AV.slice 4 0 0 h0_3n 1 h0_3nl true))]), (Blk.segs true 72 [(Seg.cell (AV.slice 5 0 0 h1_0n 1 h1_0nl true)), (Seg.cell (AV.int IntKind.i64 h1_1)), (Seg.cell (AV.int IntKind.i64 h1_2))]), (Blk.dyn true 3 [(Col.ints IntKind.i64 h2)]), (Blk.dyn true 3 [(Col.ints IntKind.i64 h3)]), (Blk.dyn true 3 [(Col.ints IntKind.i64 h4)]), (Blk.dyn true 5 [(Col.ints IntKind.u8 h5)])])
  | some (.r1 res h1_1 h1_2 h6) => some ((AV.int IntKind.i64 res), [(Blk.segs true 70 [(Seg.run IntKind.i64 16 h0_0), (Seg.cell (AV.slice 2 0 0 h0_1n 1 h0_1nl true)), (Seg.cell (AV.slice 3 0 0 h0_2n 1 h0_2nl true)), (Seg.cell (AV.slice 4 0 0 h0_3n 1 h0_3nl true))]), (Blk.segs true 72 [(Seg.cell (AV.slice 6 0 0 (List.length h6) 1 false true)), (Seg.cell (AV.int IntKind.i64 h1_1)), (Seg.cell (AV.int IntKind.i64 h1_2))]), (Blk.dyn true 3 [(Col.ints IntKind.i64 h2)]), (Blk.dyn true 3 [(Col.ints IntKind.i64 h3)]), (Blk.dyn true 3 [(Col.ints IntKind.i64 h4)]), Blk.dead, (Blk.dyn true 5 [(Col.ints IntKind.u8 h6)])])
theorem ef15 (N : Nat) (a2 : Int) (h0_0 : List Int) (h0_1n : Nat) (h0_1nl : Bool) (h0_2n : Nat) (h0_2nl : Bool) (h0_3n : Nat) (h0_3nl : Bool) (h1_0n : Nat) (h1_0nl : Bool) (h1_1 : Int) (h1_2 : Int) (h2 : List Int) (h3 : List Int) (h4 : List Int) (h5 : List Int) : rf15 a2 h0_0 h0_1n h0_1nl h0_2n h0_2nl h0_3n h0_3nl h1_0n h1_0nl h1_1 h1_2 h2 h3 h4 h5 (f15 N a2 h0_1n h0_2n h1_0n h1_1 h1_2 h2 h3 h5) = sem15 N [(AV.ptr 0 0 0 1), (AV.ptr 1 0 0 1), (AV.int IntKind.i64 a2)] [(Blk.segs true 70 [(Seg.run IntKind.i64 16 h0_0), (Seg.cell (AV.slice 2 0 0 h0_1n 1 h0_1nl true)), (Seg.cell (AV.slice 3 0 0 h0_2n 1 h0_2nl true)), (Seg.cell (AV.slice 4 0 0 h0_3n 1 h0_3nl true))]), (Blk.segs true 72 [(Seg.cell (AV.slice 5 0 0 h1_0n 1 h1_0nl true)), (Seg.cell (AV.int IntKind.i64 h1_1)), (Seg.cell (AV.int IntKind.i64 h1_2))]), (Blk.dyn true 3 [(Col.ints IntKind.i64 h2)]), (Blk.dyn true 3 [(Col.ints IntKind.i64 h3)]), (Blk.dyn true 3 [(Col.ints IntKind.i64 h4)]), (Blk.dyn true 5 [(Col.ints IntKind.u8 h5)])] := by
  unfold f15
  refine br (p := (a2 < (0 : Int))) (fun h0x => finF (ctx15 N) Try.f15 [.b false, .b false, .b false, .b true, .b true, .b true, .b true, .b true, .b true, .b true, .b true, .b true, .b true, .b true, .b true, .b true, .b true, .b true, .b true] (by kernel_rfl) (yf (yf (yf (ya (pT h0x) (yt (yt (yt (yt (yt (yt (yt (yt (yt (yt (yt (yt (yt (yt (yt yz)))))))))))))))))))) (fun h0x => ?_)
  refine br (p := (a2 ≥ ((h0_1n : Nat) : Int))) (fun h1x => finF (ctx15 N) Try.f15 [.b false, .b false, .b false, .b false, .b false, .b false, .b false, .b false, .b false, .b false, .b true, .b true, .b true, .b true, .b true, .b true, .b true, .b true, .b true] (by kernel_rfl) (yf (yf (yf (ya (pF h0x) (yf (yf (yf (yf (yf (yf (ya (pT h1x) (yt (yt (yt (yt (yt (yt (yt (yt yz)))))))))))))))))))) (fun h1x => ?_)
  refine br (p := ((0 + (Int.toNat a2)) < (List.length h2))) (fun h2x => ?_) (fun h2x => finF (ctx15 N) Try.f15 [.b false, .b false, .b false, .b false, .b false, .b false, .b false, .b false, .b false, .b false, .b false, .b false, .b false, .b false, .b false, .b false, .b true, .b false, .b false] (by kernel_rfl) (yf (yf (yf (ya (pF h0x) (yf (yf (yf (yf (yf (yf (ya (pF h1x) (yf (yf (yf (yf (yf (ya (pT (show (((0 : Int) ≤ a2) ∧ ((Int.toNat a2) < h0_1n)) by omega)) (yf (ya (pF h2x) yz))))))))))))))))))))
  refine br (p := ((List.getD h2 (0 + (Int.toNat a2)) (0 : Int)) = (0 : Int))) (fun h3x => finF (ctx15 N) Try.f15 [.b false, .b false, .b false, .b false, .b false, .b false, .b false, .b false, .b false, .b false, .b false, .b false, .b false, .b false, .b false, .b false, .b true, .b false, .b true, .b false, .b true] (by kernel_rfl) (yf (yf (yf (ya (pF h0x) (yf (yf (yf (yf (yf (yf (ya (pF h1x) (yf (yf (yf (yf (yf (ya (pT (show (((0 : Int) ≤ a2) ∧ ((Int.toNat a2) < h0_1n)) by omega)) (yf (ya (pT h2x) (yf (ya (pE h3x) yz)))))))))))))))))))))) (fun h3x => ?_)
  cases ho20 : lf15_7b N a2 h0_1n h0_2n h1_0n h2 h3 h5 N (0 : Int) h1_1 h1_2 with
  | none => exact finF (ctx15 N) Try.f15 [.b false, .b false, .b false, .b false, .b false, .b false, .b false, .b false, .b false, .b false, .b false, .b false, .b false, .b false, .b false, .b false, .b true, .b false, .b true, .b false, .b false, .b true, .b true, .out (qlf15_7b a2 h0_0 h0_1n h0_1nl h0_2n h0_2nl h0_3n h0_3nl h1_0n h1_0nl h2 h3 h4 h5 none)] (by kernel_rfl) (yf (yf (yf (ya (pF h0x) (yf (yf (yf (yf (yf (yf (ya (pF h1x) (yf (yf (yf (yf (yf (ya (pT (show (((0 : Int) ≤ a2) ∧ ((Int.toNat a2) < h0_1n)) by omega)) (yf (ya (pT h2x) (yf (ya (pNE h3x) (ya (pT (show (((0 : Int) ≤ a2) ∧ ((Int.toNat a2) < h0_1n)) by omega)) (ya (pT h2x) (ya (ys (elf15_7b N a2 h0_0 h0_1n h0_1nl h0_2n h0_2nl h0_3n h0_3nl h1_0n h1_0nl h2 h3 h4 h5 N (0 : Int) h1_1 h1_2) ho20) yz))))))))))))))))))))))))
  | some o =>
    cases o with
    | e0 s6l20 h1_1l20 h1_2l20 =>
      dsimp only
      exact finF (ctx15 N) Try.f15 [.b false, .b false, .b false, .b false, .b false, .b false, .b false, .b false, .b false, .b false, .b false, .b false, .b false, .b false, .b false, .b false, .b true, .b false, .b true, .b false, .b false, .b true, .b true, .out (qlf15_7b a2 h0_0 h0_1n h0_1nl h0_2n h0_2nl h0_3n h0_3nl h1_0n h1_0nl h2 h3 h4 h5 (some (.e0 s6l20 h1_1l20 h1_2l20)))] (by kernel_rfl) (yf (yf (yf (ya (pF h0x) (yf (yf (yf (yf (yf (yf (ya (pF h1x) (yf (yf (yf (yf (yf (ya (pT (show (((0 : Int) ≤ a2) ∧ ((Int.toNat a2) < h0_1n)) by omega)) (yf (ya (pT h2x) (yf (ya (pNE h3x) (ya (pT (show (((0 : Int) ≤ a2) ∧ ((Int.toNat a2) < h0_1n)) by omega)) (ya (pT h2x) (ya (ys (elf15_7b N a2 h0_0 h0_1n h0_1nl h0_2n h0_2nl h0_3n h0_3nl h1_0n h1_0nl h2 h3 h4 h5 N (0 : Int) h1_1 h1_2) ho20) yz))))))))))))))))))))))))
    | e1 h1_1l20 h1_2l20 =>
      dsimp only
      exact finF (ctx15 N) Try.f15 [.b false, .b false, .b false, .b false, .b false, .b false, .b false, .b false, .b false, .b false, .b false, .b false, .b false, .b false, .b false, .b false, .b true, .b false, .b true, .b false, .b false, .b true, .b true, .out (qlf15_7b a2 h0_0 h0_1n h0_1nl h0_2n h0_2nl h0_3n h0_3nl h1_0n h1_0nl h2 h3 h4 h5 (some (.e1 h1_1l20 h1_2l20)))] (by kernel_rfl) (yf (yf (yf (ya (pF h0x) (yf (yf (yf (yf (yf (yf (ya (pF h1x) (yf (yf (yf (yf (yf (ya (pT (show (((0 : Int) ≤ a2) ∧ ((Int.toNat a2) < h0_1n)) by omega)) (yf (ya (pT h2x) (yf (ya (pNE h3x) (ya (pT (show (((0 : Int) ≤ a2) ∧ ((Int.toNat a2) < h0_1n)) by omega)) (ya (pT h2x) (ya (ys (elf15_7b N a2 h0_0 h0_1n h0_1nl h0_2n h0_2nl h0_3n h0_3nl h1_0n h1_0nl h2 h3 h4 h5 N (0 : Int) h1_1 h1_2) ho20) yz))))))))))))))))))))))))
    | e2 s6l20 h1_1l20 h1_2l20 h6l20 =>
      dsimp only
      exact finF (ctx15 N) Try.f15 [.b false, .b false, .b false, .b false, .b false, .b false, .b false, .b false, .b false, .b false, .b false, .b false, .b false, .b false, .b false, .b false, .b true, .b false, .b true, .b false, .b false, .b true, .b true, .out (qlf15_7b a2 h0_0 h0_1n h0_1nl h0_2n h0_2nl h0_3n h0_3nl h1_0n h1_0nl h2 h3 h4 h5 (some (.e2 s6l20 h1_1l20 h1_2l20 h6l20)))] (by kernel_rfl) (yf (yf (yf (ya (pF h0x) (yf (yf (yf (yf (yf (yf (ya (pF h1x) (yf (yf (yf (yf (yf (ya (pT (show (((0 : Int) ≤ a2) ∧ ((Int.toNat a2) < h0_1n)) by omega)) (yf (ya (pT h2x) (yf (ya (pNE h3x) (ya (pT (show (((0 : Int) ≤ a2) ∧ ((Int.toNat a2) < h0_1n)) by omega)) (ya (pT h2x) (ya (ys (elf15_7b N a2 h0_0 h0_1n h0_1nl h0_2n h0_2nl h0_3n h0_3nl h1_0n h1_0nl h2 h3 h4 h5 N (0 : Int) h1_1 h1_2) ho20) yz))))))))))))))))))))))))
    | e3 h1_1l20 h1_2l20 h6l20 =>
      dsimp only
      exact finF (ctx15 N) Try.f15 [.b false, .b false, .b false, .b false, .b false, .b false, .b false, .b false, .b false, .b false, .b false, .b false, .b false, .b false, .b false, .b false, .b true, .b false, .b true, .b false, .b false, .b true, .b true, .out (qlf15_7b a2 h0_0 h0_1n h0_1nl h0_2n h0_2nl h0_3n h0_3nl h1_0n h1_0nl h2 h3 h4 h5 (some (.e3 h1_1l20 h1_2l20 h6l20)))] (by kernel_rfl) (yf (yf (yf (ya (pF h0x) (yf (yf (yf (yf (yf (yf (ya (pF h1x) (yf (yf (yf (yf (yf (ya (pT (show (((0 : Int) ≤ a2) ∧ ((Int.toNat a2) < h0_1n)) by omega)) (yf (ya (pT h2x) (yf (ya (pNE h3x) (ya (pT (show (((0 : Int) ≤ a2) ∧ ((Int.toNat a2) < h0_1n)) by omega)) (ya (pT h2x) (ya (ys (elf15_7b N a2 h0_0 h0_1n h0_1nl h0_2n h0_2nl h0_3n h0_3nl h1_0n h1_0nl h2 h3 h4 h5 N (0 : Int) h1_1 h1_2) ho20) yz))))))))))))))))))))))))
/-! 42 -/
inductive Rf42 where
  | r0 (resnl : Bool) (h1 : List Int)
def f42 (N : Nat) (a0n : Nat) (a0nl : Bool) (h0 : List Int) : Option Rf42 :=
 if (a0nl = true) then
  some (.r0 true ([] : List Int))
 else
 if (a0n = (List.length h0)) then
  if ((0 = 0) ∧ ((0 + (List.length h0)) ≤ 1099511627776)) then
   some (.r0 ((Go.Abs.isEmptyCols [(Col.ints IntKind.u8 h0)]) && false) (([] : List Int) ++ h0))
  else
  none
 else
  none
def rf42 (a0n : Nat) (a0nl : Bool) (h0rw : Bool) (h0 : List Int) : Option Rf42 → Option (AV × Heap)
  | none => none
  | some (.r0 resnl h1) => some ((AV.slice 1 0 0 (List.length h1) 1 resnl true), [(Blk.dyn h0rw 5 [(Col.ints IntKind.u8 h0)]), (Blk.dyn true 5 [(Col.ints IntKind.u8 h1)])])
theorem ef42 (N : Nat) (a0n : Nat) (a0nl : Bool) (h0rw : Bool) (h0 : List Int) : rf42 a0n a0nl h0rw h0 (f42 N a0n a0nl h0) = sem42 N [(AV.slice 0 0 0 a0n 1 a0nl true)] [(Blk.dyn h0rw 5 [(Col.ints IntKind.u8 h0)])] := by
  unfold f42
  refine br (p := (a0nl = true)) (fun h0x => finF (ctx42 N) Try.f42 [.b true] (by kernel_rfl) (ya h0x yz)) (fun h0x => ?_)
  refine br (p := (a0n = (List.length h0))) (fun h1x => ?_) (fun h1x => finF (ctx42 N) Try.f42 [.b false, .b false] (by kernel_rfl) (ya (pNB h0x) (ya (pF h1x) yz)))
  refine br (p := ((0 = 0) ∧ ((0 + (List.length h0)) ≤ 1099511627776))) (fun h2x => finF (ctx42 N) Try.f42 [.b false, .b true, .b true] (by kernel_rfl) (ya (pNB h0x) (ya (pT h1x) (ya (pT h2x) yz)))) (fun h2x => ?_)
  exact finF (ctx42 N) Try.f42 [.b false, .b true, .b false] (by kernel_rfl) (ya (pNB h0x) (ya (pT h1x) (ya (pF h2x) yz)))
/-! 16 -/
inductive Rf16 where
  | r0 (resnl : Bool) (h2 : List Int)
def f16 (N : Nat) (h0_0n : Nat) (h0_0nl : Bool) (h0_1 : Int) (h0_2 : Int) (h1 : List Int) : Option Rf16 :=
 (match f42 N h0_0n h0_0nl h1 with
 | none => none
 | some (.r0 resnlc0 h1c0) =>
  if (h0_2 > (0 : Int)) then
   if (((List.length h1c0) = (List.length h1c0)) ∧ (((List.length h1c0) + (List.length [(IntKind.wrap IntKind.u8 h0_1)])) ≤ 1099511627776)) then
    some (.r0 false (h1c0 ++ [(IntKind.wrap IntKind.u8 h0_1)]))
   else
   none
  else
   some (.r0 resnlc0 h1c0))
def rf16 (h0rw : Bool) (h0_0n : Nat) (h0_0nl : Bool) (h0_1 : Int) (h0_2 : Int) (h1rw : Bool) (h1 : List Int) : Option Rf16 → Option (AV × Heap)
  | none => none
  | some (.r0 resnl h2) => some ((AV.slice 2 0 0 (List.length h2) 1 resnl true), [(Blk.segs h0rw 72 [(Seg.cell (AV.slice 1 0 0 h0_0n 1 h0_0nl true)), (Seg.cell (AV.int IntKind.i64 h0_1)), (Seg.cell (AV.int IntKind.i64 h0_2))]), (Blk.dyn h1rw 5 [(Col.ints IntKind.u8 h1)]), (Blk.dyn true 5 [(Col.ints IntKind.u8 h2)])])
theorem ef16 (N : Nat) (h0rw : Bool) (h0_0n : Nat) (h0_0nl : Bool) (h0_1 : Int) (h0_2 : Int) (h1rw : Bool) (h1 : List Int) : rf16 h0rw h0_0n h0_0nl h0_1 h0_2 h1rw h1 (f16 N h0_0n h0_0nl h0_1 h0_2 h1) = sem16 N [(AV.ptr 0 0 0 1)] [(Blk.segs h0rw 72 [(Seg.cell (AV.slice 1 0 0 h0_0n 1 h0_0nl true)), (Seg.cell (AV.int IntKind.i64 h0_1)), (Seg.cell (AV.int IntKind.i64 h0_2))]), (Blk.dyn h1rw 5 [(Col.ints IntKind.u8 h1)])] := by
  unfold f16
  cases hc0 : f42 N h0_0n h0_0nl h1 with
  | none => exact finF (ctx16 N) Try.f16 [.b false, .call (rf42 h0_0n h0_0nl h1rw h1 none)] (by kernel_rfl) (yf (ya (ys (ef42 N h0_0n h0_0nl h1rw h1) hc0) yz))
  | some o =>
    cases o with
    | r0 resnlc0 h1c0 =>
      dsimp only
      refine br (p := (h0_2 > (0 : Int))) (fun h1x => ?_) (fun h1x => finF (ctx16 N) Try.f16 [.b false, .call (rf42 h0_0n h0_0nl h1rw h1 (some (.r0 resnlc0 h1c0))), .b false] (by kernel_rfl) (yf (ya (ys (ef42 N h0_0n h0_0nl h1rw h1) hc0) (ya (pF h1x) yz))))
      refine br (p := (((List.length h1c0) = (List.length h1c0)) ∧ (((List.length h1c0) + (List.length [(IntKind.wrap IntKind.u8 h0_1)])) ≤ 1099511627776))) (fun h2x => finF (ctx16 N) Try.f16 [.b false, .call (rf42 h0_0n h0_0nl h1rw h1 (some (.r0 resnlc0 h1c0))), .b true, .b true, .b true] (by kernel_rfl) (yf (ya (ys (ef42 N h0_0n h0_0nl h1rw h1) hc0) (ya (pT h1x) (yt (ya (pT h2x) yz)))))) (fun h2x => ?_)
      exact finF (ctx16 N) Try.f16 [.b false, .call (rf42 h0_0n h0_0nl h1rw h1 (some (.r0 resnlc0 h1c0))), .b true, .b true, .b false] (by kernel_rfl) (yf (ya (ys (ef42 N h0_0n h0_0nl h1rw h1) hc0) (ya (pT h1x) (yt (ya (pF h2x) yz)))))
end
end Go.Proofs.Ytnkjpkfijafkgaa
