/-
Printed by a program of this session: plain functions, and that the evaluator answers as they do.
-/
import Derived.Test.YtnkjpkfijafkgaaS4
import Derived.Test.YtnkjpkfijafkgaaFns
set_option linter.unusedVariables false
set_option maxRecDepth 100000
namespace Go.Proofs.Ytnkjpkfijafkgaa
open Go.Abs
noncomputable section
/-! 62, loop 3 -/
inductive Qlf62_3 where
  | e0 (s3 : Int)
def slf62_3 (N : Nat) (a0 : Int) (n : Nat) (go : Int → Int → Option Qlf62_3) (s3k3 : Int) (s4k3 : Int) : Option Qlf62_3 :=
 if (s4k3 < a0) then
  go (IntKind.wrap IntKind.i64 ((2 : Int) * s3k3)) (IntKind.wrap IntKind.i64 (s4k3 + (1 : Int)))
 else
 some (.e0 s3k3)
def lf62_3 (N : Nat) (a0 : Int) : Nat → Int → Int → Option Qlf62_3
  | 0, _, _ => none
  | n + 1, s3k3, s4k3 => slf62_3 N a0 n (lf62_3 N a0 n) s3k3 s4k3
def qlf62_3 (a0 : Int) : Option Qlf62_3 → Out
  | none => none
  | some (.e0 s3) => some ((XT.exit 0), (St.mk [(3, (AV.int IntKind.i64 s3))] ([] : List Blk)))
theorem elf62_3 (N : Nat) (a0 : Int) : ∀ (n : Nat) (s3k3 : Int) (s4k3 : Int), qlf62_3 a0 (lf62_3 N a0 n s3k3 s4k3) = lp (ctx62 N) 0 Try.f62 3 n (St.mk [(0, (AV.int IntKind.i64 a0)), (3, (AV.int IntKind.i64 s3k3)), (4, (AV.int IntKind.i64 s4k3))] ([] : List Blk)) := by
  intro n
  induction n with
  | zero => intros; kernel_rfl
  | succ n ih =>
    intro s3k3 s4k3
    rw [lf62_3]
    unfold slf62_3
    refine br (p := (s4k3 < a0)) (fun h1x => (ih (IntKind.wrap IntKind.i64 ((2 : Int) * s3k3)) (IntKind.wrap IntKind.i64 (s4k3 + (1 : Int)))).trans (finL (ctx62 N) 0 Try.f62 3 n [.b true] (by kernel_rfl) (ya (pT h1x) yz))) (fun h1x => ?_)
    exact finL (ctx62 N) 0 Try.f62 3 n [.b false] (by kernel_rfl) (ya (pF h1x) yz)
/-! 62 -/
inductive Rf62 where
  | r0 (res : Int)
def f62 (N : Nat) (a0 : Int) : Option Rf62 :=
 (match lf62_3 N a0 N (1 : Int) (0 : Int) with
 | none => none
 | some (.e0 s3l2) =>
  some (.r0 s3l2))
def rf62 (a0 : Int) : Option Rf62 → Option (AV × Heap)
  | none => none
  | some (.r0 res) => some ((AV.int IntKind.i64 res), ([] : List Blk))
theorem ef62 (N : Nat) (a0 : Int) : rf62 a0 (f62 N a0) = sem62 N [(AV.int IntKind.i64 a0)] ([] : List Blk) := by
  unfold f62
  cases ho2 : lf62_3 N a0 N (1 : Int) (0 : Int) with
  | none => exact finF (ctx62 N) Try.f62 [.out (qlf62_3 a0 none)] (by kernel_rfl) (ya (ys (elf62_3 N a0 N (1 : Int) (0 : Int)) ho2) yz)
  | some o =>
    cases o with
    | e0 s3l2 =>
      dsimp only
      exact finF (ctx62 N) Try.f62 [.out (qlf62_3 a0 (some (.e0 s3l2)))] (by kernel_rfl) (ya (ys (elf62_3 N a0 N (1 : Int) (0 : Int)) ho2) yz)
/-! 43, loop 5 -/
inductive Qlf43_5 where
  | e0
  | e1 (s3 : Int)
def slf43_5 (N : Nat) (a0n : Nat) (h0 : List Int) (n : Nat) (go : Int → Int → Option Qlf43_5) (s3k5 : Int) (s4k5 : Int) : Option Qlf43_5 :=
 if (s4k5 < ((a0n : Nat) : Int)) then
  if (((0 : Int) ≤ s4k5) ∧ ((Int.toNat s4k5) < a0n)) then
   if ((0 + (Int.toNat s4k5)) < (List.length h0)) then
    if ((List.getD h0 (0 + (Int.toNat s4k5)) (0 : Int)) < (0 : Int)) then
     some .e0
    else
     if ((List.getD h0 (0 + (Int.toNat s4k5)) (0 : Int)) > (15 : Int)) then
      some .e0
     else
     if ((List.getD h0 (0 + (Int.toNat s4k5)) (0 : Int)) > (0 : Int)) then
      (match f62 N (IntKind.wrap IntKind.i64 ((15 : Int) - (List.getD h0 (0 + (Int.toNat s4k5)) (0 : Int)))) with
      | none => none
      | some (.r0 resc13) =>
       go (IntKind.wrap IntKind.i64 (s3k5 + resc13)) (IntKind.wrap IntKind.i64 (s4k5 + (1 : Int))))
     else
      go s3k5 (IntKind.wrap IntKind.i64 (s4k5 + (1 : Int)))
   else
    none
  else
   none
 else
  some (.e1 s3k5)
def lf43_5 (N : Nat) (a0n : Nat) (h0 : List Int) : Nat → Int → Int → Option Qlf43_5
  | 0, _, _ => none
  | n + 1, s3k5, s4k5 => slf43_5 N a0n h0 n (lf43_5 N a0n h0 n) s3k5 s4k5
def qlf43_5 (a0n : Nat) (a0nl : Bool) (h0rw : Bool) (h0 : List Int) : Option Qlf43_5 → Out
  | none => none
  | some .e0 => some (XT.ret, (St.mk [(2, (AV.int IntKind.i64 (-(1 : Int) : Int)))] [(Blk.dyn h0rw 3 [(Col.ints IntKind.i64 h0)])]))
  | some (.e1 s3) => some ((XT.exit 0), (St.mk [(3, (AV.int IntKind.i64 s3))] [(Blk.dyn h0rw 3 [(Col.ints IntKind.i64 h0)])]))
theorem elf43_5 (N : Nat) (a0n : Nat) (a0nl : Bool) (h0rw : Bool) (h0 : List Int) : ∀ (n : Nat) (s3k5 : Int) (s4k5 : Int), qlf43_5 a0n a0nl h0rw h0 (lf43_5 N a0n h0 n s3k5 s4k5) = lp (ctx43 N) 1 Try.f43 5 n (St.mk [(0, (AV.slice 0 0 0 a0n 1 a0nl true)), (3, (AV.int IntKind.i64 s3k5)), (4, (AV.int IntKind.i64 s4k5))] [(Blk.dyn h0rw 3 [(Col.ints IntKind.i64 h0)])]) := by
  intro n
  induction n with
  | zero => intros; kernel_rfl
  | succ n ih =>
    intro s3k5 s4k5
    rw [lf43_5]
    unfold slf43_5
    refine br (p := (s4k5 < ((a0n : Nat) : Int))) (fun h7x => ?_) (fun h7x => finL (ctx43 N) 1 Try.f43 5 n [.b false] (by kernel_rfl) (ya (pF h7x) yz))
    refine br (p := (((0 : Int) ≤ s4k5) ∧ ((Int.toNat s4k5) < a0n))) (fun h8x => ?_) (fun h8x => finL (ctx43 N) 1 Try.f43 5 n [.b true, .b false] (by kernel_rfl) (ya (pT h7x) (ya (pF h8x) yz)))
    refine br (p := ((0 + (Int.toNat s4k5)) < (List.length h0))) (fun h9x => ?_) (fun h9x => finL (ctx43 N) 1 Try.f43 5 n [.b true, .b true, .b false] (by kernel_rfl) (ya (pT h7x) (ya (pT h8x) (ya (pF h9x) yz))))
    refine br (p := ((List.getD h0 (0 + (Int.toNat s4k5)) (0 : Int)) < (0 : Int))) (fun h10x => finL (ctx43 N) 1 Try.f43 5 n [.b true, .b true, .b true, .b true, .b true, .b true, .b true, .b true, .b true] (by kernel_rfl) (ya (pT h7x) (ya (pT h8x) (ya (pT h9x) (ya (pT h10x) (yt (yt (yt (yt (yt yz)))))))))) (fun h10x => ?_)
    refine br (p := ((List.getD h0 (0 + (Int.toNat s4k5)) (0 : Int)) > (15 : Int))) (fun h11x => finL (ctx43 N) 1 Try.f43 5 n [.b true, .b true, .b true, .b false, .b false, .b false, .b true, .b false, .b true, .b false, .b true] (by kernel_rfl) (ya (pT h7x) (ya (pT h8x) (ya (pT h9x) (ya (pF h10x) (yf (yf (ya (pT h8x) (yf (ya (pT h9x) (yf (ya (pT h11x) yz)))))))))))) (fun h11x => ?_)
    refine br (p := ((List.getD h0 (0 + (Int.toNat s4k5)) (0 : Int)) > (0 : Int))) (fun h12x => ?_) (fun h12x => (ih s3k5 (IntKind.wrap IntKind.i64 (s4k5 + (1 : Int)))).trans (finL (ctx43 N) 1 Try.f43 5 n [.b true, .b true, .b true, .b false, .b false, .b false, .b true, .b false, .b true, .b false, .b false, .b true, .b true, .b false] (by kernel_rfl) (ya (pT h7x) (ya (pT h8x) (ya (pT h9x) (ya (pF h10x) (yf (yf (ya (pT h8x) (yf (ya (pT h9x) (yf (ya (pF h11x) (ya (pT h8x) (ya (pT h9x) (ya (pF h12x) yz))))))))))))))))
    cases hc13 : f62 N (IntKind.wrap IntKind.i64 ((15 : Int) - (List.getD h0 (0 + (Int.toNat s4k5)) (0 : Int)))) with
    | none => exact finL (ctx43 N) 1 Try.f43 5 n [.b true, .b true, .b true, .b false, .b false, .b false, .b true, .b false, .b true, .b false, .b false, .b true, .b true, .b true, .b true, .b true, .call (rf62 (IntKind.wrap IntKind.i64 ((15 : Int) - (List.getD h0 (0 + (Int.toNat s4k5)) (0 : Int)))) none)] (by kernel_rfl) (ya (pT h7x) (ya (pT h8x) (ya (pT h9x) (ya (pF h10x) (yf (yf (ya (pT h8x) (yf (ya (pT h9x) (yf (ya (pF h11x) (ya (pT h8x) (ya (pT h9x) (ya (pT h12x) (ya (pT h8x) (ya (pT h9x) (ya (ys (ef62 N (IntKind.wrap IntKind.i64 ((15 : Int) - (List.getD h0 (0 + (Int.toNat s4k5)) (0 : Int))))) hc13) yz)))))))))))))))))
    | some o =>
      cases o with
      | r0 resc13 =>
        dsimp only
        exact (ih (IntKind.wrap IntKind.i64 (s3k5 + resc13)) (IntKind.wrap IntKind.i64 (s4k5 + (1 : Int)))).trans (finL (ctx43 N) 1 Try.f43 5 n [.b true, .b true, .b true, .b false, .b false, .b false, .b true, .b false, .b true, .b false, .b false, .b true, .b true, .b true, .b true, .b true, .call (rf62 (IntKind.wrap IntKind.i64 ((15 : Int) - (List.getD h0 (0 + (Int.toNat s4k5)) (0 : Int)))) (some (.r0 resc13)))] (by kernel_rfl) (ya (pT h7x) (ya (pT h8x) (ya (pT h9x) (ya (pF h10x) (yf (yf (ya (pT h8x) (yf (ya (pT h9x) (yf (ya (pF h11x) (ya (pT h8x) (ya (pT h9x) (ya (pT h12x) (ya (pT h8x) (ya (pT h9x) (ya (ys (ef62 N (IntKind.wrap IntKind.i64 ((15 : Int) - (List.getD h0 (0 + (Int.toNat s4k5)) (0 : Int))))) hc13) yz))))))))))))))))))
/-! 43 -/
inductive Rf43 where
  | r0 (res : Int)
def f43 (N : Nat) (a0n : Nat) (h0 : List Int) : Option Rf43 :=
 if (((a0n : Nat) : Int) > (320 : Int)) then
  some (.r0 (-(1 : Int) : Int))
 else
 (match lf43_5 N a0n h0 N (0 : Int) (0 : Int) with
 | none => none
 | some .e0 =>
  some (.r0 (-(1 : Int) : Int))
 | some (.e1 s3l14) =>
  some (.r0 s3l14))
def rf43 (a0n : Nat) (a0nl : Bool) (h0rw : Bool) (h0 : List Int) : Option Rf43 → Option (AV × Heap)
  | none => none
  | some (.r0 res) => some ((AV.int IntKind.i64 res), [(Blk.dyn h0rw 3 [(Col.ints IntKind.i64 h0)])])
theorem ef43 (N : Nat) (a0n : Nat) (a0nl : Bool) (h0rw : Bool) (h0 : List Int) : rf43 a0n a0nl h0rw h0 (f43 N a0n h0) = sem43 N [(AV.slice 0 0 0 a0n 1 a0nl true)] [(Blk.dyn h0rw 3 [(Col.ints IntKind.i64 h0)])] := by
  unfold f43
  refine br (p := (((a0n : Nat) : Int) > (320 : Int))) (fun h0x => finF (ctx43 N) Try.f43 [.b true] (by kernel_rfl) (ya (pT h0x) yz)) (fun h0x => ?_)
  cases ho14 : lf43_5 N a0n h0 N (0 : Int) (0 : Int) with
  | none => exact finF (ctx43 N) Try.f43 [.b false, .out (qlf43_5 a0n a0nl h0rw h0 none)] (by kernel_rfl) (ya (pF h0x) (ya (ys (elf43_5 N a0n a0nl h0rw h0 N (0 : Int) (0 : Int)) ho14) yz))
  | some o =>
    cases o with
    | e0 =>
      dsimp only
      exact finF (ctx43 N) Try.f43 [.b false, .out (qlf43_5 a0n a0nl h0rw h0 (some .e0))] (by kernel_rfl) (ya (pF h0x) (ya (ys (elf43_5 N a0n a0nl h0rw h0 N (0 : Int) (0 : Int)) ho14) yz))
    | e1 s3l14 =>
      dsimp only
      exact finF (ctx43 N) Try.f43 [.b false, .out (qlf43_5 a0n a0nl h0rw h0 (some (.e1 s3l14)))] (by kernel_rfl) (ya (pF h0x) (ya (ys (elf43_5 N a0n a0nl h0rw h0 N (0 : Int) (0 : Int)) ho14) yz))
/-! 39, loop 13 -/
inductive Qlf39_13 where
  | e0 (s6 : Int) (h1 : List Int)
def slf39_13 (N : Nat) (a0n : Nat) (h0 : List Int) (s7k9 : Int) (n : Nat) (go : Int → Int → List Int → Option Qlf39_13) (s6k13 : Int) (s8k13 : Int) (h1k13 : List Int) : Option Qlf39_13 :=
 if (s8k13 < ((a0n : Nat) : Int)) then
  if (((0 : Int) ≤ s8k13) ∧ ((Int.toNat s8k13) < a0n)) then
   if ((0 + (Int.toNat s8k13)) < (List.length h0)) then
    if ((List.getD h0 (0 + (Int.toNat s8k13)) (0 : Int)) = s7k9) then
     if ((0 + (Int.toNat s8k13)) < (List.length h1k13)) then
      go (IntKind.wrap IntKind.i64 (s6k13 + (1 : Int))) (IntKind.wrap IntKind.i64 (s8k13 + (1 : Int))) (List.set h1k13 (0 + (Int.toNat s8k13)) s6k13)
     else
     none
    else
     go s6k13 (IntKind.wrap IntKind.i64 (s8k13 + (1 : Int))) h1k13
   else
    none
  else
   none
 else
  some (.e0 s6k13 h1k13)
def lf39_13 (N : Nat) (a0n : Nat) (h0 : List Int) (s7k9 : Int) : Nat → Int → Int → List Int → Option Qlf39_13
  | 0, _, _, _ => none
  | n + 1, s6k13, s8k13, h1k13 => slf39_13 N a0n h0 s7k9 n (lf39_13 N a0n h0 s7k9 n) s6k13 s8k13 h1k13
def qlf39_13 (a0n : Nat) (a0nl : Bool) (h0rw : Bool) (h0 : List Int) (s7k9 : Int) : Option Qlf39_13 → Out
  | none => none
  | some (.e0 s6 h1) => some ((XT.exit 2), (St.mk [(0, (AV.slice 0 0 0 a0n 1 a0nl true)), (5, (AV.slice 1 0 0 a0n 1 false true)), (6, (AV.int IntKind.i64 s6)), (7, (AV.int IntKind.i64 s7k9))] [(Blk.dyn h0rw 3 [(Col.ints IntKind.i64 h0)]), (Blk.dyn true 3 [(Col.ints IntKind.i64 h1)])]))
theorem elf39_13 (N : Nat) (a0n : Nat) (a0nl : Bool) (h0rw : Bool) (h0 : List Int) (s7k9 : Int) : ∀ (n : Nat) (s6k13 : Int) (s8k13 : Int) (h1k13 : List Int), qlf39_13 a0n a0nl h0rw h0 s7k9 (lf39_13 N a0n h0 s7k9 n s6k13 s8k13 h1k13) = lp (ctx39 N) 1 Try.f39 13 n (St.mk [(0, (AV.slice 0 0 0 a0n 1 a0nl true)), (5, (AV.slice 1 0 0 a0n 1 false true)), (6, (AV.int IntKind.i64 s6k13)), (7, (AV.int IntKind.i64 s7k9)), (8, (AV.int IntKind.i64 s8k13))] [(Blk.dyn h0rw 3 [(Col.ints IntKind.i64 h0)]), (Blk.dyn true 3 [(Col.ints IntKind.i64 h1k13)])]) := by
  intro n
  induction n with
  | zero => intros; kernel_rfl
  | succ n ih =>
    intro s6k13 s8k13 h1k13
    rw [lf39_13]
    unfold slf39_13
    refine br (p := (s8k13 < ((a0n : Nat) : Int))) (fun h19x => ?_) (fun h19x => finL (ctx39 N) 1 Try.f39 13 n [.b false] (by kernel_rfl) (ya (pF h19x) yz))
    refine br (p := (((0 : Int) ≤ s8k13) ∧ ((Int.toNat s8k13) < a0n))) (fun h20x => ?_) (fun h20x => finL (ctx39 N) 1 Try.f39 13 n [.b true, .b false] (by kernel_rfl) (ya (pT h19x) (ya (pF h20x) yz)))
    refine br (p := ((0 + (Int.toNat s8k13)) < (List.length h0))) (fun h21x => ?_) (fun h21x => finL (ctx39 N) 1 Try.f39 13 n [.b true, .b true, .b false] (by kernel_rfl) (ya (pT h19x) (ya (pT h20x) (ya (pF h21x) yz))))
    refine br (p := ((List.getD h0 (0 + (Int.toNat s8k13)) (0 : Int)) = s7k9)) (fun h22x => ?_) (fun h22x => (ih s6k13 (IntKind.wrap IntKind.i64 (s8k13 + (1 : Int))) h1k13).trans (finL (ctx39 N) 1 Try.f39 13 n [.b true, .b true, .b true, .b false] (by kernel_rfl) (ya (pT h19x) (ya (pT h20x) (ya (pT h21x) (ya (pNE h22x) yz))))))
    refine br (p := ((0 + (Int.toNat s8k13)) < (List.length h1k13))) (fun h23x => (ih (IntKind.wrap IntKind.i64 (s6k13 + (1 : Int))) (IntKind.wrap IntKind.i64 (s8k13 + (1 : Int))) (List.set h1k13 (0 + (Int.toNat s8k13)) s6k13)).trans (finL (ctx39 N) 1 Try.f39 13 n [.b true, .b true, .b true, .b true, .b true, .b true] (by kernel_rfl) (ya (pT h19x) (ya (pT h20x) (ya (pT h21x) (ya (pE h22x) (ya (pT h20x) (ya (pT h23x) yz)))))))) (fun h23x => ?_)
    exact finL (ctx39 N) 1 Try.f39 13 n [.b true, .b true, .b true, .b true, .b true, .b false] (by kernel_rfl) (ya (pT h19x) (ya (pT h20x) (ya (pT h21x) (ya (pE h22x) (ya (pT h20x) (ya (pF h23x) yz))))))
/-! 39, loop 9 -/
inductive Qlf39_9 where
  | e0 (h1 : List Int)
def slf39_9 (N : Nat) (a0n : Nat) (h0 : List Int) (n : Nat) (go : Int → Int → List Int → Option Qlf39_9) (s6k9 : Int) (s7k9 : Int) (h1k9 : List Int) : Option Qlf39_9 :=
 if (s7k9 ≤ (15 : Int)) then
  (match lf39_13 N a0n h0 s7k9 N (IntKind.wrap IntKind.i64 ((2 : Int) * s6k9)) (0 : Int) h1k9 with
  | none => none
  | some (.e0 s6l24 h1l24) =>
   go s6l24 (IntKind.wrap IntKind.i64 (s7k9 + (1 : Int))) h1l24)
 else
  some (.e0 h1k9)
def lf39_9 (N : Nat) (a0n : Nat) (h0 : List Int) : Nat → Int → Int → List Int → Option Qlf39_9
  | 0, _, _, _ => none
  | n + 1, s6k9, s7k9, h1k9 => slf39_9 N a0n h0 n (lf39_9 N a0n h0 n) s6k9 s7k9 h1k9
def qlf39_9 (a0n : Nat) (a0nl : Bool) (h0rw : Bool) (h0 : List Int) : Option Qlf39_9 → Out
  | none => none
  | some (.e0 h1) => some ((XT.exit 0), (St.mk [(5, (AV.slice 1 0 0 a0n 1 false true))] [(Blk.dyn h0rw 3 [(Col.ints IntKind.i64 h0)]), (Blk.dyn true 3 [(Col.ints IntKind.i64 h1)])]))
theorem elf39_9 (N : Nat) (a0n : Nat) (a0nl : Bool) (h0rw : Bool) (h0 : List Int) : ∀ (n : Nat) (s6k9 : Int) (s7k9 : Int) (h1k9 : List Int), qlf39_9 a0n a0nl h0rw h0 (lf39_9 N a0n h0 n s6k9 s7k9 h1k9) = lp (ctx39 N) 1 Try.f39 9 n (St.mk [(0, (AV.slice 0 0 0 a0n 1 a0nl true)), (5, (AV.slice 1 0 0 a0n 1 false true)), (6, (AV.int IntKind.i64 s6k9)), (7, (AV.int IntKind.i64 s7k9))] [(Blk.dyn h0rw 3 [(Col.ints IntKind.i64 h0)]), (Blk.dyn true 3 [(Col.ints IntKind.i64 h1k9)])]) := by
  intro n
  induction n with
  | zero => intros; kernel_rfl
  | succ n ih =>
    intro s6k9 s7k9 h1k9
    rw [lf39_9]
    unfold slf39_9
    refine br (p := (s7k9 ≤ (15 : Int))) (fun h14x => ?_) (fun h14x => finL (ctx39 N) 1 Try.f39 9 n [.b false] (by kernel_rfl) (ya (pF h14x) yz))
    cases ho24 : lf39_13 N a0n h0 s7k9 N (IntKind.wrap IntKind.i64 ((2 : Int) * s6k9)) (0 : Int) h1k9 with
    | none => exact finL (ctx39 N) 1 Try.f39 9 n [.b true, .out (qlf39_13 a0n a0nl h0rw h0 s7k9 none)] (by kernel_rfl) (ya (pT h14x) (ya (ys (elf39_13 N a0n a0nl h0rw h0 s7k9 N (IntKind.wrap IntKind.i64 ((2 : Int) * s6k9)) (0 : Int) h1k9) ho24) yz))
    | some o =>
      cases o with
      | e0 s6l24 h1l24 =>
        dsimp only
        exact (ih s6l24 (IntKind.wrap IntKind.i64 (s7k9 + (1 : Int))) h1l24).trans (finL (ctx39 N) 1 Try.f39 9 n [.b true, .out (qlf39_13 a0n a0nl h0rw h0 s7k9 (some (.e0 s6l24 h1l24)))] (by kernel_rfl) (ya (pT h14x) (ya (ys (elf39_13 N a0n a0nl h0rw h0 s7k9 N (IntKind.wrap IntKind.i64 ((2 : Int) * s6k9)) (0 : Int) h1k9) ho24) yz)))
/-! 39 -/
inductive Rf39 where
  | r0 (res_0n : Nat) (res_0nl : Bool) (res_1 : Int) (h1 : List Int)
def f39 (N : Nat) (a0n : Nat) (h0 : List Int) : Option Rf39 :=
 (match f43 N a0n h0 with
 | none => none
 | some (.r0 resc0) =>
  if (resc0 < (0 : Int)) then
   some (.r0 0 true (1 : Int) ([] : List Int))
  else
  if (resc0 > (32768 : Int)) then
   some (.r0 0 true (4 : Int) ([] : List Int))
  else
  if (((0 : Int) ≤ ((a0n : Nat) : Int)) ∧ ((((a0n : Nat) : Int) ≤ ((a0n : Nat) : Int)) ∧ (((a0n : Nat) : Int) ≤ (1099511627776 : Int)))) then
   (match lf39_9 N a0n h0 N (0 : Int) (1 : Int) (List.replicate a0n (0 : Int)) with
   | none => none
   | some (.e0 h1l25) =>
    some (.r0 a0n false (0 : Int) h1l25))
  else
   none)
def rf39 (a0n : Nat) (a0nl : Bool) (h0rw : Bool) (h0 : List Int) : Option Rf39 → Option (AV × Heap)
  | none => none
  | some (.r0 res_0n res_0nl res_1 h1) => some ((AV.tuple [(AV.slice 1 0 0 res_0n 1 res_0nl true), (AV.int IntKind.i64 res_1)]), [(Blk.dyn h0rw 3 [(Col.ints IntKind.i64 h0)]), (Blk.dyn true 3 [(Col.ints IntKind.i64 h1)])])
theorem ef39 (N : Nat) (a0n : Nat) (a0nl : Bool) (h0rw : Bool) (h0 : List Int) : rf39 a0n a0nl h0rw h0 (f39 N a0n h0) = sem39 N [(AV.slice 0 0 0 a0n 1 a0nl true)] [(Blk.dyn h0rw 3 [(Col.ints IntKind.i64 h0)])] := by
  unfold f39
  cases hc0 : f43 N a0n h0 with
  | none => exact finF (ctx39 N) Try.f39 [.call (rf43 a0n a0nl h0rw h0 none)] (by kernel_rfl) (ya (ys (ef43 N a0n a0nl h0rw h0) hc0) yz)
  | some o =>
    cases o with
    | r0 resc0 =>
      dsimp only
      refine br (p := (resc0 < (0 : Int))) (fun h1x => finF (ctx39 N) Try.f39 [.call (rf43 a0n a0nl h0rw h0 (some (.r0 resc0))), .b true] (by kernel_rfl) (ya (ys (ef43 N a0n a0nl h0rw h0) hc0) (ya (pT h1x) yz))) (fun h1x => ?_)
      refine br (p := (resc0 > (32768 : Int))) (fun h2x => finF (ctx39 N) Try.f39 [.call (rf43 a0n a0nl h0rw h0 (some (.r0 resc0))), .b false, .b true] (by kernel_rfl) (ya (ys (ef43 N a0n a0nl h0rw h0) hc0) (ya (pF h1x) (ya (pT h2x) yz)))) (fun h2x => ?_)
      refine br (p := (((0 : Int) ≤ ((a0n : Nat) : Int)) ∧ ((((a0n : Nat) : Int) ≤ ((a0n : Nat) : Int)) ∧ (((a0n : Nat) : Int) ≤ (1099511627776 : Int))))) (fun h3x => ?_) (fun h3x => finF (ctx39 N) Try.f39 [.call (rf43 a0n a0nl h0rw h0 (some (.r0 resc0))), .b false, .b false, .b false] (by kernel_rfl) (ya (ys (ef43 N a0n a0nl h0rw h0) hc0) (ya (pF h1x) (ya (pF h2x) (ya (pF h3x) yz)))))
      cases ho25 : lf39_9 N a0n h0 N (0 : Int) (1 : Int) (List.replicate a0n (0 : Int)) with
      | none => exact finF (ctx39 N) Try.f39 [.call (rf43 a0n a0nl h0rw h0 (some (.r0 resc0))), .b false, .b false, .b true, .out (qlf39_9 a0n a0nl h0rw h0 none)] (by kernel_rfl) (ya (ys (ef43 N a0n a0nl h0rw h0) hc0) (ya (pF h1x) (ya (pF h2x) (ya (pT h3x) (ya (ys (elf39_9 N a0n a0nl h0rw h0 N (0 : Int) (1 : Int) (List.replicate a0n (0 : Int))) ho25) yz)))))
      | some o =>
        cases o with
        | e0 h1l25 =>
          dsimp only
          exact finF (ctx39 N) Try.f39 [.call (rf43 a0n a0nl h0rw h0 (some (.r0 resc0))), .b false, .b false, .b true, .out (qlf39_9 a0n a0nl h0rw h0 (some (.e0 h1l25)))] (by kernel_rfl) (ya (ys (ef43 N a0n a0nl h0rw h0) hc0) (ya (pF h1x) (ya (pF h2x) (ya (pT h3x) (ya (ys (elf39_9 N a0n a0nl h0rw h0 N (0 : Int) (1 : Int) (List.replicate a0n (0 : Int))) ho25) yz)))))
/-! 14, loop 7 -/
inductive Qlf14_7 where
  | e0 (h1 : List Bool)
def slf14_7 (N : Nat) (a1 : Int) (h0 : List Int) (n : Nat) (go : Int → Int → List Bool → Option Qlf14_7) (s8k7 : Int) (s9k7 : Int) (h1k7 : List Bool) : Option Qlf14_7 :=
 if (s9k7 ≥ (0 : Int)) then
  if (((0 : Int) ≤ s9k7) ∧ ((Int.toNat s9k7) < (Int.toNat (List.getD h0 (0 + (Int.toNat a1)) (0 : Int))))) then
   if ((0 + (Int.toNat s9k7)) < (List.length h1k7)) then
    go (IntKind.wrap IntKind.i64 (Int.tdiv s8k7 (2 : Int))) (IntKind.wrap IntKind.i64 (s9k7 - (1 : Int))) (List.set h1k7 (0 + (Int.toNat s9k7)) ((Int.tmod s8k7 (2 : Int)) == (1 : Int)))
   else
    none
  else
   none
 else
  some (.e0 h1k7)
def lf14_7 (N : Nat) (a1 : Int) (h0 : List Int) : Nat → Int → Int → List Bool → Option Qlf14_7
  | 0, _, _, _ => none
  | n + 1, s8k7, s9k7, h1k7 => slf14_7 N a1 h0 n (lf14_7 N a1 h0 n) s8k7 s9k7 h1k7
def qlf14_7 (a1 : Int) (h0rw : Bool) (h0 : List Int) : Option Qlf14_7 → Out
  | none => none
  | some (.e0 h1) => some ((XT.exit 0), (St.mk [(7, (AV.slice 1 0 0 (Int.toNat (List.getD h0 (0 + (Int.toNat a1)) (0 : Int))) 1 false true))] [(Blk.dyn h0rw 3 [(Col.ints IntKind.i64 h0)]), (Blk.dyn true 4 [(Col.bools h1)])]))
theorem elf14_7 (N : Nat) (a1 : Int) (h0rw : Bool) (h0 : List Int) : ∀ (n : Nat) (s8k7 : Int) (s9k7 : Int) (h1k7 : List Bool), qlf14_7 a1 h0rw h0 (lf14_7 N a1 h0 n s8k7 s9k7 h1k7) = lp (ctx14 N) 1 Try.f14 7 n (St.mk [(7, (AV.slice 1 0 0 (Int.toNat (List.getD h0 (0 + (Int.toNat a1)) (0 : Int))) 1 false true)), (8, (AV.int IntKind.i64 s8k7)), (9, (AV.int IntKind.i64 s9k7))] [(Blk.dyn h0rw 3 [(Col.ints IntKind.i64 h0)]), (Blk.dyn true 4 [(Col.bools h1k7)])]) := by
  intro n
  induction n with
  | zero => intros; kernel_rfl
  | succ n ih =>
    intro s8k7 s9k7 h1k7
    rw [lf14_7]
    unfold slf14_7
    refine br (p := (s9k7 ≥ (0 : Int))) (fun h11x => ?_) (fun h11x => finL (ctx14 N) 1 Try.f14 7 n [.b false] (by kernel_rfl) (ya (pF h11x) yz))
    refine br (p := (((0 : Int) ≤ s9k7) ∧ ((Int.toNat s9k7) < (Int.toNat (List.getD h0 (0 + (Int.toNat a1)) (0 : Int)))))) (fun h12x => ?_) (fun h12x => finL (ctx14 N) 1 Try.f14 7 n [.b true, .b false, .b false] (by kernel_rfl) (ya (pT h11x) (yf (ya (pF h12x) yz))))
    refine br (p := ((0 + (Int.toNat s9k7)) < (List.length h1k7))) (fun h13x => (ih (IntKind.wrap IntKind.i64 (Int.tdiv s8k7 (2 : Int))) (IntKind.wrap IntKind.i64 (s9k7 - (1 : Int))) (List.set h1k7 (0 + (Int.toNat s9k7)) ((Int.tmod s8k7 (2 : Int)) == (1 : Int)))).trans (finL (ctx14 N) 1 Try.f14 7 n [.b true, .b false, .b true, .b true, .b false] (by kernel_rfl) (ya (pT h11x) (yf (ya (pT h12x) (ya (pT h13x) (yf yz))))))) (fun h13x => ?_)
    exact finL (ctx14 N) 1 Try.f14 7 n [.b true, .b false, .b true, .b false] (by kernel_rfl) (ya (pT h11x) (yf (ya (pT h12x) (ya (pF h13x) yz))))
/-! 14 -/
inductive Rf14 where
  | r0 (resn : Nat) (resnl : Bool) (h1 : List Bool)
def f14 (N : Nat) (a0n : Nat) (a1 : Int) (h0 : List Int) : Option Rf14 :=
 if (a1 < (0 : Int)) then
  some (.r0 0 true ([] : List Bool))
 else
  if (a1 ≥ ((a0n : Nat) : Int)) then
   some (.r0 0 true ([] : List Bool))
  else
   if ((0 + (Int.toNat a1)) < (List.length h0)) then
    if ((List.getD h0 (0 + (Int.toNat a1)) (0 : Int)) = (0 : Int)) then
     some (.r0 0 true ([] : List Bool))
    else
    (match f39 N a0n h0 with
    | none => none
    | some (.r0 res_0nc4 res_0nlc4 res_1c4 h1c4) =>
     if (((0 : Int) ≤ (List.getD h0 (0 + (Int.toNat a1)) (0 : Int))) ∧ (((List.getD h0 (0 + (Int.toNat a1)) (0 : Int)) ≤ (List.getD h0 (0 + (Int.toNat a1)) (0 : Int))) ∧ ((List.getD h0 (0 + (Int.toNat a1)) (0 : Int)) ≤ (1099511627776 : Int)))) then
      if (((0 : Int) ≤ a1) ∧ ((Int.toNat a1) < res_0nc4)) then
       if ((0 + (Int.toNat a1)) < (List.length h1c4)) then
        (match lf14_7 N a1 h0 N (List.getD h1c4 (0 + (Int.toNat a1)) (0 : Int)) (IntKind.wrap IntKind.i64 ((List.getD h0 (0 + (Int.toNat a1)) (0 : Int)) - (1 : Int))) (List.replicate (Int.toNat (List.getD h0 (0 + (Int.toNat a1)) (0 : Int))) false) with
        | none => none
        | some (.e0 h1l14) =>
         some (.r0 (Int.toNat (List.getD h0 (0 + (Int.toNat a1)) (0 : Int))) false h1l14))
       else
        none
      else
       none
     else
      none)
   else
    none
def rf14 (a0n : Nat) (a0nl : Bool) (a1 : Int) (h0rw : Bool) (h0 : List Int) : Option Rf14 → Option (AV × Heap)
  | none => none
  | some (.r0 resn resnl h1) => some ((AV.slice 1 0 0 resn 1 resnl true), [(Blk.dyn h0rw 3 [(Col.ints IntKind.i64 h0)]), (Blk.dyn true 4 [(Col.bools h1)])])
theorem ef14 (N : Nat) (a0n : Nat) (a0nl : Bool) (a1 : Int) (h0rw : Bool) (h0 : List Int) : rf14 a0n a0nl a1 h0rw h0 (f14 N a0n a1 h0) = sem14 N [(AV.slice 0 0 0 a0n 1 a0nl true), (AV.int IntKind.i64 a1)] [(Blk.dyn h0rw 3 [(Col.ints IntKind.i64 h0)])] := by
  unfold f14
  refine br (p := (a1 < (0 : Int))) (fun h0x => finF (ctx14 N) Try.f14 [.b true, .b true, .b true, .b true, .b true, .b true, .b true, .b true, .b true, .b true] (by kernel_rfl) (ya (pT h0x) (yt (yt (yt (yt (yt (yt (yt (yt (yt yz))))))))))) (fun h0x => ?_)
  refine br (p := (a1 ≥ ((a0n : Nat) : Int))) (fun h1x => finF (ctx14 N) Try.f14 [.b false, .b false, .b false, .b false, .b true, .b true, .b true, .b true, .b true, .b true] (by kernel_rfl) (ya (pF h0x) (yf (yf (yf (ya (pT h1x) (yt (yt (yt (yt (yt yz))))))))))) (fun h1x => ?_)
  refine br (p := ((0 + (Int.toNat a1)) < (List.length h0))) (fun h2x => ?_) (fun h2x => finF (ctx14 N) Try.f14 [.b false, .b false, .b false, .b false, .b false, .b false, .b false, .b true, .b false, .b false] (by kernel_rfl) (ya (pF h0x) (yf (yf (yf (ya (pF h1x) (yf (yf (ya (pT (show (((0 : Int) ≤ a1) ∧ ((Int.toNat a1) < a0n)) by omega)) (yf (ya (pF h2x) yz)))))))))))
  refine br (p := ((List.getD h0 (0 + (Int.toNat a1)) (0 : Int)) = (0 : Int))) (fun h3x => finF (ctx14 N) Try.f14 [.b false, .b false, .b false, .b false, .b false, .b false, .b false, .b true, .b false, .b true, .b false, .b true] (by kernel_rfl) (ya (pF h0x) (yf (yf (yf (ya (pF h1x) (yf (yf (ya (pT (show (((0 : Int) ≤ a1) ∧ ((Int.toNat a1) < a0n)) by omega)) (yf (ya (pT h2x) (yf (ya (pE h3x) yz))))))))))))) (fun h3x => ?_)
  cases hc4 : f39 N a0n h0 with
  | none => exact finF (ctx14 N) Try.f14 [.b false, .b false, .b false, .b false, .b false, .b false, .b false, .b true, .b false, .b true, .b false, .b false, .call (rf39 a0n a0nl h0rw h0 none)] (by kernel_rfl) (ya (pF h0x) (yf (yf (yf (ya (pF h1x) (yf (yf (ya (pT (show (((0 : Int) ≤ a1) ∧ ((Int.toNat a1) < a0n)) by omega)) (yf (ya (pT h2x) (yf (ya (pNE h3x) (ya (ys (ef39 N a0n a0nl h0rw h0) hc4) yz)))))))))))))
  | some o =>
    cases o with
    | r0 res_0nc4 res_0nlc4 res_1c4 h1c4 =>
      dsimp only
      refine br (p := (((0 : Int) ≤ (List.getD h0 (0 + (Int.toNat a1)) (0 : Int))) ∧ (((List.getD h0 (0 + (Int.toNat a1)) (0 : Int)) ≤ (List.getD h0 (0 + (Int.toNat a1)) (0 : Int))) ∧ ((List.getD h0 (0 + (Int.toNat a1)) (0 : Int)) ≤ (1099511627776 : Int))))) (fun h5x => ?_) (fun h5x => finF (ctx14 N) Try.f14 [.b false, .b false, .b false, .b false, .b false, .b false, .b false, .b true, .b false, .b true, .b false, .b false, .call (rf39 a0n a0nl h0rw h0 (some (.r0 res_0nc4 res_0nlc4 res_1c4 h1c4))), .b true, .b true, .b false] (by kernel_rfl) (ya (pF h0x) (yf (yf (yf (ya (pF h1x) (yf (yf (ya (pT (show (((0 : Int) ≤ a1) ∧ ((Int.toNat a1) < a0n)) by omega)) (yf (ya (pT h2x) (yf (ya (pNE h3x) (ya (ys (ef39 N a0n a0nl h0rw h0) hc4) (ya (pT (show (((0 : Int) ≤ a1) ∧ ((Int.toNat a1) < a0n)) by omega)) (ya (pT h2x) (ya (pF h5x) yz)))))))))))))))))
      refine br (p := (((0 : Int) ≤ a1) ∧ ((Int.toNat a1) < res_0nc4))) (fun h6x => ?_) (fun h6x => finF (ctx14 N) Try.f14 [.b false, .b false, .b false, .b false, .b false, .b false, .b false, .b true, .b false, .b true, .b false, .b false, .call (rf39 a0n a0nl h0rw h0 (some (.r0 res_0nc4 res_0nlc4 res_1c4 h1c4))), .b true, .b true, .b true, .b false] (by kernel_rfl) (ya (pF h0x) (yf (yf (yf (ya (pF h1x) (yf (yf (ya (pT (show (((0 : Int) ≤ a1) ∧ ((Int.toNat a1) < a0n)) by omega)) (yf (ya (pT h2x) (yf (ya (pNE h3x) (ya (ys (ef39 N a0n a0nl h0rw h0) hc4) (ya (pT (show (((0 : Int) ≤ a1) ∧ ((Int.toNat a1) < a0n)) by omega)) (ya (pT h2x) (ya (pT h5x) (ya (pF h6x) yz))))))))))))))))))
      refine br (p := ((0 + (Int.toNat a1)) < (List.length h1c4))) (fun h7x => ?_) (fun h7x => finF (ctx14 N) Try.f14 [.b false, .b false, .b false, .b false, .b false, .b false, .b false, .b true, .b false, .b true, .b false, .b false, .call (rf39 a0n a0nl h0rw h0 (some (.r0 res_0nc4 res_0nlc4 res_1c4 h1c4))), .b true, .b true, .b true, .b true, .b false] (by kernel_rfl) (ya (pF h0x) (yf (yf (yf (ya (pF h1x) (yf (yf (ya (pT (show (((0 : Int) ≤ a1) ∧ ((Int.toNat a1) < a0n)) by omega)) (yf (ya (pT h2x) (yf (ya (pNE h3x) (ya (ys (ef39 N a0n a0nl h0rw h0) hc4) (ya (pT (show (((0 : Int) ≤ a1) ∧ ((Int.toNat a1) < a0n)) by omega)) (ya (pT h2x) (ya (pT h5x) (ya (pT h6x) (ya (pF h7x) yz)))))))))))))))))))
      cases ho14 : lf14_7 N a1 h0 N (List.getD h1c4 (0 + (Int.toNat a1)) (0 : Int)) (IntKind.wrap IntKind.i64 ((List.getD h0 (0 + (Int.toNat a1)) (0 : Int)) - (1 : Int))) (List.replicate (Int.toNat (List.getD h0 (0 + (Int.toNat a1)) (0 : Int))) false) with
      | none => exact finF (ctx14 N) Try.f14 [.b false, .b false, .b false, .b false, .b false, .b false, .b false, .b true, .b false, .b true, .b false, .b false, .call (rf39 a0n a0nl h0rw h0 (some (.r0 res_0nc4 res_0nlc4 res_1c4 h1c4))), .b true, .b true, .b true, .b true, .b true, .b true, .b true, .out (qlf14_7 a1 h0rw h0 none)] (by kernel_rfl) (ya (pF h0x) (yf (yf (yf (ya (pF h1x) (yf (yf (ya (pT (show (((0 : Int) ≤ a1) ∧ ((Int.toNat a1) < a0n)) by omega)) (yf (ya (pT h2x) (yf (ya (pNE h3x) (ya (ys (ef39 N a0n a0nl h0rw h0) hc4) (ya (pT (show (((0 : Int) ≤ a1) ∧ ((Int.toNat a1) < a0n)) by omega)) (ya (pT h2x) (ya (pT h5x) (ya (pT h6x) (ya (pT h7x) (ya (pT (show (((0 : Int) ≤ a1) ∧ ((Int.toNat a1) < a0n)) by omega)) (ya (pT h2x) (ya (ys (elf14_7 N a1 h0rw h0 N (List.getD h1c4 (0 + (Int.toNat a1)) (0 : Int)) (IntKind.wrap IntKind.i64 ((List.getD h0 (0 + (Int.toNat a1)) (0 : Int)) - (1 : Int))) (List.replicate (Int.toNat (List.getD h0 (0 + (Int.toNat a1)) (0 : Int))) false)) ho14) yz)))))))))))))))))))))
      | some o =>
        cases o with
        | e0 h1l14 =>
          dsimp only
          exact finF (ctx14 N) Try.f14 [.b false, .b false, .b false, .b false, .b false, .b false, .b false, .b true, .b false, .b true, .b false, .b false, .call (rf39 a0n a0nl h0rw h0 (some (.r0 res_0nc4 res_0nlc4 res_1c4 h1c4))), .b true, .b true, .b true, .b true, .b true, .b true, .b true, .out (qlf14_7 a1 h0rw h0 (some (.e0 h1l14)))] (by kernel_rfl) (ya (pF h0x) (yf (yf (yf (ya (pF h1x) (yf (yf (ya (pT (show (((0 : Int) ≤ a1) ∧ ((Int.toNat a1) < a0n)) by omega)) (yf (ya (pT h2x) (yf (ya (pNE h3x) (ya (ys (ef39 N a0n a0nl h0rw h0) hc4) (ya (pT (show (((0 : Int) ≤ a1) ∧ ((Int.toNat a1) < a0n)) by omega)) (ya (pT h2x) (ya (pT h5x) (ya (pT h6x) (ya (pT h7x) (ya (pT (show (((0 : Int) ≤ a1) ∧ ((Int.toNat a1) < a0n)) by omega)) (ya (pT h2x) (ya (ys (elf14_7 N a1 h0rw h0 N (List.getD h1c4 (0 + (Int.toNat a1)) (0 : Int)) (IntKind.wrap IntKind.i64 ((List.getD h0 (0 + (Int.toNat a1)) (0 : Int)) - (1 : Int))) (List.replicate (Int.toNat (List.getD h0 (0 + (Int.toNat a1)) (0 : Int))) false)) ho14) yz)))))))))))))))))))))
/-! 17, loop 8 -/
inductive Qlf17_8 where
  | e0 (s5 : Int)
def slf17_8 (N : Nat) (s4k3 : Int) (n : Nat) (go : Int → Int → Option Qlf17_8) (s5k8 : Int) (s6k8 : Int) : Option Qlf17_8 :=
 if (s6k8 < (Int.tmod s4k3 (8 : Int))) then
  go (IntKind.wrap IntKind.i64 ((2 : Int) * s5k8)) (IntKind.wrap IntKind.i64 (s6k8 + (1 : Int)))
 else
 some (.e0 s5k8)
def lf17_8 (N : Nat) (s4k3 : Int) : Nat → Int → Int → Option Qlf17_8
  | 0, _, _ => none
  | n + 1, s5k8, s6k8 => slf17_8 N s4k3 n (lf17_8 N s4k3 n) s5k8 s6k8
def qlf17_8 (a0n : Nat) (a0nl : Bool) (h0rw : Bool) (h0 : List Bool) (s4k3 : Int) (h1k3 : List Int) : Option Qlf17_8 → Out
  | none => none
  | some (.e0 s5) => some ((XT.exit 2), (St.mk [(0, (AV.slice 0 0 0 a0n 1 a0nl true)), (3, (AV.slice 1 0 0 (Int.toNat (IntKind.wrap IntKind.i64 (Int.tdiv (IntKind.wrap IntKind.i64 (((a0n : Nat) : Int) + (7 : Int))) (8 : Int)))) 1 false true)), (4, (AV.int IntKind.i64 s4k3)), (5, (AV.int IntKind.i64 s5))] [(Blk.dyn h0rw 4 [(Col.bools h0)]), (Blk.dyn true 5 [(Col.ints IntKind.u8 h1k3)])]))
theorem elf17_8 (N : Nat) (a0n : Nat) (a0nl : Bool) (h0rw : Bool) (h0 : List Bool) (s4k3 : Int) (h1k3 : List Int) : ∀ (n : Nat) (s5k8 : Int) (s6k8 : Int), qlf17_8 a0n a0nl h0rw h0 s4k3 h1k3 (lf17_8 N s4k3 n s5k8 s6k8) = lp (ctx17 N) 1 Try.f17 8 n (St.mk [(0, (AV.slice 0 0 0 a0n 1 a0nl true)), (3, (AV.slice 1 0 0 (Int.toNat (IntKind.wrap IntKind.i64 (Int.tdiv (IntKind.wrap IntKind.i64 (((a0n : Nat) : Int) + (7 : Int))) (8 : Int)))) 1 false true)), (4, (AV.int IntKind.i64 s4k3)), (5, (AV.int IntKind.i64 s5k8)), (6, (AV.int IntKind.i64 s6k8))] [(Blk.dyn h0rw 4 [(Col.bools h0)]), (Blk.dyn true 5 [(Col.ints IntKind.u8 h1k3)])]) := by
  intro n
  induction n with
  | zero => intros; kernel_rfl
  | succ n ih =>
    intro s5k8 s6k8
    rw [lf17_8]
    unfold slf17_8
    refine br (p := (s6k8 < (Int.tmod s4k3 (8 : Int)))) (fun h15x => (ih (IntKind.wrap IntKind.i64 ((2 : Int) * s5k8)) (IntKind.wrap IntKind.i64 (s6k8 + (1 : Int)))).trans (finL (ctx17 N) 1 Try.f17 8 n [.b false, .b true] (by kernel_rfl) (yf (ya (pT h15x) yz)))) (fun h15x => ?_)
    exact finL (ctx17 N) 1 Try.f17 8 n [.b false, .b false] (by kernel_rfl) (yf (ya (pF h15x) yz))
/-! 17, loop 3 -/
inductive Qlf17_3 where
  | e0 (h1 : List Int)
def slf17_3 (N : Nat) (a0n : Nat) (h0 : List Bool) (n : Nat) (go : Int → List Int → Option Qlf17_3) (s4k3 : Int) (h1k3 : List Int) : Option Qlf17_3 :=
 if (s4k3 ≥ (0 : Int)) then
  if (((0 : Int) ≤ s4k3) ∧ ((Int.toNat s4k3) < a0n)) then
   if ((0 + (Int.toNat s4k3)) < (List.length h0)) then
    if ((List.getD h0 (0 + (Int.toNat s4k3)) false) = true) then
     (match lf17_8 N s4k3 N (1 : Int) (0 : Int) with
     | none => none
     | some (.e0 s5l16) =>
      if (((0 : Int) ≤ (IntKind.wrap IntKind.i64 (Int.tdiv s4k3 (8 : Int)))) ∧ ((Int.toNat (IntKind.wrap IntKind.i64 (Int.tdiv s4k3 (8 : Int)))) < (Int.toNat (IntKind.wrap IntKind.i64 (Int.tdiv (IntKind.wrap IntKind.i64 (((a0n : Nat) : Int) + (7 : Int))) (8 : Int)))))) then
       if ((0 + (Int.toNat (IntKind.wrap IntKind.i64 (Int.tdiv s4k3 (8 : Int))))) < (List.length h1k3)) then
        go (IntKind.wrap IntKind.i64 (s4k3 - (1 : Int))) (List.set h1k3 (0 + (Int.toNat (IntKind.wrap IntKind.i64 (Int.tdiv s4k3 (8 : Int))))) (IntKind.wrap IntKind.u8 ((List.getD h1k3 (0 + (Int.toNat (IntKind.wrap IntKind.i64 (Int.tdiv s4k3 (8 : Int))))) (0 : Int)) + (IntKind.wrap IntKind.u8 s5l16))))
       else
        none
      else
       none)
    else
     go (IntKind.wrap IntKind.i64 (s4k3 - (1 : Int))) h1k3
   else
    none
  else
   none
 else
  some (.e0 h1k3)
def lf17_3 (N : Nat) (a0n : Nat) (h0 : List Bool) : Nat → Int → List Int → Option Qlf17_3
  | 0, _, _ => none
  | n + 1, s4k3, h1k3 => slf17_3 N a0n h0 n (lf17_3 N a0n h0 n) s4k3 h1k3
def qlf17_3 (a0n : Nat) (a0nl : Bool) (h0rw : Bool) (h0 : List Bool) : Option Qlf17_3 → Out
  | none => none
  | some (.e0 h1) => some ((XT.exit 0), (St.mk [(3, (AV.slice 1 0 0 (Int.toNat (IntKind.wrap IntKind.i64 (Int.tdiv (IntKind.wrap IntKind.i64 (((a0n : Nat) : Int) + (7 : Int))) (8 : Int)))) 1 false true))] [(Blk.dyn h0rw 4 [(Col.bools h0)]), (Blk.dyn true 5 [(Col.ints IntKind.u8 h1)])]))
theorem elf17_3 (N : Nat) (a0n : Nat) (a0nl : Bool) (h0rw : Bool) (h0 : List Bool) : ∀ (n : Nat) (s4k3 : Int) (h1k3 : List Int), qlf17_3 a0n a0nl h0rw h0 (lf17_3 N a0n h0 n s4k3 h1k3) = lp (ctx17 N) 1 Try.f17 3 n (St.mk [(0, (AV.slice 0 0 0 a0n 1 a0nl true)), (3, (AV.slice 1 0 0 (Int.toNat (IntKind.wrap IntKind.i64 (Int.tdiv (IntKind.wrap IntKind.i64 (((a0n : Nat) : Int) + (7 : Int))) (8 : Int)))) 1 false true)), (4, (AV.int IntKind.i64 s4k3))] [(Blk.dyn h0rw 4 [(Col.bools h0)]), (Blk.dyn true 5 [(Col.ints IntKind.u8 h1k3)])]) := by
  intro n
  induction n with
  | zero => intros; kernel_rfl
  | succ n ih =>
    intro s4k3 h1k3
    rw [lf17_3]
    unfold slf17_3
    refine br (p := (s4k3 ≥ (0 : Int))) (fun h10x => ?_) (fun h10x => finL (ctx17 N) 1 Try.f17 3 n [.b false] (by kernel_rfl) (ya (pF h10x) yz))
    refine br (p := (((0 : Int) ≤ s4k3) ∧ ((Int.toNat s4k3) < a0n))) (fun h11x => ?_) (fun h11x => finL (ctx17 N) 1 Try.f17 3 n [.b true, .b false] (by kernel_rfl) (ya (pT h10x) (ya (pF h11x) yz)))
    refine br (p := ((0 + (Int.toNat s4k3)) < (List.length h0))) (fun h12x => ?_) (fun h12x => finL (ctx17 N) 1 Try.f17 3 n [.b true, .b true, .b false] (by kernel_rfl) (ya (pT h10x) (ya (pT h11x) (ya (pF h12x) yz))))
    refine br (p := ((List.getD h0 (0 + (Int.toNat s4k3)) false) = true)) (fun h13x => ?_) (fun h13x => (ih (IntKind.wrap IntKind.i64 (s4k3 - (1 : Int))) h1k3).trans (finL (ctx17 N) 1 Try.f17 3 n [.b true, .b true, .b true, .b false] (by kernel_rfl) (ya (pT h10x) (ya (pT h11x) (ya (pT h12x) (ya (pNB h13x) yz))))))
    cases ho16 : lf17_8 N s4k3 N (1 : Int) (0 : Int) with
    | none => exact finL (ctx17 N) 1 Try.f17 3 n [.b true, .b true, .b true, .b true, .out (qlf17_8 a0n a0nl h0rw h0 s4k3 h1k3 none)] (by kernel_rfl) (ya (pT h10x) (ya (pT h11x) (ya (pT h12x) (ya h13x (ya (ys (elf17_8 N a0n a0nl h0rw h0 s4k3 h1k3 N (1 : Int) (0 : Int)) ho16) yz)))))
    | some o =>
      cases o with
      | e0 s5l16 =>
        dsimp only
        refine br (p := (((0 : Int) ≤ (IntKind.wrap IntKind.i64 (Int.tdiv s4k3 (8 : Int)))) ∧ ((Int.toNat (IntKind.wrap IntKind.i64 (Int.tdiv s4k3 (8 : Int)))) < (Int.toNat (IntKind.wrap IntKind.i64 (Int.tdiv (IntKind.wrap IntKind.i64 (((a0n : Nat) : Int) + (7 : Int))) (8 : Int))))))) (fun h17x => ?_) (fun h17x => finL (ctx17 N) 1 Try.f17 3 n [.b true, .b true, .b true, .b true, .out (qlf17_8 a0n a0nl h0rw h0 s4k3 h1k3 (some (.e0 s5l16))), .b false, .b false, .b false] (by kernel_rfl) (ya (pT h10x) (ya (pT h11x) (ya (pT h12x) (ya h13x (ya (ys (elf17_8 N a0n a0nl h0rw h0 s4k3 h1k3 N (1 : Int) (0 : Int)) ho16) (yf (yf (ya (pF h17x) yz)))))))))
        refine br (p := ((0 + (Int.toNat (IntKind.wrap IntKind.i64 (Int.tdiv s4k3 (8 : Int))))) < (List.length h1k3))) (fun h18x => (ih (IntKind.wrap IntKind.i64 (s4k3 - (1 : Int))) (List.set h1k3 (0 + (Int.toNat (IntKind.wrap IntKind.i64 (Int.tdiv s4k3 (8 : Int))))) (IntKind.wrap IntKind.u8 ((List.getD h1k3 (0 + (Int.toNat (IntKind.wrap IntKind.i64 (Int.tdiv s4k3 (8 : Int))))) (0 : Int)) + (IntKind.wrap IntKind.u8 s5l16))))).trans (finL (ctx17 N) 1 Try.f17 3 n [.b true, .b true, .b true, .b true, .out (qlf17_8 a0n a0nl h0rw h0 s4k3 h1k3 (some (.e0 s5l16))), .b false, .b false, .b true, .b true, .b true, .b true] (by kernel_rfl) (ya (pT h10x) (ya (pT h11x) (ya (pT h12x) (ya h13x (ya (ys (elf17_8 N a0n a0nl h0rw h0 s4k3 h1k3 N (1 : Int) (0 : Int)) ho16) (yf (yf (ya (pT h17x) (ya (pT h18x) (ya (pT h17x) (ya (pT h18x) yz))))))))))))) (fun h18x => ?_)
        exact finL (ctx17 N) 1 Try.f17 3 n [.b true, .b true, .b true, .b true, .out (qlf17_8 a0n a0nl h0rw h0 s4k3 h1k3 (some (.e0 s5l16))), .b false, .b false, .b true, .b false] (by kernel_rfl) (ya (pT h10x) (ya (pT h11x) (ya (pT h12x) (ya h13x (ya (ys (elf17_8 N a0n a0nl h0rw h0 s4k3 h1k3 N (1 : Int) (0 : Int)) ho16) (yf (yf (ya (pT h17x) (ya (pF h18x) yz)))))))))
/-! 17 -/
inductive Rf17 where
  | r0 (h1 : List Int)
def f17 (N : Nat) (a0n : Nat) (h0 : List Bool) : Option Rf17 :=
 if (((0 : Int) ≤ (IntKind.wrap IntKind.i64 (Int.tdiv (IntKind.wrap IntKind.i64 (((a0n : Nat) : Int) + (7 : Int))) (8 : Int)))) ∧ (((IntKind.wrap IntKind.i64 (Int.tdiv (IntKind.wrap IntKind.i64 (((a0n : Nat) : Int) + (7 : Int))) (8 : Int))) ≤ (IntKind.wrap IntKind.i64 (Int.tdiv (IntKind.wrap IntKind.i64 (((a0n : Nat) : Int) + (7 : Int))) (8 : Int)))) ∧ ((IntKind.wrap IntKind.i64 (Int.tdiv (IntKind.wrap IntKind.i64 (((a0n : Nat) : Int) + (7 : Int))) (8 : Int))) ≤ (1099511627776 : Int)))) then
  (match lf17_3 N a0n h0 N (IntKind.wrap IntKind.i64 (((a0n : Nat) : Int) - (1 : Int))) (List.replicate (Int.toNat (IntKind.wrap IntKind.i64 (Int.tdiv (IntKind.wrap IntKind.i64 (((a0n : Nat) : Int) + (7 : Int))) (8 : Int)))) (0 : Int)) with
  | none => none
  | some (.e0 h1l19) =>
   some (.r0 h1l19))
 else
  none
def rf17 (a0n : Nat) (a0nl : Bool) (h0rw : Bool) (h0 : List Bool) : Option Rf17 → Option (AV × Heap)
  | none => none
  | some (.r0 h1) => some ((AV.slice 1 0 0 (Int.toNat (IntKind.wrap IntKind.i64 (Int.tdiv (IntKind.wrap IntKind.i64 (((a0n : Nat) : Int) + (7 : Int))) (8 : Int)))) 1 false true), [(Blk.dyn h0rw 4 [(Col.bools h0)]), (Blk.dyn true 5 [(Col.ints IntKind.u8 h1)])])
theorem ef17 (N : Nat) (a0n : Nat) (a0nl : Bool) (h0rw : Bool) (h0 : List Bool) : rf17 a0n a0nl h0rw h0 (f17 N a0n h0) = sem17 N [(AV.slice 0 0 0 a0n 1 a0nl true)] [(Blk.dyn h0rw 4 [(Col.bools h0)])] := by
  unfold f17
  refine br (p := (((0 : Int) ≤ (IntKind.wrap IntKind.i64 (Int.tdiv (IntKind.wrap IntKind.i64 (((a0n : Nat) : Int) + (7 : Int))) (8 : Int)))) ∧ (((IntKind.wrap IntKind.i64 (Int.tdiv (IntKind.wrap IntKind.i64 (((a0n : Nat) : Int) + (7 : Int))) (8 : Int))) ≤ (IntKind.wrap IntKind.i64 (Int.tdiv (IntKind.wrap IntKind.i64 (((a0n : Nat) : Int) + (7 : Int))) (8 : Int)))) ∧ ((IntKind.wrap IntKind.i64 (Int.tdiv (IntKind.wrap IntKind.i64 (((a0n : Nat) : Int) + (7 : Int))) (8 : Int))) ≤ (1099511627776 : Int))))) (fun h0x => ?_) (fun h0x => finF (ctx17 N) Try.f17 [.b false, .b false] (by kernel_rfl) (yf (ya (pF h0x) yz)))
  cases ho19 : lf17_3 N a0n h0 N (IntKind.wrap IntKind.i64 (((a0n : Nat) : Int) - (1 : Int))) (List.replicate (Int.toNat (IntKind.wrap IntKind.i64 (Int.tdiv (IntKind.wrap IntKind.i64 (((a0n : Nat) : Int) + (7 : Int))) (8 : Int)))) (0 : Int)) with
  | none => exact finF (ctx17 N) Try.f17 [.b false, .b true, .out (qlf17_3 a0n a0nl h0rw h0 none)] (by kernel_rfl) (yf (ya (pT h0x) (ya (ys (elf17_3 N a0n a0nl h0rw h0 N (IntKind.wrap IntKind.i64 (((a0n : Nat) : Int) - (1 : Int))) (List.replicate (Int.toNat (IntKind.wrap IntKind.i64 (Int.tdiv (IntKind.wrap IntKind.i64 (((a0n : Nat) : Int) + (7 : Int))) (8 : Int)))) (0 : Int))) ho19) yz)))
  | some o =>
    cases o with
    | e0 h1l19 =>
      dsimp only
      exact finF (ctx17 N) Try.f17 [.b false, .b true, .out (qlf17_3 a0n a0nl h0rw h0 (some (.e0 h1l19)))] (by kernel_rfl) (yf (ya (pT h0x) (ya (ys (elf17_3 N a0n a0nl h0rw h0 N (IntKind.wrap IntKind.i64 (((a0n : Nat) : Int) - (1 : Int))) (List.replicate (Int.toNat (IntKind.wrap IntKind.i64 (Int.tdiv (IntKind.wrap IntKind.i64 (((a0n : Nat) : Int) + (7 : Int))) (8 : Int)))) (0 : Int))) ho19) yz)))
end
end Go.Proofs.Ytnkjpkfijafkgaa
