/-
Printed by a program of this session: plain functions, and that the evaluator answers as they do.
-/
import Derived.Test.YtnkjpkfijafkgaaS4
import Derived.Test.YtnkjpkfijafkgaaFns
import Derived.Test.YtnkjpkfijafkgaaPABC
import Derived.Test.YtnkjpkfijafkgaaPBC0
set_option linter.unusedVariables false
set_option maxRecDepth 100000
namespace Go.Proofs.Ytnkjpkfijafkgaa
open Go.Abs
noncomputable section
/-! 28, loop 14 -/
inductive Qlf28_14 where
  | e0 (h2_0nl : Bool) (h2_1 : Int) (h2_2 : Int) (h3 : List Int)
def slf28_14 (N : Nat) (a0n : Nat) (h0_0 : List Int) (h0_1 : List Int) (h0_2 : List Int) (h0_0c10 : List Int) (h0_1c10 : List Int) (h0_2c10 : List Int) (h0_0c11 : List Int) (h0_1c11 : List Int) (h0_2c11 : List Int) (n : Nat) (go : Int → Bool → Int → Int → List Int → Option Qlf28_14) (s40k14 : Int) (h4_0nlk14 : Bool) (h4_1k14 : Int) (h4_2k14 : Int) (h5k14 : List Int) : Option Qlf28_14 :=
 if (s40k14 < ((a0n : Nat) : Int)) then
  if (((0 : Int) ≤ s40k14) ∧ ((Int.toNat s40k14) < a0n)) then
   if ((0 + (Int.toNat s40k14)) < (List.length h0_0)) then
    if ((List.getD h0_1 (0 + (Int.toNat s40k14)) (0 : Int)) = (0 : Int)) then
     (match f15v1 N with
     | none => none
     | some .r0 =>
      go (IntKind.wrap IntKind.i64 (s40k14 + (1 : Int))) h4_0nlk14 h4_1k14 h4_2k14 h5k14)
    else
     (match f53 N (List.length h0_0c10) (List.getD h0_1 (0 + (Int.toNat s40k14)) (0 : Int)) h0_0c10 h0_1c10 h0_2c10 (List.length h5k14) h4_1k14 h4_2k14 h5k14 with
     | none => none
     | some (.r0 h2_1c24 h2_2c24) =>
      (match f53 N (List.length h0_0c11) (List.getD h0_2 (0 + (Int.toNat s40k14)) (0 : Int)) h0_0c11 h0_1c11 h0_2c11 (List.length h5k14) h2_1c24 h2_2c24 h5k14 with
      | none => none
      | some (.r0 h2_1c25 h2_2c25) =>
       go (IntKind.wrap IntKind.i64 (s40k14 + (1 : Int))) h4_0nlk14 h2_1c25 h2_2c25 h5k14
      | some (.r1 h2_1c25 h2_2c25 h4c25) =>
       go (IntKind.wrap IntKind.i64 (s40k14 + (1 : Int))) false h2_1c25 h2_2c25 h4c25)
     | some (.r1 h2_1c24 h2_2c24 h4c24) =>
      (match f53 N (List.length h0_0c11) (List.getD h0_2 (0 + (Int.toNat s40k14)) (0 : Int)) h0_0c11 h0_1c11 h0_2c11 (List.length h4c24) h2_1c24 h2_2c24 h4c24 with
      | none => none
      | some (.r0 h2_1c26 h2_2c26) =>
       go (IntKind.wrap IntKind.i64 (s40k14 + (1 : Int))) false h2_1c26 h2_2c26 h4c24
      | some (.r1 h2_1c26 h2_2c26 h4c26) =>
       go (IntKind.wrap IntKind.i64 (s40k14 + (1 : Int))) false h2_1c26 h2_2c26 h4c26))
   else
    none
  else
   none
 else
  some (.e0 h4_0nlk14 h4_1k14 h4_2k14 h5k14)
def lf28_14 (N : Nat) (a0n : Nat) (h0_0 : List Int) (h0_1 : List Int) (h0_2 : List Int) (h0_0c10 : List Int) (h0_1c10 : List Int) (h0_2c10 : List Int) (h0_0c11 : List Int) (h0_1c11 : List Int) (h0_2c11 : List Int) : Nat → Int → Bool → Int → Int → List Int → Option Qlf28_14
  | 0, _, _, _, _, _ => none
  | n + 1, s40k14, h4_0nlk14, h4_1k14, h4_2k14, h5k14 => slf28_14 N a0n h0_0 h0_1 h0_2 h0_0c10 h0_1c10 h0_2c10 h0_0c11 h0_1c11 h0_2c11 n (lf28_14 N a0n h0_0 h0_1 h0_2 h0_0c10 h0_1c10 h0_2c10 h0_0c11 h0_1c11 h0_2c11 n) s40k14 h4_0nlk14 h4_1k14 h4_2k14 h5k14
def qlf28_14 (a0n : Nat) (a0nl : Bool) (h0rw : Bool) (h0_0 : List Int) (h0_1 : List Int) (h0_2 : List Int) (h0_0c10 : List Int) (h0_1c10 : List Int) (h0_2c10 : List Int) (h0_0c11 : List Int) (h0_1c11 : List Int) (h0_2c11 : List Int) : Option Qlf28_14 → Out
  | none => none
  | some (.e0 h2_0nl h2_1 h2_2 h3) => some ((XT.exit 0), (St.mk [(4, AV.nilptr), (7, (AV.ptr 1 0 0 1))] [(Blk.dyn h0rw 62 [(Col.ints IntKind.i64 h0_0), (Col.ints IntKind.i64 h0_1), (Col.ints IntKind.i64 h0_2)]), (Blk.segs true 27 [(Seg.cell (AV.ptr 2 0 0 1))]), (Blk.segs true 72 [(Seg.cell (AV.slice 3 0 0 (List.length h3) 1 h2_0nl true)), (Seg.cell (AV.int IntKind.i64 h2_1)), (Seg.cell (AV.int IntKind.i64 h2_2))]), (Blk.dyn true 5 [(Col.ints IntKind.u8 h3)])]))
theorem elf28_14 (N : Nat) (a0n : Nat) (a0nl : Bool) (h0rw : Bool) (h0_0 : List Int) (h0_1 : List Int) (h0_2 : List Int) (h0_0c10 : List Int) (h0_1c10 : List Int) (h0_2c10 : List Int) (h0_0c11 : List Int) (h0_1c11 : List Int) (h0_2c11 : List Int) : ∀ (n : Nat) (s40k14 : Int) (h4_0nlk14 : Bool) (h4_1k14 : Int) (h4_2k14 : Int) (h5k14 : List Int), qlf28_14 a0n a0nl h0rw h0_0 h0_1 h0_2 h0_0c10 h0_1c10 h0_2c10 h0_0c11 h0_1c11 h0_2c11 (lf28_14 N a0n h0_0 h0_1 h0_2 h0_0c10 h0_1c10 h0_2c10 h0_0c11 h0_1c11 h0_2c11 n s40k14 h4_0nlk14 h4_1k14 h4_2k14 h5k14) = lp (ctx28 N) 1 Try.f28 14 n (St.mk [(4, AV.nilptr), (6, AV.nilptr), (7, (AV.ptr 1 0 0 1)), (8, (AV.func 53 ([] : List AV) [(AV.ptr 1 0 0 1)])), (9, (AV.slice 2 0 0 (List.length h0_0c10) 3 false true)), (10, (AV.slice 3 0 0 (List.length h0_0c11) 3 false true)), (38, (AV.slice 0 0 0 a0n 3 a0nl true)), (39, (AV.int IntKind.i64 ((a0n : Nat) : Int))), (40, (AV.int IntKind.i64 s40k14))] [(Blk.dyn h0rw 62 [(Col.ints IntKind.i64 h0_0), (Col.ints IntKind.i64 h0_1), (Col.ints IntKind.i64 h0_2)]), (Blk.segs true 27 [(Seg.cell (AV.ptr 4 0 0 1))]), (Blk.dyn true 89 [(Col.ints IntKind.i64 h0_0c10), (Col.ints IntKind.i64 h0_1c10), (Col.ints IntKind.i64 h0_2c10)]), (Blk.dyn true 89 [(Col.ints IntKind.i64 h0_0c11), (Col.ints IntKind.i64 h0_1c11), (Col.ints IntKind.i64 h0_2c11)]), (Blk.segs true 72 [(Seg.cell (AV.slice 5 0 0 (List.length h5k14) 1 h4_0nlk14 true)), (Seg.cell (AV.int IntKind.i64 h4_1k14)), (Seg.cell (AV.int IntKind.i64 h4_2k14))]), (Blk.dyn true 5 [(Col.ints IntKind.u8 h5k14)])]) := by
  intro n
  induction n with
  | zero => intros; kernel_rfl
  | succ n ih =>
    intro s40k14 h4_0nlk14 h4_1k14 h4_2k14 h5k14
    rw [lf28_14]
    unfold slf28_14
    refine br (p := (s40k14 < ((a0n : Nat) : Int))) (fun h19x => ?_) (fun h19x => finL (ctx28 N) 1 Try.f28 14 n [.b false] (by kernel_rfl) (ya (pF h19x) yz))
    refine br (p := (((0 : Int) ≤ s40k14) ∧ ((Int.toNat s40k14) < a0n))) (fun h20x => ?_) (fun h20x => finL (ctx28 N) 1 Try.f28 14 n [.b true, .b false] (by kernel_rfl) (ya (pT h19x) (ya (pF h20x) yz)))
    refine br (p := ((0 + (Int.toNat s40k14)) < (List.length h0_0))) (fun h21x => ?_) (fun h21x => finL (ctx28 N) 1 Try.f28 14 n [.b true, .b true, .b false] (by kernel_rfl) (ya (pT h19x) (ya (pT h20x) (ya (pF h21x) yz))))
    refine br (p := ((List.getD h0_1 (0 + (Int.toNat s40k14)) (0 : Int)) = (0 : Int))) (fun h22x => ?_) (fun h22x => ?_)
    · skip
      cases hc23 : f15v1 N with
      | none => exact finL (ctx28 N) 1 Try.f28 14 n [.b true, .b true, .b true, .b true, .call (rf15v1 (List.getD h0_0 (0 + (Int.toNat s40k14)) (0 : Int)) (List.length h5k14) h4_0nlk14 h4_1k14 h4_2k14 h5k14 none)] (by kernel_rfl) (ya (pT h19x) (ya (pT h20x) (ya (pT h21x) (ya (pE h22x) (ya (ys (ef15v1 N (List.getD h0_0 (0 + (Int.toNat s40k14)) (0 : Int)) (List.length h5k14) h4_0nlk14 h4_1k14 h4_2k14 h5k14) hc23) yz)))))
      | some o =>
        cases o with
        | r0 =>
          dsimp only
          exact (ih (IntKind.wrap IntKind.i64 (s40k14 + (1 : Int))) h4_0nlk14 h4_1k14 h4_2k14 h5k14).trans (finL (ctx28 N) 1 Try.f28 14 n [.b true, .b true, .b true, .b true, .call (rf15v1 (List.getD h0_0 (0 + (Int.toNat s40k14)) (0 : Int)) (List.length h5k14) h4_0nlk14 h4_1k14 h4_2k14 h5k14 (some .r0))] (by kernel_rfl) (ya (pT h19x) (ya (pT h20x) (ya (pT h21x) (ya (pE h22x) (ya (ys (ef15v1 N (List.getD h0_0 (0 + (Int.toNat s40k14)) (0 : Int)) (List.length h5k14) h4_0nlk14 h4_1k14 h4_2k14 h5k14) hc23) yz))))))
    · skip
      cases hc24 : f53 N (List.length h0_0c10) (List.getD h0_1 (0 + (Int.toNat s40k14)) (0 : Int)) h0_0c10 h0_1c10 h0_2c10 (List.length h5k14) h4_1k14 h4_2k14 h5k14 with
      | none => exact finL (ctx28 N) 1 Try.f28 14 n [.b true, .b true, .b true, .b false, .call (rf53 (List.length h0_0c10) false (List.getD h0_1 (0 + (Int.toNat s40k14)) (0 : Int)) h0_0c10 h0_1c10 h0_2c10 (List.length h5k14) h4_0nlk14 h4_1k14 h4_2k14 h5k14 none)] (by kernel_rfl) (ya (pT h19x) (ya (pT h20x) (ya (pT h21x) (ya (pNE h22x) (ya (ys (ef53 N (List.length h0_0c10) false (List.getD h0_1 (0 + (Int.toNat s40k14)) (0 : Int)) h0_0c10 h0_1c10 h0_2c10 (List.length h5k14) h4_0nlk14 h4_1k14 h4_2k14 h5k14) hc24) yz)))))
      | some o =>
        cases o with
        | r0 h2_1c24 h2_2c24 =>
          dsimp only
          cases hc25 : f53 N (List.length h0_0c11) (List.getD h0_2 (0 + (Int.toNat s40k14)) (0 : Int)) h0_0c11 h0_1c11 h0_2c11 (List.length h5k14) h2_1c24 h2_2c24 h5k14 with
          | none => exact finL (ctx28 N) 1 Try.f28 14 n [.b true, .b true, .b true, .b false, .call (rf53 (List.length h0_0c10) false (List.getD h0_1 (0 + (Int.toNat s40k14)) (0 : Int)) h0_0c10 h0_1c10 h0_2c10 (List.length h5k14) h4_0nlk14 h4_1k14 h4_2k14 h5k14 (some (.r0 h2_1c24 h2_2c24))), .call (rf53 (List.length h0_0c11) false (List.getD h0_2 (0 + (Int.toNat s40k14)) (0 : Int)) h0_0c11 h0_1c11 h0_2c11 (List.length h5k14) h4_0nlk14 h2_1c24 h2_2c24 h5k14 none)] (by kernel_rfl) (ya (pT h19x) (ya (pT h20x) (ya (pT h21x) (ya (pNE h22x) (ya (ys (ef53 N (List.length h0_0c10) false (List.getD h0_1 (0 + (Int.toNat s40k14)) (0 : Int)) h0_0c10 h0_1c10 h0_2c10 (List.length h5k14) h4_0nlk14 h4_1k14 h4_2k14 h5k14) hc24) (ya (ys (ef53 N (List.length h0_0c11) false (List.getD h0_2 (0 + (Int.toNat s40k14)) (0 : Int)) h0_0c11 h0_1c11 h0_2c11 (List.length h5k14) h4_0nlk14 h2_1c24 h2_2c24 h5k14) hc25) yz))))))
          | some o =>
            cases o with
            | r0 h2_1c25 h2_2c25 =>
              dsimp only
              exact (ih (IntKind.wrap IntKind.i64 (s40k14 + (1 : Int))) h4_0nlk14 h2_1c25 h2_2c25 h5k14).trans (finL (ctx28 N) 1 Try.f28 14 n [.b true, .b true, .b true, .b false, .call (rf53 (List.length h0_0c10) false (List.getD h0_1 (0 + (Int.toNat s40k14)) (0 : Int)) h0_0c10 h0_1c10 h0_2c10 (List.length h5k14) h4_0nlk14 h4_1k14 h4_2k14 h5k14 (some (.r0 h2_1c24 h2_2c24))), .call (rf53 (List.length h0_0c11) false (List.getD h0_2 (0 + (Int.toNat s40k14)) (0 : Int)) h0_0c11 h0_1c11 h0_2c11 (List.length h5k14) h4_0nlk14 h2_1c24 h2_2c24 h5k14 (some (.r0 h2_1c25 h2_2c25)))] (by kernel_rfl) (ya (pT h19x) (ya (pT h20x) (ya (pT h21x) (ya (pNE h22x) (ya (ys (ef53 N (List.length h0_0c10) false (List.getD h0_1 (0 + (Int.toNat s40k14)) (0 : Int)) h0_0c10 h0_1c10 h0_2c10 (List.length h5k14) h4_0nlk14 h4_1k14 h4_2k14 h5k14) hc24) (ya (ys (ef53 N (List.length h0_0c11) false (List.getD h0_2 (0 + (Int.toNat s40k14)) (0 : Int)) h0_0c11 h0_1c11 h0_2c11 (List.length h5k14) h4_0nlk14 h2_1c24 h2_2c24 h5k14) hc25) yz)))))))
            | r1 h2_1c25 h2_2c25 h4c25 =>
              dsimp only
              exact (ih (IntKind.wrap IntKind.i64 (s40k14 + (1 : Int))) false h2_1c25 h2_2c25 h4c25).trans (finL (ctx28 N) 1 Try.f28 14 n [.b true, .b true, .b true, .b false, .call (rf53 (List.length h0_0c10) false (List.getD h0_1 (0 + (Int.toNat s40k14)) (0 : Int)) h0_0c10 h0_1c10 h0_2c10 (List.length h5k14) h4_0nlk14 h4_1k14 h4_2k14 h5k14 (some (.r0 h2_1c24 h2_2c24))), .call (rf53 (List.length h0_0c11) false (List.getD h0_2 (0 + (Int.toNat s40k14)) (0 : Int)) h0_0c11 h0_1c11 h0_2c11 (List.length h5k14) h4_0nlk14 h2_1c24 h2_2c24 h5k14 (some (.r1 h2_1c25 h2_2c25 h4c25)))] (by kernel_rfl) (ya (pT h19x) (ya (pT h20x) (ya (pT h21x) (ya (pNE h22x) (ya (ys (ef53 N (List.length h0_0c10) false (List.getD h0_1 (0 + (Int.toNat s40k14)) (0 : Int)) h0_0c10 h0_1c10 h0_2c10 (List.length h5k14) h4_0nlk14 h4_1k14 h4_2k14 h5k14) hc24) (ya (ys (ef53 N (List.length h0_0c11) false (List.getD h0_2 (0 + (Int.toNat s40k14)) (0 : Int)) h0_0c11 h0_1c11 h0_2c11 (List.length h5k14) h4_0nlk14 h2_1c24 h2_2c24 h5k14) hc25) yz)))))))
        | r1 h2_1c24 h2_2c24 h4c24 =>
          dsimp only
          cases hc26 : f53 N (List.length h0_0c11) (List.getD h0_2 (0 + (Int.toNat s40k14)) (0 : Int)) h0_0c11 h0_1c11 h0_2c11 (List.length h4c24) h2_1c24 h2_2c24 h4c24 with
          | none => exact finL (ctx28 N) 1 Try.f28 14 n [.b true, .b true, .b true, .b false, .call (rf53 (List.length h0_0c10) false (List.getD h0_1 (0 + (Int.toNat s40k14)) (0 : Int)) h0_0c10 h0_1c10 h0_2c10 (List.length h5k14) h4_0nlk14 h4_1k14 h4_2k14 h5k14 (some (.r1 h2_1c24 h2_2c24 h4c24))), .call (rf53 (List.length h0_0c11) false (List.getD h0_2 (0 + (Int.toNat s40k14)) (0 : Int)) h0_0c11 h0_1c11 h0_2c11 (List.length h4c24) false h2_1c24 h2_2c24 h4c24 none)] (by kernel_rfl) (ya (pT h19x) (ya (pT h20x) (ya (pT h21x) (ya (pNE h22x) (ya (ys (ef53 N (List.length h0_0c10) false (List.getD h0_1 (0 + (Int.toNat s40k14)) (0 : Int)) h0_0c10 h0_1c10 h0_2c10 (List.length h5k14) h4_0nlk14 h4_1k14 h4_2k14 h5k14) hc24) (ya (ys (ef53 N (List.length h0_0c11) false (List.getD h0_2 (0 + (Int.toNat s40k14)) (0 : Int)) h0_0c11 h0_1c11 h0_2c11 (List.length h4c24) false h2_1c24 h2_2c24 h4c24) hc26) yz))))))
          | some o =>
            cases o with
            | r0 h2_1c26 h2_2c26 =>
              dsimp only
              exact (ih (IntKind.wrap IntKind.i64 (s40k14 + (1 : Int))) false h2_1c26 h2_2c26 h4c24).trans (finL (ctx28 N) 1 Try.f28 14 n [.b true, .b true, .b true, .b false, .call (rf53 (List.length h0_0c10) false (List.getD h0_1 (0 + (Int.toNat s40k14)) (0 : Int)) h0_0c10 h0_1c10 h0_2c10 (List.length h5k14) h4_0nlk14 h4_1k14 h4_2k14 h5k14 (some (.r1 h2_1c24 h2_2c24 h4c24))), .call (rf53 (List.length h0_0c11) false (List.getD h0_2 (0 + (Int.toNat s40k14)) (0 : Int)) h0_0c11 h0_1c11 h0_2c11 (List.length h4c24) false h2_1c24 h2_2c24 h4c24 (some (.r0 h2_1c26 h2_2c26)))] (by kernel_rfl) (ya (pT h19x) (ya (pT h20x) (ya (pT h21x) (ya (pNE h22x) (ya (ys (ef53 N (List.length h0_0c10) false (List.getD h0_1 (0 + (Int.toNat s40k14)) (0 : Int)) h0_0c10 h0_1c10 h0_2c10 (List.length h5k14) h4_0nlk14 h4_1k14 h4_2k14 h5k14) hc24) (ya (ys (ef53 N (List.length h0_0c11) false (List.getD h0_2 (0 + (Int.toNat s40k14)) (0 : Int)) h0_0c11 h0_1c11 h0_2c11 (List.length h4c24) false h2_1c24 h2_2c24 h4c24) hc26) yz)))))))
            | r1 h2_1c26 h2_2c26 h4c26 =>
              dsimp only
              exact (ih (IntKind.wrap IntKind.i64 (s40k14 + (1 : Int))) false h2_1c26 h2_2c26 h4c26).trans (finL (ctx28 N) 1 Try.f28 14 n [.b true, .b true, .b true, .b false, .call (rf53 (List.length h0_0c10) false (List.getD h0_1 (0 + (Int.toNat s40k14)) (0 : Int)) h0_0c10 h0_1c10 h0_2c10 (List.length h5k14) h4_0nlk14 h4_1k14 h4_2k14 h5k14 (some (.r1 h2_1c24 h2_2c24 h4c24))), .call (rf53 (List.length h0_0c11) false (List.getD h0_2 (0 + (Int.toNat s40k14)) (0 : Int)) h0_0c11 h0_1c11 h0_2c11 (List.length h4c24) false h2_1c24 h2_2c24 h4c24 (some (.r1 h2_1c26 h2_2c26 h4c26)))] (by kernel_rfl) (ya (pT h19x) (ya (pT h20x) (ya (pT h21x) (ya (pNE h22x) (ya (ys (ef53 N (List.length h0_0c10) false (List.getD h0_1 (0 + (Int.toNat s40k14)) (0 : Int)) h0_0c10 h0_1c10 h0_2c10 (List.length h5k14) h4_0nlk14 h4_1k14 h4_2k14 h5k14) hc24) (ya (ys (ef53 N (List.length h0_0c11) false (List.getD h0_2 (0 + (Int.toNat s40k14)) (0 : Int)) h0_0c11 h0_1c11 h0_2c11 (List.length h4c24) false h2_1c24 h2_2c24 h4c24) hc26) yz)))))))
/-! 28, loop 14 -/
inductive Qlf28_14b where
  | e0 (h2_1 : Int) (h2_2 : Int) (h3 : List Int)
def slf28_14b (N : Nat) (a0n : Nat) (h0_0 : List Int) (h0_1 : List Int) (h0_2 : List Int) (h0_0c30 : List Int) (h0_1c30 : List Int) (h0_2c30 : List Int) (h0_0c31 : List Int) (h0_1c31 : List Int) (h0_2c31 : List Int) (n : Nat) (go : Int → Int → Int → List Int → Option Qlf28_14b) (s40k14 : Int) (h4_1k14 : Int) (h4_2k14 : Int) (h5k14 : List Int) : Option Qlf28_14b :=
 if (s40k14 < ((a0n : Nat) : Int)) then
  if (((0 : Int) ≤ s40k14) ∧ ((Int.toNat s40k14) < a0n)) then
   if ((0 + (Int.toNat s40k14)) < (List.length h0_0)) then
    if ((List.getD h0_1 (0 + (Int.toNat s40k14)) (0 : Int)) = (0 : Int)) then
     (match f15v1 N with
     | none => none
     | some .r0 =>
      go (IntKind.wrap IntKind.i64 (s40k14 + (1 : Int))) h4_1k14 h4_2k14 h5k14)
    else
     (match f53 N (List.length h0_0c30) (List.getD h0_1 (0 + (Int.toNat s40k14)) (0 : Int)) h0_0c30 h0_1c30 h0_2c30 (List.length h5k14) h4_1k14 h4_2k14 h5k14 with
     | none => none
     | some (.r0 h2_1c44 h2_2c44) =>
      (match f53 N (List.length h0_0c31) (List.getD h0_2 (0 + (Int.toNat s40k14)) (0 : Int)) h0_0c31 h0_1c31 h0_2c31 (List.length h5k14) h2_1c44 h2_2c44 h5k14 with
      | none => none
      | some (.r0 h2_1c45 h2_2c45) =>
       go (IntKind.wrap IntKind.i64 (s40k14 + (1 : Int))) h2_1c45 h2_2c45 h5k14
      | some (.r1 h2_1c45 h2_2c45 h4c45) =>
       go (IntKind.wrap IntKind.i64 (s40k14 + (1 : Int))) h2_1c45 h2_2c45 h4c45)
     | some (.r1 h2_1c44 h2_2c44 h4c44) =>
      (match f53 N (List.length h0_0c31) (List.getD h0_2 (0 + (Int.toNat s40k14)) (0 : Int)) h0_0c31 h0_1c31 h0_2c31 (List.length h4c44) h2_1c44 h2_2c44 h4c44 with
      | none => none
      | some (.r0 h2_1c46 h2_2c46) =>
       go (IntKind.wrap IntKind.i64 (s40k14 + (1 : Int))) h2_1c46 h2_2c46 h4c44
      | some (.r1 h2_1c46 h2_2c46 h4c46) =>
       go (IntKind.wrap IntKind.i64 (s40k14 + (1 : Int))) h2_1c46 h2_2c46 h4c46))
   else
    none
  else
   none
 else
  some (.e0 h4_1k14 h4_2k14 h5k14)
def lf28_14b (N : Nat) (a0n : Nat) (h0_0 : List Int) (h0_1 : List Int) (h0_2 : List Int) (h0_0c30 : List Int) (h0_1c30 : List Int) (h0_2c30 : List Int) (h0_0c31 : List Int) (h0_1c31 : List Int) (h0_2c31 : List Int) : Nat → Int → Int → Int → List Int → Option Qlf28_14b
  | 0, _, _, _, _ => none
  | n + 1, s40k14, h4_1k14, h4_2k14, h5k14 => slf28_14b N a0n h0_0 h0_1 h0_2 h0_0c30 h0_1c30 h0_2c30 h0_0c31 h0_1c31 h0_2c31 n (lf28_14b N a0n h0_0 h0_1 h0_2 h0_0c30 h0_1c30 h0_2c30 h0_0c31 h0_1c31 h0_2c31 n) s40k14 h4_1k14 h4_2k14 h5k14
def qlf28_14b (a0n : Nat) (a0nl : Bool) (h0rw : Bool) (h0_0 : List Int) (h0_1 : List Int) (h0_2 : List Int) (h0_0c30 : List Int) (h0_1c30 : List Int) (h0_2c30 : List Int) (h0_0c31 : List Int) (h0_1c31 : List Int) (h0_2c31 : List Int) : Option Qlf28_14b → Out
  | none => none
  | some (.e0 h2_1 h2_2 h3) => some ((XT.exit 0), (St.mk [(4, AV.nilptr), (7, (AV.ptr 1 0 0 1))] [(Blk.dyn h0rw 62 [(Col.ints IntKind.i64 h0_0), (Col.ints IntKind.i64 h0_1), (Col.ints IntKind.i64 h0_2)]), (Blk.segs true 27 [(Seg.cell (AV.ptr 2 0 0 1))]), (Blk.segs true 72 [(Seg.cell (AV.slice 3 0 0 (List.length h3) 1 false true)), (Seg.cell (AV.int IntKind.i64 h2_1)), (Seg.cell (AV.int IntKind.i64 h2_2))]), (Blk.dyn true 5 [(Col.ints IntKind.u8 h3)])]))
theorem elf28_14b (N : Nat) (a0n : Nat) (a0nl : Bool) (h0rw : Bool) (h0_0 : List Int) (h0_1 : List Int) (h0_2 : List Int) (h0_0c30 : List Int) (h0_1c30 : List Int) (h0_2c30 : List Int) (h0_0c31 : List Int) (h0_1c31 : List Int) (h0_2c31 : List Int) : ∀ (n : Nat) (s40k14 : Int) (h4_1k14 : Int) (h4_2k14 : Int) (h5k14 : List Int), qlf28_14b a0n a0nl h0rw h0_0 h0_1 h0_2 h0_0c30 h0_1c30 h0_2c30 h0_0c31 h0_1c31 h0_2c31 (lf28_14b N a0n h0_0 h0_1 h0_2 h0_0c30 h0_1c30 h0_2c30 h0_0c31 h0_1c31 h0_2c31 n s40k14 h4_1k14 h4_2k14 h5k14) = lp (ctx28 N) 1 Try.f28 14 n (St.mk [(4, AV.nilptr), (6, AV.nilptr), (7, (AV.ptr 1 0 0 1)), (8, (AV.func 53 ([] : List AV) [(AV.ptr 1 0 0 1)])), (9, (AV.slice 2 0 0 (List.length h0_0c30) 3 false true)), (10, (AV.slice 3 0 0 (List.length h0_0c31) 3 false true)), (38, (AV.slice 0 0 0 a0n 3 a0nl true)), (39, (AV.int IntKind.i64 ((a0n : Nat) : Int))), (40, (AV.int IntKind.i64 s40k14))] [(Blk.dyn h0rw 62 [(Col.ints IntKind.i64 h0_0), (Col.ints IntKind.i64 h0_1), (Col.ints IntKind.i64 h0_2)]), (Blk.segs true 27 [(Seg.cell (AV.ptr 4 0 0 1))]), (Blk.dyn true 89 [(Col.ints IntKind.i64 h0_0c30), (Col.ints IntKind.i64 h0_1c30), (Col.ints IntKind.i64 h0_2c30)]), (Blk.dyn true 89 [(Col.ints IntKind.i64 h0_0c31), (Col.ints IntKind.i64 h0_1c31), (Col.ints IntKind.i64 h0_2c31)]), (Blk.segs true 72 [(Seg.cell (AV.slice 5 0 0 (List.length h5k14) 1 false true)), (Seg.cell (AV.int IntKind.i64 h4_1k14)), (Seg.cell (AV.int IntKind.i64 h4_2k14))]), (Blk.dyn true 5 [(Col.ints IntKind.u8 h5k14)])]) := by
  intro n
  induction n with
  | zero => intros; kernel_rfl
  | succ n ih =>
    intro s40k14 h4_1k14 h4_2k14 h5k14
    rw [lf28_14b]
    unfold slf28_14b
    refine br (p := (s40k14 < ((a0n : Nat) : Int))) (fun h39x => ?_) (fun h39x => finL (ctx28 N) 1 Try.f28 14 n [.b false] (by kernel_rfl) (ya (pF h39x) yz))
    refine br (p := (((0 : Int) ≤ s40k14) ∧ ((Int.toNat s40k14) < a0n))) (fun h40x => ?_) (fun h40x => finL (ctx28 N) 1 Try.f28 14 n [.b true, .b false] (by kernel_rfl) (ya (pT h39x) (ya (pF h40x) yz)))
    refine br (p := ((0 + (Int.toNat s40k14)) < (List.length h0_0))) (fun h41x => ?_) (fun h41x => finL (ctx28 N) 1 Try.f28 14 n [.b true, .b true, .b false] (by kernel_rfl) (ya (pT h39x) (ya (pT h40x) (ya (pF h41x) yz))))
    refine br (p := ((List.getD h0_1 (0 + (Int.toNat s40k14)) (0 : Int)) = (0 : Int))) (fun h42x => ?_) (fun h42x => ?_)
    · skip
      cases hc43 : f15v1 N with
      | none => exact finL (ctx28 N) 1 Try.f28 14 n [.b true, .b true, .b true, .b true, .call (rf15v1 (List.getD h0_0 (0 + (Int.toNat s40k14)) (0 : Int)) (List.length h5k14) false h4_1k14 h4_2k14 h5k14 none)] (by kernel_rfl) (ya (pT h39x) (ya (pT h40x) (ya (pT h41x) (ya (pE h42x) (ya (ys (ef15v1 N (List.getD h0_0 (0 + (Int.toNat s40k14)) (0 : Int)) (List.length h5k14) false h4_1k14 h4_2k14 h5k14) hc43) yz)))))
      | some o =>
        cases o with
        | r0 =>
          dsimp only
          exact (ih (IntKind.wrap IntKind.i64 (s40k14 + (1 : Int))) h4_1k14 h4_2k14 h5k14).trans (finL (ctx28 N) 1 Try.f28 14 n [.b true, .b true, .b true, .b true, .call (rf15v1 (List.getD h0_0 (0 + (Int.toNat s40k14)) (0 : Int)) (List.length h5k14) false h4_1k14 h4_2k14 h5k14 (some .r0))] (by kernel_rfl) (ya (pT h39x) (ya (pT h40x) (ya (pT h41x) (ya (pE h42x) (ya (ys (ef15v1 N (List.getD h0_0 (0 + (Int.toNat s40k14)) (0 : Int)) (List.length h5k14) false h4_1k14 h4_2k14 h5k14) hc43) yz))))))
    · skip
      cases hc44 : f53 N (List.length h0_0c30) (List.getD h0_1 (0 + (Int.toNat s40k14)) (0 : Int)) h0_0c30 h0_1c30 h0_2c30 (List.length h5k14) h4_1k14 h4_2k14 h5k14 with
      | none => exact finL (ctx28 N) 1 Try.f28 14 n [.b true, .b true, .b true, .b false, .call (rf53 (List.length h0_0c30) false (List.getD h0_1 (0 + (Int.toNat s40k14)) (0 : Int)) h0_0c30 h0_1c30 h0_2c30 (List.length h5k14) false h4_1k14 h4_2k14 h5k14 none)] (by kernel_rfl) (ya (pT h39x) (ya (pT h40x) (ya (pT h41x) (ya (pNE h42x) (ya (ys (ef53 N (List.length h0_0c30) false (List.getD h0_1 (0 + (Int.toNat s40k14)) (0 : Int)) h0_0c30 h0_1c30 h0_2c30 (List.length h5k14) false h4_1k14 h4_2k14 h5k14) hc44) yz)))))
      | some o =>
        cases o with
        | r0 h2_1c44 h2_2c44 =>
          dsimp only
          cases hc45 : f53 N (List.length h0_0c31) (List.getD h0_2 (0 + (Int.toNat s40k14)) (0 : Int)) h0_0c31 h0_1c31 h0_2c31 (List.length h5k14) h2_1c44 h2_2c44 h5k14 with
          | none => exact finL (ctx28 N) 1 Try.f28 14 n [.b true, .b true, .b true, .b false, .call (rf53 (List.length h0_0c30) false (List.getD h0_1 (0 + (Int.toNat s40k14)) (0 : Int)) h0_0c30 h0_1c30 h0_2c30 (List.length h5k14) false h4_1k14 h4_2k14 h5k14 (some (.r0 h2_1c44 h2_2c44))), .call (rf53 (List.length h0_0c31) false (List.getD h0_2 (0 + (Int.toNat s40k14)) (0 : Int)) h0_0c31 h0_1c31 h0_2c31 (List.length h5k14) false h2_1c44 h2_2c44 h5k14 none)] (by kernel_rfl) (ya (pT h39x) (ya (pT h40x) (ya (pT h41x) (ya (pNE h42x) (ya (ys (ef53 N (List.length h0_0c30) false (List.getD h0_1 (0 + (Int.toNat s40k14)) (0 : Int)) h0_0c30 h0_1c30 h0_2c30 (List.length h5k14) false h4_1k14 h4_2k14 h5k14) hc44) (ya (ys (ef53 N (List.length h0_0c31) false (List.getD h0_2 (0 + (Int.toNat s40k14)) (0 : Int)) h0_0c31 h0_1c31 h0_2c31 (List.length h5k14) false h2_1c44 h2_2c44 h5k14) hc45) yz))))))
          | some o =>
            cases o with
            | r0 h2_1c45 h2_2c45 =>
              dsimp only
              exact (ih (IntKind.wrap IntKind.i64 (s40k14 + (1 : Int))) h2_1c45 h2_2c45 h5k14).trans (finL (ctx28 N) 1 Try.f28 14 n [.b true, .b true, .b true, .b false, .call (rf53 (List.length h0_0c30) false (List.getD h0_1 (0 + (Int.toNat s40k14)) (0 : Int)) h0_0c30 h0_1c30 h0_2c30 (List.length h5k14) false h4_1k14 h4_2k14 h5k14 (some (.r0 h2_1c44 h2_2c44))), .call (rf53 (List.length h0_0c31) false (List.getD h0_2 (0 + (Int.toNat s40k14)) (0 : Int)) h0_0c31 h0_1c31 h0_2c31 (List.length h5k14) false h2_1c44 h2_2c44 h5k14 (some (.r0 h2_1c45 h2_2c45)))] (by kernel_rfl) (ya (pT h39x) (ya (pT h40x) (ya (pT h41x) (ya (pNE h42x) (ya (ys (ef53 N (List.length h0_0c30) false (List.getD h0_1 (0 + (Int.toNat s40k14)) (0 : Int)) h0_0c30 h0_1c30 h0_2c30 (List.length h5k14) false h4_1k14 h4_2k14 h5k14) hc44) (ya (ys (ef53 N (List.length h0_0c31) false (List.getD h0_2 (0 + (Int.toNat s40k14)) (0 : Int)) h0_0c31 h0_1c31 h0_2c31 (List.length h5k14) false h2_1c44 h2_2c44 h5k14) hc45) yz)))))))
            | r1 h2_1c45 h2_2c45 h4c45 =>
              dsimp only
              exact (ih (IntKind.wrap IntKind.i64 (s40k14 + (1 : Int))) h2_1c45 h2_2c45 h4c45).trans (finL (ctx28 N) 1 Try.f28 14 n [.b true, .b true, .b true, .b false, .call (rf53 (List.length h0_0c30) false (List.getD h0_1 (0 + (Int.toNat s40k14)) (0 : Int)) h0_0c30 h0_1c30 h0_2c30 (List.length h5k14) false h4_1k14 h4_2k14 h5k14 (some (.r0 h2_1c44 h2_2c44))), .call (rf53 (List.length h0_0c31) false (List.getD h0_2 (0 + (Int.toNat s40k14)) (0 : Int)) h0_0c31 h0_1c31 h0_2c31 (List.length h5k14) false h2_1c44 h2_2c44 h5k14 (some (.r1 h2_1c45 h2_2c45 h4c45)))] (by kernel_rfl) (ya (pT h39x) (ya (pT h40x) (ya (pT h41x) (ya (pNE h42x) (ya (ys (ef53 N (List.length h0_0c30) false (List.getD h0_1 (0 + (Int.toNat s40k14)) (0 : Int)) h0_0c30 h0_1c30 h0_2c30 (List.length h5k14) false h4_1k14 h4_2k14 h5k14) hc44) (ya (ys (ef53 N (List.length h0_0c31) false (List.getD h0_2 (0 + (Int.toNat s40k14)) (0 : Int)) h0_0c31 h0_1c31 h0_2c31 (List.length h5k14) false h2_1c44 h2_2c44 h5k14) hc45) yz)))))))
        | r1 h2_1c44 h2_2c44 h4c44 =>
          dsimp only
          cases hc46 : f53 N (List.length h0_0c31) (List.getD h0_2 (0 + (Int.toNat s40k14)) (0 : Int)) h0_0c31 h0_1c31 h0_2c31 (List.length h4c44) h2_1c44 h2_2c44 h4c44 with
          | none => exact finL (ctx28 N) 1 Try.f28 14 n [.b true, .b true, .b true, .b false, .call (rf53 (List.length h0_0c30) false (List.getD h0_1 (0 + (Int.toNat s40k14)) (0 : Int)) h0_0c30 h0_1c30 h0_2c30 (List.length h5k14) false h4_1k14 h4_2k14 h5k14 (some (.r1 h2_1c44 h2_2c44 h4c44))), .call (rf53 (List.length h0_0c31) false (List.getD h0_2 (0 + (Int.toNat s40k14)) (0 : Int)) h0_0c31 h0_1c31 h0_2c31 (List.length h4c44) false h2_1c44 h2_2c44 h4c44 none)] (by kernel_rfl) (ya (pT h39x) (ya (pT h40x) (ya (pT h41x) (ya (pNE h42x) (ya (ys (ef53 N (List.length h0_0c30) false (List.getD h0_1 (0 + (Int.toNat s40k14)) (0 : Int)) h0_0c30 h0_1c30 h0_2c30 (List.length h5k14) false h4_1k14 h4_2k14 h5k14) hc44) (ya (ys (ef53 N (List.length h0_0c31) false (List.getD h0_2 (0 + (Int.toNat s40k14)) (0 : Int)) h0_0c31 h0_1c31 h0_2c31 (List.length h4c44) false h2_1c44 h2_2c44 h4c44) hc46) yz))))))
          | some o =>
            cases o with
            | r0 h2_1c46 h2_2c46 =>
              dsimp only
              exact (ih (IntKind.wrap IntKind.i64 (s40k14 + (1 : Int))) h2_1c46 h2_2c46 h4c44).trans (finL (ctx28 N) 1 Try.f28 14 n [.b true, .b true, .b true, .b false, .call (rf53 (List.length h0_0c30) false (List.getD h0_1 (0 + (Int.toNat s40k14)) (0 : Int)) h0_0c30 h0_1c30 h0_2c30 (List.length h5k14) false h4_1k14 h4_2k14 h5k14 (some (.r1 h2_1c44 h2_2c44 h4c44))), .call (rf53 (List.length h0_0c31) false (List.getD h0_2 (0 + (Int.toNat s40k14)) (0 : Int)) h0_0c31 h0_1c31 h0_2c31 (List.length h4c44) false h2_1c44 h2_2c44 h4c44 (some (.r0 h2_1c46 h2_2c46)))] (by kernel_rfl) (ya (pT h39x) (ya (pT h40x) (ya (pT h41x) (ya (pNE h42x) (ya (ys (ef53 N (List.length h0_0c30) false (List.getD h0_1 (0 + (Int.toNat s40k14)) (0 : Int)) h0_0c30 h0_1c30 h0_2c30 (List.length h5k14) false h4_1k14 h4_2k14 h5k14) hc44) (ya (ys (ef53 N (List.length h0_0c31) false (List.getD h0_2 (0 + (Int.toNat s40k14)) (0 : Int)) h0_0c31 h0_1c31 h0_2c31 (List.length h4c44) false h2_1c44 h2_2c44 h4c44) hc46) yz)))))))
            | r1 h2_1c46 h2_2c46 h4c46 =>
              dsimp only
              exact (ih (IntKind.wrap IntKind.i64 (s40k14 + (1 : Int))) h2_1c46 h2_2c46 h4c46).trans (finL (ctx28 N) 1 Try.f28 14 n [.b true, .b true, .b true, .b false, .call (rf53 (List.length h0_0c30) false (List.getD h0_1 (0 + (Int.toNat s40k14)) (0 : Int)) h0_0c30 h0_1c30 h0_2c30 (List.length h5k14) false h4_1k14 h4_2k14 h5k14 (some (.r1 h2_1c44 h2_2c44 h4c44))), .call (rf53 (List.length h0_0c31) false (List.getD h0_2 (0 + (Int.toNat s40k14)) (0 : Int)) h0_0c31 h0_1c31 h0_2c31 (List.length h4c44) false h2_1c44 h2_2c44 h4c44 (some (.r1 h2_1c46 h2_2c46 h4c46)))] (by kernel_rfl) (ya (pT h39x) (ya (pT h40x) (ya (pT h41x) (ya (pNE h42x) (ya (ys (ef53 N (List.length h0_0c30) false (List.getD h0_1 (0 + (Int.toNat s40k14)) (0 : Int)) h0_0c30 h0_1c30 h0_2c30 (List.length h5k14) false h4_1k14 h4_2k14 h5k14) hc44) (ya (ys (ef53 N (List.length h0_0c31) false (List.getD h0_2 (0 + (Int.toNat s40k14)) (0 : Int)) h0_0c31 h0_1c31 h0_2c31 (List.length h4c44) false h2_1c44 h2_2c44 h4c44) hc46) yz)))))))
/-! 28, loop 14 -/
inductive Qlf28_14c where
  | e0 (h2_0nl : Bool) (h2_1 : Int) (h2_2 : Int) (h3 : List Int)
def slf28_14c (N : Nat) (a0n : Nat) (h0_0 : List Int) (h0_1 : List Int) (h0_2 : List Int) (h1_2nc6 : Nat) (h2c6 : List Int) (h3c6 : List Int) (h0_0c52 : List Int) (h0_1c52 : List Int) (h0_2c52 : List Int) (h0_0c53 : List Int) (h0_1c53 : List Int) (h0_2c53 : List Int) (n : Nat) (go : Int → Bool → Int → Int → List Int → Option Qlf28_14c) (s40k14 : Int) (h8_0nlk14 : Bool) (h8_1k14 : Int) (h8_2k14 : Int) (h9k14 : List Int) : Option Qlf28_14c :=
 if (s40k14 < ((a0n : Nat) : Int)) then
  if (((0 : Int) ≤ s40k14) ∧ ((Int.toNat s40k14) < a0n)) then
   if ((0 + (Int.toNat s40k14)) < (List.length h0_0)) then
    if ((List.getD h0_1 (0 + (Int.toNat s40k14)) (0 : Int)) = (0 : Int)) then
     (match f15v1 N with
     | none => none
     | some .r0 =>
      go (IntKind.wrap IntKind.i64 (s40k14 + (1 : Int))) h8_0nlk14 h8_1k14 h8_2k14 h9k14)
    else
     (match f53 N (List.length h0_0c52) (List.getD h0_1 (0 + (Int.toNat s40k14)) (0 : Int)) h0_0c52 h0_1c52 h0_2c52 (List.length h9k14) h8_1k14 h8_2k14 h9k14 with
     | none => none
     | some (.r0 h2_1c66 h2_2c66) =>
      (match f53v1 N (List.length h0_0c53) (List.getD h0_2 (0 + (Int.toNat s40k14)) (0 : Int)) (List.length h2c6) h1_2nc6 h0_0c53 h0_1c53 h0_2c53 h2c6 h3c6 (List.length h9k14) h2_1c66 h2_2c66 h9k14 with
      | none => none
      | some (.r0 h6_1c67 h6_2c67) =>
       go (IntKind.wrap IntKind.i64 (s40k14 + (1 : Int))) h8_0nlk14 h6_1c67 h6_2c67 h9k14
      | some (.r1 h6_1c67 h6_2c67 h8c67) =>
       go (IntKind.wrap IntKind.i64 (s40k14 + (1 : Int))) false h6_1c67 h6_2c67 h8c67)
     | some (.r1 h2_1c66 h2_2c66 h4c66) =>
      (match f53v1 N (List.length h0_0c53) (List.getD h0_2 (0 + (Int.toNat s40k14)) (0 : Int)) (List.length h2c6) h1_2nc6 h0_0c53 h0_1c53 h0_2c53 h2c6 h3c6 (List.length h4c66) h2_1c66 h2_2c66 h4c66 with
      | none => none
      | some (.r0 h6_1c68 h6_2c68) =>
       go (IntKind.wrap IntKind.i64 (s40k14 + (1 : Int))) false h6_1c68 h6_2c68 h4c66
      | some (.r1 h6_1c68 h6_2c68 h8c68) =>
       go (IntKind.wrap IntKind.i64 (s40k14 + (1 : Int))) false h6_1c68 h6_2c68 h8c68))
   else
    none
  else
   none
 else
  some (.e0 h8_0nlk14 h8_1k14 h8_2k14 h9k14)
def lf28_14c (N : Nat) (a0n : Nat) (h0_0 : List Int) (h0_1 : List Int) (h0_2 : List Int) (h1_2nc6 : Nat) (h2c6 : List Int) (h3c6 : List Int) (h0_0c52 : List Int) (h0_1c52 : List Int) (h0_2c52 : List Int) (h0_0c53 : List Int) (h0_1c53 : List Int) (h0_2c53 : List Int) : Nat → Int → Bool → Int → Int → List Int → Option Qlf28_14c
  | 0, _, _, _, _, _ => none
  | n + 1, s40k14, h8_0nlk14, h8_1k14, h8_2k14, h9k14 => slf28_14c N a0n h0_0 h0_1 h0_2 h1_2nc6 h2c6 h3c6 h0_0c52 h0_1c52 h0_2c52 h0_0c53 h0_1c53 h0_2c53 n (lf28_14c N a0n h0_0 h0_1 h0_2 h1_2nc6 h2c6 h3c6 h0_0c52 h0_1c52 h0_2c52 h0_0c53 h0_1c53 h0_2c53 n) s40k14 h8_0nlk14 h8_1k14 h8_2k14 h9k14
def qlf28_14c (a0n : Nat) (a0nl : Bool) (h0rw : Bool) (h0_0 : List Int) (h0_1 : List Int) (h0_2 : List Int) (h1_0c6 : List Int) (h1_1nlc6 : Bool) (h1_2nc6 : Nat) (h1_2nlc6 : Bool) (h1_3nlc6 : Bool) (h2c6 : List Int) (h3c6 : List Int) (h4c6 : List Int) (h0_0c52 : List Int) (h0_1c52 : List Int) (h0_2c52 : List Int) (h0_0c53 : List Int) (h0_1c53 : List Int) (h0_2c53 : List Int) : Option Qlf28_14c → Out
  | none => none
  | some (.e0 h2_0nl h2_1 h2_2 h3) => some ((XT.exit 0), (St.mk [(4, AV.nilptr), (7, (AV.ptr 1 0 0 1))] [(Blk.dyn h0rw 62 [(Col.ints IntKind.i64 h0_0), (Col.ints IntKind.i64 h0_1), (Col.ints IntKind.i64 h0_2)]), (Blk.segs true 27 [(Seg.cell (AV.ptr 2 0 0 1))]), (Blk.segs true 72 [(Seg.cell (AV.slice 3 0 0 (List.length h3) 1 h2_0nl true)), (Seg.cell (AV.int IntKind.i64 h2_1)), (Seg.cell (AV.int IntKind.i64 h2_2))]), (Blk.dyn true 5 [(Col.ints IntKind.u8 h3)])]))
theorem elf28_14c (N : Nat) (a0n : Nat) (a0nl : Bool) (h0rw : Bool) (h0_0 : List Int) (h0_1 : List Int) (h0_2 : List Int) (h1_0c6 : List Int) (h1_1nlc6 : Bool) (h1_2nc6 : Nat) (h1_2nlc6 : Bool) (h1_3nlc6 : Bool) (h2c6 : List Int) (h3c6 : List Int) (h4c6 : List Int) (h0_0c52 : List Int) (h0_1c52 : List Int) (h0_2c52 : List Int) (h0_0c53 : List Int) (h0_1c53 : List Int) (h0_2c53 : List Int) : ∀ (n : Nat) (s40k14 : Int) (h8_0nlk14 : Bool) (h8_1k14 : Int) (h8_2k14 : Int) (h9k14 : List Int), qlf28_14c a0n a0nl h0rw h0_0 h0_1 h0_2 h1_0c6 h1_1nlc6 h1_2nc6 h1_2nlc6 h1_3nlc6 h2c6 h3c6 h4c6 h0_0c52 h0_1c52 h0_2c52 h0_0c53 h0_1c53 h0_2c53 (lf28_14c N a0n h0_0 h0_1 h0_2 h1_2nc6 h2c6 h3c6 h0_0c52 h0_1c52 h0_2c52 h0_0c53 h0_1c53 h0_2c53 n s40k14 h8_0nlk14 h8_1k14 h8_2k14 h9k14) = lp (ctx28 N) 1 Try.f28 14 n (St.mk [(4, AV.nilptr), (6, (AV.ptr 1 0 0 1)), (7, (AV.ptr 2 0 0 1)), (8, (AV.func 53 ([] : List AV) [(AV.ptr 2 0 0 1)])), (9, (AV.slice 3 0 0 (List.length h0_0c52) 3 false true)), (10, (AV.slice 4 0 0 (List.length h0_0c53) 3 false true)), (38, (AV.slice 0 0 0 a0n 3 a0nl true)), (39, (AV.int IntKind.i64 ((a0n : Nat) : Int))), (40, (AV.int IntKind.i64 s40k14))] [(Blk.dyn h0rw 62 [(Col.ints IntKind.i64 h0_0), (Col.ints IntKind.i64 h0_1), (Col.ints IntKind.i64 h0_2)]), (Blk.segs true 70 [(Seg.run IntKind.i64 16 h1_0c6), (Seg.cell (AV.slice 5 0 0 (List.length h2c6) 1 h1_1nlc6 true)), (Seg.cell (AV.slice 6 0 0 h1_2nc6 1 h1_2nlc6 true)), (Seg.cell (AV.slice 7 0 0 (List.length h4c6) 1 h1_3nlc6 true))]), (Blk.segs true 27 [(Seg.cell (AV.ptr 8 0 0 1))]), (Blk.dyn true 89 [(Col.ints IntKind.i64 h0_0c52), (Col.ints IntKind.i64 h0_1c52), (Col.ints IntKind.i64 h0_2c52)]), (Blk.dyn true 89 [(Col.ints IntKind.i64 h0_0c53), (Col.ints IntKind.i64 h0_1c53), (Col.ints IntKind.i64 h0_2c53)]), (Blk.dyn true 3 [(Col.ints IntKind.i64 h2c6)]), (Blk.dyn true 3 [(Col.ints IntKind.i64 h3c6)]), (Blk.dyn true 3 [(Col.ints IntKind.i64 h4c6)]), (Blk.segs true 72 [(Seg.cell (AV.slice 9 0 0 (List.length h9k14) 1 h8_0nlk14 true)), (Seg.cell (AV.int IntKind.i64 h8_1k14)), (Seg.cell (AV.int IntKind.i64 h8_2k14))]), (Blk.dyn true 5 [(Col.ints IntKind.u8 h9k14)])]) := by
  intro n
  induction n with
  | zero => intros; kernel_rfl
  | succ n ih =>
    intro s40k14 h8_0nlk14 h8_1k14 h8_2k14 h9k14
    rw [lf28_14c]
    unfold slf28_14c
    refine br (p := (s40k14 < ((a0n : Nat) : Int))) (fun h61x => ?_) (fun h61x => finL (ctx28 N) 1 Try.f28 14 n [.b false] (by kernel_rfl) (ya (pF h61x) yz))
    refine br (p := (((0 : Int) ≤ s40k14) ∧ ((Int.toNat s40k14) < a0n))) (fun h62x => ?_) (fun h62x => finL (ctx28 N) 1 Try.f28 14 n [.b true, .b false] (by kernel_rfl) (ya (pT h61x) (ya (pF h62x) yz)))
    refine br (p := ((0 + (Int.toNat s40k14)) < (List.length h0_0))) (fun h63x => ?_) (fun h63x => finL (ctx28 N) 1 Try.f28 14 n [.b true, .b true, .b false] (by kernel_rfl) (ya (pT h61x) (ya (pT h62x) (ya (pF h63x) yz))))
    refine br (p := ((List.getD h0_1 (0 + (Int.toNat s40k14)) (0 : Int)) = (0 : Int))) (fun h64x => ?_) (fun h64x => ?_)
    · skip
      cases hc65 : f15v1 N with
      | none => exact finL (ctx28 N) 1 Try.f28 14 n [.b true, .b true, .b true, .b true, .call (rf15v1 (List.getD h0_0 (0 + (Int.toNat s40k14)) (0 : Int)) (List.length h9k14) h8_0nlk14 h8_1k14 h8_2k14 h9k14 none)] (by kernel_rfl) (ya (pT h61x) (ya (pT h62x) (ya (pT h63x) (ya (pE h64x) (ya (ys (ef15v1 N (List.getD h0_0 (0 + (Int.toNat s40k14)) (0 : Int)) (List.length h9k14) h8_0nlk14 h8_1k14 h8_2k14 h9k14) hc65) yz)))))
      | some o =>
        cases o with
        | r0 =>
          dsimp only
          exact (ih (IntKind.wrap IntKind.i64 (s40k14 + (1 : Int))) h8_0nlk14 h8_1k14 h8_2k14 h9k14).trans (finL (ctx28 N) 1 Try.f28 14 n [.b true, .b true, .b true, .b true, .call (rf15v1 (List.getD h0_0 (0 + (Int.toNat s40k14)) (0 : Int)) (List.length h9k14) h8_0nlk14 h8_1k14 h8_2k14 h9k14 (some .r0))] (by kernel_rfl) (ya (pT h61x) (ya (pT h62x) (ya (pT h63x) (ya (pE h64x) (ya (ys (ef15v1 N (List.getD h0_0 (0 + (Int.toNat s40k14)) (0 : Int)) (List.length h9k14) h8_0nlk14 h8_1k14 h8_2k14 h9k14) hc65) yz))))))
    · skip
      cases hc66 : f53 N (List.length h0_0c52) (List.getD h0_1 (0 + (Int.toNat s40k14)) (0 : Int)) h0_0c52 h0_1c52 h0_2c52 (List.length h9k14) h8_1k14 h8_2k14 h9k14 with
      | none => exact finL (ctx28 N) 1 Try.f28 14 n [.b true, .b true, .b true, .b false, .call (rf53 (List.length h0_0c52) false (List.getD h0_1 (0 + (Int.toNat s40k14)) (0 : Int)) h0_0c52 h0_1c52 h0_2c52 (List.length h9k14) h8_0nlk14 h8_1k14 h8_2k14 h9k14 none)] (by kernel_rfl) (ya (pT h61x) (ya (pT h62x) (ya (pT h63x) (ya (pNE h64x) (ya (ys (ef53 N (List.length h0_0c52) false (List.getD h0_1 (0 + (Int.toNat s40k14)) (0 : Int)) h0_0c52 h0_1c52 h0_2c52 (List.length h9k14) h8_0nlk14 h8_1k14 h8_2k14 h9k14) hc66) yz)))))
      | some o =>
        cases o with
        | r0 h2_1c66 h2_2c66 =>
          dsimp only
          cases hc67 : f53v1 N (List.length h0_0c53) (List.getD h0_2 (0 + (Int.toNat s40k14)) (0 : Int)) (List.length h2c6) h1_2nc6 h0_0c53 h0_1c53 h0_2c53 h2c6 h3c6 (List.length h9k14) h2_1c66 h2_2c66 h9k14 with
          | none => exact finL (ctx28 N) 1 Try.f28 14 n [.b true, .b true, .b true, .b false, .call (rf53 (List.length h0_0c52) false (List.getD h0_1 (0 + (Int.toNat s40k14)) (0 : Int)) h0_0c52 h0_1c52 h0_2c52 (List.length h9k14) h8_0nlk14 h8_1k14 h8_2k14 h9k14 (some (.r0 h2_1c66 h2_2c66))), .call (rf53v1 (List.length h0_0c53) false (List.getD h0_2 (0 + (Int.toNat s40k14)) (0 : Int)) h1_0c6 (List.length h2c6) h1_1nlc6 h1_2nc6 h1_2nlc6 (List.length h4c6) h1_3nlc6 h0_0c53 h0_1c53 h0_2c53 h2c6 h3c6 h4c6 (List.length h9k14) h8_0nlk14 h2_1c66 h2_2c66 h9k14 none)] (by kernel_rfl) (ya (pT h61x) (ya (pT h62x) (ya (pT h63x) (ya (pNE h64x) (ya (ys (ef53 N (List.length h0_0c52) false (List.getD h0_1 (0 + (Int.toNat s40k14)) (0 : Int)) h0_0c52 h0_1c52 h0_2c52 (List.length h9k14) h8_0nlk14 h8_1k14 h8_2k14 h9k14) hc66) (ya (ys (ef53v1 N (List.length h0_0c53) false (List.getD h0_2 (0 + (Int.toNat s40k14)) (0 : Int)) h1_0c6 (List.length h2c6) h1_1nlc6 h1_2nc6 h1_2nlc6 (List.length h4c6) h1_3nlc6 h0_0c53 h0_1c53 h0_2c53 h2c6 h3c6 h4c6 (List.length h9k14) h8_0nlk14 h2_1c66 h2_2c66 h9k14) hc67) yz))))))
          | some o =>
            cases o with
            | r0 h6_1c67 h6_2c67 =>
              dsimp only
              exact (ih (IntKind.wrap IntKind.i64 (s40k14 + (1 : Int))) h8_0nlk14 h6_1c67 h6_2c67 h9k14).trans (finL (ctx28 N) 1 Try.f28 14 n [.b true, .b true, .b true, .b false, .call (rf53 (List.length h0_0c52) false (List.getD h0_1 (0 + (Int.toNat s40k14)) (0 : Int)) h0_0c52 h0_1c52 h0_2c52 (List.length h9k14) h8_0nlk14 h8_1k14 h8_2k14 h9k14 (some (.r0 h2_1c66 h2_2c66))), .call (rf53v1 (List.length h0_0c53) false (List.getD h0_2 (0 + (Int.toNat s40k14)) (0 : Int)) h1_0c6 (List.length h2c6) h1_1nlc6 h1_2nc6 h1_2nlc6 (List.length h4c6) h1_3nlc6 h0_0c53 h0_1c53 h0_2c53 h2c6 h3c6 h4c6 (List.length h9k14) h8_0nlk14 h2_1c66 h2_2c66 h9k14 (some (.r0 h6_1c67 h6_2c67)))] (by kernel_rfl) (ya (pT h61x) (ya (pT h62x) (ya (pT h63x) (ya (pNE h64x) (ya (ys (ef53 N (List.length h0_0c52) false (List.getD h0_1 (0 + (Int.toNat s40k14)) (0 : Int)) h0_0c52 h0_1c52 h0_2c52 (List.length h9k14) h8_0nlk14 h8_1k14 h8_2k14 h9k14) hc66) (ya (ys (ef53v1 N (List.length h0_0c53) false (List.getD h0_2 (0 + (Int.toNat s40k14)) (0 : Int)) h1_0c6 (List.length h2c6) h1_1nlc6 h1_2nc6 h1_2nlc6 (List.length h4c6) h1_3nlc6 h0_0c53 h0_1c53 h0_2c53 h2c6 h3c6 h4c6 (List.length h9k14) h8_0nlk14 h2_1c66 h2_2c66 h9k14) hc67) yz)))))))
            | r1 h6_1c67 h6_2c67 h8c67 =>
              dsimp only
              exact (ih (IntKind.wrap IntKind.i64 (s40k14 + (1 : Int))) false h6_1c67 h6_2c67 h8c67).trans (finL (ctx28 N) 1 Try.f28 14 n [.b true, .b true, .b true, .b false, .call (rf53 (List.length h0_0c52) false (List.getD h0_1 (0 + (Int.toNat s40k14)) (0 : Int)) h0_0c52 h0_1c52 h0_2c52 (List.length h9k14) h8_0nlk14 h8_1k14 h8_2k14 h9k14 (some (.r0 h2_1c66 h2_2c66))), .call (rf53v1 (List.length h0_0c53) false (List.getD h0_2 (0 + (Int.toNat s40k14)) (0 : Int)) h1_0c6 (List.length h2c6) h1_1nlc6 h1_2nc6 h1_2nlc6 (List.length h4c6) h1_3nlc6 h0_0c53 h0_1c53 h0_2c53 h2c6 h3c6 h4c6 (List.length h9k14) h8_0nlk14 h2_1c66 h2_2c66 h9k14 (some (.r1 h6_1c67 h6_2c67 h8c67)))] (by kernel_rfl) (ya (pT h61x) (ya (pT h62x) (ya (pT h63x) (ya (pNE h64x) (ya (ys (ef53 N (List.length h0_0c52) false (List.getD h0_1 (0 + (Int.toNat s40k14)) (0 : Int)) h0_0c52 h0_1c52 h0_2c52 (List.length h9k14) h8_0nlk14 h8_1k14 h8_2k14 h9k14) hc66) (ya (ys (ef53v1 N (List.length h0_0c53) false (List.getD h0_2 (0 + (Int.toNat s40k14)) (0 : Int)) h1_0c6 (List.length h2c6) h1_1nlc6 h1_2nc6 h1_2nlc6 (List.length h4c6) h1_3nlc6 h0_0c53 h0_1c53 h0_2c53 h2c6 h3c6 h4c6 (List.length h9k14) h8_0nlk14 h2_1c66 h2_2c66 h9k14) hc67) yz)))))))
        | r1 h2_1c66 h2_2c66 h4c66 =>
          dsimp only
          cases hc68 : f53v1 N (List.length h0_0c53) (List.getD h0_2 (0 + (Int.toNat s40k14)) (0 : Int)) (List.length h2c6) h1_2nc6 h0_0c53 h0_1c53 h0_2c53 h2c6 h3c6 (List.length h4c66) h2_1c66 h2_2c66 h4c66 with
          | none => exact finL (ctx28 N) 1 Try.f28 14 n [.b true, .b true, .b true, .b false, .call (rf53 (List.length h0_0c52) false (List.getD h0_1 (0 + (Int.toNat s40k14)) (0 : Int)) h0_0c52 h0_1c52 h0_2c52 (List.length h9k14) h8_0nlk14 h8_1k14 h8_2k14 h9k14 (some (.r1 h2_1c66 h2_2c66 h4c66))), .call (rf53v1 (List.length h0_0c53) false (List.getD h0_2 (0 + (Int.toNat s40k14)) (0 : Int)) h1_0c6 (List.length h2c6) h1_1nlc6 h1_2nc6 h1_2nlc6 (List.length h4c6) h1_3nlc6 h0_0c53 h0_1c53 h0_2c53 h2c6 h3c6 h4c6 (List.length h4c66) false h2_1c66 h2_2c66 h4c66 none)] (by kernel_rfl) (ya (pT h61x) (ya (pT h62x) (ya (pT h63x) (ya (pNE h64x) (ya (ys (ef53 N (List.length h0_0c52) false (List.getD h0_1 (0 + (Int.toNat s40k14)) (0 : Int)) h0_0c52 h0_1c52 h0_2c52 (List.length h9k14) h8_0nlk14 h8_1k14 h8_2k14 h9k14) hc66) (ya (ys (ef53v1 N (List.length h0_0c53) false (List.getD h0_2 (0 + (Int.toNat s40k14)) (0 : Int)) h1_0c6 (List.length h2c6) h1_1nlc6 h1_2nc6 h1_2nlc6 (List.length h4c6) h1_3nlc6 h0_0c53 h0_1c53 h0_2c53 h2c6 h3c6 h4c6 (List.length h4c66) false h2_1c66 h2_2c66 h4c66) hc68) yz))))))
          | some o =>
            cases o with
            | r0 h6_1c68 h6_2c68 =>
              dsimp only
              exact (ih (IntKind.wrap IntKind.i64 (s40k14 + (1 : Int))) false h6_1c68 h6_2c68 h4c66).trans (finL (ctx28 N) 1 Try.f28 14 n [.b true, .b true, .b true, .b false, .call (rf53 (List.length h0_0c52) false (List.getD h0_1 (0 + (Int.toNat s40k14)) (0 : Int)) h0_0c52 h0_1c52 h0_2c52 (List.length h9k14) h8_0nlk14 h8_1k14 h8_2k14 h9k14 (some (.r1 h2_1c66 h2_2c66 h4c66))), .call (rf53v1 (List.length h0_0c53) false (List.getD h0_2 (0 + (Int.toNat s40k14)) (0 : Int)) h1_0c6 (List.length h2c6) h1_1nlc6 h1_2nc6 h1_2nlc6 (List.length h4c6) h1_3nlc6 h0_0c53 h0_1c53 h0_2c53 h2c6 h3c6 h4c6 (List.length h4c66) false h2_1c66 h2_2c66 h4c66 (some (.r0 h6_1c68 h6_2c68)))] (by kernel_rfl) (ya (pT h61x) (ya (pT h62x) (ya (pT h63x) (ya (pNE h64x) (ya (ys (ef53 N (List.length h0_0c52) false (List.getD h0_1 (0 + (Int.toNat s40k14)) (0 : Int)) h0_0c52 h0_1c52 h0_2c52 (List.length h9k14) h8_0nlk14 h8_1k14 h8_2k14 h9k14) hc66) (ya (ys (ef53v1 N (List.length h0_0c53) false (List.getD h0_2 (0 + (Int.toNat s40k14)) (0 : Int)) h1_0c6 (List.length h2c6) h1_1nlc6 h1_2nc6 h1_2nlc6 (List.length h4c6) h1_3nlc6 h0_0c53 h0_1c53 h0_2c53 h2c6 h3c6 h4c6 (List.length h4c66) false h2_1c66 h2_2c66 h4c66) hc68) yz)))))))
            | r1 h6_1c68 h6_2c68 h8c68 =>
              dsimp only
              exact (ih (IntKind.wrap IntKind.i64 (s40k14 + (1 : Int))) false h6_1c68 h6_2c68 h8c68).trans (finL (ctx28 N) 1 Try.f28 14 n [.b true, .b true, .b true, .b false, .call (rf53 (List.length h0_0c52) false (List.getD h0_1 (0 + (Int.toNat s40k14)) (0 : Int)) h0_0c52 h0_1c52 h0_2c52 (List.length h9k14) h8_0nlk14 h8_1k14 h8_2k14 h9k14 (some (.r1 h2_1c66 h2_2c66 h4c66))), .call (rf53v1 (List.length h0_0c53) false (List.getD h0_2 (0 + (Int.toNat s40k14)) (0 : Int)) h1_0c6 (List.length h2c6) h1_1nlc6 h1_2nc6 h1_2nlc6 (List.length h4c6) h1_3nlc6 h0_0c53 h0_1c53 h0_2c53 h2c6 h3c6 h4c6 (List.length h4c66) false h2_1c66 h2_2c66 h4c66 (some (.r1 h6_1c68 h6_2c68 h8c68)))] (by kernel_rfl) (ya (pT h61x) (ya (pT h62x) (ya (pT h63x) (ya (pNE h64x) (ya (ys (ef53 N (List.length h0_0c52) false (List.getD h0_1 (0 + (Int.toNat s40k14)) (0 : Int)) h0_0c52 h0_1c52 h0_2c52 (List.length h9k14) h8_0nlk14 h8_1k14 h8_2k14 h9k14) hc66) (ya (ys (ef53v1 N (List.length h0_0c53) false (List.getD h0_2 (0 + (Int.toNat s40k14)) (0 : Int)) h1_0c6 (List.length h2c6) h1_1nlc6 h1_2nc6 h1_2nlc6 (List.length h4c6) h1_3nlc6 h0_0c53 h0_1c53 h0_2c53 h2c6 h3c6 h4c6 (List.length h4c66) false h2_1c66 h2_2c66 h4c66) hc68) yz)))))))
/-! 28, loop 14 -/
inductive Qlf28_14d where
  | e0 (h2_1 : Int) (h2_2 : Int) (h3 : List Int)
def slf28_14d (N : Nat) (a0n : Nat) (h0_0 : List Int) (h0_1 : List Int) (h0_2 : List Int) (h1_2nc6 : Nat) (h2c6 : List Int) (h3c6 : List Int) (h0_0c72 : List Int) (h0_1c72 : List Int) (h0_2c72 : List Int) (h0_0c73 : List Int) (h0_1c73 : List Int) (h0_2c73 : List Int) (n : Nat) (go : Int → Int → Int → List Int → Option Qlf28_14d) (s40k14 : Int) (h8_1k14 : Int) (h8_2k14 : Int) (h9k14 : List Int) : Option Qlf28_14d :=
 if (s40k14 < ((a0n : Nat) : Int)) then
  if (((0 : Int) ≤ s40k14) ∧ ((Int.toNat s40k14) < a0n)) then
   if ((0 + (Int.toNat s40k14)) < (List.length h0_0)) then
    if ((List.getD h0_1 (0 + (Int.toNat s40k14)) (0 : Int)) = (0 : Int)) then
     (match f15v1 N with
     | none => none
     | some .r0 =>
      go (IntKind.wrap IntKind.i64 (s40k14 + (1 : Int))) h8_1k14 h8_2k14 h9k14)
    else
     (match f53 N (List.length h0_0c72) (List.getD h0_1 (0 + (Int.toNat s40k14)) (0 : Int)) h0_0c72 h0_1c72 h0_2c72 (List.length h9k14) h8_1k14 h8_2k14 h9k14 with
     | none => none
     | some (.r0 h2_1c86 h2_2c86) =>
      (match f53v1 N (List.length h0_0c73) (List.getD h0_2 (0 + (Int.toNat s40k14)) (0 : Int)) (List.length h2c6) h1_2nc6 h0_0c73 h0_1c73 h0_2c73 h2c6 h3c6 (List.length h9k14) h2_1c86 h2_2c86 h9k14 with
      | none => none
      | some (.r0 h6_1c87 h6_2c87) =>
       go (IntKind.wrap IntKind.i64 (s40k14 + (1 : Int))) h6_1c87 h6_2c87 h9k14
      | some (.r1 h6_1c87 h6_2c87 h8c87) =>
       go (IntKind.wrap IntKind.i64 (s40k14 + (1 : Int))) h6_1c87 h6_2c87 h8c87)
     | some (.r1 h2_1c86 h2_2c86 h4c86) =>
      (match f53v1 N (List.length h0_0c73) (List.getD h0_2 (0 + (Int.toNat s40k14)) (0 : Int)) (List.length h2c6) h1_2nc6 h0_0c73 h0_1c73 h0_2c73 h2c6 h3c6 (List.length h4c86) h2_1c86 h2_2c86 h4c86 with
      | none => none
      | some (.r0 h6_1c88 h6_2c88) =>
       go (IntKind.wrap IntKind.i64 (s40k14 + (1 : Int))) h6_1c88 h6_2c88 h4c86
      | some (.r1 h6_1c88 h6_2c88 h8c88) =>
       go (IntKind.wrap IntKind.i64 (s40k14 + (1 : Int))) h6_1c88 h6_2c88 h8c88))
   else
    none
  else
   none
 else
  some (.e0 h8_1k14 h8_2k14 h9k14)
def lf28_14d (N : Nat) (a0n : Nat) (h0_0 : List Int) (h0_1 : List Int) (h0_2 : List Int) (h1_2nc6 : Nat) (h2c6 : List Int) (h3c6 : List Int) (h0_0c72 : List Int) (h0_1c72 : List Int) (h0_2c72 : List Int) (h0_0c73 : List Int) (h0_1c73 : List Int) (h0_2c73 : List Int) : Nat → Int → Int → Int → List Int → Option Qlf28_14d
  | 0, _, _, _, _ => none
  | n + 1, s40k14, h8_1k14, h8_2k14, h9k14 => slf28_14d N a0n h0_0 h0_1 h0_2 h1_2nc6 h2c6 h3c6 h0_0c72 h0_1c72 h0_2c72 h0_0c73 h0_1c73 h0_2c73 n (lf28_14d N a0n h0_0 h0_1 h0_2 h1_2nc6 h2c6 h3c6 h0_0c72 h0_1c72 h0_2c72 h0_0c73 h0_1c73 h0_2c73 n) s40k14 h8_1k14 h8_2k14 h9k14
def qlf28_14d (a0n : Nat) (a0nl : Bool) (h0rw : Bool) (h0_0 : List Int) (h0_1 : List Int) (h0_2 : List Int) (h1_0c6 : List Int) (h1_1nlc6 : Bool) (h1_2nc6 : Nat) (h1_2nlc6 : Bool) (h1_3nlc6 : Bool) (h2c6 : List Int) (h3c6 : List Int) (h4c6 : List Int) (h0_0c72 : List Int) (h0_1c72 : List Int) (h0_2c72 : List Int) (h0_0c73 : List Int) (h0_1c73 : List Int) (h0_2c73 : List Int) : Option Qlf28_14d → Out
  | none => none
  | some (.e0 h2_1 h2_2 h3) => some ((XT.exit 0), (St.mk [(4, AV.nilptr), (7, (AV.ptr 1 0 0 1))] [(Blk.dyn h0rw 62 [(Col.ints IntKind.i64 h0_0), (Col.ints IntKind.i64 h0_1), (Col.ints IntKind.i64 h0_2)]), (Blk.segs true 27 [(Seg.cell (AV.ptr 2 0 0 1))]), (Blk.segs true 72 [(Seg.cell (AV.slice 3 0 0 (List.length h3) 1 false true)), (Seg.cell (AV.int IntKind.i64 h2_1)), (Seg.cell (AV.int IntKind.i64 h2_2))]), (Blk.dyn true 5 [(Col.ints IntKind.u8 h3)])]))
theorem elf28_14d (N : Nat) (a0n : Nat) (a0nl : Bool) (h0rw : Bool) (h0_0 : List Int) (h0_1 : List Int) (h0_2 : List Int) (h1_0c6 : List Int) (h1_1nlc6 : Bool) (h1_2nc6 : Nat) (h1_2nlc6 : Bool) (h1_3nlc6 : Bool) (h2c6 : List Int) (h3c6 : List Int) (h4c6 : List Int) (h0_0c72 : List Int) (h0_1c72 : List Int) (h0_2c72 : List Int) (h0_0c73 : List Int) (h0_1c73 : List Int) (h0_2c73 : List Int) : ∀ (n : Nat) (s40k14 : Int) (h8_1k14 : Int) (h8_2k14 : Int) (h9k14 : List Int), qlf28_14d a0n a0nl h0rw h0_0 h0_1 h0_2 h1_0c6 h1_1nlc6 h1_2nc6 h1_2nlc6 h1_3nlc6 h2c6 h3c6 h4c6 h0_0c72 h0_1c72 h0_2c72 h0_0c73 h0_1c73 h0_2c73 (lf28_14d N a0n h0_0 h0_1 h0_2 h1_2nc6 h2c6 h3c6 h0_0c72 h0_1c72 h0_2c72 h0_0c73 h0_1c73 h0_2c73 n s40k14 h8_1k14 h8_2k14 h9k14) = lp (ctx28 N) 1 Try.f28 14 n (St.mk [(4, AV.nilptr), (6, (AV.ptr 1 0 0 1)), (7, (AV.ptr 2 0 0 1)), (8, (AV.func 53 ([] : List AV) [(AV.ptr 2 0 0 1)])), (9, (AV.slice 3 0 0 (List.length h0_0c72) 3 false true)), (10, (AV.slice 4 0 0 (List.length h0_0c73) 3 false true)), (38, (AV.slice 0 0 0 a0n 3 a0nl true)), (39, (AV.int IntKind.i64 ((a0n : Nat) : Int))), (40, (AV.int IntKind.i64 s40k14))] [(Blk.dyn h0rw 62 [(Col.ints IntKind.i64 h0_0), (Col.ints IntKind.i64 h0_1), (Col.ints IntKind.i64 h0_2)]), (Blk.segs true 70 [(Seg.run IntKind.i64 16 h1_0c6), (Seg.cell (AV.slice 5 0 0 (List.length h2c6) 1 h1_1nlc6 true)), (Seg.cell (AV.slice 6 0 0 h1_2nc6 1 h1_2nlc6 true)), (Seg.cell (AV.slice 7 0 0 (List.length h4c6) 1 h1_3nlc6 true))]), (Blk.segs true 27 [(Seg.cell (AV.ptr 8 0 0 1))]), (Blk.dyn true 89 [(Col.ints IntKind.i64 h0_0c72), (Col.ints IntKind.i64 h0_1c72), (Col.ints IntKind.i64 h0_2c72)]), (Blk.dyn true 89 [(Col.ints IntKind.i64 h0_0c73), (Col.ints IntKind.i64 h0_1c73), (Col.ints IntKind.i64 h0_2c73)]), (Blk.dyn true 3 [(Col.ints IntKind.i64 h2c6)]), (Blk.dyn true 3 [(Col.ints IntKind.i64 h3c6)]), (Blk.dyn true 3 [(Col.ints IntKind.i64 h4c6)]), (Blk.segs true 72 [(Seg.cell (AV.slice 9 0 0 (List.length h9k14) 1 false true)), (Seg.cell (AV.int IntKind.i64 h8_1k14)), (Seg.cell (AV.int IntKind.i64 h8_2k14))]), (Blk.dyn true 5 [(Col.ints IntKind.u8 h9k14)])]) := by
  intro n
  induction n with
  | zero => intros; kernel_rfl
  | succ n ih =>
    intro s40k14 h8_1k14 h8_2k14 h9k14
    rw [lf28_14d]
    unfold slf28_14d
    refine br (p := (s40k14 < ((a0n : Nat) : Int))) (fun h81x => ?_) (fun h81x => finL (ctx28 N) 1 Try.f28 14 n [.b false] (by kernel_rfl) (ya (pF h81x) yz))
    refine br (p := (((0 : Int) ≤ s40k14) ∧ ((Int.toNat s40k14) < a0n))) (fun h82x => ?_) (fun h82x => finL (ctx28 N) 1 Try.f28 14 n [.b true, .b false] (by kernel_rfl) (ya (pT h81x) (ya (pF h82x) yz)))
    refine br (p := ((0 + (Int.toNat s40k14)) < (List.length h0_0))) (fun h83x => ?_) (fun h83x => finL (ctx28 N) 1 Try.f28 14 n [.b true, .b true, .b false] (by kernel_rfl) (ya (pT h81x) (ya (pT h82x) (ya (pF h83x) yz))))
    refine br (p := ((List.getD h0_1 (0 + (Int.toNat s40k14)) (0 : Int)) = (0 : Int))) (fun h84x => ?_) (fun h84x => ?_)
    · skip
      cases hc85 : f15v1 N with
      | none => exact finL (ctx28 N) 1 Try.f28 14 n [.b true, .b true, .b true, .b true, .call (rf15v1 (List.getD h0_0 (0 + (Int.toNat s40k14)) (0 : Int)) (List.length h9k14) false h8_1k14 h8_2k14 h9k14 none)] (by kernel_rfl) (ya (pT h81x) (ya (pT h82x) (ya (pT h83x) (ya (pE h84x) (ya (ys (ef15v1 N (List.getD h0_0 (0 + (Int.toNat s40k14)) (0 : Int)) (List.length h9k14) false h8_1k14 h8_2k14 h9k14) hc85) yz)))))
      | some o =>
        cases o with
        | r0 =>
          dsimp only
          exact (ih (IntKind.wrap IntKind.i64 (s40k14 + (1 : Int))) h8_1k14 h8_2k14 h9k14).trans (finL (ctx28 N) 1 Try.f28 14 n [.b true, .b true, .b true, .b true, .call (rf15v1 (List.getD h0_0 (0 + (Int.toNat s40k14)) (0 : Int)) (List.length h9k14) false h8_1k14 h8_2k14 h9k14 (some .r0))] (by kernel_rfl) (ya (pT h81x) (ya (pT h82x) (ya (pT h83x) (ya (pE h84x) (ya (ys (ef15v1 N (List.getD h0_0 (0 + (Int.toNat s40k14)) (0 : Int)) (List.length h9k14) false h8_1k14 h8_2k14 h9k14) hc85) yz))))))
    · skip
      cases hc86 : f53 N (List.length h0_0c72) (List.getD h0_1 (0 + (Int.toNat s40k14)) (0 : Int)) h0_0c72 h0_1c72 h0_2c72 (List.length h9k14) h8_1k14 h8_2k14 h9k14 with
      | none => exact finL (ctx28 N) 1 Try.f28 14 n [.b true, .b true, .b true, .b false, .call (rf53 (List.length h0_0c72) false (List.getD h0_1 (0 + (Int.toNat s40k14)) (0 : Int)) h0_0c72 h0_1c72 h0_2c72 (List.length h9k14) false h8_1k14 h8_2k14 h9k14 none)] (by kernel_rfl) (ya (pT h81x) (ya (pT h82x) (ya (pT h83x) (ya (pNE h84x) (ya (ys (ef53 N (List.length h0_0c72) false (List.getD h0_1 (0 + (Int.toNat s40k14)) (0 : Int)) h0_0c72 h0_1c72 h0_2c72 (List.length h9k14) false h8_1k14 h8_2k14 h9k14) hc86) yz)))))
      | some o =>
        cases o with
        | r0 h2_1c86 h2_2c86 =>
          dsimp only
          cases hc87 : f53v1 N (List.length h0_0c73) (List.getD h0_2 (0 + (Int.toNat s40k14)) (0 : Int)) (List.length h2c6) h1_2nc6 h0_0c73 h0_1c73 h0_2c73 h2c6 h3c6 (List.length h9k14) h2_1c86 h2_2c86 h9k14 with
          | none => exact finL (ctx28 N) 1 Try.f28 14 n [.b true, .b true, .b true, .b false, .call (rf53 (List.length h0_0c72) false (List.getD h0_1 (0 + (Int.toNat s40k14)) (0 : Int)) h0_0c72 h0_1c72 h0_2c72 (List.length h9k14) false h8_1k14 h8_2k14 h9k14 (some (.r0 h2_1c86 h2_2c86))), .call (rf53v1 (List.length h0_0c73) false (List.getD h0_2 (0 + (Int.toNat s40k14)) (0 : Int)) h1_0c6 (List.length h2c6) h1_1nlc6 h1_2nc6 h1_2nlc6 (List.length h4c6) h1_3nlc6 h0_0c73 h0_1c73 h0_2c73 h2c6 h3c6 h4c6 (List.length h9k14) false h2_1c86 h2_2c86 h9k14 none)] (by kernel_rfl) (ya (pT h81x) (ya (pT h82x) (ya (pT h83x) (ya (pNE h84x) (ya (ys (ef53 N (List.length h0_0c72) false (List.getD h0_1 (0 + (Int.toNat s40k14)) (0 : Int)) h0_0c72 h0_1c72 h0_2c72 (List.length h9k14) false h8_1k14 h8_2k14 h9k14) hc86) (ya (ys (ef53v1 N (List.length h0_0c73) false (List.getD h0_2 (0 + (Int.toNat s40k14)) (0 : Int)) h1_0c6 (List.length h2c6) h1_1nlc6 h1_2nc6 h1_2nlc6 (List.length h4c6) h1_3nlc6 h0_0c73 h0_1c73 h0_2c73 h2c6 h3c6 h4c6 (List.length h9k14) false h2_1c86 h2_2c86 h9k14) hc87) yz))))))
          | some o =>
            cases o with
            | r0 h6_1c87 h6_2c87 =>
              dsimp only
              exact (ih (IntKind.wrap IntKind.i64 (s40k14 + (1 : Int))) h6_1c87 h6_2c87 h9k14).trans (finL (ctx28 N) 1 Try.f28 14 n [.b true, .b true, .b true, .b false, .call (rf53 (List.length h0_0c72) false (List.getD h0_1 (0 + (Int.toNat s40k14)) (0 : Int)) h0_0c72 h0_1c72 h0_2c72 (List.length h9k14) false h8_1k14 h8_2k14 h9k14 (some (.r0 h2_1c86 h2_2c86))), .call (rf53v1 (List.length h0_0c73) false (List.getD h0_2 (0 + (Int.toNat s40k14)) (0 : Int)) h1_0c6 (List.length h2c6) h1_1nlc6 h1_2nc6 h1_2nlc6 (List.length h4c6) h1_3nlc6 h0_0c73 h0_1c73 h0_2c73 h2c6 h3c6 h4c6 (List.length h9k14) false h2_1c86 h2_2c86 h9k14 (some (.r0 h6_1c87 h6_2c87)))] (by kernel_rfl) (ya (pT h81x) (ya (pT h82x) (ya (pT h83x) (ya (pNE h84x) (ya (ys (ef53 N (List.length h0_0c72) false (List.getD h0_1 (0 + (Int.toNat s40k14)) (0 : Int)) h0_0c72 h0_1c72 h0_2c72 (List.length h9k14) false h8_1k14 h8_2k14 h9k14) hc86) (ya (ys (ef53v1 N (List.length h0_0c73) false (List.getD h0_2 (0 + (Int.toNat s40k14)) (0 : Int)) h1_0c6 (List.length h2c6) h1_1nlc6 h1_2nc6 h1_2nlc6 (List.length h4c6) h1_3nlc6 h0_0c73 h0_1c73 h0_2c73 h2c6 h3c6 h4c6 (List.length h9k14) false h2_1c86 h2_2c86 h9k14) hc87) yz)))))))
            | r1 h6_1c87 h6_2c87 h8c87 =>
              dsimp only
              exact (ih (IntKind.wrap IntKind.i64 (s40k14 + (1 : Int))) h6_1c87 h6_2c87 h8c87).trans (finL (ctx28 N) 1 Try.f28 14 n [.b true, .b true, .b true, .b false, .call (rf53 (List.length h0_0c72) false (List.getD h0_1 (0 + (Int.toNat s40k14)) (0 : Int)) h0_0c72 h0_1c72 h0_2c72 (List.length h9k14) false h8_1k14 h8_2k14 h9k14 (some (.r0 h2_1c86 h2_2c86))), .call (rf53v1 (List.length h0_0c73) false (List.getD h0_2 (0 + (Int.toNat s40k14)) (0 : Int)) h1_0c6 (List.length h2c6) h1_1nlc6 h1_2nc6 h1_2nlc6 (List.length h4c6) h1_3nlc6 h0_0c73 h0_1c73 h0_2c73 h2c6 h3c6 h4c6 (List.length h9k14) false h2_1c86 h2_2c86 h9k14 (some (.r1 h6_1c87 h6_2c87 h8c87)))] (by kernel_rfl) (ya (pT h81x) (ya (pT h82x) (ya (pT h83x) (ya (pNE h84x) (ya (ys (ef53 N (List.length h0_0c72) false (List.getD h0_1 (0 + (Int.toNat s40k14)) (0 : Int)) h0_0c72 h0_1c72 h0_2c72 (List.length h9k14) false h8_1k14 h8_2k14 h9k14) hc86) (ya (ys (ef53v1 N (List.length h0_0c73) false (List.getD h0_2 (0 + (Int.toNat s40k14)) (0 : Int)) h1_0c6 (List.length h2c6) h1_1nlc6 h1_2nc6 h1_2nlc6 (List.length h4c6) h1_3nlc6 h0_0c73 h0_1c73 h0_2c73 h2c6 h3c6 h4c6 (List.length h9k14) false h2_1c86 h2_2c86 h9k14) hc87) yz)))))))
        | r1 h2_1c86 h2_2c86 h4c86 =>
          dsimp only
          cases hc88 : f53v1 N (List.length h0_0c73) (List.getD h0_2 (0 + (Int.toNat s40k14)) (0 : Int)) (List.length h2c6) h1_2nc6 h0_0c73 h0_1c73 h0_2c73 h2c6 h3c6 (List.length h4c86) h2_1c86 h2_2c86 h4c86 with
          | none => exact finL (ctx28 N) 1 Try.f28 14 n [.b true, .b true, .b true, .b false, .call (rf53 (List.length h0_0c72) false (List.getD h0_1 (0 + (Int.toNat s40k14)) (0 : Int)) h0_0c72 h0_1c72 h0_2c72 (List.length h9k14) false h8_1k14 h8_2k14 h9k14 (some (.r1 h2_1c86 h2_2c86 h4c86))), .call (rf53v1 (List.length h0_0c73) false (List.getD h0_2 (0 + (Int.toNat s40k14)) (0 : Int)) h1_0c6 (List.length h2c6) h1_1nlc6 h1_2nc6 h1_2nlc6 (List.length h4c6) h1_3nlc6 h0_0c73 h0_1c73 h0_2c73 h2c6 h3c6 h4c6 (List.length h4c86) false h2_1c86 h2_2c86 h4c86 none)] (by kernel_rfl) (ya (pT h81x) (ya (pT h82x) (ya (pT h83x) (ya (pNE h84x) (ya (ys (ef53 N (List.length h0_0c72) false (List.getD h0_1 (0 + (Int.toNat s40k14)) (0 : Int)) h0_0c72 h0_1c72 h0_2c72 (List.length h9k14) false h8_1k14 h8_2k14 h9k14) hc86) (ya (ys (ef53v1 N (List.length h0_0c73) false (List.getD h0_2 (0 + (Int.toNat s40k14)) (0 : Int)) h1_0c6 (List.length h2c6) h1_1nlc6 h1_2nc6 h1_2nlc6 (List.length h4c6) h1_3nlc6 h0_0c73 h0_1c73 h0_2c73 h2c6 h3c6 h4c6 (List.length h4c86) false h2_1c86 h2_2c86 h4c86) hc88) yz))))))
          | some o =>
            cases o with
            | r0 h6_1c88 h6_2c88 =>
              dsimp only
              exact (ih (IntKind.wrap IntKind.i64 (s40k14 + (1 : Int))) h6_1c88 h6_2c88 h4c86).trans (finL (ctx28 N) 1 Try.f28 14 n [.b true, .b true, .b true, .b false, .call (rf53 (List.length h0_0c72) false (List.getD h0_1 (0 + (Int.toNat s40k14)) (0 : Int)) h0_0c72 h0_1c72 h0_2c72 (List.length h9k14) false h8_1k14 h8_2k14 h9k14 (some (.r1 h2_1c86 h2_2c86 h4c86))), .call (rf53v1 (List.length h0_0c73) false (List.getD h0_2 (0 + (Int.toNat s40k14)) (0 : Int)) h1_0c6 (List.length h2c6) h1_1nlc6 h1_2nc6 h1_2nlc6 (List.length h4c6) h1_3nlc6 h0_0c73 h0_1c73 h0_2c73 h2c6 h3c6 h4c6 (List.length h4c86) false h2_1c86 h2_2c86 h4c86 (some (.r0 h6_1c88 h6_2c88)))] (by kernel_rfl) (ya (pT h81x) (ya (pT h82x) (ya (pT h83x) (ya (pNE h84x) (ya (ys (ef53 N (List.length h0_0c72) false (List.getD h0_1 (0 + (Int.toNat s40k14)) (0 : Int)) h0_0c72 h0_1c72 h0_2c72 (List.length h9k14) false h8_1k14 h8_2k14 h9k14) hc86) (ya (ys (ef53v1 N (List.length h0_0c73) false (List.getD h0_2 (0 + (Int.toNat s40k14)) (0 : Int)) h1_0c6 (List.length h2c6) h1_1nlc6 h1_2nc6 h1_2nlc6 (List.length h4c6) h1_3nlc6 h0_0c73 h0_1c73 h0_2c73 h2c6 h3c6 h4c6 (List.length h4c86) false h2_1c86 h2_2c86 h4c86) hc88) yz)))))))
            | r1 h6_1c88 h6_2c88 h8c88 =>
              dsimp only
              exact (ih (IntKind.wrap IntKind.i64 (s40k14 + (1 : Int))) h6_1c88 h6_2c88 h8c88).trans (finL (ctx28 N) 1 Try.f28 14 n [.b true, .b true, .b true, .b false, .call (rf53 (List.length h0_0c72) false (List.getD h0_1 (0 + (Int.toNat s40k14)) (0 : Int)) h0_0c72 h0_1c72 h0_2c72 (List.length h9k14) false h8_1k14 h8_2k14 h9k14 (some (.r1 h2_1c86 h2_2c86 h4c86))), .call (rf53v1 (List.length h0_0c73) false (List.getD h0_2 (0 + (Int.toNat s40k14)) (0 : Int)) h1_0c6 (List.length h2c6) h1_1nlc6 h1_2nc6 h1_2nlc6 (List.length h4c6) h1_3nlc6 h0_0c73 h0_1c73 h0_2c73 h2c6 h3c6 h4c6 (List.length h4c86) false h2_1c86 h2_2c86 h4c86 (some (.r1 h6_1c88 h6_2c88 h8c88)))] (by kernel_rfl) (ya (pT h81x) (ya (pT h82x) (ya (pT h83x) (ya (pNE h84x) (ya (ys (ef53 N (List.length h0_0c72) false (List.getD h0_1 (0 + (Int.toNat s40k14)) (0 : Int)) h0_0c72 h0_1c72 h0_2c72 (List.length h9k14) false h8_1k14 h8_2k14 h9k14) hc86) (ya (ys (ef53v1 N (List.length h0_0c73) false (List.getD h0_2 (0 + (Int.toNat s40k14)) (0 : Int)) h1_0c6 (List.length h2c6) h1_1nlc6 h1_2nc6 h1_2nlc6 (List.length h4c6) h1_3nlc6 h0_0c73 h0_1c73 h0_2c73 h2c6 h3c6 h4c6 (List.length h4c86) false h2_1c86 h2_2c86 h4c86) hc88) yz)))))))
/-! 28, loop 14 -/
inductive Qlf28_14e where
  | e0 (h6_0nl : Bool) (h6_1 : Int) (h6_2 : Int) (h7 : List Int)
def slf28_14e (N : Nat) (a0n : Nat) (h0_0 : List Int) (h0_1 : List Int) (h0_2 : List Int) (h1_2nc3 : Nat) (h2c3 : List Int) (h3c3 : List Int) (h0_0c97 : List Int) (h0_1c97 : List Int) (h0_2c97 : List Int) (h0_0c98 : List Int) (h0_1c98 : List Int) (h0_2c98 : List Int) (n : Nat) (go : Int → Bool → Int → Int → List Int → Option Qlf28_14e) (s40k14 : Int) (h8_0nlk14 : Bool) (h8_1k14 : Int) (h8_2k14 : Int) (h9k14 : List Int) : Option Qlf28_14e :=
 if (s40k14 < ((a0n : Nat) : Int)) then
  if (((0 : Int) ≤ s40k14) ∧ ((Int.toNat s40k14) < a0n)) then
   if ((0 + (Int.toNat s40k14)) < (List.length h0_0)) then
    if ((List.getD h0_1 (0 + (Int.toNat s40k14)) (0 : Int)) = (0 : Int)) then
     (match f15 N (List.getD h0_0 (0 + (Int.toNat s40k14)) (0 : Int)) (List.length h2c3) h1_2nc3 (List.length h9k14) h8_1k14 h8_2k14 h2c3 h3c3 h9k14 with
     | none => none
     | some (.r0 resc110 h1_1c110 h1_2c110) =>
      go (IntKind.wrap IntKind.i64 (s40k14 + (1 : Int))) h8_0nlk14 h1_1c110 h1_2c110 h9k14
     | some (.r1 resc110 h1_1c110 h1_2c110 h6c110) =>
      go (IntKind.wrap IntKind.i64 (s40k14 + (1 : Int))) false h1_1c110 h1_2c110 h6c110)
    else
     (match f53v1 N (List.length h0_0c97) (List.getD h0_1 (0 + (Int.toNat s40k14)) (0 : Int)) (List.length h2c3) h1_2nc3 h0_0c97 h0_1c97 h0_2c97 h2c3 h3c3 (List.length h9k14) h8_1k14 h8_2k14 h9k14 with
     | none => none
     | some (.r0 h6_1c111 h6_2c111) =>
      (match f53 N (List.length h0_0c98) (List.getD h0_2 (0 + (Int.toNat s40k14)) (0 : Int)) h0_0c98 h0_1c98 h0_2c98 (List.length h9k14) h6_1c111 h6_2c111 h9k14 with
      | none => none
      | some (.r0 h2_1c112 h2_2c112) =>
       go (IntKind.wrap IntKind.i64 (s40k14 + (1 : Int))) h8_0nlk14 h2_1c112 h2_2c112 h9k14
      | some (.r1 h2_1c112 h2_2c112 h4c112) =>
       go (IntKind.wrap IntKind.i64 (s40k14 + (1 : Int))) false h2_1c112 h2_2c112 h4c112)
     | some (.r1 h6_1c111 h6_2c111 h8c111) =>
      (match f53 N (List.length h0_0c98) (List.getD h0_2 (0 + (Int.toNat s40k14)) (0 : Int)) h0_0c98 h0_1c98 h0_2c98 (List.length h8c111) h6_1c111 h6_2c111 h8c111 with
      | none => none
      | some (.r0 h2_1c113 h2_2c113) =>
       go (IntKind.wrap IntKind.i64 (s40k14 + (1 : Int))) false h2_1c113 h2_2c113 h8c111
      | some (.r1 h2_1c113 h2_2c113 h4c113) =>
       go (IntKind.wrap IntKind.i64 (s40k14 + (1 : Int))) false h2_1c113 h2_2c113 h4c113))
   else
    none
  else
   none
 else
  some (.e0 h8_0nlk14 h8_1k14 h8_2k14 h9k14)
def lf28_14e (N : Nat) (a0n : Nat) (h0_0 : List Int) (h0_1 : List Int) (h0_2 : List Int) (h1_2nc3 : Nat) (h2c3 : List Int) (h3c3 : List Int) (h0_0c97 : List Int) (h0_1c97 : List Int) (h0_2c97 : List Int) (h0_0c98 : List Int) (h0_1c98 : List Int) (h0_2c98 : List Int) : Nat → Int → Bool → Int → Int → List Int → Option Qlf28_14e
  | 0, _, _, _, _, _ => none
  | n + 1, s40k14, h8_0nlk14, h8_1k14, h8_2k14, h9k14 => slf28_14e N a0n h0_0 h0_1 h0_2 h1_2nc3 h2c3 h3c3 h0_0c97 h0_1c97 h0_2c97 h0_0c98 h0_1c98 h0_2c98 n (lf28_14e N a0n h0_0 h0_1 h0_2 h1_2nc3 h2c3 h3c3 h0_0c97 h0_1c97 h0_2c97 h0_0c98 h0_1c98 h0_2c98 n) s40k14 h8_0nlk14 h8_1k14 h8_2k14 h9k14
def qlf28_14e (a0n : Nat) (a0nl : Bool) (h0rw : Bool) (h0_0 : List Int) (h0_1 : List Int) (h0_2 : List Int) (h1_0c3 : List Int) (h1_1nlc3 : Bool) (h1_2nc3 : Nat) (h1_2nlc3 : Bool) (h1_3nlc3 : Bool) (h2c3 : List Int) (h3c3 : List Int) (h4c3 : List Int) (h0_0c97 : List Int) (h0_1c97 : List Int) (h0_2c97 : List Int) (h0_0c98 : List Int) (h0_1c98 : List Int) (h0_2c98 : List Int) : Option Qlf28_14e → Out
  | none => none
  | some (.e0 h6_0nl h6_1 h6_2 h7) => some ((XT.exit 0), (St.mk [(4, (AV.ptr 1 0 0 1)), (7, (AV.ptr 2 0 0 1))] [(Blk.dyn h0rw 62 [(Col.ints IntKind.i64 h0_0), (Col.ints IntKind.i64 h0_1), (Col.ints IntKind.i64 h0_2)]), (Blk.segs true 70 [(Seg.run IntKind.i64 16 h1_0c3), (Seg.cell (AV.slice 3 0 0 (List.length h2c3) 1 h1_1nlc3 true)), (Seg.cell (AV.slice 4 0 0 h1_2nc3 1 h1_2nlc3 true)), (Seg.cell (AV.slice 5 0 0 (List.length h4c3) 1 h1_3nlc3 true))]), (Blk.segs true 27 [(Seg.cell (AV.ptr 6 0 0 1))]), (Blk.dyn true 3 [(Col.ints IntKind.i64 h2c3)]), (Blk.dyn true 3 [(Col.ints IntKind.i64 h3c3)]), (Blk.dyn true 3 [(Col.ints IntKind.i64 h4c3)]), (Blk.segs true 72 [(Seg.cell (AV.slice 7 0 0 (List.length h7) 1 h6_0nl true)), (Seg.cell (AV.int IntKind.i64 h6_1)), (Seg.cell (AV.int IntKind.i64 h6_2))]), (Blk.dyn true 5 [(Col.ints IntKind.u8 h7)])]))
theorem elf28_14e (N : Nat) (a0n : Nat) (a0nl : Bool) (h0rw : Bool) (h0_0 : List Int) (h0_1 : List Int) (h0_2 : List Int) (h1_0c3 : List Int) (h1_1nlc3 : Bool) (h1_2nc3 : Nat) (h1_2nlc3 : Bool) (h1_3nlc3 : Bool) (h2c3 : List Int) (h3c3 : List Int) (h4c3 : List Int) (h0_0c97 : List Int) (h0_1c97 : List Int) (h0_2c97 : List Int) (h0_0c98 : List Int) (h0_1c98 : List Int) (h0_2c98 : List Int) : ∀ (n : Nat) (s40k14 : Int) (h8_0nlk14 : Bool) (h8_1k14 : Int) (h8_2k14 : Int) (h9k14 : List Int), qlf28_14e a0n a0nl h0rw h0_0 h0_1 h0_2 h1_0c3 h1_1nlc3 h1_2nc3 h1_2nlc3 h1_3nlc3 h2c3 h3c3 h4c3 h0_0c97 h0_1c97 h0_2c97 h0_0c98 h0_1c98 h0_2c98 (lf28_14e N a0n h0_0 h0_1 h0_2 h1_2nc3 h2c3 h3c3 h0_0c97 h0_1c97 h0_2c97 h0_0c98 h0_1c98 h0_2c98 n s40k14 h8_0nlk14 h8_1k14 h8_2k14 h9k14) = lp (ctx28 N) 1 Try.f28 14 n (St.mk [(4, (AV.ptr 1 0 0 1)), (6, AV.nilptr), (7, (AV.ptr 2 0 0 1)), (8, (AV.func 53 ([] : List AV) [(AV.ptr 2 0 0 1)])), (9, (AV.slice 3 0 0 (List.length h0_0c97) 3 false true)), (10, (AV.slice 4 0 0 (List.length h0_0c98) 3 false true)), (38, (AV.slice 0 0 0 a0n 3 a0nl true)), (39, (AV.int IntKind.i64 ((a0n : Nat) : Int))), (40, (AV.int IntKind.i64 s40k14))] [(Blk.dyn h0rw 62 [(Col.ints IntKind.i64 h0_0), (Col.ints IntKind.i64 h0_1), (Col.ints IntKind.i64 h0_2)]), (Blk.segs true 70 [(Seg.run IntKind.i64 16 h1_0c3), (Seg.cell (AV.slice 5 0 0 (List.length h2c3) 1 h1_1nlc3 true)), (Seg.cell (AV.slice 6 0 0 h1_2nc3 1 h1_2nlc3 true)), (Seg.cell (AV.slice 7 0 0 (List.length h4c3) 1 h1_3nlc3 true))]), (Blk.segs true 27 [(Seg.cell (AV.ptr 8 0 0 1))]), (Blk.dyn true 89 [(Col.ints IntKind.i64 h0_0c97), (Col.ints IntKind.i64 h0_1c97), (Col.ints IntKind.i64 h0_2c97)]), (Blk.dyn true 89 [(Col.ints IntKind.i64 h0_0c98), (Col.ints IntKind.i64 h0_1c98), (Col.ints IntKind.i64 h0_2c98)]), (Blk.dyn true 3 [(Col.ints IntKind.i64 h2c3)]), (Blk.dyn true 3 [(Col.ints IntKind.i64 h3c3)]), (Blk.dyn true 3 [(Col.ints IntKind.i64 h4c3)]), (Blk.segs true 72 [(Seg.cell (AV.slice 9 0 0 (List.length h9k14) 1 h8_0nlk14 true)), (Seg.cell (AV.int IntKind.i64 h8_1k14)), (Seg.cell (AV.int IntKind.i64 h8_2k14))]), (Blk.dyn true 5 [(Col.ints IntKind.u8 h9k14)])]) := by
  intro n
  induction n with
  | zero => intros; kernel_rfl
  | succ n ih =>
    intro s40k14 h8_0nlk14 h8_1k14 h8_2k14 h9k14
    rw [lf28_14e]
    unfold slf28_14e
    refine br (p := (s40k14 < ((a0n : Nat) : Int))) (fun h106x => ?_) (fun h106x => finL (ctx28 N) 1 Try.f28 14 n [.b false] (by kernel_rfl) (ya (pF h106x) yz))
    refine br (p := (((0 : Int) ≤ s40k14) ∧ ((Int.toNat s40k14) < a0n))) (fun h107x => ?_) (fun h107x => finL (ctx28 N) 1 Try.f28 14 n [.b true, .b false] (by kernel_rfl) (ya (pT h106x) (ya (pF h107x) yz)))
    refine br (p := ((0 + (Int.toNat s40k14)) < (List.length h0_0))) (fun h108x => ?_) (fun h108x => finL (ctx28 N) 1 Try.f28 14 n [.b true, .b true, .b false] (by kernel_rfl) (ya (pT h106x) (ya (pT h107x) (ya (pF h108x) yz))))
    refine br (p := ((List.getD h0_1 (0 + (Int.toNat s40k14)) (0 : Int)) = (0 : Int))) (fun h109x => ?_) (fun h109x => ?_)
    · skip
      cases hc110 : f15 N (List.getD h0_0 (0 + (Int.toNat s40k14)) (0 : Int)) (List.length h2c3) h1_2nc3 (List.length h9k14) h8_1k14 h8_2k14 h2c3 h3c3 h9k14 with
      | none => exact finL (ctx28 N) 1 Try.f28 14 n [.b true, .b true, .b true, .b true, .call (rf15 (List.getD h0_0 (0 + (Int.toNat s40k14)) (0 : Int)) h1_0c3 (List.length h2c3) h1_1nlc3 h1_2nc3 h1_2nlc3 (List.length h4c3) h1_3nlc3 (List.length h9k14) h8_0nlk14 h8_1k14 h8_2k14 h2c3 h3c3 h4c3 h9k14 none)] (by kernel_rfl) (ya (pT h106x) (ya (pT h107x) (ya (pT h108x) (ya (pE h109x) (ya (ys (ef15 N (List.getD h0_0 (0 + (Int.toNat s40k14)) (0 : Int)) h1_0c3 (List.length h2c3) h1_1nlc3 h1_2nc3 h1_2nlc3 (List.length h4c3) h1_3nlc3 (List.length h9k14) h8_0nlk14 h8_1k14 h8_2k14 h2c3 h3c3 h4c3 h9k14) hc110) yz)))))
      | some o =>
        cases o with
        | r0 resc110 h1_1c110 h1_2c110 =>
          dsimp only
          exact (ih (IntKind.wrap IntKind.i64 (s40k14 + (1 : Int))) h8_0nlk14 h1_1c110 h1_2c110 h9k14).trans (finL (ctx28 N) 1 Try.f28 14 n [.b true, .b true, .b true, .b true, .call (rf15 (List.getD h0_0 (0 + (Int.toNat s40k14)) (0 : Int)) h1_0c3 (List.length h2c3) h1_1nlc3 h1_2nc3 h1_2nlc3 (List.length h4c3) h1_3nlc3 (List.length h9k14) h8_0nlk14 h8_1k14 h8_2k14 h2c3 h3c3 h4c3 h9k14 (some (.r0 resc110 h1_1c110 h1_2c110)))] (by kernel_rfl) (ya (pT h106x) (ya (pT h107x) (ya (pT h108x) (ya (pE h109x) (ya (ys (ef15 N (List.getD h0_0 (0 + (Int.toNat s40k14)) (0 : Int)) h1_0c3 (List.length h2c3) h1_1nlc3 h1_2nc3 h1_2nlc3 (List.length h4c3) h1_3nlc3 (List.length h9k14) h8_0nlk14 h8_1k14 h8_2k14 h2c3 h3c3 h4c3 h9k14) hc110) yz))))))
        | r1 resc110 h1_1c110 h1_2c110 h6c110 =>
          dsimp only
          exact (ih (IntKind.wrap IntKind.i64 (s40k14 + (1 : Int))) false h1_1c110 h1_2c110 h6c110).trans (finL (ctx28 N) 1 Try.f28 14 n [.b true, .b true, .b true, .b true, .call (rf15 (List.getD h0_0 (0 + (Int.toNat s40k14)) (0 : Int)) h1_0c3 (List.length h2c3) h1_1nlc3 h1_2nc3 h1_2nlc3 (List.length h4c3) h1_3nlc3 (List.length h9k14) h8_0nlk14 h8_1k14 h8_2k14 h2c3 h3c3 h4c3 h9k14 (some (.r1 resc110 h1_1c110 h1_2c110 h6c110)))] (by kernel_rfl) (ya (pT h106x) (ya (pT h107x) (ya (pT h108x) (ya (pE h109x) (ya (ys (ef15 N (List.getD h0_0 (0 + (Int.toNat s40k14)) (0 : Int)) h1_0c3 (List.length h2c3) h1_1nlc3 h1_2nc3 h1_2nlc3 (List.length h4c3) h1_3nlc3 (List.length h9k14) h8_0nlk14 h8_1k14 h8_2k14 h2c3 h3c3 h4c3 h9k14) hc110) yz))))))
    · skip
      cases hc111 : f53v1 N (List.length h0_0c97) (List.getD h0_1 (0 + (Int.toNat s40k14)) (0 : Int)) (List.length h2c3) h1_2nc3 h0_0c97 h0_1c97 h0_2c97 h2c3 h3c3 (List.length h9k14) h8_1k14 h8_2k14 h9k14 with
      | none => exact finL (ctx28 N) 1 Try.f28 14 n [.b true, .b true, .b true, .b false, .call (rf53v1 (List.length h0_0c97) false (List.getD h0_1 (0 + (Int.toNat s40k14)) (0 : Int)) h1_0c3 (List.length h2c3) h1_1nlc3 h1_2nc3 h1_2nlc3 (List.length h4c3) h1_3nlc3 h0_0c97 h0_1c97 h0_2c97 h2c3 h3c3 h4c3 (List.length h9k14) h8_0nlk14 h8_1k14 h8_2k14 h9k14 none)] (by kernel_rfl) (ya (pT h106x) (ya (pT h107x) (ya (pT h108x) (ya (pNE h109x) (ya (ys (ef53v1 N (List.length h0_0c97) false (List.getD h0_1 (0 + (Int.toNat s40k14)) (0 : Int)) h1_0c3 (List.length h2c3) h1_1nlc3 h1_2nc3 h1_2nlc3 (List.length h4c3) h1_3nlc3 h0_0c97 h0_1c97 h0_2c97 h2c3 h3c3 h4c3 (List.length h9k14) h8_0nlk14 h8_1k14 h8_2k14 h9k14) hc111) yz)))))
      | some o =>
        cases o with
        | r0 h6_1c111 h6_2c111 =>
          dsimp only
          cases hc112 : f53 N (List.length h0_0c98) (List.getD h0_2 (0 + (Int.toNat s40k14)) (0 : Int)) h0_0c98 h0_1c98 h0_2c98 (List.length h9k14) h6_1c111 h6_2c111 h9k14 with
          | none => exact finL (ctx28 N) 1 Try.f28 14 n [.b true, .b true, .b true, .b false, .call (rf53v1 (List.length h0_0c97) false (List.getD h0_1 (0 + (Int.toNat s40k14)) (0 : Int)) h1_0c3 (List.length h2c3) h1_1nlc3 h1_2nc3 h1_2nlc3 (List.length h4c3) h1_3nlc3 h0_0c97 h0_1c97 h0_2c97 h2c3 h3c3 h4c3 (List.length h9k14) h8_0nlk14 h8_1k14 h8_2k14 h9k14 (some (.r0 h6_1c111 h6_2c111))), .call (rf53 (List.length h0_0c98) false (List.getD h0_2 (0 + (Int.toNat s40k14)) (0 : Int)) h0_0c98 h0_1c98 h0_2c98 (List.length h9k14) h8_0nlk14 h6_1c111 h6_2c111 h9k14 none)] (by kernel_rfl) (ya (pT h106x) (ya (pT h107x) (ya (pT h108x) (ya (pNE h109x) (ya (ys (ef53v1 N (List.length h0_0c97) false (List.getD h0_1 (0 + (Int.toNat s40k14)) (0 : Int)) h1_0c3 (List.length h2c3) h1_1nlc3 h1_2nc3 h1_2nlc3 (List.length h4c3) h1_3nlc3 h0_0c97 h0_1c97 h0_2c97 h2c3 h3c3 h4c3 (List.length h9k14) h8_0nlk14 h8_1k14 h8_2k14 h9k14) hc111) (ya (ys (ef53 N (List.length h0_0c98) false (List.getD h0_2 (0 + (Int.toNat s40k14)) (0 : Int)) h0_0c98 h0_1c98 h0_2c98 (List.length h9k14) h8_0nlk14 h6_1c111 h6_2c111 h9k14) hc112) yz))))))
          | some o =>
            cases o with
            | r0 h2_1c112 h2_2c112 =>
              dsimp only
              exact (ih (IntKind.wrap IntKind.i64 (s40k14 + (1 : Int))) h8_0nlk14 h2_1c112 h2_2c112 h9k14).trans (finL (ctx28 N) 1 Try.f28 14 n [.b true, .b true, .b true, .b false, .call (rf53v1 (List.length h0_0c97) false (List.getD h0_1 (0 + (Int.toNat s40k14)) (0 : Int)) h1_0c3 (List.length h2c3) h1_1nlc3 h1_2nc3 h1_2nlc3 (List.length h4c3) h1_3nlc3 h0_0c97 h0_1c97 h0_2c97 h2c3 h3c3 h4c3 (List.length h9k14) h8_0nlk14 h8_1k14 h8_2k14 h9k14 (some (.r0 h6_1c111 h6_2c111))), .call (rf53 (List.length h0_0c98) false (List.getD h0_2 (0 + (Int.toNat s40k14)) (0 : Int)) h0_0c98 h0_1c98 h0_2c98 (List.length h9k14) h8_0nlk14 h6_1c111 h6_2c111 h9k14 (some (.r0 h2_1c112 h2_2c112)))] (by kernel_rfl) (ya (pT h106x) (ya (pT h107x) (ya (pT h108x) (ya (pNE h109x) (ya (ys (ef53v1 N (List.length h0_0c97) false (List.getD h0_1 (0 + (Int.toNat s40k14)) (0 : Int)) h1_0c3 (List.length h2c3) h1_1nlc3 h1_2nc3 h1_2nlc3 (List.length h4c3) h1_3nlc3 h0_0c97 h0_1c97 h0_2c97 h2c3 h3c3 h4c3 (List.length h9k14) h8_0nlk14 h8_1k14 h8_2k14 h9k14) hc111) (ya (ys (ef53 N (List.length h0_0c98) false (List.getD h0_2 (0 + (Int.toNat s40k14)) (0 : Int)) h0_0c98 h0_1c98 h0_2c98 (List.length h9k14) h8_0nlk14 h6_1c111 h6_2c111 h9k14) hc112) yz)))))))
            | r1 h2_1c112 h2_2c112 h4c112 =>
              dsimp only
              exact (ih (IntKind.wrap IntKind.i64 (s40k14 + (1 : Int))) false h2_1c112 h2_2c112 h4c112).trans (finL (ctx28 N) 1 Try.f28 14 n [.b true, .b true, .b true, .b false, .call (rf53v1 (List.length h0_0c97) false (List.getD h0_1 (0 + (Int.toNat s40k14)) (0 : Int)) h1_0c3 (List.length h2c3) h1_1nlc3 h1_2nc3 h1_2nlc3 (List.length h4c3) h1_3nlc3 h0_0c97 h0_1c97 h0_2c97 h2c3 h3c3 h4c3 (List.length h9k14) h8_0nlk14 h8_1k14 h8_2k14 h9k14 (some (.r0 h6_1c111 h6_2c111))), .call (rf53 (List.length h0_0c98) false (List.getD h0_2 (0 + (Int.toNat s40k14)) (0 : Int)) h0_0c98 h0_1c98 h0_2c98 (List.length h9k14) h8_0nlk14 h6_1c111 h6_2c111 h9k14 (some (.r1 h2_1c112 h2_2c112 h4c112)))] (by kernel_rfl) (ya (pT h106x) (ya (pT h107x) (ya (pT h108x) (ya (pNE h109x) (ya (ys (ef53v1 N (List.length h0_0c97) false (List.getD h0_1 (0 + (Int.toNat s40k14)) (0 : Int)) h1_0c3 (List.length h2c3) h1_1nlc3 h1_2nc3 h1_2nlc3 (List.length h4c3) h1_3nlc3 h0_0c97 h0_1c97 h0_2c97 h2c3 h3c3 h4c3 (List.length h9k14) h8_0nlk14 h8_1k14 h8_2k14 h9k14) hc111) (ya (ys (ef53 N (List.length h0_0c98) false (List.getD h0_2 (0 + (Int.toNat s40k14)) (0 : Int)) h0_0c98 h0_1c98 h0_2c98 (List.length h9k14) h8_0nlk14 h6_1c111 h6_2c111 h9k14) hc112) yz)))))))
        | r1 h6_1c111 h6_2c111 h8c111 =>
          dsimp only
          cases hc113 : f53 N (List.length h0_0c98) (List.getD h0_2 (0 + (Int.toNat s40k14)) (0 : Int)) h0_0c98 h0_1c98 h0_2c98 (List.length h8c111) h6_1c111 h6_2c111 h8c111 with
          | none => exact finL (ctx28 N) 1 Try.f28 14 n [.b true, .b true, .b true, .b false, .call (rf53v1 (List.length h0_0c97) false (List.getD h0_1 (0 + (Int.toNat s40k14)) (0 : Int)) h1_0c3 (List.length h2c3) h1_1nlc3 h1_2nc3 h1_2nlc3 (List.length h4c3) h1_3nlc3 h0_0c97 h0_1c97 h0_2c97 h2c3 h3c3 h4c3 (List.length h9k14) h8_0nlk14 h8_1k14 h8_2k14 h9k14 (some (.r1 h6_1c111 h6_2c111 h8c111))), .call (rf53 (List.length h0_0c98) false (List.getD h0_2 (0 + (Int.toNat s40k14)) (0 : Int)) h0_0c98 h0_1c98 h0_2c98 (List.length h8c111) false h6_1c111 h6_2c111 h8c111 none)] (by kernel_rfl) (ya (pT h106x) (ya (pT h107x) (ya (pT h108x) (ya (pNE h109x) (ya (ys (ef53v1 N (List.length h0_0c97) false (List.getD h0_1 (0 + (Int.toNat s40k14)) (0 : Int)) h1_0c3 (List.length h2c3) h1_1nlc3 h1_2nc3 h1_2nlc3 (List.length h4c3) h1_3nlc3 h0_0c97 h0_1c97 h0_2c97 h2c3 h3c3 h4c3 (List.length h9k14) h8_0nlk14 h8_1k14 h8_2k14 h9k14) hc111) (ya (ys (ef53 N (List.length h0_0c98) false (List.getD h0_2 (0 + (Int.toNat s40k14)) (0 : Int)) h0_0c98 h0_1c98 h0_2c98 (List.length h8c111) false h6_1c111 h6_2c111 h8c111) hc113) yz))))))
          | some o =>
            cases o with
            | r0 h2_1c113 h2_2c113 =>
              dsimp only
              exact (ih (IntKind.wrap IntKind.i64 (s40k14 + (1 : Int))) false h2_1c113 h2_2c113 h8c111).trans (finL (ctx28 N) 1 Try.f28 14 n [.b true, .b true, .b true, .b false, .call (rf53v1 (List.length h0_0c97) false (List.getD h0_1 (0 + (Int.toNat s40k14)) (0 : Int)) h1_0c3 (List.length h2c3) h1_1nlc3 h1_2nc3 h1_2nlc3 (List.length h4c3) h1_3nlc3 h0_0c97 h0_1c97 h0_2c97 h2c3 h3c3 h4c3 (List.length h9k14) h8_0nlk14 h8_1k14 h8_2k14 h9k14 (some (.r1 h6_1c111 h6_2c111 h8c111))), .call (rf53 (List.length h0_0c98) false (List.getD h0_2 (0 + (Int.toNat s40k14)) (0 : Int)) h0_0c98 h0_1c98 h0_2c98 (List.length h8c111) false h6_1c111 h6_2c111 h8c111 (some (.r0 h2_1c113 h2_2c113)))] (by kernel_rfl) (ya (pT h106x) (ya (pT h107x) (ya (pT h108x) (ya (pNE h109x) (ya (ys (ef53v1 N (List.length h0_0c97) false (List.getD h0_1 (0 + (Int.toNat s40k14)) (0 : Int)) h1_0c3 (List.length h2c3) h1_1nlc3 h1_2nc3 h1_2nlc3 (List.length h4c3) h1_3nlc3 h0_0c97 h0_1c97 h0_2c97 h2c3 h3c3 h4c3 (List.length h9k14) h8_0nlk14 h8_1k14 h8_2k14 h9k14) hc111) (ya (ys (ef53 N (List.length h0_0c98) false (List.getD h0_2 (0 + (Int.toNat s40k14)) (0 : Int)) h0_0c98 h0_1c98 h0_2c98 (List.length h8c111) false h6_1c111 h6_2c111 h8c111) hc113) yz)))))))
            | r1 h2_1c113 h2_2c113 h4c113 =>
              dsimp only
              exact (ih (IntKind.wrap IntKind.i64 (s40k14 + (1 : Int))) false h2_1c113 h2_2c113 h4c113).trans (finL (ctx28 N) 1 Try.f28 14 n [.b true, .b true, .b true, .b false, .call (rf53v1 (List.length h0_0c97) false (List.getD h0_1 (0 + (Int.toNat s40k14)) (0 : Int)) h1_0c3 (List.length h2c3) h1_1nlc3 h1_2nc3 h1_2nlc3 (List.length h4c3) h1_3nlc3 h0_0c97 h0_1c97 h0_2c97 h2c3 h3c3 h4c3 (List.length h9k14) h8_0nlk14 h8_1k14 h8_2k14 h9k14 (some (.r1 h6_1c111 h6_2c111 h8c111))), .call (rf53 (List.length h0_0c98) false (List.getD h0_2 (0 + (Int.toNat s40k14)) (0 : Int)) h0_0c98 h0_1c98 h0_2c98 (List.length h8c111) false h6_1c111 h6_2c111 h8c111 (some (.r1 h2_1c113 h2_2c113 h4c113)))] (by kernel_rfl) (ya (pT h106x) (ya (pT h107x) (ya (pT h108x) (ya (pNE h109x) (ya (ys (ef53v1 N (List.length h0_0c97) false (List.getD h0_1 (0 + (Int.toNat s40k14)) (0 : Int)) h1_0c3 (List.length h2c3) h1_1nlc3 h1_2nc3 h1_2nlc3 (List.length h4c3) h1_3nlc3 h0_0c97 h0_1c97 h0_2c97 h2c3 h3c3 h4c3 (List.length h9k14) h8_0nlk14 h8_1k14 h8_2k14 h9k14) hc111) (ya (ys (ef53 N (List.length h0_0c98) false (List.getD h0_2 (0 + (Int.toNat s40k14)) (0 : Int)) h0_0c98 h0_1c98 h0_2c98 (List.length h8c111) false h6_1c111 h6_2c111 h8c111) hc113) yz)))))))
/-! 28, loop 14 -/
inductive Qlf28_14f where
  | e0 (h6_1 : Int) (h6_2 : Int) (h7 : List Int)
def slf28_14f (N : Nat) (a0n : Nat) (h0_0 : List Int) (h0_1 : List Int) (h0_2 : List Int) (h1_2nc3 : Nat) (h2c3 : List Int) (h3c3 : List Int) (h0_0c118 : List Int) (h0_1c118 : List Int) (h0_2c118 : List Int) (h0_0c119 : List Int) (h0_1c119 : List Int) (h0_2c119 : List Int) (n : Nat) (go : Int → Int → Int → List Int → Option Qlf28_14f) (s40k14 : Int) (h8_1k14 : Int) (h8_2k14 : Int) (h9k14 : List Int) : Option Qlf28_14f :=
 if (s40k14 < ((a0n : Nat) : Int)) then
  if (((0 : Int) ≤ s40k14) ∧ ((Int.toNat s40k14) < a0n)) then
   if ((0 + (Int.toNat s40k14)) < (List.length h0_0)) then
    if ((List.getD h0_1 (0 + (Int.toNat s40k14)) (0 : Int)) = (0 : Int)) then
     (match f15 N (List.getD h0_0 (0 + (Int.toNat s40k14)) (0 : Int)) (List.length h2c3) h1_2nc3 (List.length h9k14) h8_1k14 h8_2k14 h2c3 h3c3 h9k14 with
     | none => none
     | some (.r0 resc131 h1_1c131 h1_2c131) =>
      go (IntKind.wrap IntKind.i64 (s40k14 + (1 : Int))) h1_1c131 h1_2c131 h9k14
     | some (.r1 resc131 h1_1c131 h1_2c131 h6c131) =>
      go (IntKind.wrap IntKind.i64 (s40k14 + (1 : Int))) h1_1c131 h1_2c131 h6c131)
    else
     (match f53v1 N (List.length h0_0c118) (List.getD h0_1 (0 + (Int.toNat s40k14)) (0 : Int)) (List.length h2c3) h1_2nc3 h0_0c118 h0_1c118 h0_2c118 h2c3 h3c3 (List.length h9k14) h8_1k14 h8_2k14 h9k14 with
     | none => none
     | some (.r0 h6_1c132 h6_2c132) =>
      (match f53 N (List.length h0_0c119) (List.getD h0_2 (0 + (Int.toNat s40k14)) (0 : Int)) h0_0c119 h0_1c119 h0_2c119 (List.length h9k14) h6_1c132 h6_2c132 h9k14 with
      | none => none
      | some (.r0 h2_1c133 h2_2c133) =>
       go (IntKind.wrap IntKind.i64 (s40k14 + (1 : Int))) h2_1c133 h2_2c133 h9k14
      | some (.r1 h2_1c133 h2_2c133 h4c133) =>
       go (IntKind.wrap IntKind.i64 (s40k14 + (1 : Int))) h2_1c133 h2_2c133 h4c133)
     | some (.r1 h6_1c132 h6_2c132 h8c132) =>
      (match f53 N (List.length h0_0c119) (List.getD h0_2 (0 + (Int.toNat s40k14)) (0 : Int)) h0_0c119 h0_1c119 h0_2c119 (List.length h8c132) h6_1c132 h6_2c132 h8c132 with
      | none => none
      | some (.r0 h2_1c134 h2_2c134) =>
       go (IntKind.wrap IntKind.i64 (s40k14 + (1 : Int))) h2_1c134 h2_2c134 h8c132
      | some (.r1 h2_1c134 h2_2c134 h4c134) =>
       go (IntKind.wrap IntKind.i64 (s40k14 + (1 : Int))) h2_1c134 h2_2c134 h4c134))
   else
    none
  else
   none
 else
  some (.e0 h8_1k14 h8_2k14 h9k14)
def lf28_14f (N : Nat) (a0n : Nat) (h0_0 : List Int) (h0_1 : List Int) (h0_2 : List Int) (h1_2nc3 : Nat) (h2c3 : List Int) (h3c3 : List Int) (h0_0c118 : List Int) (h0_1c118 : List Int) (h0_2c118 : List Int) (h0_0c119 : List Int) (h0_1c119 : List Int) (h0_2c119 : List Int) : Nat → Int → Int → Int → List Int → Option Qlf28_14f
  | 0, _, _, _, _ => none
  | n + 1, s40k14, h8_1k14, h8_2k14, h9k14 => slf28_14f N a0n h0_0 h0_1 h0_2 h1_2nc3 h2c3 h3c3 h0_0c118 h0_1c118 h0_2c118 h0_0c119 h0_1c119 h0_2c119 n (lf28_14f N a0n h0_0 h0_1 h0_2 h1_2nc3 h2c3 h3c3 h0_0c118 h0_1c118 h0_2c118 h0_0c119 h0_1c119 h0_2c119 n) s40k14 h8_1k14 h8_2k14 h9k14
def qlf28_14f (a0n : Nat) (a0nl : Bool) (h0rw : Bool) (h0_0 : List Int) (h0_1 : List Int) (h0_2 : List Int) (h1_0c3 : List Int) (h1_1nlc3 : Bool) (h1_2nc3 : Nat) (h1_2nlc3 : Bool) (h1_3nlc3 : Bool) (h2c3 : List Int) (h3c3 : List Int) (h4c3 : List Int) (h0_0c118 : List Int) (h0_1c118 : List Int) (h0_2c118 : List Int) (h0_0c119 : List Int) (h0_1c119 : List Int) (h0_2c119 : List Int) : Option Qlf28_14f → Out
  | none => none
  | some (.e0 h6_1 h6_2 h7) => some ((XT.exit 0), (St.mk [(4, (AV.ptr 1 0 0 1)), (7, (AV.ptr 2 0 0 1))] [(Blk.dyn h0rw 62 [(Col.ints IntKind.i64 h0_0), (Col.ints IntKind.i64 h0_1), (Col.ints IntKind.i64 h0_2)]), (Blk.segs true 70 [(Seg.run IntKind.i64 16 h1_0c3), (Seg.cell (AV.slice 3 0 0 (List.length h2c3) 1 h1_1nlc3 true)), (Seg.cell (AV.slice 4 0 0 h1_2nc3 1 h1_2nlc3 true)), (Seg.cell (AV.slice 5 0 0 (List.length h4c3) 1 h1_3nlc3 true))]), (Blk.segs true 27 [(Seg.cell (AV.ptr 6 0 0 1))]), (Blk.dyn true 3 [(Col.ints IntKind.i64 h2c3)]), (Blk.dyn true 3 [(Col.ints IntKind.i64 h3c3)]), (Blk.dyn true 3 [(Col.ints IntKind.i64 h4c3)]), (Blk.segs true 72 [(Seg.cell (AV.slice 7 0 0 (List.length h7) 1 false true)), (Seg.cell (AV.int IntKind.i64 h6_1)), (Seg.cell (AV.int IntKind.i64 h6_2))]), (Blk.dyn true 5 [(Col.ints IntKind.u8 h7)])]))
theorem elf28_14f (N : Nat) (a0n : Nat) (a0nl : Bool) (h0rw : Bool) (h0_0 : List Int) (h0_1 : List Int) (h0_2 : List Int) (h1_0c3 : List Int) (h1_1nlc3 : Bool) (h1_2nc3 : Nat) (h1_2nlc3 : Bool) (h1_3nlc3 : Bool) (h2c3 : List Int) (h3c3 : List Int) (h4c3 : List Int) (h0_0c118 : List Int) (h0_1c118 : List Int) (h0_2c118 : List Int) (h0_0c119 : List Int) (h0_1c119 : List Int) (h0_2c119 : List Int) : ∀ (n : Nat) (s40k14 : Int) (h8_1k14 : Int) (h8_2k14 : Int) (h9k14 : List Int), qlf28_14f a0n a0nl h0rw h0_0 h0_1 h0_2 h1_0c3 h1_1nlc3 h1_2nc3 h1_2nlc3 h1_3nlc3 h2c3 h3c3 h4c3 h0_0c118 h0_1c118 h0_2c118 h0_0c119 h0_1c119 h0_2c119 (lf28_14f N a0n h0_0 h0_1 h0_2 h1_2nc3 h2c3 h3c3 h0_0c118 h0_1c118 h0_2c118 h0_0c119 h0_1c119 h0_2c119 n s40k14 h8_1k14 h8_2k14 h9k14) = lp (ctx28 N) 1 Try.f28 14 n (St.mk [(4, (AV.ptr 1 0 0 1)), (6, AV.nilptr), (7, (AV.ptr 2 0 0 1)), (8, (AV.func 53 ([] : List AV) [(AV.ptr 2 0 0 1)])), (9, (AV.slice 3 0 0 (List.length h0_0c118) 3 false true)), (10, (AV.slice 4 0 0 (List.length h0_0c119) 3 false true)), (38, (AV.slice 0 0 0 a0n 3 a0nl true)), (39, (AV.int IntKind.i64 ((a0n : Nat) : Int))), (40, (AV.int IntKind.i64 s40k14))] [(Blk.dyn h0rw 62 [(Col.ints IntKind.i64 h0_0), (Col.ints IntKind.i64 h0_1), (Col.ints IntKind.i64 h0_2)]), (Blk.segs true 70 [(Seg.run IntKind.i64 16 h1_0c3), (Seg.cell (AV.slice 5 0 0 (List.length h2c3) 1 h1_1nlc3 true)), (Seg.cell (AV.slice 6 0 0 h1_2nc3 1 h1_2nlc3 true)), (Seg.cell (AV.slice 7 0 0 (List.length h4c3) 1 h1_3nlc3 true))]), (Blk.segs true 27 [(Seg.cell (AV.ptr 8 0 0 1))]), (Blk.dyn true 89 [(Col.ints IntKind.i64 h0_0c118), (Col.ints IntKind.i64 h0_1c118), (Col.ints IntKind.i64 h0_2c118)]), (Blk.dyn true 89 [(Col.ints IntKind.i64 h0_0c119), (Col.ints IntKind.i64 h0_1c119), (Col.ints IntKind.i64 h0_2c119)]), (Blk.dyn true 3 [(Col.ints IntKind.i64 h2c3)]), (Blk.dyn true 3 [(Col.ints IntKind.i64 h3c3)]), (Blk.dyn true 3 [(Col.ints IntKind.i64 h4c3)]), (Blk.segs true 72 [(Seg.cell (AV.slice 9 0 0 (List.length h9k14) 1 false true)), (Seg.cell (AV.int IntKind.i64 h8_1k14)), (Seg.cell (AV.int IntKind.i64 h8_2k14))]), (Blk.dyn true 5 [(Col.ints IntKind.u8 h9k14)])]) := by
  intro n
  induction n with
  | zero => intros; kernel_rfl
  | succ n ih =>
    intro s40k14 h8_1k14 h8_2k14 h9k14
    rw [lf28_14f]
    unfold slf28_14f
    refine br (p := (s40k14 < ((a0n : Nat) : Int))) (fun h127x => ?_) (fun h127x => finL (ctx28 N) 1 Try.f28 14 n [.b false] (by kernel_rfl) (ya (pF h127x) yz))
    refine br (p := (((0 : Int) ≤ s40k14) ∧ ((Int.toNat s40k14) < a0n))) (fun h128x => ?_) (fun h128x => finL (ctx28 N) 1 Try.f28 14 n [.b true, .b false] (by kernel_rfl) (ya (pT h127x) (ya (pF h128x) yz)))
    refine br (p := ((0 + (Int.toNat s40k14)) < (List.length h0_0))) (fun h129x => ?_) (fun h129x => finL (ctx28 N) 1 Try.f28 14 n [.b true, .b true, .b false] (by kernel_rfl) (ya (pT h127x) (ya (pT h128x) (ya (pF h129x) yz))))
    refine br (p := ((List.getD h0_1 (0 + (Int.toNat s40k14)) (0 : Int)) = (0 : Int))) (fun h130x => ?_) (fun h130x => ?_)
    · skip
      cases hc131 : f15 N (List.getD h0_0 (0 + (Int.toNat s40k14)) (0 : Int)) (List.length h2c3) h1_2nc3 (List.length h9k14) h8_1k14 h8_2k14 h2c3 h3c3 h9k14 with
      | none => exact finL (ctx28 N) 1 Try.f28 14 n [.b true, .b true, .b true, .b true, .call (rf15 (List.getD h0_0 (0 + (Int.toNat s40k14)) (0 : Int)) h1_0c3 (List.length h2c3) h1_1nlc3 h1_2nc3 h1_2nlc3 (List.length h4c3) h1_3nlc3 (List.length h9k14) false h8_1k14 h8_2k14 h2c3 h3c3 h4c3 h9k14 none)] (by kernel_rfl) (ya (pT h127x) (ya (pT h128x) (ya (pT h129x) (ya (pE h130x) (ya (ys (ef15 N (List.getD h0_0 (0 + (Int.toNat s40k14)) (0 : Int)) h1_0c3 (List.length h2c3) h1_1nlc3 h1_2nc3 h1_2nlc3 (List.length h4c3) h1_3nlc3 (List.length h9k14) false h8_1k14 h8_2k14 h2c3 h3c3 h4c3 h9k14) hc131) yz)))))
      | some o =>
        cases o with
        | r0 resc131 h1_1c131 h1_2c131 =>
          dsimp only
          exact (ih (IntKind.wrap IntKind.i64 (s40k14 + (1 : Int))) h1_1c131 h1_2c131 h9k14).trans (finL (ctx28 N) 1 Try.f28 14 n [.b true, .b true, .b true, .b true, .call (rf15 (List.getD h0_0 (0 + (Int.toNat s40k14)) (0 : Int)) h1_0c3 (List.length h2c3) h1_1nlc3 h1_2nc3 h1_2nlc3 (List.length h4c3) h1_3nlc3 (List.length h9k14) false h8_1k14 h8_2k14 h2c3 h3c3 h4c3 h9k14 (some (.r0 resc131 h1_1c131 h1_2c131)))] (by kernel_rfl) (ya (pT h127x) (ya (pT h128x) (ya (pT h129x) (ya (pE h130x) (ya (ys (ef15 N (List.getD h0_0 (0 + (Int.toNat s40k14)) (0 : Int)) h1_0c3 (List.length h2c3) h1_1nlc3 h1_2nc3 h1_2nlc3 (List.length h4c3) h1_3nlc3 (List.length h9k14) false h8_1k14 h8_2k14 h2c3 h3c3 h4c3 h9k14) hc131) yz))))))
        | r1 resc131 h1_1c131 h1_2c131 h6c131 =>
          dsimp only
          exact (ih (IntKind.wrap IntKind.i64 (s40k14 + (1 : Int))) h1_1c131 h1_2c131 h6c131).trans (finL (ctx28 N) 1 Try.f28 14 n [.b true, .b true, .b true, .b true, .call (rf15 (List.getD h0_0 (0 + (Int.toNat s40k14)) (0 : Int)) h1_0c3 (List.length h2c3) h1_1nlc3 h1_2nc3 h1_2nlc3 (List.length h4c3) h1_3nlc3 (List.length h9k14) false h8_1k14 h8_2k14 h2c3 h3c3 h4c3 h9k14 (some (.r1 resc131 h1_1c131 h1_2c131 h6c131)))] (by kernel_rfl) (ya (pT h127x) (ya (pT h128x) (ya (pT h129x) (ya (pE h130x) (ya (ys (ef15 N (List.getD h0_0 (0 + (Int.toNat s40k14)) (0 : Int)) h1_0c3 (List.length h2c3) h1_1nlc3 h1_2nc3 h1_2nlc3 (List.length h4c3) h1_3nlc3 (List.length h9k14) false h8_1k14 h8_2k14 h2c3 h3c3 h4c3 h9k14) hc131) yz))))))
    · skip
      cases hc132 : f53v1 N (List.length h0_0c118) (List.getD h0_1 (0 + (Int.toNat s40k14)) (0 : Int)) (List.length h2c3) h1_2nc3 h0_0c118 h0_1c118 h0_2c118 h2c3 h3c3 (List.length h9k14) h8_1k14 h8_2k14 h9k14 with
      | none => exact finL (ctx28 N) 1 Try.f28 14 n [.b true, .b true, .b true, .b false, .call (rf53v1 (List.length h0_0c118) false (List.getD h0_1 (0 + (Int.toNat s40k14)) (0 : Int)) h1_0c3 (List.length h2c3) h1_1nlc3 h1_2nc3 h1_2nlc3 (List.length h4c3) h1_3nlc3 h0_0c118 h0_1c118 h0_2c118 h2c3 h3c3 h4c3 (List.length h9k14) false h8_1k14 h8_2k14 h9k14 none)] (by kernel_rfl) (ya (pT h127x) (ya (pT h128x) (ya (pT h129x) (ya (pNE h130x) (ya (ys (ef53v1 N (List.length h0_0c118) false (List.getD h0_1 (0 + (Int.toNat s40k14)) (0 : Int)) h1_0c3 (List.length h2c3) h1_1nlc3 h1_2nc3 h1_2nlc3 (List.length h4c3) h1_3nlc3 h0_0c118 h0_1c118 h0_2c118 h2c3 h3c3 h4c3 (List.length h9k14) false h8_1k14 h8_2k14 h9k14) hc132) yz)))))
      | some o =>
        cases o with
        | r0 h6_1c132 h6_2c132 =>
          dsimp only
          cases hc133 : f53 N (List.length h0_0c119) (List.getD h0_2 (0 + (Int.toNat s40k14)) (0 : Int)) h0_0c119 h0_1c119 h0_2c119 (List.length h9k14) h6_1c132 h6_2c132 h9k14 with
          | none => exact finL (ctx28 N) 1 Try.f28 14 n [.b true, .b true, .b true, .b false, .call (rf53v1 (List.length h0_0c118) false (List.getD h0_1 (0 + (Int.toNat s40k14)) (0 : Int)) h1_0c3 (List.length h2c3) h1_1nlc3 h1_2nc3 h1_2nlc3 (List.length h4c3) h1_3nlc3 h0_0c118 h0_1c118 h0_2c118 h2c3 h3c3 h4c3 (List.length h9k14) false h8_1k14 h8_2k14 h9k14 (some (.r0 h6_1c132 h6_2c132))), .call (rf53 (List.length h0_0c119) false (List.getD h0_2 (0 + (Int.toNat s40k14)) (0 : Int)) h0_0c119 h0_1c119 h0_2c119 (List.length h9k14) false h6_1c132 h6_2c132 h9k14 none)] (by kernel_rfl) (ya (pT h127x) (ya (pT h128x) (ya (pT h129x) (ya (pNE h130x) (ya (ys (ef53v1 N (List.length h0_0c118) false (List.getD h0_1 (0 + (Int.toNat s40k14)) (0 : Int)) h1_0c3 (List.length h2c3) h1_1nlc3 h1_2nc3 h1_2nlc3 (List.length h4c3) h1_3nlc3 h0_0c118 h0_1c118 h0_2c118 h2c3 h3c3 h4c3 (List.length h9k14) false h8_1k14 h8_2k14 h9k14) hc132) (ya (ys (ef53 N (List.length h0_0c119) false (List.getD h0_2 (0 + (Int.toNat s40k14)) (0 : Int)) h0_0c119 h0_1c119 h0_2c119 (List.length h9k14) false h6_1c132 h6_2c132 h9k14) hc133) yz))))))
          | some o =>
            cases o with
            | r0 h2_1c133 h2_2c133 =>
              dsimp only
              exact (ih (IntKind.wrap IntKind.i64 (s40k14 + (1 : Int))) h2_1c133 h2_2c133 h9k14).trans (finL (ctx28 N) 1 Try.f28 14 n [.b true, .b true, .b true, .b false, .call (rf53v1 (List.length h0_0c118) false (List.getD h0_1 (0 + (Int.toNat s40k14)) (0 : Int)) h1_0c3 (List.length h2c3) h1_1nlc3 h1_2nc3 h1_2nlc3 (List.length h4c3) h1_3nlc3 h0_0c118 h0_1c118 h0_2c118 h2c3 h3c3 h4c3 (List.length h9k14) false h8_1k14 h8_2k14 h9k14 (some (.r0 h6_1c132 h6_2c132))), .call (rf53 (List.length h0_0c119) false (List.getD h0_2 (0 + (Int.toNat s40k14)) (0 : Int)) h0_0c119 h0_1c119 h0_2c119 (List.length h9k14) false h6_1c132 h6_2c132 h9k14 (some (.r0 h2_1c133 h2_2c133)))] (by kernel_rfl) (ya (pT h127x) (ya (pT h128x) (ya (pT h129x) (ya (pNE h130x) (ya (ys (ef53v1 N (List.length h0_0c118) false (List.getD h0_1 (0 + (Int.toNat s40k14)) (0 : Int)) h1_0c3 (List.length h2c3) h1_1nlc3 h1_2nc3 h1_2nlc3 (List.length h4c3) h1_3nlc3 h0_0c118 h0_1c118 h0_2c118 h2c3 h3c3 h4c3 (List.length h9k14) false h8_1k14 h8_2k14 h9k14) hc132) (ya (ys (ef53 N (List.length h0_0c119) false (List.getD h0_2 (0 + (Int.toNat s40k14)) (0 : Int)) h0_0c119 h0_1c119 h0_2c119 (List.length h9k14) false h6_1c132 h6_2c132 h9k14) hc133) yz)))))))
            | r1 h2_1c133 h2_2c133 h4c133 =>
              dsimp only
              exact (ih (IntKind.wrap IntKind.i64 (s40k14 + (1 : Int))) h2_1c133 h2_2c133 h4c133).trans (finL (ctx28 N) 1 Try.f28 14 n [.b true, .b true, .b true, .b false, .call (rf53v1 (List.length h0_0c118) false (List.getD h0_1 (0 + (Int.toNat s40k14)) (0 : Int)) h1_0c3 (List.length h2c3) h1_1nlc3 h1_2nc3 h1_2nlc3 (List.length h4c3) h1_3nlc3 h0_0c118 h0_1c118 h0_2c118 h2c3 h3c3 h4c3 (List.length h9k14) false h8_1k14 h8_2k14 h9k14 (some (.r0 h6_1c132 h6_2c132))), .call (rf53 (List.length h0_0c119) false (List.getD h0_2 (0 + (Int.toNat s40k14)) (0 : Int)) h0_0c119 h0_1c119 h0_2c119 (List.length h9k14) false h6_1c132 h6_2c132 h9k14 (some (.r1 h2_1c133 h2_2c133 h4c133)))] (by kernel_rfl) (ya (pT h127x) (ya (pT h128x) (ya (pT h129x) (ya (pNE h130x) (ya (ys (ef53v1 N (List.length h0_0c118) false (List.getD h0_1 (0 + (Int.toNat s40k14)) (0 : Int)) h1_0c3 (List.length h2c3) h1_1nlc3 h1_2nc3 h1_2nlc3 (List.length h4c3) h1_3nlc3 h0_0c118 h0_1c118 h0_2c118 h2c3 h3c3 h4c3 (List.length h9k14) false h8_1k14 h8_2k14 h9k14) hc132) (ya (ys (ef53 N (List.length h0_0c119) false (List.getD h0_2 (0 + (Int.toNat s40k14)) (0 : Int)) h0_0c119 h0_1c119 h0_2c119 (List.length h9k14) false h6_1c132 h6_2c132 h9k14) hc133) yz)))))))
        | r1 h6_1c132 h6_2c132 h8c132 =>
          dsimp only
          cases hc134 : f53 N (List.length h0_0c119) (List.getD h0_2 (0 + (Int.toNat s40k14)) (0 : Int)) h0_0c119 h0_1c119 h0_2c119 (List.length h8c132) h6_1c132 h6_2c132 h8c132 with
          | none => exact finL (ctx28 N) 1 Try.f28 14 n [.b true, .b true, .b true, .b false, .call (rf53v1 (List.length h0_0c118) false (List.getD h0_1 (0 + (Int.toNat s40k14)) (0 : Int)) h1_0c3 (List.length h2c3) h1_1nlc3 h1_2nc3 h1_2nlc3 (List.length h4c3) h1_3nlc3 h0_0c118 h0_1c118 h0_2c118 h2c3 h3c3 h4c3 (List.length h9k14) false h8_1k14 h8_2k14 h9k14 (some (.r1 h6_1c132 h6_2c132 h8c132))), .call (rf53 (List.length h0_0c119) false (List.getD h0_2 (0 + (Int.toNat s40k14)) (0 : Int)) h0_0c119 h0_1c119 h0_2c119 (List.length h8c132) false h6_1c132 h6_2c132 h8c132 none)] (by kernel_rfl) (ya (pT h127x) (ya (pT h128x) (ya (pT h129x) (ya (pNE h130x) (ya (ys (ef53v1 N (List.length h0_0c118) false (List.getD h0_1 (0 + (Int.toNat s40k14)) (0 : Int)) h1_0c3 (List.length h2c3) h1_1nlc3 h1_2nc3 h1_2nlc3 (List.length h4c3) h1_3nlc3 h0_0c118 h0_1c118 h0_2c118 h2c3 h3c3 h4c3 (List.length h9k14) false h8_1k14 h8_2k14 h9k14) hc132) (ya (ys (ef53 N (List.length h0_0c119) false (List.getD h0_2 (0 + (Int.toNat s40k14)) (0 : Int)) h0_0c119 h0_1c119 h0_2c119 (List.length h8c132) false h6_1c132 h6_2c132 h8c132) hc134) yz))))))
          | some o =>
            cases o with
            | r0 h2_1c134 h2_2c134 =>
              dsimp only
              exact (ih (IntKind.wrap IntKind.i64 (s40k14 + (1 : Int))) h2_1c134 h2_2c134 h8c132).trans (finL (ctx28 N) 1 Try.f28 14 n [.b true, .b true, .b true, .b false, .call (rf53v1 (List.length h0_0c118) false (List.getD h0_1 (0 + (Int.toNat s40k14)) (0 : Int)) h1_0c3 (List.length h2c3) h1_1nlc3 h1_2nc3 h1_2nlc3 (List.length h4c3) h1_3nlc3 h0_0c118 h0_1c118 h0_2c118 h2c3 h3c3 h4c3 (List.length h9k14) false h8_1k14 h8_2k14 h9k14 (some (.r1 h6_1c132 h6_2c132 h8c132))), .call (rf53 (List.length h0_0c119) false (List.getD h0_2 (0 + (Int.toNat s40k14)) (0 : Int)) h0_0c119 h0_1c119 h0_2c119 (List.length h8c132) false h6_1c132 h6_2c132 h8c132 (some (.r0 h2_1c134 h2_2c134)))] (by kernel_rfl) (ya (pT h127x) (ya (pT h128x) (ya (pT h129x) (ya (pNE h130x) (ya (ys (ef53v1 N (List.length h0_0c118) false (List.getD h0_1 (0 + (Int.toNat s40k14)) (0 : Int)) h1_0c3 (List.length h2c3) h1_1nlc3 h1_2nc3 h1_2nlc3 (List.length h4c3) h1_3nlc3 h0_0c118 h0_1c118 h0_2c118 h2c3 h3c3 h4c3 (List.length h9k14) false h8_1k14 h8_2k14 h9k14) hc132) (ya (ys (ef53 N (List.length h0_0c119) false (List.getD h0_2 (0 + (Int.toNat s40k14)) (0 : Int)) h0_0c119 h0_1c119 h0_2c119 (List.length h8c132) false h6_1c132 h6_2c132 h8c132) hc134) yz)))))))
            | r1 h2_1c134 h2_2c134 h4c134 =>
              dsimp only
              exact (ih (IntKind.wrap IntKind.i64 (s40k14 + (1 : Int))) h2_1c134 h2_2c134 h4c134).trans (finL (ctx28 N) 1 Try.f28 14 n [.b true, .b true, .b true, .b false, .call (rf53v1 (List.length h0_0c118) false (List.getD h0_1 (0 + (Int.toNat s40k14)) (0 : Int)) h1_0c3 (List.length h2c3) h1_1nlc3 h1_2nc3 h1_2nlc3 (List.length h4c3) h1_3nlc3 h0_0c118 h0_1c118 h0_2c118 h2c3 h3c3 h4c3 (List.length h9k14) false h8_1k14 h8_2k14 h9k14 (some (.r1 h6_1c132 h6_2c132 h8c132))), .call (rf53 (List.length h0_0c119) false (List.getD h0_2 (0 + (Int.toNat s40k14)) (0 : Int)) h0_0c119 h0_1c119 h0_2c119 (List.length h8c132) false h6_1c132 h6_2c132 h8c132 (some (.r1 h2_1c134 h2_2c134 h4c134)))] (by kernel_rfl) (ya (pT h127x) (ya (pT h128x) (ya (pT h129x) (ya (pNE h130x) (ya (ys (ef53v1 N (List.length h0_0c118) false (List.getD h0_1 (0 + (Int.toNat s40k14)) (0 : Int)) h1_0c3 (List.length h2c3) h1_1nlc3 h1_2nc3 h1_2nlc3 (List.length h4c3) h1_3nlc3 h0_0c118 h0_1c118 h0_2c118 h2c3 h3c3 h4c3 (List.length h9k14) false h8_1k14 h8_2k14 h9k14) hc132) (ya (ys (ef53 N (List.length h0_0c119) false (List.getD h0_2 (0 + (Int.toNat s40k14)) (0 : Int)) h0_0c119 h0_1c119 h0_2c119 (List.length h8c132) false h6_1c132 h6_2c132 h8c132) hc134) yz)))))))
/-! 28, loop 14 -/
inductive Qlf28_14g where
  | e0 (h6_0nl : Bool) (h6_1 : Int) (h6_2 : Int) (h7 : List Int)
def slf28_14g (N : Nat) (a0n : Nat) (h0_0 : List Int) (h0_1 : List Int) (h0_2 : List Int) (h1_2nc3 : Nat) (h2c3 : List Int) (h3c3 : List Int) (h1_2nc93 : Nat) (h2c93 : List Int) (h3c93 : List Int) (h0_0c141 : List Int) (h0_1c141 : List Int) (h0_2c141 : List Int) (h0_0c142 : List Int) (h0_1c142 : List Int) (h0_2c142 : List Int) (n : Nat) (go : Int → Bool → Int → Int → List Int → Option Qlf28_14g) (s40k14 : Int) (h12_0nlk14 : Bool) (h12_1k14 : Int) (h12_2k14 : Int) (h13k14 : List Int) : Option Qlf28_14g :=
 if (s40k14 < ((a0n : Nat) : Int)) then
  if (((0 : Int) ≤ s40k14) ∧ ((Int.toNat s40k14) < a0n)) then
   if ((0 + (Int.toNat s40k14)) < (List.length h0_0)) then
    if ((List.getD h0_1 (0 + (Int.toNat s40k14)) (0 : Int)) = (0 : Int)) then
     (match f15 N (List.getD h0_0 (0 + (Int.toNat s40k14)) (0 : Int)) (List.length h2c3) h1_2nc3 (List.length h13k14) h12_1k14 h12_2k14 h2c3 h3c3 h13k14 with
     | none => none
     | some (.r0 resc154 h1_1c154 h1_2c154) =>
      go (IntKind.wrap IntKind.i64 (s40k14 + (1 : Int))) h12_0nlk14 h1_1c154 h1_2c154 h13k14
     | some (.r1 resc154 h1_1c154 h1_2c154 h6c154) =>
      go (IntKind.wrap IntKind.i64 (s40k14 + (1 : Int))) false h1_1c154 h1_2c154 h6c154)
    else
     (match f53v1 N (List.length h0_0c141) (List.getD h0_1 (0 + (Int.toNat s40k14)) (0 : Int)) (List.length h2c3) h1_2nc3 h0_0c141 h0_1c141 h0_2c141 h2c3 h3c3 (List.length h13k14) h12_1k14 h12_2k14 h13k14 with
     | none => none
     | some (.r0 h6_1c155 h6_2c155) =>
      (match f53v1 N (List.length h0_0c142) (List.getD h0_2 (0 + (Int.toNat s40k14)) (0 : Int)) (List.length h2c93) h1_2nc93 h0_0c142 h0_1c142 h0_2c142 h2c93 h3c93 (List.length h13k14) h6_1c155 h6_2c155 h13k14 with
      | none => none
      | some (.r0 h6_1c156 h6_2c156) =>
       go (IntKind.wrap IntKind.i64 (s40k14 + (1 : Int))) h12_0nlk14 h6_1c156 h6_2c156 h13k14
      | some (.r1 h6_1c156 h6_2c156 h8c156) =>
       go (IntKind.wrap IntKind.i64 (s40k14 + (1 : Int))) false h6_1c156 h6_2c156 h8c156)
     | some (.r1 h6_1c155 h6_2c155 h8c155) =>
      (match f53v1 N (List.length h0_0c142) (List.getD h0_2 (0 + (Int.toNat s40k14)) (0 : Int)) (List.length h2c93) h1_2nc93 h0_0c142 h0_1c142 h0_2c142 h2c93 h3c93 (List.length h8c155) h6_1c155 h6_2c155 h8c155 with
      | none => none
      | some (.r0 h6_1c157 h6_2c157) =>
       go (IntKind.wrap IntKind.i64 (s40k14 + (1 : Int))) false h6_1c157 h6_2c157 h8c155
      | some (.r1 h6_1c157 h6_2c157 h8c157) =>
       go (IntKind.wrap IntKind.i64 (s40k14 + (1 : Int))) false h6_1c157 h6_2c157 h8c157))
   else
    none
  else
   none
 else
  some (.e0 h12_0nlk14 h12_1k14 h12_2k14 h13k14)
def lf28_14g (N : Nat) (a0n : Nat) (h0_0 : List Int) (h0_1 : List Int) (h0_2 : List Int) (h1_2nc3 : Nat) (h2c3 : List Int) (h3c3 : List Int) (h1_2nc93 : Nat) (h2c93 : List Int) (h3c93 : List Int) (h0_0c141 : List Int) (h0_1c141 : List Int) (h0_2c141 : List Int) (h0_0c142 : List Int) (h0_1c142 : List Int) (h0_2c142 : List Int) : Nat → Int → Bool → Int → Int → List Int → Option Qlf28_14g
  | 0, _, _, _, _, _ => none
  | n + 1, s40k14, h12_0nlk14, h12_1k14, h12_2k14, h13k14 => slf28_14g N a0n h0_0 h0_1 h0_2 h1_2nc3 h2c3 h3c3 h1_2nc93 h2c93 h3c93 h0_0c141 h0_1c141 h0_2c141 h0_0c142 h0_1c142 h0_2c142 n (lf28_14g N a0n h0_0 h0_1 h0_2 h1_2nc3 h2c3 h3c3 h1_2nc93 h2c93 h3c93 h0_0c141 h0_1c141 h0_2c141 h0_0c142 h0_1c142 h0_2c142 n) s40k14 h12_0nlk14 h12_1k14 h12_2k14 h13k14
def qlf28_14g (a0n : Nat) (a0nl : Bool) (h0rw : Bool) (h0_0 : List Int) (h0_1 : List Int) (h0_2 : List Int) (h1_0c3 : List Int) (h1_1nlc3 : Bool) (h1_2nc3 : Nat) (h1_2nlc3 : Bool) (h1_3nlc3 : Bool) (h2c3 : List Int) (h3c3 : List Int) (h4c3 : List Int) (h1_0c93 : List Int) (h1_1nlc93 : Bool) (h1_2nc93 : Nat) (h1_2nlc93 : Bool) (h1_3nlc93 : Bool) (h2c93 : List Int) (h3c93 : List Int) (h4c93 : List Int) (h0_0c141 : List Int) (h0_1c141 : List Int) (h0_2c141 : List Int) (h0_0c142 : List Int) (h0_1c142 : List Int) (h0_2c142 : List Int) : Option Qlf28_14g → Out
  | none => none
  | some (.e0 h6_0nl h6_1 h6_2 h7) => some ((XT.exit 0), (St.mk [(4, (AV.ptr 1 0 0 1)), (7, (AV.ptr 2 0 0 1))] [(Blk.dyn h0rw 62 [(Col.ints IntKind.i64 h0_0), (Col.ints IntKind.i64 h0_1), (Col.ints IntKind.i64 h0_2)]), (Blk.segs true 70 [(Seg.run IntKind.i64 16 h1_0c3), (Seg.cell (AV.slice 3 0 0 (List.length h2c3) 1 h1_1nlc3 true)), (Seg.cell (AV.slice 4 0 0 h1_2nc3 1 h1_2nlc3 true)), (Seg.cell (AV.slice 5 0 0 (List.length h4c3) 1 h1_3nlc3 true))]), (Blk.segs true 27 [(Seg.cell (AV.ptr 6 0 0 1))]), (Blk.dyn true 3 [(Col.ints IntKind.i64 h2c3)]), (Blk.dyn true 3 [(Col.ints IntKind.i64 h3c3)]), (Blk.dyn true 3 [(Col.ints IntKind.i64 h4c3)]), (Blk.segs true 72 [(Seg.cell (AV.slice 7 0 0 (List.length h7) 1 h6_0nl true)), (Seg.cell (AV.int IntKind.i64 h6_1)), (Seg.cell (AV.int IntKind.i64 h6_2))]), (Blk.dyn true 5 [(Col.ints IntKind.u8 h7)])]))
theorem elf28_14g (N : Nat) (a0n : Nat) (a0nl : Bool) (h0rw : Bool) (h0_0 : List Int) (h0_1 : List Int) (h0_2 : List Int) (h1_0c3 : List Int) (h1_1nlc3 : Bool) (h1_2nc3 : Nat) (h1_2nlc3 : Bool) (h1_3nlc3 : Bool) (h2c3 : List Int) (h3c3 : List Int) (h4c3 : List Int) (h1_0c93 : List Int) (h1_1nlc93 : Bool) (h1_2nc93 : Nat) (h1_2nlc93 : Bool) (h1_3nlc93 : Bool) (h2c93 : List Int) (h3c93 : List Int) (h4c93 : List Int) (h0_0c141 : List Int) (h0_1c141 : List Int) (h0_2c141 : List Int) (h0_0c142 : List Int) (h0_1c142 : List Int) (h0_2c142 : List Int) : ∀ (n : Nat) (s40k14 : Int) (h12_0nlk14 : Bool) (h12_1k14 : Int) (h12_2k14 : Int) (h13k14 : List Int), qlf28_14g a0n a0nl h0rw h0_0 h0_1 h0_2 h1_0c3 h1_1nlc3 h1_2nc3 h1_2nlc3 h1_3nlc3 h2c3 h3c3 h4c3 h1_0c93 h1_1nlc93 h1_2nc93 h1_2nlc93 h1_3nlc93 h2c93 h3c93 h4c93 h0_0c141 h0_1c141 h0_2c141 h0_0c142 h0_1c142 h0_2c142 (lf28_14g N a0n h0_0 h0_1 h0_2 h1_2nc3 h2c3 h3c3 h1_2nc93 h2c93 h3c93 h0_0c141 h0_1c141 h0_2c141 h0_0c142 h0_1c142 h0_2c142 n s40k14 h12_0nlk14 h12_1k14 h12_2k14 h13k14) = lp (ctx28 N) 1 Try.f28 14 n (St.mk [(4, (AV.ptr 1 0 0 1)), (6, (AV.ptr 2 0 0 1)), (7, (AV.ptr 3 0 0 1)), (8, (AV.func 53 ([] : List AV) [(AV.ptr 3 0 0 1)])), (9, (AV.slice 4 0 0 (List.length h0_0c141) 3 false true)), (10, (AV.slice 5 0 0 (List.length h0_0c142) 3 false true)), (38, (AV.slice 0 0 0 a0n 3 a0nl true)), (39, (AV.int IntKind.i64 ((a0n : Nat) : Int))), (40, (AV.int IntKind.i64 s40k14))] [(Blk.dyn h0rw 62 [(Col.ints IntKind.i64 h0_0), (Col.ints IntKind.i64 h0_1), (Col.ints IntKind.i64 h0_2)]), (Blk.segs true 70 [(Seg.run IntKind.i64 16 h1_0c3), (Seg.cell (AV.slice 6 0 0 (List.length h2c3) 1 h1_1nlc3 true)), (Seg.cell (AV.slice 7 0 0 h1_2nc3 1 h1_2nlc3 true)), (Seg.cell (AV.slice 8 0 0 (List.length h4c3) 1 h1_3nlc3 true))]), (Blk.segs true 70 [(Seg.run IntKind.i64 16 h1_0c93), (Seg.cell (AV.slice 9 0 0 (List.length h2c93) 1 h1_1nlc93 true)), (Seg.cell (AV.slice 10 0 0 h1_2nc93 1 h1_2nlc93 true)), (Seg.cell (AV.slice 11 0 0 (List.length h4c93) 1 h1_3nlc93 true))]), (Blk.segs true 27 [(Seg.cell (AV.ptr 12 0 0 1))]), (Blk.dyn true 89 [(Col.ints IntKind.i64 h0_0c141), (Col.ints IntKind.i64 h0_1c141), (Col.ints IntKind.i64 h0_2c141)]), (Blk.dyn true 89 [(Col.ints IntKind.i64 h0_0c142), (Col.ints IntKind.i64 h0_1c142), (Col.ints IntKind.i64 h0_2c142)]), (Blk.dyn true 3 [(Col.ints IntKind.i64 h2c3)]), (Blk.dyn true 3 [(Col.ints IntKind.i64 h3c3)]), (Blk.dyn true 3 [(Col.ints IntKind.i64 h4c3)]), (Blk.dyn true 3 [(Col.ints IntKind.i64 h2c93)]), (Blk.dyn true 3 [(Col.ints IntKind.i64 h3c93)]), (Blk.dyn true 3 [(Col.ints IntKind.i64 h4c93)]), (Blk.segs true 72 [(Seg.cell (AV.slice 13 0 0 (List.length h13k14) 1 h12_0nlk14 true)), (Seg.cell (AV.int IntKind.i64 h12_1k14)), (Seg.cell (AV.int IntKind.i64 h12_2k14))]), (Blk.dyn true 5 [(Col.ints IntKind.u8 h13k14)])]) := by
  intro n
  induction n with
  | zero => intros; kernel_rfl
  | succ n ih =>
    intro s40k14 h12_0nlk14 h12_1k14 h12_2k14 h13k14
    rw [lf28_14g]
    unfold slf28_14g
    refine br (p := (s40k14 < ((a0n : Nat) : Int))) (fun h150x => ?_) (fun h150x => finL (ctx28 N) 1 Try.f28 14 n [.b false] (by kernel_rfl) (ya (pF h150x) yz))
    refine br (p := (((0 : Int) ≤ s40k14) ∧ ((Int.toNat s40k14) < a0n))) (fun h151x => ?_) (fun h151x => finL (ctx28 N) 1 Try.f28 14 n [.b true, .b false] (by kernel_rfl) (ya (pT h150x) (ya (pF h151x) yz)))
    refine br (p := ((0 + (Int.toNat s40k14)) < (List.length h0_0))) (fun h152x => ?_) (fun h152x => finL (ctx28 N) 1 Try.f28 14 n [.b true, .b true, .b false] (by kernel_rfl) (ya (pT h150x) (ya (pT h151x) (ya (pF h152x) yz))))
    refine br (p := ((List.getD h0_1 (0 + (Int.toNat s40k14)) (0 : Int)) = (0 : Int))) (fun h153x => ?_) (fun h153x => ?_)
    · skip
      cases hc154 : f15 N (List.getD h0_0 (0 + (Int.toNat s40k14)) (0 : Int)) (List.length h2c3) h1_2nc3 (List.length h13k14) h12_1k14 h12_2k14 h2c3 h3c3 h13k14 with
      | none => exact finL (ctx28 N) 1 Try.f28 14 n [.b true, .b true, .b true, .b true, .call (rf15 (List.getD h0_0 (0 + (Int.toNat s40k14)) (0 : Int)) h1_0c3 (List.length h2c3) h1_1nlc3 h1_2nc3 h1_2nlc3 (List.length h4c3) h1_3nlc3 (List.length h13k14) h12_0nlk14 h12_1k14 h12_2k14 h2c3 h3c3 h4c3 h13k14 none)] (by kernel_rfl) (ya (pT h150x) (ya (pT h151x) (ya (pT h152x) (ya (pE h153x) (ya (ys (ef15 N (List.getD h0_0 (0 + (Int.toNat s40k14)) (0 : Int)) h1_0c3 (List.length h2c3) h1_1nlc3 h1_2nc3 h1_2nlc3 (List.length h4c3) h1_3nlc3 (List.length h13k14) h12_0nlk14 h12_1k14 h12_2k14 h2c3 h3c3 h4c3 h13k14) hc154) yz)))))
      | some o =>
        cases o with
        | r0 resc154 h1_1c154 h1_2c154 =>
          dsimp only
          exact (ih (IntKind.wrap IntKind.i64 (s40k14 + (1 : Int))) h12_0nlk14 h1_1c154 h1_2c154 h13k14).trans (finL (ctx28 N) 1 Try.f28 14 n [.b true, .b true, .b true, .b true, .call (rf15 (List.getD h0_0 (0 + (Int.toNat s40k14)) (0 : Int)) h1_0c3 (List.length h2c3) h1_1nlc3 h1_2nc3 h1_2nlc3 (List.length h4c3) h1_3nlc3 (List.length h13k14) h12_0nlk14 h12_1k14 h12_2k14 h2c3 h3c3 h4c3 h13k14 (some (.r0 resc154 h1_1c154 h1_2c154)))] (by kernel_rfl) (ya (pT h150x) (ya (pT h151x) (ya (pT h152x) (ya (pE h153x) (ya (ys (ef15 N (List.getD h0_0 (0 + (Int.toNat s40k14)) (0 : Int)) h1_0c3 (List.length h2c3) h1_1nlc3 h1_2nc3 h1_2nlc3 (List.length h4c3) h1_3nlc3 (List.length h13k14) h12_0nlk14 h12_1k14 h12_2k14 h2c3 h3c3 h4c3 h13k14) hc154) yz))))))
        | r1 resc154 h1_1c154 h1_2c154 h6c154 =>
          dsimp only
          exact (ih (IntKind.wrap IntKind.i64 (s40k14 + (1 : Int))) false h1_1c154 h1_2c154 h6c154).trans (finL (ctx28 N) 1 Try.f28 14 n [.b true, .b true, .b true, .b true, .call (rf15 (List.getD h0_0 (0 + (Int.toNat s40k14)) (0 : Int)) h1_0c3 (List.length h2c3) h1_1nlc3 h1_2nc3 h1_2nlc3 (List.length h4c3) h1_3nlc3 (List.length h13k14) h12_0nlk14 h12_1k14 h12_2k14 h2c3 h3c3 h4c3 h13k14 (some (.r1 resc154 h1_1c154 h1_2c154 h6c154)))] (by kernel_rfl) (ya (pT h150x) (ya (pT h151x) (ya (pT h152x) (ya (pE h153x) (ya (ys (ef15 N (List.getD h0_0 (0 + (Int.toNat s40k14)) (0 : Int)) h1_0c3 (List.length h2c3) h1_1nlc3 h1_2nc3 h1_2nlc3 (List.length h4c3) h1_3nlc3 (List.length h13k14) h12_0nlk14 h12_1k14 h12_2k14 h2c3 h3c3 h4c3 h13k14) hc154) yz))))))
    · skip
      cases hc155 : f53v1 N (List.length h0_0c141) (List.getD h0_1 (0 + (Int.toNat s40k14)) (0 : Int)) (List.length h2c3) h1_2nc3 h0_0c141 h0_1c141 h0_2c141 h2c3 h3c3 (List.length h13k14) h12_1k14 h12_2k14 h13k14 with
      | none => exact finL (ctx28 N) 1 Try.f28 14 n [.b true, .b true, .b true, .b false, .call (rf53v1 (List.length h0_0c141) false (List.getD h0_1 (0 + (Int.toNat s40k14)) (0 : Int)) h1_0c3 (List.length h2c3) h1_1nlc3 h1_2nc3 h1_2nlc3 (List.length h4c3) h1_3nlc3 h0_0c141 h0_1c141 h0_2c141 h2c3 h3c3 h4c3 (List.length h13k14) h12_0nlk14 h12_1k14 h12_2k14 h13k14 none)] (by kernel_rfl) (ya (pT h150x) (ya (pT h151x) (ya (pT h152x) (ya (pNE h153x) (ya (ys (ef53v1 N (List.length h0_0c141) false (List.getD h0_1 (0 + (Int.toNat s40k14)) (0 : Int)) h1_0c3 (List.length h2c3) h1_1nlc3 h1_2nc3 h1_2nlc3 (List.length h4c3) h1_3nlc3 h0_0c141 h0_1c141 h0_2c141 h2c3 h3c3 h4c3 (List.length h13k14) h12_0nlk14 h12_1k14 h12_2k14 h13k14) hc155) yz)))))
      | some o =>
        cases o with
        | r0 h6_1c155 h6_2c155 =>
          dsimp only
          cases hc156 : f53v1 N (List.length h0_0c142) (List.getD h0_2 (0 + (Int.toNat s40k14)) (0 : Int)) (List.length h2c93) h1_2nc93 h0_0c142 h0_1c142 h0_2c142 h2c93 h3c93 (List.length h13k14) h6_1c155 h6_2c155 h13k14 with
          | none => exact finL (ctx28 N) 1 Try.f28 14 n [.b true, .b true, .b true, .b false, .call (rf53v1 (List.length h0_0c141) false (List.getD h0_1 (0 + (Int.toNat s40k14)) (0 : Int)) h1_0c3 (List.length h2c3) h1_1nlc3 h1_2nc3 h1_2nlc3 (List.length h4c3) h1_3nlc3 h0_0c141 h0_1c141 h0_2c141 h2c3 h3c3 h4c3 (List.length h13k14) h12_0nlk14 h12_1k14 h12_2k14 h13k14 (some (.r0 h6_1c155 h6_2c155))), .call (rf53v1 (List.length h0_0c142) false (List.getD h0_2 (0 + (Int.toNat s40k14)) (0 : Int)) h1_0c93 (List.length h2c93) h1_1nlc93 h1_2nc93 h1_2nlc93 (List.length h4c93) h1_3nlc93 h0_0c142 h0_1c142 h0_2c142 h2c93 h3c93 h4c93 (List.length h13k14) h12_0nlk14 h6_1c155 h6_2c155 h13k14 none)] (by kernel_rfl) (ya (pT h150x) (ya (pT h151x) (ya (pT h152x) (ya (pNE h153x) (ya (ys (ef53v1 N (List.length h0_0c141) false (List.getD h0_1 (0 + (Int.toNat s40k14)) (0 : Int)) h1_0c3 (List.length h2c3) h1_1nlc3 h1_2nc3 h1_2nlc3 (List.length h4c3) h1_3nlc3 h0_0c141 h0_1c141 h0_2c141 h2c3 h3c3 h4c3 (List.length h13k14) h12_0nlk14 h12_1k14 h12_2k14 h13k14) hc155) (ya (ys (ef53v1 N (List.length h0_0c142) false (List.getD h0_2 (0 + (Int.toNat s40k14)) (0 : Int)) h1_0c93 (List.length h2c93) h1_1nlc93 h1_2nc93 h1_2nlc93 (List.length h4c93) h1_3nlc93 h0_0c142 h0_1c142 h0_2c142 h2c93 h3c93 h4c93 (List.length h13k14) h12_0nlk14 h6_1c155 h6_2c155 h13k14) hc156) yz))))))
          | some o =>
            cases o with
            | r0 h6_1c156 h6_2c156 =>
              dsimp only
              exact (ih (IntKind.wrap IntKind.i64 (s40k14 + (1 : Int))) h12_0nlk14 h6_1c156 h6_2c156 h13k14).trans (finL (ctx28 N) 1 Try.f28 14 n [.b true, .b true, .b true, .b false, .call (rf53v1 (List.length h0_0c141) false (List.getD h0_1 (0 + (Int.toNat s40k14)) (0 : Int)) h1_0c3 (List.length h2c3) h1_1nlc3 h1_2nc3 h1_2nlc3 (List.length h4c3) h1_3nlc3 h0_0c141 h0_1c141 h0_2c141 h2c3 h3c3 h4c3 (List.length h13k14) h12_0nlk14 h12_1k14 h12_2k14 h13k14 (some (.r0 h6_1c155 h6_2c155))), .call (rf53v1 (List.length h0_0c142) false (List.getD h0_2 (0 + (Int.toNat s40k14)) (0 : Int)) h1_0c93 (List.length h2c93) h1_1nlc93 h1_2nc93 h1_2nlc93 (List.length h4c93) h1_3nlc93 h0_0c142 h0_1c142 h0_2c142 h2c93 h3c93 h4c93 (List.length h13k14) h12_0nlk14 h6_1c155 h6_2c155 h13k14 (some (.r0 h6_1c156 h6_2c156)))] (by kernel_rfl) (ya (pT h150x) (ya (pT h151x) (ya (pT h152x) (ya (pNE h153x) (ya (ys (ef53v1 N (List.length h0_0c141) false (List.getD h0_1 (0 + (Int.toNat s40k14)) (0 : Int)) h1_0c3 (List.length h2c3) h1_1nlc3 h1_2nc3 h1_2nlc3 (List.length h4c3) h1_3nlc3 h0_0c141 h0_1c141 h0_2c141 h2c3 h3c3 h4c3 (List.length h13k14) h12_0nlk14 h12_1k14 h12_2k14 h13k14) hc155) (ya (ys (ef53v1 N (List.length h0_0c142) false (List.getD h0_2 (0 + (Int.toNat s40k14)) (0 : Int)) h1_0c93 (List.length h2c93) h1_1nlc93 h1_2nc93 h1_2nlc93 (List.length h4c93) h1_3nlc93 h0_0c142 h0_1c142 h0_2c142 h2c93 h3c93 h4c93 (List.length h13k14) h12_0nlk14 h6_1c155 h6_2c155 h13k14) hc156) yz)))))))
            | r1 h6_1c156 h6_2c156 h8c156 =>
              dsimp only
              exact (ih (IntKind.wrap IntKind.i64 (s40k14 + (1 : Int))) false h6_1c156 h6_2c156 h8c156).trans (finL (ctx28 N) 1 Try.f28 14 n [.b true, .b true, .b true, .b false, .call (rf53v1 (List.length h0_0c141) false (List.getD h0_1 (0 + (Int.toNat s40k14)) (0 : Int)) h1_0c3 (List.length h2c3) h1_1nlc3 h1_2nc3 h1_2nlc3 (List.length h4c3) h1_3nlc3 h0_0c141 h0_1c141 h0_2c141 h2c3 h3c3 h4c3 (List.length h13k14) h12_0nlk14 h12_1k14 h12_2k14 h13k14 (some (.r0 h6_1c155 h6_2c155))), .call (rf53v1 (List.length h0_0c142) false (List.getD h0_2 (0 + (Int.toNat s40k14)) (0 : Int)) h1_0c93 (List.length h2c93) h1_1nlc93 h1_2nc93 h1_2nlc93 (List.length h4c93) h1_3nlc93 h0_0c142 h0_1c142 h0_2c142 h2c93 h3c93 h4c93 (List.length h13k14) h12_0nlk14 h6_1c155 h6_2c155 h13k14 (some (.r1 h6_1c156 h6_2c156 h8c156)))] (by kernel_rfl) (ya (pT h150x) (ya (pT h151x) (ya (pT h152x) (ya (pNE h153x) (ya (ys (ef53v1 N (List.length h0_0c141) false (List.getD h0_1 (0 + (Int.toNat s40k14)) (0 : Int)) h1_0c3 (List.length h2c3) h1_1nlc3 h1_2nc3 h1_2nlc3 (List.length h4c3) h1_3nlc3 h0_0c141 h0_1c141 h0_2c141 h2c3 h3c3 h4c3 (List.length h13k14) h12_0nlk14 h12_1k14 h12_2k14 h13k14) hc155) (ya (ys (ef53v1 N (List.length h0_0c142) false (List.getD h0_2 (0 + (Int.toNat s40k14)) (0 : Int)) h1_0c93 (List.length h2c93) h1_1nlc93 h1_2nc93 h1_2nlc93 (List.length h4c93) h1_3nlc93 h0_0c142 h0_1c142 h0_2c142 h2c93 h3c93 h4c93 (List.length h13k14) h12_0nlk14 h6_1c155 h6_2c155 h13k14) hc156) yz)))))))
        | r1 h6_1c155 h6_2c155 h8c155 =>
          dsimp only
          cases hc157 : f53v1 N (List.length h0_0c142) (List.getD h0_2 (0 + (Int.toNat s40k14)) (0 : Int)) (List.length h2c93) h1_2nc93 h0_0c142 h0_1c142 h0_2c142 h2c93 h3c93 (List.length h8c155) h6_1c155 h6_2c155 h8c155 with
          | none => exact finL (ctx28 N) 1 Try.f28 14 n [.b true, .b true, .b true, .b false, .call (rf53v1 (List.length h0_0c141) false (List.getD h0_1 (0 + (Int.toNat s40k14)) (0 : Int)) h1_0c3 (List.length h2c3) h1_1nlc3 h1_2nc3 h1_2nlc3 (List.length h4c3) h1_3nlc3 h0_0c141 h0_1c141 h0_2c141 h2c3 h3c3 h4c3 (List.length h13k14) h12_0nlk14 h12_1k14 h12_2k14 h13k14 (some (.r1 h6_1c155 h6_2c155 h8c155))), .call (rf53v1 (List.length h0_0c142) false (List.getD h0_2 (0 + (Int.toNat s40k14)) (0 : Int)) h1_0c93 (List.length h2c93) h1_1nlc93 h1_2nc93 h1_2nlc93 (List.length h4c93) h1_3nlc93 h0_0c142 h0_1c142 h0_2c142 h2c93 h3c93 h4c93 (List.length h8c155) false h6_1c155 h6_2c155 h8c155 none)] (by kernel_rfl) (ya (pT h150x) (ya (pT h151x) (ya (pT h152x) (ya (pNE h153x) (ya (ys (ef53v1 N (List.length h0_0c141) false (List.getD h0_1 (0 + (Int.toNat s40k14)) (0 : Int)) h1_0c3 (List.length h2c3) h1_1nlc3 h1_2nc3 h1_2nlc3 (List.length h4c3) h1_3nlc3 h0_0c141 h0_1c141 h0_2c141 h2c3 h3c3 h4c3 (List.length h13k14) h12_0nlk14 h12_1k14 h12_2k14 h13k14) hc155) (ya (ys (ef53v1 N (List.length h0_0c142) false (List.getD h0_2 (0 + (Int.toNat s40k14)) (0 : Int)) h1_0c93 (List.length h2c93) h1_1nlc93 h1_2nc93 h1_2nlc93 (List.length h4c93) h1_3nlc93 h0_0c142 h0_1c142 h0_2c142 h2c93 h3c93 h4c93 (List.length h8c155) false h6_1c155 h6_2c155 h8c155) hc157) yz))))))
          | some o =>
            cases o with
            | r0 h6_1c157 h6_2c157 =>
              dsimp only
              exact (ih (IntKind.wrap IntKind.i64 (s40k14 + (1 : Int))) false h6_1c157 h6_2c157 h8c155).trans (finL (ctx28 N) 1 Try.f28 14 n [.b true, .b true, .b true, .b false, .call (rf53v1 (List.length h0_0c141) false (List.getD h0_1 (0 + (Int.toNat s40k14)) (0 : Int)) h1_0c3 (List.length h2c3) h1_1nlc3 h1_2nc3 h1_2nlc3 (List.length h4c3) h1_3nlc3 h0_0c141 h0_1c141 h0_2c141 h2c3 h3c3 h4c3 (List.length h13k14) h12_0nlk14 h12_1k14 h12_2k14 h13k14 (some (.r1 h6_1c155 h6_2c155 h8c155))), .call (rf53v1 (List.length h0_0c142) false (List.getD h0_2 (0 + (Int.toNat s40k14)) (0 : Int)) h1_0c93 (List.length h2c93) h1_1nlc93 h1_2nc93 h1_2nlc93 (List.length h4c93) h1_3nlc93 h0_0c142 h0_1c142 h0_2c142 h2c93 h3c93 h4c93 (List.length h8c155) false h6_1c155 h6_2c155 h8c155 (some (.r0 h6_1c157 h6_2c157)))] (by kernel_rfl) (ya (pT h150x) (ya (pT h151x) (ya (pT h152x) (ya (pNE h153x) (ya (ys (ef53v1 N (List.length h0_0c141) false (List.getD h0_1 (0 + (Int.toNat s40k14)) (0 : Int)) h1_0c3 (List.length h2c3) h1_1nlc3 h1_2nc3 h1_2nlc3 (List.length h4c3) h1_3nlc3 h0_0c141 h0_1c141 h0_2c141 h2c3 h3c3 h4c3 (List.length h13k14) h12_0nlk14 h12_1k14 h12_2k14 h13k14) hc155) (ya (ys (ef53v1 N (List.length h0_0c142) false (List.getD h0_2 (0 + (Int.toNat s40k14)) (0 : Int)) h1_0c93 (List.length h2c93) h1_1nlc93 h1_2nc93 h1_2nlc93 (List.length h4c93) h1_3nlc93 h0_0c142 h0_1c142 h0_2c142 h2c93 h3c93 h4c93 (List.length h8c155) false h6_1c155 h6_2c155 h8c155) hc157) yz)))))))
            | r1 h6_1c157 h6_2c157 h8c157 =>
              dsimp only
              exact (ih (IntKind.wrap IntKind.i64 (s40k14 + (1 : Int))) false h6_1c157 h6_2c157 h8c157).trans (finL (ctx28 N) 1 Try.f28 14 n [.b true, .b true, .b true, .b false, .call (rf53v1 (List.length h0_0c141) false (List.getD h0_1 (0 + (Int.toNat s40k14)) (0 : Int)) h1_0c3 (List.length h2c3) h1_1nlc3 h1_2nc3 h1_2nlc3 (List.length h4c3) h1_3nlc3 h0_0c141 h0_1c141 h0_2c141 h2c3 h3c3 h4c3 (List.length h13k14) h12_0nlk14 h12_1k14 h12_2k14 h13k14 (some (.r1 h6_1c155 h6_2c155 h8c155))), .call (rf53v1 (List.length h0_0c142) false (List.getD h0_2 (0 + (Int.toNat s40k14)) (0 : Int)) h1_0c93 (List.length h2c93) h1_1nlc93 h1_2nc93 h1_2nlc93 (List.length h4c93) h1_3nlc93 h0_0c142 h0_1c142 h0_2c142 h2c93 h3c93 h4c93 (List.length h8c155) false h6_1c155 h6_2c155 h8c155 (some (.r1 h6_1c157 h6_2c157 h8c157)))] (by kernel_rfl) (ya (pT h150x) (ya (pT h151x) (ya (pT h152x) (ya (pNE h153x) (ya (ys (ef53v1 N (List.length h0_0c141) false (List.getD h0_1 (0 + (Int.toNat s40k14)) (0 : Int)) h1_0c3 (List.length h2c3) h1_1nlc3 h1_2nc3 h1_2nlc3 (List.length h4c3) h1_3nlc3 h0_0c141 h0_1c141 h0_2c141 h2c3 h3c3 h4c3 (List.length h13k14) h12_0nlk14 h12_1k14 h12_2k14 h13k14) hc155) (ya (ys (ef53v1 N (List.length h0_0c142) false (List.getD h0_2 (0 + (Int.toNat s40k14)) (0 : Int)) h1_0c93 (List.length h2c93) h1_1nlc93 h1_2nc93 h1_2nlc93 (List.length h4c93) h1_3nlc93 h0_0c142 h0_1c142 h0_2c142 h2c93 h3c93 h4c93 (List.length h8c155) false h6_1c155 h6_2c155 h8c155) hc157) yz)))))))
/-! 28, loop 14 -/
inductive Qlf28_14h where
  | e0 (h6_1 : Int) (h6_2 : Int) (h7 : List Int)
def slf28_14h (N : Nat) (a0n : Nat) (h0_0 : List Int) (h0_1 : List Int) (h0_2 : List Int) (h1_2nc3 : Nat) (h2c3 : List Int) (h3c3 : List Int) (h1_2nc93 : Nat) (h2c93 : List Int) (h3c93 : List Int) (h0_0c162 : List Int) (h0_1c162 : List Int) (h0_2c162 : List Int) (h0_0c163 : List Int) (h0_1c163 : List Int) (h0_2c163 : List Int) (n : Nat) (go : Int → Int → Int → List Int → Option Qlf28_14h) (s40k14 : Int) (h12_1k14 : Int) (h12_2k14 : Int) (h13k14 : List Int) : Option Qlf28_14h :=
 if (s40k14 < ((a0n : Nat) : Int)) then
  if (((0 : Int) ≤ s40k14) ∧ ((Int.toNat s40k14) < a0n)) then
   if ((0 + (Int.toNat s40k14)) < (List.length h0_0)) then
    if ((List.getD h0_1 (0 + (Int.toNat s40k14)) (0 : Int)) = (0 : Int)) then
     (match f15 N (List.getD h0_0 (0 + (Int.toNat s40k14)) (0 : Int)) (List.length h2c3) h1_2nc3 (List.length h13k14) h12_1k14 h12_2k14 h2c3 h3c3 h13k14 with
     | none => none
     | some (.r0 resc175 h1_1c175 h1_2c175) =>
      go (IntKind.wrap IntKind.i64 (s40k14 + (1 : Int))) h1_1c175 h1_2c175 h13k14
     | some (.r1 resc175 h1_1c175 h1_2c175 h6c175) =>
      go (IntKind.wrap IntKind.i64 (s40k14 + (1 : Int))) h1_1c175 h1_2c175 h6c175)
    else
     (match f53v1 N (List.length h0_0c162) (List.getD h0_1 (0 + (Int.toNat s40k14)) (0 : Int)) (List.length h2c3) h1_2nc3 h0_0c162 h0_1c162 h0_2c162 h2c3 h3c3 (List.length h13k14) h12_1k14 h12_2k14 h13k14 with
     | none => none
     | some (.r0 h6_1c176 h6_2c176) =>
      (match f53v1 N (List.length h0_0c163) (List.getD h0_2 (0 + (Int.toNat s40k14)) (0 : Int)) (List.length h2c93) h1_2nc93 h0_0c163 h0_1c163 h0_2c163 h2c93 h3c93 (List.length h13k14) h6_1c176 h6_2c176 h13k14 with
      | none => none
      | some (.r0 h6_1c177 h6_2c177) =>
       go (IntKind.wrap IntKind.i64 (s40k14 + (1 : Int))) h6_1c177 h6_2c177 h13k14
      | some (.r1 h6_1c177 h6_2c177 h8c177) =>
       go (IntKind.wrap IntKind.i64 (s40k14 + (1 : Int))) h6_1c177 h6_2c177 h8c177)
     | some (.r1 h6_1c176 h6_2c176 h8c176) =>
      (match f53v1 N (List.length h0_0c163) (List.getD h0_2 (0 + (Int.toNat s40k14)) (0 : Int)) (List.length h2c93) h1_2nc93 h0_0c163 h0_1c163 h0_2c163 h2c93 h3c93 (List.length h8c176) h6_1c176 h6_2c176 h8c176 with
      | none => none
      | some (.r0 h6_1c178 h6_2c178) =>
       go (IntKind.wrap IntKind.i64 (s40k14 + (1 : Int))) h6_1c178 h6_2c178 h8c176
      | some (.r1 h6_1c178 h6_2c178 h8c178) =>
       go (IntKind.wrap IntKind.i64 (s40k14 + (1 : Int))) h6_1c178 h6_2c178 h8c178))
   else
    none
  else
   none
 else
  some (.e0 h12_1k14 h12_2k14 h13k14)
def lf28_14h (N : Nat) (a0n : Nat) (h0_0 : List Int) (h0_1 : List Int) (h0_2 : List Int) (h1_2nc3 : Nat) (h2c3 : List Int) (h3c3 : List Int) (h1_2nc93 : Nat) (h2c93 : List Int) (h3c93 : List Int) (h0_0c162 : List Int) (h0_1c162 : List Int) (h0_2c162 : List Int) (h0_0c163 : List Int) (h0_1c163 : List Int) (h0_2c163 : List Int) : Nat → Int → Int → Int → List Int → Option Qlf28_14h
  | 0, _, _, _, _ => none
  | n + 1, s40k14, h12_1k14, h12_2k14, h13k14 => slf28_14h N a0n h0_0 h0_1 h0_2 h1_2nc3 h2c3 h3c3 h1_2nc93 h2c93 h3c93 h0_0c162 h0_1c162 h0_2c162 h0_0c163 h0_1c163 h0_2c163 n (lf28_14h N a0n h0_0 h0_1 h0_2 h1_2nc3 h2c3 h3c3 h1_2nc93 h2c93 h3c93 h0_0c162 h0_1c162 h0_2c162 h0_0c163 h0_1c163 h0_2c163 n) s40k14 h12_1k14 h12_2k14 h13k14
def qlf28_14h (a0n : Nat) (a0nl : Bool) (h0rw : Bool) (h0_0 : List Int) (h0_1 : List Int) (h0_2 : List Int) (h1_0c3 : List Int) (h1_1nlc3 : Bool) (h1_2nc3 : Nat) (h1_2nlc3 : Bool) (h1_3nlc3 : Bool) (h2c3 : List Int) (h3c3 : List Int) (h4c3 : List Int) (h1_0c93 : List Int) (h1_1nlc93 : Bool) (h1_2nc93 : Nat) (h1_2nlc93 : Bool) (h1_3nlc93 : Bool) (h2c93 : List Int) (h3c93 : List Int) (h4c93 : List Int) (h0_0c162 : List Int) (h0_1c162 : List Int) (h0_2c162 : List Int) (h0_0c163 : List Int) (h0_1c163 : List Int) (h0_2c163 : List Int) : Option Qlf28_14h → Out
  | none => none
  | some (.e0 h6_1 h6_2 h7) => some ((XT.exit 0), (St.mk [(4, (AV.ptr 1 0 0 1)), (7, (AV.ptr 2 0 0 1))] [(Blk.dyn h0rw 62 [(Col.ints IntKind.i64 h0_0), (Col.ints IntKind.i64 h0_1), (Col.ints IntKind.i64 h0_2)]), (Blk.segs true 70 [(Seg.run IntKind.i64 16 h1_0c3), (Seg.cell (AV.slice 3 0 0 (List.length h2c3) 1 h1_1nlc3 true)), (Seg.cell (AV.slice 4 0 0 h1_2nc3 1 h1_2nlc3 true)), (Seg.cell (AV.slice 5 0 0 (List.length h4c3) 1 h1_3nlc3 true))]), (Blk.segs true 27 [(Seg.cell (AV.ptr 6 0 0 1))]), (Blk.dyn true 3 [(Col.ints IntKind.i64 h2c3)]), (Blk.dyn true 3 [(Col.ints IntKind.i64 h3c3)]), (Blk.dyn true 3 [(Col.ints IntKind.i64 h4c3)]), (Blk.segs true 72 [(Seg.cell (AV.slice 7 0 0 (List.length h7) 1 false true)), (Seg.cell (AV.int IntKind.i64 h6_1)), (Seg.cell (AV.int IntKind.i64 h6_2))]), (Blk.dyn true 5 [(Col.ints IntKind.u8 h7)])]))
theorem elf28_14h (N : Nat) (a0n : Nat) (a0nl : Bool) (h0rw : Bool) (h0_0 : List Int) (h0_1 : List Int) (h0_2 : List Int) (h1_0c3 : List Int) (h1_1nlc3 : Bool) (h1_2nc3 : Nat) (h1_2nlc3 : Bool) (h1_3nlc3 : Bool) (h2c3 : List Int) (h3c3 : List Int) (h4c3 : List Int) (h1_0c93 : List Int) (h1_1nlc93 : Bool) (h1_2nc93 : Nat) (h1_2nlc93 : Bool) (h1_3nlc93 : Bool) (h2c93 : List Int) (h3c93 : List Int) (h4c93 : List Int) (h0_0c162 : List Int) (h0_1c162 : List Int) (h0_2c162 : List Int) (h0_0c163 : List Int) (h0_1c163 : List Int) (h0_2c163 : List Int) : ∀ (n : Nat) (s40k14 : Int) (h12_1k14 : Int) (h12_2k14 : Int) (h13k14 : List Int), qlf28_14h a0n a0nl h0rw h0_0 h0_1 h0_2 h1_0c3 h1_1nlc3 h1_2nc3 h1_2nlc3 h1_3nlc3 h2c3 h3c3 h4c3 h1_0c93 h1_1nlc93 h1_2nc93 h1_2nlc93 h1_3nlc93 h2c93 h3c93 h4c93 h0_0c162 h0_1c162 h0_2c162 h0_0c163 h0_1c163 h0_2c163 (lf28_14h N a0n h0_0 h0_1 h0_2 h1_2nc3 h2c3 h3c3 h1_2nc93 h2c93 h3c93 h0_0c162 h0_1c162 h0_2c162 h0_0c163 h0_1c163 h0_2c163 n s40k14 h12_1k14 h12_2k14 h13k14) = lp (ctx28 N) 1 Try.f28 14 n (St.mk [(4, (AV.ptr 1 0 0 1)), (6, (AV.ptr 2 0 0 1)), (7, (AV.ptr 3 0 0 1)), (8, (AV.func 53 ([] : List AV) [(AV.ptr 3 0 0 1)])), (9, (AV.slice 4 0 0 (List.length h0_0c162) 3 false true)), (10, (AV.slice 5 0 0 (List.length h0_0c163) 3 false true)), (38, (AV.slice 0 0 0 a0n 3 a0nl true)), (39, (AV.int IntKind.i64 ((a0n : Nat) : Int))), (40, (AV.int IntKind.i64 s40k14))] [(Blk.dyn h0rw 62 [(Col.ints IntKind.i64 h0_0), (Col.ints IntKind.i64 h0_1), (Col.ints IntKind.i64 h0_2)]), (Blk.segs true 70 [(Seg.run IntKind.i64 16 h1_0c3), (Seg.cell (AV.slice 6 0 0 (List.length h2c3) 1 h1_1nlc3 true)), (Seg.cell (AV.slice 7 0 0 h1_2nc3 1 h1_2nlc3 true)), (Seg.cell (AV.slice 8 0 0 (List.length h4c3) 1 h1_3nlc3 true))]), (Blk.segs true 70 [(Seg.run IntKind.i64 16 h1_0c93), (Seg.cell (AV.slice 9 0 0 (List.length h2c93) 1 h1_1nlc93 true)), (Seg.cell (AV.slice 10 0 0 h1_2nc93 1 h1_2nlc93 true)), (Seg.cell (AV.slice 11 0 0 (List.length h4c93) 1 h1_3nlc93 true))]), (Blk.segs true 27 [(Seg.cell (AV.ptr 12 0 0 1))]), (Blk.dyn true 89 [(Col.ints IntKind.i64 h0_0c162), (Col.ints IntKind.i64 h0_1c162), (Col.ints IntKind.i64 h0_2c162)]), (Blk.dyn true 89 [(Col.ints IntKind.i64 h0_0c163), (Col.ints IntKind.i64 h0_1c163), (Col.ints IntKind.i64 h0_2c163)]), (Blk.dyn true 3 [(Col.ints IntKind.i64 h2c3)]), (Blk.dyn true 3 [(Col.ints IntKind.i64 h3c3)]), (Blk.dyn true 3 [(Col.ints IntKind.i64 h4c3)]), (Blk.dyn true 3 [(Col.ints IntKind.i64 h2c93)]), (Blk.dyn true 3 [(Col.ints IntKind.i64 h3c93)]), (Blk.dyn true 3 [(Col.ints IntKind.i64 h4c93)]), (Blk.segs true 72 [(Seg.cell (AV.slice 13 0 0 (List.length h13k14) 1 false true)), (Seg.cell (AV.int IntKind.i64 h12_1k14)), (Seg.cell (AV.int IntKind.i64 h12_2k14))]), (Blk.dyn true 5 [(Col.ints IntKind.u8 h13k14)])]) := by
  intro n
  induction n with
  | zero => intros; kernel_rfl
  | succ n ih =>
    intro s40k14 h12_1k14 h12_2k14 h13k14
    rw [lf28_14h]
    unfold slf28_14h
    refine br (p := (s40k14 < ((a0n : Nat) : Int))) (fun h171x => ?_) (fun h171x => finL (ctx28 N) 1 Try.f28 14 n [.b false] (by kernel_rfl) (ya (pF h171x) yz))
    refine br (p := (((0 : Int) ≤ s40k14) ∧ ((Int.toNat s40k14) < a0n))) (fun h172x => ?_) (fun h172x => finL (ctx28 N) 1 Try.f28 14 n [.b true, .b false] (by kernel_rfl) (ya (pT h171x) (ya (pF h172x) yz)))
    refine br (p := ((0 + (Int.toNat s40k14)) < (List.length h0_0))) (fun h173x => ?_) (fun h173x => finL (ctx28 N) 1 Try.f28 14 n [.b true, .b true, .b false] (by kernel_rfl) (ya (pT h171x) (ya (pT h172x) (ya (pF h173x) yz))))
    refine br (p := ((List.getD h0_1 (0 + (Int.toNat s40k14)) (0 : Int)) = (0 : Int))) (fun h174x => ?_) (fun h174x => ?_)
    · skip
      cases hc175 : f15 N (List.getD h0_0 (0 + (Int.toNat s40k14)) (0 : Int)) (List.length h2c3) h1_2nc3 (List.length h13k14) h12_1k14 h12_2k14 h2c3 h3c3 h13k14 with
      | none => exact finL (ctx28 N) 1 Try.f28 14 n [.b true, .b true, .b true, .b true, .call (rf15 (List.getD h0_0 (0 + (Int.toNat s40k14)) (0 : Int)) h1_0c3 (List.length h2c3) h1_1nlc3 h1_2nc3 h1_2nlc3 (List.length h4c3) h1_3nlc3 (List.length h13k14) false h12_1k14 h12_2k14 h2c3 h3c3 h4c3 h13k14 none)] (by kernel_rfl) (ya (pT h171x) (ya (pT h172x) (ya (pT h173x) (ya (pE h174x) (ya (ys (ef15 N (List.getD h0_0 (0 + (Int.toNat s40k14)) (0 : Int)) h1_0c3 (List.length h2c3) h1_1nlc3 h1_2nc3 h1_2nlc3 (List.length h4c3) h1_3nlc3 (List.length h13k14) false h12_1k14 h12_2k14 h2c3 h3c3 h4c3 h13k14) hc175) yz)))))
      | some o =>
        cases o with
        | r0 resc175 h1_1c175 h1_2c175 =>
          dsimp only
          exact (ih (IntKind.wrap IntKind.i64 (s40k14 + (1 : Int))) h1_1c175 h1_2c175 h13k14).trans (finL (ctx28 N) 1 Try.f28 14 n [.b true, .b true, .b true, .b true, .call (rf15 (List.getD h0_0 (0 + (Int.toNat s40k14)) (0 : Int)) h1_0c3 (List.length h2c3) h1_1nlc3 h1_2nc3 h1_2nlc3 (List.length h4c3) h1_3nlc3 (List.length h13k14) false h12_1k14 h12_2k14 h2c3 h3c3 h4c3 h13k14 (some (.r0 resc175 h1_1c175 h1_2c175)))] (by kernel_rfl) (ya (pT h171x) (ya (pT h172x) (ya (pT h173x) (ya (pE h174x) (ya (ys (ef15 N (List.getD h0_0 (0 + (Int.toNat s40k14)) (0 : Int)) h1_0c3 (List.length h2c3) h1_1nlc3 h1_2nc3 h1_2nlc3 (List.length h4c3) h1_3nlc3 (List.length h13k14) false h12_1k14 h12_2k14 h2c3 h3c3 h4c3 h13k14) hc175) yz))))))
        | r1 resc175 h1_1c175 h1_2c175 h6c175 =>
          dsimp only
          exact (ih (IntKind.wrap IntKind.i64 (s40k14 + (1 : Int))) h1_1c175 h1_2c175 h6c175).trans (finL (ctx28 N) 1 Try.f28 14 n [.b true, .b true, .b true, .b true, .call (rf15 (List.getD h0_0 (0 + (Int.toNat s40k14)) (0 : Int)) h1_0c3 (List.length h2c3) h1_1nlc3 h1_2nc3 h1_2nlc3 (List.length h4c3) h1_3nlc3 (List.length h13k14) false h12_1k14 h12_2k14 h2c3 h3c3 h4c3 h13k14 (some (.r1 resc175 h1_1c175 h1_2c175 h6c175)))] (by kernel_rfl) (ya (pT h171x) (ya (pT h172x) (ya (pT h173x) (ya (pE h174x) (ya (ys (ef15 N (List.getD h0_0 (0 + (Int.toNat s40k14)) (0 : Int)) h1_0c3 (List.length h2c3) h1_1nlc3 h1_2nc3 h1_2nlc3 (List.length h4c3) h1_3nlc3 (List.length h13k14) false h12_1k14 h12_2k14 h2c3 h3c3 h4c3 h13k14) hc175) yz))))))
    · skip
      cases hc176 : f53v1 N (List.length h0_0c162) (List.getD h0_1 (0 + (Int.toNat s40k14)) (0 : Int)) (List.length h2c3) h1_2nc3 h0_0c162 h0_1c162 h0_2c162 h2c3 h3c3 (List.length h13k14) h12_1k14 h12_2k14 h13k14 with
      | none => exact finL (ctx28 N) 1 Try.f28 14 n [.b true, .b true, .b true, .b false, .call (rf53v1 (List.length h0_0c162) false (List.getD h0_1 (0 + (Int.toNat s40k14)) (0 : Int)) h1_0c3 (List.length h2c3) h1_1nlc3 h1_2nc3 h1_2nlc3 (List.length h4c3) h1_3nlc3 h0_0c162 h0_1c162 h0_2c162 h2c3 h3c3 h4c3 (List.length h13k14) false h12_1k14 h12_2k14 h13k14 none)] (by kernel_rfl) (ya (pT h171x) (ya (pT h172x) (ya (pT h173x) (ya (pNE h174x) (ya (ys (ef53v1 N (List.length h0_0c162) false (List.getD h0_1 (0 + (Int.toNat s40k14)) (0 : Int)) h1_0c3 (List.length h2c3) h1_1nlc3 h1_2nc3 h1_2nlc3 (List.length h4c3) h1_3nlc3 h0_0c162 h0_1c162 h0_2c162 h2c3 h3c3 h4c3 (List.length h13k14) false h12_1k14 h12_2k14 h13k14) hc176) yz)))))
      | some o =>
        cases o with
        | r0 h6_1c176 h6_2c176 =>
          dsimp only
          cases hc177 : f53v1 N (List.length h0_0c163) (List.getD h0_2 (0 + (Int.toNat s40k14)) (0 : Int)) (List.length h2c93) h1_2nc93 h0_0c163 h0_1c163 h0_2c163 h2c93 h3c93 (List.length h13k14) h6_1c176 h6_2c176 h13k14 with
          | none => exact finL (ctx28 N) 1 Try.f28 14 n [.b true, .b true, .b true, .b false, .call (rf53v1 (List.length h0_0c162) false (List.getD h0_1 (0 + (Int.toNat s40k14)) (0 : Int)) h1_0c3 (List.length h2c3) h1_1nlc3 h1_2nc3 h1_2nlc3 (List.length h4c3) h1_3nlc3 h0_0c162 h0_1c162 h0_2c162 h2c3 h3c3 h4c3 (List.length h13k14) false h12_1k14 h12_2k14 h13k14 (some (.r0 h6_1c176 h6_2c176))), .call (rf53v1 (List.length h0_0c163) false (List.getD h0_2 (0 + (Int.toNat s40k14)) (0 : Int)) h1_0c93 (List.length h2c93) h1_1nlc93 h1_2nc93 h1_2nlc93 (List.length h4c93) h1_3nlc93 h0_0c163 h0_1c163 h0_2c163 h2c93 h3c93 h4c93 (List.length h13k14) false h6_1c176 h6_2c176 h13k14 none)] (by kernel_rfl) (ya (pT h171x) (ya (pT h172x) (ya (pT h173x) (ya (pNE h174x) (ya (ys (ef53v1 N (List.length h0_0c162) false (List.getD h0_1 (0 + (Int.toNat s40k14)) (0 : Int)) h1_0c3 (List.length h2c3) h1_1nlc3 h1_2nc3 h1_2nlc3 (List.length h4c3) h1_3nlc3 h0_0c162 h0_1c162 h0_2c162 h2c3 h3c3 h4c3 (List.length h13k14) false h12_1k14 h12_2k14 h13k14) hc176) (ya (ys (ef53v1 N (List.length h0_0c163) false (List.getD h0_2 (0 + (Int.toNat s40k14)) (0 : Int)) h1_0c93 (List.length h2c93) h1_1nlc93 h1_2nc93 h1_2nlc93 (List.length h4c93) h1_3nlc93 h0_0c163 h0_1c163 h0_2c163 h2c93 h3c93 h4c93 (List.length h13k14) false h6_1c176 h6_2c176 h13k14) hc177) yz))))))
          | some o =>
            cases o with
            | r0 h6_1c177 h6_2c177 =>
              dsimp only
              exact (ih (IntKind.wrap IntKind.i64 (s40k14 + (1 : Int))) h6_1c177 h6_2c177 h13k14).trans (finL (ctx28 N) 1 Try.f28 14 n [.b true, .b true, .b true, .b false, .call (rf53v1 (List.length h0_0c162) false (List.getD h0_1 (0 + (Int.toNat s40k14)) (0 : Int)) h1_0c3 (List.length h2c3) h1_1nlc3 h1_2nc3 h1_2nlc3 (List.length h4c3) h1_3nlc3 h0_0c162 h0_1c162 h0_2c162 h2c3 h3c3 h4c3 (List.length h13k14) false h12_1k14 h12_2k14 h13k14 (some (.r0 h6_1c176 h6_2c176))), .call (rf53v1 (List.length h0_0c163) false (List.getD h0_2 (0 + (Int.toNat s40k14)) (0 : Int)) h1_0c93 (List.length h2c93) h1_1nlc93 h1_2nc93 h1_2nlc93 (List.length h4c93) h1_3nlc93 h0_0c163 h0_1c163 h0_2c163 h2c93 h3c93 h4c93 (List.length h13k14) false h6_1c176 h6_2c176 h13k14 (some (.r0 h6_1c177 h6_2c177)))] (by kernel_rfl) (ya (pT h171x) (ya (pT h172x) (ya (pT h173x) (ya (pNE h174x) (ya (ys (ef53v1 N (List.length h0_0c162) false (List.getD h0_1 (0 + (Int.toNat s40k14)) (0 : Int)) h1_0c3 (List.length h2c3) h1_1nlc3 h1_2nc3 h1_2nlc3 (List.length h4c3) h1_3nlc3 h0_0c162 h0_1c162 h0_2c162 h2c3 h3c3 h4c3 (List.length h13k14) false h12_1k14 h12_2k14 h13k14) hc176) (ya (ys (ef53v1 N (List.length h0_0c163) false (List.getD h0_2 (0 + (Int.toNat s40k14)) (0 : Int)) h1_0c93 (List.length h2c93) h1_1nlc93 h1_2nc93 h1_2nlc93 (List.length h4c93) h1_3nlc93 h0_0c163 h0_1c163 h0_2c163 h2c93 h3c93 h4c93 (List.length h13k14) false h6_1c176 h6_2c176 h13k14) hc177) yz)))))))
            | r1 h6_1c177 h6_2c177 h8c177 =>
              dsimp only
              exact (ih (IntKind.wrap IntKind.i64 (s40k14 + (1 : Int))) h6_1c177 h6_2c177 h8c177).trans (finL (ctx28 N) 1 Try.f28 14 n [.b true, .b true, .b true, .b false, .call (rf53v1 (List.length h0_0c162) false (List.getD h0_1 (0 + (Int.toNat s40k14)) (0 : Int)) h1_0c3 (List.length h2c3) h1_1nlc3 h1_2nc3 h1_2nlc3 (List.length h4c3) h1_3nlc3 h0_0c162 h0_1c162 h0_2c162 h2c3 h3c3 h4c3 (List.length h13k14) false h12_1k14 h12_2k14 h13k14 (some (.r0 h6_1c176 h6_2c176))), .call (rf53v1 (List.length h0_0c163) false (List.getD h0_2 (0 + (Int.toNat s40k14)) (0 : Int)) h1_0c93 (List.length h2c93) h1_1nlc93 h1_2nc93 h1_2nlc93 (List.length h4c93) h1_3nlc93 h0_0c163 h0_1c163 h0_2c163 h2c93 h3c93 h4c93 (List.length h13k14) false h6_1c176 h6_2c176 h13k14 (some (.r1 h6_1c177 h6_2c177 h8c177)))] (by kernel_rfl) (ya (pT h171x) (ya (pT h172x) (ya (pT h173x) (ya (pNE h174x) (ya (ys (ef53v1 N (List.length h0_0c162) false (List.getD h0_1 (0 + (Int.toNat s40k14)) (0 : Int)) h1_0c3 (List.length h2c3) h1_1nlc3 h1_2nc3 h1_2nlc3 (List.length h4c3) h1_3nlc3 h0_0c162 h0_1c162 h0_2c162 h2c3 h3c3 h4c3 (List.length h13k14) false h12_1k14 h12_2k14 h13k14) hc176) (ya (ys (ef53v1 N (List.length h0_0c163) false (List.getD h0_2 (0 + (Int.toNat s40k14)) (0 : Int)) h1_0c93 (List.length h2c93) h1_1nlc93 h1_2nc93 h1_2nlc93 (List.length h4c93) h1_3nlc93 h0_0c163 h0_1c163 h0_2c163 h2c93 h3c93 h4c93 (List.length h13k14) false h6_1c176 h6_2c176 h13k14) hc177) yz)))))))
        | r1 h6_1c176 h6_2c176 h8c176 =>
          dsimp only
          cases hc178 : f53v1 N (List.length h0_0c163) (List.getD h0_2 (0 + (Int.toNat s40k14)) (0 : Int)) (List.length h2c93) h1_2nc93 h0_0c163 h0_1c163 h0_2c163 h2c93 h3c93 (List.length h8c176) h6_1c176 h6_2c176 h8c176 with
          | none => exact finL (ctx28 N) 1 Try.f28 14 n [.b true, .b true, .b true, .b false, .call (rf53v1 (List.length h0_0c162) false (List.getD h0_1 (0 + (Int.toNat s40k14)) (0 : Int)) h1_0c3 (List.length h2c3) h1_1nlc3 h1_2nc3 h1_2nlc3 (List.length h4c3) h1_3nlc3 h0_0c162 h0_1c162 h0_2c162 h2c3 h3c3 h4c3 (List.length h13k14) false h12_1k14 h12_2k14 h13k14 (some (.r1 h6_1c176 h6_2c176 h8c176))), .call (rf53v1 (List.length h0_0c163) false (List.getD h0_2 (0 + (Int.toNat s40k14)) (0 : Int)) h1_0c93 (List.length h2c93) h1_1nlc93 h1_2nc93 h1_2nlc93 (List.length h4c93) h1_3nlc93 h0_0c163 h0_1c163 h0_2c163 h2c93 h3c93 h4c93 (List.length h8c176) false h6_1c176 h6_2c176 h8c176 none)] (by kernel_rfl) (ya (pT h171x) (ya (pT h172x) (ya (pT h173x) (ya (pNE h174x) (ya (ys (ef53v1 N (List.length h0_0c162) false (List.getD h0_1 (0 + (Int.toNat s40k14)) (0 : Int)) h1_0c3 (List.length h2c3) h1_1nlc3 h1_2nc3 h1_2nlc3 (List.length h4c3) h1_3nlc3 h0_0c162 h0_1c162 h0_2c162 h2c3 h3c3 h4c3 (List.length h13k14) false h12_1k14 h12_2k14 h13k14) hc176) (ya (ys (ef53v1 N (List.length h0_0c163) false (List.getD h0_2 (0 + (Int.toNat s40k14)) (0 : Int)) h1_0c93 (List.length h2c93) h1_1nlc93 h1_2nc93 h1_2nlc93 (List.length h4c93) h1_3nlc93 h0_0c163 h0_1c163 h0_2c163 h2c93 h3c93 h4c93 (List.length h8c176) false h6_1c176 h6_2c176 h8c176) hc178) yz))))))
          | some o =>
            cases o with
            | r0 h6_1c178 h6_2c178 =>
              dsimp only
              exact (ih (IntKind.wrap IntKind.i64 (s40k14 + (1 : Int))) h6_1c178 h6_2c178 h8c176).trans (finL (ctx28 N) 1 Try.f28 14 n [.b true, .b true, .b true, .b false, .call (rf53v1 (List.length h0_0c162) false (List.getD h0_1 (0 + (Int.toNat s40k14)) (0 : Int)) h1_0c3 (List.length h2c3) h1_1nlc3 h1_2nc3 h1_2nlc3 (List.length h4c3) h1_3nlc3 h0_0c162 h0_1c162 h0_2c162 h2c3 h3c3 h4c3 (List.length h13k14) false h12_1k14 h12_2k14 h13k14 (some (.r1 h6_1c176 h6_2c176 h8c176))), .call (rf53v1 (List.length h0_0c163) false (List.getD h0_2 (0 + (Int.toNat s40k14)) (0 : Int)) h1_0c93 (List.length h2c93) h1_1nlc93 h1_2nc93 h1_2nlc93 (List.length h4c93) h1_3nlc93 h0_0c163 h0_1c163 h0_2c163 h2c93 h3c93 h4c93 (List.length h8c176) false h6_1c176 h6_2c176 h8c176 (some (.r0 h6_1c178 h6_2c178)))] (by kernel_rfl) (ya (pT h171x) (ya (pT h172x) (ya (pT h173x) (ya (pNE h174x) (ya (ys (ef53v1 N (List.length h0_0c162) false (List.getD h0_1 (0 + (Int.toNat s40k14)) (0 : Int)) h1_0c3 (List.length h2c3) h1_1nlc3 h1_2nc3 h1_2nlc3 (List.length h4c3) h1_3nlc3 h0_0c162 h0_1c162 h0_2c162 h2c3 h3c3 h4c3 (List.length h13k14) false h12_1k14 h12_2k14 h13k14) hc176) (ya (ys (ef53v1 N (List.length h0_0c163) false (List.getD h0_2 (0 + (Int.toNat s40k14)) (0 : Int)) h1_0c93 (List.length h2c93) h1_1nlc93 h1_2nc93 h1_2nlc93 (List.length h4c93) h1_3nlc93 h0_0c163 h0_1c163 h0_2c163 h2c93 h3c93 h4c93 (List.length h8c176) false h6_1c176 h6_2c176 h8c176) hc178) yz)))))))
            | r1 h6_1c178 h6_2c178 h8c178 =>
              dsimp only
              exact (ih (IntKind.wrap IntKind.i64 (s40k14 + (1 : Int))) h6_1c178 h6_2c178 h8c178).trans (finL (ctx28 N) 1 Try.f28 14 n [.b true, .b true, .b true, .b false, .call (rf53v1 (List.length h0_0c162) false (List.getD h0_1 (0 + (Int.toNat s40k14)) (0 : Int)) h1_0c3 (List.length h2c3) h1_1nlc3 h1_2nc3 h1_2nlc3 (List.length h4c3) h1_3nlc3 h0_0c162 h0_1c162 h0_2c162 h2c3 h3c3 h4c3 (List.length h13k14) false h12_1k14 h12_2k14 h13k14 (some (.r1 h6_1c176 h6_2c176 h8c176))), .call (rf53v1 (List.length h0_0c163) false (List.getD h0_2 (0 + (Int.toNat s40k14)) (0 : Int)) h1_0c93 (List.length h2c93) h1_1nlc93 h1_2nc93 h1_2nlc93 (List.length h4c93) h1_3nlc93 h0_0c163 h0_1c163 h0_2c163 h2c93 h3c93 h4c93 (List.length h8c176) false h6_1c176 h6_2c176 h8c176 (some (.r1 h6_1c178 h6_2c178 h8c178)))] (by kernel_rfl) (ya (pT h171x) (ya (pT h172x) (ya (pT h173x) (ya (pNE h174x) (ya (ys (ef53v1 N (List.length h0_0c162) false (List.getD h0_1 (0 + (Int.toNat s40k14)) (0 : Int)) h1_0c3 (List.length h2c3) h1_1nlc3 h1_2nc3 h1_2nlc3 (List.length h4c3) h1_3nlc3 h0_0c162 h0_1c162 h0_2c162 h2c3 h3c3 h4c3 (List.length h13k14) false h12_1k14 h12_2k14 h13k14) hc176) (ya (ys (ef53v1 N (List.length h0_0c163) false (List.getD h0_2 (0 + (Int.toNat s40k14)) (0 : Int)) h1_0c93 (List.length h2c93) h1_1nlc93 h1_2nc93 h1_2nlc93 (List.length h4c93) h1_3nlc93 h0_0c163 h0_1c163 h0_2c163 h2c93 h3c93 h4c93 (List.length h8c176) false h6_1c176 h6_2c176 h8c176) hc178) yz)))))))
/-! 28 -/
inductive Rf28 where
  | r0 (res_0nl : Bool) (res_1 : Int) (h1 : List Int)
def f28 (N : Nat) (a0n : Nat) (h0_0 : List Int) (h0_1 : List Int) (h0_2 : List Int) : Option Rf28 :=
 (match f49 N a0n h0_0 h0_1 h0_2 with
 | none => none
 | some (.r0 resc0) =>
  if (resc0 = true) then
   some (.r0 true (1 : Int) ([] : List Int))
  else
  (match f38 N with
  | none => none
  | some (.r0 h0c2) =>
   (match f11 N 288 false h0c2 with
   | none => none
   | some (.r0 res_1c3) =>
    if (res_1c3 = (0 : Int)) then
     (match f52 N 1 (32 : Int) [(5 : Int)] with
     | none => none
     | some (.r0 h1c5) =>
      (match f11 N 32 false h1c5 with
      | none => none
      | some (.r0 res_1c6) =>
       if (res_1c6 = (0 : Int)) then
        (match f12 N with
        | none => none
        | some .r0 =>
         (match f41 N (3 : Int) (3 : Int) 0 (0 : Int) (0 : Int) ([] : List Int) with
         | none => none
         | some (.r0 resc9 h0_1c9 h0_2c9) =>
          (match f54 N with
          | none => none
          | some (.r0 h0_0c10 h0_1c10 h0_2c10) =>
           (match f55 N with
           | none => none
           | some (.r0 h0_0c11 h0_1c11 h0_2c11) =>
            (match lf28_14 N a0n h0_0 h0_1 h0_2 h0_0c10 h0_1c10 h0_2c10 h0_0c11 h0_1c11 h0_2c11 N (0 : Int) true h0_1c9 h0_2c9 ([] : List Int) with
            | none => none
            | some (.e0 h2_0nll27 h2_1l27 h2_2l27 h3l27) =>
             (match f15v1 N with
             | none => none
             | some .r0 =>
              (match f16 N (List.length h3l27) h2_0nll27 h2_1l27 h2_2l27 h3l27 with
              | none => none
              | some (.r0 resnlc29 h2c29) =>
               some (.r0 resnlc29 (0 : Int) h2c29))))))
         | some (.r1 h0_1c9 h0_2c9 h2c9) =>
          (match f54 N with
          | none => none
          | some (.r0 h0_0c30 h0_1c30 h0_2c30) =>
           (match f55 N with
           | none => none
           | some (.r0 h0_0c31 h0_1c31 h0_2c31) =>
            (match lf28_14b N a0n h0_0 h0_1 h0_2 h0_0c30 h0_1c30 h0_2c30 h0_0c31 h0_1c31 h0_2c31 N (0 : Int) h0_1c9 h0_2c9 h2c9 with
            | none => none
            | some (.e0 h2_1l47 h2_2l47 h3l47) =>
             (match f15v1 N with
             | none => none
             | some .r0 =>
              (match f16 N (List.length h3l47) false h2_1l47 h2_2l47 h3l47 with
              | none => none
              | some (.r0 resnlc49 h2c49) =>
               some (.r0 resnlc49 (0 : Int) h2c49))))))))
       else
        some (.r0 true res_1c6 ([] : List Int))
      | some (.r1 h1_0c6 h1_1nlc6 h1_2nc6 h1_2nlc6 h1_3nlc6 h2c6 h3c6 h4c6) =>
       (match f12 N with
       | none => none
       | some .r0 =>
        (match f41 N (3 : Int) (3 : Int) 0 (0 : Int) (0 : Int) ([] : List Int) with
        | none => none
        | some (.r0 resc51 h0_1c51 h0_2c51) =>
         (match f54 N with
         | none => none
         | some (.r0 h0_0c52 h0_1c52 h0_2c52) =>
          (match f55 N with
          | none => none
          | some (.r0 h0_0c53 h0_1c53 h0_2c53) =>
           (match lf28_14c N a0n h0_0 h0_1 h0_2 h1_2nc6 h2c6 h3c6 h0_0c52 h0_1c52 h0_2c52 h0_0c53 h0_1c53 h0_2c53 N (0 : Int) true h0_1c51 h0_2c51 ([] : List Int) with
           | none => none
           | some (.e0 h2_0nll69 h2_1l69 h2_2l69 h3l69) =>
            (match f15v1 N with
            | none => none
            | some .r0 =>
             (match f16 N (List.length h3l69) h2_0nll69 h2_1l69 h2_2l69 h3l69 with
             | none => none
             | some (.r0 resnlc71 h2c71) =>
              some (.r0 resnlc71 (0 : Int) h2c71))))))
        | some (.r1 h0_1c51 h0_2c51 h2c51) =>
         (match f54 N with
         | none => none
         | some (.r0 h0_0c72 h0_1c72 h0_2c72) =>
          (match f55 N with
          | none => none
          | some (.r0 h0_0c73 h0_1c73 h0_2c73) =>
           (match lf28_14d N a0n h0_0 h0_1 h0_2 h1_2nc6 h2c6 h3c6 h0_0c72 h0_1c72 h0_2c72 h0_0c73 h0_1c73 h0_2c73 N (0 : Int) h0_1c51 h0_2c51 h2c51 with
           | none => none
           | some (.e0 h2_1l89 h2_2l89 h3l89) =>
            (match f15v1 N with
            | none => none
            | some .r0 =>
             (match f16 N (List.length h3l89) false h2_1l89 h2_2l89 h3l89 with
             | none => none
             | some (.r0 resnlc91 h2c91) =>
              some (.r0 resnlc91 (0 : Int) h2c91))))))))))
    else
     some (.r0 true res_1c3 ([] : List Int))
   | some (.r1 h1_0c3 h1_1nlc3 h1_2nc3 h1_2nlc3 h1_3nlc3 h2c3 h3c3 h4c3) =>
    (match f52 N 1 (32 : Int) [(5 : Int)] with
    | none => none
    | some (.r0 h1c92) =>
     (match f11 N 32 false h1c92 with
     | none => none
     | some (.r0 res_1c93) =>
      if (res_1c93 = (0 : Int)) then
       (match f12 N with
       | none => none
       | some .r0 =>
        (match f41 N (3 : Int) (3 : Int) 0 (0 : Int) (0 : Int) ([] : List Int) with
        | none => none
        | some (.r0 resc96 h0_1c96 h0_2c96) =>
         (match f54 N with
         | none => none
         | some (.r0 h0_0c97 h0_1c97 h0_2c97) =>
          (match f55 N with
          | none => none
          | some (.r0 h0_0c98 h0_1c98 h0_2c98) =>
           (match lf28_14e N a0n h0_0 h0_1 h0_2 h1_2nc3 h2c3 h3c3 h0_0c97 h0_1c97 h0_2c97 h0_0c98 h0_1c98 h0_2c98 N (0 : Int) true h0_1c96 h0_2c96 ([] : List Int) with
           | none => none
           | some (.e0 h6_0nll114 h6_1l114 h6_2l114 h7l114) =>
            (match f15 N (256 : Int) (List.length h2c3) h1_2nc3 (List.length h7l114) h6_1l114 h6_2l114 h2c3 h3c3 h7l114 with
            | none => none
            | some (.r0 resc115 h1_1c115 h1_2c115) =>
             (match f16 N (List.length h7l114) h6_0nll114 h1_1c115 h1_2c115 h7l114 with
             | none => none
             | some (.r0 resnlc116 h2c116) =>
              some (.r0 resnlc116 (0 : Int) h2c116))
            | some (.r1 resc115 h1_1c115 h1_2c115 h6c115) =>
             (match f16 N (List.length h6c115) false h1_1c115 h1_2c115 h6c115 with
             | none => none
             | some (.r0 resnlc117 h2c117) =>
              some (.r0 resnlc117 (0 : Int) h2c117))))))
        | some (.r1 h0_1c96 h0_2c96 h2c96) =>
         (match f54 N with
         | none => none
         | some (.r0 h0_0c118 h0_1c118 h0_2c118) =>
          (match f55 N with
          | none => none
          | some (.r0 h0_0c119 h0_1c119 h0_2c119) =>
           (match lf28_14f N a0n h0_0 h0_1 h0_2 h1_2nc3 h2c3 h3c3 h0_0c118 h0_1c118 h0_2c118 h0_0c119 h0_1c119 h0_2c119 N (0 : Int) h0_1c96 h0_2c96 h2c96 with
           | none => none
           | some (.e0 h6_1l135 h6_2l135 h7l135) =>
            (match f15 N (256 : Int) (List.length h2c3) h1_2nc3 (List.length h7l135) h6_1l135 h6_2l135 h2c3 h3c3 h7l135 with
            | none => none
            | some (.r0 resc136 h1_1c136 h1_2c136) =>
             (match f16 N (List.length h7l135) false h1_1c136 h1_2c136 h7l135 with
             | none => none
             | some (.r0 resnlc137 h2c137) =>
              some (.r0 resnlc137 (0 : Int) h2c137))
            | some (.r1 resc136 h1_1c136 h1_2c136 h6c136) =>
             (match f16 N (List.length h6c136) false h1_1c136 h1_2c136 h6c136 with
             | none => none
             | some (.r0 resnlc138 h2c138) =>
              some (.r0 resnlc138 (0 : Int) h2c138))))))))
      else
       some (.r0 true res_1c93 ([] : List Int))
     | some (.r1 h1_0c93 h1_1nlc93 h1_2nc93 h1_2nlc93 h1_3nlc93 h2c93 h3c93 h4c93) =>
      (match f12 N with
      | none => none
      | some .r0 =>
       (match f41 N (3 : Int) (3 : Int) 0 (0 : Int) (0 : Int) ([] : List Int) with
       | none => none
       | some (.r0 resc140 h0_1c140 h0_2c140) =>
        (match f54 N with
        | none => none
        | some (.r0 h0_0c141 h0_1c141 h0_2c141) =>
         (match f55 N with
         | none => none
         | some (.r0 h0_0c142 h0_1c142 h0_2c142) =>
          (match lf28_14g N a0n h0_0 h0_1 h0_2 h1_2nc3 h2c3 h3c3 h1_2nc93 h2c93 h3c93 h0_0c141 h0_1c141 h0_2c141 h0_0c142 h0_1c142 h0_2c142 N (0 : Int) true h0_1c140 h0_2c140 ([] : List Int) with
          | none => none
          | some (.e0 h6_0nll158 h6_1l158 h6_2l158 h7l158) =>
           (match f15 N (256 : Int) (List.length h2c3) h1_2nc3 (List.length h7l158) h6_1l158 h6_2l158 h2c3 h3c3 h7l158 with
           | none => none
           | some (.r0 resc159 h1_1c159 h1_2c159) =>
            (match f16 N (List.length h7l158) h6_0nll158 h1_1c159 h1_2c159 h7l158 with
            | none => none
            | some (.r0 resnlc160 h2c160) =>
             some (.r0 resnlc160 (0 : Int) h2c160))
           | some (.r1 resc159 h1_1c159 h1_2c159 h6c159) =>
            (match f16 N (List.length h6c159) false h1_1c159 h1_2c159 h6c159 with
            | none => none
            | some (.r0 resnlc161 h2c161) =>
             some (.r0 resnlc161 (0 : Int) h2c161))))))
       | some (.r1 h0_1c140 h0_2c140 h2c140) =>
        (match f54 N with
        | none => none
        | some (.r0 h0_0c162 h0_1c162 h0_2c162) =>
         (match f55 N with
         | none => none
         | some (.r0 h0_0c163 h0_1c163 h0_2c163) =>
          (match lf28_14h N a0n h0_0 h0_1 h0_2 h1_2nc3 h2c3 h3c3 h1_2nc93 h2c93 h3c93 h0_0c162 h0_1c162 h0_2c162 h0_0c163 h0_1c163 h0_2c163 N (0 : Int) h0_1c140 h0_2c140 h2c140 with
          | none => none
          | some (.e0 h6_1l179 h6_2l179 h7l179) =>
           (match f15 N (256 : Int) (List.length h2c3) h1_2nc3 (List.length h7l179) h6_1l179 h6_2l179 h2c3 h3c3 h7l179 with
           | none => none
           | some (.r0 resc180 h1_1c180 h1_2c180) =>
            (match f16 N (List.length h7l179) false h1_1c180 h1_2c180 h7l179 with
            | none => none
            | some (.r0 resnlc181 h2c181) =>
             some (.r0 resnlc181 (0 : Int) h2c181))
           | some (.r1 resc180 h1_1c180 h1_2c180 h6c180) =>
            (match f16 N (List.length h6c180) false h1_1c180 h1_2c180 h6c180 with
            | none => none
            | some (.r0 resnlc182 h2c182) =>
             some (.r0 resnlc182 (0 : Int) h2c182)))))))))))))
def rf28 (a0n : Nat) (a0nl : Bool) (h0rw : Bool) (h0_0 : List Int) (h0_1 : List Int) (h0_2 : List Int) : Option Rf28 → Option (AV × Heap)
  | none => none
  | some (.r0 res_0nl res_1 h1) => some ((AV.tuple [(AV.slice 1 0 0 (List.length h1) 1 res_0nl true), (AV.int IntKind.i64 res_1)]), [(Blk.dyn h0rw 62 [(Col.ints IntKind.i64 h0_0), (Col.ints IntKind.i64 h0_1), (Col.ints IntKind.i64 h0_2)]), (Blk.dyn true 5 [(Col.ints IntKind.u8 h1)])])
theorem ef28 (N : Nat) (a0n : Nat) (a0nl : Bool) (h0rw : Bool) (h0_0 : List Int) (h0_1 : List Int) (h0_2 : List Int) : rf28 a0n a0nl h0rw h0_0 h0_1 h0_2 (f28 N a0n h0_0 h0_1 h0_2) = sem28 N [(AV.slice 0 0 0 a0n 3 a0nl true)] [(Blk.dyn h0rw 62 [(Col.ints IntKind.i64 h0_0), (Col.ints IntKind.i64 h0_1), (Col.ints IntKind.i64 h0_2)])] := by
  unfold f28
  cases hc0 : f49 N a0n h0_0 h0_1 h0_2 with
  | none => exact finF (ctx28 N) Try.f28 [.call (rf49 a0n a0nl h0rw h0_0 h0_1 h0_2 none)] (by kernel_rfl) (ya (ys (ef49 N a0n a0nl h0rw h0_0 h0_1 h0_2) hc0) yz)
  | some o =>
    cases o with
    | r0 resc0 =>
      dsimp only
      refine br (p := (resc0 = true)) (fun h1x => finF (ctx28 N) Try.f28 [.call (rf49 a0n a0nl h0rw h0_0 h0_1 h0_2 (some (.r0 resc0))), .b true] (by kernel_rfl) (ya (ys (ef49 N a0n a0nl h0rw h0_0 h0_1 h0_2) hc0) (ya h1x yz))) (fun h1x => ?_)
      cases hc2 : f38 N with
      | none => exact finF (ctx28 N) Try.f28 [.call (rf49 a0n a0nl h0rw h0_0 h0_1 h0_2 (some (.r0 resc0))), .b false, .call (rf38 none)] (by kernel_rfl) (ya (ys (ef49 N a0n a0nl h0rw h0_0 h0_1 h0_2) hc0) (ya (pNB h1x) (ya (ys (ef38 N) hc2) yz)))
      | some o =>
        cases o with
        | r0 h0c2 =>
          dsimp only
          cases hc3 : f11 N 288 false h0c2 with
          | none => exact finF (ctx28 N) Try.f28 [.call (rf49 a0n a0nl h0rw h0_0 h0_1 h0_2 (some (.r0 resc0))), .b false, .call (rf38 (some (.r0 h0c2))), .call (rf11 288 false true h0c2 none)] (by kernel_rfl) (ya (ys (ef49 N a0n a0nl h0rw h0_0 h0_1 h0_2) hc0) (ya (pNB h1x) (ya (ys (ef38 N) hc2) (ya (ys (ef11 N 288 false true h0c2) hc3) yz))))
          | some o =>
            cases o with
            | r0 res_1c3 =>
              dsimp only
              refine br (p := (res_1c3 = (0 : Int))) (fun h4x => ?_) (fun h4x => finF (ctx28 N) Try.f28 [.call (rf49 a0n a0nl h0rw h0_0 h0_1 h0_2 (some (.r0 resc0))), .b false, .call (rf38 (some (.r0 h0c2))), .call (rf11 288 false true h0c2 (some (.r0 res_1c3))), .b true] (by kernel_rfl) (ya (ys (ef49 N a0n a0nl h0rw h0_0 h0_1 h0_2) hc0) (ya (pNB h1x) (ya (ys (ef38 N) hc2) (ya (ys (ef11 N 288 false true h0c2) hc3) (ya (pNX h4x) yz))))))
              cases hc5 : f52 N 1 (32 : Int) [(5 : Int)] with
              | none => exact finF (ctx28 N) Try.f28 [.call (rf49 a0n a0nl h0rw h0_0 h0_1 h0_2 (some (.r0 resc0))), .b false, .call (rf38 (some (.r0 h0c2))), .call (rf11 288 false true h0c2 (some (.r0 res_1c3))), .b false, .call (rf52 1 false (32 : Int) true [(5 : Int)] none)] (by kernel_rfl) (ya (ys (ef49 N a0n a0nl h0rw h0_0 h0_1 h0_2) hc0) (ya (pNB h1x) (ya (ys (ef38 N) hc2) (ya (ys (ef11 N 288 false true h0c2) hc3) (ya (pX h4x) (ya (ys (ef52 N 1 false (32 : Int) true [(5 : Int)]) hc5) yz))))))
              | some o =>
                cases o with
                | r0 h1c5 =>
                  dsimp only
                  cases hc6 : f11 N 32 false h1c5 with
                  | none => exact finF (ctx28 N) Try.f28 [.call (rf49 a0n a0nl h0rw h0_0 h0_1 h0_2 (some (.r0 resc0))), .b false, .call (rf38 (some (.r0 h0c2))), .call (rf11 288 false true h0c2 (some (.r0 res_1c3))), .b false, .call (rf52 1 false (32 : Int) true [(5 : Int)] (some (.r0 h1c5))), .call (rf11 32 false true h1c5 none)] (by kernel_rfl) (ya (ys (ef49 N a0n a0nl h0rw h0_0 h0_1 h0_2) hc0) (ya (pNB h1x) (ya (ys (ef38 N) hc2) (ya (ys (ef11 N 288 false true h0c2) hc3) (ya (pX h4x) (ya (ys (ef52 N 1 false (32 : Int) true [(5 : Int)]) hc5) (ya (ys (ef11 N 32 false true h1c5) hc6) yz)))))))
                  | some o =>
                    cases o with
                    | r0 res_1c6 =>
                      dsimp only
                      refine br (p := (res_1c6 = (0 : Int))) (fun h7x => ?_) (fun h7x => finF (ctx28 N) Try.f28 [.call (rf49 a0n a0nl h0rw h0_0 h0_1 h0_2 (some (.r0 resc0))), .b false, .call (rf38 (some (.r0 h0c2))), .call (rf11 288 false true h0c2 (some (.r0 res_1c3))), .b false, .call (rf52 1 false (32 : Int) true [(5 : Int)] (some (.r0 h1c5))), .call (rf11 32 false true h1c5 (some (.r0 res_1c6))), .b true] (by kernel_rfl) (ya (ys (ef49 N a0n a0nl h0rw h0_0 h0_1 h0_2) hc0) (ya (pNB h1x) (ya (ys (ef38 N) hc2) (ya (ys (ef11 N 288 false true h0c2) hc3) (ya (pX h4x) (ya (ys (ef52 N 1 false (32 : Int) true [(5 : Int)]) hc5) (ya (ys (ef11 N 32 false true h1c5) hc6) (ya (pNX h7x) yz)))))))))
                      cases hc8 : f12 N with
                      | none => exact finF (ctx28 N) Try.f28 [.call (rf49 a0n a0nl h0rw h0_0 h0_1 h0_2 (some (.r0 resc0))), .b false, .call (rf38 (some (.r0 h0c2))), .call (rf11 288 false true h0c2 (some (.r0 res_1c3))), .b false, .call (rf52 1 false (32 : Int) true [(5 : Int)] (some (.r0 h1c5))), .call (rf11 32 false true h1c5 (some (.r0 res_1c6))), .b false, .call (rf12 none)] (by kernel_rfl) (ya (ys (ef49 N a0n a0nl h0rw h0_0 h0_1 h0_2) hc0) (ya (pNB h1x) (ya (ys (ef38 N) hc2) (ya (ys (ef11 N 288 false true h0c2) hc3) (ya (pX h4x) (ya (ys (ef52 N 1 false (32 : Int) true [(5 : Int)]) hc5) (ya (ys (ef11 N 32 false true h1c5) hc6) (ya (pX h7x) (ya (ys (ef12 N) hc8) yz)))))))))
                      | some o =>
                        cases o with
                        | r0 =>
                          dsimp only
                          cases hc9 : f41 N (3 : Int) (3 : Int) 0 (0 : Int) (0 : Int) ([] : List Int) with
                          | none => exact finF (ctx28 N) Try.f28 [.call (rf49 a0n a0nl h0rw h0_0 h0_1 h0_2 (some (.r0 resc0))), .b false, .call (rf38 (some (.r0 h0c2))), .call (rf11 288 false true h0c2 (some (.r0 res_1c3))), .b false, .call (rf52 1 false (32 : Int) true [(5 : Int)] (some (.r0 h1c5))), .call (rf11 32 false true h1c5 (some (.r0 res_1c6))), .b false, .call (rf12 (some .r0)), .call (rf41 (3 : Int) (3 : Int) 0 true (0 : Int) (0 : Int) ([] : List Int) none)] (by kernel_rfl) (ya (ys (ef49 N a0n a0nl h0rw h0_0 h0_1 h0_2) hc0) (ya (pNB h1x) (ya (ys (ef38 N) hc2) (ya (ys (ef11 N 288 false true h0c2) hc3) (ya (pX h4x) (ya (ys (ef52 N 1 false (32 : Int) true [(5 : Int)]) hc5) (ya (ys (ef11 N 32 false true h1c5) hc6) (ya (pX h7x) (ya (ys (ef12 N) hc8) (ya (ys (ef41 N (3 : Int) (3 : Int) 0 true (0 : Int) (0 : Int) ([] : List Int)) hc9) yz))))))))))
                          | some o =>
                            cases o with
                            | r0 resc9 h0_1c9 h0_2c9 =>
                              dsimp only
                              cases hc10 : f54 N with
                              | none => exact finF (ctx28 N) Try.f28 [.call (rf49 a0n a0nl h0rw h0_0 h0_1 h0_2 (some (.r0 resc0))), .b false, .call (rf38 (some (.r0 h0c2))), .call (rf11 288 false true h0c2 (some (.r0 res_1c3))), .b false, .call (rf52 1 false (32 : Int) true [(5 : Int)] (some (.r0 h1c5))), .call (rf11 32 false true h1c5 (some (.r0 res_1c6))), .b false, .call (rf12 (some .r0)), .call (rf41 (3 : Int) (3 : Int) 0 true (0 : Int) (0 : Int) ([] : List Int) (some (.r0 resc9 h0_1c9 h0_2c9))), .call (rf54 none)] (by kernel_rfl) (ya (ys (ef49 N a0n a0nl h0rw h0_0 h0_1 h0_2) hc0) (ya (pNB h1x) (ya (ys (ef38 N) hc2) (ya (ys (ef11 N 288 false true h0c2) hc3) (ya (pX h4x) (ya (ys (ef52 N 1 false (32 : Int) true [(5 : Int)]) hc5) (ya (ys (ef11 N 32 false true h1c5) hc6) (ya (pX h7x) (ya (ys (ef12 N) hc8) (ya (ys (ef41 N (3 : Int) (3 : Int) 0 true (0 : Int) (0 : Int) ([] : List Int)) hc9) (ya (ys (ef54 N) hc10) yz)))))))))))
                              | some o =>
                                cases o with
                                | r0 h0_0c10 h0_1c10 h0_2c10 =>
                                  dsimp only
                                  cases hc11 : f55 N with
                                  | none => exact finF (ctx28 N) Try.f28 [.call (rf49 a0n a0nl h0rw h0_0 h0_1 h0_2 (some (.r0 resc0))), .b false, .call (rf38 (some (.r0 h0c2))), .call (rf11 288 false true h0c2 (some (.r0 res_1c3))), .b false, .call (rf52 1 false (32 : Int) true [(5 : Int)] (some (.r0 h1c5))), .call (rf11 32 false true h1c5 (some (.r0 res_1c6))), .b false, .call (rf12 (some .r0)), .call (rf41 (3 : Int) (3 : Int) 0 true (0 : Int) (0 : Int) ([] : List Int) (some (.r0 resc9 h0_1c9 h0_2c9))), .call (rf54 (some (.r0 h0_0c10 h0_1c10 h0_2c10))), .call (rf55 none)] (by kernel_rfl) (ya (ys (ef49 N a0n a0nl h0rw h0_0 h0_1 h0_2) hc0) (ya (pNB h1x) (ya (ys (ef38 N) hc2) (ya (ys (ef11 N 288 false true h0c2) hc3) (ya (pX h4x) (ya (ys (ef52 N 1 false (32 : Int) true [(5 : Int)]) hc5) (ya (ys (ef11 N 32 false true h1c5) hc6) (ya (pX h7x) (ya (ys (ef12 N) hc8) (ya (ys (ef41 N (3 : Int) (3 : Int) 0 true (0 : Int) (0 : Int) ([] : List Int)) hc9) (ya (ys (ef54 N) hc10) (ya (ys (ef55 N) hc11) yz))))))))))))
                                  | some o =>
                                    cases o with
                                    | r0 h0_0c11 h0_1c11 h0_2c11 =>
                                      dsimp only
                                      cases ho27 : lf28_14 N a0n h0_0 h0_1 h0_2 h0_0c10 h0_1c10 h0_2c10 h0_0c11 h0_1c11 h0_2c11 N (0 : Int) true h0_1c9 h0_2c9 ([] : List Int) with
                                      | none => exact finF (ctx28 N) Try.f28 [.call (rf49 a0n a0nl h0rw h0_0 h0_1 h0_2 (some (.r0 resc0))), .b false, .call (rf38 (some (.r0 h0c2))), .call (rf11 288 false true h0c2 (some (.r0 res_1c3))), .b false, .call (rf52 1 false (32 : Int) true [(5 : Int)] (some (.r0 h1c5))), .call (rf11 32 false true h1c5 (some (.r0 res_1c6))), .b false, .call (rf12 (some .r0)), .call (rf41 (3 : Int) (3 : Int) 0 true (0 : Int) (0 : Int) ([] : List Int) (some (.r0 resc9 h0_1c9 h0_2c9))), .call (rf54 (some (.r0 h0_0c10 h0_1c10 h0_2c10))), .call (rf55 (some (.r0 h0_0c11 h0_1c11 h0_2c11))), .out (qlf28_14 a0n a0nl h0rw h0_0 h0_1 h0_2 h0_0c10 h0_1c10 h0_2c10 h0_0c11 h0_1c11 h0_2c11 none)] (by kernel_rfl) (ya (ys (ef49 N a0n a0nl h0rw h0_0 h0_1 h0_2) hc0) (ya (pNB h1x) (ya (ys (ef38 N) hc2) (ya (ys (ef11 N 288 false true h0c2) hc3) (ya (pX h4x) (ya (ys (ef52 N 1 false (32 : Int) true [(5 : Int)]) hc5) (ya (ys (ef11 N 32 false true h1c5) hc6) (ya (pX h7x) (ya (ys (ef12 N) hc8) (ya (ys (ef41 N (3 : Int) (3 : Int) 0 true (0 : Int) (0 : Int) ([] : List Int)) hc9) (ya (ys (ef54 N) hc10) (ya (ys (ef55 N) hc11) (ya (ys (elf28_14 N a0n a0nl h0rw h0_0 h0_1 h0_2 h0_0c10 h0_1c10 h0_2c10 h0_0c11 h0_1c11 h0_2c11 N (0 : Int) true h0_1c9 h0_2c9 ([] : List Int)) ho27) yz)))))))))))))
                                      | some o =>
                                        cases o with
                                        | e0 h2_0nll27 h2_1l27 h2_2l27 h3l27 =>
                                          dsimp only
                                          cases hc28 : f15v1 N with
                                          | none => exact finF (ctx28 N) Try.f28 [.call (rf49 a0n a0nl h0rw h0_0 h0_1 h0_2 (some (.r0 resc0))), .b false, .call (rf38 (some (.r0 h0c2))), .call (rf11 288 false true h0c2 (some (.r0 res_1c3))), .b false, .call (rf52 1 false (32 : Int) true [(5 : Int)] (some (.r0 h1c5))), .call (rf11 32 false true h1c5 (some (.r0 res_1c6))), .b false, .call (rf12 (some .r0)), .call (rf41 (3 : Int) (3 : Int) 0 true (0 : Int) (0 : Int) ([] : List Int) (some (.r0 resc9 h0_1c9 h0_2c9))), .call (rf54 (some (.r0 h0_0c10 h0_1c10 h0_2c10))), .call (rf55 (some (.r0 h0_0c11 h0_1c11 h0_2c11))), .out (qlf28_14 a0n a0nl h0rw h0_0 h0_1 h0_2 h0_0c10 h0_1c10 h0_2c10 h0_0c11 h0_1c11 h0_2c11 (some (.e0 h2_0nll27 h2_1l27 h2_2l27 h3l27))), .call (rf15v1 (256 : Int) (List.length h3l27) h2_0nll27 h2_1l27 h2_2l27 h3l27 none)] (by kernel_rfl) (ya (ys (ef49 N a0n a0nl h0rw h0_0 h0_1 h0_2) hc0) (ya (pNB h1x) (ya (ys (ef38 N) hc2) (ya (ys (ef11 N 288 false true h0c2) hc3) (ya (pX h4x) (ya (ys (ef52 N 1 false (32 : Int) true [(5 : Int)]) hc5) (ya (ys (ef11 N 32 false true h1c5) hc6) (ya (pX h7x) (ya (ys (ef12 N) hc8) (ya (ys (ef41 N (3 : Int) (3 : Int) 0 true (0 : Int) (0 : Int) ([] : List Int)) hc9) (ya (ys (ef54 N) hc10) (ya (ys (ef55 N) hc11) (ya (ys (elf28_14 N a0n a0nl h0rw h0_0 h0_1 h0_2 h0_0c10 h0_1c10 h0_2c10 h0_0c11 h0_1c11 h0_2c11 N (0 : Int) true h0_1c9 h0_2c9 ([] : List Int)) ho27) (ya (ys (ef15v1 N (256 : Int) (List.length h3l27) h2_0nll27 h2_1l27 h2_2l27 h3l27) hc28) yz))))))))))))))
                                          | some o =>
                                            cases o with
                                            | r0 =>
                                              dsimp only
                                              cases hc29 : f16 N (List.length h3l27) h2_0nll27 h2_1l27 h2_2l27 h3l27 with
                                              | none => exact finF (ctx28 N) Try.f28 [.call (rf49 a0n a0nl h0rw h0_0 h0_1 h0_2 (some (.r0 resc0))), .b false, .call (rf38 (some (.r0 h0c2))), .call (rf11 288 false true h0c2 (some (.r0 res_1c3))), .b false, .call (rf52 1 false (32 : Int) true [(5 : Int)] (some (.r0 h1c5))), .call (rf11 32 false true h1c5 (some (.r0 res_1c6))), .b false, .call (rf12 (some .r0)), .call (rf41 (3 : Int) (3 : Int) 0 true (0 : Int) (0 : Int) ([] : List Int) (some (.r0 resc9 h0_1c9 h0_2c9))), .call (rf54 (some (.r0 h0_0c10 h0_1c10 h0_2c10))), .call (rf55 (some (.r0 h0_0c11 h0_1c11 h0_2c11))), .out (qlf28_14 a0n a0nl h0rw h0_0 h0_1 h0_2 h0_0c10 h0_1c10 h0_2c10 h0_0c11 h0_1c11 h0_2c11 (some (.e0 h2_0nll27 h2_1l27 h2_2l27 h3l27))), .call (rf15v1 (256 : Int) (List.length h3l27) h2_0nll27 h2_1l27 h2_2l27 h3l27 (some .r0)), .call (rf16 true (List.length h3l27) h2_0nll27 h2_1l27 h2_2l27 true h3l27 none)] (by kernel_rfl) (ya (ys (ef49 N a0n a0nl h0rw h0_0 h0_1 h0_2) hc0) (ya (pNB h1x) (ya (ys (ef38 N) hc2) (ya (ys (ef11 N 288 false true h0c2) hc3) (ya (pX h4x) (ya (ys (ef52 N 1 false (32 : Int) true [(5 : Int)]) hc5) (ya (ys (ef11 N 32 false true h1c5) hc6) (ya (pX h7x) (ya (ys (ef12 N) hc8) (ya (ys (ef41 N (3 : Int) (3 : Int) 0 true (0 : Int) (0 : Int) ([] : List Int)) hc9) (ya (ys (ef54 N) hc10) (ya (ys (ef55 N) hc11) (ya (ys (elf28_14 N a0n a0nl h0rw h0_0 h0_1 h0_2 h0_0c10 h0_1c10 h0_2c10 h0_0c11 h0_1c11 h0_2c11 N (0 : Int) true h0_1c9 h0_2c9 ([] : List Int)) ho27) (ya (ys (ef15v1 N (256 : Int) (List.length h3l27) h2_0nll27 h2_1l27 h2_2l27 h3l27) hc28) (ya (ys (ef16 N true (List.length h3l27) h2_0nll27 h2_1l27 h2_2l27 true h3l27) hc29) yz)))))))))))))))
                                              | some o =>
                                                cases o with
                                                | r0 resnlc29 h2c29 =>
                                                  dsimp only
                                                  exact finF (ctx28 N) Try.f28 [.call (rf49 a0n a0nl h0rw h0_0 h0_1 h0_2 (some (.r0 resc0))), .b false, .call (rf38 (some (.r0 h0c2))), .call (rf11 288 false true h0c2 (some (.r0 res_1c3))), .b false, .call (rf52 1 false (32 : Int) true [(5 : Int)] (some (.r0 h1c5))), .call (rf11 32 false true h1c5 (some (.r0 res_1c6))), .b false, .call (rf12 (some .r0)), .call (rf41 (3 : Int) (3 : Int) 0 true (0 : Int) (0 : Int) ([] : List Int) (some (.r0 resc9 h0_1c9 h0_2c9))), .call (rf54 (some (.r0 h0_0c10 h0_1c10 h0_2c10))), .call (rf55 (some (.r0 h0_0c11 h0_1c11 h0_2c11))), .out (qlf28_14 a0n a0nl h0rw h0_0 h0_1 h0_2 h0_0c10 h0_1c10 h0_2c10 h0_0c11 h0_1c11 h0_2c11 (some (.e0 h2_0nll27 h2_1l27 h2_2l27 h3l27))), .call (rf15v1 (256 : Int) (List.length h3l27) h2_0nll27 h2_1l27 h2_2l27 h3l27 (some .r0)), .call (rf16 true (List.length h3l27) h2_0nll27 h2_1l27 h2_2l27 true h3l27 (some (.r0 resnlc29 h2c29)))] (by kernel_rfl) (ya (ys (ef49 N a0n a0nl h0rw h0_0 h0_1 h0_2) hc0) (ya (pNB h1x) (ya (ys (ef38 N) hc2) (ya (ys (ef11 N 288 false true h0c2) hc3) (ya (pX h4x) (ya (ys (ef52 N 1 false (32 : Int) true [(5 : Int)]) hc5) (ya (ys (ef11 N 32 false true h1c5) hc6) (ya (pX h7x) (ya (ys (ef12 N) hc8) (ya (ys (ef41 N (3 : Int) (3 : Int) 0 true (0 : Int) (0 : Int) ([] : List Int)) hc9) (ya (ys (ef54 N) hc10) (ya (ys (ef55 N) hc11) (ya (ys (elf28_14 N a0n a0nl h0rw h0_0 h0_1 h0_2 h0_0c10 h0_1c10 h0_2c10 h0_0c11 h0_1c11 h0_2c11 N (0 : Int) true h0_1c9 h0_2c9 ([] : List Int)) ho27) (ya (ys (ef15v1 N (256 : Int) (List.length h3l27) h2_0nll27 h2_1l27 h2_2l27 h3l27) hc28) (ya (ys (ef16 N true (List.length h3l27) h2_0nll27 h2_1l27 h2_2l27 true h3l27) hc29) yz)))))))))))))))
                            | r1 h0_1c9 h0_2c9 h2c9 =>
                              dsimp only
                              cases hc30 : f54 N with
                              | none => exact finF (ctx28 N) Try.f28 [.call (rf49 a0n a0nl h0rw h0_0 h0_1 h0_2 (some (.r0 resc0))), .b false, .call (rf38 (some (.r0 h0c2))), .call (rf11 288 false true h0c2 (some (.r0 res_1c3))), .b false, .call (rf52 1 false (32 : Int) true [(5 : Int)] (some (.r0 h1c5))), .call (rf11 32 false true h1c5 (some (.r0 res_1c6))), .b false, .call (rf12 (some .r0)), .call (rf41 (3 : Int) (3 : Int) 0 true (0 : Int) (0 : Int) ([] : List Int) (some (.r1 h0_1c9 h0_2c9 h2c9))), .call (rf54 none)] (by kernel_rfl) (ya (ys (ef49 N a0n a0nl h0rw h0_0 h0_1 h0_2) hc0) (ya (pNB h1x) (ya (ys (ef38 N) hc2) (ya (ys (ef11 N 288 false true h0c2) hc3) (ya (pX h4x) (ya (ys (ef52 N 1 false (32 : Int) true [(5 : Int)]) hc5) (ya (ys (ef11 N 32 false true h1c5) hc6) (ya (pX h7x) (ya (ys (ef12 N) hc8) (ya (ys (ef41 N (3 : Int) (3 : Int) 0 true (0 : Int) (0 : Int) ([] : List Int)) hc9) (ya (ys (ef54 N) hc30) yz)))))))))))
                              | some o =>
                                cases o with
                                | r0 h0_0c30 h0_1c30 h0_2c30 =>
                                  dsimp only
                                  cases hc31 : f55 N with
                                  | none => exact finF (ctx28 N) Try.f28 [.call (rf49 a0n a0nl h0rw h0_0 h0_1 h0_2 (some (.r0 resc0))), .b false, .call (rf38 (some (.r0 h0c2))), .call (rf11 288 false true h0c2 (some (.r0 res_1c3))), .b false, .call (rf52 1 false (32 : Int) true [(5 : Int)] (some (.r0 h1c5))), .call (rf11 32 false true h1c5 (some (.r0 res_1c6))), .b false, .call (rf12 (some .r0)), .call (rf41 (3 : Int) (3 : Int) 0 true (0 : Int) (0 : Int) ([] : List Int) (some (.r1 h0_1c9 h0_2c9 h2c9))), .call (rf54 (some (.r0 h0_0c30 h0_1c30 h0_2c30))), .call (rf55 none)] (by kernel_rfl) (ya (ys (ef49 N a0n a0nl h0rw h0_0 h0_1 h0_2) hc0) (ya (pNB h1x) (ya (ys (ef38 N) hc2) (ya (ys (ef11 N 288 false true h0c2) hc3) (ya (pX h4x) (ya (ys (ef52 N 1 false (32 : Int) true [(5 : Int)]) hc5) (ya (ys (ef11 N 32 false true h1c5) hc6) (ya (pX h7x) (ya (ys (ef12 N) hc8) (ya (ys (ef41 N (3 : Int) (3 : Int) 0 true (0 : Int) (0 : Int) ([] : List Int)) hc9) (ya (ys (ef54 N) hc30) (ya (ys (ef55 N) hc31) yz))))))))))))
                                  | some o =>
                                    cases o with
                                    | r0 h0_0c31 h0_1c31 h0_2c31 =>
                                      dsimp only
                                      cases ho47 : lf28_14b N a0n h0_0 h0_1 h0_2 h0_0c30 h0_1c30 h0_2c30 h0_0c31 h0_1c31 h0_2c31 N (0 : Int) h0_1c9 h0_2c9 h2c9 with
                                      | none => exact finF (ctx28 N) Try.f28 [.call (rf49 a0n a0nl h0rw h0_0 h0_1 h0_2 (some (.r0 resc0))), .b false, .call (rf38 (some (.r0 h0c2))), .call (rf11 288 false true h0c2 (some (.r0 res_1c3))), .b false, .call (rf52 1 false (32 : Int) true [(5 : Int)] (some (.r0 h1c5))), .call (rf11 32 false true h1c5 (some (.r0 res_1c6))), .b false, .call (rf12 (some .r0)), .call (rf41 (3 : Int) (3 : Int) 0 true (0 : Int) (0 : Int) ([] : List Int) (some (.r1 h0_1c9 h0_2c9 h2c9))), .call (rf54 (some (.r0 h0_0c30 h0_1c30 h0_2c30))), .call (rf55 (some (.r0 h0_0c31 h0_1c31 h0_2c31))), .out (qlf28_14b a0n a0nl h0rw h0_0 h0_1 h0_2 h0_0c30 h0_1c30 h0_2c30 h0_0c31 h0_1c31 h0_2c31 none)] (by kernel_rfl) (ya (ys (ef49 N a0n a0nl h0rw h0_0 h0_1 h0_2) hc0) (ya (pNB h1x) (ya (ys (ef38 N) hc2) (ya (ys (ef11 N 288 false true h0c2) hc3) (ya (pX h4x) (ya (ys (ef52 N 1 false (32 : Int) true [(5 : Int)]) hc5) (ya (ys (ef11 N 32 false true h1c5) hc6) (ya (pX h7x) (ya (ys (ef12 N) hc8) (ya (ys (ef41 N (3 : Int) (3 : Int) 0 true (0 : Int) (0 : Int) ([] : List Int)) hc9) (ya (ys (ef54 N) hc30) (ya (ys (ef55 N) hc31) (ya (ys (elf28_14b N a0n a0nl h0rw h0_0 h0_1 h0_2 h0_0c30 h0_1c30 h0_2c30 h0_0c31 h0_1c31 h0_2c31 N (0 : Int) h0_1c9 h0_2c9 h2c9) ho47) yz)))))))))))))
                                      | some o =>
                                        cases o with
                                        | e0 h2_1l47 h2_2l47 h3l47 =>
                                          dsimp only
                                          cases hc48 : f15v1 N with
                                          | none => exact finF (ctx28 N) Try.f28 [.call (rf49 a0n a0nl h0rw h0_0 h0_1 h0_2 (some (.r0 resc0))), .b false, .call (rf38 (some (.r0 h0c2))), .call (rf11 288 false true h0c2 (some (.r0 res_1c3))), .b false, .call (rf52 1 false (32 : Int) true [(5 : Int)] (some (.r0 h1c5))), .call (rf11 32 false true h1c5 (some (.r0 res_1c6))), .b false, .call (rf12 (some .r0)), .call (rf41 (3 : Int) (3 : Int) 0 true (0 : Int) (0 : Int) ([] : List Int) (some (.r1 h0_1c9 h0_2c9 h2c9))), .call (rf54 (some (.r0 h0_0c30 h0_1c30 h0_2c30))), .call (rf55 (some (.r0 h0_0c31 h0_1c31 h0_2c31))), .out (qlf28_14b a0n a0nl h0rw h0_0 h0_1 h0_2 h0_0c30 h0_1c30 h0_2c30 h0_0c31 h0_1c31 h0_2c31 (some (.e0 h2_1l47 h2_2l47 h3l47))), .call (rf15v1 (256 : Int) (List.length h3l47) false h2_1l47 h2_2l47 h3l47 none)] (by kernel_rfl) (ya (ys (ef49 N a0n a0nl h0rw h0_0 h0_1 h0_2) hc0) (ya (pNB h1x) (ya (ys (ef38 N) hc2) (ya (ys (ef11 N 288 false true h0c2) hc3) (ya (pX h4x) (ya (ys (ef52 N 1 false (32 : Int) true [(5 : Int)]) hc5) (ya (ys (ef11 N 32 false true h1c5) hc6) (ya (pX h7x) (ya (ys (ef12 N) hc8) (ya (ys (ef41 N (3 : Int) (3 : Int) 0 true (0 : Int) (0 : Int) ([] : List Int)) hc9) (ya (ys (ef54 N) hc30) (ya (ys (ef55 N) hc31) (ya (ys (elf28_14b N a0n a0nl h0rw h0_0 h0_1 h0_2 h0_0c30 h0_1c30 h0_2c30 h0_0c31 h0_1c31 h0_2c31 N (0 : Int) h0_1c9 h0_2c9 h2c9) ho47) (ya (ys (ef15v1 N (256 : Int) (List.length h3l47) false h2_1l47 h2_2l47 h3l47) hc48) yz))))))))))))))
                                          | some o =>
                                            cases o with
                                            | r0 =>
                                              dsimp only
                                              cases hc49 : f16 N (List.length h3l47) false h2_1l47 h2_2l47 h3l47 with
                                              | none => exact finF (ctx28 N) Try.f28 [.call (rf49 a0n a0nl h0rw h0_0 h0_1 h0_2 (some (.r0 resc0))), .b false, .call (rf38 (some (.r0 h0c2))), .call (rf11 288 false true h0c2 (some (.r0 res_1c3))), .b false, .call (rf52 1 false (32 : Int) true [(5 : Int)] (some (.r0 h1c5))), .call (rf11 32 false true h1c5 (some (.r0 res_1c6))), .b false, .call (rf12 (some .r0)), .call (rf41 (3 : Int) (3 : Int) 0 true (0 : Int) (0 : Int) ([] : List Int) (some (.r1 h0_1c9 h0_2c9 h2c9))), .call (rf54 (some (.r0 h0_0c30 h0_1c30 h0_2c30))), .call (rf55 (some (.r0 h0_0c31 h0_1c31 h0_2c31))), .out (qlf28_14b a0n a0nl h0rw h0_0 h0_1 h0_2 h0_0c30 h0_1c30 h0_2c30 h0_0c31 h0_1c31 h0_2c31 (some (.e0 h2_1l47 h2_2l47 h3l47))), .call (rf15v1 (256 : Int) (List.length h3l47) false h2_1l47 h2_2l47 h3l47 (some .r0)), .call (rf16 true (List.length h3l47) false h2_1l47 h2_2l47 true h3l47 none)] (by kernel_rfl) (ya (ys (ef49 N a0n a0nl h0rw h0_0 h0_1 h0_2) hc0) (ya (pNB h1x) (ya (ys (ef38 N) hc2) (ya (ys (ef11 N 288 false true h0c2) hc3) (ya (pX h4x) (ya (ys (ef52 N 1 false (32 : Int) true [(5 : Int)]) hc5) (ya (ys (ef11 N 32 false true h1c5) hc6) (ya (pX h7x) (ya (ys (ef12 N) hc8) (ya (ys (ef41 N (3 : Int) (3 : Int) 0 true (0 : Int) (0 : Int) ([] : List Int)) hc9) (ya (ys (ef54 N) hc30) (ya (ys (ef55 N) hc31) (ya (ys (elf28_14b N a0n a0nl h0rw h0_0 h0_1 h0_2 h0_0c30 h0_1c30 h0_2c30 h0_0c31 h0_1c31 h0_2c31 N (0 : Int) h0_1c9 h0_2c9 h2c9) ho47) (ya (ys (ef15v1 N (256 : Int) (List.length h3l47) false h2_1l47 h2_2l47 h3l47) hc48) (ya (ys (ef16 N true (List.length h3l47) false h2_1l47 h2_2l47 true h3l47) hc49) yz)))))))))))))))
                                              | some o =>
                                                cases o with
                                                | r0 resnlc49 h2c49 =>
                                                  dsimp only
                                                  exact finF (ctx28 N) Try.f28 [.call (rf49 a0n a0nl h0rw h0_0 h0_1 h0_2 (some (.r0 resc0))), .b false, .call (rf38 (some (.r0 h0c2))), .call (rf11 288 false true h0c2 (some (.r0 res_1c3))), .b false, .call (rf52 1 false (32 : Int) true [(5 : Int)] (some (.r0 h1c5))), .call (rf11 32 false true h1c5 (some (.r0 res_1c6))), .b false, .call (rf12 (some .r0)), .call (rf41 (3 : Int) (3 : Int) 0 true (0 : Int) (0 : Int) ([] : List Int) (some (.r1 h0_1c9 h0_2c9 h2c9))), .call (rf54 (some (.r0 h0_0c30 h0_1c30 h0_2c30))), .call (rf55 (some (.r0 h0_0c31 h0_1c31 h0_2c31))), .out (qlf28_14b a0n a0nl h0rw h0_0 h0_1 h0_2 h0_0c30 h0_1c30 h0_2c30 h0_0c31 h0_1c31 h0_2c31 (some (.e0 h2_1l47 h2_2l47 h3l47))), .call (rf15v1 (256 : Int) (List.length h3l47) false h2_1l47 h2_2l47 h3l47 (some .r0)), .call (rf16 true (List.length h3l47) false h2_1l47 h2_2l47 true h3l47 (some (.r0 resnlc49 h2c49)))] (by kernel_rfl) (ya (ys (ef49 N a0n a0nl h0rw h0_0 h0_1 h0_2) hc0) (ya (pNB h1x) (ya (ys (ef38 N) hc2) (ya (ys (ef11 N 288 false true h0c2) hc3) (ya (pX h4x) (ya (ys (ef52 N 1 false (32 : Int) true [(5 : Int)]) hc5) (ya (ys (ef11 N 32 false true h1c5) hc6) (ya (pX h7x) (ya (ys (ef12 N) hc8) (ya (ys (ef41 N (3 : Int) (3 : Int) 0 true (0 : Int) (0 : Int) ([] : List Int)) hc9) (ya (ys (ef54 N) hc30) (ya (ys (ef55 N) hc31) (ya (ys (elf28_14b N a0n a0nl h0rw h0_0 h0_1 h0_2 h0_0c30 h0_1c30 h0_2c30 h0_0c31 h0_1c31 h0_2c31 N (0 : Int) h0_1c9 h0_2c9 h2c9) ho47) (ya (ys (ef15v1 N (256 : Int) (List.length h3l47) false h2_1l47 h2_2l47 h3l47) hc48) (ya (ys (ef16 N true (List.length h3l47) false h2_1l47 h2_2l47 true h3l47) hc49) yz)))))))))))))))
                    | r1 h1_0c6 h1_1nlc6 h1_2nc6 h1_2nlc6 h1_3nlc6 h2c6 h3c6 h4c6 =>
                      dsimp only
                      cases hc50 : f12 N with
                      | none => exact finF (ctx28 N) Try.f28 [.call (rf49 a0n a0nl h0rw h0_0 h0_1 h0_2 (some (.r0 resc0))), .b false, .call (rf38 (some (.r0 h0c2))), .call (rf11 288 false true h0c2 (some (.r0 res_1c3))), .b false, .call (rf52 1 false (32 : Int) true [(5 : Int)] (some (.r0 h1c5))), .call (rf11 32 false true h1c5 (some (.r1 h1_0c6 h1_1nlc6 h1_2nc6 h1_2nlc6 h1_3nlc6 h2c6 h3c6 h4c6))), .b false, .call (rf12 none)] (by kernel_rfl) (ya (ys (ef49 N a0n a0nl h0rw h0_0 h0_1 h0_2) hc0) (ya (pNB h1x) (ya (ys (ef38 N) hc2) (ya (ys (ef11 N 288 false true h0c2) hc3) (ya (pX h4x) (ya (ys (ef52 N 1 false (32 : Int) true [(5 : Int)]) hc5) (ya (ys (ef11 N 32 false true h1c5) hc6) (yf (ya (ys (ef12 N) hc50) yz)))))))))
                      | some o =>
                        cases o with
                        | r0 =>
                          dsimp only
                          cases hc51 : f41 N (3 : Int) (3 : Int) 0 (0 : Int) (0 : Int) ([] : List Int) with
                          | none => exact finF (ctx28 N) Try.f28 [.call (rf49 a0n a0nl h0rw h0_0 h0_1 h0_2 (some (.r0 resc0))), .b false, .call (rf38 (some (.r0 h0c2))), .call (rf11 288 false true h0c2 (some (.r0 res_1c3))), .b false, .call (rf52 1 false (32 : Int) true [(5 : Int)] (some (.r0 h1c5))), .call (rf11 32 false true h1c5 (some (.r1 h1_0c6 h1_1nlc6 h1_2nc6 h1_2nlc6 h1_3nlc6 h2c6 h3c6 h4c6))), .b false, .call (rf12 (some .r0)), .call (rf41 (3 : Int) (3 : Int) 0 true (0 : Int) (0 : Int) ([] : List Int) none)] (by kernel_rfl) (ya (ys (ef49 N a0n a0nl h0rw h0_0 h0_1 h0_2) hc0) (ya (pNB h1x) (ya (ys (ef38 N) hc2) (ya (ys (ef11 N 288 false true h0c2) hc3) (ya (pX h4x) (ya (ys (ef52 N 1 false (32 : Int) true [(5 : Int)]) hc5) (ya (ys (ef11 N 32 false true h1c5) hc6) (yf (ya (ys (ef12 N) hc50) (ya (ys (ef41 N (3 : Int) (3 : Int) 0 true (0 : Int) (0 : Int) ([] : List Int)) hc51) yz))))))))))
                          | some o =>
                            cases o with
                            | r0 resc51 h0_1c51 h0_2c51 =>
                              dsimp only
                              cases hc52 : f54 N with
                              | none => exact finF (ctx28 N) Try.f28 [.call (rf49 a0n a0nl h0rw h0_0 h0_1 h0_2 (some (.r0 resc0))), .b false, .call (rf38 (some (.r0 h0c2))), .call (rf11 288 false true h0c2 (some (.r0 res_1c3))), .b false, .call (rf52 1 false (32 : Int) true [(5 : Int)] (some (.r0 h1c5))), .call (rf11 32 false true h1c5 (some (.r1 h1_0c6 h1_1nlc6 h1_2nc6 h1_2nlc6 h1_3nlc6 h2c6 h3c6 h4c6))), .b false, .call (rf12 (some .r0)), .call (rf41 (3 : Int) (3 : Int) 0 true (0 : Int) (0 : Int) ([] : List Int) (some (.r0 resc51 h0_1c51 h0_2c51))), .call (rf54 none)] (by kernel_rfl) (ya (ys (ef49 N a0n a0nl h0rw h0_0 h0_1 h0_2) hc0) (ya (pNB h1x) (ya (ys (ef38 N) hc2) (ya (ys (ef11 N 288 false true h0c2) hc3) (ya (pX h4x) (ya (ys (ef52 N 1 false (32 : Int) true [(5 : Int)]) hc5) (ya (ys (ef11 N 32 false true h1c5) hc6) (yf (ya (ys (ef12 N) hc50) (ya (ys (ef41 N (3 : Int) (3 : Int) 0 true (0 : Int) (0 : Int) ([] : List Int)) hc51) (ya (ys (ef54 N) hc52) yz)))))))))))
                              | some o =>
                                cases o with
                                | r0 h0_0c52 h0_1c52 h0_2c52 =>
                                  dsimp only
                                  cases hc53 : f55 N with
                                  | none => exact finF (ctx28 N) Try.f28 [.call (rf49 a0n a0nl h0rw h0_0 h0_1 h0_2 (some (.r0 resc0))), .b false, .call (rf38 (some (.r0 h0c2))), .call (rf11 288 false true h0c2 (some (.r0 res_1c3))), .b false, .call (rf52 1 false (32 : Int) true [(5 : Int)] (some (.r0 h1c5))), .call (rf11 32 false true h1c5 (some (.r1 h1_0c6 h1_1nlc6 h1_2nc6 h1_2nlc6 h1_3nlc6 h2c6 h3c6 h4c6))), .b false, .call (rf12 (some .r0)), .call (rf41 (3 : Int) (3 : Int) 0 true (0 : Int) (0 : Int) ([] : List Int) (some (.r0 resc51 h0_1c51 h0_2c51))), .call (rf54 (some (.r0 h0_0c52 h0_1c52 h0_2c52))), .call (rf55 none)] (by kernel_rfl) (ya (ys (ef49 N a0n a0nl h0rw h0_0 h0_1 h0_2) hc0) (ya (pNB h1x) (ya (ys (ef38 N) hc2) (ya (ys (ef11 N 288 false true h0c2) hc3) (ya (pX h4x) (ya (ys (ef52 N 1 false (32 : Int) true [(5 : Int)]) hc5) (ya (ys (ef11 N 32 false true h1c5) hc6) (yf (ya (ys (ef12 N) hc50) (ya (ys (ef41 N (3 : Int) (3 : Int) 0 true (0 : Int) (0 : Int) ([] : List Int)) hc51) (ya (ys (ef54 N) hc52) (ya (ys (ef55 N) hc53) yz))))))))))))
                                  | some o =>
                                    cases o with
                                    | r0 h0_0c53 h0_1c53 h0_2c53 =>
                                      dsimp only
                                      cases ho69 : lf28_14c N a0n h0_0 h0_1 h0_2 h1_2nc6 h2c6 h3c6 h0_0c52 h0_1c52 h0_2c52 h0_0c53 h0_1c53 h0_2c53 N (0 : Int) true h0_1c51 h0_2c51 ([] : List Int) with
                                      | none => exact finF (ctx28 N) Try.f28 [.call (rf49 a0n a0nl h0rw h0_0 h0_1 h0_2 (some (.r0 resc0))), .b false, .call (rf38 (some (.r0 h0c2))), .call (rf11 288 false true h0c2 (some (.r0 res_1c3))), .b false, .call (rf52 1 false (32 : Int) true [(5 : Int)] (some (.r0 h1c5))), .call (rf11 32 false true h1c5 (some (.r1 h1_0c6 h1_1nlc6 h1_2nc6 h1_2nlc6 h1_3nlc6 h2c6 h3c6 h4c6))), .b false, .call (rf12 (some .r0)), .call (rf41 (3 : Int) (3 : Int) 0 true (0 : Int) (0 : Int) ([] : List Int) (some (.r0 resc51 h0_1c51 h0_2c51))), .call (rf54 (some (.r0 h0_0c52 h0_1c52 h0_2c52))), .call (rf55 (some (.r0 h0_0c53 h0_1c53 h0_2c53))), .out (qlf28_14c a0n a0nl h0rw h0_0 h0_1 h0_2 h1_0c6 h1_1nlc6 h1_2nc6 h1_2nlc6 h1_3nlc6 h2c6 h3c6 h4c6 h0_0c52 h0_1c52 h0_2c52 h0_0c53 h0_1c53 h0_2c53 none)] (by kernel_rfl) (ya (ys (ef49 N a0n a0nl h0rw h0_0 h0_1 h0_2) hc0) (ya (pNB h1x) (ya (ys (ef38 N) hc2) (ya (ys (ef11 N 288 false true h0c2) hc3) (ya (pX h4x) (ya (ys (ef52 N 1 false (32 : Int) true [(5 : Int)]) hc5) (ya (ys (ef11 N 32 false true h1c5) hc6) (yf (ya (ys (ef12 N) hc50) (ya (ys (ef41 N (3 : Int) (3 : Int) 0 true (0 : Int) (0 : Int) ([] : List Int)) hc51) (ya (ys (ef54 N) hc52) (ya (ys (ef55 N) hc53) (ya (ys (elf28_14c N a0n a0nl h0rw h0_0 h0_1 h0_2 h1_0c6 h1_1nlc6 h1_2nc6 h1_2nlc6 h1_3nlc6 h2c6 h3c6 h4c6 h0_0c52 h0_1c52 h0_2c52 h0_0c53 h0_1c53 h0_2c53 N (0 : Int) true h0_1c51 h0_2c51 ([] : List Int)) ho69) yz)))))))))))))
                                      | some o =>
                                        cases o with
                                        | e0 h2_0nll69 h2_1l69 h2_2l69 h3l69 =>
                                          dsimp only
                                          cases hc70 : f15v1 N with
                                          | none => exact finF (ctx28 N) Try.f28 [.call (rf49 a0n a0nl h0rw h0_0 h0_1 h0_2 (some (.r0 resc0))), .b false, .call (rf38 (some (.r0 h0c2))), .call (rf11 288 false true h0c2 (some (.r0 res_1c3))), .b false, .call (rf52 1 false (32 : Int) true [(5 : Int)] (some (.r0 h1c5))), .call (rf11 32 false true h1c5 (some (.r1 h1_0c6 h1_1nlc6 h1_2nc6 h1_2nlc6 h1_3nlc6 h2c6 h3c6 h4c6))), .b false, .call (rf12 (some .r0)), .call (rf41 (3 : Int) (3 : Int) 0 true (0 : Int) (0 : Int) ([] : List Int) (some (.r0 resc51 h0_1c51 h0_2c51))), .call (rf54 (some (.r0 h0_0c52 h0_1c52 h0_2c52))), .call (rf55 (some (.r0 h0_0c53 h0_1c53 h0_2c53))), .out (qlf28_14c a0n a0nl h0rw h0_0 h0_1 h0_2 h1_0c6 h1_1nlc6 h1_2nc6 h1_2nlc6 h1_3nlc6 h2c6 h3c6 h4c6 h0_0c52 h0_1c52 h0_2c52 h0_0c53 h0_1c53 h0_2c53 (some (.e0 h2_0nll69 h2_1l69 h2_2l69 h3l69))), .call (rf15v1 (256 : Int) (List.length h3l69) h2_0nll69 h2_1l69 h2_2l69 h3l69 none)] (by kernel_rfl) (ya (ys (ef49 N a0n a0nl h0rw h0_0 h0_1 h0_2) hc0) (ya (pNB h1x) (ya (ys (ef38 N) hc2) (ya (ys (ef11 N 288 false true h0c2) hc3) (ya (pX h4x) (ya (ys (ef52 N 1 false (32 : Int) true [(5 : Int)]) hc5) (ya (ys (ef11 N 32 false true h1c5) hc6) (yf (ya (ys (ef12 N) hc50) (ya (ys (ef41 N (3 : Int) (3 : Int) 0 true (0 : Int) (0 : Int) ([] : List Int)) hc51) (ya (ys (ef54 N) hc52) (ya (ys (ef55 N) hc53) (ya (ys (elf28_14c N a0n a0nl h0rw h0_0 h0_1 h0_2 h1_0c6 h1_1nlc6 h1_2nc6 h1_2nlc6 h1_3nlc6 h2c6 h3c6 h4c6 h0_0c52 h0_1c52 h0_2c52 h0_0c53 h0_1c53 h0_2c53 N (0 : Int) true h0_1c51 h0_2c51 ([] : List Int)) ho69) (ya (ys (ef15v1 N (256 : Int) (List.length h3l69) h2_0nll69 h2_1l69 h2_2l69 h3l69) hc70) yz))))))))))))))
                                          | some o =>
                                            cases o with
                                            | r0 =>
                                              dsimp only
                                              cases hc71 : f16 N (List.length h3l69) h2_0nll69 h2_1l69 h2_2l69 h3l69 with
                                              | none => exact finF (ctx28 N) Try.f28 [.call (rf49 a0n a0nl h0rw h0_0 h0_1 h0_2 (some (.r0 resc0))), .b false, .call (rf38 (some (.r0 h0c2))), .call (rf11 288 false true h0c2 (some (.r0 res_1c3))), .b false, .call (rf52 1 false (32 : Int) true [(5 : Int)] (some (.r0 h1c5))), .call (rf11 32 false true h1c5 (some (.r1 h1_0c6 h1_1nlc6 h1_2nc6 h1_2nlc6 h1_3nlc6 h2c6 h3c6 h4c6))), .b false, .call (rf12 (some .r0)), .call (rf41 (3 : Int) (3 : Int) 0 true (0 : Int) (0 : Int) ([] : List Int) (some (.r0 resc51 h0_1c51 h0_2c51))), .call (rf54 (some (.r0 h0_0c52 h0_1c52 h0_2c52))), .call (rf55 (some (.r0 h0_0c53 h0_1c53 h0_2c53))), .out (qlf28_14c a0n a0nl h0rw h0_0 h0_1 h0_2 h1_0c6 h1_1nlc6 h1_2nc6 h1_2nlc6 h1_3nlc6 h2c6 h3c6 h4c6 h0_0c52 h0_1c52 h0_2c52 h0_0c53 h0_1c53 h0_2c53 (some (.e0 h2_0nll69 h2_1l69 h2_2l69 h3l69))), .call (rf15v1 (256 : Int) (List.length h3l69) h2_0nll69 h2_1l69 h2_2l69 h3l69 (some .r0)), .call (rf16 true (List.length h3l69) h2_0nll69 h2_1l69 h2_2l69 true h3l69 none)] (by kernel_rfl) (ya (ys (ef49 N a0n a0nl h0rw h0_0 h0_1 h0_2) hc0) (ya (pNB h1x) (ya (ys (ef38 N) hc2) (ya (ys (ef11 N 288 false true h0c2) hc3) (ya (pX h4x) (ya (ys (ef52 N 1 false (32 : Int) true [(5 : Int)]) hc5) (ya (ys (ef11 N 32 false true h1c5) hc6) (yf (ya (ys (ef12 N) hc50) (ya (ys (ef41 N (3 : Int) (3 : Int) 0 true (0 : Int) (0 : Int) ([] : List Int)) hc51) (ya (ys (ef54 N) hc52) (ya (ys (ef55 N) hc53) (ya (ys (elf28_14c N a0n a0nl h0rw h0_0 h0_1 h0_2 h1_0c6 h1_1nlc6 h1_2nc6 h1_2nlc6 h1_3nlc6 h2c6 h3c6 h4c6 h0_0c52 h0_1c52 h0_2c52 h0_0c53 h0_1c53 h0_2c53 N (0 : Int) true h0_1c51 h0_2c51 ([] : List Int)) ho69) (ya (ys (ef15v1 N (256 : Int) (List.length h3l69) h2_0nll69 h2_1l69 h2_2l69 h3l69) hc70) (ya (ys (ef16 N true (List.length h3l69) h2_0nll69 h2_1l69 h2_2l69 true h3l69) hc71) yz)))))))))))))))
                                              | some o =>
                                                cases o with
                                                | r0 resnlc71 h2c71 =>
                                                  dsimp only
                                                  exact finF (ctx28 N) Try.f28 [.call (rf49 a0n a0nl h0rw h0_0 h0_1 h0_2 (some (.r0 resc0))), .b false, .call (rf38 (some (.r0 h0c2))), .call (rf11 288 false true h0c2 (some (.r0 res_1c3))), .b false, .call (rf52 1 false (32 : Int) true [(5 : Int)] (some (.r0 h1c5))), .call (rf11 32 false true h1c5 (some (.r1 h1_0c6 h1_1nlc6 h1_2nc6 h1_2nlc6 h1_3nlc6 h2c6 h3c6 h4c6))), .b false, .call (rf12 (some .r0)), .call (rf41 (3 : Int) (3 : Int) 0 true (0 : Int) (0 : Int) ([] : List Int) (some (.r0 resc51 h0_1c51 h0_2c51))), .call (rf54 (some (.r0 h0_0c52 h0_1c52 h0_2c52))), .call (rf55 (some (.r0 h0_0c53 h0_1c53 h0_2c53))), .out (qlf28_14c a0n a0nl h0rw h0_0 h0_1 h0_2 h1_0c6 h1_1nlc6 h1_2nc6 h1_2nlc6 h1_3nlc6 h2c6 h3c6 h4c6 h0_0c52 h0_1c52 h0_2c52 h0_0c53 h0_1c53 h0_2c53 (some (.e0 h2_0nll69 h2_1l69 h2_2l69 h3l69))), .call (rf15v1 (256 : Int) (List.length h3l69) h2_0nll69 h2_1l69 h2_2l69 h3l69 (some .r0)), .call (rf16 true (List.length h3l69) h2_0nll69 h2_1l69 h2_2l69 true h3l69 (some (.r0 resnlc71 h2c71)))] (by kernel_rfl) (ya (ys (ef49 N a0n a0nl h0rw h0_0 h0_1 h0_2) hc0) (ya (pNB h1x) (ya (ys (ef38 N) hc2) (ya (ys (ef11 N 288 false true h0c2) hc3) (ya (pX h4x) (ya (ys (ef52 N 1 false (32 : Int) true [(5 : Int)]) hc5) (ya (ys (ef11 N 32 false true h1c5) hc6) (yf (ya (ys (ef12 N) hc50) (ya (ys (ef41 N (3 : Int) (3 : Int) 0 true (0 : Int) (0 : Int) ([] : List Int)) hc51) (ya (ys (ef54 N) hc52) (ya (ys (ef55 N) hc53) (ya (ys (elf28_14c N a0n a0nl h0rw h0_0 h0_1 h0_2 h1_0c6 h1_1nlc6 h1_2nc6 h1_2nlc6 h1_3nlc6 h2c6 h3c6 h4c6 h0_0c52 h0_1c52 h0_2c52 h0_0c53 h0_1c53 h0_2c53 N (0 : Int) true h0_1c51 h0_2c51 ([] : List Int)) ho69) (ya (ys (ef15v1 N (256 : Int) (List.length h3l69) h2_0nll69 h2_1l69 h2_2l69 h3l69) hc70) (ya (ys (ef16 N true (List.length h3l69) h2_0nll69 h2_1l69 h2_2l69 true h3l69) hc71) yz)))))))))))))))
                            | r1 h0_1c51 h0_2c51 h2c51 =>
                              dsimp only
                              cases hc72 : f54 N with
                              | none => exact finF (ctx28 N) Try.f28 [.call (rf49 a0n a0nl h0rw h0_0 h0_1 h0_2 (some (.r0 resc0))), .b false, .call (rf38 (some (.r0 h0c2))), .call (rf11 288 false true h0c2 (some (.r0 res_1c3))), .b false, .call (rf52 1 false (32 : Int) true [(5 : Int)] (some (.r0 h1c5))), .call (rf11 32 false true h1c5 (some (.r1 h1_0c6 h1_1nlc6 h1_2nc6 h1_2nlc6 h1_3nlc6 h2c6 h3c6 h4c6))), .b false, .call (rf12 (some .r0)), .call (rf41 (3 : Int) (3 : Int) 0 true (0 : Int) (0 : Int) ([] : List Int) (some (.r1 h0_1c51 h0_2c51 h2c51))), .call (rf54 none)] (by kernel_rfl) (ya (ys (ef49 N a0n a0nl h0rw h0_0 h0_1 h0_2) hc0) (ya (pNB h1x) (ya (ys (ef38 N) hc2) (ya (ys (ef11 N 288 false true h0c2) hc3) (ya (pX h4x) (ya (ys (ef52 N 1 false (32 : Int) true [(5 : Int)]) hc5) (ya (ys (ef11 N 32 false true h1c5) hc6) (yf (ya (ys (ef12 N) hc50) (ya (ys (ef41 N (3 : Int) (3 : Int) 0 true (0 : Int) (0 : Int) ([] : List Int)) hc51) (ya (ys (ef54 N) hc72) yz)))))))))))
                              | some o =>
                                cases o with
                                | r0 h0_0c72 h0_1c72 h0_2c72 =>
                                  dsimp only
                                  cases hc73 : f55 N with
                                  | none => exact finF (ctx28 N) Try.f28 [.call (rf49 a0n a0nl h0rw h0_0 h0_1 h0_2 (some (.r0 resc0))), .b false, .call (rf38 (some (.r0 h0c2))), .call (rf11 288 false true h0c2 (some (.r0 res_1c3))), .b false, .call (rf52 1 false (32 : Int) true [(5 : Int)] (some (.r0 h1c5))), .call (rf11 32 false true h1c5 (some (.r1 h1_0c6 h1_1nlc6 h1_2nc6 h1_2nlc6 h1_3nlc6 h2c6 h3c6 h4c6))), .b false, .call (rf12 (some .r0)), .call (rf41 (3 : Int) (3 : Int) 0 true (0 : Int) (0 : Int) ([] : List Int) (some (.r1 h0_1c51 h0_2c51 h2c51))), .call (rf54 (some (.r0 h0_0c72 h0_1c72 h0_2c72))), .call (rf55 none)] (by kernel_rfl) (ya (ys (ef49 N a0n a0nl h0rw h0_0 h0_1 h0_2) hc0) (ya (pNB h1x) (ya (ys (ef38 N) hc2) (ya (ys (ef11 N 288 false true h0c2) hc3) (ya (pX h4x) (ya (ys (ef52 N 1 false (32 : Int) true [(5 : Int)]) hc5) (ya (ys (ef11 N 32 false true h1c5) hc6) (yf (ya (ys (ef12 N) hc50) (ya (ys (ef41 N (3 : Int) (3 : Int) 0 true (0 : Int) (0 : Int) ([] : List Int)) hc51) (ya (ys (ef54 N) hc72) (ya (ys (ef55 N) hc73) yz))))))))))))
                                  | some o =>
                                    cases o with
                                    | r0 h0_0c73 h0_1c73 h0_2c73 =>
                                      dsimp only
                                      cases ho89 : lf28_14d N a0n h0_0 h0_1 h0_2 h1_2nc6 h2c6 h3c6 h0_0c72 h0_1c72 h0_2c72 h0_0c73 h0_1c73 h0_2c73 N (0 : Int) h0_1c51 h0_2c51 h2c51 with
                                      | none => exact finF (ctx28 N) Try.f28 [.call (rf49 a0n a0nl h0rw h0_0 h0_1 h0_2 (some (.r0 resc0))), .b false, .call (rf38 (some (.r0 h0c2))), .call (rf11 288 false true h0c2 (some (.r0 res_1c3))), .b false, .call (rf52 1 false (32 : Int) true [(5 : Int)] (some (.r0 h1c5))), .call (rf11 32 false true h1c5 (some (.r1 h1_0c6 h1_1nlc6 h1_2nc6 h1_2nlc6 h1_3nlc6 h2c6 h3c6 h4c6))), .b false, .call (rf12 (some .r0)), .call (rf41 (3 : Int) (3 : Int) 0 true (0 : Int) (0 : Int) ([] : List Int) (some (.r1 h0_1c51 h0_2c51 h2c51))), .call (rf54 (some (.r0 h0_0c72 h0_1c72 h0_2c72))), .call (rf55 (some (.r0 h0_0c73 h0_1c73 h0_2c73))), .out (qlf28_14d a0n a0nl h0rw h0_0 h0_1 h0_2 h1_0c6 h1_1nlc6 h1_2nc6 h1_2nlc6 h1_3nlc6 h2c6 h3c6 h4c6 h0_0c72 h0_1c72 h0_2c72 h0_0c73 h0_1c73 h0_2c73 none)] (by kernel_rfl) (ya (ys (ef49 N a0n a0nl h0rw h0_0 h0_1 h0_2) hc0) (ya (pNB h1x) (ya (ys (ef38 N) hc2) (ya (ys (ef11 N 288 false true h0c2) hc3) (ya (pX h4x) (ya (ys (ef52 N 1 false (32 : Int) true [(5 : Int)]) hc5) (ya (ys (ef11 N 32 false true h1c5) hc6) (yf (ya (ys (ef12 N) hc50) (ya (ys (ef41 N (3 : Int) (3 : Int) 0 true (0 : Int) (0 : Int) ([] : List Int)) hc51) (ya (ys (ef54 N) hc72) (ya (ys (ef55 N) hc73) (ya (ys (elf28_14d N a0n a0nl h0rw h0_0 h0_1 h0_2 h1_0c6 h1_1nlc6 h1_2nc6 h1_2nlc6 h1_3nlc6 h2c6 h3c6 h4c6 h0_0c72 h0_1c72 h0_2c72 h0_0c73 h0_1c73 h0_2c73 N (0 : Int) h0_1c51 h0_2c51 h2c51) ho89) yz)))))))))))))
                                      | some o =>
                                        cases o with
                                        | e0 h2_1l89 h2_2l89 h3l89 =>
                                          dsimp only
                                          cases hc90 : f15v1 N with
                                          | none => exact finF (ctx28 N) Try.f28 [.call (rf49 a0n a0nl h0rw h0_0 h0_1 h0_2 (some (.r0 resc0))), .b false, .call (rf38 (some (.r0 h0c2))), .call (rf11 288 false true h0c2 (some (.r0 res_1c3))), .b false, .call (rf52 1 false (32 : Int) true [(5 : Int)] (some (.r0 h1c5))), .call (rf11 32 false true h1c5 (some (.r1 h1_0c6 h1_1nlc6 h1_2nc6 h1_2nlc6 h1_3nlc6 h2c6 h3c6 h4c6))), .b false, .call (rf12 (some .r0)), .call (rf41 (3 : Int) (3 : Int) 0 true (0 : Int) (0 : Int) ([] : List Int) (some (.r1 h0_1c51 h0_2c51 h2c51))), .call (rf54 (some (.r0 h0_0c72 h0_1c72 h0_2c72))), .call (rf55 (some (.r0 h0_0c73 h0_1c73 h0_2c73))), .out (qlf28_14d a0n a0nl h0rw h0_0 h0_1 h0_2 h1_0c6 h1_1nlc6 h1_2nc6 h1_2nlc6 h1_3nlc6 h2c6 h3c6 h4c6 h0_0c72 h0_1c72 h0_2c72 h0_0c73 h0_1c73 h0_2c73 (some (.e0 h2_1l89 h2_2l89 h3l89))), .call (rf15v1 (256 : Int) (List.length h3l89) false h2_1l89 h2_2l89 h3l89 none)] (by kernel_rfl) (ya (ys (ef49 N a0n a0nl h0rw h0_0 h0_1 h0_2) hc0) (ya (pNB h1x) (ya (ys (ef38 N) hc2) (ya (ys (ef11 N 288 false true h0c2) hc3) (ya (pX h4x) (ya (ys (ef52 N 1 false (32 : Int) true [(5 : Int)]) hc5) (ya (ys (ef11 N 32 false true h1c5) hc6) (yf (ya (ys (ef12 N) hc50) (ya (ys (ef41 N (3 : Int) (3 : Int) 0 true (0 : Int) (0 : Int) ([] : List Int)) hc51) (ya (ys (ef54 N) hc72) (ya (ys (ef55 N) hc73) (ya (ys (elf28_14d N a0n a0nl h0rw h0_0 h0_1 h0_2 h1_0c6 h1_1nlc6 h1_2nc6 h1_2nlc6 h1_3nlc6 h2c6 h3c6 h4c6 h0_0c72 h0_1c72 h0_2c72 h0_0c73 h0_1c73 h0_2c73 N (0 : Int) h0_1c51 h0_2c51 h2c51) ho89) (ya (ys (ef15v1 N (256 : Int) (List.length h3l89) false h2_1l89 h2_2l89 h3l89) hc90) yz))))))))))))))
                                          | some o =>
                                            cases o with
                                            | r0 =>
                                              dsimp only
                                              cases hc91 : f16 N (List.length h3l89) false h2_1l89 h2_2l89 h3l89 with
                                              | none => exact finF (ctx28 N) Try.f28 [.call (rf49 a0n a0nl h0rw h0_0 h0_1 h0_2 (some (.r0 resc0))), .b false, .call (rf38 (some (.r0 h0c2))), .call (rf11 288 false true h0c2 (some (.r0 res_1c3))), .b false, .call (rf52 1 false (32 : Int) true [(5 : Int)] (some (.r0 h1c5))), .call (rf11 32 false true h1c5 (some (.r1 h1_0c6 h1_1nlc6 h1_2nc6 h1_2nlc6 h1_3nlc6 h2c6 h3c6 h4c6))), .b false, .call (rf12 (some .r0)), .call (rf41 (3 : Int) (3 : Int) 0 true (0 : Int) (0 : Int) ([] : List Int) (some (.r1 h0_1c51 h0_2c51 h2c51))), .call (rf54 (some (.r0 h0_0c72 h0_1c72 h0_2c72))), .call (rf55 (some (.r0 h0_0c73 h0_1c73 h0_2c73))), .out (qlf28_14d a0n a0nl h0rw h0_0 h0_1 h0_2 h1_0c6 h1_1nlc6 h1_2nc6 h1_2nlc6 h1_3nlc6 h2c6 h3c6 h4c6 h0_0c72 h0_1c72 h0_2c72 h0_0c73 h0_1c73 h0_2c73 (some (.e0 h2_1l89 h2_2l89 h3l89))), .call (rf15v1 (256 : Int) (List.length h3l89) false h2_1l89 h2_2l89 h3l89 (some .r0)), .call (rf16 true (List.length h3l89) false h2_1l89 h2_2l89 true h3l89 none)] (by kernel_rfl) (ya (ys (ef49 N a0n a0nl h0rw h0_0 h0_1 h0_2) hc0) (ya (pNB h1x) (ya (ys (ef38 N) hc2) (ya (ys (ef11 N 288 false true h0c2) hc3) (ya (pX h4x) (ya (ys (ef52 N 1 false (32 : Int) true [(5 : Int)]) hc5) (ya (ys (ef11 N 32 false true h1c5) hc6) (yf (ya (ys (ef12 N) hc50) (ya (ys (ef41 N (3 : Int) (3 : Int) 0 true (0 : Int) (0 : Int) ([] : List Int)) hc51) (ya (ys (ef54 N) hc72) (ya (ys (ef55 N) hc73) (ya (ys (elf28_14d N a0n a0nl h0rw h0_0 h0_1 h0_2 h1_0c6 h1_1nlc6 h1_2nc6 h1_2nlc6 h1_3nlc6 h2c6 h3c6 h4c6 h0_0c72 h0_1c72 h0_2c72 h0_0c73 h0_1c73 h0_2c73 N (0 : Int) h0_1c51 h0_2c51 h2c51) ho89) (ya (ys (ef15v1 N (256 : Int) (List.length h3l89) false h2_1l89 h2_2l89 h3l89) hc90) (ya (ys (ef16 N true (List.length h3l89) false h2_1l89 h2_2l89 true h3l89) hc91) yz)))))))))))))))
                                              | some o =>
                                                cases o with
                                                | r0 resnlc91 h2c91 =>
                                                  dsimp only
                                                  exact finF (ctx28 N) Try.f28 [.call (rf49 a0n a0nl h0rw h0_0 h0_1 h0_2 (some (.r0 resc0))), .b false, .call (rf38 (some (.r0 h0c2))), .call (rf11 288 false true h0c2 (some (.r0 res_1c3))), .b false, .call (rf52 1 false (32 : Int) true [(5 : Int)] (some (.r0 h1c5))), .call (rf11 32 false true h1c5 (some (.r1 h1_0c6 h1_1nlc6 h1_2nc6 h1_2nlc6 h1_3nlc6 h2c6 h3c6 h4c6))), .b false, .call (rf12 (some .r0)), .call (rf41 (3 : Int) (3 : Int) 0 true (0 : Int) (0 : Int) ([] : List Int) (some (.r1 h0_1c51 h0_2c51 h2c51))), .call (rf54 (some (.r0 h0_0c72 h0_1c72 h0_2c72))), .call (rf55 (some (.r0 h0_0c73 h0_1c73 h0_2c73))), .out (qlf28_14d a0n a0nl h0rw h0_0 h0_1 h0_2 h1_0c6 h1_1nlc6 h1_2nc6 h1_2nlc6 h1_3nlc6 h2c6 h3c6 h4c6 h0_0c72 h0_1c72 h0_2c72 h0_0c73 h0_1c73 h0_2c73 (some (.e0 h2_1l89 h2_2l89 h3l89))), .call (rf15v1 (256 : Int) (List.length h3l89) false h2_1l89 h2_2l89 h3l89 (some .r0)), .call (rf16 true (List.length h3l89) false h2_1l89 h2_2l89 true h3l89 (some (.r0 resnlc91 h2c91)))] (by kernel_rfl) (ya (ys (ef49 N a0n a0nl h0rw h0_0 h0_1 h0_2) hc0) (ya (pNB h1x) (ya (ys (ef38 N) hc2) (ya (ys (ef11 N 288 false true h0c2) hc3) (ya (pX h4x) (ya (ys (ef52 N 1 false (32 : Int) true [(5 : Int)]) hc5) (ya (ys (ef11 N 32 false true h1c5) hc6) (yf (ya (ys (ef12 N) hc50) (ya (ys (ef41 N (3 : Int) (3 : Int) 0 true (0 : Int) (0 : Int) ([] : List Int)) hc51) (ya (ys (ef54 N) hc72) (ya (ys (ef55 N) hc73) (ya (ys (elf28_14d N a0n a0nl h0rw h0_0 h0_1 h0_2 h1_0c6 h1_1nlc6 h1_2nc6 h1_2nlc6 h1_3nlc6 h2c6 h3c6 h4c6 h0_0c72 h0_1c72 h0_2c72 h0_0c73 h0_1c73 h0_2c73 N (0 : Int) h0_1c51 h0_2c51 h2c51) ho89) (ya (ys (ef15v1 N (256 : Int) (List.length h3l89) false h2_1l89 h2_2l89 h3l89) hc90) (ya (ys (ef16 N true (List.length h3l89) false h2_1l89 h2_2l89 true h3l89) hc91) yz)))))))))))))))
            | r1 h1_0c3 h1_1nlc3 h1_2nc3 h1_2nlc3 h1_3nlc3 h2c3 h3c3 h4c3 =>
              dsimp only
              cases hc92 : f52 N 1 (32 : Int) [(5 : Int)] with
              | none => exact finF (ctx28 N) Try.f28 [.call (rf49 a0n a0nl h0rw h0_0 h0_1 h0_2 (some (.r0 resc0))), .b false, .call (rf38 (some (.r0 h0c2))), .call (rf11 288 false true h0c2 (some (.r1 h1_0c3 h1_1nlc3 h1_2nc3 h1_2nlc3 h1_3nlc3 h2c3 h3c3 h4c3))), .b false, .call (rf52 1 false (32 : Int) true [(5 : Int)] none)] (by kernel_rfl) (ya (ys (ef49 N a0n a0nl h0rw h0_0 h0_1 h0_2) hc0) (ya (pNB h1x) (ya (ys (ef38 N) hc2) (ya (ys (ef11 N 288 false true h0c2) hc3) (yf (ya (ys (ef52 N 1 false (32 : Int) true [(5 : Int)]) hc92) yz))))))
              | some o =>
                cases o with
                | r0 h1c92 =>
                  dsimp only
                  cases hc93 : f11 N 32 false h1c92 with
                  | none => exact finF (ctx28 N) Try.f28 [.call (rf49 a0n a0nl h0rw h0_0 h0_1 h0_2 (some (.r0 resc0))), .b false, .call (rf38 (some (.r0 h0c2))), .call (rf11 288 false true h0c2 (some (.r1 h1_0c3 h1_1nlc3 h1_2nc3 h1_2nlc3 h1_3nlc3 h2c3 h3c3 h4c3))), .b false, .call (rf52 1 false (32 : Int) true [(5 : Int)] (some (.r0 h1c92))), .call (rf11 32 false true h1c92 none)] (by kernel_rfl) (ya (ys (ef49 N a0n a0nl h0rw h0_0 h0_1 h0_2) hc0) (ya (pNB h1x) (ya (ys (ef38 N) hc2) (ya (ys (ef11 N 288 false true h0c2) hc3) (yf (ya (ys (ef52 N 1 false (32 : Int) true [(5 : Int)]) hc92) (ya (ys (ef11 N 32 false true h1c92) hc93) yz)))))))
                  | some o =>
                    cases o with
                    | r0 res_1c93 =>
                      dsimp only
                      refine br (p := (res_1c93 = (0 : Int))) (fun h94x => ?_) (fun h94x => finF (ctx28 N) Try.f28 [.call (rf49 a0n a0nl h0rw h0_0 h0_1 h0_2 (some (.r0 resc0))), .b false, .call (rf38 (some (.r0 h0c2))), .call (rf11 288 false true h0c2 (some (.r1 h1_0c3 h1_1nlc3 h1_2nc3 h1_2nlc3 h1_3nlc3 h2c3 h3c3 h4c3))), .b false, .call (rf52 1 false (32 : Int) true [(5 : Int)] (some (.r0 h1c92))), .call (rf11 32 false true h1c92 (some (.r0 res_1c93))), .b true] (by kernel_rfl) (ya (ys (ef49 N a0n a0nl h0rw h0_0 h0_1 h0_2) hc0) (ya (pNB h1x) (ya (ys (ef38 N) hc2) (ya (ys (ef11 N 288 false true h0c2) hc3) (yf (ya (ys (ef52 N 1 false (32 : Int) true [(5 : Int)]) hc92) (ya (ys (ef11 N 32 false true h1c92) hc93) (ya (pNX h94x) yz)))))))))
                      cases hc95 : f12 N with
                      | none => exact finF (ctx28 N) Try.f28 [.call (rf49 a0n a0nl h0rw h0_0 h0_1 h0_2 (some (.r0 resc0))), .b false, .call (rf38 (some (.r0 h0c2))), .call (rf11 288 false true h0c2 (some (.r1 h1_0c3 h1_1nlc3 h1_2nc3 h1_2nlc3 h1_3nlc3 h2c3 h3c3 h4c3))), .b false, .call (rf52 1 false (32 : Int) true [(5 : Int)] (some (.r0 h1c92))), .call (rf11 32 false true h1c92 (some (.r0 res_1c93))), .b false, .call (rf12 none)] (by kernel_rfl) (ya (ys (ef49 N a0n a0nl h0rw h0_0 h0_1 h0_2) hc0) (ya (pNB h1x) (ya (ys (ef38 N) hc2) (ya (ys (ef11 N 288 false true h0c2) hc3) (yf (ya (ys (ef52 N 1 false (32 : Int) true [(5 : Int)]) hc92) (ya (ys (ef11 N 32 false true h1c92) hc93) (ya (pX h94x) (ya (ys (ef12 N) hc95) yz)))))))))
                      | some o =>
                        cases o with
                        | r0 =>
                          dsimp only
                          cases hc96 : f41 N (3 : Int) (3 : Int) 0 (0 : Int) (0 : Int) ([] : List Int) with
                          | none => exact finF (ctx28 N) Try.f28 [.call (rf49 a0n a0nl h0rw h0_0 h0_1 h0_2 (some (.r0 resc0))), .b false, .call (rf38 (some (.r0 h0c2))), .call (rf11 288 false true h0c2 (some (.r1 h1_0c3 h1_1nlc3 h1_2nc3 h1_2nlc3 h1_3nlc3 h2c3 h3c3 h4c3))), .b false, .call (rf52 1 false (32 : Int) true [(5 : Int)] (some (.r0 h1c92))), .call (rf11 32 false true h1c92 (some (.r0 res_1c93))), .b false, .call (rf12 (some .r0)), .call (rf41 (3 : Int) (3 : Int) 0 true (0 : Int) (0 : Int) ([] : List Int) none)] (by kernel_rfl) (ya (ys (ef49 N a0n a0nl h0rw h0_0 h0_1 h0_2) hc0) (ya (pNB h1x) (ya (ys (ef38 N) hc2) (ya (ys (ef11 N 288 false true h0c2) hc3) (yf (ya (ys (ef52 N 1 false (32 : Int) true [(5 : Int)]) hc92) (ya (ys (ef11 N 32 false true h1c92) hc93) (ya (pX h94x) (ya (ys (ef12 N) hc95) (ya (ys (ef41 N (3 : Int) (3 : Int) 0 true (0 : Int) (0 : Int) ([] : List Int)) hc96) yz))))))))))
                          | some o =>
                            cases o with
                            | r0 resc96 h0_1c96 h0_2c96 =>
                              dsimp only
                              cases hc97 : f54 N with
                              | none => exact finF (ctx28 N) Try.f28 [.call (rf49 a0n a0nl h0rw h0_0 h0_1 h0_2 (some (.r0 resc0))), .b false, .call (rf38 (some (.r0 h0c2))), .call (rf11 288 false true h0c2 (some (.r1 h1_0c3 h1_1nlc3 h1_2nc3 h1_2nlc3 h1_3nlc3 h2c3 h3c3 h4c3))), .b false, .call (rf52 1 false (32 : Int) true [(5 : Int)] (some (.r0 h1c92))), .call (rf11 32 false true h1c92 (some (.r0 res_1c93))), .b false, .call (rf12 (some .r0)), .call (rf41 (3 : Int) (3 : Int) 0 true (0 : Int) (0 : Int) ([] : List Int) (some (.r0 resc96 h0_1c96 h0_2c96))), .call (rf54 none)] (by kernel_rfl) (ya (ys (ef49 N a0n a0nl h0rw h0_0 h0_1 h0_2) hc0) (ya (pNB h1x) (ya (ys (ef38 N) hc2) (ya (ys (ef11 N 288 false true h0c2) hc3) (yf (ya (ys (ef52 N 1 false (32 : Int) true [(5 : Int)]) hc92) (ya (ys (ef11 N 32 false true h1c92) hc93) (ya (pX h94x) (ya (ys (ef12 N) hc95) (ya (ys (ef41 N (3 : Int) (3 : Int) 0 true (0 : Int) (0 : Int) ([] : List Int)) hc96) (ya (ys (ef54 N) hc97) yz)))))))))))
                              | some o =>
                                cases o with
                                | r0 h0_0c97 h0_1c97 h0_2c97 =>
                                  dsimp only
                                  cases hc98 : f55 N with
                                  | none => exact finF (ctx28 N) Try.f28 [.call (rf49 a0n a0nl h0rw h0_0 h0_1 h0_2 (some (.r0 resc0))), .b false, .call (rf38 (some (.r0 h0c2))), .call (rf11 288 false true h0c2 (some (.r1 h1_0c3 h1_1nlc3 h1_2nc3 h1_2nlc3 h1_3nlc3 h2c3 h3c3 h4c3))), .b false, .call (rf52 1 false (32 : Int) true [(5 : Int)] (some (.r0 h1c92))), .call (rf11 32 false true h1c92 (some (.r0 res_1c93))), .b false, .call (rf12 (some .r0)), .call (rf41 (3 : Int) (3 : Int) 0 true (0 : Int) (0 : Int) ([] : List Int) (some (.r0 resc96 h0_1c96 h0_2c96))), .call (rf54 (some (.r0 h0_0c97 h0_1c97 h0_2c97))), .call (rf55 none)] (by kernel_rfl) (ya (ys (ef49 N a0n a0nl h0rw h0_0 h0_1 h0_2) hc0) (ya (pNB h1x) (ya (ys (ef38 N) hc2) (ya (ys (ef11 N 288 false true h0c2) hc3) (yf (ya (ys (ef52 N 1 false (32 : Int) true [(5 : Int)]) hc92) (ya (ys (ef11 N 32 false true h1c92) hc93) (ya (pX h94x) (ya (ys (ef12 N) hc95) (ya (ys (ef41 N (3 : Int) (3 : Int) 0 true (0 : Int) (0 : Int) ([] : List Int)) hc96) (ya (ys (ef54 N) hc97) (ya (ys (ef55 N) hc98) yz))))))))))))
                                  | some o =>
                                    cases o with
                                    | r0 h0_0c98 h0_1c98 h0_2c98 =>
                                      dsimp only
                                      cases ho114 : lf28_14e N a0n h0_0 h0_1 h0_2 h1_2nc3 h2c3 h3c3 h0_0c97 h0_1c97 h0_2c97 h0_0c98 h0_1c98 h0_2c98 N (0 : Int) true h0_1c96 h0_2c96 ([] : List Int) with
                                      | none => exact finF (ctx28 N) Try.f28 [.call (rf49 a0n a0nl h0rw h0_0 h0_1 h0_2 (some (.r0 resc0))), .b false, .call (rf38 (some (.r0 h0c2))), .call (rf11 288 false true h0c2 (some (.r1 h1_0c3 h1_1nlc3 h1_2nc3 h1_2nlc3 h1_3nlc3 h2c3 h3c3 h4c3))), .b false, .call (rf52 1 false (32 : Int) true [(5 : Int)] (some (.r0 h1c92))), .call (rf11 32 false true h1c92 (some (.r0 res_1c93))), .b false, .call (rf12 (some .r0)), .call (rf41 (3 : Int) (3 : Int) 0 true (0 : Int) (0 : Int) ([] : List Int) (some (.r0 resc96 h0_1c96 h0_2c96))), .call (rf54 (some (.r0 h0_0c97 h0_1c97 h0_2c97))), .call (rf55 (some (.r0 h0_0c98 h0_1c98 h0_2c98))), .out (qlf28_14e a0n a0nl h0rw h0_0 h0_1 h0_2 h1_0c3 h1_1nlc3 h1_2nc3 h1_2nlc3 h1_3nlc3 h2c3 h3c3 h4c3 h0_0c97 h0_1c97 h0_2c97 h0_0c98 h0_1c98 h0_2c98 none)] (by kernel_rfl) (ya (ys (ef49 N a0n a0nl h0rw h0_0 h0_1 h0_2) hc0) (ya (pNB h1x) (ya (ys (ef38 N) hc2) (ya (ys (ef11 N 288 false true h0c2) hc3) (yf (ya (ys (ef52 N 1 false (32 : Int) true [(5 : Int)]) hc92) (ya (ys (ef11 N 32 false true h1c92) hc93) (ya (pX h94x) (ya (ys (ef12 N) hc95) (ya (ys (ef41 N (3 : Int) (3 : Int) 0 true (0 : Int) (0 : Int) ([] : List Int)) hc96) (ya (ys (ef54 N) hc97) (ya (ys (ef55 N) hc98) (ya (ys (elf28_14e N a0n a0nl h0rw h0_0 h0_1 h0_2 h1_0c3 h1_1nlc3 h1_2nc3 h1_2nlc3 h1_3nlc3 h2c3 h3c3 h4c3 h0_0c97 h0_1c97 h0_2c97 h0_0c98 h0_1c98 h0_2c98 N (0 : Int) true h0_1c96 h0_2c96 ([] : List Int)) ho114) yz)))))))))))))
                                      | some o =>
                                        cases o with
                                        | e0 h6_0nll114 h6_1l114 h6_2l114 h7l114 =>
                                          dsimp only
                                          cases hc115 : f15 N (256 : Int) (List.length h2c3) h1_2nc3 (List.length h7l114) h6_1l114 h6_2l114 h2c3 h3c3 h7l114 with
                                          | none => exact finF (ctx28 N) Try.f28 [.call (rf49 a0n a0nl h0rw h0_0 h0_1 h0_2 (some (.r0 resc0))), .b false, .call (rf38 (some (.r0 h0c2))), .call (rf11 288 false true h0c2 (some (.r1 h1_0c3 h1_1nlc3 h1_2nc3 h1_2nlc3 h1_3nlc3 h2c3 h3c3 h4c3))), .b false, .call (rf52 1 false (32 : Int) true [(5 : Int)] (some (.r0 h1c92))), .call (rf11 32 false true h1c92 (some (.r0 res_1c93))), .b false, .call (rf12 (some .r0)), .call (rf41 (3 : Int) (3 : Int) 0 true (0 : Int) (0 : Int) ([] : List Int) (some (.r0 resc96 h0_1c96 h0_2c96))), .call (rf54 (some (.r0 h0_0c97 h0_1c97 h0_2c97))), .call (rf55 (some (.r0 h0_0c98 h0_1c98 h0_2c98))), .out (qlf28_14e a0n a0nl h0rw h0_0 h0_1 h0_2 h1_0c3 h1_1nlc3 h1_2nc3 h1_2nlc3 h1_3nlc3 h2c3 h3c3 h4c3 h0_0c97 h0_1c97 h0_2c97 h0_0c98 h0_1c98 h0_2c98 (some (.e0 h6_0nll114 h6_1l114 h6_2l114 h7l114))), .call (rf15 (256 : Int) h1_0c3 (List.length h2c3) h1_1nlc3 h1_2nc3 h1_2nlc3 (List.length h4c3) h1_3nlc3 (List.length h7l114) h6_0nll114 h6_1l114 h6_2l114 h2c3 h3c3 h4c3 h7l114 none)] (by kernel_rfl) (ya (ys (ef49 N a0n a0nl h0rw h0_0 h0_1 h0_2) hc0) (ya (pNB h1x) (ya (ys (ef38 N) hc2) (ya (ys (ef11 N 288 false true h0c2) hc3) (yf (ya (ys (ef52 N 1 false (32 : Int) true [(5 : Int)]) hc92) (ya (ys (ef11 N 32 false true h1c92) hc93) (ya (pX h94x) (ya (ys (ef12 N) hc95) (ya (ys (ef41 N (3 : Int) (3 : Int) 0 true (0 : Int) (0 : Int) ([] : List Int)) hc96) (ya (ys (ef54 N) hc97) (ya (ys (ef55 N) hc98) (ya (ys (elf28_14e N a0n a0nl h0rw h0_0 h0_1 h0_2 h1_0c3 h1_1nlc3 h1_2nc3 h1_2nlc3 h1_3nlc3 h2c3 h3c3 h4c3 h0_0c97 h0_1c97 h0_2c97 h0_0c98 h0_1c98 h0_2c98 N (0 : Int) true h0_1c96 h0_2c96 ([] : List Int)) ho114) (ya (ys (ef15 N (256 : Int) h1_0c3 (List.length h2c3) h1_1nlc3 h1_2nc3 h1_2nlc3 (List.length h4c3) h1_3nlc3 (List.length h7l114) h6_0nll114 h6_1l114 h6_2l114 h2c3 h3c3 h4c3 h7l114) hc115) yz))))))))))))))
                                          | some o =>
                                            cases o with
                                            | r0 resc115 h1_1c115 h1_2c115 =>
                                              dsimp only
                                              cases hc116 : f16 N (List.length h7l114) h6_0nll114 h1_1c115 h1_2c115 h7l114 with
                                              | none => exact finF (ctx28 N) Try.f28 [.call (rf49 a0n a0nl h0rw h0_0 h0_1 h0_2 (some (.r0 resc0))), .b false, .call (rf38 (some (.r0 h0c2))), .call (rf11 288 false true h0c2 (some (.r1 h1_0c3 h1_1nlc3 h1_2nc3 h1_2nlc3 h1_3nlc3 h2c3 h3c3 h4c3))), .b false, .call (rf52 1 false (32 : Int) true [(5 : Int)] (some (.r0 h1c92))), .call (rf11 32 false true h1c92 (some (.r0 res_1c93))), .b false, .call (rf12 (some .r0)), .call (rf41 (3 : Int) (3 : Int) 0 true (0 : Int) (0 : Int) ([] : List Int) (some (.r0 resc96 h0_1c96 h0_2c96))), .call (rf54 (some (.r0 h0_0c97 h0_1c97 h0_2c97))), .call (rf55 (some (.r0 h0_0c98 h0_1c98 h0_2c98))), .out (qlf28_14e a0n a0nl h0rw h0_0 h0_1 h0_2 h1_0c3 h1_1nlc3 h1_2nc3 h1_2nlc3 h1_3nlc3 h2c3 h3c3 h4c3 h0_0c97 h0_1c97 h0_2c97 h0_0c98 h0_1c98 h0_2c98 (some (.e0 h6_0nll114 h6_1l114 h6_2l114 h7l114))), .call (rf15 (256 : Int) h1_0c3 (List.length h2c3) h1_1nlc3 h1_2nc3 h1_2nlc3 (List.length h4c3) h1_3nlc3 (List.length h7l114) h6_0nll114 h6_1l114 h6_2l114 h2c3 h3c3 h4c3 h7l114 (some (.r0 resc115 h1_1c115 h1_2c115))), .call (rf16 true (List.length h7l114) h6_0nll114 h1_1c115 h1_2c115 true h7l114 none)] (by kernel_rfl) (ya (ys (ef49 N a0n a0nl h0rw h0_0 h0_1 h0_2) hc0) (ya (pNB h1x) (ya (ys (ef38 N) hc2) (ya (ys (ef11 N 288 false true h0c2) hc3) (yf (ya (ys (ef52 N 1 false (32 : Int) true [(5 : Int)]) hc92) (ya (ys (ef11 N 32 false true h1c92) hc93) (ya (pX h94x) (ya (ys (ef12 N) hc95) (ya (ys (ef41 N (3 : Int) (3 : Int) 0 true (0 : Int) (0 : Int) ([] : List Int)) hc96) (ya (ys (ef54 N) hc97) (ya (ys (ef55 N) hc98) (ya (ys (elf28_14e N a0n a0nl h0rw h0_0 h0_1 h0_2 h1_0c3 h1_1nlc3 h1_2nc3 h1_2nlc3 h1_3nlc3 h2c3 h3c3 h4c3 h0_0c97 h0_1c97 h0_2c97 h0_0c98 h0_1c98 h0_2c98 N (0 : Int) true h0_1c96 h0_2c96 ([] : List Int)) ho114) (ya (ys (ef15 N (256 : Int) h1_0c3 (List.length h2c3) h1_1nlc3 h1_2nc3 h1_2nlc3 (List.length h4c3) h1_3nlc3 (List.length h7l114) h6_0nll114 h6_1l114 h6_2l114 h2c3 h3c3 h4c3 h7l114) hc115) (ya (ys (ef16 N true (List.length h7l114) h6_0nll114 h1_1c115 h1_2c115 true h7l114) hc116) yz)))))))))))))))
                                              | some o =>
                                                cases o with
                                                | r0 resnlc116 h2c116 =>
                                                  dsimp only
                                                  exact finF (ctx28 N) Try.f28 [.call (rf49 a0n a0nl h0rw h0_0 h0_1 h0_2 (some (.r0 resc0))), .b false, .call (rf38 (some (.r0 h0c2))), .call (rf11 288 false true h0c2 (some (.r1 h1_0c3 h1_1nlc3 h1_2nc3 h1_2nlc3 h1_3nlc3 h2c3 h3c3 h4c3))), .b false, .call (rf52 1 false (32 : Int) true [(5 : Int)] (some (.r0 h1c92))), .call (rf11 32 false true h1c92 (some (.r0 res_1c93))), .b false, .call (rf12 (some .r0)), .call (rf41 (3 : Int) (3 : Int) 0 true (0 : Int) (0 : Int) ([] : List Int) (some (.r0 resc96 h0_1c96 h0_2c96))), .call (rf54 (some (.r0 h0_0c97 h0_1c97 h0_2c97))), .call (rf55 (some (.r0 h0_0c98 h0_1c98 h0_2c98))), .out (qlf28_14e a0n a0nl h0rw h0_0 h0_1 h0_2 h1_0c3 h1_1nlc3 h1_2nc3 h1_2nlc3 h1_3nlc3 h2c3 h3c3 h4c3 h0_0c97 h0_1c97 h0_2c97 h0_0c98 h0_1c98 h0_2c98 (some (.e0 h6_0nll114 h6_1l114 h6_2l114 h7l114))), .call (rf15 (256 : Int) h1_0c3 (List.length h2c3) h1_1nlc3 h1_2nc3 h1_2nlc3 (List.length h4c3) h1_3nlc3 (List.length h7l114) h6_0nll114 h6_1l114 h6_2l114 h2c3 h3c3 h4c3 h7l114 (some (.r0 resc115 h1_1c115 h1_2c115))), .call (rf16 true (List.length h7l114) h6_0nll114 h1_1c115 h1_2c115 true h7l114 (some (.r0 resnlc116 h2c116)))] (by kernel_rfl) (ya (ys (ef49 N a0n a0nl h0rw h0_0 h0_1 h0_2) hc0) (ya (pNB h1x) (ya (ys (ef38 N) hc2) (ya (ys (ef11 N 288 false true h0c2) hc3) (yf (ya (ys (ef52 N 1 false (32 : Int) true [(5 : Int)]) hc92) (ya (ys (ef11 N 32 false true h1c92) hc93) (ya (pX h94x) (ya (ys (ef12 N) hc95) (ya (ys (ef41 N (3 : Int) (3 : Int) 0 true (0 : Int) (0 : Int) ([] : List Int)) hc96) (ya (ys (ef54 N) hc97) (ya (ys (ef55 N) hc98) (ya (ys (elf28_14e N a0n a0nl h0rw h0_0 h0_1 h0_2 h1_0c3 h1_1nlc3 h1_2nc3 h1_2nlc3 h1_3nlc3 h2c3 h3c3 h4c3 h0_0c97 h0_1c97 h0_2c97 h0_0c98 h0_1c98 h0_2c98 N (0 : Int) true h0_1c96 h0_2c96 ([] : List Int)) ho114) (ya (ys (ef15 N (256 : Int) h1_0c3 (List.length h2c3) h1_1nlc3 h1_2nc3 h1_2nlc3 (List.length h4c3) h1_3nlc3 (List.length h7l114) h6_0nll114 h6_1l114 h6_2l114 h2c3 h3c3 h4c3 h7l114) hc115) (ya (ys (ef16 N true (List.length h7l114) h6_0nll114 h1_1c115 h1_2c115 true h7l114) hc116) yz)))))))))))))))
                                            | r1 resc115 h1_1c115 h1_2c115 h6c115 =>
                                              dsimp only
                                              cases hc117 : f16 N (List.length h6c115) false h1_1c115 h1_2c115 h6c115 with
                                              | none => exact finF (ctx28 N) Try.f28 [.call (rf49 a0n a0nl h0rw h0_0 h0_1 h0_2 (some (.r0 resc0))), .b false, .call (rf38 (some (.r0 h0c2))), .call (rf11 288 false true h0c2 (some (.r1 h1_0c3 h1_1nlc3 h1_2nc3 h1_2nlc3 h1_3nlc3 h2c3 h3c3 h4c3))), .b false, .call (rf52 1 false (32 : Int) true [(5 : Int)] (some (.r0 h1c92))), .call (rf11 32 false true h1c92 (some (.r0 res_1c93))), .b false, .call (rf12 (some .r0)), .call (rf41 (3 : Int) (3 : Int) 0 true (0 : Int) (0 : Int) ([] : List Int) (some (.r0 resc96 h0_1c96 h0_2c96))), .call (rf54 (some (.r0 h0_0c97 h0_1c97 h0_2c97))), .call (rf55 (some (.r0 h0_0c98 h0_1c98 h0_2c98))), .out (qlf28_14e a0n a0nl h0rw h0_0 h0_1 h0_2 h1_0c3 h1_1nlc3 h1_2nc3 h1_2nlc3 h1_3nlc3 h2c3 h3c3 h4c3 h0_0c97 h0_1c97 h0_2c97 h0_0c98 h0_1c98 h0_2c98 (some (.e0 h6_0nll114 h6_1l114 h6_2l114 h7l114))), .call (rf15 (256 : Int) h1_0c3 (List.length h2c3) h1_1nlc3 h1_2nc3 h1_2nlc3 (List.length h4c3) h1_3nlc3 (List.length h7l114) h6_0nll114 h6_1l114 h6_2l114 h2c3 h3c3 h4c3 h7l114 (some (.r1 resc115 h1_1c115 h1_2c115 h6c115))), .call (rf16 true (List.length h6c115) false h1_1c115 h1_2c115 true h6c115 none)] (by kernel_rfl) (ya (ys (ef49 N a0n a0nl h0rw h0_0 h0_1 h0_2) hc0) (ya (pNB h1x) (ya (ys (ef38 N) hc2) (ya (ys (ef11 N 288 false true h0c2) hc3) (yf (ya (ys (ef52 N 1 false (32 : Int) true [(5 : Int)]) hc92) (ya (ys (ef11 N 32 false true h1c92) hc93) (ya (pX h94x) (ya (ys (ef12 N) hc95) (ya (ys (ef41 N (3 : Int) (3 : Int) 0 true (0 : Int) (0 : Int) ([] : List Int)) hc96) (ya (ys (ef54 N) hc97) (ya (ys (ef55 N) hc98) (ya (ys (elf28_14e N a0n a0nl h0rw h0_0 h0_1 h0_2 h1_0c3 h1_1nlc3 h1_2nc3 h1_2nlc3 h1_3nlc3 h2c3 h3c3 h4c3 h0_0c97 h0_1c97 h0_2c97 h0_0c98 h0_1c98 h0_2c98 N (0 : Int) true h0_1c96 h0_2c96 ([] : List Int)) ho114) (ya (ys (ef15 N (256 : Int) h1_0c3 (List.length h2c3) h1_1nlc3 h1_2nc3 h1_2nlc3 (List.length h4c3) h1_3nlc3 (List.length h7l114) h6_0nll114 h6_1l114 h6_2l114 h2c3 h3c3 h4c3 h7l114) hc115) (ya (ys (ef16 N true (List.length h6c115) false h1_1c115 h1_2c115 true h6c115) hc117) yz)))))))))))))))
                                              | some o =>
                                                cases o with
                                                | r0 resnlc117 h2c117 =>
                                                  dsimp only
                                                  exact finF (ctx28 N) Try.f28 [.call (rf49 a0n a0nl h0rw h0_0 h0_1 h0_2 (some (.r0 resc0))), .b false, .call (rf38 (some (.r0 h0c2))), .call (rf11 288 false true h0c2 (some (.r1 h1_0c3 h1_1nlc3 h1_2nc3 h1_2nlc3 h1_3nlc3 h2c3 h3c3 h4c3))), .b false, .call (rf52 1 false (32 : Int) true [(5 : Int)] (some (.r0 h1c92))), .call (rf11 32 false true h1c92 (some (.r0 res_1c93))), .b false, .call (rf12 (some .r0)), .call (rf41 (3 : Int) (3 : Int) 0 true (0 : Int) (0 : Int) ([] : List Int) (some (.r0 resc96 h0_1c96 h0_2c96))), .call (rf54 (some (.r0 h0_0c97 h0_1c97 h0_2c97))), .call (rf55 (some (.r0 h0_0c98 h0_1c98 h0_2c98))), .out (qlf28_14e a0n a0nl h0rw h0_0 h0_1 h0_2 h1_0c3 h1_1nlc3 h1_2nc3 h1_2nlc3 h1_3nlc3 h2c3 h3c3 h4c3 h0_0c97 h0_1c97 h0_2c97 h0_0c98 h0_1c98 h0_2c98 (some (.e0 h6_0nll114 h6_1l114 h6_2l114 h7l114))), .call (rf15 (256 : Int) h1_0c3 (List.length h2c3) h1_1nlc3 h1_2nc3 h1_2nlc3 (List.length h4c3) h1_3nlc3 (List.length h7l114) h6_0nll114 h6_1l114 h6_2l114 h2c3 h3c3 h4c3 h7l114 (some (.r1 resc115 h1_1c115 h1_2c115 h6c115))), .call (rf16 true (List.length h6c115) false h1_1c115 h1_2c115 true h6c115 (some (.r0 resnlc117 h2c117)))] (by kernel_rfl) (ya (ys (ef49 N a0n a0nl h0rw h0_0 h0_1 h0_2) hc0) (ya (pNB h1x) (ya (ys (ef38 N) hc2) (ya (ys (ef11 N 288 false true h0c2) hc3) (yf (ya (ys (ef52 N 1 false (32 : Int) true [(5 : Int)]) hc92) (ya (ys (ef11 N 32 false true h1c92) hc93) (ya (pX h94x) (ya (ys (ef12 N) hc95) (ya (ys (ef41 N (3 : Int) (3 : Int) 0 true (0 : Int) (0 : Int) ([] : List Int)) hc96) (ya (ys (ef54 N) hc97) (ya (ys (ef55 N) hc98) (ya (ys (elf28_14e N a0n a0nl h0rw h0_0 h0_1 h0_2 h1_0c3 h1_1nlc3 h1_2nc3 h1_2nlc3 h1_3nlc3 h2c3 h3c3 h4c3 h0_0c97 h0_1c97 h0_2c97 h0_0c98 h0_1c98 h0_2c98 N (0 : Int) true h0_1c96 h0_2c96 ([] : List Int)) ho114) (ya (ys (ef15 N (256 : Int) h1_0c3 (List.length h2c3) h1_1nlc3 h1_2nc3 h1_2nlc3 (List.length h4c3) h1_3nlc3 (List.length h7l114) h6_0nll114 h6_1l114 h6_2l114 h2c3 h3c3 h4c3 h7l114) hc115) (ya (ys (ef16 N true (List.length h6c115) false h1_1c115 h1_2c115 true h6c115) hc117) yz)))))))))))))))
                            | r1 h0_1c96 h0_2c96 h2c96 =>
                              dsimp only
                              cases hc118 : f54 N with
                              | none => exact finF (ctx28 N) Try.f28 [.call (rf49 a0n a0nl h0rw h0_0 h0_1 h0_2 (some (.r0 resc0))), .b false, .call (rf38 (some (.r0 h0c2))), .call (rf11 288 false true h0c2 (some (.r1 h1_0c3 h1_1nlc3 h1_2nc3 h1_2nlc3 h1_3nlc3 h2c3 h3c3 h4c3))), .b false, .call (rf52 1 false (32 : Int) true [(5 : Int)] (some (.r0 h1c92))), .call (rf11 32 false true h1c92 (some (.r0 res_1c93))), .b false, .call (rf12 (some .r0)), .call (rf41 (3 : Int) (3 : Int) 0 true (0 : Int) (0 : Int) ([] : List Int) (some (.r1 h0_1c96 h0_2c96 h2c96))), .call (rf54 none)] (by kernel_rfl) (ya (ys (ef49 N a0n a0nl h0rw h0_0 h0_1 h0_2) hc0) (ya (pNB h1x) (ya (ys (ef38 N) hc2) (ya (ys (ef11 N 288 false true h0c2) hc3) (yf (ya (ys (ef52 N 1 false (32 : Int) true [(5 : Int)]) hc92) (ya (ys (ef11 N 32 false true h1c92) hc93) (ya (pX h94x) (ya (ys (ef12 N) hc95) (ya (ys (ef41 N (3 : Int) (3 : Int) 0 true (0 : Int) (0 : Int) ([] : List Int)) hc96) (ya (ys (ef54 N) hc118) yz)))))))))))
                              | some o =>
                                cases o with
                                | r0 h0_0c118 h0_1c118 h0_2c118 =>
                                  dsimp only
                                  cases hc119 : f55 N with
                                  | none => exact finF (ctx28 N) Try.f28 [.call (rf49 a0n a0nl h0rw h0_0 h0_1 h0_2 (some (.r0 resc0))), .b false, .call (rf38 (some (.r0 h0c2))), .call (rf11 288 false true h0c2 (some (.r1 h1_0c3 h1_1nlc3 h1_2nc3 h1_2nlc3 h1_3nlc3 h2c3 h3c3 h4c3))), .b false, .call (rf52 1 false (32 : Int) true [(5 : Int)] (some (.r0 h1c92))), .call (rf11 32 false true h1c92 (some (.r0 res_1c93))), .b false, .call (rf12 (some .r0)), .call (rf41 (3 : Int) (3 : Int) 0 true (0 : Int) (0 : Int) ([] : List Int) (some (.r1 h0_1c96 h0_2c96 h2c96))), .call (rf54 (some (.r0 h0_0c118 h0_1c118 h0_2c118))), .call (rf55 none)] (by kernel_rfl) (ya (ys (ef49 N a0n a0nl h0rw h0_0 h0_1 h0_2) hc0) (ya (pNB h1x) (ya (ys (ef38 N) hc2) (ya (ys (ef11 N 288 false true h0c2) hc3) (yf (ya (ys (ef52 N 1 false (32 : Int) true [(5 : Int)]) hc92) (ya (ys (ef11 N 32 false true h1c92) hc93) (ya (pX h94x) (ya (ys (ef12 N) hc95) (ya (ys (ef41 N (3 : Int) (3 : Int) 0 true (0 : Int) (0 : Int) ([] : List Int)) hc96) (ya (ys (ef54 N) hc118) (ya (ys (ef55 N) hc119) yz))))))))))))
                                  | some o =>
                                    cases o with
                                    | r0 h0_0c119 h0_1c119 h0_2c119 =>
                                      dsimp only
                                      cases ho135 : lf28_14f N a0n h0_0 h0_1 h0_2 h1_2nc3 h2c3 h3c3 h0_0c118 h0_1c118 h0_2c118 h0_0c119 h0_1c119 h0_2c119 N (0 : Int) h0_1c96 h0_2c96 h2c96 with
                                      | none => exact finF (ctx28 N) Try.f28 [.call (rf49 a0n a0nl h0rw h0_0 h0_1 h0_2 (some (.r0 resc0))), .b false, .call (rf38 (some (.r0 h0c2))), .call (rf11 288 false true h0c2 (some (.r1 h1_0c3 h1_1nlc3 h1_2nc3 h1_2nlc3 h1_3nlc3 h2c3 h3c3 h4c3))), .b false, .call (rf52 1 false (32 : Int) true [(5 : Int)] (some (.r0 h1c92))), .call (rf11 32 false true h1c92 (some (.r0 res_1c93))), .b false, .call (rf12 (some .r0)), .call (rf41 (3 : Int) (3 : Int) 0 true (0 : Int) (0 : Int) ([] : List Int) (some (.r1 h0_1c96 h0_2c96 h2c96))), .call (rf54 (some (.r0 h0_0c118 h0_1c118 h0_2c118))), .call (rf55 (some (.r0 h0_0c119 h0_1c119 h0_2c119))), .out (qlf28_14f a0n a0nl h0rw h0_0 h0_1 h0_2 h1_0c3 h1_1nlc3 h1_2nc3 h1_2nlc3 h1_3nlc3 h2c3 h3c3 h4c3 h0_0c118 h0_1c118 h0_2c118 h0_0c119 h0_1c119 h0_2c119 none)] (by kernel_rfl) (ya (ys (ef49 N a0n a0nl h0rw h0_0 h0_1 h0_2) hc0) (ya (pNB h1x) (ya (ys (ef38 N) hc2) (ya (ys (ef11 N 288 false true h0c2) hc3) (yf (ya (ys (ef52 N 1 false (32 : Int) true [(5 : Int)]) hc92) (ya (ys (ef11 N 32 false true h1c92) hc93) (ya (pX h94x) (ya (ys (ef12 N) hc95) (ya (ys (ef41 N (3 : Int) (3 : Int) 0 true (0 : Int) (0 : Int) ([] : List Int)) hc96) (ya (ys (ef54 N) hc118) (ya (ys (ef55 N) hc119) (ya (ys (elf28_14f N a0n a0nl h0rw h0_0 h0_1 h0_2 h1_0c3 h1_1nlc3 h1_2nc3 h1_2nlc3 h1_3nlc3 h2c3 h3c3 h4c3 h0_0c118 h0_1c118 h0_2c118 h0_0c119 h0_1c119 h0_2c119 N (0 : Int) h0_1c96 h0_2c96 h2c96) ho135) yz)))))))))))))
                                      | some o =>
                                        cases o with
                                        | e0 h6_1l135 h6_2l135 h7l135 =>
                                          dsimp only
                                          cases hc136 : f15 N (256 : Int) (List.length h2c3) h1_2nc3 (List.length h7l135) h6_1l135 h6_2l135 h2c3 h3c3 h7l135 with
                                          | none => exact finF (ctx28 N) Try.f28 [.call (rf49 a0n a0nl h0rw h0_0 h0_1 h0_2 (some (.r0 resc0))), .b false, .call (rf38 (some (.r0 h0c2))), .call (rf11 288 false true h0c2 (some (.r1 h1_0c3 h1_1nlc3 h1_2nc3 h1_2nlc3 h1_3nlc3 h2c3 h3c3 h4c3))), .b false, .call (rf52 1 false (32 : Int) true [(5 : Int)] (some (.r0 h1c92))), .call (rf11 32 false true h1c92 (some (.r0 res_1c93))), .b false, .call (rf12 (some .r0)), .call (rf41 (3 : Int) (3 : Int) 0 true (0 : Int) (0 : Int) ([] : List Int) (some (.r1 h0_1c96 h0_2c96 h2c96))), .call (rf54 (some (.r0 h0_0c118 h0_1c118 h0_2c118))), .call (rf55 (some (.r0 h0_0c119 h0_1c119 h0_2c119))), .out (qlf28_14f a0n a0nl h0rw h0_0 h0_1 h0_2 h1_0c3 h1_1nlc3 h1_2nc3 h1_2nlc3 h1_3nlc3 h2c3 h3c3 h4c3 h0_0c118 h0_1c118 h0_2c118 h0_0c119 h0_1c119 h0_2c119 (some (.e0 h6_1l135 h6_2l135 h7l135))), .call (rf15 (256 : Int) h1_0c3 (List.length h2c3) h1_1nlc3 h1_2nc3 h1_2nlc3 (List.length h4c3) h1_3nlc3 (List.length h7l135) false h6_1l135 h6_2l135 h2c3 h3c3 h4c3 h7l135 none)] (by kernel_rfl) (ya (ys (ef49 N a0n a0nl h0rw h0_0 h0_1 h0_2) hc0) (ya (pNB h1x) (ya (ys (ef38 N) hc2) (ya (ys (ef11 N 288 false true h0c2) hc3) (yf (ya (ys (ef52 N 1 false (32 : Int) true [(5 : Int)]) hc92) (ya (ys (ef11 N 32 false true h1c92) hc93) (ya (pX h94x) (ya (ys (ef12 N) hc95) (ya (ys (ef41 N (3 : Int) (3 : Int) 0 true (0 : Int) (0 : Int) ([] : List Int)) hc96) (ya (ys (ef54 N) hc118) (ya (ys (ef55 N) hc119) (ya (ys (elf28_14f N a0n a0nl h0rw h0_0 h0_1 h0_2 h1_0c3 h1_1nlc3 h1_2nc3 h1_2nlc3 h1_3nlc3 h2c3 h3c3 h4c3 h0_0c118 h0_1c118 h0_2c118 h0_0c119 h0_1c119 h0_2c119 N (0 : Int) h0_1c96 h0_2c96 h2c96) ho135) (ya (ys (ef15 N (256 : Int) h1_0c3 (List.length h2c3) h1_1nlc3 h1_2nc3 h1_2nlc3 (List.length h4c3) h1_3nlc3 (List.length h7l135) false h6_1l135 h6_2l135 h2c3 h3c3 h4c3 h7l135) hc136) yz))))))))))))))
                                          | some o =>
                                            cases o with
                                            | r0 resc136 h1_1c136 h1_2c136 =>
                                              dsimp only
                                              cases hc137 : f16 N (List.length h7l135) false h1_1c136 h1_2c136 h7l135 with
                                              | none => exact finF (ctx28 N) Try.f28 [.call (rf49 a0n a0nl h0rw h0_0 h0_1 h0_2 (some (.r0 resc0))), .b false, .call (rf38 (some (.r0 h0c2))), .call (rf11 288 false true h0c2 (some (.r1 h1_0c3 h1_1nlc3 h1_2nc3 h1_2nlc3 h1_3nlc3 h2c3 h3c3 h4c3))), .b false, .call (rf52 1 false (32 : Int) true [(5 : Int)] (some (.r0 h1c92))), .call (rf11 32 false true h1c92 (some (.r0 res_1c93))), .b false, .call (rf12 (some .r0)), .call (rf41 (3 : Int) (3 : Int) 0 true (0 : Int) (0 : Int) ([] : List Int) (some (.r1 h0_1c96 h0_2c96 h2c96))), .call (rf54 (some (.r0 h0_0c118 h0_1c118 h0_2c118))), .call (rf55 (some (.r0 h0_0c119 h0_1c119 h0_2c119))), .out (qlf28_14f a0n a0nl h0rw h0_0 h0_1 h0_2 h1_0c3 h1_1nlc3 h1_2nc3 h1_2nlc3 h1_3nlc3 h2c3 h3c3 h4c3 h0_0c118 h0_1c118 h0_2c118 h0_0c119 h0_1c119 h0_2c119 (some (.e0 h6_1l135 h6_2l135 h7l135))), .call (rf15 (256 : Int) h1_0c3 (List.length h2c3) h1_1nlc3 h1_2nc3 h1_2nlc3 (List.length h4c3) h1_3nlc3 (List.length h7l135) false h6_1l135 h6_2l135 h2c3 h3c3 h4c3 h7l135 (some (.r0 resc136 h1_1c136 h1_2c136))), .call (rf16 true (List.length h7l135) false h1_1c136 h1_2c136 true h7l135 none)] (by kernel_rfl) (ya (ys (ef49 N a0n a0nl h0rw h0_0 h0_1 h0_2) hc0) (ya (pNB h1x) (ya (ys (ef38 N) hc2) (ya (ys (ef11 N 288 false true h0c2) hc3) (yf (ya (ys (ef52 N 1 false (32 : Int) true [(5 : Int)]) hc92) (ya (ys (ef11 N 32 false true h1c92) hc93) (ya (pX h94x) (ya (ys (ef12 N) hc95) (ya (ys (ef41 N (3 : Int) (3 : Int) 0 true (0 : Int) (0 : Int) ([] : List Int)) hc96) (ya (ys (ef54 N) hc118) (ya (ys (ef55 N) hc119) (ya (ys (elf28_14f N a0n a0nl h0rw h0_0 h0_1 h0_2 h1_0c3 h1_1nlc3 h1_2nc3 h1_2nlc3 h1_3nlc3 h2c3 h3c3 h4c3 h0_0c118 h0_1c118 h0_2c118 h0_0c119 h0_1c119 h0_2c119 N (0 : Int) h0_1c96 h0_2c96 h2c96) ho135) (ya (ys (ef15 N (256 : Int) h1_0c3 (List.length h2c3) h1_1nlc3 h1_2nc3 h1_2nlc3 (List.length h4c3) h1_3nlc3 (List.length h7l135) false h6_1l135 h6_2l135 h2c3 h3c3 h4c3 h7l135) hc136) (ya (ys (ef16 N true (List.length h7l135) false h1_1c136 h1_2c136 true h7l135) hc137) yz)))))))))))))))
                                              | some o =>
                                                cases o with
                                                | r0 resnlc137 h2c137 =>
                                                  dsimp only
                                                  exact finF (ctx28 N) Try.f28 [.call (rf49 a0n a0nl h0rw h0_0 h0_1 h0_2 (some (.r0 resc0))), .b false, .call (rf38 (some (.r0 h0c2))), .call (rf11 288 false true h0c2 (some (.r1 h1_0c3 h1_1nlc3 h1_2nc3 h1_2nlc3 h1_3nlc3 h2c3 h3c3 h4c3))), .b false, .call (rf52 1 false (32 : Int) true [(5 : Int)] (some (.r0 h1c92))), .call (rf11 32 false true h1c92 (some (.r0 res_1c93))), .b false, .call (rf12 (some .r0)), .call (rf41 (3 : Int) (3 : Int) 0 true (0 : Int) (0 : Int) ([] : List Int) (some (.r1 h0_1c96 h0_2c96 h2c96))), .call (rf54 (some (.r0 h0_0c118 h0_1c118 h0_2c118))), .call (rf55 (some (.r0 h0_0c119 h0_1c119 h0_2c119))), .out (qlf28_14f a0n a0nl h0rw h0_0 h0_1 h0_2 h1_0c3 h1_1nlc3 h1_2nc3 h1_2nlc3 h1_3nlc3 h2c3 h3c3 h4c3 h0_0c118 h0_1c118 h0_2c118 h0_0c119 h0_1c119 h0_2c119 (some (.e0 h6_1l135 h6_2l135 h7l135))), .call (rf15 (256 : Int) h1_0c3 (List.length h2c3) h1_1nlc3 h1_2nc3 h1_2nlc3 (List.length h4c3) h1_3nlc3 (List.length h7l135) false h6_1l135 h6_2l135 h2c3 h3c3 h4c3 h7l135 (some (.r0 resc136 h1_1c136 h1_2c136))), .call (rf16 true (List.length h7l135) false h1_1c136 h1_2c136 true h7l135 (some (.r0 resnlc137 h2c137)))] (by kernel_rfl) (ya (ys (ef49 N a0n a0nl h0rw h0_0 h0_1 h0_2) hc0) (ya (pNB h1x) (ya (ys (ef38 N) hc2) (ya (ys (ef11 N 288 false true h0c2) hc3) (yf (ya (ys (ef52 N 1 false (32 : Int) true [(5 : Int)]) hc92) (ya (ys (ef11 N 32 false true h1c92) hc93) (ya (pX h94x) (ya (ys (ef12 N) hc95) (ya (ys (ef41 N (3 : Int) (3 : Int) 0 true (0 : Int) (0 : Int) ([] : List Int)) hc96) (ya (ys (ef54 N) hc118) (ya (ys (ef55 N) hc119) (ya (ys (elf28_14f N a0n a0nl h0rw h0_0 h0_1 h0_2 h1_0c3 h1_1nlc3 h1_2nc3 h1_2nlc3 h1_3nlc3 h2c3 h3c3 h4c3 h0_0c118 h0_1c118 h0_2c118 h0_0c119 h0_1c119 h0_2c119 N (0 : Int) h0_1c96 h0_2c96 h2c96) ho135) (ya (ys (ef15 N (256 : Int) h1_0c3 (List.length h2c3) h1_1nlc3 h1_2nc3 h1_2nlc3 (List.length h4c3) h1_3nlc3 (List.length h7l135) false h6_1l135 h6_2l135 h2c3 h3c3 h4c3 h7l135) hc136) (ya (ys (ef16 N true (List.length h7l135) false h1_1c136 h1_2c136 true h7l135) hc137) yz)))))))))))))))
                                            | r1 resc136 h1_1c136 h1_2c136 h6c136 =>
                                              dsimp only
                                              cases hc138 : f16 N (List.length h6c136) false h1_1c136 h1_2c136 h6c136 with
                                              | none => exact finF (ctx28 N) Try.f28 [.call (rf49 a0n a0nl h0rw h0_0 h0_1 h0_2 (some (.r0 resc0))), .b false, .call (rf38 (some (.r0 h0c2))), .call (rf11 288 false true h0c2 (some (.r1 h1_0c3 h1_1nlc3 h1_2nc3 h1_2nlc3 h1_3nlc3 h2c3 h3c3 h4c3))), .b false, .call (rf52 1 false (32 : Int) true [(5 : Int)] (some (.r0 h1c92))), .call (rf11 32 false true h1c92 (some (.r0 res_1c93))), .b false, .call (rf12 (some .r0)), .call (rf41 (3 : Int) (3 : Int) 0 true (0 : Int) (0 : Int) ([] : List Int) (some (.r1 h0_1c96 h0_2c96 h2c96))), .call (rf54 (some (.r0 h0_0c118 h0_1c118 h0_2c118))), .call (rf55 (some (.r0 h0_0c119 h0_1c119 h0_2c119))), .out (qlf28_14f a0n a0nl h0rw h0_0 h0_1 h0_2 h1_0c3 h1_1nlc3 h1_2nc3 h1_2nlc3 h1_3nlc3 h2c3 h3c3 h4c3 h0_0c118 h0_1c118 h0_2c118 h0_0c119 h0_1c119 h0_2c119 (some (.e0 h6_1l135 h6_2l135 h7l135))), .call (rf15 (256 : Int) h1_0c3 (List.length h2c3) h1_1nlc3 h1_2nc3 h1_2nlc3 (List.length h4c3) h1_3nlc3 (List.length h7l135) false h6_1l135 h6_2l135 h2c3 h3c3 h4c3 h7l135 (some (.r1 resc136 h1_1c136 h1_2c136 h6c136))), .call (rf16 true (List.length h6c136) false h1_1c136 h1_2c136 true h6c136 none)] (by kernel_rfl) (ya (ys (ef49 N a0n a0nl h0rw h0_0 h0_1 h0_2) hc0) (ya (pNB h1x) (ya (ys (ef38 N) hc2) (ya (ys (ef11 N 288 false true h0c2) hc3) (yf (ya (ys (ef52 N 1 false (32 : Int) true [(5 : Int)]) hc92) (ya (ys (ef11 N 32 false true h1c92) hc93) (ya (pX h94x) (ya (ys (ef12 N) hc95) (ya (ys (ef41 N (3 : Int) (3 : Int) 0 true (0 : Int) (0 : Int) ([] : List Int)) hc96) (ya (ys (ef54 N) hc118) (ya (ys (ef55 N) hc119) (ya (ys (elf28_14f N a0n a0nl h0rw h0_0 h0_1 h0_2 h1_0c3 h1_1nlc3 h1_2nc3 h1_2nlc3 h1_3nlc3 h2c3 h3c3 h4c3 h0_0c118 h0_1c118 h0_2c118 h0_0c119 h0_1c119 h0_2c119 N (0 : Int) h0_1c96 h0_2c96 h2c96) ho135) (ya (ys (ef15 N (256 : Int) h1_0c3 (List.length h2c3) h1_1nlc3 h1_2nc3 h1_2nlc3 (List.length h4c3) h1_3nlc3 (List.length h7l135) false h6_1l135 h6_2l135 h2c3 h3c3 h4c3 h7l135) hc136) (ya (ys (ef16 N true (List.length h6c136) false h1_1c136 h1_2c136 true h6c136) hc138) yz)))))))))))))))
                                              | some o =>
                                                cases o with
                                                | r0 resnlc138 h2c138 =>
                                                  dsimp only
                                                  exact finF (ctx28 N) Try.f28 [.call (rf49 a0n a0nl h0rw h0_0 h0_1 h0_2 (some (.r0 resc0))), .b false, .call (rf38 (some (.r0 h0c2))), .call (rf11 288 false true h0c2 (some (.r1 h1_0c3 h1_1nlc3 h1_2nc3 h1_2nlc3 h1_3nlc3 h2c3 h3c3 h4c3))), .b false, .call (rf52 1 false (32 : Int) true [(5 : Int)] (some (.r0 h1c92))), .call (rf11 32 false true h1c92 (some (.r0 res_1c93))), .b false, .call (rf12 (some .r0)), .call (rf41 (3 : Int) (3 : Int) 0 true (0 : Int) (0 : Int) ([] : List Int) (some (.r1 h0_1c96 h0_2c96 h2c96))), .call (rf54 (some (.r0 h0_0c118 h0_1c118 h0_2c118))), .call (rf55 (some (.r0 h0_0c119 h0_1c119 h0_2c119))), .out (qlf28_14f a0n a0nl h0rw h0_0 h0_1 h0_2 h1_0c3 h1_1nlc3 h1_2nc3 h1_2nlc3 h1_3nlc3 h2c3 h3c3 h4c3 h0_0c118 h0_1c118 h0_2c118 h0_0c119 h0_1c119 h0_2c119 (some (.e0 h6_1l135 h6_2l135 h7l135))), .call (rf15 (256 : Int) h1_0c3 (List.length h2c3) h1_1nlc3 h1_2nc3 h1_2nlc3 (List.length h4c3) h1_3nlc3 (List.length h7l135) false h6_1l135 h6_2l135 h2c3 h3c3 h4c3 h7l135 (some (.r1 resc136 h1_1c136 h1_2c136 h6c136))), .call (rf16 true (List.length h6c136) false h1_1c136 h1_2c136 true h6c136 (some (.r0 resnlc138 h2c138)))] (by kernel_rfl) (ya (ys (ef49 N a0n a0nl h0rw h0_0 h0_1 h0_2) hc0) (ya (pNB h1x) (ya (ys (ef38 N) hc2) (ya (ys (ef11 N 288 false true h0c2) hc3) (yf (ya (ys (ef52 N 1 false (32 : Int) true [(5 : Int)]) hc92) (ya (ys (ef11 N 32 false true h1c92) hc93) (ya (pX h94x) (ya (ys (ef12 N) hc95) (ya (ys (ef41 N (3 : Int) (3 : Int) 0 true (0 : Int) (0 : Int) ([] : List Int)) hc96) (ya (ys (ef54 N) hc118) (ya (ys (ef55 N) hc119) (ya (ys (elf28_14f N a0n a0nl h0rw h0_0 h0_1 h0_2 h1_0c3 h1_1nlc3 h1_2nc3 h1_2nlc3 h1_3nlc3 h2c3 h3c3 h4c3 h0_0c118 h0_1c118 h0_2c118 h0_0c119 h0_1c119 h0_2c119 N (0 : Int) h0_1c96 h0_2c96 h2c96) ho135) (ya (ys (ef15 N (256 : Int) h1_0c3 (List.length h2c3) h1_1nlc3 h1_2nc3 h1_2nlc3 (List.length h4c3) h1_3nlc3 (List.length h7l135) false h6_1l135 h6_2l135 h2c3 h3c3 h4c3 h7l135) hc136) (ya (ys (ef16 N true (List.length h6c136) false h1_1c136 h1_2c136 true h6c136) hc138) yz)))))))))))))))
                    | r1 h1_0c93 h1_1nlc93 h1_2nc93 h1_2nlc93 h1_3nlc93 h2c93 h3c93 h4c93 =>
                      dsimp only
                      cases hc139 : f12 N with
                      | none => exact finF (ctx28 N) Try.f28 [.call (rf49 a0n a0nl h0rw h0_0 h0_1 h0_2 (some (.r0 resc0))), .b false, .call (rf38 (some (.r0 h0c2))), .call (rf11 288 false true h0c2 (some (.r1 h1_0c3 h1_1nlc3 h1_2nc3 h1_2nlc3 h1_3nlc3 h2c3 h3c3 h4c3))), .b false, .call (rf52 1 false (32 : Int) true [(5 : Int)] (some (.r0 h1c92))), .call (rf11 32 false true h1c92 (some (.r1 h1_0c93 h1_1nlc93 h1_2nc93 h1_2nlc93 h1_3nlc93 h2c93 h3c93 h4c93))), .b false, .call (rf12 none)] (by kernel_rfl) (ya (ys (ef49 N a0n a0nl h0rw h0_0 h0_1 h0_2) hc0) (ya (pNB h1x) (ya (ys (ef38 N) hc2) (ya (ys (ef11 N 288 false true h0c2) hc3) (yf (ya (ys (ef52 N 1 false (32 : Int) true [(5 : Int)]) hc92) (ya (ys (ef11 N 32 false true h1c92) hc93) (yf (ya (ys (ef12 N) hc139) yz)))))))))
                      | some o =>
                        cases o with
                        | r0 =>
                          dsimp only
                          cases hc140 : f41 N (3 : Int) (3 : Int) 0 (0 : Int) (0 : Int) ([] : List Int) with
                          | none => exact finF (ctx28 N) Try.f28 [.call (rf49 a0n a0nl h0rw h0_0 h0_1 h0_2 (some (.r0 resc0))), .b false, .call (rf38 (some (.r0 h0c2))), .call (rf11 288 false true h0c2 (some (.r1 h1_0c3 h1_1nlc3 h1_2nc3 h1_2nlc3 h1_3nlc3 h2c3 h3c3 h4c3))), .b false, .call (rf52 1 false (32 : Int) true [(5 : Int)] (some (.r0 h1c92))), .call (rf11 32 false true h1c92 (some (.r1 h1_0c93 h1_1nlc93 h1_2nc93 h1_2nlc93 h1_3nlc93 h2c93 h3c93 h4c93))), .b false, .call (rf12 (some .r0)), .call (rf41 (3 : Int) (3 : Int) 0 true (0 : Int) (0 : Int) ([] : List Int) none)] (by kernel_rfl) (ya (ys (ef49 N a0n a0nl h0rw h0_0 h0_1 h0_2) hc0) (ya (pNB h1x) (ya (ys (ef38 N) hc2) (ya (ys (ef11 N 288 false true h0c2) hc3) (yf (ya (ys (ef52 N 1 false (32 : Int) true [(5 : Int)]) hc92) (ya (ys (ef11 N 32 false true h1c92) hc93) (yf (ya (ys (ef12 N) hc139) (ya (ys (ef41 N (3 : Int) (3 : Int) 0 true (0 : Int) (0 : Int) ([] : List Int)) hc140) yz))))))))))
                          | some o =>
                            cases o with
                            | r0 resc140 h0_1c140 h0_2c140 =>
                              dsimp only
                              cases hc141 : f54 N with
                              | none => exact finF (ctx28 N) Try.f28 [.call (rf49 a0n a0nl h0rw h0_0 h0_1 h0_2 (some (.r0 resc0))), .b false, .call (rf38 (some (.r0 h0c2))), .call (rf11 288 false true h0c2 (some (.r1 h1_0c3 h1_1nlc3 h1_2nc3 h1_2nlc3 h1_3nlc3 h2c3 h3c3 h4c3))), .b false, .call (rf52 1 false (32 : Int) true [(5 : Int)] (some (.r0 h1c92))), .call (rf11 32 false true h1c92 (some (.r1 h1_0c93 h1_1nlc93 h1_2nc93 h1_2nlc93 h1_3nlc93 h2c93 h3c93 h4c93))), .b false, .call (rf12 (some .r0)), .call (rf41 (3 : Int) (3 : Int) 0 true (0 : Int) (0 : Int) ([] : List Int) (some (.r0 resc140 h0_1c140 h0_2c140))), .call (rf54 none)] (by kernel_rfl) (ya (ys (ef49 N a0n a0nl h0rw h0_0 h0_1 h0_2) hc0) (ya (pNB h1x) (ya (ys (ef38 N) hc2) (ya (ys (ef11 N 288 false true h0c2) hc3) (yf (ya (ys (ef52 N 1 false (32 : Int) true [(5 : Int)]) hc92) (ya (ys (ef11 N 32 false true h1c92) hc93) (yf (ya (ys (ef12 N) hc139) (ya (ys (ef41 N (3 : Int) (3 : Int) 0 true (0 : Int) (0 : Int) ([] : List Int)) hc140) (ya (ys (ef54 N) hc141) yz)))))))))))
                              | some o =>
                                cases o with
                                | r0 h0_0c141 h0_1c141 h0_2c141 =>
                                  dsimp only
                                  cases hc142 : f55 N with
                                  | none => exact finF (ctx28 N) Try.f28 [.call (rf49 a0n a0nl h0rw h0_0 h0_1 h0_2 (some (.r0 resc0))), .b false, .call (rf38 (some (.r0 h0c2))), .call (rf11 288 false true h0c2 (some (.r1 h1_0c3 h1_1nlc3 h1_2nc3 h1_2nlc3 h1_3nlc3 h2c3 h3c3 h4c3))), .b false, .call (rf52 1 false (32 : Int) true [(5 : Int)] (some (.r0 h1c92))), .call (rf11 32 false true h1c92 (some (.r1 h1_0c93 h1_1nlc93 h1_2nc93 h1_2nlc93 h1_3nlc93 h2c93 h3c93 h4c93))), .b false, .call (rf12 (some .r0)), .call (rf41 (3 : Int) (3 : Int) 0 true (0 : Int) (0 : Int) ([] : List Int) (some (.r0 resc140 h0_1c140 h0_2c140))), .call (rf54 (some (.r0 h0_0c141 h0_1c141 h0_2c141))), .call (rf55 none)] (by kernel_rfl) (ya (ys (ef49 N a0n a0nl h0rw h0_0 h0_1 h0_2) hc0) (ya (pNB h1x) (ya (ys (ef38 N) hc2) (ya (ys (ef11 N 288 false true h0c2) hc3) (yf (ya (ys (ef52 N 1 false (32 : Int) true [(5 : Int)]) hc92) (ya (ys (ef11 N 32 false true h1c92) hc93) (yf (ya (ys (ef12 N) hc139) (ya (ys (ef41 N (3 : Int) (3 : Int) 0 true (0 : Int) (0 : Int) ([] : List Int)) hc140) (ya (ys (ef54 N) hc141) (ya (ys (ef55 N) hc142) yz))))))))))))
                                  | some o =>
                                    cases o with
                                    | r0 h0_0c142 h0_1c142 h0_2c142 =>
                                      dsimp only
                                      cases ho158 : lf28_14g N a0n h0_0 h0_1 h0_2 h1_2nc3 h2c3 h3c3 h1_2nc93 h2c93 h3c93 h0_0c141 h0_1c141 h0_2c141 h0_0c142 h0_1c142 h0_2c142 N (0 : Int) true h0_1c140 h0_2c140 ([] : List Int) with
                                      | none => exact finF (ctx28 N) Try.f28 [.call (rf49 a0n a0nl h0rw h0_0 h0_1 h0_2 (some (.r0 resc0))), .b false, .call (rf38 (some (.r0 h0c2))), .call (rf11 288 false true h0c2 (some (.r1 h1_0c3 h1_1nlc3 h1_2nc3 h1_2nlc3 h1_3nlc3 h2c3 h3c3 h4c3))), .b false, .call (rf52 1 false (32 : Int) true [(5 : Int)] (some (.r0 h1c92))), .call (rf11 32 false true h1c92 (some (.r1 h1_0c93 h1_1nlc93 h1_2nc93 h1_2nlc93 h1_3nlc93 h2c93 h3c93 h4c93))), .b false, .call (rf12 (some .r0)), .call (rf41 (3 : Int) (3 : Int) 0 true (0 : Int) (0 : Int) ([] : List Int) (some (.r0 resc140 h0_1c140 h0_2c140))), .call (rf54 (some (.r0 h0_0c141 h0_1c141 h0_2c141))), .call (rf55 (some (.r0 h0_0c142 h0_1c142 h0_2c142))), .out (qlf28_14g a0n a0nl h0rw h0_0 h0_1 h0_2 h1_0c3 h1_1nlc3 h1_2nc3 h1_2nlc3 h1_3nlc3 h2c3 h3c3 h4c3 h1_0c93 h1_1nlc93 h1_2nc93 h1_2nlc93 h1_3nlc93 h2c93 h3c93 h4c93 h0_0c141 h0_1c141 h0_2c141 h0_0c142 h0_1c142 h0_2c142 none)] (by kernel_rfl) (ya (ys (ef49 N a0n a0nl h0rw h0_0 h0_1 h0_2) hc0) (ya (pNB h1x) (ya (ys (ef38 N) hc2) (ya (ys (ef11 N 288 false true h0c2) hc3) (yf (ya (ys (ef52 N 1 false (32 : Int) true [(5 : Int)]) hc92) (ya (ys (ef11 N 32 false true h1c92) hc93) (yf (ya (ys (ef12 N) hc139) (ya (ys (ef41 N (3 : Int) (3 : Int) 0 true (0 : Int) (0 : Int) ([] : List Int)) hc140) (ya (ys (ef54 N) hc141) (ya (ys (ef55 N) hc142) (ya (ys (elf28_14g N a0n a0nl h0rw h0_0 h0_1 h0_2 h1_0c3 h1_1nlc3 h1_2nc3 h1_2nlc3 h1_3nlc3 h2c3 h3c3 h4c3 h1_0c93 h1_1nlc93 h1_2nc93 h1_2nlc93 h1_3nlc93 h2c93 h3c93 h4c93 h0_0c141 h0_1c141 h0_2c141 h0_0c142 h0_1c142 h0_2c142 N (0 : Int) true h0_1c140 h0_2c140 ([] : List Int)) ho158) yz)))))))))))))
                                      | some o =>
                                        cases o with
                                        | e0 h6_0nll158 h6_1l158 h6_2l158 h7l158 =>
                                          dsimp only
                                          cases hc159 : f15 N (256 : Int) (List.length h2c3) h1_2nc3 (List.length h7l158) h6_1l158 h6_2l158 h2c3 h3c3 h7l158 with
                                          | none => exact finF (ctx28 N) Try.f28 [.call (rf49 a0n a0nl h0rw h0_0 h0_1 h0_2 (some (.r0 resc0))), .b false, .call (rf38 (some (.r0 h0c2))), .call (rf11 288 false true h0c2 (some (.r1 h1_0c3 h1_1nlc3 h1_2nc3 h1_2nlc3 h1_3nlc3 h2c3 h3c3 h4c3))), .b false, .call (rf52 1 false (32 : Int) true [(5 : Int)] (some (.r0 h1c92))), .call (rf11 32 false true h1c92 (some (.r1 h1_0c93 h1_1nlc93 h1_2nc93 h1_2nlc93 h1_3nlc93 h2c93 h3c93 h4c93))), .b false, .call (rf12 (some .r0)), .call (rf41 (3 : Int) (3 : Int) 0 true (0 : Int) (0 : Int) ([] : List Int) (some (.r0 resc140 h0_1c140 h0_2c140))), .call (rf54 (some (.r0 h0_0c141 h0_1c141 h0_2c141))), .call (rf55 (some (.r0 h0_0c142 h0_1c142 h0_2c142))), .out (qlf28_14g a0n a0nl h0rw h0_0 h0_1 h0_2 h1_0c3 h1_1nlc3 h1_2nc3 h1_2nlc3 h1_3nlc3 h2c3 h3c3 h4c3 h1_0c93 h1_1nlc93 h1_2nc93 h1_2nlc93 h1_3nlc93 h2c93 h3c93 h4c93 h0_0c141 h0_1c141 h0_2c141 h0_0c142 h0_1c142 h0_2c142 (some (.e0 h6_0nll158 h6_1l158 h6_2l158 h7l158))), .call (rf15 (256 : Int) h1_0c3 (List.length h2c3) h1_1nlc3 h1_2nc3 h1_2nlc3 (List.length h4c3) h1_3nlc3 (List.length h7l158) h6_0nll158 h6_1l158 h6_2l158 h2c3 h3c3 h4c3 h7l158 none)] (by kernel_rfl) (ya (ys (ef49 N a0n a0nl h0rw h0_0 h0_1 h0_2) hc0) (ya (pNB h1x) (ya (ys (ef38 N) hc2) (ya (ys (ef11 N 288 false true h0c2) hc3) (yf (ya (ys (ef52 N 1 false (32 : Int) true [(5 : Int)]) hc92) (ya (ys (ef11 N 32 false true h1c92) hc93) (yf (ya (ys (ef12 N) hc139) (ya (ys (ef41 N (3 : Int) (3 : Int) 0 true (0 : Int) (0 : Int) ([] : List Int)) hc140) (ya (ys (ef54 N) hc141) (ya (ys (ef55 N) hc142) (ya (ys (elf28_14g N a0n a0nl h0rw h0_0 h0_1 h0_2 h1_0c3 h1_1nlc3 h1_2nc3 h1_2nlc3 h1_3nlc3 h2c3 h3c3 h4c3 h1_0c93 h1_1nlc93 h1_2nc93 h1_2nlc93 h1_3nlc93 h2c93 h3c93 h4c93 h0_0c141 h0_1c141 h0_2c141 h0_0c142 h0_1c142 h0_2c142 N (0 : Int) true h0_1c140 h0_2c140 ([] : List Int)) ho158) (ya (ys (ef15 N (256 : Int) h1_0c3 (List.length h2c3) h1_1nlc3 h1_2nc3 h1_2nlc3 (List.length h4c3) h1_3nlc3 (List.length h7l158) h6_0nll158 h6_1l158 h6_2l158 h2c3 h3c3 h4c3 h7l158) hc159) yz))))))))))))))
                                          | some o =>
                                            cases o with
                                            | r0 resc159 h1_1c159 h1_2c159 =>
                                              dsimp only
                                              cases hc160 : f16 N (List.length h7l158) h6_0nll158 h1_1c159 h1_2c159 h7l158 with
                                              | none => exact finF (ctx28 N) Try.f28 [.call (rf49 a0n a0nl h0rw h0_0 h0_1 h0_2 (some (.r0 resc0))), .b false, .call (rf38 (some (.r0 h0c2))), .call (rf11 288 false true h0c2 (some (.r1 h1_0c3 h1_1nlc3 h1_2nc3 h1_2nlc3 h1_3nlc3 h2c3 h3c3 h4c3))), .b false, .call (rf52 1 false (32 : Int) true [(5 : Int)] (some (.r0 h1c92))), .call (rf11 32 false true h1c92 (some (.r1 h1_0c93 h1_1nlc93 h1_2nc93 h1_2nlc93 h1_3nlc93 h2c93 h3c93 h4c93))), .b false, .call (rf12 (some .r0)), .call (rf41 (3 : Int) (3 : Int) 0 true (0 : Int) (0 : Int) ([] : List Int) (some (.r0 resc140 h0_1c140 h0_2c140))), .call (rf54 (some (.r0 h0_0c141 h0_1c141 h0_2c141))), .call (rf55 (some (.r0 h0_0c142 h0_1c142 h0_2c142))), .out (qlf28_14g a0n a0nl h0rw h0_0 h0_1 h0_2 h1_0c3 h1_1nlc3 h1_2nc3 h1_2nlc3 h1_3nlc3 h2c3 h3c3 h4c3 h1_0c93 h1_1nlc93 h1_2nc93 h1_2nlc93 h1_3nlc93 h2c93 h3c93 h4c93 h0_0c141 h0_1c141 h0_2c141 h0_0c142 h0_1c142 h0_2c142 (some (.e0 h6_0nll158 h6_1l158 h6_2l158 h7l158))), .call (rf15 (256 : Int) h1_0c3 (List.length h2c3) h1_1nlc3 h1_2nc3 h1_2nlc3 (List.length h4c3) h1_3nlc3 (List.length h7l158) h6_0nll158 h6_1l158 h6_2l158 h2c3 h3c3 h4c3 h7l158 (some (.r0 resc159 h1_1c159 h1_2c159))), .call (rf16 true (List.length h7l158) h6_0nll158 h1_1c159 h1_2c159 true h7l158 none)] (by kernel_rfl) (ya (ys (ef49 N a0n a0nl h0rw h0_0 h0_1 h0_2) hc0) (ya (pNB h1x) (ya (ys (ef38 N) hc2) (ya (ys (ef11 N 288 false true h0c2) hc3) (yf (ya (ys (ef52 N 1 false (32 : Int) true [(5 : Int)]) hc92) (ya (ys (ef11 N 32 false true h1c92) hc93) (yf (ya (ys (ef12 N) hc139) (ya (ys (ef41 N (3 : Int) (3 : Int) 0 true (0 : Int) (0 : Int) ([] : List Int)) hc140) (ya (ys (ef54 N) hc141) (ya (ys (ef55 N) hc142) (ya (ys (elf28_14g N a0n a0nl h0rw h0_0 h0_1 h0_2 h1_0c3 h1_1nlc3 h1_2nc3 h1_2nlc3 h1_3nlc3 h2c3 h3c3 h4c3 h1_0c93 h1_1nlc93 h1_2nc93 h1_2nlc93 h1_3nlc93 h2c93 h3c93 h4c93 h0_0c141 h0_1c141 h0_2c141 h0_0c142 h0_1c142 h0_2c142 N (0 : Int) true h0_1c140 h0_2c140 ([] : List Int)) ho158) (ya (ys (ef15 N (256 : Int) h1_0c3 (List.length h2c3) h1_1nlc3 h1_2nc3 h1_2nlc3 (List.length h4c3) h1_3nlc3 (List.length h7l158) h6_0nll158 h6_1l158 h6_2l158 h2c3 h3c3 h4c3 h7l158) hc159) (ya (ys (ef16 N true (List.length h7l158) h6_0nll158 h1_1c159 h1_2c159 true h7l158) hc160) yz)))))))))))))))
                                              | some o =>
                                                cases o with
                                                | r0 resnlc160 h2c160 =>
                                                  dsimp only
                                                  exact finF (ctx28 N) Try.f28 [.call (rf49 a0n a0nl h0rw h0_0 h0_1 h0_2 (some (.r0 resc0))), .b false, .call (rf38 (some (.r0 h0c2))), .call (rf11 288 false true h0c2 (some (.r1 h1_0c3 h1_1nlc3 h1_2nc3 h1_2nlc3 h1_3nlc3 h2c3 h3c3 h4c3))), .b false, .call (rf52 1 false (32 : Int) true [(5 : Int)] (some (.r0 h1c92))), .call (rf11 32 false true h1c92 (some (.r1 h1_0c93 h1_1nlc93 h1_2nc93 h1_2nlc93 h1_3nlc93 h2c93 h3c93 h4c93))), .b false, .call (rf12 (some .r0)), .call (rf41 (3 : Int) (3 : Int) 0 true (0 : Int) (0 : Int) ([] : List Int) (some (.r0 resc140 h0_1c140 h0_2c140))), .call (rf54 (some (.r0 h0_0c141 h0_1c141 h0_2c141))), .call (rf55 (some (.r0 h0_0c142 h0_1c142 h0_2c142))), .out (qlf28_14g a0n a0nl h0rw h0_0 h0_1 h0_2 h1_0c3 h1_1nlc3 h1_2nc3 h1_2nlc3 h1_3nlc3 h2c3 h3c3 h4c3 h1_0c93 h1_1nlc93 h1_2nc93 h1_2nlc93 h1_3nlc93 h2c93 h3c93 h4c93 h0_0c141 h0_1c141 h0_2c141 h0_0c142 h0_1c142 h0_2c142 (some (.e0 h6_0nll158 h6_1l158 h6_2l158 h7l158))), .call (rf15 (256 : Int) h1_0c3 (List.length h2c3) h1_1nlc3 h1_2nc3 h1_2nlc3 (List.length h4c3) h1_3nlc3 (List.length h7l158) h6_0nll158 h6_1l158 h6_2l158 h2c3 h3c3 h4c3 h7l158 (some (.r0 resc159 h1_1c159 h1_2c159))), .call (rf16 true (List.length h7l158) h6_0nll158 h1_1c159 h1_2c159 true h7l158 (some (.r0 resnlc160 h2c160)))] (by kernel_rfl) (ya (ys (ef49 N a0n a0nl h0rw h0_0 h0_1 h0_2) hc0) (ya (pNB h1x) (ya (ys (ef38 N) hc2) (ya (ys (ef11 N 288 false true h0c2) hc3) (yf (ya (ys (ef52 N 1 false (32 : Int) true [(5 : Int)]) hc92) (ya (ys (ef11 N 32 false true h1c92) hc93) (yf (ya (ys (ef12 N) hc139) (ya (ys (ef41 N (3 : Int) (3 : Int) 0 true (0 : Int) (0 : Int) ([] : List Int)) hc140) (ya (ys (ef54 N) hc141) (ya (ys (ef55 N) hc142) (ya (ys (elf28_14g N a0n a0nl h0rw h0_0 h0_1 h0_2 h1_0c3 h1_1nlc3 h1_2nc3 h1_2nlc3 h1_3nlc3 h2c3 h3c3 h4c3 h1_0c93 h1_1nlc93 h1_2nc93 h1_2nlc93 h1_3nlc93 h2c93 h3c93 h4c93 h0_0c141 h0_1c141 h0_2c141 h0_0c142 h0_1c142 h0_2c142 N (0 : Int) true h0_1c140 h0_2c140 ([] : List Int)) ho158) (ya (ys (ef15 N (256 : Int) h1_0c3 (List.length h2c3) h1_1nlc3 h1_2nc3 h1_2nlc3 (List.length h4c3) h1_3nlc3 (List.length h7l158) h6_0nll158 h6_1l158 h6_2l158 h2c3 h3c3 h4c3 h7l158) hc159) (ya (ys (ef16 N true (List.length h7l158) h6_0nll158 h1_1c159 h1_2c159 true h7l158) hc160) yz)))))))))))))))
                                            | r1 resc159 h1_1c159 h1_2c159 h6c159 =>
                                              dsimp only
                                              cases hc161 : f16 N (List.length h6c159) false h1_1c159 h1_2c159 h6c159 with
                                              | none => exact finF (ctx28 N) Try.f28 [.call (rf49 a0n a0nl h0rw h0_0 h0_1 h0_2 (some (.r0 resc0))), .b false, .call (rf38 (some (.r0 h0c2))), .call (rf11 288 false true h0c2 (some (.r1 h1_0c3 h1_1nlc3 h1_2nc3 h1_2nlc3 h1_3nlc3 h2c3 h3c3 h4c3))), .b false, .call (rf52 1 false (32 : Int) true [(5 : Int)] (some (.r0 h1c92))), .call (rf11 32 false true h1c92 (some (.r1 h1_0c93 h1_1nlc93 h1_2nc93 h1_2nlc93 h1_3nlc93 h2c93 h3c93 h4c93))), .b false, .call (rf12 (some .r0)), .call (rf41 (3 : Int) (3 : Int) 0 true (0 : Int) (0 : Int) ([] : List Int) (some (.r0 resc140 h0_1c140 h0_2c140))), .call (rf54 (some (.r0 h0_0c141 h0_1c141 h0_2c141))), .call (rf55 (some (.r0 h0_0c142 h0_1c142 h0_2c142))), .out (qlf28_14g a0n a0nl h0rw h0_0 h0_1 h0_2 h1_0c3 h1_1nlc3 h1_2nc3 h1_2nlc3 h1_3nlc3 h2c3 h3c3 h4c3 h1_0c93 h1_1nlc93 h1_2nc93 h1_2nlc93 h1_3nlc93 h2c93 h3c93 h4c93 h0_0c141 h0_1c141 h0_2c141 h0_0c142 h0_1c142 h0_2c142 (some (.e0 h6_0nll158 h6_1l158 h6_2l158 h7l158))), .call (rf15 (256 : Int) h1_0c3 (List.length h2c3) h1_1nlc3 h1_2nc3 h1_2nlc3 (List.length h4c3) h1_3nlc3 (List.length h7l158) h6_0nll158 h6_1l158 h6_2l158 h2c3 h3c3 h4c3 h7l158 (some (.r1 resc159 h1_1c159 h1_2c159 h6c159))), .call (rf16 true (List.length h6c159) false h1_1c159 h1_2c159 true h6c159 none)] (by kernel_rfl) (ya (ys (ef49 N a0n a0nl h0rw h0_0 h0_1 h0_2) hc0) (ya (pNB h1x) (ya (ys (ef38 N) hc2) (ya (ys (ef11 N 288 false true h0c2) hc3) (yf (ya (ys (ef52 N 1 false (32 : Int) true [(5 : Int)]) hc92) (ya (ys (ef11 N 32 false true h1c92) hc93) (yf (ya (ys (ef12 N) hc139) (ya (ys (ef41 N (3 : Int) (3 : Int) 0 true (0 : Int) (0 : Int) ([] : List Int)) hc140) (ya (ys (ef54 N) hc141) (ya (ys (ef55 N) hc142) (ya (ys (elf28_14g N a0n a0nl h0rw h0_0 h0_1 h0_2 h1_0c3 h1_1nlc3 h1_2nc3 h1_2nlc3 h1_3nlc3 h2c3 h3c3 h4c3 h1_0c93 h1_1nlc93 h1_2nc93 h1_2nlc93 h1_3nlc93 h2c93 h3c93 h4c93 h0_0c141 h0_1c141 h0_2c141 h0_0c142 h0_1c142 h0_2c142 N (0 : Int) true h0_1c140 h0_2c140 ([] : List Int)) ho158) (ya (ys (ef15 N (256 : Int) h1_0c3 (List.length h2c3) h1_1nlc3 h1_2nc3 h1_2nlc3 (List.length h4c3) h1_3nlc3 (List.length h7l158) h6_0nll158 h6_1l158 h6_2l158 h2c3 h3c3 h4c3 h7l158) hc159) (ya (ys (ef16 N true (List.length h6c159) false h1_1c159 h1_2c159 true h6c159) hc161) yz)))))))))))))))
                                              | some o =>
                                                cases o with
                                                | r0 resnlc161 h2c161 =>
                                                  dsimp only
                                                  exact finF (ctx28 N) Try.f28 [.call (rf49 a0n a0nl h0rw h0_0 h0_1 h0_2 (some (.r0 resc0))), .b false, .call (rf38 (some (.r0 h0c2))), .call (rf11 288 false true h0c2 (some (.r1 h1_0c3 h1_1nlc3 h1_2nc3 h1_2nlc3 h1_3nlc3 h2c3 h3c3 h4c3))), .b false, .call (rf52 1 false (32 : Int) true [(5 : Int)] (some (.r0 h1c92))), .call (rf11 32 false true h1c92 (some (.r1 h1_0c93 h1_1nlc93 h1_2nc93 h1_2nlc93 h1_3nlc93 h2c93 h3c93 h4c93))), .b false, .call (rf12 (some .r0)), .call (rf41 (3 : Int) (3 : Int) 0 true (0 : Int) (0 : Int) ([] : List Int) (some (.r0 resc140 h0_1c140 h0_2c140))), .call (rf54 (some (.r0 h0_0c141 h0_1c141 h0_2c141))), .call (rf55 (some (.r0 h0_0c142 h0_1c142 h0_2c142))), .out (qlf28_14g a0n a0nl h0rw h0_0 h0_1 h0_2 h1_0c3 h1_1nlc3 h1_2nc3 h1_2nlc3 h1_3nlc3 h2c3 h3c3 h4c3 h1_0c93 h1_1nlc93 h1_2nc93 h1_2nlc93 h1_3nlc93 h2c93 h3c93 h4c93 h0_0c141 h0_1c141 h0_2c141 h0_0c142 h0_1c142 h0_2c142 (some (.e0 h6_0nll158 h6_1l158 h6_2l158 h7l158))), .call (rf15 (256 : Int) h1_0c3 (List.length h2c3) h1_1nlc3 h1_2nc3 h1_2nlc3 (List.length h4c3) h1_3nlc3 (List.length h7l158) h6_0nll158 h6_1l158 h6_2l158 h2c3 h3c3 h4c3 h7l158 (some (.r1 resc159 h1_1c159 h1_2c159 h6c159))), .call (rf16 true (List.length h6c159) false h1_1c159 h1_2c159 true h6c159 (some (.r0 resnlc161 h2c161)))] (by kernel_rfl) (ya (ys (ef49 N a0n a0nl h0rw h0_0 h0_1 h0_2) hc0) (ya (pNB h1x) (ya (ys (ef38 N) hc2) (ya (ys (ef11 N 288 false true h0c2) hc3) (yf (ya (ys (ef52 N 1 false (32 : Int) true [(5 : Int)]) hc92) (ya (ys (ef11 N 32 false true h1c92) hc93) (yf (ya (ys (ef12 N) hc139) (ya (ys (ef41 N (3 : Int) (3 : Int) 0 true (0 : Int) (0 : Int) ([] : List Int)) hc140) (ya (ys (ef54 N) hc141) (ya (ys (ef55 N) hc142) (ya (ys (elf28_14g N a0n a0nl h0rw h0_0 h0_1 h0_2 h1_0c3 h1_1nlc3 h1_2nc3 h1_2nlc3 h1_3nlc3 h2c3 h3c3 h4c3 h1_0c93 h1_1nlc93 h1_2nc93 h1_2nlc93 h1_3nlc93 h2c93 h3c93 h4c93 h0_0c141 h0_1c141 h0_2c141 h0_0c142 h0_1c142 h0_2c142 N (0 : Int) true h0_1c140 h0_2c140 ([] : List Int)) ho158) (ya (ys (ef15 N (256 : Int) h1_0c3 (List.length h2c3) h1_1nlc3 h1_2nc3 h1_2nlc3 (List.length h4c3) h1_3nlc3 (List.length h7l158) h6_0nll158 h6_1l158 h6_2l158 h2c3 h3c3 h4c3 h7l158) hc159) (ya (ys (ef16 N true (List.length h6c159) false h1_1c159 h1_2c159 true h6c159) hc161) yz)))))))))))))))
                            | r1 h0_1c140 h0_2c140 h2c140 =>
                              dsimp only
                              cases hc162 : f54 N with
                              | none => exact finF (ctx28 N) Try.f28 [.call (rf49 a0n a0nl h0rw h0_0 h0_1 h0_2 (some (.r0 resc0))), .b false, .call (rf38 (some (.r0 h0c2))), .call (rf11 288 false true h0c2 (some (.r1 h1_0c3 h1_1nlc3 h1_2nc3 h1_2nlc3 h1_3nlc3 h2c3 h3c3 h4c3))), .b false, .call (rf52 1 false (32 : Int) true [(5 : Int)] (some (.r0 h1c92))), .call (rf11 32 false true h1c92 (some (.r1 h1_0c93 h1_1nlc93 h1_2nc93 h1_2nlc93 h1_3nlc93 h2c93 h3c93 h4c93))), .b false, .call (rf12 (some .r0)), .call (rf41 (3 : Int) (3 : Int) 0 true (0 : Int) (0 : Int) ([] : List Int) (some (.r1 h0_1c140 h0_2c140 h2c140))), .call (rf54 none)] (by kernel_rfl) (ya (ys (ef49 N a0n a0nl h0rw h0_0 h0_1 h0_2) hc0) (ya (pNB h1x) (ya (ys (ef38 N) hc2) (ya (ys (ef11 N 288 false true h0c2) hc3) (yf (ya (ys (ef52 N 1 false (32 : Int) true [(5 : Int)]) hc92) (ya (ys (ef11 N 32 false true h1c92) hc93) (yf (ya (ys (ef12 N) hc139) (ya (ys (ef41 N (3 : Int) (3 : Int) 0 true (0 : Int) (0 : Int) ([] : List Int)) hc140) (ya (ys (ef54 N) hc162) yz)))))))))))
                              | some o =>
                                cases o with
                                | r0 h0_0c162 h0_1c162 h0_2c162 =>
                                  dsimp only
                                  cases hc163 : f55 N with
                                  | none => exact finF (ctx28 N) Try.f28 [.call (rf49 a0n a0nl h0rw h0_0 h0_1 h0_2 (some (.r0 resc0))), .b false, .call (rf38 (some (.r0 h0c2))), .call (rf11 288 false true h0c2 (some (.r1 h1_0c3 h1_1nlc3 h1_2nc3 h1_2nlc3 h1_3nlc3 h2c3 h3c3 h4c3))), .b false, .call (rf52 1 false (32 : Int) true [(5 : Int)] (some (.r0 h1c92))), .call (rf11 32 false true h1c92 (some (.r1 h1_0c93 h1_1nlc93 h1_2nc93 h1_2nlc93 h1_3nlc93 h2c93 h3c93 h4c93))), .b false, .call (rf12 (some .r0)), .call (rf41 (3 : Int) (3 : Int) 0 true (0 : Int) (0 : Int) ([] : List Int) (some (.r1 h0_1c140 h0_2c140 h2c140))), .call (rf54 (some (.r0 h0_0c162 h0_1c162 h0_2c162))), .call (rf55 none)] (by kernel_rfl) (ya (ys (ef49 N a0n a0nl h0rw h0_0 h0_1 h0_2) hc0) (ya (pNB h1x) (ya (ys (ef38 N) hc2) (ya (ys (ef11 N 288 false true h0c2) hc3) (yf (ya (ys (ef52 N 1 false (32 : Int) true [(5 : Int)]) hc92) (ya (ys (ef11 N 32 false true h1c92) hc93) (yf (ya (ys (ef12 N) hc139) (ya (ys (ef41 N (3 : Int) (3 : Int) 0 true (0 : Int) (0 : Int) ([] : List Int)) hc140) (ya (ys (ef54 N) hc162) (ya (ys (ef55 N) hc163) yz))))))))))))
                                  | some o =>
                                    cases o with
                                    | r0 h0_0c163 h0_1c163 h0_2c163 =>
                                      dsimp only
                                      cases ho179 : lf28_14h N a0n h0_0 h0_1 h0_2 h1_2nc3 h2c3 h3c3 h1_2nc93 h2c93 h3c93 h0_0c162 h0_1c162 h0_2c162 h0_0c163 h0_1c163 h0_2c163 N (0 : Int) h0_1c140 h0_2c140 h2c140 with
                                      | none => exact finF (ctx28 N) Try.f28 [.call (rf49 a0n a0nl h0rw h0_0 h0_1 h0_2 (some (.r0 resc0))), .b false, .call (rf38 (some (.r0 h0c2))), .call (rf11 288 false true h0c2 (some (.r1 h1_0c3 h1_1nlc3 h1_2nc3 h1_2nlc3 h1_3nlc3 h2c3 h3c3 h4c3))), .b false, .call (rf52 1 false (32 : Int) true [(5 : Int)] (some (.r0 h1c92))), .call (rf11 32 false true h1c92 (some (.r1 h1_0c93 h1_1nlc93 h1_2nc93 h1_2nlc93 h1_3nlc93 h2c93 h3c93 h4c93))), .b false, .call (rf12 (some .r0)), .call (rf41 (3 : Int) (3 : Int) 0 true (0 : Int) (0 : Int) ([] : List Int) (some (.r1 h0_1c140 h0_2c140 h2c140))), .call (rf54 (some (.r0 h0_0c162 h0_1c162 h0_2c162))), .call (rf55 (some (.r0 h0_0c163 h0_1c163 h0_2c163))), .out (qlf28_14h a0n a0nl h0rw h0_0 h0_1 h0_2 h1_0c3 h1_1nlc3 h1_2nc3 h1_2nlc3 h1_3nlc3 h2c3 h3c3 h4c3 h1_0c93 h1_1nlc93 h1_2nc93 h1_2nlc93 h1_3nlc93 h2c93 h3c93 h4c93 h0_0c162 h0_1c162 h0_2c162 h0_0c163 h0_1c163 h0_2c163 none)] (by kernel_rfl) (ya (ys (ef49 N a0n a0nl h0rw h0_0 h0_1 h0_2) hc0) (ya (pNB h1x) (ya (ys (ef38 N) hc2) (ya (ys (ef11 N 288 false true h0c2) hc3) (yf (ya (ys (ef52 N 1 false (32 : Int) true [(5 : Int)]) hc92) (ya (ys (ef11 N 32 false true h1c92) hc93) (yf (ya (ys (ef12 N) hc139) (ya (ys (ef41 N (3 : Int) (3 : Int) 0 true (0 : Int) (0 : Int) ([] : List Int)) hc140) (ya (ys (ef54 N) hc162) (ya (ys (ef55 N) hc163) (ya (ys (elf28_14h N a0n a0nl h0rw h0_0 h0_1 h0_2 h1_0c3 h1_1nlc3 h1_2nc3 h1_2nlc3 h1_3nlc3 h2c3 h3c3 h4c3 h1_0c93 h1_1nlc93 h1_2nc93 h1_2nlc93 h1_3nlc93 h2c93 h3c93 h4c93 h0_0c162 h0_1c162 h0_2c162 h0_0c163 h0_1c163 h0_2c163 N (0 : Int) h0_1c140 h0_2c140 h2c140) ho179) yz)))))))))))))
                                      | some o =>
                                        cases o with
                                        | e0 h6_1l179 h6_2l179 h7l179 =>
                                          dsimp only
                                          cases hc180 : f15 N (256 : Int) (List.length h2c3) h1_2nc3 (List.length h7l179) h6_1l179 h6_2l179 h2c3 h3c3 h7l179 with
                                          | none => exact finF (ctx28 N) Try.f28 [.call (rf49 a0n a0nl h0rw h0_0 h0_1 h0_2 (some (.r0 resc0))), .b false, .call (rf38 (some (.r0 h0c2))), .call (rf11 288 false true h0c2 (some (.r1 h1_0c3 h1_1nlc3 h1_2nc3 h1_2nlc3 h1_3nlc3 h2c3 h3c3 h4c3))), .b false, .call (rf52 1 false (32 : Int) true [(5 : Int)] (some (.r0 h1c92))), .call (rf11 32 false true h1c92 (some (.r1 h1_0c93 h1_1nlc93 h1_2nc93 h1_2nlc93 h1_3nlc93 h2c93 h3c93 h4c93))), .b false, .call (rf12 (some .r0)), .call (rf41 (3 : Int) (3 : Int) 0 true (0 : Int) (0 : Int) ([] : List Int) (some (.r1 h0_1c140 h0_2c140 h2c140))), .call (rf54 (some (.r0 h0_0c162 h0_1c162 h0_2c162))), .call (rf55 (some (.r0 h0_0c163 h0_1c163 h0_2c163))), .out (qlf28_14h a0n a0nl h0rw h0_0 h0_1 h0_2 h1_0c3 h1_1nlc3 h1_2nc3 h1_2nlc3 h1_3nlc3 h2c3 h3c3 h4c3 h1_0c93 h1_1nlc93 h1_2nc93 h1_2nlc93 h1_3nlc93 h2c93 h3c93 h4c93 h0_0c162 h0_1c162 h0_2c162 h0_0c163 h0_1c163 h0_2c163 (some (.e0 h6_1l179 h6_2l179 h7l179))), .call (rf15 (256 : Int) h1_0c3 (List.length h2c3) h1_1nlc3 h1_2nc3 h1_2nlc3 (List.length h4c3) h1_3nlc3 (List.length h7l179) false h6_1l179 h6_2l179 h2c3 h3c3 h4c3 h7l179 none)] (by kernel_rfl) (ya (ys (ef49 N a0n a0nl h0rw h0_0 h0_1 h0_2) hc0) (ya (pNB h1x) (ya (ys (ef38 N) hc2) (ya (ys (ef11 N 288 false true h0c2) hc3) (yf (ya (ys (ef52 N 1 false (32 : Int) true [(5 : Int)]) hc92) (ya (ys (ef11 N 32 false true h1c92) hc93) (yf (ya (ys (ef12 N) hc139) (ya (ys (ef41 N (3 : Int) (3 : Int) 0 true (0 : Int) (0 : Int) ([] : List Int)) hc140) (ya (ys (ef54 N) hc162) (ya (ys (ef55 N) hc163) (ya (ys (elf28_14h N a0n a0nl h0rw h0_0 h0_1 h0_2 h1_0c3 h1_1nlc3 h1_2nc3 h1_2nlc3 h1_3nlc3 h2c3 h3c3 h4c3 h1_0c93 h1_1nlc93 h1_2nc93 h1_2nlc93 h1_3nlc93 h2c93 h3c93 h4c93 h0_0c162 h0_1c162 h0_2c162 h0_0c163 h0_1c163 h0_2c163 N (0 : Int) h0_1c140 h0_2c140 h2c140) ho179) (ya (ys (ef15 N (256 : Int) h1_0c3 (List.length h2c3) h1_1nlc3 h1_2nc3 h1_2nlc3 (List.length h4c3) h1_3nlc3 (List.length h7l179) false h6_1l179 h6_2l179 h2c3 h3c3 h4c3 h7l179) hc180) yz))))))))))))))
                                          | some o =>
                                            cases o with
                                            | r0 resc180 h1_1c180 h1_2c180 =>
                                              dsimp only
                                              cases hc181 : f16 N (List.length h7l179) false h1_1c180 h1_2c180 h7l179 with
                                              | none => exact finF (ctx28 N) Try.f28 [.call (rf49 a0n a0nl h0rw h0_0 h0_1 h0_2 (some (.r0 resc0))), .b false, .call (rf38 (some (.r0 h0c2))), .call (rf11 288 false true h0c2 (some (.r1 h1_0c3 h1_1nlc3 h1_2nc3 h1_2nlc3 h1_3nlc3 h2c3 h3c3 h4c3))), .b false, .call (rf52 1 false (32 : Int) true [(5 : Int)] (some (.r0 h1c92))), .call (rf11 32 false true h1c92 (some (.r1 h1_0c93 h1_1nlc93 h1_2nc93 h1_2nlc93 h1_3nlc93 h2c93 h3c93 h4c93))), .b false, .call (rf12 (some .r0)), .call (rf41 (3 : Int) (3 : Int) 0 true (0 : Int) (0 : Int) ([] : List Int) (some (.r1 h0_1c140 h0_2c140 h2c140))), .call (rf54 (some (.r0 h0_0c162 h0_1c162 h0_2c162))), .call (rf55 (some (.r0 h0_0c163 h0_1c163 h0_2c163))), .out (qlf28_14h a0n a0nl h0rw h0_0 h0_1 h0_2 h1_0c3 h1_1nlc3 h1_2nc3 h1_2nlc3 h1_3nlc3 h2c3 h3c3 h4c3 h1_0c93 h1_1nlc93 h1_2nc93 h1_2nlc93 h1_3nlc93 h2c93 h3c93 h4c93 h0_0c162 h0_1c162 h0_2c162 h0_0c163 h0_1c163 h0_2c163 (some (.e0 h6_1l179 h6_2l179 h7l179))), .call (rf15 (256 : Int) h1_0c3 (List.length h2c3) h1_1nlc3 h1_2nc3 h1_2nlc3 (List.length h4c3) h1_3nlc3 (List.length h7l179) false h6_1l179 h6_2l179 h2c3 h3c3 h4c3 h7l179 (some (.r0 resc180 h1_1c180 h1_2c180))), .call (rf16 true (List.length h7l179) false h1_1c180 h1_2c180 true h7l179 none)] (by kernel_rfl) (ya (ys (ef49 N a0n a0nl h0rw h0_0 h0_1 h0_2) hc0) (ya (pNB h1x) (ya (ys (ef38 N) hc2) (ya (ys (ef11 N 288 false true h0c2) hc3) (yf (ya (ys (ef52 N 1 false (32 : Int) true [(5 : Int)]) hc92) (ya (ys (ef11 N 32 false true h1c92) hc93) (yf (ya (ys (ef12 N) hc139) (ya (ys (ef41 N (3 : Int) (3 : Int) 0 true (0 : Int) (0 : Int) ([] : List Int)) hc140) (ya (ys (ef54 N) hc162) (ya (ys (ef55 N) hc163) (ya (ys (elf28_14h N a0n a0nl h0rw h0_0 h0_1 h0_2 h1_0c3 h1_1nlc3 h1_2nc3 h1_2nlc3 h1_3nlc3 h2c3 h3c3 h4c3 h1_0c93 h1_1nlc93 h1_2nc93 h1_2nlc93 h1_3nlc93 h2c93 h3c93 h4c93 h0_0c162 h0_1c162 h0_2c162 h0_0c163 h0_1c163 h0_2c163 N (0 : Int) h0_1c140 h0_2c140 h2c140) ho179) (ya (ys (ef15 N (256 : Int) h1_0c3 (List.length h2c3) h1_1nlc3 h1_2nc3 h1_2nlc3 (List.length h4c3) h1_3nlc3 (List.length h7l179) false h6_1l179 h6_2l179 h2c3 h3c3 h4c3 h7l179) hc180) (ya (ys (ef16 N true (List.length h7l179) false h1_1c180 h1_2c180 true h7l179) hc181) yz)))))))))))))))
                                              | some o =>
                                                cases o with
                                                | r0 resnlc181 h2c181 =>
                                                  dsimp only
                                                  exact finF (ctx28 N) Try.f28 [.call (rf49 a0n a0nl h0rw h0_0 h0_1 h0_2 (some (.r0 resc0))), .b false, .call (rf38 (some (.r0 h0c2))), .call (rf11 288 false true h0c2 (some (.r1 h1_0c3 h1_1nlc3 h1_2nc3 h1_2nlc3 h1_3nlc3 h2c3 h3c3 h4c3))), .b false, .call (rf52 1 false (32 : Int) true [(5 : Int)] (some (.r0 h1c92))), .call (rf11 32 false true h1c92 (some (.r1 h1_0c93 h1_1nlc93 h1_2nc93 h1_2nlc93 h1_3nlc93 h2c93 h3c93 h4c93))), .b false, .call (rf12 (some .r0)), .call (rf41 (3 : Int) (3 : Int) 0 true (0 : Int) (0 : Int) ([] : List Int) (some (.r1 h0_1c140 h0_2c140 h2c140))), .call (rf54 (some (.r0 h0_0c162 h0_1c162 h0_2c162))), .call (rf55 (some (.r0 h0_0c163 h0_1c163 h0_2c163))), .out (qlf28_14h a0n a0nl h0rw h0_0 h0_1 h0_2 h1_0c3 h1_1nlc3 h1_2nc3 h1_2nlc3 h1_3nlc3 h2c3 h3c3 h4c3 h1_0c93 h1_1nlc93 h1_2nc93 h1_2nlc93 h1_3nlc93 h2c93 h3c93 h4c93 h0_0c162 h0_1c162 h0_2c162 h0_0c163 h0_1c163 h0_2c163 (some (.e0 h6_1l179 h6_2l179 h7l179))), .call (rf15 (256 : Int) h1_0c3 (List.length h2c3) h1_1nlc3 h1_2nc3 h1_2nlc3 (List.length h4c3) h1_3nlc3 (List.length h7l179) false h6_1l179 h6_2l179 h2c3 h3c3 h4c3 h7l179 (some (.r0 resc180 h1_1c180 h1_2c180))), .call (rf16 true (List.length h7l179) false h1_1c180 h1_2c180 true h7l179 (some (.r0 resnlc181 h2c181)))] (by kernel_rfl) (ya (ys (ef49 N a0n a0nl h0rw h0_0 h0_1 h0_2) hc0) (ya (pNB h1x) (ya (ys (ef38 N) hc2) (ya (ys (ef11 N 288 false true h0c2) hc3) (yf (ya (ys (ef52 N 1 false (32 : Int) true [(5 : Int)]) hc92) (ya (ys (ef11 N 32 false true h1c92) hc93) (yf (ya (ys (ef12 N) hc139) (ya (ys (ef41 N (3 : Int) (3 : Int) 0 true (0 : Int) (0 : Int) ([] : List Int)) hc140) (ya (ys (ef54 N) hc162) (ya (ys (ef55 N) hc163) (ya (ys (elf28_14h N a0n a0nl h0rw h0_0 h0_1 h0_2 h1_0c3 h1_1nlc3 h1_2nc3 h1_2nlc3 h1_3nlc3 h2c3 h3c3 h4c3 h1_0c93 h1_1nlc93 h1_2nc93 h1_2nlc93 h1_3nlc93 h2c93 h3c93 h4c93 h0_0c162 h0_1c162 h0_2c162 h0_0c163 h0_1c163 h0_2c163 N (0 : Int) h0_1c140 h0_2c140 h2c140) ho179) (ya (ys (ef15 N (256 : Int) h1_0c3 (List.length h2c3) h1_1nlc3 h1_2nc3 h1_2nlc3 (List.length h4c3) h1_3nlc3 (List.length h7l179) false h6_1l179 h6_2l179 h2c3 h3c3 h4c3 h7l179) hc180) (ya (ys (ef16 N true (List.length h7l179) false h1_1c180 h1_2c180 true h7l179) hc181) yz)))))))))))))))
                                            | r1 resc180 h1_1c180 h1_2c180 h6c180 =>
                                              dsimp only
                                              cases hc182 : f16 N (List.length h6c180) false h1_1c180 h1_2c180 h6c180 with
                                              | none => exact finF (ctx28 N) Try.f28 [.call (rf49 a0n a0nl h0rw h0_0 h0_1 h0_2 (some (.r0 resc0))), .b false, .call (rf38 (some (.r0 h0c2))), .call (rf11 288 false true h0c2 (some (.r1 h1_0c3 h1_1nlc3 h1_2nc3 h1_2nlc3 h1_3nlc3 h2c3 h3c3 h4c3))), .b false, .call (rf52 1 false (32 : Int) true [(5 : Int)] (some (.r0 h1c92))), .call (rf11 32 false true h1c92 (some (.r1 h1_0c93 h1_1nlc93 h1_2nc93 h1_2nlc93 h1_3nlc93 h2c93 h3c93 h4c93))), .b false, .call (rf12 (some .r0)), .call (rf41 (3 : Int) (3 : Int) 0 true (0 : Int) (0 : Int) ([] : List Int) (some (.r1 h0_1c140 h0_2c140 h2c140))), .call (rf54 (some (.r0 h0_0c162 h0_1c162 h0_2c162))), .call (rf55 (some (.r0 h0_0c163 h0_1c163 h0_2c163))), .out (qlf28_14h a0n a0nl h0rw h0_0 h0_1 h0_2 h1_0c3 h1_1nlc3 h1_2nc3 h1_2nlc3 h1_3nlc3 h2c3 h3c3 h4c3 h1_0c93 h1_1nlc93 h1_2nc93 h1_2nlc93 h1_3nlc93 h2c93 h3c93 h4c93 h0_0c162 h0_1c162 h0_2c162 h0_0c163 h0_1c163 h0_2c163 (some (.e0 h6_1l179 h6_2l179 h7l179))), .call (rf15 (256 : Int) h1_0c3 (List.length h2c3) h1_1nlc3 h1_2nc3 h1_2nlc3 (List.length h4c3) h1_3nlc3 (List.length h7l179) false h6_1l179 h6_2l179 h2c3 h3c3 h4c3 h7l179 (some (.r1 resc180 h1_1c180 h1_2c180 h6c180))), .call (rf16 true (List.length h6c180) false h1_1c180 h1_2c180 true h6c180 none)] (by kernel_rfl) (ya (ys (ef49 N a0n a0nl h0rw h0_0 h0_1 h0_2) hc0) (ya (pNB h1x) (ya (ys (ef38 N) hc2) (ya (ys (ef11 N 288 false true h0c2) hc3) (yf (ya (ys (ef52 N 1 false (32 : Int) true [(5 : Int)]) hc92) (ya (ys (ef11 N 32 false true h1c92) hc93) (yf (ya (ys (ef12 N) hc139) (ya (ys (ef41 N (3 : Int) (3 : Int) 0 true (0 : Int) (0 : Int) ([] : List Int)) hc140) (ya (ys (ef54 N) hc162) (ya (ys (ef55 N) hc163) (ya (ys (elf28_14h N a0n a0nl h0rw h0_0 h0_1 h0_2 h1_0c3 h1_1nlc3 h1_2nc3 h1_2nlc3 h1_3nlc3 h2c3 h3c3 h4c3 h1_0c93 h1_1nlc93 h1_2nc93 h1_2nlc93 h1_3nlc93 h2c93 h3c93 h4c93 h0_0c162 h0_1c162 h0_2c162 h0_0c163 h0_1c163 h0_2c163 N (0 : Int) h0_1c140 h0_2c140 h2c140) ho179) (ya (ys (ef15 N (256 : Int) h1_0c3 (List.length h2c3) h1_1nlc3 h1_2nc3 h1_2nlc3 (List.length h4c3) h1_3nlc3 (List.length h7l179) false h6_1l179 h6_2l179 h2c3 h3c3 h4c3 h7l179) hc180) (ya (ys (ef16 N true (List.length h6c180) false h1_1c180 h1_2c180 true h6c180) hc182) yz)))))))))))))))
                                              | some o =>
                                                cases o with
                                                | r0 resnlc182 h2c182 =>
                                                  dsimp only
                                                  exact finF (ctx28 N) Try.f28 [.call (rf49 a0n a0nl h0rw h0_0 h0_1 h0_2 (some (.r0 resc0))), .b false, .call (rf38 (some (.r0 h0c2))), .call (rf11 288 false true h0c2 (some (.r1 h1_0c3 h1_1nlc3 h1_2nc3 h1_2nlc3 h1_3nlc3 h2c3 h3c3 h4c3))), .b false, .call (rf52 1 false (32 : Int) true [(5 : Int)] (some (.r0 h1c92))), .call (rf11 32 false true h1c92 (some (.r1 h1_0c93 h1_1nlc93 h1_2nc93 h1_2nlc93 h1_3nlc93 h2c93 h3c93 h4c93))), .b false, .call (rf12 (some .r0)), .call (rf41 (3 : Int) (3 : Int) 0 true (0 : Int) (0 : Int) ([] : List Int) (some (.r1 h0_1c140 h0_2c140 h2c140))), .call (rf54 (some (.r0 h0_0c162 h0_1c162 h0_2c162))), .call (rf55 (some (.r0 h0_0c163 h0_1c163 h0_2c163))), .out (qlf28_14h a0n a0nl h0rw h0_0 h0_1 h0_2 h1_0c3 h1_1nlc3 h1_2nc3 h1_2nlc3 h1_3nlc3 h2c3 h3c3 h4c3 h1_0c93 h1_1nlc93 h1_2nc93 h1_2nlc93 h1_3nlc93 h2c93 h3c93 h4c93 h0_0c162 h0_1c162 h0_2c162 h0_0c163 h0_1c163 h0_2c163 (some (.e0 h6_1l179 h6_2l179 h7l179))), .call (rf15 (256 : Int) h1_0c3 (List.length h2c3) h1_1nlc3 h1_2nc3 h1_2nlc3 (List.length h4c3) h1_3nlc3 (List.length h7l179) false h6_1l179 h6_2l179 h2c3 h3c3 h4c3 h7l179 (some (.r1 resc180 h1_1c180 h1_2c180 h6c180))), .call (rf16 true (List.length h6c180) false h1_1c180 h1_2c180 true h6c180 (some (.r0 resnlc182 h2c182)))] (by kernel_rfl) (ya (ys (ef49 N a0n a0nl h0rw h0_0 h0_1 h0_2) hc0) (ya (pNB h1x) (ya (ys (ef38 N) hc2) (ya (ys (ef11 N 288 false true h0c2) hc3) (yf (ya (ys (ef52 N 1 false (32 : Int) true [(5 : Int)]) hc92) (ya (ys (ef11 N 32 false true h1c92) hc93) (yf (ya (ys (ef12 N) hc139) (ya (ys (ef41 N (3 : Int) (3 : Int) 0 true (0 : Int) (0 : Int) ([] : List Int)) hc140) (ya (ys (ef54 N) hc162) (ya (ys (ef55 N) hc163) (ya (ys (elf28_14h N a0n a0nl h0rw h0_0 h0_1 h0_2 h1_0c3 h1_1nlc3 h1_2nc3 h1_2nlc3 h1_3nlc3 h2c3 h3c3 h4c3 h1_0c93 h1_1nlc93 h1_2nc93 h1_2nlc93 h1_3nlc93 h2c93 h3c93 h4c93 h0_0c162 h0_1c162 h0_2c162 h0_0c163 h0_1c163 h0_2c163 N (0 : Int) h0_1c140 h0_2c140 h2c140) ho179) (ya (ys (ef15 N (256 : Int) h1_0c3 (List.length h2c3) h1_1nlc3 h1_2nc3 h1_2nlc3 (List.length h4c3) h1_3nlc3 (List.length h7l179) false h6_1l179 h6_2l179 h2c3 h3c3 h4c3 h7l179) hc180) (ya (ys (ef16 N true (List.length h6c180) false h1_1c180 h1_2c180 true h6c180) hc182) yz)))))))))))))))
/-! 30 -/
inductive Rf30 where
  | r0 (res_0nl : Bool) (res_1 : Int) (h1 : List Int)
def f30 (N : Nat) (a0n : Nat) (h0 : List Int) : Option Rf30 :=
 (match f26 N a0n h0 with
 | none => none
 | some (.r0 res_0nlc0 res_1c0 h1_0c0 h1_1c0 h1_2c0) =>
  if (res_1c0 = (0 : Int)) then
   (match f28 N (List.length h1_0c0) h1_0c0 h1_1c0 h1_2c0 with
   | none => none
   | some (.r0 res_0nlc2 res_1c2 h1c2) =>
    some (.r0 res_0nlc2 res_1c2 h1c2))
  else
   some (.r0 true res_1c0 ([] : List Int)))
def rf30 (a0n : Nat) (a0nl : Bool) (h0rw : Bool) (h0 : List Int) : Option Rf30 → Option (AV × Heap)
  | none => none
  | some (.r0 res_0nl res_1 h1) => some ((AV.tuple [(AV.slice 1 0 0 (List.length h1) 1 res_0nl true), (AV.int IntKind.i64 res_1)]), [(Blk.dyn h0rw 5 [(Col.ints IntKind.u8 h0)]), (Blk.dyn true 5 [(Col.ints IntKind.u8 h1)])])
theorem ef30 (N : Nat) (a0n : Nat) (a0nl : Bool) (h0rw : Bool) (h0 : List Int) : rf30 a0n a0nl h0rw h0 (f30 N a0n h0) = sem30 N [(AV.slice 0 0 0 a0n 1 a0nl true)] [(Blk.dyn h0rw 5 [(Col.ints IntKind.u8 h0)])] := by
  unfold f30
  cases hc0 : f26 N a0n h0 with
  | none => exact finF (ctx30 N) Try.f30 [.call (rf26 a0n a0nl h0rw h0 none)] (by kernel_rfl) (ya (ys (ef26 N a0n a0nl h0rw h0) hc0) yz)
  | some o =>
    cases o with
    | r0 res_0nlc0 res_1c0 h1_0c0 h1_1c0 h1_2c0 =>
      dsimp only
      refine br (p := (res_1c0 = (0 : Int))) (fun h1x => ?_) (fun h1x => finF (ctx30 N) Try.f30 [.call (rf26 a0n a0nl h0rw h0 (some (.r0 res_0nlc0 res_1c0 h1_0c0 h1_1c0 h1_2c0))), .b true] (by kernel_rfl) (ya (ys (ef26 N a0n a0nl h0rw h0) hc0) (ya (pNX h1x) yz)))
      cases hc2 : f28 N (List.length h1_0c0) h1_0c0 h1_1c0 h1_2c0 with
      | none => exact finF (ctx30 N) Try.f30 [.call (rf26 a0n a0nl h0rw h0 (some (.r0 res_0nlc0 res_1c0 h1_0c0 h1_1c0 h1_2c0))), .b false, .call (rf28 (List.length h1_0c0) res_0nlc0 true h1_0c0 h1_1c0 h1_2c0 none)] (by kernel_rfl) (ya (ys (ef26 N a0n a0nl h0rw h0) hc0) (ya (pX h1x) (ya (ys (ef28 N (List.length h1_0c0) res_0nlc0 true h1_0c0 h1_1c0 h1_2c0) hc2) yz)))
      | some o =>
        cases o with
        | r0 res_0nlc2 res_1c2 h1c2 =>
          dsimp only
          exact finF (ctx30 N) Try.f30 [.call (rf26 a0n a0nl h0rw h0 (some (.r0 res_0nlc0 res_1c0 h1_0c0 h1_1c0 h1_2c0))), .b false, .call (rf28 (List.length h1_0c0) res_0nlc0 true h1_0c0 h1_1c0 h1_2c0 (some (.r0 res_0nlc2 res_1c2 h1c2)))] (by kernel_rfl) (ya (ys (ef26 N a0n a0nl h0rw h0) hc0) (ya (pX h1x) (ya (ys (ef28 N (List.length h1_0c0) res_0nlc0 true h1_0c0 h1_1c0 h1_2c0) hc2) yz)))
end
end Go.Proofs.Ytnkjpkfijafkgaa
