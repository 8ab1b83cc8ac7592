/-
What deflate.Tokens reckons, in plain words: the longest row that stood ahead, and the nearest one of these.
-/
import Derived.Test.YtnkjpkfijafkgaaPBC0
import Derived.Test.YtnkjpkfijafkgaaU
set_option linter.unusedVariables false
set_option linter.unusedSimpArgs false
namespace Go.Proofs.Ytnkjpkfijafkgaa
open Go.Abs
/-- how many bytes from p on are as those from q on, up to k -/
def runF (b : List Int) : Nat → Nat → Nat → Nat
  | 0, _, _ => 0
  | k + 1, p, q => if p < b.length ∧ b.getD p 0 = b.getD q 0 then runF b k (p + 1) (q + 1) + 1 else 0
theorem runF_le (b : List Int) : ∀ k p q, runF b k p q ≤ k
  | 0, _, _ => Nat.le_refl _
  | k + 1, p, q => by
    unfold runF
    have := runF_le b k (p + 1) (q + 1)
    split <;> omega
def run (b : List Int) (p back : Nat) : Nat := runF b 258 p (p - back)
theorem run_le (b : List Int) (p back : Nat) : run b p back ≤ 258 := runF_le _ _ _ _
theorem lf47_ok (N : Nat) (b : List Int) (p back : Nat) (hb : b.length ≤ 1048576) (hp : p < b.length) (h1 : 1 ≤ back) (h2 : back ≤ p) : ∀ (k n s : Nat) (si : Int), si = s → s + k = 258 → k < n →
    lf47_2 N b.length p back b n si = some (.e0 ((s + runF b k (p + s) (p + s - back) : Nat) : Int)) := by
  intro k
  induction k with
  | zero =>
    intro n s si hsi hs hn
    obtain ⟨n, rfl⟩ : ∃ m, n = m + 1 := ⟨n - 1, by omega⟩
    rw [lf47_2, slf47_2, if_neg (by omega)]
    simp [runF, hsi]
  | succ k ih =>
    intro n s si hsi hs hn
    obtain ⟨n, rfl⟩ : ∃ m, n = m + 1 := ⟨n - 1, by omega⟩
    rw [lf47_2, slf47_2, if_pos (by omega)]
    have e1 : IntKind.wrap .i64 ((p : Int) + si) = ((p + s : Nat) : Int) := by rw [w64 (by omega)]; omega
    rw [e1]
    by_cases hl : p + s < b.length
    · rw [if_pos (by omega), if_pos (by omega), if_pos (by omega)]
      have e2 : IntKind.wrap .i64 (((p + s : Nat) : Int) - (back : Int)) = ((p + s - back : Nat) : Int) := by rw [w64 (by omega)]; omega
      rw [e2, if_pos (by omega), if_pos (by omega)]
      simp only [Int.toNat_natCast, Nat.zero_add]
      unfold runF
      by_cases he : b.getD (p + s) 0 = b.getD (p + s - back) 0
      · rw [if_pos he, if_pos ⟨hl, he⟩]
        have e3 : IntKind.wrap .i64 (si + 1) = ((s + 1 : Nat) : Int) := by rw [w64 (by omega)]; omega
        rw [ih n (s + 1) _ e3 (by omega) (by omega)]
        have e4 : p + (s + 1) - back = p + s - back + 1 := by omega
        have e5 : p + (s + 1) = p + s + 1 := by omega
        rw [e4, e5]
        congr 3
        omega
      · rw [if_neg he, if_neg (fun h => he h.2)]
        simp [hsi]
    · rw [if_neg (by omega)]
      unfold runF
      rw [if_neg (fun h => hl h.1)]
      simp [hsi]
theorem f47_ok (N : Nat) (hN : 258 < N) (b : List Int) (p back : Nat) (hb : b.length ≤ 1048576) (hp : p < b.length) (h1 : 1 ≤ back) (h2 : back ≤ p) : f47 N b.length p back b = some (.r0 (run b p back : Nat)) := by
  rw [f47, lf47_ok N b p back hb hp h1 h2 258 N 0 0 rfl rfl hN]
  simp [run]
/-- the best one among backs of at most k -/
def best (b : List Int) (p : Nat) : Nat → Nat × Nat
  | 0 => (0, 0)
  | k + 1 => if run b p (k + 1) > (best b p k).1 then (run b p (k + 1), k + 1) else best b p k
theorem best_le (b : List Int) (p : Nat) : ∀ k, (best b p k).1 ≤ 258 ∧ (best b p k).2 ≤ k
  | 0 => ⟨by simp [best], by simp [best]⟩
  | k + 1 => by
    have := best_le b p k
    unfold best
    split
    · exact ⟨run_le _ _ _, by simp⟩
    · exact ⟨this.1, by omega⟩
theorem best_top (b : List Int) (p k : Nat) (h : ¬ (best b p k).1 < 258) : ∀ d, best b p (k + d) = best b p k
  | 0 => rfl
  | d + 1 => by
    have e := best_top b p k h d
    have := run_le b p (k + d + 1)
    have e2 : best b p (k + d + 1) = if run b p (k + d + 1) > (best b p (k + d)).1 then (run b p (k + d + 1), k + d + 1) else best b p (k + d) := rfl
    show best b p (k + d + 1) = _
    rw [e2, if_neg (by rw [e]; omega), e]
theorem lf26_8_ok (N : Nat) (hN : 258 < N) (b : List Int) (p : Nat) (hb : b.length ≤ 1048576) (hp : p < b.length) : ∀ (d n k : Nat) (ki b1 b2 : Int), ki = k + 1 → b1 = (best b p k).1 → b2 = (best b p k).2 → k + d = min p 1024 → d < n →
    lf26_8 N b.length b p n ki b1 b2 = some (.e0 (best b p (min p 1024)).1 (best b p (min p 1024)).2) := by
  intro d
  induction d with
  | zero =>
    intro n k ki b1 b2 hk h1 h2 hd hn
    obtain ⟨n, rfl⟩ : ∃ m, n = m + 1 := ⟨n - 1, by omega⟩
    rw [lf26_8, slf26_8]
    rw [if_neg (by split <;> omega)]
    have : k = min p 1024 := by omega
    rw [← this, h1, h2]
  | succ d ih =>
    intro n k ki b1 b2 hk h1 h2 hd hn
    obtain ⟨n, rfl⟩ : ∃ m, n = m + 1 := ⟨n - 1, by omega⟩
    rw [lf26_8, slf26_8]
    rw [if_pos (by split <;> omega)]
    by_cases h3 : b1 < 258
    · rw [if_pos h3]
      have ek : ki = ((k + 1 : Nat) : Int) := by omega
      rw [ek, f47_ok N hN b p (k + 1) hb hp (by omega) (by omega)]
      simp only
      have e3 : IntKind.wrap .i64 (((k + 1 : Nat) : Int) + 1) = ((k + 1 : Nat) : Int) + 1 := w64 (by omega)
      rw [e3]
      by_cases h4 : run b p (k + 1) > (best b p k).1
      · rw [if_pos (by omega)]
        exact ih n (k + 1) _ _ _ rfl (by unfold best; rw [if_pos h4]) (by unfold best; rw [if_pos h4]) (by omega) (by omega)
      · rw [if_neg (by omega)]
        exact ih n (k + 1) _ _ _ rfl (by unfold best; rw [if_neg h4]; exact h1) (by unfold best; rw [if_neg h4]; exact h2) (by omega) (by omega)
    · rw [if_neg h3]
      have := best_top b p k (by omega) (d + 1)
      rw [← hd, this, h1, h2]
/-- the token at a place, and how far it goes -/
def tokAt (b : List Int) (p : Nat) : (Int × Int × Int) × Nat :=
  if (best b p (min p 1024)).1 < 3 then ((b.getD p 0, 0, 0), 1) else ((0, (best b p (min p 1024)).1, (best b p (min p 1024)).2), (best b p (min p 1024)).1)
def toks (b : List Int) : Nat → Nat → List (Int × Int × Int)
  | 0, _ => []
  | d + 1, p => if p < b.length then (tokAt b p).1 :: toks b d (p + (tokAt b p).2) else []
theorem toks_len (b : List Int) : ∀ d p, (toks b d p).length ≤ d
  | 0, _ => Nat.le_refl _
  | d + 1, p => by
    unfold toks
    have := toks_len b d (p + (tokAt b p).2)
    split
    · simp; omega
    · simp
theorem lf26_5_ok (N : Nat) (hN : 1025 < N) (b : List Int) (hb : b.length ≤ 1048576) (hby : ∀ x ∈ b, 0 ≤ x ∧ x ≤ 255) : ∀ (d n p : Nat) (nl : Bool) (pi : Int) (A B C : List Int), pi = p → b.length - p ≤ d → d < n → A.length ≤ p →
    ∃ nl', lf26_5 N b.length b n nl pi A B C = some (.e0 nl' (A ++ (toks b d p).map (·.1)) (B ++ (toks b d p).map (·.2.1)) (C ++ (toks b d p).map (·.2.2))) := by
  intro d
  induction d with
  | zero =>
    intro n p nl pi A B C hp hd hn hA
    obtain ⟨n, rfl⟩ : ∃ m, n = m + 1 := ⟨n - 1, by omega⟩
    rw [lf26_5, slf26_5, if_neg (by omega)]
    exact ⟨nl, by simp [toks]⟩
  | succ d ih =>
    intro n p nl pi A B C hp hd hn hA
    obtain ⟨n, rfl⟩ : ∃ m, n = m + 1 := ⟨n - 1, by omega⟩
    rw [lf26_5, slf26_5]
    by_cases hl : p < b.length
    · rw [if_pos (by omega), hp, lf26_8_ok N (by omega) b p hb hl (min p 1024) N 0 1 0 0 (by simp) (by simp [best]) (by simp [best]) (by omega) (by omega)]
      simp only
      unfold toks
      rw [if_pos hl]
      by_cases h3 : (best b p (min p 1024)).1 < 3
      · rw [if_pos (by omega), if_pos (by omega), if_pos (by omega), if_pos (by simp; omega)]
        have hm := hby _ (getD_mem (l := b) (i := p) (d := 0) hl)
        have e1 : IntKind.wrap .i64 (b.getD (0 + (p : Int).toNat) 0) = b.getD p 0 := by
          rw [Int.toNat_natCast, Nat.zero_add]; exact w64 (by omega)
        have e2 : IntKind.wrap .i64 ((p : Int) + 1) = ((p + 1 : Nat) : Int) := by rw [w64 (by omega)]; omega
        rw [e1, e2]
        have et : tokAt b p = ((b.getD p 0, 0, 0), 1) := by unfold tokAt; rw [if_pos h3]
        obtain ⟨nl', h⟩ := ih n (p + 1) false _ (A ++ [b.getD p 0]) (B ++ [0]) (C ++ [0]) rfl (by omega) (by omega) (by simp; omega)
        exact ⟨nl', by rw [h, et]; simp⟩
      · have hb2 := (best_le b p (min p 1024)).1
        rw [if_neg (by omega), if_pos (by simp; omega), if_neg (by omega)]
        have e2 : IntKind.wrap .i64 ((p : Int) + ((best b p (min p 1024)).1 : Int)) = ((p + (best b p (min p 1024)).1 : Nat) : Int) := by rw [w64 (by omega)]; omega
        rw [e2]
        have et : tokAt b p = (((0 : Int), ((best b p (min p 1024)).1 : Int), ((best b p (min p 1024)).2 : Int)), (best b p (min p 1024)).1) := by unfold tokAt; rw [if_neg h3]
        obtain ⟨nl', h⟩ := ih n (p + (best b p (min p 1024)).1) false _ (A ++ [0]) (B ++ [((best b p (min p 1024)).1 : Int)]) (C ++ [((best b p (min p 1024)).2 : Int)]) rfl (by omega) (by omega) (by simp; omega)
        exact ⟨nl', by rw [h, et]; simp⟩
    · rw [if_neg (by omega)]
      unfold toks
      rw [if_neg hl]
      exact ⟨nl, by simp⟩
theorem f26_ok (N : Nat) (b : List Int) (hN : 1025 < N) (hN2 : b.length < N) (hb : b.length ≤ 1048576) (hby : ∀ x ∈ b, 0 ≤ x ∧ x ≤ 255) :
    ∃ nl, f26 N b.length b = some (.r0 nl 0 ((toks b b.length 0).map (·.1)) ((toks b b.length 0).map (·.2.1)) ((toks b b.length 0).map (·.2.2))) := by
  rw [f26, if_neg (by omega)]
  obtain ⟨nl, h⟩ := lf26_5_ok N hN b hb hby b.length N 0 true 0 [] [] [] rfl (by omega) hN2 (by simp)
  exact ⟨nl, by rw [h]; simp⟩
end Go.Proofs.Ytnkjpkfijafkgaa
