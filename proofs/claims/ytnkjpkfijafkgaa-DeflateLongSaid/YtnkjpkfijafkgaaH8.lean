/-
DeflateLong's plain law.
-/
import Derived.Test.YtnkjpkfijafkgaaPB
import Derived.Test.YtnkjpkfijafkgaaT1
set_option linter.unusedVariables false
set_option linter.unusedSimpArgs false
namespace Go.Proofs.Ytnkjpkfijafkgaa
open Go.Abs
theorem drop_cons8 {α : Type} {l r : List α} {x : α} {i : Nat} (h : l.drop i = x :: r) : i < l.length ∧ l[i]? = some x ∧ l.drop (i + 1) = r := by
  have hlt : i < l.length := by
    rcases Nat.lt_or_ge i l.length with h' | h'
    · exact h'
    · rw [List.drop_eq_nil_of_le h'] at h; cases h
  rw [List.drop_eq_getElem_cons hlt] at h
  injection h with h1 h2
  exact ⟨hlt, by rw [List.getElem?_eq_getElem hlt, h1], h2⟩
theorem map_getD8 {α : Type} {l : List α} {x : α} {i : Nat} (f : α → Int) (h : l[i]? = some x) : (l.map f).getD i 0 = f x := by simp [List.getD, h]
theorem runF_len (b : List Int) : ∀ k p q, runF b k p q ≤ b.length - p
  | 0, _, _ => by simp [runF]
  | k + 1, p, q => by
    unfold runF
    have := runF_len b k (p + 1) (q + 1)
    split
    · rename_i h; omega
    · omega
theorem best_max (b : List Int) (p : Nat) : ∀ k j, 1 ≤ j → j ≤ k → run b p j ≤ (best b p k).1
  | 0, j, h1, h2 => by omega
  | k + 1, j, h1, h2 => by
    unfold best
    by_cases hj : j = k + 1
    · subst hj
      split
      · simp
      · omega
    · have := best_max b p k j h1 (by omega)
      split
      · simp; omega
      · exact this
theorem best_min (b : List Int) (p : Nat) : ∀ k j, 1 ≤ j → j ≤ k → run b p j = (best b p k).1 → (best b p k).2 ≤ j
  | 0, j, h1, h2 => by omega
  | k + 1, j, h1, h2 => by
    have hm := best_max b p k
    have hn := best_min b p k j h1
    have hle := (best_le b p k).2
    unfold best
    by_cases hj : j = k + 1
    · subst hj
      split
      · simp
      · intro; omega
    · have h3 := hm j h1 (by omega)
      split
      · rename_i h4
        intro h5
        simp only at h5
        omega
      · exact hn (by omega)
theorem best_len (b : List Int) (p : Nat) : ∀ k, (best b p k).1 ≤ b.length - p
  | 0 => by simp [best]
  | k + 1 => by
    unfold best
    have := best_len b p k
    split
    · exact runF_len _ _ _ _
    · exact this
theorem lf8_17_ok (N : Nat) (b : List Int) (p back : Nat) (hb : b.length ≤ 1048576) (hp : p < b.length) (h1 : 1 ≤ back) (h2 : back ≤ p) : ∀ (k n s : Nat) (si : Int), si = s → s + k = 258 → k < n →
    lf8_17 N b p back n si = some (.e0 ((s + runF b k (p + s) (p + s - back) : Nat) : Int)) := by
  intro k
  induction k with
  | zero =>
    intro n s si hsi hs hn
    obtain ⟨n, rfl⟩ : ∃ m, n = m + 1 := ⟨n - 1, by omega⟩
    rw [lf8_17, slf8_17, if_neg (by omega)]
    simp [runF, hsi]
  | succ k ih =>
    intro n s si hsi hs hn
    obtain ⟨n, rfl⟩ : ∃ m, n = m + 1 := ⟨n - 1, by omega⟩
    rw [lf8_17, slf8_17, if_pos (by omega)]
    have e1 : IntKind.wrap .i64 ((p : Int) + si) = ((p + s : Nat) : Int) := by rw [w64 (by omega)]; omega
    rw [e1]
    by_cases hl : p + s < b.length
    · rw [if_pos (by omega), if_pos (by omega)]
      have e2 : IntKind.wrap .i64 (((p + s : Nat) : Int) - (back : Int)) = ((p + s - back : Nat) : Int) := by rw [w64 (by omega)]; omega
      rw [e2, if_pos (by omega)]
      simp only [Int.toNat_natCast, Nat.zero_add]
      unfold runF
      by_cases he : b.getD (p + s) 0 = b.getD (p + s - back) 0
      · rw [if_pos he, if_pos ⟨hl, he⟩]
        have e3 : IntKind.wrap .i64 (si + 1) = ((s + 1 : Nat) : Int) := by rw [w64 (by omega)]; omega
        rw [ih n (s + 1) _ e3 (by omega) (by omega)]
        have e4 : p + (s + 1) - back = p + s - back + 1 := by omega
        have e5 : p + (s + 1) = p + s + 1 := by omega
        rw [e4, e5]
        congr 3
        omega
      · rw [if_neg he, if_neg (fun h => he h.2)]
        simp [hsi]
    · rw [if_neg (by omega)]
      unfold runF
      rw [if_neg (fun h => hl h.1)]
      simp [hsi]
theorem lf8_14_ok (N : Nat) (hN : 258 < N) (b A B C : List Int) (p i : Nat) (m w : Nat) (hb : b.length ≤ 1048576) (hp : p < b.length) (hi : i < A.length) (hB : B.getD i 0 = m) (hC : C.getD i 0 = w)
    (hmax : ∀ j, 1 ≤ j → j ≤ min p 1024 → run b p j ≤ max m 2) (hmin : ∀ j, 1 ≤ j → j ≤ min p 1024 → run b p j = m → 0 < m → w ≤ j) : ∀ (d n j : Nat) (ji : Int), ji = j → 1 ≤ j → min p 1024 + 1 - j ≤ d → d < n →
    lf8_14 N b A B C p i n ji = some .e1 := by
  intro d
  induction d with
  | zero =>
    intro n j ji hj h1 hd hn
    obtain ⟨n, rfl⟩ : ∃ m, n = m + 1 := ⟨n - 1, by omega⟩
    rw [lf8_14, slf8_14]
    by_cases hp1 : ji ≤ (p : Int)
    · rw [if_pos hp1, if_neg (by omega)]
    · rw [if_neg hp1]
  | succ d ih =>
    intro n j ji hj h1 hd hn
    obtain ⟨n, rfl⟩ : ∃ m, n = m + 1 := ⟨n - 1, by omega⟩
    rw [lf8_14, slf8_14]
    by_cases hp1 : ji ≤ (p : Int)
    · rw [if_pos hp1]
      by_cases hp2 : ji ≤ 1024
      · rw [if_pos hp2, hj, lf8_17_ok N b p j hb hp h1 (by omega) 258 N 0 0 rfl rfl hN]
        simp only [Nat.zero_add, Nat.add_zero, Int.toNat_natCast]
        have hr : runF b 258 p (p - j) = run b p j := rfl
        rw [hr, hB, hC]
        have a1 := hmax j h1 (by omega)
        have a2 := hmin j h1 (by omega)
        rw [if_neg (by split <;> omega)]
        have e : IntKind.wrap .i64 ((j : Int) + 1) = ((j + 1 : Nat) : Int) := by rw [w64 (by omega)]; omega
        rw [e]
        have hgo := ih n (j + 1) _ rfl (by omega) (by omega) (by omega)
        by_cases h3 : (run b p j : Int) = m
        · rw [if_pos h3]
          by_cases h4 : (m : Int) > 0
          · rw [if_pos h4, if_pos (by omega), if_neg (by have := a2 (by omega) (by omega); omega)]
            exact hgo
          · rw [if_neg h4]; exact hgo
        · rw [if_neg h3]; exact hgo
      · rw [if_neg hp2]
    · rw [if_neg hp1]
theorem lf8_8_ok (N : Nat) (hN : 1100 < N) (b : List Int) (hb : b.length ≤ 300) (T : List (Int × Int × Int)) (hT2 : T.length ≤ 300) : ∀ (d n p i : Nat) (pi ii : Int), T.drop i = toks b d p → pi = p → ii = i → b.length - p ≤ d → d < n → p ≤ b.length →
    lf8_8 N b (T.map (·.1)) (T.map (·.2.1)) (T.map (·.2.2)) n pi ii = some (.e1 b.length) := by
  intro d
  induction d with
  | zero =>
    intro n p i pi ii hT hp hi hd hn hpl
    obtain ⟨n, rfl⟩ : ∃ k, n = k + 1 := ⟨n - 1, by omega⟩
    have : T.length ≤ i := by simpa [toks] using hT
    rw [lf8_8, slf8_8, if_neg (by simp; omega)]
    congr 2; omega
  | succ d ih =>
    intro n p i pi ii hT hp hi hd hn hpl
    obtain ⟨n, rfl⟩ : ∃ k, n = k + 1 := ⟨n - 1, by omega⟩
    rw [lf8_8, slf8_8]
    unfold toks at hT
    by_cases hpn : p < b.length
    · rw [if_pos hpn] at hT
      obtain ⟨g1, g2, g3⟩ := drop_cons8 hT
      have ei : ii.toNat = i := by omega
      rw [if_pos (by simp; omega), if_pos (by simp; omega), ei, Nat.zero_add, hp, hi]
      have hB := map_getD8 (·.2.1) g2
      have hC := map_getD8 (·.2.2) g2
      have hbl := best_len b p (min p 1024)
      have hbk := (best_le b p (min p 1024)).2
      have hb258 := (best_le b p (min p 1024)).1
      have hw : IntKind.wrap .i64 ((b.length : Int) - (p : Int)) = (b.length : Int) - p := w64 (by omega)
      have e1 : IntKind.wrap .i64 ((i : Int) + 1) = ((i + 1 : Nat) : Int) := by rw [w64 (by omega)]; omega
      rw [hw, e1]
      by_cases h3 : (best b p (min p 1024)).1 < 3
      · have ht : tokAt b p = ((b.getD p 0, 0, 0), 1) := by unfold tokAt; rw [if_pos h3]
        rw [ht] at hB hC g3
        simp only at hB hC g3
        rw [hB, hC, if_neg (by omega), if_neg (by omega), if_neg (by omega), if_neg (by omega)]
        rw [lf8_14_ok N (by omega) b _ _ _ p i 0 0 (by omega) hpn (by simpa using g1) hB hC (fun j h1 h2 => by have := best_max b p _ j h1 h2; omega) (fun j h1 h2 h4 h5 => by omega) (min p 1024) N 1 1 rfl (by omega) (by omega) (by omega)]
        simp only
        have e2 : IntKind.wrap .i64 ((p : Int) + (if (1 : Int) > 0 then (1 : Int) else 0)) = ((p + 1 : Nat) : Int) := by rw [if_pos (by omega), w64 (by omega)]; omega
        rw [e2]
        exact ih n (p + 1) (i + 1) _ _ g3 rfl rfl (by omega) (by omega) (by omega)
      · have ht : tokAt b p = (((0 : Int), ((best b p (min p 1024)).1 : Int), ((best b p (min p 1024)).2 : Int)), (best b p (min p 1024)).1) := by unfold tokAt; rw [if_neg h3]
        rw [ht] at hB hC g3
        simp only at hB hC g3
        rw [hB, hC, if_neg (by omega), if_neg (by omega), if_neg (by omega), if_neg (by omega)]
        rw [lf8_14_ok N (by omega) b _ _ _ p i (best b p (min p 1024)).1 (best b p (min p 1024)).2 (by omega) hpn (by simpa using g1) hB hC (fun j h1 h2 => by have := best_max b p _ j h1 h2; omega) (fun j h1 h2 h4 h5 => best_min b p _ j h1 h2 h4) (min p 1024) N 1 1 rfl (by omega) (by omega) (by omega)]
        simp only
        have e2 : IntKind.wrap .i64 ((p : Int) + (if (1 : Int) > ((best b p (min p 1024)).1 : Int) then (1 : Int) else ((best b p (min p 1024)).1 : Int))) = ((p + (best b p (min p 1024)).1 : Nat) : Int) := by rw [if_neg (by omega), w64 (by omega)]; omega
        rw [e2]
        exact ih n (p + (best b p (min p 1024)).1) (i + 1) _ _ g3 rfl rfl (by omega) (by omega) (by omega)
    · rw [if_neg hpn] at hT
      have : T.length ≤ i := by simpa using hT
      rw [if_neg (by simp; omega)]
      congr 2; omega
theorem f8_ok (N : Nat) (hN : 1100 < N) (b : List Int) (hby : ∀ x ∈ b, 0 ≤ x ∧ x ≤ 255) : f8 N b = some (.r0 true) := by
  rw [f8]
  by_cases h : ((b.length : Nat) : Int) > 300
  · rw [if_pos h]
  rw [if_neg h]
  obtain ⟨nl, h26⟩ := f26_ok N b (by omega) (by omega) (by omega) hby
  rw [h26]
  simp only
  rw [if_pos trivial, lf8_8_ok N hN b (by omega) (toks b b.length 0) (Nat.le_trans (toks_len _ _ _) (by omega)) b.length N 0 0 0 0 (by simp) rfl rfl (by omega) (by omega) (by omega)]
  simp
end Go.Proofs.Ytnkjpkfijafkgaa
