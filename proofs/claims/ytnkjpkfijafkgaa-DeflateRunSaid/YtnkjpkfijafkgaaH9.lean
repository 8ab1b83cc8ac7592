/-
DeflateRun's plain law.
-/
import Derived.Test.YtnkjpkfijafkgaaPB
import Derived.Test.YtnkjpkfijafkgaaT1
set_option linter.unusedVariables false
set_option linter.unusedSimpArgs false
namespace Go.Proofs.Ytnkjpkfijafkgaa
open Go.Abs
theorem getD_rep (n i : Nat) (c : Int) (h : i < n) : (List.replicate n c).getD i 0 = c := by simp [List.getD, h]
theorem runF_rep (n : Nat) (c : Int) : ∀ k p q, q ≤ p → runF (List.replicate n c) k p q = min k (n - p)
  | 0, p, q, _ => by simp [runF]
  | k + 1, p, q, h => by
    unfold runF
    by_cases hp : p < n
    · rw [if_pos ⟨by simpa using hp, by rw [getD_rep _ _ _ hp, getD_rep _ _ _ (by omega)]⟩, runF_rep n c k (p + 1) (q + 1) (by omega)]
      omega
    · rw [if_neg (fun e => hp (by simpa using e.1))]
      omega
theorem run_rep (n : Nat) (c : Int) (p back : Nat) : run (List.replicate n c) p back = min 258 (n - p) := runF_rep n c 258 p (p - back) (by omega)
theorem best_rep (n : Nat) (c : Int) (p : Nat) (h : p < n) : ∀ k, best (List.replicate n c) p (k + 1) = (min 258 (n - p), 1)
  | 0 => by simp only [best, run_rep]; rw [if_pos (by omega)]
  | k + 1 => by
    have e : best (List.replicate n c) p (k + 2) = if run (List.replicate n c) p (k + 2) > (best (List.replicate n c) p (k + 1)).1 then (run (List.replicate n c) p (k + 2), k + 2) else best (List.replicate n c) p (k + 1) := rfl
    rw [e, best_rep n c p h k, run_rep, if_neg (by simp)]
theorem tok_rep0 (n : Nat) (c : Int) (h : 0 < n) : tokAt (List.replicate n c) 0 = ((c, 0, 0), 1) := by
  unfold tokAt
  simp [best, h]
theorem tok_rep1 (n : Nat) (c : Int) (p : Nat) (h : p < n) (h0 : 0 < p) : tokAt (List.replicate n c) p = if n - p < 3 then ((c, 0, 0), 1) else (((0 : Int), ((min 258 (n - p) : Nat) : Int), (1 : Int)), min 258 (n - p)) := by
  unfold tokAt
  obtain ⟨k, hk⟩ : ∃ k, min p 1024 = k + 1 := ⟨min p 1024 - 1, by omega⟩
  rw [hk, best_rep n c p h k]
  by_cases h3 : n - p < 3
  · rw [if_pos h3, if_pos (by show min 258 (n - p) < 3; omega), getD_rep _ _ _ h]
  · rw [if_neg h3, if_neg (by show ¬ min 258 (n - p) < 3; omega)]
    rfl
theorem drop_cons {α : Type} {l r : List α} {x : α} {i : Nat} (h : l.drop i = x :: r) : i < l.length ∧ l[i]? = some x ∧ l.drop (i + 1) = r := by
  have hlt : i < l.length := by
    rcases Nat.lt_or_ge i l.length with h' | h'
    · exact h'
    · rw [List.drop_eq_nil_of_le h'] at h; cases h
  rw [List.drop_eq_getElem_cons hlt] at h
  injection h with h1 h2
  exact ⟨hlt, by rw [List.getElem?_eq_getElem hlt, h1], h2⟩
theorem map_getD {α : Type} {l : List α} {x : α} {i : Nat} (f : α → Int) (h : l[i]? = some x) : (l.map f).getD i 0 = f x := by simp [List.getD, h]
theorem lf9_11_ok (N n : Nat) (c : Int) (hc : 0 ≤ c ∧ c ≤ 255) (hn : n ≤ 2000) (T : List (Int × Int × Int)) : ∀ (d m p i : Nat) (left ii : Int), T.drop i = toks (List.replicate n c) d p → left = ((n - p : Nat) : Int) → ii = i → n - p ≤ d → (i = 0 ↔ p = 0) → d < m → p ≤ n → T.length ≤ 2000 →
    lf9_11 N c (T.map (·.1)) (T.map (·.2.1)) (T.map (·.2.2)) m left ii = some (.e1 0) := by
  intro d
  induction d with
  | zero =>
    intro m p i left ii hT hl hi hd hz hm hp hTl
    obtain ⟨m, rfl⟩ : ∃ k, m = k + 1 := ⟨m - 1, by omega⟩
    have : T.length ≤ i := by simpa [toks] using hT
    rw [lf9_11, slf9_11, if_neg (by simp; omega)]
    congr 2; omega
  | succ d ih =>
    intro m p i left ii hT hl hi hd hz hm hp hTl
    obtain ⟨m, rfl⟩ : ∃ k, m = k + 1 := ⟨m - 1, by omega⟩
    rw [lf9_11, slf9_11]
    unfold toks at hT
    by_cases hpn : p < n
    · rw [if_pos (by simpa using hpn)] at hT
      obtain ⟨g1, g2, g3⟩ := drop_cons hT
      have ei : ii.toNat = i := by omega
      rw [if_pos (by simp; omega), if_pos (by simp; omega), ei, Nat.zero_add, map_getD _ g2, map_getD _ g2, map_getD _ g2]
      have e1 : IntKind.wrap .i64 (ii + 1) = ((i + 1 : Nat) : Int) := by rw [w64 (by omega)]; omega
      have ec : IntKind.wrap .i64 c = c := w64 (by omega)
      rw [e1, ec]
      by_cases h0 : p = 0
      · have hi0 : i = 0 := hz.2 h0
        subst h0
        rw [tok_rep0 n c hpn] at g3 ⊢
        have := ih m 1 (i + 1) (left - 1) ((i + 1 : Nat) : Int) g3 (by omega) rfl (by omega) (by omega) (by omega) (by omega) hTl
        have e2 : IntKind.wrap .i64 (left - 1) = left - 1 := w64 (by omega)
        simp only [hi, hi0]
        simp [e2]
        simpa [hi0] using this
      · have hi0 : ¬ i = 0 := fun e => h0 (hz.1 e)
        have ht := tok_rep1 n c p hpn (by omega)
        by_cases h3 : n - p < 3
        · rw [if_pos h3] at ht
          rw [ht] at g3 ⊢
          have := ih m (p + 1) (i + 1) (left - 1) ((i + 1 : Nat) : Int) g3 (by omega) rfl (by omega) (by omega) (by omega) (by omega) hTl
          have e2 : IntKind.wrap .i64 (left - 1) = left - 1 := w64 (by omega)
          rw [if_pos (by omega), if_neg (by omega), if_neg (by omega), if_pos (by omega)]
          simp [e2]
          simpa using this
        · rw [if_neg h3] at ht
          rw [ht] at g3 ⊢
          simp only at g3 ⊢
          have := ih m (p + min 258 (n - p)) (i + 1) (left - (min 258 (n - p) : Nat)) ((i + 1 : Nat) : Int) g3 (by omega) rfl (by omega) (by omega) (by omega) (by omega) hTl
          rw [if_pos (by omega), if_pos (by omega), if_pos (by split <;> omega), if_pos trivial, if_neg (by omega), if_neg (by omega), if_neg (by omega)]
          have e2 : IntKind.wrap .i64 (left - ((min 258 (n - p) : Nat) : Int)) = left - ((min 258 (n - p) : Nat) : Int) := w64 (by omega)
          rw [e2]
          exact this
    · rw [if_neg (by simpa using hpn)] at hT
      have : T.length ≤ i := by simpa using hT
      rw [if_neg (by simp; omega)]
      congr 2; omega
theorem lf9_5_ok (N n : Nat) (c : Int) (hn : n ≤ 2000) : ∀ (d m i : Nat) (ii : Int) (l : List Int), ii = i → n - i ≤ d → d < m → l = List.replicate i c ++ List.replicate (n - i) 0 → i ≤ n → lf9_5 N c n m ii l = some (.e0 (List.replicate n c)) := by
  intro d
  induction d with
  | zero =>
    intro m i ii l hi hd hm hl hin
    obtain ⟨m, rfl⟩ : ∃ k, m = k + 1 := ⟨m - 1, by omega⟩
    rw [lf9_5, slf9_5, if_neg (by omega), hl]
    have : n = i := by omega
    subst this; simp
  | succ d ih =>
    intro m i ii l hi hd hm hl hin
    obtain ⟨m, rfl⟩ : ∃ k, m = k + 1 := ⟨m - 1, by omega⟩
    rw [lf9_5, slf9_5]
    by_cases h : i < n
    · rw [if_pos (by omega), if_pos (by simp; omega), if_pos (by rw [hl]; simp; omega)]
      have e1 : IntKind.wrap .i64 (ii + 1) = ((i + 1 : Nat) : Int) := by rw [w64 (by omega)]; omega
      have ei : ii.toNat = i := by omega
      rw [e1, ei, Nat.zero_add]
      refine ih m (i + 1) _ _ rfl (by omega) (by omega) ?_ (by omega)
      rw [hl]
      obtain ⟨k, hk⟩ : ∃ k, n - i = k + 1 := ⟨n - i - 1, by omega⟩
      have hk2 : n - (i + 1) = k := by omega
      rw [hk, hk2, List.replicate_succ, List.set_append_right _ _ (by simp)]
      simp [List.replicate_succ']
    · rw [if_neg (by omega), hl]
      have : n = i := by omega
      subst this; simp
theorem f9_ok (N : Nat) (c n : Int) (hN : 2100 < N) (hc : 0 ≤ c ∧ c ≤ 255) (hn : -9223372036854775808 ≤ n ∧ n ≤ 9223372036854775807) : f9 N c n = some (.r0 true) := by
  rw [f9]
  by_cases h0 : n < 0
  · rw [if_pos h0]
  rw [if_neg h0]
  by_cases h1 : n > 2000
  · rw [if_pos h1]
  rw [if_neg h1]
  obtain ⟨k, rfl⟩ : ∃ k : Nat, n = k := ⟨n.toNat, by omega⟩
  rw [lf9_5_ok N k c (by omega) k N 0 0 _ rfl (by omega) (by omega) (by simp) (by omega)]
  simp only [Int.toNat_natCast]
  have hlen : (List.replicate k c).length = k := by simp
  obtain ⟨nl, h⟩ := f26_ok N (List.replicate k c) (by omega) (by rw [hlen]; omega) (by rw [hlen]; omega) (by intro x hx; rw [(List.mem_replicate.1 hx).2]; exact hc)
  rw [hlen] at h
  rw [h]
  simp only
  rw [lf9_11_ok N k c hc (by omega) _ k N 0 0 k 0 (by simp) (by simp) rfl (by omega) (by simp) (by omega) (by omega) (Nat.le_trans (toks_len _ _ _) (by omega))]
  simp
end Go.Proofs.Ytnkjpkfijafkgaa
