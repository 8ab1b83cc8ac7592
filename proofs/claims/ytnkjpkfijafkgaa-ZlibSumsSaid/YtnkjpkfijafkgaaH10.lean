/-
ZlibSums' plain law.
-/
import Derived.Test.YtnkjpkfijafkgaaPC
import Derived.Test.YtnkjpkfijafkgaaU
set_option linter.unusedVariables false
set_option linter.unusedSimpArgs false
namespace Go.Proofs.Ytnkjpkfijafkgaa
open Go.Abs
def tot : List Int → Int
  | [] => 0
  | x :: r => x + tot r
def wgt : List Int → Int
  | [] => 0
  | x :: r => ((r.length : Int) + 1) * x + wgt r
theorem tot_app : ∀ a b, tot (a ++ b) = tot a + tot b
  | [], b => by simp [tot]
  | x :: r, b => by simp only [List.cons_append, tot, tot_app r b]; omega
theorem wgt_app : ∀ a b, wgt (a ++ b) = wgt a + (b.length : Int) * tot a + wgt b
  | [], b => by simp [wgt, tot]
  | x :: r, b => by
    simp only [List.cons_append, wgt, tot, wgt_app r b, List.length_append, Int.natCast_add]
    grind
theorem tot_range {l : List Int} (h : ∀ x ∈ l, 0 ≤ x ∧ x ≤ 255) : 0 ≤ tot l ∧ tot l ≤ 255 * (l.length : Int) := by
  induction l with
  | nil => simp [tot]
  | cons x r ih =>
    have h1 := h x (by simp)
    have h2 := ih fun y hy => h y (by simp [hy])
    simp only [tot, List.length_cons]
    omega
theorem mod_of {x y k : Int} (h : y = x + 65521 * k) : y % 65521 = x % 65521 := by
  rw [h, Int.add_mul_emod_self_left]
theorem lf34_ok (N : Nat) (L : List Int) (hL : L.length ≤ 1048576) (hby : ∀ x ∈ L, 0 ≤ x ∧ x ≤ 255) : ∀ (r : List Int) (n i : Nat) (ii a b : Int), L.drop i = r → ii = i → r.length < n → 0 ≤ a → a < 65521 → 0 ≤ b → b < 65521 →
    lf34_3 N L.length L n ii a b = some (.e0 ((a + tot r) % 65521) ((b + (r.length : Int) * a + wgt r) % 65521)) := by
  intro r
  induction r with
  | nil =>
    intro n i ii a b hr hi hn h1 h2 h3 h4
    obtain ⟨n, rfl⟩ : ∃ m, n = m + 1 := ⟨n - 1, by simp at hn; omega⟩
    have : L.length ≤ i := by simpa using hr
    rw [lf34_3, slf34_3, if_neg (by omega)]
    simp only [tot, wgt, List.length_nil]
    congr 2
    · rw [Int.emod_eq_of_lt (by omega) (by omega)]; omega
    · rw [Int.emod_eq_of_lt (by omega) (by omega)]; omega
  | cons x r ih =>
    intro n i ii a b hr hi hn h1 h2 h3 h4
    obtain ⟨n, rfl⟩ : ∃ m, n = m + 1 := ⟨n - 1, by omega⟩
    have hlt : i < L.length := by
      rcases Nat.lt_or_ge i L.length with h' | h'
      · exact h'
      · rw [List.drop_eq_nil_of_le h'] at hr; cases hr
    have hx : L.getD i 0 = x := by
      rw [List.drop_eq_getElem_cons hlt] at hr
      injection hr with e1 e2
      rw [getD_of_lt hlt, e1]
    have hd : L.drop (i + 1) = r := by
      rw [List.drop_eq_getElem_cons hlt] at hr
      injection hr
    have hxb := hby x (by rw [← hx]; exact getD_mem hlt)
    rw [lf34_3, slf34_3, if_pos (by omega), if_pos (by omega), if_pos (by omega)]
    have ei : ii.toNat = i := by omega
    rw [ei, Nat.zero_add, hx]
    have e1 : IntKind.wrap .i64 (ii + 1) = ((i + 1 : Nat) : Int) := by rw [w64 (by omega)]; omega
    have e2 : IntKind.wrap .i64 x = x := w64 (by omega)
    have e3 : IntKind.wrap .i64 (a + x) = a + x := w64 (by omega)
    rw [e1, e2, e3, Int.tmod_eq_emod_of_nonneg (by omega)]
    have m1 : 0 ≤ (a + x) % 65521 := Int.emod_nonneg _ (by omega)
    have m2 : (a + x) % 65521 < 65521 := Int.emod_lt_of_pos _ (by omega)
    have e4 : IntKind.wrap .i64 (b + (a + x) % 65521) = b + (a + x) % 65521 := w64 (by omega)
    rw [e4, Int.tmod_eq_emod_of_nonneg (by omega)]
    have m3 : 0 ≤ (b + (a + x) % 65521) % 65521 := Int.emod_nonneg _ (by omega)
    have m4 : (b + (a + x) % 65521) % 65521 < 65521 := Int.emod_lt_of_pos _ (by omega)
    rw [ih n (i + 1) _ _ _ hd rfl (by simp at hn; omega) m1 m2 m3 m4]
    have q1 := Int.mul_ediv_add_emod (a + x) 65521
    have q2 := Int.mul_ediv_add_emod (b + (a + x) % 65521) 65521
    congr 2
    · refine mod_of (k := -((a + x) / 65521)) ?_
      simp only [tot]
      omega
    · refine mod_of (k := -((a + x) / 65521) - (b + (a + x) % 65521) / 65521 - (r.length : Int) * ((a + x) / 65521)) ?_
      simp only [wgt, List.length_cons, Int.natCast_add]
      generalize (a + x) / 65521 = d1 at *
      generalize (b + (a + x) % 65521) / 65521 = d2 at *
      generalize (b + (a + x) % 65521) % 65521 = c2 at *
      generalize (a + x) % 65521 = c1 at *
      grind
theorem bits_or {x y : Int} (hx : 0 ≤ x ∧ x ≤ 9223372036854775807) (hy : 0 ≤ y ∧ y ≤ 9223372036854775807) : Go.Abs.bits IntKind.i64 (fun a b => a ||| b) x y = ((x.toNat ||| y.toNat : Nat) : Int) := by
  have h1 : (BitVec.ofInt 64 x).toNat = x.toNat := by rw [BitVec.toNat_ofInt]; omega
  have h2 : (BitVec.ofInt 64 y).toNat = y.toNat := by rw [BitVec.toNat_ofInt]; omega
  have h3 : x.toNat ||| y.toNat < 2 ^ 63 := Nat.or_lt_two_pow (by omega) (by omega)
  have h4 : (BitVec.ofInt 64 x ||| BitVec.ofInt 64 y).toNat = x.toNat ||| y.toNat := by rw [BitVec.toNat_or, h1, h2]
  show IntKind.wrap .i64 ((BitVec.ofInt 64 x ||| BitVec.ofInt 64 y).toNat : Int) = _
  rw [h4]
  exact w64 (by omega)
theorem f34_ok (N : Nat) (L : List Int) (hL : L.length ≤ 1048576) (hN : L.length < N) (hby : ∀ x ∈ L, 0 ≤ x ∧ x ≤ 255) : f34 N L.length L = some (.r0 (((L.length : Int) + wgt L) % 65521 * 65536 + (1 + tot L) % 65521)) := by
  rw [f34, lf34_ok N L hL hby L N 0 0 1 0 rfl rfl hN (by omega) (by omega) (by omega) (by omega)]
  simp only
  have a1 : 0 ≤ (1 + tot L) % 65521 := Int.emod_nonneg _ (by omega)
  have a2 : (1 + tot L) % 65521 < 65521 := Int.emod_lt_of_pos _ (by omega)
  have e0 : (0 + (L.length : Int) * 1 + wgt L) = (L.length : Int) + wgt L := by omega
  rw [e0]
  have b1 : 0 ≤ ((L.length : Int) + wgt L) % 65521 := Int.emod_nonneg _ (by omega)
  have b2 : ((L.length : Int) + wgt L) % 65521 < 65521 := Int.emod_lt_of_pos _ (by omega)
  generalize (1 + tot L) % 65521 = a at *
  generalize ((L.length : Int) + wgt L) % 65521 = b at *
  have e1 : IntKind.wrap .i64 (b * 65536) = b * 65536 := w64 (by omega)
  rw [e1, bits_or (by omega) (by omega)]
  congr 2
  have h := Nat.two_pow_add_eq_or_of_lt (i := 16) (b := a.toNat) (by omega) b.toNat
  have e2 : (b * 65536).toNat = 2 ^ 16 * b.toNat := by omega
  rw [e2, ← h]
  omega
theorem f10_ok (N : Nat) (a b : List Int) (hN : 5000 < N) (ha : ∀ x ∈ a, 0 ≤ x ∧ x ≤ 255) (hb : ∀ x ∈ b, 0 ≤ x ∧ x ≤ 255) : f10 N a b = some (.r0 true) := by
  rw [f10]
  by_cases h1 : ((a.length : Nat) : Int) > 2000
  · rw [if_pos h1]
  rw [if_neg h1]
  by_cases h2 : ((b.length : Nat) : Int) > 2000
  · rw [if_pos h2]
  rw [if_neg h2, f34_ok N a (by omega) (by omega) ha, f34_ok N b (by omega) (by omega) hb]
  simp only [List.nil_append]
  rw [if_pos (by simp; omega), f34_ok N (a ++ b) (by simp; omega) (by simp; omega) (by
    intro x hx
    rcases List.mem_append.1 hx with h | h
    · exact ha x h
    · exact hb x h)]
  simp only
  congr 2
  rw [beq_iff_eq]
  rw [tot_app, wgt_app]
  simp only [List.length_append, Int.natCast_add]
  have x1 : 0 ≤ (1 + tot a) % 65521 := Int.emod_nonneg _ (by omega)
  have x2 : (1 + tot a) % 65521 < 65521 := Int.emod_lt_of_pos _ (by omega)
  have x3 : 0 ≤ ((a.length : Int) + wgt a) % 65521 := Int.emod_nonneg _ (by omega)
  have x4 : ((a.length : Int) + wgt a) % 65521 < 65521 := Int.emod_lt_of_pos _ (by omega)
  have y1 : 0 ≤ (1 + tot b) % 65521 := Int.emod_nonneg _ (by omega)
  have y2 : (1 + tot b) % 65521 < 65521 := Int.emod_lt_of_pos _ (by omega)
  have y3 : 0 ≤ ((b.length : Int) + wgt b) % 65521 := Int.emod_nonneg _ (by omega)
  have y4 : ((b.length : Int) + wgt b) % 65521 < 65521 := Int.emod_lt_of_pos _ (by omega)
  have qa1 := Int.mul_ediv_add_emod (1 + tot a) 65521
  have qa2 := Int.mul_ediv_add_emod ((a.length : Int) + wgt a) 65521
  have qb1 := Int.mul_ediv_add_emod (1 + tot b) 65521
  have qb2 := Int.mul_ediv_add_emod ((b.length : Int) + wgt b) 65521
  generalize hxa : (1 + tot a) % 65521 = xa at *
  generalize hxb : ((a.length : Int) + wgt a) % 65521 = xb at *
  generalize hya : (1 + tot b) % 65521 = ya' at *
  generalize hyb : ((b.length : Int) + wgt b) % 65521 = yb at *
  have d1 : (xb * 65536 + xa).tdiv 65536 = xb := by rw [Int.tdiv_eq_ediv_of_nonneg (by omega)]; omega
  have d2 : (yb * 65536 + ya').tdiv 65536 = yb := by rw [Int.tdiv_eq_ediv_of_nonneg (by omega)]; omega
  have d3 : (xb * 65536 + xa).tmod 65536 = xa := by rw [Int.tmod_eq_emod_of_nonneg (by omega)]; omega
  have d4 : (yb * 65536 + ya').tmod 65536 = ya' := by rw [Int.tmod_eq_emod_of_nonneg (by omega)]; omega
  rw [d1, d2, d3, d4]
  have hbl : (b.length : Int) ≤ 2000 := by omega
  have pb : (b.length : Int) * (xa + 65520) ≤ 2000 * 131041 := Int.mul_le_mul hbl (by omega) (by omega) (by omega)
  have pb0 : 0 ≤ (b.length : Int) * (xa + 65520) := Int.mul_nonneg (by omega) (by omega)
  have w1 : IntKind.wrap .i64 xb = xb := w64 (by omega)
  have w2 : IntKind.wrap .i64 yb = yb := w64 (by omega)
  have w3 : IntKind.wrap .i64 (xb + yb) = xb + yb := w64 (by omega)
  have w4 : IntKind.wrap .i64 (xa + 65520) = xa + 65520 := w64 (by omega)
  have w5 : IntKind.wrap .i64 ((b.length : Int) * (xa + 65520)) = (b.length : Int) * (xa + 65520) := w64 (by omega)
  have w6 : IntKind.wrap .i64 (xb + yb + (b.length : Int) * (xa + 65520)) = xb + yb + (b.length : Int) * (xa + 65520) := w64 (by omega)
  have w7 : IntKind.wrap .i64 (xa + ya') = xa + ya' := w64 (by omega)
  have w8 : IntKind.wrap .i64 (xa + ya' + 65520) = xa + ya' + 65520 := w64 (by omega)
  rw [w1, w2, w3, w4, w5, w6, w7, w8, Int.tmod_eq_emod_of_nonneg (by omega), Int.tmod_eq_emod_of_nonneg (by omega)]
  have z1 : 0 ≤ (xb + yb + (b.length : Int) * (xa + 65520)) % 65521 := Int.emod_nonneg _ (by omega)
  have z2 : (xb + yb + (b.length : Int) * (xa + 65520)) % 65521 < 65521 := Int.emod_lt_of_pos _ (by omega)
  have z3 : 0 ≤ (xa + ya' + 65520) % 65521 := Int.emod_nonneg _ (by omega)
  have z4 : (xa + ya' + 65520) % 65521 < 65521 := Int.emod_lt_of_pos _ (by omega)
  have w9 : IntKind.wrap .i64 (65536 * ((xb + yb + (b.length : Int) * (xa + 65520)) % 65521)) = 65536 * ((xb + yb + (b.length : Int) * (xa + 65520)) % 65521) := w64 (by omega)
  rw [w9, w64 (by omega)]
  have g1 : (1 + (tot a + tot b)) % 65521 = (xa + ya' + 65520) % 65521 := by
    refine mod_of (k := (1 + tot a) / 65521 + (1 + tot b) / 65521 - 1) ?_
    omega
  have g2 : ((a.length : Int) + (b.length : Int) + (wgt a + (b.length : Int) * tot a + wgt b)) % 65521 = (xb + yb + (b.length : Int) * (xa + 65520)) % 65521 := by
    refine mod_of (k := ((a.length : Int) + wgt a) / 65521 + ((b.length : Int) + wgt b) / 65521 + (b.length : Int) * ((1 + tot a) / 65521) - (b.length : Int)) ?_
    generalize (1 + tot a) / 65521 = k1 at *
    generalize ((a.length : Int) + wgt a) / 65521 = k2 at *
    generalize ((b.length : Int) + wgt b) / 65521 = k3 at *
    generalize (b.length : Int) = lb at *
    grind
  rw [g1, g2]
  omega
end Go.Proofs.Ytnkjpkfijafkgaa
