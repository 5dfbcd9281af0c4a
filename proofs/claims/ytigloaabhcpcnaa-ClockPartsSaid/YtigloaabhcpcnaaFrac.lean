/-
  No statement is proved here: plain laws on the double nearest to a quotient of whole numbers (dividend at most 2^40, divisor at most 1000): cut towards zero it is the quotient cut towards zero.
-/
import Derived.Test.YtigloaabhcpcnaaFlo
namespace Go.Proofs.Ytigloaabhcpcnaa
open Ieee

theorem read_rung {m E : Nat} (h1 : 2 ^ 52 ≤ m) (h2 : m < 2 ^ 53) (hE : E < 2000) : double.read (E * 2 ^ 52 + m) = .number false m ((E : Int) - 1074) := by
  have e1 : double.leastPlace = -1074 := by decide
  have e4 : double.binade = 2 ^ 52 := by decide
  have e5 : double.infRung = 2047 * 2 ^ 52 := by decide
  have e6 : double.signWeight = 2 ^ 63 := by decide
  unfold Format.read
  rw [e1, e4, e5, e6]
  have a1 : (E * 2 ^ 52 + m) / 2 ^ 63 = 0 := Nat.div_eq_of_lt (by omega)
  have a2 : (E * 2 ^ 52 + m) % 2 ^ 63 = E * 2 ^ 52 + m := Nat.mod_eq_of_lt (by omega)
  simp only [a1, a2]
  rw [if_neg (by omega), if_pos (by omega)]
  have a3 : (E * 2 ^ 52 + m) / 2 ^ 52 = E + 1 := by omega
  have a4 : (E * 2 ^ 52 + m) % 2 ^ 52 = m - 2 ^ 52 := by omega
  rw [a3, a4]
  have a5 : 2 ^ 52 + (m - 2 ^ 52) = m := by omega
  have a6 : (-1074 : Int) + ((E + 1 - 1 : Nat) : Int) = (E : Int) - 1074 := by omega
  rw [a5, a6]
  rfl

theorem read_neg {x m : Nat} {e : Int} (hx : x < 2 ^ 63) (h : double.read x = .number false m e) : double.read (2 ^ 63 + x) = .number true m e := by
  have e1 : double.leastPlace = -1074 := by decide
  have e4 : double.binade = 2 ^ 52 := by decide
  have e5 : double.infRung = 2047 * 2 ^ 52 := by decide
  have e6 : double.signWeight = 2 ^ 63 := by decide
  unfold Format.read at h ⊢
  rw [e1, e4, e5, e6] at h ⊢
  have a1 : x / 2 ^ 63 = 0 := Nat.div_eq_of_lt hx
  have a2 : x % 2 ^ 63 = x := Nat.mod_eq_of_lt hx
  have b1 : (2 ^ 63 + x) / 2 ^ 63 = 1 := by omega
  have b2 : (2 ^ 63 + x) % 2 ^ 63 = x := by omega
  simp only [a1, a2, b1, b2] at h ⊢
  split at h
  · rw [if_pos (by assumption)]; injection h with h1 h2 h3; rw [h2, h3]; rfl
  · rw [if_neg (by assumption)]
    split at h
    · rw [if_pos (by assumption)]; injection h with h1 h2 h3; rw [h2, h3]; rfl
    · split at h <;> cases h

theorem nearest_neg (m : Nat) (p : Int) : double.nearest true m p = 2 ^ 63 + double.nearest false m p := by
  have e6 : double.signWeight = 2 ^ 63 := by decide
  unfold Format.nearest
  split
  · simp [Format.word, e6]
  · have hc : ∀ a b, Toward.even.cut true a b = Toward.even.cut false a b := fun _ _ => rfl
    simp only [Format.word, e6, if_true, hc, Bool.false_eq_true, if_false]

theorem mag_W {n : Nat} (hn : n ≠ 0) (hs : n < 2 ^ 53) : 2 ^ 52 ≤ n * 2 ^ (52 - n.log2) ∧ n * 2 ^ (52 - n.log2) < 2 ^ 53 ∧ n.log2 < 53 := by
  have hL : n.log2 < 53 := (Nat.log2_lt hn).2 hs
  refine ⟨?_, ?_, hL⟩
  · have h1 := Nat.mul_le_mul_right (2 ^ (52 - n.log2)) (Nat.log2_self_le hn)
    rw [← Nat.pow_add] at h1
    have : n.log2 + (52 - n.log2) = 52 := by omega
    rwa [this] at h1
  · have := Nat.lt_log2_self (n := n)
    have h2 : n * 2 ^ (52 - n.log2) < 2 ^ (n.log2 + 1) * 2 ^ (52 - n.log2) := Nat.mul_lt_mul_of_pos_right this (pow_pos' _)
    rw [← Nat.pow_add] at h2
    have : n.log2 + 1 + (52 - n.log2) = 53 := by omega
    rwa [this] at h2

theorem read_W {n : Nat} (hn : n ≠ 0) (hs : n < 2 ^ 53) : double.read (W n) = .number false (n * 2 ^ (52 - n.log2)) (-((52 - n.log2 : Nat) : Int)) := by
  obtain ⟨h1, h2, hL⟩ := mag_W hn hs
  have e : ((n.log2 + 1022 : Nat) : Int) - 1074 = -((52 - n.log2 : Nat) : Int) := by omega
  rw [W_eq hn hs, read_rung h1 h2 (by omega), e]

theorem W_lt {n : Nat} (hn : n ≠ 0) (hs : n < 2 ^ 53) : W n < 2 ^ 63 := by
  obtain ⟨h1, h2, hL⟩ := mag_W hn hs
  rw [W_eq hn hs]; omega

theorem log2_of {m k : Nat} (h1 : 2 ^ k ≤ m) (h2 : m < 2 ^ (k + 1)) : m.log2 = k := by
  have h0 : m ≠ 0 := Nat.ne_of_gt (Nat.lt_of_lt_of_le (pow_pos' k) h1)
  have a := (Nat.le_log2 h0).2 h1
  have b := (Nat.log2_lt h0).2 h2
  omega

theorem cut_even_bounds (n d : Nat) (hd : d ≤ n.log2 + 2) : n / 2 ^ d ≤ Toward.even.cut false n d ∧ Toward.even.cut false n d ≤ n / 2 ^ d + 1 := by
  unfold Toward.cut
  rw [Nat.min_eq_left hd]
  simp only [Nat.one_shiftLeft]
  generalize (decide (2 ^ d < 2 * (n % 2 ^ d)) || 2 ^ d == 2 * (n % 2 ^ d) && n / 2 ^ d % 2 == 1) = t
  cases t <;> simp

/-- What is nearest to Q * 2^(-p), Q of 55 or 56 digits: a whole number of 2^(-t). -/
theorem read_nearest {Q d p : Nat} (h1 : 2 ^ (52 + d) ≤ Q) (h2 : Q < 2 ^ (53 + d)) (hp : d < p) (hp' : p < 1000) :
    ∃ k t : Nat, double.read (double.nearest false Q (-(p : Int))) = .number false k (-(t : Int)) ∧ double.nearest false Q (-(p : Int)) < 2 ^ 63 ∧ 0 < k ∧
      ∃ c, Q / 2 ^ d ≤ c ∧ c ≤ Q / 2 ^ d + 1 ∧ k / 2 ^ t = c / 2 ^ (p - d) := by
  have hlog : Q.log2 = 52 + d := log2_of h1 (by rw [show 52 + d + 1 = 53 + d by omega]; exact h2)
  have h0 : Q ≠ 0 := Nat.ne_of_gt (Nat.lt_of_lt_of_le (pow_pos' _) h1)
  obtain ⟨c1, c2⟩ := cut_even_bounds Q d (by omega)
  have q1 : 2 ^ 52 ≤ Q / 2 ^ d := by
    rw [Nat.le_div_iff_mul_le (pow_pos' _), ← Nat.pow_add]; exact h1
  have q2 : Q / 2 ^ d < 2 ^ 53 := by
    rw [Nat.div_lt_iff_lt_mul (pow_pos' _), ← Nat.pow_add]; exact h2
  have e1 : double.leastPlace = -1074 := by decide
  have e2 : (double.fractionBits : Int) = 52 := rfl
  have e4 : double.binade = 2 ^ 52 := by decide
  have e5 : double.infRung = 2047 * 2 ^ 52 := by decide
  have hn : double.nearest false Q (-(p : Int)) = (1074 + d - p) * 2 ^ 52 + Toward.even.cut false Q d := by
    unfold Format.nearest
    rw [if_neg h0, hlog]
    have elast : max (-(p : Int) + ((52 + d : Nat) : Int) - (double.fractionBits : Int)) double.leastPlace = (d : Int) - p := by
      rw [e1, e2]; omega
    simp only [elast]
    have a1 : (-(p : Int) - ((d : Int) - p)).toNat = 0 := by omega
    have a2 : ((d : Int) - p - -(p : Int)).toNat = d := by omega
    have a3 : ((d : Int) - p - double.leastPlace).toNat = 1074 + d - p := by rw [e1]; omega
    rw [a1, a2, a3, e4, e5, Nat.shiftLeft_zero]
    unfold Format.word
    simp only [Bool.false_eq_true, if_false]
    apply Nat.min_eq_left
    omega
  rw [hn]
  generalize Toward.even.cut false Q d = c at c1 c2 ⊢
  by_cases hc : c < 2 ^ 53
  · refine ⟨c, p - d, ?_, by omega, by omega, c, c1, c2, rfl⟩
    have e : ((1074 + d - p : Nat) : Int) - 1074 = -((p - d : Nat) : Int) := by omega
    rw [read_rung (by omega) hc (by omega), e]
  · have hc' : c = 2 ^ 53 := by omega
    refine ⟨2 ^ 52, p - d - 1, ?_, by omega, by omega, c, c1, c2, ?_⟩
    · have : (1074 + d - p) * 2 ^ 52 + c = (1074 + d - p + 1) * 2 ^ 52 + 2 ^ 52 := by omega
      have e : ((1074 + d - p + 1 : Nat) : Int) - 1074 = -((p - d - 1 : Nat) : Int) := by omega
      rw [this, read_rung (by omega) (by omega) (by omega), e]
    · rw [hc', show (2 : Nat) ^ 53 = 2 ^ 52 * 2 by decide, show p - d = (p - d - 1) + 1 by omega, Nat.pow_succ]
      exact (Nat.mul_div_mul_right _ _ (by decide)).symm

theorem log2_mono {m n : Nat} (hm : m ≠ 0) (h : m ≤ n) : m.log2 ≤ n.log2 := by
  have hn : n ≠ 0 := by omega
  exact (Nat.le_log2 hn).2 (Nat.le_trans (Nat.log2_self_le hm) h)

theorem quot_W {n b : Nat} (hn : n ≠ 0) (hn' : n ≤ 2 ^ 40) (hb : b ≠ 0) (hb' : b ≤ 1000) :
    ∃ Q p : Nat, (∀ s, Datum.quotient 54 (.number s (n * 2 ^ (52 - n.log2)) (-((52 - n.log2 : Nat) : Int))) (double.read (W b)) = some (.number s Q (-(p : Int)))) ∧
      ∃ d, (d = 2 ∨ d = 3) ∧ 2 ^ (52 + d) ≤ Q ∧ Q < 2 ^ (53 + d) ∧ d < p ∧ p < 1000 ∧ Q / 2 ^ d = n * 2 ^ (p - d) / b ∧ 2 * b ≤ 2 ^ (p - d) := by
  obtain ⟨m1, m2, mL⟩ := mag_W hn (by omega)
  obtain ⟨k1, k2, kL⟩ := mag_W hb (by omega)
  have nl : n.log2 ≤ 40 := by
    have := log2_mono hn hn'
    rwa [Nat.log2_two_pow] at this
  have bl : b.log2 ≤ 9 := by
    have : b.log2 < 10 := (Nat.log2_lt hb).2 (by omega)
    omega
  rw [read_W hb (by omega)]
  generalize hE : 52 - n.log2 = e at *
  generalize hF : 52 - b.log2 = f at *
  generalize hm : n * 2 ^ e = m at *
  generalize hk : b * 2 ^ f = k at *
  have lm : m.log2 = 52 := log2_of m1 m2
  have lk : k.log2 = 52 := log2_of k1 k2
  have k0 : k ≠ 0 := by omega
  refine ⟨2 * (m * 2 ^ 54 / k) + (m * 2 ^ 54 % k != 0).toNat, e + 55 - f, fun s => ?_, ?_⟩
  · simp only [Datum.quotient, if_neg k0, lm, lk, Nat.shiftLeft_eq]
    have h1 : 54 + 52 - 52 = 54 := rfl
    rw [h1]
    congr 2
    · cases s <;> rfl
    · omega
  · have ht : (m * 2 ^ 54 % k != 0).toNat ≤ 1 := by cases (m * 2 ^ 54 % k != 0) <;> decide
    generalize (m * 2 ^ 54 % k != 0).toNat = s at *
    have d1 : 2 ^ 53 ≤ m * 2 ^ 54 / k := by
      rw [Nat.le_div_iff_mul_le (by omega)]; omega
    have d2 : m * 2 ^ 54 / k < 2 ^ 55 := by
      rw [Nat.div_lt_iff_lt_mul (by omega)]; omega
    have key : ∀ d, d = 2 ∨ d = 3 → (2 * (m * 2 ^ 54 / k) + s) / 2 ^ d = n * 2 ^ (e + 55 - f - d) / b ∧ 2 * b ≤ 2 ^ (e + 55 - f - d) := by
      intro d hd
      constructor
      · have a1 : (2 * (m * 2 ^ 54 / k) + s) / 2 ^ d = m * 2 ^ 54 / k / 2 ^ (d - 1) := by
          have : (2 : Nat) ^ d = 2 * 2 ^ (d - 1) := by rcases hd with rfl | rfl <;> rfl
          rw [this, ← Nat.div_div_eq_div_mul]
          congr 1; omega
        rw [a1, Nat.div_div_eq_div_mul, ← hm, ← hk, Nat.mul_assoc, Nat.mul_assoc, ← Nat.pow_add, ← Nat.pow_add]
        have : e + 54 = (e + 55 - f - d) + (f + (d - 1)) := by omega
        rw [this, Nat.pow_add, ← Nat.mul_assoc]
        exact Nat.mul_div_mul_right _ _ (pow_pos' _)
      · have : (2 : Nat) ^ 12 ≤ 2 ^ (e + 55 - f - d) := Nat.pow_le_pow_right (by decide) (by omega)
        omega
    by_cases hq : 2 * (m * 2 ^ 54 / k) + s < 2 ^ 55
    · obtain ⟨a, b⟩ := key 2 (Or.inl rfl)
      exact ⟨2, Or.inl rfl, by omega, by omega, by omega, by omega, a, b⟩
    · obtain ⟨a, b⟩ := key 3 (Or.inr rfl)
      exact ⟨3, Or.inr rfl, by omega, by omega, by omega, by omega, a, b⟩

theorem floor_keeps {n b t c : Nat} (hb : 0 < b) (ht : 2 * b ≤ 2 ^ t) (h1 : n * 2 ^ t / b ≤ c) (h2 : c ≤ n * 2 ^ t / b + 1) : c / 2 ^ t = n / b := by
  have hp := pow_pos' t
  generalize 2 ^ t = u at *
  have k1 : n / b * u ≤ n * u / b := by
    rw [Nat.le_div_iff_mul_le hb, Nat.mul_right_comm]
    exact Nat.mul_le_mul_right _ (Nat.div_mul_le_self n b)
  have k2 : n * u / b + 2 ≤ (n / b + 1) * u := by
    have a1 : n + 1 ≤ (n / b + 1) * b := by
      have := Nat.div_add_mod n b
      have := Nat.mod_lt n hb
      rw [Nat.add_mul, Nat.mul_comm (n / b)]; omega
    have a2 : (n + 1) * u ≤ (n / b + 1) * b * u := Nat.mul_le_mul_right _ a1
    have a3 : n * u / b * b ≤ n * u := Nat.div_mul_le_self _ _
    have a4 : (n * u / b + 2) * b ≤ (n / b + 1) * u * b := by
      rw [Nat.add_mul, Nat.mul_right_comm]
      rw [Nat.add_mul] at a2
      omega
    exact Nat.le_of_mul_le_mul_right a4 hb
  apply Nat.le_antisymm
  · have : c / u < n / b + 1 := by
      rw [Nat.div_lt_iff_lt_mul hp]; omega
    omega
  · rw [Nat.le_div_iff_mul_le hp]; omega

/-- The double nearest to n / b: what it reads as. -/
theorem quotient_reads {n b : Nat} (hn : n ≠ 0) (hn' : n ≤ 2 ^ 40) (hb : b ≠ 0) (hb' : b ≤ 1000) :
    ∃ x k t : Nat, x < 2 ^ 63 ∧ double.div (W n) (W b) = some x ∧ double.div (2 ^ 63 + W n) (W b) = some (2 ^ 63 + x) ∧ double.read x = .number false k (-(t : Int)) ∧
      double.read (2 ^ 63 + x) = .number true k (-(t : Int)) ∧ 0 < k ∧ k / 2 ^ t = n / b := by
  obtain ⟨Q, p, hq, d, -, q1, q2, p1, p2, q3, q4⟩ := quot_W hn hn' hb hb'
  obtain ⟨k, t, r1, r2, r3, c, c1, c2, c3⟩ := read_nearest q1 q2 p1 p2
  refine ⟨_, k, t, r2, ?_, ?_, r1, read_neg r2 r1, r3, ?_⟩
  · unfold Format.div
    rw [read_W hn (by omega), show double.fractionBits + 2 = 54 from rfl, hq]; rfl
  · unfold Format.div
    rw [read_neg (W_lt hn (by omega)) (read_W hn (by omega)), show double.fractionBits + 2 = 54 from rfl, hq, Option.map_some]
    show some (double.nearest true Q _) = _
    rw [nearest_neg]
  · rw [c3]
    rw [q3] at c1 c2
    exact floor_keeps (by omega) q4 c1 c2
end Go.Proofs.Ytigloaabhcpcnaa
