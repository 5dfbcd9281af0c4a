/-
  No statement is proved here: plain laws on IEEE doubles that hold whole numbers below 2^53: how they read, compare, add, and turn into ints.
-/
import GoSem.Core.Float
namespace Go.Proofs.Ytigloaabhcpcnaa
open Ieee

/-- The datum is the whole number n. -/
def Rep (d : Datum) (n : Nat) : Prop := ∃ e : Nat, d = .number false (n * 2 ^ e) (-(e : Int))

/-- The double of a whole number. -/
def W (n : Nat) : Nat := double.nearest false n 0

theorem pow_pos' (e : Nat) : 0 < 2 ^ e := Nat.two_pow_pos e

theorem compare_scale (a b : Nat) (c : Nat) (hc : 0 < c) : compare ((a * c : Nat) : Int) ((b * c : Nat) : Int) = compare a b := by
  have h1 : a * c < b * c ↔ a < b := ⟨fun h => Nat.lt_of_mul_lt_mul_right h, fun h => Nat.mul_lt_mul_of_pos_right h hc⟩
  have h2 : a * c = b * c ↔ a = b := ⟨fun h => Nat.eq_of_mul_eq_mul_right hc h, fun h => by rw [h]⟩
  simp only [compare, compareOfLessAndEq]
  have h1' : ((a * c : Nat) : Int) < ((b * c : Nat) : Int) ↔ a < b := by rw [Int.ofNat_lt]; exact h1
  have h2' : ((a * c : Nat) : Int) = ((b * c : Nat) : Int) ↔ a = b := by rw [Int.ofNat_inj]; exact h2
  simp only [h1', h2']

theorem signed_nat (m k : Nat) : signed false m k = ((m * 2 ^ k : Nat) : Int) := by simp [signed, Nat.shiftLeft_eq]

theorem rep_order {d d' : Datum} {a b : Nat} (h : Rep d a) (h' : Rep d' b) : d.order d' = some (compare a b) := by
  obtain ⟨e, rfl⟩ := h
  obtain ⟨f, rfl⟩ := h'
  simp only [Datum.order, signed_nat]
  have e1 : (-(e : Int) - min (-(e : Int)) (-(f : Int))).toNat = max e f - e := by omega
  have e2 : (-(f : Int) - min (-(e : Int)) (-(f : Int))).toNat = max e f - f := by omega
  rw [e1, e2, Nat.mul_assoc, Nat.mul_assoc, ← Nat.pow_add, ← Nat.pow_add]
  have e3 : e + (max e f - e) = max e f := by omega
  have e4 : f + (max e f - f) = max e f := by omega
  rw [e3, e4, compare_scale a b _ (pow_pos' _)]

theorem rep_sum {d d' : Datum} {a b : Nat} (h : Rep d a) (h' : Rep d' b) : ∃ s, d.sum d' = some s ∧ Rep s (a + b) := by
  obtain ⟨e, rfl⟩ := h
  obtain ⟨f, rfl⟩ := h'
  simp only [Datum.sum, signed_nat]
  have e1 : (-(e : Int) - min (-(e : Int)) (-(f : Int))).toNat = max e f - e := by omega
  have e2 : (-(f : Int) - min (-(e : Int)) (-(f : Int))).toNat = max e f - f := by omega
  rw [e1, e2, Nat.mul_assoc, Nat.mul_assoc, ← Nat.pow_add, ← Nat.pow_add]
  have e3 : e + (max e f - e) = max e f := by omega
  have e4 : f + (max e f - f) = max e f := by omega
  rw [e3, e4]
  refine ⟨_, rfl, max e f, ?_⟩
  have e5 : min (-(e : Int)) (-(f : Int)) = -((max e f : Nat) : Int) := by omega
  rw [e5]
  have hn : ¬ (((a * 2 ^ max e f : Nat) : Int) + ((b * 2 ^ max e f : Nat) : Int) < 0) := by omega
  congr 1
  · simp only [Bool.and_false, hn, decide_false, ite_self]
  · rw [Nat.add_mul]; omega

theorem log2_mul_pow {n : Nat} (hn : n ≠ 0) (M : Nat) : (n * 2 ^ M).log2 = n.log2 + M := by
  have h0 : n * 2 ^ M ≠ 0 := Nat.mul_ne_zero hn (Nat.ne_of_gt (pow_pos' _))
  apply Nat.le_antisymm
  · have : (n * 2 ^ M).log2 < n.log2 + M + 1 := by
      rw [Nat.log2_lt h0]
      have := Nat.lt_log2_self (n := n)
      rw [show n.log2 + M + 1 = (n.log2 + 1) + M by omega, Nat.pow_add]
      exact Nat.mul_lt_mul_of_pos_right this (pow_pos' _)
    omega
  · rw [Nat.le_log2 h0, Nat.pow_add]
    exact Nat.mul_le_mul_right _ (Nat.log2_self_le hn)

theorem cut_exact (way : Toward) (n k drop : Nat) (hd : drop ≤ (n * 2 ^ drop * k).log2 + 2) : way.cut false (n * 2 ^ drop * k) drop = n * k := by
  unfold Toward.cut
  rw [Nat.min_eq_left hd]
  have e : (1 <<< drop) = 2 ^ drop := by simp [Nat.shiftLeft_eq]
  have hp := pow_pos' drop
  have e1 : n * 2 ^ drop * k = 2 ^ drop * (n * k) := by rw [Nat.mul_comm n, Nat.mul_assoc]
  simp only [e, e1, Nat.mul_mod_right, Nat.mul_div_cancel_left _ hp]
  cases way <;> simp <;> omega

theorem cut_zero_drop (way : Toward) (n : Nat) : way.cut false n 0 = n := by
  unfold Toward.cut
  simp [Nat.mod_one]
  cases way <;> simp

/-- A whole number below 2^53, however it is scaled, is written as the same word. -/
theorem nearest_scale {n : Nat} (hn : n ≠ 0) (hs : n < 2 ^ 53) (M : Nat) :
    double.nearest false (n * 2 ^ M) (-(M : Int)) = (n.log2 + 1022) * 2 ^ 52 + n * 2 ^ (52 - n.log2) := by
  have hL : n.log2 < 53 := (Nat.log2_lt hn).2 hs
  have h0 : n * 2 ^ M ≠ 0 := Nat.mul_ne_zero hn (Nat.ne_of_gt (pow_pos' _))
  unfold Format.nearest
  rw [if_neg h0, log2_mul_pow hn]
  have elast : max (-(M : Int) + ((n.log2 + M : Nat) : Int) - (double.fractionBits : Int)) double.leastPlace = (n.log2 : Int) - 52 := by
    have e1 : double.leastPlace = -1074 := by decide
    have e2 : (double.fractionBits : Int) = 52 := rfl
    rw [e1, e2]; omega
  simp only [elast]
  have e1 : double.leastPlace = -1074 := by decide
  have e3 : ((n.log2 : Int) - 52 - double.leastPlace).toNat = n.log2 + 1022 := by rw [e1]; omega
  have e4 : double.binade = 2 ^ 52 := by decide
  have e5 : double.infRung = 2047 * 2 ^ 52 := by decide
  have hcut : Toward.even.cut false ((n * 2 ^ M) <<< (-(M : Int) - ((n.log2 : Int) - 52)).toNat) ((n.log2 : Int) - 52 - -(M : Int)).toNat = n * 2 ^ (52 - n.log2) := by
    by_cases hM : M ≤ 52 - n.log2
    · have a1 : (-(M : Int) - ((n.log2 : Int) - 52)).toNat = 52 - n.log2 - M := by omega
      have a2 : ((n.log2 : Int) - 52 - -(M : Int)).toNat = 0 := by omega
      rw [a1, a2, cut_zero_drop, Nat.shiftLeft_eq, Nat.mul_assoc, ← Nat.pow_add]
      congr 2; omega
    · have a1 : (-(M : Int) - ((n.log2 : Int) - 52)).toNat = 0 := by omega
      have a2 : ((n.log2 : Int) - 52 - -(M : Int)).toNat = M - (52 - n.log2) := by omega
      rw [a1, a2, Nat.shiftLeft_eq, Nat.pow_zero, Nat.mul_one]
      have a3 : n * 2 ^ M = n * 2 ^ (M - (52 - n.log2)) * 2 ^ (52 - n.log2) := by
        rw [Nat.mul_assoc, ← Nat.pow_add]; congr 2; omega
      rw [a3]
      exact cut_exact _ _ _ _ (by rw [← a3, log2_mul_pow hn]; omega)
  rw [hcut, e3, e4, e5]
  have hm : n * 2 ^ (52 - n.log2) < 2 ^ 53 := by
    have := Nat.lt_log2_self (n := n)
    have h2 : n * 2 ^ (52 - n.log2) < 2 ^ (n.log2 + 1) * 2 ^ (52 - n.log2) := Nat.mul_lt_mul_of_pos_right this (pow_pos' _)
    rw [← Nat.pow_add] at h2
    have : n.log2 + 1 + (52 - n.log2) = 53 := by omega
    rwa [this] at h2
  unfold Format.word
  simp only [Bool.false_eq_true, if_false]
  apply Nat.min_eq_left
  omega

theorem W_eq {n : Nat} (hn : n ≠ 0) (hs : n < 2 ^ 53) : W n = (n.log2 + 1022) * 2 ^ 52 + n * 2 ^ (52 - n.log2) := by
  have := nearest_scale hn hs 0
  simpa [W] using this

theorem rep_zero (e : Nat) : Rep (.number false 0 (-(e : Int))) 0 := ⟨e, by rw [Nat.zero_mul]⟩

theorem rep_W {n : Nat} (hs : n < 2 ^ 53) : Rep (double.read (W n)) n := by
  by_cases hn : n = 0
  · subst hn
    have e : double.read (W 0) = .number false 0 (-((1074 : Nat) : Int)) := by decide
    rw [e]
    exact rep_zero _
  · have hL : n.log2 < 53 := (Nat.log2_lt hn).2 hs
    have hm1 : 2 ^ 52 ≤ n * 2 ^ (52 - n.log2) := by
      have h1 := Nat.mul_le_mul_right (2 ^ (52 - n.log2)) (Nat.log2_self_le hn)
      rw [← Nat.pow_add] at h1
      have : n.log2 + (52 - n.log2) = 52 := by omega
      rwa [this] at h1
    have hm : n * 2 ^ (52 - n.log2) < 2 ^ 53 := by
      have := Nat.lt_log2_self (n := n)
      have h2 : n * 2 ^ (52 - n.log2) < 2 ^ (n.log2 + 1) * 2 ^ (52 - n.log2) := Nat.mul_lt_mul_of_pos_right this (pow_pos' _)
      rw [← Nat.pow_add] at h2
      have : n.log2 + 1 + (52 - n.log2) = 53 := by omega
      rwa [this] at h2
    refine ⟨52 - n.log2, ?_⟩
    rw [W_eq hn hs]
    generalize n * 2 ^ (52 - n.log2) = m at hm1 hm ⊢
    generalize hLn : n.log2 = L at hL ⊢
    have e1 : double.leastPlace = -1074 := by decide
    have e4 : double.binade = 2 ^ 52 := by decide
    have e5 : double.infRung = 2047 * 2 ^ 52 := by decide
    have e6 : double.signWeight = 2 ^ 63 := by decide
    unfold Format.read
    rw [e1, e4, e5, e6]
    have a1 : ((L + 1022) * 2 ^ 52 + m) / 2 ^ 63 = 0 := Nat.div_eq_of_lt (by omega)
    have a2 : ((L + 1022) * 2 ^ 52 + m) % 2 ^ 63 = (L + 1022) * 2 ^ 52 + m := Nat.mod_eq_of_lt (by omega)
    simp only [a1, a2]
    rw [if_neg (by omega), if_pos (by omega)]
    have a3 : ((L + 1022) * 2 ^ 52 + m) / 2 ^ 52 = L + 1023 := by omega
    have a4 : ((L + 1022) * 2 ^ 52 + m) % 2 ^ 52 = m - 2 ^ 52 := by omega
    rw [a3, a4]
    have a5 : 2 ^ 52 + (m - 2 ^ 52) = m := by omega
    have a6 : (-1074 : Int) + ((L + 1023 - 1 : Nat) : Int) = -((52 - L : Nat) : Int) := by omega
    rw [a5, a6]
    rfl

theorem write_rep {d : Datum} {n : Nat} (h : Rep d n) (hs : n < 2 ^ 53) : double.write d = W n := by
  obtain ⟨e, rfl⟩ := h
  by_cases hn : n = 0
  · subst hn
    simp [Format.write, W, Format.nearest]
  · show double.nearest false (n * 2 ^ e) (-(e : Int)) = W n
    rw [nearest_scale hn hs, W_eq hn hs]

theorem order_W {a b : Nat} (ha : a < 2 ^ 53) (hb : b < 2 ^ 53) : double.order (W a) (W b) = some (compare a b) := rep_order (rep_W ha) (rep_W hb)

theorem add_W {a b : Nat} (h : a + b < 2 ^ 53) : double.add (W a) (W b) = some (W (a + b)) := by
  obtain ⟨s, hs, hr⟩ := rep_sum (rep_W (n := a) (by omega)) (rep_W (n := b) (by omega))
  unfold Format.add
  rw [hs, Option.map_some, write_rep hr h]

theorem toInt_rep {d : Datum} {n : Nat} (h : Rep d n) : d.toInt .zero = some (n : Int) := by
  obtain ⟨e, rfl⟩ := h
  have hc : Toward.zero.cut false (n * 2 ^ e) e = n := by
    by_cases hn : n = 0
    · subst hn; simp [Toward.cut]
    · have := cut_exact .zero n 1 e (by rw [Nat.mul_one, log2_mul_pow hn]; omega)
      simpa using this
  simp only [Datum.toInt, Datum.integral]
  have e1 : (-(e : Int)).toNat = 0 := by omega
  have e2 : (-(-(e : Int))).toNat = e := by omega
  rw [e1, e2, Nat.shiftLeft_zero, hc]
  simp [signed]

theorem neg_W {a : Nat} (ha : a < 2 ^ 53) : (double.read (W a)).neg = false := by
  obtain ⟨e, he⟩ := rep_W ha
  rw [he]; rfl
end Go.Proofs.Ytigloaabhcpcnaa
