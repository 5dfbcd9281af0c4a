/-
  The walk of 'ClockParts': the call returns true and turns nothing that was there: for any two ints, by any divisor.
-/
import Derived.Test.YtigloaabhcpcnaaTells
import Derived.Test.YtigloaabhcpcnaaFrac
import Derived.Laws.FloatArith
namespace Go.Proofs.Ytigloaabhcpcnaa
open Go.RowKit

section
open Ieee
theorem frac_order {d d' : Datum} {k t b : Nat} (h : d = .number false k (-(t : Int))) (h' : Rep d' b) : d.order d' = some (compare k (b * 2 ^ t)) := by
  subst h
  obtain ⟨f, rfl⟩ := h'
  simp only [Datum.order, signed_nat]
  have e1 : (-(t : Int) - min (-(t : Int)) (-(f : Int))).toNat = max t f - t := by omega
  have e2 : (-(f : Int) - min (-(t : Int)) (-(f : Int))).toNat = max t f - f := by omega
  rw [e1, e2, Nat.mul_assoc b, ← Nat.pow_add]
  have e3 : f + (max t f - f) = t + (max t f - t) := by omega
  rw [e3, Nat.pow_add, ← Nat.mul_assoc, compare_scale _ _ _ (pow_pos' _)]

theorem neg_order {d d' : Datum} {k t b : Nat} (hk : 0 < k) (h : d = .number true k (-(t : Int))) (h' : Rep d' b) : d.order d' = some .lt := by
  subst h
  obtain ⟨f, rfl⟩ := h'
  simp only [Datum.order, signed_nat]
  congr 1
  have hp := pow_pos' (-(t : Int) - min (-(t : Int)) (-(f : Int))).toNat
  have h1 : signed true k (-(t : Int) - min (-(t : Int)) (-(f : Int))).toNat < 0 := by
    simp only [signed, if_true, Nat.shiftLeft_eq]
    have := Nat.mul_pos hk hp
    omega
  exact Int.compare_eq_lt.2 (Int.lt_of_lt_of_le h1 (Int.natCast_nonneg _))

theorem frac_toInt {d : Datum} {k t : Nat} (h : d = .number false k (-(t : Int))) : d.toInt .zero = some ((k / 2 ^ t : Nat) : Int) := by
  subst h
  have hc : Toward.zero.cut false k t = k / 2 ^ t := by
    unfold Toward.cut
    simp only [Nat.one_shiftLeft]
    by_cases ht : t ≤ k.log2 + 2
    · rw [Nat.min_eq_left ht]; simp
    · rw [Nat.min_eq_right (by omega)]
      have h1 : k < 2 ^ (k.log2 + 1) := Nat.lt_log2_self
      have h2 : (2 : Nat) ^ (k.log2 + 1) ≤ 2 ^ (k.log2 + 2) := Nat.pow_le_pow_right (by decide) (by omega)
      have h3 : (2 : Nat) ^ (k.log2 + 2) ≤ 2 ^ t := Nat.pow_le_pow_right (by decide) (by omega)
      rw [Nat.div_eq_of_lt (by omega), Nat.div_eq_of_lt (by omega)]; simp
  simp only [Datum.toInt, Datum.integral]
  have e1 : (-(t : Int)).toNat = 0 := by omega
  have e2 : (-(-(t : Int))).toNat = t := by omega
  rw [e1, e2, Nat.shiftLeft_zero, hc]
  simp [signed]
end

theorem count_nil (x : Nat) (h1 : FloatKind.f64.format.order x 4742290407621132288 = some .lt) (h2 : FloatKind.f64.format.order x 0 = some .eq) (w : World) :
    Calls Try.prog 27 #[.float .f64 x] w fun e w' => e = .returned (.int .i64 0) ∧ w = w' := by
  go_enter Try.func27, Try.ntmps27
  go_wp2
  go_ret
  exact ⟨rfl, rfl⟩
theorem count_big (x : Nat) (o : Ordering) (h1 : FloatKind.f64.format.order x 4742290407621132288 = some o) (ho : o ≠ .lt) (w : World) :
    Calls Try.prog 27 #[.float .f64 x] w fun e w' => e = .returned (.int .i64 1073741824) ∧ w = w' := by
  cases o with
  | lt => exact absurd rfl ho
  | eq =>
    clear ho
    go_enter Try.func27, Try.ntmps27
    go_wp2
    go_ret
    exact ⟨rfl, rfl⟩
  | gt =>
    clear ho
    go_enter Try.func27, Try.ntmps27
    go_wp2
    go_ret
    exact ⟨rfl, rfl⟩

theorem floatOfInt_neg {n : Int} (h : n < 0) : floatOfInt .f64 n = 2 ^ 63 + W n.natAbs := by
  unfold floatOfInt
  simp only [FloatKind.nearest, FloatKind.encode, FloatKind.format, h, decide_true, Ieee.Format.write]
  exact nearest_neg _ _

theorem conv_frac {x n : Nat} (h : (FloatKind.f64.decode x).toInt .zero = some (n : Int)) (hn : n < 2 ^ 53) (w : World) : (convert 39 3 (.float .f64 x)).run Try.prog w = .ok (.int .i64 n) w := by
  have h2 : IntKind.i64.min ≤ (n : Int) ∧ (n : Int) ≤ IntKind.i64.max := by
    have e1 : IntKind.i64.min = -9223372036854775808 := rfl
    have e2 : IntKind.i64.max = 9223372036854775807 := rfl
    rw [e1, e2]; omega
  simp [convert, run_underlying Try.underlying3, run_underlying Try.underlying39, Conv.floatToInt, h, h2]
  intro h
  exfalso; omega

/-- What a quotient's part counts. -/
theorem part_any (a by_ : Int) (ha : -1099511627776 ≤ a) (ha' : a ≤ 1099511627776) (hb : 1 ≤ by_) (hb' : by_ ≤ 1000) :
    ∃ x, floatBits .quo .f64 (floatOfInt .f64 a) (floatOfInt .f64 by_) = some x ∧
      ∀ w, Calls Try.prog 27 #[.float .f64 x] w fun e w' => e = .returned (.int .i64 (max 0 (min (a.tdiv by_) 1073741824))) ∧ w = w' := by
  obtain ⟨b, rfl⟩ : ∃ b : Nat, by_ = b := ⟨by_.toNat, by omega⟩
  have eb : floatOfInt .f64 (b : Int) = W b := floatOfInt_W (by omega)
  have hbig : Rep (Ieee.double.read 4742290407621132288) 1073741824 := by rw [← W_big]; exact rep_W (by decide)
  have hzero : Rep (Ieee.double.read 0) 0 := by have := rep_W (n := 0) (by decide); rwa [W_zero] at this
  rw [eb]
  by_cases h0 : a = 0
  · subst h0
    have e0 : floatOfInt .f64 0 = 0 := by rw [floatOfInt_W (by decide)]; exact W_zero
    refine ⟨0, ?_, ?_⟩
    · rw [e0]
      show Ieee.double.div 0 (W b) = some 0
      unfold Ieee.Format.div
      rw [read_W (by omega) (by omega), show Ieee.double.read 0 = .number false 0 (-1074) by decide]
      obtain ⟨m1, -, -⟩ := mag_W (n := b) (by omega) (by omega)
      simp only [Ieee.Datum.quotient]
      rw [if_neg (by omega)]
      simp [Ieee.Format.write, Ieee.Format.nearest, Ieee.Format.word]
    · rw [show max 0 (min ((0 : Int).tdiv b) 1073741824) = 0 by rw [Int.zero_tdiv]; rfl]
      exact count_nil 0 (by decide) (by decide)
  by_cases hpos : 0 < a
  · obtain ⟨n, rfl⟩ : ∃ n : Nat, a = n := ⟨a.toNat, by omega⟩
    obtain ⟨x, k, t, -, hx, -, hr, -, hk, hq⟩ := quotient_reads (n := n) (b := b) (by omega) (by omega) (by omega) (by omega)
    rw [floatOfInt_W (n := (n : Int)) (by omega)]
    refine ⟨x, hx, ?_⟩
    have ht : (n : Int).tdiv b = ((n / b : Nat) : Int) := by rw [Int.ofNat_tdiv]
    have o1 := frac_order hr hbig
    have o2 := frac_order hr hzero
    have c1 := frac_toInt hr
    rw [hq] at c1
    have hp := Nat.two_pow_pos t
    rw [ht]
    clear ht
    generalize n / b = K at *
    by_cases hK : 1073741824 ≤ K
    · rw [show max 0 (min (K : Int) 1073741824) = 1073741824 by omega]
      refine count_big x _ o1 fun e => ?_
      have := Nat.compare_eq_lt.1 e
      rw [← hq, Nat.le_div_iff_mul_le hp] at hK
      omega
    · rw [show max 0 (min (K : Int) 1073741824) = (K : Int) by omega]
      refine count_some x _ ?_ ?_ (conv_frac c1 (by omega))
      · refine o1.trans (congrArg some (Nat.compare_eq_lt.2 ?_))
        rw [← hq, Nat.le_div_iff_mul_le hp] at hK
        omega
      · exact o2.trans (congrArg some (Nat.compare_eq_gt.2 (by omega)))
  · obtain ⟨x, k, t, -, -, hx, -, hr, hk, -⟩ := quotient_reads (n := a.natAbs) (b := b) (by omega) (by omega) (by omega) (by omega)
    rw [floatOfInt_neg (by omega)]
    refine ⟨_, hx, ?_⟩
    have : a.tdiv b ≤ 0 := by
      have h1 : a = -((-a).toNat : Int) := by omega
      rw [h1, Int.neg_tdiv, ← Int.ofNat_tdiv]
      exact Int.neg_nonpos_of_nonneg (Int.natCast_nonneg _)
    rw [show max 0 (min (a.tdiv b) 1073741824) = 0 by omega]
    exact count_zero _ (neg_order hk hr hbig) (neg_order hk hr hzero)

theorem run_min_big (n : Int) (w : World) (ty : TypeId) : (Builtin.min_ #[3, 3] ty #[.int .i64 n, .int .i64 1073741824]).run Try.prog w = .ok (.int .i64 (min n 1073741824)) w := by
  simp [Builtin.min_, Builtin.min2]
  omega
theorem tdiv_wraps {a b : Int} (h : -1099511627776 ≤ a) (h' : a ≤ 1099511627776) : wrap64 (a.tdiv b) = a.tdiv b := by
  have h1 : (a.tdiv b).natAbs = a.natAbs / b.natAbs := Int.natAbs_tdiv a b
  have h2 := Nat.div_le_self a.natAbs b.natAbs
  rw [← h1] at h2
  generalize a.tdiv b = q at *
  unfold wrap64
  omega

set_option maxRecDepth 100000 in
set_option maxHeartbeats 4000000 in
theorem parts_walk (a b by_ : Int) (w : World) :
    Calls Try.prog 4 #[.int .i64 a, .int .i64 b, .int .i64 by_] w fun e w' => e = .returned (.bool true) ∧ Fresh w w' := by
  go_enter Try.func4, Try.ntmps4
  go_wp2_with fail
  refine (small_any _).mono ?_; rintro e w1 ⟨rfl, g⟩
  have G := Lib.hid g
  clear g
  by_cases c1 : by_ < 1
  · go_wp2_with fail
    go_ret
    exact ⟨rfl, G.out⟩
  by_cases c2 : 1000 < by_
  · go_wp2_with fail
    go_ret
    exact ⟨rfl, G.out⟩
  by_cases c3 : a < -1099511627776
  · go_wp2_with fail
    go_ret
    exact ⟨rfl, G.out⟩
  by_cases c4 : 1099511627776 < a
  · go_wp2_with fail
    go_ret
    exact ⟨rfl, G.out⟩
  by_cases c5 : b < -1099511627776
  · go_wp2_with fail
    go_ret
    exact ⟨rfl, G.out⟩
  by_cases c6 : 1099511627776 < b
  · go_wp2_with fail
    go_ret
    exact ⟨rfl, G.out⟩
  obtain ⟨x, hx, X⟩ := part_any a by_ (by omega) (by omega) (by omega) (by omega)
  obtain ⟨y, hy, Y⟩ := part_any b by_ (by omega) (by omega) (by omega) (by omega)
  have QX : ∀ t w, (binOp .quo t (.float .f64 (floatOfInt .f64 a)) (.float .f64 (floatOfInt .f64 by_))).run Try.prog w = .ok (.float .f64 x) w := fun t w => run_float_arith w .quo t .f64 _ _ x hx
  have QY : ∀ t w, (binOp .quo t (.float .f64 (floatOfInt .f64 b)) (.float .f64 (floatOfInt .f64 by_))).run Try.prog w = .ok (.float .f64 y) w := fun t w => run_float_arith w .quo t .f64 _ _ y hy
  have P := Lib.hid (pair_raw x y _ _ X Y)
  have N1 : ∀ w ty, (Builtin.min_ #[3, 3] ty #[.int .i64 (wrap64 (a.tdiv by_)), .int .i64 1073741824]).run Try.prog w = .ok (.int .i64 (min (a.tdiv by_) 1073741824)) w := fun w ty => by
    rw [run_min_big, tdiv_wraps (by omega) (by omega)]
  have N2 : ∀ w ty, (Builtin.min_ #[3, 3] ty #[.int .i64 (wrap64 (b.tdiv by_)), .int .i64 1073741824]).run Try.prog w = .ok (.int .i64 (min (b.tdiv by_) 1073741824)) w := fun w ty => by
    rw [run_min_big, tdiv_wraps (by omega) (by omega)]
  have M1 := run_max_int 0 (min (a.tdiv by_) 1073741824)
  have M2 := run_max_int 0 (min (b.tdiv by_) 1073741824)
  generalize max 0 (min (a.tdiv by_) 1073741824) = r1 at *
  generalize max 0 (min (b.tdiv by_) 1073741824) = r2 at *
  generalize min (a.tdiv by_) 1073741824 = m1 at *
  generalize min (b.tdiv by_) 1073741824 = m2 at *
  clear hx hy X Y
  unfold pr at P
  have t1 : decide (by_ < 1) = false := decide_eq_false c1
  have t2 : decide (1000 < by_) = false := decide_eq_false c2
  have t3 : decide (a < -1099511627776) = false := decide_eq_false c3
  have t4 : decide (1099511627776 < a) = false := decide_eq_false c4
  have t5 : decide (b < -1099511627776) = false := decide_eq_false c5
  have t6 : decide (1099511627776 < b) = false := decide_eq_false c6
  have nz : ¬ by_ = 0 := by omega
  clear c1 c2 c3 c4 c5 c6
  go_wp2_with fail
  refine (P.out _).mono ?_; rintro e w2 ⟨rfl, g⟩
  replace G := Lib.hid (Fresh.trans G.out g)
  clear g
  go_wp2_with fail
  go_ret
  exact ⟨rfl, G.out⟩
end Go.Proofs.Ytigloaabhcpcnaa
