/- What the program's clock operations compute and which memory they make. -/
import Derived.Test.YtigloaabhcpcnaaRows
import Derived.Test.YtigloaabhcpcnaaSep
import Derived.Test.YtigloaabhcpcnaaFlo
import Derived.Deep.QuietTactic
import Derived.BigQuiet
namespace Go.Proofs.Ytigloaabhcpcnaa
open Go.RowKit

/-- A count, as an int argument is clamped. -/
def cl (n : Int) : Nat := min n.toNat 1073741824
theorem cl_le (n : Int) : cl n ≤ 1073741824 := Nat.min_le_right _ _

theorem W_big : W 1073741824 = 4742290407621132288 := by decide
theorem W_zero : W 0 = 0 := by decide
theorem W_one : W 1 = 4607182418800017408 := by decide

theorem floatOfInt_W {n : Int} (h : 0 ≤ n) : floatOfInt .f64 n = W n.toNat := by
  unfold floatOfInt
  have : ¬ n < 0 := by omega
  have e : n.natAbs = n.toNat := by omega
  simp [FloatKind.nearest, FloatKind.encode, FloatKind.format, this, e, W, Ieee.Format.write]

theorem ord_big {n : Nat} (hn : n < 2 ^ 53) : FloatKind.f64.format.order (W n) 4742290407621132288 = some (compare n 1073741824) := by
  rw [← W_big]; exact order_W hn (by decide)
theorem ord_zero {n : Nat} (hn : n < 2 ^ 53) : FloatKind.f64.format.order (W n) 0 = some (compare n 0) := by
  rw [← W_zero]; exact order_W hn (by decide)
theorem cmp_lt {a b : Nat} (h : a < b) : compare a b = .lt := Nat.compare_eq_lt.2 h
theorem cmp_gt {a b : Nat} (h : b < a) : compare a b = .gt := Nat.compare_eq_gt.2 h
theorem cmp_eq (a : Nat) : compare a a = .eq := Nat.compare_eq_eq.2 rfl

theorem conv_W {n : Nat} (hn : n < 2 ^ 53) (w : World) : (convert 39 3 (.float .f64 (W n))).run Try.prog w = .ok (.int .i64 n) w := by
  have h1 : (FloatKind.f64.decode (W n)).toInt .zero = some (n : Int) := toInt_rep (rep_W hn)
  have h2 : IntKind.i64.min ≤ (n : Int) ∧ (n : Int) ≤ IntKind.i64.max := by
    have e1 : IntKind.i64.min = -9223372036854775808 := rfl
    have e2 : IntKind.i64.max = 9223372036854775807 := rfl
    rw [e1, e2]; omega
  simp [convert, run_underlying Try.underlying3, run_underlying Try.underlying39, Conv.floatToInt, h1, h2]
  intro h
  exfalso; omega

set_option maxHeartbeats 400000 in
theorem clamp_any (n : Int) (w : World) : Calls Try.prog 25 #[.int .i64 n] w fun e w' => e = .returned (.float .f64 (W (cl n))) ∧ w = w' := by
  by_cases h1 : 1073741824 < n
  · have HF : Hid (floatOfInt .f64 1073741824 = W (cl n)) := by
      show floatOfInt .f64 1073741824 = W (cl n)
      rw [floatOfInt_W (by decide)]; unfold cl; congr 1; omega
    go_enter Try.func25, Try.ntmps25
    go_wp2
    go_ret
    exact ⟨congrArg (fun x => Ending.returned (.float .f64 x)) HF.out, rfl⟩
  · by_cases h2 : 0 < n
    · have HF : Hid (floatOfInt .f64 n = W (cl n)) := by
        show floatOfInt .f64 n = W (cl n)
        rw [floatOfInt_W (by omega)]; unfold cl; congr 1; omega
      go_enter Try.func25, Try.ntmps25
      go_wp2
      go_ret
      exact ⟨congrArg (fun x => Ending.returned (.float .f64 x)) HF.out, rfl⟩
    · have HF : Hid (floatOfInt .f64 0 = W (cl n)) := by
        show floatOfInt .f64 0 = W (cl n)
        rw [floatOfInt_W (by omega)]; unfold cl; congr 1; omega
      go_enter Try.func25, Try.ntmps25
      go_wp2
      go_ret
      exact ⟨congrArg (fun x => Ending.returned (.float .f64 x)) HF.out, rfl⟩

set_option maxHeartbeats 400000 in
theorem count_any (n : Nat) (hn : n < 2 ^ 53) (w : World) : Calls Try.prog 27 #[.float .f64 (W n)] w fun e w' => e = .returned (.int .i64 (min n 1073741824 : Nat)) ∧ w = w' := by
  have hb := ord_big hn
  have hz := ord_zero hn
  have hc := conv_W hn w
  obtain ⟨x, hx⟩ : ∃ x, x = W n := ⟨_, rfl⟩
  rw [← hx] at hb hz hc ⊢
  clear hx
  rcases Nat.lt_trichotomy n 1073741824 with h | h | h
  · rw [cmp_lt h] at hb
    by_cases h0 : n = 0
    · subst h0
      rw [cmp_eq] at hz
      go_enter Try.func27, Try.ntmps27
      go_wp2
      go_ret
      exact ⟨rfl, rfl⟩
    · rw [cmp_gt (by omega)] at hz
      have HM : Hid (min n 1073741824 = n) := Nat.min_eq_left (by omega)
      clear h0 h hn
      go_enter Try.func27, Try.ntmps27
      go_wp2
      go_ret
      exact ⟨ret_int (by rw [HM.out]), rfl⟩
  · subst h
    rw [cmp_eq] at hb
    go_enter Try.func27, Try.ntmps27
    go_wp2
    go_ret
    exact ⟨rfl, rfl⟩
  · rw [cmp_gt h] at hb
    have HM : Hid (min n 1073741824 = 1073741824) := Nat.min_eq_right (by omega)
    clear h hn
    go_enter Try.func27, Try.ntmps27
    go_wp2
    go_ret
    exact ⟨ret_int (by rw [HM.out]; rfl), rfl⟩

/-- A clock of two counts. -/
def ck (a b : Nat) : Value := .complex .f64 (W a) (W b)
def mn (n : Nat) : Nat := min n 1073741824
theorem mn_le (n : Nat) : mn n ≤ 1073741824 := Nat.min_le_right _ _

theorem clamp_still (n : Int) (w : World) : Calls Try.prog 25 #[.int .i64 n] w fun e w' => e = .returned (.float .f64 (W (cl n))) ∧ w' = w :=
  (clamp_any n w).mono fun _ _ h => ⟨h.1, h.2.symm⟩

/-- Nothing that was there turns. -/
abbrev Fresh (w w' : World) : Prop := Keeps (fun _ => False) w w'
theorem Fresh.cell {w w' : World} (h : Fresh w w') {p : Addr} (hp : p.block < w.heap.size) : w'.cell? p = w.cell? p := World.cell?_of_block (w := w) (h.block p.block hp (fun h => h))

set_option maxHeartbeats 400000 in
theorem of_any (l r : Int) (w : World) : Calls Try.prog 11 #[.agg #[.int .i64 l, .int .i64 r]] w fun e w' => e = .returned (ck (cl l) (cl r)) ∧ Fresh w w' := by
  obtain ⟨x, hx⟩ : ∃ x, x = W (cl l) := ⟨_, rfl⟩
  obtain ⟨y, hy⟩ : ∃ y, y = W (cl r) := ⟨_, rfl⟩
  have C1 := Lib.hid (fun w => clamp_still l w)
  have C2 := Lib.hid (fun w => clamp_still r w)
  have HP : Hid (ck (cl l) (cl r) = .complex .f64 x y) := by show ck (cl l) (cl r) = .complex .f64 x y; rw [hx, hy]; rfl
  rw [← hx] at C1
  rw [← hy] at C2
  clear hx hy
  go_enter Try.func11, Try.ntmps11
  go_wp2_with fail
  go_quiet ((go_at_call 25; first | exact Calls.quiet_of_same (C1.out _) | exact Calls.quiet_of_same (C2.out _)))
  go_wp2_with fail
  go_ret
  exact ⟨congrArg Ending.returned HP.out.symm, ((Keeps.refl _ _).alloc _).trans (Keeps.drewN _ _ nq) (fun _ _ h => h)⟩

def pr (a b : Int) : Value := .agg #[.int .i64 a, .int .i64 b]

set_option maxHeartbeats 400000 in
theorem pair_any (a b : Nat) (ha : a < 2 ^ 53) (hb : b < 2 ^ 53) (w : World) : Calls Try.prog 14 #[ck a b] w fun e w' => e = .returned (pr (mn a) (mn b)) ∧ Fresh w w' := by
  have C1 := Lib.hid (fun w => count_any a ha w)
  have C2 := Lib.hid (fun w => count_any b hb w)
  obtain ⟨x, hx⟩ : ∃ x, x = W a := ⟨_, rfl⟩
  obtain ⟨y, hy⟩ : ∃ y, y = W b := ⟨_, rfl⟩
  have HP : ck a b = .complex .f64 x y := by rw [hx, hy]; rfl
  rw [← hx] at C1
  rw [← hy] at C2
  rw [HP]
  clear hx hy HP ha hb
  obtain ⟨u, hu⟩ : ∃ u, u = mn a := ⟨_, rfl⟩
  obtain ⟨v, hv⟩ : ∃ v, v = mn b := ⟨_, rfl⟩
  change Hid (∀ w, Calls Try.prog 27 #[.float .f64 x] w fun e w' => e = .returned (.int .i64 (mn a : Nat)) ∧ w = w') at C1
  change Hid (∀ w, Calls Try.prog 27 #[.float .f64 y] w fun e w' => e = .returned (.int .i64 (mn b : Nat)) ∧ w = w') at C2
  rw [← hu] at C1 ⊢
  rw [← hv] at C2 ⊢
  clear hu hv
  go_enter Try.func14, Try.ntmps14
  go_wp2_with fail
  refine (C1.out _).mono ?_; rintro e w' ⟨rfl, rfl⟩
  go_wp2_with fail
  refine (C2.out _).mono ?_; rintro e w' ⟨rfl, rfl⟩
  go_wp2_with fail
  exact bodyPost_ret (v := pr u v) (by simp [results, Try.results14, go_sem, pr]) rfl ⟨rfl, (Keeps.refl _ _).alloc _⟩

theorem cl_mn (n : Nat) : cl (mn n : Nat) = mn n := by unfold cl mn; omega
theorem mn_mn (n : Nat) : mn (mn n) = mn n := by unfold mn; omega
theorem mn_of {n : Nat} (h : n ≤ 1073741824) : mn n = n := Nat.min_eq_left h
theorem mn_cl (n : Int) : mn (cl n) = cl n := by unfold cl mn; omega

theorem Fresh.trans {a b c : World} (h : Fresh a b) (k : Fresh b c) : Fresh a c := Keeps.trans h k (fun _ _ h => h)

set_option maxHeartbeats 400000 in
theorem whole_any (a b : Nat) (ha : a < 2 ^ 53) (hb : b < 2 ^ 53) (w : World) : Calls Try.prog 28 #[ck a b] w fun e w' => e = .returned (ck (mn a) (mn b)) ∧ Fresh w w' := by
  have C1 := Lib.hid (pair_any a b ha hb)
  have C2 := Lib.hid (of_any (mn a : Nat) (mn b : Nat))
  rw [cl_mn, cl_mn] at C2
  have HA : Hid (ck a b = .complex .f64 (W a) (W b)) := rfl
  obtain ⟨v, hv⟩ : ∃ v, v = ck a b := ⟨_, rfl⟩
  rw [← hv] at C1 ⊢
  clear hv HA
  go_enter Try.func28, Try.ntmps28
  go_wp2_with fail
  refine (C1.out _).mono ?_; rintro e w1 ⟨rfl, k1⟩
  have K1 := Lib.hid k1; clear k1
  unfold pr
  go_wp2_with fail
  refine (C2.out _).mono ?_; rintro e w2 ⟨rfl, k2⟩
  have K2 := Lib.hid k2; clear k2
  go_wp2_with fail
  go_ret
  exact ⟨rfl, K1.out.trans K2.out⟩

/-- Is an author odd? -/
def odd (author : Int) : Bool := bits .and .i64 author 1 == 1

theorem sum_W {a b c d : Nat} (h1 : a + c < 2 ^ 53) (h2 : b + d < 2 ^ 53) : cSumBits .add .f64 (W a) (W b) (W c) (W d) = some (W (a + c), W (b + d)) := by
  have e1 : FloatKind.f64.format.add (W a) (W c) = some (W (a + c)) := add_W h1
  have e2 : FloatKind.f64.format.add (W b) (W d) = some (W (b + d)) := add_W h2
  simp [cSumBits, floatBits, e1, e2]
theorem run_sum {a b c d : Nat} (h1 : a + c < 2 ^ 53) (h2 : b + d < 2 ^ 53) (w : World) :
    (binOp .add 25 (.complex .f64 (W a) (W b)) (.complex .f64 (W c) (W d))).run Try.prog w = .ok (.complex .f64 (W (a + c)) (W (b + d))) w :=
  run_complex_sum w .add (.inl rfl) 25 .f64 _ _ _ _ _ _ (sum_W h1 h2)

set_option maxHeartbeats 400000 in
theorem tick_odd (a b : Nat) (ha : a < 2 ^ 53) (hb : b < 2 ^ 53) (author : Int) (ho : odd author = true) (w : World) : Calls Try.prog 18 #[ck a b, .int .i64 author] w fun e w' => e = .returned (ck (mn a) (mn (mn b + 1))) ∧ Fresh w w' := by
  have ho' : (bits .and .i64 author 1 == 1) = true := ho
  have la := mn_le a
  have lb := mn_le b
  have C1 := Lib.hid (whole_any a b ha hb)
  have C2 := Lib.hid (whole_any (mn a) (mn b + 1) (by omega) (by omega))
  rw [mn_mn] at C2
  have A := fun w => run_sum (a := mn a) (b := mn b) (c := 0) (d := 1) (by omega) (by omega) w
  simp only [W_zero, W_one, Nat.add_zero] at A
  obtain ⟨x, hx⟩ : ∃ x, x = W (mn a) := ⟨_, rfl⟩
  obtain ⟨y, hy⟩ : ∃ y, y = W (mn b) := ⟨_, rfl⟩
  obtain ⟨z, hz⟩ : ∃ z, z = W (mn b + 1) := ⟨_, rfl⟩
  have e1 : ck (mn a) (mn b) = .complex .f64 x y := by rw [hx, hy]; rfl
  have e2 : ck (mn a) (mn b + 1) = .complex .f64 x z := by rw [hx, hz]; rfl
  rw [e1] at C1
  rw [e2] at C2
  rw [← hx, ← hy, ← hz] at A
  obtain ⟨v, hv⟩ : ∃ v, v = ck a b := ⟨_, rfl⟩
  rw [← hv] at C1 ⊢
  clear hv hx hy hz e1 e2 ha hb la lb ho
  go_enter Try.func18, Try.ntmps18
  go_wp2_with fail
  refine (C1.out _).mono ?_; rintro e w1 ⟨rfl, k1⟩
  have K1 := Lib.hid k1; clear k1
  go_wp2_with fail
  refine (C2.out _).mono ?_; rintro e w2 ⟨rfl, k2⟩
  have K2 := Lib.hid k2; clear k2
  go_wp2_with fail
  go_ret
  exact ⟨rfl, K1.out.trans K2.out⟩

set_option maxHeartbeats 400000 in
theorem tick_even (a b : Nat) (ha : a < 2 ^ 53) (hb : b < 2 ^ 53) (author : Int) (ho : odd author = false) (w : World) : Calls Try.prog 18 #[ck a b, .int .i64 author] w fun e w' => e = .returned (ck (mn (mn a + 1)) (mn b)) ∧ Fresh w w' := by
  have ho' : (bits .and .i64 author 1 == 1) = false := ho
  have la := mn_le a
  have lb := mn_le b
  have C1 := Lib.hid (whole_any a b ha hb)
  have C2 := Lib.hid (whole_any (mn a + 1) (mn b) (by omega) (by omega))
  rw [mn_mn] at C2
  have A := fun w => run_sum (a := mn a) (b := mn b) (c := 1) (d := 0) (by omega) (by omega) w
  simp only [W_zero, W_one, Nat.add_zero] at A
  obtain ⟨x, hx⟩ : ∃ x, x = W (mn a) := ⟨_, rfl⟩
  obtain ⟨y, hy⟩ : ∃ y, y = W (mn b) := ⟨_, rfl⟩
  obtain ⟨z, hz⟩ : ∃ z, z = W (mn a + 1) := ⟨_, rfl⟩
  have e1 : ck (mn a) (mn b) = .complex .f64 x y := by rw [hx, hy]; rfl
  have e2 : ck (mn a + 1) (mn b) = .complex .f64 z y := by rw [hy, hz]; rfl
  rw [e1] at C1
  rw [e2] at C2
  rw [← hx, ← hy, ← hz] at A
  obtain ⟨v, hv⟩ : ∃ v, v = ck a b := ⟨_, rfl⟩
  rw [← hv] at C1 ⊢
  clear hv hx hy hz e1 e2 ha hb la lb ho
  go_enter Try.func18, Try.ntmps18
  go_wp2_with fail
  refine (C1.out _).mono ?_; rintro e w1 ⟨rfl, k1⟩
  have K1 := Lib.hid k1; clear k1
  go_wp2_with fail
  refine (C2.out _).mono ?_; rintro e w2 ⟨rfl, k2⟩
  have K2 := Lib.hid k2; clear k2
  go_wp2_with fail
  go_ret
  exact ⟨rfl, K1.out.trans K2.out⟩

theorem run_max_W (a b : Nat) (ha : a < 2 ^ 53) (hb : b < 2 ^ 53) (w : World) (ty : TypeId) : (Builtin.max_ #[39, 39] ty #[.float .f64 (W a), .float .f64 (W b)]).run Try.prog w = .ok (.float .f64 (W (max a b))) w := by
  have ho : FloatKind.f64.format.order (W a) (W b) = some (compare a b) := order_W ha hb
  have hn : (FloatKind.f64.decode (W a)).neg = false := neg_W ha
  rcases Nat.lt_trichotomy a b with h | h | h
  · rw [cmp_lt h] at ho
    have e : max a b = b := by omega
    simp [Builtin.max_, Builtin.max2, ho, e]
  · subst h
    rw [cmp_eq] at ho
    simp [Builtin.max_, Builtin.max2, ho]
  · rw [cmp_gt h] at ho
    have e : max a b = a := by omega
    simp [Builtin.max_, Builtin.max2, ho, e]

set_option maxHeartbeats 400000 in
theorem join_any (a b c d : Nat) (ha : a < 2 ^ 53) (hb : b < 2 ^ 53) (hc : c < 2 ^ 53) (hd : d < 2 ^ 53) (w : World) :
    Calls Try.prog 19 #[ck a b, ck c d] w fun e w' => e = .returned (ck (max (mn a) (mn c)) (max (mn b) (mn d))) ∧ Fresh w w' := by
  have la := mn_le a
  have lb := mn_le b
  have lc := mn_le c
  have ld := mn_le d
  have C1 := Lib.hid (whole_any a b ha hb)
  have C2 := Lib.hid (whole_any c d hc hd)
  have M1 := run_max_W (mn a) (mn c) (by omega) (by omega)
  have M2 := run_max_W (mn b) (mn d) (by omega) (by omega)
  obtain ⟨x, hx⟩ : ∃ x, x = W (mn a) := ⟨_, rfl⟩
  obtain ⟨y, hy⟩ : ∃ y, y = W (mn b) := ⟨_, rfl⟩
  obtain ⟨z, hz⟩ : ∃ z, z = W (mn c) := ⟨_, rfl⟩
  obtain ⟨u, hu⟩ : ∃ u, u = W (mn d) := ⟨_, rfl⟩
  obtain ⟨p, hp⟩ : ∃ p, p = W (max (mn a) (mn c)) := ⟨_, rfl⟩
  obtain ⟨q, hq⟩ : ∃ q, q = W (max (mn b) (mn d)) := ⟨_, rfl⟩
  have e1 : ck (mn a) (mn b) = .complex .f64 x y := by rw [hx, hy]; rfl
  have e2 : ck (mn c) (mn d) = .complex .f64 z u := by rw [hz, hu]; rfl
  have e3 : ck (max (mn a) (mn c)) (max (mn b) (mn d)) = .complex .f64 p q := by rw [hp, hq]; rfl
  rw [e1] at C1
  rw [e2] at C2
  rw [e3]
  rw [← hx, ← hz, ← hp] at M1
  rw [← hy, ← hu, ← hq] at M2
  obtain ⟨v, hv⟩ : ∃ v, v = ck a b := ⟨_, rfl⟩
  rw [← hv] at C1 ⊢
  obtain ⟨v2, hv2⟩ : ∃ v, v = ck c d := ⟨_, rfl⟩
  rw [← hv2] at C2 ⊢
  clear hv hv2 hx hy hz hu hp hq e1 e2 e3 ha hb hc hd la lb lc ld
  go_enter Try.func19, Try.ntmps19
  go_wp2_with fail
  refine (C1.out _).mono ?_; rintro e w1 ⟨rfl, k1⟩
  have K1 := Lib.hid k1; clear k1
  go_wp2_with fail
  refine (C2.out _).mono ?_; rintro e w2 ⟨rfl, k2⟩
  have K2 := Lib.hid k2; clear k2
  go_wp2_with fail
  go_ret
  exact ⟨rfl, K1.out.trans K2.out⟩
end Go.Proofs.Ytigloaabhcpcnaa
