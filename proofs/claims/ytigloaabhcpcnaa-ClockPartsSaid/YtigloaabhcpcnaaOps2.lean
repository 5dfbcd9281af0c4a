/- More clock operations: the turns and the ordering of two clocks. -/
import Derived.Test.YtigloaabhcpcnaaOps
namespace Go.Proofs.Ytigloaabhcpcnaa
open Go.RowKit

/-- What one clock is of another one. -/
def ordr (a b c d : Nat) : Int := if max a c = a ∧ max b d = b then (if a = c ∧ b = d then 0 else 2) else if max a c = c ∧ max b d = d then 1 else 3

/-- The walk, with every comparison's answer as a premise. -/
theorem order_walk {v v2 : Value} {x y z u p q : Nat} {r : Int} {w : World}
    (C1 : Hid (∀ w, Calls Try.prog 28 #[v] w fun e w' => e = .returned (.complex .f64 x y) ∧ Fresh w w'))
    (C2 : Hid (∀ w, Calls Try.prog 28 #[v2] w fun e w' => e = .returned (.complex .f64 z u) ∧ Fresh w w'))
    (C3 : Hid (∀ w, Calls Try.prog 19 #[.complex .f64 x y, .complex .f64 z u] w fun e w' => e = .returned (.complex .f64 p q) ∧ Fresh w w'))
    (t1 t2 t3 : Bool)
    (h1 : (FloatKind.f64.format.order p x == some .eq && FloatKind.f64.format.order q y == some .eq) = t1)
    (h2 : (FloatKind.f64.format.order x z == some .eq && FloatKind.f64.format.order y u == some .eq) = t2)
    (h3 : (FloatKind.f64.format.order p z == some .eq && FloatKind.f64.format.order q u == some .eq) = t3)
    (hr : r = if t1 then (if t2 then 0 else 2) else if t3 then 1 else 3) :
    Calls Try.prog 20 #[v, v2] w fun e w' => e = .returned (.int .i64 r) ∧ Fresh w w' := by
  have HR := Lib.hid hr
  clear hr
  go_enter Try.func20, Try.ntmps20
  go_wp2_with fail
  refine (C1.out _).mono ?_; rintro e w1 ⟨rfl, k1⟩
  have K1 := Lib.hid k1; clear k1
  go_wp2_with fail
  refine (C2.out _).mono ?_; rintro e w2 ⟨rfl, k2⟩
  have K2 := Lib.hid k2; clear k2
  go_wp2_with fail
  refine (C3.out _).mono ?_; rintro e w3 ⟨rfl, k3⟩
  have K3 := Lib.hid k3; clear k3
  cases t1 <;> cases t2 <;> cases t3
  all_goals
    go_wp2_with fail
    go_ret
    exact ⟨ret_int (by rw [HR.out]; rfl), (K1.out.trans K2.out).trans K3.out⟩

theorem eq_W {a b c d : Nat} (ha : a < 2 ^ 53) (hb : b < 2 ^ 53) (hc : c < 2 ^ 53) (hd : d < 2 ^ 53) :
    (FloatKind.f64.format.order (W a) (W c) == some .eq && FloatKind.f64.format.order (W b) (W d) == some .eq) = decide (a = c ∧ b = d) := by
  have h1 : FloatKind.f64.format.order (W a) (W c) = some (compare a c) := order_W ha hc
  have h2 : FloatKind.f64.format.order (W b) (W d) = some (compare b d) := order_W hb hd
  have c1 : ∀ m n : Nat, (some (compare m n) == some Ordering.eq) = decide (m = n) := fun m n => by
    by_cases h : m = n
    · subst h; rw [cmp_eq]; simp
    · have : compare m n ≠ .eq := fun e => h (Nat.compare_eq_eq.1 e)
      simp [h, this]
  rw [h1, h2, c1, c1]; simp

theorem order_any (a b c d : Nat) (ha : a < 2 ^ 53) (hb : b < 2 ^ 53) (hc : c < 2 ^ 53) (hd : d < 2 ^ 53) (w : World) :
    Calls Try.prog 20 #[ck a b, ck c d] w fun e w' => e = .returned (.int .i64 (ordr (mn a) (mn b) (mn c) (mn d))) ∧ Fresh w w' := by
  have la := mn_le a
  have lb := mn_le b
  have lc := mn_le c
  have ld := mn_le d
  have C3 := join_any (mn a) (mn b) (mn c) (mn d) (by omega) (by omega) (by omega) (by omega)
  simp only [mn_mn] at C3
  exact order_walk (whole_any a b ha hb) (whole_any c d hc hd) C3 _ _ _
    (eq_W (by omega) (by omega) (by omega) (by omega)) (eq_W (by omega) (by omega) (by omega) (by omega)) (eq_W (by omega) (by omega) (by omega) (by omega))
    (by simp only [decide_eq_true_eq]; rfl)

def mineOf (a b : Nat) (o : Bool) : Nat := if o then mn b else mn a

set_option maxHeartbeats 400000 in
theorem mine_any (a b : Nat) (ha : a < 2 ^ 53) (hb : b < 2 ^ 53) (author : Int) (w : World) : Calls Try.prog 22 #[ck a b, .int .i64 author] w fun e w' => e = .returned (.int .i64 (mineOf a b (odd author) : Nat)) ∧ Fresh w w' := by
  have C1 := Lib.hid (pair_any a b ha hb)
  obtain ⟨v, hv⟩ : ∃ v, v = ck a b := ⟨_, rfl⟩
  obtain ⟨x, hx⟩ : ∃ x, x = mn a := ⟨_, rfl⟩
  obtain ⟨y, hy⟩ : ∃ y, y = mn b := ⟨_, rfl⟩
  have HM : Hid (mineOf a b (odd author) = if odd author then y else x) := by show mineOf a b (odd author) = if odd author then y else x; rw [hx, hy]; rfl
  rw [← hv, ← hx, ← hy] at C1
  rw [← hv]
  clear hv hx hy ha hb
  cases ho : odd author with
  | true =>
    rw [ho] at HM
    have HO := Lib.hid HM.out
    have ho' : (bits .and .i64 author 1 == 1) = true := ho
    clear ho
    go_enter Try.func22, Try.ntmps22
    go_wp2_with fail
    refine (C1.out _).mono ?_; rintro e w1 ⟨rfl, k1⟩
    have K1 := Lib.hid k1; clear k1
    unfold pr
    go_wp2_with fail
    go_ret
    exact ⟨ret_int (by rw [HM.out]; rfl), K1.out.alloc _⟩
  | false =>
    rw [ho] at HM
    have ho' : (bits .and .i64 author 1 == 1) = false := ho
    clear ho
    go_enter Try.func22, Try.ntmps22
    go_wp2_with fail
    refine (C1.out _).mono ?_; rintro e w1 ⟨rfl, k1⟩
    have K1 := Lib.hid k1; clear k1
    unfold pr
    go_wp2_with fail
    go_ret
    exact ⟨ret_int (by rw [HM.out]; rfl), K1.out.alloc _⟩

/-- Does a pair fit? -/
def right (l r : Int) : Bool := decide (0 ≤ l ∧ 0 ≤ r ∧ l ≤ 1073741824 ∧ r ≤ 1073741824)

set_option maxHeartbeats 400000 in
theorem right_any (l r : Int) (w : World) : Calls Try.prog 16 #[.agg #[.int .i64 l, .int .i64 r]] w fun e w' => e = .returned (.bool (right l r)) ∧ Fresh w w' := by
  go_enter Try.func16, Try.ntmps16
  go_wp2
  all_goals
    go_ret
    refine ⟨ret_bool ?_, (Keeps.refl _ _).alloc _⟩
    rw [Bool.eq_iff_iff]; simp [right]; omega
end Go.Proofs.Ytigloaabhcpcnaa
