/-
  No statement is proved here: the clock's operations on clocks whose counts are at most 2^30, as contracts on two words each; 'under'; plain laws on 'ordr'.
-/
import Derived.Test.YtigloaabhcpcnaaSmall
namespace Go.Proofs.Ytigloaabhcpcnaa
open Go.RowKit

theorem lt53 {n : Nat} (h : n ≤ 1073741824) : n < 2 ^ 53 := by omega

theorem good_order {a b c d : Nat} (ha : a ≤ 1073741824) (hb : b ≤ 1073741824) (hc : c ≤ 1073741824) (hd : d ≤ 1073741824) {x y z u : Nat} (hx : x = W a) (hy : y = W b) (hz : z = W c) (hu : u = W d) (o : Int) (ho : ordr a b c d = o) :
    Hid (∀ w, Calls Try.prog 20 #[.complex .f64 x y, .complex .f64 z u] w fun e w' => e = .returned (.int .i64 o) ∧ Fresh w w') := fun w => by
  have := order_any a b c d (lt53 ha) (lt53 hb) (lt53 hc) (lt53 hd) w
  rw [mn_of ha, mn_of hb, mn_of hc, mn_of hd, ho] at this
  subst hx hy hz hu
  exact this
theorem good_join {a b c d : Nat} (ha : a ≤ 1073741824) (hb : b ≤ 1073741824) (hc : c ≤ 1073741824) (hd : d ≤ 1073741824) {x y z u p q : Nat} (hx : x = W a) (hy : y = W b) (hz : z = W c) (hu : u = W d) (hp : p = W (max a c)) (hq : q = W (max b d)) :
    Hid (∀ w, Calls Try.prog 19 #[.complex .f64 x y, .complex .f64 z u] w fun e w' => e = .returned (.complex .f64 p q) ∧ Fresh w w') := fun w => by
  have := join_any a b c d (lt53 ha) (lt53 hb) (lt53 hc) (lt53 hd) w
  rw [mn_of ha, mn_of hb, mn_of hc, mn_of hd] at this
  subst hx hy hz hu hp hq
  exact this
theorem good_of (l r : Int) {x y : Nat} (hx : x = W (cl l)) (hy : y = W (cl r)) :
    Hid (∀ w, Calls Try.prog 11 #[.agg #[.int .i64 l, .int .i64 r]] w fun e w' => e = .returned (.complex .f64 x y) ∧ Fresh w w') := fun w => by
  subst hx hy; exact of_any l r w
theorem good_pair {a b : Nat} (ha : a ≤ 1073741824) (hb : b ≤ 1073741824) {x y : Nat} (hx : x = W a) (hy : y = W b) :
    Hid (∀ w, Calls Try.prog 14 #[.complex .f64 x y] w fun e w' => e = .returned (.agg #[.int .i64 a, .int .i64 b]) ∧ Fresh w w') := fun w => by
  have := pair_any a b (lt53 ha) (lt53 hb) w
  rw [mn_of ha, mn_of hb] at this
  subst hx hy; exact this
theorem good_mine {a b : Nat} (ha : a ≤ 1073741824) (hb : b ≤ 1073741824) {x y : Nat} (hx : x = W a) (hy : y = W b) (author n : Int) (hn : (if odd author then (b : Int) else a) = n) :
    Hid (∀ w, Calls Try.prog 22 #[.complex .f64 x y, .int .i64 author] w fun e w' => e = .returned (.int .i64 n) ∧ Fresh w w') := fun w => by
  have := mine_any a b (lt53 ha) (lt53 hb) author w
  have e : ((mineOf a b (odd author) : Nat) : Int) = n := by
    rw [← hn]; unfold mineOf; rw [mn_of ha, mn_of hb]; cases odd author <;> rfl
  rw [e] at this
  subst hx hy; exact this
/-- What a tick makes of two counts. -/
def tickL (o : Bool) (a : Nat) : Nat := if o then a else mn (a + 1)
def tickR (o : Bool) (b : Nat) : Nat := if o then mn (b + 1) else b
theorem good_tick {a b : Nat} (ha : a ≤ 1073741824) (hb : b ≤ 1073741824) {x y p q : Nat} (hx : x = W a) (hy : y = W b) (author : Int) (hp : p = W (tickL (odd author) a)) (hq : q = W (tickR (odd author) b)) :
    Hid (∀ w, Calls Try.prog 18 #[.complex .f64 x y, .int .i64 author] w fun e w' => e = .returned (.complex .f64 p q) ∧ Fresh w w') := fun w => by
  subst hx hy hp hq
  cases ho : odd author with
  | true =>
    have := tick_odd a b (lt53 ha) (lt53 hb) author ho w
    rw [mn_of ha, mn_of hb] at this
    exact this
  | false =>
    have := tick_even a b (lt53 ha) (lt53 hb) author ho w
    rw [mn_of ha, mn_of hb] at this
    exact this
theorem tickL_le (o : Bool) {a : Nat} (ha : a ≤ 1073741824) : tickL o a ≤ 1073741824 := by unfold tickL; split <;> first | exact ha | exact mn_le _
theorem tickR_le (o : Bool) {a : Nat} (ha : a ≤ 1073741824) : tickR o a ≤ 1073741824 := by unfold tickR; split <;> first | exact ha | exact mn_le _

theorem good_eq {a b c d : Nat} (ha : a ≤ 1073741824) (hb : b ≤ 1073741824) (hc : c ≤ 1073741824) (hd : d ≤ 1073741824) {x y z u : Nat} (hx : x = W a) (hy : y = W b) (hz : z = W c) (hu : u = W d) (t : Bool) (ht : decide (a = c ∧ b = d) = t) :
    (FloatKind.f64.format.order x z == some .eq && FloatKind.f64.format.order y u == some .eq) = t := by
  subst hx hy hz hu ht; exact eq_W (lt53 ha) (lt53 hb) (lt53 hc) (lt53 hd)
theorem good_same {a : Nat} (ha : a ≤ 1073741824) {x : Nat} (hx : x = W a) : FloatKind.f64.format.order x x = some .eq := by
  subst hx
  have : FloatKind.f64.format.order (W a) (W a) = some (compare a a) := order_W (lt53 ha) (lt53 ha)
  rw [this, cmp_eq]

/-- Is it Before, or Alike? -/
def und (o : Int) : Bool := o == 0 || o == 1
set_option maxHeartbeats 400000 in
theorem under_any (o : Int) (t : Bool) (ht : und o = t) : Hid (∀ w, Calls Try.prog 24 #[.int .i64 o] w fun e w' => e = .returned (.bool t) ∧ w = w') := fun w => by
  unfold und at ht
  cases h0 : (o == 0) with
  | true =>
    rw [h0] at ht
    have : t = true := by rw [← ht]; rfl
    subst this
    clear ht
    go_enter Try.func24, Try.ntmps24
    go_wp2
    go_ret
    exact ⟨rfl, rfl⟩
  | false =>
    rw [h0] at ht
    have h1 : (o == 1) = t := by rw [← ht]; rfl
    clear ht
    go_enter Try.func24, Try.ntmps24
    go_wp2
    go_ret
    exact ⟨ret_bool rfl, rfl⟩

theorem und_ordr (a b c d : Nat) : und (ordr a b c d) = decide (a ≤ c ∧ b ≤ d) := by
  rw [rordr_eq]
  unfold rordr
  repeat' split
  all_goals simp [und]
  all_goals omega
theorem ordr_vals (a b c d : Nat) : (ordr a b c d == 0) = decide (a = c ∧ b = d) ∧ (ordr a b c d == 1) = decide ((a ≤ c ∧ b ≤ d) ∧ ¬ (a = c ∧ b = d)) ∧ (ordr a b c d == 2) = decide ((c ≤ a ∧ d ≤ b) ∧ ¬ (a = c ∧ b = d)) ∧
    (ordr a b c d == 3) = decide (¬ (a ≤ c ∧ b ≤ d) ∧ ¬ (c ≤ a ∧ d ≤ b)) := by
  rw [rordr_eq]
  unfold rordr
  refine ⟨?_, ?_, ?_, ?_⟩ <;> repeat' split
  all_goals simp
  all_goals omega
end Go.Proofs.Ytigloaabhcpcnaa
