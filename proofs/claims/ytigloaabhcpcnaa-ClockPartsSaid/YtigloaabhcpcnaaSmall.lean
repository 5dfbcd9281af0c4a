/-
  No statement is proved here: 'small' of the clock's statements returns true, and turns nothing that was there.
-/
import Derived.Test.YtigloaabhcpcnaaRef
namespace Go.Proofs.Ytigloaabhcpcnaa
open Go.RowKit

theorem count_zero (x : Nat) (h1 : FloatKind.f64.format.order x 4742290407621132288 = some .lt) (h2 : FloatKind.f64.format.order x 0 = some .lt) (w : World) :
    Calls Try.prog 27 #[.float .f64 x] w fun e w' => e = .returned (.int .i64 0) ∧ w = w' := by
  go_enter Try.func27, Try.ntmps27
  go_wp2
  go_ret
  exact ⟨rfl, rfl⟩
theorem count_some (x : Nat) (n : Int) (h1 : FloatKind.f64.format.order x 4742290407621132288 = some .lt) (h2 : FloatKind.f64.format.order x 0 = some .gt)
    (h3 : ∀ w, (convert 39 3 (.float .f64 x)).run Try.prog w = .ok (.int .i64 n) w) (w : World) :
    Calls Try.prog 27 #[.float .f64 x] w fun e w' => e = .returned (.int .i64 n) ∧ w = w' := by
  go_enter Try.func27, Try.ntmps27
  go_wp2
  go_ret
  exact ⟨rfl, rfl⟩

set_option maxHeartbeats 400000 in
theorem pair_raw (x y : Nat) (m n : Int) (C1 : Hid (∀ w, Calls Try.prog 27 #[.float .f64 x] w fun e w' => e = .returned (.int .i64 m) ∧ w = w'))
    (C2 : Hid (∀ w, Calls Try.prog 27 #[.float .f64 y] w fun e w' => e = .returned (.int .i64 n) ∧ w = w')) (w : World) :
    Calls Try.prog 14 #[.complex .f64 x y] w fun e w' => e = .returned (pr m n) ∧ Fresh w w' := by
  go_enter Try.func14, Try.ntmps14
  go_wp2_with fail
  refine (C1.out _).mono ?_; rintro e w' ⟨rfl, rfl⟩
  go_wp2_with fail
  refine (C2.out _).mono ?_; rintro e w' ⟨rfl, rfl⟩
  go_wp2_with fail
  exact bodyPost_ret (v := pr m n) (by simp [results, Try.results14, go_sem, pr]) rfl ⟨rfl, (Keeps.refl _ _).alloc _⟩

theorem pair_const (w : World) : Calls Try.prog 14 #[.complex .f64 13830554455654793216 4612811918334230528] w fun e w' => e = .returned (pr 0 2) ∧ Fresh w w' :=
  pair_raw _ _ _ _ (count_zero _ (by decide) (by decide)) (count_some _ 2 (by decide) (by decide) (fun w => by kernel_rfl)) w

theorem ck_lit (a b x y : Nat) (hx : W a = x) (hy : W b = y) : ck a b = .complex .f64 x y := by rw [← hx, ← hy]; rfl

set_option maxRecDepth 100000 in
set_option maxHeartbeats 1000000 in
theorem small_any (w : World) : Calls Try.prog 10 #[] w fun e w' => e = .returned (.bool true) ∧ Fresh w w' := by
  have c31 : ck 3 1 = .complex .f64 4613937818241073152 4607182418800017408 := ck_lit _ _ _ _ (by decide) (by decide)
  have c24 : ck 2 4 = .complex .f64 4611686018427387904 4616189618054758400 := ck_lit _ _ _ _ (by decide) (by decide)
  have c34 : ck 3 4 = .complex .f64 4613937818241073152 4616189618054758400 := ck_lit _ _ _ _ (by decide) (by decide)
  have c32 : ck 3 2 = .complex .f64 4613937818241073152 4611686018427387904 := ck_lit _ _ _ _ (by decide) (by decide)
  have c41 : ck 4 1 = .complex .f64 4616189618054758400 4607182418800017408 := ck_lit _ _ _ _ (by decide) (by decide)
  have k1 := of_any 3 1
  have k2 := of_any 2 4
  have k3 := order_any 3 1 2 4 (by decide) (by decide) (by decide) (by decide)
  have k4 := join_any 3 1 2 4 (by decide) (by decide) (by decide) (by decide)
  have k5 := tick_odd 3 1 (by decide) (by decide) 1 (by decide)
  have k6 := tick_even 3 1 (by decide) (by decide) 0 (by decide)
  have k7 := order_any 3 1 4 1 (by decide) (by decide) (by decide) (by decide)
  have k8 := order_any 3 1 3 1 (by decide) (by decide) (by decide) (by decide)
  have k9 := mine_any 2 4 (by decide) (by decide) 1
  rw [show cl 3 = 3 by decide, show cl 1 = 1 by decide, c31] at k1
  rw [show cl 2 = 2 by decide, show cl 4 = 4 by decide, c24] at k2
  rw [c31, c24, show ordr (mn 3) (mn 1) (mn 2) (mn 4) = 3 by decide] at k3
  rw [c31, c24, show max (mn 3) (mn 2) = 3 by decide, show max (mn 1) (mn 4) = 4 by decide, c34] at k4
  rw [c31, show mn 3 = 3 by decide, show mn (mn 1 + 1) = 2 by decide, c32] at k5
  rw [c31, show mn (mn 3 + 1) = 4 by decide, show mn 1 = 1 by decide, c41] at k6
  rw [c31, c41, show ordr (mn 3) (mn 1) (mn 4) (mn 1) = 1 by decide] at k7
  rw [c31, show ordr (mn 3) (mn 1) (mn 3) (mn 1) = 0 by decide] at k8
  rw [c24, show mineOf 2 4 (odd 1) = 4 by decide] at k9
  have H1 := Lib.hid k1; have H2 := Lib.hid k2; have H3 := Lib.hid k3; have H4 := Lib.hid k4; have H5 := Lib.hid k5
  have H6 := Lib.hid k6; have H7 := Lib.hid k7; have H8 := Lib.hid k8; have H9 := Lib.hid k9
  have e1 : FloatKind.f64.format.order 4613937818241073152 4613937818241073152 = some .eq := by decide
  have e2 : FloatKind.f64.format.order 4616189618054758400 4616189618054758400 = some .eq := by decide
  have e3 : FloatKind.f64.format.order 4611686018427387904 4611686018427387904 = some .eq := by decide
  clear k1 k2 k3 k4 k5 k6 k7 k8 k9 c31 c24 c34 c32 c41
  go_enter Try.func10, Try.ntmps10
  go_wp2_with fail
  refine (H1.out _).mono ?_; rintro e w1 ⟨rfl, g1⟩
  have G1 := Lib.hid g1; clear g1
  go_wp2_with fail
  refine (H2.out _).mono ?_; rintro e w2 ⟨rfl, g2⟩
  have G2 := Lib.hid g2; clear g2
  go_wp2_with fail
  refine (H3.out _).mono ?_; rintro e w3 ⟨rfl, g3⟩
  have G3 := Lib.hid g3; clear g3
  go_wp2_with fail
  refine (H4.out _).mono ?_; rintro e w4 ⟨rfl, g4⟩
  have G4 := Lib.hid g4; clear g4
  go_wp2_with fail
  refine (H5.out _).mono ?_; rintro e w5 ⟨rfl, g5⟩
  have G5 := Lib.hid g5; clear g5
  go_wp2_with fail
  refine (H6.out _).mono ?_; rintro e w6 ⟨rfl, g6⟩
  have G6 := Lib.hid g6; clear g6
  go_wp2_with fail
  refine (H7.out _).mono ?_; rintro e w7 ⟨rfl, g7⟩
  have G7 := Lib.hid g7; clear g7
  go_wp2_with fail
  refine (H8.out _).mono ?_; rintro e w8 ⟨rfl, g8⟩
  have G8 := Lib.hid g8; clear g8
  go_wp2_with fail
  refine (H9.out _).mono ?_; rintro e w9 ⟨rfl, g9⟩
  have G9 := Lib.hid g9; clear g9
  go_wp2_with fail
  refine (pair_const _).mono ?_; rintro e wa ⟨rfl, ga⟩
  have GA := Lib.hid ga; clear ga
  unfold pr
  go_wp2_with fail
  refine (right_any _ _ _).mono ?_; rintro e wb ⟨rfl, gb⟩
  have GB := Lib.hid gb; clear gb
  rw [show right 1073741824 0 = true by decide]
  go_wp2_with fail
  refine (right_any _ _ _).mono ?_; rintro e wc ⟨rfl, gc⟩
  have GC := Lib.hid gc; clear gc
  rw [show right 0 (-1) = false by decide]
  go_wp2_with fail
  go_ret
  exact ⟨rfl, (((((((((((G1.out.trans G2.out).trans G3.out).trans G4.out).trans G5.out).trans G6.out).trans G7.out).trans G8.out).trans G9.out).trans GA.out).trans GB.out).trans GC.out)⟩
end Go.Proofs.Ytigloaabhcpcnaa
