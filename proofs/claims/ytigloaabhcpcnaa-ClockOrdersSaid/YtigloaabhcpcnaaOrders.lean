/-
  The walk of 'ClockOrders': the call returns true and turns nothing that was there: for any three pairs.
-/
import Derived.Test.YtigloaabhcpcnaaGood
namespace Go.Proofs.Ytigloaabhcpcnaa
open Go.RowKit

set_option maxRecDepth 100000 in
set_option maxHeartbeats 4000000 in
/-- The walk itself: every call by its contract; the relations among what they tell are premises. -/
theorem orders_core (l1 r1 l2 r2 l3 r3 : Int) (x1 y1 x2 y2 x3 y3 x4 y4 x5 y5 x6 y6 : Nat) (ocj odj ocd ode oce oje odc : Int) (ucd ude uce uje t0 t1 t3 : Bool) (w : World)
    (Hc : Hid (∀ w, Calls Try.prog 11 #[.agg #[.int .i64 l1, .int .i64 r1]] w fun e w' => e = .returned (.complex .f64 x1 y1) ∧ Fresh w w'))
    (Hd : Hid (∀ w, Calls Try.prog 11 #[.agg #[.int .i64 l2, .int .i64 r2]] w fun e w' => e = .returned (.complex .f64 x2 y2) ∧ Fresh w w'))
    (He : Hid (∀ w, Calls Try.prog 11 #[.agg #[.int .i64 l3, .int .i64 r3]] w fun e w' => e = .returned (.complex .f64 x3 y3) ∧ Fresh w w'))
    (Hj : Hid (∀ w, Calls Try.prog 19 #[.complex .f64 x1 y1, .complex .f64 x2 y2] w fun e w' => e = .returned (.complex .f64 x4 y4) ∧ Fresh w w'))
    (Hj2 : Hid (∀ w, Calls Try.prog 19 #[.complex .f64 x2 y2, .complex .f64 x1 y1] w fun e w' => e = .returned (.complex .f64 x4 y4) ∧ Fresh w w'))
    (Hje : Hid (∀ w, Calls Try.prog 19 #[.complex .f64 x4 y4, .complex .f64 x3 y3] w fun e w' => e = .returned (.complex .f64 x5 y5) ∧ Fresh w w'))
    (Hde : Hid (∀ w, Calls Try.prog 19 #[.complex .f64 x2 y2, .complex .f64 x3 y3] w fun e w' => e = .returned (.complex .f64 x6 y6) ∧ Fresh w w'))
    (Hcde : Hid (∀ w, Calls Try.prog 19 #[.complex .f64 x1 y1, .complex .f64 x6 y6] w fun e w' => e = .returned (.complex .f64 x5 y5) ∧ Fresh w w'))
    (Hcc : Hid (∀ w, Calls Try.prog 19 #[.complex .f64 x1 y1, .complex .f64 x1 y1] w fun e w' => e = .returned (.complex .f64 x1 y1) ∧ Fresh w w'))
    (Occ : Hid (∀ w, Calls Try.prog 20 #[.complex .f64 x1 y1, .complex .f64 x1 y1] w fun e w' => e = .returned (.int .i64 0) ∧ Fresh w w'))
    (Ocj : Hid (∀ w, Calls Try.prog 20 #[.complex .f64 x1 y1, .complex .f64 x4 y4] w fun e w' => e = .returned (.int .i64 ocj) ∧ Fresh w w'))
    (Odj : Hid (∀ w, Calls Try.prog 20 #[.complex .f64 x2 y2, .complex .f64 x4 y4] w fun e w' => e = .returned (.int .i64 odj) ∧ Fresh w w'))
    (Ocd : Hid (∀ w, Calls Try.prog 20 #[.complex .f64 x1 y1, .complex .f64 x2 y2] w fun e w' => e = .returned (.int .i64 ocd) ∧ Fresh w w'))
    (Ode : Hid (∀ w, Calls Try.prog 20 #[.complex .f64 x2 y2, .complex .f64 x3 y3] w fun e w' => e = .returned (.int .i64 ode) ∧ Fresh w w'))
    (Oce : Hid (∀ w, Calls Try.prog 20 #[.complex .f64 x1 y1, .complex .f64 x3 y3] w fun e w' => e = .returned (.int .i64 oce) ∧ Fresh w w'))
    (Oje : Hid (∀ w, Calls Try.prog 20 #[.complex .f64 x4 y4, .complex .f64 x3 y3] w fun e w' => e = .returned (.int .i64 oje) ∧ Fresh w w'))
    (Odc : Hid (∀ w, Calls Try.prog 20 #[.complex .f64 x2 y2, .complex .f64 x1 y1] w fun e w' => e = .returned (.int .i64 odc) ∧ Fresh w w'))
    (U0 : Hid (∀ w, Calls Try.prog 24 #[.int .i64 0] w fun e w' => e = .returned (.bool true) ∧ w = w'))
    (Ucj : Hid (∀ w, Calls Try.prog 24 #[.int .i64 ocj] w fun e w' => e = .returned (.bool true) ∧ w = w'))
    (Udj : Hid (∀ w, Calls Try.prog 24 #[.int .i64 odj] w fun e w' => e = .returned (.bool true) ∧ w = w'))
    (Ucd : Hid (∀ w, Calls Try.prog 24 #[.int .i64 ocd] w fun e w' => e = .returned (.bool ucd) ∧ w = w'))
    (Ude : Hid (∀ w, Calls Try.prog 24 #[.int .i64 ode] w fun e w' => e = .returned (.bool ude) ∧ w = w'))
    (Uce : Hid (∀ w, Calls Try.prog 24 #[.int .i64 oce] w fun e w' => e = .returned (.bool uce) ∧ w = w'))
    (Uje : Hid (∀ w, Calls Try.prog 24 #[.int .i64 oje] w fun e w' => e = .returned (.bool uje) ∧ w = w'))
    (hu1 : (ucd && ude && !uce) = false) (hu2 : (uce && (ude != uje)) = false)
    (q1 : (ocd == 1) = t1) (q2 : (odc == 2) = t1) (q3 : (ocd == 3) = t3) (q4 : (odc == 3) = t3) (q5 : (ocd == 0) = t0)
    (q6 : (FloatKind.f64.format.order x1 x2 == some .eq && FloatKind.f64.format.order y1 y2 == some .eq) = t0)
    (s1 : FloatKind.f64.format.order x1 x1 = some .eq) (s2 : FloatKind.f64.format.order y1 y1 = some .eq) (s3 : FloatKind.f64.format.order x4 x4 = some .eq) (s4 : FloatKind.f64.format.order y4 y4 = some .eq)
    (s5 : FloatKind.f64.format.order x5 x5 = some .eq) (s6 : FloatKind.f64.format.order y5 y5 = some .eq) :
    Calls Try.prog 5 #[.agg #[.int .i64 l1, .int .i64 r1], .agg #[.int .i64 l2, .int .i64 r2], .agg #[.int .i64 l3, .int .i64 r3]] w fun e w' => e = .returned (.bool true) ∧ Fresh w w' := by
  have HU := Lib.hid (And.intro hu1 hu2)
  clear hu1 hu2
  go_enter Try.func5, Try.ntmps5
  go_wp2_with fail
  refine (small_any _).mono ?_; rintro e w1 ⟨rfl, g⟩
  have G := Lib.hid (Fresh.trans ((((Keeps.refl _ _).alloc _).alloc _).alloc _) g)
  have h0 := Fresh.own g (new3a w _ _ _)
  have h1 := Fresh.own g (new3b w _ _ _)
  have h2 := Fresh.own g (new3c w _ _ _)
  clear g
  obtain ⟨a0, a1, -, -⟩ := two_cells h0
  go_wp2_with fail
  refine (Hc.out _).mono ?_; rintro e w2 ⟨rfl, g⟩
  replace G := Lib.hid (G.out.trans g)
  replace h1 := Fresh.own g h1
  replace h2 := Fresh.own g h2
  clear g a0 a1 h0
  obtain ⟨a0, a1, -, -⟩ := two_cells h1
  go_wp2_with fail
  refine (Hd.out _).mono ?_; rintro e w3 ⟨rfl, g⟩
  replace G := Lib.hid (G.out.trans g)
  replace h2 := Fresh.own g h2
  clear g a0 a1 h1
  obtain ⟨a0, a1, -, -⟩ := two_cells h2
  go_wp2_with fail
  refine (He.out _).mono ?_; rintro e w4 ⟨rfl, g⟩
  replace G := Lib.hid (G.out.trans g)
  clear g a0 a1 h2
  go_wp2_with fail
  refine (Hj.out _).mono ?_; rintro e w5 ⟨rfl, g⟩
  replace G := Lib.hid (G.out.trans g); clear g
  go_wp2_with fail
  refine (Occ.out _).mono ?_; rintro e w6 ⟨rfl, g⟩
  replace G := Lib.hid (G.out.trans g); clear g
  go_wp2_with fail
  refine (U0.out _).mono ?_; rintro e w7 ⟨rfl, rfl⟩
  go_wp2_with fail
  refine (Ocj.out _).mono ?_; rintro e w8 ⟨rfl, g⟩
  replace G := Lib.hid (G.out.trans g); clear g
  go_wp2_with fail
  refine (Ucj.out _).mono ?_; rintro e w9 ⟨rfl, rfl⟩
  go_wp2_with fail
  refine (Odj.out _).mono ?_; rintro e wa ⟨rfl, g⟩
  replace G := Lib.hid (G.out.trans g); clear g
  go_wp2_with fail
  refine (Udj.out _).mono ?_; rintro e wb ⟨rfl, rfl⟩
  go_wp2_with fail
  refine (Ocd.out _).mono ?_; rintro e wc ⟨rfl, g⟩
  replace G := Lib.hid (G.out.trans g); clear g
  go_wp2_with fail
  refine (Ucd.out _).mono ?_; rintro e wd ⟨rfl, rfl⟩
  cases ucd <;> cases ude <;> cases uce <;> (try (first | (have e := HU.out.2; simp at e; subst e) | skip))
  all_goals first | (exfalso; have h := HU.out.1; simp at h; done) | skip
  all_goals
    go_wp2_with (first
      | (go_at_call 24; (with_reducible refine (Ude.out _).mono ?_); rintro e wn ⟨rfl, rfl⟩)
      | (go_at_call 24; (with_reducible refine (Uce.out _).mono ?_); rintro e wn ⟨rfl, rfl⟩)
      | (go_at_call 24; (with_reducible refine (Uje.out _).mono ?_); rintro e wn ⟨rfl, rfl⟩)
      | (go_at_call 20; (with_reducible refine (Ode.out _).mono ?_); rintro e wn ⟨rfl, g⟩; replace G := Lib.hid (G.out.trans g); clear g)
      | (go_at_call 20; (with_reducible refine (Oce.out _).mono ?_); rintro e wn ⟨rfl, g⟩; replace G := Lib.hid (G.out.trans g); clear g)
      | (go_at_call 20; (with_reducible refine (Oje.out _).mono ?_); rintro e wn ⟨rfl, g⟩; replace G := Lib.hid (G.out.trans g); clear g)
      | (go_at_call 20; (with_reducible refine (Odc.out _).mono ?_); rintro e wn ⟨rfl, g⟩; replace G := Lib.hid (G.out.trans g); clear g)
      | (go_at_call 20; (with_reducible refine (Ocd.out _).mono ?_); rintro e wn ⟨rfl, g⟩; replace G := Lib.hid (G.out.trans g); clear g)
      | (go_at_call 19; (with_reducible refine (Hj2.out _).mono ?_); rintro e wn ⟨rfl, g⟩; replace G := Lib.hid (G.out.trans g); clear g)
      | (go_at_call 19; (with_reducible refine (Hje.out _).mono ?_); rintro e wn ⟨rfl, g⟩; replace G := Lib.hid (G.out.trans g); clear g)
      | (go_at_call 19; (with_reducible refine (Hde.out _).mono ?_); rintro e wn ⟨rfl, g⟩; replace G := Lib.hid (G.out.trans g); clear g)
      | (go_at_call 19; (with_reducible refine (Hcde.out _).mono ?_); rintro e wn ⟨rfl, g⟩; replace G := Lib.hid (G.out.trans g); clear g)
      | (go_at_call 19; (with_reducible refine (Hcc.out _).mono ?_); rintro e wn ⟨rfl, g⟩; replace G := Lib.hid (G.out.trans g); clear g))
  all_goals
    go_ret
    exact ⟨rfl, G.out⟩

theorem orders_walk (l1 r1 l2 r2 l3 r3 : Int) (w : World) :
    Calls Try.prog 5 #[.agg #[.int .i64 l1, .int .i64 r1], .agg #[.int .i64 l2, .int .i64 r2], .agg #[.int .i64 l3, .int .i64 r3]] w fun e w' => e = .returned (.bool true) ∧ Fresh w w' := by
  have la := cl_le l1; have lb := cl_le r1; have lc := cl_le l2; have ld := cl_le r2; have le := cl_le l3; have lf := cl_le r3
  have hc := good_of l1 r1 rfl rfl
  have hd := good_of l2 r2 rfl rfl
  have he := good_of l3 r3 rfl rfl
  generalize cl l1 = a at *
  generalize cl r1 = b at *
  generalize cl l2 = c at *
  generalize cl r2 = d at *
  generalize cl l3 = e at *
  generalize cl r3 = f at *
  have hm1 : max a c ≤ 1073741824 := by omega
  have hm2 : max b d ≤ 1073741824 := by omega
  have hm3 : max c e ≤ 1073741824 := by omega
  have hm4 : max d f ≤ 1073741824 := by omega
  have hm5 : max (max a c) e ≤ 1073741824 := by omega
  have hm6 : max (max b d) f ≤ 1073741824 := by omega
  obtain ⟨v0, v1, v2, v3⟩ := ordr_vals a b c d
  obtain ⟨z0, z1, z2, z3⟩ := ordr_vals c d a b
  exact orders_core l1 r1 l2 r2 l3 r3 _ _ _ _ _ _ _ _ _ _ _ _ _ _ _ _ _ _ _ _ _ _ _ _ _ _ w hc hd he
    (good_join la lb lc ld rfl rfl rfl rfl rfl rfl)
    (good_join lc ld la lb rfl rfl rfl rfl (by rw [Nat.max_comm]) (by rw [Nat.max_comm]))
    (good_join hm1 hm2 le lf rfl rfl rfl rfl rfl rfl)
    (good_join lc ld le lf rfl rfl rfl rfl rfl rfl)
    (good_join la lb hm3 hm4 rfl rfl rfl rfl (by rw [Nat.max_assoc]) (by rw [Nat.max_assoc]))
    (good_join la lb la lb rfl rfl rfl rfl (by rw [Nat.max_self]) (by rw [Nat.max_self]))
    (good_order la lb la lb rfl rfl rfl rfl 0 (by simp [ordr]))
    (good_order la lb hm1 hm2 rfl rfl rfl rfl _ rfl)
    (good_order lc ld hm1 hm2 rfl rfl rfl rfl _ rfl)
    (good_order la lb lc ld rfl rfl rfl rfl _ rfl)
    (good_order lc ld le lf rfl rfl rfl rfl _ rfl)
    (good_order la lb le lf rfl rfl rfl rfl _ rfl)
    (good_order hm1 hm2 le lf rfl rfl rfl rfl _ rfl)
    (good_order lc ld la lb rfl rfl rfl rfl _ rfl)
    (under_any 0 true (by decide))
    (under_any _ true (by rw [und_ordr]; simp; omega))
    (under_any _ true (by rw [und_ordr]; simp; omega))
    (under_any _ _ (und_ordr _ _ _ _))
    (under_any _ _ (und_ordr _ _ _ _))
    (under_any _ _ (und_ordr _ _ _ _))
    (under_any _ _ (und_ordr _ _ _ _))
    (by by_cases h1 : a ≤ c ∧ b ≤ d <;> by_cases h2 : c ≤ e ∧ d ≤ f <;> by_cases h3 : a ≤ e ∧ b ≤ f <;> simp [h1, h2, h3] <;> omega)
    (by by_cases h1 : a ≤ e ∧ b ≤ f <;> by_cases h2 : c ≤ e ∧ d ≤ f <;> by_cases h3 : max a c ≤ e ∧ max b d ≤ f <;> simp [h1, h2, h3] <;> omega)
    v1 (by rw [z2]; rw [decide_eq_decide]; omega) v3 (by rw [z3]; rw [decide_eq_decide]; omega) v0
    (good_eq la lb lc ld rfl rfl rfl rfl _ rfl)
    (good_same la rfl) (good_same lb rfl) (good_same hm1 rfl) (good_same hm2 rfl) (good_same hm5 rfl) (good_same hm6 rfl)
end Go.Proofs.Ytigloaabhcpcnaa
