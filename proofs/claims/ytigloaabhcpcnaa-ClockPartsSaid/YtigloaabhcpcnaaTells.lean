/-
  The walk of 'ClockTells': the call returns true and turns nothing that was there: for any two pairs, any author.
-/
import Derived.Test.YtigloaabhcpcnaaGood
import Derived.Test.YtigloaabhcpcnaaNear
namespace Go.Proofs.Ytigloaabhcpcnaa
open Go.RowKit

theorem near_fresh {P : Program} {f : FuncId} {args : Array Value} {W : World} {v : Value} (h : Hid (∀ w, Calls P f args w fun e w' => e = .returned v ∧ Fresh w w')) (u : World) :
    Calls P f args (near W u) fun e w'' => e = .returned v ∧ ∃ u', w'' = near W u' := near_call h u
theorem cl_nat {n : Nat} (h : n ≤ 1073741824) : cl (n : Int) = n := by unfold cl; omega

theorem rtick_good (l r author : Int) {m n : Int} (hm : m = (tickL (odd author) (cl l) : Nat)) (hn : n = (tickR (odd author) (cl r) : Nat)) :
    Hid (∀ w, Calls Try.prog 12 #[.agg #[.int .i64 l, .int .i64 r], .int .i64 author] w fun e w' => e = .returned (.agg #[.int .i64 m, .int .i64 n]) ∧ Fresh w w') := fun w => by
  have e : ∀ k : Nat, cl ((k : Int) + 1) = mn (k + 1) := fun k => by unfold cl mn; omega
  subst hm hn
  cases ho : odd author with
  | true =>
    have := rtick_odd l r author ho w
    rw [e] at this
    exact this
  | false =>
    have := rtick_even l r author ho w
    rw [e] at this
    exact this

set_option maxRecDepth 100000 in
set_option maxHeartbeats 4000000 in
theorem tells_walk (l r l2 r2 author : Int) (w : World) :
    Calls Try.prog 3 #[.agg #[.int .i64 l, .int .i64 r], .agg #[.int .i64 l2, .int .i64 r2], .int .i64 author] w fun e w' => e = .returned (.bool true) ∧ Fresh w w' := by
  have la := cl_le l
  have lb := cl_le r
  have lc := cl_le l2
  have ld := cl_le r2
  have lt := tickL_le (odd author) la
  have lu := tickR_le (odd author) lb
  have lj : max (cl l) (cl l2) ≤ 1073741824 := by omega
  have lk : max (cl r) (cl r2) ≤ 1073741824 := by omega
  have O1 := good_of l r rfl rfl
  have O2 := good_of l2 r2 rfl rfl
  have T1 := rtick_good l r author rfl rfl
  have J1 := Lib.hid (rjoin_any l r l2 r2)
  have P1 := good_pair la lb rfl rfl
  have F1 := Lib.hid (fit_any l r)
  have R1 := Lib.hid (right_any l r)
  have R2 := Lib.hid (rright_any l r)
  have T2 := good_tick la lb rfl rfl author rfl rfl
  have P2 := good_pair lt lu rfl rfl
  have J2 := good_join la lb lc ld rfl rfl rfl rfl rfl rfl
  have P3 := good_pair lj lk rfl rfl
  have U1 := good_order la lb lc ld rfl rfl rfl rfl (rordr (cl l) (cl r) (cl l2) (cl r2)) (rordr_eq _ _ _ _)
  have U2 := Lib.hid (rorder_any l r l2 r2)
  have M1 := good_mine la lb rfl rfl author (if odd author then cl r else cl l : Nat) (by cases odd author <;> rfl)
  have M2 := Lib.hid (rmine_any l r author)
  have O3 := good_of (tickL (odd author) (cl l) : Nat) (tickR (odd author) (cl r) : Nat) (congrArg W (cl_nat lt).symm) (congrArg W (cl_nat lu).symm)
  have O4 := good_of (max (cl l) (cl l2) : Nat) (max (cl r) (cl r2) : Nat) (congrArg W (cl_nat lj).symm) (congrArg W (cl_nat lk).symm)
  have S1 := good_same lt rfl
  have S2 := good_same lu rfl
  have S3 := good_same lj rfl
  have S4 := good_same lk rfl
  generalize W (tickL (odd author) (cl l)) = tx at *
  generalize W (tickR (odd author) (cl r)) = ty at *
  generalize W (max (cl l) (cl l2)) = jx at *
  generalize W (max (cl r) (cl r2)) = jy at *
  generalize W (cl l) = x at *
  generalize W (cl r) = y at *
  generalize W (cl l2) = z at *
  generalize W (cl r2) = u at *
  generalize rordr (cl l) (cl r) (cl l2) (cl r2) = o at *
  generalize ((if odd author then cl r else cl l : Nat) : Int) = mi at *
  generalize ((tickL (odd author) (cl l) : Nat) : Int) = tl at *
  generalize ((tickR (odd author) (cl r) : Nat) : Int) = tr at *
  generalize ((max (cl l) (cl l2) : Nat) : Int) = jl at *
  generalize ((max (cl r) (cl r2) : Nat) : Int) = jr at *
  generalize right l r = rt at *
  generalize ((cl l : Nat) : Int) = al at *
  generalize ((cl r : Nat) : Int) = ar at *
  clear la lb lc ld lt lu lj lk
  go_enter Try.func3, Try.ntmps3
  go_wp2_with fail
  refine (small_any _).mono ?_; rintro e w1 ⟨rfl, g⟩
  have G := Lib.hid (Fresh.trans (((Keeps.refl _ _).alloc _).alloc _) g)
  have h0 := Fresh.own g (new1 w _ _)
  have h1 := Fresh.own g (new2 w _ _)
  clear g
  obtain ⟨a0, a1, -, -⟩ := two_cells h0
  obtain ⟨b0, b1, -, -⟩ := two_cells h1
  go_wp2_with fail
  refine (O1.out _).mono ?_; rintro e w2 ⟨rfl, g⟩
  replace G := Lib.hid (G.out.trans g)
  replace h0 := Fresh.own g h0
  replace h1 := Fresh.own g h1
  clear g a0 a1 b0 b1
  obtain ⟨a0, a1, -, -⟩ := two_cells h0
  obtain ⟨b0, b1, -, -⟩ := two_cells h1
  go_wp2_with fail
  refine (O2.out _).mono ?_; rintro e w3 ⟨rfl, g⟩
  replace G := Lib.hid (G.out.trans g)
  replace h0 := Fresh.own g h0
  replace h1 := Fresh.own g h1
  clear g a0 a1 b0 b1
  obtain ⟨a0, a1, -, -⟩ := two_cells h0
  obtain ⟨b0, b1, -, -⟩ := two_cells h1
  go_wp2_with fail
  refine (T1.out _).mono ?_; rintro e w4 ⟨rfl, g⟩
  replace G := Lib.hid ((G.out.trans g).alloc (.cells #[.int .i64 tl, .int .i64 tr] 23))
  have k : Fresh w3 (w4.alloc (.cells #[.int .i64 tl, .int .i64 tr] 23)) := Keeps.alloc g _
  replace h0 := Fresh.own k h0
  replace h1 := Fresh.own k h1
  have h2 := heap_alloc_new w4 (.cells #[.int .i64 tl, .int .i64 tr] 23)
  clear g k a0 a1 b0 b1
  obtain ⟨a0, a1, -, -⟩ := two_cells h0
  obtain ⟨b0, b1, -, -⟩ := two_cells h1
  go_wp2_with fail
  refine (J1.out _).mono ?_; rintro e w5 ⟨rfl, g⟩
  replace G := Lib.hid ((Fresh.trans G.out g).alloc (.cells #[.int .i64 jl, .int .i64 jr] 23))
  have k := Keeps.alloc g (.cells #[.int .i64 jl, .int .i64 jr] 23)
  replace h0 := Fresh.own k h0
  replace h1 := Fresh.own k h1
  replace h2 := Fresh.own k h2
  have h3 := heap_alloc_new w5 (.cells #[.int .i64 jl, .int .i64 jr] 23)
  clear g k a0 a1 b0 b1
  obtain ⟨a0, a1, -, -⟩ := two_cells h0
  obtain ⟨b0, b1, -, -⟩ := two_cells h1
  obtain ⟨c0, c1, -, -⟩ := two_cells h2
  obtain ⟨d0, d1, -, -⟩ := two_cells h3
  clear h0 h1 h2 h3
  replace a0 := near_cell a0
  replace a1 := near_cell a1
  replace b0 := near_cell b0
  replace b1 := near_cell b1
  replace c0 := near_cell c0
  replace c1 := near_cell c1
  replace d0 := near_cell d0
  replace d1 := near_cell d1
  go_wp2_with fail
  refine region_near (by kernel_rfl) (by kernel_rfl) ?_
  repeat (go_big_quiet_step ((with_reducible first | exact near_fresh P1 _ | exact near_fresh F1 _ | exact near_fresh R1 _ | exact near_fresh R2 _ | exact near_fresh T2 _ | exact near_fresh P2 _ | exact near_fresh J2 _ | exact near_fresh P3 _)))
  refine wpQuiet_nil ?_
  rintro _ ⟨nu, rfl⟩
  replace G := Lib.hid (Fresh.trans G.out (near_keeps _ nu))
  replace a0 := near_cell (a0 nu)
  replace a1 := near_cell (a1 nu)
  replace b0 := near_cell (b0 nu)
  replace b1 := near_cell (b1 nu)
  replace c0 := near_cell (c0 nu)
  replace c1 := near_cell (c1 nu)
  replace d0 := near_cell (d0 nu)
  replace d1 := near_cell (d1 nu)
  go_wp2_with fail
  refine region_near (by kernel_rfl) (by kernel_rfl) ?_
  repeat (go_big_quiet_step ((with_reducible first | exact near_fresh U1 _ | exact near_fresh U2 _ | exact near_fresh M1 _ | exact near_fresh M2 _ | exact near_fresh T2 _ | exact near_fresh O3 _ | exact near_fresh J2 _ | exact near_fresh O4 _)))
  refine wpQuiet_nil ?_
  rintro _ ⟨nu, rfl⟩
  replace G := Lib.hid (Fresh.trans G.out (near_keeps _ nu))
  go_wp2_with fail
  go_ret
  exact ⟨rfl, G.out⟩
end Go.Proofs.Ytigloaabhcpcnaa
