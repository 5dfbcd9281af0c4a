/-
  The walk of 'ClockTurned': the call returns true and turns nothing that was there: for any two pairs.
-/
import Derived.Test.YtigloaabhcpcnaaGood
namespace Go.Proofs.Ytigloaabhcpcnaa
open Go.RowKit

theorem ordr_turn (a b c d : Nat) : ordr b a d c = ordr a b c d := by
  rw [rordr_eq, rordr_eq]; unfold rordr
  repeat' split
  all_goals first | rfl | (exfalso; omega)

set_option maxRecDepth 100000 in
set_option maxHeartbeats 2000000 in
theorem turned_walk (l1 r1 l2 r2 : Int) (w : World) :
    Calls Try.prog 8 #[.agg #[.int .i64 l1, .int .i64 r1], .agg #[.int .i64 l2, .int .i64 r2]] w fun e w' => e = .returned (.bool true) ∧ Fresh w w' := by
  have la := cl_le l1; have lb := cl_le r1; have lc := cl_le l2; have ld := cl_le r2
  obtain ⟨x1, hx1⟩ : ∃ x, x = W (cl l1) := ⟨_, rfl⟩
  obtain ⟨y1, hy1⟩ : ∃ x, x = W (cl r1) := ⟨_, rfl⟩
  obtain ⟨x2, hx2⟩ : ∃ x, x = W (cl l2) := ⟨_, rfl⟩
  obtain ⟨y2, hy2⟩ : ∃ x, x = W (cl r2) := ⟨_, rfl⟩
  have Hc := good_of l1 r1 hx1 hy1
  have Hd := good_of l2 r2 hx2 hy2
  have Hx := good_of r1 l1 hy1 hx1
  have Hy := good_of r2 l2 hy2 hx2
  generalize cl l1 = a at *
  generalize cl r1 = b at *
  generalize cl l2 = c at *
  generalize cl r2 = d at *
  have hm1 : max a c ≤ 1073741824 := by omega
  have hm2 : max b d ≤ 1073741824 := by omega
  obtain ⟨x3, hx3⟩ : ∃ x, x = W (max a c) := ⟨_, rfl⟩
  obtain ⟨y3, hy3⟩ : ∃ x, x = W (max b d) := ⟨_, rfl⟩
  have Hj := good_join la lb lc ld hx1 hy1 hx2 hy2 hx3 hy3
  have Hk := good_join lb la ld lc hy1 hx1 hy2 hx2 hy3 hx3
  have Pj := good_pair hm1 hm2 hx3 hy3
  have Pk := good_pair hm2 hm1 hy3 hx3
  generalize max a c = m at *
  generalize max b d = n at *
  obtain ⟨o, ho⟩ : ∃ o, o = ordr a b c d := ⟨_, rfl⟩
  have O1 := good_order la lb lc ld hx1 hy1 hx2 hy2 o ho.symm
  have O2 := good_order lb la ld lc hy1 hx1 hy2 hx2 o (by rw [ordr_turn]; exact ho.symm)
  have M1 := good_mine la lb hx1 hy1 0 a (by rfl)
  have M2 := good_mine lb la hy1 hx1 1 a (by rfl)
  clear la lb lc ld hx1 hy1 hx2 hy2 hx3 hy3 hm1 hm2 ho
  go_enter Try.func8, Try.ntmps8
  go_wp2_with fail
  refine (small_any _).mono ?_; rintro e w1 ⟨rfl, g⟩
  have G := Lib.hid (Fresh.trans (((Keeps.refl _ _).alloc _).alloc _) g)
  have h0 := Fresh.own g (new1 w _ _)
  have h1 := Fresh.own g (new2 w _ _)
  clear g
  obtain ⟨a0, a1, -, -⟩ := two_cells h0
  go_wp2_with fail
  refine (Hc.out _).mono ?_; rintro e w2 ⟨rfl, g⟩
  replace G := Lib.hid (G.out.trans g)
  replace h0 := Fresh.own g h0
  replace h1 := Fresh.own g h1
  clear g a0 a1
  obtain ⟨a0, a1, -, -⟩ := two_cells h1
  go_wp2_with fail
  refine (Hd.out _).mono ?_; rintro e w3 ⟨rfl, g⟩
  replace G := Lib.hid (G.out.trans g)
  replace h0 := Fresh.own g h0
  replace h1 := Fresh.own g h1
  clear g a0 a1
  obtain ⟨a0, a1, -, -⟩ := two_cells h0
  go_wp2_with fail
  refine (Hx.out _).mono ?_; rintro e w4 ⟨rfl, g⟩
  replace G := Lib.hid (G.out.trans g)
  replace h1 := Fresh.own g h1
  clear g a0 a1 h0
  obtain ⟨a0, a1, -, -⟩ := two_cells h1
  go_wp2_with fail
  refine (Hy.out _).mono ?_; rintro e w5 ⟨rfl, g⟩
  replace G := Lib.hid (G.out.trans g)
  clear g a0 a1 h1
  go_wp2_with fail
  refine (Hj.out _).mono ?_; rintro e w6 ⟨rfl, g⟩
  replace G := Lib.hid (G.out.trans g); clear g
  go_wp2_with fail
  refine (Pj.out _).mono ?_; rintro e w7 ⟨rfl, g⟩
  replace G := Lib.hid (G.out.trans g); clear g
  go_wp2_with fail
  refine (Hk.out _).mono ?_; rintro e w8 ⟨rfl, g⟩
  have h0 := Fresh.own g (heap_alloc_new w7 _)
  obtain ⟨b8, hb8⟩ : ∃ b, b = w7.heap.size := ⟨_, rfl⟩
  rw [← hb8] at h0 ⊢
  replace G := Lib.hid (Fresh.trans (Keeps.alloc G.out _) g); clear g hb8
  go_wp2_with fail
  refine (Pk.out _).mono ?_; rintro e w9 ⟨rfl, g⟩
  replace h0 := Fresh.own g h0
  replace G := Lib.hid (G.out.trans g); clear g
  go_wp2_with fail
  refine (O1.out _).mono ?_; rintro e wa ⟨rfl, g⟩
  replace h0 := Fresh.own (Fresh.trans ((Keeps.refl _ _).alloc _) g) h0
  have h1 := Fresh.own g (heap_alloc_new w9 _)
  obtain ⟨b9, hb9⟩ : ∃ b, b = w9.heap.size := ⟨_, rfl⟩
  rw [← hb9] at h1 ⊢
  replace G := Lib.hid (Fresh.trans (Keeps.alloc G.out _) g); clear g hb9
  go_wp2_with fail
  refine (O2.out _).mono ?_; rintro e wb ⟨rfl, g⟩
  replace h0 := Fresh.own g h0
  replace h1 := Fresh.own g h1
  replace G := Lib.hid (G.out.trans g); clear g
  obtain ⟨a0, a1, -, -⟩ := two_cells h0
  obtain ⟨a2, a3, -, -⟩ := two_cells h1
  go_wp2_with fail
  refine (M1.out _).mono ?_; rintro e wc ⟨rfl, g⟩
  replace G := Lib.hid (G.out.trans g); clear g
  go_wp2_with fail
  refine (M2.out _).mono ?_; rintro e wd ⟨rfl, g⟩
  replace G := Lib.hid (G.out.trans g); clear g
  go_wp2_with fail
  go_ret
  exact ⟨rfl, G.out⟩
end Go.Proofs.Ytigloaabhcpcnaa
