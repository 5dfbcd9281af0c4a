/-
  The walk of 'ClockCounts': the call returns true and turns nothing that was there: for any slice of bools.
-/
import Derived.Test.YtigloaabhcpcnaaTells
import Derived.Test.YtigloaabhcpcnaaRow
namespace Go.Proofs.Ytigloaabhcpcnaa
open Go.RowKit

theorem tick_one (m n : Nat) (hn : n < 1073741824) : W m = W (tickL (odd 1) m) ∧ W (n + 1) = W (tickR (odd 1) n) := by
  rw [show odd 1 = true by decide]
  refine ⟨rfl, ?_⟩
  congr 1; simp [tickR, mn]; omega
theorem tick_nil (m n : Nat) (hm : m < 1073741824) : W (m + 1) = W (tickL (odd 0) m) ∧ W n = W (tickR (odd 0) n) := by
  rw [show odd 0 = false by decide]
  refine ⟨?_, rfl⟩
  congr 1; simp [tickL, mn]; omega

set_option maxRecDepth 100000 in
set_option maxHeartbeats 4000000 in
theorem counts_walk (a : Option Addr) (len cap b off : Nat) (f : Nat → Bool) (w : World) (h : Bools w a len cap b off f) :
    Calls Try.prog 7 #[.slice a len cap] w fun e w' => e = .returned (.bool true) ∧ Fresh w w' := by
  have H := Lib.hid h
  have hb := h.bound
  clear h
  have O := good_of 0 0 (x := W 0) (y := W 0) rfl rfl
  rw [W_zero] at O
  go_enter Try.func7, Try.ntmps7
  go_wp2_with fail
  refine (small_any _).mono ?_; rintro e w1 ⟨rfl, g⟩
  have G := Lib.hid g
  clear g
  go_wp2_with fail
  refine (O.out _).mono ?_; rintro e w2 ⟨rfl, g⟩
  have S := Lib.hid (Fresh.trans G.out g).size
  replace G := Lib.hid ((Fresh.trans G.out g).alloc (.cells #[.int .i64 0, .int .i64 0] 23))
  clear g
  have B := Lib.hid (heap_alloc_new w2 (.cells #[.int .i64 0, .int .i64 0] 23))
  go_wp2_with fail
  go_loopw [4, 6] (fun c i wr => ∃ k m n : Nat, k ≤ len ∧ k ≤ 500 ∧ m + n = k ∧ i = .int .i64 k ∧ c = .complex .f64 (W m) (W n) ∧ Fresh w wr ∧ wr.heap[w2.heap.size]? = some (.cells #[.int .i64 m, .int .i64 n] 23)) (fun _ i _ => len - (intOf i).toNat)
  case atStart => exact ⟨0, 0, 0, Nat.zero_le _, Nat.zero_le _, rfl, rfl, by rw [W_zero], G.out, B.out⟩
  case round =>
    obtain ⟨k, m, n, hk, hk5, hmn, rfl, rfl, hG, hB⟩ := hrel
    have m30 : m ≤ 1073741824 := by omega
    have n30 : n ≤ 1073741824 := by omega
    replace G := Lib.hid hG
    replace B := Lib.hid hB
    obtain ⟨c0, c1, d0, d1⟩ := two_cells hB
    clear hG hB
    by_cases hlt : k < len ∧ k < 500
    · obtain ⟨h1, h2⟩ := hlt
      have hx : ∀ W, (Instr.indexAt 44 (.slice a len cap) (.int .i64 k)).run Try.prog W = .ok (.pointer (some ⟨b, off + k, none⟩)) W := fun W => H.out.index W k h1
      have hc : wr.cell? ⟨b, off + k, none⟩ = some (.bool (f k)) := (H.out.kept G.out).cell k h1
      obtain ⟨t, ht⟩ : ∃ t, t = f k := ⟨_, rfl⟩
      rw [← ht] at hc
      clear ht
      cases t with
      | true =>
        have T := good_tick m30 n30 rfl rfl 1 (tick_one m n (by omega)).1 (tick_one m n (by omega)).2
        obtain ⟨x1, hx1⟩ : ∃ x, x = W m := ⟨_, rfl⟩
        obtain ⟨y1, hy1⟩ : ∃ x, x = W n := ⟨_, rfl⟩
        obtain ⟨y2, hy2⟩ : ∃ x, x = W (n + 1) := ⟨_, rfl⟩
        rw [← hx1, ← hy1, ← hy2] at T
        rw [← hx1, ← hy1]
        have HX := Lib.hid hx1
        have HY := Lib.hid hy2
        clear hx1 hy1 hy2 m30 n30
        go_wp2_with fail
        refine (T.out _).mono ?_; rintro e w3 ⟨rfl, g⟩
        replace G := Lib.hid (Fresh.trans G.out g)
        replace B := Fresh.own g B.out
        obtain ⟨c0, c1, d0, d1⟩ := two_cells B
        have B' := Lib.hid B
        clear g B
        go_wp2_with fail
        go_roundw
        case rel => exact ⟨k + 1, m, n + 1, by omega, by omega, by omega, by go_num, by rw [HX.out, HY.out], fresh_set G.out S.out _, put_snd B'.out⟩
        case measure => simp [intOf]; omega
      | false =>
        have T := good_tick m30 n30 rfl rfl 0 (tick_nil m n (by omega)).1 (tick_nil m n (by omega)).2
        obtain ⟨x1, hx1⟩ : ∃ x, x = W m := ⟨_, rfl⟩
        obtain ⟨y1, hy1⟩ : ∃ x, x = W n := ⟨_, rfl⟩
        obtain ⟨x2, hx2⟩ : ∃ x, x = W (m + 1) := ⟨_, rfl⟩
        rw [← hx1, ← hy1, ← hx2] at T
        rw [← hx1, ← hy1]
        have HX := Lib.hid hx2
        have HY := Lib.hid hy1
        clear hx1 hy1 hx2 m30 n30
        go_wp2_with fail
        refine (T.out _).mono ?_; rintro e w3 ⟨rfl, g⟩
        replace G := Lib.hid (Fresh.trans G.out g)
        replace B := Fresh.own g B.out
        obtain ⟨c0, c1, d0, d1⟩ := two_cells B
        have B' := Lib.hid B
        clear g B
        go_wp2_with fail
        go_roundw
        case rel => exact ⟨k + 1, m + 1, n, by omega, by omega, by omega, by go_num, by rw [HX.out, HY.out], fresh_set G.out S.out _, put_fst B'.out⟩
        case measure => simp [intOf]; omega
    · have P := good_pair m30 n30 rfl rfl
      have O2 := good_of m n (congrArg W (cl_nat m30).symm) (congrArg W (cl_nat n30).symm)
      have S1 := good_same m30 rfl
      have S2 := good_same n30 rfl
      generalize W m = x at *
      generalize W n = y at *
      clear m30 n30
      replace c0 := near_cell c0
      replace c1 := near_cell c1
      have out : ∀ nu : World, Fresh w (near wr nu) := fun nu => Fresh.trans G.out (near_keeps _ nu)
      have OUT := Lib.hid out
      clear out
      by_cases h1 : k < len
      · have h2 : ¬ k < 500 := fun h => hlt ⟨h1, h⟩
        clear hlt
        go_wp2_with fail
        refine region_near (by kernel_rfl) (by kernel_rfl) ?_
        repeat (go_big_quiet_step ((with_reducible first | exact near_fresh P _ | exact near_fresh O2 _)))
        refine wpQuiet_nil ?_
        rintro _ ⟨nu, rfl⟩
        go_wp2_with fail
        go_ret
        exact ⟨rfl, OUT.out nu⟩
      · clear hlt
        go_wp2_with fail
        refine region_near (by kernel_rfl) (by kernel_rfl) ?_
        repeat (go_big_quiet_step ((with_reducible first | exact near_fresh P _ | exact near_fresh O2 _)))
        refine wpQuiet_nil ?_
        rintro _ ⟨nu, rfl⟩
        go_wp2_with fail
        go_ret
        exact ⟨rfl, OUT.out nu⟩
end Go.Proofs.Ytigloaabhcpcnaa
