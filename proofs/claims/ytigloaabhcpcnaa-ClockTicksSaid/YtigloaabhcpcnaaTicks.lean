/-
  The walk of 'ClockTicks': the call returns true and turns nothing that was there: for any pair, any author, any number of ticks.
-/
import Derived.Test.YtigloaabhcpcnaaGood
namespace Go.Proofs.Ytigloaabhcpcnaa
open Go.RowKit

theorem bits_one (x : Int) : bits .and .i64 x 1 = x % 2 := by
  have h : (BitVec.ofInt 64 x &&& BitVec.ofInt 64 1).toNat = (x % 18446744073709551616).toNat % 2 := by
    rw [BitVec.toNat_and, BitVec.toNat_ofInt, BitVec.toNat_ofInt]
    have e : ((1 : Int) % ((2 ^ 64 : Nat) : Int)).toNat = 1 := by decide
    rw [e, Nat.and_one_is_mod]; rfl
  show IntKind.i64.wrap _ = _
  rw [show (IntKind.i64.bits) = 64 from rfl]
  simp only [h]
  rw [IntKind.wrap_i64]
  omega
theorem odd_eq (x : Int) : odd x = decide (x % 2 = 1) := by
  unfold odd; rw [bits_one, Bool.eq_iff_iff]; simp
theorem odd_next (x : Int) : odd (wrap64 (x + 1)) = !odd x := by
  rw [odd_eq, odd_eq, Bool.eq_iff_iff]
  unfold wrap64
  simp; omega

theorem ordr_up (a b : Nat) (o : Bool) : ordr (if o then a else a + 1) (if o then b + 1 else b) a b = 2 ∧ ordr a b (if o then a else a + 1) (if o then b + 1 else b) = 1 := by
  rw [rordr_eq, rordr_eq]
  cases o <;> unfold rordr <;> constructor <;> (repeat' split) <;> first | rfl | (exfalso; simp at *; done) | (exfalso; simp at *; omega)

/-- The counts behind k ticks. -/
def upL (o : Bool) (a k : Nat) : Nat := if o then a else a + k
def upR (o : Bool) (b k : Nat) : Nat := if o then b + k else b
theorem upL_succ (o : Bool) (a k : Nat) (h : a ≤ 1073741774) (hk : k < 50) : tickL o (upL o a k) = upL o a (k + 1) ∧ upL o a (k + 1) = (if o then upL o a k else upL o a k + 1) := by
  cases o <;> simp [upL, tickL, mn] <;> omega
theorem upR_succ (o : Bool) (a k : Nat) (h : a ≤ 1073741774) (hk : k < 50) : tickR o (upR o a k) = upR o a (k + 1) ∧ upR o a (k + 1) = (if o then upR o a k + 1 else upR o a k) := by
  cases o <;> simp [upR, tickR, mn] <;> omega
theorem up_le (o : Bool) (a k : Nat) (h : a ≤ 1073741774) (hk : k ≤ 50) : upL o a k ≤ 1073741824 ∧ upR o a k ≤ 1073741824 := by
  cases o <;> simp [upL, upR] <;> omega

set_option maxRecDepth 100000 in
set_option maxHeartbeats 4000000 in
theorem ticks_walk (l r author n : Int) (w : World) :
    Calls Try.prog 6 #[.agg #[.int .i64 l, .int .i64 r], .int .i64 author, .int .i64 n] w fun e w' => e = .returned (.bool true) ∧ Fresh w w' := by
  have R := Lib.hid (right_any l r)
  obtain ⟨rt, hrt⟩ : ∃ t, t = right l r := ⟨_, rfl⟩
  rw [← hrt] at R
  have HR := Lib.hid hrt
  clear hrt
  obtain ⟨x0, hx0⟩ : ∃ x, x = W (cl l) := ⟨_, rfl⟩
  obtain ⟨y0, hy0⟩ : ∃ x, x = W (cl r) := ⟨_, rfl⟩
  have Hc := good_of l r hx0 hy0
  have HX := Lib.hid hx0
  have HY := Lib.hid hy0
  clear hx0 hy0
  go_enter Try.func6, Try.ntmps6
  go_wp2_with fail
  refine (small_any _).mono ?_; rintro e w1 ⟨rfl, g⟩
  have G := Lib.hid (Fresh.trans ((Keeps.refl _ _).alloc _) g)
  have h0 := Fresh.own g (heap_alloc_new w _)
  clear g
  obtain ⟨a0, a1, -, -⟩ := two_cells h0
  go_wp2_with fail
  refine (R.out _).mono ?_; rintro e w2 ⟨rfl, g⟩
  replace G := Lib.hid (G.out.trans g)
  replace h0 := Fresh.own g h0
  clear g a0 a1
  obtain ⟨a0, a1, -, -⟩ := two_cells h0
  have H0 := Lib.hid h0
  clear h0
  cases rt with
  | false =>
    go_wp2_with fail
    go_ret
    exact ⟨rfl, G.out⟩
  | true =>
    by_cases c1 : n < 0
    · go_wp2_with fail
      go_ret
      exact ⟨rfl, G.out⟩
    by_cases c2 : 50 < n
    · go_wp2_with fail
      go_ret
      exact ⟨rfl, G.out⟩
    by_cases c3 : 1073741774 < l
    · go_wp2_with fail
      go_ret
      exact ⟨rfl, G.out⟩
    by_cases c4 : 1073741774 < r
    · go_wp2_with fail
      go_ret
      exact ⟨rfl, G.out⟩
    have hl : 0 ≤ l ∧ 0 ≤ r := by
      have := HR.out
      unfold right at this
      have := of_decide_eq_true this.symm
      exact ⟨this.1, this.2.1⟩
    go_wp2_with fail
    refine (Hc.out _).mono ?_; rintro e w3 ⟨rfl, g⟩
    replace G := Lib.hid (G.out.trans g)
    clear g a0 a1
    obtain ⟨a, ha⟩ : ∃ a : Nat, a = cl l := ⟨_, rfl⟩
    obtain ⟨b, hb⟩ : ∃ b : Nat, b = cl r := ⟨_, rfl⟩
    have la : a ≤ 1073741774 := by rw [ha]; unfold cl; omega
    have lb : b ≤ 1073741774 := by rw [hb]; unfold cl; omega
    rw [← ha] at HX
    rw [← hb] at HY
    obtain ⟨m, hm⟩ : ∃ m : Nat, n = (m : Int) := ⟨n.toNat, by omega⟩
    subst hm
    have hm50 : m ≤ 50 := by omega
    obtain ⟨o, ho⟩ : ∃ o, o = odd author := ⟨_, rfl⟩
    have HO := Lib.hid ho
    clear ha hb c1 c2 c3 c4 hl ho
    go_wp2_with fail
    go_loopw [9, 10] (fun d i wr => ∃ k : Nat, k ≤ m ∧ i = .int .i64 k ∧ d = .complex .f64 (W (upL o a k)) (W (upR o b k)) ∧ Fresh w wr) (fun _ i _ => m - (intOf i).toNat)
    case atStart => exact ⟨0, Nat.zero_le _, rfl, by rw [HX.out, HY.out]; cases o <;> rfl, G.out⟩
    case round =>
      obtain ⟨k, hk, rfl, rfl, hG⟩ := hrel
      have G1 := Lib.hid hG
      clear hG
      obtain ⟨la1, -⟩ := up_le o a k la (by omega)
      obtain ⟨-, lb1⟩ := up_le o b k lb (by omega)
      by_cases hlt : k < m
      · obtain ⟨la2, -⟩ := up_le o a (k + 1) la (by omega)
        obtain ⟨-, lb2⟩ := up_le o b (k + 1) lb (by omega)
        obtain ⟨e1, e2⟩ := upL_succ o a k la (by omega)
        obtain ⟨e3, e4⟩ := upR_succ o b k lb (by omega)
        have T := good_tick la1 lb1 rfl rfl author rfl rfl
        rw [← HO.out, e1, e3] at T
        have ou := ordr_up (upL o a k) (upR o b k) o
        rw [← e2, ← e4] at ou
        have O1 := good_order la2 lb2 la1 lb1 rfl rfl rfl rfl 2 ou.1
        have O2 := good_order la1 lb1 la2 lb2 rfl rfl rfl rfl 1 ou.2
        clear ou e1 e2 e3 e4
        obtain ⟨x1, hx1⟩ : ∃ x, x = W (upL o a k) := ⟨_, rfl⟩
        obtain ⟨y1, hy1⟩ : ∃ x, x = W (upR o b k) := ⟨_, rfl⟩
        obtain ⟨x2, hx2⟩ : ∃ x, x = W (upL o a (k + 1)) := ⟨_, rfl⟩
        obtain ⟨y2, hy2⟩ : ∃ x, x = W (upR o b (k + 1)) := ⟨_, rfl⟩
        rw [← hx1, ← hy1, ← hx2, ← hy2] at T O1 O2
        rw [← hx1, ← hy1]
        have HX2 := Lib.hid hx2
        have HY2 := Lib.hid hy2
        clear hx1 hy1 hx2 hy2 la1 lb1 la2 lb2
        go_wp2_with fail
        refine (T.out _).mono ?_; rintro e w4 ⟨rfl, g⟩
        replace G1 := Lib.hid (G1.out.trans g); clear g
        go_wp2_with fail
        refine (O1.out _).mono ?_; rintro e w5 ⟨rfl, g⟩
        replace G1 := Lib.hid (G1.out.trans g); clear g
        go_wp2_with fail
        refine (O2.out _).mono ?_; rintro e w6 ⟨rfl, g⟩
        replace G1 := Lib.hid (G1.out.trans g); clear g
        go_wp2_with fail
        go_roundw
        case rel => exact ⟨k + 1, by omega, by go_num, by rw [HX2.out, HY2.out], G1.out⟩
        case measure => simp [intOf]; omega
      · obtain rfl : k = m := by omega
        have e0 : a ≤ 1073741824 := by omega
        have e1 : b ≤ 1073741824 := by omega
        have M1 := good_mine la1 lb1 rfl rfl author (if o then (b : Int) + k else (a : Int) + k) (by rw [← HO.out]; cases o <;> simp [upL, upR])
        have M2 := good_mine e0 e1 HX.out HY.out author (if o then (b : Int) else a) (by rw [← HO.out])
        have M3 := good_mine la1 lb1 rfl rfl (wrap64 (author + 1)) (if o then (a : Int) else b) (by rw [odd_next, ← HO.out]; cases o <;> simp [upL, upR])
        have M4 := good_mine e0 e1 HX.out HY.out (wrap64 (author + 1)) (if o then (a : Int) else b) (by rw [odd_next, ← HO.out]; cases o <;> simp)
        have J := good_join e0 e1 la1 lb1 HX.out HY.out rfl rfl (p := W (upL o a k)) (q := W (upR o b k)) (by congr 1; cases o <;> simp [upL]) (by congr 1; cases o <;> simp [upR])
        have S1 := good_same la1 rfl
        have S2 := good_same lb1 rfl
        obtain ⟨x1, hx1⟩ : ∃ x, x = W (upL o a k) := ⟨_, rfl⟩
        obtain ⟨y1, hy1⟩ : ∃ x, x = W (upR o b k) := ⟨_, rfl⟩
        rw [← hx1, ← hy1] at M1 M3 J
        rw [← hx1] at S1
        rw [← hy1] at S2
        rw [← hx1, ← hy1]
        obtain ⟨u, hu⟩ : ∃ u : Int, u = (if o then (a : Int) else b) := ⟨_, rfl⟩
        rw [← hu] at M3 M4
        obtain ⟨v, hv, hv1, hv2⟩ : ∃ v : Nat, (if o then (b : Int) else a) = (v : Int) ∧ (if o then (b : Int) + k else (a : Int) + k) = (v : Int) + k ∧ v ≤ 1073741824 := by
          cases o
          · exact ⟨a, rfl, rfl, e0⟩
          · exact ⟨b, rfl, rfl, e1⟩
        rw [hv1] at M1
        rw [hv] at M2
        clear hx1 hy1 la1 lb1 e0 e1 hv hv1 hu hk hlt
        go_wp2_with fail
        refine (M1.out _).mono ?_; rintro e w4 ⟨rfl, g⟩
        replace G1 := Lib.hid (G1.out.trans g); clear g
        go_wp2_with fail
        refine (M2.out _).mono ?_; rintro e w5 ⟨rfl, g⟩
        replace G1 := Lib.hid (G1.out.trans g); clear g
        go_wp2_with fail
        refine (M3.out _).mono ?_; rintro e w6 ⟨rfl, g⟩
        replace G1 := Lib.hid (G1.out.trans g); clear g
        go_wp2_with fail
        refine (M4.out _).mono ?_; rintro e w7 ⟨rfl, g⟩
        replace G1 := Lib.hid (G1.out.trans g); clear g
        go_wp2_with fail
        refine (J.out _).mono ?_; rintro e w8 ⟨rfl, g⟩
        replace G1 := Lib.hid (G1.out.trans g); clear g
        go_wp2_with fail
        go_ret
        exact ⟨rfl, G1.out⟩
end Go.Proofs.Ytigloaabhcpcnaa
