/-
  The walk of 'ClockJoins': the call returns true and turns nothing that was there: for any slice of pairs.
-/
import Derived.Test.YtigloaabhcpcnaaTells
import Derived.Test.YtigloaabhcpcnaaRow
namespace Go.Proofs.Ytigloaabhcpcnaa
open Go.RowKit

/-- The greatest of the first k counts. -/
def most (g : Nat → Nat) : Nat → Nat
  | 0 => 0
  | k + 1 => max (most g k) (g k)
theorem most_le {g : Nat → Nat} {b : Nat} (h : ∀ j, g j ≤ b) : ∀ k, most g k ≤ b
  | 0 => Nat.zero_le _
  | k + 1 => Nat.max_le.2 ⟨most_le h k, h k⟩
theorem le_most {g : Nat → Nat} {j k : Nat} (h : j < k) : g j ≤ most g k := by
  induction k with
  | zero => omega
  | succ k ih =>
    unfold most
    by_cases e : j = k
    · subst e; exact Nat.le_max_right _ _
    · exact Nat.le_trans (ih (by omega)) (Nat.le_max_left _ _)

theorem run_min_int (n : Nat) (w : World) (ty : TypeId) : (Builtin.min_ #[3, 3] ty #[.int .i64 n, .int .i64 200]).run Try.prog w = .ok (.int .i64 ((min n 200 : Nat) : Int)) w := by
  simp [Builtin.min_, Builtin.min2]
  omega

theorem run_max_nat (m n : Nat) (w : World) (ty : TypeId) : (Builtin.max_ #[3, 3] ty #[.int .i64 m, .int .i64 n]).run Try.prog w = .ok (.int .i64 ((max m n : Nat) : Int)) w := by
  rw [run_max_int, emax]

set_option maxRecDepth 100000 in
set_option maxHeartbeats 4000000 in
theorem joins_walk (a : Option Addr) (len cap b off : Nat) (f : Nat → Int × Int) (w : World) (h : Pairs w a len cap b off f) :
    Calls Try.prog 9 #[.slice a len cap] w fun e w' => e = .returned (.bool true) ∧ Fresh w w' := by
  have H := Lib.hid h
  have hb := h.bound
  clear h
  have O := good_of 0 0 (x := W 0) (y := W 0) rfl rfl
  rw [W_zero] at O
  obtain ⟨gl, hgl⟩ : ∃ g : Nat → Nat, g = fun j => cl (f j).1 := ⟨_, rfl⟩
  obtain ⟨gr, hgr⟩ : ∃ g : Nat → Nat, g = fun j => cl (f j).2 := ⟨_, rfl⟩
  have L1 : Hid (∀ j, gl j ≤ 1073741824) := Lib.hid (fun j => by rw [hgl]; exact cl_le _)
  have L2 : Hid (∀ j, gr j ≤ 1073741824) := Lib.hid (fun j => by rw [hgr]; exact cl_le _)
  have C1 : Hid (∀ j, cl (f j).1 = gl j) := Lib.hid (fun j => by rw [hgl])
  have C2 : Hid (∀ j, cl (f j).2 = gr j) := Lib.hid (fun j => by rw [hgr])
  clear hgl hgr
  have M := run_min_int len
  obtain ⟨N, hN⟩ : ∃ N, N = min len 200 := ⟨_, rfl⟩
  rw [← hN] at M
  have hN1 : N ≤ len := by omega
  have hN2 : N ≤ 200 := by omega
  clear hN
  go_enter Try.func9, Try.ntmps9
  go_wp2_with fail
  refine (small_any _).mono ?_; rintro e w1 ⟨rfl, g⟩
  have G := Lib.hid g
  clear g
  go_wp2_with fail
  refine (O.out _).mono ?_; rintro e w2 ⟨rfl, g⟩
  replace G := Lib.hid (Fresh.trans G.out g)
  clear g
  go_wp2_with fail
  go_loopw [4, 6] (fun c i wr => ∃ k : Nat, k ≤ N ∧ i = .int .i64 k ∧ c = .complex .f64 (W (most gl k)) (W (most gr k)) ∧ Fresh w wr) (fun _ i _ => N - (intOf i).toNat)
  case atStart => exact ⟨0, Nat.zero_le _, rfl, by rw [← W_zero]; rfl, G.out⟩
  case round =>
    obtain ⟨k, hk, rfl, rfl, hG⟩ := hrel
    replace G := Lib.hid hG
    clear hG
    have ll := most_le L1.out
    have lr := most_le L2.out
    by_cases hlt : k < N
    · have hx : ∀ W, (Instr.indexAt 47 (.slice a len cap) (.int .i64 k)).run Try.prog W = .ok (.pointer (some ⟨b, off + k * 2, none⟩)) W := fun W => H.out.index W k (by omega)
      have hc : wr.cell? ⟨b, off + k * 2, none⟩ = some (.int .i64 (f k).1) := (H.out.kept G.out).fst k (by omega)
      have hd : wr.cell? ⟨b, off + k * 2 + 1, none⟩ = some (.int .i64 (f k).2) := (H.out.kept G.out).snd k (by omega)
      have O1 := good_of (f k).1 (f k).2 (congrArg W (C1.out k).symm) (congrArg W (C2.out k).symm)
      have J := good_join (ll k) (lr k) (L1.out k) (L2.out k) rfl rfl rfl rfl (p := W (most gl (k + 1))) (q := W (most gr (k + 1))) rfl rfl
      generalize (f k).1 = fl at *
      generalize (f k).2 = fr at *
      generalize W (gl k) = x1 at *
      generalize W (gr k) = y1 at *
      generalize W (most gl k) = x2 at *
      generalize W (most gr k) = y2 at *
      obtain ⟨x3, hx3⟩ : ∃ x, x = W (most gl (k + 1)) := ⟨_, rfl⟩
      obtain ⟨y3, hy3⟩ : ∃ x, x = W (most gr (k + 1)) := ⟨_, rfl⟩
      rw [← hx3, ← hy3] at J
      have HX := Lib.hid hx3
      have HY := Lib.hid hy3
      clear hx3 hy3 ll lr
      go_wp2_with fail
      refine (O1.out _).mono ?_; rintro e w3 ⟨rfl, g⟩
      replace G := Lib.hid (Fresh.trans G.out g)
      clear g hc hd
      go_wp2_with fail
      refine (J.out _).mono ?_; rintro e w4 ⟨rfl, g⟩
      replace G := Lib.hid (Fresh.trans G.out g)
      clear g
      go_wp2_with fail
      go_roundw
      case rel => exact ⟨k + 1, by omega, by go_num, by rw [HX.out, HY.out], G.out⟩
      case measure => simp [intOf]; omega
    · have hkN : k = N := by omega
      subst hkN
      clear hlt hk
      go_wp2_with fail
      go_loopw [7, 8, 9] (fun l r i wr => ∃ j : Nat, j ≤ k ∧ i = .int .i64 j ∧ l = .int .i64 (most gl j : Nat) ∧ r = .int .i64 (most gr j : Nat) ∧ Fresh w wr) (fun _ _ i _ => k - (intOf i).toNat)
      case atStart => exact ⟨0, Nat.zero_le _, rfl, rfl, rfl, G.out⟩
      case round =>
        obtain ⟨j, hj, rfl, rfl, rfl, hG⟩ := hrel
        replace G := Lib.hid hG
        clear hG
        by_cases hlt : j < k
        · have hx : ∀ W, (Instr.indexAt 47 (.slice a len cap) (.int .i64 j)).run Try.prog W = .ok (.pointer (some ⟨b, off + j * 2, none⟩)) W := fun W => H.out.index W j (by omega)
          have hc : wr.cell? ⟨b, off + j * 2, none⟩ = some (.int .i64 (f j).1) := (H.out.kept G.out).fst j (by omega)
          have hd : wr.cell? ⟨b, off + j * 2 + 1, none⟩ = some (.int .i64 (f j).2) := (H.out.kept G.out).snd j (by omega)
          have X1 := run_max_nat (most gl j) (gl j)
          have X2 := run_max_nat (most gr j) (gr j)
          have O1 := good_of (f j).1 (f j).2 (congrArg W (C1.out j).symm) (congrArg W (C2.out j).symm)
          have P := good_pair (L1.out j) (L2.out j) rfl rfl
          obtain ⟨-, -, v2, v3⟩ := ordr_vals (gl j) (gr j) (most gl k) (most gr k)
          have q1 := le_most (g := gl) hlt
          have q2 := le_most (g := gr) hlt
          have D := good_order (L1.out j) (L2.out j) (ll k) (lr k) rfl rfl rfl rfl (ordr (gl j) (gr j) (most gl k) (most gr k)) rfl
          obtain ⟨o, ho⟩ : ∃ o, o = ordr (gl j) (gr j) (most gl k) (most gr k) := ⟨_, rfl⟩
          rw [← ho] at v2 v3 D
          rw [decide_eq_false (by omega)] at v2 v3
          clear q1 q2 ho ll lr
          generalize W (gl j) = x1 at *
          generalize W (gr j) = y1 at *
          generalize W (most gl k) = x2 at *
          generalize W (most gr k) = y2 at *
          obtain ⟨al, hal⟩ : ∃ x, x = most gl (j + 1) := ⟨_, rfl⟩
          obtain ⟨ar, har⟩ : ∃ x, x = most gr (j + 1) := ⟨_, rfl⟩
          rw [show max (most gl j) (gl j) = al by rw [hal]; rfl] at X1
          rw [show max (most gr j) (gr j) = ar by rw [har]; rfl] at X2
          have HL := Lib.hid hal
          have HR := Lib.hid har
          clear hal har
          generalize most gl j = ml at *
          generalize most gr j = mr at *
          generalize gl j = pl at *
          generalize gr j = pr at *
          go_wp2_with fail
          refine (O1.out _).mono ?_; rintro e w3 ⟨rfl, g⟩
          replace G := Lib.hid (Fresh.trans G.out g)
          clear g
          go_wp2_with fail
          refine (P.out _).mono ?_; rintro e w4 ⟨rfl, g⟩
          replace G := Lib.hid ((Fresh.trans G.out g).alloc (.cells #[.int .i64 pl, .int .i64 pr] 23))
          obtain ⟨c0, c1, -, -⟩ := two_cells (heap_alloc_new w4 (.cells #[.int .i64 pl, .int .i64 pr] 23))
          clear g hc hd
          have hc := (H.out.kept G.out).fst j (by omega)
          have hd := (H.out.kept G.out).snd j (by omega)
          go_wp2_with fail
          refine (O1.out _).mono ?_; rintro e w5 ⟨rfl, g⟩
          replace G := Lib.hid (Fresh.trans G.out g)
          clear g hc hd c0 c1
          go_wp2_with fail
          refine (D.out _).mono ?_; rintro e w6 ⟨rfl, g⟩
          replace G := Lib.hid (Fresh.trans G.out g)
          clear g
          go_wp2_with fail
          go_roundw
          case rel => exact ⟨j + 1, by omega, by go_num, by rw [HL.out], by rw [HR.out], G.out⟩
          case measure => simp [intOf]; omega
        · have hjk : j = k := by omega
          subst hjk
          clear hlt hj
          have P := good_pair (ll j) (lr j) rfl rfl
          generalize W (most gl j) = x1 at *
          generalize W (most gr j) = y1 at *
          generalize most gl j = ml at *
          generalize most gr j = mr at *
          clear ll lr
          go_wp2_with fail
          refine (P.out _).mono ?_; rintro e w3 ⟨rfl, g⟩
          replace G := Lib.hid (Fresh.trans G.out g)
          clear g
          go_wp2_with fail
          go_ret
          exact ⟨rfl, G.out⟩
end Go.Proofs.Ytigloaabhcpcnaa
