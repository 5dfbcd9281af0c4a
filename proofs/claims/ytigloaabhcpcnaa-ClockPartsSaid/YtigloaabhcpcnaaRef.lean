/- The reference operations behind the laws, each as its contract. -/
import Derived.Test.YtigloaabhcpcnaaOps2
import Derived.StillTailTactics
namespace Go.Proofs.Ytigloaabhcpcnaa
open Go.RowKit

set_option maxHeartbeats 400000 in
theorem rclamp_still (n : Int) (w : World) : Calls Try.prog 26 #[.int .i64 n] w fun e w' => e = .returned (.int .i64 (cl n : Nat)) ∧ w' = w := by
  by_cases h1 : 1073741824 < n
  · have HF : Hid ((1073741824 : Int) = (cl n : Nat)) := by show (1073741824 : Int) = (cl n : Nat); unfold cl; omega
    go_enter Try.func26, Try.ntmps26
    go_wp2
    go_ret
    exact ⟨ret_int HF.out, rfl⟩
  · by_cases h2 : 0 < n
    · have HF : Hid (n = (cl n : Nat)) := by show n = (cl n : Nat); unfold cl; omega
      go_enter Try.func26, Try.ntmps26
      go_wp2
      go_ret
      exact ⟨ret_int HF.out, rfl⟩
    · have HF : Hid (0 = ((cl n : Nat) : Int)) := by show 0 = ((cl n : Nat) : Int); unfold cl; omega
      go_enter Try.func26, Try.ntmps26
      go_wp2
      go_ret
      exact ⟨ret_int HF.out, rfl⟩
theorem rclamp_any (n : Int) (w : World) : Calls Try.prog 26 #[.int .i64 n] w fun e w' => e = .returned (.int .i64 (cl n : Nat)) ∧ w = w' :=
  (rclamp_still n w).mono fun _ _ h => ⟨h.1, h.2.symm⟩

set_option maxHeartbeats 400000 in
theorem fit_any (l r : Int) (w : World) : Calls Try.prog 15 #[.agg #[.int .i64 l, .int .i64 r]] w fun e w' => e = .returned (.agg #[.int .i64 (cl l : Nat), .int .i64 (cl r : Nat)]) ∧ Fresh w w' := by
  have C1 := Lib.hid (rclamp_still l)
  have C2 := Lib.hid (rclamp_still r)
  generalize cl l = x at *
  generalize cl r = y at *
  go_enter Try.func15, Try.ntmps15
  go_wp2_with fail
  obtain ⟨W, hW⟩ : ∃ W, W = (w.alloc (.cells #[.int .i64 l, .int .i64 r] 23)).alloc (.cells #[.int .i64 0, .int .i64 0] 23) := ⟨_, rfl⟩
  have k0 : Fresh w W := hW ▸ ((Keeps.refl _ _).alloc _).alloc _
  have a0 : W.cell? ⟨w.heap.size, 0, none⟩ = some (.int .i64 l) := by rw [hW]; simp
  have a1 : W.cell? ⟨w.heap.size, 1, none⟩ = some (.int .i64 r) := by rw [hW]; simp
  have c0 : W.cell? ⟨w.heap.size + 1, 0, none⟩ = some (.int .i64 0) := by rw [hW]; simp
  have c1 : W.cell? ⟨w.heap.size + 1, 1, none⟩ = some (.int .i64 0) := by rw [hW]; simp
  have f0 : W.frozen? ⟨w.heap.size + 1, 0, none⟩ = false := by rw [hW]; simp
  have f1 : W.frozen? ⟨w.heap.size + 1, 1, none⟩ = false := by rw [hW]; simp
  rw [← hW]
  clear hW
  have K0 := Lib.hid k0
  clear k0
  go_still_tail 7, (by kernel_rfl)
  change wpStill _ _ W.drew _ _ _
  still_call (C1.out W.drew)
  repeat still_step
  still_call (C2.out W.drew)
  repeat still_step
  refine wpStill_nil ?_
  change wpList _ _ _ _ _ W.drew
  go_wp2_with fail
  refine bodyPost_ret (v := .agg #[.int .i64 x, .int .i64 y]) (by simp [results, Try.results15, go_sem, c0, c1]) rfl ⟨rfl, ?_⟩
  exact ((K0.out.setCell (p := ⟨w.heap.size + 1, 0, none⟩) (fun h => by simp at h; omega) _).setCell (p := ⟨w.heap.size + 1, 1, none⟩) (fun h => by simp at h; omega) _).drew

/-- A block of the call's own behind a call that turns nothing. -/
theorem Fresh.own {w1 w2 : World} (k : Fresh w1 w2) {b : Nat} {cs : Array Value} {t : TypeId} {f : Nat × Nat} (hb : w1.heap[b]? = some (.cells cs t f)) : w2.heap[b]? = some (.cells cs t f) :=
  (k.block b (Array.getElem?_eq_some_iff.1 hb).1 (fun h => h)).trans hb

theorem fresh_set {w w' : World} (h : Fresh w w') {b i : Nat} (hb : w.heap.size ≤ b) (u : Value) : Fresh w (w'.setCell ⟨b, i, none⟩ u) :=
  h.setCell (p := ⟨b, i, none⟩) (fun h' => absurd h' (by simp; omega)) _

theorem two_cells {w : World} {b : Nat} {x y : Value} {t : TypeId} (h : w.heap[b]? = some (.cells #[x, y] t (0, 0))) :
    w.cell? ⟨b, 0, none⟩ = some x ∧ w.cell? ⟨b, 1, none⟩ = some y ∧ w.frozen? ⟨b, 0, none⟩ = false ∧ w.frozen? ⟨b, 1, none⟩ = false := by
  refine ⟨?_, ?_, ?_, ?_⟩ <;> simp [World.cell?, World.frozen?, h]

theorem new1 (w : World) (o1 o2 : Obj) : ((w.alloc o1).alloc o2).heap[w.heap.size]? = some o1 :=
  (heap_alloc_old (w.alloc o1) o2 (by simp)).trans (heap_alloc_new w o1)
theorem new2 (w : World) (o1 o2 : Obj) : ((w.alloc o1).alloc o2).heap[w.heap.size + 1]? = some o2 := by
  have := heap_alloc_new (w.alloc o1) o2
  simpa using this

/-- Two cells, stored to: 's = Fit(s)'. -/
theorem put_two {w : World} {b : Nat} {x y u v : Value} {t : TypeId} (h : w.heap[b]? = some (.cells #[x, y] t (0, 0))) :
    ((w.setCell ⟨b, 0, none⟩ u).setCell ⟨b, 1, none⟩ v).heap[b]? = some (.cells #[u, v] t (0, 0)) := by
  have h1 := heap_setCell_same (i := 0) h u
  exact heap_setCell_same (i := 1) h1 v
theorem put_snd {w : World} {b : Nat} {x y v : Value} {t : TypeId} (h : w.heap[b]? = some (.cells #[x, y] t (0, 0))) :
    (w.setCell ⟨b, 1, none⟩ v).heap[b]? = some (.cells #[x, v] t (0, 0)) := heap_setCell_same (i := 1) h v
theorem put_fst {w : World} {b : Nat} {x y v : Value} {t : TypeId} (h : w.heap[b]? = some (.cells #[x, y] t (0, 0))) :
    (w.setCell ⟨b, 0, none⟩ v).heap[b]? = some (.cells #[v, y] t (0, 0)) := heap_setCell_same (i := 0) h v

set_option maxHeartbeats 1000000 in
theorem rtick_odd (l r author : Int) (ho : odd author = true) (w : World) : Calls Try.prog 12 #[.agg #[.int .i64 l, .int .i64 r], .int .i64 author] w fun e w' =>
    e = .returned (.agg #[.int .i64 (cl l : Nat), .int .i64 (cl ((cl r : Nat) + 1) : Nat)]) ∧ Fresh w w' := by
  have ho' : (bits .and .i64 author 1 == 1) = true := ho
  clear ho
  have C1 := Lib.hid (fit_any l r)
  have C2 := Lib.hid (rclamp_any ((cl r : Nat) + 1))
  have l1 := cl_le r
  generalize hx : cl l = x at *
  generalize hy : cl r = y at *
  generalize hz : cl ((y : Nat) + 1) = z at *
  clear hx hy hz
  go_enter Try.func12, Try.ntmps12
  go_wp2_with fail
  refine (C1.out _).mono ?_; rintro e w1 ⟨rfl, k1⟩
  have h0 := Fresh.own k1 (new1 w _ _)
  have h1 := Fresh.own k1 (new2 w _ _)
  have K1 : Hid (Fresh w w1) := Fresh.trans (((Keeps.refl _ _).alloc _).alloc _) k1
  clear k1
  obtain ⟨a0, a1, f0, f1⟩ := two_cells h0
  obtain ⟨b0, b1, g0, g1⟩ := two_cells h1
  have h2 := put_two (u := .int .i64 x) (v := .int .i64 y) h0
  have h3 := put_snd (v := .int .i64 z) h2
  obtain ⟨a2, a3, f2, f3⟩ := two_cells h2
  obtain ⟨a4, a5, f4, f5⟩ := two_cells h3
  have HW := Lib.hid K1.out
  clear h0 h1 h2 h3
  go_wp2_with (go_at_call 26; refine (C2.out _).mono ?_; rintro e w2 ⟨rfl, rfl⟩)
  refine bodyPost_ret (v := .agg #[.int .i64 x, .int .i64 z]) (by simp [results, Try.results12, go_sem, b0, b1]) rfl ⟨rfl, ?_⟩
  repeat (refine fresh_set ?_ (by omega) _)
  exact K1.out
set_option maxHeartbeats 1000000 in
theorem rtick_even (l r author : Int) (ho : odd author = false) (w : World) : Calls Try.prog 12 #[.agg #[.int .i64 l, .int .i64 r], .int .i64 author] w fun e w' =>
    e = .returned (.agg #[.int .i64 (cl ((cl l : Nat) + 1) : Nat), .int .i64 (cl r : Nat)]) ∧ Fresh w w' := by
  have ho' : (bits .and .i64 author 1 == 1) = false := ho
  clear ho
  have C1 := Lib.hid (fit_any l r)
  have C2 := Lib.hid (rclamp_any ((cl l : Nat) + 1))
  have l1 := cl_le l
  generalize hx : cl l = x at *
  generalize hy : cl r = y at *
  generalize hz : cl ((x : Nat) + 1) = z at *
  clear hx hy hz
  go_enter Try.func12, Try.ntmps12
  go_wp2_with fail
  refine (C1.out _).mono ?_; rintro e w1 ⟨rfl, k1⟩
  have h0 := Fresh.own k1 (new1 w _ _)
  have h1 := Fresh.own k1 (new2 w _ _)
  have K1 : Hid (Fresh w w1) := Fresh.trans (((Keeps.refl _ _).alloc _).alloc _) k1
  clear k1
  obtain ⟨a0, a1, f0, f1⟩ := two_cells h0
  obtain ⟨b0, b1, g0, g1⟩ := two_cells h1
  have h2 := put_two (u := .int .i64 x) (v := .int .i64 y) h0
  have h3 := put_fst (v := .int .i64 z) h2
  obtain ⟨a2, a3, f2, f3⟩ := two_cells h2
  obtain ⟨a4, a5, f4, f5⟩ := two_cells h3
  have HW := Lib.hid K1.out
  clear h0 h1 h2 h3
  go_wp2_with (go_at_call 26; refine (C2.out _).mono ?_; rintro e w2 ⟨rfl, rfl⟩)
  refine bodyPost_ret (v := .agg #[.int .i64 z, .int .i64 y]) (by simp [results, Try.results12, go_sem, b0, b1]) rfl ⟨rfl, ?_⟩
  repeat (refine fresh_set ?_ (by omega) _)
  exact K1.out

theorem run_max_int (a b : Int) (w : World) (ty : TypeId) : (Builtin.max_ #[3, 3] ty #[.int .i64 a, .int .i64 b]).run Try.prog w = .ok (.int .i64 (max a b)) w := by
  simp [Builtin.max_, Builtin.max2]
  omega

theorem new3a (w : World) (o1 o2 o3 : Obj) : (((w.alloc o1).alloc o2).alloc o3).heap[w.heap.size]? = some o1 :=
  (heap_alloc_old ((w.alloc o1).alloc o2) o3 (by simp; omega)).trans (new1 w o1 o2)
theorem new3b (w : World) (o1 o2 o3 : Obj) : (((w.alloc o1).alloc o2).alloc o3).heap[w.heap.size + 1]? = some o2 :=
  (heap_alloc_old ((w.alloc o1).alloc o2) o3 (by simp)).trans (new2 w o1 o2)
theorem new3c (w : World) (o1 o2 o3 : Obj) : (((w.alloc o1).alloc o2).alloc o3).heap[w.heap.size + 2]? = some o3 := by
  have := heap_alloc_new ((w.alloc o1).alloc o2) o3
  simpa using this

theorem emax (a b : Nat) : max (a : Int) (b : Int) = ((max a b : Nat) : Int) := by omega

set_option maxHeartbeats 1000000 in
theorem rjoin_any (l r l2 r2 : Int) (w : World) : Calls Try.prog 13 #[.agg #[.int .i64 l, .int .i64 r], .agg #[.int .i64 l2, .int .i64 r2]] w fun e w' =>
    e = .returned (.agg #[.int .i64 (max (cl l) (cl l2) : Nat), .int .i64 (max (cl r) (cl r2) : Nat)]) ∧ Fresh w w' := by
  have C1 := Lib.hid (fit_any l r)
  have C2 := Lib.hid (fit_any l2 r2)
  generalize cl l = x at *
  generalize cl r = y at *
  generalize cl l2 = x2 at *
  generalize cl r2 = y2 at *
  go_enter Try.func13, Try.ntmps13
  go_wp2_with fail
  refine (C1.out _).mono ?_; rintro e w1 ⟨rfl, k1⟩
  have h0 := Fresh.own k1 (new3a w _ _ _)
  have h1 := Fresh.own k1 (new3b w _ _ _)
  have h2 := Fresh.own k1 (new3c w _ _ _)
  have K1 : Hid (Fresh w w1) := Fresh.trans ((((Keeps.refl _ _).alloc _).alloc _).alloc _) k1
  clear k1
  obtain ⟨a0, a1, f0, f1⟩ := two_cells h0
  obtain ⟨a2, a3, f2, f3⟩ := two_cells h1
  go_wp2_with fail
  obtain ⟨W, hW⟩ : ∃ W, W = (w1.setCell ⟨w.heap.size, 0, none⟩ (.int .i64 x)).setCell ⟨w.heap.size, 1, none⟩ (.int .i64 y) := ⟨_, rfl⟩
  have g0 : W.heap[w.heap.size]? = some (.cells #[.int .i64 x, .int .i64 y] 23 (0, 0)) := hW ▸ put_two h0
  have g1 : W.heap[w.heap.size + 1]? = some (.cells #[.int .i64 l2, .int .i64 r2] 23 (0, 0)) := by
    rw [hW, Below.heap_setCell _ _ _ _ (by simp), Below.heap_setCell _ _ _ _ (by simp)]; exact h1
  have g2 : W.heap[w.heap.size + 2]? = some (.cells #[.int .i64 0, .int .i64 0] 23 (0, 0)) := by
    rw [hW, Below.heap_setCell _ _ _ _ (by simp), Below.heap_setCell _ _ _ _ (by simp)]; exact h2
  have K2 : Hid (Fresh w W) := hW ▸ fresh_set (fresh_set K1.out (Nat.le_refl _) _) (Nat.le_refl _) _
  rw [← hW]
  clear hW h0 h1 h2 a0 a1 a2 a3 f0 f1 f2 f3
  refine (C2.out _).mono ?_; rintro e w2 ⟨rfl, k2⟩
  have h0 := Fresh.own k2 g0
  have h1 := Fresh.own k2 g1
  have h2 := Fresh.own k2 g2
  have K3 : Hid (Fresh w w2) := Fresh.trans K2.out k2
  clear k2 g0 g1 g2
  obtain ⟨a0, a1, f0, f1⟩ := two_cells h0
  obtain ⟨a2, a3, f2, f3⟩ := two_cells h1
  obtain ⟨a4, a5, f4, f5⟩ := two_cells h2
  have h3 := put_two (u := .int .i64 x2) (v := .int .i64 y2) h1
  obtain ⟨b0, b1, e0, e1⟩ := two_cells h3
  have M := fun a b => run_max_int a b
  clear h0 h1 h2 h3
  go_wp2_with fail
  refine bodyPost_ret (v := .agg #[.int .i64 (max x x2 : Nat), .int .i64 (max y y2 : Nat)]) ?_ rfl ⟨rfl, ?_⟩
  · rw [← emax x x2, ← emax y y2]
    simp [results, Try.results13, go_sem, a4, a5]
  · repeat (refine fresh_set ?_ (by omega) _)
    exact K3.out

set_option maxHeartbeats 1000000 in
theorem rmine_any (l r author : Int) (w : World) : Calls Try.prog 23 #[.agg #[.int .i64 l, .int .i64 r], .int .i64 author] w fun e w' =>
    e = .returned (.int .i64 (if odd author then cl r else cl l : Nat)) ∧ Fresh w w' := by
  have C1 := Lib.hid (fit_any l r)
  generalize cl l = x at *
  generalize cl r = y at *
  cases ho : odd author with
  | true =>
    have ho' : (bits .and .i64 author 1 == 1) = true := ho
    clear ho
    go_enter Try.func23, Try.ntmps23
    go_wp2_with fail
    refine (C1.out _).mono ?_; rintro e w1 ⟨rfl, k1⟩
    have h0 := Fresh.own k1 (heap_alloc_new w _)
    have K1 : Hid (Fresh w w1) := Fresh.trans ((Keeps.refl _ _).alloc _) k1
    clear k1
    obtain ⟨a0, a1, f0, f1⟩ := two_cells h0
    have h2 := put_two (u := .int .i64 x) (v := .int .i64 y) h0
    obtain ⟨a2, a3, f2, f3⟩ := two_cells h2
    clear h0 h2
    go_wp2_with fail
    go_ret
    refine ⟨rfl, ?_⟩
    repeat (refine fresh_set ?_ (by omega) _)
    exact K1.out
  | false =>
    have ho' : (bits .and .i64 author 1 == 1) = false := ho
    clear ho
    go_enter Try.func23, Try.ntmps23
    go_wp2_with fail
    refine (C1.out _).mono ?_; rintro e w1 ⟨rfl, k1⟩
    have h0 := Fresh.own k1 (heap_alloc_new w _)
    have K1 : Hid (Fresh w w1) := Fresh.trans ((Keeps.refl _ _).alloc _) k1
    clear k1
    obtain ⟨a0, a1, f0, f1⟩ := two_cells h0
    have h2 := put_two (u := .int .i64 x) (v := .int .i64 y) h0
    obtain ⟨a2, a3, f2, f3⟩ := two_cells h2
    clear h0 h2
    go_wp2_with fail
    go_ret
    refine ⟨rfl, ?_⟩
    repeat (refine fresh_set ?_ (by omega) _)
    exact K1.out

set_option maxHeartbeats 400000 in
theorem rright_any (l r : Int) (w : World) : Calls Try.prog 17 #[.agg #[.int .i64 l, .int .i64 r]] w fun e w' => e = .returned (.bool (right l r)) ∧ Fresh w w' := by
  go_enter Try.func17, Try.ntmps17
  go_wp2
  all_goals
    go_ret
    refine ⟨ret_bool ?_, (Keeps.refl _ _).alloc _⟩
    rw [Bool.eq_iff_iff]; simp [right]; omega

/-- The document's answer on two pairs. -/
def rordr (a b c d : Nat) : Int := if a = c ∧ b = d then 0 else if a ≤ c ∧ b ≤ d then 1 else if c ≤ a ∧ d ≤ b then 2 else 3
theorem rordr_eq (a b c d : Nat) : ordr a b c d = rordr a b c d := by
  unfold ordr rordr
  repeat' split
  all_goals first | rfl | omega

set_option maxHeartbeats 2000000 in
theorem rorder_any (l r l2 r2 : Int) (w : World) : Calls Try.prog 21 #[.agg #[.int .i64 l, .int .i64 r], .agg #[.int .i64 l2, .int .i64 r2]] w fun e w' =>
    e = .returned (.int .i64 (rordr (cl l) (cl r) (cl l2) (cl r2))) ∧ Fresh w w' := by
  have C1 := Lib.hid (fit_any l r)
  have C2 := Lib.hid (fit_any l2 r2)
  generalize cl l = x at *
  generalize cl r = y at *
  generalize cl l2 = x2 at *
  generalize cl r2 = y2 at *
  go_enter Try.func21, Try.ntmps21
  go_wp2_with fail
  refine (C1.out _).mono ?_; rintro e w1 ⟨rfl, k1⟩
  have h0 := Fresh.own k1 (new1 w _ _)
  have h1 := Fresh.own k1 (new2 w _ _)
  have K1 : Hid (Fresh w w1) := Fresh.trans (((Keeps.refl _ _).alloc _).alloc _) k1
  clear k1
  obtain ⟨a0, a1, f0, f1⟩ := two_cells h0
  obtain ⟨a2, a3, f2, f3⟩ := two_cells h1
  go_wp2_with fail
  obtain ⟨W, hW⟩ : ∃ W, W = (w1.setCell ⟨w.heap.size, 0, none⟩ (.int .i64 x)).setCell ⟨w.heap.size, 1, none⟩ (.int .i64 y) := ⟨_, rfl⟩
  have g0 : W.heap[w.heap.size]? = some (.cells #[.int .i64 x, .int .i64 y] 23 (0, 0)) := hW ▸ put_two h0
  have g1 : W.heap[w.heap.size + 1]? = some (.cells #[.int .i64 l2, .int .i64 r2] 23 (0, 0)) := by
    rw [hW, Below.heap_setCell _ _ _ _ (by simp), Below.heap_setCell _ _ _ _ (by simp)]; exact h1
  have K2 : Hid (Fresh w W) := hW ▸ fresh_set (fresh_set K1.out (Nat.le_refl _) _) (Nat.le_refl _) _
  rw [← hW]
  clear hW h0 h1 a0 a1 a2 a3 f0 f1 f2 f3
  refine (C2.out _).mono ?_; rintro e w2 ⟨rfl, k2⟩
  have h0 := Fresh.own k2 g0
  have h1 := Fresh.own k2 g1
  have K3 : Hid (Fresh w w2) := Fresh.trans K2.out k2
  clear k2 g0 g1
  obtain ⟨a0, a1, f0, f1⟩ := two_cells h0
  obtain ⟨a2, a3, f2, f3⟩ := two_cells h1
  have h3 := put_two (u := .int .i64 x2) (v := .int .i64 y2) h1
  obtain ⟨b0, b1, e0, e1⟩ := two_cells h3
  clear h0 h1 h3
  have FR : Hid (Fresh w ((w2.setCell ⟨w.heap.size + 1, 0, none⟩ (.int .i64 x2)).setCell ⟨w.heap.size + 1, 1, none⟩ (.int .i64 y2))) := fresh_set (fresh_set K3.out (by omega) _) (by omega) _
  go_wp2_with fail
  all_goals
    go_ret
    refine ⟨ret_int ?_, FR.out⟩
    unfold rordr
    repeat' split
    all_goals first | rfl | (exfalso; omega)
end Go.Proofs.Ytigloaabhcpcnaa
