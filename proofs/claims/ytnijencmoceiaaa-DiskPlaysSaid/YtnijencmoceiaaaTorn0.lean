/-
  No statement is proved here: 'torn' of a disk, as a contract.
-/
import Derived.Test.YtnijencmoceiaaaWrite
import Derived.IntWalk
namespace Go.Proofs.Ytnijencmoceiaaa
set_option linter.unusedVariables false
open Go.RowKit Go.Maps

/-- A deed of which so much is done. -/
def Deed.torn (x : Deed) (n : Int) : Option Deed :=
  if n ≤ 0 then none else match x with
    | .wr a d => some (.wr a (if 1 < n then d.take (n - 2).toNat else d))
    | x => some x
def oval : Option Deed → Value
  | none => .nilIface
  | some x => x.val

set_option maxRecDepth 100000 in
set_option maxHeartbeats 400000 in
theorem torn_none (v : Value) (n : Int) (w : World) (h : n ≤ 0) : Calls Try.prog 43 #[v, .int .i64 n] w fun e w' => e = .returned .nilIface ∧ Keeps (fun _ => False) w w' := by
  go_enter Try.func43, Try.ntmps43
  go_wp2
  go_ret
  exact ⟨rfl, Keeps.refl _ _⟩

theorem assert_wr (a d : Value) (w : World) : (Instr.typeAssert (.iface 61 (.agg #[a, d])) 76 61 true).run Try.prog w = .ok (.tuple #[.agg #[a, d], .bool true]) w := by kernel_rfl
theorem assert_rn (v : Value) (w : World) : (Instr.typeAssert (.iface 70 v) 76 61 true).run Try.prog w = .ok (.tuple #[.agg #[.string ⟨#[]⟩, .string ⟨#[]⟩], .bool false]) w := by kernel_rfl
theorem assert_rm (v : Value) (w : World) : (Instr.typeAssert (.iface 73 v) 76 61 true).run Try.prog w = .ok (.tuple #[.agg #[.string ⟨#[]⟩, .string ⟨#[]⟩], .bool false]) w := by kernel_rfl

set_option maxRecDepth 100000 in
set_option maxHeartbeats 400000 in
theorem torn_other (ty : TypeId) (v : Value) (n : Int) (w : World) (h : 0 < n) (ha : ∀ w, (Instr.typeAssert (.iface ty v) 76 61 true).run Try.prog w = .ok (.tuple #[.agg #[.string ⟨#[]⟩, .string ⟨#[]⟩], .bool false]) w) :
    Calls Try.prog 43 #[.iface ty v, .int .i64 n] w fun e w' => e = .returned (.iface ty v) ∧ Keeps (fun _ => False) w w' := by
  go_enter Try.func43, Try.ntmps43
  go_wp2
  go_ret
  exact ⟨rfl, Keeps.refl _ _⟩

set_option maxRecDepth 100000 in
set_option maxHeartbeats 400000 in
theorem torn_one (a d : ByteArray) (w : World) :
    Calls Try.prog 43 #[.iface 61 (.agg #[.string a, .string d]), .int .i64 1] w fun e w' => e = .returned (.iface 61 (.agg #[.string a, .string d])) ∧ Keeps (fun _ => False) w w' := by
  have ha := assert_wr (.string a) (.string d)
  go_enter Try.func43, Try.ntmps43
  go_wp2
  go_ret
  exact ⟨rfl, (Keeps.refl _ w).alloc _⟩

set_option maxRecDepth 100000 in
set_option maxHeartbeats 400000 in
theorem torn_more (a d : ByteArray) (n : Int) (w : World) (h : 1 < n) (hd : d.size ≤ 65535) (h63 : n ≤ 9223372036854775807) :
    Calls Try.prog 43 #[.iface 61 (.agg #[.string a, .string d]), .int .i64 n] w fun e w' => e = .returned (.iface 61 (.agg #[.string a, .string (d.extract 0 (n - 2).toNat)])) ∧ Keeps (fun _ => False) w w' := by
  have ha := assert_wr (.string a) (.string d)
  obtain ⟨m, rfl⟩ : ∃ m : Nat, n = (m : Int) + 2 := ⟨(n - 2).toNat, by omega⟩
  obtain ⟨j, hj⟩ : ∃ j : Nat, j = min m d.size := ⟨_, rfl⟩
  have hjd : j ≤ d.size := by omega
  have E : Hid (d.extract 0 ((m : Int) + 2 - 2).toNat = d.extract 0 j) := Lib.hid (by
    apply letters_inj
    simp
    omega)
  have S : Go.RowKit.wrap64 ((m : Int) + 2 - 2) = (m : Int) := by
    unfold Go.RowKit.wrap64; omega
  have M : min (m : Int) (d.size : Int) = (j : Int) := by omega
  clear h63 hj
  generalize hx : ((m : Int) + 2) = x at *
  clear hx
  go_enter Try.func43, Try.ntmps43
  go_wp2
  go_ret
  exact ⟨by rw [E.out]; rfl, (Keeps.refl _ w).alloc _⟩

theorem oval_some (x : Deed) : oval (some x) = .iface x.ty x.recv := rfl
theorem torn_at (x : Deed) (hx : x.short) (n : Int) (hn : n ≤ 9223372036854775807) (w : World) :
    Calls Try.prog 43 #[.iface x.ty x.recv, .int .i64 n] w fun e w' => e = .returned (oval (x.torn n)) ∧ Keeps (fun _ => False) w w' := by
  by_cases h0 : n ≤ 0
  · have : x.torn n = none := by unfold Deed.torn; rw [if_pos h0]
    rw [this]
    exact torn_none _ n w h0
  · cases x with
    | wr a d =>
      by_cases h1 : n = 1
      · subst h1
        exact torn_one ⟨a.toArray⟩ ⟨d.toArray⟩ w
      · have e : (Deed.wr a d).torn n = some (.wr a (d.take (n - 2).toNat)) := by unfold Deed.torn; rw [if_neg h0]; simp only; rw [if_pos (by omega)]
        rw [e]
        refine (torn_more ⟨a.toArray⟩ ⟨d.toArray⟩ n w (by omega) hx.2 hn).mono ?_
        rintro e w' ⟨rfl, hk⟩
        refine ⟨?_, hk⟩
        have : (⟨d.toArray⟩ : ByteArray).extract 0 (n - 2).toNat = ⟨(d.take (n - 2).toNat).toArray⟩ := by apply letters_inj; simp
        rw [this]; rfl
    | rn a b =>
      have e : (Deed.rn a b).torn n = some (.rn a b) := by unfold Deed.torn; rw [if_neg h0]
      rw [e]
      exact torn_other 70 _ n w (by omega) (assert_rn _)
    | rm a =>
      have e : (Deed.rm a).torn n = some (.rm a) := by unfold Deed.torn; rw [if_neg h0]
      rw [e]
      exact torn_other 73 _ n w (by omega) (assert_rm _)
theorem torn_short {x y : Deed} (hx : x.short) {n : Int} (h : x.torn n = some y) : y.short := by
  unfold Deed.torn at h
  split at h
  · cases h
  · cases x with
    | wr a d =>
      simp only at h
      cases h
      refine ⟨hx.1, ?_⟩
      split
      · exact Nat.le_trans (by simp; omega) hx.2
      · exact hx.2
    | rn a b => cases h; exact hx
    | rm a => cases h; exact hx
end Go.Proofs.Ytnijencmoceiaaa
