/-
  No statement is proved here: what a disk keeps ('St'), the object that holds it ('Dk'); its short methods as contracts.
-/
import Derived.Test.YtnijencmoceiaaaRows
import Derived.Test.YtnijencmoceiaaaObj
import Derived.Test.YtnijencmoceiaaaNear
import Derived.Test.YtnijencmoceiaaaFiles
import Derived.StringKeys
namespace Go.Proofs.Ytnijencmoceiaaa
open Go.RowKit Go.Maps

/-- A deed as it lies in memory. -/
def Deed.recv : Deed → Value
  | .wr a d => .agg #[str a, str d]
  | .rn a b => .agg #[str a, str b]
  | .rm a => .agg #[str a]
def Deed.ty : Deed → TypeId
  | .wr _ _ => 61
  | .rn _ _ => 70
  | .rm _ => 73
def Deed.val (x : Deed) : Value := .iface x.ty x.recv

/-- What a disk keeps. -/
structure St where
  room : Nat
  kept : Files
  there : Files
  waits : List Deed
  down : Bool
  armed : Nat

/-- No string that a deed brings is long. -/
def Deed.short : Deed → Prop
  | .wr a d => a.length ≤ 65535 ∧ d.length ≤ 65535
  | .rn a b => a.length ≤ 65535 ∧ b.length ≤ 65535
  | .rm a => a.length ≤ 65535
def Short (K : Files) : Prop := ∀ p ∈ K, p.1.length ≤ 65535 ∧ p.2.length ≤ 65535
structure Good (s : St) : Prop where
  rk : Rising s.kept
  rt : Rising s.there
  sk : Short s.kept
  st : Short s.there
  sw : ∀ x ∈ s.waits, x.short
  room : s.room ≤ 9223372036854775807
  armed : s.armed ≤ 9223372036854775807

abbrev mapPart (m : Nat) (K : Files) : Part := Part.map Try.prog 9 (plainElem Try.prog 9) m K.length (datum K)
/-- The disk behind the pointer to block p. -/
def Dk (p : Nat) (s : St) (w : World) (F : Nat → Prop) : Prop :=
  ∃ mk mt pv, Obj 58 p [.int .i64 s.room, .map (some mk), .map (some mt), pv, .bool s.down, .int .i64 s.armed]
    [Part.plain, mapPart mk s.kept, mapPart mt s.there, Part.row 76 1 pv s.waits.length (s.waits.map Deed.val), Part.plain, Part.plain] w F ∧ Good s
theorem Dk.framed (p : Nat) (s : St) : Framed (Dk p s) :=
  ⟨fun _ _ ⟨_, _, _, h, _⟩ => h.lt, fun _ _ _ _ ⟨_, _, _, h, r⟩ hk hd => ⟨_, _, _, h.kept hk hd, r⟩⟩
theorem Dk.good {p : Nat} {s : St} {w : World} {F : Nat → Prop} (h : Dk p s w F) : Good s := let ⟨_, _, _, _, g⟩ := h; g

theorem key9 : Keyed Try.prog 9 := string_keyed Try.underlying9
theorem zero9 (w : World) : (zeroValue 9).run Try.prog w = .ok (.string ByteArray.empty) w := by kernel_rfl
theorem Try.info76 : (Try.prog.info? 76).map (fun i => (i.zero, i.size, i.bytes)) = some (some .nilIface, 1, 16) := by kernel_rfl
theorem str_size (a : Str) : (⟨a.toArray⟩ : ByteArray).size = a.length := rfl
theorem long_ok {n : Nat} (h : n ≤ 65535) : n ≤ maxLen := by unfold maxLen; omega

/-- A map's bound is how many there are. -/
theorem own_tight {w : World} {m n : Nat} {K : Files} (h : w.ownsMap Try.prog 9 (plainElem Try.prog 9) m n (datum K)) : w.ownsMap Try.prog 9 (plainElem Try.prog 9) m K.length (datum K) := by
  obtain ⟨es, clock, hb, F, hs, hD⟩ := h
  refine ⟨es, clock, hb, F, ?_, hD⟩
  have := congrArg Maps.size hD
  rw [size_datum] at this
  rw [this]
  show es.size ≤ ((es.toList.map (Go.WideElems.rg Try.prog 9 (plainElem Try.prog 9))).foldr DataW.insert []).length
  rw [length_sorted]; simp

theorem look_run {w : World} {m n : Nat} {K : Files} (h : w.ownsMap Try.prog 9 (plainElem Try.prog 9) m n (datum K)) {a : Str} (ha : a.length ≤ maxLen) :
    (Instr.lookup 55 (.map (some m)) (str a) true).run Try.prog w = .ok (.tuple #[str (lookD K a), .bool (look K a).isSome]) w := by
  obtain ⟨v, ps, hrun, hv⟩ := h.look_ok key9 Try.underlying55 (zero9 w) (plainElem_string Try.underlying9 (by decide)) (Go.WideMaps.keyOf_string_mk (s := ⟨a.toArray⟩) Try.underlying9 ha)
  obtain ⟨s, rfl, hz, _⟩ := plainElem_string_inv Try.underlying9 hv
  have e1 := congrArg Prod.fst hz
  have e2 := atKey_datum K a
  have e3 : (DataW.lit (.string s.data.toList) : DataW Unit) = .lit (.string (lookD K a)) := e1.symm.trans e2
  have e4 : s.data.toList = lookD K a := Lit.string.inj (DataW.lit.inj e3)
  unfold str
  rw [hrun, has_datum, ← e4]

set_option maxRecDepth 100000 in
set_option maxHeartbeats 400000 in
theorem down_any (p : Nat) (t : Bool) (w : World) (h4 : w.cell? ⟨p, 4, none⟩ = some (.bool t)) :
    Calls Try.prog 30 #[.pointer (some ⟨p, 0, none⟩)] w fun e w' => e = .returned (.bool t) ∧ w = w' := by
  go_enter Try.func30, Try.ntmps30
  go_wp2
  go_ret
  exact ⟨rfl, rfl⟩
theorem down_at {p : Nat} {s : St} {w : World} (h : ∃ F, Dk p s w F) : Calls Try.prog 30 #[.pointer (some ⟨p, 0, none⟩)] w fun e w' => e = .returned (.bool s.down) ∧ w = w' := by
  obtain ⟨F, mk, mt, pv, h, g⟩ := h
  exact down_any p _ w (h.cell (i := 4) rfl)

theorem row_shape {w : World} {e : TypeId} {size : Nat} {v : Value} {n : Nat} {xs : List Value} (h : w.ownsRow 0 e size v n xs) : ∃ a c, v = .slice a n c ∧ n ≤ c ∧ n ≤ maxLen := by
  rcases h.2 with ⟨h1, h2⟩ | ⟨g, cap, cur, hv, _, _, h2, h3, _⟩
  · exact ⟨none, 0, by rw [h1, h2], by omega, by omega⟩
  · exact ⟨_, cap, hv, h2, by omega⟩

set_option maxRecDepth 100000 in
set_option maxHeartbeats 400000 in
theorem pending_any (p n c : Nat) (a : Option Addr) (w : World) (h4 : w.cell? ⟨p, 3, none⟩ = some (.slice a n c)) :
    Calls Try.prog 31 #[.pointer (some ⟨p, 0, none⟩)] w fun e w' => e = .returned (.int .i64 n) ∧ w = w' := by
  go_enter Try.func31, Try.ntmps31
  go_wp2
  go_ret
  exact ⟨rfl, rfl⟩
theorem pending_at {p : Nat} {s : St} {w : World} (h : ∃ F, Dk p s w F) : Calls Try.prog 31 #[.pointer (some ⟨p, 0, none⟩)] w fun e w' => e = .returned (.int .i64 s.waits.length) ∧ w = w' := by
  obtain ⟨F, mk, mt, pv, h, g⟩ := h
  obtain ⟨a, c, hv, -⟩ := row_shape (h.part (i := 3) rfl)
  subst hv
  exact pending_any p _ c a w (h.cell (i := 3) rfl)

set_option maxRecDepth 100000 in
set_option maxHeartbeats 400000 in
theorem has_any (p m : Nat) (v : Value) (a : ByteArray) (d t : Bool) (w : World) (h4 : w.cell? ⟨p, 4, none⟩ = some (.bool d)) (h2 : w.cell? ⟨p, 2, none⟩ = some (.map (some m)))
    (hrun : (Instr.lookup 55 (.map (some m)) (.string a) true).run Try.prog w = .ok (.tuple #[v, .bool t]) w) :
    Calls Try.prog 38 #[.pointer (some ⟨p, 0, none⟩), .string a] w fun e w' => e = .returned (.int .i64 (if d then 14 else if t then 0 else 3)) ∧ w = w' := by
  cases d <;> cases t
  all_goals
    go_enter Try.func38, Try.ntmps38
    go_wp2
    go_ret
    exact ⟨rfl, rfl⟩
/-- What keeps a file from being asked. -/
def St.has (s : St) (a : Str) : Int := if s.down then 14 else if (look s.there a).isSome then 0 else 3
theorem has_at {p : Nat} {s : St} {w : World} (h : ∃ F, Dk p s w F) (a : ByteArray) (ha : a.size ≤ maxLen) :
    Calls Try.prog 38 #[.pointer (some ⟨p, 0, none⟩), .string a] w fun e w' => e = .returned (.int .i64 (s.has a.data.toList)) ∧ w = w' := by
  obtain ⟨F, mk, mt, pv, h, g⟩ := h
  exact has_any p mt _ a _ _ w (h.cell (i := 4) rfl) (h.cell (i := 2) rfl) (by rw [str_of a]; exact look_run (h.part (i := 2) rfl) ha)

set_option maxRecDepth 100000 in
set_option maxHeartbeats 400000 in
theorem read_any (p m : Nat) (v : Value) (a : ByteArray) (d t : Bool) (w : World) (h4 : w.cell? ⟨p, 4, none⟩ = some (.bool d)) (h2 : w.cell? ⟨p, 2, none⟩ = some (.map (some m)))
    (hrun : (Instr.lookup 55 (.map (some m)) (.string a) true).run Try.prog w = .ok (.tuple #[v, .bool t]) w) :
    Calls Try.prog 25 #[.pointer (some ⟨p, 0, none⟩), .string a] w fun e w' => e = .returned (if d then .tuple #[.string ⟨#[]⟩, .bool false] else .tuple #[v, .bool t]) ∧ w = w' := by
  cases d
  all_goals
    go_enter Try.func25, Try.ntmps25
    go_wp2
    go_ret2
    exact ⟨rfl, rfl⟩
/-- What a file's name is answered. -/
def St.read (s : St) (a : Str) : Str × Bool := if s.down then ([], false) else (lookD s.there a, (look s.there a).isSome)
theorem read_at {p : Nat} {s : St} {w : World} (h : ∃ F, Dk p s w F) (a : ByteArray) (ha : a.size ≤ maxLen) {x : ByteArray} {t : Bool} (hx : s.read a.data.toList = (x.data.toList, t)) :
    Calls Try.prog 25 #[.pointer (some ⟨p, 0, none⟩), .string a] w fun e w' => e = .returned (.tuple #[.string x, .bool t]) ∧ w = w' := by
  obtain ⟨F, mk, mt, pv, h, g⟩ := h
  refine (read_any p mt _ a _ _ w (h.cell (i := 4) rfl) (h.cell (i := 2) rfl) (by rw [str_of a]; exact look_run (h.part (i := 2) rfl) ha)).mono ?_
  rintro e w' ⟨rfl, rfl⟩
  refine ⟨?_, rfl⟩
  unfold St.read at hx
  cases hd : s.down with
  | true =>
    simp only [hd, if_true] at hx ⊢
    obtain ⟨h1, h2⟩ := Prod.mk.injEq _ _ _ _ ▸ hx
    rw [str_of x, ← h1, ← h2]; rfl
  | false =>
    simp only [hd] at hx ⊢
    obtain ⟨h1, h2⟩ := Prod.mk.injEq _ _ _ _ ▸ hx
    rw [str_of x, ← h1, ← h2]; rfl

theorem run_max0 (z : Int) (w : World) (ty : TypeId) : (Builtin.max_ #[3, 3] ty #[.int .i64 0, .int .i64 z]).run Try.prog w = .ok (.int .i64 (z.toNat : Int)) w := by
  simp [Builtin.max_, Builtin.max2]
  omega

set_option maxRecDepth 100000 in
set_option maxHeartbeats 400000 in
theorem arm_any (p : Nat) (n : Int) (w : World) (hf : w.frozen? ⟨p, 5, none⟩ = false) (hc : ∃ v, w.cell? ⟨p, 5, none⟩ = some v) :
    Calls Try.prog 21 #[.pointer (some ⟨p, 0, none⟩), .int .i64 n] w fun e w' => e = .returned (.tuple #[]) ∧ w' = w.setCell ⟨p, 5, none⟩ (.int .i64 (n.toNat : Int)) := by
  obtain ⟨v, hc⟩ := hc
  have M := run_max0 n
  go_enter Try.func21, Try.ntmps21
  go_wp2
  go_end0
  exact ⟨rfl, by rw [Int.toNat_eq_max]⟩
theorem arm_at {p : Nat} {s : St} {w : World} {F : Nat → Prop} (h : Dk p s w F) (n : Int) (hn : n ≤ 9223372036854775807) :
    Calls Try.prog 21 #[.pointer (some ⟨p, 0, none⟩), .int .i64 n] w fun e w' => e = .returned (.tuple #[]) ∧ Turns w F w' (Dk p { s with armed := n.toNat }) := by
  obtain ⟨mk, mt, pv, h, g⟩ := h
  refine (arm_any p n w (h.frozen 5) ⟨_, h.cell (i := 5) rfl⟩).mono ?_
  rintro e w' ⟨rfl, rfl⟩
  refine ⟨rfl, ?_⟩
  have := h.turn (i := 5) (c' := Part.plain) (v' := .int .i64 (n.toNat : Int)) (w1 := w) rfl (Keeps.refl _ _) trivial (.inl rfl)
  exact this.imp fun G h => ⟨mk, mt, pv, h, ⟨g.rk, g.rt, g.sk, g.st, g.sw, g.room, by show n.toNat ≤ _; omega⟩⟩

/-- The next call that does something: the disk may stop at it. -/
def St.stop (s : St) : St := { s with down := s.armed == 1, armed := s.armed - 1 }
set_option maxRecDepth 100000 in
set_option maxHeartbeats 400000 in
theorem stops_any (p k : Nat) (hk : k ≤ 9223372036854775807) (w : World) (h5 : w.cell? ⟨p, 5, none⟩ = some (.int .i64 k)) (hf4 : w.frozen? ⟨p, 4, none⟩ = false) (hf5 : w.frozen? ⟨p, 5, none⟩ = false) (hc : ∃ v, w.cell? ⟨p, 4, none⟩ = some v) :
    Calls Try.prog 40 #[.pointer (some ⟨p, 0, none⟩)] w fun e w' => e = .returned (.bool (k == 1)) ∧ w' = (w.setCell ⟨p, 4, none⟩ (.bool (k == 1))).setCell ⟨p, 5, none⟩ (.int .i64 ((k - 1 : Nat) : Int)) := by
  obtain ⟨v, hc⟩ := hc
  have M := run_max0 ((k : Int) - 1)
  rw [show ((k : Int) - 1).toNat = k - 1 by omega] at M
  by_cases h1 : k = 1
  · subst h1
    go_enter Try.func40, Try.ntmps40
    go_wp2
    go_ret
    exact ⟨rfl, rfl⟩
  · have hb : ((k : Int) == 1) = false := by simpa using fun e => h1 (by omega)
    have hb' : Hid ((k == 1) = false) := Lib.hid (by simpa using h1)
    clear h1
    go_enter Try.func40, Try.ntmps40
    go_wp2
    go_ret
    rw [hb'.out]
    exact ⟨rfl, rfl⟩
theorem stops_at {p : Nat} {s : St} {w : World} {F : Nat → Prop} (h : Dk p s w F) :
    Calls Try.prog 40 #[.pointer (some ⟨p, 0, none⟩)] w fun e w' => e = .returned (.bool (s.armed == 1)) ∧ Turns w F w' (Dk p s.stop) := by
  obtain ⟨mk, mt, pv, h, g⟩ := h
  refine (stops_any p _ g.armed w (h.cell (i := 5) rfl) (h.frozen 4) (h.frozen 5) ⟨_, h.cell (i := 4) rfl⟩).mono ?_
  rintro e w' ⟨rfl, rfl⟩
  refine ⟨rfl, ?_⟩
  have t1 := h.turn (i := 4) (c' := Part.plain) (v' := .bool (s.armed == 1)) (w1 := w) rfl (Keeps.refl _ _) trivial (.inl rfl)
  refine t1.trans fun F1 h1 => ?_
  have t2 := h1.turn (i := 5) (c' := Part.plain) (v' := .int .i64 ((s.armed - 1 : Nat) : Int)) (w1 := _) rfl (Keeps.refl _ _) trivial (.inl rfl)
  exact t2.imp fun G h => ⟨mk, mt, pv, h, ⟨g.rk, g.rt, g.sk, g.st, g.sw, g.room, Nat.le_trans (Nat.sub_le _ _) g.armed⟩⟩
end Go.Proofs.Ytnijencmoceiaaa
