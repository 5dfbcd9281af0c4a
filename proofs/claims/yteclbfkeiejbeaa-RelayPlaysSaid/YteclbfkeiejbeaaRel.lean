/-
  No statement is proved here: what a relay keeps ('St'), the object that holds it ('Rel'), what each request makes of it; the relay's methods as contracts.
-/
import Derived.Test.YteclbfkeiejbeaaRows
import Derived.Test.YteclbfkeiejbeaaObj
import Derived.Test.YteclbfkeiejbeaaNear
import Derived.Maps.StringElems
namespace Go.Proofs.Yteclbfkeiejbeaa
open Go.RowKit Go.Maps

/-- An event. -/
structure Ev where
  actor : Int
  put : Bool
  name : Int
  value : Str
def evCells (e : Ev) : List Value := [.int .i64 e.actor, .bool e.put, .int .i64 e.name, str e.value]
/-- What a relay keeps. -/
structure St where
  kept : List (Int × Str)
  all : List Str
  seen : List Ev
  ways : List Int

def look (K : List (Int × Str)) (n : Int) : Option Str := (K.find? (fun x => x.1 == n)).map (·.2)
def lookD (K : List (Int × Str)) (n : Int) : Str := (look K n).getD []
/-- What a map reads as. -/
def Reads (D : DataW Unit) (K : List (Int × Str)) : Prop :=
  ∀ n, Maps.has D (.int .i64 n) = (look K n).isSome ∧ D.atKey (.int .i64 n) (.lit (.string [])) = .lit (.string (lookD K n))

theorem key3 : Keyed Try.prog 3 := int_keyed Try.underlying3
theorem zero9 (w : World) : (zeroValue 9).run Try.prog w = .ok (.string ByteArray.empty) w := by kernel_rfl
theorem Try.info9 : (Try.prog.info? 9).map (fun i => (i.zero, i.size, i.bytes)) = some (some (.string ByteArray.empty), 1, 16) := by kernel_rfl
theorem Try.info3 : (Try.prog.info? 3).map (fun i => (i.zero, i.size, i.bytes)) = some (some (.int .i64 0), 1, 8) := by kernel_rfl
theorem Try.info34 : (Try.prog.info? 34).map (fun i => (i.zero, i.size, i.bytes)) = some (some (.agg #[.int .i64 0, .bool false, .int .i64 0, .string ByteArray.empty]), 4, 40) := by kernel_rfl

/-- The relay behind the pointer to block p. -/
def Rel (p : Nat) (s : St) (w : World) (F : Nat → Prop) : Prop :=
  ∃ m sa ss sz D, Obj 49 p [.map (some m), sa, ss, sz] [Part.map Try.prog 3 (plainElem Try.prog 9) m s.all.length D, Part.row 9 1 sa s.all.length (s.all.map str), Part.row 34 4 ss s.seen.length (s.seen.flatMap evCells), Part.row 3 1 sz s.ways.length (s.ways.map (.int .i64))] w F ∧
    Reads D s.kept ∧ s.all.length ≤ s.seen.length ∧ (∀ x ∈ s.all, x.length ≤ 65535) ∧ (∀ n x, look s.kept n = some x → x.length ≤ 65535) ∧ (∀ z ∈ s.ways, z ≤ 9223372036854775807)
theorem Rel.framed (p : Nat) (s : St) : Framed (Rel p s) :=
  ⟨fun _ _ ⟨_, _, _, _, _, h, _⟩ => h.lt, fun _ _ _ _ ⟨_, _, _, _, _, h, r⟩ hk hd => ⟨_, _, _, _, _, h.kept hk hd, r⟩⟩

theorem row_shape {w : World} {e : TypeId} {size : Nat} {v : Value} {n : Nat} {xs : List Value} (h : w.ownsRow 0 e size v n xs) : ∃ a c, v = .slice a n c ∧ n ≤ c ∧ n ≤ maxLen := by
  rcases h.2 with ⟨h1, h2⟩ | ⟨g, cap, cur, hv, _, _, h2, h3, _⟩
  · exact ⟨none, 0, by rw [h1, h2], by omega, by omega⟩
  · exact ⟨_, cap, hv, h2, by omega⟩

theorem look_run {w : World} {m n : Nat} {D : DataW Unit} {K : List (Int × Str)} (h : w.ownsMap Try.prog 3 (plainElem Try.prog 9) m n D) (hr : Reads D K) {k : Int} (hk : (Lit.int .i64 k).wf = true) :
    (Instr.lookup 46 (.map (some m)) (.int .i64 k) true).run Try.prog w = .ok (.tuple #[str (lookD K k), .bool (look K k).isSome]) w := by
  obtain ⟨v, ps, hrun, hv⟩ := h.look_ok key3 Try.underlying46 (zero9 w) (plainElem_string Try.underlying9 (by decide)) (keyOf_int_mk Try.underlying3 hk)
  obtain ⟨s, rfl, hz, _⟩ := plainElem_string_inv Try.underlying9 hv
  have e1 := congrArg Prod.fst hz
  have e2 : D.atKey (.int .i64 k) (.lit (.string [])) = .lit (.string (lookD K k)) := (hr k).2
  have e3 : (DataW.lit (.string s.data.toList) : DataW Unit) = .lit (.string (lookD K k)) := e1.symm.trans e2
  have e4 : s.data.toList = lookD K k := by injection e3 with e3; injection e3
  rw [hrun, (hr k).1, str_of, e4]

set_option maxHeartbeats 400000 in
theorem has_any (p m : Nat) (v : Value) (t : Bool) (n : Int) (w : World) (h0 : w.cell? ⟨p, 0, none⟩ = some (.map (some m)))
    (hrun : (Instr.lookup 46 (.map (some m)) (.int .i64 n) true).run Try.prog w = .ok (.tuple #[v, .bool t]) w) :
    Calls Try.prog 16 #[.pointer (some ⟨p, 0, none⟩), .int .i64 n] w fun e w' => e = .returned (.tuple #[v, .bool t]) ∧ w = w' := by
  go_enter Try.func16, Try.ntmps16
  go_wp2
  go_ret2
  exact ⟨rfl, rfl⟩
theorem has_at {p : Nat} {s : St} {w : World} (h : ∃ F, Rel p s w F) (n : Int) (hn : (Lit.int .i64 n).wf = true) :
    Calls Try.prog 16 #[.pointer (some ⟨p, 0, none⟩), .int .i64 n] w fun e w' => e = .returned (.tuple #[str (lookD s.kept n), .bool (look s.kept n).isSome]) ∧ w = w' := by
  obtain ⟨F, m, sa, ss, sz, D, h, hr, _⟩ := h
  exact has_any p m _ _ n w (h.cell (i := 0) rfl) (look_run (h.part (i := 0) rfl) hr hn)

set_option maxHeartbeats 400000 in
theorem faithful_any (p : Nat) (w : World) (hf : w.frozen? ⟨p, 3, none⟩ = false) (hc : ∃ v, w.cell? ⟨p, 3, none⟩ = some v) :
    Calls Try.prog 11 #[.pointer (some ⟨p, 0, none⟩)] w fun e w' => e = .returned (.tuple #[]) ∧ w' = w.setCell ⟨p, 3, none⟩ (.slice none 0 0) := by
  obtain ⟨v, hc⟩ := hc
  go_enter Try.func11, Try.ntmps11
  go_wp2
  go_end0
  exact ⟨rfl, rfl⟩
end Go.Proofs.Yteclbfkeiejbeaa
