/-
  No statement is proved here: a slice of ints, a slice of events that came in, as a walk reads them; 'few'.
-/
import Derived.Test.YteclbfkeiejbeaaNew
import Derived.ProofKit
import Derived.OpenShut
import Derived.Deep.SlicePairs
import Derived.SizedLaws
namespace Go.Proofs.Yteclbfkeiejbeaa
open Go.RowKit Go.Maps

theorem own : ownKnob Try.prog.godebug = none := by kernel_rfl
theorem laidOut : laidOutB Try.prog = true := by kernel_rfl
theorem Try.cells3 : Try.prog.cellsOf 3 = 1 := by kernel_rfl
theorem Try.cells4 : Try.prog.cellsOf 4 = 1 := by kernel_rfl
theorem Try.cells9 : Try.prog.cellsOf 9 = 1 := by kernel_rfl
theorem Try.cells34 : Try.prog.cellsOf 34 = 4 := by kernel_rfl

/-- An event as it lies in memory. -/
structure EvB where
  actor : Int
  put : Bool
  name : Int
  value : ByteArray
instance : Inhabited EvB := ⟨⟨0, false, 0, ByteArray.empty⟩⟩
def EvB.ev (e : EvB) : Ev := ⟨e.actor, e.put, e.name, e.value.data.toList⟩
def EvB.cells (e : EvB) : List Value := [.int .i64 e.actor, .bool e.put, .int .i64 e.name, .string e.value]
theorem EvB.cells_eq (e : EvB) : evCells e.ev = e.cells := by simp [evCells, EvB.ev, EvB.cells, ← str_of]

/-- A slice of events that came in. -/
structure Evs (w : World) (a : Option Addr) (len cap : Nat) (b off : Nat) (f : Nat → EvB) : Prop where
  bound : len ≤ 9223372036854775807
  old : 0 < len → b < w.heap.size
  head : 0 < len → a = some ⟨b, off, none⟩
  c0 : ∀ j, j < len → w.cell? ⟨b, off + j * 4, none⟩ = some (.int .i64 (f j).actor)
  c1 : ∀ j, j < len → w.cell? ⟨b, off + j * 4 + 1, none⟩ = some (.bool (f j).put)
  c2 : ∀ j, j < len → w.cell? ⟨b, off + j * 4 + 2, none⟩ = some (.int .i64 (f j).name)
  c3 : ∀ j, j < len → w.cell? ⟨b, off + j * 4 + 3, none⟩ = some (.string (f j).value)
  wf : ∀ j, j < len → (Lit.int .i64 (f j).name).wf = true
  fits : ∀ j, j < len → (f j).value.size ≤ maxLen
theorem Evs.index {w : World} {a : Option Addr} {len cap b off : Nat} {f : Nat → EvB} (h : Evs w a len cap b off f) (W : World) (j : Nat) (hj : j < len) :
    (Instr.indexAt 23 (.slice a len cap) (.int .i64 j)).run Try.prog W = .ok (.pointer (some ⟨b, off + j * 4, none⟩)) W := by
  have e := h.head (by omega)
  subst e
  simp [Addr.add, hj, Try.underlying23, go_sem]
theorem Evs.kept {w w' : World} {a : Option Addr} {len cap b off : Nat} {f : Nat → EvB} (h : Evs w a len cap b off f) (hb : Below w.heap.size w w') : Evs w' a len cap b off f :=
  ⟨h.bound, fun h0 => Nat.lt_of_lt_of_le (h.old h0) hb.size, h.head, fun j hj => (hb.cell (p := ⟨b, _, none⟩) (h.old (by omega))).trans (h.c0 j hj), fun j hj => (hb.cell (p := ⟨b, _, none⟩) (h.old (by omega))).trans (h.c1 j hj),
    fun j hj => (hb.cell (p := ⟨b, _, none⟩) (h.old (by omega))).trans (h.c2 j hj), fun j hj => (hb.cell (p := ⟨b, _, none⟩) (h.old (by omega))).trans (h.c3 j hj), h.wf, h.fits⟩

section
open Go.ChangeShapes Go.WideShapes Go.ChangeAt
theorem events_of {H : Type} {enc : TypeId × Value → H} {W : World} {a : Option Addr} {len cap : Nat} {d : DataW H} {ps : List MemPlace}
    (h : DataW.Trod enc Try.prog W 0 (fun _ => true) true 23 (.slice a len cap) d ps) : ∃ b off f, Evs W a len cap b off f := by
  obtain ⟨fuel, hf⟩ := h
  rcases Deep.open_slice Try.underlying23 hf with ⟨hcs, _⟩ | ⟨x, l, c, m, n, D, Pl, hcs, _, hl, hm, hmm, _, hV⟩
  · simp [Value.cells] at hcs
    obtain ⟨rfl, rfl, rfl⟩ := hcs
    exact ⟨0, 0, fun _ => ⟨0, false, 0, ByteArray.empty⟩, by omega, fun h => by omega, fun h => by omega, fun j hj => by omega, fun j hj => by omega, fun j hj => by omega, fun j hj => by omega, fun j hj => by omega, fun j hj => by omega⟩
  · simp [Value.cells] at hcs
    obtain ⟨rfl, rfl, rfl⟩ := hcs
    simp only [if_true] at hmm
    have each : ∀ i, i < len → ∃ e : EvB, W.cell? (x.add (i * 4)) = some (.int .i64 e.actor) ∧ W.cell? (x.add (i * 4 + 1)) = some (.bool e.put) ∧ W.cell? (x.add (i * 4 + 2)) = some (.int .i64 e.name) ∧ W.cell? (x.add (i * 4 + 3)) = some (.string e.value) ∧
        (Lit.int .i64 e.name).wf = true ∧ e.value.size ≤ maxLen := by
      intro i hi
      obtain ⟨cs', h1, h2⟩ := hV i (by omega)
      rw [Try.cells34] at h1
      obtain ⟨_, hlen, hcell⟩ := World.cells?_some h1
      obtain ⟨xs, k, hk, hxy, _, hxl, hf⟩ := DataW.trod_struct Try.underlying34 h2
      match cs', hlen with
      | [v0, v1, v2, v3], _ =>
        obtain ⟨y0, y1, y2, y3, rfl⟩ : ∃ y0 y1 y2 y3, xs = [y0, y1, y2, y3] := by
          match xs, hxl with
          | [y0, y1, y2, y3], _ => exact ⟨y0, y1, y2, y3, rfl⟩
        have g0 := hf 0 _ rfl
        have g1 := hf 1 _ rfl
        have g2 := hf 2 _ rfl
        have g3 := hf 3 _ rfl
        simp [Try.cells3, Try.cells4, Try.cells9] at g0 g1 g2 g3
        obtain ⟨za, e0, _⟩ := DataW.trod_int Try.underlying3 g0
        obtain ⟨zb, e1, _⟩ := DataW.trod_bool Try.underlying4 g1
        obtain ⟨zc, e2, _, w2⟩ := DataW.trod_int Try.underlying3 g2
        obtain ⟨zd, e3, _, w3⟩ := DataW.trod_string Try.underlying9 g3
        simp at e0 e1 e2 e3
        subst e0 e1 e2 e3
        have q0 := hcell 0 (by omega)
        have q1 := hcell 1 (by omega)
        have q2 := hcell 2 (by omega)
        have q3 := hcell 3 (by omega)
        rw [Deep.add_add] at q0 q1 q2 q3
        exact ⟨⟨za, zb, zc, zd⟩, by simpa using q0, by simpa using q1, by simpa using q2, by simpa using q3, w2, w3⟩
    obtain ⟨f, hf⟩ := Deep.choose_lt each
    obtain ⟨b, off, spot⟩ := x
    have hspot : 0 < len → spot = none := fun h0 => by simpa [Addr.add] using World.cell?_spot (hf 0 (by omega)).1
    have at' : ∀ j i, j < len → (⟨b, off, spot⟩ : Addr).add i = ⟨b, off + i, none⟩ := fun j i hj => by
      have hs := hspot (by omega)
      subst hs
      exact Addr.add_lit _ _ _
    refine ⟨b, off, f, by unfold maxLen at hm; omega, fun h0 => ?_, fun h0 => by rw [hspot h0], fun j hj => ?_, fun j hj => ?_, fun j hj => ?_, fun j hj => ?_, fun j hj => (hf j hj).2.2.2.2.1, fun j hj => (hf j hj).2.2.2.2.2⟩
    · have := (hf 0 h0).1
      rw [at' 0 _ h0] at this
      exact World.block_lt_of_cell? W _ this
    · have := (hf j hj).1; rwa [at' j _ hj] at this
    · have := (hf j hj).2.1; rwa [at' j _ hj] at this
    · have := (hf j hj).2.2.1; rwa [at' j _ hj] at this
    · have := (hf j hj).2.2.2.1; rwa [at' j _ hj] at this

/-- A slice of ints that came in: its cells, as they are copied; how much it weighs is within the reach. -/
theorem ints_of {H : Type} {enc : TypeId × Value → H} {W : World} {a : Option Addr} {len cap : Nat} {d : DataW H} {ps : List MemPlace}
    (h : DataW.Trod enc Try.prog W 0 (fun _ => true) true 22 (.slice a len cap) d ps) (hs : ∀ el sp, d = .slice el sp → (el.length + sp.length) * 8 ≤ 140737488355328) :
    ∃ zs : List Int, Src W a len cap 1 (zs.map (.int .i64)) ∧ (∀ z ∈ zs, z ≤ 9223372036854775807) ∧ len * 8 ≤ 140737488355328 ∧ len ≤ maxLen := by
  obtain ⟨fuel, hf⟩ := h
  rcases open_ints Try.underlying22 Try.underlying3 Try.cells3 hf with ⟨hcs, _⟩ | ⟨x, l, c, zs, hcs, _, hl, hm, hz, hd, hcell, hwf⟩
  · simp [Value.cells] at hcs
    obtain ⟨rfl, rfl, rfl⟩ := hcs
    exact ⟨[], ⟨rfl, fun _ => ⟨rfl, rfl⟩, (fun _ e => by cases e), by simp⟩, by simp, by omega, by omega⟩
  · simp [Value.cells] at hcs
    obtain ⟨rfl, rfl, rfl⟩ := hcs
    simp only [if_true] at hz
    have e1 := congrArg Prod.fst hd
    have hw := hs _ _ e1
    have hsum : (lits (H := H) .i64 (zs.take len)).length + (lits (H := H) .i64 (zs.drop len)).length = zs.length := by
      simp [lits]; omega
    rw [hsum] at hw
    refine ⟨zs.take len, ⟨by simp; omega, (fun e => by cases e), (fun ad e j u hu => ?_), ?_⟩, ?_, by omega, by omega⟩
    · cases e
      have hj : j < len := by
        have := (List.getElem?_eq_some_iff.1 hu).1
        simp at this; omega
      have := hcell j (by omega)
      rw [this]
      have hjz : j < zs.length := by omega
      simp [hj, hjz] at hu
      rw [← hu]; simp [List.getD, hjz]
    · intro u hu
      obtain ⟨z, _, rfl⟩ := List.mem_map.1 hu
      rfl
    · intro z hz
      have := hwf z (List.mem_of_mem_take hz)
      simp [Lit.wf, IntKind.min, IntKind.max, IntKind.signed, IntKind.bits] at this
      omega
end

/-- What 'few' says. -/
def FewEnd (f : Nat → EvB) (len : Nat) (w : World) (e : Ending) (w' : World) : Prop := ∃ t : Bool, e = .returned (.bool t) ∧ w = w' ∧ (t = true → len ≤ 150 ∧ ∀ j, j < len → (f j).value.size ≤ 300)

set_option maxHeartbeats 400000 in
/-- 'few'. -/
theorem few_any (a : Option Addr) (len cap b off : Nat) (f : Nat → EvB) (w : World) (h : Evs w a len cap b off f) :
    Calls Try.prog 9 #[.slice a len cap] w (FewEnd f len w) := by
  have hix := h.index
  have hc3 := h.c3
  have hb := h.bound
  have hfit := h.fits
  clear h
  go_enter Try.func9, Try.ntmps9
  go_wp2
  go_loop [3] (fun i => ∃ k : Nat, k ≤ len ∧ i = .int .i64 k ∧ ∀ j, j < k → (f j).value.size ≤ 300) (fun i => len - (intOf i).toNat)
  case atStart => exact ⟨0, Nat.zero_le _, rfl, fun j hj => by omega⟩
  case round =>
    obtain ⟨k, hk, rfl, hn⟩ := hrel
    have HN := Lib.hid hn
    clear hn
    by_cases hlt : k < len
    · have hck := hc3 k hlt
      have hxk := fun W => hix W k hlt
      have hfk := hfit k hlt
      obtain ⟨x, hx⟩ : ∃ x, x = (f k).value := ⟨_, rfl⟩
      rw [← hx] at hck hfk
      unfold maxLen at hfk
      by_cases hs : 300 < x.size
      · clear hc3 hix hfit hx
        go_wp2
        go_ret
        exact ⟨false, rfl, rfl, fun h => by cases h⟩
      · have HX : Hid (∀ j, j < k + 1 → (f j).value.size ≤ 300) := Lib.hid (fun j hj => by
          by_cases e : j = k
          · subst e; rw [← hx]; omega
          · exact HN.out j (by omega))
        clear hc3 hix hfit hx
        go_wp2
        go_round
        case rel => exact ⟨k + 1, by omega, by go_num, HX.out⟩
        case measure => simp [intOf]; omega
    · obtain rfl : k = len := by omega
      clear hc3 hix hfit
      go_wp2
      go_ret
      exact ⟨decide ((k : Int) ≤ 150), rfl, rfl, fun h => ⟨by simp at h; omega, HN.out⟩⟩
end Go.Proofs.Yteclbfkeiejbeaa
