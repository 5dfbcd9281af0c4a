/-
  No statement is proved here: a slice of bools, a slice of pairs that came in, as a walk reads them.
-/
import Derived.Test.YtigloaabhcpcnaaOpen
import Derived.Deep.SlicePairs
namespace Go.Proofs.Ytigloaabhcpcnaa
open Go.RowKit

theorem Try.cells4 : Try.prog.cellsOf 4 = 1 := by kernel_rfl

/-- A slice of bools. -/
structure Bools (w : World) (a : Option Addr) (len cap : Nat) (b off : Nat) (f : Nat → Bool) : Prop where
  bound : len ≤ 9223372036854775807
  old : 0 < len → b < w.heap.size
  head : 0 < len → a = some ⟨b, off, none⟩
  cell : ∀ j, j < len → w.cell? ⟨b, off + j, none⟩ = some (.bool (f j))
theorem Bools.index {w : World} {a : Option Addr} {len cap b off : Nat} {f : Nat → Bool} (h : Bools w a len cap b off f) (W : World) (j : Nat) (hj : j < len) :
    (Instr.indexAt 44 (.slice a len cap) (.int .i64 j)).run Try.prog W = .ok (.pointer (some ⟨b, off + j, none⟩)) W := by
  have e := h.head (by omega)
  subst e
  simp [Addr.add, hj, Try.underlying44, go_sem]
theorem Bools.kept {w w' : World} {a : Option Addr} {len cap b off : Nat} {f : Nat → Bool} (h : Bools w a len cap b off f) (hb : Keeps (fun _ => False) w w') : Bools w' a len cap b off f :=
  ⟨h.bound, fun h0 => Nat.lt_of_lt_of_le (h.old h0) hb.size, h.head, fun j hj => (World.cell?_of_block (w := w) (hb.block b (h.old (by omega)) (fun h => h))).trans (h.cell j hj)⟩

/-- A slice of pairs. -/
structure Pairs (w : World) (a : Option Addr) (len cap : Nat) (b off : Nat) (f : Nat → Int × Int) : Prop where
  bound : len ≤ 9223372036854775807
  old : 0 < len → b < w.heap.size
  head : 0 < len → a = some ⟨b, off, none⟩
  fst : ∀ j, j < len → w.cell? ⟨b, off + j * 2, none⟩ = some (.int .i64 (f j).1)
  snd : ∀ j, j < len → w.cell? ⟨b, off + j * 2 + 1, none⟩ = some (.int .i64 (f j).2)
theorem Pairs.index {w : World} {a : Option Addr} {len cap b off : Nat} {f : Nat → Int × Int} (h : Pairs w a len cap b off f) (W : World) (j : Nat) (hj : j < len) :
    (Instr.indexAt 47 (.slice a len cap) (.int .i64 j)).run Try.prog W = .ok (.pointer (some ⟨b, off + j * 2, none⟩)) W := by
  have e := h.head (by omega)
  subst e
  simp [Addr.add, hj, Try.underlying47, go_sem]
theorem Pairs.kept {w w' : World} {a : Option Addr} {len cap b off : Nat} {f : Nat → Int × Int} (h : Pairs w a len cap b off f) (hb : Keeps (fun _ => False) w w') : Pairs w' a len cap b off f :=
  ⟨h.bound, fun h0 => Nat.lt_of_lt_of_le (h.old h0) hb.size, h.head, fun j hj => (World.cell?_of_block (w := w) (hb.block b (h.old (by omega)) (fun h => h))).trans (h.fst j hj),
    fun j hj => (World.cell?_of_block (w := w) (hb.block b (h.old (by omega)) (fun h => h))).trans (h.snd j hj)⟩

section
open Go.ChangeShapes Go.WideShapes Go.ChangeAt
theorem bools_of {H : Type} {enc : TypeId × Value → H} {W : World} {a : Option Addr} {len cap : Nat} {d : DataW H} {ps : List MemPlace}
    (h : DataW.Trod enc Try.prog W 0 (fun _ => true) true 44 (.slice a len cap) d ps) : ∃ b off f, Bools W a len cap b off f := by
  obtain ⟨fuel, hf⟩ := h
  rcases Deep.open_slice1 Try.underlying44 Try.cells4 hf with ⟨hcs, _⟩ | ⟨x, l, c, m, n, V, D, Pl, hcs, _, hl, hm, hmm, _, hV⟩
  · simp [Value.cells] at hcs
    obtain ⟨rfl, rfl, rfl⟩ := hcs
    exact ⟨0, 0, fun _ => false, by omega, fun h => by omega, fun h => by omega, fun j hj => by omega⟩
  · simp [Value.cells] at hcs
    obtain ⟨rfl, rfl, rfl⟩ := hcs
    simp only [if_true] at hmm
    obtain ⟨b, off, spot⟩ := x
    have hspot : 0 < len → spot = none := fun h0 => by simpa [Addr.add] using World.cell?_spot (hV 0 (by omega)).1
    have hcell : ∀ j, j < len → ∃ t : Bool, W.cell? ⟨b, off + j, none⟩ = some (.bool t) := fun j hj => by
      obtain ⟨h1, h2⟩ := hV j (by omega)
      obtain ⟨t, e, _⟩ := DataW.trod_bool Try.underlying4 h2
      simp at e
      have hs := hspot (by omega)
      subst hs
      rw [e, Addr.add_lit] at h1
      exact ⟨t, h1⟩
    obtain ⟨f, hf⟩ := Deep.choose_lt hcell
    exact ⟨b, off, f, by unfold maxLen at hm; omega, fun h0 => World.block_lt_of_cell? W _ (hf 0 h0), fun h0 => by rw [hspot h0], hf⟩
theorem pairs_of {H : Type} {enc : TypeId × Value → H} {W : World} {a : Option Addr} {len cap : Nat} {d : DataW H} {ps : List MemPlace}
    (h : DataW.Trod enc Try.prog W 0 (fun _ => true) true 47 (.slice a len cap) d ps) : ∃ b off f, Pairs W a len cap b off f := by
  obtain ⟨fuel, hf⟩ := h
  rcases Deep.open_slice_pairs Try.underlying47 Try.underlying23 Try.cells23 rfl rfl Try.cells3 Try.cells3 hf with ⟨hcs, _⟩ | ⟨x, l, c, m, n, V0, V1, D0, D1, P0, P1, hcs, _, hl, hm, hmm, _, hV⟩
  · simp [Value.cells] at hcs
    obtain ⟨rfl, rfl, rfl⟩ := hcs
    exact ⟨0, 0, fun _ => (0, 0), by omega, fun h => by omega, fun h => by omega, fun j hj => by omega, fun j hj => by omega⟩
  · simp [Value.cells] at hcs
    obtain ⟨rfl, rfl, rfl⟩ := hcs
    simp only [if_true] at hmm
    obtain ⟨b, off, spot⟩ := x
    have hspot : 0 < len → spot = none := fun h0 => by simpa [Addr.add] using World.cell?_spot (hV 0 (by omega)).1
    have hcell : ∀ j, j < len → ∃ t : Int × Int, W.cell? ⟨b, off + j * 2, none⟩ = some (.int .i64 t.1) ∧ W.cell? ⟨b, off + j * 2 + 1, none⟩ = some (.int .i64 t.2) := fun j hj => by
      obtain ⟨h1, h2, h3, h4⟩ := hV j (by omega)
      obtain ⟨t, e, _⟩ := DataW.trod_int Try.underlying3 h3
      obtain ⟨u, e', _⟩ := DataW.trod_int Try.underlying3 h4
      simp at e e'
      have hs := hspot (by omega)
      subst hs
      rw [e, Addr.add_lit] at h1
      rw [e', Addr.add_lit] at h2
      exact ⟨(t, u), h1, by rw [Nat.add_assoc]; exact h2⟩
    obtain ⟨f, hf⟩ := Deep.choose_lt hcell
    exact ⟨b, off, f, by unfold maxLen at hm; omega, fun h0 => World.block_lt_of_cell? W _ (hf 0 h0).1, fun h0 => by rw [hspot h0], fun j hj => (hf j hj).1, fun j hj => (hf j hj).2⟩
end
end Go.Proofs.Ytigloaabhcpcnaa
