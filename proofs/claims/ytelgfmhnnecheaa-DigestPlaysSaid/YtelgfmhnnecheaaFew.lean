/-
  No statement is proved here: a slice of strings that came in, as a walk reads it ('Strs'); what 'few' tells of it. No condition.
-/
import Derived.Test.YtelgfmhnnecheaaRows
import Derived.Test.YtelgfmhnnecheaaSep
import Derived.ProofKit
namespace Go.Proofs.Ytelgfmhnnecheaa
open Go.RowKit Go.Maps

/-- A slice of strings that came in, as a walk reads it. -/
structure Strs (w : World) (a : Option Addr) (len cap : Nat) (b off : Nat) (ss : List ByteArray) : Prop where
  length : ss.length = len
  bound : len ≤ 9223372036854775807
  fits : ∀ j, j < len → (ss.getD j ByteArray.empty).size ≤ maxLen
  old : 0 < len → b < w.heap.size
  head : 0 < len → a = some ⟨b, off, none⟩
  cell : ∀ j, j < len → w.cell? ⟨b, off + j, none⟩ = some (.string (ss.getD j ByteArray.empty))

theorem Try.cells9 : Try.prog.cellsOf 9 = 1 := by kernel_rfl

theorem Strs.index {w : World} {a : Option Addr} {len cap b off : Nat} {ss : List ByteArray} (h : Strs w a len cap b off ss) (W : World) (j : Nat) (hj : j < len) :
    (Instr.indexAt 22 (.slice a len cap) (.int .i64 j)).run Try.prog W = .ok (.pointer (some ⟨b, off + j, none⟩)) W := by
  have e := h.head (by omega)
  subst e
  simp [Addr.add, hj, Try.underlying22, go_sem]

def fewB (ss : List ByteArray) : Bool := ss.all (fun s => decide (s.size ≤ 300)) && decide (ss.length ≤ 100)

theorem fewB_no {ss : List ByteArray} {k : Nat} (hk : k < ss.length) (h : 300 < (ss.getD k ByteArray.empty).size) : fewB ss = false := by
  unfold fewB
  have : ss.all (fun s => decide (s.size ≤ 300)) = false := by
    rw [List.all_eq_false]
    refine ⟨ss[k], List.getElem_mem hk, ?_⟩
    have e : ss.getD k ByteArray.empty = ss[k] := by simp [List.getD, hk]
    rw [e] at h
    simp; omega
  simp [this]

theorem fewB_yes {ss : List ByteArray} (h : ∀ k, k < ss.length → (ss.getD k ByteArray.empty).size ≤ 300) : fewB ss = decide (ss.length ≤ 100) := by
  unfold fewB
  have : ss.all (fun s => decide (s.size ≤ 300)) = true := by
    rw [List.all_eq_true]
    intro s hs
    obtain ⟨k, hk, rfl⟩ := List.getElem_of_mem hs
    have := h k hk
    have e : ss.getD k ByteArray.empty = ss[k] := by simp [List.getD, hk]
    rw [e] at this
    simpa using this
  simp [this]

set_option maxHeartbeats 400000 in
theorem few_any (a : Option Addr) (len cap b off : Nat) (ss : List ByteArray) (w : World) (hs : Strs w a len cap b off ss) :
    Calls Try.prog 9 #[.slice a len cap] w fun e w' => e = .returned (.bool (fewB ss)) ∧ w = w' := by
  have hb := hs.bound
  have hix := hs.index
  have hc := hs.cell
  have hfit := hs.fits
  have HL := Lib.hid hs.length
  go_enter Try.func9, Try.ntmps9
  go_wp2
  go_loop [3] (fun i => ∃ k : Nat, k ≤ len ∧ i = .int .i64 k ∧ ∀ j, j < k → (ss.getD j ByteArray.empty).size ≤ 300) (fun i => len - (intOf i).toNat)
  case atStart => exact ⟨0, Nat.zero_le _, rfl, fun j hj => by omega⟩
  case round =>
    obtain ⟨k, hk, rfl, hsm⟩ := hrel
    have H := Lib.hid hsm
    clear hsm
    by_cases hlt : k < len
    · have hck := hc k hlt
      have hxk := fun W => hix W k hlt
      have hfk := hfit k hlt
      obtain ⟨s, hs⟩ : ∃ s, s = ss.getD k ByteArray.empty := ⟨_, rfl⟩
      rw [← hs] at hck hfk
      have HS := Lib.hid hs
      clear hs hc hix hfit
      unfold maxLen at hfk
      go_wp2
      · have hbig : 300 < (s.size : Int) := by assumption
        go_ret
        exact ⟨ret_bool (fewB_no (k := k) (by rw [HL.out]; exact hlt) (by rw [← HS.out]; omega)).symm, rfl⟩
      · have hsmall : (s.size : Int) ≤ 300 := by assumption
        go_round
        case rel => exact ⟨k + 1, by omega, by go_num, fun j hj => by
          rcases Nat.lt_succ_iff_lt_or_eq.1 hj with h | h
          · exact H.out j h
          · subst h; rw [← HS.out]; omega⟩
        case measure => simp [intOf]; omega
    · have hkl : k = len := by omega
      have H2 := Lib.hid (fewB_yes (ss := ss) (fun j hj => H.out j (by have := HL.out; omega)))
      clear hc hix hfit hkl
      go_wp2
      go_ret
      refine ⟨ret_bool ?_, rfl⟩
      rw [H2.out, HL.out]
      simp only [decide_eq_decide]; omega

/-! ### from a reading of the arguments -/
theorem own : ownKnob Try.prog.godebug = none := by kernel_rfl
theorem laidOut : laidOutB Try.prog = true := by kernel_rfl

section
open Go.ChangeShapes Go.WideShapes Go.ChangeAt
theorem strs_of {H : Type} {enc : TypeId × Value → H} {W : World} {a : Option Addr} {len cap : Nat} {d : DataW H} {ps : List MemPlace}
    (h : DataW.Trod enc Try.prog W 0 (fun _ => true) true 22 (.slice a len cap) d ps) : ∃ b off ss, Strs W a len cap b off ss := by
  obtain ⟨fuel, hf⟩ := h
  rcases open_strings Try.underlying22 Try.underlying9 Try.cells9 hf with ⟨hcs, _⟩ | ⟨x, l, c, ss, hcs, _, hl, hm, hz, _, hcell, hws⟩
  · simp [Value.cells] at hcs
    obtain ⟨rfl, rfl, rfl⟩ := hcs
    exact ⟨0, 0, [], rfl, by omega, fun j hj => by omega, fun h => by omega, fun h => by omega, fun j hj => by omega⟩
  · simp [Value.cells] at hcs
    obtain ⟨rfl, rfl, rfl⟩ := hcs
    simp only [if_true] at hz
    obtain ⟨b, off, spot⟩ := x
    have hspot : 0 < len → spot = none := fun h0 => by simpa [Addr.add] using World.cell?_spot (hcell 0 (by omega))
    have hg : ∀ j, j < len → (ss.take len).getD j ByteArray.empty = ss.getD j ByteArray.empty := fun j hj => by simp [List.getD, hj]
    have hcell' : ∀ j, j < len → W.cell? ⟨b, off + j, none⟩ = some (.string (ss.getD j ByteArray.empty)) := fun j hj => by
      have := hcell j (by omega)
      have hs := hspot (by omega)
      subst hs
      rwa [Addr.add_lit] at this
    refine ⟨b, off, ss.take len, by simp; omega, by unfold maxLen at hm; omega, fun j hj => ?_, fun h0 => ?_, fun h0 => by rw [hspot h0], fun j hj => ?_⟩
    · rw [hg j hj]
      have : ss.getD j ByteArray.empty = ss[j] := by simp [List.getD, show j < ss.length by omega]
      rw [this]
      exact hws _ (List.getElem_mem _)
    · exact World.block_lt_of_cell? W _ (hcell' 0 h0)
    · rw [hg j hj]; exact hcell' j hj

end

theorem Strs.kept {w w' : World} {a : Option Addr} {len cap b off : Nat} {ss : List ByteArray} (h : Strs w a len cap b off ss) (hb : Below w.heap.size w w') : Strs w' a len cap b off ss :=
  ⟨h.length, h.bound, h.fits, fun h0 => Nat.lt_of_lt_of_le (h.old h0) hb.size, h.head, fun j hj => (hb.cell (p := ⟨b, off + j, none⟩) (h.old (by omega))).trans (h.cell j hj)⟩

end Go.Proofs.Ytelgfmhnnecheaa
