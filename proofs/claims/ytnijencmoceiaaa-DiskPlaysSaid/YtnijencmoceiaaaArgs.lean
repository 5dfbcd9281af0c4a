/-
  No statement is proved here: what a walk knows of the program as a whole; a slice of steps, a slice of ints that came in, as a walk reads it; 'few'.
-/
import Derived.Test.YtnijencmoceiaaaSmall
import Derived.ProofKit
import Derived.OpenShut
import Derived.Deep.SlicePairs
import Derived.SizedLaws
namespace Go.Proofs.Ytnijencmoceiaaa
set_option linter.unusedVariables false
open Go.RowKit Go.Maps

theorem own : ownKnob Try.prog.godebug = none := by kernel_rfl
theorem laidOut : laidOutB Try.prog = true := by kernel_rfl
theorem Try.cells3 : Try.prog.cellsOf 3 = 1 := by kernel_rfl
theorem Try.cells9 : Try.prog.cellsOf 9 = 1 := by kernel_rfl
theorem Try.cells29 : Try.prog.cellsOf 29 = 1 := by kernel_rfl
theorem Try.cells31 : Try.prog.cellsOf 31 = 4 := by kernel_rfl

/-- What a call is, by its number's last three bits. -/
def kindOf (x : Int) : Nat := (bits .and .i64 x 7).toNat
theorem kind_eq (x : Int) : bits .and .i64 x 7 = (kindOf x : Int) ∧ kindOf x < 8 := by
  have h : bits .and .i64 x 7 = IntKind.i64.wrap ((BitVec.ofInt 64 x &&& BitVec.ofInt 64 7).toNat : Int) := rfl
  have h2 : (BitVec.ofInt 64 x &&& BitVec.ofInt 64 7).toNat ≤ 7 := by
    rw [BitVec.toNat_and]
    exact Nat.le_trans Nat.and_le_right (by decide)
  have h3 : IntKind.i64.wrap ((BitVec.ofInt 64 x &&& BitVec.ofInt 64 7).toNat : Int) = ((BitVec.ofInt 64 x &&& BitVec.ofInt 64 7).toNat : Int) := IntWalk.i64_in _ (by omega)
  unfold kindOf
  rw [h, h3]
  constructor
  · rw [Int.toNat_natCast]
  · rw [Int.toNat_natCast]; omega

/-- A step as it lies in memory; its slice's head, its numbers. -/
structure StpB where
  which : Int
  a : ByteArray
  b : ByteArray
  nh : Option Addr
  nl : Nat
  nc : Nat
  nb : Nat
  no : Nat
  z : Nat → Int
instance : Inhabited StpB := ⟨⟨0, ByteArray.empty, ByteArray.empty, none, 0, 0, 0, 0, fun _ => 0⟩⟩

/-- A slice of steps that came in. -/
structure Stps (w : World) (a : Option Addr) (len cap : Nat) (b off : Nat) (f : Nat → StpB) : Prop where
  bound : len ≤ 9223372036854775807
  capb : len ≤ cap ∧ cap ≤ 9223372036854775807
  old : 0 < len → b < w.heap.size
  head : 0 < len → a = some ⟨b, off, none⟩
  c0 : ∀ j, j < len → w.cell? ⟨b, off + j * 4, none⟩ = some (.int .i64 (f j).which)
  c1 : ∀ j, j < len → w.cell? ⟨b, off + j * 4 + 1, none⟩ = some (.string (f j).a)
  c2 : ∀ j, j < len → w.cell? ⟨b, off + j * 4 + 2, none⟩ = some (.string (f j).b)
  c3 : ∀ j, j < len → w.cell? ⟨b, off + j * 4 + 3, none⟩ = some (.slice (f j).nh (f j).nl (f j).nc)
  ints : ∀ j, j < len → Ints w (fun b => w.heap.size ≤ b) (f j).nh (f j).nl (f j).nb (f j).no (f j).z
  nold : ∀ j, j < len → 0 < (f j).nl → (f j).nb < w.heap.size
  fa : ∀ j, j < len → (f j).a.size ≤ maxLen
  fb : ∀ j, j < len → (f j).b.size ≤ maxLen
theorem Stps.index {w : World} {a : Option Addr} {len cap b off : Nat} {f : Nat → StpB} (h : Stps w a len cap b off f) (W : World) (j : Nat) (hj : j < len) :
    (Instr.indexAt 22 (.slice a len cap) (.int .i64 j)).run Try.prog W = .ok (.pointer (some ⟨b, off + j * 4, none⟩)) W := by
  have e := h.head (by omega)
  subst e
  simp [Addr.add, hj, Try.underlying22, go_sem]
theorem Stps.kept {w w' : World} {a : Option Addr} {len cap b off : Nat} {f : Nat → StpB} (h : Stps w a len cap b off f) (hb : Below w.heap.size w w') : Stps w' a len cap b off f :=
  ⟨h.bound, h.capb, fun h0 => Nat.lt_of_lt_of_le (h.old h0) hb.size, h.head, fun j hj => (hb.cell (p := ⟨b, _, none⟩) (h.old (by omega))).trans (h.c0 j hj), fun j hj => (hb.cell (p := ⟨b, _, none⟩) (h.old (by omega))).trans (h.c1 j hj),
    fun j hj => (hb.cell (p := ⟨b, _, none⟩) (h.old (by omega))).trans (h.c2 j hj), fun j hj => (hb.cell (p := ⟨b, _, none⟩) (h.old (by omega))).trans (h.c3 j hj),
    fun j hj => ⟨(h.ints j hj).bound, (h.ints j hj).head, fun i hi => (hb.cell (p := ⟨(f j).nb, _, none⟩) (h.nold j hj (by omega))).trans ((h.ints j hj).cell i hi), fun h0 hg => by have := h.nold j hj h0; have := hb.size; omega, (h.ints j hj).fits, (h.ints j hj).past⟩,
    fun j hj h0 => Nat.lt_of_lt_of_le (h.nold j hj h0) hb.size, h.fa, h.fb⟩

section
open Go.ChangeShapes Go.WideShapes Go.ChangeAt
set_option maxRecDepth 100000 in
/-- A slice of ints that came in, or lies within what came in. -/
theorem ints_in {H : Type} {enc : TypeId × Value → H} {W : World} {m : Nat} {cs : List Value} {x : DataW H × List MemPlace}
    (h : DataW.trod enc Try.prog W 0 (fun _ => true) true m 29 cs = some x) : ∃ a len cap b off z, cs = [.slice a len cap] ∧ Ints W (fun b => W.heap.size ≤ b) a len b off z ∧ (0 < len → b < W.heap.size) := by
  rcases open_ints Try.underlying29 Try.underlying3 Try.cells3 h with ⟨hcs, _⟩ | ⟨x, l, c, zs, hcs, _, hl, hm, hz, hd, hcell, hwf⟩
  · subst hcs
    exact ⟨none, 0, 0, 0, 0, fun _ => 0, rfl, ints_nil _ _, fun h => by omega⟩
  · subst hcs
    simp only [if_true] at hz
    obtain ⟨b, off, spot⟩ := x
    have hspot : 0 < l → spot = none := fun h0 => by
      have := hcell 0 (by omega)
      simpa [Addr.add] using World.cell?_spot this
    have hold : 0 < l → b < W.heap.size := fun h0 => World.block_lt_of_cell? W _ (hcell 0 (by omega))
    refine ⟨some ⟨b, off, spot⟩, l, c, b, off, fun j => if j < l then zs.getD j 0 else 0, rfl, ⟨by unfold maxLen at hm; omega, fun h0 => by rw [hspot h0], fun j hj => ?_, fun h0 hg => by have := hold h0; omega, fun j hj => ?_, fun j hj => by simp; omega⟩, hold⟩
    · have := hcell j (by omega)
      rw [hspot (by omega), Addr.add_lit] at this
      simp only [hj, if_true]
      exact this
    · simp only [hj, if_true]
      have hjz : j < zs.length := by omega
      have := hwf zs[j] (List.getElem_mem hjz)
      simp [Lit.wf, IntKind.min, IntKind.max, IntKind.signed, IntKind.bits] at this
      simp [List.getD, hjz]; omega
set_option maxRecDepth 100000 in
theorem ints_of {H : Type} {enc : TypeId × Value → H} {W : World} {a : Option Addr} {len cap : Nat} {d : DataW H} {ps : List MemPlace}
    (h : DataW.Trod enc Try.prog W 0 (fun _ => true) true 29 (.slice a len cap) d ps) : ∃ b off z, Ints W (fun b => W.heap.size ≤ b) a len b off z := by
  obtain ⟨fuel, hf⟩ := h
  obtain ⟨a', l', c', b, off, z, hcs, hi, _⟩ := ints_in hf
  simp [Value.cells] at hcs
  obtain ⟨rfl, rfl, rfl⟩ := hcs
  exact ⟨b, off, z, hi⟩

set_option maxRecDepth 100000 in
theorem steps_of {H : Type} {enc : TypeId × Value → H} {W : World} {a : Option Addr} {len cap : Nat} {d : DataW H} {ps : List MemPlace}
    (h : DataW.Trod enc Try.prog W 0 (fun _ => true) true 22 (.slice a len cap) d ps) : ∃ b off f, Stps W a len cap b off f := by
  obtain ⟨fuel, hf⟩ := h
  rcases Deep.open_slice Try.underlying22 hf with ⟨hcs, _⟩ | ⟨x, l, c, m, n, D, Pl, hcs, _, hl, hm, hmm, _, hV⟩
  · simp [Value.cells] at hcs
    obtain ⟨rfl, rfl, rfl⟩ := hcs
    exact ⟨0, 0, fun _ => default, by omega, by omega, fun h => by omega, fun h => by omega, fun j hj => by omega, fun j hj => by omega, fun j hj => by omega, fun j hj => by omega, fun j hj => by omega, fun j hj => by omega, fun j hj => by omega, fun j hj => by omega⟩
  · simp [Value.cells] at hcs
    obtain ⟨rfl, rfl, rfl⟩ := hcs
    simp only [if_true] at hmm
    have each : ∀ i, i < len → ∃ e : StpB, W.cell? (x.add (i * 4)) = some (.int .i64 e.which) ∧ W.cell? (x.add (i * 4 + 1)) = some (.string e.a) ∧ W.cell? (x.add (i * 4 + 2)) = some (.string e.b) ∧ W.cell? (x.add (i * 4 + 3)) = some (.slice e.nh e.nl e.nc) ∧
        Ints W (fun b => W.heap.size ≤ b) e.nh e.nl e.nb e.no e.z ∧ (0 < e.nl → e.nb < W.heap.size) ∧ e.a.size ≤ maxLen ∧ e.b.size ≤ maxLen := by
      intro i hi
      obtain ⟨cs', h1, h2⟩ := hV i (by omega)
      rw [Try.cells31] at h1
      obtain ⟨_, hlen, hcell⟩ := World.cells?_some h1
      obtain ⟨xs, k, hk, hxy, _, hxl, hf⟩ := DataW.trod_struct Try.underlying31 h2
      match cs', hlen with
      | [v0, v1, v2, v3], _ =>
        obtain ⟨y0, y1, y2, y3, rfl⟩ : ∃ y0 y1 y2 y3, xs = [y0, y1, y2, y3] := by
          match xs, hxl with
          | [y0, y1, y2, y3], _ => exact ⟨y0, y1, y2, y3, rfl⟩
        have g0 := hf 0 _ rfl
        have g1 := hf 1 _ rfl
        have g2 := hf 2 _ rfl
        have g3 := hf 3 _ rfl
        simp [Try.cells3, Try.cells9, Try.cells29] at g0 g1 g2 g3
        obtain ⟨za, e0, _⟩ := DataW.trod_int Try.underlying3 g0
        obtain ⟨zb, e1, _, w1⟩ := DataW.trod_string Try.underlying9 g1
        obtain ⟨zc, e2, _, w2⟩ := DataW.trod_string Try.underlying9 g2
        obtain ⟨na, nl, nc, nb, no, z, e3, hi3, hold⟩ := ints_in g3
        simp at e0 e1 e2 e3
        subst e0 e1 e2 e3
        have q0 := hcell 0 (by omega)
        have q1 := hcell 1 (by omega)
        have q2 := hcell 2 (by omega)
        have q3 := hcell 3 (by omega)
        rw [Deep.add_add] at q0 q1 q2 q3
        exact ⟨⟨za, zb, zc, na, nl, nc, nb, no, z⟩, by simpa using q0, by simpa using q1, by simpa using q2, by simpa using q3, hi3, hold, w1, w2⟩
    obtain ⟨f, hf⟩ := Deep.choose_lt each
    obtain ⟨b, off, spot⟩ := x
    have hspot : 0 < len → spot = none := fun h0 => by simpa [Addr.add] using World.cell?_spot (hf 0 (by omega)).1
    have at' : ∀ j i, j < len → (⟨b, off, spot⟩ : Addr).add i = ⟨b, off + i, none⟩ := fun j i hj => by
      have hs := hspot (by omega)
      subst hs
      exact Addr.add_lit _ _ _
    refine ⟨b, off, f, by unfold maxLen at hm; omega, by unfold maxLen at hm; omega, fun h0 => ?_, fun h0 => by rw [hspot h0], fun j hj => ?_, fun j hj => ?_, fun j hj => ?_, fun j hj => ?_, fun j hj => (hf j hj).2.2.2.2.1, fun j hj => (hf j hj).2.2.2.2.2.1, fun j hj => (hf j hj).2.2.2.2.2.2.1, fun j hj => (hf j hj).2.2.2.2.2.2.2⟩
    · have := (hf 0 h0).1
      rw [at' 0 _ h0] at this
      exact World.block_lt_of_cell? W _ this
    · have := (hf j hj).1; rwa [at' j _ hj] at this
    · have := (hf j hj).2.1; rwa [at' j _ hj] at this
    · have := (hf j hj).2.2.1; rwa [at' j _ hj] at this
    · have := (hf j hj).2.2.2.1; rwa [at' j _ hj] at this
end

/-- What 'few' says. -/
def FewEnd (f : Nat → StpB) (len : Nat) (w : World) (e : Ending) (w' : World) : Prop := ∃ t : Bool, e = .returned (.bool t) ∧ w = w' ∧ (t = true → len ≤ 60 ∧ ∀ j, j < len → (f j).a.size ≤ 200 ∧ (f j).b.size ≤ 500 ∧ (f j).nl ≤ 50)

set_option maxRecDepth 100000 in
set_option maxHeartbeats 1000000 in
/-- 'few'. -/
theorem few_any (a : Option Addr) (len cap b off : Nat) (f : Nat → StpB) (w : World) (h : Stps w a len cap b off f) :
    Calls Try.prog 10 #[.slice a len cap] w (FewEnd f len w) := by
  have hb := h.bound
  have H := Lib.hid h
  clear h
  go_enter Try.func10, Try.ntmps10
  go_wp2
  go_loop [3] (fun i => ∃ k : Nat, k ≤ len ∧ i = .int .i64 k ∧ ∀ j, j < k → (f j).a.size ≤ 200 ∧ (f j).b.size ≤ 500 ∧ (f j).nl ≤ 50) (fun i => len - (intOf i).toNat)
  case atStart => exact ⟨0, Nat.zero_le _, rfl, fun j hj => by omega⟩
  case round =>
    obtain ⟨k, hk, rfl, hn⟩ := hrel
    have HN := Lib.hid hn
    clear hn
    by_cases hlt : k < len
    · have hc1 := H.out.c1 k hlt
      have hc2 := H.out.c2 k hlt
      have hc3 := H.out.c3 k hlt
      have hxk := fun W => H.out.index W k hlt
      have hfa := H.out.fa k hlt
      have hfb := H.out.fb k hlt
      have hfc := (H.out.ints k hlt).bound
      have EX : Hid (∀ x, x = f k → (x.a.size ≤ 200 ∧ x.b.size ≤ 500 ∧ x.nl ≤ 50) → ∀ j, j < k + 1 → (f j).a.size ≤ 200 ∧ (f j).b.size ≤ 500 ∧ (f j).nl ≤ 50) := Lib.hid (fun x hx hs j hj => by
        by_cases e : j = k
        · subst e; rw [← hx]; exact hs
        · exact HN.out j (by omega))
      generalize hx : f k = x at *
      have HX := Lib.hid hx.symm
      clear hx
      obtain ⟨wh, xa, xb, nh, nl, nc, nb, no, z⟩ := x
      simp only at hc1 hc2 hc3 hfa hfb hfc
      unfold maxLen at hfa hfb
      rcases (show 200 < xa.size ∨ (xa.size ≤ 200 ∧ 500 < xb.size) ∨ (xa.size ≤ 200 ∧ xb.size ≤ 500 ∧ 50 < nl) ∨ (xa.size ≤ 200 ∧ xb.size ≤ 500 ∧ nl ≤ 50) by omega) with h | ⟨h, h'⟩ | ⟨h, h', h''⟩ | ⟨h, h', h''⟩
      · go_wp2
        go_ret
        exact ⟨false, rfl, rfl, fun h => by cases h⟩
      · go_wp2
        go_ret
        exact ⟨false, rfl, rfl, fun h => by cases h⟩
      · go_wp2
        go_ret
        exact ⟨false, rfl, rfl, fun h => by cases h⟩
      · have HH := Lib.hid (And.intro h (And.intro h' h''))
        go_wp2
        go_round
        case rel => exact ⟨k + 1, by omega, by go_num, EX.out ⟨wh, xa, xb, nh, nl, nc, nb, no, z⟩ rfl HH.out⟩
        case measure => simp [intOf]; omega
    · obtain rfl : k = len := by omega
      go_wp2
      go_ret
      exact ⟨decide ((k : Int) ≤ 60), rfl, rfl, fun h => ⟨by simp at h; omega, HN.out⟩⟩
end Go.Proofs.Ytnijencmoceiaaa
