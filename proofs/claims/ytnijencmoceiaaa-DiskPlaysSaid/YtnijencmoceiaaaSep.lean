/-
  No statement is proved here: the words for memory that a call itself has made, over whatever program: which blocks a call may turn ('Keeps'), an object in blocks of its own ('Framed'), one or two such objects beside each other ('Own1', 'Own2') and what a method that acts on one of them leaves ('Acts'). No condition.
-/
import Derived.WalkKit
import Derived.WalkSpells
import Derived.WalkLawsBesides
import Derived.Lib.Hide
import Derived.Deep.Draws
namespace Go.Proofs.Ytnijencmoceiaaa
open Go.RowKit

theorem ret_bool {a b : Bool} (h : a = b) : Ending.returned (.bool a) = Ending.returned (.bool b) := by rw [h]
theorem ret_int {k : IntKind} {a b : Int} (h : a = b) : Ending.returned (.int k a) = Ending.returned (.int k b) := by rw [h]
theorem ret_tuple2 {a b c d : Value} (h : a = c) (h' : b = d) : Ending.returned (.tuple #[a, b]) = .returned (.tuple #[c, d]) := by rw [h, h']

/-- A string's letters. -/
abbrev Str := List UInt8
def str (l : Str) : Value := .string ⟨l.toArray⟩
theorem str_of (s : ByteArray) : Value.string s = str s.data.toList := by simp [str]
theorem letters_inj {s t : ByteArray} (h : s.data.toList = t.data.toList) : s = t := by
  cases s; cases t; simp at h; simp [h]

theorem heap_setCell_same {w : World} {b i : Nat} {cs : Array Value} {t : TypeId} {f : Nat × Nat} (h : w.heap[b]? = some (.cells cs t f)) (u : Value) :
    (w.setCell ⟨b, i, none⟩ u).heap[b]? = some (.cells (cs.setIfInBounds i u) t f) := by
  have hlt : b < w.heap.size := (Array.getElem?_eq_some_iff.1 h).1
  have h' : w.heap[b] = .cells cs t f := by simpa [Array.getElem?_eq_getElem hlt] using h
  show (w.heap.modify b _)[b]? = _
  rw [Array.getElem?_eq_getElem (by simpa using hlt), Array.getElem_modify_self, h']
  rfl

/-- Outside the blocks F (and what is new) the world is as it was. -/
structure Keeps (F : Nat → Prop) (w w' : World) : Prop where
  os : w'.os = w.os
  tape : w'.tape = w.tape
  output : w'.output = w.output
  size : w.heap.size ≤ w'.heap.size
  block : ∀ k, k < w.heap.size → ¬ F k → w'.heap[k]? = w.heap[k]?

theorem Keeps.refl (F : Nat → Prop) (w : World) : Keeps F w w := ⟨rfl, rfl, rfl, Nat.le_refl _, fun _ _ _ => rfl⟩
theorem Keeps.below {F : Nat → Prop} {w w' : World} (h : Keeps F w w') {B : Nat} (hB : B ≤ w.heap.size) (hF : ∀ k, F k → B ≤ k) : Below B w w' :=
  ⟨h.os, h.tape, h.output, h.size, fun k hk => h.block k (Nat.lt_of_lt_of_le hk hB) (fun hf => Nat.lt_irrefl _ (Nat.lt_of_lt_of_le hk (hF k hf)))⟩
theorem Keeps.of_below {B : Nat} {w w' : World} (h : Below B w w') : Keeps (fun k => B ≤ k) w w' :=
  ⟨h.os, h.tape, h.output, h.size, fun k _ hf => h.block k (by omega)⟩
theorem Keeps.mono {F G : Nat → Prop} {w w' : World} (h : Keeps F w w') (hFG : ∀ k, k < w.heap.size → F k → G k) : Keeps G w w' :=
  ⟨h.os, h.tape, h.output, h.size, fun k hk hn => h.block k hk (fun hf => hn (hFG k hk hf))⟩
theorem Keeps.trans {F G : Nat → Prop} {a b c : World} (h : Keeps F a b) (k : Keeps G b c) (hG : ∀ i, i < a.heap.size → G i → F i) : Keeps F a c :=
  ⟨k.os.trans h.os, k.tape.trans h.tape, k.output.trans h.output, Nat.le_trans h.size k.size,
    fun i hi hn => (k.block i (Nat.lt_of_lt_of_le hi h.size) (fun hg => hn (hG i hi hg))).trans (h.block i hi hn)⟩
theorem Keeps.grown {F : Nat → Prop} {w w' : World} {row : Option Nat} (h : w.grownBy w' row) (hr : ∀ k, row = some k → k < w.heap.size → F k) : Keeps F w w' :=
  ⟨h.os, h.tape, h.output, h.size, fun k hk hn => h.block k hk (fun e => hn (hr k e.symm hk))⟩
theorem Keeps.drew {F : Nat → Prop} {a w : World} (h : Keeps F a w) : Keeps F a w.drew := ⟨h.os, h.tape, h.output, h.size, h.block⟩
theorem Keeps.alloc {F : Nat → Prop} {a w : World} (h : Keeps F a w) (o : Obj) : Keeps F a (w.alloc o) :=
  h.trans (G := fun _ => False) (Keeps.grown (World.grownBy_alloc w o none) (fun k e => by cases e)) (fun _ _ hf => hf.elim)
theorem Keeps.setCell {F : Nat → Prop} {a w : World} (h : Keeps F a w) {p : Addr} (hp : p.block < a.heap.size → F p.block) (u : Value) : Keeps F a (w.setCell p u) :=
  ⟨h.os, h.tape, h.output, by simpa [World.setCell] using h.size, fun k hk hn => by
    rw [Below.heap_setCell _ _ _ _ (fun e => hn (by subst e; exact hp hk))]; exact h.block k hk hn⟩
theorem Keeps.same {F : Nat → Prop} {w w' : World} (h : Keeps F w w') {b : Nat} (hb : b < w.heap.size) (hn : ¬ F b) : w'.heap[b]? = w.heap[b]? := h.block b hb hn

/-- What is said of a world and a set of blocks hangs on those blocks alone. -/
structure Framed (O : World → (Nat → Prop) → Prop) : Prop where
  lt : ∀ w F, O w F → ∀ b, F b → b < w.heap.size
  kept : ∀ w w' F G, O w F → Keeps G w w' → (∀ b, F b → ¬ G b) → O w' F

theorem Keeps.drewN (F : Nat → Prop) (w : World) (n : Nat) : Keeps F w (w.drewN n) := ⟨rfl, rfl, rfl, Nat.le_refl _, fun _ _ _ => rfl⟩
theorem Framed.drewN {O : World → (Nat → Prop) → Prop} (fr : Framed O) {w : World} (h : ∃ F, O w F) (n : Nat) : ∃ F, O (w.drewN n) F :=
  let ⟨F, h⟩ := h; ⟨F, fr.kept _ _ _ (fun _ => False) h (Keeps.drewN _ _ _) (fun _ _ h => h)⟩

/-- One object of the call's own: its blocks lie from B on. -/
def Own1 (B : Nat) (w wr : World) (O : World → (Nat → Prop) → Prop) : Prop := Below B w wr ∧ B ≤ wr.heap.size ∧ ∃ F, O wr F ∧ ∀ b, F b → B ≤ b
/-- Two objects of the call's own, in blocks apart. -/
def Own2 (B : Nat) (w wr : World) (O O' : World → (Nat → Prop) → Prop) : Prop :=
  Below B w wr ∧ B ≤ wr.heap.size ∧ ∃ F G, O wr F ∧ O' wr G ∧ (∀ b, F b → B ≤ b) ∧ (∀ b, G b → B ≤ b) ∧ ∀ b, F b → ¬ G b

/-- A call that acts on one object: whatever its blocks are. -/
def Acts (P : Program) (f : FuncId) (args : Array Value) (w : World) (O : World → (Nat → Prop) → Prop) (R : Ending → Prop) (O' : World → (Nat → Prop) → Prop) : Prop :=
  ∀ F, O w F → Calls P f args w fun e w' => R e ∧ ∃ F', O' w' F' ∧ Keeps F w w' ∧ ∀ b, F' b → F b ∨ w.heap.size ≤ b
/-- A call that makes an object. -/
def Makes (P : Program) (f : FuncId) (args : Array Value) (w : World) (R : Ending → Prop) (O : World → (Nat → Prop) → Prop) : Prop :=
  Calls P f args w fun e w' => R e ∧ ∃ F, O w' F ∧ Keeps (fun _ => False) w w' ∧ ∀ b, F b → w.heap.size ≤ b

section
variable {P : Program} {f : FuncId} {args : Array Value} {B : Nat} {w wr : World} {R : Ending → Prop} {O O' O1 O2 : World → (Nat → Prop) → Prop}

theorem Own1.below (h : Own1 B w wr O) : Below B w wr := h.1
theorem Own2.below (h : Own2 B w wr O1 O2) : Below B w wr := h.1
theorem Own1.size (h : Own1 B w wr O) : B ≤ wr.heap.size := h.2.1
theorem Own2.size (h : Own2 B w wr O1 O2) : B ≤ wr.heap.size := h.2.1
theorem Own1.it (h : Own1 B w wr O) : ∃ F, O wr F := let ⟨_, _, F, h, _⟩ := h; ⟨F, h⟩
theorem Own2.it1 (h : Own2 B w wr O1 O2) : ∃ F, O1 wr F := let ⟨_, _, F, _, h, _⟩ := h; ⟨F, h⟩
theorem Own2.it2 (h : Own2 B w wr O1 O2) : ∃ F, O2 wr F := let ⟨_, _, _, G, _, h, _⟩ := h; ⟨G, h⟩
theorem Own2.left (h : Own2 B w wr O1 O2) : Own1 B w wr O1 := let ⟨a, b, F, _, h, _, hf, _⟩ := h; ⟨a, b, F, h, hf⟩
theorem Own2.right (h : Own2 B w wr O1 O2) : Own1 B w wr O2 := let ⟨a, b, _, G, _, h, _, hf, _⟩ := h; ⟨a, b, G, h, hf⟩
theorem Own2.swap (h : Own2 B w wr O1 O2) : Own2 B w wr O2 O1 := let ⟨a, b, F, G, h1, h2, hf, hg, hd⟩ := h; ⟨a, b, G, F, h2, h1, hg, hf, fun b hb hf => hd b hf hb⟩

theorem Own1.acts (h : Own1 B w wr O) (hc : Acts P f args wr O R O') : Calls P f args wr fun e w' => R e ∧ Own1 B w w' O' := by
  obtain ⟨hb, hB, F, h, hf⟩ := h
  refine (hc F h).mono ?_
  rintro e w' ⟨hr, F', h', hk, hf'⟩
  exact ⟨hr, hb.trans (hk.below hB hf), Nat.le_trans hB hk.size, F', h', fun b hb => (hf' b hb).elim (hf b) (fun h => Nat.le_trans hB h)⟩

theorem Own2.acts (fr : Framed O2) (h : Own2 B w wr O1 O2) (hc : Acts P f args wr O1 R O') : Calls P f args wr fun e w' => R e ∧ Own2 B w w' O' O2 := by
  obtain ⟨hb, hB, F, G, h, h2, hf, hg, hd⟩ := h
  refine (hc F h).mono ?_
  rintro e w' ⟨hr, F', h', hk, hf'⟩
  refine ⟨hr, hb.trans (hk.below hB hf), Nat.le_trans hB hk.size, F', G, h', fr.kept _ _ _ _ h2 hk (fun b hg' hf' => hd b hf' hg'), fun b hb => (hf' b hb).elim (hf b) (fun h => Nat.le_trans hB h), hg, fun b hb hgb => ?_⟩
  rcases hf' b hb with h3 | h3
  · exact hd b h3 hgb
  · exact Nat.lt_irrefl _ (Nat.lt_of_lt_of_le (fr.lt _ _ h2 b hgb) h3)
theorem Own2.acts' (fr : Framed O1) (h : Own2 B w wr O1 O2) (hc : Acts P f args wr O2 R O') : Calls P f args wr fun e w' => R e ∧ Own2 B w w' O1 O' :=
  (Own2.acts fr h.swap hc).mono fun _ _ h => ⟨h.1, h.2.swap⟩

/-- Nothing that was there turns. -/
theorem Own1.more (fr : Framed O) (h : Own1 B w wr O) {w' : World} (hk : Keeps (fun _ => False) wr w') : Own1 B w w' O := by
  obtain ⟨hb, hB, F, h, hf⟩ := h
  exact ⟨hb.trans (hk.below hB (fun _ h => h.elim)), Nat.le_trans hB hk.size, F, fr.kept _ _ _ _ h hk (fun _ _ h => h), hf⟩
theorem Own2.more (fr1 : Framed O1) (fr2 : Framed O2) (h : Own2 B w wr O1 O2) {w' : World} (hk : Keeps (fun _ => False) wr w') : Own2 B w w' O1 O2 := by
  obtain ⟨hb, hB, F, G, h, h2, hf, hg, hd⟩ := h
  exact ⟨hb.trans (hk.below hB (fun _ h => h.elim)), Nat.le_trans hB hk.size, F, G, fr1.kept _ _ _ _ h hk (fun _ _ h => h), fr2.kept _ _ _ _ h2 hk (fun _ _ h => h), hf, hg, hd⟩

theorem Makes.own1 (hc : Makes P f args wr R O) (hb : Below B w wr) (hB : B ≤ wr.heap.size) : Calls P f args wr fun e w' => R e ∧ Own1 B w w' O := by
  refine Calls.mono hc ?_
  rintro e w' ⟨hr, F, h, hk, hf⟩
  exact ⟨hr, hb.trans (hk.below hB (fun _ h => h.elim)), Nat.le_trans hB hk.size, F, h, fun b hb => Nat.le_trans hB (hf b hb)⟩
theorem Makes.own2 (hc : Makes P f args wr R O2) (fr : Framed O1) (h : Own1 B w wr O1) : Calls P f args wr fun e w' => R e ∧ Own2 B w w' O1 O2 := by
  obtain ⟨hb, hB, F, h, hf⟩ := h
  refine Calls.mono hc ?_
  rintro e w' ⟨hr, G, h2, hk, hg⟩
  exact ⟨hr, hb.trans (hk.below hB (fun _ h => h.elim)), Nat.le_trans hB hk.size, F, G, fr.kept _ _ _ _ h hk (fun _ _ h => h), h2, hf, fun b hb => Nat.le_trans hB (hg b hb),
    fun b hb hgb => Nat.lt_irrefl _ (Nat.lt_of_lt_of_le (fr.lt _ _ h b hb) (hg b hgb))⟩
end
end Go.Proofs.Ytnijencmoceiaaa
