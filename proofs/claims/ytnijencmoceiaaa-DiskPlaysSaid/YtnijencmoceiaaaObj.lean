/-
  No statement is proved here: an object behind a pointer whose fields lie each in a block of its own ('Part', 'Obj'): what stays of it while other memory turns, and what it is behind a turn of one of its parts.
-/
import Derived.Test.YtnijencmoceiaaaSep
import Derived.Maps.OwnSet
import Derived.Maps.AppendAt
namespace Go.Proofs.Ytnijencmoceiaaa
open Go.RowKit Go.Maps

theorem row_keeps {G : Nat → Prop} {w w' : World} {base : Nat} {e : TypeId} {size : Nat} {v : Value} {n : Nat} {xs : List Value} (h : w.ownsRow base e size v n xs) (hk : Keeps G w w') (hG : ∀ b, v.ownBlock = some b → ¬ G b) : w'.ownsRow base e size v n xs := by
  refine ⟨h.1, ?_⟩
  rcases h.2 with h0 | ⟨g, cap, cur, rfl, hb, hg, r⟩
  · exact .inl h0
  · exact .inr ⟨g, cap, cur, rfl, hb, (hk.block g (Array.getElem?_eq_some_iff.1 hg).1 (hG g rfl)).trans hg, r⟩

theorem map_keeps {H : Type} {G : Nat → Prop} {w w' : World} {P : Program} {k : TypeId} {R : Value → Option (DataW H × List MemPlace)} {b n : Nat} {D : DataW H} (h : w.ownsMap P k R b n D) (hk : Keeps G w w') (hG : ¬ G b) : w'.ownsMap P k R b n D := by
  obtain ⟨es, clock, hb, r⟩ := h
  exact ⟨es, clock, (hk.block b (Array.getElem?_eq_some_iff.1 hb).1 hG).trans hb, r⟩

/-- A part of an object: the block that it lies in, and what is said of it. -/
structure Part where
  home : Option Nat
  says : World → Prop
  lt : ∀ w, says w → ∀ b, home = some b → b < w.heap.size
  hangs : ∀ w w' G, says w → Keeps G w w' → (∀ b, home = some b → ¬ G b) → says w'

def Part.row (e : TypeId) (size : Nat) (v : Value) (n : Nat) (xs : List Value) : Part :=
  ⟨v.ownBlock, fun w => w.ownsRow 0 e size v n xs, fun _ h b hb => (h.lt b hb).2, fun _ _ _ h hk hG => row_keeps h hk hG⟩
def Part.map (P : Program) (k : TypeId) (R : Value → Option (DataW Unit × List MemPlace)) (m n : Nat) (D : DataW Unit) : Part :=
  ⟨some m, fun w => w.ownsMap P k R m n D, (fun _ h b hb => by cases hb; exact h.lt), fun _ _ _ h hk hG => map_keeps h hk (hG m rfl)⟩
def Part.plain : Part := ⟨none, fun _ => True, (fun _ _ _ h => by cases h), (fun _ _ _ _ _ _ => trivial)⟩

/-- An object of type t behind the pointer to block p: its fields, its parts; it lies in the blocks F. -/
structure Obj (t : TypeId) (p : Nat) (vs : List Value) (Cs : List Part) (w : World) (F : Nat → Prop) : Prop where
  cells : w.heap[p]? = some (.cells vs.toArray t (0, 0))
  says : ∀ c ∈ Cs, c.says w
  foot : ∀ b, F b ↔ b = p ∨ ∃ c ∈ Cs, c.home = some b
  off : ∀ c ∈ Cs, c.home ≠ some p
  apart : ∀ (i j : Nat) (ci cj : Part), Cs[i]? = some ci → Cs[j]? = some cj → i ≠ j → ∀ b, ci.home = some b → cj.home ≠ some b

section
variable {t : TypeId} {p : Nat} {vs : List Value} {Cs : List Part} {w w1 : World} {F : Nat → Prop}

theorem Obj.lt (h : Obj t p vs Cs w F) : ∀ b, F b → b < w.heap.size := by
  intro b hb
  rcases (h.foot b).1 hb with rfl | ⟨c, hc, e⟩
  · exact (Array.getElem?_eq_some_iff.1 h.cells).1
  · exact c.lt w (h.says c hc) b e
theorem Obj.own (h : Obj t p vs Cs w F) : F p := (h.foot p).2 (.inl rfl)
theorem Obj.plt (h : Obj t p vs Cs w F) : p < w.heap.size := h.lt p h.own
theorem Obj.kept {G : Nat → Prop} (h : Obj t p vs Cs w F) (hk : Keeps G w w1) (hd : ∀ b, F b → ¬ G b) : Obj t p vs Cs w1 F :=
  ⟨(hk.block p h.plt (hd p h.own)).trans h.cells, fun c hc => c.hangs w w1 G (h.says c hc) hk (fun b hb => hd b ((h.foot b).2 (.inr ⟨c, hc, hb⟩))), h.foot, h.off, h.apart⟩
theorem Obj.framed (t : TypeId) (p : Nat) (vs : List Value) (Cs : List Part) : Framed (Obj t p vs Cs) := ⟨fun _ _ h => h.lt, fun _ _ _ _ h hk hd => h.kept hk hd⟩
theorem Obj.cell (h : Obj t p vs Cs w F) {i : Nat} {v : Value} (hi : vs[i]? = some v) : w.cell? ⟨p, i, none⟩ = some v := by simp [World.cell?, h.cells, hi]
theorem Obj.frozen (h : Obj t p vs Cs w F) (i : Nat) : w.frozen? ⟨p, i, none⟩ = false := by simp [World.frozen?, h.cells]
theorem Obj.part (h : Obj t p vs Cs w F) {i : Nat} {c : Part} (hi : Cs[i]? = some c) : c.says w := h.says c (List.mem_of_getElem? hi)
/-- The cells of the object, where only one of its parts has turned. -/
theorem Obj.cells1 (h : Obj t p vs Cs w F) {i : Nat} {c : Part} (hi : Cs[i]? = some c) (hk : Keeps (fun b => c.home = some b) w w1) : w1.heap[p]? = some (.cells vs.toArray t (0, 0)) :=
  (hk.block p h.plt (h.off c (List.mem_of_getElem? hi))).trans h.cells
theorem Obj.cell1 (h : Obj t p vs Cs w F) {i : Nat} {c : Part} (hi : Cs[i]? = some c) (hk : Keeps (fun b => c.home = some b) w w1) {j : Nat} {v : Value} (hj : vs[j]? = some v) : w1.cell? ⟨p, j, none⟩ = some v := by
  simp [World.cell?, h.cells1 hi hk, hj]
theorem Obj.frozen1 (h : Obj t p vs Cs w F) {i : Nat} {c : Part} (hi : Cs[i]? = some c) (hk : Keeps (fun b => c.home = some b) w w1) (j : Nat) : w1.frozen? ⟨p, j, none⟩ = false := by
  simp [World.frozen?, h.cells1 hi hk]

/-- What a turn leaves: the object behind it; what else there was is as it was; its blocks are its own, or new. -/
def Turns (w : World) (F : Nat → Prop) (w' : World) (O : World → (Nat → Prop) → Prop) : Prop := ∃ F', O w' F' ∧ Keeps F w w' ∧ ∀ b, F' b → F b ∨ w.heap.size ≤ b

theorem Turns.trans {w2 : World} {O O' : World → (Nat → Prop) → Prop} (h : Turns w F w1 O) (h' : ∀ F1, O w1 F1 → Turns w1 F1 w2 O') : Turns w F w2 O' := by
  obtain ⟨F1, ho, hk, hf⟩ := h
  obtain ⟨F2, ho', hk', hf'⟩ := h' F1 ho
  refine ⟨F2, ho', hk.trans hk' (fun b hb hf1 => (hf b hf1).elim id (fun h => absurd hb (by omega))), fun b hb => ?_⟩
  rcases hf' b hb with h1 | h1
  · exact hf b h1
  · exact .inr (Nat.le_trans hk.size h1)
theorem Turns.chain {w2 : World} {F1 : Nat → Prop} {O : World → (Nat → Prop) → Prop} (hk : Keeps F w w1) (hf : ∀ b, F1 b → F b ∨ w.heap.size ≤ b) (h : Turns w1 F1 w2 O) : Turns w F w2 O := by
  obtain ⟨F2, ho, hk', hf'⟩ := h
  refine ⟨F2, ho, hk.trans hk' (fun b hb hf1 => (hf b hf1).elim id (fun h => absurd hb (by omega))), fun b hb => ?_⟩
  rcases hf' b hb with h1 | h1
  · exact hf b h1
  · exact .inr (Nat.le_trans hk.size h1)
theorem Turns.imp {O O' : World → (Nat → Prop) → Prop} (h : Turns w F w1 O) (hi : ∀ G, O w1 G → O' w1 G) : Turns w F w1 O' :=
  let ⟨F1, ho, r⟩ := h; ⟨F1, hi _ ho, r⟩
theorem Turns.refl {O : World → (Nat → Prop) → Prop} (h : O w F) : Turns w F w O := ⟨F, h, Keeps.refl _ _, fun _ hb => .inl hb⟩
theorem Turns.more {w2 : World} {O : World → (Nat → Prop) → Prop} (fr : Framed O) (h : Turns w F w1 O) (hk : Keeps (fun _ => False) w1 w2) : Turns w F w2 O := by
  obtain ⟨F1, ho, hk1, hf⟩ := h
  exact ⟨F1, fr.kept _ _ _ _ ho hk (fun _ _ h => h), hk1.trans hk (fun _ _ h => h.elim), hf⟩
theorem Turns.after {w0 : World} {O O' : World → (Nat → Prop) → Prop} (fr : Framed O) (h : O w0 F) (hk : Keeps (fun _ => False) w0 w) (h' : O w F → Turns w F w1 O') : Turns w0 F w1 O' := by
  obtain ⟨F1, ho, hk1, hf⟩ := h' (fr.kept _ _ _ _ h hk (fun _ _ h => h))
  exact ⟨F1, ho, hk.mono (fun _ _ h => h.elim) |>.trans hk1 (fun _ _ h => h), fun b hb => (hf b hb).imp id (fun h => Nat.le_trans hk.size h)⟩

/-- One part turns, its field with it or not. -/
theorem Obj.turn {i : Nat} {c c' : Part} {v' : Value} (h : Obj t p vs Cs w F) (hi : Cs[i]? = some c) (hk : Keeps (fun b => c.home = some b) w w1) (hs : c'.says w1)
    (hloc : c'.home = none ∨ c'.home = c.home ∨ ∃ g, c'.home = some g ∧ w.heap.size ≤ g) :
    Turns w F (w1.setCell ⟨p, i, none⟩ v') (Obj t p (vs.set i v') (Cs.set i c')) := by
  have hm := List.mem_of_getElem? hi
  have hoff' : c'.home ≠ some p := by
    rcases hloc with e | e | ⟨g, e, hg⟩
    · rw [e]; intro x; cases x
    · rw [e]; exact h.off c hm
    · rw [e]; intro x; cases x; have := h.plt; omega
  have hF : ∀ b, c.home = some b → F b := fun b hb => (h.foot b).2 (.inr ⟨c, hm, hb⟩)
  have k1 : Keeps F w w1 := hk.mono (fun b _ hb => hF b hb)
  have k2 : Keeps F w (w1.setCell ⟨p, i, none⟩ v') := k1.setCell (p := ⟨p, i, none⟩) (fun _ => h.own) _
  have kp : Keeps (fun b => b = p) w1 (w1.setCell ⟨p, i, none⟩ v') := (Keeps.refl (fun b => b = p) w1).setCell (p := ⟨p, i, none⟩) (fun _ => rfl) v'
  have hne : ∀ (j : Nat) (cj : Part), Cs[j]? = some cj → j ≠ i → cj.says (w1.setCell ⟨p, i, none⟩ v') := fun j cj hj hji =>
    cj.hangs w1 _ _ (cj.hangs w w1 _ (h.says cj (List.mem_of_getElem? hj)) hk (fun b hb hb' => h.apart j i cj c hj hi hji b hb hb')) kp (fun b hb e => h.off cj (List.mem_of_getElem? hj) (e ▸ hb))
  have hil : i < Cs.length := (List.getElem?_eq_some_iff.1 hi).1
  have back : ∀ (j : Nat) (cj : Part), (Cs.set i c')[j]? = some cj → (j = i ∧ cj = c') ∨ (j ≠ i ∧ Cs[j]? = some cj) := fun j cj hj => by
    by_cases e : i = j
    · subst e; rw [List.getElem?_set_self hil] at hj; exact .inl ⟨rfl, (Option.some.inj hj).symm⟩
    · rw [List.getElem?_set_ne e] at hj; exact .inr ⟨fun x => e x.symm, hj⟩
  have mem : ∀ cj : Part, cj ∈ Cs.set i c' → ∃ j, (Cs.set i c')[j]? = some cj := fun cj hj => List.getElem?_of_mem hj
  have other : ∀ (j : Nat) (cj : Part) (b : Nat), Cs[j]? = some cj → j ≠ i → cj.home = some b → c'.home ≠ some b := fun j cj b hj hji hb e => by
    rcases hloc with e' | e' | ⟨g, e', hg⟩
    · rw [e'] at e; cases e
    · rw [e'] at e; exact h.apart j i cj c hj hi hji b hb e
    · rw [e'] at e; cases e
      have := cj.lt w (h.says cj (List.mem_of_getElem? hj)) _ hb
      omega
  refine ⟨fun b => b = p ∨ ∃ cj ∈ Cs.set i c', cj.home = some b, ⟨?_, ?_, fun _ => Iff.rfl, ?_, ?_⟩, k2, ?_⟩
  · have := heap_setCell_same (i := i) (h.cells1 hi hk) v'
    rw [this]; simp
  · intro cj hj
    obtain ⟨j, hj⟩ := mem cj hj
    rcases back j cj hj with ⟨_, rfl⟩ | ⟨hji, hj⟩
    · exact cj.hangs w1 _ _ hs kp (fun b hb e => hoff' (e ▸ hb))
    · exact hne j cj hj hji
  · intro cj hj
    obtain ⟨j, hj⟩ := mem cj hj
    rcases back j cj hj with ⟨_, rfl⟩ | ⟨_, hj⟩
    · exact hoff'
    · exact h.off cj (List.mem_of_getElem? hj)
  · intro a b ca cb ha hb hab x hx
    rcases back a ca ha with ⟨ea, ec⟩ | ⟨hai, ha'⟩
    · rcases back b cb hb with ⟨eb, _⟩ | ⟨hbi, hb'⟩
      · exact absurd (ea.trans eb.symm) hab
      · exact fun e => other b cb x hb' hbi e (ec ▸ hx)
    · rcases back b cb hb with ⟨_, ec⟩ | ⟨hbi, hb'⟩
      · exact ec ▸ other a ca x ha' hai hx
      · exact h.apart a b ca cb ha' hb' hab x hx
  · rintro b (rfl | ⟨cj, hj, e⟩)
    · exact .inl h.own
    · obtain ⟨j, hj⟩ := mem cj hj
      rcases back j cj hj with ⟨_, rfl⟩ | ⟨_, hj⟩
      · rcases hloc with e' | e' | ⟨g, e', hg⟩
        · rw [e'] at e; cases e
        · rw [e'] at e; exact .inl (hF b e)
        · rw [e'] at e; cases e; exact .inr hg
      · exact .inl ((h.foot b).2 (.inr ⟨cj, List.mem_of_getElem? hj, e⟩))

/-- One part turns in its place; no field is written. -/
theorem Obj.turn0 {i : Nat} {c c' : Part} (h : Obj t p vs Cs w F) (hi : Cs[i]? = some c) (hk : Keeps (fun b => c.home = some b) w w1) (hs : c'.says w1) (hloc : c'.home = c.home) : Turns w F w1 (Obj t p vs (Cs.set i c')) := by
  have hm := List.mem_of_getElem? hi
  have hil : i < Cs.length := (List.getElem?_eq_some_iff.1 hi).1
  have back : ∀ (j : Nat) (cj : Part), (Cs.set i c')[j]? = some cj → (j = i ∧ cj = c') ∨ (j ≠ i ∧ Cs[j]? = some cj) := fun j cj hj => by
    by_cases e : i = j
    · subst e; rw [List.getElem?_set_self hil] at hj; exact .inl ⟨rfl, (Option.some.inj hj).symm⟩
    · rw [List.getElem?_set_ne e] at hj; exact .inr ⟨fun x => e x.symm, hj⟩
  have mem : ∀ cj : Part, cj ∈ Cs.set i c' → ∃ j, (Cs.set i c')[j]? = some cj := fun cj hj => List.getElem?_of_mem hj
  have homes : ∀ (j : Nat) (cj : Part), (Cs.set i c')[j]? = some cj → ∃ cj0 : Part, Cs[j]? = some cj0 ∧ cj0.home = cj.home := fun j cj hj => by
    rcases back j cj hj with ⟨rfl, rfl⟩ | ⟨_, hj⟩
    · exact ⟨c, hi, hloc.symm⟩
    · exact ⟨cj, hj, rfl⟩
  refine ⟨F, ⟨h.cells1 hi hk, ?_, ?_, ?_, ?_⟩, hk.mono (fun b _ hb => (h.foot b).2 (.inr ⟨c, hm, hb⟩)), fun b hb => .inl hb⟩
  · intro cj hj
    obtain ⟨j, hj⟩ := mem cj hj
    rcases back j cj hj with ⟨_, rfl⟩ | ⟨hji, hj⟩
    · exact hs
    · exact cj.hangs w w1 _ (h.says cj (List.mem_of_getElem? hj)) hk (fun b hb hb' => h.apart j i cj c hj hi hji b hb hb')
  · intro b
    rw [h.foot b]
    constructor
    · rintro (rfl | ⟨cj, hj, e⟩)
      · exact .inl rfl
      · obtain ⟨j, hj⟩ := List.getElem?_of_mem hj
        by_cases hji : i = j
        · subst hji
          rw [hi] at hj; cases hj
          exact .inr ⟨c', List.mem_of_getElem? (List.getElem?_set_self hil), hloc.trans e⟩
        · exact .inr ⟨cj, List.mem_of_getElem? ((List.getElem?_set_ne hji).trans hj), e⟩
    · rintro (rfl | ⟨cj, hj, e⟩)
      · exact .inl rfl
      · obtain ⟨j, hj⟩ := mem cj hj
        obtain ⟨c0, h0, e0⟩ := homes j cj hj
        exact .inr ⟨c0, List.mem_of_getElem? h0, e0.trans e⟩
  · intro cj hj
    obtain ⟨j, hj⟩ := mem cj hj
    obtain ⟨c0, h0, e0⟩ := homes j cj hj
    rw [← e0]; exact h.off c0 (List.mem_of_getElem? h0)
  · intro a b ca cb ha hb hab x hx
    obtain ⟨ca0, ha0, ea⟩ := homes a ca ha
    obtain ⟨cb0, hb0, eb⟩ := homes b cb hb
    rw [← eb]; exact h.apart a b ca0 cb0 ha0 hb0 hab x (ea.trans hx)

/-- A part that is a row, longer by what is appended, and its field with it. -/
theorem Obj.appends {w0 : World} {i : Nat} {e : TypeId} {size : Nat} {v : Value} {n : Nat} {xs : List Value} (h : Obj t p vs Cs w F) (hC : Cs[i]? = some (Part.row e size v n xs)) (k0 : Keeps (fun _ => False) w w0) (m : Nat) (news : List Value) (w1 : World) (v' : Value)
    (hr : w1.ownsRow 0 e size v' (n + m) (xs ++ news)) (hg : w0.grownBy w1 v.ownBlock) (hl : v'.ownBlock = v.ownBlock ∨ v'.ownBlock = some w0.heap.size) :
    (∃ a' c', v' = .slice a' (n + m) c') ∧ (∀ (j : Nat) (u : Value), vs[j]? = some u → w1.cell? ⟨p, j, none⟩ = some u) ∧ (∀ j : Nat, w1.frozen? ⟨p, j, none⟩ = false) ∧
      Turns w F (w1.setCell ⟨p, i, none⟩ v') (Obj t p (vs.set i v') (Cs.set i (Part.row e size v' (n + m) (xs ++ news)))) := by
  have k1 : Keeps (fun b => v.ownBlock = some b) w w1 := (k0.mono (fun _ _ h => h.elim)).trans (Keeps.grown (F := fun b => v.ownBlock = some b) hg (fun k hk _ => hk)) (fun _ _ h => h)
  refine ⟨?_, fun j u hj => h.cell1 hC k1 hj, fun j => h.frozen1 hC k1 j, h.turn hC k1 hr ?_⟩
  · rcases hr.2 with ⟨h1, h2⟩ | ⟨g, cap, cur, hv, _⟩
    · exact ⟨none, 0, by rw [h1, h2]⟩
    · exact ⟨_, cap, hv⟩
  · rcases hl with e | e
    · exact .inr (.inl e)
    · exact .inr (.inr ⟨_, e, k0.size⟩)
/-- A part that is a map, behind one store into it. -/
theorem Obj.stores {P : Program} {k : TypeId} {R : Value → Option (DataW Unit × List MemPlace)} {i m n n' : Nat} {D D' : DataW Unit} (h : Obj t p vs Cs w F) (hC : Cs[i]? = some (Part.map P k R m n D)) (hm : w1.ownsMap P k R m n' D') (hg : w.grownBy w1 (some m)) :
    Turns w F w1 (Obj t p vs (Cs.set i (Part.map P k R m n' D'))) :=
  h.turn0 hC (Keeps.grown hg (fun _ hk _ => hk)) hm rfl

/-- An object made anew, of parts that lie apart. -/
theorem Obj.made (t : TypeId) (vs : List Value) (hs : ∀ c ∈ Cs, c.says w) (hap : ∀ (i j : Nat) (ci cj : Part), Cs[i]? = some ci → Cs[j]? = some cj → i ≠ j → ∀ b, ci.home = some b → cj.home ≠ some b) :
    Obj t w.heap.size vs Cs (w.alloc (.cells vs.toArray t)) (fun b => b = w.heap.size ∨ ∃ c ∈ Cs, c.home = some b) where
  cells := heap_alloc_new w _
  says c hc := c.hangs w _ (fun _ => False) (hs c hc) ((Keeps.refl _ _).alloc _) (fun _ _ h => h)
  foot _ := Iff.rfl
  off c hc e := Nat.lt_irrefl _ (c.lt w (hs c hc) _ e)
  apart := hap
end
end Go.Proofs.Ytnijencmoceiaaa
