/-
  No statement is proved here: two relays, the program's and the document's, beside each other, and the rows that a law makes of them.
-/
import Derived.Test.YteclbfkeiejbeaaRefEvents
namespace Go.Proofs.Yteclbfkeiejbeaa
open Go.RowKit Go.Maps

section
variable {B : Nat} {w0 w w' : World} {O O' O1 O2 : World → (Nat → Prop) → Prop}
theorem Own2.drop (h : Own2 B w0 w (Pair O O1) O2) : Own2 B w0 w O1 O2 := by
  obtain ⟨hb, hB, F, G, ⟨F1, F2, h1, h2, hF, hd⟩, h3, hf, hg, hfg⟩ := h
  exact ⟨hb, hB, F2, G, h2, h3, fun b hb => hf b ((hF b).2 (.inr hb)), hg, fun b hb => hfg b ((hF b).2 (.inr hb))⟩
theorem Pair.turn1 (fr' : Framed O') (h : ∀ F, O w F → Turns w F w' O1) : ∀ F, Pair O O' w F → Turns w F w' (Pair O1 O') := by
  rintro F ⟨G, H, h1, h2, hF, hd⟩
  obtain ⟨G', h1', hk, hG'⟩ := h G h1
  refine ⟨fun b => G' b ∨ H b, ⟨G', H, h1', fr'.kept _ _ _ _ h2 hk (fun b hb hg => hd b hg hb), fun _ => Iff.rfl, fun b hb hb' => ?_⟩, hk.mono (fun b _ hb => (hF b).2 (.inl hb)), fun b hb => ?_⟩
  · rcases hG' b hb with h3 | h3
    · exact hd b h3 hb'
    · have := fr'.lt _ _ h2 b hb'; omega
  · rcases hb with hb | hb
    · exact (hG' b hb).imp (fun h => (hF b).2 (.inl h)) id
    · exact .inl ((hF b).2 (.inr hb))
theorem Own2.turn1 (fr' : Framed O') (h : Own2 B w0 w O O') (ht : ∀ F, O w F → Turns w F w' O1) : Own2 B w0 w' O1 O' := by
  obtain ⟨hb, hB, F, G, h1, h2, hf, hg, hd⟩ := h
  obtain ⟨F', h1', hk, hF'⟩ := ht F h1
  refine ⟨hb.trans (hk.below hB hf), Nat.le_trans hB hk.size, F', G, h1', fr'.kept _ _ _ _ h2 hk (fun b hb hf' => hd b hf' hb), fun b hb => (hF' b hb).elim (hf b) (fun h => Nat.le_trans hB h), hg, fun b hb hb' => ?_⟩
  rcases hF' b hb with h3 | h3
  · exact hd b h3 hb'
  · have := fr'.lt _ _ h2 b hb'; omega
theorem Own2.turn2 (fr : Framed O) (h : Own2 B w0 w O O') (ht : ∀ F, O' w F → Turns w F w' O2) : Own2 B w0 w' O O2 := (h.swap.turn1 fr ht).swap
theorem Own1.fresh (fr : Framed O) (h : Own1 B w0 w O) {e : TypeId} {size n : Nat} {xs : List Value} {v : Value} (hf : Fresh w w' e size n xs v) : Own2 B w0 w' O (RowOf e size v n xs) := by
  obtain ⟨hb, hB, F, ho, hF⟩ := h
  refine ⟨hb.trans (hf.2.1.below hB (fun _ h => h.elim)), Nat.le_trans hB hf.2.1.size, F, fun b => v.ownBlock = some b, fr.kept _ _ _ _ ho hf.2.1 (fun _ _ h => h), ⟨hf.1, fun _ => Iff.rfl⟩, hF, fun b hb => Nat.le_trans hB (hf.2.2 b hb), fun b hb hb' => ?_⟩
  have := fr.lt _ _ ho b hb
  have := hf.2.2 b hb'
  omega
end

/-- A row of the call's own, whatever it holds. -/
def SomeRow (e : TypeId) (size : Nat) (v : Value) (n : Nat) (w : World) (F : Nat → Prop) : Prop := ∃ xs, RowOf e size v n xs w F
theorem SomeRow.framed (e : TypeId) (size : Nat) (v : Value) (n : Nat) : Framed (SomeRow e size v n) :=
  ⟨fun _ _ ⟨_, h⟩ => (RowOf.framed _ _ _ _ _).lt _ _ h, fun _ _ _ _ ⟨_, h⟩ hk hd => ⟨_, (RowOf.framed _ _ _ _ _).kept _ _ _ _ h hk hd⟩⟩
theorem SomeRow.store {e : TypeId} {size g n c : Nat} {w : World} (j : Nat) (u : Value) : ∀ F, SomeRow e size (.slice (some ⟨g, 0, none⟩) n c) n w F → Turns w F (w.setCell ⟨g, j, none⟩ u) (SomeRow e size (.slice (some ⟨g, 0, none⟩) n c) n) := by
  rintro F ⟨xs, hr, hF⟩
  obtain ⟨t1, t2⟩ := hr.stored j u
  exact ⟨F, ⟨_, t1, hF⟩, Keeps.grown t2 (fun k hk _ => (hF k).2 hk), fun b hb => .inl hb⟩

theorem fair_turn {p : Nat} {s : St} {fair : Bool} {zs : List Int} {a0 : Option Addr} {len0 cap0 : Nat} {w : World} : ∀ F, RRel p s fair zs a0 len0 cap0 w F → Turns w F (w.setCell ⟨p, 4, none⟩ (.bool true)) (RRel p { s with ways := [] } true zs a0 len0 cap0) := by
  rintro F ⟨sk, sa, ss, h, r1, r2, r⟩
  exact (h.turn (i := 4) (c' := Part.plain) (v' := .bool true) (w1 := w) rfl (Keeps.refl _ _) trivial (.inl rfl)).imp fun G h => ⟨sk, sa, ss, h, rfl, r2, r⟩

/-- The document's relay, made anew. -/
theorem rrel_made {w : World} {zs : List Int} {a0 : Option Addr} {len0 cap0 : Nat} (hz : Ways w a0 len0 cap0 zs) :
    ∃ F, RRel w.heap.size ⟨[], [], [], zs⟩ false zs a0 len0 cap0 (w.alloc (.cells #[.slice none 0 0, .slice none 0 0, .slice none 0 0, .slice a0 len0 cap0, .bool false] 32)) F ∧ ∀ b, F b → b = w.heap.size := by
  have ob := Obj.made (w := w) (Cs := [Part.row 53 2 (.slice none 0 0) 0 [], Part.row 9 1 (.slice none 0 0) 0 [], Part.row 34 4 (.slice none 0 0) 0 [], Part.plain, Part.plain]) 32 [.slice none 0 0, .slice none 0 0, .slice none 0 0, .slice a0 len0 cap0, .bool false]
    (by
      intro x hx
      simp only [List.mem_cons, List.not_mem_nil, or_false] at hx
      rcases hx with rfl | rfl | rfl | rfl | rfl
      · exact World.ownsRow_nil _ _ _ _
      · exact World.ownsRow_nil _ _ _ _
      · exact World.ownsRow_nil _ _ _ _
      · trivial
      · trivial)
    (by
      intro i j ci cj hi hj hij b hb
      match i, hi with
      | 0, hi => cases hi; cases hb
      | 1, hi => cases hi; cases hb
      | 2, hi => cases hi; cases hb
      | 3, hi => cases hi; cases hb
      | 4, hi => cases hi; cases hb
      | (i + 5), hi => simp at hi)
  refine ⟨_, ⟨_, _, _, ob, rfl, ?_, List.nodup_nil, Nat.le_refl _, Nat.le_refl _, fun n x hx => (by simp [look] at hx), hz.fits⟩, ?_⟩
  · have := hz.src.length; simpa using this
  · rintro b (rfl | ⟨x, hx, hb⟩)
    · rfl
    · simp only [List.mem_cons, List.not_mem_nil, or_false] at hx
      rcases hx with rfl | rfl | rfl | rfl | rfl <;> cases hb
theorem Own1.rrel {B : Nat} {w0 w : World} {O : World → (Nat → Prop) → Prop} (fr : Framed O) (h : Own1 B w0 w O) {zs : List Int} {a0 : Option Addr} {len0 cap0 : Nat} (hz : Ways w a0 len0 cap0 zs) :
    Own2 B w0 (w.alloc (.cells #[.slice none 0 0, .slice none 0 0, .slice none 0 0, .slice a0 len0 cap0, .bool false] 32)) O (RRel w.heap.size ⟨[], [], [], zs⟩ false zs a0 len0 cap0) := by
  obtain ⟨hb, hB, F, ho, hF⟩ := h
  obtain ⟨G, hr, hG⟩ := rrel_made hz
  refine ⟨hb.trans (((Keeps.refl (fun _ => False) w).alloc _).below hB (fun _ h => h.elim)), Nat.le_trans hB (by simp), F, G, fr.kept _ _ _ _ ho ((Keeps.refl (fun _ => False) w).alloc _) (fun _ _ h => h), hr, hF, (fun b hb => (hG b hb) ▸ hB), fun b hb hb' => ?_⟩
  have := fr.lt _ _ ho b hb
  have := hG b hb'
  omega

section
variable {p : Nat} {w : World} {s : St} {fair : Bool} {zs : List Int} {a0 : Option Addr} {len0 cap0 : Nat}
theorem rput_acts (hz : Ways w a0 len0 cap0 zs) (hl : s.seen.length < 65536) (a n : Int) (v : ByteArray) (hv : v.size ≤ 65535) {d : Int} (hd : s.putErr = d) {s' : St} (hs : s.put a n v.data.toList = s') :
    Acts Try.prog 13 #[.pointer (some ⟨p, 0, none⟩), .int .i64 a, .int .i64 n, .string v] w (RRel p s fair zs a0 len0 cap0) (fun e => e = .returned (.int .i64 d)) (RRel p s' fair zs a0 len0 cap0) := by
  subst hd hs
  exact fun F hF => rput_at hF hz hl a n v hv
theorem rget_acts (hz : Ways w a0 len0 cap0 zs) (hl : s.seen.length < 65536) (a n : Int) {x : ByteArray} {d : Int} (hd : s.got n = (x.data.toList, d)) {s' : St} (hs : s.saw ⟨a, false, n, []⟩ = s') :
    Acts Try.prog 15 #[.pointer (some ⟨p, 0, none⟩), .int .i64 a, .int .i64 n] w (RRel p s fair zs a0 len0 cap0) (fun e => e = .returned (.tuple #[.string x, .int .i64 d])) (RRel p s' fair zs a0 len0 cap0) := by
  subst hs
  intro F hF
  refine (rget_at hF hz hl a n).mono ?_
  rintro e w' ⟨he, hw⟩
  exact ⟨by rw [he, hd, ← str_of], hw⟩
end
end Go.Proofs.Yteclbfkeiejbeaa
