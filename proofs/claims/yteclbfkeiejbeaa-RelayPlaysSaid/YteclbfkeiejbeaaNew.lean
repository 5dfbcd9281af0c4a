/-
  No statement is proved here: 'slices.Clone' at two types, 'New', 'Faithful', 'View' of a relay, as contracts.
-/
import Derived.Test.YteclbfkeiejbeaaGet
namespace Go.Proofs.Yteclbfkeiejbeaa
open Go.RowKit Go.Maps

/-- What a slice's cells hold. -/
structure Src (w : World) (a : Option Addr) (len cap : Nat) (size : Nat) (xs : List Value) : Prop where
  length : xs.length = len * size
  none : a = none → len = 0 ∧ cap = 0
  cells : ∀ ad, a = some ad → ∀ (j : Nat) (u : Value), xs[j]? = some u → w.cell? (ad.add j) = some u
  one : ∀ u ∈ xs, u.oneCell' = true
/-- A row made anew. -/
def Fresh (w w' : World) (e : TypeId) (size : Nat) (n : Nat) (xs : List Value) (v : Value) : Prop :=
  w'.ownsRow 0 e size v n xs ∧ Keeps (fun _ => False) w w' ∧ ∀ b, v.ownBlock = some b → w.heap.size ≤ b

theorem fresh_of {w w1 : World} {e : TypeId} {size m : Nat} {xs : List Value} {v' : Value} (hr : w1.ownsRow 0 e size v' (0 + m) ([] ++ xs)) (hg : (w.alloc (.cells #[] e)).grownBy w1 (Value.slice (some ⟨w.heap.size, 0, none⟩) 0 0).ownBlock)
    (hl : v'.ownBlock = (Value.slice (some ⟨w.heap.size, 0, none⟩) 0 0).ownBlock ∨ v'.ownBlock = some (w.alloc (.cells #[] e)).heap.size) : Fresh w w1 e size m xs v' := by
  refine ⟨by simpa using hr, ⟨hg.os, hg.tape, hg.output, Nat.le_trans (by simp) hg.size, fun k hk _ => ?_⟩, fun b hb => ?_⟩
  · rw [hg.block k (by simp; omega) (by simp [Value.ownBlock]; omega)]
    exact heap_alloc_old w _ hk
  · rcases hl with e1 | e1
    · rw [e1] at hb; simp [Value.ownBlock] at hb; omega
    · rw [e1] at hb; simp at hb; omega

set_option maxHeartbeats 400000 in
theorem clone_ints (a : Option Addr) (len cap : Nat) (xs : List Value) (w : World) (h : Src w a len cap 1 xs) (hm : len ≤ maxLen) (hb : len * 8 ≤ 140737488355328) :
    Calls Try.prog 20 #[.slice a len cap] w fun e w' => ∃ v, e = .returned v ∧ Fresh w w' 3 1 len xs v := by
  obtain ⟨i0, hi, hz0, hz1, hz2⟩ := info_parts Try.info3
  cases a with
  | none =>
    obtain ⟨rfl, rfl⟩ := h.none rfl
    have hx : xs = [] := List.eq_nil_of_length_eq_zero (by have := h.length; omega)
    subst hx
    clear h
    have he : ∀ w : World, (binOp .eql 22 (.slice none 0 0) (.slice none 0 0)).run Try.prog w = .ok (.bool true) w := fun _ => rfl
    go_enter Try.func20, Try.ntmps20
    go_wp2
    go_ret
    exact ⟨_, rfl, World.ownsRow_nil _ _ _ _, Keeps.refl _ _, fun b hb => by cases hb⟩
  | some ad =>
    have hrow : (w.alloc (.cells #[] 3)).ownsRow 0 3 1 (.slice (some ⟨w.heap.size, 0, none⟩) 0 0) 0 [] := World.ownsRow_made w #[] 0 (Nat.zero_le _) (Nat.zero_le _) rfl
    have hc : ∀ (j : Nat) (u : Value), xs[j]? = some u → (w.alloc (.cells #[] 3)).cell? (ad.add j) = some u := fun j u hu => (World.grownBy_alloc w _ none).cell (h.cells ad rfl j u hu) (by simp)
    have h1 := h.one
    have hlen := h.length
    have hm' : 0 + len ≤ maxLen := by omega
    have hb' : (0 + len) * 8 ≤ 140737488355328 := by omega
    have he : ∀ w : World, (binOp .eql 22 (.slice (some ad) len cap) (.slice none 0 0)).run Try.prog w = .ok (.bool false) w := fun _ => rfl
    clear h
    go_enter Try.func20, Try.ntmps20
    go_wp2_with (at_builtin; refine wpList_append_own_at _ rfl (.tmp 5) (.tmp 6) 22 rfl 0 3 i0 (.int .i64 0) 1 8 Try.underlying22 hi hz0 hz1 hz2 rfl (by decide) _ _ _ rfl hrow ad len cap xs rfl hlen hc h1 hm' hb' (Nat.zero_le _) ?_; intro v' w1 hrow1 hgrow _ hloc; have HF := Lib.hid (fresh_of hrow1 hgrow hloc); clear hrow1 hgrow hloc)
    go_ret
    exact ⟨_, rfl, HF.out⟩

set_option maxHeartbeats 400000 in
theorem clone_events (a : Option Addr) (len cap : Nat) (xs : List Value) (w : World) (h : Src w a len cap 4 xs) (hm : len ≤ maxLen) (hb : len * 40 ≤ 140737488355328) :
    Calls Try.prog 23 #[.slice a len cap] w fun e w' => ∃ v, e = .returned v ∧ Fresh w w' 34 4 len xs v := by
  obtain ⟨i0, hi, hz0, hz1, hz2⟩ := info_parts Try.info34
  cases a with
  | none =>
    obtain ⟨rfl, rfl⟩ := h.none rfl
    have hx : xs = [] := List.eq_nil_of_length_eq_zero (by have := h.length; omega)
    subst hx
    clear h
    have he : ∀ w : World, (binOp .eql 23 (.slice none 0 0) (.slice none 0 0)).run Try.prog w = .ok (.bool true) w := fun _ => rfl
    go_enter Try.func23, Try.ntmps23
    go_wp2
    go_ret
    exact ⟨_, rfl, World.ownsRow_nil _ _ _ _, Keeps.refl _ _, fun b hb => by cases hb⟩
  | some ad =>
    have hrow : (w.alloc (.cells #[] 34)).ownsRow 0 34 4 (.slice (some ⟨w.heap.size, 0, none⟩) 0 0) 0 [] := World.ownsRow_made w #[] 0 (Nat.zero_le _) (Nat.zero_le _) rfl
    have hc : ∀ (j : Nat) (u : Value), xs[j]? = some u → (w.alloc (.cells #[] 34)).cell? (ad.add j) = some u := fun j u hu => (World.grownBy_alloc w _ none).cell (h.cells ad rfl j u hu) (by simp)
    have h1 := h.one
    have hlen := h.length
    have hm' : 0 + len ≤ maxLen := by omega
    have hb' : (0 + len) * 40 ≤ 140737488355328 := by omega
    have he : ∀ w : World, (binOp .eql 23 (.slice (some ad) len cap) (.slice none 0 0)).run Try.prog w = .ok (.bool false) w := fun _ => rfl
    clear h
    go_enter Try.func23, Try.ntmps23
    go_wp2_with (at_builtin; refine wpList_append_own_at _ rfl (.tmp 5) (.tmp 6) 23 rfl 0 34 i0 _ 4 40 Try.underlying23 hi hz0 hz1 hz2 rfl (by decide) _ _ _ rfl hrow ad len cap xs rfl hlen hc h1 hm' hb' (Nat.zero_le _) ?_; intro v' w1 hrow1 hgrow _ hloc; have HF := Lib.hid (fresh_of hrow1 hgrow hloc); clear hrow1 hgrow hloc)
    go_ret
    exact ⟨_, rfl, HF.out⟩

/-- A row of the call's own, as cells to be copied. -/
theorem src_of_row {w : World} {e : TypeId} {size n : Nat} {v : Value} {xs : List Value} (h : w.ownsRow 0 e size v n xs) (h1 : ∀ u ∈ xs, u.oneCell' = true) : ∃ a c, v = .slice a n c ∧ Src w a n c size xs := by
  have hcell := fun g hg => h.cells (g := g) hg
  rcases h.2 with ⟨rfl, h0⟩ | ⟨g, cap, cur, rfl, _⟩
  · exact ⟨none, 0, by rw [h0], h.1, (fun _ => ⟨h0, rfl⟩), (fun _ e => by cases e), h1⟩
  · exact ⟨_, cap, rfl, h.1, (fun e => by cases e), (fun ad e j u hu => by cases e; exact hcell g rfl j u hu), h1⟩
theorem one_events (S : List Ev) : ∀ u ∈ S.flatMap evCells, u.oneCell' = true := by
  intro u hu
  obtain ⟨e, _, he⟩ := List.mem_flatMap.1 hu
  simp [evCells, str] at he
  rcases he with rfl | rfl | rfl | rfl <;> rfl

set_option maxHeartbeats 400000 in
theorem view_at {p : Nat} {s : St} {w : World} (h : ∃ F, Rel p s w F) (hl : s.seen.length ≤ 65536) :
    Calls Try.prog 18 #[.pointer (some ⟨p, 0, none⟩)] w fun e w' => ∃ v, e = .returned v ∧ Fresh w w' 34 4 s.seen.length (s.seen.flatMap evCells) v := by
  obtain ⟨F, m, sa, ss, sz, D, h, _⟩ := h
  obtain ⟨a, c, hss, hsrc⟩ := src_of_row (h.part (i := 2) rfl) (one_events _)
  have c2 := h.cell (i := 2) rfl
  rw [hss] at c2
  have C := Lib.hid (clone_events a _ c _ w hsrc (by unfold maxLen; omega) (by omega))
  clear h hss hsrc
  generalize s.seen.length = n at *
  go_enter Try.func18, Try.ntmps18
  go_wp2_with fail
  refine C.out.mono ?_; rintro e w1 ⟨v, rfl, hf⟩
  have HF := Lib.hid hf
  clear hf
  go_wp2_with fail
  go_ret
  exact ⟨_, rfl, HF.out⟩

theorem faithful_at {p : Nat} {s : St} {w : World} {F : Nat → Prop} (h : Rel p s w F) :
    Calls Try.prog 11 #[.pointer (some ⟨p, 0, none⟩)] w fun e w' => e = .returned (.tuple #[]) ∧ Turns w F w' (Rel p { s with ways := [] }) := by
  obtain ⟨m, sa, ss, sz, D, h, hr, hl2, hf1, hf2, hz⟩ := h
  refine (faithful_any p w (h.frozen 3) ⟨_, h.cell (i := 3) rfl⟩).mono ?_
  rintro e w' ⟨rfl, rfl⟩
  refine ⟨rfl, ?_⟩
  have := h.turn (i := 3) (c' := Part.row 3 1 (.slice none 0 0) 0 []) (v' := .slice none 0 0) (w1 := w) rfl (Keeps.refl _ _) (World.ownsRow_nil _ _ _ _) (.inl rfl)
  exact this.imp fun G h => ⟨m, sa, ss, _, D, h, hr, hl2, hf1, hf2, by intro z hz; cases hz⟩

set_option maxHeartbeats 400000 in
theorem new_at (a : Option Addr) (len cap : Nat) (zs : List Int) (w : World) (h : Src w a len cap 1 (zs.map (.int .i64))) (hm : len ≤ maxLen) (hb : len * 8 ≤ 140737488355328) (hz : ∀ z ∈ zs, z ≤ 9223372036854775807) :
    Calls Try.prog 10 #[.slice a len cap] w fun e w' => ∃ p, e = .returned (.pointer (some ⟨p, 0, none⟩)) ∧ ∃ F, Rel p ⟨[], [], [], zs⟩ w' F ∧ Keeps (fun _ => False) w w' ∧ ∀ b, F b → w.heap.size ≤ b := by
  have hlen : zs.length = len := by have := h.length; simpa using this
  subst hlen
  have hs : Src (w.alloc (.map #[] 0)) a zs.length cap 1 (zs.map (.int .i64)) := ⟨h.length, h.none, fun ad e j u hu => (World.grownBy_alloc w _ none).cell (h.cells ad e j u hu) (by simp), h.one⟩
  have C := Lib.hid (clone_ints a zs.length cap _ _ hs hm hb)
  have hmm := @run_makeMap Try.prog
  clear h hs
  go_enter Try.func10, Try.ntmps10
  go_wp2_with fail
  refine C.out.mono ?_; rintro e w1 ⟨v, rfl, hf⟩
  have HF := Lib.hid hf
  obtain ⟨aa, c, hv⟩ := row1_shape hf.1
  subst hv
  clear hf
  go_wp2_with fail
  obtain ⟨hr, hk, hf⟩ := HF.out
  have hk0 : Keeps (fun _ => False) w w1 := ((Keeps.refl (fun _ => False) w).alloc (.map #[] 0)).trans hk (fun _ _ h => h)
  have hmap : w1.ownsMap (H := Unit) Try.prog 3 (plainElem Try.prog 9) w.heap.size 0 (.map []) := map_keeps (World.ownsMap_made w Try.prog 3 (plainElem Try.prog 9)) hk (fun h => h)
  have hfm : ∀ b, (Value.slice aa zs.length c).ownBlock = some b → w.heap.size + 1 ≤ b := fun b hb => by have := hf b hb; simpa using this
  have ob := Obj.made (w := w1) (Cs := [Part.map Try.prog 3 (plainElem Try.prog 9) w.heap.size 0 (.map []), Part.row 9 1 (.slice none 0 0) 0 [], Part.row 34 4 (.slice none 0 0) 0 [], Part.row 3 1 (.slice aa zs.length c) zs.length (zs.map (.int .i64))]) 49 [.map (some w.heap.size), .slice none 0 0, .slice none 0 0, .slice aa zs.length c]
    (by
      intro x hx
      simp only [List.mem_cons, List.not_mem_nil, or_false] at hx
      rcases hx with rfl | rfl | rfl | rfl
      · exact hmap
      · exact World.ownsRow_nil _ _ _ _
      · exact World.ownsRow_nil _ _ _ _
      · exact hr)
    (by
      intro i j ci cj hi hj hij b hb hb'
      have key : ∀ (i : Nat) (ci : Part), [Part.map Try.prog 3 (plainElem Try.prog 9) w.heap.size 0 (.map []), Part.row 9 1 (.slice none 0 0) 0 [], Part.row 34 4 (.slice none 0 0) 0 [], Part.row 3 1 (.slice aa zs.length c) zs.length (zs.map (.int .i64))][i]? = some ci → ci.home = some b → (i = 0 ∧ b = w.heap.size) ∨ (i = 3 ∧ w.heap.size + 1 ≤ b) := by
        intro i ci hi hb
        match i, hi with
        | 0, hi => cases hi; exact .inl ⟨rfl, (Option.some.inj hb).symm⟩
        | 1, hi => cases hi; cases hb
        | 2, hi => cases hi; cases hb
        | 3, hi => cases hi; exact .inr ⟨rfl, hfm b hb⟩
        | (i + 4), hi => simp at hi
      rcases key i ci hi hb with ⟨h1, h2⟩ | ⟨h1, h2⟩ <;> rcases key j cj hj hb' with ⟨h3, h4⟩ | ⟨h3, h4⟩ <;> omega)
  go_ret
  refine ⟨w1.heap.size, rfl, _, ⟨w.heap.size, .slice none 0 0, .slice none 0 0, .slice aa zs.length c, .map [], ob, ?_, Nat.le_refl _, ?_, ?_, hz⟩, hk0.alloc _, ?_⟩
  · intro n; simp [Maps.has, look, lookD, Go.WideAt.atKey_none]
  · intro x hx; cases hx
  · intro n x hx; simp [look] at hx
  · rintro b (rfl | ⟨x, hx, hb⟩)
    · exact hk0.size
    · simp only [List.mem_cons, List.not_mem_nil, or_false] at hx
      rcases hx with rfl | rfl | rfl | rfl
      · cases hb; exact Nat.le_refl _
      · cases hb
      · cases hb
      · have := hfm b hb; omega
end Go.Proofs.Yteclbfkeiejbeaa
