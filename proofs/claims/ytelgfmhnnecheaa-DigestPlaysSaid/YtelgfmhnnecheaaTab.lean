/-
  No statement is proved here: what each method of a table of digests does (New, Of, Text, Known, Len), for every table that has told fewer than 65536 strings and every string within the reach.
-/
import Derived.Test.YtelgfmhnnecheaaRows
import Derived.Test.YtelgfmhnnecheaaSep
import Derived.Maps.OwnSet
import Derived.Maps.AppendAt
import Derived.StillTailTactics
namespace Go.Proofs.Ytelgfmhnnecheaa
open Go.RowKit Go.Maps

theorem key9 : Keyed Try.prog 9 := string_keyed Try.underlying9
theorem zero3 (w : World) : (zeroValue 3).run Try.prog w = .ok (.int .i64 0) w := by kernel_rfl
theorem Try.info9 : (Try.prog.info? 9).map (fun i => (i.zero, i.size, i.bytes)) = some (some (.string ByteArray.empty), 1, 16) := by kernel_rfl

set_option maxHeartbeats 400000 in
theorem new_any (w : World) : Calls Try.prog 10 #[] w fun e w' => e = .returned (.pointer (some ⟨w.heap.size + 1, 0, none⟩)) ∧ w' = (w.alloc (.map #[] 0)).alloc (.cells #[.map (some w.heap.size), .slice none 0 0] 43) := by
  have hmm := @run_makeMap Try.prog
  go_enter Try.func10, Try.ntmps10
  go_wp2
  go_ret
  exact ⟨rfl, rfl⟩

set_option maxHeartbeats 400000 in
theorem len_any (p n c : Nat) (a : Option Addr) (w : World) (h1 : w.cell? ⟨p, 1, none⟩ = some (.slice a n c)) : Calls Try.prog 15 #[.pointer (some ⟨p, 0, none⟩)] w fun e w' => e = .returned (.int .i64 n) ∧ w = w' := by
  go_enter Try.func15, Try.ntmps15
  go_wp2
  go_ret
  exact ⟨rfl, rfl⟩

set_option maxHeartbeats 400000 in
theorem known_any {H : Type} (p m n : Nat) (D : DataW H) (s : ByteArray) (hs : s.size ≤ maxLen) (w : World) (h0 : w.cell? ⟨p, 0, none⟩ = some (.map (some m))) (hown : w.ownsMap Try.prog 9 (plainElem Try.prog 3) m n D) :
    Calls Try.prog 11 #[.pointer (some ⟨p, 0, none⟩), .string s] w fun e w' => e = .returned (.bool (Maps.has D (.string s.data.toList))) ∧ w = w' := by
  have hkey := Go.WideMaps.keyOf_string_mk Try.underlying9 hs
  go_enter Try.func11, Try.ntmps11
  go_wp2_with (at_lookup; refine wpList_lookup_own_ok_int _ rfl _ _ 41 rfl 9 3 .i64 key9 Try.underlying41 Try.underlying3 (zero3 _) m n D rfl hown _ _ rfl hkey ?_; intro c hat hwc)
  go_ret
  exact ⟨rfl, rfl⟩

/-- The table of digests behind the pointer to block p: it lies in the blocks F; it has told the strings L, in this order. -/
structure Tab (w : World) (p : Nat) (F : Nat → Prop) (L : List Str) (m : Nat) (sv : Value) (D : DataW Unit) : Prop where
  cells : w.heap[p]? = some (.cells #[.map (some m), sv] 43 (0, 0))
  map : w.ownsMap Try.prog 9 (plainElem Try.prog 3) m L.length D
  row : w.ownsRow 0 9 1 sv L.length (L.map str)
  foot : ∀ b, F b ↔ b = p ∨ b = m ∨ sv.ownBlock = some b
  has : ∀ s : Str, Maps.has D (.string s) = decide (s ∈ L)
  at' : ∀ i (h : i < L.length), D.atKey (.string L[i]) (.lit (.int .i64 0)) = .lit (.int .i64 ((i : Int) + 1))
  nodup : L.Nodup

theorem Tab.lt {w : World} {p : Nat} {F : Nat → Prop} {L : List Str} {m : Nat} {sv : Value} {D : DataW Unit} (h : Tab w p F L m sv D) : ∀ b, F b → b < w.heap.size := by
  intro b hb
  rcases (h.foot b).1 hb with rfl | rfl | hb
  · exact (Array.getElem?_eq_some_iff.1 h.cells).1
  · exact h.map.lt
  · exact (h.row.lt b hb).2

theorem Tab.kept {w w' : World} {p : Nat} {F G : Nat → Prop} {L : List Str} {m : Nat} {sv : Value} {D : DataW Unit} (h : Tab w p F L m sv D) (hk : Keeps G w w') (hd : ∀ b, F b → ¬ G b) : Tab w' p F L m sv D := by
  have hlt := h.lt
  have hblk : ∀ b, F b → w'.heap[b]? = w.heap[b]? := fun b hb => hk.block b (hlt b hb) (hd b hb)
  refine ⟨(hblk p ((h.foot p).2 (.inl rfl))).trans h.cells, ?_, ?_, h.foot, h.has, h.at', h.nodup⟩
  · obtain ⟨es, clock, hb, r⟩ := h.map
    exact ⟨es, clock, (hblk m ((h.foot m).2 (.inr (.inl rfl)))).trans hb, r⟩
  · obtain ⟨h1, h2⟩ := h.row
    refine ⟨h1, ?_⟩
    rcases h2 with h2 | ⟨g, cap, cur, hv, hg, hh, r⟩
    · exact .inl h2
    · exact .inr ⟨g, cap, cur, hv, hg, (hblk g ((h.foot g).2 (.inr (.inr (by rw [hv]; rfl))))).trans hh, r⟩

def dig (L : List Str) (s : Str) : Nat := if s ∈ L then L.idxOf s + 1 else L.length + 1
def nxt (L : List Str) (s : Str) : List Str := if s ∈ L then L else L ++ [s]

theorem Tab.told {w : World} {p : Nat} {F : Nat → Prop} {L : List Str} {m : Nat} {sv : Value} {D : DataW Unit} (h : Tab w p F L m sv D) {s : Str} (hs : s ∈ L) :
    D.atKey (.string s) (.lit (.int .i64 0)) = .lit (.int .i64 (dig L s : Nat)) := by
  have hi : L.idxOf s < L.length := List.idxOf_lt_length_iff.2 hs
  have := h.at' _ hi
  rw [List.getElem_idxOf hi] at this
  rw [this]; simp [dig, hs]

theorem isKey_string (s : Str) : Go.WideAt.IsKeyLit (.string s) := by simp [Go.WideAt.IsKeyLit]

/-- What the map reads as behind one more string. -/
theorem put_has {D : DataW Unit} (hm : IsMap D) {L : List Str} (h : ∀ s : Str, Maps.has D (.string s) = decide (s ∈ L)) (s : Str) (d : DataW Unit) (t : Str) :
    Maps.has (D.put (.string s) d) (.string t) = decide (t ∈ L ++ [s]) := by
  by_cases e : t = s
  · subst e; rw [has_put_same hm (isKey_string _)]; simp
  · rw [has_put_other (by simpa using e), h]; simp [e]

theorem put_at {D : DataW Unit} (hm : IsMap D) {L : List Str} {s : Str} (hs : s ∉ L)
    (h : ∀ i (h : i < L.length), D.atKey (.string L[i]) (.lit (.int .i64 0)) = .lit (.int .i64 ((i : Int) + 1))) :
    ∀ i (h : i < (L ++ [s]).length), (D.put (.string s) (.lit (.int .i64 ((L.length : Int) + 1)))).atKey (.string (L ++ [s])[i]) (.lit (.int .i64 0)) = .lit (.int .i64 ((i : Int) + 1)) := by
  intro i hi
  by_cases e : i < L.length
  · rw [List.getElem_append_left e, atKey_put_other _ , h i e]
    intro e2
    simp only [Lit.string.injEq] at e2
    exact hs (e2 ▸ List.getElem_mem e)
  · have : i = L.length := by simp at hi; omega
    subst this
    simp [atKey_put_same hm (isKey_string _)]

theorem Tab.cell0 {w : World} {p : Nat} {F : Nat → Prop} {L : List Str} {m : Nat} {sv : Value} {D : DataW Unit} (h : Tab w p F L m sv D) : w.cell? ⟨p, 0, none⟩ = some (.map (some m)) := by
  simp [World.cell?, h.cells]
theorem Tab.cell1 {w : World} {p : Nat} {F : Nat → Prop} {L : List Str} {m : Nat} {sv : Value} {D : DataW Unit} (h : Tab w p F L m sv D) : w.cell? ⟨p, 1, none⟩ = some sv := by
  simp [World.cell?, h.cells]
theorem Tab.shape {w : World} {p : Nat} {F : Nat → Prop} {L : List Str} {m : Nat} {sv : Value} {D : DataW Unit} (h : Tab w p F L m sv D) : ∃ a c, sv = .slice a L.length c ∧ L.length ≤ c ∧ (a = none → L = []) := by
  rcases h.row.2 with ⟨h1, h2⟩ | ⟨g, cap, cur, hv, _, _, h2, _⟩
  · exact ⟨none, 0, by rw [h1, h2], by omega, fun _ => List.eq_nil_of_length_eq_zero h2⟩
  · exact ⟨_, cap, hv, h2, fun h => by cases h⟩

/-- The three blocks of a table are three. -/
theorem Tab.apart1 {w : World} {p : Nat} {F : Nat → Prop} {L : List Str} {m : Nat} {sv : Value} {D : DataW Unit} (h : Tab w p F L m sv D) : sv.ownBlock ≠ some p := by
  intro e
  rcases h.row.2 with ⟨h1, _⟩ | ⟨g, cap, cur, hv, _, hh, _⟩
  · subst h1; cases e
  · subst hv
    simp only [Value.ownBlock, Option.some.injEq] at e
    subst e
    rw [h.cells] at hh
    simp at hh
theorem Tab.apart2 {w : World} {p : Nat} {F : Nat → Prop} {L : List Str} {m : Nat} {sv : Value} {D : DataW Unit} (h : Tab w p F L m sv D) : sv.ownBlock ≠ some m := by
  intro e
  obtain ⟨es, clock, hm, _⟩ := h.map
  rcases h.row.2 with ⟨h1, _⟩ | ⟨g, cap, cur, hv, _, hh, _⟩
  · subst h1; cases e
  · subst hv
    simp only [Value.ownBlock, Option.some.injEq] at e
    subst e
    rw [hm] at hh
    simp at hh
theorem Tab.apart3 {w : World} {p : Nat} {F : Nat → Prop} {L : List Str} {m : Nat} {sv : Value} {D : DataW Unit} (h : Tab w p F L m sv D) : m ≠ p := by
  intro e
  obtain ⟨es, clock, hm, _⟩ := h.map
  subst e
  rw [h.cells] at hm
  simp at hm

theorem len_still (p n c : Nat) (a : Option Addr) (w : World) (h1 : w.cell? ⟨p, 1, none⟩ = some (.slice a n c)) : Calls Try.prog 15 #[.pointer (some ⟨p, 0, none⟩)] w fun e w' => e = .returned (.int .i64 n) ∧ w' = w :=
  (len_any p n c a w h1).mono (fun _ _ h => ⟨h.1, h.2.symm⟩)

set_option maxHeartbeats 400000 in
theorem of_old (p : Nat) (F : Nat → Prop) (L : List Str) (m : Nat) (sv : Value) (D : DataW Unit) (s : ByteArray) (hs : s.size ≤ maxLen) (w : World) (h : Tab w p F L m sv D) (hin : s.data.toList ∈ L) :
    Calls Try.prog 13 #[.pointer (some ⟨p, 0, none⟩), .string s] w fun e w' => e = .returned (.tuple #[.int .i64 (dig L s.data.toList : Nat), .int .i64 0]) ∧ w = w' := by
  have hkey := Go.WideMaps.keyOf_string_mk Try.underlying9 hs
  have h0 := h.cell0
  have hhas : Maps.has D (.string s.data.toList) = true := by rw [h.has]; simpa using hin
  have HA := Lib.hid (h.told hin)
  have hown := h.map
  go_enter Try.func13, Try.ntmps13
  go_wp2_with (at_lookup; refine wpList_lookup_own_ok_int _ rfl _ _ 41 rfl 9 3 .i64 key9 Try.underlying41 Try.underlying3 (zero3 _) m _ D rfl hown _ _ rfl hkey ?_; intro c hat hwc)
  go_ret2
  have e := hat.symm.trans HA.out
  simp only [DataW.lit.injEq, Lit.int.injEq, true_and] at e
  subst e
  exact ⟨rfl, rfl⟩

/-- What 'Of' does to the table where the string is new: the row, the field, the map. -/
theorem Tab.add {w w1 W2 w3 : World} {p : Nat} {F : Nat → Prop} {L : List Str} {m : Nat} {a : Option Addr} {cp : Nat} {D : DataW Unit} (h : Tab w p F L m (.slice a L.length cp) D) {s : Str} (hin : s ∉ L) {g cap : Nat} {o : Obj}
    (hrow1 : w1.ownsRow 0 9 1 (.slice (some ⟨g, 0, none⟩) (L.length + 1) cap) (L.length + 1) (L.map str ++ [str s]))
    (hloc : (Value.slice (some ⟨g, 0, none⟩) (L.length + 1) cap).ownBlock = (Value.slice a L.length cp).ownBlock ∨ (Value.slice (some ⟨g, 0, none⟩) (L.length + 1) cap).ownBlock = some (w.heap.size + 1))
    (HG : (w.alloc o).grownBy w1 (Value.slice a L.length cp).ownBlock)
    (hW2 : w1.setCell ⟨p, 1, none⟩ (.slice (some ⟨g, 0, none⟩) (L.length + 1) cap) = W2)
    (hpb2 : W2.heap[p]? = some (.cells #[.map (some m), .slice (some ⟨g, 0, none⟩) (L.length + 1) cap] 43 (0, 0)))
    (hown3 : w3.ownsMap Try.prog 9 (plainElem Try.prog 3) m (L.length + 1) (D.put (.string s) (.lit (.int .i64 ((L.length : Int) + 1)))))
    (hgrow3 : W2.drew.grownBy w3 (some m)) :
    ∃ F' sv' D', Tab w3 p F' (L ++ [s]) m sv' D' ∧ Keeps F w w3 ∧ ∀ b, F' b → F b ∨ w.heap.size ≤ b := by
  have fp := (h.foot p).2 (.inl rfl)
  have fm := (h.foot m).2 (.inr (.inl rfl))
  have hgF : F g ∨ w.heap.size ≤ g := by
    rcases hloc with e | e
    · exact .inl ((h.foot g).2 (.inr (.inr e.symm)))
    · simp only [Value.ownBlock, Option.some.injEq] at e
      exact .inr (by omega)
  have hgm : g ≠ m := by
    rcases hloc with e | e
    · intro e2; subst e2; exact h.apart2 e.symm
    · simp only [Value.ownBlock, Option.some.injEq] at e
      have := h.lt m fm
      omega
  have hgp : g ≠ p := by
    rcases hloc with e | e
    · intro e2; subst e2; exact h.apart1 e.symm
    · simp only [Value.ownBlock, Option.some.injEq] at e
      have := h.lt p fp
      omega
  have k1 : Keeps F w w1 := ((Keeps.refl F w).alloc o).trans (Keeps.grown (F := fun b => (Value.slice a L.length cp).ownBlock = some b) HG (fun k hk _ => hk)) (fun i _ hi => (h.foot i).2 (.inr (.inr hi)))
  have k2 : Keeps F w W2 := hW2 ▸ k1.setCell (p := ⟨p, 1, none⟩) (fun _ => fp) _
  have k3 : Keeps F w w3 := k2.drew.trans (Keeps.grown (F := fun b => b = m) hgrow3 (fun k hk _ => by simpa using hk.symm)) (fun i _ hi => hi ▸ fm)
  have hg2 : W2.heap[g]? = w1.heap[g]? := by rw [← hW2]; exact Below.heap_setCell _ _ _ _ hgp
  have hg1 : g < w1.heap.size := (hrow1.lt g rfl).2
  have hg3 : w3.heap[g]? = w1.heap[g]? := by
    rw [hgrow3.block g (by show g < W2.heap.size; rw [← hW2]; simpa [World.setCell] using hg1) (by simpa using hgm)]; exact hg2
  have hp3 : w3.heap[p]? = some (.cells #[.map (some m), .slice (some ⟨g, 0, none⟩) (L.length + 1) cap] 43 (0, 0)) := by
    rw [hgrow3.block p (by exact (Array.getElem?_eq_some_iff.1 hpb2).1) (by simpa using h.apart3.symm)]; exact hpb2
  refine ⟨fun b => b = p ∨ b = m ∨ b = g, _, _, ⟨hp3, by simpa using hown3, ?_, ?_, ?_, ?_, ?_⟩, k3, ?_⟩
  · obtain ⟨r1, r2⟩ := hrow1
    refine ⟨by simp, ?_⟩
    rcases r2 with ⟨e, _⟩ | ⟨g', cap', cur, hv, hb, hh, r⟩
    · cases e
    · simp only [Value.slice.injEq, Option.some.injEq, Addr.mk.injEq, and_true, true_and] at hv
      obtain ⟨rfl, rfl⟩ := hv
      exact .inr ⟨g, cap, cur, by simp, hb, hg3.trans hh, by simpa using r⟩
  · intro b; simp [Value.ownBlock, eq_comm]
  · exact put_has h.map.isMap h.has s _
  · exact put_at h.map.isMap hin h.at'
  · exact List.nodup_append.2 ⟨h.nodup, by simp, by intro x hx y hy; simp at hy; subst hy; exact fun e => hin (e ▸ hx)⟩
  · rintro b (rfl | rfl | rfl)
    · exact .inl fp
    · exact .inl fm
    · exact hgF

set_option maxRecDepth 100000 in
set_option maxHeartbeats 1000000 in
theorem of_new (p : Nat) (F : Nat → Prop) (L : List Str) (m : Nat) (sv : Value) (D : DataW Unit) (s : ByteArray) (hs : s.size ≤ maxLen) (w : World) (h : Tab w p F L m sv D) (hin : s.data.toList ∉ L) (hl : L.length < 65536) :
    Calls Try.prog 13 #[.pointer (some ⟨p, 0, none⟩), .string s] w fun e w' => e = .returned (.tuple #[.int .i64 ((L.length : Int) + 1), .int .i64 0]) ∧
      ∃ F' sv' D', Tab w' p F' (L ++ [s.data.toList]) m sv' D' ∧ Keeps F w w' ∧ ∀ b, F' b → F b ∨ w.heap.size ≤ b := by
  obtain ⟨i0, hi, hz0, hz1, hz2⟩ := info_parts Try.info9
  have hkey := Go.WideMaps.keyOf_string_mk Try.underlying9 hs
  have h0 := h.cell0
  have h1 := h.cell1
  obtain ⟨a, cp, hsv, hlc, hnil⟩ := h.shape
  subst hsv
  have hhas : Maps.has D (.string s.data.toList) = false := by rw [h.has]; simpa using hin
  have hown := h.map
  have hrow := h.row
  have hp := h.lt p ((h.foot p).2 (.inl rfl))
  clear hnil
  have hg : decide ((65536 : Int) ≤ (L.length : Int)) = false := by simp; omega
  have HL := Lib.hid hl
  clear hl
  go_enter Try.func13, Try.ntmps13
  go_wp2_with (at_lookup; refine wpList_lookup_own_ok_int _ rfl _ _ 41 rfl 9 3 .i64 key9 Try.underlying41 Try.underlying3 (zero3 _) m _ D rfl hown _ _ rfl hkey ?_; intro c hat hwc)
  refine (len_any p _ _ _ _ h1).mono ?_; rintro e w' ⟨rfl, rfl⟩
  go_wp2_with (at_builtin; refine wpList_append_own_at _ rfl (.tmp 26) (.tmp 28) 22 rfl 0 9 i0 (.string ByteArray.empty) 1 16 Try.underlying22 hi hz0 hz1 hz2 rfl (by decide) _ _ _ rfl (hrow.alloc _) ⟨w.heap.size, 0, none⟩ 1 1 [.string s] rfl rfl ?c1 ?c2 ?c3 ?c4 ?c5 ?_)
  case c1 => exact cell_one_new _ _ _
  case c2 => intro u hu; simp at hu; subst hu; rfl
  case c3 => unfold maxLen; have := HL.out; omega
  case c4 => have := HL.out; omega
  case c5 => omega
  intro v' w1 hrow1 hgrow _ hloc
  have hpb : w1.heap[p]? = some (.cells #[.map (some m), .slice a L.length cp] 43 (0, 0)) := by
    rw [hgrow.block p (by simp; omega) (by intro e; exact h.apart1 e.symm)]
    exact (Below.heap_alloc _ _ _ hp).trans h.cells
  have hown1 : w1.ownsMap Try.prog 9 (plainElem Try.prog 3) m L.length D := (hown.alloc _).kept hgrow (by intro e; exact h.apart2 e.symm)
  obtain ⟨g, cap, hv'⟩ : ∃ g cap, v' = .slice (some ⟨g, 0, none⟩) (L.length + 1) cap := by
    rcases hrow1.2 with ⟨_, e⟩ | ⟨g, cap, _, e, _⟩
    · omega
    · exact ⟨g, cap, e⟩
  subst hv'
  have c0 : w1.cell? ⟨p, 0, none⟩ = some (.map (some m)) := by simp [World.cell?, hpb]
  have c1 : w1.cell? ⟨p, 1, none⟩ = some (.slice a L.length cp) := by simp [World.cell?, hpb]
  have f1 : w1.frozen? ⟨p, 1, none⟩ = false := by simp [World.frozen?, hpb]
  have hpb2 : (w1.setCell ⟨p, 1, none⟩ (.slice (some ⟨g, 0, none⟩) (L.length + 1) cap)).heap[p]? = some (.cells #[.map (some m), .slice (some ⟨g, 0, none⟩) (L.length + 1) cap] 43 (0, 0)) := by
    exact heap_setCell_same hpb _
  have hown2 := (hown1.setCell (a := ⟨p, 1, none⟩) h.apart3 (.slice (some ⟨g, 0, none⟩) (L.length + 1) cap))
  have d0 : (w1.setCell ⟨p, 1, none⟩ (.slice (some ⟨g, 0, none⟩) (L.length + 1) cap)).cell? ⟨p, 0, none⟩ = some (.map (some m)) := by simp [World.cell?, hpb2]
  have d1 : (w1.setCell ⟨p, 1, none⟩ (.slice (some ⟨g, 0, none⟩) (L.length + 1) cap)).cell? ⟨p, 1, none⟩ = some (.slice (some ⟨g, 0, none⟩) (L.length + 1) cap) := by simp [World.cell?, hpb2]
  clear h0 h1 hrow hown hat hwc hhas hg
  have HG := Lib.hid hgrow
  clear hgrow
  go_wp2_with fail
  clear hpb hown1 c0 c1 f1
  generalize hW2 : w1.setCell ⟨p, 1, none⟩ (.slice (some ⟨g, 0, none⟩) (L.length + 1) cap) = W2 at hpb2 hown2 d0 d1 ⊢
  have HW2 := Lib.hid hW2
  clear hW2
  go_still_tail 7, (by kernel_rfl)
  change wpStill _ _ W2.drew _ _ _
  still_call (len_still p (L.length + 1) cap _ W2.drew d1)
  refine wpStill_nil ?_
  go_wp2_with (first
    | (go_at_call 15; refine (len_any p (L.length + 1) cap _ _ d1').mono ?_; rintro e w' ⟨rfl, rfl⟩)
    | (at_mapUpdate; refine wpList_mapUpdate_own _ rfl _ _ _ 41 rfl 9 3 key9 Try.underlying41 _ m _ D rfl hown2.drew (by unfold maxLen; have := HL.out; omega) _ _ _ rfl rfl hkey _ [] (plainElem_int Try.underlying3 (by simp [Lit.wf, IntKind.min, IntKind.max, IntKind.signed, IntKind.bits]; have := HL.out; omega)) ?_; intro w3 hown3 hgrow3; have d1' : w3.cell? ⟨p, 1, none⟩ = some (.slice (some ⟨g, 0, none⟩) (L.length + 1) cap) := (hgrow3.cell (w := W2.drew) d1 (by simpa using h.apart3.symm))))
  go_ret2
  exact ⟨rfl, h.add hin (by rw [← str_of]; exact hrow1) hloc HG.out HW2.out hpb2 hown3 hgrow3⟩

def IsTab (w : World) (p : Nat) (F : Nat → Prop) (L : List Str) : Prop := ∃ m sv D, Tab w p F L m sv D
theorem IsTab.lt {w : World} {p : Nat} {F : Nat → Prop} {L : List Str} (h : IsTab w p F L) : ∀ b, F b → b < w.heap.size := let ⟨_, _, _, h⟩ := h; h.lt
theorem IsTab.kept {w w' : World} {p : Nat} {F G : Nat → Prop} {L : List Str} (h : IsTab w p F L) (hk : Keeps G w w') (hd : ∀ b, F b → ¬ G b) : IsTab w' p F L :=
  let ⟨_, _, _, h⟩ := h; ⟨_, _, _, h.kept hk hd⟩
theorem IsTab.drew {w : World} {p : Nat} {F : Nat → Prop} {L : List Str} (h : IsTab w p F L) : IsTab w.drew p F L :=
  h.kept (G := fun _ => False) (Keeps.refl _ _).drew (fun _ _ h => h)

/-- Of: the digest, and the table behind it. -/
theorem of_any (p : Nat) (F : Nat → Prop) (L : List Str) (s : ByteArray) (hs : s.size ≤ maxLen) (w : World) (h : IsTab w p F L) (hl : L.length < 65536) :
    Calls Try.prog 13 #[.pointer (some ⟨p, 0, none⟩), .string s] w fun e w' => e = .returned (.tuple #[.int .i64 (dig L s.data.toList : Nat), .int .i64 0]) ∧
      ∃ F', IsTab w' p F' (nxt L s.data.toList) ∧ Keeps F w w' ∧ ∀ b, F' b → F b ∨ w.heap.size ≤ b := by
  obtain ⟨m, sv, D, h⟩ := h
  by_cases hin : s.data.toList ∈ L
  · refine (of_old p F L m sv D s hs w h hin).mono ?_
    rintro e w' ⟨rfl, rfl⟩
    refine ⟨rfl, F, ⟨m, sv, D, ?_⟩, Keeps.refl _ _, fun b hb => .inl hb⟩
    simpa [nxt, hin] using h
  · refine (of_new p F L m sv D s hs w h hin hl).mono ?_
    rintro e w' ⟨rfl, F', sv', D', h', hk, hf⟩
    refine ⟨by simp [dig, hin], F', ⟨m, sv', D', ?_⟩, hk, hf⟩
    simpa [nxt, hin] using h'

def knows (L : List Str) (s : Str) : Bool := decide (s ∈ L)
theorem Known_any (p : Nat) (F : Nat → Prop) (L : List Str) (s : ByteArray) (hs : s.size ≤ maxLen) (w : World) (h : IsTab w p F L) :
    Calls Try.prog 11 #[.pointer (some ⟨p, 0, none⟩), .string s] w fun e w' => e = .returned (.bool (knows L s.data.toList)) ∧ w = w' := by
  obtain ⟨m, sv, D, h⟩ := h
  refine (known_any p m _ D s hs w h.cell0 h.map).mono ?_
  rintro e w' ⟨rfl, rfl⟩
  exact ⟨ret_bool (h.has _), rfl⟩
theorem Len_any (p : Nat) (F : Nat → Prop) (L : List Str) (w : World) (h : IsTab w p F L) :
    Calls Try.prog 15 #[.pointer (some ⟨p, 0, none⟩)] w fun e w' => e = .returned (.int .i64 L.length) ∧ w = w' := by
  obtain ⟨m, sv, D, h⟩ := h
  obtain ⟨a, cp, rfl, _⟩ := h.shape
  exact len_any p _ cp a w h.cell1
theorem New_any (w : World) : Calls Try.prog 10 #[] w fun e w' => e = .returned (.pointer (some ⟨w.heap.size + 1, 0, none⟩)) ∧ ∃ F, IsTab w' (w.heap.size + 1) F [] ∧ (∀ b, F b → w.heap.size ≤ b) ∧ Keeps (fun _ => False) w w' := by
  refine (new_any w).mono ?_
  rintro e w' ⟨rfl, rfl⟩
  refine ⟨rfl, fun b => b = w.heap.size + 1 ∨ b = w.heap.size ∨ False, ⟨w.heap.size, .slice none 0 0, .map [], ?_⟩, ?_, ((Keeps.refl _ _).alloc _).alloc _⟩
  · refine ⟨?_, ?_, World.ownsRow_nil _ _ _ _, ?_, ?_, ?_, List.nodup_nil⟩
    · have := heap_alloc_new (w.alloc (.map #[] 0)) (.cells #[.map (some w.heap.size), .slice none 0 0] 43)
      simpa using this
    · exact (World.ownsMap_made w _ _ _).alloc _
    · intro b; simp [Value.ownBlock]
    · intro s; simp [Maps.has]
    · intro i hi; simp at hi
  · rintro b (rfl | rfl | h)
    · omega
    · exact Nat.le_refl _
    · exact h.elim

/-! ### Text -/
def isT (L : List Str) (d : Int) : Bool := decide (1 ≤ d ∧ d ≤ L.length)
def txt (L : List Str) (d : Int) : Str := if 1 ≤ d ∧ d ≤ L.length then L.getD (d.toNat - 1) [] else []

set_option maxHeartbeats 400000 in
theorem text_in (p : Nat) (F : Nat → Prop) (L : List Str) (i : Nat) (hi : i < L.length) (d : Int) (hd : d = (i : Int) + 1) (w : World) (h : IsTab w p F L) :
    Calls Try.prog 16 #[.pointer (some ⟨p, 0, none⟩), .int .i64 d] w fun e w' => e = .returned (.tuple #[str L[i], .bool true]) ∧ w = w' := by
  have HI := Lib.hid (Len_any p F L)
  have HT := Lib.hid h
  obtain ⟨m, sv, D, h⟩ := h
  obtain ⟨a, cp, rfl, hcp, hnil⟩ := h.shape
  have h1 := h.cell1
  obtain ⟨g, rfl⟩ : ∃ g, a = some ⟨g, 0, none⟩ := by
    rcases h.row.2 with ⟨e, _⟩ | ⟨g, cap, cur, hv, _⟩
    · simp only [Value.slice.injEq] at e
      exact absurd (hnil e.1) (by intro e; rw [e] at hi; simp at hi)
    · simp only [Value.slice.injEq] at hv
      exact ⟨g, hv.1⟩
  have hc : w.cell? ⟨g, i, none⟩ = some (str L[i]) := by
    have := h.row.cells (g := g) rfl i (str L[i]) (by simp [hi])
    rw [Addr.add_lit] at this
    simpa using this
  have hlen : L.length ≤ 9223372036854775807 := by
    rcases h.row.2 with ⟨e, _⟩ | ⟨g', cap, cur, hv, _, _, h2, h3, _⟩
    · cases e
    · unfold maxLen at h3; omega
  obtain ⟨x, hx⟩ : ∃ x, x = str L[i] := ⟨_, rfl⟩
  rw [← hx] at hc
  subst hd
  have hi' : (i : Int) + 1 ≤ (L.length : Int) := by omega
  have d1 : decide ((i : Int) + 1 < 1) = false := by simp; omega
  have d2 : decide ((L.length : Int) < (i : Int) + 1) = false := by simp; omega
  have HX := Lib.hid hx
  clear hx hnil hcp h
  go_enter Try.func16, Try.ntmps16
  go_wp2_with (go_at_call 15; refine (HI.out _ HT.out).mono ?_; rintro e w' ⟨rfl, rfl⟩)
  go_ret2
  exact ⟨ret_tuple2 HX.out rfl, rfl⟩

set_option maxHeartbeats 400000 in
theorem text_out (p : Nat) (F : Nat → Prop) (L : List Str) (d : Int) (hd : d < 1 ∨ (L.length : Int) < d) (w : World) (h : IsTab w p F L) :
    Calls Try.prog 16 #[.pointer (some ⟨p, 0, none⟩), .int .i64 d] w fun e w' => e = .returned (.tuple #[str [], .bool false]) ∧ w = w' := by
  have HI := Lib.hid (Len_any p F L)
  have HT := Lib.hid h
  clear h
  by_cases d1 : d < 1
  · go_enter Try.func16, Try.ntmps16
    go_wp2_with (go_at_call 15; refine (HI.out _ HT.out).mono ?_; rintro e w' ⟨rfl, rfl⟩)
    go_ret2
    exact ⟨rfl, rfl⟩
  · have d2 : (L.length : Int) < d := by omega
    clear hd
    go_enter Try.func16, Try.ntmps16
    go_wp2_with (go_at_call 15; refine (HI.out _ HT.out).mono ?_; rintro e w' ⟨rfl, rfl⟩)
    go_ret2
    exact ⟨rfl, rfl⟩

theorem Text_any (p : Nat) (F : Nat → Prop) (L : List Str) (d : Int) (w : World) (h : IsTab w p F L) :
    Calls Try.prog 16 #[.pointer (some ⟨p, 0, none⟩), .int .i64 d] w fun e w' => e = .returned (.tuple #[str (txt L d), .bool (isT L d)]) ∧ w = w' := by
  by_cases hd : 1 ≤ d ∧ d ≤ L.length
  · refine (text_in p F L (d.toNat - 1) (by omega) d (by omega) w h).mono ?_
    rintro e w' ⟨rfl, rfl⟩
    refine ⟨ret_tuple2 ?_ ?_, rfl⟩
    · simp [txt, hd, List.getD, show d.toNat - 1 < L.length by omega]
    · simp [isT, hd]
  · refine (text_out p F L d (by omega) w h).mono ?_
    rintro e w' ⟨rfl, rfl⟩
    exact ⟨ret_tuple2 (by simp [txt, hd]) (by simp [isT, hd]), rfl⟩
end Go.Proofs.Ytelgfmhnnecheaa
