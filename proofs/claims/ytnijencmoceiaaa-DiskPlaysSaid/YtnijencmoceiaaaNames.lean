/-
  No statement is proved here: 'Names' of a disk, 'New', as contracts.
-/
import Derived.Test.YtnijencmoceiaaaRestart
namespace Go.Proofs
set_option linter.unusedVariables false
open Go.RowKit Go.Maps Go.Sort Go.Shelf
/-- slices.Sort's two contracts at this dump, at the fence that asks nothing. -/
theorem Try.sortsA (m : Nat) : AnyZ.SortsIn Try.prog Try.sortedA_ren Fence.wide m :=
  ⟨fun blk off cap ss W hH hblk hsz => callsIn_wide.2 (AnyM.slices_Sort_string Try.sortA blk off cap ss W hH hblk hsz),
   fun p cap W => callsIn_wide.2 (AnyM.slices_Sort_string_none Try.sortA p cap W)⟩

set_option maxRecDepth 100000 in
set_option maxHeartbeats 2000000 in
theorem Try.names_up (p b nn : Nat) (D0 : DataW Unit) (R : Value → Option (DataW Unit × List MemPlace)) (w : World) (h4 : w.cell? ⟨p, 4, none⟩ = some (.bool false)) (h2 : w.cell? ⟨p, 2, none⟩ = some (.map (some b)))
    (hown : w.ownsMap Try.prog 9 R b nn D0) (hmax : Maps.size D0 ≤ maxLen) (hbytes : Maps.size D0 * 16 ≤ 140737488355328) :
    Calls Try.prog 28 #[.pointer (some ⟨p, 0, none⟩)] w fun e w' => ∃ (v : Value) (ss : List (List UInt8)), e = .returned v ∧ ss.Perm (strKeys D0) ∧
      w'.ownsRow w.heap.size 9 1 v ss.length ((ss.mergeSort (fun x y => decide (x ≤ y))).map encStr) ∧ (v = .slice none 0 0 ↔ ss = []) ∧ Below w.heap.size w w' := by
  refine (callsIn_wide (n := 6)).1 ?_
  have hbl := hown.lt
  have hseq : SeqGives Fence.wide 2 Try.prog 51 #[.pointer (some ⟨w.heap.size, 0, none⟩)] encStr (fun ss => ss.Perm (strKeys D0)) (Maps.size D0) (w.alloc (.cells #[.map (some b)] 55)) :=
    AnyZ.keys_gives (ρ := Try.keysA_ren) { Try.keysA with } Fence.wide _ trivial rfl (by omega) w.heap.size b nn D0 _ (by simp) (by simp) (by
      obtain ⟨es, clock, hb, Ft, hs, hD⟩ := hown
      exact ⟨es, clock, (Below.heap_alloc _ _ b hbl).trans hb, Ft, hs, hD⟩)
  have cK : ∀ mb W, CallsIn Fence.wide 5 Try.prog 45 #[.map mb] W fun e w' => e = .returned (.func (.func 51) #[] #[.pointer (some ⟨W.heap.size, 0, none⟩)]) ∧ w' = W.alloc (.cells #[.map mb] 55) := fun mb W => AnyZ.keys_in Try.keysA Fence.wide 5 trivial rfl mb W
  have cS := AnyZ.sorted_in Try.sortedA Fence.wide 5 trivial trivial trivial trivial rfl (by omega) (Try.sortsA _) (enters_of Try.func50 (by kernel_rfl) rfl) 51 #[.pointer (some ⟨w.heap.size, 0, none⟩)] trivial (enters_of Try.func51 (by kernel_rfl) rfl) _ _ hmax hbytes _ hseq
  change CallsIn _ _ Try.prog 44 _ _ _ at cS
  have hfK : Fence.wide.fn 45 := trivial
  have hfS : Fence.wide.fn 44 := trivial
  refine callsIn_of_wp Try.func28 rfl trivial ?_ rfl
  simp only [Try.ntmps28, List.size_toArray, List.length_cons, List.length_nil, Nat.reduceAdd, Nat.reduceSub, Array.replicate_succ, Array.replicate_zero, List.push_toArray, List.append_toArray, List.nil_append, List.cons_append]
  gi_wp2_with (first
    | (gi_at_call 45; refine (cK _ _).mono ?_; rintro e w' ⟨rfl, rfl⟩)
    | (gi_at_call 44; refine cS.mono ?_; rintro e w' ⟨v, ss, rfl, hS, hrow, hnil, hb⟩))
  go_ret
  exact ⟨v, ss, rfl, hS, ownsRow_base_a hrow (by simp), hnil, ((Below.refl _ w).alloc (Nat.le_refl _) _).trans (hb.mono (by simp))⟩
end Go.Proofs
namespace Go.Proofs.Ytnijencmoceiaaa
open Go.RowKit Go.Maps Go.Sort

/-- A row made anew. -/
def Fresh (w w' : World) (e : TypeId) (size : Nat) (n : Nat) (xs : List Value) (v : Value) : Prop :=
  w'.ownsRow 0 e size v n xs ∧ Keeps (fun _ => False) w w' ∧ ∀ b, v.ownBlock = some b → w.heap.size ≤ b

theorem sorted_names {K : Files} (h : Rising K) {ss : List Str} (hp : ss.Perm (K.map (·.1))) : ss.mergeSort (fun x y => decide (x ≤ y)) = K.map (·.1) := by
  refine List.Perm.eq_of_pairwise (le := fun x y : Str => decide (x ≤ y) = true) (fun a b _ _ h1 h2 => List.le_antisymm (by simpa using h1) (by simpa using h2)) ?_ ?_ ((List.mergeSort_perm _ _).trans hp)
  · refine List.pairwise_mergeSort (fun a b c h1 h2 => ?_) (fun a b => ?_) ss
    · simp only [decide_eq_true_eq] at *; exact List.le_trans h1 h2
    · have := List.le_total a b
      simpa using this
  · refine List.pairwise_map.2 (h.imp fun {x y} hxy => ?_)
    rw [before_lt] at hxy
    simp only [decide_eq_true_eq] at *
    exact List.le_of_lt hxy

/-- The names of all files. -/
def St.names (s : St) : List Str := if s.down then [] else s.there.map (·.1)

set_option maxRecDepth 100000 in
set_option maxHeartbeats 400000 in
theorem names_down (p : Nat) (w : World) (h4 : w.cell? ⟨p, 4, none⟩ = some (.bool true)) :
    Calls Try.prog 28 #[.pointer (some ⟨p, 0, none⟩)] w fun e w' => e = .returned (.slice none 0 0) ∧ w = w' := by
  go_enter Try.func28, Try.ntmps28
  go_wp2
  go_ret
  exact ⟨rfl, rfl⟩

theorem keys_datum (K : Files) : strKeys (datum K) = K.map (·.1) := by
  show (K.map ent).map (fun p => strOf p.1) = _
  rw [List.map_map]; rfl

theorem names_at {p : Nat} {s : St} {w : World} (h : ∃ F, Dk p s w F) (hl : s.there.length ≤ 65536) :
    Calls Try.prog 28 #[.pointer (some ⟨p, 0, none⟩)] w fun e w' => ∃ v, e = .returned v ∧ Fresh w w' 9 1 s.names.length (s.names.map str) v := by
  obtain ⟨F, mk, mt, pv, h, g⟩ := h
  have c4 := h.cell (i := 4) rfl
  unfold St.names
  cases hd : s.down with
  | true =>
    rw [hd] at c4
    refine (names_down p w c4).mono ?_
    rintro e w' ⟨rfl, rfl⟩
    exact ⟨_, rfl, World.ownsRow_nil _ _ _ _, Keeps.refl _ _, fun b hb => by cases hb⟩
  | false =>
    rw [hd] at c4
    refine (Try.names_up p mt _ (datum s.there) _ w c4 (h.cell (i := 2) rfl) (h.part (i := 2) rfl) (by rw [size_datum]; unfold maxLen; omega) (by rw [size_datum]; omega)).mono ?_
    rintro e w' ⟨v, ss, rfl, hp, hr, _, hb⟩
    rw [keys_datum] at hp
    rw [sorted_names g.rt hp] at hr
    have hlen : ss.length = (s.there.map (·.1)).length := hp.length_eq
    rw [hlen] at hr
    refine ⟨v, rfl, ownsRow_base_a hr (Nat.zero_le _), Keeps.of_below0 hb, fun b hv => ?_⟩
    exact (hr.lt b hv).1

set_option maxRecDepth 100000 in
set_option maxHeartbeats 400000 in
theorem new_at (n : Int) (hn : n ≤ 9223372036854775807) (w : World) :
    Calls Try.prog 11 #[.int .i64 n] w fun e w' => ∃ p, e = .returned (.pointer (some ⟨p, 0, none⟩)) ∧ ∃ F, Dk p ⟨n.toNat, [], [], [], false, 0⟩ w' F ∧ Keeps (fun _ => False) w w' ∧ ∀ b, F b → w.heap.size ≤ b := by
  have hmm := @run_makeMap Try.prog
  obtain ⟨m, hm⟩ : ∃ m : Nat, n.toNat = m := ⟨_, rfl⟩
  have M := run_max0 n
  rw [hm] at M ⊢
  have hm8 : Hid (m ≤ 9223372036854775807) := Lib.hid (by omega)
  clear hn hm
  go_enter Try.func11, Try.ntmps11
  go_wp2
  go_ret
  have o0 : Owns (w.alloc (.map #[] 0)) w.heap.size [] := World.ownsMap_made w Try.prog 9 (plainElem Try.prog 9)
  have o1 : Owns ((w.alloc (.map #[] 0)).alloc (.map #[] 0)) (w.heap.size + 1) [] := by
    have := World.ownsMap_made (H := Unit) (w.alloc (.map #[] 0)) Try.prog 9 (plainElem Try.prog 9)
    rw [show (w.alloc (.map #[] 0)).heap.size = w.heap.size + 1 by simp] at this
    exact this
  have ob := Obj.made (w := (w.alloc (.map #[] 0)).alloc (.map #[] 0)) (Cs := [Part.plain, mapPart w.heap.size [], mapPart (w.heap.size + 1) [], Part.row 76 1 (.slice none 0 0) 0 [], Part.plain, Part.plain]) 58 [.int .i64 m, .map (some w.heap.size), .map (some (w.heap.size + 1)), .slice none 0 0, .bool false, .int .i64 0]
    (by
      intro x hx
      simp only [List.mem_cons, List.not_mem_nil, or_false] at hx
      rcases hx with rfl | rfl | rfl | rfl | rfl | rfl
      · trivial
      · exact o0.alloc _
      · exact o1
      · exact World.ownsRow_nil _ _ _ _
      · trivial
      · trivial)
    (by
      intro i j ci cj hi hj hij b hb hb'
      have key : ∀ (i : Nat) (ci : Part), [Part.plain, mapPart w.heap.size [], mapPart (w.heap.size + 1) [], Part.row 76 1 (.slice none 0 0) 0 [], Part.plain, Part.plain][i]? = some ci → ci.home = some b → (i = 1 ∧ b = w.heap.size) ∨ (i = 2 ∧ b = w.heap.size + 1) := by
        intro i ci hi hb
        match i, hi with
        | 0, hi => cases hi; cases hb
        | 1, hi => cases hi; exact .inl ⟨rfl, (Option.some.inj hb).symm⟩
        | 2, hi => cases hi; exact .inr ⟨rfl, (Option.some.inj hb).symm⟩
        | 3, hi => cases hi; cases hb
        | 4, hi => cases hi; cases hb
        | 5, hi => cases hi; cases hb
        | (i + 6), hi => simp at hi
      rcases key i ci hi hb with ⟨h1, h2⟩ | ⟨h1, h2⟩ <;> rcases key j cj hj hb' with ⟨h3, h4⟩ | ⟨h3, h4⟩ <;> omega)
  have hsz : ((w.alloc (.map #[] 0)).alloc (.map #[] 0)).heap.size = w.heap.size + 1 + 1 := by simp
  rw [hsz] at ob
  refine ⟨w.heap.size + 1 + 1, rfl, _, ⟨w.heap.size, w.heap.size + 1, .slice none 0 0, ob, ⟨List.Pairwise.nil, List.Pairwise.nil, (fun _ h => by cases h), (fun _ h => by cases h), (fun _ h => by cases h), hm8.out, by simp⟩⟩, ((Keeps.refl _ w).alloc _).alloc _ |>.alloc _, ?_⟩
  rintro b (rfl | ⟨x, hx, hb⟩)
  · omega
  · simp only [List.mem_cons, List.not_mem_nil, or_false] at hx
    rcases hx with rfl | rfl | rfl | rfl | rfl | rfl
    · cases hb
    · cases hb; exact Nat.le_refl _
    · cases hb; omega
    · cases hb
    · cases hb
    · cases hb
end Go.Proofs.Ytnijencmoceiaaa
