/-
  No statement is proved here: one table of digests of the call's own, its methods as contracts on 'Own1'; what a table has told behind a row of strings ('run').
-/
import Derived.Test.YtelgfmhnnecheaaSmall
import Derived.Test.YtelgfmhnnecheaaFew
namespace Go.Proofs.Ytelgfmhnnecheaa
open Go.RowKit Go.Maps

/-- What a table has told of a row of strings. -/
def run (l : List Str) : List Str := l.foldl nxt []
def strsOf (ss : List ByteArray) : List Str := ss.map (·.data.toList)

theorem mem_nxt {L : List Str} {s t : Str} : t ∈ nxt L s ↔ t ∈ L ∨ t = s := by
  unfold nxt; split
  · rename_i h; constructor
    · exact .inl
    · rintro (h' | rfl); exact h'; exact h
  · simp
theorem nxt_len (L : List Str) (s : Str) : (nxt L s).length ≤ L.length + 1 := by unfold nxt; split <;> simp
theorem run_snoc (l : List Str) (s : Str) : run (l ++ [s]) = nxt (run l) s := by simp [run, List.foldl_append]
theorem fold_len : ∀ (l acc : List Str), (l.foldl nxt acc).length ≤ acc.length + l.length
  | [], acc => by simp
  | s :: l, acc => by
    have := fold_len l (nxt acc s); have := nxt_len acc s
    simp only [List.foldl_cons, List.length_cons]; omega
theorem run_len (l : List Str) : (run l).length ≤ l.length := by have := fold_len l []; simpa [run] using this
theorem mem_fold (t : Str) : ∀ (l acc : List Str), t ∈ l.foldl nxt acc ↔ t ∈ acc ∨ t ∈ l
  | [], acc => by simp
  | s :: l, acc => by
    simp only [List.foldl_cons, mem_fold t l (nxt acc s), mem_nxt, List.mem_cons, or_assoc]
theorem mem_run (l : List Str) (t : Str) : t ∈ run l ↔ t ∈ l := by simp [run, mem_fold]
theorem take_snoc {α : Type} (l : List α) (k : Nat) (h : k < l.length) : l.take (k + 1) = l.take k ++ [l[k]] := by simp
theorem run_take (ss : List ByteArray) (k : Nat) (h : k < ss.length) : run (strsOf (ss.take (k + 1))) = nxt (run (strsOf (ss.take k))) (ss.getD k ByteArray.empty).data.toList := by
  rw [take_snoc ss k h]
  have : strsOf (ss.take k ++ [ss[k]]) = strsOf (ss.take k) ++ [ss[k].data.toList] := by simp only [strsOf, List.map_append, List.map_cons, List.map_nil]
  rw [this, run_snoc]; simp [List.getD, h]
theorem run_take_len (ss : List ByteArray) (k : Nat) : (run (strsOf (ss.take k))).length ≤ k := by
  have := run_len (strsOf (ss.take k))
  have e : (strsOf (ss.take k)).length ≤ k := by simp only [strsOf, List.length_map, List.length_take]; omega
  omega


/-- The table behind the pointer to block p has told L. -/
def TabOf (p : Nat) (L : List Str) (w : World) (F : Nat → Prop) : Prop := IsTab w p F L
theorem TabOf.framed (p : Nat) (L : List Str) : Framed (TabOf p L) := ⟨fun _ _ h => h.lt, fun _ _ _ _ h hk hd => h.kept hk hd⟩

theorem new_makes (w : World) : Makes Try.prog 10 #[] w (fun e => e = .returned (.pointer (some ⟨w.heap.size + 1, 0, none⟩))) (TabOf (w.heap.size + 1) []) :=
  (New_any w).mono fun _ _ ⟨he, F, h, hf, hk⟩ => ⟨he, F, h, hk, hf⟩
theorem of_acts (p : Nat) (L : List Str) (s : ByteArray) (hs : s.size ≤ maxLen) (hl : L.length < 65536) (w : World) :
    Acts Try.prog 13 #[.pointer (some ⟨p, 0, none⟩), .string s] w (TabOf p L) (fun e => e = .returned (.tuple #[.int .i64 (dig L s.data.toList : Nat), .int .i64 0])) (TabOf p (nxt L s.data.toList)) :=
  fun F h => of_any p F L s hs w h hl
theorem known_at {p : Nat} {L : List Str} {w : World} (h : ∃ F, TabOf p L w F) (s : ByteArray) (hs : s.size ≤ maxLen) :
    Calls Try.prog 11 #[.pointer (some ⟨p, 0, none⟩), .string s] w fun e w' => e = .returned (.bool (knows L s.data.toList)) ∧ w = w' :=
  let ⟨F, h⟩ := h; Known_any p F L s hs w h
theorem len_at {p : Nat} {L : List Str} {w : World} (h : ∃ F, TabOf p L w F) :
    Calls Try.prog 15 #[.pointer (some ⟨p, 0, none⟩)] w fun e w' => e = .returned (.int .i64 L.length) ∧ w = w' :=
  let ⟨F, h⟩ := h; Len_any p F L w h
theorem text_at {p : Nat} {L : List Str} {w : World} (h : ∃ F, TabOf p L w F) (d : Int) :
    Calls Try.prog 16 #[.pointer (some ⟨p, 0, none⟩), .int .i64 d] w fun e w' => e = .returned (.tuple #[str (txt L d), .bool (isT L d)]) ∧ w = w' :=
  let ⟨F, h⟩ := h; Text_any p F L d w h

theorem dig_in {L : List Str} {s : Str} (h : s ∈ L) : dig L s ≤ L.length := by
  have := List.idxOf_lt_length_iff.2 h; simp [dig, h]; omega
theorem dig_out {L : List Str} {s : Str} (h : s ∉ L) : dig L s = L.length + 1 := by simp [dig, h]

theorem knows_take (ss : List ByteArray) (k : Nat) (h : k < ss.length) (s : Str) : knows (strsOf (ss.take (k + 1))) s = (knows (strsOf (ss.take k)) s || decide ((ss.getD k ByteArray.empty).data.toList = s)) := by
  rw [take_snoc ss k h]
  have : strsOf (ss.take k ++ [ss[k]]) = strsOf (ss.take k) ++ [ss[k].data.toList] := by simp only [strsOf, List.map_append, List.map_cons, List.map_nil]
  rw [this]; simp [knows, List.getD, h, eq_comm]

theorem fewB_len {ss : List ByteArray} (h : true = fewB ss) : ss.length ≤ 100 := by
  have := h.symm
  simp only [fewB, Bool.and_eq_true, decide_eq_true_eq] at this
  exact this.2

end Go.Proofs.Ytelgfmhnnecheaa
