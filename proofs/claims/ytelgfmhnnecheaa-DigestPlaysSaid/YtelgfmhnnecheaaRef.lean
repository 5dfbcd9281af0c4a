/-
  No statement is proved here: what each method of the document's own table does (find, Known, Of, Text), for every table of fewer than 65536 strings and every string within the reach.
-/
import Derived.Test.YtelgfmhnnecheaaMine
namespace Go.Proofs.Ytelgfmhnnecheaa
open Go.RowKit Go.Maps

/-- The document's table behind the pointer to block p: the strings L. -/
structure RTab (w : World) (p : Nat) (F : Nat → Prop) (L : List Str) (sv : Value) : Prop where
  cells : w.heap[p]? = some (.cells #[sv] 30 (0, 0))
  row : w.ownsRow 0 9 1 sv L.length (L.map str)
  foot : ∀ b, F b ↔ b = p ∨ sv.ownBlock = some b
  fits : ∀ s ∈ L, s.length ≤ maxLen

theorem RTab.lt {w : World} {p : Nat} {F : Nat → Prop} {L : List Str} {sv : Value} (h : RTab w p F L sv) : ∀ b, F b → b < w.heap.size := by
  intro b hb
  rcases (h.foot b).1 hb with rfl | hb
  · exact (Array.getElem?_eq_some_iff.1 h.cells).1
  · exact (h.row.lt b hb).2
theorem RTab.kept {w w' : World} {p : Nat} {F G : Nat → Prop} {L : List Str} {sv : Value} (h : RTab w p F L sv) (hk : Keeps G w w') (hd : ∀ b, F b → ¬ G b) : RTab w' p F L sv := by
  have hlt := h.lt
  have hblk : ∀ b, F b → w'.heap[b]? = w.heap[b]? := fun b hb => hk.block b (hlt b hb) (hd b hb)
  refine ⟨(hblk p ((h.foot p).2 (.inl rfl))).trans h.cells, ?_, h.foot, h.fits⟩
  obtain ⟨h1, h2⟩ := h.row
  refine ⟨h1, ?_⟩
  rcases h2 with h2 | ⟨g, cap, cur, hv, hg, hh, r⟩
  · exact .inl h2
  · exact .inr ⟨g, cap, cur, hv, hg, (hblk g ((h.foot g).2 (.inr (by rw [hv]; rfl)))).trans hh, r⟩
theorem RTab.apart {w : World} {p : Nat} {F : Nat → Prop} {L : List Str} {sv : Value} (h : RTab w p F L sv) : sv.ownBlock ≠ some p := by
  intro e
  rcases h.row.2 with ⟨h1, _⟩ | ⟨g, cap, cur, hv, _, hh, _⟩
  · subst h1; cases e
  · subst hv
    simp only [Value.ownBlock, Option.some.injEq] at e
    subst e
    rw [h.cells] at hh
    simp at hh

def RTabOf (p : Nat) (L : List Str) (w : World) (F : Nat → Prop) : Prop := ∃ sv, RTab w p F L sv
theorem RTabOf.framed (p : Nat) (L : List Str) : Framed (RTabOf p L) := ⟨fun _ _ ⟨_, h⟩ => h.lt, fun _ _ _ _ ⟨_, h⟩ hk hd => ⟨_, h.kept hk hd⟩⟩

def asB (l : Str) : ByteArray := ⟨l.toArray⟩
/-- The row of a table, as 'Strs'. -/
theorem strs_of_row {w : World} {L : List Str} {sv : Value} (h : w.ownsRow 0 9 1 sv L.length (L.map str)) (hf : ∀ s ∈ L, s.length ≤ maxLen) :
    ∃ a cap g, sv = .slice a L.length cap ∧ Strs w a L.length cap g 0 (L.map asB) := by
  have hfit : ∀ j, j < L.length → ((L.map asB).getD j ByteArray.empty).size ≤ maxLen := fun j hj => by
    have e : (L.map asB).getD j ByteArray.empty = asB L[j] := by simp [List.getD, hj]
    rw [e]; exact hf _ (List.getElem_mem hj)
  have hcell := fun g hg => h.cells (g := g) hg
  rcases h.2 with ⟨rfl, h0⟩ | ⟨g, cap, cur, rfl, _, hh, h1, h2, _⟩
  · rw [h0]
    exact ⟨none, 0, 0, rfl, by simp [h0], by omega, fun j hj => by omega, fun h => by omega, fun h => by omega, fun j hj => by omega⟩
  · refine ⟨_, cap, g, rfl, by simp, by unfold maxLen at h2; omega, hfit, fun _ => (Array.getElem?_eq_some_iff.1 hh).1, fun _ => rfl, fun j hj => ?_⟩
    have := hcell g rfl j (str L[j]) (by simp [hj])
    rw [Addr.add_lit] at this
    rw [this]
    simp [str, asB, List.getD, hj]

def fnd (L : List Str) (s : Str) : Nat := if s ∈ L then L.idxOf s + 1 else 0

theorem fnd_hit {L : List Str} {s : Str} {k : Nat} (hk : k < L.length) (hn : s ∉ L.take k) (he : L[k] = s) : fnd L s = k + 1 := by
  have hin : s ∈ L := he ▸ List.getElem_mem hk
  have e : L = L.take k ++ L[k] :: L.drop (k + 1) := by simp
  have : L.idxOf s = k := by
    rw [e, List.idxOf_append, if_neg hn, he]
    simp; omega
  simp [fnd, hin, this]
theorem fnd_miss {L : List Str} {s : Str} (hn : s ∉ L.take L.length) : fnd L s = 0 := by simpa [fnd] using hn

set_option maxHeartbeats 400000 in
theorem find_any (p : Nat) (F : Nat → Prop) (L : List Str) (sv : Value) (s : ByteArray) (w : World) (h : RTab w p F L sv) :
    Calls Try.prog 18 #[.pointer (some ⟨p, 0, none⟩), .string s] w fun e w' => e = .returned (.int .i64 (fnd L s.data.toList : Nat)) ∧ w = w' := by
  obtain ⟨a, cap, g, hsv, hS⟩ := strs_of_row h.row h.fits
  have h0 : w.cell? ⟨p, 0, none⟩ = some sv := by simp [World.cell?, h.cells]
  rw [hsv] at h0
  have hix := hS.index
  have hc := hS.cell
  have hb := hS.bound
  clear hsv
  go_enter Try.func18, Try.ntmps18
  go_wp2
  go_loop [5] (fun i => ∃ k : Nat, k ≤ L.length ∧ i = .int .i64 k ∧ s.data.toList ∉ L.take k) (fun i => L.length - (intOf i).toNat)
  case atStart => exact ⟨0, Nat.zero_le _, rfl, by simp⟩
  case round =>
    obtain ⟨k, hk, rfl, hn⟩ := hrel
    have HN := Lib.hid hn
    clear hn
    by_cases hlt : k < L.length
    · have hck := hc k hlt
      have hxk := fun W => hix W k hlt
      have e : (L.map asB).getD k ByteArray.empty = asB L[k] := by simp [List.getD, hlt]
      rw [e, Nat.zero_add] at hck
      simp only [Nat.zero_add] at hxk
      by_cases he : L[k] = s.data.toList
      · have HF := Lib.hid (fnd_hit hlt HN.out he)
        have hes : asB L[k] = s := letters_inj (by simp [asB, he])
        rw [hes] at hck
        clear he hes e hc hix
        go_wp2
        go_ret
        exact ⟨ret_int (by rw [HF.out]; rfl), rfl⟩
      · have hne : ((asB L[k]).toList == s.toList) = false := by
          rw [ByteArray.toList_eq, ByteArray.toList_eq]
          simpa [asB] using he
        have HT : Hid (s.data.toList ∉ L.take (k + 1)) := by
          show s.data.toList ∉ L.take (k + 1)
          rw [take_snoc L k hlt]
          simp only [List.mem_append, List.mem_singleton, not_or]
          exact ⟨HN.out, fun e => he e.symm⟩
        obtain ⟨x, hx⟩ : ∃ x, x = asB L[k] := ⟨_, rfl⟩
        rw [← hx] at hck hne
        clear he e hc hix hx
        go_wp2
        go_round
        case rel => exact ⟨k + 1, by omega, by go_num, HT.out⟩
        case measure => simp [intOf]; omega
    · obtain rfl : k = L.length := by omega
      have HF := Lib.hid (fnd_miss HN.out)
      clear hc hix
      go_wp2
      go_ret
      exact ⟨ret_int (by rw [HF.out]; rfl), rfl⟩

theorem rfind_is {p : Nat} {L : List Str} {w : World} (h : ∃ F, RTabOf p L w F) (s : ByteArray) (n : Int) (hn : (fnd L s.data.toList : Int) = n) :
    Calls Try.prog 18 #[.pointer (some ⟨p, 0, none⟩), .string s] w fun e w' => e = .returned (.int .i64 n) ∧ w = w' := by
  obtain ⟨F, sv, h⟩ := h
  subst hn
  exact find_any p F L sv s w h

set_option maxHeartbeats 400000 in
theorem rknown_at {p : Nat} {L : List Str} {w : World} (h : ∃ F, RTabOf p L w F) (s : ByteArray) :
    Calls Try.prog 12 #[.pointer (some ⟨p, 0, none⟩), .string s] w fun e w' => e = .returned (.bool (knows L s.data.toList)) ∧ w = w' := by
  obtain ⟨n, hn⟩ : ∃ n : Nat, n = fnd L s.data.toList := ⟨_, rfl⟩
  have H := Lib.hid (rfind_is h s n (by rw [hn]))
  have HK : Hid (decide (0 < n) = knows L s.data.toList) := by
    show decide (0 < n) = knows L s.data.toList
    rw [hn]; unfold fnd knows; split <;> simp_all
  clear hn h
  go_enter Try.func12, Try.ntmps12
  go_wp2_with (go_at_call 18; refine H.out.mono ?_; rintro e w' ⟨rfl, rfl⟩)
  go_ret
  exact ⟨ret_bool HK.out, rfl⟩

set_option maxHeartbeats 400000 in
theorem rof_old (p : Nat) (L : List Str) (s : ByteArray) (w : World) (F : Nat → Prop) (h : RTabOf p L w F) (hin : s.data.toList ∈ L) :
    Calls Try.prog 14 #[.pointer (some ⟨p, 0, none⟩), .string s] w fun e w' => e = .returned (.tuple #[.int .i64 (dig L s.data.toList : Nat), .int .i64 0]) ∧ w = w' := by
  obtain ⟨n, hn⟩ : ∃ n : Nat, n = dig L s.data.toList := ⟨_, rfl⟩
  have H := Lib.hid (rfind_is ⟨F, h⟩ s n (by rw [hn]; simp [fnd, dig, hin]))
  have hp : 0 < n := by rw [hn]; simp [dig, hin]
  rw [← hn]
  clear hn h hin
  go_enter Try.func14, Try.ntmps14
  go_wp2_with (go_at_call 18; refine H.out.mono ?_; rintro e w' ⟨rfl, rfl⟩)
  go_ret2
  exact ⟨rfl, rfl⟩

/-- What 'Of' does to the document's table where the string is new. -/
theorem RTab.add {w w1 w2 : World} {p : Nat} {F : Nat → Prop} {L : List Str} {sv : Value} (h : RTab w p F L sv) {s : Str} (hs : s.length ≤ maxLen) {g cap : Nat} {o : Obj}
    (hrow1 : w1.ownsRow 0 9 1 (.slice (some ⟨g, 0, none⟩) (L.length + 1) cap) (L.length + 1) (L.map str ++ [str s]))
    (hloc : (Value.slice (some ⟨g, 0, none⟩) (L.length + 1) cap).ownBlock = sv.ownBlock ∨ (Value.slice (some ⟨g, 0, none⟩) (L.length + 1) cap).ownBlock = some (w.heap.size + 1))
    (HG : (w.alloc o).grownBy w1 sv.ownBlock)
    (hW2 : w1.setCell ⟨p, 0, none⟩ (.slice (some ⟨g, 0, none⟩) (L.length + 1) cap) = w2)
    (hpb2 : w2.heap[p]? = some (.cells #[.slice (some ⟨g, 0, none⟩) (L.length + 1) cap] 30 (0, 0))) :
    ∃ F', RTabOf p (L ++ [s]) w2 F' ∧ Keeps F w w2 ∧ ∀ b, F' b → F b ∨ w.heap.size ≤ b := by
  have fp := (h.foot p).2 (.inl rfl)
  have hgF : F g ∨ w.heap.size ≤ g := by
    rcases hloc with e | e
    · exact .inl ((h.foot g).2 (.inr e.symm))
    · simp only [Value.ownBlock, Option.some.injEq] at e
      exact .inr (by omega)
  have hgp : g ≠ p := by
    rcases hloc with e | e
    · intro e2; subst e2; exact h.apart e.symm
    · simp only [Value.ownBlock, Option.some.injEq] at e
      have := h.lt p fp
      omega
  have k1 : Keeps F w w1 := ((Keeps.refl F w).alloc o).trans (Keeps.grown (F := fun b => sv.ownBlock = some b) HG (fun k hk _ => hk)) (fun i _ hi => (h.foot i).2 (.inr hi))
  have k2 : Keeps F w w2 := hW2 ▸ k1.setCell (p := ⟨p, 0, none⟩) (fun _ => fp) _
  have hg2 : w2.heap[g]? = w1.heap[g]? := by rw [← hW2]; exact Below.heap_setCell _ _ _ _ hgp
  refine ⟨fun b => b = p ∨ b = g, ⟨_, ⟨hpb2, ?_, ?_, ?_⟩⟩, k2, ?_⟩
  · obtain ⟨r1, r2⟩ := hrow1
    refine ⟨by simp, ?_⟩
    rcases r2 with ⟨e, _⟩ | ⟨g', cap', cur, hv, hb, hh, r⟩
    · cases e
    · simp only [Value.slice.injEq, Option.some.injEq, Addr.mk.injEq, and_true, true_and] at hv
      obtain ⟨rfl, rfl⟩ := hv
      exact .inr ⟨g, cap, cur, by simp, hb, hg2.trans hh, by simpa using r⟩
  · intro b; simp [Value.ownBlock, eq_comm]
  · intro t ht
    rcases List.mem_append.1 ht with ht | ht
    · exact h.fits t ht
    · simp at ht; subst ht; exact hs
  · rintro b (rfl | rfl)
    · exact .inl fp
    · exact hgF

set_option maxRecDepth 100000 in
set_option maxHeartbeats 1000000 in
theorem rof_new (p : Nat) (L : List Str) (s : ByteArray) (hs : s.size ≤ maxLen) (w : World) (F : Nat → Prop) (h : RTabOf p L w F) (hin : s.data.toList ∉ L) (hl : L.length < 65536) :
    Calls Try.prog 14 #[.pointer (some ⟨p, 0, none⟩), .string s] w fun e w' => e = .returned (.tuple #[.int .i64 ((L.length : Int) + 1), .int .i64 0]) ∧
      ∃ F', RTabOf p (L ++ [s.data.toList]) w' F' ∧ Keeps F w w' ∧ ∀ b, F' b → F b ∨ w.heap.size ≤ b := by
  have H := Lib.hid (rfind_is ⟨F, h⟩ s 0 (by simp [fnd, hin]))
  obtain ⟨sv, h⟩ := h
  obtain ⟨i0, hi, hz0, hz1, hz2⟩ := info_parts Try.info9
  have h0 : w.cell? ⟨p, 0, none⟩ = some sv := by simp [World.cell?, h.cells]
  obtain ⟨a, cp, hsv⟩ : ∃ a cp, sv = .slice a L.length cp := by
    rcases h.row.2 with ⟨h1, h2⟩ | ⟨g, cap, cur, hv, _⟩
    · exact ⟨none, 0, by rw [h1, h2]⟩
    · exact ⟨_, cap, hv⟩
  subst hsv
  have hrow := h.row
  have hp := h.lt p ((h.foot p).2 (.inl rfl))
  have hg : decide ((65536 : Int) ≤ (L.length : Int)) = false := by simp; omega
  have HL := Lib.hid hl
  clear hl
  go_enter Try.func14, Try.ntmps14
  go_wp2_with fail
  refine H.out.mono ?_; rintro e w' ⟨rfl, rfl⟩
  go_wp2_with (at_builtin; refine wpList_append_own_at _ rfl (.tmp 23) (.tmp 25) 22 rfl 0 9 i0 (.string ByteArray.empty) 1 16 Try.underlying22 hi hz0 hz1 hz2 rfl (by decide) _ _ _ rfl (hrow.alloc _) ⟨w.heap.size, 0, none⟩ 1 1 [.string s] rfl rfl ?c1 ?c2 ?c3 ?c4 ?c5 ?_)
  case c1 => exact cell_one_new _ _ _
  case c2 => intro u hu; simp at hu; subst hu; rfl
  case c3 => unfold maxLen; have := HL.out; omega
  case c4 => have := HL.out; omega
  case c5 => omega
  intro v' w1 hrow1 hgrow _ hloc
  have hpb : w1.heap[p]? = some (.cells #[.slice a L.length cp] 30 (0, 0)) := by
    rw [hgrow.block p (by simp; omega) (by intro e; exact h.apart e.symm)]
    exact (Below.heap_alloc _ _ _ hp).trans h.cells
  obtain ⟨g, cap, hv'⟩ : ∃ g cap, v' = .slice (some ⟨g, 0, none⟩) (L.length + 1) cap := by
    rcases hrow1.2 with ⟨_, e⟩ | ⟨g, cap, _, e, _⟩
    · omega
    · exact ⟨g, cap, e⟩
  subst hv'
  have c0 : w1.cell? ⟨p, 0, none⟩ = some (.slice a L.length cp) := by simp [World.cell?, hpb]
  have f0 : w1.frozen? ⟨p, 0, none⟩ = false := by simp [World.frozen?, hpb]
  have hpb2 : (w1.setCell ⟨p, 0, none⟩ (.slice (some ⟨g, 0, none⟩) (L.length + 1) cap)).heap[p]? = some (.cells #[.slice (some ⟨g, 0, none⟩) (L.length + 1) cap] 30 (0, 0)) :=
    heap_setCell_same hpb _
  have d0 : (w1.setCell ⟨p, 0, none⟩ (.slice (some ⟨g, 0, none⟩) (L.length + 1) cap)).cell? ⟨p, 0, none⟩ = some (.slice (some ⟨g, 0, none⟩) (L.length + 1) cap) := by simp [World.cell?, hpb2]
  have HG := Lib.hid hgrow
  clear h0 hrow hg hgrow
  go_wp2_with fail
  go_ret2
  exact ⟨rfl, h.add (by simpa using hs) (by rw [← str_of]; exact hrow1) hloc HG.out rfl hpb2⟩

theorem rof_acts (p : Nat) (L : List Str) (s : ByteArray) (hs : s.size ≤ maxLen) (hl : L.length < 65536) (w : World) :
    Acts Try.prog 14 #[.pointer (some ⟨p, 0, none⟩), .string s] w (RTabOf p L) (fun e => e = .returned (.tuple #[.int .i64 (dig L s.data.toList : Nat), .int .i64 0])) (RTabOf p (nxt L s.data.toList)) := by
  intro F h
  by_cases hin : s.data.toList ∈ L
  · refine (rof_old p L s w F h hin).mono ?_
    rintro e w' ⟨rfl, rfl⟩
    exact ⟨rfl, F, by simpa [nxt, hin] using h, Keeps.refl _ _, fun b hb => .inl hb⟩
  · refine (rof_new p L s hs w F h hin hl).mono ?_
    rintro e w' ⟨rfl, F', h', hk, hf⟩
    exact ⟨by simp [dig, hin], F', by simpa [nxt, hin] using h', hk, hf⟩

set_option maxHeartbeats 400000 in
theorem rtext_in (p : Nat) (L : List Str) (i : Nat) (hi : i < L.length) (d : Int) (hd : d = (i : Int) + 1) (w : World) (F : Nat → Prop) (h : RTabOf p L w F) :
    Calls Try.prog 17 #[.pointer (some ⟨p, 0, none⟩), .int .i64 d] w fun e w' => e = .returned (.tuple #[str L[i], .bool true]) ∧ w = w' := by
  obtain ⟨sv, h⟩ := h
  obtain ⟨a, cap, g, hsv, hS⟩ := strs_of_row h.row h.fits
  have h0 : w.cell? ⟨p, 0, none⟩ = some sv := by simp [World.cell?, h.cells]
  rw [hsv] at h0
  have hck := hS.cell i hi
  have hxk := fun W => hS.index W i hi
  have hb := hS.bound
  have e : (L.map asB).getD i ByteArray.empty = asB L[i] := by simp [List.getD, hi]
  rw [e, Nat.zero_add] at hck
  simp only [Nat.zero_add] at hxk
  obtain ⟨x, hx⟩ : ∃ x, x = asB L[i] := ⟨_, rfl⟩
  rw [← hx] at hck
  have HX : Hid (.string x = str L[i]) := by show Value.string x = str L[i]; rw [hx]; rfl
  subst hd
  have hi' : (i : Int) + 1 ≤ (L.length : Int) := by omega
  have d1 : decide ((i : Int) + 1 < 1) = false := by simp; omega
  have d2 : decide ((L.length : Int) < (i : Int) + 1) = false := by simp; omega
  clear hsv e hx
  go_enter Try.func17, Try.ntmps17
  go_wp2
  go_ret2
  exact ⟨ret_tuple2 HX.out rfl, rfl⟩

set_option maxHeartbeats 400000 in
theorem rtext_out (p : Nat) (L : List Str) (d : Int) (hd : d < 1 ∨ (L.length : Int) < d) (w : World) (F : Nat → Prop) (h : RTabOf p L w F) :
    Calls Try.prog 17 #[.pointer (some ⟨p, 0, none⟩), .int .i64 d] w fun e w' => e = .returned (.tuple #[str [], .bool false]) ∧ w = w' := by
  obtain ⟨sv, h⟩ := h
  obtain ⟨a, cap, g, hsv, hS⟩ := strs_of_row h.row h.fits
  have h0 : w.cell? ⟨p, 0, none⟩ = some sv := by simp [World.cell?, h.cells]
  rw [hsv] at h0
  clear hsv hS
  by_cases d1 : d < 1
  · go_enter Try.func17, Try.ntmps17
    go_wp2
    go_ret2
    exact ⟨rfl, rfl⟩
  · have d2 : (L.length : Int) < d := by omega
    clear hd
    go_enter Try.func17, Try.ntmps17
    go_wp2
    go_ret2
    exact ⟨rfl, rfl⟩

theorem rtext_at {p : Nat} {L : List Str} {w : World} (h : ∃ F, RTabOf p L w F) (d : Int) :
    Calls Try.prog 17 #[.pointer (some ⟨p, 0, none⟩), .int .i64 d] w fun e w' => e = .returned (.tuple #[str (txt L d), .bool (isT L d)]) ∧ w = w' := by
  obtain ⟨F, h⟩ := h
  by_cases hd : 1 ≤ d ∧ d ≤ L.length
  · refine (rtext_in p L (d.toNat - 1) (by omega) d (by omega) w F h).mono ?_
    rintro e w' ⟨rfl, rfl⟩
    refine ⟨ret_tuple2 ?_ ?_, rfl⟩
    · simp [txt, hd, List.getD, show d.toNat - 1 < L.length by omega]
    · simp [isT, hd]
  · refine (rtext_out p L d (by omega) w F h).mono ?_
    rintro e w' ⟨rfl, rfl⟩
    exact ⟨ret_tuple2 (by simp [txt, hd]) (by simp [isT, hd]), rfl⟩
end Go.Proofs.Ytelgfmhnnecheaa
