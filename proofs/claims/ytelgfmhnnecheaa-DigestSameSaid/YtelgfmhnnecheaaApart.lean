/-
  The walk of 'DigestApart': the call returns true and turns nothing that was there: for every slice of strings and any two strings within the reach.
-/
import Derived.Test.YtelgfmhnnecheaaMine
namespace Go.Proofs.Ytelgfmhnnecheaa
open Go.RowKit Go.Maps

theorem of_acts_is (p : Nat) (L : List Str) (s : ByteArray) (hs : s.size ≤ maxLen) (hl : L.length < 65536) (w : World) (d : Int) (L' : List Str) (hd : (dig L s.data.toList : Int) = d) (hL : nxt L s.data.toList = L') :
    Acts Try.prog 13 #[.pointer (some ⟨p, 0, none⟩), .string s] w (TabOf p L) (fun e => e = .returned (.tuple #[.int .i64 d, .int .i64 0])) (TabOf p L') := by
  subst hd hL; exact of_acts p L s hs hl w
theorem text_at_is {p : Nat} {L : List Str} {w : World} (h : ∃ F, TabOf p L w F) (d : Int) (s : ByteArray) (hs : txt L d = s.data.toList) (ht : isT L d = true) :
    Calls Try.prog 16 #[.pointer (some ⟨p, 0, none⟩), .int .i64 d] w fun e w' => e = .returned (.tuple #[.string s, .bool true]) ∧ w = w' := by
  have := text_at h d
  rw [hs, ht, ← str_of] at this
  exact this

theorem txt_dig {L : List Str} {u : Str} (h : u ∈ L) : txt L (dig L u : Nat) = u ∧ isT L (dig L u : Nat) = true := by
  have hi : L.idxOf u < L.length := List.idxOf_lt_length_iff.2 h
  have hd : dig L u = L.idxOf u + 1 := by simp [dig, h]
  have h1 : (1 : Int) ≤ (dig L u : Nat) ∧ ((dig L u : Nat) : Int) ≤ L.length := by omega
  refine ⟨?_, by simp [isT, h1]⟩
  unfold txt
  rw [if_pos h1, hd]
  have e : (((L.idxOf u + 1 : Nat) : Int)).toNat - 1 = L.idxOf u := by omega
  rw [e]; simp [List.getD, hi]
theorem dig_nxt (L : List Str) (u : Str) : dig (nxt L u) u = dig L u := by
  by_cases h : u ∈ L
  · simp [nxt, h]
  · have : (L ++ [u]).idxOf u = L.length := by
      rw [List.idxOf_append, if_neg h]; simp
    simp [nxt, dig, h, this]
theorem nxt_cons (s : Str) (R : List Str) (x : Str) : ∃ R', nxt (s :: R) x = s :: R' := by
  unfold nxt; split
  · exact ⟨R, rfl⟩
  · exact ⟨R ++ [x], rfl⟩
theorem dig_head (s : Str) (R : List Str) : dig (s :: R) s = 1 := by simp [dig]
theorem dig_tail {s u : Str} (R : List Str) (h : s ≠ u) : 2 ≤ dig (s :: R) u := by
  unfold dig
  split
  · rw [List.idxOf_cons, beq_eq_false_iff_ne.2 h]; simp
  · simp

/-- What the table has told behind s and the first k strings of the row: s first. -/
def Behind (s : Str) (k : Nat) (L : List Str) : Prop := (∃ R, L = s :: R) ∧ L.length ≤ k + 1
theorem Behind.next {s : Str} {k : Nat} {L : List Str} (h : Behind s k L) (x : Str) : Behind s (k + 1) (nxt L x) := by
  obtain ⟨⟨R, rfl⟩, hl⟩ := h
  refine ⟨nxt_cons s R x, ?_⟩
  have := nxt_len (s :: R) x; omega

set_option maxRecDepth 100000 in
set_option maxHeartbeats 1000000 in
theorem apart_walk (a : Option Addr) (len cap b off : Nat) (ss : List ByteArray) (s u : ByteArray) (w : World) (h : Strs w a len cap b off ss) (hs : s.size ≤ maxLen) (hu : u.size ≤ maxLen) :
    Calls Try.prog 4 #[.slice a len cap, .string s, .string u] w fun e w' => e = .returned (.bool true) ∧ Below w.heap.size w w' := by
  obtain ⟨f, hf⟩ : ∃ f, f = fewB ss := ⟨_, rfl⟩
  have hss : s.size ≤ 9223372036854775807 := by unfold maxLen at hs; omega
  have huu : u.size ≤ 9223372036854775807 := by unfold maxLen at hu; omega
  go_enter Try.func4, Try.ntmps4
  go_wp2_with fail
  refine (small_any _).mono ?_; rintro e w1 ⟨rfl, k1⟩
  have b1 : Below w.heap.size w w1 := k1.below (Nat.le_refl _) (fun _ h => h.elim)
  have H := Lib.hid h
  have B1 := Lib.hid b1
  have hz := b1.size
  clear h b1 k1
  go_wp2_with fail
  refine (few_any a len cap b off ss _ (H.out.kept B1.out)).mono ?_; rintro e w1 ⟨rfl, rfl⟩
  rw [← hf]
  have HF := Lib.hid hf
  clear hf
  go_wp2_with fail
  refine ((new_makes _).own1 B1.out hz).mono ?_; rintro e w2 ⟨rfl, m2⟩
  obtain ⟨p, hp⟩ : ∃ p, p = w1.heap.size + 1 := ⟨_, rfl⟩
  rw [← hp] at m2 ⊢
  clear hp
  have M2 := Lib.hid m2
  clear m2
  cases f with
  | false =>
    go_wp2_with fail
    go_ret
    exact ⟨rfl, M2.out.below⟩
  | true =>
    by_cases hbig : 300 < (s.size : Int)
    · go_wp2_with fail
      go_ret
      exact ⟨rfl, M2.out.below⟩
    by_cases hbig2 : 300 < (u.size : Int)
    · go_wp2_with fail
      go_ret
      exact ⟨rfl, M2.out.below⟩
    have HL := Lib.hid H.out.length
    have hlen : len ≤ 100 := by have := fewB_len HF.out; have := HL.out; omega
    have H3 := Lib.hid H.out.fits
    go_wp2_with fail
    refine (M2.out.acts (of_acts_is p _ s hs (by simp) _ 1 [s.data.toList] (by simp [dig]) (by simp [nxt]))).mono ?_; rintro e w3 ⟨rfl, m3⟩
    have M3 := Lib.hid m3
    clear m3
    go_wp2_with fail
    go_loopw [12] (fun i wr => ∃ k : Nat, k ≤ len ∧ i = .int .i64 k ∧ ∃ L, Behind s.data.toList k L ∧ Own1 w.heap.size w wr (TabOf p L)) (fun i _ => len - (intOf i).toNat)
    case atStart => exact ⟨0, Nat.zero_le _, rfl, _, ⟨⟨[], rfl⟩, by simp⟩, M3.out⟩
    case round =>
      obtain ⟨k, hk, rfl, L, hL, hm⟩ := hrel
      have HM := Lib.hid hm
      have HB := Lib.hid hL
      clear hm hL
      by_cases hlt : k < len
      · have hx : ∀ W, (Instr.indexAt 22 (.slice a len cap) (.int .i64 k)).run Try.prog W = .ok (.pointer (some ⟨b, off + k, none⟩)) W := fun W => H.out.index W k hlt
        have hc : wr.cell? ⟨b, off + k, none⟩ = some (.string (ss.getD k ByteArray.empty)) := (H.out.kept HM.out.below).cell k hlt
        have HFIT := Lib.hid (H3.out k hlt)
        obtain ⟨x, hx'⟩ : ∃ x, x = ss.getD k ByteArray.empty := ⟨_, rfl⟩
        rw [← hx'] at hc HFIT
        clear hx'
        have hLl : L.length ≤ k + 1 := HB.out.2
        go_wp2_with (go_at_call 13; refine (HM.out.acts (of_acts p _ x HFIT.out (by omega) _)).mono ?_; rintro e w4 ⟨rfl, m4⟩; have M4 := Lib.hid m4; clear m4)
        go_roundw
        case rel => exact ⟨k + 1, by omega, by go_num, _, HB.out.next _, M4.out⟩
        case measure => simp [intOf]; omega
      · obtain ⟨⟨R, rfl⟩, hLl⟩ := HB.out
        simp only [List.length_cons] at hLl
        have hR : R.length ≤ 100 := by omega
        obtain ⟨d, hd⟩ : ∃ d, d = dig (s.data.toList :: R) u.data.toList := ⟨_, rfl⟩
        obtain ⟨R2, hR2⟩ := nxt_cons s.data.toList R u.data.toList
        have hR2l : R2.length ≤ 101 := by have := nxt_len (s.data.toList :: R) u.data.toList; rw [hR2] at this; simp at this; omega
        have hT := txt_dig (L := nxt (s.data.toList :: R) u.data.toList) (u := u.data.toList) (by simp [mem_nxt])
        rw [dig_nxt, hR2, ← hd] at hT
        have HT := Lib.hid hT
        have HD := Lib.hid hd
        have HR2 := Lib.hid hR2
        have HMem := Lib.hid (txt_dig (L := s.data.toList :: R2) (u := s.data.toList) (by simp))
        have HEQ : Hid (((1 : Int) == (d : Int)) = (s.toList == u.toList)) := by
          show ((1 : Int) == (d : Int)) = (s.toList == u.toList)
          rw [ByteArray.toList_eq, ByteArray.toList_eq, hd, Bool.beq_eq_decide_eq, Bool.beq_eq_decide_eq]
          by_cases e : s.data.toList = u.data.toList
          · rw [← e, dig_head]; simp
          · have := dig_tail R e
            rw [decide_eq_decide]; simp only [e, iff_false]; omega
        clear hd hT hR2
        go_wp2_with fail
        refine (HM.out.acts (of_acts_is p _ u hu (by simp; omega) _ d (s.data.toList :: R2) (by rw [HD.out]) HR2.out)).mono ?_; rintro e w4 ⟨rfl, m4⟩
        have M4 := Lib.hid m4
        clear m4
        go_wp2_with fail
        refine (M4.out.acts (of_acts_is p _ s hs (by simp; omega) _ 1 (s.data.toList :: R2) (by rw [dig_head]; rfl) (by simp [nxt]))).mono ?_; rintro e w5 ⟨rfl, m5⟩
        have M5 := Lib.hid m5
        clear m5
        go_wp2_with fail
        refine (text_at_is M5.out.it 1 s (by have := HMem.out.1; rwa [dig_head] at this) (by have := HMem.out.2; rwa [dig_head] at this)).mono ?_; rintro e w6 ⟨rfl, rfl⟩
        go_wp2_with fail
        refine (text_at_is M5.out.it d u HT.out.1 HT.out.2).mono ?_; rintro e w6 ⟨rfl, rfl⟩
        have heq := HEQ.out
        go_wp2_with fail
        go_ret
        exact ⟨ret_bool rfl, M5.out.below⟩
end Go.Proofs.Ytelgfmhnnecheaa
