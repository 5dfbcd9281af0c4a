/-
  The walk of 'DigestSame': the call returns true and turns nothing that was there: for every slice of strings and every string within the reach.
-/
import Derived.Test.YtelgfmhnnecheaaApart
namespace Go.Proofs.Ytelgfmhnnecheaa
open Go.RowKit Go.Maps

set_option maxRecDepth 100000 in
set_option maxHeartbeats 1000000 in
theorem same_walk (a : Option Addr) (len cap b off : Nat) (ss : List ByteArray) (s : ByteArray) (w : World) (h : Strs w a len cap b off ss) (hs : s.size ≤ maxLen) :
    Calls Try.prog 6 #[.slice a len cap, .string s] w fun e w' => e = .returned (.bool true) ∧ Below w.heap.size w w' := by
  obtain ⟨f, hf⟩ : ∃ f, f = fewB ss := ⟨_, rfl⟩
  have hss : s.size ≤ 9223372036854775807 := by unfold maxLen at hs; omega
  go_enter Try.func6, Try.ntmps6
  go_wp2_with fail
  refine (small_any _).mono ?_; rintro e w1 ⟨rfl, k1⟩
  have b1 : Below w.heap.size w w1 := k1.below (Nat.le_refl _) (fun _ h => h.elim)
  have H := Lib.hid h
  have B1 := Lib.hid b1
  have hz := b1.size
  clear h b1 k1
  go_wp2_with fail
  refine (few_any a len cap b off ss _ (H.out.kept B1.out)).mono ?_; rintro e w1 ⟨rfl, rfl⟩
  rw [← hf]
  have HF := Lib.hid hf
  clear hf
  go_wp2_with fail
  refine ((new_makes _).own1 B1.out hz).mono ?_; rintro e w2 ⟨rfl, m2⟩
  obtain ⟨p, hp⟩ : ∃ p, p = w1.heap.size + 1 := ⟨_, rfl⟩
  rw [← hp] at m2 ⊢
  clear hp
  have M2 := Lib.hid m2
  clear m2
  go_wp2_with fail
  refine ((new_makes _).own2 (TabOf.framed _ _) M2.out).mono ?_; rintro e w3 ⟨rfl, m3⟩
  obtain ⟨q, hq⟩ : ∃ q, q = w2.heap.size + 1 := ⟨_, rfl⟩
  rw [← hq] at m3 ⊢
  clear hq
  have M3 := Lib.hid m3
  clear m3
  cases f with
  | false =>
    go_wp2_with fail
    go_ret
    exact ⟨rfl, M3.out.below⟩
  | true =>
    by_cases hbig : 300 < (s.size : Int)
    · go_wp2_with fail
      go_ret
      exact ⟨rfl, M3.out.below⟩
    have HL := Lib.hid H.out.length
    have hlen : len ≤ 100 := by have := fewB_len HF.out; have := HL.out; omega
    have H3 := Lib.hid H.out.fits
    go_wp2_with fail
    go_loopw [9] (fun i wr => ∃ k : Nat, k ≤ len ∧ i = .int .i64 k ∧ ∃ L : List Str, L.length ≤ k ∧ Own2 w.heap.size w wr (TabOf p L) (TabOf q L)) (fun i _ => len - (intOf i).toNat)
    case atStart => exact ⟨0, Nat.zero_le _, rfl, [], by simp, M3.out⟩
    case round =>
      obtain ⟨k, hk, rfl, L, hLl, hm⟩ := hrel
      have HM := Lib.hid hm
      clear hm
      by_cases hlt : k < len
      · have hx : ∀ W, (Instr.indexAt 22 (.slice a len cap) (.int .i64 k)).run Try.prog W = .ok (.pointer (some ⟨b, off + k, none⟩)) W := fun W => H.out.index W k hlt
        have hc : wr.cell? ⟨b, off + k, none⟩ = some (.string (ss.getD k ByteArray.empty)) := (H.out.kept HM.out.below).cell k hlt
        have HFIT := Lib.hid (H3.out k hlt)
        have HC4 : Hid (∀ w4, Below w.heap.size w w4 → w4.cell? ⟨b, off + k, none⟩ = some (.string (ss.getD k ByteArray.empty))) := fun w4 hb => (H.out.kept hb).cell k hlt
        obtain ⟨x, hx'⟩ : ∃ x, x = ss.getD k ByteArray.empty := ⟨_, rfl⟩
        rw [← hx'] at hc HFIT HC4
        clear hx'
        go_wp2_with fail
        refine (HM.out.acts (TabOf.framed _ _) (of_acts p _ x HFIT.out (by omega) _)).mono ?_; rintro e w4 ⟨rfl, m4⟩
        have hc4 := HC4.out w4 m4.below
        have M4 := Lib.hid m4
        clear m4
        go_wp2_with fail
        refine (M4.out.acts' (TabOf.framed _ _) (of_acts q _ x HFIT.out (by omega) _)).mono ?_; rintro e w5 ⟨rfl, m5⟩
        have M5 := Lib.hid m5
        clear m5
        have hn := nxt_len L x.data.toList
        go_wp2_with (first
          | (go_at_call 15; refine (len_at M5.out.it1).mono ?_; rintro e w' ⟨rfl, rfl⟩)
          | (go_at_call 15; refine (len_at M5.out.it2).mono ?_; rintro e w' ⟨rfl, rfl⟩))
        go_roundw
        case rel => exact ⟨k + 1, by omega, by go_num, _, by omega, M5.out⟩
        case measure => simp [intOf]; omega
      · go_wp2_with fail
        refine (known_at HM.out.it1 s hs).mono ?_; rintro e w' ⟨rfl, rfl⟩
        go_wp2_with fail
        refine (known_at HM.out.it2 s hs).mono ?_; rintro e w' ⟨rfl, rfl⟩
        go_wp2_with fail
        go_ret
        exact ⟨ret_bool (by simp), HM.out.below⟩
end Go.Proofs.Ytelgfmhnnecheaa
