/-
  The walk of 'DigestCounts': the call returns true and turns nothing that was there: for every slice of strings within the reach.
-/
import Derived.Test.YtelgfmhnnecheaaApart
namespace Go.Proofs.Ytelgfmhnnecheaa
open Go.RowKit Go.Maps

set_option maxRecDepth 100000 in
set_option maxHeartbeats 1000000 in
theorem counts_walk (a : Option Addr) (len cap b off : Nat) (ss : List ByteArray) (w : World) (h : Strs w a len cap b off ss) :
    Calls Try.prog 5 #[.slice a len cap] w fun e w' => e = .returned (.bool true) ∧ Below w.heap.size w w' := by
  obtain ⟨f, hf⟩ : ∃ f, f = fewB ss := ⟨_, rfl⟩
  go_enter Try.func5, Try.ntmps5
  go_wp2_with fail
  refine (small_any _).mono ?_; rintro e w1 ⟨rfl, k1⟩
  have b1 : Below w.heap.size w w1 := k1.below (Nat.le_refl _) (fun _ h => h.elim)
  have H := Lib.hid h
  have B1 := Lib.hid b1
  have hz := b1.size
  clear h b1 k1
  go_wp2_with fail
  refine (few_any a len cap b off ss _ (H.out.kept B1.out)).mono ?_; rintro e w1 ⟨rfl, rfl⟩
  rw [← hf]
  have HF := Lib.hid hf
  clear hf
  go_wp2_with fail
  refine ((new_makes _).own1 B1.out hz).mono ?_; rintro e w2 ⟨rfl, m2⟩
  obtain ⟨p, hp⟩ : ∃ p, p = w1.heap.size + 1 := ⟨_, rfl⟩
  rw [← hp] at m2 ⊢
  clear hp
  have M2 := Lib.hid m2
  clear m2
  cases f with
  | false =>
    go_wp2_with fail
    go_ret
    exact ⟨rfl, M2.out.below⟩
  | true =>
    have HL := Lib.hid H.out.length
    have hlen : len ≤ 100 := by have := fewB_len HF.out; have := HL.out; omega
    have H3 := Lib.hid H.out.fits
    go_wp2_with fail
    go_loopw [6, 7] (fun m i wr => ∃ k : Nat, k ≤ len ∧ i = .int .i64 k ∧ ∃ L : List Str, L.length ≤ k ∧ m = .int .i64 L.length ∧ Own1 w.heap.size w wr (TabOf p L)) (fun _ i _ => len - (intOf i).toNat)
    case atStart => exact ⟨0, Nat.zero_le _, rfl, [], by simp, rfl, M2.out⟩
    case round =>
      obtain ⟨k, hk, rfl, L, hLl, rfl, hm⟩ := hrel
      have HM := Lib.hid hm
      clear hm
      by_cases hlt : k < len
      · have hx : ∀ W, (Instr.indexAt 22 (.slice a len cap) (.int .i64 k)).run Try.prog W = .ok (.pointer (some ⟨b, off + k, none⟩)) W := fun W => H.out.index W k hlt
        have hc : wr.cell? ⟨b, off + k, none⟩ = some (.string (ss.getD k ByteArray.empty)) := (H.out.kept HM.out.below).cell k hlt
        have HFIT := Lib.hid (H3.out k hlt)
        obtain ⟨x, hx'⟩ : ∃ x, x = ss.getD k ByteArray.empty := ⟨_, rfl⟩
        rw [← hx'] at hc HFIT
        clear hx'
        by_cases hin : x.data.toList ∈ L
        · have HK : Hid (knows L x.data.toList = true) := by show knows L x.data.toList = true; simp [knows, hin]
          obtain ⟨d, hd⟩ : ∃ d, d = dig L x.data.toList := ⟨_, rfl⟩
          have hd1 : d ≤ L.length := hd ▸ dig_in hin
          have hd2 : 1 ≤ d := by rw [hd]; simp [dig, hin]
          have HD := Lib.hid hd
          have HN : Hid (nxt L x.data.toList = L) := by show nxt L x.data.toList = L; simp [nxt, hin]
          clear hd hin
          have t1 : decide ((d : Int) < 1) = false := by simp; omega
          have t2 : decide ((L.length : Int) + 1 < (d : Int)) = false := by simp; omega
          have t3 : ((d : Int) == (L.length : Int) + 1) = false := by simp; omega
          go_wp2_with (first
            | (go_at_call 11; refine (known_at HM.out.it x HFIT.out).mono ?_; rintro e w' ⟨rfl, rfl⟩; rw [HK.out])
            | (go_at_call 13; refine (HM.out.acts (of_acts_is p _ x HFIT.out (by omega) _ d L (by rw [HD.out]) HN.out)).mono ?_; rintro e w4 ⟨rfl, m4⟩; have M4 := Lib.hid m4; clear m4)
            | (go_at_call 15; refine (len_at M4.out.it).mono ?_; rintro e w' ⟨rfl, rfl⟩))
          go_roundw
          case rel => exact ⟨k + 1, by omega, by go_num, L, by omega, rfl, M4.out⟩
          case measure => simp [intOf]; omega
        · have HK : Hid (knows L x.data.toList = false) := by show knows L x.data.toList = false; simp [knows, hin]
          have HD := Lib.hid (dig_out hin)
          have HN : Hid (nxt L x.data.toList = L ++ [x.data.toList]) := by show nxt L x.data.toList = L ++ [x.data.toList]; simp [nxt, hin]
          clear hin
          have t1 : decide ((L.length : Int) + 1 < 1) = false := by simp; omega
          go_wp2_with (first
            | (go_at_call 11; refine (known_at HM.out.it x HFIT.out).mono ?_; rintro e w' ⟨rfl, rfl⟩; rw [HK.out])
            | (go_at_call 13; refine (HM.out.acts (of_acts_is p _ x HFIT.out (by omega) _ ((L.length : Int) + 1) (L ++ [x.data.toList]) (by rw [HD.out]; rfl) HN.out)).mono ?_; rintro e w4 ⟨rfl, m4⟩; have M4 := Lib.hid m4; clear m4)
            | (go_at_call 15; refine (len_at M4.out.it).mono ?_; rintro e w' ⟨rfl, rfl⟩))
          go_roundw
          case rel => exact ⟨k + 1, by omega, by go_num, L ++ [x.data.toList], by simp; omega, by simp, M4.out⟩
          case measure => simp [intOf]; omega
      · go_wp2_with fail
        go_ret
        exact ⟨rfl, HM.out.below⟩
end Go.Proofs.Ytelgfmhnnecheaa
