/-
  The walk of 'DigestOrder': the call returns true and turns nothing that was there: for every slice of strings and every string within the reach.
-/
import Derived.Test.YtelgfmhnnecheaaMine
namespace Go.Proofs.Ytelgfmhnnecheaa
open Go.RowKit Go.Maps

set_option maxRecDepth 100000 in
set_option maxHeartbeats 1000000 in
theorem order_walk (a : Option Addr) (len cap b off : Nat) (ss : List ByteArray) (s : ByteArray) (w : World) (h : Strs w a len cap b off ss) (hs : s.size ≤ maxLen) :
    Calls Try.prog 7 #[.slice a len cap, .string s] w fun e w' => e = .returned (.bool true) ∧ Below w.heap.size w w' := by
  obtain ⟨f, hf⟩ : ∃ f, f = fewB ss := ⟨_, rfl⟩
  have hss : s.size ≤ 9223372036854775807 := by unfold maxLen at hs; omega
  go_enter Try.func7, Try.ntmps7
  go_wp2_with fail
  refine (small_any _).mono ?_; rintro e w1 ⟨rfl, k1⟩
  have b1 : Below w.heap.size w w1 := k1.below (Nat.le_refl _) (fun _ h => h.elim)
  have H := Lib.hid h
  have B1 := Lib.hid b1
  have hz := b1.size
  clear h b1 k1
  go_wp2_with fail
  refine (few_any a len cap b off ss _ (H.out.kept B1.out)).mono ?_; rintro e w1 ⟨rfl, rfl⟩
  rw [← hf]
  have HF := Lib.hid hf
  clear hf
  go_wp2_with fail
  refine ((new_makes _).own1 B1.out hz).mono ?_; rintro e w2 ⟨rfl, m2⟩
  obtain ⟨p, hp⟩ : ∃ p, p = w1.heap.size + 1 := ⟨_, rfl⟩
  rw [← hp] at m2 ⊢
  clear hp
  have M2 := Lib.hid m2
  clear m2
  cases f with
  | false =>
    go_wp2_with fail
    go_ret
    exact ⟨rfl, M2.out.below⟩
  | true =>
    by_cases hbig : 300 < (s.size : Int)
    · go_wp2_with fail
      go_ret
      exact ⟨rfl, M2.out.below⟩
    · have HS := H.out
      obtain ⟨h1, h2, h3, h4, h5, h6⟩ := HS
      have HL := Lib.hid h1
      have hlen : len ≤ 100 := by have := fewB_len HF.out; omega
      have H3 := Lib.hid h3
      have H6 := Lib.hid h6
      have H4 := Lib.hid h4
      clear h1 h2 h3 h4 h5 h6
      go_wp2_with fail
      go_loopw [8, 9] (fun v i wr => ∃ k : Nat, k ≤ len ∧ i = .int .i64 k ∧ v = .bool (knows (strsOf (ss.take k)) s.data.toList) ∧ Own1 w.heap.size w wr (TabOf p (run (strsOf (ss.take k))))) (fun _ i _ => len - (intOf i).toNat)
      case atStart => exact ⟨0, Nat.zero_le _, rfl, rfl, M2.out⟩
      case round =>
        obtain ⟨k, hk, rfl, rfl, hm⟩ := hrel
        have HM := Lib.hid hm
        clear hm
        by_cases hlt : k < len
        · have hx : ∀ W, (Instr.indexAt 22 (.slice a len cap) (.int .i64 k)).run Try.prog W = .ok (.pointer (some ⟨b, off + k, none⟩)) W := fun W => H.out.index W k hlt
          have hc : wr.cell? ⟨b, off + k, none⟩ = some (.string (ss.getD k ByteArray.empty)) := (H.out.kept HM.out.below).cell k hlt
          have hfit := H3.out k hlt
          have Hrun := Lib.hid (run_take ss k (by rw [HL.out]; exact hlt))
          have Hrl := Lib.hid (run_take_len ss k)
          obtain ⟨x, hx'⟩ : ∃ x, x = ss.getD k ByteArray.empty := ⟨_, rfl⟩
          rw [← hx'] at hc hfit Hrun
          have HX := Lib.hid hx'
          clear hx'
          have HF := Lib.hid hfit
          clear hfit
          obtain ⟨v, hv⟩ : ∃ v, v = knows (strsOf (ss.take k)) s.data.toList := ⟨_, rfl⟩
          rw [← hv]
          have HV := Lib.hid hv
          clear hv
          have Hsn := Lib.hid (knows_take ss k (by rw [HL.out]; exact hlt) s.data.toList)
          cases v with
          | false =>
            go_wp2_with (go_at_call 13; refine (HM.out.acts (of_acts p _ x HF.out (by have := Hrl.out; omega) _)).mono ?_; rintro e w3 ⟨rfl, m3⟩; have hc3 : w3.cell? ⟨b, off + k, none⟩ = some (.string x) := HX.out ▸ (H.out.kept m3.below).cell k hlt; have M3 := Lib.hid m3; clear m3)
            go_roundw
            case rel => exact ⟨k + 1, by omega, by go_num, by rw [Hsn.out, ← HV.out, ← HX.out]; simp [ByteArray.toList_eq]; exact Bool.beq_eq_decide_eq _ _, by rw [Hrun.out]; exact M3.out⟩
            case measure => simp [intOf]; omega
          | true =>
            go_wp2_with (go_at_call 13; refine (HM.out.acts (of_acts p _ x HF.out (by have := Hrl.out; omega) _)).mono ?_; rintro e w3 ⟨rfl, m3⟩; have hc3 : w3.cell? ⟨b, off + k, none⟩ = some (.string x) := HX.out ▸ (H.out.kept m3.below).cell k hlt; have M3 := Lib.hid m3; clear m3)
            go_roundw
            case rel => exact ⟨k + 1, by omega, by go_num, by rw [Hsn.out, ← HV.out]; rfl, by rw [Hrun.out]; exact M3.out⟩
            case measure => simp [intOf]; omega
        · obtain ⟨L, hL⟩ : ∃ L, L = run (strsOf (ss.take k)) := ⟨_, rfl⟩
          have hkn : knows (strsOf (ss.take k)) s.data.toList = knows L s.data.toList := by rw [hL]; simp [knows, mem_run]
          rw [hkn]
          rw [← hL] at HM
          have hLl : L.length ≤ 100 := by have := run_take_len ss k; rw [hL]; omega
          clear hL hkn
          by_cases hin : s.data.toList ∈ L
          · have hkn : knows L s.data.toList = true := by simp [knows, hin]
            have hkn2 : knows (nxt L s.data.toList) s.data.toList = true := by simp [knows, mem_nxt]
            have hd := dig_in hin
            obtain ⟨d, hd'⟩ : ∃ d, d = dig L s.data.toList := ⟨_, rfl⟩
            have hof := HM.out.acts (of_acts p _ s hs (by omega) _)
            rw [← hd'] at hd hof
            have HOF := Lib.hid hof
            have HKN := Lib.hid hkn2
            rw [hkn]
            have HK1 := Lib.hid hkn
            clear hd' hof hkn hkn2
            have hdi : (d : Int) ≤ (L.length : Int) := by omega
            clear hin hd
            go_wp2_with (first
              | (go_at_call 15; refine (len_at HM.out.it).mono ?_; rintro e w' ⟨rfl, rfl⟩)
              | (go_at_call 13; refine HOF.out.mono ?_; rintro e w3 ⟨rfl, m3⟩; have M3 := Lib.hid m3; clear m3)
              | (go_at_call 11; refine (known_at M3.out.it s hs).mono ?_; rintro e w' ⟨rfl, rfl⟩; rw [HKN.out])
              | (go_at_call 11; refine (known_at HM.out.it s hs).mono ?_; rintro e w' ⟨rfl, rfl⟩; rw [HK1.out]))
            go_ret
            exact ⟨rfl, M3.out.below⟩
          · have hkn : knows L s.data.toList = false := by simp [knows, hin]
            have hkn2 : knows (nxt L s.data.toList) s.data.toList = true := by simp [knows, mem_nxt]
            have hof := HM.out.acts (of_acts p _ s hs (by omega) _)
            rw [dig_out hin] at hof
            have HOF := Lib.hid hof
            have HKN := Lib.hid hkn2
            rw [hkn]
            have HK1 := Lib.hid hkn
            clear hof hkn hkn2
            clear hin
            go_wp2_with (first
              | (go_at_call 15; refine (len_at HM.out.it).mono ?_; rintro e w' ⟨rfl, rfl⟩)
              | (go_at_call 13; refine HOF.out.mono ?_; rintro e w3 ⟨rfl, m3⟩; have M3 := Lib.hid m3; clear m3)
              | (go_at_call 11; refine (known_at M3.out.it s hs).mono ?_; rintro e w' ⟨rfl, rfl⟩; rw [HKN.out])
              | (go_at_call 11; refine (known_at HM.out.it s hs).mono ?_; rintro e w' ⟨rfl, rfl⟩; rw [HK1.out]))
            go_ret
            exact ⟨ret_bool (by simp; omega), M3.out.below⟩
end Go.Proofs.Ytelgfmhnnecheaa
