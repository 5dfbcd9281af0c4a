/-
  The walk of 'DigestPlays': the call returns true and turns nothing that was there: for every slice of strings and every slice of ints within the reach.
-/
import Derived.Test.YtelgfmhnnecheaaRef
import Derived.Deep.QuietTactic
import Derived.BigQuiet
namespace Go.Proofs.Ytelgfmhnnecheaa
open Go.RowKit Go.Maps

/-- A slice of ints that came in, as a walk reads it. -/
structure Ints (w : World) (a : Option Addr) (len cap : Nat) (b off : Nat) (zs : List Int) : Prop where
  bound : len ≤ 9223372036854775807
  old : 0 < len → b < w.heap.size
  head : 0 < len → a = some ⟨b, off, none⟩
  cell : ∀ j, j < len → w.cell? ⟨b, off + j, none⟩ = some (.int .i64 (zs.getD j 0))
theorem Ints.index {w : World} {a : Option Addr} {len cap b off : Nat} {zs : List Int} (h : Ints w a len cap b off zs) (W : World) (j : Nat) (hj : j < len) :
    (Instr.indexAt 23 (.slice a len cap) (.int .i64 j)).run Try.prog W = .ok (.pointer (some ⟨b, off + j, none⟩)) W := by
  have e := h.head (by omega)
  subst e
  simp [Addr.add, hj, Try.underlying23, go_sem]
theorem Ints.kept {w w' : World} {a : Option Addr} {len cap b off : Nat} {zs : List Int} (h : Ints w a len cap b off zs) (hb : Below w.heap.size w w') : Ints w' a len cap b off zs :=
  ⟨h.bound, fun h0 => Nat.lt_of_lt_of_le (h.old h0) hb.size, h.head, fun j hj => (hb.cell (p := ⟨b, off + j, none⟩) (h.old (by omega))).trans (h.cell j hj)⟩

section
open Go.ChangeShapes Go.WideShapes Go.ChangeAt
theorem Try.cells3 : Try.prog.cellsOf 3 = 1 := by kernel_rfl
theorem ints_of {H : Type} {enc : TypeId × Value → H} {W : World} {a : Option Addr} {len cap : Nat} {d : DataW H} {ps : List MemPlace}
    (h : DataW.Trod enc Try.prog W 0 (fun _ => true) true 23 (.slice a len cap) d ps) : ∃ b off zs, Ints W a len cap b off zs := by
  obtain ⟨fuel, hf⟩ := h
  rcases open_ints Try.underlying23 Try.underlying3 Try.cells3 hf with ⟨hcs, _⟩ | ⟨x, l, c, zs, hcs, _, hl, hm, hz, _, hcell, _⟩
  · simp [Value.cells] at hcs
    obtain ⟨rfl, rfl, rfl⟩ := hcs
    exact ⟨0, 0, [], by omega, fun h => by omega, fun h => by omega, fun j hj => by omega⟩
  · simp [Value.cells] at hcs
    obtain ⟨rfl, rfl, rfl⟩ := hcs
    simp only [if_true] at hz
    obtain ⟨b, off, spot⟩ := x
    have hspot : 0 < len → spot = none := fun h0 => by simpa [Addr.add] using World.cell?_spot (hcell 0 (by omega))
    have hcell' : ∀ j, j < len → W.cell? ⟨b, off + j, none⟩ = some (.int .i64 (zs.getD j 0)) := fun j hj => by
      have := hcell j (by omega)
      have hs := hspot (by omega)
      subst hs
      rwa [Addr.add_lit] at this
    exact ⟨b, off, zs, by unfold maxLen at hm; omega, fun h0 => World.block_lt_of_cell? W _ (hcell' 0 h0), fun h0 => by rw [hspot h0], hcell'⟩
end

theorem known_still {p : Nat} {L : List Str} {w : World} (h : ∃ F, TabOf p L w F) (s : ByteArray) (hs : s.size ≤ maxLen) :
    Calls Try.prog 11 #[.pointer (some ⟨p, 0, none⟩), .string s] w fun e w' => e = .returned (.bool (knows L s.data.toList)) ∧ w' = w :=
  (known_at h s hs).mono fun _ _ h => ⟨h.1, h.2.symm⟩
theorem rknown_still {p : Nat} {L : List Str} {w : World} (h : ∃ F, RTabOf p L w F) (s : ByteArray) :
    Calls Try.prog 12 #[.pointer (some ⟨p, 0, none⟩), .string s] w fun e w' => e = .returned (.bool (knows L s.data.toList)) ∧ w' = w :=
  (rknown_at h s).mono fun _ _ h => ⟨h.1, h.2.symm⟩
theorem len_still' {p : Nat} {L : List Str} {w : World} (h : ∃ F, TabOf p L w F) :
    Calls Try.prog 15 #[.pointer (some ⟨p, 0, none⟩)] w fun e w' => e = .returned (.int .i64 L.length) ∧ w' = w :=
  (len_at h).mono fun _ _ h => ⟨h.1, h.2.symm⟩
theorem RTabOf.field {p : Nat} {L : List Str} {w : World} {F : Nat → Prop} (h : RTabOf p L w F) : ∃ a cap, w.cell? ⟨p, 0, none⟩ = some (.slice a L.length cap) := by
  obtain ⟨sv, h⟩ := h
  obtain ⟨a, cap, g, hsv, _⟩ := strs_of_row h.row h.fits
  exact ⟨a, cap, by simp [World.cell?, h.cells, hsv]⟩
/-- '&Table{}'. -/
theorem own2_ref {B : Nat} {w wr : World} {O : World → (Nat → Prop) → Prop} (fr : Framed O) (h : Own1 B w wr O) : Own2 B w (wr.alloc (.cells #[.slice none 0 0] 30)) O (RTabOf wr.heap.size []) := by
  obtain ⟨hb, hB, F, h, hf⟩ := h
  have k : Keeps (fun _ => False) wr (wr.alloc (.cells #[.slice none 0 0] 30)) := (Keeps.refl _ _).alloc _
  refine ⟨hb.trans (k.below hB (fun _ h => h.elim)), Nat.le_trans hB k.size, F, fun b => b = wr.heap.size, fr.kept _ _ _ _ h k (fun _ _ h => h), ⟨.slice none 0 0, ?_⟩, hf, fun b hb => hb ▸ hB, ?_⟩
  · exact ⟨heap_alloc_new wr _, World.ownsRow_nil _ _ _ _, fun b => by simp [Value.ownBlock], fun s hs => by simp at hs⟩
  · rintro b hb rfl
    exact Nat.lt_irrefl _ (fr.lt _ _ h _ hb)

set_option maxRecDepth 100000 in
set_option maxHeartbeats 2000000 in
theorem plays_walk (a : Option Addr) (len cap b off : Nat) (ss : List ByteArray) (a2 : Option Addr) (len2 cap2 b2 off2 : Nat) (zs : List Int) (w : World) (h : Strs w a len cap b off ss) (hz2 : Ints w a2 len2 cap2 b2 off2 zs) :
    Calls Try.prog 3 #[.slice a len cap, .slice a2 len2 cap2] w fun e w' => e = .returned (.bool true) ∧ Below w.heap.size w w' := by
  obtain ⟨f, hf⟩ : ∃ f, f = fewB ss := ⟨_, rfl⟩
  have hb2 := hz2.bound
  go_enter Try.func3, Try.ntmps3
  go_wp2_with fail
  refine (small_any _).mono ?_; rintro e w1 ⟨rfl, k1⟩
  have b1 : Below w.heap.size w w1 := k1.below (Nat.le_refl _) (fun _ h => h.elim)
  have H := Lib.hid h
  have HZ := Lib.hid hz2
  have B1 := Lib.hid b1
  have hz := b1.size
  clear h b1 k1 hz2
  go_wp2_with fail
  refine (few_any a len cap b off ss _ (H.out.kept B1.out)).mono ?_; rintro e w1 ⟨rfl, rfl⟩
  rw [← hf]
  have HF := Lib.hid hf
  clear hf
  go_wp2_with fail
  refine ((new_makes _).own1 B1.out hz).mono ?_; rintro e w2 ⟨rfl, m2⟩
  obtain ⟨p, hp⟩ : ∃ p, p = w1.heap.size + 1 := ⟨_, rfl⟩
  rw [← hp] at m2 ⊢
  clear hp
  have M2 := Lib.hid (own2_ref (TabOf.framed _ _) m2)
  clear m2
  cases f with
  | false =>
    go_wp2_with fail
    go_ret
    exact ⟨rfl, M2.out.below⟩
  | true =>
    by_cases hbig : 100 < (len2 : Int)
    · go_wp2_with fail
      go_ret
      exact ⟨rfl, M2.out.below⟩
    have HL := Lib.hid H.out.length
    have hlen : len ≤ 100 := by have := fewB_len HF.out; have := HL.out; omega
    have H3 := Lib.hid H.out.fits
    go_wp2_with fail
    obtain ⟨q, hq⟩ : ∃ q, q = w2.heap.size := ⟨_, rfl⟩
    obtain ⟨w3, hw3⟩ : ∃ w3, w3 = w2.alloc (.cells #[.slice none 0 0] 30) := ⟨_, rfl⟩
    rw [← hq, ← hw3] at M2
    rw [← hq, ← hw3]
    clear hq hw3
    go_loopw [9] (fun i wr => ∃ k : Nat, k ≤ len ∧ i = .int .i64 k ∧ ∃ L : List Str, L.length ≤ k ∧ Own2 w.heap.size w wr (TabOf p L) (RTabOf q L)) (fun i _ => len - (intOf i).toNat)
    case atStart => exact ⟨0, Nat.zero_le _, rfl, [], by simp, M2.out⟩
    case round =>
      obtain ⟨k, hk, rfl, L, hLl, hm⟩ := hrel
      have HM := Lib.hid hm
      clear hm
      by_cases hlt : k < len
      · have hx : ∀ W, (Instr.indexAt 22 (.slice a len cap) (.int .i64 k)).run Try.prog W = .ok (.pointer (some ⟨b, off + k, none⟩)) W := fun W => H.out.index W k hlt
        have hc : wr.cell? ⟨b, off + k, none⟩ = some (.string (ss.getD k ByteArray.empty)) := (H.out.kept HM.out.below).cell k hlt
        have HFIT := Lib.hid (H3.out k hlt)
        have HC4 : Hid (∀ w4, Below w.heap.size w w4 → w4.cell? ⟨b, off + k, none⟩ = some (.string (ss.getD k ByteArray.empty))) := fun w4 hb => (H.out.kept hb).cell k hlt
        obtain ⟨x, hx'⟩ : ∃ x, x = ss.getD k ByteArray.empty := ⟨_, rfl⟩
        rw [← hx'] at hc HFIT HC4
        clear hx'
        go_wp2_with fail
        go_quiet (first | (go_at_call 11; exact Calls.quiet_of_same (known_still ((TabOf.framed _ _).drewN HM.out.it1 _) x HFIT.out)) | (go_at_call 12; exact Calls.quiet_of_same (rknown_still ((RTabOf.framed _ _).drewN HM.out.it2 _) x)))
        have HM2 := Lib.hid (HM.out.more (TabOf.framed _ _) (RTabOf.framed _ _) (Keeps.drewN _ _ nq))
        generalize wr.drewN nq = wx at HM2 ⊢
        have hcx := HC4.out wx HM2.out.below
        have hn := nxt_len L x.data.toList
        obtain ⟨kn, hkn⟩ : ∃ kn, kn = knows L x.data.toList := ⟨_, rfl⟩
        rw [← hkn]
        clear hkn hc
        go_wp2_with (first
          | (go_at_call 13; refine (HM2.out.acts (RTabOf.framed _ _) (of_acts p _ x HFIT.out (by omega) _)).mono ?_; rintro e w4 ⟨rfl, m4⟩; have hc4 := HC4.out w4 m4.below; have M4 := Lib.hid m4; clear m4)
          | (go_at_call 14; refine (M4.out.acts' (TabOf.framed _ _) (rof_acts q _ x HFIT.out (by omega) _)).mono ?_; rintro e w5 ⟨rfl, m5⟩; have M5 := Lib.hid m5; clear m5))
        · obtain ⟨F5, h5⟩ := M5.out.it2
          obtain ⟨a5, cap5, hc5⟩ := h5.field
          clear h5
          go_quiet ((go_at_call 15; exact Calls.quiet_of_same (len_still' ((TabOf.framed _ _).drewN M5.out.it1 _))))
          have HM6 := Lib.hid (M5.out.more (TabOf.framed _ _) (RTabOf.framed _ _) (Keeps.drewN _ _ nq))
          go_wp2_with fail
          go_roundw
          case rel => exact ⟨k + 1, by omega, by go_num, _, by omega, HM6.out⟩
          case measure => simp [intOf]; omega
        · obtain ⟨F5, h5⟩ := HM2.out.it2
          obtain ⟨a5, cap5, hc5⟩ := h5.field
          clear h5
          go_quiet ((go_at_call 15; exact Calls.quiet_of_same (len_still' ((TabOf.framed _ _).drewN HM2.out.it1 _))))
          have HM6 := Lib.hid (HM2.out.more (TabOf.framed _ _) (RTabOf.framed _ _) (Keeps.drewN _ _ nq))
          go_wp2_with fail
          go_roundw
          case rel => exact ⟨k + 1, by omega, by go_num, _, by omega, HM6.out⟩
          case measure => simp [intOf]; omega
      · go_wp2_with fail
        obtain ⟨wo, rfl⟩ : ∃ wo : World, wo = wr := ⟨_, rfl⟩
        go_loopw [14] (fun i wr => ∃ k : Nat, k ≤ len2 ∧ i = .int .i64 k ∧ wo = wr) (fun i _ => len2 - (intOf i).toNat)
        case atStart => exact ⟨0, Nat.zero_le _, rfl, rfl⟩
        case round =>
          obtain ⟨j, hj, rfl, rfl⟩ := hrel
          by_cases hlt2 : j < len2
          · have hx : ∀ W, (Instr.indexAt 23 (.slice a2 len2 cap2) (.int .i64 j)).run Try.prog W = .ok (.pointer (some ⟨b2, off2 + j, none⟩)) W := fun W => HZ.out.index W j hlt2
            have hc := (HZ.out.kept HM.out.below).cell j hlt2
            obtain ⟨d, hd⟩ : ∃ d, d = zs.getD j 0 := ⟨_, rfl⟩
            rw [← hd] at hc
            clear hd
            obtain ⟨tx, htx⟩ : ∃ tx : ByteArray, Value.string tx = str (txt L d) := ⟨asB (txt L d), rfl⟩
            obtain ⟨tb, htb⟩ : ∃ tb : Bool, tb = isT L d := ⟨_, rfl⟩
            have T1 := text_at HM.out.it1 d
            have T2 := rtext_at HM.out.it2 d
            rw [← htx, ← htb] at T1 T2
            have HT1 := Lib.hid T1
            have HT2 := Lib.hid T2
            clear T1 T2 htx htb
            go_wp2_with (first
              | (go_at_call 16; refine HT1.out.mono ?_; rintro e w' ⟨rfl, rfl⟩)
              | (go_at_call 17; refine HT2.out.mono ?_; rintro e w' ⟨rfl, rfl⟩))
            go_roundw
            case rel => exact ⟨j + 1, by omega, by go_num, trivial⟩
            case measure => simp [intOf]; omega
          · go_wp2_with fail
            go_ret
            exact ⟨rfl, HM.out.below⟩
end Go.Proofs.Ytelgfmhnnecheaa
