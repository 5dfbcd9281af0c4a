/-
  The walk of 'RelayFair': the call returns true and turns nothing that was there: for any ways, any events ahead, any events.
-/
import Derived.Test.YteclbfkeiejbeaaAnswers
namespace Go.Proofs.Yteclbfkeiejbeaa
open Go.RowKit Go.Maps

theorem way_nil {s : St} (h : s.ways = []) : s.way = 0 := by unfold St.way; rw [if_pos h]
theorem putErr_nil {s : St} (h : s.ways = []) : s.putErr = 0 := by unfold St.putErr; rw [way_nil h]; rfl
theorem put_nil {s : St} (h : s.ways = []) (a n : Int) (v : Str) : (s.put a n v).ways = [] ∧ look (s.put a n v).kept n = some v := by
  unfold St.put; rw [way_nil h]
  exact ⟨h, by show look (upd s.kept n v) n = some v; rw [look_upd, if_pos rfl]⟩
theorem got_some {s : St} (h : s.ways = []) {n : Int} {v : Str} (hv : look s.kept n = some v) : s.got n = (v, 0) := by
  unfold St.got; rw [way_nil h]
  have e : lookD s.kept n = v := by unfold lookD; rw [hv]; rfl
  rw [hv, e]; rfl
theorem got_none {s : St} (h : s.ways = []) {n : Int} (hv : look s.kept n = none) : s.got n = ([], 3) := by
  unfold St.got; rw [way_nil h, hv]; rfl

/-- A block of the call's own. -/
def HeldAt (g : Nat) (o : Go.Obj) (w : World) (F : Nat → Prop) : Prop := w.heap[g]? = some o ∧ ∀ b, F b ↔ b = g
theorem HeldAt.framed (g : Nat) (o : Go.Obj) : Framed (HeldAt g o) :=
  ⟨fun _ _ h b hb => (h.2 b).1 hb ▸ (Array.getElem?_eq_some_iff.1 h.1).1, fun _ _ _ _ h hk hd => ⟨(hk.block g (Array.getElem?_eq_some_iff.1 h.1).1 (hd g ((h.2 g).2 rfl))).trans h.1, h.2⟩⟩
theorem Own1.hold {B : Nat} {w0 w : World} {O : World → (Nat → Prop) → Prop} (fr : Framed O) (h : Own1 B w0 w O) (o : Go.Obj) : Own2 B w0 (w.alloc o) O (HeldAt w.heap.size o) := by
  obtain ⟨hb, hB, F, ho, hf⟩ := h
  refine ⟨hb.trans (((Keeps.refl (fun _ => False) w).alloc o).below hB (fun _ h => h.elim)), Nat.le_trans hB (by simp), F, fun b => b = w.heap.size, fr.kept _ _ _ _ ho ((Keeps.refl (fun _ => False) w).alloc o) (fun _ _ h => h), ⟨heap_alloc_new w o, fun _ => Iff.rfl⟩, hf, (fun b hb => hb ▸ hB), fun b hb e => ?_⟩
  have := fr.lt _ _ ho b hb
  omega

theorem held_cells {w : World} {g : Nat} {v0 v1 v2 v3 : Value} {t : TypeId} (h : ∃ F, HeldAt g (.cells #[v0, v1, v2, v3] t) w F) :
    w.cell? ⟨g, 0, none⟩ = some v0 ∧ w.cell? ⟨g, 1, none⟩ = some v1 ∧ w.cell? ⟨g, 2, none⟩ = some v2 ∧ w.cell? ⟨g, 3, none⟩ = some v3 := by
  obtain ⟨F, h, _⟩ := h
  refine ⟨?_, ?_, ?_, ?_⟩ <;> simp [World.cell?, h]

set_option maxRecDepth 100000 in
set_option maxHeartbeats 4000000 in
theorem fair_walk (a0 : Option Addr) (len0 cap0 : Nat) (zs : List Int) (a : Option Addr) (len cap b off : Nat) (f : Nat → EvB) (a' : Option Addr) (len' cap' b' off' : Nat) (f' : Nat → EvB) (w : World)
    (hz : Ways w a0 len0 cap0 zs) (h : Evs w a len cap b off f) (h' : Evs w a' len' cap' b' off' f') :
    Calls Try.prog 5 #[.slice a0 len0 cap0, .slice a len cap, .slice a' len' cap'] w fun e w' => e = .returned (.bool true) ∧ Below w.heap.size w w' := by
  have HZ := Lib.hid hz
  have H := Lib.hid h
  have H' := Lib.hid h'
  have hb := h.bound
  have hb' := h'.bound
  have hb0 : len0 ≤ 9223372036854775807 := hz.bound
  clear hz h h'
  go_enter Try.func5, Try.ntmps5
  go_wp2_with fail
  refine (small_any _).mono ?_; rintro e w1 ⟨rfl, b1⟩
  have B1 := Lib.hid b1
  clear b1
  go_wp2_with fail
  refine (few_any a len cap b off f _ (H.out.kept B1.out)).mono ?_; rintro e w' ⟨t, rfl, rfl, ht⟩
  have HT := Lib.hid ht
  clear ht
  go_wp2_with fail
  refine (few_any a' len' cap' b' off' f' _ (H'.out.kept B1.out)).mono ?_; rintro e w' ⟨t', rfl, rfl, ht'⟩
  have HT' := Lib.hid ht'
  clear ht'
  go_wp2_with fail
  refine (new_ways (HZ.out.kept B1.out) B1.out B1.out.size).mono ?_
  rintro e w2 ⟨p, rfl, h⟩
  have P := Lib.hid h
  clear h
  cases t with
  | false =>
    go_wp2_with fail
    go_ret
    exact ⟨rfl, P.out.below⟩
  | true =>
  cases t' with
  | false =>
    go_wp2_with fail
    go_ret
    exact ⟨rfl, P.out.below⟩
  | true =>
    obtain ⟨hl, hs⟩ := HT.out rfl
    have HS := Lib.hid hs
    obtain ⟨hl', hs'⟩ := HT'.out rfl
    have HS' := Lib.hid hs'
    clear hs HT hs' HT'
    by_cases h200 : 200 < len0
    · go_wp2_with fail
      go_ret
      exact ⟨rfl, P.out.below⟩
    go_wp2_with fail
    go_loopw [11] (fun i wr => ∃ k : Nat, k ≤ len ∧ i = .int .i64 k ∧ ∃ s : St, s.seen.length = k ∧ Own1 w.heap.size w wr (Rel p s)) (fun i _ => len - (intOf i).toNat)
    case atStart => exact ⟨0, Nat.zero_le _, rfl, _, rfl, P.out⟩
    case round =>
      obtain ⟨k, hk, rfl, s, hseen, hP⟩ := hrel
      have Q := Lib.hid hP
      have LS := Lib.hid hseen
      clear hP hseen
      by_cases hlt : k < len
      · have hx : ∀ W, (Instr.indexAt 23 (.slice a len cap) (.int .i64 k)).run Try.prog W = .ok (.pointer (some ⟨b, off + k * 4, none⟩)) W := fun W => H.out.index W k hlt
        have He := Lib.hid (H.out.kept Q.out.below)
        have c0 := He.out.c0 k hlt
        have c1 := He.out.c1 k hlt
        have c2 := He.out.c2 k hlt
        have c3 := He.out.c3 k hlt
        have WF := Lib.hid (H.out.wf k hlt)
        have SZ := Lib.hid (HS.out k hlt)
        obtain ⟨ev, hev⟩ : ∃ ev, f k = ev := ⟨_, rfl⟩
        rw [hev] at c0 c1 c2 c3 WF SZ
        clear He hev
        obtain ⟨ea, ep, en, ex⟩ := ev
        simp only at c0 c1 c2 c3
        have hl2 : Hid (s.seen.length < 65536) := Lib.hid (by rw [LS.out]; omega)
        have Q' := Lib.hid (Q.out.more (Rel.framed _ _) (Keeps.drewN (fun _ => False) wr 1))
        cases ep with
        | true =>
          have P1 := Lib.hid (put_own Q'.out hl2.out ea en WF.out ex (Nat.le_trans SZ.out (by decide)) rfl rfl)
          generalize s.putErr = pe at P1
          go_wp2_with fail
          go_still_tail 16, (by kernel_rfl)
          go_wp2_with fail
          refine P1.out.mono ?_
          rintro e w3 ⟨rfl, h⟩
          have R := Lib.hid h
          clear h P1
          go_wp2_with fail
          go_roundw
          case rel => exact ⟨k + 1, by omega, by go_num, _, by rw [put_seen]; simp [LS.out], R.out⟩
          case measure => simp [intOf]; omega
        | false =>
          have G1 := Lib.hid (get_own Q'.out hl2.out ea en WF.out (x := ⟨(s.got en).1.toArray⟩) (d := (s.got en).2) rfl rfl)
          generalize (⟨(s.got en).1.toArray⟩ : ByteArray) = gx at G1
          generalize (s.got en).2 = gd at G1
          go_wp2_with fail
          go_still_tail 11, (by kernel_rfl)
          go_wp2_with fail
          refine G1.out.mono ?_
          rintro e w3 ⟨rfl, h⟩
          have R := Lib.hid h
          clear h G1
          go_wp2_with fail
          go_roundw
          case rel => exact ⟨k + 1, by omega, by go_num, _, by simp [St.saw, LS.out], R.out⟩
          case measure => simp [intOf]; omega
      · obtain rfl : k = len := by omega
        have F1 := Lib.hid (Q.out.acts (faithful_acts rfl))
        go_wp2_with fail
        refine F1.out.mono ?_
        rintro e w3 ⟨rfl, h⟩
        have R := Lib.hid h
        clear h F1
        go_wp2_with fail
        go_loopw [12] (fun i wr => ∃ j : Nat, j ≤ len' ∧ i = .int .i64 j ∧ ∃ s : St, s.ways = [] ∧ s.seen.length ≤ k + 2 * j ∧ Own1 w.heap.size w wr (Rel p s)) (fun i _ => len' - (intOf i).toNat)
        case atStart => exact ⟨0, Nat.zero_le _, rfl, _, rfl, by show s.seen.length ≤ _; rw [LS.out]; omega, R.out⟩
        case round =>
          obtain ⟨j, hj, rfl, s2, hw2, hsn, hP⟩ := hrel
          have Q2 := Lib.hid hP
          have NW := Lib.hid hw2
          have SN := Lib.hid hsn
          clear hP hw2 hsn
          by_cases hjt : j < len'
          · have hx : ∀ W, (Instr.indexAt 23 (.slice a' len' cap') (.int .i64 j)).run Try.prog W = .ok (.pointer (some ⟨b', off' + j * 4, none⟩)) W := fun W => H'.out.index W j hjt
            have He := Lib.hid (H'.out.kept Q2.out.below)
            have c0 := He.out.c0 j hjt
            have c1 := He.out.c1 j hjt
            have c2 := He.out.c2 j hjt
            have c3 := He.out.c3 j hjt
            have WF := Lib.hid (H'.out.wf j hjt)
            have SZ := Lib.hid (HS'.out j hjt)
            obtain ⟨ev, hev⟩ : ∃ ev, f' j = ev := ⟨_, rfl⟩
            rw [hev] at c0 c1 c2 c3 WF SZ
            clear He hev
            obtain ⟨ea, ep, en, ex⟩ := ev
            simp only at c0 c1 c2 c3
            have D := Lib.hid (Q2.out.hold (Rel.framed _ _) (.cells #[.int .i64 ea, .bool ep, .int .i64 en, .string ex] 34))
            obtain ⟨hx1, hhx⟩ : ∃ x : ByteArray, lookD s2.kept en = x.data.toList := ⟨⟨(lookD s2.kept en).toArray⟩, rfl⟩
            have HA := Lib.hid (has_own D.out.left en WF.out hhx rfl)
            have L1 : Hid (s2.seen.length < 65536) := Lib.hid (by have := SN.out; omega)
            have L2 : Hid (s2.seen.length + 1 < 65536) := Lib.hid (by have := SN.out; omega)
            cases ep with
            | true =>
              clear hhx
              have P1 := Lib.hid (D.out.acts (HeldAt.framed _ _) (put_acts L1.out ea en WF.out ex (Nat.le_trans SZ.out (by decide)) (putErr_nil NW.out) rfl))
              obtain ⟨n1, n2⟩ := put_nil NW.out ea en ex.data.toList
              have LN : Hid ((s2.put ea en ex.data.toList).seen.length = s2.seen.length + 1) := Lib.hid (by rw [put_seen]; simp)
              have GS := got_some n1 n2
              obtain ⟨s3, hs3⟩ : ∃ s3, s3 = s2.put ea en ex.data.toList := ⟨_, rfl⟩
              rw [← hs3] at P1 n1 LN GS
              have N3 := Lib.hid n1
              have G3 := Lib.hid GS
              clear hs3 n1 n2 GS
              generalize (look s2.kept en).isSome = tt at HA
              go_wp2_with fail
              refine HA.out.mono ?_
              rintro e w4 ⟨rfl, rfl⟩
              go_wp2_with fail
              refine P1.out.mono ?_
              rintro e w5 ⟨rfl, h⟩
              have R5 := Lib.hid h
              obtain ⟨e0, e1, e2, e3⟩ := held_cells h.it2
              clear h P1 HA D c0 c1 c2 c3
              go_wp2_with fail
              refine (R5.out.acts (HeldAt.framed _ _) (get_acts (by have := LN.out; have := L2.out; omega) ea en WF.out G3.out rfl)).mono ?_
              rintro e w6 ⟨rfl, h⟩
              have R6 := Lib.hid h
              obtain ⟨g0, g1, g2, g3⟩ := held_cells h.it2
              clear h e0 e1 e2 e3
              go_wp2_with fail
              go_roundw
              case rel => exact ⟨j + 1, by omega, by go_num, s3.saw ⟨ea, false, en, []⟩, N3.out, by simp [St.saw]; have := LN.out; have := SN.out; omega, R6.out.left⟩
              case measure => simp [intOf]; omega
            | false =>
              cases hlk : look s2.kept en with
              | none =>
                have GN := Lib.hid (got_none NW.out hlk)
                have hxe : hx1 = ⟨#[]⟩ := letters_inj (by rw [← hhx]; unfold lookD; rw [hlk]; rfl)
                subst hxe
                rw [hlk] at HA
                have G1 := Lib.hid (D.out.acts (HeldAt.framed _ _) (get_acts L1.out ea en WF.out (x := ⟨#[]⟩) GN.out rfl))
                clear hlk hhx
                go_wp2_with fail
                refine HA.out.mono ?_
                rintro e w4 ⟨rfl, rfl⟩
                go_wp2_with fail
                refine G1.out.mono ?_
                rintro e w5 ⟨rfl, h⟩
                have R5 := Lib.hid h
                clear h G1 HA
                go_wp2_with fail
                go_roundw
                case rel => exact ⟨j + 1, by omega, by go_num, s2.saw ⟨ea, false, en, []⟩, NW.out, by simp [St.saw]; have := SN.out; omega, R5.out.left⟩
                case measure => simp [intOf]; omega
              | some y =>
                have hy : y = hx1.data.toList := by rw [← hhx]; unfold lookD; rw [hlk]; rfl
                have GN := Lib.hid (got_some NW.out hlk)
                rw [hlk] at HA
                have G1 := Lib.hid (D.out.acts (HeldAt.framed _ _) (get_acts L1.out ea en WF.out (x := hx1) (by rw [GN.out, hy]) rfl))
                clear hlk hhx hy GN
                go_wp2_with fail
                refine HA.out.mono ?_
                rintro e w4 ⟨rfl, rfl⟩
                go_wp2_with fail
                refine G1.out.mono ?_
                rintro e w5 ⟨rfl, h⟩
                have R5 := Lib.hid h
                clear h G1 HA
                go_wp2_with fail
                go_roundw
                case rel => exact ⟨j + 1, by omega, by go_num, s2.saw ⟨ea, false, en, []⟩, NW.out, by simp [St.saw]; have := SN.out; omega, R5.out.left⟩
                case measure => simp [intOf]; omega
          · obtain rfl : j = len' := by omega
            go_wp2_with fail
            go_ret
            exact ⟨rfl, Q2.out.below⟩
end Go.Proofs.Yteclbfkeiejbeaa
