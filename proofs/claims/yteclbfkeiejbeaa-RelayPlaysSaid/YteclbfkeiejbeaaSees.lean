/-
  The walk of 'RelaySees': the call returns true and turns nothing that was there: for any ways, any events.
-/
import Derived.Test.YteclbfkeiejbeaaSmall
namespace Go.Proofs.Yteclbfkeiejbeaa
open Go.RowKit Go.Maps

/-- What is noted of an event. -/
def EvB.note (e : EvB) : Ev := if e.put then ⟨e.actor, true, e.name, e.value.data.toList⟩ else ⟨e.actor, false, e.name, []⟩
def notes (f : Nat → EvB) (k : Nat) : List Ev := (List.range k).map (fun j => (f j).note)
theorem notes_len (f : Nat → EvB) (k : Nat) : (notes f k).length = k := by simp [notes]
theorem notes_succ (f : Nat → EvB) (k : Nat) : notes f (k + 1) = notes f k ++ [(f k).note] := by simp [notes, List.range_succ]

theorem flat_at : ∀ (S : List Ev) (k : Nat) (hk : k < S.length) (i : Nat), i < 4 → (S.flatMap evCells)[k * 4 + i]? = (evCells S[k])[i]?
  | [], _, hk, _, _ => absurd hk (Nat.not_lt_zero _)
  | e :: S, 0, _, i, hi => by
    simp only [List.flatMap_cons, Nat.zero_mul, Nat.zero_add, List.getElem_cons_zero]
    exact List.getElem?_append_left (by simp [evCells]; omega)
  | e :: S, k + 1, hk, i, hi => by
    have h4 : (evCells e).length = 4 := rfl
    simp only [List.flatMap_cons, List.getElem_cons_succ]
    rw [List.getElem?_append_right (by rw [h4]; omega), h4, show (k + 1) * 4 + i - 4 = k * 4 + i by omega]
    exact flat_at S k (by simpa using hk) i hi
theorem notes_at (f : Nat → EvB) {n k : Nat} (hk : k < n) (i : Nat) (hi : i < 4) : ((notes f n).flatMap evCells)[k * 4 + i]? = (evCells (f k).note)[i]? := by
  rw [flat_at (notes f n) k (by rw [notes_len]; exact hk) i hi]
  simp [notes]

theorem put_seen (s : St) (a n : Int) (v : Str) : (s.put a n v).seen = s.seen ++ [⟨a, true, n, v⟩] := by
  unfold St.put; split <;> rfl

/-- An empty string, as it lies in memory. -/
theorem str_nil : str [] = .string ⟨#[]⟩ := rfl

/-- The ways that came in. -/
structure Ways (w : World) (a : Option Addr) (len cap : Nat) (zs : List Int) : Prop where
  src : Src w a len cap 1 (zs.map (.int .i64))
  fits : ∀ z ∈ zs, z ≤ 9223372036854775807
  reach : len * 8 ≤ 140737488355328
  bound : len ≤ maxLen
theorem Ways.kept {w w' : World} {a : Option Addr} {len cap : Nat} {zs : List Int} (h : Ways w a len cap zs) (hb : Below w.heap.size w w') : Ways w' a len cap zs :=
  ⟨⟨h.src.length, h.src.none, (fun ad e j u hu => (hb.cell (World.block_lt_of_cell? w _ (h.src.cells ad e j u hu))).trans (h.src.cells ad e j u hu)), h.src.one⟩, h.fits, h.reach, h.bound⟩
theorem new_ways {B : Nat} {w0 w : World} {a : Option Addr} {len cap : Nat} {zs : List Int} (h : Ways w a len cap zs) (hw : Below B w0 w) (hB : B ≤ w.heap.size) :
    Calls Try.prog 10 #[.slice a len cap] w fun e w' => ∃ p, e = .returned (.pointer (some ⟨p, 0, none⟩)) ∧ Own1 B w0 w' (Rel p ⟨[], [], [], zs⟩) := new_own h.src h.bound h.reach h.fits hw hB

set_option maxRecDepth 100000 in
set_option maxHeartbeats 4000000 in
theorem sees_walk (a0 : Option Addr) (len0 cap0 : Nat) (zs : List Int) (a : Option Addr) (len cap b off : Nat) (f : Nat → EvB) (w : World) (hz : Ways w a0 len0 cap0 zs) (h : Evs w a len cap b off f) :
    Calls Try.prog 6 #[.slice a0 len0 cap0, .slice a len cap] w fun e w' => e = .returned (.bool true) ∧ Below w.heap.size w w' := by
  have HZ := Lib.hid hz
  have H := Lib.hid h
  have hb := h.bound
  have hb0 : len0 ≤ 9223372036854775807 := hz.bound
  clear hz h
  go_enter Try.func6, Try.ntmps6
  go_wp2_with fail
  refine (small_any _).mono ?_; rintro e w1 ⟨rfl, b1⟩
  have B1 := Lib.hid b1
  clear b1
  go_wp2_with fail
  refine (few_any a len cap b off f _ (H.out.kept B1.out)).mono ?_; rintro e w' ⟨t, rfl, rfl, ht⟩
  have HT := Lib.hid ht
  clear ht
  go_wp2_with fail
  refine (new_ways (HZ.out.kept B1.out) B1.out B1.out.size).mono ?_
  rintro e w2 ⟨p, rfl, h⟩
  have P := Lib.hid h
  clear h
  cases t with
  | false =>
    go_wp2_with fail
    go_ret
    exact ⟨rfl, P.out.below⟩
  | true =>
    obtain ⟨hl, hs⟩ := HT.out rfl
    have HS := Lib.hid hs
    clear hs HT
    by_cases h200 : 200 < len0
    · go_wp2_with fail
      go_ret
      exact ⟨rfl, P.out.below⟩
    go_wp2_with fail
    go_loopw [8] (fun i wr => ∃ k : Nat, k ≤ len ∧ i = .int .i64 k ∧ ∃ s : St, s.seen = notes f k ∧ Own1 w.heap.size w wr (Rel p s)) (fun i _ => len - (intOf i).toNat)
    case atStart => exact ⟨0, Nat.zero_le _, rfl, _, rfl, P.out⟩
    case round =>
      obtain ⟨k, hk, rfl, s, hseen, hP⟩ := hrel
      have Q := Lib.hid hP
      have LS : Hid (s.seen.length = k) := Lib.hid (by rw [hseen, notes_len])
      have SN := Lib.hid hseen
      clear hP hseen
      by_cases hlt : k < len
      · have hx : ∀ W, (Instr.indexAt 23 (.slice a len cap) (.int .i64 k)).run Try.prog W = .ok (.pointer (some ⟨b, off + k * 4, none⟩)) W := fun W => H.out.index W k hlt
        have He := Lib.hid (H.out.kept Q.out.below)
        have c0 := He.out.c0 k hlt
        have c1 := He.out.c1 k hlt
        have c2 := He.out.c2 k hlt
        have c3 := He.out.c3 k hlt
        have WF := Lib.hid (H.out.wf k hlt)
        have SZ := Lib.hid (HS.out k hlt)
        have NS := Lib.hid (notes_succ f k)
        have NE : Hid ((f k).note = if (f k).put then ⟨(f k).actor, true, (f k).name, (f k).value.data.toList⟩ else ⟨(f k).actor, false, (f k).name, []⟩) := Lib.hid rfl
        obtain ⟨ev, hev⟩ : ∃ ev, f k = ev := ⟨_, rfl⟩
        rw [hev] at c0 c1 c2 c3 WF SZ NS NE
        clear He
        obtain ⟨ea, ep, en, ex⟩ := ev
        have EV := Lib.hid hev
        clear hev
        simp only at c0 c1 c2 c3
        have hl2 : Hid (s.seen.length < 65536) := Lib.hid (by rw [LS.out]; omega)
        cases ep with
        | true =>
          go_wp2_with fail
          go_still_tail 16, (by kernel_rfl)
          have Q' := Q.out.more (Rel.framed _ _) (Keeps.drewN (fun _ => False) wr 1)
          go_wp2_with fail
          refine (put_own Q' hl2.out ea en WF.out ex (Nat.le_trans SZ.out (by decide)) rfl rfl).mono ?_
          rintro e w3 ⟨rfl, h⟩
          have R := Lib.hid h
          have SE : Hid ((s.put ea en ex.data.toList).seen = notes f (k + 1)) := Lib.hid (by rw [put_seen, SN.out, NS.out, NE.out]; rfl)
          clear Q' c0 c1 c2 c3 hl2
          have c2 := (H.out.kept h.below).c2 k hlt
          rw [EV.out] at c2
          clear h
          obtain ⟨s', hs'⟩ : ∃ s', s' = s.put ea en ex.data.toList := ⟨_, rfl⟩
          rw [← hs'] at R SE
          generalize s.putErr = pe
          clear hs'
          go_wp2_with fail
          refine (has_at R.out.it en WF.out).mono ?_
          rintro e w4 ⟨rfl, rfl⟩
          generalize str (lookD s'.kept en) = v1
          generalize (look s'.kept en).isSome = v2
          go_wp2_with fail
          go_roundw
          case rel => exact ⟨k + 1, by omega, by go_num, s', SE.out, R.out⟩
          case measure => simp [intOf]; omega
        | false =>
          go_wp2_with fail
          go_still_tail 11, (by kernel_rfl)
          have Q' := Q.out.more (Rel.framed _ _) (Keeps.drewN (fun _ => False) wr 1)
          go_wp2_with fail
          refine (get_own Q' hl2.out ea en WF.out (x := ⟨(s.got en).1.toArray⟩) (d := (s.got en).2) rfl rfl).mono ?_
          rintro e w3 ⟨rfl, h⟩
          have R := Lib.hid h
          have SE : Hid ((s.saw ⟨ea, false, en, []⟩).seen = notes f (k + 1)) := Lib.hid (by show s.seen ++ _ = _; rw [SN.out, NS.out, NE.out]; rfl)
          clear Q' c0 c1 c2 c3 hl2
          have c2 := (H.out.kept h.below).c2 k hlt
          rw [EV.out] at c2
          clear h
          obtain ⟨s', hs'⟩ : ∃ s', s' = s.saw ⟨ea, false, en, []⟩ := ⟨_, rfl⟩
          rw [← hs'] at R SE
          generalize (⟨(s.got en).1.toArray⟩ : ByteArray) = gx
          generalize (s.got en).2 = gd
          clear hs'
          go_wp2_with fail
          refine (has_at R.out.it en WF.out).mono ?_
          rintro e w4 ⟨rfl, rfl⟩
          generalize str (lookD s'.kept en) = v1
          generalize (look s'.kept en).isSome = v2
          go_wp2_with fail
          go_roundw
          case rel => exact ⟨k + 1, by omega, by go_num, s', SE.out, R.out⟩
          case measure => simp [intOf]; omega
      · obtain rfl : k = len := by omega
        go_wp2_with fail
        refine (view_own Q.out (by rw [LS.out]; omega)).mono ?_
        rintro e w3 ⟨v, rfl, h⟩
        rw [LS.out, SN.out] at h
        have O := Lib.hid h.right
        obtain ⟨av, cv, hv⟩ : ∃ av cv, v = .slice av k cv := by obtain ⟨F, hr, _⟩ := h.right.it; exact row1_shape hr
        subst hv
        clear h
        go_wp2_with fail
        go_loopw [10] (fun i wr => ∃ j : Nat, j ≤ k ∧ i = .int .i64 j ∧ Own1 w.heap.size w wr (RowOf 34 4 (.slice av k cv) k ((notes f k).flatMap evCells))) (fun i _ => k - (intOf i).toNat)
        case atStart => exact ⟨0, Nat.zero_le _, rfl, O.out⟩
        case round =>
          obtain ⟨j, hj, rfl, hO⟩ := hrel
          have Q2 := Lib.hid hO
          clear hO
          by_cases hlt : j < k
          · have hx : ∀ W, (Instr.indexAt 23 (.slice a k cap) (.int .i64 j)).run Try.prog W = .ok (.pointer (some ⟨b, off + j * 4, none⟩)) W := fun W => H.out.index W j hlt
            have He := Lib.hid (H.out.kept Q2.out.below)
            have c0 := He.out.c0 j hlt
            have c1 := He.out.c1 j hlt
            have c2 := He.out.c2 j hlt
            have c3 := He.out.c3 j hlt
            obtain ⟨F, hr, -⟩ := Q2.out.it
            obtain ⟨g, rfl⟩ : ∃ g, av = some ⟨g, 0, none⟩ := by
              rcases hr.2 with ⟨e, _⟩ | ⟨g, cap, _, e, _⟩
              · cases e; omega
              · simp only [Value.slice.injEq] at e; exact ⟨g, e.1⟩
            have hg : g < wr.heap.size := (hr.lt g rfl).2
            have hgn : ¬ g = wr.heap.size := by omega
            have d0 := hr.cellAt (j * 4) (by omega)
            have d1 := hr.cellAt (j * 4 + 1) (by omega)
            have d2 := hr.cellAt (j * 4 + 2) (by omega)
            have d3 := hr.cellAt (j * 4 + 3) (by omega)
            have n0 := notes_at f hlt 0 (by decide)
            rw [Nat.add_zero] at n0
            rw [n0] at d0
            rw [notes_at f hlt 1 (by decide)] at d1
            rw [notes_at f hlt 2 (by decide)] at d2
            rw [notes_at f hlt 3 (by decide)] at d3
            have hcv : k ≤ 9223372036854775807 := by omega
            obtain ⟨ev, hev⟩ : ∃ ev, f j = ev := ⟨_, rfl⟩
            rw [hev] at c0 c1 c2 c3 d0 d1 d2 d3
            clear hev He n0 hr
            obtain ⟨ea, ep, en, ex⟩ := ev
            simp only at c0 c1 c2 c3
            cases ep with
            | true =>
              simp only [EvB.note, evCells, ← str_of, if_true] at d0 d1 d2 d3
              simp at d0 d1 d2 d3
              go_wp2_with fail
              go_quiet (fail)
              go_wp2_with fail
              go_roundw
              case rel => exact ⟨j + 1, by omega, by go_num, Q2.out.more (RowOf.framed _ _ _ _ _) (((Keeps.refl _ wr).alloc _).trans (Keeps.drewN (fun _ => False) _ nq) (fun _ _ h => h))⟩
              case measure => simp [intOf]; omega
            | false =>
              have hnote : (EvB.note ⟨ea, false, en, ex⟩) = ⟨ea, false, en, []⟩ := rfl
              simp only [hnote, evCells, str_nil] at d0 d1 d2 d3
              simp at d0 d1 d2 d3
              clear hnote
              go_wp2_with fail
              go_quiet (fail)
              go_wp2_with fail
              go_roundw
              case rel => exact ⟨j + 1, by omega, by go_num, Q2.out.more (RowOf.framed _ _ _ _ _) (((Keeps.refl _ wr).alloc _).trans (Keeps.drewN (fun _ => False) _ nq) (fun _ _ h => h))⟩
              case measure => simp [intOf]; omega
          · obtain rfl : j = k := by omega
            go_wp2_with fail
            go_ret
            exact ⟨rfl, Q2.out.below⟩
end Go.Proofs.Yteclbfkeiejbeaa
