/-
  The walk of 'RelayAnswers': the call returns true and turns nothing that was there: for any ways, any events.
-/
import Derived.Test.YteclbfkeiejbeaaSees
namespace Go.Proofs.Yteclbfkeiejbeaa
open Go.RowKit Go.Maps

/-- All that is kept was put by one of the first k events. -/
def Was (f : Nat → EvB) (k : Nat) (x : Str) : Prop := ∃ j, j < k ∧ (f j).put = true ∧ (f j).value.data.toList = x
def Known (f : Nat → EvB) (k : Nat) (s : St) : Prop := (∀ x ∈ s.all, Was f k x) ∧ ∀ n x, look s.kept n = some x → Was f k x
theorem Was.next {f : Nat → EvB} {k : Nat} {x : Str} (h : Was f k x) : Was f (k + 1) x := let ⟨j, hj, r⟩ := h; ⟨j, by omega, r⟩
theorem Known.saw {f : Nat → EvB} {k : Nat} {s : St} (h : Known f k s) (e : Ev) : Known f (k + 1) (s.saw e) := ⟨fun x hx => (h.1 x hx).next, fun n x hx => (h.2 n x hx).next⟩
theorem Known.put {f : Nat → EvB} {k : Nat} {s : St} (h : Known f k s) (a n : Int) (v : Str) (hp : (f k).put = true) (hv : (f k).value.data.toList = v) : Known f (k + 1) (s.put a n v) := by
  unfold St.put
  split
  · exact h.saw _
  · refine ⟨fun x hx => ?_, fun m x hx => ?_⟩
    · rcases List.mem_append.1 hx with hx | hx
      · exact (h.1 x hx).next
      · simp at hx; subst hx; exact ⟨k, by omega, hp, hv⟩
    · simp only [look_upd] at hx
      split at hx
      · cases hx; exact ⟨k, by omega, hp, hv⟩
      · exact (h.2 m x hx).next
theorem got_known {f : Nat → EvB} {k : Nat} {s : St} (h : Known f k s) (n : Int) (hg : (s.got n).2 = 0) : ∃ y r, Was f k y ∧ (s.got n).1 = y.take r := by
  unfold St.got at hg ⊢
  split at hg
  · cases hg
  rename_i h4
  rw [if_neg h4]
  split at hg
  · rename_i h5
    rw [if_pos h5]
    have hlt : s.way / 8 % s.all.length < s.all.length := Nat.mod_lt _ (List.length_pos_iff.2 h5.2)
    refine ⟨s.all[s.way / 8 % s.all.length], (s.all[s.way / 8 % s.all.length]).length, h.1 _ (List.getElem_mem hlt), ?_⟩
    simp [List.getD, hlt]
  rename_i h5
  rw [if_neg h5]
  split at hg
  · cases hg
  rename_i h6
  rw [if_neg h6]
  obtain ⟨y, hy⟩ : ∃ y, look s.kept n = some y := by
    cases hl : look s.kept n with
    | some y => exact ⟨y, rfl⟩
    | none => exact absurd (.inr (.inr (by rw [hl]; rfl))) h6
  have e : lookD s.kept n = y := by unfold lookD; rw [hy]; rfl
  rw [e]
  split
  · exact ⟨y, _, h.2 n y hy, rfl⟩
  · exact ⟨y, y.length, h.2 n y hy, by simp⟩
theorem got_cases (s : St) (n : Int) : (s.got n).2 = 0 ∨ s.got n = ([], 3) ∨ s.got n = ([], 8) := by
  unfold St.got
  split
  · exact .inr (.inr rfl)
  split
  · exact .inl rfl
  split
  · exact .inr (.inl rfl)
  split <;> exact .inl rfl
theorem putErr_cases (s : St) : s.putErr = 0 ∨ s.putErr = 8 := by unfold St.putErr; split; exact .inr rfl; exact .inl rfl

/-- Is x a beginning of what event j put? -/
def good (f : Nat → EvB) (x : ByteArray) (j : Nat) : Bool := (f j).put && (decide ((x.size : Int) ≤ ((f j).value.size : Int)) && (((f j).value.extract 0 x.size).toList == x.toList))
def upto (g : Nat → Bool) : Nat → Bool
  | 0 => false
  | k + 1 => upto g k || g k
theorem upto_of {g : Nat → Bool} {j k : Nat} (h : j < k) (hg : g j = true) : upto g k = true := by
  induction k with
  | zero => omega
  | succ k ih =>
    unfold upto
    by_cases e : j = k
    · subst e; rw [hg, Bool.or_true]
    · rw [ih (by omega), Bool.true_or]
theorem good_of {f : Nat → EvB} {k r : Nat} {x : ByteArray} {y : Str} (h : Was f k y) (hx : x.data.toList = y.take r) : upto (good f x) k = true := by
  obtain ⟨j, hj, hp, hv⟩ := h
  refine upto_of hj ?_
  have hs : x.size = min r (f j).value.size := by
    have : x.data.toList.length = (y.take r).length := by rw [hx]
    rw [List.length_take, ← hv] at this
    simpa using this
  unfold good
  rw [hp, Bool.true_and, decide_eq_true (by omega), Bool.true_and, beq_iff_eq, ByteArray.toList_eq, ByteArray.toList_eq, hx, ← hv, hs]
  simp

set_option maxRecDepth 100000 in
set_option maxHeartbeats 4000000 in
theorem answers_walk (a0 : Option Addr) (len0 cap0 : Nat) (zs : List Int) (a : Option Addr) (len cap b off : Nat) (f : Nat → EvB) (w : World) (hz : Ways w a0 len0 cap0 zs) (h : Evs w a len cap b off f) :
    Calls Try.prog 4 #[.slice a0 len0 cap0, .slice a len cap] w fun e w' => e = .returned (.bool true) ∧ Below w.heap.size w w' := by
  have HZ := Lib.hid hz
  have H := Lib.hid h
  have hb := h.bound
  have hb0 : len0 ≤ 9223372036854775807 := hz.bound
  clear hz h
  go_enter Try.func4, Try.ntmps4
  go_wp2_with fail
  refine (small_any _).mono ?_; rintro e w1 ⟨rfl, b1⟩
  have B1 := Lib.hid b1
  clear b1
  go_wp2_with fail
  refine (few_any a len cap b off f _ (H.out.kept B1.out)).mono ?_; rintro e w' ⟨t, rfl, rfl, ht⟩
  have HT := Lib.hid ht
  clear ht
  go_wp2_with fail
  refine (new_ways (HZ.out.kept B1.out) B1.out B1.out.size).mono ?_
  rintro e w2 ⟨p, rfl, h⟩
  have P := Lib.hid h
  clear h
  cases t with
  | false =>
    go_wp2_with fail
    go_ret
    exact ⟨rfl, P.out.below⟩
  | true =>
    obtain ⟨hl, hs⟩ := HT.out rfl
    have HS := Lib.hid hs
    clear hs HT
    by_cases h200 : 200 < len0
    · go_wp2_with fail
      go_ret
      exact ⟨rfl, P.out.below⟩
    go_wp2_with fail
    go_loopw [8] (fun i wr => ∃ k : Nat, k ≤ len ∧ i = .int .i64 k ∧ ∃ s : St, s.seen.length = k ∧ Known f k s ∧ Own1 w.heap.size w wr (Rel p s)) (fun i _ => len - (intOf i).toNat)
    case atStart => exact ⟨0, Nat.zero_le _, rfl, _, rfl, ⟨fun x hx => (by cases hx), fun n x hx => (by simp [look] at hx)⟩, P.out⟩
    case round =>
      obtain ⟨k, hk, rfl, s, hseen, hkn, hP⟩ := hrel
      have Q := Lib.hid hP
      have LS := Lib.hid hseen
      have KN := Lib.hid hkn
      clear hP hseen hkn
      by_cases hlt : k < len
      · have hx : ∀ W, (Instr.indexAt 23 (.slice a len cap) (.int .i64 k)).run Try.prog W = .ok (.pointer (some ⟨b, off + k * 4, none⟩)) W := fun W => H.out.index W k hlt
        have He := Lib.hid (H.out.kept Q.out.below)
        have c0 := He.out.c0 k hlt
        have c1 := He.out.c1 k hlt
        have c2 := He.out.c2 k hlt
        have c3 := He.out.c3 k hlt
        have WF := Lib.hid (H.out.wf k hlt)
        have SZ := Lib.hid (HS.out k hlt)
        obtain ⟨ev, hev⟩ : ∃ ev, f k = ev := ⟨_, rfl⟩
        rw [hev] at c0 c1 c2 c3 WF SZ
        clear He
        obtain ⟨ea, ep, en, ex⟩ := ev
        have EV := Lib.hid hev
        clear hev
        simp only at c0 c1 c2 c3
        have hl2 : Hid (s.seen.length < 65536) := Lib.hid (by rw [LS.out]; omega)
        have Q' := Lib.hid (Q.out.more (Rel.framed _ _) ((Keeps.refl _ wr).alloc (.cells #[.int .i64 ea, .bool ep, .int .i64 en, .string ex] 34)))
        cases ep with
        | true =>
          rcases putErr_cases s with hd | hd
          all_goals
            have P1 := Lib.hid (put_own Q'.out hl2.out ea en WF.out ex (Nat.le_trans SZ.out (by decide)) hd rfl)
            clear hd
            go_wp2_with fail
            refine P1.out.mono ?_
            rintro e w3 ⟨rfl, h⟩
            have R := Lib.hid h
            clear h P1
            go_wp2_with fail
            go_roundw
            case rel => exact ⟨k + 1, by omega, by go_num, _, by rw [put_seen]; simp [LS.out], KN.out.put ea en ex.data.toList (by rw [EV.out]) (by rw [EV.out]), R.out⟩
            case measure => simp [intOf]; omega
        | false =>
          rcases got_cases s en with hd | hd | hd
          · obtain ⟨x, hxx⟩ : ∃ x : ByteArray, x.data.toList = (s.got en).1 := ⟨⟨(s.got en).1.toArray⟩, rfl⟩
            have G1 := Lib.hid (get_own Q'.out hl2.out ea en WF.out (x := x) (d := 0) (Prod.ext hxx.symm hd) rfl)
            have UP : Hid (upto (good f x) k = true) := Lib.hid (by
              obtain ⟨y, r, hw, he⟩ := got_known KN.out en hd
              exact good_of hw (hxx.trans he))
            clear hd hxx
            go_wp2_with fail
            refine G1.out.mono ?_
            rintro e w3 ⟨rfl, h⟩
            have R := Lib.hid h
            clear h G1 c0 c1 c2 c3
            have RB := Lib.hid (H.out.kept R.out.below)
            go_wp2_with fail
            go_loop [13, 14] (fun v i => ∃ j : Nat, j ≤ k ∧ i = .int .i64 j ∧ v = .bool (upto (good f x) j)) (fun _ i => k - (intOf i).toNat)
            case atStart => exact ⟨0, Nat.zero_le _, rfl, rfl⟩
            case round =>
              obtain ⟨j, hj, rfl, rfl⟩ := hrel
              by_cases hjk : j < k
              · have hxj : ∀ W, (Instr.indexAt 23 (.slice a len cap) (.int .i64 j)).run Try.prog W = .ok (.pointer (some ⟨b, off + j * 4, none⟩)) W := fun W => H.out.index W j (by omega)
                have d1 := RB.out.c1 j (by omega)
                have d3 := RB.out.c3 j (by omega)
                have fj := H.out.fits j (by omega)
                unfold maxLen at fj
                have NX : Hid (upto (good f x) (j + 1) = (upto (good f x) j || ((f j).put && (decide ((x.size : Int) ≤ ((f j).value.size : Int)) && (((f j).value.extract 0 x.size).toList == x.toList))))) := Lib.hid rfl
                obtain ⟨q, hq⟩ : ∃ q, upto (good f x) j = q := ⟨_, rfl⟩
                rw [hq] at NX ⊢
                generalize (f j).put = jp at *
                generalize (f j).value = jx at *
                clear hq
                cases q with
                | true =>
                  go_wp2_with fail
                  go_round
                  case rel => exact ⟨j + 1, by omega, by go_num, by rw [NX.out]; rfl⟩
                  case measure => simp [intOf]; omega
                | false =>
                  cases jp with
                  | false =>
                    go_wp2_with fail
                    go_round
                    case rel => exact ⟨j + 1, by omega, by go_num, by rw [NX.out]; rfl⟩
                    case measure => simp [intOf]; omega
                  | true =>
                    by_cases hsz : (x.size : Int) ≤ (jx.size : Int)
                    · rw [decide_eq_true hsz] at NX
                      obtain ⟨u, hu⟩ : ∃ u, ((jx.extract 0 x.size).toList == x.toList) = u := ⟨_, rfl⟩
                      rw [hu] at NX
                      cases u
                      all_goals
                        go_wp2_with fail
                        go_round
                        case rel => exact ⟨j + 1, by omega, by go_num, by rw [NX.out]; rfl⟩
                        case measure => simp [intOf]; omega
                    · rw [decide_eq_false hsz] at NX
                      go_wp2_with fail
                      go_round
                      case rel => exact ⟨j + 1, by omega, by go_num, by rw [NX.out]; rfl⟩
                      case measure => simp [intOf]; omega
              · obtain rfl : j = k := by omega
                rw [UP.out]
                go_wp2_with fail
                go_roundw
                case rel => exact ⟨j + 1, by omega, by go_num, _, by simp [St.saw, LS.out], KN.out.saw _, R.out⟩
                case measure => simp [intOf]; omega
          all_goals
            have G1 := Lib.hid (get_own Q'.out hl2.out ea en WF.out (x := ⟨#[]⟩) hd rfl)
            clear hd
            go_wp2_with fail
            refine G1.out.mono ?_
            rintro e w3 ⟨rfl, h⟩
            have R := Lib.hid h
            clear h G1 c0 c1 c2 c3
            go_wp2_with fail
            go_roundw
            case rel => exact ⟨k + 1, by omega, by go_num, _, by simp [St.saw, LS.out], KN.out.saw _, R.out⟩
            case measure => simp [intOf]; omega
      · obtain rfl : k = len := by omega
        have V1 := Lib.hid (view_own Q.out (by rw [LS.out]; omega))
        rw [LS.out] at V1
        go_wp2_with fail
        refine V1.out.mono ?_
        rintro e w3 ⟨v, rfl, h⟩
        obtain ⟨av, cv, hv⟩ : ∃ av cv, v = .slice av k cv := by obtain ⟨F, hr, _⟩ := h.right.it; exact row1_shape hr
        subst hv
        have O := Lib.hid h.below
        clear h V1
        go_wp2_with fail
        go_ret
        exact ⟨rfl, O.out⟩
end Go.Proofs.Yteclbfkeiejbeaa
