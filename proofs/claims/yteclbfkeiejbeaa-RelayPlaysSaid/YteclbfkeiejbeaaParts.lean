/-
  The walk of 'RelayParts': the call returns true and turns nothing that was there: for any ways, any events, whoever asks.
-/
import Derived.Test.YteclbfkeiejbeaaFair
import Derived.Deep.RegionHeld3
namespace Go.Proofs.Yteclbfkeiejbeaa
open Go.RowKit Go.Maps

/-- Two objects as one. -/
def Pair (O O' : World → (Nat → Prop) → Prop) (w : World) (F : Nat → Prop) : Prop := ∃ G H, O w G ∧ O' w H ∧ (∀ b, F b ↔ G b ∨ H b) ∧ ∀ b, G b → ¬ H b
section
variable {P : Program} {f : FuncId} {args : Array Value} {B : Nat} {w0 w : World} {R : Ending → Prop} {O O' O1 O2 : World → (Nat → Prop) → Prop}
theorem Pair.framed (fr : Framed O) (fr' : Framed O') : Framed (Pair O O') where
  lt := by
    rintro w F ⟨G, H, h1, h2, hF, _⟩ b hb
    rcases (hF b).1 hb with hb | hb
    · exact fr.lt _ _ h1 b hb
    · exact fr'.lt _ _ h2 b hb
  kept := by
    rintro w w' F G0 ⟨G, H, h1, h2, hF, hd⟩ hk hn
    exact ⟨G, H, fr.kept _ _ _ _ h1 hk (fun b hb => hn b ((hF b).2 (.inl hb))), fr'.kept _ _ _ _ h2 hk (fun b hb => hn b ((hF b).2 (.inr hb))), hF, hd⟩
theorem Pair.acts1 (fr' : Framed O') (h : Acts P f args w O R O1) : Acts P f args w (Pair O O') R (Pair O1 O') := by
  rintro F ⟨G, H, h1, h2, hF, hd⟩
  refine (h G h1).mono ?_
  rintro e w' ⟨hr, G', h1', hk, hG'⟩
  refine ⟨hr, fun b => G' b ∨ H b, ⟨G', H, h1', fr'.kept _ _ _ _ h2 hk (fun b hb hg => hd b hg hb), fun _ => Iff.rfl, fun b hb hb' => ?_⟩, hk.mono (fun b _ hb => (hF b).2 (.inl hb)), fun b hb => ?_⟩
  · rcases hG' b hb with h3 | h3
    · exact hd b h3 hb'
    · have := fr'.lt _ _ h2 b hb'; omega
  · rcases hb with hb | hb
    · exact (hG' b hb).imp (fun h => (hF b).2 (.inl h)) id
    · exact .inl ((hF b).2 (.inr hb))
theorem Pair.acts2 (fr : Framed O) (h : Acts P f args w O' R O2) : Acts P f args w (Pair O O') R (Pair O O2) := by
  rintro F ⟨G, H, h1, h2, hF, hd⟩
  refine (h H h2).mono ?_
  rintro e w' ⟨hr, H', h2', hk, hH'⟩
  refine ⟨hr, fun b => G b ∨ H' b, ⟨G, H', fr.kept _ _ _ _ h1 hk (fun b hb hg => hd b hb hg), h2', fun _ => Iff.rfl, fun b hb hb' => ?_⟩, hk.mono (fun b _ hb => (hF b).2 (.inr hb)), fun b hb => ?_⟩
  · rcases hH' b hb' with h3 | h3
    · exact hd b hb h3
    · have := fr.lt _ _ h1 b hb; omega
  · rcases hb with hb | hb
    · exact .inl ((hF b).2 (.inl hb))
    · exact (hH' b hb).imp (fun h => (hF b).2 (.inr h)) id
theorem Own2.pair (h : Own2 B w0 w O O') : Own1 B w0 w (Pair O O') := by
  obtain ⟨hb, hB, F, G, h1, h2, hf, hg, hd⟩ := h
  exact ⟨hb, hB, fun b => F b ∨ G b, ⟨F, G, h1, h2, fun _ => Iff.rfl, hd⟩, fun b hb => hb.elim (hf b) (hg b)⟩
theorem Own1.split (h : Own1 B w0 w (Pair O O')) : Own2 B w0 w O O' := by
  obtain ⟨hb, hB, F, ⟨G, H, h1, h2, hF, hd⟩, hf⟩ := h
  exact ⟨hb, hB, G, H, h1, h2, fun b hb => hf b ((hF b).2 (.inl hb)), fun b hb => hf b ((hF b).2 (.inr hb)), hd⟩
end

/-- Two relays that answer alike. -/
structure Alike (s s' : St) : Prop where
  kept : s.kept = s'.kept
  all : s.all = s'.all
  ways : s.ways = s'.ways
  seen : s.seen.length = s'.seen.length
theorem Alike.way {s s' : St} (h : Alike s s') : s.way = s'.way := by unfold St.way; rw [h.ways, h.seen]
theorem Alike.putErr {s s' : St} (h : Alike s s') : s.putErr = s'.putErr := by unfold St.putErr; rw [h.way]
theorem Alike.got {s s' : St} (h : Alike s s') (n : Int) : s.got n = s'.got n := by unfold St.got; rw [h.way, h.all, h.kept]
theorem Alike.saw {s s' : St} (h : Alike s s') (e e' : Ev) : Alike (s.saw e) (s'.saw e') := ⟨h.kept, h.all, h.ways, by simp [St.saw, h.seen]⟩
theorem Alike.put {s s' : St} (h : Alike s s') (a a' n : Int) (v : Str) : Alike (s.put a n v) (s'.put a' n v) := by
  unfold St.put
  rw [h.way]
  split
  · exact h.saw _ _
  · exact ⟨by show upd s.kept n v = upd s'.kept n v; rw [h.kept], by show s.all ++ [v] = s'.all ++ [v]; rw [h.all], h.ways, by simp [St.saw, h.seen]⟩

theorem new_ways2 {B : Nat} {w0 w : World} {O : World → (Nat → Prop) → Prop} {a : Option Addr} {len cap : Nat} {zs : List Int} (fr : Framed O) (h : Ways w a len cap zs) (ho : Own1 B w0 w O) :
    Calls Try.prog 10 #[.slice a len cap] w fun e w' => ∃ p, e = .returned (.pointer (some ⟨p, 0, none⟩)) ∧ Own2 B w0 w' O (Rel p ⟨[], [], [], zs⟩) := by
  refine (new_at a len cap zs w h.src h.bound h.reach h.fits).mono ?_
  rintro e w' ⟨p, he, G, hr, hk, hg⟩
  obtain ⟨hb, hB, F, hF, hf⟩ := ho
  refine ⟨p, he, hb.trans (hk.below hB (fun _ h => h.elim)), Nat.le_trans hB hk.size, F, G, fr.kept _ _ _ _ hF hk (fun _ _ h => h), hr, hf, fun b hb => Nat.le_trans hB (hg b hb), fun b hb hb' => ?_⟩
  have := fr.lt _ _ hF b hb
  have := hg b hb'
  omega

set_option maxRecDepth 100000 in
set_option maxHeartbeats 4000000 in
theorem parts_walk (a0 : Option Addr) (len0 cap0 : Nat) (zs : List Int) (a : Option Addr) (len cap b off : Nat) (f : Nat → EvB) (who : Int) (w : World) (hz : Ways w a0 len0 cap0 zs) (h : Evs w a len cap b off f) :
    Calls Try.prog 7 #[.slice a0 len0 cap0, .slice a len cap, .int .i64 who] w fun e w' => e = .returned (.bool true) ∧ Below w.heap.size w w' := by
  have HZ := Lib.hid hz
  have H := Lib.hid h
  have hb := h.bound
  have hb0 : len0 ≤ 9223372036854775807 := hz.bound
  clear hz h
  go_enter Try.func7, Try.ntmps7
  go_wp2_with fail
  refine (small_any _).mono ?_; rintro e w1 ⟨rfl, b1⟩
  have B1 := Lib.hid b1
  clear b1
  go_wp2_with fail
  refine (few_any a len cap b off f _ (H.out.kept B1.out)).mono ?_; rintro e w' ⟨t, rfl, rfl, ht⟩
  have HT := Lib.hid ht
  clear ht
  go_wp2_with fail
  refine (new_ways (HZ.out.kept B1.out) B1.out B1.out.size).mono ?_
  rintro e w2 ⟨p, rfl, h⟩
  have P := Lib.hid h
  clear h
  go_wp2_with fail
  refine (new_ways2 (Rel.framed _ _) (HZ.out.kept P.out.below) P.out).mono ?_
  rintro e w3 ⟨q, rfl, h⟩
  have PQ := Lib.hid h
  clear h P
  cases t with
  | false =>
    go_wp2_with fail
    go_ret
    exact ⟨rfl, PQ.out.below⟩
  | true =>
    obtain ⟨hl, hs⟩ := HT.out rfl
    have HS := Lib.hid hs
    clear hs HT
    by_cases h200 : 200 < len0
    · go_wp2_with fail
      go_ret
      exact ⟨rfl, PQ.out.below⟩
    go_wp2_with fail
    go_loopw [11] (fun i wr => ∃ k : Nat, k ≤ len ∧ i = .int .i64 k ∧ ∃ s s' : St, Alike s s' ∧ s.seen.length = k ∧ Own2 w.heap.size w wr (Rel p s) (Rel q s')) (fun i _ => len - (intOf i).toNat)
    case atStart => exact ⟨0, Nat.zero_le _, rfl, _, _, ⟨rfl, rfl, rfl, rfl⟩, rfl, PQ.out⟩
    case round =>
      obtain ⟨k, hk, rfl, s, s', hal, hseen, hP⟩ := hrel
      have Q := Lib.hid hP
      have LS := Lib.hid hseen
      have AL := Lib.hid hal
      clear hP hseen hal
      by_cases hlt : k < len
      · have hx : ∀ W, (Instr.indexAt 23 (.slice a len cap) (.int .i64 k)).run Try.prog W = .ok (.pointer (some ⟨b, off + k * 4, none⟩)) W := fun W => H.out.index W k hlt
        have He := Lib.hid (H.out.kept Q.out.below)
        have c0 := He.out.c0 k hlt
        have c1 := He.out.c1 k hlt
        have c2 := He.out.c2 k hlt
        have c3 := He.out.c3 k hlt
        have WF := Lib.hid (H.out.wf k hlt)
        have SZ := Lib.hid (HS.out k hlt)
        obtain ⟨ev, hev⟩ : ∃ ev, f k = ev := ⟨_, rfl⟩
        rw [hev] at c0 c1 c2 c3 WF SZ
        clear He hev
        obtain ⟨ea, ep, en, ex⟩ := ev
        simp only at c0 c1 c2 c3
        have L1 : Hid (s.seen.length < 65536) := Lib.hid (by rw [LS.out]; omega)
        have L2 : Hid (s'.seen.length < 65536) := Lib.hid (by rw [← AL.out.seen, LS.out]; omega)
        have D := Lib.hid (Q.out.pair.hold (Pair.framed (Rel.framed _ _) (Rel.framed _ _)) (.cells #[.int .i64 ea, .bool ep, .int .i64 en, .string ex] 34))
        cases ep with
        | true =>
          obtain ⟨pe, hpe⟩ : ∃ pe, s.putErr = pe := ⟨_, rfl⟩
          have D1 := Lib.hid (D.out.more (Pair.framed (Rel.framed _ _) (Rel.framed _ _)) (HeldAt.framed _ _) (Keeps.drewN (fun _ => False) _ 1))
          have P1 := Lib.hid (D1.out.acts (HeldAt.framed _ _) (Pair.acts1 (Rel.framed q s') (put_acts L1.out ea en WF.out ex (Nat.le_trans SZ.out (by decide)) hpe rfl)))
          have P2 : Hid (∀ w5, Own2 w.heap.size w w5 (Pair (Rel p (s.put ea en ex.data.toList)) (Rel q s')) (HeldAt wr.heap.size (.cells #[.int .i64 ea, .bool true, .int .i64 en, .string ex] 34)) →
              Calls Try.prog 12 #[.pointer (some ⟨q, 0, none⟩), .int .i64 who, .int .i64 en, .string ex] w5 fun e w' => e = .returned (.int .i64 pe) ∧ Own2 w.heap.size w w' (Pair (Rel p (s.put ea en ex.data.toList)) (Rel q (s'.put who en ex.data.toList))) (HeldAt wr.heap.size (.cells #[.int .i64 ea, .bool true, .int .i64 en, .string ex] 34))) :=
            Lib.hid (fun w5 h5 => h5.acts (HeldAt.framed _ _) (Pair.acts2 (Rel.framed p _) (put_acts L2.out who en WF.out ex (Nat.le_trans SZ.out (by decide)) (AL.out.putErr.symm.trans hpe) rfl)))
          obtain ⟨d0, d1, d2, d3⟩ := held_cells D1.out.it2
          have SN : Hid ((s.put ea en ex.data.toList).seen.length = k + 1) := Lib.hid (by rw [put_seen]; simp [LS.out])
          have A2 := Lib.hid (AL.out.put ea who en ex.data.toList)
          clear hpe
          go_wp2_with fail
          go_region_held3 (fun w' => w'.cell? ⟨wr.heap.size, 0, none⟩ = some (.int .i64 ea) ∧ w'.cell? ⟨wr.heap.size, 2, none⟩ = some (.int .i64 en) ∧ w'.cell? ⟨wr.heap.size, 3, none⟩ = some (.string ex))
            (exact ⟨by assumption, by assumption, by assumption⟩)
            (first
              | (go_at_call_of 12 (Value.pointer (some ⟨p, 0, none⟩)); refine P1.out.mono ?_; rintro e w5 ⟨rfl, h5⟩; have R5 := Lib.hid h5; obtain ⟨e0, e1, e2, e3⟩ := held_cells h5.it2; clear h5)
              | (go_at_call_of 12 (Value.pointer (some ⟨q, 0, none⟩)); refine (P2.out _ (Hid.out (by assumption))).mono ?_; rintro e w6 ⟨rfl, h6⟩; have R6 := Lib.hid h6; obtain ⟨g0, g1, g2, g3⟩ := held_cells h6.it2; clear h6)
              | fail)
          have R7 := Lib.hid (Own1.split (Own2.left (Hid.out (by assumption : Hid (Own2 w.heap.size w _ (Pair (Rel p (s.put ea en ex.data.toList)) (Rel q (s'.put who en ex.data.toList))) _)))))
          clear P1 P2 D1 D
          go_wp2_with fail
          go_roundw
          case rel => exact ⟨k + 1, by omega, by go_num, _, _, A2.out, SN.out, R7.out⟩
          case measure => simp [intOf]; omega
        | false =>
          obtain ⟨gx, hgx⟩ : ∃ x : ByteArray, x.data.toList = (s.got en).1 := ⟨⟨(s.got en).1.toArray⟩, rfl⟩
          obtain ⟨gd, hgd⟩ : ∃ d, d = (s.got en).2 := ⟨_, rfl⟩
          have hg : s.got en = (gx.data.toList, gd) := Prod.ext hgx.symm hgd.symm
          have G1 := Lib.hid (D.out.acts (HeldAt.framed _ _) (Pair.acts1 (Rel.framed q s') (get_acts L1.out ea en WF.out hg rfl)))
          have HG := Lib.hid ((AL.out.got en).symm.trans hg)
          have A2 := Lib.hid (AL.out.saw ⟨ea, false, en, []⟩ ⟨who, false, en, []⟩)
          have SN : Hid ((s.saw ⟨ea, false, en, []⟩).seen.length = k + 1) := Lib.hid (by simp [St.saw, LS.out])
          clear hgx hgd hg
          go_wp2_with fail
          refine G1.out.mono ?_
          rintro e w5 ⟨rfl, h5⟩
          have R5 := Lib.hid h5
          obtain ⟨e0, e1, e2, e3⟩ := held_cells h5.it2
          clear h5 G1
          go_wp2_with fail
          refine (R5.out.acts (HeldAt.framed _ _) (Pair.acts2 (Rel.framed p _) (get_acts L2.out who en WF.out HG.out rfl))).mono ?_
          rintro e w6 ⟨rfl, h6⟩
          have R6 := Lib.hid h6.left.split
          clear h6 e0 e1 e2 e3
          go_wp2_with fail
          go_roundw
          case rel => exact ⟨k + 1, by omega, by go_num, _, _, A2.out, SN.out, R6.out⟩
          case measure => simp [intOf]; omega
      · obtain rfl : k = len := by omega
        go_wp2_with fail
        go_ret
        exact ⟨rfl, Q.out.below⟩
end Go.Proofs.Yteclbfkeiejbeaa
