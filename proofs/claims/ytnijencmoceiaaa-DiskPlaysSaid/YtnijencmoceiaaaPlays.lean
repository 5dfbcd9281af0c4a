/-
  The walk of 'DiskPlays': the call returns true and turns nothing that was there: for any room, any steps.
-/
import Derived.Test.YtnijencmoceiaaaRefBack
import Derived.Deep.CutRange
import Derived.Deep.CutBlock
namespace Go.Proofs.Ytnijencmoceiaaa
set_option linter.unusedSimpArgs false
set_option linter.unusedVariables false
open Go.RowKit Go.Maps

/-- One step, of all kinds. -/
def St.play (s : St) (x : StpB) : St :=
  if kindOf x.which = 0 ∨ kindOf x.which = 6 ∨ kindOf x.which = 7 then s.write x.a.data.toList x.b.data.toList
  else if kindOf x.which = 1 then s.asked x.a.data.toList (.rn x.a.data.toList x.b.data.toList)
  else if kindOf x.which = 2 then s.asked x.a.data.toList (.rm x.a.data.toList)
  else if kindOf x.which = 3 then s.sync
  else if kindOf x.which = 4 then { s with armed := x.nl } else s.restart x.z
theorem fits_restart {s : St} {n : Nat} (h : Fits s n) (hl : ∀ k, (redo s.kept s.waits k s.waits.length).length ≤ s.kept.length + s.waits.length) (z : Nat → Int) : Fits (s.restart z) n := by
  have h1 := hl z
  have h2 := h.both
  exact ⟨by show (redo s.kept s.waits z s.waits.length).length ≤ n; omega, by show (redo s.kept s.waits z s.waits.length).length ≤ n; omega, Nat.zero_le _, by show (redo s.kept s.waits z s.waits.length).length + 0 ≤ n; omega⟩
theorem len_redo1 (K : Files) (x : Deed) (n : Int) : (redo1 K x n).length ≤ K.length + 1 := by
  unfold redo1
  split
  · exact len_run _ _
  · omega
theorem len_redo (K : Files) (ws : List Deed) (z : Nat → Int) : ∀ k, (redo K ws z k).length ≤ K.length + k
  | 0 => by simp [redo]
  | k + 1 => by
    have ih := len_redo K ws z k
    cases h : ws[k]? with
    | some x => rw [redo_succ h]; have := len_redo1 (redo K ws z k) x (z k); omega
    | none =>
      have e : redo K ws z (k + 1) = redo K ws z k := by
        show (match ws[k]? with | some x => redo1 (redo K ws z k) x (z k) | none => redo K ws z k) = _
        rw [h]
      rw [e]; omega
theorem fits_play {s : St} {n : Nat} (h : Fits s n) (x : StpB) : Fits (s.play x) (n + 1) := by
  unfold St.play
  split
  · exact fits_write h _ _
  · split
    · exact fits_asked h _ _
    · split
      · exact fits_asked h _ _
      · split
        · exact (fits_sync h).mono (by omega)
        · split
          · exact (show Fits { s with armed := x.nl } n from ⟨h.kept, h.there, h.waits, h.both⟩).mono (by omega)
          · exact (fits_restart h (fun k => len_redo _ _ k _) _).mono (by omega)

/-- A block of the call's own, known whole. -/
def BoxOf (g : Nat) (o : Go.Obj) (w : World) (F : Nat → Prop) : Prop := w.heap[g]? = some o ∧ ∀ b, F b ↔ b = g
theorem BoxOf.framed (g : Nat) (o : Go.Obj) : Framed (BoxOf g o) :=
  ⟨fun _ _ h b hb => by rw [(h.2 b).1 hb]; exact (Array.getElem?_eq_some_iff.1 h.1).1,
    fun _ _ _ _ h hk hd => ⟨(hk.block g (Array.getElem?_eq_some_iff.1 h.1).1 (hd g ((h.2 g).2 rfl))).trans h.1, h.2⟩⟩
theorem BoxOf.cell {g : Nat} {cs : Array Value} {t : TypeId} {w : World} (h : ∃ F, BoxOf g (.cells cs t) w F) {i : Nat} {v : Value} (hv : cs[i]? = some v) : w.cell? ⟨g, i, none⟩ = some v := by
  obtain ⟨F, h, -⟩ := h
  simp [World.cell?, h, hv]

section
variable {B p : Nat} {w0 w : World} {s : St}
theorem rwrite_acts (hf : Fits s 65535) (a d : ByteArray) (ha : a.size ≤ 65535) (hd : d.size ≤ 65535) {k : Int} (hk : s.writeErr a.data.toList d.data.toList = k) {s' : St} (hs : s.write a.data.toList d.data.toList = s') :
    Acts Try.prog 14 #[.pointer (some ⟨p, 0, none⟩), .string a, .string d] w (RDk p s) (fun e => e = .returned (.int .i64 k)) (RDk p s') := by
  subst hk hs
  exact fun F hF => rwrite_at hF hf a d ha hd
theorem rrename_acts (hf : Fits s 65535) (a b : ByteArray) (ha : a.size ≤ 65535) (hb : b.size ≤ 65535) {k : Int} (hk : s.askErr a.data.toList = k) {s' : St} (hs : s.asked a.data.toList (.rn a.data.toList b.data.toList) = s') :
    Acts Try.prog 16 #[.pointer (some ⟨p, 0, none⟩), .string a, .string b] w (RDk p s) (fun e => e = .returned (.int .i64 k)) (RDk p s') := by
  subst hk hs
  exact fun F hF => rrename_at hF hf a b ha hb
theorem rremove_acts (hf : Fits s 65535) (a : ByteArray) (ha : a.size ≤ 65535) {k : Int} (hk : s.askErr a.data.toList = k) {s' : St} (hs : s.asked a.data.toList (.rm a.data.toList) = s') :
    Acts Try.prog 18 #[.pointer (some ⟨p, 0, none⟩), .string a] w (RDk p s) (fun e => e = .returned (.int .i64 k)) (RDk p s') := by
  subst hk hs
  exact fun F hF => rremove_at hF hf a ha
theorem rsync_acts (hf : Fits s 65535) {k : Int} (hk : s.syncErr = k) {s' : St} (hs : s.sync = s') :
    Acts Try.prog 20 #[.pointer (some ⟨p, 0, none⟩)] w (RDk p s) (fun e => e = .returned (.int .i64 k)) (RDk p s') := by
  subst hk hs
  exact fun F hF => rsync_at hF hf
theorem rarm_acts (n : Int) (hn : n ≤ 9223372036854775807) {s' : St} (hs : { s with armed := n.toNat } = s') :
    Acts Try.prog 22 #[.pointer (some ⟨p, 0, none⟩), .int .i64 n] w (RDk p s) (fun e => e = .returned (.tuple #[])) (RDk p s') := by
  subst hs
  exact fun F hF => rarm_at hF n hn
theorem rrestart_from (hf : Fits s 65535) {a : Option Addr} {len b off : Nat} {z : Nat → Int} (cap : Nat) (hz : Ints w (fun b => B ≤ b) a len b off z) {s' : St} (hs : s.restart z = s') :
    ActsFrom B Try.prog 24 #[.pointer (some ⟨p, 0, none⟩), .slice a len cap] w (RDk p s) (fun e => e = .returned (.tuple #[])) (RDk p s') := by
  subst hs
  exact fun F hF hB => rrestart_at hF a len cap b off z (hz.sub hB) hf
theorem rnew_add {Os : List Says} (h : OwnL B w0 w Os) (n : Int) (hn : n ≤ 9223372036854775807) {m : Nat} (hm : n.toNat = m) :
    Calls Try.prog 12 #[.int .i64 n] w fun e w' => ∃ p, e = .returned (.pointer (some ⟨p, 0, none⟩)) ∧ OwnL B w0 w' (Os ++ [RDk p ⟨m, [], [], [], false, 0⟩]) := by
  subst hm
  refine (rnew_at n hn w).mono ?_
  rintro e w' ⟨p, he, F, ho, hk, hf⟩
  exact ⟨p, he, h.add hk ho (RDk.framed _ _) hf⟩
end

set_option maxRecDepth 100000 in
set_option maxHeartbeats 64000000 in
theorem plays_walk (rm : Int) (a : Option Addr) (len cap b off : Nat) (f : Nat → StpB) (w : World) (hr : (Lit.int .i64 rm).wf = true) (h : Stps w a len cap b off f) :
    Calls Try.prog 3 #[.int .i64 rm, .slice a len cap] w fun e w' => e = .returned (.bool true) ∧ Below w.heap.size w w' := by
  have H := Lib.hid h
  have hb := h.bound
  have RM : Hid (rm ≤ 9223372036854775807) := Lib.hid (by simp [Lit.wf, IntKind.min, IntKind.max, IntKind.signed, IntKind.bits] at hr; omega)
  clear h hr
  go_enter Try.func3, Try.ntmps3
  go_wp2_with fail
  refine (small_any _).mono ?_; rintro e w1 ⟨rfl, b1⟩
  have B1 := Lib.hid b1
  clear b1
  go_wp2_with fail
  refine (few_any a len cap b off f _ (H.out.kept B1.out)).mono ?_; rintro e w' ⟨t, rfl, rfl, ht⟩
  have HT := Lib.hid ht
  clear ht
  go_wp2_with fail
  obtain ⟨R, hR⟩ : ∃ R, rm.toNat = R := ⟨_, rfl⟩
  refine (new_add (OwnL.start B1.out B1.out.size) rm RM.out (m := R) hR).mono ?_
  rintro e w2 ⟨p, rfl, ho⟩
  have P0 : Hid (OwnL w.heap.size w w2 [Dk p ⟨R, [], [], [], false, 0⟩]) := Lib.hid ho
  have HR := Lib.hid hR
  clear ho hR
  go_wp2_with fail
  refine (rnew_add P0.out rm RM.out (m := R) HR.out).mono ?_
  rintro e w3 ⟨q, rfl, ho⟩
  have P1 : Hid (OwnL w.heap.size w w3 [Dk p ⟨R, [], [], [], false, 0⟩, RDk q ⟨R, [], [], [], false, 0⟩]) := Lib.hid ho
  clear ho P0
  cases t with
  | false =>
    go_wp2_with fail
    go_ret
    exact ⟨rfl, P1.out.below⟩
  | true =>
    obtain ⟨hl, hs⟩ := HT.out rfl
    have HS := Lib.hid hs
    clear hs HT
    go_wp2_with fail
    go_loopw [9] (fun i wr => ∃ k : Nat, k ≤ len ∧ i = .int .i64 k ∧ ∃ s, Fits s k ∧ OwnL w.heap.size w wr [Dk p s, RDk q s]) (fun i _ => len - (intOf i).toNat)
    case atStart => exact ⟨0, Nat.zero_le _, rfl, _, ⟨Nat.le_refl _, Nat.le_refl _, Nat.le_refl _, Nat.le_refl _⟩, P1.out⟩
    case round =>
      obtain ⟨k, hk, rfl, s, hft, ho⟩ := hrel
      have Q := Lib.hid ho
      have FK := Lib.hid (hft.mono (show k ≤ 65535 by omega))
      have F2 := Lib.hid (fits_play hft (f k))
      clear ho hft P1
      by_cases hlt : k < len
      · have He := Lib.hid (H.out.kept Q.out.below)
        have hx : ∀ W, (Instr.indexAt 22 (.slice a len cap) (.int .i64 k)).run Try.prog W = .ok (.pointer (some ⟨b, off + k * 4, none⟩)) W := fun W => He.out.index W k hlt
        have c0 := He.out.c0 k hlt
        have c1 := He.out.c1 k hlt
        have c2 := He.out.c2 k hlt
        have c3 := He.out.c3 k hlt
        have SZ := Lib.hid (HS.out k hlt)
        have IN : Hid (∀ wr2, Below w.heap.size w wr2 → Ints wr2 (fun b => w.heap.size ≤ b) (f k).nh (f k).nl (f k).nb (f k).no (f k).z) := Lib.hid (fun wr2 hb => (H.out.ints k hlt).kept hb)
        obtain ⟨s2, hs2⟩ : ∃ s2, s2 = s.play (f k) := ⟨_, rfl⟩
        rw [← hs2] at F2
        have PS : Hid (s2 = s.play (f k)) := Lib.hid hs2
        clear hs2
        generalize f k = x at *
        obtain ⟨wh, xa, xb, nh, nl, nc, nb, no, z⟩ := x
        simp only at c0 c1 c2 c3
        have hkd := (kind_eq wh).1
        have hk8 := (kind_eq wh).2
        generalize hq : kindOf wh = kd at *
        have HQ := Lib.hid hq
        clear hq
        have SA : Hid (xa.size ≤ 65535 ∧ xb.size ≤ 65535 ∧ nl ≤ 50) := Lib.hid ⟨by have := SZ.out.1; simp only at this; omega, by have := SZ.out.2.1; simp only at this; omega, SZ.out.2.2⟩
        have hnl : nl ≤ 50 := SA.out.2.2
        have Q1 : Hid (OwnL w.heap.size w (wr.alloc (.cells #[.int .i64 wh, .string xa, .string xb, .slice nh nl nc] 31)) [Dk p s, RDk q s, BoxOf wr.heap.size (.cells #[.int .i64 wh, .string xa, .string xb, .slice nh nl nc] 31)]) := Lib.hid
          (Q.out.add ((Keeps.refl (fun _ => False) wr).alloc _) (F' := fun b => b = wr.heap.size) ⟨heap_alloc_new wr _, fun _ => Iff.rfl⟩ (BoxOf.framed _ _) (fun b hb => by omega))
        have Q2 : Hid (OwnL w.heap.size w ((wr.alloc (.cells #[.int .i64 wh, .string xa, .string xb, .slice nh nl nc] 31)).drewN 1) [Dk p s, RDk q s, BoxOf wr.heap.size (.cells #[.int .i64 wh, .string xa, .string xb, .slice nh nl nc] 31)]) := Lib.hid (Q1.out.more (Keeps.drewN (fun _ => False) _ 1))
        have hcase : kd = 0 ∨ kd = 1 ∨ kd = 2 ∨ kd = 3 ∨ kd = 4 ∨ kd = 5 ∨ kd = 6 ∨ kd = 7 := by omega
        go_upto_block 2 with fail
        go_cut [10, 11] from 34 to 171 (fun s10 s11 wx => s10 = .pointer (some ⟨wr.heap.size, 0, none⟩) ∧ s11 = .bool true ∧ OwnL w.heap.size w wx [Dk p s2, RDk q s2, BoxOf wr.heap.size (.cells #[.int .i64 wh, .string xa, .string xb, .slice nh nl nc] 31)])
        case first =>
          rcases hcase with rfl | rfl | rfl | rfl | rfl | rfl | rfl | rfl
          · have E : Hid (s2 = s.write xa.data.toList xb.data.toList) := Lib.hid (by rw [PS.out]; unfold St.play; simp only; rw [HQ.out]; rfl)
            obtain ⟨er, her⟩ : ∃ er, s.writeErr xa.data.toList xb.data.toList = er := ⟨_, rfl⟩
            have C1 := Lib.hid (Q2.out.acts (i := 0) rfl (Dk.framed _ _) (write_acts FK.out xa xb SA.out.1 SA.out.2.1 her E.out.symm).from)
            have C2 : Hid (∀ w5, OwnL w.heap.size w w5 [Dk p s2, RDk q s, BoxOf wr.heap.size (.cells #[.int .i64 wh, .string xa, .string xb, .slice nh nl nc] 31)] → Calls Try.prog 14 #[.pointer (some ⟨q, 0, none⟩), .string xa, .string xb] w5 fun e w' => e = .returned (.int .i64 er) ∧ OwnL w.heap.size w w' [Dk p s2, RDk q s2, BoxOf wr.heap.size (.cells #[.int .i64 wh, .string xa, .string xb, .slice nh nl nc] 31)]) := Lib.hid
              (fun w5 h5 => h5.acts (i := 1) rfl (RDk.framed _ _) (rwrite_acts FK.out xa xb SA.out.1 SA.out.2.1 her E.out.symm).from)
            have bx1 := BoxOf.cell (Q1.out.it (i := 2) rfl) (i := 1) rfl
            have bx2 := BoxOf.cell (Q1.out.it (i := 2) rfl) (i := 2) rfl
            clear her
            go_wp2_with fail
            go_region_held3 (fun w' => w'.cell? ⟨wr.heap.size, 1, none⟩ = some (.string xa) ∧ w'.cell? ⟨wr.heap.size, 2, none⟩ = some (.string xb))
              (exact ⟨by assumption, by assumption⟩)
              (first
                | (go_at_call 13; refine C1.out.mono ?_; rintro e w5 ⟨rfl, h5⟩; have R5 := Lib.hid h5; have e1 := BoxOf.cell (h5.it (i := 2) rfl) (i := 1) rfl; have e2 := BoxOf.cell (h5.it (i := 2) rfl) (i := 2) rfl; clear h5)
                | (go_at_call 14; refine (C2.out _ (Hid.out (by assumption))).mono ?_; rintro e w6 ⟨rfl, h6⟩; have R6 := Lib.hid h6; have g1 := BoxOf.cell (h6.it (i := 2) rfl) (i := 1) rfl; have g2 := BoxOf.cell (h6.it (i := 2) rfl) (i := 2) rfl; clear h6)
                | fail)
            have R7 := Lib.hid (Hid.out (by assumption : Hid (OwnL w.heap.size w _ [Dk p s2, RDk q s2, BoxOf wr.heap.size (.cells #[.int .i64 wh, .string xa, .string xb, .slice nh nl nc] 31)])))
            clear C1 C2 E
            go_wp2_with fail
            go_meet
            case rel => exact ⟨rfl, rfl, R7.out⟩
          · have E : Hid (s2 = s.asked xa.data.toList (.rn xa.data.toList xb.data.toList)) := Lib.hid (by rw [PS.out]; unfold St.play; simp only; rw [HQ.out]; rfl)
            obtain ⟨er, her⟩ : ∃ er, s.askErr xa.data.toList = er := ⟨_, rfl⟩
            have C1 := Lib.hid (Q2.out.acts (i := 0) rfl (Dk.framed _ _) (rename_acts FK.out xa xb SA.out.1 SA.out.2.1 her E.out.symm).from)
            have C2 : Hid (∀ w5, OwnL w.heap.size w w5 [Dk p s2, RDk q s, BoxOf wr.heap.size (.cells #[.int .i64 wh, .string xa, .string xb, .slice nh nl nc] 31)] → Calls Try.prog 16 #[.pointer (some ⟨q, 0, none⟩), .string xa, .string xb] w5 fun e w' => e = .returned (.int .i64 er) ∧ OwnL w.heap.size w w' [Dk p s2, RDk q s2, BoxOf wr.heap.size (.cells #[.int .i64 wh, .string xa, .string xb, .slice nh nl nc] 31)]) := Lib.hid
              (fun w5 h5 => h5.acts (i := 1) rfl (RDk.framed _ _) (rrename_acts FK.out xa xb SA.out.1 SA.out.2.1 her E.out.symm).from)
            have bx1 := BoxOf.cell (Q1.out.it (i := 2) rfl) (i := 1) rfl
            have bx2 := BoxOf.cell (Q1.out.it (i := 2) rfl) (i := 2) rfl
            clear her
            go_wp2_with fail
            go_region_held3 (fun w' => w'.cell? ⟨wr.heap.size, 1, none⟩ = some (.string xa) ∧ w'.cell? ⟨wr.heap.size, 2, none⟩ = some (.string xb))
              (exact ⟨by assumption, by assumption⟩)
              (first
                | (go_at_call 15; refine C1.out.mono ?_; rintro e w5 ⟨rfl, h5⟩; have R5 := Lib.hid h5; have e1 := BoxOf.cell (h5.it (i := 2) rfl) (i := 1) rfl; have e2 := BoxOf.cell (h5.it (i := 2) rfl) (i := 2) rfl; clear h5)
                | (go_at_call 16; refine (C2.out _ (Hid.out (by assumption))).mono ?_; rintro e w6 ⟨rfl, h6⟩; have R6 := Lib.hid h6; have g1 := BoxOf.cell (h6.it (i := 2) rfl) (i := 1) rfl; have g2 := BoxOf.cell (h6.it (i := 2) rfl) (i := 2) rfl; clear h6)
                | fail)
            have R7 := Lib.hid (Hid.out (by assumption : Hid (OwnL w.heap.size w _ [Dk p s2, RDk q s2, BoxOf wr.heap.size (.cells #[.int .i64 wh, .string xa, .string xb, .slice nh nl nc] 31)])))
            clear C1 C2 E
            go_wp2_with fail
            go_meet
            case rel => exact ⟨rfl, rfl, R7.out⟩
          · have E : Hid (s2 = s.asked xa.data.toList (.rm xa.data.toList)) := Lib.hid (by rw [PS.out]; unfold St.play; simp only; rw [HQ.out]; rfl)
            obtain ⟨er, her⟩ : ∃ er, s.askErr xa.data.toList = er := ⟨_, rfl⟩
            have C1 := Lib.hid (Q2.out.acts (i := 0) rfl (Dk.framed _ _) (remove_acts FK.out xa SA.out.1 her E.out.symm).from)
            have C2 : Hid (∀ w5, OwnL w.heap.size w w5 [Dk p s2, RDk q s, BoxOf wr.heap.size (.cells #[.int .i64 wh, .string xa, .string xb, .slice nh nl nc] 31)] → Calls Try.prog 18 #[.pointer (some ⟨q, 0, none⟩), .string xa] w5 fun e w' => e = .returned (.int .i64 er) ∧ OwnL w.heap.size w w' [Dk p s2, RDk q s2, BoxOf wr.heap.size (.cells #[.int .i64 wh, .string xa, .string xb, .slice nh nl nc] 31)]) := Lib.hid
              (fun w5 h5 => h5.acts (i := 1) rfl (RDk.framed _ _) (rremove_acts FK.out xa SA.out.1 her E.out.symm).from)
            have bx1 := BoxOf.cell (Q1.out.it (i := 2) rfl) (i := 1) rfl
            have bx2 := BoxOf.cell (Q1.out.it (i := 2) rfl) (i := 2) rfl
            clear her
            go_wp2_with fail
            go_region_held3 (fun w' => w'.cell? ⟨wr.heap.size, 1, none⟩ = some (.string xa) ∧ w'.cell? ⟨wr.heap.size, 2, none⟩ = some (.string xb))
              (exact ⟨by assumption, by assumption⟩)
              (first
                | (go_at_call 17; refine C1.out.mono ?_; rintro e w5 ⟨rfl, h5⟩; have R5 := Lib.hid h5; have e1 := BoxOf.cell (h5.it (i := 2) rfl) (i := 1) rfl; have e2 := BoxOf.cell (h5.it (i := 2) rfl) (i := 2) rfl; clear h5)
                | (go_at_call 18; refine (C2.out _ (Hid.out (by assumption))).mono ?_; rintro e w6 ⟨rfl, h6⟩; have R6 := Lib.hid h6; have g1 := BoxOf.cell (h6.it (i := 2) rfl) (i := 1) rfl; have g2 := BoxOf.cell (h6.it (i := 2) rfl) (i := 2) rfl; clear h6)
                | fail)
            have R7 := Lib.hid (Hid.out (by assumption : Hid (OwnL w.heap.size w _ [Dk p s2, RDk q s2, BoxOf wr.heap.size (.cells #[.int .i64 wh, .string xa, .string xb, .slice nh nl nc] 31)])))
            clear C1 C2 E
            go_wp2_with fail
            go_meet
            case rel => exact ⟨rfl, rfl, R7.out⟩
          · have E : Hid (s2 = s.sync) := Lib.hid (by rw [PS.out]; unfold St.play; simp only; rw [HQ.out]; rfl)
            obtain ⟨er, her⟩ : ∃ er, s.syncErr = er := ⟨_, rfl⟩
            have C1 := Lib.hid (Q1.out.acts (i := 0) rfl (Dk.framed _ _) ((sync_acts her E.out.symm).from))
            have bx3 := BoxOf.cell (Q1.out.it (i := 2) rfl) (i := 3) rfl
            skip
            have HER := Lib.hid her
            clear her
            go_wp2_with fail
            refine C1.out.mono ?_; rintro e w5 ⟨rfl, h5⟩
            have R5 : Hid (OwnL w.heap.size w w5 [Dk p s2, RDk q s, BoxOf wr.heap.size (.cells #[.int .i64 wh, .string xa, .string xb, .slice nh nl nc] 31)]) := Lib.hid h5
            have e3 := BoxOf.cell (h5.it (i := 2) rfl) (i := 3) rfl
            have C2 := Lib.hid (R5.out.acts (i := 1) rfl (RDk.framed _ _) ((rsync_acts FK.out HER.out E.out.symm).from))
            clear h5
            go_wp2_with fail
            refine C2.out.mono ?_; rintro e w6 ⟨rfl, h6⟩
            have R7 : Hid (OwnL w.heap.size w w6 [Dk p s2, RDk q s2, BoxOf wr.heap.size (.cells #[.int .i64 wh, .string xa, .string xb, .slice nh nl nc] 31)]) := Lib.hid h6
            clear h6 C1 C2 E R5 e3 bx3
            go_wp2_with fail
            go_meet
            case rel => exact ⟨rfl, rfl, R7.out⟩
          · have E : Hid (s2 = { s with armed := ((nl : Nat) : Int).toNat }) := Lib.hid (by rw [PS.out]; unfold St.play; simp only; rw [HQ.out]; rfl)
            have C1 := Lib.hid (Q1.out.acts (i := 0) rfl (Dk.framed _ _) ((arm_acts (nl : Int) (by omega) E.out.symm).from))
            have bx3 := BoxOf.cell (Q1.out.it (i := 2) rfl) (i := 3) rfl
            skip
            go_wp2_with fail
            refine C1.out.mono ?_; rintro e w5 ⟨rfl, h5⟩
            have R5 : Hid (OwnL w.heap.size w w5 [Dk p s2, RDk q s, BoxOf wr.heap.size (.cells #[.int .i64 wh, .string xa, .string xb, .slice nh nl nc] 31)]) := Lib.hid h5
            have e3 := BoxOf.cell (h5.it (i := 2) rfl) (i := 3) rfl
            have C2 := Lib.hid (R5.out.acts (i := 1) rfl (RDk.framed _ _) ((rarm_acts (nl : Int) (by omega) E.out.symm).from))
            clear h5
            go_wp2_with fail
            refine C2.out.mono ?_; rintro e w6 ⟨rfl, h6⟩
            have R7 : Hid (OwnL w.heap.size w w6 [Dk p s2, RDk q s2, BoxOf wr.heap.size (.cells #[.int .i64 wh, .string xa, .string xb, .slice nh nl nc] 31)]) := Lib.hid h6
            clear h6 C1 C2 E R5 e3 bx3
            go_wp2_with fail
            go_meet
            case rel => exact ⟨rfl, rfl, R7.out⟩
          · have E : Hid (s2 = s.restart z) := Lib.hid (by rw [PS.out]; unfold St.play; simp only; rw [HQ.out]; rfl)
            have C1 := Lib.hid (Q1.out.acts (i := 0) rfl (Dk.framed _ _) (restart_from FK.out nc (IN.out _ Q1.out.below) E.out.symm))
            have bx3 := BoxOf.cell (Q1.out.it (i := 2) rfl) (i := 3) rfl
            skip
            go_wp2_with fail
            refine C1.out.mono ?_; rintro e w5 ⟨rfl, h5⟩
            have R5 : Hid (OwnL w.heap.size w w5 [Dk p s2, RDk q s, BoxOf wr.heap.size (.cells #[.int .i64 wh, .string xa, .string xb, .slice nh nl nc] 31)]) := Lib.hid h5
            have e3 := BoxOf.cell (h5.it (i := 2) rfl) (i := 3) rfl
            have C2 := Lib.hid (R5.out.acts (i := 1) rfl (RDk.framed _ _) (rrestart_from FK.out nc (IN.out _ R5.out.below) E.out.symm))
            clear h5
            go_wp2_with fail
            refine C2.out.mono ?_; rintro e w6 ⟨rfl, h6⟩
            have R7 : Hid (OwnL w.heap.size w w6 [Dk p s2, RDk q s2, BoxOf wr.heap.size (.cells #[.int .i64 wh, .string xa, .string xb, .slice nh nl nc] 31)]) := Lib.hid h6
            clear h6 C1 C2 E R5 e3 bx3
            go_wp2_with fail
            go_meet
            case rel => exact ⟨rfl, rfl, R7.out⟩
          · have E : Hid (s2 = s.write xa.data.toList xb.data.toList) := Lib.hid (by rw [PS.out]; unfold St.play; simp only; rw [HQ.out]; rfl)
            obtain ⟨er, her⟩ : ∃ er, s.writeErr xa.data.toList xb.data.toList = er := ⟨_, rfl⟩
            have C1 := Lib.hid (Q2.out.acts (i := 0) rfl (Dk.framed _ _) (write_acts FK.out xa xb SA.out.1 SA.out.2.1 her E.out.symm).from)
            have C2 : Hid (∀ w5, OwnL w.heap.size w w5 [Dk p s2, RDk q s, BoxOf wr.heap.size (.cells #[.int .i64 wh, .string xa, .string xb, .slice nh nl nc] 31)] → Calls Try.prog 14 #[.pointer (some ⟨q, 0, none⟩), .string xa, .string xb] w5 fun e w' => e = .returned (.int .i64 er) ∧ OwnL w.heap.size w w' [Dk p s2, RDk q s2, BoxOf wr.heap.size (.cells #[.int .i64 wh, .string xa, .string xb, .slice nh nl nc] 31)]) := Lib.hid
              (fun w5 h5 => h5.acts (i := 1) rfl (RDk.framed _ _) (rwrite_acts FK.out xa xb SA.out.1 SA.out.2.1 her E.out.symm).from)
            have bx1 := BoxOf.cell (Q1.out.it (i := 2) rfl) (i := 1) rfl
            have bx2 := BoxOf.cell (Q1.out.it (i := 2) rfl) (i := 2) rfl
            clear her
            go_wp2_with fail
            go_region_held3 (fun w' => w'.cell? ⟨wr.heap.size, 1, none⟩ = some (.string xa) ∧ w'.cell? ⟨wr.heap.size, 2, none⟩ = some (.string xb))
              (exact ⟨by assumption, by assumption⟩)
              (first
                | (go_at_call 13; refine C1.out.mono ?_; rintro e w5 ⟨rfl, h5⟩; have R5 := Lib.hid h5; have e1 := BoxOf.cell (h5.it (i := 2) rfl) (i := 1) rfl; have e2 := BoxOf.cell (h5.it (i := 2) rfl) (i := 2) rfl; clear h5)
                | (go_at_call 14; refine (C2.out _ (Hid.out (by assumption))).mono ?_; rintro e w6 ⟨rfl, h6⟩; have R6 := Lib.hid h6; have g1 := BoxOf.cell (h6.it (i := 2) rfl) (i := 1) rfl; have g2 := BoxOf.cell (h6.it (i := 2) rfl) (i := 2) rfl; clear h6)
                | fail)
            have R7 := Lib.hid (Hid.out (by assumption : Hid (OwnL w.heap.size w _ [Dk p s2, RDk q s2, BoxOf wr.heap.size (.cells #[.int .i64 wh, .string xa, .string xb, .slice nh nl nc] 31)])))
            clear C1 C2 E
            go_wp2_with fail
            go_meet
            case rel => exact ⟨rfl, rfl, R7.out⟩
          · have E : Hid (s2 = s.write xa.data.toList xb.data.toList) := Lib.hid (by rw [PS.out]; unfold St.play; simp only; rw [HQ.out]; rfl)
            obtain ⟨er, her⟩ : ∃ er, s.writeErr xa.data.toList xb.data.toList = er := ⟨_, rfl⟩
            have C1 := Lib.hid (Q2.out.acts (i := 0) rfl (Dk.framed _ _) (write_acts FK.out xa xb SA.out.1 SA.out.2.1 her E.out.symm).from)
            have C2 : Hid (∀ w5, OwnL w.heap.size w w5 [Dk p s2, RDk q s, BoxOf wr.heap.size (.cells #[.int .i64 wh, .string xa, .string xb, .slice nh nl nc] 31)] → Calls Try.prog 14 #[.pointer (some ⟨q, 0, none⟩), .string xa, .string xb] w5 fun e w' => e = .returned (.int .i64 er) ∧ OwnL w.heap.size w w' [Dk p s2, RDk q s2, BoxOf wr.heap.size (.cells #[.int .i64 wh, .string xa, .string xb, .slice nh nl nc] 31)]) := Lib.hid
              (fun w5 h5 => h5.acts (i := 1) rfl (RDk.framed _ _) (rwrite_acts FK.out xa xb SA.out.1 SA.out.2.1 her E.out.symm).from)
            have bx1 := BoxOf.cell (Q1.out.it (i := 2) rfl) (i := 1) rfl
            have bx2 := BoxOf.cell (Q1.out.it (i := 2) rfl) (i := 2) rfl
            clear her
            go_wp2_with fail
            go_region_held3 (fun w' => w'.cell? ⟨wr.heap.size, 1, none⟩ = some (.string xa) ∧ w'.cell? ⟨wr.heap.size, 2, none⟩ = some (.string xb))
              (exact ⟨by assumption, by assumption⟩)
              (first
                | (go_at_call 13; refine C1.out.mono ?_; rintro e w5 ⟨rfl, h5⟩; have R5 := Lib.hid h5; have e1 := BoxOf.cell (h5.it (i := 2) rfl) (i := 1) rfl; have e2 := BoxOf.cell (h5.it (i := 2) rfl) (i := 2) rfl; clear h5)
                | (go_at_call 14; refine (C2.out _ (Hid.out (by assumption))).mono ?_; rintro e w6 ⟨rfl, h6⟩; have R6 := Lib.hid h6; have g1 := BoxOf.cell (h6.it (i := 2) rfl) (i := 1) rfl; have g2 := BoxOf.cell (h6.it (i := 2) rfl) (i := 2) rfl; clear h6)
                | fail)
            have R7 := Lib.hid (Hid.out (by assumption : Hid (OwnL w.heap.size w _ [Dk p s2, RDk q s2, BoxOf wr.heap.size (.cells #[.int .i64 wh, .string xa, .string xb, .slice nh nl nc] 31)])))
            clear C1 C2 E
            go_wp2_with fail
            go_meet
            case rel => exact ⟨rfl, rfl, R7.out⟩
        case rest =>
          obtain ⟨rfl, rfl, h7⟩ := hcut
          have R7 := Lib.hid h7
          clear h7 hcase hkd hk8
          have FT2 := Lib.hid (F2.out.mono (show k + 1 ≤ 65535 by omega))
          obtain ⟨gx, hgx⟩ : ∃ x : ByteArray, x.data.toList = (s2.read xa.data.toList).1 := ⟨⟨(s2.read xa.data.toList).1.toArray⟩, rfl⟩
          obtain ⟨gt, hgt⟩ : ∃ t, t = (s2.read xa.data.toList).2 := ⟨_, rfl⟩
          have hrd : s2.read xa.data.toList = (gx.data.toList, gt) := Prod.ext hgx.symm hgt.symm
          have RX := Lib.hid (read_own (R7.out.it (i := 0) rfl) xa SA.out.1 hrd)
          have RY := Lib.hid (rread_at (R7.out.it (i := 1) rfl) FT2.out xa hrd)
          have bz := BoxOf.cell (R7.out.it (i := 2) rfl) (i := 1) rfl
          have hgq : (gx.toList == gx.toList) = true := beq_self_eq_true _
          clear Q Q1 Q2 hgx hgt hrd hx c0 c1 c2 c3 He
          go_wp2_with fail
          refine RX.out.mono ?_; rintro e w' ⟨rfl, rfl⟩
          go_wp2_with fail
          refine RY.out.mono ?_; rintro e w7 ⟨rfl, hk7⟩
          have R8 : Hid (OwnL w.heap.size w w7 ([Dk p s2, RDk q s2] ++ [BoxOf wr.heap.size (.cells #[.int .i64 wh, .string xa, .string xb, .slice nh nl nc] 31)])) := Lib.hid (R7.out.more hk7)
          have R9 := Lib.hid (R8.out.left)
          clear hk7 RX RY R7 R8 bz
          obtain ⟨l, hl'⟩ : ∃ l, l = s2.names := ⟨_, rfl⟩
          obtain ⟨nn, hnn⟩ : ∃ nn, l.length = nn := ⟨_, rfl⟩
          obtain ⟨dn, hdn⟩ : ∃ dn, s2.down = dn := ⟨_, rfl⟩
          obtain ⟨yn, hyn⟩ : ∃ yn, s2.waits.length = yn := ⟨_, rfl⟩
          obtain ⟨ya, yc, d3, d1⟩ : ∃ ya yc, w7.cell? ⟨q, 3, none⟩ = some (.bool dn) ∧ w7.cell? ⟨q, 1, none⟩ = some (.slice ya yn yc) := by
            obtain ⟨F, kv, wv, ho, -⟩ := R9.out.it (i := 1) rfl
            obtain ⟨ya, yc, hwv, -⟩ := row_shape (ho.part (i := 1) rfl)
            subst hwv
            refine ⟨ya, yc, ?_, ?_⟩
            · rw [← hdn]; exact ho.cell (i := 3) rfl
            · rw [← hyn]; exact ho.cell (i := 1) rfl
          have DD : Hid (∀ w', Keeps (fun _ => False) (w7.drewN 1) w' → OwnL w.heap.size w w' [Dk p s2, RDk q s2] ∧ w'.cell? ⟨q, 3, none⟩ = some (.bool dn) ∧ w'.cell? ⟨q, 1, none⟩ = some (.slice ya yn yc)) := Lib.hid (fun w' hk => by
            have hk' : Keeps (fun _ => False) w7 w' := (Keeps.drewN (fun _ => False) w7 1).trans hk (fun _ _ h => h)
            have hq := (RDk.framed q s2).lt _ _ (R9.out.it (i := 1) rfl).choose_spec q (by obtain ⟨kv, wv, ho, -⟩ := (R9.out.it (i := 1) rfl).choose_spec; exact ho.own)
            have hb := hk'.block q hq (fun h => h)
            exact ⟨R9.out.more hk', (World.cell?_of_block hb).trans d3, (World.cell?_of_block hb).trans d1⟩)
          have NX : Hid (Calls Try.prog 28 #[.pointer (some ⟨p, 0, none⟩)] (w7.drewN 1) fun e w' => ∃ a c, e = .returned (.slice a nn c) ∧ Fresh (w7.drewN 1) w' 9 1 nn (l.map str) (.slice a nn c)) := Lib.hid (by
            have hD := (R9.out.more (Keeps.drewN (fun _ => False) w7 1)).it (i := 0) rfl
            refine (names_at hD (by have := FT2.out.there; omega)).mono ?_
            rintro e w' ⟨v, rfl, hf⟩
            rw [← hl', hnn] at hf
            obtain ⟨a, c, rfl, -⟩ := row_shape hf.1
            exact ⟨a, c, rfl, hf⟩)
          have NY : Hid (∀ w5, Keeps (fun _ => False) (w7.drewN 1) w5 → Calls Try.prog 29 #[.pointer (some ⟨q, 0, none⟩)] w5 fun e w' => ∃ a c, e = .returned (.slice a nn c) ∧ Fresh w5 w' 9 1 nn (l.map str) (.slice a nn c)) := Lib.hid (fun w5 hk => by
            have hD := (DD.out w5 hk).1.it (i := 1) rfl
            refine (rnames_at hD FT2.out).mono ?_
            rintro e w' ⟨v, rfl, hf⟩
            rw [← hl', hnn] at hf
            obtain ⟨a, c, rfl, -⟩ := row_shape hf.1
            exact ⟨a, c, rfl, hf⟩)
          have RW : Hid (∀ w5 a1 c1 w6 a2 c2, Fresh (w7.drewN 1) w5 9 1 nn (l.map str) (.slice a1 nn c1) → Fresh w5 w6 9 1 nn (l.map str) (.slice a2 nn c2) → Calls Try.prog 27 #[.slice a1 nn c1, .slice a2 nn c2] w6 fun e w' => e = .returned (.bool true) ∧ Keeps (fun _ => False) (w7.drewN 1) w') := Lib.hid (fun w5 a1 c1 w6 a2 c2 h1 h2 => by
            refine (rows_walk a1 a2 nn c1 c2 l hnn w6 (row_keeps h1.1 h2.2.1 (fun _ _ h => h)) h2.1).mono ?_
            rintro e w' ⟨he, hk⟩
            exact ⟨he, (h1.2.1.trans h2.2.1 (fun _ _ h => h)).trans hk (fun _ _ h => h)⟩)
          have DW : Hid (∀ w5, Keeps (fun _ => False) (w7.drewN 1) w5 → Calls Try.prog 30 #[.pointer (some ⟨p, 0, none⟩)] w5 fun e w' => e = .returned (.bool dn) ∧ w5 = w') := Lib.hid (fun w5 hk => down_own ((DD.out w5 hk).1.it (i := 0) rfl) hdn)
          have PW : Hid (∀ w5, Keeps (fun _ => False) (w7.drewN 1) w5 → Calls Try.prog 31 #[.pointer (some ⟨p, 0, none⟩)] w5 fun e w' => e = .returned (.int .i64 yn) ∧ w5 = w') := Lib.hid (fun w5 hk => pending_own ((DD.out w5 hk).1.it (i := 0) rfl) hyn)
          clear hl' hnn hdn hyn R9
          go_wp2_with fail
          go_region_held3 (fun w' => w'.cell? ⟨q, 3, none⟩ = some (.bool dn) ∧ w'.cell? ⟨q, 1, none⟩ = some (.slice ya yn yc))
            (exact ⟨by assumption, by assumption⟩)
            (first
              | (go_at_call 28; refine NX.out.mono ?_; rintro e w8 ⟨a1, c1', rfl, hf8⟩; obtain ⟨-, y3, y1⟩ := DD.out _ hf8.2.1; have HF8 := Lib.hid hf8; have HK8 := Lib.hid hf8.2.1; clear hf8)
              | (go_at_call 29; refine (NY.out _ (Hid.out (by assumption))).mono ?_; rintro e w9 ⟨a2, c2', rfl, hf9⟩; have HK9 : Hid (Keeps (fun _ => False) (w7.drewN 1) w9) := Lib.hid (Keeps.trans (Hid.out (by assumption)) hf9.2.1 (fun _ _ h => h)); obtain ⟨-, z3, z1⟩ := DD.out _ HK9.out; have HF9 := Lib.hid hf9; clear hf9)
              | (go_at_call 27; refine (RW.out _ _ _ _ _ _ (Hid.out (by assumption)) (Hid.out (by assumption))).mono ?_; rintro e wa ⟨rfl, hka⟩; obtain ⟨-, x3, x1⟩ := DD.out _ hka; have HKA := Lib.hid hka; clear hka)
              | (go_at_call 30; refine (DW.out _ (Hid.out (by assumption))).mono ?_; rintro e w' ⟨rfl, rfl⟩)
              | (go_at_call 31; refine (PW.out _ (Hid.out (by assumption))).mono ?_; rintro e w' ⟨rfl, rfl⟩)
              | fail)
          all_goals
            go_wp2_with fail
            go_roundw
            case rel => exact ⟨k + 1, by omega, by go_num, s2, F2.out, (DD.out _ (Hid.out (by assumption))).1⟩
            case measure => simp [intOf]; omega
      · obtain rfl : k = len := by omega
        go_wp2_with fail
        go_ret
        exact ⟨rfl, Q.out.below⟩
end Go.Proofs.Ytnijencmoceiaaa
