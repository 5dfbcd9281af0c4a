/-
  The walk of 'DiskRoom': the call returns true and turns nothing that was there: for any room, any steps.
-/
import Derived.Test.YtnijencmoceiaaaApart
import Derived.Deep.QuietTactic
import Derived.BigQuiet
namespace Go.Proofs.Ytnijencmoceiaaa
set_option linter.unusedVariables false
open Go.RowKit Go.Maps

/-! ### the plain law -/
/-- A disk that is up, armed for nothing, with no more than it has room for. -/
structure Up (R : Nat) (s : St) : Prop where
  down : s.down = false
  armed : s.armed = 0
  room : s.room = R
  tot : total s.there ≤ R
  rise : Rising s.there
theorem Up.wait {R : Nat} {s : St} (h : Up R s) {x : Deed} (ht : total (x.run s.there) ≤ R) : Up R (s.wait x) :=
  ⟨by show (s.armed == 1) = false; rw [h.armed]; rfl, by show s.armed - 1 = 0; rw [h.armed], h.room, ht, rising_run h.rise x⟩
theorem Up.step {R : Nat} {s : St} (h : Up R s) (e : StpB) : Up R (s.step e) := by
  unfold St.step
  split
  · unfold St.write
    split
    · exact h
    · split
      · exact h
      · rename_i hf
        refine h.wait ?_
        unfold St.full at hf
        rw [h.room] at hf
        have : ¬ R < total (putF s.there e.a.data.toList e.b.data.toList) := by simpa using hf
        show total (putF _ _ _) ≤ R
        omega
  · split
    · unfold St.asked
      split
      · refine h.wait ?_
        unfold Deed.run
        simp only
        split
        · rename_i d hd
          rw [total_putF]
          have h1 := total_dropF (dropF s.there e.a.data.toList) e.b.data.toList
          have h2 := total_dropF_look h.rise hd
          have := h.tot
          omega
        · exact h.tot
      · exact h
    · split
      · unfold St.asked
        split
        · exact h.wait (Nat.le_trans (total_dropF _ _) h.tot)
        · exact h
      · split
        · unfold St.sync
          rw [h.down, h.armed]
          exact ⟨by show (s.armed == 1) = false; rw [h.armed]; rfl, by show s.armed - 1 = 0; rw [h.armed], h.room, h.tot, h.rise⟩
        · exact h
theorem up_0 (R : Nat) : Up R ⟨R, [], [], [], false, 0⟩ := ⟨rfl, rfl, rfl, Nat.zero_le _, List.Pairwise.nil⟩
theorem Up.names {R : Nat} {s : St} (h : Up R s) : s.names = s.there.map (·.1) := by unfold St.names; rw [h.down]; rfl
theorem Up.read {R : Nat} {s : St} (h : Up R s) {p : Str × Str} (hp : p ∈ s.there) : s.read p.1 = (p.2, true) := by
  unfold St.read lookD
  rw [h.down, look_of_mem h.rise hp]; rfl
theorem total_take_succ {K : Files} {k : Nat} {p : Str × Str} (h : K[k]? = some p) : total (K.take (k + 1)) = total (K.take k) + p.2.length := by
  unfold total
  rw [List.take_add_one, h]
  simp
theorem total_take_le (K : Files) (k : Nat) : total (K.take k) ≤ total K := by
  have : total K = total (K.take k) + total (K.drop k) := by
    unfold total
    rw [← List.sum_append, ← List.map_append, List.take_append_drop]
  omega
theorem rising_at {K : Files} (h : Rising K) {i j : Nat} {p q : Str × Str} (hi : K[i]? = some p) (hj : K[j]? = some q) (hij : i < j) : bytesBefore p.1 q.1 = true := by
  obtain ⟨hi1, rfl⟩ := List.getElem?_eq_some_iff.1 hi
  obtain ⟨hj1, rfl⟩ := List.getElem?_eq_some_iff.1 hj
  exact List.pairwise_iff_getElem.1 h i j hi1 hj1 hij
theorem less_before : ∀ a b : Str, Op.bytesLess a b = bytesBefore a b
  | [], [] => rfl
  | [], _ :: _ => rfl
  | _ :: _, [] => rfl
  | x :: r, y :: s => by rw [Op.bytesLess, bytesBefore, less_before r s]
theorem before_asymm {a b : Str} (h : bytesBefore a b = true) : bytesBefore b a = false := by
  cases hb : bytesBefore b a with
  | false => rfl
  | true => have := before_trans h hb; rw [before_irrefl] at this; cases this

/-! ### the walk -/
theorem leq_no {x y : ByteArray} (h : bytesBefore y.data.toList x.data.toList = true) : Op.bytesLess x.toList y.toList = false ∧ (x.toList == y.toList) = false := by
  refine ⟨by rw [less_before, ByteArray.toList_eq, ByteArray.toList_eq]; exact before_asymm h, ?_⟩
  rw [ByteArray.toList_eq, ByteArray.toList_eq]
  simp only [beq_eq_false_iff_ne]
  intro e
  rw [e, before_irrefl] at h; cases h
theorem OwnL.left {B : Nat} {w0 w : World} {Os Os' : List Says} (h : OwnL B w0 w (Os ++ Os')) : OwnL B w0 w Os := by
  obtain ⟨Fs, h1, h2, h3⟩ := h.its
  refine ⟨h.below, h.size, fun O hO => h.framed O (by simp [hO]), Fs, fun i O hi => h1 i O ?_, fun i b hi => h2 i b (by simp; omega), fun i j b hi hj => h3 i j b (by simp; omega) (by simp; omega)⟩
  rw [List.getElem?_append_left (List.getElem?_eq_some_iff.1 hi).1]; exact hi
theorem Stps.sub {w : World} {a : Option Addr} {len cap b off : Nat} {f : Nat → StpB} (h : Stps w a len cap b off f) {k : Nat} (hk : k < len) : Stps w (some ⟨b, off + k * 4, none⟩) 1 (cap - k) b (off + k * 4) (fun j => f (k + j)) := by
  have e : ∀ j, off + k * 4 + j * 4 = off + (k + j) * 4 := fun j => by omega
  have hj : ∀ j, j < 1 → k + j < len := fun j hj => by omega
  have hc := h.capb
  refine ⟨by omega, by omega, fun _ => h.old (by omega), fun _ => rfl, fun j h' => ?_, fun j h' => ?_, fun j h' => ?_, fun j h' => ?_, fun j h' => h.ints _ (hj j h'), fun j h' => h.nold _ (hj j h'), fun j h' => h.fa _ (hj j h'), fun j h' => h.fb _ (hj j h')⟩
  · rw [e]; exact h.c0 _ (hj j h')
  · rw [e]; exact h.c1 _ (hj j h')
  · rw [e]; exact h.c2 _ (hj j h')
  · rw [e]; exact h.c3 _ (hj j h')
theorem names_add {B p : Nat} {w0 w : World} {Os : List Says} {s : St} {i : Nat} (h : OwnL B w0 w Os) (hi : Os[i]? = some (Dk p s)) (hf : Fits s 65535) {ns : List Str} (hn : s.names = ns) :
    Calls Try.prog 28 #[.pointer (some ⟨p, 0, none⟩)] w fun e w' => ∃ v, e = .returned v ∧ OwnL B w0 w' (Os ++ [RowOf 9 1 v ns.length (ns.map str)]) := by
  subst hn
  refine (names_at (h.it hi) (by have := hf.there; omega)).mono ?_
  rintro e w' ⟨v, he, hf⟩
  exact ⟨v, he, h.add hf.2.1 (F' := fun b => v.ownBlock = some b) ⟨hf.1, fun _ => Iff.rfl⟩ (RowOf.framed _ _ _ _ _) hf.2.2⟩
theorem run_max1 (z : Int) (w : World) (ty : TypeId) : (Builtin.max_ #[3, 3] ty #[.int .i64 z, .int .i64 0]).run Try.prog w = .ok (.int .i64 (z.toNat : Int)) w := by
  simp [Builtin.max_, Builtin.max2]
  omega

set_option maxRecDepth 100000 in
set_option maxHeartbeats 4000000 in
theorem room_walk (rm : Int) (a : Option Addr) (len cap b off : Nat) (f : Nat → StpB) (w : World) (hr : (Lit.int .i64 rm).wf = true) (h : Stps w a len cap b off f) :
    Calls Try.prog 6 #[.int .i64 rm, .slice a len cap] w fun e w' => e = .returned (.bool true) ∧ Below w.heap.size w w' := by
  have H := Lib.hid h
  have hb := h.bound
  have RM : Hid (rm ≤ 9223372036854775807) := Lib.hid (by simp [Lit.wf, IntKind.min, IntKind.max, IntKind.signed, IntKind.bits] at hr; omega)
  obtain ⟨R, hR⟩ : ∃ R, R = rm.toNat := ⟨_, rfl⟩
  have HR := Lib.hid hR
  have M := fun w ty => run_max1 rm w ty
  rw [← hR] at M
  clear h hr hR
  go_enter Try.func6, Try.ntmps6
  go_wp2_with fail
  refine (small_any _).mono ?_; rintro e w1 ⟨rfl, b1⟩
  have B1 := Lib.hid b1
  clear b1
  go_wp2_with fail
  refine (few_any a len cap b off f _ (H.out.kept B1.out)).mono ?_; rintro e w' ⟨t, rfl, rfl, ht⟩
  have HT := Lib.hid ht
  clear ht
  go_wp2_with fail
  refine (new_add (OwnL.start B1.out B1.out.size) rm RM.out (m := R) HR.out.symm).mono ?_
  rintro e w2 ⟨p, rfl, ho⟩
  have P : Hid (OwnL w.heap.size w w2 [Dk p ⟨R, [], [], [], false, 0⟩]) := Lib.hid ho
  clear ho
  cases t with
  | false =>
    go_wp2_with fail
    go_ret
    exact ⟨rfl, P.out.below⟩
  | true =>
    obtain ⟨hl, hs⟩ := HT.out rfl
    have HS := Lib.hid hs
    clear hs HT
    go_wp2_with fail
    go_loopw [8] (fun i wr => ∃ k : Nat, k ≤ len ∧ i = .int .i64 k ∧ ∃ s, Up R s ∧ Fits s k ∧ OwnL w.heap.size w wr [Dk p s]) (fun i _ => len - (intOf i).toNat)
    case atStart => exact ⟨0, Nat.zero_le _, rfl, _, up_0 R, ⟨Nat.le_refl _, Nat.le_refl _, Nat.le_refl _, Nat.le_refl _⟩, P.out⟩
    case round =>
      obtain ⟨k, hk, rfl, s, hup, hft, ho⟩ := hrel
      have Q := Lib.hid ho
      have UP := Lib.hid hup
      have FT := Lib.hid hft
      clear ho hup hft P
      by_cases hlt : k < len
      · have ha := H.out.head (by omega)
        have hc1 := H.out.capb.1
        have hc2 := H.out.capb.2
        subst ha
        have RN := Lib.hid (run_own Q.out (i := 0) rfl rfl (some ⟨b, off + k * 4, none⟩) 1 (cap - k) b (off + k * 4) _ (H.out.sub hlt) (fun j hj => HS.out _ (by omega)) FT.out (by omega))
        have UP1 := Lib.hid (UP.out.step (f k))
        have FT1 := Lib.hid (fits_step FT.out (f k))
        obtain ⟨s1, hs1⟩ : ∃ s1, s1 = s.step (f k) := ⟨_, rfl⟩
        rw [← hs1] at UP1 FT1
        have RN2 : Hid (Calls Try.prog 32 #[.pointer (some ⟨p, 0, none⟩), .slice (some ⟨b, off + k * 4, none⟩) 1 (cap - k)] wr fun e w' => e = .returned (.tuple #[]) ∧ OwnL w.heap.size w w' [Dk p s1]) := Lib.hid (by rw [hs1]; exact RN.out)
        clear RN hs1 Q UP FT
        go_wp2_with fail
        refine RN2.out.mono ?_; rintro e w3 ⟨rfl, ho⟩
        have Q := Lib.hid ho
        clear ho RN2
        obtain ⟨K, hK⟩ : ∃ K, K = s1.there := ⟨_, rfl⟩
        have hKn : K.length ≤ 65535 := by rw [hK]; have := FT1.out.there; omega
        have TT : Hid (total K ≤ R ∧ total K ≤ 4295000000) := Lib.hid ⟨by rw [hK]; exact UP1.out.tot, by
          obtain ⟨F, h⟩ := Q.out.it (i := 0) rfl
          have := total_le h.good.st
          rw [← hK] at this; omega⟩
        have SH : Hid (Short K) := Lib.hid (by obtain ⟨F, h⟩ := Q.out.it (i := 0) rfl; rw [hK]; exact h.good.st)
        have RI : Hid (Rising K) := Lib.hid (by rw [hK]; exact UP1.out.rise)
        have RDK : Hid (∀ q ∈ K, s1.read q.1 = (q.2, true)) := Lib.hid (fun q hq => UP1.out.read (by rw [← hK]; exact hq))
        have NA := Lib.hid (names_add Q.out (i := 0) rfl (FT1.out.mono (by omega)) (ns := K.map (·.1)) (by rw [hK]; exact UP1.out.names))
        rw [List.length_map] at NA
        clear hK Q
        go_wp2_with fail
        refine NA.out.mono ?_; rintro e w4 ⟨v, rfl, ho⟩
        obtain ⟨_, hrow, -⟩ := ho.it (i := 1) rfl
        obtain ⟨na, nc, hv, -⟩ := row_shape hrow
        subst hv
        have Q := Lib.hid ho
        clear ho hrow NA
        go_wp2_with fail
        go_loopw [9, 11] (fun n i wr => ∃ j : Nat, j ≤ K.length ∧ i = .int .i64 j ∧ (∃ N : Nat, n = .int .i64 N ∧ N = total (K.take j)) ∧ OwnL w.heap.size w wr [Dk p s1, RowOf 9 1 (.slice na K.length nc) K.length ((K.map (·.1)).map str)]) (fun _ i _ => K.length - (intOf i).toNat)
        case atStart => exact ⟨0, Nat.zero_le _, rfl, ⟨0, rfl, rfl⟩, Q.out⟩
        case round =>
          obtain ⟨j, hj, rfl, ⟨N, rfl, hN⟩, ho⟩ := hrel
          have Q1 := Lib.hid ho
          have HN := Lib.hid hN
          have hNb : N ≤ 4295000000 := by rw [hN]; exact Nat.le_trans (total_take_le K j) TT.out.2
          clear ho hN Q
          by_cases hjl : j < K.length
          · obtain ⟨q, hq⟩ : ∃ q, K[j]? = some q := ⟨_, List.getElem?_eq_getElem hjl⟩
            have hmem := List.mem_of_getElem? hq
            have HQ := Lib.hid hq
            obtain ⟨_, hrow, -⟩ := Q1.out.it (i := 1) rfl
            have HROW := Lib.hid hrow
            obtain ⟨g, c', hv, hcell⟩ := row_at hrow hjl
            obtain ⟨rfl, -, rfl⟩ := by simpa only [Value.slice.injEq] using hv
            obtain ⟨xn, hxn⟩ : ∃ x : ByteArray, x.data.toList = q.1 := ⟨⟨q.1.toArray⟩, rfl⟩
            obtain ⟨xd, hxd⟩ : ∃ x : ByteArray, x.data.toList = q.2 := ⟨⟨q.2.toArray⟩, rfl⟩
            have hcell1 : wr.cell? ⟨g, j, none⟩ = some (.string xn) := by
              rw [hcell, List.getElem?_map, List.getElem?_map, hq]
              simp only [Option.map_some]
              rw [str_of xn, hxn]
            have hxs : xd.size ≤ 65535 := by have := (SH.out _ hmem).2; rw [← hxd] at this; simpa using this
            have RD := Lib.hid (read_own (Q1.out.it (i := 0) rfl) xn (by have := (SH.out _ hmem).1; rw [← hxn] at this; simpa using this) (x := xd) (t := true) (by rw [hxn, hxd]; exact RDK.out _ hmem))
            have EN : Hid (N + xd.size = total (K.take (j + 1))) := Lib.hid (by rw [total_take_succ HQ.out, HN.out, ← hxd]; simp)
            have D1 : Hid (∀ nq, OwnL w.heap.size w (wr.drewN nq) _) := Lib.hid (fun nq => Q1.out.more (Keeps.drewN (fun _ => False) wr nq))
            by_cases hj0 : j = 0
            · subst hj0
              clear hrow hv hcell hq hmem hxn hxd
              go_wp2_with fail
              refine RD.out.mono ?_; rintro e w' ⟨rfl, rfl⟩
              go_wp2_with fail
              go_quiet (fail)
              go_wp2_with fail
              go_roundw
              case rel => exact ⟨1, by omega, rfl, ⟨N + xd.size, by go_num, EN.out⟩, D1.out _⟩
              case measure => simp [intOf]; omega
            · obtain ⟨j1, hj1⟩ : ∃ j1, j1 = j - 1 := ⟨_, rfl⟩
              have hj1l : j1 < K.length := by omega
              obtain ⟨q', hq'⟩ : ∃ q, K[j1]? = some q := ⟨_, List.getElem?_eq_getElem hj1l⟩
              obtain ⟨xm, hxm⟩ : ∃ x : ByteArray, x.data.toList = q'.1 := ⟨⟨q'.1.toArray⟩, rfl⟩
              obtain ⟨g2, c2, hv2, hcell2⟩ := row_at HROW.out hj1l
              obtain ⟨rfl, -, -⟩ := by simpa only [Value.slice.injEq, Option.some.injEq, Addr.mk.injEq, and_true] using hv2
              have hcell3 : wr.cell? ⟨g, j1, none⟩ = some (.string xm) := by
                rw [hcell2, List.getElem?_map, List.getElem?_map, hq']
                simp only [Option.map_some]
                rw [str_of xm, hxm]
              have hbb := rising_at RI.out hq' hq (by omega)
              obtain ⟨hle1, hle2⟩ := leq_no (x := xn) (y := xm) (by rw [hxn, hxm]; exact hbb)
              have hwr : IntKind.i64.wrap ((j : Int) - 1) = (j1 : Int) := by rw [IntWalk.i64_in _ (by omega)]; omega
              have h0j : 0 < j := by omega
              have HJ := Lib.hid hj1
              have HW := Lib.hid hwr
              clear hrow hv hcell hq hmem hxn hxd hj0 hj1 hq' hxm hv2 hcell2 hbb
              go_wp2_with fail
              refine RD.out.mono ?_; rintro e w' ⟨rfl, rfl⟩
              go_wp2_with fail
              go_quiet (fail)
              clear hwr
              go_wp2_with fail
              go_roundw
              case rel => exact ⟨j + 1, by omega, by go_num, ⟨N + xd.size, by go_num, EN.out⟩, D1.out _⟩
              case measure => simp [intOf]; omega
          · obtain rfl : j = K.length := by omega
            have hNR : N ≤ R := by have := HN.out; rw [this, List.take_length]; exact TT.out.1
            have Q2 : Hid (OwnL w.heap.size w wr [Dk p s1]) := Lib.hid (Q1.out.left (Os := [Dk p s1]))
            clear Q1
            go_wp2_with fail
            go_roundw
            case rel => exact ⟨k + 1, by omega, by go_num, s1, UP1.out, FT1.out, Q2.out⟩
            case measure => simp [intOf]; omega
      · obtain rfl : k = len := by omega
        go_wp2_with fail
        go_ret
        exact ⟨rfl, Q.out.below⟩
end Go.Proofs.Ytnijencmoceiaaa
