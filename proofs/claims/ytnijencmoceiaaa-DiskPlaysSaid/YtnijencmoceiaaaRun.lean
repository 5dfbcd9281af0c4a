/-
  No statement is proved here: 'run': steps are done, one by one, to one of the call's own disks.
-/
import Derived.Test.YtnijencmoceiaaaOwn
namespace Go.Proofs.Ytnijencmoceiaaa
set_option linter.unusedVariables false
open Go.RowKit Go.Maps

/-- One step. -/
def St.step (s : St) (x : StpB) : St :=
  if kindOf x.which = 0 ∨ kindOf x.which = 6 ∨ kindOf x.which = 7 then s.write x.a.data.toList x.b.data.toList
  else if kindOf x.which = 1 then s.asked x.a.data.toList (.rn x.a.data.toList x.b.data.toList)
  else if kindOf x.which = 2 then s.asked x.a.data.toList (.rm x.a.data.toList)
  else if kindOf x.which = 3 then s.sync else s
def runN (s : St) (f : Nat → StpB) : Nat → St
  | 0 => s
  | k + 1 => (runN s f k).step (f k)

theorem fits_wait {s : St} {n : Nat} (h : Fits s n) (x : Deed) : Fits (s.wait x) (n + 1) := by
  have h1 := h.kept
  have h2 := h.there
  have h3 := h.waits
  have h4 := h.both
  have h5 := len_run s.there x
  refine ⟨?_, ?_, ?_, ?_⟩
  · show s.kept.length ≤ _; omega
  · show (x.run s.there).length ≤ _; omega
  · show (s.waits ++ [x]).length ≤ _; simp; omega
  · show s.kept.length + (s.waits ++ [x]).length ≤ _; simp; omega
theorem Fits.mono {s : St} {n m : Nat} (h : Fits s n) (hm : n ≤ m) : Fits s m := ⟨Nat.le_trans h.kept hm, Nat.le_trans h.there hm, Nat.le_trans h.waits hm, Nat.le_trans h.both hm⟩
theorem fits_write {s : St} {n : Nat} (h : Fits s n) (a d : Str) : Fits (s.write a d) (n + 1) := by
  unfold St.write
  split
  · exact h.mono (by omega)
  · split
    · exact h.mono (by omega)
    · exact fits_wait h _
theorem fits_asked {s : St} {n : Nat} (h : Fits s n) (a : Str) (x : Deed) : Fits (s.asked a x) (n + 1) := by
  unfold St.asked
  split
  · exact fits_wait h _
  · exact h.mono (by omega)
theorem fits_sync {s : St} {n : Nat} (h : Fits s n) : Fits s.sync n := by
  unfold St.sync
  split
  · exact h
  · split
    · exact ⟨h.kept, h.there, h.waits, h.both⟩
    · exact ⟨h.there, h.there, Nat.zero_le _, by have := h.there; simpa using this⟩
theorem fits_step {s : St} {n : Nat} (h : Fits s n) (x : StpB) : Fits (s.step x) (n + 1) := by
  unfold St.step
  split
  · exact fits_write h _ _
  · split
    · exact fits_asked h _ _
    · split
      · exact fits_asked h _ _
      · split
        · exact (fits_sync h).mono (by omega)
        · exact h.mono (by omega)
theorem fits_run {s : St} {n : Nat} (h : Fits s n) (f : Nat → StpB) : ∀ k, Fits (runN s f k) (n + k)
  | 0 => h
  | k + 1 => fits_step (fits_run h f k) (f k)

set_option maxRecDepth 100000 in
set_option maxHeartbeats 4000000 in
theorem run_own {B p : Nat} {w0 w : World} {Os : List Says} {i : Nat} {s : St} (h : OwnL B w0 w Os) (hi : Os[i]? = some (Dk p s)) (hB : B = w0.heap.size) (a : Option Addr) (len cap b off : Nat) (f : Nat → StpB) (hl : Stps w0 a len cap b off f)
    (hs : ∀ j, j < len → (f j).a.size ≤ 200 ∧ (f j).b.size ≤ 500 ∧ (f j).nl ≤ 50) {n : Nat} (hf : Fits s n) (hn : n + len ≤ 65535) :
    Calls Try.prog 32 #[.pointer (some ⟨p, 0, none⟩), .slice a len cap] w fun e w' => e = .returned (.tuple #[]) ∧ OwnL B w0 w' (Os.set i (Dk p (runN s f len))) := by
  have hil := (List.getElem?_eq_some_iff.1 hi).1
  have hset : ∀ k, (Os.set i (Dk p (runN s f k)))[i]? = some (Dk p (runN s f k)) := fun k => List.getElem?_set_self hil
  have S0 : Hid (OwnL B w0 w (Os.set i (Dk p (runN s f 0)))) := Lib.hid (by
    show OwnL B w0 w (Os.set i (Dk p s))
    have e : Os.set i (Dk p s) = Os := by
      apply List.ext_getElem?
      intro j
      by_cases ej : i = j
      · subst ej; rw [List.getElem?_set_self hil, hi]
      · rw [List.getElem?_set_ne ej]
    rw [e]; exact h)
  have HL := Lib.hid hl
  have HS := Lib.hid hs
  have FT : Hid (∀ k, k ≤ len → Fits (runN s f k) 65535) := Lib.hid (fun k hk => (fits_run hf f k).mono (by omega))
  have HSET := Lib.hid hset
  have hb := hl.bound
  have HB := Lib.hid hB
  clear h hi hB hl hs hf hn hset hil
  go_enter Try.func32, Try.ntmps32
  go_wp2_with fail
  go_loopw [4] (fun i' wr => ∃ k : Nat, k ≤ len ∧ i' = .int .i64 k ∧ OwnL B w0 wr (Os.set i (Dk p (runN s f k)))) (fun i' _ => len - (intOf i').toNat)
  case atStart => exact ⟨0, Nat.zero_le _, rfl, S0.out⟩
  case round =>
    obtain ⟨k, hk, rfl, ho⟩ := hrel
    have Q := Lib.hid ho
    clear ho
    by_cases hlt : k < len
    · have He := Lib.hid (HL.out.kept (by rw [← HB.out]; exact Q.out.below))
      have hx : ∀ W, (Instr.indexAt 22 (.slice a len cap) (.int .i64 k)).run Try.prog W = .ok (.pointer (some ⟨b, off + k * 4, none⟩)) W := fun W => He.out.index W k hlt
      have c0 := He.out.c0 k hlt
      have c1 := He.out.c1 k hlt
      have c2 := He.out.c2 k hlt
      have c3 := He.out.c3 k hlt
      have SZ := Lib.hid (HS.out k hlt)
      have FK := Lib.hid (FT.out k hk)
      have RS : Hid (runN s f (k + 1) = (runN s f k).step (f k)) := Lib.hid rfl
      have SET : Hid (∀ s1 s2 : St, (Os.set i (Dk p s1)).set i (Dk p s2) = Os.set i (Dk p s2)) := Lib.hid (fun s1 s2 => List.set_set ..)
      generalize f k = x at *
      obtain ⟨wh, xa, xb, nh, nl, nc, nb, no, z⟩ := x
      simp only at c0 c1 c2 c3
      have hkd := (kind_eq wh).1
      have hk8 := (kind_eq wh).2
      have KD : Hid (kindOf wh = kindOf wh) := Lib.hid rfl
      generalize hq : kindOf wh = q at *
      have HQ := Lib.hid hq
      clear hq
      have SA : Hid (xa.size ≤ 65535 ∧ xb.size ≤ 65535) := Lib.hid ⟨by have := SZ.out.1; simp only at this; omega, by have := SZ.out.2.1; simp only at this; omega⟩
      have Q1 := Lib.hid (Q.out.more ((Keeps.refl (fun _ => False) wr).alloc (.cells #[.int .i64 wh, .string xa, .string xb, .slice nh nl nc] 31)))
      have hcase : q = 0 ∨ q = 1 ∨ q = 2 ∨ q = 3 ∨ q = 4 ∨ q = 5 ∨ q = 6 ∨ q = 7 := by omega
      rcases hcase with rfl | rfl | rfl | rfl | rfl | rfl | rfl | rfl
      · have E : Hid (runN s f (k + 1) = (runN s f k).write xa.data.toList xb.data.toList) := Lib.hid (by rw [RS.out]; unfold St.step; simp only; rw [HQ.out]; rfl)
        have C := Lib.hid (Q1.out.acts (HSET.out k) (Dk.framed _ _) (write_acts FK.out xa xb SA.out.1 SA.out.2 rfl rfl).from)
        clear FK RS HQ Q1 He
        go_wp2_with fail
        refine C.out.mono ?_; rintro e w2 ⟨rfl, h⟩
        have R : Hid (OwnL B w0 w2 (Os.set i (Dk p (runN s f (k + 1))))) := Lib.hid (by rw [E.out]; rw [SET.out] at h; exact h)
        clear h C
        go_wp2_with fail
        go_roundw
        case rel => exact ⟨k + 1, by omega, by go_num, R.out⟩
        case measure => simp [intOf]; omega
      · have E : Hid (runN s f (k + 1) = (runN s f k).asked xa.data.toList (.rn xa.data.toList xb.data.toList)) := Lib.hid (by rw [RS.out]; unfold St.step; simp only; rw [HQ.out]; rfl)
        have C := Lib.hid (Q1.out.acts (HSET.out k) (Dk.framed _ _) (rename_acts FK.out xa xb SA.out.1 SA.out.2 rfl rfl).from)
        clear FK RS HQ Q1 He
        go_wp2_with fail
        refine C.out.mono ?_; rintro e w2 ⟨rfl, h⟩
        have R : Hid (OwnL B w0 w2 (Os.set i (Dk p (runN s f (k + 1))))) := Lib.hid (by rw [E.out]; rw [SET.out] at h; exact h)
        clear h C
        go_wp2_with fail
        go_roundw
        case rel => exact ⟨k + 1, by omega, by go_num, R.out⟩
        case measure => simp [intOf]; omega
      · have E : Hid (runN s f (k + 1) = (runN s f k).asked xa.data.toList (.rm xa.data.toList)) := Lib.hid (by rw [RS.out]; unfold St.step; simp only; rw [HQ.out]; rfl)
        have C := Lib.hid (Q1.out.acts (HSET.out k) (Dk.framed _ _) (remove_acts FK.out xa SA.out.1 rfl rfl).from)
        clear FK RS HQ Q1 He
        go_wp2_with fail
        refine C.out.mono ?_; rintro e w2 ⟨rfl, h⟩
        have R : Hid (OwnL B w0 w2 (Os.set i (Dk p (runN s f (k + 1))))) := Lib.hid (by rw [E.out]; rw [SET.out] at h; exact h)
        clear h C
        go_wp2_with fail
        go_roundw
        case rel => exact ⟨k + 1, by omega, by go_num, R.out⟩
        case measure => simp [intOf]; omega
      · have E : Hid (runN s f (k + 1) = (runN s f k).sync) := Lib.hid (by rw [RS.out]; unfold St.step; simp only; rw [HQ.out]; rfl)
        have C := Lib.hid (Q1.out.acts (HSET.out k) (Dk.framed _ _) (sync_acts rfl rfl).from)
        clear FK RS HQ Q1 He
        go_wp2_with fail
        refine C.out.mono ?_; rintro e w2 ⟨rfl, h⟩
        have R : Hid (OwnL B w0 w2 (Os.set i (Dk p (runN s f (k + 1))))) := Lib.hid (by rw [E.out]; rw [SET.out] at h; exact h)
        clear h C
        go_wp2_with fail
        go_roundw
        case rel => exact ⟨k + 1, by omega, by go_num, R.out⟩
        case measure => simp [intOf]; omega
      · have E : Hid (runN s f (k + 1) = runN s f k) := Lib.hid (by rw [RS.out]; unfold St.step; simp only; rw [HQ.out]; rfl)
        have R : Hid (OwnL B w0 (wr.alloc (.cells #[.int .i64 wh, .string xa, .string xb, .slice nh nl nc] 31)) (Os.set i (Dk p (runN s f (k + 1))))) := Lib.hid (by rw [E.out]; exact Q1.out)
        clear FK RS HQ Q1 He
        go_wp2_with fail
        go_roundw
        case rel => exact ⟨k + 1, by omega, by go_num, R.out⟩
        case measure => simp [intOf]; omega
      · have E : Hid (runN s f (k + 1) = runN s f k) := Lib.hid (by rw [RS.out]; unfold St.step; simp only; rw [HQ.out]; rfl)
        have R : Hid (OwnL B w0 (wr.alloc (.cells #[.int .i64 wh, .string xa, .string xb, .slice nh nl nc] 31)) (Os.set i (Dk p (runN s f (k + 1))))) := Lib.hid (by rw [E.out]; exact Q1.out)
        clear FK RS HQ Q1 He
        go_wp2_with fail
        go_roundw
        case rel => exact ⟨k + 1, by omega, by go_num, R.out⟩
        case measure => simp [intOf]; omega
      · have E : Hid (runN s f (k + 1) = (runN s f k).write xa.data.toList xb.data.toList) := Lib.hid (by rw [RS.out]; unfold St.step; simp only; rw [HQ.out]; rfl)
        have C := Lib.hid (Q1.out.acts (HSET.out k) (Dk.framed _ _) (write_acts FK.out xa xb SA.out.1 SA.out.2 rfl rfl).from)
        clear FK RS HQ Q1 He
        go_wp2_with fail
        refine C.out.mono ?_; rintro e w2 ⟨rfl, h⟩
        have R : Hid (OwnL B w0 w2 (Os.set i (Dk p (runN s f (k + 1))))) := Lib.hid (by rw [E.out]; rw [SET.out] at h; exact h)
        clear h C
        go_wp2_with fail
        go_roundw
        case rel => exact ⟨k + 1, by omega, by go_num, R.out⟩
        case measure => simp [intOf]; omega
      · have E : Hid (runN s f (k + 1) = (runN s f k).write xa.data.toList xb.data.toList) := Lib.hid (by rw [RS.out]; unfold St.step; simp only; rw [HQ.out]; rfl)
        have C := Lib.hid (Q1.out.acts (HSET.out k) (Dk.framed _ _) (write_acts FK.out xa xb SA.out.1 SA.out.2 rfl rfl).from)
        clear FK RS HQ Q1 He
        go_wp2_with fail
        refine C.out.mono ?_; rintro e w2 ⟨rfl, h⟩
        have R : Hid (OwnL B w0 w2 (Os.set i (Dk p (runN s f (k + 1))))) := Lib.hid (by rw [E.out]; rw [SET.out] at h; exact h)
        clear h C
        go_wp2_with fail
        go_roundw
        case rel => exact ⟨k + 1, by omega, by go_num, R.out⟩
        case measure => simp [intOf]; omega
    · obtain rfl : k = len := by omega
      go_wp2_with fail
      go_end0
      exact ⟨rfl, Q.out⟩
end Go.Proofs.Ytnijencmoceiaaa
