/-
  The walk of 'DiskApart': the call returns true and turns nothing that was there: for any file, any steps that do not name it, any numbers.
-/
import Derived.Test.YtnijencmoceiaaaRun
import Derived.Test.YtnijencmoceiaaaTorn
namespace Go.Proofs.Ytnijencmoceiaaa
set_option linter.unusedVariables false
open Go.RowKit Go.Maps

/-! ### the plain law -/
def Deed.off (a : Str) : Deed → Prop
  | .wr b _ => b ≠ a
  | .rn b c => b ≠ a ∧ c ≠ a
  | .rm b => b ≠ a
theorem look_off {a : Str} {x : Deed} (h : x.off a) (K : Files) : look (x.run K) a = look K a := by
  cases x with
  | wr b d => show look (putF K b d) a = _; rw [look_putF, if_neg (fun e => h e.symm)]
  | rn b c =>
    unfold Deed.run
    simp only
    split
    · rw [look_putF, if_neg (fun e => h.2 e.symm), look_dropF, if_neg (fun e => h.1 e.symm)]
    · rfl
  | rm b => show look (dropF K b) a = _; rw [look_dropF, if_neg (fun e => h e.symm)]
theorem torn_off {a : Str} {x y : Deed} (h : x.off a) {n : Int} (ht : x.torn n = some y) : y.off a := by
  unfold Deed.torn at ht
  split at ht
  · cases ht
  · cases x with
    | wr b d => cases ht; exact h
    | rn b c => cases ht; exact h
    | rm b => cases ht; exact h
theorem redo_off {a : Str} {ws : List Deed} (h : ∀ x ∈ ws, x.off a) (K : Files) (z : Nat → Int) : ∀ k, look (redo K ws z k) a = look K a
  | 0 => rfl
  | k + 1 => by
    cases hk : ws[k]? with
    | some x =>
      rw [redo_succ hk]
      unfold redo1
      split
      · rename_i y hy
        rw [look_off (torn_off (h x (List.mem_of_getElem? hk)) hy), redo_off h K z k]
      · exact redo_off h K z k
    | none =>
      show look (match ws[k]? with | some x => redo1 (redo K ws z k) x (z k) | none => redo K ws z k) a = _
      rw [hk]; exact redo_off h K z k

/-- A disk that has a file, synced, and nothing pending of it. -/
structure Safe (a x : Str) (s : St) : Prop where
  down : s.down = false
  armed : s.armed = 0
  kept : look s.kept a = some x
  there : look s.there a = some x
  waits : ∀ d ∈ s.waits, d.off a
theorem Safe.wait {a x : Str} {s : St} (h : Safe a x s) {d : Deed} (hd : d.off a) : Safe a x (s.wait d) := by
  refine ⟨?_, ?_, h.kept, ?_, ?_⟩
  · show (s.armed == 1) = false; rw [h.armed]; rfl
  · show s.armed - 1 = 0; rw [h.armed]
  · show look (d.run s.there) a = _; rw [look_off hd]; exact h.there
  · intro y hy
    rcases List.mem_append.1 hy with hy | hy
    · exact h.waits y hy
    · simp at hy; subst hy; exact hd
theorem Safe.step {a x : Str} {s : St} (h : Safe a x s) {e : StpB} (ha : e.a.data.toList ≠ a) (hb : e.b.data.toList ≠ a) : Safe a x (s.step e) := by
  unfold St.step
  split
  · unfold St.write
    split
    · exact h
    · split
      · exact h
      · exact h.wait ha
  · split
    · unfold St.asked
      split
      · exact h.wait ⟨ha, hb⟩
      · exact h
    · split
      · unfold St.asked
        split
        · exact h.wait ha
        · exact h
      · split
        · unfold St.sync
          rw [h.down, h.armed]
          exact ⟨by show (s.armed == 1) = false; rw [h.armed]; rfl, by show s.armed - 1 = 0; rw [h.armed], h.there, h.there, (fun _ hd => by cases hd)⟩
        · exact h
theorem Safe.run {a x : Str} {s : St} (h : Safe a x s) (f : Nat → StpB) : ∀ k, (∀ j, j < k → (f j).a.data.toList ≠ a ∧ (f j).b.data.toList ≠ a) → Safe a x (runN s f k)
  | 0, _ => h
  | k + 1, hf => (h.run f k (fun j hj => hf j (by omega))).step (hf k (by omega)).1 (hf k (by omega)).2
theorem Safe.read {a x : Str} {s : St} (h : Safe a x s) : s.read a = (x, true) := by
  unfold St.read
  rw [h.down]
  simp [lookD, h.there]
theorem Safe.back {a x : Str} {s : St} (h : Safe a x s) (z : Nat → Int) : (s.restart z).read a = (x, true) := by
  have : look (redo s.kept s.waits z s.waits.length) a = some x := by rw [redo_off h.waits]; exact h.kept
  show (if false = true then _ else (lookD (redo s.kept s.waits z s.waits.length) a, (look (redo s.kept s.waits z s.waits.length) a).isSome)) = _
  simp [lookD, this]
theorem safe_v2 (a x : Str) : Safe a x (v2 a x) := ⟨rfl, rfl, by simp [v2, look], by simp [v2, look], fun _ h => by cases h⟩

/-! ### the walk -/
theorem new_add {B : Nat} {w0 w : World} {Os : List Says} (h : OwnL B w0 w Os) (n : Int) (hn : n ≤ 9223372036854775807) {m : Nat} (hm : n.toNat = m) :
    Calls Try.prog 11 #[.int .i64 n] w fun e w' => ∃ p, e = .returned (.pointer (some ⟨p, 0, none⟩)) ∧ OwnL B w0 w' (Os ++ [Dk p ⟨m, [], [], [], false, 0⟩]) := by
  subst hm
  refine (new_at n hn w).mono ?_
  rintro e w' ⟨p, he, F, ho, hk, hf⟩
  exact ⟨p, he, h.add hk ho (Dk.framed _ _) hf⟩
theorem Ints.kept {w w' : World} {a : Option Addr} {len b off : Nat} {z : Nat → Int} (h : Ints w (fun b => w.heap.size ≤ b) a len b off z) (hb : Below w.heap.size w w') : Ints w' (fun b => w.heap.size ≤ b) a len b off z :=
  ⟨h.bound, h.head, fun j hj => (hb.cell (p := ⟨b, _, none⟩) (Nat.lt_of_not_le (h.off (by omega)))).trans (h.cell j hj), h.off, h.fits, h.past⟩
theorem restart_from {B p : Nat} {w : World} {s : St} (hf : Fits s 65535) {a : Option Addr} {len b off : Nat} {z : Nat → Int} (cap : Nat) (hz : Ints w (fun b => B ≤ b) a len b off z) {s' : St} (hs : s.restart z = s') :
    ActsFrom B Try.prog 23 #[.pointer (some ⟨p, 0, none⟩), .slice a len cap] w (Dk p s) (fun e => e = .returned (.tuple #[])) (Dk p s') := by
  subst hs
  exact fun F hF hB => restart_at hF a len cap b off z (hz.sub hB) (by have := hf.both; omega)

set_option maxRecDepth 100000 in
set_option maxHeartbeats 4000000 in
theorem apart_walk (n x : ByteArray) (a : Option Addr) (len cap b off : Nat) (f : Nat → StpB) (ka : Option Addr) (klen kcap kb koff : Nat) (z : Nat → Int) (w : World) (hn : n.size ≤ maxLen) (hx : x.size ≤ maxLen) (h : Stps w a len cap b off f) (hz : Ints w (fun b => w.heap.size ≤ b) ka klen kb koff z) :
    Calls Try.prog 5 #[.string n, .string x, .slice a len cap, .slice ka klen kcap] w fun e w' => e = .returned (.bool true) ∧ Below w.heap.size w w' := by
  have H := Lib.hid h
  have HZ := Lib.hid hz
  have hb := h.bound
  have hkb := hz.bound
  unfold maxLen at hn hx
  clear h hz
  by_cases hs : n.size ≤ 200 ∧ x.size ≤ 500 ∧ klen ≤ 100
  · obtain ⟨h1, h2, h3⟩ := hs
    clear hn hx hkb
    have LN : Hid (n.size ≤ 65535 ∧ x.size ≤ 65535 ∧ x.data.toList.length ≤ 500) := Lib.hid ⟨by omega, by omega, by simpa using h2⟩
    go_enter Try.func5, Try.ntmps5
    go_wp2_with fail
    refine (small_any _).mono ?_; rintro e w1 ⟨rfl, b1⟩
    have B1 := Lib.hid b1
    clear b1
    go_wp2_with fail
    refine (few_any a len cap b off f _ (H.out.kept B1.out)).mono ?_; rintro e w' ⟨t, rfl, rfl, ht⟩
    have HT := Lib.hid ht
    clear ht
    go_wp2_with fail
    refine (new_add (OwnL.start B1.out B1.out.size) 1048576 (by decide) (m := 1048576) rfl).mono ?_
    rintro e w2 ⟨p, rfl, ho⟩
    have P : Hid (OwnL w.heap.size w w2 [Dk p v0]) := Lib.hid ho
    clear ho
    cases t with
    | false =>
      go_wp2_with fail
      go_ret
      exact ⟨rfl, P.out.below⟩
    | true =>
      obtain ⟨hl, hs⟩ := HT.out rfl
      have HS := Lib.hid hs
      clear hs HT
      have HE := Lib.hid (H.out.kept P.out.below)
      go_wp2_with fail
      go_loop [12] (fun i => ∃ k : Nat, k ≤ len ∧ i = .int .i64 k ∧ ∀ j, j < k → (f j).a.data.toList ≠ n.data.toList ∧ (f j).b.data.toList ≠ n.data.toList) (fun i => len - (intOf i).toNat)
      case atStart => exact ⟨0, Nat.zero_le _, rfl, fun j hj => by omega⟩
      case round =>
        obtain ⟨k, hk, rfl, hno⟩ := hrel
        have NO := Lib.hid hno
        clear hno
        by_cases hlt : k < len
        · have hix := fun W => HE.out.index W k hlt
          have c1 := HE.out.c1 k hlt
          have c2 := HE.out.c2 k hlt
          have EX : Hid (∀ xa xb : ByteArray, xa = (f k).a → xb = (f k).b → xa ≠ n → xb ≠ n → ∀ j, j < k + 1 → (f j).a.data.toList ≠ n.data.toList ∧ (f j).b.data.toList ≠ n.data.toList) := Lib.hid (fun xa xb ea eb ha hb j hj => by
            by_cases e : j = k
            · subst e; subst ea eb; exact ⟨fun e => ha (letters_inj e), fun e => hb (letters_inj e)⟩
            · exact NO.out j (by omega))
          obtain ⟨xa, hxa⟩ : ∃ xa, xa = (f k).a := ⟨_, rfl⟩
          obtain ⟨xb, hxb⟩ : ∃ xb, xb = (f k).b := ⟨_, rfl⟩
          rw [← hxa] at c1
          rw [← hxb] at c2
          have HX := Lib.hid (And.intro hxa hxb)
          clear hxa hxb
          by_cases ea : xa = n
          · have hea : (xa.toList == n.toList) = true := by rw [ea]; exact beq_self_eq_true _
            clear ea
            go_wp2
            go_ret
            exact ⟨rfl, P.out.below⟩
          · have hea : (xa.toList == n.toList) = false := by rw [ByteArray.toList_eq, ByteArray.toList_eq]; simpa using fun h => ea (letters_inj (congrArg Array.toList h))
            by_cases eb : xb = n
            · have heb : (xb.toList == n.toList) = true := by rw [eb]; exact beq_self_eq_true _
              clear ea eb
              go_wp2
              go_ret
              exact ⟨rfl, P.out.below⟩
            · have heb : (xb.toList == n.toList) = false := by rw [ByteArray.toList_eq, ByteArray.toList_eq]; simpa using fun h => eb (letters_inj (congrArg Array.toList h))
              have HH := Lib.hid (And.intro ea eb)
              clear ea eb
              go_wp2
              go_round
              case rel => exact ⟨k + 1, by omega, by go_num, EX.out _ _ HX.out.1 HX.out.2 HH.out.1 HH.out.2⟩
              case measure => simp [intOf]; omega
        · obtain rfl : k = len := by omega
          have SF := Lib.hid ((safe_v2 n.data.toList x.data.toList).run f k NO.out)
          have FT : Hid (Fits (runN (v2 n.data.toList x.data.toList) f k) 65535) := Lib.hid ((fits_run (n := 1) ⟨by simp [v2], by simp [v2], by simp [v2], by simp [v2]⟩ f k).mono (by omega))
          clear NO HE
          go_wp2_with fail
          refine (P.out.acts (i := 0) rfl (Dk.framed _ _) (write_acts (fit_v _ (by decide)) n x LN.out.1 LN.out.2.1 (ww0 _ _ LN.out.2.2).1 (ww0 _ _ LN.out.2.2).2).from).mono ?_; rintro e w3 ⟨rfl, h⟩
          have P1 : Hid (OwnL w.heap.size w w3 [Dk p (v1 n.data.toList x.data.toList)]) := Lib.hid h
          clear h P
          go_wp2_with fail
          refine (P1.out.acts (i := 0) rfl (Dk.framed _ _) (sync_acts (ww1 _ _).1 (ww1 _ _).2).from).mono ?_; rintro e w4 ⟨rfl, h⟩
          have P2 : Hid (OwnL w.heap.size w w4 [Dk p (v2 n.data.toList x.data.toList)]) := Lib.hid h
          clear h P1
          go_wp2_with fail
          refine (run_own P2.out (i := 0) rfl rfl a k cap b off f H.out HS.out (n := 1) ⟨by simp [v2], by simp [v2], by simp [v2], by simp [v2]⟩ (by omega)).mono ?_; rintro e w5 ⟨rfl, h⟩
          have P3 : Hid (OwnL w.heap.size w w5 [Dk p (runN (v2 n.data.toList x.data.toList) f k)]) := Lib.hid h
          clear h P2
          go_wp2_with fail
          refine (read_own (P3.out.it (i := 0) rfl) n LN.out.1 SF.out.read).mono ?_; rintro e w' ⟨rfl, rfl⟩
          go_wp2_with fail
          refine (P3.out.acts (i := 0) rfl (Dk.framed _ _) (restart_from FT.out kcap (HZ.out.kept P3.out.below) rfl)).mono ?_; rintro e w6 ⟨rfl, h⟩
          have P4 : Hid (OwnL w.heap.size w w6 [Dk p ((runN (v2 n.data.toList x.data.toList) f k).restart z)]) := Lib.hid h
          clear h P3
          go_wp2_with fail
          refine (read_own (P4.out.it (i := 0) rfl) n LN.out.1 (SF.out.back z)).mono ?_; rintro e w' ⟨rfl, rfl⟩
          go_wp2_with fail
          go_ret
          exact ⟨rfl, P4.out.below⟩
  · rcases (show 200 < n.size ∨ (n.size ≤ 200 ∧ 500 < x.size) ∨ (n.size ≤ 200 ∧ x.size ≤ 500 ∧ 100 < klen) by omega) with h | ⟨h, h'⟩ | ⟨h, h', h''⟩
    all_goals
      clear hs
      go_enter Try.func5, Try.ntmps5
      go_wp2_with fail
      refine (small_any _).mono ?_; rintro e w1 ⟨rfl, b1⟩
      have B1 := Lib.hid b1
      clear b1
      go_wp2_with fail
      refine (few_any a len cap b off f _ (H.out.kept B1.out)).mono ?_; rintro e w' ⟨t, rfl, rfl, ht⟩
      clear ht
      go_wp2_with fail
      refine (new_add (OwnL.start B1.out B1.out.size) 1048576 (by decide) (m := 1048576) rfl).mono ?_
      rintro e w2 ⟨p, rfl, ho⟩
      have P : Hid (OwnL w.heap.size w w2 [Dk p v0]) := Lib.hid ho
      clear ho
      cases t
      all_goals
        go_wp2_with fail
        go_ret
        exact ⟨rfl, P.out.below⟩
end Go.Proofs.Ytnijencmoceiaaa
