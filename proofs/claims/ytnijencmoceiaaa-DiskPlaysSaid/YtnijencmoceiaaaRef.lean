/-
  No statement is proved here: the document's files as rows: 'find', 'drop', 'put', as contracts.
-/
import Derived.Test.YtnijencmoceiaaaKeeps
import Derived.Deep.RegionHeld3
namespace Go.Proofs.Ytnijencmoceiaaa
set_option linter.unusedSimpArgs false
set_option linter.unusedVariables false
open Go.RowKit Go.Maps

def fc (p : Str × Str) : List Value := [str p.1, str p.2]
/-- A row of files. -/
abbrev FRow (w : World) (v : Value) (K : Files) : Prop := w.ownsRow 0 67 2 v K.length (K.flatMap fc)
theorem flat2_at : ∀ (K : Files) (k : Nat) (hk : k < K.length) (i : Nat), i < 2 → (K.flatMap fc)[k * 2 + i]? = (fc K[k])[i]?
  | [], _, hk, _, _ => absurd hk (Nat.not_lt_zero _)
  | e :: S, 0, _, i, hi => by
    simp only [List.flatMap_cons, Nat.zero_mul, Nat.zero_add, List.getElem_cons_zero]
    exact List.getElem?_append_left (by simp [fc]; omega)
  | e :: S, k + 1, hk, i, hi => by
    have h2 : (fc e).length = 2 := rfl
    simp only [List.flatMap_cons, List.getElem_cons_succ]
    rw [List.getElem?_append_right (by rw [h2]; omega), h2, show (k + 1) * 2 + i - 2 = k * 2 + i by omega]
    exact flat2_at S k (by simpa using hk) i hi
/-- A row of files, read. -/
theorem frow_at {w : World} {v : Value} {K : Files} (h : FRow w v K) {k : Nat} {q : Str × Str} (hq : K[k]? = some q) : ∃ g c, v = .slice (some ⟨g, 0, none⟩) K.length c ∧ w.cell? ⟨g, k * 2, none⟩ = some (str q.1) ∧ w.cell? ⟨g, k * 2 + 1, none⟩ = some (str q.2) := by
  obtain ⟨hk, rfl⟩ := List.getElem?_eq_some_iff.1 hq
  rcases h.2 with ⟨_, h2⟩ | ⟨g, cap, cur, hv, hb, r⟩
  · omega
  · have h' : w.ownsRow 0 67 2 (.slice (some ⟨g, 0, none⟩) K.length cap) K.length (K.flatMap fc) := ⟨h.1, .inr ⟨g, cap, cur, rfl, hb, r⟩⟩
    refine ⟨g, cap, hv, ?_, ?_⟩
    · have := h'.cellAt (k * 2) (by omega)
      rw [this]; exact flat2_at K k hk 0 (by omega)
    · have := h'.cellAt (k * 2 + 1) (by omega)
      rw [this]; exact flat2_at K k hk 1 (by omega)
theorem Try.info67 : (Try.prog.info? 67).map (fun i => (i.zero, i.size, i.bytes)) = some (some (.agg #[.string ByteArray.empty, .string ByteArray.empty]), 2, 32) := by kernel_rfl

/-- The place of a name. -/
def pos (K : Files) (a : Str) : Option Nat := K.findIdx? (fun p => p.1 == a)
def posI (K : Files) (a : Str) : Int := match pos K a with
  | some k => k
  | none => -1

set_option maxRecDepth 100000 in
set_option maxHeartbeats 1000000 in
theorem find_walk (fa : Option Addr) (n cap : Nat) (K : Files) (hKn : K.length = n) (a : ByteArray) (w : World) (h : w.ownsRow 0 67 2 (.slice fa n cap) n (K.flatMap fc)) (zz : Int) (hzz : posI K a.data.toList = zz) :
    Calls Try.prog 39 #[.slice fa n cap, .string a] w fun e w' => e = .returned (.int .i64 zz) ∧ w = w' := by
  have hb : n ≤ 9223372036854775807 := by obtain ⟨_, _, _, _, h⟩ := row_shape h; unfold maxLen at h; omega
  have H : Hid (FRow w (.slice fa n cap) K) := Lib.hid (by subst hKn; exact h)
  have HK := Lib.hid hKn
  have HZ := Lib.hid hzz
  clear h hKn hzz
  go_enter Try.func39, Try.ntmps39
  go_wp2
  go_loop [5] (fun i => ∃ k : Nat, k ≤ n ∧ i = .int .i64 k ∧ ∀ j p, j < k → K[j]? = some p → p.1 ≠ a.data.toList) (fun i => n - (intOf i).toNat)
  case atStart => exact ⟨0, Nat.zero_le _, rfl, fun j p hj => by omega⟩
  case round =>
    obtain ⟨k, hk, rfl, hno⟩ := hrel
    have NO := Lib.hid hno
    clear hno
    by_cases hlt : k < n
    · obtain ⟨q, hq⟩ : ∃ q, K[k]? = some q := ⟨_, List.getElem?_eq_getElem (by rw [HK.out]; exact hlt)⟩
      obtain ⟨g, c, hv, hc0, -⟩ := frow_at H.out hq
      rw [HK.out] at hv
      obtain ⟨rfl, -, rfl⟩ := by simpa only [Value.slice.injEq] using hv
      obtain ⟨xn, hxn⟩ : ∃ x : ByteArray, x.data.toList = q.1 := ⟨⟨q.1.toArray⟩, rfl⟩
      rw [← hxn, ← str_of] at hc0
      have HQ := Lib.hid hq
      have HX := Lib.hid hxn
      clear hq hv hxn
      by_cases e : xn = a
      · have hbq : (xn.toList == a.toList) = true := by rw [e]; exact beq_self_eq_true _
        have EQ : Hid ((k : Int) = posI K a.data.toList) := Lib.hid (by
          have : pos K a.data.toList = some k := by
            unfold pos
            rw [List.findIdx?_eq_some_iff_getElem]
            obtain ⟨hk', hq'⟩ := List.getElem?_eq_some_iff.1 HQ.out
            refine ⟨hk', by rw [hq', ← HX.out, e]; simp, fun j hj => ?_⟩
            have := NO.out j _ hj (List.getElem?_eq_getElem (by omega))
            simpa using this
          unfold posI; rw [this])
        clear e
        go_wp2
        go_ret
        exact ⟨ret_int (EQ.out.trans HZ.out), rfl⟩
      · have hbq : (xn.toList == a.toList) = false := by rw [ByteArray.toList_eq, ByteArray.toList_eq]; simpa using fun h => e (letters_inj (congrArg Array.toList h))
        have NX : Hid (∀ j p, j < k + 1 → K[j]? = some p → p.1 ≠ a.data.toList) := Lib.hid (fun j p hj hp => by
          by_cases ej : j = k
          · subst ej
            rw [HQ.out] at hp
            cases hp
            rw [← HX.out]
            exact fun h => e (letters_inj h)
          · exact NO.out j p (by omega) hp)
        clear e
        go_wp2
        go_round
        case rel => exact ⟨k + 1, by omega, by go_num, NX.out⟩
        case measure => simp [intOf]; omega
    · obtain rfl : k = n := by omega
      have EQ : Hid ((-1 : Int) = posI K a.data.toList) := Lib.hid (by
        have : pos K a.data.toList = none := by
          unfold pos
          rw [List.findIdx?_eq_none_iff]
          intro p hp
          obtain ⟨j, hj⟩ := List.getElem?_of_mem hp
          have hjl := (List.getElem?_eq_some_iff.1 hj).1
          have := NO.out j p (by rw [← HK.out]; exact hjl) hj
          simpa using this
        unfold posI; rw [this])
      go_wp2
      go_ret
      exact ⟨ret_int (EQ.out.trans HZ.out), rfl⟩
theorem frow_shape {w : World} {v : Value} {K : Files} (h : FRow w v K) : ∃ a c, v = .slice a K.length c := let ⟨a, c, h, _⟩ := row_shape h; ⟨a, c, h⟩
theorem find_at {w : World} {v : Value} {K : Files} (h : FRow w v K) (a : ByteArray) :
    Calls Try.prog 39 #[v, .string a] w fun e w' => e = .returned (.int .i64 (posI K a.data.toList)) ∧ w = w' := by
  obtain ⟨fa, c, rfl⟩ := frow_shape h
  exact find_walk fa _ c K rfl a w h _ rfl

/-- A row of files made anew. -/
def FFresh (w w' : World) (v : Value) (K : Files) : Prop := FRow w' v K ∧ Keeps (fun _ => False) w w' ∧ ∀ b, v.ownBlock = some b → w.heap.size ≤ b
theorem files_one (K : Files) : ∀ u ∈ K.flatMap fc, u.oneCell' = true := by
  intro u hu
  obtain ⟨p, _, hp⟩ := List.mem_flatMap.1 hu
  simp only [fc, List.mem_cons, List.not_mem_nil, or_false] at hp
  rcases hp with rfl | rfl <;> rfl
end Go.Proofs.Ytnijencmoceiaaa
