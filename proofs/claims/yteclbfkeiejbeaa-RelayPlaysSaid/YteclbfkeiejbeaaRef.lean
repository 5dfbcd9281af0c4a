/-
  No statement is proved here: the document's relay as an object ('RRel'); its 'way', its 'Has', as contracts.
-/
import Derived.Test.YteclbfkeiejbeaaParts
namespace Go.Proofs.Yteclbfkeiejbeaa
open Go.RowKit Go.Maps

def putCells (x : Int × Str) : List Value := [.int .i64 x.1, str x.2]
theorem Try.info53 : (Try.prog.info? 53).map (fun i => (i.zero, i.size, i.bytes)) = some (some (.agg #[.int .i64 0, .string ByteArray.empty]), 2, 24) := by kernel_rfl

/-- The document's relay behind the pointer to block p. -/
def RRel (p : Nat) (s : St) (fair : Bool) (zs : List Int) (a0 : Option Addr) (len0 cap0 : Nat) (w : World) (F : Nat → Prop) : Prop :=
  ∃ sk sa ss, Obj 32 p [sk, sa, ss, .slice a0 len0 cap0, .bool fair] [Part.row 53 2 sk s.kept.length (s.kept.flatMap putCells), Part.row 9 1 sa s.all.length (s.all.map str), Part.row 34 4 ss s.seen.length (s.seen.flatMap evCells), Part.plain, Part.plain] w F ∧
    s.ways = (if fair then [] else zs) ∧ zs.length = len0 ∧ (s.kept.map (·.1)).Nodup ∧ s.kept.length ≤ s.seen.length ∧ s.all.length ≤ s.seen.length ∧ (∀ n x, look s.kept n = some x → x.length ≤ 65535) ∧ (∀ z ∈ zs, z ≤ 9223372036854775807)
theorem RRel.framed (p : Nat) (s : St) (fair : Bool) (zs : List Int) (a0 : Option Addr) (len0 cap0 : Nat) : Framed (RRel p s fair zs a0 len0 cap0) :=
  ⟨fun _ _ ⟨_, _, _, h, _⟩ => h.lt, fun _ _ _ _ ⟨_, _, _, h, r⟩ hk hd => ⟨_, _, _, h.kept hk hd, r⟩⟩

/-- The ways that came in, read at an index. -/
theorem Ways.at' {w : World} {a : Option Addr} {len cap : Nat} {zs : List Int} (h : Ways w a len cap zs) {j : Nat} (hj : j < len) :
    ∃ b off, a = some ⟨b, off, none⟩ ∧ w.cell? ⟨b, off + j, none⟩ = some (.int .i64 (zs.getD j 0)) := by
  have hlen : zs.length = len := by have := h.src.length; simpa using this
  cases ha : a with
  | none => have := (h.src.none ha).1; omega
  | some ad =>
    have hc := h.src.cells ad ha
    obtain ⟨b, off, spot⟩ := ad
    have h0 := hc j _ (by simp [show j < zs.length by omega]; rfl)
    have hs : spot = none := by
      have h00 := hc 0 _ (by simp [show 0 < zs.length by omega]; rfl)
      simpa [Addr.add] using World.cell?_spot h00
    subst hs
    rw [Addr.add_lit] at h0
    exact ⟨b, off, rfl, by rw [h0]; simp [List.getD, show j < zs.length by omega]⟩

theorem run_max1 (z : Int) (w : World) (ty : TypeId) : (Builtin.max_ #[3, 3] ty #[.int .i64 z, .int .i64 0]).run Try.prog w = .ok (.int .i64 (z.toNat : Int)) w := by
  simp [Builtin.max_, Builtin.max2]
  omega

set_option maxHeartbeats 1000000 in
theorem rway_walk (p n c n0 c0 : Nat) (qa a0 : Option Addr) (fair : Bool) (wy : Nat) (w : World) (c2 : w.cell? ⟨p, 2, none⟩ = some (.slice qa n c)) (c3 : w.cell? ⟨p, 3, none⟩ = some (.slice a0 n0 c0)) (c4 : w.cell? ⟨p, 4, none⟩ = some (.bool fair))
    (hw0 : fair = true ∨ n0 = 0 → wy = 0) (hw1 : fair = false → n0 ≠ 0 → ∃ b off z, a0 = some ⟨b, off, none⟩ ∧ w.cell? ⟨b, off + n % n0, none⟩ = some (.int .i64 z) ∧ wy = z.toNat) (hn0 : n0 ≤ 9223372036854775807) :
    Calls Try.prog 22 #[.pointer (some ⟨p, 0, none⟩)] w fun e w' => e = .returned (.int .i64 wy) ∧ Keeps (fun _ => False) w w' := by
  cases fair with
  | true =>
    have e := hw0 (.inl rfl)
    subst e
    clear hw0 hw1
    go_enter Try.func22, Try.ntmps22
    go_wp2_with fail
    go_ret
    exact ⟨rfl, Keeps.refl _ _⟩
  | false =>
    by_cases h0 : n0 = 0
    · have e := hw0 (.inr h0)
      subst e h0
      clear hw0 hw1
      go_enter Try.func22, Try.ntmps22
      go_wp2_with fail
      go_ret
      exact ⟨rfl, Keeps.refl _ _⟩
    · obtain ⟨b, off, z, rfl, hz, hwy⟩ := hw1 rfl h0
      have hlt : n % n0 < n0 := Nat.mod_lt _ (by omega)
      have M := run_max1 z
      rw [← hwy] at M
      have rm : (n : Int).tmod (n0 : Int) = ((n % n0 : Nat) : Int) := (Int.ofNat_tmod n n0).symm
      clear hw0 hw1
      generalize hq : n % n0 = q at *
      clear hq hwy
      go_enter Try.func22, Try.ntmps22
      go_wp2_with fail
      go_quiet (fail)
      go_wp2_with fail
      go_ret
      exact ⟨rfl, Keeps.drewN _ _ _⟩

theorem rway_at {p : Nat} {s : St} {fair : Bool} {zs : List Int} {a0 : Option Addr} {len0 cap0 : Nat} {w : World} (h : ∃ F, RRel p s fair zs a0 len0 cap0 w F) (hz : Ways w a0 len0 cap0 zs) (wy : Nat) (hwy : s.way = wy) :
    Calls Try.prog 22 #[.pointer (some ⟨p, 0, none⟩)] w fun e w' => e = .returned (.int .i64 wy) ∧ Keeps (fun _ => False) w w' := by
  obtain ⟨F, sk, sa, ss, h, hway, hlen, _⟩ := h
  obtain ⟨qa, c, hss, -⟩ := row_shape (h.part (i := 2) rfl)
  have c2 := h.cell (i := 2) rfl
  rw [hss] at c2
  refine rway_walk p s.seen.length c len0 cap0 qa a0 fair wy w c2 (h.cell (i := 3) rfl) (h.cell (i := 4) rfl) ?_ ?_ hz.bound
  · intro h0
    rw [← hwy]; unfold St.way
    rw [if_pos]
    rw [hway]
    rcases h0 with h0 | h0
    · rw [h0]; rfl
    · split
      · rfl
      · exact List.eq_nil_of_length_eq_zero (by omega)
  · intro hf h0
    have hlt : s.seen.length % len0 < len0 := Nat.mod_lt _ (by omega)
    obtain ⟨b, off, ha, hc⟩ := hz.at' hlt
    refine ⟨b, off, _, ha, hc, ?_⟩
    have hw : s.ways = zs := by rw [hway, hf]; rfl
    rw [← hwy]; unfold St.way
    rw [if_neg (by rw [hw]; intro e; rw [e] at hlen; simp at hlen; omega), hw, hlen]

/-- The first of a row of puts that bears a name. -/
theorem look_hit {K : List (Int × Str)} {n : Int} {k : Nat} (hk : k < K.length) (hn : ∀ j (h : j < K.length), j < k → K[j].1 ≠ n) (he : K[k].1 = n) : look K n = some K[k].2 := by
  induction K generalizing k with
  | nil => simp at hk
  | cons x K ih =>
    unfold look at ih ⊢
    cases k with
    | zero => simp at he; simp [he]
    | succ k =>
      have h0 : x.1 ≠ n := hn 0 (by simp) (by omega)
      have h1 : (x.1 == n) = false := by simpa using h0
      simp only [List.find?_cons, h1, List.getElem_cons_succ]
      exact ih (by simpa using hk) (fun j h hj => hn (j + 1) (by simpa using h) (by omega)) (by simpa using he)
theorem look_miss {K : List (Int × Str)} {n : Int} (hn : ∀ j (h : j < K.length), K[j].1 ≠ n) : look K n = none := by
  unfold look
  rw [List.find?_eq_none.2]
  · rfl
  · intro x hx
    obtain ⟨j, hj, rfl⟩ := List.getElem_of_mem hx
    simpa using hn j hj

theorem put_flat : ∀ (K : List (Int × Str)) (k : Nat) (hk : k < K.length) (i : Nat), i < 2 → (K.flatMap putCells)[k * 2 + i]? = (putCells K[k])[i]?
  | [], _, hk, _, _ => absurd hk (Nat.not_lt_zero _)
  | e :: K, 0, _, i, hi => by
    simp only [List.flatMap_cons, Nat.zero_mul, Nat.zero_add, List.getElem_cons_zero]
    exact List.getElem?_append_left (by simp [putCells]; omega)
  | e :: K, k + 1, hk, i, hi => by
    have h4 : (putCells e).length = 2 := rfl
    simp only [List.flatMap_cons, List.getElem_cons_succ]
    rw [List.getElem?_append_right (by rw [h4]; omega), h4, show (k + 1) * 2 + i - 2 = k * 2 + i by omega]
    exact put_flat K k (by simpa using hk) i hi

set_option maxHeartbeats 1000000 in
theorem rhas_walk (p c : Nat) (ak : Option Addr) (K : List (Int × Str)) (n : Int) (w : World) (c0 : w.cell? ⟨p, 0, none⟩ = some (.slice ak K.length c)) (hr : w.ownsRow 0 53 2 (.slice ak K.length c) K.length (K.flatMap putCells)) (x : ByteArray) (t : Bool) (hx : lookD K n = x.data.toList) (ht : (look K n).isSome = t) :
    Calls Try.prog 17 #[.pointer (some ⟨p, 0, none⟩), .int .i64 n] w fun e w' => e = .returned (.tuple #[.string x, .bool t]) ∧ w = w' := by
  have hb : K.length ≤ 9223372036854775807 := by obtain ⟨_, _, _, _, h⟩ := row_shape hr; exact h
  have HR := Lib.hid hr
  have HX := Lib.hid hx
  have HT := Lib.hid ht
  clear hr hx ht
  go_enter Try.func17, Try.ntmps17
  go_wp2
  go_loop [6] (fun i => ∃ k : Nat, k ≤ K.length ∧ i = .int .i64 k ∧ ∀ j (h : j < K.length), j < k → K[j].1 ≠ n) (fun i => K.length - (intOf i).toNat)
  case atStart => exact ⟨0, Nat.zero_le _, rfl, fun j h hj => by omega⟩
  case round =>
    obtain ⟨k, hk, rfl, hn⟩ := hrel
    have HN := Lib.hid hn
    clear hn
    by_cases hlt : k < K.length
    · obtain ⟨g, rfl⟩ : ∃ g, ak = some ⟨g, 0, none⟩ := by
        rcases HR.out.2 with ⟨e, _⟩ | ⟨g, cap, _, e, _⟩
        · simp only [Value.slice.injEq] at e; omega
        · simp only [Value.slice.injEq] at e; exact ⟨g, e.1⟩
      have d0 := HR.out.cellAt (k * 2) (by omega)
      have d1 := HR.out.cellAt (k * 2 + 1) (by omega)
      have n0 := put_flat K k hlt 0 (by decide)
      rw [Nat.add_zero] at n0
      rw [n0] at d0
      rw [put_flat K k hlt 1 (by decide)] at d1
      clear n0
      by_cases he : K[k].1 = n
      · have HL := Lib.hid (look_hit hlt HN.out he)
        have E1 : Hid (K[k].2 = x.data.toList) := Lib.hid (by rw [← HX.out]; unfold lookD; rw [HL.out]; rfl)
        have E2 : Hid (true = t) := Lib.hid (by rw [← HT.out, HL.out]; rfl)
        have d1' : w.cell? ⟨g, k * 2 + 1, none⟩ = some (.string x) := by rw [d1]; show some (str K[k].2) = _; rw [E1.out, ← str_of]
        have d0' : w.cell? ⟨g, k * 2, none⟩ = some (.int .i64 n) := by rw [d0]; show some (Value.int .i64 K[k].1) = _; rw [he]
        clear d0 d1 he
        go_wp2
        go_ret2
        exact ⟨by rw [← E2.out]; rfl, rfl⟩
      · have d0' : w.cell? ⟨g, k * 2, none⟩ = some (.int .i64 K[k].1) := d0
        have HM : Hid (∀ j (h : j < K.length), j < k + 1 → K[j].1 ≠ n) := Lib.hid (fun j h hj => by
          by_cases e : j = k
          · subst e; exact he
          · exact HN.out j h (by omega))
        clear d0 d1
        generalize K[k].1 = m at *
        go_wp2
        go_round
        case rel => exact ⟨k + 1, by omega, by go_num, HM.out⟩
        case measure => simp [intOf]; omega
    · obtain rfl : k = K.length := by omega
      have HL := Lib.hid (look_miss (fun j h => HN.out j h h))
      have E1 : x = ⟨#[]⟩ := letters_inj (by rw [← HX.out]; unfold lookD; rw [HL.out]; rfl)
      have E2 : Hid (false = t) := Lib.hid (by rw [← HT.out, HL.out]; rfl)
      subst E1
      go_wp2
      go_ret2
      exact ⟨by rw [← E2.out]; rfl, rfl⟩
theorem rhas_at {p : Nat} {s : St} {fair : Bool} {zs : List Int} {a0 : Option Addr} {len0 cap0 : Nat} {w : World} (h : ∃ F, RRel p s fair zs a0 len0 cap0 w F) (n : Int) {x : ByteArray} {t : Bool} (hx : lookD s.kept n = x.data.toList) (ht : (look s.kept n).isSome = t) :
    Calls Try.prog 17 #[.pointer (some ⟨p, 0, none⟩), .int .i64 n] w fun e w' => e = .returned (.tuple #[.string x, .bool t]) ∧ w = w' := by
  obtain ⟨F, sk, sa, ss, h, _⟩ := h
  have hr := h.part (i := 0) rfl
  have c0 := h.cell (i := 0) rfl
  obtain ⟨ak, c, hsk, -⟩ := row_shape hr
  subst hsk
  exact rhas_walk p c ak s.kept n w c0 hr x t hx ht
end Go.Proofs.Yteclbfkeiejbeaa
