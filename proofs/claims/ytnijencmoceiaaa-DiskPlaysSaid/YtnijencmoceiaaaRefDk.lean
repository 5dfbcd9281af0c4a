/-
  No statement is proved here: the document's disk ('RDk'); its 'There', 'New', 'Arm', 'stops', as contracts.
-/
import Derived.Test.YtnijencmoceiaaaRefRn
namespace Go.Proofs.Ytnijencmoceiaaa
set_option linter.unusedSimpArgs false
set_option linter.unusedVariables false
open Go.RowKit Go.Maps

/-- The document's disk behind the pointer to block p, its files' row. -/
def RDkV (p : Nat) (s : St) (kv : Value) (w : World) (F : Nat → Prop) : Prop :=
  ∃ wv, Obj 46 p [kv, wv, .int .i64 s.room, .bool s.down, .int .i64 s.armed]
    [Part.row 67 2 kv s.kept.length (s.kept.flatMap fc), Part.row 65 3 wv s.waits.length (s.waits.flatMap dc), Part.plain, Part.plain, Part.plain] w F ∧ Good s ∧ Whole s
def RDk (p : Nat) (s : St) (w : World) (F : Nat → Prop) : Prop := ∃ kv, RDkV p s kv w F
theorem RDkV.framed (p : Nat) (s : St) (kv : Value) : Framed (RDkV p s kv) :=
  ⟨fun _ _ ⟨_, h, _⟩ => h.lt, fun _ _ _ _ ⟨_, h, r⟩ hk hd => ⟨_, h.kept hk hd, r⟩⟩
theorem RDk.framed (p : Nat) (s : St) : Framed (RDk p s) :=
  ⟨fun _ _ ⟨_, h⟩ => (RDkV.framed p s _).lt _ _ h, fun _ _ _ _ ⟨_, h⟩ hk hd => ⟨_, (RDkV.framed p s _).kept _ _ _ _ h hk hd⟩⟩

theorem dc_len (x : Deed) : (dc x).length = 3 := by cases x <;> rfl
theorem flat3_at : ∀ (K : List Deed) (k : Nat) (hk : k < K.length) (i : Nat), i < 3 → (K.flatMap dc)[k * 3 + i]? = (dc K[k])[i]?
  | [], _, hk, _, _ => absurd hk (Nat.not_lt_zero _)
  | e :: S, 0, _, i, hi => by
    simp only [List.flatMap_cons, Nat.zero_mul, Nat.zero_add, List.getElem_cons_zero]
    exact List.getElem?_append_left (by rw [dc_len]; omega)
  | e :: S, k + 1, hk, i, hi => by
    have h2 := dc_len e
    simp only [List.flatMap_cons, List.getElem_cons_succ]
    rw [List.getElem?_append_right (by rw [h2]; omega), h2, show (k + 1) * 3 + i - 3 = k * 3 + i by omega]
    exact flat3_at S k (by simpa using hk) i hi
theorem dc_shape (x : Deed) : ∃ (z : Int) (a b : ByteArray), dc x = [.int .i64 z, .string a, .string b] := by
  cases x with
  | wr a d => exact ⟨0, ⟨a.toArray⟩, ⟨d.toArray⟩, rfl⟩
  | rn a b => exact ⟨1, ⟨a.toArray⟩, ⟨b.toArray⟩, rfl⟩
  | rm a => exact ⟨2, ⟨a.toArray⟩, ⟨#[]⟩, rfl⟩
theorem wrow_at {w : World} {v : Value} {W : List Deed} (h : w.ownsRow 0 65 3 v W.length (W.flatMap dc)) {k : Nat} {x : Deed} (hx : W[k]? = some x) {z : Int} {a b : ByteArray} (hd : dc x = [.int .i64 z, .string a, .string b]) :
    ∃ g c, v = .slice (some ⟨g, 0, none⟩) W.length c ∧ w.cell? ⟨g, k * 3, none⟩ = some (.int .i64 z) ∧ w.cell? ⟨g, k * 3 + 1, none⟩ = some (.string a) ∧ w.cell? ⟨g, k * 3 + 2, none⟩ = some (.string b) := by
  obtain ⟨hk, rfl⟩ := List.getElem?_eq_some_iff.1 hx
  rcases h.2 with ⟨_, h2⟩ | ⟨g, cap, cur, hv, hb, r⟩
  · omega
  · have h' : w.ownsRow 0 65 3 (.slice (some ⟨g, 0, none⟩) W.length cap) W.length (W.flatMap dc) := ⟨h.1, .inr ⟨g, cap, cur, rfl, hb, r⟩⟩
    refine ⟨g, cap, hv, ?_, ?_, ?_⟩
    · have := h'.cellAt (k * 3) (by omega)
      rw [this]; exact (flat3_at W k hk 0 (by omega)).trans (by rw [hd]; rfl)
    · have := h'.cellAt (k * 3 + 1) (by omega)
      rw [this]; exact (flat3_at W k hk 1 (by omega)).trans (by rw [hd]; rfl)
    · have := h'.cellAt (k * 3 + 2) (by omega)
      rw [this]; exact (flat3_at W k hk 2 (by omega)).trans (by rw [hd]; rfl)

set_option maxRecDepth 100000 in
set_option maxHeartbeats 2000000 in
theorem there_at {p : Nat} {s : St} {kv : Value} {w : World} {F : Nat → Prop} (h : RDkV p s kv w F) (hf : Fits s 65535) :
    Calls Try.prog 36 #[.pointer (some ⟨p, 0, none⟩)] w fun e w' => ∃ v, e = .returned v ∧ FRes w w' kv v s.there := by
  obtain ⟨wv, h, g, hw⟩ := h
  obtain ⟨ka, kc, hkv⟩ := frow_shape (h.part (i := 0) rfl)
  subst hkv
  obtain ⟨wa, wc, hwv, -⟩ := row_shape (h.part (i := 1) rfl)
  subst hwv
  have O := Lib.hid h
  have GG := Lib.hid g
  have FT := Lib.hid hf
  have HW : Hid (redo s.kept s.waits (fun _ => 1) s.waits.length = s.there) := Lib.hid hw
  obtain ⟨kn, hkn⟩ : ∃ kn, s.kept.length = kn := ⟨_, rfl⟩
  obtain ⟨n, hn⟩ : ∃ n, s.waits.length = n := ⟨_, rfl⟩
  have hn5 : n ≤ 65535 := by rw [← hn]; exact hf.waits
  have c0 := h.cell (i := 0) rfl
  have c1 := h.cell (i := 1) rfl
  rw [hkn] at O c0 ⊢
  rw [hn] at O HW c1
  have KN := Lib.hid hkn
  have WN := Lib.hid hn
  have S0 : Hid (FRow w (.slice ka kn kc) (redo s.kept s.waits (fun _ => 1) 0)) := Lib.hid (by
    have := h.part (i := 0) rfl
    rw [← hkn]; exact this)
  have CELLS : Hid (∀ wr, Keeps (fun _ => False) w wr → wr.cell? ⟨p, 0, none⟩ = some (.slice ka kn kc) ∧ wr.cell? ⟨p, 1, none⟩ = some (.slice wa n wc)) := Lib.hid (fun wr hk => by
    have := O.out.kept hk (fun _ _ h => h)
    exact ⟨this.cell (i := 0) rfl, this.cell (i := 1) rfl⟩)
  clear h g hf hw hkn hn
  go_enter Try.func36, Try.ntmps36
  go_wp2_with fail
  go_loopw [3, 4] (fun l i wr => ∃ k : Nat, k ≤ n ∧ i = .int .i64 k ∧ ∃ (la : Option Addr) (ln lc : Nat), l = .slice la ln lc ∧ (redo s.kept s.waits (fun _ => 1) k).length = ln ∧ FRes w wr (.slice ka kn kc) (.slice la ln lc) (redo s.kept s.waits (fun _ => 1) k)) (fun _ i _ => n - (intOf i).toNat)
  case atStart => exact ⟨0, Nat.zero_le _, rfl, ka, kn, kc, rfl, KN.out, S0.out, Keeps.refl _ _, .inl rfl⟩
  case round =>
    obtain ⟨k, hk, rfl, la, ln, lc, rfl, hln, hres⟩ := hrel
    have R := Lib.hid hres
    have LN := Lib.hid hln
    obtain ⟨m0, m1⟩ := CELLS.out wr hres.2.1
    clear hres hln S0 c0 c1
    by_cases hlt : k < n
    · obtain ⟨x, hx⟩ : ∃ x, s.waits[k]? = some x := ⟨_, List.getElem?_eq_getElem (by rw [WN.out]; exact hlt)⟩
      obtain ⟨z, xa, xb, hd⟩ := dc_shape x
      have OB := O.out.kept R.out.2.1 (fun _ _ h => h)
      obtain ⟨g, c, hv, hc0, hc1, hc2⟩ := wrow_at (by have := OB.part (i := 1) rfl; rw [← WN.out] at this; exact this) hx hd
      rw [WN.out] at hv
      obtain ⟨rfl, -, rfl⟩ := by simpa only [Value.slice.injEq] using hv
      obtain ⟨g1, g2, g3⟩ := redo_good GG.out.rk GG.out.sk GG.out.sw (fun _ => 1) k
      have D := rdo_at R.out.1 (by have := FT.out.both; have := WN.out; omega) g1 x
      rw [hd] at D
      have HD := Lib.hid D
      have E : Hid (redo s.kept s.waits (fun _ => 1) (k + 1) = x.run (redo s.kept s.waits (fun _ => 1) k)) := Lib.hid (by rw [redo_succ hx, redo1_1])
      clear D OB hv g1 g2 g3 hx hd
      go_wp2_with fail
      refine HD.out.mono ?_; rintro e w2 ⟨v2, rfl, hr2⟩
      obtain ⟨a2, c2, hv2⟩ := frow_shape hr2.1
      subst hv2
      obtain ⟨n2, hn2⟩ : ∃ n2, (x.run (redo s.kept s.waits (fun _ => 1) k)).length = n2 := ⟨_, rfl⟩
      rw [hn2] at hr2 ⊢
      have R2 : Hid (FRes w w2 (.slice ka kn kc) (.slice a2 n2 c2) (redo s.kept s.waits (fun _ => 1) (k + 1))) := Lib.hid (by
        rw [E.out]
        refine ⟨hr2.1, R.out.2.1.trans hr2.2.1 (fun _ _ h => h), ?_⟩
        rcases hr2.2.2 with e | e
        · rcases R.out.2.2 with e' | e'
          · exact .inl (e.trans e')
          · exact .inr (by rw [e]; exact e')
        · exact .inr (fun b hb => Nat.le_trans R.out.2.1.size (e b hb)))
      have N2 : Hid ((redo s.kept s.waits (fun _ => 1) (k + 1)).length = n2) := Lib.hid (by rw [E.out]; exact hn2)
      clear hr2 hn2 HD
      go_wp2_with fail
      go_roundw
      case rel => exact ⟨k + 1, by omega, by go_num, a2, n2, c2, rfl, N2.out, R2.out⟩
      case measure => simp [intOf]; omega
    · obtain rfl : k = n := by omega
      go_wp2_with fail
      go_ret
      exact ⟨_, rfl, by rw [← HW.out]; exact R.out⟩
end Go.Proofs.Ytnijencmoceiaaa
