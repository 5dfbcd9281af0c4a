/-
  No statement is proved here: the document's 'Read', 'Rename', 'Remove', 'Sync', as contracts.
-/
import Derived.Test.YtnijencmoceiaaaRefWait
namespace Go.Proofs.Ytnijencmoceiaaa
set_option linter.unusedSimpArgs false
set_option linter.unusedVariables false
open Go.RowKit Go.Maps

theorem rdk_cells {p : Nat} {s : St} {kv : Value} {w w' : World} {F : Nat → Prop} (h : RDkV p s kv w F) (hk : Keeps (fun _ => False) w w') : w'.cell? ⟨p, 2, none⟩ = some (.int .i64 s.room) ∧ w'.cell? ⟨p, 3, none⟩ = some (.bool s.down) := by
  obtain ⟨wv, h, -⟩ := h
  have := h.kept hk (fun _ _ h => h)
  exact ⟨this.cell (i := 2) rfl, this.cell (i := 3) rfl⟩

set_option maxRecDepth 100000 in
set_option maxHeartbeats 1000000 in
theorem rread_at {p : Nat} {s : St} {w : World} (h : ∃ F, RDk p s w F) (hf : Fits s 65535) (a : ByteArray) {x : ByteArray} {t : Bool} (hx : s.read a.data.toList = (x.data.toList, t)) :
    Calls Try.prog 26 #[.pointer (some ⟨p, 0, none⟩), .string a] w fun e w' => e = .returned (.tuple #[.string x, .bool t]) ∧ Keeps (fun _ => False) w w' := by
  obtain ⟨F, kv, h⟩ := h
  have T := Lib.hid (there_at h hf)
  have CELLS : Hid (∀ w', Keeps (fun _ => False) w w' → w'.cell? ⟨p, 3, none⟩ = some (.bool s.down)) := Lib.hid (fun w' hk => (rdk_cells h hk).2)
  unfold St.read at hx
  obtain ⟨dn, hdn⟩ : ∃ dn, dn = s.down := ⟨_, rfl⟩
  rw [← hdn] at hx CELLS
  obtain ⟨K, hK⟩ : ∃ K, K = s.there := ⟨_, rfl⟩
  rw [← hK] at hx T
  clear h hf hdn hK
  cases hl : look K a.data.toList with
  | none =>
    have hxx : x = ⟨#[]⟩ ∧ t = false := by
      unfold lookD at hx
      rw [hl] at hx
      have : ([], false) = (x.data.toList, t) := by cases dn <;> exact hx
      simp only [Prod.mk.injEq] at this
      exact ⟨letters_inj this.1.symm, this.2.symm⟩
    obtain ⟨rfl, rfl⟩ := hxx
    have PN := Lib.hid (pos_none hl)
    clear hx hl
    go_enter Try.func26, Try.ntmps26
    go_wp2_with fail
    refine T.out.mono ?_; rintro e w1 ⟨v, rfl, hr⟩
    obtain ⟨va, vc, hv⟩ := frow_shape hr.1
    subst hv
    have FI := find_at hr.1 a
    rw [PN.out] at FI
    have HF := Lib.hid FI
    have m3 := CELLS.out w1 hr.2.1
    have HR := Lib.hid hr
    clear hr FI T
    go_wp2_with fail
    refine HF.out.mono ?_; rintro e w' ⟨rfl, rfl⟩
    go_wp2_with fail
    go_ret2
    exact ⟨rfl, HR.out.2.1⟩
  | some d =>
    obtain ⟨k, hk, hq⟩ := pos_of_look hl
    have PS := Lib.hid hk
    have HQ := Lib.hid hq
    cases dn with
    | true =>
      have hxx : x = ⟨#[]⟩ ∧ t = false := by
        have : ([], false) = (x.data.toList, t) := hx
        simp only [Prod.mk.injEq] at this
        exact ⟨letters_inj this.1.symm, this.2.symm⟩
      obtain ⟨rfl, rfl⟩ := hxx
      clear hx hl hq hk
      go_enter Try.func26, Try.ntmps26
      go_wp2_with fail
      refine T.out.mono ?_; rintro e w1 ⟨v, rfl, hr⟩
      obtain ⟨va, vc, hv⟩ := frow_shape hr.1
      subst hv
      have FI := find_at hr.1 a
      rw [PS.out] at FI
      have HF := Lib.hid FI
      have m3 := CELLS.out w1 hr.2.1
      have HR := Lib.hid hr
      clear hr FI T
      go_wp2_with fail
      refine HF.out.mono ?_; rintro e w' ⟨rfl, rfl⟩
      go_wp2_with fail
      go_ret2
      exact ⟨rfl, HR.out.2.1⟩
    | false =>
      have hxx : x.data.toList = d ∧ t = true := by
        unfold lookD at hx
        rw [hl] at hx
        have : (d, true) = (x.data.toList, t) := hx
        simp only [Prod.mk.injEq] at this
        exact ⟨this.1.symm, this.2.symm⟩
      obtain ⟨rfl, rfl⟩ := hxx
      have HN : Hid (k < K.length) := Lib.hid (List.getElem?_eq_some_iff.1 hq).1
      clear hx hl hq hk
      go_enter Try.func26, Try.ntmps26
      go_wp2_with fail
      refine T.out.mono ?_; rintro e w1 ⟨v, rfl, hr⟩
      obtain ⟨g, vc, hv, -, hc1⟩ := frow_at hr.1 HQ.out
      subst hv
      simp only at hc1
      rw [← str_of] at hc1
      have FI := find_at hr.1 a
      rw [PS.out] at FI
      have HF := Lib.hid FI
      have m3 := CELLS.out w1 hr.2.1
      have HR := Lib.hid hr
      have hkl := HN.out
      clear hr FI T
      generalize K.length = n at *
      go_wp2_with fail
      refine HF.out.mono ?_; rintro e w' ⟨rfl, rfl⟩
      go_wp2_with fail
      go_ret2
      exact ⟨rfl, HR.out.2.1⟩

set_option maxRecDepth 100000 in
set_option maxHeartbeats 1000000 in
theorem rrename_at {p : Nat} {s : St} {w : World} {F : Nat → Prop} (h : RDk p s w F) (hf : Fits s 65535) (a b : ByteArray) (ha : a.size ≤ 65535) (hb : b.size ≤ 65535) :
    Calls Try.prog 16 #[.pointer (some ⟨p, 0, none⟩), .string a, .string b] w fun e w' => e = .returned (.int .i64 (s.askErr a.data.toList)) ∧ Turns w F w' (RDk p (s.asked a.data.toList (.rn a.data.toList b.data.toList))) := by
  have H := Lib.hid h
  obtain ⟨kv, hv0⟩ := h
  have T := Lib.hid (there_at hv0 hf)
  have m3 := (rdk_cells hv0 (Keeps.refl _ w)).2
  have FT := Lib.hid hf
  have LL : Hid ((Deed.rn a.data.toList b.data.toList).short) := Lib.hid ⟨by simpa using ha, by simpa using hb⟩
  obtain ⟨dn, hdn⟩ : ∃ dn, s.down = dn := ⟨_, rfl⟩
  rw [hdn] at m3
  have DN := Lib.hid hdn
  obtain ⟨K, hK⟩ : ∃ K, K = s.there := ⟨_, rfl⟩
  rw [← hK] at T
  have HK := Lib.hid hK
  clear hv0 hf ha hb hdn hK
  cases dn with
  | true =>
    have E : Hid (s.askErr a.data.toList = 14 ∧ s.asked a.data.toList (.rn a.data.toList b.data.toList) = s) := Lib.hid (by unfold St.askErr St.asked St.has; rw [DN.out]; exact ⟨rfl, rfl⟩)
    go_enter Try.func16, Try.ntmps16
    go_wp2_with fail
    go_ret
    exact ⟨ret_int E.out.1.symm, by rw [E.out.2]; exact Turns.refl H.out⟩
  | false =>
    cases hl : look K a.data.toList with
    | none =>
      have PN := Lib.hid (pos_none hl)
      have E : Hid (s.askErr a.data.toList = 3 ∧ s.asked a.data.toList (.rn a.data.toList b.data.toList) = s) := Lib.hid (by unfold St.askErr St.asked St.has; rw [DN.out, ← HK.out, hl]; exact ⟨rfl, rfl⟩)
      clear hl
      go_enter Try.func16, Try.ntmps16
      go_wp2_with fail
      refine T.out.mono ?_; rintro e w1 ⟨v, rfl, hr⟩
      obtain ⟨va, vc, hv⟩ := frow_shape hr.1
      subst hv
      have FI := find_at hr.1 a
      rw [PN.out] at FI
      have HF := Lib.hid FI
      have HR := Lib.hid hr
      clear hr FI T
      go_wp2_with fail
      refine HF.out.mono ?_; rintro e w' ⟨rfl, rfl⟩
      go_wp2_with fail
      go_ret
      exact ⟨ret_int E.out.1.symm, by rw [E.out.2]; exact (Turns.refl H.out).more (RDk.framed _ _) HR.out.2.1⟩
    | some d =>
      obtain ⟨k, hk, -⟩ := pos_of_look hl
      have PS := Lib.hid hk
      have E : Hid (s.askErr a.data.toList = s.err ∧ s.asked a.data.toList (.rn a.data.toList b.data.toList) = s.wait (.rn a.data.toList b.data.toList)) := Lib.hid (by unfold St.askErr St.asked St.has; rw [DN.out, ← HK.out, hl]; exact ⟨rfl, rfl⟩)
      have hdc : dc (.rn a.data.toList b.data.toList) = [.int .i64 1, .string a, .string b] := by simp [dc, ← str_of]
      have HD := Lib.hid hdc
      clear hl hk hdc
      go_enter Try.func16, Try.ntmps16
      go_wp2_with fail
      refine T.out.mono ?_; rintro e w1 ⟨v, rfl, hr⟩
      obtain ⟨va, vc, hv⟩ := frow_shape hr.1
      subst hv
      have FI := find_at hr.1 a
      rw [PS.out] at FI
      have HF := Lib.hid FI
      have H1 := Lib.hid ((RDk.framed p s).kept _ _ _ _ H.out hr.2.1 (fun _ _ h => h))
      have K1 : Hid (Keeps F w w1) := Lib.hid (hr.2.1.mono (fun _ _ h => h.elim))
      clear hr FI T
      go_wp2_with fail
      refine HF.out.mono ?_; rintro e w' ⟨rfl, rfl⟩
      go_wp2_with fail
      refine (rwait_at H1.out DN.out (.rn a.data.toList b.data.toList) LL.out (by have := FT.out.waits; omega) HD.out).mono ?_; rintro e w2 ⟨rfl, ht⟩
      have HT := Lib.hid ht
      clear ht
      go_wp2_with fail
      go_ret
      exact ⟨ret_int E.out.1.symm, by rw [E.out.2]; exact Turns.chain K1.out (fun b hb => .inl hb) HT.out⟩

set_option maxRecDepth 100000 in
set_option maxHeartbeats 1000000 in
theorem rremove_at {p : Nat} {s : St} {w : World} {F : Nat → Prop} (h : RDk p s w F) (hf : Fits s 65535) (a : ByteArray) (ha : a.size ≤ 65535) :
    Calls Try.prog 18 #[.pointer (some ⟨p, 0, none⟩), .string a] w fun e w' => e = .returned (.int .i64 (s.askErr a.data.toList)) ∧ Turns w F w' (RDk p (s.asked a.data.toList (.rm a.data.toList))) := by
  have H := Lib.hid h
  obtain ⟨kv, hv0⟩ := h
  have T := Lib.hid (there_at hv0 hf)
  have m3 := (rdk_cells hv0 (Keeps.refl _ w)).2
  have FT := Lib.hid hf
  have LL : Hid ((Deed.rm a.data.toList).short) := Lib.hid (by simpa [Deed.short] using ha)
  obtain ⟨dn, hdn⟩ : ∃ dn, s.down = dn := ⟨_, rfl⟩
  rw [hdn] at m3
  have DN := Lib.hid hdn
  obtain ⟨K, hK⟩ : ∃ K, K = s.there := ⟨_, rfl⟩
  rw [← hK] at T
  have HK := Lib.hid hK
  clear hv0 hf ha hdn hK
  cases dn with
  | true =>
    have E : Hid (s.askErr a.data.toList = 14 ∧ s.asked a.data.toList (.rm a.data.toList) = s) := Lib.hid (by unfold St.askErr St.asked St.has; rw [DN.out]; exact ⟨rfl, rfl⟩)
    go_enter Try.func18, Try.ntmps18
    go_wp2_with fail
    go_ret
    exact ⟨ret_int E.out.1.symm, by rw [E.out.2]; exact Turns.refl H.out⟩
  | false =>
    cases hl : look K a.data.toList with
    | none =>
      have PN := Lib.hid (pos_none hl)
      have E : Hid (s.askErr a.data.toList = 3 ∧ s.asked a.data.toList (.rm a.data.toList) = s) := Lib.hid (by unfold St.askErr St.asked St.has; rw [DN.out, ← HK.out, hl]; exact ⟨rfl, rfl⟩)
      clear hl
      go_enter Try.func18, Try.ntmps18
      go_wp2_with fail
      refine T.out.mono ?_; rintro e w1 ⟨v, rfl, hr⟩
      obtain ⟨va, vc, hv⟩ := frow_shape hr.1
      subst hv
      have FI := find_at hr.1 a
      rw [PN.out] at FI
      have HF := Lib.hid FI
      have HR := Lib.hid hr
      clear hr FI T
      go_wp2_with fail
      refine HF.out.mono ?_; rintro e w' ⟨rfl, rfl⟩
      go_wp2_with fail
      go_ret
      exact ⟨ret_int E.out.1.symm, by rw [E.out.2]; exact (Turns.refl H.out).more (RDk.framed _ _) HR.out.2.1⟩
    | some d =>
      obtain ⟨k, hk, -⟩ := pos_of_look hl
      have PS := Lib.hid hk
      have E : Hid (s.askErr a.data.toList = s.err ∧ s.asked a.data.toList (.rm a.data.toList) = s.wait (.rm a.data.toList)) := Lib.hid (by unfold St.askErr St.asked St.has; rw [DN.out, ← HK.out, hl]; exact ⟨rfl, rfl⟩)
      have hdc : dc (.rm a.data.toList) = [.int .i64 2, .string a, .string ⟨#[]⟩] := by simp [dc, ← str_of]; rfl
      have HD := Lib.hid hdc
      clear hl hk hdc
      go_enter Try.func18, Try.ntmps18
      go_wp2_with fail
      refine T.out.mono ?_; rintro e w1 ⟨v, rfl, hr⟩
      obtain ⟨va, vc, hv⟩ := frow_shape hr.1
      subst hv
      have FI := find_at hr.1 a
      rw [PS.out] at FI
      have HF := Lib.hid FI
      have H1 := Lib.hid ((RDk.framed p s).kept _ _ _ _ H.out hr.2.1 (fun _ _ h => h))
      have K1 : Hid (Keeps F w w1) := Lib.hid (hr.2.1.mono (fun _ _ h => h.elim))
      clear hr FI T
      go_wp2_with fail
      refine HF.out.mono ?_; rintro e w' ⟨rfl, rfl⟩
      go_wp2_with fail
      refine (rwait_at H1.out DN.out (.rm a.data.toList) LL.out (by have := FT.out.waits; omega) HD.out).mono ?_; rintro e w2 ⟨rfl, ht⟩
      have HT := Lib.hid ht
      clear ht
      go_wp2_with fail
      go_ret
      exact ⟨ret_int E.out.1.symm, by rw [E.out.2]; exact Turns.chain K1.out (fun b hb => .inl hb) HT.out⟩
end Go.Proofs.Ytnijencmoceiaaa
