/-
  No statement is proved here: what 'Put' of a relay does, as a contract.
-/
import Derived.Test.YteclbfkeiejbeaaSee
namespace Go.Proofs.Yteclbfkeiejbeaa
open Go.RowKit Go.Maps

/-- The way of the next request. -/
def St.way (s : St) : Nat := if s.ways = [] then 0 else (s.ways.getD (s.seen.length % s.ways.length) 0).toNat
def St.saw (s : St) (e : Ev) : St := { s with seen := s.seen ++ [e] }
def upd (K : List (Int × Str)) (n : Int) (v : Str) : List (Int × Str) := if (look K n).isSome then K.map (fun x => if x.1 = n then (n, v) else x) else K ++ [(n, v)]
def St.put (s : St) (a n : Int) (v : Str) : St :=
  if s.way % 4 = 3 then s.saw ⟨a, true, n, v⟩ else { s.saw ⟨a, true, n, v⟩ with kept := upd s.kept n v, all := s.all ++ [v] }
def St.putErr (s : St) : Int := if s.way % 4 = 3 then 8 else 0

theorem find_upd (K : List (Int × Str)) (n m : Int) (v : Str) : look (K.map (fun x => if x.1 = n then (n, v) else x)) m = if m = n then (if (look K n).isSome then some v else none) else look K m := by
  induction K with
  | nil => simp [look]
  | cons x K ih =>
    unfold look at ih ⊢
    simp only [List.map_cons, List.find?_cons]
    by_cases hx : x.1 = n
    · by_cases hm : m = n
      · subst hm; simp [hx]
      · have h1 : (n == m) = false := by simpa using fun e => hm e.symm
        simp only [hx, if_true, h1]
        rw [ih]; simp [hm]
    · have h1 : (x.1 == n) = false := by simpa using hx
      by_cases hm : m = n
      · subst hm; simp only [hx, if_false, h1]; rw [ih]; simp
      · by_cases hxm : x.1 = m
        · simp [hxm, hm]
        · have h2 : (x.1 == m) = false := by simpa using hxm
          simp only [hx, if_false, h2]; rw [ih]; simp [hm]
theorem look_app (K : List (Int × Str)) (n m : Int) (v : Str) : look (K ++ [(n, v)]) m = match look K m with | some y => some y | none => if m = n then some v else none := by
  unfold look
  rw [List.find?_append]
  cases hK : K.find? (fun x => x.1 == m) with
  | some y => simp
  | none =>
    by_cases hm : m = n
    · simp [hm]
    · have h1 : (n == m) = false := by simpa using fun e => hm e.symm
      simp [hm, h1]
/-- What is found behind one more put. -/
theorem look_upd (K : List (Int × Str)) (n m : Int) (v : Str) : look (upd K n v) m = if m = n then some v else look K m := by
  unfold upd
  split
  · rename_i h; rw [find_upd]; simp [h]
  · rename_i h
    rw [look_app]
    by_cases hm : m = n
    · subst hm
      have : look K m = none := by simpa using h
      simp [this]
    · simp [hm]; cases look K m <;> rfl

theorem isKey_int (n : Int) : Go.WideAt.IsKeyLit (.int .i64 n) := by simp [Go.WideAt.IsKeyLit]
theorem Reads.put {D : DataW Unit} {K : List (Int × Str)} (h : Reads D K) (hm : IsMap D) (n : Int) (v : Str) : Reads (D.put (.int .i64 n) (.lit (.string v))) (upd K n v) := by
  intro m
  have e : lookD (upd K n v) m = if m = n then v else lookD K m := by
    unfold lookD; rw [look_upd]; split <;> rfl
  rw [look_upd, e]
  by_cases hmn : m = n
  · subst hmn
    rw [has_put_same hm (isKey_int _), atKey_put_same hm (isKey_int _)]; simp
  · rw [has_put_other (by simpa using hmn), atKey_put_other (by simpa using hmn)]
    simp [hmn, h m]

/-- see, of a relay. -/
theorem see_at {p : Nat} {s : St} {w : World} {F : Nat → Prop} (h : Rel p s w F) (hl : s.seen.length < 65536) (e : Ev) {x : ByteArray} (hx : x.data.toList = e.value) (wy : Nat) (hwy : s.way = wy) :
    Calls Try.prog 21 #[.pointer (some ⟨p, 0, none⟩), .agg #[.int .i64 e.actor, .bool e.put, .int .i64 e.name, .string x]] w fun e' w' => e' = .returned (.int .i64 wy) ∧ Turns w F w' (Rel p (s.saw e)) := by
  obtain ⟨m, sa, ss, sz, D, h, hr, hl2, hf1, hf2⟩ := h
  obtain ⟨a, c, hss, -⟩ := row_shape (h.part (i := 2) rfl)
  subst hss
  refine (see_walk p s.seen.length c a _ _ _ _ sz s.ways.length _ _ _ _ (by intro u hu; simp at hu; rcases hu with rfl | rfl | rfl | rfl <;> rfl) w F h rfl rfl rfl rfl hl wy ?_ ?_).mono ?_
  · intro h0; rw [← hwy]; unfold St.way; rw [if_pos (List.eq_nil_of_length_eq_zero h0)]
  · intro h0
    have hne : s.ways ≠ [] := fun e => h0 (by rw [e]; rfl)
    have hlt : s.seen.length % s.ways.length < s.ways.length := Nat.mod_lt _ (by omega)
    refine ⟨s.ways[s.seen.length % s.ways.length], by simp [hlt], ?_⟩
    rw [← hwy]; unfold St.way; rw [if_neg hne]; simp [List.getD, hlt]
  · rintro e' w' ⟨rfl, v', F', ho, hk, hf⟩
    refine ⟨rfl, F', ⟨m, sa, v', sz, D, ?_, hr, Nat.le_trans hl2 (by simp [St.saw]), hf1, hf2⟩, hk, hf⟩
    have e1 : (s.saw e).seen.length = s.seen.length + 1 := by simp [St.saw]
    have e2 : (s.saw e).seen.flatMap evCells = s.seen.flatMap evCells ++ [.int .i64 e.actor, .bool e.put, .int .i64 e.name, .string x] := by
      simp [St.saw, List.flatMap_append, evCells, ← hx, str]
    rw [e1, e2]
    exact ho

theorem row1_shape {w : World} {e : TypeId} {size : Nat} {v : Value} {n : Nat} {xs : List Value} (h : w.ownsRow 0 e size v n xs) : ∃ a c, v = .slice a n c := let ⟨a, c, h, _⟩ := row_shape h; ⟨a, c, h⟩

set_option maxRecDepth 100000 in
set_option maxHeartbeats 1000000 in
theorem put_at {p : Nat} {s : St} {w : World} {F : Nat → Prop} (h : Rel p s w F) (hl : s.seen.length < 65536) (a n : Int) (hn : (Lit.int .i64 n).wf = true) (v : ByteArray) (hv : v.size ≤ 65535) :
    Calls Try.prog 12 #[.pointer (some ⟨p, 0, none⟩), .int .i64 a, .int .i64 n, .string v] w fun e w' => e = .returned (.int .i64 s.putErr) ∧ Turns w F w' (Rel p (s.put a n v.data.toList)) := by
  obtain ⟨wy, hwy⟩ : ∃ wy, s.way = wy := ⟨_, rfl⟩
  have S := Lib.hid (see_at h hl ⟨a, true, n, v.data.toList⟩ rfl wy hwy)
  have rm : (wy : Int).tmod 4 = ((wy % 4 : Nat) : Int) := (Int.ofNat_tmod wy 4).symm
  by_cases hk : wy % 4 = 3
  · have E1 : Hid (s.putErr = 8) := by show s.putErr = 8; unfold St.putErr; rw [hwy, if_pos hk]
    have E2 : Hid (s.put a n v.data.toList = s.saw ⟨a, true, n, v.data.toList⟩) := by show s.put a n _ = _; unfold St.put; rw [hwy, if_pos hk]
    rw [hk] at rm
    clear hk hwy h
    go_enter Try.func12, Try.ntmps12
    go_wp2_with fail
    refine S.out.mono ?_; rintro e w1 ⟨rfl, ht⟩
    have HT := Lib.hid ht
    clear ht
    go_wp2_with fail
    go_ret
    exact ⟨ret_int E1.out.symm, by rw [E2.out]; exact HT.out⟩
  · have E1 : Hid (s.putErr = 0) := by show s.putErr = 0; unfold St.putErr; rw [hwy, if_neg hk]
    obtain ⟨s1, hs1⟩ : ∃ s1, s1 = s.saw ⟨a, true, n, v.data.toList⟩ := ⟨_, rfl⟩
    have E2 : Hid (s.put a n v.data.toList = { s1 with kept := upd s1.kept n v.data.toList, all := s1.all ++ [v.data.toList] }) := by show s.put a n _ = _; rw [hs1]; unfold St.put; rw [hwy, if_neg hk]; rfl
    have L0 : Hid (s1.all.length + 1 ≤ s1.seen.length) := Lib.hid (by
      obtain ⟨_, _, _, _, _, _, _, hl2, _⟩ := h
      rw [hs1]; simpa [St.saw] using hl2)
    have HL : Hid (s1.seen.length ≤ 65536) := Lib.hid (by rw [hs1]; simp [St.saw]; omega)
    rw [← hs1] at S
    have hq : ((wy % 4 : Nat) : Int) ≠ 3 := by omega
    generalize ((wy % 4 : Nat) : Int) = kd at *
    have hkd : (kd == 3) = false := by simpa using hq
    have hkey := keyOf_int_mk (P := Try.prog) Try.underlying3 hn
    obtain ⟨i0, hi, hz0, hz1, hz2⟩ := info_parts Try.info9
    have HV := Lib.hid hv
    have HV' : Hid (v.size ≤ maxLen) := Lib.hid (Nat.le_trans hv (by decide))
    clear hk hwy h hq hl hv hs1
    go_enter Try.func12, Try.ntmps12
    go_wp2_with fail
    refine S.out.mono ?_; rintro e w1 ⟨rfl, ht⟩
    clear S
    obtain ⟨F1, ⟨m, sa, ss, sz, D, h1, hr, hl2, hf1, hf2⟩, hk1, hF1⟩ := ht
    have R := Lib.hid (And.intro hr (And.intro hf1 hf2))
    have K1 := Lib.hid (And.intro hk1 hF1)
    have hown : w1.ownsMap Try.prog 3 (plainElem Try.prog 9) m s1.all.length D := h1.part (i := 0) rfl
    obtain ⟨aa, ca, hsa⟩ := row1_shape (h1.part (i := 1) rfl)
    subst hsa
    have c0 := h1.cell (i := 0) rfl
    have O1 := Lib.hid h1
    have hlen : s1.all.length < maxLen := by unfold maxLen; have := HL.out; have := L0.out; omega
    have hm : s1.all.length + 1 ≤ maxLen := hlen
    have hm' : (s1.all.length + 1) * 16 ≤ 140737488355328 := by have := HL.out; have := L0.out; omega
    clear hr hf1 hf2 hl2 hk1 hF1 h1
    go_wp2_with (first
      | (at_mapUpdate; refine wpList_mapUpdate_own _ rfl _ _ _ 46 rfl 3 9 key3 Try.underlying46 _ m _ D rfl hown hlen _ _ _ rfl rfl hkey _ [] (plainElem_string Try.underlying9 HV'.out) ?_; intro w2 hown2 hgrow2; obtain ⟨F2, h2, hk2, hF2⟩ := O1.out.stores (i := 0) rfl hown2 hgrow2; have d1 := h2.cell (i := 1) rfl; have hp := h2.plt; have O2 := Lib.hid h2; have K2 := Lib.hid (And.intro hk2 hF2); have hrow2 : (w2.alloc (.cells #[.string v] 9)).ownsRow 0 9 1 (.slice aa s1.all.length ca) s1.all.length (s1.all.map str) := World.ownsRow.alloc (h2.part (i := 1) rfl) _; clear h2 hk2 hF2 hown2 hgrow2 hown c0 hkey)
      | (at_builtin; refine wpList_append_own_at _ rfl (.tmp 29) (.tmp 31) 30 rfl 0 9 i0 (.string ByteArray.empty) 1 16 Try.underlying30 hi hz0 hz1 hz2 rfl (by decide) _ _ _ rfl hrow2 ⟨w2.heap.size, 0, none⟩ 1 1 [.string v] rfl rfl (cell_one_new _ _ _) (by intro u hu; simp at hu; subst hu; rfl) hm hm' (Nat.zero_le _) ?_; intro v' w3 hrow3 hgrow3 _ hloc3; obtain ⟨⟨a', c', hv'⟩, x3, xf, hT⟩ := O2.out.appends (i := 1) rfl ((Keeps.refl _ _).alloc _) 1 [.string v] w3 v' hrow3 hgrow3 hloc3; subst hv'; have HT := Lib.hid hT; have y1 := x3 1 _ rfl; have z1 := xf 1; clear x3 xf hT hrow3 hgrow3 hloc3))
    go_ret
    refine ⟨ret_int E1.out.symm, ?_⟩
    rw [E2.out]
    refine Turns.chain K1.out.1 K1.out.2 (Turns.chain K2.out.1 K2.out.2 (HT.out.imp fun G h => ⟨m, .slice a' (s1.all.length + 1) c', ss, sz, D.put (.int .i64 n) (.lit (.string v.data.toList)), ?_, R.out.1.put (World.ownsMap.isMap (O1.out.part (i := 0) rfl : w1.ownsMap Try.prog 3 (plainElem Try.prog 9) m s1.all.length D)) n v.data.toList, ?_, ?_, ?_, R.out.2.2.2⟩))
    · have e1 : (s1.all ++ [v.data.toList]).map str = s1.all.map str ++ [.string v] := by simp [str]
      simp only [List.length_append, List.length_cons, List.length_nil, e1]
      exact h
    · have := L0.out; simpa using this
    · intro x hx
      rcases List.mem_append.1 hx with hx | hx
      · exact R.out.2.1 x hx
      · simp at hx; subst hx; simpa using HV.out
    · intro m x hx
      rw [look_upd] at hx
      split at hx
      · cases hx; simpa using HV.out
      · exact R.out.2.2.1 m x hx
end Go.Proofs.Yteclbfkeiejbeaa
