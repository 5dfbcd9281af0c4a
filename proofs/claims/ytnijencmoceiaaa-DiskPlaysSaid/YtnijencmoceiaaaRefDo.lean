/-
  No statement is proved here: the document's 'put', 'do', as contracts.
-/
import Derived.Test.YtnijencmoceiaaaRefPut
namespace Go.Proofs.Ytnijencmoceiaaa
set_option linter.unusedSimpArgs false
set_option linter.unusedVariables false
open Go.RowKit Go.Maps

set_option maxRecDepth 100000 in
set_option maxHeartbeats 4000000 in
theorem put_walk (fa : Option Addr) (n cap : Nat) (K : Files) (hKn : K.length = n) (hK5 : n ≤ 65536) (a d : ByteArray) (w : World) (h : w.ownsRow 0 67 2 (.slice fa n cap) n (K.flatMap fc)) :
    Calls Try.prog 46 #[.slice fa n cap, .string a, .string d] w fun e w' => ∃ v, e = .returned v ∧ FFresh w w' v (refPut K a.data.toList d.data.toList) := by
  have H : Hid (FRow w (.slice fa n cap) K) := Lib.hid (by subst hKn; exact h)
  have HK := Lib.hid hKn
  have S0 : Hid (OwnL w.heap.size w w [FOf (.slice none 0 0) (pst a.data.toList d.data.toList (K.take 0)).1]) := Lib.hid (fown_nil w)
  clear h hKn
  go_enter Try.func46, Try.ntmps46
  go_wp2
  go_loopw [7, 8, 9] (fun out dn i wr => ∃ k : Nat, k ≤ n ∧ i = .int .i64 k ∧ ∃ (oa : Option Addr) (on oc : Nat) (o : Files) (t : Bool), out = .slice oa on oc ∧ dn = .bool t ∧ pst a.data.toList d.data.toList (K.take k) = (o, t) ∧ o.length = on ∧ OwnL w.heap.size w wr [FOf (.slice oa on oc) o]) (fun _ _ i _ => n - (intOf i).toNat)
  case atStart => exact ⟨0, Nat.zero_le _, rfl, none, 0, 0, [], false, rfl, rfl, rfl, rfl, S0.out⟩
  case round =>
    obtain ⟨k, hk, rfl, oa, on, oc, o, t, rfl, rfl, hp, hon, ho⟩ := hrel
    have Q := Lib.hid ho
    have HN := Lib.hid hon
    have HP := Lib.hid hp
    have LB : Hid (on ≤ 65537) := Lib.hid (by
      have h1 := pst_len a.data.toList d.data.toList (K.take k)
      rw [hp] at h1
      have : (K.take k).length ≤ k := by simp; omega
      simp only at h1
      omega)
    clear ho hon S0 hp
    by_cases hlt : k < n
    · obtain ⟨q, hq⟩ : ∃ q, K[k]? = some q := ⟨_, List.getElem?_eq_getElem (by rw [HK.out]; exact hlt)⟩
      obtain ⟨g, c, hv, hc0, hc1⟩ := frow_at (row_keeps H.out (Keeps.of_below0 Q.out.below) (fun _ _ h => h)) hq
      rw [HK.out] at hv
      obtain ⟨rfl, -, rfl⟩ := by simpa only [Value.slice.injEq] using hv
      obtain ⟨xn, hxn⟩ : ∃ x : ByteArray, x.data.toList = q.1 := ⟨⟨q.1.toArray⟩, rfl⟩
      obtain ⟨xd, hxd⟩ : ∃ x : ByteArray, x.data.toList = q.2 := ⟨⟨q.2.toArray⟩, rfl⟩
      rw [← hxn, ← str_of] at hc0
      rw [← hxd, ← str_of] at hc1
      have HT : Hid (pst a.data.toList d.data.toList (K.take (k + 1)) = pstep a.data.toList d.data.toList (o, t) q) := Lib.hid (by rw [pst_take hq, HP.out])
      have HX : Hid (q = (xn.data.toList, xd.data.toList)) := Lib.hid (by rw [hxn, hxd])
      -- the cells of what is read stay, whatever is made
      have CS : Hid (∀ w3, Below w.heap.size w w3 → w3.cell? ⟨g, k * 2, none⟩ = some (.string xn) ∧ w3.cell? ⟨g, k * 2 + 1, none⟩ = some (.string xd)) := Lib.hid (fun w3 hb => by
        obtain ⟨g', c', hv', h0, h1⟩ := frow_at (row_keeps H.out (Keeps.of_below0 hb) (fun _ _ h => h)) hq
        rw [HK.out] at hv'
        obtain ⟨rfl, -⟩ := by simpa only [Value.slice.injEq, true_and, Option.some.injEq, Addr.mk.injEq, and_true] using hv'
        rw [h0, h1, str_of xn, str_of xd, hxn, hxd]; exact ⟨rfl, rfl⟩)
      clear hq hv hxn hxd
      by_cases hf : t = false ∧ bytesBefore xn.data.toList a.data.toList = false
      · obtain ⟨rfl, hbf⟩ := hf
        have hls : Op.bytesLess xn.toList a.toList = false := by rw [less_before, ByteArray.toList_eq, ByteArray.toList_eq]; exact hbf
        have HB := Lib.hid hbf
        clear hbf
        by_cases e : xn = a
        · have hbq : (xn.toList == a.toList) = true := by rw [e]; exact beq_self_eq_true _
          have E : Hid (pst a.data.toList d.data.toList (K.take (k + 1)) = (o ++ [(a.data.toList, d.data.toList)], true)) := Lib.hid (by
            rw [HT.out, HX.out]; unfold pstep; simp only [HB.out, and_self, if_true, if_pos (show xn.data.toList = a.data.toList by rw [e])])
          clear e
          go_wp2_with (at_builtin; refine wpList_fapp rfl (.tmp 27) (.tmp 31) rfl rfl rfl Q.out HN.out (by have := LB.out; omega) a d (a.data.toList, d.data.toList) rfl ?_; intro oa' oc' w3 ho3; obtain ⟨m0, m1⟩ := CS.out w3 ho3.below; have Q3 := Lib.hid ho3; clear ho3)
          go_roundw
          case rel => exact ⟨k + 1, by omega, by go_num, oa', on + 1, oc', _, true, rfl, rfl, E.out, by rw [List.length_append, HN.out]; rfl, Q3.out⟩
          case measure => simp [intOf]; omega
        · have hbq : (xn.toList == a.toList) = false := by rw [ByteArray.toList_eq, ByteArray.toList_eq]; simpa using fun h => e (letters_inj (congrArg Array.toList h))
          have E : Hid (pst a.data.toList d.data.toList (K.take (k + 1)) = (o ++ [(a.data.toList, d.data.toList)] ++ [q], true)) := Lib.hid (by
            rw [HT.out, HX.out]; unfold pstep; simp only [HB.out, and_self, if_true, if_neg (show ¬ xn.data.toList = a.data.toList from fun h => e (letters_inj h))])
          clear e
          go_wp2_with (first
            | (at_builtin; refine wpList_fapp rfl (.tmp 27) (.tmp 31) rfl rfl rfl Q.out HN.out (by have := LB.out; omega) a d (a.data.toList, d.data.toList) rfl ?_; intro oa' oc' w3 ho3; obtain ⟨m0, m1⟩ := CS.out w3 ho3.below; have HN3 : Hid ((o ++ [(a.data.toList, d.data.toList)]).length = on + 1) := Lib.hid (by rw [List.length_append, HN.out]; rfl); have Q3 := Lib.hid ho3; clear ho3)
            | (at_builtin; refine wpList_fapp rfl (.tmp 40) (.tmp 45) rfl rfl rfl Q3.out HN3.out (by have := LB.out; omega) xn xd q HX.out ?_; intro oa4 oc4 w4 ho4; have Q4 := Lib.hid ho4; clear ho4))
          go_roundw
          case rel => exact ⟨k + 1, by omega, by go_num, oa4, on + 1 + 1, oc4, _, true, rfl, rfl, E.out, by rw [List.length_append, HN3.out]; rfl, Q4.out⟩
          case measure => simp [intOf]; omega
      · -- no first append
        by_cases e : xn = a
        · have hbq : (xn.toList == a.toList) = true := by rw [e]; exact beq_self_eq_true _
          have E : Hid (pst a.data.toList d.data.toList (K.take (k + 1)) = (o, t)) := Lib.hid (by
            rw [HT.out, HX.out]; unfold pstep; simp only [hf, if_false, if_pos (show xn.data.toList = a.data.toList by rw [e])])
          have ht : t = true := by
            cases t with
            | true => rfl
            | false => exact absurd ⟨rfl, by rw [e]; exact before_irrefl _⟩ hf
          subst ht
          clear e hf
          go_wp2
          go_roundw
          case rel => exact ⟨k + 1, by omega, by go_num, oa, on, oc, o, true, rfl, rfl, E.out, HN.out, Q.out⟩
          case measure => simp [intOf]; omega
        · have hbq : (xn.toList == a.toList) = false := by rw [ByteArray.toList_eq, ByteArray.toList_eq]; simpa using fun h => e (letters_inj (congrArg Array.toList h))
          have E : Hid (pst a.data.toList d.data.toList (K.take (k + 1)) = (o ++ [q], t)) := Lib.hid (by
            rw [HT.out, HX.out]; unfold pstep; simp only [hf, if_false, if_neg (show ¬ xn.data.toList = a.data.toList from fun h => e (letters_inj h))])
          cases t with
          | true =>
            clear e hf
            go_wp2_with (at_builtin; refine wpList_fapp rfl (.tmp 40) (.tmp 45) rfl rfl rfl Q.out HN.out (by have := LB.out; omega) xn xd q HX.out ?_; intro oa4 oc4 w4 ho4; have Q4 := Lib.hid ho4; clear ho4)
            go_roundw
            case rel => exact ⟨k + 1, by omega, by go_num, oa4, on + 1, oc4, _, true, rfl, rfl, E.out, by rw [List.length_append, HN.out]; rfl, Q4.out⟩
            case measure => simp [intOf]; omega
          | false =>
            have hls : Op.bytesLess xn.toList a.toList = true := by
              rw [less_before, ByteArray.toList_eq, ByteArray.toList_eq]
              cases hb : bytesBefore xn.data.toList a.data.toList with
              | true => rfl
              | false => exact absurd ⟨rfl, hb⟩ hf
            clear e hf
            go_wp2_with (at_builtin; refine wpList_fapp rfl (.tmp 40) (.tmp 45) rfl rfl rfl Q.out HN.out (by have := LB.out; omega) xn xd q HX.out ?_; intro oa4 oc4 w4 ho4; have Q4 := Lib.hid ho4; clear ho4)
            go_roundw
            case rel => exact ⟨k + 1, by omega, by go_num, oa4, on + 1, oc4, _, false, rfl, rfl, E.out, by rw [List.length_append, HN.out]; rfl, Q4.out⟩
            case measure => simp [intOf]; omega
    · obtain rfl : k = n := by omega
      have E : Hid (pst a.data.toList d.data.toList K = (o, t)) := Lib.hid (by
        have := HP.out
        rw [List.take_of_length_le (by rw [HK.out]; omega)] at this; exact this)
      cases t with
      | true =>
        have R : Hid (refPut K a.data.toList d.data.toList = o) := Lib.hid (by unfold refPut; rw [E.out]; rfl)
        go_wp2
        go_ret
        exact ⟨_, rfl, by rw [R.out]; exact ffresh_of Q.out rfl⟩
      | false =>
        have R : Hid (refPut K a.data.toList d.data.toList = o ++ [(a.data.toList, d.data.toList)]) := Lib.hid (by unfold refPut; rw [E.out]; rfl)
        go_wp2_with (at_builtin; refine wpList_fapp rfl (.tmp 49) (.tmp 53) rfl rfl rfl Q.out HN.out (by have := LB.out; omega) a d (a.data.toList, d.data.toList) rfl ?_; intro oa' oc' w3 ho3; have Q3 := Lib.hid ho3; clear ho3)
        go_ret
        exact ⟨_, rfl, by rw [R.out]; exact ffresh_of Q3.out rfl⟩
theorem put_at {w : World} {v : Value} {K : Files} (h : FRow w v K) (hK : K.length ≤ 65536) (hr : Rising K) (a d : ByteArray) :
    Calls Try.prog 46 #[v, .string a, .string d] w fun e w' => ∃ v', e = .returned v' ∧ FFresh w w' v' (putF K a.data.toList d.data.toList) := by
  obtain ⟨fa, c, rfl⟩ := frow_shape h
  rw [← refPut_eq _ _ hr]
  exact put_walk fa _ c K rfl hK a d w h

theorem pos_of_look {K : Files} {a d : Str} (h : look K a = some d) : ∃ k : Nat, posI K a = k ∧ K[k]? = some (a, d) := by
  unfold look at h
  cases hf : K.find? (fun p => p.1 == a) with
  | none => rw [hf] at h; cases h
  | some p =>
    rw [hf] at h
    have hp : p.1 = a := by simpa using List.find?_some hf
    have hd : p.2 = d := by simpa using h
    rw [List.find?_eq_some_iff_getElem] at hf
    obtain ⟨h1, k, hk, hkp, hno⟩ := hf
    refine ⟨k, ?_, by rw [List.getElem?_eq_getElem hk, hkp, ← hp, ← hd]⟩
    have : pos K a = some k := by
      unfold pos
      rw [List.findIdx?_eq_some_iff_getElem]
      exact ⟨hk, by rw [hkp]; exact h1, fun j hj => by simpa using hno j hj⟩
    unfold posI; rw [this]
theorem pos_none {K : Files} {a : Str} (h : look K a = none) : posI K a = -1 := by
  have : pos K a = none := by
    unfold pos
    rw [List.findIdx?_eq_none_iff]
    intro p hp
    unfold look at h
    cases hf : K.find? (fun p => p.1 == a) with
    | none => simpa using List.find?_eq_none.1 hf p hp
    | some q => rw [hf] at h; cases h
  unfold posI; rw [this]

/-- A deed as the document keeps it. -/
def dc : Deed → List Value
  | .wr a d => [.int .i64 0, str a, str d]
  | .rn a b => [.int .i64 1, str a, str b]
  | .rm a => [.int .i64 2, str a, str []]
/-- A row of files that is an elder one, or a new one. -/
def FRes (w w' : World) (v v' : Value) (K : Files) : Prop := FRow w' v' K ∧ Keeps (fun _ => False) w w' ∧ (v' = v ∨ ∀ b, v'.ownBlock = some b → w.heap.size ≤ b)
theorem FRes.of {w w1 w' : World} {v v' : Value} {K : Files} (h : FFresh w1 w' v' K) (hk : Keeps (fun _ => False) w w1) : FRes w w' v v' K :=
  ⟨h.1, hk.trans h.2.1 (fun _ _ h => h), .inr (fun b hb => Nat.le_trans hk.size (h.2.2 b hb))⟩

set_option maxRecDepth 100000 in
set_option maxHeartbeats 1000000 in
theorem rdo_wr (fa : Option Addr) (n cap : Nat) (K : Files) (hKn : K.length = n) (hK5 : K.length ≤ 65536) (hr : Rising K) (a d : ByteArray) (w : World) (h : FRow w (.slice fa n cap) K) :
    Calls Try.prog 35 #[.slice fa n cap, .agg #[.int .i64 0, .string a, .string d]] w fun e w' => ∃ v', e = .returned v' ∧ FRes w w' (.slice fa n cap) v' (putF K a.data.toList d.data.toList) := by
  have k0 : Keeps (fun _ => False) w (w.alloc (.cells #[.int .i64 0, .string a, .string d] 65)) := (Keeps.refl _ w).alloc _
  have h1 := row_keeps h k0 (fun _ _ h => h)
  have F := Lib.hid (find_at h1 a)
  have P := Lib.hid (put_at h1 hK5 hr a d)
  have HK := Lib.hid k0
  generalize posI K a.data.toList = z at *
  clear h h1 k0 hKn hK5 hr
  go_enter Try.func35, Try.ntmps35
  go_wp2_with fail
  refine F.out.mono ?_; rintro e w' ⟨rfl, rfl⟩
  go_wp2_with fail
  refine P.out.mono ?_; rintro e w2 ⟨v', rfl, hf⟩
  have HF := Lib.hid hf
  obtain ⟨va, vc, hv⟩ := frow_shape hf.1
  subst hv
  clear hf P F
  go_wp2_with fail
  go_ret
  exact ⟨_, rfl, FRes.of HF.out HK.out⟩

set_option maxRecDepth 100000 in
set_option maxHeartbeats 1000000 in
theorem rdo_rm (fa : Option Addr) (n cap : Nat) (K : Files) (hK5 : K.length ≤ 65536) (a : ByteArray) (w : World) (h : FRow w (.slice fa n cap) K) :
    Calls Try.prog 35 #[.slice fa n cap, .agg #[.int .i64 2, .string a, .string ⟨#[]⟩]] w fun e w' => ∃ v', e = .returned v' ∧ FRes w w' (.slice fa n cap) v' (dropF K a.data.toList) := by
  have k0 : Keeps (fun _ => False) w (w.alloc (.cells #[.int .i64 2, .string a, .string ⟨#[]⟩] 65)) := (Keeps.refl _ w).alloc _
  have h1 := row_keeps h k0 (fun _ _ h => h)
  have F := Lib.hid (find_at h1 a)
  have P := Lib.hid (drop_at h1 hK5 a)
  have HK := Lib.hid k0
  generalize posI K a.data.toList = z at *
  clear h h1 k0 hK5
  go_enter Try.func35, Try.ntmps35
  go_wp2_with fail
  refine F.out.mono ?_; rintro e w' ⟨rfl, rfl⟩
  go_wp2_with fail
  refine P.out.mono ?_; rintro e w2 ⟨v', rfl, hf⟩
  have HF := Lib.hid hf
  obtain ⟨va, vc, hv⟩ := frow_shape hf.1
  subst hv
  clear hf P F
  go_wp2_with fail
  go_ret
  exact ⟨_, rfl, FRes.of HF.out HK.out⟩

set_option maxRecDepth 100000 in
set_option maxHeartbeats 1000000 in
theorem rdo_rn0 (fa : Option Addr) (n cap : Nat) (K : Files) (a b : ByteArray) (hl : look K a.data.toList = none) (w : World) (h : FRow w (.slice fa n cap) K) :
    Calls Try.prog 35 #[.slice fa n cap, .agg #[.int .i64 1, .string a, .string b]] w fun e w' => ∃ v', e = .returned v' ∧ FRes w w' (.slice fa n cap) v' K := by
  have k0 : Keeps (fun _ => False) w (w.alloc (.cells #[.int .i64 1, .string a, .string b] 65)) := (Keeps.refl _ w).alloc _
  have h1 := row_keeps h k0 (fun _ _ h => h)
  have F := find_at h1 a
  rw [pos_none hl] at F
  have HF := Lib.hid F
  have HR : Hid (FRes w (w.alloc (.cells #[.int .i64 1, .string a, .string b] 65)) (.slice fa n cap) (.slice fa n cap) K) := Lib.hid ⟨h1, k0, .inl rfl⟩
  clear h h1 k0 hl F
  go_enter Try.func35, Try.ntmps35
  go_wp2_with fail
  refine HF.out.mono ?_; rintro e w' ⟨rfl, rfl⟩
  go_wp2_with fail
  go_ret
  exact ⟨_, rfl, HR.out⟩

end Go.Proofs.Ytnijencmoceiaaa
