/-
  No statement is proved here: 'Put' of the document's relay, as a contract.
-/
import Derived.Test.YteclbfkeiejbeaaRef
namespace Go.Proofs.Yteclbfkeiejbeaa
open Go.RowKit Go.Maps

theorem look_none_iff {K : List (Int × Str)} {n : Int} : look K n = none ↔ n ∉ K.map (·.1) := by
  unfold look
  rw [Option.map_eq_none_iff, List.find?_eq_none]
  simp only [List.mem_map, not_exists, not_and]
  exact ⟨fun h x hx e => by simpa [e] using h x hx, fun h x hx => by simpa using h x hx⟩
theorem upd_miss {K : List (Int × Str)} {n : Int} (v : Str) (h : look K n = none) : upd K n v = K ++ [(n, v)] := by unfold upd; rw [h]; rfl
theorem map_once {n : Int} {v : Str} : ∀ {K : List (Int × Str)} {k : Nat}, (K.map (·.1)).Nodup → (hk : k < K.length) → K[k].1 = n → K.map (fun x => if x.1 = n then (n, v) else x) = K.set k (n, v)
  | [], _, _, hk, _ => absurd hk (Nat.not_lt_zero _)
  | x :: K, 0, hd, _, he => by
    have he' : x.1 = n := he
    simp only [List.map_cons, List.nodup_cons] at hd
    simp only [List.map_cons, he', if_true, List.set_cons_zero]
    congr 1
    refine (List.map_congr_left fun y hy => ?_).trans (List.map_id _)
    have : y.1 ≠ n := fun e => hd.1 (he' ▸ e ▸ List.mem_map.2 ⟨y, hy, rfl⟩)
    simp [this]
  | x :: K, k + 1, hd, hk, he => by
    simp only [List.map_cons, List.nodup_cons] at hd
    have hk' : k < K.length := by simpa using hk
    have he' : K[k].1 = n := he
    have hx : x.1 ≠ n := fun e => hd.1 (e ▸ he' ▸ List.mem_map.2 ⟨K[k], List.getElem_mem _, rfl⟩)
    simp only [List.map_cons, hx, if_false, List.set_cons_succ]
    rw [map_once hd.2 hk' he']
theorem upd_hit {K : List (Int × Str)} {n : Int} (v : Str) {k : Nat} (hd : (K.map (·.1)).Nodup) (hk : k < K.length) (he : K[k].1 = n) : upd K n v = K.set k (n, v) := by
  unfold upd
  have : (look K n).isSome = true := by
    cases h : look K n with
    | some _ => rfl
    | none => exact absurd (List.mem_map.2 ⟨K[k], List.getElem_mem _, he⟩) (look_none_iff.1 h)
  rw [if_pos this, map_once hd hk he]
theorem upd_names (K : List (Int × Str)) (n : Int) (v : Str) (hd : (K.map (·.1)).Nodup) : ((upd K n v).map (·.1)).Nodup := by
  unfold upd
  split
  · have : (K.map (fun x => if x.1 = n then (n, v) else x)).map (·.1) = K.map (·.1) := by
      rw [List.map_map]
      refine List.map_congr_left fun x _ => ?_
      simp only [Function.comp]
      split <;> simp_all
    rw [this]; exact hd
  · rename_i h
    have h' : look K n = none := by simpa using h
    rw [List.map_append]
    exact List.nodup_append.2 ⟨hd, by simp, by intro x hx y hy; simp at hy; subst hy; exact fun e => look_none_iff.1 h' (e ▸ hx)⟩
theorem upd_len (K : List (Int × Str)) (n : Int) (v : Str) : (upd K n v).length ≤ K.length + 1 := by unfold upd; split <;> simp
theorem flat_set {v : Str} : ∀ (K : List (Int × Str)) (k : Nat) (hk : k < K.length), (K.flatMap putCells).set (k * 2 + 1) (str v) = (K.set k (K[k].1, v)).flatMap putCells
  | [], _, hk => absurd hk (Nat.not_lt_zero _)
  | x :: K, 0, _ => by simp [putCells]
  | x :: K, k + 1, hk => by
    have e : (k + 1) * 2 + 1 = (k * 2 + 1) + 1 + 1 := by omega
    simp only [List.flatMap_cons, putCells, List.cons_append, List.nil_append, List.set_cons_succ, List.getElem_cons_succ, e]
    have := flat_set (v := v) K k (by simpa using hk)
    rw [this]
theorem flat_len (K : List (Int × Str)) : (K.flatMap putCells).length = K.length * 2 := by
  induction K with
  | nil => rfl
  | cons x K ih => simp only [List.flatMap_cons, List.length_append, List.length_cons, ih, putCells]; simp; omega

set_option maxRecDepth 100000 in
set_option maxHeartbeats 4000000 in
theorem rput_at {p : Nat} {s : St} {fair : Bool} {zs : List Int} {a0 : Option Addr} {len0 cap0 : Nat} {w : World} {F : Nat → Prop} (h : RRel p s fair zs a0 len0 cap0 w F) (hz : Ways w a0 len0 cap0 zs) (hl : s.seen.length < 65536) (a n : Int) (v : ByteArray) (hv : v.size ≤ 65535) :
    Calls Try.prog 13 #[.pointer (some ⟨p, 0, none⟩), .int .i64 a, .int .i64 n, .string v] w fun e w' => e = .returned (.int .i64 s.putErr) ∧ Turns w F w' (RRel p (s.put a n v.data.toList) fair zs a0 len0 cap0) := by
  obtain ⟨wy, hwy⟩ : ∃ wy, s.way = wy := ⟨_, rfl⟩
  have S := Lib.hid (rway_at ⟨F, h⟩ hz wy hwy)
  have rm : (wy : Int).tmod 4 = ((wy % 4 : Nat) : Int) := (Int.ofNat_tmod wy 4).symm
  have HRR := Lib.hid h
  obtain ⟨i34, hi, hz0, hz1, hz2⟩ := info_parts Try.info34
  have hm : s.seen.length + 1 ≤ maxLen := by unfold maxLen; omega
  have hm' : (s.seen.length + 1) * 40 ≤ 140737488355328 := by omega
  have h1c : ∀ u ∈ [Value.int .i64 a, .bool true, .int .i64 n, .string v], u.oneCell' = true := by intro u hu; simp at hu; rcases hu with rfl | rfl | rfl | rfl <;> rfl
  have HL := Lib.hid hl
  have HV := Lib.hid hv
  have HW := Lib.hid hwy
  clear hz h hl hv hwy
  go_enter Try.func13, Try.ntmps13
  go_wp2_with fail
  refine S.out.mono ?_; rintro e w1 ⟨rfl, hk1⟩
  obtain ⟨sk, sa, ss, h1, r1, r2, r3, r4, r5, r6, r7⟩ := (RRel.framed _ _ _ _ _ _ _).kept _ _ _ _ HRR.out hk1 (fun _ _ h => h)
  have K1 := Lib.hid hk1
  have R := Lib.hid (And.intro r1 (And.intro r2 (And.intro r3 (And.intro r4 (And.intro r5 (And.intro r6 r7))))))
  obtain ⟨qa, qc, hss⟩ := row1_shape (h1.part (i := 2) rfl)
  subst hss
  have O1 := Lib.hid h1
  have hrow2 : (w1.alloc (.cells #[.int .i64 a, .bool true, .int .i64 n, .string v] 34)).ownsRow 0 34 4 (.slice qa s.seen.length qc) s.seen.length (s.seen.flatMap evCells) := World.ownsRow.alloc (h1.part (i := 2) rfl) _
  have c2 := h1.cell (i := 2) rfl
  have hp := h1.plt
  clear S hk1 r1 r2 r3 r4 r5 r6 r7 h1
  go_upto_region 3 with (at_builtin; refine wpList_append_own_at _ rfl (.tmp 17) (.tmp 22) 23 rfl 0 34 i34 _ 4 40 Try.underlying23 hi hz0 hz1 hz2 rfl (by decide) _ _ _ rfl hrow2 ⟨w1.heap.size, 0, none⟩ 1 1 [.int .i64 a, .bool true, .int .i64 n, .string v] rfl rfl (cells_new _ _ _) h1c hm hm' (Nat.zero_le _) ?_; intro v' w2 hrow2' hgrow2 _ hloc2; obtain ⟨⟨a2, cc2, hv2⟩, x2, xf2, hT2⟩ := O1.out.appends (i := 2) rfl ((Keeps.refl _ _).alloc _) 1 _ w2 v' hrow2' hgrow2 hloc2; subst hv2; have HT2 := Lib.hid hT2; have y2 := x2 2 _ rfl; have z2 := xf2 2; clear hT2 x2 xf2 hrow2' hgrow2 hloc2)
  obtain ⟨W3, hW3⟩ : ∃ W3, W3 = w2.setCell ⟨p, 2, none⟩ (.slice a2 (s.seen.length + 1) cc2) := ⟨_, rfl⟩
  rw [← hW3] at HT2 ⊢
  clear hW3 y2 z2 hrow2 c2 hp hm hm' h1c hi hz0 hz1 hz2
  obtain ⟨s1, hs1⟩ : ∃ s1, s1 = s.saw ⟨a, true, n, v.data.toList⟩ := ⟨_, rfl⟩
  have E1 : Hid (s1.seen.length = s.seen.length + 1 ∧ s1.seen.flatMap evCells = s.seen.flatMap evCells ++ [.int .i64 a, .bool true, .int .i64 n, .string v] ∧ s1.kept = s.kept ∧ s1.all = s.all ∧ s1.ways = s.ways) :=
    Lib.hid (by rw [hs1]; exact ⟨by simp [St.saw], by simp [St.saw, List.flatMap_append, evCells, ← str_of], rfl, rfl, rfl⟩)
  obtain ⟨F3, h3, hk3, hf3⟩ := HT2.out
  have K3 : Hid (Keeps F w W3 ∧ ∀ b, F3 b → F b ∨ w.heap.size ≤ b) := Lib.hid (by
    have := Turns.chain (O := Obj 32 p _ _) (K1.out.mono (fun _ _ h => h.elim)) (fun b hb => .inl hb) ⟨F3, h3, hk3, hf3⟩
    exact ⟨(K1.out.mono (fun _ _ h => h.elim)).trans hk3 (fun _ _ h => h), fun b hb => (hf3 b hb).imp id (fun h => Nat.le_trans K1.out.size h)⟩)
  have O3 : Hid (Obj 32 p [sk, sa, .slice a2 (s.seen.length + 1) cc2, .slice a0 len0 cap0, .bool fair] [Part.row 53 2 sk s.kept.length (s.kept.flatMap putCells), Part.row 9 1 sa s.all.length (s.all.map str), Part.row 34 4 (.slice a2 (s.seen.length + 1) cc2) (s.seen.length + 1) (s.seen.flatMap evCells ++ [.int .i64 a, .bool true, .int .i64 n, .string v]), Part.plain, Part.plain] W3 F3) := Lib.hid h3
  clear h3 hk3 hf3 HT2 O1 K1
  by_cases hk : wy % 4 = 3
  · have X1 : Hid (s.putErr = 8) := Lib.hid (by unfold St.putErr; rw [HW.out, if_pos hk])
    have X2 : Hid (s.put a n v.data.toList = s1) := Lib.hid (by unfold St.put; rw [HW.out, if_pos hk, hs1])
    rw [hk] at rm
    clear hk hs1
    go_wp2_with fail
    go_ret
    refine ⟨ret_int X1.out.symm, F3, ⟨sk, sa, .slice a2 (s.seen.length + 1) cc2, ?_, ?_⟩, K3.out.1, K3.out.2⟩
    · rw [X2.out, E1.out.1, E1.out.2.1, E1.out.2.2.1, E1.out.2.2.2.1]; exact O3.out
    · rw [X2.out, E1.out.1, E1.out.2.2.1, E1.out.2.2.2.1, E1.out.2.2.2.2]
      obtain ⟨r1, r2, r3, r4, r5, r6, r7⟩ := R.out
      exact ⟨r1, r2, r3, by omega, by omega, r6, r7⟩
  · have X1 : Hid (s.putErr = 0) := Lib.hid (by unfold St.putErr; rw [HW.out, if_neg hk])
    have X2 : Hid (s.put a n v.data.toList = { s1 with kept := upd s.kept n v.data.toList, all := s.all ++ [v.data.toList] }) := Lib.hid (by unfold St.put; rw [HW.out, if_neg hk, hs1])
    have hq : ((wy % 4 : Nat) : Int) ≠ 3 := by omega
    generalize ((wy % 4 : Nat) : Int) = kd at *
    have hkd : (kd == 3) = false := by simpa using hq
    clear hk hs1 hq
    obtain ⟨i9, hi, hz0, hz1, hz2⟩ := info_parts Try.info9
    obtain ⟨qa1, qc1, hsa⟩ := row1_shape (O3.out.part (i := 1) rfl)
    subst hsa
    have hrow4 : (W3.alloc (.cells #[.string v] 9)).ownsRow 0 9 1 (.slice qa1 s.all.length qc1) s.all.length (s.all.map str) := World.ownsRow.alloc (O3.out.part (i := 1) rfl) _
    have c1 := O3.out.cell (i := 1) rfl
    have hp := O3.out.plt
    have hm : s.all.length + 1 ≤ maxLen := by unfold maxLen; have := HL.out; have := R.out.2.2.2.2.1; omega
    have hm' : (s.all.length + 1) * 16 ≤ 140737488355328 := by have := HL.out; have := R.out.2.2.2.2.1; omega
    go_upto_region 6 with (at_builtin; refine wpList_append_own_at _ rfl (.tmp 33) (.tmp 35) 30 rfl 0 9 i9 (.string ByteArray.empty) 1 16 Try.underlying30 hi hz0 hz1 hz2 rfl (by decide) _ _ _ rfl hrow4 ⟨W3.heap.size, 0, none⟩ 1 1 [.string v] rfl rfl (cell_one_new _ _ _) (by intro u hu; simp at hu; subst hu; rfl) hm hm' (Nat.zero_le _) ?_; intro v' w4 hrow4' hgrow4 _ hloc4; obtain ⟨⟨a4, cc4, hv4⟩, x4, xf4, hT4⟩ := O3.out.appends (i := 1) rfl ((Keeps.refl _ _).alloc _) 1 _ w4 v' hrow4' hgrow4 hloc4; subst hv4; have HT4 := Lib.hid hT4; have y4 := x4 1 _ rfl; have z4 := xf4 1; clear hT4 x4 xf4 hrow4' hgrow4 hloc4)
    obtain ⟨W5, hW5⟩ : ∃ W5, W5 = w4.setCell ⟨p, 1, none⟩ (.slice a4 (s.all.length + 1) cc4) := ⟨_, rfl⟩
    rw [← hW5] at HT4 ⊢
    clear hW5 y4 z4 hrow4 c1 hp hm hm' hi hz0 hz1 hz2 rm hkd
    obtain ⟨F5, h5, hk5, hf5⟩ := HT4.out
    have K5 : Hid (Keeps F w W5 ∧ ∀ b, F5 b → F b ∨ w.heap.size ≤ b) := Lib.hid (by
      obtain ⟨G, hG, g1, g2⟩ := Turns.chain (O := fun w' G => G = F5) K3.out.1 K3.out.2 ⟨F5, rfl, hk5, hf5⟩
      subst hG
      exact ⟨g1, g2⟩)
    have O5 : Hid (Obj 32 p [sk, .slice a4 (s.all.length + 1) cc4, .slice a2 (s.seen.length + 1) cc2, .slice a0 len0 cap0, .bool fair] [Part.row 53 2 sk s.kept.length (s.kept.flatMap putCells), Part.row 9 1 (.slice a4 (s.all.length + 1) cc4) (s.all.length + 1) (s.all.map str ++ [.string v]), Part.row 34 4 (.slice a2 (s.seen.length + 1) cc2) (s.seen.length + 1) (s.seen.flatMap evCells ++ [.int .i64 a, .bool true, .int .i64 n, .string v]), Part.plain, Part.plain] W5 F5) := Lib.hid h5
    clear h5 hk5 hf5 HT4 O3 K3
    obtain ⟨qk, qck, hsk⟩ := row1_shape (O5.out.part (i := 0) rfl)
    subst hsk
    have c0 := O5.out.cell (i := 0) rfl
    have FIN : Hid (∀ (W6 : World) (sk' : Value) (K' : List (Int × Str)), K' = upd s.kept n v.data.toList → Turns W5 F5 W6 (Obj 32 p [sk', .slice a4 (s.all.length + 1) cc4, .slice a2 (s.seen.length + 1) cc2, .slice a0 len0 cap0, .bool fair] [Part.row 53 2 sk' K'.length (K'.flatMap putCells), Part.row 9 1 (.slice a4 (s.all.length + 1) cc4) (s.all.length + 1) (s.all.map str ++ [.string v]), Part.row 34 4 (.slice a2 (s.seen.length + 1) cc2) (s.seen.length + 1) (s.seen.flatMap evCells ++ [.int .i64 a, .bool true, .int .i64 n, .string v]), Part.plain, Part.plain]) →
        Turns w F W6 (RRel p (s.put a n v.data.toList) fair zs a0 len0 cap0)) := Lib.hid (fun W6 sk' K' hK' ht => by
      subst hK'
      refine (Turns.chain K5.out.1 K5.out.2 ht).imp fun G h => ⟨sk', .slice a4 (s.all.length + 1) cc4, .slice a2 (s.seen.length + 1) cc2, ?_, ?_⟩
      · rw [X2.out]
        have e1 : (s.all ++ [v.data.toList]).map str = s.all.map str ++ [.string v] := by simp [str]
        simp only [List.length_append, List.length_cons, List.length_nil, e1, E1.out.1, E1.out.2.1]
        exact h
      · rw [X2.out]
        obtain ⟨r1, r2, r3, r4, r5, r6, r7⟩ := R.out
        refine ⟨E1.out.2.2.2.2.trans r1, r2, upd_names _ _ _ r3, ?_, ?_, ?_, r7⟩
        · show (upd s.kept n v.data.toList).length ≤ s1.seen.length
          rw [E1.out.1]; exact Nat.le_trans (upd_len _ _ _) (by omega)
        · show (s.all ++ [v.data.toList]).length ≤ s1.seen.length
          rw [E1.out.1]; simp; omega
        · intro m x hx
          simp only [look_upd] at hx
          split at hx
          · cases hx; simpa using HV.out
          · exact r6 m x hx)
    have ND := Lib.hid R.out.2.2.1
    have KB : s.kept.length ≤ 65536 := by have := HL.out; have := R.out.2.2.2.1; omega
    obtain ⟨K, hK⟩ : ∃ K, K = s.kept := ⟨_, rfl⟩
    rw [← hK] at O5 FIN ND KB c0
    have RK : Hid (W5.ownsRow 0 53 2 (.slice qk K.length qck) K.length (K.flatMap putCells)) := Lib.hid (by rw [hK]; rw [hK] at O5; exact O5.out.part (i := 0) rfl)
    clear hK R E1 K5 X2
    go_wp2_with fail
    go_loop [10] (fun i => ∃ k : Nat, k ≤ K.length ∧ i = .int .i64 k ∧ ∀ j (h : j < K.length), j < k → K[j].1 ≠ n) (fun i => K.length - (intOf i).toNat)
    case atStart => exact ⟨0, Nat.zero_le _, rfl, fun j h hj => by omega⟩
    case round =>
      obtain ⟨k, hk, rfl, hn⟩ := hrel
      have HN := Lib.hid hn
      clear hn
      by_cases hlt : k < K.length
      · obtain ⟨g, rfl⟩ : ∃ g, qk = some ⟨g, 0, none⟩ := by
          rcases RK.out.2 with ⟨e, _⟩ | ⟨g, cap, _, e, _⟩
          · simp only [Value.slice.injEq] at e; omega
          · simp only [Value.slice.injEq] at e; exact ⟨g, e.1⟩
        have d0 := RK.out.cellAt (k * 2) (by omega)
        have d1 := RK.out.cellAt (k * 2 + 1) (by omega)
        have z1 := RK.out.frozenAt (k * 2 + 1)
        have n0 := put_flat K k hlt 0 (by decide)
        rw [Nat.add_zero] at n0
        rw [n0] at d0
        rw [put_flat K k hlt 1 (by decide)] at d1
        clear n0
        have d0' : W5.cell? ⟨g, k * 2, none⟩ = some (.int .i64 K[k].1) := d0
        have d1' : W5.cell? ⟨g, k * 2 + 1, none⟩ = some (str K[k].2) := d1
        clear d0 d1
        by_cases he : K[k].1 = n
        · have UP : Hid (K.set k (n, v.data.toList) = upd K n v.data.toList) := Lib.hid (upd_hit _ ND.out hlt he).symm
          have ST : Hid (W5.ownsRow 0 53 2 (.slice (some ⟨g, 0, none⟩) K.length qck) K.length (K.flatMap putCells)) := RK
          have FS : Hid ((K.flatMap putCells).set (k * 2 + 1) (.string v) = (K.set k (n, v.data.toList)).flatMap putCells) := Lib.hid (by rw [str_of, flat_set K k hlt, he])
          rw [he] at d0'
          clear he
          generalize str K[k].2 = old at d1'
          go_wp2_with fail
          go_ret
          refine ⟨ret_int X1.out.symm, FIN.out _ (.slice (some ⟨g, 0, none⟩) K.length qck) (K.set k (n, v.data.toList)) UP.out ?_⟩
          obtain ⟨t1, t2⟩ := ST.out.stored (k * 2 + 1) (.string v)
          rw [FS.out] at t1
          have := O5.out.turn0 (i := 0) (c' := Part.row 53 2 (.slice (some ⟨g, 0, none⟩) K.length qck) K.length ((K.set k (n, v.data.toList)).flatMap putCells)) rfl (Keeps.grown t2 (fun _ hk _ => hk)) t1 rfl
          have el : (K.set k (n, v.data.toList)).length = K.length := by simp
          rw [el]
          exact this
        · have HM : Hid (∀ j (h : j < K.length), j < k + 1 → K[j].1 ≠ n) := Lib.hid (fun j h hj => by
            by_cases e : j = k
            · subst e; exact he
            · exact HN.out j h (by omega))
          generalize K[k].1 = m at *
          clear d1' z1
          go_wp2_with fail
          go_round
          case rel => exact ⟨k + 1, by omega, by go_num, HM.out⟩
          case measure => simp [intOf]; omega
      · obtain rfl : k = K.length := by omega
        have UP : Hid (K ++ [(n, v.data.toList)] = upd K n v.data.toList) := Lib.hid (upd_miss _ (look_miss (fun j h => HN.out j h h))).symm
        obtain ⟨i53, hi, hz0, hz1, hz2⟩ := info_parts Try.info53
        have hrow6 : (W5.alloc (.cells #[.int .i64 n, .string v] 53)).ownsRow 0 53 2 (.slice qk K.length qck) K.length (K.flatMap putCells) := World.ownsRow.alloc RK.out _
        have hp := O5.out.plt
        have hm : K.length + 1 ≤ maxLen := by unfold maxLen; omega
        have hm' : (K.length + 1) * 24 ≤ 140737488355328 := by omega
        go_wp2_with (at_builtin; refine wpList_append_own_at _ rfl (.tmp 70) (.tmp 74) 29 rfl 0 53 i53 _ 2 24 Try.underlying29 hi hz0 hz1 hz2 rfl (by decide) _ _ _ rfl hrow6 ⟨W5.heap.size, 0, none⟩ 1 1 [.int .i64 n, .string v] rfl rfl (cells_new _ _ _) (by intro u hu; simp at hu; rcases hu with rfl | rfl <;> rfl) hm hm' (Nat.zero_le _) ?_; intro v' w6 hrow6' hgrow6 _ hloc6; obtain ⟨⟨a6, cc6, hv6⟩, x6, xf6, hT6⟩ := O5.out.appends (i := 0) rfl ((Keeps.refl _ _).alloc _) 1 _ w6 v' hrow6' hgrow6 hloc6; subst hv6; have HT6 := Lib.hid hT6; have y6 := x6 0 _ rfl; have z6 := xf6 0; clear hT6 x6 xf6 hrow6' hgrow6 hloc6)
        go_ret
        refine ⟨ret_int X1.out.symm, FIN.out _ (.slice a6 (K.length + 1) cc6) (K ++ [(n, v.data.toList)]) UP.out ?_⟩
        have e1 : (K ++ [(n, v.data.toList)]).flatMap putCells = K.flatMap putCells ++ [.int .i64 n, .string v] := by simp [List.flatMap_append, putCells, str]
        rw [e1, List.length_append]
        exact HT6.out
end Go.Proofs.Yteclbfkeiejbeaa
