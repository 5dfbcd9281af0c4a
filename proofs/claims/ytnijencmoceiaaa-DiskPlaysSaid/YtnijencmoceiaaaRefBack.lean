/-
  No statement is proved here: the document's 'Restart', as a contract.
-/
import Derived.Test.YtnijencmoceiaaaRefSync
import Derived.Deep.RegionWith
namespace Go.Proofs.Ytnijencmoceiaaa
set_option linter.unusedSimpArgs false
set_option linter.unusedVariables false
open Go.RowKit Go.Maps

theorem dc_zero {x : Deed} {xa xb : ByteArray} (hd : dc x = [.int .i64 0, .string xa, .string xb]) : x = .wr xa.data.toList xb.data.toList := by
  cases x with
  | wr a d =>
    simp only [dc, List.cons.injEq, and_true, true_and] at hd
    have h1 : (⟨a.toArray⟩ : ByteArray) = xa := Value.string.inj hd.1
    have h2 : (⟨d.toArray⟩ : ByteArray) = xb := Value.string.inj hd.2
    rw [← h1, ← h2]
  | rn a b => simp [dc] at hd
  | rm a => simp [dc] at hd
theorem torn_nz {x : Deed} {zz : Int} {xa xb : ByteArray} (hd : dc x = [.int .i64 zz, .string xa, .string xb]) (hz : zz ≠ 0) {n : Int} (hn : 0 < n) : x.torn n = some x := by
  unfold Deed.torn
  rw [if_neg (by omega)]
  cases x with
  | wr a d => simp only [dc, List.cons.injEq, Value.int.injEq, true_and] at hd; exact absurd hd.1.symm hz
  | rn a b => rfl
  | rm a => rfl
theorem torn_wr {a d : Str} {n : Int} (hn : 1 < n) : (Deed.wr a d).torn n = some (.wr a (d.take (n - 2).toNat)) := by
  unfold Deed.torn
  rw [if_neg (by omega)]
  simp only [if_pos hn]

set_option maxRecDepth 100000 in
set_option maxHeartbeats 4000000 in
theorem rrestart_at {p : Nat} {s : St} {w : World} {F : Nat → Prop} (h : RDk p s w F) (a : Option Addr) (len cap b off : Nat) (z : Nat → Int) (hz : Ints w F a len b off z) (hl : Fits s 65535) :
    Calls Try.prog 24 #[.pointer (some ⟨p, 0, none⟩), .slice a len cap] w fun e w' => e = .returned (.tuple #[]) ∧ Turns w F w' (RDk p (s.restart z)) := by
  obtain ⟨kv, wv, h, g, hw⟩ := h
  obtain ⟨ka, kc, hkv⟩ := frow_shape (h.part (i := 0) rfl)
  subst hkv
  obtain ⟨wa, wc, hwv, -⟩ := row_shape (h.part (i := 1) rfl)
  subst hwv
  obtain ⟨n, hn⟩ : ∃ n, s.waits.length = n := ⟨_, rfl⟩
  obtain ⟨O, hO⟩ : ∃ O : Files → Value → World → (Nat → Prop) → Prop, O = fun K kv => Obj 46 p [kv, .slice wa n wc, .int .i64 s.room, .bool s.down, .int .i64 s.armed]
    [Part.row 67 2 kv K.length (K.flatMap fc), Part.row 65 3 (.slice wa n wc) s.waits.length (s.waits.flatMap dc), Part.plain, Part.plain, Part.plain] := ⟨_, rfl⟩
  obtain ⟨kn, hkn⟩ : ∃ kn, s.kept.length = kn := ⟨_, rfl⟩
  have T0 : Hid (Turns w F w (O (redo s.kept s.waits z 0) (.slice ka kn kc))) := Lib.hid (Turns.refl (by rw [hO]; simp only [← hn, ← hkn]; exact h))
  have RG : Hid (∀ k, Rising (redo s.kept s.waits z k) ∧ Short (redo s.kept s.waits z k) ∧ (redo s.kept s.waits z k).length ≤ s.kept.length + k) := Lib.hid (redo_good g.rk g.sk g.sw z)
  have HZ := Lib.hid hz
  have FT := Lib.hid hl
  have GG := Lib.hid g
  have WN := Lib.hid hn
  have HO := Lib.hid hO
  have OF : Hid (∀ K kv, Framed (O K kv)) := Lib.hid (fun K kv => by rw [hO]; exact Obj.framed _ _ _ _)
  have KN : Hid ((redo s.kept s.waits z 0).length = kn) := Lib.hid hkn
  have hz1 := hz.bound
  have hn5 : n ≤ 65535 := by rw [← hn]; exact hl.waits
  have CELL : Hid (∀ K kv wr, Turns w F wr (O K kv) → wr.cell? ⟨p, 0, none⟩ = some kv ∧ wr.cell? ⟨p, 1, none⟩ = some (.slice wa n wc) ∧ wr.frozen? ⟨p, 0, none⟩ = false ∧ Keeps F w wr ∧ FRow wr kv K ∧
      ∀ k x zz xa xb, s.waits[k]? = some x → dc x = [.int .i64 zz, .string xa, .string xb] → ∃ g, wa = some ⟨g, 0, none⟩ ∧ wr.cell? ⟨g, k * 3, none⟩ = some (.int .i64 zz) ∧ wr.cell? ⟨g, k * 3 + 1, none⟩ = some (.string xa) ∧ wr.cell? ⟨g, k * 3 + 2, none⟩ = some (.string xb)) := Lib.hid (fun K kv wr ht => by
    rw [hO] at ht
    obtain ⟨F1, h1, hk1, -⟩ := ht
    refine ⟨h1.cell (i := 0) rfl, h1.cell (i := 1) rfl, h1.frozen 0, hk1, h1.part (i := 0) rfl, fun k x zz xa xb hx hd => ?_⟩
    obtain ⟨g, c, hv, hc0, hc1, hc2⟩ := wrow_at (h1.part (i := 1) rfl) hx hd
    exact ⟨g, by injection hv, hc0, hc1, hc2⟩)
  clear h hz hl g hw hkn hn hO
  go_enter Try.func24, Try.ntmps24
  go_wp2_with fail
  go_loopw [4] (fun i wr => ∃ k : Nat, k ≤ n ∧ i = .int .i64 k ∧ ∃ (la : Option Addr) (ln lc : Nat), (redo s.kept s.waits z k).length = ln ∧ Turns w F wr (O (redo s.kept s.waits z k) (.slice la ln lc))) (fun i _ => n - (intOf i).toNat)
  case atStart => exact ⟨0, Nat.zero_le _, rfl, ka, kn, kc, KN.out, T0.out⟩
  case round =>
    obtain ⟨k, hk, rfl, la, ln, lc, hln, ht⟩ := hrel
    have HT := Lib.hid ht
    have LN := Lib.hid hln
    obtain ⟨m0, m1, mf, -, -, -⟩ := CELL.out _ _ wr ht
    clear ht hln
    by_cases hlt : k < n
    · obtain ⟨x, hx⟩ : ∃ x, s.waits[k]? = some x := ⟨_, List.getElem?_eq_getElem (by rw [WN.out]; exact hlt)⟩
      obtain ⟨zz, xa, xb, hd⟩ := dc_shape x
      obtain ⟨-, -, -, hkp, hfr, hcx⟩ := CELL.out _ _ wr HT.out
      obtain ⟨g, rfl, hc0, hc1, hc2⟩ := hcx k x zz xa xb hx hd
      have HS : Hid x.short := Lib.hid (GG.out.sw x (List.mem_of_getElem? hx))
      have RS := Lib.hid (redo_succ (K := s.kept) (z := z) hx)
      have HD := Lib.hid hd
      have hix := fun W hj => HZ.out.index cap W k hj
      have hcz := fun hj => HZ.out.keeps hkp (fun _ _ h => h) k hj
      have HFR := Lib.hid hfr
      clear hkp hx hd hfr hcx
      have DOF : Hid (∀ w2 (y : Deed) (zy : Int) (ya yb : ByteArray), Turns w F w2 (O (redo s.kept s.waits z k) (.slice la ln lc)) → redo s.kept s.waits z (k + 1) = y.run (redo s.kept s.waits z k) → dc y = [.int .i64 zy, .string ya, .string yb] →
          Calls Try.prog 35 #[.slice la ln lc, .agg #[.int .i64 zy, .string ya, .string yb]] w2 fun e w' => ∃ (a' : Option Addr) (n' c' : Nat), e = .returned (.slice a' n' c') ∧ (redo s.kept s.waits z (k + 1)).length = n' ∧ w'.cell? ⟨p, 0, none⟩ = some (.slice la ln lc) ∧ w'.frozen? ⟨p, 0, none⟩ = false ∧
            Turns w F (w'.setCell ⟨p, 0, none⟩ (.slice a' n' c')) (O (redo s.kept s.waits z (k + 1)) (.slice a' n' c'))) := Lib.hid (fun w2 y zy ya yb ht hE hdy => by
        rw [HO.out] at ht ⊢
        obtain ⟨F1, h1, hk1, hF1⟩ := ht
        have D := rdo_at (h1.part (i := 0) rfl) (by have := (RG.out k).2.2; have := FT.out.both; have := WN.out; show (redo s.kept s.waits z k).length ≤ _; omega) (RG.out k).1 y
        rw [hdy] at D
        refine D.mono ?_
        rintro e w' ⟨v', rfl, hr⟩
        obtain ⟨a', c', hv⟩ := frow_shape hr.1
        have hkp := h1.kept hr.2.1 (fun _ _ h => h)
        refine ⟨a', _, c', by rw [hv], by rw [hE], hkp.cell (i := 0) rfl, hkp.frozen 0, ?_⟩
        rw [hE, ← hv]
        exact Turns.chain hk1 hF1 (h1.turn (i := 0) (c' := Part.row 67 2 v' (y.run (redo s.kept s.waits z k)).length ((y.run (redo s.kept s.waits z k)).flatMap fc)) (v' := v') rfl (hr.2.1.mono (fun _ _ h => h.elim)) hr.1 (fres_loc hr)))
      by_cases hkl : k < len
      · have hix1 := fun W => hix W hkl
        have hcz1 := hcz hkl
        clear hix hcz
        have ZF := Lib.hid (HZ.out.fits k hkl)
        generalize hzk : z k = zk at *
        clear hzk
        rcases (show zk ≤ 0 ∨ zk = 1 ∨ 2 ≤ zk by omega) with hv | hv | hv
        · have E : Hid (redo s.kept s.waits z (k + 1) = redo s.kept s.waits z k) := Lib.hid (by rw [RS.out]; unfold redo1 Deed.torn; rw [if_pos hv])
          have HT1 := Lib.hid (HT.out.more (OF.out _ _) ((Keeps.refl (fun _ => False) wr).alloc (.cells #[.int .i64 zz, .string xa, .string xb] 65)))
          rcases (show zz = 0 ∨ zz ≠ 0 by omega) with rfl | hz0
          · go_wp2_with fail
            go_roundw
            case rel => exact ⟨k + 1, by omega, by go_num, la, ln, lc, by rw [E.out]; exact LN.out, by rw [E.out]; exact HT1.out⟩
            case measure => simp [intOf]; omega
          · have hzb : (zz == 0) = false := by simpa using hz0
            go_wp2_with fail
            go_roundw
            case rel => exact ⟨k + 1, by omega, by go_num, la, ln, lc, by rw [E.out]; exact LN.out, by rw [E.out]; exact HT1.out⟩
            case measure => simp [intOf]; omega
        · subst hv
          have E : Hid (redo s.kept s.waits z (k + 1) = x.run (redo s.kept s.waits z k)) := Lib.hid (by rw [RS.out, redo1_1])
          rcases (show zz = 0 ∨ zz ≠ 0 by omega) with rfl | hz0
          · go_wp2_with fail
            obtain ⟨W1, hW1⟩ : ∃ W1, W1 = wr.alloc (.cells #[.int .i64 0, .string xa, .string xb] 65) := ⟨_, rfl⟩
            rw [← hW1]
            have HT1 : Turns w F W1 (O (redo s.kept s.waits z k) (.slice la ln lc)) := by rw [hW1]; exact HT.out.more (OF.out _ _) ((Keeps.refl (fun _ => False) wr).alloc _)
            obtain ⟨q0, -, qf, -⟩ := CELL.out _ _ W1 HT1
            have b0 : W1.cell? ⟨wr.heap.size, 0, none⟩ = some (.int .i64 0) := by rw [hW1]; exact cells_new wr [.int .i64 0, .string xa, .string xb] 65 0 _ rfl
            have b1 : W1.cell? ⟨wr.heap.size, 1, none⟩ = some (.string xa) := by rw [hW1]; exact cells_new wr [.int .i64 0, .string xa, .string xb] 65 1 _ rfl
            have b2 : W1.cell? ⟨wr.heap.size, 2, none⟩ = some (.string (xb)) := by rw [hW1]; exact cells_new wr [.int .i64 0, .string xa, .string xb] 65 2 _ rfl
            have C := Lib.hid (DOF.out _ x 0 xa xb (HT1.more (OF.out _ _) (Keeps.drewN (fun _ => False) _ 1)) E.out HD.out)
            clear HT1 hW1
            go_region_with (go_at_call 35; refine C.out.mono ?_; rintro e w3 ⟨a', n', c', rfl, hn', q0', qf', hT3⟩; have HT3 := Lib.hid hT3; have HN3 := Lib.hid hn'; clear hT3 hn')
            all_goals
              go_wp2_with fail
              go_roundw
              case rel => exact ⟨k + 1, by omega, by go_num, a', n', c', HN3.out, HT3.out⟩
              case measure => simp [intOf]; omega
          · have hzb : (zz == 0) = false := by simpa using hz0
            go_wp2_with fail
            obtain ⟨W1, hW1⟩ : ∃ W1, W1 = wr.alloc (.cells #[.int .i64 zz, .string xa, .string xb] 65) := ⟨_, rfl⟩
            rw [← hW1]
            have HT1 : Turns w F W1 (O (redo s.kept s.waits z k) (.slice la ln lc)) := by rw [hW1]; exact HT.out.more (OF.out _ _) ((Keeps.refl (fun _ => False) wr).alloc _)
            obtain ⟨q0, -, qf, -⟩ := CELL.out _ _ W1 HT1
            have b0 : W1.cell? ⟨wr.heap.size, 0, none⟩ = some (.int .i64 zz) := by rw [hW1]; exact cells_new wr [.int .i64 zz, .string xa, .string xb] 65 0 _ rfl
            have b1 : W1.cell? ⟨wr.heap.size, 1, none⟩ = some (.string xa) := by rw [hW1]; exact cells_new wr [.int .i64 zz, .string xa, .string xb] 65 1 _ rfl
            have b2 : W1.cell? ⟨wr.heap.size, 2, none⟩ = some (.string (xb)) := by rw [hW1]; exact cells_new wr [.int .i64 zz, .string xa, .string xb] 65 2 _ rfl
            have C := Lib.hid (DOF.out _ x zz xa xb (HT1.more (OF.out _ _) (Keeps.drewN (fun _ => False) _ 1)) E.out HD.out)
            clear HT1 hW1
            go_region_with (go_at_call 35; refine C.out.mono ?_; rintro e w3 ⟨a', n', c', rfl, hn', q0', qf', hT3⟩; have HT3 := Lib.hid hT3; have HN3 := Lib.hid hn'; clear hT3 hn')
            all_goals
              go_wp2_with fail
              go_roundw
              case rel => exact ⟨k + 1, by omega, by go_num, a', n', c', HN3.out, HT3.out⟩
              case measure => simp [intOf]; omega
        · rcases (show zz = 0 ∨ zz ≠ 0 by omega) with rfl | hz0
          · obtain ⟨m, rfl⟩ : ∃ m : Nat, zk = (m : Int) + 2 := ⟨(zk - 2).toNat, by omega⟩
            obtain ⟨j, hj⟩ : ∃ j : Nat, j = min m xb.size := ⟨_, rfl⟩
            have hjd : j ≤ xb.size := by omega
            have hXB : xb.size ≤ 65535 := by
              have hx := dc_zero HD.out
              have := HS.out
              rw [hx] at this
              have := this.2
              simpa using this
            have E : Hid (redo s.kept s.waits z (k + 1) = (Deed.wr xa.data.toList (xb.extract 0 j).data.toList).run (redo s.kept s.waits z k)) := Lib.hid (by
              rw [RS.out]
              unfold redo1
              rw [dc_zero HD.out, torn_wr (by omega)]
              have : xb.data.toList.take ((m : Int) + 2 - 2).toNat = (xb.extract 0 j).data.toList := by
                have e1 : ((m : Int) + 2 - 2).toNat = m := by omega
                rw [e1, hj]
                simp
              rw [this])
            have HY : Hid (dc (.wr xa.data.toList (xb.extract 0 j).data.toList) = [.int .i64 0, .string xa, .string (xb.extract 0 j)]) := Lib.hid (by
              show [Value.int .i64 0, str _, str _] = _
              rw [← str_of, ← str_of])
            have S : Go.RowKit.wrap64 ((m : Int) + 2 - 2) = (m : Int) := by
              have := ZF.out
              unfold Go.RowKit.wrap64; omega
            have M : min (m : Int) (xb.size : Int) = (j : Int) := by omega
            clear hj RS
            generalize ((m : Int) + 2) = zk at *
            go_wp2_with fail
            obtain ⟨W1, hW1⟩ : ∃ W1, W1 = wr.alloc (.cells #[.int .i64 0, .string xa, .string (xb.extract 0 j)] 65) := ⟨_, rfl⟩
            rw [← hW1]
            have HT1 : Turns w F W1 (O (redo s.kept s.waits z k) (.slice la ln lc)) := by rw [hW1]; exact HT.out.more (OF.out _ _) ((Keeps.refl (fun _ => False) wr).alloc _)
            obtain ⟨q0, -, qf, -⟩ := CELL.out _ _ W1 HT1
            have b0 : W1.cell? ⟨wr.heap.size, 0, none⟩ = some (.int .i64 0) := by rw [hW1]; exact cells_new wr [.int .i64 0, .string xa, .string (xb.extract 0 j)] 65 0 _ rfl
            have b1 : W1.cell? ⟨wr.heap.size, 1, none⟩ = some (.string xa) := by rw [hW1]; exact cells_new wr [.int .i64 0, .string xa, .string (xb.extract 0 j)] 65 1 _ rfl
            have b2 : W1.cell? ⟨wr.heap.size, 2, none⟩ = some (.string ((xb.extract 0 j))) := by rw [hW1]; exact cells_new wr [.int .i64 0, .string xa, .string (xb.extract 0 j)] 65 2 _ rfl
            have C := Lib.hid (DOF.out _ (.wr xa.data.toList (xb.extract 0 j).data.toList) 0 xa (xb.extract 0 j) (HT1.more (OF.out _ _) (Keeps.drewN (fun _ => False) _ 1)) E.out HY.out)
            clear HT1 hW1
            go_region_with (go_at_call 35; refine C.out.mono ?_; rintro e w3 ⟨a', n', c', rfl, hn', q0', qf', hT3⟩; have HT3 := Lib.hid hT3; have HN3 := Lib.hid hn'; clear hT3 hn')
            all_goals
              go_wp2_with fail
              go_roundw
              case rel => exact ⟨k + 1, by omega, by go_num, a', n', c', HN3.out, HT3.out⟩
              case measure => simp [intOf]; omega
          · have E : Hid (redo s.kept s.waits z (k + 1) = x.run (redo s.kept s.waits z k)) := Lib.hid (by rw [RS.out]; unfold redo1; rw [torn_nz HD.out hz0 (by omega)])
            have hzb : (zz == 0) = false := by simpa using hz0
            go_wp2_with fail
            obtain ⟨W1, hW1⟩ : ∃ W1, W1 = wr.alloc (.cells #[.int .i64 zz, .string xa, .string xb] 65) := ⟨_, rfl⟩
            rw [← hW1]
            have HT1 : Turns w F W1 (O (redo s.kept s.waits z k) (.slice la ln lc)) := by rw [hW1]; exact HT.out.more (OF.out _ _) ((Keeps.refl (fun _ => False) wr).alloc _)
            obtain ⟨q0, -, qf, -⟩ := CELL.out _ _ W1 HT1
            have b0 : W1.cell? ⟨wr.heap.size, 0, none⟩ = some (.int .i64 zz) := by rw [hW1]; exact cells_new wr [.int .i64 zz, .string xa, .string xb] 65 0 _ rfl
            have b1 : W1.cell? ⟨wr.heap.size, 1, none⟩ = some (.string xa) := by rw [hW1]; exact cells_new wr [.int .i64 zz, .string xa, .string xb] 65 1 _ rfl
            have b2 : W1.cell? ⟨wr.heap.size, 2, none⟩ = some (.string (xb)) := by rw [hW1]; exact cells_new wr [.int .i64 zz, .string xa, .string xb] 65 2 _ rfl
            have C := Lib.hid (DOF.out _ x zz xa xb (HT1.more (OF.out _ _) (Keeps.drewN (fun _ => False) _ 1)) E.out HD.out)
            clear HT1 hW1
            go_region_with (go_at_call 35; refine C.out.mono ?_; rintro e w3 ⟨a', n', c', rfl, hn', q0', qf', hT3⟩; have HT3 := Lib.hid hT3; have HN3 := Lib.hid hn'; clear hT3 hn')
            all_goals
              go_wp2_with fail
              go_roundw
              case rel => exact ⟨k + 1, by omega, by go_num, a', n', c', HN3.out, HT3.out⟩
              case measure => simp [intOf]; omega
      · have hz0 : z k = 0 := HZ.out.past k (by omega)
        have E : Hid (redo s.kept s.waits z (k + 1) = redo s.kept s.waits z k) := Lib.hid (by rw [RS.out, hz0]; unfold redo1 Deed.torn; rw [if_pos (by omega)])
        have HT1 := Lib.hid (HT.out.more (OF.out _ _) ((Keeps.refl (fun _ => False) wr).alloc (.cells #[.int .i64 zz, .string xa, .string xb] 65)))
        clear hix hcz hz0
        rcases (show zz = 0 ∨ zz ≠ 0 by omega) with rfl | hz0
        · go_wp2_with fail
          go_roundw
          case rel => exact ⟨k + 1, by omega, by go_num, la, ln, lc, by rw [E.out]; exact LN.out, by rw [E.out]; exact HT1.out⟩
          case measure => simp [intOf]; omega
        · have hzb : (zz == 0) = false := by simpa using hz0
          go_wp2_with fail
          go_roundw
          case rel => exact ⟨k + 1, by omega, by go_num, la, ln, lc, by rw [E.out]; exact LN.out, by rw [E.out]; exact HT1.out⟩
          case measure => simp [intOf]; omega
    · have hkn : k = n := by omega
      have HT1 : Hid (Turns w F wr (O (redo s.kept s.waits z s.waits.length) (.slice la ln lc))) := Lib.hid (by rw [WN.out, ← hkn]; exact HT.out)
      have RN := Lib.hid (RG.out s.waits.length)
      have HK := Lib.hid hkn
      obtain ⟨F1, h1, hk1, hF1⟩ := HT1.out
      rw [HO.out] at h1
      have d3 := h1.cell (i := 3) rfl
      have d4 := h1.cell (i := 4) rfl
      have f1 := h1.frozen 1
      have f3 := h1.frozen 3
      have f4 := h1.frozen 4
      have P : Hid (Turns wr F1 (((wr.setCell ⟨p, 1, none⟩ (.slice none 0 0)).setCell ⟨p, 3, none⟩ (.bool false)).setCell ⟨p, 4, none⟩ (.int .i64 0)) (RDk p (s.restart z))) := Lib.hid (by
        refine (h1.turn (i := 1) (c' := Part.row 65 3 (.slice none 0 0) 0 []) (v' := .slice none 0 0) (w1 := _) rfl (Keeps.refl _ _) (World.ownsRow_nil _ _ _ _) (.inl rfl)).trans fun F3 h3 => ?_
        refine (h3.turn (i := 3) (c' := Part.plain) (v' := .bool false) (w1 := _) rfl (Keeps.refl _ _) trivial (.inl rfl)).trans fun F4 h4 => ?_
        refine (h4.turn (i := 4) (c' := Part.plain) (v' := .int .i64 0) (w1 := _) rfl (Keeps.refl _ _) trivial (.inl rfl)).imp fun G h5 => ⟨.slice la ln lc, .slice none 0 0, h5, ?_, rfl⟩
        exact ⟨RN.out.1, RN.out.1, RN.out.2.1, RN.out.2.1, (fun y hy => by cases hy), GG.out.room, by show (0 : Nat) ≤ _; omega⟩)
      have K1 := Lib.hid (And.intro hk1 hF1)
      clear h1 hk1 hF1 HT1 hkn
      go_wp2_with fail
      go_end0
      exact ⟨rfl, Turns.chain K1.out.1 K1.out.2 P.out⟩
end Go.Proofs.Ytnijencmoceiaaa
