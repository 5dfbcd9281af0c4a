/-
  No statement is proved here: 'Restart' of a disk, as a contract.
-/
import Derived.Test.YtnijencmoceiaaaTorn0
namespace Go.Proofs.Ytnijencmoceiaaa
set_option linter.unusedVariables false
open Go.RowKit Go.Maps

/-- One deed, as much of it as is kept. -/
def redo1 (K : Files) (x : Deed) (n : Int) : Files := match x.torn n with
  | some y => y.run K
  | none => K
/-- What is kept of the first k deeds, by their numbers. -/
def redo (K : Files) (ws : List Deed) (z : Nat → Int) : Nat → Files
  | 0 => K
  | k + 1 => match ws[k]? with
    | some x => redo1 (redo K ws z k) x (z k)
    | none => redo K ws z k
theorem redo_succ {K : Files} {ws : List Deed} {z : Nat → Int} {k : Nat} {x : Deed} (h : ws[k]? = some x) : redo K ws z (k + 1) = redo1 (redo K ws z k) x (z k) := by
  show (match ws[k]? with | some x => redo1 (redo K ws z k) x (z k) | none => redo K ws z k) = _
  rw [h]
theorem redo1_good {K : Files} (hr : Rising K) (hs : Short K) {x : Deed} (hx : x.short) (n : Int) : Rising (redo1 K x n) ∧ Short (redo1 K x n) ∧ (redo1 K x n).length ≤ K.length + 1 := by
  unfold redo1
  split
  · rename_i y hy
    exact ⟨rising_run hr y, short_run hs (torn_short hx hy), len_run K y⟩
  · exact ⟨hr, hs, by omega⟩
theorem redo_good {K : Files} (hr : Rising K) (hs : Short K) {ws : List Deed} (hw : ∀ x ∈ ws, x.short) (z : Nat → Int) : ∀ k, Rising (redo K ws z k) ∧ Short (redo K ws z k) ∧ (redo K ws z k).length ≤ K.length + k
  | 0 => ⟨hr, hs, by simp [redo]⟩
  | k + 1 => by
    obtain ⟨h1, h2, h3⟩ := redo_good hr hs hw z k
    cases hk : ws[k]? with
    | some x =>
      rw [redo_succ hk]
      obtain ⟨g1, g2, g3⟩ := redo1_good h1 h2 (hw x (List.mem_of_getElem? hk)) (z k)
      exact ⟨g1, g2, by omega⟩
    | none =>
      have : redo K ws z (k + 1) = redo K ws z k := by
        show (match ws[k]? with | some x => redo1 (redo K ws z k) x (z k) | none => redo K ws z k) = _
        rw [hk]
      rw [this]; exact ⟨h1, h2, by omega⟩

/-- A slice of ints that is read, in blocks that are not turned. -/
structure Ints (w : World) (F : Nat → Prop) (a : Option Addr) (len b off : Nat) (z : Nat → Int) : Prop where
  bound : len ≤ 9223372036854775807
  head : 0 < len → a = some ⟨b, off, none⟩
  cell : ∀ j, j < len → w.cell? ⟨b, off + j, none⟩ = some (.int .i64 (z j))
  off : 0 < len → ¬ F b
  fits : ∀ j, j < len → z j ≤ 9223372036854775807
  past : ∀ j, len ≤ j → z j = 0
theorem Ints.index {w : World} {F : Nat → Prop} {a : Option Addr} {len b off : Nat} {z : Nat → Int} (h : Ints w F a len b off z) (cap : Nat) (W : World) (j : Nat) (hj : j < len) :
    (Instr.indexAt 29 (.slice a len cap) (.int .i64 j)).run Try.prog W = .ok (.pointer (some ⟨b, off + j, none⟩)) W := by
  have e := h.head (by omega)
  subst e
  simp [Addr.add, hj, Try.underlying29, go_sem]
theorem Ints.keeps {w w' : World} {F G : Nat → Prop} {a : Option Addr} {len b off : Nat} {z : Nat → Int} (h : Ints w F a len b off z) (hk : Keeps G w w') (hG : ∀ i, i < w.heap.size → G i → F i) (j : Nat) (hj : j < len) : w'.cell? ⟨b, off + j, none⟩ = some (.int .i64 (z j)) := by
  have hlt := World.block_lt_of_cell? w _ (h.cell j hj)
  exact (World.cell?_of_block (hk.block b hlt (fun hg => h.off (by omega) (hG _ hlt hg)))).trans (h.cell j hj)

theorem row_at {w : World} {e : TypeId} {v : Value} {n : Nat} {xs : List Value} (h : w.ownsRow 0 e 1 v n xs) {j : Nat} (hj : j < n) : ∃ g c, v = .slice (some ⟨g, 0, none⟩) n c ∧ w.cell? ⟨g, j, none⟩ = xs[j]? := by
  rcases h.2 with ⟨_, h2⟩ | ⟨g, cap, cur, hv, hb, r⟩
  · omega
  · have h' : w.ownsRow 0 e 1 (.slice (some ⟨g, 0, none⟩) n cap) n xs := ⟨h.1, .inr ⟨g, cap, cur, rfl, hb, r⟩⟩
    exact ⟨g, cap, hv, h'.cellAt j (by omega)⟩

/-- Up again, with some of what was pending. -/
def St.restart (s : St) (z : Nat → Int) : St := { s with kept := redo s.kept s.waits z s.waits.length, there := redo s.kept s.waits z s.waits.length, waits := [], down := false, armed := 0 }

set_option maxRecDepth 100000 in
set_option maxHeartbeats 2000000 in
theorem restart_at {p : Nat} {s : St} {w : World} {F : Nat → Prop} (h : Dk p s w F) (a : Option Addr) (len cap b off : Nat) (z : Nat → Int) (hz : Ints w F a len b off z) (hl : s.kept.length + s.waits.length < 65536) :
    Calls Try.prog 23 #[.pointer (some ⟨p, 0, none⟩), .slice a len cap] w fun e w' => e = .returned (.tuple #[]) ∧ Turns w F w' (Dk p (s.restart z)) := by
  obtain ⟨mk, mt, pv, h, g⟩ := h
  obtain ⟨pa, pc, hpv, -⟩ := row_shape (h.part (i := 3) rfl)
  subst hpv
  obtain ⟨O, hO⟩ : ∃ O : Files → World → (Nat → Prop) → Prop, O = fun K => Obj 58 p [.int .i64 s.room, .map (some mk), .map (some mt), .slice pa s.waits.length pc, .bool s.down, .int .i64 s.armed]
    [Part.plain, mapPart mk K, mapPart mt s.there, Part.row 76 1 (.slice pa s.waits.length pc) s.waits.length (s.waits.map Deed.val), Part.plain, Part.plain] := ⟨_, rfl⟩
  have OF : Hid (∀ K, Framed (O K)) := Lib.hid (fun K => by rw [hO]; exact Obj.framed _ _ _ _)
  have T0 : Hid (Turns w F w (O (redo s.kept s.waits z 0))) := Lib.hid (Turns.refl (by rw [hO]; exact h))
  have RG : Hid (∀ k, Rising (redo s.kept s.waits z k) ∧ Short (redo s.kept s.waits z k) ∧ (redo s.kept s.waits z k).length ≤ s.kept.length + k) := Lib.hid (redo_good g.rk g.sk g.sw z)
  have HZ := Lib.hid hz
  have HL := Lib.hid hl
  have GG := Lib.hid g
  have c3 := h.cell (i := 3) rfl
  have hz1 := hz.bound
  have hnl : s.waits.length < 65536 := by omega
  clear h hz hl g
  -- what an iteration may lean on
  have CELL : Hid (∀ wr, ∀ k, ∀ x, s.waits[k]? = some x → Turns w F wr (O (redo s.kept s.waits z k)) → (∃ g, pa = some ⟨g, 0, none⟩ ∧ wr.cell? ⟨g, k, none⟩ = some (.iface x.ty x.recv)) ∧ wr.cell? ⟨p, 1, none⟩ = some (.map (some mk)) ∧ Keeps F w wr) := Lib.hid (fun wr k x hx ht => by
    rw [hO] at ht
    obtain ⟨F1, h1, hk1, -⟩ := ht
    obtain ⟨g, c, hv, hc⟩ := row_at (h1.part (i := 3) rfl) (List.getElem?_eq_some_iff.1 hx).1
    refine ⟨⟨g, by injection hv, ?_⟩, h1.cell (i := 1) rfl, hk1⟩
    rw [hc, List.getElem?_map, hx]; rfl)
  have STEP : Hid (∀ wr, ∀ k, ∀ y : Deed, y.short → k < 65536 → (redo s.kept s.waits z k).length < 131072 → Turns w F wr (O (redo s.kept s.waits z k)) →
      Calls Try.prog y.fn #[y.recv, .map (some mk)] wr.drew fun e w' => e = .returned (.tuple #[]) ∧ Turns w F w' (O (y.run (redo s.kept s.waits z k)))) := Lib.hid (fun wr k y hy hk hlen ht => by
    rw [hO] at ht ⊢
    obtain ⟨F1, h1, hk1, hF1⟩ := ht
    refine (do_at y hy mk _ wr.drew (h1.part (i := 1) rfl) (by unfold maxLen; omega) (RG.out k).2.1).mono ?_
    rintro e w' ⟨rfl, ho, hk⟩
    exact ⟨rfl, Turns.chain hk1 hF1 (h1.turn0 (i := 1) (c' := mapPart mk (y.run (redo s.kept s.waits z k))) rfl ((Keeps.refl _ wr).drew.trans hk (fun _ _ e => by rw [e]; rfl)) ho rfl)⟩)
  have he : ∀ ty rc w, (binOp .neq 76 (.iface ty rc) .nilIface).run Try.prog w = .ok (.bool true) w := fun _ _ _ => rfl
  have he0 : ∀ w, (binOp .neq 76 .nilIface .nilIface).run Try.prog w = .ok (.bool false) w := fun _ => rfl
  go_enter Try.func23, Try.ntmps23
  go_wp2_with fail
  go_loopw [13] (fun i wr => ∃ k : Nat, k ≤ s.waits.length ∧ i = .int .i64 k ∧ Turns w F wr (O (redo s.kept s.waits z k))) (fun i _ => s.waits.length - (intOf i).toNat)
  case atStart => exact ⟨0, Nat.zero_le _, rfl, T0.out⟩
  case round =>
    obtain ⟨k, hk, rfl, ht⟩ := hrel
    have HT := Lib.hid ht
    clear ht
    by_cases hlt : k < s.waits.length
    · obtain ⟨x, hx⟩ : ∃ x, s.waits[k]? = some x := ⟨_, List.getElem?_eq_getElem hlt⟩
      obtain ⟨⟨g, rfl, hcx⟩, -, hkp⟩ := CELL.out wr k x hx HT.out
      have HS : Hid x.short := Lib.hid (GG.out.sw x (List.mem_of_getElem? hx))
      have RS := Lib.hid (redo_succ (K := s.kept) (z := z) hx)
      have hix := fun W hj => HZ.out.index cap W k hj
      have hcz := fun hj => HZ.out.keeps hkp (fun _ _ h => h) k hj
      clear hkp
      have HX := Lib.hid hx
      clear hx
      by_cases hkl : k < len
      · have hix1 := fun W => hix W hkl
        have hcz1 := hcz hkl
        have TC := Lib.hid (torn_at x HS.out (z k) (HZ.out.fits k hkl))
        clear hix hcz
        generalize hzk : z k = zk at *
        have HZK := Lib.hid hzk
        clear hzk
        go_wp2_with fail
        refine (TC.out _).mono ?_; rintro e w1 ⟨rfl, hk1⟩
        have HT1 := Lib.hid (HT.out.more (OF.out _) hk1)
        have c1 := (CELL.out w1 k x HX.out HT1.out).2.1
        clear hk1 TC
        cases hy : x.torn zk with
        | none =>
          have E : Hid (redo s.kept s.waits z (k + 1) = redo s.kept s.waits z k) := Lib.hid (by rw [RS.out]; unfold redo1; rw [hy])
          clear hy
          unfold oval
          go_wp2_with fail
          go_roundw
          case rel => exact ⟨k + 1, by omega, by go_num, by rw [E.out]; exact HT1.out⟩
          case measure => simp [intOf]; omega
        | some y =>
          have hys := torn_short HS.out hy
          have E : Hid (redo s.kept s.waits z (k + 1) = y.run (redo s.kept s.waits z k)) := Lib.hid (by rw [RS.out]; unfold redo1; rw [hy])
          have SC := Lib.hid (STEP.out w1 k y hys (by omega) (by have := (RG.out k).2.2; have := HL.out; omega) HT1.out)
          have hm := method_do y
          have ha := ahead_do y
          have hc := enter_do y
          clear hy hys
          rw [oval_some]
          generalize y.ty = ty at *
          generalize y.recv = rc at *
          generalize y.fn = fn at *
          go_wp2_with fail
          go_still_tail 8, (by kernel_rfl)
          go_wp2_with fail
          refine SC.out.mono ?_; rintro e w2 ⟨rfl, ht⟩
          have HT2 := Lib.hid ht
          clear ht SC
          go_wp2_with fail
          go_roundw
          case rel => exact ⟨k + 1, by omega, by go_num, by rw [E.out]; exact HT2.out⟩
          case measure => simp [intOf]; omega
      · have TC := Lib.hid (torn_at x HS.out 0 (by omega))
        clear hix hcz
        obtain ⟨zk, hzk⟩ : ∃ zk, zk = z k := ⟨_, rfl⟩
        have hz0 : zk = 0 := by rw [hzk]; exact HZ.out.past k (by omega)
        subst hz0
        have HZK := Lib.hid hzk.symm
        clear hzk
        go_wp2_with fail
        refine (TC.out _).mono ?_; rintro e w1 ⟨rfl, hk1⟩
        have E0 : Hid (x.torn 0 = none) := Lib.hid rfl
        have HT1 := Lib.hid (HT.out.more (OF.out _) hk1)
        clear hk1 TC
        have E : Hid (redo s.kept s.waits z (k + 1) = redo s.kept s.waits z k) := Lib.hid (by rw [RS.out, HZK.out]; unfold redo1; rw [E0.out])
        rw [E0.out]
        unfold oval
        go_wp2_with fail
        go_roundw
        case rel => exact ⟨k + 1, by omega, by go_num, by rw [E.out]; exact HT1.out⟩
        case measure => simp [intOf]; omega
    · have hkn : k = s.waits.length := by omega
      have HT1 : Hid (Turns w F wr (O (redo s.kept s.waits z s.waits.length))) := Lib.hid (by rw [← hkn]; exact HT.out)
      have KN : Hid (s.waits.length = k) := Lib.hid hkn.symm
      have RN := Lib.hid (RG.out s.waits.length)
      clear CELL STEP RG
      generalize hKK : redo s.kept s.waits z s.waits.length = KK at *
      have HKK := Lib.hid hKK
      obtain ⟨F1, h1, hk1, hF1⟩ := HT1.out
      rw [hO] at h1
      have c1 := h1.cell (i := 1) rfl
      have C := Lib.hid (clone_at mk KK wr (h1.part (i := 1) rfl))
      have OB := Lib.hid h1
      have K1 := Lib.hid (And.intro hk1 hF1)
      have hp := h1.plt
      clear h1 hk1 hF1 HT HT1 T0 hKK c3 hkn
      go_wp2_with fail
      refine C.out.mono ?_; rintro e w2 ⟨g, rfl, hg, ho, hk⟩
      have hkp := OB.out.kept hk (fun _ _ h => h)
      have d2 := hkp.cell (i := 2) rfl
      have d3 := hkp.cell (i := 3) rfl
      have d4 := hkp.cell (i := 4) rfl
      have d5 := hkp.cell (i := 5) rfl
      have f2 := hkp.frozen 2
      have f3 := hkp.frozen 3
      have f4 := hkp.frozen 4
      have f5 := hkp.frozen 5
      have P : Hid (Turns wr F1 ((((w2.setCell ⟨p, 2, none⟩ (.map (some g))).setCell ⟨p, 3, none⟩ (.slice none 0 0)).setCell ⟨p, 4, none⟩ (.bool false)).setCell ⟨p, 5, none⟩ (.int .i64 0)) (Dk p (s.restart z))) := Lib.hid (by
        refine (OB.out.turn (i := 2) (c' := mapPart g KK) (v' := .map (some g)) rfl (hk.mono (fun _ _ h => h.elim)) ho (.inr (.inr ⟨g, rfl, by omega⟩))).trans fun F2 h2 => ?_
        refine (h2.turn (i := 3) (c' := Part.row 76 1 (.slice none 0 0) 0 []) (v' := .slice none 0 0) (w1 := _) rfl (Keeps.refl _ _) (World.ownsRow_nil _ _ _ _) (.inl rfl)).trans fun F3 h3 => ?_
        refine (h3.turn (i := 4) (c' := Part.plain) (v' := .bool false) (w1 := _) rfl (Keeps.refl _ _) trivial (.inl rfl)).trans fun F4 h4 => ?_
        refine (h4.turn (i := 5) (c' := Part.plain) (v' := .int .i64 0) (w1 := _) rfl (Keeps.refl _ _) trivial (.inl rfl)).imp fun G h5 => ⟨mk, g, .slice none 0 0, ?_, ?_⟩
        · unfold St.restart; rw [HKK.out]; exact h5
        · unfold St.restart; rw [HKK.out]
          exact ⟨RN.out.1, RN.out.1, RN.out.2.1, RN.out.2.1, (fun y hy => by cases hy), GG.out.room, by simp⟩)
      clear C hk ho hkp hg
      go_wp2_with fail
      go_end0
      exact ⟨rfl, Turns.chain K1.out.1 K1.out.2 P.out⟩
end Go.Proofs.Ytnijencmoceiaaa
