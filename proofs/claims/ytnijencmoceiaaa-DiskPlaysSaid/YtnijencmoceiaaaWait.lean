/-
  No statement is proved here: what 'wait' of a disk does: the deed is done, and pending.
-/
import Derived.Test.YtnijencmoceiaaaDo
import Derived.StillTailTactics
import Derived.Deep.Cut
namespace Go.Proofs.Ytnijencmoceiaaa
open Go.RowKit Go.Maps

def Deed.fn : Deed → FuncId
  | .wr _ _ => 89
  | .rn _ _ => 90
  | .rm _ => 91

theorem do_at (x : Deed) (hx : x.short) (m : Nat) (K : Files) (w : World) (h : Owns w m K) (hK : K.length < maxLen) (hS : Short K) :
    Calls Try.prog x.fn #[x.recv, .map (some m)] w fun e w' => e = .returned (.tuple #[]) ∧ Owns w' m (x.run K) ∧ Keeps (fun b => b = m) w w' := by
  cases x with
  | wr a d => exact do_wr ⟨a.toArray⟩ ⟨d.toArray⟩ m K w h (long_ok hx.1) (long_ok hx.2) hK
  | rn a b => exact do_rn ⟨a.toArray⟩ ⟨b.toArray⟩ m K w h (long_ok hx.1) (long_ok hx.2) hK hS
  | rm a => exact do_rm ⟨a.toArray⟩ m K w h (long_ok hx)

theorem method_do (x : Deed) (w : World) : (method 229 x.ty x.recv "carpetbag/disk.do").run Try.prog w = .ok (x.fn, x.recv) w := by
  cases x <;> kernel_rfl
theorem ahead_do (x : Deed) (w : World) : (nilAhead 229 x.ty x.recv "carpetbag/disk.do").run Try.prog w = .ok (some false) w := by
  cases x <;> kernel_rfl
theorem enter_do (x : Deed) (args : Array Value) (w : World) : (callFunc x.fn args).run Try.prog w = .ok (.enter x.fn args) w := by
  cases x <;> kernel_rfl

theorem short_run {K : Files} (h : Short K) {x : Deed} (hx : x.short) : Short (x.run K) := by
  intro q hq
  cases x with
  | wr a d =>
    rcases mem_putF.1 hq with rfl | ⟨hq, _⟩
    · exact hx
    · exact h q hq
  | rn a b =>
    unfold Deed.run at hq
    simp only at hq
    split at hq
    · rename_i d hd
      rcases mem_putF.1 hq with rfl | ⟨hq, _⟩
      · exact ⟨hx.2, (h _ (look_mem hd)).2⟩
      · exact h q (mem_dropF.1 hq).1
    · exact h q hq
  | rm a => exact h q (mem_dropF.1 hq).1

/-- A deed is done, and pending. -/
def St.did (s : St) (x : Deed) : St := { s with there := x.run s.there, waits := s.waits ++ [x] }
def St.wait (s : St) (x : Deed) : St := (s.did x).stop
def St.err (s : St) : Int := if s.armed = 1 then 14 else 0
theorem Good.did {s : St} (g : Good s) {x : Deed} (hx : x.short) : Good (s.did x) :=
  ⟨g.rk, rising_run g.rt x, g.sk, short_run g.st hx, (fun y hy => by rcases List.mem_append.1 hy with hy | hy; exact g.sw y hy; simp at hy; subst hy; exact hx), g.room, g.armed⟩
theorem val_one (x : Deed) : ∀ u ∈ [x.val], u.oneCell' = true := by intro u hu; simp at hu; subst hu; rfl

set_option maxRecDepth 100000 in
set_option maxHeartbeats 1000000 in
theorem wait_at {p : Nat} {s : St} {w : World} {F : Nat → Prop} (h : Dk p s w F) (x : Deed) (hx : x.short) (hl : s.waits.length < 65536) (hK : s.there.length < 65536) :
    Calls Try.prog 34 #[.pointer (some ⟨p, 0, none⟩), x.val] w fun e w' => e = .returned (.int .i64 s.err) ∧ Turns w F w' (Dk p (s.wait x)) := by
  obtain ⟨mk, mt, pv, h, g⟩ := h
  have D := Lib.hid (do_at x hx mt s.there w.drew (h.part (i := 2) rfl) (by unfold maxLen; omega) g.st)
  have h2 := h.cell (i := 2) rfl
  obtain ⟨a, c, hpv, -⟩ := row_shape (h.part (i := 3) rfl)
  subst hpv
  have K1 : Hid (∀ w1, Owns w1 mt (x.run s.there) → Keeps (fun b => b = mt) w.drew w1 → w1.cell? ⟨p, 3, none⟩ = some (.slice a s.waits.length c) ∧
      (w1.alloc (.cells #[x.val] 76)).ownsRow 0 76 1 (.slice a s.waits.length c) s.waits.length (s.waits.map Deed.val) ∧
      ∀ w3 v', w3.ownsRow 0 76 1 v' (s.waits.length + 1) (s.waits.map Deed.val ++ [x.val]) → (w1.alloc (.cells #[x.val] 76)).grownBy w3 (Value.slice a s.waits.length c).ownBlock →
        (v'.ownBlock = (Value.slice a s.waits.length c).ownBlock ∨ v'.ownBlock = some (w1.alloc (.cells #[x.val] 76)).heap.size) →
        (∃ a' c', v' = .slice a' (s.waits.length + 1) c') ∧ w3.cell? ⟨p, 3, none⟩ = some (.slice a s.waits.length c) ∧ w3.frozen? ⟨p, 3, none⟩ = false ∧ Turns w F (w3.setCell ⟨p, 3, none⟩ v') (Dk p (s.did x))) := Lib.hid (fun w1 ho hk => by
    obtain ⟨F1, h1, hk1, hF1⟩ := h.turn0 (i := 2) (c' := mapPart mt (x.run s.there)) rfl ((Keeps.refl _ w).drew.trans hk (fun _ _ e => by rw [e]; rfl)) ho rfl
    refine ⟨h1.cell (i := 3) rfl, World.ownsRow.alloc (h1.part (i := 3) rfl) _, fun w3 v' hr hg hl => ?_⟩
    obtain ⟨e, x3, xf, hT⟩ := h1.appends (i := 3) rfl ((Keeps.refl _ _).alloc _) 1 [x.val] w3 v' hr hg hl
    refine ⟨e, x3 3 _ rfl, xf 3, Turns.chain hk1 hF1 (hT.imp fun G ho => ⟨mk, mt, v', ?_, g.did hx⟩)⟩
    have e1 : (s.did x).waits.length = s.waits.length + 1 := by simp [St.did]
    have e2 : (s.did x).waits.map Deed.val = s.waits.map Deed.val ++ [x.val] := by simp [St.did]
    rw [e1, e2]
    exact ho)
  obtain ⟨i0, hi, hz0, hz1, hz2⟩ := info_parts Try.info76
  have hm := method_do x
  have ha := ahead_do x
  have hc := enter_do x
  have V1 := val_one x
  have hlen : s.waits.length + 1 ≤ maxLen := by unfold maxLen; omega
  have hlen' : (s.waits.length + 1) * 16 ≤ 140737488355328 := by omega
  have E1 : Hid (s.err = if s.armed == 1 then 14 else 0) := Lib.hid (by unfold St.err; simp)
  have E2 : Hid (s.wait x = (s.did x).stop) := Lib.hid rfl
  have E3 : Hid (∀ w2 F2, Dk p (s.did x) w2 F2 → Calls Try.prog 40 #[.pointer (some ⟨p, 0, none⟩)] w2 fun e w' => e = .returned (.bool (s.armed == 1)) ∧ Turns w2 F2 w' (Dk p (s.did x).stop)) := Lib.hid (fun w2 F2 h => stops_at h)
  clear h g hl hK
  unfold Deed.val at *
  generalize s.did x = s1 at *
  generalize x.ty = ty at *
  generalize x.recv = rc at *
  generalize x.fn = fn at *
  generalize (s.armed == 1) = t at *
  generalize s.waits.length = n at *
  generalize s.waits.map (fun x => Value.iface x.ty x.recv) = xs at *
  go_enter Try.func34, Try.ntmps34
  go_wp2_with fail
  go_still_tail 8, (by kernel_rfl)
  go_wp2_with fail
  refine D.out.mono ?_; rintro e w1 ⟨rfl, ho, hk⟩
  obtain ⟨c3, hrow, hA⟩ := K1.out w1 ho hk
  have HA := Lib.hid hA
  clear hA ho hk K1 D
  go_wp2_with (first
    | (at_builtin; refine wpList_append_own_at _ rfl (.tmp 18) (.tmp 20) 56 rfl 0 76 i0 .nilIface 1 16 Try.underlying56 hi hz0 hz1 hz2 rfl (by decide) _ _ _ rfl hrow ⟨w1.heap.size, 0, none⟩ 1 1 [.iface ty rc] rfl rfl (cell_one_new _ _ _) V1 hlen hlen' (Nat.zero_le _) ?_; intro v' w3 hrow3 hgrow3 _ hloc3; obtain ⟨⟨a', c', hv'⟩, x3, xf, hT⟩ := HA.out w3 v' hrow3 hgrow3 hloc3; subst hv'; have HT := Lib.hid hT; clear hT hrow3 hgrow3 hloc3 hrow))
  obtain ⟨F2, h2', hk2, hF2⟩ := HT.out
  refine (E3.out _ _ h2').mono ?_; rintro e w4 ⟨rfl, ht⟩
  have HT2 := Lib.hid (Turns.chain hk2 hF2 ht)
  clear ht h2' hk2 hF2 HT E3 HA
  cases t
  all_goals
    go_wp2_with fail
    go_ret
    exact ⟨ret_int E1.out.symm, by rw [E2.out]; exact HT2.out⟩
end Go.Proofs.Ytnijencmoceiaaa
