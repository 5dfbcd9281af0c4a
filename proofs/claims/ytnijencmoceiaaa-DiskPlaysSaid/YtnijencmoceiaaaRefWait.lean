/-
  No statement is proved here: the document's 'New', 'Arm', 'stops', 'wait', as contracts.
-/
import Derived.Test.YtnijencmoceiaaaRefDk
import Derived.Deep.RegionLaw
import Derived.Deep.Cut
namespace Go.Proofs.Ytnijencmoceiaaa
set_option linter.unusedSimpArgs false
set_option linter.unusedVariables false
open Go.RowKit Go.Maps

set_option maxRecDepth 100000 in
set_option maxHeartbeats 400000 in
theorem rnew_at (n : Int) (hn : n ≤ 9223372036854775807) (w : World) :
    Calls Try.prog 12 #[.int .i64 n] w fun e w' => ∃ p, e = .returned (.pointer (some ⟨p, 0, none⟩)) ∧ ∃ F, RDk p ⟨n.toNat, [], [], [], false, 0⟩ w' F ∧ Keeps (fun _ => False) w w' ∧ ∀ b, F b → w.heap.size ≤ b := by
  obtain ⟨m, hm⟩ : ∃ m : Nat, n.toNat = m := ⟨_, rfl⟩
  have M := run_max1 n
  rw [hm] at M ⊢
  have hm8 : Hid (m ≤ 9223372036854775807) := Lib.hid (by omega)
  clear hn hm
  go_enter Try.func12, Try.ntmps12
  go_wp2
  go_ret
  have ob := Obj.made (w := w) (Cs := [Part.row 67 2 (.slice none 0 0) 0 [], Part.row 65 3 (.slice none 0 0) 0 [], Part.plain, Part.plain, Part.plain]) 46 [.slice none 0 0, .slice none 0 0, .int .i64 m, .bool false, .int .i64 0]
    (by
      intro x hx
      simp only [List.mem_cons, List.not_mem_nil, or_false] at hx
      rcases hx with rfl | rfl | rfl | rfl | rfl
      · exact World.ownsRow_nil _ _ _ _
      · exact World.ownsRow_nil _ _ _ _
      · trivial
      · trivial
      · trivial)
    (by
      intro i j ci cj hi hj hij b hb hb'
      match i, hi with
      | 0, hi => cases hi; cases hb
      | 1, hi => cases hi; cases hb
      | 2, hi => cases hi; cases hb
      | 3, hi => cases hi; cases hb
      | 4, hi => cases hi; cases hb
      | (i + 5), hi => simp at hi)
  refine ⟨w.heap.size, rfl, _, ⟨.slice none 0 0, .slice none 0 0, ob, ⟨List.Pairwise.nil, List.Pairwise.nil, (fun _ h => by cases h), (fun _ h => by cases h), (fun _ h => by cases h), hm8.out, by simp⟩, rfl⟩, (Keeps.refl _ w).alloc _, ?_⟩
  rintro b (rfl | ⟨x, hx, hb⟩)
  · exact Nat.le_refl _
  · simp only [List.mem_cons, List.not_mem_nil, or_false] at hx
    rcases hx with rfl | rfl | rfl | rfl | rfl <;> cases hb

set_option maxRecDepth 100000 in
set_option maxHeartbeats 400000 in
theorem rarm_any (p : Nat) (n : Int) (w : World) (hf : w.frozen? ⟨p, 4, none⟩ = false) (hc : ∃ v, w.cell? ⟨p, 4, none⟩ = some v) :
    Calls Try.prog 22 #[.pointer (some ⟨p, 0, none⟩), .int .i64 n] w fun e w' => e = .returned (.tuple #[]) ∧ w' = w.setCell ⟨p, 4, none⟩ (.int .i64 (n.toNat : Int)) := by
  obtain ⟨v, hc⟩ := hc
  have M := run_max1 n
  go_enter Try.func22, Try.ntmps22
  go_wp2
  go_end0
  exact ⟨rfl, by rw [Int.toNat_eq_max]⟩
theorem rarm_at {p : Nat} {s : St} {w : World} {F : Nat → Prop} (h : RDk p s w F) (n : Int) (hn : n ≤ 9223372036854775807) :
    Calls Try.prog 22 #[.pointer (some ⟨p, 0, none⟩), .int .i64 n] w fun e w' => e = .returned (.tuple #[]) ∧ Turns w F w' (RDk p { s with armed := n.toNat }) := by
  obtain ⟨kv, wv, h, g, hw⟩ := h
  refine (rarm_any p n w (h.frozen 4) ⟨_, h.cell (i := 4) rfl⟩).mono ?_
  rintro e w' ⟨rfl, rfl⟩
  refine ⟨rfl, ?_⟩
  have := h.turn (i := 4) (c' := Part.plain) (v' := .int .i64 (n.toNat : Int)) (w1 := w) rfl (Keeps.refl _ _) trivial (.inl rfl)
  exact this.imp fun G h => ⟨kv, wv, h, ⟨g.rk, g.rt, g.sk, g.st, g.sw, g.room, by show n.toNat ≤ _; omega⟩, hw⟩

def RStop (p k : Nat) (w w' : World) : Prop :=
  (k = 0 ∧ w' = w) ∨ (k = 1 ∧ w' = (w.setCell ⟨p, 4, none⟩ (.int .i64 0)).setCell ⟨p, 3, none⟩ (.bool true)) ∨ (1 < k ∧ w' = w.setCell ⟨p, 4, none⟩ (.int .i64 ((k : Int) - 1)))
set_option maxRecDepth 100000 in
set_option maxHeartbeats 400000 in
theorem rstops_any (p k : Nat) (hk : k ≤ 9223372036854775807) (w : World) (h4 : w.cell? ⟨p, 4, none⟩ = some (.int .i64 k)) (hf3 : w.frozen? ⟨p, 3, none⟩ = false) (hf4 : w.frozen? ⟨p, 4, none⟩ = false) (hc : w.cell? ⟨p, 3, none⟩ = some (.bool false)) :
    Calls Try.prog 42 #[.pointer (some ⟨p, 0, none⟩)] w fun e w' => e = .returned (.bool (k == 1)) ∧ RStop p k w w' := by
  rcases (show k = 0 ∨ k = 1 ∨ 1 < k by omega) with h | h | h
  · subst h
    go_enter Try.func42, Try.ntmps42
    go_wp2
    go_ret
    exact ⟨rfl, .inl ⟨rfl, rfl⟩⟩
  · subst h
    go_enter Try.func42, Try.ntmps42
    go_wp2
    go_ret
    exact ⟨rfl, .inr (.inl ⟨rfl, rfl⟩)⟩
  · have hb : ((k : Int) - 1 == 0) = false := by simp; omega
    have E : Hid ((k == 1) = false) := Lib.hid (by simp; omega)
    have HK := Lib.hid h
    have h0 : 0 < k := by omega
    clear h
    go_enter Try.func42, Try.ntmps42
    go_wp2
    go_ret
    rw [E.out]
    exact ⟨rfl, .inr (.inr ⟨HK.out, rfl⟩)⟩
theorem rstops_at {p : Nat} {s : St} {w : World} {F : Nat → Prop} (h : RDk p s w F) (hd : s.down = false) :
    Calls Try.prog 42 #[.pointer (some ⟨p, 0, none⟩)] w fun e w' => e = .returned (.bool (s.armed == 1)) ∧ Turns w F w' (RDk p s.stop) := by
  obtain ⟨kv, wv, h, g, hw⟩ := h
  have c3 := h.cell (i := 3) rfl
  rw [hd] at c3
  refine (rstops_any p _ g.armed w (h.cell (i := 4) rfl) (h.frozen 3) (h.frozen 4) c3).mono ?_
  rintro e w' ⟨rfl, hs⟩
  refine ⟨rfl, ?_⟩
  have gs : Good s.stop := ⟨g.rk, g.rt, g.sk, g.st, g.sw, g.room, Nat.le_trans (Nat.sub_le _ _) g.armed⟩
  rcases hs with ⟨hk, rfl⟩ | ⟨hk, rfl⟩ | ⟨hk, rfl⟩
  · have e : s.stop = s := by
      unfold St.stop
      obtain ⟨r, k, t, ws, d, a⟩ := s
      simp only at hk hd
      subst hk hd; rfl
    rw [e]
    exact Turns.refl ⟨kv, wv, h, g, hw⟩
  · have t1 := h.turn (i := 4) (c' := Part.plain) (v' := .int .i64 0) (w1 := w) rfl (Keeps.refl _ _) trivial (.inl rfl)
    refine t1.trans fun F1 h1 => ?_
    have t2 := h1.turn (i := 3) (c' := Part.plain) (v' := .bool true) (w1 := _) rfl (Keeps.refl _ _) trivial (.inl rfl)
    refine t2.imp fun G h => ⟨kv, wv, ?_, gs, hw⟩
    have e1 : s.stop.down = true := by show (s.armed == 1) = true; rw [hk]; rfl
    have e2 : s.stop.armed = 0 := by show s.armed - 1 = 0; rw [hk]
    rw [e1, e2]; exact h
  · have t1 := h.turn (i := 4) (c' := Part.plain) (v' := .int .i64 ((s.armed : Int) - 1)) (w1 := w) rfl (Keeps.refl _ _) trivial (.inl rfl)
    refine t1.imp fun G h => ⟨kv, wv, ?_, gs, hw⟩
    have e1 : s.stop.down = s.down := by show (s.armed == 1) = _; rw [hd]; simp; omega
    have e2 : ((s.stop.armed : Nat) : Int) = (s.armed : Int) - 1 := by show ((s.armed - 1 : Nat) : Int) = _; omega
    rw [e1, e2]; exact h

/-- append onto a row of the call's own, as one step of a region that draws. -/
theorem step_append_own {P : Program} {ops : Array Oper} {o : Oper} {a : Act} {w : World} {K : Act → World → Prop} {Q : Exit → Act → World → Prop} {E : Prop} (hgd : o.guard = none) (s x : Operand) (t : TypeId)
    (ho : o.op = .call { callee := .builtin .append, args := #[s, x], argTypes := #[t, t] })
    (e : TypeId) (i : TypeInfo) (z : Value) (size bytes : Nat) (ht : P.underlying t = some (.slice e)) (hi : P.info? e = some i) (hz : i.zero = some z)
    (hsize : i.size = size) (hby : i.bytes = bytes) (hzs : z.cells.size = size) (hsz : 0 < size)
    (v : Value) (n : Nat) (xs : List Value) (hs : a.eval s = v) (hown : w.ownsRow 0 e size v n xs)
    (ad : Addr) (m c : Nat) (news : List Value) (hx : a.eval x = .slice (some ad) m c) (hl : news.length = m * size) (hnews : ∀ j u, news[j]? = some u → w.cell? (ad.add j) = some u) (h1 : ∀ u ∈ news, u.oneCell' = true)
    (h63 : n + m ≤ maxLen) (hbytes : (n + m) * bytes ≤ 140737488355328)
    (h : ∀ v' w', w'.ownsRow 0 e size v' (n + m) (xs ++ news) → w.grownBy w' v.ownBlock → (v'.ownBlock = v.ownBlock ∨ v'.ownBlock = some w.heap.size) → K (a.put o.dst v') w') :
    if Region.wanted o (yielded ops a.tmps) = true then Oper.wp P o a w K Q else E := by
  have hw : Region.wanted o (yielded ops a.tmps) = true := by simp [Region.wanted, hgd]
  rw [if_pos hw]
  obtain ⟨v', w', hr, h2, h3, h4, h5⟩ := run_append_own_at (P := P) w 0 t o.type e i z size bytes ht hi hz hsize hby hzs hsz v n xs hown ad m c news hl hnews h1 h63 hbytes (Nat.zero_le _)
  unfold Oper.wp execOp
  simp only [ho, resolve, invoke, builtin, Sem.run_bind, Sem.run_pure, Result.andThen_ok, List.map_toArray, List.map_cons, List.map_nil, hs, hx, hr]
  exact h v' w' h2 h3 h5
theorem Try.info65 : (Try.prog.info? 65).map (fun i => (i.zero, i.size, i.bytes)) = some (some (.agg #[.int .i64 0, .string ByteArray.empty, .string ByteArray.empty]), 3, 40) := by kernel_rfl

set_option maxRecDepth 100000 in
set_option maxHeartbeats 2000000 in
theorem rwait_at {p : Nat} {s : St} {w : World} {F : Nat → Prop} (h : RDk p s w F) (hd : s.down = false) (x : Deed) (hx : x.short) (hl : s.waits.length < 65536) {z : Int} {xa xb : ByteArray} (hdc : dc x = [.int .i64 z, .string xa, .string xb]) :
    Calls Try.prog 37 #[.pointer (some ⟨p, 0, none⟩), .agg #[.int .i64 z, .string xa, .string xb]] w fun e w' => e = .returned (.int .i64 s.err) ∧ Turns w F w' (RDk p (s.wait x)) := by
  obtain ⟨kv, wv, h, g, hw⟩ := h
  obtain ⟨a, c, hpv, -⟩ := row_shape (h.part (i := 1) rfl)
  subst hpv
  have hrow : w.ownsRow 0 65 3 (.slice a s.waits.length c) s.waits.length (s.waits.flatMap dc) := h.part (i := 1) rfl
  have hrow' := ((hrow.alloc (.cells #[.int .i64 z, .string xa, .string xb] 65)).alloc (.cells #[.int .i64 z, .string xa, .string xb] 65)).drew
  have hnews : ∀ (j : Nat) (u : Value), [Value.int .i64 z, .string xa, .string xb][j]? = some u → ((w.alloc (.cells #[.int .i64 z, .string xa, .string xb] 65)).alloc (.cells #[.int .i64 z, .string xa, .string xb] 65)).drew.cell? ((⟨w.heap.size + 1, 0, none⟩ : Addr).add j) = some u := fun j u hu => by
    have := cells_new (w.alloc (.cells #[.int .i64 z, .string xa, .string xb] 65)) [.int .i64 z, .string xa, .string xb] 65 j u hu
    rw [show (w.alloc (.cells #[.int .i64 z, .string xa, .string xb] 65)).heap.size = w.heap.size + 1 by simp] at this
    rw [Addr.add_lit, Nat.zero_add]; exact this
  have h1 : ∀ u ∈ [Value.int .i64 z, .string xa, .string xb], u.oneCell' = true := by intro u hu; simp at hu; rcases hu with rfl | rfl | rfl <;> rfl
  have KP : Hid (∀ w1 v', w1.ownsRow 0 65 3 v' (s.waits.length + 1) (s.waits.flatMap dc ++ [.int .i64 z, .string xa, .string xb]) → ((w.alloc (.cells #[.int .i64 z, .string xa, .string xb] 65)).alloc (.cells #[.int .i64 z, .string xa, .string xb] 65)).drew.grownBy w1 (Value.slice a s.waits.length c).ownBlock →
      (v'.ownBlock = (Value.slice a s.waits.length c).ownBlock ∨ v'.ownBlock = some ((w.alloc (.cells #[.int .i64 z, .string xa, .string xb] 65)).alloc (.cells #[.int .i64 z, .string xa, .string xb] 65)).drew.heap.size) →
      (∃ a' c', v' = .slice a' (s.waits.length + 1) c') ∧ w1.cell? ⟨p, 1, none⟩ = some (.slice a s.waits.length c) ∧ w1.frozen? ⟨p, 1, none⟩ = false ∧ Turns w F (w1.setCell ⟨p, 1, none⟩ v') (RDk p (s.did x))) := Lib.hid (fun w1 v' hr hg hl => by
    have k1 : Keeps (fun b => (Value.slice a s.waits.length c).ownBlock = some b) w w1 := (((Keeps.refl _ w).alloc _).alloc _).drew.trans (Keeps.grown (F := fun b => (Value.slice a s.waits.length c).ownBlock = some b) hg (fun k hk _ => hk)) (fun _ _ h => h)
    obtain ⟨a', c', e, -⟩ := row_shape hr
    refine ⟨⟨a', c', e⟩, h.cell1 (i := 1) rfl k1 rfl, h.frozen1 (i := 1) rfl k1 1, ?_⟩
    have t := h.turn (i := 1) (c' := Part.row 65 3 v' (s.waits.length + 1) (s.waits.flatMap dc ++ [Value.int .i64 z, Value.string xa, Value.string xb])) (v' := v') rfl k1 hr (by
      rcases hl with e | e
      · exact .inr (.inl e)
      · exact .inr (.inr ⟨_, e, by simp [World.drew]; omega⟩))
    refine t.imp fun G ho => ⟨kv, v', ?_, g.did hx, ?_⟩
    · have e1 : (s.did x).waits.length = s.waits.length + 1 := by simp [St.did]
      have e2 : (s.did x).waits.flatMap dc = s.waits.flatMap dc ++ [.int .i64 z, .string xa, .string xb] := by simp [St.did, List.flatMap_append, hdc]
      rw [e1, e2]; exact ho
    · have := Whole.wait hw x
      exact this)
  have hp := h.plt
  have c1 := h.cell (i := 1) rfl
  have hm : s.waits.length + 1 ≤ maxLen := by unfold maxLen; omega
  have hm' : (s.waits.length + 1) * 40 ≤ 140737488355328 := by omega
  have E1 : Hid (s.err = if s.armed == 1 then 14 else 0) := Lib.hid (by unfold St.err; simp)
  have E2 : Hid (s.wait x = (s.did x).stop) := Lib.hid rfl
  have E3 : Hid (∀ w2 F2, RDk p (s.did x) w2 F2 → Calls Try.prog 42 #[.pointer (some ⟨p, 0, none⟩)] w2 fun e w' => e = .returned (.bool (s.armed == 1)) ∧ Turns w2 F2 w' (RDk p (s.did x).stop)) := Lib.hid (fun w2 F2 h => rstops_at h hd)
  clear h g hw hd hx hdc hl
  obtain ⟨i0, hi, hz0, hz1, hz2⟩ := info_parts Try.info65
  generalize s.did x = s1 at *
  generalize (s.armed == 1) = t at *
  generalize s.waits.length = n at *
  generalize s.waits.flatMap dc = xs at *
  go_enter Try.func37, Try.ntmps37
  go_upto_region 2 with fail
  go_region_law (refine step_append_own rfl (.tmp 9) (.tmp 11) 44 rfl 65 i0 _ 3 40 Try.underlying44 hi hz0 hz1 hz2 rfl (by decide) _ n xs rfl hrow' ⟨w.heap.size + 1, 0, none⟩ 1 1 [.int .i64 z, .string xa, .string xb] rfl rfl hnews h1 hm hm' ?_; intro v' w1 hrow1 hgrow hloc; obtain ⟨⟨a', c', hv'⟩, x2, xf, hT⟩ := KP.out w1 v' hrow1 hgrow hloc; subst hv'; have HT := Lib.hid hT; clear hT hrow1 hgrow hloc)
  all_goals
    clear x2 xf hp c1 hrow' hnews hrow KP hm hm'
    obtain ⟨W2, hW2⟩ : ∃ W2, W2 = w1.setCell ⟨p, 1, none⟩ (.slice a' (n + 1) c') := ⟨_, rfl⟩
    rw [← hW2] at HT ⊢
    clear hW2
    obtain ⟨F2, h2, hk2, hf2⟩ := HT.out
    have S := Lib.hid (E3.out _ _ h2)
    have K2 := Lib.hid (And.intro hk2 hf2)
    clear h2 hk2 hf2
    go_wp2_with fail
    refine S.out.mono ?_; rintro e w3 ⟨rfl, ht⟩
    have HT2 := Lib.hid (Turns.chain K2.out.1 K2.out.2 ht)
    clear ht
    cases t
    all_goals
      go_wp2_with fail
      go_ret
      exact ⟨ret_int E1.out.symm, by rw [E2.out]; exact HT2.out⟩
end Go.Proofs.Ytnijencmoceiaaa
