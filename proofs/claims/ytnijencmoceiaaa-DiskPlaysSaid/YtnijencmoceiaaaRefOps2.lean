/-
  No statement is proved here: the document's 'Names', 'Write', 'Sync', as contracts.
-/
import Derived.Test.YtnijencmoceiaaaRefOps
namespace Go.Proofs.Ytnijencmoceiaaa
set_option linter.unusedSimpArgs false
set_option linter.unusedVariables false
open Go.RowKit Go.Maps

/-- A row of strings of the call's own. -/
abbrev SOf (v : Value) (l : List Str) : Says := RowOf 9 1 v l.length (l.map str)
/-- append of one string to a row of strings that the call itself makes. -/
theorem wpList_sapp {ops : Array Oper} {rest : List Oper} {o : Oper} {a : Act} {Q : Exit → Act → World → Prop} (hgd : o.guard = none) (s x : Operand)
    (ho : o.op = .call { callee := .builtin .append, args := #[s, x], argTypes := #[41, 41] }) {B : Nat} {w0 wr : World} {O : List Str} {oa : Option Addr} {on oc : Nat} (hs : a.eval s = .slice oa on oc) (hx : a.eval x = .slice (some ⟨wr.heap.size, 0, none⟩) 1 1)
    (hQ : OwnL B w0 wr [SOf (.slice oa on oc) O]) (hn : O.length = on) (hb : on ≤ 131072) (xn : ByteArray) (p : Str) (hp : p = xn.data.toList)
    (h : ∀ oa' oc' w3, OwnL B w0 w3 [SOf (.slice oa' (on + 1) oc') (O ++ [p])] → wpList Try.prog ops Q rest (a.put o.dst (.slice oa' (on + 1) oc')) w3) :
    wpList Try.prog ops Q (o :: rest) a (wr.alloc (.cells #[.string xn] 9)) := by
  subst hn hp
  obtain ⟨i0, hi, hz0, hz1, hz2⟩ := info_parts Try.info9
  obtain ⟨F, hrow, hF⟩ := hQ.it (i := 0) rfl
  refine wpList_append_own_at _ hgd s x 41 ho 0 9 i0 _ 1 16 Try.underlying41 hi hz0 hz1 hz2 rfl (by decide) _ O.length (O.map str) hs (World.ownsRow.alloc hrow _) ⟨wr.heap.size, 0, none⟩ 1 1 [.string xn] hx rfl (cell_one_new _ _ _) (by intro u hu; simp at hu; subst hu; rfl) (by unfold maxLen; omega) (by omega) (Nat.zero_le _) ?_
  intro v' w3 hr hg _ hl
  obtain ⟨oa', oc', rfl, -⟩ := row_shape hr
  refine h oa' oc' w3 ?_
  have e : (O ++ [xn.data.toList]).map str = O.map str ++ [.string xn] := by simp [← str_of]
  have := hQ.turns (i := 0) rfl (RowOf.framed 9 1 (.slice oa' (O.length + 1) oc') (O.length + 1) (O.map str ++ [.string xn])) (fun F hF _ => RowOf.appends hF _ hr hg hl)
  rw [← e] at this
  have e2 : (O ++ [xn.data.toList]).length = O.length + 1 := by simp
  show OwnL B w0 w3 [RowOf 9 1 (.slice oa' (O.length + 1) oc') (O ++ [xn.data.toList]).length _]
  rw [e2]; exact this
theorem sown_nil (w : World) : OwnL w.heap.size w w [SOf (.slice none 0 0) []] := by
  have := (OwnL.start (Below.refl w.heap.size w) (Nat.le_refl _)).add (Keeps.refl _ _) (O' := SOf (.slice none 0 0) []) (F' := fun _ => False) ⟨World.ownsRow_nil _ _ _ _, fun b => ⟨fun h => h.elim, fun h => by cases h⟩⟩ (RowOf.framed _ _ _ _ _) (fun _ h => h.elim)
  exact this
theorem sfresh_of {B : Nat} {w w' : World} {v : Value} {l : List Str} (h : OwnL B w w' [SOf v l]) (hB : B = w.heap.size) : Fresh w w' 9 1 l.length (l.map str) v := by
  subst hB
  obtain ⟨F, hrow, hfoot⟩ := h.it (i := 0) rfl
  refine ⟨hrow, Keeps.of_below0 h.below, fun b hb => ?_⟩
  obtain ⟨Fs, h1, h2, h3⟩ := h.its
  exact h2 0 b (by simp) (((h1 0 _ rfl).2 b).2 hb)

def RNEnd (l : List Str) (w : World) (e : Ending) (w' : World) : Prop := ∃ v, e = .returned v ∧ Fresh w w' 9 1 l.length (l.map str) v
set_option maxRecDepth 100000 in
set_option maxHeartbeats 2000000 in
theorem rnames_at {p : Nat} {s : St} {w : World} (h : ∃ F, RDk p s w F) (hf : Fits s 65535) :
    Calls Try.prog 29 #[.pointer (some ⟨p, 0, none⟩)] w (RNEnd s.names w) := by
  obtain ⟨F, kv, h⟩ := h
  have T := Lib.hid (there_at h hf)
  have CELLS : Hid (∀ w', Keeps (fun _ => False) w w' → w'.cell? ⟨p, 3, none⟩ = some (.bool s.down)) := Lib.hid (fun w' hk => (rdk_cells h hk).2)
  unfold St.names
  obtain ⟨dn, hdn⟩ : ∃ dn, dn = s.down := ⟨_, rfl⟩
  rw [← hdn] at CELLS ⊢
  obtain ⟨K, hK⟩ : ∃ K, K = s.there := ⟨_, rfl⟩
  have hK5 : K.length ≤ 65535 := by rw [hK]; exact hf.there
  rw [← hK] at T ⊢
  have L5 := Lib.hid hK5
  clear h hf hdn hK
  go_enter Try.func29, Try.ntmps29
  go_wp2_with fail
  refine T.out.mono ?_; rintro e w1 ⟨v, rfl, hr⟩
  obtain ⟨va, vc, hv⟩ := frow_shape hr.1
  subst hv
  have HR := Lib.hid hr
  have m3 := CELLS.out w1 hr.2.1
  clear hr T
  obtain ⟨n, hn⟩ : ∃ n, K.length = n := ⟨_, rfl⟩
  rw [hn] at HR hK5
  have KN := Lib.hid hn
  rw [hn]
  clear hn
  cases dn with
  | true =>
    have S0 : Hid (OwnL w1.heap.size w1 w1 [SOf (.slice none 0 0) []]) := Lib.hid (sown_nil w1)
    go_wp2_with fail
    go_loopw [4, 5] (fun out i wr => out = .slice none 0 0 ∧ i = .int .i64 0 ∧ wr = w1) (fun _ _ _ => 0)
    case atStart => exact ⟨rfl, rfl, rfl⟩
    case round =>
      obtain ⟨rfl, rfl, rfl⟩ := hrel
      by_cases h0 : n = 0
      · subst h0
        go_wp2_with fail
        go_ret
        exact ⟨_, rfl, World.ownsRow_nil _ _ _ _, HR.out.2.1, fun b hb => by cases hb⟩
      · have h0' : 0 < n := by omega
        clear h0
        go_wp2_with fail
        go_ret
        exact ⟨_, rfl, World.ownsRow_nil _ _ _ _, HR.out.2.1, fun b hb => by cases hb⟩
  | false =>
    have S0 : Hid (OwnL w1.heap.size w1 w1 [SOf (.slice none 0 0) ((K.take 0).map (·.1))]) := Lib.hid (sown_nil w1)
    go_wp2_with fail
    go_loopw [4, 5] (fun out i wr => ∃ k : Nat, k ≤ n ∧ i = .int .i64 k ∧ ∃ (oa : Option Addr) (oc : Nat), out = .slice oa k oc ∧ OwnL w1.heap.size w1 wr [SOf (.slice oa k oc) ((K.take k).map (·.1))]) (fun _ i _ => n - (intOf i).toNat)
    case atStart => exact ⟨0, Nat.zero_le _, rfl, none, 0, rfl, S0.out⟩
    case round =>
      obtain ⟨k, hk, rfl, oa, oc, rfl, ho⟩ := hrel
      have Q := Lib.hid ho
      have hkp : Keeps (fun _ => False) w1 wr := Keeps.of_below0 ho.below
      have m3' := CELLS.out wr (HR.out.2.1.trans hkp (fun _ _ h => h))
      have KPN := Lib.hid hkp
      clear ho S0 hkp m3
      by_cases hlt : k < n
      · obtain ⟨q, hq⟩ : ∃ q, K[k]? = some q := ⟨_, List.getElem?_eq_getElem (by rw [KN.out]; exact hlt)⟩
        obtain ⟨g, c, hv, hc0, -⟩ := frow_at (row_keeps HR.out.1 KPN.out (fun _ _ h => h)) hq
        rw [KN.out] at hv
        obtain ⟨rfl, -, rfl⟩ := by simpa only [Value.slice.injEq] using hv
        obtain ⟨xn, hxn⟩ : ∃ x : ByteArray, x.data.toList = q.1 := ⟨⟨q.1.toArray⟩, rfl⟩
        rw [← hxn, ← str_of] at hc0
        have E : Hid ((K.take (k + 1)).map (·.1) = (K.take k).map (·.1) ++ [q.1]) := Lib.hid (by rw [List.take_add_one, hq]; simp)
        have HX := Lib.hid hxn.symm
        have HN : Hid (((K.take k).map (·.1)).length = k) := Lib.hid (by simp; rw [KN.out]; omega)
        clear hv hq hxn
        go_wp2_with (at_builtin; refine wpList_sapp rfl (.tmp 21) (.tmp 27) rfl rfl rfl Q.out HN.out (by omega) xn q.1 HX.out ?_; intro oa' oc' w3 ho3; have Q3 := Lib.hid ho3; clear ho3)
        go_roundw
        case rel => exact ⟨k + 1, by omega, by go_num, oa', oc', rfl, by rw [E.out]; exact Q3.out⟩
        case measure => simp [intOf]; omega
      · obtain rfl : k = n := by omega
        have E : Hid (K.take k = K) := Lib.hid (List.take_of_length_le (by rw [KN.out]; omega))
        go_wp2_with fail
        go_ret
        have := Q.out
        rw [E.out] at this
        have hfr := sfresh_of this rfl
        exact ⟨_, rfl, hfr.1, HR.out.2.1.trans hfr.2.1 (fun _ _ h => h), fun b hb => Nat.le_trans HR.out.2.1.size (hfr.2.2 b hb)⟩

set_option maxRecDepth 100000 in
set_option maxHeartbeats 2000000 in
theorem rwrite_at {p : Nat} {s : St} {w : World} {F : Nat → Prop} (h : RDk p s w F) (hf : Fits s 65535) (a d : ByteArray) (ha : a.size ≤ 65535) (hd : d.size ≤ 65535) :
    Calls Try.prog 14 #[.pointer (some ⟨p, 0, none⟩), .string a, .string d] w fun e w' => e = .returned (.int .i64 (s.writeErr a.data.toList d.data.toList)) ∧ Turns w F w' (RDk p (s.write a.data.toList d.data.toList)) := by
  have H := Lib.hid h
  obtain ⟨kv, hv0⟩ := h
  have T := Lib.hid (there_at hv0 hf)
  have m3 := (rdk_cells hv0 (Keeps.refl _ w)).2
  have CELLS : Hid (∀ w', Keeps (fun _ => False) w w' → w'.cell? ⟨p, 2, none⟩ = some (.int .i64 s.room)) := Lib.hid (fun w' hk => (rdk_cells hv0 hk).1)
  have FT := Lib.hid hf
  have GG : Hid (Good s) := Lib.hid (by obtain ⟨_, _, g, _⟩ := hv0; exact g)
  have LL : Hid ((Deed.wr a.data.toList d.data.toList).short) := Lib.hid ⟨by simpa using ha, by simpa using hd⟩
  obtain ⟨dn, hdn⟩ : ∃ dn, s.down = dn := ⟨_, rfl⟩
  rw [hdn] at m3
  have DN := Lib.hid hdn
  clear hv0 hf ha hd hdn
  cases dn with
  | true =>
    have E : Hid (s.writeErr a.data.toList d.data.toList = 14 ∧ s.write a.data.toList d.data.toList = s) := Lib.hid (by unfold St.writeErr St.write; rw [DN.out]; exact ⟨rfl, rfl⟩)
    go_enter Try.func14, Try.ntmps14
    go_wp2_with fail
    go_ret
    exact ⟨ret_int E.out.1.symm, by rw [E.out.2]; exact Turns.refl H.out⟩
  | false =>
    have hdc : dc (.wr a.data.toList d.data.toList) = [.int .i64 0, .string a, .string d] := by simp [dc, ← str_of]
    have HD := Lib.hid hdc
    have E : Hid (s.writeErr a.data.toList d.data.toList = (if s.full a.data.toList d.data.toList then 2 else s.err) ∧ s.write a.data.toList d.data.toList = if s.full a.data.toList d.data.toList then s else s.wait (.wr a.data.toList d.data.toList)) := Lib.hid (by unfold St.writeErr St.write; rw [DN.out]; exact ⟨rfl, rfl⟩)
    obtain ⟨K, hK⟩ : ∃ K, K = putF s.there a.data.toList d.data.toList := ⟨_, rfl⟩
    have FU : Hid (s.full a.data.toList d.data.toList = decide (s.room < total K)) := Lib.hid (by rw [hK]; rfl)
    have TT : Hid (total K ≤ 4295032830 ∧ K.length ≤ 65536) := Lib.hid (by
      have h1 : Short K := by rw [hK]; exact short_run GG.out.st (x := .wr a.data.toList d.data.toList) LL.out
      have h2 : K.length ≤ 65536 := by rw [hK]; have := len_putF s.there a.data.toList d.data.toList; have := FT.out.there; omega
      have := total_le h1
      exact ⟨by omega, h2⟩)
    have hgd := GG.out.room
    have HK := Lib.hid hK
    clear hdc hK
    go_enter Try.func14, Try.ntmps14
    go_wp2_with fail
    refine T.out.mono ?_; rintro e w1 ⟨v, rfl, hr⟩
    obtain ⟨va, vc, hv⟩ := frow_shape hr.1
    subst hv
    have DO := rdo_at hr.1 (by have := FT.out.there; omega) GG.out.rt (.wr a.data.toList d.data.toList)
    rw [HD.out, show (Deed.wr a.data.toList d.data.toList).run s.there = putF s.there a.data.toList d.data.toList from rfl, ← HK.out] at DO
    have HDO := Lib.hid DO
    have K1 := Lib.hid hr.2.1
    clear hr DO T
    generalize s.there.length = tn at *
    go_wp2_with fail
    refine HDO.out.mono ?_; rintro e w2 ⟨v2, rfl, hr2⟩
    obtain ⟨va2, vc2, hv⟩ := frow_shape hr2.1
    subst hv
    have HR2 := Lib.hid hr2
    have K2 : Hid (Keeps (fun _ => False) w w2) := Lib.hid (K1.out.trans hr2.2.1 (fun _ _ h => h))
    have m2 := CELLS.out w2 K2.out
    clear hr2 HDO
    obtain ⟨n, hn⟩ : ∃ n, K.length = n := ⟨_, rfl⟩
    rw [hn] at HR2 ⊢
    have hn5 : n ≤ 65536 := by rw [← hn]; exact TT.out.2
    have KN := Lib.hid hn
    clear hn
    go_wp2_with fail
    go_loop [8, 9] (fun sm i => ∃ k : Nat, k ≤ n ∧ i = .int .i64 k ∧ ∃ N : Nat, sm = .int .i64 N ∧ N = total (K.take k)) (fun _ i => n - (intOf i).toNat)
    case atStart => exact ⟨0, Nat.zero_le _, rfl, 0, rfl, rfl⟩
    case round =>
      obtain ⟨k, hk, rfl, N, rfl, hN⟩ := hrel
      have HN := Lib.hid hN
      have hNb : N ≤ 4295032830 := by rw [hN]; exact Nat.le_trans (total_take_le K k) TT.out.1
      clear hN
      by_cases hlt : k < n
      · obtain ⟨q, hq⟩ : ∃ q, K[k]? = some q := ⟨_, List.getElem?_eq_getElem (by rw [KN.out]; exact hlt)⟩
        obtain ⟨g, c, hv, -, hc1⟩ := frow_at HR2.out.1 hq
        rw [KN.out] at hv
        obtain ⟨rfl, -, rfl⟩ := by simpa only [Value.slice.injEq] using hv
        obtain ⟨xd, hxd⟩ : ∃ x : ByteArray, x.data.toList = q.2 := ⟨⟨q.2.toArray⟩, rfl⟩
        rw [← hxd, ← str_of] at hc1
        have EN : Hid (N + xd.size = total (K.take (k + 1))) := Lib.hid (by rw [total_take_succ hq, HN.out, ← hxd]; simp)
        have hxs : xd.size ≤ 4295032830 := by have := total_take_le K (k + 1); have := EN.out; have := TT.out.1; omega
        clear hv hq hxd
        go_wp2_with fail
        go_round
        case rel => exact ⟨k + 1, by omega, by go_num, N + xd.size, by go_num, EN.out⟩
        case measure => simp [intOf]; omega
      · obtain rfl : k = n := by omega
        have hNN : N = total K := by rw [HN.out, List.take_of_length_le (by rw [KN.out]; omega)]
        rw [← hNN] at FU
        have H2 := Lib.hid ((RDk.framed p s).kept _ _ _ _ H.out K2.out (fun _ _ h => h))
        have W := Lib.hid (rwait_at H2.out DN.out (.wr a.data.toList d.data.toList) LL.out (by have := FT.out.waits; omega) HD.out)
        clear hNN
        by_cases hfu : s.room < N
        · have E2 : Hid (s.writeErr a.data.toList d.data.toList = 2 ∧ s.write a.data.toList d.data.toList = s) := Lib.hid (by
            have := E.out; rw [FU.out] at this; simpa [hfu] using this)
          go_wp2_with fail
          go_ret
          exact ⟨ret_int E2.out.1.symm, by rw [E2.out.2]; exact (Turns.refl H.out).more (RDk.framed _ _) K2.out⟩
        · have E2 : Hid (s.writeErr a.data.toList d.data.toList = s.err ∧ s.write a.data.toList d.data.toList = s.wait (.wr a.data.toList d.data.toList)) := Lib.hid (by
            have := E.out; rw [FU.out] at this; simpa [hfu] using this)
          go_wp2_with fail
          refine W.out.mono ?_; rintro e w3 ⟨rfl, ht⟩
          have HT := Lib.hid ht
          clear ht W
          go_wp2_with fail
          go_ret
          exact ⟨ret_int E2.out.1.symm, by rw [E2.out.2]; exact Turns.chain (K2.out.mono (fun _ _ h => h.elim)) (fun b hb => .inl hb) HT.out⟩
end Go.Proofs.Ytnijencmoceiaaa
