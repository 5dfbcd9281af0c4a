/-
  No statement is proved here: the document's 'drop', 'put', as contracts.
-/
import Derived.Test.YtnijencmoceiaaaRef
namespace Go.Proofs.Ytnijencmoceiaaa
set_option linter.unusedSimpArgs false
set_option linter.unusedVariables false
open Go.RowKit Go.Maps

/-- A row of files of the call's own. -/
abbrev FOf (v : Value) (K : Files) : Says := RowOf 67 2 v K.length (K.flatMap fc)

/-- append of one file to a row of files that the call itself makes. -/
theorem wpList_fapp {ops : Array Oper} {rest : List Oper} {o : Oper} {a : Act} {Q : Exit → Act → World → Prop} (hgd : o.guard = none) (s x : Operand)
    (ho : o.op = .call { callee := .builtin .append, args := #[s, x], argTypes := #[43, 43] }) {B : Nat} {w0 wr : World} {O : Files} {oa : Option Addr} {on oc : Nat} (hs : a.eval s = .slice oa on oc) (hx : a.eval x = .slice (some ⟨wr.heap.size, 0, none⟩) 1 1)
    (hQ : OwnL B w0 wr [FOf (.slice oa on oc) O]) (hn : O.length = on) (hb : on ≤ 131072) (xn xd : ByteArray) (p : Str × Str) (hp : p = (xn.data.toList, xd.data.toList))
    (h : ∀ oa' oc' w3, OwnL B w0 w3 [FOf (.slice oa' (on + 1) oc') (O ++ [p])] → wpList Try.prog ops Q rest (a.put o.dst (.slice oa' (on + 1) oc')) w3) :
    wpList Try.prog ops Q (o :: rest) a (wr.alloc (.cells #[.string xn, .string xd] 67)) := by
  subst hn hp
  obtain ⟨i0, hi, hz0, hz1, hz2⟩ := info_parts Try.info67
  obtain ⟨F, hrow, hF⟩ := hQ.it (i := 0) rfl
  refine wpList_append_own_at _ hgd s x 43 ho 0 67 i0 _ 2 32 Try.underlying43 hi hz0 hz1 hz2 rfl (by decide) _ O.length (O.flatMap fc) hs (World.ownsRow.alloc hrow _) ⟨wr.heap.size, 0, none⟩ 1 1 [.string xn, .string xd] hx rfl (fun j u hu => by rw [Addr.add_lit, Nat.zero_add]; exact cells_new wr [.string xn, .string xd] 67 j u hu) (by intro u hu; simp at hu; rcases hu with rfl | rfl <;> rfl) (by unfold maxLen; omega) (by omega) (Nat.zero_le _) ?_
  intro v' w3 hr hg _ hl
  obtain ⟨oa', oc', rfl, -⟩ := row_shape hr
  refine h oa' oc' w3 ?_
  have e : (O ++ [(xn.data.toList, xd.data.toList)]).flatMap fc = O.flatMap fc ++ [.string xn, .string xd] := by simp [List.flatMap_append, fc, ← str_of]
  have := hQ.turns (i := 0) rfl (RowOf.framed 67 2 (.slice oa' (O.length + 1) oc') (O.length + 1) (O.flatMap fc ++ [.string xn, .string xd])) (fun F hF _ => RowOf.appends hF _ hr hg hl)
  rw [← e] at this
  have e2 : (O ++ [(xn.data.toList, xd.data.toList)]).length = O.length + 1 := by simp
  show OwnL B w0 w3 [RowOf 67 2 (.slice oa' (O.length + 1) oc') (O ++ [(xn.data.toList, xd.data.toList)]).length _]
  rw [e2]; exact this
theorem ffresh_of {B : Nat} {w w' : World} {v : Value} {K : Files} (h : OwnL B w w' [FOf v K]) (hB : B = w.heap.size) : FFresh w w' v K := by
  subst hB
  obtain ⟨F, hrow, hfoot⟩ := h.it (i := 0) rfl
  refine ⟨hrow, Keeps.of_below0 h.below, fun b hb => ?_⟩
  obtain ⟨Fs, h1, h2, h3⟩ := h.its
  exact h2 0 b (by simp) (((h1 0 _ rfl).2 b).2 hb)
theorem fown_nil (w : World) : OwnL w.heap.size w w [FOf (.slice none 0 0) []] := by
  have := (OwnL.start (Below.refl w.heap.size w) (Nat.le_refl _)).add (Keeps.refl _ _) (O' := FOf (.slice none 0 0) []) (F' := fun _ => False) ⟨World.ownsRow_nil _ _ _ _, fun b => ⟨fun h => h.elim, fun h => by cases h⟩⟩ (RowOf.framed _ _ _ _ _) (fun _ h => h.elim)
  exact this

theorem dropF_take {K : Files} {k : Nat} {q : Str × Str} (h : K[k]? = some q) (a : Str) : dropF (K.take (k + 1)) a = dropF (K.take k) a ++ (if q.1 = a then [] else [q]) := by
  unfold dropF
  rw [List.take_add_one, h]
  simp only [Option.toList_some, List.filter_append]
  congr 1
  by_cases e : q.1 = a
  · simp [e]
  · simp [e]

set_option maxRecDepth 100000 in
set_option maxHeartbeats 2000000 in
theorem drop_walk (fa : Option Addr) (n cap : Nat) (K : Files) (hKn : K.length = n) (hK5 : n ≤ 65536) (a : ByteArray) (w : World) (h : w.ownsRow 0 67 2 (.slice fa n cap) n (K.flatMap fc)) :
    Calls Try.prog 47 #[.slice fa n cap, .string a] w fun e w' => ∃ v, e = .returned v ∧ FFresh w w' v (dropF K a.data.toList) := by
  have H : Hid (FRow w (.slice fa n cap) K) := Lib.hid (by subst hKn; exact h)
  have HK := Lib.hid hKn
  have S0 : Hid (OwnL w.heap.size w w [FOf (.slice none 0 0) (dropF (K.take 0) a.data.toList)]) := Lib.hid (fown_nil w)
  clear h hKn
  go_enter Try.func47, Try.ntmps47
  go_wp2
  go_loopw [5, 6] (fun out i wr => ∃ k : Nat, k ≤ n ∧ i = .int .i64 k ∧ ∃ oa on oc, out = .slice oa on oc ∧ (dropF (K.take k) a.data.toList).length = on ∧ OwnL w.heap.size w wr [FOf (.slice oa on oc) (dropF (K.take k) a.data.toList)]) (fun _ i _ => n - (intOf i).toNat)
  case atStart => exact ⟨0, Nat.zero_le _, rfl, none, 0, 0, rfl, rfl, S0.out⟩
  case round =>
    obtain ⟨k, hk, rfl, oa, on, oc, rfl, hon, ho⟩ := hrel
    have Q := Lib.hid ho
    have HN := Lib.hid hon
    have LB : Hid (on ≤ 131072) := Lib.hid (by
      have h1 := len_dropF (K.take k) a.data.toList
      rw [hon] at h1
      have : (K.take k).length ≤ k := by simp; omega
      omega)
    clear ho hon S0
    by_cases hlt : k < n
    · obtain ⟨q, hq⟩ : ∃ q, K[k]? = some q := ⟨_, List.getElem?_eq_getElem (by rw [HK.out]; exact hlt)⟩
      obtain ⟨g, c, hv, hc0, hc1⟩ := frow_at (row_keeps H.out (Keeps.of_below0 Q.out.below) (fun _ _ h => h)) hq
      rw [HK.out] at hv
      obtain ⟨rfl, -, rfl⟩ := by simpa only [Value.slice.injEq] using hv
      obtain ⟨xn, hxn⟩ : ∃ x : ByteArray, x.data.toList = q.1 := ⟨⟨q.1.toArray⟩, rfl⟩
      obtain ⟨xd, hxd⟩ : ∃ x : ByteArray, x.data.toList = q.2 := ⟨⟨q.2.toArray⟩, rfl⟩
      rw [← hxn, ← str_of] at hc0
      rw [← hxd, ← str_of] at hc1
      have HT := Lib.hid (dropF_take hq a.data.toList)
      have HX : Hid (q = (xn.data.toList, xd.data.toList)) := Lib.hid (by rw [hxn, hxd])
      clear hq hv hxn hxd
      by_cases e : xn = a
      · have hbq : (xn.toList == a.toList) = true := by rw [e]; exact beq_self_eq_true _
        have E : Hid (dropF (K.take (k + 1)) a.data.toList = dropF (K.take k) a.data.toList) := Lib.hid (by rw [HT.out, HX.out, if_pos (by rw [e]), List.append_nil])
        clear e
        go_wp2
        go_roundw
        case rel => exact ⟨k + 1, by omega, by go_num, oa, on, oc, rfl, by rw [E.out]; exact HN.out, by rw [E.out]; exact Q.out⟩
        case measure => simp [intOf]; omega
      · have hbq : (xn.toList == a.toList) = false := by rw [ByteArray.toList_eq, ByteArray.toList_eq]; simpa using fun h => e (letters_inj (congrArg Array.toList h))
        have E : Hid (dropF (K.take (k + 1)) a.data.toList = dropF (K.take k) a.data.toList ++ [q]) := Lib.hid (by rw [HT.out, HX.out, if_neg (fun h => e (letters_inj h))])
        clear e
        go_wp2_with (at_builtin; refine wpList_fapp rfl (.tmp 20) (.tmp 25) rfl rfl rfl Q.out HN.out LB.out xn xd q HX.out ?_; intro oa' oc' w3 ho3; have Q3 := Lib.hid ho3; clear ho3)
        go_roundw
        case rel => exact ⟨k + 1, by omega, by go_num, oa', on + 1, oc', rfl, by rw [E.out, List.length_append, HN.out]; rfl, by rw [E.out]; exact Q3.out⟩
        case measure => simp [intOf]; omega
    · obtain rfl : k = n := by omega
      have E : Hid (K.take k = K) := Lib.hid (List.take_of_length_le (by rw [HK.out]; omega))
      go_wp2
      go_ret
      refine ⟨_, rfl, ?_⟩
      have := Q.out
      rw [E.out] at this
      exact ffresh_of this rfl
theorem drop_at {w : World} {v : Value} {K : Files} (h : FRow w v K) (hK : K.length ≤ 65536) (a : ByteArray) :
    Calls Try.prog 47 #[v, .string a] w fun e w' => ∃ v', e = .returned v' ∧ FFresh w w' v' (dropF K a.data.toList) := by
  obtain ⟨fa, c, rfl⟩ := frow_shape h
  exact drop_walk fa _ c K rfl hK a w h

/-! ### put, as the document does it -/
def pstep (a d : Str) (s : Files × Bool) (z : Str × Str) : Files × Bool :=
  let t := if s.2 = false ∧ bytesBefore z.1 a = false then (s.1 ++ [(a, d)], true) else s
  (if z.1 = a then t.1 else t.1 ++ [z], t.2)
def pst (a d : Str) (K : Files) : Files × Bool := K.foldl (pstep a d) ([], false)
def refPut (K : Files) (a d : Str) : Files := if (pst a d K).2 then (pst a d K).1 else (pst a d K).1 ++ [(a, d)]
theorem pst_take {K : Files} {k : Nat} {q : Str × Str} (h : K[k]? = some q) (a d : Str) : pst a d (K.take (k + 1)) = pstep a d (pst a d (K.take k)) q := by
  unfold pst
  rw [List.take_add_one, h]
  simp [List.foldl_append]
theorem pstep_len (a d : Str) (s : Files × Bool) (z : Str × Str) : (pstep a d s z).1.length + (!(pstep a d s z).2).toNat ≤ s.1.length + (!s.2).toNat + 1 := by
  unfold pstep
  obtain ⟨l, t⟩ := s
  by_cases h : t = false ∧ bytesBefore z.1 a = false
  · simp only [h, and_self, if_true]
    by_cases e : z.1 = a <;> simp [e]
  · simp only [h, if_false]
    by_cases e : z.1 = a <;> simp [e]; omega
theorem pst_len (a d : Str) (K : Files) : (pst a d K).1.length + (!(pst a d K).2).toNat ≤ K.length + 1 := by
  have key : ∀ (K : Files) (s : Files × Bool), (K.foldl (pstep a d) s).1.length + (!(K.foldl (pstep a d) s).2).toNat ≤ s.1.length + (!s.2).toNat + K.length := by
    intro K
    induction K with
    | nil => intro s; simp only [List.foldl_nil, List.length_nil]; omega
    | cons z r ih =>
      intro s
      have h1 := ih (pstep a d s z)
      have h2 := pstep_len a d s z
      rw [List.foldl_cons, List.length_cons]
      omega
  have := key K ([], false)
  unfold pst
  simpa [Nat.add_comm] using this

/-- All names come ahead of a. -/
theorem pst_ahead (a d : Str) : ∀ K : Files, (∀ p ∈ K, bytesBefore p.1 a = true) → ∀ o, K.foldl (pstep a d) (o, false) = (o ++ K, false)
  | [], _, o => by simp
  | z :: r, h, o => by
    have hz := h z (by simp)
    have hne : z.1 ≠ a := fun e => by rw [e, before_irrefl] at hz; cases hz
    rw [List.foldl_cons]
    have e : pstep a d (o, false) z = (o ++ [z], false) := by
      unfold pstep
      simp [hz, hne]
    rw [e, pst_ahead a d r (fun p hp => h p (by simp [hp]))]
    simp
/-- All names come behind a. -/
theorem pst_behind (a d : Str) : ∀ K : Files, (∀ p ∈ K, bytesBefore a p.1 = true) → ∀ o, K.foldl (pstep a d) (o, true) = (o ++ K, true)
  | [], _, o => by simp
  | z :: r, h, o => by
    have hz := h z (by simp)
    have hne : z.1 ≠ a := fun e => by rw [e, before_irrefl] at hz; cases hz
    rw [List.foldl_cons]
    have e : pstep a d (o, true) z = (o ++ [z], true) := by
      unfold pstep
      simp [hne]
    rw [e, pst_behind a d r (fun p hp => h p (by simp [hp]))]
    simp
theorem ins_ahead (x : Str × Str) : ∀ K L : Files, (∀ p ∈ K, bytesBefore p.1 x.1 = true) → ins x (K ++ L) = K ++ ins x L
  | [], _, _ => rfl
  | z :: r, L, h => by
    have hz := h z (by simp)
    have hb : bytesBefore x.1 z.1 = false := by
      cases hb : bytesBefore x.1 z.1 with
      | false => rfl
      | true => have := before_trans hz hb; rw [before_irrefl] at this; cases this
    show (if bytesBefore x.1 z.1 then x :: z :: (r ++ L) else z :: ins x (r ++ L)) = _
    rw [hb]
    simp [ins_ahead x r L (fun p hp => h p (by simp [hp]))]
theorem ins_behind (x : Str × Str) (K : Files) (h : ∀ p ∈ K, bytesBefore x.1 p.1 = true) : ins x K = x :: K := by
  cases K with
  | nil => rfl
  | cons z r =>
    show (if bytesBefore x.1 z.1 then x :: z :: r else z :: ins x r) = _
    rw [if_pos (h z (by simp))]
theorem dropF_behind {K : Files} {a : Str} (h : ∀ p ∈ K, p.1 ≠ a) : dropF K a = K := dropF_none (look_none h)
/-- By rising names, the document's put is ours. -/
theorem refPut_eq (a d : Str) : ∀ {K : Files}, Rising K → refPut K a d = putF K a d := by
  intro K hr
  -- the names ahead of a, and the others
  have split : ∃ L M, K = L ++ M ∧ (∀ p ∈ L, bytesBefore p.1 a = true) ∧ ∀ p, M.head? = some p → bytesBefore p.1 a = false := by
    refine ⟨K.takeWhile (fun p => bytesBefore p.1 a), K.dropWhile (fun p => bytesBefore p.1 a), (List.takeWhile_append_dropWhile).symm, fun p hp => List.all_eq_true.1 List.all_takeWhile p hp, fun p hp => ?_⟩
    have := List.head?_dropWhile_not (fun p : Str × Str => bytesBefore p.1 a) K
    rw [hp] at this
    simpa using this
  obtain ⟨L, M, rfl, hL, hM⟩ := split
  obtain ⟨hr1, hr2, hr3⟩ := List.pairwise_append.1 hr
  have hLne : ∀ p ∈ L, p.1 ≠ a := fun p hp e => by have := hL p hp; rw [e, before_irrefl] at this; cases this
  have hdrop : dropF (L ++ M) a = L ++ dropF M a := by
    unfold dropF
    rw [List.filter_append]
    congr 1
    exact dropF_behind hLne
  unfold putF
  rw [hdrop, ins_ahead _ _ _ hL]
  have hpst : pst a d (L ++ M) = M.foldl (pstep a d) (L, false) := by
    unfold pst
    rw [List.foldl_append, pst_ahead a d L hL]; simp
  unfold refPut
  rw [hpst]
  cases M with
  | nil => rfl
  | cons z r =>
    have hz := hM z rfl
    obtain ⟨hz1, hz2⟩ := List.pairwise_cons.1 hr2
    rw [List.foldl_cons]
    by_cases e : z.1 = a
    · have hbeh : ∀ p ∈ r, bytesBefore a p.1 = true := fun p hp => by rw [← e]; exact hz1 p hp
      have e1 : pstep a d (L, false) z = (L ++ [(a, d)], true) := by
        unfold pstep; simp only [hz, and_self, if_true, if_pos e]
      rw [e1, pst_behind a d r hbeh]
      have e2 : dropF (z :: r) a = r := by
        unfold dropF
        rw [List.filter_cons, if_neg (by simp [e])]
        exact dropF_behind (fun p hp e' => by have := hbeh p hp; rw [e', before_irrefl] at this; cases this)
      rw [e2, ins_behind _ _ hbeh]
      simp
    · have haz : bytesBefore a z.1 = true := before_or hz e
      have hbeh : ∀ p ∈ z :: r, bytesBefore a p.1 = true := fun p hp => by
        rcases List.mem_cons.1 hp with rfl | hp
        · exact haz
        · exact before_trans haz (hz1 p hp)
      have e1 : pstep a d (L, false) z = (L ++ [(a, d)] ++ [z], true) := by
        unfold pstep; simp [hz, e]
      rw [e1, pst_behind a d r (fun p hp => hbeh p (by simp [hp]))]
      have e2 : dropF (z :: r) a = z :: r := dropF_behind (fun p hp e' => by have := hbeh p hp; rw [e', before_irrefl] at this; cases this)
      rw [e2, ins_behind _ _ hbeh]
      simp
end Go.Proofs.Ytnijencmoceiaaa
