/-
  No statement is proved here: 'told', as a contract: all files of a disk, as one row.
-/
import Derived.Test.YtnijencmoceiaaaRoom
namespace Go.Proofs.Ytnijencmoceiaaa
set_option linter.unusedVariables false
open Go.RowKit Go.Maps

/-- All files, as one row. -/
def flat (K : Files) : List Str := K.flatMap (fun p => [p.1, p.2])
theorem flat_take_succ {K : Files} {k : Nat} {p : Str × Str} (h : K[k]? = some p) : flat (K.take (k + 1)) = flat (K.take k) ++ [p.1, p.2] := by
  unfold flat
  rw [List.take_add_one, h]
  simp
theorem flat_len (K : Files) : (flat K).length = 2 * K.length := by
  induction K with
  | nil => rfl
  | cons p K ih =>
    unfold flat at *
    simp only [List.flatMap_cons, List.length_append, List.length_cons, List.length_nil]
    omega
theorem Try.info9 : (Try.prog.info? 9).map (fun i => (i.zero, i.size, i.bytes)) = some (some (.string ByteArray.empty), 1, 16) := by kernel_rfl

theorem RowOf.appends {e : TypeId} {size : Nat} {v v' : Value} {n n' : Nat} {xs ys : List Value} {w w3 : World} {F : Nat → Prop} (h : RowOf e size v n xs w F) (o : Go.Obj) (hr : w3.ownsRow 0 e size v' n' ys) (hg : (w.alloc o).grownBy w3 v.ownBlock)
    (hl : v'.ownBlock = v.ownBlock ∨ v'.ownBlock = some (w.alloc o).heap.size) : Turns w F w3 (RowOf e size v' n' ys) := by
  refine ⟨fun b => v'.ownBlock = some b, ⟨hr, fun _ => Iff.rfl⟩, ((Keeps.refl F w).alloc o).trans (Keeps.grown (F := F) hg (fun k hk _ => (h.2 k).2 hk)) (fun _ _ h => h), fun b hb => ?_⟩
  rcases hl with e | e
  · rw [e] at hb; exact .inl ((h.2 b).2 hb)
  · rw [e] at hb; cases hb; exact .inr (by simp)

set_option maxRecDepth 100000 in
set_option maxHeartbeats 4000000 in
theorem told_up {p R : Nat} {s : St} {w : World} (h : ∃ F, Dk p s w F) (hu : Up R s) (hf : Fits s 65535) :
    Calls Try.prog 33 #[.pointer (some ⟨p, 0, none⟩)] w fun e w' => ∃ v, e = .returned v ∧ Fresh w w' 9 1 (flat s.there).length ((flat s.there).map str) v := by
  have N := Lib.hid (names_at h (by have := hf.there; omega))
  rw [hu.names, List.length_map] at N
  have UP := Lib.hid hu
  obtain ⟨K, hK⟩ : ∃ K, K = s.there := ⟨_, rfl⟩
  have HK := Lib.hid hK
  have hn5 : K.length ≤ 65535 := by rw [hK]; exact hf.there
  rw [← hK] at N ⊢
  have SH : Hid (Short K) := Lib.hid (by obtain ⟨F, h⟩ := h; rw [hK]; exact h.good.st)
  have D : Hid (∀ wr, Below w.heap.size w wr → ∃ F, Dk p s wr F) := Lib.hid (fun wr hb => by
    obtain ⟨F, h⟩ := h
    exact ⟨F, (Dk.framed p s).kept _ _ _ _ h (Keeps.of_below hb) (fun b hb' hb2 => by have := (Dk.framed p s).lt _ _ h b hb'; omega)⟩)
  obtain ⟨i0, hi, hz0, hz1, hz2⟩ := info_parts Try.info9
  have FL : Hid ((flat K).length = 2 * K.length) := Lib.hid (flat_len K)
  clear h hu hf hK
  go_enter Try.func33, Try.ntmps33
  go_wp2_with fail
  refine N.out.mono ?_; rintro e w1 ⟨v, rfl, hfr⟩
  obtain ⟨na, nc, hv, -⟩ := row_shape hfr.1
  subst hv
  have O1 : Hid (OwnL w.heap.size w w1 ([] ++ [RowOf 9 1 (.slice na K.length nc) K.length ((K.map (·.1)).map str)])) := Lib.hid ((OwnL.start (Below.refl _ w) (Nat.le_refl _)).add hfr.2.1 (F' := fun b => (Value.slice na K.length nc).ownBlock = some b) ⟨hfr.1, fun _ => Iff.rfl⟩ (RowOf.framed _ _ _ _ _) hfr.2.2)
  have O2 : Hid (OwnL w.heap.size w w1 [RowOf 9 1 (.slice na K.length nc) K.length ((K.map (·.1)).map str), RowOf 9 1 (.slice none 0 0) 0 ((flat (K.take 0)).map str)]) := Lib.hid (O1.out.add (Keeps.refl _ _) (F' := fun _ => False) ⟨World.ownsRow_nil _ _ _ _, fun b => ⟨fun h => h.elim, fun h => by cases h⟩⟩ (RowOf.framed _ _ _ _ _) (fun _ h => h.elim))
  clear hfr N O1
  go_wp2_with fail
  go_loopw [3, 5] (fun out i wr => ∃ k : Nat, k ≤ K.length ∧ i = .int .i64 k ∧ ∃ oa oc, out = .slice oa (2 * k) oc ∧ OwnL w.heap.size w wr [RowOf 9 1 (.slice na K.length nc) K.length ((K.map (·.1)).map str), RowOf 9 1 (.slice oa (2 * k) oc) (2 * k) ((flat (K.take k)).map str)]) (fun _ i _ => K.length - (intOf i).toNat)
  case atStart => exact ⟨0, Nat.zero_le _, rfl, none, 0, rfl, O2.out⟩
  case round =>
    obtain ⟨k, hk, rfl, oa, oc, rfl, ho⟩ := hrel
    have Q := Lib.hid ho
    clear ho O2
    by_cases hlt : k < K.length
    · obtain ⟨q, hq⟩ : ∃ q, K[k]? = some q := ⟨_, List.getElem?_eq_getElem hlt⟩
      have HQ := Lib.hid hq
      have hmem := List.mem_of_getElem? hq
      obtain ⟨F, hrow, -⟩ := Q.out.it (i := 0) rfl
      obtain ⟨g, c', hv, hcell⟩ := row_at hrow hlt
      obtain ⟨rfl, -, rfl⟩ := by simpa only [Value.slice.injEq] using hv
      obtain ⟨xn, hxn⟩ : ∃ x : ByteArray, x.data.toList = q.1 := ⟨⟨q.1.toArray⟩, rfl⟩
      obtain ⟨xd, hxd⟩ : ∃ x : ByteArray, x.data.toList = q.2 := ⟨⟨q.2.toArray⟩, rfl⟩
      have hcell1 : wr.cell? ⟨g, k, none⟩ = some (.string xn) := by
        rw [hcell, List.getElem?_map, List.getElem?_map, hq]
        simp only [Option.map_some]
        rw [str_of xn, hxn]
      have RD := Lib.hid (read_own (D.out _ Q.out.below) xn (by have := (SH.out _ hmem).1; rw [← hxn] at this; simpa using this) (x := xd) (t := true) (by rw [hxn, hxd]; exact UP.out.read (by rw [← HK.out]; exact hmem)))
      obtain ⟨F2, hrow2, hfoot⟩ := Q.out.it (i := 1) rfl
      have hrow3 : (wr.alloc (.cells #[.string xn, .string xd] 9)).ownsRow 0 9 1 (.slice oa (2 * k) oc) (2 * k) ((flat (K.take k)).map str) := World.ownsRow.alloc hrow2 _
      have hnews : ∀ (j : Nat) (u : Value), [Value.string xn, Value.string xd][j]? = some u → (wr.alloc (.cells #[.string xn, .string xd] 9)).cell? ((⟨wr.heap.size, 0, none⟩ : Addr).add j) = some u := fun j u hu => by
        rw [Addr.add_lit, Nat.zero_add]; exact cells_new wr [.string xn, .string xd] 9 j u hu
      have h1 : ∀ u ∈ [Value.string xn, Value.string xd], u.oneCell' = true := by intro u hu; simp at hu; rcases hu with rfl | rfl <;> rfl
      have hm : 2 * k + 2 ≤ maxLen := by unfold maxLen; omega
      have hm' : (2 * k + 2) * 16 ≤ 140737488355328 := by omega
      have STEP : Hid (∀ v' w3, w3.ownsRow 0 9 1 v' (2 * k + 2) ((flat (K.take k)).map str ++ [.string xn, .string xd]) → (wr.alloc (.cells #[.string xn, .string xd] 9)).grownBy w3 (Value.slice oa (2 * k) oc).ownBlock →
          (v'.ownBlock = (Value.slice oa (2 * k) oc).ownBlock ∨ v'.ownBlock = some (wr.alloc (.cells #[.string xn, .string xd] 9)).heap.size) →
          ∃ oa' oc', v' = .slice oa' (2 * (k + 1)) oc' ∧ OwnL w.heap.size w w3 [RowOf 9 1 (.slice (some ⟨g, 0, none⟩) K.length nc) K.length ((K.map (·.1)).map str), RowOf 9 1 (.slice oa' (2 * (k + 1)) oc') (2 * (k + 1)) ((flat (K.take (k + 1))).map str)]) := Lib.hid (fun v' w3 hr hg hl => by
        obtain ⟨oa', oc', hv, -⟩ := row_shape hr
        refine ⟨oa', oc', hv, ?_⟩
        have e : (flat (K.take (k + 1))).map str = (flat (K.take k)).map str ++ [.string xn, .string xd] := by
          rw [flat_take_succ HQ.out, List.map_append, ← hxn, ← hxd]; simp [← str_of]
        subst hv
        rw [e]
        exact Q.out.turns (i := 1) rfl (RowOf.framed _ _ _ _ _) (fun F hF _ => RowOf.appends hF _ hr hg hl))
      clear hrow hrow2 hfoot hv hcell hq hmem hxn hxd
      go_wp2_with fail
      refine RD.out.mono ?_; rintro e w' ⟨rfl, rfl⟩
      go_wp2_with (at_builtin; refine wpList_append_own_at _ rfl (.tmp 25) (.tmp 31) 41 rfl 0 9 i0 (.string ByteArray.empty) 1 16 Try.underlying41 hi hz0 hz1 hz2 rfl (by decide) _ _ _ rfl hrow3 ⟨wr.heap.size, 0, none⟩ 2 2 [.string xn, .string xd] rfl rfl hnews h1 hm hm' (Nat.zero_le _) ?_; intro v' w3 hr3 hg3 _ hl3; obtain ⟨oa', oc', hv', ho3⟩ := STEP.out v' w3 hr3 hg3 hl3; subst hv'; have Q3 := Lib.hid ho3; clear ho3 hr3 hg3 hl3)
      go_roundw
      case rel => exact ⟨k + 1, by omega, by go_num, oa', oc', rfl, Q3.out⟩
      case measure => simp [intOf]; omega
    · obtain rfl : k = K.length := by omega
      go_wp2_with fail
      go_ret
      obtain ⟨F, hrow, hfoot⟩ := Q.out.it (i := 1) rfl
      refine ⟨_, rfl, ?_⟩
      rw [List.take_length] at hrow
      rw [FL.out]
      refine ⟨hrow, Keeps.of_below0 Q.out.below, fun b hb => ?_⟩
      obtain ⟨Fs, h1, h2, h3⟩ := Q.out.its
      exact h2 1 b (by simp) (((h1 1 _ rfl).2 b).2 hb)
end Go.Proofs.Ytnijencmoceiaaa
