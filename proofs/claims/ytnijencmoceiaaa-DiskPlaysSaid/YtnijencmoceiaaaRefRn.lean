/-
  No statement is proved here: the document's 'do' at a file that gets another name; 'do', whole.
-/
import Derived.Test.YtnijencmoceiaaaRefDo
namespace Go.Proofs.Ytnijencmoceiaaa
set_option linter.unusedSimpArgs false
set_option linter.unusedVariables false
open Go.RowKit Go.Maps

set_option maxRecDepth 100000 in
set_option maxHeartbeats 1000000 in
theorem rdo_rn1 (fa : Option Addr) (n cap : Nat) (K : Files) (hKn : K.length = n) (hK5 : n ≤ 65536) (hr : Rising K) (a b d : ByteArray) (hl : look K a.data.toList = some d.data.toList) (w : World) (h : FRow w (.slice fa n cap) K) :
    Calls Try.prog 35 #[.slice fa n cap, .agg #[.int .i64 1, .string a, .string b]] w fun e w' => ∃ v', e = .returned v' ∧ FRes w w' (.slice fa n cap) v' (putF (dropF K a.data.toList) b.data.toList d.data.toList) := by
  have k0 : Keeps (fun _ => False) w (w.alloc (.cells #[.int .i64 1, .string a, .string b] 65)) := (Keeps.refl _ w).alloc _
  have h1 := row_keeps h k0 (fun _ _ h => h)
  obtain ⟨k, hk, hq⟩ := pos_of_look hl
  have F := find_at h1 a
  rw [hk] at F
  have HF := Lib.hid F
  obtain ⟨g, c, hv, -, hc1⟩ := frow_at h1 hq
  rw [hKn] at hv
  obtain ⟨rfl, -, rfl⟩ := by simpa only [Value.slice.injEq] using hv
  simp only at hc1
  rw [← str_of] at hc1
  have hkl : k < n := by rw [← hKn]; exact (List.getElem?_eq_some_iff.1 hq).1
  have e0 : (w.alloc (.cells #[.int .i64 1, .string a, .string b] 65)).cell? ⟨w.heap.size, 0, none⟩ = some (.int .i64 1) := cells_new w [.int .i64 1, .string a, .string b] 65 0 _ rfl
  have e1 : (w.alloc (.cells #[.int .i64 1, .string a, .string b] 65)).cell? ⟨w.heap.size, 1, none⟩ = some (.string a) := cells_new w [.int .i64 1, .string a, .string b] 65 1 _ rfl
  have e2 : (w.alloc (.cells #[.int .i64 1, .string a, .string b] 65)).cell? ⟨w.heap.size, 2, none⟩ = some (.string b) := cells_new w [.int .i64 1, .string a, .string b] 65 2 _ rfl
  obtain ⟨w1, hw1⟩ : ∃ w1, w1 = w.alloc (.cells #[.int .i64 1, .string a, .string b] 65) := ⟨_, rfl⟩
  rw [← hw1] at HF h1 e0 e1 e2 k0 hc1
  have HK := Lib.hid k0
  -- the two calls
  have D := Lib.hid (drop_at (w := w1.drewN 1) h1 (by rw [hKn]; exact hK5) a)
  have P : Hid (∀ w2 v2, FFresh (w1.drewN 1) w2 v2 (dropF K a.data.toList) → Calls Try.prog 46 #[v2, .string b, .string d] w2 fun e w' => ∃ v', e = .returned v' ∧ FFresh w2 w' v' (putF (dropF K a.data.toList) b.data.toList d.data.toList)) := Lib.hid (fun w2 v2 hf =>
    put_at hf.1 (by have := len_dropF K a.data.toList; omega) (rising_dropF hr _) b d)
  have C2 : Hid (∀ w2 v2, FFresh (w1.drewN 1) w2 v2 (dropF K a.data.toList) → w2.cell? ⟨w.heap.size, 1, none⟩ = some (.string a) ∧ w2.cell? ⟨w.heap.size, 2, none⟩ = some (.string b)) := Lib.hid (fun w2 v2 hf => by
    have hlt : w.heap.size < w1.heap.size := by rw [hw1]; simp
    have hb := hf.2.1.block w.heap.size hlt (fun h => h)
    exact ⟨(World.cell?_of_block hb).trans e1, (World.cell?_of_block hb).trans e2⟩)
  have C3 : Hid (∀ w2 v2, FFresh (w1.drewN 1) w2 v2 (dropF K a.data.toList) → ∀ w3 v3, FFresh w2 w3 v3 (putF (dropF K a.data.toList) b.data.toList d.data.toList) → (w3.cell? ⟨w.heap.size, 1, none⟩ = some (.string a) ∧ w3.cell? ⟨w.heap.size, 2, none⟩ = some (.string b)) ∧ FRes w w3 (.slice (some ⟨g, 0, none⟩) n cap) v3 (putF (dropF K a.data.toList) b.data.toList d.data.toList)) := Lib.hid (fun w2 v2 hf w3 v3 hf3 => by
    have hlt : w.heap.size < w1.heap.size := by rw [hw1]; simp
    have hlt2 : w.heap.size < w2.heap.size := Nat.lt_of_lt_of_le hlt hf.2.1.size
    have hb := hf3.2.1.block w.heap.size hlt2 (fun h => h)
    obtain ⟨q1, q2⟩ := C2.out w2 v2 hf
    exact ⟨⟨(World.cell?_of_block hb).trans q1, (World.cell?_of_block hb).trans q2⟩, FRes.of hf3 ((HK.out.trans (Keeps.drewN (fun _ => False) w1 1) (fun _ _ h => h)).trans hf.2.1 (fun _ _ h => h))⟩)
  have hn9 : n ≤ 9223372036854775807 := by omega
  have WW := Lib.hid hw1
  clear h h1 k0 hl F hv hq hk hr hKn hK5 hw1
  go_enter Try.func35, Try.ntmps35
  go_wp2_with fail
  rw [← WW.out]
  refine HF.out.mono ?_; rintro e w' ⟨rfl, rfl⟩
  go_wp2_with fail
  go_region_held3 (fun w' => w'.cell? ⟨w.heap.size, 1, none⟩ = some (.string a) ∧ w'.cell? ⟨w.heap.size, 2, none⟩ = some (.string b))
    (exact ⟨by assumption, by assumption⟩)
    (first
      | (go_at_call 47; refine D.out.mono ?_; rintro e w2 ⟨v2, rfl, hf2⟩; obtain ⟨q1, q2⟩ := C2.out _ _ hf2; have HF2 := Lib.hid hf2; clear hf2)
      | (go_at_call 46; refine (P.out _ _ (Hid.out (by assumption))).mono ?_; rintro e w3 ⟨v3, rfl, hf3⟩; obtain ⟨⟨q3, q4⟩, hR⟩ := C3.out _ _ (Hid.out (by assumption)) _ _ hf3; have HR := Lib.hid hR; obtain ⟨va, vc, hv⟩ := frow_shape hf3.1; subst hv; clear hf3 hR)
      | fail)
  all_goals
    go_wp2_with fail
    go_ret
    exact ⟨_, rfl, Hid.out (by assumption)⟩

theorem rdo_at {w : World} {v : Value} {K : Files} (h : FRow w v K) (hK : K.length ≤ 65536) (hr : Rising K) (x : Deed) :
    Calls Try.prog 35 #[v, .agg (dc x).toArray] w fun e w' => ∃ v', e = .returned v' ∧ FRes w w' v v' (x.run K) := by
  obtain ⟨fa, c, rfl⟩ := frow_shape h
  cases x with
  | wr a d => exact rdo_wr fa _ c K rfl hK hr ⟨a.toArray⟩ ⟨d.toArray⟩ w h
  | rn a b =>
    unfold Deed.run
    simp only
    cases hl : look K a with
    | none => exact rdo_rn0 fa _ c K ⟨a.toArray⟩ ⟨b.toArray⟩ hl w h
    | some d => exact rdo_rn1 fa _ c K rfl hK hr ⟨a.toArray⟩ ⟨b.toArray⟩ ⟨d.toArray⟩ hl w h
  | rm a => exact rdo_rm fa _ c K hK ⟨a.toArray⟩ w h
end Go.Proofs.Ytnijencmoceiaaa
