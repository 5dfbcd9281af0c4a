/-
  No statement is proved here: 'Events' of the document: two rows of the same events are the same.
-/
import Derived.Test.YteclbfkeiejbeaaRefGet
namespace Go.Proofs.Yteclbfkeiejbeaa
open Go.RowKit Go.Maps

set_option maxHeartbeats 1000000 in
theorem events_same (qa qb : Option Addr) (n ca cb : Nat) (S : List Ev) (hS : S.length = n) (w : World) (h1 : w.ownsRow 0 34 4 (.slice qa n ca) n (S.flatMap evCells)) (h2 : w.ownsRow 0 34 4 (.slice qb n cb) n (S.flatMap evCells)) :
    Calls Try.prog 19 #[.slice qa n ca, .slice qb n cb] w fun e w' => e = .returned (.bool true) ∧ Keeps (fun _ => False) w w' := by
  have hb : n ≤ 9223372036854775807 := by obtain ⟨_, _, _, _, h⟩ := row_shape h1; exact h
  have H1 := Lib.hid h1
  have H2 := Lib.hid h2
  clear h1 h2
  go_enter Try.func19, Try.ntmps19
  go_wp2_with fail
  go_loopw [5] (fun i wr => ∃ k : Nat, k ≤ n ∧ i = .int .i64 k ∧ Keeps (fun _ => False) w wr) (fun i _ => n - (intOf i).toNat)
  case atStart => exact ⟨0, Nat.zero_le _, rfl, Keeps.refl _ _⟩
  case round =>
    obtain ⟨k, hk, rfl, hK⟩ := hrel
    have KK := Lib.hid hK
    clear hK
    by_cases hlt : k < n
    · have r1 := row_keeps H1.out KK.out (fun _ _ h => h)
      have r2 := row_keeps H2.out KK.out (fun _ _ h => h)
      obtain ⟨g, rfl⟩ : ∃ g, qa = some ⟨g, 0, none⟩ := by
        rcases r1.2 with ⟨e, _⟩ | ⟨g, cap, _, e, _⟩
        · simp only [Value.slice.injEq] at e; omega
        · simp only [Value.slice.injEq] at e; exact ⟨g, e.1⟩
      obtain ⟨g', rfl⟩ : ∃ g, qb = some ⟨g, 0, none⟩ := by
        rcases r2.2 with ⟨e, _⟩ | ⟨g, cap, _, e, _⟩
        · simp only [Value.slice.injEq] at e; omega
        · simp only [Value.slice.injEq] at e; exact ⟨g, e.1⟩
      have n0 := flat_at S k (by omega) 0 (by decide)
      rw [Nat.add_zero] at n0
      have d0 := r1.cellAt (k * 4) (by omega)
      have d1 := r1.cellAt (k * 4 + 1) (by omega)
      have d2 := r1.cellAt (k * 4 + 2) (by omega)
      have d3 := r1.cellAt (k * 4 + 3) (by omega)
      have e0 := r2.cellAt (k * 4) (by omega)
      have e1 := r2.cellAt (k * 4 + 1) (by omega)
      have e2 := r2.cellAt (k * 4 + 2) (by omega)
      have e3 := r2.cellAt (k * 4 + 3) (by omega)
      rw [n0] at d0 e0
      rw [flat_at S k (by omega) 1 (by decide)] at d1 e1
      rw [flat_at S k (by omega) 2 (by decide)] at d2 e2
      rw [flat_at S k (by omega) 3 (by decide)] at d3 e3
      obtain ⟨ev, hev⟩ : ∃ ev, ev = S[k]'(by omega) := ⟨_, rfl⟩
      rw [← hev] at d0 d1 d2 d3 e0 e1 e2 e3
      clear hev n0 r1 r2
      obtain ⟨ea, ep, en, ex⟩ := ev
      obtain ⟨x, rfl⟩ : ∃ x : ByteArray, x.data.toList = ex := ⟨⟨ex.toArray⟩, rfl⟩
      simp only [evCells, ← str_of] at d0 d1 d2 d3 e0 e1 e2 e3
      simp at d0 d1 d2 d3 e0 e1 e2 e3
      go_wp2_with fail
      go_quiet (fail)
      go_wp2_with fail
      go_roundw
      case rel => exact ⟨k + 1, by omega, by go_num, KK.out.trans (Keeps.drewN (fun _ => False) wr nq) (fun _ _ h => h)⟩
      case measure => simp [intOf]; omega
    · obtain rfl : k = n := by omega
      go_wp2_with fail
      go_ret
      exact ⟨rfl, KK.out⟩
end Go.Proofs.Yteclbfkeiejbeaa
