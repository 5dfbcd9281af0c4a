/-
  No statement is proved here: 'small' returns true, and turns nothing that was there.
-/
import Derived.Test.YtelgfmhnnecheaaTab
namespace Go.Proofs.Ytelgfmhnnecheaa
open Go.RowKit Go.Maps

theorem of_is (p : Nat) (F : Nat → Prop) (L : List Str) (s : ByteArray) (hs : s.size ≤ maxLen) (w : World) (h : IsTab w p F L) (hl : L.length < 65536) (d : Int) (L' : List Str) (hd : (dig L s.data.toList : Int) = d) (hL : nxt L s.data.toList = L') :
    Calls Try.prog 13 #[.pointer (some ⟨p, 0, none⟩), .string s] w fun e w' => e = .returned (.tuple #[.int .i64 d, .int .i64 0]) ∧
      ∃ F', IsTab w' p F' L' ∧ Keeps F w w' ∧ ∀ b, F' b → F b ∨ w.heap.size ≤ b := by
  subst hd hL
  exact of_any p F L s hs w h hl
theorem text_is (p : Nat) (F : Nat → Prop) (L : List Str) (d : Int) (w : World) (h : IsTab w p F L) (s : ByteArray) (t : Bool) (hs : str (txt L d) = .string s) (ht : isT L d = t) :
    Calls Try.prog 16 #[.pointer (some ⟨p, 0, none⟩), .int .i64 d] w fun e w' => e = .returned (.tuple #[.string s, .bool t]) ∧ w = w' := by
  subst ht; rw [← hs]; exact Text_any p F L d w h
theorem known_is (p : Nat) (F : Nat → Prop) (L : List Str) (s : ByteArray) (hs : s.size ≤ maxLen) (w : World) (h : IsTab w p F L) (t : Bool) (ht : knows L s.data.toList = t) :
    Calls Try.prog 11 #[.pointer (some ⟨p, 0, none⟩), .string s] w fun e w' => e = .returned (.bool t) ∧ w = w' := by
  subst ht; exact Known_any p F L s hs w h
theorem len_is (p : Nat) (F : Nat → Prop) (L : List Str) (w : World) (h : IsTab w p F L) (n : Int) (hn : (L.length : Int) = n) :
    Calls Try.prog 15 #[.pointer (some ⟨p, 0, none⟩)] w fun e w' => e = .returned (.int .i64 n) ∧ w = w' := by
  subst hn; exact Len_any p F L w h

set_option maxRecDepth 100000 in
set_option maxHeartbeats 1000000 in
theorem small_any (w : World) : Calls Try.prog 8 #[] w fun e w' => e = .returned (.bool true) ∧ Keeps (fun _ => False) w w' := by
  go_enter Try.func8, Try.ntmps8
  go_wp2_with fail
  refine (New_any _).mono ?_; rintro e w1 ⟨rfl, F1, h1, f1, k1⟩
  have H1 := Lib.hid h1; clear h1
  go_wp2_with fail
  refine (of_is _ F1 [] _ (by decide) _ H1.out (by decide) 1 [[97]] (by decide) (by decide)).mono ?_; rintro e w2 ⟨rfl, F2, h2, k2, f2⟩
  have H2 := Lib.hid h2; clear h2
  go_wp2_with fail
  refine (of_is _ F2 _ _ (by decide) _ H2.out (by decide) 2 [[97], [98]] (by decide) (by decide)).mono ?_; rintro e w3 ⟨rfl, F3, h3, k3, f3⟩
  have H3 := Lib.hid h3; clear h3
  go_wp2_with fail
  refine (of_is _ F3 _ _ (by decide) _ H3.out (by decide) 1 [[97], [98]] (by decide) (by decide)).mono ?_; rintro e w4 ⟨rfl, F4, h4, k4, f4⟩
  have H4 := Lib.hid h4; clear h4
  go_wp2_with fail
  refine (text_is _ F4 _ _ _ H4.out ⟨#[98]⟩ true (by rfl) (by decide)).mono ?_; rintro e w4 ⟨rfl, rfl⟩
  go_wp2_with fail
  refine (text_is _ F4 _ _ _ H4.out ⟨#[]⟩ false (by rfl) (by decide)).mono ?_; rintro e w4 ⟨rfl, rfl⟩
  go_wp2_with fail
  refine (known_is _ F4 _ _ (by decide) _ H4.out true (by decide)).mono ?_; rintro e w4 ⟨rfl, rfl⟩
  go_wp2_with fail
  refine (known_is _ F4 _ _ (by decide) _ H4.out false (by decide)).mono ?_; rintro e w4 ⟨rfl, rfl⟩
  go_wp2_with fail
  refine (len_is _ F4 _ _ H4.out 2 (by decide)).mono ?_; rintro e w4 ⟨rfl, rfl⟩
  go_wp2_with fail
  go_ret
  refine ⟨rfl, ?_⟩
  have g2 : ∀ b, F2 b → w.heap.size ≤ b := fun b hb => (f2 b hb).elim (f1 b) (fun h => Nat.le_trans k1.size h)
  have g3 : ∀ b, F3 b → w.heap.size ≤ b := fun b hb => (f3 b hb).elim (g2 b) (fun h => Nat.le_trans (Nat.le_trans k1.size k2.size) h)
  exact ((k1.trans k2 (fun i hi hf => by have := f1 i hf; omega)).trans k3 (fun i hi hf => by have := g2 i hf; omega)).trans k4 (fun i hi hf => by have := g3 i hf; omega)
end Go.Proofs.Ytelgfmhnnecheaa
