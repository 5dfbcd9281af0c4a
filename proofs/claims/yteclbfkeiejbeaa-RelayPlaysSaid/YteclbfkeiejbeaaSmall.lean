/-
  No statement is proved here: one relay of the call's own, its methods as contracts on 'Own1'; 'small' returns true, and turns nothing that was there.
-/
import Derived.Test.YteclbfkeiejbeaaArgs
namespace Go.Proofs.Yteclbfkeiejbeaa
open Go.RowKit Go.Maps

/-- A row of the call's own. -/
def RowOf (e : TypeId) (size : Nat) (v : Value) (n : Nat) (xs : List Value) (w : World) (F : Nat → Prop) : Prop := w.ownsRow 0 e size v n xs ∧ ∀ b, F b ↔ v.ownBlock = some b
theorem RowOf.framed (e : TypeId) (size : Nat) (v : Value) (n : Nat) (xs : List Value) : Framed (RowOf e size v n xs) :=
  ⟨fun _ _ h b hb => (h.1.lt b ((h.2 b).1 hb)).2, fun _ _ _ _ h hk hd => ⟨row_keeps h.1 hk (fun b hb => hd b ((h.2 b).2 hb)), h.2⟩⟩

section
variable {B p : Nat} {w0 w : World} {s : St}
theorem put_acts (hl : s.seen.length < 65536) (a n : Int) (hn : (Lit.int .i64 n).wf = true) (v : ByteArray) (hv : v.size ≤ 65535) {d : Int} (hd : s.putErr = d) {s' : St} (hs : s.put a n v.data.toList = s') :
    Acts Try.prog 12 #[.pointer (some ⟨p, 0, none⟩), .int .i64 a, .int .i64 n, .string v] w (Rel p s) (fun e => e = .returned (.int .i64 d)) (Rel p s') := by
  subst hd hs
  exact fun F hF => put_at hF hl a n hn v hv
theorem get_acts (hl : s.seen.length < 65536) (a n : Int) (hn : (Lit.int .i64 n).wf = true) {x : ByteArray} {d : Int} (hd : s.got n = (x.data.toList, d)) {s' : St} (hs : s.saw ⟨a, false, n, []⟩ = s') :
    Acts Try.prog 14 #[.pointer (some ⟨p, 0, none⟩), .int .i64 a, .int .i64 n] w (Rel p s) (fun e => e = .returned (.tuple #[.string x, .int .i64 d])) (Rel p s') := by
  subst hs
  intro F hF
  refine (get_at hF hl a n hn).mono ?_
  rintro e w' ⟨he, hw⟩
  exact ⟨by rw [he, hd, ← str_of], hw⟩
theorem faithful_acts {s' : St} (hs : { s with ways := [] } = s') :
    Acts Try.prog 11 #[.pointer (some ⟨p, 0, none⟩)] w (Rel p s) (fun e => e = .returned (.tuple #[])) (Rel p s') := by
  subst hs
  exact fun F hF => faithful_at hF
theorem put_own (h : Own1 B w0 w (Rel p s)) (hl : s.seen.length < 65536) (a n : Int) (hn : (Lit.int .i64 n).wf = true) (v : ByteArray) (hv : v.size ≤ 65535) {d : Int} (hd : s.putErr = d) {s' : St} (hs : s.put a n v.data.toList = s') :
    Calls Try.prog 12 #[.pointer (some ⟨p, 0, none⟩), .int .i64 a, .int .i64 n, .string v] w fun e w' => e = .returned (.int .i64 d) ∧ Own1 B w0 w' (Rel p s') := h.acts (put_acts hl a n hn v hv hd hs)
theorem get_own (h : Own1 B w0 w (Rel p s)) (hl : s.seen.length < 65536) (a n : Int) (hn : (Lit.int .i64 n).wf = true) {x : ByteArray} {d : Int} (hd : s.got n = (x.data.toList, d)) {s' : St} (hs : s.saw ⟨a, false, n, []⟩ = s') :
    Calls Try.prog 14 #[.pointer (some ⟨p, 0, none⟩), .int .i64 a, .int .i64 n] w fun e w' => e = .returned (.tuple #[.string x, .int .i64 d]) ∧ Own1 B w0 w' (Rel p s') := h.acts (get_acts hl a n hn hd hs)
theorem has_own (h : Own1 B w0 w (Rel p s)) (n : Int) (hn : (Lit.int .i64 n).wf = true) {x : ByteArray} {t : Bool} (hx : lookD s.kept n = x.data.toList) (ht : (look s.kept n).isSome = t) :
    Calls Try.prog 16 #[.pointer (some ⟨p, 0, none⟩), .int .i64 n] w fun e w' => e = .returned (.tuple #[.string x, .bool t]) ∧ w = w' := by
  refine (has_at h.it n hn).mono ?_
  rintro e w' ⟨he, hw⟩
  exact ⟨by rw [he, hx, ht, ← str_of], hw⟩
theorem view_own (h : Own1 B w0 w (Rel p s)) (hl : s.seen.length ≤ 65536) :
    Calls Try.prog 18 #[.pointer (some ⟨p, 0, none⟩)] w fun e w' => ∃ v, e = .returned v ∧ Own2 B w0 w' (Rel p s) (RowOf 34 4 v s.seen.length (s.seen.flatMap evCells)) := by
  refine (view_at h.it hl).mono ?_
  rintro e w' ⟨v, he, hf⟩
  obtain ⟨hb, hB, F, ho, hF⟩ := h
  refine ⟨v, he, hb.trans (hf.2.1.below hB (fun _ h => h.elim)), Nat.le_trans hB hf.2.1.size, F, fun b => v.ownBlock = some b, (Rel.framed _ _).kept _ _ _ _ ho hf.2.1 (fun _ _ h => h), ⟨hf.1, fun _ => Iff.rfl⟩, hF, fun b hb => Nat.le_trans hB (hf.2.2 b hb), fun b hb hb' => ?_⟩
  have := (Rel.framed _ _).lt _ _ ho b hb
  have := hf.2.2 b hb'
  omega
theorem new_own {a : Option Addr} {len cap : Nat} {zs : List Int} (hs : Src w a len cap 1 (zs.map (.int .i64))) (hm : len ≤ maxLen) (hb : len * 8 ≤ 140737488355328) (hz : ∀ z ∈ zs, z ≤ 9223372036854775807) (hw : Below B w0 w) (hB : B ≤ w.heap.size) :
    Calls Try.prog 10 #[.slice a len cap] w fun e w' => ∃ p, e = .returned (.pointer (some ⟨p, 0, none⟩)) ∧ Own1 B w0 w' (Rel p ⟨[], [], [], zs⟩) := by
  refine (new_at a len cap zs w hs hm hb hz).mono ?_
  rintro e w' ⟨p, he, F, ho, hk, hf⟩
  exact ⟨p, he, hw.trans (hk.below hB (fun _ h => h.elim)), Nat.le_trans hB hk.size, F, ho, fun b hb => Nat.le_trans hB (hf b hb)⟩
end

/-- A slice literal's cells. -/
theorem src_lit (w : World) (xs : List Value) (n : Nat) (t : TypeId) (hn : xs.length = n) (h1 : ∀ u ∈ xs, u.oneCell' = true) : Src (w.alloc (.cells xs.toArray t)) (some ⟨w.heap.size, 0, none⟩) n n 1 xs :=
  ⟨by omega, (fun e => by cases e), (fun ad e j u hu => by cases e; exact cells_new w xs t j u hu), h1⟩

def w7 : List Int := [0, 15, 3, 4, 5, 6, 0]
def t0 : St := ⟨[], [], [], w7⟩
def t1 : St := t0.put 1 5 [97, 98]
def t2 : St := t1.saw ⟨0, false, 5, []⟩
def t3 : St := t2.put 1 6 [99]
def t4 : St := t3.saw ⟨0, false, 5, []⟩
def t5 : St := t4.saw ⟨0, false, 6, []⟩
def t6 : St := t5.saw ⟨0, false, 5, []⟩
def t7 : St := t6.saw ⟨0, false, 5, []⟩
def t8 : St := { t7 with ways := [] }
def t9 : St := t8.put 1 6 [100]
def ta : St := t9.saw ⟨0, false, 6, []⟩

set_option maxRecDepth 100000 in
set_option maxHeartbeats 1000000 in
theorem small_any (w : World) : Calls Try.prog 8 #[] w fun e w' => e = .returned (.bool true) ∧ Below w.heap.size w w' := by
  have hs := src_lit w (w7.map (.int .i64)) 7 3 rfl (by decide)
  have N := Lib.hid (new_own (B := w.heap.size) (w0 := w) hs (by decide) (by decide) (by decide) ((Keeps.refl (fun _ => False) w).alloc _ |>.below (Nat.le_refl _) (fun _ h => h.elim)) (by simp))
  clear hs
  go_enter Try.func8, Try.ntmps8
  go_wp2_with fail
  refine N.out.mono ?_; rintro e w1 ⟨p, rfl, h⟩
  have H := Lib.hid h; clear h N
  go_wp2_with fail
  refine (put_own H.out (by decide) 1 5 (by decide) _ (by decide) (d := 0) (by decide) (s' := t1) rfl).mono ?_; rintro e w2 ⟨rfl, h⟩
  have H1 := Lib.hid h; clear h
  go_wp2_with fail
  refine (get_own H1.out (by decide) 0 5 (by decide) (x := ⟨#[97]⟩) (d := 0) (by decide) (s' := t2) rfl).mono ?_; rintro e w3 ⟨rfl, h⟩
  have H2 := Lib.hid h; clear h
  go_wp2_with fail
  refine (put_own H2.out (by decide) 1 6 (by decide) _ (by decide) (d := 8) (by decide) (s' := t3) rfl).mono ?_; rintro e w4 ⟨rfl, h⟩
  have H3 := Lib.hid h; clear h
  go_wp2_with fail
  refine (get_own H3.out (by decide) 0 5 (by decide) (x := ⟨#[]⟩) (d := 8) (by decide) (s' := t4) rfl).mono ?_; rintro e w5 ⟨rfl, h⟩
  have H4 := Lib.hid h; clear h
  go_wp2_with fail
  refine (get_own H4.out (by decide) 0 6 (by decide) (x := ⟨#[97, 98]⟩) (d := 0) (by decide) (s' := t5) rfl).mono ?_; rintro e w6 ⟨rfl, h⟩
  have H5 := Lib.hid h; clear h
  go_wp2_with fail
  refine (get_own H5.out (by decide) 0 5 (by decide) (x := ⟨#[]⟩) (d := 3) (by decide) (s' := t6) rfl).mono ?_; rintro e w7 ⟨rfl, h⟩
  have H6 := Lib.hid h; clear h
  go_wp2_with fail
  refine (get_own H6.out (by decide) 0 5 (by decide) (x := ⟨#[97, 98]⟩) (d := 0) (by decide) (s' := t7) rfl).mono ?_; rintro e w8 ⟨rfl, h⟩
  have H7 := Lib.hid h; clear h
  go_wp2_with fail
  refine (view_own H7.out (by decide)).mono ?_; rintro e w9 ⟨v, rfl, h⟩
  obtain ⟨g, c, hv⟩ : ∃ g c, v = .slice (some ⟨g, 0, none⟩) 7 c := by
    obtain ⟨F, hr, _⟩ := h.it2
    rcases hr.2 with ⟨_, e⟩ | ⟨g, cap, _, e, _⟩
    · cases e
    · exact ⟨g, cap, e⟩
  subst hv
  have H8 := Lib.hid h; clear h
  go_wp2_with fail
  refine (has_own H8.out.left 6 (by decide) (x := ⟨#[]⟩) (t := false) (by decide) (by decide)).mono ?_; rintro e w' ⟨rfl, rfl⟩
  go_wp2_with fail
  refine (H8.out.acts (RowOf.framed _ _ _ _ _) (faithful_acts (s' := t8) rfl)).mono ?_; rintro e wa ⟨rfl, h⟩
  have H9 := Lib.hid h; clear h
  go_wp2_with fail
  refine (H9.out.acts (RowOf.framed _ _ _ _ _) (put_acts (by decide) 1 6 (by decide) _ (by decide) (d := 0) (by decide) (s' := t9) rfl)).mono ?_; rintro e wb ⟨rfl, h⟩
  have Ha := Lib.hid h; clear h
  go_wp2_with fail
  refine (Ha.out.acts (RowOf.framed _ _ _ _ _) (get_acts (by decide) 0 6 (by decide) (x := ⟨#[100]⟩) (d := 0) (by decide) (s' := ta) rfl)).mono ?_; rintro e wc ⟨rfl, h⟩
  have Hb := Lib.hid h
  obtain ⟨F, hr, _⟩ := h.it2
  clear h
  have e0 : wc.cell? ⟨g, 0, none⟩ = some (.int .i64 1) := hr.cellAt 0 (by decide)
  have e1 : wc.cell? ⟨g, 1, none⟩ = some (.bool true) := hr.cellAt 1 (by decide)
  have e2 : wc.cell? ⟨g, 2, none⟩ = some (.int .i64 5) := hr.cellAt 2 (by decide)
  have e3 : wc.cell? ⟨g, 3, none⟩ = some (.string ⟨#[97, 98]⟩) := hr.cellAt 3 (by decide)
  clear hr
  go_wp2_with fail
  go_ret
  exact ⟨rfl, Hb.out.below⟩
end Go.Proofs.Yteclbfkeiejbeaa
