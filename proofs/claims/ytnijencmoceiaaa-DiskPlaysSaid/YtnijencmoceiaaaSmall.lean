/-
  No statement is proved here: one disk of the call's own, its methods as contracts on 'Own1'; 'small' returns true, and turns nothing that was there.
-/
import Derived.Test.YtnijencmoceiaaaNames
namespace Go.Proofs.Ytnijencmoceiaaa
set_option linter.unusedVariables false
open Go.RowKit Go.Maps

/-- A row of the call's own. -/
def RowOf (e : TypeId) (size : Nat) (v : Value) (n : Nat) (xs : List Value) (w : World) (F : Nat → Prop) : Prop := w.ownsRow 0 e size v n xs ∧ ∀ b, F b ↔ v.ownBlock = some b
theorem RowOf.framed (e : TypeId) (size : Nat) (v : Value) (n : Nat) (xs : List Value) : Framed (RowOf e size v n xs) :=
  ⟨fun _ _ h b hb => (h.1.lt b ((h.2 b).1 hb)).2, fun _ _ _ _ h hk hd => ⟨row_keeps h.1 hk (fun b hb => hd b ((h.2 b).2 hb)), h.2⟩⟩

/-- There is room in the model's own sense. -/
structure Fits (s : St) (n : Nat) : Prop where
  kept : s.kept.length ≤ n
  there : s.there.length ≤ n
  waits : s.waits.length ≤ n
  both : s.kept.length + s.waits.length ≤ n

section
variable {B p : Nat} {w0 w : World} {s : St}
theorem write_acts (hf : Fits s 65535) (a d : ByteArray) (ha : a.size ≤ 65535) (hd : d.size ≤ 65535) {k : Int} (hk : s.writeErr a.data.toList d.data.toList = k) {s' : St} (hs : s.write a.data.toList d.data.toList = s') :
    Acts Try.prog 13 #[.pointer (some ⟨p, 0, none⟩), .string a, .string d] w (Dk p s) (fun e => e = .returned (.int .i64 k)) (Dk p s') := by
  subst hk hs
  exact fun F hF => write_at hF a d ha hd (by have := hf.waits; omega) (by have := hf.there; omega)
theorem rename_acts (hf : Fits s 65535) (a b : ByteArray) (ha : a.size ≤ 65535) (hb : b.size ≤ 65535) {k : Int} (hk : s.askErr a.data.toList = k) {s' : St} (hs : s.asked a.data.toList (.rn a.data.toList b.data.toList) = s') :
    Acts Try.prog 15 #[.pointer (some ⟨p, 0, none⟩), .string a, .string b] w (Dk p s) (fun e => e = .returned (.int .i64 k)) (Dk p s') := by
  subst hk hs
  exact fun F hF => rename_at hF a b ha hb (by have := hf.waits; omega) (by have := hf.there; omega)
theorem remove_acts (hf : Fits s 65535) (a : ByteArray) (ha : a.size ≤ 65535) {k : Int} (hk : s.askErr a.data.toList = k) {s' : St} (hs : s.asked a.data.toList (.rm a.data.toList) = s') :
    Acts Try.prog 17 #[.pointer (some ⟨p, 0, none⟩), .string a] w (Dk p s) (fun e => e = .returned (.int .i64 k)) (Dk p s') := by
  subst hk hs
  exact fun F hF => remove_at hF a ha (by have := hf.waits; omega) (by have := hf.there; omega)
theorem sync_acts {k : Int} (hk : s.syncErr = k) {s' : St} (hs : s.sync = s') :
    Acts Try.prog 19 #[.pointer (some ⟨p, 0, none⟩)] w (Dk p s) (fun e => e = .returned (.int .i64 k)) (Dk p s') := by
  subst hk hs
  exact fun F hF => sync_at hF
theorem arm_acts (n : Int) (hn : n ≤ 9223372036854775807) {s' : St} (hs : { s with armed := n.toNat } = s') :
    Acts Try.prog 21 #[.pointer (some ⟨p, 0, none⟩), .int .i64 n] w (Dk p s) (fun e => e = .returned (.tuple #[])) (Dk p s') := by
  subst hs
  exact fun F hF => arm_at hF n hn
/-- A slice of ints that lies in no block that the object lies in. -/
def Beside (w : World) (B : Nat) (a : Option Addr) (len b off : Nat) (z : Nat → Int) : Prop := Ints w (fun b => B ≤ b) a len b off z
theorem Ints.sub {w : World} {F G : Nat → Prop} {a : Option Addr} {len b off : Nat} {z : Nat → Int} (h : Ints w F a len b off z) (hG : ∀ b, G b → F b) : Ints w G a len b off z :=
  ⟨h.bound, h.head, h.cell, fun h0 hg => h.off h0 (hG _ hg), h.fits, h.past⟩
theorem restart_acts (hf : Fits s 65535) {a : Option Addr} {len b off : Nat} {z : Nat → Int} (cap : Nat) (hz : ∀ F, Dk p s w F → Ints w F a len b off z) {s' : St} (hs : s.restart z = s') :
    Acts Try.prog 23 #[.pointer (some ⟨p, 0, none⟩), .slice a len cap] w (Dk p s) (fun e => e = .returned (.tuple #[])) (Dk p s') := by
  subst hs
  exact fun F hF => restart_at hF a len cap b off z (hz F hF) (by have := hf.both; omega)
theorem ints_nil (w : World) (F : Nat → Prop) : Ints w F none 0 0 0 (fun _ => 0) :=
  ⟨by omega, fun h => by omega, fun j hj => by omega, fun h => by omega, fun j hj => by omega, fun _ _ => rfl⟩

theorem write_own (h : Own1 B w0 w (Dk p s)) (hf : Fits s 65535) (a d : ByteArray) (ha : a.size ≤ 65535) (hd : d.size ≤ 65535) {k : Int} (hk : s.writeErr a.data.toList d.data.toList = k) {s' : St} (hs : s.write a.data.toList d.data.toList = s') :
    Calls Try.prog 13 #[.pointer (some ⟨p, 0, none⟩), .string a, .string d] w fun e w' => e = .returned (.int .i64 k) ∧ Own1 B w0 w' (Dk p s') := h.acts (write_acts hf a d ha hd hk hs)
theorem rename_own (h : Own1 B w0 w (Dk p s)) (hf : Fits s 65535) (a b : ByteArray) (ha : a.size ≤ 65535) (hb : b.size ≤ 65535) {k : Int} (hk : s.askErr a.data.toList = k) {s' : St} (hs : s.asked a.data.toList (.rn a.data.toList b.data.toList) = s') :
    Calls Try.prog 15 #[.pointer (some ⟨p, 0, none⟩), .string a, .string b] w fun e w' => e = .returned (.int .i64 k) ∧ Own1 B w0 w' (Dk p s') := h.acts (rename_acts hf a b ha hb hk hs)
theorem remove_own (h : Own1 B w0 w (Dk p s)) (hf : Fits s 65535) (a : ByteArray) (ha : a.size ≤ 65535) {k : Int} (hk : s.askErr a.data.toList = k) {s' : St} (hs : s.asked a.data.toList (.rm a.data.toList) = s') :
    Calls Try.prog 17 #[.pointer (some ⟨p, 0, none⟩), .string a] w fun e w' => e = .returned (.int .i64 k) ∧ Own1 B w0 w' (Dk p s') := h.acts (remove_acts hf a ha hk hs)
theorem sync_own (h : Own1 B w0 w (Dk p s)) {k : Int} (hk : s.syncErr = k) {s' : St} (hs : s.sync = s') :
    Calls Try.prog 19 #[.pointer (some ⟨p, 0, none⟩)] w fun e w' => e = .returned (.int .i64 k) ∧ Own1 B w0 w' (Dk p s') := h.acts (sync_acts hk hs)
theorem arm_own (h : Own1 B w0 w (Dk p s)) (n : Int) (hn : n ≤ 9223372036854775807) {s' : St} (hs : { s with armed := n.toNat } = s') :
    Calls Try.prog 21 #[.pointer (some ⟨p, 0, none⟩), .int .i64 n] w fun e w' => e = .returned (.tuple #[]) ∧ Own1 B w0 w' (Dk p s') := h.acts (arm_acts n hn hs)
theorem restart_own (h : Own1 B w0 w (Dk p s)) (hf : Fits s 65535) {a : Option Addr} {len b off : Nat} {z : Nat → Int} (cap : Nat) (hz : Ints w (fun b => B ≤ b) a len b off z) {s' : St} (hs : s.restart z = s') :
    Calls Try.prog 23 #[.pointer (some ⟨p, 0, none⟩), .slice a len cap] w fun e w' => e = .returned (.tuple #[]) ∧ Own1 B w0 w' (Dk p s') := by
  obtain ⟨hb, hB, F, ho, hF⟩ := h
  subst hs
  refine (restart_at ho a len cap b off z (hz.sub hF) (by have := hf.both; omega)).mono ?_
  rintro e w' ⟨hr, F', h', hk, hf'⟩
  exact ⟨hr, hb.trans (hk.below hB hF), Nat.le_trans hB hk.size, F', h', fun b hb => (hf' b hb).elim (hF b) (fun h => Nat.le_trans hB h)⟩
theorem restart_lit (h : Own1 B w0 w (Dk p s)) (hf : Fits s 65535) (zs : List Int) (n : Nat) (hn : zs.length = n) (hz : ∀ z ∈ zs, z ≤ 9223372036854775807) (hl : n ≤ 9223372036854775807) (cs : Array Value) (hc : cs = (zs.map (Value.int .i64)).toArray) {s' : St} (hs : s.restart (fun j => zs.getD j 0) = s') :
    Calls Try.prog 23 #[.pointer (some ⟨p, 0, none⟩), .slice (some ⟨w.heap.size, 0, none⟩) n n] (w.alloc (.cells cs 3)) fun e w' => e = .returned (.tuple #[]) ∧ Own1 B w0 w' (Dk p s') := by
  subst hc hn hs
  obtain ⟨hb, hB, F, ho, hF⟩ := h
  have ka : Keeps (fun _ => False) w (w.alloc (.cells (zs.map (Value.int .i64)).toArray 3)) := (Keeps.refl _ w).alloc _
  have ho' := (Dk.framed p s).kept _ _ _ _ ho ka (fun _ _ h => h)
  have hlt := (Dk.framed p s).lt _ _ ho
  have hi : Ints (w.alloc (.cells (zs.map (Value.int .i64)).toArray 3)) F (some ⟨w.heap.size, 0, none⟩) zs.length w.heap.size 0 (fun j => zs.getD j 0) :=
    ⟨hl, fun _ => rfl, fun j hj => by
        rw [Nat.zero_add, cells_new w (zs.map (Value.int .i64)) 3 j (.int .i64 (zs.getD j 0)) (by simp [List.getD, hj])],
      fun _ hf' => Nat.lt_irrefl _ (hlt _ hf'), fun j hj => by
        have : zs.getD j 0 = zs[j] := by simp [List.getD, hj]
        show zs.getD j 0 ≤ _
        rw [this]; exact hz _ (List.getElem_mem hj),
      fun j hj => by simp [List.getD, List.getElem?_eq_none hj]⟩
  refine (restart_at ho' _ zs.length zs.length w.heap.size 0 _ hi (by have := hf.both; omega)).mono ?_
  rintro e w' ⟨hr, F', h', hk, hf'⟩
  have hk0 : Keeps F w w' := (ka.mono (fun _ _ h => h.elim)).trans hk (fun _ _ h => h)
  exact ⟨hr, hb.trans (hk0.below hB hF), Nat.le_trans hB hk0.size, F', h', fun b hb => (hf' b hb).elim (hF b) (fun h => Nat.le_trans hB (Nat.le_trans ka.size h))⟩
theorem down_own (h : ∃ F, Dk p s w F) {d : Bool} (hd : s.down = d) : Calls Try.prog 30 #[.pointer (some ⟨p, 0, none⟩)] w fun e w' => e = .returned (.bool d) ∧ w = w' := by subst hd; exact down_at h
theorem pending_own (h : ∃ F, Dk p s w F) {n : Nat} (hn : s.waits.length = n) : Calls Try.prog 31 #[.pointer (some ⟨p, 0, none⟩)] w fun e w' => e = .returned (.int .i64 n) ∧ w = w' := by subst hn; exact pending_at h
theorem read_own (h : ∃ F, Dk p s w F) (a : ByteArray) (ha : a.size ≤ 65535) {x : ByteArray} {t : Bool} (hx : s.read a.data.toList = (x.data.toList, t)) :
    Calls Try.prog 25 #[.pointer (some ⟨p, 0, none⟩), .string a] w fun e w' => e = .returned (.tuple #[.string x, .bool t]) ∧ w = w' := read_at h a (long_ok ha) hx
theorem names_own (h : Own1 B w0 w (Dk p s)) (hf : Fits s 65535) {ns : List Str} (hn : s.names = ns) :
    Calls Try.prog 28 #[.pointer (some ⟨p, 0, none⟩)] w fun e w' => ∃ v, e = .returned v ∧ Own2 B w0 w' (Dk p s) (RowOf 9 1 v ns.length (ns.map str)) := by
  subst hn
  refine (names_at h.it (by have := hf.there; omega)).mono ?_
  rintro e w' ⟨v, he, hf⟩
  obtain ⟨hb, hB, F, ho, hF⟩ := h
  refine ⟨v, he, hb.trans (hf.2.1.below hB (fun _ h => h.elim)), Nat.le_trans hB hf.2.1.size, F, fun b => v.ownBlock = some b, (Dk.framed _ _).kept _ _ _ _ ho hf.2.1 (fun _ _ h => h), ⟨hf.1, fun _ => Iff.rfl⟩, hF, fun b hb => Nat.le_trans hB (hf.2.2 b hb), fun b hb hb' => ?_⟩
  have := (Dk.framed _ _).lt _ _ ho b hb
  have := hf.2.2 b hb'
  omega
theorem new_own (n : Int) (hn : n ≤ 9223372036854775807) {m : Nat} (hm : n.toNat = m) (hw : Below B w0 w) (hB : B ≤ w.heap.size) :
    Calls Try.prog 11 #[.int .i64 n] w fun e w' => ∃ p, e = .returned (.pointer (some ⟨p, 0, none⟩)) ∧ Own1 B w0 w' (Dk p ⟨m, [], [], [], false, 0⟩) := by
  subst hm
  refine (new_at n hn w).mono ?_
  rintro e w' ⟨p, he, F, ho, hk, hf⟩
  exact ⟨p, he, hw.trans (hk.below hB (fun _ h => h.elim)), Nat.le_trans hB hk.size, F, ho, fun b hb => Nat.le_trans hB (hf b hb)⟩
end

def kp (l : List Int) (j : Nat) : Int := l.getD j 0
def t0 : St := ⟨9, [], [], [], false, 0⟩
def t1 : St := t0.write [97] [49, 50, 51]
def t2 : St := t1.sync
def t3 : St := t2.write [97] [52, 53, 54, 55]
def t4 : St := t3.asked [97] (.rn [97] [98])
def t5 : St := t4.restart (kp [4, 1])
def t6 : St := { t5 with armed := 2 }
def t7 : St := t6.write [99] [49]
def t8 : St := t7.sync
def t9 : St := t8.restart (fun _ => 0)

theorem fits_of {s : St} (h : (decide (s.kept.length ≤ 4) && decide (s.there.length ≤ 4) && decide (s.waits.length ≤ 4)) = true) : Fits s 65535 := by
  simp at h
  exact ⟨by omega, by omega, by omega, by omega⟩

theorem e1 : t0.writeErr [97] [49, 50, 51] = 0 := by decide
theorem f1 : t0.write [97] [49, 50, 51] = t1 := rfl
theorem e2 : t1.syncErr = 0 := by decide
theorem f2 : t1.sync = t2 := rfl
theorem e3 : t2.writeErr [97] [52, 53, 54, 55] = 0 := by decide
theorem f3 : t2.write [97] [52, 53, 54, 55] = t3 := rfl
theorem e4 : t3.askErr [97] = 0 := by decide
theorem f4 : t3.asked [97] (.rn [97] [98]) = t4 := rfl
theorem g4 : t4.waits.length = 2 := by decide
theorem f5 : t4.restart (fun j => [4, 1].getD j 0) = t5 := rfl
theorem e5 : t5.read [98] = ([52, 53], true) := by decide
theorem e5a : t5.writeErr [99] [49, 50, 51, 52, 53, 54, 55, 56] = 2 := by decide
theorem f5a : t5.write [99] [49, 50, 51, 52, 53, 54, 55, 56] = t5 := rfl
theorem e5b : t5.askErr [97] = 3 := by decide
theorem f5b : t5.asked [97] (.rm [97]) = t5 := rfl
theorem f6 : { t5 with armed := (2 : Int).toNat } = t6 := rfl
theorem e7 : t6.writeErr [99] [49] = 0 := by decide
theorem f7 : t6.write [99] [49] = t7 := rfl
theorem e8 : t7.syncErr = 14 := by decide
theorem f8 : t7.sync = t8 := rfl
theorem g8 : t8.down = true := by decide
theorem h8 : t8.read [98] = ([], false) := by decide
theorem f9 : t8.restart (fun _ => 0) = t9 := rfl
theorem g9 : t9.names = [[98]] := by decide
theorem fit0 : Fits t0 65535 := fits_of (by decide)
theorem fit2 : Fits t2 65535 := fits_of (by decide)
theorem fit3 : Fits t3 65535 := fits_of (by decide)
theorem fit4 : Fits t4 65535 := fits_of (by decide)
theorem fit5 : Fits t5 65535 := fits_of (by decide)
theorem fit6 : Fits t6 65535 := fits_of (by decide)
theorem fit8 : Fits t8 65535 := fits_of (by decide)
theorem fit9 : Fits t9 65535 := fits_of (by decide)

set_option maxRecDepth 100000 in
set_option maxHeartbeats 1000000 in
theorem small_any (w : World) : Calls Try.prog 9 #[] w fun e w' => e = .returned (.bool true) ∧ Below w.heap.size w w' := by
  have N := Lib.hid (new_own (B := w.heap.size) (w0 := w) 9 (by decide) (m := 9) rfl (Below.refl _ w) (Nat.le_refl _))
  go_enter Try.func9, Try.ntmps9
  go_wp2_with fail
  refine N.out.mono ?_; rintro e w1 ⟨p, rfl, h⟩
  have H : Hid (Own1 w.heap.size w w1 (Dk p t0)) := Lib.hid h; clear h N
  go_wp2_with fail
  refine (write_own H.out fit0 ⟨#[97]⟩ ⟨#[49, 50, 51]⟩ (by decide) (by decide) e1 f1).mono ?_; rintro e w2 ⟨rfl, h⟩
  have H1 := Lib.hid h; clear h
  go_wp2_with fail
  refine (sync_own H1.out e2 f2).mono ?_; rintro e w3 ⟨rfl, h⟩
  have H2 := Lib.hid h; clear h
  go_wp2_with fail
  refine (write_own H2.out fit2 ⟨#[97]⟩ ⟨#[52, 53, 54, 55]⟩ (by decide) (by decide) e3 f3).mono ?_; rintro e w4 ⟨rfl, h⟩
  have H3 := Lib.hid h; clear h
  go_wp2_with fail
  refine (rename_own H3.out fit3 ⟨#[97]⟩ ⟨#[98]⟩ (by decide) (by decide) e4 f4).mono ?_; rintro e w5 ⟨rfl, h⟩
  have H4 := Lib.hid h; clear h
  go_wp2_with fail
  refine (pending_own H4.out.it g4).mono ?_; rintro e w' ⟨rfl, rfl⟩
  go_wp2_with fail
  refine (restart_lit H4.out fit4 [4, 1] 2 rfl (by decide) (by decide) _ rfl f5).mono ?_; rintro e w6 ⟨rfl, h⟩
  have H5 := Lib.hid h; clear h
  go_wp2_with fail
  refine (read_own H5.out.it ⟨#[98]⟩ (by decide) (x := ⟨#[52, 53]⟩) (t := true) e5).mono ?_; rintro e w' ⟨rfl, rfl⟩
  go_wp2_with fail
  refine (write_own H5.out fit5 ⟨#[99]⟩ ⟨#[49, 50, 51, 52, 53, 54, 55, 56]⟩ (by decide) (by decide) e5a f5a).mono ?_; rintro e w7 ⟨rfl, h⟩
  have H5' := Lib.hid h; clear h
  go_wp2_with fail
  refine (remove_own H5'.out fit5 ⟨#[97]⟩ (by decide) e5b f5b).mono ?_; rintro e w8 ⟨rfl, h⟩
  have H5'' := Lib.hid h; clear h
  go_wp2_with fail
  refine (arm_own H5''.out 2 (by decide) f6).mono ?_; rintro e w9 ⟨rfl, h⟩
  have H6 := Lib.hid h; clear h
  go_wp2_with fail
  refine (write_own H6.out fit6 ⟨#[99]⟩ ⟨#[49]⟩ (by decide) (by decide) e7 f7).mono ?_; rintro e wa ⟨rfl, h⟩
  have H7 := Lib.hid h; clear h
  go_wp2_with fail
  refine (sync_own H7.out e8 f8).mono ?_; rintro e wb ⟨rfl, h⟩
  have H8 := Lib.hid h; clear h
  go_wp2_with fail
  refine (down_own H8.out.it g8).mono ?_; rintro e w' ⟨rfl, rfl⟩
  go_wp2_with fail
  refine (read_own H8.out.it ⟨#[98]⟩ (by decide) (x := ⟨#[]⟩) (t := false) h8).mono ?_; rintro e w' ⟨rfl, rfl⟩
  go_wp2_with fail
  refine (restart_own H8.out fit8 0 (ints_nil _ _) f9).mono ?_; rintro e wc ⟨rfl, h⟩
  have H9 := Lib.hid h; clear h
  go_wp2_with fail
  refine (names_own H9.out fit9 g9).mono ?_; rintro e wd ⟨v, rfl, h⟩
  obtain ⟨F, hr, _⟩ := h.it2
  obtain ⟨g, c, hv⟩ : ∃ g c, v = .slice (some ⟨g, 0, none⟩) 1 c := by
    rcases hr.2 with ⟨_, e⟩ | ⟨g, cap, _, e, _⟩
    · cases e
    · exact ⟨g, cap, e⟩
  subst hv
  have e0 : wd.cell? ⟨g, 0, none⟩ = some (.string ⟨#[98]⟩) := hr.cellAt 0 (by decide)
  have Ha := Lib.hid h; clear h hr
  go_wp2_with fail
  go_ret
  exact ⟨rfl, Ha.out.below⟩
end Go.Proofs.Ytnijencmoceiaaa
