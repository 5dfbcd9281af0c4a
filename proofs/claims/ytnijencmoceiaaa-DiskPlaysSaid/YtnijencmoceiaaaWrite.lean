/-
  No statement is proved here: 'Write' of a disk, as a contract.
-/
import Derived.Test.YtnijencmoceiaaaOps
import Derived.Maps.RangeWalk
namespace Go.Proofs.Ytnijencmoceiaaa
open Go.RowKit Go.Maps

/-- How much the files have that came so far, but one. -/
def summed (K : Files) (a : Str) (left : Lit → Bool) : Nat := (K.map (fun p => if p.1 = a ∨ left (.string p.1) = true then 0 else p.2.length)).sum
theorem summed_cons (p : Str × Str) (K : Files) (a : Str) (left : Lit → Bool) : summed (p :: K) a left = (if p.1 = a ∨ left (.string p.1) = true then 0 else p.2.length) + summed K a left := by simp [summed]
theorem summed_zero (K : Files) (a : Str) (left : Lit → Bool) (h : ∀ p ∈ K, left (.string p.1) = true) : summed K a left = 0 := by
  induction K with
  | nil => rfl
  | cons p K ih => rw [summed_cons, if_pos (.inr (h p (by simp))), ih (fun q hq => h q (by simp [hq]))]
theorem summed_le (K : Files) (a : Str) (left : Lit → Bool) : summed K a left ≤ total K := by
  induction K with
  | nil => simp [summed]
  | cons p K ih => rw [summed_cons, total_cons]; split <;> omega
theorem summed_done (K : Files) (a : Str) (left : Lit → Bool) (h : ∀ k, left k = false) : summed K a left = total (dropF K a) := by
  induction K with
  | nil => rfl
  | cons p K ih =>
    rw [summed_cons, ih]
    unfold dropF
    rw [List.filter_cons]
    by_cases e : p.1 = a
    · rw [if_pos (.inl e)]; simp [e]
    · rw [if_neg (by rw [h]; simp [e])]
      have : (!(p.1 == a)) = true := by simp [e]
      rw [if_pos this, total_cons]
theorem summed_same (K : Files) (a x : Str) (left : Lit → Bool) (h : ∀ p ∈ K, p.1 ≠ x) : summed K a (fun z => left z && !z.sameKey (.string x)) = summed K a left := by
  induction K with
  | nil => rfl
  | cons p K ih =>
    rw [summed_cons, summed_cons, ih (fun q hq => h q (by simp [hq]))]
    have : (p.1 == x) = false := by simpa using h p (by simp)
    simp only [sameKey_str, this, Bool.not_false, Bool.and_true]
theorem summed_step : ∀ {K : Files}, Rising K → ∀ {x c : Str}, look K x = some c → ∀ (a : Str) (left : Lit → Bool), left (.string x) = true →
    summed K a (fun z => left z && !z.sameKey (.string x)) = summed K a left + if x = a then 0 else c.length
  | [], _, _, _, h, _, _, _ => by simp [look] at h
  | p :: K, hr, x, c, h, a, left, hl => by
    obtain ⟨h1, h2⟩ := List.pairwise_cons.1 hr
    rw [summed_cons, summed_cons]
    by_cases e : p.1 = x
    · subst e
      have hc : c = p.2 := by simpa [look] using h.symm
      subst hc
      rw [summed_same K a p.1 left (fun q hq e => by have := h1 q hq; rw [e, before_irrefl] at this; cases this)]
      simp only [sameKey_str, beq_self_eq_true, Bool.not_true, Bool.and_false, hl, or_true, if_true, Nat.zero_add]
      by_cases e2 : p.1 = a <;> simp [e2]; omega
    · rw [look_cons_ne e] at h
      rw [summed_step h2 h a left hl]
      have : (p.1 == x) = false := by simpa using e
      simp only [sameKey_str, this, Bool.not_false, Bool.and_true]
      omega
theorem look_of_atKey {K : Files} {x c : Str} (h : ∀ z : DataW Unit, (datum K).atKey (.string x) z = .lit (.string c)) : look K x = some c := by
  cases hl : look K x with
  | none =>
    have := h .nil
    rw [atKey_of_not_has (by rw [has_datum, hl]; rfl)] at this
    cases this
  | some d =>
    have := h .nil
    rw [atKey_datum_some hl] at this
    rw [Lit.string.inj (DataW.lit.inj this)]
theorem total_le {K : Files} (h : Short K) : total K ≤ K.length * 65535 := by
  induction K with
  | nil => simp [total]
  | cons p K ih =>
    rw [total_cons, List.length_cons]
    have h1 := (h p (by simp)).2
    have h2 := ih (fun q hq => h q (by simp [hq]))
    omega

/-- Is there room? -/
def St.full (s : St) (a d : Str) : Bool := decide (s.room < total (putF s.there a d))
def St.write (s : St) (a d : Str) : St := if s.down then s else if s.full a d then s else s.wait (.wr a d)
def St.writeErr (s : St) (a d : Str) : Int := if s.down then 14 else if s.full a d then 2 else s.err

set_option maxRecDepth 100000 in
set_option maxHeartbeats 1000000 in
theorem write_at {p : Nat} {s : St} {w : World} {F : Nat → Prop} (h : Dk p s w F) (a d : ByteArray) (ha : a.size ≤ 65535) (hd : d.size ≤ 65535) (hl : s.waits.length < 65536) (hK : s.there.length < 65536) :
    Calls Try.prog 13 #[.pointer (some ⟨p, 0, none⟩), .string a, .string d] w fun e w' => e = .returned (.int .i64 (s.writeErr a.data.toList d.data.toList)) ∧ Turns w F w' (Dk p (s.write a.data.toList d.data.toList)) := by
  have R0 := Lib.hid (Turns.refl h)
  have HD := Lib.hid h
  have GG := Lib.hid h.good
  obtain ⟨t, ht⟩ : ∃ t, t = s.down := ⟨_, rfl⟩
  obtain ⟨mk, mt, pv, ho, -⟩ := h
  have c4 := ho.cell (i := 4) rfl
  rw [← ht] at c4
  cases t with
  | true =>
    have E1 : Hid (s.writeErr a.data.toList d.data.toList = 14 ∧ s.write a.data.toList d.data.toList = s) := Lib.hid (by unfold St.writeErr St.write; rw [← ht]; exact ⟨rfl, rfl⟩)
    clear ho ht HD
    go_enter Try.func13, Try.ntmps13
    go_wp2_with fail
    go_ret
    exact ⟨ret_int E1.out.1.symm, by rw [E1.out.2]; exact R0.out⟩
  | false =>
    have hown : w.ownsMap Try.prog 9 (plainElem Try.prog 9) mt s.there.length (datum s.there) := ho.part (i := 2) rfl
    have c2 := ho.cell (i := 2) rfl
    have c0 := ho.cell (i := 0) rfl
    have hp := ho.plt
    have ev : Hid ((Deed.wr a.data.toList d.data.toList).val = .iface 61 (.agg #[.string a, .string d])) := Lib.hid (by simp [Deed.val, Deed.ty, Deed.recv, ← str_of])
    have hT : Hid (total s.there ≤ 4295000000) := Lib.hid (by have := total_le GG.out.st; omega)
    have SL : Hid ((Deed.wr a.data.toList d.data.toList).short ∧ s.waits.length < 65536 ∧ s.there.length < 65536) := Lib.hid ⟨⟨by simpa using ha, by simpa using hd⟩, hl, hK⟩
    have E1 : Hid (s.writeErr a.data.toList d.data.toList = (if s.full a.data.toList d.data.toList then 2 else s.err) ∧ s.write a.data.toList d.data.toList = if s.full a.data.toList d.data.toList then s else s.wait (.wr a.data.toList d.data.toList)) := Lib.hid (by unfold St.writeErr St.write; rw [← ht]; exact ⟨rfl, rfl⟩)
    have hdb : d.size ≤ 65535 := hd
    clear ho ht hl hK ha hd
    go_enter Try.func13, Try.ntmps13
    go_wp2_with (at_range; refine wpList_range_own _ rfl _ 55 rfl 9 9 key9 Try.underlying55 _ mt _ (datum s.there) rfl hown ?_; intro w0 hrg0 hg0 hs0)
    go_frame
    have K0 : Hid (Keeps (fun _ => False) w w0) := Lib.hid (Keeps.grown hg0 (fun _ e => by cases e))
    have RT : Hid (Rising s.there) := Lib.hid GG.out.rt
    clear hg0 hs0 c2 hown
    go_loopw [7] (fun n wr => ∃ (left : Lit → Bool) (cnt N : Nat), wr.ranges Try.prog 9 (plainElem Try.prog 9) mt w.heap.size s.there.length (datum s.there) left cnt ∧ n = .int .i64 N ∧ N = d.size + summed s.there a.data.toList left ∧ Keeps (fun _ => False) w wr) (fun _ wr => wr.rangeLeft mt w.heap.size)
    case atStart =>
      exact ⟨_, _, d.size, hrg0, rfl, by rw [summed_zero _ _ _ (fun q hq => by rw [has_datum, look_of_mem RT.out hq]; rfl)]; rfl, K0.out⟩
    case round =>
      obtain ⟨left, cnt, N, hrg, rfl, hN0, hk⟩ := hrel
      have HK := Lib.hid hk
      have HN := Lib.hid hN0
      have hNb : N ≤ 4295065535 := by have := summed_le s.there a.data.toList left; have := hT.out; omega
      clear hk hN0
      go_wp2_with (at_next; refine wpList_next_ranges _ rfl _ rfl 9 key9 (plainElem Try.prog 9) Value.string Value.string (fun key kl hk => by obtain ⟨x, hx, _⟩ := Go.WideMaps.string_of_keyOf Try.underlying9 hk; exact ⟨x, hx⟩) (fun v y hv => by obtain ⟨c, rfl, _⟩ := plainElem_string_inv Try.underlying9 hv; exact ⟨c, rfl⟩) mt w.heap.size _ _ _ _ rfl hrg ?_ ?_)
      · intro hc0 hl0
        have hN : N = total (putF s.there a.data.toList d.data.toList) := by rw [HN.out, summed_done _ _ _ hl0, total_putF]; simp; omega
        obtain ⟨F1, hF1⟩ : ∃ F1, Dk p s wr F1 ∧ F1 = F := ⟨F, (Dk.framed p s).kept _ _ _ _ HD.out HK.out (fun _ _ h => h), rfl⟩
        have c0 : wr.cell? ⟨p, 0, none⟩ = some (.int .i64 s.room) := by obtain ⟨⟨mk, mt, pv, ho, -⟩, -⟩ := hF1; exact ho.cell (i := 0) rfl
        have hW := wait_at hF1.1 (.wr a.data.toList d.data.toList) SL.out.1 SL.out.2.1 SL.out.2.2
        rw [ev.out] at hW
        have HW := Lib.hid hW
        have EF := Lib.hid hF1.2
        have hf : s.full a.data.toList d.data.toList = decide (s.room < N) := by rw [hN]; rfl
        rw [hf] at E1
        have hgd := GG.out.room
        clear hN hF1 hW hf hl0 hc0 hrg hp HN
        by_cases hlt : s.room < N
        · simp only [hlt, decide_true, if_true] at E1
          go_wp2_with fail
          go_ret
          exact ⟨ret_int E1.out.1.symm, by rw [E1.out.2]; exact R0.out.more (Dk.framed _ _) HK.out⟩
        · simp only [hlt, decide_false] at E1
          go_wp2_with fail
          refine HW.out.mono ?_; rintro e w' ⟨rfl, ht⟩
          have HT := Lib.hid ht
          clear ht HW
          go_wp2_with fail
          go_ret
          exact ⟨ret_int E1.out.1.symm, by rw [E1.out.2]; exact Turns.chain (HK.out.mono (fun _ _ h => h.elim)) (fun b hb => .inl (by rw [← EF.out]; exact hb)) HT.out⟩
      · intro x c kl yd yp w2 cnt2 hkey hlk hv hat hrg2 hlt hg2 hs2 hen
        obtain ⟨x', hx', rfl, -⟩ := Go.WideMaps.string_of_keyOf Try.underlying9 hkey
        obtain rfl := Value.string.inj hx'
        obtain ⟨c', hc', hy, -⟩ := plainElem_string_inv Try.underlying9 hv
        obtain rfl := Value.string.inj hc'
        obtain ⟨rfl, rfl⟩ := Prod.mk.injEq _ _ _ _ ▸ hy
        have hst := Lib.hid (summed_step RT.out (look_of_atKey hat) a.data.toList left hlk)
        have hcl : c.size ≤ 65535 := by have := (GG.out.st _ (look_mem (look_of_atKey hat))).2; simpa using this
        have K2 : Hid (Keeps (fun _ => False) w w2) := Lib.hid (HK.out.trans (Keeps.grown (F := fun b => b = w.heap.size) hg2 (fun k e _ => (Option.some.inj e).symm)) (fun i hi e => by omega))
        have L1 := Lib.hid (hrg.left_eq)
        have L2 := Lib.hid (hrg2.left_eq)
        have HL := Lib.hid hlt
        clear hkey hlk hv hat hlt hg2 hs2 hx' hc' hrg
        by_cases e : x = a
        · have HE : Hid (summed s.there a.data.toList (fun z => left z && !z.sameKey (.string x.data.toList)) = summed s.there a.data.toList left) := Lib.hid (by rw [hst.out, if_pos (by rw [e]), Nat.add_zero])
          have he : (x.toList == a.toList) = true := by rw [e]; exact beq_self_eq_true _
          clear e hst
          go_wp2
          go_roundw
          case rel => exact ⟨_, cnt2, N, hrg2, rfl, by rw [HN.out, HE.out], K2.out⟩
          case measure => rw [L1.out, L2.out]; exact HL.out
        · have HE : Hid (summed s.there a.data.toList (fun z => left z && !z.sameKey (.string x.data.toList)) = summed s.there a.data.toList left + c.size) := Lib.hid (by rw [hst.out, if_neg (fun h => e (letters_inj h))]; simp)
          have he : (x.toList == a.toList) = false := by rw [ByteArray.toList_eq, ByteArray.toList_eq]; simpa using fun h => e (letters_inj (congrArg Array.toList h))
          clear e hst
          go_wp2
          go_roundw
          case rel => exact ⟨_, cnt2, N + c.size, hrg2, by go_num, by rw [HN.out, HE.out]; omega, K2.out⟩
          case measure => rw [L1.out, L2.out]; exact HL.out
end Go.Proofs.Ytnijencmoceiaaa
