/-
  No statement is proved here: what 'see' of a relay does: it notes the event, and tells the way.
-/
import Derived.Test.YteclbfkeiejbeaaRel
import Derived.Deep.RegionLaw
import Derived.Deep.Cut
namespace Go.Proofs.Yteclbfkeiejbeaa
open Go.RowKit Go.Maps

/-- append onto a row of the call's own, as one step of a region that draws. -/
theorem step_append_own {P : Program} {ops : Array Oper} {o : Oper} {a : Act} {w : World} {K : Act → World → Prop} {Q : Exit → Act → World → Prop} {E : Prop} (hgd : o.guard = none) (s x : Operand) (t : TypeId)
    (ho : o.op = .call { callee := .builtin .append, args := #[s, x], argTypes := #[t, t] })
    (e : TypeId) (i : TypeInfo) (z : Value) (size bytes : Nat) (ht : P.underlying t = some (.slice e)) (hi : P.info? e = some i) (hz : i.zero = some z)
    (hsize : i.size = size) (hby : i.bytes = bytes) (hzs : z.cells.size = size) (hsz : 0 < size)
    (v : Value) (n : Nat) (xs : List Value) (hs : a.eval s = v) (hown : w.ownsRow 0 e size v n xs)
    (ad : Addr) (m c : Nat) (news : List Value) (hx : a.eval x = .slice (some ad) m c) (hl : news.length = m * size) (hnews : ∀ j u, news[j]? = some u → w.cell? (ad.add j) = some u) (h1 : ∀ u ∈ news, u.oneCell' = true)
    (h63 : n + m ≤ maxLen) (hbytes : (n + m) * bytes ≤ 140737488355328)
    (h : ∀ v' w', w'.ownsRow 0 e size v' (n + m) (xs ++ news) → w.grownBy w' v.ownBlock → (v'.ownBlock = v.ownBlock ∨ v'.ownBlock = some w.heap.size) → K (a.put o.dst v') w') :
    if Region.wanted o (yielded ops a.tmps) = true then Oper.wp P o a w K Q else E := by
  have hw : Region.wanted o (yielded ops a.tmps) = true := by simp [Region.wanted, hgd]
  rw [if_pos hw]
  obtain ⟨v', w', hr, h2, h3, h4, h5⟩ := run_append_own_at (P := P) w 0 t o.type e i z size bytes ht hi hz hsize hby hzs hsz v n xs hown ad m c news hl hnews h1 h63 hbytes (Nat.zero_le _)
  unfold Oper.wp execOp
  simp only [ho, resolve, invoke, builtin, Sem.run_bind, Sem.run_pure, Result.andThen_ok, List.map_toArray, List.map_cons, List.map_nil, hs, hx, hr]
  exact h v' w' h2 h3 h5

/-- The cells of what has just been made. -/
theorem cells_new (w : World) (xs : List Value) (t : TypeId) : ∀ j u, xs[j]? = some u → (w.alloc (.cells xs.toArray t)).cell? ((⟨w.heap.size, 0, none⟩ : Addr).add j) = some u := by
  intro j u hu
  rw [Addr.add_lit]
  unfold World.cell?
  rw [show (w.alloc (.cells xs.toArray t)).heap[(⟨w.heap.size, 0 + j, none⟩ : Addr).block]? = some (.cells xs.toArray t) from heap_alloc_new w _]
  simpa using hu

/-- A row, read at an index. -/
theorem row_at {w : World} {e : TypeId} {v : Value} {n : Nat} {xs : List Value} (h : w.ownsRow 0 e 1 v n xs) {j : Nat} (hj : j < n) : ∃ g c, v = .slice (some ⟨g, 0, none⟩) n c ∧ w.cell? ⟨g, j, none⟩ = xs[j]? := by
  rcases h.2 with ⟨_, h2⟩ | ⟨g, cap, cur, hv, hb, r⟩
  · omega
  · have h' : w.ownsRow 0 e 1 (.slice (some ⟨g, 0, none⟩) n cap) n xs := ⟨h.1, .inr ⟨g, cap, cur, rfl, hb, r⟩⟩
    exact ⟨g, cap, hv, h'.cellAt j (by omega)⟩

theorem run_max0 (z : Int) (w : World) (ty : TypeId) : (Builtin.max_ #[3, 3] ty #[.int .i64 0, .int .i64 z]).run Try.prog w = .ok (.int .i64 (z.toNat : Int)) w := by
  simp [Builtin.max_, Builtin.max2]
  omega

set_option maxRecDepth 100000 in
set_option maxHeartbeats 1000000 in
theorem see_walk (p n c : Nat) (a : Option Addr) (vs : List Value) (Cs : List Part) (xs zs : List Value) (sz : Value) (n3 : Nat) (v0 v1 v2 v3 : Value) (h1 : ∀ u ∈ [v0, v1, v2, v3], u.oneCell' = true) (w : World) (F : Nat → Prop) (h : Obj 49 p vs Cs w F)
    (hv2 : vs[2]? = some (.slice a n c)) (hv3 : vs[3]? = some sz) (hC2 : Cs[2]? = some (Part.row 34 4 (.slice a n c) n xs)) (hC3 : Cs[3]? = some (Part.row 3 1 sz n3 zs)) (hn : n < 65536)
    (wy : Nat) (hw0 : n3 = 0 → wy = 0) (hw1 : n3 ≠ 0 → ∃ z : Int, zs[n % n3]? = some (.int .i64 z) ∧ wy = z.toNat) :
    Calls Try.prog 21 #[.pointer (some ⟨p, 0, none⟩), .agg #[v0, v1, v2, v3]] w fun e w' => e = .returned (.int .i64 wy) ∧ ∃ v', Turns w F w' (Obj 49 p (vs.set 2 v') (Cs.set 2 (Part.row 34 4 v' (n + 1) (xs ++ [v0, v1, v2, v3])))) := by
  have hrow : w.ownsRow 0 34 4 (.slice a n c) n xs := h.part hC2
  have hrow' := ((hrow.alloc (.cells #[v0, v1, v2, v3] 34)).alloc (.cells #[v0, v1, v2, v3] 34)).drew
  have hnews : ∀ (j : Nat) (u : Value), [v0, v1, v2, v3][j]? = some u → ((w.alloc (.cells #[v0, v1, v2, v3] 34)).alloc (.cells #[v0, v1, v2, v3] 34)).drew.cell? ((⟨w.heap.size + 1, 0, none⟩ : Addr).add j) = some u := fun j u hu => by
    have := cells_new (w.alloc (.cells #[v0, v1, v2, v3] 34)) [v0, v1, v2, v3] 34 j u hu
    rw [show (w.alloc (.cells #[v0, v1, v2, v3] 34)).heap.size = w.heap.size + 1 by simp] at this
    exact this
  have KP : Hid (∀ w1 v', w1.ownsRow 0 34 4 v' (n + 1) (xs ++ [v0, v1, v2, v3]) → ((w.alloc (.cells #[v0, v1, v2, v3] 34)).alloc (.cells #[v0, v1, v2, v3] 34)).drew.grownBy w1 (Value.slice a n c).ownBlock →
      (v'.ownBlock = (Value.slice a n c).ownBlock ∨ v'.ownBlock = some ((w.alloc (.cells #[v0, v1, v2, v3] 34)).alloc (.cells #[v0, v1, v2, v3] 34)).drew.heap.size) →
      (∃ a' c', v' = .slice a' (n + 1) c') ∧ w1.cell? ⟨p, 2, none⟩ = some (.slice a n c) ∧ w1.frozen? ⟨p, 2, none⟩ = false ∧ Turns w F (w1.setCell ⟨p, 2, none⟩ v') (Obj 49 p (vs.set 2 v') (Cs.set 2 (Part.row 34 4 v' (n + 1) (xs ++ [v0, v1, v2, v3]))))) := Lib.hid (fun w1 v' hr hg hl => by
    have k1 : Keeps (fun b => (Value.slice a n c).ownBlock = some b) w w1 := (((Keeps.refl _ w).alloc _).alloc _).drew.trans (Keeps.grown (F := fun b => (Value.slice a n c).ownBlock = some b) hg (fun k hk _ => hk)) (fun _ _ h => h)
    obtain ⟨a', c', e, -⟩ := row_shape hr
    refine ⟨⟨a', c', e⟩, h.cell1 hC2 k1 hv2, h.frozen1 hC2 k1 2, h.turn hC2 k1 hr ?_⟩
    rcases hl with e | e
    · exact .inr (.inl e)
    · exact .inr (.inr ⟨_, e, by simp [World.drew]; omega⟩))
  have hp := h.plt
  have c2 := h.cell hv2
  have hm : n + 1 ≤ maxLen := by unfold maxLen; omega
  have hm' : (n + 1) * 40 ≤ 140737488355328 := by omega
  have H0 := Lib.hid hw0
  have H1 := Lib.hid hw1
  have HV := Lib.hid hv3
  have HC := Lib.hid hC3
  clear hw0 hw1 hv3 hC3 hv2 hC2 h
  obtain ⟨i0, hi, hz0, hz1, hz2⟩ := info_parts Try.info34
  go_enter Try.func21, Try.ntmps21
  go_upto_region 2 with fail
  go_region_law (refine step_append_own rfl (.tmp 15) (.tmp 17) 23 rfl 34 i0 _ 4 40 Try.underlying23 hi hz0 hz1 hz2 rfl (by decide) _ n xs rfl hrow' ⟨w.heap.size + 1, 0, none⟩ 1 1 [v0, v1, v2, v3] rfl rfl hnews h1 hm hm' ?_; intro v' w1 hrow1 hgrow hloc; obtain ⟨⟨a', c', hv'⟩, x2, xf, hT⟩ := KP.out w1 v' hrow1 hgrow hloc; subst hv'; have HT := Lib.hid hT; clear hT hrow1 hgrow hloc)
  all_goals
    clear x2 xf hp c2 hrow' hnews hrow KP hm hm'
    obtain ⟨W2, hW2⟩ : ∃ W2, W2 = w1.setCell ⟨p, 2, none⟩ (.slice a' (n + 1) c') := ⟨_, rfl⟩
    rw [← hW2] at HT ⊢
    clear hW2
    obtain ⟨F2, h2, hk2, hf2⟩ := HT.out
    have hr3 : W2.ownsRow 0 3 1 sz n3 zs := h2.part (i := 3) (by rw [List.getElem?_set_ne (by decide)]; exact HC.out)
    have c3 : W2.cell? ⟨p, 3, none⟩ = some sz := h2.cell (i := 3) (by rw [List.getElem?_set_ne (by decide)]; exact HV.out)
    clear h2 hk2 hf2
    by_cases h0 : n3 = 0
    · have HW := Lib.hid (H0.out h0)
      obtain ⟨a3, cc, e3, -⟩ := row_shape hr3
      subst e3
      subst h0
      clear hr3
      go_wp2_with fail
      go_ret
      exact ⟨ret_int (by rw [HW.out]; rfl), _, HT.out.more (Obj.framed _ _ _ _) (Keeps.refl _ _)⟩
    · obtain ⟨z, hz, hwy⟩ := H1.out h0
      have HW := Lib.hid hwy
      have hlt : n % n3 < n3 := Nat.mod_lt _ (by omega)
      obtain ⟨g, cc, e3, hcell⟩ := row_at hr3 hlt
      rw [hz] at hcell
      have hb3 := hr3.1
      subst e3
      have M := run_max0 z
      rw [← hwy] at M
      have rm : (n : Int).tmod (n3 : Int) = ((n % n3 : Nat) : Int) := (Int.ofNat_tmod n n3).symm
      generalize hq : n % n3 = q at *
      clear hr3 hwy hz hq
      go_wp2_with fail
      go_quiet (fail)
      go_wp2_with fail
      go_ret
      exact ⟨rfl, _, HT.out.more (Obj.framed _ _ _ _) (Keeps.drewN _ _ _)⟩
end Go.Proofs.Yteclbfkeiejbeaa
