/-
  No statement is proved here: what a deed does to a map ('do' of each of the three), by its contract; the call through the interface.
-/
import Derived.Test.YtnijencmoceiaaaDk
namespace Go.Proofs.Ytnijencmoceiaaa
open Go.RowKit Go.Maps

abbrev Owns (w : World) (m : Nat) (K : Files) : Prop := w.ownsMap Try.prog 9 (plainElem Try.prog 9) m K.length (datum K)
theorem owns_keeps {G : Nat → Prop} {w w' : World} {m : Nat} {K : Files} (h : Owns w m K) (hk : Keeps G w w') (hG : ¬ G m) : Owns w' m K := map_keeps h hk hG
/-- The cells of what has just been made. -/
theorem cells_new (w : World) (xs : List Value) (t : TypeId) : ∀ j u, xs[j]? = some u → (w.alloc (.cells xs.toArray t)).cell? ⟨w.heap.size, j, none⟩ = some u := by
  intro j u hu
  unfold World.cell?
  rw [show (w.alloc (.cells xs.toArray t)).heap[(⟨w.heap.size, j, none⟩ : Addr).block]? = some (.cells xs.toArray t) from heap_alloc_new w _]
  simpa using hu
theorem Keeps.turned {w w' : World} {m : Nat} (h : w.mapTurned w' m) : Keeps (fun b => b = m) w w' := Keeps.grown h.grown (fun _ e _ => (Option.some.inj e).symm)

set_option maxRecDepth 100000 in
set_option maxHeartbeats 400000 in
theorem do_wr (a d : ByteArray) (m : Nat) (K : Files) (w : World) (h : Owns w m K) (ha : a.size ≤ maxLen) (hd : d.size ≤ maxLen) (hK : K.length < maxLen) :
    Calls Try.prog 89 #[.agg #[.string a, .string d], .map (some m)] w fun e w' => e = .returned (.tuple #[]) ∧ Owns w' m (putF K a.data.toList d.data.toList) ∧ Keeps (fun b => b = m) w w' := by
  have hown : (w.alloc (.cells #[.string a, .string d] 61)).ownsMap Try.prog 9 (plainElem Try.prog 9) m K.length (datum K) := h.alloc _
  have hkey := Go.WideMaps.keyOf_string_mk (P := Try.prog) Try.underlying9 ha
  have HD := Lib.hid hd
  have HK := Lib.hid hK
  clear h ha hd hK
  go_enter Try.func89, Try.ntmps89
  go_wp2_with (at_mapUpdate; refine wpList_mapUpdate_own _ rfl _ _ _ 55 rfl 9 9 key9 Try.underlying55 _ m _ (datum K) rfl hown HK.out _ _ _ rfl rfl hkey _ [] (plainElem_string Try.underlying9 HD.out) ?_; intro w2 hown2 hgrow2; have H2 := Lib.hid (And.intro hown2 hgrow2); clear hown2 hgrow2 hown hkey)
  go_end0
  obtain ⟨h1, h2⟩ := H2.out
  rw [put_datum] at h1
  exact ⟨rfl, own_tight h1, ((Keeps.refl _ w).alloc _).trans (Keeps.grown (F := fun b => b = m) h2 (fun _ e _ => (Option.some.inj e).symm)) (fun _ _ h => h)⟩

set_option maxRecDepth 100000 in
set_option maxHeartbeats 400000 in
theorem do_rm (a : ByteArray) (m : Nat) (K : Files) (w : World) (h : Owns w m K) (ha : a.size ≤ maxLen) :
    Calls Try.prog 91 #[.agg #[.string a], .map (some m)] w fun e w' => e = .returned (.tuple #[]) ∧ Owns w' m (dropF K a.data.toList) ∧ Keeps (fun b => b = m) w w' := by
  have hown : (w.alloc (.cells #[.string a] 73)).ownsMap Try.prog 9 (plainElem Try.prog 9) m K.length (datum K) := h.alloc _
  have hkey := Go.WideMaps.keyOf_string_mk (P := Try.prog) Try.underlying9 ha
  clear h ha
  go_enter Try.func91, Try.ntmps91
  go_wp2_with (at_delete; refine wpList_delete_own _ rfl _ _ 55 9 rfl 9 key9 Try.underlying55 _ m _ (datum K) rfl hown _ _ rfl hkey ?_; intro w2 hown2 hturn2; have H2 := Lib.hid (And.intro hown2 hturn2); clear hown2 hturn2 hown hkey)
  go_end0
  obtain ⟨h1, h2⟩ := H2.out
  rw [del_datum] at h1
  exact ⟨rfl, own_tight h1, ((Keeps.refl _ w).alloc _).trans (Keeps.turned h2) (fun _ _ h => h)⟩

set_option maxRecDepth 100000 in
set_option maxHeartbeats 400000 in
theorem do_rn (a b : ByteArray) (m : Nat) (K : Files) (w : World) (h : Owns w m K) (ha : a.size ≤ maxLen) (hb : b.size ≤ maxLen) (hK : K.length < maxLen) (hS : Short K) :
    Calls Try.prog 90 #[.agg #[.string a, .string b], .map (some m)] w fun e w' => e = .returned (.tuple #[]) ∧ Owns w' m ((Deed.rn a.data.toList b.data.toList).run K) ∧ Keeps (fun b => b = m) w w' := by
  have hown : (w.alloc (.cells #[.string a, .string b] 70)).ownsMap Try.prog 9 (plainElem Try.prog 9) m K.length (datum K) := h.alloc _
  have hkey := Go.WideMaps.keyOf_string_mk (P := Try.prog) Try.underlying9 ha
  have hkey2 := Go.WideMaps.keyOf_string_mk (P := Try.prog) Try.underlying9 hb
  have hrun := look_run hown (a := a.data.toList) ha
  rw [← str_of] at hrun
  unfold Deed.run
  simp only
  cases hl : look K a.data.toList with
  | none =>
    have hlen : (lookD K a.data.toList) = [] := by unfold lookD; rw [hl]; rfl
    rw [hl, hlen] at hrun
    simp only [Option.isSome_none] at hrun
    have HO := Lib.hid hown
    clear hl hlen h hown hkey hkey2 ha hb hK
    go_enter Try.func90, Try.ntmps90
    go_wp2
    go_end0
    refine ⟨rfl, HO.out, (Keeps.refl _ w).alloc _⟩
  | some d =>
    have hlen : (lookD K a.data.toList) = d := by unfold lookD; rw [hl]; rfl
    rw [hl, hlen] at hrun
    simp only [Option.isSome_some] at hrun
    obtain ⟨y, hy⟩ : ∃ y : ByteArray, y.data.toList = d := ⟨⟨d.toArray⟩, rfl⟩
    have hd : y.size ≤ maxLen := by have := (hS _ (look_mem hl)).2; have e : y.size = d.length := by rw [← hy]; simp
                                    rw [e]; exact long_ok this
    subst hy
    rw [← str_of] at hrun
    have HD := Lib.hid hd
    have HK := Lib.hid hK
    have hlt := h.lt
    have HC : Hid (∀ w2, (w.alloc (.cells #[.string a, .string b] 70)).mapTurned w2 m → w2.cell? ⟨w.heap.size, 1, none⟩ = some (.string b)) := Lib.hid (fun w2 ht =>
      ht.grown.cell (cells_new w [.string a, .string b] 70 1 _ rfl) (by simp; omega))
    clear hlen h ha hb hK hd hl hS hlt
    go_enter Try.func90, Try.ntmps90
    go_wp2_with (first
      | (at_delete; refine wpList_delete_own _ rfl _ _ 55 9 rfl 9 key9 Try.underlying55 _ m _ (datum K) rfl hown _ _ rfl hkey ?_; intro w2 hown2 hturn2; have H2 := Lib.hid hturn2; have d1 := HC.out _ hturn2; clear hturn2 hown hkey)
      | (at_mapUpdate; refine wpList_mapUpdate_own _ rfl _ _ _ 55 rfl 9 9 key9 Try.underlying55 _ m _ _ rfl hown2 HK.out _ _ _ rfl rfl hkey2 _ [] (plainElem_string Try.underlying9 HD.out) ?_; intro w3 hown3 hgrow3; have H3 := Lib.hid (And.intro hown3 hgrow3); clear hown3 hgrow3 hown2 hkey2))
    go_end0
    obtain ⟨h1, h2⟩ := H3.out
    rw [del_datum, put_datum] at h1
    refine ⟨rfl, own_tight h1, (((Keeps.refl _ w).alloc _).trans (Keeps.turned H2.out) (fun _ _ h => h)).trans (Keeps.grown (F := fun b => b = m) h2 (fun _ e _ => (Option.some.inj e).symm)) (fun _ _ h => h)⟩
end Go.Proofs.Ytnijencmoceiaaa
