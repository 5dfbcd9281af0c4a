/-
  No statement is proved here: files by rising names as lists ('Files'), what a deed makes of them; what a map that holds them reads as. No program in sight.
-/
import Derived.Test.YtnijencmoceiaaaSep
import Derived.Maps.OwnSet
import Derived.Maps.StringElems
namespace Go.Proofs.Ytnijencmoceiaaa
open Go.RowKit Go.Maps
set_option linter.unusedVariables false

/-- Files, by rising names. -/
abbrev Files := List (Str × Str)
def ent (p : Str × Str) : Lit × DataW Unit := (.string p.1, .lit (.string p.2))
def datum (K : Files) : DataW Unit := .map (K.map ent)
def look (K : Files) (a : Str) : Option Str := (K.find? (fun p => p.1 == a)).map (·.2)
def lookD (K : Files) (a : Str) : Str := (look K a).getD []
def dropF (K : Files) (a : Str) : Files := K.filter (fun p => !(p.1 == a))
def ins (x : Str × Str) : Files → Files
  | [] => [x]
  | y :: r => if bytesBefore x.1 y.1 then x :: y :: r else y :: ins x r
def putF (K : Files) (a d : Str) : Files := ins (a, d) (dropF K a)
def total (K : Files) : Nat := (K.map (fun p => p.2.length)).sum

/-- What is done to files. -/
inductive Deed where
  | wr (a d : Str)
  | rn (a b : Str)
  | rm (a : Str)
def Deed.run (K : Files) : Deed → Files
  | .wr a d => putF K a d
  | .rn a b => match look K a with
    | some d => putF (dropF K a) b d
    | none => K
  | .rm a => dropF K a

/-! ### the order of names -/
theorem before_irrefl : ∀ a : Str, bytesBefore a a = false
  | [] => rfl
  | x :: r => by simp [bytesBefore, before_irrefl r]
theorem before_lt : ∀ a b : Str, bytesBefore a b = decide (a < b)
  | [], [] => by simp [bytesBefore]
  | [], _ :: _ => by simp [bytesBefore]
  | _ :: _, [] => by simp [bytesBefore]
  | x :: r, y :: s => by
    rw [bytesBefore, before_lt r s]
    have : (x :: r < y :: s) ↔ (x < y ∨ x = y ∧ r < s) := List.cons_lt_cons_iff
    rw [Bool.eq_iff_iff]
    simp [this]
theorem before_trans {a b c : Str} (h : bytesBefore a b = true) (k : bytesBefore b c = true) : bytesBefore a c = true := by
  rw [before_lt, decide_eq_true_iff] at *
  exact List.lt_trans h k
theorem before_or {a b : Str} (h : bytesBefore a b = false) (hne : a ≠ b) : bytesBefore b a = true := by
  rw [before_lt] at *
  have h' : ¬ a < b := by simpa using h
  have := List.not_lt.1 h'
  rcases List.le_iff_lt_or_eq.1 this with h2 | h2
  · simpa using h2
  · exact absurd h2.symm hne

/-- By rising names, each once. -/
def Rising (K : Files) : Prop := K.Pairwise (fun x y => bytesBefore x.1 y.1 = true)

theorem mem_ins {x y : Str × Str} : ∀ {K : Files}, y ∈ ins x K ↔ y = x ∨ y ∈ K
  | [] => by simp [ins]
  | z :: r => by
    unfold ins
    split
    · simp
    · simp only [List.mem_cons, mem_ins (K := r)]
      constructor
      · rintro (h | h | h) <;> simp [h]
      · rintro (h | h | h) <;> simp [h]
theorem mem_dropF {K : Files} {a : Str} {x : Str × Str} : x ∈ dropF K a ↔ x ∈ K ∧ x.1 ≠ a := by simp [dropF]
theorem mem_putF {K : Files} {a d : Str} {x : Str × Str} : x ∈ putF K a d ↔ x = (a, d) ∨ (x ∈ K ∧ x.1 ≠ a) := by rw [putF, mem_ins, mem_dropF]
theorem rising_ins {x : Str × Str} : ∀ {K : Files}, Rising K → (∀ y ∈ K, y.1 ≠ x.1) → Rising (ins x K)
  | [], _, _ => by simp [ins, Rising]
  | z :: r, h, hne => by
    obtain ⟨h1, h2⟩ := List.pairwise_cons.1 h
    unfold ins
    split
    · rename_i hb
      refine List.pairwise_cons.2 ⟨fun y hy => ?_, h⟩
      rcases List.mem_cons.1 hy with rfl | hy
      · exact hb
      · exact before_trans hb (h1 y hy)
    · rename_i hb
      refine List.pairwise_cons.2 ⟨fun y hy => ?_, rising_ins h2 (fun y hy => hne y (by simp [hy]))⟩
      rcases mem_ins.1 hy with rfl | hy
      · exact before_or (by simpa using hb) (fun e => hne z (by simp) e.symm)
      · exact h1 y hy
theorem rising_dropF {K : Files} (h : Rising K) (a : Str) : Rising (dropF K a) := List.Pairwise.filter _ h
theorem rising_putF {K : Files} (h : Rising K) (a d : Str) : Rising (putF K a d) := rising_ins (rising_dropF h a) (fun y hy => (mem_dropF.1 hy).2)
theorem rising_run {K : Files} (h : Rising K) (x : Deed) : Rising (x.run K) := by
  cases x with
  | wr a d => exact rising_putF h a d
  | rn a b =>
    unfold Deed.run
    simp only
    split
    · exact rising_putF (rising_dropF h a) _ _
    · exact h
  | rm a => exact rising_dropF h a

/-! ### what is found -/
theorem find_ins {f : Str × Str → Bool} {x : Str × Str} : ∀ {K : Files}, (∀ y, y ∈ K → f y = true → f x = false) → (ins x K).find? f = if f x then some x else K.find? f
  | [], _ => by simp [ins]
  | z :: r, h => by
    unfold ins
    split
    · cases hx : f x <;> simp [hx]
    · rw [List.find?_cons]
      cases hz : f z with
      | true => simp [h z (by simp) hz, hz]
      | false => simp only [find_ins (K := r) (fun y hy => h y (by simp [hy])), List.find?_cons, hz]
theorem look_dropF (K : Files) (a b : Str) : look (dropF K a) b = if b = a then none else look K b := by
  unfold look dropF
  by_cases h : b = a
  · subst h
    rw [if_pos rfl, List.find?_eq_none.2 (fun x hx => by simpa using (List.mem_filter.1 hx).2), Option.map_none]
  · rw [if_neg h, find_filter_keep (f := fun p : Str × Str => p.1 == b)]
    intro p hp
    have : p.1 = b := by simpa using hp
    simp [this, h]
theorem look_putF (K : Files) (a d b : Str) : look (putF K a d) b = if b = a then some d else look K b := by
  unfold look putF
  rw [find_ins (fun y hy hf => by
    have h1 := (mem_dropF.1 hy).2
    have h2 : y.1 = b := by simpa using hf
    have h3 : b ≠ a := fun e => h1 (h2.trans e)
    simpa using fun e => h3 e.symm)]
  by_cases h : b = a
  · subst h; simp
  · have h1 : (a == b) = false := by simpa using fun e => h e.symm
    have := look_dropF K a b
    unfold look at this
    simp only [h1, h, if_false] at this ⊢
    simpa using this
theorem look_mem {K : Files} {a d : Str} (h : look K a = some d) : (a, d) ∈ K := by
  unfold look at h
  cases hf : K.find? (fun p => p.1 == a) with
  | none => rw [hf] at h; cases h
  | some p =>
    rw [hf] at h
    have h1 := List.mem_of_find?_eq_some hf
    have h2 : p.1 = a := by simpa using List.find?_some hf
    cases h
    rw [← h2]; exact h1
theorem look_cons_ne {x : Str × Str} {K : Files} {a : Str} (h : x.1 ≠ a) : look (x :: K) a = look K a := by
  have : (x.1 == a) = false := by simpa using h
  unfold look; simp [this]
theorem look_of_mem : ∀ {K : Files}, Rising K → ∀ {p : Str × Str}, p ∈ K → look K p.1 = some p.2
  | [], _, _, h => by cases h
  | z :: r, hr, p, h => by
    obtain ⟨h1, h2⟩ := List.pairwise_cons.1 hr
    rcases List.mem_cons.1 h with rfl | h
    · simp [look]
    · have hne : z.1 ≠ p.1 := fun e => by have := h1 p h; rw [e, before_irrefl] at this; cases this
      rw [look_cons_ne hne]; exact look_of_mem h2 h
theorem look_none {K : Files} {a : Str} (h : ∀ p ∈ K, p.1 ≠ a) : look K a = none := by
  unfold look
  rw [List.find?_eq_none.2]
  · rfl
  · intro p hp; simpa using h p hp
/-- Files are known by what is found. -/
theorem files_ext : ∀ {K L : Files}, Rising K → Rising L → (∀ a, look K a = look L a) → K = L
  | [], [], _, _, _ => rfl
  | [], y :: s, _, _, h => by have := h y.1; simp [look] at this
  | x :: r, [], _, _, h => by have := h x.1; simp [look] at this
  | x :: r, y :: s, hr, hs, h => by
    obtain ⟨h1, h2⟩ := List.pairwise_cons.1 hr
    obtain ⟨k1, k2⟩ := List.pairwise_cons.1 hs
    have hx : (x.1, x.2) ∈ y :: s := look_mem (by rw [← h x.1]; simp [look])
    have hy : (y.1, y.2) ∈ x :: r := look_mem (by rw [h y.1]; simp [look])
    have e : x = y := by
      rcases List.mem_cons.1 hx with e | hx
      · exact e
      · rcases List.mem_cons.1 hy with e | hy
        · exact e.symm
        · have a1 := k1 _ hx
          have a2 := h1 _ hy
          have := before_trans a1 a2
          rw [before_irrefl] at this; cases this
    subst e
    rw [files_ext h2 k2 (fun a => ?_)]
    by_cases e : x.1 = a
    · subst e
      rw [look_none (fun p hp e => by have := h1 p hp; rw [e, before_irrefl] at this; cases this), look_none (fun p hp e => by have := k1 p hp; rw [e, before_irrefl] at this; cases this)]
    · have := h a
      rwa [look_cons_ne e, look_cons_ne e] at this

/-! ### how much there is -/
theorem len_ins (x : Str × Str) : ∀ K : Files, (ins x K).length = K.length + 1
  | [] => rfl
  | z :: r => by unfold ins; split <;> simp [len_ins x r]
theorem len_dropF (K : Files) (a : Str) : (dropF K a).length ≤ K.length := List.length_filter_le _ _
theorem len_dropF_lt {K : Files} {a d : Str} (h : look K a = some d) : (dropF K a).length < K.length := by
  have hm := look_mem h
  unfold dropF
  refine List.length_filter_lt_length_iff_exists.2 ⟨_, hm, by simp⟩
theorem len_putF (K : Files) (a d : Str) : (putF K a d).length ≤ K.length + 1 := by
  unfold putF; rw [len_ins]; have := len_dropF K a; omega
theorem len_run (K : Files) (x : Deed) : (x.run K).length ≤ K.length + 1 := by
  cases x with
  | wr a d => exact len_putF K a d
  | rn a b =>
    unfold Deed.run
    simp only
    split
    · rename_i h; have := len_dropF_lt h; exact Nat.le_trans (len_putF _ _ _) (by omega)
    · omega
  | rm a => exact Nat.le_trans (len_dropF K a) (by omega)
theorem total_ins (x : Str × Str) : ∀ K : Files, total (ins x K) = total K + x.2.length
  | [] => by simp [ins, total]
  | z :: r => by
    have := total_ins x r
    unfold total at *
    unfold ins; split
    · simp; omega
    · simp only [List.map_cons, List.sum_cons, this]; omega
theorem total_putF (K : Files) (a d : Str) : total (putF K a d) = total (dropF K a) + d.length := total_ins _ _
theorem total_cons (x : Str × Str) (K : Files) : total (x :: K) = x.2.length + total K := by simp [total]
theorem total_dropF (K : Files) (a : Str) : total (dropF K a) ≤ total K := by
  induction K with
  | nil => simp [dropF, total]
  | cons z r ih =>
    unfold dropF at *
    rw [List.filter_cons]
    split
    · rw [total_cons, total_cons]; omega
    · rw [total_cons]; omega
theorem total_dropF_look : ∀ {K : Files}, Rising K → ∀ {a d : Str}, look K a = some d → total (dropF K a) + d.length = total K
  | [], _, _, _, h => by simp [look] at h
  | z :: r, hr, a, d, h => by
    obtain ⟨h1, h2⟩ := List.pairwise_cons.1 hr
    by_cases e : z.1 = a
    · subst e
      have hd : d = z.2 := by simpa [look] using h.symm
      subst hd
      have : dropF (z :: r) z.1 = r := by
        unfold dropF
        rw [List.filter_cons]
        simp only [beq_self_eq_true, Bool.not_true]
        rw [if_neg (by simp)]
        refine List.filter_eq_self.2 (fun p hp => ?_)
        have := h1 p hp
        simp only [Bool.not_eq_true', beq_eq_false_iff_ne]
        intro e; rw [e, before_irrefl] at this; cases this
      rw [this, total_cons]; omega
    · rw [look_cons_ne e] at h
      have := total_dropF_look h2 h
      have e2 : dropF (z :: r) a = z :: dropF r a := by
        unfold dropF
        rw [List.filter_cons]
        simp [e]
      rw [e2, total_cons, total_cons]; omega
theorem dropF_none {K : Files} {a : Str} (h : look K a = none) : dropF K a = K := by
  unfold dropF
  refine List.filter_eq_self.2 (fun p hp => ?_)
  simp only [Bool.not_eq_true', beq_eq_false_iff_ne]
  intro e
  unfold look at h
  cases hf : K.find? (fun p => p.1 == a) with
  | none => exact absurd (by simpa using e) (List.find?_eq_none.1 hf p hp)
  | some q => rw [hf] at h; cases h

/-! ### what a map reads as -/
theorem isKey_str (a : Str) : Go.WideAt.IsKeyLit (.string a) := by simp [Go.WideAt.IsKeyLit]
theorem sameKey_str (p a : Str) : (Lit.string p).sameKey (.string a) = (p == a) := rfl
theorem has_datum (K : Files) (a : Str) : Maps.has (datum K) (.string a) = (look K a).isSome := by
  show (K.map ent).any (fun p => p.1.sameKey (.string a)) = ((K.find? (fun p => p.1 == a)).map (·.2)).isSome
  rw [List.any_map, Option.isSome_map, List.isSome_find?]
  rfl
theorem find_map_ent (K : Files) (a : Str) : (K.map ent).find? (fun p => p.1.sameKey (.string a)) = (K.find? (fun p => p.1 == a)).map ent := by
  rw [List.find?_map]; rfl
theorem atKey_datum (K : Files) (a : Str) : (datum K).atKey (.string a) (.lit (.string [])) = .lit (.string (lookD K a)) := by
  unfold datum DataW.atKey lookD look
  simp only [find_map_ent]
  cases K.find? (fun p => p.1 == a) <;> rfl
theorem atKey_datum_some {K : Files} {a d : Str} (h : look K a = some d) (z : DataW Unit) : (datum K).atKey (.string a) z = .lit (.string d) := by
  unfold datum DataW.atKey
  simp only [find_map_ent]
  unfold look at h
  cases hf : K.find? (fun p => p.1 == a) with
  | none => rw [hf] at h; cases h
  | some p => rw [hf] at h; cases h; rfl
theorem size_datum (K : Files) : Maps.size (datum K) = K.length := by simp [datum, Maps.size]
theorem filter_ent (K : Files) (a : Str) : (K.map ent).filter (fun p => !p.1.sameKey (.string a)) = (dropF K a).map ent := by
  unfold dropF
  rw [List.filter_map]; rfl
theorem insert_ent (a d : Str) : ∀ K : Files, DataW.insert (ent (a, d)) (K.map ent) = (ins (a, d) K).map ent
  | [] => rfl
  | z :: r => by
    simp only [List.map_cons]
    unfold DataW.insert ins
    have : (ent (a, d)).1.before (ent z).1 = bytesBefore a z.1 := rfl
    rw [this]
    split
    · rfl
    · rw [insert_ent a d r]; rfl
theorem put_datum (K : Files) (a d : Str) : (datum K).put (.string a) (.lit (.string d)) = datum (putF K a d) := by
  show DataW.map (DataW.insert (ent (a, d)) ((K.map ent).filter fun p => !p.1.sameKey (.string a))) = _
  rw [filter_ent, insert_ent]; rfl
theorem del_datum (K : Files) (a : Str) : (datum K).del (.string a) = datum (dropF K a) := by
  show DataW.map ((K.map ent).filter fun p => !p.1.sameKey (.string a)) = _
  rw [filter_ent]; rfl
end Go.Proofs.Ytnijencmoceiaaa
