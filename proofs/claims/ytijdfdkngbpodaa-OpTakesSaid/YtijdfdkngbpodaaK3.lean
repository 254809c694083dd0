/- Plain laws of what trees cost. -/
import Derived.Test.YtijdfdkngbpodaaK2
namespace Go.Am.R1
set_option linter.unusedSimpArgs false
set_option linter.unusedVariables false
theorem getD_set_bool (m : List Bool) (i j : Nat) (b : Bool) : (m.set i b).getD j false = if i = j ∧ j < m.length then b else m.getD j false := by
  rw [List.getD_eq_getElem?_getD, List.getElem?_set, List.getD_eq_getElem?_getD]
  by_cases h : i = j
  · subst h
    by_cases h2 : i < m.length
    · simp [h2]
    · simp [h2]
  · simp [h]
theorem ab_get (m : List Bool) (n : Nat) : ∀ (i j : Nat), i ≤ m.length → (m.length + 2) / 3 ≤ n → ((ab m n i).getD j false = true ↔ ∃ k, k < i ∧ k / 3 = j ∧ m.getD k false = true)
  | 0, j, _, _ => by simp [ab, List.getD_eq_getElem?_getD, List.getElem?_replicate]; split <;> simp
  | i + 1, j, hi, hn => by
    rw [ab, getD_set_bool, ab_len]
    by_cases h : i / 3 = j
    · have hj : j < n := by omega
      rw [if_pos ⟨h, hj⟩, Bool.or_eq_true, h, ab_get m n i j (by omega) hn]
      constructor
      · rintro (⟨k, h1, h2, h3⟩ | h3)
        · exact ⟨k, by omega, h2, h3⟩
        · exact ⟨i, by omega, h, h3⟩
      · rintro ⟨k, h1, h2, h3⟩
        by_cases hk : k = i
        · subst hk; exact .inr h3
        · exact .inl ⟨k, by omega, h2, h3⟩
    · rw [if_neg (fun h' => h h'.1), ab_get m n i j (by omega) hn]
      constructor
      · rintro ⟨k, h1, h2, h3⟩; exact ⟨k, by omega, h2, h3⟩
      · rintro ⟨k, h1, h2, h3⟩
        by_cases hk : k = i
        · subst hk; exact absurd h2 h
        · exact ⟨k, by omega, h2, h3⟩
theorem above_get (m : List Bool) (j : Nat) : (above m).getD j false = true ↔ ∃ k, k < m.length ∧ k / 3 = j ∧ m.getD k false = true := ab_get m _ _ j (Nat.le_refl _) (Nat.le_refl _)
theorem getD_lt {m : List Bool} {k : Nat} (h : m.getD k false = true) : k < m.length := by
  rcases Nat.lt_or_ge k m.length with h' | h'
  · exact h'
  · rw [List.getD_eq_getElem?_getD, List.getElem?_eq_none h'] at h; cases h

/-- The same but for one place. -/
def D1 (m m' : List Bool) : Prop := m.length = m'.length ∧ ∃ k, ∀ j, j ≠ k → m.getD j false = m'.getD j false
theorem D1.symm {m m' : List Bool} (h : D1 m m') : D1 m' m := ⟨h.1.symm, h.2.imp fun k hk j hj => (hk j hj).symm⟩
theorem ext_bool {m m' : List Bool} (hl : m.length = m'.length) (h : ∀ j, m.getD j false = m'.getD j false) : m = m' := by
  apply List.ext_getElem? ; intro j
  rcases Nat.lt_or_ge j m.length with hj | hj
  · have := h j
    rw [List.getD_eq_getElem?_getD, List.getD_eq_getElem?_getD] at this
    rw [List.getElem?_eq_getElem hj, List.getElem?_eq_getElem (by omega)] at this ⊢
    simpa using this
  · rw [List.getElem?_eq_none hj, List.getElem?_eq_none (by omega)]
theorem count_D1 : ∀ {m m' : List Bool}, D1 m m' → m.countP id ≤ m'.countP id + 1
  | [], m', h => by simp
  | a :: m, [], h => by have := h.1; simp at this
  | a :: m, b :: m', ⟨hl, k, hk⟩ => by
    have hl' : m.length = m'.length := by simpa using hl
    cases k with
    | zero =>
      have : m = m' := ext_bool hl' fun j => by simpa using hk (j + 1) (by omega)
      subst this
      simp only [List.countP_cons]
      cases a <;> cases b <;> simp <;> omega
    | succ k =>
      have hab : a = b := by simpa using hk 0 (by omega)
      subst hab
      have := count_D1 (m := m) (m' := m') ⟨hl', k, fun j hj => by simpa using hk (j + 1) (by omega)⟩
      simp only [List.countP_cons]
      omega
theorem above_D1 {m m' : List Bool} (h : D1 m m') : D1 (above m) (above m') := by
  obtain ⟨hl, k, hk⟩ := h
  refine ⟨by rw [above_len, above_len, hl], k / 3, fun j hj => ?_⟩
  rw [Bool.eq_iff_iff, above_get, above_get]
  constructor <;> rintro ⟨q, h1, h2, h3⟩
  · exact ⟨q, by omega, h2, by rw [← hk q (by intro e; subst e; exact hj h2.symm)]; exact h3⟩
  · exact ⟨q, by omega, h2, by rw [hk q (by intro e; subst e; exact hj h2.symm)]; exact h3⟩
theorem rest_D1 : ∀ (f d : Nat) {m m' : List Bool}, D1 m m' → m.length ≤ 3 ^ d → rest f m ≤ rest f m' + 2 * d
  | 0, d, m, m', h, hd => by simp [rest]
  | f + 1, d, m, m', h, hd => by
    rw [rest, rest, ← h.1]
    split
    · rename_i h1
      cases d with
      | zero => simp at hd; omega
      | succ d =>
        have := count_D1 (above_D1 h)
        have := rest_D1 f d (above_D1 h) (by rw [above_len]; rw [Nat.pow_succ] at hd; omega)
        omega
    · omega

/-- Filled where the other is. -/
def Lq (m m' : List Bool) : Prop := m.length = m'.length ∧ ∀ j, m.getD j false = true → m'.getD j false = true
theorem count_Lq : ∀ {m m' : List Bool}, Lq m m' → m.countP id ≤ m'.countP id
  | [], m', h => by simp
  | a :: m, [], h => by have := h.1; simp at this
  | a :: m, b :: m', ⟨hl, hk⟩ => by
    have hl' : m.length = m'.length := by simpa using hl
    have h0 : a = true → b = true := by simpa using hk 0
    have := count_Lq (m := m) (m' := m') ⟨hl', fun j hj => by simpa using hk (j + 1) (by simpa using hj)⟩
    simp only [List.countP_cons]
    cases a <;> cases b <;> simp at h0 ⊢ <;> omega
theorem above_Lq {m m' : List Bool} (h : Lq m m') : Lq (above m) (above m') := by
  obtain ⟨hl, hk⟩ := h
  refine ⟨by rw [above_len, above_len, hl], fun j hj => ?_⟩
  rw [above_get] at hj ⊢
  obtain ⟨q, h1, h2, h3⟩ := hj
  exact ⟨q, by omega, h2, hk q h3⟩
theorem rest_Lq : ∀ (f : Nat) {m m' : List Bool}, Lq m m' → rest f m ≤ rest f m'
  | 0, m, m', h => by simp [rest]
  | f + 1, m, m', h => by
    rw [rest, rest, ← h.1]
    split
    · have := count_Lq (above_Lq h)
      have := rest_Lq f (above_Lq h)
      omega
    · omega
theorem rest_le : ∀ (f : Nat) (m : List Bool), m.length ≤ 64 → rest f m ≤ 128 * f
  | 0, m, h => by simp [rest]
  | f + 1, m, h => by
    rw [rest]
    split
    · have h1 := List.countP_le_length (l := above m) (p := id)
      rw [above_len] at h1
      have := rest_le f (above m) (by rw [above_len]; omega)
      omega
    · omega
theorem treeI_in {m : List Bool} {c : Int} (hm : m.length ≤ 64) (hc : c = 1 ∨ c = 2) : 0 ≤ treeI m c ∧ treeI m c ≤ 10000 := by
  have h1 := List.countP_le_length (l := m) (p := id)
  have h2 := rest_le m.length m hm
  unfold treeI
  rcases hc with rfl | rfl <;> omega
theorem treeI_two (m : List Bool) : treeI m 1 ≤ treeI m 2 := by unfold treeI; omega
theorem treeI_D1 {m m' : List Bool} (h : D1 m m') (hm : m.length ≤ 64) : treeI m 1 - treeI m' 1 ≤ 9 := by
  have h1 := count_D1 h
  have h2 := rest_D1 m.length 4 h (by omega)
  unfold treeI
  rw [← h.1]
  omega
theorem treeI_Lq {m m' : List Bool} (h : Lq m m') : treeI m 2 ≤ treeI m' 2 := by
  have h1 := count_Lq h
  have h2 := rest_Lq m.length h
  unfold treeI
  rw [← h.1]
  omega
theorem fl_len (l : List Int) : (fl l).length = leafN l.length := by simp [fl]
theorem fl_get (l : List Int) (j : Nat) : (fl l).getD j false = if j < leafN l.length then leafB l j else false := by
  rw [List.getD_eq_getElem?_getD, fl, List.getElem?_map]
  split
  · rename_i h; rw [List.getElem?_range h]; rfl
  · rename_i h; rw [List.getElem?_eq_none (by simpa using h)]; rfl
theorem fl_set (l : List Int) (a : Nat) (v : Int) : D1 (fl l) (fl (l.set a v)) := by
  refine ⟨by rw [fl_len, fl_len, List.length_set], a / 128, fun j hj => ?_⟩
  rw [fl_get, fl_get, List.length_set]
  split
  · unfold leafB
    rw [List.length_set]
    congr 2
    apply List.ext_getElem?; intro q
    simp only [List.getElem?_drop, List.getElem?_take, List.getElem?_set]
    split
    · rw [if_neg (by omega)]
    · rfl
  · rfl
theorem fl_Lq (l : List Int) : Lq (fl l) (List.replicate (leafN l.length) true) := by
  refine ⟨by simp [fl_len], fun j hj => ?_⟩
  have := getD_lt hj
  rw [fl_len] at this
  rw [List.getD_eq_getElem?_getD, List.getElem?_replicate, if_pos this]; rfl
end Go.Am.R1
