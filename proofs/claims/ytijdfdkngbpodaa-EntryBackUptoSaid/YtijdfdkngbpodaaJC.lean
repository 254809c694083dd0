/- Parts of one machine and of the walks over it, joined: K70 K71. -/
import Derived.Test.YtijdfdkngbpodaaJW
import Derived.Test.YtijdfdkngbpodaaJB
import Derived.Test.YtijdfdkngbpodaaAmRow
/- Entries: the fixed fact. -/
namespace Go.Am.R1
open Go.Proofs
set_option maxRecDepth 100000
theorem alive15 : Alive15 := runF_of (k := 60) (by kernel_rfl)
end Go.Am.R1

/- Entries as arguments; the law EntryPuts. -/
namespace Go.Am.R1
open Go.Proofs
set_option maxRecDepth 100000
set_option linter.unusedSimpArgs false
set_option linter.unusedVariables false
theorem wt_text {D : Nat} {cs : List V} (h : WT cfg.P (D + 1) 9 cs) : ∃ l : List UInt8, cs = [.s (S l)] ∧ l.length ≤ 140737488351232 := by
  obtain ⟨s, h1, h2⟩ := wt_str (P := cfg.P) Try.underlying9 h
  exact ⟨s.data.toList, by rw [h1, S_of], by simpa using h2⟩
theorem co66 : cfg.P.cellsOf 66 = 2 := by kernel_rfl
theorem bo66 : cfg.P.bytesOf 66 = 24 := by kernel_rfl
theorem co9 : cfg.P.cellsOf 9 = 1 := by kernel_rfl
theorem co3 : cfg.P.cellsOf 3 = 1 := by kernel_rfl
/-- An entry. -/
theorem wt_ent {D : Nat} {cs : List V} (h : WT cfg.P (D + 2) 66 cs) : ∃ e : Ent, cs = [.s (S e.1), .i .i64 e.2] ∧ e.1.length ≤ 140737488351232 ∧ -9223372036854775808 ≤ e.2 ∧ e.2 ≤ 9223372036854775807 := by
  obtain ⟨h1, h2⟩ := wt_struct (P := cfg.P) Try.underlying66 h
  rw [co66] at h1
  have f0 := h2 _ (List.mem_cons_self)
  have f1 := h2 _ (List.mem_cons_of_mem _ List.mem_cons_self)
  obtain ⟨l, e1, e2⟩ := wt_text f0
  obtain ⟨n, e3, e4, e5⟩ := wt_int (P := cfg.P) Try.underlying3 f1
  have g0 : cfg.P.cellsOf 9 = 1 := co9
  have g1 : cfg.P.cellsOf 3 = 1 := co3
  dsimp only at e1 e3
  rw [g0] at e1
  rw [g1] at e3
  match cs, h1 with
  | [a, b], _ =>
    simp at e1 e3
    exact ⟨(l, n), by rw [e1, e3], e2, e4, e5⟩
theorem wt_ents {D : Nat} {cs : List V} (h : WT cfg.P (D + 3) 57 cs) : ∃ (x : V) (l : List Ent), cs = [x] ∧ EnOk x l := by
  rcases wt_slice (P := cfg.P) Try.underlying57 h with rfl | ⟨els, n, rfl, h1, h2, h3⟩
  · exact ⟨.nils, [], rfl, ⟨rfl, .inl ⟨rfl, rfl⟩⟩, (fun e he => by cases he), by simp⟩
  · rw [co66] at h1
    rw [bo66] at h2
    have key : ∀ m, m ≤ n → ∃ l : List Ent, l.length = m ∧ els.take (m * 2) = enV l ∧ ∀ e ∈ l, e.1.length ≤ 140737488351232 := by
      intro m
      induction m with
      | zero => intro _; exact ⟨[], rfl, by simp [enV], fun e he => by cases he⟩
      | succ m ih =>
        intro hm
        obtain ⟨l, g1, g2, g3⟩ := ih (by omega)
        have hw := h3 m (by omega)
        rw [co66] at hw
        obtain ⟨e, e1, e2, _⟩ := wt_ent hw
        refine ⟨l ++ [e], by simp [g1], ?_, fun e' he' => ?_⟩
        · rw [show (m + 1) * 2 = m * 2 + 2 by omega, List.take_add, g2, e1, enV, enV, List.flatMap_append]; rfl
        · rcases List.mem_append.1 he' with he' | he'
          · exact g3 e' he'
          · simp at he'; subst he'; exact e2
    obtain ⟨l, g1, g2, g3⟩ := key n (Nat.le_refl n)
    rw [List.take_of_length_le (by omega)] at g2
    subst g1
    refine ⟨_, l, rfl, ⟨by rw [enV_len], .inr ⟨false, by rw [g2]⟩⟩, fun e he => by have := g3 e he; omega, by omega⟩
theorem arg57 {cs : List V} (x : V) (h : cs = [x]) : argV cfg.P 57 cs = x := by subst h; exact argV_one (by kernel_rfl)
theorem law8_all (xs : List V) (h : WTA cfg.P [57] xs) : runF cfg 8 xs [] [] = some (.b true, []) := by
  obtain ⟨cs, ys, rfl, _, hw, hn⟩ := wta_cons h
  obtain rfl := wta_nil hn
  obtain ⟨x, l, e, hx⟩ := wt_ents (D := 17) hw
  rw [arg57 x e]
  exact law8 alive15 hx
end Go.Am.R1
