/- Each operation of the abstract machine is what the model's does: slices of slices, lengths, values without memory. -/
import Derived.Test.YtgagaobijjahhaaGreatDoorAmOps2
namespace Go.Am
open Go.RowKit
set_option linter.unusedVariables false
set_option linter.unusedSimpArgs false

section
variable {C : Cfg} {M M' : Mp} {w w' : World} {B0 : Nat} {N W : Nat → Prop} {p : List Nat} {σ σ' : List O} {c : Nat}

theorem rel_arr_nil (a : Addr) (n : Nat) : Rel M w (.arr [] 0 false) (.slice (some a) 0 n) :=
  .arr [] 0 false a [] n (fun h => absurd rfl h) (fun _ h => by cases h) .nil (fun j y h => by simp at h) (Nat.zero_le _) (fun h => by cases h)
theorem rel_arr_nilT (a : Addr) : Rel M w (.arr [] 0 true) (.slice (some a) 0 0) :=
  .arr [] 0 true a [] 0 (fun h => absurd rfl h) (fun _ h => by cases h) .nil (fun j y h => by simp at h) (Nat.zero_le _) (fun h => rfl)
theorem rel_arr_cut {cs : List V} {vs : List Value} {a : Addr} (hF : cs ≠ [] → M.F a.block) (h1 : ∀ x ∈ cs, x.one = true) (hr : RelL M w cs vs) (hc : ∀ j y, vs[j]? = some y → w.cell? (a.add j) = some y)
    (H L len k : Nat) (clip : Bool) (a' : Addr) (ha : (cs.take H).drop L ≠ [] → a' = a.add L) (hk : len ≤ k) (hcl : clip = true → k = len) :
    Rel M w (.arr ((cs.take H).drop L) len clip) (.slice (some a') len k) := by
  refine .arr _ len clip a' ((vs.take H).drop L) k (fun hne => ?_) (fun x hx => h1 x (List.mem_of_mem_take (List.mem_of_mem_drop hx))) ((hr.take _).drop _) (fun j y hy => ?_) hk hcl
  · rw [ha hne, add_block]; exact hF (by rintro rfl; simp at hne)
  · have hne : (cs.take H).drop L ≠ [] := by
      intro e
      have := ((hr.take H).drop L).length
      rw [e] at this
      have hz : (vs.take H).drop L = [] := List.eq_nil_of_length_eq_zero (by simpa using this.symm)
      rw [hz] at hy; simp at hy
    rw [ha hne, add_add]
    rw [List.getElem?_drop, List.getElem?_take] at hy
    split at hy
    · exact hc _ y hy
    · simp at hy

theorem slice_sound {t : Nat} {x v : V} {lo hi mx : Option V} {yx : Value} {yl yh ym : Option Value} (h : sliceA C t x lo hi mx = some v) (hx : Rel M w x yx) (rl : RelO M w lo yl) (rh : RelO M w hi yh) (rm : RelO M w mx ym)
    (hh3 : mx ≠ none → hi ≠ none) : ∃ u, (Instr.sliceAt t yx yl yh ym).run C.P w = .ok u w ∧ Rel M w v u := by
  unfold sliceA at h
  split at h <;> simp only [Option.bind_eq_some_iff, reduceCtorEq] at h
  · rename_i s hs
    obtain ⟨h1, e1, l1, e2, h⟩ := h
    simp at h; subst h
    cases rm
    rw [hx.s_inv]
    obtain ⟨g1, g2, g3⟩ := run_bounds2 (C := C) (w := w) false e1 e2 rh rl (Nat.le_refl _) (Nat.le_refl _)
    exact ⟨.string (s.extract l1 h1), by simp [Instr.sliceAt, Instr.slice, run_under (shape_string hs), g1], .s _⟩
  · rename_i e r st o n es cap hs
    obtain ⟨z, hz, h⟩ := h
    split at h
    · simp at h
    rename_i hze
    simp only [ne_eq, Decidable.not_not] at hze
    subst hze
    simp only [Option.bind_eq_some_iff] at h
    obtain ⟨h1, e1, l1, e2, h⟩ := h
    cases rm
    obtain ⟨b, nn, k, hm, rfl, hk, hn, hc⟩ := hx.sl_inv
    have hH : cap.getD n ≤ k := by
      cases cap with
      | none => simpa using hk
      | some c => simp [hc c rfl]
    have hlen : n ≤ cap.getD n := by
      cases cap with
      | none => simp
      | some c => have := hc c rfl; simp; omega
    obtain ⟨g1, g2, g3⟩ := run_bounds2 (C := C) (w := w) true e1 e2 rh rl hH hlen
    have key : (Instr.sliceAt t (.slice (some ⟨b, o, none⟩) n k) yl yh none).run C.P w = .ok (.slice (if k = l1 then some ⟨b, o, none⟩ else some ⟨b, o + l1 * z, none⟩) (h1 - l1) (k - l1)) w := by
      simp [Instr.sliceAt, Instr.slice, run_under (shape_slice hs), g1, run_size hz, add_off]
    refine ⟨_, key, ?_⟩
    split at h
    · rename_i hl
      simp at h; subst h
      rw [if_neg (by omega)]
      refine .sl _ _ _ _ _ _ b nn (k - l1) hm (by omega) (fun e => ?_) (fun c' e => ?_)
      · rw [Option.map_eq_none_iff] at e
        have hnn := hn e
        have hkl : k = l1 + (k - l1) := by omega
        have : k * z = l1 * z + (k - l1) * z := by rw [← Nat.add_mul, ← hkl]
        omega
      · rw [Option.map_eq_some_iff] at e
        obtain ⟨c2, rfl, rfl⟩ := e
        rw [hc c2 rfl]
    · rename_i hl
      split at h
      · rename_i hhl
        split at h
        · rename_i hhn
          split at h
          · rename_i hlo
            simp at h; subst h
            rcases bnd_some e2 rl with ⟨_, _, rfl⟩ | ⟨_, _, rfl, _⟩
            · have hn0 : n = 0 := by omega
              subst hn0
              simp only [Nat.zero_mul, Nat.add_zero, ite_self, Nat.sub_zero]
              have h10 : h1 = 0 := by omega
              subst h10
              refine .sl _ _ _ _ _ _ b nn k hm (Nat.zero_le _) (fun e => hn (by simpa using e)) (fun c' e => hc c' (by simpa using e))
            · subst hlo; cases rl
          · simp at h; subst h
            rw [hhl, Nat.sub_self]
            split <;> exact rel_arr_nil _ _
        · simp at h
      · split at h
        · rename_i hlh
          simp at h; subst h
          rw [if_neg (by omega)]
          refine .sl _ _ _ _ _ _ b nn (k - l1) hm (by omega) (fun e => ?_) (fun c' e => ?_)
          · rw [Option.map_eq_none_iff] at e
            have hnn := hn e
            have hkl : k = l1 + (k - l1) := by omega
            have : k * z = l1 * z + (k - l1) * z := by rw [← Nat.add_mul, ← hkl]
            omega
          · rw [Option.map_eq_some_iff] at e
            obtain ⟨c2, rfl, rfl⟩ := e
            rw [hc c2 rfl]
        · simp at h
  · rename_i e r st o n es cap m hs
    obtain ⟨z, hz, h⟩ := h
    split at h
    · simp at h
    rename_i hze
    simp only [ne_eq, Decidable.not_not] at hze
    subst hze
    simp only [Option.bind_eq_some_iff] at h
    obtain ⟨m1, e0, h1, e1, l1, e2, h⟩ := h
    obtain ⟨b, nn, k, hm, rfl, hk, hn, hc⟩ := hx.sl_inv
    obtain ⟨g1, g2, g3, g4⟩ := run_bounds3 (C := C) (w := w) true e0 e1 e2 rm rh rl (by simp) (hh3 (by simp)) (show n ≤ k from hk)
    have key : (Instr.sliceAt t (.slice (some ⟨b, o, none⟩) n k) yl yh ym).run C.P w = .ok (.slice (if m1 = l1 then some ⟨b, o, none⟩ else some ⟨b, o + l1 * z, none⟩) (h1 - l1) (m1 - l1)) w := by
      simp [Instr.sliceAt, Instr.slice, run_under (shape_slice hs), g1, run_size hz, add_off]
    refine ⟨_, key, ?_⟩
    split at h
    · simp at h; subst h
      rw [if_neg (by omega)]
      exact .sl _ _ _ _ _ _ b nn (m1 - l1) hm (by omega) (fun e => by cases e) (fun c' e => by injection e)
    · simp at h; subst h
      have e1 : h1 - l1 = 0 := by omega
      have e2 : m1 - l1 = 0 := by omega
      rw [e1, e2]
      split <;> exact rel_arr_nilT _
  · rename_i e cs n cl hs
    obtain ⟨z, hz, h1, e1, l1, e2, h⟩ := h
    simp at h; subst h
    cases rm
    obtain ⟨a, vs, k, rfl, hF, ho, hr, hc, hk, hcl⟩ := hx.arr_inv
    obtain ⟨g1, g2, g3⟩ := run_bounds2 (C := C) (w := w) true e1 e2 rh rl hk (Nat.le_refl _)
    have key : (Instr.sliceAt t (.slice (some a) n k) yl yh none).run C.P w = .ok (.slice (if k = l1 then some a else some (a.add (l1 * z))) (h1 - l1) (k - l1)) w := by
      simp [Instr.sliceAt, Instr.slice, run_under (shape_slice hs), g1, run_size hz]
    refine ⟨_, key, ?_⟩
    have hcut := fun a' ha => rel_arr_cut hF ho hr hc (h1 * z) (l1 * z) (h1 - l1) (k - l1) (cl && h1 == n) a' ha (by omega) (by
      intro hb; simp only [Bool.and_eq_true, beq_iff_eq] at hb; have := hcl hb.1; omega)
    split
    · rename_i hkl
      refine hcut a (fun hne => absurd ?_ hne)
      have : h1 = l1 := by omega
      subst this
      exact List.drop_eq_nil_of_le (by simp; omega)
    · exact hcut _ (fun _ => rfl)
  · rename_i e cs n cl m hs
    obtain ⟨z, hz, m1, e0, h1, e1, l1, e2, h⟩ := h
    simp at h; subst h
    obtain ⟨a, vs, k, rfl, hF, ho, hr, hc, hk, hcl⟩ := hx.arr_inv
    obtain ⟨g1, g2, g3, g4⟩ := run_bounds3 (C := C) (w := w) true e0 e1 e2 rm rh rl (by simp) (hh3 (by simp)) (show n ≤ k from hk)
    have key : (Instr.sliceAt t (.slice (some a) n k) yl yh ym).run C.P w = .ok (.slice (if m1 = l1 then some a else some (a.add (l1 * z))) (h1 - l1) (m1 - l1)) w := by
      simp [Instr.sliceAt, Instr.slice, run_under (shape_slice hs), g1, run_size hz]
    refine ⟨_, key, ?_⟩
    have hcut := fun a' ha => rel_arr_cut hF ho hr hc (h1 * z) (l1 * z) (h1 - l1) (m1 - l1) (h1 == m1) a' ha (by omega) (by
      intro hb; simp only [beq_iff_eq] at hb; omega)
    split
    · rename_i hkl
      refine hcut a (fun hne => absurd ?_ hne)
      have : h1 = l1 := by omega
      subst this
      exact List.drop_eq_nil_of_le (by simp; omega)
    · exact hcut _ (fun _ => rfl)
  · rename_i e hs
    obtain ⟨z, hz, h1, e1, l1, e2, h⟩ := h
    simp at h; subst h
    cases rm
    rw [hx.nils_inv]
    obtain ⟨g1, g2, g3⟩ := run_bounds2 (C := C) (w := w) true e1 e2 rh rl (Nat.le_refl 0) (Nat.le_refl 0)
    have q1 : h1 = 0 := by omega
    subst q1
    have q2 : l1 = 0 := by omega
    subst q2
    exact ⟨.slice none 0 0, by simp [Instr.sliceAt, Instr.slice, run_under (shape_slice hs), g1, run_size hz], .nils⟩
  · rename_i e m hs
    obtain ⟨z, hz, m1, e0, h1, e1, l1, e2, h⟩ := h
    simp at h; subst h
    rw [hx.nils_inv]
    obtain ⟨g1, g2, g3, g4⟩ := run_bounds3 (C := C) (w := w) true e0 e1 e2 rm rh rl (by simp) (hh3 (by simp)) (Nat.le_refl 0)
    have q0 : m1 = 0 := by omega
    subst q0
    have q1 : h1 = 0 := by omega
    subst q1
    have q2 : l1 = 0 := by omega
    subst q2
    exact ⟨.slice none 0 0, by simp [Instr.sliceAt, Instr.slice, run_under (shape_slice hs), g1, run_size hz], .nils⟩
  · rename_i k e r st o hs
    obtain ⟨z, hz, h1, e1, l1, e2, h⟩ := h
    cases rm
    obtain ⟨b, nn, hm, rfl⟩ := hx.ptr_inv
    obtain ⟨g1, g2, g3⟩ := run_bounds2 (C := C) (w := w) false e1 e2 rh rl (Nat.le_refl k) (Nat.le_refl k)
    have key : (Instr.sliceAt t (.pointer (some ⟨b, o, none⟩)) yl yh none).run C.P w = .ok (.slice (some (if k = l1 then ⟨b, o, none⟩ else ⟨b, o + l1 * z, none⟩)) (h1 - l1) (k - l1)) w := by
      simp [Instr.sliceAt, run_under (shape_array hs), Instr.sureAddr, g1, run_size hz, add_off]
    refine ⟨_, key, ?_⟩
    split at h
    · simp at h; subst h
      rw [if_neg (by omega)]
      exact .sl _ _ _ _ _ _ b nn (k - l1) hm (by omega) (fun e => by cases e) (fun c' e => by injection e)
    · simp at h; subst h
      have q1 : h1 - l1 = 0 := by omega
      have q2 : k - l1 = 0 := by omega
      rw [q1, q2]
      exact rel_arr_nilT _
  · rename_i k e cs hs
    obtain ⟨z, hz, h1, e1, l1, e2, h⟩ := h
    simp at h; subst h
    cases rm
    obtain ⟨a, vs, rfl, hF, ho, hr, hc⟩ := hx.iptr_inv
    obtain ⟨g1, g2, g3⟩ := run_bounds2 (C := C) (w := w) false e1 e2 rh rl (Nat.le_refl k) (Nat.le_refl k)
    have key : (Instr.sliceAt t (.pointer (some a)) yl yh none).run C.P w = .ok (.slice (some (if k = l1 then a else a.add (l1 * z))) (h1 - l1) (k - l1)) w := by
      simp [Instr.sliceAt, run_under (shape_array hs), Instr.sureAddr, g1, run_size hz]
    refine ⟨_, key, ?_⟩
    refine rel_arr_cut hF ho hr hc (h1 * z) (l1 * z) (h1 - l1) (k - l1) (h1 == k) _ (fun hne => ?_) (by omega) (by
      intro hb; simp only [beq_iff_eq] at hb; omega)
    split
    · rename_i hkl
      refine absurd ?_ hne
      have : h1 = l1 := by omega
      subst this
      exact List.drop_eq_nil_of_le (by simp; omega)
    · rfl
end
end Go.Am
