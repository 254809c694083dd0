/- Texts in bytes: the program's reader. -/
import Derived.Test.YtijdfdkngbpodaaK14
namespace Go.Am.R1
open Go.Proofs
set_option maxRecDepth 100000
set_option linter.unusedSimpArgs false
set_option linter.unusedVariables false
variable {σ : List O} {p : List Nat}
theorem view_one {x : V} {cs : List V} (h : View σ x cs) : x.one = true := by
  refine h.cases (fun h1 _ => ?_) (fun cl h1 => ?_) (fun r st o cap row h1 _ _ _ _ => ?_) <;> subst h1 <;> rfl
theorem rowAt_set_ne {r r' : Nat} {st : List Nat} {o : O} (h : r ≠ r') : rowAt (σ.set r o) r' st = rowAt σ r' st := by
  simp only [rowAt, List.getElem?_set_ne h]
theorem rowAt_set {r : Nat} {st : List Nat} {cs : List V} (h : r < σ.length) : rowAt (σ.set r (.cells st cs)) r st = some cs := by
  simp only [rowAt, List.getElem?_set_self h, if_true]
theorem rowAt_lt {r : Nat} {st : List Nat} {cs : List V} (h : rowAt σ r st = some cs) : r < σ.length := by
  unfold rowAt at h
  split at h
  · rename_i hs; exact (List.getElem?_eq_some_iff.1 hs).1
  · cases h
/-- Not in a row. -/
def notIn (r : Nat) : V → Prop
  | .sl r' _ _ _ _ _ => r ≠ r'
  | _ => True
theorem view_set {x : V} {cs : List V} {r : Nat} {o : O} (h : View σ x cs) (hr : notIn r x) : View (σ.set r o) x cs := by
  refine h.cases (fun h1 h2 => ?_) (fun cl h1 => ?_) (fun r' st off cap row h1 h2 h3 h4 h5 => ?_)
  · subst h1; exact h2
  · subst h1; exact ⟨rfl, rfl⟩
  · subst h1
    exact ⟨rfl, rfl, h2, row, by rw [rowAt_set_ne hr]; exact h3, h4, h5⟩
theorem take_set {r : Nat} {o : O} : (σ.set r o).take σ.length = σ.set r o := List.take_of_length_le (by rw [List.length_set]; exact Nat.le_refl _)
theorem bnd_none {d lo hi : Nat} : bnd none d lo hi = some d := rfl
/-- A slice from a place on. -/
theorem view_tail {C : Cfg} {t e : TypeId} {x : V} {cs : List V} (h : View σ x cs) (hs : C.shape t = .slice e) (hz : C.size e = some 1) (k : IntKind) (lo : Nat) (h1 : lo ≤ cs.length) :
    ∃ y, sliceA C t x (some (.i k lo)) none none = some y ∧ (∀ r, notIn r x → notIn r y) ∧ ∀ (σ' : List O) (cs' : List V), View σ' x cs' → View σ' y (cs'.drop lo) := by
  refine h.cases (fun e1 e2 => ?_) (fun cl e1 => ?_) (fun r st o cap row e1 hcap hr ho hc => ?_)
  · subst e1; subst e2
    have g2 : lo = 0 := by simpa using h1
    subst g2
    refine ⟨.nils, by simp [sliceA, hs, hz, bnd], fun _ _ => trivial, fun σ' cs' h' => ?_⟩
    have : cs' = [] := h'
    subst this; rfl
  · subst e1
    refine ⟨.arr ((cs.take (cs.length * 1)).drop (lo * 1)) (cs.length - lo) (cl && cs.length == cs.length), by simp [sliceA, hs, hz, bnd_none, bnd_nat (Nat.zero_le _) h1], fun _ _ => trivial, fun σ' cs' h' => ?_⟩
    obtain ⟨rfl, _⟩ := h'
    exact ⟨by simp, by rw [List.length_drop]⟩
  · subst e1
    have hcap' : cs.length ≤ cap.getD cs.length := by
      cases cap with
      | none => exact Nat.le_refl _
      | some c => exact hcap c rfl
    by_cases hl : lo < cs.length
    · refine ⟨.sl r st (o + lo * 1) (cs.length - lo) 1 (cap.map (· - lo)), by simp [sliceA, hs, hz, bnd_none, bnd_nat (Nat.zero_le _) h1, hl], fun _ h => h, fun σ' cs' h' => ?_⟩
      obtain ⟨_, e2, _, row', a1, a2, a3⟩ := h'
      refine ⟨rfl, by rw [List.length_drop]; omega, fun c hc' => ?_, row', a1, by omega, ?_⟩
      · cases cap with
        | none => simp at hc'
        | some c0 => simp at hc'; have := hcap c0 rfl; omega
      · rw [← a3, List.drop_take, List.drop_drop, Nat.mul_one]
    · have g2 : lo = cs.length := by omega
      subst g2
      refine ⟨.arr [] 0 false, by simp [sliceA, hs, hz, bnd_none, bnd_nat (Nat.zero_le _) h1], fun _ _ => trivial, fun σ' cs' h' => ?_⟩
      obtain ⟨_, e2, _, row', a1, a2, a3⟩ := h'
      have : cs'.drop cs.length = [] := by rw [List.drop_eq_nil_iff]; omega
      rw [this]; exact ⟨rfl, rfl⟩
end Go.Am.R1
