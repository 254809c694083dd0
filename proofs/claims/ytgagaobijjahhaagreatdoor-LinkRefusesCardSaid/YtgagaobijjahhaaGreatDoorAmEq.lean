/- Equality of arrays of whole numbers, as the machine has it. -/
import Derived.Test.YtgagaobijjahhaaGreatDoorAmView
namespace Go.Am
open Go
set_option linter.unusedVariables false
set_option linter.unusedSimpArgs false
theorem pureRun_for (P : Program) (B : Nat → Option Bool × Unit → Sem (ForInStep (Option Bool × Unit))) (eq : Nat → Bool) : ∀ (m s : Nat),
    (∀ i r, s ≤ i → i < s + m → pureRun P (B i r) = some (if eq i = true then .yield (none, ()) else .done (some false, ()))) →
    pureRun P (forIn (List.range' s m) ((none, ()) : Option Bool × Unit) B) = some (if (List.range' s m).all eq = true then (none, ()) else (some false, ()))
  | 0, s, h => by simp; rfl
  | m + 1, s, h => by
    rw [List.range'_succ, List.forIn_cons]
    show pureRun P ((B s (none, ())).bind _) = _
    rw [pureRun_bind, h s _ (Nat.le_refl _) (by omega)]
    simp only [Option.bind_some, List.all_cons]
    by_cases he : eq s = true
    · simp only [he, if_true, Bool.true_and]
      exact pureRun_for P B eq m (s + 1) fun i r h1 h2 => h i r (by omega) (by omega)
    · simp only [he, Bool.false_and, Bool.false_eq_true, if_false]
      rfl
section
variable {C : Cfg} {t e : TypeId} {x y : Operand} {k : IntKind} {n : Nat}
theorem pureRun_size {z : Nat} (h : C.size e = some z) : pureRun C.P (sizeOf e) = some z := by
  unfold Cfg.size at h
  rw [Option.map_eq_some_iff] at h
  obtain ⟨i, hi, rfl⟩ := h
  show pureRun C.P ((typeInfo e).bind fun i => pure i.size) = _
  rw [pureRun_bind]
  have : pureRun C.P (typeInfo e) = some i := by
    show pureRun C.P (match C.P.info? e with | some i => pure i | none => stuck "no such type") = _
    rw [hi]; rfl
  rw [this]; rfl
/-! Slices of arrays: flat rows. -/
section
variable {r o j z : Nat} {st : List Nat} {cap : Option Nat} {σ : List O} {cs : List V} {cl : Bool} {k1 : IntKind}
end

/-! Structs of scalars. -/
theorem pureRun_forList {α : Type} (P : Program) (B : α → Option Bool × Unit → Sem (ForInStep (Option Bool × Unit))) (eq : α → Bool) : ∀ (l : List α),
    (∀ x ∈ l, ∀ r, pureRun P (B x r) = some (if eq x = true then .yield (none, ()) else .done (some false, ()))) →
    pureRun P (forIn l ((none, ()) : Option Bool × Unit) B) = some (if l.all eq = true then (none, ()) else (some false, ()))
  | [], h => by simp; rfl
  | a :: l, h => by
    rw [List.forIn_cons]
    show pureRun P ((B a (none, ())).bind _) = _
    rw [pureRun_bind, h a (by simp)]
    simp only [Option.bind_some, List.all_cons]
    by_cases he : eq a = true
    · simp only [he, if_true, Bool.true_and]
      exact pureRun_forList P B eq l fun x hx r => h x (by simp [hx]) r
    · simp only [he, Bool.false_and, Bool.false_eq_true, if_false]
      rfl
def scEq (C : Cfg) (t : TypeId) (a b : V) : Option Bool :=
  match C.P.underlying t, a, b with
  | some (.int _), .i k x, .i k' y => if k = k' then some (decide (x = y)) else none
  | some .string, .s x, .s y => some (decide (x = y))
  | some .bool, .b x, .b y => some (x == y)
  | _, _, _ => none
end
end Go.Am
