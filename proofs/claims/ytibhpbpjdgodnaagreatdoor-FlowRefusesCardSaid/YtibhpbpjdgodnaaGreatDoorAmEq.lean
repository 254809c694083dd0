/- Equality of arrays of whole numbers, as the machine has it. -/
import Derived.Test.YtibhpbpjdgodnaaGreatDoorAmView
namespace Go.Am
open Go
set_option linter.unusedVariables false
set_option linter.unusedSimpArgs false
theorem pureRun_for (P : Program) (B : Nat → Option Bool × Unit → Sem (ForInStep (Option Bool × Unit))) (eq : Nat → Bool) : ∀ (m s : Nat),
    (∀ i r, s ≤ i → i < s + m → pureRun P (B i r) = some (if eq i = true then .yield (none, ()) else .done (some false, ()))) →
    pureRun P (forIn (List.range' s m) ((none, ()) : Option Bool × Unit) B) = some (if (List.range' s m).all eq = true then (none, ()) else (some false, ()))
  | 0, s, h => by simp; rfl
  | m + 1, s, h => by
    rw [List.range'_succ, List.forIn_cons]
    show pureRun P ((B s (none, ())).bind _) = _
    rw [pureRun_bind, h s _ (Nat.le_refl _) (by omega)]
    simp only [Option.bind_some, List.all_cons]
    by_cases he : eq s = true
    · simp only [he, if_true, Bool.true_and]
      exact pureRun_for P B eq m (s + 1) fun i r h1 h2 => h i r (by omega) (by omega)
    · simp only [he, Bool.false_and, Bool.false_eq_true, if_false]
      rfl
section
variable {C : Cfg} {t e : TypeId} {x y : Operand} {k : IntKind} {n : Nat}
theorem pureRun_size {z : Nat} (h : C.size e = some z) : pureRun C.P (sizeOf e) = some z := by
  unfold Cfg.size at h
  rw [Option.map_eq_some_iff] at h
  obtain ⟨i, hi, rfl⟩ := h
  show pureRun C.P ((typeInfo e).bind fun i => pure i.size) = _
  rw [pureRun_bind]
  have : pureRun C.P (typeInfo e) = some i := by
    show pureRun C.P (match C.P.info? e with | some i => pure i | none => stuck "no such type") = _
    rw [hi]; rfl
  rw [this]; rfl
theorem pureRun_part (ha : C.isAgg e = some false) (xs : Array Value) (i : Nat) (v : Value) (h : xs[i]? = some v) : pureRun C.P (part e xs i) = some v := by
  unfold Cfg.isAgg at ha
  show pureRun C.P (((underlying e).bind _).bind _) = _
  rw [pureRun_bind, pureRun_bind]
  cases hu : C.P.underlying e with
  | none => rw [hu] at ha; cases ha
  | some d =>
    rw [pureRun_under hu]
    rw [hu] at ha
    cases d <;> simp at ha <;> simp [h] <;> rfl
theorem pureRun_equalInt {d : Nat} {k' : IntKind} {a b : Int} (hu : C.P.underlying e = some (.int k')) : pureRun C.P (Op.equalIn (d + 1) e (.int k a) (.int k b)) = some (a == b) := by
  unfold Op.equalIn
  show pureRun C.P ((underlying e).bind _) = _
  rw [pureRun_bind, pureRun_under hu]
  simp only [Option.bind_some, if_true]
  rfl
theorem toVals_ints (l : List Int) : toVals (ints k l) = some (l.map (Value.int k)) := by
  induction l with
  | nil => rfl
  | cons a l ih => simp only [ints, List.map_cons] at ih ⊢; simp [toVals, toVal1, ih]
theorem toVal_ints (l : List Int) : toVal (.agg (ints k l)) = some (.agg (l.map (Value.int k)).toArray) := by simp [toVal, toVals_ints]
theorem pureRun_equalArr {k' : IntKind} {a b : List Int} (hs : C.shape t = .array n e) (he : C.shape e = .int k') (hz : C.size e = some 1) (ha : C.isAgg e = some false) (h1 : a.length = n) (h2 : b.length = n) (d : Nat) :
    pureRun C.P (Op.equalIn (d + 2) t (.agg (a.map (Value.int k)).toArray) (.agg (b.map (Value.int k)).toArray)) = some (decide (a = b)) := by
  unfold Op.equalIn
  show pureRun C.P ((underlying t).bind _) = _
  rw [pureRun_bind, pureRun_under (shape_array hs)]
  simp only [Option.bind_some]
  show pureRun C.P ((sizeOf e).bind _) = _
  rw [pureRun_bind, pureRun_size hz]
  simp only [Option.bind_some, Nat.mul_one]
  simp only [Std.Legacy.Range.forIn_eq_forIn_range', Std.Legacy.Range.size]
  show pureRun C.P (Sem.bind (forIn (List.range' 0 _ _) (none, ()) _) _) = _
  rw [pureRun_bind]
  rw [show (n - 0 + 1 - 1) / 1 = n by omega]
  rw [pureRun_for C.P _ (fun i => a.getD i 0 == b.getD i 0) n 0 ?_]
  · have key : ((List.range' 0 n).all fun i => a.getD i 0 == b.getD i 0) = decide (a = b) := by
      rw [Bool.eq_iff_iff, List.all_eq_true, decide_eq_true_eq]
      constructor
      · intro h
        apply List.ext_getElem?; intro j
        rcases Nat.lt_or_ge j n with hj | hj
        · have := h j (by rw [List.mem_range'_1]; omega)
          rw [beq_iff_eq, List.getD_eq_getElem?_getD, List.getD_eq_getElem?_getD] at this
          rw [List.getElem?_eq_getElem (by omega), List.getElem?_eq_getElem (by omega)] at this ⊢
          simpa using this
        · rw [List.getElem?_eq_none (by omega), List.getElem?_eq_none (by omega)]
      · rintro rfl j _; simp
    rw [key]
    by_cases hab : a = b
    · simp only [hab, decide_true, if_true, Option.bind_some]; rfl
    · simp only [hab, decide_false, Bool.false_eq_true, if_false, Option.bind_some]; rfl
  · intro i r _ hi
    have ga : ∀ l : List Int, l.length = n → ((l.map (Value.int k)).toArray)[i]? = some (.int k (l.getD i 0)) := by
      intro l hl
      rw [List.getElem?_toArray, List.getElem?_map, List.getElem?_eq_getElem (by omega), List.getD_eq_getElem?_getD, List.getElem?_eq_getElem (by omega)]
      rfl
    show pureRun C.P ((part e _ i).bind fun u => (part e _ i).bind fun v => (Op.equalIn (d + 1) e u v).bind _) = _
    rw [pureRun_bind, pureRun_part ha _ _ _ (ga a h1)]
    simp only [Option.bind_some]
    rw [pureRun_bind, pureRun_part ha _ _ _ (ga b h2)]
    simp only [Option.bind_some]
    rw [pureRun_bind, pureRun_equalInt (shape_int he)]
    simp only [Option.bind_some]
    cases (a.getD i 0 == b.getD i 0) <;> rfl
theorem guardType_int {k' : IntKind} (he : C.P.underlying e = some (.int k')) (d : Nat) : C.P.eqGuardType (d + 1) e = false := by
  simp only [Program.eqGuardType, he]
theorem binA_arr {k' : IntKind} {a b : List Int} (hs : C.shape t = .array n e) (he : C.shape e = .int k') (hz : C.size e = some 1) (ha : C.isAgg e = some false) (h1 : a.length = n) (h2 : b.length = n) :
    binA C .eql t x y (.agg (ints k a)) (.agg (ints k b)) = some (.b (decide (a = b))) ∧ binA C .neq t x y (.agg (ints k a)) (.agg (ints k b)) = some (.b (!decide (a = b))) := by
  have hg : C.P.eqGuardType C.P.depth t = false := by
    have : C.P.depth = (2 * (C.P.types.size + Made.depth)) + 1 + 1 := rfl
    rw [this, Program.eqGuardType, shape_array hs]
    exact guardType_int (shape_int he) _
  have gd : ∀ op, op = .eql ∨ op = .neq → pureRun C.P (eqGuard op t x y (.agg (a.map (Value.int k)).toArray) (.agg (b.map (Value.int k)).toArray)) = some () := by
    rintro op (rfl | rfl) <;>
    · show pureRun C.P (if !(C.P.eqGuardType C.P.depth t) then pure () else _) = _
      rw [hg]; rfl
  have eq : pureRun C.P (Op.equal t (.agg (a.map (Value.int k)).toArray) (.agg (b.map (Value.int k)).toArray)) = some (decide (a = b)) := pureRun_equalArr hs he hz ha h1 h2 9998
  constructor
  · simp only [binA, toVal_ints, pureV]
    have : pureRun C.P (do eqGuard .eql t x y (.agg (a.map (Value.int k)).toArray) (.agg (b.map (Value.int k)).toArray); binOp .eql t (.agg (a.map (Value.int k)).toArray) (.agg (b.map (Value.int k)).toArray) : Sem Value) = some (.bool (decide (a = b))) := by
      show pureRun C.P ((eqGuard .eql t x y _ _).bind fun _ => (Op.equal t _ _).bind fun b => Sem.pure (Value.bool b)) = _
      rw [pureRun_bind, gd _ (.inl rfl)]
      simp only [Option.bind_some]
      rw [pureRun_bind, eq]; rfl
    rw [this]; rfl
  · simp only [binA, toVal_ints, pureV]
    have : pureRun C.P (do eqGuard .neq t x y (.agg (a.map (Value.int k)).toArray) (.agg (b.map (Value.int k)).toArray); binOp .neq t (.agg (a.map (Value.int k)).toArray) (.agg (b.map (Value.int k)).toArray) : Sem Value) = some (.bool (!decide (a = b))) := by
      show pureRun C.P ((eqGuard .neq t x y _ _).bind fun _ => (Op.equal t _ _).bind fun b => Sem.pure (Value.bool (!b))) = _
      rw [pureRun_bind, gd _ (.inr rfl)]
      simp only [Option.bind_some]
      rw [pureRun_bind, eq]; rfl
    rw [this]; rfl

/-! Slices of arrays: flat rows. -/
section
variable {r o j z : Nat} {st : List Nat} {cap : Option Nat} {σ : List O} {cs : List V} {cl : Bool} {k1 : IntKind}
theorem idx_sla (hs : C.shape t = .slice e) (hz : C.size e = some (z + 1)) (h : j < n) : indexAddrA C t (.sl r st o n (z + 1) cap) (.i k1 j) = some (.ptr r st (o + j * (z + 1))) := by
  simp [indexAddrA, hs, hz, idx_nat h]
theorem idx_arra (hs : C.shape t = .slice e) (hz : C.size e = some (z + 1)) (h : j < n) : indexAddrA C t (.arr cs n cl) (.i k1 j) = some (.iptr (cs.drop (j * (z + 1)))) := by
  simp [indexAddrA, hs, hz, idx_nat h]
theorem idx_ptr {m : Nat} (hs : C.shape t = .array m e) (hz : C.size e = some 1) (h : j < m) : indexAddrA C t (.ptr r st o) (.i k1 j) = some (.ptr r st (o + j)) := by
  simp [indexAddrA, hs, hz, idx_nat h]
theorem load_ipa (ha : C.isAgg t = some true) (hz : C.size t = some z) (h : z ≤ cs.length) : loadA C t σ (.iptr cs) = some (.agg (cs.take z)) := by
  simp [loadA, cellsAt, ha, hz, take?, h]
theorem flat_ints (n z : Nat) (i : Int) : (List.replicate n (ints k (List.replicate z i))).flatten = ints k (List.replicate (n * z) i) := by
  induction n with
  | zero => simp [ints]
  | succ n ih => rw [List.replicate_succ, List.flatten_cons, ih, ints_app, List.replicate_append_replicate, Nat.succ_mul, Nat.add_comm]
theorem make_agg {b : Nat} (he : C.elem t = some (e, z, .agg (ints k (List.replicate z 0)))) (hb : C.bytes e = b) (h : n * b ≤ 140737488355328) (h2 : n ≤ 9223372036854775807) :
    makeSliceA C t (.i .i64 n) (.i .i64 n) σ st = some (.sl σ.length st 0 n z (some n), σ ++ [.cells st (ints k (List.replicate (n * z) 0))]) := by
  simp only [makeSliceA, he, Option.bind_some, Int.toNat_natCast, roomy, hb]
  rw [if_pos (by omega), if_pos (by omega), if_pos ⟨by omega, by simpa using h⟩]
  rw [← flat_ints n z 0]; rfl
theorem build_zero {q : List (Nat × V)} (hq : q = []) {zs : List V} (hs : C.shape t = .array n e) (hz : C.size e = some z) (hze : C.zero t = some (.agg zs)) : buildA C t q = some (.agg zs) := by
  subst hq
  simp [buildA, hze, hs, hz, partsAt, fillA, V.cells]
theorem frz_sla {base : Nat} {l : List Int} (hr : base ≤ r) (h : rowAt σ r st = some (ints k l)) (hl : l.length = n * z) :
    freeze base σ (.sl r st 0 n z cap) = .arr (ints k l) n (cap == some n) := by
  simp only [freeze, freezeC, freeze1, if_pos hr, h]
  split
  · rename_i h0
    subst h0
    have : l = [] := List.eq_nil_of_length_eq_zero (by simpa using hl)
    subst this; rfl
  · rw [List.drop_zero, List.take_of_length_le (by rw [ints_len, hl]; exact Nat.le_refl _), frz_ints]
end

/-! Structs of scalars. -/
theorem pureRun_forList {α : Type} (P : Program) (B : α → Option Bool × Unit → Sem (ForInStep (Option Bool × Unit))) (eq : α → Bool) : ∀ (l : List α),
    (∀ x ∈ l, ∀ r, pureRun P (B x r) = some (if eq x = true then .yield (none, ()) else .done (some false, ()))) →
    pureRun P (forIn l ((none, ()) : Option Bool × Unit) B) = some (if l.all eq = true then (none, ()) else (some false, ()))
  | [], h => by simp; rfl
  | a :: l, h => by
    rw [List.forIn_cons]
    show pureRun P ((B a (none, ())).bind _) = _
    rw [pureRun_bind, h a (by simp)]
    simp only [Option.bind_some, List.all_cons]
    by_cases he : eq a = true
    · simp only [he, if_true, Bool.true_and]
      exact pureRun_forList P B eq l fun x hx r => h x (by simp [hx]) r
    · simp only [he, Bool.false_and, Bool.false_eq_true, if_false]
      rfl
/-- Two scalars of one type. -/
def scEq (C : Cfg) (t : TypeId) (a b : V) : Option Bool :=
  match C.P.underlying t, a, b with
  | some (.int _), .i k x, .i k' y => if k = k' then some (decide (x = y)) else none
  | some .string, .s x, .s y => some (decide (x = y))
  | some .bool, .b x, .b y => some (x == y)
  | _, _, _ => none
theorem pureRun_scEq {a b : V} {u v : Value} {r : Bool} (h : scEq C t a b = some r) (ha : toVal a = some u) (hb : toVal b = some v) (d : Nat) : pureRun C.P (Op.equalIn (d + 1) t u v) = some r := by
  unfold scEq at h
  unfold Op.equalIn
  show pureRun C.P ((underlying t).bind _) = _
  rw [pureRun_bind]
  split at h
  · rename_i hu
    split at h
    · rename_i hk
      subst hk
      cases ha; cases hb; cases h
      rw [pureRun_under hu]
      simp only [Option.bind_some, if_true]
      rfl
    · cases h
  · rename_i hu
    cases ha; cases hb; cases h
    rw [pureRun_under hu]
    simp only [Option.bind_some]
    rw [show ∀ x y : ByteArray, decide (x = y) = (x == y) from fun x y => by
      rw [Bool.eq_iff_iff, decide_eq_true_eq]
      cases x; cases y
      rename_i x y
      show _ ↔ (x == y) = true
      simp]
    rfl
  · rename_i hu
    cases ha; cases hb; cases h
    rw [pureRun_under hu]
    rfl
  · cases h
theorem pureRun_equalStruct {fs : Array Field} {us vs : Array Value} (hu : C.P.underlying t = some (.struct fs)) (hh : C.P.stoodInHeld t = false) (eq : Field → Bool) (d : Nat)
    (h : ∀ f ∈ fs.toList, f.name ≠ "_" ∧ C.isAgg f.type = some false ∧ ∃ u v, us[f.offset]? = some u ∧ vs[f.offset]? = some v ∧ pureRun C.P (Op.equalIn d f.type u v) = some (eq f)) :
    pureRun C.P (Op.equalIn (d + 1) t (.agg us) (.agg vs)) = some (fs.toList.all eq) := by
  unfold Op.equalIn
  show pureRun C.P ((underlying t).bind _) = _
  rw [pureRun_bind, pureRun_under hu]
  simp only [Option.bind_some]
  show pureRun C.P (if C.P.stoodInHeld t = true then _ else _) = _
  rw [if_neg (by rw [hh]; simp)]
  rw [← Array.forIn_toList]
  show pureRun C.P (Sem.bind (forIn fs.toList (none, ()) _) _) = _
  rw [pureRun_bind, pureRun_forList C.P _ eq fs.toList ?_]
  · cases hb : fs.toList.all eq
    · simp only [Bool.false_eq_true, if_false, Option.bind_some]; rfl
    · simp only [if_true, Option.bind_some]; rfl
  · intro f hf r
    obtain ⟨h1, h2, u, v, h3, h4, h5⟩ := h f hf
    rw [if_pos h1]
    show pureRun C.P ((part f.type _ f.offset).bind fun u => (part f.type _ f.offset).bind fun v => (Op.equalIn d f.type u v).bind _) = _
    rw [pureRun_bind, pureRun_part h2 _ _ _ h3]
    simp only [Option.bind_some]
    rw [pureRun_bind, pureRun_part h2 _ _ _ h4]
    simp only [Option.bind_some]
    rw [pureRun_bind, h5]
    simp only [Option.bind_some]
    cases eq f <;> rfl
theorem binA_struct {fs : Array Field} {us vs : List V} {us' vs' : List Value} (h1 : toVals us = some us') (h2 : toVals vs = some vs') (hu : C.P.underlying t = some (.struct fs)) (hh : C.P.stoodInHeld t = false) (hg : C.P.eqGuardType C.P.depth t = false) (eq : Field → Bool)
    (h : ∀ f ∈ fs.toList, f.name ≠ "_" ∧ C.isAgg f.type = some false ∧ ∃ u v, us'[f.offset]? = some u ∧ vs'[f.offset]? = some v ∧ pureRun C.P (Op.equalIn 9999 f.type u v) = some (eq f)) :
    binA C .eql t x y (.agg us) (.agg vs) = some (.b (fs.toList.all eq)) ∧ binA C .neq t x y (.agg us) (.agg vs) = some (.b (!fs.toList.all eq)) := by
  have e1 : toVal (.agg us) = some (.agg us'.toArray) := by simp [toVal, h1]
  have e2 : toVal (.agg vs) = some (.agg vs'.toArray) := by simp [toVal, h2]
  have gd : ∀ op, op = .eql ∨ op = .neq → pureRun C.P (eqGuard op t x y (.agg us'.toArray) (.agg vs'.toArray)) = some () := by
    rintro op (rfl | rfl) <;>
    · show pureRun C.P (if !(C.P.eqGuardType C.P.depth t) then pure () else _) = _
      rw [hg]; rfl
  have eq' : pureRun C.P (Op.equal t (.agg us'.toArray) (.agg vs'.toArray)) = some (fs.toList.all eq) := pureRun_equalStruct hu hh eq 9999 (fun f hf => by
    obtain ⟨a, b, u, v, c, d, e⟩ := h f hf
    exact ⟨a, b, u, v, by simpa using c, by simpa using d, e⟩)
  constructor
  · simp only [binA, e1, e2, pureV]
    have : pureRun C.P (do eqGuard .eql t x y (.agg us'.toArray) (.agg vs'.toArray); binOp .eql t (.agg us'.toArray) (.agg vs'.toArray) : Sem Value) = some (.bool (fs.toList.all eq)) := by
      show pureRun C.P ((eqGuard .eql t x y _ _).bind fun _ => (Op.equal t _ _).bind fun b => Sem.pure (Value.bool b)) = _
      rw [pureRun_bind, gd _ (.inl rfl)]
      simp only [Option.bind_some]
      rw [pureRun_bind, eq']; rfl
    rw [this]; rfl
  · simp only [binA, e1, e2, pureV]
    have : pureRun C.P (do eqGuard .neq t x y (.agg us'.toArray) (.agg vs'.toArray); binOp .neq t (.agg us'.toArray) (.agg vs'.toArray) : Sem Value) = some (.bool (!fs.toList.all eq)) := by
      show pureRun C.P ((eqGuard .neq t x y _ _).bind fun _ => (Op.equal t _ _).bind fun b => Sem.pure (Value.bool (!b))) = _
      rw [pureRun_bind, gd _ (.inr rfl)]
      simp only [Option.bind_some]
      rw [pureRun_bind, eq']; rfl
    rw [this]; rfl
end
end Go.Am
