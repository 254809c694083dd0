/- Parts of one machine and of the walks over it, joined: M1 M2 M3. -/
import Derived.Test.YtibhpbpjdgodnaaGreatDoorJA
import Derived.Test.YtibhpbpjdgodnaaGreatDoorAmZ
import Derived.Test.YtibhpbpjdgodnaaGreatDoorJM
/- Stems: a hole, a place, leaves, depth; both ways. -/
namespace Go.Am.R2
open Go.Proofs
set_option maxRecDepth 100000
set_option linter.unusedSimpArgs false
set_option linter.unusedVariables false
variable {σ : List O} {p : List Nat}
def holeV : List V := .i .i64 (-1) :: .i .i64 (-1) :: ints .u8 (List.replicate 32 0)
theorem hole_ok : runF cfg 38 [] σ p = some (.agg holeV, σ) := by
  refine run_done rfl rfl Tryz.func38 rfl ?_
  simp +contextual (disch := first | omega | exact rfl | decide | exact kpF (by decide) | exact kpT (by decide) | assumption | exact Z2z | exact Z30 | exact Z32 | exact Z31 | exact Z33 | exact Z34 | (simp only [ZI] <;> omega) | simp only [ZK] | (simp only [ZL] <;> assumption)) only [Tryz.f38, ZH, SOp, GOp, ↓Z1c, Int.reduceAdd, Int.reduceSub, Int.reduceMul, Int.reduceNeg, accs, touch, touchM, okPair, Nat.reduceAdd, Nat.reduceLeDiff, Nat.reduceMul, Nat.reduceSub, isV, opA, grdO, grd, Z41, Int.reduceLT, Int.reduceLE, Int.reduceToNat, builtinP, builtinA, changes, fieldAddrA, resA, tupled, ↓reduceIte, Nat.reduceEqDiff, Nat.reduceLT, Z70, Int.reduceEq, Y3, Y5, Y22, Y24]
  rfl
theorem hole2_ok : runF cfg 64 [] σ p = some (.agg holeV, σ) := by
  refine run_done rfl rfl Tryz.func64 rfl ?_
  simp +contextual (disch := first | omega | exact rfl | decide | exact kpF (by decide) | exact kpT (by decide) | assumption | exact Z2z | exact Z30 | exact Z32 | exact Z31 | exact Z33 | exact Z34 | (simp only [ZI] <;> omega) | simp only [ZK] | (simp only [ZL] <;> assumption)) only [Tryz.f64, ZH, SOp, GOp, ↓Z1c, Int.reduceAdd, Int.reduceSub, Int.reduceMul, Int.reduceNeg, accs, touch, touchM, okPair, Nat.reduceAdd, Nat.reduceLeDiff, Nat.reduceMul, Nat.reduceSub, isV, opA, grdO, grd, Z41, Int.reduceLT, Int.reduceLE, Int.reduceToNat, builtinP, builtinA, changes, fieldAddrA, resA, tupled, ↓reduceIte, Nat.reduceEqDiff, Nat.reduceLT, Z70, Int.reduceEq, Y3, Y5, Y22, Y24]
  rfl
def inS (x : Int) : Bool := decide (0 ≤ x) && decide (x < 4096)
theorem sector_ok (x : Int) : runF cfg 88 [.i .i64 x] σ p = some (.b (inS x), σ) := by
  refine run_done rfl rfl Tryz.func88 rfl ?_
  simp +contextual (disch := first | omega | exact rfl | decide | exact kpF (by decide) | exact kpT (by decide) | assumption | exact Z2z | exact Z30 | exact Z32 | exact Z31 | exact Z33 | exact Z34 | (simp only [ZI] <;> omega) | simp only [ZK] | (simp only [ZL] <;> assumption)) only [Tryz.f88, ZH, SOp, GOp, ↓Z1c, Int.reduceAdd, Int.reduceSub, Int.reduceMul, Int.reduceNeg, accs, touch, touchM, okPair, Nat.reduceAdd, Nat.reduceLeDiff, Nat.reduceMul, Nat.reduceSub, isV, opA, grdO, grd, Z41, Int.reduceLT, Int.reduceLE, Int.reduceToNat, builtinP, builtinA, changes, fieldAddrA, resA, tupled, ↓reduceIte, Nat.reduceEqDiff, Nat.reduceLT, Z70, Int.reduceEq, Y3, inS]
theorem sector2_ok (x : Int) : runF cfg 89 [.i .i64 x] σ p = some (.b (inS x), σ) := by
  refine run_done rfl rfl Tryz.func89 rfl ?_
  have e : decide (x ≤ 4095) = decide (x < 4096) := decide_eq_decide.2 (by omega)
  simp +contextual (disch := first | omega | exact rfl | decide | exact kpF (by decide) | exact kpT (by decide) | assumption | exact Z2z | exact Z30 | exact Z32 | exact Z31 | exact Z33 | exact Z34 | (simp only [ZI] <;> omega) | simp only [ZK] | (simp only [ZL] <;> assumption)) only [Tryz.f89, ZH, SOp, GOp, ↓Z1c, Int.reduceAdd, Int.reduceSub, Int.reduceMul, Int.reduceNeg, accs, touch, touchM, okPair, Nat.reduceAdd, Nat.reduceLeDiff, Nat.reduceMul, Nat.reduceSub, isV, opA, grdO, grd, Z41, Int.reduceLT, Int.reduceLE, Int.reduceToNat, builtinP, builtinA, changes, fieldAddrA, resA, tupled, ↓reduceIte, Nat.reduceEqDiff, Nat.reduceLT, Z70, Int.reduceEq, Y3, inS, e]
def leavesI (n : Int) : Int := if n < 1 then 0 else (n - 1) / 128 + 1
/-- How often by three. -/
def IsDepth (n : Int) (d : Nat) : Prop := d ≤ 40 ∧ (∀ j, j < d → (3 : Int) ^ j < n) ∧ n ≤ 3 ^ d
end Go.Am.R2

/- Stems: is it right, both ways. -/
namespace Go.Am.R2
open Go.Proofs
set_option maxRecDepth 100000
set_option linter.unusedSimpArgs false
set_option linter.unusedVariables false
variable {σ : List O} {p : List Nat}
theorem dr87x1 {p : List Nat} {s : St} {Q : Ex → St → Prop} (l : List Oper) : Wq cfg 87 p (.region 1 l.toArray true) s Q = TrQ cfg p l.toArray l s [] fun tr s => ([(1, 0)] : List (Nat × Nat)).all (okPair tr) = true ∧ Q .normal s := Wp_drawT 1 l (show cfg.cls 87 1 = [(1, 0)] from rfl) (by decide)
/-- A pointer's cells. -/
def ptV (a b : Int) (z : List Int) : List V := .i .i64 a :: .i .i64 b :: ints .u8 z
theorem ptV_len {a b : Int} {z : List Int} (h : z.length = 32) : (ptV a b z).length = 34 := by simp [ptV, ints_len, h]
theorem ptV_fk {a b : Int} {z : List Int} (h : z.length = 32) : (ptV a b z).map V.fk = ([(.i .i64), (.i .i64)] ++ List.replicate 32 (.i .u8) : List Fk).map some := by
  simp only [ptV, List.map_cons, fk_ints, h, fk_i]; rfl
theorem ptV_one {a b : Int} {z : List Int} : (ptV a b z).all V.one = true := by
  simp only [ptV, List.all_cons, one_i, Bool.true_and, ints, List.all_map]
  rw [List.all_eq_true]; intro x _; rfl
theorem ints_one {k : IntKind} {z : List Int} : (ints k z).all V.one = true := by
  simp only [ints, List.all_map]
  rw [List.all_eq_true]; intro x _; rfl
def isHoleB (a b : Int) (z : List Int) : Bool := decide (a = -1) && (decide (b = -1) && decide (z = List.replicate 32 0))
theorem eqHole {x y : Operand} {a b : Int} {z : List Int} (h : z.length = 32) : binA cfg .eql 24 x y (.agg (ptV a b z)) (.agg holeV) = some (.b (isHoleB a b z)) := by
  have := eq24 (x := x) (y := y) (ptV_fk (a := a) (b := b) h) (ptV_fk (a := -1) (b := -1) (z := List.replicate 32 0) rfl)
  refine this.trans ?_
  simp only [ptV, holeV, eqB_cons, scB_i, eqB_ints, isHoleB]
theorem isHole_ok (a b : Int) (z : List Int) (h : z.length = 32) : runF cfg 87 [.agg (ptV a b z)] σ p = some (.b (isHoleB a b z), σ) := by
  refine run_done rfl rfl Tryz.func87 rfl ?_
  have hl := ptV_len (a := a) (b := b) h
  have ho := ptV_one (a := a) (b := b) (z := z)
  have hh := fun (τ : List O) q => hole2_ok (σ := τ) (p := q)
  have e := fun x y => eqHole (x := x) (y := y) (a := a) (b := b) h
  have tk := take_all hl
  simp +contextual (disch := first | omega | exact rfl | decide | exact kpF (by decide) | exact kpT (by decide) | assumption | exact Z2z | exact Z30 | exact Z32 | exact Z31 | exact Z33 | exact Z34 | (simp only [ZI] <;> omega) | simp only [ZK] | (simp only [ZL] <;> assumption)) only [Tryz.f87, ZH, SOp, GOp, ↓Z1c, Int.reduceAdd, Int.reduceSub, Int.reduceMul, Int.reduceNeg, accs, touch, touchM, okPair, Nat.reduceAdd, Nat.reduceLeDiff, Nat.reduceMul, Nat.reduceSub, isV, opA, grdO, grd, Z41, Int.reduceLT, Int.reduceLE, Int.reduceToNat, builtinP, builtinA, changes, fieldAddrA, resA, tupled, ↓reduceIte, Nat.reduceEqDiff, Nat.reduceLT, Z70, Int.reduceEq, dr87x1, Y3, Y5, Y22, Y24, hh, e, tk, ho]
def rightB (a b : Int) (z : List Int) : Bool := isHoleB a b z || (inS a && (decide (b = -1) || (inS b && !decide (b = a))))
theorem right_ok (a b : Int) (z : List Int) (h : z.length = 32) : runF cfg 40 [.agg (ptV a b z)] σ p = some (.b (rightB a b z), σ) := by
  refine run_done rfl rfl Tryz.func40 rfl ?_
  have hl := ptV_len (a := a) (b := b) h
  have ho := ptV_one (a := a) (b := b) (z := z)
  have hh := fun (τ : List O) q => isHole_ok (σ := τ) (p := q) a b z h
  have s1 := fun (τ : List O) q => sector_ok (σ := τ) (p := q) a
  have s2 := fun (τ : List O) q => sector_ok (σ := τ) (p := q) b
  have tk := take_all hl
  cases c1 : isHoleB a b z with
  | true =>
    rw [c1] at hh
    simp +contextual (disch := first | omega | exact rfl | decide | exact kpF (by decide) | exact kpT (by decide) | assumption | exact Z2z | exact Z30 | exact Z32 | exact Z31 | exact Z33 | exact Z34 | (simp only [ZI] <;> omega) | simp only [ZK] | (simp only [ZL] <;> assumption)) only [Tryz.f40, ZH, SOp, GOp, ↓Z1c, Int.reduceAdd, Int.reduceSub, Int.reduceMul, Int.reduceNeg, accs, touch, touchM, okPair, Nat.reduceAdd, Nat.reduceLeDiff, Nat.reduceMul, Nat.reduceSub, isV, opA, grdO, grd, Z41, Int.reduceLT, Int.reduceLE, Int.reduceToNat, builtinP, builtinA, changes, fieldAddrA, resA, tupled, ↓reduceIte, Nat.reduceEqDiff, Nat.reduceLT, Z70, Int.reduceEq, Y3, Y5, Y22, Y24, hh, tk, rightB, c1, ho]
  | false =>
    rw [c1] at hh
    simp only [ptV] at *
    cases c2 : inS a with
    | false =>
      rw [c2] at s1
      simp +contextual (disch := first | omega | exact rfl | decide | exact kpF (by decide) | exact kpT (by decide) | assumption | exact Z2z | exact Z30 | exact Z32 | exact Z31 | exact Z33 | exact Z34 | (simp only [ZI] <;> omega) | simp only [ZK] | (simp only [ZL] <;> assumption)) only [Tryz.f40, ZH, SOp, GOp, ↓Z1c, Int.reduceAdd, Int.reduceSub, Int.reduceMul, Int.reduceNeg, accs, touch, touchM, okPair, Nat.reduceAdd, Nat.reduceLeDiff, Nat.reduceMul, Nat.reduceSub, isV, opA, grdO, grd, Z41, Int.reduceLT, Int.reduceLE, Int.reduceToNat, builtinP, builtinA, changes, fieldAddrA, resA, tupled, ↓reduceIte, Nat.reduceEqDiff, Nat.reduceLT, Z70, Int.reduceEq, Y3, Y5, Y22, Y24, hh, s1, ints_one, tk, rightB, c1, c2]
    | true =>
      rw [c2] at s1
      by_cases c3 : b = -1
      · subst c3
        simp +contextual (disch := first | omega | exact rfl | decide | exact kpF (by decide) | exact kpT (by decide) | assumption | exact Z2z | exact Z30 | exact Z32 | exact Z31 | exact Z33 | exact Z34 | (simp only [ZI] <;> omega) | simp only [ZK] | (simp only [ZL] <;> assumption)) only [Tryz.f40, ZH, SOp, GOp, ↓Z1c, Int.reduceAdd, Int.reduceSub, Int.reduceMul, Int.reduceNeg, accs, touch, touchM, okPair, Nat.reduceAdd, Nat.reduceLeDiff, Nat.reduceMul, Nat.reduceSub, isV, opA, grdO, grd, Z41, Int.reduceLT, Int.reduceLE, Int.reduceToNat, builtinP, builtinA, changes, fieldAddrA, resA, tupled, ↓reduceIte, Nat.reduceEqDiff, Nat.reduceLT, Z70, Int.reduceEq, Y3, Y5, Y22, Y24, hh, s1, ints_one, tk, rightB, c1, c2]
      · cases c4 : inS b with
        | false =>
          rw [c4] at s2
          simp +contextual (disch := first | omega | exact rfl | decide | exact kpF (by decide) | exact kpT (by decide) | assumption | exact Z2z | exact Z30 | exact Z32 | exact Z31 | exact Z33 | exact Z34 | (simp only [ZI] <;> omega) | simp only [ZK] | (simp only [ZL] <;> assumption)) only [Tryz.f40, ZH, SOp, GOp, ↓Z1c, Int.reduceAdd, Int.reduceSub, Int.reduceMul, Int.reduceNeg, accs, touch, touchM, okPair, Nat.reduceAdd, Nat.reduceLeDiff, Nat.reduceMul, Nat.reduceSub, isV, opA, grdO, grd, Z41, Int.reduceLT, Int.reduceLE, Int.reduceToNat, builtinP, builtinA, changes, fieldAddrA, resA, tupled, ↓reduceIte, Nat.reduceEqDiff, Nat.reduceLT, Z70, Int.reduceEq, Y3, Y5, Y22, Y24, hh, s1, s2, ints_one, tk, rightB, c1, c2, c3, c4]
        | true =>
          rw [c4] at s2
          by_cases c5 : b = a
          · subst c5
            simp +contextual (disch := first | omega | exact rfl | decide | exact kpF (by decide) | exact kpT (by decide) | assumption | exact Z2z | exact Z30 | exact Z32 | exact Z31 | exact Z33 | exact Z34 | (simp only [ZI] <;> omega) | simp only [ZK] | (simp only [ZL] <;> assumption)) only [Tryz.f40, ZH, SOp, GOp, ↓Z1c, Int.reduceAdd, Int.reduceSub, Int.reduceMul, Int.reduceNeg, accs, touch, touchM, okPair, Nat.reduceAdd, Nat.reduceLeDiff, Nat.reduceMul, Nat.reduceSub, isV, opA, grdO, grd, Z41, Int.reduceLT, Int.reduceLE, Int.reduceToNat, builtinP, builtinA, changes, fieldAddrA, resA, tupled, ↓reduceIte, Nat.reduceEqDiff, Nat.reduceLT, Z70, Int.reduceEq, Y3, Y5, Y22, Y24, hh, s1, s2, ints_one, tk, rightB, c1, c2, c3]
          · simp +contextual (disch := first | omega | exact rfl | decide | exact kpF (by decide) | exact kpT (by decide) | assumption | exact Z2z | exact Z30 | exact Z32 | exact Z31 | exact Z33 | exact Z34 | (simp only [ZI] <;> omega) | simp only [ZK] | (simp only [ZL] <;> assumption)) only [Tryz.f40, ZH, SOp, GOp, ↓Z1c, Int.reduceAdd, Int.reduceSub, Int.reduceMul, Int.reduceNeg, accs, touch, touchM, okPair, Nat.reduceAdd, Nat.reduceLeDiff, Nat.reduceMul, Nat.reduceSub, isV, opA, grdO, grd, Z41, Int.reduceLT, Int.reduceLE, Int.reduceToNat, builtinP, builtinA, changes, fieldAddrA, resA, tupled, ↓reduceIte, Nat.reduceEqDiff, Nat.reduceLT, Z70, Int.reduceEq, Y3, Y5, Y22, Y24, hh, s1, s2, ints_one, tk, rightB, c1, c2, c3, c4, c5]
theorem right2_ok (a b : Int) (z : List Int) (h : z.length = 32) : runF cfg 41 [.agg (ptV a b z)] σ p = some (.b (rightB a b z), σ) := by
  refine run_done rfl rfl Tryz.func41 rfl ?_
  have hl := ptV_len (a := a) (b := b) h
  have ho := ptV_one (a := a) (b := b) (z := z)
  have hh := fun (τ : List O) q => hole_ok (σ := τ) (p := q)
  have e := fun x y => eqHole (x := x) (y := y) (a := a) (b := b) h
  have s1 := fun (τ : List O) q => sector2_ok (σ := τ) (p := q) a
  have s2 := fun (τ : List O) q => sector2_ok (σ := τ) (p := q) b
  have tk := take_all hl
  simp only [ptV] at *
  cases c1 : isHoleB a b z with
  | true =>
    rw [c1] at e
    simp +contextual (disch := first | omega | exact rfl | decide | exact kpF (by decide) | exact kpT (by decide) | assumption | exact Z2z | exact Z30 | exact Z32 | exact Z31 | exact Z33 | exact Z34 | (simp only [ZI] <;> omega) | simp only [ZK] | (simp only [ZL] <;> assumption)) only [Tryz.f41, ZH, SOp, GOp, ↓Z1c, Int.reduceAdd, Int.reduceSub, Int.reduceMul, Int.reduceNeg, accs, touch, touchM, okPair, Nat.reduceAdd, Nat.reduceLeDiff, Nat.reduceMul, Nat.reduceSub, isV, opA, grdO, grd, Z41, Int.reduceLT, Int.reduceLE, Int.reduceToNat, builtinP, builtinA, changes, fieldAddrA, resA, tupled, ↓reduceIte, Nat.reduceEqDiff, Nat.reduceLT, Z70, Int.reduceEq, dr41x1, Y3, Y5, Y22, Y24, hh, e, ints_one, tk, rightB, c1]
  | false =>
    rw [c1] at e
    cases c2 : inS a with
    | false =>
      rw [c2] at s1
      simp +contextual (disch := first | omega | exact rfl | decide | exact kpF (by decide) | exact kpT (by decide) | assumption | exact Z2z | exact Z30 | exact Z32 | exact Z31 | exact Z33 | exact Z34 | (simp only [ZI] <;> omega) | simp only [ZK] | (simp only [ZL] <;> assumption)) only [Tryz.f41, ZH, SOp, GOp, ↓Z1c, Int.reduceAdd, Int.reduceSub, Int.reduceMul, Int.reduceNeg, accs, touch, touchM, okPair, Nat.reduceAdd, Nat.reduceLeDiff, Nat.reduceMul, Nat.reduceSub, isV, opA, grdO, grd, Z41, Int.reduceLT, Int.reduceLE, Int.reduceToNat, builtinP, builtinA, changes, fieldAddrA, resA, tupled, ↓reduceIte, Nat.reduceEqDiff, Nat.reduceLT, Z70, Int.reduceEq, dr41x1, Y3, Y5, Y22, Y24, hh, e, s1, ints_one, tk, rightB, c1, c2]
    | true =>
      rw [c2] at s1
      by_cases c3 : b = -1
      · subst c3
        simp +contextual (disch := first | omega | exact rfl | decide | exact kpF (by decide) | exact kpT (by decide) | assumption | exact Z2z | exact Z30 | exact Z32 | exact Z31 | exact Z33 | exact Z34 | (simp only [ZI] <;> omega) | simp only [ZK] | (simp only [ZL] <;> assumption)) only [Tryz.f41, ZH, SOp, GOp, ↓Z1c, Int.reduceAdd, Int.reduceSub, Int.reduceMul, Int.reduceNeg, accs, touch, touchM, okPair, Nat.reduceAdd, Nat.reduceLeDiff, Nat.reduceMul, Nat.reduceSub, isV, opA, grdO, grd, Z41, Int.reduceLT, Int.reduceLE, Int.reduceToNat, builtinP, builtinA, changes, fieldAddrA, resA, tupled, ↓reduceIte, Nat.reduceEqDiff, Nat.reduceLT, Z70, Int.reduceEq, dr41x1, Y3, Y5, Y22, Y24, hh, e, s1, ints_one, tk, rightB, c1, c2]
      · cases c4 : inS b with
        | false =>
          rw [c4] at s2
          simp +contextual (disch := first | omega | exact rfl | decide | exact kpF (by decide) | exact kpT (by decide) | assumption | exact Z2z | exact Z30 | exact Z32 | exact Z31 | exact Z33 | exact Z34 | (simp only [ZI] <;> omega) | simp only [ZK] | (simp only [ZL] <;> assumption)) only [Tryz.f41, ZH, SOp, GOp, ↓Z1c, Int.reduceAdd, Int.reduceSub, Int.reduceMul, Int.reduceNeg, accs, touch, touchM, okPair, Nat.reduceAdd, Nat.reduceLeDiff, Nat.reduceMul, Nat.reduceSub, isV, opA, grdO, grd, Z41, Int.reduceLT, Int.reduceLE, Int.reduceToNat, builtinP, builtinA, changes, fieldAddrA, resA, tupled, ↓reduceIte, Nat.reduceEqDiff, Nat.reduceLT, Z70, Int.reduceEq, dr41x1, Y3, Y5, Y22, Y24, hh, e, s1, s2, ints_one, tk, rightB, c1, c2, c3, c4]
        | true =>
          rw [c4] at s2
          by_cases c5 : b = a
          · subst c5
            simp +contextual (disch := first | omega | exact rfl | decide | exact kpF (by decide) | exact kpT (by decide) | assumption | exact Z2z | exact Z30 | exact Z32 | exact Z31 | exact Z33 | exact Z34 | (simp only [ZI] <;> omega) | simp only [ZK] | (simp only [ZL] <;> assumption)) only [Tryz.f41, ZH, SOp, GOp, ↓Z1c, Int.reduceAdd, Int.reduceSub, Int.reduceMul, Int.reduceNeg, accs, touch, touchM, okPair, Nat.reduceAdd, Nat.reduceLeDiff, Nat.reduceMul, Nat.reduceSub, isV, opA, grdO, grd, Z41, Int.reduceLT, Int.reduceLE, Int.reduceToNat, builtinP, builtinA, changes, fieldAddrA, resA, tupled, ↓reduceIte, Nat.reduceEqDiff, Nat.reduceLT, Z70, Int.reduceEq, dr41x1, Y3, Y5, Y22, Y24, hh, e, s1, s2, ints_one, tk, rightB, c1, c2, c3]
          · simp +contextual (disch := first | omega | exact rfl | decide | exact kpF (by decide) | exact kpT (by decide) | assumption | exact Z2z | exact Z30 | exact Z32 | exact Z31 | exact Z33 | exact Z34 | (simp only [ZI] <;> omega) | simp only [ZK] | (simp only [ZL] <;> assumption)) only [Tryz.f41, ZH, SOp, GOp, ↓Z1c, Int.reduceAdd, Int.reduceSub, Int.reduceMul, Int.reduceNeg, accs, touch, touchM, okPair, Nat.reduceAdd, Nat.reduceLeDiff, Nat.reduceMul, Nat.reduceSub, isV, opA, grdO, grd, Z41, Int.reduceLT, Int.reduceLE, Int.reduceToNat, builtinP, builtinA, changes, fieldAddrA, resA, tupled, ↓reduceIte, Nat.reduceEqDiff, Nat.reduceLT, Z70, Int.reduceEq, dr41x1, Y3, Y5, Y22, Y24, hh, e, s1, s2, ints_one, tk, rightB, c1, c2, c3, c4, c5]
end Go.Am.R2

/- Stems: the whole record, both ways. -/
namespace Go.Am.R2
open Go.Proofs
set_option maxRecDepth 100000
set_option linter.unusedSimpArgs false
set_option linter.unusedVariables false
variable {σ : List O} {p : List Nat}
def stemB (a b : Int) (z : List Int) (c d : Int) : Bool := rightB a b z && (decide (0 ≤ c) && (decide (c ≤ 8192) && (decide (d = 1) || decide (d = 2))))
/-- A stem's cells. -/
structure StemAt (cs : List V) (a b : Int) (z : List Int) (c d : Int) : Prop where
  eq : cs = ptV a b z ++ [.i .i64 c, .i .i64 d]
  z : z.length = 32
theorem StemAt.len {cs : List V} {a b c d : Int} {z : List Int} (h : StemAt cs a b z c d) : cs.length = 36 := by rw [h.eq, List.length_append, ptV_len h.z]; rfl
theorem StemAt.one {cs : List V} {a b c d : Int} {z : List Int} (h : StemAt cs a b z c d) : cs.all V.one = true := by rw [h.eq, List.all_append, ptV_one]; rfl
theorem StemAt.tk {cs : List V} {a b c d : Int} {z : List Int} (h : StemAt cs a b z c d) : take? cs 0 34 = some (ptV a b z) := by
  rw [take?_of (by rw [h.len]; omega), h.eq, List.drop_zero, List.take_left' (ptV_len h.z)]
theorem StemAt.g34 {cs : List V} {a b c d : Int} {z : List Int} (h : StemAt cs a b z c d) : cs[34]? = some (.i .i64 c) := by
  rw [h.eq, List.getElem?_append_right (by rw [ptV_len h.z]; omega), ptV_len h.z]; rfl
theorem StemAt.g35 {cs : List V} {a b c d : Int} {z : List Int} (h : StemAt cs a b z c d) : cs[35]? = some (.i .i64 d) := by
  rw [h.eq, List.getElem?_append_right (by rw [ptV_len h.z]; omega), ptV_len h.z]; rfl
theorem stem_ok {cs : List V} {a b c d : Int} {z : List Int} (h : StemAt cs a b z c d) : runF cfg 8 [.agg cs] σ p = some (.b (stemB a b z c d), σ) := by
  refine run_done rfl rfl Tryz.func8 rfl ?_
  have hl := h.len
  have ho := h.one
  have tk := h.tk
  have g34 := h.g34
  have g35 := h.g35
  have hh := fun (τ : List O) q => right_ok (σ := τ) (p := q) a b z h.z
  have tk2 := take_all (ptV_len (a := a) (b := b) h.z)
  cases c1 : rightB a b z with
  | false =>
    rw [c1] at hh
    simp +contextual (disch := first | omega | exact rfl | decide | exact kpF (by decide) | exact kpT (by decide) | assumption | exact Z2z | exact Z30 | exact Z32 | exact Z31 | exact Z33 | exact Z34 | (simp only [ZI] <;> omega) | simp only [ZK] | (simp only [ZL] <;> assumption)) only [Tryz.f8, ZH, SOp, GOp, ↓Z1c, Int.reduceAdd, Int.reduceSub, Int.reduceMul, Int.reduceNeg, accs, touch, touchM, okPair, Nat.reduceAdd, Nat.reduceLeDiff, Nat.reduceMul, Nat.reduceSub, isV, opA, grdO, grd, Z41, Int.reduceLT, Int.reduceLE, Int.reduceToNat, builtinP, builtinA, changes, fieldAddrA, resA, tupled, ↓reduceIte, Nat.reduceEqDiff, Nat.reduceLT, Z70, Int.reduceEq, Y3, Y5, Y22, Y24, Y26, hh, ho, tk, g34, g35, stemB, c1]
  | true =>
    rw [c1] at hh
    by_cases c2 : 0 ≤ c
    case neg => simp +contextual (disch := first | omega | exact rfl | decide | exact kpF (by decide) | exact kpT (by decide) | assumption | exact Z2z | exact Z30 | exact Z32 | exact Z31 | exact Z33 | exact Z34 | (simp only [ZI] <;> omega) | simp only [ZK] | (simp only [ZL] <;> assumption)) only [Tryz.f8, ZH, SOp, GOp, ↓Z1c, Int.reduceAdd, Int.reduceSub, Int.reduceMul, Int.reduceNeg, accs, touch, touchM, okPair, Nat.reduceAdd, Nat.reduceLeDiff, Nat.reduceMul, Nat.reduceSub, isV, opA, grdO, grd, Z41, Int.reduceLT, Int.reduceLE, Int.reduceToNat, builtinP, builtinA, changes, fieldAddrA, resA, tupled, ↓reduceIte, Nat.reduceEqDiff, Nat.reduceLT, Z70, Int.reduceEq, Y3, Y5, Y22, Y24, Y26, hh, ho, tk, g34, g35, stemB, c1, c2]
    by_cases c3 : c ≤ 8192
    case neg => simp +contextual (disch := first | omega | exact rfl | decide | exact kpF (by decide) | exact kpT (by decide) | assumption | exact Z2z | exact Z30 | exact Z32 | exact Z31 | exact Z33 | exact Z34 | (simp only [ZI] <;> omega) | simp only [ZK] | (simp only [ZL] <;> assumption)) only [Tryz.f8, ZH, SOp, GOp, ↓Z1c, Int.reduceAdd, Int.reduceSub, Int.reduceMul, Int.reduceNeg, accs, touch, touchM, okPair, Nat.reduceAdd, Nat.reduceLeDiff, Nat.reduceMul, Nat.reduceSub, isV, opA, grdO, grd, Z41, Int.reduceLT, Int.reduceLE, Int.reduceToNat, builtinP, builtinA, changes, fieldAddrA, resA, tupled, ↓reduceIte, Nat.reduceEqDiff, Nat.reduceLT, Z70, Int.reduceEq, Y3, Y5, Y22, Y24, Y26, hh, ho, tk, g34, g35, stemB, c1, c2, c3]
    by_cases c4 : d = 1
    · subst c4
      simp +contextual (disch := first | omega | exact rfl | decide | exact kpF (by decide) | exact kpT (by decide) | assumption | exact Z2z | exact Z30 | exact Z32 | exact Z31 | exact Z33 | exact Z34 | (simp only [ZI] <;> omega) | simp only [ZK] | (simp only [ZL] <;> assumption)) only [Tryz.f8, ZH, SOp, GOp, ↓Z1c, Int.reduceAdd, Int.reduceSub, Int.reduceMul, Int.reduceNeg, accs, touch, touchM, okPair, Nat.reduceAdd, Nat.reduceLeDiff, Nat.reduceMul, Nat.reduceSub, isV, opA, grdO, grd, Z41, Int.reduceLT, Int.reduceLE, Int.reduceToNat, builtinP, builtinA, changes, fieldAddrA, resA, tupled, ↓reduceIte, Nat.reduceEqDiff, Nat.reduceLT, Z70, Int.reduceEq, Y3, Y5, Y22, Y24, Y26, hh, ho, tk, g34, g35, stemB, c1, c2, c3]
    · simp +contextual (disch := first | omega | exact rfl | decide | exact kpF (by decide) | exact kpT (by decide) | assumption | exact Z2z | exact Z30 | exact Z32 | exact Z31 | exact Z33 | exact Z34 | (simp only [ZI] <;> omega) | simp only [ZK] | (simp only [ZL] <;> assumption)) only [Tryz.f8, ZH, SOp, GOp, ↓Z1c, Int.reduceAdd, Int.reduceSub, Int.reduceMul, Int.reduceNeg, accs, touch, touchM, okPair, Nat.reduceAdd, Nat.reduceLeDiff, Nat.reduceMul, Nat.reduceSub, isV, opA, grdO, grd, Z41, Int.reduceLT, Int.reduceLE, Int.reduceToNat, builtinP, builtinA, changes, fieldAddrA, resA, tupled, ↓reduceIte, Nat.reduceEqDiff, Nat.reduceLT, Z70, Int.reduceEq, Y3, Y5, Y22, Y24, Y26, hh, ho, tk, g34, g35, stemB, c1, c2, c3, c4]
theorem stem2_ok {cs : List V} {a b c d : Int} {z : List Int} (h : StemAt cs a b z c d) : runF cfg 9 [.agg cs] σ p = some (.b (stemB a b z c d), σ) := by
  refine run_done rfl rfl Tryz.func9 rfl ?_
  have hl := h.len
  have ho := h.one
  have tk := h.tk
  have g34 := h.g34
  have g35 := h.g35
  have hh := fun (τ : List O) q => right2_ok (σ := τ) (p := q) a b z h.z
  have tk2 := take_all (ptV_len (a := a) (b := b) h.z)
  cases c1 : rightB a b z with
  | false =>
    rw [c1] at hh
    simp +contextual (disch := first | omega | exact rfl | decide | exact kpF (by decide) | exact kpT (by decide) | assumption | exact Z2z | exact Z30 | exact Z32 | exact Z31 | exact Z33 | exact Z34 | (simp only [ZI] <;> omega) | simp only [ZK] | (simp only [ZL] <;> assumption)) only [Tryz.f9, ZH, SOp, GOp, ↓Z1c, Int.reduceAdd, Int.reduceSub, Int.reduceMul, Int.reduceNeg, accs, touch, touchM, okPair, Nat.reduceAdd, Nat.reduceLeDiff, Nat.reduceMul, Nat.reduceSub, isV, opA, grdO, grd, Z41, Int.reduceLT, Int.reduceLE, Int.reduceToNat, builtinP, builtinA, changes, fieldAddrA, resA, tupled, ↓reduceIte, Nat.reduceEqDiff, Nat.reduceLT, Z70, Int.reduceEq, Y3, Y5, Y22, Y24, Y26, hh, ho, tk, g34, g35, stemB, c1]
  | true =>
    rw [c1] at hh
    by_cases c2 : 0 ≤ c
    case neg => simp +contextual (disch := first | omega | exact rfl | decide | exact kpF (by decide) | exact kpT (by decide) | assumption | exact Z2z | exact Z30 | exact Z32 | exact Z31 | exact Z33 | exact Z34 | (simp only [ZI] <;> omega) | simp only [ZK] | (simp only [ZL] <;> assumption)) only [Tryz.f9, ZH, SOp, GOp, ↓Z1c, Int.reduceAdd, Int.reduceSub, Int.reduceMul, Int.reduceNeg, accs, touch, touchM, okPair, Nat.reduceAdd, Nat.reduceLeDiff, Nat.reduceMul, Nat.reduceSub, isV, opA, grdO, grd, Z41, Int.reduceLT, Int.reduceLE, Int.reduceToNat, builtinP, builtinA, changes, fieldAddrA, resA, tupled, ↓reduceIte, Nat.reduceEqDiff, Nat.reduceLT, Z70, Int.reduceEq, Y3, Y5, Y22, Y24, Y26, hh, ho, tk, g34, g35, stemB, c1, c2]
    by_cases c3 : c ≤ 8192
    case neg => simp +contextual (disch := first | omega | exact rfl | decide | exact kpF (by decide) | exact kpT (by decide) | assumption | exact Z2z | exact Z30 | exact Z32 | exact Z31 | exact Z33 | exact Z34 | (simp only [ZI] <;> omega) | simp only [ZK] | (simp only [ZL] <;> assumption)) only [Tryz.f9, ZH, SOp, GOp, ↓Z1c, Int.reduceAdd, Int.reduceSub, Int.reduceMul, Int.reduceNeg, accs, touch, touchM, okPair, Nat.reduceAdd, Nat.reduceLeDiff, Nat.reduceMul, Nat.reduceSub, isV, opA, grdO, grd, Z41, Int.reduceLT, Int.reduceLE, Int.reduceToNat, builtinP, builtinA, changes, fieldAddrA, resA, tupled, ↓reduceIte, Nat.reduceEqDiff, Nat.reduceLT, Z70, Int.reduceEq, Y3, Y5, Y22, Y24, Y26, hh, ho, tk, g34, g35, stemB, c1, c2, c3]
    by_cases c4 : d = 1
    · subst c4
      simp +contextual (disch := first | omega | exact rfl | decide | exact kpF (by decide) | exact kpT (by decide) | assumption | exact Z2z | exact Z30 | exact Z32 | exact Z31 | exact Z33 | exact Z34 | (simp only [ZI] <;> omega) | simp only [ZK] | (simp only [ZL] <;> assumption)) only [Tryz.f9, ZH, SOp, GOp, ↓Z1c, Int.reduceAdd, Int.reduceSub, Int.reduceMul, Int.reduceNeg, accs, touch, touchM, okPair, Nat.reduceAdd, Nat.reduceLeDiff, Nat.reduceMul, Nat.reduceSub, isV, opA, grdO, grd, Z41, Int.reduceLT, Int.reduceLE, Int.reduceToNat, builtinP, builtinA, changes, fieldAddrA, resA, tupled, ↓reduceIte, Nat.reduceEqDiff, Nat.reduceLT, Z70, Int.reduceEq, Y3, Y5, Y22, Y24, Y26, hh, ho, tk, g34, g35, stemB, c1, c2, c3]
    · simp +contextual (disch := first | omega | exact rfl | decide | exact kpF (by decide) | exact kpT (by decide) | assumption | exact Z2z | exact Z30 | exact Z32 | exact Z31 | exact Z33 | exact Z34 | (simp only [ZI] <;> omega) | simp only [ZK] | (simp only [ZL] <;> assumption)) only [Tryz.f9, ZH, SOp, GOp, ↓Z1c, Int.reduceAdd, Int.reduceSub, Int.reduceMul, Int.reduceNeg, accs, touch, touchM, okPair, Nat.reduceAdd, Nat.reduceLeDiff, Nat.reduceMul, Nat.reduceSub, isV, opA, grdO, grd, Z41, Int.reduceLT, Int.reduceLE, Int.reduceToNat, builtinP, builtinA, changes, fieldAddrA, resA, tupled, ↓reduceIte, Nat.reduceEqDiff, Nat.reduceLT, Z70, Int.reduceEq, Y3, Y5, Y22, Y24, Y26, hh, ho, tk, g34, g35, stemB, c1, c2, c3, c4]
end Go.Am.R2
