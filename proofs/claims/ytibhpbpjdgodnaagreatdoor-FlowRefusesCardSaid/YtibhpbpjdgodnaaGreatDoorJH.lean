/- Parts of one machine and of the walks over it, joined: M1 M2 M3. -/
import Derived.Test.YtibhpbpjdgodnaaGreatDoorJA
import Derived.Test.YtibhpbpjdgodnaaGreatDoorAmZ
import Derived.Test.YtibhpbpjdgodnaaGreatDoorJM
/- Stems: a hole, a place, leaves, depth; both ways. -/
namespace Go.Am.R2
open Go.Proofs
set_option maxRecDepth 100000
set_option linter.unusedSimpArgs false
set_option linter.unusedVariables false
variable {σ : List O} {p : List Nat}
def holeV : List V := .i .i64 (-1) :: .i .i64 (-1) :: ints .u8 (List.replicate 32 0)
theorem hole_ok : runF cfg 38 [] σ p = some (.agg holeV, σ) := by
  refine run_done rfl rfl Tryz.func38 rfl ?_
  simp +contextual (disch := first | omega | exact rfl | decide | exact kpF (by decide) | exact kpT (by decide) | assumption | exact Z2z | exact Z30 | exact Z32 | exact Z31 | exact Z33 | exact Z34 | (simp only [ZI] <;> omega) | simp only [ZK] | (simp only [ZL] <;> assumption)) only [Tryz.f38, ZH, SOp, GOp, ↓Z1c, Int.reduceAdd, Int.reduceSub, Int.reduceMul, Int.reduceNeg, accs, touch, touchM, okPair, Nat.reduceAdd, Nat.reduceLeDiff, Nat.reduceMul, Nat.reduceSub, isV, opA, grdO, grd, Z41, Int.reduceLT, Int.reduceLE, Int.reduceToNat, builtinP, builtinA, changes, fieldAddrA, resA, tupled, ↓reduceIte, Nat.reduceEqDiff, Nat.reduceLT, Z70, Int.reduceEq, Y3, Y5, Y22, Y24]
  rfl
theorem hole2_ok : runF cfg 64 [] σ p = some (.agg holeV, σ) := by
  refine run_done rfl rfl Tryz.func64 rfl ?_
  simp +contextual (disch := first | omega | exact rfl | decide | exact kpF (by decide) | exact kpT (by decide) | assumption | exact Z2z | exact Z30 | exact Z32 | exact Z31 | exact Z33 | exact Z34 | (simp only [ZI] <;> omega) | simp only [ZK] | (simp only [ZL] <;> assumption)) only [Tryz.f64, ZH, SOp, GOp, ↓Z1c, Int.reduceAdd, Int.reduceSub, Int.reduceMul, Int.reduceNeg, accs, touch, touchM, okPair, Nat.reduceAdd, Nat.reduceLeDiff, Nat.reduceMul, Nat.reduceSub, isV, opA, grdO, grd, Z41, Int.reduceLT, Int.reduceLE, Int.reduceToNat, builtinP, builtinA, changes, fieldAddrA, resA, tupled, ↓reduceIte, Nat.reduceEqDiff, Nat.reduceLT, Z70, Int.reduceEq, Y3, Y5, Y22, Y24]
  rfl
def inS (x : Int) : Bool := decide (0 ≤ x) && decide (x < 4096)
theorem sector_ok (x : Int) : runF cfg 88 [.i .i64 x] σ p = some (.b (inS x), σ) := by
  refine run_done rfl rfl Tryz.func88 rfl ?_
  simp +contextual (disch := first | omega | exact rfl | decide | exact kpF (by decide) | exact kpT (by decide) | assumption | exact Z2z | exact Z30 | exact Z32 | exact Z31 | exact Z33 | exact Z34 | (simp only [ZI] <;> omega) | simp only [ZK] | (simp only [ZL] <;> assumption)) only [Tryz.f88, ZH, SOp, GOp, ↓Z1c, Int.reduceAdd, Int.reduceSub, Int.reduceMul, Int.reduceNeg, accs, touch, touchM, okPair, Nat.reduceAdd, Nat.reduceLeDiff, Nat.reduceMul, Nat.reduceSub, isV, opA, grdO, grd, Z41, Int.reduceLT, Int.reduceLE, Int.reduceToNat, builtinP, builtinA, changes, fieldAddrA, resA, tupled, ↓reduceIte, Nat.reduceEqDiff, Nat.reduceLT, Z70, Int.reduceEq, Y3, inS]
theorem sector2_ok (x : Int) : runF cfg 89 [.i .i64 x] σ p = some (.b (inS x), σ) := by
  refine run_done rfl rfl Tryz.func89 rfl ?_
  have e : decide (x ≤ 4095) = decide (x < 4096) := decide_eq_decide.2 (by omega)
  simp +contextual (disch := first | omega | exact rfl | decide | exact kpF (by decide) | exact kpT (by decide) | assumption | exact Z2z | exact Z30 | exact Z32 | exact Z31 | exact Z33 | exact Z34 | (simp only [ZI] <;> omega) | simp only [ZK] | (simp only [ZL] <;> assumption)) only [Tryz.f89, ZH, SOp, GOp, ↓Z1c, Int.reduceAdd, Int.reduceSub, Int.reduceMul, Int.reduceNeg, accs, touch, touchM, okPair, Nat.reduceAdd, Nat.reduceLeDiff, Nat.reduceMul, Nat.reduceSub, isV, opA, grdO, grd, Z41, Int.reduceLT, Int.reduceLE, Int.reduceToNat, builtinP, builtinA, changes, fieldAddrA, resA, tupled, ↓reduceIte, Nat.reduceEqDiff, Nat.reduceLT, Z70, Int.reduceEq, Y3, inS, e]
def leavesI (n : Int) : Int := if n < 1 then 0 else (n - 1) / 128 + 1
theorem leaves_ok (n : Int) (h : -9223372036854775808 ≤ n ∧ n ≤ 9223372036854775807) : runF cfg 10 [.i .i64 n] σ p = some (.i .i64 (leavesI n), σ) := by
  refine run_done rfl rfl Tryz.func10 rfl ?_
  by_cases h1 : n < 1
  · simp +contextual (disch := first | omega | exact rfl | decide | exact kpF (by decide) | exact kpT (by decide) | assumption | exact Z2z | exact Z30 | exact Z32 | exact Z31 | exact Z33 | exact Z34 | (simp only [ZI] <;> omega) | simp only [ZK] | (simp only [ZL] <;> assumption)) only [Tryz.f10, ZH, SOp, GOp, ↓Z1c, Int.reduceAdd, Int.reduceSub, Int.reduceMul, Int.reduceNeg, accs, touch, touchM, okPair, Nat.reduceAdd, Nat.reduceLeDiff, Nat.reduceMul, Nat.reduceSub, isV, opA, grdO, grd, Z41, Int.reduceLT, Int.reduceLE, Int.reduceToNat, builtinP, builtinA, changes, fieldAddrA, resA, tupled, ↓reduceIte, Nat.reduceEqDiff, Nat.reduceLT, Z70, Int.reduceEq, Y3, h1, leavesI]
  · simp +contextual (disch := first | omega | exact rfl | decide | exact kpF (by decide) | exact kpT (by decide) | assumption | exact Z2z | exact Z30 | exact Z32 | exact Z31 | exact Z33 | exact Z34 | (simp only [ZI] <;> omega) | simp only [ZK] | (simp only [ZL] <;> assumption)) only [Tryz.f10, ZH, SOp, GOp, ↓Z1c, Int.reduceAdd, Int.reduceSub, Int.reduceMul, Int.reduceNeg, accs, touch, touchM, okPair, Nat.reduceAdd, Nat.reduceLeDiff, Nat.reduceMul, Nat.reduceSub, isV, opA, grdO, grd, Z41, Int.reduceLT, Int.reduceLE, Int.reduceToNat, builtinP, builtinA, changes, fieldAddrA, resA, tupled, ↓reduceIte, Nat.reduceEqDiff, Nat.reduceLT, Z70, Int.reduceEq, Y3, h1, leavesI]
theorem leaves2_ok (n : Int) (h : -9223372036854775808 ≤ n ∧ n ≤ 9223372036854775807) : runF cfg 11 [.i .i64 n] σ p = some (.i .i64 (leavesI n), σ) := by
  refine run_done rfl rfl Tryz.func11 rfl ?_
  by_cases h1 : n < 1
  · simp +contextual (disch := first | omega | exact rfl | decide | exact kpF (by decide) | exact kpT (by decide) | assumption | exact Z2z | exact Z30 | exact Z32 | exact Z31 | exact Z33 | exact Z34 | (simp only [ZI] <;> omega) | simp only [ZK] | (simp only [ZL] <;> assumption)) only [Tryz.f11, ZH, SOp, GOp, ↓Z1c, Int.reduceAdd, Int.reduceSub, Int.reduceMul, Int.reduceNeg, accs, touch, touchM, okPair, Nat.reduceAdd, Nat.reduceLeDiff, Nat.reduceMul, Nat.reduceSub, isV, opA, grdO, grd, Z41, Int.reduceLT, Int.reduceLE, Int.reduceToNat, builtinP, builtinA, changes, fieldAddrA, resA, tupled, ↓reduceIte, Nat.reduceEqDiff, Nat.reduceLT, Z70, Int.reduceEq, Y3, h1, leavesI]
  · simp +contextual (disch := first | omega | exact rfl | decide | exact kpF (by decide) | exact kpT (by decide) | assumption | exact Z2z | exact Z30 | exact Z32 | exact Z31 | exact Z33 | exact Z34 | (simp only [ZI] <;> omega) | simp only [ZK] | (simp only [ZL] <;> assumption)) only [Tryz.f11, ZH, SOp, GOp, ↓Z1c, Int.reduceAdd, Int.reduceSub, Int.reduceMul, Int.reduceNeg, accs, touch, touchM, okPair, Nat.reduceAdd, Nat.reduceLeDiff, Nat.reduceMul, Nat.reduceSub, isV, opA, grdO, grd, Z41, Int.reduceLT, Int.reduceLE, Int.reduceToNat, builtinP, builtinA, changes, fieldAddrA, resA, tupled, ↓reduceIte, Nat.reduceEqDiff, Nat.reduceLT, Z70, Int.reduceEq, Y3, h1, leavesI]
/-- How often by three. -/
def IsDepth (n : Int) (d : Nat) : Prop := d ≤ 40 ∧ (∀ j, j < d → (3 : Int) ^ j < n) ∧ n ≤ 3 ^ d
theorem depth_ex (n : Int) (h : n ≤ 9223372036854775807) : ∃ d, IsDepth n d := by
  have key : ∀ k : Nat, k ≤ 40 → (∃ d, IsDepth n d) ∨ ∀ j, j ≤ k → (3 : Int) ^ j < n := by
    intro k
    induction k with
    | zero =>
      intro _
      by_cases h0 : n ≤ 1
      · exact .inl ⟨0, by omega, fun j hj => by omega, by simpa using h0⟩
      · refine .inr fun j hj => ?_
        have : j = 0 := by omega
        subst this; simp; omega
    | succ k ih =>
      intro hk
      rcases ih (by omega) with h1 | h1
      · exact .inl h1
      · by_cases h0 : n ≤ 3 ^ (k + 1)
        · exact .inl ⟨k + 1, hk, fun j hj => h1 j (by omega), h0⟩
        · refine .inr fun j hj => ?_
          by_cases hj' : j ≤ k
          · exact h1 j hj'
          · have : j = k + 1 := by omega
            subst this; omega
  rcases key 40 (Nat.le_refl _) with h1 | h1
  · exact h1
  · have := h1 40 (Nat.le_refl _)
    have e : (3 : Int) ^ 40 = 12157665459056928801 := by decide
    rw [e] at this; omega
theorem depth_ok (n : Int) (hr : -9223372036854775808 ≤ n ∧ n ≤ 9223372036854775807) (d : Nat) (h : IsDepth n d) : runF cfg 12 [.i .i64 n] σ p = some (.i .i64 (d : Int), σ) := by
  obtain ⟨hd, h1, h2⟩ := h
  refine run_done rfl rfl Tryz.func12 rfl ?_
  simp +contextual (disch := first | omega | exact rfl | decide | exact kpF (by decide) | exact kpT (by decide) | assumption | exact Z2z | exact Z30 | exact Z32 | exact Z31 | exact Z33 | exact Z34 | (simp only [ZI] <;> omega) | simp only [ZK] | (simp only [ZL] <;> assumption)) only [Tryz.f12, ZH, SOp, GOp, ↓Z1c, Int.reduceAdd, Int.reduceSub, Int.reduceMul, Int.reduceNeg, accs, touch, touchM, okPair, Nat.reduceAdd, Nat.reduceLeDiff, Nat.reduceMul, Nat.reduceSub, isV, opA, grdO, grd, Z41, Int.reduceLT, Int.reduceLE, Int.reduceToNat, builtinP, builtinA, changes, fieldAddrA, resA, tupled, ↓reduceIte, Nat.reduceEqDiff, Nat.reduceLT, Z70, Int.reduceEq, Y3]
  refine Wq.up (fun i s => s.nt = 13 ∧ s.σ = σ ∧ s.t.get 0 = some (.i .i64 ((n - 1) / 3 ^ i + 1)) ∧ s.t.get 3 = some (.i .i64 (i : Nat))) d ?_ ?_
  · refine ⟨rfl, rfl, ?_⟩
    simp +contextual (disch := first | omega | exact rfl | decide | exact kpF (by decide) | exact kpT (by decide) | assumption | exact Z2z | exact Z30 | exact Z32 | exact Z31 | exact Z33 | exact Z34 | (simp only [ZI] <;> omega) | simp only [ZK] | (simp only [ZL] <;> assumption)) only [ZH, SOp, GOp, ↓Z1c, Int.reduceAdd, Int.reduceSub, Int.reduceMul, Int.reduceNeg, accs, touch, touchM, okPair, Nat.reduceAdd, Nat.reduceLeDiff, Nat.reduceMul, Nat.reduceSub, isV, opA, grdO, grd, Z41, Int.reduceLT, Int.reduceLE, Int.reduceToNat, builtinP, builtinA, changes, fieldAddrA, resA, tupled, ↓reduceIte, Nat.reduceEqDiff, Nat.reduceLT, Z70, Int.reduceEq]
    rw [Int.pow_zero, Int.ediv_one, show n - 1 + 1 = n by omega]
  · rintro i ⟨t, nt, σ', c⟩ hi ⟨rfl, rfl, g0, g3⟩
    have hp : (0 : Int) < 3 ^ i := Int.pow_pos (by decide)
    by_cases hlt : i < d
    · have hn := h1 i hlt
      have m1 : 1 ≤ (n - 1) / 3 ^ i := by
        rw [Int.le_ediv_iff_mul_le hp]; omega
      have m2 : (n - 1) / 3 ^ i ≤ 9223372036854775806 := Int.le_trans (Int.ediv_le_self _ (by omega)) (by omega)
      have e1 : (n - 1) / 3 ^ (i + 1) = (n - 1) / 3 ^ i / 3 := by
        rw [Int.pow_succ, Int.ediv_ediv, if_neg (fun hh => by omega), Int.sub_zero]
      generalize (n - 1) / 3 ^ i = m at g0 m1 m2 e1
      have c1 : 1 < m + 1 := by omega
      have c2 : m + 1 - 1 = m := by omega
      have c3 : m.tdiv 3 = m / 3 := Int.tdiv_eq_ediv_of_nonneg (by omega)
      simp +contextual (disch := first | omega | exact rfl | decide | exact kpF (by decide) | exact kpT (by decide) | assumption | exact Z2z | exact Z30 | exact Z32 | exact Z31 | exact Z33 | exact Z34 | (simp only [ZI] <;> omega) | simp only [ZK] | (simp only [ZL] <;> assumption)) only [ZH, SOp, GOp, ↓Z1c, Int.reduceAdd, Int.reduceSub, Int.reduceMul, Int.reduceNeg, accs, touch, touchM, okPair, Nat.reduceAdd, Nat.reduceLeDiff, Nat.reduceMul, Nat.reduceSub, isV, opA, grdO, grd, Z41, Int.reduceLT, Int.reduceLE, Int.reduceToNat, builtinP, builtinA, changes, fieldAddrA, resA, tupled, ↓reduceIte, Nat.reduceEqDiff, Nat.reduceLT, Z70, Int.reduceEq, Y3, g0, g3, c1, c2, c3]
      exact ⟨hlt, by rw [e1], rfl⟩
    · have hi' : i = d := by omega
      subst hi'
      have m1 : (n - 1) / 3 ^ i < 1 := by
        rw [Int.ediv_lt_iff_lt_mul hp]; omega
      generalize (n - 1) / 3 ^ i = m at g0 m1
      have c1 : ¬ 1 < m + 1 := by omega
      simp +contextual (disch := first | omega | exact rfl | decide | exact kpF (by decide) | exact kpT (by decide) | assumption | exact Z2z | exact Z30 | exact Z32 | exact Z31 | exact Z33 | exact Z34 | (simp only [ZI] <;> omega) | simp only [ZK] | (simp only [ZL] <;> assumption)) only [ZH, SOp, GOp, ↓Z1c, Int.reduceAdd, Int.reduceSub, Int.reduceMul, Int.reduceNeg, accs, touch, touchM, okPair, Nat.reduceAdd, Nat.reduceLeDiff, Nat.reduceMul, Nat.reduceSub, isV, opA, grdO, grd, Z41, Int.reduceLT, Int.reduceLE, Int.reduceToNat, builtinP, builtinA, changes, fieldAddrA, resA, tupled, ↓reduceIte, Nat.reduceEqDiff, Nat.reduceLT, Z70, Int.reduceEq, Y3, g0, g3, c1]
theorem depth2_ok (n : Int) (hr : -9223372036854775808 ≤ n ∧ n ≤ 9223372036854775807) (d : Nat) (h : IsDepth n d) : runF cfg 13 [.i .i64 n] σ p = some (.i .i64 (d : Int), σ) := by
  obtain ⟨hd, h1, h2⟩ := h
  refine run_done rfl rfl Tryz.func13 rfl ?_
  simp +contextual (disch := first | omega | exact rfl | decide | exact kpF (by decide) | exact kpT (by decide) | assumption | exact Z2z | exact Z30 | exact Z32 | exact Z31 | exact Z33 | exact Z34 | (simp only [ZI] <;> omega) | simp only [ZK] | (simp only [ZL] <;> assumption)) only [Tryz.f13, ZH, SOp, GOp, ↓Z1c, Int.reduceAdd, Int.reduceSub, Int.reduceMul, Int.reduceNeg, accs, touch, touchM, okPair, Nat.reduceAdd, Nat.reduceLeDiff, Nat.reduceMul, Nat.reduceSub, isV, opA, grdO, grd, Z41, Int.reduceLT, Int.reduceLE, Int.reduceToNat, builtinP, builtinA, changes, fieldAddrA, resA, tupled, ↓reduceIte, Nat.reduceEqDiff, Nat.reduceLT, Z70, Int.reduceEq, Y3]
  refine Wq.up (fun i s => s.nt = 17 ∧ s.σ = σ ∧ s.t.get 0 = some (.i .i64 n) ∧ s.t.get 3 = some (.i .i64 (i : Nat)) ∧ ∃ k : Int, s.t.get 4 = some (.i .i64 k) ∧ (i < 40 → k = 3 ^ i)) d ?_ ?_
  · refine ⟨rfl, rfl, ?_⟩
    simp +contextual (disch := first | omega | exact rfl | decide | exact kpF (by decide) | exact kpT (by decide) | assumption | exact Z2z | exact Z30 | exact Z32 | exact Z31 | exact Z33 | exact Z34 | (simp only [ZI] <;> omega) | simp only [ZK] | (simp only [ZL] <;> assumption)) only [ZH, SOp, GOp, ↓Z1c, Int.reduceAdd, Int.reduceSub, Int.reduceMul, Int.reduceNeg, accs, touch, touchM, okPair, Nat.reduceAdd, Nat.reduceLeDiff, Nat.reduceMul, Nat.reduceSub, isV, opA, grdO, grd, Z41, Int.reduceLT, Int.reduceLE, Int.reduceToNat, builtinP, builtinA, changes, fieldAddrA, resA, tupled, ↓reduceIte, Nat.reduceEqDiff, Nat.reduceLT, Z70, Int.reduceEq]
    exact ⟨_, rfl, (Int.pow_zero 3).symm⟩
  · rintro i ⟨t, nt, σ', c⟩ hi ⟨rfl, rfl, g0, g3, k, g4, hk⟩
    by_cases hlt : i < d
    · have hn := h1 i hlt
      have hk := hk (by omega)
      rw [← hk] at hn
      have c2 : ((i : Int) < 40) := by omega
      simp +contextual (disch := first | omega | exact rfl | decide | exact kpF (by decide) | exact kpT (by decide) | assumption | exact Z2z | exact Z30 | exact Z32 | exact Z31 | exact Z33 | exact Z34 | (simp only [ZI] <;> omega) | simp only [ZK] | (simp only [ZL] <;> assumption)) only [ZH, SOp, GOp, ↓Z1c, Int.reduceAdd, Int.reduceSub, Int.reduceMul, Int.reduceNeg, accs, touch, touchM, okPair, Nat.reduceAdd, Nat.reduceLeDiff, Nat.reduceMul, Nat.reduceSub, isV, opA, grdO, grd, Z41, Int.reduceLT, Int.reduceLE, Int.reduceToNat, builtinP, builtinA, changes, fieldAddrA, resA, tupled, ↓reduceIte, Nat.reduceEqDiff, Nat.reduceLT, Z70, Int.reduceEq, Y3, g0, g3, g4, hn, c2]
      refine ⟨hlt, rfl, _, rfl, fun hi40 => ?_⟩
      rw [hk, ← Int.pow_succ]
      have hb : (3 : Int) ^ (i + 1) ≤ 3 ^ 39 := by exact_mod_cast Nat.pow_le_pow_right (show 0 < 3 by decide) (show i + 1 ≤ 39 by omega)
      have e : (3 : Int) ^ 39 = 4052555153018976267 := by decide
      have hp : (0 : Int) < 3 ^ (i + 1) := Int.pow_pos (by decide)
      rw [wrap_i64 (by omega) (by omega)]
    · have hi' : i = d := by omega
      subst hi'
      by_cases h40 : i < 40
      · have hk := hk h40
        have c1 : ¬ k < n := by rw [hk]; omega
        simp +contextual (disch := first | omega | exact rfl | decide | exact kpF (by decide) | exact kpT (by decide) | assumption | exact Z2z | exact Z30 | exact Z32 | exact Z31 | exact Z33 | exact Z34 | (simp only [ZI] <;> omega) | simp only [ZK] | (simp only [ZL] <;> assumption)) only [ZH, SOp, GOp, ↓Z1c, Int.reduceAdd, Int.reduceSub, Int.reduceMul, Int.reduceNeg, accs, touch, touchM, okPair, Nat.reduceAdd, Nat.reduceLeDiff, Nat.reduceMul, Nat.reduceSub, isV, opA, grdO, grd, Z41, Int.reduceLT, Int.reduceLE, Int.reduceToNat, builtinP, builtinA, changes, fieldAddrA, resA, tupled, ↓reduceIte, Nat.reduceEqDiff, Nat.reduceLT, Z70, Int.reduceEq, Y3, g0, g3, g4, c1]
      · have hi40 : i = 40 := by omega
        subst hi40
        by_cases c1 : k < n
        · simp +contextual (disch := first | omega | exact rfl | decide | exact kpF (by decide) | exact kpT (by decide) | assumption | exact Z2z | exact Z30 | exact Z32 | exact Z31 | exact Z33 | exact Z34 | (simp only [ZI] <;> omega) | simp only [ZK] | (simp only [ZL] <;> assumption)) only [ZH, SOp, GOp, ↓Z1c, Int.reduceAdd, Int.reduceSub, Int.reduceMul, Int.reduceNeg, accs, touch, touchM, okPair, Nat.reduceAdd, Nat.reduceLeDiff, Nat.reduceMul, Nat.reduceSub, isV, opA, grdO, grd, Z41, Int.reduceLT, Int.reduceLE, Int.reduceToNat, builtinP, builtinA, changes, fieldAddrA, resA, tupled, ↓reduceIte, Nat.reduceEqDiff, Nat.reduceLT, Z70, Int.reduceEq, Y3, g0, g3, g4, c1, Int.lt_irrefl]
        · simp +contextual (disch := first | omega | exact rfl | decide | exact kpF (by decide) | exact kpT (by decide) | assumption | exact Z2z | exact Z30 | exact Z32 | exact Z31 | exact Z33 | exact Z34 | (simp only [ZI] <;> omega) | simp only [ZK] | (simp only [ZL] <;> assumption)) only [ZH, SOp, GOp, ↓Z1c, Int.reduceAdd, Int.reduceSub, Int.reduceMul, Int.reduceNeg, accs, touch, touchM, okPair, Nat.reduceAdd, Nat.reduceLeDiff, Nat.reduceMul, Nat.reduceSub, isV, opA, grdO, grd, Z41, Int.reduceLT, Int.reduceLE, Int.reduceToNat, builtinP, builtinA, changes, fieldAddrA, resA, tupled, ↓reduceIte, Nat.reduceEqDiff, Nat.reduceLT, Z70, Int.reduceEq, Y3, g0, g3, g4, c1]
end Go.Am.R2

/- Stems: is it right, both ways. -/
namespace Go.Am.R2
open Go.Proofs
set_option maxRecDepth 100000
set_option linter.unusedSimpArgs false
set_option linter.unusedVariables false
variable {σ : List O} {p : List Nat}
theorem dr87x1 {p : List Nat} {s : St} {Q : Ex → St → Prop} (l : List Oper) : Wq cfg 87 p (.region 1 l.toArray true) s Q = TrQ cfg p l.toArray l s [] fun tr s => ([(1, 0)] : List (Nat × Nat)).all (okPair tr) = true ∧ Q .normal s := Wp_drawT 1 l (show cfg.cls 87 1 = [(1, 0)] from rfl) (by decide)
/-- A pointer's cells. -/
def ptV (a b : Int) (z : List Int) : List V := .i .i64 a :: .i .i64 b :: ints .u8 z
theorem ptV_len {a b : Int} {z : List Int} (h : z.length = 32) : (ptV a b z).length = 34 := by simp [ptV, ints_len, h]
theorem ptV_fk {a b : Int} {z : List Int} (h : z.length = 32) : (ptV a b z).map V.fk = ([(.i .i64), (.i .i64)] ++ List.replicate 32 (.i .u8) : List Fk).map some := by
  simp only [ptV, List.map_cons, fk_ints, h, fk_i]; rfl
theorem ptV_one {a b : Int} {z : List Int} : (ptV a b z).all V.one = true := by
  simp only [ptV, List.all_cons, one_i, Bool.true_and, ints, List.all_map]
  rw [List.all_eq_true]; intro x _; rfl
theorem ints_one {k : IntKind} {z : List Int} : (ints k z).all V.one = true := by
  simp only [ints, List.all_map]
  rw [List.all_eq_true]; intro x _; rfl
def isHoleB (a b : Int) (z : List Int) : Bool := decide (a = -1) && (decide (b = -1) && decide (z = List.replicate 32 0))
theorem eqHole {x y : Operand} {a b : Int} {z : List Int} (h : z.length = 32) : binA cfg .eql 24 x y (.agg (ptV a b z)) (.agg holeV) = some (.b (isHoleB a b z)) := by
  have := eq24 (x := x) (y := y) (ptV_fk (a := a) (b := b) h) (ptV_fk (a := -1) (b := -1) (z := List.replicate 32 0) rfl)
  refine this.trans ?_
  simp only [ptV, holeV, eqB_cons, scB_i, eqB_ints, isHoleB]
theorem isHole_ok (a b : Int) (z : List Int) (h : z.length = 32) : runF cfg 87 [.agg (ptV a b z)] σ p = some (.b (isHoleB a b z), σ) := by
  refine run_done rfl rfl Tryz.func87 rfl ?_
  have hl := ptV_len (a := a) (b := b) h
  have ho := ptV_one (a := a) (b := b) (z := z)
  have hh := fun (τ : List O) q => hole2_ok (σ := τ) (p := q)
  have e := fun x y => eqHole (x := x) (y := y) (a := a) (b := b) h
  have tk := take_all hl
  simp +contextual (disch := first | omega | exact rfl | decide | exact kpF (by decide) | exact kpT (by decide) | assumption | exact Z2z | exact Z30 | exact Z32 | exact Z31 | exact Z33 | exact Z34 | (simp only [ZI] <;> omega) | simp only [ZK] | (simp only [ZL] <;> assumption)) only [Tryz.f87, ZH, SOp, GOp, ↓Z1c, Int.reduceAdd, Int.reduceSub, Int.reduceMul, Int.reduceNeg, accs, touch, touchM, okPair, Nat.reduceAdd, Nat.reduceLeDiff, Nat.reduceMul, Nat.reduceSub, isV, opA, grdO, grd, Z41, Int.reduceLT, Int.reduceLE, Int.reduceToNat, builtinP, builtinA, changes, fieldAddrA, resA, tupled, ↓reduceIte, Nat.reduceEqDiff, Nat.reduceLT, Z70, Int.reduceEq, dr87x1, Y3, Y5, Y22, Y24, hh, e, tk, ho]
def rightB (a b : Int) (z : List Int) : Bool := isHoleB a b z || (inS a && (decide (b = -1) || (inS b && !decide (b = a))))
theorem right_ok (a b : Int) (z : List Int) (h : z.length = 32) : runF cfg 40 [.agg (ptV a b z)] σ p = some (.b (rightB a b z), σ) := by
  refine run_done rfl rfl Tryz.func40 rfl ?_
  have hl := ptV_len (a := a) (b := b) h
  have ho := ptV_one (a := a) (b := b) (z := z)
  have hh := fun (τ : List O) q => isHole_ok (σ := τ) (p := q) a b z h
  have s1 := fun (τ : List O) q => sector_ok (σ := τ) (p := q) a
  have s2 := fun (τ : List O) q => sector_ok (σ := τ) (p := q) b
  have tk := take_all hl
  cases c1 : isHoleB a b z with
  | true =>
    rw [c1] at hh
    simp +contextual (disch := first | omega | exact rfl | decide | exact kpF (by decide) | exact kpT (by decide) | assumption | exact Z2z | exact Z30 | exact Z32 | exact Z31 | exact Z33 | exact Z34 | (simp only [ZI] <;> omega) | simp only [ZK] | (simp only [ZL] <;> assumption)) only [Tryz.f40, ZH, SOp, GOp, ↓Z1c, Int.reduceAdd, Int.reduceSub, Int.reduceMul, Int.reduceNeg, accs, touch, touchM, okPair, Nat.reduceAdd, Nat.reduceLeDiff, Nat.reduceMul, Nat.reduceSub, isV, opA, grdO, grd, Z41, Int.reduceLT, Int.reduceLE, Int.reduceToNat, builtinP, builtinA, changes, fieldAddrA, resA, tupled, ↓reduceIte, Nat.reduceEqDiff, Nat.reduceLT, Z70, Int.reduceEq, Y3, Y5, Y22, Y24, hh, tk, rightB, c1, ho]
  | false =>
    rw [c1] at hh
    simp only [ptV] at *
    cases c2 : inS a with
    | false =>
      rw [c2] at s1
      simp +contextual (disch := first | omega | exact rfl | decide | exact kpF (by decide) | exact kpT (by decide) | assumption | exact Z2z | exact Z30 | exact Z32 | exact Z31 | exact Z33 | exact Z34 | (simp only [ZI] <;> omega) | simp only [ZK] | (simp only [ZL] <;> assumption)) only [Tryz.f40, ZH, SOp, GOp, ↓Z1c, Int.reduceAdd, Int.reduceSub, Int.reduceMul, Int.reduceNeg, accs, touch, touchM, okPair, Nat.reduceAdd, Nat.reduceLeDiff, Nat.reduceMul, Nat.reduceSub, isV, opA, grdO, grd, Z41, Int.reduceLT, Int.reduceLE, Int.reduceToNat, builtinP, builtinA, changes, fieldAddrA, resA, tupled, ↓reduceIte, Nat.reduceEqDiff, Nat.reduceLT, Z70, Int.reduceEq, Y3, Y5, Y22, Y24, hh, s1, ints_one, tk, rightB, c1, c2]
    | true =>
      rw [c2] at s1
      by_cases c3 : b = -1
      · subst c3
        simp +contextual (disch := first | omega | exact rfl | decide | exact kpF (by decide) | exact kpT (by decide) | assumption | exact Z2z | exact Z30 | exact Z32 | exact Z31 | exact Z33 | exact Z34 | (simp only [ZI] <;> omega) | simp only [ZK] | (simp only [ZL] <;> assumption)) only [Tryz.f40, ZH, SOp, GOp, ↓Z1c, Int.reduceAdd, Int.reduceSub, Int.reduceMul, Int.reduceNeg, accs, touch, touchM, okPair, Nat.reduceAdd, Nat.reduceLeDiff, Nat.reduceMul, Nat.reduceSub, isV, opA, grdO, grd, Z41, Int.reduceLT, Int.reduceLE, Int.reduceToNat, builtinP, builtinA, changes, fieldAddrA, resA, tupled, ↓reduceIte, Nat.reduceEqDiff, Nat.reduceLT, Z70, Int.reduceEq, Y3, Y5, Y22, Y24, hh, s1, ints_one, tk, rightB, c1, c2]
      · cases c4 : inS b with
        | false =>
          rw [c4] at s2
          simp +contextual (disch := first | omega | exact rfl | decide | exact kpF (by decide) | exact kpT (by decide) | assumption | exact Z2z | exact Z30 | exact Z32 | exact Z31 | exact Z33 | exact Z34 | (simp only [ZI] <;> omega) | simp only [ZK] | (simp only [ZL] <;> assumption)) only [Tryz.f40, ZH, SOp, GOp, ↓Z1c, Int.reduceAdd, Int.reduceSub, Int.reduceMul, Int.reduceNeg, accs, touch, touchM, okPair, Nat.reduceAdd, Nat.reduceLeDiff, Nat.reduceMul, Nat.reduceSub, isV, opA, grdO, grd, Z41, Int.reduceLT, Int.reduceLE, Int.reduceToNat, builtinP, builtinA, changes, fieldAddrA, resA, tupled, ↓reduceIte, Nat.reduceEqDiff, Nat.reduceLT, Z70, Int.reduceEq, Y3, Y5, Y22, Y24, hh, s1, s2, ints_one, tk, rightB, c1, c2, c3, c4]
        | true =>
          rw [c4] at s2
          by_cases c5 : b = a
          · subst c5
            simp +contextual (disch := first | omega | exact rfl | decide | exact kpF (by decide) | exact kpT (by decide) | assumption | exact Z2z | exact Z30 | exact Z32 | exact Z31 | exact Z33 | exact Z34 | (simp only [ZI] <;> omega) | simp only [ZK] | (simp only [ZL] <;> assumption)) only [Tryz.f40, ZH, SOp, GOp, ↓Z1c, Int.reduceAdd, Int.reduceSub, Int.reduceMul, Int.reduceNeg, accs, touch, touchM, okPair, Nat.reduceAdd, Nat.reduceLeDiff, Nat.reduceMul, Nat.reduceSub, isV, opA, grdO, grd, Z41, Int.reduceLT, Int.reduceLE, Int.reduceToNat, builtinP, builtinA, changes, fieldAddrA, resA, tupled, ↓reduceIte, Nat.reduceEqDiff, Nat.reduceLT, Z70, Int.reduceEq, Y3, Y5, Y22, Y24, hh, s1, s2, ints_one, tk, rightB, c1, c2, c3]
          · simp +contextual (disch := first | omega | exact rfl | decide | exact kpF (by decide) | exact kpT (by decide) | assumption | exact Z2z | exact Z30 | exact Z32 | exact Z31 | exact Z33 | exact Z34 | (simp only [ZI] <;> omega) | simp only [ZK] | (simp only [ZL] <;> assumption)) only [Tryz.f40, ZH, SOp, GOp, ↓Z1c, Int.reduceAdd, Int.reduceSub, Int.reduceMul, Int.reduceNeg, accs, touch, touchM, okPair, Nat.reduceAdd, Nat.reduceLeDiff, Nat.reduceMul, Nat.reduceSub, isV, opA, grdO, grd, Z41, Int.reduceLT, Int.reduceLE, Int.reduceToNat, builtinP, builtinA, changes, fieldAddrA, resA, tupled, ↓reduceIte, Nat.reduceEqDiff, Nat.reduceLT, Z70, Int.reduceEq, Y3, Y5, Y22, Y24, hh, s1, s2, ints_one, tk, rightB, c1, c2, c3, c4, c5]
theorem right2_ok (a b : Int) (z : List Int) (h : z.length = 32) : runF cfg 41 [.agg (ptV a b z)] σ p = some (.b (rightB a b z), σ) := by
  refine run_done rfl rfl Tryz.func41 rfl ?_
  have hl := ptV_len (a := a) (b := b) h
  have ho := ptV_one (a := a) (b := b) (z := z)
  have hh := fun (τ : List O) q => hole_ok (σ := τ) (p := q)
  have e := fun x y => eqHole (x := x) (y := y) (a := a) (b := b) h
  have s1 := fun (τ : List O) q => sector2_ok (σ := τ) (p := q) a
  have s2 := fun (τ : List O) q => sector2_ok (σ := τ) (p := q) b
  have tk := take_all hl
  simp only [ptV] at *
  cases c1 : isHoleB a b z with
  | true =>
    rw [c1] at e
    simp +contextual (disch := first | omega | exact rfl | decide | exact kpF (by decide) | exact kpT (by decide) | assumption | exact Z2z | exact Z30 | exact Z32 | exact Z31 | exact Z33 | exact Z34 | (simp only [ZI] <;> omega) | simp only [ZK] | (simp only [ZL] <;> assumption)) only [Tryz.f41, ZH, SOp, GOp, ↓Z1c, Int.reduceAdd, Int.reduceSub, Int.reduceMul, Int.reduceNeg, accs, touch, touchM, okPair, Nat.reduceAdd, Nat.reduceLeDiff, Nat.reduceMul, Nat.reduceSub, isV, opA, grdO, grd, Z41, Int.reduceLT, Int.reduceLE, Int.reduceToNat, builtinP, builtinA, changes, fieldAddrA, resA, tupled, ↓reduceIte, Nat.reduceEqDiff, Nat.reduceLT, Z70, Int.reduceEq, dr41x1, Y3, Y5, Y22, Y24, hh, e, ints_one, tk, rightB, c1]
  | false =>
    rw [c1] at e
    cases c2 : inS a with
    | false =>
      rw [c2] at s1
      simp +contextual (disch := first | omega | exact rfl | decide | exact kpF (by decide) | exact kpT (by decide) | assumption | exact Z2z | exact Z30 | exact Z32 | exact Z31 | exact Z33 | exact Z34 | (simp only [ZI] <;> omega) | simp only [ZK] | (simp only [ZL] <;> assumption)) only [Tryz.f41, ZH, SOp, GOp, ↓Z1c, Int.reduceAdd, Int.reduceSub, Int.reduceMul, Int.reduceNeg, accs, touch, touchM, okPair, Nat.reduceAdd, Nat.reduceLeDiff, Nat.reduceMul, Nat.reduceSub, isV, opA, grdO, grd, Z41, Int.reduceLT, Int.reduceLE, Int.reduceToNat, builtinP, builtinA, changes, fieldAddrA, resA, tupled, ↓reduceIte, Nat.reduceEqDiff, Nat.reduceLT, Z70, Int.reduceEq, dr41x1, Y3, Y5, Y22, Y24, hh, e, s1, ints_one, tk, rightB, c1, c2]
    | true =>
      rw [c2] at s1
      by_cases c3 : b = -1
      · subst c3
        simp +contextual (disch := first | omega | exact rfl | decide | exact kpF (by decide) | exact kpT (by decide) | assumption | exact Z2z | exact Z30 | exact Z32 | exact Z31 | exact Z33 | exact Z34 | (simp only [ZI] <;> omega) | simp only [ZK] | (simp only [ZL] <;> assumption)) only [Tryz.f41, ZH, SOp, GOp, ↓Z1c, Int.reduceAdd, Int.reduceSub, Int.reduceMul, Int.reduceNeg, accs, touch, touchM, okPair, Nat.reduceAdd, Nat.reduceLeDiff, Nat.reduceMul, Nat.reduceSub, isV, opA, grdO, grd, Z41, Int.reduceLT, Int.reduceLE, Int.reduceToNat, builtinP, builtinA, changes, fieldAddrA, resA, tupled, ↓reduceIte, Nat.reduceEqDiff, Nat.reduceLT, Z70, Int.reduceEq, dr41x1, Y3, Y5, Y22, Y24, hh, e, s1, ints_one, tk, rightB, c1, c2]
      · cases c4 : inS b with
        | false =>
          rw [c4] at s2
          simp +contextual (disch := first | omega | exact rfl | decide | exact kpF (by decide) | exact kpT (by decide) | assumption | exact Z2z | exact Z30 | exact Z32 | exact Z31 | exact Z33 | exact Z34 | (simp only [ZI] <;> omega) | simp only [ZK] | (simp only [ZL] <;> assumption)) only [Tryz.f41, ZH, SOp, GOp, ↓Z1c, Int.reduceAdd, Int.reduceSub, Int.reduceMul, Int.reduceNeg, accs, touch, touchM, okPair, Nat.reduceAdd, Nat.reduceLeDiff, Nat.reduceMul, Nat.reduceSub, isV, opA, grdO, grd, Z41, Int.reduceLT, Int.reduceLE, Int.reduceToNat, builtinP, builtinA, changes, fieldAddrA, resA, tupled, ↓reduceIte, Nat.reduceEqDiff, Nat.reduceLT, Z70, Int.reduceEq, dr41x1, Y3, Y5, Y22, Y24, hh, e, s1, s2, ints_one, tk, rightB, c1, c2, c3, c4]
        | true =>
          rw [c4] at s2
          by_cases c5 : b = a
          · subst c5
            simp +contextual (disch := first | omega | exact rfl | decide | exact kpF (by decide) | exact kpT (by decide) | assumption | exact Z2z | exact Z30 | exact Z32 | exact Z31 | exact Z33 | exact Z34 | (simp only [ZI] <;> omega) | simp only [ZK] | (simp only [ZL] <;> assumption)) only [Tryz.f41, ZH, SOp, GOp, ↓Z1c, Int.reduceAdd, Int.reduceSub, Int.reduceMul, Int.reduceNeg, accs, touch, touchM, okPair, Nat.reduceAdd, Nat.reduceLeDiff, Nat.reduceMul, Nat.reduceSub, isV, opA, grdO, grd, Z41, Int.reduceLT, Int.reduceLE, Int.reduceToNat, builtinP, builtinA, changes, fieldAddrA, resA, tupled, ↓reduceIte, Nat.reduceEqDiff, Nat.reduceLT, Z70, Int.reduceEq, dr41x1, Y3, Y5, Y22, Y24, hh, e, s1, s2, ints_one, tk, rightB, c1, c2, c3]
          · simp +contextual (disch := first | omega | exact rfl | decide | exact kpF (by decide) | exact kpT (by decide) | assumption | exact Z2z | exact Z30 | exact Z32 | exact Z31 | exact Z33 | exact Z34 | (simp only [ZI] <;> omega) | simp only [ZK] | (simp only [ZL] <;> assumption)) only [Tryz.f41, ZH, SOp, GOp, ↓Z1c, Int.reduceAdd, Int.reduceSub, Int.reduceMul, Int.reduceNeg, accs, touch, touchM, okPair, Nat.reduceAdd, Nat.reduceLeDiff, Nat.reduceMul, Nat.reduceSub, isV, opA, grdO, grd, Z41, Int.reduceLT, Int.reduceLE, Int.reduceToNat, builtinP, builtinA, changes, fieldAddrA, resA, tupled, ↓reduceIte, Nat.reduceEqDiff, Nat.reduceLT, Z70, Int.reduceEq, dr41x1, Y3, Y5, Y22, Y24, hh, e, s1, s2, ints_one, tk, rightB, c1, c2, c3, c4, c5]
end Go.Am.R2

/- Stems: the whole record, both ways. -/
namespace Go.Am.R2
open Go.Proofs
set_option maxRecDepth 100000
set_option linter.unusedSimpArgs false
set_option linter.unusedVariables false
variable {σ : List O} {p : List Nat}
def stemB (a b : Int) (z : List Int) (c d : Int) : Bool := rightB a b z && (decide (0 ≤ c) && (decide (c ≤ 8192) && (decide (d = 1) || decide (d = 2))))
/-- A stem's cells. -/
structure StemAt (cs : List V) (a b : Int) (z : List Int) (c d : Int) : Prop where
  eq : cs = ptV a b z ++ [.i .i64 c, .i .i64 d]
  z : z.length = 32
theorem StemAt.len {cs : List V} {a b c d : Int} {z : List Int} (h : StemAt cs a b z c d) : cs.length = 36 := by rw [h.eq, List.length_append, ptV_len h.z]; rfl
theorem StemAt.one {cs : List V} {a b c d : Int} {z : List Int} (h : StemAt cs a b z c d) : cs.all V.one = true := by rw [h.eq, List.all_append, ptV_one]; rfl
theorem StemAt.tk {cs : List V} {a b c d : Int} {z : List Int} (h : StemAt cs a b z c d) : take? cs 0 34 = some (ptV a b z) := by
  rw [take?_of (by rw [h.len]; omega), h.eq, List.drop_zero, List.take_left' (ptV_len h.z)]
theorem StemAt.g34 {cs : List V} {a b c d : Int} {z : List Int} (h : StemAt cs a b z c d) : cs[34]? = some (.i .i64 c) := by
  rw [h.eq, List.getElem?_append_right (by rw [ptV_len h.z]; omega), ptV_len h.z]; rfl
theorem StemAt.g35 {cs : List V} {a b c d : Int} {z : List Int} (h : StemAt cs a b z c d) : cs[35]? = some (.i .i64 d) := by
  rw [h.eq, List.getElem?_append_right (by rw [ptV_len h.z]; omega), ptV_len h.z]; rfl
theorem stem_ok {cs : List V} {a b c d : Int} {z : List Int} (h : StemAt cs a b z c d) : runF cfg 8 [.agg cs] σ p = some (.b (stemB a b z c d), σ) := by
  refine run_done rfl rfl Tryz.func8 rfl ?_
  have hl := h.len
  have ho := h.one
  have tk := h.tk
  have g34 := h.g34
  have g35 := h.g35
  have hh := fun (τ : List O) q => right_ok (σ := τ) (p := q) a b z h.z
  have tk2 := take_all (ptV_len (a := a) (b := b) h.z)
  cases c1 : rightB a b z with
  | false =>
    rw [c1] at hh
    simp +contextual (disch := first | omega | exact rfl | decide | exact kpF (by decide) | exact kpT (by decide) | assumption | exact Z2z | exact Z30 | exact Z32 | exact Z31 | exact Z33 | exact Z34 | (simp only [ZI] <;> omega) | simp only [ZK] | (simp only [ZL] <;> assumption)) only [Tryz.f8, ZH, SOp, GOp, ↓Z1c, Int.reduceAdd, Int.reduceSub, Int.reduceMul, Int.reduceNeg, accs, touch, touchM, okPair, Nat.reduceAdd, Nat.reduceLeDiff, Nat.reduceMul, Nat.reduceSub, isV, opA, grdO, grd, Z41, Int.reduceLT, Int.reduceLE, Int.reduceToNat, builtinP, builtinA, changes, fieldAddrA, resA, tupled, ↓reduceIte, Nat.reduceEqDiff, Nat.reduceLT, Z70, Int.reduceEq, Y3, Y5, Y22, Y24, Y26, hh, ho, tk, g34, g35, stemB, c1]
  | true =>
    rw [c1] at hh
    by_cases c2 : 0 ≤ c
    case neg => simp +contextual (disch := first | omega | exact rfl | decide | exact kpF (by decide) | exact kpT (by decide) | assumption | exact Z2z | exact Z30 | exact Z32 | exact Z31 | exact Z33 | exact Z34 | (simp only [ZI] <;> omega) | simp only [ZK] | (simp only [ZL] <;> assumption)) only [Tryz.f8, ZH, SOp, GOp, ↓Z1c, Int.reduceAdd, Int.reduceSub, Int.reduceMul, Int.reduceNeg, accs, touch, touchM, okPair, Nat.reduceAdd, Nat.reduceLeDiff, Nat.reduceMul, Nat.reduceSub, isV, opA, grdO, grd, Z41, Int.reduceLT, Int.reduceLE, Int.reduceToNat, builtinP, builtinA, changes, fieldAddrA, resA, tupled, ↓reduceIte, Nat.reduceEqDiff, Nat.reduceLT, Z70, Int.reduceEq, Y3, Y5, Y22, Y24, Y26, hh, ho, tk, g34, g35, stemB, c1, c2]
    by_cases c3 : c ≤ 8192
    case neg => simp +contextual (disch := first | omega | exact rfl | decide | exact kpF (by decide) | exact kpT (by decide) | assumption | exact Z2z | exact Z30 | exact Z32 | exact Z31 | exact Z33 | exact Z34 | (simp only [ZI] <;> omega) | simp only [ZK] | (simp only [ZL] <;> assumption)) only [Tryz.f8, ZH, SOp, GOp, ↓Z1c, Int.reduceAdd, Int.reduceSub, Int.reduceMul, Int.reduceNeg, accs, touch, touchM, okPair, Nat.reduceAdd, Nat.reduceLeDiff, Nat.reduceMul, Nat.reduceSub, isV, opA, grdO, grd, Z41, Int.reduceLT, Int.reduceLE, Int.reduceToNat, builtinP, builtinA, changes, fieldAddrA, resA, tupled, ↓reduceIte, Nat.reduceEqDiff, Nat.reduceLT, Z70, Int.reduceEq, Y3, Y5, Y22, Y24, Y26, hh, ho, tk, g34, g35, stemB, c1, c2, c3]
    by_cases c4 : d = 1
    · subst c4
      simp +contextual (disch := first | omega | exact rfl | decide | exact kpF (by decide) | exact kpT (by decide) | assumption | exact Z2z | exact Z30 | exact Z32 | exact Z31 | exact Z33 | exact Z34 | (simp only [ZI] <;> omega) | simp only [ZK] | (simp only [ZL] <;> assumption)) only [Tryz.f8, ZH, SOp, GOp, ↓Z1c, Int.reduceAdd, Int.reduceSub, Int.reduceMul, Int.reduceNeg, accs, touch, touchM, okPair, Nat.reduceAdd, Nat.reduceLeDiff, Nat.reduceMul, Nat.reduceSub, isV, opA, grdO, grd, Z41, Int.reduceLT, Int.reduceLE, Int.reduceToNat, builtinP, builtinA, changes, fieldAddrA, resA, tupled, ↓reduceIte, Nat.reduceEqDiff, Nat.reduceLT, Z70, Int.reduceEq, Y3, Y5, Y22, Y24, Y26, hh, ho, tk, g34, g35, stemB, c1, c2, c3]
    · simp +contextual (disch := first | omega | exact rfl | decide | exact kpF (by decide) | exact kpT (by decide) | assumption | exact Z2z | exact Z30 | exact Z32 | exact Z31 | exact Z33 | exact Z34 | (simp only [ZI] <;> omega) | simp only [ZK] | (simp only [ZL] <;> assumption)) only [Tryz.f8, ZH, SOp, GOp, ↓Z1c, Int.reduceAdd, Int.reduceSub, Int.reduceMul, Int.reduceNeg, accs, touch, touchM, okPair, Nat.reduceAdd, Nat.reduceLeDiff, Nat.reduceMul, Nat.reduceSub, isV, opA, grdO, grd, Z41, Int.reduceLT, Int.reduceLE, Int.reduceToNat, builtinP, builtinA, changes, fieldAddrA, resA, tupled, ↓reduceIte, Nat.reduceEqDiff, Nat.reduceLT, Z70, Int.reduceEq, Y3, Y5, Y22, Y24, Y26, hh, ho, tk, g34, g35, stemB, c1, c2, c3, c4]
theorem stem2_ok {cs : List V} {a b c d : Int} {z : List Int} (h : StemAt cs a b z c d) : runF cfg 9 [.agg cs] σ p = some (.b (stemB a b z c d), σ) := by
  refine run_done rfl rfl Tryz.func9 rfl ?_
  have hl := h.len
  have ho := h.one
  have tk := h.tk
  have g34 := h.g34
  have g35 := h.g35
  have hh := fun (τ : List O) q => right2_ok (σ := τ) (p := q) a b z h.z
  have tk2 := take_all (ptV_len (a := a) (b := b) h.z)
  cases c1 : rightB a b z with
  | false =>
    rw [c1] at hh
    simp +contextual (disch := first | omega | exact rfl | decide | exact kpF (by decide) | exact kpT (by decide) | assumption | exact Z2z | exact Z30 | exact Z32 | exact Z31 | exact Z33 | exact Z34 | (simp only [ZI] <;> omega) | simp only [ZK] | (simp only [ZL] <;> assumption)) only [Tryz.f9, ZH, SOp, GOp, ↓Z1c, Int.reduceAdd, Int.reduceSub, Int.reduceMul, Int.reduceNeg, accs, touch, touchM, okPair, Nat.reduceAdd, Nat.reduceLeDiff, Nat.reduceMul, Nat.reduceSub, isV, opA, grdO, grd, Z41, Int.reduceLT, Int.reduceLE, Int.reduceToNat, builtinP, builtinA, changes, fieldAddrA, resA, tupled, ↓reduceIte, Nat.reduceEqDiff, Nat.reduceLT, Z70, Int.reduceEq, Y3, Y5, Y22, Y24, Y26, hh, ho, tk, g34, g35, stemB, c1]
  | true =>
    rw [c1] at hh
    by_cases c2 : 0 ≤ c
    case neg => simp +contextual (disch := first | omega | exact rfl | decide | exact kpF (by decide) | exact kpT (by decide) | assumption | exact Z2z | exact Z30 | exact Z32 | exact Z31 | exact Z33 | exact Z34 | (simp only [ZI] <;> omega) | simp only [ZK] | (simp only [ZL] <;> assumption)) only [Tryz.f9, ZH, SOp, GOp, ↓Z1c, Int.reduceAdd, Int.reduceSub, Int.reduceMul, Int.reduceNeg, accs, touch, touchM, okPair, Nat.reduceAdd, Nat.reduceLeDiff, Nat.reduceMul, Nat.reduceSub, isV, opA, grdO, grd, Z41, Int.reduceLT, Int.reduceLE, Int.reduceToNat, builtinP, builtinA, changes, fieldAddrA, resA, tupled, ↓reduceIte, Nat.reduceEqDiff, Nat.reduceLT, Z70, Int.reduceEq, Y3, Y5, Y22, Y24, Y26, hh, ho, tk, g34, g35, stemB, c1, c2]
    by_cases c3 : c ≤ 8192
    case neg => simp +contextual (disch := first | omega | exact rfl | decide | exact kpF (by decide) | exact kpT (by decide) | assumption | exact Z2z | exact Z30 | exact Z32 | exact Z31 | exact Z33 | exact Z34 | (simp only [ZI] <;> omega) | simp only [ZK] | (simp only [ZL] <;> assumption)) only [Tryz.f9, ZH, SOp, GOp, ↓Z1c, Int.reduceAdd, Int.reduceSub, Int.reduceMul, Int.reduceNeg, accs, touch, touchM, okPair, Nat.reduceAdd, Nat.reduceLeDiff, Nat.reduceMul, Nat.reduceSub, isV, opA, grdO, grd, Z41, Int.reduceLT, Int.reduceLE, Int.reduceToNat, builtinP, builtinA, changes, fieldAddrA, resA, tupled, ↓reduceIte, Nat.reduceEqDiff, Nat.reduceLT, Z70, Int.reduceEq, Y3, Y5, Y22, Y24, Y26, hh, ho, tk, g34, g35, stemB, c1, c2, c3]
    by_cases c4 : d = 1
    · subst c4
      simp +contextual (disch := first | omega | exact rfl | decide | exact kpF (by decide) | exact kpT (by decide) | assumption | exact Z2z | exact Z30 | exact Z32 | exact Z31 | exact Z33 | exact Z34 | (simp only [ZI] <;> omega) | simp only [ZK] | (simp only [ZL] <;> assumption)) only [Tryz.f9, ZH, SOp, GOp, ↓Z1c, Int.reduceAdd, Int.reduceSub, Int.reduceMul, Int.reduceNeg, accs, touch, touchM, okPair, Nat.reduceAdd, Nat.reduceLeDiff, Nat.reduceMul, Nat.reduceSub, isV, opA, grdO, grd, Z41, Int.reduceLT, Int.reduceLE, Int.reduceToNat, builtinP, builtinA, changes, fieldAddrA, resA, tupled, ↓reduceIte, Nat.reduceEqDiff, Nat.reduceLT, Z70, Int.reduceEq, Y3, Y5, Y22, Y24, Y26, hh, ho, tk, g34, g35, stemB, c1, c2, c3]
    · simp +contextual (disch := first | omega | exact rfl | decide | exact kpF (by decide) | exact kpT (by decide) | assumption | exact Z2z | exact Z30 | exact Z32 | exact Z31 | exact Z33 | exact Z34 | (simp only [ZI] <;> omega) | simp only [ZK] | (simp only [ZL] <;> assumption)) only [Tryz.f9, ZH, SOp, GOp, ↓Z1c, Int.reduceAdd, Int.reduceSub, Int.reduceMul, Int.reduceNeg, accs, touch, touchM, okPair, Nat.reduceAdd, Nat.reduceLeDiff, Nat.reduceMul, Nat.reduceSub, isV, opA, grdO, grd, Z41, Int.reduceLT, Int.reduceLE, Int.reduceToNat, builtinP, builtinA, changes, fieldAddrA, resA, tupled, ↓reduceIte, Nat.reduceEqDiff, Nat.reduceLT, Z70, Int.reduceEq, Y3, Y5, Y22, Y24, Y26, hh, ho, tk, g34, g35, stemB, c1, c2, c3, c4]
end Go.Am.R2
