/- Parts of one machine and of the walks over it, joined: K53 K54 K55 K56 K57. -/
import Derived.Test.YtibhpbpjdgodnaaGreatDoorJA
import Derived.Test.YtibhpbpjdgodnaaGreatDoorAmRow
/- Volumes: where the regions lie. -/
namespace Go.Am.R2
open Go.Proofs
set_option maxRecDepth 100000
set_option linter.unusedSimpArgs false
set_option linter.unusedVariables false
variable {σ : List O} {p : List Nat}
theorem tk606 {a0 a1 a2 a3 a4 a5 : V} : take? [a0, a1, a2, a3, a4, a5] 0 6 = some [a0, a1, a2, a3, a4, a5] := rfl
theorem quotaOf_ok {q : Int} (h1 : 4 ≤ q) (h2 : q ≤ 900) : ∃ k : Int, 0 < k ∧ runF cfg 186 [.agg (geoV q)] σ p = some (.i .i64 k, σ) := by
  refine ⟨q, by omega, ?_⟩
  refine run_done rfl rfl Tryz.func186 rfl ?_
  have e1 : (2 * q + 120 < 120) = False := eq_false (by omega)
  have e2 : (1920 < 2 * q + 120) = False := eq_false (by omega)
  have e3 : (2 * q + 120 - 120).tdiv 2 = q := by rw [Int.tdiv_eq_ediv_of_nonneg (by omega)]; omega
  have hf := fun (τ : List O) r => quota_ok (σ := τ) (p := r) h1 h2
  have eqg : ∀ x y, binA cfg .neq 85 x y (.agg (geoV q)) (.agg (geoV q)) = some (.b false) := fun x y => by
    rw [ne85 (by simp [geoV, fk_i]) (by simp [geoV, fk_i])]; rw [eqB_refl (by simp [geoV, fk_i])]; rfl
  have eqe : ∀ x y, binA cfg .eql 85 x y (.agg (geoV q)) (.agg (geoV q)) = some (.b true) := fun x y => by
    rw [eq85 (by simp [geoV, fk_i]) (by simp [geoV, fk_i])]; rw [eqB_refl (by simp [geoV, fk_i])]
  simp only [geoV] at *
  simp +contextual (disch := first | omega | exact rfl | decide | exact kpF (by decide) | exact kpT (by decide) | assumption | exact Z2z | exact Z30 | exact Z32 | exact Z31 | exact Z33 | exact Z34 | (simp only [ZI] <;> omega) | simp only [ZK] | (simp only [ZL] <;> assumption)) only [Tryz.f186, ZH, SOp, GOp, ↓Z1c, Int.reduceAdd, Int.reduceSub, Int.reduceMul, Int.reduceNeg, accs, touch, touchM, okPair, Nat.reduceAdd, Nat.reduceLeDiff, Nat.reduceMul, Nat.reduceSub, isV, opA, grdO, grd, Z41, Int.reduceLT, Int.reduceLE, Int.reduceToNat, builtinP, builtinA, changes, fieldAddrA, resA, tupled, ↓reduceIte, Nat.reduceEqDiff, Nat.reduceLT, Z70, Int.reduceEq, Y3, Y48, Y85, e1, e2, e3, hf, tk606, eqg, eqe]
theorem half_ok {q : Int} (h1 : 4 ≤ q) (h2 : q ≤ 900) {i : Int} (hi : i = 0 ∨ i = 1) : runF cfg 169 [.agg (geoV q), .i .i64 i] σ p = some (.b true, σ) := by
  refine run_done rfl rfl Tryz.func169 rfl ?_
  have hq : ∀ (τ : List O) r, ∃ k : Int, 0 < k ∧ runF cfg 186 [.agg (geoV q)] τ r = some (.i .i64 k, τ) := fun τ r => quotaOf_ok h1 h2
  obtain ⟨k, hk⟩ : ∃ k : List O → List Nat → Int, ∀ τ r, 0 < k τ r ∧ runF cfg 186 [.agg (geoV q)] τ r = some (.i .i64 (k τ r), τ) := ⟨fun τ r => (hq τ r).choose, fun τ r => (hq τ r).choose_spec⟩
  have k1 := fun τ r => (hk τ r).2
  have k2 := fun τ r => (hk τ r).1
  simp only [geoV] at *
  rcases hi with rfl | rfl <;> simp +contextual (disch := first | omega | exact rfl | decide | exact kpF (by decide) | exact kpT (by decide) | assumption | exact Z2z | exact Z30 | exact Z32 | exact Z31 | exact Z33 | exact Z34 | (simp only [ZI] <;> omega) | simp only [ZK] | (simp only [ZL] <;> assumption)) only [Tryz.f169, ZH, SOp, GOp, ↓Z1c, Int.reduceAdd, Int.reduceSub, Int.reduceMul, Int.reduceNeg, accs, touch, touchM, okPair, Nat.reduceAdd, Nat.reduceLeDiff, Nat.reduceMul, Nat.reduceSub, isV, opA, grdO, grd, Z41, Int.reduceLT, Int.reduceLE, Int.reduceToNat, builtinP, builtinA, changes, fieldAddrA, resA, tupled, ↓reduceIte, Nat.reduceEqDiff, Nat.reduceLT, Z70, Int.reduceEq, Y3, Y85, k1, k2, tk606]
theorem region_ok {q : Int} (h1 : 4 ≤ q) (h2 : q ≤ 900) {i : Int} (hi : i = 0 ∨ i = 1) : runF cfg 144 [.agg (geoV q), .i .i64 i] σ p = some (.tup [.i .i64 (i * (2 * q + 148) + 28), .i .i64 0], σ) := by
  refine run_done rfl rfl Tryz.func144 rfl ?_
  have hh := fun (τ : List O) r => half_ok (σ := τ) (p := r) h1 h2 hi
  simp only [geoV] at *
  rcases hi with rfl | rfl
  · have e1 : 0 * (2 * q + 148) = 0 := by omega
    simp +contextual (disch := first | omega | exact rfl | decide | exact kpF (by decide) | exact kpT (by decide) | assumption | exact Z2z | exact Z30 | exact Z32 | exact Z31 | exact Z33 | exact Z34 | (simp only [ZI] <;> omega) | simp only [ZK] | (simp only [ZL] <;> assumption)) only [Tryz.f144, ZH, SOp, GOp, ↓Z1c, Int.reduceAdd, Int.reduceSub, Int.reduceMul, Int.reduceNeg, accs, touch, touchM, okPair, Nat.reduceAdd, Nat.reduceLeDiff, Nat.reduceMul, Nat.reduceSub, isV, opA, grdO, grd, Z41, Int.reduceLT, Int.reduceLE, Int.reduceToNat, builtinP, builtinA, changes, fieldAddrA, resA, tupled, ↓reduceIte, Nat.reduceEqDiff, Nat.reduceLT, Z70, Int.reduceEq, Y3, Y85, hh, tk606, e1]
  · have e1 : 1 * (2 * q + 148) = 2 * q + 148 := by omega
    simp +contextual (disch := first | omega | exact rfl | decide | exact kpF (by decide) | exact kpT (by decide) | assumption | exact Z2z | exact Z30 | exact Z32 | exact Z31 | exact Z33 | exact Z34 | (simp only [ZI] <;> omega) | simp only [ZK] | (simp only [ZL] <;> assumption)) only [Tryz.f144, ZH, SOp, GOp, ↓Z1c, Int.reduceAdd, Int.reduceSub, Int.reduceMul, Int.reduceNeg, accs, touch, touchM, okPair, Nat.reduceAdd, Nat.reduceLeDiff, Nat.reduceMul, Nat.reduceSub, isV, opA, grdO, grd, Z41, Int.reduceLT, Int.reduceLE, Int.reduceToNat, builtinP, builtinA, changes, fieldAddrA, resA, tupled, ↓reduceIte, Nat.reduceEqDiff, Nat.reduceLT, Z70, Int.reduceEq, Y3, Y85, hh, tk606, e1]
theorem regions_ok {q : Int} (h1 : 4 ≤ q) (h2 : q ≤ 900) : runF cfg 116 [.agg (geoV q)] σ p = some (.agg [.i .i64 28, .i .i64 (2 * q + 176)], σ) := by
  refine run_done rfl rfl Tryz.func116 rfl ?_
  have r0 := fun (τ : List O) r => region_ok (σ := τ) (p := r) h1 h2 (i := 0) (.inl rfl)
  have r1 := fun (τ : List O) r => region_ok (σ := τ) (p := r) h1 h2 (i := 1) (.inr rfl)
  rw [show 0 * (2 * q + 148) + 28 = 28 by omega] at r0
  rw [show 1 * (2 * q + 148) + 28 = 2 * q + 176 by omega] at r1
  simp only [geoV] at *
  simp +contextual (disch := first | omega | exact rfl | decide | exact kpF (by decide) | exact kpT (by decide) | assumption | exact Z2z | exact Z30 | exact Z32 | exact Z31 | exact Z33 | exact Z34 | (simp only [ZI] <;> omega) | simp only [ZK] | (simp only [ZL] <;> assumption)) only [Tryz.f116, ZH, SOp, GOp, ↓Z1c, Int.reduceAdd, Int.reduceSub, Int.reduceMul, Int.reduceNeg, accs, touch, touchM, okPair, Nat.reduceAdd, Nat.reduceLeDiff, Nat.reduceMul, Nat.reduceSub, isV, opA, grdO, grd, Z41, Int.reduceLT, Int.reduceLE, Int.reduceToNat, builtinP, builtinA, changes, fieldAddrA, resA, tupled, ↓reduceIte, Nat.reduceEqDiff, Nat.reduceLT, Z70, Int.reduceEq, Y3, Y38, Y85, Wq_loop, loopQ_normal, loopQ_exit, loopQ_ret, r0, r1, tk606]
end Go.Am.R2

/- Volumes: is the list of replaced sectors right, by the program. -/
namespace Go.Am.R2
open Go.Proofs
set_option maxRecDepth 100000
set_option linter.unusedSimpArgs false
set_option linter.unusedVariables false
variable {σ : List O} {p : List Nat}
def halfI (n : Int) : Int := if n < 28 then 0 else if 4096 < n then 0 else if 0 < n % 2 then 0 else (n - 20) / 2
theorem halfI_le {n : Int} : 0 ≤ halfI n ∧ halfI n ≤ 2038 := by unfold halfI; split <;> (try split) <;> (try split) <;> omega
theorem half4_ok {n : Int} : runF cfg 136 [.i .i64 n] σ p = some (.i .i64 (halfI n), σ) := by
  refine run_done rfl rfl Tryz.func136 rfl ?_
  unfold halfI
  by_cases h1 : n < 28
  · simp +contextual (disch := first | omega | exact rfl | decide | exact kpF (by decide) | exact kpT (by decide) | assumption | exact Z2z | exact Z30 | exact Z32 | exact Z31 | exact Z33 | exact Z34 | (simp only [ZI] <;> omega) | simp only [ZK] | (simp only [ZL] <;> assumption)) only [Tryz.f136, ZH, SOp, GOp, ↓Z1c, Int.reduceAdd, Int.reduceSub, Int.reduceMul, Int.reduceNeg, accs, touch, touchM, okPair, Nat.reduceAdd, Nat.reduceLeDiff, Nat.reduceMul, Nat.reduceSub, isV, opA, grdO, grd, Z41, Int.reduceLT, Int.reduceLE, Int.reduceToNat, builtinP, builtinA, changes, fieldAddrA, resA, tupled, ↓reduceIte, Nat.reduceEqDiff, Nat.reduceLT, Z70, Int.reduceEq, Y3, h1]
  by_cases h2 : 4096 < n
  · simp +contextual (disch := first | omega | exact rfl | decide | exact kpF (by decide) | exact kpT (by decide) | assumption | exact Z2z | exact Z30 | exact Z32 | exact Z31 | exact Z33 | exact Z34 | (simp only [ZI] <;> omega) | simp only [ZK] | (simp only [ZL] <;> assumption)) only [Tryz.f136, ZH, SOp, GOp, ↓Z1c, Int.reduceAdd, Int.reduceSub, Int.reduceMul, Int.reduceNeg, accs, touch, touchM, okPair, Nat.reduceAdd, Nat.reduceLeDiff, Nat.reduceMul, Nat.reduceSub, isV, opA, grdO, grd, Z41, Int.reduceLT, Int.reduceLE, Int.reduceToNat, builtinP, builtinA, changes, fieldAddrA, resA, tupled, ↓reduceIte, Nat.reduceEqDiff, Nat.reduceLT, Z70, Int.reduceEq, Y3, h1, h2]
  have e : n.tmod 2 = n % 2 := Int.tmod_eq_emod_of_nonneg (by omega)
  have e2 : (n - 20).tdiv 2 = (n - 20) / 2 := Int.tdiv_eq_ediv_of_nonneg (by omega)
  by_cases h3 : 0 < n % 2
  · simp +contextual (disch := first | omega | exact rfl | decide | exact kpF (by decide) | exact kpT (by decide) | assumption | exact Z2z | exact Z30 | exact Z32 | exact Z31 | exact Z33 | exact Z34 | (simp only [ZI] <;> omega) | simp only [ZK] | (simp only [ZL] <;> assumption)) only [Tryz.f136, ZH, SOp, GOp, ↓Z1c, Int.reduceAdd, Int.reduceSub, Int.reduceMul, Int.reduceNeg, accs, touch, touchM, okPair, Nat.reduceAdd, Nat.reduceLeDiff, Nat.reduceMul, Nat.reduceSub, isV, opA, grdO, grd, Z41, Int.reduceLT, Int.reduceLE, Int.reduceToNat, builtinP, builtinA, changes, fieldAddrA, resA, tupled, ↓reduceIte, Nat.reduceEqDiff, Nat.reduceLT, Z70, Int.reduceEq, Y3, h1, h2, e, h3]
  · simp +contextual (disch := first | omega | exact rfl | decide | exact kpF (by decide) | exact kpT (by decide) | assumption | exact Z2z | exact Z30 | exact Z32 | exact Z31 | exact Z33 | exact Z34 | (simp only [ZI] <;> omega) | simp only [ZK] | (simp only [ZL] <;> assumption)) only [Tryz.f136, ZH, SOp, GOp, ↓Z1c, Int.reduceAdd, Int.reduceSub, Int.reduceMul, Int.reduceNeg, accs, touch, touchM, okPair, Nat.reduceAdd, Nat.reduceLeDiff, Nat.reduceMul, Nat.reduceSub, isV, opA, grdO, grd, Z41, Int.reduceLT, Int.reduceLE, Int.reduceToNat, builtinP, builtinA, changes, fieldAddrA, resA, tupled, ↓reduceIte, Nat.reduceEqDiff, Nat.reduceLT, Z70, Int.reduceEq, Y3, h1, h2, e, e2, h3]
theorem half4r_ok {n : Int} : runF cfg 92 [.i .i64 n] σ p = some (.i .i64 (halfI n), σ) := by
  refine run_done rfl rfl Tryz.func92 rfl ?_
  unfold halfI
  by_cases h1 : n < 28
  · simp +contextual (disch := first | omega | exact rfl | decide | exact kpF (by decide) | exact kpT (by decide) | assumption | exact Z2z | exact Z30 | exact Z32 | exact Z31 | exact Z33 | exact Z34 | (simp only [ZI] <;> omega) | simp only [ZK] | (simp only [ZL] <;> assumption)) only [Tryz.f92, ZH, SOp, GOp, ↓Z1c, Int.reduceAdd, Int.reduceSub, Int.reduceMul, Int.reduceNeg, accs, touch, touchM, okPair, Nat.reduceAdd, Nat.reduceLeDiff, Nat.reduceMul, Nat.reduceSub, isV, opA, grdO, grd, Z41, Int.reduceLT, Int.reduceLE, Int.reduceToNat, builtinP, builtinA, changes, fieldAddrA, resA, tupled, ↓reduceIte, Nat.reduceEqDiff, Nat.reduceLT, Z70, Int.reduceEq, Y3, h1]
  by_cases h2 : 4096 < n
  · simp +contextual (disch := first | omega | exact rfl | decide | exact kpF (by decide) | exact kpT (by decide) | assumption | exact Z2z | exact Z30 | exact Z32 | exact Z31 | exact Z33 | exact Z34 | (simp only [ZI] <;> omega) | simp only [ZK] | (simp only [ZL] <;> assumption)) only [Tryz.f92, ZH, SOp, GOp, ↓Z1c, Int.reduceAdd, Int.reduceSub, Int.reduceMul, Int.reduceNeg, accs, touch, touchM, okPair, Nat.reduceAdd, Nat.reduceLeDiff, Nat.reduceMul, Nat.reduceSub, isV, opA, grdO, grd, Z41, Int.reduceLT, Int.reduceLE, Int.reduceToNat, builtinP, builtinA, changes, fieldAddrA, resA, tupled, ↓reduceIte, Nat.reduceEqDiff, Nat.reduceLT, Z70, Int.reduceEq, Y3, h1, h2]
  have e : n.tmod 2 = n % 2 := Int.tmod_eq_emod_of_nonneg (by omega)
  have e2 : (n - 20).tdiv 2 = (n - 20) / 2 := Int.tdiv_eq_ediv_of_nonneg (by omega)
  by_cases h3 : 0 < n % 2
  · have h4 : n % 2 = 1 := by omega
    simp +contextual (disch := first | omega | exact rfl | decide | exact kpF (by decide) | exact kpT (by decide) | assumption | exact Z2z | exact Z30 | exact Z32 | exact Z31 | exact Z33 | exact Z34 | (simp only [ZI] <;> omega) | simp only [ZK] | (simp only [ZL] <;> assumption)) only [Tryz.f92, ZH, SOp, GOp, ↓Z1c, Int.reduceAdd, Int.reduceSub, Int.reduceMul, Int.reduceNeg, accs, touch, touchM, okPair, Nat.reduceAdd, Nat.reduceLeDiff, Nat.reduceMul, Nat.reduceSub, isV, opA, grdO, grd, Z41, Int.reduceLT, Int.reduceLE, Int.reduceToNat, builtinP, builtinA, changes, fieldAddrA, resA, tupled, ↓reduceIte, Nat.reduceEqDiff, Nat.reduceLT, Z70, Int.reduceEq, Y3, h1, h2, e, h3, h4]
  · have h4 : ¬ n % 2 = 1 := by omega
    simp +contextual (disch := first | omega | exact rfl | decide | exact kpF (by decide) | exact kpT (by decide) | assumption | exact Z2z | exact Z30 | exact Z32 | exact Z31 | exact Z33 | exact Z34 | (simp only [ZI] <;> omega) | simp only [ZK] | (simp only [ZL] <;> assumption)) only [Tryz.f92, ZH, SOp, GOp, ↓Z1c, Int.reduceAdd, Int.reduceSub, Int.reduceMul, Int.reduceNeg, accs, touch, touchM, okPair, Nat.reduceAdd, Nat.reduceLeDiff, Nat.reduceMul, Nat.reduceSub, isV, opA, grdO, grd, Z41, Int.reduceLT, Int.reduceLE, Int.reduceToNat, builtinP, builtinA, changes, fieldAddrA, resA, tupled, ↓reduceIte, Nat.reduceEqDiff, Nat.reduceLT, Z70, Int.reduceEq, Y3, h1, h2, e, e2, h3, h4]
def usableB (b h : Int) : Bool := decide (0 < h) && decide (0 ≤ b) && decide (b < 2 * h) && decide (1 < b % h)
theorem usable_ok {b h : Int} (h0 : 0 ≤ h) (h1 : h ≤ 2038) : runF cfg 165 [.i .i64 b, .i .i64 h] σ p = some (.b (usableB b h), σ) := by
  refine run_done rfl rfl Tryz.func165 rfl ?_
  unfold usableB
  by_cases a1 : 0 < h
  · by_cases a2 : 0 ≤ b
    · have e : b.tmod h = b % h := Int.tmod_eq_emod_of_nonneg a2
      have e0 : ¬ h = 0 := by omega
      have hm : 0 ≤ b % h ∧ b % h < h := ⟨Int.emod_nonneg _ (by omega), Int.emod_lt_of_pos _ a1⟩
      by_cases a3 : b < 2 * h
      · simp +contextual (disch := first | omega | exact rfl | decide | exact kpF (by decide) | exact kpT (by decide) | assumption | exact Z2z | exact Z30 | exact Z32 | exact Z31 | exact Z33 | exact Z34 | (simp only [ZI] <;> omega) | simp only [ZK] | (simp only [ZL] <;> assumption)) only [Tryz.f165, ZH, SOp, GOp, ↓Z1c, Int.reduceAdd, Int.reduceSub, Int.reduceMul, Int.reduceNeg, accs, touch, touchM, okPair, Nat.reduceAdd, Nat.reduceLeDiff, Nat.reduceMul, Nat.reduceSub, isV, opA, grdO, grd, Z41, Int.reduceLT, Int.reduceLE, Int.reduceToNat, builtinP, builtinA, changes, fieldAddrA, resA, tupled, ↓reduceIte, Nat.reduceEqDiff, Nat.reduceLT, Z70, Int.reduceEq, Y3, a1, a2, a3, e, e0]
      · simp +contextual (disch := first | omega | exact rfl | decide | exact kpF (by decide) | exact kpT (by decide) | assumption | exact Z2z | exact Z30 | exact Z32 | exact Z31 | exact Z33 | exact Z34 | (simp only [ZI] <;> omega) | simp only [ZK] | (simp only [ZL] <;> assumption)) only [Tryz.f165, ZH, SOp, GOp, ↓Z1c, Int.reduceAdd, Int.reduceSub, Int.reduceMul, Int.reduceNeg, accs, touch, touchM, okPair, Nat.reduceAdd, Nat.reduceLeDiff, Nat.reduceMul, Nat.reduceSub, isV, opA, grdO, grd, Z41, Int.reduceLT, Int.reduceLE, Int.reduceToNat, builtinP, builtinA, changes, fieldAddrA, resA, tupled, ↓reduceIte, Nat.reduceEqDiff, Nat.reduceLT, Z70, Int.reduceEq, Y3, a1, a2, a3]
    · simp +contextual (disch := first | omega | exact rfl | decide | exact kpF (by decide) | exact kpT (by decide) | assumption | exact Z2z | exact Z30 | exact Z32 | exact Z31 | exact Z33 | exact Z34 | (simp only [ZI] <;> omega) | simp only [ZK] | (simp only [ZL] <;> assumption)) only [Tryz.f165, ZH, SOp, GOp, ↓Z1c, Int.reduceAdd, Int.reduceSub, Int.reduceMul, Int.reduceNeg, accs, touch, touchM, okPair, Nat.reduceAdd, Nat.reduceLeDiff, Nat.reduceMul, Nat.reduceSub, isV, opA, grdO, grd, Z41, Int.reduceLT, Int.reduceLE, Int.reduceToNat, builtinP, builtinA, changes, fieldAddrA, resA, tupled, ↓reduceIte, Nat.reduceEqDiff, Nat.reduceLT, Z70, Int.reduceEq, Y3, a1, a2]
  · simp +contextual (disch := first | omega | exact rfl | decide | exact kpF (by decide) | exact kpT (by decide) | assumption | exact Z2z | exact Z30 | exact Z32 | exact Z31 | exact Z33 | exact Z34 | (simp only [ZI] <;> omega) | simp only [ZK] | (simp only [ZL] <;> assumption)) only [Tryz.f165, ZH, SOp, GOp, ↓Z1c, Int.reduceAdd, Int.reduceSub, Int.reduceMul, Int.reduceNeg, accs, touch, touchM, okPair, Nat.reduceAdd, Nat.reduceLeDiff, Nat.reduceMul, Nat.reduceSub, isV, opA, grdO, grd, Z41, Int.reduceLT, Int.reduceLE, Int.reduceToNat, builtinP, builtinA, changes, fieldAddrA, resA, tupled, ↓reduceIte, Nat.reduceEqDiff, Nat.reduceLT, Z70, Int.reduceEq, Y3, a1]
theorem usabler_ok {b h : Int} (h0 : 0 ≤ h) (h1 : h ≤ 2038) : runF cfg 93 [.i .i64 b, .i .i64 h] σ p = some (.b (usableB b h), σ) := by
  refine run_done rfl rfl Tryz.func93 rfl ?_
  unfold usableB
  by_cases a1 : 0 < h
  · by_cases a2 : 0 ≤ b
    · have e : b.tmod h = b % h := Int.tmod_eq_emod_of_nonneg a2
      have e0 : ¬ h = 0 := by omega
      have hm : 0 ≤ b % h ∧ b % h < h := ⟨Int.emod_nonneg _ (by omega), Int.emod_lt_of_pos _ a1⟩
      by_cases a3 : b < 2 * h
      · simp +contextual (disch := first | omega | exact rfl | decide | exact kpF (by decide) | exact kpT (by decide) | assumption | exact Z2z | exact Z30 | exact Z32 | exact Z31 | exact Z33 | exact Z34 | (simp only [ZI] <;> omega) | simp only [ZK] | (simp only [ZL] <;> assumption)) only [Tryz.f93, ZH, SOp, GOp, ↓Z1c, Int.reduceAdd, Int.reduceSub, Int.reduceMul, Int.reduceNeg, accs, touch, touchM, okPair, Nat.reduceAdd, Nat.reduceLeDiff, Nat.reduceMul, Nat.reduceSub, isV, opA, grdO, grd, Z41, Int.reduceLT, Int.reduceLE, Int.reduceToNat, builtinP, builtinA, changes, fieldAddrA, resA, tupled, ↓reduceIte, Nat.reduceEqDiff, Nat.reduceLT, Z70, Int.reduceEq, Y3, a1, a2, a3, e, e0]
      · simp +contextual (disch := first | omega | exact rfl | decide | exact kpF (by decide) | exact kpT (by decide) | assumption | exact Z2z | exact Z30 | exact Z32 | exact Z31 | exact Z33 | exact Z34 | (simp only [ZI] <;> omega) | simp only [ZK] | (simp only [ZL] <;> assumption)) only [Tryz.f93, ZH, SOp, GOp, ↓Z1c, Int.reduceAdd, Int.reduceSub, Int.reduceMul, Int.reduceNeg, accs, touch, touchM, okPair, Nat.reduceAdd, Nat.reduceLeDiff, Nat.reduceMul, Nat.reduceSub, isV, opA, grdO, grd, Z41, Int.reduceLT, Int.reduceLE, Int.reduceToNat, builtinP, builtinA, changes, fieldAddrA, resA, tupled, ↓reduceIte, Nat.reduceEqDiff, Nat.reduceLT, Z70, Int.reduceEq, Y3, a1, a2, a3]
    · simp +contextual (disch := first | omega | exact rfl | decide | exact kpF (by decide) | exact kpT (by decide) | assumption | exact Z2z | exact Z30 | exact Z32 | exact Z31 | exact Z33 | exact Z34 | (simp only [ZI] <;> omega) | simp only [ZK] | (simp only [ZL] <;> assumption)) only [Tryz.f93, ZH, SOp, GOp, ↓Z1c, Int.reduceAdd, Int.reduceSub, Int.reduceMul, Int.reduceNeg, accs, touch, touchM, okPair, Nat.reduceAdd, Nat.reduceLeDiff, Nat.reduceMul, Nat.reduceSub, isV, opA, grdO, grd, Z41, Int.reduceLT, Int.reduceLE, Int.reduceToNat, builtinP, builtinA, changes, fieldAddrA, resA, tupled, ↓reduceIte, Nat.reduceEqDiff, Nat.reduceLT, Z70, Int.reduceEq, Y3, a1, a2]
  · simp +contextual (disch := first | omega | exact rfl | decide | exact kpF (by decide) | exact kpT (by decide) | assumption | exact Z2z | exact Z30 | exact Z32 | exact Z31 | exact Z33 | exact Z34 | (simp only [ZI] <;> omega) | simp only [ZK] | (simp only [ZL] <;> assumption)) only [Tryz.f93, ZH, SOp, GOp, ↓Z1c, Int.reduceAdd, Int.reduceSub, Int.reduceMul, Int.reduceNeg, accs, touch, touchM, okPair, Nat.reduceAdd, Nat.reduceLeDiff, Nat.reduceMul, Nat.reduceSub, isV, opA, grdO, grd, Z41, Int.reduceLT, Int.reduceLE, Int.reduceToNat, builtinP, builtinA, changes, fieldAddrA, resA, tupled, ↓reduceIte, Nat.reduceEqDiff, Nat.reduceLT, Z70, Int.reduceEq, Y3, a1]
/-- A set of numbers. -/
def mpO (st : List Nat) (l : List Int) : O := .map st (l.map fun k => (V.i .i64 k, V.b true))
theorem find_in {k : Int} : ∀ {l : List Int} (n : Nat), k ∈ l → ∃ i, findA (.i .i64 k) (l.map fun k => (V.i .i64 k, V.b true)) n = some (some (i, .b true))
  | a :: l, n, h => by
    simp only [List.map_cons, findA]
    by_cases hk : k = a
    · subst hk
      have : keyEq (.i .i64 k) (.i .i64 k) = some true := by simp [keyEq]
      rw [this]; exact ⟨n, rfl⟩
    · have : keyEq (.i .i64 k) (.i .i64 a) = some false := by simp [keyEq, hk]
      rw [this]
      exact find_in (n + 1) ((List.mem_cons.1 h).resolve_left hk)
theorem find_out {k : Int} : ∀ {l : List Int} (n : Nat), k ∉ l → findA (.i .i64 k) (l.map fun k => (V.i .i64 k, V.b true)) n = some none
  | [], n, _ => rfl
  | a :: l, n, h => by
    simp only [List.map_cons, findA]
    have : keyEq (.i .i64 k) (.i .i64 a) = some false := by
      have : ¬ k = a := fun e => h (by rw [e]; exact List.mem_cons_self)
      simp [keyEq, this]
    rw [this]
    exact find_out (n + 1) fun e => h (List.mem_cons_of_mem _ e)
theorem lookup_mp {r : Nat} {st : List Nat} {l : List Int} {k : Int} (h : σ[r]? = some (mpO st l)) : lookupA cfg 209 σ (.map r st) (.i .i64 k) false = some (.b (decide (k ∈ l))) := by
  have hk : keyOk cfg 3 (.i .i64 k) = true := by simp [keyOk, sh3]
  simp only [lookupA, sh209, hk, if_true, h, mpO]
  by_cases hm : k ∈ l
  · obtain ⟨i, hi⟩ := find_in 0 hm
    simp [hi, hm]
  · simp [find_out 0 hm, hm, ze4]
theorem update_mp {r : Nat} {st : List Nat} {l : List Int} {k : Int} (h : σ[r]? = some (mpO st l)) (hn : k ∉ l) : mapUpdateA cfg 209 σ (.map r st) (.i .i64 k) (.b true) = some (σ.set r (mpO st (l ++ [k]))) := by
  have hk : keyOk cfg 3 (.i .i64 k) = true := by simp [keyOk, sh3]
  simp only [mapUpdateA, sh209, hk, if_true, h, mpO]
  simp [find_out 0 hn]
theorem sto170m {r o q : Nat} {st st' : List Nat} : storeA cfg 209 σ (.ptr r st o) (.map q st') = (rowAt σ r st).bind fun cs => if o < cs.length then some (σ.set r (.cells st (cs.set o (.map q st')))) else none := sto209 rfl
/-- Is the list of replaced sectors right. -/
def pairB (l : List (Int × Int)) (n h : Int) (i : Nat) : Bool :=
  let x := l.getD i (0, 0)
  usableB x.1 h && decide (2 * h ≤ x.2) && decide (x.2 < n) && !(decide (x.1 ∈ (l.take i).map Prod.fst)) && !(decide (x.2 ∈ (l.take i).map Prod.snd))
def remapB (m : RemapR) (n : Int) : Bool :=
  decide (halfI n ≠ 0) && decide (0 ≤ m.gen) && decide (m.gen ≤ 4611686018427387904) && decide (m.pl.length ≤ 20) && (List.range m.pl.length).all fun i => pairB m.pl n (halfI n) i
theorem remap_ok (m : RemapR) (h : m.ok) (n : Int) : runF cfg 137 [.agg m.v, .i .i64 n] σ p = some (.b (remapB m n), σ) := by
  have o1 := h.s.one
  have l1 := fun τ => h.s.len (C := cfg) sh35 τ
  have hh := fun (τ : List O) q => half4_ok (σ := τ) (p := q) (n := n)
  have hb := halfI_le (n := n)
  refine run_done rfl rfl Tryz.func137 rfl ?_
  unfold remapB
  generalize halfI n = k at hh hb
  by_cases c1 : k = 0
  · simp +contextual (disch := first | omega | exact rfl | decide | exact kpF (by decide) | exact kpT (by decide) | assumption | exact Z2z | exact Z30 | exact Z32 | exact Z31 | exact Z33 | exact Z34 | (simp only [ZI] <;> omega) | simp only [ZK] | (simp only [ZL] <;> assumption)) only [Tryz.f137, ZH, SOp, GOp, ↓Z1c, Int.reduceAdd, Int.reduceSub, Int.reduceMul, Int.reduceNeg, accs, touch, touchM, okPair, Nat.reduceAdd, Nat.reduceLeDiff, Nat.reduceMul, Nat.reduceSub, isV, opA, grdO, grd, Z41, Int.reduceLT, Int.reduceLE, Int.reduceToNat, builtinP, builtinA, changes, fieldAddrA, resA, tupled, ↓reduceIte, Nat.reduceEqDiff, Nat.reduceLT, Z70, Int.reduceEq, dr137x11, Y3, Y4, Y35, Y37, Y134, Y209, Y210, RemapR.v, o1, l1, hh, c1]
  by_cases c2 : m.gen < 0
  · have c2' : ¬ 0 ≤ m.gen := by omega
    simp +contextual (disch := first | omega | exact rfl | decide | exact kpF (by decide) | exact kpT (by decide) | assumption | exact Z2z | exact Z30 | exact Z32 | exact Z31 | exact Z33 | exact Z34 | (simp only [ZI] <;> omega) | simp only [ZK] | (simp only [ZL] <;> assumption)) only [Tryz.f137, ZH, SOp, GOp, ↓Z1c, Int.reduceAdd, Int.reduceSub, Int.reduceMul, Int.reduceNeg, accs, touch, touchM, okPair, Nat.reduceAdd, Nat.reduceLeDiff, Nat.reduceMul, Nat.reduceSub, isV, opA, grdO, grd, Z41, Int.reduceLT, Int.reduceLE, Int.reduceToNat, builtinP, builtinA, changes, fieldAddrA, resA, tupled, ↓reduceIte, Nat.reduceEqDiff, Nat.reduceLT, Z70, Int.reduceEq, dr137x11, Y3, Y4, Y35, Y37, Y134, Y209, Y210, RemapR.v, o1, l1, hh, c1, c2, c2']
  by_cases c3 : 4611686018427387904 < m.gen
  · have c3' : ¬ m.gen ≤ 4611686018427387904 := by omega
    simp +contextual (disch := first | omega | exact rfl | decide | exact kpF (by decide) | exact kpT (by decide) | assumption | exact Z2z | exact Z30 | exact Z32 | exact Z31 | exact Z33 | exact Z34 | (simp only [ZI] <;> omega) | simp only [ZK] | (simp only [ZL] <;> assumption)) only [Tryz.f137, ZH, SOp, GOp, ↓Z1c, Int.reduceAdd, Int.reduceSub, Int.reduceMul, Int.reduceNeg, accs, touch, touchM, okPair, Nat.reduceAdd, Nat.reduceLeDiff, Nat.reduceMul, Nat.reduceSub, isV, opA, grdO, grd, Z41, Int.reduceLT, Int.reduceLE, Int.reduceToNat, builtinP, builtinA, changes, fieldAddrA, resA, tupled, ↓reduceIte, Nat.reduceEqDiff, Nat.reduceLT, Z70, Int.reduceEq, dr137x11, Y3, Y4, Y35, Y37, Y134, Y209, Y210, RemapR.v, o1, l1, hh, c1, c2, c3, c3']
  by_cases c4 : (20 : Int) < m.pl.length
  · have c4' : ¬ m.pl.length ≤ 20 := by omega
    simp +contextual (disch := first | omega | exact rfl | decide | exact kpF (by decide) | exact kpT (by decide) | assumption | exact Z2z | exact Z30 | exact Z32 | exact Z31 | exact Z33 | exact Z34 | (simp only [ZI] <;> omega) | simp only [ZK] | (simp only [ZL] <;> assumption)) only [Tryz.f137, ZH, SOp, GOp, ↓Z1c, Int.reduceAdd, Int.reduceSub, Int.reduceMul, Int.reduceNeg, accs, touch, touchM, okPair, Nat.reduceAdd, Nat.reduceLeDiff, Nat.reduceMul, Nat.reduceSub, isV, opA, grdO, grd, Z41, Int.reduceLT, Int.reduceLE, Int.reduceToNat, builtinP, builtinA, changes, fieldAddrA, resA, tupled, ↓reduceIte, Nat.reduceEqDiff, Nat.reduceLT, Z70, Int.reduceEq, dr137x11, Y3, Y4, Y35, Y37, Y134, Y209, Y210, RemapR.v, o1, l1, hh, c1, c2, c3, c4, c4']
  have hB : (decide (k ≠ 0) && decide (0 ≤ m.gen) && decide (m.gen ≤ 4611686018427387904) && decide (m.pl.length ≤ 20)) = true := by
    simp [c1]; omega
  rw [hB, Bool.true_and]
  have hn := fun (i : Nat) (hi : i < m.pl.length) => prV_drop m.pl i hi
  simp +contextual (disch := first | omega | exact rfl | decide | exact kpF (by decide) | exact kpT (by decide) | assumption | exact Z2z | exact Z30 | exact Z32 | exact Z31 | exact Z33 | exact Z34 | (simp only [ZI] <;> omega) | simp only [ZK] | (simp only [ZL] <;> assumption)) only [Tryz.f137, ZH, SOp, GOp, ↓Z1c, Int.reduceAdd, Int.reduceSub, Int.reduceMul, Int.reduceNeg, accs, touch, touchM, okPair, Nat.reduceAdd, Nat.reduceLeDiff, Nat.reduceMul, Nat.reduceSub, isV, opA, grdO, grd, Z41, Int.reduceLT, Int.reduceLE, Int.reduceToNat, builtinP, builtinA, changes, fieldAddrA, resA, tupled, ↓reduceIte, Nat.reduceEqDiff, Nat.reduceLT, Z70, Int.reduceEq, dr137x11, Y3, Y4, Y35, Y37, Y134, Y209, Y210, RemapR.v, o1, l1, hh, c1, c2, c3, c4, sto170m]
  refine Wq.up (fun i t => t.nt = 81 ∧ (∃ L : List O, t.σ = σ ++ (.cells (0 :: p) m.v :: .cells (2 :: p) [.map (σ.length + 2) (3 :: p), .map (σ.length + 3) (4 :: p)] :: mpO (3 :: p) ((m.pl.take i).map Prod.fst) :: mpO (4 :: p) ((m.pl.take i).map Prod.snd) :: L)) ∧
    t.t.get 1 = some (.i .i64 n) ∧ t.t.get 5 = some (.i .i64 k) ∧ t.t.get 6 = some (.ptr (σ.length + 1) (2 :: p) 0) ∧ t.t.get 34 = some m.prs ∧ t.t.get 35 = some (.i .i64 m.pl.length) ∧ t.t.get 36 = some (.i .i64 (i : Nat)) ∧ ∀ j, j < i → pairB m.pl n k j = true) m.pl.length ?_ ?_
  · refine ⟨rfl, ⟨[], rfl⟩, ?_⟩
    simp +contextual (disch := first | omega | exact rfl | decide | exact kpF (by decide) | exact kpT (by decide) | assumption | exact Z2z | exact Z30 | exact Z32 | exact Z31 | exact Z33 | exact Z34 | (simp only [ZI] <;> omega) | simp only [ZK] | (simp only [ZL] <;> assumption)) only [ZH, SOp, GOp, ↓Z1c, Int.reduceAdd, Int.reduceSub, Int.reduceMul, Int.reduceNeg, accs, touch, touchM, okPair, Nat.reduceAdd, Nat.reduceLeDiff, Nat.reduceMul, Nat.reduceSub, isV, opA, grdO, grd, Z41, Int.reduceLT, Int.reduceLE, Int.reduceToNat, builtinP, builtinA, changes, fieldAddrA, resA, tupled, ↓reduceIte, Nat.reduceEqDiff, Nat.reduceLT, Z70, Int.reduceEq]
    exact fun j hj => absurd hj (by omega)
  · rintro i ⟨t, nt, σ', c⟩ hi ⟨rfl, ⟨L, rfl⟩, g1, g5, g6, g34, g35, g36, hall⟩
    simp only [RemapR.v] at g1 g5 g6 g34 g35 g36 ⊢
    by_cases hlt : i < m.pl.length
    · have hlt' : (i : Int) < (m.pl.length : Int) := by omega
      have a1 := h.s.at (C := cfg) sh35 sz134 hlt
      have ld : ∀ τ, loadA cfg 134 τ (.iptr ((prV m.pl).drop (i * (1 + 1)))) = some (.agg [.i .i64 m.pl[i].1, .i .i64 m.pl[i].2]) := fun τ => by
        rw [load_iagg ag134 sz134, hn i hlt]; rfl
      have hpi : m.pl.getD i (0, 0) = m.pl[i] := by rw [List.getD_eq_getElem?_getD, List.getElem?_eq_getElem hlt]; rfl
      have hP : pairB m.pl n k i = (usableB m.pl[i].1 k && decide (2 * k ≤ m.pl[i].2) && decide (m.pl[i].2 < n) && !(decide (m.pl[i].1 ∈ (m.pl.take i).map Prod.fst)) && !(decide (m.pl[i].2 ∈ (m.pl.take i).map Prod.snd))) := by
        unfold pairB; rw [hpi]
      have ht1 : (m.pl.take (i + 1)).map Prod.fst = (m.pl.take i).map Prod.fst ++ [m.pl[i].1] := by
        rw [List.take_add_one, List.getElem?_eq_getElem hlt, List.map_append]; rfl
      have ht2 : (m.pl.take (i + 1)).map Prod.snd = (m.pl.take i).map Prod.snd ++ [m.pl[i].2] := by
        rw [List.take_add_one, List.getElem?_eq_getElem hlt, List.map_append]; rfl
      generalize hx : m.pl[i].1 = x at ld hP ht1
      generalize hy : m.pl[i].2 = y at ld hP ht2
      generalize hl1 : (m.pl.take i).map Prod.fst = la at hP ht1 ⊢
      generalize hl2 : (m.pl.take i).map Prod.snd = lb at hP ht2 ⊢
      have hu := fun (τ : List O) q => usable_ok (σ := τ) (p := q) (b := x) (h := k) hb.1 hb.2
      have hfalse : pairB m.pl n k i = false → ((List.range m.pl.length).all fun i => pairB m.pl n k i) = false := fun hf => by
        rw [List.all_eq_false]
        exact ⟨i, List.mem_range.2 hlt, by rw [hf]; decide⟩
      cases d1 : usableB x k with
      | false =>
        have hf := hfalse (by rw [hP, d1]; rfl)
        simp +contextual (disch := first | omega | exact rfl | decide | exact kpF (by decide) | exact kpT (by decide) | assumption | exact Z2z | exact Z30 | exact Z32 | exact Z31 | exact Z33 | exact Z34 | (simp only [ZI] <;> omega) | simp only [ZK] | (simp only [ZL] <;> assumption)) only [ZH, SOp, GOp, ↓Z1c, Int.reduceAdd, Int.reduceSub, Int.reduceMul, Int.reduceNeg, accs, touch, touchM, okPair, Nat.reduceAdd, Nat.reduceLeDiff, Nat.reduceMul, Nat.reduceSub, isV, opA, grdO, grd, Z41, Int.reduceLT, Int.reduceLE, Int.reduceToNat, builtinP, builtinA, changes, fieldAddrA, resA, tupled, ↓reduceIte, Nat.reduceEqDiff, Nat.reduceLT, Z70, Int.reduceEq, dr137x11, Y3, Y4, Y35, Y37, Y134, Y209, Y210, g1, g5, g6, g34, g35, g36, hlt', a1, ld, hu, d1, hf]
      | true =>
        by_cases d2 : y < 2 * k
        · have hf := hfalse (by rw [hP, d1, decide_eq_false (show ¬ 2 * k ≤ y by omega)]; rfl)
          simp +contextual (disch := first | omega | exact rfl | decide | exact kpF (by decide) | exact kpT (by decide) | assumption | exact Z2z | exact Z30 | exact Z32 | exact Z31 | exact Z33 | exact Z34 | (simp only [ZI] <;> omega) | simp only [ZK] | (simp only [ZL] <;> assumption)) only [ZH, SOp, GOp, ↓Z1c, Int.reduceAdd, Int.reduceSub, Int.reduceMul, Int.reduceNeg, accs, touch, touchM, okPair, Nat.reduceAdd, Nat.reduceLeDiff, Nat.reduceMul, Nat.reduceSub, isV, opA, grdO, grd, Z41, Int.reduceLT, Int.reduceLE, Int.reduceToNat, builtinP, builtinA, changes, fieldAddrA, resA, tupled, ↓reduceIte, Nat.reduceEqDiff, Nat.reduceLT, Z70, Int.reduceEq, dr137x11, Y3, Y4, Y35, Y37, Y134, Y209, Y210, g1, g5, g6, g34, g35, g36, hlt', a1, ld, hu, d1, d2, hf]
        by_cases d3 : n ≤ y
        · have hf := hfalse (by rw [hP, d1, decide_eq_false (show ¬ y < n by omega), Bool.and_false]; rfl)
          simp +contextual (disch := first | omega | exact rfl | decide | exact kpF (by decide) | exact kpT (by decide) | assumption | exact Z2z | exact Z30 | exact Z32 | exact Z31 | exact Z33 | exact Z34 | (simp only [ZI] <;> omega) | simp only [ZK] | (simp only [ZL] <;> assumption)) only [ZH, SOp, GOp, ↓Z1c, Int.reduceAdd, Int.reduceSub, Int.reduceMul, Int.reduceNeg, accs, touch, touchM, okPair, Nat.reduceAdd, Nat.reduceLeDiff, Nat.reduceMul, Nat.reduceSub, isV, opA, grdO, grd, Z41, Int.reduceLT, Int.reduceLE, Int.reduceToNat, builtinP, builtinA, changes, fieldAddrA, resA, tupled, ↓reduceIte, Nat.reduceEqDiff, Nat.reduceLT, Z70, Int.reduceEq, dr137x11, Y3, Y4, Y35, Y37, Y134, Y209, Y210, g1, g5, g6, g34, g35, g36, hlt', a1, ld, hu, d1, d2, d3, hf]
        have k1 : ∀ A B L, lookupA cfg 209 (σ ++ (A :: B :: mpO (3 :: p) la :: L)) (.map (σ.length + 2) (3 :: p)) (.i .i64 x) false = some (.b (decide (x ∈ la))) := fun A B L => lookup_mp (by rw [get_app]; rfl)
        have k2 : ∀ A B C L, lookupA cfg 209 (σ ++ (A :: B :: C :: mpO (4 :: p) lb :: L)) (.map (σ.length + 3) (4 :: p)) (.i .i64 y) false = some (.b (decide (y ∈ lb))) := fun A B C L => lookup_mp (by rw [get_app]; rfl)
        by_cases d4 : x ∈ la
        · have hf := hfalse (by rw [hP, decide_eq_true d4, Bool.not_true, Bool.and_false]; rfl)
          simp +contextual (disch := first | omega | exact rfl | decide | exact kpF (by decide) | exact kpT (by decide) | assumption | exact Z2z | exact Z30 | exact Z32 | exact Z31 | exact Z33 | exact Z34 | (simp only [ZI] <;> omega) | simp only [ZK] | (simp only [ZL] <;> assumption)) only [ZH, SOp, GOp, ↓Z1c, Int.reduceAdd, Int.reduceSub, Int.reduceMul, Int.reduceNeg, accs, touch, touchM, okPair, Nat.reduceAdd, Nat.reduceLeDiff, Nat.reduceMul, Nat.reduceSub, isV, opA, grdO, grd, Z41, Int.reduceLT, Int.reduceLE, Int.reduceToNat, builtinP, builtinA, changes, fieldAddrA, resA, tupled, ↓reduceIte, Nat.reduceEqDiff, Nat.reduceLT, Z70, Int.reduceEq, dr137x11, Y3, Y4, Y35, Y37, Y134, Y209, Y210, g1, g5, g6, g34, g35, g36, hlt', a1, ld, hu, d1, d2, d3, k1, d4, hf]
        by_cases d5 : y ∈ lb
        · have hf := hfalse (by rw [hP, decide_eq_true d5, Bool.not_true, Bool.and_false])
          simp +contextual (disch := first | omega | exact rfl | decide | exact kpF (by decide) | exact kpT (by decide) | assumption | exact Z2z | exact Z30 | exact Z32 | exact Z31 | exact Z33 | exact Z34 | (simp only [ZI] <;> omega) | simp only [ZK] | (simp only [ZL] <;> assumption)) only [ZH, SOp, GOp, ↓Z1c, Int.reduceAdd, Int.reduceSub, Int.reduceMul, Int.reduceNeg, accs, touch, touchM, okPair, Nat.reduceAdd, Nat.reduceLeDiff, Nat.reduceMul, Nat.reduceSub, isV, opA, grdO, grd, Z41, Int.reduceLT, Int.reduceLE, Int.reduceToNat, builtinP, builtinA, changes, fieldAddrA, resA, tupled, ↓reduceIte, Nat.reduceEqDiff, Nat.reduceLT, Z70, Int.reduceEq, dr137x11, Y3, Y4, Y35, Y37, Y134, Y209, Y210, g1, g5, g6, g34, g35, g36, hlt', a1, ld, hu, d1, d2, d3, k1, k2, d4, d5, hf]
        have hT : pairB m.pl n k i = true := by
          rw [hP, d1, decide_eq_true (show 2 * k ≤ y by omega), decide_eq_true (show y < n by omega), decide_eq_false d4, decide_eq_false d5]; rfl
        have u1 : ∀ A B L, mapUpdateA cfg 209 (σ ++ (A :: B :: mpO (3 :: p) la :: L)) (.map (σ.length + 2) (3 :: p)) (.i .i64 x) (.b true) = some (σ ++ (A :: B :: mpO (3 :: p) (la ++ [x]) :: L)) := fun A B L => by
          rw [update_mp (by rw [get_app]; rfl) d4, set_app]; rfl
        have u2 : ∀ A B C L, mapUpdateA cfg 209 (σ ++ (A :: B :: C :: mpO (4 :: p) lb :: L)) (.map (σ.length + 3) (4 :: p)) (.i .i64 y) (.b true) = some (σ ++ (A :: B :: C :: mpO (4 :: p) (lb ++ [y]) :: L)) := fun A B C L => by
          rw [update_mp (by rw [get_app]; rfl) d5, set_app]; rfl
        simp +contextual (disch := first | omega | exact rfl | decide | exact kpF (by decide) | exact kpT (by decide) | assumption | exact Z2z | exact Z30 | exact Z32 | exact Z31 | exact Z33 | exact Z34 | (simp only [ZI] <;> omega) | simp only [ZK] | (simp only [ZL] <;> assumption)) only [ZH, SOp, GOp, ↓Z1c, Int.reduceAdd, Int.reduceSub, Int.reduceMul, Int.reduceNeg, accs, touch, touchM, okPair, Nat.reduceAdd, Nat.reduceLeDiff, Nat.reduceMul, Nat.reduceSub, isV, opA, grdO, grd, Z41, Int.reduceLT, Int.reduceLE, Int.reduceToNat, builtinP, builtinA, changes, fieldAddrA, resA, tupled, ↓reduceIte, Nat.reduceEqDiff, Nat.reduceLT, Z70, Int.reduceEq, dr137x11, Y3, Y4, Y35, Y37, Y134, Y209, Y210, g1, g5, g6, g34, g35, g36, hlt', a1, ld, hu, d1, d2, d3, k1, k2, d4, d5, u1, u2, ht1, ht2]
        refine ⟨hlt, ⟨_, rfl⟩, rfl, fun j hj => ?_⟩
        by_cases he : j = i
        · subst he; exact hT
        · exact hall j (by omega)
    · have hi' : i = m.pl.length := by omega
      subst hi'
      have hA : ((List.range m.pl.length).all fun i => pairB m.pl n k i) = true := by
        rw [List.all_eq_true]
        exact fun j hj => hall j (List.mem_range.1 hj)
      simp +contextual (disch := first | omega | exact rfl | decide | exact kpF (by decide) | exact kpT (by decide) | assumption | exact Z2z | exact Z30 | exact Z32 | exact Z31 | exact Z33 | exact Z34 | (simp only [ZI] <;> omega) | simp only [ZK] | (simp only [ZL] <;> assumption)) only [ZH, SOp, GOp, ↓Z1c, Int.reduceAdd, Int.reduceSub, Int.reduceMul, Int.reduceNeg, accs, touch, touchM, okPair, Nat.reduceAdd, Nat.reduceLeDiff, Nat.reduceMul, Nat.reduceSub, isV, opA, grdO, grd, Z41, Int.reduceLT, Int.reduceLE, Int.reduceToNat, builtinP, builtinA, changes, fieldAddrA, resA, tupled, ↓reduceIte, Nat.reduceEqDiff, Nat.reduceLT, Z70, Int.reduceEq, dr137x11, Y3, Y4, Y35, Y37, Y134, Y209, Y210, g1, g5, g6, g34, g35, g36, Int.lt_irrefl, hA]
end Go.Am.R2

/- Volumes: is the list of replaced sectors right, by the document. -/
namespace Go.Am.R2
open Go.Proofs
set_option maxRecDepth 100000
set_option linter.unusedSimpArgs false
set_option linter.unusedVariables false
variable {σ : List O} {p : List Nat}
theorem mem_fst {l : List (Int × Int)} {i : Nat} {x : Int} (h : i ≤ l.length) : x ∈ (l.take i).map Prod.fst ↔ ∃ j, ∃ hj : j < l.length, j < i ∧ l[j].1 = x := by
  rw [List.mem_map]
  constructor
  · rintro ⟨a, ha, rfl⟩
    obtain ⟨j, hj, rfl⟩ := List.mem_iff_getElem.1 ha
    rw [List.length_take] at hj
    exact ⟨j, by omega, by omega, by rw [List.getElem_take]⟩
  · rintro ⟨j, hj, h1, rfl⟩
    exact ⟨l[j], List.mem_iff_getElem.2 ⟨j, by rw [List.length_take]; omega, by rw [List.getElem_take]⟩, rfl⟩
theorem mem_snd {l : List (Int × Int)} {i : Nat} {x : Int} (h : i ≤ l.length) : x ∈ (l.take i).map Prod.snd ↔ ∃ j, ∃ hj : j < l.length, j < i ∧ l[j].2 = x := by
  rw [List.mem_map]
  constructor
  · rintro ⟨a, ha, rfl⟩
    obtain ⟨j, hj, rfl⟩ := List.mem_iff_getElem.1 ha
    rw [List.length_take] at hj
    exact ⟨j, by omega, by omega, by rw [List.getElem_take]⟩
  · rintro ⟨j, hj, h1, rfl⟩
    exact ⟨l[j], List.mem_iff_getElem.2 ⟨j, by rw [List.length_take]; omega, by rw [List.getElem_take]⟩, rfl⟩
theorem halfI_n {n : Int} (h : halfI n ≠ 0) : 2 * halfI n + 20 = n := by
  unfold halfI at h ⊢
  split at h <;> (try split at h) <;> (try split at h) <;> simp_all <;> omega
theorem remap4_ok (m : RemapR) (h : m.ok) (n : Int) : runF cfg 44 [.agg m.v, .i .i64 n] σ p = some (.b (remapB m n), σ) := by
  have o1 := h.s.one
  have l1 := fun τ => h.s.len (C := cfg) sh35 τ
  have hh := fun (τ : List O) q => half4r_ok (σ := τ) (p := q) (n := n)
  have hb := halfI_le (n := n)
  have hnk := halfI_n (n := n)
  refine run_done rfl rfl Tryz.func44 rfl ?_
  unfold remapB
  generalize halfI n = k at hh hb hnk
  by_cases c1 : k = 0
  · simp +contextual (disch := first | omega | exact rfl | decide | exact kpF (by decide) | exact kpT (by decide) | assumption | exact Z2z | exact Z30 | exact Z32 | exact Z31 | exact Z33 | exact Z34 | (simp only [ZI] <;> omega) | simp only [ZK] | (simp only [ZL] <;> assumption)) only [Tryz.f44, ZH, SOp, GOp, ↓Z1c, Int.reduceAdd, Int.reduceSub, Int.reduceMul, Int.reduceNeg, accs, touch, touchM, okPair, Nat.reduceAdd, Nat.reduceLeDiff, Nat.reduceMul, Nat.reduceSub, isV, opA, grdO, grd, Z41, Int.reduceLT, Int.reduceLE, Int.reduceToNat, builtinP, builtinA, changes, fieldAddrA, resA, tupled, ↓reduceIte, Nat.reduceEqDiff, Nat.reduceLT, Z70, Int.reduceEq, dr44x13, Y3, Y35, Y37, Y134, RemapR.v, o1, l1, hh, c1]
  have hnk := hnk c1
  by_cases c2 : m.gen < 0
  · have c2' : ¬ 0 ≤ m.gen := by omega
    simp +contextual (disch := first | omega | exact rfl | decide | exact kpF (by decide) | exact kpT (by decide) | assumption | exact Z2z | exact Z30 | exact Z32 | exact Z31 | exact Z33 | exact Z34 | (simp only [ZI] <;> omega) | simp only [ZK] | (simp only [ZL] <;> assumption)) only [Tryz.f44, ZH, SOp, GOp, ↓Z1c, Int.reduceAdd, Int.reduceSub, Int.reduceMul, Int.reduceNeg, accs, touch, touchM, okPair, Nat.reduceAdd, Nat.reduceLeDiff, Nat.reduceMul, Nat.reduceSub, isV, opA, grdO, grd, Z41, Int.reduceLT, Int.reduceLE, Int.reduceToNat, builtinP, builtinA, changes, fieldAddrA, resA, tupled, ↓reduceIte, Nat.reduceEqDiff, Nat.reduceLT, Z70, Int.reduceEq, dr44x13, Y3, Y35, Y37, Y134, RemapR.v, o1, l1, hh, c1, c2, c2']
  by_cases c3 : 4611686018427387904 < m.gen
  · have c3' : ¬ m.gen ≤ 4611686018427387904 := by omega
    simp +contextual (disch := first | omega | exact rfl | decide | exact kpF (by decide) | exact kpT (by decide) | assumption | exact Z2z | exact Z30 | exact Z32 | exact Z31 | exact Z33 | exact Z34 | (simp only [ZI] <;> omega) | simp only [ZK] | (simp only [ZL] <;> assumption)) only [Tryz.f44, ZH, SOp, GOp, ↓Z1c, Int.reduceAdd, Int.reduceSub, Int.reduceMul, Int.reduceNeg, accs, touch, touchM, okPair, Nat.reduceAdd, Nat.reduceLeDiff, Nat.reduceMul, Nat.reduceSub, isV, opA, grdO, grd, Z41, Int.reduceLT, Int.reduceLE, Int.reduceToNat, builtinP, builtinA, changes, fieldAddrA, resA, tupled, ↓reduceIte, Nat.reduceEqDiff, Nat.reduceLT, Z70, Int.reduceEq, dr44x13, Y3, Y35, Y37, Y134, RemapR.v, o1, l1, hh, c1, c2, c3, c3']
  by_cases c4 : (20 : Int) < m.pl.length
  · have c4' : ¬ m.pl.length ≤ 20 := by omega
    simp +contextual (disch := first | omega | exact rfl | decide | exact kpF (by decide) | exact kpT (by decide) | assumption | exact Z2z | exact Z30 | exact Z32 | exact Z31 | exact Z33 | exact Z34 | (simp only [ZI] <;> omega) | simp only [ZK] | (simp only [ZL] <;> assumption)) only [Tryz.f44, ZH, SOp, GOp, ↓Z1c, Int.reduceAdd, Int.reduceSub, Int.reduceMul, Int.reduceNeg, accs, touch, touchM, okPair, Nat.reduceAdd, Nat.reduceLeDiff, Nat.reduceMul, Nat.reduceSub, isV, opA, grdO, grd, Z41, Int.reduceLT, Int.reduceLE, Int.reduceToNat, builtinP, builtinA, changes, fieldAddrA, resA, tupled, ↓reduceIte, Nat.reduceEqDiff, Nat.reduceLT, Z70, Int.reduceEq, dr44x13, Y3, Y35, Y37, Y134, RemapR.v, o1, l1, hh, c1, c2, c3, c4, c4']
  have hB : (decide (k ≠ 0) && decide (0 ≤ m.gen) && decide (m.gen ≤ 4611686018427387904) && decide (m.pl.length ≤ 20)) = true := by
    simp [c1]; omega
  rw [hB, Bool.true_and]
  have hn := fun (i : Nat) (hi : i < m.pl.length) => prV_drop m.pl i hi
  have hfld : ∀ (j : Nat) (hj : j < m.pl.length), (prV m.pl)[j * 2]? = some (.i .i64 m.pl[j].1) ∧ (prV m.pl)[j * 2 + 1]? = some (.i .i64 m.pl[j].2) := fun j hj => by
    have e := hn j hj
    have e0 := congrArg (fun l => l[0]?) e
    have e1 := congrArg (fun l => l[1]?) e
    simp only [List.getElem?_drop, Nat.add_zero, List.getElem?_cons_zero, List.getElem?_cons_succ] at e0 e1
    exact ⟨e0, e1⟩
  simp +contextual (disch := first | omega | exact rfl | decide | exact kpF (by decide) | exact kpT (by decide) | assumption | exact Z2z | exact Z30 | exact Z32 | exact Z31 | exact Z33 | exact Z34 | (simp only [ZI] <;> omega) | simp only [ZK] | (simp only [ZL] <;> assumption)) only [Tryz.f44, ZH, SOp, GOp, ↓Z1c, Int.reduceAdd, Int.reduceSub, Int.reduceMul, Int.reduceNeg, accs, touch, touchM, okPair, Nat.reduceAdd, Nat.reduceLeDiff, Nat.reduceMul, Nat.reduceSub, isV, opA, grdO, grd, Z41, Int.reduceLT, Int.reduceLE, Int.reduceToNat, builtinP, builtinA, changes, fieldAddrA, resA, tupled, ↓reduceIte, Nat.reduceEqDiff, Nat.reduceLT, Z70, Int.reduceEq, dr44x13, Y3, Y35, Y37, Y134, RemapR.v, o1, l1, hh, c1, c2, c3, c4]
  refine Wq.up (fun i t => t.nt = 86 ∧ (∃ L : List O, t.σ = σ ++ (.cells (0 :: p) m.v :: L)) ∧
    t.t.get 2 = some (.ptr σ.length (0 :: p) 0) ∧ t.t.get 5 = some (.i .i64 k) ∧ t.t.get 6 = some (.i .i64 (i : Nat)) ∧ ∀ j, j < i → pairB m.pl n k j = true) m.pl.length ?_ ?_
  · refine ⟨rfl, ⟨[], rfl⟩, ?_⟩
    simp +contextual (disch := first | omega | exact rfl | decide | exact kpF (by decide) | exact kpT (by decide) | assumption | exact Z2z | exact Z30 | exact Z32 | exact Z31 | exact Z33 | exact Z34 | (simp only [ZI] <;> omega) | simp only [ZK] | (simp only [ZL] <;> assumption)) only [ZH, SOp, GOp, ↓Z1c, Int.reduceAdd, Int.reduceSub, Int.reduceMul, Int.reduceNeg, accs, touch, touchM, okPair, Nat.reduceAdd, Nat.reduceLeDiff, Nat.reduceMul, Nat.reduceSub, isV, opA, grdO, grd, Z41, Int.reduceLT, Int.reduceLE, Int.reduceToNat, builtinP, builtinA, changes, fieldAddrA, resA, tupled, ↓reduceIte, Nat.reduceEqDiff, Nat.reduceLT, Z70, Int.reduceEq]
    exact fun j hj => absurd hj (by omega)
  · rintro i ⟨t, nt, σ', c⟩ hi ⟨rfl, ⟨L, rfl⟩, g2, g5, g6, hall⟩
    simp only [RemapR.v] at g2 g5 g6 ⊢
    by_cases hlt : i < m.pl.length
    · have hlt' : (i : Int) < (m.pl.length : Int) := by omega
      have a1 := h.s.at (C := cfg) sh35 sz134 hlt
      have ld : ∀ τ, loadA cfg 134 τ (.iptr ((prV m.pl).drop (i * (1 + 1)))) = some (.agg [.i .i64 m.pl[i].1, .i .i64 m.pl[i].2]) := fun τ => by
        rw [load_iagg ag134 sz134, hn i hlt]; rfl
      have hpi : m.pl.getD i (0, 0) = m.pl[i] := by rw [List.getD_eq_getElem?_getD, List.getElem?_eq_getElem hlt]; rfl
      have hP : pairB m.pl n k i = (usableB m.pl[i].1 k && decide (2 * k ≤ m.pl[i].2) && decide (m.pl[i].2 < n) && !(decide (m.pl[i].1 ∈ (m.pl.take i).map Prod.fst)) && !(decide (m.pl[i].2 ∈ (m.pl.take i).map Prod.snd))) := by
        unfold pairB; rw [hpi]
      have m1 := mem_fst (l := m.pl) (i := i) (x := m.pl[i].1) (by omega)
      have m2 := mem_snd (l := m.pl) (i := i) (x := m.pl[i].2) (by omega)
      generalize hx : m.pl[i].1 = x at ld hP m1
      generalize hy : m.pl[i].2 = y at ld hP m2
      have hu := fun (τ : List O) q => usabler_ok (σ := τ) (p := q) (b := x) (h := k) hb.1 hb.2
      have hfalse : pairB m.pl n k i = false → ((List.range m.pl.length).all fun i => pairB m.pl n k i) = false := fun hf => by
        rw [List.all_eq_false]
        exact ⟨i, List.mem_range.2 hlt, by rw [hf]; decide⟩
      cases d1 : usableB x k with
      | false =>
        have hf := hfalse (by rw [hP, d1]; rfl)
        simp +contextual (disch := first | omega | exact rfl | decide | exact kpF (by decide) | exact kpT (by decide) | assumption | exact Z2z | exact Z30 | exact Z32 | exact Z31 | exact Z33 | exact Z34 | (simp only [ZI] <;> omega) | simp only [ZK] | (simp only [ZL] <;> assumption)) only [ZH, SOp, GOp, ↓Z1c, Int.reduceAdd, Int.reduceSub, Int.reduceMul, Int.reduceNeg, accs, touch, touchM, okPair, Nat.reduceAdd, Nat.reduceLeDiff, Nat.reduceMul, Nat.reduceSub, isV, opA, grdO, grd, Z41, Int.reduceLT, Int.reduceLE, Int.reduceToNat, builtinP, builtinA, changes, fieldAddrA, resA, tupled, ↓reduceIte, Nat.reduceEqDiff, Nat.reduceLT, Z70, Int.reduceEq, dr44x13, Y3, Y35, Y37, Y134, g2, g5, g6, l1, hlt', a1, ld, hu, d1, hf]
      | true =>
        by_cases d2 : y < 2 * k
        · have hf := hfalse (by rw [hP, d1, decide_eq_false (show ¬ 2 * k ≤ y by omega)]; rfl)
          simp +contextual (disch := first | omega | exact rfl | decide | exact kpF (by decide) | exact kpT (by decide) | assumption | exact Z2z | exact Z30 | exact Z32 | exact Z31 | exact Z33 | exact Z34 | (simp only [ZI] <;> omega) | simp only [ZK] | (simp only [ZL] <;> assumption)) only [ZH, SOp, GOp, ↓Z1c, Int.reduceAdd, Int.reduceSub, Int.reduceMul, Int.reduceNeg, accs, touch, touchM, okPair, Nat.reduceAdd, Nat.reduceLeDiff, Nat.reduceMul, Nat.reduceSub, isV, opA, grdO, grd, Z41, Int.reduceLT, Int.reduceLE, Int.reduceToNat, builtinP, builtinA, changes, fieldAddrA, resA, tupled, ↓reduceIte, Nat.reduceEqDiff, Nat.reduceLT, Z70, Int.reduceEq, dr44x13, Y3, Y35, Y37, Y134, g2, g5, g6, l1, hlt', a1, ld, hu, d1, d2, hf]
        by_cases d3 : 2 * k + 20 ≤ y
        · have hf := hfalse (by rw [hP, d1, decide_eq_false (show ¬ y < n by omega), Bool.and_false]; rfl)
          simp +contextual (disch := first | omega | exact rfl | decide | exact kpF (by decide) | exact kpT (by decide) | assumption | exact Z2z | exact Z30 | exact Z32 | exact Z31 | exact Z33 | exact Z34 | (simp only [ZI] <;> omega) | simp only [ZK] | (simp only [ZL] <;> assumption)) only [ZH, SOp, GOp, ↓Z1c, Int.reduceAdd, Int.reduceSub, Int.reduceMul, Int.reduceNeg, accs, touch, touchM, okPair, Nat.reduceAdd, Nat.reduceLeDiff, Nat.reduceMul, Nat.reduceSub, isV, opA, grdO, grd, Z41, Int.reduceLT, Int.reduceLE, Int.reduceToNat, builtinP, builtinA, changes, fieldAddrA, resA, tupled, ↓reduceIte, Nat.reduceEqDiff, Nat.reduceLT, Z70, Int.reduceEq, dr44x13, Y3, Y35, Y37, Y134, g2, g5, g6, l1, hlt', a1, ld, hu, d1, d2, d3, hf]
        simp +contextual (disch := first | omega | exact rfl | decide | exact kpF (by decide) | exact kpT (by decide) | assumption | exact Z2z | exact Z30 | exact Z32 | exact Z31 | exact Z33 | exact Z34 | (simp only [ZI] <;> omega) | simp only [ZK] | (simp only [ZL] <;> assumption)) only [ZH, SOp, GOp, ↓Z1c, Int.reduceAdd, Int.reduceSub, Int.reduceMul, Int.reduceNeg, accs, touch, touchM, okPair, Nat.reduceAdd, Nat.reduceLeDiff, Nat.reduceMul, Nat.reduceSub, isV, opA, grdO, grd, Z41, Int.reduceLT, Int.reduceLE, Int.reduceToNat, builtinP, builtinA, changes, fieldAddrA, resA, tupled, ↓reduceIte, Nat.reduceEqDiff, Nat.reduceLT, Z70, Int.reduceEq, dr44x13, Y3, Y35, Y37, Y134, g2, g5, g6, l1, hlt', a1, ld, hu, d1, d2, d3]
        refine Wq.up (fun j t => t.nt = 86 ∧ t.σ = σ ++ (.cells (0 :: p) m.v :: (L ++ [.cells (c :: p) [.i .i64 x, .i .i64 y]])) ∧
          t.t.get 2 = some (.ptr σ.length (0 :: p) 0) ∧ t.t.get 5 = some (.i .i64 k) ∧ t.t.get 6 = some (.i .i64 (i : Nat)) ∧ t.t.get 7 = some (.ptr (σ.length + (L.length + 1)) (c :: p) 0) ∧ t.t.get 8 = some (.i .i64 (j : Nat)) ∧ ∀ q (hq : q < m.pl.length), q < j → m.pl[q].1 ≠ x ∧ m.pl[q].2 ≠ y) i ?_ ?_
        · refine ⟨rfl, ?_, ?_⟩
          · simp [RemapR.v]
          · simp +contextual (disch := first | omega | exact rfl | decide | exact kpF (by decide) | exact kpT (by decide) | assumption | exact Z2z | exact Z30 | exact Z32 | exact Z31 | exact Z33 | exact Z34 | (simp only [ZI] <;> omega) | simp only [ZK] | (simp only [ZL] <;> assumption)) only [ZH, SOp, GOp, ↓Z1c, Int.reduceAdd, Int.reduceSub, Int.reduceMul, Int.reduceNeg, accs, touch, touchM, okPair, Nat.reduceAdd, Nat.reduceLeDiff, Nat.reduceMul, Nat.reduceSub, isV, opA, grdO, grd, Z41, Int.reduceLT, Int.reduceLE, Int.reduceToNat, builtinP, builtinA, changes, fieldAddrA, resA, tupled, ↓reduceIte, Nat.reduceEqDiff, Nat.reduceLT, Z70, Int.reduceEq, g2, g5, g6]
            exact fun q hq hj => absurd hj (by omega)
        · rintro j ⟨t, nt, σ', c'⟩ hj ⟨rfl, rfl, g2, g5, g6, g7, g8, hne⟩
          simp only [RemapR.v] at g2 g5 g6 g7 g8 ⊢
          by_cases hji : j < i
          · have hji' : (j : Int) < (i : Int) := by omega
            have hjl : j < m.pl.length := by omega
            have a2 := h.s.at (C := cfg) sh35 sz134 hjl
            obtain ⟨f0, f1⟩ := hfld j hjl
            have hin : j * 2 + 1 ≤ (prV m.pl).length - 1 := by rw [prV_len]; omega
            have hle : 1 ≤ ((prV m.pl).drop (j * 2)).length := by rw [List.length_drop, prV_len]; omega
            by_cases e1 : m.pl[j].1 = x
            · have hf := hfalse (by rw [hP, decide_eq_true (m1.2 ⟨j, hjl, hji, e1⟩), Bool.not_true, Bool.and_false]; rfl)
              simp +contextual (disch := first | omega | exact rfl | decide | exact kpF (by decide) | exact kpT (by decide) | assumption | exact Z2z | exact Z30 | exact Z32 | exact Z31 | exact Z33 | exact Z34 | (simp only [ZI] <;> omega) | simp only [ZK] | (simp only [ZL] <;> assumption)) only [ZH, SOp, GOp, ↓Z1c, Int.reduceAdd, Int.reduceSub, Int.reduceMul, Int.reduceNeg, accs, touch, touchM, okPair, Nat.reduceAdd, Nat.reduceLeDiff, Nat.reduceMul, Nat.reduceSub, isV, opA, grdO, grd, Z41, Int.reduceLT, Int.reduceLE, Int.reduceToNat, builtinP, builtinA, changes, fieldAddrA, resA, tupled, ↓reduceIte, Nat.reduceEqDiff, Nat.reduceLT, Z70, Int.reduceEq, dr44x13, Y3, Y35, Y37, Y134, g2, g5, g6, g7, g8, l1, hji', a2, f0, f1, Nat.zero_le, hle, e1, hf]
            by_cases e2 : m.pl[j].2 = y
            · have hf := hfalse (by rw [hP, decide_eq_true (m2.2 ⟨j, hjl, hji, e2⟩), Bool.not_true, Bool.and_false])
              simp +contextual (disch := first | omega | exact rfl | decide | exact kpF (by decide) | exact kpT (by decide) | assumption | exact Z2z | exact Z30 | exact Z32 | exact Z31 | exact Z33 | exact Z34 | (simp only [ZI] <;> omega) | simp only [ZK] | (simp only [ZL] <;> assumption)) only [ZH, SOp, GOp, ↓Z1c, Int.reduceAdd, Int.reduceSub, Int.reduceMul, Int.reduceNeg, accs, touch, touchM, okPair, Nat.reduceAdd, Nat.reduceLeDiff, Nat.reduceMul, Nat.reduceSub, isV, opA, grdO, grd, Z41, Int.reduceLT, Int.reduceLE, Int.reduceToNat, builtinP, builtinA, changes, fieldAddrA, resA, tupled, ↓reduceIte, Nat.reduceEqDiff, Nat.reduceLT, Z70, Int.reduceEq, dr44x13, Y3, Y35, Y37, Y134, g2, g5, g6, g7, g8, l1, hji', a2, f0, f1, Nat.zero_le, hle, e1, e2, hf]
            simp +contextual (disch := first | omega | exact rfl | decide | exact kpF (by decide) | exact kpT (by decide) | assumption | exact Z2z | exact Z30 | exact Z32 | exact Z31 | exact Z33 | exact Z34 | (simp only [ZI] <;> omega) | simp only [ZK] | (simp only [ZL] <;> assumption)) only [ZH, SOp, GOp, ↓Z1c, Int.reduceAdd, Int.reduceSub, Int.reduceMul, Int.reduceNeg, accs, touch, touchM, okPair, Nat.reduceAdd, Nat.reduceLeDiff, Nat.reduceMul, Nat.reduceSub, isV, opA, grdO, grd, Z41, Int.reduceLT, Int.reduceLE, Int.reduceToNat, builtinP, builtinA, changes, fieldAddrA, resA, tupled, ↓reduceIte, Nat.reduceEqDiff, Nat.reduceLT, Z70, Int.reduceEq, dr44x13, Y3, Y35, Y37, Y134, g2, g5, g6, g7, g8, l1, hji', a2, f0, f1, Nat.zero_le, hle, e1, e2]
            refine ⟨hji, rfl, fun q hq hj => ?_⟩
            by_cases he : q = j
            · subst he; exact ⟨e1, e2⟩
            · exact hne q hq (by omega)
          · have hji0 : j = i := by omega
            subst hji0
            have hT : pairB m.pl n k j = true := by
              rw [hP, d1, decide_eq_true (show 2 * k ≤ y by omega), decide_eq_true (show y < n by omega), decide_eq_false (fun q => by obtain ⟨q, hq, h1, h2⟩ := m1.1 q; exact (hne q hq h1).1 h2), decide_eq_false (fun q => by obtain ⟨q, hq, h1, h2⟩ := m2.1 q; exact (hne q hq h1).2 h2)]; rfl
            simp +contextual (disch := first | omega | exact rfl | decide | exact kpF (by decide) | exact kpT (by decide) | assumption | exact Z2z | exact Z30 | exact Z32 | exact Z31 | exact Z33 | exact Z34 | (simp only [ZI] <;> omega) | simp only [ZK] | (simp only [ZL] <;> assumption)) only [ZH, SOp, GOp, ↓Z1c, Int.reduceAdd, Int.reduceSub, Int.reduceMul, Int.reduceNeg, accs, touch, touchM, okPair, Nat.reduceAdd, Nat.reduceLeDiff, Nat.reduceMul, Nat.reduceSub, isV, opA, grdO, grd, Z41, Int.reduceLT, Int.reduceLE, Int.reduceToNat, builtinP, builtinA, changes, fieldAddrA, resA, tupled, ↓reduceIte, Nat.reduceEqDiff, Nat.reduceLT, Z70, Int.reduceEq, dr44x13, Y3, Y35, Y37, Y134, g2, g5, g6, g7, g8, l1, Int.lt_irrefl]
            refine ⟨hlt, ⟨_, rfl⟩, rfl, fun q hq => ?_⟩
            by_cases he : q = j
            · subst he; exact hT
            · exact hall q (by omega)
    · have hi' : i = m.pl.length := by omega
      subst hi'
      have hA : ((List.range m.pl.length).all fun i => pairB m.pl n k i) = true := by
        rw [List.all_eq_true]
        exact fun j hj => hall j (List.mem_range.1 hj)
      simp +contextual (disch := first | omega | exact rfl | decide | exact kpF (by decide) | exact kpT (by decide) | assumption | exact Z2z | exact Z30 | exact Z32 | exact Z31 | exact Z33 | exact Z34 | (simp only [ZI] <;> omega) | simp only [ZK] | (simp only [ZL] <;> assumption)) only [ZH, SOp, GOp, ↓Z1c, Int.reduceAdd, Int.reduceSub, Int.reduceMul, Int.reduceNeg, accs, touch, touchM, okPair, Nat.reduceAdd, Nat.reduceLeDiff, Nat.reduceMul, Nat.reduceSub, isV, opA, grdO, grd, Z41, Int.reduceLT, Int.reduceLE, Int.reduceToNat, builtinP, builtinA, changes, fieldAddrA, resA, tupled, ↓reduceIte, Nat.reduceEqDiff, Nat.reduceLT, Z70, Int.reduceEq, dr44x13, Y3, Y35, Y37, Y134, g2, g5, g6, l1, Int.lt_irrefl, hA]
end Go.Am.R2

/- Volumes: which are right, and which keep a quota. -/
namespace Go.Am.R2
open Go.Proofs
set_option maxRecDepth 100000
set_option linter.unusedSimpArgs false
set_option linter.unusedVariables false
variable {σ : List O} {p : List Nat}
def quoI (v : VolR) : Int := ((v.d.ns : Int) - 316) / 4
/-- Which volumes are right. -/
def rightV (v : VolR) : Bool :=
  sizeOk v.d.ns && formedB v.d && remapB v.m v.d.ns && spaceB v.s && (decide (v.s.at0 = 28) && decide (v.s.at1 = 2 * quoI v + 176)) && decide (v.s.size = 2 * quoI v + 120)
theorem vol_ok (v : VolR) (h : v.ok) : runF cfg 118 [.agg v.v] σ p = some (.b (rightV v), σ) := by
  have o1 := h.d.s.one
  have o2 := h.d.c.one
  have o3 := h.m.s.one
  have o4 := h.s.sv.one
  have l1 := fun τ => h.d.s.len (C := cfg) sh31 τ
  have c1 := fun (τ : List O) q => formed_ok (σ := τ) (p := q) v.d h.d
  have c2 := fun (τ : List O) q => remap_ok (σ := τ) (p := q) v.m h.m v.d.ns
  have c3 := fun (τ : List O) q => space_ok (σ := τ) (p := q) v.s h.s
  have hsb := h.d.sb
  have c0 := fun (τ : List O) q => sectors_ok (σ := τ) (p := q) v.d.ns (by omega)
  simp only [DiskR.v, RemapR.v, SpaceR.v] at c1 c2 c3
  refine run_done rfl rfl Tryz.func118 rfl ?_
  cases hk : sizeOk v.d.ns with
  | false =>
    have hf : rightV v = false := by unfold rightV; rw [hk]; rfl
    unfold secV at c0
    rw [hk] at c0
    simp only [geo0, Bool.false_eq_true, if_false] at c0
    simp +contextual (disch := first | omega | exact rfl | decide | exact kpF (by decide) | exact kpT (by decide) | assumption | exact Z2z | exact Z30 | exact Z32 | exact Z31 | exact Z33 | exact Z34 | (simp only [ZI] <;> omega) | simp only [ZK] | (simp only [ZL] <;> assumption)) only [Tryz.f118, ZH, SOp, GOp, ↓Z1c, Int.reduceAdd, Int.reduceSub, Int.reduceMul, Int.reduceNeg, accs, touch, touchM, okPair, Nat.reduceAdd, Nat.reduceLeDiff, Nat.reduceMul, Nat.reduceSub, isV, opA, grdO, grd, Z41, Int.reduceLT, Int.reduceLE, Int.reduceToNat, builtinP, builtinA, changes, fieldAddrA, resA, tupled, ↓reduceIte, Nat.reduceEqDiff, Nat.reduceLT, Z70, Int.reduceEq, dr118x2, Y3, Y4, Y5, Y31, Y32, Y34, Y35, Y37, Y38, Y39, Y41, Y43, Y47, Y48, Y85, Y132, Y134, Y148, VolR.v, o1, o2, o3, o4, l1, c0, c1, c2, c3, tk04, tk42, tk64, tk62, hf]
  | true =>
    obtain ⟨s1, s2, s3⟩ := sizeOk_iff.1 hk
    have hq : quoI v = ((v.d.ns : Int) - 316) / 4 := rfl
    have e1 : 4 * quoI v + 316 = (v.d.ns : Int) := by omega
    have q1 : 4 ≤ quoI v := by omega
    have q2 : quoI v ≤ 900 := by omega
    unfold secV at c0
    rw [if_pos hk, ← hq] at c0
    have c4 := fun (τ : List O) q => regions_ok (σ := τ) (p := q) q1 q2
    simp only [geoV, e1] at c0 c4
    have e48 : ∀ x y, binA cfg .eql 38 x y (.agg [.i .i64 v.s.at0, .i .i64 v.s.at1]) (.agg [.i .i64 28, .i .i64 (2 * quoI v + 176)]) = some (.b (decide (v.s.at0 = 28) && decide (v.s.at1 = 2 * quoI v + 176))) := fun x y => by
      rw [eq38 (by simp [fk_i]) (by simp [fk_i])]; simp [eqB_cons, eqB_nil, scB_i]
    have hR : rightV v = (formedB v.d && remapB v.m v.d.ns && spaceB v.s && (decide (v.s.at0 = 28) && decide (v.s.at1 = 2 * quoI v + 176)) && decide (v.s.size = 2 * quoI v + 120)) := by unfold rightV; rw [hk, Bool.true_and]
    rw [hR]
    generalize quoI v = q at *
    cases b1 : formedB v.d with
    | false => simp +contextual (disch := first | omega | exact rfl | decide | exact kpF (by decide) | exact kpT (by decide) | assumption | exact Z2z | exact Z30 | exact Z32 | exact Z31 | exact Z33 | exact Z34 | (simp only [ZI] <;> omega) | simp only [ZK] | (simp only [ZL] <;> assumption)) only [Tryz.f118, ZH, SOp, GOp, ↓Z1c, Int.reduceAdd, Int.reduceSub, Int.reduceMul, Int.reduceNeg, accs, touch, touchM, okPair, Nat.reduceAdd, Nat.reduceLeDiff, Nat.reduceMul, Nat.reduceSub, isV, opA, grdO, grd, Z41, Int.reduceLT, Int.reduceLE, Int.reduceToNat, builtinP, builtinA, changes, fieldAddrA, resA, tupled, ↓reduceIte, Nat.reduceEqDiff, Nat.reduceLT, Z70, Int.reduceEq, dr118x2, Y3, Y4, Y5, Y31, Y32, Y34, Y35, Y37, Y38, Y39, Y41, Y43, Y47, Y48, Y85, Y132, Y134, Y148, VolR.v, o1, o2, o3, o4, l1, c0, c1, c2, c3, c4, e48, tk04, tk42, tk64, tk62, tk606, b1]
    | true =>
      cases b2 : remapB v.m v.d.ns with
      | false => simp +contextual (disch := first | omega | exact rfl | decide | exact kpF (by decide) | exact kpT (by decide) | assumption | exact Z2z | exact Z30 | exact Z32 | exact Z31 | exact Z33 | exact Z34 | (simp only [ZI] <;> omega) | simp only [ZK] | (simp only [ZL] <;> assumption)) only [Tryz.f118, ZH, SOp, GOp, ↓Z1c, Int.reduceAdd, Int.reduceSub, Int.reduceMul, Int.reduceNeg, accs, touch, touchM, okPair, Nat.reduceAdd, Nat.reduceLeDiff, Nat.reduceMul, Nat.reduceSub, isV, opA, grdO, grd, Z41, Int.reduceLT, Int.reduceLE, Int.reduceToNat, builtinP, builtinA, changes, fieldAddrA, resA, tupled, ↓reduceIte, Nat.reduceEqDiff, Nat.reduceLT, Z70, Int.reduceEq, dr118x2, Y3, Y4, Y5, Y31, Y32, Y34, Y35, Y37, Y38, Y39, Y41, Y43, Y47, Y48, Y85, Y132, Y134, Y148, VolR.v, o1, o2, o3, o4, l1, c0, c1, c2, c3, c4, e48, tk04, tk42, tk64, tk62, tk606, b1, b2]
      | true =>
        cases b3 : spaceB v.s with
        | false => simp +contextual (disch := first | omega | exact rfl | decide | exact kpF (by decide) | exact kpT (by decide) | assumption | exact Z2z | exact Z30 | exact Z32 | exact Z31 | exact Z33 | exact Z34 | (simp only [ZI] <;> omega) | simp only [ZK] | (simp only [ZL] <;> assumption)) only [Tryz.f118, ZH, SOp, GOp, ↓Z1c, Int.reduceAdd, Int.reduceSub, Int.reduceMul, Int.reduceNeg, accs, touch, touchM, okPair, Nat.reduceAdd, Nat.reduceLeDiff, Nat.reduceMul, Nat.reduceSub, isV, opA, grdO, grd, Z41, Int.reduceLT, Int.reduceLE, Int.reduceToNat, builtinP, builtinA, changes, fieldAddrA, resA, tupled, ↓reduceIte, Nat.reduceEqDiff, Nat.reduceLT, Z70, Int.reduceEq, dr118x2, Y3, Y4, Y5, Y31, Y32, Y34, Y35, Y37, Y38, Y39, Y41, Y43, Y47, Y48, Y85, Y132, Y134, Y148, VolR.v, o1, o2, o3, o4, l1, c0, c1, c2, c3, c4, e48, tk04, tk42, tk64, tk62, tk606, b1, b2, b3]
        | true =>
          simp +contextual (disch := first | omega | exact rfl | decide | exact kpF (by decide) | exact kpT (by decide) | assumption | exact Z2z | exact Z30 | exact Z32 | exact Z31 | exact Z33 | exact Z34 | (simp only [ZI] <;> omega) | simp only [ZK] | (simp only [ZL] <;> assumption)) only [Tryz.f118, ZH, SOp, GOp, ↓Z1c, Int.reduceAdd, Int.reduceSub, Int.reduceMul, Int.reduceNeg, accs, touch, touchM, okPair, Nat.reduceAdd, Nat.reduceLeDiff, Nat.reduceMul, Nat.reduceSub, isV, opA, grdO, grd, Z41, Int.reduceLT, Int.reduceLE, Int.reduceToNat, builtinP, builtinA, changes, fieldAddrA, resA, tupled, ↓reduceIte, Nat.reduceEqDiff, Nat.reduceLT, Z70, Int.reduceEq, dr118x2, Y3, Y4, Y5, Y31, Y32, Y34, Y35, Y37, Y38, Y39, Y41, Y43, Y47, Y48, Y85, Y132, Y134, Y148, VolR.v, o1, o2, o3, o4, l1, c0, c1, c2, c3, c4, e48, tk04, tk42, tk64, tk62, tk606, b1, b2, b3]
theorem vol9_ok (v : VolR) (h : v.ok) : runF cfg 14 [.agg v.v] σ p = some (.b (rightV v), σ) := by
  have o1 := h.d.s.one
  have o2 := h.d.c.one
  have o3 := h.m.s.one
  have o4 := h.s.sv.one
  have l1 := fun τ => h.d.s.len (C := cfg) sh31 τ
  have c1 := fun (τ : List O) q => formed3_ok (σ := τ) (p := q) v.d h.d
  have c2 := fun (τ : List O) q => remap4_ok (σ := τ) (p := q) v.m h.m v.d.ns
  have c3 := fun (τ : List O) q => space7_ok (σ := τ) (p := q) v.s h.s
  have hsb := h.d.sb
  have c0 := fun (τ : List O) q => sectors8_ok (σ := τ) (p := q) v.d.ns (by omega)
  simp only [DiskR.v, RemapR.v, SpaceR.v] at c1 c2 c3
  refine run_done rfl rfl Tryz.func14 rfl ?_
  cases hk : sizeOk v.d.ns with
  | false =>
    have hf : rightV v = false := by unfold rightV; rw [hk]; rfl
    unfold secV at c0
    rw [hk] at c0
    simp only [geo0, Bool.false_eq_true, if_false] at c0
    simp +contextual (disch := first | omega | exact rfl | decide | exact kpF (by decide) | exact kpT (by decide) | assumption | exact Z2z | exact Z30 | exact Z32 | exact Z31 | exact Z33 | exact Z34 | (simp only [ZI] <;> omega) | simp only [ZK] | (simp only [ZL] <;> assumption)) only [Tryz.f14, ZH, SOp, GOp, ↓Z1c, Int.reduceAdd, Int.reduceSub, Int.reduceMul, Int.reduceNeg, accs, touch, touchM, okPair, Nat.reduceAdd, Nat.reduceLeDiff, Nat.reduceMul, Nat.reduceSub, isV, opA, grdO, grd, Z41, Int.reduceLT, Int.reduceLE, Int.reduceToNat, builtinP, builtinA, changes, fieldAddrA, resA, tupled, ↓reduceIte, Nat.reduceEqDiff, Nat.reduceLT, Z70, Int.reduceEq, Y3, Y4, Y5, Y31, Y32, Y34, Y35, Y37, Y38, Y39, Y41, Y43, Y47, Y48, Y85, Y132, Y134, Y148, VolR.v, o1, o2, o3, o4, l1, c0, c1, c2, c3, tk04, tk42, tk64, tk62, hf]
  | true =>
    obtain ⟨s1, s2, s3⟩ := sizeOk_iff.1 hk
    have hq : quoI v = ((v.d.ns : Int) - 316) / 4 := rfl
    have e1 : 4 * quoI v + 316 = (v.d.ns : Int) := by omega
    have q1 : 4 ≤ quoI v := by omega
    have q2 : quoI v ≤ 900 := by omega
    unfold secV at c0
    rw [if_pos hk, ← hq] at c0
    have e4 : 2 * quoI v + 148 + 28 = 2 * quoI v + 176 := by omega
    simp only [geoV, e1] at c0
    have e48 : ∀ x y, binA cfg .eql 38 x y (.agg [.i .i64 v.s.at0, .i .i64 v.s.at1]) (.agg [.i .i64 28, .i .i64 (2 * quoI v + 176)]) = some (.b (decide (v.s.at0 = 28) && decide (v.s.at1 = 2 * quoI v + 176))) := fun x y => by
      rw [eq38 (by simp [fk_i]) (by simp [fk_i])]; simp [eqB_cons, eqB_nil, scB_i]
    have hR : rightV v = (formedB v.d && remapB v.m v.d.ns && spaceB v.s && (decide (v.s.at0 = 28) && decide (v.s.at1 = 2 * quoI v + 176)) && decide (v.s.size = 2 * quoI v + 120)) := by unfold rightV; rw [hk, Bool.true_and]
    rw [hR]
    generalize quoI v = q at *
    cases b1 : formedB v.d with
    | false => simp +contextual (disch := first | omega | exact rfl | decide | exact kpF (by decide) | exact kpT (by decide) | assumption | exact Z2z | exact Z30 | exact Z32 | exact Z31 | exact Z33 | exact Z34 | (simp only [ZI] <;> omega) | simp only [ZK] | (simp only [ZL] <;> assumption)) only [Tryz.f14, ZH, SOp, GOp, ↓Z1c, Int.reduceAdd, Int.reduceSub, Int.reduceMul, Int.reduceNeg, accs, touch, touchM, okPair, Nat.reduceAdd, Nat.reduceLeDiff, Nat.reduceMul, Nat.reduceSub, isV, opA, grdO, grd, Z41, Int.reduceLT, Int.reduceLE, Int.reduceToNat, builtinP, builtinA, changes, fieldAddrA, resA, tupled, ↓reduceIte, Nat.reduceEqDiff, Nat.reduceLT, Z70, Int.reduceEq, Y3, Y4, Y5, Y31, Y32, Y34, Y35, Y37, Y38, Y39, Y41, Y43, Y47, Y48, Y85, Y132, Y134, Y148, VolR.v, o1, o2, o3, o4, l1, c0, c1, c2, c3, e4, e48, tk04, tk42, tk64, tk62, tk606, b1]
    | true =>
      cases b2 : remapB v.m v.d.ns with
      | false => simp +contextual (disch := first | omega | exact rfl | decide | exact kpF (by decide) | exact kpT (by decide) | assumption | exact Z2z | exact Z30 | exact Z32 | exact Z31 | exact Z33 | exact Z34 | (simp only [ZI] <;> omega) | simp only [ZK] | (simp only [ZL] <;> assumption)) only [Tryz.f14, ZH, SOp, GOp, ↓Z1c, Int.reduceAdd, Int.reduceSub, Int.reduceMul, Int.reduceNeg, accs, touch, touchM, okPair, Nat.reduceAdd, Nat.reduceLeDiff, Nat.reduceMul, Nat.reduceSub, isV, opA, grdO, grd, Z41, Int.reduceLT, Int.reduceLE, Int.reduceToNat, builtinP, builtinA, changes, fieldAddrA, resA, tupled, ↓reduceIte, Nat.reduceEqDiff, Nat.reduceLT, Z70, Int.reduceEq, Y3, Y4, Y5, Y31, Y32, Y34, Y35, Y37, Y38, Y39, Y41, Y43, Y47, Y48, Y85, Y132, Y134, Y148, VolR.v, o1, o2, o3, o4, l1, c0, c1, c2, c3, e4, e48, tk04, tk42, tk64, tk62, tk606, b1, b2]
      | true =>
        cases b3 : spaceB v.s with
        | false => simp +contextual (disch := first | omega | exact rfl | decide | exact kpF (by decide) | exact kpT (by decide) | assumption | exact Z2z | exact Z30 | exact Z32 | exact Z31 | exact Z33 | exact Z34 | (simp only [ZI] <;> omega) | simp only [ZK] | (simp only [ZL] <;> assumption)) only [Tryz.f14, ZH, SOp, GOp, ↓Z1c, Int.reduceAdd, Int.reduceSub, Int.reduceMul, Int.reduceNeg, accs, touch, touchM, okPair, Nat.reduceAdd, Nat.reduceLeDiff, Nat.reduceMul, Nat.reduceSub, isV, opA, grdO, grd, Z41, Int.reduceLT, Int.reduceLE, Int.reduceToNat, builtinP, builtinA, changes, fieldAddrA, resA, tupled, ↓reduceIte, Nat.reduceEqDiff, Nat.reduceLT, Z70, Int.reduceEq, Y3, Y4, Y5, Y31, Y32, Y34, Y35, Y37, Y38, Y39, Y41, Y43, Y47, Y48, Y85, Y132, Y134, Y148, VolR.v, o1, o2, o3, o4, l1, c0, c1, c2, c3, e4, e48, tk04, tk42, tk64, tk62, tk606, b1, b2, b3]
        | true =>
          simp +contextual (disch := first | omega | exact rfl | decide | exact kpF (by decide) | exact kpT (by decide) | assumption | exact Z2z | exact Z30 | exact Z32 | exact Z31 | exact Z33 | exact Z34 | (simp only [ZI] <;> omega) | simp only [ZK] | (simp only [ZL] <;> assumption)) only [Tryz.f14, ZH, SOp, GOp, ↓Z1c, Int.reduceAdd, Int.reduceSub, Int.reduceMul, Int.reduceNeg, accs, touch, touchM, okPair, Nat.reduceAdd, Nat.reduceLeDiff, Nat.reduceMul, Nat.reduceSub, isV, opA, grdO, grd, Z41, Int.reduceLT, Int.reduceLE, Int.reduceToNat, builtinP, builtinA, changes, fieldAddrA, resA, tupled, ↓reduceIte, Nat.reduceEqDiff, Nat.reduceLT, Z70, Int.reduceEq, Y3, Y4, Y5, Y31, Y32, Y34, Y35, Y37, Y38, Y39, Y41, Y43, Y47, Y48, Y85, Y132, Y134, Y148, VolR.v, o1, o2, o3, o4, l1, c0, c1, c2, c3, e4, e48, tk04, tk42, tk64, tk62, tk606, b1, b2, b3]
end Go.Am.R2

/- Volumes as arguments. -/
namespace Go.Am.R2
open Go.Proofs
set_option maxRecDepth 100000
set_option linter.unusedSimpArgs false
set_option linter.unusedVariables false
theorem wtv_fields {D : Nat} {t : TypeId} {fs : Array Field} {cs : List V} (hu : cfg.P.underlying t = some (.struct fs)) (h : WT cfg.P (D + 1) t cs) (i : Nat) {f : Field} (hf : fs[i]? = some f) : WT cfg.P D f.type ((cs.drop f.offset).take (cfg.P.cellsOf f.type)) :=
  (wt_struct hu h).2 f (List.mem_of_getElem? (by simpa using hf))
theorem wtv_int {D off : Nat} {t : TypeId} {k : IntKind} {cs : List V} (hu : cfg.P.underlying t = some (.int k)) (hc : cfg.P.cellsOf t = 1) (h : WT cfg.P (D + 1) t ((cs.drop off).take (cfg.P.cellsOf t))) : ∃ n, cs[off]? = some (.i k n) ∧ k.min ≤ n ∧ n ≤ k.max := by
  rw [hc] at h
  obtain ⟨n, h1, h2⟩ := wt_int hu h
  exact ⟨n, take1 h1, h2⟩
theorem wtv_bool {D off : Nat} {t : TypeId} {cs : List V} (hu : cfg.P.underlying t = some .bool) (hc : cfg.P.cellsOf t = 1) (h : WT cfg.P (D + 1) t ((cs.drop off).take (cfg.P.cellsOf t))) : ∃ b, cs[off]? = some (.b b) := by
  rw [hc] at h
  obtain ⟨b, h1⟩ := wt_bool hu h
  exact ⟨b, take1 h1⟩
theorem wt_arr_fk {D n : Nat} {t e : TypeId} {k : IntKind} {cs : List V} (hu : cfg.P.underlying t = some (.array n e)) (he : cfg.P.underlying e = some (.int k)) (hc : cfg.P.cellsOf e = 1) (hn : cfg.P.cellsOf t = n) (h : WT cfg.P (D + 2) t cs) : cs.map V.fk = List.replicate n (some (.i k)) := by
  obtain ⟨h1, h2⟩ := wt_array hu h
  rw [hn] at h1
  refine List.ext_getElem? fun i => ?_
  rw [List.getElem?_map, List.getElem?_replicate]
  by_cases hi : i < n
  · have := h2 i hi
    rw [hc, Nat.mul_one] at this
    obtain ⟨m, hm, _⟩ := wt_int he this
    rw [take1 hm, if_pos hi]; rfl
  · rw [if_neg hi, List.getElem?_eq_none (by omega)]; rfl
theorem wt_sector {D : Nat} {cs : List V} (h : WT cfg.P (D + 3) 148 cs) : cs.map V.fk = (List.replicate 128 (.i .u8) ++ [.b, .b] : List Fk).map some := by
  have hl := (wt_struct Tryz.underlying148 h).1
  have hl' : cs.length = 130 := hl.trans (by kernel_rfl)
  have f0 := wtv_fields Tryz.underlying148 h 0 rfl
  obtain ⟨b1, g1⟩ := wtv_bool (off := 128) Tryz.underlying4 (by kernel_rfl) (wtv_fields Tryz.underlying148 h 1 rfl)
  obtain ⟨b2, g2⟩ := wtv_bool (off := 129) Tryz.underlying4 (by kernel_rfl) (wtv_fields Tryz.underlying148 h 2 rfl)
  have d0 := wt_arr_fk (n := 128) (k := .u8) Tryz.underlying47 Tryz.underlying5 (by kernel_rfl) (by kernel_rfl) f0
  have hc : cs = (cs.drop 0).take 128 ++ [.b b1, .b b2] := by
    refine List.ext_getElem? fun i => ?_
    by_cases hi : i < 128
    · rw [List.getElem?_append_left (by simp; omega), List.getElem?_take, if_pos hi, List.drop_zero]
    · rw [List.getElem?_append_right (by simp; omega)]
      have he : (List.take 128 (List.drop 0 cs)).length = 128 := by simp; omega
      rw [he]
      by_cases h1 : i = 128
      · subst h1; exact g1
      · by_cases h2 : i = 129
        · subst h2; exact g2
        · rw [List.getElem?_eq_none (by omega), List.getElem?_eq_none (by simp; omega)]
  have d0' : ((cs.drop 0).take 128).map V.fk = List.replicate 128 (some (.i .u8)) := d0
  rw [hc, List.map_append, d0']
  simp [fk_b]
theorem wt_write {D : Nat} {cs : List V} (h : WT cfg.P (D + 3) 132 cs) : cs.map V.fk = ([(.i .i64)] ++ List.replicate 128 (.i .u8) : List Fk).map some := by
  have hl := (wt_struct Tryz.underlying132 h).1
  have hl' : cs.length = 129 := hl.trans (by kernel_rfl)
  obtain ⟨w, g0, _⟩ := wtv_int (off := 0) Tryz.underlying3 (by kernel_rfl) (wtv_fields Tryz.underlying132 h 0 rfl)
  have f1 := wtv_fields Tryz.underlying132 h 1 rfl
  have d0 := wt_arr_fk (n := 128) (k := .u8) Tryz.underlying47 Tryz.underlying5 (by kernel_rfl) (by kernel_rfl) f1
  have d0' : ((cs.drop 1).take 128).map V.fk = List.replicate 128 (some (.i .u8)) := d0
  have hc : cs = [.i .i64 w] ++ (cs.drop 1).take 128 := by
    refine List.ext_getElem? fun i => ?_
    by_cases hi : i < 1
    · have : i = 0 := by omega
      subst this; rw [g0]; rfl
    · rw [List.getElem?_append_right (by simp; omega), List.getElem?_take, List.getElem?_drop, List.length_singleton]
      by_cases h1 : i - 1 < 128
      · rw [if_pos h1]; congr 1; omega
      · rw [if_neg h1, List.getElem?_eq_none (by omega)]
  rw [hc, List.map_append, d0']
  simp [fk_i]
theorem pairs_of : ∀ (n : Nat) (els : List V), els.length = n * 2 → (∀ i, i < n → ∃ a b : Int, (els.drop (i * 2)).take 2 = [.i .i64 a, .i .i64 b]) → ∃ pl : List (Int × Int), pl.length = n ∧ els = prV pl
  | 0, els, hl, _ => ⟨[], rfl, List.eq_nil_of_length_eq_zero (by simpa using hl)⟩
  | n + 1, els, hl, h => by
    obtain ⟨a, b, hab⟩ := h 0 (by omega)
    match els, hl with
    | u :: v :: els, hl =>
      simp at hab
      obtain ⟨rfl, rfl⟩ := hab
      obtain ⟨pl, h1, h2⟩ := pairs_of n els (by simp at hl; omega) fun i hi => by
        obtain ⟨a, b, hab⟩ := h (i + 1) (by omega)
        rw [show (i + 1) * 2 = i * 2 + 1 + 1 by omega, List.drop_succ_cons, List.drop_succ_cons] at hab
        exact ⟨a, b, hab⟩
      exact ⟨(a, b) :: pl, by rw [List.length_cons, h1], by rw [prV_cons, h2]⟩
    | [], hl => simp at hl
    | [_], hl => simp at hl; omega
theorem wt_SV {D : Nat} {t e : TypeId} {z B : Nat} {cs : List V} (hu : cfg.P.underlying t = some (.slice e)) (hc : cfg.P.cellsOf e = z) (hB : cfg.P.bytesOf e = B) (h : WT cfg.P (D + 1) t cs) :
    ∃ (x : V) (n : Nat) (els : List V), cs = [x] ∧ SV z x n els ∧ n * B ≤ 140737488351232 ∧ ∀ i, i < n → WT cfg.P D e ((els.drop (i * z)).take z) := by
  rcases wt_slice hu h with rfl | ⟨els, n, rfl, h1, h2, h3⟩
  · exact ⟨.nils, 0, [], rfl, ⟨by simp, .inl ⟨rfl, rfl⟩⟩, by simp, fun i hi => absurd hi (by omega)⟩
  · rw [hc] at h1 h3
    rw [hB] at h2
    exact ⟨_, n, els, rfl, ⟨h1, .inr ⟨false, rfl⟩⟩, h2, h3⟩
theorem wt_disk {D : Nat} {cs : List V} (h : WT cfg.P (D + 5) 34 cs) : ∃ d : DiskR, d.ok ∧ cs = d.v := by
  have hl : cs.length = 4 := (wt_struct Tryz.underlying34 h).1.trans (by kernel_rfl)
  obtain ⟨x, n, es, e1, s1, b1, w1⟩ := wt_SV (z := 130) (B := 130) Tryz.underlying31 (by kernel_rfl) (by kernel_rfl) (wtv_fields Tryz.underlying34 h 0 rfl)
  obtain ⟨y, m, fs, e2, s2, b2, w2⟩ := wt_SV (z := 129) (B := 136) Tryz.underlying32 (by kernel_rfl) (by kernel_rfl) (wtv_fields Tryz.underlying34 h 1 rfl)
  obtain ⟨fu, e3, _⟩ := wtv_int (off := 2) Tryz.underlying3 (by kernel_rfl) (wtv_fields Tryz.underlying34 h 2 rfl)
  obtain ⟨dn, e4⟩ := wtv_bool (off := 3) Tryz.underlying4 (by kernel_rfl) (wtv_fields Tryz.underlying34 h 3 rfl)
  refine ⟨⟨x, n, es, y, m, fs, fu, dn⟩, ⟨s1, s2, fun i hi => wt_sector (w1 i hi), fun i hi => wt_write (w2 i hi), by show n * 130 ≤ _; omega, by show m * 136 ≤ _; omega⟩, ?_⟩
  have e1' : cs[0]? = some x := take1 e1
  have e2' : cs[1]? = some y := take1 e2
  match cs, hl with
  | [a0, a1, a2, a3], _ => simp at e1' e2' e3 e4; simp [DiskR.v, e1', e2', e3, e4]
theorem wt_remap {D : Nat} {cs : List V} (h : WT cfg.P (D + 5) 37 cs) : ∃ m : RemapR, m.ok ∧ cs = m.v := by
  have hl : cs.length = 2 := (wt_struct Tryz.underlying37 h).1.trans (by kernel_rfl)
  obtain ⟨g, e1, _⟩ := wtv_int (off := 0) Tryz.underlying3 (by kernel_rfl) (wtv_fields Tryz.underlying37 h 0 rfl)
  obtain ⟨x, n, es, e2, s2, b2, w2⟩ := wt_SV (z := 2) (B := 16) Tryz.underlying35 (by kernel_rfl) (by kernel_rfl) (wtv_fields Tryz.underlying37 h 1 rfl)
  have e2' : cs[1]? = some x := take1 e2
  obtain ⟨pl, rfl, rfl⟩ := pairs_of n es s2.1 fun i hi => by
    have hw := w2 i hi
    have hl : ((es.drop (i * 2)).take 2).length = 2 := (wt_struct Tryz.underlying134 hw).1.trans (by kernel_rfl)
    obtain ⟨a, g0, _⟩ := wtv_int (off := 0) Tryz.underlying3 (by kernel_rfl) (wtv_fields Tryz.underlying134 hw 0 rfl)
    obtain ⟨b, g1, _⟩ := wtv_int (off := 1) Tryz.underlying3 (by kernel_rfl) (wtv_fields Tryz.underlying134 hw 1 rfl)
    generalize (es.drop (i * 2)).take 2 = q at hl g0 g1
    match q, hl with
    | [u, v], _ => simp at g0 g1; exact ⟨a, b, by rw [g0, g1]⟩
  refine ⟨⟨g, x, pl⟩, ⟨s2, by show pl.length * 16 ≤ _; omega⟩, ?_⟩
  match cs, hl with
  | [a0, a1], _ => simp at e1 e2'; simp [RemapR.v, e1, e2']
theorem wt_space {D : Nat} {cs : List V} (h : WT cfg.P (D + 5) 41 cs) : ∃ s : SpaceR, s.ok ∧ cs = s.v := by
  have hl : cs.length = 4 := (wt_struct Tryz.underlying41 h).1.trans (by kernel_rfl)
  have f0 := wtv_fields Tryz.underlying41 h 0 rfl
  have f0' := (wt_array Tryz.underlying38 f0).2
  obtain ⟨a, g0, _⟩ := wtv_int (off := 0) Tryz.underlying3 (by kernel_rfl) (f0' 0 (by decide))
  obtain ⟨b, g1, _⟩ := wtv_int (off := 1) Tryz.underlying3 (by kernel_rfl) (f0' 1 (by decide))
  obtain ⟨sz, e1, _⟩ := wtv_int (off := 2) Tryz.underlying3 (by kernel_rfl) (wtv_fields Tryz.underlying41 h 1 rfl)
  obtain ⟨x, n, es, e2, s2, b2, w2⟩ := wt_SV (z := 1) (B := 1) Tryz.underlying39 (by kernel_rfl) (by kernel_rfl) (wtv_fields Tryz.underlying41 h 2 rfl)
  have e2' : cs[3]? = some x := take1 e2
  obtain ⟨l, rfl, hl2⟩ := ints_of (k := .u8) (cs := es) fun i hi => by
    have := w2 i (by have := s2.1; omega)
    rw [Nat.mul_one] at this
    obtain ⟨m, e1, e2⟩ := wt_int Tryz.underlying5 this
    exact ⟨m, take1 e1, e2⟩
  have hn : l.length = n := by have := s2.1; rw [ints_len] at this; omega
  subst hn
  refine ⟨⟨a, b, sz, x, l⟩, ⟨s2, hl2, by show l.length ≤ _; omega⟩, ?_⟩
  match cs, hl with
  | [a0, a1, a2, a3], _ =>
    have hc : cfg.P.cellsOf 38 = 2 := by kernel_rfl
    replace g0 : ((List.drop 0 [a0, a1, a2, a3]).take (cfg.P.cellsOf 38))[0]? = some (.i .i64 a) := g0
    replace g1 : ((List.drop 0 [a0, a1, a2, a3]).take (cfg.P.cellsOf 38))[1]? = some (.i .i64 b) := g1
    rw [hc] at g0 g1
    simp at e1 e2' g0 g1
    simp [SpaceR.v, e1, e2', g0, g1]
theorem wt_vol {cs : List V} (h : WT cfg.P 20 43 cs) : ∃ v : VolR, v.ok ∧ cs = v.v := by
  have hl : cs.length = 10 := (wt_struct Tryz.underlying43 h).1.trans (by kernel_rfl)
  obtain ⟨d, hd, e1⟩ := wt_disk (wtv_fields Tryz.underlying43 h 0 rfl)
  obtain ⟨m, hm, e2⟩ := wt_remap (wtv_fields Tryz.underlying43 h 1 rfl)
  obtain ⟨s, hs, e3⟩ := wt_space (wtv_fields Tryz.underlying43 h 2 rfl)
  replace e1 : (cs.drop 0).take (cfg.P.cellsOf 34) = d.v := e1
  replace e2 : (cs.drop 4).take (cfg.P.cellsOf 37) = m.v := e2
  replace e3 : (cs.drop 6).take (cfg.P.cellsOf 41) = s.v := e3
  rw [show cfg.P.cellsOf 34 = 4 by kernel_rfl] at e1
  rw [show cfg.P.cellsOf 37 = 2 by kernel_rfl] at e2
  rw [show cfg.P.cellsOf 41 = 4 by kernel_rfl] at e3
  refine ⟨⟨d, m, s⟩, ⟨hd, hm, hs⟩, ?_⟩
  match cs, hl with
  | [a0, a1, a2, a3, a4, a5, a6, a7, a8, a9], _ =>
    simp [DiskR.v] at e1
    simp [RemapR.v] at e2
    simp [SpaceR.v] at e3
    simp [VolR.v, e1, e2, e3]
end Go.Am.R2
