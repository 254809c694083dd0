/- Parts of one machine and of the walks over it, joined: M8 M9 M10 M11 M12 M13 M14 M15 M16 M20 M21 M22 M26. -/
import Derived.Test.YtibhpbpjdgodnaaGreatDoorJN
import Derived.Test.YtibhpbpjdgodnaaGreatDoorJH
import Derived.Test.YtibhpbpjdgodnaaGreatDoorJA
import Derived.Test.YtibhpbpjdgodnaaGreatDoorAmTrX
/- Where a sector lies in the space's table, both ways. -/
namespace Go.Am.R2
open Go.Proofs
set_option maxRecDepth 100000
set_option linter.unusedSimpArgs false
set_option linter.unusedVariables false
variable {σ : List O} {p : List Nat}
def placeI (s : SpaceR) (b : Int) : Int := if s.at0 ≤ b ∧ b < s.at0 + s.size then b - s.at0 else if s.at1 ≤ b ∧ b < s.at1 + s.size then s.size + b - s.at1 else -1
theorem tk404 {a0 a1 a2 a3 : V} : take? [a0, a1, a2, a3] 0 4 = some [a0, a1, a2, a3] := rfl
theorem place_ok (s : SpaceR) (h : s.ok) (hf : spaceB s = true) (b : Int) (hb : -9223372036854775808 ≤ b ∧ b ≤ 9223372036854775807) : runF cfg 94 [.agg s.v, .i .i64 b] σ p = some (.i .i64 (placeI s b), σ) := by
  obtain ⟨f1, f2, f3, f4, f5, f6, _⟩ := spaceB_iff.1 hf
  refine run_done rfl rfl Tryz.func94 rfl ?_
  have o1 := h.sv.one
  have e0 : (0 : Int) * s.size = 0 := by omega
  have e1 : (1 : Int) * s.size = s.size := by omega
  simp only [SpaceR.v]
  by_cases c1 : s.at0 ≤ b
  · by_cases c2 : b < s.at0 + s.size
    · have hp : placeI s b = b - s.at0 := by unfold placeI; rw [if_pos ⟨c1, c2⟩]
      rw [hp]
      have e3 : 0 + b - s.at0 = b - s.at0 := by omega
      simp +contextual (disch := first | omega | exact rfl | decide | exact kpF (by decide) | exact kpT (by decide) | assumption | exact Z2z | exact Z30 | exact Z32 | exact Z31 | exact Z33 | exact Z34 | (simp only [ZI] <;> omega) | simp only [ZK] | (simp only [ZL] <;> assumption)) only [Tryz.f94, ZH, SOp, GOp, ↓Z1c, Int.reduceAdd, Int.reduceSub, Int.reduceMul, Int.reduceNeg, accs, touch, touchM, okPair, Nat.reduceAdd, Nat.reduceLeDiff, Nat.reduceMul, Nat.reduceSub, isV, opA, grdO, grd, Z41, Int.reduceLT, Int.reduceLE, Int.reduceToNat, builtinP, builtinA, changes, fieldAddrA, resA, tupled, ↓reduceIte, Nat.reduceEqDiff, Nat.reduceLT, Z70, Int.reduceEq, dr94x4, dr94x5, Y3, Y5, Y38, Y39, Y41, Wq_loop, loopQ_normal, loopQ_exit, loopQ_ret, o1, c1, c2, e0, e1, e3]
    · by_cases c3 : s.at1 ≤ b
      · by_cases c4 : b < s.at1 + s.size
        · have hp : placeI s b = s.size + b - s.at1 := by unfold placeI; rw [if_neg (fun h => c2 h.2), if_pos ⟨c3, c4⟩]
          rw [hp]
          simp +contextual (disch := first | omega | exact rfl | decide | exact kpF (by decide) | exact kpT (by decide) | assumption | exact Z2z | exact Z30 | exact Z32 | exact Z31 | exact Z33 | exact Z34 | (simp only [ZI] <;> omega) | simp only [ZK] | (simp only [ZL] <;> assumption)) only [Tryz.f94, ZH, SOp, GOp, ↓Z1c, Int.reduceAdd, Int.reduceSub, Int.reduceMul, Int.reduceNeg, accs, touch, touchM, okPair, Nat.reduceAdd, Nat.reduceLeDiff, Nat.reduceMul, Nat.reduceSub, isV, opA, grdO, grd, Z41, Int.reduceLT, Int.reduceLE, Int.reduceToNat, builtinP, builtinA, changes, fieldAddrA, resA, tupled, ↓reduceIte, Nat.reduceEqDiff, Nat.reduceLT, Z70, Int.reduceEq, dr94x4, dr94x5, Y3, Y5, Y38, Y39, Y41, Wq_loop, loopQ_normal, loopQ_exit, loopQ_ret, o1, c1, c2, c3, c4, e0, e1]
        · have hp : placeI s b = -1 := by unfold placeI; rw [if_neg (fun h => c2 h.2), if_neg (fun h => c4 h.2)]
          rw [hp]
          simp +contextual (disch := first | omega | exact rfl | decide | exact kpF (by decide) | exact kpT (by decide) | assumption | exact Z2z | exact Z30 | exact Z32 | exact Z31 | exact Z33 | exact Z34 | (simp only [ZI] <;> omega) | simp only [ZK] | (simp only [ZL] <;> assumption)) only [Tryz.f94, ZH, SOp, GOp, ↓Z1c, Int.reduceAdd, Int.reduceSub, Int.reduceMul, Int.reduceNeg, accs, touch, touchM, okPair, Nat.reduceAdd, Nat.reduceLeDiff, Nat.reduceMul, Nat.reduceSub, isV, opA, grdO, grd, Z41, Int.reduceLT, Int.reduceLE, Int.reduceToNat, builtinP, builtinA, changes, fieldAddrA, resA, tupled, ↓reduceIte, Nat.reduceEqDiff, Nat.reduceLT, Z70, Int.reduceEq, dr94x4, dr94x5, Y3, Y5, Y38, Y39, Y41, Wq_loop, loopQ_normal, loopQ_exit, loopQ_ret, o1, c1, c2, c3, c4, e0, e1]
      · have hp : placeI s b = -1 := by unfold placeI; rw [if_neg (fun h => c2 h.2), if_neg (fun h => c3 h.1)]
        rw [hp]
        simp +contextual (disch := first | omega | exact rfl | decide | exact kpF (by decide) | exact kpT (by decide) | assumption | exact Z2z | exact Z30 | exact Z32 | exact Z31 | exact Z33 | exact Z34 | (simp only [ZI] <;> omega) | simp only [ZK] | (simp only [ZL] <;> assumption)) only [Tryz.f94, ZH, SOp, GOp, ↓Z1c, Int.reduceAdd, Int.reduceSub, Int.reduceMul, Int.reduceNeg, accs, touch, touchM, okPair, Nat.reduceAdd, Nat.reduceLeDiff, Nat.reduceMul, Nat.reduceSub, isV, opA, grdO, grd, Z41, Int.reduceLT, Int.reduceLE, Int.reduceToNat, builtinP, builtinA, changes, fieldAddrA, resA, tupled, ↓reduceIte, Nat.reduceEqDiff, Nat.reduceLT, Z70, Int.reduceEq, dr94x4, dr94x5, Y3, Y5, Y38, Y39, Y41, Wq_loop, loopQ_normal, loopQ_exit, loopQ_ret, o1, c1, c2, c3, e0, e1]
  · have c3 : ¬ s.at1 ≤ b := by omega
    have hp : placeI s b = -1 := by unfold placeI; rw [if_neg (fun h => c1 h.1), if_neg (fun h => c3 h.1)]
    rw [hp]
    simp +contextual (disch := first | omega | exact rfl | decide | exact kpF (by decide) | exact kpT (by decide) | assumption | exact Z2z | exact Z30 | exact Z32 | exact Z31 | exact Z33 | exact Z34 | (simp only [ZI] <;> omega) | simp only [ZK] | (simp only [ZL] <;> assumption)) only [Tryz.f94, ZH, SOp, GOp, ↓Z1c, Int.reduceAdd, Int.reduceSub, Int.reduceMul, Int.reduceNeg, accs, touch, touchM, okPair, Nat.reduceAdd, Nat.reduceLeDiff, Nat.reduceMul, Nat.reduceSub, isV, opA, grdO, grd, Z41, Int.reduceLT, Int.reduceLE, Int.reduceToNat, builtinP, builtinA, changes, fieldAddrA, resA, tupled, ↓reduceIte, Nat.reduceEqDiff, Nat.reduceLT, Z70, Int.reduceEq, dr94x4, dr94x5, Y3, Y5, Y38, Y39, Y41, Wq_loop, loopQ_normal, loopQ_exit, loopQ_ret, o1, c1, c3, e0, e1]
theorem place2_ok (s : SpaceR) (h : s.ok) (hf : spaceB s = true) (b : Int) (hb : -9223372036854775808 ≤ b ∧ b ≤ 9223372036854775807) : runF cfg 171 [.agg s.v, .i .i64 b] σ p = some (.tup [.i .i64 (if placeI s b = -1 then 0 else placeI s b), .b (!decide (placeI s b = -1))], σ) := by
  obtain ⟨f1, f2, f3, f4, f5, f6, _⟩ := spaceB_iff.1 hf
  refine run_done rfl rfl Tryz.func171 rfl ?_
  have o1 := h.sv.one
  have e0 : (0 : Int) * s.size = 0 := by omega
  have e1 : (1 : Int) * s.size = s.size := by omega
  simp only [SpaceR.v]
  by_cases c1 : s.at0 ≤ b
  · by_cases c2 : b - s.at0 < s.size
    · have hp : placeI s b = b - s.at0 := by unfold placeI; rw [if_pos ⟨c1, by omega⟩]
      have hn : ¬ b - s.at0 = -1 := by omega
      rw [hp, if_neg hn, decide_eq_false hn]
      have e3 : 0 + b - s.at0 = b - s.at0 := by omega
      simp +contextual (disch := first | omega | exact rfl | decide | exact kpF (by decide) | exact kpT (by decide) | assumption | exact Z2z | exact Z30 | exact Z32 | exact Z31 | exact Z33 | exact Z34 | (simp only [ZI] <;> omega) | simp only [ZK] | (simp only [ZL] <;> assumption)) only [Tryz.f171, ZH, SOp, GOp, ↓Z1c, Int.reduceAdd, Int.reduceSub, Int.reduceMul, Int.reduceNeg, accs, touch, touchM, okPair, Nat.reduceAdd, Nat.reduceLeDiff, Nat.reduceMul, Nat.reduceSub, isV, opA, grdO, grd, Z41, Int.reduceLT, Int.reduceLE, Int.reduceToNat, builtinP, builtinA, changes, fieldAddrA, resA, tupled, ↓reduceIte, Nat.reduceEqDiff, Nat.reduceLT, Z70, Int.reduceEq, Y3, Y5, Y38, Y39, Y41, Wq_loop, loopQ_normal, loopQ_exit, loopQ_ret, tk402, o1, c1, c2, e0, e1, e3]
    · by_cases c3 : s.at1 ≤ b
      · by_cases c4 : b - s.at1 < s.size
        · have hp : placeI s b = s.size + b - s.at1 := by unfold placeI; rw [if_neg (fun h => c2 (by omega)), if_pos ⟨c3, by omega⟩]
          have hn : ¬ s.size + b - s.at1 = -1 := by omega
          rw [hp, if_neg hn, decide_eq_false hn]
          simp +contextual (disch := first | omega | exact rfl | decide | exact kpF (by decide) | exact kpT (by decide) | assumption | exact Z2z | exact Z30 | exact Z32 | exact Z31 | exact Z33 | exact Z34 | (simp only [ZI] <;> omega) | simp only [ZK] | (simp only [ZL] <;> assumption)) only [Tryz.f171, ZH, SOp, GOp, ↓Z1c, Int.reduceAdd, Int.reduceSub, Int.reduceMul, Int.reduceNeg, accs, touch, touchM, okPair, Nat.reduceAdd, Nat.reduceLeDiff, Nat.reduceMul, Nat.reduceSub, isV, opA, grdO, grd, Z41, Int.reduceLT, Int.reduceLE, Int.reduceToNat, builtinP, builtinA, changes, fieldAddrA, resA, tupled, ↓reduceIte, Nat.reduceEqDiff, Nat.reduceLT, Z70, Int.reduceEq, Y3, Y5, Y38, Y39, Y41, Wq_loop, loopQ_normal, loopQ_exit, loopQ_ret, tk402, o1, c1, c2, c3, c4, e0, e1]
        · have hp : placeI s b = -1 := by unfold placeI; rw [if_neg (fun h => c2 (by omega)), if_neg (fun h => c4 (by omega))]
          rw [hp]
          simp +contextual (disch := first | omega | exact rfl | decide | exact kpF (by decide) | exact kpT (by decide) | assumption | exact Z2z | exact Z30 | exact Z32 | exact Z31 | exact Z33 | exact Z34 | (simp only [ZI] <;> omega) | simp only [ZK] | (simp only [ZL] <;> assumption)) only [Tryz.f171, ZH, SOp, GOp, ↓Z1c, Int.reduceAdd, Int.reduceSub, Int.reduceMul, Int.reduceNeg, accs, touch, touchM, okPair, Nat.reduceAdd, Nat.reduceLeDiff, Nat.reduceMul, Nat.reduceSub, isV, opA, grdO, grd, Z41, Int.reduceLT, Int.reduceLE, Int.reduceToNat, builtinP, builtinA, changes, fieldAddrA, resA, tupled, ↓reduceIte, Nat.reduceEqDiff, Nat.reduceLT, Z70, Int.reduceEq, Y3, Y5, Y38, Y39, Y41, Wq_loop, loopQ_normal, loopQ_exit, loopQ_ret, tk402, o1, c1, c2, c3, c4, e0, e1]
      · have hp : placeI s b = -1 := by unfold placeI; rw [if_neg (fun h => c2 (by omega)), if_neg (fun h => c3 h.1)]
        rw [hp]
        simp +contextual (disch := first | omega | exact rfl | decide | exact kpF (by decide) | exact kpT (by decide) | assumption | exact Z2z | exact Z30 | exact Z32 | exact Z31 | exact Z33 | exact Z34 | (simp only [ZI] <;> omega) | simp only [ZK] | (simp only [ZL] <;> assumption)) only [Tryz.f171, ZH, SOp, GOp, ↓Z1c, Int.reduceAdd, Int.reduceSub, Int.reduceMul, Int.reduceNeg, accs, touch, touchM, okPair, Nat.reduceAdd, Nat.reduceLeDiff, Nat.reduceMul, Nat.reduceSub, isV, opA, grdO, grd, Z41, Int.reduceLT, Int.reduceLE, Int.reduceToNat, builtinP, builtinA, changes, fieldAddrA, resA, tupled, ↓reduceIte, Nat.reduceEqDiff, Nat.reduceLT, Z70, Int.reduceEq, Y3, Y5, Y38, Y39, Y41, Wq_loop, loopQ_normal, loopQ_exit, loopQ_ret, tk402, o1, c1, c2, c3, e0, e1]
  · have c3 : ¬ s.at1 ≤ b := by omega
    have hp : placeI s b = -1 := by unfold placeI; rw [if_neg (fun h => c1 h.1), if_neg (fun h => c3 h.1)]
    rw [hp]
    simp +contextual (disch := first | omega | exact rfl | decide | exact kpF (by decide) | exact kpT (by decide) | assumption | exact Z2z | exact Z30 | exact Z32 | exact Z31 | exact Z33 | exact Z34 | (simp only [ZI] <;> omega) | simp only [ZK] | (simp only [ZL] <;> assumption)) only [Tryz.f171, ZH, SOp, GOp, ↓Z1c, Int.reduceAdd, Int.reduceSub, Int.reduceMul, Int.reduceNeg, accs, touch, touchM, okPair, Nat.reduceAdd, Nat.reduceLeDiff, Nat.reduceMul, Nat.reduceSub, isV, opA, grdO, grd, Z41, Int.reduceLT, Int.reduceLE, Int.reduceToNat, builtinP, builtinA, changes, fieldAddrA, resA, tupled, ↓reduceIte, Nat.reduceEqDiff, Nat.reduceLT, Z70, Int.reduceEq, Y3, Y5, Y38, Y39, Y41, Wq_loop, loopQ_normal, loopQ_exit, loopQ_ret, tk402, o1, c1, c3, e0, e1]
end Go.Am.R2

/- The state of a sector, both ways. -/
namespace Go.Am.R2
open Go.Proofs
set_option maxRecDepth 100000
set_option linter.unusedSimpArgs false
set_option linter.unusedVariables false
variable {σ : List O} {p : List Nat}
def stV (s : SpaceR) (b : Int) : Int := if spaceB s = true ∧ placeI s b ≠ -1 then s.sl.getD (placeI s b).toNat 0 else 0
def stE (s : SpaceR) (b : Int) : Int := if spaceB s = true ∧ placeI s b ≠ -1 then 0 else 1
theorem conv53 {τ : List O} {n : Int} (h : 0 ≤ n ∧ n ≤ 255) : convertP cfg 5 3 τ (.i .u8 n) = some (.i .i64 n) := by
  have : IntKind.i64.wrap n = n := wrap_i64 (by omega) (by omega)
  simp [convertP, kn5, sh3, this]
theorem place_rg (s : SpaceR) (hf : spaceB s = true) (b : Int) (hp : placeI s b ≠ -1) : 0 ≤ placeI s b ∧ placeI s b < s.sl.length := by
  obtain ⟨f1, f2, f3, f4, f5, f6, _⟩ := spaceB_iff.1 hf
  unfold placeI at hp ⊢
  split
  · rename_i h; omega
  · split
    · rename_i h; omega
    · rename_i h1 h2; rw [if_neg h1, if_neg h2] at hp; exact absurd rfl hp
theorem state_ok (s : SpaceR) (h : s.ok) (b : Int) (hb : -9223372036854775808 ≤ b ∧ b ≤ 9223372036854775807) : runF cfg 46 [.agg s.v, .i .i64 b] σ p = some (.tup [.i .i64 (stV s b), .i .i64 (stE s b)], σ) := by
  refine run_done rfl rfl Tryz.func46 rfl ?_
  have o1 := h.sv.one
  have hs := fun (τ : List O) q => space7_ok (σ := τ) (p := q) s h
  cases hf : spaceB s with
  | false =>
    rw [hf] at hs
    have e1 : stV s b = 0 := by unfold stV; rw [if_neg (fun hh => by rw [hf] at hh; cases hh.1)]
    have e2 : stE s b = 1 := by unfold stE; rw [if_neg (fun hh => by rw [hf] at hh; cases hh.1)]
    rw [e1, e2]
    simp only [SpaceR.v] at *
    simp +contextual (disch := first | omega | exact rfl | decide | exact kpF (by decide) | exact kpT (by decide) | assumption | exact Z2z | exact Z30 | exact Z32 | exact Z31 | exact Z33 | exact Z34 | (simp only [ZI] <;> omega) | simp only [ZK] | (simp only [ZL] <;> assumption)) only [Tryz.f46, ZH, SOp, GOp, ↓Z1c, Int.reduceAdd, Int.reduceSub, Int.reduceMul, Int.reduceNeg, accs, touch, touchM, okPair, Nat.reduceAdd, Nat.reduceLeDiff, Nat.reduceMul, Nat.reduceSub, isV, opA, grdO, grd, Z41, Int.reduceLT, Int.reduceLE, Int.reduceToNat, builtinP, builtinA, changes, fieldAddrA, resA, tupled, ↓reduceIte, Nat.reduceEqDiff, Nat.reduceLT, Z70, Int.reduceEq, dr46x3, Y3, Y5, Y38, Y39, Y41, hs, o1, tk404]
  | true =>
    rw [hf] at hs
    have hpl := fun (τ : List O) q => place_ok (σ := τ) (p := q) s h hf b hb
    by_cases hp : placeI s b = -1
    · rw [hp] at hpl
      have e1 : stV s b = 0 := by unfold stV; rw [if_neg (fun hh => hh.2 hp)]
      have e2 : stE s b = 1 := by unfold stE; rw [if_neg (fun hh => hh.2 hp)]
      rw [e1, e2]
      simp only [SpaceR.v] at *
      simp +contextual (disch := first | omega | exact rfl | decide | exact kpF (by decide) | exact kpT (by decide) | assumption | exact Z2z | exact Z30 | exact Z32 | exact Z31 | exact Z33 | exact Z34 | (simp only [ZI] <;> omega) | simp only [ZK] | (simp only [ZL] <;> assumption)) only [Tryz.f46, ZH, SOp, GOp, ↓Z1c, Int.reduceAdd, Int.reduceSub, Int.reduceMul, Int.reduceNeg, accs, touch, touchM, okPair, Nat.reduceAdd, Nat.reduceLeDiff, Nat.reduceMul, Nat.reduceSub, isV, opA, grdO, grd, Z41, Int.reduceLT, Int.reduceLE, Int.reduceToNat, builtinP, builtinA, changes, fieldAddrA, resA, tupled, ↓reduceIte, Nat.reduceEqDiff, Nat.reduceLT, Z70, Int.reduceEq, dr46x3, Y3, Y5, Y38, Y39, Y41, hs, hpl, o1, tk404]
    · have e1 : stV s b = s.sl.getD (placeI s b).toNat 0 := by unfold stV; rw [if_pos ⟨hf, hp⟩]
      have e2 : stE s b = 0 := by unfold stE; rw [if_pos ⟨hf, hp⟩]
      rw [e1, e2]
      obtain ⟨r1, r2⟩ := place_rg s hf b hp
      obtain ⟨k, hk⟩ : ∃ k : Nat, placeI s b = k := ⟨(placeI s b).toNat, by omega⟩
      rw [hk] at hpl r2 ⊢
      have hkl : k < s.sl.length := by omega
      have hk0 : ¬ ((k : Int) < 0) := by omega
      obtain ⟨a, ha, hla⟩ := (h.sv.view []).at (C := cfg) sh39 sz5 ag5 .i64 k (by rw [ints_len]; exact hkl)
      have hl1 := fun τ => hla τ _ (h.sv.view τ)
      simp only [ints_get' hkl] at hl1
      have hin := h.h (s.sl.getD k 0) (by rw [List.getD_eq_getElem?_getD, List.getElem?_eq_getElem hkl]; exact List.getElem_mem hkl)
      have cv := fun (τ : List O) => conv53 (τ := τ) hin
      simp only [SpaceR.v] at *
      simp +contextual (disch := first | omega | exact rfl | decide | exact kpF (by decide) | exact kpT (by decide) | assumption | exact Z2z | exact Z30 | exact Z32 | exact Z31 | exact Z33 | exact Z34 | (simp only [ZI] <;> omega) | simp only [ZK] | (simp only [ZL] <;> assumption)) only [Tryz.f46, ZH, SOp, GOp, ↓Z1c, Int.reduceAdd, Int.reduceSub, Int.reduceMul, Int.reduceNeg, accs, touch, touchM, okPair, Nat.reduceAdd, Nat.reduceLeDiff, Nat.reduceMul, Nat.reduceSub, isV, opA, grdO, grd, Z41, Int.reduceLT, Int.reduceLE, Int.reduceToNat, builtinP, builtinA, changes, fieldAddrA, resA, tupled, ↓reduceIte, Nat.reduceEqDiff, Nat.reduceLT, Z70, Int.reduceEq, dr46x3, Y3, Y5, Y38, Y39, Y41, hs, hpl, o1, tk404, hk0, ha, hl1, cv]
theorem state2_ok (s : SpaceR) (h : s.ok) (b : Int) (hb : -9223372036854775808 ≤ b ∧ b ≤ 9223372036854775807) : runF cfg 147 [.agg s.v, .i .i64 b] σ p = some (.tup [.i .i64 (stV s b), .i .i64 (stE s b)], σ) := by
  refine run_done rfl rfl Tryz.func147 rfl ?_
  have o1 := h.sv.one
  have hs := fun (τ : List O) q => space_ok (σ := τ) (p := q) s h
  cases hf : spaceB s with
  | false =>
    rw [hf] at hs
    have e1 : stV s b = 0 := by unfold stV; rw [if_neg (fun hh => by rw [hf] at hh; cases hh.1)]
    have e2 : stE s b = 1 := by unfold stE; rw [if_neg (fun hh => by rw [hf] at hh; cases hh.1)]
    rw [e1, e2]
    simp only [SpaceR.v] at *
    simp +contextual (disch := first | omega | exact rfl | decide | exact kpF (by decide) | exact kpT (by decide) | assumption | exact Z2z | exact Z30 | exact Z32 | exact Z31 | exact Z33 | exact Z34 | (simp only [ZI] <;> omega) | simp only [ZK] | (simp only [ZL] <;> assumption)) only [Tryz.f147, ZH, SOp, GOp, ↓Z1c, Int.reduceAdd, Int.reduceSub, Int.reduceMul, Int.reduceNeg, accs, touch, touchM, okPair, Nat.reduceAdd, Nat.reduceLeDiff, Nat.reduceMul, Nat.reduceSub, isV, opA, grdO, grd, Z41, Int.reduceLT, Int.reduceLE, Int.reduceToNat, builtinP, builtinA, changes, fieldAddrA, resA, tupled, ↓reduceIte, Nat.reduceEqDiff, Nat.reduceLT, Z70, Int.reduceEq, Y3, Y5, Y38, Y39, Y41, hs, o1, tk404]
  | true =>
    rw [hf] at hs
    have hpl := fun (τ : List O) q => place2_ok (σ := τ) (p := q) s h hf b hb
    by_cases hp : placeI s b = -1
    · rw [hp] at hpl
      simp only [if_true, decide_true, Bool.not_true] at hpl
      have e1 : stV s b = 0 := by unfold stV; rw [if_neg (fun hh => hh.2 hp)]
      have e2 : stE s b = 1 := by unfold stE; rw [if_neg (fun hh => hh.2 hp)]
      rw [e1, e2]
      simp only [SpaceR.v] at *
      simp +contextual (disch := first | omega | exact rfl | decide | exact kpF (by decide) | exact kpT (by decide) | assumption | exact Z2z | exact Z30 | exact Z32 | exact Z31 | exact Z33 | exact Z34 | (simp only [ZI] <;> omega) | simp only [ZK] | (simp only [ZL] <;> assumption)) only [Tryz.f147, ZH, SOp, GOp, ↓Z1c, Int.reduceAdd, Int.reduceSub, Int.reduceMul, Int.reduceNeg, accs, touch, touchM, okPair, Nat.reduceAdd, Nat.reduceLeDiff, Nat.reduceMul, Nat.reduceSub, isV, opA, grdO, grd, Z41, Int.reduceLT, Int.reduceLE, Int.reduceToNat, builtinP, builtinA, changes, fieldAddrA, resA, tupled, ↓reduceIte, Nat.reduceEqDiff, Nat.reduceLT, Z70, Int.reduceEq, Y3, Y5, Y38, Y39, Y41, hs, hpl, o1, tk404]
    · simp only [if_neg hp, decide_eq_false hp, Bool.not_false] at hpl
      have e1 : stV s b = s.sl.getD (placeI s b).toNat 0 := by unfold stV; rw [if_pos ⟨hf, hp⟩]
      have e2 : stE s b = 0 := by unfold stE; rw [if_pos ⟨hf, hp⟩]
      rw [e1, e2]
      obtain ⟨r1, r2⟩ := place_rg s hf b hp
      obtain ⟨k, hk⟩ : ∃ k : Nat, placeI s b = k := ⟨(placeI s b).toNat, by omega⟩
      rw [hk] at hpl r2 ⊢
      have hkl : k < s.sl.length := by omega
      have hk0 : ¬ ((k : Int) < 0) := by omega
      obtain ⟨a, ha, hla⟩ := (h.sv.view []).at (C := cfg) sh39 sz5 ag5 .i64 k (by rw [ints_len]; exact hkl)
      have hl1 := fun τ => hla τ _ (h.sv.view τ)
      simp only [ints_get' hkl] at hl1
      have hin := h.h (s.sl.getD k 0) (by rw [List.getD_eq_getElem?_getD, List.getElem?_eq_getElem hkl]; exact List.getElem_mem hkl)
      have cv := fun (τ : List O) => conv53 (τ := τ) hin
      simp only [SpaceR.v] at *
      simp +contextual (disch := first | omega | exact rfl | decide | exact kpF (by decide) | exact kpT (by decide) | assumption | exact Z2z | exact Z30 | exact Z32 | exact Z31 | exact Z33 | exact Z34 | (simp only [ZI] <;> omega) | simp only [ZK] | (simp only [ZL] <;> assumption)) only [Tryz.f147, ZH, SOp, GOp, ↓Z1c, Int.reduceAdd, Int.reduceSub, Int.reduceMul, Int.reduceNeg, accs, touch, touchM, okPair, Nat.reduceAdd, Nat.reduceLeDiff, Nat.reduceMul, Nat.reduceSub, isV, opA, grdO, grd, Z41, Int.reduceLT, Int.reduceLE, Int.reduceToNat, builtinP, builtinA, changes, fieldAddrA, resA, tupled, ↓reduceIte, Nat.reduceEqDiff, Nat.reduceLT, Z70, Int.reduceEq, Y3, Y5, Y38, Y39, Y41, hs, hpl, o1, tk404, hk0, ha, hl1, cv]
end Go.Am.R2

/- Is a pointer's block one of the volume's, both ways. -/
namespace Go.Am.R2
open Go.Proofs
set_option maxRecDepth 100000
set_option linter.unusedSimpArgs false
set_option linter.unusedVariables false
variable {σ : List O} {p : List Nat}
def okS (s : SpaceR) (x : Int) : Bool := decide (x = -1) || (decide (stE s x = 0) && (decide (stV s x = 1) || decide (stV s x = 2)))
theorem okS_no {s : SpaceR} {x : Int} (h : x ≠ -1) : okS s x = (decide (stE s x = 0) && (decide (stV s x = 1) || decide (stV s x = 2))) := by
  unfold okS; rw [decide_eq_false h]; rfl
theorem owns_ok1 (v : VolR) (h : v.ok) (a b : Int) (z : List Int) (hz : z.length = 32) (ha : -9223372036854775808 ≤ a ∧ a ≤ 9223372036854775807) (hb : -9223372036854775808 ≤ b ∧ b ≤ 9223372036854775807) (a1 : a ≠ -1) (b1 : b ≠ -1) (g1 : stE v.s a = 0) (c2 : stV v.s a = 1) {r : Nat} {st : List Nat} (hr : r < σ.length) (hrow : rowAt σ r st = some v.v) :
    runF cfg 119 [.ptr r st 0, .agg (ptV a b z)] σ p = some (.b (okS v.s b), σ) := by
  refine run_done rfl rfl Tryz.func119 rfl ?_
  have hl := ptV_len (a := a) (b := b) hz
  have sa := fun (τ : List O) q => state2_ok (σ := τ) (p := q) v.s h.s a ha
  have sb := fun (τ : List O) q => state2_ok (σ := τ) (p := q) v.s h.s b hb
  have hrow' : ∀ L, rowAt (σ ++ L) r st = some v.v := fun L => by
    rw [← hrow]; unfold rowAt; rw [List.getElem?_append_left hr]
  simp only [ptV, SpaceR.v, VolR.v] at *
  rw [okS_no b1]
  have c3 : ¬ stV v.s a = 2 := by omega
  generalize stE v.s a = ea at *
  generalize stV v.s a = va at *
  generalize stE v.s b = eb at *
  generalize stV v.s b = vb at *
  subst c2
  by_cases d1 : eb = 0 <;> by_cases d2 : vb = 1 <;> by_cases d3 : vb = 2 <;> first | omega | simp +contextual (disch := first | omega | exact rfl | decide | exact kpF (by decide) | exact kpT (by decide) | assumption | exact Z2z | exact Z30 | exact Z32 | exact Z31 | exact Z33 | exact Z34 | (simp only [ZI] <;> omega) | simp only [ZK] | (simp only [ZL] <;> assumption)) only [Tryz.f119, ZH, SOp, GOp, ↓Z1c, Int.reduceAdd, Int.reduceSub, Int.reduceMul, Int.reduceNeg, accs, touch, touchM, okPair, Nat.reduceAdd, Nat.reduceLeDiff, Nat.reduceMul, Nat.reduceSub, isV, opA, grdO, grd, Z41, Int.reduceLT, Int.reduceLE, Int.reduceToNat, builtinP, builtinA, changes, fieldAddrA, resA, tupled, ↓reduceIte, Nat.reduceEqDiff, Nat.reduceLT, Z70, Int.reduceEq, Y3, Y4, Y5, Y22, Y24, Y31, Y32, Y34, Y35, Y37, Y38, Y39, Y41, Y43, Y48, Wq_loop, loopQ_normal, loopQ_exit, loopQ_ret, ints_one, hrow', derefA, a1, b1, tk64, sa, sb, g1, d1, d2, d3]
theorem owns_ok2 (v : VolR) (h : v.ok) (a b : Int) (z : List Int) (hz : z.length = 32) (ha : -9223372036854775808 ≤ a ∧ a ≤ 9223372036854775807) (hb : -9223372036854775808 ≤ b ∧ b ≤ 9223372036854775807) (a1 : a ≠ -1) (b1 : b ≠ -1) (g1 : stE v.s a = 0) (c2 : stV v.s a = 2) {r : Nat} {st : List Nat} (hr : r < σ.length) (hrow : rowAt σ r st = some v.v) :
    runF cfg 119 [.ptr r st 0, .agg (ptV a b z)] σ p = some (.b (okS v.s b), σ) := by
  refine run_done rfl rfl Tryz.func119 rfl ?_
  have hl := ptV_len (a := a) (b := b) hz
  have sa := fun (τ : List O) q => state2_ok (σ := τ) (p := q) v.s h.s a ha
  have sb := fun (τ : List O) q => state2_ok (σ := τ) (p := q) v.s h.s b hb
  have hrow' : ∀ L, rowAt (σ ++ L) r st = some v.v := fun L => by
    rw [← hrow]; unfold rowAt; rw [List.getElem?_append_left hr]
  simp only [ptV, SpaceR.v, VolR.v] at *
  rw [okS_no b1]
  have c3 : ¬ stV v.s a = 1 := by omega
  generalize stE v.s a = ea at *
  generalize stV v.s a = va at *
  generalize stE v.s b = eb at *
  generalize stV v.s b = vb at *
  subst c2
  by_cases d1 : eb = 0 <;> by_cases d2 : vb = 1 <;> by_cases d3 : vb = 2 <;> first | omega | simp +contextual (disch := first | omega | exact rfl | decide | exact kpF (by decide) | exact kpT (by decide) | assumption | exact Z2z | exact Z30 | exact Z32 | exact Z31 | exact Z33 | exact Z34 | (simp only [ZI] <;> omega) | simp only [ZK] | (simp only [ZL] <;> assumption)) only [Tryz.f119, ZH, SOp, GOp, ↓Z1c, Int.reduceAdd, Int.reduceSub, Int.reduceMul, Int.reduceNeg, accs, touch, touchM, okPair, Nat.reduceAdd, Nat.reduceLeDiff, Nat.reduceMul, Nat.reduceSub, isV, opA, grdO, grd, Z41, Int.reduceLT, Int.reduceLE, Int.reduceToNat, builtinP, builtinA, changes, fieldAddrA, resA, tupled, ↓reduceIte, Nat.reduceEqDiff, Nat.reduceLT, Z70, Int.reduceEq, Y3, Y4, Y5, Y22, Y24, Y31, Y32, Y34, Y35, Y37, Y38, Y39, Y41, Y43, Y48, Wq_loop, loopQ_normal, loopQ_exit, loopQ_ret, ints_one, hrow', derefA, a1, b1, tk64, sa, sb, g1, d1, d2, d3]
theorem owns_ok (v : VolR) (h : v.ok) (a b : Int) (z : List Int) (hz : z.length = 32) (ha : -9223372036854775808 ≤ a ∧ a ≤ 9223372036854775807) (hb : -9223372036854775808 ≤ b ∧ b ≤ 9223372036854775807) {r : Nat} {st : List Nat} (hr : r < σ.length) (hrow : rowAt σ r st = some v.v) :
    runF cfg 119 [.ptr r st 0, .agg (ptV a b z)] σ p = some (.b (okS v.s a && okS v.s b), σ) := by
  by_cases hlast : a ≠ -1 ∧ b ≠ -1 ∧ stE v.s a = 0 ∧ (stV v.s a = 1 ∨ stV v.s a = 2)
  · obtain ⟨a1, b1, g1, g2⟩ := hlast
    have hA : okS v.s a = true := by rw [okS_no a1]; simpa using ⟨g1, g2⟩
    rw [hA, Bool.true_and]
    rcases g2 with g2 | g2
    · exact owns_ok1 v h a b z hz ha hb a1 b1 g1 g2 hr hrow
    · exact owns_ok2 v h a b z hz ha hb a1 b1 g1 g2 hr hrow
  refine run_done rfl rfl Tryz.func119 rfl ?_
  have hl := ptV_len (a := a) (b := b) hz
  have sa := fun (τ : List O) q => state2_ok (σ := τ) (p := q) v.s h.s a ha
  have sb := fun (τ : List O) q => state2_ok (σ := τ) (p := q) v.s h.s b hb
  have hrow' : ∀ L, rowAt (σ ++ L) r st = some v.v := fun L => by
    rw [← hrow]; unfold rowAt; rw [List.getElem?_append_left hr]
  simp only [ptV, SpaceR.v, VolR.v] at *
  by_cases a1 : a = -1
  · by_cases b1 : b = -1
    · have e : (okS v.s a && okS v.s b) = true := by unfold okS; rw [decide_eq_true a1, decide_eq_true b1]; rfl
      rw [e]
      simp +contextual (disch := first | omega | exact rfl | decide | exact kpF (by decide) | exact kpT (by decide) | assumption | exact Z2z | exact Z30 | exact Z32 | exact Z31 | exact Z33 | exact Z34 | (simp only [ZI] <;> omega) | simp only [ZK] | (simp only [ZL] <;> assumption)) only [Tryz.f119, ZH, SOp, GOp, ↓Z1c, Int.reduceAdd, Int.reduceSub, Int.reduceMul, Int.reduceNeg, accs, touch, touchM, okPair, Nat.reduceAdd, Nat.reduceLeDiff, Nat.reduceMul, Nat.reduceSub, isV, opA, grdO, grd, Z41, Int.reduceLT, Int.reduceLE, Int.reduceToNat, builtinP, builtinA, changes, fieldAddrA, resA, tupled, ↓reduceIte, Nat.reduceEqDiff, Nat.reduceLT, Z70, Int.reduceEq, Y3, Y4, Y5, Y22, Y24, Y31, Y32, Y34, Y35, Y37, Y38, Y39, Y41, Y43, Y48, Wq_loop, loopQ_normal, loopQ_exit, loopQ_ret, ints_one, hrow', derefA, a1, b1, tk64]
    · have e : (okS v.s a && okS v.s b) = (decide (stE v.s b = 0) && (decide (stV v.s b = 1) || decide (stV v.s b = 2))) := by rw [okS_no b1]; unfold okS; rw [decide_eq_true a1]; rfl
      rw [e]
      generalize stE v.s b = eb at *
      generalize stV v.s b = vb at *
      by_cases c1 : eb = 0 <;> by_cases c2 : vb = 1 <;> by_cases c3 : vb = 2 <;> first | omega | simp +contextual (disch := first | omega | exact rfl | decide | exact kpF (by decide) | exact kpT (by decide) | assumption | exact Z2z | exact Z30 | exact Z32 | exact Z31 | exact Z33 | exact Z34 | (simp only [ZI] <;> omega) | simp only [ZK] | (simp only [ZL] <;> assumption)) only [Tryz.f119, ZH, SOp, GOp, ↓Z1c, Int.reduceAdd, Int.reduceSub, Int.reduceMul, Int.reduceNeg, accs, touch, touchM, okPair, Nat.reduceAdd, Nat.reduceLeDiff, Nat.reduceMul, Nat.reduceSub, isV, opA, grdO, grd, Z41, Int.reduceLT, Int.reduceLE, Int.reduceToNat, builtinP, builtinA, changes, fieldAddrA, resA, tupled, ↓reduceIte, Nat.reduceEqDiff, Nat.reduceLT, Z70, Int.reduceEq, Y3, Y4, Y5, Y22, Y24, Y31, Y32, Y34, Y35, Y37, Y38, Y39, Y41, Y43, Y48, Wq_loop, loopQ_normal, loopQ_exit, loopQ_ret, ints_one, hrow', derefA, a1, b1, tk64, sb, c1, c2, c3]
  · by_cases ga : stE v.s a = 0 ∧ (stV v.s a = 1 ∨ stV v.s a = 2)
    case neg =>
      have e : (okS v.s a && okS v.s b) = false := by
        rw [okS_no a1]
        have : (decide (stE v.s a = 0) && (decide (stV v.s a = 1) || decide (stV v.s a = 2))) = false := by
          rw [← Bool.not_eq_true]; simpa using ga
        rw [this]; rfl
      rw [e]
      clear hlast
      generalize stE v.s a = ea at *
      generalize stV v.s a = va at *
      by_cases c1 : ea = 0 <;> by_cases c2 : va = 1 <;> by_cases c3 : va = 2 <;> first | omega | simp +contextual (disch := first | omega | exact rfl | decide | exact kpF (by decide) | exact kpT (by decide) | assumption | exact Z2z | exact Z30 | exact Z32 | exact Z31 | exact Z33 | exact Z34 | (simp only [ZI] <;> omega) | simp only [ZK] | (simp only [ZL] <;> assumption)) only [Tryz.f119, ZH, SOp, GOp, ↓Z1c, Int.reduceAdd, Int.reduceSub, Int.reduceMul, Int.reduceNeg, accs, touch, touchM, okPair, Nat.reduceAdd, Nat.reduceLeDiff, Nat.reduceMul, Nat.reduceSub, isV, opA, grdO, grd, Z41, Int.reduceLT, Int.reduceLE, Int.reduceToNat, builtinP, builtinA, changes, fieldAddrA, resA, tupled, ↓reduceIte, Nat.reduceEqDiff, Nat.reduceLT, Z70, Int.reduceEq, Y3, Y4, Y5, Y22, Y24, Y31, Y32, Y34, Y35, Y37, Y38, Y39, Y41, Y43, Y48, Wq_loop, loopQ_normal, loopQ_exit, loopQ_ret, ints_one, hrow', derefA, a1, tk64, sa, c1, c2, c3]
    have hA : okS v.s a = true := by rw [okS_no a1]; simpa using ga
    rw [hA, Bool.true_and]
    obtain ⟨g1, g2⟩ := ga
    by_cases b1 : b = -1
    · have e : okS v.s b = true := by unfold okS; rw [decide_eq_true b1]; rfl
      rw [e]
      clear hlast
      generalize stE v.s a = ea at *
      generalize stV v.s a = va at *
      by_cases c2 : va = 1 <;> by_cases c3 : va = 2 <;> first | omega | simp +contextual (disch := first | omega | exact rfl | decide | exact kpF (by decide) | exact kpT (by decide) | assumption | exact Z2z | exact Z30 | exact Z32 | exact Z31 | exact Z33 | exact Z34 | (simp only [ZI] <;> omega) | simp only [ZK] | (simp only [ZL] <;> assumption)) only [Tryz.f119, ZH, SOp, GOp, ↓Z1c, Int.reduceAdd, Int.reduceSub, Int.reduceMul, Int.reduceNeg, accs, touch, touchM, okPair, Nat.reduceAdd, Nat.reduceLeDiff, Nat.reduceMul, Nat.reduceSub, isV, opA, grdO, grd, Z41, Int.reduceLT, Int.reduceLE, Int.reduceToNat, builtinP, builtinA, changes, fieldAddrA, resA, tupled, ↓reduceIte, Nat.reduceEqDiff, Nat.reduceLT, Z70, Int.reduceEq, Y3, Y4, Y5, Y22, Y24, Y31, Y32, Y34, Y35, Y37, Y38, Y39, Y41, Y43, Y48, Wq_loop, loopQ_normal, loopQ_exit, loopQ_ret, ints_one, hrow', derefA, a1, b1, tk64, sa, g1, c2, c3]
    · exact absurd ⟨a1, b1, g1, g2⟩ hlast
end Go.Am.R2

/- Is a pointer the volume's own. -/
namespace Go.Am.R2
open Go.Proofs
set_option maxRecDepth 100000
set_option linter.unusedSimpArgs false
set_option linter.unusedVariables false
variable {σ : List O} {p : List Nat}
def mineB (v : VolR) (a b : Int) (z : List Int) : Bool := rightV v && (rightB a b z && (okS v.s a && okS v.s b))
theorem mine_ok (v : VolR) (h : v.ok) (a b : Int) (z : List Int) (hz : z.length = 32) (ha : -9223372036854775808 ≤ a ∧ a ≤ 9223372036854775807) (hb : -9223372036854775808 ≤ b ∧ b ≤ 9223372036854775807) :
    runF cfg 96 [.agg v.v, .agg (ptV a b z)] σ p = some (.b (mineB v a b z), σ) := by
  refine run_done rfl rfl Tryz.func96 rfl ?_
  have o1 := h.d.s.one
  have o2 := h.d.c.one
  have o3 := h.m.s.one
  have o4 := h.s.sv.one
  have hl := ptV_len (a := a) (b := b) hz
  have ho := ptV_one (a := a) (b := b) (z := z)
  have tk := take_all hl
  have c1 := fun (τ : List O) q => vol_ok (σ := τ) (p := q) v h
  have c2 := fun (τ : List O) q => right_ok (σ := τ) (p := q) a b z hz
  have c3 : ∀ (L : List O) st q, runF cfg 119 [.ptr σ.length st 0, .agg (ptV a b z)] (σ ++ .cells st v.v :: L) q = some (.b (okS v.s a && okS v.s b), σ ++ .cells st v.v :: L) := fun L st q =>
    owns_ok (σ := σ ++ .cells st v.v :: L) (p := q) v h a b z hz ha hb (by simp) (by rw [rowAt_app0]; simp [rowAt])
  have ov : v.v.all V.one = true := by simp only [VolR.v, List.all_cons, List.all_nil, o1, o2, o3, o4, one_i, one_b]; rfl
  have lv : v.v.length = 10 := rfl
  have tv := take_all lv
  generalize hv : v.v = vv at *
  cases d1 : rightV v with
  | false =>
    rw [d1] at c1
    simp +contextual (disch := first | omega | exact rfl | decide | exact kpF (by decide) | exact kpT (by decide) | assumption | exact Z2z | exact Z30 | exact Z32 | exact Z31 | exact Z33 | exact Z34 | (simp only [ZI] <;> omega) | simp only [ZK] | (simp only [ZL] <;> assumption)) only [Tryz.f96, ZH, SOp, GOp, ↓Z1c, Int.reduceAdd, Int.reduceSub, Int.reduceMul, Int.reduceNeg, accs, touch, touchM, okPair, Nat.reduceAdd, Nat.reduceLeDiff, Nat.reduceMul, Nat.reduceSub, isV, opA, grdO, grd, Z41, Int.reduceLT, Int.reduceLE, Int.reduceToNat, builtinP, builtinA, changes, fieldAddrA, resA, tupled, ↓reduceIte, Nat.reduceEqDiff, Nat.reduceLT, Z70, Int.reduceEq, Y3, Y4, Y5, Y22, Y24, Y31, Y32, Y34, Y35, Y37, Y38, Y39, Y41, Y43, c1, tv, ov, ho, mineB, d1]
  | true =>
    rw [d1] at c1
    cases d2 : rightB a b z with
    | false =>
      rw [d2] at c2
      simp +contextual (disch := first | omega | exact rfl | decide | exact kpF (by decide) | exact kpT (by decide) | assumption | exact Z2z | exact Z30 | exact Z32 | exact Z31 | exact Z33 | exact Z34 | (simp only [ZI] <;> omega) | simp only [ZK] | (simp only [ZL] <;> assumption)) only [Tryz.f96, ZH, SOp, GOp, ↓Z1c, Int.reduceAdd, Int.reduceSub, Int.reduceMul, Int.reduceNeg, accs, touch, touchM, okPair, Nat.reduceAdd, Nat.reduceLeDiff, Nat.reduceMul, Nat.reduceSub, isV, opA, grdO, grd, Z41, Int.reduceLT, Int.reduceLE, Int.reduceToNat, builtinP, builtinA, changes, fieldAddrA, resA, tupled, ↓reduceIte, Nat.reduceEqDiff, Nat.reduceLT, Z70, Int.reduceEq, Y3, Y4, Y5, Y22, Y24, Y31, Y32, Y34, Y35, Y37, Y38, Y39, Y41, Y43, c1, c2, tv, tk, ov, ho, mineB, d1, d2]
    | true =>
      rw [d2] at c2
      simp +contextual (disch := first | omega | exact rfl | decide | exact kpF (by decide) | exact kpT (by decide) | assumption | exact Z2z | exact Z30 | exact Z32 | exact Z31 | exact Z33 | exact Z34 | (simp only [ZI] <;> omega) | simp only [ZK] | (simp only [ZL] <;> assumption)) only [Tryz.f96, ZH, SOp, GOp, ↓Z1c, Int.reduceAdd, Int.reduceSub, Int.reduceMul, Int.reduceNeg, accs, touch, touchM, okPair, Nat.reduceAdd, Nat.reduceLeDiff, Nat.reduceMul, Nat.reduceSub, isV, opA, grdO, grd, Z41, Int.reduceLT, Int.reduceLE, Int.reduceToNat, builtinP, builtinA, changes, fieldAddrA, resA, tupled, ↓reduceIte, Nat.reduceEqDiff, Nat.reduceLT, Z70, Int.reduceEq, Y3, Y4, Y5, Y22, Y24, Y31, Y32, Y34, Y35, Y37, Y38, Y39, Y41, Y43, c1, c2, c3, tv, tk, ov, ho, mineB, d1, d2]
end Go.Am.R2

/- Is a pointer the volume's own, the other way. -/
namespace Go.Am.R2
open Go.Proofs
set_option maxRecDepth 100000
set_option linter.unusedSimpArgs false
set_option linter.unusedVariables false
variable {σ : List O} {p : List Nat}
theorem mine9_no (v : VolR) (h : v.ok) (a b : Int) (z : List Int) (hz : z.length = 32) (ha : -9223372036854775808 ≤ a ∧ a ≤ 9223372036854775807) (hb : -9223372036854775808 ≤ b ∧ b ≤ 9223372036854775807) (hn : (rightV v && rightB a b z) = false) :
    runF cfg 15 [.agg v.v, .agg (ptV a b z)] σ p = some (.b false, σ) := by
  refine run_done rfl rfl Tryz.func15 rfl ?_
  have o1 := h.d.s.one
  have o2 := h.d.c.one
  have o3 := h.m.s.one
  have o4 := h.s.sv.one
  have hl := ptV_len (a := a) (b := b) hz
  have ho := ptV_one (a := a) (b := b) (z := z)
  have tk := take_all hl
  have c1 := fun (τ : List O) q => vol9_ok (σ := τ) (p := q) v h
  have c2 := fun (τ : List O) q => right2_ok (σ := τ) (p := q) a b z hz
  have sa := fun (τ : List O) q => state_ok (σ := τ) (p := q) v.s h.s a ha
  have sb := fun (τ : List O) q => state_ok (σ := τ) (p := q) v.s h.s b hb
  have ov : v.v.all V.one = true := by simp only [VolR.v, List.all_cons, List.all_nil, o1, o2, o3, o4, one_i, one_b]; rfl
  have lv : v.v.length = 10 := rfl
  have tv := take_all lv
  generalize hv : v.v = vv at *
  cases d1 : rightV v with
  | false =>
    rw [d1] at c1
    simp +contextual (disch := first | omega | exact rfl | decide | exact kpF (by decide) | exact kpT (by decide) | assumption | exact Z2z | exact Z30 | exact Z32 | exact Z31 | exact Z33 | exact Z34 | (simp only [ZI] <;> omega) | simp only [ZK] | (simp only [ZL] <;> assumption)) only [Tryz.f15, ZH, SOp, GOp, ↓Z1c, Int.reduceAdd, Int.reduceSub, Int.reduceMul, Int.reduceNeg, accs, touch, touchM, okPair, Nat.reduceAdd, Nat.reduceLeDiff, Nat.reduceMul, Nat.reduceSub, isV, opA, grdO, grd, Z41, Int.reduceLT, Int.reduceLE, Int.reduceToNat, builtinP, builtinA, changes, fieldAddrA, resA, tupled, ↓reduceIte, Nat.reduceEqDiff, Nat.reduceLT, Z70, Int.reduceEq, dr15x8, Y3, Y4, Y5, Y22, Y24, Y31, Y32, Y34, Y35, Y37, Y38, Y39, Y41, Y43, Y48, c1, tv, ov, ho]
  | true =>
    rw [d1] at c1
    have d2 : rightB a b z = false := by rw [d1] at hn; simpa using hn
    rw [d2] at c2
    simp +contextual (disch := first | omega | exact rfl | decide | exact kpF (by decide) | exact kpT (by decide) | assumption | exact Z2z | exact Z30 | exact Z32 | exact Z31 | exact Z33 | exact Z34 | (simp only [ZI] <;> omega) | simp only [ZK] | (simp only [ZL] <;> assumption)) only [Tryz.f15, ZH, SOp, GOp, ↓Z1c, Int.reduceAdd, Int.reduceSub, Int.reduceMul, Int.reduceNeg, accs, touch, touchM, okPair, Nat.reduceAdd, Nat.reduceLeDiff, Nat.reduceMul, Nat.reduceSub, isV, opA, grdO, grd, Z41, Int.reduceLT, Int.reduceLE, Int.reduceToNat, builtinP, builtinA, changes, fieldAddrA, resA, tupled, ↓reduceIte, Nat.reduceEqDiff, Nat.reduceLT, Z70, Int.reduceEq, dr15x8, Y3, Y4, Y5, Y22, Y24, Y31, Y32, Y34, Y35, Y37, Y38, Y39, Y41, Y43, Y48, c1, c2, tv, tk, ov, ho]
end Go.Am.R2

/- Is a pointer the volume's own, the other way: where both are right. -/
namespace Go.Am.R2
open Go.Proofs
set_option maxRecDepth 100000
set_option linter.unusedSimpArgs false
set_option linter.unusedVariables false
variable {σ : List O} {p : List Nat}
theorem mine9_a (v : VolR) (h : v.ok) (a b : Int) (z : List Int) (hz : z.length = 32) (ha : -9223372036854775808 ≤ a ∧ a ≤ 9223372036854775807) (hb : -9223372036854775808 ≤ b ∧ b ≤ 9223372036854775807) (d1 : rightV v = true) (d2 : rightB a b z = true) (a1 : a = -1) (b1 : b = -1) :
    runF cfg 15 [.agg v.v, .agg (ptV a b z)] σ p = some (.b true, σ) := by
  refine run_done rfl rfl Tryz.func15 rfl ?_
  have o1 := h.d.s.one
  have o2 := h.d.c.one
  have o3 := h.m.s.one
  have o4 := h.s.sv.one
  have hl := ptV_len (a := a) (b := b) hz
  have ho := ptV_one (a := a) (b := b) (z := z)
  have tk := take_all hl
  have c1 := fun (τ : List O) q => vol9_ok (σ := τ) (p := q) v h
  have c2 := fun (τ : List O) q => right2_ok (σ := τ) (p := q) a b z hz
  have sa := fun (τ : List O) q => state_ok (σ := τ) (p := q) v.s h.s a ha
  have sb := fun (τ : List O) q => state_ok (σ := τ) (p := q) v.s h.s b hb
  rw [d1] at c1
  rw [d2] at c2
  have tv : take? v.v 0 10 = some v.v := rfl
  subst a1; subst b1
  simp only [ptV, VolR.v, SpaceR.v] at *
  simp +contextual (disch := first | omega | exact rfl | decide | exact kpF (by decide) | exact kpT (by decide) | assumption | exact Z2z | exact Z30 | exact Z32 | exact Z31 | exact Z33 | exact Z34 | (simp only [ZI] <;> omega) | simp only [ZK] | (simp only [ZL] <;> assumption)) only [Tryz.f15, ZH, SOp, GOp, ↓Z1c, Int.reduceAdd, Int.reduceSub, Int.reduceMul, Int.reduceNeg, accs, touch, touchM, okPair, Nat.reduceAdd, Nat.reduceLeDiff, Nat.reduceMul, Nat.reduceSub, isV, opA, grdO, grd, Z41, Int.reduceLT, Int.reduceLE, Int.reduceToNat, builtinP, builtinA, changes, fieldAddrA, resA, tupled, ↓reduceIte, Nat.reduceEqDiff, Nat.reduceLT, Z70, Int.reduceEq, dr15x8, Y3, Y4, Y5, Y22, Y24, Y31, Y32, Y34, Y35, Y37, Y38, Y39, Y41, Y43, Y48, Wq_loop, loopQ_normal, loopQ_exit, loopQ_ret, c1, c2, tv, tk, ints_one, o1, o2, o3, o4, tk64]
end Go.Am.R2

/- Is a pointer the volume's own, the other way: all cases. -/
namespace Go.Am.R2
open Go.Proofs
set_option maxRecDepth 100000
set_option linter.unusedSimpArgs false
set_option linter.unusedVariables false
variable {σ : List O} {p : List Nat}
theorem mine9_b (v : VolR) (h : v.ok) (a b : Int) (z : List Int) (hz : z.length = 32) (ha : -9223372036854775808 ≤ a ∧ a ≤ 9223372036854775807) (hb : -9223372036854775808 ≤ b ∧ b ≤ 9223372036854775807) (d1 : rightV v = true) (d2 : rightB a b z = true) (a1 : a = -1) (b1 : b ≠ -1) :
    runF cfg 15 [.agg v.v, .agg (ptV a b z)] σ p = some (.b (okS v.s b), σ) := by
  refine run_done rfl rfl Tryz.func15 rfl ?_
  have o1 := h.d.s.one
  have o2 := h.d.c.one
  have o3 := h.m.s.one
  have o4 := h.s.sv.one
  have hl := ptV_len (a := a) (b := b) hz
  have ho := ptV_one (a := a) (b := b) (z := z)
  have tk := take_all hl
  have c1 := fun (τ : List O) q => vol9_ok (σ := τ) (p := q) v h
  have c2 := fun (τ : List O) q => right2_ok (σ := τ) (p := q) a b z hz
  have sa := fun (τ : List O) q => state_ok (σ := τ) (p := q) v.s h.s a ha
  have sb := fun (τ : List O) q => state_ok (σ := τ) (p := q) v.s h.s b hb
  rw [d1] at c1
  rw [d2] at c2
  have tv : take? v.v 0 10 = some v.v := rfl
  rw [okS_no b1]
  subst a1
  simp only [ptV, VolR.v, SpaceR.v] at *
  generalize stE v.s b = eb at *
  generalize stV v.s b = vb at *
  by_cases e1 : eb = 0 <;> by_cases e2 : vb = 1 <;> by_cases e3 : vb = 2 <;> first | omega | simp +contextual (disch := first | omega | exact rfl | decide | exact kpF (by decide) | exact kpT (by decide) | assumption | exact Z2z | exact Z30 | exact Z32 | exact Z31 | exact Z33 | exact Z34 | (simp only [ZI] <;> omega) | simp only [ZK] | (simp only [ZL] <;> assumption)) only [Tryz.f15, ZH, SOp, GOp, ↓Z1c, Int.reduceAdd, Int.reduceSub, Int.reduceMul, Int.reduceNeg, accs, touch, touchM, okPair, Nat.reduceAdd, Nat.reduceLeDiff, Nat.reduceMul, Nat.reduceSub, isV, opA, grdO, grd, Z41, Int.reduceLT, Int.reduceLE, Int.reduceToNat, builtinP, builtinA, changes, fieldAddrA, resA, tupled, ↓reduceIte, Nat.reduceEqDiff, Nat.reduceLT, Z70, Int.reduceEq, dr15x8, Y3, Y4, Y5, Y22, Y24, Y31, Y32, Y34, Y35, Y37, Y38, Y39, Y41, Y43, Y48, Wq_loop, loopQ_normal, loopQ_exit, loopQ_ret, c1, c2, tv, tk, ints_one, o1, o2, o3, o4, tk64, sb, b1, e1, e2, e3]
theorem mine9_c (v : VolR) (h : v.ok) (a b : Int) (z : List Int) (hz : z.length = 32) (ha : -9223372036854775808 ≤ a ∧ a ≤ 9223372036854775807) (hb : -9223372036854775808 ≤ b ∧ b ≤ 9223372036854775807) (d1 : rightV v = true) (d2 : rightB a b z = true) (a1 : a ≠ -1) (ga : ¬ (stE v.s a = 0 ∧ (stV v.s a = 1 ∨ stV v.s a = 2))) :
    runF cfg 15 [.agg v.v, .agg (ptV a b z)] σ p = some (.b false, σ) := by
  refine run_done rfl rfl Tryz.func15 rfl ?_
  have o1 := h.d.s.one
  have o2 := h.d.c.one
  have o3 := h.m.s.one
  have o4 := h.s.sv.one
  have hl := ptV_len (a := a) (b := b) hz
  have ho := ptV_one (a := a) (b := b) (z := z)
  have tk := take_all hl
  have c1 := fun (τ : List O) q => vol9_ok (σ := τ) (p := q) v h
  have c2 := fun (τ : List O) q => right2_ok (σ := τ) (p := q) a b z hz
  have sa := fun (τ : List O) q => state_ok (σ := τ) (p := q) v.s h.s a ha
  have sb := fun (τ : List O) q => state_ok (σ := τ) (p := q) v.s h.s b hb
  rw [d1] at c1
  rw [d2] at c2
  have tv : take? v.v 0 10 = some v.v := rfl
  simp only [ptV, VolR.v, SpaceR.v] at *
  generalize stE v.s a = ea at *
  generalize stV v.s a = va at *
  by_cases e1 : ea = 0 <;> by_cases e2 : va = 1 <;> by_cases e3 : va = 2 <;> first | omega | simp +contextual (disch := first | omega | exact rfl | decide | exact kpF (by decide) | exact kpT (by decide) | assumption | exact Z2z | exact Z30 | exact Z32 | exact Z31 | exact Z33 | exact Z34 | (simp only [ZI] <;> omega) | simp only [ZK] | (simp only [ZL] <;> assumption)) only [Tryz.f15, ZH, SOp, GOp, ↓Z1c, Int.reduceAdd, Int.reduceSub, Int.reduceMul, Int.reduceNeg, accs, touch, touchM, okPair, Nat.reduceAdd, Nat.reduceLeDiff, Nat.reduceMul, Nat.reduceSub, isV, opA, grdO, grd, Z41, Int.reduceLT, Int.reduceLE, Int.reduceToNat, builtinP, builtinA, changes, fieldAddrA, resA, tupled, ↓reduceIte, Nat.reduceEqDiff, Nat.reduceLT, Z70, Int.reduceEq, dr15x8, Y3, Y4, Y5, Y22, Y24, Y31, Y32, Y34, Y35, Y37, Y38, Y39, Y41, Y43, Y48, Wq_loop, loopQ_normal, loopQ_exit, loopQ_ret, c1, c2, tv, tk, ints_one, o1, o2, o3, o4, tk64, sa, a1, e1, e2, e3]
theorem mine9_d1 (v : VolR) (h : v.ok) (a b : Int) (z : List Int) (hz : z.length = 32) (ha : -9223372036854775808 ≤ a ∧ a ≤ 9223372036854775807) (hb : -9223372036854775808 ≤ b ∧ b ≤ 9223372036854775807) (d1 : rightV v = true) (d2 : rightB a b z = true) (a1 : a ≠ -1) (b1 : b = -1) (g1 : stE v.s a = 0) (g2 : stV v.s a = 1) :
    runF cfg 15 [.agg v.v, .agg (ptV a b z)] σ p = some (.b true, σ) := by
  refine run_done rfl rfl Tryz.func15 rfl ?_
  have o1 := h.d.s.one
  have o2 := h.d.c.one
  have o3 := h.m.s.one
  have o4 := h.s.sv.one
  have hl := ptV_len (a := a) (b := b) hz
  have ho := ptV_one (a := a) (b := b) (z := z)
  have tk := take_all hl
  have c1 := fun (τ : List O) q => vol9_ok (σ := τ) (p := q) v h
  have c2 := fun (τ : List O) q => right2_ok (σ := τ) (p := q) a b z hz
  have sa := fun (τ : List O) q => state_ok (σ := τ) (p := q) v.s h.s a ha
  have sb := fun (τ : List O) q => state_ok (σ := τ) (p := q) v.s h.s b hb
  rw [d1] at c1
  rw [d2] at c2
  have tv : take? v.v 0 10 = some v.v := rfl
  subst b1
  simp only [ptV, VolR.v, SpaceR.v] at *
  simp +contextual (disch := first | omega | exact rfl | decide | exact kpF (by decide) | exact kpT (by decide) | assumption | exact Z2z | exact Z30 | exact Z32 | exact Z31 | exact Z33 | exact Z34 | (simp only [ZI] <;> omega) | simp only [ZK] | (simp only [ZL] <;> assumption)) only [Tryz.f15, ZH, SOp, GOp, ↓Z1c, Int.reduceAdd, Int.reduceSub, Int.reduceMul, Int.reduceNeg, accs, touch, touchM, okPair, Nat.reduceAdd, Nat.reduceLeDiff, Nat.reduceMul, Nat.reduceSub, isV, opA, grdO, grd, Z41, Int.reduceLT, Int.reduceLE, Int.reduceToNat, builtinP, builtinA, changes, fieldAddrA, resA, tupled, ↓reduceIte, Nat.reduceEqDiff, Nat.reduceLT, Z70, Int.reduceEq, dr15x8, Y3, Y4, Y5, Y22, Y24, Y31, Y32, Y34, Y35, Y37, Y38, Y39, Y41, Y43, Y48, Wq_loop, loopQ_normal, loopQ_exit, loopQ_ret, c1, c2, tv, tk, ints_one, o1, o2, o3, o4, tk64, sa, a1, g1, g2]
theorem mine9_e1 (v : VolR) (h : v.ok) (a b : Int) (z : List Int) (hz : z.length = 32) (ha : -9223372036854775808 ≤ a ∧ a ≤ 9223372036854775807) (hb : -9223372036854775808 ≤ b ∧ b ≤ 9223372036854775807) (d1 : rightV v = true) (d2 : rightB a b z = true) (a1 : a ≠ -1) (b1 : b ≠ -1) (g1 : stE v.s a = 0) (g2 : stV v.s a = 1) :
    runF cfg 15 [.agg v.v, .agg (ptV a b z)] σ p = some (.b (okS v.s b), σ) := by
  refine run_done rfl rfl Tryz.func15 rfl ?_
  have o1 := h.d.s.one
  have o2 := h.d.c.one
  have o3 := h.m.s.one
  have o4 := h.s.sv.one
  have hl := ptV_len (a := a) (b := b) hz
  have ho := ptV_one (a := a) (b := b) (z := z)
  have tk := take_all hl
  have c1 := fun (τ : List O) q => vol9_ok (σ := τ) (p := q) v h
  have c2 := fun (τ : List O) q => right2_ok (σ := τ) (p := q) a b z hz
  have sa := fun (τ : List O) q => state_ok (σ := τ) (p := q) v.s h.s a ha
  have sb := fun (τ : List O) q => state_ok (σ := τ) (p := q) v.s h.s b hb
  rw [d1] at c1
  rw [d2] at c2
  have tv : take? v.v 0 10 = some v.v := rfl
  rw [okS_no b1]
  simp only [ptV, VolR.v, SpaceR.v] at *
  generalize stE v.s a = ea at *
  generalize stV v.s a = va at *
  generalize stE v.s b = eb at *
  generalize stV v.s b = vb at *
  subst g1; subst g2
  by_cases e1 : eb = 0 <;> by_cases e2 : vb = 1 <;> by_cases e3 : vb = 2 <;> first | omega | simp +contextual (disch := first | omega | exact rfl | decide | exact kpF (by decide) | exact kpT (by decide) | assumption | exact Z2z | exact Z30 | exact Z32 | exact Z31 | exact Z33 | exact Z34 | (simp only [ZI] <;> omega) | simp only [ZK] | (simp only [ZL] <;> assumption)) only [Tryz.f15, ZH, SOp, GOp, ↓Z1c, Int.reduceAdd, Int.reduceSub, Int.reduceMul, Int.reduceNeg, accs, touch, touchM, okPair, Nat.reduceAdd, Nat.reduceLeDiff, Nat.reduceMul, Nat.reduceSub, isV, opA, grdO, grd, Z41, Int.reduceLT, Int.reduceLE, Int.reduceToNat, builtinP, builtinA, changes, fieldAddrA, resA, tupled, ↓reduceIte, Nat.reduceEqDiff, Nat.reduceLT, Z70, Int.reduceEq, dr15x8, Y3, Y4, Y5, Y22, Y24, Y31, Y32, Y34, Y35, Y37, Y38, Y39, Y41, Y43, Y48, Wq_loop, loopQ_normal, loopQ_exit, loopQ_ret, c1, c2, tv, tk, ints_one, o1, o2, o3, o4, tk64, sa, sb, a1, b1, e1, e2, e3]
theorem mine9_d2 (v : VolR) (h : v.ok) (a b : Int) (z : List Int) (hz : z.length = 32) (ha : -9223372036854775808 ≤ a ∧ a ≤ 9223372036854775807) (hb : -9223372036854775808 ≤ b ∧ b ≤ 9223372036854775807) (d1 : rightV v = true) (d2 : rightB a b z = true) (a1 : a ≠ -1) (b1 : b = -1) (g1 : stE v.s a = 0) (g2 : stV v.s a = 2) :
    runF cfg 15 [.agg v.v, .agg (ptV a b z)] σ p = some (.b true, σ) := by
  refine run_done rfl rfl Tryz.func15 rfl ?_
  have o1 := h.d.s.one
  have o2 := h.d.c.one
  have o3 := h.m.s.one
  have o4 := h.s.sv.one
  have hl := ptV_len (a := a) (b := b) hz
  have ho := ptV_one (a := a) (b := b) (z := z)
  have tk := take_all hl
  have c1 := fun (τ : List O) q => vol9_ok (σ := τ) (p := q) v h
  have c2 := fun (τ : List O) q => right2_ok (σ := τ) (p := q) a b z hz
  have sa := fun (τ : List O) q => state_ok (σ := τ) (p := q) v.s h.s a ha
  have sb := fun (τ : List O) q => state_ok (σ := τ) (p := q) v.s h.s b hb
  rw [d1] at c1
  rw [d2] at c2
  have tv : take? v.v 0 10 = some v.v := rfl
  subst b1
  simp only [ptV, VolR.v, SpaceR.v] at *
  simp +contextual (disch := first | omega | exact rfl | decide | exact kpF (by decide) | exact kpT (by decide) | assumption | exact Z2z | exact Z30 | exact Z32 | exact Z31 | exact Z33 | exact Z34 | (simp only [ZI] <;> omega) | simp only [ZK] | (simp only [ZL] <;> assumption)) only [Tryz.f15, ZH, SOp, GOp, ↓Z1c, Int.reduceAdd, Int.reduceSub, Int.reduceMul, Int.reduceNeg, accs, touch, touchM, okPair, Nat.reduceAdd, Nat.reduceLeDiff, Nat.reduceMul, Nat.reduceSub, isV, opA, grdO, grd, Z41, Int.reduceLT, Int.reduceLE, Int.reduceToNat, builtinP, builtinA, changes, fieldAddrA, resA, tupled, ↓reduceIte, Nat.reduceEqDiff, Nat.reduceLT, Z70, Int.reduceEq, dr15x8, Y3, Y4, Y5, Y22, Y24, Y31, Y32, Y34, Y35, Y37, Y38, Y39, Y41, Y43, Y48, Wq_loop, loopQ_normal, loopQ_exit, loopQ_ret, c1, c2, tv, tk, ints_one, o1, o2, o3, o4, tk64, sa, a1, g1, g2]
theorem mine9_e2 (v : VolR) (h : v.ok) (a b : Int) (z : List Int) (hz : z.length = 32) (ha : -9223372036854775808 ≤ a ∧ a ≤ 9223372036854775807) (hb : -9223372036854775808 ≤ b ∧ b ≤ 9223372036854775807) (d1 : rightV v = true) (d2 : rightB a b z = true) (a1 : a ≠ -1) (b1 : b ≠ -1) (g1 : stE v.s a = 0) (g2 : stV v.s a = 2) :
    runF cfg 15 [.agg v.v, .agg (ptV a b z)] σ p = some (.b (okS v.s b), σ) := by
  refine run_done rfl rfl Tryz.func15 rfl ?_
  have o1 := h.d.s.one
  have o2 := h.d.c.one
  have o3 := h.m.s.one
  have o4 := h.s.sv.one
  have hl := ptV_len (a := a) (b := b) hz
  have ho := ptV_one (a := a) (b := b) (z := z)
  have tk := take_all hl
  have c1 := fun (τ : List O) q => vol9_ok (σ := τ) (p := q) v h
  have c2 := fun (τ : List O) q => right2_ok (σ := τ) (p := q) a b z hz
  have sa := fun (τ : List O) q => state_ok (σ := τ) (p := q) v.s h.s a ha
  have sb := fun (τ : List O) q => state_ok (σ := τ) (p := q) v.s h.s b hb
  rw [d1] at c1
  rw [d2] at c2
  have tv : take? v.v 0 10 = some v.v := rfl
  rw [okS_no b1]
  simp only [ptV, VolR.v, SpaceR.v] at *
  generalize stE v.s a = ea at *
  generalize stV v.s a = va at *
  generalize stE v.s b = eb at *
  generalize stV v.s b = vb at *
  subst g1; subst g2
  by_cases e1 : eb = 0 <;> by_cases e2 : vb = 1 <;> by_cases e3 : vb = 2 <;> first | omega | simp +contextual (disch := first | omega | exact rfl | decide | exact kpF (by decide) | exact kpT (by decide) | assumption | exact Z2z | exact Z30 | exact Z32 | exact Z31 | exact Z33 | exact Z34 | (simp only [ZI] <;> omega) | simp only [ZK] | (simp only [ZL] <;> assumption)) only [Tryz.f15, ZH, SOp, GOp, ↓Z1c, Int.reduceAdd, Int.reduceSub, Int.reduceMul, Int.reduceNeg, accs, touch, touchM, okPair, Nat.reduceAdd, Nat.reduceLeDiff, Nat.reduceMul, Nat.reduceSub, isV, opA, grdO, grd, Z41, Int.reduceLT, Int.reduceLE, Int.reduceToNat, builtinP, builtinA, changes, fieldAddrA, resA, tupled, ↓reduceIte, Nat.reduceEqDiff, Nat.reduceLT, Z70, Int.reduceEq, dr15x8, Y3, Y4, Y5, Y22, Y24, Y31, Y32, Y34, Y35, Y37, Y38, Y39, Y41, Y43, Y48, Wq_loop, loopQ_normal, loopQ_exit, loopQ_ret, c1, c2, tv, tk, ints_one, o1, o2, o3, o4, tk64, sa, sb, a1, b1, e1, e2, e3]
theorem mine9_ok (v : VolR) (h : v.ok) (a b : Int) (z : List Int) (hz : z.length = 32) (ha : -9223372036854775808 ≤ a ∧ a ≤ 9223372036854775807) (hb : -9223372036854775808 ≤ b ∧ b ≤ 9223372036854775807) :
    runF cfg 15 [.agg v.v, .agg (ptV a b z)] σ p = some (.b (mineB v a b z), σ) := by
  unfold mineB
  by_cases hn : (rightV v && rightB a b z) = false
  · rw [mine9_no v h a b z hz ha hb hn, ← Bool.and_assoc, hn]; rfl
  · have hy : (rightV v && rightB a b z) = true := by simpa using hn
    have hy' := Bool.and_eq_true_iff.1 hy
    rw [← Bool.and_assoc, hy, Bool.true_and]
    by_cases a1 : a = -1
    · have eA : okS v.s a = true := by unfold okS; rw [decide_eq_true a1]; rfl
      rw [eA, Bool.true_and]
      by_cases b1 : b = -1
      · have eB : okS v.s b = true := by unfold okS; rw [decide_eq_true b1]; rfl
        rw [eB]
        exact mine9_a v h a b z hz ha hb hy'.1 hy'.2 a1 b1
      · exact mine9_b v h a b z hz ha hb hy'.1 hy'.2 a1 b1
    · by_cases ga : stE v.s a = 0 ∧ (stV v.s a = 1 ∨ stV v.s a = 2)
      · have eA : okS v.s a = true := by rw [okS_no a1]; simpa using ga
        rw [eA, Bool.true_and]
        obtain ⟨g1, g2⟩ := ga
        by_cases b1 : b = -1
        · have eB : okS v.s b = true := by unfold okS; rw [decide_eq_true b1]; rfl
          rw [eB]
          rcases g2 with g2 | g2
          · exact mine9_d1 v h a b z hz ha hb hy'.1 hy'.2 a1 b1 g1 g2
          · exact mine9_d2 v h a b z hz ha hb hy'.1 hy'.2 a1 b1 g1 g2
        · rcases g2 with g2 | g2
          · exact mine9_e1 v h a b z hz ha hb hy'.1 hy'.2 a1 b1 g1 g2
          · exact mine9_e2 v h a b z hz ha hb hy'.1 hy'.2 a1 b1 g1 g2
      · have eA : okS v.s a = false := by
          rw [okS_no a1, ← Bool.not_eq_true]; simpa using ga
        rw [eA, Bool.false_and]
        exact mine9_c v h a b z hz ha hb hy'.1 hy'.2 a1 ga
end Go.Am.R2

/- Stems on a volume: whose are they? -/
namespace Go.Am.R2
open Go.Proofs
set_option maxRecDepth 100000
set_option linter.unusedSimpArgs false
set_option linter.unusedVariables false
variable {σ : List O} {p : List Nat}
theorem np_none {op : BinOp} {t : TypeId} {x y : Operand} {r o : Nat} {st : List Nat} {v : V} : binA cfg op t x y (.ptr r st o) v = none := rfl
theorem np51 {r o : Nat} {st : List Nat} : eqNilA cfg .neq 51 (.ptr r st o) .nilp = some (.b true) := by
  rw [eqNilA, if_pos (show oneNil cfg 51 (.ptr r st o) .nilp = true by kernel_rfl)]
theorem np56 {r o : Nat} {st : List Nat} : eqNilA cfg .eql 56 (.ptr r st o) .nilp = some (.b false) := by
  rw [eqNilA, if_pos (show oneNil cfg 56 (.ptr r st o) .nilp = true by kernel_rfl)]
theorem ours_no (v : VolR) (h : v.ok) {cs : List V} {a b c d : Int} {z : List Int} (hs : StemAt cs a b z c d) (ha : -9223372036854775808 ≤ a ∧ a ≤ 9223372036854775807) (hb : -9223372036854775808 ≤ b ∧ b ≤ 9223372036854775807) {r : Nat} {st : List Nat} (hr : r < σ.length) (hrow : rowAt σ r st = some v.v) (hn : (stemB a b z c d && mineB v a b z) = false) :
    runF cfg 50 [.ptr r st 0, .agg cs] σ p = some (.b false, σ) := by
  refine run_done rfl rfl Tryz.func50 rfl ?_
  have o1 := h.d.s.one
  have o2 := h.d.c.one
  have o3 := h.m.s.one
  have o4 := h.s.sv.one
  have tk := hs.tk
  have t36 : take? cs 0 36 = some cs := take_all hs.len
  have tp := take_all (ptV_len (a := a) (b := b) hs.z)
  have op := ptV_one (a := a) (b := b) (z := z)
  have ho := hs.one
  have hrow' : ∀ L, rowAt (σ ++ L) r st = some v.v := fun L => by
    rw [← hrow]; unfold rowAt; rw [List.getElem?_append_left hr]
  have c1 := fun (τ : List O) q => stem_ok (σ := τ) (p := q) hs
  have c2 := fun (τ : List O) q => mine_ok (σ := τ) (p := q) v h a b z hs.z ha hb
  have ov : v.v.all V.one = true := by simp only [VolR.v, List.all_cons, List.all_nil, o1, o2, o3, o4, one_i, one_b]; rfl
  have lv : v.v.length = 10 := rfl
  have tv := take_all lv
  generalize hv : v.v = vv at *
  cases e : stemB a b z c d with
  | false =>
    rw [e] at c1
    simp +contextual (disch := first | omega | exact rfl | decide | exact kpF (by decide) | exact kpT (by decide) | assumption | exact Z2z | exact Z30 | exact Z32 | exact Z31 | exact Z33 | exact Z34 | (simp only [ZI] <;> omega) | simp only [ZK] | (simp only [ZL] <;> assumption)) only [Tryz.f50, ZH, SOp, GOp, ↓Z1c, Int.reduceAdd, Int.reduceSub, Int.reduceMul, Int.reduceNeg, accs, touch, touchM, okPair, Nat.reduceAdd, Nat.reduceLeDiff, Nat.reduceMul, Nat.reduceSub, isV, opA, grdO, grd, Z41, Int.reduceLT, Int.reduceLE, Int.reduceToNat, builtinP, builtinA, changes, fieldAddrA, resA, tupled, ↓reduceIte, Nat.reduceEqDiff, Nat.reduceLT, Z70, Int.reduceEq, dr50x1, Y3, Y4, Y5, Y22, Y24, Y26, Y31, Y32, Y34, Y35, Y37, Y38, Y39, Y41, Y43, Y51, derefA, np_none, np51, c1, ho, t36, ov]
  | true =>
    rw [e] at c1
    have e2 : mineB v a b z = false := by rw [e] at hn; simpa using hn
    rw [e2] at c2
    simp +contextual (disch := first | omega | exact rfl | decide | exact kpF (by decide) | exact kpT (by decide) | assumption | exact Z2z | exact Z30 | exact Z32 | exact Z31 | exact Z33 | exact Z34 | (simp only [ZI] <;> omega) | simp only [ZK] | (simp only [ZL] <;> assumption)) only [Tryz.f50, ZH, SOp, GOp, ↓Z1c, Int.reduceAdd, Int.reduceSub, Int.reduceMul, Int.reduceNeg, accs, touch, touchM, okPair, Nat.reduceAdd, Nat.reduceLeDiff, Nat.reduceMul, Nat.reduceSub, isV, opA, grdO, grd, Z41, Int.reduceLT, Int.reduceLE, Int.reduceToNat, builtinP, builtinA, changes, fieldAddrA, resA, tupled, ↓reduceIte, Nat.reduceEqDiff, Nat.reduceLT, Z70, Int.reduceEq, dr50x1, Y3, Y4, Y5, Y22, Y24, Y26, Y31, Y32, Y34, Y35, Y37, Y38, Y39, Y41, Y43, Y51, derefA, np_none, np51, c1, c2, ho, t36, tk, tp, tv, op, ov, hrow']
end Go.Am.R2

/- Stems on a volume: what is not its own is refused. -/
namespace Go.Am.R2
open Go.Proofs
set_option maxRecDepth 100000
set_option linter.unusedSimpArgs false
set_option linter.unusedVariables false
variable {σ : List O} {p : List Nat}
def zeros128 : List V := List.replicate 128 (.i .u8 0)
section
variable (v : VolR) (h : v.ok) {cs : List V} {a b c d : Int} {z : List Int} (hs : StemAt cs a b z c d) (ha : -9223372036854775808 ≤ a ∧ a ≤ 9223372036854775807) (hb : -9223372036854775808 ≤ b ∧ b ≤ 9223372036854775807) {r : Nat} {st : List Nat} (hr : r < σ.length) (hrow : rowAt σ r st = some v.v) (hn : (stemB a b z c d && mineB v a b z) = false)
include h hs ha hb hr hrow hn
variable {w : Nat} {ws : List Nat} (hw : w < σ.length) (hw' : rowAt σ w ws = some cs)
include hw hw'
theorem recopy_no (n : Int) : runF cfg 21 [.ptr r st 0, .ptr w ws 0, .i .i64 n] σ p = some (.i .i64 1, σ) := by
  refine run_done rfl rfl Tryz.func21 rfl ?_
  have t36 : take? cs 0 36 = some cs := take_all hs.len
  have ho := hs.one
  have hrow' : ∀ L, rowAt (σ ++ L) r st = some v.v := fun L => by
    rw [← hrow]; unfold rowAt; rw [List.getElem?_append_left hr]
  have hrw : ∀ L, rowAt (σ ++ L) w ws = some cs := fun L => by
    rw [← hw']; unfold rowAt; rw [List.getElem?_append_left hw]
  have c1 : ∀ L q, runF cfg 50 [.ptr r st 0, .agg cs] (σ ++ L) q = some (.b false, σ ++ L) := fun L q => ours_no v h hs ha hb (by simp; omega) (hrow' L) hn
  simp +contextual (disch := first | omega | exact rfl | decide | exact kpF (by decide) | exact kpT (by decide) | assumption | exact Z2z | exact Z30 | exact Z32 | exact Z31 | exact Z33 | exact Z34 | (simp only [ZI] <;> omega) | simp only [ZK] | (simp only [ZL] <;> assumption)) only [Tryz.f21, ZH, SOp, GOp, ↓Z1c, Int.reduceAdd, Int.reduceSub, Int.reduceMul, Int.reduceNeg, accs, touch, touchM, okPair, Nat.reduceAdd, Nat.reduceLeDiff, Nat.reduceMul, Nat.reduceSub, isV, opA, grdO, grd, Z41, Int.reduceLT, Int.reduceLE, Int.reduceToNat, builtinP, builtinA, changes, fieldAddrA, resA, tupled, ↓reduceIte, Nat.reduceEqDiff, Nat.reduceLT, Z70, Int.reduceEq, dr21x1, dr21x3, Y3, Y22, Y24, Y26, Y34, Y37, Y41, Y43, Y51, Y56, derefA, np_none, np56, c1, ho, t36, hrw]
end
end Go.Am.R2

/- Flows on a volume that isn't right, of a stem that isn't its own: all is refused. -/
namespace Go.Am.R2
open Go.Proofs
set_option maxRecDepth 100000
set_option linter.unusedSimpArgs false
set_option linter.unusedVariables false
variable {σ : List O} {p : List Nat}
theorem np56' {r o : Nat} {st : List Nat} : eqNilA cfg .eql 51 (.ptr r st o) .nilp = some (.b false) := by
  rw [eqNilA, if_pos (show oneNil cfg 51 (.ptr r st o) .nilp = true by kernel_rfl)]
theorem dr70x3 {p : List Nat} {s : St} {Q : Ex → St → Prop} (l : List Oper) : Wq cfg 70 p (.region 3 l.toArray true) s Q = OptQ (preObjs cfg p s.c 0 l) fun objs => TrXQ cfg p l.toArray s.σ.length s.c 0 l ⟨s.t, s.nt, s.σ ++ objs, s.c + objs.length⟩ [] fun tr s' => (([(9, 6)] : List (Nat × Nat)).all (okPair tr) && slotsOk s.σ.length tr 0 objs [9, 9]) = true ∧ Q .normal s' := Wp_drawY 3 l (show cfg.pre 70 3 = some [9, 9] from rfl) (show cfg.cls 70 3 = [(9, 6)] from rfl)
section
variable (v : VolR) (h : v.ok) {cs : List V} {a b c d : Int} {z : List Int} (hs : StemAt cs a b z c d) (ha : -9223372036854775808 ≤ a ∧ a ≤ 9223372036854775807) (hb : -9223372036854775808 ≤ b ∧ b ≤ 9223372036854775807) {r : Nat} {st : List Nat} (hr : r < σ.length) (hrow : rowAt σ r st = some v.v) (hn : (stemB a b z c d && mineB v a b z) = false)
include h hs ha hb hr hrow hn
theorem asked_no : runF cfg 68 [.ptr r st 0, .agg cs] σ p = some (.i .i64 1, σ) := by
  refine run_done rfl rfl Tryz.func68 rfl ?_
  have ho := hs.one
  have g35 := hs.g35
  have c1 : ∀ q q2 n, runF cfg 21 [.ptr r st 0, .ptr σ.length q2 0, .i .i64 n] (σ ++ [.cells q2 cs]) q = some (.i .i64 1, σ ++ [.cells q2 cs]) := fun q q2 n =>
    recopy_no v h hs ha hb (by simp; omega) (by rw [← hrow]; unfold rowAt; rw [List.getElem?_append_left hr]) hn (w := σ.length) (ws := q2) (by simp) (by rw [rowAt_app0]; simp [rowAt]) n
  simp +contextual (disch := first | omega | exact rfl | decide | exact kpF (by decide) | exact kpT (by decide) | assumption | exact Z2z | exact Z30 | exact Z32 | exact Z31 | exact Z33 | exact Z34 | (simp only [ZI] <;> omega) | simp only [ZK] | (simp only [ZL] <;> assumption)) only [Tryz.f68, ZH, SOp, GOp, ↓Z1c, Int.reduceAdd, Int.reduceSub, Int.reduceMul, Int.reduceNeg, accs, touch, touchM, okPair, Nat.reduceAdd, Nat.reduceLeDiff, Nat.reduceMul, Nat.reduceSub, isV, opA, grdO, grd, Z41, Int.reduceLT, Int.reduceLE, Int.reduceToNat, builtinP, builtinA, changes, fieldAddrA, resA, tupled, ↓reduceIte, Nat.reduceEqDiff, Nat.reduceLT, Z70, Int.reduceEq, Y3, Y22, Y24, Y26, derefA, c1, ho, g35]
theorem read_no (x y : Int) : runF cfg 25 [.ptr r st 0, .agg cs, .i .i64 x, .i .i64 y] σ p = some (.tup [.nils, .i .i64 1], σ) := by
  refine run_done rfl rfl Tryz.func25 rfl ?_
  have t36 : take? cs 0 36 = some cs := take_all hs.len
  have ho := hs.one
  have hrow' : ∀ L, rowAt (σ ++ L) r st = some v.v := fun L => by
    rw [← hrow]; unfold rowAt; rw [List.getElem?_append_left hr]
  have c1 : ∀ L q, runF cfg 68 [.ptr r st 0, .agg cs] (σ ++ L) q = some (.i .i64 1, σ ++ L) := fun L q => asked_no v h hs ha hb (by simp; omega) (hrow' L) hn
  by_cases h1 : x < 0 <;> by_cases h2 : y < 0 <;> simp +contextual (disch := first | omega | exact rfl | decide | exact kpF (by decide) | exact kpT (by decide) | assumption | exact Z2z | exact Z30 | exact Z32 | exact Z31 | exact Z33 | exact Z34 | (simp only [ZI] <;> omega) | simp only [ZK] | (simp only [ZL] <;> assumption)) only [Tryz.f25, ZH, SOp, GOp, ↓Z1c, Int.reduceAdd, Int.reduceSub, Int.reduceMul, Int.reduceNeg, accs, touch, touchM, okPair, Nat.reduceAdd, Nat.reduceLeDiff, Nat.reduceMul, Nat.reduceSub, isV, opA, grdO, grd, Z41, Int.reduceLT, Int.reduceLE, Int.reduceToNat, builtinP, builtinA, changes, fieldAddrA, resA, tupled, ↓reduceIte, Nat.reduceEqDiff, Nat.reduceLT, Z70, Int.reduceEq, dr25x15, Y3, Y5, Y22, Y24, Y26, Y34, Y37, Y39, Y41, Y43, Y47, Y48, Y51, Y112, derefA, c1, ho, t36, h1, h2]
variable {w : Nat} {ws : List Nat} (hw : w < σ.length) (hw' : rowAt σ w ws = some cs)
include hw'
variable {b0 b1 : Nat} {s0 s1 : List Nat} (k0 : b0 < σ.length) (k0' : rowAt σ b0 s0 = some [.ptr r st 0]) (k1 : b1 < σ.length) (k1' : rowAt σ b1 s1 = some [.ptr w ws 0])
include k0' k1'
theorem wr_no (x y : V) : runF cfg 71 [.ptr b0 s0 0, .ptr b1 s1 0, x, y] σ p = some (.i .i64 1, σ) := by
  refine run_done rfl rfl Tryz.func71 rfl ?_
  have t36 : take? cs 0 36 = some cs := take_all hs.len
  have c1 : ∀ q, runF cfg 68 [.ptr r st 0, .agg cs] σ q = some (.i .i64 1, σ) := fun q => asked_no v h hs ha hb hr hrow hn
  simp +contextual (disch := first | omega | exact rfl | decide | exact kpF (by decide) | exact kpT (by decide) | assumption | exact Z2z | exact Z30 | exact Z32 | exact Z31 | exact Z33 | exact Z34 | (simp only [ZI] <;> omega) | simp only [ZK] | (simp only [ZL] <;> assumption)) only [Tryz.f71, ZH, SOp, GOp, ↓Z1c, Int.reduceAdd, Int.reduceSub, Int.reduceMul, Int.reduceNeg, accs, touch, touchM, okPair, Nat.reduceAdd, Nat.reduceLeDiff, Nat.reduceMul, Nat.reduceSub, isV, opA, grdO, grd, Z41, Int.reduceLT, Int.reduceLE, Int.reduceToNat, builtinP, builtinA, changes, fieldAddrA, resA, tupled, ↓reduceIte, Nat.reduceEqDiff, Nat.reduceLT, Z70, Int.reduceEq, dr71x1, Y3, Y5, Y22, Y24, Y26, Y34, Y37, Y39, Y41, Y43, Y48, Y51, Y56, derefA, c1, t36, hw', k0', k1']
end
end Go.Am.R2

/- What is guarded and refused changes nothing. -/
namespace Go.Am.R2
open Go.Proofs
set_option maxRecDepth 100000
set_option linter.unusedSimpArgs false
set_option linter.unusedVariables false
variable {σ : List O} {p : List Nat}
theorem set_same {σ : List O} {r : Nat} {st : List Nat} {cs : List V} (h : rowAt σ r st = some cs) (hr : r < σ.length) (L : List O) : (σ ++ L).set r (.cells st cs) = σ ++ L := by
  have hrow := rowAt_some h
  refine List.ext_getElem? fun i => ?_
  rw [List.getElem?_set]
  split
  · rename_i e; subst e
    rw [if_pos (by simp; omega), List.getElem?_append_left hr, hrow]
  · rfl
theorem SCall_fnL {C : Cfg} {s : St} {K : St → Prop} {d : Option Nat} {f : Nat} {caps : List V} : SCall C p d (.fn f [] caps) [] s K = OptQ (runF C f caps s.σ (s.c :: p)) fun r => K ((⟨s.t, s.nt, r.2, s.c + 1⟩ : St).put d r.1) := rfl
theorem guard_no (v : VolR) (h : v.ok) {cs : List V} {a b c d : Int} {z : List Int} (hs : StemAt cs a b z c d) {r w : Nat} {st ws : List Nat} (hr : r < σ.length) (hrow : rowAt σ r st = some v.v) (hw : w < σ.length) (hw' : rowAt σ w ws = some cs)
    (f1 : Nat) (caps : List V) (hclo : ∀ L q, runF cfg f1 caps (σ ++ L) q = some (.i .i64 1, σ ++ L)) : runF cfg 70 [.ptr r st 0, .ptr w ws 0, .fn f1 [] caps] σ p = some (.i .i64 1, σ) := by
  refine run_done rfl rfl Tryz.func70 rfl ?_
  have o1 := h.d.s.one
  have o2 := h.d.c.one
  have o3 := h.m.s.one
  have o4 := h.s.sv.one
  have hl := hs.len
  have ho := hs.one
  have t36 : take? cs 0 36 = some cs := take_all hs.len
  have e1 := set_same hrow hr
  have e2 := set_same hw' hw
  have hrow' : ∀ L, rowAt (σ ++ L) r st = some v.v := fun L => by
    rw [← hrow]; unfold rowAt; rw [List.getElem?_append_left hr]
  have hrw : ∀ L, rowAt (σ ++ L) w ws = some cs := fun L => by
    rw [← hw']; unfold rowAt; rw [List.getElem?_append_left hw]
  have gw : ∀ L, (σ ++ L)[w]? = some (.cells ws cs) := fun L => by rw [List.getElem?_append_left hw]; exact rowAt_some hw'
  have gr : ∀ L, (σ ++ L)[r]? = some (.cells st v.v) := fun L => by rw [List.getElem?_append_left hr]; exact rowAt_some hrow
  simp only [VolR.v] at *
  simp +contextual (disch := first | omega | exact rfl | decide | exact kpF (by decide) | exact kpT (by decide) | assumption | exact Z2z | exact Z30 | exact Z32 | exact Z31 | exact Z33 | exact Z34 | (simp only [ZI] <;> omega) | simp only [ZK] | (simp only [ZL] <;> assumption)) only [Tryz.f70, ZH, SOp, GOp, ↓Z1c, Int.reduceAdd, Int.reduceSub, Int.reduceMul, Int.reduceNeg, accs, touch, touchM, okPair, Nat.reduceAdd, Nat.reduceLeDiff, Nat.reduceMul, Nat.reduceSub, isV, opA, grdO, grd, Z41, Int.reduceLT, Int.reduceLE, Int.reduceToNat, builtinP, builtinA, changes, fieldAddrA, resA, tupled, ↓reduceIte, Nat.reduceEqDiff, Nat.reduceLT, Z70, Int.reduceEq, dr70x6, Y3, Y4, Y5, Y22, Y24, Y26, Y31, Y32, Y34, Y35, Y37, Y38, Y39, Y41, Y43, Y48, Y51, Y56, dr70x3, preObjs, preO, TrXQ_nil, TrXQ_cons, StepXQ_alloc, StepXQ_step, slotsOk, Nat.add_assoc, List.take_succ_cons, SCall_fnL, derefA, np_none, np56, np56', hclo, o1, o2, o3, o4, hl, ho, t36, tk64, spl64, e1, e2, hrow, hw', hrow', hrw, gw, gr]
end Go.Am.R2

/- Writing, cutting and filling are refused. -/
namespace Go.Am.R2
open Go.Proofs
set_option maxRecDepth 100000
set_option linter.unusedSimpArgs false
set_option linter.unusedVariables false
variable {σ : List O} {p : List Nat}
section
variable (v : VolR) (h : v.ok) {cs : List V} {a b c d : Int} {z : List Int} (hs : StemAt cs a b z c d) (ha : -9223372036854775808 ≤ a ∧ a ≤ 9223372036854775807) (hb : -9223372036854775808 ≤ b ∧ b ≤ 9223372036854775807) {r : Nat} {st : List Nat} (hr : r < σ.length) (hrow : rowAt σ r st = some v.v) (hn : (stemB a b z c d && mineB v a b z) = false)
  {w : Nat} {ws : List Nat} (hw : w < σ.length) (hw' : rowAt σ w ws = some cs)
include h hs ha hb hr hrow hn hw hw'
theorem write_no (n : Int) (x : V) (hx : x.one = true) : runF cfg 27 [.ptr r st 0, .ptr w ws 0, .i .i64 n, x] σ p = some (.i .i64 1, σ) := by
  refine run_done rfl rfl Tryz.func27 rfl ?_
  have hrow' : ∀ L, rowAt (σ ++ L) r st = some v.v := fun L => by
    rw [← hrow]; unfold rowAt; rw [List.getElem?_append_left hr]
  have hrw : ∀ L, rowAt (σ ++ L) w ws = some cs := fun L => by
    rw [← hw']; unfold rowAt; rw [List.getElem?_append_left hw]
  have c1 : ∀ q s0 s1 x2 s2 x3 s3, runF cfg 70 [.ptr r st 0, .ptr w ws 0, .fn 71 [] [.ptr σ.length s0 0, .ptr (σ.length + 1) s1 0, .ptr (σ.length + 2) s2 0, .ptr (σ.length + 3) s3 0]] (σ ++ [.cells s0 [.ptr r st 0], .cells s1 [.ptr w ws 0], .cells s2 x2, .cells s3 x3]) q = some (.i .i64 1, σ ++ [.cells s0 [.ptr r st 0], .cells s1 [.ptr w ws 0], .cells s2 x2, .cells s3 x3]) := fun q s0 s1 x2 s2 x3 s3 => by
    refine guard_no v h hs (by simp; omega) (hrow' _) (by simp; omega) (hrw _) 71 _ fun L q => ?_
    rw [List.append_assoc]
    exact wr_no v h hs ha hb (by simp; omega) (hrow' _) hn (hrw _) (by rw [rowAt_app0]; simp [rowAt]) (by rw [rowAt_app]; simp [rowAt]) _ _
  simp +contextual (disch := first | omega | exact rfl | decide | exact kpF (by decide) | exact kpT (by decide) | assumption | exact Z2z | exact Z30 | exact Z32 | exact Z31 | exact Z33 | exact Z34 | (simp only [ZI] <;> omega) | simp only [ZK] | (simp only [ZL] <;> assumption)) only [Tryz.f27, ZH, SOp, GOp, ↓Z1c, Int.reduceAdd, Int.reduceSub, Int.reduceMul, Int.reduceNeg, accs, touch, touchM, okPair, Nat.reduceAdd, Nat.reduceLeDiff, Nat.reduceMul, Nat.reduceSub, isV, opA, grdO, grd, Z41, Int.reduceLT, Int.reduceLE, Int.reduceToNat, builtinP, builtinA, changes, fieldAddrA, resA, tupled, ↓reduceIte, Nat.reduceEqDiff, Nat.reduceLT, Z70, Int.reduceEq, Y3, Y5, Y24, Y26, Y34, Y37, Y39, Y41, Y43, Y51, Y56, derefA, c1, hx]
end
end Go.Am.R2

/- Tables on a volume that isn't right, of a stem that isn't its own: all is refused. -/
namespace Go.Am.R2
open Go.Proofs
set_option maxRecDepth 100000
set_option linter.unusedSimpArgs false
set_option linter.unusedVariables false
variable {σ : List O} {p : List Nat}
def placeI' (n : Int) : Int := IntKind.i64.wrap (64 * IntKind.i64.wrap (n - 1))
theorem num_ok (n : Int) : runF cfg 78 [.i .i64 n] σ p = some (.b (decide (1 ≤ n) && decide (n ≤ 64)), σ) := by
  refine run_done rfl rfl Tryz.func78 rfl ?_
  by_cases h1 : 1 ≤ n <;> by_cases h2 : n ≤ 64 <;> simp +contextual (disch := first | omega | exact rfl | decide | exact kpF (by decide) | exact kpT (by decide) | assumption | exact Z2z | exact Z30 | exact Z32 | exact Z31 | exact Z33 | exact Z34 | (simp only [ZI] <;> omega) | simp only [ZK] | (simp only [ZL] <;> assumption)) only [Tryz.f78, ZH, SOp, GOp, ↓Z1c, Int.reduceAdd, Int.reduceSub, Int.reduceMul, Int.reduceNeg, accs, touch, touchM, okPair, Nat.reduceAdd, Nat.reduceLeDiff, Nat.reduceMul, Nat.reduceSub, isV, opA, grdO, grd, Z41, Int.reduceLT, Int.reduceLE, Int.reduceToNat, builtinP, builtinA, changes, fieldAddrA, resA, tupled, ↓reduceIte, Nat.reduceEqDiff, Nat.reduceLT, Z70, Int.reduceEq, Y3, h1, h2]
theorem place3_ok (n : Int) : runF cfg 79 [.i .i64 n] σ p = some (.i .i64 (placeI' n), σ) := by
  refine run_done rfl rfl Tryz.func79 rfl ?_
  simp +contextual (disch := first | omega | exact rfl | decide | exact kpF (by decide) | exact kpT (by decide) | assumption | exact Z2z | exact Z30 | exact Z32 | exact Z31 | exact Z33 | exact Z34 | (simp only [ZI] <;> omega) | simp only [ZK] | (simp only [ZL] <;> assumption)) only [Tryz.f79, ZH, SOp, GOp, ↓Z1c, Int.reduceAdd, Int.reduceSub, Int.reduceMul, Int.reduceNeg, accs, touch, touchM, okPair, Nat.reduceAdd, Nat.reduceLeDiff, Nat.reduceMul, Nat.reduceSub, isV, opA, grdO, grd, Z41, Int.reduceLT, Int.reduceLE, Int.reduceToNat, builtinP, builtinA, changes, fieldAddrA, resA, tupled, ↓reduceIte, Nat.reduceEqDiff, Nat.reduceLT, Z70, Int.reduceEq, Y3]
  rfl
noncomputable def node0 : V := .agg (ints .i64 [0, 0, 0, 0, 0] ++ ints .u8 (List.replicate 32 0) ++ ints .i64 [0, 0])
section
variable (v : VolR) (h : v.ok) {cs : List V} {a b c d : Int} {z : List Int} (hs : StemAt cs a b z c d) (ha : -9223372036854775808 ≤ a ∧ a ≤ 9223372036854775807) (hb : -9223372036854775808 ≤ b ∧ b ≤ 9223372036854775807) {r : Nat} {st : List Nat} (hr : r < σ.length) (hrow : rowAt σ r st = some v.v) (hn : (stemB a b z c d && mineB v a b z) = false)
include h hs ha hb hr hrow hn
theorem get_no (n : Int) : runF cfg 32 [.ptr r st 0, .agg cs, .i .i64 n] σ p = some (.tup [node0, .i .i64 1], σ) := by
  refine run_done rfl rfl Tryz.func32 rfl ?_
  have t36 : take? cs 0 36 = some cs := take_all hs.len
  have ho := hs.one
  have hrow' : ∀ L, rowAt (σ ++ L) r st = some v.v := fun L => by
    rw [← hrow]; unfold rowAt; rw [List.getElem?_append_left hr]
  have c1 : ∀ L q x y, runF cfg 25 [.ptr r st 0, .agg cs, .i .i64 x, .i .i64 y] (σ ++ L) q = some (.tup [.nils, .i .i64 1], σ ++ L) := fun L q x y => read_no v h hs ha hb (by simp; omega) (hrow' L) hn x y
  have c2 := fun (τ : List O) q => num_ok (σ := τ) (p := q) n
  have c3 := fun (τ : List O) q => place3_ok (σ := τ) (p := q) n
  generalize (decide (1 ≤ n) && decide (n ≤ 64)) = bb at c2
  cases bb <;> simp +contextual (disch := first | omega | exact rfl | decide | exact kpF (by decide) | exact kpT (by decide) | assumption | exact Z2z | exact Z30 | exact Z32 | exact Z31 | exact Z33 | exact Z34 | (simp only [ZI] <;> omega) | simp only [ZK] | (simp only [ZL] <;> assumption)) only [Tryz.f32, ZH, SOp, GOp, ↓Z1c, Int.reduceAdd, Int.reduceSub, Int.reduceMul, Int.reduceNeg, accs, touch, touchM, okPair, Nat.reduceAdd, Nat.reduceLeDiff, Nat.reduceMul, Nat.reduceSub, isV, opA, grdO, grd, Z41, Int.reduceLT, Int.reduceLE, Int.reduceToNat, builtinP, builtinA, changes, fieldAddrA, resA, tupled, ↓reduceIte, Nat.reduceEqDiff, Nat.reduceLT, Z70, Int.reduceEq, dr32x3, Y3, Y22, Y24, Y26, Y34, Y37, Y41, Y43, Y48, Y51, Y69, derefA, np_none, np56', c1, c2, c3, ho, t36] <;> rfl
theorem next_no : runF cfg 33 [.ptr r st 0, .agg cs] σ p = some (.tup [.i .i64 0, .i .i64 1], σ) := by
  refine run_done rfl rfl Tryz.func33 rfl ?_
  have t36 : take? cs 0 36 = some cs := take_all hs.len
  have ho := hs.one
  have hrow' : ∀ L, rowAt (σ ++ L) r st = some v.v := fun L => by
    rw [← hrow]; unfold rowAt; rw [List.getElem?_append_left hr]
  have c1 : ∀ L q x, runF cfg 32 [.ptr r st 0, .agg cs, .i .i64 x] (σ ++ L) q = some (.tup [node0, .i .i64 1], σ ++ L) := fun L q x => get_no v h hs ha hb (by simp; omega) (hrow' L) hn x
  simp +contextual (disch := first | omega | exact rfl | decide | exact kpF (by decide) | exact kpT (by decide) | assumption | exact Z2z | exact Z30 | exact Z32 | exact Z31 | exact Z33 | exact Z34 | (simp only [ZI] <;> omega) | simp only [ZK] | (simp only [ZL] <;> assumption)) only [Tryz.f33, ZH, SOp, GOp, ↓Z1c, Int.reduceAdd, Int.reduceSub, Int.reduceMul, Int.reduceNeg, accs, touch, touchM, okPair, Nat.reduceAdd, Nat.reduceLeDiff, Nat.reduceMul, Nat.reduceSub, isV, opA, grdO, grd, Z41, Int.reduceLT, Int.reduceLE, Int.reduceToNat, builtinP, builtinA, changes, fieldAddrA, resA, tupled, ↓reduceIte, Nat.reduceEqDiff, Nat.reduceLT, Z70, Int.reduceEq, Y3, Y22, Y24, Y26, Y48, Y69, node0, Wq_loop, loopQ_normal, loopQ_exit, loopQ_ret, derefA, c1, ho, t36]
theorem list_no : runF cfg 34 [.ptr r st 0, .agg cs] σ p = some (.tup [.nils, .i .i64 1], σ) := by
  refine run_done rfl rfl Tryz.func34 rfl ?_
  have t36 : take? cs 0 36 = some cs := take_all hs.len
  have ho := hs.one
  have g34 := hs.g34
  have hrow' : ∀ L, rowAt (σ ++ L) r st = some v.v := fun L => by
    rw [← hrow]; unfold rowAt; rw [List.getElem?_append_left hr]
  have c1 : ∀ L q x y, runF cfg 25 [.ptr r st 0, .agg cs, .i .i64 x, .i .i64 y] (σ ++ L) q = some (.tup [.nils, .i .i64 1], σ ++ L) := fun L q x y => read_no v h hs ha hb (by simp; omega) (hrow' L) hn x y
  simp +contextual (disch := first | omega | exact rfl | decide | exact kpF (by decide) | exact kpT (by decide) | assumption | exact Z2z | exact Z30 | exact Z32 | exact Z31 | exact Z33 | exact Z34 | (simp only [ZI] <;> omega) | simp only [ZK] | (simp only [ZL] <;> assumption)) only [Tryz.f34, ZH, SOp, GOp, ↓Z1c, Int.reduceAdd, Int.reduceSub, Int.reduceMul, Int.reduceNeg, accs, touch, touchM, okPair, Nat.reduceAdd, Nat.reduceLeDiff, Nat.reduceMul, Nat.reduceSub, isV, opA, grdO, grd, Z41, Int.reduceLT, Int.reduceLE, Int.reduceToNat, builtinP, builtinA, changes, fieldAddrA, resA, tupled, ↓reduceIte, Nat.reduceEqDiff, Nat.reduceLT, Z70, Int.reduceEq, Y3, Y5, Y22, Y24, Y26, Y39, Y48, Y69, Y75, derefA, c1, ho, t36, g34]
variable {w : Nat} {ws : List Nat} (hw' : rowAt σ w ws = some cs)
include hw'
theorem clear_no (n : Int) : runF cfg 36 [.ptr r st 0, .ptr w ws 0, .i .i64 n] σ p = some (.i .i64 1, σ) := by
  refine run_done rfl rfl Tryz.func36 rfl ?_
  have t36 : take? cs 0 36 = some cs := take_all hs.len
  have ho := hs.one
  have c1 : ∀ q x, runF cfg 32 [.ptr r st 0, .agg cs, .i .i64 x] σ q = some (.tup [node0, .i .i64 1], σ) := fun q x => get_no v h hs ha hb hr hrow hn x
  simp +contextual (disch := first | omega | exact rfl | decide | exact kpF (by decide) | exact kpT (by decide) | assumption | exact Z2z | exact Z30 | exact Z32 | exact Z31 | exact Z33 | exact Z34 | (simp only [ZI] <;> omega) | simp only [ZK] | (simp only [ZL] <;> assumption)) only [Tryz.f36, ZH, SOp, GOp, ↓Z1c, Int.reduceAdd, Int.reduceSub, Int.reduceMul, Int.reduceNeg, accs, touch, touchM, okPair, Nat.reduceAdd, Nat.reduceLeDiff, Nat.reduceMul, Nat.reduceSub, isV, opA, grdO, grd, Z41, Int.reduceLT, Int.reduceLE, Int.reduceToNat, builtinP, builtinA, changes, fieldAddrA, resA, tupled, ↓reduceIte, Nat.reduceEqDiff, Nat.reduceLT, Z70, Int.reduceEq, Y3, Y4, Y5, Y22, Y24, Y26, Y48, Y51, Y56, Y69, node0, derefA, np_none, np56, c1, ho, t36, hw']
end
end Go.Am.R2
