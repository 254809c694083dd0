/- Parts of one machine and of the walks over it, joined: M12 M13 M14 M15 M16 M20 M21 M22 M26 K0x L1 L2 L3 L4 L5 L6 L5b L7 L4g K57 L8. -/
import Derived.Test.YtgagaobijjahhaaGreatDoorJE
import Derived.Test.YtgagaobijjahhaaGreatDoorAmTrX
import Derived.Test.YtgagaobijjahhaaGreatDoorJA
import Derived.Test.YtgagaobijjahhaaGreatDoorJK
import Derived.Test.YtgagaobijjahhaaGreatDoorJR
/- Is a pointer the volume's own, the other way. -/
namespace Go.Am.R2
open Go.Proofs
set_option maxRecDepth 100000
set_option linter.unusedSimpArgs false
set_option linter.unusedVariables false
variable {σ : List O} {p : List Nat}
theorem mine9_no (v : VolR) (h : v.ok) (a b : Int) (z : List Int) (hz : z.length = 32) (ha : -9223372036854775808 ≤ a ∧ a ≤ 9223372036854775807) (hb : -9223372036854775808 ≤ b ∧ b ≤ 9223372036854775807) (hn : (rightV v && rightB a b z) = false) :
    runF cfg 10 [.agg v.v,.agg (ptV a b z)] σ p = some (.b false,σ) := by
  refine run_done rfl rfl Tryz.func10 rfl ?_
  have o1 := h.d.s.one
  have o2 := h.d.c.one
  have o3 := h.m.s.one
  have o4 := h.s.sv.one
  have hl := ptV_len (a := a) (b := b) hz
  have ho := ptV_one (a := a) (b := b) (z := z)
  have tk := take_all hl
  have c1 := fun (τ : List O) q => vol9_ok (σ := τ) (p := q) v h
  have c2 := fun (τ : List O) q => right2_ok (σ := τ) (p := q) a b z hz
  have sa := fun (τ : List O) q => state_ok (σ := τ) (p := q) v.s h.s a ha
  have sb := fun (τ : List O) q => state_ok (σ := τ) (p := q) v.s h.s b hb
  have ov : v.v.all V.one = true := by simp only [VolR.v,List.all_cons,List.all_nil,o1,o2,o3,o4,one_i,one_b]; rfl
  have lv : v.v.length = 10 := rfl
  have tv := take_all lv
  generalize hv : v.v = vv at *
  cases d1 : rightV v with
  | false =>
    rw [d1] at c1
    simp +contextual (disch := first | omega | exact rfl | decide | exact kpF (by decide) | exact kpT (by decide) | assumption | exact Z2z | exact Z30 | exact Z32 | exact Z31 | exact Z33 | exact Z34 | (simp only [ZI] <;> omega) | simp only [ZK] | (simp only [ZL] <;> assumption)) only [Tryz.f10,ZH,SOp,GOp,↓Z1c,Int.reduceAdd,Int.reduceSub,Int.reduceMul,Int.reduceNeg,accs,touch,touchM,okPair,Nat.reduceAdd,Nat.reduceLeDiff,Nat.reduceMul,Nat.reduceSub,isV,opA,grdO,grd,Z41,Int.reduceLT,Int.reduceLE,Int.reduceToNat,builtinP,builtinA,changes,fieldAddrA,resA,tupled,↓reduceIte,Nat.reduceEqDiff,Nat.reduceLT,Z70,Int.reduceEq,dr10x8,Y3,Y4,Y23,Y27,Y28,Y30,Y31,Y33,Y34,Y35,Y37,Y39,Y42,c1,tv,ov,ho]
  | true =>
    rw [d1] at c1
    have d2 : rightB a b z = false := by rw [d1] at hn; simpa using hn
    rw [d2] at c2
    simp +contextual (disch := first | omega | exact rfl | decide | exact kpF (by decide) | exact kpT (by decide) | assumption | exact Z2z | exact Z30 | exact Z32 | exact Z31 | exact Z33 | exact Z34 | (simp only [ZI] <;> omega) | simp only [ZK] | (simp only [ZL] <;> assumption)) only [Tryz.f10,ZH,SOp,GOp,↓Z1c,Int.reduceAdd,Int.reduceSub,Int.reduceMul,Int.reduceNeg,accs,touch,touchM,okPair,Nat.reduceAdd,Nat.reduceLeDiff,Nat.reduceMul,Nat.reduceSub,isV,opA,grdO,grd,Z41,Int.reduceLT,Int.reduceLE,Int.reduceToNat,builtinP,builtinA,changes,fieldAddrA,resA,tupled,↓reduceIte,Nat.reduceEqDiff,Nat.reduceLT,Z70,Int.reduceEq,dr10x8,Y3,Y4,Y23,Y27,Y28,Y30,Y31,Y33,Y34,Y35,Y37,Y39,Y42,c1,c2,tv,tk,ov,ho]
end Go.Am.R2

/- Is a pointer the volume's own, the other way: where both are right. -/
namespace Go.Am.R2
open Go.Proofs
set_option maxRecDepth 100000
set_option linter.unusedSimpArgs false
set_option linter.unusedVariables false
variable {σ : List O} {p : List Nat}
theorem mine9_a (v : VolR) (h : v.ok) (a b : Int) (z : List Int) (hz : z.length = 32) (ha : -9223372036854775808 ≤ a ∧ a ≤ 9223372036854775807) (hb : -9223372036854775808 ≤ b ∧ b ≤ 9223372036854775807) (d1 : rightV v = true) (d2 : rightB a b z = true) (a1 : a = -1) (b1 : b = -1) :
    runF cfg 10 [.agg v.v,.agg (ptV a b z)] σ p = some (.b true,σ) := by
  refine run_done rfl rfl Tryz.func10 rfl ?_
  have o1 := h.d.s.one
  have o2 := h.d.c.one
  have o3 := h.m.s.one
  have o4 := h.s.sv.one
  have hl := ptV_len (a := a) (b := b) hz
  have ho := ptV_one (a := a) (b := b) (z := z)
  have tk := take_all hl
  have c1 := fun (τ : List O) q => vol9_ok (σ := τ) (p := q) v h
  have c2 := fun (τ : List O) q => right2_ok (σ := τ) (p := q) a b z hz
  have sa := fun (τ : List O) q => state_ok (σ := τ) (p := q) v.s h.s a ha
  have sb := fun (τ : List O) q => state_ok (σ := τ) (p := q) v.s h.s b hb
  rw [d1] at c1
  rw [d2] at c2
  have tv : take? v.v 0 10 = some v.v := rfl
  subst a1; subst b1
  simp only [ptV,VolR.v,SpaceR.v] at *
  simp +contextual (disch := first | omega | exact rfl | decide | exact kpF (by decide) | exact kpT (by decide) | assumption | exact Z2z | exact Z30 | exact Z32 | exact Z31 | exact Z33 | exact Z34 | (simp only [ZI] <;> omega) | simp only [ZK] | (simp only [ZL] <;> assumption)) only [Tryz.f10,ZH,SOp,GOp,↓Z1c,Int.reduceAdd,Int.reduceSub,Int.reduceMul,Int.reduceNeg,accs,touch,touchM,okPair,Nat.reduceAdd,Nat.reduceLeDiff,Nat.reduceMul,Nat.reduceSub,isV,opA,grdO,grd,Z41,Int.reduceLT,Int.reduceLE,Int.reduceToNat,builtinP,builtinA,changes,fieldAddrA,resA,tupled,↓reduceIte,Nat.reduceEqDiff,Nat.reduceLT,Z70,Int.reduceEq,dr10x8,Y3,Y4,Y23,Y27,Y28,Y30,Y31,Y33,Y34,Y35,Y37,Y39,Y42,Wq_loop,loopQ_normal,loopQ_exit,loopQ_ret,c1,c2,tv,tk,ints_one,o1,o2,o3,o4,tk64]
end Go.Am.R2

/- Is a pointer the volume's own, the other way: all cases. -/
namespace Go.Am.R2
open Go.Proofs
set_option maxRecDepth 100000
set_option linter.unusedSimpArgs false
set_option linter.unusedVariables false
variable {σ : List O} {p : List Nat}
theorem mine9_b (v : VolR) (h : v.ok) (a b : Int) (z : List Int) (hz : z.length = 32) (ha : -9223372036854775808 ≤ a ∧ a ≤ 9223372036854775807) (hb : -9223372036854775808 ≤ b ∧ b ≤ 9223372036854775807) (d1 : rightV v = true) (d2 : rightB a b z = true) (a1 : a = -1) (b1 : b ≠ -1) :
    runF cfg 10 [.agg v.v,.agg (ptV a b z)] σ p = some (.b (okS v.s b),σ) := by
  refine run_done rfl rfl Tryz.func10 rfl ?_
  have o1 := h.d.s.one
  have o2 := h.d.c.one
  have o3 := h.m.s.one
  have o4 := h.s.sv.one
  have hl := ptV_len (a := a) (b := b) hz
  have ho := ptV_one (a := a) (b := b) (z := z)
  have tk := take_all hl
  have c1 := fun (τ : List O) q => vol9_ok (σ := τ) (p := q) v h
  have c2 := fun (τ : List O) q => right2_ok (σ := τ) (p := q) a b z hz
  have sa := fun (τ : List O) q => state_ok (σ := τ) (p := q) v.s h.s a ha
  have sb := fun (τ : List O) q => state_ok (σ := τ) (p := q) v.s h.s b hb
  rw [d1] at c1
  rw [d2] at c2
  have tv : take? v.v 0 10 = some v.v := rfl
  rw [okS_no b1]
  subst a1
  simp only [ptV,VolR.v,SpaceR.v] at *
  generalize stE v.s b = eb at *
  generalize stV v.s b = vb at *
  by_cases e1 : eb = 0 <;> by_cases e2 : vb = 1 <;> by_cases e3 : vb = 2 <;> first | omega | simp +contextual (disch := first | omega | exact rfl | decide | exact kpF (by decide) | exact kpT (by decide) | assumption | exact Z2z | exact Z30 | exact Z32 | exact Z31 | exact Z33 | exact Z34 | (simp only [ZI] <;> omega) | simp only [ZK] | (simp only [ZL] <;> assumption)) only [Tryz.f10,ZH,SOp,GOp,↓Z1c,Int.reduceAdd,Int.reduceSub,Int.reduceMul,Int.reduceNeg,accs,touch,touchM,okPair,Nat.reduceAdd,Nat.reduceLeDiff,Nat.reduceMul,Nat.reduceSub,isV,opA,grdO,grd,Z41,Int.reduceLT,Int.reduceLE,Int.reduceToNat,builtinP,builtinA,changes,fieldAddrA,resA,tupled,↓reduceIte,Nat.reduceEqDiff,Nat.reduceLT,Z70,Int.reduceEq,dr10x8,Y3,Y4,Y23,Y27,Y28,Y30,Y31,Y33,Y34,Y35,Y37,Y39,Y42,Wq_loop,loopQ_normal,loopQ_exit,loopQ_ret,c1,c2,tv,tk,ints_one,o1,o2,o3,o4,tk64,sb,b1,e1,e2,e3]
theorem mine9_c (v : VolR) (h : v.ok) (a b : Int) (z : List Int) (hz : z.length = 32) (ha : -9223372036854775808 ≤ a ∧ a ≤ 9223372036854775807) (hb : -9223372036854775808 ≤ b ∧ b ≤ 9223372036854775807) (d1 : rightV v = true) (d2 : rightB a b z = true) (a1 : a ≠ -1) (ga : ¬ (stE v.s a = 0 ∧ (stV v.s a = 1 ∨ stV v.s a = 2))) :
    runF cfg 10 [.agg v.v,.agg (ptV a b z)] σ p = some (.b false,σ) := by
  refine run_done rfl rfl Tryz.func10 rfl ?_
  have o1 := h.d.s.one
  have o2 := h.d.c.one
  have o3 := h.m.s.one
  have o4 := h.s.sv.one
  have hl := ptV_len (a := a) (b := b) hz
  have ho := ptV_one (a := a) (b := b) (z := z)
  have tk := take_all hl
  have c1 := fun (τ : List O) q => vol9_ok (σ := τ) (p := q) v h
  have c2 := fun (τ : List O) q => right2_ok (σ := τ) (p := q) a b z hz
  have sa := fun (τ : List O) q => state_ok (σ := τ) (p := q) v.s h.s a ha
  have sb := fun (τ : List O) q => state_ok (σ := τ) (p := q) v.s h.s b hb
  rw [d1] at c1
  rw [d2] at c2
  have tv : take? v.v 0 10 = some v.v := rfl
  simp only [ptV,VolR.v,SpaceR.v] at *
  generalize stE v.s a = ea at *
  generalize stV v.s a = va at *
  by_cases e1 : ea = 0 <;> by_cases e2 : va = 1 <;> by_cases e3 : va = 2 <;> first | omega | simp +contextual (disch := first | omega | exact rfl | decide | exact kpF (by decide) | exact kpT (by decide) | assumption | exact Z2z | exact Z30 | exact Z32 | exact Z31 | exact Z33 | exact Z34 | (simp only [ZI] <;> omega) | simp only [ZK] | (simp only [ZL] <;> assumption)) only [Tryz.f10,ZH,SOp,GOp,↓Z1c,Int.reduceAdd,Int.reduceSub,Int.reduceMul,Int.reduceNeg,accs,touch,touchM,okPair,Nat.reduceAdd,Nat.reduceLeDiff,Nat.reduceMul,Nat.reduceSub,isV,opA,grdO,grd,Z41,Int.reduceLT,Int.reduceLE,Int.reduceToNat,builtinP,builtinA,changes,fieldAddrA,resA,tupled,↓reduceIte,Nat.reduceEqDiff,Nat.reduceLT,Z70,Int.reduceEq,dr10x8,Y3,Y4,Y23,Y27,Y28,Y30,Y31,Y33,Y34,Y35,Y37,Y39,Y42,Wq_loop,loopQ_normal,loopQ_exit,loopQ_ret,c1,c2,tv,tk,ints_one,o1,o2,o3,o4,tk64,sa,a1,e1,e2,e3]
theorem mine9_d1 (v : VolR) (h : v.ok) (a b : Int) (z : List Int) (hz : z.length = 32) (ha : -9223372036854775808 ≤ a ∧ a ≤ 9223372036854775807) (hb : -9223372036854775808 ≤ b ∧ b ≤ 9223372036854775807) (d1 : rightV v = true) (d2 : rightB a b z = true) (a1 : a ≠ -1) (b1 : b = -1) (g1 : stE v.s a = 0) (g2 : stV v.s a = 1) :
    runF cfg 10 [.agg v.v,.agg (ptV a b z)] σ p = some (.b true,σ) := by
  refine run_done rfl rfl Tryz.func10 rfl ?_
  have o1 := h.d.s.one
  have o2 := h.d.c.one
  have o3 := h.m.s.one
  have o4 := h.s.sv.one
  have hl := ptV_len (a := a) (b := b) hz
  have ho := ptV_one (a := a) (b := b) (z := z)
  have tk := take_all hl
  have c1 := fun (τ : List O) q => vol9_ok (σ := τ) (p := q) v h
  have c2 := fun (τ : List O) q => right2_ok (σ := τ) (p := q) a b z hz
  have sa := fun (τ : List O) q => state_ok (σ := τ) (p := q) v.s h.s a ha
  have sb := fun (τ : List O) q => state_ok (σ := τ) (p := q) v.s h.s b hb
  rw [d1] at c1
  rw [d2] at c2
  have tv : take? v.v 0 10 = some v.v := rfl
  subst b1
  simp only [ptV,VolR.v,SpaceR.v] at *
  simp +contextual (disch := first | omega | exact rfl | decide | exact kpF (by decide) | exact kpT (by decide) | assumption | exact Z2z | exact Z30 | exact Z32 | exact Z31 | exact Z33 | exact Z34 | (simp only [ZI] <;> omega) | simp only [ZK] | (simp only [ZL] <;> assumption)) only [Tryz.f10,ZH,SOp,GOp,↓Z1c,Int.reduceAdd,Int.reduceSub,Int.reduceMul,Int.reduceNeg,accs,touch,touchM,okPair,Nat.reduceAdd,Nat.reduceLeDiff,Nat.reduceMul,Nat.reduceSub,isV,opA,grdO,grd,Z41,Int.reduceLT,Int.reduceLE,Int.reduceToNat,builtinP,builtinA,changes,fieldAddrA,resA,tupled,↓reduceIte,Nat.reduceEqDiff,Nat.reduceLT,Z70,Int.reduceEq,dr10x8,Y3,Y4,Y23,Y27,Y28,Y30,Y31,Y33,Y34,Y35,Y37,Y39,Y42,Wq_loop,loopQ_normal,loopQ_exit,loopQ_ret,c1,c2,tv,tk,ints_one,o1,o2,o3,o4,tk64,sa,a1,g1,g2]
theorem mine9_e1 (v : VolR) (h : v.ok) (a b : Int) (z : List Int) (hz : z.length = 32) (ha : -9223372036854775808 ≤ a ∧ a ≤ 9223372036854775807) (hb : -9223372036854775808 ≤ b ∧ b ≤ 9223372036854775807) (d1 : rightV v = true) (d2 : rightB a b z = true) (a1 : a ≠ -1) (b1 : b ≠ -1) (g1 : stE v.s a = 0) (g2 : stV v.s a = 1) :
    runF cfg 10 [.agg v.v,.agg (ptV a b z)] σ p = some (.b (okS v.s b),σ) := by
  refine run_done rfl rfl Tryz.func10 rfl ?_
  have o1 := h.d.s.one
  have o2 := h.d.c.one
  have o3 := h.m.s.one
  have o4 := h.s.sv.one
  have hl := ptV_len (a := a) (b := b) hz
  have ho := ptV_one (a := a) (b := b) (z := z)
  have tk := take_all hl
  have c1 := fun (τ : List O) q => vol9_ok (σ := τ) (p := q) v h
  have c2 := fun (τ : List O) q => right2_ok (σ := τ) (p := q) a b z hz
  have sa := fun (τ : List O) q => state_ok (σ := τ) (p := q) v.s h.s a ha
  have sb := fun (τ : List O) q => state_ok (σ := τ) (p := q) v.s h.s b hb
  rw [d1] at c1
  rw [d2] at c2
  have tv : take? v.v 0 10 = some v.v := rfl
  rw [okS_no b1]
  simp only [ptV,VolR.v,SpaceR.v] at *
  generalize stE v.s a = ea at *
  generalize stV v.s a = va at *
  generalize stE v.s b = eb at *
  generalize stV v.s b = vb at *
  subst g1; subst g2
  by_cases e1 : eb = 0 <;> by_cases e2 : vb = 1 <;> by_cases e3 : vb = 2 <;> first | omega | simp +contextual (disch := first | omega | exact rfl | decide | exact kpF (by decide) | exact kpT (by decide) | assumption | exact Z2z | exact Z30 | exact Z32 | exact Z31 | exact Z33 | exact Z34 | (simp only [ZI] <;> omega) | simp only [ZK] | (simp only [ZL] <;> assumption)) only [Tryz.f10,ZH,SOp,GOp,↓Z1c,Int.reduceAdd,Int.reduceSub,Int.reduceMul,Int.reduceNeg,accs,touch,touchM,okPair,Nat.reduceAdd,Nat.reduceLeDiff,Nat.reduceMul,Nat.reduceSub,isV,opA,grdO,grd,Z41,Int.reduceLT,Int.reduceLE,Int.reduceToNat,builtinP,builtinA,changes,fieldAddrA,resA,tupled,↓reduceIte,Nat.reduceEqDiff,Nat.reduceLT,Z70,Int.reduceEq,dr10x8,Y3,Y4,Y23,Y27,Y28,Y30,Y31,Y33,Y34,Y35,Y37,Y39,Y42,Wq_loop,loopQ_normal,loopQ_exit,loopQ_ret,c1,c2,tv,tk,ints_one,o1,o2,o3,o4,tk64,sa,sb,a1,b1,e1,e2,e3]
theorem mine9_d2 (v : VolR) (h : v.ok) (a b : Int) (z : List Int) (hz : z.length = 32) (ha : -9223372036854775808 ≤ a ∧ a ≤ 9223372036854775807) (hb : -9223372036854775808 ≤ b ∧ b ≤ 9223372036854775807) (d1 : rightV v = true) (d2 : rightB a b z = true) (a1 : a ≠ -1) (b1 : b = -1) (g1 : stE v.s a = 0) (g2 : stV v.s a = 2) :
    runF cfg 10 [.agg v.v,.agg (ptV a b z)] σ p = some (.b true,σ) := by
  refine run_done rfl rfl Tryz.func10 rfl ?_
  have o1 := h.d.s.one
  have o2 := h.d.c.one
  have o3 := h.m.s.one
  have o4 := h.s.sv.one
  have hl := ptV_len (a := a) (b := b) hz
  have ho := ptV_one (a := a) (b := b) (z := z)
  have tk := take_all hl
  have c1 := fun (τ : List O) q => vol9_ok (σ := τ) (p := q) v h
  have c2 := fun (τ : List O) q => right2_ok (σ := τ) (p := q) a b z hz
  have sa := fun (τ : List O) q => state_ok (σ := τ) (p := q) v.s h.s a ha
  have sb := fun (τ : List O) q => state_ok (σ := τ) (p := q) v.s h.s b hb
  rw [d1] at c1
  rw [d2] at c2
  have tv : take? v.v 0 10 = some v.v := rfl
  subst b1
  simp only [ptV,VolR.v,SpaceR.v] at *
  simp +contextual (disch := first | omega | exact rfl | decide | exact kpF (by decide) | exact kpT (by decide) | assumption | exact Z2z | exact Z30 | exact Z32 | exact Z31 | exact Z33 | exact Z34 | (simp only [ZI] <;> omega) | simp only [ZK] | (simp only [ZL] <;> assumption)) only [Tryz.f10,ZH,SOp,GOp,↓Z1c,Int.reduceAdd,Int.reduceSub,Int.reduceMul,Int.reduceNeg,accs,touch,touchM,okPair,Nat.reduceAdd,Nat.reduceLeDiff,Nat.reduceMul,Nat.reduceSub,isV,opA,grdO,grd,Z41,Int.reduceLT,Int.reduceLE,Int.reduceToNat,builtinP,builtinA,changes,fieldAddrA,resA,tupled,↓reduceIte,Nat.reduceEqDiff,Nat.reduceLT,Z70,Int.reduceEq,dr10x8,Y3,Y4,Y23,Y27,Y28,Y30,Y31,Y33,Y34,Y35,Y37,Y39,Y42,Wq_loop,loopQ_normal,loopQ_exit,loopQ_ret,c1,c2,tv,tk,ints_one,o1,o2,o3,o4,tk64,sa,a1,g1,g2]
theorem mine9_e2 (v : VolR) (h : v.ok) (a b : Int) (z : List Int) (hz : z.length = 32) (ha : -9223372036854775808 ≤ a ∧ a ≤ 9223372036854775807) (hb : -9223372036854775808 ≤ b ∧ b ≤ 9223372036854775807) (d1 : rightV v = true) (d2 : rightB a b z = true) (a1 : a ≠ -1) (b1 : b ≠ -1) (g1 : stE v.s a = 0) (g2 : stV v.s a = 2) :
    runF cfg 10 [.agg v.v,.agg (ptV a b z)] σ p = some (.b (okS v.s b),σ) := by
  refine run_done rfl rfl Tryz.func10 rfl ?_
  have o1 := h.d.s.one
  have o2 := h.d.c.one
  have o3 := h.m.s.one
  have o4 := h.s.sv.one
  have hl := ptV_len (a := a) (b := b) hz
  have ho := ptV_one (a := a) (b := b) (z := z)
  have tk := take_all hl
  have c1 := fun (τ : List O) q => vol9_ok (σ := τ) (p := q) v h
  have c2 := fun (τ : List O) q => right2_ok (σ := τ) (p := q) a b z hz
  have sa := fun (τ : List O) q => state_ok (σ := τ) (p := q) v.s h.s a ha
  have sb := fun (τ : List O) q => state_ok (σ := τ) (p := q) v.s h.s b hb
  rw [d1] at c1
  rw [d2] at c2
  have tv : take? v.v 0 10 = some v.v := rfl
  rw [okS_no b1]
  simp only [ptV,VolR.v,SpaceR.v] at *
  generalize stE v.s a = ea at *
  generalize stV v.s a = va at *
  generalize stE v.s b = eb at *
  generalize stV v.s b = vb at *
  subst g1; subst g2
  by_cases e1 : eb = 0 <;> by_cases e2 : vb = 1 <;> by_cases e3 : vb = 2 <;> first | omega | simp +contextual (disch := first | omega | exact rfl | decide | exact kpF (by decide) | exact kpT (by decide) | assumption | exact Z2z | exact Z30 | exact Z32 | exact Z31 | exact Z33 | exact Z34 | (simp only [ZI] <;> omega) | simp only [ZK] | (simp only [ZL] <;> assumption)) only [Tryz.f10,ZH,SOp,GOp,↓Z1c,Int.reduceAdd,Int.reduceSub,Int.reduceMul,Int.reduceNeg,accs,touch,touchM,okPair,Nat.reduceAdd,Nat.reduceLeDiff,Nat.reduceMul,Nat.reduceSub,isV,opA,grdO,grd,Z41,Int.reduceLT,Int.reduceLE,Int.reduceToNat,builtinP,builtinA,changes,fieldAddrA,resA,tupled,↓reduceIte,Nat.reduceEqDiff,Nat.reduceLT,Z70,Int.reduceEq,dr10x8,Y3,Y4,Y23,Y27,Y28,Y30,Y31,Y33,Y34,Y35,Y37,Y39,Y42,Wq_loop,loopQ_normal,loopQ_exit,loopQ_ret,c1,c2,tv,tk,ints_one,o1,o2,o3,o4,tk64,sa,sb,a1,b1,e1,e2,e3]
theorem mine9_ok (v : VolR) (h : v.ok) (a b : Int) (z : List Int) (hz : z.length = 32) (ha : -9223372036854775808 ≤ a ∧ a ≤ 9223372036854775807) (hb : -9223372036854775808 ≤ b ∧ b ≤ 9223372036854775807) :
    runF cfg 10 [.agg v.v,.agg (ptV a b z)] σ p = some (.b (mineB v a b z),σ) := by
  unfold mineB
  by_cases hn : (rightV v && rightB a b z) = false
  · rw [mine9_no v h a b z hz ha hb hn,← Bool.and_assoc,hn]; rfl
  · have hy : (rightV v && rightB a b z) = true := by simpa using hn
    have hy' := Bool.and_eq_true_iff.1 hy
    rw [← Bool.and_assoc,hy,Bool.true_and]
    by_cases a1 : a = -1
    · have eA : okS v.s a = true := by unfold okS; rw [decide_eq_true a1]; rfl
      rw [eA,Bool.true_and]
      by_cases b1 : b = -1
      · have eB : okS v.s b = true := by unfold okS; rw [decide_eq_true b1]; rfl
        rw [eB]
        exact mine9_a v h a b z hz ha hb hy'.1 hy'.2 a1 b1
      · exact mine9_b v h a b z hz ha hb hy'.1 hy'.2 a1 b1
    · by_cases ga : stE v.s a = 0 ∧ (stV v.s a = 1 ∨ stV v.s a = 2)
      · have eA : okS v.s a = true := by rw [okS_no a1]; simpa using ga
        rw [eA,Bool.true_and]
        obtain ⟨g1,g2⟩ := ga
        by_cases b1 : b = -1
        · have eB : okS v.s b = true := by unfold okS; rw [decide_eq_true b1]; rfl
          rw [eB]
          rcases g2 with g2 | g2
          · exact mine9_d1 v h a b z hz ha hb hy'.1 hy'.2 a1 b1 g1 g2
          · exact mine9_d2 v h a b z hz ha hb hy'.1 hy'.2 a1 b1 g1 g2
        · rcases g2 with g2 | g2
          · exact mine9_e1 v h a b z hz ha hb hy'.1 hy'.2 a1 b1 g1 g2
          · exact mine9_e2 v h a b z hz ha hb hy'.1 hy'.2 a1 b1 g1 g2
      · have eA : okS v.s a = false := by
          rw [okS_no a1,← Bool.not_eq_true]; simpa using ga
        rw [eA,Bool.false_and]
        exact mine9_c v h a b z hz ha hb hy'.1 hy'.2 a1 ga
end Go.Am.R2

/- Stems on a volume: whose are they? -/
namespace Go.Am.R2
open Go.Proofs
set_option maxRecDepth 100000
set_option linter.unusedSimpArgs false
set_option linter.unusedVariables false
variable {σ : List O} {p : List Nat}
theorem np_none {op : BinOp} {t : TypeId} {x y : Operand} {r o : Nat} {st : List Nat} {v : V} : binA cfg op t x y (.ptr r st o) v = none := rfl
theorem np51 {r o : Nat} {st : List Nat} : eqNilA cfg .neq 51 (.ptr r st o) .nilp = some (.b true) := by
  rw [eqNilA,if_pos (show oneNil cfg 51 (.ptr r st o) .nilp = true by kernel_rfl)]
theorem np56 {r o : Nat} {st : List Nat} : eqNilA cfg .eql 52 (.ptr r st o) .nilp = some (.b false) := by
  rw [eqNilA,if_pos (show oneNil cfg 52 (.ptr r st o) .nilp = true by kernel_rfl)]
theorem ours_no (v : VolR) (h : v.ok) {cs : List V} {a b c d : Int} {z : List Int} (hs : StemAt cs a b z c d) (ha : -9223372036854775808 ≤ a ∧ a ≤ 9223372036854775807) (hb : -9223372036854775808 ≤ b ∧ b ≤ 9223372036854775807) {r : Nat} {st : List Nat} (hr : r < σ.length) (hrow : rowAt σ r st = some v.v) (hn : (stemB a b z c d && mineB v a b z) = false) :
    runF cfg 122 [.ptr r st 0,.agg cs] σ p = some (.b false,σ) := by
  refine run_done rfl rfl Tryz.func122 rfl ?_
  have o1 := h.d.s.one
  have o2 := h.d.c.one
  have o3 := h.m.s.one
  have o4 := h.s.sv.one
  have tk := hs.tk
  have t36 : take? cs 0 36 = some cs := take_all hs.len
  have tp := take_all (ptV_len (a := a) (b := b) hs.z)
  have op := ptV_one (a := a) (b := b) (z := z)
  have ho := hs.one
  have hrow' : ∀ L,rowAt (σ ++ L) r st = some v.v := fun L => by
    rw [← hrow]; unfold rowAt; rw [List.getElem?_append_left hr]
  have c1 := fun (τ : List O) q => stem_ok (σ := τ) (p := q) hs
  have c2 := fun (τ : List O) q => mine_ok (σ := τ) (p := q) v h a b z hs.z ha hb
  have ov : v.v.all V.one = true := by simp only [VolR.v,List.all_cons,List.all_nil,o1,o2,o3,o4,one_i,one_b]; rfl
  have lv : v.v.length = 10 := rfl
  have tv := take_all lv
  generalize hv : v.v = vv at *
  cases e : stemB a b z c d with
  | false =>
    rw [e] at c1
    simp +contextual (disch := first | omega | exact rfl | decide | exact kpF (by decide) | exact kpT (by decide) | assumption | exact Z2z | exact Z30 | exact Z32 | exact Z31 | exact Z33 | exact Z34 | (simp only [ZI] <;> omega) | simp only [ZK] | (simp only [ZL] <;> assumption)) only [Tryz.f122,ZH,SOp,GOp,↓Z1c,Int.reduceAdd,Int.reduceSub,Int.reduceMul,Int.reduceNeg,accs,touch,touchM,okPair,Nat.reduceAdd,Nat.reduceLeDiff,Nat.reduceMul,Nat.reduceSub,isV,opA,grdO,grd,Z41,Int.reduceLT,Int.reduceLE,Int.reduceToNat,builtinP,builtinA,changes,fieldAddrA,resA,tupled,↓reduceIte,Nat.reduceEqDiff,Nat.reduceLT,Z70,Int.reduceEq,dr122x1,Y3,Y4,Y27,Y28,Y30,Y31,Y33,Y34,Y35,Y37,Y39,Y42,Y44,Y51,derefA,np_none,np51,c1,ho,t36,ov]
  | true =>
    rw [e] at c1
    have e2 : mineB v a b z = false := by rw [e] at hn; simpa using hn
    rw [e2] at c2
    simp +contextual (disch := first | omega | exact rfl | decide | exact kpF (by decide) | exact kpT (by decide) | assumption | exact Z2z | exact Z30 | exact Z32 | exact Z31 | exact Z33 | exact Z34 | (simp only [ZI] <;> omega) | simp only [ZK] | (simp only [ZL] <;> assumption)) only [Tryz.f122,ZH,SOp,GOp,↓Z1c,Int.reduceAdd,Int.reduceSub,Int.reduceMul,Int.reduceNeg,accs,touch,touchM,okPair,Nat.reduceAdd,Nat.reduceLeDiff,Nat.reduceMul,Nat.reduceSub,isV,opA,grdO,grd,Z41,Int.reduceLT,Int.reduceLE,Int.reduceToNat,builtinP,builtinA,changes,fieldAddrA,resA,tupled,↓reduceIte,Nat.reduceEqDiff,Nat.reduceLT,Z70,Int.reduceEq,dr122x1,Y3,Y4,Y27,Y28,Y30,Y31,Y33,Y34,Y35,Y37,Y39,Y42,Y44,Y51,derefA,np_none,np51,c1,c2,ho,t36,tk,tp,tv,op,ov,hrow']
end Go.Am.R2

/- Stems on a volume: what is not its own is refused. -/
namespace Go.Am.R2
open Go.Proofs
set_option maxRecDepth 100000
set_option linter.unusedSimpArgs false
set_option linter.unusedVariables false
variable {σ : List O} {p : List Nat}
def zeros128 : List V := List.replicate 128 (.i .u8 0)
section
variable (v : VolR) (h : v.ok) {cs : List V} {a b c d : Int} {z : List Int} (hs : StemAt cs a b z c d) (ha : -9223372036854775808 ≤ a ∧ a ≤ 9223372036854775807) (hb : -9223372036854775808 ≤ b ∧ b ≤ 9223372036854775807) {r : Nat} {st : List Nat} (hr : r < σ.length) (hrow : rowAt σ r st = some v.v) (hn : (stemB a b z c d && mineB v a b z) = false)
include h hs ha hb hr hrow hn
variable {w : Nat} {ws : List Nat} (hw : w < σ.length) (hw' : rowAt σ w ws = some cs)
include hw hw'
theorem recopy_no (n : Int) : runF cfg 111 [.ptr r st 0,.ptr w ws 0,.i .i64 n] σ p = some (.i .i64 1,σ) := by
  refine run_done rfl rfl Tryz.func111 rfl ?_
  have t36 : take? cs 0 36 = some cs := take_all hs.len
  have ho := hs.one
  have hrow' : ∀ L,rowAt (σ ++ L) r st = some v.v := fun L => by
    rw [← hrow]; unfold rowAt; rw [List.getElem?_append_left hr]
  have hrw : ∀ L,rowAt (σ ++ L) w ws = some cs := fun L => by
    rw [← hw']; unfold rowAt; rw [List.getElem?_append_left hw]
  have c1 : ∀ L q,runF cfg 122 [.ptr r st 0,.agg cs] (σ ++ L) q = some (.b false,σ ++ L) := fun L q => ours_no v h hs ha hb (by simp; omega) (hrow' L) hn
  simp +contextual (disch := first | omega | exact rfl | decide | exact kpF (by decide) | exact kpT (by decide) | assumption | exact Z2z | exact Z30 | exact Z32 | exact Z31 | exact Z33 | exact Z34 | (simp only [ZI] <;> omega) | simp only [ZK] | (simp only [ZL] <;> assumption)) only [Tryz.f111,ZH,SOp,GOp,↓Z1c,Int.reduceAdd,Int.reduceSub,Int.reduceMul,Int.reduceNeg,accs,touch,touchM,okPair,Nat.reduceAdd,Nat.reduceLeDiff,Nat.reduceMul,Nat.reduceSub,isV,opA,grdO,grd,Z41,Int.reduceLT,Int.reduceLE,Int.reduceToNat,builtinP,builtinA,changes,fieldAddrA,resA,tupled,↓reduceIte,Nat.reduceEqDiff,Nat.reduceLT,Z70,Int.reduceEq,dr111x1,Y3,Y30,Y33,Y37,Y39,Y42,Y44,Y51,Y52,derefA,np_none,np56,c1,ho,t36,hrw]
end
end Go.Am.R2

/- Flows on a volume that isn't right, of a stem that isn't its own: all is refused. -/
namespace Go.Am.R2
open Go.Proofs
set_option maxRecDepth 100000
set_option linter.unusedSimpArgs false
set_option linter.unusedVariables false
variable {σ : List O} {p : List Nat}
theorem np56' {r o : Nat} {st : List Nat} : eqNilA cfg .eql 51 (.ptr r st o) .nilp = some (.b false) := by
  rw [eqNilA,if_pos (show oneNil cfg 51 (.ptr r st o) .nilp = true by kernel_rfl)]
theorem dr78x3 {p : List Nat} {s : St} {Q : Ex → St → Prop} (l : List Oper) : Wq cfg 78 p (.region 3 l.toArray true) s Q = OptQ (preObjs cfg p s.c 0 l) fun objs => TrXQ cfg p l.toArray s.σ.length s.c 0 l ⟨s.t,s.nt,s.σ ++ objs,s.c + objs.length⟩ [] fun tr s' => (([(9,6)] : List (Nat × Nat)).all (okPair tr) && slotsOk s.σ.length tr 0 objs [9,9]) = true ∧ Q .normal s' := Wp_drawY 3 l (show cfg.pre 78 3 = some [9,9] from rfl) (show cfg.cls 78 3 = [(9,6)] from rfl)
section
variable (v : VolR) (h : v.ok) {cs : List V} {a b c d : Int} {z : List Int} (hs : StemAt cs a b z c d) (ha : -9223372036854775808 ≤ a ∧ a ≤ 9223372036854775807) (hb : -9223372036854775808 ≤ b ∧ b ≤ 9223372036854775807) {r : Nat} {st : List Nat} (hr : r < σ.length) (hrow : rowAt σ r st = some v.v) (hn : (stemB a b z c d && mineB v a b z) = false)
include h hs ha hb hr hrow hn
theorem asked_no : runF cfg 80 [.ptr r st 0,.agg cs] σ p = some (.i .i64 1,σ) := by
  refine run_done rfl rfl Tryz.func80 rfl ?_
  have ho := hs.one
  have g35 := hs.g35
  have c1 : ∀ q q2 n,runF cfg 111 [.ptr r st 0,.ptr σ.length q2 0,.i .i64 n] (σ ++ [.cells q2 cs]) q = some (.i .i64 1,σ ++ [.cells q2 cs]) := fun q q2 n =>
    recopy_no v h hs ha hb (by simp; omega) (by rw [← hrow]; unfold rowAt; rw [List.getElem?_append_left hr]) hn (w := σ.length) (ws := q2) (by simp) (by rw [rowAt_app0]; simp [rowAt]) n
  simp +contextual (disch := first | omega | exact rfl | decide | exact kpF (by decide) | exact kpT (by decide) | assumption | exact Z2z | exact Z30 | exact Z32 | exact Z31 | exact Z33 | exact Z34 | (simp only [ZI] <;> omega) | simp only [ZK] | (simp only [ZL] <;> assumption)) only [Tryz.f80,ZH,SOp,GOp,↓Z1c,Int.reduceAdd,Int.reduceSub,Int.reduceMul,Int.reduceNeg,accs,touch,touchM,okPair,Nat.reduceAdd,Nat.reduceLeDiff,Nat.reduceMul,Nat.reduceSub,isV,opA,grdO,grd,Z41,Int.reduceLT,Int.reduceLE,Int.reduceToNat,builtinP,builtinA,changes,fieldAddrA,resA,tupled,↓reduceIte,Nat.reduceEqDiff,Nat.reduceLT,Z70,Int.reduceEq,Y3,Y42,Y44,derefA,c1,ho,g35]
theorem read_no (x y : Int) : runF cfg 89 [.ptr r st 0,.agg cs,.i .i64 x,.i .i64 y] σ p = some (.tup [.nils,.i .i64 1],σ) := by
  refine run_done rfl rfl Tryz.func89 rfl ?_
  have t36 : take? cs 0 36 = some cs := take_all hs.len
  have ho := hs.one
  have hrow' : ∀ L,rowAt (σ ++ L) r st = some v.v := fun L => by
    rw [← hrow]; unfold rowAt; rw [List.getElem?_append_left hr]
  have c1 : ∀ L q,runF cfg 80 [.ptr r st 0,.agg cs] (σ ++ L) q = some (.i .i64 1,σ ++ L) := fun L q => asked_no v h hs ha hb (by simp; omega) (hrow' L) hn
  by_cases h1 : x < 0 <;> by_cases h2 : y < 0 <;> simp +contextual (disch := first | omega | exact rfl | decide | exact kpF (by decide) | exact kpT (by decide) | assumption | exact Z2z | exact Z30 | exact Z32 | exact Z31 | exact Z33 | exact Z34 | (simp only [ZI] <;> omega) | simp only [ZK] | (simp only [ZL] <;> assumption)) only [Tryz.f89,ZH,SOp,GOp,↓Z1c,Int.reduceAdd,Int.reduceSub,Int.reduceMul,Int.reduceNeg,accs,touch,touchM,okPair,Nat.reduceAdd,Nat.reduceLeDiff,Nat.reduceMul,Nat.reduceSub,isV,opA,grdO,grd,Z41,Int.reduceLT,Int.reduceLE,Int.reduceToNat,builtinP,builtinA,changes,fieldAddrA,resA,tupled,↓reduceIte,Nat.reduceEqDiff,Nat.reduceLT,Z70,Int.reduceEq,Y3,Y23,Y30,Y33,Y35,Y37,Y39,Y42,Y44,Y51,derefA,c1,ho,t36,h1,h2]
variable {w : Nat} {ws : List Nat} (hw : w < σ.length) (hw' : rowAt σ w ws = some cs)
include hw'
variable {b0 b1 : Nat} {s0 s1 : List Nat} (k0 : b0 < σ.length) (k0' : rowAt σ b0 s0 = some [.ptr r st 0]) (k1 : b1 < σ.length) (k1' : rowAt σ b1 s1 = some [.ptr w ws 0])
include k0' k1'
theorem wr_no (x y : V) : runF cfg 118 [.ptr b0 s0 0,.ptr b1 s1 0,x,y] σ p = some (.i .i64 1,σ) := by
  refine run_done rfl rfl Tryz.func118 rfl ?_
  have t36 : take? cs 0 36 = some cs := take_all hs.len
  have c1 : ∀ q,runF cfg 80 [.ptr r st 0,.agg cs] σ q = some (.i .i64 1,σ) := fun q => asked_no v h hs ha hb hr hrow hn
  simp +contextual (disch := first | omega | exact rfl | decide | exact kpF (by decide) | exact kpT (by decide) | assumption | exact Z2z | exact Z30 | exact Z32 | exact Z31 | exact Z33 | exact Z34 | (simp only [ZI] <;> omega) | simp only [ZK] | (simp only [ZL] <;> assumption)) only [Tryz.f118,ZH,SOp,GOp,↓Z1c,Int.reduceAdd,Int.reduceSub,Int.reduceMul,Int.reduceNeg,accs,touch,touchM,okPair,Nat.reduceAdd,Nat.reduceLeDiff,Nat.reduceMul,Nat.reduceSub,isV,opA,grdO,grd,Z41,Int.reduceLT,Int.reduceLE,Int.reduceToNat,builtinP,builtinA,changes,fieldAddrA,resA,tupled,↓reduceIte,Nat.reduceEqDiff,Nat.reduceLT,Z70,Int.reduceEq,dr118x1,Y3,Y23,Y30,Y33,Y35,Y37,Y39,Y42,Y44,Y51,Y52,derefA,c1,t36,hw',k0',k1']
end
end Go.Am.R2

/- What is guarded and refused changes nothing. -/
namespace Go.Am.R2
open Go.Proofs
set_option maxRecDepth 100000
set_option linter.unusedSimpArgs false
set_option linter.unusedVariables false
variable {σ : List O} {p : List Nat}
theorem set_same {σ : List O} {r : Nat} {st : List Nat} {cs : List V} (h : rowAt σ r st = some cs) (hr : r < σ.length) (L : List O) : (σ ++ L).set r (.cells st cs) = σ ++ L := by
  have hrow := rowAt_some h
  refine List.ext_getElem? fun i => ?_
  rw [List.getElem?_set]
  split
  · rename_i e; subst e
    rw [if_pos (by simp; omega),List.getElem?_append_left hr,hrow]
  · rfl
theorem SCall_fnL {C : Cfg} {s : St} {K : St → Prop} {d : Option Nat} {f : Nat} {caps : List V} : SCall C p d (.fn f [] caps) [] s K = OptQ (runF C f caps s.σ (s.c :: p)) fun r => K ((⟨s.t,s.nt,r.2,s.c + 1⟩ : St).put d r.1) := rfl
theorem guard_no (v : VolR) (h : v.ok) {cs : List V} {a b c d : Int} {z : List Int} (hs : StemAt cs a b z c d) {r w : Nat} {st ws : List Nat} (hr : r < σ.length) (hrow : rowAt σ r st = some v.v) (hw : w < σ.length) (hw' : rowAt σ w ws = some cs)
    (f1 : Nat) (caps : List V) (hclo : ∀ L q,runF cfg f1 caps (σ ++ L) q = some (.i .i64 1,σ ++ L)) : runF cfg 78 [.ptr r st 0,.ptr w ws 0,.fn f1 [] caps] σ p = some (.i .i64 1,σ) := by
  refine run_done rfl rfl Tryz.func78 rfl ?_
  have o1 := h.d.s.one
  have o2 := h.d.c.one
  have o3 := h.m.s.one
  have o4 := h.s.sv.one
  have hl := hs.len
  have ho := hs.one
  have t36 : take? cs 0 36 = some cs := take_all hs.len
  have e1 := set_same hrow hr
  have e2 := set_same hw' hw
  have hrow' : ∀ L,rowAt (σ ++ L) r st = some v.v := fun L => by
    rw [← hrow]; unfold rowAt; rw [List.getElem?_append_left hr]
  have hrw : ∀ L,rowAt (σ ++ L) w ws = some cs := fun L => by
    rw [← hw']; unfold rowAt; rw [List.getElem?_append_left hw]
  have gw : ∀ L,(σ ++ L)[w]? = some (.cells ws cs) := fun L => by rw [List.getElem?_append_left hw]; exact rowAt_some hw'
  have gr : ∀ L,(σ ++ L)[r]? = some (.cells st v.v) := fun L => by rw [List.getElem?_append_left hr]; exact rowAt_some hrow
  simp only [VolR.v] at *
  simp +contextual (disch := first | omega | exact rfl | decide | exact kpF (by decide) | exact kpT (by decide) | assumption | exact Z2z | exact Z30 | exact Z32 | exact Z31 | exact Z33 | exact Z34 | (simp only [ZI] <;> omega) | simp only [ZK] | (simp only [ZL] <;> assumption)) only [Tryz.f78,ZH,SOp,GOp,↓Z1c,Int.reduceAdd,Int.reduceSub,Int.reduceMul,Int.reduceNeg,accs,touch,touchM,okPair,Nat.reduceAdd,Nat.reduceLeDiff,Nat.reduceMul,Nat.reduceSub,isV,opA,grdO,grd,Z41,Int.reduceLT,Int.reduceLE,Int.reduceToNat,builtinP,builtinA,changes,fieldAddrA,resA,tupled,↓reduceIte,Nat.reduceEqDiff,Nat.reduceLT,Z70,Int.reduceEq,dr78x6,Y3,Y4,Y23,Y27,Y28,Y30,Y31,Y33,Y34,Y35,Y37,Y39,Y42,Y44,Y51,Y52,dr78x3,preObjs,preO,TrXQ_nil,TrXQ_cons,StepXQ_alloc,StepXQ_step,slotsOk,Nat.add_assoc,List.take_succ_cons,SCall_fnL,derefA,np_none,np56,np56',hclo,o1,o2,o3,o4,hl,ho,t36,tk64,spl64,e1,e2,hrow,hw',hrow',hrw,gw,gr]
end Go.Am.R2

/- Writing, cutting and filling are refused. -/
namespace Go.Am.R2
open Go.Proofs
set_option maxRecDepth 100000
set_option linter.unusedSimpArgs false
set_option linter.unusedVariables false
variable {σ : List O} {p : List Nat}
section
variable (v : VolR) (h : v.ok) {cs : List V} {a b c d : Int} {z : List Int} (hs : StemAt cs a b z c d) (ha : -9223372036854775808 ≤ a ∧ a ≤ 9223372036854775807) (hb : -9223372036854775808 ≤ b ∧ b ≤ 9223372036854775807) {r : Nat} {st : List Nat} (hr : r < σ.length) (hrow : rowAt σ r st = some v.v) (hn : (stemB a b z c d && mineB v a b z) = false)
  {w : Nat} {ws : List Nat} (hw : w < σ.length) (hw' : rowAt σ w ws = some cs)
include h hs ha hb hr hrow hn hw hw'
theorem write_no (n : Int) (x : V) (hx : x.one = true) : runF cfg 84 [.ptr r st 0,.ptr w ws 0,.i .i64 n,x] σ p = some (.i .i64 1,σ) := by
  refine run_done rfl rfl Tryz.func84 rfl ?_
  have hrow' : ∀ L,rowAt (σ ++ L) r st = some v.v := fun L => by
    rw [← hrow]; unfold rowAt; rw [List.getElem?_append_left hr]
  have hrw : ∀ L,rowAt (σ ++ L) w ws = some cs := fun L => by
    rw [← hw']; unfold rowAt; rw [List.getElem?_append_left hw]
  have c1 : ∀ q s0 s1 x2 s2 x3 s3,runF cfg 78 [.ptr r st 0,.ptr w ws 0,.fn 118 [] [.ptr σ.length s0 0,.ptr (σ.length + 1) s1 0,.ptr (σ.length + 2) s2 0,.ptr (σ.length + 3) s3 0]] (σ ++ [.cells s0 [.ptr r st 0],.cells s1 [.ptr w ws 0],.cells s2 x2,.cells s3 x3]) q = some (.i .i64 1,σ ++ [.cells s0 [.ptr r st 0],.cells s1 [.ptr w ws 0],.cells s2 x2,.cells s3 x3]) := fun q s0 s1 x2 s2 x3 s3 => by
    refine guard_no v h hs (by simp; omega) (hrow' _) (by simp; omega) (hrw _) 118 _ fun L q => ?_
    rw [List.append_assoc]
    exact wr_no v h hs ha hb (by simp; omega) (hrow' _) hn (hrw _) (by rw [rowAt_app0]; simp [rowAt]) (by rw [rowAt_app]; simp [rowAt]) _ _
  simp +contextual (disch := first | omega | exact rfl | decide | exact kpF (by decide) | exact kpT (by decide) | assumption | exact Z2z | exact Z30 | exact Z32 | exact Z31 | exact Z33 | exact Z34 | (simp only [ZI] <;> omega) | simp only [ZK] | (simp only [ZL] <;> assumption)) only [Tryz.f84,ZH,SOp,GOp,↓Z1c,Int.reduceAdd,Int.reduceSub,Int.reduceMul,Int.reduceNeg,accs,touch,touchM,okPair,Nat.reduceAdd,Nat.reduceLeDiff,Nat.reduceMul,Nat.reduceSub,isV,opA,grdO,grd,Z41,Int.reduceLT,Int.reduceLE,Int.reduceToNat,builtinP,builtinA,changes,fieldAddrA,resA,tupled,↓reduceIte,Nat.reduceEqDiff,Nat.reduceLT,Z70,Int.reduceEq,Y3,Y30,Y33,Y35,Y37,Y39,Y42,Y44,Y51,Y52,derefA,c1,hx]
end
end Go.Am.R2

/- Tables on a volume that isn't right, of a stem that isn't its own: all is refused. -/
namespace Go.Am.R2
open Go.Proofs
set_option maxRecDepth 100000
set_option linter.unusedSimpArgs false
set_option linter.unusedVariables false
variable {σ : List O} {p : List Nat}
def placeI' (n : Int) : Int := IntKind.i64.wrap (64 * IntKind.i64.wrap (n - 1))
theorem num_ok (n : Int) : runF cfg 88 [.i .i64 n] σ p = some (.b (decide (1 ≤ n) && decide (n ≤ 64)),σ) := by
  refine run_done rfl rfl Tryz.func88 rfl ?_
  by_cases h1 : 1 ≤ n <;> by_cases h2 : n ≤ 64 <;> simp +contextual (disch := first | omega | exact rfl | decide | exact kpF (by decide) | exact kpT (by decide) | assumption | exact Z2z | exact Z30 | exact Z32 | exact Z31 | exact Z33 | exact Z34 | (simp only [ZI] <;> omega) | simp only [ZK] | (simp only [ZL] <;> assumption)) only [Tryz.f88,ZH,SOp,GOp,↓Z1c,Int.reduceAdd,Int.reduceSub,Int.reduceMul,Int.reduceNeg,accs,touch,touchM,okPair,Nat.reduceAdd,Nat.reduceLeDiff,Nat.reduceMul,Nat.reduceSub,isV,opA,grdO,grd,Z41,Int.reduceLT,Int.reduceLE,Int.reduceToNat,builtinP,builtinA,changes,fieldAddrA,resA,tupled,↓reduceIte,Nat.reduceEqDiff,Nat.reduceLT,Z70,Int.reduceEq,Y3,h1,h2]
theorem place3_ok (n : Int) : runF cfg 85 [.i .i64 n] σ p = some (.i .i64 (placeI' n),σ) := by
  refine run_done rfl rfl Tryz.func85 rfl ?_
  simp +contextual (disch := first | omega | exact rfl | decide | exact kpF (by decide) | exact kpT (by decide) | assumption | exact Z2z | exact Z30 | exact Z32 | exact Z31 | exact Z33 | exact Z34 | (simp only [ZI] <;> omega) | simp only [ZK] | (simp only [ZL] <;> assumption)) only [Tryz.f85,ZH,SOp,GOp,↓Z1c,Int.reduceAdd,Int.reduceSub,Int.reduceMul,Int.reduceNeg,accs,touch,touchM,okPair,Nat.reduceAdd,Nat.reduceLeDiff,Nat.reduceMul,Nat.reduceSub,isV,opA,grdO,grd,Z41,Int.reduceLT,Int.reduceLE,Int.reduceToNat,builtinP,builtinA,changes,fieldAddrA,resA,tupled,↓reduceIte,Nat.reduceEqDiff,Nat.reduceLT,Z70,Int.reduceEq,Y3]
  rfl
noncomputable def node0 : V := .agg (ints .i64 [0,0,0,0,0] ++ ints .u8 (List.replicate 32 0) ++ ints .i64 [0,0])
section
variable (v : VolR) (h : v.ok) {cs : List V} {a b c d : Int} {z : List Int} (hs : StemAt cs a b z c d) (ha : -9223372036854775808 ≤ a ∧ a ≤ 9223372036854775807) (hb : -9223372036854775808 ≤ b ∧ b ≤ 9223372036854775807) {r : Nat} {st : List Nat} (hr : r < σ.length) (hrow : rowAt σ r st = some v.v) (hn : (stemB a b z c d && mineB v a b z) = false)
include h hs ha hb hr hrow hn
theorem get_no (n : Int) : runF cfg 43 [.ptr r st 0,.agg cs,.i .i64 n] σ p = some (.tup [node0,.i .i64 1],σ) := by
  refine run_done rfl rfl Tryz.func43 rfl ?_
  have t36 : take? cs 0 36 = some cs := take_all hs.len
  have ho := hs.one
  have hrow' : ∀ L,rowAt (σ ++ L) r st = some v.v := fun L => by
    rw [← hrow]; unfold rowAt; rw [List.getElem?_append_left hr]
  have c1 : ∀ L q x y,runF cfg 89 [.ptr r st 0,.agg cs,.i .i64 x,.i .i64 y] (σ ++ L) q = some (.tup [.nils,.i .i64 1],σ ++ L) := fun L q x y => read_no v h hs ha hb (by simp; omega) (hrow' L) hn x y
  have c2 := fun (τ : List O) q => num_ok (σ := τ) (p := q) n
  have c3 := fun (τ : List O) q => place3_ok (σ := τ) (p := q) n
  generalize (decide (1 ≤ n) && decide (n ≤ 64)) = bb at c2
  cases bb <;> simp +contextual (disch := first | omega | exact rfl | decide | exact kpF (by decide) | exact kpT (by decide) | assumption | exact Z2z | exact Z30 | exact Z32 | exact Z31 | exact Z33 | exact Z34 | (simp only [ZI] <;> omega) | simp only [ZK] | (simp only [ZL] <;> assumption)) only [Tryz.f43,ZH,SOp,GOp,↓Z1c,Int.reduceAdd,Int.reduceSub,Int.reduceMul,Int.reduceNeg,accs,touch,touchM,okPair,Nat.reduceAdd,Nat.reduceLeDiff,Nat.reduceMul,Nat.reduceSub,isV,opA,grdO,grd,Z41,Int.reduceLT,Int.reduceLE,Int.reduceToNat,builtinP,builtinA,changes,fieldAddrA,resA,tupled,↓reduceIte,Nat.reduceEqDiff,Nat.reduceLT,Z70,Int.reduceEq,dr43x3,Y3,Y23,Y30,Y33,Y37,Y39,Y42,Y44,Y51,Y86,derefA,np_none,np56',c1,c2,c3,ho,t36] <;> rfl
variable {w : Nat} {ws : List Nat} (hw' : rowAt σ w ws = some cs)
include hw'
end
end Go.Am.R2

/- Regions that lay variables beside other work. -/
namespace Go.Am.R2
theorem dr33x3 {p : List Nat} {s : St} {Q : Ex → St → Prop} (l : List Oper) : Wq cfg 33 p (.region 3 l.toArray true) s Q = OptQ (preObjs cfg p s.c 0 l) fun objs => TrXQ cfg p l.toArray s.σ.length s.c 0 l ⟨s.t,s.nt,s.σ ++ objs,s.c + objs.length⟩ [] fun tr s' => (([(9,6)] : List (Nat × Nat)).all (okPair tr) && slotsOk s.σ.length tr 0 objs [9,9]) = true ∧ Q .normal s' := Wp_drawY 3 l (show cfg.pre 33 3 = some [9,9] from rfl) (show cfg.cls 33 3 = [(9,6)] from rfl)
theorem dr42x1 {p : List Nat} {s : St} {Q : Ex → St → Prop} (l : List Oper) : Wq cfg 42 p (.region 1 l.toArray true) s Q = OptQ (preObjs cfg p s.c 0 l) fun objs => TrXQ cfg p l.toArray s.σ.length s.c 0 l ⟨s.t,s.nt,s.σ ++ objs,s.c + objs.length⟩ [] fun tr s' => (([] : List (Nat × Nat)).all (okPair tr) && slotsOk s.σ.length tr 0 objs [10]) = true ∧ Q .normal s' := Wp_drawY 1 l (show cfg.pre 42 1 = some [10] from rfl) (show cfg.cls 42 1 = [] from rfl)
theorem dr45x1 {p : List Nat} {s : St} {Q : Ex → St → Prop} (l : List Oper) : Wq cfg 45 p (.region 1 l.toArray true) s Q = OptQ (preObjs cfg p s.c 0 l) fun objs => TrXQ cfg p l.toArray s.σ.length s.c 0 l ⟨s.t,s.nt,s.σ ++ objs,s.c + objs.length⟩ [] fun tr s' => (([] : List (Nat × Nat)).all (okPair tr) && slotsOk s.σ.length tr 0 objs [11]) = true ∧ Q .normal s' := Wp_drawY 1 l (show cfg.pre 45 1 = some [11] from rfl) (show cfg.cls 45 1 = [] from rfl)
theorem dr48x1 {p : List Nat} {s : St} {Q : Ex → St → Prop} (l : List Oper) : Wq cfg 48 p (.region 1 l.toArray true) s Q = OptQ (preObjs cfg p s.c 0 l) fun objs => TrXQ cfg p l.toArray s.σ.length s.c 0 l ⟨s.t,s.nt,s.σ ++ objs,s.c + objs.length⟩ [] fun tr s' => (([] : List (Nat × Nat)).all (okPair tr) && slotsOk s.σ.length tr 0 objs [11]) = true ∧ Q .normal s' := Wp_drawY 1 l (show cfg.pre 48 1 = some [11] from rfl) (show cfg.cls 48 1 = [] from rfl)
theorem dr50x1 {p : List Nat} {s : St} {Q : Ex → St → Prop} (l : List Oper) : Wq cfg 50 p (.region 1 l.toArray true) s Q = OptQ (preObjs cfg p s.c 0 l) fun objs => TrXQ cfg p l.toArray s.σ.length s.c 0 l ⟨s.t,s.nt,s.σ ++ objs,s.c + objs.length⟩ [] fun tr s' => (([] : List (Nat × Nat)).all (okPair tr) && slotsOk s.σ.length tr 0 objs [11]) = true ∧ Q .normal s' := Wp_drawY 1 l (show cfg.pre 50 1 = some [11] from rfl) (show cfg.cls 50 1 = [] from rfl)
end Go.Am.R2

/- Directories and names on a volume that isn't right, of a table that isn't its own: all is refused. -/
namespace Go.Am.R2
open Go.Proofs
set_option maxRecDepth 100000
set_option linter.unusedSimpArgs false
set_option linter.unusedVariables false
variable {σ : List O} {p : List Nat}
theorem np51e {r o : Nat} {st : List Nat} : eqNilA cfg .eql 51 (.ptr r st o) .nilp = some (.b false) := by
  rw [eqNilA,if_pos (show oneNil cfg 51 (.ptr r st o) .nilp = true by kernel_rfl)]
theorem np52e {r o : Nat} {st : List Nat} : eqNilA cfg .eql 52 (.ptr r st o) .nilp = some (.b false) := by
  rw [eqNilA,if_pos (show oneNil cfg 52 (.ptr r st o) .nilp = true by kernel_rfl)]
section
variable (v : VolR) (h : v.ok) {cs : List V} {a b c d : Int} {z : List Int} (hs : StemAt cs a b z c d) (ha : -9223372036854775808 ≤ a ∧ a ≤ 9223372036854775807) (hb : -9223372036854775808 ≤ b ∧ b ≤ 9223372036854775807) {r : Nat} {st : List Nat} (hr : r < σ.length) (hrow : rowAt σ r st = some v.v) (hn : (stemB a b z c d && mineB v a b z) = false)
include h hs ha hb hr hrow hn
theorem node_no (n : Int) : runF cfg 72 [.ptr r st 0,.agg cs,.i .i64 n] σ p = some (.tup [node0,.i .i64 1],σ) := by
  refine run_done rfl rfl Tryz.func72 rfl ?_
  have t36 : take? cs 0 36 = some cs := take_all hs.len
  have ho := hs.one
  have hl := hs.len
  have hrow' : ∀ L,rowAt (σ ++ L) r st = some v.v := fun L => by
    rw [← hrow]; unfold rowAt; rw [List.getElem?_append_left hr]
  have c1 : ∀ L q x,runF cfg 43 [.ptr r st 0,.agg cs,.i .i64 x] (σ ++ L) q = some (.tup [node0,.i .i64 1],σ ++ L) := fun L q x => get_no v h hs ha hb (by simp; omega) (hrow' L) hn x
  simp +contextual (disch := first | omega | exact rfl | decide | exact kpF (by decide) | exact kpT (by decide) | assumption | exact Z2z | exact Z30 | exact Z32 | exact Z31 | exact Z33 | exact Z34 | (simp only [ZI] <;> omega) | simp only [ZK] | (simp only [ZL] <;> assumption)) only [Tryz.f72,ZH,SOp,GOp,↓Z1c,Int.reduceAdd,Int.reduceSub,Int.reduceMul,Int.reduceNeg,accs,touch,touchM,okPair,Nat.reduceAdd,Nat.reduceLeDiff,Nat.reduceMul,Nat.reduceSub,isV,opA,grdO,grd,Z41,Int.reduceLT,Int.reduceLE,Int.reduceToNat,builtinP,builtinA,changes,fieldAddrA,resA,tupled,↓reduceIte,Nat.reduceEqDiff,Nat.reduceLT,Z70,Int.reduceEq,Y3,Y23,Y42,Y44,Y86,node0,derefA,c1,ho,t36] <;> rfl
theorem fread_no (n : Int) : runF cfg 35 [.ptr r st 0,.agg cs,.i .i64 n] σ p = some (.tup [.nils,.i .i64 1],σ) := by
  refine run_done rfl rfl Tryz.func35 rfl ?_
  have t36 : take? cs 0 36 = some cs := take_all hs.len
  have ho := hs.one
  have hl := hs.len
  have hrow' : ∀ L,rowAt (σ ++ L) r st = some v.v := fun L => by
    rw [← hrow]; unfold rowAt; rw [List.getElem?_append_left hr]
  have c1 : ∀ L q x,runF cfg 72 [.ptr r st 0,.agg cs,.i .i64 x] (σ ++ L) q = some (.tup [node0,.i .i64 1],σ ++ L) := fun L q x => node_no v h hs ha hb (by simp; omega) (hrow' L) hn x
  simp +contextual (disch := first | omega | exact rfl | decide | exact kpF (by decide) | exact kpT (by decide) | assumption | exact Z2z | exact Z30 | exact Z32 | exact Z31 | exact Z33 | exact Z34 | (simp only [ZI] <;> omega) | simp only [ZK] | (simp only [ZL] <;> assumption)) only [Tryz.f35,ZH,SOp,GOp,↓Z1c,Int.reduceAdd,Int.reduceSub,Int.reduceMul,Int.reduceNeg,accs,touch,touchM,okPair,Nat.reduceAdd,Nat.reduceLeDiff,Nat.reduceMul,Nat.reduceSub,isV,opA,grdO,grd,Z41,Int.reduceLT,Int.reduceLE,Int.reduceToNat,builtinP,builtinA,changes,fieldAddrA,resA,tupled,↓reduceIte,Nat.reduceEqDiff,Nat.reduceLT,Z70,Int.reduceEq,Y3,Y23,Y42,Y44,Y86,node0,derefA,c1,ho,t36]
theorem ffind_no (n : Int) (x : ByteArray) : runF cfg 21 [.ptr r st 0,.agg cs,.i .i64 n,.s x] σ p = some (.tup [.i .i64 0,.i .i64 1],σ) := by
  refine run_done rfl rfl Tryz.func21 rfl ?_
  have t36 : take? cs 0 36 = some cs := take_all hs.len
  have ho := hs.one
  have hl := hs.len
  have hrow' : ∀ L,rowAt (σ ++ L) r st = some v.v := fun L => by
    rw [← hrow]; unfold rowAt; rw [List.getElem?_append_left hr]
  have c1 : ∀ L q x,runF cfg 35 [.ptr r st 0,.agg cs,.i .i64 x] (σ ++ L) q = some (.tup [.nils,.i .i64 1],σ ++ L) := fun L q x => fread_no v h hs ha hb (by simp; omega) (hrow' L) hn x
  simp +contextual (disch := first | omega | exact rfl | decide | exact kpF (by decide) | exact kpT (by decide) | assumption | exact Z2z | exact Z30 | exact Z32 | exact Z31 | exact Z33 | exact Z34 | (simp only [ZI] <;> omega) | simp only [ZK] | (simp only [ZL] <;> assumption)) only [Tryz.f21,ZH,SOp,GOp,↓Z1c,Int.reduceAdd,Int.reduceSub,Int.reduceMul,Int.reduceNeg,accs,touch,touchM,okPair,Nat.reduceAdd,Nat.reduceLeDiff,Nat.reduceMul,Nat.reduceSub,isV,opA,grdO,grd,Z41,Int.reduceLT,Int.reduceLE,Int.reduceToNat,builtinP,builtinA,changes,fieldAddrA,resA,tupled,↓reduceIte,Nat.reduceEqDiff,Nat.reduceLT,Z70,Int.reduceEq,Y3,Y23,Y42,Y44,derefA,c1,ho,t36]
theorem named_no (n : Int) (x : ByteArray) : runF cfg 46 [.ptr r st 0,.agg cs,.i .i64 n,.s x] σ p = some (.tup [node0,.i .i64 1],σ) := by
  refine run_done rfl rfl Tryz.func46 rfl ?_
  have t36 : take? cs 0 36 = some cs := take_all hs.len
  have ho := hs.one
  have hl := hs.len
  have hrow' : ∀ L,rowAt (σ ++ L) r st = some v.v := fun L => by
    rw [← hrow]; unfold rowAt; rw [List.getElem?_append_left hr]
  have c1 : ∀ L q n x,runF cfg 21 [.ptr r st 0,.agg cs,.i .i64 n,.s x] (σ ++ L) q = some (.tup [.i .i64 0,.i .i64 1],σ ++ L) := fun L q n x => ffind_no v h hs ha hb (by simp; omega) (hrow' L) hn n x
  simp +contextual (disch := first | omega | exact rfl | decide | exact kpF (by decide) | exact kpT (by decide) | assumption | exact Z2z | exact Z30 | exact Z32 | exact Z31 | exact Z33 | exact Z34 | (simp only [ZI] <;> omega) | simp only [ZK] | (simp only [ZL] <;> assumption)) only [Tryz.f46,ZH,SOp,GOp,↓Z1c,Int.reduceAdd,Int.reduceSub,Int.reduceMul,Int.reduceNeg,accs,touch,touchM,okPair,Nat.reduceAdd,Nat.reduceLeDiff,Nat.reduceMul,Nat.reduceSub,isV,opA,grdO,grd,Z41,Int.reduceLT,Int.reduceLE,Int.reduceToNat,builtinP,builtinA,changes,fieldAddrA,resA,tupled,↓reduceIte,Nat.reduceEqDiff,Nat.reduceLT,Z70,Int.reduceEq,Y3,Y23,Y42,Y44,Y86,node0,derefA,c1,ho,t36] <;> rfl
end
end Go.Am.R2

/- What is tried and refused changes nothing. -/
namespace Go.Am.R2
open Go.Proofs
set_option maxRecDepth 100000
set_option linter.unusedSimpArgs false
set_option linter.unusedVariables false
variable {σ : List O} {p : List Nat}
theorem tryl_no (v : VolR) (h : v.ok) {cs : List V} {a b c d : Int} {z : List Int} (hs : StemAt cs a b z c d) {r w : Nat} {st ws : List Nat} (hr : r < σ.length) (hrow : rowAt σ r st = some v.v) (hw : w < σ.length) (hw' : rowAt σ w ws = some cs)
    (f1 : Nat) (caps : List V) (hclo : ∀ L q,runF cfg f1 caps (σ ++ L) q = some (.i .i64 1,σ ++ L)) : runF cfg 33 [.ptr r st 0,.ptr w ws 0,.fn f1 [] caps] σ p = some (.i .i64 1,σ) := by
  refine run_done rfl rfl Tryz.func33 rfl ?_
  have o1 := h.d.s.one
  have o2 := h.d.c.one
  have o3 := h.m.s.one
  have o4 := h.s.sv.one
  have hl := hs.len
  have ho := hs.one
  have t36 : take? cs 0 36 = some cs := take_all hs.len
  have e1 := set_same hrow hr
  have e2 := set_same hw' hw
  have hrow' : ∀ L,rowAt (σ ++ L) r st = some v.v := fun L => by
    rw [← hrow]; unfold rowAt; rw [List.getElem?_append_left hr]
  have hrw : ∀ L,rowAt (σ ++ L) w ws = some cs := fun L => by
    rw [← hw']; unfold rowAt; rw [List.getElem?_append_left hw]
  have gw : ∀ L,(σ ++ L)[w]? = some (.cells ws cs) := fun L => by rw [List.getElem?_append_left hw]; exact rowAt_some hw'
  have gr : ∀ L,(σ ++ L)[r]? = some (.cells st v.v) := fun L => by rw [List.getElem?_append_left hr]; exact rowAt_some hrow
  simp only [VolR.v] at *
  simp +contextual (disch := first | omega | exact rfl | decide | exact kpF (by decide) | exact kpT (by decide) | assumption | exact Z2z | exact Z30 | exact Z32 | exact Z31 | exact Z33 | exact Z34 | (simp only [ZI] <;> omega) | simp only [ZK] | (simp only [ZL] <;> assumption)) only [Tryz.f33,ZH,SOp,GOp,↓Z1c,Int.reduceAdd,Int.reduceSub,Int.reduceMul,Int.reduceNeg,accs,touch,touchM,okPair,Nat.reduceAdd,Nat.reduceLeDiff,Nat.reduceMul,Nat.reduceSub,isV,opA,grdO,grd,Z41,Int.reduceLT,Int.reduceLE,Int.reduceToNat,builtinP,builtinA,changes,fieldAddrA,resA,tupled,↓reduceIte,Nat.reduceEqDiff,Nat.reduceLT,Z70,Int.reduceEq,dr33x6,Y3,Y4,Y23,Y27,Y28,Y30,Y31,Y33,Y34,Y35,Y37,Y39,Y42,Y44,Y51,Y52,dr33x3,preObjs,preO,TrXQ_nil,TrXQ_cons,StepXQ_alloc,StepXQ_step,slotsOk,Nat.add_assoc,List.take_succ_cons,SCall_fnL,derefA,np_none,np51e,np52e,hclo,o1,o2,o3,o4,hl,ho,t36,tk64,spl64,e1,e2,hrow,hw',hrow',hrw,gw,gr]
end Go.Am.R2

/- What is done to names is refused. -/
namespace Go.Am.R2
open Go.Proofs
set_option maxRecDepth 100000
set_option linter.unusedSimpArgs false
set_option linter.unusedVariables false
variable {σ : List O} {p : List Nat}
theorem node0c : node0 = .agg [.i .i64 0,.i .i64 0,.i .i64 0,.i .i64 0,.i .i64 0,.i .u8 0,.i .u8 0,.i .u8 0,.i .u8 0,.i .u8 0,.i .u8 0,.i .u8 0,.i .u8 0,.i .u8 0,.i .u8 0,.i .u8 0,.i .u8 0,.i .u8 0,.i .u8 0,.i .u8 0,.i .u8 0,.i .u8 0,.i .u8 0,.i .u8 0,.i .u8 0,.i .u8 0,.i .u8 0,.i .u8 0,.i .u8 0,.i .u8 0,.i .u8 0,.i .u8 0,.i .u8 0,.i .u8 0,.i .u8 0,.i .u8 0,.i .u8 0,.i .i64 0,.i .i64 0] := rfl
section
variable (v : VolR) (h : v.ok) {cs : List V} {a b c d : Int} {z : List Int} (hs : StemAt cs a b z c d) (ha : -9223372036854775808 ≤ a ∧ a ≤ 9223372036854775807) (hb : -9223372036854775808 ≤ b ∧ b ≤ 9223372036854775807) {r : Nat} {st : List Nat} (hr : r < σ.length) (hrow : rowAt σ r st = some v.v) (hn : (stemB a b z c d && mineB v a b z) = false)
  {w : Nat} {ws : List Nat} (hw : w < σ.length) (hw' : rowAt σ w ws = some cs)
  {b0 b1 b2 b3 : Nat} {s0 s1 s2 s3 : List Nat} (k0 : b0 < σ.length) (k0' : rowAt σ b0 s0 = some [.ptr r st 0]) (k1 : b1 < σ.length) (k1' : rowAt σ b1 s1 = some [.ptr w ws 0])
include h hs ha hb hr hrow hn hw hw' k0 k0' k1 k1'
theorem lnk_no (n : Int) (x y : V) (k2 : b2 < σ.length) (k2' : rowAt σ b2 s2 = some [.i .i64 n]) : runF cfg 42 [.ptr b0 s0 0,.ptr b1 s1 0,.ptr b2 s2 0,x,y] σ p = some (.i .i64 1,σ) := by
  refine run_done rfl rfl Tryz.func42 rfl ?_
  have t36 : take? cs 0 36 = some cs := take_all hs.len
  have ho := hs.one
  have hl := hs.len
  have up : ∀ {i : Nat} {si : List Nat} {x : List V},i < σ.length → rowAt σ i si = some x → ∀ L,rowAt (σ ++ L) i si = some x := fun hi hx L => by
    rw [← hx]; unfold rowAt; rw [List.getElem?_append_left hi]
  have hrow' := up hr hrow
  have hrw := up hw hw'
  have q0 := up k0 k0'
  have q1 := up k1 k1'
  have q2 := up k2 k2'
  have c1 : ∀ L q x,runF cfg 43 [.ptr r st 0,.agg cs,.i .i64 x] (σ ++ L) q = some (.tup [node0,.i .i64 1],σ ++ L) := fun L q x => get_no v h hs ha hb (by simp; omega) (hrow' L) hn x
  simp +contextual (disch := first | omega | exact rfl | decide | exact kpF (by decide) | exact kpT (by decide) | assumption | exact Z2z | exact Z30 | exact Z32 | exact Z31 | exact Z33 | exact Z34 | (simp only [ZI] <;> omega) | simp only [ZK] | (simp only [ZL] <;> assumption)) only [Tryz.f42,ZH,SOp,GOp,↓Z1c,Int.reduceAdd,Int.reduceSub,Int.reduceMul,Int.reduceNeg,accs,touch,touchM,okPair,Nat.reduceAdd,Nat.reduceLeDiff,Nat.reduceMul,Nat.reduceSub,isV,opA,grdO,grd,Z41,Int.reduceLT,Int.reduceLE,Int.reduceToNat,builtinP,builtinA,changes,fieldAddrA,resA,tupled,↓reduceIte,Nat.reduceEqDiff,Nat.reduceLT,Z70,Int.reduceEq,Y3,Y9,Y23,Y30,Y33,Y37,Y39,Y42,Y44,Y51,Y52,Y86,dr42x1,preObjs,preO,TrXQ_nil,TrXQ_cons,StepXQ_alloc,StepXQ_step,slotsOk,Nat.add_assoc,List.take_succ_cons,derefA,node0c,c1,ho,t36,hl,q0,q1,hrw,k0',k1',hw',q2,k2']
theorem unl_no (n : Int) (x : ByteArray) (k2 : b2 < σ.length) (k2' : rowAt σ b2 s2 = some [.i .i64 n]) (k3 : b3 < σ.length) (k3' : rowAt σ b3 s3 = some [.s x]) : runF cfg 45 [.ptr b0 s0 0,.ptr b1 s1 0,.ptr b2 s2 0,.ptr b3 s3 0] σ p = some (.i .i64 1,σ) := by
  refine run_done rfl rfl Tryz.func45 rfl ?_
  have t36 : take? cs 0 36 = some cs := take_all hs.len
  have ho := hs.one
  have hl := hs.len
  have up : ∀ {i : Nat} {si : List Nat} {x : List V},i < σ.length → rowAt σ i si = some x → ∀ L,rowAt (σ ++ L) i si = some x := fun hi hx L => by
    rw [← hx]; unfold rowAt; rw [List.getElem?_append_left hi]
  have hrow' := up hr hrow
  have hrw := up hw hw'
  have q0 := up k0 k0'
  have q1 := up k1 k1'
  have q2 := up k2 k2'
  have q3 := up k3 k3'
  have c1 : ∀ L q n x,runF cfg 46 [.ptr r st 0,.agg cs,.i .i64 n,.s x] (σ ++ L) q = some (.tup [node0,.i .i64 1],σ ++ L) := fun L q n x => named_no v h hs ha hb (by simp; omega) (hrow' L) hn n x
  simp +contextual (disch := first | omega | exact rfl | decide | exact kpF (by decide) | exact kpT (by decide) | assumption | exact Z2z | exact Z30 | exact Z32 | exact Z31 | exact Z33 | exact Z34 | (simp only [ZI] <;> omega) | simp only [ZK] | (simp only [ZL] <;> assumption)) only [Tryz.f45,ZH,SOp,GOp,↓Z1c,Int.reduceAdd,Int.reduceSub,Int.reduceMul,Int.reduceNeg,accs,touch,touchM,okPair,Nat.reduceAdd,Nat.reduceLeDiff,Nat.reduceMul,Nat.reduceSub,isV,opA,grdO,grd,Z41,Int.reduceLT,Int.reduceLE,Int.reduceToNat,builtinP,builtinA,changes,fieldAddrA,resA,tupled,↓reduceIte,Nat.reduceEqDiff,Nat.reduceLT,Z70,Int.reduceEq,Y3,Y9,Y23,Y30,Y33,Y37,Y39,Y42,Y44,Y51,Y52,Y86,dr45x1,preObjs,preO,TrXQ_nil,TrXQ_cons,StepXQ_alloc,StepXQ_step,slotsOk,Nat.add_assoc,List.take_succ_cons,derefA,node0c,c1,ho,t36,hl,q0,q1,hrw,k0',k1',hw',q2,k2',q3,k3']
theorem rmd_no (n : Int) (x : ByteArray) (k2 : b2 < σ.length) (k2' : rowAt σ b2 s2 = some [.i .i64 n]) (k3 : b3 < σ.length) (k3' : rowAt σ b3 s3 = some [.s x]) : runF cfg 48 [.ptr b0 s0 0,.ptr b1 s1 0,.ptr b2 s2 0,.ptr b3 s3 0] σ p = some (.i .i64 1,σ) := by
  refine run_done rfl rfl Tryz.func48 rfl ?_
  have t36 : take? cs 0 36 = some cs := take_all hs.len
  have ho := hs.one
  have hl := hs.len
  have up : ∀ {i : Nat} {si : List Nat} {x : List V},i < σ.length → rowAt σ i si = some x → ∀ L,rowAt (σ ++ L) i si = some x := fun hi hx L => by
    rw [← hx]; unfold rowAt; rw [List.getElem?_append_left hi]
  have hrow' := up hr hrow
  have hrw := up hw hw'
  have q0 := up k0 k0'
  have q1 := up k1 k1'
  have q2 := up k2 k2'
  have q3 := up k3 k3'
  have c1 : ∀ L q n x,runF cfg 46 [.ptr r st 0,.agg cs,.i .i64 n,.s x] (σ ++ L) q = some (.tup [node0,.i .i64 1],σ ++ L) := fun L q n x => named_no v h hs ha hb (by simp; omega) (hrow' L) hn n x
  simp +contextual (disch := first | omega | exact rfl | decide | exact kpF (by decide) | exact kpT (by decide) | assumption | exact Z2z | exact Z30 | exact Z32 | exact Z31 | exact Z33 | exact Z34 | (simp only [ZI] <;> omega) | simp only [ZK] | (simp only [ZL] <;> assumption)) only [Tryz.f48,ZH,SOp,GOp,↓Z1c,Int.reduceAdd,Int.reduceSub,Int.reduceMul,Int.reduceNeg,accs,touch,touchM,okPair,Nat.reduceAdd,Nat.reduceLeDiff,Nat.reduceMul,Nat.reduceSub,isV,opA,grdO,grd,Z41,Int.reduceLT,Int.reduceLE,Int.reduceToNat,builtinP,builtinA,changes,fieldAddrA,resA,tupled,↓reduceIte,Nat.reduceEqDiff,Nat.reduceLT,Z70,Int.reduceEq,Y3,Y9,Y23,Y30,Y33,Y37,Y39,Y42,Y44,Y51,Y52,Y86,dr48x1,preObjs,preO,TrXQ_nil,TrXQ_cons,StepXQ_alloc,StepXQ_step,slotsOk,Nat.add_assoc,List.take_succ_cons,derefA,node0c,c1,ho,t36,hl,q0,q1,hrw,k0',k1',hw',q2,k2',q3,k3']
theorem ren_no (n : Int) (x : ByteArray) (y y2 : V) (k2 : b2 < σ.length) (k2' : rowAt σ b2 s2 = some [.i .i64 n]) (k3 : b3 < σ.length) (k3' : rowAt σ b3 s3 = some [.s x]) : runF cfg 50 [.ptr b0 s0 0,.ptr b1 s1 0,.ptr b2 s2 0,.ptr b3 s3 0,y,y2] σ p = some (.i .i64 1,σ) := by
  refine run_done rfl rfl Tryz.func50 rfl ?_
  have t36 : take? cs 0 36 = some cs := take_all hs.len
  have ho := hs.one
  have hl := hs.len
  have up : ∀ {i : Nat} {si : List Nat} {x : List V},i < σ.length → rowAt σ i si = some x → ∀ L,rowAt (σ ++ L) i si = some x := fun hi hx L => by
    rw [← hx]; unfold rowAt; rw [List.getElem?_append_left hi]
  have hrow' := up hr hrow
  have hrw := up hw hw'
  have q0 := up k0 k0'
  have q1 := up k1 k1'
  have q2 := up k2 k2'
  have q3 := up k3 k3'
  have c1 : ∀ L q n x,runF cfg 46 [.ptr r st 0,.agg cs,.i .i64 n,.s x] (σ ++ L) q = some (.tup [node0,.i .i64 1],σ ++ L) := fun L q n x => named_no v h hs ha hb (by simp; omega) (hrow' L) hn n x
  simp +contextual (disch := first | omega | exact rfl | decide | exact kpF (by decide) | exact kpT (by decide) | assumption | exact Z2z | exact Z30 | exact Z32 | exact Z31 | exact Z33 | exact Z34 | (simp only [ZI] <;> omega) | simp only [ZK] | (simp only [ZL] <;> assumption)) only [Tryz.f50,ZH,SOp,GOp,↓Z1c,Int.reduceAdd,Int.reduceSub,Int.reduceMul,Int.reduceNeg,accs,touch,touchM,okPair,Nat.reduceAdd,Nat.reduceLeDiff,Nat.reduceMul,Nat.reduceSub,isV,opA,grdO,grd,Z41,Int.reduceLT,Int.reduceLE,Int.reduceToNat,builtinP,builtinA,changes,fieldAddrA,resA,tupled,↓reduceIte,Nat.reduceEqDiff,Nat.reduceLT,Z70,Int.reduceEq,Y3,Y9,Y23,Y30,Y33,Y37,Y39,Y42,Y44,Y51,Y52,Y86,dr50x1,preObjs,preO,TrXQ_nil,TrXQ_cons,StepXQ_alloc,StepXQ_step,slotsOk,Nat.add_assoc,List.take_succ_cons,derefA,node0c,c1,ho,t36,hl,q0,q1,hrw,k0',k1',hw',q2,k2',q3,k3']
end
end Go.Am.R2

/- What is made, and the functions that are called. -/
namespace Go.Am.R2
open Go.Proofs
set_option maxRecDepth 100000
set_option linter.unusedSimpArgs false
set_option linter.unusedVariables false
variable {σ : List O} {p : List Nat}
theorem check_ok (n : Int) : runF cfg 6 [.i .i64 n,.s .empty,.i .i64 1] σ p = some (.i .i64 0,σ) := by
  refine run_done rfl rfl Tryz.func6 rfl ?_
  simp +contextual (disch := first | omega | exact rfl | decide | exact kpF (by decide) | exact kpT (by decide) | assumption | exact Z2z | exact Z30 | exact Z32 | exact Z31 | exact Z33 | exact Z34 | (simp only [ZI] <;> omega) | simp only [ZK] | (simp only [ZL] <;> assumption)) only [Tryz.f6,ZH,SOp,GOp,↓Z1c,Int.reduceAdd,Int.reduceSub,Int.reduceMul,Int.reduceNeg,accs,touch,touchM,okPair,Nat.reduceAdd,Nat.reduceLeDiff,Nat.reduceMul,Nat.reduceSub,isV,opA,grdO,grd,Z41,Int.reduceLT,Int.reduceLE,Int.reduceToNat,builtinP,builtinA,changes,fieldAddrA,resA,tupled,↓reduceIte,Nat.reduceEqDiff,Nat.reduceLT,Z70,Int.reduceEq,Y3,Y9] <;> rfl
section
variable (v : VolR) (h : v.ok) {cs : List V} {a b c d : Int} {z : List Int} (hs : StemAt cs a b z c d) (ha : -9223372036854775808 ≤ a ∧ a ≤ 9223372036854775807) (hb : -9223372036854775808 ≤ b ∧ b ≤ 9223372036854775807) {r : Nat} {st : List Nat} (hr : r < σ.length) (hrow : rowAt σ r st = some v.v) (hn : (stemB a b z c d && mineB v a b z) = false)
  {w : Nat} {ws : List Nat} (hw : w < σ.length) (hw' : rowAt σ w ws = some cs)
  {b0 b1 b2 b3 b4 : Nat} {s0 s1 s2 s3 s4 : List Nat} (k0 : b0 < σ.length) (k0' : rowAt σ b0 s0 = some [.ptr r st 0]) (k1 : b1 < σ.length) (k1' : rowAt σ b1 s1 = some [.ptr w ws 0])
include h hs ha hb hr hrow hn hw hw' k0 k0' k1 k1'
theorem mk_no (n : Int) (y y2 : V) (k2 : b2 < σ.length) (k2' : rowAt σ b2 s2 = some [.i .i64 n]) (k3 : b3 < σ.length) (k3' : rowAt σ b3 s3 = some [.s .empty]) (k4 : b4 < σ.length) (k4' : rowAt σ b4 s4 = some [.i .i64 1]) : runF cfg 34 [.ptr b2 s2 0,.ptr b3 s3 0,.ptr b4 s4 0,.ptr b0 s0 0,.ptr b1 s1 0,y,y2] σ p = some (.i .i64 1,σ) := by
  refine run_done rfl rfl Tryz.func34 rfl ?_
  have t36 : take? cs 0 36 = some cs := take_all hs.len
  have ho := hs.one
  have hl := hs.len
  have up : ∀ {i : Nat} {si : List Nat} {x : List V},i < σ.length → rowAt σ i si = some x → ∀ L,rowAt (σ ++ L) i si = some x := fun hi hx L => by
    rw [← hx]; unfold rowAt; rw [List.getElem?_append_left hi]
  have hrow' := up hr hrow
  have hrw := up hw hw'
  have q0 := up k0 k0'
  have q1 := up k1 k1'
  have q2 := up k2 k2'
  have q3 := up k3 k3'
  have q4 := up k4 k4'
  have c0 := fun (τ : List O) q => check_ok (σ := τ) (p := q) n
  have c1 : ∀ q x,runF cfg 35 [.ptr r st 0,.agg cs,.i .i64 x] σ q = some (.tup [.nils,.i .i64 1],σ) := fun q x => fread_no v h hs ha hb hr hrow hn x
  simp +contextual (disch := first | omega | exact rfl | decide | exact kpF (by decide) | exact kpT (by decide) | assumption | exact Z2z | exact Z30 | exact Z32 | exact Z31 | exact Z33 | exact Z34 | (simp only [ZI] <;> omega) | simp only [ZK] | (simp only [ZL] <;> assumption)) only [Tryz.f34,ZH,SOp,GOp,↓Z1c,Int.reduceAdd,Int.reduceSub,Int.reduceMul,Int.reduceNeg,accs,touch,touchM,okPair,Nat.reduceAdd,Nat.reduceLeDiff,Nat.reduceMul,Nat.reduceSub,isV,opA,grdO,grd,Z41,Int.reduceLT,Int.reduceLE,Int.reduceToNat,builtinP,builtinA,changes,fieldAddrA,resA,tupled,↓reduceIte,Nat.reduceEqDiff,Nat.reduceLT,Z70,Int.reduceEq,dr34x4,Y3,Y9,Y23,Y30,Y33,Y35,Y37,Y39,Y42,Y44,Y51,Y52,Y86,derefA,c0,c1,ho,t36,hl,q0,q1,q2,q3,q4,hrw,k0',k1',k2',k3',k4',hw']
end
end Go.Am.R2

/- The functions that are called: all is refused. -/
namespace Go.Am.R2
open Go.Proofs
set_option maxRecDepth 100000
set_option linter.unusedSimpArgs false
set_option linter.unusedVariables false
variable {σ : List O} {p : List Nat}
section
variable (v : VolR) (h : v.ok) {cs : List V} {a b c d : Int} {z : List Int} (hs : StemAt cs a b z c d) (ha : -9223372036854775808 ≤ a ∧ a ≤ 9223372036854775807) (hb : -9223372036854775808 ≤ b ∧ b ≤ 9223372036854775807) {r : Nat} {st : List Nat} (hr : r < σ.length) (hrow : rowAt σ r st = some v.v) (hn : (stemB a b z c d && mineB v a b z) = false)
  {w : Nat} {ws : List Nat} (hw : w < σ.length) (hw' : rowAt σ w ws = some cs)
include h hs ha hb hr hrow hn hw hw'
theorem link_no (n m : Int) (x : ByteArray) : runF cfg 14 [.ptr r st 0,.ptr w ws 0,.i .i64 n,.s x,.i .i64 m] σ p = some (.i .i64 1,σ) := by
  refine run_done rfl rfl Tryz.func14 rfl ?_
  have hrow' : ∀ L,rowAt (σ ++ L) r st = some v.v := fun L => by
    rw [← hrow]; unfold rowAt; rw [List.getElem?_append_left hr]
  have hrw : ∀ L,rowAt (σ ++ L) w ws = some cs := fun L => by
    rw [← hw']; unfold rowAt; rw [List.getElem?_append_left hw]
  have c1 : ∀ q s0 s1 s2 s3 s4,runF cfg 33 [.ptr r st 0,.ptr w ws 0,.fn 42 [] [.ptr σ.length s0 0,.ptr (σ.length + 1) s1 0,.ptr (σ.length + 4) s4 0,.ptr (σ.length + 2) s2 0,.ptr (σ.length + 3) s3 0]] (σ ++ [.cells s0 [.ptr r st 0],.cells s1 [.ptr w ws 0],.cells s2 [.i .i64 n],.cells s3 [.s x],.cells s4 [.i .i64 m]]) q = some (.i .i64 1,σ ++ [.cells s0 [.ptr r st 0],.cells s1 [.ptr w ws 0],.cells s2 [.i .i64 n],.cells s3 [.s x],.cells s4 [.i .i64 m]]) := fun q s0 s1 s2 s3 s4 => by
    refine tryl_no v h hs (by simp; omega) (hrow' _) (by simp; omega) (hrw _) 42 _ fun L q => ?_
    rw [List.append_assoc]
    exact lnk_no v h hs ha hb (by simp; omega) (hrow' _) hn (by simp; omega) (hrw _) (by simp) (by rw [rowAt_app0]; simp [rowAt]) (by simp) (by rw [rowAt_app]; simp [rowAt]) m _ _ (by simp) (by rw [rowAt_app]; simp [rowAt])
  simp +contextual (disch := first | omega | exact rfl | decide | exact kpF (by decide) | exact kpT (by decide) | assumption | exact Z2z | exact Z30 | exact Z32 | exact Z31 | exact Z33 | exact Z34 | (simp only [ZI] <;> omega) | simp only [ZK] | (simp only [ZL] <;> assumption)) only [Tryz.f14,ZH,SOp,GOp,↓Z1c,Int.reduceAdd,Int.reduceSub,Int.reduceMul,Int.reduceNeg,accs,touch,touchM,okPair,Nat.reduceAdd,Nat.reduceLeDiff,Nat.reduceMul,Nat.reduceSub,isV,opA,grdO,grd,Z41,Int.reduceLT,Int.reduceLE,Int.reduceToNat,builtinP,builtinA,changes,fieldAddrA,resA,tupled,↓reduceIte,Nat.reduceEqDiff,Nat.reduceLT,Z70,Int.reduceEq,Y3,Y9,Y30,Y33,Y37,Y39,Y42,Y44,Y51,Y52,derefA,np_none,np51e,np52e,c1]
theorem unlink_no (n : Int) (x : ByteArray) : runF cfg 15 [.ptr r st 0,.ptr w ws 0,.i .i64 n,.s x] σ p = some (.i .i64 1,σ) := by
  refine run_done rfl rfl Tryz.func15 rfl ?_
  have hrow' : ∀ L,rowAt (σ ++ L) r st = some v.v := fun L => by
    rw [← hrow]; unfold rowAt; rw [List.getElem?_append_left hr]
  have hrw : ∀ L,rowAt (σ ++ L) w ws = some cs := fun L => by
    rw [← hw']; unfold rowAt; rw [List.getElem?_append_left hw]
  have c1 : ∀ q s0 s1 s2 s3,runF cfg 33 [.ptr r st 0,.ptr w ws 0,.fn 45 [] [.ptr σ.length s0 0,.ptr (σ.length + 1) s1 0,.ptr (σ.length + 2) s2 0,.ptr (σ.length + 3) s3 0]] (σ ++ [.cells s0 [.ptr r st 0],.cells s1 [.ptr w ws 0],.cells s2 [.i .i64 n],.cells s3 [.s x]]) q = some (.i .i64 1,σ ++ [.cells s0 [.ptr r st 0],.cells s1 [.ptr w ws 0],.cells s2 [.i .i64 n],.cells s3 [.s x]]) := fun q s0 s1 s2 s3 => by
    refine tryl_no v h hs (by simp; omega) (hrow' _) (by simp; omega) (hrw _) 45 _ fun L q => ?_
    rw [List.append_assoc]
    exact unl_no v h hs ha hb (by simp; omega) (hrow' _) hn (by simp; omega) (hrw _) (by simp) (by rw [rowAt_app0]; simp [rowAt]) (by simp) (by rw [rowAt_app]; simp [rowAt]) n x (by simp) (by rw [rowAt_app]; simp [rowAt]) (by simp) (by rw [rowAt_app]; simp [rowAt])
  simp +contextual (disch := first | omega | exact rfl | decide | exact kpF (by decide) | exact kpT (by decide) | assumption | exact Z2z | exact Z30 | exact Z32 | exact Z31 | exact Z33 | exact Z34 | (simp only [ZI] <;> omega) | simp only [ZK] | (simp only [ZL] <;> assumption)) only [Tryz.f15,ZH,SOp,GOp,↓Z1c,Int.reduceAdd,Int.reduceSub,Int.reduceMul,Int.reduceNeg,accs,touch,touchM,okPair,Nat.reduceAdd,Nat.reduceLeDiff,Nat.reduceMul,Nat.reduceSub,isV,opA,grdO,grd,Z41,Int.reduceLT,Int.reduceLE,Int.reduceToNat,builtinP,builtinA,changes,fieldAddrA,resA,tupled,↓reduceIte,Nat.reduceEqDiff,Nat.reduceLT,Z70,Int.reduceEq,Y3,Y9,Y30,Y33,Y37,Y39,Y42,Y44,Y51,Y52,derefA,np_none,np51e,np52e,c1]
theorem rmdir_no (n : Int) (x : ByteArray) : runF cfg 16 [.ptr r st 0,.ptr w ws 0,.i .i64 n,.s x] σ p = some (.i .i64 1,σ) := by
  refine run_done rfl rfl Tryz.func16 rfl ?_
  have hrow' : ∀ L,rowAt (σ ++ L) r st = some v.v := fun L => by
    rw [← hrow]; unfold rowAt; rw [List.getElem?_append_left hr]
  have hrw : ∀ L,rowAt (σ ++ L) w ws = some cs := fun L => by
    rw [← hw']; unfold rowAt; rw [List.getElem?_append_left hw]
  have c1 : ∀ q s0 s1 s2 s3,runF cfg 33 [.ptr r st 0,.ptr w ws 0,.fn 48 [] [.ptr σ.length s0 0,.ptr (σ.length + 1) s1 0,.ptr (σ.length + 2) s2 0,.ptr (σ.length + 3) s3 0]] (σ ++ [.cells s0 [.ptr r st 0],.cells s1 [.ptr w ws 0],.cells s2 [.i .i64 n],.cells s3 [.s x]]) q = some (.i .i64 1,σ ++ [.cells s0 [.ptr r st 0],.cells s1 [.ptr w ws 0],.cells s2 [.i .i64 n],.cells s3 [.s x]]) := fun q s0 s1 s2 s3 => by
    refine tryl_no v h hs (by simp; omega) (hrow' _) (by simp; omega) (hrw _) 48 _ fun L q => ?_
    rw [List.append_assoc]
    exact rmd_no v h hs ha hb (by simp; omega) (hrow' _) hn (by simp; omega) (hrw _) (by simp) (by rw [rowAt_app0]; simp [rowAt]) (by simp) (by rw [rowAt_app]; simp [rowAt]) n x (by simp) (by rw [rowAt_app]; simp [rowAt]) (by simp) (by rw [rowAt_app]; simp [rowAt])
  simp +contextual (disch := first | omega | exact rfl | decide | exact kpF (by decide) | exact kpT (by decide) | assumption | exact Z2z | exact Z30 | exact Z32 | exact Z31 | exact Z33 | exact Z34 | (simp only [ZI] <;> omega) | simp only [ZK] | (simp only [ZL] <;> assumption)) only [Tryz.f16,ZH,SOp,GOp,↓Z1c,Int.reduceAdd,Int.reduceSub,Int.reduceMul,Int.reduceNeg,accs,touch,touchM,okPair,Nat.reduceAdd,Nat.reduceLeDiff,Nat.reduceMul,Nat.reduceSub,isV,opA,grdO,grd,Z41,Int.reduceLT,Int.reduceLE,Int.reduceToNat,builtinP,builtinA,changes,fieldAddrA,resA,tupled,↓reduceIte,Nat.reduceEqDiff,Nat.reduceLT,Z70,Int.reduceEq,Y3,Y9,Y30,Y33,Y37,Y39,Y42,Y44,Y51,Y52,derefA,np_none,np51e,np52e,c1]
theorem rename_no (n m : Int) (x y : ByteArray) : runF cfg 17 [.ptr r st 0,.ptr w ws 0,.i .i64 n,.s x,.i .i64 m,.s y] σ p = some (.i .i64 1,σ) := by
  refine run_done rfl rfl Tryz.func17 rfl ?_
  have hrow' : ∀ L,rowAt (σ ++ L) r st = some v.v := fun L => by
    rw [← hrow]; unfold rowAt; rw [List.getElem?_append_left hr]
  have hrw : ∀ L,rowAt (σ ++ L) w ws = some cs := fun L => by
    rw [← hw']; unfold rowAt; rw [List.getElem?_append_left hw]
  have c1 : ∀ q s0 s1 s2 s3 s4 s5,runF cfg 33 [.ptr r st 0,.ptr w ws 0,.fn 50 [] [.ptr σ.length s0 0,.ptr (σ.length + 1) s1 0,.ptr (σ.length + 2) s2 0,.ptr (σ.length + 3) s3 0,.ptr (σ.length + 4) s4 0,.ptr (σ.length + 5) s5 0]] (σ ++ [.cells s0 [.ptr r st 0],.cells s1 [.ptr w ws 0],.cells s2 [.i .i64 n],.cells s3 [.s x],.cells s4 [.i .i64 m],.cells s5 [.s y]]) q = some (.i .i64 1,σ ++ [.cells s0 [.ptr r st 0],.cells s1 [.ptr w ws 0],.cells s2 [.i .i64 n],.cells s3 [.s x],.cells s4 [.i .i64 m],.cells s5 [.s y]]) := fun q s0 s1 s2 s3 s4 s5 => by
    refine tryl_no v h hs (by simp; omega) (hrow' _) (by simp; omega) (hrw _) 50 _ fun L q => ?_
    rw [List.append_assoc]
    exact ren_no v h hs ha hb (by simp; omega) (hrow' _) hn (by simp; omega) (hrw _) (by simp) (by rw [rowAt_app0]; simp [rowAt]) (by simp) (by rw [rowAt_app]; simp [rowAt]) n x _ _ (by simp) (by rw [rowAt_app]; simp [rowAt]) (by simp) (by rw [rowAt_app]; simp [rowAt])
  simp +contextual (disch := first | omega | exact rfl | decide | exact kpF (by decide) | exact kpT (by decide) | assumption | exact Z2z | exact Z30 | exact Z32 | exact Z31 | exact Z33 | exact Z34 | (simp only [ZI] <;> omega) | simp only [ZK] | (simp only [ZL] <;> assumption)) only [Tryz.f17,ZH,SOp,GOp,↓Z1c,Int.reduceAdd,Int.reduceSub,Int.reduceMul,Int.reduceNeg,accs,touch,touchM,okPair,Nat.reduceAdd,Nat.reduceLeDiff,Nat.reduceMul,Nat.reduceSub,isV,opA,grdO,grd,Z41,Int.reduceLT,Int.reduceLE,Int.reduceToNat,builtinP,builtinA,changes,fieldAddrA,resA,tupled,↓reduceIte,Nat.reduceEqDiff,Nat.reduceLT,Z70,Int.reduceEq,Y3,Y9,Y30,Y33,Y37,Y39,Y42,Y44,Y51,Y52,derefA,np_none,np51e,np52e,c1]
theorem make_no (n : Int) (x : ByteArray) : runF cfg 12 [.ptr r st 0,.ptr w ws 0,.i .i64 n,.s x,.i .i64 1,.s .empty] σ p = some (.tup [.i .i64 0,.i .i64 1],σ) := by
  refine run_done rfl rfl Tryz.func12 rfl ?_
  have hrow' : ∀ L,rowAt (σ ++ L) r st = some v.v := fun L => by
    rw [← hrow]; unfold rowAt; rw [List.getElem?_append_left hr]
  have hrw : ∀ L,rowAt (σ ++ L) w ws = some cs := fun L => by
    rw [← hw']; unfold rowAt; rw [List.getElem?_append_left hw]
  have c1 : ∀ q s0 s1 s2 s3 s4 s5 s6,runF cfg 33 [.ptr r st 0,.ptr w ws 0,.fn 34 [] [.ptr (σ.length + 2) s2 0,.ptr (σ.length + 5) s5 0,.ptr (σ.length + 4) s4 0,.ptr σ.length s0 0,.ptr (σ.length + 1) s1 0,.ptr (σ.length + 3) s3 0,.ptr (σ.length + 6) s6 0]] (σ ++ [.cells s0 [.ptr r st 0],.cells s1 [.ptr w ws 0],.cells s2 [.i .i64 n],.cells s3 [.s x],.cells s4 [.i .i64 1],.cells s5 [.s .empty],.cells s6 [.i .i64 0]]) q = some (.i .i64 1,σ ++ [.cells s0 [.ptr r st 0],.cells s1 [.ptr w ws 0],.cells s2 [.i .i64 n],.cells s3 [.s x],.cells s4 [.i .i64 1],.cells s5 [.s .empty],.cells s6 [.i .i64 0]]) := fun q s0 s1 s2 s3 s4 s5 s6 => by
    refine tryl_no v h hs (by simp; omega) (hrow' _) (by simp; omega) (hrw _) 34 _ fun L q => ?_
    rw [List.append_assoc]
    exact mk_no v h hs ha hb (by simp; omega) (hrow' _) hn (by simp; omega) (hrw _) (by simp) (by rw [rowAt_app0]; simp [rowAt]) (by simp) (by rw [rowAt_app]; simp [rowAt]) n _ _ (by simp) (by rw [rowAt_app]; simp [rowAt]) (by simp) (by rw [rowAt_app]; simp [rowAt]) (by simp) (by rw [rowAt_app]; simp [rowAt])
  simp +contextual (disch := first | omega | exact rfl | decide | exact kpF (by decide) | exact kpT (by decide) | assumption | exact Z2z | exact Z30 | exact Z32 | exact Z31 | exact Z33 | exact Z34 | (simp only [ZI] <;> omega) | simp only [ZK] | (simp only [ZL] <;> assumption)) only [Tryz.f12,ZH,SOp,GOp,↓Z1c,Int.reduceAdd,Int.reduceSub,Int.reduceMul,Int.reduceNeg,accs,touch,touchM,okPair,Nat.reduceAdd,Nat.reduceLeDiff,Nat.reduceMul,Nat.reduceSub,isV,opA,grdO,grd,Z41,Int.reduceLT,Int.reduceLE,Int.reduceToNat,builtinP,builtinA,changes,fieldAddrA,resA,tupled,↓reduceIte,Nat.reduceEqDiff,Nat.reduceLT,Z70,Int.reduceEq,Y3,Y9,Y23,Y30,Y33,Y37,Y39,Y42,Y44,Y51,Y52,derefA,np_none,np51e,np52e,c1]
end
end Go.Am.R2

/- The root directory on a volume that isn't right: refused. -/
namespace Go.Am.R2L
open Go.Proofs
set_option maxRecDepth 100000
set_option linter.unusedSimpArgs false
set_option linter.unusedVariables false
variable {σ : List O} {p : List Nat}
def In64 (n : Int) : Prop := -9223372036854775808 ≤ n ∧ n ≤ 9223372036854775807
theorem dr33x3 {p : List Nat} {s : St} {Q : Ex → St → Prop} (l : List Oper) : Wq cfg 33 p (.region 3 l.toArray true) s Q = OptQ (preObjs cfg p s.c 0 l) fun objs => TrXQ cfg p l.toArray s.σ.length s.c 0 l ⟨s.t,s.nt,s.σ ++ objs,s.c + objs.length⟩ [] fun tr s' => (([(9,6)] : List (Nat × Nat)).all (okPair tr) && slotsOk s.σ.length tr 0 objs [9,9]) = true ∧ Q .normal s' := Wp_drawY 3 l (show cfg.pre 33 3 = some [9,9] from rfl) (show cfg.cls 33 3 = [(9,6)] from rfl)
theorem dr33x6 {p : List Nat} {s : St} {Q : Ex → St → Prop} (l : List Oper) : Wq cfg 33 p (.region 6 l.toArray true) s Q = TrQ cfg p l.toArray l s [] fun tr s => ([(6,3)] : List (Nat × Nat)).all (okPair tr) = true ∧ Q .normal s := Wp_drawT 6 l (show cfg.cls 33 6 = [(6,3)] from rfl) (by decide)
theorem dr40x4 {p : List Nat} {s : St} {Q : Ex → St → Prop} (l : List Oper) : Wq cfg 40 p (.region 4 l.toArray true) s Q = Ops cfg p l.toArray l s (Q .normal) := Wp_draw 4 l (show cfg.cls 40 4 = [] from rfl)
theorem np_none {op : BinOp} {t : TypeId} {x y : Operand} {r o : Nat} {st : List Nat} {v : V} : binA cfg op t x y (.ptr r st o) v = none := rfl
theorem np51e {r o : Nat} {st : List Nat} : eqNilA cfg .eql 51 (.ptr r st o) .nilp = some (.b false) := by
  rw [eqNilA,if_pos (show oneNil cfg 51 (.ptr r st o) .nilp = true by kernel_rfl)]
theorem np52e {r o : Nat} {st : List Nat} : eqNilA cfg .eql 52 (.ptr r st o) .nilp = some (.b false) := by
  rw [eqNilA,if_pos (show oneNil cfg 52 (.ptr r st o) .nilp = true by kernel_rfl)]
noncomputable def node0c : List V := ints .i64 [1,2,0,-1,-1] ++ ints .u8 (List.replicate 32 0) ++ ints .i64 [0,2]
noncomputable def node1c : List V := ints .i64 [1,2,1,-1,-1] ++ ints .u8 (List.replicate 32 0) ++ ints .i64 [0,2]
noncomputable def byts1c : List V := ints .u8 ([2,1,2,0,0,0,0,0] ++ List.replicate 8 255 ++ List.replicate 48 0)
theorem put1 {τ : List O} {q : List Nat} : runF cfg 83 [.agg node1c] τ q = some (.tup [.agg byts1c,.i .i64 0],τ) := run_prim rfl (by kernel_rfl)
theorem new1 {τ : List O} {q : List Nat} : runF cfg 38 [.i .i64 1,.i .i64 2] τ q = some (.tup [.agg node0c,.i .i64 0],τ) := run_prim rfl (by kernel_rfl)
theorem sl132 {r : Nat} {st : List Nat} : sliceA cfg 132 (.ptr r st 0) none none none = some (.sl r st 0 64 1 (some 64)) := by
  simp [sliceA,sh132,sz5,bnd]
theorem set_no (v : R2.VolR) (h : v.ok) {cs : List V} {a b c d : Int} {z : List Int} (hs : R2.StemAt cs a b z c d) (ha : In64 a) (hb : In64 b) {r : Nat} {st : List Nat} (hr : r < σ.length) (hrow : rowAt σ r st = some v.v) (hn : (R2.stemB a b z c d && R2.mineB v a b z) = false)
    {w : Nat} {ws : List Nat} (hw : w < σ.length) (hw' : rowAt σ w ws = some cs) : runF cfg 40 [.ptr r st 0,.ptr w ws 0,.agg node1c] σ p = some (.i .i64 1,σ) := by
  refine run_done rfl rfl Tryz.func40 rfl ?_
  have hrow' : ∀ L,rowAt (σ ++ L) r st = some v.v := fun L => by
    rw [← hrow]; unfold rowAt; rw [List.getElem?_append_left hr]
  have hrw : ∀ L,rowAt (σ ++ L) w ws = some cs := fun L => by
    rw [← hw']; unfold rowAt; rw [List.getElem?_append_left hw]
  have c1 := fun (τ : List O) q => put1 (τ := τ) (q := q)
  have c2 := fun (τ : List O) q => up (R2.place3_ok (σ := τ) (p := q) 1)
  have c3 : ∀ L q n x,x.one = true → runF cfg 84 [.ptr r st 0,.ptr w ws 0,.i .i64 n,x] (σ ++ L) q = some (.i .i64 1,σ ++ L) := fun L q n x hx => up (R2.write_no v h hs ha hb (by simp; omega) (hrow' L) hn (by simp; omega) (hrw L) n x hx)
  have l1 : node1c.length = 39 := rfl
  have n1 : node1c.all V.one = true := by decide +kernel
  have t1 : take? node1c 0 39 = some node1c := take_all l1
  have g0 : node1c[0]? = some (.i .i64 1) := rfl
  have l2 : byts1c.length = 64 := rfl
  have n2 : byts1c.all V.one = true := by decide +kernel
  generalize node1c = nd at *
  generalize byts1c = by1 at *
  simp +contextual (disch := first | omega | exact rfl | decide | exact kpF (by decide) | exact kpT (by decide) | assumption | exact Z2z | exact Z30 | exact Z32 | exact Z31 | exact Z33 | exact Z34 | (simp only [ZI] <;> omega) | simp only [ZK] | (simp only [ZL] <;> assumption)) only [Tryz.f40,ZH,SOp,GOp,↓Z1c,Int.reduceAdd,Int.reduceSub,Int.reduceMul,Int.reduceNeg,accs,touch,touchM,okPair,Nat.reduceAdd,Nat.reduceLeDiff,Nat.reduceMul,Nat.reduceSub,isV,opA,grdO,grd,Z41,Int.reduceLT,Int.reduceLE,Int.reduceToNat,builtinP,builtinA,changes,fieldAddrA,resA,tupled,↓reduceIte,Nat.reduceEqDiff,Nat.reduceLT,Z70,Int.reduceEq,dr40x4,Y3,Y42,Y44,Y86,Y132,derefA,sl132,c1,c2,c3,l1,n1,t1,g0,l2,n2]
theorem tryl_no (v : R2.VolR) (h : v.ok) {cs : List V} {a b c d : Int} {z : List Int} (hs : R2.StemAt cs a b z c d) {r w : Nat} {st ws : List Nat} (hr : r < σ.length) (hrow : rowAt σ r st = some v.v) (hw : w < σ.length) (hw' : rowAt σ w ws = some cs)
    (f1 : Nat) (caps : List V) (hclo : ∀ L q,runF cfg f1 caps (σ ++ L) q = some (.i .i64 1,σ ++ L)) : runF cfg 33 [.ptr r st 0,.ptr w ws 0,.fn f1 [] caps] σ p = some (.i .i64 1,σ) := by
  refine run_done rfl rfl Tryz.func33 rfl ?_
  have o1 := h.d.s.one
  have o2 := h.d.c.one
  have o3 := h.m.s.one
  have o4 := h.s.sv.one
  have hl := hs.len
  have ho := hs.one
  have t36 : take? cs 0 36 = some cs := take_all hs.len
  have e1 := R2.set_same hrow hr
  have e2 := R2.set_same hw' hw
  have hrow' : ∀ L,rowAt (σ ++ L) r st = some v.v := fun L => by
    rw [← hrow]; unfold rowAt; rw [List.getElem?_append_left hr]
  have hrw : ∀ L,rowAt (σ ++ L) w ws = some cs := fun L => by
    rw [← hw']; unfold rowAt; rw [List.getElem?_append_left hw]
  have gw : ∀ L,(σ ++ L)[w]? = some (.cells ws cs) := fun L => by rw [List.getElem?_append_left hw]; exact rowAt_some hw'
  have gr : ∀ L,(σ ++ L)[r]? = some (.cells st v.v) := fun L => by rw [List.getElem?_append_left hr]; exact rowAt_some hrow
  simp only [R2.VolR.v] at *
  simp +contextual (disch := first | omega | exact rfl | decide | exact kpF (by decide) | exact kpT (by decide) | assumption | exact Z2z | exact Z30 | exact Z32 | exact Z31 | exact Z33 | exact Z34 | (simp only [ZI] <;> omega) | simp only [ZK] | (simp only [ZL] <;> assumption)) only [Tryz.f33,ZH,SOp,GOp,↓Z1c,Int.reduceAdd,Int.reduceSub,Int.reduceMul,Int.reduceNeg,accs,touch,touchM,okPair,Nat.reduceAdd,Nat.reduceLeDiff,Nat.reduceMul,Nat.reduceSub,isV,opA,grdO,grd,Z41,Int.reduceLT,Int.reduceLE,Int.reduceToNat,builtinP,builtinA,changes,fieldAddrA,resA,tupled,↓reduceIte,Nat.reduceEqDiff,Nat.reduceLT,Z70,Int.reduceEq,dr33x6,Y3,Y28,Y30,Y37,Y39,Y42,Y44,Y51,Y52,dr33x3,preObjs,preO,TrXQ_nil,TrXQ_cons,StepXQ_alloc,StepXQ_step,slotsOk,Nat.add_assoc,List.take_succ_cons,R2.SCall_fnL,derefA,np_none,np51e,np52e,hclo,o1,o2,o3,o4,hl,ho,t36,R2.tk64,R2.spl64,e1,e2,hrow,hw',hrow',hrw,gw,gr]
theorem node_set : node0c.set 2 (.i .i64 1) = node1c := by kernel_rfl
theorem begc_no (v : R2.VolR) (h : v.ok) {cs : List V} {a b c d : Int} {z : List Int} (hs : R2.StemAt cs a b z c d) (ha : In64 a) (hb : In64 b) {r : Nat} {st : List Nat} (hr : r < σ.length) (hrow : rowAt σ r st = some v.v) (hn : (R2.stemB a b z c d && R2.mineB v a b z) = false)
    {w : Nat} {ws : List Nat} (hw : w < σ.length) (hw' : rowAt σ w ws = some cs) {b0 b1 : Nat} {s0 s1 : List Nat} (k0 : b0 < σ.length) (k0' : rowAt σ b0 s0 = some [.ptr r st 0]) (k1 : b1 < σ.length) (k1' : rowAt σ b1 s1 = some [.ptr w ws 0]) :
    runF cfg 55 [.ptr b0 s0 0,.ptr b1 s1 0] σ p = some (.i .i64 1,σ) := by
  refine run_done rfl rfl Tryz.func55 rfl ?_
  have up' : ∀ {i : Nat} {si : List Nat} {x : List V},i < σ.length → rowAt σ i si = some x → ∀ L,rowAt (σ ++ L) i si = some x := fun hi hx L => by
    rw [← hx]; unfold rowAt; rw [List.getElem?_append_left hi]
  have q0 := up' k0 k0'
  have q1 := up' k1 k1'
  have y1 := fun (τ : List O) q => new1 (τ := τ) (q := q)
  have c1 : ∀ L q,runF cfg 40 [.ptr r st 0,.ptr w ws 0,.agg node1c] (σ ++ L) q = some (.i .i64 1,σ ++ L) := fun L q => set_no v h hs ha hb (by simp; omega) (up' hr hrow L) hn (by simp; omega) (up' hw hw' L)
  have l1 : node1c.length = 39 := rfl
  have n0 : node0c.all V.one = true := by decide +kernel
  have l0 : node0c.length = 39 := rfl
  have n1 : node1c.all V.one = true := by decide +kernel
  have t1 : take? node1c 0 39 = some node1c := take_all l1
  have es := node_set
  generalize node0c = n0c at *
  generalize node1c = n1c at *
  simp +contextual (disch := first | omega | exact rfl | decide | exact kpF (by decide) | exact kpT (by decide) | assumption | exact Z2z | exact Z30 | exact Z32 | exact Z31 | exact Z33 | exact Z34 | (simp only [ZI] <;> omega) | simp only [ZK] | (simp only [ZL] <;> assumption)) only [Tryz.f55,ZH,SOp,GOp,↓Z1c,Int.reduceAdd,Int.reduceSub,Int.reduceMul,Int.reduceNeg,accs,touch,touchM,okPair,Nat.reduceAdd,Nat.reduceLeDiff,Nat.reduceMul,Nat.reduceSub,isV,opA,grdO,grd,Z41,Int.reduceLT,Int.reduceLE,Int.reduceToNat,builtinP,builtinA,changes,fieldAddrA,resA,tupled,↓reduceIte,Nat.reduceEqDiff,Nat.reduceLT,Z70,Int.reduceEq,Y3,Y30,Y37,Y39,Y42,Y44,Y51,Y52,Y86,derefA,y1,c1,q0,q1,l0,n0,l1,n1,t1,es]
theorem begin_no (v : R2.VolR) (h : v.ok) {cs : List V} {a b c d : Int} {z : List Int} (hs : R2.StemAt cs a b z c d) (ha : In64 a) (hb : In64 b) {r : Nat} {st : List Nat} (hr : r < σ.length) (hrow : rowAt σ r st = some v.v) (hn : (R2.stemB a b z c d && R2.mineB v a b z) = false)
    {w : Nat} {ws : List Nat} (hw : w < σ.length) (hw' : rowAt σ w ws = some cs) : runF cfg 18 [.ptr r st 0,.ptr w ws 0] σ p = some (.i .i64 1,σ) := by
  refine run_done rfl rfl Tryz.func18 rfl ?_
  have hrow' : ∀ L,rowAt (σ ++ L) r st = some v.v := fun L => by
    rw [← hrow]; unfold rowAt; rw [List.getElem?_append_left hr]
  have hrw : ∀ L,rowAt (σ ++ L) w ws = some cs := fun L => by
    rw [← hw']; unfold rowAt; rw [List.getElem?_append_left hw]
  have c1 : ∀ q s0 s1,runF cfg 33 [.ptr r st 0,.ptr w ws 0,.fn 55 [] [.ptr σ.length s0 0,.ptr (σ.length + 1) s1 0]] (σ ++ [.cells s0 [.ptr r st 0],.cells s1 [.ptr w ws 0]]) q = some (.i .i64 1,σ ++ [.cells s0 [.ptr r st 0],.cells s1 [.ptr w ws 0]]) := fun q s0 s1 => by
    refine tryl_no v h hs (by simp; omega) (hrow' _) (by simp; omega) (hrw _) 55 _ fun L q => ?_
    rw [List.append_assoc]
    exact begc_no v h hs ha hb (by simp; omega) (hrow' _) hn (by simp; omega) (hrw _) (by simp) (by rw [rowAt_app0]; simp [rowAt]) (by simp) (by rw [rowAt_app]; simp [rowAt])
  simp +contextual (disch := first | omega | exact rfl | decide | exact kpF (by decide) | exact kpT (by decide) | assumption | exact Z2z | exact Z30 | exact Z32 | exact Z31 | exact Z33 | exact Z34 | (simp only [ZI] <;> omega) | simp only [ZK] | (simp only [ZL] <;> assumption)) only [Tryz.f18,ZH,SOp,GOp,↓Z1c,Int.reduceAdd,Int.reduceSub,Int.reduceMul,Int.reduceNeg,accs,touch,touchM,okPair,Nat.reduceAdd,Nat.reduceLeDiff,Nat.reduceMul,Nat.reduceSub,isV,opA,grdO,grd,Z41,Int.reduceLT,Int.reduceLE,Int.reduceToNat,builtinP,builtinA,changes,fieldAddrA,resA,tupled,↓reduceIte,Nat.reduceEqDiff,Nat.reduceLT,Z70,Int.reduceEq,Y3,Y30,Y37,Y39,Y42,Y44,Y51,Y52,derefA,c1]
end Go.Am.R2L

/- Whether a node is below a directory: refused. -/
namespace Go.Am.R2
open Go.Proofs
set_option maxRecDepth 100000
set_option linter.unusedSimpArgs false
set_option linter.unusedVariables false
variable {σ : List O} {p : List Nat}
theorem one_map {r : Nat} {st : List Nat} : (V.map r st).one = true := rfl
theorem below_no (v : VolR) (h : v.ok) {cs : List V} {a b c d : Int} {z : List Int} (hs : StemAt cs a b z c d) (ha : -9223372036854775808 ≤ a ∧ a ≤ 9223372036854775807) (hb : -9223372036854775808 ≤ b ∧ b ≤ 9223372036854775807) {r : Nat} {st : List Nat} (hr : r < σ.length) (hrow : rowAt σ r st = some v.v) (hn : (stemB a b z c d && mineB v a b z) = false) (n m : Int) :
    runF cfg 13 [.ptr r st 0,.agg cs,.i .i64 n,.i .i64 m] σ p = some (.tup [.b false,.i .i64 1],σ) := by
  refine run_done rfl rfl Tryz.func13 rfl ?_
  have t36 : take? cs 0 36 = some cs := take_all hs.len
  have ho := hs.one
  have hl := hs.len
  have hrow' : ∀ L,rowAt (σ ++ L) r st = some v.v := fun L => by
    rw [← hrow]; unfold rowAt; rw [List.getElem?_append_left hr]
  have c1 : ∀ L q x,runF cfg 35 [.ptr r st 0,.agg cs,.i .i64 x] (σ ++ L) q = some (.tup [.nils,.i .i64 1],σ ++ L) := fun L q x => fread_no v h hs ha hb (by simp; omega) (hrow' L) hn x
  have mu : ∀ (q0 q1 : List Nat),mapUpdateA cfg 95 (σ ++ [.cells q0 cs,.map q1 []]) (.map (σ.length + 1) q1) (.i .i64 n) (.b true) = some (σ ++ [.cells q0 cs,.map q1 [(.i .i64 n,.b true)]]) := fun q0 q1 => by
    rw [update_mp (l := []) (by simp [mpO]) (by simp)]
    simp [mpO,List.set_append]
  have bs : ∀ (τ : List O) q,buildSliceA cfg 96 1 [(0,.i .i64 n)] τ q = some (.sl τ.length q 0 1 1 (some 1),τ ++ [.cells q [.i .i64 n]]) := fun τ q => by
    simp [buildSliceA,el96,partsAt,fillA,V.cells,splice,one_i]
  simp +contextual (disch := first | omega | exact rfl | decide | exact kpF (by decide) | exact kpT (by decide) | assumption | exact Z2z | exact Z30 | exact Z32 | exact Z31 | exact Z33 | exact Z34 | (simp only [ZI] <;> omega) | simp only [ZK] | (simp only [ZL] <;> assumption)) only [Tryz.f13,ZH,SOp,GOp,↓Z1c,Int.reduceAdd,Int.reduceSub,Int.reduceMul,Int.reduceNeg,accs,touch,touchM,okPair,Nat.reduceAdd,Nat.reduceLeDiff,Nat.reduceMul,Nat.reduceSub,isV,opA,grdO,grd,Z41,Int.reduceLT,Int.reduceLE,Int.reduceToNat,builtinP,builtinA,changes,fieldAddrA,resA,tupled,↓reduceIte,Nat.reduceEqDiff,Nat.reduceLT,Z70,Int.reduceEq,dr13x6,Y3,Y4,Y9,Y23,Y42,Y44,Y95,Y96,Wq_loop,loopQ_normal,loopQ_exit,loopQ_ret,derefA,c1,ho,t36,hl,mu,bs,one_map]
end Go.Am.R2

/- The law of what links refuse. -/
namespace Go.Am.R2L
open Go.Proofs
set_option maxRecDepth 100000
set_option linter.unusedSimpArgs false
set_option linter.unusedVariables false
variable {σ : List O} {p : List Nat}
theorem dr4x5 {p : List Nat} {s : St} {Q : Ex → St → Prop} (l : List Oper) : Wq cfg 4 p (.region 5 l.toArray true) s Q = OptQ (preObjs cfg p s.c 0 l) fun objs => TrXQ cfg p l.toArray s.σ.length s.c 0 l ⟨s.t,s.nt,s.σ ++ objs,s.c + objs.length⟩ [] fun tr s' => (([(1,2),(5,2)] : List (Nat × Nat)).all (okPair tr) && slotsOk s.σ.length tr 0 objs [5,5]) = true ∧ Q .normal s' := Wp_drawY 5 l (show cfg.pre 4 5 = some [5,5] from rfl) (show cfg.cls 4 5 = [(1,2),(5,2)] from rfl)
theorem law4_yes (v : R2.VolR) (h : v.ok) {cs : List V} {a b c d : Int} {z : List Int} (hs : R2.StemAt cs a b z c d) (ha : In64 a) (hb : In64 b) (n : Int) (hg : (R2.rightV v && (R2.stemB a b z c d && R2.mineB v a b z)) = true ∨ 300 < (v.d.nc : Int)) :
    runF cfg 4 [.agg v.v,.agg cs,.i .i64 n] σ p = some (.b true,σ) := by
  refine run_done rfl rfl Tryz.func4 rfl ?_
  have o1 := h.d.s.one
  have o2 := h.d.c.one
  have o3 := h.m.s.one
  have o4 := h.s.sv.one
  have tk := hs.tk
  have t36 : take? cs 0 36 = some cs := take_all hs.len
  have ho := hs.one
  have y := fun (τ : List O) q => yes_ok (σ := τ) (p := q)
  have c1 := fun (τ : List O) q => up (R2.vol9_ok (σ := τ) (p := q) v h)
  have c2 := fun (τ : List O) q => up (R2.stem2_ok (σ := τ) (p := q) hs)
  have c3 := fun (τ : List O) q => up (R2.mine9_ok (σ := τ) (p := q) v h a b z hs.z ha hb)
  have l1 := fun τ => h.d.c.len (C := cfg) sh28 τ
  have tv : take? v.v 0 10 = some v.v := rfl
  simp only [R2.VolR.v] at *
  generalize R2.rightV v = b1 at *
  generalize R2.stemB a b z c d = b2 at *
  generalize R2.mineB v a b z = b3 at *
  by_cases h3 : 300 < (v.d.nc : Int)
  · cases b1 <;> cases b2 <;> cases b3 <;> simp +contextual (disch := first | omega | exact rfl | decide | exact kpF (by decide) | exact kpT (by decide) | assumption | exact Z2z | exact Z30 | exact Z32 | exact Z31 | exact Z33 | exact Z34 | (simp only [ZI] <;> omega) | simp only [ZK] | (simp only [ZL] <;> assumption)) only [Tryz.f4,ZH,SOp,GOp,↓Z1c,Int.reduceAdd,Int.reduceSub,Int.reduceMul,Int.reduceNeg,accs,touch,touchM,okPair,Nat.reduceAdd,Nat.reduceLeDiff,Nat.reduceMul,Nat.reduceSub,isV,opA,grdO,grd,Z41,Int.reduceLT,Int.reduceLE,Int.reduceToNat,builtinP,builtinA,changes,fieldAddrA,resA,tupled,↓reduceIte,Nat.reduceEqDiff,Nat.reduceLT,Z70,Int.reduceEq,Y3,Y28,Y30,Y37,Y39,Y42,Y44,y,c1,c2,c3,o1,o2,o3,o4,ho,tk,t36,tv,l1,h3,R2.tk04]
  · rcases hg with hg | hg
    · cases b1 <;> cases b2 <;> cases b3 <;> first | (exact absurd hg (by decide)) | simp +contextual (disch := first | omega | exact rfl | decide | exact kpF (by decide) | exact kpT (by decide) | assumption | exact Z2z | exact Z30 | exact Z32 | exact Z31 | exact Z33 | exact Z34 | (simp only [ZI] <;> omega) | simp only [ZK] | (simp only [ZL] <;> assumption)) only [Tryz.f4,ZH,SOp,GOp,↓Z1c,Int.reduceAdd,Int.reduceSub,Int.reduceMul,Int.reduceNeg,accs,touch,touchM,okPair,Nat.reduceAdd,Nat.reduceLeDiff,Nat.reduceMul,Nat.reduceSub,isV,opA,grdO,grd,Z41,Int.reduceLT,Int.reduceLE,Int.reduceToNat,builtinP,builtinA,changes,fieldAddrA,resA,tupled,↓reduceIte,Nat.reduceEqDiff,Nat.reduceLT,Z70,Int.reduceEq,Y3,Y28,Y30,Y37,Y39,Y42,Y44,y,c1,c2,c3,o1,o2,o3,o4,ho,tk,t36,tv,l1,h3,R2.tk04]
    · exact absurd hg h3
theorem stem_fks {cs : List V} {a b c d : Int} {z : List Int} (hs : R2.StemAt cs a b z c d) : cs.map V.fk = ([(.i .i64),(.i .i64)] ++ List.replicate 32 (.i .u8) ++ [(.i .i64),(.i .i64)] : List Fk).map some := by
  have hz : (ints .u8 z).map V.fk = List.replicate 32 (some (.i .u8)) := by
    rw [← hs.z,ints,List.map_map]
    clear hs
    induction z with
    | nil => rfl
    | cons x l ih => rw [List.map_cons,ih]; rfl
  rw [hs.eq,R2.ptV,List.map_append,List.map_cons,List.map_cons,hz]
  rfl
theorem law4_no (v : R2.VolR) (h : v.ok) {cs : List V} {a b c d : Int} {z : List Int} (hs : R2.StemAt cs a b z c d) (ha : In64 a) (hb : In64 b) (hc : In64 c) (n : Int) (hg : (R2.rightV v && (R2.stemB a b z c d && R2.mineB v a b z)) = false) (h3 : ¬ 300 < (v.d.nc : Int)) :
    runF cfg 4 [.agg v.v,.agg cs,.i .i64 n] σ p = some (.b true,σ) := by
  have hn : (R2.stemB a b z c d && R2.mineB v a b z) = false := by
    rw [← Bool.not_eq_true] at hg ⊢
    simp only [Bool.and_eq_true] at hg ⊢
    exact fun hh => hg ⟨(Bool.and_eq_true_iff.1 hh.2).1,hh.1,hh.2⟩
  refine run_done rfl rfl Tryz.func4 rfl ?_
  have o1 := h.d.s.one
  have o2 := h.d.c.one
  have o3 := h.m.s.one
  have o4 := h.s.sv.one
  have hcp := h.cp
  have tk := hs.tk
  have t36 : take? cs 0 36 = some cs := take_all hs.len
  have hl := hs.len
  have ho := hs.one
  have y := fun (τ : List O) q => yes_ok (σ := τ) (p := q)
  have c1 := fun (τ : List O) q => up (R2.vol9_ok (σ := τ) (p := q) v h)
  have c2 := fun (τ : List O) q => up (R2.stem2_ok (σ := τ) (p := q) hs)
  have c3 := fun (τ : List O) q => up (R2.mine9_ok (σ := τ) (p := q) v h a b z hs.z ha hb)
  have c4 := fun (τ : List O) q => up (R2.copy_vol (σ := τ) (p := q) v h)
  have c5 := fun (τ : List O) q => up (R2.same_vol (σ := τ) (p := q) v.cp v h.cp h rfl)
  have l1 := fun τ => h.d.c.len (C := cfg) sh28 τ
  have n1 : (R2.stemB a b z c d && R2.mineB v.cp a b z) = false := hn
  have L1 : ∀ (u x : O) (st ws : List Nat) (L : List O),σ.length + 2 < (σ ++ u :: x :: .cells st v.cp.v :: .cells ws cs :: L).length := fun u x st ws L => by simp only [List.length_append,List.length_cons]; omega
  have L2 : ∀ (u x : O) (st ws : List Nat) (L : List O),σ.length + 3 < (σ ++ u :: x :: .cells st v.cp.v :: .cells ws cs :: L).length := fun u x st ws L => by simp only [List.length_append,List.length_cons]; omega
  have R1 : ∀ (u x : O) (st ws : List Nat) (L : List O),rowAt (σ ++ u :: x :: .cells st v.cp.v :: .cells ws cs :: L) (σ.length + 2) st = some v.cp.v := fun u x st ws L => by rw [rowAt_app]; simp [rowAt]
  have R2' : ∀ (u x : O) (st ws : List Nat) (L : List O),rowAt (σ ++ u :: x :: .cells st v.cp.v :: .cells ws cs :: L) (σ.length + 3) ws = some cs := fun u x st ws L => by rw [rowAt_app]; simp [rowAt]
  have r1 : ∀ (q : List Nat) (u x : O) (st ws : List Nat) (L : List O) (y : ByteArray),runF cfg 12 [.ptr (σ.length + 2) st 0,.ptr (σ.length + 3) ws 0,.i .i64 n,.s y,.i .i64 1,.s .empty] (σ ++ u :: x :: .cells st v.cp.v :: .cells ws cs :: L) q = some (.tup [.i .i64 0,.i .i64 1],σ ++ u :: x :: .cells st v.cp.v :: .cells ws cs :: L) := fun q u x st ws L y => up (R2.make_no v.cp hcp hs ha hb (L1 u x st ws L) (R1 u x st ws L) n1 (L2 u x st ws L) (R2' u x st ws L) n y)
  have r2 : ∀ (q : List Nat) (u x : O) (st ws : List Nat) (L : List O),runF cfg 13 [.ptr (σ.length + 2) st 0,.agg cs,.i .i64 n,.i .i64 1] (σ ++ u :: x :: .cells st v.cp.v :: .cells ws cs :: L) q = some (.tup [.b false,.i .i64 1],σ ++ u :: x :: .cells st v.cp.v :: .cells ws cs :: L) := fun q u x st ws L => up (R2.below_no v.cp hcp hs ha hb (L1 u x st ws L) (R1 u x st ws L) n1 n 1)
  have r3 : ∀ (q : List Nat) (u x : O) (st ws : List Nat) (L : List O) (y : ByteArray),runF cfg 14 [.ptr (σ.length + 2) st 0,.ptr (σ.length + 3) ws 0,.i .i64 n,.s y,.i .i64 1] (σ ++ u :: x :: .cells st v.cp.v :: .cells ws cs :: L) q = some (.i .i64 1,σ ++ u :: x :: .cells st v.cp.v :: .cells ws cs :: L) := fun q u x st ws L y => up (R2.link_no v.cp hcp hs ha hb (L1 u x st ws L) (R1 u x st ws L) n1 (L2 u x st ws L) (R2' u x st ws L) n 1 y)
  have r4 : ∀ (q : List Nat) (u x : O) (st ws : List Nat) (L : List O) (y : ByteArray),runF cfg 15 [.ptr (σ.length + 2) st 0,.ptr (σ.length + 3) ws 0,.i .i64 n,.s y] (σ ++ u :: x :: .cells st v.cp.v :: .cells ws cs :: L) q = some (.i .i64 1,σ ++ u :: x :: .cells st v.cp.v :: .cells ws cs :: L) := fun q u x st ws L y => up (R2.unlink_no v.cp hcp hs ha hb (L1 u x st ws L) (R1 u x st ws L) n1 (L2 u x st ws L) (R2' u x st ws L) n y)
  have r5 : ∀ (q : List Nat) (u x : O) (st ws : List Nat) (L : List O) (y : ByteArray),runF cfg 16 [.ptr (σ.length + 2) st 0,.ptr (σ.length + 3) ws 0,.i .i64 n,.s y] (σ ++ u :: x :: .cells st v.cp.v :: .cells ws cs :: L) q = some (.i .i64 1,σ ++ u :: x :: .cells st v.cp.v :: .cells ws cs :: L) := fun q u x st ws L y => up (R2.rmdir_no v.cp hcp hs ha hb (L1 u x st ws L) (R1 u x st ws L) n1 (L2 u x st ws L) (R2' u x st ws L) n y)
  have r6 : ∀ (q : List Nat) (u x : O) (st ws : List Nat) (L : List O) (y y2 : ByteArray),runF cfg 17 [.ptr (σ.length + 2) st 0,.ptr (σ.length + 3) ws 0,.i .i64 n,.s y,.i .i64 1,.s y2] (σ ++ u :: x :: .cells st v.cp.v :: .cells ws cs :: L) q = some (.i .i64 1,σ ++ u :: x :: .cells st v.cp.v :: .cells ws cs :: L) := fun q u x st ws L y y2 => up (R2.rename_no v.cp hcp hs ha hb (L1 u x st ws L) (R1 u x st ws L) n1 (L2 u x st ws L) (R2' u x st ws L) n 1 y y2)
  have r7 : ∀ (q : List Nat) (u x : O) (st ws : List Nat) (L : List O),runF cfg 18 [.ptr (σ.length + 2) st 0,.ptr (σ.length + 3) ws 0] (σ ++ u :: x :: .cells st v.cp.v :: .cells ws cs :: L) q = some (.i .i64 1,σ ++ u :: x :: .cells st v.cp.v :: .cells ws cs :: L) := fun q u x st ws L => begin_no v.cp hcp hs ha hb (L1 u x st ws L) (R1 u x st ws L) n1 (L2 u x st ws L) (R2' u x st ws L)
  have q26 : ∀ x y,binA cfg .eql 44 x y (.agg cs) (.agg cs) = some (.b true) := fun x y => by
    rw [eq44 (stem_fks hs) (stem_fks hs),eqB_refl (fk_some (stem_fks hs))]
  have tv : take? v.v 0 10 = some v.v := rfl
  have tw : take? v.cp.v 0 10 = some v.cp.v := rfl
  have lw : v.cp.v.length = 10 := rfl
  have ow : v.cp.v.all V.one = true := by
    have o1 := hcp.d.s.one
    have o2 := hcp.d.c.one
    have o3 := hcp.m.s.one
    have o4 := hcp.s.sv.one
    simp only [R2.VolR.v,List.all_cons,List.all_nil,o1,o2,o3,o4,one_i,one_b]; rfl
  clear R1 R2' L1 L2
  generalize hvw : v.cp.v = vw at *
  simp only [R2.VolR.v] at *
  generalize R2.rightV v = b1 at *
  generalize R2.stemB a b z c d = b2 at *
  generalize R2.mineB v a b z = b3 at *
  have hcase : b1 = false ∨ (b1 = true ∧ b2 = false) ∨ (b1 = true ∧ b2 = true ∧ b3 = false) := by
    cases b1 <;> cases b2 <;> cases b3 <;> simp at hg ⊢
  clear hg hn n1
  rcases hcase with rfl | ⟨rfl,rfl⟩ | ⟨rfl,rfl,rfl⟩
  all_goals simp +contextual (disch := first | omega | exact rfl | decide | exact kpF (by decide) | exact kpT (by decide) | assumption | exact Z2z | exact Z30 | exact Z32 | exact Z31 | exact Z33 | exact Z34 | (simp only [ZI] <;> omega) | simp only [ZK] | (simp only [ZL] <;> assumption)) only [Tryz.f4,ZH,SOp,GOp,↓Z1c,Int.reduceAdd,Int.reduceSub,Int.reduceMul,Int.reduceNeg,accs,touch,touchM,okPair,Nat.reduceAdd,Nat.reduceLeDiff,Nat.reduceMul,Nat.reduceSub,isV,opA,grdO,grd,Z41,Int.reduceLT,Int.reduceLE,Int.reduceToNat,builtinP,builtinA,changes,fieldAddrA,resA,tupled,↓reduceIte,Nat.reduceEqDiff,Nat.reduceLT,Z70,Int.reduceEq,Y3,Y28,Y30,Y37,Y39,Y42,Y44,dr4x5,preObjs,preO,TrXQ_nil,TrXQ_cons,StepXQ_alloc,StepXQ_step,slotsOk,Nat.add_assoc,List.take_succ_cons,y,c1,c2,c3,c4,c5,r1,r2,r3,r4,r5,r6,r7,q26,o1,o2,o3,o4,ho,tk,t36,tv,tw,lw,ow,hl,l1,h3,R2.tk04]

end Go.Am.R2L

/- Stems as arguments. -/
namespace Go.Am.R2L
open Go.Proofs
set_option maxRecDepth 100000
set_option linter.unusedSimpArgs false
set_option linter.unusedVariables false
theorem wtv_fields {D : Nat} {t : TypeId} {fs : Array Field} {cs : List V} (hu : cfg.P.underlying t = some (.struct fs)) (h : WT cfg.P (D + 1) t cs) (i : Nat) {f : Field} (hf : fs[i]? = some f) : WT cfg.P D f.type ((cs.drop f.offset).take (cfg.P.cellsOf f.type)) :=
  (wt_struct hu h).2 f (List.mem_of_getElem? (by simpa using hf))
theorem wtv_int {D off : Nat} {t : TypeId} {k : IntKind} {cs : List V} (hu : cfg.P.underlying t = some (.int k)) (hc : cfg.P.cellsOf t = 1) (h : WT cfg.P (D + 1) t ((cs.drop off).take (cfg.P.cellsOf t))) : ∃ n,cs[off]? = some (.i k n) ∧ k.min ≤ n ∧ n ≤ k.max := by
  rw [hc] at h
  obtain ⟨n,h1,h2⟩ := wt_int hu h
  exact ⟨n,take1 h1,h2⟩
theorem wt_ints {D n : Nat} {t e : TypeId} {k : IntKind} {cs : List V} (hu : cfg.P.underlying t = some (.array n e)) (he : cfg.P.underlying e = some (.int k)) (hc : cfg.P.cellsOf e = 1) (hn : cfg.P.cellsOf t = n) (h : WT cfg.P (D + 2) t cs) : ∃ z : List Int,cs = ints k z ∧ z.length = n := by
  obtain ⟨h1,h2⟩ := wt_array hu h
  rw [hn] at h1
  obtain ⟨l,hl,_⟩ := ints_of (k := k) (cs := cs) fun i hi => by
    have := h2 i (by omega)
    rw [hc,Nat.mul_one] at this
    obtain ⟨m,hm,hb⟩ := wt_int he this
    exact ⟨m,take1 hm,hb⟩
  refine ⟨l,hl,?_⟩
  rw [hl,ints_len] at h1; exact h1
theorem in64 {n : Int} (h : IntKind.i64.min ≤ n ∧ n ≤ IntKind.i64.max) : In64 n := ⟨h.1,h.2⟩
theorem wt_ptr {D : Nat} {cs : List V} (h : WT cfg.P (D + 3) 42 cs) : ∃ a b z,(cs = R2.ptV a b z ∧ z.length = 32) ∧ In64 a ∧ In64 b := by
  have hl := (wt_struct Tryz.underlying42 h).1
  have hl' : cs.length = 34 := hl.trans (by kernel_rfl)
  obtain ⟨a,g0,ia⟩ := wtv_int (off := 0) Tryz.underlying3 (by kernel_rfl) (wtv_fields Tryz.underlying42 h 0 rfl)
  obtain ⟨b,g1,ib⟩ := wtv_int (off := 1) Tryz.underlying3 (by kernel_rfl) (wtv_fields Tryz.underlying42 h 1 rfl)
  have f2 := wtv_fields Tryz.underlying42 h 2 rfl
  obtain ⟨z,hz,hzl⟩ := wt_ints (n := 32) (k := .u8) Tryz.underlying40 Tryz.underlying5 (by kernel_rfl) (by kernel_rfl) f2
  have hz' : (cs.drop 2).take 32 = ints .u8 z := hz
  refine ⟨a,b,z,⟨?_,hzl⟩,in64 ia,in64 ib⟩
  refine List.ext_getElem? fun i => ?_
  match i with
  | 0 => exact g0
  | 1 => exact g1
  | i + 2 =>
    show cs[i + 2]? = (ints .u8 z)[i]?
    rw [← hz',List.getElem?_take,List.getElem?_drop]
    by_cases hi : i < 32
    · rw [if_pos hi,Nat.add_comm]
    · rw [if_neg hi,List.getElem?_eq_none (by omega)]
theorem wt_stem {D : Nat} {cs : List V} (h : WT cfg.P (D + 4) 44 cs) : ∃ a b z c d,R2.StemAt cs a b z c d ∧ In64 a ∧ In64 b ∧ In64 c := by
  have hl := (wt_struct Tryz.underlying44 h).1
  have hl' : cs.length = 36 := hl.trans (by kernel_rfl)
  have f0 := wtv_fields Tryz.underlying44 h 0 rfl
  obtain ⟨a,b,z,⟨hp,hz⟩,ia,ib⟩ := wt_ptr f0
  have hp' : (cs.drop 0).take 34 = R2.ptV a b z := hp
  obtain ⟨c,g1,ic⟩ := wtv_int (off := 34) Tryz.underlying3 (by kernel_rfl) (wtv_fields Tryz.underlying44 h 1 rfl)
  obtain ⟨d,g2,_⟩ := wtv_int (off := 35) Tryz.underlying3 (by kernel_rfl) (wtv_fields Tryz.underlying44 h 2 rfl)
  refine ⟨a,b,z,c,d,⟨?_,hz⟩,ia,ib,in64 ic⟩
  refine List.ext_getElem? fun i => ?_
  have hlen := R2.ptV_len (a := a) (b := b) hz
  by_cases hi : i < 34
  · rw [List.getElem?_append_left (by omega),← hp',List.getElem?_take,if_pos hi,List.drop_zero]
  · rw [List.getElem?_append_right (by omega),hlen]
    by_cases h1 : i = 34
    · subst h1; exact g1
    · by_cases h2 : i = 35
      · subst h2; exact g2
      · rw [List.getElem?_eq_none (by omega),List.getElem?_eq_none (by simp; omega)]
end Go.Am.R2L

/- Volumes as arguments. -/
namespace Go.Am.R2
open Go.Proofs
set_option maxRecDepth 100000
set_option linter.unusedSimpArgs false
set_option linter.unusedVariables false
theorem wtv_fields {D : Nat} {t : TypeId} {fs : Array Field} {cs : List V} (hu : cfg.P.underlying t = some (.struct fs)) (h : WT cfg.P (D + 1) t cs) (i : Nat) {f : Field} (hf : fs[i]? = some f) : WT cfg.P D f.type ((cs.drop f.offset).take (cfg.P.cellsOf f.type)) :=
  (wt_struct hu h).2 f (List.mem_of_getElem? (by simpa using hf))
theorem wtv_int {D off : Nat} {t : TypeId} {k : IntKind} {cs : List V} (hu : cfg.P.underlying t = some (.int k)) (hc : cfg.P.cellsOf t = 1) (h : WT cfg.P (D + 1) t ((cs.drop off).take (cfg.P.cellsOf t))) : ∃ n,cs[off]? = some (.i k n) ∧ k.min ≤ n ∧ n ≤ k.max := by
  rw [hc] at h
  obtain ⟨n,h1,h2⟩ := wt_int hu h
  exact ⟨n,take1 h1,h2⟩
theorem wtv_bool {D off : Nat} {t : TypeId} {cs : List V} (hu : cfg.P.underlying t = some .bool) (hc : cfg.P.cellsOf t = 1) (h : WT cfg.P (D + 1) t ((cs.drop off).take (cfg.P.cellsOf t))) : ∃ b,cs[off]? = some (.b b) := by
  rw [hc] at h
  obtain ⟨b,h1⟩ := wt_bool hu h
  exact ⟨b,take1 h1⟩
theorem wt_arr_fk {D n : Nat} {t e : TypeId} {k : IntKind} {cs : List V} (hu : cfg.P.underlying t = some (.array n e)) (he : cfg.P.underlying e = some (.int k)) (hc : cfg.P.cellsOf e = 1) (hn : cfg.P.cellsOf t = n) (h : WT cfg.P (D + 2) t cs) : cs.map V.fk = List.replicate n (some (.i k)) := by
  obtain ⟨h1,h2⟩ := wt_array hu h
  rw [hn] at h1
  refine List.ext_getElem? fun i => ?_
  rw [List.getElem?_map,List.getElem?_replicate]
  by_cases hi : i < n
  · have := h2 i hi
    rw [hc,Nat.mul_one] at this
    obtain ⟨m,hm,_⟩ := wt_int he this
    rw [take1 hm,if_pos hi]; rfl
  · rw [if_neg hi,List.getElem?_eq_none (by omega)]; rfl
theorem wt_sector {D : Nat} {cs : List V} (h : WT cfg.P (D + 3) 145 cs) : cs.map V.fk = (List.replicate 128 (.i .u8) ++ [.b,.b] : List Fk).map some := by
  have hl := (wt_struct Tryz.underlying145 h).1
  have hl' : cs.length = 130 := hl.trans (by kernel_rfl)
  have f0 := wtv_fields Tryz.underlying145 h 0 rfl
  obtain ⟨b1,g1⟩ := wtv_bool (off := 128) Tryz.underlying4 (by kernel_rfl) (wtv_fields Tryz.underlying145 h 1 rfl)
  obtain ⟨b2,g2⟩ := wtv_bool (off := 129) Tryz.underlying4 (by kernel_rfl) (wtv_fields Tryz.underlying145 h 2 rfl)
  have d0 := wt_arr_fk (n := 128) (k := .u8) Tryz.underlying114 Tryz.underlying5 (by kernel_rfl) (by kernel_rfl) f0
  have hc : cs = (cs.drop 0).take 128 ++ [.b b1,.b b2] := by
    refine List.ext_getElem? fun i => ?_
    by_cases hi : i < 128
    · rw [List.getElem?_append_left (by simp; omega),List.getElem?_take,if_pos hi,List.drop_zero]
    · rw [List.getElem?_append_right (by simp; omega)]
      have he : (List.take 128 (List.drop 0 cs)).length = 128 := by simp; omega
      rw [he]
      by_cases h1 : i = 128
      · subst h1; exact g1
      · by_cases h2 : i = 129
        · subst h2; exact g2
        · rw [List.getElem?_eq_none (by omega),List.getElem?_eq_none (by simp; omega)]
  have d0' : ((cs.drop 0).take 128).map V.fk = List.replicate 128 (some (.i .u8)) := d0
  rw [hc,List.map_append,d0']
  simp [fk_b]
theorem wt_write {D : Nat} {cs : List V} (h : WT cfg.P (D + 3) 116 cs) : cs.map V.fk = ([(.i .i64)] ++ List.replicate 128 (.i .u8) : List Fk).map some := by
  have hl := (wt_struct Tryz.underlying116 h).1
  have hl' : cs.length = 129 := hl.trans (by kernel_rfl)
  obtain ⟨w,g0,_⟩ := wtv_int (off := 0) Tryz.underlying3 (by kernel_rfl) (wtv_fields Tryz.underlying116 h 0 rfl)
  have f1 := wtv_fields Tryz.underlying116 h 1 rfl
  have d0 := wt_arr_fk (n := 128) (k := .u8) Tryz.underlying114 Tryz.underlying5 (by kernel_rfl) (by kernel_rfl) f1
  have d0' : ((cs.drop 1).take 128).map V.fk = List.replicate 128 (some (.i .u8)) := d0
  have hc : cs = [.i .i64 w] ++ (cs.drop 1).take 128 := by
    refine List.ext_getElem? fun i => ?_
    by_cases hi : i < 1
    · have : i = 0 := by omega
      subst this; rw [g0]; rfl
    · rw [List.getElem?_append_right (by simp; omega),List.getElem?_take,List.getElem?_drop,List.length_singleton]
      by_cases h1 : i - 1 < 128
      · rw [if_pos h1]; congr 1; omega
      · rw [if_neg h1,List.getElem?_eq_none (by omega)]
  rw [hc,List.map_append,d0']
  simp [fk_i]
theorem pairs_of : ∀ (n : Nat) (els : List V),els.length = n * 2 → (∀ i,i < n → ∃ a b : Int,(els.drop (i * 2)).take 2 = [.i .i64 a,.i .i64 b]) → ∃ pl : List (Int × Int),pl.length = n ∧ els = prV pl
  | 0,els,hl,_ => ⟨[],rfl,List.eq_nil_of_length_eq_zero (by simpa using hl)⟩
  | n + 1,els,hl,h => by
    obtain ⟨a,b,hab⟩ := h 0 (by omega)
    match els,hl with
    | u :: v :: els,hl =>
      simp at hab
      obtain ⟨rfl,rfl⟩ := hab
      obtain ⟨pl,h1,h2⟩ := pairs_of n els (by simp at hl; omega) fun i hi => by
        obtain ⟨a,b,hab⟩ := h (i + 1) (by omega)
        rw [show (i + 1) * 2 = i * 2 + 1 + 1 by omega,List.drop_succ_cons,List.drop_succ_cons] at hab
        exact ⟨a,b,hab⟩
      exact ⟨(a,b) :: pl,by rw [List.length_cons,h1],by rw [prV_cons,h2]⟩
    | [],hl => simp at hl
    | [_],hl => simp at hl; omega
theorem wt_SV {D : Nat} {t e : TypeId} {z B : Nat} {cs : List V} (hu : cfg.P.underlying t = some (.slice e)) (hc : cfg.P.cellsOf e = z) (hB : cfg.P.bytesOf e = B) (h : WT cfg.P (D + 1) t cs) :
    ∃ (x : V) (n : Nat) (els : List V),cs = [x] ∧ SV z x n els ∧ n * B ≤ 140737488351232 ∧ ∀ i,i < n → WT cfg.P D e ((els.drop (i * z)).take z) := by
  rcases wt_slice hu h with rfl | ⟨els,n,rfl,h1,h2,h3⟩
  · exact ⟨.nils,0,[],rfl,⟨by simp,.inl ⟨rfl,rfl⟩⟩,by simp,fun i hi => absurd hi (by omega)⟩
  · rw [hc] at h1 h3
    rw [hB] at h2
    exact ⟨_,n,els,rfl,⟨h1,.inr ⟨false,rfl⟩⟩,h2,h3⟩
theorem wt_disk {D : Nat} {cs : List V} (h : WT cfg.P (D + 5) 30 cs) : ∃ d : DiskR,d.ok ∧ cs = d.v := by
  have hl : cs.length = 4 := (wt_struct Tryz.underlying30 h).1.trans (by kernel_rfl)
  obtain ⟨x,n,es,e1,s1,b1,w1⟩ := wt_SV (z := 130) (B := 130) Tryz.underlying27 (by kernel_rfl) (by kernel_rfl) (wtv_fields Tryz.underlying30 h 0 rfl)
  obtain ⟨y,m,fs,e2,s2,b2,w2⟩ := wt_SV (z := 129) (B := 136) Tryz.underlying28 (by kernel_rfl) (by kernel_rfl) (wtv_fields Tryz.underlying30 h 1 rfl)
  obtain ⟨fu,e3,_⟩ := wtv_int (off := 2) Tryz.underlying3 (by kernel_rfl) (wtv_fields Tryz.underlying30 h 2 rfl)
  obtain ⟨dn,e4⟩ := wtv_bool (off := 3) Tryz.underlying4 (by kernel_rfl) (wtv_fields Tryz.underlying30 h 3 rfl)
  refine ⟨⟨x,n,es,y,m,fs,fu,dn⟩,⟨s1,s2,fun i hi => wt_sector (w1 i hi),fun i hi => wt_write (w2 i hi),by show n * 130 ≤ _; omega,by show m * 136 ≤ _; omega⟩,?_⟩
  have e1' : cs[0]? = some x := take1 e1
  have e2' : cs[1]? = some y := take1 e2
  match cs,hl with
  | [a0,a1,a2,a3],_ => simp at e1' e2' e3 e4; simp [DiskR.v,e1',e2',e3,e4]
theorem wt_remap {D : Nat} {cs : List V} (h : WT cfg.P (D + 5) 33 cs) : ∃ m : RemapR,m.ok ∧ cs = m.v := by
  have hl : cs.length = 2 := (wt_struct Tryz.underlying33 h).1.trans (by kernel_rfl)
  obtain ⟨g,e1,_⟩ := wtv_int (off := 0) Tryz.underlying3 (by kernel_rfl) (wtv_fields Tryz.underlying33 h 0 rfl)
  obtain ⟨x,n,es,e2,s2,b2,w2⟩ := wt_SV (z := 2) (B := 16) Tryz.underlying31 (by kernel_rfl) (by kernel_rfl) (wtv_fields Tryz.underlying33 h 1 rfl)
  have e2' : cs[1]? = some x := take1 e2
  obtain ⟨pl,rfl,rfl⟩ := pairs_of n es s2.1 fun i hi => by
    have hw := w2 i hi
    have hl : ((es.drop (i * 2)).take 2).length = 2 := (wt_struct Tryz.underlying119 hw).1.trans (by kernel_rfl)
    obtain ⟨a,g0,_⟩ := wtv_int (off := 0) Tryz.underlying3 (by kernel_rfl) (wtv_fields Tryz.underlying119 hw 0 rfl)
    obtain ⟨b,g1,_⟩ := wtv_int (off := 1) Tryz.underlying3 (by kernel_rfl) (wtv_fields Tryz.underlying119 hw 1 rfl)
    generalize (es.drop (i * 2)).take 2 = q at hl g0 g1
    match q,hl with
    | [u,v],_ => simp at g0 g1; exact ⟨a,b,by rw [g0,g1]⟩
  refine ⟨⟨g,x,pl⟩,⟨s2,by show pl.length * 16 ≤ _; omega⟩,?_⟩
  match cs,hl with
  | [a0,a1],_ => simp at e1 e2'; simp [RemapR.v,e1,e2']
theorem wt_space {D : Nat} {cs : List V} (h : WT cfg.P (D + 5) 37 cs) : ∃ s : SpaceR,s.ok ∧ cs = s.v := by
  have hl : cs.length = 4 := (wt_struct Tryz.underlying37 h).1.trans (by kernel_rfl)
  have f0 := wtv_fields Tryz.underlying37 h 0 rfl
  have f0' := (wt_array Tryz.underlying34 f0).2
  obtain ⟨a,g0,_⟩ := wtv_int (off := 0) Tryz.underlying3 (by kernel_rfl) (f0' 0 (by decide))
  obtain ⟨b,g1,_⟩ := wtv_int (off := 1) Tryz.underlying3 (by kernel_rfl) (f0' 1 (by decide))
  obtain ⟨sz,e1,_⟩ := wtv_int (off := 2) Tryz.underlying3 (by kernel_rfl) (wtv_fields Tryz.underlying37 h 1 rfl)
  obtain ⟨x,n,es,e2,s2,b2,w2⟩ := wt_SV (z := 1) (B := 1) Tryz.underlying35 (by kernel_rfl) (by kernel_rfl) (wtv_fields Tryz.underlying37 h 2 rfl)
  have e2' : cs[3]? = some x := take1 e2
  obtain ⟨l,rfl,hl2⟩ := ints_of (k := .u8) (cs := es) fun i hi => by
    have := w2 i (by have := s2.1; omega)
    rw [Nat.mul_one] at this
    obtain ⟨m,e1,e2⟩ := wt_int Tryz.underlying5 this
    exact ⟨m,take1 e1,e2⟩
  have hn : l.length = n := by have := s2.1; rw [ints_len] at this; omega
  subst hn
  refine ⟨⟨a,b,sz,x,l⟩,⟨s2,hl2,by show l.length ≤ _; omega⟩,?_⟩
  match cs,hl with
  | [a0,a1,a2,a3],_ =>
    have hc : cfg.P.cellsOf 34 = 2 := by kernel_rfl
    replace g0 : ((List.drop 0 [a0,a1,a2,a3]).take (cfg.P.cellsOf 34))[0]? = some (.i .i64 a) := g0
    replace g1 : ((List.drop 0 [a0,a1,a2,a3]).take (cfg.P.cellsOf 34))[1]? = some (.i .i64 b) := g1
    rw [hc] at g0 g1
    simp at e1 e2' g0 g1
    simp [SpaceR.v,e1,e2',g0,g1]
theorem wt_vol {cs : List V} (h : WT cfg.P 20 39 cs) : ∃ v : VolR,v.ok ∧ cs = v.v := by
  have hl : cs.length = 10 := (wt_struct Tryz.underlying39 h).1.trans (by kernel_rfl)
  obtain ⟨d,hd,e1⟩ := wt_disk (wtv_fields Tryz.underlying39 h 0 rfl)
  obtain ⟨m,hm,e2⟩ := wt_remap (wtv_fields Tryz.underlying39 h 1 rfl)
  obtain ⟨s,hs,e3⟩ := wt_space (wtv_fields Tryz.underlying39 h 2 rfl)
  replace e1 : (cs.drop 0).take (cfg.P.cellsOf 30) = d.v := e1
  replace e2 : (cs.drop 4).take (cfg.P.cellsOf 33) = m.v := e2
  replace e3 : (cs.drop 6).take (cfg.P.cellsOf 37) = s.v := e3
  rw [show cfg.P.cellsOf 30 = 4 by kernel_rfl] at e1
  rw [show cfg.P.cellsOf 33 = 2 by kernel_rfl] at e2
  rw [show cfg.P.cellsOf 37 = 4 by kernel_rfl] at e3
  refine ⟨⟨d,m,s⟩,⟨hd,hm,hs⟩,?_⟩
  match cs,hl with
  | [a0,a1,a2,a3,a4,a5,a6,a7,a8,a9],_ =>
    simp [DiskR.v] at e1
    simp [RemapR.v] at e2
    simp [SpaceR.v] at e3
    simp [VolR.v,e1,e2,e3]
end Go.Am.R2

/- The law of what links refuse: over all arguments. -/
namespace Go.Am.R2L
open Go.Proofs
set_option maxRecDepth 100000
set_option linter.unusedSimpArgs false
set_option linter.unusedVariables false
theorem law4 (v : R2.VolR) (h : v.ok) {cs : List V} {a b c d : Int} {z : List Int} (hs : R2.StemAt cs a b z c d) (ha : In64 a) (hb : In64 b) (hc : In64 c) (n : Int) {σ : List O} {p : List Nat} :
    runF cfg 4 [.agg v.v,.agg cs,.i .i64 n] σ p = some (.b true,σ) := by
  by_cases h3 : 300 < (v.d.nc : Int)
  · exact law4_yes v h hs ha hb n (.inr h3)
  · cases hg : (R2.rightV v && (R2.stemB a b z c d && R2.mineB v a b z)) with
    | true => exact law4_yes v h hs ha hb n (.inl hg)
    | false => exact law4_no v h hs ha hb hc n hg h3
theorem law4_all (xs : List V) (h : WTA cfg.P [39,44,3] xs) : runF cfg 4 xs [] [] = some (.b true,[]) := by
  obtain ⟨cs,ys,rfl,_,h1,h⟩ := wta_cons h
  obtain ⟨cs2,ys,rfl,_,h2,h⟩ := wta_cons h
  obtain ⟨cs3,ys,rfl,_,h3,h⟩ := wta_cons h
  obtain rfl := wta_nil h
  obtain ⟨v,hv,rfl⟩ := R2.wt_vol h1
  obtain ⟨a,b,z,c,d,hs,ha,hb,hc⟩ := wt_stem (D := 16) h2
  obtain ⟨n,rfl,hn⟩ := wt_int (D := 19) Tryz.underlying3 h3
  rw [argV_agg (by kernel_rfl),argV_agg (by kernel_rfl),argV_one (by kernel_rfl)]
  exact law4 v hv hs ha hb hc n
end Go.Am.R2L
