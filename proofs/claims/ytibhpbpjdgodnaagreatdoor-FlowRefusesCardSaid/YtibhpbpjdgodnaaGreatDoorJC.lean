/- Parts of one machine and of the walks over it, joined: K48 K49 K50 K51 K52. -/
import Derived.Test.YtibhpbpjdgodnaaGreatDoorJA
import Derived.Test.YtibhpbpjdgodnaaGreatDoorAmOwn
/- Volumes: the same as their copies. -/
namespace Go.Am.R2
open Go.Proofs
set_option maxRecDepth 100000
set_option linter.unusedSimpArgs false
set_option linter.unusedVariables false
variable {σ : List O} {p : List Nat}
theorem same_disk (d e : DiskR) (hd : d.ok) (he : e.ok) (h1 : e.ns = d.ns) (h2 : e.ses = d.ses) (h3 : e.nc = d.nc) (h4 : e.ces = d.ces) (h5 : e.fuse = d.fuse) (h6 : e.down = d.down) :
    runF cfg 65 [.agg d.v, .agg e.v] σ p = some (.b true, σ) := by
  obtain ⟨s1, c1, sf, cf, sb, cb⟩ := hd
  obtain ⟨s2, c2, _⟩ := he
  obtain ⟨x1, n, es, y1, m, fs, fu, dn⟩ := d
  obtain ⟨x2, n', es', y2, m', fs', fu', dn'⟩ := e
  simp only at h1 h2 h3 h4 h5 h6 s1 s2 c1 c2 sf cf sb cb
  subst h1 h2 h3 h4 h5 h6
  refine run_done rfl rfl Tryz.func65 rfl ?_
  have o1 := s1.one
  have o2 := s2.one
  have o3 := c1.one
  have o4 := c2.one
  have l1 := fun τ => s1.len (C := cfg) sh31 τ
  have l2 := fun τ => s2.len (C := cfg) sh31 τ
  have l3 := fun τ => c1.len (C := cfg) sh32 τ
  have l4 := fun τ => c2.len (C := cfg) sh32 τ
  simp +contextual (disch := first | omega | exact rfl | decide | exact kpF (by decide) | exact kpT (by decide) | assumption | exact Z2z | exact Z30 | exact Z32 | exact Z31 | exact Z33 | exact Z34 | (simp only [ZI] <;> omega) | simp only [ZK] | (simp only [ZL] <;> assumption)) only [Tryz.f65, ZH, SOp, GOp, ↓Z1c, Int.reduceAdd, Int.reduceSub, Int.reduceMul, Int.reduceNeg, accs, touch, touchM, okPair, Nat.reduceAdd, Nat.reduceLeDiff, Nat.reduceMul, Nat.reduceSub, isV, opA, grdO, grd, Z41, Int.reduceLT, Int.reduceLE, Int.reduceToNat, builtinP, builtinA, changes, fieldAddrA, resA, tupled, ↓reduceIte, Nat.reduceEqDiff, Nat.reduceLT, Z70, Int.reduceEq, dr65x6, dr65x11, Y3, Y4, Y5, Y31, Y32, Y34, Y47, Y132, Y148, bne4, DiskR.v, o1, o2, o3, o4, l1, l2, l3, l4]
  refine Wq.up (fun i s => s.nt = 73 ∧ s.σ = σ ++ [.cells (0 :: p) [x1, y1, .i .i64 fu', .b dn'], .cells (1 :: p) [x2, y2, .i .i64 fu', .b dn']] ∧ s.t.get 2 = some (.ptr σ.length (0 :: p) 0) ∧ s.t.get 3 = some (.ptr (σ.length + 1) (1 :: p) 0) ∧ s.t.get 5 = some (.i .i64 (i : Nat))) n' ?_ ?_
  · refine ⟨rfl, rfl, ?_⟩
    simp +contextual (disch := first | omega | exact rfl | decide | exact kpF (by decide) | exact kpT (by decide) | assumption | exact Z2z | exact Z30 | exact Z32 | exact Z31 | exact Z33 | exact Z34 | (simp only [ZI] <;> omega) | simp only [ZK] | (simp only [ZL] <;> assumption)) only [ZH, SOp, GOp, ↓Z1c, Int.reduceAdd, Int.reduceSub, Int.reduceMul, Int.reduceNeg, accs, touch, touchM, okPair, Nat.reduceAdd, Nat.reduceLeDiff, Nat.reduceMul, Nat.reduceSub, isV, opA, grdO, grd, Z41, Int.reduceLT, Int.reduceLE, Int.reduceToNat, builtinP, builtinA, changes, fieldAddrA, resA, tupled, ↓reduceIte, Nat.reduceEqDiff, Nat.reduceLT, Z70, Int.reduceEq]
  · rintro i ⟨t, nt, σ', c⟩ hi ⟨rfl, rfl, g2, g3, g5⟩
    by_cases hlt : i < n'
    · have hlt' : (i : Int) < (n' : Int) := by omega
      have a1 := s1.at (C := cfg) sh31 sz148 hlt
      have a2 := s2.at (C := cfg) sh31 sz148 hlt
      have ld : ∀ τ, loadA cfg 148 τ (.iptr (es'.drop (i * (129 + 1)))) = some (.agg ((es'.drop (i * 130)).take 130)) := fun τ => by
        rw [load_iagg ag148 sz148, take_el s1.1 hlt]; rfl
      have ne := fun x y => ne148 (x := x) (y := y) (sf i hlt) (sf i hlt)
      have er : eqB ((es'.drop (i * 130)).take 130) ((es'.drop (i * 130)).take 130) = true := eqB_refl (fk_some (sf i hlt))
      simp +contextual (disch := first | omega | exact rfl | decide | exact kpF (by decide) | exact kpT (by decide) | assumption | exact Z2z | exact Z30 | exact Z32 | exact Z31 | exact Z33 | exact Z34 | (simp only [ZI] <;> omega) | simp only [ZK] | (simp only [ZL] <;> assumption)) only [ZH, SOp, GOp, ↓Z1c, Int.reduceAdd, Int.reduceSub, Int.reduceMul, Int.reduceNeg, accs, touch, touchM, okPair, Nat.reduceAdd, Nat.reduceLeDiff, Nat.reduceMul, Nat.reduceSub, isV, opA, grdO, grd, Z41, Int.reduceLT, Int.reduceLE, Int.reduceToNat, builtinP, builtinA, changes, fieldAddrA, resA, tupled, ↓reduceIte, Nat.reduceEqDiff, Nat.reduceLT, Z70, Int.reduceEq, dr65x6, dr65x11, Y3, Y4, Y5, Y31, Y32, Y34, Y47, Y132, Y148, g2, g3, g5, l1, l2, hlt', a1, a2, ld, ne, er]
      exact ⟨hlt, rfl⟩
    · have hi' : i = n' := by omega
      subst hi'
      simp +contextual (disch := first | omega | exact rfl | decide | exact kpF (by decide) | exact kpT (by decide) | assumption | exact Z2z | exact Z30 | exact Z32 | exact Z31 | exact Z33 | exact Z34 | (simp only [ZI] <;> omega) | simp only [ZK] | (simp only [ZL] <;> assumption)) only [ZH, SOp, GOp, ↓Z1c, Int.reduceAdd, Int.reduceSub, Int.reduceMul, Int.reduceNeg, accs, touch, touchM, okPair, Nat.reduceAdd, Nat.reduceLeDiff, Nat.reduceMul, Nat.reduceSub, isV, opA, grdO, grd, Z41, Int.reduceLT, Int.reduceLE, Int.reduceToNat, builtinP, builtinA, changes, fieldAddrA, resA, tupled, ↓reduceIte, Nat.reduceEqDiff, Nat.reduceLT, Z70, Int.reduceEq, dr65x6, dr65x11, Y3, Y4, Y5, Y31, Y32, Y34, Y47, Y132, Y148, g2, g3, g5, l1, l2, Int.lt_irrefl]
      refine Wq.up (fun i s => s.nt = 73 ∧ s.σ = σ ++ [.cells (0 :: p) [x1, y1, .i .i64 fu', .b dn'], .cells (1 :: p) [x2, y2, .i .i64 fu', .b dn']] ∧ s.t.get 2 = some (.ptr σ.length (0 :: p) 0) ∧ s.t.get 3 = some (.ptr (σ.length + 1) (1 :: p) 0) ∧ s.t.get 6 = some (.i .i64 (i : Nat))) m' ?_ ?_
      · refine ⟨rfl, rfl, ?_⟩
        simp +contextual (disch := first | omega | exact rfl | decide | exact kpF (by decide) | exact kpT (by decide) | assumption | exact Z2z | exact Z30 | exact Z32 | exact Z31 | exact Z33 | exact Z34 | (simp only [ZI] <;> omega) | simp only [ZK] | (simp only [ZL] <;> assumption)) only [ZH, SOp, GOp, ↓Z1c, Int.reduceAdd, Int.reduceSub, Int.reduceMul, Int.reduceNeg, accs, touch, touchM, okPair, Nat.reduceAdd, Nat.reduceLeDiff, Nat.reduceMul, Nat.reduceSub, isV, opA, grdO, grd, Z41, Int.reduceLT, Int.reduceLE, Int.reduceToNat, builtinP, builtinA, changes, fieldAddrA, resA, tupled, ↓reduceIte, Nat.reduceEqDiff, Nat.reduceLT, Z70, Int.reduceEq, g2, g3]
      · rintro i ⟨t, nt, σ', c⟩ hi ⟨rfl, rfl, g2, g3, g6⟩
        by_cases hlt : i < m'
        · have hlt' : (i : Int) < (m' : Int) := by omega
          have a1 := c1.at (C := cfg) sh32 sz132 hlt
          have a2 := c2.at (C := cfg) sh32 sz132 hlt
          have ld : ∀ τ, loadA cfg 132 τ (.iptr (fs'.drop (i * (128 + 1)))) = some (.agg ((fs'.drop (i * 129)).take 129)) := fun τ => by
            rw [load_iagg ag132 sz132, take_el c1.1 hlt]; rfl
          have ne := fun x y => ne132 (x := x) (y := y) (cf i hlt) (cf i hlt)
          have er : eqB ((fs'.drop (i * 129)).take 129) ((fs'.drop (i * 129)).take 129) = true := eqB_refl (fk_some (cf i hlt))
          simp +contextual (disch := first | omega | exact rfl | decide | exact kpF (by decide) | exact kpT (by decide) | assumption | exact Z2z | exact Z30 | exact Z32 | exact Z31 | exact Z33 | exact Z34 | (simp only [ZI] <;> omega) | simp only [ZK] | (simp only [ZL] <;> assumption)) only [ZH, SOp, GOp, ↓Z1c, Int.reduceAdd, Int.reduceSub, Int.reduceMul, Int.reduceNeg, accs, touch, touchM, okPair, Nat.reduceAdd, Nat.reduceLeDiff, Nat.reduceMul, Nat.reduceSub, isV, opA, grdO, grd, Z41, Int.reduceLT, Int.reduceLE, Int.reduceToNat, builtinP, builtinA, changes, fieldAddrA, resA, tupled, ↓reduceIte, Nat.reduceEqDiff, Nat.reduceLT, Z70, Int.reduceEq, dr65x6, dr65x11, Y3, Y4, Y5, Y31, Y32, Y34, Y47, Y132, Y148, g2, g3, g6, l3, l4, hlt', a1, a2, ld, ne, er]
          exact ⟨hlt, rfl⟩
        · have hi' : i = m' := by omega
          subst hi'
          simp +contextual (disch := first | omega | exact rfl | decide | exact kpF (by decide) | exact kpT (by decide) | assumption | exact Z2z | exact Z30 | exact Z32 | exact Z31 | exact Z33 | exact Z34 | (simp only [ZI] <;> omega) | simp only [ZK] | (simp only [ZL] <;> assumption)) only [ZH, SOp, GOp, ↓Z1c, Int.reduceAdd, Int.reduceSub, Int.reduceMul, Int.reduceNeg, accs, touch, touchM, okPair, Nat.reduceAdd, Nat.reduceLeDiff, Nat.reduceMul, Nat.reduceSub, isV, opA, grdO, grd, Z41, Int.reduceLT, Int.reduceLE, Int.reduceToNat, builtinP, builtinA, changes, fieldAddrA, resA, tupled, ↓reduceIte, Nat.reduceEqDiff, Nat.reduceLT, Z70, Int.reduceEq, dr65x6, dr65x11, Y3, Y4, Y5, Y31, Y32, Y34, Y47, Y132, Y148, g2, g3, g6, l3, l4, Int.lt_irrefl]
theorem same_remap (d e : RemapR) (hd : d.ok) (he : e.ok) (h1 : e.gen = d.gen) (h2 : e.pl = d.pl) : runF cfg 66 [.agg d.v, .agg e.v] σ p = some (.b true, σ) := by
  obtain ⟨s1, b⟩ := hd
  obtain ⟨s2, _⟩ := he
  obtain ⟨ge, x1, l⟩ := d
  obtain ⟨ge', x2, l'⟩ := e
  simp only at h1 h2 s1 s2 b
  subst h1 h2
  refine run_done rfl rfl Tryz.func66 rfl ?_
  have o1 := s1.one
  have o2 := s2.one
  have l1 := fun τ => s1.len (C := cfg) sh35 τ
  have l2 := fun τ => s2.len (C := cfg) sh35 τ
  simp +contextual (disch := first | omega | exact rfl | decide | exact kpF (by decide) | exact kpT (by decide) | assumption | exact Z2z | exact Z30 | exact Z32 | exact Z31 | exact Z33 | exact Z34 | (simp only [ZI] <;> omega) | simp only [ZK] | (simp only [ZL] <;> assumption)) only [Tryz.f66, ZH, SOp, GOp, ↓Z1c, Int.reduceAdd, Int.reduceSub, Int.reduceMul, Int.reduceNeg, accs, touch, touchM, okPair, Nat.reduceAdd, Nat.reduceLeDiff, Nat.reduceMul, Nat.reduceSub, isV, opA, grdO, grd, Z41, Int.reduceLT, Int.reduceLE, Int.reduceToNat, builtinP, builtinA, changes, fieldAddrA, resA, tupled, ↓reduceIte, Nat.reduceEqDiff, Nat.reduceLT, Z70, Int.reduceEq, dr66x6, Y3, Y35, Y37, Y134, RemapR.v, o1, o2, l1, l2]
  refine Wq.up (fun i s => s.nt = 38 ∧ s.σ = σ ++ [.cells (0 :: p) [.i .i64 ge', x1], .cells (1 :: p) [.i .i64 ge', x2]] ∧ s.t.get 2 = some (.ptr σ.length (0 :: p) 0) ∧ s.t.get 3 = some (.ptr (σ.length + 1) (1 :: p) 0) ∧ s.t.get 5 = some (.i .i64 (i : Nat))) l'.length ?_ ?_
  · refine ⟨rfl, rfl, ?_⟩
    simp +contextual (disch := first | omega | exact rfl | decide | exact kpF (by decide) | exact kpT (by decide) | assumption | exact Z2z | exact Z30 | exact Z32 | exact Z31 | exact Z33 | exact Z34 | (simp only [ZI] <;> omega) | simp only [ZK] | (simp only [ZL] <;> assumption)) only [ZH, SOp, GOp, ↓Z1c, Int.reduceAdd, Int.reduceSub, Int.reduceMul, Int.reduceNeg, accs, touch, touchM, okPair, Nat.reduceAdd, Nat.reduceLeDiff, Nat.reduceMul, Nat.reduceSub, isV, opA, grdO, grd, Z41, Int.reduceLT, Int.reduceLE, Int.reduceToNat, builtinP, builtinA, changes, fieldAddrA, resA, tupled, ↓reduceIte, Nat.reduceEqDiff, Nat.reduceLT, Z70, Int.reduceEq]
  · rintro i ⟨t, nt, σ', c⟩ hi ⟨rfl, rfl, g2, g3, g5⟩
    by_cases hlt : i < l'.length
    · have hlt' : (i : Int) < (l'.length : Int) := by omega
      have a1 := s1.at (C := cfg) sh35 sz134 hlt
      have a2 := s2.at (C := cfg) sh35 sz134 hlt
      have ld : ∀ τ, loadA cfg 134 τ (.iptr ((prV l').drop (i * (1 + 1)))) = some (.agg [.i .i64 l'[i].1, .i .i64 l'[i].2]) := fun τ => by
        rw [load_iagg ag134 sz134, prV_drop l' i hlt]; rfl
      simp +contextual (disch := first | omega | exact rfl | decide | exact kpF (by decide) | exact kpT (by decide) | assumption | exact Z2z | exact Z30 | exact Z32 | exact Z31 | exact Z33 | exact Z34 | (simp only [ZI] <;> omega) | simp only [ZK] | (simp only [ZL] <;> assumption)) only [ZH, SOp, GOp, ↓Z1c, Int.reduceAdd, Int.reduceSub, Int.reduceMul, Int.reduceNeg, accs, touch, touchM, okPair, Nat.reduceAdd, Nat.reduceLeDiff, Nat.reduceMul, Nat.reduceSub, isV, opA, grdO, grd, Z41, Int.reduceLT, Int.reduceLE, Int.reduceToNat, builtinP, builtinA, changes, fieldAddrA, resA, tupled, ↓reduceIte, Nat.reduceEqDiff, Nat.reduceLT, Z70, Int.reduceEq, dr66x6, Y3, Y35, Y37, Y134, g2, g3, g5, l1, l2, hlt', a1, a2, ld]
      exact ⟨hlt, rfl⟩
    · have hi' : i = l'.length := by omega
      subst hi'
      simp +contextual (disch := first | omega | exact rfl | decide | exact kpF (by decide) | exact kpT (by decide) | assumption | exact Z2z | exact Z30 | exact Z32 | exact Z31 | exact Z33 | exact Z34 | (simp only [ZI] <;> omega) | simp only [ZK] | (simp only [ZL] <;> assumption)) only [ZH, SOp, GOp, ↓Z1c, Int.reduceAdd, Int.reduceSub, Int.reduceMul, Int.reduceNeg, accs, touch, touchM, okPair, Nat.reduceAdd, Nat.reduceLeDiff, Nat.reduceMul, Nat.reduceSub, isV, opA, grdO, grd, Z41, Int.reduceLT, Int.reduceLE, Int.reduceToNat, builtinP, builtinA, changes, fieldAddrA, resA, tupled, ↓reduceIte, Nat.reduceEqDiff, Nat.reduceLT, Z70, Int.reduceEq, dr66x6, Y3, Y35, Y37, Y134, g2, g3, g5, l1, l2, Int.lt_irrefl]
theorem tk402 {a0 a1 a2 a3 : V} : take? [a0, a1, a2, a3] 0 2 = some [a0, a1] := rfl
theorem same_space (d e : SpaceR) (hd : d.ok) (he : e.ok) (h1 : e.at0 = d.at0) (h2 : e.at1 = d.at1) (h3 : e.size = d.size) (h4 : e.sl = d.sl) : runF cfg 67 [.agg d.v, .agg e.v] σ p = some (.b true, σ) := by
  have v1 := hd.sv.view
  have v2 := he.sv.view
  have o1 := hd.sv.one
  have o2 := he.sv.one
  rw [h4] at v2
  have hs := fun (τ : List O) q => samev_ok (σ := τ) (p := q) d.sl (v1 τ) (v2 τ)
  refine run_done rfl rfl Tryz.func67 rfl ?_
  have e48 : ∀ x y, binA cfg .eql 38 x y (.agg [.i .i64 d.at0, .i .i64 d.at1]) (.agg [.i .i64 d.at0, .i .i64 d.at1]) = some (.b true) := fun x y => by
    rw [eq38 (by simp [fk_i]) (by simp [fk_i])]; simp [eqB_cons, eqB_nil, scB_i]
  simp +contextual (disch := first | omega | exact rfl | decide | exact kpF (by decide) | exact kpT (by decide) | assumption | exact Z2z | exact Z30 | exact Z32 | exact Z31 | exact Z33 | exact Z34 | (simp only [ZI] <;> omega) | simp only [ZK] | (simp only [ZL] <;> assumption)) only [Tryz.f67, ZH, SOp, GOp, ↓Z1c, Int.reduceAdd, Int.reduceSub, Int.reduceMul, Int.reduceNeg, accs, touch, touchM, okPair, Nat.reduceAdd, Nat.reduceLeDiff, Nat.reduceMul, Nat.reduceSub, isV, opA, grdO, grd, Z41, Int.reduceLT, Int.reduceLE, Int.reduceToNat, builtinP, builtinA, changes, fieldAddrA, resA, tupled, ↓reduceIte, Nat.reduceEqDiff, Nat.reduceLT, Z70, Int.reduceEq, Y3, Y5, Y38, Y39, Y41, SpaceR.v, o1, o2, h1, h2, h3, hs, e48, tk402]
theorem same_vol (v w : VolR) (hv : v.ok) (hw : w.ok) (hd : w.cp = v.cp) : runF cfg 23 [.agg v.v, .agg w.v] σ p = some (.b true, σ) := by
  have q1 : w.d.cp = v.d.cp := congrArg VolR.d hd
  have q2 : w.m.cp = v.m.cp := congrArg VolR.m hd
  have q3 : w.s.cp = v.s.cp := congrArg VolR.s hd
  have c1 := fun (τ : List O) q => same_disk (σ := τ) (p := q) v.d w.d hv.d hw.d (by have := congrArg DiskR.ns q1; exact this) (by have := congrArg DiskR.ses q1; exact this) (by have := congrArg DiskR.nc q1; exact this) (by have := congrArg DiskR.ces q1; exact this) (by have := congrArg DiskR.fuse q1; exact this) (by have := congrArg DiskR.down q1; exact this)
  have c2 := fun (τ : List O) q => same_remap (σ := τ) (p := q) v.m w.m hv.m hw.m (by have := congrArg RemapR.gen q2; exact this) (by have := congrArg RemapR.pl q2; exact this)
  have c3 := fun (τ : List O) q => same_space (σ := τ) (p := q) v.s w.s hv.s hw.s (by have := congrArg SpaceR.at0 q3; exact this) (by have := congrArg SpaceR.at1 q3; exact this) (by have := congrArg SpaceR.size q3; exact this) (by have := congrArg SpaceR.sl q3; exact this)
  refine run_done rfl rfl Tryz.func23 rfl ?_
  have o1 := hv.d.s.one
  have o2 := hv.d.c.one
  have o3 := hv.m.s.one
  have o4 := hv.s.sv.one
  have n1 := hw.d.s.one
  have n2 := hw.d.c.one
  have n3 := hw.m.s.one
  have n4 := hw.s.sv.one
  simp only [DiskR.v, RemapR.v, SpaceR.v] at c1 c2 c3
  simp +contextual (disch := first | omega | exact rfl | decide | exact kpF (by decide) | exact kpT (by decide) | assumption | exact Z2z | exact Z30 | exact Z32 | exact Z31 | exact Z33 | exact Z34 | (simp only [ZI] <;> omega) | simp only [ZK] | (simp only [ZL] <;> assumption)) only [Tryz.f23, ZH, SOp, GOp, ↓Z1c, Int.reduceAdd, Int.reduceSub, Int.reduceMul, Int.reduceNeg, accs, touch, touchM, okPair, Nat.reduceAdd, Nat.reduceLeDiff, Nat.reduceMul, Nat.reduceSub, isV, opA, grdO, grd, Z41, Int.reduceLT, Int.reduceLE, Int.reduceToNat, builtinP, builtinA, changes, fieldAddrA, resA, tupled, ↓reduceIte, Nat.reduceEqDiff, Nat.reduceLT, Z70, Int.reduceEq, Y3, Y4, Y5, Y31, Y32, Y34, Y35, Y37, Y38, Y39, Y41, Y43, Y132, Y134, Y148, VolR.v, c1, c2, c3, o1, o2, o3, o4, n1, n2, n3, n4, tk04, tk42, tk64]
end Go.Am.R2

/- Volumes: is a disk right. -/
namespace Go.Am.R2
open Go.Proofs
set_option maxRecDepth 100000
set_option linter.unusedSimpArgs false
set_option linter.unusedVariables false
variable {σ : List O} {p : List Nat}
/-- Where a write goes. -/
def wAt (els : List V) (i : Nat) : Int := match els[i * 129]? with | some (.i _ n) => n | _ => 0
theorem wAt_eq {els : List V} {i : Nat} (h : ((els.drop (i * 129)).take 129).map V.fk = ([(.i .i64)] ++ List.replicate 128 (.i .u8) : List Fk).map some) : els[i * 129]? = some (.i .i64 (wAt els i)) := by
  have := congrArg (fun l => l[0]?) h
  simp only [List.getElem?_map, List.getElem?_take, List.getElem?_drop, Nat.add_zero, show (0 : Nat) < 129 from by decide, if_true] at this
  unfold wAt
  cases hc : els[i * 129]? with
  | none => rw [hc] at this; simp at this
  | some v =>
    rw [hc] at this
    simp at this
    cases v <;> simp [V.fk] at this
    subst this; rfl
def badW (els : List V) (ns : Nat) (i : Nat) : Bool := decide (wAt els i < 0) || decide ((ns : Int) ≤ wAt els i)
def formedB (d : DiskR) : Bool := decide (0 < d.ns) && decide (d.ns ≤ 4096) && (List.range d.nc).all fun i => !badW d.ces d.ns i
theorem bad_ok {us : List V} {w : Int} {ns : Nat} {r : Nat} {st : List Nat} (hl : us.length = 129) (ho : us.all V.one = true) (hw : us[0]? = some (.i .i64 w)) (hr : rowAt σ r st = some [.i .i64 ns]) :
    runF cfg 164 [.agg us, .ptr r st 0] σ p = some (.b (decide (w < 0) || decide ((ns : Int) ≤ w)), σ) := by
  refine run_done rfl rfl Tryz.func164 rfl ?_
  have hr' : ∀ L, rowAt (σ ++ L) r st = some [.i .i64 ns] := fun L => rowAt_old hr
  simp +contextual (disch := first | omega | exact rfl | decide | exact kpF (by decide) | exact kpT (by decide) | assumption | exact Z2z | exact Z30 | exact Z32 | exact Z31 | exact Z33 | exact Z34 | (simp only [ZI] <;> omega) | simp only [ZK] | (simp only [ZL] <;> assumption)) only [Tryz.f164, ZH, SOp, GOp, ↓Z1c, Int.reduceAdd, Int.reduceSub, Int.reduceMul, Int.reduceNeg, accs, touch, touchM, okPair, Nat.reduceAdd, Nat.reduceLeDiff, Nat.reduceMul, Nat.reduceSub, isV, opA, grdO, grd, Z41, Int.reduceLT, Int.reduceLE, Int.reduceToNat, builtinP, builtinA, changes, fieldAddrA, resA, tupled, ↓reduceIte, Nat.reduceEqDiff, Nat.reduceLT, Z70, Int.reduceEq, Y3, Y5, Y47, Y132, ho, hw, hr']
theorem index_ok (d : DiskR) (h : d.ok) {r : Nat} {st : List Nat} (hr : rowAt σ r st = some [.i .i64 d.ns]) :
    ∃ k : Int, runF cfg 183 [d.cac, .fn 164 [] [.ptr r st 0]] σ p = some (.i .i64 k, σ) ∧ (decide (0 ≤ k) = !(List.range d.nc).all fun i => !badW d.ces d.ns i) ∧ -1 ≤ k ∧ k ≤ 140737488355328 := by
  suffices hs : ∃ res, runF cfg 183 [d.cac, .fn 164 [] [.ptr r st 0]] σ p = some res ∧ ∃ k : Int, res = (.i .i64 k, σ) ∧ (decide (0 ≤ k) = !(List.range d.nc).all fun i => !badW d.ces d.ns i) ∧ -1 ≤ k ∧ k ≤ 140737488355328 by
    obtain ⟨res, h1, k, rfl, h2⟩ := hs
    exact ⟨k, h1, h2⟩
  refine run_doneP rfl rfl Tryz.func183 rfl ?_
  have hb := h.cb
  have l3 := fun τ => h.c.len (C := cfg) sh32 τ
  simp +contextual (disch := first | omega | exact rfl | decide | exact kpF (by decide) | exact kpT (by decide) | assumption | exact Z2z | exact Z30 | exact Z32 | exact Z31 | exact Z33 | exact Z34 | (simp only [ZI] <;> omega) | simp only [ZK] | (simp only [ZL] <;> assumption)) only [Tryz.f183, ZH, SOp, GOp, ↓Z1c, Int.reduceAdd, Int.reduceSub, Int.reduceMul, Int.reduceNeg, accs, touch, touchM, okPair, Nat.reduceAdd, Nat.reduceLeDiff, Nat.reduceMul, Nat.reduceSub, isV, opA, grdO, grd, Z41, Int.reduceLT, Int.reduceLE, Int.reduceToNat, builtinP, builtinA, changes, fieldAddrA, resA, tupled, ↓reduceIte, Nat.reduceEqDiff, Nat.reduceLT, Z70, Int.reduceEq, Y3, Y5, Y32, Y47, Y132, l3]
  refine Wq.up (fun i s => s.nt = 19 ∧ s.σ = σ ∧ s.t.get 0 = some d.cac ∧ s.t.get 1 = some (.fn 164 [] [.ptr r st 0]) ∧ s.t.get 7 = some (.i .i64 d.nc) ∧ s.t.get 8 = some (.i .i64 (i : Nat)) ∧ ∀ j, j < i → badW d.ces d.ns j = false) d.nc ?_ ?_
  · refine ⟨rfl, rfl, ?_⟩
    simp +contextual (disch := first | omega | exact rfl | decide | exact kpF (by decide) | exact kpT (by decide) | assumption | exact Z2z | exact Z30 | exact Z32 | exact Z31 | exact Z33 | exact Z34 | (simp only [ZI] <;> omega) | simp only [ZK] | (simp only [ZL] <;> assumption)) only [ZH, SOp, GOp, ↓Z1c, Int.reduceAdd, Int.reduceSub, Int.reduceMul, Int.reduceNeg, accs, touch, touchM, okPair, Nat.reduceAdd, Nat.reduceLeDiff, Nat.reduceMul, Nat.reduceSub, isV, opA, grdO, grd, Z41, Int.reduceLT, Int.reduceLE, Int.reduceToNat, builtinP, builtinA, changes, fieldAddrA, resA, tupled, ↓reduceIte, Nat.reduceEqDiff, Nat.reduceLT, Z70, Int.reduceEq]
    exact fun j hj => absurd hj (by omega)
  · rintro i ⟨t, nt, σ', c⟩ hi ⟨rfl, rfl, g0, g1, g7, g8, hno⟩
    by_cases hlt : i < d.nc
    · have hlt' : (i : Int) < (d.nc : Int) := by omega
      have a1 := h.c.at (C := cfg) sh32 sz132 hlt
      have ld : ∀ τ, loadA cfg 132 τ (.iptr (d.ces.drop (i * (128 + 1)))) = some (.agg ((d.ces.drop (i * 129)).take 129)) := fun τ => by
        rw [load_iagg ag132 sz132, take_el h.c.1 hlt]; rfl
      have hf := h.cf i hlt
      have hw := wAt_eq hf
      have hbad := fun q => bad_ok (σ := σ') (p := q) (us := (d.ces.drop (i * 129)).take 129) (w := wAt d.ces i) (ns := d.ns) (by have := fk_len hf; simpa using this) (all_one_fk (fk_some hf)) (by simp [List.getElem?_take, List.getElem?_drop, hw]) hr
      have hbw : (decide (wAt d.ces i < 0) || decide ((d.ns : Int) ≤ wAt d.ces i)) = badW d.ces d.ns i := rfl
      rw [hbw] at hbad
      cases hbb : badW d.ces d.ns i with
      | true =>
        rw [hbb] at hbad
        simp +contextual (disch := first | omega | exact rfl | decide | exact kpF (by decide) | exact kpT (by decide) | assumption | exact Z2z | exact Z30 | exact Z32 | exact Z31 | exact Z33 | exact Z34 | (simp only [ZI] <;> omega) | simp only [ZK] | (simp only [ZL] <;> assumption)) only [ZH, SOp, GOp, ↓Z1c, Int.reduceAdd, Int.reduceSub, Int.reduceMul, Int.reduceNeg, accs, touch, touchM, okPair, Nat.reduceAdd, Nat.reduceLeDiff, Nat.reduceMul, Nat.reduceSub, isV, opA, grdO, grd, Z41, Int.reduceLT, Int.reduceLE, Int.reduceToNat, builtinP, builtinA, changes, fieldAddrA, resA, tupled, ↓reduceIte, Nat.reduceEqDiff, Nat.reduceLT, Z70, Int.reduceEq, Y3, Y5, Y32, Y47, Y132, g0, g1, g7, g8, hlt', a1, ld, SCall_fnC, hbad, DoneP_ret]
        refine ⟨(i : Int), rfl, ?_, by omega, by omega⟩
        rw [decide_eq_true (by omega)]
        symm
        rw [Bool.not_eq_true', List.all_eq_false]
        exact ⟨i, List.mem_range.2 hlt, by rw [hbb]; decide⟩
      | false =>
        rw [hbb] at hbad
        simp +contextual (disch := first | omega | exact rfl | decide | exact kpF (by decide) | exact kpT (by decide) | assumption | exact Z2z | exact Z30 | exact Z32 | exact Z31 | exact Z33 | exact Z34 | (simp only [ZI] <;> omega) | simp only [ZK] | (simp only [ZL] <;> assumption)) only [ZH, SOp, GOp, ↓Z1c, Int.reduceAdd, Int.reduceSub, Int.reduceMul, Int.reduceNeg, accs, touch, touchM, okPair, Nat.reduceAdd, Nat.reduceLeDiff, Nat.reduceMul, Nat.reduceSub, isV, opA, grdO, grd, Z41, Int.reduceLT, Int.reduceLE, Int.reduceToNat, builtinP, builtinA, changes, fieldAddrA, resA, tupled, ↓reduceIte, Nat.reduceEqDiff, Nat.reduceLT, Z70, Int.reduceEq, Y3, Y5, Y32, Y47, Y132, g0, g1, g7, g8, hlt', a1, ld, SCall_fnC, hbad]
        refine ⟨hlt, rfl, fun j hj => ?_⟩
        by_cases he : j = i
        · subst he; exact hbb
        · exact hno j (by omega)
    · have hi' : i = d.nc := by omega
      subst hi'
      simp +contextual (disch := first | omega | exact rfl | decide | exact kpF (by decide) | exact kpT (by decide) | assumption | exact Z2z | exact Z30 | exact Z32 | exact Z31 | exact Z33 | exact Z34 | (simp only [ZI] <;> omega) | simp only [ZK] | (simp only [ZL] <;> assumption)) only [ZH, SOp, GOp, ↓Z1c, Int.reduceAdd, Int.reduceSub, Int.reduceMul, Int.reduceNeg, accs, touch, touchM, okPair, Nat.reduceAdd, Nat.reduceLeDiff, Nat.reduceMul, Nat.reduceSub, isV, opA, grdO, grd, Z41, Int.reduceLT, Int.reduceLE, Int.reduceToNat, builtinP, builtinA, changes, fieldAddrA, resA, tupled, ↓reduceIte, Nat.reduceEqDiff, Nat.reduceLT, Z70, Int.reduceEq, Y3, Y5, Y32, Y47, Y132, g0, g1, g7, g8, Int.lt_irrefl, DoneP_ret, DoneP_normal]
      refine ⟨-1, rfl, ?_, by omega, by omega⟩
      rw [decide_eq_false (by omega)]
      symm
      rw [Bool.not_eq_false', List.all_eq_true]
      intro j hj
      rw [hno j (List.mem_range.1 hj)]; rfl
theorem formed_ok (d : DiskR) (h : d.ok) : runF cfg 135 [.agg d.v] σ p = some (.b (formedB d), σ) := by
  refine run_done rfl rfl Tryz.func135 rfl ?_
  have o1 := h.s.one
  have o2 := h.c.one
  have l1 := fun τ => h.s.len (C := cfg) sh31 τ
  have hc : ∀ (τ : List O) r st q, rowAt τ r st = some [.i .i64 d.ns] → runF cfg 163 [d.cac, .fn 164 [] [.ptr r st 0]] τ q = some (.b (!(List.range d.nc).all fun i => !badW d.ces d.ns i), τ) := by
    intro τ r st q hr
    refine run_done rfl rfl Tryz.func163 rfl ?_
    obtain ⟨k, hk, hk2, _⟩ := index_ok (σ := τ) (p := 0 :: q) d h hr
    simp +contextual (disch := first | omega | exact rfl | decide | exact kpF (by decide) | exact kpT (by decide) | assumption | exact Z2z | exact Z30 | exact Z32 | exact Z31 | exact Z33 | exact Z34 | (simp only [ZI] <;> omega) | simp only [ZK] | (simp only [ZL] <;> assumption)) only [Tryz.f163, ZH, SOp, GOp, ↓Z1c, Int.reduceAdd, Int.reduceSub, Int.reduceMul, Int.reduceNeg, accs, touch, touchM, okPair, Nat.reduceAdd, Nat.reduceLeDiff, Nat.reduceMul, Nat.reduceSub, isV, opA, grdO, grd, Z41, Int.reduceLT, Int.reduceLE, Int.reduceToNat, builtinP, builtinA, changes, fieldAddrA, resA, tupled, ↓reduceIte, Nat.reduceEqDiff, Nat.reduceLT, Z70, Int.reduceEq, Y3, hk, hk2]
  have hc2 : ∀ A st q, runF cfg 163 [d.cac, .fn 164 [] [.ptr (σ.length + 1) st 0]] (σ ++ [A, .cells st [.i .i64 d.ns]]) q = _ := fun A st q => hc (σ ++ [A, .cells st [.i .i64 d.ns]]) (σ.length + 1) st q (by rw [rowAt_app]; simp [rowAt])
  simp +contextual (disch := first | omega | exact rfl | decide | exact kpF (by decide) | exact kpT (by decide) | assumption | exact Z2z | exact Z30 | exact Z32 | exact Z31 | exact Z33 | exact Z34 | (simp only [ZI] <;> omega) | simp only [ZK] | (simp only [ZL] <;> assumption)) only [Tryz.f135, ZH, SOp, GOp, ↓Z1c, Int.reduceAdd, Int.reduceSub, Int.reduceMul, Int.reduceNeg, accs, touch, touchM, okPair, Nat.reduceAdd, Nat.reduceLeDiff, Nat.reduceMul, Nat.reduceSub, isV, opA, grdO, grd, Z41, Int.reduceLT, Int.reduceLE, Int.reduceToNat, builtinP, builtinA, changes, fieldAddrA, resA, tupled, ↓reduceIte, Nat.reduceEqDiff, Nat.reduceLT, Z70, Int.reduceEq, Y3, Y4, Y31, Y32, Y34, Y47, Y132, Y148, DiskR.v, o1, o2, l1, hc2]
  refine congrArg (fun b => (V.b b, σ)) ?_
  rw [Bool.not_not, formedB, decide_eq_decide.2 (show (0 : Int) < d.ns ↔ 0 < d.ns by omega), decide_eq_decide.2 (show (d.ns : Int) ≤ 4096 ↔ d.ns ≤ 4096 by omega)]
end Go.Am.R2

/- Volumes: is a disk right, by the document; is the space's table formed. -/
namespace Go.Am.R2
open Go.Proofs
set_option maxRecDepth 100000
set_option linter.unusedSimpArgs false
set_option linter.unusedVariables false
variable {σ : List O} {p : List Nat}
theorem there_ok (d : DiskR) (h : d.ok) (w : Int) : runF cfg 91 [.agg d.v, .i .i64 w] σ p = some (.b (decide (0 ≤ w) && decide (w < d.ns)), σ) := by
  refine run_done rfl rfl Tryz.func91 rfl ?_
  have o1 := h.s.one
  have o2 := h.c.one
  have l1 := fun τ => h.s.len (C := cfg) sh31 τ
  simp +contextual (disch := first | omega | exact rfl | decide | exact kpF (by decide) | exact kpT (by decide) | assumption | exact Z2z | exact Z30 | exact Z32 | exact Z31 | exact Z33 | exact Z34 | (simp only [ZI] <;> omega) | simp only [ZK] | (simp only [ZL] <;> assumption)) only [Tryz.f91, ZH, SOp, GOp, ↓Z1c, Int.reduceAdd, Int.reduceSub, Int.reduceMul, Int.reduceNeg, accs, touch, touchM, okPair, Nat.reduceAdd, Nat.reduceLeDiff, Nat.reduceMul, Nat.reduceSub, isV, opA, grdO, grd, Z41, Int.reduceLT, Int.reduceLE, Int.reduceToNat, builtinP, builtinA, changes, fieldAddrA, resA, tupled, ↓reduceIte, Nat.reduceEqDiff, Nat.reduceLT, Z70, Int.reduceEq, Y3, Y4, Y31, Y32, Y34, Y47, Y132, Y148, DiskR.v, o1, o2, l1]
theorem formed3_ok (d : DiskR) (h : d.ok) : runF cfg 43 [.agg d.v] σ p = some (.b (formedB d), σ) := by
  refine run_done rfl rfl Tryz.func43 rfl ?_
  have hb := h.cb
  have o1 := h.s.one
  have o2 := h.c.one
  have l1 := fun τ => h.s.len (C := cfg) sh31 τ
  have l3 := fun τ => h.c.len (C := cfg) sh32 τ
  have th := fun (τ : List O) q w => there_ok (σ := τ) (p := q) d h w
  simp only [DiskR.v] at th
  simp +contextual (disch := first | omega | exact rfl | decide | exact kpF (by decide) | exact kpT (by decide) | assumption | exact Z2z | exact Z30 | exact Z32 | exact Z31 | exact Z33 | exact Z34 | (simp only [ZI] <;> omega) | simp only [ZK] | (simp only [ZL] <;> assumption)) only [Tryz.f43, ZH, SOp, GOp, ↓Z1c, Int.reduceAdd, Int.reduceSub, Int.reduceMul, Int.reduceNeg, accs, touch, touchM, okPair, Nat.reduceAdd, Nat.reduceLeDiff, Nat.reduceMul, Nat.reduceSub, isV, opA, grdO, grd, Z41, Int.reduceLT, Int.reduceLE, Int.reduceToNat, builtinP, builtinA, changes, fieldAddrA, resA, tupled, ↓reduceIte, Nat.reduceEqDiff, Nat.reduceLT, Z70, Int.reduceEq, dr43x4, Y3, Y4, Y5, Y31, Y32, Y34, Y47, Y132, Y148, DiskR.v, o1, o2]
  refine Wq.up (fun i s => s.nt = 30 ∧ s.σ = σ ++ [.cells (0 :: p) d.v] ∧ s.t.get 1 = some (.ptr σ.length (0 :: p) 0) ∧ s.t.get 3 = some (.i .i64 (i : Nat)) ∧ ∀ j, j < i → badW d.ces d.ns j = false) d.nc ?_ ?_
  · refine ⟨rfl, rfl, ?_⟩
    simp +contextual (disch := first | omega | exact rfl | decide | exact kpF (by decide) | exact kpT (by decide) | assumption | exact Z2z | exact Z30 | exact Z32 | exact Z31 | exact Z33 | exact Z34 | (simp only [ZI] <;> omega) | simp only [ZK] | (simp only [ZL] <;> assumption)) only [ZH, SOp, GOp, ↓Z1c, Int.reduceAdd, Int.reduceSub, Int.reduceMul, Int.reduceNeg, accs, touch, touchM, okPair, Nat.reduceAdd, Nat.reduceLeDiff, Nat.reduceMul, Nat.reduceSub, isV, opA, grdO, grd, Z41, Int.reduceLT, Int.reduceLE, Int.reduceToNat, builtinP, builtinA, changes, fieldAddrA, resA, tupled, ↓reduceIte, Nat.reduceEqDiff, Nat.reduceLT, Z70, Int.reduceEq]
    exact fun j hj => absurd hj (by omega)
  · rintro i ⟨t, nt, σ', c⟩ hi ⟨rfl, rfl, g1, g3, hno⟩
    simp only [DiskR.v] at g1 g3 ⊢
    by_cases hlt : i < d.nc
    · have hlt' : (i : Int) < (d.nc : Int) := by omega
      have a1 := h.c.at (C := cfg) sh32 sz132 hlt
      have ld := wAt_eq (h.cf i hlt)
      have hbw : (decide (0 ≤ wAt d.ces i) && decide (wAt d.ces i < d.ns)) = !badW d.ces d.ns i := by
        unfold badW
        rw [Bool.eq_iff_iff]
        simp
      cases hbb : badW d.ces d.ns i with
      | true =>
        rw [hbb] at hbw
        have hf : formedB d = false := by
          unfold formedB
          rw [Bool.and_eq_false_iff]
          right
          rw [List.all_eq_false]
          exact ⟨i, List.mem_range.2 hlt, by rw [hbb]; decide⟩
        simp +contextual (disch := first | omega | exact rfl | decide | exact kpF (by decide) | exact kpT (by decide) | assumption | exact Z2z | exact Z30 | exact Z32 | exact Z31 | exact Z33 | exact Z34 | (simp only [ZI] <;> omega) | simp only [ZK] | (simp only [ZL] <;> assumption)) only [ZH, SOp, GOp, ↓Z1c, Int.reduceAdd, Int.reduceSub, Int.reduceMul, Int.reduceNeg, accs, touch, touchM, okPair, Nat.reduceAdd, Nat.reduceLeDiff, Nat.reduceMul, Nat.reduceSub, isV, opA, grdO, grd, Z41, Int.reduceLT, Int.reduceLE, Int.reduceToNat, builtinP, builtinA, changes, fieldAddrA, resA, tupled, ↓reduceIte, Nat.reduceEqDiff, Nat.reduceLT, Z70, Int.reduceEq, dr43x4, Y3, Y4, Y5, Y31, Y32, Y34, Y47, Y132, Y148, g1, g3, l3, hlt', a1, ld, th, hbw, Nat.zero_le, hf]
      | false =>
        rw [hbb] at hbw
        simp +contextual (disch := first | omega | exact rfl | decide | exact kpF (by decide) | exact kpT (by decide) | assumption | exact Z2z | exact Z30 | exact Z32 | exact Z31 | exact Z33 | exact Z34 | (simp only [ZI] <;> omega) | simp only [ZK] | (simp only [ZL] <;> assumption)) only [ZH, SOp, GOp, ↓Z1c, Int.reduceAdd, Int.reduceSub, Int.reduceMul, Int.reduceNeg, accs, touch, touchM, okPair, Nat.reduceAdd, Nat.reduceLeDiff, Nat.reduceMul, Nat.reduceSub, isV, opA, grdO, grd, Z41, Int.reduceLT, Int.reduceLE, Int.reduceToNat, builtinP, builtinA, changes, fieldAddrA, resA, tupled, ↓reduceIte, Nat.reduceEqDiff, Nat.reduceLT, Z70, Int.reduceEq, dr43x4, Y3, Y4, Y5, Y31, Y32, Y34, Y47, Y132, Y148, g1, g3, l3, hlt', a1, ld, th, hbw, Nat.zero_le]
        refine ⟨hlt, rfl, fun j hj => ?_⟩
        by_cases he : j = i
        · subst he; exact hbb
        · exact hno j (by omega)
    · have hi' : i = d.nc := by omega
      subst hi'
      have hall : ((List.range d.nc).all fun i => !badW d.ces d.ns i) = true := by
        rw [List.all_eq_true]
        intro j hj
        rw [hno j (List.mem_range.1 hj)]; rfl
      simp +contextual (disch := first | omega | exact rfl | decide | exact kpF (by decide) | exact kpT (by decide) | assumption | exact Z2z | exact Z30 | exact Z32 | exact Z31 | exact Z33 | exact Z34 | (simp only [ZI] <;> omega) | simp only [ZK] | (simp only [ZL] <;> assumption)) only [ZH, SOp, GOp, ↓Z1c, Int.reduceAdd, Int.reduceSub, Int.reduceMul, Int.reduceNeg, accs, touch, touchM, okPair, Nat.reduceAdd, Nat.reduceLeDiff, Nat.reduceMul, Nat.reduceSub, isV, opA, grdO, grd, Z41, Int.reduceLT, Int.reduceLE, Int.reduceToNat, builtinP, builtinA, changes, fieldAddrA, resA, tupled, ↓reduceIte, Nat.reduceEqDiff, Nat.reduceLT, Z70, Int.reduceEq, dr43x4, Y3, Y4, Y5, Y31, Y32, Y34, Y47, Y132, Y148, g1, g3, l1, l3, Int.lt_irrefl]
      refine congrArg (fun b => (V.b b, σ)) ?_
      rw [formedB, hall, Bool.and_true, decide_eq_decide.2 (show (1 : Int) ≤ d.ns ↔ 0 < d.ns by omega), decide_eq_decide.2 (show (d.ns : Int) ≤ 4096 ↔ d.ns ≤ 4096 by omega)]
/-- Is the space's table formed. -/
def spaceB (s : SpaceR) : Bool :=
  decide (1 ≤ s.size) && decide (s.size ≤ 2000) && decide ((s.sl.length : Int) = 2 * s.size) && decide (0 ≤ s.at0) && decide (s.at0 + s.size ≤ s.at1) && decide (s.at1 + s.size ≤ 4096) && s.sl.all fun x => decide (x ≤ 4)
theorem max_ok (l : List Int) (h0 : 0 < l.length) (hb : l.length ≤ 140737488355328) {x : V} (hv : ∀ σ, View σ x (ints .u8 l)) : ∃ m, runF cfg 170 [x] σ p = some (.i .u8 m, σ) ∧ (decide (m ≤ 4) = l.all fun x => decide (x ≤ 4)) := by
  suffices hs : ∃ res, runF cfg 170 [x] σ p = some res ∧ ∃ m : Int, res = (.i .u8 m, σ) ∧ (decide (m ≤ 4) = l.all fun x => decide (x ≤ 4)) by
    obtain ⟨res, h1, k, rfl, h2⟩ := hs
    exact ⟨k, h1, h2⟩
  refine run_doneP rfl rfl Tryz.func170 rfl ?_
  have l1 := fun τ => (hv τ).len (C := cfg) (t := 39) sh39
  simp only [ints_len] at l1
  have e0 : ((l.length : Int) < 1) = False := eq_false (by omega)
  obtain ⟨a0, ha0, hla0⟩ := (hv []).at (C := cfg) sh39 sz5 ag5 .i64 0 (by rw [ints_len]; exact h0)
  have hl0 := fun τ => hla0 τ _ (hv τ)
  have ha0' : indexAddrA cfg 39 x (.i .i64 0) = some a0 := ha0
  have hg0 : (ints .u8 l)[0]? = some (.i .u8 (l.getD 0 0)) := ints_get' h0
  simp only [hg0] at hl0
  simp +contextual (disch := first | omega | exact rfl | decide | exact kpF (by decide) | exact kpT (by decide) | assumption | exact Z2z | exact Z30 | exact Z32 | exact Z31 | exact Z33 | exact Z34 | (simp only [ZI] <;> omega) | simp only [ZK] | (simp only [ZL] <;> assumption)) only [Tryz.f170, ZH, SOp, GOp, ↓Z1c, Int.reduceAdd, Int.reduceSub, Int.reduceMul, Int.reduceNeg, accs, touch, touchM, okPair, Nat.reduceAdd, Nat.reduceLeDiff, Nat.reduceMul, Nat.reduceSub, isV, opA, grdO, grd, Z41, Int.reduceLT, Int.reduceLE, Int.reduceToNat, builtinP, builtinA, changes, fieldAddrA, resA, tupled, ↓reduceIte, Nat.reduceEqDiff, Nat.reduceLT, Z70, Int.reduceEq, Y3, Y5, Y9, Y39, l1, e0, ha0', hl0]
  refine Wq.up (fun i s => s.nt = 25 ∧ s.σ = σ ∧ i + 1 ≤ l.length ∧ s.t.get 0 = some x ∧ s.t.get 4 = some (.i .i64 ((i : Int) + 1)) ∧ ∃ m : Int, s.t.get 3 = some (.i .u8 m) ∧ (decide (m ≤ 4) = (l.take (i + 1)).all fun x => decide (x ≤ 4))) (l.length - 1) ?_ ?_
  · refine ⟨rfl, rfl, by omega, ?_⟩
    simp +contextual (disch := first | omega | exact rfl | decide | exact kpF (by decide) | exact kpT (by decide) | assumption | exact Z2z | exact Z30 | exact Z32 | exact Z31 | exact Z33 | exact Z34 | (simp only [ZI] <;> omega) | simp only [ZK] | (simp only [ZL] <;> assumption)) only [ZH, SOp, GOp, ↓Z1c, Int.reduceAdd, Int.reduceSub, Int.reduceMul, Int.reduceNeg, accs, touch, touchM, okPair, Nat.reduceAdd, Nat.reduceLeDiff, Nat.reduceMul, Nat.reduceSub, isV, opA, grdO, grd, Z41, Int.reduceLT, Int.reduceLE, Int.reduceToNat, builtinP, builtinA, changes, fieldAddrA, resA, tupled, ↓reduceIte, Nat.reduceEqDiff, Nat.reduceLT, Z70, Int.reduceEq]
    refine ⟨_, rfl, ?_⟩
    cases l with
    | nil => simp at h0
    | cons a l => simp
  · rintro i ⟨t, nt, σ', c⟩ hi ⟨rfl, rfl, hil, g0, g4, m, g3, hm⟩
    by_cases hlt : i + 1 < l.length
    · have hlt' : (i : Int) + 1 < (l.length : Int) := by omega
      obtain ⟨a, ha, hla⟩ := (hv []).at (C := cfg) sh39 sz5 ag5 .i64 (i + 1) (by rw [ints_len]; exact hlt)
      have ha' : indexAddrA cfg 39 x (.i .i64 ((i : Int) + 1)) = some a := ha
      have hl1 := fun τ => hla τ _ (hv τ)
      simp only [ints_get' hlt] at hl1
      generalize hq : l.getD (i + 1) 0 = q at hl1
      have hm' : decide ((if m < q then q else m) ≤ 4) = (l.take (i + 1 + 1)).all fun x => decide (x ≤ 4) := by
        have ht : l.take (i + 1 + 1) = l.take (i + 1) ++ [q] := by
          rw [List.take_add_one, List.getElem?_eq_getElem hlt, ← hq, List.getD_eq_getElem?_getD, List.getElem?_eq_getElem hlt]; rfl
        rw [ht, List.all_append, ← hm]
        rw [Bool.eq_iff_iff]
        simp
        split <;> omega
      simp +contextual (disch := first | omega | exact rfl | decide | exact kpF (by decide) | exact kpT (by decide) | assumption | exact Z2z | exact Z30 | exact Z32 | exact Z31 | exact Z33 | exact Z34 | (simp only [ZI] <;> omega) | simp only [ZK] | (simp only [ZL] <;> assumption)) only [ZH, SOp, GOp, ↓Z1c, Int.reduceAdd, Int.reduceSub, Int.reduceMul, Int.reduceNeg, accs, touch, touchM, okPair, Nat.reduceAdd, Nat.reduceLeDiff, Nat.reduceMul, Nat.reduceSub, isV, opA, grdO, grd, Z41, Int.reduceLT, Int.reduceLE, Int.reduceToNat, builtinP, builtinA, changes, fieldAddrA, resA, tupled, ↓reduceIte, Nat.reduceEqDiff, Nat.reduceLT, Z70, Int.reduceEq, Y3, Y5, Y9, Y39, g0, g3, g4, l1, hlt', ha', hl1]
      exact ⟨by omega, hlt, rfl, _, rfl, hm'⟩
    · have hi' : i + 1 = l.length := by omega
      have hf : ((i : Int) + 1 < (l.length : Int)) = False := eq_false (by omega)
      simp +contextual (disch := first | omega | exact rfl | decide | exact kpF (by decide) | exact kpT (by decide) | assumption | exact Z2z | exact Z30 | exact Z32 | exact Z31 | exact Z33 | exact Z34 | (simp only [ZI] <;> omega) | simp only [ZK] | (simp only [ZL] <;> assumption)) only [ZH, SOp, GOp, ↓Z1c, Int.reduceAdd, Int.reduceSub, Int.reduceMul, Int.reduceNeg, accs, touch, touchM, okPair, Nat.reduceAdd, Nat.reduceLeDiff, Nat.reduceMul, Nat.reduceSub, isV, opA, grdO, grd, Z41, Int.reduceLT, Int.reduceLE, Int.reduceToNat, builtinP, builtinA, changes, fieldAddrA, resA, tupled, ↓reduceIte, Nat.reduceEqDiff, Nat.reduceLT, Z70, Int.reduceEq, Y3, Y5, Y9, Y39, g0, g3, g4, l1, hf, DoneP_ret, DoneP_normal]
      rw [hi', List.take_length] at hm
      exact ⟨m, rfl, hm⟩
end Go.Am.R2

/- Volumes: is the space's table formed, both ways. -/
namespace Go.Am.R2
open Go.Proofs
set_option maxRecDepth 100000
set_option linter.unusedSimpArgs false
set_option linter.unusedVariables false
variable {σ : List O} {p : List Nat}
theorem spaceB_iff {s : SpaceR} : spaceB s = true ↔ 1 ≤ s.size ∧ s.size ≤ 2000 ∧ (s.sl.length : Int) = 2 * s.size ∧ 0 ≤ s.at0 ∧ s.at0 + s.size ≤ s.at1 ∧ s.at1 + s.size ≤ 4096 ∧ (s.sl.all fun x => decide (x ≤ 4)) = true := by
  unfold spaceB
  simp only [Bool.and_eq_true, decide_eq_true_eq, and_assoc]
theorem spaceB_no {s : SpaceR} (h : ¬ (1 ≤ s.size ∧ s.size ≤ 2000 ∧ (s.sl.length : Int) = 2 * s.size ∧ 0 ≤ s.at0 ∧ s.at0 + s.size ≤ s.at1 ∧ s.at1 + s.size ≤ 4096)) : spaceB s = false := by
  cases hs : spaceB s with
  | false => rfl
  | true =>
    obtain ⟨a, b, c, d, e, f, _⟩ := spaceB_iff.1 hs
    exact absurd ⟨a, b, c, d, e, f⟩ h
theorem space_ok (s : SpaceR) (h : s.ok) : runF cfg 145 [.agg s.v] σ p = some (.b (spaceB s), σ) := by
  have hlen : ∀ τ, lenA cfg 39 τ s.st = some (.i .i64 s.sl.length) := fun τ => by
    have := (h.sv.view τ).len (C := cfg) (t := 39) sh39; rwa [ints_len] at this
  have o1 := h.sv.one
  have hb := h.b
  by_cases h1 : s.size < 1
  · rw [spaceB_no (by omega)]
    refine run_done rfl rfl Tryz.func145 rfl ?_
    simp +contextual (disch := first | omega | exact rfl | decide | exact kpF (by decide) | exact kpT (by decide) | assumption | exact Z2z | exact Z30 | exact Z32 | exact Z31 | exact Z33 | exact Z34 | (simp only [ZI] <;> omega) | simp only [ZK] | (simp only [ZL] <;> assumption)) only [Tryz.f145, ZH, SOp, GOp, ↓Z1c, Int.reduceAdd, Int.reduceSub, Int.reduceMul, Int.reduceNeg, accs, touch, touchM, okPair, Nat.reduceAdd, Nat.reduceLeDiff, Nat.reduceMul, Nat.reduceSub, isV, opA, grdO, grd, Z41, Int.reduceLT, Int.reduceLE, Int.reduceToNat, builtinP, builtinA, changes, fieldAddrA, resA, tupled, ↓reduceIte, Nat.reduceEqDiff, Nat.reduceLT, Z70, Int.reduceEq, Y3, Y5, Y38, Y39, Y41, SpaceR.v, o1, hlen, h1]
  by_cases h2 : 2000 < s.size
  · rw [spaceB_no (by omega)]
    refine run_done rfl rfl Tryz.func145 rfl ?_
    simp +contextual (disch := first | omega | exact rfl | decide | exact kpF (by decide) | exact kpT (by decide) | assumption | exact Z2z | exact Z30 | exact Z32 | exact Z31 | exact Z33 | exact Z34 | (simp only [ZI] <;> omega) | simp only [ZK] | (simp only [ZL] <;> assumption)) only [Tryz.f145, ZH, SOp, GOp, ↓Z1c, Int.reduceAdd, Int.reduceSub, Int.reduceMul, Int.reduceNeg, accs, touch, touchM, okPair, Nat.reduceAdd, Nat.reduceLeDiff, Nat.reduceMul, Nat.reduceSub, isV, opA, grdO, grd, Z41, Int.reduceLT, Int.reduceLE, Int.reduceToNat, builtinP, builtinA, changes, fieldAddrA, resA, tupled, ↓reduceIte, Nat.reduceEqDiff, Nat.reduceLT, Z70, Int.reduceEq, Y3, Y5, Y38, Y39, Y41, SpaceR.v, o1, hlen, h1, h2]
  by_cases h3 : (s.sl.length : Int) = 2 * s.size
  case neg =>
    rw [spaceB_no (by omega)]
    refine run_done rfl rfl Tryz.func145 rfl ?_
    simp +contextual (disch := first | omega | exact rfl | decide | exact kpF (by decide) | exact kpT (by decide) | assumption | exact Z2z | exact Z30 | exact Z32 | exact Z31 | exact Z33 | exact Z34 | (simp only [ZI] <;> omega) | simp only [ZK] | (simp only [ZL] <;> assumption)) only [Tryz.f145, ZH, SOp, GOp, ↓Z1c, Int.reduceAdd, Int.reduceSub, Int.reduceMul, Int.reduceNeg, accs, touch, touchM, okPair, Nat.reduceAdd, Nat.reduceLeDiff, Nat.reduceMul, Nat.reduceSub, isV, opA, grdO, grd, Z41, Int.reduceLT, Int.reduceLE, Int.reduceToNat, builtinP, builtinA, changes, fieldAddrA, resA, tupled, ↓reduceIte, Nat.reduceEqDiff, Nat.reduceLT, Z70, Int.reduceEq, Y3, Y5, Y38, Y39, Y41, SpaceR.v, o1, hlen, h1, h2, h3]
  by_cases h4 : s.at0 < 0
  · rw [spaceB_no (by omega)]
    refine run_done rfl rfl Tryz.func145 rfl ?_
    simp +contextual (disch := first | omega | exact rfl | decide | exact kpF (by decide) | exact kpT (by decide) | assumption | exact Z2z | exact Z30 | exact Z32 | exact Z31 | exact Z33 | exact Z34 | (simp only [ZI] <;> omega) | simp only [ZK] | (simp only [ZL] <;> assumption)) only [Tryz.f145, ZH, SOp, GOp, ↓Z1c, Int.reduceAdd, Int.reduceSub, Int.reduceMul, Int.reduceNeg, accs, touch, touchM, okPair, Nat.reduceAdd, Nat.reduceLeDiff, Nat.reduceMul, Nat.reduceSub, isV, opA, grdO, grd, Z41, Int.reduceLT, Int.reduceLE, Int.reduceToNat, builtinP, builtinA, changes, fieldAddrA, resA, tupled, ↓reduceIte, Nat.reduceEqDiff, Nat.reduceLT, Z70, Int.reduceEq, Y3, Y5, Y38, Y39, Y41, SpaceR.v, o1, hlen, h1, h2, h3, h4]
  by_cases h5 : s.at1 < 0
  · rw [spaceB_no (by omega)]
    refine run_done rfl rfl Tryz.func145 rfl ?_
    simp +contextual (disch := first | omega | exact rfl | decide | exact kpF (by decide) | exact kpT (by decide) | assumption | exact Z2z | exact Z30 | exact Z32 | exact Z31 | exact Z33 | exact Z34 | (simp only [ZI] <;> omega) | simp only [ZK] | (simp only [ZL] <;> assumption)) only [Tryz.f145, ZH, SOp, GOp, ↓Z1c, Int.reduceAdd, Int.reduceSub, Int.reduceMul, Int.reduceNeg, accs, touch, touchM, okPair, Nat.reduceAdd, Nat.reduceLeDiff, Nat.reduceMul, Nat.reduceSub, isV, opA, grdO, grd, Z41, Int.reduceLT, Int.reduceLE, Int.reduceToNat, builtinP, builtinA, changes, fieldAddrA, resA, tupled, ↓reduceIte, Nat.reduceEqDiff, Nat.reduceLT, Z70, Int.reduceEq, Y3, Y5, Y38, Y39, Y41, SpaceR.v, o1, hlen, h1, h2, h3, h4, h5]
  by_cases h6 : 4096 - s.size < s.at1
  · rw [spaceB_no (by omega)]
    refine run_done rfl rfl Tryz.func145 rfl ?_
    simp +contextual (disch := first | omega | exact rfl | decide | exact kpF (by decide) | exact kpT (by decide) | assumption | exact Z2z | exact Z30 | exact Z32 | exact Z31 | exact Z33 | exact Z34 | (simp only [ZI] <;> omega) | simp only [ZK] | (simp only [ZL] <;> assumption)) only [Tryz.f145, ZH, SOp, GOp, ↓Z1c, Int.reduceAdd, Int.reduceSub, Int.reduceMul, Int.reduceNeg, accs, touch, touchM, okPair, Nat.reduceAdd, Nat.reduceLeDiff, Nat.reduceMul, Nat.reduceSub, isV, opA, grdO, grd, Z41, Int.reduceLT, Int.reduceLE, Int.reduceToNat, builtinP, builtinA, changes, fieldAddrA, resA, tupled, ↓reduceIte, Nat.reduceEqDiff, Nat.reduceLT, Z70, Int.reduceEq, Y3, Y5, Y38, Y39, Y41, SpaceR.v, o1, hlen, h1, h2, h3, h4, h5, h6]
  by_cases h7 : s.at1 - s.size < s.at0
  · rw [spaceB_no (by omega)]
    refine run_done rfl rfl Tryz.func145 rfl ?_
    simp +contextual (disch := first | omega | exact rfl | decide | exact kpF (by decide) | exact kpT (by decide) | assumption | exact Z2z | exact Z30 | exact Z32 | exact Z31 | exact Z33 | exact Z34 | (simp only [ZI] <;> omega) | simp only [ZK] | (simp only [ZL] <;> assumption)) only [Tryz.f145, ZH, SOp, GOp, ↓Z1c, Int.reduceAdd, Int.reduceSub, Int.reduceMul, Int.reduceNeg, accs, touch, touchM, okPair, Nat.reduceAdd, Nat.reduceLeDiff, Nat.reduceMul, Nat.reduceSub, isV, opA, grdO, grd, Z41, Int.reduceLT, Int.reduceLE, Int.reduceToNat, builtinP, builtinA, changes, fieldAddrA, resA, tupled, ↓reduceIte, Nat.reduceEqDiff, Nat.reduceLT, Z70, Int.reduceEq, Y3, Y5, Y38, Y39, Y41, SpaceR.v, o1, hlen, h1, h2, h3, h4, h5, h6, h7]
  have hB : spaceB s = s.sl.all fun x => decide (x ≤ 4) := by
    rw [Bool.eq_iff_iff, spaceB_iff]
    exact ⟨fun q => q.2.2.2.2.2.2, fun q => ⟨by omega, by omega, h3, by omega, by omega, by omega, q⟩⟩
  refine run_done rfl rfl Tryz.func145 rfl ?_
  obtain ⟨m, hm, hm2⟩ := max_ok (σ := σ ++ [.cells (0 :: p) s.v]) (p := 1 :: p) s.sl (by omega) hb (fun τ => h.sv.view τ)
  simp only [SpaceR.v] at hm
  simp +contextual (disch := first | omega | exact rfl | decide | exact kpF (by decide) | exact kpT (by decide) | assumption | exact Z2z | exact Z30 | exact Z32 | exact Z31 | exact Z33 | exact Z34 | (simp only [ZI] <;> omega) | simp only [ZK] | (simp only [ZL] <;> assumption)) only [Tryz.f145, ZH, SOp, GOp, ↓Z1c, Int.reduceAdd, Int.reduceSub, Int.reduceMul, Int.reduceNeg, accs, touch, touchM, okPair, Nat.reduceAdd, Nat.reduceLeDiff, Nat.reduceMul, Nat.reduceSub, isV, opA, grdO, grd, Z41, Int.reduceLT, Int.reduceLE, Int.reduceToNat, builtinP, builtinA, changes, fieldAddrA, resA, tupled, ↓reduceIte, Nat.reduceEqDiff, Nat.reduceLT, Z70, Int.reduceEq, Y3, Y5, Y38, Y39, Y41, SpaceR.v, o1, hlen, h1, h2, h3, h4, h5, h6, h7, hm]
  rw [hm2, ← hB]
theorem space7_ok (s : SpaceR) (h : s.ok) : runF cfg 45 [.agg s.v] σ p = some (.b (spaceB s), σ) := by
  have hlen : ∀ τ, lenA cfg 39 τ s.st = some (.i .i64 s.sl.length) := fun τ => by
    have := (h.sv.view τ).len (C := cfg) (t := 39) sh39; rwa [ints_len] at this
  have o1 := h.sv.one
  have hb := h.b
  by_cases h1 : s.size < 1
  · rw [spaceB_no (by omega)]
    refine run_done rfl rfl Tryz.func45 rfl ?_
    simp +contextual (disch := first | omega | exact rfl | decide | exact kpF (by decide) | exact kpT (by decide) | assumption | exact Z2z | exact Z30 | exact Z32 | exact Z31 | exact Z33 | exact Z34 | (simp only [ZI] <;> omega) | simp only [ZK] | (simp only [ZL] <;> assumption)) only [Tryz.f45, ZH, SOp, GOp, ↓Z1c, Int.reduceAdd, Int.reduceSub, Int.reduceMul, Int.reduceNeg, accs, touch, touchM, okPair, Nat.reduceAdd, Nat.reduceLeDiff, Nat.reduceMul, Nat.reduceSub, isV, opA, grdO, grd, Z41, Int.reduceLT, Int.reduceLE, Int.reduceToNat, builtinP, builtinA, changes, fieldAddrA, resA, tupled, ↓reduceIte, Nat.reduceEqDiff, Nat.reduceLT, Z70, Int.reduceEq, Y3, Y5, Y38, Y39, Y41, SpaceR.v, o1, hlen, h1]
  by_cases h2 : 2000 < s.size
  · rw [spaceB_no (by omega)]
    refine run_done rfl rfl Tryz.func45 rfl ?_
    simp +contextual (disch := first | omega | exact rfl | decide | exact kpF (by decide) | exact kpT (by decide) | assumption | exact Z2z | exact Z30 | exact Z32 | exact Z31 | exact Z33 | exact Z34 | (simp only [ZI] <;> omega) | simp only [ZK] | (simp only [ZL] <;> assumption)) only [Tryz.f45, ZH, SOp, GOp, ↓Z1c, Int.reduceAdd, Int.reduceSub, Int.reduceMul, Int.reduceNeg, accs, touch, touchM, okPair, Nat.reduceAdd, Nat.reduceLeDiff, Nat.reduceMul, Nat.reduceSub, isV, opA, grdO, grd, Z41, Int.reduceLT, Int.reduceLE, Int.reduceToNat, builtinP, builtinA, changes, fieldAddrA, resA, tupled, ↓reduceIte, Nat.reduceEqDiff, Nat.reduceLT, Z70, Int.reduceEq, Y3, Y5, Y38, Y39, Y41, SpaceR.v, o1, hlen, h1, h2]
  by_cases h4 : s.at0 < 0
  · rw [spaceB_no (by omega)]
    refine run_done rfl rfl Tryz.func45 rfl ?_
    simp +contextual (disch := first | omega | exact rfl | decide | exact kpF (by decide) | exact kpT (by decide) | assumption | exact Z2z | exact Z30 | exact Z32 | exact Z31 | exact Z33 | exact Z34 | (simp only [ZI] <;> omega) | simp only [ZK] | (simp only [ZL] <;> assumption)) only [Tryz.f45, ZH, SOp, GOp, ↓Z1c, Int.reduceAdd, Int.reduceSub, Int.reduceMul, Int.reduceNeg, accs, touch, touchM, okPair, Nat.reduceAdd, Nat.reduceLeDiff, Nat.reduceMul, Nat.reduceSub, isV, opA, grdO, grd, Z41, Int.reduceLT, Int.reduceLE, Int.reduceToNat, builtinP, builtinA, changes, fieldAddrA, resA, tupled, ↓reduceIte, Nat.reduceEqDiff, Nat.reduceLT, Z70, Int.reduceEq, Y3, Y5, Y38, Y39, Y41, SpaceR.v, o1, hlen, h1, h2, h4]
  by_cases h8 : 4096 < s.at0
  · rw [spaceB_no (by omega)]
    refine run_done rfl rfl Tryz.func45 rfl ?_
    simp +contextual (disch := first | omega | exact rfl | decide | exact kpF (by decide) | exact kpT (by decide) | assumption | exact Z2z | exact Z30 | exact Z32 | exact Z31 | exact Z33 | exact Z34 | (simp only [ZI] <;> omega) | simp only [ZK] | (simp only [ZL] <;> assumption)) only [Tryz.f45, ZH, SOp, GOp, ↓Z1c, Int.reduceAdd, Int.reduceSub, Int.reduceMul, Int.reduceNeg, accs, touch, touchM, okPair, Nat.reduceAdd, Nat.reduceLeDiff, Nat.reduceMul, Nat.reduceSub, isV, opA, grdO, grd, Z41, Int.reduceLT, Int.reduceLE, Int.reduceToNat, builtinP, builtinA, changes, fieldAddrA, resA, tupled, ↓reduceIte, Nat.reduceEqDiff, Nat.reduceLT, Z70, Int.reduceEq, Y3, Y5, Y38, Y39, Y41, SpaceR.v, o1, hlen, h1, h2, h4, h8]
  by_cases h9 : s.at1 < s.at0 + s.size
  · rw [spaceB_no (by omega)]
    refine run_done rfl rfl Tryz.func45 rfl ?_
    simp +contextual (disch := first | omega | exact rfl | decide | exact kpF (by decide) | exact kpT (by decide) | assumption | exact Z2z | exact Z30 | exact Z32 | exact Z31 | exact Z33 | exact Z34 | (simp only [ZI] <;> omega) | simp only [ZK] | (simp only [ZL] <;> assumption)) only [Tryz.f45, ZH, SOp, GOp, ↓Z1c, Int.reduceAdd, Int.reduceSub, Int.reduceMul, Int.reduceNeg, accs, touch, touchM, okPair, Nat.reduceAdd, Nat.reduceLeDiff, Nat.reduceMul, Nat.reduceSub, isV, opA, grdO, grd, Z41, Int.reduceLT, Int.reduceLE, Int.reduceToNat, builtinP, builtinA, changes, fieldAddrA, resA, tupled, ↓reduceIte, Nat.reduceEqDiff, Nat.reduceLT, Z70, Int.reduceEq, Y3, Y5, Y38, Y39, Y41, SpaceR.v, o1, hlen, h1, h2, h4, h8, h9]
  by_cases h6 : 4096 - s.size < s.at1
  · rw [spaceB_no (by omega)]
    refine run_done rfl rfl Tryz.func45 rfl ?_
    simp +contextual (disch := first | omega | exact rfl | decide | exact kpF (by decide) | exact kpT (by decide) | assumption | exact Z2z | exact Z30 | exact Z32 | exact Z31 | exact Z33 | exact Z34 | (simp only [ZI] <;> omega) | simp only [ZK] | (simp only [ZL] <;> assumption)) only [Tryz.f45, ZH, SOp, GOp, ↓Z1c, Int.reduceAdd, Int.reduceSub, Int.reduceMul, Int.reduceNeg, accs, touch, touchM, okPair, Nat.reduceAdd, Nat.reduceLeDiff, Nat.reduceMul, Nat.reduceSub, isV, opA, grdO, grd, Z41, Int.reduceLT, Int.reduceLE, Int.reduceToNat, builtinP, builtinA, changes, fieldAddrA, resA, tupled, ↓reduceIte, Nat.reduceEqDiff, Nat.reduceLT, Z70, Int.reduceEq, Y3, Y5, Y38, Y39, Y41, SpaceR.v, o1, hlen, h1, h2, h4, h8, h9, h6]
  by_cases h3 : (s.sl.length : Int) = 2 * s.size
  case neg =>
    rw [spaceB_no (by omega)]
    refine run_done rfl rfl Tryz.func45 rfl ?_
    simp +contextual (disch := first | omega | exact rfl | decide | exact kpF (by decide) | exact kpT (by decide) | assumption | exact Z2z | exact Z30 | exact Z32 | exact Z31 | exact Z33 | exact Z34 | (simp only [ZI] <;> omega) | simp only [ZK] | (simp only [ZL] <;> assumption)) only [Tryz.f45, ZH, SOp, GOp, ↓Z1c, Int.reduceAdd, Int.reduceSub, Int.reduceMul, Int.reduceNeg, accs, touch, touchM, okPair, Nat.reduceAdd, Nat.reduceLeDiff, Nat.reduceMul, Nat.reduceSub, isV, opA, grdO, grd, Z41, Int.reduceLT, Int.reduceLE, Int.reduceToNat, builtinP, builtinA, changes, fieldAddrA, resA, tupled, ↓reduceIte, Nat.reduceEqDiff, Nat.reduceLT, Z70, Int.reduceEq, Y3, Y5, Y38, Y39, Y41, SpaceR.v, o1, hlen, h1, h2, h4, h8, h9, h6, h3]
  have hB : spaceB s = s.sl.all fun x => decide (x ≤ 4) := by
    rw [Bool.eq_iff_iff, spaceB_iff]
    exact ⟨fun q => q.2.2.2.2.2.2, fun q => ⟨by omega, by omega, h3, by omega, by omega, by omega, q⟩⟩
  rw [hB]
  refine run_done rfl rfl Tryz.func45 rfl ?_
  simp +contextual (disch := first | omega | exact rfl | decide | exact kpF (by decide) | exact kpT (by decide) | assumption | exact Z2z | exact Z30 | exact Z32 | exact Z31 | exact Z33 | exact Z34 | (simp only [ZI] <;> omega) | simp only [ZK] | (simp only [ZL] <;> assumption)) only [Tryz.f45, ZH, SOp, GOp, ↓Z1c, Int.reduceAdd, Int.reduceSub, Int.reduceMul, Int.reduceNeg, accs, touch, touchM, okPair, Nat.reduceAdd, Nat.reduceLeDiff, Nat.reduceMul, Nat.reduceSub, isV, opA, grdO, grd, Z41, Int.reduceLT, Int.reduceLE, Int.reduceToNat, builtinP, builtinA, changes, fieldAddrA, resA, tupled, ↓reduceIte, Nat.reduceEqDiff, Nat.reduceLT, Z70, Int.reduceEq, Y3, Y5, Y38, Y39, Y41, SpaceR.v, o1, hlen, h1, h2, h4, h8, h9, h6, h3]
  refine Wq.up (fun i t => t.nt = 67 ∧ t.σ = σ ++ [.cells (0 :: p) s.v] ∧ t.t.get 1 = some (.ptr σ.length (0 :: p) 0) ∧ t.t.get 3 = some (.i .i64 (i : Nat)) ∧ ∀ j, j < i → s.sl.getD j 0 ≤ 4) s.sl.length ?_ ?_
  · refine ⟨rfl, rfl, ?_⟩
    simp +contextual (disch := first | omega | exact rfl | decide | exact kpF (by decide) | exact kpT (by decide) | assumption | exact Z2z | exact Z30 | exact Z32 | exact Z31 | exact Z33 | exact Z34 | (simp only [ZI] <;> omega) | simp only [ZK] | (simp only [ZL] <;> assumption)) only [ZH, SOp, GOp, ↓Z1c, Int.reduceAdd, Int.reduceSub, Int.reduceMul, Int.reduceNeg, accs, touch, touchM, okPair, Nat.reduceAdd, Nat.reduceLeDiff, Nat.reduceMul, Nat.reduceSub, isV, opA, grdO, grd, Z41, Int.reduceLT, Int.reduceLE, Int.reduceToNat, builtinP, builtinA, changes, fieldAddrA, resA, tupled, ↓reduceIte, Nat.reduceEqDiff, Nat.reduceLT, Z70, Int.reduceEq]
    exact fun j hj => absurd hj (by omega)
  · rintro i ⟨t, nt, σ', c⟩ hi ⟨rfl, rfl, g1, g3, hno⟩
    simp only [SpaceR.v] at g1 g3 ⊢
    by_cases hlt : i < s.sl.length
    · have hlt' : (i : Int) < (s.sl.length : Int) := by omega
      obtain ⟨a, ha, hla⟩ := (h.sv.view []).at (C := cfg) sh39 sz5 ag5 .i64 i (by rw [ints_len]; exact hlt)
      have hl1 := fun τ => hla τ _ (h.sv.view τ)
      simp only [ints_get' hlt] at hl1
      by_cases hq : 4 < s.sl.getD i 0
      · have hall : (s.sl.all fun x => decide (x ≤ 4)) = false := by
          rw [List.all_eq_false]
          refine ⟨s.sl[i], List.getElem_mem hlt, ?_⟩
          rw [List.getD_eq_getElem?_getD, List.getElem?_eq_getElem hlt] at hq
          simp at hq ⊢; omega
        simp +contextual (disch := first | omega | exact rfl | decide | exact kpF (by decide) | exact kpT (by decide) | assumption | exact Z2z | exact Z30 | exact Z32 | exact Z31 | exact Z33 | exact Z34 | (simp only [ZI] <;> omega) | simp only [ZK] | (simp only [ZL] <;> assumption)) only [ZH, SOp, GOp, ↓Z1c, Int.reduceAdd, Int.reduceSub, Int.reduceMul, Int.reduceNeg, accs, touch, touchM, okPair, Nat.reduceAdd, Nat.reduceLeDiff, Nat.reduceMul, Nat.reduceSub, isV, opA, grdO, grd, Z41, Int.reduceLT, Int.reduceLE, Int.reduceToNat, builtinP, builtinA, changes, fieldAddrA, resA, tupled, ↓reduceIte, Nat.reduceEqDiff, Nat.reduceLT, Z70, Int.reduceEq, Y3, Y5, Y38, Y39, Y41, g1, g3, hlen, hlt', ha, hl1, hq, hall]
      · simp +contextual (disch := first | omega | exact rfl | decide | exact kpF (by decide) | exact kpT (by decide) | assumption | exact Z2z | exact Z30 | exact Z32 | exact Z31 | exact Z33 | exact Z34 | (simp only [ZI] <;> omega) | simp only [ZK] | (simp only [ZL] <;> assumption)) only [ZH, SOp, GOp, ↓Z1c, Int.reduceAdd, Int.reduceSub, Int.reduceMul, Int.reduceNeg, accs, touch, touchM, okPair, Nat.reduceAdd, Nat.reduceLeDiff, Nat.reduceMul, Nat.reduceSub, isV, opA, grdO, grd, Z41, Int.reduceLT, Int.reduceLE, Int.reduceToNat, builtinP, builtinA, changes, fieldAddrA, resA, tupled, ↓reduceIte, Nat.reduceEqDiff, Nat.reduceLT, Z70, Int.reduceEq, Y3, Y5, Y38, Y39, Y41, g1, g3, hlen, hlt', ha, hl1, hq]
        refine ⟨hlt, rfl, fun j hj => ?_⟩
        by_cases he : j = i
        · subst he; omega
        · exact hno j (by omega)
    · have hi' : i = s.sl.length := by omega
      subst hi'
      have hall : (s.sl.all fun x => decide (x ≤ 4)) = true := by
        rw [List.all_eq_true]
        intro x hx
        obtain ⟨j, hj, rfl⟩ := List.mem_iff_getElem.1 hx
        have := hno j hj
        rw [List.getD_eq_getElem?_getD, List.getElem?_eq_getElem hj] at this
        simpa using this
      simp +contextual (disch := first | omega | exact rfl | decide | exact kpF (by decide) | exact kpT (by decide) | assumption | exact Z2z | exact Z30 | exact Z32 | exact Z31 | exact Z33 | exact Z34 | (simp only [ZI] <;> omega) | simp only [ZK] | (simp only [ZL] <;> assumption)) only [ZH, SOp, GOp, ↓Z1c, Int.reduceAdd, Int.reduceSub, Int.reduceMul, Int.reduceNeg, accs, touch, touchM, okPair, Nat.reduceAdd, Nat.reduceLeDiff, Nat.reduceMul, Nat.reduceSub, isV, opA, grdO, grd, Z41, Int.reduceLT, Int.reduceLE, Int.reduceToNat, builtinP, builtinA, changes, fieldAddrA, resA, tupled, ↓reduceIte, Nat.reduceEqDiff, Nat.reduceLT, Z70, Int.reduceEq, Y3, Y5, Y38, Y39, Y41, g1, g3, hlen, Int.lt_irrefl, hall]
end Go.Am.R2

/- Volumes: how many blocks are used, both ways; where the regions lie. -/
namespace Go.Am.R2
open Go.Proofs
set_option maxRecDepth 100000
set_option linter.unusedSimpArgs false
set_option linter.unusedVariables false
variable {σ : List O} {p : List Nat}
def usedB (x : Int) : Bool := decide (x = 1) || decide (x = 2)
def usedI (s : SpaceR) : Int := if spaceB s then ((s.sl.filter usedB).length : Nat) else 0
theorem used1_ok (x : Int) : runF cfg 155 [.i .u8 x] σ p = some (.b (usedB x), σ) := by
  refine run_done rfl rfl Tryz.func155 rfl ?_
  simp +contextual (disch := first | omega | exact rfl | decide | exact kpF (by decide) | exact kpT (by decide) | assumption | exact Z2z | exact Z30 | exact Z32 | exact Z31 | exact Z33 | exact Z34 | (simp only [ZI] <;> omega) | simp only [ZK] | (simp only [ZL] <;> assumption)) only [Tryz.f155, ZH, SOp, GOp, ↓Z1c, Int.reduceAdd, Int.reduceSub, Int.reduceMul, Int.reduceNeg, accs, touch, touchM, okPair, Nat.reduceAdd, Nat.reduceLeDiff, Nat.reduceMul, Nat.reduceSub, isV, opA, grdO, grd, Z41, Int.reduceLT, Int.reduceLE, Int.reduceToNat, builtinP, builtinA, changes, fieldAddrA, resA, tupled, ↓reduceIte, Nat.reduceEqDiff, Nat.reduceLT, Z70, Int.reduceEq, Y5, usedB]
theorem filt_snoc {l : List Int} {i : Nat} (h : i < l.length) : ((l.take (i + 1)).filter usedB).length = ((l.take i).filter usedB).length + (if usedB (l.getD i 0) then 1 else 0) := by
  have : l.take (i + 1) = l.take i ++ [l.getD i 0] := by rw [List.take_add_one, List.getD_eq_getElem?_getD, List.getElem?_eq_getElem h]; rfl
  rw [this, List.filter_append, List.length_append]
  generalize l.getD i 0 = x
  cases hu : usedB x <;> simp [hu]
theorem used7_ok (s : SpaceR) (h : s.ok) : runF cfg 39 [.agg s.v] σ p = some (.i .i64 (usedI s), σ) := by
  have hlen : ∀ τ, lenA cfg 39 τ s.st = some (.i .i64 s.sl.length) := fun τ => by
    have := (h.sv.view τ).len (C := cfg) (t := 39) sh39; rwa [ints_len] at this
  have o1 := h.sv.one
  have hb := h.b
  have hs := fun (τ : List O) q => space7_ok (σ := τ) (p := q) s h
  simp only [SpaceR.v] at hs
  refine run_done rfl rfl Tryz.func39 rfl ?_
  simp +contextual (disch := first | omega | exact rfl | decide | exact kpF (by decide) | exact kpT (by decide) | assumption | exact Z2z | exact Z30 | exact Z32 | exact Z31 | exact Z33 | exact Z34 | (simp only [ZI] <;> omega) | simp only [ZK] | (simp only [ZL] <;> assumption)) only [Tryz.f39, ZH, SOp, GOp, ↓Z1c, Int.reduceAdd, Int.reduceSub, Int.reduceMul, Int.reduceNeg, accs, touch, touchM, okPair, Nat.reduceAdd, Nat.reduceLeDiff, Nat.reduceMul, Nat.reduceSub, isV, opA, grdO, grd, Z41, Int.reduceLT, Int.reduceLE, Int.reduceToNat, builtinP, builtinA, changes, fieldAddrA, resA, tupled, ↓reduceIte, Nat.reduceEqDiff, Nat.reduceLT, Z70, Int.reduceEq, Y3, Y5, Y38, Y39, Y41, SpaceR.v, o1]
  refine Wq.up (fun i t => t.nt = 33 ∧ t.σ = σ ++ [.cells (0 :: p) s.v] ∧ t.t.get 1 = some (.ptr σ.length (0 :: p) 0) ∧ t.t.get 4 = some (.i .i64 (i : Nat)) ∧ t.t.get 3 = some (.i .i64 ((s.sl.take i).filter usedB).length) ∧ (0 < i → spaceB s = true)) s.sl.length ?_ ?_
  · refine ⟨rfl, rfl, ?_⟩
    simp +contextual (disch := first | omega | exact rfl | decide | exact kpF (by decide) | exact kpT (by decide) | assumption | exact Z2z | exact Z30 | exact Z32 | exact Z31 | exact Z33 | exact Z34 | (simp only [ZI] <;> omega) | simp only [ZK] | (simp only [ZL] <;> assumption)) only [ZH, SOp, GOp, ↓Z1c, Int.reduceAdd, Int.reduceSub, Int.reduceMul, Int.reduceNeg, accs, touch, touchM, okPair, Nat.reduceAdd, Nat.reduceLeDiff, Nat.reduceMul, Nat.reduceSub, isV, opA, grdO, grd, Z41, Int.reduceLT, Int.reduceLE, Int.reduceToNat, builtinP, builtinA, changes, fieldAddrA, resA, tupled, ↓reduceIte, Nat.reduceEqDiff, Nat.reduceLT, Z70, Int.reduceEq, List.filter_nil]
  · rintro i ⟨t, nt, σ', c⟩ hi ⟨rfl, rfl, g1, g4, g3, hpos⟩
    simp only [SpaceR.v] at g1 g4 g3 ⊢
    by_cases hlt : i < s.sl.length
    · have hlt' : (i : Int) < (s.sl.length : Int) := by omega
      cases hsb : spaceB s with
      | false =>
        have hi0 : i = 0 := by
          by_cases h0 : 0 < i
          · rw [hpos h0] at hsb; cases hsb
          · omega
        subst hi0
        simp +contextual (disch := first | omega | exact rfl | decide | exact kpF (by decide) | exact kpT (by decide) | assumption | exact Z2z | exact Z30 | exact Z32 | exact Z31 | exact Z33 | exact Z34 | (simp only [ZI] <;> omega) | simp only [ZK] | (simp only [ZL] <;> assumption)) only [ZH, SOp, GOp, ↓Z1c, Int.reduceAdd, Int.reduceSub, Int.reduceMul, Int.reduceNeg, accs, touch, touchM, okPair, Nat.reduceAdd, Nat.reduceLeDiff, Nat.reduceMul, Nat.reduceSub, isV, opA, grdO, grd, Z41, Int.reduceLT, Int.reduceLE, Int.reduceToNat, builtinP, builtinA, changes, fieldAddrA, resA, tupled, ↓reduceIte, Nat.reduceEqDiff, Nat.reduceLT, Z70, Int.reduceEq, Y3, Y5, Y38, Y39, Y41, g1, g4, g3, hlen, hlt', hs, hsb, usedI, List.filter_nil]
      | true =>
        obtain ⟨a, ha, hla⟩ := (h.sv.view []).at (C := cfg) sh39 sz5 ag5 .i64 i (by rw [ints_len]; exact hlt)
        have hl1 := fun τ => hla τ _ (h.sv.view τ)
        simp only [ints_get' hlt] at hl1
        have hfl : ((s.sl.take i).filter usedB).length ≤ s.sl.length := Nat.le_trans (List.length_filter_le _ _) (by rw [List.length_take]; omega)
        have hsn := filt_snoc hlt
        have hu' : usedB (s.sl.getD i 0) = (decide (s.sl.getD i 0 = 1) || decide (s.sl.getD i 0 = 2)) := rfl
        generalize s.sl.getD i 0 = x at hl1 hsn hu'
        by_cases hx1 : x = 1
        · have hu : usedB x = true := by rw [hu', hx1]; rfl
          rw [hu, if_pos rfl] at hsn
          simp +contextual (disch := first | omega | exact rfl | decide | exact kpF (by decide) | exact kpT (by decide) | assumption | exact Z2z | exact Z30 | exact Z32 | exact Z31 | exact Z33 | exact Z34 | (simp only [ZI] <;> omega) | simp only [ZK] | (simp only [ZL] <;> assumption)) only [ZH, SOp, GOp, ↓Z1c, Int.reduceAdd, Int.reduceSub, Int.reduceMul, Int.reduceNeg, accs, touch, touchM, okPair, Nat.reduceAdd, Nat.reduceLeDiff, Nat.reduceMul, Nat.reduceSub, isV, opA, grdO, grd, Z41, Int.reduceLT, Int.reduceLE, Int.reduceToNat, builtinP, builtinA, changes, fieldAddrA, resA, tupled, ↓reduceIte, Nat.reduceEqDiff, Nat.reduceLT, Z70, Int.reduceEq, Y3, Y5, Y38, Y39, Y41, g1, g4, g3, hlen, hlt', hs, hsb, ha, hl1, hx1, hsn]
          exact ⟨hlt, rfl, rfl⟩
        · by_cases hx2 : x = 2
          · have hu : usedB x = true := by rw [hu', hx2]; rfl
            rw [hu, if_pos rfl] at hsn
            simp +contextual (disch := first | omega | exact rfl | decide | exact kpF (by decide) | exact kpT (by decide) | assumption | exact Z2z | exact Z30 | exact Z32 | exact Z31 | exact Z33 | exact Z34 | (simp only [ZI] <;> omega) | simp only [ZK] | (simp only [ZL] <;> assumption)) only [ZH, SOp, GOp, ↓Z1c, Int.reduceAdd, Int.reduceSub, Int.reduceMul, Int.reduceNeg, accs, touch, touchM, okPair, Nat.reduceAdd, Nat.reduceLeDiff, Nat.reduceMul, Nat.reduceSub, isV, opA, grdO, grd, Z41, Int.reduceLT, Int.reduceLE, Int.reduceToNat, builtinP, builtinA, changes, fieldAddrA, resA, tupled, ↓reduceIte, Nat.reduceEqDiff, Nat.reduceLT, Z70, Int.reduceEq, Y3, Y5, Y38, Y39, Y41, g1, g4, g3, hlen, hlt', hs, hsb, ha, hl1, hx1, hx2, hsn]
            exact ⟨hlt, rfl, rfl⟩
          · have hu : usedB x = false := by rw [hu', decide_eq_false hx1, decide_eq_false hx2]; rfl
            rw [hu, if_neg (by decide), Nat.add_zero] at hsn
            simp +contextual (disch := first | omega | exact rfl | decide | exact kpF (by decide) | exact kpT (by decide) | assumption | exact Z2z | exact Z30 | exact Z32 | exact Z31 | exact Z33 | exact Z34 | (simp only [ZI] <;> omega) | simp only [ZK] | (simp only [ZL] <;> assumption)) only [ZH, SOp, GOp, ↓Z1c, Int.reduceAdd, Int.reduceSub, Int.reduceMul, Int.reduceNeg, accs, touch, touchM, okPair, Nat.reduceAdd, Nat.reduceLeDiff, Nat.reduceMul, Nat.reduceSub, isV, opA, grdO, grd, Z41, Int.reduceLT, Int.reduceLE, Int.reduceToNat, builtinP, builtinA, changes, fieldAddrA, resA, tupled, ↓reduceIte, Nat.reduceEqDiff, Nat.reduceLT, Z70, Int.reduceEq, Y3, Y5, Y38, Y39, Y41, g1, g4, g3, hlen, hlt', hs, hsb, ha, hl1, hx1, hx2, hsn]
            exact ⟨hlt, rfl⟩
    · have hi' : i = s.sl.length := by omega
      subst hi'
      rw [List.take_length] at g3
      cases hsb : spaceB s with
      | false =>
        have h0 : s.sl.length = 0 := by
          by_cases h0 : 0 < s.sl.length
          · rw [hpos h0] at hsb; cases hsb
          · omega
        rw [List.eq_nil_of_length_eq_zero h0] at g3
        simp +contextual (disch := first | omega | exact rfl | decide | exact kpF (by decide) | exact kpT (by decide) | assumption | exact Z2z | exact Z30 | exact Z32 | exact Z31 | exact Z33 | exact Z34 | (simp only [ZI] <;> omega) | simp only [ZK] | (simp only [ZL] <;> assumption)) only [ZH, SOp, GOp, ↓Z1c, Int.reduceAdd, Int.reduceSub, Int.reduceMul, Int.reduceNeg, accs, touch, touchM, okPair, Nat.reduceAdd, Nat.reduceLeDiff, Nat.reduceMul, Nat.reduceSub, isV, opA, grdO, grd, Z41, Int.reduceLT, Int.reduceLE, Int.reduceToNat, builtinP, builtinA, changes, fieldAddrA, resA, tupled, ↓reduceIte, Nat.reduceEqDiff, Nat.reduceLT, Z70, Int.reduceEq, Y3, Y5, Y38, Y39, Y41, g1, g4, g3, hlen, hs, Int.lt_irrefl, usedI, hsb, List.filter_nil]
      | true => simp +contextual (disch := first | omega | exact rfl | decide | exact kpF (by decide) | exact kpT (by decide) | assumption | exact Z2z | exact Z30 | exact Z32 | exact Z31 | exact Z33 | exact Z34 | (simp only [ZI] <;> omega) | simp only [ZK] | (simp only [ZL] <;> assumption)) only [ZH, SOp, GOp, ↓Z1c, Int.reduceAdd, Int.reduceSub, Int.reduceMul, Int.reduceNeg, accs, touch, touchM, okPair, Nat.reduceAdd, Nat.reduceLeDiff, Nat.reduceMul, Nat.reduceSub, isV, opA, grdO, grd, Z41, Int.reduceLT, Int.reduceLE, Int.reduceToNat, builtinP, builtinA, changes, fieldAddrA, resA, tupled, ↓reduceIte, Nat.reduceEqDiff, Nat.reduceLT, Z70, Int.reduceEq, Y3, Y5, Y38, Y39, Y41, g1, g4, g3, hlen, hs, Int.lt_irrefl, usedI, hsb]
end Go.Am.R2
