/- slices.overlaps of slices of two blocks, told by the model. -/
import Derived.Test.YtijdfdkngbpodaaAmPrim
import Derived.Lib.Overlaps
namespace Go.Am
open Go Go.RowKit
set_option linter.unusedVariables false
set_option linter.unusedSimpArgs false
def pOverlaps : List V → List O → Option V
  | [.sl r st o n es c, .sl r2 st2 o2 n2 es2 c2], σ => (rowAt σ r st).bind fun cs => (rowAt σ r2 st2).bind fun cs2 => if r ≠ r2 ∧ o < cs.length ∧ 0 < cs2.length then some (.b false) else none
  | _, _ => none
theorem shape_of_cell {w : World} {b j : Nat} {y : Value} (h : w.cell? ⟨b, j, none⟩ = some y) : ∃ e k, w.shape? b = some (e, k) ∧ j < k := by
  unfold World.cell? at h
  cases hb : w.heap[b]? with
  | none => rw [hb] at h; simp at h
  | some o =>
    rw [hb] at h
    cases o with
    | cells c e fz =>
      refine ⟨e, c.size, by simp [World.shape?, hb], ?_⟩
      simp at h
      exact (Array.getElem?_eq_some_iff.1 h).1
    | _ => simp at h
theorem prim_overlaps {C : Cfg} {f : Nat} {fn : Func} {tS tR e size : Nat} (hmk : marks = false) (hf : C.P.funcs[f]? = some fn) (hname : (fn.name == "runtime.NumGoroutine") = false) (hb : fn.body.isNone = true) (hn : Extern.findNext fn = none)
    (he : Extern.find fn = some (Extern.SlicesOverlaps.overlaps #[tS, tS] #[tR])) (ht : C.P.underlying tS = some (.slice e)) (hz : ∀ w, (Go.sizeOf e).run C.P w = .ok size w) : PrimAt C f pOverlaps := by
  intro B0 args σ p v hv M w cargs hM hG hr hm hs
  unfold pOverlaps at hv
  split at hv
  · rename_i r st o n es c r2 st2 o2 n2 es2 c2
    simp only [Option.bind_eq_some_iff] at hv
    obtain ⟨cs, h1, cs2, h2, hv⟩ := hv
    split at hv
    · rename_i hc
      obtain ⟨c1, c2', c3⟩ := hc
      cases hv
      cases hr with
      | cons _ y _ ys hr1 hrest =>
        cases hrest with
        | cons _ y2 _ ys2 hr2 hnil =>
          cases hnil
          obtain ⟨b, nb, k, hm1, rfl, _⟩ := hr1.sl_inv
          obtain ⟨b2, nb2, k2, hm2, rfl, _⟩ := hr2.sl_inv
          have hne : b ≠ b2 := by
            rintro rfl
            exact hM.sep.apart r r2 _ _ st st2 b nb nb2 (rowAt_some h1) (rowAt_some h2) c1 rfl rfl hm1 hm2
          obtain ⟨q1, q2, q3, q4⟩ := hM.obj r _ (rowAt_some h1) b nb hm1
          obtain ⟨y, g1, g2, _, g3⟩ := q3 o (by omega)
          obtain ⟨t1, t2, t3, t4⟩ := hM.obj r2 _ (rowAt_some h2) b2 nb2 hm2
          obtain ⟨y2, f1, _⟩ := t3 0 (by omega)
          obtain ⟨tB, kB, f2, f3⟩ := shape_of_cell f1
          rcases g3 with g3 | ⟨tA, kA, g4, g5⟩
          · rw [hmk] at g3; cases g3
          · refine ⟨.value (.bool false), w, M, ?_, Ext.refl _ _ _, hM, rfl, .inl ⟨_, rfl, .b _, rfl⟩⟩
            rw [run_callFunc_extern hf hname hb hn he, Lib.run_overlaps_apart w tS tR e ht size hz ⟨b, o, none⟩ ⟨b2, o2, none⟩ n k n2 k2 hne tA tB kA kB g4 f2 (by omega) g2 g5]
            rfl
    · cases hv
  · cases hv
end Go.Am
