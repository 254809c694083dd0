/- Parts of one machine and of the walks over it, joined: K65 K66 K67 K68. -/
import Derived.Test.YtijdfdkngbpodaaJW
/- Entries: which are right, of a slice that lies in memory. -/
namespace Go.Am.R1
open Go.Proofs
set_option maxRecDepth 100000
set_option linter.unusedSimpArgs false
set_option linter.unusedVariables false
variable {σ : List O} {p : List Nat}
theorem right15_sl {r : Nat} {st : List Nat} {cap : Option Nat} {l : List Ent} (hrow : rowAt σ r st = some (enV l)) (hnl : ∀ e ∈ l, e.1.length ≤ 140737488355328) : runF cfg 36 [.sl r st 0 l.length 2 cap] σ p = some (.b (rightE l), σ) := by
  refine run_done rfl rfl Try.func36 rfl ?_
  have hrow' : ∀ L, rowAt (σ ++ L) r st = some (enV l) := fun L => rowAt_old hrow
  have l1 := fun τ => (le57 (σ := τ) (r := r) (o := 0) (n := l.length) (es := 2) (st := st) (cap := cap))
  unfold rightE
  by_cases c1 : (40 : Int) < l.length
  · have c1' : ¬ l.length ≤ 40 := by omega
    simp +contextual (disch := first | omega | exact rfl | decide | exact kpF (by decide) | exact kpT (by decide) | assumption | exact Z2z | exact Z30 | exact Z32 | exact Z31 | exact Z33 | exact Z34 | (simp only [Z6x, Z6y, Z2q, Z2g, Z6d, Z6e] <;> omega) | (simp only [Z6v, Z6w, Z7i, Z7j, Z7k, Z7l, Z2i, Z6k]) | (simp only [Z35, Z36, Z2r, Z2s, Z2t, Z2u, Z2v, Z2w, Z2x, Z2y, Z2z, Z30, Z31, Z32, Z33, Z34, Z7m, Z4a, Z4b] <;> assumption)) only [Try.f36, Z00, Z01, Z02, Z03, Z04, Z05, Z06, Z07, Z08, Z09, Z0a, Z0b, Z0c, Z0d, Z0e, Z0f, Z0g, Z0h, Z0i, Z0j, Z0k, Z0l, Z0m, Z0n, Z0o, SOp, Z0q, Z0r, Z0s, Z0t, Z0u, Z0v, Z0w, Z0x, Z0y, Z0z, Z10, Z11, Z12, GOp, Z14, Z15, Z16, Z17, Z18, Z19, Z1a, Z1b, ↓Z1c, Z1d, Z1e, Z1f, Z1g, Z1h, Z1i, Z1j, Z1k, Z1l, Z1m, Z1n, Z1o, Z1p, Int.reduceAdd, Int.reduceSub, Int.reduceMul, Int.reduceNeg, Z1q, Z1r, Z1s, Z1t, Z1u, Z1v, Z1w, Z1x, Z1y, Z1z, accs, touch, touchM, okPair, Z24, Z25, Z26, Z27, Z28, Z29, Z2a, Z2b, Z2c, Z2d, Z2e, Z2f, Z2g, Z2h, Z2i, Z2j, Z2k, Z2l, Z2m, Z2n, Z2o, Z2p, Z2q, Z2r, Z2s, Z2t, Z2u, Z2v, Z2w, Z2x, Z2y, Z2z, Z30, Z31, Z32, Z33, Z34, Z35, Z36, Z37, Z38, Z39, Z3a, Z3b, Z3c, Z3d, Z3e, Z3f, Z3g, Z3h, Z3i, Z3j, Z3k, Z3l, Nat.reduceAdd, Nat.reduceLeDiff, Nat.reduceMul, Nat.reduceSub, isV, opA, Z3o, grdO, grd, Z3r, Z3s, Z3t, Z3u, Z3v, Z3w, Z3x, Z3y, Z3z, Z40, Z41, Z42, Z43, Z44, Z45, Z46, Z47, Z48, Z49, Z4a, Z4b, Z4c, Z4d, Z4e, Z4f, Z4g, Z4h, Z4i, Z4j, Z4k, Int.reduceLT, Int.reduceLE, Int.reduceToNat, Z4l, Z4m, Z4n, Z4o, Z4p, Z4q, Z4r, Z4s, Z4t, Z4u, Z4v, Z4w, Z4x, Z4y, Z4z, Z50, Z51, Z52, Z53, Z54, Z55, Z56, Z57, Z58, Z59, Z5a, Z5b, Z5c, Z5d, Z5e, Z5f, Z5g, Z5h, Z5i, Z5j, Z5k, Z5l, Z5m, Z5n, Z5o, Z5p, Z5q, Z5r, Z5s, Z5t, Z5u, builtinP, builtinA, changes, fieldAddrA, resA, tupled, Z61, Z62, Z63, Z64, Z65, Z66, Z67, Z68, Z69, Z2q, Z6a, Z6b, Z64, Z6c, Z2m, Z6d, Z6e, Z6f, Z6g, Z6h, Z6i, Z6j, Z6k, Z6l, Z6m, Z6n, Z6o, Z6p, Z6q, Z6r, Z6s, Z6t, Z6u, Z6v, Z6w, Z6x, Z6y, Z6z, ↓reduceIte, Nat.reduceEqDiff, Nat.reduceLT, Z70, Int.reduceEq, Z3x, Z6s, Z71, Z72, Z73, Z74, Z75, Z76, Z77, Z78, Z79, Z7a, Z7b, Z7c, Z7d, Z7e, Z7f, Z7g, Z7h, dr36x6, sh3, sz3, by3, ag3, kn3, ze3, ld3, li3, sto3, sh9, sz9, by9, ag9, kn9, ze9, ld9, li9, sto9, les9, ixs9, sh57, sz57, by57, ag57, kn57, el57, ze57, ld57, li57, sto57, ixi57, iai57, le57, lr57, ln57, sh66, sz66, by66, ag66, kn66, ze66, fk66, eq66, ne66, pl66, lda66, sta66, bd66, fi66x0, fi66x1, l1, c1, c1']
  have c1' : l.length ≤ 40 := by omega
  rw [decide_eq_true c1', Bool.true_and]
  simp +contextual (disch := first | omega | exact rfl | decide | exact kpF (by decide) | exact kpT (by decide) | assumption | exact Z2z | exact Z30 | exact Z32 | exact Z31 | exact Z33 | exact Z34 | (simp only [Z6x, Z6y, Z2q, Z2g, Z6d, Z6e] <;> omega) | (simp only [Z6v, Z6w, Z7i, Z7j, Z7k, Z7l, Z2i, Z6k]) | (simp only [Z35, Z36, Z2r, Z2s, Z2t, Z2u, Z2v, Z2w, Z2x, Z2y, Z2z, Z30, Z31, Z32, Z33, Z34, Z7m, Z4a, Z4b] <;> assumption)) only [Try.f36, Z00, Z01, Z02, Z03, Z04, Z05, Z06, Z07, Z08, Z09, Z0a, Z0b, Z0c, Z0d, Z0e, Z0f, Z0g, Z0h, Z0i, Z0j, Z0k, Z0l, Z0m, Z0n, Z0o, SOp, Z0q, Z0r, Z0s, Z0t, Z0u, Z0v, Z0w, Z0x, Z0y, Z0z, Z10, Z11, Z12, GOp, Z14, Z15, Z16, Z17, Z18, Z19, Z1a, Z1b, ↓Z1c, Z1d, Z1e, Z1f, Z1g, Z1h, Z1i, Z1j, Z1k, Z1l, Z1m, Z1n, Z1o, Z1p, Int.reduceAdd, Int.reduceSub, Int.reduceMul, Int.reduceNeg, Z1q, Z1r, Z1s, Z1t, Z1u, Z1v, Z1w, Z1x, Z1y, Z1z, accs, touch, touchM, okPair, Z24, Z25, Z26, Z27, Z28, Z29, Z2a, Z2b, Z2c, Z2d, Z2e, Z2f, Z2g, Z2h, Z2i, Z2j, Z2k, Z2l, Z2m, Z2n, Z2o, Z2p, Z2q, Z2r, Z2s, Z2t, Z2u, Z2v, Z2w, Z2x, Z2y, Z2z, Z30, Z31, Z32, Z33, Z34, Z35, Z36, Z37, Z38, Z39, Z3a, Z3b, Z3c, Z3d, Z3e, Z3f, Z3g, Z3h, Z3i, Z3j, Z3k, Z3l, Nat.reduceAdd, Nat.reduceLeDiff, Nat.reduceMul, Nat.reduceSub, isV, opA, Z3o, grdO, grd, Z3r, Z3s, Z3t, Z3u, Z3v, Z3w, Z3x, Z3y, Z3z, Z40, Z41, Z42, Z43, Z44, Z45, Z46, Z47, Z48, Z49, Z4a, Z4b, Z4c, Z4d, Z4e, Z4f, Z4g, Z4h, Z4i, Z4j, Z4k, Int.reduceLT, Int.reduceLE, Int.reduceToNat, Z4l, Z4m, Z4n, Z4o, Z4p, Z4q, Z4r, Z4s, Z4t, Z4u, Z4v, Z4w, Z4x, Z4y, Z4z, Z50, Z51, Z52, Z53, Z54, Z55, Z56, Z57, Z58, Z59, Z5a, Z5b, Z5c, Z5d, Z5e, Z5f, Z5g, Z5h, Z5i, Z5j, Z5k, Z5l, Z5m, Z5n, Z5o, Z5p, Z5q, Z5r, Z5s, Z5t, Z5u, builtinP, builtinA, changes, fieldAddrA, resA, tupled, Z61, Z62, Z63, Z64, Z65, Z66, Z67, Z68, Z69, Z2q, Z6a, Z6b, Z64, Z6c, Z2m, Z6d, Z6e, Z6f, Z6g, Z6h, Z6i, Z6j, Z6k, Z6l, Z6m, Z6n, Z6o, Z6p, Z6q, Z6r, Z6s, Z6t, Z6u, Z6v, Z6w, Z6x, Z6y, Z6z, ↓reduceIte, Nat.reduceEqDiff, Nat.reduceLT, Z70, Int.reduceEq, Z3x, Z6s, Z71, Z72, Z73, Z74, Z75, Z76, Z77, Z78, Z79, Z7a, Z7b, Z7c, Z7d, Z7e, Z7f, Z7g, Z7h, dr36x6, sh3, sz3, by3, ag3, kn3, ze3, ld3, li3, sto3, sh9, sz9, by9, ag9, kn9, ze9, ld9, li9, sto9, les9, ixs9, sh57, sz57, by57, ag57, kn57, el57, ze57, ld57, li57, sto57, ixi57, iai57, le57, lr57, ln57, sh66, sz66, by66, ag66, kn66, ze66, fk66, eq66, ne66, pl66, lda66, sta66, bd66, fi66x0, fi66x1, l1, c1]
  refine Wq.up (fun i t => t.nt = 42 ∧ (∃ L : List O, t.σ = σ ++ L) ∧ t.t.get 0 = some (.sl r st 0 l.length 2 cap) ∧ t.t.get 8 = some (.sl r st 0 l.length 2 cap) ∧ t.t.get 9 = some (.i .i64 l.length) ∧ t.t.get 10 = some (.i .i64 (i : Nat)) ∧ ∀ j, j < i → okE l j = true) l.length ?_ ?_
  · refine ⟨rfl, ⟨[], by simp⟩, ?_⟩
    simp +contextual (disch := first | omega | exact rfl | decide | exact kpF (by decide) | exact kpT (by decide) | assumption | exact Z2z | exact Z30 | exact Z32 | exact Z31 | exact Z33 | exact Z34 | (simp only [Z6x, Z6y, Z2q, Z2g, Z6d, Z6e] <;> omega) | (simp only [Z6v, Z6w, Z7i, Z7j, Z7k, Z7l, Z2i, Z6k]) | (simp only [Z35, Z36, Z2r, Z2s, Z2t, Z2u, Z2v, Z2w, Z2x, Z2y, Z2z, Z30, Z31, Z32, Z33, Z34, Z7m, Z4a, Z4b] <;> assumption)) only [Z00, Z01, Z02, Z03, Z04, Z05, Z06, Z07, Z08, Z09, Z0a, Z0b, Z0c, Z0d, Z0e, Z0f, Z0g, Z0h, Z0i, Z0j, Z0k, Z0l, Z0m, Z0n, Z0o, SOp, Z0q, Z0r, Z0s, Z0t, Z0u, Z0v, Z0w, Z0x, Z0y, Z0z, Z10, Z11, Z12, GOp, Z14, Z15, Z16, Z17, Z18, Z19, Z1a, Z1b, ↓Z1c, Z1d, Z1e, Z1f, Z1g, Z1h, Z1i, Z1j, Z1k, Z1l, Z1m, Z1n, Z1o, Z1p, Int.reduceAdd, Int.reduceSub, Int.reduceMul, Int.reduceNeg, Z1q, Z1r, Z1s, Z1t, Z1u, Z1v, Z1w, Z1x, Z1y, Z1z, accs, touch, touchM, okPair, Z24, Z25, Z26, Z27, Z28, Z29, Z2a, Z2b, Z2c, Z2d, Z2e, Z2f, Z2g, Z2h, Z2i, Z2j, Z2k, Z2l, Z2m, Z2n, Z2o, Z2p, Z2q, Z2r, Z2s, Z2t, Z2u, Z2v, Z2w, Z2x, Z2y, Z2z, Z30, Z31, Z32, Z33, Z34, Z35, Z36, Z37, Z38, Z39, Z3a, Z3b, Z3c, Z3d, Z3e, Z3f, Z3g, Z3h, Z3i, Z3j, Z3k, Z3l, Nat.reduceAdd, Nat.reduceLeDiff, Nat.reduceMul, Nat.reduceSub, isV, opA, Z3o, grdO, grd, Z3r, Z3s, Z3t, Z3u, Z3v, Z3w, Z3x, Z3y, Z3z, Z40, Z41, Z42, Z43, Z44, Z45, Z46, Z47, Z48, Z49, Z4a, Z4b, Z4c, Z4d, Z4e, Z4f, Z4g, Z4h, Z4i, Z4j, Z4k, Int.reduceLT, Int.reduceLE, Int.reduceToNat, Z4l, Z4m, Z4n, Z4o, Z4p, Z4q, Z4r, Z4s, Z4t, Z4u, Z4v, Z4w, Z4x, Z4y, Z4z, Z50, Z51, Z52, Z53, Z54, Z55, Z56, Z57, Z58, Z59, Z5a, Z5b, Z5c, Z5d, Z5e, Z5f, Z5g, Z5h, Z5i, Z5j, Z5k, Z5l, Z5m, Z5n, Z5o, Z5p, Z5q, Z5r, Z5s, Z5t, Z5u, builtinP, builtinA, changes, fieldAddrA, resA, tupled, Z61, Z62, Z63, Z64, Z65, Z66, Z67, Z68, Z69, Z2q, Z6a, Z6b, Z64, Z6c, Z2m, Z6d, Z6e, Z6f, Z6g, Z6h, Z6i, Z6j, Z6k, Z6l, Z6m, Z6n, Z6o, Z6p, Z6q, Z6r, Z6s, Z6t, Z6u, Z6v, Z6w, Z6x, Z6y, Z6z, ↓reduceIte, Nat.reduceEqDiff, Nat.reduceLT, Z70, Int.reduceEq, Z3x, Z6s, Z71, Z72, Z73, Z74, Z75, Z76, Z77, Z78, Z79, Z7a, Z7b, Z7c, Z7d, Z7e, Z7f, Z7g, Z7h]
    exact fun j hj => absurd hj (by omega)
  · rintro i ⟨t, nt, σ', c⟩ hi ⟨rfl, ⟨L, rfl⟩, g0, g8, g9, g10, hall⟩
    by_cases hlt : i < l.length
    · have hlt' : (i : Int) < (l.length : Int) := by omega
      have a1 : indexAddrA cfg 57 (.sl r st 0 l.length 2 cap) (.i .i64 (i : Int)) = some (.ptr r st (i * 2)) := by rw [ixi57 (by omega) (by omega)]; simp
      have ld : ∀ L, loadA cfg 66 (σ ++ L) (.ptr r st (i * 2)) = some (.agg [.s (S l[i].1), .i .i64 l[i].2]) := fun L => by
        rw [load_agg ag66 sz66 (by decide), hrow', Option.bind_some]
        have hq : i * 2 + 2 ≤ (enV l).length := by rw [enV_len]; omega
        simp only [take?, if_pos hq, enV_drop l i hlt]; rfl
      have hgi : l.getD i ([], 0) = l[i] := by rw [List.getD_eq_getElem?_getD, List.getElem?_eq_getElem hlt]; rfl
      have hO : okE l i = (validL l[i].1 && (decide (1 ≤ l[i].2) && decide (l[i].2 ≤ 64)) && (decide (i = 0) || ltB (l.getD (i - 1) ([], 0)).1 l[i].1)) := by unfold okE; rw [hgi]
      have hv := fun (τ : List O) q => valid_ok (σ := τ) (p := q) l[i].1 (hnl _ (List.getElem_mem hlt))
      have hn := fun (τ : List O) q => numbered_ok (σ := τ) (p := q) l[i].2
      have hfalse : okE l i = false → (List.range l.length).all (okE l) = false := fun hf => by
        rw [List.all_eq_false]
        exact ⟨i, List.mem_range.2 hlt, by rw [hf]; decide⟩
      generalize hnb : (decide (1 ≤ l[i].2) && decide (l[i].2 ≤ 64)) = nb at hn hO
      cases d1 : validL l[i].1 with
      | false =>
        have hf := hfalse (by rw [hO, d1]; rfl)
        simp +contextual (disch := first | omega | exact rfl | decide | exact kpF (by decide) | exact kpT (by decide) | assumption | exact Z2z | exact Z30 | exact Z32 | exact Z31 | exact Z33 | exact Z34 | (simp only [Z6x, Z6y, Z2q, Z2g, Z6d, Z6e] <;> omega) | (simp only [Z6v, Z6w, Z7i, Z7j, Z7k, Z7l, Z2i, Z6k]) | (simp only [Z35, Z36, Z2r, Z2s, Z2t, Z2u, Z2v, Z2w, Z2x, Z2y, Z2z, Z30, Z31, Z32, Z33, Z34, Z7m, Z4a, Z4b] <;> assumption)) only [Z00, Z01, Z02, Z03, Z04, Z05, Z06, Z07, Z08, Z09, Z0a, Z0b, Z0c, Z0d, Z0e, Z0f, Z0g, Z0h, Z0i, Z0j, Z0k, Z0l, Z0m, Z0n, Z0o, SOp, Z0q, Z0r, Z0s, Z0t, Z0u, Z0v, Z0w, Z0x, Z0y, Z0z, Z10, Z11, Z12, GOp, Z14, Z15, Z16, Z17, Z18, Z19, Z1a, Z1b, ↓Z1c, Z1d, Z1e, Z1f, Z1g, Z1h, Z1i, Z1j, Z1k, Z1l, Z1m, Z1n, Z1o, Z1p, Int.reduceAdd, Int.reduceSub, Int.reduceMul, Int.reduceNeg, Z1q, Z1r, Z1s, Z1t, Z1u, Z1v, Z1w, Z1x, Z1y, Z1z, accs, touch, touchM, okPair, Z24, Z25, Z26, Z27, Z28, Z29, Z2a, Z2b, Z2c, Z2d, Z2e, Z2f, Z2g, Z2h, Z2i, Z2j, Z2k, Z2l, Z2m, Z2n, Z2o, Z2p, Z2q, Z2r, Z2s, Z2t, Z2u, Z2v, Z2w, Z2x, Z2y, Z2z, Z30, Z31, Z32, Z33, Z34, Z35, Z36, Z37, Z38, Z39, Z3a, Z3b, Z3c, Z3d, Z3e, Z3f, Z3g, Z3h, Z3i, Z3j, Z3k, Z3l, Nat.reduceAdd, Nat.reduceLeDiff, Nat.reduceMul, Nat.reduceSub, isV, opA, Z3o, grdO, grd, Z3r, Z3s, Z3t, Z3u, Z3v, Z3w, Z3x, Z3y, Z3z, Z40, Z41, Z42, Z43, Z44, Z45, Z46, Z47, Z48, Z49, Z4a, Z4b, Z4c, Z4d, Z4e, Z4f, Z4g, Z4h, Z4i, Z4j, Z4k, Int.reduceLT, Int.reduceLE, Int.reduceToNat, Z4l, Z4m, Z4n, Z4o, Z4p, Z4q, Z4r, Z4s, Z4t, Z4u, Z4v, Z4w, Z4x, Z4y, Z4z, Z50, Z51, Z52, Z53, Z54, Z55, Z56, Z57, Z58, Z59, Z5a, Z5b, Z5c, Z5d, Z5e, Z5f, Z5g, Z5h, Z5i, Z5j, Z5k, Z5l, Z5m, Z5n, Z5o, Z5p, Z5q, Z5r, Z5s, Z5t, Z5u, builtinP, builtinA, changes, fieldAddrA, resA, tupled, Z61, Z62, Z63, Z64, Z65, Z66, Z67, Z68, Z69, Z2q, Z6a, Z6b, Z64, Z6c, Z2m, Z6d, Z6e, Z6f, Z6g, Z6h, Z6i, Z6j, Z6k, Z6l, Z6m, Z6n, Z6o, Z6p, Z6q, Z6r, Z6s, Z6t, Z6u, Z6v, Z6w, Z6x, Z6y, Z6z, ↓reduceIte, Nat.reduceEqDiff, Nat.reduceLT, Z70, Int.reduceEq, Z3x, Z6s, Z71, Z72, Z73, Z74, Z75, Z76, Z77, Z78, Z79, Z7a, Z7b, Z7c, Z7d, Z7e, Z7f, Z7g, Z7h, dr36x6, sh3, sz3, by3, ag3, kn3, ze3, ld3, li3, sto3, sh9, sz9, by9, ag9, kn9, ze9, ld9, li9, sto9, les9, ixs9, sh57, sz57, by57, ag57, kn57, el57, ze57, ld57, li57, sto57, ixi57, iai57, le57, lr57, ln57, sh66, sz66, by66, ag66, kn66, ze66, fk66, eq66, ne66, pl66, lda66, sta66, bd66, fi66x0, fi66x1, g0, g8, g9, g10, hlt', a1, ld, hv, hn, d1, hf]
      | true =>
        cases nb with
        | false =>
          have hf := hfalse (by rw [hO, d1]; rfl)
          simp +contextual (disch := first | omega | exact rfl | decide | exact kpF (by decide) | exact kpT (by decide) | assumption | exact Z2z | exact Z30 | exact Z32 | exact Z31 | exact Z33 | exact Z34 | (simp only [Z6x, Z6y, Z2q, Z2g, Z6d, Z6e] <;> omega) | (simp only [Z6v, Z6w, Z7i, Z7j, Z7k, Z7l, Z2i, Z6k]) | (simp only [Z35, Z36, Z2r, Z2s, Z2t, Z2u, Z2v, Z2w, Z2x, Z2y, Z2z, Z30, Z31, Z32, Z33, Z34, Z7m, Z4a, Z4b] <;> assumption)) only [Z00, Z01, Z02, Z03, Z04, Z05, Z06, Z07, Z08, Z09, Z0a, Z0b, Z0c, Z0d, Z0e, Z0f, Z0g, Z0h, Z0i, Z0j, Z0k, Z0l, Z0m, Z0n, Z0o, SOp, Z0q, Z0r, Z0s, Z0t, Z0u, Z0v, Z0w, Z0x, Z0y, Z0z, Z10, Z11, Z12, GOp, Z14, Z15, Z16, Z17, Z18, Z19, Z1a, Z1b, ↓Z1c, Z1d, Z1e, Z1f, Z1g, Z1h, Z1i, Z1j, Z1k, Z1l, Z1m, Z1n, Z1o, Z1p, Int.reduceAdd, Int.reduceSub, Int.reduceMul, Int.reduceNeg, Z1q, Z1r, Z1s, Z1t, Z1u, Z1v, Z1w, Z1x, Z1y, Z1z, accs, touch, touchM, okPair, Z24, Z25, Z26, Z27, Z28, Z29, Z2a, Z2b, Z2c, Z2d, Z2e, Z2f, Z2g, Z2h, Z2i, Z2j, Z2k, Z2l, Z2m, Z2n, Z2o, Z2p, Z2q, Z2r, Z2s, Z2t, Z2u, Z2v, Z2w, Z2x, Z2y, Z2z, Z30, Z31, Z32, Z33, Z34, Z35, Z36, Z37, Z38, Z39, Z3a, Z3b, Z3c, Z3d, Z3e, Z3f, Z3g, Z3h, Z3i, Z3j, Z3k, Z3l, Nat.reduceAdd, Nat.reduceLeDiff, Nat.reduceMul, Nat.reduceSub, isV, opA, Z3o, grdO, grd, Z3r, Z3s, Z3t, Z3u, Z3v, Z3w, Z3x, Z3y, Z3z, Z40, Z41, Z42, Z43, Z44, Z45, Z46, Z47, Z48, Z49, Z4a, Z4b, Z4c, Z4d, Z4e, Z4f, Z4g, Z4h, Z4i, Z4j, Z4k, Int.reduceLT, Int.reduceLE, Int.reduceToNat, Z4l, Z4m, Z4n, Z4o, Z4p, Z4q, Z4r, Z4s, Z4t, Z4u, Z4v, Z4w, Z4x, Z4y, Z4z, Z50, Z51, Z52, Z53, Z54, Z55, Z56, Z57, Z58, Z59, Z5a, Z5b, Z5c, Z5d, Z5e, Z5f, Z5g, Z5h, Z5i, Z5j, Z5k, Z5l, Z5m, Z5n, Z5o, Z5p, Z5q, Z5r, Z5s, Z5t, Z5u, builtinP, builtinA, changes, fieldAddrA, resA, tupled, Z61, Z62, Z63, Z64, Z65, Z66, Z67, Z68, Z69, Z2q, Z6a, Z6b, Z64, Z6c, Z2m, Z6d, Z6e, Z6f, Z6g, Z6h, Z6i, Z6j, Z6k, Z6l, Z6m, Z6n, Z6o, Z6p, Z6q, Z6r, Z6s, Z6t, Z6u, Z6v, Z6w, Z6x, Z6y, Z6z, ↓reduceIte, Nat.reduceEqDiff, Nat.reduceLT, Z70, Int.reduceEq, Z3x, Z6s, Z71, Z72, Z73, Z74, Z75, Z76, Z77, Z78, Z79, Z7a, Z7b, Z7c, Z7d, Z7e, Z7f, Z7g, Z7h, dr36x6, sh3, sz3, by3, ag3, kn3, ze3, ld3, li3, sto3, sh9, sz9, by9, ag9, kn9, ze9, ld9, li9, sto9, les9, ixs9, sh57, sz57, by57, ag57, kn57, el57, ze57, ld57, li57, sto57, ixi57, iai57, le57, lr57, ln57, sh66, sz66, by66, ag66, kn66, ze66, fk66, eq66, ne66, pl66, lda66, sta66, bd66, fi66x0, fi66x1, g0, g8, g9, g10, hlt', a1, ld, hv, hn, d1, hf]
        | true =>
          by_cases hi0 : i = 0
          · have hz : ((0 : Int) < (i : Int)) = False := eq_false (by omega)
            have hT : okE l i = true := by rw [hO, d1, decide_eq_true hi0]; rfl
            simp +contextual (disch := first | omega | exact rfl | decide | exact kpF (by decide) | exact kpT (by decide) | assumption | exact Z2z | exact Z30 | exact Z32 | exact Z31 | exact Z33 | exact Z34 | (simp only [Z6x, Z6y, Z2q, Z2g, Z6d, Z6e] <;> omega) | (simp only [Z6v, Z6w, Z7i, Z7j, Z7k, Z7l, Z2i, Z6k]) | (simp only [Z35, Z36, Z2r, Z2s, Z2t, Z2u, Z2v, Z2w, Z2x, Z2y, Z2z, Z30, Z31, Z32, Z33, Z34, Z7m, Z4a, Z4b] <;> assumption)) only [Z00, Z01, Z02, Z03, Z04, Z05, Z06, Z07, Z08, Z09, Z0a, Z0b, Z0c, Z0d, Z0e, Z0f, Z0g, Z0h, Z0i, Z0j, Z0k, Z0l, Z0m, Z0n, Z0o, SOp, Z0q, Z0r, Z0s, Z0t, Z0u, Z0v, Z0w, Z0x, Z0y, Z0z, Z10, Z11, Z12, GOp, Z14, Z15, Z16, Z17, Z18, Z19, Z1a, Z1b, ↓Z1c, Z1d, Z1e, Z1f, Z1g, Z1h, Z1i, Z1j, Z1k, Z1l, Z1m, Z1n, Z1o, Z1p, Int.reduceAdd, Int.reduceSub, Int.reduceMul, Int.reduceNeg, Z1q, Z1r, Z1s, Z1t, Z1u, Z1v, Z1w, Z1x, Z1y, Z1z, accs, touch, touchM, okPair, Z24, Z25, Z26, Z27, Z28, Z29, Z2a, Z2b, Z2c, Z2d, Z2e, Z2f, Z2g, Z2h, Z2i, Z2j, Z2k, Z2l, Z2m, Z2n, Z2o, Z2p, Z2q, Z2r, Z2s, Z2t, Z2u, Z2v, Z2w, Z2x, Z2y, Z2z, Z30, Z31, Z32, Z33, Z34, Z35, Z36, Z37, Z38, Z39, Z3a, Z3b, Z3c, Z3d, Z3e, Z3f, Z3g, Z3h, Z3i, Z3j, Z3k, Z3l, Nat.reduceAdd, Nat.reduceLeDiff, Nat.reduceMul, Nat.reduceSub, isV, opA, Z3o, grdO, grd, Z3r, Z3s, Z3t, Z3u, Z3v, Z3w, Z3x, Z3y, Z3z, Z40, Z41, Z42, Z43, Z44, Z45, Z46, Z47, Z48, Z49, Z4a, Z4b, Z4c, Z4d, Z4e, Z4f, Z4g, Z4h, Z4i, Z4j, Z4k, Int.reduceLT, Int.reduceLE, Int.reduceToNat, Z4l, Z4m, Z4n, Z4o, Z4p, Z4q, Z4r, Z4s, Z4t, Z4u, Z4v, Z4w, Z4x, Z4y, Z4z, Z50, Z51, Z52, Z53, Z54, Z55, Z56, Z57, Z58, Z59, Z5a, Z5b, Z5c, Z5d, Z5e, Z5f, Z5g, Z5h, Z5i, Z5j, Z5k, Z5l, Z5m, Z5n, Z5o, Z5p, Z5q, Z5r, Z5s, Z5t, Z5u, builtinP, builtinA, changes, fieldAddrA, resA, tupled, Z61, Z62, Z63, Z64, Z65, Z66, Z67, Z68, Z69, Z2q, Z6a, Z6b, Z64, Z6c, Z2m, Z6d, Z6e, Z6f, Z6g, Z6h, Z6i, Z6j, Z6k, Z6l, Z6m, Z6n, Z6o, Z6p, Z6q, Z6r, Z6s, Z6t, Z6u, Z6v, Z6w, Z6x, Z6y, Z6z, ↓reduceIte, Nat.reduceEqDiff, Nat.reduceLT, Z70, Int.reduceEq, Z3x, Z6s, Z71, Z72, Z73, Z74, Z75, Z76, Z77, Z78, Z79, Z7a, Z7b, Z7c, Z7d, Z7e, Z7f, Z7g, Z7h, dr36x6, sh3, sz3, by3, ag3, kn3, ze3, ld3, li3, sto3, sh9, sz9, by9, ag9, kn9, ze9, ld9, li9, sto9, les9, ixs9, sh57, sz57, by57, ag57, kn57, el57, ze57, ld57, li57, sto57, ixi57, iai57, le57, lr57, ln57, sh66, sz66, by66, ag66, kn66, ze66, fk66, eq66, ne66, pl66, lda66, sta66, bd66, fi66x0, fi66x1, g0, g8, g9, g10, hlt', a1, ld, hv, hn, d1, hz]
            refine ⟨hlt, ⟨_, rfl⟩, rfl, fun j hj => ?_⟩
            by_cases he : j = i
            · subst he; exact hT
            · exact hall j (by omega)
          · obtain ⟨k, rfl⟩ : ∃ k, i = k + 1 := ⟨i - 1, by omega⟩
            have hk : k < l.length := by omega
            have hpos : (0 : Int) < ((k + 1 : Nat) : Int) := by omega
            have hsub : ((k + 1 : Nat) : Int) - 1 = (k : Int) := by omega
            have a2 : indexAddrA cfg 57 (.sl r st 0 l.length 2 cap) (.i .i64 (k : Int)) = some (.ptr r st (k * 2)) := by rw [ixi57 (by omega) (by omega)]; simp
            obtain ⟨f0, f1⟩ := enV_get l k hk
            have hgk : l.getD (k + 1 - 1) ([], 0) = l[k] := by rw [Nat.add_sub_cancel, List.getD_eq_getElem?_getD, List.getElem?_eq_getElem hk]; rfl
            rw [hgk] at hO
            have hc := fun (τ : List O) q => compare_ok (σ := τ) (p := q) l[k].1 l[k+1].1
            have hlt2 := cmp_lt l[k].1 l[k+1].1
            simp +contextual (disch := first | omega | exact rfl | decide | exact kpF (by decide) | exact kpT (by decide) | assumption | exact Z2z | exact Z30 | exact Z32 | exact Z31 | exact Z33 | exact Z34 | (simp only [Z6x, Z6y, Z2q, Z2g, Z6d, Z6e] <;> omega) | (simp only [Z6v, Z6w, Z7i, Z7j, Z7k, Z7l, Z2i, Z6k]) | (simp only [Z35, Z36, Z2r, Z2s, Z2t, Z2u, Z2v, Z2w, Z2x, Z2y, Z2z, Z30, Z31, Z32, Z33, Z34, Z7m, Z4a, Z4b] <;> assumption)) only [Z00, Z01, Z02, Z03, Z04, Z05, Z06, Z07, Z08, Z09, Z0a, Z0b, Z0c, Z0d, Z0e, Z0f, Z0g, Z0h, Z0i, Z0j, Z0k, Z0l, Z0m, Z0n, Z0o, SOp, Z0q, Z0r, Z0s, Z0t, Z0u, Z0v, Z0w, Z0x, Z0y, Z0z, Z10, Z11, Z12, GOp, Z14, Z15, Z16, Z17, Z18, Z19, Z1a, Z1b, ↓Z1c, Z1d, Z1e, Z1f, Z1g, Z1h, Z1i, Z1j, Z1k, Z1l, Z1m, Z1n, Z1o, Z1p, Int.reduceAdd, Int.reduceSub, Int.reduceMul, Int.reduceNeg, Z1q, Z1r, Z1s, Z1t, Z1u, Z1v, Z1w, Z1x, Z1y, Z1z, accs, touch, touchM, okPair, Z24, Z25, Z26, Z27, Z28, Z29, Z2a, Z2b, Z2c, Z2d, Z2e, Z2f, Z2g, Z2h, Z2i, Z2j, Z2k, Z2l, Z2m, Z2n, Z2o, Z2p, Z2q, Z2r, Z2s, Z2t, Z2u, Z2v, Z2w, Z2x, Z2y, Z2z, Z30, Z31, Z32, Z33, Z34, Z35, Z36, Z37, Z38, Z39, Z3a, Z3b, Z3c, Z3d, Z3e, Z3f, Z3g, Z3h, Z3i, Z3j, Z3k, Z3l, Nat.reduceAdd, Nat.reduceLeDiff, Nat.reduceMul, Nat.reduceSub, isV, opA, Z3o, grdO, grd, Z3r, Z3s, Z3t, Z3u, Z3v, Z3w, Z3x, Z3y, Z3z, Z40, Z41, Z42, Z43, Z44, Z45, Z46, Z47, Z48, Z49, Z4a, Z4b, Z4c, Z4d, Z4e, Z4f, Z4g, Z4h, Z4i, Z4j, Z4k, Int.reduceLT, Int.reduceLE, Int.reduceToNat, Z4l, Z4m, Z4n, Z4o, Z4p, Z4q, Z4r, Z4s, Z4t, Z4u, Z4v, Z4w, Z4x, Z4y, Z4z, Z50, Z51, Z52, Z53, Z54, Z55, Z56, Z57, Z58, Z59, Z5a, Z5b, Z5c, Z5d, Z5e, Z5f, Z5g, Z5h, Z5i, Z5j, Z5k, Z5l, Z5m, Z5n, Z5o, Z5p, Z5q, Z5r, Z5s, Z5t, Z5u, builtinP, builtinA, changes, fieldAddrA, resA, tupled, Z61, Z62, Z63, Z64, Z65, Z66, Z67, Z68, Z69, Z2q, Z6a, Z6b, Z64, Z6c, Z2m, Z6d, Z6e, Z6f, Z6g, Z6h, Z6i, Z6j, Z6k, Z6l, Z6m, Z6n, Z6o, Z6p, Z6q, Z6r, Z6s, Z6t, Z6u, Z6v, Z6w, Z6x, Z6y, Z6z, ↓reduceIte, Nat.reduceEqDiff, Nat.reduceLT, Z70, Int.reduceEq, Z3x, Z6s, Z71, Z72, Z73, Z74, Z75, Z76, Z77, Z78, Z79, Z7a, Z7b, Z7c, Z7d, Z7e, Z7f, Z7g, Z7h, dr36x6, sh3, sz3, by3, ag3, kn3, ze3, ld3, li3, sto3, sh9, sz9, by9, ag9, kn9, ze9, ld9, li9, sto9, les9, ixs9, sh57, sz57, by57, ag57, kn57, el57, ze57, ld57, li57, sto57, ixi57, iai57, le57, lr57, ln57, sh66, sz66, by66, ag66, kn66, ze66, fk66, eq66, ne66, pl66, lda66, sta66, bd66, fi66x0, fi66x1, g0, g8, g9, g10, hlt', a1, ld, hv, hn, d1, hpos, hsub, a2, f0, hc, Nat.zero_le, hrow']
            cases d2 : ltB l[k].1 l[k+1].1 with
            | false =>
              have hge : 0 ≤ Lib.compareBytes l[k].1 l[k+1].1 := by rw [d2, decide_eq_false_iff_not] at hlt2; omega
              have hf := hfalse (by rw [hO, d2]; simp)
              rw [if_pos hge, hf]
            | true =>
              have hge : ¬ 0 ≤ Lib.compareBytes l[k].1 l[k+1].1 := by rw [d2, decide_eq_true_eq] at hlt2; omega
              have hT : okE l (k + 1) = true := by rw [hO, d1, d2]; simp
              rw [if_neg hge]
              refine ⟨hlt, ⟨_, rfl⟩, rfl, fun j hj => ?_⟩
              by_cases he : j = k + 1
              · subst he; exact hT
              · exact hall j (by omega)
    · have hi' : i = l.length := by omega
      subst hi'
      have hA : (List.range l.length).all (okE l) = true := by
        rw [List.all_eq_true]
        exact fun j hj => hall j (List.mem_range.1 hj)
      simp +contextual (disch := first | omega | exact rfl | decide | exact kpF (by decide) | exact kpT (by decide) | assumption | exact Z2z | exact Z30 | exact Z32 | exact Z31 | exact Z33 | exact Z34 | (simp only [Z6x, Z6y, Z2q, Z2g, Z6d, Z6e] <;> omega) | (simp only [Z6v, Z6w, Z7i, Z7j, Z7k, Z7l, Z2i, Z6k]) | (simp only [Z35, Z36, Z2r, Z2s, Z2t, Z2u, Z2v, Z2w, Z2x, Z2y, Z2z, Z30, Z31, Z32, Z33, Z34, Z7m, Z4a, Z4b] <;> assumption)) only [Z00, Z01, Z02, Z03, Z04, Z05, Z06, Z07, Z08, Z09, Z0a, Z0b, Z0c, Z0d, Z0e, Z0f, Z0g, Z0h, Z0i, Z0j, Z0k, Z0l, Z0m, Z0n, Z0o, SOp, Z0q, Z0r, Z0s, Z0t, Z0u, Z0v, Z0w, Z0x, Z0y, Z0z, Z10, Z11, Z12, GOp, Z14, Z15, Z16, Z17, Z18, Z19, Z1a, Z1b, ↓Z1c, Z1d, Z1e, Z1f, Z1g, Z1h, Z1i, Z1j, Z1k, Z1l, Z1m, Z1n, Z1o, Z1p, Int.reduceAdd, Int.reduceSub, Int.reduceMul, Int.reduceNeg, Z1q, Z1r, Z1s, Z1t, Z1u, Z1v, Z1w, Z1x, Z1y, Z1z, accs, touch, touchM, okPair, Z24, Z25, Z26, Z27, Z28, Z29, Z2a, Z2b, Z2c, Z2d, Z2e, Z2f, Z2g, Z2h, Z2i, Z2j, Z2k, Z2l, Z2m, Z2n, Z2o, Z2p, Z2q, Z2r, Z2s, Z2t, Z2u, Z2v, Z2w, Z2x, Z2y, Z2z, Z30, Z31, Z32, Z33, Z34, Z35, Z36, Z37, Z38, Z39, Z3a, Z3b, Z3c, Z3d, Z3e, Z3f, Z3g, Z3h, Z3i, Z3j, Z3k, Z3l, Nat.reduceAdd, Nat.reduceLeDiff, Nat.reduceMul, Nat.reduceSub, isV, opA, Z3o, grdO, grd, Z3r, Z3s, Z3t, Z3u, Z3v, Z3w, Z3x, Z3y, Z3z, Z40, Z41, Z42, Z43, Z44, Z45, Z46, Z47, Z48, Z49, Z4a, Z4b, Z4c, Z4d, Z4e, Z4f, Z4g, Z4h, Z4i, Z4j, Z4k, Int.reduceLT, Int.reduceLE, Int.reduceToNat, Z4l, Z4m, Z4n, Z4o, Z4p, Z4q, Z4r, Z4s, Z4t, Z4u, Z4v, Z4w, Z4x, Z4y, Z4z, Z50, Z51, Z52, Z53, Z54, Z55, Z56, Z57, Z58, Z59, Z5a, Z5b, Z5c, Z5d, Z5e, Z5f, Z5g, Z5h, Z5i, Z5j, Z5k, Z5l, Z5m, Z5n, Z5o, Z5p, Z5q, Z5r, Z5s, Z5t, Z5u, builtinP, builtinA, changes, fieldAddrA, resA, tupled, Z61, Z62, Z63, Z64, Z65, Z66, Z67, Z68, Z69, Z2q, Z6a, Z6b, Z64, Z6c, Z2m, Z6d, Z6e, Z6f, Z6g, Z6h, Z6i, Z6j, Z6k, Z6l, Z6m, Z6n, Z6o, Z6p, Z6q, Z6r, Z6s, Z6t, Z6u, Z6v, Z6w, Z6x, Z6y, Z6z, ↓reduceIte, Nat.reduceEqDiff, Nat.reduceLT, Z70, Int.reduceEq, Z3x, Z6s, Z71, Z72, Z73, Z74, Z75, Z76, Z77, Z78, Z79, Z7a, Z7b, Z7c, Z7d, Z7e, Z7f, Z7g, Z7h, dr36x6, sh3, sz3, by3, ag3, kn3, ze3, ld3, li3, sto3, sh9, sz9, by9, ag9, kn9, ze9, ld9, li9, sto9, les9, ixs9, sh57, sz57, by57, ag57, kn57, el57, ze57, ld57, li57, sto57, ixi57, iai57, le57, lr57, ln57, sh66, sz66, by66, ag66, kn66, ze66, fk66, eq66, ne66, pl66, lda66, sta66, bd66, fi66x0, fi66x1, g0, g8, g9, g10, Int.lt_irrefl, hA]
end Go.Am.R1

/- Entries and bytes: plain laws. -/
namespace Go.Am.R1
open Go.Proofs
set_option maxRecDepth 100000
set_option linter.unusedSimpArgs false
set_option linter.unusedVariables false
/-- Entries of bytes. -/
def takeF : Nat → List UInt8 → Option (List Ent)
  | _, [] => some []
  | 0, _ => none
  | _, [_] => none
  | f + 1, a :: n :: rest => if rest.length < n.toNat then none else (takeF f (rest.drop n.toNat)).map fun l => (rest.take n.toNat, (a.toNat : Int)) :: l
def putU (l : List Ent) : List UInt8 := l.flatMap fun e => UInt8.ofNat e.2.toNat :: UInt8.ofNat e.1.length :: e.1
theorem putU_cons (e : Ent) (l : List Ent) : putU (e :: l) = UInt8.ofNat e.2.toNat :: UInt8.ofNat e.1.length :: (e.1 ++ putU l) := by simp [putU]
theorem take_putU : ∀ (l : List Ent) (f : Nat), l.length ≤ f → (∀ e ∈ l, e.1.length ≤ 255 ∧ 0 ≤ e.2 ∧ e.2 ≤ 255) → takeF f (putU l) = some l
  | [], f, _, _ => by cases f <;> rfl
  | e :: l, 0, hf, _ => by simp at hf
  | e :: l, f + 1, hf, h => by
    obtain ⟨h1, h2, h3⟩ := h e List.mem_cons_self
    have ih := take_putU l f (by simpa using hf) fun q hq => h q (List.mem_cons_of_mem _ hq)
    have e1 : (UInt8.ofNat e.1.length).toNat = e.1.length := by rw [UInt8.toNat_ofNat']; omega
    have e2 : (UInt8.ofNat e.2.toNat).toNat = e.2.toNat := by rw [UInt8.toNat_ofNat']; omega
    rw [putU_cons, takeF, e1, e2, if_neg (by simp), List.drop_left, List.take_left, ih]
    simp only [Option.map_some]
    rw [show ((e.2.toNat : Nat) : Int) = e.2 by omega]
theorem putU_take : ∀ (f : Nat) (b : List UInt8) (l : List Ent), takeF f b = some l → putU l = b
  | f, [], l, h => by cases f <;> (simp [takeF] at h; subst h; rfl)
  | 0, _ :: _, l, h => by simp [takeF] at h
  | f + 1, [_], l, h => by simp [takeF] at h
  | f + 1, a :: n :: rest, l, h => by
    rw [takeF] at h
    split at h
    · cases h
    · rename_i hn
      rw [Option.map_eq_some_iff] at h
      obtain ⟨l', h1, rfl⟩ := h
      have ih := putU_take f _ l' h1
      rw [putU_cons, ih]
      have e1 : (rest.take n.toNat).length = n.toNat := by rw [List.length_take]; omega
      simp only [e1]
      rw [UInt8.ofNat_toNat, show ((a.toNat : Int)).toNat = a.toNat by omega, UInt8.ofNat_toNat, List.take_append_drop]
theorem putE_U (l : List Ent) (h : ∀ e ∈ l, e.1.length ≤ 255 ∧ 0 ≤ e.2 ∧ e.2 ≤ 255) : putE l = byN (putU l) := by
  induction l with
  | nil => rfl
  | cons e l ih =>
    obtain ⟨h1, h2, h3⟩ := h e List.mem_cons_self
    have ih := ih fun q hq => h q (List.mem_cons_of_mem _ hq)
    rw [putU_cons, putE, List.flatMap_cons, ← putE, ih]
    have e1 : (UInt8.ofNat e.1.length).toNat = e.1.length := by rw [UInt8.toNat_ofNat']; omega
    have e2 : (UInt8.ofNat e.2.toNat).toNat = e.2.toNat := by rw [UInt8.toNat_ofNat']; omega
    simp only [byN, List.map_cons, List.map_append, e1, e2, List.cons_append, List.nil_append]
    rw [show e.2 % 256 = ((e.2.toNat : Nat) : Int) by omega, show (e.1.length : Int) % 256 = (e.1.length : Nat) by omega]
end Go.Am.R1

/- Entries: where a name stands. -/
namespace Go.Am.R1
open Go.Proofs
set_option maxRecDepth 100000
set_option linter.unusedSimpArgs false
set_option linter.unusedVariables false
variable {σ : List O} {p : List Nat}
theorem cmpName_ok {a nm : List UInt8} {v : Int} : runF cfg 125 [.agg [.s (S a), .i .i64 v], .s (S nm)] σ p = some (.i .i64 (Lib.compareBytes a nm), σ) := by
  refine run_done rfl rfl Try.func125 rfl ?_
  have hc := fun (τ : List O) q => compare_ok (σ := τ) (p := q) a nm
  simp +contextual (disch := first | omega | exact rfl | decide | exact kpF (by decide) | exact kpT (by decide) | assumption | exact Z2z | exact Z30 | exact Z32 | exact Z31 | exact Z33 | exact Z34 | (simp only [Z6x, Z6y, Z2q, Z2g, Z6d, Z6e] <;> omega) | (simp only [Z6v, Z6w, Z7i, Z7j, Z7k, Z7l, Z2i, Z6k]) | (simp only [Z35, Z36, Z2r, Z2s, Z2t, Z2u, Z2v, Z2w, Z2x, Z2y, Z2z, Z30, Z31, Z32, Z33, Z34, Z7m, Z4a, Z4b] <;> assumption)) only [Try.f125, Z00, Z01, Z02, Z03, Z04, Z05, Z06, Z07, Z08, Z09, Z0a, Z0b, Z0c, Z0d, Z0e, Z0f, Z0g, Z0h, Z0i, Z0j, Z0k, Z0l, Z0m, Z0n, Z0o, SOp, Z0q, Z0r, Z0s, Z0t, Z0u, Z0v, Z0w, Z0x, Z0y, Z0z, Z10, Z11, Z12, GOp, Z14, Z15, Z16, Z17, Z18, Z19, Z1a, Z1b, ↓Z1c, Z1d, Z1e, Z1f, Z1g, Z1h, Z1i, Z1j, Z1k, Z1l, Z1m, Z1n, Z1o, Z1p, Int.reduceAdd, Int.reduceSub, Int.reduceMul, Int.reduceNeg, Z1q, Z1r, Z1s, Z1t, Z1u, Z1v, Z1w, Z1x, Z1y, Z1z, accs, touch, touchM, okPair, Z24, Z25, Z26, Z27, Z28, Z29, Z2a, Z2b, Z2c, Z2d, Z2e, Z2f, Z2g, Z2h, Z2i, Z2j, Z2k, Z2l, Z2m, Z2n, Z2o, Z2p, Z2q, Z2r, Z2s, Z2t, Z2u, Z2v, Z2w, Z2x, Z2y, Z2z, Z30, Z31, Z32, Z33, Z34, Z35, Z36, Z37, Z38, Z39, Z3a, Z3b, Z3c, Z3d, Z3e, Z3f, Z3g, Z3h, Z3i, Z3j, Z3k, Z3l, Nat.reduceAdd, Nat.reduceLeDiff, Nat.reduceMul, Nat.reduceSub, isV, opA, Z3o, grdO, grd, Z3r, Z3s, Z3t, Z3u, Z3v, Z3w, Z3x, Z3y, Z3z, Z40, Z41, Z42, Z43, Z44, Z45, Z46, Z47, Z48, Z49, Z4a, Z4b, Z4c, Z4d, Z4e, Z4f, Z4g, Z4h, Z4i, Z4j, Z4k, Int.reduceLT, Int.reduceLE, Int.reduceToNat, Z4l, Z4m, Z4n, Z4o, Z4p, Z4q, Z4r, Z4s, Z4t, Z4u, Z4v, Z4w, Z4x, Z4y, Z4z, Z50, Z51, Z52, Z53, Z54, Z55, Z56, Z57, Z58, Z59, Z5a, Z5b, Z5c, Z5d, Z5e, Z5f, Z5g, Z5h, Z5i, Z5j, Z5k, Z5l, Z5m, Z5n, Z5o, Z5p, Z5q, Z5r, Z5s, Z5t, Z5u, builtinP, builtinA, changes, fieldAddrA, resA, tupled, Z61, Z62, Z63, Z64, Z65, Z66, Z67, Z68, Z69, Z2q, Z6a, Z6b, Z64, Z6c, Z2m, Z6d, Z6e, Z6f, Z6g, Z6h, Z6i, Z6j, Z6k, Z6l, Z6m, Z6n, Z6o, Z6p, Z6q, Z6r, Z6s, Z6t, Z6u, Z6v, Z6w, Z6x, Z6y, Z6z, ↓reduceIte, Nat.reduceEqDiff, Nat.reduceLT, Z70, Int.reduceEq, Z3x, Z6s, Z71, Z72, Z73, Z74, Z75, Z76, Z77, Z78, Z79, Z7a, Z7b, Z7c, Z7d, Z7e, Z7f, Z7g, Z7h, sh3, sz3, by3, ag3, kn3, ze3, ld3, li3, sto3, sh9, sz9, by9, ag9, kn9, ze9, ld9, li9, sto9, les9, ixs9, sh66, sz66, by66, ag66, kn66, ze66, fk66, eq66, ne66, pl66, lda66, sta66, bd66, fi66x0, fi66x1, hc]
theorem ltB_trans : ∀ {a b c : List UInt8}, ltB a b = true → ltB b c = true → ltB a c = true
  | [], [], _, h, _ => by simp [ltB, Op.bytesLess] at h
  | _ :: _, [], _, h, _ => by simp [ltB, Op.bytesLess] at h
  | [], _ :: _, [], _, h => by simp [ltB, Op.bytesLess] at h
  | [], _ :: _, _ :: _, _, _ => by simp [ltB, Op.bytesLess]
  | _ :: _, _ :: _, [], _, h => by simp [ltB, Op.bytesLess] at h
  | a :: x, b :: y, c :: z, h, k => by
    have ih := @ltB_trans x y z
    unfold ltB at ih h k ⊢
    rw [Op.bytesLess, Bool.or_eq_true, Bool.and_eq_true, decide_eq_true_eq, beq_iff_eq] at h k ⊢
    rcases h with h | ⟨rfl, h⟩
    · rcases k with k | ⟨rfl, k⟩
      · exact .inl (by rw [UInt8.lt_iff_toNat_lt] at *; omega)
      · exact .inl h
    · rcases k with k | ⟨rfl, k⟩
      · exact .inl k
      · exact .inr ⟨rfl, ih h k⟩
theorem ltB_irr (a : List UInt8) : ltB a a = false := by
  induction a with
  | nil => rfl
  | cons a l ih => unfold ltB at ih ⊢; rw [Op.bytesLess, ih]; simp
theorem rightE_lt {l : List Ent} (h : rightE l = true) : ∀ (i j : Nat) (hi : i < j) (hj : j < l.length), ltB (l[i]'(by omega)).1 l[j].1 = true := by
  unfold rightE at h
  simp only [Bool.and_eq_true, decide_eq_true_eq, List.all_eq_true, List.mem_range] at h
  have step : ∀ (k : Nat) (hk : k + 1 < l.length), ltB (l[k]'(by omega)).1 l[k + 1].1 = true := fun k hk => by
    have := h.2 (k + 1) hk
    unfold okE at this
    rw [Bool.and_eq_true, Bool.or_eq_true, decide_eq_true_eq] at this
    have h2 := this.2
    rcases h2 with h2 | h2
    · omega
    · rw [Nat.add_sub_cancel, List.getD_eq_getElem?_getD, List.getD_eq_getElem?_getD, List.getElem?_eq_getElem (by omega), List.getElem?_eq_getElem hk] at h2
      exact h2
  intro i j
  induction j with
  | zero => intro hi; omega
  | succ j ih =>
    intro hi hj
    by_cases he : i = j
    · subst he; exact step i hj
    · exact ltB_trans (ih (by omega) (by omega)) (step j hj)
theorem shr64 {x y : Operand} {a : Int} (h0 : 0 ≤ a) (h1 : a ≤ 140737488355328) : binA cfg .shr 143 x y (.i .u64 a) (.i .u64 1) = some (.i .u64 (a / 2)) := by
  refine binA_of (op := .shr) (u1 := .int .u64 a) (u2 := .int .u64 1) (r := .int .u64 (a / 2)) rfl rfl rfl ?_
  have e : a.fdiv (2 ^ min 1 IntKind.u64.bits) = a / 2 := by
    rw [show (2 : Int) ^ min 1 IntKind.u64.bits = 2 by decide]; exact Int.fdiv_eq_ediv_of_nonneg _ (by decide)
  simp [binOp, Op.shift, e]
end Go.Am.R1

/- Entries: where a name stands, by halves. -/
namespace Go.Am.R1
open Go.Proofs
set_option maxRecDepth 100000
set_option linter.unusedSimpArgs false
set_option linter.unusedVariables false
variable {σ : List O} {p : List Nat}
def PlaceAt (l : List Ent) (nm : List UInt8) (k : Nat) : Prop := k ≤ l.length ∧ (∀ j (hj : j < l.length), j < k → ltB l[j].1 nm = true) ∧ ∀ j (hj : j < l.length), k ≤ j → ltB l[j].1 nm = false
theorem search_ok {x : V} {l : List Ent} (h : EnOk x l) (hr : rightE l = true) (nm : List UInt8) :
    ∃ k : Nat, PlaceAt l nm k ∧ runF cfg 124 [x, .s (S nm), .fn 125 [] []] σ p = some (.tup [.i .i64 k, .b (decide (k < l.length) && decide ((l.getD k ([], 0)).1 = nm))], σ) := by
  suffices hs : ∃ res, runF cfg 124 [x, .s (S nm), .fn 125 [] []] σ p = some res ∧ ∃ k : Nat, PlaceAt l nm k ∧ res = (.tup [.i .i64 k, .b (decide (k < l.length) && decide ((l.getD k ([], 0)).1 = nm))], σ) by
    obtain ⟨res, h1, k, h2, rfl⟩ := hs
    exact ⟨k, h2, h1⟩
  refine run_doneP rfl rfl Try.func124 rfl ?_
  obtain ⟨hl40, hnm⟩ := rightE_names hr
  have l1 := fun τ => h.s.len (C := cfg) sh57 τ
  simp +contextual (disch := first | omega | exact rfl | decide | exact kpF (by decide) | exact kpT (by decide) | assumption | exact Z2z | exact Z30 | exact Z32 | exact Z31 | exact Z33 | exact Z34 | (simp only [Z6x, Z6y, Z2q, Z2g, Z6d, Z6e] <;> omega) | (simp only [Z6v, Z6w, Z7i, Z7j, Z7k, Z7l, Z2i, Z6k]) | (simp only [Z35, Z36, Z2r, Z2s, Z2t, Z2u, Z2v, Z2w, Z2x, Z2y, Z2z, Z30, Z31, Z32, Z33, Z34, Z7m, Z4a, Z4b] <;> assumption)) only [Try.f124, Z00, Z01, Z02, Z03, Z04, Z05, Z06, Z07, Z08, Z09, Z0a, Z0b, Z0c, Z0d, Z0e, Z0f, Z0g, Z0h, Z0i, Z0j, Z0k, Z0l, Z0m, Z0n, Z0o, SOp, Z0q, Z0r, Z0s, Z0t, Z0u, Z0v, Z0w, Z0x, Z0y, Z0z, Z10, Z11, Z12, GOp, Z14, Z15, Z16, Z17, Z18, Z19, Z1a, Z1b, ↓Z1c, Z1d, Z1e, Z1f, Z1g, Z1h, Z1i, Z1j, Z1k, Z1l, Z1m, Z1n, Z1o, Z1p, Int.reduceAdd, Int.reduceSub, Int.reduceMul, Int.reduceNeg, Z1q, Z1r, Z1s, Z1t, Z1u, Z1v, Z1w, Z1x, Z1y, Z1z, accs, touch, touchM, okPair, Z24, Z25, Z26, Z27, Z28, Z29, Z2a, Z2b, Z2c, Z2d, Z2e, Z2f, Z2g, Z2h, Z2i, Z2j, Z2k, Z2l, Z2m, Z2n, Z2o, Z2p, Z2q, Z2r, Z2s, Z2t, Z2u, Z2v, Z2w, Z2x, Z2y, Z2z, Z30, Z31, Z32, Z33, Z34, Z35, Z36, Z37, Z38, Z39, Z3a, Z3b, Z3c, Z3d, Z3e, Z3f, Z3g, Z3h, Z3i, Z3j, Z3k, Z3l, Nat.reduceAdd, Nat.reduceLeDiff, Nat.reduceMul, Nat.reduceSub, isV, opA, Z3o, grdO, grd, Z3r, Z3s, Z3t, Z3u, Z3v, Z3w, Z3x, Z3y, Z3z, Z40, Z41, Z42, Z43, Z44, Z45, Z46, Z47, Z48, Z49, Z4a, Z4b, Z4c, Z4d, Z4e, Z4f, Z4g, Z4h, Z4i, Z4j, Z4k, Int.reduceLT, Int.reduceLE, Int.reduceToNat, Z4l, Z4m, Z4n, Z4o, Z4p, Z4q, Z4r, Z4s, Z4t, Z4u, Z4v, Z4w, Z4x, Z4y, Z4z, Z50, Z51, Z52, Z53, Z54, Z55, Z56, Z57, Z58, Z59, Z5a, Z5b, Z5c, Z5d, Z5e, Z5f, Z5g, Z5h, Z5i, Z5j, Z5k, Z5l, Z5m, Z5n, Z5o, Z5p, Z5q, Z5r, Z5s, Z5t, Z5u, builtinP, builtinA, changes, fieldAddrA, resA, tupled, Z61, Z62, Z63, Z64, Z65, Z66, Z67, Z68, Z69, Z2q, Z6a, Z6b, Z64, Z6c, Z2m, Z6d, Z6e, Z6f, Z6g, Z6h, Z6i, Z6j, Z6k, Z6l, Z6m, Z6n, Z6o, Z6p, Z6q, Z6r, Z6s, Z6t, Z6u, Z6v, Z6w, Z6x, Z6y, Z6z, ↓reduceIte, Nat.reduceEqDiff, Nat.reduceLT, Z70, Int.reduceEq, Z3x, Z6s, Z71, Z72, Z73, Z74, Z75, Z76, Z77, Z78, Z79, Z7a, Z7b, Z7c, Z7d, Z7e, Z7f, Z7g, Z7h, sh3, sz3, by3, ag3, kn3, ze3, ld3, li3, sto3, sh9, sz9, by9, ag9, kn9, ze9, ld9, li9, sto9, les9, ixs9, sh57, sz57, by57, ag57, kn57, el57, ze57, ld57, li57, sto57, ixi57, iai57, le57, lr57, ln57, sh66, sz66, by66, ag66, kn66, ze66, fk66, eq66, ne66, pl66, lda66, sta66, bd66, fi66x0, fi66x1, sh143, sz143, by143, ag143, kn143, ze143, ld143, li143, sto143, l1]
  refine Wq.down (fun m s => s.nt = 49 ∧ s.σ = σ ∧ s.t.get 0 = some x ∧ s.t.get 1 = some (.s (S nm)) ∧ s.t.get 2 = some (.fn 125 [] []) ∧ s.t.get 8 = some (.i .i64 l.length) ∧ ∃ lo hi : Nat, hi - lo = m ∧ lo ≤ hi ∧ hi ≤ l.length ∧ s.t.get 9 = some (.i .i64 lo) ∧ s.t.get 10 = some (.i .i64 hi) ∧ (∀ j (hj : j < l.length), j < lo → ltB l[j].1 nm = true) ∧ ∀ j (hj : j < l.length), hi ≤ j → ltB l[j].1 nm = false) l.length ?_ ?_
  · refine ⟨rfl, rfl, ?_⟩
    simp +contextual (disch := first | omega | exact rfl | decide | exact kpF (by decide) | exact kpT (by decide) | assumption | exact Z2z | exact Z30 | exact Z32 | exact Z31 | exact Z33 | exact Z34 | (simp only [Z6x, Z6y, Z2q, Z2g, Z6d, Z6e] <;> omega) | (simp only [Z6v, Z6w, Z7i, Z7j, Z7k, Z7l, Z2i, Z6k]) | (simp only [Z35, Z36, Z2r, Z2s, Z2t, Z2u, Z2v, Z2w, Z2x, Z2y, Z2z, Z30, Z31, Z32, Z33, Z34, Z7m, Z4a, Z4b] <;> assumption)) only [Z00, Z01, Z02, Z03, Z04, Z05, Z06, Z07, Z08, Z09, Z0a, Z0b, Z0c, Z0d, Z0e, Z0f, Z0g, Z0h, Z0i, Z0j, Z0k, Z0l, Z0m, Z0n, Z0o, SOp, Z0q, Z0r, Z0s, Z0t, Z0u, Z0v, Z0w, Z0x, Z0y, Z0z, Z10, Z11, Z12, GOp, Z14, Z15, Z16, Z17, Z18, Z19, Z1a, Z1b, ↓Z1c, Z1d, Z1e, Z1f, Z1g, Z1h, Z1i, Z1j, Z1k, Z1l, Z1m, Z1n, Z1o, Z1p, Int.reduceAdd, Int.reduceSub, Int.reduceMul, Int.reduceNeg, Z1q, Z1r, Z1s, Z1t, Z1u, Z1v, Z1w, Z1x, Z1y, Z1z, accs, touch, touchM, okPair, Z24, Z25, Z26, Z27, Z28, Z29, Z2a, Z2b, Z2c, Z2d, Z2e, Z2f, Z2g, Z2h, Z2i, Z2j, Z2k, Z2l, Z2m, Z2n, Z2o, Z2p, Z2q, Z2r, Z2s, Z2t, Z2u, Z2v, Z2w, Z2x, Z2y, Z2z, Z30, Z31, Z32, Z33, Z34, Z35, Z36, Z37, Z38, Z39, Z3a, Z3b, Z3c, Z3d, Z3e, Z3f, Z3g, Z3h, Z3i, Z3j, Z3k, Z3l, Nat.reduceAdd, Nat.reduceLeDiff, Nat.reduceMul, Nat.reduceSub, isV, opA, Z3o, grdO, grd, Z3r, Z3s, Z3t, Z3u, Z3v, Z3w, Z3x, Z3y, Z3z, Z40, Z41, Z42, Z43, Z44, Z45, Z46, Z47, Z48, Z49, Z4a, Z4b, Z4c, Z4d, Z4e, Z4f, Z4g, Z4h, Z4i, Z4j, Z4k, Int.reduceLT, Int.reduceLE, Int.reduceToNat, Z4l, Z4m, Z4n, Z4o, Z4p, Z4q, Z4r, Z4s, Z4t, Z4u, Z4v, Z4w, Z4x, Z4y, Z4z, Z50, Z51, Z52, Z53, Z54, Z55, Z56, Z57, Z58, Z59, Z5a, Z5b, Z5c, Z5d, Z5e, Z5f, Z5g, Z5h, Z5i, Z5j, Z5k, Z5l, Z5m, Z5n, Z5o, Z5p, Z5q, Z5r, Z5s, Z5t, Z5u, builtinP, builtinA, changes, fieldAddrA, resA, tupled, Z61, Z62, Z63, Z64, Z65, Z66, Z67, Z68, Z69, Z2q, Z6a, Z6b, Z64, Z6c, Z2m, Z6d, Z6e, Z6f, Z6g, Z6h, Z6i, Z6j, Z6k, Z6l, Z6m, Z6n, Z6o, Z6p, Z6q, Z6r, Z6s, Z6t, Z6u, Z6v, Z6w, Z6x, Z6y, Z6z, ↓reduceIte, Nat.reduceEqDiff, Nat.reduceLT, Z70, Int.reduceEq, Z3x, Z6s, Z71, Z72, Z73, Z74, Z75, Z76, Z77, Z78, Z79, Z7a, Z7b, Z7c, Z7d, Z7e, Z7f, Z7g, Z7h]
    exact ⟨0, l.length, by omega, by omega, by omega, rfl, rfl, fun j hj h => absurd h (by omega), fun j hj h => absurd h (by omega)⟩
  · rintro m ⟨t, nt, σ', c⟩ ⟨rfl, rfl, g0, g1, g2, g8, lo, hi, hm, h1, h2, g9, g10, hlo, hhi⟩
    by_cases hlt : lo < hi
    · have hlt' : (lo : Int) < (hi : Int) := by omega
      have hmid : ((lo : Int) + hi) / 2 = (((lo + hi) / 2 : Nat) : Int) := by omega
      have hq : (lo + hi) / 2 < l.length := by omega
      generalize hqq : (lo + hi) / 2 = q at hmid hq
      have a1 := h.s.at (C := cfg) sh57 sz66 hq
      have ld : ∀ τ, loadA cfg 66 τ (.iptr ((enV l).drop (q * (1 + 1)))) = some (.agg [.s (S l[q].1), .i .i64 l[q].2]) := fun τ => by
        rw [load_iagg ag66 sz66, enV_drop l q hq]; rfl
      have hc := fun (τ : List O) r => cmpName_ok (σ := τ) (p := r) (a := l[q].1) (nm := nm) (v := l[q].2)
      have hcl := cmp_lt l[q].1 nm
      have hsum : IntKind.u64.wrap ((lo : Int) + hi) = (lo : Int) + hi := by
        show ((lo : Int) + hi).emod 18446744073709551616 = _
        exact Int.emod_eq_of_lt (by omega) (by omega)
      have hsh := fun x y => shr64 (x := x) (y := y) (a := (lo : Int) + hi) (by omega) (by omega)
      simp +contextual (disch := first | omega | exact rfl | decide | exact kpF (by decide) | exact kpT (by decide) | assumption | exact Z2z | exact Z30 | exact Z32 | exact Z31 | exact Z33 | exact Z34 | (simp only [Z6x, Z6y, Z2q, Z2g, Z6d, Z6e] <;> omega) | (simp only [Z6v, Z6w, Z7i, Z7j, Z7k, Z7l, Z2i, Z6k]) | (simp only [Z35, Z36, Z2r, Z2s, Z2t, Z2u, Z2v, Z2w, Z2x, Z2y, Z2z, Z30, Z31, Z32, Z33, Z34, Z7m, Z4a, Z4b] <;> assumption)) only [Z00, Z01, Z02, Z03, Z04, Z05, Z06, Z07, Z08, Z09, Z0a, Z0b, Z0c, Z0d, Z0e, Z0f, Z0g, Z0h, Z0i, Z0j, Z0k, Z0l, Z0m, Z0n, Z0o, SOp, Z0q, Z0r, Z0s, Z0t, Z0u, Z0v, Z0w, Z0x, Z0y, Z0z, Z10, Z11, Z12, GOp, Z14, Z15, Z16, Z17, Z18, Z19, Z1a, Z1b, ↓Z1c, Z1d, Z1e, Z1f, Z1g, Z1h, Z1i, Z1j, Z1k, Z1l, Z1m, Z1n, Z1o, Z1p, Int.reduceAdd, Int.reduceSub, Int.reduceMul, Int.reduceNeg, Z1q, Z1r, Z1s, Z1t, Z1u, Z1v, Z1w, Z1x, Z1y, Z1z, accs, touch, touchM, okPair, Z24, Z25, Z26, Z27, Z28, Z29, Z2a, Z2b, Z2c, Z2d, Z2e, Z2f, Z2g, Z2h, Z2i, Z2j, Z2k, Z2l, Z2m, Z2n, Z2o, Z2p, Z2q, Z2r, Z2s, Z2t, Z2u, Z2v, Z2w, Z2x, Z2y, Z2z, Z30, Z31, Z32, Z33, Z34, Z35, Z36, Z37, Z38, Z39, Z3a, Z3b, Z3c, Z3d, Z3e, Z3f, Z3g, Z3h, Z3i, Z3j, Z3k, Z3l, Nat.reduceAdd, Nat.reduceLeDiff, Nat.reduceMul, Nat.reduceSub, isV, opA, Z3o, grdO, grd, Z3r, Z3s, Z3t, Z3u, Z3v, Z3w, Z3x, Z3y, Z3z, Z40, Z41, Z42, Z43, Z44, Z45, Z46, Z47, Z48, Z49, Z4a, Z4b, Z4c, Z4d, Z4e, Z4f, Z4g, Z4h, Z4i, Z4j, Z4k, Int.reduceLT, Int.reduceLE, Int.reduceToNat, Z4l, Z4m, Z4n, Z4o, Z4p, Z4q, Z4r, Z4s, Z4t, Z4u, Z4v, Z4w, Z4x, Z4y, Z4z, Z50, Z51, Z52, Z53, Z54, Z55, Z56, Z57, Z58, Z59, Z5a, Z5b, Z5c, Z5d, Z5e, Z5f, Z5g, Z5h, Z5i, Z5j, Z5k, Z5l, Z5m, Z5n, Z5o, Z5p, Z5q, Z5r, Z5s, Z5t, Z5u, builtinP, builtinA, changes, fieldAddrA, resA, tupled, Z61, Z62, Z63, Z64, Z65, Z66, Z67, Z68, Z69, Z2q, Z6a, Z6b, Z64, Z6c, Z2m, Z6d, Z6e, Z6f, Z6g, Z6h, Z6i, Z6j, Z6k, Z6l, Z6m, Z6n, Z6o, Z6p, Z6q, Z6r, Z6s, Z6t, Z6u, Z6v, Z6w, Z6x, Z6y, Z6z, ↓reduceIte, Nat.reduceEqDiff, Nat.reduceLT, Z70, Int.reduceEq, Z3x, Z6s, Z71, Z72, Z73, Z74, Z75, Z76, Z77, Z78, Z79, Z7a, Z7b, Z7c, Z7d, Z7e, Z7f, Z7g, Z7h, sh3, sz3, by3, ag3, kn3, ze3, ld3, li3, sto3, sh9, sz9, by9, ag9, kn9, ze9, ld9, li9, sto9, les9, ixs9, sh57, sz57, by57, ag57, kn57, el57, ze57, ld57, li57, sto57, ixi57, iai57, le57, lr57, ln57, sh66, sz66, by66, ag66, kn66, ze66, fk66, eq66, ne66, pl66, lda66, sta66, bd66, fi66x0, fi66x1, sh143, sz143, by143, ag143, kn143, ze143, ld143, li143, sto143, g0, g1, g2, g8, g9, g10, hlt', convertP, hsum, hsh, hmid, a1, ld, hc]
      have hs := rightE_lt hr
      cases hb : ltB l[q].1 nm with
      | true =>
        rw [hb, decide_eq_true_eq] at hcl
        rw [if_pos hcl]
        refine ⟨hi - (q + 1), by omega, q + 1, hi, rfl, by omega, h2, rfl, rfl, fun j hj hj2 => ?_, hhi⟩
        by_cases he : j = q
        · subst he; exact hb
        · exact ltB_trans (hs j q (by omega) hq) hb
      | false =>
        rw [hb, decide_eq_false_iff_not] at hcl
        rw [if_neg hcl]
        refine ⟨q - lo, by omega, lo, q, rfl, by omega, by omega, rfl, rfl, hlo, fun j hj hj2 => ?_⟩
        by_cases he : j = q
        · subst he; exact hb
        · cases hk : ltB l[j].1 nm with
          | false => rfl
          | true =>
            have := ltB_trans (hs q j (by omega) hj) hk
            rw [hb] at this; cases this
    · have hlt' : ((lo : Int) < (hi : Int)) = False := eq_false (by omega)
      have hhl : hi = lo := by omega
      subst hhl
      have hP : PlaceAt l nm hi := ⟨h2, hlo, hhi⟩
      by_cases hn : hi < l.length
      · have hn' : (hi : Int) < (l.length : Int) := by omega
        have a1 := h.s.at (C := cfg) sh57 sz66 hn
        have ld : ∀ τ, loadA cfg 66 τ (.iptr ((enV l).drop (hi * (1 + 1)))) = some (.agg [.s (S l[hi].1), .i .i64 l[hi].2]) := fun τ => by
          rw [load_iagg ag66 sz66, enV_drop l hi hn]; rfl
        have hc := fun (τ : List O) r => cmpName_ok (σ := τ) (p := r) (a := l[hi].1) (nm := nm) (v := l[hi].2)
        have hce := cmp_eq l[hi].1 nm
        have hgi : l.getD hi ([], 0) = l[hi] := by rw [List.getD_eq_getElem?_getD, List.getElem?_eq_getElem hn]; rfl
        simp +contextual (disch := first | omega | exact rfl | decide | exact kpF (by decide) | exact kpT (by decide) | assumption | exact Z2z | exact Z30 | exact Z32 | exact Z31 | exact Z33 | exact Z34 | (simp only [Z6x, Z6y, Z2q, Z2g, Z6d, Z6e] <;> omega) | (simp only [Z6v, Z6w, Z7i, Z7j, Z7k, Z7l, Z2i, Z6k]) | (simp only [Z35, Z36, Z2r, Z2s, Z2t, Z2u, Z2v, Z2w, Z2x, Z2y, Z2z, Z30, Z31, Z32, Z33, Z34, Z7m, Z4a, Z4b] <;> assumption)) only [Z00, Z01, Z02, Z03, Z04, Z05, Z06, Z07, Z08, Z09, Z0a, Z0b, Z0c, Z0d, Z0e, Z0f, Z0g, Z0h, Z0i, Z0j, Z0k, Z0l, Z0m, Z0n, Z0o, SOp, Z0q, Z0r, Z0s, Z0t, Z0u, Z0v, Z0w, Z0x, Z0y, Z0z, Z10, Z11, Z12, GOp, Z14, Z15, Z16, Z17, Z18, Z19, Z1a, Z1b, ↓Z1c, Z1d, Z1e, Z1f, Z1g, Z1h, Z1i, Z1j, Z1k, Z1l, Z1m, Z1n, Z1o, Z1p, Int.reduceAdd, Int.reduceSub, Int.reduceMul, Int.reduceNeg, Z1q, Z1r, Z1s, Z1t, Z1u, Z1v, Z1w, Z1x, Z1y, Z1z, accs, touch, touchM, okPair, Z24, Z25, Z26, Z27, Z28, Z29, Z2a, Z2b, Z2c, Z2d, Z2e, Z2f, Z2g, Z2h, Z2i, Z2j, Z2k, Z2l, Z2m, Z2n, Z2o, Z2p, Z2q, Z2r, Z2s, Z2t, Z2u, Z2v, Z2w, Z2x, Z2y, Z2z, Z30, Z31, Z32, Z33, Z34, Z35, Z36, Z37, Z38, Z39, Z3a, Z3b, Z3c, Z3d, Z3e, Z3f, Z3g, Z3h, Z3i, Z3j, Z3k, Z3l, Nat.reduceAdd, Nat.reduceLeDiff, Nat.reduceMul, Nat.reduceSub, isV, opA, Z3o, grdO, grd, Z3r, Z3s, Z3t, Z3u, Z3v, Z3w, Z3x, Z3y, Z3z, Z40, Z41, Z42, Z43, Z44, Z45, Z46, Z47, Z48, Z49, Z4a, Z4b, Z4c, Z4d, Z4e, Z4f, Z4g, Z4h, Z4i, Z4j, Z4k, Int.reduceLT, Int.reduceLE, Int.reduceToNat, Z4l, Z4m, Z4n, Z4o, Z4p, Z4q, Z4r, Z4s, Z4t, Z4u, Z4v, Z4w, Z4x, Z4y, Z4z, Z50, Z51, Z52, Z53, Z54, Z55, Z56, Z57, Z58, Z59, Z5a, Z5b, Z5c, Z5d, Z5e, Z5f, Z5g, Z5h, Z5i, Z5j, Z5k, Z5l, Z5m, Z5n, Z5o, Z5p, Z5q, Z5r, Z5s, Z5t, Z5u, builtinP, builtinA, changes, fieldAddrA, resA, tupled, Z61, Z62, Z63, Z64, Z65, Z66, Z67, Z68, Z69, Z2q, Z6a, Z6b, Z64, Z6c, Z2m, Z6d, Z6e, Z6f, Z6g, Z6h, Z6i, Z6j, Z6k, Z6l, Z6m, Z6n, Z6o, Z6p, Z6q, Z6r, Z6s, Z6t, Z6u, Z6v, Z6w, Z6x, Z6y, Z6z, ↓reduceIte, Nat.reduceEqDiff, Nat.reduceLT, Z70, Int.reduceEq, Z3x, Z6s, Z71, Z72, Z73, Z74, Z75, Z76, Z77, Z78, Z79, Z7a, Z7b, Z7c, Z7d, Z7e, Z7f, Z7g, Z7h, sh3, sz3, by3, ag3, kn3, ze3, ld3, li3, sto3, sh9, sz9, by9, ag9, kn9, ze9, ld9, li9, sto9, les9, ixs9, sh57, sz57, by57, ag57, kn57, el57, ze57, ld57, li57, sto57, ixi57, iai57, le57, lr57, ln57, sh66, sz66, by66, ag66, kn66, ze66, fk66, eq66, ne66, pl66, lda66, sta66, bd66, fi66x0, fi66x1, sh143, sz143, by143, ag143, kn143, ze143, ld143, li143, sto143, g0, g1, g2, g8, g9, g10, hlt', hn', a1, ld, hc, DoneP_ret, DoneP_normal]
        refine ⟨hi, hP, ?_⟩
        rw [hce, hgi, decide_eq_true hn, Bool.true_and]
      · have hn' : ((hi : Int) < (l.length : Int)) = False := eq_false (by omega)
        simp +contextual (disch := first | omega | exact rfl | decide | exact kpF (by decide) | exact kpT (by decide) | assumption | exact Z2z | exact Z30 | exact Z32 | exact Z31 | exact Z33 | exact Z34 | (simp only [Z6x, Z6y, Z2q, Z2g, Z6d, Z6e] <;> omega) | (simp only [Z6v, Z6w, Z7i, Z7j, Z7k, Z7l, Z2i, Z6k]) | (simp only [Z35, Z36, Z2r, Z2s, Z2t, Z2u, Z2v, Z2w, Z2x, Z2y, Z2z, Z30, Z31, Z32, Z33, Z34, Z7m, Z4a, Z4b] <;> assumption)) only [Z00, Z01, Z02, Z03, Z04, Z05, Z06, Z07, Z08, Z09, Z0a, Z0b, Z0c, Z0d, Z0e, Z0f, Z0g, Z0h, Z0i, Z0j, Z0k, Z0l, Z0m, Z0n, Z0o, SOp, Z0q, Z0r, Z0s, Z0t, Z0u, Z0v, Z0w, Z0x, Z0y, Z0z, Z10, Z11, Z12, GOp, Z14, Z15, Z16, Z17, Z18, Z19, Z1a, Z1b, ↓Z1c, Z1d, Z1e, Z1f, Z1g, Z1h, Z1i, Z1j, Z1k, Z1l, Z1m, Z1n, Z1o, Z1p, Int.reduceAdd, Int.reduceSub, Int.reduceMul, Int.reduceNeg, Z1q, Z1r, Z1s, Z1t, Z1u, Z1v, Z1w, Z1x, Z1y, Z1z, accs, touch, touchM, okPair, Z24, Z25, Z26, Z27, Z28, Z29, Z2a, Z2b, Z2c, Z2d, Z2e, Z2f, Z2g, Z2h, Z2i, Z2j, Z2k, Z2l, Z2m, Z2n, Z2o, Z2p, Z2q, Z2r, Z2s, Z2t, Z2u, Z2v, Z2w, Z2x, Z2y, Z2z, Z30, Z31, Z32, Z33, Z34, Z35, Z36, Z37, Z38, Z39, Z3a, Z3b, Z3c, Z3d, Z3e, Z3f, Z3g, Z3h, Z3i, Z3j, Z3k, Z3l, Nat.reduceAdd, Nat.reduceLeDiff, Nat.reduceMul, Nat.reduceSub, isV, opA, Z3o, grdO, grd, Z3r, Z3s, Z3t, Z3u, Z3v, Z3w, Z3x, Z3y, Z3z, Z40, Z41, Z42, Z43, Z44, Z45, Z46, Z47, Z48, Z49, Z4a, Z4b, Z4c, Z4d, Z4e, Z4f, Z4g, Z4h, Z4i, Z4j, Z4k, Int.reduceLT, Int.reduceLE, Int.reduceToNat, Z4l, Z4m, Z4n, Z4o, Z4p, Z4q, Z4r, Z4s, Z4t, Z4u, Z4v, Z4w, Z4x, Z4y, Z4z, Z50, Z51, Z52, Z53, Z54, Z55, Z56, Z57, Z58, Z59, Z5a, Z5b, Z5c, Z5d, Z5e, Z5f, Z5g, Z5h, Z5i, Z5j, Z5k, Z5l, Z5m, Z5n, Z5o, Z5p, Z5q, Z5r, Z5s, Z5t, Z5u, builtinP, builtinA, changes, fieldAddrA, resA, tupled, Z61, Z62, Z63, Z64, Z65, Z66, Z67, Z68, Z69, Z2q, Z6a, Z6b, Z64, Z6c, Z2m, Z6d, Z6e, Z6f, Z6g, Z6h, Z6i, Z6j, Z6k, Z6l, Z6m, Z6n, Z6o, Z6p, Z6q, Z6r, Z6s, Z6t, Z6u, Z6v, Z6w, Z6x, Z6y, Z6z, ↓reduceIte, Nat.reduceEqDiff, Nat.reduceLT, Z70, Int.reduceEq, Z3x, Z6s, Z71, Z72, Z73, Z74, Z75, Z76, Z77, Z78, Z79, Z7a, Z7b, Z7c, Z7d, Z7e, Z7f, Z7g, Z7h, sh3, sz3, by3, ag3, kn3, ze3, ld3, li3, sto3, sh9, sz9, by9, ag9, kn9, ze9, ld9, li9, sto9, les9, ixs9, sh57, sz57, by57, ag57, kn57, el57, ze57, ld57, li57, sto57, ixi57, iai57, le57, lr57, ln57, sh66, sz66, by66, ag66, kn66, ze66, fk66, eq66, ne66, pl66, lda66, sta66, bd66, fi66x0, fi66x1, sh143, sz143, by143, ag143, kn143, ze143, ld143, li143, sto143, g0, g1, g2, g8, g9, g10, hlt', hn', DoneP_ret, DoneP_normal]
        refine ⟨hi, hP, ?_⟩
        rw [decide_eq_false hn, Bool.false_and]
theorem place_ok {x : V} {l : List Ent} (h : EnOk x l) (hr : rightE l = true) (nm : List UInt8) :
    ∃ k : Nat, PlaceAt l nm k ∧ runF cfg 87 [x, .s (S nm)] σ p = some (.tup [.i .i64 k, .b (decide (k < l.length) && decide ((l.getD k ([], 0)).1 = nm))], σ) := by
  obtain ⟨k, hk, hs⟩ := search_ok (σ := σ) (p := 0 :: p) h hr nm
  refine ⟨k, hk, ?_⟩
  refine run_done rfl rfl Try.func87 rfl ?_
  simp +contextual (disch := first | omega | exact rfl | decide | exact kpF (by decide) | exact kpT (by decide) | assumption | exact Z2z | exact Z30 | exact Z32 | exact Z31 | exact Z33 | exact Z34 | (simp only [Z6x, Z6y, Z2q, Z2g, Z6d, Z6e] <;> omega) | (simp only [Z6v, Z6w, Z7i, Z7j, Z7k, Z7l, Z2i, Z6k]) | (simp only [Z35, Z36, Z2r, Z2s, Z2t, Z2u, Z2v, Z2w, Z2x, Z2y, Z2z, Z30, Z31, Z32, Z33, Z34, Z7m, Z4a, Z4b] <;> assumption)) only [Try.f87, Z00, Z01, Z02, Z03, Z04, Z05, Z06, Z07, Z08, Z09, Z0a, Z0b, Z0c, Z0d, Z0e, Z0f, Z0g, Z0h, Z0i, Z0j, Z0k, Z0l, Z0m, Z0n, Z0o, SOp, Z0q, Z0r, Z0s, Z0t, Z0u, Z0v, Z0w, Z0x, Z0y, Z0z, Z10, Z11, Z12, GOp, Z14, Z15, Z16, Z17, Z18, Z19, Z1a, Z1b, ↓Z1c, Z1d, Z1e, Z1f, Z1g, Z1h, Z1i, Z1j, Z1k, Z1l, Z1m, Z1n, Z1o, Z1p, Int.reduceAdd, Int.reduceSub, Int.reduceMul, Int.reduceNeg, Z1q, Z1r, Z1s, Z1t, Z1u, Z1v, Z1w, Z1x, Z1y, Z1z, accs, touch, touchM, okPair, Z24, Z25, Z26, Z27, Z28, Z29, Z2a, Z2b, Z2c, Z2d, Z2e, Z2f, Z2g, Z2h, Z2i, Z2j, Z2k, Z2l, Z2m, Z2n, Z2o, Z2p, Z2q, Z2r, Z2s, Z2t, Z2u, Z2v, Z2w, Z2x, Z2y, Z2z, Z30, Z31, Z32, Z33, Z34, Z35, Z36, Z37, Z38, Z39, Z3a, Z3b, Z3c, Z3d, Z3e, Z3f, Z3g, Z3h, Z3i, Z3j, Z3k, Z3l, Nat.reduceAdd, Nat.reduceLeDiff, Nat.reduceMul, Nat.reduceSub, isV, opA, Z3o, grdO, grd, Z3r, Z3s, Z3t, Z3u, Z3v, Z3w, Z3x, Z3y, Z3z, Z40, Z41, Z42, Z43, Z44, Z45, Z46, Z47, Z48, Z49, Z4a, Z4b, Z4c, Z4d, Z4e, Z4f, Z4g, Z4h, Z4i, Z4j, Z4k, Int.reduceLT, Int.reduceLE, Int.reduceToNat, Z4l, Z4m, Z4n, Z4o, Z4p, Z4q, Z4r, Z4s, Z4t, Z4u, Z4v, Z4w, Z4x, Z4y, Z4z, Z50, Z51, Z52, Z53, Z54, Z55, Z56, Z57, Z58, Z59, Z5a, Z5b, Z5c, Z5d, Z5e, Z5f, Z5g, Z5h, Z5i, Z5j, Z5k, Z5l, Z5m, Z5n, Z5o, Z5p, Z5q, Z5r, Z5s, Z5t, Z5u, builtinP, builtinA, changes, fieldAddrA, resA, tupled, Z61, Z62, Z63, Z64, Z65, Z66, Z67, Z68, Z69, Z2q, Z6a, Z6b, Z64, Z6c, Z2m, Z6d, Z6e, Z6f, Z6g, Z6h, Z6i, Z6j, Z6k, Z6l, Z6m, Z6n, Z6o, Z6p, Z6q, Z6r, Z6s, Z6t, Z6u, Z6v, Z6w, Z6x, Z6y, Z6z, ↓reduceIte, Nat.reduceEqDiff, Nat.reduceLT, Z70, Int.reduceEq, Z3x, Z6s, Z71, Z72, Z73, Z74, Z75, Z76, Z77, Z78, Z79, Z7a, Z7b, Z7c, Z7d, Z7e, Z7f, Z7g, Z7h, hs]
end Go.Am.R1
