/- Parts of one machine and of the walks over it, joined: K78. -/
import Derived.Test.YtijdfdkngbpodaaJE
import Derived.Test.YtijdfdkngbpodaaJC
/- The law EntryChanges. -/
namespace Go.Am.R1
open Go.Proofs
set_option maxRecDepth 100000
set_option linter.unusedSimpArgs false
set_option linter.unusedVariables false
variable {σ : List O} {p : List Nat}
theorem alive15_1 (a b : V) : runF cfg 33 [] [.cells [0] [a, b]] [1] = some (.b true, [.cells [0] [a, b]]) := runF_of (k := 60) (by kernel_rfl)
/-- Entries that may be written, or none. -/
def Mut (τ : List O) (A : V) (n : Nat) : Prop := (A = .nils ∧ n = 0) ∨ ∃ r st cs, A = .sl r st 0 n 2 none ∧ rowAt τ r st = some cs ∧ cs.length = n * 2 ∧ ∀ j, j < n → ∃ v, cs[j * 2 + 1]? = some (.i .i64 v)
def AtRow (A : V) (r : Nat) : Prop := ∃ st n, A = .sl r st 0 n 2 none
theorem Mut.one {τ : List O} {A : V} {n : Nat} (h : Mut τ A n) : A.one = true := by
  obtain ⟨rfl, _⟩ | ⟨r, st, cs, rfl, _⟩ := h <;> rfl
theorem Mut.len {τ : List O} {A : V} {n : Nat} (h : Mut τ A n) (τ' : List O) : lenA cfg 57 τ' A = some (.i .i64 n) := by
  obtain ⟨rfl, rfl⟩ | ⟨r, st, cs, rfl, _⟩ := h
  · rw [ln57]; rfl
  · rw [le57]
theorem Mut.app {τ : List O} {A : V} {n : Nat} (h : Mut τ A n) (L : List O) : Mut (τ ++ L) A n := by
  obtain h | ⟨r, st, cs, e, h1, h2⟩ := h
  · exact .inl h
  · exact .inr ⟨r, st, cs, e, rowAt_old h1, h2⟩
theorem Mut.of_row {τ : List O} {r : Nat} {st : List Nat} {l : List Ent} (h : rowAt τ r st = some (enV l)) : Mut τ (.sl r st 0 l.length 2 none) l.length :=
  .inr ⟨r, st, _, rfl, h, enV_len l, fun j hj => ⟨_, (enV_get l j hj).2⟩⟩
/-- Written at one of them. -/
theorem Mut.step {τ : List O} {A : V} {n i : Nat} (h : Mut τ A n) (hi : i < n) : ∃ r st cs v, A = .sl r st 0 n 2 none ∧ rowAt τ r st = some cs ∧ cs.length = n * 2 ∧ cs[i * 2 + 1]? = some (.i .i64 v) ∧
    (∀ w, Mut (τ.set r (.cells st (cs.set (i * 2 + 1) (.i .i64 w)))) A n) ∧ ∀ B m w, Mut τ B m → ¬ AtRow B r → Mut (τ.set r (.cells st (cs.set (i * 2 + 1) (.i .i64 w)))) B m := by
  obtain ⟨_, rfl⟩ | ⟨r, st, cs, rfl, h1, h2, h3⟩ := h
  · omega
  · obtain ⟨v, hv⟩ := h3 i hi
    refine ⟨r, st, cs, v, rfl, h1, h2, hv, fun w => ?_, fun B m w hB hne => ?_⟩
    · refine .inr ⟨r, st, _, rfl, A.row_set_self h1, by rw [List.length_set]; exact h2, fun j hj => ?_⟩
      by_cases hji : j = i
      · subst hji
        exact ⟨w, by rw [List.getElem?_set_self (by omega)]⟩
      · obtain ⟨v', hv'⟩ := h3 j hj
        exact ⟨v', by rw [List.getElem?_set_ne (by omega)]; exact hv'⟩
    · obtain hB | ⟨r2, st2, cs2, rfl, b1, b2⟩ := hB
      · exact .inl hB
      · refine .inr ⟨r2, st2, cs2, rfl, ?_, b2⟩
        rw [A.row_set_ne (fun e => hne ⟨st2, m, by rw [e]⟩)]; exact b1
/-- The same entries, where the first may be written. -/
theorem same15_mut {r : Nat} {st : List Nat} {y : V} {l : List Ent} (hrow : rowAt σ r st = some (enV l)) (h' : EnOk y l) : runF cfg 38 [.sl r st 0 l.length 2 none, y] σ p = some (.b true, σ) := by
  refine run_done rfl rfl Try.func38 rfl ?_
  have hb := h'.b
  have l1 := fun τ => (le57 (σ := τ) (r := r) (o := 0) (n := l.length) (es := 2) (st := st) (cap := none))
  have l2 := fun τ => h'.s.len (C := cfg) sh57 τ
  have o2 := h'.s.one
  simp +contextual (disch := first | omega | exact rfl | decide | exact kpF (by decide) | exact kpT (by decide) | assumption | exact Z2z | exact Z30 | exact Z32 | exact Z31 | exact Z33 | exact Z34 | (simp only [Z6x, Z6y, Z2q, Z2g, Z6d, Z6e] <;> omega) | (simp only [Z6v, Z6w, Z7i, Z7j, Z7k, Z7l, Z2i, Z6k]) | (simp only [Z35, Z36, Z2r, Z2s, Z2t, Z2u, Z2v, Z2w, Z2x, Z2y, Z2z, Z30, Z31, Z32, Z33, Z34, Z7m, Z4a, Z4b] <;> assumption)) only [Try.f38, Z00, Z01, Z02, Z03, Z04, Z05, Z06, Z07, Z08, Z09, Z0a, Z0b, Z0c, Z0d, Z0e, Z0f, Z0g, Z0h, Z0i, Z0j, Z0k, Z0l, Z0m, Z0n, Z0o, SOp, Z0q, Z0r, Z0s, Z0t, Z0u, Z0v, Z0w, Z0x, Z0y, Z0z, Z10, Z11, Z12, GOp, Z14, Z15, Z16, Z17, Z18, Z19, Z1a, Z1b, ↓Z1c, Z1d, Z1e, Z1f, Z1g, Z1h, Z1i, Z1j, Z1k, Z1l, Z1m, Z1n, Z1o, Z1p, Int.reduceAdd, Int.reduceSub, Int.reduceMul, Int.reduceNeg, Z1q, Z1r, Z1s, Z1t, Z1u, Z1v, Z1w, Z1x, Z1y, Z1z, accs, touch, touchM, okPair, Z24, Z25, Z26, Z27, Z28, Z29, Z2a, Z2b, Z2c, Z2d, Z2e, Z2f, Z2g, Z2h, Z2i, Z2j, Z2k, Z2l, Z2m, Z2n, Z2o, Z2p, Z2q, Z2r, Z2s, Z2t, Z2u, Z2v, Z2w, Z2x, Z2y, Z2z, Z30, Z31, Z32, Z33, Z34, Z35, Z36, Z37, Z38, Z39, Z3a, Z3b, Z3c, Z3d, Z3e, Z3f, Z3g, Z3h, Z3i, Z3j, Z3k, Z3l, Nat.reduceAdd, Nat.reduceLeDiff, Nat.reduceMul, Nat.reduceSub, isV, opA, Z3o, grdO, grd, Z3r, Z3s, Z3t, Z3u, Z3v, Z3w, Z3x, Z3y, Z3z, Z40, Z41, Z42, Z43, Z44, Z45, Z46, Z47, Z48, Z49, Z4a, Z4b, Z4c, Z4d, Z4e, Z4f, Z4g, Z4h, Z4i, Z4j, Z4k, Int.reduceLT, Int.reduceLE, Int.reduceToNat, Z4l, Z4m, Z4n, Z4o, Z4p, Z4q, Z4r, Z4s, Z4t, Z4u, Z4v, Z4w, Z4x, Z4y, Z4z, Z50, Z51, Z52, Z53, Z54, Z55, Z56, Z57, Z58, Z59, Z5a, Z5b, Z5c, Z5d, Z5e, Z5f, Z5g, Z5h, Z5i, Z5j, Z5k, Z5l, Z5m, Z5n, Z5o, Z5p, Z5q, Z5r, Z5s, Z5t, Z5u, builtinP, builtinA, changes, fieldAddrA, resA, tupled, Z61, Z62, Z63, Z64, Z65, Z66, Z67, Z68, Z69, Z2q, Z6a, Z6b, Z64, Z6c, Z2m, Z6d, Z6e, Z6f, Z6g, Z6h, Z6i, Z6j, Z6k, Z6l, Z6m, Z6n, Z6o, Z6p, Z6q, Z6r, Z6s, Z6t, Z6u, Z6v, Z6w, Z6x, Z6y, Z6z, ↓reduceIte, Nat.reduceEqDiff, Nat.reduceLT, Z70, Int.reduceEq, Z3x, Z6s, Z71, Z72, Z73, Z74, Z75, Z76, Z77, Z78, Z79, Z7a, Z7b, Z7c, Z7d, Z7e, Z7f, Z7g, Z7h, dr38x6, sh3, sz3, by3, ag3, kn3, ze3, ld3, li3, sto3, sh9, sz9, by9, ag9, kn9, ze9, ld9, li9, sto9, les9, ixs9, sh57, sz57, by57, ag57, kn57, el57, ze57, ld57, li57, sto57, ixi57, iai57, le57, lr57, ln57, sh66, sz66, by66, ag66, kn66, ze66, fk66, eq66, ne66, pl66, lda66, sta66, bd66, fi66x0, fi66x1, l1, l2]
  refine Wq.up (fun i t => t.nt = 26 ∧ t.σ = σ ∧ t.t.get 0 = some (.sl r st 0 l.length 2 none) ∧ t.t.get 1 = some y ∧ t.t.get 5 = some (.i .i64 (i : Nat))) l.length ?_ ?_
  · refine ⟨rfl, rfl, ?_⟩
    simp +contextual (disch := first | omega | exact rfl | decide | exact kpF (by decide) | exact kpT (by decide) | assumption | exact Z2z | exact Z30 | exact Z32 | exact Z31 | exact Z33 | exact Z34 | (simp only [Z6x, Z6y, Z2q, Z2g, Z6d, Z6e] <;> omega) | (simp only [Z6v, Z6w, Z7i, Z7j, Z7k, Z7l, Z2i, Z6k]) | (simp only [Z35, Z36, Z2r, Z2s, Z2t, Z2u, Z2v, Z2w, Z2x, Z2y, Z2z, Z30, Z31, Z32, Z33, Z34, Z7m, Z4a, Z4b] <;> assumption)) only [Z00, Z01, Z02, Z03, Z04, Z05, Z06, Z07, Z08, Z09, Z0a, Z0b, Z0c, Z0d, Z0e, Z0f, Z0g, Z0h, Z0i, Z0j, Z0k, Z0l, Z0m, Z0n, Z0o, SOp, Z0q, Z0r, Z0s, Z0t, Z0u, Z0v, Z0w, Z0x, Z0y, Z0z, Z10, Z11, Z12, GOp, Z14, Z15, Z16, Z17, Z18, Z19, Z1a, Z1b, ↓Z1c, Z1d, Z1e, Z1f, Z1g, Z1h, Z1i, Z1j, Z1k, Z1l, Z1m, Z1n, Z1o, Z1p, Int.reduceAdd, Int.reduceSub, Int.reduceMul, Int.reduceNeg, Z1q, Z1r, Z1s, Z1t, Z1u, Z1v, Z1w, Z1x, Z1y, Z1z, accs, touch, touchM, okPair, Z24, Z25, Z26, Z27, Z28, Z29, Z2a, Z2b, Z2c, Z2d, Z2e, Z2f, Z2g, Z2h, Z2i, Z2j, Z2k, Z2l, Z2m, Z2n, Z2o, Z2p, Z2q, Z2r, Z2s, Z2t, Z2u, Z2v, Z2w, Z2x, Z2y, Z2z, Z30, Z31, Z32, Z33, Z34, Z35, Z36, Z37, Z38, Z39, Z3a, Z3b, Z3c, Z3d, Z3e, Z3f, Z3g, Z3h, Z3i, Z3j, Z3k, Z3l, Nat.reduceAdd, Nat.reduceLeDiff, Nat.reduceMul, Nat.reduceSub, isV, opA, Z3o, grdO, grd, Z3r, Z3s, Z3t, Z3u, Z3v, Z3w, Z3x, Z3y, Z3z, Z40, Z41, Z42, Z43, Z44, Z45, Z46, Z47, Z48, Z49, Z4a, Z4b, Z4c, Z4d, Z4e, Z4f, Z4g, Z4h, Z4i, Z4j, Z4k, Int.reduceLT, Int.reduceLE, Int.reduceToNat, Z4l, Z4m, Z4n, Z4o, Z4p, Z4q, Z4r, Z4s, Z4t, Z4u, Z4v, Z4w, Z4x, Z4y, Z4z, Z50, Z51, Z52, Z53, Z54, Z55, Z56, Z57, Z58, Z59, Z5a, Z5b, Z5c, Z5d, Z5e, Z5f, Z5g, Z5h, Z5i, Z5j, Z5k, Z5l, Z5m, Z5n, Z5o, Z5p, Z5q, Z5r, Z5s, Z5t, Z5u, builtinP, builtinA, changes, fieldAddrA, resA, tupled, Z61, Z62, Z63, Z64, Z65, Z66, Z67, Z68, Z69, Z2q, Z6a, Z6b, Z64, Z6c, Z2m, Z6d, Z6e, Z6f, Z6g, Z6h, Z6i, Z6j, Z6k, Z6l, Z6m, Z6n, Z6o, Z6p, Z6q, Z6r, Z6s, Z6t, Z6u, Z6v, Z6w, Z6x, Z6y, Z6z, ↓reduceIte, Nat.reduceEqDiff, Nat.reduceLT, Z70, Int.reduceEq, Z3x, Z6s, Z71, Z72, Z73, Z74, Z75, Z76, Z77, Z78, Z79, Z7a, Z7b, Z7c, Z7d, Z7e, Z7f, Z7g, Z7h]
  · rintro i ⟨t, nt, σ', c⟩ hi ⟨rfl, rfl, g0, g1, g5⟩
    by_cases hlt : i < l.length
    · have hlt' : (i : Int) < (l.length : Int) := by omega
      have a1 : indexAddrA cfg 57 (.sl r st 0 l.length 2 none) (.i .i64 (i : Int)) = some (.ptr r st (i * 2)) := by rw [ixi57 (by omega) (by omega)]; simp
      have a2 := h'.s.at (C := cfg) sh57 sz66 hlt
      have ld1 : loadA cfg 66 σ' (.ptr r st (i * 2)) = some (.agg [.s (S l[i].1), .i .i64 l[i].2]) := by
        rw [load_agg ag66 sz66 (by decide), hrow, Option.bind_some]
        have hq : i * 2 + 2 ≤ (enV l).length := by rw [enV_len]; omega
        simp only [take?, if_pos hq, enV_drop l i hlt]; rfl
      have ld : ∀ τ, loadA cfg 66 τ (.iptr ((enV l).drop (i * (1 + 1)))) = some (.agg [.s (S l[i].1), .i .i64 l[i].2]) := fun τ => by
        rw [load_iagg ag66 sz66, enV_drop l i hlt]; rfl
      simp +contextual (disch := first | omega | exact rfl | decide | exact kpF (by decide) | exact kpT (by decide) | assumption | exact Z2z | exact Z30 | exact Z32 | exact Z31 | exact Z33 | exact Z34 | (simp only [Z6x, Z6y, Z2q, Z2g, Z6d, Z6e] <;> omega) | (simp only [Z6v, Z6w, Z7i, Z7j, Z7k, Z7l, Z2i, Z6k]) | (simp only [Z35, Z36, Z2r, Z2s, Z2t, Z2u, Z2v, Z2w, Z2x, Z2y, Z2z, Z30, Z31, Z32, Z33, Z34, Z7m, Z4a, Z4b] <;> assumption)) only [Z00, Z01, Z02, Z03, Z04, Z05, Z06, Z07, Z08, Z09, Z0a, Z0b, Z0c, Z0d, Z0e, Z0f, Z0g, Z0h, Z0i, Z0j, Z0k, Z0l, Z0m, Z0n, Z0o, SOp, Z0q, Z0r, Z0s, Z0t, Z0u, Z0v, Z0w, Z0x, Z0y, Z0z, Z10, Z11, Z12, GOp, Z14, Z15, Z16, Z17, Z18, Z19, Z1a, Z1b, ↓Z1c, Z1d, Z1e, Z1f, Z1g, Z1h, Z1i, Z1j, Z1k, Z1l, Z1m, Z1n, Z1o, Z1p, Int.reduceAdd, Int.reduceSub, Int.reduceMul, Int.reduceNeg, Z1q, Z1r, Z1s, Z1t, Z1u, Z1v, Z1w, Z1x, Z1y, Z1z, accs, touch, touchM, okPair, Z24, Z25, Z26, Z27, Z28, Z29, Z2a, Z2b, Z2c, Z2d, Z2e, Z2f, Z2g, Z2h, Z2i, Z2j, Z2k, Z2l, Z2m, Z2n, Z2o, Z2p, Z2q, Z2r, Z2s, Z2t, Z2u, Z2v, Z2w, Z2x, Z2y, Z2z, Z30, Z31, Z32, Z33, Z34, Z35, Z36, Z37, Z38, Z39, Z3a, Z3b, Z3c, Z3d, Z3e, Z3f, Z3g, Z3h, Z3i, Z3j, Z3k, Z3l, Nat.reduceAdd, Nat.reduceLeDiff, Nat.reduceMul, Nat.reduceSub, isV, opA, Z3o, grdO, grd, Z3r, Z3s, Z3t, Z3u, Z3v, Z3w, Z3x, Z3y, Z3z, Z40, Z41, Z42, Z43, Z44, Z45, Z46, Z47, Z48, Z49, Z4a, Z4b, Z4c, Z4d, Z4e, Z4f, Z4g, Z4h, Z4i, Z4j, Z4k, Int.reduceLT, Int.reduceLE, Int.reduceToNat, Z4l, Z4m, Z4n, Z4o, Z4p, Z4q, Z4r, Z4s, Z4t, Z4u, Z4v, Z4w, Z4x, Z4y, Z4z, Z50, Z51, Z52, Z53, Z54, Z55, Z56, Z57, Z58, Z59, Z5a, Z5b, Z5c, Z5d, Z5e, Z5f, Z5g, Z5h, Z5i, Z5j, Z5k, Z5l, Z5m, Z5n, Z5o, Z5p, Z5q, Z5r, Z5s, Z5t, Z5u, builtinP, builtinA, changes, fieldAddrA, resA, tupled, Z61, Z62, Z63, Z64, Z65, Z66, Z67, Z68, Z69, Z2q, Z6a, Z6b, Z64, Z6c, Z2m, Z6d, Z6e, Z6f, Z6g, Z6h, Z6i, Z6j, Z6k, Z6l, Z6m, Z6n, Z6o, Z6p, Z6q, Z6r, Z6s, Z6t, Z6u, Z6v, Z6w, Z6x, Z6y, Z6z, ↓reduceIte, Nat.reduceEqDiff, Nat.reduceLT, Z70, Int.reduceEq, Z3x, Z6s, Z71, Z72, Z73, Z74, Z75, Z76, Z77, Z78, Z79, Z7a, Z7b, Z7c, Z7d, Z7e, Z7f, Z7g, Z7h, dr38x6, sh3, sz3, by3, ag3, kn3, ze3, ld3, li3, sto3, sh9, sz9, by9, ag9, kn9, ze9, ld9, li9, sto9, les9, ixs9, sh57, sz57, by57, ag57, kn57, el57, ze57, ld57, li57, sto57, ixi57, iai57, le57, lr57, ln57, sh66, sz66, by66, ag66, kn66, ze66, fk66, eq66, ne66, pl66, lda66, sta66, bd66, fi66x0, fi66x1, g0, g1, g5, l1, l2, hlt', a1, a2, ld, ld1]
      exact ⟨hlt, rfl⟩
    · have hi' : i = l.length := by omega
      subst hi'
      simp +contextual (disch := first | omega | exact rfl | decide | exact kpF (by decide) | exact kpT (by decide) | assumption | exact Z2z | exact Z30 | exact Z32 | exact Z31 | exact Z33 | exact Z34 | (simp only [Z6x, Z6y, Z2q, Z2g, Z6d, Z6e] <;> omega) | (simp only [Z6v, Z6w, Z7i, Z7j, Z7k, Z7l, Z2i, Z6k]) | (simp only [Z35, Z36, Z2r, Z2s, Z2t, Z2u, Z2v, Z2w, Z2x, Z2y, Z2z, Z30, Z31, Z32, Z33, Z34, Z7m, Z4a, Z4b] <;> assumption)) only [Z00, Z01, Z02, Z03, Z04, Z05, Z06, Z07, Z08, Z09, Z0a, Z0b, Z0c, Z0d, Z0e, Z0f, Z0g, Z0h, Z0i, Z0j, Z0k, Z0l, Z0m, Z0n, Z0o, SOp, Z0q, Z0r, Z0s, Z0t, Z0u, Z0v, Z0w, Z0x, Z0y, Z0z, Z10, Z11, Z12, GOp, Z14, Z15, Z16, Z17, Z18, Z19, Z1a, Z1b, ↓Z1c, Z1d, Z1e, Z1f, Z1g, Z1h, Z1i, Z1j, Z1k, Z1l, Z1m, Z1n, Z1o, Z1p, Int.reduceAdd, Int.reduceSub, Int.reduceMul, Int.reduceNeg, Z1q, Z1r, Z1s, Z1t, Z1u, Z1v, Z1w, Z1x, Z1y, Z1z, accs, touch, touchM, okPair, Z24, Z25, Z26, Z27, Z28, Z29, Z2a, Z2b, Z2c, Z2d, Z2e, Z2f, Z2g, Z2h, Z2i, Z2j, Z2k, Z2l, Z2m, Z2n, Z2o, Z2p, Z2q, Z2r, Z2s, Z2t, Z2u, Z2v, Z2w, Z2x, Z2y, Z2z, Z30, Z31, Z32, Z33, Z34, Z35, Z36, Z37, Z38, Z39, Z3a, Z3b, Z3c, Z3d, Z3e, Z3f, Z3g, Z3h, Z3i, Z3j, Z3k, Z3l, Nat.reduceAdd, Nat.reduceLeDiff, Nat.reduceMul, Nat.reduceSub, isV, opA, Z3o, grdO, grd, Z3r, Z3s, Z3t, Z3u, Z3v, Z3w, Z3x, Z3y, Z3z, Z40, Z41, Z42, Z43, Z44, Z45, Z46, Z47, Z48, Z49, Z4a, Z4b, Z4c, Z4d, Z4e, Z4f, Z4g, Z4h, Z4i, Z4j, Z4k, Int.reduceLT, Int.reduceLE, Int.reduceToNat, Z4l, Z4m, Z4n, Z4o, Z4p, Z4q, Z4r, Z4s, Z4t, Z4u, Z4v, Z4w, Z4x, Z4y, Z4z, Z50, Z51, Z52, Z53, Z54, Z55, Z56, Z57, Z58, Z59, Z5a, Z5b, Z5c, Z5d, Z5e, Z5f, Z5g, Z5h, Z5i, Z5j, Z5k, Z5l, Z5m, Z5n, Z5o, Z5p, Z5q, Z5r, Z5s, Z5t, Z5u, builtinP, builtinA, changes, fieldAddrA, resA, tupled, Z61, Z62, Z63, Z64, Z65, Z66, Z67, Z68, Z69, Z2q, Z6a, Z6b, Z64, Z6c, Z2m, Z6d, Z6e, Z6f, Z6g, Z6h, Z6i, Z6j, Z6k, Z6l, Z6m, Z6n, Z6o, Z6p, Z6q, Z6r, Z6s, Z6t, Z6u, Z6v, Z6w, Z6x, Z6y, Z6z, ↓reduceIte, Nat.reduceEqDiff, Nat.reduceLT, Z70, Int.reduceEq, Z3x, Z6s, Z71, Z72, Z73, Z74, Z75, Z76, Z77, Z78, Z79, Z7a, Z7b, Z7c, Z7d, Z7e, Z7f, Z7g, Z7h, dr38x6, sh3, sz3, by3, ag3, kn3, ze3, ld3, li3, sto3, sh9, sz9, by9, ag9, kn9, ze9, ld9, li9, sto9, les9, ixs9, sh57, sz57, by57, ag57, kn57, el57, ze57, ld57, li57, sto57, ixi57, iai57, le57, lr57, ln57, sh66, sz66, by66, ag66, kn66, ze66, fk66, eq66, ne66, pl66, lda66, sta66, bd66, fi66x0, fi66x1, g0, g1, g5, l1, l2, Int.lt_irrefl]
theorem insE_ok {x : V} {l : List Ent} (h : EnOk x l) {e : Ent} (he : e.1.length ≤ 140737488351232) {l' : List Ent} {c : Int} (hw : withL l e = (some l', c)) : EnOk (.arr (enV l') l'.length false) l' ∧ l'.length ≤ 41 ∧ l'.length ≠ 0 := by
  unfold withL at hw
  split at hw
  · cases hw
  · split at hw
    · cases hw
    · split at hw
      · cases hw
      · split at hw
        · cases hw
        · split at hw
          · cases hw
          · rename_i q1 q2 q3 q4 q5
            cases hw
            have hr : rightE l = true := by simpa using q1
            have hll := (rightE_names hr).1
            have hil := insE_len l e
            refine ⟨⟨⟨enV_len _, .inr ⟨false, rfl⟩⟩, fun a ha => ?_, by omega⟩, by omega, by omega⟩
            unfold insE at ha
            rcases List.mem_append.1 ha with ha | ha
            · exact h.n a (List.mem_of_mem_take ha)
            · rcases List.mem_cons.1 ha with rfl | ha
              · omega
              · exact h.n a (List.mem_of_mem_drop ha)
theorem dropE_ok {x : V} {l : List Ent} (h : EnOk x l) (nm : List UInt8) : (∀ e ∈ dropE l nm, e.1.length ≤ 140737488355328) ∧ (dropE l nm).length * 24 ≤ 140737488355328 := by
  constructor
  · intro a ha
    unfold dropE at ha
    rcases List.mem_append.1 ha with ha | ha
    · exact h.n a (List.mem_of_mem_take ha)
    · exact h.n a (List.mem_of_mem_drop ha)
  · have := h.b
    have h2 : (dropE l nm).length ≤ l.length := by simp [dropE]; omega
    omega
theorem law10 {x : V} {l : List Ent} (h : EnOk x l) (e : Ent) (he : e.1.length ≤ 140737488351232) : runF cfg 10 [x, .agg [.s (S e.1), .i .i64 e.2]] [] [] = some (.b true, []) := by
  refine run_done rfl rfl Try.func10 rfl ?_
  have ha := alive15_1 (.s (S e.1)) (.i .i64 e.2)
  have o1 := h.s.one
  have o2 := h.cp.s.one
  have c1 := fun (τ : List O) q => copy15_ok (σ := τ) (p := q) h
  have hw2 := fun (τ : List O) q => with15r_ok (σ := τ) (p := q) h e (by omega)
  have hs := fun (τ : List O) q => same15_ok (σ := τ) (p := q) h.cp h
  obtain ⟨L, A, hw1, hA⟩ := with15_keep (σ := [.cells [0] [.s (S e.1), .i .i64 e.2]]) h.cp e (by omega)
  obtain ⟨L2, B, hd1, hB⟩ := without15_keep (σ := [.cells [0] [.s (S e.1), .i .i64 e.2]] ++ L) h.cp e.1
  obtain ⟨W, hW, hWs⟩ : ∃ W, withE l e = [W, .i .i64 (withL l e).2] ∧ ∀ (τ : List O), (((withL l e).1 = none → A = .nils → ∀ q, runF cfg 38 [A, W] τ q = some (.b true, τ)) ∧
      ∀ l' r st, (withL l e).1 = some l' → A = .sl r st 0 l'.length 2 none → rowAt τ r st = some (enV l') → ∀ q, runF cfg 38 [A, W] τ q = some (.b true, τ)) := by
    unfold withE
    rcases hq : withL l e with ⟨_ | l', c⟩
    · refine ⟨_, rfl, fun τ => ⟨fun _ hA q => ?_, fun l' r st hc => by cases hc⟩⟩
      subst hA
      have hE : EnOk .nils ([] : List Ent) := ⟨⟨rfl, .inl ⟨rfl, rfl⟩⟩, fun e he => (by cases he), by simp⟩
      exact same15_ok hE hE
    · refine ⟨_, rfl, fun τ => ⟨fun hc => (by cases hc), fun l2 r st hc hA hr q => ?_⟩⟩
      cases hc
      subst hA
      exact same15_mut hr (insE_ok h he hq).1
  obtain ⟨W2, hW2, hWs2⟩ : ∃ W2, (match (withoutL l e.1).1 with | some l' => mkS 2 l'.length (enV l') | none => .nils) = W2 ∧ ∀ (τ : List O), (((withoutL l e.1).1 = none → B = .nils → ∀ q, runF cfg 38 [B, W2] τ q = some (.b true, τ)) ∧
      ∀ l' r st, (withoutL l e.1).1 = some l' → B = .sl r st 0 l'.length 2 none → rowAt τ r st = some (enV l') → ∀ q, runF cfg 38 [B, W2] τ q = some (.b true, τ)) := by
    rcases hq : withoutL l e.1 with ⟨_ | l', c⟩
    · refine ⟨_, rfl, fun τ => ⟨fun _ hB q => ?_, fun l' r st hc => by cases hc⟩⟩
      subst hB
      have hE : EnOk .nils ([] : List Ent) := ⟨⟨rfl, .inl ⟨rfl, rfl⟩⟩, fun e he => (by cases he), by simp⟩
      exact same15_ok hE hE
    · refine ⟨_, rfl, fun τ => ⟨fun hc => (by cases hc), fun l2 r st hc hB hr q => ?_⟩⟩
      cases hc
      subst hB
      have hl' : l' = dropE l e.1 := by
        unfold withoutL at hq
        split at hq
        · cases hq
        · split at hq
          · cases hq
          · cases hq; rfl
      subst hl'
      obtain ⟨d1, d2⟩ := dropE_ok h e.1
      exact same15_mut hr (EnOk.mkS d1 d2)
  rw [hW] at hw2
  have hd2 : ∀ (τ : List O) q, runF cfg 45 [x, .s (S e.1)] τ q = some (.tup [W2, .i .i64 (withoutL l e.1).2], τ) := fun τ q => by
    rw [← hW2]; exact without15r_ok h e.1
  have hb0 : rowAt [O.cells [0] [V.s (S e.1), V.i .i64 e.2]] 0 [0] = some [V.s (S e.1), V.i .i64 e.2] := by rw [rowAt_cons0]
  have hb1 : rowAt ([O.cells [0] [V.s (S e.1), V.i .i64 e.2]] ++ L) 0 [0] = some [V.s (S e.1), V.i .i64 e.2] := rowAt_old hb0
  have hb2 : rowAt ([O.cells [0] [V.s (S e.1), V.i .i64 e.2]] ++ L ++ L2) 0 [0] = some [V.s (S e.1), V.i .i64 e.2] := rowAt_old hb1
  obtain ⟨nA, nB, hnA, hnB, hMA, hMB, hap, hsA, hsB⟩ : ∃ nA nB, nA ≤ 1000000000000 ∧ nB ≤ 1000000000000000 ∧ Mut ([O.cells [0] [V.s (S e.1), V.i .i64 e.2]] ++ L ++ L2) A nA ∧ Mut ([O.cells [0] [V.s (S e.1), V.i .i64 e.2]] ++ L ++ L2) B nB ∧ (∀ r, AtRow A r → ¬ AtRow B r) ∧
      (∀ q, runF cfg 38 [A, W] ([O.cells [0] [V.s (S e.1), V.i .i64 e.2]] ++ L ++ L2) q = some (.b true, [O.cells [0] [V.s (S e.1), V.i .i64 e.2]] ++ L ++ L2)) ∧
      (∀ q, runF cfg 38 [B, W2] ([O.cells [0] [V.s (S e.1), V.i .i64 e.2]] ++ L ++ L2) q = some (.b true, [O.cells [0] [V.s (S e.1), V.i .i64 e.2]] ++ L ++ L2)) := by
    have hAe : ∃ nA, nA ≤ 1000000000000 ∧ Mut ([O.cells [0] [V.s (S e.1), V.i .i64 e.2]] ++ L ++ L2) A nA ∧ (∀ r, AtRow A r → r < ([O.cells [0] [V.s (S e.1), V.i .i64 e.2]] ++ L).length) ∧
        ∀ q, runF cfg 38 [A, W] ([O.cells [0] [V.s (S e.1), V.i .i64 e.2]] ++ L ++ L2) q = some (.b true, [O.cells [0] [V.s (S e.1), V.i .i64 e.2]] ++ L ++ L2) := by
      rcases hA with ⟨e1, e2⟩ | ⟨l', k, st, e1, e2, e3, e4⟩
      · refine ⟨0, by omega, .inl ⟨e2, rfl⟩, fun r ⟨st, n, hr⟩ => (by rw [e2] at hr; cases hr), (hWs _).1 e1 e2⟩
      · have hrow : rowAt ([O.cells [0] [V.s (S e.1), V.i .i64 e.2]] ++ L) ([O.cells [0] [V.s (S e.1), V.i .i64 e.2]].length + k) st = some (enV l') := by rw [rowAt_app]; exact e4
        have hl41 : l'.length ≤ 1000000000000 := by
          have hq : withL l e = (some l', (withL l e).2) := by rw [← e1]
          have := (insE_ok h he hq).2.1
          omega
        refine ⟨l'.length, hl41, by rw [e3]; exact Mut.of_row (rowAt_old hrow), fun r ⟨st', n, hr⟩ => ?_, (hWs _).2 l' _ st e1 e3 (rowAt_old hrow)⟩
        rw [e3] at hr
        injection hr with hr
        rw [← hr]; exact rowAt_lt' hrow
    have hBe : ∃ nB, nB ≤ 1000000000000000 ∧ Mut ([O.cells [0] [V.s (S e.1), V.i .i64 e.2]] ++ L ++ L2) B nB ∧ (∀ r, AtRow B r → ([O.cells [0] [V.s (S e.1), V.i .i64 e.2]] ++ L).length ≤ r) ∧
        ∀ q, runF cfg 38 [B, W2] ([O.cells [0] [V.s (S e.1), V.i .i64 e.2]] ++ L ++ L2) q = some (.b true, [O.cells [0] [V.s (S e.1), V.i .i64 e.2]] ++ L ++ L2) := by
      rcases hB with ⟨e1, e2⟩ | ⟨l', k, st, e1, e3, e4⟩
      · refine ⟨0, by omega, .inl ⟨e2, rfl⟩, fun r ⟨st, n, hr⟩ => (by rw [e2] at hr; cases hr), (hWs2 _).1 e1 e2⟩
      · have hrow : rowAt ([O.cells [0] [V.s (S e.1), V.i .i64 e.2]] ++ L ++ L2) (([O.cells [0] [V.s (S e.1), V.i .i64 e.2]] ++ L).length + k) st = some (enV l') := by rw [rowAt_app]; exact e4
        have hl40 : l'.length ≤ 1000000000000000 := by
          unfold withoutL at e1
          split at e1
          · cases e1
          · split at e1
            · cases e1
            · cases e1
              have := (dropE_ok h e.1).2
              omega
        refine ⟨l'.length, hl40, by rw [e3]; exact Mut.of_row hrow, fun r ⟨st', n, hr⟩ => ?_, (hWs2 _).2 l' _ st e1 e3 hrow⟩
        rw [e3] at hr
        injection hr with hr
        rw [← hr]; omega
    obtain ⟨nA, a0, a1, a2, a3⟩ := hAe
    obtain ⟨nB, b0, b1, b2, b3⟩ := hBe
    exact ⟨nA, nB, a0, b0, a1, b1, fun r h1 h2 => by have := a2 r h1; have := b2 r h2; omega, a3, b3⟩
  generalize hτ2 : [O.cells [0] [V.s (S e.1), V.i .i64 e.2]] ++ L ++ L2 = τ2 at hd1 hb2 hMA hMB hsA hsB
  generalize hτ1 : [O.cells [0] [V.s (S e.1), V.i .i64 e.2]] ++ L = τ1 at hw1 hd1 hb1
  clear hA hB hWs hWs2 hτ2 hτ1 hW hW2
  generalize (withL l e).2 = k1 at hw1 hw2
  generalize (withoutL l e.1).2 = k2 at hd1 hd2
  have ld : ∀ τ : List O, rowAt τ 0 [0] = some [V.s (S e.1), V.i .i64 e.2] → loadA cfg 66 τ (.ptr 0 [0] 0) = some (.agg [V.s (S e.1), V.i .i64 e.2]) := fun τ hτ => by
    rw [load_agg ag66 sz66 (by decide), hτ]; rfl
  have ld0 := ld _ hb0
  have ld1 := ld _ hb1
  have ld2 := ld _ hb2
  have oA := hMA.one
  have oB := hMB.one
  have lA := hMA.len
  have lB := hMB.len
  simp +contextual (disch := first | omega | exact rfl | decide | exact kpF (by decide) | exact kpT (by decide) | assumption | exact Z2z | exact Z30 | exact Z32 | exact Z31 | exact Z33 | exact Z34 | (simp only [Z6x, Z6y, Z2q, Z2g, Z6d, Z6e] <;> omega) | (simp only [Z6v, Z6w, Z7i, Z7j, Z7k, Z7l, Z2i, Z6k]) | (simp only [Z35, Z36, Z2r, Z2s, Z2t, Z2u, Z2v, Z2w, Z2x, Z2y, Z2z, Z30, Z31, Z32, Z33, Z34, Z7m, Z4a, Z4b] <;> assumption)) only [Try.f10, Z00, Z01, Z02, Z03, Z04, Z05, Z06, Z07, Z08, Z09, Z0a, Z0b, Z0c, Z0d, Z0e, Z0f, Z0g, Z0h, Z0i, Z0j, Z0k, Z0l, Z0m, Z0n, Z0o, SOp, Z0q, Z0r, Z0s, Z0t, Z0u, Z0v, Z0w, Z0x, Z0y, Z0z, Z10, Z11, Z12, GOp, Z14, Z15, Z16, Z17, Z18, Z19, Z1a, Z1b, ↓Z1c, Z1d, Z1e, Z1f, Z1g, Z1h, Z1i, Z1j, Z1k, Z1l, Z1m, Z1n, Z1o, Z1p, Int.reduceAdd, Int.reduceSub, Int.reduceMul, Int.reduceNeg, Z1q, Z1r, Z1s, Z1t, Z1u, Z1v, Z1w, Z1x, Z1y, Z1z, accs, touch, touchM, okPair, Z24, Z25, Z26, Z27, Z28, Z29, Z2a, Z2b, Z2c, Z2d, Z2e, Z2f, Z2g, Z2h, Z2i, Z2j, Z2k, Z2l, Z2m, Z2n, Z2o, Z2p, Z2q, Z2r, Z2s, Z2t, Z2u, Z2v, Z2w, Z2x, Z2y, Z2z, Z30, Z31, Z32, Z33, Z34, Z35, Z36, Z37, Z38, Z39, Z3a, Z3b, Z3c, Z3d, Z3e, Z3f, Z3g, Z3h, Z3i, Z3j, Z3k, Z3l, Nat.reduceAdd, Nat.reduceLeDiff, Nat.reduceMul, Nat.reduceSub, isV, opA, Z3o, grdO, grd, Z3r, Z3s, Z3t, Z3u, Z3v, Z3w, Z3x, Z3y, Z3z, Z40, Z41, Z42, Z43, Z44, Z45, Z46, Z47, Z48, Z49, Z4a, Z4b, Z4c, Z4d, Z4e, Z4f, Z4g, Z4h, Z4i, Z4j, Z4k, Int.reduceLT, Int.reduceLE, Int.reduceToNat, Z4l, Z4m, Z4n, Z4o, Z4p, Z4q, Z4r, Z4s, Z4t, Z4u, Z4v, Z4w, Z4x, Z4y, Z4z, Z50, Z51, Z52, Z53, Z54, Z55, Z56, Z57, Z58, Z59, Z5a, Z5b, Z5c, Z5d, Z5e, Z5f, Z5g, Z5h, Z5i, Z5j, Z5k, Z5l, Z5m, Z5n, Z5o, Z5p, Z5q, Z5r, Z5s, Z5t, Z5u, builtinP, builtinA, changes, fieldAddrA, resA, tupled, Z61, Z62, Z63, Z64, Z65, Z66, Z67, Z68, Z69, Z2q, Z6a, Z6b, Z64, Z6c, Z2m, Z6d, Z6e, Z6f, Z6g, Z6h, Z6i, Z6j, Z6k, Z6l, Z6m, Z6n, Z6o, Z6p, Z6q, Z6r, Z6s, Z6t, Z6u, Z6v, Z6w, Z6x, Z6y, Z6z, ↓reduceIte, Nat.reduceEqDiff, Nat.reduceLT, Z70, Int.reduceEq, Z3x, Z6s, Z71, Z72, Z73, Z74, Z75, Z76, Z77, Z78, Z79, Z7a, Z7b, Z7c, Z7d, Z7e, Z7f, Z7g, Z7h, sh3, sz3, by3, ag3, kn3, ze3, ld3, li3, sto3, sh9, sz9, by9, ag9, kn9, ze9, ld9, li9, sto9, les9, ixs9, sh25, sz25, by25, ag25, kn25, ze25, ld25, li25, sto25, sh57, sz57, by57, ag57, kn57, el57, ze57, ld57, li57, sto57, ixi57, iai57, le57, lr57, ln57, sh66, sz66, by66, ag66, kn66, ze66, fk66, eq66, ne66, pl66, lda66, sta66, bd66, fi66x0, fi66x1, ha, c1, hw1, hw2, hd1, hd2, hb1, hb2, ld0, ld1, ld2, hsA, hsB]
  refine Wq.up (fun i t => t.nt = 99 ∧ (Mut t.σ A nA ∧ Mut t.σ B nB) ∧ t.t.get 6 = some A ∧ t.t.get 10 = some B ∧ t.t.get 14 = some (.b true) ∧ t.t.get 5 = some (cpS l.length (enV l)) ∧ t.t.get 0 = some x ∧ t.t.get 15 = some (.i .i64 (i : Nat))) nA ?_ ?_
  · refine ⟨rfl, ⟨hMA, hMB⟩, ?_⟩
    simp +contextual (disch := first | omega | exact rfl | decide | exact kpF (by decide) | exact kpT (by decide) | assumption | exact Z2z | exact Z30 | exact Z32 | exact Z31 | exact Z33 | exact Z34 | (simp only [Z6x, Z6y, Z2q, Z2g, Z6d, Z6e] <;> omega) | (simp only [Z6v, Z6w, Z7i, Z7j, Z7k, Z7l, Z2i, Z6k]) | (simp only [Z35, Z36, Z2r, Z2s, Z2t, Z2u, Z2v, Z2w, Z2x, Z2y, Z2z, Z30, Z31, Z32, Z33, Z34, Z7m, Z4a, Z4b] <;> assumption)) only [Z00, Z01, Z02, Z03, Z04, Z05, Z06, Z07, Z08, Z09, Z0a, Z0b, Z0c, Z0d, Z0e, Z0f, Z0g, Z0h, Z0i, Z0j, Z0k, Z0l, Z0m, Z0n, Z0o, SOp, Z0q, Z0r, Z0s, Z0t, Z0u, Z0v, Z0w, Z0x, Z0y, Z0z, Z10, Z11, Z12, GOp, Z14, Z15, Z16, Z17, Z18, Z19, Z1a, Z1b, ↓Z1c, Z1d, Z1e, Z1f, Z1g, Z1h, Z1i, Z1j, Z1k, Z1l, Z1m, Z1n, Z1o, Z1p, Int.reduceAdd, Int.reduceSub, Int.reduceMul, Int.reduceNeg, Z1q, Z1r, Z1s, Z1t, Z1u, Z1v, Z1w, Z1x, Z1y, Z1z, accs, touch, touchM, okPair, Z24, Z25, Z26, Z27, Z28, Z29, Z2a, Z2b, Z2c, Z2d, Z2e, Z2f, Z2g, Z2h, Z2i, Z2j, Z2k, Z2l, Z2m, Z2n, Z2o, Z2p, Z2q, Z2r, Z2s, Z2t, Z2u, Z2v, Z2w, Z2x, Z2y, Z2z, Z30, Z31, Z32, Z33, Z34, Z35, Z36, Z37, Z38, Z39, Z3a, Z3b, Z3c, Z3d, Z3e, Z3f, Z3g, Z3h, Z3i, Z3j, Z3k, Z3l, Nat.reduceAdd, Nat.reduceLeDiff, Nat.reduceMul, Nat.reduceSub, isV, opA, Z3o, grdO, grd, Z3r, Z3s, Z3t, Z3u, Z3v, Z3w, Z3x, Z3y, Z3z, Z40, Z41, Z42, Z43, Z44, Z45, Z46, Z47, Z48, Z49, Z4a, Z4b, Z4c, Z4d, Z4e, Z4f, Z4g, Z4h, Z4i, Z4j, Z4k, Int.reduceLT, Int.reduceLE, Int.reduceToNat, Z4l, Z4m, Z4n, Z4o, Z4p, Z4q, Z4r, Z4s, Z4t, Z4u, Z4v, Z4w, Z4x, Z4y, Z4z, Z50, Z51, Z52, Z53, Z54, Z55, Z56, Z57, Z58, Z59, Z5a, Z5b, Z5c, Z5d, Z5e, Z5f, Z5g, Z5h, Z5i, Z5j, Z5k, Z5l, Z5m, Z5n, Z5o, Z5p, Z5q, Z5r, Z5s, Z5t, Z5u, builtinP, builtinA, changes, fieldAddrA, resA, tupled, Z61, Z62, Z63, Z64, Z65, Z66, Z67, Z68, Z69, Z2q, Z6a, Z6b, Z64, Z6c, Z2m, Z6d, Z6e, Z6f, Z6g, Z6h, Z6i, Z6j, Z6k, Z6l, Z6m, Z6n, Z6o, Z6p, Z6q, Z6r, Z6s, Z6t, Z6u, Z6v, Z6w, Z6x, Z6y, Z6z, ↓reduceIte, Nat.reduceEqDiff, Nat.reduceLT, Z70, Int.reduceEq, Z3x, Z6s, Z71, Z72, Z73, Z74, Z75, Z76, Z77, Z78, Z79, Z7a, Z7b, Z7c, Z7d, Z7e, Z7f, Z7g, Z7h]
  · rintro i ⟨t, nt, τ, c⟩ hi ⟨rfl, ⟨mA, mB⟩, g6, g10, g14, g5, g0, g15⟩
    dsimp only at mA mB
    by_cases hlt : i < nA
    · have hlt' : (i : Int) < (nA : Int) := by omega
      obtain ⟨r, st, cs, v, hAe, h1, h2, hv, hm, hm2⟩ := mA.step hlt
      have a1 : indexAddrA cfg 57 A (.i .i64 (i : Int)) = some (.ptr r st (i * 2)) := by rw [hAe, ixi57 (by omega) (by omega)]; simp
      have hlen : i * 2 + 1 < cs.length := by omega
      simp +contextual (disch := first | omega | exact rfl | decide | exact kpF (by decide) | exact kpT (by decide) | assumption | exact Z2z | exact Z30 | exact Z32 | exact Z31 | exact Z33 | exact Z34 | (simp only [Z6x, Z6y, Z2q, Z2g, Z6d, Z6e] <;> omega) | (simp only [Z6v, Z6w, Z7i, Z7j, Z7k, Z7l, Z2i, Z6k]) | (simp only [Z35, Z36, Z2r, Z2s, Z2t, Z2u, Z2v, Z2w, Z2x, Z2y, Z2z, Z30, Z31, Z32, Z33, Z34, Z7m, Z4a, Z4b] <;> assumption)) only [Z00, Z01, Z02, Z03, Z04, Z05, Z06, Z07, Z08, Z09, Z0a, Z0b, Z0c, Z0d, Z0e, Z0f, Z0g, Z0h, Z0i, Z0j, Z0k, Z0l, Z0m, Z0n, Z0o, SOp, Z0q, Z0r, Z0s, Z0t, Z0u, Z0v, Z0w, Z0x, Z0y, Z0z, Z10, Z11, Z12, GOp, Z14, Z15, Z16, Z17, Z18, Z19, Z1a, Z1b, ↓Z1c, Z1d, Z1e, Z1f, Z1g, Z1h, Z1i, Z1j, Z1k, Z1l, Z1m, Z1n, Z1o, Z1p, Int.reduceAdd, Int.reduceSub, Int.reduceMul, Int.reduceNeg, Z1q, Z1r, Z1s, Z1t, Z1u, Z1v, Z1w, Z1x, Z1y, Z1z, accs, touch, touchM, okPair, Z24, Z25, Z26, Z27, Z28, Z29, Z2a, Z2b, Z2c, Z2d, Z2e, Z2f, Z2g, Z2h, Z2i, Z2j, Z2k, Z2l, Z2m, Z2n, Z2o, Z2p, Z2q, Z2r, Z2s, Z2t, Z2u, Z2v, Z2w, Z2x, Z2y, Z2z, Z30, Z31, Z32, Z33, Z34, Z35, Z36, Z37, Z38, Z39, Z3a, Z3b, Z3c, Z3d, Z3e, Z3f, Z3g, Z3h, Z3i, Z3j, Z3k, Z3l, Nat.reduceAdd, Nat.reduceLeDiff, Nat.reduceMul, Nat.reduceSub, isV, opA, Z3o, grdO, grd, Z3r, Z3s, Z3t, Z3u, Z3v, Z3w, Z3x, Z3y, Z3z, Z40, Z41, Z42, Z43, Z44, Z45, Z46, Z47, Z48, Z49, Z4a, Z4b, Z4c, Z4d, Z4e, Z4f, Z4g, Z4h, Z4i, Z4j, Z4k, Int.reduceLT, Int.reduceLE, Int.reduceToNat, Z4l, Z4m, Z4n, Z4o, Z4p, Z4q, Z4r, Z4s, Z4t, Z4u, Z4v, Z4w, Z4x, Z4y, Z4z, Z50, Z51, Z52, Z53, Z54, Z55, Z56, Z57, Z58, Z59, Z5a, Z5b, Z5c, Z5d, Z5e, Z5f, Z5g, Z5h, Z5i, Z5j, Z5k, Z5l, Z5m, Z5n, Z5o, Z5p, Z5q, Z5r, Z5s, Z5t, Z5u, builtinP, builtinA, changes, fieldAddrA, resA, tupled, Z61, Z62, Z63, Z64, Z65, Z66, Z67, Z68, Z69, Z2q, Z6a, Z6b, Z64, Z6c, Z2m, Z6d, Z6e, Z6f, Z6g, Z6h, Z6i, Z6j, Z6k, Z6l, Z6m, Z6n, Z6o, Z6p, Z6q, Z6r, Z6s, Z6t, Z6u, Z6v, Z6w, Z6x, Z6y, Z6z, ↓reduceIte, Nat.reduceEqDiff, Nat.reduceLT, Z70, Int.reduceEq, Z3x, Z6s, Z71, Z72, Z73, Z74, Z75, Z76, Z77, Z78, Z79, Z7a, Z7b, Z7c, Z7d, Z7e, Z7f, Z7g, Z7h, sh3, sz3, by3, ag3, kn3, ze3, ld3, li3, sto3, sh9, sz9, by9, ag9, kn9, ze9, ld9, li9, sto9, les9, ixs9, sh25, sz25, by25, ag25, kn25, ze25, ld25, li25, sto25, sh57, sz57, by57, ag57, kn57, el57, ze57, ld57, li57, sto57, ixi57, iai57, le57, lr57, ln57, sh66, sz66, by66, ag66, kn66, ze66, fk66, eq66, ne66, pl66, lda66, sta66, bd66, fi66x0, fi66x1, g6, g10, g14, g5, g0, g15, lA, hlt', a1, h1, hv, hlen]
      exact ⟨hlt, ⟨hm _, hm2 B nB _ mB (hap r ⟨st, nA, hAe⟩)⟩, by simp⟩
    · have hi' : i = nA := by omega
      subst hi'
      simp +contextual (disch := first | omega | exact rfl | decide | exact kpF (by decide) | exact kpT (by decide) | assumption | exact Z2z | exact Z30 | exact Z32 | exact Z31 | exact Z33 | exact Z34 | (simp only [Z6x, Z6y, Z2q, Z2g, Z6d, Z6e] <;> omega) | (simp only [Z6v, Z6w, Z7i, Z7j, Z7k, Z7l, Z2i, Z6k]) | (simp only [Z35, Z36, Z2r, Z2s, Z2t, Z2u, Z2v, Z2w, Z2x, Z2y, Z2z, Z30, Z31, Z32, Z33, Z34, Z7m, Z4a, Z4b] <;> assumption)) only [Z00, Z01, Z02, Z03, Z04, Z05, Z06, Z07, Z08, Z09, Z0a, Z0b, Z0c, Z0d, Z0e, Z0f, Z0g, Z0h, Z0i, Z0j, Z0k, Z0l, Z0m, Z0n, Z0o, SOp, Z0q, Z0r, Z0s, Z0t, Z0u, Z0v, Z0w, Z0x, Z0y, Z0z, Z10, Z11, Z12, GOp, Z14, Z15, Z16, Z17, Z18, Z19, Z1a, Z1b, ↓Z1c, Z1d, Z1e, Z1f, Z1g, Z1h, Z1i, Z1j, Z1k, Z1l, Z1m, Z1n, Z1o, Z1p, Int.reduceAdd, Int.reduceSub, Int.reduceMul, Int.reduceNeg, Z1q, Z1r, Z1s, Z1t, Z1u, Z1v, Z1w, Z1x, Z1y, Z1z, accs, touch, touchM, okPair, Z24, Z25, Z26, Z27, Z28, Z29, Z2a, Z2b, Z2c, Z2d, Z2e, Z2f, Z2g, Z2h, Z2i, Z2j, Z2k, Z2l, Z2m, Z2n, Z2o, Z2p, Z2q, Z2r, Z2s, Z2t, Z2u, Z2v, Z2w, Z2x, Z2y, Z2z, Z30, Z31, Z32, Z33, Z34, Z35, Z36, Z37, Z38, Z39, Z3a, Z3b, Z3c, Z3d, Z3e, Z3f, Z3g, Z3h, Z3i, Z3j, Z3k, Z3l, Nat.reduceAdd, Nat.reduceLeDiff, Nat.reduceMul, Nat.reduceSub, isV, opA, Z3o, grdO, grd, Z3r, Z3s, Z3t, Z3u, Z3v, Z3w, Z3x, Z3y, Z3z, Z40, Z41, Z42, Z43, Z44, Z45, Z46, Z47, Z48, Z49, Z4a, Z4b, Z4c, Z4d, Z4e, Z4f, Z4g, Z4h, Z4i, Z4j, Z4k, Int.reduceLT, Int.reduceLE, Int.reduceToNat, Z4l, Z4m, Z4n, Z4o, Z4p, Z4q, Z4r, Z4s, Z4t, Z4u, Z4v, Z4w, Z4x, Z4y, Z4z, Z50, Z51, Z52, Z53, Z54, Z55, Z56, Z57, Z58, Z59, Z5a, Z5b, Z5c, Z5d, Z5e, Z5f, Z5g, Z5h, Z5i, Z5j, Z5k, Z5l, Z5m, Z5n, Z5o, Z5p, Z5q, Z5r, Z5s, Z5t, Z5u, builtinP, builtinA, changes, fieldAddrA, resA, tupled, Z61, Z62, Z63, Z64, Z65, Z66, Z67, Z68, Z69, Z2q, Z6a, Z6b, Z64, Z6c, Z2m, Z6d, Z6e, Z6f, Z6g, Z6h, Z6i, Z6j, Z6k, Z6l, Z6m, Z6n, Z6o, Z6p, Z6q, Z6r, Z6s, Z6t, Z6u, Z6v, Z6w, Z6x, Z6y, Z6z, ↓reduceIte, Nat.reduceEqDiff, Nat.reduceLT, Z70, Int.reduceEq, Z3x, Z6s, Z71, Z72, Z73, Z74, Z75, Z76, Z77, Z78, Z79, Z7a, Z7b, Z7c, Z7d, Z7e, Z7f, Z7g, Z7h, sh3, sz3, by3, ag3, kn3, ze3, ld3, li3, sto3, sh9, sz9, by9, ag9, kn9, ze9, ld9, li9, sto9, les9, ixs9, sh25, sz25, by25, ag25, kn25, ze25, ld25, li25, sto25, sh57, sz57, by57, ag57, kn57, el57, ze57, ld57, li57, sto57, ixi57, iai57, le57, lr57, ln57, sh66, sz66, by66, ag66, kn66, ze66, fk66, eq66, ne66, pl66, lda66, sta66, bd66, fi66x0, fi66x1, g6, g10, g14, g5, g0, g15, lA, Int.lt_irrefl]
      refine Wq.up (fun j t => t.nt = 99 ∧ Mut t.σ B nB ∧ t.t.get 10 = some B ∧ t.t.get 14 = some (.b true) ∧ t.t.get 5 = some (cpS l.length (enV l)) ∧ t.t.get 0 = some x ∧ t.t.get 16 = some (.i .i64 (j : Nat))) nB ?_ ?_
      · refine ⟨rfl, mB, ?_⟩
        simp +contextual (disch := first | omega | exact rfl | decide | exact kpF (by decide) | exact kpT (by decide) | assumption | exact Z2z | exact Z30 | exact Z32 | exact Z31 | exact Z33 | exact Z34 | (simp only [Z6x, Z6y, Z2q, Z2g, Z6d, Z6e] <;> omega) | (simp only [Z6v, Z6w, Z7i, Z7j, Z7k, Z7l, Z2i, Z6k]) | (simp only [Z35, Z36, Z2r, Z2s, Z2t, Z2u, Z2v, Z2w, Z2x, Z2y, Z2z, Z30, Z31, Z32, Z33, Z34, Z7m, Z4a, Z4b] <;> assumption)) only [Z00, Z01, Z02, Z03, Z04, Z05, Z06, Z07, Z08, Z09, Z0a, Z0b, Z0c, Z0d, Z0e, Z0f, Z0g, Z0h, Z0i, Z0j, Z0k, Z0l, Z0m, Z0n, Z0o, SOp, Z0q, Z0r, Z0s, Z0t, Z0u, Z0v, Z0w, Z0x, Z0y, Z0z, Z10, Z11, Z12, GOp, Z14, Z15, Z16, Z17, Z18, Z19, Z1a, Z1b, ↓Z1c, Z1d, Z1e, Z1f, Z1g, Z1h, Z1i, Z1j, Z1k, Z1l, Z1m, Z1n, Z1o, Z1p, Int.reduceAdd, Int.reduceSub, Int.reduceMul, Int.reduceNeg, Z1q, Z1r, Z1s, Z1t, Z1u, Z1v, Z1w, Z1x, Z1y, Z1z, accs, touch, touchM, okPair, Z24, Z25, Z26, Z27, Z28, Z29, Z2a, Z2b, Z2c, Z2d, Z2e, Z2f, Z2g, Z2h, Z2i, Z2j, Z2k, Z2l, Z2m, Z2n, Z2o, Z2p, Z2q, Z2r, Z2s, Z2t, Z2u, Z2v, Z2w, Z2x, Z2y, Z2z, Z30, Z31, Z32, Z33, Z34, Z35, Z36, Z37, Z38, Z39, Z3a, Z3b, Z3c, Z3d, Z3e, Z3f, Z3g, Z3h, Z3i, Z3j, Z3k, Z3l, Nat.reduceAdd, Nat.reduceLeDiff, Nat.reduceMul, Nat.reduceSub, isV, opA, Z3o, grdO, grd, Z3r, Z3s, Z3t, Z3u, Z3v, Z3w, Z3x, Z3y, Z3z, Z40, Z41, Z42, Z43, Z44, Z45, Z46, Z47, Z48, Z49, Z4a, Z4b, Z4c, Z4d, Z4e, Z4f, Z4g, Z4h, Z4i, Z4j, Z4k, Int.reduceLT, Int.reduceLE, Int.reduceToNat, Z4l, Z4m, Z4n, Z4o, Z4p, Z4q, Z4r, Z4s, Z4t, Z4u, Z4v, Z4w, Z4x, Z4y, Z4z, Z50, Z51, Z52, Z53, Z54, Z55, Z56, Z57, Z58, Z59, Z5a, Z5b, Z5c, Z5d, Z5e, Z5f, Z5g, Z5h, Z5i, Z5j, Z5k, Z5l, Z5m, Z5n, Z5o, Z5p, Z5q, Z5r, Z5s, Z5t, Z5u, builtinP, builtinA, changes, fieldAddrA, resA, tupled, Z61, Z62, Z63, Z64, Z65, Z66, Z67, Z68, Z69, Z2q, Z6a, Z6b, Z64, Z6c, Z2m, Z6d, Z6e, Z6f, Z6g, Z6h, Z6i, Z6j, Z6k, Z6l, Z6m, Z6n, Z6o, Z6p, Z6q, Z6r, Z6s, Z6t, Z6u, Z6v, Z6w, Z6x, Z6y, Z6z, ↓reduceIte, Nat.reduceEqDiff, Nat.reduceLT, Z70, Int.reduceEq, Z3x, Z6s, Z71, Z72, Z73, Z74, Z75, Z76, Z77, Z78, Z79, Z7a, Z7b, Z7c, Z7d, Z7e, Z7f, Z7g, Z7h, g10, g14, g5, g0]
      · rintro j ⟨t', nt', τ', c'⟩ hj ⟨rfl, mB', q10, q14, q5, q0, q16⟩
        dsimp only at mB'
        by_cases hlt2 : j < nB
        · have hlt' : (j : Int) < (nB : Int) := by omega
          obtain ⟨r, st, cs, v, hBe, h1, h2, hv, hm, hm2⟩ := mB'.step hlt2
          have a1 : indexAddrA cfg 57 B (.i .i64 (j : Int)) = some (.ptr r st (j * 2)) := by rw [hBe, ixi57 (by omega) (by omega)]; simp
          have hlen : j * 2 + 1 < cs.length := by omega
          simp +contextual (disch := first | omega | exact rfl | decide | exact kpF (by decide) | exact kpT (by decide) | assumption | exact Z2z | exact Z30 | exact Z32 | exact Z31 | exact Z33 | exact Z34 | (simp only [Z6x, Z6y, Z2q, Z2g, Z6d, Z6e] <;> omega) | (simp only [Z6v, Z6w, Z7i, Z7j, Z7k, Z7l, Z2i, Z6k]) | (simp only [Z35, Z36, Z2r, Z2s, Z2t, Z2u, Z2v, Z2w, Z2x, Z2y, Z2z, Z30, Z31, Z32, Z33, Z34, Z7m, Z4a, Z4b] <;> assumption)) only [Z00, Z01, Z02, Z03, Z04, Z05, Z06, Z07, Z08, Z09, Z0a, Z0b, Z0c, Z0d, Z0e, Z0f, Z0g, Z0h, Z0i, Z0j, Z0k, Z0l, Z0m, Z0n, Z0o, SOp, Z0q, Z0r, Z0s, Z0t, Z0u, Z0v, Z0w, Z0x, Z0y, Z0z, Z10, Z11, Z12, GOp, Z14, Z15, Z16, Z17, Z18, Z19, Z1a, Z1b, ↓Z1c, Z1d, Z1e, Z1f, Z1g, Z1h, Z1i, Z1j, Z1k, Z1l, Z1m, Z1n, Z1o, Z1p, Int.reduceAdd, Int.reduceSub, Int.reduceMul, Int.reduceNeg, Z1q, Z1r, Z1s, Z1t, Z1u, Z1v, Z1w, Z1x, Z1y, Z1z, accs, touch, touchM, okPair, Z24, Z25, Z26, Z27, Z28, Z29, Z2a, Z2b, Z2c, Z2d, Z2e, Z2f, Z2g, Z2h, Z2i, Z2j, Z2k, Z2l, Z2m, Z2n, Z2o, Z2p, Z2q, Z2r, Z2s, Z2t, Z2u, Z2v, Z2w, Z2x, Z2y, Z2z, Z30, Z31, Z32, Z33, Z34, Z35, Z36, Z37, Z38, Z39, Z3a, Z3b, Z3c, Z3d, Z3e, Z3f, Z3g, Z3h, Z3i, Z3j, Z3k, Z3l, Nat.reduceAdd, Nat.reduceLeDiff, Nat.reduceMul, Nat.reduceSub, isV, opA, Z3o, grdO, grd, Z3r, Z3s, Z3t, Z3u, Z3v, Z3w, Z3x, Z3y, Z3z, Z40, Z41, Z42, Z43, Z44, Z45, Z46, Z47, Z48, Z49, Z4a, Z4b, Z4c, Z4d, Z4e, Z4f, Z4g, Z4h, Z4i, Z4j, Z4k, Int.reduceLT, Int.reduceLE, Int.reduceToNat, Z4l, Z4m, Z4n, Z4o, Z4p, Z4q, Z4r, Z4s, Z4t, Z4u, Z4v, Z4w, Z4x, Z4y, Z4z, Z50, Z51, Z52, Z53, Z54, Z55, Z56, Z57, Z58, Z59, Z5a, Z5b, Z5c, Z5d, Z5e, Z5f, Z5g, Z5h, Z5i, Z5j, Z5k, Z5l, Z5m, Z5n, Z5o, Z5p, Z5q, Z5r, Z5s, Z5t, Z5u, builtinP, builtinA, changes, fieldAddrA, resA, tupled, Z61, Z62, Z63, Z64, Z65, Z66, Z67, Z68, Z69, Z2q, Z6a, Z6b, Z64, Z6c, Z2m, Z6d, Z6e, Z6f, Z6g, Z6h, Z6i, Z6j, Z6k, Z6l, Z6m, Z6n, Z6o, Z6p, Z6q, Z6r, Z6s, Z6t, Z6u, Z6v, Z6w, Z6x, Z6y, Z6z, ↓reduceIte, Nat.reduceEqDiff, Nat.reduceLT, Z70, Int.reduceEq, Z3x, Z6s, Z71, Z72, Z73, Z74, Z75, Z76, Z77, Z78, Z79, Z7a, Z7b, Z7c, Z7d, Z7e, Z7f, Z7g, Z7h, sh3, sz3, by3, ag3, kn3, ze3, ld3, li3, sto3, sh9, sz9, by9, ag9, kn9, ze9, ld9, li9, sto9, les9, ixs9, sh25, sz25, by25, ag25, kn25, ze25, ld25, li25, sto25, sh57, sz57, by57, ag57, kn57, el57, ze57, ld57, li57, sto57, ixi57, iai57, le57, lr57, ln57, sh66, sz66, by66, ag66, kn66, ze66, fk66, eq66, ne66, pl66, lda66, sta66, bd66, fi66x0, fi66x1, q10, q14, q5, q0, q16, lB, hlt', a1, h1, hv, hlen]
          exact ⟨hlt2, hm _, by simp⟩
        · have hj' : j = nB := by omega
          subst hj'
          simp +contextual (disch := first | omega | exact rfl | decide | exact kpF (by decide) | exact kpT (by decide) | assumption | exact Z2z | exact Z30 | exact Z32 | exact Z31 | exact Z33 | exact Z34 | (simp only [Z6x, Z6y, Z2q, Z2g, Z6d, Z6e] <;> omega) | (simp only [Z6v, Z6w, Z7i, Z7j, Z7k, Z7l, Z2i, Z6k]) | (simp only [Z35, Z36, Z2r, Z2s, Z2t, Z2u, Z2v, Z2w, Z2x, Z2y, Z2z, Z30, Z31, Z32, Z33, Z34, Z7m, Z4a, Z4b] <;> assumption)) only [Z00, Z01, Z02, Z03, Z04, Z05, Z06, Z07, Z08, Z09, Z0a, Z0b, Z0c, Z0d, Z0e, Z0f, Z0g, Z0h, Z0i, Z0j, Z0k, Z0l, Z0m, Z0n, Z0o, SOp, Z0q, Z0r, Z0s, Z0t, Z0u, Z0v, Z0w, Z0x, Z0y, Z0z, Z10, Z11, Z12, GOp, Z14, Z15, Z16, Z17, Z18, Z19, Z1a, Z1b, ↓Z1c, Z1d, Z1e, Z1f, Z1g, Z1h, Z1i, Z1j, Z1k, Z1l, Z1m, Z1n, Z1o, Z1p, Int.reduceAdd, Int.reduceSub, Int.reduceMul, Int.reduceNeg, Z1q, Z1r, Z1s, Z1t, Z1u, Z1v, Z1w, Z1x, Z1y, Z1z, accs, touch, touchM, okPair, Z24, Z25, Z26, Z27, Z28, Z29, Z2a, Z2b, Z2c, Z2d, Z2e, Z2f, Z2g, Z2h, Z2i, Z2j, Z2k, Z2l, Z2m, Z2n, Z2o, Z2p, Z2q, Z2r, Z2s, Z2t, Z2u, Z2v, Z2w, Z2x, Z2y, Z2z, Z30, Z31, Z32, Z33, Z34, Z35, Z36, Z37, Z38, Z39, Z3a, Z3b, Z3c, Z3d, Z3e, Z3f, Z3g, Z3h, Z3i, Z3j, Z3k, Z3l, Nat.reduceAdd, Nat.reduceLeDiff, Nat.reduceMul, Nat.reduceSub, isV, opA, Z3o, grdO, grd, Z3r, Z3s, Z3t, Z3u, Z3v, Z3w, Z3x, Z3y, Z3z, Z40, Z41, Z42, Z43, Z44, Z45, Z46, Z47, Z48, Z49, Z4a, Z4b, Z4c, Z4d, Z4e, Z4f, Z4g, Z4h, Z4i, Z4j, Z4k, Int.reduceLT, Int.reduceLE, Int.reduceToNat, Z4l, Z4m, Z4n, Z4o, Z4p, Z4q, Z4r, Z4s, Z4t, Z4u, Z4v, Z4w, Z4x, Z4y, Z4z, Z50, Z51, Z52, Z53, Z54, Z55, Z56, Z57, Z58, Z59, Z5a, Z5b, Z5c, Z5d, Z5e, Z5f, Z5g, Z5h, Z5i, Z5j, Z5k, Z5l, Z5m, Z5n, Z5o, Z5p, Z5q, Z5r, Z5s, Z5t, Z5u, builtinP, builtinA, changes, fieldAddrA, resA, tupled, Z61, Z62, Z63, Z64, Z65, Z66, Z67, Z68, Z69, Z2q, Z6a, Z6b, Z64, Z6c, Z2m, Z6d, Z6e, Z6f, Z6g, Z6h, Z6i, Z6j, Z6k, Z6l, Z6m, Z6n, Z6o, Z6p, Z6q, Z6r, Z6s, Z6t, Z6u, Z6v, Z6w, Z6x, Z6y, Z6z, ↓reduceIte, Nat.reduceEqDiff, Nat.reduceLT, Z70, Int.reduceEq, Z3x, Z6s, Z71, Z72, Z73, Z74, Z75, Z76, Z77, Z78, Z79, Z7a, Z7b, Z7c, Z7d, Z7e, Z7f, Z7g, Z7h, sh3, sz3, by3, ag3, kn3, ze3, ld3, li3, sto3, sh9, sz9, by9, ag9, kn9, ze9, ld9, li9, sto9, les9, ixs9, sh25, sz25, by25, ag25, kn25, ze25, ld25, li25, sto25, sh57, sz57, by57, ag57, kn57, el57, ze57, ld57, li57, sto57, ixi57, iai57, le57, lr57, ln57, sh66, sz66, by66, ag66, kn66, ze66, fk66, eq66, ne66, pl66, lda66, sta66, bd66, fi66x0, fi66x1, q10, q14, q5, q0, q16, lB, Int.lt_irrefl, hs]
theorem law10_all (xs : List V) (h : WTA cfg.P [57, 66] xs) : runF cfg 10 xs [] [] = some (.b true, []) := by
  obtain ⟨cs, ys, rfl, _, hw, hn⟩ := wta_cons h
  obtain ⟨cs2, ys2, rfl, _, hw2, hn2⟩ := wta_cons hn
  obtain rfl := wta_nil hn2
  obtain ⟨x, l, e, hx⟩ := wt_ents (D := 17) hw
  obtain ⟨en, e2, he, _⟩ := wt_ent (D := 18) hw2
  subst e2
  rw [arg57 x e, argV_agg (show aggT cfg.P 66 = true by kernel_rfl)]
  exact law10 hx en he
end Go.Am.R1
