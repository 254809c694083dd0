/- Parts of one machine and of the walks over it, joined: K0g. -/
import Derived.Test.YtijdfdkngbpodaaJH
import Derived.Test.YtijdfdkngbpodaaAmGuard
import Derived.Test.YtijdfdkngbpodaaAmZ
import Derived.Test.YtijdfdkngbpodaaAmApp
import Derived.Test.YtijdfdkngbpodaaAmOwn
/- Slices that stand by themselves. -/
namespace Go.Am.R1
open Go.Proofs
set_option maxRecDepth 100000
set_option linter.unusedSimpArgs false
set_option linter.unusedVariables false
variable {σ : List O} {p : List Nat}
theorem copyv_ok (l : List Int) (h0 : l ≠ []) (hn : l.length ≤ 140737488355328) {x : V} (hx : View σ x (ints .u8 l)) :
    runF cfg 19 [x] σ p = some (.sl σ.length (1 :: p) 0 l.length 1 none, σ ++ [.cells (1 :: p) (ints .u8 l)]) := by
  refine run_done rfl rfl Try.func19 rfl ?_
  have hl : l.length ≠ 0 := fun e => h0 (List.eq_nil_of_length_eq_zero e)
  have hx' : ∀ st, appendA cfg 22 σ st (.arr [] 0 true) x = some (.sl σ.length st 0 l.length 1 none, σ ++ [.cells st (ints .u8 l)]) := by
    intro st
    have he := hx.elems
    rw [ints_len] at he
    simp only [appendA, el22, Option.bind_some, he, by5, roomy, take?]
    rw [if_neg hl]
    simp; omega
  simp +contextual (disch := first | omega | exact rfl | decide | exact kpF (by decide) | exact kpT (by decide) | assumption | exact Z2z | exact Z30 | exact Z32 | exact Z31 | exact Z33 | exact Z34 | (simp only [Z6x, Z6y, Z2q, Z2g, Z6d, Z6e] <;> omega) | (simp only [Z6v, Z6w, Z7i, Z7j, Z7k, Z7l, Z2i, Z6k]) | (simp only [Z35, Z36, Z2r, Z2s, Z2t, Z2u, Z2v, Z2w, Z2x, Z2y, Z2z, Z30, Z31, Z32, Z33, Z34, Z7m, Z4a, Z4b] <;> assumption)) only [Try.f19, Z00, Z01, Z02, Z03, Z04, Z05, Z06, Z07, Z08, Z09, Z0a, Z0b, Z0c, Z0d, Z0e, Z0f, Z0g, Z0h, Z0i, Z0j, Z0k, Z0l, Z0m, Z0n, Z0o, SOp, Z0q, Z0r, Z0s, Z0t, Z0u, Z0v, Z0w, Z0x, Z0y, Z0z, Z10, Z11, Z12, GOp, Z14, Z15, Z16, Z17, Z18, Z19, Z1a, Z1b, ↓Z1c, Z1d, Z1e, Z1f, Z1g, Z1h, Z1i, Z1j, Z1k, Z1l, Z1m, Z1n, Z1o, Z1p, Int.reduceAdd, Int.reduceSub, Int.reduceMul, Int.reduceNeg, Z1q, Z1r, Z1s, Z1t, Z1u, Z1v, Z1w, Z1x, Z1y, Z1z, accs, touch, touchM, okPair, Z24, Z25, Z26, Z27, Z28, Z29, Z2a, Z2b, Z2c, Z2d, Z2e, Z2f, Z2g, Z2h, Z2i, Z2j, Z2k, Z2l, Z2m, Z2n, Z2o, Z2p, Z2q, Z2r, Z2s, Z2t, Z2u, Z2v, Z2w, Z2x, Z2y, Z2z, Z30, Z31, Z32, Z33, Z34, Z35, Z36, Z37, Z38, Z39, Z3a, Z3b, Z3c, Z3d, Z3e, Z3f, Z3g, Z3h, Z3i, Z3j, Z3k, Z3l, Nat.reduceAdd, Nat.reduceLeDiff, Nat.reduceMul, Nat.reduceSub, isV, opA, Z3o, grdO, grd, Z3r, Z3s, Z3t, Z3u, Z3v, Z3w, Z3x, Z3y, Z3z, Z40, Z41, Z42, Z43, Z44, Z45, Z46, Z47, Z48, Z49, Z4a, Z4b, Z4c, Z4d, Z4e, Z4f, Z4g, Z4h, Z4i, Z4j, Z4k, Int.reduceLT, Int.reduceLE, Int.reduceToNat, Z4l, Z4m, Z4n, Z4o, Z4p, Z4q, Z4r, Z4s, Z4t, Z4u, Z4v, Z4w, Z4x, Z4y, Z4z, Z50, Z51, Z52, Z53, Z54, Z55, Z56, Z57, Z58, Z59, Z5a, Z5b, Z5c, Z5d, Z5e, Z5f, Z5g, Z5h, Z5i, Z5j, Z5k, Z5l, Z5m, Z5n, Z5o, Z5p, Z5q, Z5r, Z5s, Z5t, Z5u, builtinP, builtinA, changes, fieldAddrA, resA, tupled, Z61, Z62, Z63, Z64, Z65, Z66, Z67, Z68, Z69, Z2q, Z6a, Z6b, Z64, Z6c, Z2m, Z6d, Z6e, Z6f, Z6g, Z6h, Z6i, Z6j, Z6k, Z6l, Z6m, Z6n, Z6o, Z6p, Z6q, Z6r, Z6s, Z6t, Z6u, Z6v, Z6w, Z6x, Z6y, Z6z, ↓reduceIte, Nat.reduceEqDiff, Nat.reduceLT, Z70, Int.reduceEq, Z3x, Z6s, Z71, Z72, Z73, Z74, Z75, Z76, Z77, Z78, Z79, Z7a, Z7b, Z7c, Z7d, Z7e, Z7f, Z7g, Z7h, buildSliceA, el22, partsAt, DoneQ_keep, sh22, kn22, hx']
theorem copyv_nil {x : V} (hx : View σ x (ints .u8 [])) : runF cfg 19 [x] σ p = some (.arr [] 0 true, σ) := by
  refine run_done rfl rfl Try.func19 rfl ?_
  have hx' : ∀ st, appendA cfg 22 σ st (.arr [] 0 true) x = some (.arr [] 0 true, σ) := by
    intro st
    have he := hx.elems
    rw [ints_len] at he
    simp only [appendA, el22, Option.bind_some, he, by5, roomy, take?, List.length_nil, if_true]
  simp +contextual (disch := first | omega | exact rfl | decide | exact kpF (by decide) | exact kpT (by decide) | assumption | exact Z2z | exact Z30 | exact Z32 | exact Z31 | exact Z33 | exact Z34 | (simp only [Z6x, Z6y, Z2q, Z2g, Z6d, Z6e] <;> omega) | (simp only [Z6v, Z6w, Z7i, Z7j, Z7k, Z7l, Z2i, Z6k]) | (simp only [Z35, Z36, Z2r, Z2s, Z2t, Z2u, Z2v, Z2w, Z2x, Z2y, Z2z, Z30, Z31, Z32, Z33, Z34, Z7m, Z4a, Z4b] <;> assumption)) only [Try.f19, Z00, Z01, Z02, Z03, Z04, Z05, Z06, Z07, Z08, Z09, Z0a, Z0b, Z0c, Z0d, Z0e, Z0f, Z0g, Z0h, Z0i, Z0j, Z0k, Z0l, Z0m, Z0n, Z0o, SOp, Z0q, Z0r, Z0s, Z0t, Z0u, Z0v, Z0w, Z0x, Z0y, Z0z, Z10, Z11, Z12, GOp, Z14, Z15, Z16, Z17, Z18, Z19, Z1a, Z1b, ↓Z1c, Z1d, Z1e, Z1f, Z1g, Z1h, Z1i, Z1j, Z1k, Z1l, Z1m, Z1n, Z1o, Z1p, Int.reduceAdd, Int.reduceSub, Int.reduceMul, Int.reduceNeg, Z1q, Z1r, Z1s, Z1t, Z1u, Z1v, Z1w, Z1x, Z1y, Z1z, accs, touch, touchM, okPair, Z24, Z25, Z26, Z27, Z28, Z29, Z2a, Z2b, Z2c, Z2d, Z2e, Z2f, Z2g, Z2h, Z2i, Z2j, Z2k, Z2l, Z2m, Z2n, Z2o, Z2p, Z2q, Z2r, Z2s, Z2t, Z2u, Z2v, Z2w, Z2x, Z2y, Z2z, Z30, Z31, Z32, Z33, Z34, Z35, Z36, Z37, Z38, Z39, Z3a, Z3b, Z3c, Z3d, Z3e, Z3f, Z3g, Z3h, Z3i, Z3j, Z3k, Z3l, Nat.reduceAdd, Nat.reduceLeDiff, Nat.reduceMul, Nat.reduceSub, isV, opA, Z3o, grdO, grd, Z3r, Z3s, Z3t, Z3u, Z3v, Z3w, Z3x, Z3y, Z3z, Z40, Z41, Z42, Z43, Z44, Z45, Z46, Z47, Z48, Z49, Z4a, Z4b, Z4c, Z4d, Z4e, Z4f, Z4g, Z4h, Z4i, Z4j, Z4k, Int.reduceLT, Int.reduceLE, Int.reduceToNat, Z4l, Z4m, Z4n, Z4o, Z4p, Z4q, Z4r, Z4s, Z4t, Z4u, Z4v, Z4w, Z4x, Z4y, Z4z, Z50, Z51, Z52, Z53, Z54, Z55, Z56, Z57, Z58, Z59, Z5a, Z5b, Z5c, Z5d, Z5e, Z5f, Z5g, Z5h, Z5i, Z5j, Z5k, Z5l, Z5m, Z5n, Z5o, Z5p, Z5q, Z5r, Z5s, Z5t, Z5u, builtinP, builtinA, changes, fieldAddrA, resA, tupled, Z61, Z62, Z63, Z64, Z65, Z66, Z67, Z68, Z69, Z2q, Z6a, Z6b, Z64, Z6c, Z2m, Z6d, Z6e, Z6f, Z6g, Z6h, Z6i, Z6j, Z6k, Z6l, Z6m, Z6n, Z6o, Z6p, Z6q, Z6r, Z6s, Z6t, Z6u, Z6v, Z6w, Z6x, Z6y, Z6z, ↓reduceIte, Nat.reduceEqDiff, Nat.reduceLT, Z70, Int.reduceEq, Z3x, Z6s, Z71, Z72, Z73, Z74, Z75, Z76, Z77, Z78, Z79, Z7a, Z7b, Z7c, Z7d, Z7e, Z7f, Z7g, Z7h, buildSliceA, el22, partsAt, DoneQ_keep, sh22, kn22, hx']
theorem samev_ok (l : List Int) {x y : V} (hx : View σ x (ints .u8 l)) (hy : View σ y (ints .u8 l)) : runF cfg 24 [x, y] σ p = some (.b true, σ) := by
  refine run_done rfl rfl Try.func24 rfl ?_
  simp +contextual (disch := first | omega | exact rfl | decide | exact kpF (by decide) | exact kpT (by decide) | assumption | exact Z2z | exact Z30 | exact Z32 | exact Z31 | exact Z33 | exact Z34 | (simp only [Z6x, Z6y, Z2q, Z2g, Z6d, Z6e] <;> omega) | (simp only [Z6v, Z6w, Z7i, Z7j, Z7k, Z7l, Z2i, Z6k]) | (simp only [Z35, Z36, Z2r, Z2s, Z2t, Z2u, Z2v, Z2w, Z2x, Z2y, Z2z, Z30, Z31, Z32, Z33, Z34, Z7m, Z4a, Z4b] <;> assumption)) only [Try.f24, Z00, Z01, Z02, Z03, Z04, Z05, Z06, Z07, Z08, Z09, Z0a, Z0b, Z0c, Z0d, Z0e, Z0f, Z0g, Z0h, Z0i, Z0j, Z0k, Z0l, Z0m, Z0n, Z0o, SOp, Z0q, Z0r, Z0s, Z0t, Z0u, Z0v, Z0w, Z0x, Z0y, Z0z, Z10, Z11, Z12, GOp, Z14, Z15, Z16, Z17, Z18, Z19, Z1a, Z1b, ↓Z1c, Z1d, Z1e, Z1f, Z1g, Z1h, Z1i, Z1j, Z1k, Z1l, Z1m, Z1n, Z1o, Z1p, Int.reduceAdd, Int.reduceSub, Int.reduceMul, Int.reduceNeg, Z1q, Z1r, Z1s, Z1t, Z1u, Z1v, Z1w, Z1x, Z1y, Z1z, accs, touch, touchM, okPair, Z24, Z25, Z26, Z27, Z28, Z29, Z2a, Z2b, Z2c, Z2d, Z2e, Z2f, Z2g, Z2h, Z2i, Z2j, Z2k, Z2l, Z2m, Z2n, Z2o, Z2p, Z2q, Z2r, Z2s, Z2t, Z2u, Z2v, Z2w, Z2x, Z2y, Z2z, Z30, Z31, Z32, Z33, Z34, Z35, Z36, Z37, Z38, Z39, Z3a, Z3b, Z3c, Z3d, Z3e, Z3f, Z3g, Z3h, Z3i, Z3j, Z3k, Z3l, Nat.reduceAdd, Nat.reduceLeDiff, Nat.reduceMul, Nat.reduceSub, isV, opA, Z3o, grdO, grd, Z3r, Z3s, Z3t, Z3u, Z3v, Z3w, Z3x, Z3y, Z3z, Z40, Z41, Z42, Z43, Z44, Z45, Z46, Z47, Z48, Z49, Z4a, Z4b, Z4c, Z4d, Z4e, Z4f, Z4g, Z4h, Z4i, Z4j, Z4k, Int.reduceLT, Int.reduceLE, Int.reduceToNat, Z4l, Z4m, Z4n, Z4o, Z4p, Z4q, Z4r, Z4s, Z4t, Z4u, Z4v, Z4w, Z4x, Z4y, Z4z, Z50, Z51, Z52, Z53, Z54, Z55, Z56, Z57, Z58, Z59, Z5a, Z5b, Z5c, Z5d, Z5e, Z5f, Z5g, Z5h, Z5i, Z5j, Z5k, Z5l, Z5m, Z5n, Z5o, Z5p, Z5q, Z5r, Z5s, Z5t, Z5u, builtinP, builtinA, changes, fieldAddrA, resA, tupled, Z61, Z62, Z63, Z64, Z65, Z66, Z67, Z68, Z69, Z2q, Z6a, Z6b, Z64, Z6c, Z2m, Z6d, Z6e, Z6f, Z6g, Z6h, Z6i, Z6j, Z6k, Z6l, Z6m, Z6n, Z6o, Z6p, Z6q, Z6r, Z6s, Z6t, Z6u, Z6v, Z6w, Z6x, Z6y, Z6z, ↓reduceIte, Nat.reduceEqDiff, Nat.reduceLT, Z70, Int.reduceEq, Z3x, Z6s, Z71, Z72, Z73, Z74, Z75, Z76, Z77, Z78, Z79, Z7a, Z7b, Z7c, Z7d, Z7e, Z7f, Z7g, Z7h, sh9, hx.str sh22 sh5 sh9, hy.str sh22 sh5 sh9]
/-- A slice that stays, of n elements of z cells. -/
def SV (z : Nat) (x : V) (n : Nat) (els : List V) : Prop := els.length = n * z ∧ (x = .nils ∧ n = 0 ∨ ∃ cl, x = .arr els n cl)
def cpS (n : Nat) (els : List V) : V := if n = 0 then .arr [] 0 true else .arr els n false
theorem cpS_0 {n : Nat} {els : List V} (h : n = 0) : cpS n els = .arr [] 0 true := if_pos h
theorem SV.one {z n : Nat} {x : V} {els : List V} (h : SV z x n els) : x.one = true := by
  obtain ⟨_, ⟨rfl, _⟩ | ⟨cl, rfl⟩⟩ := h <;> rfl
theorem SV.len {C : Cfg} {t e : TypeId} {z n : Nat} {x : V} {els : List V} (h : SV z x n els) (hs : C.shape t = .slice e) (σ : List O) : lenA C t σ x = some (.i .i64 n) := by
  obtain ⟨_, ⟨rfl, rfl⟩ | ⟨cl, rfl⟩⟩ := h
  · exact len_nils hs
  · exact len_arr hs
theorem SV.cp {z n : Nat} {x : V} {els : List V} (h : SV z x n els) : SV z (cpS n els) n els := by
  refine ⟨h.1, .inr ?_⟩
  unfold cpS
  split
  · rename_i h0
    subst h0
    exact ⟨true, by rw [List.eq_nil_of_length_eq_zero (l := els) (by simpa using h.1)]⟩
  · exact ⟨false, rfl⟩
theorem SV.at {C : Cfg} {t e : TypeId} {z n : Nat} {x : V} {els : List V} (h : SV (z + 1) x n els) (hs : C.shape t = .slice e) (hz : C.size e = some (z + 1)) {i : Nat} (hi : i < n) : indexAddrA C t x (.i .i64 i) = some (.iptr (els.drop (i * (z + 1)))) := by
  obtain ⟨_, ⟨rfl, rfl⟩ | ⟨cl, rfl⟩⟩ := h
  · omega
  · have := iai (C := C) (t := t) (cs := els) (n := n) (cl := cl) (k := .i64) (i := (i : Int)) hs hz (by omega) (by omega)
    simpa using this
theorem load_iagg {C : Cfg} {t : TypeId} {n : Nat} {cs : List V} (ha : C.isAgg t = some true) (hz : C.size t = some n) : loadA C t σ (.iptr cs) = (take? cs 0 n).map V.agg := by
  simp [loadA, cellsAt, ha, hz]
theorem one_cpS {n : Nat} {els : List V} : (cpS n els).one = true := by unfold cpS; split <;> rfl
theorem elems_SV {z n : Nat} {x : V} {els : List V} (h : SV z x n els) : elems z σ x = some (n, els) := by
  obtain ⟨h1, ⟨rfl, rfl⟩ | ⟨cl, rfl⟩⟩ := h
  · rw [List.eq_nil_of_length_eq_zero (l := els) (by simpa using h1)]; rfl
  · have : List.take (n * z) els = els := by rw [← h1, List.take_length]
    simp [elems, take?, h1, this]
theorem app_none {C : Cfg} {t e : TypeId} {z : Nat} {zv x : V} {st' : List Nat} (he : C.elem t = some (e, z, zv)) (hx : elems z σ x = some (0, [])) : appendA C t σ st' (.arr [] 0 true) x = some (.arr [] 0 true, σ) := by
  simp [appendA, he, hx]
theorem frz1_sl {base d r n z : Nat} {st : List Nat} {els : List V} {τ : List O} (hr : base ≤ r) (h : rowAt τ r st = some els) (hl : els.length = n * z) (h0 : 0 < n) (hf : ∀ c ∈ els, c.fk ≠ none) : freeze1 base τ (d + 1) (.sl r st 0 n z none) = cpS n els := by
  have hm : els.map (freeze1 base τ d) = els := by
    have : els.map (freeze1 base τ d) = els.map id := List.map_congr_left fun c hc => by
      have := hf c hc
      cases c <;> simp [V.fk] at this <;> cases d <;> rfl
    rw [this, List.map_id]
  unfold cpS
  simp only [freeze1, if_pos hr, h]
  rw [if_neg (by omega), if_neg (by omega), List.drop_zero, ← hl, List.take_length, hm]; rfl
theorem app_some {C : Cfg} {t e : TypeId} {z n B : Nat} {zv x : V} {els : List V} {st' : List Nat} (he : C.elem t = some (e, z, zv)) (hb : C.bytes e = B) (hx : SV z x n els) (hr : n * B ≤ 140737488355328) (h0 : n ≠ 0) : appendA C t σ st' (.arr [] 0 true) x = some (.sl σ.length st' 0 n z none, σ ++ [.cells st' els]) := by
  obtain ⟨m, rfl⟩ : ∃ m, n = m + 1 := ⟨n - 1, by omega⟩
  exact app_empty he hb (elems_SV hx) hr
theorem SV.view {x : V} {cs : List V} {n : Nat} (h : SV 1 x n cs) (σ : List O) : View σ x cs := by
  obtain ⟨h1, ⟨rfl, rfl⟩ | ⟨cl, rfl⟩⟩ := h
  · exact List.eq_nil_of_length_eq_zero (by simpa using h1)
  · rw [Nat.mul_one] at h1; subst h1; exact View.arr σ cs cl
theorem ints_fk {k : IntKind} {l : List Int} : ∀ c ∈ ints k l, c.fk ≠ none := by
  intro c hc
  obtain ⟨x, _, rfl⟩ := List.mem_map.1 hc
  simp [fk_i]
theorem frz1_cpS {base d n : Nat} {τ : List O} {els : List V} : freeze1 base τ d (cpS n els) = cpS n els := by
  unfold cpS; split <;> exact frz1_arr
theorem take_el {z n i : Nat} {els : List V} (hl : els.length = n * z) (hi : i < n) : take? (els.drop (i * z)) 0 z = some ((els.drop (i * z)).take z) := by
  have : i * z + z ≤ n * z := by rw [← Nat.succ_mul]; exact Nat.mul_le_mul_right _ hi
  simp only [take?, List.drop_zero, Nat.zero_add, List.length_drop]
  rw [if_pos (by omega)]
theorem callA_fnC {C : Cfg} {f : Nat} {a args b : List V} {σ : List O} {c : Nat} : callA (runF C) p (.fn f a b) args σ c = runF C f (a ++ args ++ b) σ (c :: p) := rfl
theorem SCall_fnC {C : Cfg} {s : St} {K : St → Prop} {d : Option Nat} {f : Nat} {v : V} {args : List V} : SCall C p d (.fn f [] [v]) args s K = OptQ (runF C f (args ++ [v]) s.σ (s.c :: p)) fun r => K ((⟨s.t, s.nt, r.2, s.c + 1⟩ : St).put d r.1) := rfl
theorem all_one_fk {us : List V} (h : ∀ u ∈ us, u.fk ≠ none) : us.all V.one = true := by
  rw [List.all_eq_true]
  intro u hu
  have := h u hu
  cases u <;> simp [V.fk] at this <;> rfl
end Go.Am.R1
