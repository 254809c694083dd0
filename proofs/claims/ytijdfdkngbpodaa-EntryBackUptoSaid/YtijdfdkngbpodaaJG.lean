/- Parts of one machine and of the walks over it, joined: K79 K80. -/
import Derived.Test.YtijdfdkngbpodaaJF
import Derived.Test.YtijdfdkngbpodaaJD
/- Entries: what is added is found, and taken away it is as before. -/
namespace Go.Am.R1
open Go.Proofs
set_option maxRecDepth 100000
set_option linter.unusedSimpArgs false
set_option linter.unusedVariables false
theorem ltB_total : ∀ {a b : List UInt8}, ltB a b = false → a ≠ b → ltB b a = true
  | [], [], _, h => absurd rfl h
  | [], _ :: _, h, _ => by simp [ltB, Op.bytesLess] at h
  | _ :: _, [], _, _ => by simp [ltB, Op.bytesLess]
  | a :: x, b :: y, h, hne => by
    have ih := @ltB_total x y
    unfold ltB at ih h ⊢
    rw [Op.bytesLess, Bool.or_eq_false_iff, Bool.and_eq_false_iff, decide_eq_false_iff_not, beq_eq_false_iff_ne] at h
    rw [Op.bytesLess, Bool.or_eq_true, Bool.and_eq_true, decide_eq_true_eq, beq_iff_eq]
    obtain ⟨h1, h2⟩ := h
    by_cases he : a = b
    · subst he
      right
      refine ⟨rfl, ih ?_ (fun e => hne (by rw [e]))⟩
      rcases h2 with h2 | h2
      · exact absurd rfl h2
      · exact h2
    · left
      rw [UInt8.lt_iff_toNat_lt] at h1 ⊢
      have : a.toNat ≠ b.toNat := fun e => he (UInt8.toNat_inj.1 e)
      omega
theorem right_iff (l : List Ent) : rightE l = true ↔ l.length ≤ 40 ∧ (∀ e ∈ l, validL e.1 = true ∧ 1 ≤ e.2 ∧ e.2 ≤ 64) ∧ l.Pairwise fun a b => ltB a.1 b.1 = true := by
  constructor
  · intro h
    have hlt := rightE_lt h
    unfold rightE at h
    simp only [Bool.and_eq_true, decide_eq_true_eq, List.all_eq_true, List.mem_range] at h
    refine ⟨h.1, fun e he => ?_, ?_⟩
    · obtain ⟨j, hj, rfl⟩ := List.mem_iff_getElem.1 he
      have := h.2 j hj
      unfold okE at this
      rw [List.getD_eq_getElem?_getD, List.getElem?_eq_getElem hj] at this
      simp only [Option.getD_some, Bool.and_eq_true, decide_eq_true_eq] at this
      exact ⟨this.1.1, this.1.2.1, this.1.2.2⟩
    · rw [List.pairwise_iff_getElem]
      exact fun i j hi hj hij => hlt i j hij hj
  · rintro ⟨h1, h2, h3⟩
    rw [List.pairwise_iff_getElem] at h3
    unfold rightE
    simp only [Bool.and_eq_true, decide_eq_true_eq, List.all_eq_true, List.mem_range]
    refine ⟨h1, fun j hj => ?_⟩
    obtain ⟨a1, a2, a3⟩ := h2 _ (List.getElem_mem hj)
    unfold okE
    rw [List.getD_eq_getElem?_getD, List.getElem?_eq_getElem hj]
    simp only [Option.getD_some, Bool.and_eq_true, decide_eq_true_eq, Bool.or_eq_true]
    refine ⟨⟨a1, a2, a3⟩, ?_⟩
    cases j with
    | zero => exact .inl rfl
    | succ j =>
      right
      rw [Nat.add_sub_cancel, List.getD_eq_getElem?_getD, List.getElem?_eq_getElem (show j < l.length by omega)]
      exact h3 j (j + 1) (by omega) hj (by omega)
theorem there_no {l : List Ent} {nm : List UInt8} (h : thereE l nm = false) : ∀ a ∈ l, a.1 ≠ nm := by
  intro a ha e
  have : thereE l nm = true := by unfold thereE; rw [List.any_eq_true]; exact ⟨a, ha, decide_eq_true e⟩
  rw [h] at this; cases this
theorem ins_right {l : List Ent} {e : Ent} (hr : rightE l = true) (hv : validL e.1 = true) (h1 : 1 ≤ e.2) (h2 : e.2 ≤ 64) (ht : thereE l e.1 = false) (hl : l.length ≠ 40) : rightE (insE l e) = true := by
  have hP := place_kE (nm := e.1) hr
  have hno := there_no ht
  rw [right_iff] at hr ⊢
  obtain ⟨g1, g2, g3⟩ := hr
  refine ⟨by rw [insE_len]; omega, fun a ha => ?_, ?_⟩
  · unfold insE at ha
    rcases List.mem_append.1 ha with ha | ha
    · exact g2 a (List.mem_of_mem_take ha)
    · rcases List.mem_cons.1 ha with rfl | ha
      · exact ⟨hv, h1, h2⟩
      · exact g2 a (List.mem_of_mem_drop ha)
  · unfold insE
    have g3' := g3
    rw [← List.take_append_drop (kE l e.1) l, List.pairwise_append] at g3'
    obtain ⟨p1, p2, p3⟩ := g3'
    rw [List.pairwise_append]
    refine ⟨p1, List.pairwise_cons.2 ⟨fun b hb => ?_, p2⟩, fun a ha b hb => ?_⟩
    · obtain ⟨j, hj, rfl⟩ := List.mem_iff_getElem.1 hb
      rw [List.length_drop] at hj
      rw [List.getElem_drop]
      exact ltB_total (hP.2.2 _ (by omega) (by omega)) (hno _ (List.getElem_mem _))
    · rcases List.mem_cons.1 hb with rfl | hb
      · obtain ⟨j, hj, rfl⟩ := List.mem_iff_getElem.1 ha
        rw [List.length_take] at hj
        rw [List.getElem_take]
        exact hP.2.1 j (by omega) (by omega)
      · exact p3 a ha b hb
theorem kE_ins {l : List Ent} {e : Ent} (hr : rightE l = true) : kE (insE l e) e.1 = kE l e.1 := by
  have hP := place_kE (nm := e.1) hr
  have hk := kE_le l e.1
  have h1 : (l.take (kE l e.1)).length = kE l e.1 := by rw [List.length_take]; omega
  have hall : ∀ a ∈ l.take (kE l e.1), ltB a.1 e.1 = true := fun a ha => by
    obtain ⟨j, hj, rfl⟩ := List.mem_iff_getElem.1 ha
    rw [h1] at hj
    rw [List.getElem_take]
    exact hP.2.1 j (by omega) hj
  unfold insE
  rw [kE, List.takeWhile_append_of_pos hall, List.takeWhile_cons, ltB_irr]
  simp [h1]
theorem there_ins (l : List Ent) (e : Ent) : thereE (insE l e) e.1 = true := by
  unfold thereE insE
  rw [List.any_eq_true]
  exact ⟨e, by simp, by simp⟩
theorem drop_ins {l : List Ent} {e : Ent} (hr : rightE l = true) : dropE (insE l e) e.1 = l := by
  have hk := kE_le l e.1
  have h1 : (l.take (kE l e.1)).length = kE l e.1 := by rw [List.length_take]; omega
  unfold dropE
  rw [kE_ins hr]
  unfold insE
  rw [List.take_left' h1, List.drop_append, h1, List.drop_of_length_le (by omega), List.nil_append, show kE l e.1 + 1 - kE l e.1 = 1 by omega, List.drop_succ_cons, List.drop_zero, List.take_append_drop]
theorem find_ins {l : List Ent} {e : Ent} (ht : thereE l e.1 = false) : findE (insE l e) e.1 = [.i .i64 e.2, .i .i64 0] := by
  have hno := there_no ht
  have h1 : (l.take (kE l e.1)).find? (fun a => decide (a.1 = e.1)) = none := by
    rw [List.find?_eq_none]
    intro a ha
    simpa using hno a (List.mem_of_mem_take ha)
  unfold findE insE
  rw [List.find?_append, h1, List.find?_cons]
  simp
/-- What is put is taken as it was. -/
theorem take_put {l : List Ent} (hr : rightE l = true) : ∃ bs, putE l = byN bs ∧ takeE bs = [mkS 2 l.length (enV l), .i .i64 0] ∧ bs.length ≤ 40 * 26 := by
  obtain ⟨h40, hn⟩ := rightE_names hr
  have hb : ∀ e ∈ l, e.1.length ≤ 255 ∧ 0 ≤ e.2 ∧ e.2 ≤ 255 := fun e he => by have := hn e he; omega
  have hlen : ∀ (l : List Ent), (∀ e ∈ l, e.1.length ≤ 24) → l.length ≤ (putU l).length ∧ (putU l).length ≤ l.length * 26 := by
    intro l
    induction l with
    | nil => intro _; simp [putU]
    | cons e l ih =>
      intro h
      have h1 := h e List.mem_cons_self
      have h2 := ih fun a ha => h a (List.mem_cons_of_mem _ ha)
      rw [putU_cons]
      simp only [List.length_cons, List.length_append]
      omega
  obtain ⟨l1, l2⟩ := hlen l fun e he => (hn e he).1
  refine ⟨putU l, putE_U l hb, ?_, by omega⟩
  unfold takeE
  rw [take_putU l _ l1 hb]
  simp [hr]
/-- What is taken is put as these bytes. -/
theorem put_take {bs : List UInt8} {l : List Ent} (hr : rightE l = true) (h : takeF bs.length bs = some l) : putE l = byN bs := by
  obtain ⟨h40, hn⟩ := rightE_names hr
  rw [putE_U l fun e he => by have := hn e he; omega, putU_take _ _ _ h]
end Go.Am.R1

/- The law EntryBack, of what is within a bound. -/
namespace Go.Am.R1
open Go.Proofs
set_option maxRecDepth 100000
set_option linter.unusedSimpArgs false
set_option linter.unusedVariables false
theorem withL_cases (l : List Ent) (e : Ent) : (∃ c, withL l e = (none, c) ∧ c ≠ 0) ∨ (withL l e = (some (insE l e), 0) ∧ rightE l = true ∧ rightE (insE l e) = true ∧ thereE l e.1 = false) := by
  unfold withL
  split
  · exact .inl ⟨1, rfl, by omega⟩
  · split
    · exact .inl ⟨12, rfl, by omega⟩
    · split
      · exact .inl ⟨1, rfl, by omega⟩
      · split
        · exact .inl ⟨5, rfl, by omega⟩
        · split
          · exact .inl ⟨14, rfl, by omega⟩
          · rename_i q1 q2 q3 q4 q5
            have hr : rightE l = true := by simpa using q1
            have hv : validL e.1 = true := by simpa using q2
            have hn : (decide (1 ≤ e.2) && decide (e.2 ≤ 64)) = true := by simpa using q3
            have ht : thereE l e.1 = false := by simpa using q4
            simp only [Bool.and_eq_true, decide_eq_true_eq] at hn
            exact .inr ⟨rfl, hr, ins_right hr hv hn.1 hn.2 ht q5, ht⟩
theorem law16 {x z : V} {l : List Ent} {bs : List UInt8} (h : EnOk x l) (e : Ent) (he : e.1.length ≤ 140737488351232) (hv : ∀ τ, View τ z (ints .u8 (byN bs))) (hb : bs.length ≤ 5000000000000) : runF cfg 16 [x, .agg [.s (S e.1), .i .i64 e.2], z] [] [] = some (.b true, []) := by
  refine run_done rfl rfl Try.func16 rfl ?_
  have ha := alive15_1 (.s (S e.1)) (.i .i64 e.2)
  have o1 := h.s.one
  have oz := view_one (hv [])
  have hb0 : rowAt [O.cells [0] [V.s (S e.1), V.i .i64 e.2]] 0 [0] = some [V.s (S e.1), V.i .i64 e.2] := by rw [rowAt_cons0]
  have ld0 : loadA cfg 66 [O.cells [0] [V.s (S e.1), V.i .i64 e.2]] (.ptr 0 [0] 0) = some (.agg [V.s (S e.1), V.i .i64 e.2]) := by
    rw [load_agg ag66 sz66 (by decide), hb0]; rfl
  have t1 := fun (τ : List O) q => take15_ok (σ := τ) (p := q) (hv τ) hb
  have hw : ∀ (τ : List O) (q : List Nat), cfg.keep 42 q = false → runF cfg 42 [x, .agg [.s (S e.1), .i .i64 e.2]] τ q = some (.tup (withE l e), τ) := fun τ q hq => with15_ok (σ := τ) (p := q) h e (by omega) hq
  cases hr : rightE l with
  | false =>
    have p2 := fun (τ : List O) q => put15_no (σ := τ) (p := q) h hr
    rcases takeE_cases bs with ⟨m, hmr, hmt, hmE⟩ | ⟨hno, hmE⟩
    · rw [hmE] at t1
      obtain ⟨m40, hmn⟩ := rightE_names hmr
      have hEm := EnOk.mkS (l := m) (fun a ha => by have := (hmn a ha).1; omega) (by omega)
      have om := hEm.s.one
      have p1 := fun (τ : List O) q => put15_ok (σ := τ) (p := q) hEm hmr
      rw [put_take hmr hmt] at p1
      have s1 := fun (τ : List O) q => samev_ok (σ := τ) (p := q) (byN bs) (hv τ) (viewM τ (byN bs))
      simp +contextual (disch := first | omega | exact rfl | decide | exact kpF (by decide) | exact kpT (by decide) | assumption | exact Z2z | exact Z30 | exact Z32 | exact Z31 | exact Z33 | exact Z34 | (simp only [Z6x, Z6y, Z2q, Z2g, Z6d, Z6e] <;> omega) | (simp only [Z6v, Z6w, Z7i, Z7j, Z7k, Z7l, Z2i, Z6k]) | (simp only [Z35, Z36, Z2r, Z2s, Z2t, Z2u, Z2v, Z2w, Z2x, Z2y, Z2z, Z30, Z31, Z32, Z33, Z34, Z7m, Z4a, Z4b] <;> assumption)) only [Try.f16, Z00, Z01, Z02, Z03, Z04, Z05, Z06, Z07, Z08, Z09, Z0a, Z0b, Z0c, Z0d, Z0e, Z0f, Z0g, Z0h, Z0i, Z0j, Z0k, Z0l, Z0m, Z0n, Z0o, SOp, Z0q, Z0r, Z0s, Z0t, Z0u, Z0v, Z0w, Z0x, Z0y, Z0z, Z10, Z11, Z12, GOp, Z14, Z15, Z16, Z17, Z18, Z19, Z1a, Z1b, ↓Z1c, Z1d, Z1e, Z1f, Z1g, Z1h, Z1i, Z1j, Z1k, Z1l, Z1m, Z1n, Z1o, Z1p, Int.reduceAdd, Int.reduceSub, Int.reduceMul, Int.reduceNeg, Z1q, Z1r, Z1s, Z1t, Z1u, Z1v, Z1w, Z1x, Z1y, Z1z, accs, touch, touchM, okPair, Z24, Z25, Z26, Z27, Z28, Z29, Z2a, Z2b, Z2c, Z2d, Z2e, Z2f, Z2g, Z2h, Z2i, Z2j, Z2k, Z2l, Z2m, Z2n, Z2o, Z2p, Z2q, Z2r, Z2s, Z2t, Z2u, Z2v, Z2w, Z2x, Z2y, Z2z, Z30, Z31, Z32, Z33, Z34, Z35, Z36, Z37, Z38, Z39, Z3a, Z3b, Z3c, Z3d, Z3e, Z3f, Z3g, Z3h, Z3i, Z3j, Z3k, Z3l, Nat.reduceAdd, Nat.reduceLeDiff, Nat.reduceMul, Nat.reduceSub, isV, opA, Z3o, grdO, grd, Z3r, Z3s, Z3t, Z3u, Z3v, Z3w, Z3x, Z3y, Z3z, Z40, Z41, Z42, Z43, Z44, Z45, Z46, Z47, Z48, Z49, Z4a, Z4b, Z4c, Z4d, Z4e, Z4f, Z4g, Z4h, Z4i, Z4j, Z4k, Int.reduceLT, Int.reduceLE, Int.reduceToNat, Z4l, Z4m, Z4n, Z4o, Z4p, Z4q, Z4r, Z4s, Z4t, Z4u, Z4v, Z4w, Z4x, Z4y, Z4z, Z50, Z51, Z52, Z53, Z54, Z55, Z56, Z57, Z58, Z59, Z5a, Z5b, Z5c, Z5d, Z5e, Z5f, Z5g, Z5h, Z5i, Z5j, Z5k, Z5l, Z5m, Z5n, Z5o, Z5p, Z5q, Z5r, Z5s, Z5t, Z5u, builtinP, builtinA, changes, fieldAddrA, resA, tupled, Z61, Z62, Z63, Z64, Z65, Z66, Z67, Z68, Z69, Z2q, Z6a, Z6b, Z64, Z6c, Z2m, Z6d, Z6e, Z6f, Z6g, Z6h, Z6i, Z6j, Z6k, Z6l, Z6m, Z6n, Z6o, Z6p, Z6q, Z6r, Z6s, Z6t, Z6u, Z6v, Z6w, Z6x, Z6y, Z6z, ↓reduceIte, Nat.reduceEqDiff, Nat.reduceLT, Z70, Int.reduceEq, Z3x, Z6s, Z71, Z72, Z73, Z74, Z75, Z76, Z77, Z78, Z79, Z7a, Z7b, Z7c, Z7d, Z7e, Z7f, Z7g, Z7h, sh3, sz3, by3, ag3, kn3, ze3, ld3, li3, sto3, sh5, sz5, by5, ag5, kn5, ze5, ld5, li5, sto5, sh9, sz9, by9, ag9, kn9, ze9, ld9, li9, sto9, les9, ixs9, sh22, sz22, by22, ag22, kn22, el22, ze22, ld22, li22, sto22, ix22, ia22, mk22, ixi22, iai22, le22, lr22, ln22, sh25, sz25, by25, ag25, kn25, ze25, ld25, li25, sto25, sh57, sz57, by57, ag57, kn57, el57, ze57, ld57, li57, sto57, ixi57, iai57, le57, lr57, ln57, sh66, sz66, by66, ag66, kn66, ze66, fk66, eq66, ne66, pl66, lda66, sta66, bd66, fi66x0, fi66x1, ha, hb0, ld0, t1, p1, s1, p2]
    · rw [hmE] at t1
      have e15 : ((15 : Int) = 0) = False := eq_false (by omega)
      simp +contextual (disch := first | omega | exact rfl | decide | exact kpF (by decide) | exact kpT (by decide) | assumption | exact Z2z | exact Z30 | exact Z32 | exact Z31 | exact Z33 | exact Z34 | (simp only [Z6x, Z6y, Z2q, Z2g, Z6d, Z6e] <;> omega) | (simp only [Z6v, Z6w, Z7i, Z7j, Z7k, Z7l, Z2i, Z6k]) | (simp only [Z35, Z36, Z2r, Z2s, Z2t, Z2u, Z2v, Z2w, Z2x, Z2y, Z2z, Z30, Z31, Z32, Z33, Z34, Z7m, Z4a, Z4b] <;> assumption)) only [Try.f16, Z00, Z01, Z02, Z03, Z04, Z05, Z06, Z07, Z08, Z09, Z0a, Z0b, Z0c, Z0d, Z0e, Z0f, Z0g, Z0h, Z0i, Z0j, Z0k, Z0l, Z0m, Z0n, Z0o, SOp, Z0q, Z0r, Z0s, Z0t, Z0u, Z0v, Z0w, Z0x, Z0y, Z0z, Z10, Z11, Z12, GOp, Z14, Z15, Z16, Z17, Z18, Z19, Z1a, Z1b, ↓Z1c, Z1d, Z1e, Z1f, Z1g, Z1h, Z1i, Z1j, Z1k, Z1l, Z1m, Z1n, Z1o, Z1p, Int.reduceAdd, Int.reduceSub, Int.reduceMul, Int.reduceNeg, Z1q, Z1r, Z1s, Z1t, Z1u, Z1v, Z1w, Z1x, Z1y, Z1z, accs, touch, touchM, okPair, Z24, Z25, Z26, Z27, Z28, Z29, Z2a, Z2b, Z2c, Z2d, Z2e, Z2f, Z2g, Z2h, Z2i, Z2j, Z2k, Z2l, Z2m, Z2n, Z2o, Z2p, Z2q, Z2r, Z2s, Z2t, Z2u, Z2v, Z2w, Z2x, Z2y, Z2z, Z30, Z31, Z32, Z33, Z34, Z35, Z36, Z37, Z38, Z39, Z3a, Z3b, Z3c, Z3d, Z3e, Z3f, Z3g, Z3h, Z3i, Z3j, Z3k, Z3l, Nat.reduceAdd, Nat.reduceLeDiff, Nat.reduceMul, Nat.reduceSub, isV, opA, Z3o, grdO, grd, Z3r, Z3s, Z3t, Z3u, Z3v, Z3w, Z3x, Z3y, Z3z, Z40, Z41, Z42, Z43, Z44, Z45, Z46, Z47, Z48, Z49, Z4a, Z4b, Z4c, Z4d, Z4e, Z4f, Z4g, Z4h, Z4i, Z4j, Z4k, Int.reduceLT, Int.reduceLE, Int.reduceToNat, Z4l, Z4m, Z4n, Z4o, Z4p, Z4q, Z4r, Z4s, Z4t, Z4u, Z4v, Z4w, Z4x, Z4y, Z4z, Z50, Z51, Z52, Z53, Z54, Z55, Z56, Z57, Z58, Z59, Z5a, Z5b, Z5c, Z5d, Z5e, Z5f, Z5g, Z5h, Z5i, Z5j, Z5k, Z5l, Z5m, Z5n, Z5o, Z5p, Z5q, Z5r, Z5s, Z5t, Z5u, builtinP, builtinA, changes, fieldAddrA, resA, tupled, Z61, Z62, Z63, Z64, Z65, Z66, Z67, Z68, Z69, Z2q, Z6a, Z6b, Z64, Z6c, Z2m, Z6d, Z6e, Z6f, Z6g, Z6h, Z6i, Z6j, Z6k, Z6l, Z6m, Z6n, Z6o, Z6p, Z6q, Z6r, Z6s, Z6t, Z6u, Z6v, Z6w, Z6x, Z6y, Z6z, ↓reduceIte, Nat.reduceEqDiff, Nat.reduceLT, Z70, Int.reduceEq, Z3x, Z6s, Z71, Z72, Z73, Z74, Z75, Z76, Z77, Z78, Z79, Z7a, Z7b, Z7c, Z7d, Z7e, Z7f, Z7g, Z7h, sh3, sz3, by3, ag3, kn3, ze3, ld3, li3, sto3, sh5, sz5, by5, ag5, kn5, ze5, ld5, li5, sto5, sh9, sz9, by9, ag9, kn9, ze9, ld9, li9, sto9, les9, ixs9, sh22, sz22, by22, ag22, kn22, el22, ze22, ld22, li22, sto22, ix22, ia22, mk22, ixi22, iai22, le22, lr22, ln22, sh25, sz25, by25, ag25, kn25, ze25, ld25, li25, sto25, sh57, sz57, by57, ag57, kn57, el57, ze57, ld57, li57, sto57, ixi57, iai57, le57, lr57, ln57, sh66, sz66, by66, ag66, kn66, ze66, fk66, eq66, ne66, pl66, lda66, sta66, bd66, fi66x0, fi66x1, ha, hb0, ld0, t1, p2, e15]
  | true =>
    obtain ⟨b2, hb2, hbE, hbl⟩ := take_put hr
    have p2 := fun (τ : List O) q => put15_ok (σ := τ) (p := q) h hr
    rw [hb2] at p2
    have t2 := fun (τ : List O) q => take15_ok (σ := τ) (p := q) (viewM τ (byN b2)) (by omega)
    rw [hbE] at t2
    obtain ⟨l40, hln⟩ := rightE_names hr
    have hEl := EnOk.mkS (l := l) (fun a ha => by have := (hln a ha).1; omega) (by omega)
    have ol := hEl.s.one
    have s2 := fun (τ : List O) q => same15_ok (σ := τ) (p := q) hEl h
    have op2 := view_one (viewM [] (byN b2))
    rcases withL_cases l e with ⟨c, hq, hc⟩ | ⟨hq, _, hri, hth⟩
    · have hwE : withE l e = [.nils, .i .i64 c] := by unfold withE; rw [hq]
      rw [hwE] at hw
      have hc0 : (c = 0) = False := eq_false hc
      rcases takeE_cases bs with ⟨m, hmr, hmt, hmE⟩ | ⟨hno, hmE⟩
      · rw [hmE] at t1
        obtain ⟨m40, hmn⟩ := rightE_names hmr
        have hEm := EnOk.mkS (l := m) (fun a ha => by have := (hmn a ha).1; omega) (by omega)
        have om := hEm.s.one
        have p1 := fun (τ : List O) q => put15_ok (σ := τ) (p := q) hEm hmr
        rw [put_take hmr hmt] at p1
        have s1 := fun (τ : List O) q => samev_ok (σ := τ) (p := q) (byN bs) (hv τ) (viewM τ (byN bs))
        simp +contextual (disch := first | omega | exact rfl | decide | exact kpF (by decide) | exact kpT (by decide) | assumption | exact Z2z | exact Z30 | exact Z32 | exact Z31 | exact Z33 | exact Z34 | (simp only [Z6x, Z6y, Z2q, Z2g, Z6d, Z6e] <;> omega) | (simp only [Z6v, Z6w, Z7i, Z7j, Z7k, Z7l, Z2i, Z6k]) | (simp only [Z35, Z36, Z2r, Z2s, Z2t, Z2u, Z2v, Z2w, Z2x, Z2y, Z2z, Z30, Z31, Z32, Z33, Z34, Z7m, Z4a, Z4b] <;> assumption)) only [Try.f16, Z00, Z01, Z02, Z03, Z04, Z05, Z06, Z07, Z08, Z09, Z0a, Z0b, Z0c, Z0d, Z0e, Z0f, Z0g, Z0h, Z0i, Z0j, Z0k, Z0l, Z0m, Z0n, Z0o, SOp, Z0q, Z0r, Z0s, Z0t, Z0u, Z0v, Z0w, Z0x, Z0y, Z0z, Z10, Z11, Z12, GOp, Z14, Z15, Z16, Z17, Z18, Z19, Z1a, Z1b, ↓Z1c, Z1d, Z1e, Z1f, Z1g, Z1h, Z1i, Z1j, Z1k, Z1l, Z1m, Z1n, Z1o, Z1p, Int.reduceAdd, Int.reduceSub, Int.reduceMul, Int.reduceNeg, Z1q, Z1r, Z1s, Z1t, Z1u, Z1v, Z1w, Z1x, Z1y, Z1z, accs, touch, touchM, okPair, Z24, Z25, Z26, Z27, Z28, Z29, Z2a, Z2b, Z2c, Z2d, Z2e, Z2f, Z2g, Z2h, Z2i, Z2j, Z2k, Z2l, Z2m, Z2n, Z2o, Z2p, Z2q, Z2r, Z2s, Z2t, Z2u, Z2v, Z2w, Z2x, Z2y, Z2z, Z30, Z31, Z32, Z33, Z34, Z35, Z36, Z37, Z38, Z39, Z3a, Z3b, Z3c, Z3d, Z3e, Z3f, Z3g, Z3h, Z3i, Z3j, Z3k, Z3l, Nat.reduceAdd, Nat.reduceLeDiff, Nat.reduceMul, Nat.reduceSub, isV, opA, Z3o, grdO, grd, Z3r, Z3s, Z3t, Z3u, Z3v, Z3w, Z3x, Z3y, Z3z, Z40, Z41, Z42, Z43, Z44, Z45, Z46, Z47, Z48, Z49, Z4a, Z4b, Z4c, Z4d, Z4e, Z4f, Z4g, Z4h, Z4i, Z4j, Z4k, Int.reduceLT, Int.reduceLE, Int.reduceToNat, Z4l, Z4m, Z4n, Z4o, Z4p, Z4q, Z4r, Z4s, Z4t, Z4u, Z4v, Z4w, Z4x, Z4y, Z4z, Z50, Z51, Z52, Z53, Z54, Z55, Z56, Z57, Z58, Z59, Z5a, Z5b, Z5c, Z5d, Z5e, Z5f, Z5g, Z5h, Z5i, Z5j, Z5k, Z5l, Z5m, Z5n, Z5o, Z5p, Z5q, Z5r, Z5s, Z5t, Z5u, builtinP, builtinA, changes, fieldAddrA, resA, tupled, Z61, Z62, Z63, Z64, Z65, Z66, Z67, Z68, Z69, Z2q, Z6a, Z6b, Z64, Z6c, Z2m, Z6d, Z6e, Z6f, Z6g, Z6h, Z6i, Z6j, Z6k, Z6l, Z6m, Z6n, Z6o, Z6p, Z6q, Z6r, Z6s, Z6t, Z6u, Z6v, Z6w, Z6x, Z6y, Z6z, ↓reduceIte, Nat.reduceEqDiff, Nat.reduceLT, Z70, Int.reduceEq, Z3x, Z6s, Z71, Z72, Z73, Z74, Z75, Z76, Z77, Z78, Z79, Z7a, Z7b, Z7c, Z7d, Z7e, Z7f, Z7g, Z7h, sh3, sz3, by3, ag3, kn3, ze3, ld3, li3, sto3, sh5, sz5, by5, ag5, kn5, ze5, ld5, li5, sto5, sh9, sz9, by9, ag9, kn9, ze9, ld9, li9, sto9, les9, ixs9, sh22, sz22, by22, ag22, kn22, el22, ze22, ld22, li22, sto22, ix22, ia22, mk22, ixi22, iai22, le22, lr22, ln22, sh25, sz25, by25, ag25, kn25, ze25, ld25, li25, sto25, sh57, sz57, by57, ag57, kn57, el57, ze57, ld57, li57, sto57, ixi57, iai57, le57, lr57, ln57, sh66, sz66, by66, ag66, kn66, ze66, fk66, eq66, ne66, pl66, lda66, sta66, bd66, fi66x0, fi66x1, ha, hb0, ld0, t1, p1, s1, p2, t2, s2, hw, hc0]
      · rw [hmE] at t1
        have e15 : ((15 : Int) = 0) = False := eq_false (by omega)
        simp +contextual (disch := first | omega | exact rfl | decide | exact kpF (by decide) | exact kpT (by decide) | assumption | exact Z2z | exact Z30 | exact Z32 | exact Z31 | exact Z33 | exact Z34 | (simp only [Z6x, Z6y, Z2q, Z2g, Z6d, Z6e] <;> omega) | (simp only [Z6v, Z6w, Z7i, Z7j, Z7k, Z7l, Z2i, Z6k]) | (simp only [Z35, Z36, Z2r, Z2s, Z2t, Z2u, Z2v, Z2w, Z2x, Z2y, Z2z, Z30, Z31, Z32, Z33, Z34, Z7m, Z4a, Z4b] <;> assumption)) only [Try.f16, Z00, Z01, Z02, Z03, Z04, Z05, Z06, Z07, Z08, Z09, Z0a, Z0b, Z0c, Z0d, Z0e, Z0f, Z0g, Z0h, Z0i, Z0j, Z0k, Z0l, Z0m, Z0n, Z0o, SOp, Z0q, Z0r, Z0s, Z0t, Z0u, Z0v, Z0w, Z0x, Z0y, Z0z, Z10, Z11, Z12, GOp, Z14, Z15, Z16, Z17, Z18, Z19, Z1a, Z1b, ↓Z1c, Z1d, Z1e, Z1f, Z1g, Z1h, Z1i, Z1j, Z1k, Z1l, Z1m, Z1n, Z1o, Z1p, Int.reduceAdd, Int.reduceSub, Int.reduceMul, Int.reduceNeg, Z1q, Z1r, Z1s, Z1t, Z1u, Z1v, Z1w, Z1x, Z1y, Z1z, accs, touch, touchM, okPair, Z24, Z25, Z26, Z27, Z28, Z29, Z2a, Z2b, Z2c, Z2d, Z2e, Z2f, Z2g, Z2h, Z2i, Z2j, Z2k, Z2l, Z2m, Z2n, Z2o, Z2p, Z2q, Z2r, Z2s, Z2t, Z2u, Z2v, Z2w, Z2x, Z2y, Z2z, Z30, Z31, Z32, Z33, Z34, Z35, Z36, Z37, Z38, Z39, Z3a, Z3b, Z3c, Z3d, Z3e, Z3f, Z3g, Z3h, Z3i, Z3j, Z3k, Z3l, Nat.reduceAdd, Nat.reduceLeDiff, Nat.reduceMul, Nat.reduceSub, isV, opA, Z3o, grdO, grd, Z3r, Z3s, Z3t, Z3u, Z3v, Z3w, Z3x, Z3y, Z3z, Z40, Z41, Z42, Z43, Z44, Z45, Z46, Z47, Z48, Z49, Z4a, Z4b, Z4c, Z4d, Z4e, Z4f, Z4g, Z4h, Z4i, Z4j, Z4k, Int.reduceLT, Int.reduceLE, Int.reduceToNat, Z4l, Z4m, Z4n, Z4o, Z4p, Z4q, Z4r, Z4s, Z4t, Z4u, Z4v, Z4w, Z4x, Z4y, Z4z, Z50, Z51, Z52, Z53, Z54, Z55, Z56, Z57, Z58, Z59, Z5a, Z5b, Z5c, Z5d, Z5e, Z5f, Z5g, Z5h, Z5i, Z5j, Z5k, Z5l, Z5m, Z5n, Z5o, Z5p, Z5q, Z5r, Z5s, Z5t, Z5u, builtinP, builtinA, changes, fieldAddrA, resA, tupled, Z61, Z62, Z63, Z64, Z65, Z66, Z67, Z68, Z69, Z2q, Z6a, Z6b, Z64, Z6c, Z2m, Z6d, Z6e, Z6f, Z6g, Z6h, Z6i, Z6j, Z6k, Z6l, Z6m, Z6n, Z6o, Z6p, Z6q, Z6r, Z6s, Z6t, Z6u, Z6v, Z6w, Z6x, Z6y, Z6z, ↓reduceIte, Nat.reduceEqDiff, Nat.reduceLT, Z70, Int.reduceEq, Z3x, Z6s, Z71, Z72, Z73, Z74, Z75, Z76, Z77, Z78, Z79, Z7a, Z7b, Z7c, Z7d, Z7e, Z7f, Z7g, Z7h, sh3, sz3, by3, ag3, kn3, ze3, ld3, li3, sto3, sh5, sz5, by5, ag5, kn5, ze5, ld5, li5, sto5, sh9, sz9, by9, ag9, kn9, ze9, ld9, li9, sto9, les9, ixs9, sh22, sz22, by22, ag22, kn22, el22, ze22, ld22, li22, sto22, ix22, ia22, mk22, ixi22, iai22, le22, lr22, ln22, sh25, sz25, by25, ag25, kn25, ze25, ld25, li25, sto25, sh57, sz57, by57, ag57, kn57, el57, ze57, ld57, li57, sto57, ixi57, iai57, le57, lr57, ln57, sh66, sz66, by66, ag66, kn66, ze66, fk66, eq66, ne66, pl66, lda66, sta66, bd66, fi66x0, fi66x1, ha, hb0, ld0, t1, p2, e15, t2, s2, hw, hc0]
    · have hwE : withE l e = [.arr (enV (insE l e)) (insE l e).length false, .i .i64 0] := by unfold withE; rw [hq]
      rw [hwE] at hw
      obtain ⟨hEi, _, _⟩ := insE_ok h he hq
      have f1 := fun (τ : List O) q => find15_ok (σ := τ) (p := q) hEi e.1
      rw [find_ins hth] at f1
      have hwo : withoutL (insE l e) e.1 = (some l, 0) := by
        unfold withoutL
        rw [if_neg (by rw [hri]; decide), if_neg (by rw [there_ins]; decide), drop_ins hr]
      have d1 : ∀ (τ : List O) q, cfg.keep 44 q = false → runF cfg 44 [.arr (enV (insE l e)) (insE l e).length false, .s (S e.1)] τ q = some (.tup [.arr (enV l) l.length false, .i .i64 0], τ) := fun τ q hq => by
        have := without15_ok (σ := τ) (p := q) hEi e.1 hq
        rw [this, hwo]
      have hEl2 : EnOk (.arr (enV l) l.length false) l := ⟨⟨enV_len l, .inr ⟨false, rfl⟩⟩, h.n, h.b⟩
      have s3 := fun (τ : List O) q => same15_ok (σ := τ) (p := q) hEl2 h
      have r3 := fun (τ : List O) q => right15_ok (σ := τ) (p := q) hEi
      rw [hri] at r3
      rcases takeE_cases bs with ⟨m, hmr, hmt, hmE⟩ | ⟨hno, hmE⟩
      · rw [hmE] at t1
        obtain ⟨m40, hmn⟩ := rightE_names hmr
        have hEm := EnOk.mkS (l := m) (fun a ha => by have := (hmn a ha).1; omega) (by omega)
        have om := hEm.s.one
        have p1 := fun (τ : List O) q => put15_ok (σ := τ) (p := q) hEm hmr
        rw [put_take hmr hmt] at p1
        have s1 := fun (τ : List O) q => samev_ok (σ := τ) (p := q) (byN bs) (hv τ) (viewM τ (byN bs))
        simp +contextual (disch := first | omega | exact rfl | decide | exact kpF (by decide) | exact kpT (by decide) | assumption | exact Z2z | exact Z30 | exact Z32 | exact Z31 | exact Z33 | exact Z34 | (simp only [Z6x, Z6y, Z2q, Z2g, Z6d, Z6e] <;> omega) | (simp only [Z6v, Z6w, Z7i, Z7j, Z7k, Z7l, Z2i, Z6k]) | (simp only [Z35, Z36, Z2r, Z2s, Z2t, Z2u, Z2v, Z2w, Z2x, Z2y, Z2z, Z30, Z31, Z32, Z33, Z34, Z7m, Z4a, Z4b] <;> assumption)) only [Try.f16, Z00, Z01, Z02, Z03, Z04, Z05, Z06, Z07, Z08, Z09, Z0a, Z0b, Z0c, Z0d, Z0e, Z0f, Z0g, Z0h, Z0i, Z0j, Z0k, Z0l, Z0m, Z0n, Z0o, SOp, Z0q, Z0r, Z0s, Z0t, Z0u, Z0v, Z0w, Z0x, Z0y, Z0z, Z10, Z11, Z12, GOp, Z14, Z15, Z16, Z17, Z18, Z19, Z1a, Z1b, ↓Z1c, Z1d, Z1e, Z1f, Z1g, Z1h, Z1i, Z1j, Z1k, Z1l, Z1m, Z1n, Z1o, Z1p, Int.reduceAdd, Int.reduceSub, Int.reduceMul, Int.reduceNeg, Z1q, Z1r, Z1s, Z1t, Z1u, Z1v, Z1w, Z1x, Z1y, Z1z, accs, touch, touchM, okPair, Z24, Z25, Z26, Z27, Z28, Z29, Z2a, Z2b, Z2c, Z2d, Z2e, Z2f, Z2g, Z2h, Z2i, Z2j, Z2k, Z2l, Z2m, Z2n, Z2o, Z2p, Z2q, Z2r, Z2s, Z2t, Z2u, Z2v, Z2w, Z2x, Z2y, Z2z, Z30, Z31, Z32, Z33, Z34, Z35, Z36, Z37, Z38, Z39, Z3a, Z3b, Z3c, Z3d, Z3e, Z3f, Z3g, Z3h, Z3i, Z3j, Z3k, Z3l, Nat.reduceAdd, Nat.reduceLeDiff, Nat.reduceMul, Nat.reduceSub, isV, opA, Z3o, grdO, grd, Z3r, Z3s, Z3t, Z3u, Z3v, Z3w, Z3x, Z3y, Z3z, Z40, Z41, Z42, Z43, Z44, Z45, Z46, Z47, Z48, Z49, Z4a, Z4b, Z4c, Z4d, Z4e, Z4f, Z4g, Z4h, Z4i, Z4j, Z4k, Int.reduceLT, Int.reduceLE, Int.reduceToNat, Z4l, Z4m, Z4n, Z4o, Z4p, Z4q, Z4r, Z4s, Z4t, Z4u, Z4v, Z4w, Z4x, Z4y, Z4z, Z50, Z51, Z52, Z53, Z54, Z55, Z56, Z57, Z58, Z59, Z5a, Z5b, Z5c, Z5d, Z5e, Z5f, Z5g, Z5h, Z5i, Z5j, Z5k, Z5l, Z5m, Z5n, Z5o, Z5p, Z5q, Z5r, Z5s, Z5t, Z5u, builtinP, builtinA, changes, fieldAddrA, resA, tupled, Z61, Z62, Z63, Z64, Z65, Z66, Z67, Z68, Z69, Z2q, Z6a, Z6b, Z64, Z6c, Z2m, Z6d, Z6e, Z6f, Z6g, Z6h, Z6i, Z6j, Z6k, Z6l, Z6m, Z6n, Z6o, Z6p, Z6q, Z6r, Z6s, Z6t, Z6u, Z6v, Z6w, Z6x, Z6y, Z6z, ↓reduceIte, Nat.reduceEqDiff, Nat.reduceLT, Z70, Int.reduceEq, Z3x, Z6s, Z71, Z72, Z73, Z74, Z75, Z76, Z77, Z78, Z79, Z7a, Z7b, Z7c, Z7d, Z7e, Z7f, Z7g, Z7h, sh3, sz3, by3, ag3, kn3, ze3, ld3, li3, sto3, sh5, sz5, by5, ag5, kn5, ze5, ld5, li5, sto5, sh9, sz9, by9, ag9, kn9, ze9, ld9, li9, sto9, les9, ixs9, sh22, sz22, by22, ag22, kn22, el22, ze22, ld22, li22, sto22, ix22, ia22, mk22, ixi22, iai22, le22, lr22, ln22, sh25, sz25, by25, ag25, kn25, ze25, ld25, li25, sto25, sh57, sz57, by57, ag57, kn57, el57, ze57, ld57, li57, sto57, ixi57, iai57, le57, lr57, ln57, sh66, sz66, by66, ag66, kn66, ze66, fk66, eq66, ne66, pl66, lda66, sta66, bd66, fi66x0, fi66x1, ha, hb0, ld0, t1, p1, s1, p2, t2, s2, hw, f1, d1, s3, r3]
      · rw [hmE] at t1
        have e15 : ((15 : Int) = 0) = False := eq_false (by omega)
        simp +contextual (disch := first | omega | exact rfl | decide | exact kpF (by decide) | exact kpT (by decide) | assumption | exact Z2z | exact Z30 | exact Z32 | exact Z31 | exact Z33 | exact Z34 | (simp only [Z6x, Z6y, Z2q, Z2g, Z6d, Z6e] <;> omega) | (simp only [Z6v, Z6w, Z7i, Z7j, Z7k, Z7l, Z2i, Z6k]) | (simp only [Z35, Z36, Z2r, Z2s, Z2t, Z2u, Z2v, Z2w, Z2x, Z2y, Z2z, Z30, Z31, Z32, Z33, Z34, Z7m, Z4a, Z4b] <;> assumption)) only [Try.f16, Z00, Z01, Z02, Z03, Z04, Z05, Z06, Z07, Z08, Z09, Z0a, Z0b, Z0c, Z0d, Z0e, Z0f, Z0g, Z0h, Z0i, Z0j, Z0k, Z0l, Z0m, Z0n, Z0o, SOp, Z0q, Z0r, Z0s, Z0t, Z0u, Z0v, Z0w, Z0x, Z0y, Z0z, Z10, Z11, Z12, GOp, Z14, Z15, Z16, Z17, Z18, Z19, Z1a, Z1b, ↓Z1c, Z1d, Z1e, Z1f, Z1g, Z1h, Z1i, Z1j, Z1k, Z1l, Z1m, Z1n, Z1o, Z1p, Int.reduceAdd, Int.reduceSub, Int.reduceMul, Int.reduceNeg, Z1q, Z1r, Z1s, Z1t, Z1u, Z1v, Z1w, Z1x, Z1y, Z1z, accs, touch, touchM, okPair, Z24, Z25, Z26, Z27, Z28, Z29, Z2a, Z2b, Z2c, Z2d, Z2e, Z2f, Z2g, Z2h, Z2i, Z2j, Z2k, Z2l, Z2m, Z2n, Z2o, Z2p, Z2q, Z2r, Z2s, Z2t, Z2u, Z2v, Z2w, Z2x, Z2y, Z2z, Z30, Z31, Z32, Z33, Z34, Z35, Z36, Z37, Z38, Z39, Z3a, Z3b, Z3c, Z3d, Z3e, Z3f, Z3g, Z3h, Z3i, Z3j, Z3k, Z3l, Nat.reduceAdd, Nat.reduceLeDiff, Nat.reduceMul, Nat.reduceSub, isV, opA, Z3o, grdO, grd, Z3r, Z3s, Z3t, Z3u, Z3v, Z3w, Z3x, Z3y, Z3z, Z40, Z41, Z42, Z43, Z44, Z45, Z46, Z47, Z48, Z49, Z4a, Z4b, Z4c, Z4d, Z4e, Z4f, Z4g, Z4h, Z4i, Z4j, Z4k, Int.reduceLT, Int.reduceLE, Int.reduceToNat, Z4l, Z4m, Z4n, Z4o, Z4p, Z4q, Z4r, Z4s, Z4t, Z4u, Z4v, Z4w, Z4x, Z4y, Z4z, Z50, Z51, Z52, Z53, Z54, Z55, Z56, Z57, Z58, Z59, Z5a, Z5b, Z5c, Z5d, Z5e, Z5f, Z5g, Z5h, Z5i, Z5j, Z5k, Z5l, Z5m, Z5n, Z5o, Z5p, Z5q, Z5r, Z5s, Z5t, Z5u, builtinP, builtinA, changes, fieldAddrA, resA, tupled, Z61, Z62, Z63, Z64, Z65, Z66, Z67, Z68, Z69, Z2q, Z6a, Z6b, Z64, Z6c, Z2m, Z6d, Z6e, Z6f, Z6g, Z6h, Z6i, Z6j, Z6k, Z6l, Z6m, Z6n, Z6o, Z6p, Z6q, Z6r, Z6s, Z6t, Z6u, Z6v, Z6w, Z6x, Z6y, Z6z, ↓reduceIte, Nat.reduceEqDiff, Nat.reduceLT, Z70, Int.reduceEq, Z3x, Z6s, Z71, Z72, Z73, Z74, Z75, Z76, Z77, Z78, Z79, Z7a, Z7b, Z7c, Z7d, Z7e, Z7f, Z7g, Z7h, sh3, sz3, by3, ag3, kn3, ze3, ld3, li3, sto3, sh5, sz5, by5, ag5, kn5, ze5, ld5, li5, sto5, sh9, sz9, by9, ag9, kn9, ze9, ld9, li9, sto9, les9, ixs9, sh22, sz22, by22, ag22, kn22, el22, ze22, ld22, li22, sto22, ix22, ia22, mk22, ixi22, iai22, le22, lr22, ln22, sh25, sz25, by25, ag25, kn25, ze25, ld25, li25, sto25, sh57, sz57, by57, ag57, kn57, el57, ze57, ld57, li57, sto57, ixi57, iai57, le57, lr57, ln57, sh66, sz66, by66, ag66, kn66, ze66, fk66, eq66, ne66, pl66, lda66, sta66, bd66, fi66x0, fi66x1, ha, hb0, ld0, t1, p2, e15, t2, s2, hw, f1, d1, s3, r3]
theorem law16_up (xs : List V) (h : WTAR cfg.P (1048576 * (2 * 144)) [57, 66, 22] xs) : runF cfg 16 xs [] [] = some (.b true, []) := by
  obtain ⟨cs, ys, rfl, _, hw, hn⟩ := wta_cons h
  obtain ⟨cs2, ys2, rfl, _, hw2, hn2⟩ := wta_cons hn
  obtain ⟨cs3, ys3, rfl, _, hw3, hn3⟩ := wta_cons hn2
  obtain rfl := wta_nil hn3
  obtain ⟨x, l, e, hx⟩ := wt_ents (D := 17) (wtr_mono (R' := reachBytes) (by decide) hw)
  obtain ⟨en, e2, he, _⟩ := wt_ent (D := 18) (wtr_mono (R' := reachBytes) (by decide) hw2)
  obtain ⟨z, bs, e3, hz, hb⟩ := wt_bytesR (D := 18) hw3
  subst e2
  rw [arg57 x e, argV_agg (show aggT cfg.P 66 = true by kernel_rfl), arg22 z e3]
  exact law16 hx en he hz (by omega)
end Go.Am.R1
