/- Parts of one machine and of the walks over it, joined: K36 K37. -/
import Derived.Test.YtijdfdkngbpodaaJN
/- Paths: plain laws of steps joined and split again. -/
namespace Go.Am.R1
open Go.Proofs
set_option linter.unusedSimpArgs false
set_option linter.unusedVariables false
theorem foldl_join : ∀ (r : List (List UInt8)) (a : List UInt8), (47 : UInt8) ∉ a → (∀ q ∈ r, (47 : UInt8) ∉ q) → (a ++ (r.map (47 :: ·)).flatten).foldl stepP [[]] = a :: r
  | [], a, ha, _ => by
    simp only [List.map_nil, List.flatten_nil, List.append_nil]
    rw [foldl_free a [] ha]; rfl
  | b :: r, a, ha, hr => by
    have ih := foldl_join r b (hr b (by simp)) fun q hq => hr q (by simp [hq])
    rw [List.foldl_append, foldl_free a [] ha]
    simp only [List.map_cons, List.flatten_cons, List.cons_append, List.foldl_cons]
    have : stepP [[] ++ a] 47 = [a] ++ [[]] := by simp [stepP]
    rw [this, (foldl_app [a] _ [[]] (by simp)).1, ih]; rfl
theorem pcs_join {ss : List (List UInt8)} (h0 : ss ≠ []) (h : ∀ q ∈ ss, (47 : UInt8) ∉ q) : pcs (joinL ss) = ss := by
  cases ss with
  | nil => exact absurd rfl h0
  | cons a r =>
    rw [join_cons', pcs]
    exact foldl_join r a (h a (by simp)) fun q hq => h q (by simp [hq])
theorem pcs_slash (l : List UInt8) : pcs (47 :: l) = [] :: pcs l := by
  have h := pcs_cut (l := 47 :: l) (by simp)
  simpa [cutL] using h
theorem join_pcs (l : List UInt8) : joinL (pcs l) = l := by
  have key : ∀ (n : Nat) (l : List UInt8), l.length ≤ n → joinL (pcs l) = l := by
    intro n
    induction n with
    | zero => intro l h; have : l = [] := List.eq_nil_of_length_eq_zero (by omega); subst this; rfl
    | succ n ih =>
      intro l hl
      by_cases h : (47 : UInt8) ∈ l
      · have hc := (cut_len (l := l)).2 h
        have hs := cut_split h
        have hi := ih (cutL l).2.1 (by omega)
        rw [pcs_cut h, join_cons']
        cases hp : pcs (cutL l).2.1 with
        | nil => exact absurd hp (pcs_ne _)
        | cons b r =>
          rw [hp, join_cons'] at hi
          conv => rhs; rw [hs]
          simp only [List.map_cons, List.flatten_cons, List.cons_append]
          rw [hi]
      · rw [pcs_free h, join_cons']; simp
  exact key l.length l (Nat.le_refl _)
def jl (ss : List (List UInt8)) : Nat := (ss.map fun q => q.length + 1).sum
theorem jl_len : ∀ {ss : List (List UInt8)}, ss ≠ [] → (joinL ss).length + 1 = jl ss
  | [], h => absurd rfl h
  | a :: r, _ => by
    have : ∀ r : List (List UInt8), ((r.map (47 :: ·)).flatten).length = jl r := by
      intro r
      induction r with
      | nil => rfl
      | cons b r ih => simp only [List.map_cons, List.flatten_cons, List.length_append, List.length_cons, ih, jl, List.sum_cons]
    rw [join_cons', List.length_append, this r]
    simp only [jl, List.map_cons, List.sum_cons]; omega
theorem jl_sub {a b : List (List UInt8)} (h : a.Sublist b) : jl a ≤ jl b := by
  induction h with
  | slnil => exact Nat.le_refl _
  | cons x _ ih => simp only [jl, List.map_cons, List.sum_cons] at ih ⊢; omega
  | cons_cons x _ ih => simp only [jl, List.map_cons, List.sum_cons] at ih ⊢; omega
theorem okP_free {q : List UInt8} (h : okP q = true) : (47 : UInt8) ∉ q := by
  intro hm
  unfold okP idleL validL at h
  simp only [Bool.or_eq_true, decide_eq_true_eq, Bool.and_eq_true, List.all_eq_true] at h
  rcases h with ((rfl | rfl) | rfl) | ⟨_, h⟩
  · simp at hm
  · simp at hm
  · simp at hm
  · have := h 47 hm; simp at this
/-- Steps that are joined are split again. -/
theorem split_joined {l : List UInt8} {ss : List (List UInt8)} {a d : Bool} (h : splitR l = some (ss, a, d)) {ks : List (List UInt8)} (hk : ks.Sublist ss) :
    (∃ d', splitR (joinedL ks a) = some (ks, a, d')) ∧ (joinedL ks a).length ≤ max l.length 1 := by
  obtain ⟨_, hsq, hss, hl0, hl, hall, ha⟩ := steps_small h
  have hkq : ∀ q ∈ ks, q.length ≤ 240 ∧ idleL q = false ∧ okP q = true := fun q hq => hsq q (hk.subset hq)
  have hfree : ∀ q ∈ ks, (47 : UInt8) ∉ q := fun q hq => okP_free (hkq q hq).2.2
  have hne : ∀ q ∈ ks, q ≠ [] := fun q hq e => by have := (hkq q hq).2.1; rw [e] at this; simp [idleL] at this
  have hst : stepsP ks = ks := List.filter_eq_self.2 fun q hq => by simp [(hkq q hq).2.1]
  have hok : ks.all okP = true := List.all_eq_true.2 fun q hq => (hkq q hq).2.2
  have hsub : ks.Sublist (pcs l) := hk.trans (by rw [hss]; exact List.filter_sublist)
  have hjl := jl_sub hsub
  have hpl := jl_len (pcs_ne l)
  rw [join_pcs] at hpl
  -- the head of what is joined
  have hhead : ks ≠ [] → (joinL ks) ≠ [] ∧ (joinL ks).head? ≠ some 47 := by
    intro h0
    cases ks with
    | nil => exact absurd rfl h0
    | cons b r =>
      rw [join_cons']
      have hb := hne b (by simp)
      have hf := hfree b (by simp)
      cases b with
      | nil => exact absurd rfl hb
      | cons c b =>
        refine ⟨by simp, ?_⟩
        simp only [List.cons_append, List.head?_cons, ne_eq, Option.some.injEq]
        rintro rfl; simp at hf
  cases a with
  | true =>
    have hj : joinedL ks true = 47 :: joinL ks := rfl
    have hhd : l.head? = some 47 := by simpa using ha.symm
    obtain ⟨l', rfl⟩ : ∃ l', l = 47 :: l' := by cases l with | nil => simp at hhd | cons c l' => simp at hhd; exact ⟨l', by rw [hhd]⟩
    rw [pcs_slash] at hss hsub hpl hjl
    have hss' : ss = stepsP (pcs l') := by rw [hss]; simp [stepsP, idleL]
    have hsub' : ks.Sublist (pcs l') := hk.trans (by rw [hss']; exact List.filter_sublist)
    have hjl' := jl_sub hsub'
    have hpl' := jl_len (pcs_ne l')
    rw [join_pcs] at hpl'
    have hlen : (joinL ks).length ≤ l'.length := by
      by_cases h0 : ks = []
      · subst h0; simp [join_nil']
      · have := jl_len h0; omega
    rw [hj]
    refine ⟨?_, by simp only [List.length_cons]; omega⟩
    have hpk : pcs (47 :: joinL ks) = if ks = [] then [[], []] else [] :: ks := by
      rw [pcs_slash]
      by_cases h0 : ks = []
      · subst h0; rfl
      · rw [if_neg h0, pcs_join h0 hfree]
    have hstp : stepsP (pcs (47 :: joinL ks)) = ks ∧ (pcs (47 :: joinL ks)).all okP = true := by
      rw [hpk]
      split
      · rename_i h0; subst h0; exact ⟨rfl, rfl⟩
      · refine ⟨?_, ?_⟩
        · have : stepsP ([] :: ks) = stepsP ks := by simp [stepsP, idleL]
          rw [this, hst]
        · rw [List.all_cons, hok]; rfl
    refine ⟨idleL ((pcs (47 :: joinL ks)).getLastD []) || decide ((pcs (47 :: joinL ks)).getLastD [] = [46, 46]), ?_⟩
    unfold splitR
    rw [if_neg (by rintro (h | h); exact absurd h (by simp); simp only [List.length_cons] at h hl; omega), if_pos hstp.2, hstp.1]
    simp
  | false =>
    have hhd : ¬ l.head? = some 47 := by simpa using ha.symm
    by_cases h0 : ks = []
    · subst h0
      have hj : joinedL [] false = [46] := rfl
      rw [hj]
      exact ⟨⟨true, rfl⟩, by simp; omega⟩
    · obtain ⟨hj0, hjh⟩ := hhead h0
      have hj : joinedL ks false = joinL ks := by unfold joinedL; rw [if_neg (by simp), if_neg hj0]
      have hlen := jl_len h0
      rw [hj]
      refine ⟨⟨idleL (ks.getLastD []) || decide (ks.getLastD [] = [46, 46]), ?_⟩, by omega⟩
      unfold splitR
      rw [if_neg (by rintro (h | h); exact hj0 h; omega), pcs_join h0 hfree, if_pos hok, hst]
      simp [hjh]
/-! What is clean stays so. -/
def upS : List UInt8 := [46, 46]
theorem cl_form (a : Bool) : ∀ (ss kept : List (List UInt8)), (∃ n rest, kept = List.replicate n upS ++ rest ∧ (∀ q ∈ rest, q ≠ upS) ∧ (a = true → n = 0)) →
    ∃ n rest, ss.foldl (clStep a) kept = List.replicate n upS ++ rest ∧ (∀ q ∈ rest, q ≠ upS) ∧ (a = true → n = 0)
  | [], kept, h => h
  | q :: ss, kept, ⟨n, rest, hk, hr, ha⟩ => by
    refine cl_form a ss _ ?_
    unfold clStep
    split
    · rename_i hq
      refine ⟨n, rest ++ [q], by rw [hk, List.append_assoc], fun x hx => ?_, ha⟩
      rcases List.mem_append.1 hx with h | h
      · exact hr x h
      · simp at h; subst h; exact hq
    · rename_i hq
      have hq : q = upS := by simpa [upS] using hq
      split
      · rename_i hc
        rcases List.eq_nil_or_concat rest with h0 | ⟨r0, b, h0⟩
        · subst h0
          exfalso
          apply hc.2
          rw [hk, List.append_nil]
          cases n with
          | zero => rw [hk] at hc; simp at hc
          | succ n => simp [List.getLastD_eq_getLast?, List.getLast?_replicate, upS]
        · rw [List.concat_eq_append] at h0
          refine ⟨n, r0, by rw [hk, h0, ← List.append_assoc]; simp, fun x hx => hr x (by rw [h0]; exact List.mem_append.2 (.inl hx)), ha⟩
      · rename_i hc
        split
        · exact ⟨n, rest, hk, hr, ha⟩
        · rename_i hna
          have hrest : rest = [] := by
            rcases List.eq_nil_or_concat rest with h0 | ⟨r0, b, h0⟩
            · exact h0
            · exfalso
              rw [List.concat_eq_append] at h0
              apply hc
              have hb := hr b (by rw [h0]; simp)
              refine ⟨by rw [hk, h0]; simp, ?_⟩
              rw [hk, h0, ← List.append_assoc]
              simpa [List.getLastD_eq_getLast?, upS] using hb
          subst hrest
          refine ⟨n + 1, [], by rw [hk, hq]; simp [List.replicate_succ'], by simp, fun h => absurd h hna⟩
theorem cl_normal (a : Bool) : ∀ (rest kept : List (List UInt8)), (∀ q ∈ rest, q ≠ upS) → rest.foldl (clStep a) kept = kept ++ rest
  | [], kept, _ => by simp
  | q :: rest, kept, h => by
    have hq := h q (by simp)
    have : clStep a kept q = kept ++ [q] := by unfold clStep; rw [if_pos (show q ≠ [46, 46] from hq)]
    rw [List.foldl_cons, this, cl_normal a rest _ fun x hx => h x (by simp [hx])]
    simp
theorem cl_ups : ∀ (n m : Nat), (List.replicate n upS).foldl (clStep false) (List.replicate m upS) = List.replicate (m + n) upS
  | 0, m => by simp
  | n + 1, m => by
    have : clStep false (List.replicate m upS) upS = List.replicate (m + 1) upS := by
      unfold clStep
      rw [if_neg (by simp [upS]), if_neg, if_neg (by simp)]
      · rw [List.replicate_succ']
      · rintro ⟨h1, h2⟩
        cases m with
        | zero => simp at h1
        | succ m => apply h2; simp [List.getLastD_eq_getLast?, List.getLast?_replicate, upS]
    rw [List.replicate_succ, List.foldl_cons, this, cl_ups n (m + 1)]
    congr 1; omega
theorem clean_clean (ss : List (List UInt8)) (a : Bool) : cleanS (cleanS ss a) a = cleanS ss a := by
  obtain ⟨n, rest, h1, h2, h3⟩ := cl_form a ss [] ⟨0, [], rfl, by simp, fun _ => rfl⟩
  have e : cleanS ss a = List.replicate n upS ++ rest := h1
  rw [e]
  unfold cleanS
  rw [List.foldl_append]
  cases a with
  | true =>
    have := h3 rfl; subst this
    exact cl_normal true rest [] h2
  | false =>
    have := cl_ups n 0
    rw [Nat.zero_add] at this
    rw [show ([] : List (List UInt8)) = List.replicate 0 upS from rfl, this]
    exact cl_normal false rest _ h2
theorem clean_sub (ss : List (List UInt8)) (a : Bool) : (cleanS ss a).Sublist ss := by
  have : ∀ (ss pre kept : List (List UInt8)), kept.Sublist pre → (ss.foldl (clStep a) kept).Sublist (pre ++ ss) := by
    intro ss
    induction ss with
    | nil => intro pre kept h; simpa using h
    | cons q ss ih =>
      intro pre kept h
      have hs : (clStep a kept q).Sublist (pre ++ [q]) := by
        have h1 : (kept ++ [q]).Sublist (pre ++ [q]) := h.append (List.Sublist.refl _)
        have h2 : kept.Sublist (pre ++ [q]) := h.trans (List.sublist_append_left _ _)
        unfold clStep
        split
        · exact h1
        · split
          · exact (List.dropLast_sublist _).trans h2
          · split
            · exact h2
            · exact h1
      have := ih (pre ++ [q]) _ hs
      simpa using this
  exact this ss [] [] (List.Sublist.refl _)
end Go.Am.R1

/- The laws NameAgain and NameTogether, over the machine. -/
namespace Go.Am.R1
open Go.Proofs
set_option maxRecDepth 100000
set_option linter.unusedSimpArgs false
set_option linter.unusedVariables false
variable {σ : List O} {p : List Nat}
/-- 'Split', as one sees its answer. -/
theorem split_see (l : List UInt8) (hn : l.length ≤ 140737488355328) (σ : List O) (p : List Nat) :
    ∃ (L : List O) (x : V), runF cfg 52 [.s (S l)] σ p = some (.tup (match splitR l with | none => [x, .b false, .b false, .i .i64 12] | some (ss, a, d) => [x, .b a, .b d, .i .i64 0]), σ ++ L) ∧
      View (σ ++ L) x (match splitR l with | none => [] | some (ss, _, _) => sS ss) := by
  obtain ⟨r, h1, h2⟩ := split_ok (σ := σ) (p := p) l hn
  unfold SplitP at h2
  cases hs : splitR l with
  | none => rw [hs] at h2; obtain ⟨L, rfl⟩ := h2; exact ⟨L, .nils, h1, rfl⟩
  | some t =>
    obtain ⟨ss, a, d⟩ := t
    rw [hs] at h2
    obtain ⟨L, x, rfl, hown⟩ := h2
    exact ⟨L, x, h1, hown.view⟩
theorem law13 (l : List UInt8) (hn : l.length ≤ 140737488355328) : runF cfg 13 [.s (S l)] [] [] = some (.b true, []) := by
  refine run_done rfl rfl Try.func13 rfl ?_
  have r1 := fun σ p => clean_ok (σ := σ) (p := p) l hn
  cases hs : splitR l with
  | none =>
    have hv : cleanV l = [.s .empty, .i .i64 12] := by rw [cleanV, hs]
    rw [hv] at r1
    simp +contextual (disch := first | omega | exact rfl | decide | assumption | exact one_b | exact one_i | exact one_sl | exact one_s | exact one_arr | exact one_ptr | (simp only [List.length_cons, List.length_nil, List.length_set, List.length_append, ints_len, bools_len] <;> omega) | (simp only [List.map_cons, List.map_nil, fk_i, fk_s, fk_b, List.map_append, List.cons_append, List.nil_append]) | (simp only [List.all_cons, List.all_nil, one_nilp, one_nils, one_nilf, one_nili, one_nilm, one_iptr, one_fn, one_iface, one_b, one_i, one_s, one_sl, one_arr, one_ptr, Bool.and_self, Bool.and_true, Bool.true_and] <;> assumption)) only [Try.f13, Wp_seq, Wp_region, Wp_cond, Wp_skip, Wp_ret, Wp_exit, Wp_label, Wp_block, Wp_scope, thenQ_normal, thenQ_exit, thenQ_ret, blockQ_normal, blockQ_exit, blockQ_ret, upQ_normal, upQ_exit, upQ_ret, downQ_normal, downQ_exit, downQ_ret, Ops_cons, Ops_nil, Step_op, Step_call, SOp, SCall_fn, OptQ_some, OptQ_none, OptQ_map, OptQ_bind, OptQ_ite, Br_b, DoneQ_normal, DoneQ_ret, Step_guard2, GStep_op, GStep_call, callA_fn, GOp, gopt_true, gopt_false, gopt_some, vg_true, vg_false, cg_same, cg_true, cg_false, ↓SOp_pick, PkQ_b, pk_true, pk_false, pk_same, pk_and, pk_or, pk_andn, pk_orn, pk_or2, pk_or3, castLit, List.set_set, emp, Int.reduceAdd, Int.reduceSub, Int.reduceMul, Int.reduceNeg, get_app0, get_app, eqB_nil, eqB_cons, scB_i, scB_s, scB_b, all_tt, TrQ_nil, TrQ_cons, accs, touch, touchM, okPair, O.eqb_refl, List.flatMap_cons, List.flatMap_nil, partsAt_nil, partsAt_cons, fill_nil, fill_one, fill_agg, cells_agg, cells_one, splice_all, take_all, List.length_append, List.append_assoc, List.cons_append, rowAt_succ, set_app, set_app0, take_app, take_app2, take_set2, rowAt_app2, List.length_set, one_nilp, one_nils, one_nilf, one_nili, one_nilm, one_iptr, one_fn, one_iface, one_b, one_i, one_s, one_sl, one_arr, one_ptr, List.all_cons, List.all_nil, freezeC_agg, freezeC_ptr, freezeC_nilp, freezeC_nili, frz_agg, frz_int, frz_bool, frz1_s, frz1_nils, frz1_nilp, frz1_nilf, frz1_nili, frz1_nilm, frz1_arr, frz1_ptr, Nat.reduceAdd, Nat.reduceLeDiff, Nat.reduceMul, Nat.reduceSub, isV, opA, guard_of, grdO, grd, List.getElem?_toArray, beq_false, beq_true, decide_true, decide_false, not_true_eq_false, not_false_eq_true, false_implies, true_implies, imp_self, implies_true, or_true, true_or, or_false, false_or, false_and, and_false, or_self, beq_self_eq_true, Bool.and_true, Bool.true_and, Bool.and_false, Bool.false_and, Bool.or_true, Bool.true_or, Bool.or_false, Bool.false_or, Bool.not_eq_false, gt_iff_lt, ge_iff_le, Int.reduceLT, Int.reduceLE, Int.reduceToNat, Int.toNat_natCast, Nat.mul_one, Nat.add_zero, List.getElem?_drop, ints_get', bools_get', Option.isSome_none, Option.isSome_some, Option.isNone_none, Option.isNone_some, Bool.not_eq_true', decide_eq_false_iff_not, Bool.not_true, Bool.not_false, put_mk, put_mk0, ev_tmp, ev_const, ev_func, T.get_set, T_ofList, ofVal_int, ofVal_bool, ofVal_string, ofVal_nils, ofVal_nilp, ofVal_nilm, binA_lss, binA_leq, binA_gtr, binA_geq, binA_eql, binA_neq, binA_sub, binA_add, binA_mul, binA_quo, binA_rem, binA_or, binA_and, binA_xor, binA_seql, binA_sneq, unA_not, toVal_b, toVal_i, builtinP, builtinA, changes, fieldAddrA, resA, tupled, rowAt_app0, foldA_min, foldA_max, rowAt_app, set_app0', rep_bools, rep_ints, set_bools, set_ints, List.length_set, List.length_replicate, Option.bind_none, rowAt_app, rowAt_cons0, take_app, ints_len, bools_len, wrap_i64, IntWalk.i64_quo, IntWalk.rem_in, List.set_cons_zero, List.set_cons_succ, List.nil_append, List.take_length, List.take_nil, List.take_zero, decide_eq_true_eq, Option.getD_some, Option.map_some, Option.map_none, Option.bind_some, List.getElem?_cons_zero, List.getElem?_cons_succ, List.map_cons, List.map_nil, List.length_cons, List.length_nil, Nat.zero_add, ↓reduceIte, Nat.reduceEqDiff, Nat.reduceLT, ne_eq, Int.reduceEq, not_false_eq_true, Option.bind_some, if_false_right, if_true_right, and_true, true_and, Bool.false_eq_true, Bool.true_eq_false, frz_i, frz_b, frz_s, frz_nils, frz_arr, frz_tup, frzC_i, frzC_b, frzC_s, frzC_nils, frzC_arr, sh3, sz3, by3, ag3, kn3, ze3, ld3, li3, sto3, sh4, sz4, by4, ag4, kn4, ze4, ld4, li4, sto4, sh9, sz9, by9, ag9, kn9, ze9, ld9, li9, sto9, les9, ixs9, sh25, sz25, by25, ag25, kn25, ze25, ld25, li25, sto25, sh72, sz72, by72, ag72, kn72, el72, ze72, ld72, li72, sto72, ix72, ia72, mk72, ixi72, iai72, le72, lr72, ln72, alive12_ok, r1, List.take_zero]
  | some t =>
    obtain ⟨ss, a, d⟩ := t
    have hv : cleanV l = [.s (S (joinedL (cleanS ss a) a)), .i .i64 0] := by rw [cleanV, hs]
    rw [hv] at r1
    obtain ⟨⟨d', hs2⟩, hlen⟩ := split_joined hs (clean_sub ss a)
    have hcl := cleanS_len ss a
    obtain ⟨hsl, _⟩ := steps_small hs
    have hsn : (joinedL (cleanS ss a) a).length ≤ 140737488355328 := by omega
    have r2 := fun σ p => clean_ok (σ := σ) (p := p) (joinedL (cleanS ss a) a) hsn
    have hv2 : cleanV (joinedL (cleanS ss a) a) = [.s (S (joinedL (cleanS ss a) a)), .i .i64 0] := by rw [cleanV, hs2]; simp only; rw [clean_clean]
    rw [hv2] at r2
    obtain ⟨L, x, r3, hx⟩ := split_see l hn [] [3]
    rw [hs] at r3 hx
    simp only [List.nil_append] at r3 hx
    obtain ⟨L2, y, r4, hy⟩ := split_see (joinedL (cleanS ss a) a) hsn L [4]
    rw [hs2] at r4 hy
    have h1 := (hx.app L2).len sh72
    have h2 := hy.len sh72
    rw [sS_len] at h1 h2
    have hle : ((cleanS ss a).length : Int) ≤ (ss.length : Nat) := by omega
    have e1 : (((joinedL (cleanS ss a) a).length : Nat) : Int) ≤ (if (1 : Int) > ((l.length : Nat) : Int) then 1 else ((l.length : Nat) : Int)) := by split <;> omega
    simp +contextual (disch := first | omega | exact rfl | decide | assumption | exact one_b | exact one_i | exact one_sl | exact one_s | exact one_arr | exact one_ptr | (simp only [List.length_cons, List.length_nil, List.length_set, List.length_append, ints_len, bools_len] <;> omega) | (simp only [List.map_cons, List.map_nil, fk_i, fk_s, fk_b, List.map_append, List.cons_append, List.nil_append]) | (simp only [List.all_cons, List.all_nil, one_nilp, one_nils, one_nilf, one_nili, one_nilm, one_iptr, one_fn, one_iface, one_b, one_i, one_s, one_sl, one_arr, one_ptr, Bool.and_self, Bool.and_true, Bool.true_and] <;> assumption)) only [Try.f13, Wp_seq, Wp_region, Wp_cond, Wp_skip, Wp_ret, Wp_exit, Wp_label, Wp_block, Wp_scope, thenQ_normal, thenQ_exit, thenQ_ret, blockQ_normal, blockQ_exit, blockQ_ret, upQ_normal, upQ_exit, upQ_ret, downQ_normal, downQ_exit, downQ_ret, Ops_cons, Ops_nil, Step_op, Step_call, SOp, SCall_fn, OptQ_some, OptQ_none, OptQ_map, OptQ_bind, OptQ_ite, Br_b, DoneQ_normal, DoneQ_ret, Step_guard2, GStep_op, GStep_call, callA_fn, GOp, gopt_true, gopt_false, gopt_some, vg_true, vg_false, cg_same, cg_true, cg_false, ↓SOp_pick, PkQ_b, pk_true, pk_false, pk_same, pk_and, pk_or, pk_andn, pk_orn, pk_or2, pk_or3, castLit, List.set_set, emp, Int.reduceAdd, Int.reduceSub, Int.reduceMul, Int.reduceNeg, get_app0, get_app, eqB_nil, eqB_cons, scB_i, scB_s, scB_b, all_tt, TrQ_nil, TrQ_cons, accs, touch, touchM, okPair, O.eqb_refl, List.flatMap_cons, List.flatMap_nil, partsAt_nil, partsAt_cons, fill_nil, fill_one, fill_agg, cells_agg, cells_one, splice_all, take_all, List.length_append, List.append_assoc, List.cons_append, rowAt_succ, set_app, set_app0, take_app, take_app2, take_set2, rowAt_app2, List.length_set, one_nilp, one_nils, one_nilf, one_nili, one_nilm, one_iptr, one_fn, one_iface, one_b, one_i, one_s, one_sl, one_arr, one_ptr, List.all_cons, List.all_nil, freezeC_agg, freezeC_ptr, freezeC_nilp, freezeC_nili, frz_agg, frz_int, frz_bool, frz1_s, frz1_nils, frz1_nilp, frz1_nilf, frz1_nili, frz1_nilm, frz1_arr, frz1_ptr, Nat.reduceAdd, Nat.reduceLeDiff, Nat.reduceMul, Nat.reduceSub, isV, opA, guard_of, grdO, grd, List.getElem?_toArray, beq_false, beq_true, decide_true, decide_false, not_true_eq_false, not_false_eq_true, false_implies, true_implies, imp_self, implies_true, or_true, true_or, or_false, false_or, false_and, and_false, or_self, beq_self_eq_true, Bool.and_true, Bool.true_and, Bool.and_false, Bool.false_and, Bool.or_true, Bool.true_or, Bool.or_false, Bool.false_or, Bool.not_eq_false, gt_iff_lt, ge_iff_le, Int.reduceLT, Int.reduceLE, Int.reduceToNat, Int.toNat_natCast, Nat.mul_one, Nat.add_zero, List.getElem?_drop, ints_get', bools_get', Option.isSome_none, Option.isSome_some, Option.isNone_none, Option.isNone_some, Bool.not_eq_true', decide_eq_false_iff_not, Bool.not_true, Bool.not_false, put_mk, put_mk0, ev_tmp, ev_const, ev_func, T.get_set, T_ofList, ofVal_int, ofVal_bool, ofVal_string, ofVal_nils, ofVal_nilp, ofVal_nilm, binA_lss, binA_leq, binA_gtr, binA_geq, binA_eql, binA_neq, binA_sub, binA_add, binA_mul, binA_quo, binA_rem, binA_or, binA_and, binA_xor, binA_seql, binA_sneq, unA_not, toVal_b, toVal_i, builtinP, builtinA, changes, fieldAddrA, resA, tupled, rowAt_app0, foldA_min, foldA_max, rowAt_app, set_app0', rep_bools, rep_ints, set_bools, set_ints, List.length_set, List.length_replicate, Option.bind_none, rowAt_app, rowAt_cons0, take_app, ints_len, bools_len, wrap_i64, IntWalk.i64_quo, IntWalk.rem_in, List.set_cons_zero, List.set_cons_succ, List.nil_append, List.take_length, List.take_nil, List.take_zero, decide_eq_true_eq, Option.getD_some, Option.map_some, Option.map_none, Option.bind_some, List.getElem?_cons_zero, List.getElem?_cons_succ, List.map_cons, List.map_nil, List.length_cons, List.length_nil, Nat.zero_add, ↓reduceIte, Nat.reduceEqDiff, Nat.reduceLT, ne_eq, Int.reduceEq, not_false_eq_true, Option.bind_some, if_false_right, if_true_right, and_true, true_and, Bool.false_eq_true, Bool.true_eq_false, frz_i, frz_b, frz_s, frz_nils, frz_arr, frz_tup, frzC_i, frzC_b, frzC_s, frzC_nils, frzC_arr, sh3, sz3, by3, ag3, kn3, ze3, ld3, li3, sto3, sh4, sz4, by4, ag4, kn4, ze4, ld4, li4, sto4, sh9, sz9, by9, ag9, kn9, ze9, ld9, li9, sto9, les9, ixs9, sh25, sz25, by25, ag25, kn25, ze25, ld25, li25, sto25, sh72, sz72, by72, ag72, kn72, el72, ze72, ld72, li72, sto72, ix72, ia72, mk72, ixi72, iai72, le72, lr72, ln72, alive12_ok, r1, r2, r3, r4, h1, h2, hle, beq4, S_size, List.take_zero]
    refine congrArg (fun b => (V.b b, ([] : List O))) ?_
    rw [decide_eq_true_eq]
    split <;> omega
theorem law15 (l : List UInt8) (hn : l.length ≤ 140737488355328) : runF cfg 15 [.s (S l)] [] [] = some (.b true, []) := by
  refine run_done rfl rfl Try.func15 rfl ?_
  have r1 := fun σ p => parent_ok (σ := σ) (p := p) l hn
  cases hs : splitR l with
  | none =>
    have hv : parentV l = [.s .empty, .s .empty, .i .i64 12] := by rw [parentV, hs]
    rw [hv] at r1
    obtain ⟨L, x, r3, hx⟩ := split_see l hn [] [2]
    rw [hs] at r3 hx
    simp only [List.nil_append] at r3 hx
    simp +contextual (disch := first | omega | exact rfl | decide | assumption | exact one_b | exact one_i | exact one_sl | exact one_s | exact one_arr | exact one_ptr | (simp only [List.length_cons, List.length_nil, List.length_set, List.length_append, ints_len, bools_len] <;> omega) | (simp only [List.map_cons, List.map_nil, fk_i, fk_s, fk_b, List.map_append, List.cons_append, List.nil_append]) | (simp only [List.all_cons, List.all_nil, one_nilp, one_nils, one_nilf, one_nili, one_nilm, one_iptr, one_fn, one_iface, one_b, one_i, one_s, one_sl, one_arr, one_ptr, Bool.and_self, Bool.and_true, Bool.true_and] <;> assumption)) only [Try.f15, Wp_seq, Wp_region, Wp_cond, Wp_skip, Wp_ret, Wp_exit, Wp_label, Wp_block, Wp_scope, thenQ_normal, thenQ_exit, thenQ_ret, blockQ_normal, blockQ_exit, blockQ_ret, upQ_normal, upQ_exit, upQ_ret, downQ_normal, downQ_exit, downQ_ret, Ops_cons, Ops_nil, Step_op, Step_call, SOp, SCall_fn, OptQ_some, OptQ_none, OptQ_map, OptQ_bind, OptQ_ite, Br_b, DoneQ_normal, DoneQ_ret, Step_guard2, GStep_op, GStep_call, callA_fn, GOp, gopt_true, gopt_false, gopt_some, vg_true, vg_false, cg_same, cg_true, cg_false, ↓SOp_pick, PkQ_b, pk_true, pk_false, pk_same, pk_and, pk_or, pk_andn, pk_orn, pk_or2, pk_or3, castLit, List.set_set, emp, Int.reduceAdd, Int.reduceSub, Int.reduceMul, Int.reduceNeg, get_app0, get_app, eqB_nil, eqB_cons, scB_i, scB_s, scB_b, all_tt, TrQ_nil, TrQ_cons, accs, touch, touchM, okPair, O.eqb_refl, List.flatMap_cons, List.flatMap_nil, partsAt_nil, partsAt_cons, fill_nil, fill_one, fill_agg, cells_agg, cells_one, splice_all, take_all, List.length_append, List.append_assoc, List.cons_append, rowAt_succ, set_app, set_app0, take_app, take_app2, take_set2, rowAt_app2, List.length_set, one_nilp, one_nils, one_nilf, one_nili, one_nilm, one_iptr, one_fn, one_iface, one_b, one_i, one_s, one_sl, one_arr, one_ptr, List.all_cons, List.all_nil, freezeC_agg, freezeC_ptr, freezeC_nilp, freezeC_nili, frz_agg, frz_int, frz_bool, frz1_s, frz1_nils, frz1_nilp, frz1_nilf, frz1_nili, frz1_nilm, frz1_arr, frz1_ptr, Nat.reduceAdd, Nat.reduceLeDiff, Nat.reduceMul, Nat.reduceSub, isV, opA, guard_of, grdO, grd, List.getElem?_toArray, beq_false, beq_true, decide_true, decide_false, not_true_eq_false, not_false_eq_true, false_implies, true_implies, imp_self, implies_true, or_true, true_or, or_false, false_or, false_and, and_false, or_self, beq_self_eq_true, Bool.and_true, Bool.true_and, Bool.and_false, Bool.false_and, Bool.or_true, Bool.true_or, Bool.or_false, Bool.false_or, Bool.not_eq_false, gt_iff_lt, ge_iff_le, Int.reduceLT, Int.reduceLE, Int.reduceToNat, Int.toNat_natCast, Nat.mul_one, Nat.add_zero, List.getElem?_drop, ints_get', bools_get', Option.isSome_none, Option.isSome_some, Option.isNone_none, Option.isNone_some, Bool.not_eq_true', decide_eq_false_iff_not, Bool.not_true, Bool.not_false, put_mk, put_mk0, ev_tmp, ev_const, ev_func, T.get_set, T_ofList, ofVal_int, ofVal_bool, ofVal_string, ofVal_nils, ofVal_nilp, ofVal_nilm, binA_lss, binA_leq, binA_gtr, binA_geq, binA_eql, binA_neq, binA_sub, binA_add, binA_mul, binA_quo, binA_rem, binA_or, binA_and, binA_xor, binA_seql, binA_sneq, unA_not, toVal_b, toVal_i, builtinP, builtinA, changes, fieldAddrA, resA, tupled, rowAt_app0, foldA_min, foldA_max, rowAt_app, set_app0', rep_bools, rep_ints, set_bools, set_ints, List.length_set, List.length_replicate, Option.bind_none, rowAt_app, rowAt_cons0, take_app, ints_len, bools_len, wrap_i64, IntWalk.i64_quo, IntWalk.rem_in, List.set_cons_zero, List.set_cons_succ, List.nil_append, List.take_length, List.take_nil, List.take_zero, decide_eq_true_eq, Option.getD_some, Option.map_some, Option.map_none, Option.bind_some, List.getElem?_cons_zero, List.getElem?_cons_succ, List.map_cons, List.map_nil, List.length_cons, List.length_nil, Nat.zero_add, ↓reduceIte, Nat.reduceEqDiff, Nat.reduceLT, ne_eq, Int.reduceEq, not_false_eq_true, Option.bind_some, if_false_right, if_true_right, and_true, true_and, Bool.false_eq_true, Bool.true_eq_false, frz_i, frz_b, frz_s, frz_nils, frz_arr, frz_tup, frzC_i, frzC_b, frzC_s, frzC_nils, frzC_arr, sh3, sz3, by3, ag3, kn3, ze3, ld3, li3, sto3, sh4, sz4, by4, ag4, kn4, ze4, ld4, li4, sto4, sh9, sz9, by9, ag9, kn9, ze9, ld9, li9, sto9, les9, ixs9, sh25, sz25, by25, ag25, kn25, ze25, ld25, li25, sto25, sh72, sz72, by72, ag72, kn72, el72, ze72, ld72, li72, sto72, ix72, ia72, mk72, ixi72, iai72, le72, lr72, ln72, alive12_ok, r1, r3, List.take_zero]
  | some t =>
    obtain ⟨ss, a, d⟩ := t
    have hv : parentV l = if ss = [] ∨ ss.getLastD [] = [46, 46] then [.s .empty, .s .empty, .i .i64 12] else [.s (S (joinedL ss.dropLast a)), .s (S (ss.getLastD [])), .i .i64 0] := by rw [parentV, hs]
    obtain ⟨L, x, r3, hx⟩ := split_see l hn [] [2]
    rw [hs] at r3 hx
    simp only [List.nil_append] at r3 hx
    have h1 := hx.len sh72
    rw [sS_len] at h1
    obtain ⟨hsl, hsq, _⟩ := steps_small hs
    by_cases h0 : ss = []
    · rw [if_pos (.inl h0)] at hv
      rw [hv] at r1
      subst h0
      simp +contextual (disch := first | omega | exact rfl | decide | assumption | exact one_b | exact one_i | exact one_sl | exact one_s | exact one_arr | exact one_ptr | (simp only [List.length_cons, List.length_nil, List.length_set, List.length_append, ints_len, bools_len] <;> omega) | (simp only [List.map_cons, List.map_nil, fk_i, fk_s, fk_b, List.map_append, List.cons_append, List.nil_append]) | (simp only [List.all_cons, List.all_nil, one_nilp, one_nils, one_nilf, one_nili, one_nilm, one_iptr, one_fn, one_iface, one_b, one_i, one_s, one_sl, one_arr, one_ptr, Bool.and_self, Bool.and_true, Bool.true_and] <;> assumption)) only [Try.f15, Wp_seq, Wp_region, Wp_cond, Wp_skip, Wp_ret, Wp_exit, Wp_label, Wp_block, Wp_scope, thenQ_normal, thenQ_exit, thenQ_ret, blockQ_normal, blockQ_exit, blockQ_ret, upQ_normal, upQ_exit, upQ_ret, downQ_normal, downQ_exit, downQ_ret, Ops_cons, Ops_nil, Step_op, Step_call, SOp, SCall_fn, OptQ_some, OptQ_none, OptQ_map, OptQ_bind, OptQ_ite, Br_b, DoneQ_normal, DoneQ_ret, Step_guard2, GStep_op, GStep_call, callA_fn, GOp, gopt_true, gopt_false, gopt_some, vg_true, vg_false, cg_same, cg_true, cg_false, ↓SOp_pick, PkQ_b, pk_true, pk_false, pk_same, pk_and, pk_or, pk_andn, pk_orn, pk_or2, pk_or3, castLit, List.set_set, emp, Int.reduceAdd, Int.reduceSub, Int.reduceMul, Int.reduceNeg, get_app0, get_app, eqB_nil, eqB_cons, scB_i, scB_s, scB_b, all_tt, TrQ_nil, TrQ_cons, accs, touch, touchM, okPair, O.eqb_refl, List.flatMap_cons, List.flatMap_nil, partsAt_nil, partsAt_cons, fill_nil, fill_one, fill_agg, cells_agg, cells_one, splice_all, take_all, List.length_append, List.append_assoc, List.cons_append, rowAt_succ, set_app, set_app0, take_app, take_app2, take_set2, rowAt_app2, List.length_set, one_nilp, one_nils, one_nilf, one_nili, one_nilm, one_iptr, one_fn, one_iface, one_b, one_i, one_s, one_sl, one_arr, one_ptr, List.all_cons, List.all_nil, freezeC_agg, freezeC_ptr, freezeC_nilp, freezeC_nili, frz_agg, frz_int, frz_bool, frz1_s, frz1_nils, frz1_nilp, frz1_nilf, frz1_nili, frz1_nilm, frz1_arr, frz1_ptr, Nat.reduceAdd, Nat.reduceLeDiff, Nat.reduceMul, Nat.reduceSub, isV, opA, guard_of, grdO, grd, List.getElem?_toArray, beq_false, beq_true, decide_true, decide_false, not_true_eq_false, not_false_eq_true, false_implies, true_implies, imp_self, implies_true, or_true, true_or, or_false, false_or, false_and, and_false, or_self, beq_self_eq_true, Bool.and_true, Bool.true_and, Bool.and_false, Bool.false_and, Bool.or_true, Bool.true_or, Bool.or_false, Bool.false_or, Bool.not_eq_false, gt_iff_lt, ge_iff_le, Int.reduceLT, Int.reduceLE, Int.reduceToNat, Int.toNat_natCast, Nat.mul_one, Nat.add_zero, List.getElem?_drop, ints_get', bools_get', Option.isSome_none, Option.isSome_some, Option.isNone_none, Option.isNone_some, Bool.not_eq_true', decide_eq_false_iff_not, Bool.not_true, Bool.not_false, put_mk, put_mk0, ev_tmp, ev_const, ev_func, T.get_set, T_ofList, ofVal_int, ofVal_bool, ofVal_string, ofVal_nils, ofVal_nilp, ofVal_nilm, binA_lss, binA_leq, binA_gtr, binA_geq, binA_eql, binA_neq, binA_sub, binA_add, binA_mul, binA_quo, binA_rem, binA_or, binA_and, binA_xor, binA_seql, binA_sneq, unA_not, toVal_b, toVal_i, builtinP, builtinA, changes, fieldAddrA, resA, tupled, rowAt_app0, foldA_min, foldA_max, rowAt_app, set_app0', rep_bools, rep_ints, set_bools, set_ints, List.length_set, List.length_replicate, Option.bind_none, rowAt_app, rowAt_cons0, take_app, ints_len, bools_len, wrap_i64, IntWalk.i64_quo, IntWalk.rem_in, List.set_cons_zero, List.set_cons_succ, List.nil_append, List.take_length, List.take_nil, List.take_zero, decide_eq_true_eq, Option.getD_some, Option.map_some, Option.map_none, Option.bind_some, List.getElem?_cons_zero, List.getElem?_cons_succ, List.map_cons, List.map_nil, List.length_cons, List.length_nil, Nat.zero_add, ↓reduceIte, Nat.reduceEqDiff, Nat.reduceLT, ne_eq, Int.reduceEq, not_false_eq_true, Option.bind_some, if_false_right, if_true_right, and_true, true_and, Bool.false_eq_true, Bool.true_eq_false, frz_i, frz_b, frz_s, frz_nils, frz_arr, frz_tup, frzC_i, frzC_b, frzC_s, frzC_nils, frzC_arr, sh3, sz3, by3, ag3, kn3, ze3, ld3, li3, sto3, sh4, sz4, by4, ag4, kn4, ze4, ld4, li4, sto4, sh9, sz9, by9, ag9, kn9, ze9, ld9, li9, sto9, les9, ixs9, sh25, sz25, by25, ag25, kn25, ze25, ld25, li25, sto25, sh72, sz72, by72, ag72, kn72, el72, ze72, ld72, li72, sto72, ix72, ia72, mk72, ixi72, iai72, le72, lr72, ln72, alive12_ok, r1, r3, h1, List.take_zero]
    · rcases List.eq_nil_or_concat ss with hk0 | ⟨k0, b, hk0⟩
      · exact absurd hk0 h0
      rw [List.concat_eq_append] at hk0
      have hkl0 : ss.length = k0.length + 1 := by rw [hk0]; simp
      have e0 : ((ss.length : Nat) : Int) - 1 = (k0.length : Int) := by omega
      have e2 : (((ss.length : Nat) : Int) = 0) = False := eq_false (by omega)
      have hlast : ss.getLastD [] = b := by rw [hk0]; simp [List.getLastD_eq_getLast?]
      have hdl : ss.dropLast = k0 := by rw [hk0]; simp
      rw [hlast, hdl] at hv
      obtain ⟨bd, hb1, hb2⟩ := hx.at sh72 sz9 ag9 .i64 k0.length (by rw [sS_len]; omega)
      have hb3 : loadA cfg 9 L bd = some (.s (S b)) := by
        rw [hb2 _ _ hx]
        rw [hk0, sS_app, sS_one, List.getElem?_append_right (by rw [sS_len]; exact Nat.le_refl _)]; simp [sS_len]
      by_cases hbu : b = [46, 46]
      · have hbu' : (b = [46, 46]) = True := eq_true hbu
        rw [if_pos (.inr hbu)] at hv
        rw [hv] at r1
        simp +contextual (disch := first | omega | exact rfl | decide | assumption | exact one_b | exact one_i | exact one_sl | exact one_s | exact one_arr | exact one_ptr | (simp only [List.length_cons, List.length_nil, List.length_set, List.length_append, ints_len, bools_len] <;> omega) | (simp only [List.map_cons, List.map_nil, fk_i, fk_s, fk_b, List.map_append, List.cons_append, List.nil_append]) | (simp only [List.all_cons, List.all_nil, one_nilp, one_nils, one_nilf, one_nili, one_nilm, one_iptr, one_fn, one_iface, one_b, one_i, one_s, one_sl, one_arr, one_ptr, Bool.and_self, Bool.and_true, Bool.true_and] <;> assumption)) only [Try.f15, Wp_seq, Wp_region, Wp_cond, Wp_skip, Wp_ret, Wp_exit, Wp_label, Wp_block, Wp_scope, thenQ_normal, thenQ_exit, thenQ_ret, blockQ_normal, blockQ_exit, blockQ_ret, upQ_normal, upQ_exit, upQ_ret, downQ_normal, downQ_exit, downQ_ret, Ops_cons, Ops_nil, Step_op, Step_call, SOp, SCall_fn, OptQ_some, OptQ_none, OptQ_map, OptQ_bind, OptQ_ite, Br_b, DoneQ_normal, DoneQ_ret, Step_guard2, GStep_op, GStep_call, callA_fn, GOp, gopt_true, gopt_false, gopt_some, vg_true, vg_false, cg_same, cg_true, cg_false, ↓SOp_pick, PkQ_b, pk_true, pk_false, pk_same, pk_and, pk_or, pk_andn, pk_orn, pk_or2, pk_or3, castLit, List.set_set, emp, Int.reduceAdd, Int.reduceSub, Int.reduceMul, Int.reduceNeg, get_app0, get_app, eqB_nil, eqB_cons, scB_i, scB_s, scB_b, all_tt, TrQ_nil, TrQ_cons, accs, touch, touchM, okPair, O.eqb_refl, List.flatMap_cons, List.flatMap_nil, partsAt_nil, partsAt_cons, fill_nil, fill_one, fill_agg, cells_agg, cells_one, splice_all, take_all, List.length_append, List.append_assoc, List.cons_append, rowAt_succ, set_app, set_app0, take_app, take_app2, take_set2, rowAt_app2, List.length_set, one_nilp, one_nils, one_nilf, one_nili, one_nilm, one_iptr, one_fn, one_iface, one_b, one_i, one_s, one_sl, one_arr, one_ptr, List.all_cons, List.all_nil, freezeC_agg, freezeC_ptr, freezeC_nilp, freezeC_nili, frz_agg, frz_int, frz_bool, frz1_s, frz1_nils, frz1_nilp, frz1_nilf, frz1_nili, frz1_nilm, frz1_arr, frz1_ptr, Nat.reduceAdd, Nat.reduceLeDiff, Nat.reduceMul, Nat.reduceSub, isV, opA, guard_of, grdO, grd, List.getElem?_toArray, beq_false, beq_true, decide_true, decide_false, not_true_eq_false, not_false_eq_true, false_implies, true_implies, imp_self, implies_true, or_true, true_or, or_false, false_or, false_and, and_false, or_self, beq_self_eq_true, Bool.and_true, Bool.true_and, Bool.and_false, Bool.false_and, Bool.or_true, Bool.true_or, Bool.or_false, Bool.false_or, Bool.not_eq_false, gt_iff_lt, ge_iff_le, Int.reduceLT, Int.reduceLE, Int.reduceToNat, Int.toNat_natCast, Nat.mul_one, Nat.add_zero, List.getElem?_drop, ints_get', bools_get', Option.isSome_none, Option.isSome_some, Option.isNone_none, Option.isNone_some, Bool.not_eq_true', decide_eq_false_iff_not, Bool.not_true, Bool.not_false, put_mk, put_mk0, ev_tmp, ev_const, ev_func, T.get_set, T_ofList, ofVal_int, ofVal_bool, ofVal_string, ofVal_nils, ofVal_nilp, ofVal_nilm, binA_lss, binA_leq, binA_gtr, binA_geq, binA_eql, binA_neq, binA_sub, binA_add, binA_mul, binA_quo, binA_rem, binA_or, binA_and, binA_xor, binA_seql, binA_sneq, unA_not, toVal_b, toVal_i, builtinP, builtinA, changes, fieldAddrA, resA, tupled, rowAt_app0, foldA_min, foldA_max, rowAt_app, set_app0', rep_bools, rep_ints, set_bools, set_ints, List.length_set, List.length_replicate, Option.bind_none, rowAt_app, rowAt_cons0, take_app, ints_len, bools_len, wrap_i64, IntWalk.i64_quo, IntWalk.rem_in, List.set_cons_zero, List.set_cons_succ, List.nil_append, List.take_length, List.take_nil, List.take_zero, decide_eq_true_eq, Option.getD_some, Option.map_some, Option.map_none, Option.bind_some, List.getElem?_cons_zero, List.getElem?_cons_succ, List.map_cons, List.map_nil, List.length_cons, List.length_nil, Nat.zero_add, ↓reduceIte, Nat.reduceEqDiff, Nat.reduceLT, ne_eq, Int.reduceEq, not_false_eq_true, Option.bind_some, if_false_right, if_true_right, and_true, true_and, Bool.false_eq_true, Bool.true_eq_false, frz_i, frz_b, frz_s, frz_nils, frz_arr, frz_tup, frzC_i, frzC_b, frzC_s, frzC_nils, frzC_arr, sh3, sz3, by3, ag3, kn3, ze3, ld3, li3, sto3, sh4, sz4, by4, ag4, kn4, ze4, ld4, li4, sto4, sh9, sz9, by9, ag9, kn9, ze9, ld9, li9, sto9, les9, ixs9, sh25, sz25, by25, ag25, kn25, ze25, ld25, li25, sto25, sh72, sz72, by72, ag72, kn72, el72, ze72, ld72, li72, sto72, ix72, ia72, mk72, ixi72, iai72, le72, lr72, ln72, alive12_ok, r1, r3, h1, e0, e2, hb1, hb3, S_lit, hbu', List.take_zero]
      · rw [if_neg (by rintro (h | h); exact h0 h; exact hbu h)] at hv
        rw [hv] at r1
        obtain ⟨⟨d', hs2⟩, hlen⟩ := split_joined hs (ks := k0) (by rw [hk0]; exact List.sublist_append_left _ _)
        have hsn : (joinedL k0 a).length ≤ 140737488355328 := by omega
        obtain ⟨L2, y, r4, hy⟩ := split_see (joinedL k0 a) hsn L [3]
        rw [hs2] at r4 hy
        obtain ⟨_, hbi, hbo⟩ := hsq b (by rw [hk0]; simp)
        have hbv : validL b = true := by
          unfold okP at hbo
          rw [hbi] at hbo
          simpa [hbu] using hbo
        have r5 := fun σ p => valid_ok (σ := σ) (p := p) b (by have := (hsq b (by rw [hk0]; simp)).1; omega)
        rw [hbv] at r5
        simp +contextual (disch := first | omega | exact rfl | decide | assumption | exact one_b | exact one_i | exact one_sl | exact one_s | exact one_arr | exact one_ptr | (simp only [List.length_cons, List.length_nil, List.length_set, List.length_append, ints_len, bools_len] <;> omega) | (simp only [List.map_cons, List.map_nil, fk_i, fk_s, fk_b, List.map_append, List.cons_append, List.nil_append]) | (simp only [List.all_cons, List.all_nil, one_nilp, one_nils, one_nilf, one_nili, one_nilm, one_iptr, one_fn, one_iface, one_b, one_i, one_s, one_sl, one_arr, one_ptr, Bool.and_self, Bool.and_true, Bool.true_and] <;> assumption)) only [Try.f15, Wp_seq, Wp_region, Wp_cond, Wp_skip, Wp_ret, Wp_exit, Wp_label, Wp_block, Wp_scope, thenQ_normal, thenQ_exit, thenQ_ret, blockQ_normal, blockQ_exit, blockQ_ret, upQ_normal, upQ_exit, upQ_ret, downQ_normal, downQ_exit, downQ_ret, Ops_cons, Ops_nil, Step_op, Step_call, SOp, SCall_fn, OptQ_some, OptQ_none, OptQ_map, OptQ_bind, OptQ_ite, Br_b, DoneQ_normal, DoneQ_ret, Step_guard2, GStep_op, GStep_call, callA_fn, GOp, gopt_true, gopt_false, gopt_some, vg_true, vg_false, cg_same, cg_true, cg_false, ↓SOp_pick, PkQ_b, pk_true, pk_false, pk_same, pk_and, pk_or, pk_andn, pk_orn, pk_or2, pk_or3, castLit, List.set_set, emp, Int.reduceAdd, Int.reduceSub, Int.reduceMul, Int.reduceNeg, get_app0, get_app, eqB_nil, eqB_cons, scB_i, scB_s, scB_b, all_tt, TrQ_nil, TrQ_cons, accs, touch, touchM, okPair, O.eqb_refl, List.flatMap_cons, List.flatMap_nil, partsAt_nil, partsAt_cons, fill_nil, fill_one, fill_agg, cells_agg, cells_one, splice_all, take_all, List.length_append, List.append_assoc, List.cons_append, rowAt_succ, set_app, set_app0, take_app, take_app2, take_set2, rowAt_app2, List.length_set, one_nilp, one_nils, one_nilf, one_nili, one_nilm, one_iptr, one_fn, one_iface, one_b, one_i, one_s, one_sl, one_arr, one_ptr, List.all_cons, List.all_nil, freezeC_agg, freezeC_ptr, freezeC_nilp, freezeC_nili, frz_agg, frz_int, frz_bool, frz1_s, frz1_nils, frz1_nilp, frz1_nilf, frz1_nili, frz1_nilm, frz1_arr, frz1_ptr, Nat.reduceAdd, Nat.reduceLeDiff, Nat.reduceMul, Nat.reduceSub, isV, opA, guard_of, grdO, grd, List.getElem?_toArray, beq_false, beq_true, decide_true, decide_false, not_true_eq_false, not_false_eq_true, false_implies, true_implies, imp_self, implies_true, or_true, true_or, or_false, false_or, false_and, and_false, or_self, beq_self_eq_true, Bool.and_true, Bool.true_and, Bool.and_false, Bool.false_and, Bool.or_true, Bool.true_or, Bool.or_false, Bool.false_or, Bool.not_eq_false, gt_iff_lt, ge_iff_le, Int.reduceLT, Int.reduceLE, Int.reduceToNat, Int.toNat_natCast, Nat.mul_one, Nat.add_zero, List.getElem?_drop, ints_get', bools_get', Option.isSome_none, Option.isSome_some, Option.isNone_none, Option.isNone_some, Bool.not_eq_true', decide_eq_false_iff_not, Bool.not_true, Bool.not_false, put_mk, put_mk0, ev_tmp, ev_const, ev_func, T.get_set, T_ofList, ofVal_int, ofVal_bool, ofVal_string, ofVal_nils, ofVal_nilp, ofVal_nilm, binA_lss, binA_leq, binA_gtr, binA_geq, binA_eql, binA_neq, binA_sub, binA_add, binA_mul, binA_quo, binA_rem, binA_or, binA_and, binA_xor, binA_seql, binA_sneq, unA_not, toVal_b, toVal_i, builtinP, builtinA, changes, fieldAddrA, resA, tupled, rowAt_app0, foldA_min, foldA_max, rowAt_app, set_app0', rep_bools, rep_ints, set_bools, set_ints, List.length_set, List.length_replicate, Option.bind_none, rowAt_app, rowAt_cons0, take_app, ints_len, bools_len, wrap_i64, IntWalk.i64_quo, IntWalk.rem_in, List.set_cons_zero, List.set_cons_succ, List.nil_append, List.take_length, List.take_nil, List.take_zero, decide_eq_true_eq, Option.getD_some, Option.map_some, Option.map_none, Option.bind_some, List.getElem?_cons_zero, List.getElem?_cons_succ, List.map_cons, List.map_nil, List.length_cons, List.length_nil, Nat.zero_add, ↓reduceIte, Nat.reduceEqDiff, Nat.reduceLT, ne_eq, Int.reduceEq, not_false_eq_true, Option.bind_some, if_false_right, if_true_right, and_true, true_and, Bool.false_eq_true, Bool.true_eq_false, frz_i, frz_b, frz_s, frz_nils, frz_arr, frz_tup, frzC_i, frzC_b, frzC_s, frzC_nils, frzC_arr, sh3, sz3, by3, ag3, kn3, ze3, ld3, li3, sto3, sh4, sz4, by4, ag4, kn4, ze4, ld4, li4, sto4, sh9, sz9, by9, ag9, kn9, ze9, ld9, li9, sto9, les9, ixs9, sh25, sz25, by25, ag25, kn25, ze25, ld25, li25, sto25, sh72, sz72, by72, ag72, kn72, el72, ze72, ld72, li72, sto72, ix72, ia72, mk72, ixi72, iai72, le72, lr72, ln72, alive12_ok, r1, r3, r4, r5, h1, e0, e2, hb1, hb3, beq4, List.take_zero, buildSliceA, List.replicate_succ, List.replicate_zero, List.flatten_cons, List.flatten_nil]
        have hel := hy.elems
        rw [sS_len] at hel
        have hxx : ∀ T, View (L ++ (L2 ++ T)) x (sS ss) := fun T => by have := hx.app (L2 ++ T); exact this
        by_cases hk : k0 = []
        · subst hk
          have ha : appendA cfg 72 (L ++ L2) [6] (.arr [] 0 true) y = some (.arr [] 0 true, L ++ L2) := by
            simp only [appendA, el72, Option.bind_some, hel, List.length_nil, if_true]
          refine ⟨_, ha, ?_⟩
          simp +contextual (disch := first | omega | exact rfl | decide | assumption | exact one_b | exact one_i | exact one_sl | exact one_s | exact one_arr | exact one_ptr | (simp only [List.length_cons, List.length_nil, List.length_set, List.length_append, ints_len, bools_len] <;> omega) | (simp only [List.map_cons, List.map_nil, fk_i, fk_s, fk_b, List.map_append, List.cons_append, List.nil_append]) | (simp only [List.all_cons, List.all_nil, one_nilp, one_nils, one_nilf, one_nili, one_nilm, one_iptr, one_fn, one_iface, one_b, one_i, one_s, one_sl, one_arr, one_ptr, Bool.and_self, Bool.and_true, Bool.true_and] <;> assumption)) only [Wp_seq, Wp_region, Wp_cond, Wp_skip, Wp_ret, Wp_exit, Wp_label, Wp_block, Wp_scope, thenQ_normal, thenQ_exit, thenQ_ret, blockQ_normal, blockQ_exit, blockQ_ret, upQ_normal, upQ_exit, upQ_ret, downQ_normal, downQ_exit, downQ_ret, Ops_cons, Ops_nil, Step_op, Step_call, SOp, SCall_fn, OptQ_some, OptQ_none, OptQ_map, OptQ_bind, OptQ_ite, Br_b, DoneQ_normal, DoneQ_ret, Step_guard2, GStep_op, GStep_call, callA_fn, GOp, gopt_true, gopt_false, gopt_some, vg_true, vg_false, cg_same, cg_true, cg_false, ↓SOp_pick, PkQ_b, pk_true, pk_false, pk_same, pk_and, pk_or, pk_andn, pk_orn, pk_or2, pk_or3, castLit, List.set_set, emp, Int.reduceAdd, Int.reduceSub, Int.reduceMul, Int.reduceNeg, get_app0, get_app, eqB_nil, eqB_cons, scB_i, scB_s, scB_b, all_tt, TrQ_nil, TrQ_cons, accs, touch, touchM, okPair, O.eqb_refl, List.flatMap_cons, List.flatMap_nil, partsAt_nil, partsAt_cons, fill_nil, fill_one, fill_agg, cells_agg, cells_one, splice_all, take_all, List.length_append, List.append_assoc, List.cons_append, rowAt_succ, set_app, set_app0, take_app, take_app2, take_set2, rowAt_app2, List.length_set, one_nilp, one_nils, one_nilf, one_nili, one_nilm, one_iptr, one_fn, one_iface, one_b, one_i, one_s, one_sl, one_arr, one_ptr, List.all_cons, List.all_nil, freezeC_agg, freezeC_ptr, freezeC_nilp, freezeC_nili, frz_agg, frz_int, frz_bool, frz1_s, frz1_nils, frz1_nilp, frz1_nilf, frz1_nili, frz1_nilm, frz1_arr, frz1_ptr, Nat.reduceAdd, Nat.reduceLeDiff, Nat.reduceMul, Nat.reduceSub, isV, opA, guard_of, grdO, grd, List.getElem?_toArray, beq_false, beq_true, decide_true, decide_false, not_true_eq_false, not_false_eq_true, false_implies, true_implies, imp_self, implies_true, or_true, true_or, or_false, false_or, false_and, and_false, or_self, beq_self_eq_true, Bool.and_true, Bool.true_and, Bool.and_false, Bool.false_and, Bool.or_true, Bool.true_or, Bool.or_false, Bool.false_or, Bool.not_eq_false, gt_iff_lt, ge_iff_le, Int.reduceLT, Int.reduceLE, Int.reduceToNat, Int.toNat_natCast, Nat.mul_one, Nat.add_zero, List.getElem?_drop, ints_get', bools_get', Option.isSome_none, Option.isSome_some, Option.isNone_none, Option.isNone_some, Bool.not_eq_true', decide_eq_false_iff_not, Bool.not_true, Bool.not_false, put_mk, put_mk0, ev_tmp, ev_const, ev_func, T.get_set, T_ofList, ofVal_int, ofVal_bool, ofVal_string, ofVal_nils, ofVal_nilp, ofVal_nilm, binA_lss, binA_leq, binA_gtr, binA_geq, binA_eql, binA_neq, binA_sub, binA_add, binA_mul, binA_quo, binA_rem, binA_or, binA_and, binA_xor, binA_seql, binA_sneq, unA_not, toVal_b, toVal_i, builtinP, builtinA, changes, fieldAddrA, resA, tupled, rowAt_app0, foldA_min, foldA_max, rowAt_app, set_app0', rep_bools, rep_ints, set_bools, set_ints, List.length_set, List.length_replicate, Option.bind_none, rowAt_app, rowAt_cons0, take_app, ints_len, bools_len, wrap_i64, IntWalk.i64_quo, IntWalk.rem_in, List.set_cons_zero, List.set_cons_succ, List.nil_append, List.take_length, List.take_nil, List.take_zero, decide_eq_true_eq, Option.getD_some, Option.map_some, Option.map_none, Option.bind_some, List.getElem?_cons_zero, List.getElem?_cons_succ, List.map_cons, List.map_nil, List.length_cons, List.length_nil, Nat.zero_add, ↓reduceIte, Nat.reduceEqDiff, Nat.reduceLT, ne_eq, Int.reduceEq, not_false_eq_true, Option.bind_some, if_false_right, if_true_right, and_true, true_and, Bool.false_eq_true, Bool.true_eq_false, frz_i, frz_b, frz_s, frz_nils, frz_arr, frz_tup, frzC_i, frzC_b, frzC_s, frzC_nils, frzC_arr, sh3, sz3, by3, ag3, kn3, ze3, ld3, li3, sto3, sh4, sz4, by4, ag4, kn4, ze4, ld4, li4, sto4, sh9, sz9, by9, ag9, kn9, ze9, ld9, li9, sto9, les9, ixs9, sh25, sz25, by25, ag25, kn25, ze25, ld25, li25, sto25, sh72, sz72, by72, ag72, kn72, el72, ze72, ld72, li72, sto72, ix72, ia72, mk72, ixi72, iai72, le72, lr72, ln72, r1, r3, r4, r5, h1, e0, e2, hb1, hb3, beq4, List.take_zero, buildSliceA, List.replicate_succ, List.replicate_zero, List.flatten_cons, List.flatten_nil]
          refine ⟨_, app_empty (m := 0) el72 by9 (elems1 (by rw [rowAt_app, rowAt_app0, rowAt_cons0])) (by omega), ?_⟩
          simp +contextual (disch := first | omega | exact rfl | decide | assumption | exact one_b | exact one_i | exact one_sl | exact one_s | exact one_arr | exact one_ptr | (simp only [List.length_cons, List.length_nil, List.length_set, List.length_append, ints_len, bools_len] <;> omega) | (simp only [List.map_cons, List.map_nil, fk_i, fk_s, fk_b, List.map_append, List.cons_append, List.nil_append]) | (simp only [List.all_cons, List.all_nil, one_nilp, one_nils, one_nilf, one_nili, one_nilm, one_iptr, one_fn, one_iface, one_b, one_i, one_s, one_sl, one_arr, one_ptr, Bool.and_self, Bool.and_true, Bool.true_and] <;> assumption)) only [Wp_seq, Wp_region, Wp_cond, Wp_skip, Wp_ret, Wp_exit, Wp_label, Wp_block, Wp_scope, thenQ_normal, thenQ_exit, thenQ_ret, blockQ_normal, blockQ_exit, blockQ_ret, upQ_normal, upQ_exit, upQ_ret, downQ_normal, downQ_exit, downQ_ret, Ops_cons, Ops_nil, Step_op, Step_call, SOp, SCall_fn, OptQ_some, OptQ_none, OptQ_map, OptQ_bind, OptQ_ite, Br_b, DoneQ_normal, DoneQ_ret, Step_guard2, GStep_op, GStep_call, callA_fn, GOp, gopt_true, gopt_false, gopt_some, vg_true, vg_false, cg_same, cg_true, cg_false, ↓SOp_pick, PkQ_b, pk_true, pk_false, pk_same, pk_and, pk_or, pk_andn, pk_orn, pk_or2, pk_or3, castLit, List.set_set, emp, Int.reduceAdd, Int.reduceSub, Int.reduceMul, Int.reduceNeg, get_app0, get_app, eqB_nil, eqB_cons, scB_i, scB_s, scB_b, all_tt, TrQ_nil, TrQ_cons, accs, touch, touchM, okPair, O.eqb_refl, List.flatMap_cons, List.flatMap_nil, partsAt_nil, partsAt_cons, fill_nil, fill_one, fill_agg, cells_agg, cells_one, splice_all, take_all, List.length_append, List.append_assoc, List.cons_append, rowAt_succ, set_app, set_app0, take_app, take_app2, take_set2, rowAt_app2, List.length_set, one_nilp, one_nils, one_nilf, one_nili, one_nilm, one_iptr, one_fn, one_iface, one_b, one_i, one_s, one_sl, one_arr, one_ptr, List.all_cons, List.all_nil, freezeC_agg, freezeC_ptr, freezeC_nilp, freezeC_nili, frz_agg, frz_int, frz_bool, frz1_s, frz1_nils, frz1_nilp, frz1_nilf, frz1_nili, frz1_nilm, frz1_arr, frz1_ptr, Nat.reduceAdd, Nat.reduceLeDiff, Nat.reduceMul, Nat.reduceSub, isV, opA, guard_of, grdO, grd, List.getElem?_toArray, beq_false, beq_true, decide_true, decide_false, not_true_eq_false, not_false_eq_true, false_implies, true_implies, imp_self, implies_true, or_true, true_or, or_false, false_or, false_and, and_false, or_self, beq_self_eq_true, Bool.and_true, Bool.true_and, Bool.and_false, Bool.false_and, Bool.or_true, Bool.true_or, Bool.or_false, Bool.false_or, Bool.not_eq_false, gt_iff_lt, ge_iff_le, Int.reduceLT, Int.reduceLE, Int.reduceToNat, Int.toNat_natCast, Nat.mul_one, Nat.add_zero, List.getElem?_drop, ints_get', bools_get', Option.isSome_none, Option.isSome_some, Option.isNone_none, Option.isNone_some, Bool.not_eq_true', decide_eq_false_iff_not, Bool.not_true, Bool.not_false, put_mk, put_mk0, ev_tmp, ev_const, ev_func, T.get_set, T_ofList, ofVal_int, ofVal_bool, ofVal_string, ofVal_nils, ofVal_nilp, ofVal_nilm, binA_lss, binA_leq, binA_gtr, binA_geq, binA_eql, binA_neq, binA_sub, binA_add, binA_mul, binA_quo, binA_rem, binA_or, binA_and, binA_xor, binA_seql, binA_sneq, unA_not, toVal_b, toVal_i, builtinP, builtinA, changes, fieldAddrA, resA, tupled, rowAt_app0, foldA_min, foldA_max, rowAt_app, set_app0', rep_bools, rep_ints, set_bools, set_ints, List.length_set, List.length_replicate, Option.bind_none, rowAt_app, rowAt_cons0, take_app, ints_len, bools_len, wrap_i64, IntWalk.i64_quo, IntWalk.rem_in, List.set_cons_zero, List.set_cons_succ, List.nil_append, List.take_length, List.take_nil, List.take_zero, decide_eq_true_eq, Option.getD_some, Option.map_some, Option.map_none, Option.bind_some, List.getElem?_cons_zero, List.getElem?_cons_succ, List.map_cons, List.map_nil, List.length_cons, List.length_nil, Nat.zero_add, ↓reduceIte, Nat.reduceEqDiff, Nat.reduceLT, ne_eq, Int.reduceEq, not_false_eq_true, Option.bind_some, if_false_right, if_true_right, and_true, true_and, Bool.false_eq_true, Bool.true_eq_false, frz_i, frz_b, frz_s, frz_nils, frz_arr, frz_tup, frzC_i, frzC_b, frzC_s, frzC_nils, frzC_arr, sh3, sz3, by3, ag3, kn3, ze3, ld3, li3, sto3, sh4, sz4, by4, ag4, kn4, ze4, ld4, li4, sto4, sh9, sz9, by9, ag9, kn9, ze9, ld9, li9, sto9, les9, ixs9, sh25, sz25, by25, ag25, kn25, ze25, ld25, li25, sto25, sh72, sz72, by72, ag72, kn72, el72, ze72, ld72, li72, sto72, ix72, ia72, mk72, ixi72, iai72, le72, lr72, ln72, r1, r3, r4, r5, h1, e0, e2, hb1, hb3, beq4, List.take_zero]
          refine ⟨_, ssame_ok (a := [b]) (b := ss) (by simp) ⟨rfl, rfl, fun c h => by (cases h), [.s (S b)], by rw [rowAt_app, rowAt_app]; simp [rowAt], by simp, rfl⟩ (hxx _), ?_⟩
          have hbs : decide ([b] = ss) = true := by rw [hk0]; simp
          rw [hbs]
          simp +contextual (disch := first | omega | exact rfl | decide | assumption | exact one_b | exact one_i | exact one_sl | exact one_s | exact one_arr | exact one_ptr | (simp only [List.length_cons, List.length_nil, List.length_set, List.length_append, ints_len, bools_len] <;> omega) | (simp only [List.map_cons, List.map_nil, fk_i, fk_s, fk_b, List.map_append, List.cons_append, List.nil_append]) | (simp only [List.all_cons, List.all_nil, one_nilp, one_nils, one_nilf, one_nili, one_nilm, one_iptr, one_fn, one_iface, one_b, one_i, one_s, one_sl, one_arr, one_ptr, Bool.and_self, Bool.and_true, Bool.true_and] <;> assumption)) only [Wp_seq, Wp_region, Wp_cond, Wp_skip, Wp_ret, Wp_exit, Wp_label, Wp_block, Wp_scope, thenQ_normal, thenQ_exit, thenQ_ret, blockQ_normal, blockQ_exit, blockQ_ret, upQ_normal, upQ_exit, upQ_ret, downQ_normal, downQ_exit, downQ_ret, Ops_cons, Ops_nil, Step_op, Step_call, SOp, SCall_fn, OptQ_some, OptQ_none, OptQ_map, OptQ_bind, OptQ_ite, Br_b, DoneQ_normal, DoneQ_ret, Step_guard2, GStep_op, GStep_call, callA_fn, GOp, gopt_true, gopt_false, gopt_some, vg_true, vg_false, cg_same, cg_true, cg_false, ↓SOp_pick, PkQ_b, pk_true, pk_false, pk_same, pk_and, pk_or, pk_andn, pk_orn, pk_or2, pk_or3, castLit, List.set_set, emp, Int.reduceAdd, Int.reduceSub, Int.reduceMul, Int.reduceNeg, get_app0, get_app, eqB_nil, eqB_cons, scB_i, scB_s, scB_b, all_tt, TrQ_nil, TrQ_cons, accs, touch, touchM, okPair, O.eqb_refl, List.flatMap_cons, List.flatMap_nil, partsAt_nil, partsAt_cons, fill_nil, fill_one, fill_agg, cells_agg, cells_one, splice_all, take_all, List.length_append, List.append_assoc, List.cons_append, rowAt_succ, set_app, set_app0, take_app, take_app2, take_set2, rowAt_app2, List.length_set, one_nilp, one_nils, one_nilf, one_nili, one_nilm, one_iptr, one_fn, one_iface, one_b, one_i, one_s, one_sl, one_arr, one_ptr, List.all_cons, List.all_nil, freezeC_agg, freezeC_ptr, freezeC_nilp, freezeC_nili, frz_agg, frz_int, frz_bool, frz1_s, frz1_nils, frz1_nilp, frz1_nilf, frz1_nili, frz1_nilm, frz1_arr, frz1_ptr, Nat.reduceAdd, Nat.reduceLeDiff, Nat.reduceMul, Nat.reduceSub, isV, opA, guard_of, grdO, grd, List.getElem?_toArray, beq_false, beq_true, decide_true, decide_false, not_true_eq_false, not_false_eq_true, false_implies, true_implies, imp_self, implies_true, or_true, true_or, or_false, false_or, false_and, and_false, or_self, beq_self_eq_true, Bool.and_true, Bool.true_and, Bool.and_false, Bool.false_and, Bool.or_true, Bool.true_or, Bool.or_false, Bool.false_or, Bool.not_eq_false, gt_iff_lt, ge_iff_le, Int.reduceLT, Int.reduceLE, Int.reduceToNat, Int.toNat_natCast, Nat.mul_one, Nat.add_zero, List.getElem?_drop, ints_get', bools_get', Option.isSome_none, Option.isSome_some, Option.isNone_none, Option.isNone_some, Bool.not_eq_true', decide_eq_false_iff_not, Bool.not_true, Bool.not_false, put_mk, put_mk0, ev_tmp, ev_const, ev_func, T.get_set, T_ofList, ofVal_int, ofVal_bool, ofVal_string, ofVal_nils, ofVal_nilp, ofVal_nilm, binA_lss, binA_leq, binA_gtr, binA_geq, binA_eql, binA_neq, binA_sub, binA_add, binA_mul, binA_quo, binA_rem, binA_or, binA_and, binA_xor, binA_seql, binA_sneq, unA_not, toVal_b, toVal_i, builtinP, builtinA, changes, fieldAddrA, resA, tupled, rowAt_app0, foldA_min, foldA_max, rowAt_app, set_app0', rep_bools, rep_ints, set_bools, set_ints, List.length_set, List.length_replicate, Option.bind_none, rowAt_app, rowAt_cons0, take_app, ints_len, bools_len, wrap_i64, IntWalk.i64_quo, IntWalk.rem_in, List.set_cons_zero, List.set_cons_succ, List.nil_append, List.take_length, List.take_nil, List.take_zero, decide_eq_true_eq, Option.getD_some, Option.map_some, Option.map_none, Option.bind_some, List.getElem?_cons_zero, List.getElem?_cons_succ, List.map_cons, List.map_nil, List.length_cons, List.length_nil, Nat.zero_add, ↓reduceIte, Nat.reduceEqDiff, Nat.reduceLT, ne_eq, Int.reduceEq, not_false_eq_true, Option.bind_some, if_false_right, if_true_right, and_true, true_and, Bool.false_eq_true, Bool.true_eq_false, frz_i, frz_b, frz_s, frz_nils, frz_arr, frz_tup, frzC_i, frzC_b, frzC_s, frzC_nils, frzC_arr, sh3, sz3, by3, ag3, kn3, ze3, ld3, li3, sto3, sh4, sz4, by4, ag4, kn4, ze4, ld4, li4, sto4, sh9, sz9, by9, ag9, kn9, ze9, ld9, li9, sto9, les9, ixs9, sh25, sz25, by25, ag25, kn25, ze25, ld25, li25, sto25, sh72, sz72, by72, ag72, kn72, el72, ze72, ld72, li72, sto72, ix72, ia72, mk72, ixi72, iai72, le72, lr72, ln72, r1, r3, r4, r5, h1, e0, e2, hb1, hb3, beq4, List.take_zero]
        · obtain ⟨m, hm⟩ : ∃ m, k0.length = m + 1 := ⟨k0.length - 1, by cases k0 with | nil => exact absurd rfl hk | cons => simp⟩
          rw [hm] at hel
          refine ⟨_, app_empty el72 by9 hel (by omega), ?_⟩
          simp +contextual (disch := first | omega | exact rfl | decide | assumption | exact one_b | exact one_i | exact one_sl | exact one_s | exact one_arr | exact one_ptr | (simp only [List.length_cons, List.length_nil, List.length_set, List.length_append, ints_len, bools_len] <;> omega) | (simp only [List.map_cons, List.map_nil, fk_i, fk_s, fk_b, List.map_append, List.cons_append, List.nil_append]) | (simp only [List.all_cons, List.all_nil, one_nilp, one_nils, one_nilf, one_nili, one_nilm, one_iptr, one_fn, one_iface, one_b, one_i, one_s, one_sl, one_arr, one_ptr, Bool.and_self, Bool.and_true, Bool.true_and] <;> assumption)) only [Wp_seq, Wp_region, Wp_cond, Wp_skip, Wp_ret, Wp_exit, Wp_label, Wp_block, Wp_scope, thenQ_normal, thenQ_exit, thenQ_ret, blockQ_normal, blockQ_exit, blockQ_ret, upQ_normal, upQ_exit, upQ_ret, downQ_normal, downQ_exit, downQ_ret, Ops_cons, Ops_nil, Step_op, Step_call, SOp, SCall_fn, OptQ_some, OptQ_none, OptQ_map, OptQ_bind, OptQ_ite, Br_b, DoneQ_normal, DoneQ_ret, Step_guard2, GStep_op, GStep_call, callA_fn, GOp, gopt_true, gopt_false, gopt_some, vg_true, vg_false, cg_same, cg_true, cg_false, ↓SOp_pick, PkQ_b, pk_true, pk_false, pk_same, pk_and, pk_or, pk_andn, pk_orn, pk_or2, pk_or3, castLit, List.set_set, emp, Int.reduceAdd, Int.reduceSub, Int.reduceMul, Int.reduceNeg, get_app0, get_app, eqB_nil, eqB_cons, scB_i, scB_s, scB_b, all_tt, TrQ_nil, TrQ_cons, accs, touch, touchM, okPair, O.eqb_refl, List.flatMap_cons, List.flatMap_nil, partsAt_nil, partsAt_cons, fill_nil, fill_one, fill_agg, cells_agg, cells_one, splice_all, take_all, List.length_append, List.append_assoc, List.cons_append, rowAt_succ, set_app, set_app0, take_app, take_app2, take_set2, rowAt_app2, List.length_set, one_nilp, one_nils, one_nilf, one_nili, one_nilm, one_iptr, one_fn, one_iface, one_b, one_i, one_s, one_sl, one_arr, one_ptr, List.all_cons, List.all_nil, freezeC_agg, freezeC_ptr, freezeC_nilp, freezeC_nili, frz_agg, frz_int, frz_bool, frz1_s, frz1_nils, frz1_nilp, frz1_nilf, frz1_nili, frz1_nilm, frz1_arr, frz1_ptr, Nat.reduceAdd, Nat.reduceLeDiff, Nat.reduceMul, Nat.reduceSub, isV, opA, guard_of, grdO, grd, List.getElem?_toArray, beq_false, beq_true, decide_true, decide_false, not_true_eq_false, not_false_eq_true, false_implies, true_implies, imp_self, implies_true, or_true, true_or, or_false, false_or, false_and, and_false, or_self, beq_self_eq_true, Bool.and_true, Bool.true_and, Bool.and_false, Bool.false_and, Bool.or_true, Bool.true_or, Bool.or_false, Bool.false_or, Bool.not_eq_false, gt_iff_lt, ge_iff_le, Int.reduceLT, Int.reduceLE, Int.reduceToNat, Int.toNat_natCast, Nat.mul_one, Nat.add_zero, List.getElem?_drop, ints_get', bools_get', Option.isSome_none, Option.isSome_some, Option.isNone_none, Option.isNone_some, Bool.not_eq_true', decide_eq_false_iff_not, Bool.not_true, Bool.not_false, put_mk, put_mk0, ev_tmp, ev_const, ev_func, T.get_set, T_ofList, ofVal_int, ofVal_bool, ofVal_string, ofVal_nils, ofVal_nilp, ofVal_nilm, binA_lss, binA_leq, binA_gtr, binA_geq, binA_eql, binA_neq, binA_sub, binA_add, binA_mul, binA_quo, binA_rem, binA_or, binA_and, binA_xor, binA_seql, binA_sneq, unA_not, toVal_b, toVal_i, builtinP, builtinA, changes, fieldAddrA, resA, tupled, rowAt_app0, foldA_min, foldA_max, rowAt_app, set_app0', rep_bools, rep_ints, set_bools, set_ints, List.length_set, List.length_replicate, Option.bind_none, rowAt_app, rowAt_cons0, take_app, ints_len, bools_len, wrap_i64, IntWalk.i64_quo, IntWalk.rem_in, List.set_cons_zero, List.set_cons_succ, List.nil_append, List.take_length, List.take_nil, List.take_zero, decide_eq_true_eq, Option.getD_some, Option.map_some, Option.map_none, Option.bind_some, List.getElem?_cons_zero, List.getElem?_cons_succ, List.map_cons, List.map_nil, List.length_cons, List.length_nil, Nat.zero_add, ↓reduceIte, Nat.reduceEqDiff, Nat.reduceLT, ne_eq, Int.reduceEq, not_false_eq_true, Option.bind_some, if_false_right, if_true_right, and_true, true_and, Bool.false_eq_true, Bool.true_eq_false, frz_i, frz_b, frz_s, frz_nils, frz_arr, frz_tup, frzC_i, frzC_b, frzC_s, frzC_nils, frzC_arr, sh3, sz3, by3, ag3, kn3, ze3, ld3, li3, sto3, sh4, sz4, by4, ag4, kn4, ze4, ld4, li4, sto4, sh9, sz9, by9, ag9, kn9, ze9, ld9, li9, sto9, les9, ixs9, sh25, sz25, by25, ag25, kn25, ze25, ld25, li25, sto25, sh72, sz72, by72, ag72, kn72, el72, ze72, ld72, li72, sto72, ix72, ia72, mk72, ixi72, iai72, le72, lr72, ln72, r1, r3, r4, r5, h1, e0, e2, hb1, hb3, beq4, List.take_zero, buildSliceA, List.replicate_succ, List.replicate_zero, List.flatten_cons, List.flatten_nil]
          refine ⟨_, appZ (m := 0) (row := sS k0) el72 by9 (by decide) (elems1 (v := .s (S b)) (by rw [rowAt_app, rowAt_app]; simp [rowAt])) (by omega) (by rw [rowAt_app, rowAt_app0, rowAt_cons0]) (by rw [sS_len]; omega), ?_⟩
          simp +contextual (disch := first | omega | exact rfl | decide | assumption | exact one_b | exact one_i | exact one_sl | exact one_s | exact one_arr | exact one_ptr | (simp only [List.length_cons, List.length_nil, List.length_set, List.length_append, ints_len, bools_len] <;> omega) | (simp only [List.map_cons, List.map_nil, fk_i, fk_s, fk_b, List.map_append, List.cons_append, List.nil_append]) | (simp only [List.all_cons, List.all_nil, one_nilp, one_nils, one_nilf, one_nili, one_nilm, one_iptr, one_fn, one_iface, one_b, one_i, one_s, one_sl, one_arr, one_ptr, Bool.and_self, Bool.and_true, Bool.true_and] <;> assumption)) only [Wp_seq, Wp_region, Wp_cond, Wp_skip, Wp_ret, Wp_exit, Wp_label, Wp_block, Wp_scope, thenQ_normal, thenQ_exit, thenQ_ret, blockQ_normal, blockQ_exit, blockQ_ret, upQ_normal, upQ_exit, upQ_ret, downQ_normal, downQ_exit, downQ_ret, Ops_cons, Ops_nil, Step_op, Step_call, SOp, SCall_fn, OptQ_some, OptQ_none, OptQ_map, OptQ_bind, OptQ_ite, Br_b, DoneQ_normal, DoneQ_ret, Step_guard2, GStep_op, GStep_call, callA_fn, GOp, gopt_true, gopt_false, gopt_some, vg_true, vg_false, cg_same, cg_true, cg_false, ↓SOp_pick, PkQ_b, pk_true, pk_false, pk_same, pk_and, pk_or, pk_andn, pk_orn, pk_or2, pk_or3, castLit, List.set_set, emp, Int.reduceAdd, Int.reduceSub, Int.reduceMul, Int.reduceNeg, get_app0, get_app, eqB_nil, eqB_cons, scB_i, scB_s, scB_b, all_tt, TrQ_nil, TrQ_cons, accs, touch, touchM, okPair, O.eqb_refl, List.flatMap_cons, List.flatMap_nil, partsAt_nil, partsAt_cons, fill_nil, fill_one, fill_agg, cells_agg, cells_one, splice_all, take_all, List.length_append, List.append_assoc, List.cons_append, rowAt_succ, set_app, set_app0, take_app, take_app2, take_set2, rowAt_app2, List.length_set, one_nilp, one_nils, one_nilf, one_nili, one_nilm, one_iptr, one_fn, one_iface, one_b, one_i, one_s, one_sl, one_arr, one_ptr, List.all_cons, List.all_nil, freezeC_agg, freezeC_ptr, freezeC_nilp, freezeC_nili, frz_agg, frz_int, frz_bool, frz1_s, frz1_nils, frz1_nilp, frz1_nilf, frz1_nili, frz1_nilm, frz1_arr, frz1_ptr, Nat.reduceAdd, Nat.reduceLeDiff, Nat.reduceMul, Nat.reduceSub, isV, opA, guard_of, grdO, grd, List.getElem?_toArray, beq_false, beq_true, decide_true, decide_false, not_true_eq_false, not_false_eq_true, false_implies, true_implies, imp_self, implies_true, or_true, true_or, or_false, false_or, false_and, and_false, or_self, beq_self_eq_true, Bool.and_true, Bool.true_and, Bool.and_false, Bool.false_and, Bool.or_true, Bool.true_or, Bool.or_false, Bool.false_or, Bool.not_eq_false, gt_iff_lt, ge_iff_le, Int.reduceLT, Int.reduceLE, Int.reduceToNat, Int.toNat_natCast, Nat.mul_one, Nat.add_zero, List.getElem?_drop, ints_get', bools_get', Option.isSome_none, Option.isSome_some, Option.isNone_none, Option.isNone_some, Bool.not_eq_true', decide_eq_false_iff_not, Bool.not_true, Bool.not_false, put_mk, put_mk0, ev_tmp, ev_const, ev_func, T.get_set, T_ofList, ofVal_int, ofVal_bool, ofVal_string, ofVal_nils, ofVal_nilp, ofVal_nilm, binA_lss, binA_leq, binA_gtr, binA_geq, binA_eql, binA_neq, binA_sub, binA_add, binA_mul, binA_quo, binA_rem, binA_or, binA_and, binA_xor, binA_seql, binA_sneq, unA_not, toVal_b, toVal_i, builtinP, builtinA, changes, fieldAddrA, resA, tupled, rowAt_app0, foldA_min, foldA_max, rowAt_app, set_app0', rep_bools, rep_ints, set_bools, set_ints, List.length_set, List.length_replicate, Option.bind_none, rowAt_app, rowAt_cons0, take_app, ints_len, bools_len, wrap_i64, IntWalk.i64_quo, IntWalk.rem_in, List.set_cons_zero, List.set_cons_succ, List.nil_append, List.take_length, List.take_nil, List.take_zero, decide_eq_true_eq, Option.getD_some, Option.map_some, Option.map_none, Option.bind_some, List.getElem?_cons_zero, List.getElem?_cons_succ, List.map_cons, List.map_nil, List.length_cons, List.length_nil, Nat.zero_add, ↓reduceIte, Nat.reduceEqDiff, Nat.reduceLT, ne_eq, Int.reduceEq, not_false_eq_true, Option.bind_some, if_false_right, if_true_right, and_true, true_and, Bool.false_eq_true, Bool.true_eq_false, frz_i, frz_b, frz_s, frz_nils, frz_arr, frz_tup, frzC_i, frzC_b, frzC_s, frzC_nils, frzC_arr, sh3, sz3, by3, ag3, kn3, ze3, ld3, li3, sto3, sh4, sz4, by4, ag4, kn4, ze4, ld4, li4, sto4, sh9, sz9, by9, ag9, kn9, ze9, ld9, li9, sto9, les9, ixs9, sh25, sz25, by25, ag25, kn25, ze25, ld25, li25, sto25, sh72, sz72, by72, ag72, kn72, el72, ze72, ld72, li72, sto72, ix72, ia72, mk72, ixi72, iai72, le72, lr72, ln72, r1, r3, r4, r5, h1, e0, e2, hb1, hb3, beq4, List.take_zero]
          refine ⟨_, ssame_ok (a := k0 ++ [b]) (b := ss) (by simp; omega) ⟨rfl, by rw [sS_len]; simp; omega, fun c h => by (cases h), sS k0 ++ [.s (S b)], by rw [rowAt_app, rowAt_app0]; simp [rowAt], by rw [List.length_append, sS_len]; simp; omega, ?_⟩ (hxx _), ?_⟩
          · rw [List.drop_zero, sS_app, sS_one]
            apply List.take_of_length_le
            rw [List.length_append, sS_len]; simp; omega
          · have hbs : decide (k0 ++ [b] = ss) = true := by rw [hk0]; simp
            rw [hbs]
            simp +contextual (disch := first | omega | exact rfl | decide | assumption | exact one_b | exact one_i | exact one_sl | exact one_s | exact one_arr | exact one_ptr | (simp only [List.length_cons, List.length_nil, List.length_set, List.length_append, ints_len, bools_len] <;> omega) | (simp only [List.map_cons, List.map_nil, fk_i, fk_s, fk_b, List.map_append, List.cons_append, List.nil_append]) | (simp only [List.all_cons, List.all_nil, one_nilp, one_nils, one_nilf, one_nili, one_nilm, one_iptr, one_fn, one_iface, one_b, one_i, one_s, one_sl, one_arr, one_ptr, Bool.and_self, Bool.and_true, Bool.true_and] <;> assumption)) only [Wp_seq, Wp_region, Wp_cond, Wp_skip, Wp_ret, Wp_exit, Wp_label, Wp_block, Wp_scope, thenQ_normal, thenQ_exit, thenQ_ret, blockQ_normal, blockQ_exit, blockQ_ret, upQ_normal, upQ_exit, upQ_ret, downQ_normal, downQ_exit, downQ_ret, Ops_cons, Ops_nil, Step_op, Step_call, SOp, SCall_fn, OptQ_some, OptQ_none, OptQ_map, OptQ_bind, OptQ_ite, Br_b, DoneQ_normal, DoneQ_ret, Step_guard2, GStep_op, GStep_call, callA_fn, GOp, gopt_true, gopt_false, gopt_some, vg_true, vg_false, cg_same, cg_true, cg_false, ↓SOp_pick, PkQ_b, pk_true, pk_false, pk_same, pk_and, pk_or, pk_andn, pk_orn, pk_or2, pk_or3, castLit, List.set_set, emp, Int.reduceAdd, Int.reduceSub, Int.reduceMul, Int.reduceNeg, get_app0, get_app, eqB_nil, eqB_cons, scB_i, scB_s, scB_b, all_tt, TrQ_nil, TrQ_cons, accs, touch, touchM, okPair, O.eqb_refl, List.flatMap_cons, List.flatMap_nil, partsAt_nil, partsAt_cons, fill_nil, fill_one, fill_agg, cells_agg, cells_one, splice_all, take_all, List.length_append, List.append_assoc, List.cons_append, rowAt_succ, set_app, set_app0, take_app, take_app2, take_set2, rowAt_app2, List.length_set, one_nilp, one_nils, one_nilf, one_nili, one_nilm, one_iptr, one_fn, one_iface, one_b, one_i, one_s, one_sl, one_arr, one_ptr, List.all_cons, List.all_nil, freezeC_agg, freezeC_ptr, freezeC_nilp, freezeC_nili, frz_agg, frz_int, frz_bool, frz1_s, frz1_nils, frz1_nilp, frz1_nilf, frz1_nili, frz1_nilm, frz1_arr, frz1_ptr, Nat.reduceAdd, Nat.reduceLeDiff, Nat.reduceMul, Nat.reduceSub, isV, opA, guard_of, grdO, grd, List.getElem?_toArray, beq_false, beq_true, decide_true, decide_false, not_true_eq_false, not_false_eq_true, false_implies, true_implies, imp_self, implies_true, or_true, true_or, or_false, false_or, false_and, and_false, or_self, beq_self_eq_true, Bool.and_true, Bool.true_and, Bool.and_false, Bool.false_and, Bool.or_true, Bool.true_or, Bool.or_false, Bool.false_or, Bool.not_eq_false, gt_iff_lt, ge_iff_le, Int.reduceLT, Int.reduceLE, Int.reduceToNat, Int.toNat_natCast, Nat.mul_one, Nat.add_zero, List.getElem?_drop, ints_get', bools_get', Option.isSome_none, Option.isSome_some, Option.isNone_none, Option.isNone_some, Bool.not_eq_true', decide_eq_false_iff_not, Bool.not_true, Bool.not_false, put_mk, put_mk0, ev_tmp, ev_const, ev_func, T.get_set, T_ofList, ofVal_int, ofVal_bool, ofVal_string, ofVal_nils, ofVal_nilp, ofVal_nilm, binA_lss, binA_leq, binA_gtr, binA_geq, binA_eql, binA_neq, binA_sub, binA_add, binA_mul, binA_quo, binA_rem, binA_or, binA_and, binA_xor, binA_seql, binA_sneq, unA_not, toVal_b, toVal_i, builtinP, builtinA, changes, fieldAddrA, resA, tupled, rowAt_app0, foldA_min, foldA_max, rowAt_app, set_app0', rep_bools, rep_ints, set_bools, set_ints, List.length_set, List.length_replicate, Option.bind_none, rowAt_app, rowAt_cons0, take_app, ints_len, bools_len, wrap_i64, IntWalk.i64_quo, IntWalk.rem_in, List.set_cons_zero, List.set_cons_succ, List.nil_append, List.take_length, List.take_nil, List.take_zero, decide_eq_true_eq, Option.getD_some, Option.map_some, Option.map_none, Option.bind_some, List.getElem?_cons_zero, List.getElem?_cons_succ, List.map_cons, List.map_nil, List.length_cons, List.length_nil, Nat.zero_add, ↓reduceIte, Nat.reduceEqDiff, Nat.reduceLT, ne_eq, Int.reduceEq, not_false_eq_true, Option.bind_some, if_false_right, if_true_right, and_true, true_and, Bool.false_eq_true, Bool.true_eq_false, frz_i, frz_b, frz_s, frz_nils, frz_arr, frz_tup, frzC_i, frzC_b, frzC_s, frzC_nils, frzC_arr, sh3, sz3, by3, ag3, kn3, ze3, ld3, li3, sto3, sh4, sz4, by4, ag4, kn4, ze4, ld4, li4, sto4, sh9, sz9, by9, ag9, kn9, ze9, ld9, li9, sto9, les9, ixs9, sh25, sz25, by25, ag25, kn25, ze25, ld25, li25, sto25, sh72, sz72, by72, ag72, kn72, el72, ze72, ld72, li72, sto72, ix72, ia72, mk72, ixi72, iai72, le72, lr72, ln72, r1, r3, r4, r5, h1, e0, e2, hb1, hb3, beq4, List.take_zero]
theorem wt_one (xs : List V) (f : Nat) (h : WTA cfg.P [9] xs) (law : ∀ (l : List UInt8), l.length ≤ 140737488355328 → runF cfg f [.s (S l)] [] [] = some (.b true, [])) : runF cfg f xs [] [] = some (.b true, []) := by
  obtain ⟨cs, ys, rfl, _, h1, h2⟩ := wta_cons h
  obtain rfl := wta_nil h2
  obtain ⟨l, rfl, hl⟩ := wt_S Try.underlying9 h1
  rw [argV_one (by simp [aggT, show cfg.P.underlying 9 = some .string from Try.underlying9])]
  exact law l (by omega)
theorem law13_all (xs : List V) (h : WTA cfg.P [9] xs) : runF cfg 13 xs [] [] = some (.b true, []) := wt_one xs 13 h law13
theorem law15_all (xs : List V) (h : WTA cfg.P [9] xs) : runF cfg 15 xs [] [] = some (.b true, []) := wt_one xs 15 h law15
end Go.Am.R1
