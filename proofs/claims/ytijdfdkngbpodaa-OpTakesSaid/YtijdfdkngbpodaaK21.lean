/- The law OpTakes, over the machine. -/
import Derived.Test.YtijdfdkngbpodaaK20
import Derived.Test.YtijdfdkngbpodaaK11
import Derived.Test.YtijdfdkngbpodaaAmRow
namespace Go.Am.R1
open Go.Proofs
set_option maxRecDepth 100000
set_option linter.unusedSimpArgs false
set_option linter.unusedVariables false
theorem alive20_t : isT (runA cfg 500 25 [] [] [0]) = true := by decide +kernel
theorem alive20_ok : runF cfg 25 [] [] [0] = some (.b true, []) := runF_of (isT_eq alive20_t)
theorem copy_any (l : List Int) (hn : l.length ≤ 140737488355328) {σ : List O} (p : List Nat) {x : V} (hx : View σ x (ints .u8 l)) :
    ∃ y L, runF cfg 19 [x] σ p = some (y, σ ++ L) ∧ View (σ ++ L) y (ints .u8 l) ∧ View (σ ++ L) x (ints .u8 l) ∧ L.length ≤ 1 := by
  by_cases h0 : l = []
  · subst h0
    exact ⟨_, [], by rw [copy_nil hx]; simp [ints], View.ints _ .u8 [] true, hx.app _, by simp⟩
  · refine ⟨_, _, copy_ok l h0 hn hx, view_new (by rw [ints_len]) (by intro c h; cases h), hx.app _, by simp⟩
theorem rtake20_any (l : List Int) (hl : ∀ x ∈ l, 0 ≤ x ∧ x ≤ 255) (hn : l.length ≤ 140737488355328) {x : V} (hx : View [] x (ints .u8 l)) (σ : List O) (p : List Nat) : runF cfg 27 [x] σ p = some (.tup (takeV l), σ) := by
  by_cases h7 : l.length < 7
  · exact rtake20_short l (by have := hx.app σ; simpa using this) h7
  · refine hx.cases (fun h1 h2 => ?_) (fun cl h1 => ?_) (fun r st o cap row h1 _ hr _ _ => ?_)
    · have : l = [] := by simpa [ints] using h2
      subst this; simp at h7
    · subst h1; rw [ints_len]; exact rtake20_ok l hl hn cl (by omega)
    · simp [rowAt] at hr
theorem law5 (l : List Int) (hl : ∀ x ∈ l, 0 ≤ x ∧ x ≤ 255) (hn : l.length ≤ 140737488355328) {x : V} (hx : View [] x (ints .u8 l)) :
    runF cfg 5 [x] [] [] = some (.b true, []) := by
  refine run_done rfl rfl Try.func5 rfl ?_
  obtain ⟨y, L, hcp, hy, hx', hL⟩ := copy_any l hn [1] hx
  simp only [List.nil_append] at hcp hy hx'
  have hx'' : ∀ M, View (L ++ M) x (ints .u8 l) := fun M => hx'.app M
  have hy'' : ∀ M, View (L ++ M) y (ints .u8 l) := fun M => hy.app M
  have r1 := fun p => otake_ok (p := p) l hl hn hy
  have r2 := fun σ p => rtake20_any l hl hn hx σ p
  have r3 := fun M p => same_ok (p := p) l (hy'' M) (hx'' M)
  obtain ⟨z, e, hze⟩ : ∃ z e, takeV l = [.agg (opV z), .i .i64 e] := by
    unfold takeV
    split
    · exact ⟨⟨0, 0, .empty, 0, .empty, 0, 0, 0, .empty⟩, _, rfl⟩
    · split
      · exact ⟨_, _, rfl⟩
      · exact ⟨⟨0, 0, .empty, 0, .empty, 0, 0, 0, .empty⟩, _, rfl⟩
  rw [hze] at r1 r2
  simp only [opV] at r1 r2
  simp +contextual (disch := first | omega | exact rfl | decide | assumption | exact one_b | exact one_i | exact one_sl | exact one_s | exact one_arr | exact one_ptr | (simp only [List.length_cons, List.length_nil, List.length_set, List.length_append, ints_len, bools_len] <;> omega) | (simp only [List.map_cons, List.map_nil, fk_i, fk_s, fk_b, List.map_append, List.cons_append, List.nil_append]) | (simp only [List.all_cons, List.all_nil, one_nilp, one_nils, one_nilf, one_nili, one_nilm, one_iptr, one_fn, one_iface, one_b, one_i, one_s, one_sl, one_arr, one_ptr, Bool.and_self, Bool.and_true, Bool.true_and] <;> assumption)) only [Try.f5, Wp_seq, Wp_region, Wp_cond, Wp_skip, Wp_ret, Wp_exit, Wp_label, Wp_block, Wp_scope, thenQ_normal, thenQ_exit, thenQ_ret, blockQ_normal, blockQ_exit, blockQ_ret, upQ_normal, upQ_exit, upQ_ret, downQ_normal, downQ_exit, downQ_ret, Ops_cons, Ops_nil, Step_op, Step_call, SOp, SCall_fn, OptQ_some, OptQ_none, OptQ_map, OptQ_bind, OptQ_ite, Br_b, DoneQ_normal, DoneQ_ret, Step_guard2, GStep_op, GStep_call, callA_fn, GOp, gopt_true, gopt_false, gopt_some, vg_true, vg_false, cg_same, cg_true, cg_false, ↓SOp_pick, PkQ_b, pk_true, pk_false, pk_same, pk_and, pk_or, pk_andn, pk_orn, pk_or2, pk_or3, emp, Int.reduceAdd, Int.reduceSub, Int.reduceMul, Int.reduceNeg, get_app0, get_app, eqB_nil, eqB_cons, scB_i, scB_s, scB_b, all_tt, TrQ_nil, TrQ_cons, accs, touch, touchM, okPair, O.eqb_refl, List.flatMap_cons, List.flatMap_nil, partsAt_nil, partsAt_cons, fill_nil, fill_one, fill_agg, cells_agg, cells_one, splice_all, take_all, List.length_append, List.append_assoc, List.cons_append, rowAt_succ, set_app, set_app0, take_app, take_app2, take_set2, rowAt_app2, List.length_set, one_nilp, one_nils, one_nilf, one_nili, one_nilm, one_iptr, one_fn, one_iface, one_b, one_i, one_s, one_sl, one_arr, one_ptr, List.all_cons, List.all_nil, freezeC_agg, freezeC_ptr, freezeC_nilp, freezeC_nili, frz_agg, frz_int, frz_bool, frz1_s, frz1_nils, frz1_nilp, frz1_nilf, frz1_nili, frz1_nilm, frz1_arr, frz1_ptr, Nat.reduceAdd, Nat.reduceLeDiff, Nat.reduceMul, Nat.reduceSub, isV, opA, guard_of, grdO, grd, List.getElem?_toArray, beq_false, beq_true, decide_true, decide_false, not_true_eq_false, not_false_eq_true, false_implies, true_implies, imp_self, implies_true, or_true, true_or, or_false, false_or, false_and, and_false, or_self, beq_self_eq_true, Bool.and_true, Bool.true_and, Bool.and_false, Bool.false_and, Bool.or_true, Bool.true_or, Bool.or_false, Bool.false_or, Bool.not_eq_false, gt_iff_lt, ge_iff_le, Int.reduceLT, Int.reduceLE, Int.reduceToNat, Int.toNat_natCast, Nat.mul_one, Nat.add_zero, List.getElem?_drop, ints_get', bools_get', Option.isSome_none, Option.isSome_some, Option.isNone_none, Option.isNone_some, Bool.not_eq_true', decide_eq_false_iff_not, Bool.not_true, Bool.not_false, put_mk, put_mk0, ev_tmp, ev_const, ev_func, T.get_set, T_ofList, ofVal_int, ofVal_bool, ofVal_string, ofVal_nils, ofVal_nilp, ofVal_nilm, binA_lss, binA_leq, binA_gtr, binA_geq, binA_eql, binA_neq, binA_sub, binA_add, binA_mul, binA_quo, binA_rem, binA_or, binA_and, binA_xor, binA_seql, binA_sneq, unA_not, toVal_b, toVal_i, builtinP, builtinA, changes, fieldAddrA, resA, tupled, rowAt_app0, foldA_min, foldA_max, rowAt_app, set_app0', rep_bools, rep_ints, set_bools, set_ints, List.length_set, List.length_replicate, Option.bind_none, rowAt_app, rowAt_cons0, take_app, ints_len, bools_len, wrap_i64, IntWalk.i64_quo, IntWalk.rem_in, List.set_cons_zero, List.set_cons_succ, List.nil_append, List.take_length, List.take_nil, List.take_zero, decide_eq_true_eq, Option.getD_some, Option.map_some, Option.map_none, Option.bind_some, List.getElem?_cons_zero, List.getElem?_cons_succ, List.map_cons, List.map_nil, List.length_cons, List.length_nil, Nat.zero_add, ↓reduceIte, Nat.reduceEqDiff, Nat.reduceLT, ne_eq, Int.reduceEq, not_false_eq_true, Option.bind_some, if_false_right, if_true_right, and_true, true_and, Bool.false_eq_true, Bool.true_eq_false, frz_i, frz_b, frz_s, frz_nils, frz_arr, frz_tup, frzC_i, frzC_b, frzC_s, frzC_nils, frzC_arr, sh3, sz3, by3, ag3, kn3, ze3, ld3, li3, sto3, sh9, sz9, by9, ag9, kn9, ze9, ld9, li9, sto9, les9, ixs9, sh25, sz25, by25, ag25, kn25, ze25, ld25, li25, sto25, sh34, sz34, by34, ag34, kn34, ze34, fk34, eq34, ne34, pl34, lda34, sta34, bd34, fi34x0, fi34x1, fi34x2, fi34x3, fi34x4, fi34x5, fi34x6, fi34x7, fi34x8, alive20_ok, hcp, r1, r2, r3, List.take_zero]
theorem law5_all (xs : List V) (h : WTA cfg.P [22] xs) : runF cfg 5 xs [] [] = some (.b true, []) := by
  obtain ⟨cs, ys, rfl, _, h1, h2⟩ := wta_cons h
  obtain rfl := wta_nil h2
  obtain ⟨x, l, rfl, hx, hl, hb⟩ := wt_ints (B := 1) (k := .u8) Try.underlying22 Try.underlying5 (by kernel_rfl) (by kernel_rfl) h1
  rw [argV_one (by simp [aggT, show cfg.P.underlying 22 = some (.slice 5) from Try.underlying22])]
  exact law5 l hb (by omega) hx
end Go.Am.R1
