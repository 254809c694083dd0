/- Parts of one machine and of the walks over it, joined: K21 K22 K23 K24 K25. -/
import Derived.Test.YtijdfdkngbpodaaJK
import Derived.Test.YtijdfdkngbpodaaJI
import Derived.Test.YtijdfdkngbpodaaAmRow
import Derived.Test.YtijdfdkngbpodaaAmApp
/- The law OpTakes, over the machine. -/
namespace Go.Am.R1
open Go.Proofs
set_option maxRecDepth 100000
set_option linter.unusedSimpArgs false
set_option linter.unusedVariables false
theorem alive20_t : isT (runA cfg 500 25 [] [] [0]) = true := by decide +kernel
theorem alive20_ok : runF cfg 25 [] [] [0] = some (.b true, []) := runF_of (isT_eq alive20_t)
theorem copy_any (l : List Int) (hn : l.length ≤ 140737488355328) {σ : List O} (p : List Nat) {x : V} (hx : View σ x (ints .u8 l)) :
    ∃ y L, runF cfg 19 [x] σ p = some (y, σ ++ L) ∧ View (σ ++ L) y (ints .u8 l) ∧ View (σ ++ L) x (ints .u8 l) ∧ L.length ≤ 1 := by
  by_cases h0 : l = []
  · subst h0
    exact ⟨_, [], by rw [copy_nil hx]; simp [ints], View.ints _ .u8 [] true, hx.app _, by simp⟩
  · refine ⟨_, _, copy_ok l h0 hn hx, view_new (by rw [ints_len]) (by intro c h; cases h), hx.app _, by simp⟩
theorem rtake20_any (l : List Int) (hl : ∀ x ∈ l, 0 ≤ x ∧ x ≤ 255) (hn : l.length ≤ 140737488355328) {x : V} (hx : View [] x (ints .u8 l)) (σ : List O) (p : List Nat) : runF cfg 27 [x] σ p = some (.tup (takeV l), σ) := by
  by_cases h7 : l.length < 7
  · exact rtake20_short l (by have := hx.app σ; simpa using this) h7
  · refine hx.cases (fun h1 h2 => ?_) (fun cl h1 => ?_) (fun r st o cap row h1 _ hr _ _ => ?_)
    · have : l = [] := by simpa [ints] using h2
      subst this; simp at h7
    · subst h1; rw [ints_len]; exact rtake20_ok l hl hn cl (by omega)
    · simp [rowAt] at hr
theorem law5 (l : List Int) (hl : ∀ x ∈ l, 0 ≤ x ∧ x ≤ 255) (hn : l.length ≤ 140737488355328) {x : V} (hx : View [] x (ints .u8 l)) :
    runF cfg 5 [x] [] [] = some (.b true, []) := by
  refine run_done rfl rfl Try.func5 rfl ?_
  obtain ⟨y, L, hcp, hy, hx', hL⟩ := copy_any l hn [1] hx
  simp only [List.nil_append] at hcp hy hx'
  have hx'' : ∀ M, View (L ++ M) x (ints .u8 l) := fun M => hx'.app M
  have hy'' : ∀ M, View (L ++ M) y (ints .u8 l) := fun M => hy.app M
  have r1 := fun p => otake_ok (p := p) l hl hn hy
  have r2 := fun σ p => rtake20_any l hl hn hx σ p
  have r3 := fun M p => same_ok (p := p) l (hy'' M) (hx'' M)
  obtain ⟨z, e, hze⟩ : ∃ z e, takeV l = [.agg (opV z), .i .i64 e] := by
    unfold takeV
    split
    · exact ⟨⟨0, 0, .empty, 0, .empty, 0, 0, 0, .empty⟩, _, rfl⟩
    · split
      · exact ⟨_, _, rfl⟩
      · exact ⟨⟨0, 0, .empty, 0, .empty, 0, 0, 0, .empty⟩, _, rfl⟩
  rw [hze] at r1 r2
  simp only [opV] at r1 r2
  simp +contextual (disch := first | omega | exact rfl | decide | assumption | exact one_b | exact one_i | exact one_sl | exact one_s | exact one_arr | exact one_ptr | (simp only [List.length_cons, List.length_nil, List.length_set, List.length_append, ints_len, bools_len] <;> omega) | (simp only [List.map_cons, List.map_nil, fk_i, fk_s, fk_b, List.map_append, List.cons_append, List.nil_append]) | (simp only [List.all_cons, List.all_nil, one_nilp, one_nils, one_nilf, one_nili, one_nilm, one_iptr, one_fn, one_iface, one_b, one_i, one_s, one_sl, one_arr, one_ptr, Bool.and_self, Bool.and_true, Bool.true_and] <;> assumption)) only [Try.f5, Wp_seq, Wp_region, Wp_cond, Wp_skip, Wp_ret, Wp_exit, Wp_label, Wp_block, Wp_scope, thenQ_normal, thenQ_exit, thenQ_ret, blockQ_normal, blockQ_exit, blockQ_ret, upQ_normal, upQ_exit, upQ_ret, downQ_normal, downQ_exit, downQ_ret, Ops_cons, Ops_nil, Step_op, Step_call, SOp, SCall_fn, OptQ_some, OptQ_none, OptQ_map, OptQ_bind, OptQ_ite, Br_b, DoneQ_normal, DoneQ_ret, Step_guard2, GStep_op, GStep_call, callA_fn, GOp, gopt_true, gopt_false, gopt_some, vg_true, vg_false, cg_same, cg_true, cg_false, ↓SOp_pick, PkQ_b, pk_true, pk_false, pk_same, pk_and, pk_or, pk_andn, pk_orn, pk_or2, pk_or3, castLit, List.set_set, emp, Int.reduceAdd, Int.reduceSub, Int.reduceMul, Int.reduceNeg, get_app0, get_app, eqB_nil, eqB_cons, scB_i, scB_s, scB_b, all_tt, TrQ_nil, TrQ_cons, accs, touch, touchM, okPair, O.eqb_refl, List.flatMap_cons, List.flatMap_nil, partsAt_nil, partsAt_cons, fill_nil, fill_one, fill_agg, cells_agg, cells_one, splice_all, take_all, List.length_append, List.append_assoc, List.cons_append, rowAt_succ, set_app, set_app0, take_app, take_app2, take_set2, rowAt_app2, List.length_set, one_nilp, one_nils, one_nilf, one_nili, one_nilm, one_iptr, one_fn, one_iface, one_b, one_i, one_s, one_sl, one_arr, one_ptr, List.all_cons, List.all_nil, freezeC_agg, freezeC_ptr, freezeC_nilp, freezeC_nili, frz_agg, frz_int, frz_bool, frz1_s, frz1_nils, frz1_nilp, frz1_nilf, frz1_nili, frz1_nilm, frz1_arr, frz1_ptr, Nat.reduceAdd, Nat.reduceLeDiff, Nat.reduceMul, Nat.reduceSub, isV, opA, guard_of, grdO, grd, List.getElem?_toArray, beq_false, beq_true, decide_true, decide_false, not_true_eq_false, not_false_eq_true, false_implies, true_implies, imp_self, implies_true, or_true, true_or, or_false, false_or, false_and, and_false, or_self, beq_self_eq_true, Bool.and_true, Bool.true_and, Bool.and_false, Bool.false_and, Bool.or_true, Bool.true_or, Bool.or_false, Bool.false_or, Bool.not_eq_false, gt_iff_lt, ge_iff_le, Int.reduceLT, Int.reduceLE, Int.reduceToNat, Int.toNat_natCast, Nat.mul_one, Nat.add_zero, List.getElem?_drop, ints_get', bools_get', Option.isSome_none, Option.isSome_some, Option.isNone_none, Option.isNone_some, Bool.not_eq_true', decide_eq_false_iff_not, Bool.not_true, Bool.not_false, put_mk, put_mk0, ev_tmp, ev_const, ev_func, T.get_set, T_ofList, ofVal_int, ofVal_bool, ofVal_string, ofVal_nils, ofVal_nilp, ofVal_nilm, binA_lss, binA_leq, binA_gtr, binA_geq, binA_eql, binA_neq, binA_sub, binA_add, binA_mul, binA_quo, binA_rem, binA_or, binA_and, binA_xor, binA_seql, binA_sneq, unA_not, toVal_b, toVal_i, builtinP, builtinA, changes, fieldAddrA, resA, tupled, rowAt_app0, foldA_min, foldA_max, rowAt_app, set_app0', rep_bools, rep_ints, set_bools, set_ints, List.length_set, List.length_replicate, Option.bind_none, rowAt_app, rowAt_cons0, take_app, ints_len, bools_len, wrap_i64, IntWalk.i64_quo, IntWalk.rem_in, List.set_cons_zero, List.set_cons_succ, List.nil_append, List.take_length, List.take_nil, List.take_zero, decide_eq_true_eq, Option.getD_some, Option.map_some, Option.map_none, Option.bind_some, List.getElem?_cons_zero, List.getElem?_cons_succ, List.map_cons, List.map_nil, List.length_cons, List.length_nil, Nat.zero_add, ↓reduceIte, Nat.reduceEqDiff, Nat.reduceLT, ne_eq, Int.reduceEq, not_false_eq_true, Option.bind_some, if_false_right, if_true_right, and_true, true_and, Bool.false_eq_true, Bool.true_eq_false, frz_i, frz_b, frz_s, frz_nils, frz_arr, frz_tup, frzC_i, frzC_b, frzC_s, frzC_nils, frzC_arr, sh3, sz3, by3, ag3, kn3, ze3, ld3, li3, sto3, sh9, sz9, by9, ag9, kn9, ze9, ld9, li9, sto9, les9, ixs9, sh25, sz25, by25, ag25, kn25, ze25, ld25, li25, sto25, sh34, sz34, by34, ag34, kn34, ze34, fk34, eq34, ne34, pl34, lda34, sta34, bd34, fi34x0, fi34x1, fi34x2, fi34x3, fi34x4, fi34x5, fi34x6, fi34x7, fi34x8, alive20_ok, hcp, r1, r2, r3, List.take_zero]
theorem law5_all (xs : List V) (h : WTA cfg.P [22] xs) : runF cfg 5 xs [] [] = some (.b true, []) := by
  obtain ⟨cs, ys, rfl, _, h1, h2⟩ := wta_cons h
  obtain rfl := wta_nil h2
  obtain ⟨x, l, rfl, hx, hl, hb⟩ := wt_ints (B := 1) (k := .u8) Try.underlying22 Try.underlying5 (by kernel_rfl) (by kernel_rfl) h1
  rw [argV_one (by simp [aggT, show cfg.P.underlying 22 = some (.slice 5) from Try.underlying22])]
  exact law5 l hb (by omega) hx
end Go.Am.R1

/- Numbers into bytes. -/
namespace Go.Am.R1
open Go.Proofs
set_option maxRecDepth 100000
set_option linter.unusedSimpArgs false
set_option linter.unusedVariables false
variable {σ : List O} {p : List Nat}
theorem wrap_u8 (v : Int) : IntKind.wrap .u8 v = v % 256 := by
  simp [IntKind.wrap, IntKind.signed, IntKind.bits]
theorem fdiv256 (v : Int) (h : 0 ≤ v) : v.fdiv (2 ^ min 8 IntKind.i64.bits) = v / 256 := by
  rw [Int.fdiv_eq_ediv_of_nonneg _ (by decide)]; rfl
theorem fdiv65536 (v : Int) (h : 0 ≤ v) : v.fdiv (2 ^ min 16 IntKind.i64.bits) = v / 65536 := by
  rw [Int.fdiv_eq_ediv_of_nonneg _ (by decide)]; rfl
theorem freeze1_old {r o n es d : Nat} {st : List Nat} {cap : Option Nat} (h : r < σ.length) {τ : List O} : freeze1 σ.length τ d (.sl r st o n es cap) = .sl r st o n es cap := by
  cases d with
  | zero => rfl
  | succ d => simp [freeze1, show ¬ σ.length ≤ r by omega]
theorem freezeC_old {r o n es : Nat} {st : List Nat} {cap : Option Nat} (h : r < σ.length) {τ : List O} : freezeC σ.length τ (.sl r st o n es cap) = .sl r st o n es cap := freeze1_old h
theorem cut_sl {r o n a w : Nat} {st : List Nat} {cap : Option Nat} (hr : r < σ.length) (hn : n ≤ 140737488355328) (h : a + w ≤ n) (hw : 0 < w) (hc : ∀ c, cap = some c → n ≤ c) :
    runF cfg 111 [.sl r st o n 1 cap, .i .i64 a, .i .i64 w] σ p = some (.tup [.sl r st (o + a) w 1 (cap.map (· - a)), .b true], σ) := by
  refine run_done rfl rfl Try.func111 rfl ?_
  have h1 : ¬ (a : Int) < 0 := by omega
  have h2 : ¬ (n : Int) < a := by omega
  have h3 : ¬ (n : Int) - a < w := by omega
  have hcap : a + w ≤ cap.getD n := by
    cases cap with
    | none => exact h
    | some c => have := hc c rfl; simp; omega
  have hsl : sliceA cfg 22 (.sl r st o n 1 cap) (some (.i .i64 a)) (some (.i .i64 ((a : Int) + w))) none = some (.sl r st (o + a) w 1 (cap.map (· - a))) := by
    have e1 : (a : Int) + w = ((a + w : Nat) : Int) := by omega
    rw [e1]
    simp only [sliceA, sh22, sz5, Option.bind_some, bnd_nat (Nat.zero_le _) hcap, bnd_nat (Nat.zero_le _) (show a ≤ a + w by omega)]
    simp [show a < n by omega, show a + w - a = w by omega]
  simp (disch := first | omega | exact rfl | decide | assumption | exact one_b | exact one_i | exact one_sl | exact one_s | exact one_arr | exact one_ptr | (simp only [List.length_cons, List.length_nil, List.length_set, List.length_append, ints_len, bools_len] <;> omega) | (simp only [List.map_cons, List.map_nil, fk_i, fk_s, fk_b, List.map_append, List.cons_append, List.nil_append]) | (simp only [List.all_cons, List.all_nil, one_nilp, one_nils, one_nilf, one_nili, one_nilm, one_iptr, one_fn, one_iface, one_b, one_i, one_s, one_sl, one_arr, one_ptr, Bool.and_self, Bool.and_true, Bool.true_and] <;> assumption)) only [Try.f111, Wp_seq, Wp_region, Wp_cond, Wp_skip, Wp_ret, Wp_exit, Wp_label, Wp_block, Wp_scope, thenQ_normal, thenQ_exit, thenQ_ret, blockQ_normal, blockQ_exit, blockQ_ret, upQ_normal, upQ_exit, upQ_ret, downQ_normal, downQ_exit, downQ_ret, Ops_cons, Ops_nil, Step_op, Step_call, SOp, SCall_fn, OptQ_some, OptQ_none, OptQ_map, OptQ_bind, OptQ_ite, Br_b, DoneQ_normal, DoneQ_ret, Step_guard2, GStep_op, GStep_call, callA_fn, GOp, gopt_true, gopt_false, gopt_some, vg_true, vg_false, cg_same, cg_true, cg_false, ↓SOp_pick, PkQ_b, pk_true, pk_false, pk_same, pk_and, pk_or, pk_andn, pk_orn, pk_or2, pk_or3, castLit, List.set_set, emp, Int.reduceAdd, Int.reduceSub, Int.reduceMul, Int.reduceNeg, get_app0, get_app, eqB_nil, eqB_cons, scB_i, scB_s, scB_b, all_tt, TrQ_nil, TrQ_cons, accs, touch, touchM, okPair, O.eqb_refl, List.flatMap_cons, List.flatMap_nil, partsAt_nil, partsAt_cons, fill_nil, fill_one, fill_agg, cells_agg, cells_one, splice_all, take_all, List.length_append, List.append_assoc, List.cons_append, rowAt_succ, set_app, set_app0, take_app, take_app2, take_set2, rowAt_app2, List.length_set, one_nilp, one_nils, one_nilf, one_nili, one_nilm, one_iptr, one_fn, one_iface, one_b, one_i, one_s, one_sl, one_arr, one_ptr, List.all_cons, List.all_nil, freezeC_agg, freezeC_ptr, freezeC_nilp, freezeC_nili, frz_agg, frz_int, frz_bool, frz1_s, frz1_nils, frz1_nilp, frz1_nilf, frz1_nili, frz1_nilm, frz1_arr, frz1_ptr, Nat.reduceAdd, Nat.reduceLeDiff, Nat.reduceMul, Nat.reduceSub, isV, opA, guard_of, grdO, grd, List.getElem?_toArray, beq_false, beq_true, decide_true, decide_false, not_true_eq_false, not_false_eq_true, false_implies, true_implies, imp_self, implies_true, or_true, true_or, or_false, false_or, false_and, and_false, or_self, beq_self_eq_true, Bool.and_true, Bool.true_and, Bool.and_false, Bool.false_and, Bool.or_true, Bool.true_or, Bool.or_false, Bool.false_or, Bool.not_eq_false, gt_iff_lt, ge_iff_le, Int.reduceLT, Int.reduceLE, Int.reduceToNat, Int.toNat_natCast, Nat.mul_one, Nat.add_zero, List.getElem?_drop, ints_get', bools_get', Option.isSome_none, Option.isSome_some, Option.isNone_none, Option.isNone_some, Bool.not_eq_true', decide_eq_false_iff_not, Bool.not_true, Bool.not_false, put_mk, put_mk0, ev_tmp, ev_const, ev_func, T.get_set, T_ofList, ofVal_int, ofVal_bool, ofVal_string, ofVal_nils, ofVal_nilp, ofVal_nilm, binA_lss, binA_leq, binA_gtr, binA_geq, binA_eql, binA_neq, binA_sub, binA_add, binA_mul, binA_quo, binA_rem, binA_or, binA_and, binA_xor, binA_seql, binA_sneq, unA_not, toVal_b, toVal_i, builtinP, builtinA, changes, fieldAddrA, resA, tupled, rowAt_app0, foldA_min, foldA_max, rowAt_app, set_app0', rep_bools, rep_ints, set_bools, set_ints, List.length_set, List.length_replicate, Option.bind_none, rowAt_app, rowAt_cons0, take_app, ints_len, bools_len, wrap_i64, IntWalk.i64_quo, IntWalk.rem_in, List.set_cons_zero, List.set_cons_succ, List.nil_append, List.take_length, List.take_nil, List.take_zero, decide_eq_true_eq, Option.getD_some, Option.map_some, Option.map_none, Option.bind_some, List.getElem?_cons_zero, List.getElem?_cons_succ, List.map_cons, List.map_nil, List.length_cons, List.length_nil, Nat.zero_add, ↓reduceIte, Nat.reduceEqDiff, Nat.reduceLT, ne_eq, Int.reduceEq, not_false_eq_true, Option.bind_some, if_false_right, if_true_right, and_true, true_and, Bool.false_eq_true, Bool.true_eq_false, frz_i, frz_b, frz_s, frz_nils, frz_arr, frz_tup, frzC_i, frzC_b, frzC_s, frzC_nils, frzC_arr, sh3, sz3, by3, ag3, kn3, ze3, ld3, li3, sto3, sh5, sz5, by5, ag5, kn5, ze5, ld5, li5, sto5, sh22, sz22, by22, ag22, kn22, el22, ze22, ld22, li22, sto22, ix22, ia22, mk22, ixi22, iai22, le22, lr22, ln22, h1, h2, h3, hsl, freezeC_old hr]
theorem put2_ok {r o n a : Nat} {st : List Nat} {cap : Option Nat} {row : List V} (hr : rowAt σ r st = some row) (hn : n ≤ 140737488355328) (h : a + 2 ≤ n) (ho : o + n ≤ row.length) (hc : ∀ c, cap = some c → n ≤ c) (v : Int) (hv : 0 ≤ v) (hv2 : v < 65536) :
    runF cfg 74 [.sl r st o n 1 cap, .i .i64 a, .i .i64 2, .i .i64 v] σ p = some (.i .i64 0, σ.set r (.cells st ((row.set (o + a) (.i .u8 (v % 256))).set (o + a + 1) (.i .u8 (v / 256))))) := by
  refine run_done rfl rfl Try.func74 rfl ?_
  have hrl := rowAt_lt hr
  have hcut := fun p => cut_sl (p := p) (o := o) (st := st) (cap := cap) hrl hn (a := a) (w := 2) h (by omega) hc
  have hcut' : ∀ p, runF cfg 111 [.sl r st o n 1 cap, .i .i64 a, .i .i64 2] σ p = some (.tup [.sl r st (o + a) 2 1 (cap.map (· - a)), .b true], σ) := hcut
  have h1 : ¬ v < 0 := by omega
  have h2 : v.fdiv (2 ^ min 16 IntKind.i64.bits) = 0 := by rw [fdiv65536 v hv]; omega
  have h3 := fdiv256 v hv
  have h4 := wrap_u8 v
  have h5 : IntKind.wrap .u8 (v / 256) = v / 256 := by rw [wrap_u8]; omega
  simp +contextual (disch := first | omega | exact rfl | decide | assumption | exact one_b | exact one_i | exact one_sl | exact one_s | exact one_arr | exact one_ptr | (simp only [List.length_cons, List.length_nil, List.length_set, List.length_append, ints_len, bools_len] <;> omega) | (simp only [List.map_cons, List.map_nil, fk_i, fk_s, fk_b, List.map_append, List.cons_append, List.nil_append]) | (simp only [List.all_cons, List.all_nil, one_nilp, one_nils, one_nilf, one_nili, one_nilm, one_iptr, one_fn, one_iface, one_b, one_i, one_s, one_sl, one_arr, one_ptr, Bool.and_self, Bool.and_true, Bool.true_and] <;> assumption)) only [Try.f74, Wp_seq, Wp_region, Wp_cond, Wp_skip, Wp_ret, Wp_exit, Wp_label, Wp_block, Wp_scope, thenQ_normal, thenQ_exit, thenQ_ret, blockQ_normal, blockQ_exit, blockQ_ret, upQ_normal, upQ_exit, upQ_ret, downQ_normal, downQ_exit, downQ_ret, Ops_cons, Ops_nil, Step_op, Step_call, SOp, SCall_fn, OptQ_some, OptQ_none, OptQ_map, OptQ_bind, OptQ_ite, Br_b, DoneQ_normal, DoneQ_ret, Step_guard2, GStep_op, GStep_call, callA_fn, GOp, gopt_true, gopt_false, gopt_some, vg_true, vg_false, cg_same, cg_true, cg_false, ↓SOp_pick, PkQ_b, pk_true, pk_false, pk_same, pk_and, pk_or, pk_andn, pk_orn, pk_or2, pk_or3, castLit, List.set_set, emp, Int.reduceAdd, Int.reduceSub, Int.reduceMul, Int.reduceNeg, get_app0, get_app, eqB_nil, eqB_cons, scB_i, scB_s, scB_b, all_tt, TrQ_nil, TrQ_cons, accs, touch, touchM, okPair, O.eqb_refl, List.flatMap_cons, List.flatMap_nil, partsAt_nil, partsAt_cons, fill_nil, fill_one, fill_agg, cells_agg, cells_one, splice_all, take_all, List.length_append, List.append_assoc, List.cons_append, rowAt_succ, set_app, set_app0, take_app, take_app2, take_set2, rowAt_app2, List.length_set, one_nilp, one_nils, one_nilf, one_nili, one_nilm, one_iptr, one_fn, one_iface, one_b, one_i, one_s, one_sl, one_arr, one_ptr, List.all_cons, List.all_nil, freezeC_agg, freezeC_ptr, freezeC_nilp, freezeC_nili, frz_agg, frz_int, frz_bool, frz1_s, frz1_nils, frz1_nilp, frz1_nilf, frz1_nili, frz1_nilm, frz1_arr, frz1_ptr, Nat.reduceAdd, Nat.reduceLeDiff, Nat.reduceMul, Nat.reduceSub, isV, opA, guard_of, grdO, grd, List.getElem?_toArray, beq_false, beq_true, decide_true, decide_false, not_true_eq_false, not_false_eq_true, false_implies, true_implies, imp_self, implies_true, or_true, true_or, or_false, false_or, false_and, and_false, or_self, beq_self_eq_true, Bool.and_true, Bool.true_and, Bool.and_false, Bool.false_and, Bool.or_true, Bool.true_or, Bool.or_false, Bool.false_or, Bool.not_eq_false, gt_iff_lt, ge_iff_le, Int.reduceLT, Int.reduceLE, Int.reduceToNat, Int.toNat_natCast, Nat.mul_one, Nat.add_zero, List.getElem?_drop, ints_get', bools_get', Option.isSome_none, Option.isSome_some, Option.isNone_none, Option.isNone_some, Bool.not_eq_true', decide_eq_false_iff_not, Bool.not_true, Bool.not_false, put_mk, put_mk0, ev_tmp, ev_const, ev_func, T.get_set, T_ofList, ofVal_int, ofVal_bool, ofVal_string, ofVal_nils, ofVal_nilp, ofVal_nilm, binA_lss, binA_leq, binA_gtr, binA_geq, binA_eql, binA_neq, binA_sub, binA_add, binA_mul, binA_quo, binA_rem, binA_or, binA_and, binA_xor, binA_seql, binA_sneq, unA_not, toVal_b, toVal_i, builtinP, builtinA, changes, fieldAddrA, resA, tupled, rowAt_app0, foldA_min, foldA_max, rowAt_app, set_app0', rep_bools, rep_ints, set_bools, set_ints, List.length_set, List.length_replicate, Option.bind_none, rowAt_app, rowAt_cons0, take_app, ints_len, bools_len, wrap_i64, IntWalk.i64_quo, IntWalk.rem_in, List.set_cons_zero, List.set_cons_succ, List.nil_append, List.take_length, List.take_nil, List.take_zero, decide_eq_true_eq, Option.getD_some, Option.map_some, Option.map_none, Option.bind_some, List.getElem?_cons_zero, List.getElem?_cons_succ, List.map_cons, List.map_nil, List.length_cons, List.length_nil, Nat.zero_add, ↓reduceIte, Nat.reduceEqDiff, Nat.reduceLT, ne_eq, Int.reduceEq, not_false_eq_true, Option.bind_some, if_false_right, if_true_right, and_true, true_and, Bool.false_eq_true, Bool.true_eq_false, frz_i, frz_b, frz_s, frz_nils, frz_arr, frz_tup, frzC_i, frzC_b, frzC_s, frzC_nils, frzC_arr, sh3, sz3, by3, ag3, kn3, ze3, ld3, li3, sto3, sh5, sz5, by5, ag5, kn5, ze5, ld5, li5, sto5, sh22, sz22, by22, ag22, kn22, el22, ze22, ld22, li22, sto22, ix22, ia22, mk22, ixi22, iai22, le22, lr22, ln22, h1, hcut', binA_shr, h2, h3, h4, h5, Wq_loop, loopQ_normal, loopQ_exit, loopQ_ret, convertP, hr, rowAt_set hrl]
  exact ⟨by omega, by omega⟩
end Go.Am.R1

/- Changes into bytes: by the program. -/
namespace Go.Am.R1
open Go.Proofs
set_option maxRecDepth 100000
set_option linter.unusedSimpArgs false
set_option linter.unusedVariables false
variable {σ : List O} {p : List Nat}
def byI (b : ByteArray) : List Int := b.data.toList.map fun x => (x.toNat : Int)
theorem u8s_eq (b : ByteArray) : u8s b = ints .u8 (byI b) := by simp [u8s, ints, byI]
theorem byI_len (b : ByteArray) : (byI b).length = b.size := by simp [byI]
theorem byI_in (b : ByteArray) : ∀ x ∈ byI b, 0 ≤ x ∧ x ≤ 255 := by
  intro x hx
  simp only [byI, List.mem_map] at hx
  obtain ⟨y, _, rfl⟩ := hx
  have := y.toNat_lt
  omega
theorem frzC_row {base r : Nat} {st : List Nat} {k : IntKind} {l : List Int} {τ : List O} (hr : base ≤ r) (h : rowAt τ r st = some (ints k l)) (h0 : 0 < l.length) :
    freezeC base τ (.sl r st 0 l.length 1 none) = .arr (ints k l) l.length false := by
  simp only [freezeC, freeze1, if_pos hr, h]
  rw [if_neg (by omega), List.drop_zero, Nat.mul_one, List.take_of_length_le (by rw [ints_len]; exact Nat.le_refl _), frz_ints]; rfl
/-- A change's bytes. -/
def putL (x : OpR) : List Int :=
  [x.kind % 256, x.dir % 256, x.to % 256, x.node % 256, x.sort % 256, x.off % 256, x.off / 256] ++ [(x.name.size : Int) % 256] ++ byI x.name ++ [(x.other.size : Int) % 256] ++ byI x.other ++ [(x.text.size : Int) % 256, (x.text.size : Int) / 256] ++ byI x.text
theorem right_off {x : OpR} (h : rightB x = true) : 0 ≤ x.off ∧ x.off ≤ 8192 ∧ x.name.size ≤ 24 ∧ x.other.size ≤ 24 ∧ x.text.size ≤ 1024 := by
  unfold rightB at h
  split at h
  · cases h
  · rename_i hk
    simp only [Bool.and_eq_true, withinB] at h
    obtain ⟨⟨⟨_, h1, h2⟩, _⟩, h4⟩ := h
    have ht : (x.text.size : Int) ≤ hText x.kind := by
      simp only [Bool.or_eq_true, decide_eq_true_eq, not_or] at hk
      omega
    have ht2 : hText x.kind ≤ 1024 := by unfold hText; split <;> (try split) <;> omega
    refine ⟨?_, ?_, ?_, ?_, by omega⟩
    · split at h4 <;> simp only [Bool.and_eq_true, decide_eq_true_eq] at h4 <;> omega
    · split at h4 <;> simp only [Bool.and_eq_true, decide_eq_true_eq] at h4 <;> omega
    · split at h1 <;> simp only [Bool.and_eq_true, decide_eq_true_eq] at h1 <;> omega
    · split at h2 <;> simp only [Bool.and_eq_true, decide_eq_true_eq] at h2 <;> omega
theorem oput_no (x : OpR) (h : rightB x = false) : runF cfg 28 [.agg (opV x)] σ p = some (.tup [.nils, .i .i64 1], σ) := by
  refine run_done rfl rfl Try.func28 rfl ?_
  have hrt := fun (σ : List O) p => right_ok (σ := σ) (p := p) x
  simp only [opV] at hrt ⊢
  simp +contextual (disch := first | omega | exact rfl | decide | assumption | exact one_b | exact one_i | exact one_sl | exact one_s | exact one_arr | exact one_ptr | (simp only [List.length_cons, List.length_nil, List.length_set, List.length_append, ints_len, bools_len] <;> omega) | (simp only [List.map_cons, List.map_nil, fk_i, fk_s, fk_b, List.map_append, List.cons_append, List.nil_append]) | (simp only [List.all_cons, List.all_nil, one_nilp, one_nils, one_nilf, one_nili, one_nilm, one_iptr, one_fn, one_iface, one_b, one_i, one_s, one_sl, one_arr, one_ptr, Bool.and_self, Bool.and_true, Bool.true_and] <;> assumption)) only [Try.f28, Wp_seq, Wp_region, Wp_cond, Wp_skip, Wp_ret, Wp_exit, Wp_label, Wp_block, Wp_scope, thenQ_normal, thenQ_exit, thenQ_ret, blockQ_normal, blockQ_exit, blockQ_ret, upQ_normal, upQ_exit, upQ_ret, downQ_normal, downQ_exit, downQ_ret, Ops_cons, Ops_nil, Step_op, Step_call, SOp, SCall_fn, OptQ_some, OptQ_none, OptQ_map, OptQ_bind, OptQ_ite, Br_b, DoneQ_normal, DoneQ_ret, Step_guard2, GStep_op, GStep_call, callA_fn, GOp, gopt_true, gopt_false, gopt_some, vg_true, vg_false, cg_same, cg_true, cg_false, ↓SOp_pick, PkQ_b, pk_true, pk_false, pk_same, pk_and, pk_or, pk_andn, pk_orn, pk_or2, pk_or3, castLit, List.set_set, emp, Int.reduceAdd, Int.reduceSub, Int.reduceMul, Int.reduceNeg, get_app0, get_app, eqB_nil, eqB_cons, scB_i, scB_s, scB_b, all_tt, TrQ_nil, TrQ_cons, accs, touch, touchM, okPair, O.eqb_refl, List.flatMap_cons, List.flatMap_nil, partsAt_nil, partsAt_cons, fill_nil, fill_one, fill_agg, cells_agg, cells_one, splice_all, take_all, List.length_append, List.append_assoc, List.cons_append, rowAt_succ, set_app, set_app0, take_app, take_app2, take_set2, rowAt_app2, List.length_set, one_nilp, one_nils, one_nilf, one_nili, one_nilm, one_iptr, one_fn, one_iface, one_b, one_i, one_s, one_sl, one_arr, one_ptr, List.all_cons, List.all_nil, freezeC_agg, freezeC_ptr, freezeC_nilp, freezeC_nili, frz_agg, frz_int, frz_bool, frz1_s, frz1_nils, frz1_nilp, frz1_nilf, frz1_nili, frz1_nilm, frz1_arr, frz1_ptr, Nat.reduceAdd, Nat.reduceLeDiff, Nat.reduceMul, Nat.reduceSub, isV, opA, guard_of, grdO, grd, List.getElem?_toArray, beq_false, beq_true, decide_true, decide_false, not_true_eq_false, not_false_eq_true, false_implies, true_implies, imp_self, implies_true, or_true, true_or, or_false, false_or, false_and, and_false, or_self, beq_self_eq_true, Bool.and_true, Bool.true_and, Bool.and_false, Bool.false_and, Bool.or_true, Bool.true_or, Bool.or_false, Bool.false_or, Bool.not_eq_false, gt_iff_lt, ge_iff_le, Int.reduceLT, Int.reduceLE, Int.reduceToNat, Int.toNat_natCast, Nat.mul_one, Nat.add_zero, List.getElem?_drop, ints_get', bools_get', Option.isSome_none, Option.isSome_some, Option.isNone_none, Option.isNone_some, Bool.not_eq_true', decide_eq_false_iff_not, Bool.not_true, Bool.not_false, put_mk, put_mk0, ev_tmp, ev_const, ev_func, T.get_set, T_ofList, ofVal_int, ofVal_bool, ofVal_string, ofVal_nils, ofVal_nilp, ofVal_nilm, binA_lss, binA_leq, binA_gtr, binA_geq, binA_eql, binA_neq, binA_sub, binA_add, binA_mul, binA_quo, binA_rem, binA_or, binA_and, binA_xor, binA_seql, binA_sneq, unA_not, toVal_b, toVal_i, builtinP, builtinA, changes, fieldAddrA, resA, tupled, rowAt_app0, foldA_min, foldA_max, rowAt_app, set_app0', rep_bools, rep_ints, set_bools, set_ints, List.length_set, List.length_replicate, Option.bind_none, rowAt_app, rowAt_cons0, take_app, ints_len, bools_len, wrap_i64, IntWalk.i64_quo, IntWalk.rem_in, List.set_cons_zero, List.set_cons_succ, List.nil_append, List.take_length, List.take_nil, List.take_zero, decide_eq_true_eq, Option.getD_some, Option.map_some, Option.map_none, Option.bind_some, List.getElem?_cons_zero, List.getElem?_cons_succ, List.map_cons, List.map_nil, List.length_cons, List.length_nil, Nat.zero_add, ↓reduceIte, Nat.reduceEqDiff, Nat.reduceLT, ne_eq, Int.reduceEq, not_false_eq_true, Option.bind_some, if_false_right, if_true_right, and_true, true_and, Bool.false_eq_true, Bool.true_eq_false, frz_i, frz_b, frz_s, frz_nils, frz_arr, frz_tup, frzC_i, frzC_b, frzC_s, frzC_nils, frzC_arr, sh3, sz3, by3, ag3, kn3, ze3, ld3, li3, sto3, sh5, sz5, by5, ag5, kn5, ze5, ld5, li5, sto5, sh9, sz9, by9, ag9, kn9, ze9, ld9, li9, sto9, les9, ixs9, sh22, sz22, by22, ag22, kn22, el22, ze22, ld22, li22, sto22, ix22, ia22, mk22, ixi22, iai22, le22, lr22, ln22, sh34, sz34, by34, ag34, kn34, ze34, fk34, eq34, ne34, pl34, lda34, sta34, bd34, fi34x0, fi34x1, fi34x2, fi34x3, fi34x4, fi34x5, fi34x6, fi34x7, fi34x8, sh102, sz102, by102, ag102, kn102, ze102, ipi102, ixv102, fk102, eq102, ne102, lda102, sta102, bd102, sh104, sz104, by104, ag104, kn104, ze104, ipi104, ixv104, fk104, eq104, ne104, lda104, sta104, bd104, hrt, h]
theorem oput_ok (x : OpR) (h : rightB x = true) : runF cfg 28 [.agg (opV x)] σ p = some (.tup [.arr (ints .u8 (putL x)) (putL x).length false, .i .i64 0], σ) := by
  refine run_done rfl rfl Try.func28 rfl ?_
  have hrt := fun (σ : List O) p => right_ok (σ := σ) (p := p) x
  simp only [opV] at hrt ⊢
  have hmk : ∀ (σ : List O) st, makeSliceA cfg 22 (.i .i64 7) (.i .i64 7) σ st = some (.sl σ.length st 0 7 1 (some 7), σ ++ [.cells st [.i .u8 0, .i .u8 0, .i .u8 0, .i .u8 0, .i .u8 0, .i .u8 0, .i .u8 0]]) := fun σ st => mk22 (n := 7) (by omega)
  have hoff : 0 ≤ x.off ∧ x.off ≤ 8192 ∧ x.name.size ≤ 24 ∧ x.other.size ≤ 24 ∧ x.text.size ≤ 1024 := right_off h
  obtain ⟨ho1, ho2, hs1, hs2, hs3⟩ := hoff
  have hput1 : ∀ A st row q, row.length = 7 → runF cfg 74 [.sl (σ.length + 1) st 0 7 1 (some 7), .i .i64 5, .i .i64 2, .i .i64 x.off] (σ ++ [A, .cells st row]) q = some (.i .i64 0, σ ++ [A, .cells st ((row.set 5 (.i .u8 (x.off % 256))).set 6 (.i .u8 (x.off / 256)))]) := by
    intro A st row q hrow
    have := put2_ok (σ := σ ++ [A, .cells st row]) (p := q) (r := σ.length + 1) (o := 0) (n := 7) (a := 5) (st := st) (cap := some 7) (row := row) (by rw [rowAt_app]; simp [rowAt]) (by omega) (by omega) (by omega) (by intro c h; cases h; exact Nat.le_refl _) x.off ho1 (by omega)
    rw [set_app] at this
    simpa using this
  have a1 : ∀ (τ : List O) st' r st n r2 st2 m cap2, (n + m) * 1 ≤ 140737488355328 → 0 < m → _ := fun τ st' r st n r2 st2 m cap2 h1 h2 => appC_sl2 (C := cfg) (t := 22) (σ := τ) (st' := st') (r := r) (st := st) (n := n) (r2 := r2) (st2 := st2) (m := m) (cap2 := cap2) el22 by5 h1 h2
  have a2 : ∀ (τ : List O) st' r st n b, (n + ByteArray.size b) * 1 ≤ 140737488355328 → _ := fun τ st' r st n b h1 => appN_s (C := cfg) (t := 22) (σ := τ) (st' := st') (r := r) (st := st) (n := n) (b := b) el22 by5 h1
  have a3 : ∀ (τ : List O) st' r st n r2 st2 m cap2, (n + m) * 1 ≤ 140737488355328 → _ := fun τ st' r st n r2 st2 m cap2 h1 => appN_sl (C := cfg) (t := 22) (σ := τ) (st' := st') (r := r) (st := st) (n := n) (r2 := r2) (st2 := st2) (m := m) (cap2 := cap2) el22 by5 h1
  have e1 : x.name.size + 1 + 1 + 1 + 1 + 1 + 1 + 1 + 1 = 8 + x.name.size := by omega
  have e2 : x.name.size + (x.other.size + 1) + 1 + 1 + 1 + 1 + 1 + 1 + 1 + 1 = 8 + x.name.size + 1 + x.other.size := by omega
  have hput2 : ∀ A B C D E st a1 a2 a3 a4 a5 a6 a7 a8 b q, runF cfg 74 [.sl (σ.length + 3) st 0 (8 + x.name.size + 1 + x.other.size + 2) 1 none, .i .i64 ((8 + x.name.size + 1 + x.other.size : Nat) : Int), .i .i64 2, .i .i64 (x.text.size : Int)]
      (σ ++ [A, B, C, .cells st (a1 :: a2 :: a3 :: a4 :: a5 :: a6 :: a7 :: a8 :: (u8s x.name ++ b :: (u8s x.other ++ [.i .u8 0, .i .u8 0]))), D, E]) q =
      some (.i .i64 0, σ ++ [A, B, C, .cells st (a1 :: a2 :: a3 :: a4 :: a5 :: a6 :: a7 :: a8 :: (u8s x.name ++ b :: (u8s x.other ++ [.i .u8 ((x.text.size : Int) % 256), .i .u8 ((x.text.size : Int) / 256)]))), D, E]) := by
    intro A B C D E st a1 a2 a3 a4 a5 a6 a7 a8 b q
    have hrow : ∀ c d, (a1 :: a2 :: a3 :: a4 :: a5 :: a6 :: a7 :: a8 :: (u8s x.name ++ b :: (u8s x.other ++ [c, d]))) = (a1 :: a2 :: a3 :: a4 :: a5 :: a6 :: a7 :: a8 :: (u8s x.name ++ b :: u8s x.other)) ++ [c, d] := by
      intro c d; simp
    have hpl : (a1 :: a2 :: a3 :: a4 :: a5 :: a6 :: a7 :: a8 :: (u8s x.name ++ b :: u8s x.other)).length = 8 + x.name.size + 1 + x.other.size := by
      simp [u8s_len]; omega
    rw [hrow, hrow]
    generalize (a1 :: a2 :: a3 :: a4 :: a5 :: a6 :: a7 :: a8 :: (u8s x.name ++ b :: u8s x.other)) = pre at hpl ⊢
    rw [← hpl]
    have := put2_ok (σ := σ ++ [A, B, C, .cells st (pre ++ [.i .u8 0, .i .u8 0]), D, E]) (p := q) (r := σ.length + 3) (o := 0) (n := pre.length + 2) (a := pre.length) (st := st) (cap := none) (row := pre ++ [.i .u8 0, .i .u8 0]) (by rw [rowAt_app]; simp [rowAt]) (by omega) (by omega) (by simp) (by intro c h; cases h) (x.text.size : Int) (by omega) (by omega)
    rw [set_app] at this
    rw [this]
    simp
  simp +contextual (disch := first | omega | exact rfl | decide | assumption | exact one_b | exact one_i | exact one_sl | exact one_s | exact one_arr | exact one_ptr | (simp only [List.length_cons, List.length_nil, List.length_set, List.length_append, ints_len, bools_len] <;> omega) | (simp only [List.map_cons, List.map_nil, fk_i, fk_s, fk_b, List.map_append, List.cons_append, List.nil_append]) | (simp only [List.all_cons, List.all_nil, one_nilp, one_nils, one_nilf, one_nili, one_nilm, one_iptr, one_fn, one_iface, one_b, one_i, one_s, one_sl, one_arr, one_ptr, Bool.and_self, Bool.and_true, Bool.true_and] <;> assumption)) only [Try.f28, Wp_seq, Wp_region, Wp_cond, Wp_skip, Wp_ret, Wp_exit, Wp_label, Wp_block, Wp_scope, thenQ_normal, thenQ_exit, thenQ_ret, blockQ_normal, blockQ_exit, blockQ_ret, upQ_normal, upQ_exit, upQ_ret, downQ_normal, downQ_exit, downQ_ret, Ops_cons, Ops_nil, Step_op, Step_call, SOp, SCall_fn, OptQ_some, OptQ_none, OptQ_map, OptQ_bind, OptQ_ite, Br_b, DoneQ_normal, DoneQ_ret, Step_guard2, GStep_op, GStep_call, callA_fn, GOp, gopt_true, gopt_false, gopt_some, vg_true, vg_false, cg_same, cg_true, cg_false, ↓SOp_pick, PkQ_b, pk_true, pk_false, pk_same, pk_and, pk_or, pk_andn, pk_orn, pk_or2, pk_or3, castLit, List.set_set, emp, Int.reduceAdd, Int.reduceSub, Int.reduceMul, Int.reduceNeg, get_app0, get_app, eqB_nil, eqB_cons, scB_i, scB_s, scB_b, all_tt, TrQ_nil, TrQ_cons, accs, touch, touchM, okPair, O.eqb_refl, List.flatMap_cons, List.flatMap_nil, partsAt_nil, partsAt_cons, fill_nil, fill_one, fill_agg, cells_agg, cells_one, splice_all, take_all, List.length_append, List.append_assoc, List.cons_append, rowAt_succ, set_app, set_app0, take_app, take_app2, take_set2, rowAt_app2, List.length_set, one_nilp, one_nils, one_nilf, one_nili, one_nilm, one_iptr, one_fn, one_iface, one_b, one_i, one_s, one_sl, one_arr, one_ptr, List.all_cons, List.all_nil, freezeC_agg, freezeC_ptr, freezeC_nilp, freezeC_nili, frz_agg, frz_int, frz_bool, frz1_s, frz1_nils, frz1_nilp, frz1_nilf, frz1_nili, frz1_nilm, frz1_arr, frz1_ptr, Nat.reduceAdd, Nat.reduceLeDiff, Nat.reduceMul, Nat.reduceSub, isV, opA, guard_of, grdO, grd, List.getElem?_toArray, beq_false, beq_true, decide_true, decide_false, not_true_eq_false, not_false_eq_true, false_implies, true_implies, imp_self, implies_true, or_true, true_or, or_false, false_or, false_and, and_false, or_self, beq_self_eq_true, Bool.and_true, Bool.true_and, Bool.and_false, Bool.false_and, Bool.or_true, Bool.true_or, Bool.or_false, Bool.false_or, Bool.not_eq_false, gt_iff_lt, ge_iff_le, Int.reduceLT, Int.reduceLE, Int.reduceToNat, Int.toNat_natCast, Nat.mul_one, Nat.add_zero, List.getElem?_drop, ints_get', bools_get', Option.isSome_none, Option.isSome_some, Option.isNone_none, Option.isNone_some, Bool.not_eq_true', decide_eq_false_iff_not, Bool.not_true, Bool.not_false, put_mk, put_mk0, ev_tmp, ev_const, ev_func, T.get_set, T_ofList, ofVal_int, ofVal_bool, ofVal_string, ofVal_nils, ofVal_nilp, ofVal_nilm, binA_lss, binA_leq, binA_gtr, binA_geq, binA_eql, binA_neq, binA_sub, binA_add, binA_mul, binA_quo, binA_rem, binA_or, binA_and, binA_xor, binA_seql, binA_sneq, unA_not, toVal_b, toVal_i, builtinP, builtinA, changes, fieldAddrA, resA, tupled, rowAt_app0, foldA_min, foldA_max, rowAt_app, set_app0', rep_bools, rep_ints, set_bools, set_ints, List.length_set, List.length_replicate, Option.bind_none, rowAt_app, rowAt_cons0, take_app, ints_len, bools_len, wrap_i64, IntWalk.i64_quo, IntWalk.rem_in, List.set_cons_zero, List.set_cons_succ, List.nil_append, List.take_length, List.take_nil, List.take_zero, decide_eq_true_eq, Option.getD_some, Option.map_some, Option.map_none, Option.bind_some, List.getElem?_cons_zero, List.getElem?_cons_succ, List.map_cons, List.map_nil, List.length_cons, List.length_nil, Nat.zero_add, ↓reduceIte, Nat.reduceEqDiff, Nat.reduceLT, ne_eq, Int.reduceEq, not_false_eq_true, Option.bind_some, if_false_right, if_true_right, and_true, true_and, Bool.false_eq_true, Bool.true_eq_false, frz_i, frz_b, frz_s, frz_nils, frz_arr, frz_tup, frzC_i, frzC_b, frzC_s, frzC_nils, frzC_arr, sh3, sz3, by3, ag3, kn3, ze3, ld3, li3, sto3, sh5, sz5, by5, ag5, kn5, ze5, ld5, li5, sto5, sh9, sz9, by9, ag9, kn9, ze9, ld9, li9, sto9, les9, ixs9, sh22, sz22, by22, ag22, kn22, el22, ze22, ld22, li22, sto22, ix22, ia22, mk22, ixi22, iai22, le22, lr22, ln22, sh34, sz34, by34, ag34, kn34, ze34, fk34, eq34, ne34, pl34, lda34, sta34, bd34, fi34x0, fi34x1, fi34x2, fi34x3, fi34x4, fi34x5, fi34x6, fi34x7, fi34x8, sh102, sz102, by102, ag102, kn102, ze102, ipi102, ixv102, fk102, eq102, ne102, lda102, sta102, bd102, sh104, sz104, by104, ag104, kn104, ze104, ipi104, ixv104, fk104, eq104, ne104, lda104, sta104, bd104, hrt, h, Wq_loop, loopQ_normal, loopQ_exit, loopQ_ret, convertP, wrap_u8, hmk, hput1, buildSliceA, List.replicate_succ, List.replicate_zero, List.flatten_cons, List.flatten_nil, a1, a2, a3, u8s_len, e1, e2, hput2]
  rw [if_pos (by omega)]
  have hrow : (V.i .u8 (x.kind % 256) :: V.i .u8 (x.dir % 256) :: V.i .u8 (x.to % 256) :: V.i .u8 (x.node % 256) :: V.i .u8 (x.sort % 256) :: V.i .u8 (x.off % 256) :: V.i .u8 (x.off / 256) :: V.i .u8 ((x.name.size : Int) % 256) ::
      (u8s x.name ++ V.i .u8 ((x.other.size : Int) % 256) :: (u8s x.other ++ V.i .u8 ((x.text.size : Int) % 256) :: V.i .u8 ((x.text.size : Int) / 256) :: u8s x.text))) = ints .u8 (putL x) := by
    have hu : ∀ b, u8s b = (byI b).map (V.i .u8) := u8s_eq
    simp [putL, ints, hu]
  have hlen : x.name.size + (x.other.size + 2 + 1) + 1 + 1 + 1 + 1 + 1 + 1 + 1 + 1 + x.text.size = (putL x).length := by
    simp [putL, byI_len]; omega
  rw [hrow, hlen, frzC_row (k := .u8) (l := putL x) (by omega) (by rw [rowAt_app]; simp [rowAt]) (by rw [← hlen]; omega)]
end Go.Am.R1

/- Changes into bytes and back: plain laws. -/
namespace Go.Am.R1
open Go.Proofs
set_option maxRecDepth 100000
set_option linter.unusedSimpArgs false
set_option linter.unusedVariables false
theorem byI_str {l : List Int} (hl : ∀ x ∈ l, 0 ≤ x ∧ x ≤ 255) : byI (str l) = l := by
  have h : ∀ x ∈ l, ((UInt8.ofNat x.toNat).toNat : Int) = x := fun x hx => by
    have := hl x hx
    rw [UInt8.toNat_ofNat']
    omega
  simp only [byI, str, List.map_map]
  calc _ = l.map id := List.map_congr_left fun x hx => h x hx
    _ = l := by simp
theorem str_byI (b : ByteArray) : str (byI b) = b := by
  have : (byI b).map (fun n => UInt8.ofNat n.toNat) = b.data.toList := by
    simp only [byI, List.map_map]
    calc _ = b.data.toList.map id := List.map_congr_left fun x _ => by simp
      _ = _ := by simp
  simp [str, this]
theorem str_size (l : List Int) : (str l).size = l.length := by
  show ((l.map _).toArray).size = _
  simp
/-- A text with its length ahead. -/
def enc (w : Nat) (s : ByteArray) : List Int := (if w = 1 then [(s.size : Int) % 256] else [(s.size : Int) % 256, (s.size : Int) / 256]) ++ byI s
theorem rd_back {m : List Int} (hm : ∀ x ∈ m, 0 ≤ x ∧ x ≤ 255) {bad : Bool} {w : Nat} (hw : w = 1 ∨ w = 2) (h : (rd m bad w).2.2 = false) : bad = false ∧ m = enc w (rd m bad w).1 ++ (rd m bad w).2.1 := by
  unfold rd at h ⊢
  cases bad with
  | true => simp at h
  | false =>
    simp only [Bool.false_eq_true, if_false] at h ⊢
    cases ht : textN m 0 w with
    | none => rw [ht] at h; simp at h
    | some n =>
      refine ⟨trivial, ?_⟩
      have hle := textN_le ht
      have hn : n = le ((m.take (0 + w)).drop 0) := by
        unfold textN at ht
        rw [if_pos (by omega)] at ht
        simp only at ht
        split at ht
        · cases ht; rfl
        · cases ht
      simp only [Nat.zero_add, List.drop_zero] at hn hle
      have hb : ∀ x ∈ (m.take (w + n)).drop w, 0 ≤ x ∧ x ≤ 255 := fun x hx => hm x (List.mem_of_mem_take (List.mem_of_mem_drop hx))
      have hlen : ((m.take (w + n)).drop w).length = n := by rw [List.length_drop, List.length_take]; omega
      simp only [enc, str_size, byI_str hb, hlen]
      have hsplit : m = m.take w ++ ((m.take (w + n)).drop w ++ m.drop (w + n)) := by
        have e1 : m.take w = (m.take (w + n)).take w := by rw [List.take_take, Nat.min_eq_left (by omega)]
        rw [← List.append_assoc, e1, List.take_append_drop, List.take_append_drop]
      have hd : m.take w = if w = 1 then [(n : Int) % 256] else [(n : Int) % 256, (n : Int) / 256] := by
        rcases hw with rfl | rfl
        · match m, hle with
          | a :: m, _ =>
            have := hm a (by simp)
            simp [le] at hn
            simp [hn]; omega
        · match m, hle with
          | a :: b :: m, _ =>
            have h1 := hm a (by simp)
            have h2 := hm b (by simp)
            simp [le] at hn
            simp [hn]; omega
          | [a], h => simp at h; omega
      rw [← hd, List.append_assoc]
      exact hsplit
theorem rd_fwd {s : ByteArray} {m : List Int} {w : Nat} (hw : w = 1 ∧ s.size < 256 ∨ w = 2 ∧ s.size < 65536) : rd (enc w s ++ m) false w = (s, m, false) := by
  have hle : ∀ k : List Int, le ((((if w = 1 then [(s.size : Int) % 256] else [(s.size : Int) % 256, (s.size : Int) / 256]) ++ k).take w)) = s.size := by
    intro k
    rcases hw with ⟨rfl, h⟩ | ⟨rfl, h⟩
    · simp [le]; omega
    · simp [le]; omega
  have hl : (if w = 1 then [(s.size : Int) % 256] else [(s.size : Int) % 256, (s.size : Int) / 256]).length = w := by
    rcases hw with ⟨rfl, h⟩ | ⟨rfl, h⟩ <;> rfl
  have hen : (enc w s ++ m).length = w + s.size + m.length := by
    simp only [enc, List.length_append, hl, byI_len]
  have ht : textN (enc w s ++ m) 0 w = some s.size := by
    unfold textN
    rw [if_pos (by omega)]
    simp only [Nat.zero_add, List.drop_zero]
    have : (enc w s ++ m).take w = ((if w = 1 then [(s.size : Int) % 256] else [(s.size : Int) % 256, (s.size : Int) / 256]) ++ (byI s ++ m)).take w := by simp only [enc, List.append_assoc]
    rw [this, hle, if_pos (by omega)]
  have hel : (enc w s).length = w + s.size := by simp only [enc, List.length_append, hl, byI_len]
  unfold rd
  rw [ht]
  simp only [Bool.false_eq_true, if_false]
  have e1 : (enc w s ++ m).take (w + s.size) = enc w s := by rw [← hel, List.take_left]
  have e2 : (enc w s ++ m).drop (w + s.size) = m := by rw [← hel, List.drop_left]
  have e3 : (enc w s).drop w = byI s := by
    have : (enc w s).drop w = ((if w = 1 then [(s.size : Int) % 256] else [(s.size : Int) % 256, (s.size : Int) / 256]) ++ byI s).drop (if w = 1 then [(s.size : Int) % 256] else [(s.size : Int) % 256, (s.size : Int) / 256]).length := by rw [hl]; rfl
    rw [this, List.drop_left]
  rw [e1, e2, e3, str_byI]
theorem putL_enc (x : OpR) : putL x = [x.kind % 256, x.dir % 256, x.to % 256, x.node % 256, x.sort % 256, x.off % 256, x.off / 256] ++ (enc 1 x.name ++ (enc 1 x.other ++ (enc 2 x.text ++ []))) := by
  simp [putL, enc]
theorem right_in {x : OpR} (h : rightB x = true) : (1 ≤ x.kind ∧ x.kind ≤ 8) ∧ (0 ≤ x.dir ∧ x.dir ≤ 64) ∧ (0 ≤ x.to ∧ x.to ≤ 64) ∧ (0 ≤ x.node ∧ x.node ≤ 64) ∧ (0 ≤ x.sort ∧ x.sort ≤ 3) := by
  unfold rightB at h
  split at h
  · cases h
  · rename_i hk
    simp only [Bool.or_eq_true, Bool.not_eq_true', okK, decide_eq_true_eq, not_or, Bool.and_eq_false_iff, decide_eq_false_iff_not] at hk
    simp only [Bool.and_eq_true, withinB] at h
    obtain ⟨⟨⟨⟨⟨h1, h2⟩, h3⟩, _⟩, h5⟩, _⟩ := h
    have hs : sortsI x.kind ≤ 3 := by unfold sortsI; split <;> omega
    refine ⟨by omega, ?_, ?_, ?_, ?_⟩
    · split at h1 <;> simp only [Bool.and_eq_true, decide_eq_true_eq] at h1 <;> omega
    · split at h2 <;> simp only [Bool.and_eq_true, decide_eq_true_eq] at h2 <;> omega
    · split at h3 <;> simp only [Bool.and_eq_true, decide_eq_true_eq] at h3 <;> omega
    · split at h5 <;> simp only [Bool.and_eq_true, decide_eq_true_eq] at h5 <;> omega
theorem putL_in {x : OpR} (h : rightB x = true) : ∀ n ∈ putL x, 0 ≤ n ∧ n ≤ 255 := by
  obtain ⟨o1, o2, s1, s2, s3⟩ := right_off h
  intro n hn
  simp only [putL, List.mem_append, List.mem_cons, List.not_mem_nil, or_false] at hn
  rcases hn with (((((h | h) | h) | h) | h) | h) | h
  · omega
  · omega
  · exact byI_in _ n h
  · omega
  · exact byI_in _ n h
  · omega
  · exact byI_in _ n h
theorem put_take {x : OpR} (h : rightB x = true) : takeR (putL x) = (x, true) ∧ 7 ≤ (putL x).length ∧ (putL x).length ≤ 1083 := by
  obtain ⟨g1, g2, g3, g4, g5⟩ := right_in h
  obtain ⟨o1, o2, s1, s2, s3⟩ := right_off h
  have hlen : (putL x).length = 7 + (1 + x.name.size) + (1 + x.other.size) + (2 + x.text.size) := by
    simp [putL, byI_len]; omega
  refine ⟨?_, by omega, by omega⟩
  rw [putL_enc]
  have e1 : (x.kind % 256) = x.kind := by omega
  have e2 : (x.dir % 256) = x.dir := by omega
  have e3 : (x.to % 256) = x.to := by omega
  have e4 : (x.node % 256) = x.node := by omega
  have e5 : (x.sort % 256) = x.sort := by omega
  have e6 : (((x.off % 256).toNat + 256 * ((x.off / 256).toNat) : Nat) : Int) = x.off := by omega
  have r1 := rd_fwd (s := x.name) (m := enc 1 x.other ++ (enc 2 x.text ++ [])) (w := 1) (.inl ⟨rfl, by omega⟩)
  have r2 := rd_fwd (s := x.other) (m := enc 2 x.text ++ []) (w := 1) (.inl ⟨rfl, by omega⟩)
  have r3 := rd_fwd (s := x.text) (m := []) (w := 2) (.inr ⟨rfl, by omega⟩)
  rw [e1, e2, e3, e4, e5]
  simp only [takeR, List.cons_append, List.nil_append, List.drop_succ_cons, List.drop_zero, List.take_succ_cons, List.take_zero, r1, r2, r3, le]
  simp only [List.getD_cons_zero, List.getD_cons_succ, List.length_nil, Nat.lt_irrefl, decide_false, Bool.or_false, Bool.not_false, Bool.true_and, Nat.mul_zero, Nat.add_zero, e6]
  exact Prod.ext rfl h
theorem take_put {l : List Int} (hl : ∀ x ∈ l, 0 ≤ x ∧ x ≤ 255) (h7 : 7 ≤ l.length) (h : (takeR l).2 = true) : putL (takeR l).1 = l ∧ rightB (takeR l).1 = true := by
  simp only [takeR] at h ⊢
  obtain ⟨r1, hr1⟩ : ∃ r, r = rd (l.drop 7) false 1 := ⟨_, rfl⟩
  obtain ⟨r2, hr2⟩ : ∃ r, r = rd r1.2.1 r1.2.2 1 := ⟨_, rfl⟩
  obtain ⟨r3, hr3⟩ : ∃ r, r = rd r2.2.1 r2.2.2 2 := ⟨_, rfl⟩
  rw [← hr1, ← hr2, ← hr3] at h ⊢
  simp only [Bool.and_eq_true, Bool.not_eq_true', Bool.or_eq_false_iff, decide_eq_false_iff_not] at h
  obtain ⟨⟨h1, h2⟩, h3⟩ := h
  refine ⟨?_, h3⟩
  have m0 : ∀ x ∈ l.drop 7, 0 ≤ x ∧ x ≤ 255 := fun x hx => hl x (List.mem_of_mem_drop hx)
  have m1 : ∀ x ∈ r1.2.1, 0 ≤ x ∧ x ≤ 255 := fun x hx => by rw [hr1] at hx; exact m0 x (rd_mem x hx)
  have m2 : ∀ x ∈ r2.2.1, 0 ≤ x ∧ x ≤ 255 := fun x hx => by rw [hr2] at hx; exact m1 x (rd_mem x hx)
  rw [hr3] at h1
  obtain ⟨b2, e3⟩ := rd_back m2 (.inr rfl) h1
  rw [← hr3] at e3
  have b2' := b2
  rw [hr2] at b2
  obtain ⟨b1, e2⟩ := rd_back m1 (.inl rfl) b2
  rw [← hr2] at e2
  rw [hr1] at b1
  obtain ⟨_, e1⟩ := rd_back m0 (.inl rfl) b1
  rw [← hr1] at e1
  have hnil : r3.2.1 = [] := List.eq_nil_of_length_eq_zero (by omega)
  rw [hnil] at e3
  rw [putL_enc]
  simp only
  rw [← e3, ← e2, ← e1]
  obtain ⟨c0, c1, c2, c3, c4, c5, c6, m, rfl⟩ : ∃ c0 c1 c2 c3 c4 c5 c6 m, l = c0 :: c1 :: c2 :: c3 :: c4 :: c5 :: c6 :: m := by
    match l, h7 with
    | c0 :: c1 :: c2 :: c3 :: c4 :: c5 :: c6 :: m, _ => exact ⟨_, _, _, _, _, _, _, _, rfl⟩
  have q0 := hl c0 (by simp)
  have q1 := hl c1 (by simp)
  have q2 := hl c2 (by simp)
  have q3 := hl c3 (by simp)
  have q4 := hl c4 (by simp)
  have q5 := hl c5 (by simp)
  have q6 := hl c6 (by simp)
  simp [le]
  omega
end Go.Am.R1

/- The law OpBack, over the machine. -/
namespace Go.Am.R1
open Go.Proofs
set_option maxRecDepth 100000
set_option linter.unusedSimpArgs false
set_option linter.unusedVariables false
theorem alive20_1 (o : O) : runF cfg 25 [] [o] [1] = some (.b true, [o]) := runF_of (k := 500) (by kernel_rfl)
theorem same_no {σ : List O} {p : List Nat} {l m : List Int} {x y : V} (hx : View σ x (ints .u8 l)) (hy : View σ y (ints .u8 m)) (hl : ∀ x ∈ l, 0 ≤ x ∧ x ≤ 255) (hm : ∀ x ∈ m, 0 ≤ x ∧ x ≤ 255) : runF cfg 24 [x, y] σ p = some (.b (decide (l = m)), σ) := by
  refine run_done rfl rfl Try.func24 rfl ?_
  have e : decide (str l = str m) = decide (l = m) := decide_eq_decide.2 ⟨fun h => by rw [← byI_str hl, ← byI_str hm, h], fun h => by rw [h]⟩
  simp (disch := first | omega | exact rfl | decide | exact one_b | exact one_i | exact one_sl | exact one_s | exact one_arr | exact one_ptr) only [Try.f24, Wp_seq, Wp_region, Wp_cond, Wp_skip, Wp_ret, Wp_exit, Wp_label, Wp_block, Wp_scope, thenQ_normal, thenQ_exit, thenQ_ret, blockQ_normal, blockQ_exit, blockQ_ret, upQ_normal, upQ_exit, upQ_ret, downQ_normal, downQ_exit, downQ_ret, Ops_cons, Ops_nil, Step_op, Step_call, Step_guard, SOp, SCall_fn, OptQ_some, OptQ_none, OptQ_map, OptQ_bind, OptQ_ite, Br_b, DoneQ_normal, DoneQ_ret, isV, opA, guard_of, grdO, grd, List.getElem?_toArray, beq_false, beq_true, decide_true, decide_false, not_true_eq_false, not_false_eq_true, false_implies, true_implies, imp_self, implies_true, or_true, true_or, or_false, false_or, false_and, and_false, or_self, beq_self_eq_true, Bool.and_true, Bool.true_and, Bool.and_false, Bool.false_and, Bool.or_true, Bool.true_or, Bool.or_false, Bool.false_or, Bool.not_eq_false, gt_iff_lt, ge_iff_le, Int.reduceLT, Int.reduceLE, Int.reduceToNat, Int.toNat_natCast, Nat.mul_one, Nat.add_zero, List.getElem?_drop, ints_get', bools_get', Option.isSome_none, Option.isSome_some, Option.isNone_none, Option.isNone_some, Bool.not_eq_true', decide_eq_false_iff_not, Bool.not_true, Bool.not_false, put_mk, put_mk0, ev_tmp, ev_const, ev_func, T.get_set, T_ofList, ofVal_int, ofVal_bool, ofVal_string, ofVal_nils, ofVal_nilp, ofVal_nilm, binA_lss, binA_leq, binA_gtr, binA_geq, binA_eql, binA_neq, binA_sub, binA_add, binA_mul, binA_quo, binA_rem, binA_or, binA_and, binA_xor, binA_seql, binA_sneq, unA_not, toVal_b, toVal_i, builtinP, builtinA, changes, fieldAddrA, resA, tupled, rowAt_app0, foldA_min, foldA_max, rowAt_app, set_app0', rep_bools, rep_ints, set_bools, set_ints, List.length_set, List.length_replicate, Option.bind_none, rowAt_app, rowAt_cons0, take_app, ints_len, bools_len, wrap_i64, IntWalk.i64_quo, IntWalk.rem_in, List.set_cons_zero, List.set_cons_succ, List.nil_append, List.take_length, List.take_nil, List.take_zero, decide_eq_true_eq, Option.getD_some, Option.map_some, Option.map_none, Option.bind_some, List.getElem?_cons_zero, List.getElem?_cons_succ, List.map_cons, List.map_nil, List.length_cons, List.length_nil, Nat.zero_add, ↓reduceIte, Nat.reduceEqDiff, Nat.reduceLT, ne_eq, Int.reduceEq, not_false_eq_true, Option.bind_some, if_false_right, if_true_right, and_true, true_and, Bool.false_eq_true, Bool.true_eq_false, frz_i, frz_b, frz_s, frz_nils, frz_arr, frz_tup, frzC_i, frzC_b, frzC_s, frzC_nils, frzC_arr, sh9, hx.str sh22 sh5 sh9, hy.str sh22 sh5 sh9]
  exact congrArg (fun b => (V.b b, σ)) e
theorem takeV_cases (l : List Int) : takeV l = [.agg op0, .i .i64 15] ∨ (7 ≤ l.length ∧ (takeR l).2 = true ∧ takeV l = [.agg (opV (takeR l).1), .i .i64 0]) := by
  unfold takeV
  by_cases h : l.length < 7
  · rw [if_pos h]; exact .inl rfl
  · rw [if_neg h]
    by_cases h2 : (takeR l).2 = true
    · rw [if_pos h2]; exact .inr ⟨by omega, h2, rfl⟩
    · rw [if_neg h2]; exact .inl rfl
theorem law6 (x : OpR) (l : List Int) (hl : ∀ x ∈ l, 0 ≤ x ∧ x ≤ 255) (hn : l.length ≤ 140737488355328) {y : V} (hy : View [] y (ints .u8 l)) :
    runF cfg 6 [.agg (opV x), y] [] [] = some (.b true, []) := by
  refine run_done rfl rfl Try.func6 rfl ?_
  have hy' : ∀ σ, View σ y (ints .u8 l) := fun σ => by have := hy.app σ; simpa using this
  have r1 := fun σ p => otake_ok (σ := σ) (p := p) l hl hn (hy' σ)
  have hput : ∀ (x : OpR) (σ : List O) p, rightB x = true → runF cfg 28 [.agg (opV x)] σ p = some (.tup [.arr (ints .u8 (putL x)) (putL x).length false, .i .i64 0], σ) := fun x σ p h => oput_ok x h
  have hview : ∀ (σ : List O) (l : List Int), View σ (.arr (ints .u8 l) l.length false) (ints .u8 l) := fun σ l => View.ints σ .u8 l false
  rcases takeV_cases l with hT | ⟨h7, ht, hT⟩
  · rw [hT] at r1
    cases hr : rightB x with
    | false =>
      have r2 := fun σ p => oput_no (σ := σ) (p := p) x hr
      simp only [opV] at r2 ⊢
      simp +contextual (disch := first | omega | exact rfl | decide | assumption | exact one_b | exact one_i | exact one_sl | exact one_s | exact one_arr | exact one_ptr | (simp only [List.length_cons, List.length_nil, List.length_set, List.length_append, ints_len, bools_len] <;> omega) | (simp only [List.map_cons, List.map_nil, fk_i, fk_s, fk_b, List.map_append, List.cons_append, List.nil_append]) | (simp only [List.all_cons, List.all_nil, one_nilp, one_nils, one_nilf, one_nili, one_nilm, one_iptr, one_fn, one_iface, one_b, one_i, one_s, one_sl, one_arr, one_ptr, Bool.and_self, Bool.and_true, Bool.true_and] <;> assumption)) only [Try.f6, Wp_seq, Wp_region, Wp_cond, Wp_skip, Wp_ret, Wp_exit, Wp_label, Wp_block, Wp_scope, thenQ_normal, thenQ_exit, thenQ_ret, blockQ_normal, blockQ_exit, blockQ_ret, upQ_normal, upQ_exit, upQ_ret, downQ_normal, downQ_exit, downQ_ret, Ops_cons, Ops_nil, Step_op, Step_call, SOp, SCall_fn, OptQ_some, OptQ_none, OptQ_map, OptQ_bind, OptQ_ite, Br_b, DoneQ_normal, DoneQ_ret, Step_guard2, GStep_op, GStep_call, callA_fn, GOp, gopt_true, gopt_false, gopt_some, vg_true, vg_false, cg_same, cg_true, cg_false, ↓SOp_pick, PkQ_b, pk_true, pk_false, pk_same, pk_and, pk_or, pk_andn, pk_orn, pk_or2, pk_or3, castLit, List.set_set, emp, Int.reduceAdd, Int.reduceSub, Int.reduceMul, Int.reduceNeg, get_app0, get_app, eqB_nil, eqB_cons, scB_i, scB_s, scB_b, all_tt, TrQ_nil, TrQ_cons, accs, touch, touchM, okPair, O.eqb_refl, List.flatMap_cons, List.flatMap_nil, partsAt_nil, partsAt_cons, fill_nil, fill_one, fill_agg, cells_agg, cells_one, splice_all, take_all, List.length_append, List.append_assoc, List.cons_append, rowAt_succ, set_app, set_app0, take_app, take_app2, take_set2, rowAt_app2, List.length_set, one_nilp, one_nils, one_nilf, one_nili, one_nilm, one_iptr, one_fn, one_iface, one_b, one_i, one_s, one_sl, one_arr, one_ptr, List.all_cons, List.all_nil, freezeC_agg, freezeC_ptr, freezeC_nilp, freezeC_nili, frz_agg, frz_int, frz_bool, frz1_s, frz1_nils, frz1_nilp, frz1_nilf, frz1_nili, frz1_nilm, frz1_arr, frz1_ptr, Nat.reduceAdd, Nat.reduceLeDiff, Nat.reduceMul, Nat.reduceSub, isV, opA, guard_of, grdO, grd, List.getElem?_toArray, beq_false, beq_true, decide_true, decide_false, not_true_eq_false, not_false_eq_true, false_implies, true_implies, imp_self, implies_true, or_true, true_or, or_false, false_or, false_and, and_false, or_self, beq_self_eq_true, Bool.and_true, Bool.true_and, Bool.and_false, Bool.false_and, Bool.or_true, Bool.true_or, Bool.or_false, Bool.false_or, Bool.not_eq_false, gt_iff_lt, ge_iff_le, Int.reduceLT, Int.reduceLE, Int.reduceToNat, Int.toNat_natCast, Nat.mul_one, Nat.add_zero, List.getElem?_drop, ints_get', bools_get', Option.isSome_none, Option.isSome_some, Option.isNone_none, Option.isNone_some, Bool.not_eq_true', decide_eq_false_iff_not, Bool.not_true, Bool.not_false, put_mk, put_mk0, ev_tmp, ev_const, ev_func, T.get_set, T_ofList, ofVal_int, ofVal_bool, ofVal_string, ofVal_nils, ofVal_nilp, ofVal_nilm, binA_lss, binA_leq, binA_gtr, binA_geq, binA_eql, binA_neq, binA_sub, binA_add, binA_mul, binA_quo, binA_rem, binA_or, binA_and, binA_xor, binA_seql, binA_sneq, unA_not, toVal_b, toVal_i, builtinP, builtinA, changes, fieldAddrA, resA, tupled, rowAt_app0, foldA_min, foldA_max, rowAt_app, set_app0', rep_bools, rep_ints, set_bools, set_ints, List.length_set, List.length_replicate, Option.bind_none, rowAt_app, rowAt_cons0, take_app, ints_len, bools_len, wrap_i64, IntWalk.i64_quo, IntWalk.rem_in, List.set_cons_zero, List.set_cons_succ, List.nil_append, List.take_length, List.take_nil, List.take_zero, decide_eq_true_eq, Option.getD_some, Option.map_some, Option.map_none, Option.bind_some, List.getElem?_cons_zero, List.getElem?_cons_succ, List.map_cons, List.map_nil, List.length_cons, List.length_nil, Nat.zero_add, ↓reduceIte, Nat.reduceEqDiff, Nat.reduceLT, ne_eq, Int.reduceEq, not_false_eq_true, Option.bind_some, if_false_right, if_true_right, and_true, true_and, Bool.false_eq_true, Bool.true_eq_false, frz_i, frz_b, frz_s, frz_nils, frz_arr, frz_tup, frzC_i, frzC_b, frzC_s, frzC_nils, frzC_arr, sh3, sz3, by3, ag3, kn3, ze3, ld3, li3, sto3, sh5, sz5, by5, ag5, kn5, ze5, ld5, li5, sto5, sh9, sz9, by9, ag9, kn9, ze9, ld9, li9, sto9, les9, ixs9, sh22, sz22, by22, ag22, kn22, el22, ze22, ld22, li22, sto22, ix22, ia22, mk22, ixi22, iai22, le22, lr22, ln22, sh25, sz25, by25, ag25, kn25, ze25, ld25, li25, sto25, sh34, sz34, by34, ag34, kn34, ze34, fk34, eq34, ne34, pl34, lda34, sta34, bd34, fi34x0, fi34x1, fi34x2, fi34x3, fi34x4, fi34x5, fi34x6, fi34x7, fi34x8, alive20_1, r1, r2, op0]
    | true =>
      obtain ⟨g1, g2, g3⟩ := put_take hr
      have r2 := fun σ p => hput x σ p hr
      have r3 := fun σ p => otake_ok (σ := σ) (p := p) (putL x) (putL_in hr) (by omega) (hview σ (putL x))
      rw [takeV, if_neg (by omega), g1] at r3
      simp only [opV, if_true] at r2 r3 ⊢
      have g3' : ((putL x).length : Int) ≤ 1083 := by omega
      simp +contextual (disch := first | omega | exact rfl | decide | assumption | exact one_b | exact one_i | exact one_sl | exact one_s | exact one_arr | exact one_ptr | (simp only [List.length_cons, List.length_nil, List.length_set, List.length_append, ints_len, bools_len] <;> omega) | (simp only [List.map_cons, List.map_nil, fk_i, fk_s, fk_b, List.map_append, List.cons_append, List.nil_append]) | (simp only [List.all_cons, List.all_nil, one_nilp, one_nils, one_nilf, one_nili, one_nilm, one_iptr, one_fn, one_iface, one_b, one_i, one_s, one_sl, one_arr, one_ptr, Bool.and_self, Bool.and_true, Bool.true_and] <;> assumption)) only [Try.f6, Wp_seq, Wp_region, Wp_cond, Wp_skip, Wp_ret, Wp_exit, Wp_label, Wp_block, Wp_scope, thenQ_normal, thenQ_exit, thenQ_ret, blockQ_normal, blockQ_exit, blockQ_ret, upQ_normal, upQ_exit, upQ_ret, downQ_normal, downQ_exit, downQ_ret, Ops_cons, Ops_nil, Step_op, Step_call, SOp, SCall_fn, OptQ_some, OptQ_none, OptQ_map, OptQ_bind, OptQ_ite, Br_b, DoneQ_normal, DoneQ_ret, Step_guard2, GStep_op, GStep_call, callA_fn, GOp, gopt_true, gopt_false, gopt_some, vg_true, vg_false, cg_same, cg_true, cg_false, ↓SOp_pick, PkQ_b, pk_true, pk_false, pk_same, pk_and, pk_or, pk_andn, pk_orn, pk_or2, pk_or3, castLit, List.set_set, emp, Int.reduceAdd, Int.reduceSub, Int.reduceMul, Int.reduceNeg, get_app0, get_app, eqB_nil, eqB_cons, scB_i, scB_s, scB_b, all_tt, TrQ_nil, TrQ_cons, accs, touch, touchM, okPair, O.eqb_refl, List.flatMap_cons, List.flatMap_nil, partsAt_nil, partsAt_cons, fill_nil, fill_one, fill_agg, cells_agg, cells_one, splice_all, take_all, List.length_append, List.append_assoc, List.cons_append, rowAt_succ, set_app, set_app0, take_app, take_app2, take_set2, rowAt_app2, List.length_set, one_nilp, one_nils, one_nilf, one_nili, one_nilm, one_iptr, one_fn, one_iface, one_b, one_i, one_s, one_sl, one_arr, one_ptr, List.all_cons, List.all_nil, freezeC_agg, freezeC_ptr, freezeC_nilp, freezeC_nili, frz_agg, frz_int, frz_bool, frz1_s, frz1_nils, frz1_nilp, frz1_nilf, frz1_nili, frz1_nilm, frz1_arr, frz1_ptr, Nat.reduceAdd, Nat.reduceLeDiff, Nat.reduceMul, Nat.reduceSub, isV, opA, guard_of, grdO, grd, List.getElem?_toArray, beq_false, beq_true, decide_true, decide_false, not_true_eq_false, not_false_eq_true, false_implies, true_implies, imp_self, implies_true, or_true, true_or, or_false, false_or, false_and, and_false, or_self, beq_self_eq_true, Bool.and_true, Bool.true_and, Bool.and_false, Bool.false_and, Bool.or_true, Bool.true_or, Bool.or_false, Bool.false_or, Bool.not_eq_false, gt_iff_lt, ge_iff_le, Int.reduceLT, Int.reduceLE, Int.reduceToNat, Int.toNat_natCast, Nat.mul_one, Nat.add_zero, List.getElem?_drop, ints_get', bools_get', Option.isSome_none, Option.isSome_some, Option.isNone_none, Option.isNone_some, Bool.not_eq_true', decide_eq_false_iff_not, Bool.not_true, Bool.not_false, put_mk, put_mk0, ev_tmp, ev_const, ev_func, T.get_set, T_ofList, ofVal_int, ofVal_bool, ofVal_string, ofVal_nils, ofVal_nilp, ofVal_nilm, binA_lss, binA_leq, binA_gtr, binA_geq, binA_eql, binA_neq, binA_sub, binA_add, binA_mul, binA_quo, binA_rem, binA_or, binA_and, binA_xor, binA_seql, binA_sneq, unA_not, toVal_b, toVal_i, builtinP, builtinA, changes, fieldAddrA, resA, tupled, rowAt_app0, foldA_min, foldA_max, rowAt_app, set_app0', rep_bools, rep_ints, set_bools, set_ints, List.length_set, List.length_replicate, Option.bind_none, rowAt_app, rowAt_cons0, take_app, ints_len, bools_len, wrap_i64, IntWalk.i64_quo, IntWalk.rem_in, List.set_cons_zero, List.set_cons_succ, List.nil_append, List.take_length, List.take_nil, List.take_zero, decide_eq_true_eq, Option.getD_some, Option.map_some, Option.map_none, Option.bind_some, List.getElem?_cons_zero, List.getElem?_cons_succ, List.map_cons, List.map_nil, List.length_cons, List.length_nil, Nat.zero_add, ↓reduceIte, Nat.reduceEqDiff, Nat.reduceLT, ne_eq, Int.reduceEq, not_false_eq_true, Option.bind_some, if_false_right, if_true_right, and_true, true_and, Bool.false_eq_true, Bool.true_eq_false, frz_i, frz_b, frz_s, frz_nils, frz_arr, frz_tup, frzC_i, frzC_b, frzC_s, frzC_nils, frzC_arr, sh3, sz3, by3, ag3, kn3, ze3, ld3, li3, sto3, sh5, sz5, by5, ag5, kn5, ze5, ld5, li5, sto5, sh9, sz9, by9, ag9, kn9, ze9, ld9, li9, sto9, les9, ixs9, sh22, sz22, by22, ag22, kn22, el22, ze22, ld22, li22, sto22, ix22, ia22, mk22, ixi22, iai22, le22, lr22, ln22, sh25, sz25, by25, ag25, kn25, ze25, ld25, li25, sto25, sh34, sz34, by34, ag34, kn34, ze34, fk34, eq34, ne34, pl34, lda34, sta34, bd34, fi34x0, fi34x1, fi34x2, fi34x3, fi34x4, fi34x5, fi34x6, fi34x7, fi34x8, alive20_1, r1, r2, r3, op0, g3', decide_true]
  · rw [hT] at r1
    obtain ⟨t1, t2⟩ := take_put hl h7 ht
    have r4 := fun σ p => hput (takeR l).1 σ p t2
    rw [t1] at r4
    have r5 := fun σ p => same_no (σ := σ) (p := p) (hy' σ) (hview σ l) hl hl
    cases hr : rightB x with
    | false =>
      have r2 := fun σ p => oput_no (σ := σ) (p := p) x hr
      simp only [opV] at r1 r2 r4 ⊢
      simp +contextual (disch := first | omega | exact rfl | decide | assumption | exact one_b | exact one_i | exact one_sl | exact one_s | exact one_arr | exact one_ptr | (simp only [List.length_cons, List.length_nil, List.length_set, List.length_append, ints_len, bools_len] <;> omega) | (simp only [List.map_cons, List.map_nil, fk_i, fk_s, fk_b, List.map_append, List.cons_append, List.nil_append]) | (simp only [List.all_cons, List.all_nil, one_nilp, one_nils, one_nilf, one_nili, one_nilm, one_iptr, one_fn, one_iface, one_b, one_i, one_s, one_sl, one_arr, one_ptr, Bool.and_self, Bool.and_true, Bool.true_and] <;> assumption)) only [Try.f6, Wp_seq, Wp_region, Wp_cond, Wp_skip, Wp_ret, Wp_exit, Wp_label, Wp_block, Wp_scope, thenQ_normal, thenQ_exit, thenQ_ret, blockQ_normal, blockQ_exit, blockQ_ret, upQ_normal, upQ_exit, upQ_ret, downQ_normal, downQ_exit, downQ_ret, Ops_cons, Ops_nil, Step_op, Step_call, SOp, SCall_fn, OptQ_some, OptQ_none, OptQ_map, OptQ_bind, OptQ_ite, Br_b, DoneQ_normal, DoneQ_ret, Step_guard2, GStep_op, GStep_call, callA_fn, GOp, gopt_true, gopt_false, gopt_some, vg_true, vg_false, cg_same, cg_true, cg_false, ↓SOp_pick, PkQ_b, pk_true, pk_false, pk_same, pk_and, pk_or, pk_andn, pk_orn, pk_or2, pk_or3, castLit, List.set_set, emp, Int.reduceAdd, Int.reduceSub, Int.reduceMul, Int.reduceNeg, get_app0, get_app, eqB_nil, eqB_cons, scB_i, scB_s, scB_b, all_tt, TrQ_nil, TrQ_cons, accs, touch, touchM, okPair, O.eqb_refl, List.flatMap_cons, List.flatMap_nil, partsAt_nil, partsAt_cons, fill_nil, fill_one, fill_agg, cells_agg, cells_one, splice_all, take_all, List.length_append, List.append_assoc, List.cons_append, rowAt_succ, set_app, set_app0, take_app, take_app2, take_set2, rowAt_app2, List.length_set, one_nilp, one_nils, one_nilf, one_nili, one_nilm, one_iptr, one_fn, one_iface, one_b, one_i, one_s, one_sl, one_arr, one_ptr, List.all_cons, List.all_nil, freezeC_agg, freezeC_ptr, freezeC_nilp, freezeC_nili, frz_agg, frz_int, frz_bool, frz1_s, frz1_nils, frz1_nilp, frz1_nilf, frz1_nili, frz1_nilm, frz1_arr, frz1_ptr, Nat.reduceAdd, Nat.reduceLeDiff, Nat.reduceMul, Nat.reduceSub, isV, opA, guard_of, grdO, grd, List.getElem?_toArray, beq_false, beq_true, decide_true, decide_false, not_true_eq_false, not_false_eq_true, false_implies, true_implies, imp_self, implies_true, or_true, true_or, or_false, false_or, false_and, and_false, or_self, beq_self_eq_true, Bool.and_true, Bool.true_and, Bool.and_false, Bool.false_and, Bool.or_true, Bool.true_or, Bool.or_false, Bool.false_or, Bool.not_eq_false, gt_iff_lt, ge_iff_le, Int.reduceLT, Int.reduceLE, Int.reduceToNat, Int.toNat_natCast, Nat.mul_one, Nat.add_zero, List.getElem?_drop, ints_get', bools_get', Option.isSome_none, Option.isSome_some, Option.isNone_none, Option.isNone_some, Bool.not_eq_true', decide_eq_false_iff_not, Bool.not_true, Bool.not_false, put_mk, put_mk0, ev_tmp, ev_const, ev_func, T.get_set, T_ofList, ofVal_int, ofVal_bool, ofVal_string, ofVal_nils, ofVal_nilp, ofVal_nilm, binA_lss, binA_leq, binA_gtr, binA_geq, binA_eql, binA_neq, binA_sub, binA_add, binA_mul, binA_quo, binA_rem, binA_or, binA_and, binA_xor, binA_seql, binA_sneq, unA_not, toVal_b, toVal_i, builtinP, builtinA, changes, fieldAddrA, resA, tupled, rowAt_app0, foldA_min, foldA_max, rowAt_app, set_app0', rep_bools, rep_ints, set_bools, set_ints, List.length_set, List.length_replicate, Option.bind_none, rowAt_app, rowAt_cons0, take_app, ints_len, bools_len, wrap_i64, IntWalk.i64_quo, IntWalk.rem_in, List.set_cons_zero, List.set_cons_succ, List.nil_append, List.take_length, List.take_nil, List.take_zero, decide_eq_true_eq, Option.getD_some, Option.map_some, Option.map_none, Option.bind_some, List.getElem?_cons_zero, List.getElem?_cons_succ, List.map_cons, List.map_nil, List.length_cons, List.length_nil, Nat.zero_add, ↓reduceIte, Nat.reduceEqDiff, Nat.reduceLT, ne_eq, Int.reduceEq, not_false_eq_true, Option.bind_some, if_false_right, if_true_right, and_true, true_and, Bool.false_eq_true, Bool.true_eq_false, frz_i, frz_b, frz_s, frz_nils, frz_arr, frz_tup, frzC_i, frzC_b, frzC_s, frzC_nils, frzC_arr, sh3, sz3, by3, ag3, kn3, ze3, ld3, li3, sto3, sh5, sz5, by5, ag5, kn5, ze5, ld5, li5, sto5, sh9, sz9, by9, ag9, kn9, ze9, ld9, li9, sto9, les9, ixs9, sh22, sz22, by22, ag22, kn22, el22, ze22, ld22, li22, sto22, ix22, ia22, mk22, ixi22, iai22, le22, lr22, ln22, sh25, sz25, by25, ag25, kn25, ze25, ld25, li25, sto25, sh34, sz34, by34, ag34, kn34, ze34, fk34, eq34, ne34, pl34, lda34, sta34, bd34, fi34x0, fi34x1, fi34x2, fi34x3, fi34x4, fi34x5, fi34x6, fi34x7, fi34x8, alive20_1, r1, r2, r4, r5, op0]
    | true =>
      obtain ⟨g1, g2, g3⟩ := put_take hr
      have r2 := fun σ p => hput x σ p hr
      have r3 := fun σ p => otake_ok (σ := σ) (p := p) (putL x) (putL_in hr) (by omega) (hview σ (putL x))
      rw [takeV, if_neg (by omega), g1] at r3
      simp only [opV, if_true] at r1 r2 r3 r4 ⊢
      have g3' : ((putL x).length : Int) ≤ 1083 := by omega
      simp +contextual (disch := first | omega | exact rfl | decide | assumption | exact one_b | exact one_i | exact one_sl | exact one_s | exact one_arr | exact one_ptr | (simp only [List.length_cons, List.length_nil, List.length_set, List.length_append, ints_len, bools_len] <;> omega) | (simp only [List.map_cons, List.map_nil, fk_i, fk_s, fk_b, List.map_append, List.cons_append, List.nil_append]) | (simp only [List.all_cons, List.all_nil, one_nilp, one_nils, one_nilf, one_nili, one_nilm, one_iptr, one_fn, one_iface, one_b, one_i, one_s, one_sl, one_arr, one_ptr, Bool.and_self, Bool.and_true, Bool.true_and] <;> assumption)) only [Try.f6, Wp_seq, Wp_region, Wp_cond, Wp_skip, Wp_ret, Wp_exit, Wp_label, Wp_block, Wp_scope, thenQ_normal, thenQ_exit, thenQ_ret, blockQ_normal, blockQ_exit, blockQ_ret, upQ_normal, upQ_exit, upQ_ret, downQ_normal, downQ_exit, downQ_ret, Ops_cons, Ops_nil, Step_op, Step_call, SOp, SCall_fn, OptQ_some, OptQ_none, OptQ_map, OptQ_bind, OptQ_ite, Br_b, DoneQ_normal, DoneQ_ret, Step_guard2, GStep_op, GStep_call, callA_fn, GOp, gopt_true, gopt_false, gopt_some, vg_true, vg_false, cg_same, cg_true, cg_false, ↓SOp_pick, PkQ_b, pk_true, pk_false, pk_same, pk_and, pk_or, pk_andn, pk_orn, pk_or2, pk_or3, castLit, List.set_set, emp, Int.reduceAdd, Int.reduceSub, Int.reduceMul, Int.reduceNeg, get_app0, get_app, eqB_nil, eqB_cons, scB_i, scB_s, scB_b, all_tt, TrQ_nil, TrQ_cons, accs, touch, touchM, okPair, O.eqb_refl, List.flatMap_cons, List.flatMap_nil, partsAt_nil, partsAt_cons, fill_nil, fill_one, fill_agg, cells_agg, cells_one, splice_all, take_all, List.length_append, List.append_assoc, List.cons_append, rowAt_succ, set_app, set_app0, take_app, take_app2, take_set2, rowAt_app2, List.length_set, one_nilp, one_nils, one_nilf, one_nili, one_nilm, one_iptr, one_fn, one_iface, one_b, one_i, one_s, one_sl, one_arr, one_ptr, List.all_cons, List.all_nil, freezeC_agg, freezeC_ptr, freezeC_nilp, freezeC_nili, frz_agg, frz_int, frz_bool, frz1_s, frz1_nils, frz1_nilp, frz1_nilf, frz1_nili, frz1_nilm, frz1_arr, frz1_ptr, Nat.reduceAdd, Nat.reduceLeDiff, Nat.reduceMul, Nat.reduceSub, isV, opA, guard_of, grdO, grd, List.getElem?_toArray, beq_false, beq_true, decide_true, decide_false, not_true_eq_false, not_false_eq_true, false_implies, true_implies, imp_self, implies_true, or_true, true_or, or_false, false_or, false_and, and_false, or_self, beq_self_eq_true, Bool.and_true, Bool.true_and, Bool.and_false, Bool.false_and, Bool.or_true, Bool.true_or, Bool.or_false, Bool.false_or, Bool.not_eq_false, gt_iff_lt, ge_iff_le, Int.reduceLT, Int.reduceLE, Int.reduceToNat, Int.toNat_natCast, Nat.mul_one, Nat.add_zero, List.getElem?_drop, ints_get', bools_get', Option.isSome_none, Option.isSome_some, Option.isNone_none, Option.isNone_some, Bool.not_eq_true', decide_eq_false_iff_not, Bool.not_true, Bool.not_false, put_mk, put_mk0, ev_tmp, ev_const, ev_func, T.get_set, T_ofList, ofVal_int, ofVal_bool, ofVal_string, ofVal_nils, ofVal_nilp, ofVal_nilm, binA_lss, binA_leq, binA_gtr, binA_geq, binA_eql, binA_neq, binA_sub, binA_add, binA_mul, binA_quo, binA_rem, binA_or, binA_and, binA_xor, binA_seql, binA_sneq, unA_not, toVal_b, toVal_i, builtinP, builtinA, changes, fieldAddrA, resA, tupled, rowAt_app0, foldA_min, foldA_max, rowAt_app, set_app0', rep_bools, rep_ints, set_bools, set_ints, List.length_set, List.length_replicate, Option.bind_none, rowAt_app, rowAt_cons0, take_app, ints_len, bools_len, wrap_i64, IntWalk.i64_quo, IntWalk.rem_in, List.set_cons_zero, List.set_cons_succ, List.nil_append, List.take_length, List.take_nil, List.take_zero, decide_eq_true_eq, Option.getD_some, Option.map_some, Option.map_none, Option.bind_some, List.getElem?_cons_zero, List.getElem?_cons_succ, List.map_cons, List.map_nil, List.length_cons, List.length_nil, Nat.zero_add, ↓reduceIte, Nat.reduceEqDiff, Nat.reduceLT, ne_eq, Int.reduceEq, not_false_eq_true, Option.bind_some, if_false_right, if_true_right, and_true, true_and, Bool.false_eq_true, Bool.true_eq_false, frz_i, frz_b, frz_s, frz_nils, frz_arr, frz_tup, frzC_i, frzC_b, frzC_s, frzC_nils, frzC_arr, sh3, sz3, by3, ag3, kn3, ze3, ld3, li3, sto3, sh5, sz5, by5, ag5, kn5, ze5, ld5, li5, sto5, sh9, sz9, by9, ag9, kn9, ze9, ld9, li9, sto9, les9, ixs9, sh22, sz22, by22, ag22, kn22, el22, ze22, ld22, li22, sto22, ix22, ia22, mk22, ixi22, iai22, le22, lr22, ln22, sh25, sz25, by25, ag25, kn25, ze25, ld25, li25, sto25, sh34, sz34, by34, ag34, kn34, ze34, fk34, eq34, ne34, pl34, lda34, sta34, bd34, fi34x0, fi34x1, fi34x2, fi34x3, fi34x4, fi34x5, fi34x6, fi34x7, fi34x8, alive20_1, r1, r2, r3, r4, r5, op0, g3', decide_true]
theorem wt_fields {D : Nat} {t : TypeId} {fs : Array Field} {cs : List V} (hu : cfg.P.underlying t = some (.struct fs)) (h : WT cfg.P (D + 1) t cs) (i : Nat) {f : Field} (hf : fs[i]? = some f) : WT cfg.P D f.type ((cs.drop f.offset).take (cfg.P.cellsOf f.type)) :=
  (wt_struct hu h).2 f (List.mem_of_getElem? (by simpa using hf))
theorem wt_f_int {D off : Nat} {t : TypeId} {k : IntKind} {cs : List V} (hu : cfg.P.underlying t = some (.int k)) (hc : cfg.P.cellsOf t = 1) (h : WT cfg.P (D + 1) t ((cs.drop off).take (cfg.P.cellsOf t))) : ∃ n, cs[off]? = some (.i k n) ∧ k.min ≤ n ∧ n ≤ k.max := by
  rw [hc] at h
  obtain ⟨n, h1, h2⟩ := wt_int hu h
  exact ⟨n, take1 h1, h2⟩
theorem wt_f_str {D off : Nat} {t : TypeId} {cs : List V} (hu : cfg.P.underlying t = some .string) (hc : cfg.P.cellsOf t = 1) (h : WT cfg.P (D + 1) t ((cs.drop off).take (cfg.P.cellsOf t))) : ∃ s : ByteArray, cs[off]? = some (.s s) ∧ s.size ≤ 140737488351232 := by
  rw [hc] at h
  obtain ⟨n, h1, h2⟩ := wt_str hu h
  exact ⟨n, take1 h1, h2⟩
theorem wt_op {cs : List V} (h : WT cfg.P 20 34 cs) : ∃ x : OpR, cs = opV x := by
  have hl := (wt_struct Try.underlying34 h).1
  have hl9 : cs.length = 9 := hl.trans (by kernel_rfl)
  obtain ⟨c0, g0, _⟩ := wt_f_int (off := 0) Try.underlying3 (by kernel_rfl) (wt_fields Try.underlying34 h 0 rfl)
  obtain ⟨c1, g1, _⟩ := wt_f_int (off := 1) Try.underlying3 (by kernel_rfl) (wt_fields Try.underlying34 h 1 rfl)
  obtain ⟨c2, g2, _⟩ := wt_f_str (off := 2) Try.underlying9 (by kernel_rfl) (wt_fields Try.underlying34 h 2 rfl)
  obtain ⟨c3, g3, _⟩ := wt_f_int (off := 3) Try.underlying3 (by kernel_rfl) (wt_fields Try.underlying34 h 3 rfl)
  obtain ⟨c4, g4, _⟩ := wt_f_str (off := 4) Try.underlying9 (by kernel_rfl) (wt_fields Try.underlying34 h 4 rfl)
  obtain ⟨c5, g5, _⟩ := wt_f_int (off := 5) Try.underlying3 (by kernel_rfl) (wt_fields Try.underlying34 h 5 rfl)
  obtain ⟨c6, g6, _⟩ := wt_f_int (off := 6) Try.underlying3 (by kernel_rfl) (wt_fields Try.underlying34 h 6 rfl)
  obtain ⟨c7, g7, _⟩ := wt_f_int (off := 7) Try.underlying3 (by kernel_rfl) (wt_fields Try.underlying34 h 7 rfl)
  obtain ⟨c8, g8, _⟩ := wt_f_str (off := 8) Try.underlying9 (by kernel_rfl) (wt_fields Try.underlying34 h 8 rfl)
  refine ⟨⟨c0, c1, c2, c3, c4, c5, c6, c7, c8⟩, ?_⟩
  match cs, hl9 with
  | [a0, a1, a2, a3, a4, a5, a6, a7, a8], _ => simp at g0 g1 g2 g3 g4 g5 g6 g7 g8; simp [opV, g0, g1, g2, g3, g4, g5, g6, g7, g8]
theorem law6_all (xs : List V) (h : WTA cfg.P [34, 22] xs) : runF cfg 6 xs [] [] = some (.b true, []) := by
  obtain ⟨cs, ys, rfl, _, h1, h2⟩ := wta_cons h
  obtain ⟨ds, zs, rfl, _, h3, h4⟩ := wta_cons h2
  obtain rfl := wta_nil h4
  obtain ⟨x, rfl⟩ := wt_op h1
  obtain ⟨y, l, rfl, hy, hl, hb⟩ := wt_ints (B := 1) (k := .u8) Try.underlying22 Try.underlying5 (by kernel_rfl) (by kernel_rfl) h3
  rw [argV_one (by simp [aggT, show cfg.P.underlying 22 = some (.slice 5) from Try.underlying22]), argV_agg (by simp only [aggT, show cfg.P.underlying 34 = _ from Try.underlying34])]
  exact law6 x l hb (by omega) hy
end Go.Am.R1
