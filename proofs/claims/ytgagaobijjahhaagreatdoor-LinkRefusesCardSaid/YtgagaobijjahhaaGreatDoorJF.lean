/- Parts of one machine and of the walks over it, joined: KZ K68 K70 KG. -/
import Derived.Test.YtgagaobijjahhaaGreatDoorJA
import Derived.Test.YtgagaobijjahhaaGreatDoorAmZ
import Derived.Test.YtgagaobijjahhaaGreatDoorJC
import Derived.Test.YtgagaobijjahhaaGreatDoorJD
import Derived.Test.YtgagaobijjahhaaGreatDoorJB
import Derived.Test.YtgagaobijjahhaaGreatDoorJE
import Derived.Test.YtgagaobijjahhaaGreatDoorAmIter2
import Derived.Test.YtgagaobijjahhaaGreatDoorAmSeg
/- Are all bytes zeros? -/
namespace Go.Am.R2
open Go.Proofs
set_option maxRecDepth 100000
set_option linter.unusedSimpArgs false
set_option linter.unusedVariables false
variable {σ : List O} {p : List Nat}
theorem or_u8 (a b : Int) (ha : 0 ≤ a ∧ a ≤ 255) (hb : 0 ≤ b ∧ b ≤ 255) :
    ∃ r : Int, IntKind.wrap .u8 ((BitVec.ofInt IntKind.u8.bits a ||| BitVec.ofInt IntKind.u8.bits b).toNat : Int) = r ∧ 0 ≤ r ∧ r ≤ 255 ∧ (r = 0 ↔ a = 0 ∧ b = 0) := by
  show ∃ r : Int, IntKind.wrap .u8 ((BitVec.ofInt 8 a ||| BitVec.ofInt 8 b).toNat : Int) = r ∧ 0 ≤ r ∧ r ≤ 255 ∧ (r = 0 ↔ a = 0 ∧ b = 0)
  have hlt := (BitVec.ofInt 8 a ||| BitVec.ofInt 8 b).isLt
  refine ⟨((BitVec.ofInt 8 a ||| BitVec.ofInt 8 b).toNat : Int), IntWalk.u8_in _ (by omega), by omega, by omega, ?_⟩
  have h0 : ∀ x : Int, 0 ≤ x ∧ x ≤ 255 → (BitVec.ofInt 8 x = 0#8 ↔ x = 0) := by
    intro x hx
    constructor
    · intro h
      have := congrArg BitVec.toNat h
      rw [BitVec.toNat_ofInt] at this
      simp at this
      omega
    · rintro rfl; rfl
  rw [← h0 a ha, ← h0 b hb, ← BitVec.or_eq_zero_iff, ← BitVec.toNat_inj]
  simp
theorem zero_ok (l : List Int) (hl : ∀ x ∈ l, 0 ≤ x ∧ x ≤ 255) (hn : l.length ≤ 9223372036854775806) {x : V} (hx : View σ x (ints .u8 l)) : runF cfg 159 [x] σ p = some (.b (l.all (· == 0)), σ) := by
  refine run_done rfl rfl Tryz.func159 rfl ?_
  simp (disch := first | omega | exact rfl | decide | exact kpF (by decide) | exact kpT (by decide) | assumption | exact Z2z | exact Z30 | exact Z32 | exact Z31 | exact Z33 | exact Z34 | (simp only [ZI] <;> omega) | simp only [ZK] | (simp only [ZL] <;> assumption)) only [Tryz.f159, ZH, SOp, GOp, ↓Z1c, Int.reduceAdd, Int.reduceSub, Int.reduceMul, Int.reduceNeg, accs, touch, touchM, okPair, Nat.reduceAdd, Nat.reduceLeDiff, Nat.reduceMul, Nat.reduceSub, isV, opA, grdO, grd, Z41, Int.reduceLT, Int.reduceLE, Int.reduceToNat, builtinP, builtinA, changes, fieldAddrA, resA, tupled, ↓reduceIte, Nat.reduceEqDiff, Nat.reduceLT, Z70, Int.reduceEq, hx.len sh35]
  refine Wq.up (fun i s => s.nt = 18 ∧ s.σ = σ ∧ s.c = 0 ∧ s.t.get 6 = some x ∧ s.t.get 7 = some (.i .i64 l.length) ∧ s.t.get 8 = some (.i .i64 i) ∧ ∃ z : Int, s.t.get 3 = some (.i .u8 z) ∧ 0 ≤ z ∧ z ≤ 255 ∧ (z = 0 ↔ (l.take i).all (· == 0) = true)) l.length ?_ ?_
  · refine ⟨rfl, rfl, rfl, ?_⟩
    simp (disch := first | omega | exact rfl | decide | exact kpF (by decide) | exact kpT (by decide) | assumption | exact Z2z | exact Z30 | exact Z32 | exact Z31 | exact Z33 | exact Z34 | (simp only [ZI] <;> omega) | simp only [ZK] | (simp only [ZL] <;> assumption)) only [ZH, SOp, GOp, ↓Z1c, Int.reduceAdd, Int.reduceSub, Int.reduceMul, Int.reduceNeg, accs, touch, touchM, okPair, Nat.reduceAdd, Nat.reduceLeDiff, Nat.reduceMul, Nat.reduceSub, isV, opA, grdO, grd, Z41, Int.reduceLT, Int.reduceLE, Int.reduceToNat, builtinP, builtinA, changes, fieldAddrA, resA, tupled, ↓reduceIte, Nat.reduceEqDiff, Nat.reduceLT, Z70, Int.reduceEq]
    simp
  · rintro i ⟨t, nt, σ', c⟩ hi ⟨rfl, rfl, rfl, h6, h7, h8, z, h3, hz0, hz1, hz⟩
    by_cases hlt : i < l.length
    · obtain ⟨a, ha, hld⟩ := hx.at sh35 sz5 ag5 .i64 i (by rw [ints_len]; exact hlt)
      simp (disch := first | omega | exact rfl | decide | exact kpF (by decide) | exact kpT (by decide) | assumption | exact Z2z | exact Z30 | exact Z32 | exact Z31 | exact Z33 | exact Z34 | (simp only [ZI] <;> omega) | simp only [ZK] | (simp only [ZL] <;> assumption)) only [ZH, SOp, GOp, ↓Z1c, Int.reduceAdd, Int.reduceSub, Int.reduceMul, Int.reduceNeg, accs, touch, touchM, okPair, Nat.reduceAdd, Nat.reduceLeDiff, Nat.reduceMul, Nat.reduceSub, isV, opA, grdO, grd, Z41, Int.reduceLT, Int.reduceLE, Int.reduceToNat, builtinP, builtinA, changes, fieldAddrA, resA, tupled, ↓reduceIte, Nat.reduceEqDiff, Nat.reduceLT, Z70, Int.reduceEq, h6, h7, h8, h3, ha, hld _ _ hx, Int.ofNat_lt, hlt]
      have hm := hl (l.getD i 0) (by rw [List.getD_eq_getElem?_getD]; simp [hlt])
      obtain ⟨r, hr, hr0, hr1, hrz⟩ := or_u8 z (l.getD i 0) ⟨hz0, hz1⟩ hm
      simp (disch := first | omega | exact rfl | decide | exact kpF (by decide) | exact kpT (by decide) | assumption | exact Z2z | exact Z30 | exact Z32 | exact Z31 | exact Z33 | exact Z34 | (simp only [ZI] <;> omega) | simp only [ZK] | (simp only [ZL] <;> assumption)) only [ZH, SOp, GOp, ↓Z1c, Int.reduceAdd, Int.reduceSub, Int.reduceMul, Int.reduceNeg, accs, touch, touchM, okPair, Nat.reduceAdd, Nat.reduceLeDiff, Nat.reduceMul, Nat.reduceSub, isV, opA, grdO, grd, Z41, Int.reduceLT, Int.reduceLE, Int.reduceToNat, builtinP, builtinA, changes, fieldAddrA, resA, tupled, ↓reduceIte, Nat.reduceEqDiff, Nat.reduceLT, Z70, Int.reduceEq, hr, h6, h7, h8]
      refine ⟨by simp, r, rfl, hr0, hr1, ?_⟩
      rw [hrz, hz, List.take_add_one, List.all_append]
      simp [hlt, List.getD_eq_getElem?_getD]
    · have hi' : i = l.length := by omega
      subst hi'
      simp (disch := first | omega | exact rfl | decide | exact kpF (by decide) | exact kpT (by decide) | assumption | exact Z2z | exact Z30 | exact Z32 | exact Z31 | exact Z33 | exact Z34 | (simp only [ZI] <;> omega) | simp only [ZK] | (simp only [ZL] <;> assumption)) only [ZH, SOp, GOp, ↓Z1c, Int.reduceAdd, Int.reduceSub, Int.reduceMul, Int.reduceNeg, accs, touch, touchM, okPair, Nat.reduceAdd, Nat.reduceLeDiff, Nat.reduceMul, Nat.reduceSub, isV, opA, grdO, grd, Z41, Int.reduceLT, Int.reduceLE, Int.reduceToNat, builtinP, builtinA, changes, fieldAddrA, resA, tupled, ↓reduceIte, Nat.reduceEqDiff, Nat.reduceLT, Z70, Int.reduceEq, h6, h7, h8, h3, Int.lt_irrefl]
      simp only [List.take_length] at hz
      rw [show decide (z = 0) = l.all (· == 0) by rw [Bool.eq_iff_iff, decide_eq_true_eq, hz]]
end Go.Am.R2

/- The fast machine at the sheet's own question: what it stands on. -/
namespace Go.Am.R2
open Go.Proofs
set_option maxRecDepth 100000
set_option linter.unusedSimpArgs false
set_option linter.unusedVariables false
noncomputable def eqN : List Nat → List Nat → Bool
  | [], [] => true
  | a :: l, b :: m => match Nat.beq a b with | true => eqN l m | false => false
  | _, _ => false
theorem eqN_eq : ∀ {l m : List Nat}, eqN l m = true → l = m
  | [], [], _ => rfl
  | a :: l, b :: m, h => by
    unfold eqN at h
    split at h
    · rename_i e; rw [Nat.eq_of_beq_eq_true e, eqN_eq h]
    · cases h
  | [], _ :: _, h => by simp [eqN] at h
  | _ :: _, [], h => by simp [eqN] at h
noncomputable def sumL : List (List Nat × List Nat) := [(in0, out0), (in1, out1), (in2, out2), (in3, out3), (in4, out4), (in5, out5), (in6, out6), (in7, out7), (in8, out8), (in9, out9), (in10, out10)]
noncomputable def findS (ns : List Nat) : List (List Nat × List Nat) → Option (List Nat)
  | [] => none
  | x :: l => match eqN ns x.1 with | true => some x.2 | false => findS ns l
theorem findS_some {ns o : List Nat} : ∀ {l : List (List Nat × List Nat)}, findS ns l = some o → (ns, o) ∈ l
  | [], h => by cases h
  | x :: l, h => by
    unfold findS at h
    split at h
    · rename_i e; cases h; rw [eqN_eq e]; exact List.mem_cons_self ..
    · exact List.mem_cons_of_mem _ (findS_some h)
noncomputable def sumQ (ns : List Nat) : Option V := match findS ns sumL with | some o => some (.agg (ints .u8 (o.map Int.ofNat))) | none => none
noncomputable def maxN : List Nat → Nat → Nat
  | [], m => m
  | a :: l, m => match Nat.blt m a with | true => maxN l a | false => maxN l m
noncomputable def maxQ (ns : List Nat) : Option V :=
  match ns with
  | [] => none
  | a :: l => match Nat.ble (lenN l) 4000 with | true => forceN (maxN l a) fun m => some (.i .u8 (.ofNat m)) | false => none
noncomputable def pSumA (args : List V) (σ : List O) : Option V := match args with | [x] => on1 sumQ x (elems 1 σ x) | _ => none
noncomputable def pSumB (args : List V) (m : Mem) : Option V := match args with | [x] => on1 sumQ x (elemsB 1 m x) | _ => none
noncomputable def pMaxA (args : List V) (σ : List O) : Option V := match args with | [x] => on1 maxQ x (elems 1 σ x) | _ => none
noncomputable def pMaxB (args : List V) (m : Mem) : Option V := match args with | [x] => on1 maxQ x (elemsB 1 m x) | _ => none
noncomputable def find1 (c : Nat) : List Nat → Nat → Option Int
  | [], _ => some (.negSucc 0)
  | n :: l, i => match Nat.blt n 256 with | true => (match Nat.beq n c with | true => some (.ofNat i) | false => find1 c l (Nat.succ i)) | false => none
noncomputable def pIdxB (args : List V) (m : Mem) : Option V := match args with
  | [.s _, _] => none
  | [x, .i .u8 (.ofNat c)] => (match elemsB 1 m x with
    | some (_, cs) => (match u8n cs with
      | some ns => (match Nat.blt c 256 with | true => (match find1 c ns 0 with | some n => some (.i .i64 n) | none => none) | false => none)
      | none => none)
    | none => none)
  | _ => none
theorem find1_ok {c : Nat} (hc : c < 256) : ∀ {ns : List Nat} {i : Nat} {r : Int}, find1 c ns i = some r →
    (r = -1 ∧ Lib.indexByte (ns.map UInt8.ofNat) (UInt8.ofNat c) = -1) ∨ ∃ j : Nat, r = i + j ∧ Lib.indexByte (ns.map UInt8.ofNat) (UInt8.ofNat c) = j
  | [], i, r, h => by cases h; exact .inl ⟨rfl, rfl⟩
  | n :: l, i, r, h => by
    unfold find1 at h
    split at h
    case h_2 => cases h
    rename_i hn
    have hn := blt_true hn
    simp only [List.map_cons, Lib.indexByte]
    have he : (UInt8.ofNat n == UInt8.ofNat c) = decide (n = c) := by
      rw [Bool.eq_iff_iff, beq_iff_eq, decide_eq_true_eq]
      constructor
      · intro e
        have := congrArg UInt8.toNat e
        simp only [UInt8.toNat_ofNat'] at this
        omega
      · rintro rfl; rfl
    rw [he]
    split at h
    · rename_i e
      cases h
      rw [decide_eq_true (Nat.eq_of_beq_eq_true e)]
      exact .inr ⟨0, by simp, by simp⟩
    · rename_i e
      have hne : n ≠ c := by rintro rfl; simp at e
      rw [decide_eq_false hne]
      rcases find1_ok hc h with ⟨h1, h2⟩ | ⟨j, h1, h2⟩
      · refine .inl ⟨h1, ?_⟩
        rw [h2]; rfl
      · refine .inr ⟨j + 1, by omega, ?_⟩
        rw [h2]
        have : ((j : Int) == -1) = false := by simp
        simp only [this, Bool.false_eq_true, if_false]; push_cast; rfl
theorem on1_mono {q : List Nat → Option V} {x : V} {m : Mem} {σ : List O} {v : V} (hm : MB m σ) (h : on1 q x (elemsB 1 m x) = some v) : on1 q x (elems 1 σ x) = some v := by
  unfold on1 at h ⊢
  split at h
  case h_2 => cases h
  rename_i hr
  split at h
  case h_2 => cases h
  rename_i n cs he
  rw [elemsB_sound hm he]
  exact h
noncomputable def leAll (k : Nat) : List Nat → Bool
  | [] => true
  | n :: l => match Nat.ble n k with | true => leAll k l | false => false
noncomputable def zeroQ (ns : List Nat) : Option V := match leAll 255 ns && Nat.ble (lenN ns) 4000 with | true => (match zeroN ns with | true => some (.b true) | false => some (.b false)) | false => none
noncomputable def pZeroB (args : List V) (m : Mem) : Option V := match args with | [x] => on1 zeroQ x (elemsB 1 m x) | _ => none
noncomputable def pes : List PE := [⟨163, pFrz cfg 163, pMineB⟩, ⟨168, pFrz cfg 168, pFormedB⟩, ⟨191, pFrz cfg 191, pRightB⟩, ⟨159, pFrz cfg 159, pZeroB⟩, ⟨110, pFrz cfg 110, fun a _ => pPtrB a⟩, ⟨162, pFrz cfg 162, fun a _ => pStemB a⟩, ⟨170, pFrz cfg 170, fun a _ => pRemB a⟩, ⟨201, pMaxA, pMaxB⟩, ⟨171, pSumA, pSumB⟩,
  ⟨83, fun a _ => pPut nods a, fun a _ => pPut nods a⟩, ⟨248, pIdxS, pIdxB⟩, ⟨167, pIndexByte, fun a _ => pIndexByte a []⟩]
noncomputable def itA (f : Nat) : Option (List V → List O → Option (List Nat × List (List V))) := match Nat.beq f 254 with | true => some (backA 129) | false => (match Nat.beq f 152 with | true => some piecesA | false => none)
noncomputable def itB (f : Nat) : Option (List V → Mem → Option (List Nat × List (List V))) := match Nat.beq f 254 with | true => some (backB 129) | false => (match Nat.beq f 152 with | true => some piecesB | false => none)
noncomputable def DE : CB := ⟨tyK, primLB pes, globB, fnK, clsK, itB, preK, stT⟩
def barE (top f : Nat) : Bool := !(fnL.contains f || f == top)
noncomputable def cfgE (top : Nat) : Cfg := { P := Tryz.prog, bar := barE top, cls := clsB DE, pre := preB DE, prim := primL pes, still := stT, iter := itA, glob := globB, keep := fun f _ => !(f == top) }
theorem fnsE : fnsOk (cfgE 5) = true := by decide +kernel
end Go.Am.R2

/- The contracts that the fast machine stands on. -/
namespace Go.Am.R2
open Go.Proofs
set_option maxRecDepth 100000
set_option linter.unusedSimpArgs false
set_option linter.unusedVariables false
theorem rowy_frz {q : List Nat → Option V} {x : V} {σ : List O} {v : V} (h : on1 q x (elems 1 σ x) = some v) : ∃ ns cl, q ns = some v ∧ freezeC 0 σ x = .arr (ints .u8 (ns.map Int.ofNat)) ns.length cl ∧ freeze1 0 σ 4 x = .arr (ints .u8 (ns.map Int.ofNat)) ns.length cl := by
  obtain ⟨ns, cl, h1, h2⟩ := on1_some h
  refine ⟨ns, cl, h1, ?_, h2 3⟩
  have hr : rowy x = true := by
    unfold on1 at h
    split at h
    · assumption
    · cases h
  cases x <;> simp only [rowy, Bool.false_eq_true] at hr <;> exact h2 3
theorem sums_run : ∀ x ∈ sumL, yesV (rootV DS 200 171 Tryz.f171 [.arr (ints .u8 (x.1.map Int.ofNat)) x.1.length false] [0]) (.agg (ints .u8 (x.2.map Int.ofNat))) = true := by
  intro x hx
  simp only [sumL, List.mem_cons, List.not_mem_nil, or_false] at hx
  rcases hx with rfl | rfl | rfl | rfl | rfl | rfl | rfl | rfl | rfl | rfl | rfl
  · exact (congrArg (fun n => yesV (rootV DS 200 171 Tryz.f171 [.arr (ints .u8 (in0.map Int.ofNat)) n false] [0]) (.agg (ints .u8 (out0.map Int.ofNat)))) (show in0.length = 96 by decide +kernel)).trans sum0_run
  · exact (congrArg (fun n => yesV (rootV DS 200 171 Tryz.f171 [.arr (ints .u8 (in1.map Int.ofNat)) n false] [0]) (.agg (ints .u8 (out1.map Int.ofNat)))) (show in1.length = 128 by decide +kernel)).trans sum1_run
  · exact (congrArg (fun n => yesV (rootV DS 200 171 Tryz.f171 [.arr (ints .u8 (in2.map Int.ofNat)) n false] [0]) (.agg (ints .u8 (out2.map Int.ofNat)))) (show in2.length = 128 by decide +kernel)).trans sum2_run
  · exact (congrArg (fun n => yesV (rootV DS 200 171 Tryz.f171 [.arr (ints .u8 (in3.map Int.ofNat)) n false] [0]) (.agg (ints .u8 (out3.map Int.ofNat)))) (show in3.length = 128 by decide +kernel)).trans sum3_run
  · exact (congrArg (fun n => yesV (rootV DS 200 171 Tryz.f171 [.arr (ints .u8 (in4.map Int.ofNat)) n false] [0]) (.agg (ints .u8 (out4.map Int.ofNat)))) (show in4.length = 128 by decide +kernel)).trans sum4_run
  · exact (congrArg (fun n => yesV (rootV DS 200 171 Tryz.f171 [.arr (ints .u8 (in5.map Int.ofNat)) n false] [0]) (.agg (ints .u8 (out5.map Int.ofNat)))) (show in5.length = 128 by decide +kernel)).trans sum5_run
  · exact (congrArg (fun n => yesV (rootV DS 200 171 Tryz.f171 [.arr (ints .u8 (in6.map Int.ofNat)) n false] [0]) (.agg (ints .u8 (out6.map Int.ofNat)))) (show in6.length = 128 by decide +kernel)).trans sum6_run
  · exact (congrArg (fun n => yesV (rootV DS 200 171 Tryz.f171 [.arr (ints .u8 (in7.map Int.ofNat)) n false] [0]) (.agg (ints .u8 (out7.map Int.ofNat)))) (show in7.length = 128 by decide +kernel)).trans sum7_run
  · exact (congrArg (fun n => yesV (rootV DS 200 171 Tryz.f171 [.arr (ints .u8 (in8.map Int.ofNat)) n false] [0]) (.agg (ints .u8 (out8.map Int.ofNat)))) (show in8.length = 128 by decide +kernel)).trans sum8_run
  · exact (congrArg (fun n => yesV (rootV DS 200 171 Tryz.f171 [.arr (ints .u8 (in9.map Int.ofNat)) n false] [0]) (.agg (ints .u8 (out9.map Int.ofNat)))) (show in9.length = 128 by decide +kernel)).trans sum9_run
  · exact (congrArg (fun n => yesV (rootV DS 200 171 Tryz.f171 [.arr (ints .u8 (in10.map Int.ofNat)) n false] [0]) (.agg (ints .u8 (out10.map Int.ofNat)))) (show in10.length = 128 by decide +kernel)).trans sum10_run
theorem sumT {ns : List Nat} {v : V} (h : sumQ ns = some v) : ∃ k, runA cfgS k 171 [.arr (ints .u8 (ns.map Int.ofNat)) ns.length false] [] [0] = some (v, []) ∧ v.clean false = true := by
  unfold sumQ at h
  split at h
  case h_2 => cases h
  rename_i o ho
  cases h
  exact ⟨201, sumA (k := 200) (ns := ns) (o := o) (n := ns.length) (sums_run (ns, o) (findS_some ho)), by simp only [V.clean]; exact cleanL_ints _⟩
theorem maxN_eq : ∀ (l : List Nat) (m : Nat), ((maxN l m : Nat) : Int) = (l.map Int.ofNat).foldl (fun m q => if m < q then q else m) (m : Int)
  | [], m => rfl
  | a :: l, m => by
    unfold maxN
    rw [List.map_cons, List.foldl_cons]
    split
    · rename_i h
      have h := blt_true h
      rw [maxN_eq l a, if_pos (show (m : Int) < Int.ofNat a by simp; exact h)]
      rfl
    · rename_i h
      have h : ¬ m < a := bltN (by rw [h]; decide)
      rw [maxN_eq l m, if_neg (show ¬ (m : Int) < Int.ofNat a by simp; omega)]
theorem maxT {ns : List Nat} {v : V} {cl : Bool} (h : maxQ ns = some v) : ∃ k, runA cfg k 201 [.arr (ints .u8 (ns.map Int.ofNat)) ns.length cl] [] [] = some (v, []) ∧ v.clean false = true := by
  unfold maxQ at h
  split at h
  · cases h
  rename_i a l
  split at h
  · rename_i hl
    rw [forceN_eq] at h
    cases h
    have hl := Nat.le_of_ble_eq_true hl
    rw [lenN_eq] at hl
    have hv : ∀ σ, View σ (.arr (ints .u8 ((a :: l).map Int.ofNat)) (a :: l).length cl) (ints .u8 ((a :: l).map Int.ofNat)) := fun σ => by
      have := View.ints σ .u8 ((a :: l).map Int.ofNat) cl
      rwa [List.length_map] at this
    obtain ⟨k, hk⟩ := runF_some (maxx_ok (σ := []) (p := []) ((a :: l).map Int.ofNat) (by simp) (by simp; omega) hv)
    refine ⟨k, ?_, rfl⟩
    rw [hk]
    have : (maxI ((a :: l).map Int.ofNat)) = Int.ofNat (maxN l a) := (maxN_eq l a).symm
    rw [this]
  · cases h
theorem leAll_ok {k : Nat} : ∀ {l : List Nat}, leAll k l = true → ∀ x ∈ l, x ≤ k
  | [], _, x, hx => by cases hx
  | n :: l, h, x, hx => by
    unfold leAll at h
    split at h
    · rename_i e
      cases hx with
      | head => exact Nat.le_of_ble_eq_true e
      | tail _ hx => exact leAll_ok h x hx
    · cases h
theorem zeroN_iff : ∀ l : List Nat, zeroN l = (l.map Int.ofNat).all (· == 0)
  | [] => rfl
  | 0 :: l => by simpa [zeroN] using zeroN_iff l
  | (n + 1) :: l => by simp [zeroN]; omega
theorem zero_pe {args : List V} {m : Mem} {σ : List O} {v : V} (hm : MB m σ) (h : pZeroB args m = some v) : pFrz cfg 159 args σ = some v := by
  unfold pZeroB at h
  split at h
  case h_2 => cases h
  rename_i x
  have h := on1_mono hm h
  obtain ⟨ns, cl, h1, h2, _⟩ := rowy_frz h
  unfold zeroQ at h1
  split at h1
  case h_2 => cases h1
  rename_i hl
  simp only [Bool.and_eq_true] at hl
  have hn := Nat.le_of_ble_eq_true hl.2
  rw [lenN_eq] at hn
  have hn : ns.length ≤ 9223372036854775806 := by omega
  have hl := leAll_ok hl.1
  have hv : ∀ σ, View σ (.arr (ints .u8 (ns.map Int.ofNat)) ns.length cl) (ints .u8 (ns.map Int.ofNat)) := fun σ => by
    have := View.ints σ .u8 (ns.map Int.ofNat) cl
    rwa [List.length_map] at this
  have hlen : ns.length ≤ 9223372036854775806 := hn
  have hz := zero_ok (σ := []) (p := []) (ns.map Int.ofNat) (fun x hx => by
    obtain ⟨y, hy, rfl⟩ := List.mem_map.1 hx
    have := hl y hy
    simp; omega) (by rw [List.length_map]; exact hlen) (hv [])
  rw [← zeroN_iff] at hz
  have e : v = .b (zeroN ns) := by
    split at h1 <;> rename_i e0 <;> cases h1 <;> rw [e0]
  subst e
  refine pFrz_of ?_ ?_ rfl
  · rw [List.map_cons, List.map_nil, h2]; exact hz
  · rw [List.map_cons, List.map_nil, h2]; simp only [V.cleanL, V.clean, Bool.true_and, cleanL_ints]
end Go.Am.R2

/- States between the pieces of the run. -/
namespace Go.Am.R2
open Go.Proofs
set_option maxRecDepth 100000
set_option linter.unusedSimpArgs false
set_option linter.unusedVariables false
noncomputable def seg1o153 : OB := (.o (.cells [2, 0] (catV [[.i .i64 28, .i .i64 976], B8 [221, 79, 10, 189, 0, 242, 54, 90, 6, 214, 28, 171, 35, 138, 188, 21, 209, 13, 4, 69, 99, 38, 111, 225, 213, 233, 7, 152, 13, 83, 208, 184], [.i .i64 64, .i .i64 2]])))
noncomputable def seg1o151 : OB := (.o (.cells [1, 4, 8, 3, 2, 4, 5, 12, 2, 4, 4, 5, 4, 4, 2, 8, 0, 0] (catV [B8 [2], repV 919 (.i .u8 0), B8 [2], repV 919 (.i .u8 0)])))
noncomputable def seg1o145 : OB := (.o (.cells [4, 3, 8, 8, 5, 3, 2, 4, 5, 12, 2, 4, 4, 5, 4, 4, 2, 8, 0, 0] (catV [[.i .i64 28], B8 [2, 1, 2, 0, 0, 0, 0, 0], repV 8 (.i .u8 255), repV 112 (.i .u8 0), [.i .i64 976], B8 [2, 1, 2, 0, 0, 0, 0, 0], repV 8 (.i .u8 255), repV 112 (.i .u8 0)])))
noncomputable def seg1o20 : OB := (.tab [1, 0, 2, 7, 7, 2, 0, 0] 1916 130 (catV [repV 128 (.i .u8 0), [.b false, .b false]]) (.n (some (catV [B8 [109], repV 95 (.i .u8 0), B8 [223, 65, 125, 116, 144, 145, 203, 191, 75, 142, 121, 177, 112, 200, 188, 88, 209, 149, 103, 177, 35, 198, 137, 184, 79, 39, 187, 173, 131, 125, 65, 191], [.b false, .b false]])) (.l) (.n none (.n none (.l) (.n none (.n none (.l) (.n none (.l) (.n none (.n none (.l) (.n none (.l) (.n (some (catV [B8 [109], repV 95 (.i .u8 0), B8 [223, 65, 125, 116, 144, 145, 203, 191, 75, 142, 121, 177, 112, 200, 188, 88, 209, 149, 103, 177, 35, 198, 137, 184, 79, 39, 187, 173, 131, 125, 65, 191], [.b false, .b false]])) (.l) (.l)))) (.l)))) (.l))) (.l))))
noncomputable def seg1o152 : OB := (.o (.cells [1, 0] ([.sl 20 [1, 0, 2, 7, 7, 2, 0, 0] 0 1916 130 none, .sl 145 [4, 3, 8, 8, 5, 3, 2, 4, 5, 12, 2, 4, 4, 5, 4, 4, 2, 8, 0, 0] 0 2 129 none, .i .i64 (-1), .b false, .i .i64 0, .nils, .i .i64 28, .i .i64 976, .i .i64 920, .sl 151 [1, 4, 8, 3, 2, 4, 5, 12, 2, 4, 4, 5, 4, 4, 2, 8, 0, 0] 0 1840 1 none])))
noncomputable def seg1v0 : V := .b false
noncomputable def seg1v1 : V := .ptr 152 [1, 0] 0
noncomputable def seg1v3 : V := .b true
noncomputable def seg1v15 : V := .b true
noncomputable def seg1v11 : V := .tup ([.agg ([.sl 20 [1, 0, 2, 7, 7, 2, 0, 0] 0 1916 130 none, .sl 145 [4, 3, 8, 8, 5, 3, 2, 4, 5, 12, 2, 4, 4, 5, 4, 4, 2, 8, 0, 0] 0 2 129 none, .i .i64 (-1), .b false, .i .i64 0, .nils, .i .i64 28, .i .i64 976, .i .i64 920, .sl 151 [1, 4, 8, 3, 2, 4, 5, 12, 2, 4, 4, 5, 4, 4, 2, 8, 0, 0] 0 1840 1 none]), .agg (catV [[.i .i64 28, .i .i64 976], B8 [221, 79, 10, 189, 0, 242, 54, 90, 6, 214, 28, 171, 35, 138, 188, 21, 209, 13, 4, 69, 99, 38, 111, 225, 213, 233, 7, 152, 13, 83, 208, 184], [.i .i64 64, .i .i64 2]]), .b true])
noncomputable def seg1v13 : V := .agg ([.sl 20 [1, 0, 2, 7, 7, 2, 0, 0] 0 1916 130 none, .sl 145 [4, 3, 8, 8, 5, 3, 2, 4, 5, 12, 2, 4, 4, 5, 4, 4, 2, 8, 0, 0] 0 2 129 none, .i .i64 (-1), .b false, .i .i64 0, .nils, .i .i64 28, .i .i64 976, .i .i64 920, .sl 151 [1, 4, 8, 3, 2, 4, 5, 12, 2, 4, 4, 5, 4, 4, 2, 8, 0, 0] 0 1840 1 none])
noncomputable def seg1v2 : V := .ptr 153 [2, 0] 0
noncomputable def seg1v12 : V := .tup ([.agg ([.sl 20 [1, 0, 2, 7, 7, 2, 0, 0] 0 1916 130 none, .sl 145 [4, 3, 8, 8, 5, 3, 2, 4, 5, 12, 2, 4, 4, 5, 4, 4, 2, 8, 0, 0] 0 2 129 none, .i .i64 (-1), .b false, .i .i64 0, .nils, .i .i64 28, .i .i64 976, .i .i64 920, .sl 151 [1, 4, 8, 3, 2, 4, 5, 12, 2, 4, 4, 5, 4, 4, 2, 8, 0, 0] 0 1840 1 none]), .agg (catV [[.i .i64 28, .i .i64 976], B8 [221, 79, 10, 189, 0, 242, 54, 90, 6, 214, 28, 171, 35, 138, 188, 21, 209, 13, 4, 69, 99, 38, 111, 225, 213, 233, 7, 152, 13, 83, 208, 184], [.i .i64 64, .i .i64 2]]), .b true])
noncomputable def seg1v14 : V := .agg (catV [[.i .i64 28, .i .i64 976], B8 [221, 79, 10, 189, 0, 242, 54, 90, 6, 214, 28, 171, 35, 138, 188, 21, 209, 13, 4, 69, 99, 38, 111, 225, 213, 233, 7, 152, 13, 83, 208, 184], [.i .i64 64, .i .i64 2]])
noncomputable def seg1t : T V := .n (some seg1v0) (.n (some seg1v1) (.n (some seg1v3) (.n none (.n (some seg1v15) (.l) (.l)) (.l)) (.n (some seg1v11) (.l) (.l))) (.n none (.l) (.n (some seg1v13) (.l) (.l)))) (.n (some seg1v2) (.n none (.l) (.n (some seg1v12) (.l) (.l))) (.n none (.l) (.n (some seg1v14) (.l) (.l))))
noncomputable def seg1m : Mem := ⟨154, .n none (.n none (.n none (.n none (.l) (.n none (.l) (.n none (.n none (.n (some seg1o151) (.l) (.l)) (.l)) (.l)))) (.l)) (.n none (.n none (.n none (.l) (.n none (.n none (.n (some seg1o145) (.l) (.l)) (.l)) (.l))) (.n none (.l) (.n none (.n none (.n (some seg1o153) (.l) (.l)) (.l)) (.l)))) (.l))) (.n none (.n none (.n none (.l) (.n none (.l) (.n none (.n none (.n (some seg1o152) (.l) (.l)) (.l)) (.l)))) (.n none (.n (some seg1o20) (.l) (.l)) (.l))) (.l))⟩
noncomputable def seg1 : SB := ⟨seg1t, seg1m, 5⟩
noncomputable def seg2o153 : OB := (.o (.cells [2, 0] (catV [[.i .i64 31, .i .i64 979], B8 [86, 229, 52, 63, 234, 52, 220, 65, 43, 113, 96, 115, 12, 65, 236, 182, 8, 241, 63, 101, 21, 91, 77, 7, 249, 254, 53, 17, 218, 137, 188, 213], [.i .i64 128, .i .i64 2]])))
noncomputable def seg2o151 : OB := (.o (.cells [1, 4, 8, 3, 2, 4, 5, 12, 2, 4, 4, 5, 4, 4, 2, 8, 0, 0] (catV [B8 [2], repV 919 (.i .u8 0), B8 [2], repV 919 (.i .u8 0)])))
noncomputable def seg2o145 : OB := (.o (.cells [4, 3, 8, 8, 5, 3, 2, 4, 5, 12, 2, 4, 4, 5, 4, 4, 2, 8, 0, 0] (catV [[.i .i64 28], B8 [2, 1, 2, 0, 0, 0, 0, 0], repV 8 (.i .u8 255), repV 112 (.i .u8 0), [.i .i64 976], B8 [2, 1, 2, 0, 0, 0, 0, 0], repV 8 (.i .u8 255), repV 112 (.i .u8 0)])))
noncomputable def seg2o788 : OB := (.o (.cells [1, 4, 8, 3, 2, 4, 5, 12, 1, 4, 4, 5, 5, 5, 1, 12, 4, 8, 5, 0] (catV [B8 [4, 4, 2, 2], repV 916 (.i .u8 0), B8 [4, 4, 2, 2], repV 916 (.i .u8 0)])))
noncomputable def seg2o777 : OB := (.o (.cells [4, 3, 8, 8, 5, 3, 2, 4, 5, 12, 1, 4, 4, 5, 5, 5, 1, 12, 4, 8, 5, 0] (catV [[.i .i64 28], B8 [2, 1, 2, 0, 0, 0, 0, 0], repV 8 (.i .u8 255), repV 112 (.i .u8 0), [.i .i64 976], B8 [2, 1, 2, 0, 0, 0, 0, 0], repV 8 (.i .u8 255), repV 112 (.i .u8 0), [.i .i64 29], B8 [2, 1, 2, 0, 0, 0, 0, 0], repV 8 (.i .u8 255), repV 48 (.i .u8 0), B8 [2, 1, 2, 0, 0, 0, 0, 0], repV 8 (.i .u8 255), repV 48 (.i .u8 0), [.i .i64 977], B8 [2, 1, 2, 0, 0, 0, 0, 0], repV 8 (.i .u8 255), repV 48 (.i .u8 0), B8 [2, 1, 2, 0, 0, 0, 0, 0], repV 8 (.i .u8 255), repV 48 (.i .u8 0), [.i .i64 30], B8 [2, 1, 97], repV 125 (.i .u8 0), [.i .i64 978], B8 [2, 1, 97], repV 125 (.i .u8 0), [.i .i64 31], B8 [2, 1, 2, 0, 3, 0, 0, 0, 30, 0, 0, 0, 210, 3, 0, 0, 252, 57, 219, 81, 44, 116, 16, 120, 145, 127, 68, 231, 135, 61, 120, 121, 162, 137, 146, 30, 112, 57, 0, 127, 224, 214, 5, 219, 32, 173, 123, 212], repV 16 (.i .u8 0), B8 [2, 1, 2, 0, 0, 0, 0, 0], repV 8 (.i .u8 255), repV 48 (.i .u8 0), [.i .i64 979], B8 [2, 1, 2, 0, 3, 0, 0, 0, 30, 0, 0, 0, 210, 3, 0, 0, 252, 57, 219, 81, 44, 116, 16, 120, 145, 127, 68, 231, 135, 61, 120, 121, 162, 137, 146, 30, 112, 57, 0, 127, 224, 214, 5, 219, 32, 173, 123, 212], repV 16 (.i .u8 0), B8 [2, 1, 2, 0, 0, 0, 0, 0], repV 8 (.i .u8 255), repV 48 (.i .u8 0)])))
noncomputable def seg2o20 : OB := (.tab [1, 0, 2, 7, 7, 2, 0, 0] 1916 130 (catV [repV 128 (.i .u8 0), [.b false, .b false]]) (.n (some (catV [B8 [109], repV 95 (.i .u8 0), B8 [223, 65, 125, 116, 144, 145, 203, 191, 75, 142, 121, 177, 112, 200, 188, 88, 209, 149, 103, 177, 35, 198, 137, 184, 79, 39, 187, 173, 131, 125, 65, 191], [.b false, .b false]])) (.l) (.n none (.n none (.l) (.n none (.n none (.l) (.n none (.l) (.n none (.n none (.l) (.n none (.l) (.n (some (catV [B8 [109], repV 95 (.i .u8 0), B8 [223, 65, 125, 116, 144, 145, 203, 191, 75, 142, 121, 177, 112, 200, 188, 88, 209, 149, 103, 177, 35, 198, 137, 184, 79, 39, 187, 173, 131, 125, 65, 191], [.b false, .b false]])) (.l) (.l)))) (.l)))) (.l))) (.l))))
noncomputable def seg2o152 : OB := (.o (.cells [1, 0] ([.sl 20 [1, 0, 2, 7, 7, 2, 0, 0] 0 1916 130 none, .sl 777 [4, 3, 8, 8, 5, 3, 2, 4, 5, 12, 1, 4, 4, 5, 5, 5, 1, 12, 4, 8, 5, 0] 0 8 129 none, .i .i64 (-1), .b false, .i .i64 0, .nils, .i .i64 28, .i .i64 976, .i .i64 920, .sl 788 [1, 4, 8, 3, 2, 4, 5, 12, 1, 4, 4, 5, 5, 5, 1, 12, 4, 8, 5, 0] 0 1840 1 none])))
noncomputable def seg2v0 : V := .b false
noncomputable def seg2v1 : V := .ptr 152 [1, 0] 0
noncomputable def seg2v3 : V := .b true
noncomputable def seg2v15 : V := .b true
noncomputable def seg2v11 : V := .tup ([.agg ([.sl 20 [1, 0, 2, 7, 7, 2, 0, 0] 0 1916 130 none, .sl 145 [4, 3, 8, 8, 5, 3, 2, 4, 5, 12, 2, 4, 4, 5, 4, 4, 2, 8, 0, 0] 0 2 129 none, .i .i64 (-1), .b false, .i .i64 0, .nils, .i .i64 28, .i .i64 976, .i .i64 920, .sl 151 [1, 4, 8, 3, 2, 4, 5, 12, 2, 4, 4, 5, 4, 4, 2, 8, 0, 0] 0 1840 1 none]), .agg (catV [[.i .i64 28, .i .i64 976], B8 [221, 79, 10, 189, 0, 242, 54, 90, 6, 214, 28, 171, 35, 138, 188, 21, 209, 13, 4, 69, 99, 38, 111, 225, 213, 233, 7, 152, 13, 83, 208, 184], [.i .i64 64, .i .i64 2]]), .b true])
noncomputable def seg2v19 : V := .i .i64 0
noncomputable def seg2v5 : V := .i .i64 0
noncomputable def seg2v17 : V := .tup ([.i .i64 2, .i .i64 0])
noncomputable def seg2v13 : V := .agg ([.sl 20 [1, 0, 2, 7, 7, 2, 0, 0] 0 1916 130 none, .sl 145 [4, 3, 8, 8, 5, 3, 2, 4, 5, 12, 2, 4, 4, 5, 4, 4, 2, 8, 0, 0] 0 2 129 none, .i .i64 (-1), .b false, .i .i64 0, .nils, .i .i64 28, .i .i64 976, .i .i64 920, .sl 151 [1, 4, 8, 3, 2, 4, 5, 12, 2, 4, 4, 5, 4, 4, 2, 8, 0, 0] 0 1840 1 none])
noncomputable def seg2v2 : V := .ptr 153 [2, 0] 0
noncomputable def seg2v4 : V := .i .i64 2
noncomputable def seg2v16 : V := .tup ([.i .i64 2, .i .i64 0])
noncomputable def seg2v12 : V := .tup ([.agg ([.sl 20 [1, 0, 2, 7, 7, 2, 0, 0] 0 1916 130 none, .sl 145 [4, 3, 8, 8, 5, 3, 2, 4, 5, 12, 2, 4, 4, 5, 4, 4, 2, 8, 0, 0] 0 2 129 none, .i .i64 (-1), .b false, .i .i64 0, .nils, .i .i64 28, .i .i64 976, .i .i64 920, .sl 151 [1, 4, 8, 3, 2, 4, 5, 12, 2, 4, 4, 5, 4, 4, 2, 8, 0, 0] 0 1840 1 none]), .agg (catV [[.i .i64 28, .i .i64 976], B8 [221, 79, 10, 189, 0, 242, 54, 90, 6, 214, 28, 171, 35, 138, 188, 21, 209, 13, 4, 69, 99, 38, 111, 225, 213, 233, 7, 152, 13, 83, 208, 184], [.i .i64 64, .i .i64 2]]), .b true])
noncomputable def seg2v18 : V := .i .i64 2
noncomputable def seg2v14 : V := .agg (catV [[.i .i64 28, .i .i64 976], B8 [221, 79, 10, 189, 0, 242, 54, 90, 6, 214, 28, 171, 35, 138, 188, 21, 209, 13, 4, 69, 99, 38, 111, 225, 213, 233, 7, 152, 13, 83, 208, 184], [.i .i64 64, .i .i64 2]])
noncomputable def seg2t : T V := .n (some seg2v0) (.n (some seg2v1) (.n (some seg2v3) (.n none (.n (some seg2v15) (.l) (.l)) (.l)) (.n (some seg2v11) (.n (some seg2v19) (.l) (.l)) (.l))) (.n (some seg2v5) (.n none (.n (some seg2v17) (.l) (.l)) (.l)) (.n (some seg2v13) (.l) (.l)))) (.n (some seg2v2) (.n (some seg2v4) (.n none (.n (some seg2v16) (.l) (.l)) (.l)) (.n (some seg2v12) (.l) (.l))) (.n none (.n none (.n (some seg2v18) (.l) (.l)) (.l)) (.n (some seg2v14) (.l) (.l))))
noncomputable def seg2m : Mem := ⟨789, .n none (.n none (.n none (.n none (.l) (.n none (.l) (.n none (.n none (.n (some seg2o151) (.l) (.l)) (.l)) (.l)))) (.l)) (.n none (.n none (.n none (.l) (.n none (.n none (.n (some seg2o145) (.l) (.l)) (.l)) (.l))) (.n none (.n none (.n none (.n none (.n none (.l) (.n (some seg2o777) (.l) (.l))) (.l)) (.l)) (.l)) (.n none (.n none (.n (some seg2o153) (.l) (.l)) (.l)) (.l)))) (.l))) (.n none (.n none (.n none (.l) (.n none (.l) (.n none (.n none (.n (some seg2o152) (.l) (.l)) (.l)) (.l)))) (.n none (.n (some seg2o20) (.l) (.n none (.n none (.n none (.n none (.l) (.n (some seg2o788) (.l) (.l))) (.l)) (.l)) (.l))) (.l))) (.l))⟩
noncomputable def seg2 : SB := ⟨seg2t, seg2m, 6⟩
noncomputable def seg3o153 : OB := (.o (.cells [2, 0] (catV [[.i .i64 37, .i .i64 985], B8 [224, 116, 50, 195, 112, 99, 158, 159, 208, 243, 71, 198, 177, 98, 82, 233, 213, 194, 54, 204, 133, 40, 69, 143, 114, 32, 116, 56, 18, 86, 64, 198], [.i .i64 192, .i .i64 2]])))
noncomputable def seg3o151 : OB := (.o (.cells [1, 4, 8, 3, 2, 4, 5, 12, 2, 4, 4, 5, 4, 4, 2, 8, 0, 0] (catV [B8 [2], repV 919 (.i .u8 0), B8 [2], repV 919 (.i .u8 0)])))
noncomputable def seg3o145 : OB := (.o (.cells [4, 3, 8, 8, 5, 3, 2, 4, 5, 12, 2, 4, 4, 5, 4, 4, 2, 8, 0, 0] (catV [[.i .i64 28], B8 [2, 1, 2, 0, 0, 0, 0, 0], repV 8 (.i .u8 255), repV 112 (.i .u8 0), [.i .i64 976], B8 [2, 1, 2, 0, 0, 0, 0, 0], repV 8 (.i .u8 255), repV 112 (.i .u8 0)])))
noncomputable def seg3o1954 : OB := (.o (.cells [1, 4, 8, 7, 11, 2, 4, 5, 12, 1, 4, 4, 5, 5, 5, 1, 12, 4, 8, 6, 0] (catV [B8 [4, 4, 2, 4, 4, 2, 4, 2, 2, 2], repV 910 (.i .u8 0), B8 [4, 4, 2, 4, 4, 2, 4, 2, 2, 2], repV 910 (.i .u8 0)])))
noncomputable def seg3o1943 : OB := (.o (.cells [4, 3, 8, 8, 5, 7, 11, 2, 4, 5, 12, 1, 4, 4, 5, 5, 5, 1, 12, 4, 8, 6, 0] (catV [[.i .i64 28], B8 [2, 1, 2, 0, 0, 0, 0, 0], repV 8 (.i .u8 255), repV 112 (.i .u8 0), [.i .i64 976], B8 [2, 1, 2, 0, 0, 0, 0, 0], repV 8 (.i .u8 255), repV 112 (.i .u8 0), [.i .i64 29], B8 [2, 1, 2, 0, 0, 0, 0, 0], repV 8 (.i .u8 255), repV 48 (.i .u8 0), B8 [2, 1, 2, 0, 0, 0, 0, 0], repV 8 (.i .u8 255), repV 48 (.i .u8 0), [.i .i64 977], B8 [2, 1, 2, 0, 0, 0, 0, 0], repV 8 (.i .u8 255), repV 48 (.i .u8 0), B8 [2, 1, 2, 0, 0, 0, 0, 0], repV 8 (.i .u8 255), repV 48 (.i .u8 0), [.i .i64 30], B8 [2, 1, 97], repV 125 (.i .u8 0), [.i .i64 978], B8 [2, 1, 97], repV 125 (.i .u8 0), [.i .i64 31], B8 [2, 1, 2, 0, 3, 0, 0, 0, 30, 0, 0, 0, 210, 3, 0, 0, 252, 57, 219, 81, 44, 116, 16, 120, 145, 127, 68, 231, 135, 61, 120, 121, 162, 137, 146, 30, 112, 57, 0, 127, 224, 214, 5, 219, 32, 173, 123, 212], repV 16 (.i .u8 0), B8 [2, 1, 2, 0, 0, 0, 0, 0], repV 8 (.i .u8 255), repV 48 (.i .u8 0), [.i .i64 979], B8 [2, 1, 2, 0, 3, 0, 0, 0, 30, 0, 0, 0, 210, 3, 0, 0, 252, 57, 219, 81, 44, 116, 16, 120, 145, 127, 68, 231, 135, 61, 120, 121, 162, 137, 146, 30, 112, 57, 0, 127, 224, 214, 5, 219, 32, 173, 123, 212], repV 16 (.i .u8 0), B8 [2, 1, 2, 0, 0, 0, 0, 0], repV 8 (.i .u8 255), repV 48 (.i .u8 0), [.i .i64 32], B8 [31, 0, 0, 0, 211, 3, 0, 0, 86, 229, 52, 63, 234, 52, 220, 65, 43, 113, 96, 115, 12, 65, 236, 182, 8, 241, 63, 101, 21, 91, 77, 7, 249, 254, 53, 17, 218, 137, 188, 213], repV 8 (.i .u8 255), repV 32 (.i .u8 0), repV 8 (.i .u8 255), repV 40 (.i .u8 0), [.i .i64 980], B8 [31, 0, 0, 0, 211, 3, 0, 0, 86, 229, 52, 63, 234, 52, 220, 65, 43, 113, 96, 115, 12, 65, 236, 182, 8, 241, 63, 101, 21, 91, 77, 7, 249, 254, 53, 17, 218, 137, 188, 213], repV 8 (.i .u8 255), repV 32 (.i .u8 0), repV 8 (.i .u8 255), repV 40 (.i .u8 0), [.i .i64 33], B8 [1, 1, 1, 0, 0, 0, 0, 0], repV 8 (.i .u8 255), repV 112 (.i .u8 0), [.i .i64 981], B8 [1, 1, 1, 0, 0, 0, 0, 0], repV 8 (.i .u8 255), repV 112 (.i .u8 0), [.i .i64 34], B8 [31, 0, 0, 0, 211, 3, 0, 0, 86, 229, 52, 63, 234, 52, 220, 65, 43, 113, 96, 115, 12, 65, 236, 182, 8, 241, 63, 101, 21, 91, 77, 7, 249, 254, 53, 17, 218, 137, 188, 213, 33, 0, 0, 0, 213, 3, 0, 0, 175, 164, 199, 103, 94, 169, 91, 46, 133, 37, 103, 171, 156, 92, 52, 10, 73, 238, 152, 161, 127, 194, 225, 142, 52, 77, 157, 56, 199, 104, 15, 50], repV 8 (.i .u8 255), repV 40 (.i .u8 0), [.i .i64 982], B8 [31, 0, 0, 0, 211, 3, 0, 0, 86, 229, 52, 63, 234, 52, 220, 65, 43, 113, 96, 115, 12, 65, 236, 182, 8, 241, 63, 101, 21, 91, 77, 7, 249, 254, 53, 17, 218, 137, 188, 213, 33, 0, 0, 0, 213, 3, 0, 0, 175, 164, 199, 103, 94, 169, 91, 46, 133, 37, 103, 171, 156, 92, 52, 10, 73, 238, 152, 161, 127, 194, 225, 142, 52, 77, 157, 56, 199, 104, 15, 50], repV 8 (.i .u8 255), repV 40 (.i .u8 0), [.i .i64 35], B8 [3, 1, 102], repV 125 (.i .u8 0), [.i .i64 983], B8 [3, 1, 102], repV 125 (.i .u8 0), [.i .i64 36], B8 [2, 1, 2, 0, 3, 0, 0, 0, 30, 0, 0, 0, 210, 3, 0, 0, 252, 57, 219, 81, 44, 116, 16, 120, 145, 127, 68, 231, 135, 61, 120, 121, 162, 137, 146, 30, 112, 57, 0, 127, 224, 214, 5, 219, 32, 173, 123, 212], repV 16 (.i .u8 0), B8 [2, 1, 2, 0, 3, 0, 0, 0, 35, 0, 0, 0, 215, 3, 0, 0, 206, 61, 98, 21, 31, 157, 35, 233, 103, 240, 13, 46, 210, 19, 108, 217, 202, 83, 104, 47, 244, 152, 247, 210, 31, 229, 89, 109, 131, 183, 211, 239], repV 16 (.i .u8 0), [.i .i64 984], B8 [2, 1, 2, 0, 3, 0, 0, 0, 30, 0, 0, 0, 210, 3, 0, 0, 252, 57, 219, 81, 44, 116, 16, 120, 145, 127, 68, 231, 135, 61, 120, 121, 162, 137, 146, 30, 112, 57, 0, 127, 224, 214, 5, 219, 32, 173, 123, 212], repV 16 (.i .u8 0), B8 [2, 1, 2, 0, 3, 0, 0, 0, 35, 0, 0, 0, 215, 3, 0, 0, 206, 61, 98, 21, 31, 157, 35, 233, 103, 240, 13, 46, 210, 19, 108, 217, 202, 83, 104, 47, 244, 152, 247, 210, 31, 229, 89, 109, 131, 183, 211, 239], repV 16 (.i .u8 0), [.i .i64 37], B8 [36, 0, 0, 0, 216, 3, 0, 0, 168, 201, 99, 235, 78, 35, 51, 89, 56, 243, 23, 174, 44, 180, 239, 238, 125, 87, 138, 220, 208, 169, 247, 253, 239, 55, 174, 137, 245, 156, 83, 170, 33, 0, 0, 0, 213, 3, 0, 0, 175, 164, 199, 103, 94, 169, 91, 46, 133, 37, 103, 171, 156, 92, 52, 10, 73, 238, 152, 161, 127, 194, 225, 142, 52, 77, 157, 56, 199, 104, 15, 50], repV 8 (.i .u8 255), repV 40 (.i .u8 0), [.i .i64 985], B8 [36, 0, 0, 0, 216, 3, 0, 0, 168, 201, 99, 235, 78, 35, 51, 89, 56, 243, 23, 174, 44, 180, 239, 238, 125, 87, 138, 220, 208, 169, 247, 253, 239, 55, 174, 137, 245, 156, 83, 170, 33, 0, 0, 0, 213, 3, 0, 0, 175, 164, 199, 103, 94, 169, 91, 46, 133, 37, 103, 171, 156, 92, 52, 10, 73, 238, 152, 161, 127, 194, 225, 142, 52, 77, 157, 56, 199, 104, 15, 50], repV 8 (.i .u8 255), repV 40 (.i .u8 0)])))
noncomputable def seg3o20 : OB := (.tab [1, 0, 2, 7, 7, 2, 0, 0] 1916 130 (catV [repV 128 (.i .u8 0), [.b false, .b false]]) (.n (some (catV [B8 [109], repV 95 (.i .u8 0), B8 [223, 65, 125, 116, 144, 145, 203, 191, 75, 142, 121, 177, 112, 200, 188, 88, 209, 149, 103, 177, 35, 198, 137, 184, 79, 39, 187, 173, 131, 125, 65, 191], [.b false, .b false]])) (.l) (.n none (.n none (.l) (.n none (.n none (.l) (.n none (.l) (.n none (.n none (.l) (.n none (.l) (.n (some (catV [B8 [109], repV 95 (.i .u8 0), B8 [223, 65, 125, 116, 144, 145, 203, 191, 75, 142, 121, 177, 112, 200, 188, 88, 209, 149, 103, 177, 35, 198, 137, 184, 79, 39, 187, 173, 131, 125, 65, 191], [.b false, .b false]])) (.l) (.l)))) (.l)))) (.l))) (.l))))
noncomputable def seg3o152 : OB := (.o (.cells [1, 0] ([.sl 20 [1, 0, 2, 7, 7, 2, 0, 0] 0 1916 130 none, .sl 1943 [4, 3, 8, 8, 5, 7, 11, 2, 4, 5, 12, 1, 4, 4, 5, 5, 5, 1, 12, 4, 8, 6, 0] 0 20 129 none, .i .i64 (-1), .b false, .i .i64 0, .nils, .i .i64 28, .i .i64 976, .i .i64 920, .sl 1954 [1, 4, 8, 7, 11, 2, 4, 5, 12, 1, 4, 4, 5, 5, 5, 1, 12, 4, 8, 6, 0] 0 1840 1 none])))
noncomputable def seg3v0 : V := .b false
noncomputable def seg3v1 : V := .ptr 152 [1, 0] 0
noncomputable def seg3v3 : V := .b true
noncomputable def seg3v7 : V := .i .i64 0
noncomputable def seg3v15 : V := .b true
noncomputable def seg3v23 : V := .i .i64 3
noncomputable def seg3v11 : V := .tup ([.agg ([.sl 20 [1, 0, 2, 7, 7, 2, 0, 0] 0 1916 130 none, .sl 145 [4, 3, 8, 8, 5, 3, 2, 4, 5, 12, 2, 4, 4, 5, 4, 4, 2, 8, 0, 0] 0 2 129 none, .i .i64 (-1), .b false, .i .i64 0, .nils, .i .i64 28, .i .i64 976, .i .i64 920, .sl 151 [1, 4, 8, 3, 2, 4, 5, 12, 2, 4, 4, 5, 4, 4, 2, 8, 0, 0] 0 1840 1 none]), .agg (catV [[.i .i64 28, .i .i64 976], B8 [221, 79, 10, 189, 0, 242, 54, 90, 6, 214, 28, 171, 35, 138, 188, 21, 209, 13, 4, 69, 99, 38, 111, 225, 213, 233, 7, 152, 13, 83, 208, 184], [.i .i64 64, .i .i64 2]]), .b true])
noncomputable def seg3v19 : V := .i .i64 0
noncomputable def seg3v5 : V := .i .i64 0
noncomputable def seg3v17 : V := .tup ([.i .i64 2, .i .i64 0])
noncomputable def seg3v13 : V := .agg ([.sl 20 [1, 0, 2, 7, 7, 2, 0, 0] 0 1916 130 none, .sl 145 [4, 3, 8, 8, 5, 3, 2, 4, 5, 12, 2, 4, 4, 5, 4, 4, 2, 8, 0, 0] 0 2 129 none, .i .i64 (-1), .b false, .i .i64 0, .nils, .i .i64 28, .i .i64 976, .i .i64 920, .sl 151 [1, 4, 8, 3, 2, 4, 5, 12, 2, 4, 4, 5, 4, 4, 2, 8, 0, 0] 0 1840 1 none])
noncomputable def seg3v21 : V := .i .i64 2
noncomputable def seg3v2 : V := .ptr 153 [2, 0] 0
noncomputable def seg3v4 : V := .i .i64 2
noncomputable def seg3v16 : V := .tup ([.i .i64 2, .i .i64 0])
noncomputable def seg3v24 : V := .i .i64 0
noncomputable def seg3v12 : V := .tup ([.agg ([.sl 20 [1, 0, 2, 7, 7, 2, 0, 0] 0 1916 130 none, .sl 145 [4, 3, 8, 8, 5, 3, 2, 4, 5, 12, 2, 4, 4, 5, 4, 4, 2, 8, 0, 0] 0 2 129 none, .i .i64 (-1), .b false, .i .i64 0, .nils, .i .i64 28, .i .i64 976, .i .i64 920, .sl 151 [1, 4, 8, 3, 2, 4, 5, 12, 2, 4, 4, 5, 4, 4, 2, 8, 0, 0] 0 1840 1 none]), .agg (catV [[.i .i64 28, .i .i64 976], B8 [221, 79, 10, 189, 0, 242, 54, 90, 6, 214, 28, 171, 35, 138, 188, 21, 209, 13, 4, 69, 99, 38, 111, 225, 213, 233, 7, 152, 13, 83, 208, 184], [.i .i64 64, .i .i64 2]]), .b true])
noncomputable def seg3v20 : V := .tup ([.i .i64 3, .i .i64 0])
noncomputable def seg3v6 : V := .i .i64 3
noncomputable def seg3v18 : V := .i .i64 2
noncomputable def seg3v14 : V := .agg (catV [[.i .i64 28, .i .i64 976], B8 [221, 79, 10, 189, 0, 242, 54, 90, 6, 214, 28, 171, 35, 138, 188, 21, 209, 13, 4, 69, 99, 38, 111, 225, 213, 233, 7, 152, 13, 83, 208, 184], [.i .i64 64, .i .i64 2]])
noncomputable def seg3v22 : V := .tup ([.i .i64 3, .i .i64 0])
noncomputable def seg3t : T V := .n (some seg3v0) (.n (some seg3v1) (.n (some seg3v3) (.n (some seg3v7) (.n (some seg3v15) (.l) (.l)) (.n (some seg3v23) (.l) (.l))) (.n (some seg3v11) (.n (some seg3v19) (.l) (.l)) (.l))) (.n (some seg3v5) (.n none (.n (some seg3v17) (.l) (.l)) (.l)) (.n (some seg3v13) (.n (some seg3v21) (.l) (.l)) (.l)))) (.n (some seg3v2) (.n (some seg3v4) (.n none (.n (some seg3v16) (.l) (.l)) (.n (some seg3v24) (.l) (.l))) (.n (some seg3v12) (.n (some seg3v20) (.l) (.l)) (.l))) (.n (some seg3v6) (.n none (.n (some seg3v18) (.l) (.l)) (.l)) (.n (some seg3v14) (.n (some seg3v22) (.l) (.l)) (.l))))
noncomputable def seg3m : Mem := ⟨1955, .n none (.n none (.n none (.n none (.l) (.n none (.l) (.n none (.n none (.n (some seg3o151) (.l) (.n none (.l) (.n none (.l) (.n (some seg3o1943) (.l) (.l))))) (.l)) (.l)))) (.l)) (.n none (.n none (.n none (.l) (.n none (.n none (.n (some seg3o145) (.l) (.l)) (.l)) (.l))) (.n none (.l) (.n none (.n none (.n (some seg3o153) (.l) (.l)) (.l)) (.l)))) (.l))) (.n none (.n none (.n none (.l) (.n none (.l) (.n none (.n none (.n (some seg3o152) (.l) (.l)) (.l)) (.l)))) (.n none (.n (some seg3o20) (.l) (.l)) (.l))) (.n none (.n none (.n none (.n none (.l) (.n none (.n none (.l) (.n none (.l) (.n none (.l) (.n (some seg3o1954) (.l) (.l))))) (.l))) (.l)) (.l)) (.l)))⟩
noncomputable def seg3 : SB := ⟨seg3t, seg3m, 7⟩
noncomputable def seg4o153 : OB := (.o (.cells [2, 0] (catV [[.i .i64 37, .i .i64 985], B8 [224, 116, 50, 195, 112, 99, 158, 159, 208, 243, 71, 198, 177, 98, 82, 233, 213, 194, 54, 204, 133, 40, 69, 143, 114, 32, 116, 56, 18, 86, 64, 198], [.i .i64 192, .i .i64 2]])))
noncomputable def seg4o151 : OB := (.o (.cells [1, 4, 8, 3, 2, 4, 5, 12, 2, 4, 4, 5, 4, 4, 2, 8, 0, 0] (catV [B8 [2], repV 919 (.i .u8 0), B8 [2], repV 919 (.i .u8 0)])))
noncomputable def seg4o145 : OB := (.o (.cells [4, 3, 8, 8, 5, 3, 2, 4, 5, 12, 2, 4, 4, 5, 4, 4, 2, 8, 0, 0] (catV [[.i .i64 28], B8 [2, 1, 2, 0, 0, 0, 0, 0], repV 8 (.i .u8 255), repV 112 (.i .u8 0), [.i .i64 976], B8 [2, 1, 2, 0, 0, 0, 0, 0], repV 8 (.i .u8 255), repV 112 (.i .u8 0)])))
noncomputable def seg4o1954 : OB := (.o (.cells [1, 4, 8, 7, 11, 2, 4, 5, 12, 1, 4, 4, 5, 5, 5, 1, 12, 4, 8, 6, 0] (catV [B8 [4, 4, 2, 4, 4, 2, 4, 2, 2, 2], repV 910 (.i .u8 0), B8 [4, 4, 2, 4, 4, 2, 4, 2, 2, 2], repV 910 (.i .u8 0)])))
noncomputable def seg4o1943 : OB := (.o (.cells [4, 3, 8, 8, 5, 7, 11, 2, 4, 5, 12, 1, 4, 4, 5, 5, 5, 1, 12, 4, 8, 6, 0] (catV [[.i .i64 28], B8 [2, 1, 2, 0, 0, 0, 0, 0], repV 8 (.i .u8 255), repV 112 (.i .u8 0), [.i .i64 976], B8 [2, 1, 2, 0, 0, 0, 0, 0], repV 8 (.i .u8 255), repV 112 (.i .u8 0), [.i .i64 29], B8 [2, 1, 2, 0, 0, 0, 0, 0], repV 8 (.i .u8 255), repV 48 (.i .u8 0), B8 [2, 1, 2, 0, 0, 0, 0, 0], repV 8 (.i .u8 255), repV 48 (.i .u8 0), [.i .i64 977], B8 [2, 1, 2, 0, 0, 0, 0, 0], repV 8 (.i .u8 255), repV 48 (.i .u8 0), B8 [2, 1, 2, 0, 0, 0, 0, 0], repV 8 (.i .u8 255), repV 48 (.i .u8 0), [.i .i64 30], B8 [2, 1, 97], repV 125 (.i .u8 0), [.i .i64 978], B8 [2, 1, 97], repV 125 (.i .u8 0), [.i .i64 31], B8 [2, 1, 2, 0, 3, 0, 0, 0, 30, 0, 0, 0, 210, 3, 0, 0, 252, 57, 219, 81, 44, 116, 16, 120, 145, 127, 68, 231, 135, 61, 120, 121, 162, 137, 146, 30, 112, 57, 0, 127, 224, 214, 5, 219, 32, 173, 123, 212], repV 16 (.i .u8 0), B8 [2, 1, 2, 0, 0, 0, 0, 0], repV 8 (.i .u8 255), repV 48 (.i .u8 0), [.i .i64 979], B8 [2, 1, 2, 0, 3, 0, 0, 0, 30, 0, 0, 0, 210, 3, 0, 0, 252, 57, 219, 81, 44, 116, 16, 120, 145, 127, 68, 231, 135, 61, 120, 121, 162, 137, 146, 30, 112, 57, 0, 127, 224, 214, 5, 219, 32, 173, 123, 212], repV 16 (.i .u8 0), B8 [2, 1, 2, 0, 0, 0, 0, 0], repV 8 (.i .u8 255), repV 48 (.i .u8 0), [.i .i64 32], B8 [31, 0, 0, 0, 211, 3, 0, 0, 86, 229, 52, 63, 234, 52, 220, 65, 43, 113, 96, 115, 12, 65, 236, 182, 8, 241, 63, 101, 21, 91, 77, 7, 249, 254, 53, 17, 218, 137, 188, 213], repV 8 (.i .u8 255), repV 32 (.i .u8 0), repV 8 (.i .u8 255), repV 40 (.i .u8 0), [.i .i64 980], B8 [31, 0, 0, 0, 211, 3, 0, 0, 86, 229, 52, 63, 234, 52, 220, 65, 43, 113, 96, 115, 12, 65, 236, 182, 8, 241, 63, 101, 21, 91, 77, 7, 249, 254, 53, 17, 218, 137, 188, 213], repV 8 (.i .u8 255), repV 32 (.i .u8 0), repV 8 (.i .u8 255), repV 40 (.i .u8 0), [.i .i64 33], B8 [1, 1, 1, 0, 0, 0, 0, 0], repV 8 (.i .u8 255), repV 112 (.i .u8 0), [.i .i64 981], B8 [1, 1, 1, 0, 0, 0, 0, 0], repV 8 (.i .u8 255), repV 112 (.i .u8 0), [.i .i64 34], B8 [31, 0, 0, 0, 211, 3, 0, 0, 86, 229, 52, 63, 234, 52, 220, 65, 43, 113, 96, 115, 12, 65, 236, 182, 8, 241, 63, 101, 21, 91, 77, 7, 249, 254, 53, 17, 218, 137, 188, 213, 33, 0, 0, 0, 213, 3, 0, 0, 175, 164, 199, 103, 94, 169, 91, 46, 133, 37, 103, 171, 156, 92, 52, 10, 73, 238, 152, 161, 127, 194, 225, 142, 52, 77, 157, 56, 199, 104, 15, 50], repV 8 (.i .u8 255), repV 40 (.i .u8 0), [.i .i64 982], B8 [31, 0, 0, 0, 211, 3, 0, 0, 86, 229, 52, 63, 234, 52, 220, 65, 43, 113, 96, 115, 12, 65, 236, 182, 8, 241, 63, 101, 21, 91, 77, 7, 249, 254, 53, 17, 218, 137, 188, 213, 33, 0, 0, 0, 213, 3, 0, 0, 175, 164, 199, 103, 94, 169, 91, 46, 133, 37, 103, 171, 156, 92, 52, 10, 73, 238, 152, 161, 127, 194, 225, 142, 52, 77, 157, 56, 199, 104, 15, 50], repV 8 (.i .u8 255), repV 40 (.i .u8 0), [.i .i64 35], B8 [3, 1, 102], repV 125 (.i .u8 0), [.i .i64 983], B8 [3, 1, 102], repV 125 (.i .u8 0), [.i .i64 36], B8 [2, 1, 2, 0, 3, 0, 0, 0, 30, 0, 0, 0, 210, 3, 0, 0, 252, 57, 219, 81, 44, 116, 16, 120, 145, 127, 68, 231, 135, 61, 120, 121, 162, 137, 146, 30, 112, 57, 0, 127, 224, 214, 5, 219, 32, 173, 123, 212], repV 16 (.i .u8 0), B8 [2, 1, 2, 0, 3, 0, 0, 0, 35, 0, 0, 0, 215, 3, 0, 0, 206, 61, 98, 21, 31, 157, 35, 233, 103, 240, 13, 46, 210, 19, 108, 217, 202, 83, 104, 47, 244, 152, 247, 210, 31, 229, 89, 109, 131, 183, 211, 239], repV 16 (.i .u8 0), [.i .i64 984], B8 [2, 1, 2, 0, 3, 0, 0, 0, 30, 0, 0, 0, 210, 3, 0, 0, 252, 57, 219, 81, 44, 116, 16, 120, 145, 127, 68, 231, 135, 61, 120, 121, 162, 137, 146, 30, 112, 57, 0, 127, 224, 214, 5, 219, 32, 173, 123, 212], repV 16 (.i .u8 0), B8 [2, 1, 2, 0, 3, 0, 0, 0, 35, 0, 0, 0, 215, 3, 0, 0, 206, 61, 98, 21, 31, 157, 35, 233, 103, 240, 13, 46, 210, 19, 108, 217, 202, 83, 104, 47, 244, 152, 247, 210, 31, 229, 89, 109, 131, 183, 211, 239], repV 16 (.i .u8 0), [.i .i64 37], B8 [36, 0, 0, 0, 216, 3, 0, 0, 168, 201, 99, 235, 78, 35, 51, 89, 56, 243, 23, 174, 44, 180, 239, 238, 125, 87, 138, 220, 208, 169, 247, 253, 239, 55, 174, 137, 245, 156, 83, 170, 33, 0, 0, 0, 213, 3, 0, 0, 175, 164, 199, 103, 94, 169, 91, 46, 133, 37, 103, 171, 156, 92, 52, 10, 73, 238, 152, 161, 127, 194, 225, 142, 52, 77, 157, 56, 199, 104, 15, 50], repV 8 (.i .u8 255), repV 40 (.i .u8 0), [.i .i64 985], B8 [36, 0, 0, 0, 216, 3, 0, 0, 168, 201, 99, 235, 78, 35, 51, 89, 56, 243, 23, 174, 44, 180, 239, 238, 125, 87, 138, 220, 208, 169, 247, 253, 239, 55, 174, 137, 245, 156, 83, 170, 33, 0, 0, 0, 213, 3, 0, 0, 175, 164, 199, 103, 94, 169, 91, 46, 133, 37, 103, 171, 156, 92, 52, 10, 73, 238, 152, 161, 127, 194, 225, 142, 52, 77, 157, 56, 199, 104, 15, 50], repV 8 (.i .u8 255), repV 40 (.i .u8 0)])))
noncomputable def seg4o20 : OB := (.tab [1, 0, 2, 7, 7, 2, 0, 0] 1916 130 (catV [repV 128 (.i .u8 0), [.b false, .b false]]) (.n (some (catV [B8 [109], repV 95 (.i .u8 0), B8 [223, 65, 125, 116, 144, 145, 203, 191, 75, 142, 121, 177, 112, 200, 188, 88, 209, 149, 103, 177, 35, 198, 137, 184, 79, 39, 187, 173, 131, 125, 65, 191], [.b false, .b false]])) (.l) (.n none (.n none (.l) (.n none (.n none (.l) (.n none (.l) (.n none (.n none (.l) (.n none (.l) (.n (some (catV [B8 [109], repV 95 (.i .u8 0), B8 [223, 65, 125, 116, 144, 145, 203, 191, 75, 142, 121, 177, 112, 200, 188, 88, 209, 149, 103, 177, 35, 198, 137, 184, 79, 39, 187, 173, 131, 125, 65, 191], [.b false, .b false]])) (.l) (.l)))) (.l)))) (.l))) (.l))))
noncomputable def seg4o152 : OB := (.o (.cells [1, 0] ([.sl 20 [1, 0, 2, 7, 7, 2, 0, 0] 0 1916 130 none, .sl 1943 [4, 3, 8, 8, 5, 7, 11, 2, 4, 5, 12, 1, 4, 4, 5, 5, 5, 1, 12, 4, 8, 6, 0] 0 20 129 none, .i .i64 (-1), .b false, .i .i64 0, .nils, .i .i64 28, .i .i64 976, .i .i64 920, .sl 1954 [1, 4, 8, 7, 11, 2, 4, 5, 12, 1, 4, 4, 5, 5, 5, 1, 12, 4, 8, 6, 0] 0 1840 1 none])))
noncomputable def seg4v0 : V := .b false
noncomputable def seg4v1 : V := .ptr 152 [1, 0] 0
noncomputable def seg4v3 : V := .b true
noncomputable def seg4v7 : V := .i .i64 0
noncomputable def seg4v15 : V := .b true
noncomputable def seg4v23 : V := .i .i64 3
noncomputable def seg4v11 : V := .tup ([.agg ([.sl 20 [1, 0, 2, 7, 7, 2, 0, 0] 0 1916 130 none, .sl 145 [4, 3, 8, 8, 5, 3, 2, 4, 5, 12, 2, 4, 4, 5, 4, 4, 2, 8, 0, 0] 0 2 129 none, .i .i64 (-1), .b false, .i .i64 0, .nils, .i .i64 28, .i .i64 976, .i .i64 920, .sl 151 [1, 4, 8, 3, 2, 4, 5, 12, 2, 4, 4, 5, 4, 4, 2, 8, 0, 0] 0 1840 1 none]), .agg (catV [[.i .i64 28, .i .i64 976], B8 [221, 79, 10, 189, 0, 242, 54, 90, 6, 214, 28, 171, 35, 138, 188, 21, 209, 13, 4, 69, 99, 38, 111, 225, 213, 233, 7, 152, 13, 83, 208, 184], [.i .i64 64, .i .i64 2]]), .b true])
noncomputable def seg4v19 : V := .i .i64 0
noncomputable def seg4v5 : V := .i .i64 0
noncomputable def seg4v17 : V := .tup ([.i .i64 2, .i .i64 0])
noncomputable def seg4v25 : V := .i .i64 2
noncomputable def seg4v13 : V := .agg ([.sl 20 [1, 0, 2, 7, 7, 2, 0, 0] 0 1916 130 none, .sl 145 [4, 3, 8, 8, 5, 3, 2, 4, 5, 12, 2, 4, 4, 5, 4, 4, 2, 8, 0, 0] 0 2 129 none, .i .i64 (-1), .b false, .i .i64 0, .nils, .i .i64 28, .i .i64 976, .i .i64 920, .sl 151 [1, 4, 8, 3, 2, 4, 5, 12, 2, 4, 4, 5, 4, 4, 2, 8, 0, 0] 0 1840 1 none])
noncomputable def seg4v21 : V := .i .i64 2
noncomputable def seg4v2 : V := .ptr 153 [2, 0] 0
noncomputable def seg4v4 : V := .i .i64 2
noncomputable def seg4v8 : V := .i .i64 16
noncomputable def seg4v16 : V := .tup ([.i .i64 2, .i .i64 0])
noncomputable def seg4v24 : V := .i .i64 0
noncomputable def seg4v12 : V := .tup ([.agg ([.sl 20 [1, 0, 2, 7, 7, 2, 0, 0] 0 1916 130 none, .sl 145 [4, 3, 8, 8, 5, 3, 2, 4, 5, 12, 2, 4, 4, 5, 4, 4, 2, 8, 0, 0] 0 2 129 none, .i .i64 (-1), .b false, .i .i64 0, .nils, .i .i64 28, .i .i64 976, .i .i64 920, .sl 151 [1, 4, 8, 3, 2, 4, 5, 12, 2, 4, 4, 5, 4, 4, 2, 8, 0, 0] 0 1840 1 none]), .agg (catV [[.i .i64 28, .i .i64 976], B8 [221, 79, 10, 189, 0, 242, 54, 90, 6, 214, 28, 171, 35, 138, 188, 21, 209, 13, 4, 69, 99, 38, 111, 225, 213, 233, 7, 152, 13, 83, 208, 184], [.i .i64 64, .i .i64 2]]), .b true])
noncomputable def seg4v20 : V := .tup ([.i .i64 3, .i .i64 0])
noncomputable def seg4v6 : V := .i .i64 3
noncomputable def seg4v18 : V := .i .i64 2
noncomputable def seg4v26 : V := .i .i64 16
noncomputable def seg4v14 : V := .agg (catV [[.i .i64 28, .i .i64 976], B8 [221, 79, 10, 189, 0, 242, 54, 90, 6, 214, 28, 171, 35, 138, 188, 21, 209, 13, 4, 69, 99, 38, 111, 225, 213, 233, 7, 152, 13, 83, 208, 184], [.i .i64 64, .i .i64 2]])
noncomputable def seg4v22 : V := .tup ([.i .i64 3, .i .i64 0])
noncomputable def seg4t : T V := .n (some seg4v0) (.n (some seg4v1) (.n (some seg4v3) (.n (some seg4v7) (.n (some seg4v15) (.l) (.l)) (.n (some seg4v23) (.l) (.l))) (.n (some seg4v11) (.n (some seg4v19) (.l) (.l)) (.l))) (.n (some seg4v5) (.n none (.n (some seg4v17) (.l) (.l)) (.n (some seg4v25) (.l) (.l))) (.n (some seg4v13) (.n (some seg4v21) (.l) (.l)) (.l)))) (.n (some seg4v2) (.n (some seg4v4) (.n (some seg4v8) (.n (some seg4v16) (.l) (.l)) (.n (some seg4v24) (.l) (.l))) (.n (some seg4v12) (.n (some seg4v20) (.l) (.l)) (.l))) (.n (some seg4v6) (.n none (.n (some seg4v18) (.l) (.l)) (.n (some seg4v26) (.l) (.l))) (.n (some seg4v14) (.n (some seg4v22) (.l) (.l)) (.l))))
noncomputable def seg4m : Mem := ⟨2822, .n none (.n none (.n none (.n none (.l) (.n none (.l) (.n none (.n none (.n (some seg4o151) (.l) (.n none (.l) (.n none (.l) (.n (some seg4o1943) (.l) (.l))))) (.l)) (.l)))) (.l)) (.n none (.n none (.n none (.l) (.n none (.n none (.n (some seg4o145) (.l) (.l)) (.l)) (.l))) (.n none (.l) (.n none (.n none (.n (some seg4o153) (.l) (.l)) (.l)) (.l)))) (.l))) (.n none (.n none (.n none (.l) (.n none (.l) (.n none (.n none (.n (some seg4o152) (.l) (.l)) (.l)) (.l)))) (.n none (.n (some seg4o20) (.l) (.l)) (.l))) (.n none (.n none (.n none (.n none (.l) (.n none (.n none (.l) (.n none (.l) (.n none (.l) (.n (some seg4o1954) (.l) (.l))))) (.l))) (.l)) (.l)) (.l)))⟩
noncomputable def seg4 : SB := ⟨seg4t, seg4m, 8⟩
noncomputable def bodyA : Code := bodyOf Tryz.f5
end Go.Am.R2
