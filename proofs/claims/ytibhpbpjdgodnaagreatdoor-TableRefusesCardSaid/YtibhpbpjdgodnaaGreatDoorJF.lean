/- Parts of one machine and of the walks over it, joined: K67 K73 K74 K68 K70. -/
import Derived.Test.YtibhpbpjdgodnaaGreatDoorJE
import Derived.Test.YtibhpbpjdgodnaaGreatDoorAmMapR
import Derived.Test.YtibhpbpjdgodnaaGreatDoorJG2
import Derived.Test.YtibhpbpjdgodnaaGreatDoorJG
import Derived.Test.YtibhpbpjdgodnaaGreatDoorJG3
import Derived.Test.YtibhpbpjdgodnaaGreatDoorAmIter2
/- The fast machine at sums: it is sound. -/
namespace Go.Am.R2
open Go.Proofs
set_option maxRecDepth 100000
set_option linter.unusedSimpArgs false
set_option linter.unusedVariables false
theorem fnK_eq : fnK = mkF Tryz.prog fnL := by kernel_rfl
theorem glob_eq : globB = globT := by
  funext g
  cases g with
  | zero => rfl
  | succ g => cases g with
    | zero => rfl
    | succ g => simp [globB, globT]
theorem glob_cln : ∀ g cs, globB g = some cs → V.cleanL true cs = true := by
  intro g cs h
  unfold globB at h
  split at h <;> cases h
  · exact cleanL_ints _
  · exact cleanL_ints _
theorem callOk (k : Nat) : CallOk cfg (runA cfg k) := run_sound prims fns (draw_sound mixed prims.still) k
theorem primAtS : ∀ f g, primS f = some g → PrimAt cfgS f g := by
  intro f g h
  unfold primS at h
  have hg : ∀ g cs, cfg.glob g = some cs → V.cleanL true cs = true := fun g cs h => glob_cln g cs (by rw [glob_eq]; exact h)
  split at h
  · rename_i e
    cases Nat.eq_of_beq_eq_true e
    cases h
    refine primAt_frz (C := cfg) (C' := cfgS) callOk hg rfl glob_eq fun args σ v hv => ?_
    unfold pRot at hv
    split at hv
    · rename_i x k
      split at hv
      · rename_i hx
        split at hv
        · rename_i s hs
          cases hv
          obtain ⟨k, hk⟩ := runF_some (rot_ok (σ := []) (p := []) x (blt_true hx) _ s hs)
          exact ⟨k, [], _, hk, rfl, rfl, fun _ _ _ h => h⟩
        · cases hv
      · cases hv
    · cases hv
  · split at h
    · rename_i e
      cases Nat.eq_of_beq_eq_true e
      cases h
      refine primAt_frz (C := cfg) (C' := cfgS) callOk hg rfl glob_eq fun args σ v hv => ?_
      unfold pMix at hv
      split at hv
      · rename_i x a b c
        split at hv
        · rename_i hx
          split at hv
          · rename_i a' b' c' ha hb hc
            cases hv
            obtain ⟨k, hk⟩ := runF_some (mixed_ok (σ := []) (p := []) x (blt_true hx) _ _ _ a' b' c' ha hb hc)
            exact ⟨k, [], _, hk, rfl, rfl, fun _ _ _ h => h⟩
          · cases hv
        · cases hv
      · cases hv
    · cases h
theorem clip_ok {σ : List O} {p : List Nat} {args : List V} {v : V} (h : pClip args = some v) : runF cfg 141 args σ p = some (v, σ) := by
  unfold pClip at h
  split at h <;> cases h
  · rename_i r st o cap
    refine run_done rfl rfl Tryz.func141 rfl ?_
    have l1 := fun τ => len_sl (C := cfg) (σ := τ) (r := r) (st := st) (o := o) (n := 0) (es := 129) (cap := cap) sh32
    have s1 : sliceA cfg 32 (.sl r st o 0 129 cap) none (some (.i .i64 0)) (some (.i .i64 0)) = some (.arr [] 0 true) := by
      simp [sliceA, sh32, sz132, bnd]
    simp +contextual (disch := first | omega | exact rfl | decide | exact kpF (by decide) | exact kpT (by decide) | assumption | exact Z2z | exact Z30 | exact Z32 | exact Z31 | exact Z33 | exact Z34 | (simp only [ZI] <;> omega) | simp only [ZK] | (simp only [ZL] <;> assumption)) only [Tryz.f141, ZH, SOp, GOp, ↓Z1c, Int.reduceAdd, Int.reduceSub, Int.reduceMul, Int.reduceNeg, accs, touch, touchM, okPair, Nat.reduceAdd, Nat.reduceLeDiff, Nat.reduceMul, Nat.reduceSub, isV, opA, grdO, grd, Z41, Int.reduceLT, Int.reduceLE, Int.reduceToNat, builtinP, builtinA, changes, fieldAddrA, resA, tupled, ↓reduceIte, Nat.reduceEqDiff, Nat.reduceLT, Z70, Int.reduceEq, Y3, Y32, Y47, Y132, l1, s1, Int.natCast_zero]
  · rename_i r st o n cap
    refine run_done rfl rfl Tryz.func141 rfl ?_
    have l1 := fun τ => len_sl (C := cfg) (σ := τ) (r := r) (st := st) (o := o) (n := n + 1) (es := 129) (cap := cap) sh32
    have s1 : sliceA cfg 32 (.sl r st o (n + 1) 129 cap) none (some (.i .i64 ((n + 1 : Nat) : Int))) (some (.i .i64 ((n + 1 : Nat) : Int))) = some (.sl r st o (n + 1) 129 (some (n + 1))) := by
      simp only [sliceA, sh32, sz132, Option.bind_some, ne_eq, not_true_eq_false, if_false, bnd, Int.natCast_zero, Int.natCast_nonneg, if_true, Int.le_refl, Int.toNat_natCast, Nat.zero_lt_succ, Nat.zero_mul, Nat.add_zero, Nat.sub_zero]
    have hf : freeze σ.length σ (.sl r st o (n + 1) 129 (some (n + 1))) = .sl r st o (n + 1) 129 (some (n + 1)) := by
      simp only [freeze, freezeC, freeze1]
      split
      · rename_i hr
        have : rowAt σ r st = none := by simp [rowAt, List.getElem?_eq_none hr]
        rw [this]
      · rfl
    simp +contextual (disch := first | omega | exact rfl | decide | exact kpF (by decide) | exact kpT (by decide) | assumption | exact Z2z | exact Z30 | exact Z32 | exact Z31 | exact Z33 | exact Z34 | (simp only [ZI] <;> omega) | simp only [ZK] | (simp only [ZL] <;> assumption)) only [Tryz.f141, ZH, SOp, GOp, ↓Z1c, Int.reduceAdd, Int.reduceSub, Int.reduceMul, Int.reduceNeg, accs, touch, touchM, okPair, Nat.reduceAdd, Nat.reduceLeDiff, Nat.reduceMul, Nat.reduceSub, isV, opA, grdO, grd, Z41, Int.reduceLT, Int.reduceLE, Int.reduceToNat, builtinP, builtinA, changes, fieldAddrA, resA, tupled, ↓reduceIte, Nat.reduceEqDiff, Nat.reduceLT, Z70, Int.reduceEq, Y3, Y32, Y47, Y132, l1, s1, hf]
  · refine run_done rfl rfl Tryz.func141 rfl ?_
    have l1 := fun τ => len_nils (C := cfg) (σ := τ) sh32
    have s1 : sliceA cfg 32 .nils none (some (.i .i64 0)) (some (.i .i64 0)) = some .nils := by
      simp [sliceA, sh32, sz132, bnd]
    simp +contextual (disch := first | omega | exact rfl | decide | exact kpF (by decide) | exact kpT (by decide) | assumption | exact Z2z | exact Z30 | exact Z32 | exact Z31 | exact Z33 | exact Z34 | (simp only [ZI] <;> omega) | simp only [ZK] | (simp only [ZL] <;> assumption)) only [Tryz.f141, ZH, SOp, GOp, ↓Z1c, Int.reduceAdd, Int.reduceSub, Int.reduceMul, Int.reduceNeg, accs, touch, touchM, okPair, Nat.reduceAdd, Nat.reduceLeDiff, Nat.reduceMul, Nat.reduceSub, isV, opA, grdO, grd, Z41, Int.reduceLT, Int.reduceLE, Int.reduceToNat, builtinP, builtinA, changes, fieldAddrA, resA, tupled, ↓reduceIte, Nat.reduceEqDiff, Nat.reduceLT, Z70, Int.reduceEq, Y3, Y32, Y47, Y132, l1, s1]
  · rename_i cs n c
    refine run_done rfl rfl Tryz.func141 rfl ?_
    have l1 := fun τ => len_arr (C := cfg) (σ := τ) (cs := cs) (n := n) (cl := c) sh32
    have s1 : sliceA cfg 32 (.arr cs n c) none (some (.i .i64 (n : Int))) (some (.i .i64 (n : Int))) = some (.arr (cs.take (n * 129)) n true) := by
      simp [sliceA, sh32, sz132, bnd]
    simp +contextual (disch := first | omega | exact rfl | decide | exact kpF (by decide) | exact kpT (by decide) | assumption | exact Z2z | exact Z30 | exact Z32 | exact Z31 | exact Z33 | exact Z34 | (simp only [ZI] <;> omega) | simp only [ZK] | (simp only [ZL] <;> assumption)) only [Tryz.f141, ZH, SOp, GOp, ↓Z1c, Int.reduceAdd, Int.reduceSub, Int.reduceMul, Int.reduceNeg, accs, touch, touchM, okPair, Nat.reduceAdd, Nat.reduceLeDiff, Nat.reduceMul, Nat.reduceSub, isV, opA, grdO, grd, Z41, Int.reduceLT, Int.reduceLE, Int.reduceToNat, builtinP, builtinA, changes, fieldAddrA, resA, tupled, ↓reduceIte, Nat.reduceEqDiff, Nat.reduceLT, Z70, Int.reduceEq, Y3, Y32, Y47, Y132, l1, s1]
theorem stillAt {C' : Cfg} (hP : C'.P = cfg.P) (hG : C'.glob = cfg.glob) : ∀ f g, stT f = some g → CallOkAt C' f fun args σ p => (g args).map fun v => (v, σ) := by
  intro f g h
  unfold stT at h
  split at h
  · rename_i e
    cases Nat.eq_of_beq_eq_true e
    cases h
    intro B0 args σ p v σ' hv
    simp only [Option.map_eq_some_iff, Prod.mk.injEq] at hv
    obtain ⟨v', hv, rfl, rfl⟩ := hv
    obtain ⟨k, hk⟩ := runF_some (clip_ok (σ := σ) (p := p) hv)
    exact (callOk k).at hP.symm hG.symm 141 B0 args σ p v' σ hk
  · cases h
theorem primsS : PrimOk cfgS := { v := primOk_of primAtS, m := (fun f g h => by cases h), hook := hook_none fun _ _ => rfl, still := stillAt rfl glob_eq }
theorem fnsS : fnsOk cfgS = true := by decide +kernel
theorem mixedS : cfgS.P.follows .mixedOrders = true := mixed
theorem callOkS (k : Nat) : CallOk cfgS (runA cfgS k) := run_sound primsS fnsS (draw_sound mixedS primsS.still) k
theorem tokS : tyK = mkK cfgS tyL := by kernel_rfl
theorem dokS : DOk cfgS DS where
  ty := tok_of tokS
  glob _ := rfl
  cls _ _ := rfl
  hook _ _ := rfl
  pre _ _ := rfl
  still _ := rfl
  fn f fn h1 h2 := by
    have h2 : fnK.getB f = some fn := h2
    rw [fnK_eq] at h2
    obtain ⟨h3, h4⟩ := mkF_ok h2
    have h1 : primSB f = none := h1
    refine ⟨?_, rfl, ?_, h4, fun p => ?_⟩
    · show primS f = none
      unfold primS
      unfold primSB at h1
      split at h1
      · cases h1
      · rename_i e
        split at h1
        · cases h1
        · rename_i e2
          simp only [e, e2]
    · show barS f = false
      unfold barS
      rw [List.contains_iff_mem.2 h3]; rfl
    · show (!(f == 138)) = true
      have : ∀ f ∈ fnL, (!(f == 138)) = true := by decide +kernel
      exact this f h3
  iter f it h := by cases h
  prim f g h := by
    have h : primSB f = some g := h
    unfold primSB at h
    split at h
    · rename_i e
      cases h
      exact ⟨fun a _ => pRot a, (by show primS f = _; unfold primS; rw [e]), fun args m σ v _ hv => hv⟩
    · rename_i e
      split at h
      · rename_i e2
        cases h
        exact ⟨fun a _ => pMix a, (by show primS f = _; unfold primS; rw [e, e2]), fun args m σ v _ hv => hv⟩
      · cases h
theorem sumA {k : Nat} {ns o : List Nat} {n : Nat} (h : yesV (rootV DS k 138 Tryz.f138 [.arr (ints .u8 (ns.map Int.ofNat)) n false] [0]) (.agg (ints .u8 (o.map Int.ofNat))) = true) :
    runA cfgS (k + 1) 138 [.arr (ints .u8 (ns.map Int.ofNat)) n false] [] [0] = some (.agg (ints .u8 (o.map Int.ofNat)), []) :=
  rootV_sound dokS (yesV_eq h) (by simp only [V.clean]; exact cleanL_ints _) (by kernel_rfl) rfl (by decide +kernel) Tryz.func138 rfl rfl
end Go.Am.R2

/- A node's bytes: told by trying all orders of its map. -/
namespace Go.Am.R2
open Go.Proofs
set_option maxRecDepth 100000
set_option linter.unusedSimpArgs false
set_option linter.unusedVariables false
noncomputable def b81 : Code := bodyOf Tryz.f81
noncomputable def z81 : Code := sR (sR (sR b81))
noncomputable def y81 : Code := sL z81
noncomputable def l81 : Code := bIn (bIn (sR y81))
noncomputable def k81 : Code := bIn (sR (sR l81))
noncomputable def q81 : RangeF where
  pre := [sL b81, sL (sR b81), sL (sR (sR b81))]
  r4 := 4
  om := (rOps (sL y81)).headD op0
  dm := 11
  l := (rOps (sL y81)).tail.dropLast
  og := (rOps (sL y81)).getLastD op0
  dr := 20
  tx := .tmp 19
  q := { it := 20, d1 := 21, tc := 22, d2 := 23, b0 := 0, b1 := 1, r1 := 5, r2 := 6, o1 := (rOps (sL l81)).headD op0, o2 := (rOps (sL k81)).headD op0, rest1 := (rOps (sL l81)).tail, rest2 := (rOps (sL k81)).tail, body := sR k81 }
  Z := sR z81
theorem body81 : Tryz.f81.body = some q81.code := by kernel_rfl
theorem sh153 : cfg.shape 153 = .map 3 3 := by kernel_rfl
noncomputable def node3 : V := .agg (ints .i64 [3, 2, 0, -1, -1] ++ ints .u8 (List.replicate 32 0) ++ ints .i64 [0, 2])
noncomputable def byts3 : V := .tup [.agg (ints .u8 ([2, 0, 2, 0, 0, 0, 0, 0] ++ List.replicate 8 255 ++ List.replicate 48 0)), .i .i64 0]
theorem chk3 : q81.chk cfg (runA cfg 100) 81 [0] 100 [node3] Tryz.f81.results.toList (max 1 Tryz.f81.ntmps) byts3 = true := by decide +kernel
end Go.Am.R2

/- A node's bytes: the contract. -/
namespace Go.Am.R2
open Go.Proofs
set_option maxRecDepth 100000
set_option linter.unusedSimpArgs false
set_option linter.unusedVariables false
theorem call81_ok : CallOk cfg (callT 81 [([node3], byts3)]) := by
  intro B0 f args σ p v σ' h M w cargs hM hg hargs hm hs
  unfold callT at h
  split at h
  case isFalse => cases h
  rename_i hc
  obtain ⟨rfl, rfl, rfl⟩ := hc
  simp only [List.find?_cons, List.find?_nil] at h
  split at h
  case h_2 => cases h
  rename_i he
  have ha := V.eqbL_eq he
  subst ha
  simp only [Option.map_some, Option.some.injEq, Prod.mk.injEq] at h
  obtain ⟨rfl, rfl⟩ := h
  refine ⟨_, w, M, run_callFunc (by decide +kernel) Tryz.func81 body81 _ w, Ext.refl _ _ _, hM, rfl, .inr ⟨rfl, ?_⟩⟩
  exact range_fun (q := q81) (n := 100) (t0 := 153) (t := 153) (kt := 3) (et := 3) (tyA := 153) (tyB := 0) (ty1 := 0) (ty2 := 0) (posA := "inode.go:49") (posB := "inode.go:49") (pos1 := "inode.go:49") (pos2 := "inode.go:49") (afA := #[]) (afB := #[{ on := 11, ground := .data }]) (af1 := #[]) (af2 := #[])
    (callOk 100) (draw_sound mixed prims.still) prims.hook prims.iter Tryz.func81 body81 (by decide +kernel) (by decide +kernel) (by decide +kernel) (by decide +kernel) (by kernel_rfl) (by kernel_rfl) sh153 (by kernel_rfl) (by kernel_rfl) chk3 hM hg hargs hm
noncomputable def pInA (args : List V) : Option V := match args with
  | [x] => (match V.eqb x node3 with | true => some byts3 | false => none)
  | _ => none
theorem glob_clnK : ∀ g cs, cfg.glob g = some cs → V.cleanL true cs = true := fun g cs h => glob_cln g cs (by rw [glob_eq]; exact h)
theorem primAt81 {C' : Cfg} (hP : C'.P = cfg.P) (hG : C'.glob = cfg.glob) : PrimAt C' 81 fun args _ => pInA args := by
  intro B0 args σ p v hv
  have hv : pInA args = some v := hv
  unfold pInA at hv
  split at hv
  case h_2 => cases hv
  rename_i x
  split at hv
  case h_2 => cases hv
  rename_i he
  have hx := V.eqb_eq he
  subst hx
  cases hv
  exact prim_frz call81_ok (f := 81) (args0 := [node3]) (p0 := [0]) (v := byts3) (by unfold callT; rw [if_pos ⟨rfl, rfl, rfl⟩]; kernel_rfl) (by decide +kernel) (by decide +kernel) glob_clnK hP hG (fun M w ys h => h)
end Go.Am.R2

/- The fast machine at the sheet's own question: what it stands on. -/
namespace Go.Am.R2
open Go.Proofs
set_option maxRecDepth 100000
set_option linter.unusedSimpArgs false
set_option linter.unusedVariables false
noncomputable def eqN : List Nat → List Nat → Bool
  | [], [] => true
  | a :: l, b :: m => match Nat.beq a b with | true => eqN l m | false => false
  | _, _ => false
theorem eqN_eq : ∀ {l m : List Nat}, eqN l m = true → l = m
  | [], [], _ => rfl
  | a :: l, b :: m, h => by
    unfold eqN at h
    split at h
    · rename_i e; rw [Nat.eq_of_beq_eq_true e, eqN_eq h]
    · cases h
  | [], _ :: _, h => by simp [eqN] at h
  | _ :: _, [], h => by simp [eqN] at h
noncomputable def sumQ (ns : List Nat) : Option V := match eqN ns in0 with | true => some (.agg (ints .u8 (out0.map Int.ofNat))) | false => (match eqN ns in1 with | true => some (.agg (ints .u8 (out1.map Int.ofNat))) | false => (match eqN ns in2 with | true => some (.agg (ints .u8 (out2.map Int.ofNat))) | false => (match eqN ns in3 with | true => some (.agg (ints .u8 (out3.map Int.ofNat))) | false => (match eqN ns in4 with | true => some (.agg (ints .u8 (out4.map Int.ofNat))) | false => (match eqN ns in5 with | true => some (.agg (ints .u8 (out5.map Int.ofNat))) | false => (match eqN ns in6 with | true => some (.agg (ints .u8 (out6.map Int.ofNat))) | false => (match eqN ns in7 with | true => some (.agg (ints .u8 (out7.map Int.ofNat))) | false => none)))))))
noncomputable def maxN : List Nat → Nat → Nat
  | [], m => m
  | a :: l, m => match Nat.blt m a with | true => maxN l a | false => maxN l m
noncomputable def maxQ (ns : List Nat) : Option V :=
  match ns with
  | [] => none
  | a :: l => match Nat.ble (lenN l) 4000 with | true => forceN (maxN l a) fun m => some (.i .u8 (.ofNat m)) | false => none
noncomputable def usedN : List Nat → Nat → Option Nat
  | [], k => some k
  | 0 :: l, k => usedN l k
  | 1 :: l, k => usedN l (Nat.succ k)
  | 2 :: l, k => usedN l (Nat.succ k)
  | 3 :: l, k => usedN l k
  | 4 :: l, k => usedN l k
  | _, _ => none
noncomputable def usedQ (a b n : Nat) (ns : List Nat) : Option V :=
  match Nat.ble 1 n && (Nat.ble n 2000 && (Nat.beq (lenN ns) (2 * n) && (Nat.ble (a + n) b && Nat.ble (b + n) 4096))) with
  | true => (match usedN ns 0 with | some k => forceN k fun k => some (.i .i64 (.ofNat k)) | none => none)
  | false => none
noncomputable def pSumA (args : List V) (σ : List O) : Option V := match args with | [x] => on1 sumQ x (elems 1 σ x) | _ => none
noncomputable def pSumB (args : List V) (m : Mem) : Option V := match args with | [x] => on1 sumQ x (elemsB 1 m x) | _ => none
noncomputable def pMaxA (args : List V) (σ : List O) : Option V := match args with | [x] => on1 maxQ x (elems 1 σ x) | _ => none
noncomputable def pMaxB (args : List V) (m : Mem) : Option V := match args with | [x] => on1 maxQ x (elemsB 1 m x) | _ => none
noncomputable def pUsedA (args : List V) (σ : List O) : Option V := match args with | [.agg [.i .i64 (.ofNat a), .i .i64 (.ofNat b), .i .i64 (.ofNat n), x]] => on1 (usedQ a b n) x (elems 1 σ x) | _ => none
noncomputable def pUsedB (args : List V) (m : Mem) : Option V := match args with | [.agg [.i .i64 (.ofNat a), .i .i64 (.ofNat b), .i .i64 (.ofNat n), x]] => on1 (usedQ a b n) x (elemsB 1 m x) | _ => none
noncomputable def find1 (c : Nat) : List Nat → Nat → Option Int
  | [], _ => some (.negSucc 0)
  | n :: l, i => match Nat.blt n 256 with | true => (match Nat.beq n c with | true => some (.ofNat i) | false => find1 c l (Nat.succ i)) | false => none
noncomputable def pIdxB (args : List V) (m : Mem) : Option V := match args with
  | [.s _, _] => none
  | [x, .i .u8 (.ofNat c)] => (match elemsB 1 m x with
    | some (_, cs) => (match u8n cs with
      | some ns => (match Nat.blt c 256 with | true => (match find1 c ns 0 with | some n => some (.i .i64 n) | none => none) | false => none)
      | none => none)
    | none => none)
  | _ => none
theorem find1_ok {c : Nat} (hc : c < 256) : ∀ {ns : List Nat} {i : Nat} {r : Int}, find1 c ns i = some r →
    (r = -1 ∧ Lib.indexByte (ns.map UInt8.ofNat) (UInt8.ofNat c) = -1) ∨ ∃ j : Nat, r = i + j ∧ Lib.indexByte (ns.map UInt8.ofNat) (UInt8.ofNat c) = j
  | [], i, r, h => by cases h; exact .inl ⟨rfl, rfl⟩
  | n :: l, i, r, h => by
    unfold find1 at h
    split at h
    case h_2 => cases h
    rename_i hn
    have hn := blt_true hn
    simp only [List.map_cons, Lib.indexByte]
    have he : (UInt8.ofNat n == UInt8.ofNat c) = decide (n = c) := by
      rw [Bool.eq_iff_iff, beq_iff_eq, decide_eq_true_eq]
      constructor
      · intro e
        have := congrArg UInt8.toNat e
        simp only [UInt8.toNat_ofNat'] at this
        omega
      · rintro rfl; rfl
    rw [he]
    split at h
    · rename_i e
      cases h
      rw [decide_eq_true (Nat.eq_of_beq_eq_true e)]
      exact .inr ⟨0, by simp, by simp⟩
    · rename_i e
      have hne : n ≠ c := by rintro rfl; simp at e
      rw [decide_eq_false hne]
      rcases find1_ok hc h with ⟨h1, h2⟩ | ⟨j, h1, h2⟩
      · refine .inl ⟨h1, ?_⟩
        rw [h2]; rfl
      · refine .inr ⟨j + 1, by omega, ?_⟩
        rw [h2]
        have : ((j : Int) == -1) = false := by simp
        simp only [this, Bool.false_eq_true, if_false]; push_cast; rfl
theorem on1_mono {q : List Nat → Option V} {x : V} {m : Mem} {σ : List O} {v : V} (hm : MB m σ) (h : on1 q x (elemsB 1 m x) = some v) : on1 q x (elems 1 σ x) = some v := by
  unfold on1 at h ⊢
  split at h
  case h_2 => cases h
  rename_i hr
  split at h
  case h_2 => cases h
  rename_i n cs he
  rw [elemsB_sound hm he]
  exact h
noncomputable def primE (f : Nat) : Option (List V → List O → Option V) :=
  match Nat.beq f 138 with | true => some pSumA | false => (match Nat.beq f 188 with | true => some pIdxS | false => (match Nat.beq f 39 with | true => some pUsedA | false => (match Nat.beq f 170 with | true => some pMaxA | false => (match Nat.beq f 81 with | true => some (fun a _ => pInA a) | false => none))))
noncomputable def primEB (f : Nat) : Option (List V → Mem → Option V) :=
  match Nat.beq f 138 with | true => some pSumB | false => (match Nat.beq f 188 with | true => some pIdxB | false => (match Nat.beq f 39 with | true => some pUsedB | false => (match Nat.beq f 170 with | true => some pMaxB | false => (match Nat.beq f 81 with | true => some (fun a _ => pInA a) | false => none))))
noncomputable def itA (f : Nat) : Option (List V → List O → Option (List Nat × List (List V))) := match Nat.beq f 195 with | true => some (backA 129) | false => (match Nat.beq f 106 with | true => some piecesA | false => none)
noncomputable def itB (f : Nat) : Option (List V → Mem → Option (List Nat × List (List V))) := match Nat.beq f 195 with | true => some (backB 129) | false => (match Nat.beq f 106 with | true => some piecesB | false => none)
noncomputable def DE : CB := ⟨tyK, primEB, globB, fnK, clsK, itB, preK, stT⟩
def barE (top f : Nat) : Bool := !(fnL.contains f || f == top)
noncomputable def cfgE (top : Nat) : Cfg := { P := Tryz.prog, bar := barE top, cls := clsB DE, pre := preB DE, prim := primE, still := stT, iter := itA, glob := globB, keep := fun f _ => !(f == top) }
theorem fnsE7 : fnsOk (cfgE 7) = true := by decide +kernel
theorem fnsE24 : fnsOk (cfgE 24) = true := by decide +kernel
theorem fnsE30 : fnsOk (cfgE 30) = true := by decide +kernel
end Go.Am.R2

/- The sheet's own question is answered yes. -/
namespace Go.Am.R2
open Go.Proofs
set_option maxRecDepth 100000
set_option linter.unusedSimpArgs false
set_option linter.unusedVariables false
theorem rowy_frz {q : List Nat → Option V} {x : V} {σ : List O} {v : V} (h : on1 q x (elems 1 σ x) = some v) : ∃ ns cl, q ns = some v ∧ freezeC 0 σ x = .arr (ints .u8 (ns.map Int.ofNat)) ns.length cl ∧ freeze1 0 σ 4 x = .arr (ints .u8 (ns.map Int.ofNat)) ns.length cl := by
  obtain ⟨ns, cl, h1, h2⟩ := on1_some h
  refine ⟨ns, cl, h1, ?_, h2 3⟩
  have hr : rowy x = true := by
    unfold on1 at h
    split at h
    · assumption
    · cases h
  cases x <;> simp only [rowy, Bool.false_eq_true] at hr <;> exact h2 3
theorem sumT {ns : List Nat} {v : V} (h : sumQ ns = some v) : ∃ k, runA cfgS k 138 [.arr (ints .u8 (ns.map Int.ofNat)) ns.length false] [] [0] = some (v, []) ∧ v.clean false = true := by
  have hc : ∀ l, (V.agg (ints .u8 l)).clean false = true := fun l => by simp only [V.clean]; exact cleanL_ints _
  unfold sumQ at h
  split at h
  · rename_i e
    have e := eqN_eq e
    subst e
    have e := Option.some.inj h
    subst e
    refine ⟨201, ?_, hc _⟩
    rw [show in0.length = 96 from by decide +kernel]
    exact sumA sum0_run
  split at h
  · rename_i e
    have e := eqN_eq e
    subst e
    have e := Option.some.inj h
    subst e
    refine ⟨201, ?_, hc _⟩
    rw [show in1.length = 128 from by decide +kernel]
    exact sumA sum1_run
  split at h
  · rename_i e
    have e := eqN_eq e
    subst e
    have e := Option.some.inj h
    subst e
    refine ⟨201, ?_, hc _⟩
    rw [show in2.length = 128 from by decide +kernel]
    exact sumA sum2_run
  split at h
  · rename_i e
    have e := eqN_eq e
    subst e
    have e := Option.some.inj h
    subst e
    refine ⟨201, ?_, hc _⟩
    rw [show in3.length = 128 from by decide +kernel]
    exact sumA sum3_run
  split at h
  · rename_i e
    have e := eqN_eq e
    subst e
    have e := Option.some.inj h
    subst e
    refine ⟨201, ?_, hc _⟩
    rw [show in4.length = 128 from by decide +kernel]
    exact sumA sum4_run
  split at h
  · rename_i e
    have e := eqN_eq e
    subst e
    have e := Option.some.inj h
    subst e
    refine ⟨201, ?_, hc _⟩
    rw [show in5.length = 128 from by decide +kernel]
    exact sumA sum5_run
  split at h
  · rename_i e
    have e := eqN_eq e
    subst e
    have e := Option.some.inj h
    subst e
    refine ⟨201, ?_, hc _⟩
    rw [show in6.length = 128 from by decide +kernel]
    exact sumA sum6_run
  split at h
  · rename_i e
    have e := eqN_eq e
    subst e
    have e := Option.some.inj h
    subst e
    refine ⟨201, ?_, hc _⟩
    rw [show in7.length = 128 from by decide +kernel]
    exact sumA sum7_run
  · cases h
theorem maxN_eq : ∀ (l : List Nat) (m : Nat), ((maxN l m : Nat) : Int) = (l.map Int.ofNat).foldl (fun m q => if m < q then q else m) (m : Int)
  | [], m => rfl
  | a :: l, m => by
    unfold maxN
    rw [List.map_cons, List.foldl_cons]
    split
    · rename_i h
      have h := blt_true h
      rw [maxN_eq l a, if_pos (show (m : Int) < Int.ofNat a by simp; exact h)]
      rfl
    · rename_i h
      have h : ¬ m < a := bltN (by rw [h]; decide)
      rw [maxN_eq l m, if_neg (show ¬ (m : Int) < Int.ofNat a by simp; omega)]
theorem maxT {ns : List Nat} {v : V} {cl : Bool} (h : maxQ ns = some v) : ∃ k, runA cfg k 170 [.arr (ints .u8 (ns.map Int.ofNat)) ns.length cl] [] [] = some (v, []) ∧ v.clean false = true := by
  unfold maxQ at h
  split at h
  · cases h
  rename_i a l
  split at h
  · rename_i hl
    rw [forceN_eq] at h
    cases h
    have hl := Nat.le_of_ble_eq_true hl
    rw [lenN_eq] at hl
    have hv : ∀ σ, View σ (.arr (ints .u8 ((a :: l).map Int.ofNat)) (a :: l).length cl) (ints .u8 ((a :: l).map Int.ofNat)) := fun σ => by
      have := View.ints σ .u8 ((a :: l).map Int.ofNat) cl
      rwa [List.length_map] at this
    obtain ⟨k, hk⟩ := runF_some (maxx_ok (σ := []) (p := []) ((a :: l).map Int.ofNat) (by simp) (by simp; omega) hv)
    refine ⟨k, ?_, rfl⟩
    rw [hk]
    have : (maxI ((a :: l).map Int.ofNat)) = Int.ofNat (maxN l a) := (maxN_eq l a).symm
    rw [this]
  · cases h
theorem usedN_eq : ∀ {ns : List Nat} {k r : Nat}, usedN ns k = some r → (∀ x ∈ ns, x ≤ 4) ∧ r = k + ((ns.map Int.ofNat).filter usedB).length
  | [], k, r, h => by cases h; exact ⟨fun x hx => (by cases hx), rfl⟩
  | a :: ns, k, r, h => by
    have step : ∀ (b : Nat) (k' : Nat), b ≤ 4 → usedN ns k' = some r → k' + ((ns.map Int.ofNat).filter usedB).length = k + (((b :: ns).map Int.ofNat).filter usedB).length → (∀ x ∈ b :: ns, x ≤ 4) ∧ r = k + (((b :: ns).map Int.ofNat).filter usedB).length := by
      intro b k' hb h e
      obtain ⟨h1, h2⟩ := usedN_eq h
      refine ⟨fun x hx => ?_, by rw [h2, e]⟩
      cases hx with
      | head => exact hb
      | tail _ hx => exact h1 x hx
    match a, h with
    | 0, h => exact step 0 k (by decide) h (by simp [usedB])
    | 1, h => exact step 1 (Nat.succ k) (by decide) h (by simp [usedB]; omega)
    | 2, h => exact step 2 (Nat.succ k) (by decide) h (by simp [usedB]; omega)
    | 3, h => exact step 3 k (by decide) h (by simp [usedB])
    | 4, h => exact step 4 k (by decide) h (by simp [usedB])
    | n + 5, h => simp [usedN] at h
theorem usedT {a b n : Nat} {ns : List Nat} {v : V} {cl : Bool} (h : usedQ a b n ns = some v) : ∃ k, runA cfg k 39 [.agg [.i .i64 (.ofNat a), .i .i64 (.ofNat b), .i .i64 (.ofNat n), .arr (ints .u8 (ns.map Int.ofNat)) ns.length cl]] [] [] = some (v, []) ∧ v.clean false = true := by
  unfold usedQ at h
  split at h
  case h_2 => cases h
  rename_i hc
  simp only [Bool.and_eq_true] at hc
  obtain ⟨c1, c2, c3, c4, c5⟩ := hc
  have c1 := Nat.le_of_ble_eq_true c1
  have c2 := Nat.le_of_ble_eq_true c2
  have c3 := Nat.eq_of_beq_eq_true c3
  have c4 := Nat.le_of_ble_eq_true c4
  have c5 := Nat.le_of_ble_eq_true c5
  rw [lenN_eq] at c3
  split at h
  case h_2 => cases h
  rename_i k hk
  rw [forceN_eq] at h
  obtain ⟨u1, u2⟩ := usedN_eq hk
  obtain ⟨S, hS⟩ : ∃ S : SpaceR, S = ⟨.ofNat a, .ofNat b, .ofNat n, .arr (ints .u8 (ns.map Int.ofNat)) ns.length cl, ns.map Int.ofNat⟩ := ⟨_, rfl⟩
  have ok : S.ok := by
    rw [hS]
    refine ⟨⟨by rw [ints_len]; simp, .inr ⟨cl, by simp⟩⟩, fun x hx => ?_, by simp; omega⟩
    obtain ⟨y, hy, rfl⟩ := List.mem_map.1 hx
    have := u1 y hy
    simp; omega
  have hB : spaceB S = true := by
    rw [hS, spaceB_iff]
    refine ⟨by simp; omega, by simp; omega, by simp; omega, by simp, by simp; omega, by simp; omega, ?_⟩
    rw [List.all_eq_true]
    intro x hx
    obtain ⟨y, hy, rfl⟩ := List.mem_map.1 hx
    have := u1 y hy
    simp; omega
  have hU : usedI S = (k : Int) := by
    unfold usedI
    rw [if_pos hB, u2, hS]; simp
  obtain ⟨j, hj⟩ := runF_some (used7_ok (σ := []) (p := []) S ok)
  cases h
  refine ⟨j, ?_, rfl⟩
  rw [hU, hS] at hj
  exact hj
end Go.Am.R2
