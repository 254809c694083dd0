/- Parts of one machine and of the walks over it, joined: K69 K70 K71 M0. -/
import Derived.Test.YtibhpbpjdgodnaaGreatDoorJF
import Derived.Test.YtibhpbpjdgodnaaGreatDoorJA
import Derived.Test.YtibhpbpjdgodnaaGreatDoorAmMore
/- The sheet's own question, by the fast machine. -/
namespace Go.Am.R2
open Go.Proofs
set_option maxRecDepth 100000
theorem alive_run : yesV (rootB DE 400 7 Tryz.f7 [0]) (.b true) = true := by decide +kernel
end Go.Am.R2

/- The sheet's own question is answered yes. -/
namespace Go.Am.R2
open Go.Proofs
set_option maxRecDepth 100000
set_option linter.unusedSimpArgs false
set_option linter.unusedVariables false
theorem rowy_frz {q : List Nat → Option V} {x : V} {σ : List O} {v : V} (h : on1 q x (elems 1 σ x) = some v) : ∃ ns cl, q ns = some v ∧ freezeC 0 σ x = .arr (ints .u8 (ns.map Int.ofNat)) ns.length cl ∧ freeze1 0 σ 4 x = .arr (ints .u8 (ns.map Int.ofNat)) ns.length cl := by
  obtain ⟨ns, cl, h1, h2⟩ := on1_some h
  refine ⟨ns, cl, h1, ?_, h2 3⟩
  have hr : rowy x = true := by
    unfold on1 at h
    split at h
    · assumption
    · cases h
  cases x <;> simp only [rowy, Bool.false_eq_true] at hr <;> exact h2 3
theorem sumT {ns : List Nat} {v : V} (h : sumQ ns = some v) : ∃ k, runA cfgS k 138 [.arr (ints .u8 (ns.map Int.ofNat)) ns.length false] [] [0] = some (v, []) ∧ v.clean false = true := by
  have hc : ∀ l, (V.agg (ints .u8 l)).clean false = true := fun l => by simp only [V.clean]; exact cleanL_ints _
  unfold sumQ at h
  split at h
  · rename_i e
    have e := eqN_eq e
    subst e
    have e := Option.some.inj h
    subst e
    refine ⟨201, ?_, hc _⟩
    rw [show in0.length = 96 from by decide +kernel]
    exact sumA sum0_run
  split at h
  · rename_i e
    have e := eqN_eq e
    subst e
    have e := Option.some.inj h
    subst e
    refine ⟨201, ?_, hc _⟩
    rw [show in1.length = 128 from by decide +kernel]
    exact sumA sum1_run
  split at h
  · rename_i e
    have e := eqN_eq e
    subst e
    have e := Option.some.inj h
    subst e
    refine ⟨201, ?_, hc _⟩
    rw [show in2.length = 128 from by decide +kernel]
    exact sumA sum2_run
  split at h
  · rename_i e
    have e := eqN_eq e
    subst e
    have e := Option.some.inj h
    subst e
    refine ⟨201, ?_, hc _⟩
    rw [show in3.length = 128 from by decide +kernel]
    exact sumA sum3_run
  · cases h
theorem maxN_eq : ∀ (l : List Nat) (m : Nat), ((maxN l m : Nat) : Int) = (l.map Int.ofNat).foldl (fun m q => if m < q then q else m) (m : Int)
  | [], m => rfl
  | a :: l, m => by
    unfold maxN
    rw [List.map_cons, List.foldl_cons]
    split
    · rename_i h
      have h := blt_true h
      rw [maxN_eq l a, if_pos (show (m : Int) < Int.ofNat a by simp; exact h)]
      rfl
    · rename_i h
      have h : ¬ m < a := bltN (by rw [h]; decide)
      rw [maxN_eq l m, if_neg (show ¬ (m : Int) < Int.ofNat a by simp; omega)]
theorem maxT {ns : List Nat} {v : V} {cl : Bool} (h : maxQ ns = some v) : ∃ k, runA cfg k 170 [.arr (ints .u8 (ns.map Int.ofNat)) ns.length cl] [] [] = some (v, []) ∧ v.clean false = true := by
  unfold maxQ at h
  split at h
  · cases h
  rename_i a l
  split at h
  · rename_i hl
    rw [forceN_eq] at h
    cases h
    have hl := Nat.le_of_ble_eq_true hl
    rw [lenN_eq] at hl
    have hv : ∀ σ, View σ (.arr (ints .u8 ((a :: l).map Int.ofNat)) (a :: l).length cl) (ints .u8 ((a :: l).map Int.ofNat)) := fun σ => by
      have := View.ints σ .u8 ((a :: l).map Int.ofNat) cl
      rwa [List.length_map] at this
    obtain ⟨k, hk⟩ := runF_some (maxx_ok (σ := []) (p := []) ((a :: l).map Int.ofNat) (by simp) (by simp; omega) hv)
    refine ⟨k, ?_, rfl⟩
    rw [hk]
    have : (maxI ((a :: l).map Int.ofNat)) = Int.ofNat (maxN l a) := (maxN_eq l a).symm
    rw [this]
  · cases h
theorem usedN_eq : ∀ {ns : List Nat} {k r : Nat}, usedN ns k = some r → (∀ x ∈ ns, x ≤ 4) ∧ r = k + ((ns.map Int.ofNat).filter usedB).length
  | [], k, r, h => by cases h; exact ⟨fun x hx => (by cases hx), rfl⟩
  | a :: ns, k, r, h => by
    have step : ∀ (b : Nat) (k' : Nat), b ≤ 4 → usedN ns k' = some r → k' + ((ns.map Int.ofNat).filter usedB).length = k + (((b :: ns).map Int.ofNat).filter usedB).length → (∀ x ∈ b :: ns, x ≤ 4) ∧ r = k + (((b :: ns).map Int.ofNat).filter usedB).length := by
      intro b k' hb h e
      obtain ⟨h1, h2⟩ := usedN_eq h
      refine ⟨fun x hx => ?_, by rw [h2, e]⟩
      cases hx with
      | head => exact hb
      | tail _ hx => exact h1 x hx
    match a, h with
    | 0, h => exact step 0 k (by decide) h (by simp [usedB])
    | 1, h => exact step 1 (Nat.succ k) (by decide) h (by simp [usedB]; omega)
    | 2, h => exact step 2 (Nat.succ k) (by decide) h (by simp [usedB]; omega)
    | 3, h => exact step 3 k (by decide) h (by simp [usedB])
    | 4, h => exact step 4 k (by decide) h (by simp [usedB])
    | n + 5, h => simp [usedN] at h
theorem usedT {a b n : Nat} {ns : List Nat} {v : V} {cl : Bool} (h : usedQ a b n ns = some v) : ∃ k, runA cfg k 39 [.agg [.i .i64 (.ofNat a), .i .i64 (.ofNat b), .i .i64 (.ofNat n), .arr (ints .u8 (ns.map Int.ofNat)) ns.length cl]] [] [] = some (v, []) ∧ v.clean false = true := by
  unfold usedQ at h
  split at h
  case h_2 => cases h
  rename_i hc
  simp only [Bool.and_eq_true] at hc
  obtain ⟨c1, c2, c3, c4, c5⟩ := hc
  have c1 := Nat.le_of_ble_eq_true c1
  have c2 := Nat.le_of_ble_eq_true c2
  have c3 := Nat.eq_of_beq_eq_true c3
  have c4 := Nat.le_of_ble_eq_true c4
  have c5 := Nat.le_of_ble_eq_true c5
  rw [lenN_eq] at c3
  split at h
  case h_2 => cases h
  rename_i k hk
  rw [forceN_eq] at h
  obtain ⟨u1, u2⟩ := usedN_eq hk
  obtain ⟨S, hS⟩ : ∃ S : SpaceR, S = ⟨.ofNat a, .ofNat b, .ofNat n, .arr (ints .u8 (ns.map Int.ofNat)) ns.length cl, ns.map Int.ofNat⟩ := ⟨_, rfl⟩
  have ok : S.ok := by
    rw [hS]
    refine ⟨⟨by rw [ints_len]; simp, .inr ⟨cl, by simp⟩⟩, fun x hx => ?_, by simp; omega⟩
    obtain ⟨y, hy, rfl⟩ := List.mem_map.1 hx
    have := u1 y hy
    simp; omega
  have hB : spaceB S = true := by
    rw [hS, spaceB_iff]
    refine ⟨by simp; omega, by simp; omega, by simp; omega, by simp, by simp; omega, by simp; omega, ?_⟩
    rw [List.all_eq_true]
    intro x hx
    obtain ⟨y, hy, rfl⟩ := List.mem_map.1 hx
    have := u1 y hy
    simp; omega
  have hU : usedI S = (k : Int) := by
    unfold usedI
    rw [if_pos hB, u2, hS]; simp
  obtain ⟨j, hj⟩ := runF_some (used7_ok (σ := []) (p := []) S ok)
  cases h
  refine ⟨j, ?_, rfl⟩
  rw [hU, hS] at hj
  exact hj
end Go.Am.R2

/- The sheet's own question is answered yes: the machine is sound there. -/
namespace Go.Am.R2
open Go.Proofs
set_option maxRecDepth 100000
set_option linter.unusedSimpArgs false
set_option linter.unusedVariables false
theorem rel_clip {M : Mp} {w : World} {cs : List V} {n : Nat} {cl : Bool} {ys : List Value} (h : RelL M w [.arr cs n cl] ys) : RelL M w [.arr cs n false] ys := by
  cases h with
  | cons _ y _ ys h1 h2 =>
    cases h2
    cases h1 with
    | arr _ _ _ a vs k h1 h2 h3 h4 h5 h6 => exact .cons _ _ _ _ (.arr _ _ _ a vs k h1 h2 h3 h4 h5 (fun e => by cases e)) .nil
theorem glob_cln' : ∀ g cs, cfg.glob g = some cs → V.cleanL true cs = true := fun g cs h => glob_cln g cs (by rw [glob_eq]; exact h)
theorem primAtE : ∀ f g, primE f = some g → PrimAt cfgE f g := by
  intro f g h
  unfold primE at h
  split at h
  · rename_i e
    cases Nat.eq_of_beq_eq_true e
    cases h
    refine primAt_frz (C := cfgS) (C' := cfgE) callOkS glob_cln rfl rfl fun args σ v hv => ?_
    unfold pSumA at hv
    split at hv
    case h_2 => cases hv
    rename_i x
    obtain ⟨ns, cl, h1, h2, _⟩ := rowy_frz hv
    obtain ⟨k, h3, h4⟩ := sumT h1
    refine ⟨k, [0], _, h3, ?_, h4, fun M w ys hr => ?_⟩
    · simp only [V.cleanL, V.clean, Bool.true_and, cleanL_ints]
    · rw [List.map_cons, List.map_nil, h2] at hr
      exact rel_clip hr
  split at h
  · rename_i e
    cases Nat.eq_of_beq_eq_true e
    cases h
    exact prim_idxS Tryz.func188 (by kernel_rfl) (by kernel_rfl) (by kernel_rfl) (by kernel_rfl)
  split at h
  · rename_i e
    cases Nat.eq_of_beq_eq_true e
    cases h
    refine primAt_frz (C := cfg) (C' := cfgE) callOk glob_cln' rfl glob_eq fun args σ v hv => ?_
    unfold pUsedA at hv
    split at hv
    case h_2 => cases hv
    rename_i a b n x
    obtain ⟨ns, cl, h1, _, h2⟩ := rowy_frz hv
    obtain ⟨k, h3, h4⟩ := usedT (cl := cl) h1
    refine ⟨k, [], _, h3, ?_, h4, fun M w ys hr => ?_⟩
    · simp only [V.cleanL, V.clean, Bool.true_and, cleanL_ints]
    · have e : ∀ m : Nat, freeze1 0 σ 4 (.i .i64 (.ofNat m)) = .i .i64 (.ofNat m) := fun m => rfl
      simp only [List.map_cons, List.map_nil, freezeC, h2, e] at hr
      exact hr
  split at h
  · rename_i e
    cases Nat.eq_of_beq_eq_true e
    cases h
    refine primAt_frz (C := cfg) (C' := cfgE) callOk glob_cln' rfl glob_eq fun args σ v hv => ?_
    unfold pMaxA at hv
    split at hv
    case h_2 => cases hv
    rename_i x
    obtain ⟨ns, cl, h1, h2, _⟩ := rowy_frz hv
    obtain ⟨k, h3, h4⟩ := maxT (cl := cl) h1
    refine ⟨k, [], _, h3, ?_, h4, fun M w ys hr => ?_⟩
    · simp only [V.cleanL, V.clean, Bool.true_and, cleanL_ints]
    · rw [List.map_cons, List.map_nil, h2] at hr
      exact hr
  · cases h
theorem iterE : IterOk cfgE := by
  intro gf it h
  have h : itA gf = some it := h
  unfold itA at h
  split at h
  · rename_i e
    cases Nat.eq_of_beq_eq_true e
    cases h
    exact iter_backward (C := cfgE) (gf := 195) (z := 129) (tS := 32) (tE := 132) (tI := 3) (tB := 4) (tF := 241) Tryz.func195 rfl rfl rfl (by decide +kernel) (by kernel_rfl) (by kernel_rfl) (by decide) (by kernel_rfl) (by kernel_rfl)
  · cases h
theorem primsE : PrimOk cfgE := { v := primOk_of primAtE, m := (fun f g h => by cases h), hook := hook_none fun _ _ => rfl, iter := iterE, still := stillAt rfl glob_eq }
theorem mixedE : cfgE.P.follows .mixedOrders = true := mixed
theorem callOkE (k : Nat) : CallOk cfgE (runA cfgE k) := run_sound primsE fnsE (draw_sound mixedE primsE.still) k
theorem tokE : tyK = mkK cfgE tyL := by kernel_rfl
theorem pIdx_mono {args : List V} {m : Mem} {σ : List O} {v : V} (hm : MB m σ) (h : pIdxB args m = some v) : pIdxS args σ = some v := by
  unfold pIdxB at h
  split at h
  · cases h
  · rename_i x c hx
    split at h
    case h_2 => cases h
    rename_i n cs he
    split at h
    case h_2 => cases h
    rename_i ns hns
    split at h
    case h_2 => cases h
    rename_i hc
    have hc := blt_true hc
    split at h
    case h_2 => cases h
    rename_i r hr
    cases h
    have hcs := u8n_eq hns
    have hb : bytesOf cs = some (ns.map UInt8.ofNat) := by
      rw [hcs, bytesOf_ints, List.map_map]; rfl
    have e0 := elemsB_sound hm he
    have hi : Lib.indexByte (ns.map UInt8.ofNat) (UInt8.ofNat c) = r := by
      rcases find1_ok hc hr with ⟨rfl, h2⟩ | ⟨j, rfl, h2⟩
      · exact h2
      · rw [h2]; simp
    have hg : pIdxS [x, .i .u8 (.ofNat c)] σ = (elems 1 σ x).bind fun (_, cs) => (bytesOf cs).map fun l => .i .i64 (Lib.indexByte l (Int.ofNat c).toNat.toUInt8) := by
      cases x <;> first | rfl | exact (hx _ rfl).elim
    rw [hg, e0]
    simp only [Option.bind_some, hb, Option.map_some]
    show some (V.i .i64 (Lib.indexByte (ns.map UInt8.ofNat) (UInt8.ofNat c))) = _
    rw [hi]
  · cases h
theorem dokE : DOk cfgE DE where
  ty := tok_of tokE
  glob _ := rfl
  cls _ _ := rfl
  hook _ _ := rfl
  pre _ _ := rfl
  still _ := rfl
  fn f fn h1 h2 := by
    have h2 : fnK.getB f = some fn := h2
    rw [fnK_eq] at h2
    obtain ⟨h3, h4⟩ := mkF_ok h2
    have h1 : primEB f = none := h1
    refine ⟨?_, rfl, ?_, h4, fun p => ?_⟩
    · show primE f = none
      unfold primE
      unfold primEB at h1
      split at h1
      · cases h1
      split at h1
      · cases h1
      split at h1
      · cases h1
      split at h1
      · cases h1
      · rename_i e1 _ e2 _ e3 _ e4
        simp only [e1, e2, e3, e4]
    · show barE f = false
      unfold barE
      rw [List.contains_iff_mem.2 h3]; rfl
    · show (!(f == 7)) = true
      have : ∀ f ∈ fnL, (!(f == 7)) = true := by decide +kernel
      exact this f h3
  iter f it h := by
    have h : itB f = some it := h
    unfold itB at h
    split at h
    · rename_i e
      cases h
      exact ⟨backA 129, (by show itA f = _; unfold itA; simp only [e]), fun cap m σ x hm hx => backB_sound hm hx⟩
    · cases h
  prim f g h := by
    have h : primEB f = some g := h
    unfold primEB at h
    split at h
    · rename_i e1
      cases h
      refine ⟨pSumA, (by show primE f = _; unfold primE; simp only [e1]), fun args m σ v hm hv => ?_⟩
      unfold pSumB at hv
      split at hv
      · exact on1_mono hm hv
      · cases hv
    split at h
    · rename_i e1 _ e2
      cases h
      exact ⟨pIdxS, (by show primE f = _; unfold primE; simp only [e1, e2]), fun args m σ v hm hv => pIdx_mono hm hv⟩
    split at h
    · rename_i e1 _ e2 _ e3
      cases h
      refine ⟨pUsedA, (by show primE f = _; unfold primE; simp only [e1, e2, e3]), fun args m σ v hm hv => ?_⟩
      unfold pUsedB at hv
      split at hv
      · exact on1_mono hm hv
      · cases hv
    split at h
    · rename_i e1 _ e2 _ e3 _ e4
      cases h
      refine ⟨pMaxA, (by show primE f = _; unfold primE; simp only [e1, e2, e3, e4]), fun args m σ v hm hv => ?_⟩
      unfold pMaxB at hv
      split at hv
      · exact on1_mono hm hv
      · cases hv
    · cases h
theorem aliveA : runA cfgE 401 7 [] [] [0] = some (.b true, []) :=
  rootB_sound dokE (yesV_eq alive_run) (by kernel_rfl) rfl (by decide +kernel) Tryz.func7 rfl rfl
end Go.Am.R2

/- The machine over this seat's program, for the laws: what the sheets ask of themselves is told. -/
namespace Go.Am.R2L
open Go.Proofs
set_option linter.unusedVariables false
set_option linter.unusedSimpArgs false
def pYes : List V → List O → Option V
  | [], _ => some (.b true)
  | _, _ => none
def primT (f : Nat) : Option (List V → List O → Option V) := if f = 7 then some pYes else if f = 188 then some pIdxS else none
def barT (f : Nat) : Bool := f == 36 || f == 114 || f == 24 || f == 30
/-- The machine that walks the laws. -/
noncomputable def cfg : Cfg := R2.cfg.more primT barT
set_option maxRecDepth 100000
theorem fns : fnsOk cfg = true := by decide +kernel
theorem kpF {f : Nat} {p : List Nat} (h : [95].contains f = false) : cfg.keep f p = false := h
theorem kpT {f : Nat} {p : List Nat} (h : [95].contains f = true) : cfg.keep f p = true := h
theorem mixed : cfg.P.follows .mixedOrders = true := by kernel_rfl
theorem primAt : ∀ f g, primT f = some g → PrimAt cfg f g := by
  intro f g h'
  unfold primT at h'
  split at h'
  · rename_i e; subst e; cases h'
    refine primAt_frz (C := R2.cfgE) (C' := cfg) R2.callOkE R2.glob_cln rfl R2.glob_eq.symm fun args σ v hv => ?_
    unfold pYes at hv
    split at hv
    · cases hv
      exact ⟨401, [0], [], R2.aliveA, rfl, rfl, fun _ _ _ h => h⟩
    · cases hv
  split at h'
  · rename_i e; subst e; cases h'; exact prim_idxS Tryz.func188 (by kernel_rfl) (by kernel_rfl) (by kernel_rfl) (by kernel_rfl)
  · cases h'
theorem prims : PrimOk cfg := { v := primOk_of primAt, m := (fun f g h => by cases h), hook := hook_none fun _ _ => rfl }
theorem yes_ok {σ : List O} {p : List Nat} : runF cfg 7 [] σ p = some (.b true, σ) := run_prim rfl rfl
/-- What is shown in the machine that doesn't know the sheets' own questions holds here. -/
theorem up {f : Nat} {args : List V} {σ : List O} {p : List Nat} {r : V × List O} (h : runF R2.cfg f args σ p = some r) : runF cfg f args σ p = some r := by
  refine runF_more (fun f g h => ?_) (fun f h1 h2 h3 => ?_) (fun f g _ h => by cases h) h
  · have h : R2.primT f = some g := h
    unfold R2.primT at h
    split at h
    · rename_i e; subst e; exact h
    · cases h
  · have h1 : R2.primT f = none := h1
    have h3 : R2.barT f = false := h3
    simp only [R2.barT, Bool.or_eq_false_iff, beq_eq_false_iff_ne, ne_eq] at h3
    unfold R2.primT at h1
    split at h1
    · cases h1
    · rename_i e
      refine ⟨?_, ?_⟩
      · unfold primT
        rw [if_neg (by omega), if_neg e]
      · simp only [barT, Bool.or_eq_false_iff, beq_eq_false_iff_ne, ne_eq]
        omega
end Go.Am.R2L
