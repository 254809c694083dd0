/- flow.pieces' rounds, as the machine has them. -/
import Derived.Test.YtgagaobijjahhaaGreatDoorAmIter
import Derived.Test.YtgagaobijjahhaaGreatDoorJM
namespace Go.Am
open Go.RowKit
set_option linter.unusedVariables false
set_option linter.unusedSimpArgs false
noncomputable def pcsN : Nat → Nat → Nat → Option (List (List V))
  | 0, a, e => match Nat.blt a e with | true => none | false => some []
  | f + 1, a, e => match Nat.blt a e with
    | false => some []
    | true => forceN (a / 128) fun i => forceN (min e ((i + 1) * 128)) fun nx => forceN (a - i * 128) fun x => forceN (nx - i * 128) fun y =>
      match pcsN f nx e with
      | some l => some ([.agg [.i .i64 (.ofNat i), .i .i64 (.ofNat x), .i .i64 (.ofNat y)]] :: l)
      | none => none
noncomputable def piecesV (r1 r2 : Nat) : V → V → Option (List Nat × List (List V))
  | .i .i64 (.ofNat a), .i .i64 (.ofNat e) => (match Nat.ble a 4611686018427387904 && Nat.ble e 4611686018427387904 with
    | true => (match pcsN (e / 128 + 2) a e with | some l => some ([r1, r2], l) | none => none)
    | false => none)
  | _, _ => none
noncomputable def piecesA : List V → List O → Option (List Nat × List (List V))
  | [.ptr r1 s1 o1, .ptr r2 s2 o2], σ => (rowAt σ r1 s1).bind fun c1 => c1[o1]?.bind fun a => (rowAt σ r2 s2).bind fun c2 => c2[o2]?.bind fun e => piecesV r1 r2 a e
  | _, _ => none
noncomputable def cellB (m : Mem) (r : Nat) (st : List Nat) (off : Nat) : Option V := match m.get r with
  | some (.o (.cells st' cs)) => (match stEq st' st with | true => cs[off]? | false => none)
  | _ => none
noncomputable def piecesB : List V → Mem → Option (List Nat × List (List V))
  | [.ptr r1 s1 o1, .ptr r2 s2 o2], m => (match cellB m r1 s1 o1 with
    | some a => (match cellB m r2 s2 o2 with | some e => piecesV r1 r2 a e | none => none)
    | none => none)
  | _, _ => none
theorem cellB_sound {m : Mem} {σ : List O} {r off : Nat} {st : List Nat} {v : V} (h : MB m σ) (hb : cellB m r st off = some v) : (rowAt σ r st).bind (fun c => c[off]?) = some v := by
  unfold cellB at hb
  split at hb
  · rename_i st' cs hr
    split at hb
    · rename_i hs
      rw [h.row hr hs]; exact hb
    · cases hb
  · cases hb
theorem piecesB_sound {cap : List V} {m : Mem} {σ : List O} {x : List Nat × List (List V)} (h : MB m σ) (hb : piecesB cap m = some x) : piecesA cap σ = some x := by
  unfold piecesB at hb
  split at hb
  · rename_i r1 s1 o1 r2 s2 o2
    split at hb
    · rename_i a ha
      split at hb
      · rename_i e he
        have ha := cellB_sound h ha
        have he := cellB_sound h he
        simp only [Option.bind_eq_some_iff] at ha he
        obtain ⟨c1, h1, h2⟩ := ha
        obtain ⟨c2, h3, h4⟩ := he
        simp only [piecesA, h1, h2, h3, h4, Option.bind_some]
        exact hb
      · cases hb
    · cases hb
  · cases hb
theorem pcsN_zero {a e : Nat} {l : List (List V)} (h : pcsN 0 a e = some l) : ¬ a < e ∧ l = [] := by
  unfold pcsN at h
  split at h
  · cases h
  · rename_i hn
    cases h
    exact ⟨bltN (by rw [hn]; decide), rfl⟩
theorem pcsN_no {f a e : Nat} {l : List (List V)} (h : pcsN f a e = some l) (hn : ¬ a < e) : l = [] := by
  cases f with
  | zero => exact (pcsN_zero h).2
  | succ f =>
    unfold pcsN at h
    split at h
    · cases h; rfl
    · rename_i hb; exact absurd (blt_true hb) hn
theorem pcsN_yes {f a e : Nat} {l : List (List V)} (h : pcsN f a e = some l) (hn : a < e) : ∃ f' l', f = f' + 1 ∧ pcsN f' (min e ((a / 128 + 1) * 128)) e = some l' ∧
    l = [.agg [.i .i64 ((a / 128 : Nat) : Int), .i .i64 ((a - a / 128 * 128 : Nat) : Int), .i .i64 ((min e ((a / 128 + 1) * 128) - a / 128 * 128 : Nat) : Int)]] :: l' := by
  cases f with
  | zero => exact absurd hn (pcsN_zero h).1
  | succ f =>
    unfold pcsN at h
    split at h
    · rename_i hb; exact absurd hn (bltN (by rw [hb]; decide))
    · simp only [forceN_eq] at h
      split at h
      · rename_i l' hl
        cases h
        exact ⟨f, l', rfl, hl, rfl⟩
      · cases h
def listT (nt : Nat) : List (Nat × V) → T V
  | [] => T.ofList (List.replicate nt V.bad)
  | x :: l => (listT nt l).set x.1 x.2
theorem listT_get {nt d : Nat} : ∀ {l : List (Nat × V)}, (∀ x ∈ l, x.1 < nt) → ((listT nt l).get d = some .bad ∧ d < nt) ∨ (∃ x ∈ l, x.1 = d ∧ (listT nt l).get d = some x.2) ∨ ((listT nt l).get d = none ∧ nt ≤ d) := by
  intro l
  induction l with
  | nil =>
    intro _
    unfold listT
    rw [T.ofList_get]
    by_cases hd : d < nt
    · exact .inl ⟨by rw [List.getElem?_replicate, if_pos hd], hd⟩
    · exact .inr (.inr ⟨by rw [List.getElem?_replicate, if_neg hd], by omega⟩)
  | cons x l ih =>
    intro hl
    unfold listT
    rw [T.get_set]
    by_cases e : d = x.1
    · rw [if_pos e]; exact .inr (.inl ⟨x, by simp, e.symm, rfl⟩)
    · rw [if_neg e]
      rcases ih (fun y hy => hl y (by simp [hy])) with h | ⟨y, hy, h⟩ | h
      · exact .inl h
      · exact .inr (.inl ⟨y, by simp [hy], h⟩)
      · exact .inr (.inr h)
theorem rel_list {M : Mp} {w : World} {nt : Nat} {a : Act} (hs : a.tmps.size = nt) {σ : List O} {c : Nat} {l : List (Nat × V)} (h : ∀ x ∈ l, x.1 < nt ∧ Rel M w x.2 (a.tmps.getD x.1 undef)) : FR M w ⟨listT nt l, nt, σ, c⟩ a := by
  refine rel_bads hs (fun d hd => ?_) (fun d hd => ?_)
  · rcases listT_get (d := d) (fun x hx => (h x hx).1) with ⟨h1, _⟩ | ⟨x, hx, rfl, h1⟩ | ⟨_, h1⟩
    · exact .inl h1
    · exact .inr ⟨_, h1, (h x hx).2⟩
    · omega
  · rcases listT_get (d := d) (fun x hx => (h x hx).1) with ⟨_, h1⟩ | ⟨x, hx, rfl, h1⟩ | ⟨h1, _⟩
    · omega
    · have := (h x hx).1; omega
    · exact h1
def pc0 (tI : TypeId) : List Oper := [{ dst := some 7, op := .load tI (.tmp 1), type := tI, pos := "flow.go:19", after := #[], guard := none },
    { dst := some 4, op := .assign (.tmp 7), type := tI, pos := "flow.go:19", after := #[e0 0, e1 0], guard := none }]
def pc1 (tI tB : TypeId) : List Oper := [{ dst := some 8, op := .move (.tmp 4), type := tI, pos := "flow.go:19", after := #[], guard := none },
    { dst := some 9, op := .load tI (.tmp 2), type := tI, pos := "flow.go:19", after := #[], guard := none },
    { dst := some 10, op := .binOp .lss tI (.tmp 8) (.tmp 9) tI, type := tB, pos := "flow.go:19", after := #[e0 0, e0 1], guard := none }]
def pc2 (tI : TypeId) : List Oper := [{ dst := some 11, op := .move (.tmp 4), type := tI, pos := "flow.go:20", after := #[], guard := none },
    { dst := some 12, op := .binOp .quo tI (.tmp 11) (.const (.int .i64 128)) tI, type := tI, pos := "flow.go:20", after := #[e0 0], guard := none },
    { dst := some 5, op := .assign (.tmp 12), type := tI, pos := "flow.go:20", after := #[e0 1, e1 0, e1 1], guard := none }]
def pc3 (tI : TypeId) : List Oper := [{ dst := some 13, op := .load tI (.tmp 2), type := tI, pos := "flow.go:21", after := #[], guard := none },
    { dst := some 14, op := .move (.tmp 5), type := tI, pos := "flow.go:21", after := #[], guard := none },
    { dst := some 15, op := .binOp .add tI (.tmp 14) (.const (.int .i64 1)) tI, type := tI, pos := "flow.go:21", after := #[e0 1], guard := none },
    { dst := some 16, op := .binOp .mul tI (.tmp 15) (.const (.int .i64 128)) tI, type := tI, pos := "flow.go:21", after := #[e0 2], guard := none },
    { dst := some 17, op := .call { callee := .builtin .min, args := #[.tmp 13, .tmp 16], argTypes := #[tI, tI] }, type := tI, pos := "flow.go:21", after := #[e0 0, e0 3], guard := none },
    { dst := some 6, op := .assign (.tmp 17), type := tI, pos := "flow.go:21", after := #[e0 4, e1 0, e1 1, e1 2, e1 3, e1 4], guard := none }]
def pc4a (tF : TypeId) : Oper := { dst := some 18, op := .move (.tmp 0), type := tF, pos := "flow.go:22", after := #[], guard := none }
def pc4b (tI tP : TypeId) : List Oper := [{ dst := some 19, op := .move (.tmp 5), type := tI, pos := "flow.go:22", after := #[], guard := none },
    { dst := some 20, op := .move (.tmp 4), type := tI, pos := "flow.go:22", after := #[], guard := none },
    { dst := some 21, op := .move (.tmp 5), type := tI, pos := "flow.go:22", after := #[], guard := none },
    { dst := some 22, op := .binOp .mul tI (.tmp 21) (.const (.int .i64 128)) tI, type := tI, pos := "flow.go:22", after := #[e0 3], guard := none },
    { dst := some 23, op := .binOp .sub tI (.tmp 20) (.tmp 22) tI, type := tI, pos := "flow.go:22", after := #[e0 2, e0 4], guard := none },
    { dst := some 24, op := .move (.tmp 6), type := tI, pos := "flow.go:22", after := #[], guard := none },
    { dst := some 25, op := .move (.tmp 5), type := tI, pos := "flow.go:22", after := #[], guard := none },
    { dst := some 26, op := .binOp .mul tI (.tmp 25) (.const (.int .i64 128)) tI, type := tI, pos := "flow.go:22", after := #[e0 7], guard := none },
    { dst := some 27, op := .binOp .sub tI (.tmp 24) (.tmp 26) tI, type := tI, pos := "flow.go:22", after := #[e0 6, e0 8], guard := none },
    { dst := some 28, op := .build tP #[(0, .tmp 19), (1, .tmp 23), (2, .tmp 27)], type := tP, pos := "flow.go:22", after := #[e0 1, e0 5, e0 9], guard := none }]
def pc4c (tP tB : TypeId) : Oper := { dst := some 29, op := .call { callee := .value (.tmp 18), args := #[.tmp 28], argTypes := #[tP] }, type := tB, pos := "flow.go:22", after := #[e0 0, e0 10], guard := none }
def pc4d (tB : TypeId) : Oper := { dst := some 30, op := .unOp .not tB (.tmp 29), type := tB, pos := "flow.go:22", after := #[e0 11], guard := none }
def pc4 (tI tB tP tF : TypeId) : List Oper := pc4a tF :: (pc4b tI tP ++ [pc4c tP tB, pc4d tB])
def pc5 (tI : TypeId) : List Oper := [{ dst := some 31, op := .move (.tmp 6), type := tI, pos := "flow.go:25", after := #[], guard := none },
    { dst := some 4, op := .assign (.tmp 31), type := tI, pos := "flow.go:25", after := #[e0 0, e1 0], guard := none }]
def pieceBody (tI tB tP tF : TypeId) : Code :=
  ((Code.region 1 (pc1 tI tB).toArray false).seq (Code.cond (.tmp 10) .skip (.exit 0))).seq
    (Code.block 1 ((Code.region 2 (pc2 tI).toArray false).seq ((Code.region 3 (pc3 tI).toArray false).seq
      (((Code.region 4 (pc4 tI tB tP tF).toArray false).seq (Code.cond (.tmp 30) .ret .skip)).seq (Code.region 5 (pc5 tI).toArray false)))))
def pieceCode (tI tB tP tF : TypeId) : Code := (Code.region 0 (pc0 tI).toArray false).seq (Code.block 0 (pieceBody tI tB tP tF).loop)
theorem piecesA_some {cap : List V} {σ : List O} {rows : List Nat} {yss : List (List V)} (h : piecesA cap σ = some (rows, yss)) :
    ∃ r1 s1 o1 r2 s2 o2 c1 c2, ∃ a e f : Nat, cap = [.ptr r1 s1 o1, .ptr r2 s2 o2] ∧ rowAt σ r1 s1 = some c1 ∧ c1[o1]? = some (.i .i64 (a : Int)) ∧ rowAt σ r2 s2 = some c2 ∧ c2[o2]? = some (.i .i64 (e : Int)) ∧ a ≤ 4611686018427387904 ∧ e ≤ 4611686018427387904 ∧
      r1 ∈ rows ∧ r2 ∈ rows ∧ pcsN f a e = some yss := by
  unfold piecesA at h
  split at h
  · rename_i r1 s1 o1 r2 s2 o2
    simp only [Option.bind_eq_some_iff] at h
    obtain ⟨c1, h1, x, h2, c2, h3, y, h4, h⟩ := h
    unfold piecesV at h
    split at h
    · rename_i a e
      split at h
      · rename_i hb
        simp only [Bool.and_eq_true] at hb
        split at h
        · rename_i l hl
          cases h
          exact ⟨r1, s1, o1, r2, s2, o2, c1, c2, a, e, _, rfl, h1, h2, h3, h4, ble_true hb.1, ble_true hb.2, by simp, by simp, hl⟩
        · cases h
      · cases h
    · cases h
  · cases h
section
variable {C : Cfg}
theorem iter_pieces {gf tI tB tP tF : Nat} {fn : Func} (hf : C.P.funcs[gf]? = some fn) (hb : fn.body = some (pieceCode tI tB tP tF)) (hnt : fn.ntmps = 32) (hrs : fn.results = #[]) (hname : (fn.name != "runtime.NumGoroutine") = true)
    (hag : C.isAgg tI = some false) (hbd : ∀ x y z : Int, buildA C tP [(0, .i .i64 x), (1, .i .i64 y), (2, .i .i64 z)] = some (.agg [.i .i64 x, .i .i64 y, .i .i64 z])) :
    ∀ cap σ rows yss, piecesA cap σ = some (rows, yss) →
    (∀ args w, (callFunc gf args).run C.P w = .ok (.enter gf args) w) ∧
    ∀ (l n0 B0 : Nat) (lb : List Value) (J : Nat → Mp → World → Prop) (Jx : World → Prop) (M0 : Mp) (W : World),
      (∀ k M w, J k M w → GR C M w ∧ ∃ σk p c, MR B0 M σk w ∧ FrC M σk p c ∧ RelL M w cap lb ∧ ∀ r ∈ rows, σk[r]? = σ[r]?) →
      (∀ k M w w', J k M w → w.grownBy w' none → J k M w') → (∀ w w', Jx w → w.grownBy w' none → Jx w') →
      (∀ k vs M w ys, J k M w → yss[k]? = some vs → RelL M w vs ys → YieldAt Fence.wide n0 C.P l ys.toArray w fun e w' => (e = .returned (.bool true) ∧ ∃ M', J (k + 1) M' w') ∨ (e = .returned (.bool false) ∧ Jx w')) →
      J 0 M0 W → CallsIn Fence.wide (n0 + 1) C.P gf (#[.func (.yield l) #[] #[]] ++ lb.toArray) W fun e W' => (∃ v, e = .returned v) ∧ ((∃ M', J yss.length M' W') ∨ Jx W') := by
  intro cap σ rows yss hit
  obtain ⟨r1, s1, o1, r2, s2, o2, c1, c2, a0, e, f0, rfl, hrow1, hc1, hrow2, hc2, hab, heb, hr1, hr2, hys⟩ := piecesA_some hit
  refine ⟨fun args w => run_callFunc hname hf hb args w, fun l n0 B0 lb J Jx M0 W hJ hgrow hgrowx hY h0 => ?_⟩
  obtain ⟨hG0, σ0, p0, c0, hm0, hfr0, hlb0, hrows0⟩ := hJ 0 M0 W h0
  have hlb1 := hlb0.length
  obtain ⟨y0, y1, rfl⟩ : ∃ y0 y1, lb = [y0, y1] := by
    match lb, hlb1 with
    | [a, b], _ => exact ⟨a, b, rfl⟩
  obtain ⟨yv, hyv⟩ : ∃ yv : Value, yv = .func (.yield l) #[] #[] := ⟨_, rfl⟩
  have facts : ∀ k M w, J k M w → ∃ σk p c, MR B0 M σk w ∧ FrC M σk p c ∧ GR C M w ∧ Rel M w (.ptr r1 s1 o1) y0 ∧ Rel M w (.ptr r2 s2 o2) y1 ∧ loadA C tI σk (.ptr r1 s1 o1) = some (.i .i64 (a0 : Int)) ∧ loadA C tI σk (.ptr r2 s2 o2) = some (.i .i64 (e : Int)) := by
    intro k M w h
    obtain ⟨hG, σk, p, c, hm, hfr, hlb, hrows⟩ := hJ k M w h
    refine ⟨σk, p, c, hm, hfr, hG, ?_, ?_, ?_, ?_⟩
    · cases hlb with | cons _ _ _ _ h1 _ => exact h1
    · cases hlb with | cons _ _ _ _ _ h1 => cases h1 with | cons _ _ _ _ h2 _ => exact h2
    · have := (rowAt_congr (st := s1) (hrows r1 hr1)).trans hrow1
      simp only [loadA, cellsAt, this, Option.map_some, Option.bind_some, hag, Bool.false_eq_true, if_false]
      rw [List.getElem?_drop]; simpa using hc1
    · have := (rowAt_congr (st := s2) (hrows r2 hr2)).trans hrow2
      simp only [loadA, cellsAt, this, Option.map_some, Option.bind_some, hag, Bool.false_eq_true, if_false]
      rw [List.getElem?_drop]; simpa using hc2
  have hbt : ∀ (u : Act) (L : List (Nat × V)) (M : Mp) (w : World) (σk : List O) (p : List Nat) (c : Nat), MR B0 M σk w → FrC M σk p c → GR C M w → u.tmps.size = 32 → (∀ x ∈ L, x.1 < 32 ∧ Rel M w x.2 (u.tmps.getD x.1 undef)) → SR C B0 p M ⟨listT 32 L, 32, σk, c⟩ u w :=
    fun u L M w σk p c hm hfr hG hsz hv => ⟨hm, rel_list hsz hv, hfr, hG⟩
  -- the head of the loop
  have head : ∀ (m k at_ f : Nat) (M : Mp) (w : World) (a : Act), f < m → pcsN f at_ e = some (yss.drop k) → k ≤ yss.length → at_ ≤ 4611686018427387904 → J k M w → a.tmps.size = 32 → a.tmps.getD 0 undef = yv → a.tmps.getD 1 undef = y0 → a.tmps.getD 2 undef = y1 → a.tmps.getD 4 undef = .int .i64 (at_ : Int) → a.defers = [] →
      Code.roundsIn (Fnc none) (n0 + 1) C.P (pieceBody tI tB tP tF) (Exit.inBlock 0 (bodyPost C.P fn fun e W' => (∃ v, e = .returned v) ∧ ((∃ M', J yss.length M' W') ∨ Jx W'))) m a w := by
    intro m
    induction m with
    | zero => intro k at_ f M w a hm; omega
    | succ m ih =>
      intro k at_ f M w a hmk hp hkn hatb hJk hsz h0t h1t h2t h4t hdf
      obtain ⟨σk, p, c, hm, hfr, hG, hp1, hp2, hl1, hl2⟩ := facts k M w hJk
      rw [roundsIn_succ]
      unfold pieceBody
      refine wpIn_seq (wpIn_seq (wpIn_region_list ?_))
      have hsr := hbt a [(4, .i .i64 (at_ : Int)), (2, .ptr r2 s2 o2)] M w σk p c hm hfr hG hsz (by
        simp only [List.mem_cons, List.not_mem_nil, or_false]
        rintro x (rfl | rfl)
        · exact ⟨by dsimp only; omega, by rw [h4t]; exact .i _ _⟩
        · exact ⟨by dsimp only; omega, by rw [h2t]; exact hp2⟩)
      have hops1 : ∃ s1, opsA C (fun _ _ _ _ => none) p (pc1 tI tB).toArray (pc1 tI tB) ⟨listT 32 [(4, .i .i64 (at_ : Int)), (2, .ptr r2 s2 o2)], 32, σk, c⟩ = some s1 ∧ s1.t.get 10 = some (.b (decide ((at_ : Int) < (e : Int)))) ∧ s1.nt = 32 := by
        refine ⟨_, by
          simp only [pc1, opsA, stepA, guardA, opA, St.ev, listT, Option.bind_some, Option.map_some, if_true, if_false, Option.getD_some, put_get, St.put, Nat.reduceLT, T.get_set, Nat.reduceEqDiff, ofVal_int, hl2, binA_lss]
          rfl, ?_, rfl⟩
        simp only [T.get_set, Nat.reduceEqDiff, if_true, if_false]
      obtain ⟨t1, ht1, ht10, ht1n⟩ := hops1
      refine opsP_all (call := fun _ _ _ _ => none) _ none (n0 + 1) (pc1 tI tB) _ _ a rfl hsr ht1 fun a1 h1 hd1 hk1 => ?_
      have hc10 : a1.eval (.tmp 10) = .bool (decide ((at_ : Int) < (e : Int))) := by
        have := h1.fr.tmp 10
        rw [ht10] at this
        exact this.b_inv
      have g0 := (hk1 0 (by rfl)).trans h0t
      have g1 := (hk1 1 (by rfl)).trans h1t
      have g2 := (hk1 2 (by rfl)).trans h2t
      have g4 := (hk1 4 (by rfl)).trans h4t
      have gs : a1.tmps.size = 32 := by rw [h1.fr.size]; exact ht1n
      have gd : a1.defers = [] := hd1.trans hdf
      refine wpIn_cond hc10 ?_
      by_cases hlt : at_ < e
      case neg =>
        rw [decide_eq_false (by omega)]
        refine wpIn_exit ?_
        have hnil := pcsN_no hp hlt
        have hkn' : k = yss.length := by
          have := congrArg List.length hnil
          rw [List.length_drop, List.length_nil] at this
          omega
        simp only [Exit.then, Exit.inBlock, if_true]
        show bodyPost C.P fn _ .normal a1 w
        refine ⟨gd, .tuple #[], ?_, ⟨_, rfl⟩, .inl ⟨M, by rw [← hkn']; exact hJk⟩⟩
        simp [results, hrs]
      rw [decide_eq_true (by omega)]
      obtain ⟨f', l', rfl, hp', hl'⟩ := pcsN_yes hp hlt
      obtain ⟨i, hi⟩ : ∃ i, i = at_ / 128 := ⟨_, rfl⟩
      obtain ⟨nx, hnx⟩ : ∃ nx, nx = min e ((i + 1) * 128) := ⟨_, rfl⟩
      rw [← hi, ← hnx] at hp' hl'
      have hib : i * 128 ≤ at_ := by omega
      have hib2 : at_ < (i + 1) * 128 := by omega
      have hnb : nx ≤ e := by omega
      have hnb2 : i * 128 ≤ nx := by omega
      have hklt : k < yss.length := by
        have := congrArg List.length hl'
        rw [List.length_drop, List.length_cons] at this
        omega
      have hyk : yss[k]? = some [.agg [.i .i64 (i : Int), .i .i64 ((at_ - i * 128 : Nat) : Int), .i .i64 ((nx - i * 128 : Nat) : Int)]] := by
        have := congrArg (fun l : List (List V) => l[0]?) hl'
        simp only [List.getElem?_drop, Nat.add_zero, List.getElem?_cons_zero] at this
        exact this
      have hdrop : yss.drop (k + 1) = l' := by
        rw [← List.drop_drop, hl']; rfl
      refine wpIn_skip ?_
      show (Code.block _ _).wpIn _ _ _ _ _ _
      refine wpIn_block (wpIn_seq (wpIn_region_list ?_))
      -- region 2
      have hsr2 := hbt a1 [(4, .i .i64 (at_ : Int))] M w σk p c hm hfr hG gs (by
        simp only [List.mem_cons, List.not_mem_nil, or_false]
        rintro x rfl
        exact ⟨by dsimp only; omega, by rw [g4]; exact .i _ _⟩)
      have hops2 : ∃ s1, opsA C (fun _ _ _ _ => none) p (pc2 tI).toArray (pc2 tI) ⟨listT 32 [(4, .i .i64 (at_ : Int))], 32, σk, c⟩ = some s1 ∧ s1.t.get 5 = some (.i .i64 (i : Int)) ∧ s1.nt = 32 := by
        refine ⟨_, by
          simp only [pc2, opsA, stepA, guardA, opA, St.ev, listT, Option.bind_some, Option.map_some, if_true, if_false, Option.getD_some, put_get, St.put, Nat.reduceLT, T.get_set, Nat.reduceEqDiff, ofVal_int, binA_quo (b := 128) (by decide)]
          rfl, ?_, rfl⟩
        simp only [T.get_set, Nat.reduceEqDiff, if_true, if_false]
        rw [IntWalk.i64_quo _ _ (by omega), hi]; rfl
      obtain ⟨t2, ht2, ht25, ht2n⟩ := hops2
      refine opsP_all (call := fun _ _ _ _ => none) _ none (n0 + 1) (pc2 tI) _ _ a1 rfl hsr2 ht2 fun a2 h2 hd2 hk2 => ?_
      have u0 := (hk2 0 (by rfl)).trans g0
      have u1 := (hk2 1 (by rfl)).trans g1
      have u2 := (hk2 2 (by rfl)).trans g2
      have u4 := (hk2 4 (by rfl)).trans g4
      have u5 : a2.tmps.getD 5 undef = .int .i64 (i : Int) := by
        have := h2.fr.tmp 5
        rw [ht25] at this
        exact this.i_inv
      have us : a2.tmps.size = 32 := by rw [h2.fr.size]; exact ht2n
      have ud : a2.defers = [] := hd2.trans gd
      show (Code.seq _ _).wpIn _ _ _ _ _ _
      refine wpIn_seq (wpIn_region_list ?_)
      -- region 3
      have hsr3 := hbt a2 [(5, .i .i64 (i : Int)), (2, .ptr r2 s2 o2)] M w σk p c hm hfr hG us (by
        simp only [List.mem_cons, List.not_mem_nil, or_false]
        rintro x (rfl | rfl)
        · exact ⟨by dsimp only; omega, by rw [u5]; exact .i _ _⟩
        · exact ⟨by dsimp only; omega, by rw [u2]; exact hp2⟩)
      have hops3 : ∃ s1, opsA C (fun _ _ _ _ => none) p (pc3 tI).toArray (pc3 tI) ⟨listT 32 [(5, .i .i64 (i : Int)), (2, .ptr r2 s2 o2)], 32, σk, c⟩ = some s1 ∧ s1.t.get 6 = some (.i .i64 (nx : Int)) ∧ s1.nt = 32 := by
        refine ⟨_, by
          simp only [pc3, opsA, stepA, guardA, opA, St.ev, listT, Option.bind_some, Option.map_some, if_true, if_false, Option.getD_some, put_get, St.put, Nat.reduceLT, T.get_set, Nat.reduceEqDiff, ofVal_int, hl2, binA_add, binA_mul, changes, Bool.false_eq_true, builtinP, List.map_cons, List.map_nil, foldA_min]
          rfl, ?_, rfl⟩
        simp only [T.get_set, Nat.reduceEqDiff, if_true, if_false]
        rw [wrap_i64 (n := (i : Int) + 1) (by omega) (by omega), wrap_i64 (by omega) (by omega)]
        rw [hnx]
        congr 2
        split <;> omega
      obtain ⟨t3, ht3, ht36, ht3n⟩ := hops3
      refine opsP_all (call := fun _ _ _ _ => none) _ none (n0 + 1) (pc3 tI) _ _ a2 rfl hsr3 ht3 fun a3 h3 hd3 hk3 => ?_
      have v0 := (hk3 0 (by rfl)).trans u0
      have v1 := (hk3 1 (by rfl)).trans u1
      have v2 := (hk3 2 (by rfl)).trans u2
      have v4 := (hk3 4 (by rfl)).trans u4
      have v5 := (hk3 5 (by rfl)).trans u5
      have v6 : a3.tmps.getD 6 undef = .int .i64 (nx : Int) := by
        have := h3.fr.tmp 6
        rw [ht36] at this
        exact this.i_inv
      have vs : a3.tmps.size = 32 := by rw [h3.fr.size]; exact ht3n
      have vd : a3.defers = [] := hd3.trans ud
      show (Code.seq _ _).wpIn _ _ _ _ _ _
      refine wpIn_seq (wpIn_seq (wpIn_region_list ?_))
      show wpListIn _ _ _ _ _ (pc4 tI tB tP tF) a3 w
      unfold pc4
      have hw1 : Region.wanted (pc4a tF) (yielded (pc4a tF :: (pc4b tI tP ++ [pc4c tP tB, pc4d tB])).toArray a3.tmps) = true := rfl
      show (if Region.wanted (pc4a tF) _ = true then _ else _)
      rw [if_pos hw1]
      refine oper_in (fun cl h => by cases h) ?_
      unfold Oper.wp
      have hrun1 : (execOp a3.eval (pc4a tF)).run C.P w = .ok (.value (a3.eval (.tmp 0))) w := by simp [execOp, pc4a]
      rw [hrun1]
      show wpListIn _ _ _ _ _ _ (a3.put (some 18) (a3.eval (.tmp 0))) w
      obtain ⟨a4, ha4⟩ : ∃ a4, a4 = a3.put (some 18) (a3.eval (.tmp 0)) := ⟨_, rfl⟩
      rw [← ha4]
      have ev0 : a3.eval (.tmp 0) = yv := v0
      have gput : ∀ d, d < 32 → a4.tmps.getD d undef = if d = 18 then yv else a3.tmps.getD d undef := by
        intro d hd
        rw [ha4, ev0]
        simp only [Act.put, Array.getD_eq_getD_getElem?, Array.getElem?_setIfInBounds]
        by_cases e : 18 = d
        · subst e; simp [vs]
        · rw [if_neg e, if_neg (Ne.symm e)]
      have a4s : a4.tmps.size = 32 := by rw [ha4]; simp [Act.put, vs]
      have a4d : a4.defers = [] := by rw [ha4]; exact vd
      have hsr4 := hbt a4 [(4, .i .i64 (at_ : Int)), (5, .i .i64 (i : Int)), (6, .i .i64 (nx : Int))] M w σk p c hm hfr hG a4s (by
        simp only [List.mem_cons, List.not_mem_nil, or_false]
        rintro x (rfl | rfl | rfl)
        · exact ⟨by dsimp only; omega, by rw [gput 4 (by omega), if_neg (by omega), v4]; exact .i _ _⟩
        · exact ⟨by dsimp only; omega, by rw [gput 5 (by omega), if_neg (by omega), v5]; exact .i _ _⟩
        · exact ⟨by dsimp only; omega, by rw [gput 6 (by omega), if_neg (by omega), v6]; exact .i _ _⟩)
      have hops4 : ∃ s1, opsA C (fun _ _ _ _ => none) p (pc4a tF :: (pc4b tI tP ++ [pc4c tP tB, pc4d tB])).toArray (pc4b tI tP) ⟨listT 32 [(4, .i .i64 (at_ : Int)), (5, .i .i64 (i : Int)), (6, .i .i64 (nx : Int))], 32, σk, c⟩ = some s1 ∧ s1.t.get 28 = some (.agg [.i .i64 (i : Int), .i .i64 ((at_ - i * 128 : Nat) : Int), .i .i64 ((nx - i * 128 : Nat) : Int)]) ∧ s1.nt = 32 := by
        refine ⟨_, by
          simp only [pc4b, opsA, stepA, guardA, opA, St.ev, listT, Option.bind_some, Option.map_some, if_true, if_false, Option.getD_some, put_get, St.put, Nat.reduceLT, T.get_set, Nat.reduceEqDiff, ofVal_int, binA_mul, binA_sub, List.map_cons, List.map_nil, hbd]
          rfl, ?_, rfl⟩
        simp only [T.get_set, Nat.reduceEqDiff, if_true, if_false]
        rw [wrap_i64 (n := (i : Int) * 128) (by omega) (by omega), wrap_i64 (by omega) (by omega), wrap_i64 (by omega) (by omega)]
        rw [show ((at_ : Int) - (i : Int) * 128) = ((at_ - i * 128 : Nat) : Int) by omega, show ((nx : Int) - (i : Int) * 128) = ((nx - i * 128 : Nat) : Int) by omega]
      obtain ⟨t4, ht4, ht428, ht4n⟩ := hops4
      refine opsP_in (call := fun _ _ _ _ => none) _ none (n0 + 1) (pc4b tI tP) _ _ a4 rfl hsr4 ht4 fun a5 h5 hd5 hk5 => ?_
      have k18 : a5.tmps.getD 18 undef = yv := (hk5 18 rfl).trans (by rw [gput 18 (by omega), if_pos rfl])
      have k0 : a5.tmps.getD 0 undef = yv := (hk5 0 rfl).trans (by rw [gput 0 (by omega), if_neg (by omega)]; exact v0)
      have k1 : a5.tmps.getD 1 undef = y0 := (hk5 1 rfl).trans (by rw [gput 1 (by omega), if_neg (by omega)]; exact v1)
      have k2 : a5.tmps.getD 2 undef = y1 := (hk5 2 rfl).trans (by rw [gput 2 (by omega), if_neg (by omega)]; exact v2)
      have k6 : a5.tmps.getD 6 undef = .int .i64 (nx : Int) := (hk5 6 rfl).trans (by rw [gput 6 (by omega), if_neg (by omega)]; exact v6)
      have ks : a5.tmps.size = 32 := by rw [h5.fr.size]; exact ht4n
      have kd : a5.defers = [] := hd5.trans a4d
      have r28 := h5.fr.tmp 28
      rw [ht428] at r28
      -- the round
      obtain ⟨fnY, tmpsY, asY, boY, hyrun, hround⟩ := hY k _ M w [a5.tmps.getD 28 undef] hJk hyk (.cons _ _ _ _ r28 .nil)
      show (if Region.wanted (pc4c tP tB) _ = true then _ else _)
      rw [if_pos (show Region.wanted (pc4c tP tB) _ = true from rfl)]
      refine ⟨fun _ _ => trivial, ?_⟩
      have hcall : (Oper.semAt none a5.eval (pc4c tP tB)).run C.P w = .ok (.round l fnY tmpsY asY boY) w := by
        have e18 : a5.eval (.tmp 18) = .func (.yield l) #[] #[] := by rw [← hyv]; exact k18
        rw [Oper.semAt_none]
        simp only [execOp, pc4c, resolve, e18, Deferred.ofValue, Sem.run_bind, Sem.run_pure, Result.andThen_ok, invoke]
        have harr : (#[] : Array Value) ++ Array.map a5.eval #[.tmp 28] = [a5.tmps.getD 28 undef].toArray := by
          have e28 : a5.eval (.tmp 28) = a5.tmps.getD 28 undef := rfl
          rw [← e28]
          simp
        rw [harr]
        exact hyrun
      rw [show (Fnc none).round = none from rfl, hcall]
      refine ⟨fun hh => (by cases hh), RoundIn.mono hround ?_⟩
      rintro ee w2 (⟨rfl, M2, hJ2⟩ | ⟨rfl, hJx2⟩)
      · -- it goes on
        obtain ⟨σ2, p2, c2', hm2, hfr2, hG2, hp12, hp22, _, _⟩ := facts (k + 1) M2 w2 hJ2
        show wpListIn _ _ _ _ _ [pc4d tB] (a5.put (some 29) (.bool true)) w2
        obtain ⟨a6, ha6⟩ : ∃ a6, a6 = a5.put (some 29) (.bool true) := ⟨_, rfl⟩
        rw [← ha6]
        have g6 : ∀ d, d < 32 → a6.tmps.getD d undef = if d = 29 then .bool true else a5.tmps.getD d undef := by
          intro d hd
          rw [ha6]
          simp only [Act.put, Array.getD_eq_getD_getElem?, Array.getElem?_setIfInBounds]
          by_cases e : 29 = d
          · subst e; simp [ks]
          · rw [if_neg e, if_neg (Ne.symm e)]
        have a6s : a6.tmps.size = 32 := by rw [ha6]; simp [Act.put, ks]
        have a6d : a6.defers = [] := by rw [ha6]; exact kd
        have hsr6 := hbt a6 [(29, .b true)] M2 w2 σ2 p2 c2' hm2 hfr2 hG2 a6s (by
          simp only [List.mem_cons, List.not_mem_nil, or_false]
          rintro x rfl
          exact ⟨by dsimp only; omega, by rw [g6 29 (by omega), if_pos rfl]; exact .b _⟩)
        have hops6 : ∃ s4, opsA C (fun _ _ _ _ => none) p2 (pc4a tF :: (pc4b tI tP ++ [pc4c tP tB, pc4d tB])).toArray [pc4d tB] ⟨listT 32 [(29, .b true)], 32, σ2, c2'⟩ = some s4 ∧ s4.t.get 30 = some (.b false) ∧ s4.nt = 32 := by
          refine ⟨_, by
            simp only [pc4d, opsA, stepA, guardA, opA, St.ev, listT, Option.bind_some, Option.map_some, if_true, if_false, Option.getD_some, put_get, St.put, Nat.reduceLT, T.get_set, Nat.reduceEqDiff, toVal_b, unA_not, Bool.not_true]
            rfl, ?_, rfl⟩
          simp only [T.get_set, Nat.reduceEqDiff, if_true, if_false]
        obtain ⟨t6, ht6, ht630, ht6n⟩ := hops6
        refine opsP_all (call := fun _ _ _ _ => none) _ none (n0 + 1) [pc4d tB] _ _ a6 rfl hsr6 ht6 fun a7 h7 hd7 hk7 => ?_
        have r30 := h7.fr.tmp 30
        rw [ht630] at r30
        have hc30 : a7.eval (.tmp 30) = .bool false := r30.b_inv
        refine wpIn_cond hc30 ?_
        refine wpIn_skip ?_
        show (Code.region 5 _ false).wpIn _ _ _ _ _ _
        refine wpIn_region_list ?_
        have a7s : a7.tmps.size = 32 := by rw [h7.fr.size]; exact ht6n
        have j6 : a7.tmps.getD 6 undef = .int .i64 (nx : Int) := (hk7 6 rfl).trans (by rw [g6 6 (by omega), if_neg (by omega)]; exact k6)
        have j0 : a7.tmps.getD 0 undef = yv := (hk7 0 rfl).trans (by rw [g6 0 (by omega), if_neg (by omega)]; exact k0)
        have j1 : a7.tmps.getD 1 undef = y0 := (hk7 1 rfl).trans (by rw [g6 1 (by omega), if_neg (by omega)]; exact k1)
        have j2 : a7.tmps.getD 2 undef = y1 := (hk7 2 rfl).trans (by rw [g6 2 (by omega), if_neg (by omega)]; exact k2)
        have hsr7 := hbt a7 [(6, .i .i64 (nx : Int))] M2 w2 σ2 p2 c2' hm2 hfr2 hG2 a7s (by
          simp only [List.mem_cons, List.not_mem_nil, or_false]
          rintro x rfl
          exact ⟨by dsimp only; omega, by rw [j6]; exact .i _ _⟩)
        have hops7 : ∃ s5, opsA C (fun _ _ _ _ => none) p2 (pc5 tI).toArray (pc5 tI) ⟨listT 32 [(6, .i .i64 (nx : Int))], 32, σ2, c2'⟩ = some s5 ∧ s5.t.get 4 = some (.i .i64 (nx : Int)) ∧ s5.nt = 32 := by
          refine ⟨_, by
            simp only [pc5, opsA, stepA, guardA, opA, St.ev, listT, Option.bind_some, Option.map_some, if_true, if_false, Option.getD_some, put_get, St.put, Nat.reduceLT, T.get_set, Nat.reduceEqDiff]
            rfl, ?_, rfl⟩
          simp only [T.get_set, Nat.reduceEqDiff, if_true, if_false]
        obtain ⟨t7, ht7, ht74, ht7n⟩ := hops7
        refine opsP_all (call := fun _ _ _ _ => none) _ none (n0 + 1) (pc5 tI) _ _ a7 rfl hsr7 ht7 fun a8 h8 hd8 hk8 => ?_
        have r4 := h8.fr.tmp 4
        rw [ht74] at r4
        exact ih (k + 1) nx f' M2 w2 a8 (by omega) (by rw [hdrop]; exact hp') (by omega) (by omega) hJ2 (by rw [h8.fr.size]; exact ht7n) ((hk8 0 rfl).trans j0) ((hk8 1 rfl).trans j1) ((hk8 2 rfl).trans j2) r4.i_inv (hd8.trans (hd7.trans a6d))
      · -- no more
        show wpListIn _ _ _ _ _ [pc4d tB] (a5.put (some 29) (.bool false)) w2
        obtain ⟨a6, ha6⟩ : ∃ a6, a6 = a5.put (some 29) (.bool false) := ⟨_, rfl⟩
        rw [← ha6]
        have e29 : a6.eval (.tmp 29) = .bool false := by
          rw [ha6]
          show (a5.put (some 29) (.bool false)).tmps.getD 29 undef = _
          simp [Act.put, Array.getD_eq_getD_getElem?, ks]
        have a6s : a6.tmps.size = 32 := by rw [ha6]; simp [Act.put, ks]
        show (if Region.wanted (pc4d tB) _ = true then _ else _)
        rw [if_pos (show Region.wanted (pc4d tB) _ = true from rfl)]
        refine oper_in (fun cl h => by cases h) ?_
        unfold Oper.wp
        have hrun : (execOp a6.eval (pc4d tB)).run C.P w2 = .ok (.value (.bool true)) w2 := by
          simp [execOp, pc4d, e29, Op.unary]
        rw [hrun]
        show (Code.cond _ _ _).wpIn _ _ _ _ (a6.put (some 30) (.bool true)) w2
        have hc30 : (a6.put (some 30) (.bool true)).eval (.tmp 30) = .bool true := by
          show (a6.put (some 30) (.bool true)).tmps.getD 30 undef = _
          simp [Act.put, Array.getD_eq_getD_getElem?, a6s]
        refine wpIn_cond hc30 ?_
        refine wpIn_ret ?_
        simp only [Exit.then, Exit.inBlock]
        show bodyPost C.P fn _ .ret _ w2
        refine ⟨by rw [put_defers, ha6, put_defers]; exact kd, .tuple #[], ?_, ⟨_, rfl⟩, .inr hJx2⟩
        simp [results, hrs]
  -- the start
  obtain ⟨σ1, p1, c1', hm1, hfr1, hG1, hp11, hp21, hl11, hl21⟩ := facts 0 M0 W h0
  refine callsIn_of_wp hf hb trivial ?_
  obtain ⟨b0, hb0⟩ : ∃ b0 : Act, b0 = { tmps := (#[Value.func (Fn.yield l) #[] #[]] ++ [y0, y1].toArray) ++ Array.replicate (fn.ntmps - (#[Value.func (Fn.yield l) #[] #[]] ++ [y0, y1].toArray).size) undef, defers := [] } := ⟨_, rfl⟩
  rw [← hb0]
  have a0s : b0.tmps.size = 32 := by rw [hb0, hnt]; simp
  have q0 : b0.tmps.getD 0 undef = yv := by rw [hb0, hyv]; simp [Array.getElem?_append]
  have q1 : b0.tmps.getD 1 undef = y0 := by rw [hb0]; simp [Array.getElem?_append]
  have q2 : b0.tmps.getD 2 undef = y1 := by rw [hb0]; simp [Array.getElem?_append]
  unfold pieceCode
  refine wpIn_seq (wpIn_region_list ?_)
  have hsr0 := hbt b0 [(1, .ptr r1 s1 o1)] M0 W σ1 p1 c1' hm1 hfr1 hG1 a0s (by
    simp only [List.mem_cons, List.not_mem_nil, or_false]
    rintro x rfl
    exact ⟨by dsimp only; omega, by rw [q1]; exact hp11⟩)
  have hops0 : ∃ s0, opsA C (fun _ _ _ _ => none) p1 (pc0 tI).toArray (pc0 tI) ⟨listT 32 [(1, .ptr r1 s1 o1)], 32, σ1, c1'⟩ = some s0 ∧ s0.t.get 4 = some (.i .i64 (a0 : Int)) ∧ s0.nt = 32 := by
    refine ⟨_, by
      simp only [pc0, opsA, stepA, guardA, opA, St.ev, listT, Option.bind_some, Option.map_some, if_true, if_false, Option.getD_some, put_get, St.put, Nat.reduceLT, T.get_set, Nat.reduceEqDiff, hl11]
      rfl, ?_, rfl⟩
    simp only [T.get_set, Nat.reduceEqDiff, if_true, if_false]
  obtain ⟨t0, ht0, ht04, ht0n⟩ := hops0
  refine opsP_all (call := fun _ _ _ _ => none) _ none (n0 + 1) (pc0 tI) _ _ b0 rfl hsr0 ht0 fun b1 h1 hd1 hk1 => ?_
  have r4 := h1.fr.tmp 4
  rw [ht04] at r4
  show (Code.block 0 _).wpIn _ _ _ _ _ _
  refine wpIn_block (wpIn_loop_rounds (f0 + 1) ?_)
  exact head (f0 + 1) 0 a0 f0 M0 W b1 (by omega) (by rw [List.drop_zero]; exact hys) (by omega) hab h0 (by rw [h1.fr.size]; exact ht0n) ((hk1 0 rfl).trans q0) ((hk1 1 rfl).trans q1) ((hk1 2 rfl).trans q2) r4.i_inv (hd1.trans (by rw [hb0]))
end
end Go.Am
