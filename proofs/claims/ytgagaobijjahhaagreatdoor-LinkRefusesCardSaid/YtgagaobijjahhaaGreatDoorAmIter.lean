/- slices.Backward's rounds, as the machine has them. -/
import Derived.Test.YtgagaobijjahhaaGreatDoorAmFun
import Derived.Test.YtgagaobijjahhaaGreatDoorAmSimp
import Derived.Test.YtgagaobijjahhaaGreatDoorJM
namespace Go.Am
open Go.RowKit
set_option linter.unusedVariables false
set_option linter.unusedSimpArgs false

section
variable {C : Cfg} {M M' : Mp} {w w' : World} {B0 : Nat} {p : List Nat}
theorem stepP_in {call : CallF} {s s' : St} {a : Act} (h : SR C B0 p M s a w) (ops : Array Oper) (o : Oper) (hm : memOp C o.op = false) (hst : stepA C call p ops o s = some s') (r : Option Nat) (n0 : Nat)
    {K : Act → World → Prop} {Q : Exit → Act → World → Prop} (hK : ∀ a', SR C B0 p M s' a' w → a'.defers = a.defers → (∀ d, o.dst ≠ some d → a'.tmps.getD d undef = a.tmps.getD d undef) → K a' w) :
    if Region.wanted o (yielded ops a.tmps) then o.wpIn (Fnc r) n0 C.P a w K Q else (∀ f, o.about C.P w a.eval = some f → (Fnc r).fn f) ∧ K (a.put o.dst undef) w := by
  have hkeep : ∀ y d, o.dst ≠ some d → (a.put o.dst y).tmps.getD d undef = a.tmps.getD d undef := by
    intro y d hd
    cases hdst : o.dst with
    | none => rfl
    | some d' =>
      have hne : d' ≠ d := fun e => hd (by rw [hdst, e])
      simp only [Act.put, Array.getD_eq_getD_getElem?]
      rw [Array.getElem?_setIfInBounds_ne hne]
  have hst0 := hst
  simp only [stepA, Option.bind_eq_some_iff] at hst
  obtain ⟨g, hg, hst⟩ := hst
  rw [guard_sound h.fr ops o hg]
  cases g with
  | true =>
    simp only [if_true] at hst ⊢
    have hop : ∃ v σ' c', opA C p (s.ev C) s.σ s.c o.op = some (v, σ', c') ∧ s' = (⟨s.t, s.nt, σ', c'⟩ : St).put o.dst v := by
      split at hst
      · rename_i f args ts hop; rw [hop] at hm; cases hm
      · simp only [Option.map_eq_some_iff] at hst
        obtain ⟨⟨v, σ', c'⟩, hc, rfl⟩ := hst
        exact ⟨v, σ', c', hc, rfl⟩
    obtain ⟨v, σ', c', hc, rfl⟩ := hop
    obtain ⟨e1, e2, _⟩ := opA_frame hm hc
    subst e1; subst e2
    obtain ⟨f1, f2, f3⟩ := put_keeps ⟨s.t, s.nt, s.σ, s.c⟩ o.dst v
    rcases op_sound (N := fun _ => True) (W := fun _ => True) h.mem.sep (fun r o _ ho => h.mem.obj r o ho) h.new.fr o hc (fun x _ => ev_rel h.gl h.fr x) (fun _ _ => trivial) (fun _ _ => trivial) with ⟨hcc, _⟩ | ⟨_, _, y, hrun, hr⟩
    · omega
    · refine oper_in (fun cl e => by rw [e] at hc; cases hc) ?_
      unfold Oper.wp
      rw [hrun]
      have hfr0 : FR M w (⟨s.t, s.nt, s.σ, s.c⟩ : St) a := ⟨h.fr.size, h.fr.tmp⟩
      exact hK _ ⟨by rw [f1]; exact h.mem, hfr0.put o.dst hr, by rw [f1, f2]; exact h.new, h.gl⟩ (put_defers _ _ _) (hkeep y)
  | false =>
    simp only [Bool.false_eq_true, if_false, Option.some.injEq] at hst ⊢
    subst hst
    obtain ⟨e1, e2, e3⟩ := put_keeps s o.dst .un
    exact ⟨fun _ _ => trivial, hK _ ⟨by rw [e1]; exact h.mem, h.fr.put o.dst rel_un, by rw [e1, e2]; exact h.new, h.gl⟩ (put_defers _ _ _) (hkeep undef)⟩
theorem opsP_in {call : CallF} (ops : Array Oper) (r : Option Nat) (n0 : Nat) {Q : Exit → Act → World → Prop} {rest : List Oper} : ∀ (l : List Oper) (s s' : St) (a : Act), (l.all fun o => !memOp C o.op) = true → SR C B0 p M s a w → opsA C call p ops l s = some s' →
    (∀ a', SR C B0 p M s' a' w → a'.defers = a.defers → (∀ d, (l.all fun o => o.dst != some d) = true → a'.tmps.getD d undef = a.tmps.getD d undef) → wpListIn (Fnc r) n0 C.P ops Q rest a' w) → wpListIn (Fnc r) n0 C.P ops Q (l ++ rest) a w := by
  intro l
  induction l with
  | nil =>
    intro s s' a hm h hs hQ
    simp [opsA] at hs; subst hs
    exact hQ a h rfl fun _ _ => rfl
  | cons o l ih =>
    intro s s' a hm h hs hQ
    simp only [List.all_cons, Bool.and_eq_true, Bool.not_eq_true'] at hm
    simp only [opsA, Option.bind_eq_some_iff] at hs
    obtain ⟨s1, hs1, hs⟩ := hs
    exact stepP_in (Q := Q) h ops o hm.1 hs1 r n0 (K := wpListIn (Fnc r) n0 C.P ops Q (l ++ rest)) fun a' h' hd hk => ih s1 s' a' hm.2 h' hs fun a2 h2 hd2 hk2 => hQ a2 h2 (hd2.trans hd) fun d hdl => by
      simp only [List.all_cons, Bool.and_eq_true, bne_iff_ne, ne_eq] at hdl
      exact (hk2 d hdl.2).trans (hk d hdl.1)
theorem opsP_all {call : CallF} (ops : Array Oper) (r : Option Nat) (n0 : Nat) {Q : Exit → Act → World → Prop} (l : List Oper) (s s' : St) (a : Act) (hm : (l.all fun o => !memOp C o.op) = true) (h : SR C B0 p M s a w) (hs : opsA C call p ops l s = some s')
    (hQ : ∀ a', SR C B0 p M s' a' w → a'.defers = a.defers → (∀ d, (l.all fun o => o.dst != some d) = true → a'.tmps.getD d undef = a.tmps.getD d undef) → Q .normal a' w) : wpListIn (Fnc r) n0 C.P ops Q l a w := by
  have := opsP_in (rest := []) ops r n0 l s s' a hm h hs hQ
  rwa [List.append_nil] at this
end
def e0 (on : Nat) : Edge := { on := on, ground := .data }
def e1 (on : Nat) : Edge := { on := on, ground := .phase }
def bk0 (tS tI : TypeId) : List Oper := [{ dst := some 4, op := .load tS (.tmp 1), type := tS, pos := "iter.go:28", after := #[], guard := none },
    { dst := some 5, op := .call { callee := .builtin .len, args := #[.tmp 4], argTypes := #[tS] }, type := tI, pos := "iter.go:28", after := #[e0 0], guard := none },
    { dst := some 6, op := .binOp .sub tI (.tmp 5) (.const (.int .i64 1)) tI, type := tI, pos := "iter.go:28", after := #[e0 1], guard := none },
    { dst := some 3, op := .assign (.tmp 6), type := tI, pos := "iter.go:28", after := #[e0 2, e1 0, e1 1, e1 2], guard := none }]
def bk1 (tI tB : TypeId) : List Oper := [{ dst := some 7, op := .move (.tmp 3), type := tI, pos := "iter.go:28", after := #[], guard := none },
      { dst := some 8, op := .binOp .geq tI (.tmp 7) (.const (.int .i64 0)) tI, type := tB, pos := "iter.go:28", after := #[e0 0], guard := none }]
def bk3a (tF : TypeId) : Oper := { dst := some 11, op := .move (.tmp 0), type := tF, pos := "iter.go:29", after := #[], guard := none }
def bk3b (tS tE tI : TypeId) : List Oper := [{ dst := some 12, op := .move (.tmp 3), type := tI, pos := "iter.go:29", after := #[], guard := none },
      { dst := some 13, op := .load tS (.tmp 1), type := tS, pos := "iter.go:29", after := #[], guard := none },
      { dst := some 14, op := .move (.tmp 3), type := tI, pos := "iter.go:29", after := #[], guard := none },
      { dst := some 15, op := .indexAddr tS (.tmp 13) (.tmp 14), type := 0, pos := "iter.go:29", after := #[e0 2, e0 3], guard := none },
      { dst := some 16, op := .load tE (.tmp 15), type := tE, pos := "iter.go:29", after := #[e0 4], guard := none }]
def bk3c (tE tI tB : TypeId) : Oper := { dst := some 17, op := .call { callee := .value (.tmp 11), args := #[.tmp 12, .tmp 16], argTypes := #[tI, tE] }, type := tB, pos := "iter.go:29", after := #[e0 0, e0 1, e0 5], guard := none }
def bk3d (tB : TypeId) : Oper := { dst := some 18, op := .unOp .not tB (.tmp 17), type := tB, pos := "iter.go:29", after := #[e0 6], guard := none }
def bk3 (tS tE tI tB tF : TypeId) : List Oper := bk3a tF :: (bk3b tS tE tI ++ [bk3c tE tI tB, bk3d tB])
def bk2 (tI : TypeId) : List Oper := [{ dst := some 9, op := .move (.tmp 3), type := tI, pos := "iter.go:28", after := #[], guard := none },
      { dst := some 10, op := .binOp .sub tI (.tmp 9) (.const (.int .i64 1)) tI, type := tI, pos := "iter.go:28", after := #[e0 0], guard := none },
      { dst := some 3, op := .assign (.tmp 10), type := tI, pos := "iter.go:28", after := #[e0 1, e1 0, e1 1], guard := none }]
def backBody (tS tE tI tB tF : TypeId) : Code :=
  ((Code.region 1 (bk1 tI tB).toArray false).seq (Code.cond (.tmp 8) .skip (.exit 0))).seq
    ((Code.block 1 ((Code.region 3 (bk3 tS tE tI tB tF).toArray false).seq (Code.cond (.tmp 18) .ret .skip))).seq (Code.region 2 (bk2 tI).toArray false))
def backCode (tS tE tI tB tF : TypeId) : Code := (Code.region 0 (bk0 tS tI).toArray false).seq (Code.block 0 (backBody tS tE tI tB tF).loop)
theorem backA_some {z : Nat} {cap : List V} {σ : List O} {rows : List Nat} {yss : List (List V)} (h : backA z cap σ = some (rows, yss)) :
    ∃ r st off cs s n l, cap = [.ptr r st off] ∧ rowAt σ r st = some cs ∧ cs[off]? = some s ∧ elems z σ s = some (n, l) ∧ noS s = true ∧ n ≤ 4611686018427387904 ∧ r ∈ rows ∧ (∀ x ∈ touch s, x ∈ rows) ∧ yss.length = n ∧
      ∀ k, k < n → yss[k]? = some [.i .i64 ((n - 1 - k : Nat) : Int), .agg ((l.drop ((n - 1 - k) * z)).take z)] := by
  unfold backA at h
  split at h
  · rename_i r st off
    simp only [Option.bind_eq_some_iff] at h
    obtain ⟨cs, h1, s, h2, h⟩ := h
    split at h
    case isFalse => cases h
    rename_i hns
    simp only [Option.bind_eq_some_iff] at h
    obtain ⟨⟨n, l⟩, h3, h⟩ := h
    simp only at h
    split at h
    case isFalse => cases h
    rename_i hle
    simp only [Option.some.injEq, Prod.mk.injEq] at h
    obtain ⟨rfl, rfl⟩ := h
    refine ⟨r, st, off, cs, s, n, l, rfl, h1, h2, h3, hns, hle, ?_, ?_, by simp, fun k hk => by simp [hk]⟩
    · split <;> simp
    · intro x hx
      cases s <;> simp only [touch, List.not_mem_nil, List.mem_singleton] at hx
      · subst hx
        split
        · rename_i r2 a b c d e heq
          cases heq
        · rename_i hh
          rename_i r' st' o'
          simp only [elems, reduceCtorEq] at h3
      · subst hx; simp
      · subst hx
        simp only [elems, reduceCtorEq] at h3
  · cases h
section
variable {C : Cfg}
theorem rel_bads {M : Mp} {w : World} {t : T V} {nt : Nat} {a : Act} (hs : a.tmps.size = nt) {σ : List O} {c : Nat} (h : ∀ d, d < nt → t.get d = some .bad ∨ ∃ v, t.get d = some v ∧ Rel M w v (a.tmps.getD d undef)) (hn : ∀ d, nt ≤ d → t.get d = none) : FR M w ⟨t, nt, σ, c⟩ a := by
  refine ⟨hs, fun d => ?_⟩
  by_cases hd : d < nt
  · rcases h d hd with e | ⟨v, e, hv⟩
    · simp only [e, Option.getD_some]; exact .bad _
    · simp only [e, Option.getD_some]; exact hv
  · have e := hn d (by omega)
    simp only [e, Option.getD_none]
    rw [Array.getD_eq_getD_getElem?, Array.getElem?_eq_none (by omega)]
    exact rel_un
def twoT (nt i j : Nat) (u v : V) : T V := ((T.ofList (List.replicate nt V.bad)).set i u).set j v
theorem twoT_get {nt i j d : Nat} {u v : V} (hi : i < nt) (hj : j < nt) : (twoT nt i j u v).get d = if d = j then some v else if d = i then some u else if d < nt then some .bad else none := by
  unfold twoT
  rw [T.get_set, T.get_set, T.ofList_get]
  split
  · rfl
  · split
    · rfl
    · split
      · rename_i h; rw [List.getElem?_replicate, if_pos h]
      · rename_i h; rw [List.getElem?_replicate, if_neg h]
theorem iter_backward {gf z tS tE tI tB tF : Nat} {fn : Func} (hf : C.P.funcs[gf]? = some fn) (hb : fn.body = some (backCode tS tE tI tB tF)) (hnt : fn.ntmps = 19) (hrs : fn.results = #[]) (hname : (fn.name != "runtime.NumGoroutine") = true)
    (hsh : C.shape tS = .slice tE) (hz : C.size tE = some z) (hz0 : z ≠ 0) (hag : C.isAgg tE = some true) (hagS : C.isAgg tS = some false) :
    ∀ cap σ rows yss, backA z cap σ = some (rows, yss) →
    (∀ args w, (callFunc gf args).run C.P w = .ok (.enter gf args) w) ∧
    ∀ (l n0 B0 : Nat) (lb : List Value) (J : Nat → Mp → World → Prop) (Jx : World → Prop) (M0 : Mp) (W : World),
      (∀ k M w, J k M w → GR C M w ∧ ∃ σk p c, MR B0 M σk w ∧ FrC M σk p c ∧ RelL M w cap lb ∧ ∀ r ∈ rows, σk[r]? = σ[r]?) →
      (∀ k M w w', J k M w → w.grownBy w' none → J k M w') → (∀ w w', Jx w → w.grownBy w' none → Jx w') →
      (∀ k vs M w ys, J k M w → yss[k]? = some vs → RelL M w vs ys → YieldAt Fence.wide n0 C.P l ys.toArray w fun e w' => (e = .returned (.bool true) ∧ ∃ M', J (k + 1) M' w') ∨ (e = .returned (.bool false) ∧ Jx w')) →
      J 0 M0 W → CallsIn Fence.wide (n0 + 1) C.P gf (#[.func (.yield l) #[] #[]] ++ lb.toArray) W fun e W' => (∃ v, e = .returned v) ∧ ((∃ M', J yss.length M' W') ∨ Jx W') := by
  intro cap σ rows yss hit
  obtain ⟨r, st, off, cs, s, n, els, rfl, hrow, hso, hel, hns, hnb, hr, htch, hlen, hys⟩ := backA_some hit
  refine ⟨fun args w => run_callFunc hname hf hb args w, fun l n0 B0 lb J Jx M0 W hJ hgrow hgrowx hY h0 => ?_⟩
  obtain ⟨hG0, σ0, p0, c0, hm0, hfr0, hlb0, hrows0⟩ := hJ 0 M0 W h0
  have hlb1 := hlb0.length
  obtain ⟨y0, rfl⟩ : ∃ y0, lb = [y0] := by
    cases lb with
    | nil => simp at hlb1
    | cons y ys => cases ys with
      | nil => exact ⟨y, rfl⟩
      | cons => simp at hlb1
  obtain ⟨yv, hyv⟩ : ∃ yv : Value, yv = .func (.yield l) #[] #[] := ⟨_, rfl⟩
  have facts : ∀ k M w, J k M w → ∃ σk p c, MR B0 M σk w ∧ FrC M σk p c ∧ GR C M w ∧ Rel M w (.ptr r st off) y0 ∧ rowAt σk r st = some cs ∧ elems z σk s = some (n, els) := by
    intro k M w h
    obtain ⟨hG, σk, p, c, hm, hfr, hlb, hrows⟩ := hJ k M w h
    refine ⟨σk, p, c, hm, hfr, hG, ?_, ?_, ?_⟩
    · cases hlb with | cons _ _ _ _ h1 _ => exact h1
    · rw [rowAt_congr (hrows r hr)]; exact hrow
    · rw [elems_congr fun x hx => hrows x (htch x hx)]; exact hel
  -- loads, at a memory that has these rows
  have hload : ∀ σk, rowAt σk r st = some cs → loadA C tS σk (.ptr r st off) = some s := fun σk h => by
    simp only [loadA, cellsAt, h, Option.map_some, Option.bind_some, hagS, Bool.false_eq_true, if_false]
    rw [List.getElem?_drop]; simpa using hso
  have hidx : ∀ σk, elems z σk s = some (n, els) → ∀ j : Nat, j < n → ∃ x, indexAddrA C tS s (.i .i64 (j : Int)) = some x ∧ loadA C tE σk x = some (.agg ((els.drop (j * z)).take z)) := by
    intro σk he j hj
    have hjz : j * z + z ≤ n * z := by
      have : (j + 1) * z ≤ n * z := Nat.mul_le_mul_right z (by omega)
      rw [Nat.add_mul, Nat.one_mul] at this; exact this
    have hidx : idx (.i .i64 (j : Int)) n = some j := by simp [idx, hj]
    cases s <;> simp only [elems, reduceCtorEq] at he
    · cases hns
    · simp at he; omega
    · rename_i r2 st2 o n2 es2 cap2
      split at he
      · rename_i hes
        have hes' := hes.symm
        subst hes'
        simp only [Option.bind_eq_some_iff, Option.map_eq_some_iff, Prod.mk.injEq] at he
        obtain ⟨row, hrow2, l2, hl2, rfl, rfl⟩ := he
        obtain ⟨q1, q2, q3⟩ := take?_some hl2
        refine ⟨.ptr r2 st2 (o + j * z), by simp only [indexAddrA, hsh, hz, Option.bind_some, hidx, if_neg hz0], ?_⟩
        simp only [loadA, cellsAt, hrow2, Option.map_some, Option.bind_some, hag, if_true, hz]
        have hll : o + n2 * z ≤ row.length := by
          unfold take? at hl2
          split at hl2
          · assumption
          · cases hl2
        rw [take?_of (by simp; omega), q1]
        simp only [List.drop_zero, Option.map_some]
        rw [List.drop_take, List.drop_drop, List.take_take, Nat.min_eq_left (by omega)]
      · cases he
    · rename_i cs2 n2 cl2
      simp only [Option.map_eq_some_iff, Prod.mk.injEq] at he
      obtain ⟨l2, hl2, rfl, rfl⟩ := he
      obtain ⟨q1, q2, q3⟩ := take?_some hl2
      refine ⟨.iptr (cs2.drop (j * z)), by simp only [indexAddrA, hsh, hz, Option.bind_some, hidx, if_neg hz0], ?_⟩
      simp only [loadA, cellsAt, Option.bind_some, hag, if_true, hz]
      have hll : 0 + n2 * z ≤ cs2.length := by
        unfold take? at hl2
        split at hl2
        · assumption
        · cases hl2
      rw [take?_of (by simp; omega), q1]
      simp only [List.drop_zero, Option.map_some]
      rw [List.drop_take, List.take_take, Nat.min_eq_left (by omega)]
  have hbt : ∀ (u : Act) (d : Nat) (v : V) (M : Mp) (w : World) (σk : List O) (p : List Nat) (c : Nat), MR B0 M σk w → FrC M σk p c → GR C M w → Rel M w (.ptr r st off) y0 → u.tmps.size = 19 → u.tmps.getD 1 undef = y0 → d < 19 → d ≠ 1 → Rel M w v (u.tmps.getD d undef) → SR C B0 p M ⟨twoT 19 1 d (.ptr r st off) v, 19, σk, c⟩ u w := by
    intro u d v M w σk p c hm hfr hG hptr hsz h1t hd hd1 hv
    refine ⟨hm, rel_bads hsz (fun x hx => ?_) (fun x hx => ?_), hfr, hG⟩
    · rw [twoT_get (by omega) hd]
      by_cases e1 : x = d
      · subst e1; rw [if_pos rfl]; exact .inr ⟨_, rfl, hv⟩
      · rw [if_neg e1]
        by_cases e2 : x = 1
        · subst e2; rw [if_pos rfl]; exact .inr ⟨_, rfl, by rw [h1t]; exact hptr⟩
        · rw [if_neg e2, if_pos hx]; exact .inl rfl
    · rw [twoT_get (by omega) hd, if_neg (by omega), if_neg (by omega), if_neg (by omega)]
  have gets : ∀ (d : Nat), d < 19 → ∀ (v : V) (x : Nat), (twoT 19 1 d (.ptr r st off) v).get x = if x = d then some v else if x = 1 then some (.ptr r st off) else if x < 19 then some .bad else none := fun d hd v x => twoT_get (by omega) hd
  -- the head of the loop
  have head : ∀ (m k : Nat) (M : Mp) (w : World) (a : Act), n - k < m → k ≤ n → J k M w → a.tmps.size = 19 → a.tmps.getD 0 undef = yv → a.tmps.getD 1 undef = y0 → a.tmps.getD 3 undef = .int .i64 ((n : Int) - 1 - k) → a.defers = [] →
      Code.roundsIn (Fnc none) (n0 + 1) C.P (backBody tS tE tI tB tF) (Exit.inBlock 0 (bodyPost C.P fn fun e W' => (∃ v, e = .returned v) ∧ ((∃ M', J yss.length M' W') ∨ Jx W'))) m a w := by
    intro m
    induction m with
    | zero => intro k M w a hm; omega
    | succ m ih =>
      intro k M w a hmk hkn hJk hsz h0t h1t h3t hdf
      obtain ⟨σk, p, c, hm, hfr, hG, hptr, hrowk, helk⟩ := facts k M w hJk
      have hsr := hbt a 3 (.i .i64 ((n : Int) - 1 - k)) M w σk p c hm hfr hG hptr hsz h1t (by omega) (by omega) (by rw [h3t]; exact .i _ _)
      rw [roundsIn_succ]
      unfold backBody
      refine wpIn_seq (wpIn_seq (wpIn_region_list ?_))
      have hops1 : opsA C (fun _ _ _ _ => none) p (bk1 tI tB).toArray (bk1 tI tB) ⟨twoT 19 1 3 (.ptr r st off) (.i .i64 ((n : Int) - 1 - k)), 19, σk, c⟩ = some (((⟨twoT 19 1 3 (.ptr r st off) (.i .i64 ((n : Int) - 1 - k)), 19, σk, c⟩ : St).put (some 7) (.i .i64 ((n : Int) - 1 - k))).put (some 8) (.b (decide ((0 : Int) ≤ (n : Int) - 1 - k)))) := by
        simp only [bk1, opsA, stepA, guardA, opA, St.ev, gets 3 (by omega), Option.bind_some, Option.map_some, if_true, if_false, Option.getD_some, put_get, St.put, Nat.reduceLT, T.get_set, Nat.reduceEqDiff, ofVal_int, binA_geq]
      refine opsP_all (call := fun _ _ _ _ => none) _ none (n0 + 1) (bk1 tI tB) _ _ a rfl hsr hops1 fun a1 h1 hd1 hk1 => ?_
      have hc8 : a1.eval (.tmp 8) = .bool (decide ((0 : Int) ≤ (n : Int) - 1 - k)) := by
        have := h1.fr.tmp 8
        simp only [St.put, T.get_set, Nat.reduceEqDiff, Nat.reduceLT, if_true, if_false, Option.getD_some] at this
        exact this.b_inv
      have g0 := (hk1 0 (by rfl)).trans h0t
      have g1 := (hk1 1 (by rfl)).trans h1t
      have g3 := (hk1 3 (by rfl)).trans h3t
      have gs : a1.tmps.size = 19 := h1.fr.size
      have gd : a1.defers = [] := hd1.trans hdf
      refine wpIn_cond hc8 ?_
      by_cases hlt : k < n
      case neg =>
        rw [decide_eq_false (by omega)]
        refine wpIn_exit ?_
        have hkn' : k = n := by omega
        simp only [Exit.then, Exit.inBlock, if_true]
        show bodyPost C.P fn _ .normal a1 w
        refine ⟨gd, .tuple #[], ?_, ⟨_, rfl⟩, .inl ⟨M, by rw [hlen, ← hkn']; exact hJk⟩⟩
        simp [results, hrs]
      rw [decide_eq_true (by omega)]
      refine wpIn_skip ?_
      show (Code.seq _ _).wpIn _ _ _ _ _ _
      refine wpIn_seq (wpIn_block (wpIn_seq (wpIn_region_list ?_)))
      have hsr1 := hbt a1 3 (.i .i64 ((n : Int) - 1 - k)) M w σk p c hm hfr hG hptr gs g1 (by omega) (by omega) (by rw [g3]; exact .i _ _)
      show wpListIn _ _ _ _ _ (bk3 tS tE tI tB tF) a1 w
      unfold bk3
      -- the first takes yield
      have hw1 : Region.wanted (bk3a tF) (yielded (bk3a tF :: (bk3b tS tE tI ++ [bk3c tE tI tB, bk3d tB])).toArray a1.tmps) = true := rfl
      show (if Region.wanted (bk3a tF) _ = true then _ else _)
      rw [if_pos hw1]
      refine oper_in (fun cl h => by cases h) ?_
      unfold Oper.wp
      have hrun1 : (execOp a1.eval (bk3a tF)).run C.P w = .ok (.value (a1.eval (.tmp 0))) w := by simp [execOp, bk3a]
      rw [hrun1]
      show wpListIn _ _ _ _ _ _ (a1.put (some 11) (a1.eval (.tmp 0))) w
      obtain ⟨a2, ha2⟩ : ∃ a2, a2 = a1.put (some 11) (a1.eval (.tmp 0)) := ⟨_, rfl⟩
      rw [← ha2]
      have ev0 : a1.eval (.tmp 0) = yv := g0
      have gput : ∀ d, d < 19 → a2.tmps.getD d undef = if d = 11 then yv else a1.tmps.getD d undef := by
        intro d hd
        rw [ha2, ev0]
        simp only [Act.put, Array.getD_eq_getD_getElem?, Array.getElem?_setIfInBounds]
        by_cases e : 11 = d
        · subst e; simp [gs]
        · rw [if_neg e, if_neg (Ne.symm e)]
      have a2s : a2.tmps.size = 19 := by rw [ha2]; simp [Act.put, gs]
      have a2d : a2.defers = [] := by rw [ha2]; exact gd
      have hj : ((n : Int) - 1 - k) = ((n - 1 - k : Nat) : Int) := by omega
      have hsr2 := hbt a2 3 (.i .i64 ((n - 1 - k : Nat) : Int)) M w σk p c hm hfr hG hptr a2s (by rw [gput 1 (by omega)]; exact g1) (by omega) (by omega) (by rw [gput 3 (by omega), if_neg (by omega), g3, hj]; exact .i _ _)
      obtain ⟨x, hx1, hx2⟩ := hidx σk helk (n - 1 - k) (by omega)
      have hops3 : ∃ s3, opsA C (fun _ _ _ _ => none) p (bk3a tF :: (bk3b tS tE tI ++ [bk3c tE tI tB, bk3d tB])).toArray (bk3b tS tE tI) ⟨twoT 19 1 3 (.ptr r st off) (.i .i64 ((n - 1 - k : Nat) : Int)), 19, σk, c⟩ = some s3 ∧
          s3.t.get 12 = some (.i .i64 ((n - 1 - k : Nat) : Int)) ∧ s3.t.get 16 = some (.agg ((els.drop ((n - 1 - k) * z)).take z)) ∧ s3.nt = 19 := by
        refine ⟨_, by
          simp only [bk3b, opsA, stepA, guardA, opA, St.ev, gets 3 (by omega), Option.bind_some, Option.map_some, if_true, if_false, Option.getD_some, put_get, St.put, Nat.reduceLT, T.get_set, Nat.reduceEqDiff, ofVal_int, hload σk hrowk, hx1, hx2]
          rfl, ?_, ?_, rfl⟩
        · simp only [T.get_set, Nat.reduceEqDiff, if_true, if_false]
        · simp only [T.get_set, Nat.reduceEqDiff, if_true, if_false]
      obtain ⟨s3, hs3, hs12, hs16, hs3n⟩ := hops3
      refine opsP_in (call := fun _ _ _ _ => none) _ none (n0 + 1) (bk3b tS tE tI) _ _ a2 rfl hsr2 hs3 fun a3 h3 hd3 hk3 => ?_
      have k11 : a3.tmps.getD 11 undef = yv := (hk3 11 rfl).trans (by rw [gput 11 (by omega), if_pos rfl])
      have k0 : a3.tmps.getD 0 undef = yv := (hk3 0 rfl).trans (by rw [gput 0 (by omega), if_neg (by omega)]; exact g0)
      have k1 : a3.tmps.getD 1 undef = y0 := (hk3 1 rfl).trans (by rw [gput 1 (by omega), if_neg (by omega)]; exact g1)
      have k3 : a3.tmps.getD 3 undef = .int .i64 ((n : Int) - 1 - k) := (hk3 3 rfl).trans (by rw [gput 3 (by omega), if_neg (by omega)]; exact g3)
      have ks : a3.tmps.size = 19 := by
        have := h3.fr.size
        rw [this]; exact hs3n
      have kd : a3.defers = [] := hd3.trans a2d
      have r12 := h3.fr.tmp 12
      rw [hs12] at r12
      have r16 := h3.fr.tmp 16
      rw [hs16] at r16
      -- the round
      obtain ⟨fnY, tmpsY, asY, boY, hyrun, hround⟩ := hY k _ M w [a3.tmps.getD 12 undef, a3.tmps.getD 16 undef] hJk (hys k hlt) (.cons _ _ _ _ r12 (.cons _ _ _ _ r16 .nil))
      show (if Region.wanted (bk3c tE tI tB) _ = true then _ else _)
      rw [if_pos (show Region.wanted (bk3c tE tI tB) _ = true from rfl)]
      refine ⟨fun _ _ => trivial, ?_⟩
      have hcall : (Oper.semAt none a3.eval (bk3c tE tI tB)).run C.P w = .ok (.round l fnY tmpsY asY boY) w := by
        have e11 : a3.eval (.tmp 11) = .func (.yield l) #[] #[] := by rw [← hyv]; exact k11
        rw [Oper.semAt_none]
        simp only [execOp, bk3c, resolve, e11, Deferred.ofValue, Sem.run_bind, Sem.run_pure, Result.andThen_ok, invoke]
        have harr : (#[] : Array Value) ++ Array.map a3.eval #[.tmp 12, .tmp 16] = [a3.tmps.getD 12 undef, a3.tmps.getD 16 undef].toArray := by
          have e12 : a3.eval (.tmp 12) = a3.tmps.getD 12 undef := rfl
          have e16 : a3.eval (.tmp 16) = a3.tmps.getD 16 undef := rfl
          rw [← e12, ← e16]
          simp
        rw [harr]
        exact hyrun
      rw [show (Fnc none).round = none from rfl, hcall]
      refine ⟨fun hh => (by cases hh), RoundIn.mono hround ?_⟩
      rintro e w2 (⟨rfl, M2, hJ2⟩ | ⟨rfl, hJx2⟩)
      · -- it goes on
        obtain ⟨σ2, p2, c2, hm2, hfr2, hG2, hptr2, hrow2, hel2⟩ := facts (k + 1) M2 w2 hJ2
        show wpListIn _ _ _ _ _ [bk3d tB] (a3.put (some 17) (.bool true)) w2
        obtain ⟨a4, ha4⟩ : ∃ a4, a4 = a3.put (some 17) (.bool true) := ⟨_, rfl⟩
        rw [← ha4]
        have g4 : ∀ d, d < 19 → a4.tmps.getD d undef = if d = 17 then .bool true else a3.tmps.getD d undef := by
          intro d hd
          rw [ha4]
          simp only [Act.put, Array.getD_eq_getD_getElem?, Array.getElem?_setIfInBounds]
          by_cases e : 17 = d
          · subst e; simp [ks]
          · rw [if_neg e, if_neg (Ne.symm e)]
        have a4s : a4.tmps.size = 19 := by rw [ha4]; simp [Act.put, ks]
        have a4d : a4.defers = [] := by rw [ha4]; exact kd
        have hsr4 := hbt a4 17 (.b true) M2 w2 σ2 p2 c2 hm2 hfr2 hG2 hptr2 a4s (by rw [g4 1 (by omega), if_neg (by omega)]; exact k1) (by omega) (by omega) (by rw [g4 17 (by omega), if_pos rfl]; exact .b _)
        have hops4 : ∃ s4, opsA C (fun _ _ _ _ => none) p2 (bk3a tF :: (bk3b tS tE tI ++ [bk3c tE tI tB, bk3d tB])).toArray [bk3d tB] ⟨twoT 19 1 17 (.ptr r st off) (.b true), 19, σ2, c2⟩ = some s4 ∧ s4.t.get 18 = some (.b false) ∧ s4.nt = 19 := by
          refine ⟨_, by
            simp only [bk3d, opsA, stepA, guardA, opA, St.ev, gets 17 (by omega), Option.bind_some, Option.map_some, if_true, if_false, Option.getD_some, put_get, St.put, Nat.reduceLT, T.get_set, Nat.reduceEqDiff, toVal_b, unA_not, Bool.not_true]
            rfl, ?_, rfl⟩
          simp only [T.get_set, Nat.reduceEqDiff, if_true, if_false]
        obtain ⟨s4, hs4, hs18, hs4n⟩ := hops4
        refine opsP_all (call := fun _ _ _ _ => none) _ none (n0 + 1) [bk3d tB] _ _ a4 rfl hsr4 hs4 fun a5 h5 hd5 hk5 => ?_
        have r18 := h5.fr.tmp 18
        rw [hs18] at r18
        have hc18 : a5.eval (.tmp 18) = .bool false := r18.b_inv
        refine wpIn_cond hc18 ?_
        refine wpIn_skip ?_
        show (Code.region 2 _ false).wpIn _ _ _ _ _ _
        refine wpIn_region_list ?_
        have a5s : a5.tmps.size = 19 := by rw [h5.fr.size]; exact hs4n
        have j3 : a5.tmps.getD 3 undef = .int .i64 ((n : Int) - 1 - k) := (hk5 3 rfl).trans (by rw [g4 3 (by omega), if_neg (by omega)]; exact k3)
        have j1 : a5.tmps.getD 1 undef = y0 := (hk5 1 rfl).trans (by rw [g4 1 (by omega), if_neg (by omega)]; exact k1)
        have j0 : a5.tmps.getD 0 undef = yv := (hk5 0 rfl).trans (by rw [g4 0 (by omega), if_neg (by omega)]; exact k0)
        have hsr5 := hbt a5 3 (.i .i64 ((n : Int) - 1 - k)) M2 w2 σ2 p2 c2 hm2 hfr2 hG2 hptr2 a5s j1 (by omega) (by omega) (by rw [j3]; exact .i _ _)
        have hops5 : ∃ s5, opsA C (fun _ _ _ _ => none) p2 (bk2 tI).toArray (bk2 tI) ⟨twoT 19 1 3 (.ptr r st off) (.i .i64 ((n : Int) - 1 - k)), 19, σ2, c2⟩ = some s5 ∧ s5.t.get 3 = some (.i .i64 ((n : Int) - 1 - (k + 1 : Nat))) ∧ s5.nt = 19 := by
          refine ⟨_, by
            simp only [bk2, opsA, stepA, guardA, opA, St.ev, gets 3 (by omega), Option.bind_some, Option.map_some, if_true, if_false, Option.getD_some, put_get, St.put, Nat.reduceLT, T.get_set, Nat.reduceEqDiff, ofVal_int, binA_sub]
            rfl, ?_, rfl⟩
          simp only [T.get_set, Nat.reduceEqDiff, if_true, if_false]
          rw [wrap_i64 (by omega) (by omega)]
          congr 2; omega
        obtain ⟨s5, hs5, hs53, hs5n⟩ := hops5
        refine opsP_all (call := fun _ _ _ _ => none) _ none (n0 + 1) (bk2 tI) _ _ a5 rfl hsr5 hs5 fun a6 h6 hd6 hk6 => ?_
        have r3 := h6.fr.tmp 3
        rw [hs53] at r3
        exact ih (k + 1) M2 w2 a6 (by omega) (by omega) hJ2 (by rw [h6.fr.size]; exact hs5n) ((hk6 0 rfl).trans j0) ((hk6 1 rfl).trans j1) r3.i_inv (hd6.trans (hd5.trans a4d))
      · -- no more
        show wpListIn _ _ _ _ _ [bk3d tB] (a3.put (some 17) (.bool false)) w2
        obtain ⟨a4, ha4⟩ : ∃ a4, a4 = a3.put (some 17) (.bool false) := ⟨_, rfl⟩
        rw [← ha4]
        have e17 : a4.eval (.tmp 17) = .bool false := by
          rw [ha4]
          show (a3.put (some 17) (.bool false)).tmps.getD 17 undef = _
          simp [Act.put, Array.getD_eq_getD_getElem?, ks]
        have a4s : a4.tmps.size = 19 := by rw [ha4]; simp [Act.put, ks]
        show (if Region.wanted (bk3d tB) _ = true then _ else _)
        rw [if_pos (show Region.wanted (bk3d tB) _ = true from rfl)]
        refine oper_in (fun cl h => by cases h) ?_
        unfold Oper.wp
        have hrun : (execOp a4.eval (bk3d tB)).run C.P w2 = .ok (.value (.bool true)) w2 := by
          simp [execOp, bk3d, e17, Op.unary]
        rw [hrun]
        show (Code.cond _ _ _).wpIn _ _ _ _ (a4.put (some 18) (.bool true)) w2
        have hc18 : (a4.put (some 18) (.bool true)).eval (.tmp 18) = .bool true := by
          show (a4.put (some 18) (.bool true)).tmps.getD 18 undef = _
          simp [Act.put, Array.getD_eq_getD_getElem?, a4s]
        refine wpIn_cond hc18 ?_
        refine wpIn_ret ?_
        simp only [Exit.then, Exit.inBlock]
        show bodyPost C.P fn _ .ret _ w2
        refine ⟨by rw [put_defers, ha4, put_defers]; exact kd, .tuple #[], ?_, ⟨_, rfl⟩, .inr hJx2⟩
        simp [results, hrs]
  -- the start
  have hlenA : ∀ σk : List O, elems z σk s = some (n, els) → lenA C tS σk s = some (.i .i64 n) := by
    intro σk he
    cases s <;> simp only [elems, reduceCtorEq] at he
    · cases hns
    · simp at he; obtain ⟨rfl, _⟩ := he; simp only [lenA, hsh]; rfl
    · split at he
      · simp only [Option.bind_eq_some_iff, Option.map_eq_some_iff, Prod.mk.injEq] at he
        obtain ⟨row, _, l2, _, rfl, rfl⟩ := he
        simp only [lenA, hsh]
      · cases he
    · simp only [Option.map_eq_some_iff, Prod.mk.injEq] at he
      obtain ⟨l2, _, rfl, rfl⟩ := he
      simp only [lenA, hsh]
  obtain ⟨σ1, p1, c1, hm1, hfr1, hG1, hptr1, hrow1, hel1⟩ := facts 0 M0 W h0
  refine callsIn_of_wp hf hb trivial ?_
  obtain ⟨a0, ha0⟩ : ∃ a0 : Act, a0 = { tmps := (#[Value.func (Fn.yield l) #[] #[]] ++ [y0].toArray) ++ Array.replicate (fn.ntmps - (#[Value.func (Fn.yield l) #[] #[]] ++ [y0].toArray).size) undef, defers := [] } := ⟨_, rfl⟩
  rw [← ha0]
  have a0s : a0.tmps.size = 19 := by rw [ha0, hnt]; simp
  have q0 : a0.tmps.getD 0 undef = yv := by rw [ha0, hyv]; simp [Array.getElem?_append]
  have q1 : a0.tmps.getD 1 undef = y0 := by rw [ha0]; simp [Array.getElem?_append]
  unfold backCode
  refine wpIn_seq (wpIn_region_list ?_)
  have hsr0 := hbt a0 3 .bad M0 W σ1 p1 c1 hm1 hfr1 hG1 hptr1 a0s q1 (by omega) (by omega) (.bad _)
  have hops0 : ∃ s0, opsA C (fun _ _ _ _ => none) p1 (bk0 tS tI).toArray (bk0 tS tI) ⟨twoT 19 1 3 (.ptr r st off) .bad, 19, σ1, c1⟩ = some s0 ∧ s0.t.get 3 = some (.i .i64 ((n : Int) - 1 - (0 : Nat))) ∧ s0.nt = 19 := by
    refine ⟨_, by
      simp only [bk0, opsA, stepA, guardA, opA, St.ev, gets 3 (by omega), Option.bind_some, Option.map_some, if_true, if_false, Option.getD_some, put_get, St.put, Nat.reduceLT, T.get_set, Nat.reduceEqDiff, ofVal_int, binA_sub, hload σ1 hrow1, changes, Bool.false_eq_true, builtinP, List.map_cons, List.map_nil, hlenA σ1 hel1]
      rfl, ?_, rfl⟩
    simp only [T.get_set, Nat.reduceEqDiff, if_true, if_false]
    rw [wrap_i64 (by omega) (by omega)]
    congr 2; omega
  obtain ⟨s0, hs0, hs03, hs0n⟩ := hops0
  refine opsP_all (call := fun _ _ _ _ => none) _ none (n0 + 1) (bk0 tS tI) _ _ a0 rfl hsr0 hs0 fun a1 h1 hd1 hk1 => ?_
  have r3 := h1.fr.tmp 3
  rw [hs03] at r3
  show (Code.block 0 _).wpIn _ _ _ _ _ _
  refine wpIn_block (wpIn_loop_rounds (n + 1) ?_)
  exact head (n + 1) 0 M0 W a1 (by omega) (by omega) h0 (by rw [h1.fr.size]; exact hs0n) ((hk1 0 rfl).trans q0) ((hk1 1 rfl).trans q1) r3.i_inv (hd1.trans (by rw [ha0]))
end
end Go.Am
