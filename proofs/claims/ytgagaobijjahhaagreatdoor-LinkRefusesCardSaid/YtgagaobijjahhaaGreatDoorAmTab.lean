/- Functions told by contracts, as a list; rows of elements of one kind, read at frozen arguments. -/
import Derived.Test.YtgagaobijjahhaaGreatDoorJP
import Derived.Test.YtgagaobijjahhaaGreatDoorJM
import Derived.Test.YtgagaobijjahhaaGreatDoorAmPrim
namespace Go.Am
set_option linter.unusedVariables false
set_option linter.unusedSimpArgs false
structure PE where
  f : Nat
  a : List V → List O → Option V
  b : List V → Mem → Option V
noncomputable def findP (f : Nat) : List PE → Option PE
  | [] => none
  | x :: l => match Nat.beq f x.f with | true => some x | false => findP f l
theorem findP_some : ∀ {l : List PE} {f : Nat} {x : PE}, findP f l = some x → x ∈ l ∧ f = x.f
  | [], _, _, h => by cases h
  | y :: l, f, x, h => by
    unfold findP at h
    split at h
    · rename_i e
      cases h
      exact ⟨List.mem_cons_self .., Nat.eq_of_beq_eq_true e⟩
    · obtain ⟨h1, h2⟩ := findP_some h
      exact ⟨List.mem_cons_of_mem _ h1, h2⟩
noncomputable def primL (l : List PE) (f : Nat) : Option (List V → List O → Option V) := match findP f l with | some x => some x.a | none => none
noncomputable def primLB (l : List PE) (f : Nat) : Option (List V → Mem → Option V) := match findP f l with | some x => some x.b | none => none
def PE.ok (C : Cfg) (x : PE) : Prop := PrimAt C x.f x.a ∧ ∀ args m σ v, MB m σ → x.b args m = some v → x.a args σ = some v
theorem primL_at {C : Cfg} {l : List PE} (h : ∀ x ∈ l, x.ok C) : ∀ f g, primL l f = some g → PrimAt C f g := by
  intro f g hg
  unfold primL at hg
  split at hg
  · rename_i x hx
    cases hg
    obtain ⟨h1, rfl⟩ := findP_some hx
    exact (h x h1).1
  · cases hg
theorem primL_none {l : List PE} {f : Nat} (h : primLB l f = none) : primL l f = none := by
  unfold primLB at h
  unfold primL
  split at h
  · cases h
  · rfl
theorem primL_b {C : Cfg} {l : List PE} (h : ∀ x ∈ l, x.ok C) : ∀ f g, primLB l f = some g → ∃ g', primL l f = some g' ∧ ∀ args m σ v, MB m σ → g args m = some v → g' args σ = some v := by
  intro f g hg
  unfold primLB at hg
  split at hg
  · rename_i x hx
    cases hg
    refine ⟨x.a, ?_, (h x (findP_some hx).1).2⟩
    unfold primL; rw [hx]
  · cases hg
noncomputable def pFrz (C : Cfg) (f : Nat) (args : List V) (σ : List O) : Option V :=
  match runF C f (args.map (freezeC 0 σ)) [] [] with
  | some (v, []) => if V.cleanL true (args.map (freezeC 0 σ)) && v.clean false then some v else none
  | _ => none
theorem pFrz_of {C : Cfg} {f : Nat} {args : List V} {σ : List O} {v : V} (h : runF C f (args.map (freezeC 0 σ)) [] [] = some (v, [])) (h1 : V.cleanL true (args.map (freezeC 0 σ)) = true) (h2 : v.clean false = true) : pFrz C f args σ = some v := by
  unfold pFrz; rw [h]; simp [h1, h2]
theorem primAt_pFrz {C C' : Cfg} (hcall : ∀ k, CallOk C (runA C k)) (hgl : ∀ g cs, C.glob g = some cs → V.cleanL true cs = true) (hP : C'.P = C.P) (hG : C'.glob = C.glob) {f : Nat} : PrimAt C' f (pFrz C f) := by
  refine primAt_frz hcall hgl hP hG fun args σ v hv => ?_
  unfold pFrz at hv
  split at hv
  case h_2 => cases hv
  rename_i v' hr
  split at hv
  case isFalse => cases hv
  rename_i hc
  cases hv
  obtain ⟨k, hk⟩ := runF_some hr
  exact ⟨k, [], _, hk, (Bool.and_eq_true_iff.1 hc).1, (Bool.and_eq_true_iff.1 hc).2, fun _ _ _ h => h⟩

theorem fk_clean {v : V} {fr : Bool} (h : v.fk ≠ none) : v.clean fr = true := by
  cases v <;> simp [V.fk, V.clean] at h ⊢
theorem fk_cleanL {fr : Bool} : ∀ {l : List V}, (∀ c ∈ l, c.fk ≠ none) → V.cleanL fr l = true
  | [], _ => rfl
  | a :: l, h => by
    simp only [V.cleanL, Bool.and_eq_true]
    exact ⟨fk_clean (h a (by simp)), fk_cleanL fun c hc => h c (by simp [hc])⟩
theorem fk_frz {v : V} {base d : Nat} {σ : List O} (h : v.fk ≠ none) : freeze1 base σ d v = v := by
  cases d <;> cases v <;> simp [V.fk, freeze1] at h ⊢
theorem fk_frzL {base d : Nat} {σ : List O} {l : List V} (h : ∀ c ∈ l, c.fk ≠ none) : l.map (freeze1 base σ d) = l := by
  have : l.map (freeze1 base σ d) = l.map id := List.map_congr_left fun c hc => fk_frz (h c hc)
  rw [this, List.map_id]
noncomputable def rowz : V → Bool
  | .nils => true
  | .sl _ _ _ _ _ _ => true
  | .arr [] 0 _ => true
  | _ => false
theorem frz_elems {x : V} {z n d : Nat} {els : List V} {σ : List O} (hr : rowz x = true) (h : elems z σ x = some (n, els)) (hk : ∀ c ∈ els, c.fk ≠ none) :
    (freeze1 0 σ (d + 1) x = .nils ∧ n = 0 ∧ els = []) ∨ (els.length = n * z ∧ ∃ cl, freeze1 0 σ (d + 1) x = .arr els n cl) := by
  unfold rowz at hr
  split at hr
  · cases h; exact .inl ⟨rfl, rfl, rfl⟩
  · rename_i r st o n' es cap
    simp only [elems] at h
    split at h
    case isFalse => cases h
    rename_i e
    subst e
    simp only [Option.bind_eq_some_iff, Option.map_eq_some_iff, Prod.mk.injEq] at h
    obtain ⟨row, hrow, l, hl, rfl, rfl⟩ := h
    obtain ⟨q1, q2, q3⟩ := take?_some hl
    refine .inr ⟨?_, ?_⟩
    · have := q2; omega
    · simp only [freeze1, Nat.zero_le, if_true, hrow]
      split
      · rename_i h0
        subst h0
        have : l = [] := by rw [q1]; simp
        exact ⟨_, by rw [this]⟩
      · refine ⟨cap == some n', ?_⟩
        have : (row.drop o).take (n' * es) = l := q1.symm
        rw [this, fk_frzL hk]
  · rename_i cl
    simp only [elems, take?, Nat.zero_mul, Nat.zero_add, List.length_nil, Nat.le_refl, if_true, List.drop_zero, List.take_nil, Option.map_some, Option.some.injEq, Prod.mk.injEq] at h
    obtain ⟨rfl, rfl⟩ := h
    exact .inr ⟨by simp, cl, rfl⟩
  · cases hr
noncomputable def eatF : List Fk → List V → Option (List V)
  | [], l => some l
  | k :: ks, v :: l => match fkB v k with | true => eatF ks l | false => none
  | _ :: _, [] => none
theorem fkB_fk {v : V} {k : Fk} (h : fkB v k = true) : v.fk = some k := by
  have := fksOk_map (us := [v]) (l := [k]) (by unfold fksOk; rw [h]; rfl)
  simpa using this
theorem eatF_some : ∀ {ks : List Fk} {l r : List V}, eatF ks l = some r → ∃ a, l = a ++ r ∧ a.map V.fk = ks.map some
  | [], l, r, h => by cases h; exact ⟨[], rfl, rfl⟩
  | k :: ks, [], r, h => by cases h
  | k :: ks, v :: l, r, h => by
    unfold eatF at h
    split at h
    · rename_i e
      obtain ⟨a, rfl, h2⟩ := eatF_some h
      exact ⟨v :: a, rfl, by simp [fkB_fk e, h2]⟩
    · cases h
noncomputable def chkN (ks : List Fk) : Nat → List V → Bool
  | 0, l => match l with | [] => true | _ => false
  | n + 1, l => match eatF ks l with | some r => chkN ks n r | none => false
theorem chkN_ok {ks : List Fk} : ∀ {n : Nat} {l : List V}, chkN ks n l = true → l.length = n * ks.length ∧ (∀ i, i < n → ((l.drop (i * ks.length)).take ks.length).map V.fk = ks.map some) ∧ ∀ c ∈ l, c.fk ≠ none
  | 0, l, h => by
    unfold chkN at h
    split at h
    · exact ⟨by simp, fun i hi => (by omega), fun c hc => (by cases hc)⟩
    · cases h
  | n + 1, l, h => by
    unfold chkN at h
    split at h
    case h_2 => cases h
    rename_i r hr
    obtain ⟨a, rfl, ha⟩ := eatF_some hr
    obtain ⟨h1, h2, h3⟩ := chkN_ok h
    have hl : a.length = ks.length := by have := congrArg List.length ha; simpa using this
    refine ⟨by rw [List.length_append, h1, hl, Nat.succ_mul]; omega, fun i hi => ?_, fun c hc => ?_⟩
    · cases i with
      | zero => simp [← hl, ha]
      | succ i =>
        have : (i + 1) * ks.length = a.length + i * ks.length := by rw [hl, Nat.succ_mul]; omega
        rw [this, List.drop_append, List.drop_of_length_le (by omega), List.nil_append, Nat.add_sub_cancel_left]
        exact h2 i (by omega)
    · rcases List.mem_append.1 hc with hc | hc
      · intro e
        have : V.fk c ∈ a.map V.fk := List.mem_map_of_mem hc
        rw [ha, e] at this
        simp at this
      · exact h3 c hc
theorem flat_row {w : Nat} : ∀ {L : List (List V)} {i : Nat}, (∀ l ∈ L, l.length = w) → i < L.length → (L.flatten.drop (i * w)).take w = L.getD i []
  | [], i, _, h => by simp at h
  | a :: L, 0, hl, h => by
    have ha := hl a (by simp)
    simp [List.take_append, ha]
  | a :: L, i + 1, hl, h => by
    have ha := hl a (by simp)
    have e : (i + 1) * w = a.length + i * w := by rw [ha, Nat.succ_mul]; omega
    rw [List.flatten_cons, e, List.drop_append, List.drop_of_length_le (by omega), List.nil_append, Nat.add_sub_cancel_left, flat_row (fun l h => hl l (by simp [h])) (by simpa using h)]
    simp
noncomputable def secsB (ks : List Fk) (w : Nat) (m : Mem) : V → Option Nat
  | .sl r st 0 n es _ => match m.get r with
    | some (.tab st' k w' d ov) => (match stEq st' st && (Nat.beq es w && (Nat.beq w' w && (Nat.ble n k && chkN ks 1 d))) with | true => some n | false => none)
    | _ => none
  | _ => none
theorem secsB_ok {ks : List Fk} {w n : Nat} {m : Mem} {σ : List O} {x : V} (hm : MB m σ) (hw : ks.length = w) (h : secsB ks w m x = some n) :
    rowz x = true ∧ ∃ els, elems w σ x = some (n, els) ∧ els.length = n * w ∧ (∀ i, i < n → ((els.drop (i * w)).take w).map V.fk = ks.map some) := by
  unfold secsB at h
  split at h
  case h_2 => cases h
  rename_i r st n' es cap
  split at h
  case h_2 => cases h
  rename_i st' k w' d ov hr
  split at h
  case h_2 => cases h
  rename_i hc
  cases h
  simp only [Bool.and_eq_true] at hc
  obtain ⟨c1, c2, c3, c4, c5⟩ := hc
  have c2 := (Nat.eq_of_beq_eq_true c2).symm
  have c3 := (Nat.eq_of_beq_eq_true c3).symm
  have c4 := Nat.le_of_ble_eq_true c4
  subst c2; subst c3
  obtain ⟨_, hd, ho⟩ := hm.tab hr
  have hrow := hm.rowT hr c1
  have hall := rows_ok (n := k) hd ho
  have hlen : (rowsOf k d ov).flatten.length = k * w := by rw [fl_len hall, rows_len]
  have hnk : n * w ≤ k * w := Nat.mul_le_mul_right _ c4
  refine ⟨rfl, (rowsOf k d ov).flatten.take (n * w), ?_, by rw [List.length_take, hlen]; omega, fun i hi => ?_⟩
  · simp only [elems, if_true, hrow, Option.bind_some, take?, Nat.zero_add, List.drop_zero]
    rw [if_pos (by rw [hlen]; exact hnk)]; rfl
  · have hiw : i * w + w ≤ n * w := by rw [← Nat.succ_mul]; exact Nat.mul_le_mul_right _ hi
    rw [List.drop_take, List.take_take, Nat.min_eq_left (by omega), flat_row hall (by rw [rows_len]; omega)]
    have hg := rows_get (d := d) (ov := ov) (show i < k by omega)
    rw [List.getD_eq_getElem?_getD, hg, Option.getD_some]
    have one : ∀ l, chkN ks 1 l = true → l.map V.fk = ks.map some := fun l hl => by
      obtain ⟨h1, h2, _⟩ := chkN_ok hl
      have := h2 0 (by omega)
      rw [Nat.zero_mul, List.drop_zero, List.take_of_length_le (by omega)] at this
      exact this
    cases e : ov.get i with
    | none => exact one d c5
    | some l => rw [Option.getD_some, hm.tabK hr i l e]; exact one d c5
noncomputable def rowW (z : Nat) (m : Mem) (x : V) : Option (Nat × List V) :=
  match x with
  | .nils => some (0, [])
  | .arr [] 0 _ => some (0, [])
  | .sl r st 0 n es _ => (match Nat.beq es z with
    | true => (match m.get r with
      | some (.o (.cells st' cs)) => (match stEq st' st with | true => some (n, cs) | false => none)
      | _ => none)
    | false => none)
  | _ => none
theorem rowW_ok {z n : Nat} {m : Mem} {σ : List O} {x : V} {cs : List V} (hm : MB m σ) (h : rowW z m x = some (n, cs)) (hl : cs.length = n * z) : rowz x = true ∧ elems z σ x = some (n, cs) := by
  unfold rowW at h
  split at h
  · cases h; exact ⟨rfl, rfl⟩
  · cases h; exact ⟨rfl, by simp [elems, take?]⟩
  · rename_i r st n' es cap
    split at h
    case h_2 => cases h
    rename_i he
    split at h
    case h_2 => cases h
    rename_i st' cs' hr
    split at h
    case h_2 => cases h
    rename_i hst
    cases h
    refine ⟨rfl, ?_⟩
    simp only [elems, if_pos (Nat.eq_of_beq_eq_true he), hm.row hr hst, Option.bind_some, take?, Nat.zero_add, List.drop_zero]
    rw [if_pos (by omega), List.take_of_length_le (by omega)]; rfl
  · cases h
noncomputable def is8 (x : V) : Bool := match x with | .i .u8 _ => true | _ => false
noncomputable def skip8 (l : List V) : Nat → Option (List V) :=
  List.rec (motive := fun _ => Nat → Option (List V)) (fun n => Nat.rec (some []) (fun _ _ => none) n)
    (fun x l ih n => Nat.rec (some (x :: l)) (fun n _ => @Bool.rec (fun _ => Option (List V)) none (ih n) (is8 x)) n) l
theorem skip8_some : ∀ {l r : List V} {n : Nat}, skip8 l n = some r → ∃ a, l = a ++ r ∧ a.map V.fk = List.replicate n (some (.i .u8))
  | [], r, 0, h => by cases h; exact ⟨[], rfl, rfl⟩
  | [], r, n + 1, h => by cases h
  | x :: l, r, 0, h => by cases h; exact ⟨[], rfl, rfl⟩
  | x :: l, r, n + 1, h => by
    have h : @Bool.rec (fun _ => Option (List V)) none (skip8 l n) (is8 x) = some r := h
    cases e : is8 x with
    | false => rw [e] at h; cases h
    | true =>
      rw [e] at h
      obtain ⟨a, rfl, h2⟩ := skip8_some (l := l) h
      refine ⟨x :: a, rfl, ?_⟩
      unfold is8 at e
      split at e
      · rw [List.map_cons, h2, List.replicate_succ]; rfl
      · cases e
noncomputable def le4V (x : V) : Bool := match x with | .i .u8 (.ofNat n) => Nat.ble n 4 | _ => false
noncomputable def st4 (l : List V) : Nat → Bool :=
  List.rec (motive := fun _ => Nat → Bool) (fun n => Nat.rec true (fun _ _ => false) n)
    (fun x _ ih n => Nat.rec false (fun n _ => @Bool.rec (fun _ => Bool) false (ih n) (le4V x)) n) l
theorem st4_ok : ∀ {l : List V} {n : Nat}, st4 l n = true → ∃ ns : List Nat, l = ints .u8 (ns.map Int.ofNat) ∧ ns.length = n ∧ ∀ x ∈ ns, x ≤ 4
  | [], 0, _ => ⟨[], rfl, rfl, fun x hx => by cases hx⟩
  | [], n + 1, h => by cases h
  | x :: l, 0, h => by cases h
  | x :: l, n + 1, h => by
    have h : @Bool.rec (fun _ => Bool) false (st4 l n) (le4V x) = true := h
    cases e : le4V x with
    | false => rw [e] at h; cases h
    | true =>
      rw [e] at h
      obtain ⟨ns, rfl, h2, h3⟩ := st4_ok (l := l) h
      unfold le4V at e
      split at e
      · rename_i k
        refine ⟨k :: ns, rfl, by simp [h2], fun y hy => ?_⟩
        cases hy with
        | head => exact Nat.le_of_ble_eq_true e
        | tail _ hy => exact h3 y hy
      · cases e
theorem kinds_fk {ks : List Fk} {w n : Nat} {els : List V} (hw : ks.length = w) (hl : els.length = n * w) (h : ∀ i, i < n → ((els.drop (i * w)).take w).map V.fk = ks.map some) : ∀ c ∈ els, c.fk ≠ none := by
  intro c hc
  obtain ⟨j, hj, rfl⟩ := List.mem_iff_getElem.1 hc
  rcases Nat.eq_zero_or_pos w with h0 | hpos
  · subst h0; omega
  · have hq : j / w < n := by rw [Nat.div_lt_iff_lt_mul hpos, ← hl]; exact hj
    have := congrArg (fun l => l[j % w]?) (h (j / w) hq)
    simp only [List.getElem?_map] at this
    rw [List.getElem?_take_of_lt (Nat.mod_lt _ hpos), List.getElem?_drop, Nat.mul_comm, Nat.div_add_mod, List.getElem?_eq_getElem hj] at this
    intro e
    rw [Option.map_some, e] at this
    cases hk : ks[j % w]? <;> rw [hk] at this <;> cases this
end Go.Am
