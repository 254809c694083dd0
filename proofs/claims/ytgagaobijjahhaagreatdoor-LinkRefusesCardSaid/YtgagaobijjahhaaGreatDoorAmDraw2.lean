/- The abstract machine: operations that draw their order come to the same in each order. -/
import Derived.Test.YtgagaobijjahhaaGreatDoorAmDraw
namespace Go.Am
set_option linter.unusedVariables false
set_option linter.unusedSimpArgs false

section
variable {C : Cfg} {call : CallF} {p : List Nat} {ops : Array Oper}

theorem put_get (s : St) (d : Option Nat) (v : V) (k : Nat) : (s.put d v).t.get k = if d = some k ∧ k < s.nt then some v else s.t.get k := by
  cases d with
  | none => simp [St.put]
  | some d =>
    simp only [St.put, Option.some.injEq]
    split
    · rename_i h
      rw [T.get_set]
      by_cases e : k = d
      · subst e; simp [h]
      · rw [if_neg e, if_neg (fun h' => e h'.1.symm)]
    · rename_i h
      rw [if_neg (by rintro ⟨rfl, h'⟩; exact h h')]
theorem put_rest (s : St) (d : Option Nat) (v : V) : (s.put d v).σ = s.σ ∧ (s.put d v).c = s.c ∧ (s.put d v).nt = s.nt := by
  cases d with
  | none => exact ⟨rfl, rfl, rfl⟩
  | some d => by_cases h : d < s.nt <;> simp [St.put, h]

theorem ev_looks {y : Oper} {s t : St} (hl : ∀ d ∈ y.looksAt ops, t.t.get d = s.t.get d) (x : Operand) (hx : x ∈ y.op.operands) : t.ev C x = s.ev C x := by
  cases x <;> try rfl
  rename_i d
  simp only [St.ev]
  rw [hl d (List.mem_append_left _ (List.mem_filterMap.2 ⟨.tmp d, by simpa using hx, rfl⟩))]
theorem guard_looks {y : Oper} {s t : St} (hl : ∀ d ∈ y.looksAt ops, t.t.get d = s.t.get d) : guardA ops t y.guard = guardA ops s y.guard := by
  cases hg : y.guard with
  | none => rfl
  | some jw =>
    obtain ⟨j, wd⟩ := jw
    simp only [guardA]
    cases hd : (ops[j]?).bind (·.dst) with
    | none => rfl
    | some d => simp only [hl d (by simp [Oper.looksAt, hg, hd])]

theorem stepA_frame {y : Oper} {s s' t : St} (h : stepA C call p ops y s = some s') (hl : ∀ d ∈ y.looksAt ops, t.t.get d = s.t.get d) (hn : t.nt = s.nt)
    (hm : memOp C y.op = true → t.σ = s.σ ∧ t.c = s.c)
    (ha : memOp C y.op = false → accOp y.op = true → ∀ r ∈ accs (s.ev C) y.op, t.σ[r]? = s.σ[r]?) :
    ∃ t', stepA C call p ops y t = some t' ∧ t'.nt = t.nt ∧ s'.nt = s.nt ∧ (memOp C y.op = true → t'.σ = s'.σ ∧ t'.c = s'.c) ∧
      (memOp C y.op = false → t'.σ = t.σ ∧ t'.c = t.c ∧ s'.σ = s.σ ∧ s'.c = s.c) ∧ (∀ d, y.dst ≠ some d ∨ s.nt ≤ d → t'.t.get d = t.t.get d ∧ s'.t.get d = s.t.get d) ∧
      (∀ d, y.dst = some d → d < s.nt → t'.t.get d = s'.t.get d) := by
  have fin : ∀ (v : V) (σ1 σ2 : List O) (c1 c2 : Nat) (s1 t1 : St), s1 = (⟨s.t, s.nt, σ1, c1⟩ : St).put y.dst v → t1 = (⟨t.t, t.nt, σ2, c2⟩ : St).put y.dst v →
      (memOp C y.op = true → σ2 = σ1 ∧ c2 = c1) → (memOp C y.op = false → σ2 = t.σ ∧ c2 = t.c ∧ σ1 = s.σ ∧ c1 = s.c) →
      t1.nt = t.nt ∧ s1.nt = s.nt ∧ (memOp C y.op = true → t1.σ = s1.σ ∧ t1.c = s1.c) ∧
      (memOp C y.op = false → t1.σ = t.σ ∧ t1.c = t.c ∧ s1.σ = s.σ ∧ s1.c = s.c) ∧ (∀ d, y.dst ≠ some d ∨ s.nt ≤ d → t1.t.get d = t.t.get d ∧ s1.t.get d = s.t.get d) ∧
      (∀ d, y.dst = some d → d < s.nt → t1.t.get d = s1.t.get d) := by
    rintro v σ1 σ2 c1 c2 _ _ rfl rfl h1 h2
    obtain ⟨a1, a2, a3⟩ := put_rest ⟨s.t, s.nt, σ1, c1⟩ y.dst v
    obtain ⟨b1, b2, b3⟩ := put_rest ⟨t.t, t.nt, σ2, c2⟩ y.dst v
    refine ⟨b3, a3, fun h => by rw [a1, a2, b1, b2]; exact h1 h, fun h => by rw [a1, a2, b1, b2]; exact h2 h, fun d hd => ?_, fun d hd hlt => ?_⟩
    · rw [put_get, put_get]
      rw [if_neg (by rintro ⟨e, hlt⟩; rcases hd with hd | hd; exact hd e; exact Nat.not_lt.2 hd (by rw [← hn]; exact hlt)), if_neg (by rintro ⟨e, hlt⟩; rcases hd with hd | hd; exact hd e; exact Nat.not_lt.2 hd hlt)]
      exact ⟨rfl, rfl⟩
    · rw [put_get, put_get, if_pos ⟨hd, by show d < t.nt; rw [hn]; exact hlt⟩, if_pos ⟨hd, hlt⟩]
  have hg := guard_looks hl
  simp only [stepA, Option.bind_eq_some_iff] at h
  obtain ⟨g, hgs, h⟩ := h
  have hrun : stepA C call p ops y t = if g then
      match y.op with
      | .call { callee := .value f, args, .. } => (callA call p (t.ev C f) (args.toList.map (t.ev C)) t.σ t.c).map fun (v, σ) => (⟨t.t, t.nt, σ, t.c + 1⟩ : St).put y.dst v
      | op => (opA C p (t.ev C) t.σ t.c op).map fun (v, σ, c) => (⟨t.t, t.nt, σ, c⟩ : St).put y.dst v
      else some (t.put y.dst .un) := by
    simp only [stepA, hg, hgs, Option.bind_some]
    rfl
  rw [hrun]
  cases g with
  | false =>
    simp only [Bool.false_eq_true, if_false, Option.some.injEq] at h ⊢
    exact ⟨_, rfl, fin .un s.σ t.σ s.c t.c s' _ h.symm rfl hm (fun _ => ⟨rfl, rfl, rfl, rfl⟩)⟩
  | true =>
    simp only [if_true] at h ⊢
    have hev : ∀ x ∈ y.op.operands, t.ev C x = s.ev C x := ev_looks hl
    split at h
    · rename_i f args ts hop
      simp only [Option.map_eq_some_iff] at h
      obtain ⟨⟨v, σ'⟩, hc, hs'⟩ := h
      rw [hop] at hev
      have hmo : memOp C y.op = true := by rw [hop]; rfl
      obtain ⟨e1, e2⟩ := hm hmo
      have hf : t.ev C f = s.ev C f := hev f (by simp [Op.operands, Call.operands])
      have hargs : args.toList.map (t.ev C) = args.toList.map (s.ev C) := List.map_congr_left fun x hx => hev x (by
        have : x ∈ args := by simpa using hx
        simp [Op.operands, Call.operands, this])
      refine ⟨_, ?_, fin v σ' σ' (s.c + 1) (t.c + 1) s' _ hs'.symm rfl (fun _ => ⟨rfl, by rw [e2]⟩) (fun h => by rw [hmo] at h; cases h)⟩
      rw [hop]
      simp only [hf, hargs, e1, e2, hc, Option.map_some]
    · rename_i hnc
      simp only [Option.map_eq_some_iff] at h
      obtain ⟨⟨v, σ', c'⟩, hc, hs'⟩ := h
      have hsp : ∀ r, (match y.op with
          | .call { callee := .value f, args, .. } => (callA call p (t.ev C f) (args.toList.map (t.ev C)) t.σ t.c).map fun (v, σ) => (⟨t.t, t.nt, σ, t.c + 1⟩ : St).put y.dst v
          | op => (opA C p (t.ev C) t.σ t.c op).map fun (v, σ, c) => (⟨t.t, t.nt, σ, c⟩ : St).put y.dst v) = r ↔
          (opA C p (t.ev C) t.σ t.c y.op).map (fun (v, σ, c) => (⟨t.t, t.nt, σ, c⟩ : St).put y.dst v) = r := by
        intro r
        split
        · rename_i f args ts hop; exact absurd hop (hnc f args ts)
        · exact Iff.rfl
      have hcg := opA_congr (C := C) (p := p) (σ := t.σ) (c := t.c) y.op hev
      cases hmo : memOp C y.op with
      | true =>
        obtain ⟨e1, e2⟩ := hm hmo
        refine ⟨_, (hsp _).2 (by rw [hcg, e1, e2, hc]; rfl), ?_⟩
        have := fin v σ' σ' c' c' s' _ hs'.symm rfl (fun _ => ⟨rfl, rfl⟩) (fun h => by rw [hmo] at h; cases h)
        rw [hmo] at this
        exact this
      | false =>
        obtain ⟨e1, e2, e3⟩ := opA_frame hmo hc
        refine ⟨_, (hsp _).2 (by rw [hcg, e3 t.σ t.c (ha hmo)]; rfl), ?_⟩
        have := fin v σ' t.σ c' t.c s' _ hs'.symm rfl (fun h => by rw [hmo] at h; cases h) (fun _ => ⟨rfl, rfl, e1, e2⟩)
        rw [hmo] at this
        exact this

/-! The states. -/
theorem opsA_states : ∀ (l : List Oper) (s s' : St), opsA C call p ops l s = some s' →
    ∃ S : Nat → St, S 0 = s ∧ S l.length = s' ∧ ∀ (i : Nat) o, l[i]? = some o → stepA C call p ops o (S i) = some (S (i + 1)) := by
  intro l
  induction l with
  | nil => intro s s' h; simp [opsA] at h; subst h; exact ⟨fun _ => s, rfl, rfl, fun i o h => by simp at h⟩
  | cons o l ih =>
    intro s s' h
    simp only [opsA, Option.bind_eq_some_iff] at h
    obtain ⟨s1, h1, h⟩ := h
    obtain ⟨S, rfl, rfl, h3⟩ := ih _ _ h
    refine ⟨fun | 0 => s | i + 1 => S i, rfl, rfl, fun i o' ho => ?_⟩
    cases i with
    | zero => simp at ho; subst ho; exact h1
    | succ i => exact h3 i o' (by simpa using ho)
theorem traceA_states : ∀ (l : List Oper) (s s' : St) (L : List (List O × List Nat)), traceA C call p ops l s = some (L, s') →
    ∃ S : Nat → St, S 0 = s ∧ S l.length = s' ∧ (∀ (i : Nat) o, l[i]? = some o → stepA C call p ops o (S i) = some (S (i + 1))) ∧
      (∀ (i : Nat) o, l[i]? = some o → L[i]? = some ((S i).σ, accs ((S i).ev C) o.op)) ∧ L[l.length]? = some ((S l.length).σ, []) := by
  intro l
  induction l with
  | nil => intro s s' L h; simp [traceA] at h; obtain ⟨rfl, rfl⟩ := h; exact ⟨fun _ => s, rfl, rfl, fun i o h => by simp at h, fun i o h => by simp at h, rfl⟩
  | cons o l ih =>
    intro s s' L h
    simp only [traceA, Option.bind_eq_some_iff, Option.map_eq_some_iff, Prod.mk.injEq] at h
    obtain ⟨s1, h1, ⟨L', e⟩, h, rfl, rfl⟩ := h
    obtain ⟨S, rfl, rfl, h3, h4, h5⟩ := ih _ _ _ h
    refine ⟨fun | 0 => s | i + 1 => S i, rfl, rfl, fun i o' ho => ?_, fun i o' ho => ?_, by simpa using h5⟩
    · cases i with
      | zero => simp at ho; subst ho; exact h1
      | succ i => exact h3 i o' (by simpa using ho)
    · cases i with
      | zero => simp at ho; subst ho; rfl
      | succ i => simpa using h4 i o' (by simpa using ho)

structure Tr (C : Cfg) (call : CallF) (p : List Nat) (ps : List (Nat × Nat)) (ops : Array Oper) (S : Nat → St) : Prop where
  step : ∀ (i : Nat) o, ops[i]? = some o → stepA C call p ops o (S i) = some (S (i + 1))
  pair : ∀ (i j : Nat) o, (i, j) ∈ ps → i < ops.size → ops[j]? = some o → ∀ r ∈ accs ((S j).ev C) o.op, (S (i + 1)).σ[r]? = (S i).σ[r]?

theorem opsD_states {ps : List (Nat × Nat)} {s s' : St} (h : opsD C call p ps ops s = some s') : ∃ S : Nat → St, S 0 = s ∧ S ops.size = s' ∧ Tr C call p ps ops S := by
  unfold opsD at h
  split at h
  · obtain ⟨S, h1, h2, h3⟩ := opsA_states _ _ _ h
    exact ⟨S, h1, by simpa using h2, ⟨fun i o ho => h3 i o (by simpa using ho), fun i j o hi => by simp at hi⟩⟩
  · simp only [Option.bind_eq_some_iff] at h
    obtain ⟨⟨L, e⟩, h, hp⟩ := h
    simp only at hp
    split at hp
    · rename_i hall
      cases hp
      obtain ⟨S, h1, h2, h3, h4, h5⟩ := traceA_states _ _ _ _ h
      refine ⟨S, h1, by simpa using h2, ⟨fun i o ho => h3 i o (by simpa using ho), fun i j o hi hlt ho r hr => ?_⟩⟩
      rw [List.all_eq_true] at hall
      have := hall _ hi
      unfold okPair at this
      obtain ⟨oi, hoi⟩ : ∃ oi, ops[i]? = some oi := ⟨ops[i], by simp [hlt]⟩
      have g1 := h4 i oi (by simpa using hoi)
      have g3 := h4 j o (by simpa using ho)
      have g2 : ∃ x, L[i + 1]? = some ((S (i + 1)).σ, x) := by
        by_cases hl : i + 1 < ops.size
        · obtain ⟨o2, ho2⟩ : ∃ o2, ops[i + 1]? = some o2 := ⟨ops[i + 1], by simp [hl]⟩
          exact ⟨_, h4 (i + 1) o2 (by simpa using ho2)⟩
        · have : i + 1 = ops.toList.length := by simp; omega
          rw [this]; exact ⟨_, h5⟩
      obtain ⟨x, g2⟩ := g2
      simp only [g1, g2, g3, List.all_eq_true] at this
      exact O.eqb_eq (this r hr)
    · cases hp

theorem between {X : Type} (f : Nat → X) (a b : Nat) (h : ∀ i, ¬(i < a ↔ i < b) → f (i + 1) = f i) : f a = f b := by
  have up : ∀ (k a : Nat), (∀ i, a ≤ i → i < a + k → f (i + 1) = f i) → f (a + k) = f a := by
    intro k
    induction k with
    | zero => intro a _; rfl
    | succ k ih => intro a h; rw [← Nat.add_assoc, h (a + k) (by omega) (by omega)]; exact ih a fun i h1 h2 => h i h1 (by omega)
  rcases Nat.le_total a b with hab | hab
  · obtain ⟨k, rfl⟩ := Nat.exists_eq_add_of_le hab
    exact (up k a fun i h1 h2 => h i (by omega)).symm
  · obtain ⟨k, rfl⟩ := Nat.exists_eq_add_of_le hab
    exact up k b fun i h1 h2 => h i (by omega)

/-! The marks. -/
theorem edgeMask_bits (acc : List Nat) (i : Nat) : ∀ (es : List Edge) (m : Nat), (es.foldl (fun m e => if Region.binds .any e then m ||| 2 ^ e.on ||| acc.getD e.on 0 else m) m).testBit i = true ↔
    m.testBit i = true ∨ ∃ e ∈ es, Region.binds .any e = true ∧ (i = e.on ∨ (acc.getD e.on 0).testBit i = true) := by
  intro es
  induction es with
  | nil => intro m; simp
  | cons e es ih =>
    intro m
    rw [List.foldl_cons, ih]
    by_cases hb : Region.binds .any e = true
    · rw [if_pos hb]
      simp only [Nat.testBit_or, Bool.or_eq_true, Nat.testBit_two_pow, decide_eq_true_eq, List.mem_cons, exists_eq_or_imp, hb, true_and]
      constructor
      · rintro (((h | h) | h) | h)
        · exact .inl h
        · exact .inr (.inl (.inl h.symm))
        · exact .inr (.inl (.inr h))
        · exact .inr (.inr h)
      · rintro (h | (h | h) | h)
        · exact .inl (.inl (.inl h))
        · exact .inl (.inl (.inr h.symm))
        · exact .inl (.inr h)
        · exact .inr h
    · rw [if_neg hb]
      simp only [List.mem_cons, exists_eq_or_imp, hb, false_and, false_or, Bool.false_eq_true]
theorem masks_len : ∀ (l : List Oper) (acc : List Nat), (masks l acc).length = acc.length + l.length ∧ (masks l acc).take acc.length = acc := by
  intro l
  induction l with
  | nil => intro acc; simp [masks]
  | cons o l ih =>
    intro acc
    obtain ⟨h1, h2⟩ := ih (acc ++ [edgeMask acc o.after.toList])
    refine ⟨by simp only [masks]; rw [h1]; simp; omega, ?_⟩
    simp only [masks]
    have := congrArg (List.take acc.length) h2
    rw [List.take_take] at this
    simpa using this
theorem masks_get : ∀ (l : List Oper) (acc : List Nat) (j : Nat) (o : Oper), l[j]? = some o → (masks l acc)[acc.length + j]? = some (edgeMask ((masks l acc).take (acc.length + j)) o.after.toList) := by
  intro l
  induction l with
  | nil => intro acc j o h; simp at h
  | cons x l ih =>
    intro acc j o h
    simp only [masks]
    cases j with
    | zero =>
      simp at h; subst h
      obtain ⟨h1, h2⟩ := masks_len l (acc ++ [edgeMask acc x.after.toList])
      have h3 := congrArg (List.take acc.length) h2
      rw [List.take_take] at h3
      have h4 := congrArg (fun l => l[acc.length]?) h2
      simp only [List.getElem?_take] at h4
      rw [if_pos (by simp)] at h4
      rw [Nat.add_zero, h4]
      have h5 : (masks l (acc ++ [edgeMask acc x.after.toList])).take acc.length = acc := by simpa using h3
      rw [h5]
      simp
    | succ j =>
      have := ih (acc ++ [edgeMask acc x.after.toList]) j o (by simpa using h)
      rw [List.length_append, List.length_singleton, Nat.add_assoc, Nat.add_comm 1 j] at this
      exact this

structure OkD (C : Cfg) (ps : List (Nat × Nat)) (ops : Array Oper) (ms : Nat → Nat) : Prop where
  get : ∀ (j : Nat) o, ops[j]? = some o → ∀ i, (ms j).testBit i = true ↔ ∃ e ∈ o.after, Region.binds .any e = true ∧ (i = e.on ∨ (e.on < j ∧ (ms e.on).testBit i = true))
  lt : ∀ (j : Nat) o, ops[j]? = some o → ∀ i, (ms j).testBit i = true → i < j
  two : ∀ (i j : Nat) x y, i < j → ops[i]? = some x → ops[j]? = some y → (ms j).testBit i = true ∨ okTwo C ps ops i j x y = true
theorem okD_spec {ps : List (Nat × Nat)} (h : okD C ps ops = true) : OkD C ps ops fun j => (masks ops.toList []).getD j 0 := by
  simp only [okD, Bool.and_eq_true, List.all_eq_true, Bool.or_eq_true, Bool.not_eq_true', decide_eq_false_iff_not] at h
  obtain ⟨⟨h1, _⟩, h2⟩ := h
  have hget : ∀ (j : Nat) o, ops[j]? = some o → (masks ops.toList []).getD j 0 = edgeMask ((masks ops.toList []).take j) o.after.toList := by
    intro j o ho
    have := masks_get ops.toList [] j o (by simpa using ho)
    simp only [List.length_nil, Nat.zero_add] at this
    rw [List.getD_eq_getElem?_getD, this]; rfl
  refine ⟨fun j o ho i => ?_, fun j o ho i hi => ?_, fun i j x y hij hx hy => ?_⟩
  · rw [hget j o ho, edgeMask, edgeMask_bits]
    simp only [Nat.zero_testBit, Bool.false_eq_true, false_or]
    have : ∀ k : Nat, (((masks ops.toList []).take j).getD k 0).testBit i = true ↔ (k < j ∧ ((masks ops.toList []).getD k 0).testBit i = true) := by
      intro k
      rw [List.getD_eq_getElem?_getD, List.getElem?_take, List.getD_eq_getElem?_getD]
      by_cases hk : k < j
      · simp [hk]
      · simp [hk]
    constructor
    · rintro ⟨e, he, hb, h⟩; exact ⟨e, by simpa using he, hb, h.imp id (this _).1⟩
    · rintro ⟨e, he, hb, h⟩; exact ⟨e, by simpa using he, hb, h.imp id (this _).2⟩
  · have hm : (masks ops.toList [])[j]? = some ((masks ops.toList []).getD j 0) := by
      have := masks_get ops.toList [] j o (by simpa using ho)
      simp only [List.length_nil, Nat.zero_add] at this
      rw [List.getD_eq_getElem?_getD, this]; rfl
    have hlt := h1 ((masks ops.toList []).getD j 0, j) (by rw [List.mem_zipIdx_iff_getElem?]; exact hm)
    simp only [decide_eq_true_eq] at hlt
    have hge := Nat.ge_two_pow_of_testBit hi
    exact (Nat.pow_lt_pow_iff_right (by decide : 1 < 2)).1 (Nat.lt_of_le_of_lt hge hlt)
  · have := h2 (y, j) (by rw [List.mem_zipIdx_iff_getElem?]; simpa using hy) (x, i) (by rw [List.mem_zipIdx_iff_getElem?]; simpa using hx)
    simp only at this
    rcases this with (h | h) | h
    · exact absurd hij h
    · exact .inl h
    · exact .inr h

def Closed (ops : Array Oper) (D : Nat → Prop) : Prop := ∀ (j : Nat) o, ops[j]? = some o → D j → ∀ e ∈ o.after, Region.binds .any e = true → D e.on
theorem OkD.closed {ps : List (Nat × Nat)} {ms : Nat → Nat} (h : OkD C ps ops ms) {D : Nat → Prop} (hc : Closed ops D) : ∀ (j : Nat) o, ops[j]? = some o → (∀ e ∈ o.after, Region.binds .any e = true → D e.on) → ∀ i, (ms j).testBit i = true → D i := by
  intro j
  induction j using Nat.strongRecOn with
  | _ j ih =>
    intro o ho hd i hi
    obtain ⟨e, he, hb, h1 | ⟨h1, h2⟩⟩ := (h.get j o ho i).1 hi
    · rw [h1]; exact hd e he hb
    · have hlt : e.on < ops.size := by have := (Array.getElem?_eq_some_iff.1 ho).1; omega
      obtain ⟨o2, ho2⟩ : ∃ o2, ops[e.on]? = some o2 := ⟨ops[e.on], by simp [hlt]⟩
      exact ih e.on h1 o2 ho2 (hc e.on o2 ho2 (hd e he hb)) i h2

theorem Tr.facts {ps : List (Nat × Nat)} {S : Nat → St} (ht : Tr C call p ps ops S) {i : Nat} {x : Oper} (hx : ops[i]? = some x) :
    (S (i + 1)).nt = (S i).nt ∧ (memOp C x.op = false → (S (i + 1)).σ = (S i).σ ∧ (S (i + 1)).c = (S i).c) ∧ (∀ d, x.dst ≠ some d ∨ (S i).nt ≤ d → (S (i + 1)).t.get d = (S i).t.get d) := by
  obtain ⟨t', h1, h2, h3, h4, h5, h6, h7⟩ := stepA_frame (ht.step i x hx) (fun _ _ => rfl) rfl (fun _ => ⟨rfl, rfl⟩) (fun _ _ _ _ => rfl)
  exact ⟨h3, fun h => ⟨(h5 h).2.2.1, (h5 h).2.2.2⟩, fun d hd => (h6 d hd).2⟩
theorem Tr.nt {ps : List (Nat × Nat)} {S : Nat → St} (ht : Tr C call p ps ops S) : ∀ i, i ≤ ops.size → (S i).nt = (S 0).nt := by
  intro i
  induction i with
  | zero => intro _; rfl
  | succ i ih => intro h; rw [(ht.facts (x := ops[i]) (by simp)).1]; exact ih (by omega)

structure Inv (C : Cfg) (ops : Array Oper) (S : Nat → St) (D : Nat → Prop) (t : St) : Prop where
  nt : t.nt = (S 0).nt
  mem : ∃ κ, κ ≤ ops.size ∧ (∀ (i : Nat) x, ops[i]? = some x → memOp C x.op = true → (i < κ ↔ D i)) ∧ t.σ = (S κ).σ ∧ t.c = (S κ).c
  tmp : ∀ d, ∃ m, m ≤ ops.size ∧ (∀ (i : Nat) x, ops[i]? = some x → x.dst = some d → (i < m ↔ D i)) ∧ t.t.get d = (S m).t.get d

theorem okTwo_spec {ps : List (Nat × Nat)} {i j : Nat} {x y : Oper} (h : okTwo C ps ops i j x y = true) :
    x.apart ops y = true ∧ ¬ (memOp C x.op = true ∧ memOp C y.op = true) ∧ (memOp C x.op = true → accOp y.op = true → (i, j) ∈ ps) ∧ (memOp C y.op = true → accOp x.op = true → (j, i) ∈ ps) := by
  simp only [okTwo, Bool.and_eq_true, Bool.or_eq_true, Bool.not_eq_true'] at h
  obtain ⟨⟨⟨h1, h2⟩, h3⟩, h4⟩ := h
  refine ⟨h1, fun h => by simp [h.1, h.2] at h2, fun a b => ?_, fun a b => ?_⟩
  · simpa [a, b] using h3
  · simpa [a, b] using h4

theorem indep {ps : List (Nat × Nat)} {ms : Nat → Nat} (hok : OkD C ps ops ms) {D : Nat → Prop} (hc : Closed ops D) {j : Nat} {y : Oper} (hy : ops[j]? = some y) (hj : ¬ D j)
    (hd : ∀ e ∈ y.after, Region.binds .any e = true → D e.on) {i : Nat} {x : Oper} (hx : ops[i]? = some x) (hij : i ≠ j) (hne : ¬(i < j ↔ D i)) :
    (∀ d, x.dst = some d → d ∉ y.looksAt ops) ∧ (∀ d, x.dst = some d → y.dst ≠ some d) ∧ ¬ (memOp C x.op = true ∧ memOp C y.op = true) ∧ (memOp C x.op = true → accOp y.op = true → (i, j) ∈ ps) := by
  rcases Nat.lt_or_ge i j with hlt | hge
  · have hDi : ¬ D i := fun h => hne ⟨fun _ => h, fun _ => hlt⟩
    rcases hok.two i j x y hlt hx hy with h | h
    · exact absurd (hok.closed hc j y hy hd i h) hDi
    · obtain ⟨h1, h2, h3, h4⟩ := okTwo_spec h
      obtain ⟨a1, a2, a3⟩ := Oper.apart_spec h1
      exact ⟨a1, a2, h2, h3⟩
  · have hlt : j < i := by omega
    have hDi : D i := Classical.byContradiction fun h => hne ⟨fun h' => by omega, fun h' => absurd h' h⟩
    rcases hok.two j i y x hlt hy hx with h | h
    · exact absurd (hok.closed hc i x hx (hc i x hx hDi) j h) hj
    · obtain ⟨h1, h2, h3, h4⟩ := okTwo_spec h
      obtain ⟨a1, a2, a3⟩ := Oper.apart_spec h1
      exact ⟨a3, fun d hd hd' => a2 d hd' hd, fun h => h2 h.symm, h4⟩

theorem inv_step {ps : List (Nat × Nat)} {S : Nat → St} {ms : Nat → Nat} (ht : Tr C call p ps ops S) (hok : OkD C ps ops ms) {D : Nat → Prop} (hc : Closed ops D) {t : St} (hi : Inv C ops S D t)
    {j : Nat} {y : Oper} (hy : ops[j]? = some y) (hj : ¬ D j) (hd : ∀ e ∈ y.after, Region.binds .any e = true → D e.on) :
    ∃ t', stepA C call p ops y t = some t' ∧ Inv C ops S (fun i => D i ∨ i = j) t' := by
  have hjn : j < ops.size := (Array.getElem?_eq_some_iff.1 hy).1
  have hin : ∀ (i b : Nat), b ≤ ops.size → ¬(i < b ↔ i < j) → ∃ x, ops[i]? = some x := by
    intro i b hb h
    have : i < ops.size := by
      rcases Nat.lt_or_ge i ops.size with h' | h'
      · exact h'
      · exact absurd ⟨fun h => by omega, fun h => by omega⟩ h
    exact ⟨ops[i], by simp [this]⟩
  obtain ⟨hnt, ⟨κ, hκ, hmem, hσ, hcc⟩, htmp⟩ := hi
  have hl : ∀ d ∈ y.looksAt ops, t.t.get d = (S j).t.get d := by
    intro d hdl
    obtain ⟨m, hm, hw, he⟩ := htmp d
    rw [he]
    refine between (fun i => (S i).t.get d) m j fun i hne => ?_
    obtain ⟨x, hx⟩ := hin i m hm hne
    refine (ht.facts hx).2.2 d (.inl fun hxd => ?_)
    rw [hw i x hx hxd] at hne
    by_cases hij : i = j
    · subst hij; exact hne ⟨fun h => absurd h hj, fun h => by omega⟩
    · exact (indep hok hc hy hj hd hx hij fun h => hne h.symm).1 d hxd hdl
  have hmm : memOp C y.op = true → t.σ = (S j).σ ∧ t.c = (S j).c := by
    intro hym
    rw [hσ, hcc]
    have := between (fun i => ((S i).σ, (S i).c)) κ j fun i hne => by
      obtain ⟨x, hx⟩ := hin i κ hκ hne
      cases hxm : memOp C x.op with
      | false => obtain ⟨a, b⟩ := (ht.facts hx).2.1 hxm; simp only [a, b]
      | true =>
        rw [hmem i x hx hxm] at hne
        by_cases hij : i = j
        · subst hij; exact absurd ⟨fun h => absurd h hj, fun h => by omega⟩ hne
        · exact absurd ⟨hxm, hym⟩ (indep hok hc hy hj hd hx hij fun h => hne h.symm).2.2.1
    exact Prod.mk.inj this
  have hac : memOp C y.op = false → accOp y.op = true → ∀ r ∈ accs ((S j).ev C) y.op, t.σ[r]? = (S j).σ[r]? := by
    intro _ hya r hr
    rw [hσ]
    refine between (fun i => (S i).σ[r]?) κ j fun i hne => ?_
    obtain ⟨x, hx⟩ := hin i κ hκ hne
    cases hxm : memOp C x.op with
    | false => simp only [((ht.facts hx).2.1 hxm).1]
    | true =>
      rw [hmem i x hx hxm] at hne
      by_cases hij : i = j
      · subst hij; exact absurd ⟨fun h => absurd h hj, fun h => by omega⟩ hne
      · exact ht.pair i j y ((indep hok hc hy hj hd hx hij fun h => hne h.symm).2.2.2 hxm hya) (Array.getElem?_eq_some_iff.1 hx).1 hy r hr
  have hntj : t.nt = (S j).nt := by rw [hnt, ht.nt j (by omega)]
  obtain ⟨t', h1, h2, h3, h4, h5, h6, h7⟩ := stepA_frame (ht.step j y hy) hl hntj hmm hac
  refine ⟨t', h1, by rw [h2, hnt], ?_, fun d => ?_⟩
  · cases hym : memOp C y.op with
    | true =>
      obtain ⟨a, b⟩ := h4 hym
      refine ⟨j + 1, by omega, fun i x hx hxm => ?_, a, b⟩
      by_cases hij : i = j
      · subst hij; exact ⟨fun _ => .inr rfl, fun _ => by omega⟩
      · have : i < j ↔ D i := Classical.byContradiction fun hne => (indep hok hc hy hj hd hx hij hne).2.2.1 ⟨hxm, hym⟩
        constructor
        · intro h; exact .inl (this.1 (by omega))
        · rintro (h | h)
          · have := this.2 h; omega
          · exact absurd h hij
    | false =>
      obtain ⟨a, b, _, _⟩ := h5 hym
      refine ⟨κ, hκ, fun i x hx hxm => ?_, by rw [a, hσ], by rw [b, hcc]⟩
      rw [hmem i x hx hxm]
      constructor
      · exact .inl
      · rintro (h | h)
        · exact h
        · subst h; rw [hy] at hx; cases hx; rw [hym] at hxm; cases hxm
  · obtain ⟨m, hm, hw, he⟩ := htmp d
    by_cases hyd : y.dst = some d
    · refine ⟨j + 1, by omega, fun i x hx hxd => ?_, ?_⟩
      · by_cases hij : i = j
        · subst hij; exact ⟨fun _ => .inr rfl, fun _ => by omega⟩
        · have : i < j ↔ D i := Classical.byContradiction fun hne => (indep hok hc hy hj hd hx hij hne).2.1 d hxd hyd
          constructor
          · intro h; exact .inl (this.1 (by omega))
          · rintro (h | h)
            · have := this.2 h; omega
            · exact absurd h hij
      · by_cases hlt : d < (S j).nt
        · exact h7 d hyd hlt
        · have hge : (S j).nt ≤ d := Nat.not_lt.1 hlt
          have hall : ∀ b, b ≤ ops.size → (S b).t.get d = (S j).t.get d := fun b hb => between (fun i => (S i).t.get d) b j fun i hne => by
            obtain ⟨x, hx⟩ := hin i b hb hne
            have hi := (Array.getElem?_eq_some_iff.1 hx).1
            exact (ht.facts hx).2.2 d (.inr (by rw [ht.nt i (by omega), ← ht.nt j (by omega)]; exact hge))
          rw [(h6 d (.inr hge)).1, he, hall m hm, hall (j + 1) (by omega)]
    · refine ⟨m, hm, fun i x hx hxd => ?_, by rw [(h6 d (.inl hyd)).1, he]⟩
      rw [hw i x hx hxd]
      constructor
      · exact .inl
      · rintro (h | h)
        · exact h
        · subst h; rw [hy] at hx; cases hx; exact absurd hxd hyd

theorem inv_done {ps : List (Nat × Nat)} {S : Nat → St} (ht : Tr C call p ps ops S) {D : Nat → Prop} {t : St} (hi : Inv C ops S D t) (hall : ∀ i, i < ops.size → D i) :
    t.nt = (S ops.size).nt ∧ t.σ = (S ops.size).σ ∧ t.c = (S ops.size).c ∧ ∀ d, t.t.get d = (S ops.size).t.get d := by
  obtain ⟨hnt, ⟨κ, hκ, hmem, hσ, hcc⟩, htmp⟩ := hi
  have hin : ∀ (i b : Nat), b ≤ ops.size → ¬(i < b ↔ i < ops.size) → i < ops.size ∧ ¬ i < b := by
    intro i b hb h
    rcases Nat.lt_or_ge i ops.size with h' | h'
    · exact ⟨h', fun h'' => h ⟨fun _ => h', fun _ => h''⟩⟩
    · exact absurd ⟨fun h => by omega, fun h => by omega⟩ h
  have h1 := between (fun i => ((S i).σ, (S i).c)) κ ops.size fun i hne => by
    obtain ⟨h1, h2⟩ := hin i κ hκ hne
    have hx : ops[i]? = some ops[i] := by simp [h1]
    cases hxm : memOp C ops[i].op with
    | false => obtain ⟨a, b⟩ := (ht.facts hx).2.1 hxm; simp only [a, b]
    | true => exact absurd ((hmem i _ hx hxm).2 (hall i h1)) h2
  obtain ⟨a, b⟩ := Prod.mk.inj h1
  refine ⟨by rw [hnt, ht.nt _ (Nat.le_refl _)], by rw [hσ, a], by rw [hcc, b], fun d => ?_⟩
  obtain ⟨m, hm, hw, he⟩ := htmp d
  rw [he]
  refine between (fun i => (S i).t.get d) m ops.size fun i hne => ?_
  obtain ⟨h1, h2⟩ := hin i m hm hne
  have hx : ops[i]? = some ops[i] := by simp [h1]
  exact (ht.facts hx).2.2 d (.inl fun hxd => h2 ((hw i _ hx hxd).2 (hall i h1)))
theorem inv_start (S : Nat → St) : Inv C ops S (fun _ => False) (S 0) := ⟨rfl, ⟨0, Nat.zero_le _, fun i x _ _ => ⟨fun h => by omega, fun h => h.elim⟩, rfl, rfl⟩, fun d => ⟨0, Nat.zero_le _, fun i x _ _ => ⟨fun h => by omega, fun h => h.elim⟩, rfl⟩⟩
end
end Go.Am
