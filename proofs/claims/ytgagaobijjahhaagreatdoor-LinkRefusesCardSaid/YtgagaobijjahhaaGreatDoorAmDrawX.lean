/- Regions that draw their order, with variables laid ahead: they come to the same in each order. -/
import Derived.Test.YtgagaobijjahhaaGreatDoorAmDraw2
import Derived.Test.YtgagaobijjahhaaGreatDoorAmCode
namespace Go.Am
set_option linter.unusedVariables false
set_option linter.unusedSimpArgs false

section
variable {C : Cfg} {call : CallF} {p : List Nat} {r0 c0 : Nat} {ops : Array Oper}
theorem stepX_frame {q : Nat} {y : Oper} {s s' t : St} (h : stepX C call p ops r0 c0 q y s = some s') (hl : ∀ d ∈ y.looksAt ops, t.t.get d = s.t.get d) (hn : t.nt = s.nt)
    (hm : memX C y = true → t.σ = s.σ ∧ t.c = s.c)
    (ha : memX C y = false → accOp y.op = true → ∀ r ∈ accs (s.ev C) y.op, t.σ[r]? = s.σ[r]?) :
    ∃ t', stepX C call p ops r0 c0 q y t = some t' ∧ t'.nt = t.nt ∧ s'.nt = s.nt ∧ (memX C y = true → t'.σ = s'.σ ∧ t'.c = s'.c) ∧
      (memX C y = false → t'.σ = t.σ ∧ t'.c = t.c ∧ s'.σ = s.σ ∧ s'.c = s.c) ∧ (∀ d, y.dst ≠ some d ∨ s.nt ≤ d → t'.t.get d = t.t.get d ∧ s'.t.get d = s.t.get d) ∧
      (∀ d, y.dst = some d → d < s.nt → t'.t.get d = s'.t.get d) := by
  have fin : ∀ (v : V) (s1 : St), s1 = s.put y.dst v → memX C y = false →
      (t.put y.dst v).nt = t.nt ∧ s1.nt = s.nt ∧ (memX C y = true → (t.put y.dst v).σ = s1.σ ∧ (t.put y.dst v).c = s1.c) ∧
      (memX C y = false → (t.put y.dst v).σ = t.σ ∧ (t.put y.dst v).c = t.c ∧ s1.σ = s.σ ∧ s1.c = s.c) ∧ (∀ d, y.dst ≠ some d ∨ s.nt ≤ d → (t.put y.dst v).t.get d = t.t.get d ∧ s1.t.get d = s.t.get d) ∧
      (∀ d, y.dst = some d → d < s.nt → (t.put y.dst v).t.get d = s1.t.get d) := by
    rintro v _ rfl hx
    obtain ⟨a1, a2, a3⟩ := put_rest s y.dst v
    obtain ⟨b1, b2, b3⟩ := put_rest t y.dst v
    refine ⟨b3, a3, (fun h => by rw [hx] at h; cases h), fun _ => ⟨b1, b2, a1, a2⟩, fun d hd => ?_, fun d hd hlt => ?_⟩
    · rw [put_get, put_get]
      rw [if_neg (by rintro ⟨e, hlt⟩; rcases hd with hd | hd; exact hd e; exact Nat.not_lt.2 hd (by rw [← hn]; exact hlt)), if_neg (by rintro ⟨e, hlt⟩; rcases hd with hd | hd; exact hd e; exact Nat.not_lt.2 hd hlt)]
      exact ⟨rfl, rfl⟩
    · rw [put_get, put_get, if_pos ⟨hd, by rw [hn]; exact hlt⟩, if_pos ⟨hd, hlt⟩]
  unfold stepX at h ⊢
  cases hp : preO y with
  | some e =>
    rw [hp] at h
    simp only [Option.some.injEq] at h
    exact ⟨_, rfl, fin _ _ h.symm (by simp [memX, hp])⟩
  | none =>
    rw [hp] at h
    cases hs : stillO C y with
    | some ga =>
      obtain ⟨g, args⟩ := ga
      rw [hs] at h
      have hsx : memX C y = false := by simp [memX, hp, hs]
      have hev : args.map (t.ev C) = args.map (s.ev C) := by
        refine List.map_congr_left fun x hx => ev_looks hl x ?_
        unfold stillO at hs
        split at hs
        · rename_i f as ts hop _
          simp only [Option.map_eq_some_iff, Prod.mk.injEq] at hs
          obtain ⟨_, _, _, rfl⟩ := hs
          rw [hop]
          have : x ∈ as := by simpa using hx
          simp [Op.operands, Call.operands, this]
        · cases hs
      simp only [Option.bind_eq_some_iff] at h ⊢
      obtain ⟨v, hv, h⟩ := h
      split at h
      · rename_i hw
        simp only [Option.some.injEq] at h
        refine ⟨_, ⟨v, by rw [hev]; exact hv, by rw [hev, if_pos hw]⟩, fin _ _ h.symm hsx⟩
      · cases h
    | none =>
      rw [hs] at h
      have e : memX C y = memOp C y.op := by simp [memX, hp, hs]
      rw [e] at hm ha ⊢
      exact stepA_frame h hl hn hm ha
theorem traceX_states : ∀ (l l0 : List Oper) (s s' : St) (L : List (List O × List Nat)), traceX C call p ops r0 c0 (slotOf (l0 ++ l) l0.length) l s = some (L, s') →
    ∃ S : Nat → St, S 0 = s ∧ S l.length = s' ∧ (∀ (i : Nat) o, l[i]? = some o → stepX C call p ops r0 c0 (slotOf (l0 ++ l) (l0.length + i)) o (S i) = some (S (i + 1))) ∧
      (∀ (i : Nat) o, l[i]? = some o → L[i]? = some ((S i).σ, accs ((S i).ev C) o.op)) ∧ L[l.length]? = some ((S l.length).σ, []) := by
  intro l
  induction l with
  | nil => intro l0 s s' L h; simp [traceX] at h; obtain ⟨rfl, rfl⟩ := h; exact ⟨fun _ => s, rfl, rfl, fun i o h => by simp at h, fun i o h => by simp at h, rfl⟩
  | cons o l ih =>
    intro l0 s s' L h
    simp only [traceX, Option.bind_eq_some_iff, Option.map_eq_some_iff, Prod.mk.injEq] at h
    obtain ⟨s1, h1, ⟨L', e⟩, h, rfl, rfl⟩ := h
    have hslot : slotOf (l0 ++ o :: l) ((l0 ++ [o]).length) = if (preO o).isSome then slotOf (l0 ++ o :: l) l0.length + 1 else slotOf (l0 ++ o :: l) l0.length := by
      unfold slotOf
      rw [List.take_left, show (l0 ++ [o]).length = l0.length + 1 from by simp, List.take_length_add_append]
      simp only [List.take_succ_cons, List.take_zero, List.countP_append, List.countP_cons, List.countP_nil]
      split <;> simp_all
    obtain ⟨S, rfl, rfl, h3, h4, h5⟩ := ih (l0 ++ [o]) _ _ _ (by
      rw [show (l0 ++ [o]) ++ l = l0 ++ o :: l from by simp, hslot]; exact h)
    refine ⟨fun | 0 => s | i + 1 => S i, rfl, rfl, fun i o' ho => ?_, fun i o' ho => ?_, by simpa using h5⟩
    · cases i with
      | zero => simp at ho; subst ho; exact h1
      | succ i =>
        have := h3 i o' (by simpa using ho)
        rw [show (l0 ++ [o]) ++ l = l0 ++ o :: l from by simp, show (l0 ++ [o]).length + i = l0.length + (i + 1) from by simp; omega] at this
        exact this
    · cases i with
      | zero => simp at ho; subst ho; rfl
      | succ i => simpa using h4 i o' (by simpa using ho)
structure TrX (C : Cfg) (call : CallF) (p : List Nat) (r0 c0 : Nat) (ps : List (Nat × Nat)) (ops : Array Oper) (S : Nat → St) : Prop where
  step : ∀ (i : Nat) o, ops[i]? = some o → stepX C call p ops r0 c0 (slotOf ops.toList i) o (S i) = some (S (i + 1))
  pair : ∀ (i j : Nat) o, (i, j) ∈ ps → i < ops.size → ops[j]? = some o → ∀ r ∈ accs ((S j).ev C) o.op, (S (i + 1)).σ[r]? = (S i).σ[r]?

structure OkDX (C : Cfg) (ps : List (Nat × Nat)) (ops : Array Oper) (ms : Nat → Nat) : Prop where
  get : ∀ (j : Nat) o, ops[j]? = some o → ∀ i, (ms j).testBit i = true ↔ ∃ e ∈ o.after, Region.binds .any e = true ∧ (i = e.on ∨ (e.on < j ∧ (ms e.on).testBit i = true))
  lt : ∀ (j : Nat) o, ops[j]? = some o → ∀ i, (ms j).testBit i = true → i < j
  two : ∀ (i j : Nat) x y, i < j → ops[i]? = some x → ops[j]? = some y → (ms j).testBit i = true ∨ okTwoX C ps ops i j x y = true
theorem okX_spec {ps : List (Nat × Nat)} {msl : List Nat} (h : okX C ps msl ops = true) : OkDX C ps ops fun j => (masks ops.toList []).getD j 0 := by
  simp only [okX, Bool.and_eq_true, List.all_eq_true, Bool.or_eq_true, Bool.not_eq_true', decide_eq_false_iff_not] at h
  obtain ⟨⟨⟨h1, _⟩, h2⟩, _⟩ := h
  have hget : ∀ (j : Nat) o, ops[j]? = some o → (masks ops.toList []).getD j 0 = edgeMask ((masks ops.toList []).take j) o.after.toList := by
    intro j o ho
    have := masks_get ops.toList [] j o (by simpa using ho)
    simp only [List.length_nil, Nat.zero_add] at this
    rw [List.getD_eq_getElem?_getD, this]; rfl
  refine ⟨fun j o ho i => ?_, fun j o ho i hi => ?_, fun i j x y hij hx hy => ?_⟩
  · rw [hget j o ho, edgeMask, edgeMask_bits]
    simp only [Nat.zero_testBit, Bool.false_eq_true, false_or]
    have : ∀ k : Nat, (((masks ops.toList []).take j).getD k 0).testBit i = true ↔ (k < j ∧ ((masks ops.toList []).getD k 0).testBit i = true) := by
      intro k
      rw [List.getD_eq_getElem?_getD, List.getElem?_take, List.getD_eq_getElem?_getD]
      by_cases hk : k < j
      · simp [hk]
      · simp [hk]
    constructor
    · rintro ⟨e, he, hb, h⟩; exact ⟨e, by simpa using he, hb, h.imp id (this _).1⟩
    · rintro ⟨e, he, hb, h⟩; exact ⟨e, by simpa using he, hb, h.imp id (this _).2⟩
  · have hm : (masks ops.toList [])[j]? = some ((masks ops.toList []).getD j 0) := by
      have := masks_get ops.toList [] j o (by simpa using ho)
      simp only [List.length_nil, Nat.zero_add] at this
      rw [List.getD_eq_getElem?_getD, this]; rfl
    have hlt := h1 ((masks ops.toList []).getD j 0, j) (by rw [List.mem_zipIdx_iff_getElem?]; exact hm)
    simp only [decide_eq_true_eq] at hlt
    have hge := Nat.ge_two_pow_of_testBit hi
    exact (Nat.pow_lt_pow_iff_right (by decide : 1 < 2)).1 (Nat.lt_of_le_of_lt hge hlt)
  · have := h2 (y, j) (by rw [List.mem_zipIdx_iff_getElem?]; simpa using hy) (x, i) (by rw [List.mem_zipIdx_iff_getElem?]; simpa using hx)
    simp only at this
    rcases this with (h | h) | h
    · exact absurd hij h
    · exact .inl h
    · exact .inr h

theorem OkDX.closed {ps : List (Nat × Nat)} {ms : Nat → Nat} (h : OkDX C ps ops ms) {D : Nat → Prop} (hc : Closed ops D) : ∀ (j : Nat) o, ops[j]? = some o → (∀ e ∈ o.after, Region.binds .any e = true → D e.on) → ∀ i, (ms j).testBit i = true → D i := by
  intro j
  induction j using Nat.strongRecOn with
  | _ j ih =>
    intro o ho hd i hi
    obtain ⟨e, he, hb, h1 | ⟨h1, h2⟩⟩ := (h.get j o ho i).1 hi
    · rw [h1]; exact hd e he hb
    · have hlt : e.on < ops.size := by have := (Array.getElem?_eq_some_iff.1 ho).1; omega
      obtain ⟨o2, ho2⟩ : ∃ o2, ops[e.on]? = some o2 := ⟨ops[e.on], by simp [hlt]⟩
      exact ih e.on h1 o2 ho2 (hc e.on o2 ho2 (hd e he hb)) i h2

theorem TrX.facts {ps : List (Nat × Nat)} {S : Nat → St} (ht : TrX C call p r0 c0 ps ops S) {i : Nat} {x : Oper} (hx : ops[i]? = some x) :
    (S (i + 1)).nt = (S i).nt ∧ (memX C x = false → (S (i + 1)).σ = (S i).σ ∧ (S (i + 1)).c = (S i).c) ∧ (∀ d, x.dst ≠ some d ∨ (S i).nt ≤ d → (S (i + 1)).t.get d = (S i).t.get d) := by
  obtain ⟨t', h1, h2, h3, h4, h5, h6, h7⟩ := stepX_frame (ht.step i x hx) (fun _ _ => rfl) rfl (fun _ => ⟨rfl, rfl⟩) (fun _ _ _ _ => rfl)
  exact ⟨h3, fun h => ⟨(h5 h).2.2.1, (h5 h).2.2.2⟩, fun d hd => (h6 d hd).2⟩
theorem TrX.nt {ps : List (Nat × Nat)} {S : Nat → St} (ht : TrX C call p r0 c0 ps ops S) : ∀ i, i ≤ ops.size → (S i).nt = (S 0).nt := by
  intro i
  induction i with
  | zero => intro _; rfl
  | succ i ih => intro h; rw [(ht.facts (x := ops[i]) (by simp)).1]; exact ih (by omega)

structure InvX (C : Cfg) (ops : Array Oper) (S : Nat → St) (D : Nat → Prop) (t : St) : Prop where
  nt : t.nt = (S 0).nt
  mem : ∃ κ, κ ≤ ops.size ∧ (∀ (i : Nat) x, ops[i]? = some x → memX C x = true → (i < κ ↔ D i)) ∧ t.σ = (S κ).σ ∧ t.c = (S κ).c
  tmp : ∀ d, ∃ m, m ≤ ops.size ∧ (∀ (i : Nat) x, ops[i]? = some x → x.dst = some d → (i < m ↔ D i)) ∧ t.t.get d = (S m).t.get d

theorem okTwoX_spec {ps : List (Nat × Nat)} {i j : Nat} {x y : Oper} (h : okTwoX C ps ops i j x y = true) :
    x.apart ops y = true ∧ ¬ (memX C x = true ∧ memX C y = true) ∧ (memX C x = true → accOp y.op = true → (i, j) ∈ ps) ∧ (memX C y = true → accOp x.op = true → (j, i) ∈ ps) := by
  simp only [okTwoX, Bool.and_eq_true, Bool.or_eq_true, Bool.not_eq_true'] at h
  obtain ⟨⟨⟨h1, h2⟩, h3⟩, h4⟩ := h
  refine ⟨h1, fun h => by simp [h.1, h.2] at h2, fun a b => ?_, fun a b => ?_⟩
  · simpa [a, b] using h3
  · simpa [a, b] using h4

theorem indepX {ps : List (Nat × Nat)} {ms : Nat → Nat} (hok : OkDX C ps ops ms) {D : Nat → Prop} (hc : Closed ops D) {j : Nat} {y : Oper} (hy : ops[j]? = some y) (hj : ¬ D j)
    (hd : ∀ e ∈ y.after, Region.binds .any e = true → D e.on) {i : Nat} {x : Oper} (hx : ops[i]? = some x) (hij : i ≠ j) (hne : ¬(i < j ↔ D i)) :
    (∀ d, x.dst = some d → d ∉ y.looksAt ops) ∧ (∀ d, x.dst = some d → y.dst ≠ some d) ∧ ¬ (memX C x = true ∧ memX C y = true) ∧ (memX C x = true → accOp y.op = true → (i, j) ∈ ps) := by
  rcases Nat.lt_or_ge i j with hlt | hge
  · have hDi : ¬ D i := fun h => hne ⟨fun _ => h, fun _ => hlt⟩
    rcases hok.two i j x y hlt hx hy with h | h
    · exact absurd (hok.closed hc j y hy hd i h) hDi
    · obtain ⟨h1, h2, h3, h4⟩ := okTwoX_spec h
      obtain ⟨a1, a2, a3⟩ := Oper.apart_spec h1
      exact ⟨a1, a2, h2, h3⟩
  · have hlt : j < i := by omega
    have hDi : D i := Classical.byContradiction fun h => hne ⟨fun h' => by omega, fun h' => absurd h' h⟩
    rcases hok.two j i y x hlt hy hx with h | h
    · exact absurd (hok.closed hc i x hx (hc i x hx hDi) j h) hj
    · obtain ⟨h1, h2, h3, h4⟩ := okTwoX_spec h
      obtain ⟨a1, a2, a3⟩ := Oper.apart_spec h1
      exact ⟨a3, fun d hd hd' => a2 d hd' hd, fun h => h2 h.symm, h4⟩

theorem inv_stepX {ps : List (Nat × Nat)} {S : Nat → St} {ms : Nat → Nat} (ht : TrX C call p r0 c0 ps ops S) (hok : OkDX C ps ops ms) {D : Nat → Prop} (hc : Closed ops D) {t : St} (hi : InvX C ops S D t)
    {j : Nat} {y : Oper} (hy : ops[j]? = some y) (hj : ¬ D j) (hd : ∀ e ∈ y.after, Region.binds .any e = true → D e.on) :
    ∃ t', stepX C call p ops r0 c0 (slotOf ops.toList j) y t = some t' ∧ InvX C ops S (fun i => D i ∨ i = j) t' := by
  have hjn : j < ops.size := (Array.getElem?_eq_some_iff.1 hy).1
  have hin : ∀ (i b : Nat), b ≤ ops.size → ¬(i < b ↔ i < j) → ∃ x, ops[i]? = some x := by
    intro i b hb h
    have : i < ops.size := by
      rcases Nat.lt_or_ge i ops.size with h' | h'
      · exact h'
      · exact absurd ⟨fun h => by omega, fun h => by omega⟩ h
    exact ⟨ops[i], by simp [this]⟩
  obtain ⟨hnt, ⟨κ, hκ, hmem, hσ, hcc⟩, htmp⟩ := hi
  have hl : ∀ d ∈ y.looksAt ops, t.t.get d = (S j).t.get d := by
    intro d hdl
    obtain ⟨m, hm, hw, he⟩ := htmp d
    rw [he]
    refine between (fun i => (S i).t.get d) m j fun i hne => ?_
    obtain ⟨x, hx⟩ := hin i m hm hne
    refine (ht.facts hx).2.2 d (.inl fun hxd => ?_)
    rw [hw i x hx hxd] at hne
    by_cases hij : i = j
    · subst hij; exact hne ⟨fun h => absurd h hj, fun h => by omega⟩
    · exact (indepX hok hc hy hj hd hx hij fun h => hne h.symm).1 d hxd hdl
  have hmm : memX C y = true → t.σ = (S j).σ ∧ t.c = (S j).c := by
    intro hym
    rw [hσ, hcc]
    have := between (fun i => ((S i).σ, (S i).c)) κ j fun i hne => by
      obtain ⟨x, hx⟩ := hin i κ hκ hne
      cases hxm : memX C x with
      | false => obtain ⟨a, b⟩ := (ht.facts hx).2.1 hxm; simp only [a, b]
      | true =>
        rw [hmem i x hx hxm] at hne
        by_cases hij : i = j
        · subst hij; exact absurd ⟨fun h => absurd h hj, fun h => by omega⟩ hne
        · exact absurd ⟨hxm, hym⟩ (indepX hok hc hy hj hd hx hij fun h => hne h.symm).2.2.1
    exact Prod.mk.inj this
  have hac : memX C y = false → accOp y.op = true → ∀ r ∈ accs ((S j).ev C) y.op, t.σ[r]? = (S j).σ[r]? := by
    intro _ hya r hr
    rw [hσ]
    refine between (fun i => (S i).σ[r]?) κ j fun i hne => ?_
    obtain ⟨x, hx⟩ := hin i κ hκ hne
    cases hxm : memX C x with
    | false => simp only [((ht.facts hx).2.1 hxm).1]
    | true =>
      rw [hmem i x hx hxm] at hne
      by_cases hij : i = j
      · subst hij; exact absurd ⟨fun h => absurd h hj, fun h => by omega⟩ hne
      · exact ht.pair i j y ((indepX hok hc hy hj hd hx hij fun h => hne h.symm).2.2.2 hxm hya) (Array.getElem?_eq_some_iff.1 hx).1 hy r hr
  have hntj : t.nt = (S j).nt := by rw [hnt, ht.nt j (by omega)]
  obtain ⟨t', h1, h2, h3, h4, h5, h6, h7⟩ := stepX_frame (ht.step j y hy) hl hntj hmm hac
  refine ⟨t', h1, by rw [h2, hnt], ?_, fun d => ?_⟩
  · cases hym : memX C y with
    | true =>
      obtain ⟨a, b⟩ := h4 hym
      refine ⟨j + 1, by omega, fun i x hx hxm => ?_, a, b⟩
      by_cases hij : i = j
      · subst hij; exact ⟨fun _ => .inr rfl, fun _ => by omega⟩
      · have : i < j ↔ D i := Classical.byContradiction fun hne => (indepX hok hc hy hj hd hx hij hne).2.2.1 ⟨hxm, hym⟩
        constructor
        · intro h; exact .inl (this.1 (by omega))
        · rintro (h | h)
          · have := this.2 h; omega
          · exact absurd h hij
    | false =>
      obtain ⟨a, b, _, _⟩ := h5 hym
      refine ⟨κ, hκ, fun i x hx hxm => ?_, by rw [a, hσ], by rw [b, hcc]⟩
      rw [hmem i x hx hxm]
      constructor
      · exact .inl
      · rintro (h | h)
        · exact h
        · subst h; rw [hy] at hx; cases hx; rw [hym] at hxm; cases hxm
  · obtain ⟨m, hm, hw, he⟩ := htmp d
    by_cases hyd : y.dst = some d
    · refine ⟨j + 1, by omega, fun i x hx hxd => ?_, ?_⟩
      · by_cases hij : i = j
        · subst hij; exact ⟨fun _ => .inr rfl, fun _ => by omega⟩
        · have : i < j ↔ D i := Classical.byContradiction fun hne => (indepX hok hc hy hj hd hx hij hne).2.1 d hxd hyd
          constructor
          · intro h; exact .inl (this.1 (by omega))
          · rintro (h | h)
            · have := this.2 h; omega
            · exact absurd h hij
      · by_cases hlt : d < (S j).nt
        · exact h7 d hyd hlt
        · have hge : (S j).nt ≤ d := Nat.not_lt.1 hlt
          have hall : ∀ b, b ≤ ops.size → (S b).t.get d = (S j).t.get d := fun b hb => between (fun i => (S i).t.get d) b j fun i hne => by
            obtain ⟨x, hx⟩ := hin i b hb hne
            have hi := (Array.getElem?_eq_some_iff.1 hx).1
            exact (ht.facts hx).2.2 d (.inr (by rw [ht.nt i (by omega), ← ht.nt j (by omega)]; exact hge))
          rw [(h6 d (.inr hge)).1, he, hall m hm, hall (j + 1) (by omega)]
    · refine ⟨m, hm, fun i x hx hxd => ?_, by rw [(h6 d (.inl hyd)).1, he]⟩
      rw [hw i x hx hxd]
      constructor
      · exact .inl
      · rintro (h | h)
        · exact h
        · subst h; rw [hy] at hx; cases hx; exact absurd hxd hyd

theorem inv_doneX {ps : List (Nat × Nat)} {S : Nat → St} (ht : TrX C call p r0 c0 ps ops S) {D : Nat → Prop} {t : St} (hi : InvX C ops S D t) (hall : ∀ i, i < ops.size → D i) :
    t.nt = (S ops.size).nt ∧ t.σ = (S ops.size).σ ∧ t.c = (S ops.size).c ∧ ∀ d, t.t.get d = (S ops.size).t.get d := by
  obtain ⟨hnt, ⟨κ, hκ, hmem, hσ, hcc⟩, htmp⟩ := hi
  have hin : ∀ (i b : Nat), b ≤ ops.size → ¬(i < b ↔ i < ops.size) → i < ops.size ∧ ¬ i < b := by
    intro i b hb h
    rcases Nat.lt_or_ge i ops.size with h' | h'
    · exact ⟨h', fun h'' => h ⟨fun _ => h', fun _ => h''⟩⟩
    · exact absurd ⟨fun h => by omega, fun h => by omega⟩ h
  have h1 := between (fun i => ((S i).σ, (S i).c)) κ ops.size fun i hne => by
    obtain ⟨h1, h2⟩ := hin i κ hκ hne
    have hx : ops[i]? = some ops[i] := by simp [h1]
    cases hxm : memX C ops[i] with
    | false => obtain ⟨a, b⟩ := (ht.facts hx).2.1 hxm; simp only [a, b]
    | true => exact absurd ((hmem i _ hx hxm).2 (hall i h1)) h2
  obtain ⟨a, b⟩ := Prod.mk.inj h1
  refine ⟨by rw [hnt, ht.nt _ (Nat.le_refl _)], by rw [hσ, a], by rw [hcc, b], fun d => ?_⟩
  obtain ⟨m, hm, hw, he⟩ := htmp d
  rw [he]
  refine between (fun i => (S i).t.get d) m ops.size fun i hne => ?_
  obtain ⟨h1, h2⟩ := hin i m hm hne
  have hx : ops[i]? = some ops[i] := by simp [h1]
  exact (ht.facts hx).2.2 d (.inl fun hxd => h2 ((hw i _ hx hxd).2 (hall i h1)))
theorem inv_startX (S : Nat → St) : InvX C ops S (fun _ => False) (S 0) := ⟨rfl, ⟨0, Nat.zero_le _, fun i x _ _ => ⟨fun h => by omega, fun h => h.elim⟩, rfl, rfl⟩, fun d => ⟨0, Nat.zero_le _, fun i x _ _ => ⟨fun h => by omega, fun h => h.elim⟩, rfl⟩⟩
end
end Go.Am
