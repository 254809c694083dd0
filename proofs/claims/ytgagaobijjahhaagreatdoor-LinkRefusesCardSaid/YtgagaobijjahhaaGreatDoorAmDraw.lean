/- The abstract machine: what an operation depends on. -/
import Derived.Test.YtgagaobijjahhaaGreatDoorAm2
namespace Go.Am
set_option linter.unusedVariables false
set_option linter.unusedSimpArgs false

mutual
theorem V.eqb_eq : ∀ {a q : V}, V.eqb a q = true → a = q
  | .b x, q, h => by cases q <;> simp_all [V.eqb]
  | .i k n, q, h => by cases q <;> simp_all [V.eqb]
  | .s x, q, h => by cases q <;> simp_all [V.eqb]
  | .nilp, q, h => by cases q <;> simp_all [V.eqb]
  | .nils, q, h => by cases q <;> simp_all [V.eqb]
  | .nilf, q, h => by cases q <;> simp_all [V.eqb]
  | .nili, q, h => by cases q <;> simp_all [V.eqb]
  | .nilm, q, h => by cases q <;> simp_all [V.eqb]
  | .bad, q, h => by cases q <;> simp_all [V.eqb]
  | .ptr r st o, q, h => by cases q <;> simp_all [V.eqb]
  | .sl r st o n es c, q, h => by cases q <;> simp_all [V.eqb]
  | .map r st, q, h => by cases q <;> simp_all [V.eqb]
  | .iptr cs, q, h => by
    cases q <;> simp only [V.eqb, Bool.false_eq_true] at h
    rw [V.eqbL_eq h]
  | .arr cs n c, q, h => by
    cases q <;> simp only [V.eqb, Bool.false_eq_true, Bool.and_eq_true, decide_eq_true_eq, beq_iff_eq] at h
    rw [V.eqbL_eq h.1.1, h.1.2, h.2]
  | .agg cs, q, h => by
    cases q <;> simp only [V.eqb, Bool.false_eq_true] at h
    rw [V.eqbL_eq h]
  | .fn f u1 u2, q, h => by
    cases q <;> simp only [V.eqb, Bool.false_eq_true, Bool.and_eq_true, decide_eq_true_eq] at h
    rw [V.eqbL_eq h.1.2, V.eqbL_eq h.2, h.1.1]
  | .iface t v, q, h => by
    cases q <;> simp only [V.eqb, Bool.false_eq_true, Bool.and_eq_true, decide_eq_true_eq] at h
    rw [V.eqb_eq h.2, h.1]
  | .tup u1, q, h => by
    cases q <;> simp only [V.eqb, Bool.false_eq_true] at h
    rw [V.eqbL_eq h]
theorem V.eqbL_eq : ∀ {a q : List V}, V.eqbL a q = true → a = q
  | [], q, h => by cases q <;> simp_all [V.eqbL]
  | u :: l, q, h => by
    cases q with
    | nil => simp [V.eqbL] at h
    | cons u2 l2 =>
      simp only [V.eqbL, Bool.and_eq_true] at h
      rw [V.eqb_eq h.1, V.eqbL_eq h.2]
end
theorem kvEqb_eq : ∀ {a b : List (V × V)}, kvEqb a b = true → a = b
  | [], b, h => by cases b <;> simp_all [kvEqb]
  | (k, v) :: l, b, h => by
    cases b with
    | nil => simp [kvEqb] at h
    | cons u2 l2 =>
      obtain ⟨k2, v2⟩ := u2
      simp only [kvEqb, Bool.and_eq_true] at h
      rw [V.eqb_eq h.1.1, V.eqb_eq h.1.2, kvEqb_eq h.2]
theorem O.eqb_eq {a b : Option O} (h : O.eqb a b = true) : a = b := by
  cases a with
  | none => cases b with
    | none => rfl
    | some b => cases b <;> simp [O.eqb] at h
  | some a => cases b with
    | none => cases a <;> simp [O.eqb] at h
    | some b =>
      cases a <;> cases b <;> simp only [O.eqb, Bool.and_eq_true, decide_eq_true_eq, Bool.false_eq_true] at h
      · rw [h.1, V.eqbL_eq h.2]
      · rw [h.1, kvEqb_eq h.2]
      · rfl

section
variable {C : Cfg} {p : List Nat} {σ σ' : List O} {c : Nat}

theorem opA_congr {ev ev' : Operand → V} (op : Op) (h : ∀ x ∈ op.operands, ev x = ev' x) : opA C p ev σ c op = opA C p ev' σ c op := by
  have pairs : ∀ ps : Array (Nat × Operand), (∀ x ∈ (ps.toList.map (·.2)).toArray, ev x = ev' x) →
      (ps.toList.map fun (i, x) => (i, ev x)) = (ps.toList.map fun (i, x) => (i, ev' x)) := fun ps hp => by
    refine List.map_congr_left fun q hq => ?_
    obtain ⟨i, x⟩ := q
    show (i, ev x) = (i, ev' x)
    rw [hp x (by simp only [List.mem_toArray, List.mem_map]; exact ⟨(i, x), hq, rfl⟩)]
  have lists : ∀ l : Array Operand, (∀ x ∈ l, ev x = ev' x) → l.toList.map ev = l.toList.map ev' := fun l hl => List.map_congr_left fun x hx => hl x (by simpa using hx)
  cases op <;> simp only [Op.operands] at h <;> simp only [opA]
  case build t ps => rw [pairs ps h]
  case buildSlice t n ps => rw [pairs ps h]
  case makeFunc fn fi ca =>
    cases fn <;> try rfl
    simp only [opA]
    rw [lists fi fun x hx => h x (by simp [hx]), lists ca fun x hx => h x (by simp [hx])]
  case call cl =>
    obtain ⟨callee, args, ts⟩ := cl
    cases callee <;> try rfl
    simp only [opA]
    rw [lists args fun x hx => h x (by simp [Call.operands, hx])]
  case slice t x lo hi mx =>
    have hx : ev x = ev' x := h x (by simp)
    have h1 : lo.map ev = lo.map ev' := by cases lo with | none => rfl | some y => simp [h y (by simp)]
    have h2 : hi.map ev = hi.map ev' := by cases hi with | none => rfl | some y => simp [h y (by simp)]
    have h3 : mx.map ev = mx.map ev' := by cases mx with | none => rfl | some y => simp [h y (by simp)]
    rw [hx, h1, h2, h3]
  case makeMap t r => cases r <;> rfl
  case pick k a b => rw [h k (by simp), h a (by simp), h b (by simp)]
  case store t a x => rw [h a (by simp), h x (by simp)]
  case binOp op t x y _ => rw [h x (by simp), h y (by simp)]
  case makeSlice t l k => rw [h l (by simp), h k (by simp)]
  case indexAddr t x i => rw [h x (by simp), h i (by simp)]
  case index t x i => rw [h x (by simp), h i (by simp)]
  case lookup t m k ok => rw [h m (by simp), h k (by simp)]
  case insert t m k x => rw [h m (by simp), h k (by simp), h x (by simp)]
  case mapUpdate t m k x => rw [h m (by simp), h k (by simp), h x (by simp)]
  all_goals first | rfl | (rename_i x; rw [h x (by simp)]) | (rename_i x _; rw [h x (by simp)])

theorem rowAt_congr {r : Nat} (h : σ'[r]? = σ[r]?) (st : List Nat) : rowAt σ' r st = rowAt σ r st := by simp only [rowAt, h]
theorem loadA_congr {t : TypeId} {a : V} (h : ∀ r ∈ touch a, σ'[r]? = σ[r]?) : loadA C t σ' a = loadA C t σ a := by
  have : cellsAt σ' a = cellsAt σ a := by
    cases a <;> try rfl
    rename_i r st off
    simp only [cellsAt]
    rw [rowAt_congr (h r (by simp [touch]))]
  simp only [loadA, this]
theorem elems_congr {z : Nat} {a : V} (h : ∀ r ∈ touch a, σ'[r]? = σ[r]?) : elems z σ' a = elems z σ a := by
  cases a <;> try rfl
  rename_i r st off n es cap
  simp only [elems]
  rw [rowAt_congr (h r (by simp [touch]))]
theorem convertP_congr {s d : TypeId} {a : V} (h : ∀ r ∈ touch a, σ'[r]? = σ[r]?) : convertP C s d σ' a = convertP C s d σ a := by
  simp only [convertP, elems_congr h]
theorem lookupA_congr {t : TypeId} {m k : V} {ok : Bool} (h : ∀ r ∈ touch m, σ'[r]? = σ[r]?) : lookupA C t σ' m k ok = lookupA C t σ m k ok := by
  cases m <;> try rfl
  rename_i r st
  simp only [lookupA, h r (by simp [touch])]
theorem lenA_congr {t : TypeId} {x : V} (h : ∀ r ∈ touchM x, σ'[r]? = σ[r]?) : lenA C t σ' x = lenA C t σ x := by
  unfold lenA
  cases C.shape t <;> cases x <;> try rfl
  rename_i r st
  simp only [h r (by simp [touchM])]

theorem opA_frame {ev : Operand → V} {op : Op} {v : V} {σ1 : List O} {c1 : Nat} (hm : memOp C op = false) (h : opA C p ev σ c op = some (v, σ1, c1)) :
    σ1 = σ ∧ c1 = c ∧ ∀ σ' c', (accOp op = true → ∀ r ∈ accs ev op, σ'[r]? = σ[r]?) → opA C p ev σ' c' op = some (v, σ', c') := by
  cases op <;> simp only [memOp, Bool.true_eq_false] at hm <;> simp only [opA, reduceCtorEq] at h ⊢
  case move x => simp at h; obtain ⟨rfl, rfl, rfl⟩ := h; exact ⟨rfl, rfl, fun _ _ _ => rfl⟩
  case assign x => simp at h; obtain ⟨rfl, rfl, rfl⟩ := h; exact ⟨rfl, rfl, fun _ _ _ => rfl⟩
  case pick k a b =>
    split at h
    · simp at h; obtain ⟨rfl, rfl, rfl⟩ := h; exact ⟨rfl, rfl, fun _ _ _ => rfl⟩
    · simp at h
  case load t a =>
    simp only [Option.map_eq_some_iff, Prod.mk.injEq] at h
    obtain ⟨v', hv, rfl, rfl, rfl⟩ := h
    exact ⟨rfl, rfl, fun σ' c' hh => by rw [loadA_congr (hh rfl), hv]; rfl⟩
  case lookup t m k ok =>
    simp only [Option.map_eq_some_iff, Prod.mk.injEq] at h
    obtain ⟨v', hv, rfl, rfl, rfl⟩ := h
    exact ⟨rfl, rfl, fun σ' c' hh => by rw [lookupA_congr (hh rfl), hv]; rfl⟩
  case convert s d x =>
    split at h
    · rename_i e he; simp [he] at hm
    · rename_i hn
      simp only [Option.map_eq_some_iff, Prod.mk.injEq] at h
      obtain ⟨v', hv, rfl, rfl, rfl⟩ := h
      refine ⟨rfl, rfl, fun σ' c' hh => ?_⟩
      rw [convertP_congr (hh rfl), hv]; rfl
  case makeFunc fn fi ca =>
    cases fn <;> simp only [reduceCtorEq] at h
    simp at h; obtain ⟨rfl, rfl, rfl⟩ := h
    exact ⟨rfl, rfl, fun _ _ _ => rfl⟩
  case slice t x lo hi mx =>
    split at h
    · simp at h
    · rename_i hc
      simp only [Option.map_eq_some_iff, Prod.mk.injEq] at h
      obtain ⟨v', hv, rfl, rfl, rfl⟩ := h
      exact ⟨rfl, rfl, fun _ _ _ => by rw [if_neg hc, hv]; rfl⟩
  case call cl =>
    obtain ⟨callee, args, ts⟩ := cl
    cases callee <;> simp only [reduceCtorEq] at h
    rename_i b
    simp only [memOp] at hm
    simp only [hm, Bool.false_eq_true, if_false, Option.map_eq_some_iff, Prod.mk.injEq] at h ⊢
    obtain ⟨v', hv, rfl, rfl, rfl⟩ := h
    refine ⟨rfl, rfl, fun σ' c' hh => ⟨v', ?_, rfl, trivial⟩⟩
    rw [← hv]
    have hx : b = .len → ∀ x ∈ args.toList.map ev, ∀ t, lenA C t σ' x = lenA C t σ x := by
      rintro rfl x hx t
      refine lenA_congr fun r hr => hh rfl r ?_
      simp only [accs, hm, Bool.false_eq_true, if_false, List.mem_flatMap]
      obtain ⟨o, ho, rfl⟩ := List.mem_map.1 hx
      exact ⟨o, ho, hr⟩
    generalize args.toList.map ev = xs at hx
    rcases xs with _ | ⟨x, _ | ⟨x2, xs⟩⟩ <;> cases b <;> first | rfl | (simp only [builtinP, hx rfl x (by simp)])
  all_goals first
    | (simp only [Option.map_eq_some_iff, Prod.mk.injEq] at h
       obtain ⟨v', hv, rfl, rfl, rfl⟩ := h
       exact ⟨rfl, rfl, fun _ _ _ => by first | (rw [hv]; rfl) | (simp only [hv]; rfl)⟩)
end
end Go.Am
