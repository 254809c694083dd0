/- Equality of values that are made of scalars alone, as the machine has it: cell by cell. -/
import Derived.Test.YtgagaobijjahhaaGreatDoorJS
namespace Go.Am
open Go
set_option linter.unusedVariables false
set_option linter.unusedSimpArgs false
inductive Fk where
  | i (k : IntKind) | s | b
  deriving DecidableEq
def V.fk : V → Option Fk
  | .i k _ => some (.i k)
  | .s _ => some .s
  | .b _ => some .b
  | _ => none
def V.tv : V → Value
  | .i k n => .int k n
  | .s x => .string x
  | .b x => .bool x
  | _ => .nilFunc
def scB : V → V → Bool
  | .i _ x, .i _ y => decide (x = y)
  | .s x, .s y => decide (x = y)
  | .b x, .b y => x == y
  | _, _ => false
def eqB : List V → List V → Bool
  | [], [] => true
  | a :: l, b :: m => scB a b && eqB l m
  | _, _ => false
theorem fk_i {k : IntKind} {n : Int} : (V.i k n).fk = some (.i k) := rfl
theorem fk_s {b : ByteArray} : (V.s b).fk = some .s := rfl
theorem fk_b {b : Bool} : (V.b b).fk = some .b := rfl
theorem fk_ints {k : IntKind} {l : List Int} : (ints k l).map V.fk = (List.replicate l.length (Fk.i k)).map some := by
  induction l with
  | nil => rfl
  | cons a l ih => simp only [ints, List.map_cons, List.length_cons, List.replicate_succ] at ih ⊢; rw [ih]; rfl
theorem eqB_ints {k : IntKind} : ∀ {a b : List Int}, eqB (ints k a) (ints k b) = decide (a = b)
  | [], [] => rfl
  | a :: l, b :: m => by
    have ih := eqB_ints (k := k) (a := l) (b := m)
    simp only [ints, List.map_cons, eqB, scB] at ih ⊢
    rw [ih, Bool.eq_iff_iff]; simp
  | [], _ :: _ => rfl
  | _ :: _, [] => rfl
theorem eqB_nil : eqB [] [] = true := rfl
theorem eqB_cons {a b : V} {l m : List V} : eqB (a :: l) (b :: m) = (scB a b && eqB l m) := rfl
theorem scB_i {k k' : IntKind} {x y : Int} : scB (.i k x) (.i k' y) = decide (x = y) := rfl
theorem scB_s {x y : ByteArray} : scB (.s x) (.s y) = decide (x = y) := rfl
theorem scB_b {x y : Bool} : scB (.b x) (.b y) = (x == y) := rfl
theorem eqB_app : ∀ {a c b d : List V}, a.length = c.length → eqB (a ++ b) (c ++ d) = (eqB a c && eqB b d)
  | [], [], b, d, _ => by simp [eqB]
  | x :: a, y :: c, b, d, h => by
    simp only [List.cons_append, eqB, eqB_app (a := a) (c := c) (b := b) (d := d) (by simpa using h), Bool.and_assoc]
theorem scB_iff {a b : V} (h : a.fk = b.fk) (hs : a.fk ≠ none) : scB a b = true ↔ a = b := by
  cases a <;> cases b <;> simp_all [V.fk, scB]
theorem eqB_iff : ∀ {us vs : List V}, us.map V.fk = vs.map V.fk → (∀ u ∈ us, u.fk ≠ none) → (eqB us vs = true ↔ us = vs)
  | [], [], _, _ => by simp [eqB]
  | a :: l, b :: m, h, h2 => by
    simp only [List.map_cons, List.cons.injEq] at h
    simp only [eqB, Bool.and_eq_true, List.cons.injEq]
    rw [scB_iff h.1 (h2 a (by simp)), eqB_iff h.2 fun u hu => h2 u (by simp [hu])]
  | [], _ :: _, h, _ => by simp at h
  | _ :: _, [], h, _ => by simp at h
theorem eqB_refl : ∀ {us : List V}, (∀ u ∈ us, u.fk ≠ none) → eqB us us = true := fun h => (eqB_iff rfl h).2 rfl
theorem toVals_tv : ∀ {us : List V}, (∀ u ∈ us, u.fk ≠ none) → toVals us = some (us.map V.tv)
  | [], _ => rfl
  | a :: l, h => by
    have h1 := h a (by simp)
    have h2 := toVals_tv (us := l) fun u hu => h u (by simp [hu])
    cases a <;> simp [V.fk] at h1 <;> simp [toVals, toVal1, h2, V.tv]

section
variable (C : Cfg)
def flatFs (F : TypeId → Option (List Fk)) : List Field → Nat → Option (List Fk)
  | [], _ => some []
  | f :: fs, o => if f.name ≠ "_" ∧ f.offset = o then (F f.type).bind fun l => if C.size f.type = some l.length then (flatFs F fs (o + l.length)).map (l ++ ·) else none else none
def flat : Nat → TypeId → Option (List Fk)
  | 0, _ => none
  | d + 1, t =>
    match C.P.underlying t with
    | some (.int k) => if C.size t = some 1 then some [.i k] else none
    | some .string => if C.size t = some 1 then some [.s] else none
    | some .bool => if C.size t = some 1 then some [.b] else none
    | some (.array n e) => (flat d e).bind fun l => if C.size e = some l.length ∧ C.size t = some (n * l.length) then some (List.replicate n l).flatten else none
    | some (.struct fs) => if C.P.stoodInHeld t then none else (flatFs C (flat d) fs.toList 0).bind fun l => if C.size t = some l.length then some l else none
    | _ => none
end
def valOf (g : Bool) (l : List Value) : Value := if g then .agg l.toArray else l.headD .nilFunc
section
variable {C : Cfg}
theorem flat_agg {d : Nat} {t : TypeId} {l : List Fk} (h : flat C d t = some l) : ∃ g, C.isAgg t = some g := by
  cases d with
  | zero => simp [flat] at h
  | succ d =>
    unfold flat at h
    unfold Cfg.isAgg
    cases hu : C.P.underlying t with
    | none => simp [hu] at h
    | some u => cases u <;> simp
theorem pureRun_isAgg {t : TypeId} {g : Bool} (h : C.isAgg t = some g) : pureRun C.P (isAgg t) = some g := by
  unfold Cfg.isAgg at h
  show pureRun C.P ((underlying t).bind _) = _
  rw [pureRun_bind]
  cases hu : C.P.underlying t with
  | none => rw [hu] at h; cases h
  | some u =>
    rw [pureRun_under hu]
    rw [hu] at h
    cases u <;> simp at h <;> subst h <;> rfl
theorem pureRun_partG {t : TypeId} {g : Bool} {n off : Nat} {xs : List Value} (ha : C.isAgg t = some g) (hz : C.size t = some n) (hn : g = false → n = 1) (h : off + n ≤ xs.length) :
    pureRun C.P (part t xs.toArray off) = some (valOf g ((xs.drop off).take n)) := by
  show pureRun C.P ((isAgg t).bind _) = _
  rw [pureRun_bind, pureRun_isAgg ha]
  cases g with
  | true =>
    simp only [Option.bind_some, if_true]
    show pureRun C.P ((sizeOf t).bind _) = _
    rw [pureRun_bind, pureRun_size hz]
    simp only [Option.bind_some, valOf, if_true]
    show some _ = some _
    congr 2
    simp [List.extract_toArray]
  | false =>
    have := hn rfl
    subst this
    simp only [Option.bind_some, Bool.false_eq_true, if_false, valOf]
    rw [List.getElem?_toArray, List.getElem?_eq_getElem (by omega)]
    show some _ = some _
    congr 1
    rw [List.drop_eq_getElem_cons (by omega)]; rfl
theorem flat_w1 {d : Nat} {t : TypeId} {l : List Fk} (h : flat C d t = some l) (hg : C.isAgg t = some false) : l.length = 1 := by
  cases d with
  | zero => simp [flat] at h
  | succ d =>
    unfold flat at h
    unfold Cfg.isAgg at hg
    split at h
    · split at h <;> cases h; rfl
    · split at h <;> cases h; rfl
    · split at h <;> cases h; rfl
    · rename_i hu; rw [hu] at hg; cases hg
    · rename_i hu; rw [hu] at hg; cases hg
    · cases h
theorem map_slice {us : List V} {l a b : List Fk} {o : Nat} (h : us.map V.fk = l.map some) (hl : l = a ++ b) (ho : a.length = o) (n : Nat) : ((us.drop o).take n).map V.fk = (b.take n).map some := by
  rw [List.map_take, List.map_drop, h, hl, ← List.map_drop, ← List.map_take]
  subst ho; simp
theorem fk_some {us : List V} {l : List Fk} (h : us.map V.fk = l.map some) : ∀ u ∈ us, u.fk ≠ none := by
  intro u hu hn
  have : u.fk ∈ us.map V.fk := List.mem_map_of_mem hu
  rw [h, hn] at this
  simp at this
theorem fk_len {us : List V} {l : List Fk} (h : us.map V.fk = l.map some) : us.length = l.length := by
  have := congrArg List.length h; simpa using this
theorem take_add' {α : Type} (l : List α) (o a b : Nat) : (l.drop o).take (a + b) = (l.drop o).take a ++ (l.drop (o + a)).take b := by
  rw [List.take_add, List.drop_drop]
theorem flat_fs : ∀ (d : Nat) (fs : List Field) (o : Nat) (lf : List Fk), flatFs C (flat C d) fs o = some lf → ∀ (us vs : List V) (a l : List Fk), l = a ++ lf → a.length = o → us.map V.fk = l.map some → vs.map V.fk = l.map some →
    (∀ f ∈ fs, f.name ≠ "_" ∧ ∃ lq gq, flat C d f.type = some lq ∧ C.isAgg f.type = some gq ∧ C.size f.type = some lq.length ∧ f.offset + lq.length ≤ us.length ∧ f.offset + lq.length ≤ vs.length ∧
      ((us.drop f.offset).take lq.length).map V.fk = lq.map some ∧ ((vs.drop f.offset).take lq.length).map V.fk = lq.map some) ∧
    (fs.all fun f => match flat C d f.type with | some l => eqB ((us.drop f.offset).take l.length) ((vs.drop f.offset).take l.length) | none => false) = eqB ((us.drop o).take lf.length) ((vs.drop o).take lf.length)
  | d, [], o, lf, h, us, vs, a, l, hl, ho, hu, hv => by
    have : lf = [] := by simpa [flatFs] using h.symm
    subst this
    exact ⟨fun f hf => by simp at hf, by simp [eqB]⟩
  | d, f :: fs, o, lf, h, us, vs, a, l, hl, ho, hu, hv => by
    unfold flatFs at h
    split at h
    · rename_i hn
      simp only [Option.bind_eq_some_iff] at h
      obtain ⟨lq, h1, h2⟩ := h
      split at h2
      · rename_i hz
        simp only [Option.map_eq_some_iff] at h2
        obtain ⟨lr, h3, rfl⟩ := h2
        obtain ⟨g, hg⟩ := flat_agg h1
        obtain ⟨r1, r2⟩ := flat_fs d fs (o + lq.length) lr h3 us vs (a ++ lq) l (by rw [hl, List.append_assoc]) (by simp [ho]) hu hv
        have lu := fk_len hu
        have lv := fk_len hv
        rw [hl] at lu lv
        simp only [List.length_append] at lu lv
        refine ⟨fun f' hf => ?_, ?_⟩
        · rcases List.mem_cons.1 hf with rfl | hf
          · refine ⟨hn.1, lq, g, h1, hg, hz, by omega, by omega, ?_, ?_⟩
            · rw [hn.2, map_slice hu hl ho]; simp
            · rw [hn.2, map_slice hv hl ho]; simp
          · exact r1 f' hf
        · rw [List.all_cons, r2]
          simp only [h1, hn.2, List.length_append]
          rw [take_add', take_add', eqB_app (by rw [List.length_take, List.length_take, List.length_drop, List.length_drop]; omega)]
      · cases h2
    · cases h
theorem flat_eq (d : Nat) : ∀ (D : Nat), d ≤ D → ∀ (t : TypeId) (l : List Fk) (g : Bool), flat C d t = some l → C.isAgg t = some g → ∀ (us vs : List V), us.map V.fk = l.map some → vs.map V.fk = l.map some →
    pureRun C.P (Op.equalIn D t (valOf g (us.map V.tv)) (valOf g (vs.map V.tv))) = some (eqB us vs) := by
  induction d using Nat.strongRecOn with
  | _ d0 ih =>
    intro D0 hD t l g h hg us vs hu hv
    obtain ⟨d, rfl⟩ : ∃ d, d0 = d + 1 := ⟨d0 - 1, by cases d0 with | zero => simp [flat] at h | succ => rfl⟩
    obtain ⟨D, rfl⟩ : ∃ D, D0 = D + 1 := ⟨D0 - 1, by omega⟩
    have hl1 := flat_w1 h
    unfold flat at h
    unfold Op.equalIn
    show pureRun C.P ((underlying t).bind _) = _
    rw [pureRun_bind]
    split at h
    · rename_i k hund
      split at h <;> cases h
      have hg' : g = false := by unfold Cfg.isAgg at hg; rw [hund] at hg; simpa using hg.symm
      subst hg'
      obtain ⟨a, rfl⟩ : ∃ a, us = [a] := List.length_eq_one_iff.1 (by simpa using fk_len hu)
      obtain ⟨b, rfl⟩ : ∃ a, vs = [a] := List.length_eq_one_iff.1 (by simpa using fk_len hv)
      rw [pureRun_under hund]
      simp only [List.map_cons, List.map_nil, List.cons.injEq, and_true] at hu hv
      cases a <;> simp [V.fk] at hu
      cases b <;> simp [V.fk] at hv
      subst hu; subst hv
      simp only [Option.bind_some, valOf, List.map_cons, V.tv, List.headD_cons, Bool.false_eq_true, if_false, if_true, eqB, scB, Bool.and_true]
      rfl
    · rename_i hund
      split at h <;> cases h
      have hg' : g = false := by unfold Cfg.isAgg at hg; rw [hund] at hg; simpa using hg.symm
      subst hg'
      obtain ⟨a, rfl⟩ : ∃ a, us = [a] := List.length_eq_one_iff.1 (by simpa using fk_len hu)
      obtain ⟨b, rfl⟩ : ∃ a, vs = [a] := List.length_eq_one_iff.1 (by simpa using fk_len hv)
      rw [pureRun_under hund]
      simp only [List.map_cons, List.map_nil, List.cons.injEq, and_true] at hu hv
      cases a <;> simp [V.fk] at hu
      cases b <;> simp [V.fk] at hv
      simp only [Option.bind_some, valOf, List.map_cons, V.tv, List.headD_cons, Bool.false_eq_true, if_false, eqB, scB, Bool.and_true]
      rw [show ∀ x y : ByteArray, decide (x = y) = (x == y) from fun x y => by
        rw [Bool.eq_iff_iff, decide_eq_true_eq]
        cases x; cases y
        rename_i x y
        show _ ↔ (x == y) = true
        simp]
      rfl
    · rename_i hund
      split at h <;> cases h
      have hg' : g = false := by unfold Cfg.isAgg at hg; rw [hund] at hg; simpa using hg.symm
      subst hg'
      obtain ⟨a, rfl⟩ : ∃ a, us = [a] := List.length_eq_one_iff.1 (by simpa using fk_len hu)
      obtain ⟨b, rfl⟩ : ∃ a, vs = [a] := List.length_eq_one_iff.1 (by simpa using fk_len hv)
      rw [pureRun_under hund]
      simp only [List.map_cons, List.map_nil, List.cons.injEq, and_true] at hu hv
      cases a <;> simp [V.fk] at hu
      cases b <;> simp [V.fk] at hv
      simp only [Option.bind_some, valOf, List.map_cons, V.tv, List.headD_cons, Bool.false_eq_true, if_false, eqB, scB, Bool.and_true]
      rfl
    · rename_i n e hund
      simp only [Option.bind_eq_some_iff] at h
      obtain ⟨le, h1, h2⟩ := h
      split at h2 <;> cases h2
      rename_i hsz
      have hg' : g = true := by unfold Cfg.isAgg at hg; rw [hund] at hg; simpa using hg.symm
      subst hg'
      obtain ⟨ge, hge⟩ := flat_agg h1
      rw [pureRun_under hund]
      simp only [Option.bind_some, valOf, if_true]
      show pureRun C.P ((sizeOf e).bind _) = _
      rw [pureRun_bind, pureRun_size hsz.1]
      simp only [Option.bind_some]
      simp only [Std.Legacy.Range.forIn_eq_forIn_range', Std.Legacy.Range.size]
      show pureRun C.P (Sem.bind (forIn (List.range' 0 _ _) (none, ()) _) _) = _
      rw [pureRun_bind]
      rw [show (n - 0 + 1 - 1) / 1 = n by omega]
      have hlu : us.length = n * le.length := by rw [fk_len hu]; simp
      have hlv : vs.length = n * le.length := by rw [fk_len hv]; simp
      have hrow : ∀ (ws : List V), ws.map V.fk = (List.replicate n le).flatten.map some → ∀ i, i < n → ((ws.drop (i * le.length)).take le.length).map V.fk = le.map some := by
        intro ws hw i hi
        have e1 : (List.replicate n le).flatten = (List.replicate i le).flatten ++ (le ++ (List.replicate (n - i - 1) le).flatten) := by
          rw [show n = i + ((n - i - 1) + 1) by omega, ← List.replicate_append_replicate, List.flatten_append, List.replicate_succ, List.flatten_cons]
          congr 4; omega
        have := map_slice (o := i * le.length) hw e1 (by simp) le.length
        rw [this]; simp
      rw [pureRun_for C.P _ (fun i => eqB ((us.drop (i * le.length)).take le.length) ((vs.drop (i * le.length)).take le.length)) n 0 ?_]
      · have key : ∀ m s, s + m ≤ n → ((List.range' s m).all fun i => eqB ((us.drop (i * le.length)).take le.length) ((vs.drop (i * le.length)).take le.length)) = eqB ((us.drop (s * le.length)).take (m * le.length)) ((vs.drop (s * le.length)).take (m * le.length)) := by
          intro m
          induction m with
          | zero => intro s _; simp [eqB]
          | succ m ih =>
            intro s hs
            have hb : s * le.length + le.length ≤ n * le.length := by rw [← Nat.succ_mul]; exact Nat.mul_le_mul_right _ (by omega)
            rw [List.range'_succ, List.all_cons, ih (s + 1) (by omega)]
            rw [show (m + 1) * le.length = le.length + m * le.length by rw [Nat.succ_mul]; omega, take_add', take_add', eqB_app (by rw [List.length_take, List.length_take, List.length_drop, List.length_drop]; omega)]
            rw [show (s + 1) * le.length = s * le.length + le.length by rw [Nat.succ_mul]]
        have key0 := key n 0 (by omega)
        rw [Nat.zero_mul, List.drop_zero, List.drop_zero, List.take_of_length_le (by omega), List.take_of_length_le (by omega)] at key0
        rw [key0]
        cases eqB us vs <;> rfl
      · intro i r _ hi
        have hb : i * le.length + le.length ≤ n * le.length := by rw [← Nat.succ_mul]; exact Nat.mul_le_mul_right _ (by omega)
        show pureRun C.P ((part e _ (i * le.length)).bind fun u => (part e _ (i * le.length)).bind fun v => (Op.equalIn D e u v).bind _) = _
        rw [pureRun_bind, pureRun_partG hge hsz.1 (fun hf => by rw [hf] at hge; exact flat_w1 h1 hge) (by rw [List.length_map]; omega)]
        simp only [Option.bind_some]
        rw [pureRun_bind, pureRun_partG hge hsz.1 (fun hf => by rw [hf] at hge; exact flat_w1 h1 hge) (by rw [List.length_map]; omega)]
        simp only [Option.bind_some]
        rw [← List.map_drop, ← List.map_drop, ← List.map_take, ← List.map_take, pureRun_bind, ih d (by omega) D (by omega) e le ge h1 hge _ _ (hrow us hu i (by omega)) (hrow vs hv i (by omega))]
        simp only [Option.bind_some]
        cases eqB ((us.drop (i * le.length)).take le.length) ((vs.drop (i * le.length)).take le.length) <;> rfl
    · rename_i fs hund
      split at h
      · cases h
      rename_i hst
      simp only [Option.bind_eq_some_iff] at h
      obtain ⟨lf, h1, h2⟩ := h
      split at h2 <;> cases h2
      rename_i hsz
      have hg' : g = true := by unfold Cfg.isAgg at hg; rw [hund] at hg; simpa using hg.symm
      subst hg'
      rw [pureRun_under hund]
      simp only [Option.bind_some, valOf, if_true]
      show pureRun C.P (if C.P.stoodInHeld t = true then _ else _) = _
      rw [if_neg hst]
      rw [← Array.forIn_toList]
      show pureRun C.P (Sem.bind (forIn fs.toList (none, ()) _) _) = _
      obtain ⟨hall, hcells⟩ := flat_fs d fs.toList 0 l h1 us vs [] l rfl rfl hu hv
      rw [pureRun_bind, pureRun_forList C.P _ (fun f => match flat C d f.type with | some l => eqB ((us.drop f.offset).take l.length) ((vs.drop f.offset).take l.length) | none => false) fs.toList ?_]
      · rw [hcells]
        simp only [List.drop_zero]
        rw [List.take_of_length_le (by rw [fk_len hu]; exact Nat.le_refl _), List.take_of_length_le (by rw [fk_len hv]; exact Nat.le_refl _)]
        cases eqB us vs <;> rfl
      · intro f hf r
        obtain ⟨hnm, lq, gq, q1, q2, q3, q4, q5, q6, q7⟩ := hall f hf
        rw [if_pos hnm]
        show pureRun C.P ((part f.type _ f.offset).bind fun u => (part f.type _ f.offset).bind fun v => (Op.equalIn D f.type u v).bind _) = _
        rw [pureRun_bind, pureRun_partG q2 q3 (fun e => by rw [e] at q2; exact flat_w1 q1 q2) (by rw [List.length_map]; exact q4)]
        simp only [Option.bind_some]
        rw [pureRun_bind, pureRun_partG q2 q3 (fun e => by rw [e] at q2; exact flat_w1 q1 q2) (by rw [List.length_map]; exact q5)]
        simp only [Option.bind_some]
        rw [← List.map_drop, ← List.map_drop, ← List.map_take, ← List.map_take, pureRun_bind]
        rw [ih d (by omega) D (by omega) f.type lq gq q1 q2 _ _ q6 q7]
        simp only [Option.bind_some, q1]
        cases eqB ((us.drop f.offset).take lq.length) ((vs.drop f.offset).take lq.length) <;> rfl
    · cases h
theorem binA_flat {t : TypeId} {l : List Fk} {us vs : List V} {x y : Operand} (h : flat C 20 t = some l) (hg : C.isAgg t = some true) (hq : C.P.eqGuardType C.P.depth t = false) (hu : us.map V.fk = l.map some) (hv : vs.map V.fk = l.map some) :
    binA C .eql t x y (.agg us) (.agg vs) = some (.b (eqB us vs)) ∧ binA C .neq t x y (.agg us) (.agg vs) = some (.b (!eqB us vs)) := by
  have e1 : toVal (.agg us) = some (.agg (us.map V.tv).toArray) := by simp [toVal, toVals_tv (fk_some hu)]
  have e2 : toVal (.agg vs) = some (.agg (vs.map V.tv).toArray) := by simp [toVal, toVals_tv (fk_some hv)]
  have gd : ∀ op, op = .eql ∨ op = .neq → pureRun C.P (eqGuard op t x y (.agg (us.map V.tv).toArray) (.agg (vs.map V.tv).toArray)) = some () := by
    rintro op (rfl | rfl) <;>
    · show pureRun C.P (if !(C.P.eqGuardType C.P.depth t) then pure () else _) = _
      rw [hq]; rfl
  have eq' : pureRun C.P (Op.equal t (.agg (us.map V.tv).toArray) (.agg (vs.map V.tv).toArray)) = some (eqB us vs) := flat_eq 20 10000 (by omega) t l true h hg us vs hu hv
  constructor
  · simp only [binA, e1, e2, pureV]
    have : pureRun C.P (do eqGuard .eql t x y (.agg (us.map V.tv).toArray) (.agg (vs.map V.tv).toArray); binOp .eql t (.agg (us.map V.tv).toArray) (.agg (vs.map V.tv).toArray) : Sem Value) = some (.bool (eqB us vs)) := by
      show pureRun C.P ((eqGuard .eql t x y _ _).bind fun _ => (Op.equal t _ _).bind fun b => Sem.pure (Value.bool b)) = _
      rw [pureRun_bind, gd _ (.inl rfl)]
      simp only [Option.bind_some]
      rw [pureRun_bind, eq']; rfl
    rw [this]; rfl
  · simp only [binA, e1, e2, pureV]
    have : pureRun C.P (do eqGuard .neq t x y (.agg (us.map V.tv).toArray) (.agg (vs.map V.tv).toArray); binOp .neq t (.agg (us.map V.tv).toArray) (.agg (vs.map V.tv).toArray) : Sem Value) = some (.bool (!eqB us vs)) := by
      show pureRun C.P ((eqGuard .neq t x y _ _).bind fun _ => (Op.equal t _ _).bind fun b => Sem.pure (Value.bool (!b))) = _
      rw [pureRun_bind, gd _ (.inr rfl)]
      simp only [Option.bind_some]
      rw [pureRun_bind, eq']; rfl
    rw [this]; rfl
end
/-! Indices as they come. -/
section
variable {C : Cfg} {t e : TypeId} {r o n z : Nat} {i : Int} {st : List Nat} {cap : Option Nat} {cs : List V} {cl : Bool} {k : IntKind}
theorem idx_int (h0 : 0 ≤ i) (h1 : i < n) : Am.idx (.i k i) n = some i.toNat := by simp [Am.idx, h0, h1]
theorem ixi (hs : C.shape t = .slice e) (hz : C.size e = some (z + 1)) (h0 : 0 ≤ i) (h1 : i < n) : indexAddrA C t (.sl r st o n (z + 1) cap) (.i k i) = some (.ptr r st (o + i.toNat * (z + 1))) := by
  simp [indexAddrA, hs, hz, idx_int h0 h1]
theorem iai (hs : C.shape t = .slice e) (hz : C.size e = some (z + 1)) (h0 : 0 ≤ i) (h1 : i < n) : indexAddrA C t (.arr cs n cl) (.i k i) = some (.iptr (cs.drop (i.toNat * (z + 1)))) := by
  simp [indexAddrA, hs, hz, idx_int h0 h1]
theorem ipi {m : Nat} (hs : C.shape t = .array m e) (hz : C.size e = some (z + 1)) (h0 : 0 ≤ i) (h1 : i < m) : indexAddrA C t (.ptr r st o) (.i k i) = some (.ptr r st (o + i.toNat * (z + 1))) := by
  simp [indexAddrA, hs, hz, idx_int h0 h1]
theorem ixv {m : Nat} (hs : C.shape t = .array m e) (hz : C.size e = some 1) (ha : C.isAgg e = some false) (h0 : 0 ≤ i) (h1 : i < m) : indexA C t (.agg cs) (.i k i) = cs[i.toNat]? := by
  simp [indexA, hs, hz, idx_int h0 h1, partA, ha]
theorem ixs {b : ByteArray} (hs : C.shape t = .string) (h0 : 0 ≤ i) (h1 : i < b.size) : indexA C t (.s b) (.i k i) = (b[i.toNat]?).map fun x => .i .u8 x.toNat := by
  simp [indexA, hs, idx_int h0 h1]
def loopQ (C : Cfg) (g : Nat) (p : List Nat) (a : Code) (Q : Ex → St → Prop) (e : Ex) (s : St) (_ : Tag a := .mk) (_ : Tag Q := .mk) : Prop :=
  match e with
  | .normal => Wq C g p (.loop a) s Q
  | e => Q e s
variable {g : Nat} {p : List Nat} {s : St} {Q : Ex → St → Prop} {a : Code}
theorem loopQ_normal : loopQ C g p a Q .normal s = Wq C g p (.loop a) s Q := rfl
theorem loopQ_exit (id : Nat) : loopQ C g p a Q (.exit id) s = Q (.exit id) s := rfl
theorem loopQ_ret : loopQ C g p a Q .ret s = Q .ret s := rfl
theorem Wq_loop : Wq C g p (.loop a) s Q = Wq C g p a s fun e s => loopQ C g p a Q e s := by
  refine propext ⟨?_, ?_⟩
  · rintro ⟨e, s', h1, h2⟩
    obtain ⟨n, hn⟩ := lim_some (show lim (fun n => loopA (codeF C g p a) n s) = some (e, s') from h1)
    cases n with
    | zero => simp [loopA] at hn
    | succ n =>
      simp only [loopA, Option.bind_eq_some_iff] at hn
      obtain ⟨⟨e1, s1⟩, h3, h4⟩ := hn
      refine ⟨e1, s1, h3, ?_⟩
      cases e1 with
      | normal => exact ⟨e, s', loopF_of h4, h2⟩
      | exit id => simp at h4; obtain ⟨rfl, rfl⟩ := h4; exact h2
      | ret => simp at h4; obtain ⟨rfl, rfl⟩ := h4; exact h2
  · rintro ⟨e1, s1, h3, h4⟩
    cases e1 with
    | normal =>
      obtain ⟨e, s', h1, h2⟩ := h4
      obtain ⟨n, hn⟩ := lim_some (show lim (fun n => loopA (codeF C g p a) n s1) = some (e, s') from h1)
      exact ⟨e, s', loopF_of (n := n + 1) (by simp [loopA, h3, hn]), h2⟩
    | exit id => exact ⟨_, s1, loopF_of (n := 1) (by simp [loopA, h3]), h4⟩
    | ret => exact ⟨_, s1, loopF_of (n := 1) (by simp [loopA, h3]), h4⟩
end
theorem castLit (n : Nat) : ((no_index (OfNat.ofNat n) : Nat) : Int) = OfNat.ofNat n := rfl
theorem emp : (⟨#[]⟩ : ByteArray) = .empty := rfl
end Go.Am
