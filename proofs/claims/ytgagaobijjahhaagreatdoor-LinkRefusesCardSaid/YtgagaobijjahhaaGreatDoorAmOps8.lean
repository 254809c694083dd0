/- Each operation of the abstract machine is what the model's does. -/
import Derived.Test.YtgagaobijjahhaaGreatDoorAmOps7
namespace Go.Am
open Go.RowKit
set_option linter.unusedVariables false
set_option linter.unusedSimpArgs false

section
variable {C : Cfg} {M M' : Mp} {w w' : World} {B0 : Nat} {N W : Nat → Prop} {p : List Nat} {σ σ' : List O} {c : Nat}

def opnds : Op → List Operand
  | .move x | .assign x => [x]
  | .pick k a b => [k, a, b]
  | .box _ x => [x]
  | .build _ ps | .buildSlice _ _ ps => ps.toList.map (·.2)
  | .load _ a => [a]
  | .store _ a x => [a, x]
  | .nilCheck x => [x]
  | .binOp _ _ x y _ => [x, y]
  | .unOp _ _ x => [x]
  | .convert _ _ x => [x]
  | .sliceToArrayPointer _ x => [x]
  | .makeInterface _ x => [x]
  | .makeFunc _ f c => f.toList ++ c.toList
  | .makeSlice _ l k => [l, k]
  | .slice _ x lo hi mx => x :: (lo.toList ++ hi.toList ++ mx.toList)
  | .fieldAddr _ x _ | .field _ x _ => [x]
  | .indexAddr _ x i | .index _ x i => [x, i]
  | .lookup _ m k _ => [m, k]
  | .mapUpdate _ m k x | .insert _ m k x => [m, k, x]
  | .extract x _ => [x]
  | .call { callee := .builtin _, args, .. } => args.toList
  | .call { callee := .value f, args, .. } => f :: args.toList
  | _ => []
def wrs (ev : Operand → V) : Op → List Nat
  | .store _ a _ => touch (ev a)
  | .mapUpdate _ m _ _ | .insert _ m _ _ => touch (ev m)
  | .convert _ _ x => touch (ev x)
  | .call { callee := .builtin .append, args, .. } | .call { callee := .builtin .copy, args, .. } | .call { callee := .builtin .clear, args, .. } => (args.toList.take 1).flatMap fun x => touch (ev x)
  | _ => []


theorem pureV_ok {m : Sem Value} {v : V} (h : pureV C m = some v) (w : World) : ∃ y, m.run C.P w = .ok y w ∧ Rel M w v y := by
  simp only [pureV, Option.map_eq_some_iff] at h
  obtain ⟨y, hy, rfl⟩ := h
  exact ⟨y, pureRun_ok _ _ _ hy w, rel_ofVal y⟩

theorem fold_sound (f : V → V → Option V) (g : Value → Value → Sem Value) (hfg : ∀ a b v ya yb, f a b = some v → Rel M w a ya → Rel M w b yb → ∃ y, (g ya yb).run C.P w = .ok y w ∧ Rel M w v y) :
    ∀ (xs : List V) (ys : List Value) (x v : V) (y : Value), RelL M w xs ys → Rel M w x y → xs.foldlM f x = some v → ∃ u, (ys.foldlM g y).run C.P w = .ok u w ∧ Rel M w v u := by
  intro xs
  induction xs with
  | nil => intro ys x v y h hx hf; cases h; simp at hf; subst hf; exact ⟨y, by simp, hx⟩
  | cons a xs ih =>
    intro ys x v y h hx hf
    cases h with
    | cons _ b _ ys ha hs =>
      simp only [List.foldlM_cons, Option.bind_eq_bind, Option.bind_eq_some_iff] at hf
      obtain ⟨q, hq, hf⟩ := hf
      obtain ⟨u, hu, hr⟩ := hfg _ _ _ _ _ hq hx ha
      obtain ⟨u', hu', hr'⟩ := ih ys q v u hs hr hf
      exact ⟨u', by simp [hu, hu'], hr'⟩
theorem min_sound {a b v : V} {ya yb : Value} (h : minA a b = some v) (ha : Rel M w a ya) (hb : Rel M w b yb) : ∃ y, (Builtin.min2 ya yb).run C.P w = .ok y w ∧ Rel M w v y := by
  cases a <;> cases b <;> simp only [minA, reduceCtorEq, Option.some.injEq] at h
  subst h
  rw [ha.i_inv, hb.i_inv]
  exact ⟨_, by simp [Builtin.min2], .i _ _⟩
theorem max_sound {a b v : V} {ya yb : Value} (h : maxA a b = some v) (ha : Rel M w a ya) (hb : Rel M w b yb) : ∃ y, (Builtin.max2 ya yb).run C.P w = .ok y w ∧ Rel M w v y := by
  cases a <;> cases b <;> simp only [maxA, reduceCtorEq, Option.some.injEq] at h
  subst h
  rw [ha.i_inv, hb.i_inv]
  exact ⟨_, by simp [Builtin.max2], .i _ _⟩

theorem len_sound {t ty : Nat} {x v : V} {y : Value} (h : lenA C t σ x = some v) (hr : Rel M w x y) (ho : ∀ r st, x = .map r st → ∀ o, σ[r]? = some o → ObjRel M w o) :
    ∃ u, (Builtin.len_ #[t] ty #[y]).run C.P w = .ok u w ∧ Rel M w v u := by
  unfold lenA at h
  split at h <;> (try simp only [reduceCtorEq, Option.some.injEq] at h)
  · rename_i b hs; subst h; rw [hr.s_inv]; exact ⟨_, by simp [Builtin.len_, run_under (shape_string hs), goInt], .i _ _⟩
  · rename_i n e hs; subst h; exact ⟨_, by simp [Builtin.len_, run_under (shape_array hs), goInt], .i _ _⟩
  · rename_i n e hs; subst h
    obtain ⟨a, h1, h2⟩ := shape_ptrArray hs
    exact ⟨_, by simp [Builtin.len_, run_under h1, run_under h2, goInt], .i _ _⟩
  · rename_i e hs; subst h; rw [hr.nils_inv]; exact ⟨_, by simp [Builtin.len_, run_under (shape_slice hs), goInt], .i _ _⟩
  · rename_i e _ n _ hs; subst h
    obtain ⟨a, vs, k, rfl, _⟩ := hr.arr_inv
    exact ⟨_, by simp [Builtin.len_, run_under (shape_slice hs), goInt], .i _ _⟩
  · rename_i e _ _ _ n _ _ hs; subst h
    obtain ⟨b, nn, k, _, rfl, _⟩ := hr.sl_inv
    exact ⟨_, by simp [Builtin.len_, run_under (shape_slice hs), goInt], .i _ _⟩
  · rename_i k e hs; subst h; cases hr; exact ⟨_, by simp [Builtin.len_, run_under (shape_map hs), goInt], .i _ _⟩
  · rename_i k e r st hs
    split at h
    · rename_i st' kvs hσ
      split at h
      · rename_i e; subst e
        simp at h; subst h
        obtain ⟨b, n, es, cl, h1, rfl, h2, h3⟩ := map_row (m := .bad) hr hσ (ho _ _ rfl)
        have : es.size = kvs.length := by have := h3.1; simpa using this
        exact ⟨_, by simp [Builtin.len_, run_under (shape_map hs), run_getMap h2, goInt, this], .i _ _⟩
      · simp at h
    · simp at h

theorem cap_sound {t ty : Nat} {x v : V} {y : Value} (h : capA x = some v) (hsh : ∃ e, C.shape t = .slice e) (hr : Rel M w x y) :
    ∃ u, (Builtin.cap_ #[t] ty #[y]).run C.P w = .ok u w ∧ Rel M w v u := by
  obtain ⟨e, hs⟩ := hsh
  unfold capA at h
  split at h <;> (try simp only [reduceCtorEq, Option.some.injEq] at h) <;> subst h
  · rw [hr.nils_inv]; exact ⟨_, by simp [Builtin.cap_, run_under (shape_slice hs), goInt], .i _ _⟩
  · obtain ⟨a, vs, k, rfl, _, _, _, _, _, hk⟩ := hr.arr_inv
    exact ⟨_, by simp [Builtin.cap_, run_under (shape_slice hs), goInt, hk rfl], .i _ _⟩
  · obtain ⟨b, nn, k, _, rfl, _, _, hk⟩ := hr.sl_inv
    exact ⟨_, by simp [Builtin.cap_, run_under (shape_slice hs), goInt, hk _ rfl], .i _ _⟩

def Looks : Nat → Bool → Value → Prop
  | 0, true, y => y = .pointer none
  | 0, false, y => ∃ a, y = .pointer (some a)
  | 1, true, y => y = .slice none 0 0
  | 1, false, y => ∃ a n k, y = .slice (some a) n k
  | 2, true, y => y = .map none
  | 2, false, y => ∃ r, y = .map (some r)
  | 3, true, y => y = .nilFunc
  | 3, false, y => ∃ f u v, y = .func f u v
  | 4, true, y => y = .nilIface
  | 4, false, y => ∃ t v, y = .iface t v
  | _, _, _ => False
theorem vk_looks {a : V} {y : Value} {k : Nat} {b : Bool} (h : vk a = some (k, b)) (hr : Rel M w a y) : Looks k b y := by
  cases hr <;> simp only [vk, reduceCtorEq, Option.some.injEq, Prod.mk.injEq] at h <;> obtain ⟨rfl, rfl⟩ := h <;> first | rfl | exact ⟨_, rfl⟩ | exact ⟨_, _, rfl⟩ | exact ⟨_, _, _, rfl⟩
theorem eq_looks {t k : Nat} {ya yb : Value} {x : Bool} (ht : tk C t = some k) (ha : Looks k x ya) (hb : Looks k (!x) yb) (n : Nat) :
    (Op.equalIn (n + 1) t ya yb).run C.P w = .ok false w ∧ (∀ op x y, (eqGuard op t x y ya yb).run C.P w = .ok () w) ∧
      binOp .eql t ya yb = (do pure (.bool (← Op.equal t ya yb))) ∧ binOp .neq t ya yb = (do pure (.bool (!(← Op.equal t ya yb)))) := by
  unfold tk at ht
  split at ht <;> simp only [reduceCtorEq, Option.some.injEq] at ht <;> subst ht <;> rename_i hu <;> cases x <;> simp only [Looks, Bool.not_true, Bool.not_false] at ha hb
  · obtain ⟨a, rfl⟩ := ha; subst hb
    exact ⟨by simp [Op.equalIn, run_under hu], fun op x y => by cases op <;> simp [eqGuard], rfl, rfl⟩
  · obtain ⟨a, rfl⟩ := hb; subst ha
    exact ⟨by simp [Op.equalIn, run_under hu], fun op x y => by cases op <;> simp [eqGuard], rfl, rfl⟩
  · obtain ⟨a, _, _, rfl⟩ := ha; subst hb
    exact ⟨by simp [Op.equalIn, run_under hu], fun op x y => by cases op <;> simp [eqGuard], rfl, rfl⟩
  · obtain ⟨a, _, _, rfl⟩ := hb; subst ha
    exact ⟨by simp [Op.equalIn, run_under hu], fun op x y => by cases op <;> simp [eqGuard], rfl, rfl⟩
  · obtain ⟨a, rfl⟩ := ha; subst hb
    exact ⟨by simp [Op.equalIn, run_under hu], fun op x y => by cases op <;> simp [eqGuard], rfl, rfl⟩
  · obtain ⟨a, rfl⟩ := hb; subst ha
    exact ⟨by simp [Op.equalIn, run_under hu], fun op x y => by cases op <;> simp [eqGuard], rfl, rfl⟩
  · obtain ⟨a, _, _, rfl⟩ := ha; subst hb
    exact ⟨by simp [Op.equalIn, run_under hu], fun op x y => by cases op <;> simp [eqGuard], rfl, rfl⟩
  · obtain ⟨a, _, _, rfl⟩ := hb; subst ha
    exact ⟨by simp [Op.equalIn, run_under hu], fun op x y => by cases op <;> simp [eqGuard], rfl, rfl⟩
  · obtain ⟨a, _, rfl⟩ := ha; subst hb
    exact ⟨by simp [Op.equalIn, run_under hu], fun op x y => by cases op <;> simp [eqGuard], rfl, rfl⟩
  · obtain ⟨a, _, rfl⟩ := hb; subst ha
    exact ⟨by simp [Op.equalIn, run_under hu], fun op x y => by cases op <;> simp [eqGuard], rfl, rfl⟩

theorem eqNil_sound {op : BinOp} {t : Nat} {x y : Operand} {a b v : V} {ya yb : Value} (h : eqNilA C op t a b = some v) (ha : Rel M w a ya) (hb : Rel M w b yb) :
    ∃ u, (do eqGuard op t x y ya yb; binOp op t ya yb : Sem Value).run C.P w = .ok u w ∧ Rel M w v u := by
  unfold eqNilA at h
  split at h
  · rename_i hn
    unfold oneNil at hn
    split at hn
    · rename_i k i x' j y' h1 h2 h3
      simp only [Bool.and_eq_true, beq_iff_eq, bne_iff_ne] at hn
      obtain ⟨⟨rfl, rfl⟩, hne⟩ := hn
      have hy : y' = !x' := by cases x' <;> cases y' <;> simp_all
      subst hy
      obtain ⟨k1, k2, k3, k4⟩ := eq_looks (C := C) (w := w) h1 (vk_looks h2 ha) (vk_looks h3 hb) 9999
      have k1' : (Op.equal t ya yb).run C.P w = .ok false w := k1
      split at h <;> simp only [reduceCtorEq, Option.some.injEq] at h <;> subst h
      · exact ⟨.bool false, by simp [k2, k3, k1'], .b _⟩
      · exact ⟨.bool true, by simp [k2, k4, k1'], .b _⟩
    · simp at hn
  · simp at h
end
end Go.Am
