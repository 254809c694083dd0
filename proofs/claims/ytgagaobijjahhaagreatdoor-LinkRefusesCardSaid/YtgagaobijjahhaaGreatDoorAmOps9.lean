/- An operation of the abstract machine is what the model's does. -/
import Derived.Test.YtgagaobijjahhaaGreatDoorAmOps8
namespace Go.Am
open Go.RowKit
set_option linter.unusedVariables false
set_option linter.unusedSimpArgs false

section
variable {C : Cfg} {M M' : Mp} {w w' : World} {B0 : Nat} {N W : Nat → Prop} {p : List Nat} {σ σ' : List O} {c : Nat}

def Step (C : Cfg) (B0 : Nat) (N W : Nat → Prop) (p : List Nat) (M : Mp) (σ σ' : List O) (c : Nat) (w : World) (v : V) (s : Sem Next) : Prop :=
  ∃ nx w' M', s.run C.P w = .ok nx w' ∧ ((∃ y, nx = .value y ∧ Rel M' w' v y) ∨ (nx = .skip ∧ v = .un)) ∧ Post B0 N W p M M' σ σ' c w w'

theorem step_value {v : V} {s : Sem Value} {y : Value} {w' : World} {M' : Mp} (h : s.run C.P w = .ok y w') (hr : Rel M' w' v y) (hp : Post B0 N W p M M' σ σ' c w w') :
    Step C B0 N W p M σ σ' c w v (do pure (.value (← s))) := ⟨.value y, w', M', by simp [h], .inl ⟨y, rfl, hr⟩, hp⟩

def PureS (C : Cfg) (M : Mp) (w : World) (v : V) (s : Sem Next) : Prop := ∃ y, s.run C.P w = .ok (.value y) w ∧ Rel M w v y
theorem pure_value {v : V} {s : Sem Value} {y : Value} (h : s.run C.P w = .ok y w) (hr : Rel M w v y) : PureS C M w v (do pure (.value (← s))) := ⟨y, by simp [h], hr⟩
theorem opt_rel {ev : Operand → V} {ρ : Operand → Value} {o : Option Operand} (h : ∀ x ∈ o.toList, Rel M w (ev x) (ρ x)) : RelO M w (o.map ev) (o.map ρ) := by
  cases o with
  | none => exact .none
  | some x => exact .some _ _ (h x (by simp))

theorem args_two {X : Type} {a : Array X} {f : X → V} {s x : V} (h : a.toList.map f = [s, x]) : ∃ o1 o2, a = #[o1, o2] ∧ f o1 = s ∧ f o2 = x := by
  obtain ⟨l⟩ := a
  cases l with
  | nil => simp at h
  | cons a l => cases l with
    | nil => simp at h
    | cons b l => cases l with
      | nil => simp at h; exact ⟨a, b, rfl, h.1, h.2⟩
      | cons => simp at h
theorem args_one {X : Type} {a : Array X} {f : X → V} {s : V} (h : a.toList.map f = [s]) : ∃ o1, a = #[o1] ∧ f o1 = s := by
  obtain ⟨l⟩ := a
  cases l with
  | nil => simp at h
  | cons a l => cases l with
    | nil => simp at h; exact ⟨a, rfl, h⟩
    | cons => simp at h
theorem map2 {X Y : Type} (f : X → Y) (a b : X) : Array.map f #[a, b] = #[f a, f b] := by simp
theorem map1 {X Y : Type} (f : X → Y) (a : X) : Array.map f #[a] = #[f a] := by simp
theorem ts_two {a : Array TypeId} {t u : TypeId} (h : a.toList = [t, u]) : a = #[t, u] := by
  obtain ⟨l⟩ := a; simp at h; subst h; rfl
theorem ts_one {a : Array TypeId} {t : TypeId} (h : a.toList = [t]) : a = #[t] := by
  obtain ⟨l⟩ := a; simp at h; subst h; rfl

set_option maxHeartbeats 1600000 in
theorem builtin_sound (hs : Sep B0 M σ w) (ho : ∀ (r : Nat) o, N r → σ[r]? = some o → ObjRel M w o) (hf : Fr M σ p c) {ev : Operand → V} {ρ : Operand → Value} {b : Builtin} {args : Array Operand} {ts : Array TypeId} {ty : Nat} {cs : Array Bool} {v : V}
    (h : builtinA C b ts (args.toList.map ev) σ (c :: p) = some (v, σ')) (hev : ∀ x ∈ args.toList, Rel M w (ev x) (ρ x))
    (hN : ∀ x ∈ args.toList, ∀ r ∈ touch (ev x), N r) (hW : ∀ r ∈ wrs ev (.call { callee := .builtin b, args := args, argTypes := ts }), W r) :
    Step C B0 N W p M σ σ' c w v (builtin b ts ty cs (args.map ρ)) := by
  have same : Post B0 N W p M M σ σ c w w := Post.pure hs ho rfl (Below.refl _ _)
  unfold builtinA at h
  split at h
  · rename_i s x hargs
    obtain ⟨o1, o2, rfl, rfl, rfl⟩ := args_two hargs
    split at h
    · rename_i t u hts
      have hts' := ts_two hts
      subst hts'
      split at h
      · rename_i kn hsh
        split at h
        · rename_i k hx
          have hr2 := hev o2 (by simp)
          rw [hx] at hr2
          obtain ⟨y, w', M', h1, h2, h3⟩ := appendZ_sound (N := N) (W := W) (ty := ty) hs ho hf h (hev o1 (by simp)) (shape_int hsh)
            (fun r st off len es cap e => hN o1 (by simp) r (by rw [e]; simp [touch]))
          rw [map2, hr2.i_inv]; exact step_value (s := Builtin.append_ #[t, u] ty #[ρ o1, .int .i64 k]) h1 h2 h3
        · simp at h
      · rename_i hni
        split at h
        · rename_i hk
          obtain ⟨d, hd⟩ := known_under hk
          obtain ⟨y, w', M', h1, h2, h3⟩ := append_sound (ty := ty) hs ho hf h (hev o1 (by simp)) (hev o2 (by simp)) hd (shape_not_int hd hni)
            (fun r st off len es cap e => hN o2 (by simp) r (by rw [e]; simp [touch]))
            (fun r st off len es cap e => ⟨hN o1 (by simp) r (by rw [e]; simp [touch]), hW r (by simp [wrs, e, touch])⟩)
          rw [map2]; exact step_value (s := Builtin.append_ #[t, u] ty #[ρ o1, ρ o2]) h1 h2 h3
        · simp at h
    · simp at h
  · rename_i d x hargs
    obtain ⟨o1, o2, rfl, rfl, rfl⟩ := args_two hargs
    split at h
    · rename_i t u hts
      have hts' := ts_two hts
      subst hts'
      obtain ⟨y, w', h1, h2, h3⟩ := copy_sound (u := u) (ty := ty) (p := p) (c := c) hs ho h (hev o1 (by simp)) (hev o2 (by simp))
        (fun r st off len es cap e => hN o2 (by simp) r (by rw [e]; simp [touch]))
        (fun r st off len es cap e => ⟨hN o1 (by simp) r (by rw [e]; simp [touch]), hW r (by simp [wrs, e, touch])⟩)
      rw [map2]; exact step_value (s := Builtin.copy_ #[t, u] ty #[ρ o1, ρ o2]) h1 h2 h3
    · simp at h
  · rename_i d hargs
    obtain ⟨o1, rfl, rfl⟩ := args_one hargs
    split at h
    · rename_i t hts
      have hts' := ts_one hts
      subst hts'
      split at h
      · rename_i hk
        obtain ⟨d, hd⟩ := known_under hk
        obtain ⟨y, w', h1, h2, h3⟩ := clear_sound (ty := ty) (p := p) (c := c) hs ho hd h (hev o1 (by simp))
          (fun r st off len es cap e => ⟨hN o1 (by simp) r (by rw [e]; simp [touch]), hW r (by simp [wrs, e, touch])⟩)
        rw [map1]; exact step_value (s := Builtin.clear_ #[t] ty #[ρ o1]) h1 h2 h3
      · simp at h
    · simp at h
  · simp at h

set_option maxHeartbeats 1600000 in
theorem builtinP_sound (ho : ∀ (r : Nat) o, N r → σ[r]? = some o → ObjRel M w o) {ev : Operand → V} {ρ : Operand → Value} {b : Builtin} {args : Array Operand} {ts : Array TypeId} {ty : Nat} {cs : Array Bool} {v : V}
    (h : builtinP C b ts (args.toList.map ev) σ = some v) (hev : ∀ x ∈ args.toList, Rel M w (ev x) (ρ x))
    (hN : ∀ x ∈ args.toList, ∀ r ∈ touchM (ev x), N r) :
    PureS C M w v (builtin b ts ty cs (args.map ρ)) := by
  unfold builtinP at h
  split at h
  · rename_i x hargs
    obtain ⟨o1, rfl, rfl⟩ := args_one hargs
    split at h
    · rename_i t hts
      have hts' := ts_one hts
      subst hts'
      have hv := h
      obtain ⟨y, h1, h2⟩ := len_sound (ty := ty) hv (hev o1 (by simp)) (fun r st e o h => ho r o (hN o1 (by simp) r (by rw [e]; simp [touchM])) h)
      rw [map1]; exact pure_value (s := Builtin.len_ #[t] ty #[ρ o1]) h1 h2
    · simp at h
  · rename_i x hargs
    obtain ⟨o1, rfl, rfl⟩ := args_one hargs
    split at h
    · rename_i t hts
      have hts' := ts_one hts
      subst hts'
      split at h
      · rename_i e hsh
        have hv := h
        obtain ⟨y, h1, h2⟩ := cap_sound (ty := ty) hv ⟨e, hsh⟩ (hev o1 (by simp))
        rw [map1]; exact pure_value (s := Builtin.cap_ #[t] ty #[ρ o1]) h1 h2
      · simp at h
    · simp at h
  · rename_i xs _
    have hv := h
    obtain ⟨l⟩ := args
    cases l with
    | nil => simp [foldA] at hv
    | cons a l =>
      simp only [List.map_cons, foldA] at hv
      obtain ⟨u, h1, h2⟩ := fold_sound (C := C) minA Builtin.min2 (fun a b v ya yb h => min_sound h) _ _ _ _ _ (RelL.map_ev l ev ρ (fun x hx => hev x (by simp [hx]))) (hev a (by simp)) hv
      exact pure_value (s := Builtin.min_ ts ty ((a :: l).toArray.map ρ)) (by simpa [Builtin.min_] using h1) h2
  · rename_i xs _
    have hv := h
    obtain ⟨l⟩ := args
    cases l with
    | nil => simp [foldA] at hv
    | cons a l =>
      simp only [List.map_cons, foldA] at hv
      obtain ⟨u, h1, h2⟩ := fold_sound (C := C) maxA Builtin.max2 (fun a b v ya yb h => max_sound h) _ _ _ _ _ (RelL.map_ev l ev ρ (fun x hx => hev x (by simp [hx]))) (hev a (by simp)) hv
      exact pure_value (s := Builtin.max_ ts ty ((a :: l).toArray.map ρ)) (by simpa [Builtin.max_] using h1) h2
  · simp at h

set_option maxHeartbeats 1600000 in
theorem op_sound (hs : Sep B0 M σ w) (ho : ∀ (r : Nat) o, N r → σ[r]? = some o → ObjRel M w o) (hf : Fr M σ p c) {ev : Operand → V} {ρ : Operand → Value} (o : Oper) {v : V} {c' : Nat}
    (h : opA C p ev σ c o.op = some (v, σ', c')) (hev : ∀ x ∈ opnds o.op, Rel M w (ev x) (ρ x)) (hN : ∀ r ∈ accs ev o.op, N r) (hW : ∀ r ∈ wrs ev o.op, W r) :
    (c' = c + 1 ∧ Step C B0 N W p M σ σ' c w v (execOp ρ o)) ∨ (c' = c ∧ σ' = σ ∧ PureS C M w v (execOp ρ o)) := by
  obtain ⟨dst, op, ty, pos, after, gd⟩ := o
  dsimp only at h hev hN hW
  have single : ∀ x ∈ opnds op, Rel M w (ev x) (ρ x) := hev
  cases op <;> simp only [opA, reduceCtorEq] at h
  case move x =>
    simp at h; obtain ⟨rfl, rfl, rfl⟩ := h
    exact .inr ⟨rfl, rfl, ρ x, rfl, hev x (by simp [opnds])⟩
  case assign x =>
    simp at h; obtain ⟨rfl, rfl, rfl⟩ := h
    exact .inr ⟨rfl, rfl, ρ x, rfl, hev x (by simp [opnds])⟩
  case pick k a b =>
    split at h
    · rename_i x hk
      simp at h; obtain ⟨rfl, rfl, rfl⟩ := h
      have hkr := hev k (by simp [opnds])
      rw [hk] at hkr
      have hkb := hkr.b_inv
      refine .inr ⟨rfl, rfl, if x then ρ a else ρ b, by simp [execOp, hkb, asBool], ?_⟩
      cases x
      · exact hev b (by simp [opnds])
      · exact hev a (by simp [opnds])
    · simp at h
  case alloc e =>
    simp only [Option.map_eq_some_iff, Prod.mk.injEq] at h
    obtain ⟨z, hz, rfl, rfl, rfl⟩ := h
    obtain ⟨y, hy, rfl, hone⟩ := run_zero hz w
    obtain ⟨M', hM', hp⟩ := post_row (N := N) (W := W) (e := e) (fz := (0, 0)) hs ho hf ((rel_ofVal (M := M) (w := w) y).cells hone) hone [] w rfl (Below.refl _ _) rfl (fun y h => by cases h)
    simp only [List.append_nil, Array.toArray_toList] at hM' hp
    refine .inl ⟨rfl, step_value (s := Instr.alloc e true (.tuple #[])) (y := .pointer (some ⟨w.heap.size, 0, none⟩)) ?_ (.ptr _ _ _ _ _ hM') hp⟩
    simp [Instr.alloc, hy, newVar, newRow]
  case box e x =>
    split at h
    · rename_i hone
      simp at h; obtain ⟨rfl, rfl, rfl⟩ := h
      obtain ⟨M', hM', hp⟩ := post_row (N := N) (W := W) (e := e) (fz := (0, 0)) hs ho hf ((hev x (by simp [opnds])).cells hone) hone [] w rfl (Below.refl _ _) rfl (fun y h => by cases h)
      simp only [List.append_nil, Array.toArray_toList] at hM' hp
      refine .inl ⟨rfl, step_value (s := Instr.box e (ρ x)) (y := .pointer (some ⟨w.heap.size, 0, none⟩)) ?_ (.ptr _ _ _ _ _ hM') hp⟩
      simp [Instr.box, newVar, newRow]
    · simp at h
  case build t ps =>
    simp only [Option.map_eq_some_iff, Prod.mk.injEq] at h
    obtain ⟨v', hv, rfl, rfl, rfl⟩ := h
    obtain ⟨u, h1, h2⟩ := build_sound (C := C) (M := M) (w := w) (ps' := ps.map fun (i, x) => (i, ρ x)) hv (by
      rw [Array.toList_map]
      exact RelP.map ps.toList ev ρ fun x hx => hev x.2 (by simp only [opnds, List.mem_map]; exact ⟨x, hx, rfl⟩))
    exact .inr ⟨rfl, rfl, pure_value h1 h2⟩
  case buildSlice t len ps =>
    simp only [Option.map_eq_some_iff, Prod.mk.injEq] at h
    obtain ⟨⟨v', σ1⟩, hv, rfl, rfl, rfl⟩ := h
    obtain ⟨u, w', M', h1, h2, h3⟩ := buildSlice_sound (C := C) (M := M) (w := w) (N := N) (W := W) (ps' := ps.map fun (i, x) => (i, ρ x)) hs ho hf hv (by
      rw [Array.toList_map]
      exact RelP.map ps.toList ev ρ fun x hx => hev x.2 (by simp only [opnds, List.mem_map]; exact ⟨x, hx, rfl⟩))
    exact .inl ⟨rfl, step_value h1 h2 h3⟩
  case load t a =>
    simp only [Option.map_eq_some_iff, Prod.mk.injEq] at h
    obtain ⟨v', hv, rfl, rfl, rfl⟩ := h
    obtain ⟨u, h1, h2⟩ := load_sound hv (hev a (by simp [opnds])) (fun r st off e o h => ho r o (hN r (by simp [accs, e, touch])) h)
    exact .inr ⟨rfl, rfl, pure_value h1 h2⟩
  case store t a x =>
    simp only [Option.map_eq_some_iff, Prod.mk.injEq] at h
    obtain ⟨σ1, hv, rfl, rfl, rfl⟩ := h
    obtain ⟨w', h1, h2⟩ := store_sound (p := p) (c := c) hs ho hv (hev a (by simp [opnds])) (hev x (by simp [opnds])) (fun r st off e => ⟨hN r (by simp [accs, e, touch]), hW r (by simp [wrs, e, touch])⟩)
    exact .inl ⟨rfl, .skip, w', M, by simp [execOp, h1], .inr ⟨rfl, rfl⟩, h2⟩
  case nilCheck x =>
    simp only [Option.map_eq_some_iff, Prod.mk.injEq] at h
    obtain ⟨v', hv, rfl, rfl, rfl⟩ := h
    have hx := hev x (by simp [opnds])
    refine .inr ⟨rfl, rfl, ρ x, ?_, ?_⟩
    · cases hxe : ev x <;> rw [hxe] at hv hx <;> simp only [derefA, reduceCtorEq] at hv
      · obtain ⟨b, n, _, hb⟩ := hx.ptr_inv; simp [execOp, hb]
      · obtain ⟨b, n, hb, _⟩ := hx.iptr_inv; simp [execOp, hb]
      · obtain ⟨us, vs, hb, _⟩ := hx.fn_inv; simp [execOp, hb]
    · cases hxe : ev x <;> rw [hxe] at hv hx <;> simp only [derefA, reduceCtorEq, Option.some.injEq] at hv <;> subst hv <;> exact hx
  case binOp op t x y t' =>
    simp only [Option.map_eq_some_iff, Prod.mk.injEq] at h
    obtain ⟨v', hv, rfl, rfl, rfl⟩ := h
    have hx := hev x (by simp [opnds])
    have hy := hev y (by simp [opnds])
    refine .inr ⟨rfl, rfl, ?_⟩
    split at hv
    · rename_i q hq
      simp at hv; subst hv
      unfold binA at hq
      split at hq
      · rename_i a b ha hb
        have h1 := toVal_eq ha hx
        have h2 := toVal_eq hb hy
        obtain ⟨u, g1, g2⟩ := pureV_ok (M := M) hq w
        rw [← h1, ← h2] at g1
        exact pure_value g1 g2
      · simp at hq
    · obtain ⟨u, g1, g2⟩ := eqNil_sound (x := x) (y := y) hv hx hy
      exact pure_value g1 g2
  case unOp op t x =>
    simp only [Option.map_eq_some_iff, Option.bind_eq_some_iff, Prod.mk.injEq] at h
    obtain ⟨v', ⟨u, hu, hv⟩, rfl, rfl, rfl⟩ := h
    have hx := toVal_eq hu (hev x (by simp [opnds]))
    obtain ⟨q, g1, g2⟩ := pureV_ok (M := M) hv w
    rw [← hx] at g1
    exact .inr ⟨rfl, rfl, pure_value g1 g2⟩
  case convert src dst x =>
    split at h
    · simp only [Option.map_eq_some_iff, Prod.mk.injEq] at h
      obtain ⟨⟨v', σ1⟩, hv, rfl, rfl, rfl⟩ := h
      obtain ⟨u, w', M', h1, h2, h3⟩ := convertA_sound (N := N) (W := W) hs ho hf hv (hev x (by simp [opnds])) (fun r st off n es cap e => ⟨hN r (by simp [accs, e, touch]), hW r (by simp [wrs, e, touch])⟩)
      exact .inl ⟨rfl, step_value h1 h2 h3⟩
    · simp only [Option.map_eq_some_iff, Prod.mk.injEq] at h
      obtain ⟨v', hv, rfl, rfl, rfl⟩ := h
      obtain ⟨u, h1, h2⟩ := convertP_sound ho hv (hev x (by simp [opnds])) (fun r st off len es cap e => hN r (by simp [accs, e, touch]))
      exact .inr ⟨rfl, rfl, pure_value h1 h2⟩
  case makeInterface t x =>
    simp only [Option.map_eq_some_iff, Prod.mk.injEq] at h
    obtain ⟨v', hv, rfl, rfl, rfl⟩ := h
    refine .inr ⟨rfl, rfl, ?_⟩
    unfold ifaceA at hv
    split at hv
    · simp at hv
    · rename_i hni
      split at hv
      · rename_i hk
        simp at hv; subst hv
        obtain ⟨d, hd⟩ := known_under hk
        refine pure_value (s := Instr.makeInterface t (ρ x)) (y := .iface t (ρ x)) ?_ (.iface _ _ _ (hev x (by simp [opnds])))
        have hnd : ∀ ms, d ≠ .interface ms := by
          rintro ms rfl
          exact hni (by simp [Cfg.shape, hd])
        simp only [Instr.makeInterface, Sem.run_bind, run_under hd, Result.andThen_ok]
        cases d <;> first | rfl | exact absurd rfl (hnd _)
      · simp at hv
  case makeFunc fn fi ca =>
    cases fn <;> simp only [reduceCtorEq] at h
    simp at h; obtain ⟨rfl, rfl, rfl⟩ := h
    rename_i f
    refine .inr ⟨rfl, rfl, pure_value (s := Instr.makeFunc (.func f) (fi.map ρ) (ca.map ρ)) (y := .func (.func f) (fi.map ρ) (ca.map ρ)) rfl ?_⟩
    have := Rel.fn (M := M) (w := w) f (fi.toList.map ev) (ca.toList.map ev) (fi.toList.map ρ) (ca.toList.map ρ) (RelL.map_ev _ _ _ fun x hx => hev x (by simp only [opnds, List.mem_append]; exact .inl hx)) (RelL.map_ev _ _ _ fun x hx => hev x (by simp only [opnds, List.mem_append]; exact .inr hx))
    have e : ∀ a : Array Operand, (a.toList.map ρ).toArray = a.map ρ := fun a => by rw [← Array.toList_map]
    rw [e, e] at this
    exact this
  case makeMap t r =>
    cases r <;> simp only [reduceCtorEq] at h
    simp at h; obtain ⟨rfl, rfl, rfl⟩ := h
    obtain ⟨M', hM', hp⟩ := Post.alloc (N := N) (W := W) (w' := w.alloc (.map #[] 0)) hs ho hf (.map (c :: p) []) 0 rfl (by simp) (fun b hb => heap_alloc_old _ _ hb) (below_alloc _ _ _ hs.base) (fun M1 hE hm b n hn => by
      rw [hm] at hn; cases hn
      exact ⟨#[], 0, heap_alloc_new _ _, rfl, fun j k v hj => by simp at hj⟩)
    exact .inl ⟨rfl, step_value (s := Instr.makeMap t none) (y := .map (some w.heap.size)) (by simp [Instr.makeMap]) (.map _ _ _ _ hM') hp⟩
  case makeSlice t l k =>
    simp only [Option.map_eq_some_iff, Prod.mk.injEq] at h
    obtain ⟨⟨v', σ1⟩, hv, rfl, rfl, rfl⟩ := h
    obtain ⟨u, w', M', h1, h2, h3⟩ := makeSlice_sound (N := N) (W := W) hs ho hf hv (hev l (by simp [opnds])) (hev k (by simp [opnds]))
    exact .inl ⟨rfl, step_value h1 h2 h3⟩
  case slice t x lo hi mx =>
    split at h
    · simp at h
    · rename_i h3
      simp only [Option.map_eq_some_iff, Prod.mk.injEq] at h
      obtain ⟨v', hv, rfl, rfl, rfl⟩ := h
      obtain ⟨u, h1, h2⟩ := slice_sound hv (hev x (by simp [opnds])) (opt_rel (ρ := ρ) fun y hy => hev y (by simp only [opnds, List.mem_cons, List.mem_append]; exact .inr (.inl (.inl hy)))) (opt_rel (ρ := ρ) fun y hy => hev y (by simp only [opnds, List.mem_cons, List.mem_append]; exact .inr (.inl (.inr hy)))) (opt_rel (ρ := ρ) fun y hy => hev y (by simp only [opnds, List.mem_cons, List.mem_append]; exact .inr (.inr hy)))
        (by intro hm; cases mx <;> cases hi <;> simp_all)
      exact .inr ⟨rfl, rfl, pure_value h1 h2⟩
  case fieldAddr t x f =>
    simp only [Option.map_eq_some_iff, Prod.mk.injEq] at h
    obtain ⟨v', hv, rfl, rfl, rfl⟩ := h
    obtain ⟨u, h1, h2⟩ := fieldAddr_sound hv (hev x (by simp [opnds]))
    exact .inr ⟨rfl, rfl, pure_value h1 h2⟩
  case field t x f =>
    simp only [Option.map_eq_some_iff, Prod.mk.injEq] at h
    obtain ⟨v', hv, rfl, rfl, rfl⟩ := h
    obtain ⟨u, h1, h2⟩ := field_sound hv (hev x (by simp [opnds]))
    exact .inr ⟨rfl, rfl, pure_value h1 h2⟩
  case indexAddr t x ix =>
    simp only [Option.map_eq_some_iff, Prod.mk.injEq] at h
    obtain ⟨v', hv, rfl, rfl, rfl⟩ := h
    obtain ⟨u, h1, h2⟩ := indexAddr_sound hv (hev x (by simp [opnds])) (hev ix (by simp [opnds]))
    exact .inr ⟨rfl, rfl, pure_value h1 h2⟩
  case sliceToArrayPointer t x =>
    simp only [Option.map_eq_some_iff, Prod.mk.injEq] at h
    obtain ⟨v', hv, rfl, rfl, rfl⟩ := h
    obtain ⟨u, h1, h2⟩ := arrPtr_sound hv (hev x (by simp [opnds]))
    exact .inr ⟨rfl, rfl, pure_value h1 h2⟩
  case index t x ix =>
    simp only [Option.map_eq_some_iff, Prod.mk.injEq] at h
    obtain ⟨v', hv, rfl, rfl, rfl⟩ := h
    obtain ⟨u, h1, h2⟩ := index_sound hv (hev x (by simp [opnds])) (hev ix (by simp [opnds]))
    exact .inr ⟨rfl, rfl, pure_value h1 h2⟩
  case lookup t m k ok =>
    simp only [Option.map_eq_some_iff, Prod.mk.injEq] at h
    obtain ⟨v', hv, rfl, rfl, rfl⟩ := h
    obtain ⟨u, h1, h2⟩ := lookup_sound hv (hev m (by simp [opnds])) (hev k (by simp [opnds])) (fun r st e o h => ho r o (hN r (by simp [accs, e, touch])) h)
    exact .inr ⟨rfl, rfl, pure_value h1 h2⟩
  case mapUpdate t m k x =>
    simp only [Option.map_eq_some_iff, Prod.mk.injEq] at h
    obtain ⟨σ1, hv, rfl, rfl, rfl⟩ := h
    obtain ⟨w', h1, h2⟩ := mapUpdate_sound (p := p) (c := c) hs ho hv (hev m (by simp [opnds])) (hev k (by simp [opnds])) (hev x (by simp [opnds])) (fun r st e => ⟨hN r (by simp [accs, e, touch]), hW r (by simp [wrs, e, touch])⟩)
    exact .inl ⟨rfl, .skip, w', M, by simp [execOp, h1], .inr ⟨rfl, rfl⟩, h2⟩
  case insert t m k x =>
    simp only [Option.map_eq_some_iff, Prod.mk.injEq] at h
    obtain ⟨σ1, hv, rfl, rfl, rfl⟩ := h
    obtain ⟨w', h1, h2⟩ := mapUpdate_sound (p := p) (c := c) hs ho hv (hev m (by simp [opnds])) (hev k (by simp [opnds])) (hev x (by simp [opnds])) (fun r st e => ⟨hN r (by simp [accs, e, touch]), hW r (by simp [wrs, e, touch])⟩)
    exact .inl ⟨rfl, .skip, w', M, by simp [execOp, h1], .inr ⟨rfl, rfl⟩, h2⟩
  case extract x n =>
    simp only [Option.map_eq_some_iff, Prod.mk.injEq] at h
    obtain ⟨v', hv, rfl, rfl, rfl⟩ := h
    have hx := hev x (by simp [opnds])
    refine .inr ⟨rfl, rfl, ?_⟩
    split at hv
    · rename_i vs hxe
      rw [hxe] at hx
      obtain ⟨ys, hy, hl⟩ := hx.tup_inv
      obtain ⟨u, hu, hr⟩ := hl.get hv
      exact pure_value (s := Instr.extract (ρ x) n) (y := u) (by simp [Instr.extract, hy, hu]) hr
    · simp at hv
  case call cl =>
    obtain ⟨callee, args, ts⟩ := cl
    cases callee <;> simp only [reduceCtorEq] at h
    rename_i b
    split at h
    · rename_i hch
      simp only [Option.map_eq_some_iff, Prod.mk.injEq] at h
      obtain ⟨⟨v', σ1⟩, hv, rfl, rfl, rfl⟩ := h
      refine .inl ⟨rfl, ?_⟩
      have := builtin_sound (N := N) (W := W) (ρ := ρ) (ty := ty) (cs := args.map fun | .const _ => true | _ => false) hs ho hf hv (fun x hx => hev x (by simpa [opnds] using hx)) (fun x hx r hr => hN r (by simp only [accs, if_pos hch, List.mem_flatMap]; exact ⟨x, hx, hr⟩)) hW
      obtain ⟨nx, w', M', g1, g2, g3⟩ := this
      exact ⟨nx, w', M', by simp only [execOp, resolve, Sem.run_bind, Sem.run_pure, Result.andThen_ok, invoke]; exact g1, g2, g3⟩
    · rename_i hch
      simp only [Option.map_eq_some_iff, Prod.mk.injEq] at h
      obtain ⟨v', hv, rfl, rfl, rfl⟩ := h
      refine .inr ⟨rfl, rfl, ?_⟩
      have := builtinP_sound (N := N) (ρ := ρ) (ty := ty) (cs := args.map fun | .const _ => true | _ => false) ho hv (fun x hx => hev x (by simpa [opnds] using hx)) (fun x hx r hr => hN r (by simp only [accs, if_neg hch, List.mem_flatMap]; exact ⟨x, hx, hr⟩))
      obtain ⟨y, g1, g2⟩ := this
      exact ⟨y, by simp only [execOp, resolve, Sem.run_bind, Sem.run_pure, Result.andThen_ok, invoke]; exact g1, g2⟩
end
end Go.Am
