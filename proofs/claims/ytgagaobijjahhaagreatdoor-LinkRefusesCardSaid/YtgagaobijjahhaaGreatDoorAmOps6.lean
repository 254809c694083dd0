/- Each operation of the abstract machine is what the model's does: copy, clear, what is built. -/
import Derived.Test.YtgagaobijjahhaaGreatDoorAmOps5
namespace Go.Am
open Go.RowKit
set_option linter.unusedVariables false
set_option linter.unusedSimpArgs false

section
variable {C : Cfg} {M M' : Mp} {w w' : World} {B0 : Nat} {N W : Nat → Prop} {p : List Nat} {σ σ' : List O} {c : Nat}

theorem copy_sound (hs : Sep B0 M σ w) (ho : ∀ (r : Nat) o, N r → σ[r]? = some o → ObjRel M w o) {t u ty : Nat} {d x v : V} {yd yx : Value}
    (h : copyA C t σ d x = some (v, σ')) (hrd : Rel M w d yd) (hrx : Rel M w x yx)
    (hNx : ∀ r st off len es cap, x = .sl r st off len es cap → N r) (hNd : ∀ r st off len es cap, d = .sl r st off len es cap → N r ∧ W r) :
    ∃ y w', (Builtin.copy_ #[t, u] ty #[yd, yx]).run C.P w = .ok y w' ∧ Rel M w' v y ∧ Post B0 N W p M M σ σ' c w w' := by
  simp only [copyA, Option.bind_eq_some_iff] at h
  obtain ⟨⟨e, z, zv⟩, he, ⟨m, xs⟩, hx, h⟩ := h
  dsimp only at hx h
  obtain ⟨hut, hz0, hzl, hb, hone, i, yz, hi, hsz, hby, hzy, _⟩ := elem_some he
  have hn := run_lenOf (C := C) hx hrx
  have hox : ∀ r st off len es cap, x = .sl r st off len es cap → ∀ o, σ[r]? = some o → ObjRel M w o := fun r st off len es cap e o h => ho r o (hNx _ _ _ _ _ _ e) h
  have hh : (sizeOf e).run C.P w = .ok z w := by simp [sizeOf, typeInfo, hi, hsz]
  split at h
  · simp at h
    obtain ⟨rfl, rfl⟩ := h
    obtain ⟨h1, h2, ys, h3, h4⟩ := run_firstCells (C := C) hx hrx (Nat.min_le_left m 0) hox
    rw [hrd.nils_inv]
    refine ⟨.int .i64 0, w, ?_, .i _ _, Post.pure hs ho rfl (Below.refl _ _)⟩
    rw [Nat.min_zero] at h3
    simp [Builtin.copy_, run_under hut, hn, hh, h3, goInt]
  · rename_i r st o n es cap
    split at h
    · rename_i hes
      subst hes
      simp only [Option.bind_eq_some_iff] at h
      obtain ⟨cs, hcs, h⟩ := h
      split at h
      · rename_i hfit
        simp at h
        obtain ⟨rfl, rfl⟩ := h
        obtain ⟨b, nn, k, hM, rfl, hk, _, _⟩ := hrd.sl_inv
        obtain ⟨hN1, hW1⟩ := hNd _ _ _ _ _ _ rfl
        obtain ⟨h1, h2, ys, h3, h4⟩ := run_firstCells (C := C) hx hrx (Nat.min_le_left m n) hox
        have hlen : (xs.take (min m n * es)).length = min m n * es := by
          simp only [List.length_take, h1]
          exact Nat.min_eq_left (Nat.mul_le_mul_right _ (Nat.min_le_left m n))
        have hle : min m n * es ≤ n * es := Nat.mul_le_mul_right _ (Nat.min_le_right m n)
        obtain ⟨w', hw', hp⟩ := write_sound (C := C) (p := p) (c := c) hs ho (off := o) (rowAt_some hcs) hM hN1 hW1 h4 (fun x hx => h2 x (List.mem_of_mem_take hx)) (by rw [hlen]; omega)
        refine ⟨.int .i64 ((min m n : Nat) : Int), w', ?_, .i _ _, hp⟩
        have hmn : Nat.min m n = min m n := rfl
        simp [Builtin.copy_, run_under hut, hn, hh, hmn, h3, hw', goInt]
      · simp at h
    · simp at h
  · simp at h

theorem splice_nil {cs : List V} {o : Nat} : splice cs o [] = cs := by simp [splice]
theorem set_same {r : Nat} {o : O} (h : σ[r]? = some o) : σ.set r o = σ := by
  apply List.ext_getElem?
  intro j
  by_cases e : j = r
  · subst e
    have hl := (List.getElem?_eq_some_iff.1 h).1
    rw [List.getElem?_set_self hl, h]
  · rw [List.getElem?_set_ne (Ne.symm e)]

theorem clear_sound (hs : Sep B0 M σ w) (ho : ∀ (r : Nat) o, N r → σ[r]? = some o → ObjRel M w o) {t ty : Nat} {d v : V} {yd : Value} {td : TypeDesc} (hut' : C.P.underlying t = some td)
    (h : clearA C t σ d = some (v, σ')) (hrd : Rel M w d yd) (hNd : ∀ r st off len es cap, d = .sl r st off len es cap → N r ∧ W r) :
    ∃ y w', (Builtin.clear_ #[t] ty #[yd]).run C.P w = .ok y w' ∧ Rel M w' v y ∧ Post B0 N W p M M σ σ' c w w' := by
  unfold clearA at h
  split at h
  · simp at h
    obtain ⟨rfl, rfl⟩ := h
    rw [hrd.nils_inv]
    exact ⟨.tuple #[], w, by simp [Builtin.clear_, run_under hut'], .tup [] [] .nil, Post.pure hs ho rfl (Below.refl _ _)⟩
  · rename_i r st o n es cap
    simp only [Option.bind_eq_some_iff] at h
    obtain ⟨⟨e, z, zv⟩, he, h⟩ := h
    dsimp only at h
    obtain ⟨hut, hz0, hzl, hb, hone, i, yz, hi, hsz, hby, hzy, rfl⟩ := elem_some he
    split at h
    · rename_i hes
      subst hes
      simp only [Option.bind_eq_some_iff] at h
      obtain ⟨cs, hcs, h⟩ := h
      split at h
      · rename_i hfit
        simp at h
        obtain ⟨rfl, rfl⟩ := h
        obtain ⟨b, nn, k, hM, rfl, hk, _, _⟩ := hrd.sl_inv
        obtain ⟨hN1, hW1⟩ := hNd _ _ _ _ _ _ rfl
        by_cases hn0 : n = 0
        · subst hn0
          simp only [List.replicate_zero, List.flatten_nil, splice_nil]
          rw [set_same (rowAt_some hcs)]
          exact ⟨.tuple #[], w, by simp [Builtin.clear_, run_under hut], .tup [] [] .nil, Post.pure hs ho rfl (Below.refl _ _)⟩
        · have hrel := rel_made (M := M) (w := w) (k := n) hzl hz0 hone
          obtain ⟨w', hw', hp⟩ := write_sound (C := C) (p := p) (c := c) hs ho (off := o) (rowAt_some hcs) hM hN1 hW1 hrel (fun x hx => List.all_eq_true.1 (flat_one hone) x hx) (by rw [flat_len hzl]; exact hfit)
          refine ⟨.tuple #[], w', ?_, .tup [] [] .nil, hp⟩
          have hysz : yz.cells.size = z := by
            rw [← Array.length_toList, ← ((rel_ofVal (M := M) (w := w) yz).cells hone).length, hzl]
          have hzc : Builtin.zeroCells yz.cells n = madeCells yz.cells (n * z) := by simp [Builtin.zeroCells, madeCells, hysz]
          obtain ⟨n', rfl⟩ : ∃ n', n = n' + 1 := ⟨n - 1, by omega⟩
          simp [Builtin.clear_, run_under hut, zeroValue, typeInfo, hi, hzy, hzc, hw']
      · simp at h
    · simp at h
  · simp at h

/-! What is built. -/
def RelP (M : Mp) (w : World) (l : List (Nat × V)) (l' : List (Nat × Value)) : Prop := l.length = l'.length ∧ ∀ (j : Nat) a b, l[j]? = some a → l'[j]? = some b → a.1 = b.1 ∧ Rel M w a.2 b.2
theorem RelP.map {X : Type} (xs : List (Nat × X)) (f : X → V) (g : X → Value) (h : ∀ x ∈ xs, Rel M w (f x.2) (g x.2)) : RelP M w (xs.map fun x => (x.1, f x.2)) (xs.map fun x => (x.1, g x.2)) := by
  refine ⟨by simp, fun j a b ha hb => ?_⟩
  rw [List.getElem?_map, Option.map_eq_some_iff] at ha hb
  obtain ⟨x, hx, rfl⟩ := ha
  obtain ⟨x', hx', rfl⟩ := hb
  rw [hx] at hx'; cases hx'
  exact ⟨rfl, h x (List.mem_of_getElem? hx)⟩
theorem foldl_put (l : List Value) : ∀ (k off : Nat) (ys : List Value), off + k + l.length ≤ ys.length →
    (l.zipIdx k).foldl (fun cs (x : Value × Nat) => cs.setIfInBounds (off + x.2) x.1) ys.toArray = (ys.take (off + k) ++ l ++ ys.drop (off + k + l.length)).toArray := by
  induction l with
  | nil => intro k off ys h; simp
  | cons a l ih =>
    intro k off ys h
    simp only [List.length_cons] at h
    rw [List.zipIdx_cons, List.foldl_cons]
    simp only [List.setIfInBounds_toArray]
    rw [ih (k + 1) off _ (by simp; omega)]
    congr 1
    apply List.ext_getElem?
    intro j
    simp only [List.getElem?_append, List.length_append, List.length_take, List.length_set, List.getElem?_take, List.getElem?_drop, List.getElem?_cons, List.getElem?_set, List.length_cons]
    repeat' split
    all_goals first | rfl | omega | (congr 1; omega)
theorem fill_sound (pl : Nat → Option (Nat × Nat)) : ∀ (parts : List (Nat × V)) (parts' : List (Nat × Value)) (l : List (Nat × Nat × V)) (cs cs' : List V) (ys : List Value), RelP M w parts parts' → partsAt pl parts = some l → fillA cs l = some cs' → RelL M w cs ys → (∀ x ∈ cs, x.one = true) →
    ∃ ys' : List Value, Instr.fill pl ys.toArray parts' = some ys'.toArray ∧ RelL M w cs' ys' ∧ (∀ x ∈ cs', x.one = true) := by
  intro parts
  induction parts with
  | nil =>
    intro parts' l cs cs' ys hp h1 h2 hr ho
    cases parts' with
    | cons a b => simp [RelP] at hp
    | nil =>
      simp [partsAt] at h1; subst h1
      simp [fillA] at h2; subst h2
      exact ⟨ys, by simp [Instr.fill], hr, ho⟩
  | cons a parts ih =>
    intro parts' l cs cs' ys hp h1 h2 hr ho
    cases parts' with
    | nil => simp [RelP] at hp
    | cons b parts' =>
      obtain ⟨i, v⟩ := a
      obtain ⟨i', v'⟩ := b
      have h0 := hp.2 0 (i, v) (i', v') rfl rfl
      obtain ⟨rfl, hv⟩ := h0
      have hp' : RelP M w parts parts' := ⟨by simpa using hp.1, fun j a b ha hb => hp.2 (j + 1) a b (by simpa using ha) (by simpa using hb)⟩
      simp only [partsAt, Option.bind_eq_some_iff, Option.map_eq_some_iff] at h1
      obtain ⟨⟨off, n⟩, hpl, l', hl', rfl⟩ := h1
      simp only [fillA] at h2
      split at h2
      · rename_i hc
        obtain ⟨c1, c2, c3⟩ := hc
        have hvc := hv.cells c3
        have hvl := hvc.length
        have hlen := hr.length
        have hones : ∀ x ∈ splice cs off v.cells, x.one = true := fun x hx => (splice_mem hx).elim (ho x) (fun h => List.all_eq_true.1 c3 x h)
        have hrel : RelL M w (splice cs off v.cells) (ys.take off ++ v'.cells.toList ++ ys.drop (off + v'.cells.toList.length)) := by
          unfold splice
          rw [hvl]
          exact ((hr.take off).append hvc).append (hr.drop _)
        obtain ⟨ys', g1, g2, g3⟩ := ih parts' l' _ cs' _ hp' hl' h2 hrel hones
        refine ⟨ys', ?_, g2, g3⟩
        have hsz : v'.cells.size = n := by rw [← Array.length_toList, ← hvl, c1]
        have hput := foldl_put v'.cells.toList 0 off ys (by rw [Array.length_toList, hsz]; omega)
        simp only [Nat.add_zero] at hput
        simp only [Instr.fill, hpl]
        rw [if_neg (by simp [hsz]; omega)]
        have : (v'.cells.zipIdx.foldl (fun cs (x : Value × Nat) => match x with | (c, j) => cs.setIfInBounds (off + j) c) ys.toArray) = (ys.take off ++ v'.cells.toList ++ ys.drop (off + v'.cells.toList.length)).toArray := by
          rw [← hput, ← Array.foldl_toList, Array.toList_zipIdx]
        rw [this]
        exact g1
      · simp at h2

theorem mapM_run {X Y : Type} (f : X → Sem Y) (g : X → Option Y) (h : ∀ x y, g x = some y → (f x).run C.P w = .ok y w) : ∀ (l : List X) (r : List Y), l.mapM g = some r → (l.mapM f).run C.P w = .ok r w := by
  intro l
  induction l with
  | nil => intro r hr; simp at hr; subst hr; simp
  | cons x l ih =>
    intro r hr
    rw [List.mapM_cons] at hr
    simp only [Option.bind_eq_bind, Option.bind_eq_some_iff] at hr
    obtain ⟨y, hy, ys, hys, h2⟩ := hr
    cases h2
    rw [List.mapM_cons]
    simp [h x y hy, ih ys hys]

theorem build_sound {t : Nat} {ps : List (Nat × V)} {ps' : Array (Nat × Value)} {v : V} (h : buildA C t ps = some v) (hp : RelP M w ps ps'.toList) :
    ∃ u, (Instr.build t ps').run C.P w = .ok u w ∧ Rel M w v u := by
  simp only [buildA, Option.bind_eq_some_iff] at h
  obtain ⟨z, hz, h⟩ := h
  obtain ⟨y, hy, rfl, hone⟩ := run_zero hz w
  have hr := (rel_ofVal (M := M) (w := w) y).cells hone
  have hones : ∀ x ∈ (ofVal y).cells, x.one = true := fun x hx => List.all_eq_true.1 hone x hx
  split at h
  · rename_i k e hs
    simp only [Option.bind_eq_some_iff, Option.map_eq_some_iff] at h
    obtain ⟨n, hn, l, hl, cs, hcs, rfl⟩ := h
    obtain ⟨ys', g1, g2, g3⟩ := fill_sound (M := M) (w := w) _ _ _ _ _ _ _ hp hl hcs hr hones
    simp only [Array.toArray_toList] at g1
    exact ⟨.agg ys'.toArray, by simp [Instr.build, hy, run_under (shape_array hs), run_size hn, g1], .agg _ _ g3 g2⟩
  · simp only [Option.bind_eq_some_iff, Option.map_eq_some_iff] at h
    obtain ⟨pl, hpl, l, hl, cs, hcs, rfl⟩ := h
    unfold Cfg.places at hpl
    split at hpl
    · rename_i fs hu
      obtain ⟨ys', g1, g2, g3⟩ := fill_sound (M := M) (w := w) _ _ _ _ _ _ _ hp hl hcs hr hones
      simp only [Array.toArray_toList] at g1
      have hrun := mapM_run (C := C) (w := w) (fun f : Field => do pure (f.offset, ← sizeOf f.type)) _ (fun f q hq => by
        rw [Option.map_eq_some_iff] at hq
        obtain ⟨n, hn, rfl⟩ := hq
        simp [run_size hn]) _ _ hpl
      refine ⟨.agg ys'.toArray, ?_, .agg _ _ g3 g2⟩
      have hm : (fs.mapM (fun f : Field => (do pure (f.offset, ← sizeOf f.type) : Sem (Nat × Nat)))).run C.P w = .ok pl.toArray w := by
        rw [Array.mapM_eq_mapM_toList]
        simp only [Sem.run_map, hrun, Result.andThen_ok]
      have hget : (fun i : Nat => pl.toArray[i]?) = (fun i : Nat => pl[i]?) := by funext i; simp
      simp only [Instr.build, Sem.run_bind, hy, Result.andThen_ok, run_under hu, hm, hget, g1, Sem.run_pure]
    · simp at hpl

theorem buildSlice_sound (hs : Sep B0 M σ w) (ho : ∀ (r : Nat) o, N r → σ[r]? = some o → ObjRel M w o) (hf : Fr M σ p c) {t len : Nat} {ps : List (Nat × V)} {ps' : Array (Nat × Value)} {v : V}
    (h : buildSliceA C t len ps σ (c :: p) = some (v, σ')) (hp : RelP M w ps ps'.toList) :
    ∃ u w' M', (Instr.buildSlice t len ps').run C.P w = .ok u w' ∧ Rel M' w' v u ∧ Post B0 N W p M M' σ σ' c w w' := by
  simp only [buildSliceA, Option.bind_eq_some_iff] at h
  obtain ⟨⟨e, z, zv⟩, he, h⟩ := h
  dsimp only at h
  obtain ⟨hut, hz0, hzl, hb, hone, i, yz, hi, hsz, hby, hzy, rfl⟩ := elem_some he
  split at h
  · simp at h
  rename_i hbig
  have hh : (sizeOf e).run C.P w = .ok z w := by simp [sizeOf, typeInfo, hi, hsz]
  split at h
  · rename_i hl0
    subst hl0
    split at h
    · simp at h
      obtain ⟨rfl, rfl⟩ := h
      obtain ⟨M', hM', hp'⟩ := post_row (N := N) (W := W) (e := e) (fz := (0, 0)) (xs := []) (ys := []) hs ho hf .nil (by simp) [] w rfl (Below.refl _ _) rfl (fun y h => by cases h)
      simp only [List.append_nil] at hM' hp'
      have hps : ps' = #[] := by
        have := hp.1; simpa using this.symm
      subst hps
      refine ⟨.slice (some ⟨w.heap.size, 0, none⟩) 0 0, _, M', ?_, .arr [] 0 true _ [] 0 (fun h => absurd rfl h) (fun _ h => by cases h) .nil (fun j y h => by simp at h) (Nat.le_refl _) (fun _ => rfl), hp'.shorter⟩
      simp only [Instr.buildSlice, Sem.run_bind, run_under hut, Result.andThen_ok, hh]
      have hr : Array.map (fun _ => (default : Value)) (Array.range 0) = #[] := by apply Array.ext'; simp
      simp [newRow, Instr.fill]
      rw [hr]
    · simp at h
  · rename_i hlen
    simp only [Option.bind_eq_some_iff, Option.map_eq_some_iff, Prod.mk.injEq] at h
    obtain ⟨l, hl, cs, hcs, rfl, rfl⟩ := h
    have hrel := rel_made (M := M) (w := w) (k := len) hzl hz0 hone
    obtain ⟨ys', g1, g2, g3⟩ := fill_sound (M := M) (w := w) _ _ _ _ _ _ _ hp hl hcs hrel (fun x hx => List.all_eq_true.1 (flat_one hone) x hx)
    simp only [Array.toArray_toList] at g1
    obtain ⟨M', hM', hp'⟩ := post_row (N := N) (W := W) (e := e) (fz := (0, 0)) hs ho hf g2 (List.all_eq_true.2 g3) [] w rfl (Below.refl _ _) rfl (fun y h => by cases h)
    simp only [List.append_nil] at hM' hp'
    refine ⟨.slice (some ⟨w.heap.size, 0, none⟩) len len, _, M', ?_, .sl _ _ _ _ _ _ w.heap.size _ len hM' (Nat.le_refl _) (fun e => by cases e) (fun c' e => by injection e), hp'⟩
    have h1 : ¬ len * z > 2 ^ 24 := by omega
    have h2 : ¬ len * z = 0 := by
      intro e; rcases Nat.mul_eq_zero.1 e with h | h <;> omega
    have hzv : (zeroValue e).run C.P w = .ok yz w := by simp [zeroValue, typeInfo, hi, hzy]
    have hmade : (Array.range (len * z)).map (fun i => yz.cells[i % yz.cells.size]!) = madeCells yz.cells (len * z) := rfl
    simp only [Instr.buildSlice, Sem.run_bind, run_under hut, Result.andThen_ok, hh, if_neg h1, if_neg h2, hzv, Sem.run_pure, hmade, g1, newRow, run_newObj]
    rfl
end
end Go.Am
