/- Each operation of the abstract machine is what the model's does: loads, stores, addresses, new blocks. -/
import Derived.Test.YtgagaobijjahhaaGreatDoorAmMem
namespace Go.Am
open Go.RowKit
set_option linter.unusedVariables false
set_option linter.unusedSimpArgs false

section
variable {C : Cfg} {M M' : Mp} {w w' : World} {B0 : Nat} {N W : Nat → Prop} {p : List Nat} {σ σ' : List O} {c : Nat}

theorem run_size {t : TypeId} {n : Nat} (h : C.size t = some n) (w : World) : (sizeOf t).run C.P w = .ok n w := by
  simp only [Cfg.size, Option.map_eq_some_iff] at h
  obtain ⟨i, hi, rfl⟩ := h
  simp [sizeOf, typeInfo, hi]
theorem run_under {t : TypeId} {d : TypeDesc} (h : C.P.underlying t = some d) (w : World) : (underlying t).run C.P w = .ok d w := by
  simp [underlying, h]
theorem run_isAgg {t : TypeId} {g : Bool} (h : C.isAgg t = some g) (w : World) : (isAgg t).run C.P w = .ok g w := by
  unfold Cfg.isAgg at h
  split at h
  · rename_i fs hu; simp at h; subst h; simp [isAgg, run_under hu]
  · rename_i a b hu; simp at h; subst h; simp [isAgg, run_under hu]
  · rename_i d h1 h2 hu
    simp at h; subst h
    simp only [isAgg, Sem.run_bind, run_under hu, Result.andThen_ok]
    rfl
  · simp at h
theorem run_zero {t : TypeId} {z : V} (h : C.zero t = some z) (w : World) : ∃ y, (zeroValue t).run C.P w = .ok y w ∧ z = ofVal y ∧ z.cells.all V.one = true := by
  simp only [Cfg.zero, Option.bind_eq_some_iff, Option.map_eq_some_iff] at h
  obtain ⟨z', ⟨y, ⟨i, hi, hy⟩, rfl⟩, hz⟩ := h
  split at hz
  · rename_i ha
    simp at hz; subst hz
    exact ⟨y, by simp [zeroValue, typeInfo, hi, hy], rfl, ha⟩
  · simp at hz

theorem add_off (b o j : Nat) : (⟨b, o, none⟩ : Addr).add j = ⟨b, o + j, none⟩ := by unfold Addr.add; split <;> simp_all
theorem add_add (a : Addr) (i j : Nat) : (a.add i).add j = a.add (i + j) := by
  unfold Addr.add
  by_cases hi : i = 0
  · subst hi; simp
  · by_cases hj : j = 0
    · subst hj; simp [hi]
    · simp [hi, hj]; omega
theorem add_block (a : Addr) (j : Nat) : (a.add j).block = a.block := by unfold Addr.add; split <;> rfl

theorem cellsAt_rel {x : V} {cs : List V} {y : Value} (h : cellsAt σ x = some cs) (hr : Rel M w x y)
    (ho : ∀ r st off, x = .ptr r st off → ∀ o, σ[r]? = some o → ObjRel M w o) :
    ∃ a, y = .pointer (some a) ∧ (∀ z ∈ cs, z.one = true) ∧ ∀ (j : Nat) z, cs[j]? = some z → ∃ u, w.cell? (a.add j) = some u ∧ Rel M w z u := by
  cases hr <;> simp only [cellsAt, reduceCtorEq, Option.map_eq_some_iff, Option.some.injEq] at h
  · rename_i r st off b n hm
    obtain ⟨row, hrow, rfl⟩ := h
    unfold rowAt at hrow
    split at hrow
    · rename_i st' cs' hσ
      split at hrow
      · rename_i e
        subst e
        simp at hrow; subst hrow
        obtain ⟨h1, h2, h3, h4⟩ := ho _ _ _ rfl _ hσ b n hm
        refine ⟨_, rfl, fun z hz => h2 z (List.mem_of_mem_drop hz), fun j z hz => ?_⟩
        rw [List.getElem?_drop] at hz
        obtain ⟨u, hu, hr⟩ := h4 _ z hz
        exact ⟨u, by rw [add_off]; exact hu, hr⟩
      · simp at hrow
    · simp at hrow
  · rename_i cs' a vs hF h1 hrl hc
    subst h
    refine ⟨_, rfl, h1, fun j z hz => ?_⟩
    obtain ⟨u, hu, hr⟩ := hrl.get hz
    exact ⟨u, hc j u hu, hr⟩

theorem run_cells {xs : List V} {a : Addr} (h : ∀ (j : Nat) z, xs[j]? = some z → ∃ u, w.cell? (a.add j) = some u ∧ Rel M w z u) :
    ∃ ys : List Value, (loadCells a xs.length).run C.P w = .ok ys.toArray w ∧ RelL M w xs ys ∧ (∀ j y, ys[j]? = some y → w.cell? (a.add j) = some y) := by
  classical
  have hx : ∀ j : Fin xs.length, ∃ u, w.cell? (a.add j) = some u ∧ Rel M w xs[j] u := fun j => h j _ (by simp)
  let f : Fin xs.length → Value := fun j => Classical.choose (hx j)
  have hf : ∀ j, w.cell? (a.add j.1) = some (f j) ∧ Rel M w xs[j] (f j) := fun j => Classical.choose_spec (hx j)
  have hlen : (List.ofFn f).length = xs.length := by simp
  have hcell : ∀ j y, (List.ofFn f)[j]? = some y → w.cell? (a.add j) = some y := by
    intro j y hy
    rw [List.getElem?_eq_some_iff] at hy
    obtain ⟨hj, rfl⟩ := hy
    simp only [List.length_ofFn] at hj
    simpa using (hf ⟨j, hj⟩).1
  refine ⟨List.ofFn f, ?_, ?_, hcell⟩
  · have := run_loadCells_list (P := C.P) (w := w) a (List.ofFn f) hcell
    rw [hlen] at this
    exact this
  · refine RelL.of_get hlen.symm fun j x y hx hy => ?_
    rw [List.getElem?_eq_some_iff] at hx hy
    obtain ⟨hj, rfl⟩ := hx
    obtain ⟨hj', rfl⟩ := hy
    simpa using (hf ⟨j, hj⟩).2

theorem take?_some {cs l : List V} {off n : Nat} (h : take? cs off n = some l) : l = (cs.drop off).take n ∧ l.length = n ∧ ∀ (j : Nat) z, l[j]? = some z → cs[off + j]? = some z := by
  unfold take? at h
  split at h
  · rename_i hl
    simp at h; subst h
    refine ⟨rfl, by simp; omega, fun j z hz => ?_⟩
    rw [List.getElem?_take] at hz
    split at hz
    · rwa [List.getElem?_drop] at hz
    · simp at hz
  · simp at h

theorem load_sound {t : TypeId} {x v : V} {y : Value} (h : loadA C t σ x = some v) (hr : Rel M w x y)
    (ho : ∀ r st off, x = .ptr r st off → ∀ o, σ[r]? = some o → ObjRel M w o) :
    ∃ u, (Instr.loadAt t y).run C.P w = .ok u w ∧ Rel M w v u := by
  simp only [loadA, Option.bind_eq_some_iff] at h
  obtain ⟨cs, hcs, g, hg, h⟩ := h
  obtain ⟨a, rfl, hone, hc⟩ := cellsAt_rel hcs hr ho
  cases g with
  | true =>
    simp only [if_true, Option.bind_eq_some_iff, Option.map_eq_some_iff] at h
    obtain ⟨n, hn, l, hl, rfl⟩ := h
    obtain ⟨e1, e2, e3⟩ := take?_some hl
    obtain ⟨ys, h1, h2, h3⟩ := run_cells (C := C) (M := M) (w := w) (xs := l) (a := a) (fun j z hz => by
      obtain ⟨u, hu⟩ := hc (0 + j) z (e3 j z hz)
      exact ⟨u, by simpa using hu⟩)
    refine ⟨.agg ys.toArray, ?_, .agg _ _ (fun z hz => hone z (by rw [e1] at hz; exact List.mem_of_mem_drop (List.mem_of_mem_take hz))) h2⟩
    rw [e2] at h1
    simp [Instr.loadAt, Instr.sureAddr, loadVar, run_isAgg hg, run_size hn, h1]
  | false =>
    simp only [Bool.false_eq_true, if_false] at h
    obtain ⟨u, hu, hr'⟩ := hc 0 v h
    have e0 : a.add 0 = a := by simp [Addr.add]
    rw [e0] at hu
    exact ⟨u, by simp [Instr.loadAt, Instr.sureAddr, loadVar, run_isAgg hg, hu], hr'⟩

theorem obj_new {xs : List V} {ys : List Value} {st : List Nat} {e : TypeId} {fz : Nat × Nat} (h : RelL M w xs ys) (ho : xs.all V.one = true) (extra : List Value)
    (hw : w'.heap[w.heap.size]? = some (.cells (ys ++ extra).toArray e fz)) (hfz : fz.1 = fz.2 ∨ (ys ++ extra).length ≤ fz.1) (hx : ∀ y ∈ extra, (ofVal1 y).one = true) (hmk : marks = true ∨ fz.2 ≤ fz.1) :
    ∀ M1, Ext B0 M M1 w w' → M1.m st = some (w.heap.size, (ys ++ extra).length) → ObjRel M1 w' (.cells st xs) := by
  intro M1 he hm b n hn
  rw [hm] at hn; cases hn
  have hl := h.length
  have hcell : ∀ j y, (ys ++ extra)[j]? = some y → w'.cell? ⟨w.heap.size, j, none⟩ = some y := by
    intro j y hy
    simp only [World.cell?, hw]
    simpa using hy
  refine ⟨by simp; omega, fun x hx => List.all_eq_true.1 ho x hx, fun j hj => ?_, fun j x hx => ?_⟩
  · obtain ⟨y, hy⟩ : ∃ y, (ys ++ extra)[j]? = some y := ⟨(ys ++ extra)[j], by simp [List.getElem?_eq_getElem hj]⟩
    refine ⟨y, hcell j y hy, ?_, fun hle => ?_, ?_⟩
    · simp only [World.frozen?, hw, Bool.and_eq_false_iff, decide_eq_false_iff_not]
      rcases hfz with h1 | h1
      · by_cases h2 : fz.1 ≤ j
        · right; omega
        · left; exact h2
      · left; omega
    · rw [List.getElem?_append_right (by omega)] at hy
      exact hx y (List.mem_of_getElem? hy)
    · refine ⟨_, e, fz.1, fz.2, hw, hfz, by simp, hmk.imp_right fun h1 => ⟨e, (ys ++ extra).length, by simp [World.shape?, hw], ?_⟩⟩
      simp only [World.frozen?, hw, Bool.and_eq_false_iff, decide_eq_false_iff_not]
      by_cases h2 : fz.1 ≤ (ys ++ extra).length
      · right; omega
      · left; exact h2
  · obtain ⟨y, hy, hr⟩ := h.get hx
    exact ⟨y, hcell j y (by rw [List.getElem?_append_left (by rw [← hl]; exact (List.getElem?_eq_some_iff.1 hx).1)]; exact hy), hr.mono he⟩

theorem below_alloc (B0 : Nat) (w : World) (o : Obj) (h : B0 ≤ w.heap.size) : Below B0 w (w.alloc o) := (Below.refl _ _).alloc h o
theorem below_drew (B0 : Nat) (w : World) : Below B0 w w.drew := ⟨rfl, rfl, rfl, Nat.le_refl _, fun _ _ => rfl⟩

theorem post_row (hs : Sep B0 M σ w) (ho : ∀ (r : Nat) o, N r → σ[r]? = some o → ObjRel M w o) (hf : Fr M σ p c)
    {xs : List V} {ys : List Value} {e : TypeId} {fz : Nat × Nat} (h : RelL M w xs ys) (h1 : xs.all V.one = true) (extra : List Value) (w0 : World) (hw0 : w0.heap = w.heap) (hb0 : Below B0 w w0)
    (hfz : fz.1 = fz.2) (hx : ∀ y ∈ extra, (ofVal1 y).one = true) :
    ∃ M', M'.m (c :: p) = some (w.heap.size, (ys ++ extra).length) ∧ Post B0 N W p M M' σ (σ ++ [.cells (c :: p) xs]) c w (w0.alloc (.cells (ys ++ extra).toArray e fz)) := by
  have hnew : (w0.alloc (.cells (ys ++ extra).toArray e fz)).heap[w.heap.size]? = some (.cells (ys ++ extra).toArray e fz) := by
    rw [← hw0]; exact heap_alloc_new _ _
  exact Post.alloc hs ho hf (.cells (c :: p) xs) _ rfl (by simp [hw0]) (fun b hb => by rw [heap_alloc_old _ _ (by rw [hw0]; exact hb), hw0])
    (hb0.trans (below_alloc _ _ _ (by rw [hw0]; exact hs.base))) (obj_new h h1 extra hnew (.inl hfz) hx (.inr (Nat.le_of_eq hfz.symm)))

theorem Post.shorter {x : O} (h : Post B0 N W p M M' σ (σ ++ [x]) c w w') : Post B0 N W p M M' σ σ c w w' := by
  have up : ∀ (r : Nat) o, σ[r]? = some o → (σ ++ [x])[r]? = some o := fun r o hr => by
    rw [List.getElem?_append_left (List.getElem?_eq_some_iff.1 hr).1]; exact hr
  exact ⟨h.ext, ⟨fun r r' o o' st st' b n n' e1 e2 => h.sep.apart r r' o o' st st' b n n' (up r o e1) (up r' o' e2), fun r o st b n e1 => h.sep.live r o st b n (up r o e1), h.sep.lt, h.sep.flt, h.sep.base⟩,
    fun r o hr e => h.obj r o hr (up r o e), fun _ _ _ => rfl, h.blocks, Nat.le_refl _, h.names, fun r o st e => h.onames r o st (up r o e)⟩

/-! Cells written. -/
theorem setCells_heap (b : Nat) : ∀ (vs : List Value) (o : Nat) (w : World) (k : Nat), k ≠ b → (w.setCells b o vs).heap[k]? = w.heap[k]?
  | [], _, _, _, _ => rfl
  | v :: vs, o, w, k, h => by
    rw [World.setCells, setCells_heap b vs (o + 1) _ k h]
    exact Below.heap_setCell _ _ _ _ (by simpa using h)
theorem setCells_size (b : Nat) : ∀ (vs : List Value) (o : Nat) (w : World), (w.setCells b o vs).heap.size = w.heap.size
  | [], _, _ => rfl
  | v :: vs, o, w => by rw [World.setCells, setCells_size b vs (o + 1)]; simp
theorem setCells_below (B0 b : Nat) (hb : B0 ≤ b) : ∀ (vs : List Value) (o : Nat) (w : World), Below B0 w (w.setCells b o vs)
  | [], _, _ => Below.refl _ _
  | v :: vs, o, w => by
    rw [World.setCells]
    exact ((Below.refl B0 w).setCell hb v).trans (setCells_below B0 b hb vs (o + 1) _)
theorem setCells_frozen (b : Nat) (a : Addr) : ∀ (vs : List Value) (o : Nat) (w : World), (w.setCells b o vs).frozen? a = w.frozen? a
  | [], _, _ => rfl
  | v :: vs, o, w => by rw [World.setCells, setCells_frozen b a vs (o + 1)]; simp
theorem setCell_shape (w : World) (a : Addr) (v : Value) (k : Nat) : (w.setCell a v).shape? k = w.shape? k := by
  unfold World.shape? World.setCell
  simp only [Array.getElem?_modify]
  by_cases hk : a.block = k
  · subst hk
    rw [if_pos rfl]
    cases h : w.heap[a.block]? with
    | none => rfl
    | some o => cases o <;> simp <;> (split <;> simp)
  · rw [if_neg hk]
theorem setCells_shape (b : Nat) (k : Nat) : ∀ (vs : List Value) (o : Nat) (w : World), (w.setCells b o vs).shape? k = w.shape? k
  | [], _, _ => rfl
  | v :: vs, o, w => by rw [World.setCells, setCells_shape b k vs (o + 1), setCell_shape]
theorem setCells_unmarked (b : Nat) (k : Nat) (vs : List Value) (o : Nat) (w : World) : unmarked (w.setCells b o vs) k = unmarked w k := by
  simp only [unmarked, setCells_shape, setCells_frozen]
theorem setCells_size2 (b : Nat) (k n : Nat) : ∀ (vs : List Value) (o : Nat) (w : World), (∃ c e lo hi, (w.setCells b o vs).heap[k]? = some (.cells c e (lo, hi)) ∧ (lo = hi ∨ n ≤ lo) ∧ n ≤ c.size) ↔ ∃ c e lo hi, w.heap[k]? = some (.cells c e (lo, hi)) ∧ (lo = hi ∨ n ≤ lo) ∧ n ≤ c.size
  | [], _, _ => Iff.rfl
  | v :: vs, o, w => by
    rw [World.setCells, setCells_size2 b k n vs (o + 1)]
    unfold World.setCell
    simp only [Array.getElem?_modify]
    by_cases hk : b = k
    · subst hk
      rw [if_pos rfl]
      cases h : w.heap[b]? with
      | none => simp
      | some ob =>
        cases ob with
        | cells c e fz =>
          obtain ⟨lo, hi⟩ := fz
          simp only [Option.map_some, Option.some.injEq, Obj.cells.injEq, Prod.mk.injEq]
          constructor
          · rintro ⟨_, _, _, _, ⟨rfl, rfl, rfl, rfl⟩, h1, h2⟩
            exact ⟨_, _, _, _, ⟨rfl, rfl, rfl, rfl⟩, h1, by simpa using h2⟩
          · rintro ⟨_, _, _, _, ⟨rfl, rfl, rfl, rfl⟩, h1, h2⟩
            exact ⟨_, _, _, _, ⟨rfl, rfl, rfl, rfl⟩, h1, by simpa using h2⟩
        | _ => simp
    · rw [if_neg hk]
theorem okMark_iff {w : World} {b n : Nat} : okMark w b n ↔ (∃ c e lo hi, w.heap[b]? = some (.cells c e (lo, hi)) ∧ (lo = hi ∨ n ≤ lo) ∧ n ≤ c.size) ∧ (marks = true ∨ unmarked w b) :=
  ⟨fun ⟨c, e, lo, hi, h1, h2, h3, h4⟩ => ⟨⟨c, e, lo, hi, h1, h2, h3⟩, h4⟩, fun ⟨⟨c, e, lo, hi, h1, h2, h3⟩, h4⟩ => ⟨c, e, lo, hi, h1, h2, h3, h4⟩⟩
theorem setCells_okMark (b : Nat) (k n : Nat) (vs : List Value) (o : Nat) (w : World) : okMark (w.setCells b o vs) k n = okMark w k n := by
  rw [propext okMark_iff, propext okMark_iff, setCells_unmarked, propext (setCells_size2 b k n vs o w)]
theorem setCells_cell (b : Nat) : ∀ (vs : List Value) (o : Nat) (w : World) (j : Nat), (∀ i, i < vs.length → (w.cell? ⟨b, o + i, none⟩).isSome = true) →
    (w.setCells b o vs).cell? ⟨b, j, none⟩ = if o ≤ j ∧ j < o + vs.length then vs[j - o]? else w.cell? ⟨b, j, none⟩
  | [], o, w, j, h => by simp [World.setCells]; omega
  | v :: vs, o, w, j, h => by
    rw [World.setCells, setCells_cell b vs (o + 1) _ j]
    · by_cases hj : j = o
      · subst hj
        rw [if_neg (by omega), if_pos (by simp)]
        obtain ⟨u, hu⟩ := Option.isSome_iff_exists.1 (h 0 (by simp))
        simp only [Nat.add_zero] at hu
        rw [World.cell?_setCell_same _ _ _ hu]
        simp
      · by_cases hr : o + 1 ≤ j ∧ j < o + 1 + vs.length
        · rw [if_pos hr, if_pos (by simp only [List.length_cons]; omega)]
          rw [show j - o = (j - (o + 1)) + 1 by omega]
          simp
        · rw [if_neg hr, if_neg (by simp only [List.length_cons]; omega)]
          rw [World.cell?_setCell_other _ _ _ _ (by intro e; injection e; omega)]
    · intro i hi
      rw [World.cell?_setCell_other _ _ _ _ (by intro e; injection e; omega)]
      have := h (i + 1) (by simp; omega)
      rwa [show o + (i + 1) = o + 1 + i by omega] at this

theorem rowAt_some {r : Nat} {st : List Nat} {cs : List V} (h : rowAt σ r st = some cs) : σ[r]? = some (.cells st cs) := by
  unfold rowAt at h
  split at h
  · rename_i st' cs' hσ
    split at h
    · rename_i e; subst e; simp at h; subst h; exact hσ
    · simp at h
  · simp at h

theorem splice_get {cs xs : List V} {off j : Nat} (h : off + xs.length ≤ cs.length) : (splice cs off xs)[j]? = if off ≤ j ∧ j < off + xs.length then xs[j - off]? else cs[j]? := by
  unfold splice
  by_cases h1 : j < off
  · rw [List.append_assoc, List.getElem?_append_left (by simp; omega), if_neg (by omega), List.getElem?_take, if_pos h1]
  · by_cases h2 : j < off + xs.length
    · rw [if_pos (by omega), List.append_assoc, List.getElem?_append_right (by simp; omega), List.getElem?_append_left (by simp; omega)]
      congr 1; simp; omega
    · rw [if_neg (by omega), List.getElem?_append_right (by simp; omega), List.getElem?_drop]
      congr 1; simp; try omega
theorem splice_length {cs xs : List V} {off : Nat} (h : off + xs.length ≤ cs.length) : (splice cs off xs).length = cs.length := by
  unfold splice; simp; omega
theorem splice_mem {cs xs : List V} {off : Nat} {x : V} (h : x ∈ splice cs off xs) : x ∈ cs ∨ x ∈ xs := by
  unfold splice at h
  simp only [List.mem_append] at h
  rcases h with (h | h) | h
  · exact .inl (List.mem_of_mem_take h)
  · exact .inr h
  · exact .inl (List.mem_of_mem_drop h)

theorem write_sound (hs : Sep B0 M σ w) (ho : ∀ (r : Nat) o, N r → σ[r]? = some o → ObjRel M w o) {r : Nat} {st : List Nat} {b n off : Nat} {cs xs : List V} {ys : List Value}
    (hrow : σ[r]? = some (.cells st cs)) (hm : M.m st = some (b, n)) (hN : N r) (hW : W r) (hx : RelL M w xs ys) (h1 : ∀ x ∈ xs, x.one = true) (hfit : off + xs.length ≤ cs.length) :
    ∃ w', (storeCells ⟨b, off, none⟩ ys).run C.P w = .ok () w' ∧ Post B0 N W p M M σ (σ.set r (.cells st (splice cs off xs))) c w w' := by
  obtain ⟨g1, g2, g3, g4⟩ := ho r _ hN hrow b n hm
  have hl := hx.length
  have hys : ∀ y ∈ ys, y.oneCell' = true := by
    intro y hy
    rw [List.mem_iff_getElem?] at hy
    obtain ⟨j, hj⟩ := hy
    obtain ⟨x, hxj⟩ : ∃ x, xs[j]? = some x := ⟨xs[j]'(by rw [hl]; exact (List.getElem?_eq_some_iff.1 hj).1), by simp⟩
    obtain ⟨y', hy', hr⟩ := hx.get hxj
    rw [hj] at hy'; cases hy'
    exact hr.oneCell (h1 x (List.mem_of_getElem? hxj))
  have hsome : ∀ i, i < ys.length → (w.cell? ⟨b, off + i, none⟩).isSome = true := fun i hi => by
    obtain ⟨y, hy, _⟩ := g3 (off + i) (by omega)
    simp [hy]
  have hrun := run_storeCells_cells (P := C.P) b off ys 0 w (fun j hj => hsome j hj) (fun j hj => by obtain ⟨y, _, hy, _⟩ := g3 (off + j) (by omega); exact hy) hys
  simp only [Nat.add_zero] at hrun
  refine ⟨_, hrun, Post.write hs ho r _ _ st b n hrow rfl rfl hm hW (setCells_size _ _ _ _) (fun k hk => setCells_heap _ _ _ _ _ hk) (setCells_below _ _ (hs.lt _ _ _ hm).2 _ _ _) (fun e => ?_)⟩
  intro b' n' hm'
  rw [hm] at hm'; cases hm'
  refine ⟨by rw [splice_length hfit]; exact g1, fun x hx' => (splice_mem hx').elim (g2 x) (h1 x), fun j hj => ?_, fun j x hj => ?_⟩
  · obtain ⟨y, hy, hf, h5, h6⟩ := g3 j hj
    rw [setCells_frozen, setCells_cell _ _ _ _ _ hsome, setCells_okMark, splice_length hfit]
    by_cases hr : off ≤ j ∧ j < off + ys.length
    · rw [if_pos hr]; exact ⟨ys[j - off]'(by omega), by simp, hf, fun hle => absurd hr.2 (by omega), h6⟩
    · rw [if_neg hr]; exact ⟨y, hy, hf, h5, h6⟩
  · rw [splice_get hfit] at hj
    rw [setCells_cell _ _ _ _ _ hsome, ← hl]
    by_cases hr : off ≤ j ∧ j < off + xs.length
    · rw [if_pos hr] at hj ⊢
      obtain ⟨y, hy, hr'⟩ := hx.get hj
      exact ⟨y, hy, hr'.mono e⟩
    · rw [if_neg hr] at hj ⊢
      obtain ⟨y, hy, hr'⟩ := g4 j x hj
      exact ⟨y, hy, hr'.mono e⟩

theorem store_sound (hs : Sep B0 M σ w) (ho : ∀ (r : Nat) o, N r → σ[r]? = some o → ObjRel M w o) {t : TypeId} {a x : V} {ya yx : Value} (h : storeA C t σ a x = some σ')
    (ha : Rel M w a ya) (hx : Rel M w x yx) (hN : ∀ r st off, a = .ptr r st off → N r ∧ W r) :
    ∃ w', (Instr.storeAt t ya yx).run C.P w = .ok () w' ∧ Post B0 N W p M M σ σ' c w w' := by
  unfold storeA at h
  split at h
  · rename_i r st off
    simp only [Option.bind_eq_some_iff] at h
    obtain ⟨cs, hcs, n, hn, h⟩ := h
    split at h
    · rename_i hl
      split at h
      · rename_i hfit
        split at h
        · rename_i hall
          simp at h; subst h
          cases ha
          rename_i b nn hm
          have hc := hx.cells hall
          have hlen := hc.length
          obtain ⟨hN1, hW1⟩ := hN _ _ _ rfl
          obtain ⟨w', hw', hp⟩ := write_sound (C := C) (p := p) (c := c) hs ho (off := off) (rowAt_some hcs) hm hN1 hW1 hc (fun x hx => List.all_eq_true.1 hall x hx) (by omega)
          refine ⟨w', ?_, hp⟩
          have hsz : yx.cells.size = n := by rw [← Array.length_toList, ← hlen, hl]
          simp [Instr.storeAt, Instr.sureAddr, storeVar, run_size hn, hsz, hw']
        · simp at h
      · simp at h
    · simp at h
  · simp at h
end
end Go.Am
