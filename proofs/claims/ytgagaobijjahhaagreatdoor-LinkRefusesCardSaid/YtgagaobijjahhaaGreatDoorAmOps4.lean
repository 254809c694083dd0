/- Each operation of the abstract machine is what the model's does: what makes and writes rows. -/
import Derived.Test.YtgagaobijjahhaaGreatDoorAmOps3
import Derived.Laws.Append
import Derived.Laws.MakeOwn
import Derived.Lib.ConvBytes
namespace Go.Am
open Go.RowKit
set_option linter.unusedVariables false
set_option linter.unusedSimpArgs false

section
variable {C : Cfg} {M M' : Mp} {w w' : World} {B0 : Nat} {N W : Nat → Prop} {p : List Nat} {σ σ' : List O} {c : Nat}

theorem size_info {t : TypeId} {n : Nat} (h : C.size t = some n) : ∃ i, C.P.info? t = some i ∧ i.size = n ∧ i.bytes = C.bytes t := by
  simp only [Cfg.size, Option.map_eq_some_iff] at h
  obtain ⟨i, hi, rfl⟩ := h
  exact ⟨i, hi, rfl, by simp [Cfg.bytes, hi]⟩
theorem elem_some {t e z : Nat} {zv : V} (h : C.elem t = some (e, z, zv)) : C.P.underlying t = some (.slice e) ∧ z ≠ 0 ∧ zv.cells.length = z ∧ C.bytes e ≠ 0 ∧ zv.cells.all V.one = true ∧
    ∃ i y, C.P.info? e = some i ∧ i.size = z ∧ i.bytes = C.bytes e ∧ i.zero = some y ∧ zv = ofVal y := by
  unfold Cfg.elem at h
  split at h
  · rename_i e' hs
    simp only [Option.bind_eq_some_iff] at h
    obtain ⟨z', hz, zv', hzv, h⟩ := h
    split at h
    · rename_i hh
      simp at h
      obtain ⟨rfl, rfl, rfl⟩ := h
      obtain ⟨i, hi, h1, h2⟩ := size_info hz
      simp only [Cfg.zero, Option.bind_eq_some_iff, Option.map_eq_some_iff, hi, Option.some.injEq] at hzv
      obtain ⟨z'', ⟨y, ⟨i', hi', hy⟩, rfl⟩, hone⟩ := hzv
      subst hi'
      split at hone
      · rename_i hall
        simp at hone; subst hone
        exact ⟨shape_slice hs, hh.1, hh.2.1, hh.2.2, hall, i, y, hi, h1, h2, hy, rfl⟩
      · simp at hone
    · simp at h
  · simp at h

theorem run_lenOf {x : V} {y : Value} {z n : Nat} {xs : List V} (h : elems z σ x = some (n, xs)) (hr : Rel M w x y) : (Builtin.lenOf y).run C.P w = .ok n w := by
  cases hr <;> simp only [elems, reduceCtorEq, Option.some.injEq, Prod.mk.injEq, Option.map_eq_some_iff] at h
  · split at h
    · simp at h; simp [Builtin.lenOf, h.1]
    · simp at h
  · simp [Builtin.lenOf, h.1]
  · split at h
    · simp only [Option.bind_eq_some_iff, Option.map_eq_some_iff, Prod.mk.injEq] at h
      obtain ⟨_, _, _, _, rfl, _⟩ := h; simp [Builtin.lenOf]
    · simp at h
  · obtain ⟨_, _, rfl, _⟩ := h; simp [Builtin.lenOf]

theorem run_firstCells {x : V} {y : Value} {z n m : Nat} {xs : List V} (h : elems z σ x = some (n, xs)) (hr : Rel M w x y) (hm : m ≤ n)
    (ho : ∀ r st off len es cap, x = .sl r st off len es cap → ∀ o, σ[r]? = some o → ObjRel M w o) :
    xs.length = n * z ∧ (∀ v ∈ xs, v.one = true) ∧ ∃ ys : List Value, (Builtin.firstCells z m y).run C.P w = .ok ys.toArray w ∧ RelL M w (xs.take (m * z)) ys := by
  have hmz : m * z ≤ n * z := Nat.mul_le_mul_right _ hm
  have gen : ∀ a : Addr, xs.length = n * z → (∀ (j : Nat) q, xs[j]? = some q → ∃ u, w.cell? (a.add j) = some u ∧ Rel M w q u) → ∀ len k, ∃ ys : List Value, (Builtin.firstCells z m (.slice (some a) len k)).run C.P w = .ok ys.toArray w ∧ RelL M w (xs.take (m * z)) ys := by
    intro a hl hc len k
    obtain ⟨ys, g1, g2, g3⟩ := run_cells (C := C) (M := M) (w := w) (xs := xs.take (m * z)) (a := a) (fun j q hq => by
      rw [List.getElem?_take] at hq
      split at hq
      · exact hc j q hq
      · simp at hq)
    refine ⟨ys, ?_, g2⟩
    have : (xs.take (m * z)).length = m * z := by simp; omega
    rw [this] at g1
    simpa [Builtin.firstCells] using g1
  cases x <;> simp only [elems, reduceCtorEq, Option.some.injEq, Prod.mk.injEq, Option.map_eq_some_iff] at h
  · rename_i s
    split at h
    · rename_i hz
      subst hz
      simp at h
      obtain ⟨rfl, rfl⟩ := h
      rw [hr.s_inv]
      have hmem : ∀ v ∈ u8s s, ∃ n, v = .i .u8 n := by
        intro v hv
        rw [u8s, List.mem_map] at hv
        obtain ⟨b, _, rfl⟩ := hv
        exact ⟨_, rfl⟩
      have hlen : (u8s s).length = s.size := by rw [u8s, List.length_map, Array.length_toList]; rfl
      refine ⟨by rw [hlen, Nat.mul_one], fun v hv => by obtain ⟨n, rfl⟩ := hmem v hv; rfl, ((u8s s).take (m * 1)).map (fun | .i k n => .int k n | _ => .bool true), ?_, ?_⟩
      · simp only [Builtin.firstCells, Nat.mul_one, Sem.run_pure]
        congr 1
        apply Array.ext'
        rw [Array.toList_map, ByteArray.data_extract, Array.toList_extract, u8s, ← List.map_take, List.map_map]
        simp only [List.extract_eq_take_drop, Nat.sub_zero, List.drop_zero]
        rfl
      · refine RelL.of_get (by simp) fun j q u hq hu => ?_
        rw [List.getElem?_map, hq] at hu
        simp at hu; subst hu
        obtain ⟨n, rfl⟩ := hmem _ (List.mem_of_mem_take (List.mem_of_getElem? hq))
        exact .i _ _
    · simp at h
  · obtain ⟨rfl, rfl⟩ := h
    rw [hr.nils_inv]
    exact ⟨by simp, by simp, [], by simp [Builtin.firstCells], by simpa using RelL.nil⟩
  · rename_i r st o n' es cap
    split at h
    · rename_i hz
      subst hz
      simp only [Option.bind_eq_some_iff, Option.map_eq_some_iff, Prod.mk.injEq] at h
      obtain ⟨cs, hcs, l, hl, rfl, rfl⟩ := h
      obtain ⟨b, nn, k, hM, rfl, _⟩ := hr.sl_inv
      obtain ⟨g1, g2, g3, g4⟩ := ho _ _ _ _ _ _ rfl _ (rowAt_some hcs) b nn hM
      obtain ⟨e1, e2, e3⟩ := take?_some hl
      refine ⟨e2, fun v hv => g2 v (by rw [e1] at hv; exact List.mem_of_mem_drop (List.mem_of_mem_take hv)), gen _ e2 (fun j q hq => ?_) _ _⟩
      obtain ⟨u, hu, hq'⟩ := g4 _ q (e3 j q hq)
      exact ⟨u, by rw [add_off]; exact hu, hq'⟩
    · simp at h
  · rename_i cs n' clip
    obtain ⟨l, hl, rfl, rfl⟩ := h
    obtain ⟨a, vs, k, rfl, hF, h1, hrl, hc, _, _⟩ := hr.arr_inv
    obtain ⟨e1, e2, e3⟩ := take?_some hl
    refine ⟨e2, fun v hv => h1 v (by rw [e1] at hv; exact List.mem_of_mem_drop (List.mem_of_mem_take hv)), gen _ e2 (fun j q hq => ?_) _ _⟩
    have hq' := e3 j q hq
    simp only [Nat.zero_add] at hq'
    obtain ⟨u, hu, hr'⟩ := hrl.get hq'
    exact ⟨u, hc j u hu, hr'⟩

theorem flat_get {k z j : Nat} {zs : List V} (hz : zs.length = z) (h0 : z ≠ 0) (hj : j < k * z) : (List.replicate k zs).flatten[j]? = zs[j % z]? := by
  induction k generalizing j with
  | zero => simp at hj
  | succ k ih =>
    rw [List.replicate_succ, List.flatten_cons]
    by_cases h : j < z
    · rw [List.getElem?_append_left (by omega), Nat.mod_eq_of_lt h]
    · rw [List.getElem?_append_right (by omega), hz, ih (by rw [Nat.succ_mul] at hj; omega)]
      congr 1
      exact (Nat.mod_eq_sub_mod (by omega)).symm
theorem flat_len {k z : Nat} {zs : List V} (hz : zs.length = z) : (List.replicate k zs).flatten.length = k * z := by simp [hz]
theorem flat_one {k : Nat} {zs : List V} (h : zs.all V.one = true) : (List.replicate k zs).flatten.all V.one = true := by
  rw [List.all_eq_true] at h ⊢
  intro x hx
  rw [List.mem_flatten] at hx
  obtain ⟨l, hl, hx⟩ := hx
  rw [List.mem_replicate] at hl
  rw [hl.2] at hx
  exact h x hx
theorem rel_made {k z : Nat} {y : Value} (hl : (ofVal y).cells.length = z) (h0 : z ≠ 0) (h1 : (ofVal y).cells.all V.one = true) :
    RelL M w (List.replicate k (ofVal y).cells).flatten (madeCells y.cells (k * z)).toList := by
  have hr := (rel_ofVal (M := M) (w := w) y).cells h1
  have hlen := hr.length
  refine RelL.of_get (by rw [flat_len hl]; simp [size_madeCells]) fun j x u hx hu => ?_
  have hj : j < k * z := by
    have := (List.getElem?_eq_some_iff.1 hx).1
    rwa [flat_len hl] at this
  rw [flat_get hl h0 hj] at hx
  obtain ⟨u', hu', hrel⟩ := hr.get hx
  have hsz : y.cells.size = z := by rw [← Array.length_toList, ← hlen, hl]
  simp only [madeCells, hsz] at hu
  simp [hj] at hu
  subst hu
  rw [Array.getElem?_toList] at hu'
  rw [getElem!_def, hu']
  exact hrel

theorem makeSlice_sound (hs : Sep B0 M σ w) (ho : ∀ (r : Nat) o, N r → σ[r]? = some o → ObjRel M w o) (hf : Fr M σ p c) {t : Nat} {l k v : V} {yl yk : Value}
    (h : makeSliceA C t l k σ (c :: p) = some (v, σ')) (hl : Rel M w l yl) (hk : Rel M w k yk) :
    ∃ u w' M', (Instr.makeSlice t yl yk).run C.P w = .ok u w' ∧ Rel M' w' v u ∧ Post B0 N W p M M' σ σ' c w w' := by
  unfold makeSliceA at h
  split at h
  · rename_i n q
    simp only [Option.bind_eq_some_iff] at h
    obtain ⟨⟨e, z, zv⟩, he, h⟩ := h
    obtain ⟨hu, hz0, hzl, hb, hone, i, y, hi, hsz, hby, hzy, rfl⟩ := elem_some he
    split at h
    · rename_i h0
      split at h
      · rename_i hnq
        split at h
        · rename_i hbig
          simp at h
          obtain ⟨rfl, rfl⟩ := h
          rw [hl.i_inv, hk.i_inv]
          have hroom : q.toNat * C.bytes e ≤ 140737488355328 := by simpa [roomy] using hbig.2
          have hrun := run_make (P := C.P) w t e i y hu hi hzy .i64 .i64 n q h0 hnq (by
            rw [hby]
            have : (C.bytes e : Int) * q = ((q.toNat * C.bytes e : Nat) : Int) := by
              rw [Int.natCast_mul, Int.mul_comm, Int.toNat_of_nonneg (by omega)]
            rw [this]; omega) hbig.1
          rw [hsz] at hrun
          have hrel := rel_made (M := M) (w := w) (k := q.toNat) hzl hz0 hone
          obtain ⟨M', hM', hp⟩ := post_row (N := N) (W := W) (p := p) (e := e) (fz := (0, 0)) hs ho hf hrel (flat_one hone) [] w rfl (Below.refl _ _) rfl (fun y h => by cases h)
          simp only [List.append_nil, Array.toArray_toList] at hM' hp
          refine ⟨_, _, M', hrun, ?_, hp⟩
          refine .sl _ _ _ _ _ _ w.heap.size _ q.toNat hM' (by omega) (fun e => by cases e) (fun c' e => by injection e)
        · simp at h
      · simp at h
    · simp at h
  · simp at h
end
end Go.Am
