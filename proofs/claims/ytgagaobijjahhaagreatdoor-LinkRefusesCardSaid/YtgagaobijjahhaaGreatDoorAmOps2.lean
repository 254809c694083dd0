/- Each operation of the abstract machine is what the model's does: addresses, indexes, slices. -/
import Derived.Test.YtgagaobijjahhaaGreatDoorAmOps
namespace Go.Am
open Go.RowKit
set_option linter.unusedVariables false
set_option linter.unusedSimpArgs false

section
variable {C : Cfg} {M M' : Mp} {w w' : World} {B0 : Nat} {N W : Nat → Prop} {p : List Nat} {σ σ' : List O} {c : Nat}

theorem shape_slice {t e : TypeId} (h : C.shape t = .slice e) : C.P.underlying t = some (.slice e) := by
  unfold Cfg.shape at h; split at h <;> simp_all
  split at h <;> simp_all
theorem shape_array {t n e : Nat} (h : C.shape t = .array n e) : C.P.underlying t = some (.array n e) := by
  unfold Cfg.shape at h; split at h <;> simp_all
  split at h <;> simp_all
theorem shape_string {t : TypeId} (h : C.shape t = .string) : C.P.underlying t = some .string := by
  unfold Cfg.shape at h; split at h <;> simp_all
  split at h <;> simp_all
theorem shape_map {t k e : TypeId} (h : C.shape t = .map k e) : C.P.underlying t = some (.map k e) := by
  unfold Cfg.shape at h; split at h <;> simp_all
  split at h <;> simp_all
theorem shape_int {t : TypeId} {k : IntKind} (h : C.shape t = .int k) : C.P.underlying t = some (.int k) := by
  unfold Cfg.shape at h; split at h <;> simp_all
  split at h <;> simp_all
theorem shape_ptrArray {t n e : Nat} (h : C.shape t = .ptrArray n e) : ∃ a, C.P.underlying t = some (.pointer a) ∧ C.P.underlying a = some (.array n e) := by
  unfold Cfg.shape at h; split at h <;> simp_all
  split at h <;> simp_all

theorem RelL.single_cells {cs : List V} {vs : List Value} (h : RelL M w cs vs) (n : Nat) (a : Addr) (hc : ∀ j y, vs[j]? = some y → w.cell? (a.add j) = some y) :
    ∀ j y, (vs.drop n)[j]? = some y → w.cell? ((a.add n).add j) = some y := by
  intro j y hy
  rw [List.getElem?_drop] at hy
  rw [add_add]; exact hc _ y hy

theorem field_some {t f off ty : Nat} (h : C.field t f = some (off, ty)) : ∃ fs fd, C.P.underlying t = some (.struct fs) ∧ fs[f]? = some fd ∧ fd.offset = off ∧ fd.type = ty := by
  unfold Cfg.field at h
  split at h
  · rename_i fs hu
    simp only [Option.map_eq_some_iff, Prod.mk.injEq] at h
    obtain ⟨fd, h1, h2, h3⟩ := h
    exact ⟨fs, fd, hu, h1, h2, h3⟩
  · simp at h

theorem fieldAddr_sound {s f : Nat} {a v : V} {ya : Value} (h : fieldAddrA C s a f = some v) (ha : Rel M w a ya) : ∃ u, (Instr.fieldAt s ya f).run C.P w = .ok u w ∧ Rel M w v u := by
  simp only [fieldAddrA, Option.bind_eq_some_iff] at h
  obtain ⟨⟨off, ty⟩, hf, z, hz, h⟩ := h
  obtain ⟨fs, fd, hu, hfd, rfl, rfl⟩ := field_some hf
  have hz' : z ≠ 0 := by rintro rfl; simp at h
  simp only [if_neg hz'] at h
  have key : ∀ ad : Addr, (Instr.fieldAt s (.pointer (some ad)) f).run C.P w = .ok (.pointer (some (ad.add fd.offset))) w := fun ad => by
    simp [Instr.fieldAt, run_under hu, hfd, Instr.sureAddr, fieldPlace, run_size hz, hz']
  cases ha <;> simp at h
  · rename_i r st o b n hm
    subst h
    refine ⟨_, key _, ?_⟩
    rw [add_off]; exact .ptr _ _ _ _ n hm
  · rename_i cs ad vs hF h1 hr hc
    obtain ⟨hle, rfl⟩ := h
    refine ⟨_, key _, .iptr _ _ (vs.drop fd.offset) ?_ (fun x hx => h1 x (List.mem_of_mem_drop hx)) (hr.drop _) (hr.single_cells _ _ hc)⟩
    intro hne
    rw [add_block]
    exact hF (by rintro rfl; simp at hne)

theorem idx_some {ix : V} {n i : Nat} {y : Value} (h : idx ix n = some i) (hr : Rel M w ix y) : ∃ k z, y = .int k z ∧ 0 ≤ z ∧ z < n ∧ z.toNat = i := by
  cases hr <;> simp [idx] at h
  rename_i k z
  exact ⟨k, z, rfl, h.1, h.2.1, h.2.2⟩

theorem indexAddr_sound {t : Nat} {x ix v : V} {yx yi : Value} (h : indexAddrA C t x ix = some v) (hx : Rel M w x yx) (hi : Rel M w ix yi) : ∃ u, (Instr.indexAt t yx yi).run C.P w = .ok u w ∧ Rel M w v u := by
  unfold indexAddrA at h
  split at h <;> simp only [Option.bind_eq_some_iff, reduceCtorEq] at h
  · rename_i n e r st o hs
    obtain ⟨z, hz, i, hi', h⟩ := h
    obtain ⟨k, q, rfl, q0, q1, rfl⟩ := idx_some hi' hi
    split at h
    · simp at h
    · simp at h; subst h
      obtain ⟨b, nn, hm, rfl⟩ := hx.ptr_inv
      refine ⟨.pointer (some ⟨b, o + q.toNat * z, none⟩), ?_, .ptr _ _ _ _ nn hm⟩
      simp [Instr.indexAt, asIntOf, run_under (shape_array hs), Instr.sureAddr, q0, q1, run_size hz, add_off]
  · rename_i n e cs hs
    obtain ⟨z, hz, i, hi', h⟩ := h
    obtain ⟨k, q, rfl, q0, q1, rfl⟩ := idx_some hi' hi
    split at h
    · simp at h
    · simp at h; subst h
      obtain ⟨a, vs, rfl, hF, h1, hr, hc⟩ := hx.iptr_inv
      refine ⟨.pointer (some (a.add (q.toNat * z))), ?_, .iptr _ _ (vs.drop (q.toNat * z)) (fun hne => by rw [add_block]; exact hF (by rintro rfl; simp at hne)) (fun x hx => h1 x (List.mem_of_mem_drop hx)) (hr.drop _) (hr.single_cells _ _ hc)⟩
      simp [Instr.indexAt, asIntOf, run_under (shape_array hs), Instr.sureAddr, q0, q1, run_size hz]
  · rename_i e r st o n es cap hs
    obtain ⟨z, hz, i, hi', h⟩ := h
    obtain ⟨k, q, rfl, q0, q1, rfl⟩ := idx_some hi' hi
    split at h
    · simp at h
    · simp at h; subst h
      obtain ⟨b, nn, kk, hm, rfl, _, _, _⟩ := hx.sl_inv
      refine ⟨.pointer (some ⟨b, o + q.toNat * z, none⟩), ?_, .ptr _ _ _ _ nn hm⟩
      simp [Instr.indexAt, asIntOf, run_under (shape_slice hs), q0, q1, run_size hz, add_off]
  · rename_i e cs n cl hs
    obtain ⟨z, hz, i, hi', h⟩ := h
    obtain ⟨k, q, rfl, q0, q1, rfl⟩ := idx_some hi' hi
    split at h
    · simp at h
    · simp at h; subst h
      obtain ⟨a, vs, kk, rfl, hF, h1, hr, hc, _, _⟩ := hx.arr_inv
      refine ⟨.pointer (some (a.add (q.toNat * z))), ?_, .iptr _ _ (vs.drop (q.toNat * z)) (fun hne => by rw [add_block]; exact hF (by rintro rfl; simp at hne)) (fun x hx => h1 x (List.mem_of_mem_drop hx)) (hr.drop _) (hr.single_cells _ _ hc)⟩
      simp [Instr.indexAt, asIntOf, run_under (shape_slice hs), q0, q1, run_size hz]

theorem arrPtr_sound {t : Nat} {x v : V} {y : Value} (h : arrPtrA C t x = some v) (hx : Rel M w x y) : ∃ u, (Instr.arrayAt t y).run C.P w = .ok u w ∧ Rel M w v u := by
  unfold arrPtrA at h
  split at h
  · rename_i n e r st o k es cap hs
    split at h
    · rename_i hle
      simp at h; subst h
      obtain ⟨b, nn, kk, hm, rfl, _, _, _⟩ := hx.sl_inv
      exact ⟨_, by simp [Instr.arrayAt, run_under (shape_array hs), Nat.not_lt.2 hle], .ptr _ _ _ _ nn hm⟩
    · cases h
  · rename_i n e cs k cl hs
    split at h
    · rename_i hle
      simp at h; subst h
      obtain ⟨a, vs, kk, rfl, hF, h1, hr, hc, _, _⟩ := hx.arr_inv
      exact ⟨_, by simp [Instr.arrayAt, run_under (shape_array hs), Nat.not_lt.2 hle], .iptr _ _ vs hF h1 hr hc⟩
    · cases h
  · cases h
theorem part_sound {t off : Nat} {cs : List V} {vs : List Value} {v : V} (h : partA C t cs off = some v) (hr : RelL M w cs vs) (h1 : ∀ x ∈ cs, x.one = true) :
    ∃ u, (part t vs.toArray off).run C.P w = .ok u w ∧ Rel M w v u := by
  simp only [partA, Option.bind_eq_some_iff] at h
  obtain ⟨g, hg, h⟩ := h
  cases g with
  | true =>
    simp only [if_true, Option.bind_eq_some_iff, Option.map_eq_some_iff] at h
    obtain ⟨n, hn, l, hl, rfl⟩ := h
    obtain ⟨e1, e2, e3⟩ := take?_some hl
    subst e1
    refine ⟨.agg ((vs.drop off).take n).toArray, ?_, .agg _ _ (fun x hx => h1 x (List.mem_of_mem_drop (List.mem_of_mem_take hx))) ((hr.drop _).take _)⟩
    simp [part, run_isAgg hg, run_size hn, List.extract_eq_take_drop]
  | false =>
    simp only [Bool.false_eq_true, if_false] at h
    obtain ⟨u, hu, hr'⟩ := hr.get h
    exact ⟨u, by simp [part, run_isAgg hg, hu], hr'⟩

theorem field_sound {t f : Nat} {x v : V} {y : Value} (h : (match x with | .agg cs => (C.field t f).bind fun (off, ty) => partA C ty cs off | _ => none) = some v) (hr : Rel M w x y) :
    ∃ u, (Instr.field t y f).run C.P w = .ok u w ∧ Rel M w v u := by
  cases hr <;> simp only [reduceCtorEq, Option.bind_eq_some_iff] at h
  rename_i cs vs h1 hl
  obtain ⟨⟨off, ty⟩, hf, h⟩ := h
  obtain ⟨fs, fd, hu, hfd, rfl, rfl⟩ := field_some hf
  obtain ⟨u, hu', hr'⟩ := part_sound h hl h1
  exact ⟨u, by simp [Instr.field, run_under hu, hfd, asAgg, hu'], hr'⟩

theorem index_sound {t : Nat} {x ix v : V} {yx yi : Value} (h : indexA C t x ix = some v) (hx : Rel M w x yx) (hi : Rel M w ix yi) : ∃ u, (Instr.index t yx yi).run C.P w = .ok u w ∧ Rel M w v u := by
  unfold indexA at h
  split at h <;> simp only [Option.bind_eq_some_iff, Option.map_eq_some_iff, reduceCtorEq] at h
  · rename_i n e cs hs
    obtain ⟨z, hz, i, hi', h⟩ := h
    obtain ⟨k, q, rfl, q0, q1, rfl⟩ := idx_some hi' hi
    obtain ⟨vs, rfl, h1, hl⟩ := hx.agg_inv
    obtain ⟨u, hu, hr⟩ := part_sound h hl h1
    exact ⟨u, by simp [Instr.index, asIntOf, run_under (shape_array hs), q0, q1, run_size hz, hu], hr⟩
  · rename_i s hs
    obtain ⟨i, hi', b, hb, rfl⟩ := h
    obtain ⟨k, q, rfl, q0, q1, rfl⟩ := idx_some hi' hi
    cases hx
    exact ⟨_, by simp [Instr.index, asIntOf, run_under (shape_string hs), q0, hb], .i _ _⟩

/-! Bounds of slices. -/
inductive RelO (M : Mp) (w : World) : Option V → Option Value → Prop
  | none : RelO M w none none
  | some (v y) (h : Rel M w v y) : RelO M w (some v) (some y)
theorem bnd_some {x : Option V} {y : Option Value} {d lo hi k : Nat} (h : bnd x d lo hi = some k) (hr : RelO M w x y) :
    (x = none ∧ y = none ∧ k = d) ∨ ∃ kk z, y = some (.int kk z) ∧ (lo : Int) ≤ z ∧ z ≤ hi ∧ k = z.toNat := by
  cases hr with
  | none => simp [bnd] at h; exact .inl ⟨rfl, rfl, h.symm⟩
  | some v y hr =>
    cases hr <;> simp [bnd] at h
    rename_i kk z
    exact .inr ⟨kk, z, rfl, h.1, h.2.1, h.2.2.symm⟩

theorem run_bound {y : Nat} {kk : IntKind} {z : Int} (code : BoundsCode) (h0 : 0 ≤ z) (h1 : z ≤ y) : (Instr.sliceBound (.int kk z) y code).run C.P w = .ok z.toNat w := by
  simp [Instr.sliceBound, asIntOf, h0, h1]
theorem run_bounds2 (isSlice : Bool) {len cap h l H : Nat} {lo hi : Option V} {yl yh : Option Value} (hh : bnd hi len 0 H = some h) (hl : bnd lo 0 0 h = some l) (rh : RelO M w hi yh) (rl : RelO M w lo yl) (hH : H ≤ cap) (hlen : len ≤ H) :
    (Instr.sliceBounds isSlice len cap yl yh none).run C.P w = .ok (l, h, cap) w ∧ l ≤ h ∧ h ≤ H := by
  rcases bnd_some hh rh with ⟨rfl, rfl, rfl⟩ | ⟨k1, z1, rfl, a1, a2, rfl⟩ <;> rcases bnd_some hl rl with ⟨rfl, rfl, rfl⟩ | ⟨k2, z2, rfl, b1, b2, rfl⟩
  · exact ⟨by simp [Instr.sliceBounds], by omega, by omega⟩
  · exact ⟨by simp [Instr.sliceBounds, run_bound _ b1 b2], by omega, by omega⟩
  · exact ⟨by simp [Instr.sliceBounds, run_bound _ a1 (show z1 ≤ (cap : Int) by omega)], by omega, by omega⟩
  · exact ⟨by simp [Instr.sliceBounds, run_bound _ a1 (show z1 ≤ (cap : Int) by omega), run_bound _ b1 b2], by omega, by omega⟩
theorem run_bounds3 (isSlice : Bool) {len cap h l m H : Nat} {lo hi mx : Option V} {yl yh ym : Option Value} (hm : bnd mx 0 0 H = some m) (hh : bnd hi len 0 m = some h) (hl : bnd lo 0 0 h = some l) (rm : RelO M w mx ym) (rh : RelO M w hi yh) (rl : RelO M w lo yl)
    (hmx : mx ≠ none) (hhi : hi ≠ none) (hH : H ≤ cap) :
    (Instr.sliceBounds isSlice len cap yl yh ym).run C.P w = .ok (l, h, m) w ∧ l ≤ h ∧ h ≤ m ∧ m ≤ H := by
  rcases bnd_some hm rm with ⟨rfl, rfl, rfl⟩ | ⟨k0, z0, rfl, c1, c2, rfl⟩
  · exact absurd rfl hmx
  · rcases bnd_some hh rh with ⟨rfl, rfl, rfl⟩ | ⟨k1, z1, rfl, a1, a2, rfl⟩
    · exact absurd rfl hhi
    · rcases bnd_some hl rl with ⟨rfl, rfl, rfl⟩ | ⟨k2, z2, rfl, b1, b2, rfl⟩
      · exact ⟨by simp [Instr.sliceBounds, run_bound _ c1 (show z0 ≤ (cap : Int) by omega), run_bound _ a1 a2], by omega, by omega, by omega⟩
      · exact ⟨by simp [Instr.sliceBounds, run_bound _ c1 (show z0 ≤ (cap : Int) by omega), run_bound _ a1 a2, run_bound _ b1 b2], by omega, by omega, by omega⟩
end
end Go.Am
