/- Each operation of the abstract machine is what the model's does: append, copy, clear. -/
import Derived.Test.YtgagaobijjahhaaGreatDoorAmOps4
import Derived.Lib.AppendZerosOnto
namespace Go.Am
open Go.RowKit
set_option linter.unusedVariables false
set_option linter.unusedSimpArgs false

section
variable {C : Cfg} {M M' : Mp} {w w' : World} {B0 : Nat} {N W : Nat → Prop} {p : List Nat} {σ σ' : List O} {c : Nat}

theorem roomy_le {n : Nat} (h : roomy n = true) : n ≤ 140737488355328 := by simpa [roomy] using h
theorem small_of_room {n b : Nat} (hb : b ≠ 0) (h : roomy (n * b) = true) : n ≤ 140737488355328 :=
  Nat.le_trans (Nat.le_mul_of_pos_right n (Nat.pos_of_ne_zero hb)) (roomy_le h)

theorem ofVal_ones {y : Value} (h : (ofVal y).cells.all V.one = true) : ∀ u ∈ y.cells.toList, (ofVal1 u).one = true := by
  intro u hu
  have hr := (rel_ofVal (M := ⟨fun _ => none, fun _ => False⟩) (w := default) y).cells h
  unfold ofVal at h
  split at h
  · rename_i cs
    split at h
    · rename_i h2
      rw [List.all_eq_true] at h2
      exact h2 _ (List.mem_map.2 ⟨u, hu, rfl⟩)
    · simp [V.cells, V.one] at h
  · rename_i hne
    have hc : y.cells = #[y] := by
      cases y <;> first | rfl | exact absurd rfl (hne _)
    rw [hc] at hu
    simp at hu
    subst hu
    rcases one_ofVal1 u with h1 | h1
    · exact h1
    · rw [h1] at h; simp [V.cells, V.one] at h
theorem zero_ones {y : Value} {k : Nat} (h : (ofVal y).cells.all V.one = true) : ∀ u ∈ (Builtin.zeroCells y.cells k).toList, (ofVal1 u).one = true := by
  intro u hu
  simp only [Builtin.zeroCells, Array.toList_map, List.mem_map, Array.mem_toList_iff, Array.mem_range] at hu
  obtain ⟨i, hi, rfl⟩ := hu
  have hpos : 0 < y.cells.size := by
    rcases Nat.eq_zero_or_pos y.cells.size with h0 | h0
    · rw [h0] at hi; omega
    · exact h0
  have hlt := Nat.mod_lt i hpos
  refine ofVal_ones h _ ?_
  rw [getElem!_pos y.cells _ hlt]
  simp
theorem run_append_new {t u ty e z : Nat} {zv : V} (he : C.elem t = some (e, z, zv)) {d : TypeDesc} (hu : C.P.underlying u = some d) (hd : ∀ k, d ≠ .int k)
    {base : Option Addr} {n k m : Nat} {yx : Value} {old news : List Value} (hn : (Builtin.lenOf yx).run C.P w = .ok m w) (hk : k < n + m) (hroom : roomy ((n + m) * C.bytes e) = true)
    (hold : (Builtin.firstCells z n (.slice base n k)).run C.P w.drew = .ok old.toArray w.drew) (hnew : (Builtin.firstCells z m yx).run C.P w.drew = .ok news.toArray w.drew)
    (hlo : old.length = n * z) (hln : news.length = m * z) :
    ∃ cap extra, n + m ≤ cap ∧ (old ++ news ++ extra).length = cap * z ∧ (∀ y ∈ extra, (ofVal1 y).one = true) ∧
    (Builtin.append_ #[t, u] ty #[.slice base n k, yx]).run C.P w = .ok (.slice (some ⟨w.heap.size, 0, none⟩) (n + m) cap) (w.drew.alloc (.cells (old ++ news ++ extra).toArray e)) := by
  obtain ⟨hut, hz0, hzl, hb, hone, i, y, hi, hsz, hby, hzy, rfl⟩ := elem_some he
  have hsmall := small_of_room hb hroom
  have hfit := growslice_fits (bytes := C.bytes e) hk (roomy_le hroom)
  have hysz : y.cells.size = z := by
    rw [← Array.length_toList, ← ((rel_ofVal (M := ⟨fun _ => none, fun _ => False⟩) (w := w) y).cells hone).length, hzl]
  have hm0 : (match d with | .int _ => true | _ => false) = false := by
    cases d <;> first | rfl | exact absurd rfl (hd _)
  refine ⟨(Question.appendCap (n + m) k e).cut (w.tape w.drawn (.appendCap (n + m) k e)), (Builtin.zeroCells y.cells ((Question.appendCap (n + m) k e).cut (w.tape w.drawn (.appendCap (n + m) k e)) - (n + m))).toList, by simp [Question.cut], ?_, zero_ones hone, ?_⟩
  · have hc : n + m ≤ (Question.appendCap (n + m) k e).cut (w.tape w.drawn (.appendCap (n + m) k e)) := by simp [Question.cut]
    generalize (Question.appendCap (n + m) k e).cut (w.tape w.drawn (.appendCap (n + m) k e)) = cap at hc ⊢
    simp only [List.length_append, hlo, hln, Builtin.zeroCells, Array.length_toList, Array.size_map, Array.size_range, hysz]
    rw [← Nat.add_mul, ← Nat.add_mul]; congr 1; omega
  · have h1 : ¬ n + m ≤ k := by omega
    have h2 : ¬ (((n + m : Nat) : Int) > IntKind.i64.max) := by
      have : IntKind.i64.max = 9223372036854775807 := rfl
      omega
    have hforce : (Question.appendCap (n + m) k e).forced = false := rfl
    have hf : ¬ (Builtin.nextslicecap (n + m) k * C.bytes e > 2 ^ 48) := by omega
    have hz : (match d with | .int _ => (pure true : Sem Bool) | _ => pure false) = pure false := by
      cases d <;> first | rfl | exact absurd rfl (hd _)
    have hh : (sizeOf e).run C.P w = .ok z w := by simp [sizeOf, typeInfo, hi, hsz]
    simp [Builtin.append_, run_under hut, run_under hu, hh, hn, h1, hb, hforce, typeInfo, hi, hby, hf, hold, hnew, newRow, zeroValue, hzy]
    congr 2
    apply Array.ext'
    simp

theorem run_append_fits {t u ty e z : Nat} {zv : V} (he : C.elem t = some (e, z, zv)) {d : TypeDesc} (hu : C.P.underlying u = some d) (hd : ∀ k, d ≠ .int k)
    {base : Option Addr} {n k m : Nat} {yx : Value} {news : List Value} (hn : (Builtin.lenOf yx).run C.P w = .ok m w) (hk : n + m ≤ k)
    (hnew : (Builtin.firstCells z m yx).run C.P w = .ok news.toArray w) :
    (Builtin.append_ #[t, u] ty #[.slice base n k, yx]).run C.P w =
      match base with
      | some a => ((storeCells (a.add (n * z)) news).run C.P w).andThen fun _ w' => .ok (.slice base (n + m) k) w'
      | none => .ok (.slice base (n + m) k) w := by
  obtain ⟨hut, hz0, hzl, hb, hone, i, y, hi, hsz, hby, hzy, rfl⟩ := elem_some he
  have hz : (match d with | .int _ => (pure true : Sem Bool) | _ => pure false) = pure false := by
    cases d <;> first | rfl | exact absurd rfl (hd _)
  have hh : (sizeOf e).run C.P w = .ok z w := by simp [sizeOf, typeInfo, hi, hsz]
  cases base <;> simp [Builtin.append_, run_under hut, run_under hu, hh, hn, hk, hnew]

theorem Rel.heap (hh : w'.heap = w.heap) {v : V} {y : Value} (h : Rel M w v y) : Rel M w' v y := Rel.mono' (fun _ _ h => h) (fun _ h => h) (fun _ _ => by rw [hh]) h
theorem RelL.heap (hh : w'.heap = w.heap) {v : List V} {y : List Value} (h : RelL M w v y) : RelL M w' v y := RelL.mono' (fun _ _ h => h) (fun _ h => h) (fun _ _ => by rw [hh]) h
theorem ObjRel.heap (hh : w'.heap = w.heap) {o : O} (h : ObjRel M w o) : ObjRel M w' o := by
  cases o with
  | dead => trivial
  | cells st cs =>
    intro b n hn
    obtain ⟨h1, h2, h3, h4⟩ := h b n hn
    exact ⟨h1, h2, fun j hj => by simpa [World.cell?, World.frozen?, okMark, unmarked, World.shape?, hh] using h3 j hj, fun j x hx => by
      obtain ⟨y, hy, hr⟩ := h4 j x hx
      exact ⟨y, by simpa [World.cell?, hh] using hy, hr.heap hh⟩⟩
  | map st kvs =>
    intro b n hn
    obtain ⟨es, cl, h1, h2, h3⟩ := h b n hn
    exact ⟨es, cl, by rw [hh]; exact h1, h2, fun j k v hj => by
      obtain ⟨e, g1, g2, g3⟩ := h3 j k v hj
      exact ⟨e, g1, g2.heap hh, g3.heap hh⟩⟩

theorem append_new (hs : Sep B0 M σ w) (ho : ∀ (r : Nat) o, N r → σ[r]? = some o → ObjRel M w o) (hf : Fr M σ p c) {t u ty e z : Nat} {zv : V} (he : C.elem t = some (e, z, zv))
    {d : TypeDesc} (hu : C.P.underlying u = some d) (hd : ∀ k, d ≠ .int k) {s x : V} {base : Option Addr} {n k m : Nat} {yx : Value} {old news : List V}
    (hes : elems z σ s = some (n, old)) (hrs : Rel M w s (.slice base n k)) (hex : elems z σ x = some (m, news)) (hrx : Rel M w x yx) (hk : k < n + m) (hroom : roomy ((n + m) * C.bytes e) = true)
    (hNx : ∀ r st off len es cap, x = .sl r st off len es cap → N r) (hNs : ∀ r st off len es cap, s = .sl r st off len es cap → N r) :
    ∃ cap extra ys, n + m ≤ cap ∧ (ys ++ extra).length = cap * z ∧ (∀ y ∈ extra, (ofVal1 y).one = true) ∧ RelL M w (old ++ news) ys ∧ (old ++ news).all V.one = true ∧
      (Builtin.append_ #[t, u] ty #[.slice base n k, yx]).run C.P w = .ok (.slice (some ⟨w.heap.size, 0, none⟩) (n + m) cap) (w.drew.alloc (.cells (ys ++ extra).toArray e)) := by
  have hob : ∀ (r : Nat) o, N r → σ[r]? = some o → ObjRel M w.drew o := fun r o h1 h2 => ObjRel.heap (w := w) (w' := w.drew) rfl (ho r o h1 h2)
  have hn := run_lenOf (C := C) hex hrx
  obtain ⟨g1, g2, ys1, g3, g4⟩ := run_firstCells (C := C) (w := w.drew) hes (Rel.heap (w := w) (w' := w.drew) rfl hrs) (Nat.le_refl n) (fun r st off len es cap e o h => hob r o (hNs _ _ _ _ _ _ e) h)
  obtain ⟨k1, k2, ys2, k3, k4⟩ := run_firstCells (C := C) (w := w.drew) hex (Rel.heap (w := w) (w' := w.drew) rfl hrx) (Nat.le_refl m) (fun r st off len es cap e o h => hob r o (hNx _ _ _ _ _ _ e) h)
  rw [List.take_of_length_le (by omega)] at g4 k4
  obtain ⟨cap, extra, a1, a2, a6, a3⟩ := run_append_new (w := w) (ty := ty) he hu hd hn hk hroom g3 k3 (by rw [← g4.length, g1]) (by rw [← k4.length, k1])
  refine ⟨cap, extra, ys1 ++ ys2, a1, a2, a6, RelL.heap (w := w.drew) (w' := w) rfl (g4.append k4), ?_, a3⟩
  rw [List.all_eq_true]
  intro v hv
  rcases List.mem_append.1 hv with h | h
  · exact g2 v h
  · exact k2 v h

theorem append_sound (hs : Sep B0 M σ w) (ho : ∀ (r : Nat) o, N r → σ[r]? = some o → ObjRel M w o) (hf : Fr M σ p c) {t u ty : Nat} {s x v : V} {ys yx : Value}
    (h : appendA C t σ (c :: p) s x = some (v, σ')) (hrs : Rel M w s ys) (hrx : Rel M w x yx) {d : TypeDesc} (hu : C.P.underlying u = some d) (hd : ∀ k, d ≠ .int k)
    (hNx : ∀ r st off len es cap, x = .sl r st off len es cap → N r) (hNs : ∀ r st off len es cap, s = .sl r st off len es cap → N r ∧ W r) :
    ∃ y w' M', (Builtin.append_ #[t, u] ty #[ys, yx]).run C.P w = .ok y w' ∧ Rel M' w' v y ∧ Post B0 N W p M M' σ σ' c w w' := by
  simp only [appendA, Option.bind_eq_some_iff] at h
  obtain ⟨⟨e, z, zv⟩, he, ⟨m, news⟩, hx, h⟩ := h
  dsimp only at hx h
  have he' := elem_some he
  obtain ⟨hut, hz0, hzl, hb, hone, i, yz, hi, hsz, hby, hzy, _⟩ := he'
  have hn := run_lenOf (C := C) hx hrx
  have hox : ∀ r st off len es cap, x = .sl r st off len es cap → ∀ o, σ[r]? = some o → ObjRel M w o := fun r st off len es cap e o h => ho r o (hNx _ _ _ _ _ _ e) h
  obtain ⟨hnl, hn1, nys, hfc, hnr⟩ := run_firstCells (C := C) hx hrx (Nat.le_refl m) hox
  rw [List.take_of_length_le (by omega)] at hnr
  have hnyl : nys.length = m * z := by rw [← hnr.length, hnl]
  -- a new row
  have mk : ∀ (n k : Nat) (base : Option Addr) (old : List V), elems z σ s = some (n, old) → ys = .slice base n k → k < n + m → roomy ((n + m) * C.bytes e) = true →
      ∃ y w' M', (Builtin.append_ #[t, u] ty #[ys, yx]).run C.P w = .ok y w' ∧ Rel M' w' (.sl σ.length (c :: p) 0 (n + m) z none) y ∧ Post B0 N W p M M' σ (σ ++ [.cells (c :: p) (old ++ news)]) c w w' := by
    rintro n k base old hes rfl hk hroom
    obtain ⟨cap, extra, l, a1, a2, a6, a3, a4, a5⟩ := append_new (ty := ty) hs ho hf he hu hd hes hrs hx hrx hk hroom hNx (fun r st off len es cap e => (hNs _ _ _ _ _ _ e).1)
    obtain ⟨M', hM', hp⟩ := post_row (N := N) (W := W) (e := e) (fz := (0, 0)) hs ho hf a3 a4 extra w.drew rfl (below_drew _ _) rfl a6
    exact ⟨_, _, M', a5, .sl _ _ _ _ _ _ w.heap.size _ cap hM' a1 (fun _ => by rw [a2]; omega) (fun c' e => by cases e), hp⟩
  -- nothing to append
  have none_ : ∀ (n k : Nat) (base : Option Addr), ys = .slice base n k → n ≤ k → m = 0 → (Builtin.append_ #[t, u] ty #[ys, yx]).run C.P w = .ok ys w := by
    rintro n k base rfl hk rfl
    rw [run_append_fits he hu hd hn (by omega) hfc]
    have : nys = [] := List.eq_nil_of_length_eq_zero (by simpa using hnyl)
    subst this
    cases base <;> simp [storeCells]
  have same : Post B0 N W p M M σ σ c w w := Post.pure hs ho rfl (Below.refl _ _)
  split at h
  · split at h
    · rename_i hm
      simp at h
      obtain ⟨rfl, rfl⟩ := h
      exact ⟨ys, w, M, none_ 0 0 none hrs.nils_inv (Nat.le_refl 0) hm, hrs, same⟩
    · rename_i hm
      split at h
      · rename_i hroom
        simp at h
        obtain ⟨rfl, rfl⟩ := h
        have := mk 0 0 none [] (by simp [elems]) hrs.nils_inv (by omega) (by simpa using hroom)
        simpa using this
      · simp at h
  · rename_i cs n clip
    obtain ⟨a, vs, k, hy, hF, h1, hr, hc, hk, hcl⟩ := hrs.arr_inv
    split at h
    · rename_i hm
      simp at h
      obtain ⟨rfl, rfl⟩ := h
      exact ⟨ys, w, M, none_ n k (some a) hy hk hm, hrs, same⟩
    · rename_i hm
      split at h
      · rename_i hcr
        simp only [Bool.and_eq_true] at hcr
        simp only [Option.map_eq_some_iff, Prod.mk.injEq] at h
        obtain ⟨l, hl, rfl, rfl⟩ := h
        have := hcl hcr.1
        exact mk n k (some a) l (by simp [elems, hl]) hy (by omega) hcr.2
      · simp at h
  · rename_i r st o n es cap
    split at h
    · rename_i hes
      subst hes
      simp only [Option.bind_eq_some_iff] at h
      obtain ⟨cs, hcs, h⟩ := h
      obtain ⟨b, nn, k, hM, rfl, hk, hfull, hcap⟩ := hrs.sl_inv
      obtain ⟨hNr, hWr⟩ := hNs _ _ _ _ _ _ rfl
      obtain ⟨q1, q2, q3, q4⟩ := ho r _ hNr (rowAt_some hcs) b nn hM
      split at h
      · rename_i hm
        simp at h
        obtain ⟨rfl, rfl⟩ := h
        exact ⟨_, w, M, none_ n k _ rfl hk hm, hrs, same⟩
      · rename_i hm
        split at h
        · rename_i hfit
          simp at h
          obtain ⟨rfl, rfl⟩ := h
          have hkk : n + m ≤ k := by
            cases cap with
            | some c' => have := hcap c' rfl; have := hfit.2; simp [capFits] at this; omega
            | none =>
              have h1 := hfull rfl
              have h2 := hfit.1
              have h3 : (n + m) * es ≤ k * es := by omega
              exact Nat.le_of_mul_le_mul_right h3 (Nat.pos_of_ne_zero hz0)
          have hsp : o + n * es + news.length ≤ cs.length := by
            have := hfit.1
            rw [Nat.add_mul] at this
            omega
          obtain ⟨w', hw', hp⟩ := write_sound (C := C) (p := p) (c := c) hs ho (off := o + n * es) (rowAt_some hcs) hM hNr hWr hnr hn1 hsp
          refine ⟨.slice (some ⟨b, o, none⟩) (n + m) k, w', M, ?_, ?_, hp⟩
          · rw [run_append_fits he hu hd hn hkk hfc]
            simp [add_off, hw']
          · exact .sl _ _ _ _ _ _ b nn k hM hkk hfull hcap
        · rename_i hnfit
          split at h
          · rename_i hroom
            cases cap with
            | some c' =>
              simp only at h
              split at h
              · rename_i hlt
                simp only [Option.map_eq_some_iff, Prod.mk.injEq] at h
                obtain ⟨l, hl, rfl, rfl⟩ := h
                have := hcap c' rfl
                exact mk n k _ l (by simp [elems, hcs, hl]) rfl (by omega) hroom
              · simp at h
            | none =>
              simp only at h
              split at h
              · rename_i ho0
                simp at h
                obtain ⟨rfl, rfl⟩ := h
                obtain ⟨rfl, hcl⟩ := ho0
                have hnn := hfull rfl
                simp only [Nat.zero_add] at hnn
                by_cases hkk : n + m ≤ k
                · -- the old block has room
                  have hmz : (n + m) * es ≤ k * es := Nat.mul_le_mul_right _ hkk
                  have hsome : ∀ i, i < nys.length → (w.cell? ⟨b, n * es + i, none⟩).isSome = true := fun i hi => by
                    obtain ⟨y, hy, _⟩ := q3 (n * es + i) (by rw [Nat.add_mul] at hmz; omega)
                    simp [hy]
                  have hys : ∀ y ∈ nys, y.oneCell' = true := by
                    intro y hy
                    rw [List.mem_iff_getElem?] at hy
                    obtain ⟨j, hj⟩ := hy
                    obtain ⟨x', hxj⟩ : ∃ x', news[j]? = some x' := ⟨news[j]'(by rw [hnr.length]; exact (List.getElem?_eq_some_iff.1 hj).1), by simp⟩
                    obtain ⟨y', hy', hr⟩ := hnr.get hxj
                    rw [hj] at hy'; cases hy'
                    exact hr.oneCell (hn1 x' (List.mem_of_getElem? hxj))
                  have hrun := run_storeCells_cells (P := C.P) b (n * es) nys 0 w (fun j hj => hsome j hj) (fun j hj => by obtain ⟨y, _, hy, _⟩ := q3 (n * es + j) (by rw [Nat.add_mul] at hmz; omega); exact hy) hys
                  simp only [Nat.add_zero] at hrun
                  obtain ⟨M', hM', hp⟩ := Post.regrow (N := N) (W := W) (p := p) (c := c) hs ho hf r (.cells st cs) (.cells (c :: p) (cs ++ news)) st b nn b nn (rowAt_some hcs) rfl rfl hM hWr
                    (.inl ⟨rfl, setCells_size b nys (n * es) w⟩) (fun k' _ hk' => setCells_heap _ _ _ _ _ hk') (setCells_below _ _ (hs.lt _ _ _ hM).2 _ _ _) (fun M1 hE hm1 => by
                      intro b' n' hm'
                      rw [hm1] at hm'; cases hm'
                      refine ⟨by simp only [List.length_append, hnl, ← hcl, ← Nat.add_mul]; omega, fun x' hx' => (List.mem_append.1 hx').elim (q2 x') (hn1 x'), fun j hj => ?_, fun j x' hj => ?_⟩
                      · obtain ⟨y, hy, hf', h5, h6⟩ := q3 j hj
                        rw [setCells_frozen, setCells_cell _ _ _ _ _ hsome, setCells_okMark, List.length_append]
                        by_cases hr : n * es ≤ j ∧ j < n * es + nys.length
                        · rw [if_pos hr]; exact ⟨nys[j - n * es]'(by omega), by simp, hf', fun hle => absurd hr.2 (by rw [← hnr.length]; omega), h6⟩
                        · rw [if_neg hr]; exact ⟨y, hy, hf', fun hle => h5 (by omega), h6⟩
                      · rw [setCells_cell _ _ _ _ _ hsome]
                        by_cases hr : j < cs.length
                        · rw [List.getElem?_append_left hr] at hj
                          rw [if_neg (by omega)]
                          obtain ⟨y, hy, hr'⟩ := q4 j x' hj
                          exact ⟨y, hy, hr'.mono hE⟩
                        · rw [List.getElem?_append_right (by omega)] at hj
                          have hlt := (List.getElem?_eq_some_iff.1 hj).1
                          rw [if_pos (by rw [← hnr.length]; omega)]
                          obtain ⟨y, hy, hr'⟩ := hnr.get hj
                          exact ⟨y, by rw [hcl]; exact hy, hr'.mono hE⟩)
                  refine ⟨.slice (some ⟨b, 0, none⟩) (n + m) k, _, M', ?_, .sl _ _ _ _ _ _ b nn k hM' hkk (fun _ => by simpa using hnn) (fun c' e => by cases e), hp⟩
                  rw [run_append_fits he hu hd hn hkk hfc]
                  simp [add_off, hrun]
                · -- a new block
                  have hes : elems es σ (.sl r st 0 n es none) = some (n, cs) := by
                    simp [elems, hcs, take?, hcl]
                  obtain ⟨cap, extra, l, a1, a2, a6, a3, a4, a5⟩ := append_new (ty := ty) hs ho hf he hu hd hes hrs hx hrx (by omega) hroom hNx (fun r st off len es cap e => (hNs _ _ _ _ _ _ e).1)
                  have hnew : (w.drew.alloc (.cells (l ++ extra).toArray e)).heap[w.heap.size]? = some (.cells (l ++ extra).toArray e (0, 0)) := heap_alloc_new w.drew _
                  obtain ⟨M', hM', hp⟩ := Post.regrow (N := N) (W := W) (p := p) (c := c) hs ho hf r (.cells st cs) (.cells (c :: p) (cs ++ news)) st b nn w.heap.size (l ++ extra).length (rowAt_some hcs) rfl rfl hM hWr
                    (.inr ⟨rfl, by simp⟩) (fun k' hk' _ => heap_alloc_old w.drew _ hk') ((below_drew B0 w).trans (below_alloc _ _ _ hs.base)) (fun M1 hE hm1 => obj_new a3 a4 extra hnew (.inl rfl) a6 (.inr (Nat.le_refl _)) M1 hE hm1)
                  exact ⟨_, _, M', a5, .sl _ _ _ _ _ _ w.heap.size _ cap hM' a1 (fun _ => by rw [a2]; omega) (fun c' e => by cases e), hp⟩
              · simp at h
          · simp at h
    · simp at h
  · simp at h
theorem appendZ_sound (hs : Sep B0 M σ w) (ho : ∀ (r : Nat) o, N r → σ[r]? = some o → ObjRel M w o) (hf : Fr M σ p c) {t u ty : Nat} {s v : V} {ys : Value} {k : Int} {kn : IntKind}
    (h : appendZA C t σ (c :: p) s k = some (v, σ')) (hrs : Rel M w s ys) (hu : C.P.underlying u = some (.int kn))
    (hNs : ∀ r st off len es cap, s = .sl r st off len es cap → N r) :
    ∃ y w' M', (Builtin.append_ #[t, u] ty #[ys, .int .i64 k]).run C.P w = .ok y w' ∧ Rel M' w' v y ∧ Post B0 N W p M M' σ σ' c w w' := by
  simp only [appendZA, Option.bind_eq_some_iff] at h
  obtain ⟨⟨e, z, zv⟩, he, h⟩ := h
  dsimp only at h
  obtain ⟨hut, hz0, hzl, hb, hone, i, yz, hi, hsz, hby, hzy, rfl⟩ := elem_some he
  split at h
  · rename_i r st o n es c'
    split at h
    · rename_i hes
      subst hes
      simp only [Option.bind_eq_some_iff] at h
      obtain ⟨cs, hcs, h⟩ := h
      split at h
      · rename_i hk0
        split at h
        · rename_i hkc
          split at h
          · rename_i hroom
            simp only [Option.map_eq_some_iff, Prod.mk.injEq] at h
            obtain ⟨l, hl, rfl, rfl⟩ := h
            obtain ⟨m, rfl⟩ : ∃ m : Nat, k = m := ⟨k.toNat, by omega⟩
            simp only [Int.toNat_natCast] at *
            obtain ⟨b, nn, kk, hM, rfl, hk, hfull, hcap⟩ := hrs.sl_inv
            have hkk := hcap c' rfl
            subst hkk
            have hel : elems es σ (.sl r st o n es (some kk)) = some (n, l) := by simp [elems, hcs, hl]
            have hob : ∀ (r : Nat) o, N r → σ[r]? = some o → ObjRel M w.drew o := fun r o h1 h2 => ObjRel.heap (w := w) (w' := w.drew) rfl (ho r o h1 h2)
            obtain ⟨g1, g2, ys1, g3, g4⟩ := run_firstCells (C := C) (w := w.drew) hel (Rel.heap (w := w) (w' := w.drew) rfl hrs) (Nat.le_refl n) (fun r st off len es cap e o h => hob r o (hNs _ _ _ _ _ _ e) h)
            rw [List.take_of_length_le (by omega)] at g4
            have hsmall := small_of_room hb hroom
            have hmr : m * C.bytes e ≤ (n + m) * C.bytes e := Nat.mul_le_mul_right _ (by omega)
            have hrun := Lib.run_append_grow_zeros (P := C.P) w t u ty e i yz .i64 kn hut hu hi hzy (some ⟨b, o, none⟩) n kk ys1 (by rw [hsz]; exact g3) m (by omega) (by rw [hsz]; omega) hkc (by omega)
              (by have := roomy_le hroom; rw [hby]; omega) (by rw [hby]; exact growslice_fits hkc (roomy_le hroom))
            have hysz : yz.cells.size = es := by
              rw [← Array.length_toList, ← ((rel_ofVal (M := ⟨fun _ => none, fun _ => False⟩) (w := w) yz).cells hone).length, hzl]
            have hz := rel_made (M := M) (w := w) (k := m) hzl hz0 hone
            have hzc : Builtin.zeroCells yz.cells m = madeCells yz.cells (m * es) := by rw [← hysz]; rfl
            have hrel : RelL M w (l ++ (List.replicate m (ofVal yz).cells).flatten) (ys1 ++ (Builtin.zeroCells yz.cells m).toList) := by
              rw [hzc]; exact (RelL.heap (w := w.drew) (w' := w) rfl g4).append hz
            have hall : (l ++ (List.replicate m (ofVal yz).cells).flatten).all V.one = true := by
              rw [List.all_append, Bool.and_eq_true]; exact ⟨List.all_eq_true.2 g2, flat_one hone⟩
            have hge : n + m ≤ grownCap w (n + m) kk e := grownCap_ge w (n + m) kk e
            have harr : ys1.toArray ++ Builtin.zeroCells yz.cells m ++ Builtin.zeroCells yz.cells (grownCap w (n + m) kk e - (n + m)) = (ys1 ++ (Builtin.zeroCells yz.cells m).toList ++ (Builtin.zeroCells yz.cells (grownCap w (n + m) kk e - (n + m))).toList).toArray := by
              apply Array.ext'; simp
            rw [harr] at hrun
            have hlen : (ys1 ++ (Builtin.zeroCells yz.cells m).toList ++ (Builtin.zeroCells yz.cells (grownCap w (n + m) kk e - (n + m))).toList).length = grownCap w (n + m) kk e * es := by
              have h1 : ys1.length = n * es := by rw [← g4.length, g1]
              simp only [List.length_append, h1, Builtin.zeroCells, Array.length_toList, Array.size_map, Array.size_range, hysz]
              rw [← Nat.add_mul, ← Nat.add_mul]; congr 1; omega
            obtain ⟨M', hM', hp⟩ := post_row (N := N) (W := W) (e := e) (fz := (0, 0)) hs ho hf hrel hall _ w.drew rfl (below_drew _ _) rfl (zero_ones (k := grownCap w (n + m) kk e - (n + m)) hone)
            exact ⟨_, _, M', hrun, .sl _ _ _ _ _ _ w.heap.size _ _ hM' hge (fun _ => by rw [hlen]; omega) (fun c' e => by cases e), hp⟩
          · simp at h
        · simp at h
      · simp at h
    · simp at h
  · simp at h
end
end Go.Am
