/- Arguments of any type that is made of numbers, booleans, texts, structs, arrays and slices, as the machine sees them. -/
import Derived.Test.YtibhpbpjdgodnaaGreatDoorAmFlat
import Derived.WalkKit
import Derived.ProofKit
import Derived.OpenShut
import Derived.ShutString
import Derived.ChangeOld
import Derived.Below
import Derived.Carry
import Derived.SizedLaws
import Derived.ChangeSlices
import Derived.ChangeArms
import Derived.DataElems
import Derived.DataReads
namespace Go.Am
open Go Go.ChangeShapes Go.WideShapes Go.ChangeAt Go.RowKit
set_option linter.unusedVariables false
set_option linter.unusedSimpArgs false
/-- What a law knows ahead of its call: no memory of its own; what is there doesn't change. -/
def MW (W : World) : Mp := ⟨fun _ => none, fun b => b < W.heap.size⟩
section
variable (P : Program)
/-- The cells of a value of a type; no slice, no text is of more than so many bytes. -/
def WTR (R : Nat) : Nat → TypeId → List V → Prop
  | 0, _, _ => False
  | d + 1, t, cs =>
    match P.underlying t with
    | some .bool => ∃ b, cs = [.b b]
    | some (.int k) => ∃ n, cs = [.i k n] ∧ k.min ≤ n ∧ n ≤ k.max
    | some .string => ∃ s : ByteArray, cs = [.s s] ∧ s.size ≤ R
    | some (.slice e) => cs = [.nils] ∨ ∃ (els : List V) (n : Nat), cs = [.arr els n false] ∧ els.length = n * P.cellsOf e ∧ n * P.bytesOf e ≤ R ∧ ∀ i, i < n → WTR R d e ((els.drop (i * P.cellsOf e)).take (P.cellsOf e))
    | some (.struct fs) => cs.length = P.cellsOf t ∧ ∀ f ∈ fs.toList, WTR R d f.type ((cs.drop f.offset).take (P.cellsOf f.type))
    | some (.array n e) => cs.length = P.cellsOf t ∧ ∀ i, i < n → WTR R d e ((cs.drop (i * P.cellsOf e)).take (P.cellsOf e))
    | _ => False
abbrev WT : Nat → TypeId → List V → Prop := WTR P reachBytes
def tile (F : TypeId → Bool) : List Field → Nat → Nat → Bool
  | [], o, tot => o == tot
  | f :: fs, o, tot => f.offset == o && F f.type && tile F fs (o + P.cellsOf f.type) tot
/-- May a type be opened? -/
def okT : Nat → TypeId → Bool
  | 0, _ => false
  | d + 1, t =>
    match P.underlying t with
    | some .bool | some (.int _) | some .string => P.cellsOf t == 1
    | some (.slice e) => P.cellsOf t == 1 && okT d e
    | some (.struct fs) => tile P (okT d) fs.toList 0 (P.cellsOf t)
    | some (.array n e) => P.cellsOf t == n * P.cellsOf e && okT d e
    | _ => false
end
section
variable {H : Type} {enc : TypeId × Value → H} {P : Program} {W : World} {M : Mp} {R : Nat}
theorem weightsAll_mem {e : TypeId} : ∀ {l : List (DataW H)} {d : DataW H}, d ∈ l → ∀ n ∈ d.weights P e, n ∈ DataW.weightsAll P e l
  | a :: l, d, h, n, hn => by
    simp only [DataW.weightsAll, List.mem_append]
    rcases List.mem_cons.1 h with rfl | h
    · exact .inl hn
    · exact .inr (weightsAll_mem h n hn)
theorem tile_le {F : TypeId → Bool} : ∀ {fs : List Field} {o tot : Nat}, tile P F fs o tot = true → o ≤ tot
  | [], o, tot, h => by simp [tile] at h; omega
  | f :: fs, o, tot, h => by
    simp only [tile, Bool.and_eq_true] at h
    have := tile_le h.2
    omega
theorem tile_mem {F : TypeId → Bool} : ∀ {fs : List Field} {o tot : Nat}, tile P F fs o tot = true → ∀ f ∈ fs, F f.type = true
  | f :: fs, o, tot, h, g, hg => by
    simp only [tile, Bool.and_eq_true] at h
    rcases List.mem_cons.1 hg with rfl | hg
    · exact h.1.2
    · exact tile_mem h.2 g hg
theorem tile_open {F : TypeId → Bool} {D : Nat} {ys : List Value} : ∀ {fs : List Field} {o tot : Nat}, tile P F fs o tot = true → ys.length = tot →
    (∀ f ∈ fs, ∃ cs, RelL M W cs ((ys.drop f.offset).take (P.cellsOf f.type)) ∧ (∀ x ∈ cs, V.one x = true) ∧ WTR P R D f.type cs) →
    ∃ vs, RelL M W vs (ys.drop o) ∧ (∀ x ∈ vs, V.one x = true) ∧ ∀ f ∈ fs, o ≤ f.offset ∧ WTR P R D f.type ((vs.drop (f.offset - o)).take (P.cellsOf f.type))
  | [], o, tot, h, hl, _ => by
    simp [tile] at h
    subst h
    exact ⟨[], by rw [List.drop_eq_nil_of_le (by omega)]; exact .nil, by simp, by simp⟩
  | f :: fs, o, tot, h, hl, hf => by
    simp only [tile, Bool.and_eq_true, beq_iff_eq] at h
    obtain ⟨⟨h1, h2⟩, h3⟩ := h
    have hle := tile_le h3
    obtain ⟨cs, r1, r2, r3⟩ := hf f (by simp)
    rw [h1] at r1
    obtain ⟨vs, v1, v2, v3⟩ := tile_open h3 hl fun g hg => hf g (by simp [hg])
    have hcl := r1.length
    rw [List.length_take, List.length_drop, Nat.min_eq_left (by omega)] at hcl
    refine ⟨cs ++ vs, ?_, ?_, ?_⟩
    · have := r1.append v1
      rwa [← List.drop_drop, List.take_append_drop] at this
    · intro x hx
      rcases List.mem_append.1 hx with hx | hx
      · exact r2 x hx
      · exact v2 x hx
    · intro g hg
      rcases List.mem_cons.1 hg with rfl | hg
      · refine ⟨by omega, ?_⟩
        rw [h1, Nat.sub_self, List.drop_zero, ← hcl, List.take_left]; exact r3
      · obtain ⟨a1, a2⟩ := v3 g hg
        refine ⟨by omega, ?_⟩
        rw [List.drop_append, List.drop_eq_nil_of_le (by omega), List.nil_append, show g.offset - o - cs.length = g.offset - (o + P.cellsOf f.type) by omega]
        exact a2
/-- A value is opened. -/
theorem open_wt : ∀ (D : Nat) (fuel : Nat) (t : TypeId) (ys : List Value) (d : DataW H) (ps : List MemPlace), okT P D t = true →
    DataW.trod enc P W 0 (fun _ => true) true fuel t ys = some (d, ps) → (∀ n ∈ d.weights P t, n ≤ R) →
    ∃ cs, RelL (MW W) W cs ys ∧ (∀ x ∈ cs, V.one x = true) ∧ WTR P R D t cs := by
  intro D
  induction D with
  | zero => intro fuel t ys d ps h; simp [okT] at h
  | succ D ih =>
    intro fuel t ys d ps h ht hw
    unfold okT at h
    split at h
    · rename_i hu
      obtain ⟨b, rfl, hx⟩ := DataW.trod_bool hu ht
      exact ⟨[.b b], .cons _ _ _ _ (.b b) .nil, by simp [V.one], by simp [WTR, hu]⟩
    · rename_i k hu
      obtain ⟨n, rfl, hx, hwf⟩ := DataW.trod_int hu ht
      refine ⟨[.i k n], .cons _ _ _ _ (.i k n) .nil, by simp [V.one], ?_⟩
      simp only [WTR, hu]
      simp only [Lit.wf, Bool.and_eq_true, decide_eq_true_eq] at hwf
      exact ⟨n, rfl, hwf.1, hwf.2⟩
    · rename_i hu
      obtain ⟨s, rfl, hx, hs⟩ := DataW.trod_string hu ht
      refine ⟨[.s s], .cons _ _ _ _ (.s s) .nil, by simp [V.one], ?_⟩
      simp only [WTR, hu]
      obtain ⟨rfl, _⟩ := Prod.mk.inj hx
      have := hw s.data.toList.length (by simp [DataW.weights])
      exact ⟨s, rfl, by simpa using this⟩
    · rename_i e hu
      simp only [Bool.and_eq_true, beq_iff_eq] at h
      rcases DataW.trod_slice hu ht with ⟨rfl, _⟩ | ⟨a, len, cap, elems, rest, n, rfl, rfl, hx, _, hlc, _, hel, hcells, _, _⟩
      · exact ⟨[.nils], .cons _ _ _ _ .nils .nil, by simp [V.one], by simp [WTR, hu]⟩
      · obtain ⟨rfl, _⟩ := Prod.mk.inj hx
        simp only [DataW.weights, hu, List.length_map] at hw
        have key : ∀ m, m ≤ len → ∃ els vs, els.length = m * P.cellsOf e ∧ RelL (MW W) W els vs ∧ (∀ x ∈ els, V.one x = true) ∧ (∀ j y, vs[j]? = some y → W.cell? (a.add j) = some y) ∧ ∀ i, i < m → WTR P R D e ((els.drop (i * P.cellsOf e)).take (P.cellsOf e)) := by
          intro m
          induction m with
          | zero => intro _; exact ⟨[], [], by simp, .nil, by simp, by simp, fun i hi => by omega⟩
          | succ m ihm =>
            intro hm
            obtain ⟨els, vs, k1, k2, k3, k4, k5⟩ := ihm (by omega)
            have hc := hcells m (by omega)
            obtain ⟨el, hel'⟩ : ∃ el, elems[m]? = some el := ⟨elems[m]'(by omega), by rw [List.getElem?_eq_getElem (by omega)]⟩
            rw [hel'] at hc
            obtain ⟨ysm, c1, c2⟩ := Option.bind_eq_some_iff.1 hc
            obtain ⟨dm, pm⟩ := el
            obtain ⟨cs, r1, r2, r3⟩ := ih n e ysm dm pm h.2 c2 (fun q hq => hw q (List.mem_cons_of_mem _ (List.mem_append.2 (.inl (weightsAll_mem (List.mem_map.2 ⟨(dm, pm), List.mem_of_getElem? hel', rfl⟩) q hq)))))
            unfold World.cells? at c1
            rw [if_pos (Nat.zero_le _)] at c1
            have hyl : ysm.length = P.cellsOf e := by simpa using mapM_some_length c1
            have hcl := r1.length
            have hvl := k2.length
            refine ⟨els ++ cs, vs ++ ysm, by rw [List.length_append, k1, hcl, hyl, Nat.succ_mul], k2.append r1, ?_, ?_, ?_⟩
            · intro x hx
              rcases List.mem_append.1 hx with hx | hx
              · exact k3 x hx
              · exact r2 x hx
            · intro j y hy
              rcases Nat.lt_or_ge j vs.length with hj | hj
              · rw [List.getElem?_append_left hj] at hy
                exact k4 j y hy
              · rw [List.getElem?_append_right hj] at hy
                have hjl := (List.getElem?_eq_some_iff.1 hy).1
                have := mapM_some_get c1 (j - vs.length) (j - vs.length) (by rw [List.getElem?_range (by omega)])
                rw [hy, Addr.add_add] at this
                rw [← this]; congr 2; omega
            · intro i hi
              rcases Nat.lt_or_ge i m with hj | hj
              · have : (i + 1) * P.cellsOf e ≤ m * P.cellsOf e := Nat.mul_le_mul_right _ (by omega)
                rw [Nat.succ_mul] at this
                rw [List.drop_append, List.take_append, List.length_drop, show P.cellsOf e - (els.length - i * P.cellsOf e) = 0 by omega, List.take_zero, List.append_nil]
                exact k5 i hj
              · have : i = m := by omega
                subst this
                rw [List.drop_append, List.drop_eq_nil_of_le (by omega), List.nil_append, k1, Nat.sub_self, List.drop_zero, ← hyl, ← hcl, List.take_length]
                exact r3
        obtain ⟨els, vs, k1, k2, k3, k4, k5⟩ := key len (Nat.le_refl _)
        have hb := hw _ (List.mem_cons_self)
        refine ⟨[.arr els len false], .cons _ _ _ _ (.arr els len false a vs cap (fun hne => ?_) k3 k2 k4 hlc (fun e => by cases e)) .nil, by simp [V.one], ?_⟩
        · have hl2 := k2.length
          obtain ⟨v0, hv0⟩ : ∃ v, vs[0]? = some v := by
            cases vs with
            | nil => exact absurd (List.eq_nil_of_length_eq_zero hl2) hne
            | cons v vs => exact ⟨v, rfl⟩
          have hcc := k4 0 v0 hv0
          have : (a.add 0).block = a.block := by unfold Addr.add; split <;> rfl
          show a.block < W.heap.size
          rw [← this]
          unfold World.cell? at hcc
          cases hb : W.heap[(a.add 0).block]? with
          | none => rw [hb] at hcc; simp at hcc
          | some o => exact (Array.getElem?_eq_some_iff.1 hb).1
        · simp only [WTR, hu]
          refine .inr ⟨els, len, rfl, k1, ?_, k5⟩
          rw [hel] at hb
          exact Nat.le_trans (Nat.mul_le_mul_right _ (Nat.le_add_right _ _)) hb
    · rename_i fs hu
      obtain ⟨xs, n, rfl, hx, hl, hxl, hg⟩ := DataW.trod_struct hu ht
      obtain ⟨rfl, _⟩ := Prod.mk.inj hx
      simp only [DataW.weights, hu] at hw
      obtain ⟨vs, v1, v2, v3⟩ := tile_open (M := MW W) (W := W) (D := D) h hl fun f hf => by
        obtain ⟨i, hi⟩ := List.mem_iff_getElem?.1 hf
        have hfi : fs[i]? = some f := by simpa using hi
        have hi2 : i < xs.length := by
          have := (List.getElem?_eq_some_iff.1 hi).1
          simp at this; omega
        have h1 := hg i f hfi
        rw [List.getElem?_eq_getElem hi2] at h1
        refine ih n f.type _ (xs[i]).1 (xs[i]).2 (tile_mem h f hf) (by rw [h1]) fun q hq => hw q ?_
        exact DataW.weights_mem_each (j := i) (t := f.type) (d := (xs[i]).1) (by rw [List.getElem?_map, hi]; rfl) (by rw [List.getElem?_map, List.getElem?_eq_getElem hi2]; rfl) q hq
      refine ⟨vs, by simpa using v1, v2, ?_⟩
      simp only [WTR, hu]
      refine ⟨by rw [v1.length, List.drop_zero, hl], fun f hf => ?_⟩
      have := (v3 f hf).2
      rwa [Nat.sub_zero] at this
    · rename_i n e hu
      simp only [Bool.and_eq_true, beq_iff_eq] at h
      obtain ⟨xs, m, rfl, hx, hl, hxl, hg⟩ := DataW.trod_array hu ht
      obtain ⟨rfl, _⟩ := Prod.mk.inj hx
      simp only [DataW.weights, hu] at hw
      have key : ∀ m', m' ≤ n → ∃ els, els.length = m' * P.cellsOf e ∧ RelL (MW W) W els (ys.take (m' * P.cellsOf e)) ∧ (∀ x ∈ els, V.one x = true) ∧ ∀ i, i < m' → WTR P R D e ((els.drop (i * P.cellsOf e)).take (P.cellsOf e)) := by
        intro m'
        induction m' with
        | zero => intro _; exact ⟨[], by simp, by simpa using RelL.nil, by simp, fun i hi => by omega⟩
        | succ m' ihm =>
          intro hm
          obtain ⟨els, k1, k2, k3, k5⟩ := ihm (by omega)
          have hc := hg m' (by omega)
          rw [List.getElem?_eq_getElem (show m' < xs.length by omega)] at hc
          obtain ⟨cs, r1, r2, r3⟩ := ih m e _ (xs[m']).1 (xs[m']).2 h.2 (by rw [hc]) (fun q hq => hw q (weightsAll_mem (List.mem_map.2 ⟨xs[m'], List.getElem_mem _, rfl⟩) q hq))
          have hle : m' * P.cellsOf e + P.cellsOf e ≤ ys.length := by
            rw [hl, h.1, ← Nat.succ_mul]; exact Nat.mul_le_mul_right _ hm
          have hcl := r1.length
          rw [List.length_take, List.length_drop, Nat.min_eq_left (by omega)] at hcl
          refine ⟨els ++ cs, by rw [List.length_append, k1, hcl, Nat.succ_mul], ?_, ?_, ?_⟩
          · rw [Nat.succ_mul, List.take_add]
            exact k2.append r1
          · intro x hx
            rcases List.mem_append.1 hx with hx | hx
            · exact k3 x hx
            · exact r2 x hx
          · intro i hi
            rcases Nat.lt_or_ge i m' with hj | hj
            · have : (i + 1) * P.cellsOf e ≤ m' * P.cellsOf e := Nat.mul_le_mul_right _ (by omega)
              rw [Nat.succ_mul] at this
              rw [List.drop_append, List.take_append, List.length_drop, show P.cellsOf e - (els.length - i * P.cellsOf e) = 0 by omega, List.take_zero, List.append_nil]
              exact k5 i hj
            · have : i = m' := by omega
              subst this
              rw [List.drop_append, List.drop_eq_nil_of_le (by omega), List.nil_append, k1, Nat.sub_self, List.drop_zero, ← hcl, List.take_length]
              exact r3
      obtain ⟨els, k1, k2, k3, k5⟩ := key n (Nat.le_refl _)
      rw [List.take_of_length_le (by rw [hl, h.1]; exact Nat.le_refl _)] at k2
      refine ⟨els, k2, k3, ?_⟩
      simp only [WTR, hu]
      exact ⟨by rw [k1, h.1], k5⟩
    · cases h
end
end Go.Am
