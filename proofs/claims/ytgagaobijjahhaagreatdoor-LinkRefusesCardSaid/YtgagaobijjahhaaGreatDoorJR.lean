/- Parts of one machine and of the walks over it, joined: AmArgs AmRow. -/
import Derived.Test.YtgagaobijjahhaaGreatDoorAmFlat
import Derived.WalkKit
import Derived.ProofKit
import Derived.OpenShut
import Derived.ShutString
import Derived.ChangeOld
import Derived.Below
import Derived.Carry
import Derived.SizedLaws
import Derived.ChangeSlices
import Derived.ChangeArms
import Derived.DataElems
import Derived.DataReads
/- Arguments of any type that is made of numbers, booleans, texts, structs, arrays and slices, as the machine sees them. -/
namespace Go.Am
open Go Go.ChangeShapes Go.WideShapes Go.ChangeAt Go.RowKit
set_option linter.unusedVariables false
set_option linter.unusedSimpArgs false
def MW (W : World) : Mp := ⟨fun _ => none, fun b => b < W.heap.size⟩
section
variable (P : Program)
def WTR (R : Nat) : Nat → TypeId → List V → Prop
  | 0, _, _ => False
  | d + 1, t, cs =>
    match P.underlying t with
    | some .bool => ∃ b, cs = [.b b]
    | some (.int k) => ∃ n, cs = [.i k n] ∧ k.min ≤ n ∧ n ≤ k.max
    | some .string => ∃ s : ByteArray, cs = [.s s] ∧ s.size ≤ R
    | some (.slice e) => cs = [.nils] ∨ ∃ (els : List V) (n : Nat), cs = [.arr els n false] ∧ els.length = n * P.cellsOf e ∧ n * P.bytesOf e ≤ R ∧ ∀ i, i < n → WTR R d e ((els.drop (i * P.cellsOf e)).take (P.cellsOf e))
    | some (.struct fs) => cs.length = P.cellsOf t ∧ ∀ f ∈ fs.toList, WTR R d f.type ((cs.drop f.offset).take (P.cellsOf f.type))
    | some (.array n e) => cs.length = P.cellsOf t ∧ ∀ i, i < n → WTR R d e ((cs.drop (i * P.cellsOf e)).take (P.cellsOf e))
    | _ => False
abbrev WT : Nat → TypeId → List V → Prop := WTR P reachBytes
def tile (F : TypeId → Bool) : List Field → Nat → Nat → Bool
  | [], o, tot => o == tot
  | f :: fs, o, tot => f.offset == o && F f.type && tile F fs (o + P.cellsOf f.type) tot
def okT : Nat → TypeId → Bool
  | 0, _ => false
  | d + 1, t =>
    match P.underlying t with
    | some .bool | some (.int _) | some .string => P.cellsOf t == 1
    | some (.slice e) => P.cellsOf t == 1 && okT d e
    | some (.struct fs) => tile P (okT d) fs.toList 0 (P.cellsOf t)
    | some (.array n e) => P.cellsOf t == n * P.cellsOf e && okT d e
    | _ => false
end
section
variable {H : Type} {enc : TypeId × Value → H} {P : Program} {W : World} {M : Mp} {R : Nat}
theorem weightsAll_mem {e : TypeId} : ∀ {l : List (DataW H)} {d : DataW H}, d ∈ l → ∀ n ∈ d.weights P e, n ∈ DataW.weightsAll P e l
  | a :: l, d, h, n, hn => by
    simp only [DataW.weightsAll, List.mem_append]
    rcases List.mem_cons.1 h with rfl | h
    · exact .inl hn
    · exact .inr (weightsAll_mem h n hn)
theorem tile_le {F : TypeId → Bool} : ∀ {fs : List Field} {o tot : Nat}, tile P F fs o tot = true → o ≤ tot
  | [], o, tot, h => by simp [tile] at h; omega
  | f :: fs, o, tot, h => by
    simp only [tile, Bool.and_eq_true] at h
    have := tile_le h.2
    omega
theorem tile_mem {F : TypeId → Bool} : ∀ {fs : List Field} {o tot : Nat}, tile P F fs o tot = true → ∀ f ∈ fs, F f.type = true
  | f :: fs, o, tot, h, g, hg => by
    simp only [tile, Bool.and_eq_true] at h
    rcases List.mem_cons.1 hg with rfl | hg
    · exact h.1.2
    · exact tile_mem h.2 g hg
theorem tile_open {F : TypeId → Bool} {D : Nat} {ys : List Value} : ∀ {fs : List Field} {o tot : Nat}, tile P F fs o tot = true → ys.length = tot →
    (∀ f ∈ fs, ∃ cs, RelL M W cs ((ys.drop f.offset).take (P.cellsOf f.type)) ∧ (∀ x ∈ cs, V.one x = true) ∧ WTR P R D f.type cs) →
    ∃ vs, RelL M W vs (ys.drop o) ∧ (∀ x ∈ vs, V.one x = true) ∧ ∀ f ∈ fs, o ≤ f.offset ∧ WTR P R D f.type ((vs.drop (f.offset - o)).take (P.cellsOf f.type))
  | [], o, tot, h, hl, _ => by
    simp [tile] at h
    subst h
    exact ⟨[], by rw [List.drop_eq_nil_of_le (by omega)]; exact .nil, by simp, by simp⟩
  | f :: fs, o, tot, h, hl, hf => by
    simp only [tile, Bool.and_eq_true, beq_iff_eq] at h
    obtain ⟨⟨h1, h2⟩, h3⟩ := h
    have hle := tile_le h3
    obtain ⟨cs, r1, r2, r3⟩ := hf f (by simp)
    rw [h1] at r1
    obtain ⟨vs, v1, v2, v3⟩ := tile_open h3 hl fun g hg => hf g (by simp [hg])
    have hcl := r1.length
    rw [List.length_take, List.length_drop, Nat.min_eq_left (by omega)] at hcl
    refine ⟨cs ++ vs, ?_, ?_, ?_⟩
    · have := r1.append v1
      rwa [← List.drop_drop, List.take_append_drop] at this
    · intro x hx
      rcases List.mem_append.1 hx with hx | hx
      · exact r2 x hx
      · exact v2 x hx
    · intro g hg
      rcases List.mem_cons.1 hg with rfl | hg
      · refine ⟨by omega, ?_⟩
        rw [h1, Nat.sub_self, List.drop_zero, ← hcl, List.take_left]; exact r3
      · obtain ⟨a1, a2⟩ := v3 g hg
        refine ⟨by omega, ?_⟩
        rw [List.drop_append, List.drop_eq_nil_of_le (by omega), List.nil_append, show g.offset - o - cs.length = g.offset - (o + P.cellsOf f.type) by omega]
        exact a2
theorem open_wt : ∀ (D : Nat) (fuel : Nat) (t : TypeId) (ys : List Value) (d : DataW H) (ps : List MemPlace), okT P D t = true →
    DataW.trod enc P W 0 (fun _ => true) true fuel t ys = some (d, ps) → (∀ n ∈ d.weights P t, n ≤ R) →
    ∃ cs, RelL (MW W) W cs ys ∧ (∀ x ∈ cs, V.one x = true) ∧ WTR P R D t cs := by
  intro D
  induction D with
  | zero => intro fuel t ys d ps h; simp [okT] at h
  | succ D ih =>
    intro fuel t ys d ps h ht hw
    unfold okT at h
    split at h
    · rename_i hu
      obtain ⟨b, rfl, hx⟩ := DataW.trod_bool hu ht
      exact ⟨[.b b], .cons _ _ _ _ (.b b) .nil, by simp [V.one], by simp [WTR, hu]⟩
    · rename_i k hu
      obtain ⟨n, rfl, hx, hwf⟩ := DataW.trod_int hu ht
      refine ⟨[.i k n], .cons _ _ _ _ (.i k n) .nil, by simp [V.one], ?_⟩
      simp only [WTR, hu]
      simp only [Lit.wf, Bool.and_eq_true, decide_eq_true_eq] at hwf
      exact ⟨n, rfl, hwf.1, hwf.2⟩
    · rename_i hu
      obtain ⟨s, rfl, hx, hs⟩ := DataW.trod_string hu ht
      refine ⟨[.s s], .cons _ _ _ _ (.s s) .nil, by simp [V.one], ?_⟩
      simp only [WTR, hu]
      obtain ⟨rfl, _⟩ := Prod.mk.inj hx
      have := hw s.data.toList.length (by simp [DataW.weights])
      exact ⟨s, rfl, by simpa using this⟩
    · rename_i e hu
      simp only [Bool.and_eq_true, beq_iff_eq] at h
      rcases DataW.trod_slice hu ht with ⟨rfl, _⟩ | ⟨a, len, cap, elems, rest, n, rfl, rfl, hx, _, hlc, _, hel, hcells, _, _⟩
      · exact ⟨[.nils], .cons _ _ _ _ .nils .nil, by simp [V.one], by simp [WTR, hu]⟩
      · obtain ⟨rfl, _⟩ := Prod.mk.inj hx
        simp only [DataW.weights, hu, List.length_map] at hw
        have key : ∀ m, m ≤ len → ∃ els vs, els.length = m * P.cellsOf e ∧ RelL (MW W) W els vs ∧ (∀ x ∈ els, V.one x = true) ∧ (∀ j y, vs[j]? = some y → W.cell? (a.add j) = some y) ∧ ∀ i, i < m → WTR P R D e ((els.drop (i * P.cellsOf e)).take (P.cellsOf e)) := by
          intro m
          induction m with
          | zero => intro _; exact ⟨[], [], by simp, .nil, by simp, by simp, fun i hi => by omega⟩
          | succ m ihm =>
            intro hm
            obtain ⟨els, vs, k1, k2, k3, k4, k5⟩ := ihm (by omega)
            have hc := hcells m (by omega)
            obtain ⟨el, hel'⟩ : ∃ el, elems[m]? = some el := ⟨elems[m]'(by omega), by rw [List.getElem?_eq_getElem (by omega)]⟩
            rw [hel'] at hc
            obtain ⟨ysm, c1, c2⟩ := Option.bind_eq_some_iff.1 hc
            obtain ⟨dm, pm⟩ := el
            obtain ⟨cs, r1, r2, r3⟩ := ih n e ysm dm pm h.2 c2 (fun q hq => hw q (List.mem_cons_of_mem _ (List.mem_append.2 (.inl (weightsAll_mem (List.mem_map.2 ⟨(dm, pm), List.mem_of_getElem? hel', rfl⟩) q hq)))))
            unfold World.cells? at c1
            rw [if_pos (Nat.zero_le _)] at c1
            have hyl : ysm.length = P.cellsOf e := by simpa using mapM_some_length c1
            have hcl := r1.length
            have hvl := k2.length
            refine ⟨els ++ cs, vs ++ ysm, by rw [List.length_append, k1, hcl, hyl, Nat.succ_mul], k2.append r1, ?_, ?_, ?_⟩
            · intro x hx
              rcases List.mem_append.1 hx with hx | hx
              · exact k3 x hx
              · exact r2 x hx
            · intro j y hy
              rcases Nat.lt_or_ge j vs.length with hj | hj
              · rw [List.getElem?_append_left hj] at hy
                exact k4 j y hy
              · rw [List.getElem?_append_right hj] at hy
                have hjl := (List.getElem?_eq_some_iff.1 hy).1
                have := mapM_some_get c1 (j - vs.length) (j - vs.length) (by rw [List.getElem?_range (by omega)])
                rw [hy, Addr.add_add] at this
                rw [← this]; congr 2; omega
            · intro i hi
              rcases Nat.lt_or_ge i m with hj | hj
              · have : (i + 1) * P.cellsOf e ≤ m * P.cellsOf e := Nat.mul_le_mul_right _ (by omega)
                rw [Nat.succ_mul] at this
                rw [List.drop_append, List.take_append, List.length_drop, show P.cellsOf e - (els.length - i * P.cellsOf e) = 0 by omega, List.take_zero, List.append_nil]
                exact k5 i hj
              · have : i = m := by omega
                subst this
                rw [List.drop_append, List.drop_eq_nil_of_le (by omega), List.nil_append, k1, Nat.sub_self, List.drop_zero, ← hyl, ← hcl, List.take_length]
                exact r3
        obtain ⟨els, vs, k1, k2, k3, k4, k5⟩ := key len (Nat.le_refl _)
        have hb := hw _ (List.mem_cons_self)
        refine ⟨[.arr els len false], .cons _ _ _ _ (.arr els len false a vs cap (fun hne => ?_) k3 k2 k4 hlc (fun e => by cases e)) .nil, by simp [V.one], ?_⟩
        · have hl2 := k2.length
          obtain ⟨v0, hv0⟩ : ∃ v, vs[0]? = some v := by
            cases vs with
            | nil => exact absurd (List.eq_nil_of_length_eq_zero hl2) hne
            | cons v vs => exact ⟨v, rfl⟩
          have hcc := k4 0 v0 hv0
          have : (a.add 0).block = a.block := by unfold Addr.add; split <;> rfl
          show a.block < W.heap.size
          rw [← this]
          unfold World.cell? at hcc
          cases hb : W.heap[(a.add 0).block]? with
          | none => rw [hb] at hcc; simp at hcc
          | some o => exact (Array.getElem?_eq_some_iff.1 hb).1
        · simp only [WTR, hu]
          refine .inr ⟨els, len, rfl, k1, ?_, k5⟩
          rw [hel] at hb
          exact Nat.le_trans (Nat.mul_le_mul_right _ (Nat.le_add_right _ _)) hb
    · rename_i fs hu
      obtain ⟨xs, n, rfl, hx, hl, hxl, hg⟩ := DataW.trod_struct hu ht
      obtain ⟨rfl, _⟩ := Prod.mk.inj hx
      simp only [DataW.weights, hu] at hw
      obtain ⟨vs, v1, v2, v3⟩ := tile_open (M := MW W) (W := W) (D := D) h hl fun f hf => by
        obtain ⟨i, hi⟩ := List.mem_iff_getElem?.1 hf
        have hfi : fs[i]? = some f := by simpa using hi
        have hi2 : i < xs.length := by
          have := (List.getElem?_eq_some_iff.1 hi).1
          simp at this; omega
        have h1 := hg i f hfi
        rw [List.getElem?_eq_getElem hi2] at h1
        refine ih n f.type _ (xs[i]).1 (xs[i]).2 (tile_mem h f hf) (by rw [h1]) fun q hq => hw q ?_
        exact DataW.weights_mem_each (j := i) (t := f.type) (d := (xs[i]).1) (by rw [List.getElem?_map, hi]; rfl) (by rw [List.getElem?_map, List.getElem?_eq_getElem hi2]; rfl) q hq
      refine ⟨vs, by simpa using v1, v2, ?_⟩
      simp only [WTR, hu]
      refine ⟨by rw [v1.length, List.drop_zero, hl], fun f hf => ?_⟩
      have := (v3 f hf).2
      rwa [Nat.sub_zero] at this
    · rename_i n e hu
      simp only [Bool.and_eq_true, beq_iff_eq] at h
      obtain ⟨xs, m, rfl, hx, hl, hxl, hg⟩ := DataW.trod_array hu ht
      obtain ⟨rfl, _⟩ := Prod.mk.inj hx
      simp only [DataW.weights, hu] at hw
      have key : ∀ m', m' ≤ n → ∃ els, els.length = m' * P.cellsOf e ∧ RelL (MW W) W els (ys.take (m' * P.cellsOf e)) ∧ (∀ x ∈ els, V.one x = true) ∧ ∀ i, i < m' → WTR P R D e ((els.drop (i * P.cellsOf e)).take (P.cellsOf e)) := by
        intro m'
        induction m' with
        | zero => intro _; exact ⟨[], by simp, by simpa using RelL.nil, by simp, fun i hi => by omega⟩
        | succ m' ihm =>
          intro hm
          obtain ⟨els, k1, k2, k3, k5⟩ := ihm (by omega)
          have hc := hg m' (by omega)
          rw [List.getElem?_eq_getElem (show m' < xs.length by omega)] at hc
          obtain ⟨cs, r1, r2, r3⟩ := ih m e _ (xs[m']).1 (xs[m']).2 h.2 (by rw [hc]) (fun q hq => hw q (weightsAll_mem (List.mem_map.2 ⟨xs[m'], List.getElem_mem _, rfl⟩) q hq))
          have hle : m' * P.cellsOf e + P.cellsOf e ≤ ys.length := by
            rw [hl, h.1, ← Nat.succ_mul]; exact Nat.mul_le_mul_right _ hm
          have hcl := r1.length
          rw [List.length_take, List.length_drop, Nat.min_eq_left (by omega)] at hcl
          refine ⟨els ++ cs, by rw [List.length_append, k1, hcl, Nat.succ_mul], ?_, ?_, ?_⟩
          · rw [Nat.succ_mul, List.take_add]
            exact k2.append r1
          · intro x hx
            rcases List.mem_append.1 hx with hx | hx
            · exact k3 x hx
            · exact r2 x hx
          · intro i hi
            rcases Nat.lt_or_ge i m' with hj | hj
            · have : (i + 1) * P.cellsOf e ≤ m' * P.cellsOf e := Nat.mul_le_mul_right _ (by omega)
              rw [Nat.succ_mul] at this
              rw [List.drop_append, List.take_append, List.length_drop, show P.cellsOf e - (els.length - i * P.cellsOf e) = 0 by omega, List.take_zero, List.append_nil]
              exact k5 i hj
            · have : i = m' := by omega
              subst this
              rw [List.drop_append, List.drop_eq_nil_of_le (by omega), List.nil_append, k1, Nat.sub_self, List.drop_zero, ← hcl, List.take_length]
              exact r3
      obtain ⟨els, k1, k2, k3, k5⟩ := key n (Nat.le_refl _)
      rw [List.take_of_length_le (by rw [hl, h.1]; exact Nat.le_refl _)] at k2
      refine ⟨els, k2, k3, ?_⟩
      simp only [WTR, hu]
      exact ⟨by rw [k1, h.1], k5⟩
    · cases h
end
end Go.Am

/- A law that answers true, of arguments of plain types. -/
namespace Go.Am
open Go Go.ChangeShapes Go.WideShapes Go.ChangeAt Go.RowKit
set_option linter.unusedVariables false
set_option linter.unusedSimpArgs false
section
variable {H : Type} {enc : TypeId × Value → H} {P : Program} {W : World} {R : Nat}
def aggT (P : Program) (t : TypeId) : Bool :=
  match P.underlying t with
  | some (.struct _) | some (.array _ _) => true
  | _ => false
def argV (P : Program) (t : TypeId) (cs : List V) : V := if aggT P t then .agg cs else cs.headD .un
theorem open_arg {t : TypeId} {v : Value} {base : Nat} {d : DataW H} {ps : List MemPlace} (h : okT P 20 t = true) (hv : Value.okWide P W .any base t v)
    (ht : DataW.Trod enc P W 0 (fun _ => true) true t v d ps) (hw : ∀ n ∈ d.weights P t, n ≤ R) :
    ∃ cs, Rel (MW W) W (argV P t cs) v ∧ (∀ x ∈ cs, V.one x = true) ∧ WTR P R 20 t cs := by
  obtain ⟨fuel, ht⟩ := ht
  obtain ⟨cs, h1, h2, h3⟩ := open_wt 20 fuel t _ d ps h ht hw
  refine ⟨cs, ?_, h2, h3⟩
  have scalar : aggT P t = false → v.cells.toList = [v] → Rel (MW W) W (argV P t cs) v := by
    intro ha hc
    rw [hc] at h1
    cases h1 with
    | cons x y xs ys hr hs => cases hs; simp only [argV, ha, Bool.false_eq_true, if_false, List.headD_cons]; exact hr
  unfold okT at h
  split at h
  · rename_i hu
    obtain ⟨b, hb⟩ : ∃ b, v = .bool b := by
      have hs := hv
      simp only [Value.okWide, hu, Cell.okWide] at hs
      cases v <;> simp_all [Cell.ok]
    subst hb
    exact scalar (by simp [aggT, hu]) rfl
  · rename_i k hu
    obtain ⟨n, rfl⟩ := okWide_int hu hv
    exact scalar (by simp [aggT, hu]) rfl
  · rename_i hu
    obtain ⟨n, rfl⟩ := okWide_string hu hv
    exact scalar (by simp [aggT, hu]) rfl
  · rename_i e hu
    obtain ⟨a, l, c, rfl⟩ := okWide_slice hu hv
    exact scalar (by simp [aggT, hu]) rfl
  · rename_i fs hu
    simp only [Value.okWide, hu] at hv
    obtain ⟨ys, rfl, _⟩ := hv
    simp only [argV, aggT, hu, if_true]
    have := Rel.agg (M := MW W) (w := W) cs ys.toList h2 (by simpa [Value.cells] using h1)
    simpa using this
  · rename_i n e hu
    simp only [Value.okWide, hu] at hv
    obtain ⟨ys, rfl, _⟩ := hv
    simp only [argV, aggT, hu, if_true]
    have := Rel.agg (M := MW W) (w := W) cs ys.toList h2 (by simpa [Value.cells] using h1)
    simpa using this
  · cases h
def WTAR (P : Program) (R : Nat) : List TypeId → List V → Prop
  | [], xs => xs = []
  | t :: ts, xs => ∃ cs ys, xs = argV P t cs :: ys ∧ (∀ x ∈ cs, V.one x = true) ∧ WTR P R 20 t cs ∧ WTAR P R ts ys
abbrev WTA (P : Program) : List TypeId → List V → Prop := WTAR P reachBytes
theorem open_args {base : Nat} : ∀ {ts : List TypeId} {vs : List Value} {ds : List (DataW H)} {ps : List MemPlace}, ts.all (okT P 20) = true → (∀ (j : Nat) t v, ts[j]? = some t → vs[j]? = some v → Value.okWide P W .any base t v) →
    DataW.TrodAll enc P W 0 (fun _ => true) true ts vs ds ps → (∀ n ∈ DataW.weightsEach P ts ds, n ≤ R) →
    ∃ xs, RelL (MW W) W xs vs ∧ WTAR P R ts xs
  | [], [], [], ps, _, _, _, _ => ⟨[], .nil, rfl⟩
  | [], [], _ :: _, ps, _, _, h, _ => by simp [DataW.TrodAll] at h
  | [], _ :: _, _, ps, _, _, h, _ => by simp [DataW.TrodAll] at h
  | t :: ts, vs, ds, ps, ha, hv, h, hw => by
    obtain ⟨v, vs, d, ds, p, q, rfl, rfl, rfl, h1, h2⟩ := trodAll_cons h
    simp only [List.all_cons, Bool.and_eq_true] at ha
    obtain ⟨cs, r1, r2, r3⟩ := open_arg ha.1 (hv 0 t v rfl rfl) h1 (fun n hn => hw n (by simp only [DataW.weightsEach, List.mem_append]; exact .inl hn))
    obtain ⟨xs, s1, s2⟩ := open_args ha.2 (fun j t' v' a b => hv (j + 1) t' v' (by simpa using a) (by simpa using b)) h2 (fun n hn => hw n (by simp only [DataW.weightsEach, List.mem_append]; exact .inr hn))
    exact ⟨argV P t cs :: xs, .cons _ _ _ _ r1 s1, cs, xs, rfl, r2, r3, s2⟩
theorem shut_args (hl : laidOutB P = true) {W' : World} (hb : Below W.heap.size W W') : ∀ {ts : List TypeId} {vs : List Value} {ds : List (DataW H)} {ps : List MemPlace},
    (ts.all fun t => P.readableRec t && decide (t < P.types.size)) = true → DataW.TrodAll enc P W 0 (fun _ => true) true ts vs ds ps →
    DataW.TrodAll enc P W' 0 (fun b => decide (b < W.heap.size)) true ts vs ds ps
  | [], [], [], ps, _, h => h
  | [], [], _ :: _, ps, _, h => by simp [DataW.TrodAll] at h
  | [], _ :: _, _, ps, _, h => by simp [DataW.TrodAll] at h
  | t :: ts, vs, ds, ps, ha, h => by
    obtain ⟨v, vs, d, ds, p, q, rfl, rfl, rfl, h1, h2⟩ := trodAll_cons h
    simp only [List.all_cons, Bool.and_eq_true, decide_eq_true_eq] at ha
    refine trodAll_cons_mk (Below.trod hl ha.1.1 ha.1.2 h1 hb ?_) (shut_args hl hb (by simpa using ha.2) h2)
    obtain ⟨m, hm⟩ := h1
    exact fun x hx => DataW.trod_lt m _ _ _ hm x hx
theorem law_callR {C : Cfg} (hp : PrimOk C) (hk : fnsOk C = true) (hm : C.P.follows .mixedOrders = true) (hg : GR C (MW W) W) {f : Nat} {fn : Func} {c : Code} (h1 : C.prim f = none) (h2 : C.bar f = false) (h3 : C.P.funcs[f]? = some fn) (h4 : fn.body = some c)
    (hl : laidOutB C.P = true) {ts : List TypeId} (hts : (ts.all fun t => okT C.P 20 t && (C.P.readableRec t && decide (t < C.P.types.size))) = true)
    (run : ∀ xs, WTAR C.P R ts xs → runF C f xs [] [] = some (.b true, [])) {base : Nat} {args : Array Value} {ds : List (DataW H)} {p : List MemPlace}
    (hval : ∀ (j : Nat) t v, ts[j]? = some t → args[j]? = some v → Value.okWide C.P W .any base t v) (hA : DataW.TrodAll enc C.P W 0 (fun _ => true) true ts args.toList ds p)
    (hsz : (DataW.weightsEach C.P ts ds).all (· ≤ R) = true) :
    Calls C.P f args W fun e W' => e = .returned (.bool true) ∧ Below W.heap.size W W' ∧ DataW.TrodAll enc C.P W' 0 (fun b => decide (b < W.heap.size)) true ts args.toList ds p := by
  obtain ⟨xs, r1, r2⟩ := open_args (W := W) (ts := ts) (vs := args.toList) (by rw [List.all_eq_true] at hts ⊢; exact fun t ht => (Bool.and_eq_true_iff.1 (hts t ht)).1) (fun j t v a b => hval j t v a (by simpa using b)) hA (fun n hn => by have := List.all_eq_true.1 hsz n hn; simpa using this)
  refine (true_of_run hp hk hm h1 h2 h3 h4 hg r1 (run xs r2)).mono fun e W' ⟨he, bel⟩ => ⟨he, bel, shut_args hl bel (by rw [List.all_eq_true] at hts ⊢; exact fun t ht => (Bool.and_eq_true_iff.1 (hts t ht)).2) hA⟩
theorem law_call {C : Cfg} (hp : PrimOk C) (hk : fnsOk C = true) (hm : C.P.follows .mixedOrders = true) (hg : GR C (MW W) W) {f : Nat} {fn : Func} {c : Code} (h1 : C.prim f = none) (h2 : C.bar f = false) (h3 : C.P.funcs[f]? = some fn) (h4 : fn.body = some c)
    (hl : laidOutB C.P = true) {ts : List TypeId} (hts : (ts.all fun t => okT C.P 20 t && (C.P.readableRec t && decide (t < C.P.types.size))) = true)
    (run : ∀ xs, WTA C.P ts xs → runF C f xs [] [] = some (.b true, [])) {base : Nat} {args : Array Value} {ds : List (DataW H)} {p : List MemPlace}
    (hval : ∀ (j : Nat) t v, ts[j]? = some t → args[j]? = some v → Value.okWide C.P W .any base t v) (hA : DataW.TrodAll enc C.P W 0 (fun _ => true) true ts args.toList ds p)
    (hsz : (DataW.weightsEach C.P ts ds).all (· ≤ reachBytes) = true) :
    Calls C.P f args W fun e W' => e = .returned (.bool true) ∧ Below W.heap.size W W' ∧ DataW.TrodAll enc C.P W' 0 (fun b => decide (b < W.heap.size)) true ts args.toList ds p :=
  law_callR hp hk hm hg h1 h2 h3 h4 hl hts run hval hA hsz
theorem wta_nil {xs : List V} (h : WTAR P R [] xs) : xs = [] := h
theorem wta_cons {t : TypeId} {ts : List TypeId} {xs : List V} (h : WTAR P R (t :: ts) xs) : ∃ cs ys, xs = argV P t cs :: ys ∧ (∀ x ∈ cs, V.one x = true) ∧ WTR P R 20 t cs ∧ WTAR P R ts ys := h
theorem argV_one {t : TypeId} {x : V} (h : aggT P t = false) : argV P t [x] = x := by simp [argV, h]
theorem argV_agg {t : TypeId} {cs : List V} (h : aggT P t = true) : argV P t cs = .agg cs := by simp [argV, h]
theorem wt_int {D : Nat} {t : TypeId} {cs : List V} {k : IntKind} (hu : P.underlying t = some (.int k)) (h : WT P (D + 1) t cs) : ∃ n, cs = [.i k n] ∧ k.min ≤ n ∧ n ≤ k.max := by simpa [WT, WTR, hu] using h
theorem wt_bool {D : Nat} {t : TypeId} {cs : List V} (hu : P.underlying t = some .bool) (h : WT P (D + 1) t cs) : ∃ b, cs = [.b b] := by simpa [WT, WTR, hu] using h
theorem wt_slice {D : Nat} {t e : TypeId} {cs : List V} (hu : P.underlying t = some (.slice e)) (h : WT P (D + 1) t cs) :
    cs = [.nils] ∨ ∃ (els : List V) (n : Nat), cs = [.arr els n false] ∧ els.length = n * P.cellsOf e ∧ n * P.bytesOf e ≤ 140737488351232 ∧ ∀ i, i < n → WT P D e ((els.drop (i * P.cellsOf e)).take (P.cellsOf e)) := by
  have : cs = [.nils] ∨ ∃ (els : List V) (n : Nat), cs = [.arr els n false] ∧ els.length = n * P.cellsOf e ∧ n * P.bytesOf e ≤ reachBytes ∧ ∀ i, i < n → WT P D e ((els.drop (i * P.cellsOf e)).take (P.cellsOf e)) := by
    simpa only [WT, WTR, hu] using h
  exact this
theorem wt_struct {D : Nat} {t : TypeId} {fs : Array Field} {cs : List V} (hu : P.underlying t = some (.struct fs)) (h : WT P (D + 1) t cs) :
    cs.length = P.cellsOf t ∧ ∀ f ∈ fs.toList, WT P D f.type ((cs.drop f.offset).take (P.cellsOf f.type)) := by simpa only [WT, WTR, hu] using h
theorem wt_array {D n : Nat} {t e : TypeId} {cs : List V} (hu : P.underlying t = some (.array n e)) (h : WT P (D + 1) t cs) :
    cs.length = P.cellsOf t ∧ ∀ i, i < n → WT P D e ((cs.drop (i * P.cellsOf e)).take (P.cellsOf e)) := by simpa only [WT, WTR, hu] using h
theorem take1 {cs : List V} {x : V} {i : Nat} (h : (cs.drop i).take 1 = [x]) : cs[i]? = some x := by
  have := congrArg (fun l => l[0]?) h
  simpa [List.getElem?_take, List.getElem?_drop] using this
theorem ints_of {k : IntKind} {cs : List V} (h : ∀ i, i < cs.length → ∃ n, cs[i]? = some (.i k n) ∧ k.min ≤ n ∧ n ≤ k.max) : ∃ l : List Int, cs = ints k l ∧ ∀ n ∈ l, k.min ≤ n ∧ n ≤ k.max := by
  induction cs with
  | nil => exact ⟨[], rfl, by simp⟩
  | cons c cs ih =>
    obtain ⟨n, h1, h2⟩ := h 0 (by simp)
    obtain ⟨l, rfl, hl⟩ := ih fun i hi => by have := h (i + 1) (by simp; omega); simpa using this
    simp at h1
    subst h1
    refine ⟨n :: l, rfl, fun m hm => ?_⟩
    rcases List.mem_cons.1 hm with rfl | hm
    · exact h2
    · exact hl m hm
theorem wt_ints {D : Nat} {t e : TypeId} {k : IntKind} {cs : List V} {B : Nat} (hu : P.underlying t = some (.slice e)) (he : P.underlying e = some (.int k)) (hc : P.cellsOf e = 1) (hB : P.bytesOf e = B) (h : WT P (D + 2) t cs) :
    ∃ (x : V) (l : List Int), cs = [x] ∧ View [] x (ints k l) ∧ l.length * B ≤ 140737488351232 ∧ ∀ n ∈ l, k.min ≤ n ∧ n ≤ k.max := by
  rcases wt_slice hu h with rfl | ⟨els, n, rfl, h1, h2, h3⟩
  · exact ⟨.nils, [], rfl, rfl, by simp, by simp⟩
  · rw [hc, Nat.mul_one] at h1
    obtain ⟨l, rfl, hl⟩ := ints_of (k := k) (cs := els) fun i hi => by
      have := h3 i (by omega)
      rw [hc, Nat.mul_one] at this
      obtain ⟨m, e1, e2⟩ := wt_int he this
      exact ⟨m, take1 e1, e2⟩
    rw [ints_len] at h1
    subst h1
    exact ⟨_, l, rfl, ⟨rfl, by rw [ints_len]⟩, by rw [← hB]; exact h2, hl⟩
end
end Go.Am
