/- A law that answers true, of arguments of plain types. -/
import Derived.Test.YtibhpbpjdgodnaaGreatDoorAmArgs
namespace Go.Am
open Go Go.ChangeShapes Go.WideShapes Go.ChangeAt Go.RowKit
set_option linter.unusedVariables false
set_option linter.unusedSimpArgs false
section
variable {H : Type} {enc : TypeId × Value → H} {P : Program} {W : World} {R : Nat}
def aggT (P : Program) (t : TypeId) : Bool :=
  match P.underlying t with
  | some (.struct _) | some (.array _ _) => true
  | _ => false
def argV (P : Program) (t : TypeId) (cs : List V) : V := if aggT P t then .agg cs else cs.headD .un
theorem open_arg {t : TypeId} {v : Value} {base : Nat} {d : DataW H} {ps : List MemPlace} (h : okT P 20 t = true) (hv : Value.okWide P W .any base t v)
    (ht : DataW.Trod enc P W 0 (fun _ => true) true t v d ps) (hw : ∀ n ∈ d.weights P t, n ≤ R) :
    ∃ cs, Rel (MW W) W (argV P t cs) v ∧ (∀ x ∈ cs, V.one x = true) ∧ WTR P R 20 t cs := by
  obtain ⟨fuel, ht⟩ := ht
  obtain ⟨cs, h1, h2, h3⟩ := open_wt 20 fuel t _ d ps h ht hw
  refine ⟨cs, ?_, h2, h3⟩
  have scalar : aggT P t = false → v.cells.toList = [v] → Rel (MW W) W (argV P t cs) v := by
    intro ha hc
    rw [hc] at h1
    cases h1 with
    | cons x y xs ys hr hs => cases hs; simp only [argV, ha, Bool.false_eq_true, if_false, List.headD_cons]; exact hr
  unfold okT at h
  split at h
  · rename_i hu
    obtain ⟨b, hb⟩ : ∃ b, v = .bool b := by
      have hs := hv
      simp only [Value.okWide, hu, Cell.okWide] at hs
      cases v <;> simp_all [Cell.ok]
    subst hb
    exact scalar (by simp [aggT, hu]) rfl
  · rename_i k hu
    obtain ⟨n, rfl⟩ := okWide_int hu hv
    exact scalar (by simp [aggT, hu]) rfl
  · rename_i hu
    obtain ⟨n, rfl⟩ := okWide_string hu hv
    exact scalar (by simp [aggT, hu]) rfl
  · rename_i e hu
    obtain ⟨a, l, c, rfl⟩ := okWide_slice hu hv
    exact scalar (by simp [aggT, hu]) rfl
  · rename_i fs hu
    simp only [Value.okWide, hu] at hv
    obtain ⟨ys, rfl, _⟩ := hv
    simp only [argV, aggT, hu, if_true]
    have := Rel.agg (M := MW W) (w := W) cs ys.toList h2 (by simpa [Value.cells] using h1)
    simpa using this
  · rename_i n e hu
    simp only [Value.okWide, hu] at hv
    obtain ⟨ys, rfl, _⟩ := hv
    simp only [argV, aggT, hu, if_true]
    have := Rel.agg (M := MW W) (w := W) cs ys.toList h2 (by simpa [Value.cells] using h1)
    simpa using this
  · cases h
/-- Arguments of their types. -/
def WTAR (P : Program) (R : Nat) : List TypeId → List V → Prop
  | [], xs => xs = []
  | t :: ts, xs => ∃ cs ys, xs = argV P t cs :: ys ∧ (∀ x ∈ cs, V.one x = true) ∧ WTR P R 20 t cs ∧ WTAR P R ts ys
abbrev WTA (P : Program) : List TypeId → List V → Prop := WTAR P reachBytes
theorem open_args {base : Nat} : ∀ {ts : List TypeId} {vs : List Value} {ds : List (DataW H)} {ps : List MemPlace}, ts.all (okT P 20) = true → (∀ (j : Nat) t v, ts[j]? = some t → vs[j]? = some v → Value.okWide P W .any base t v) →
    DataW.TrodAll enc P W 0 (fun _ => true) true ts vs ds ps → (∀ n ∈ DataW.weightsEach P ts ds, n ≤ R) →
    ∃ xs, RelL (MW W) W xs vs ∧ WTAR P R ts xs
  | [], [], [], ps, _, _, _, _ => ⟨[], .nil, rfl⟩
  | [], [], _ :: _, ps, _, _, h, _ => by simp [DataW.TrodAll] at h
  | [], _ :: _, _, ps, _, _, h, _ => by simp [DataW.TrodAll] at h
  | t :: ts, vs, ds, ps, ha, hv, h, hw => by
    obtain ⟨v, vs, d, ds, p, q, rfl, rfl, rfl, h1, h2⟩ := trodAll_cons h
    simp only [List.all_cons, Bool.and_eq_true] at ha
    obtain ⟨cs, r1, r2, r3⟩ := open_arg ha.1 (hv 0 t v rfl rfl) h1 (fun n hn => hw n (by simp only [DataW.weightsEach, List.mem_append]; exact .inl hn))
    obtain ⟨xs, s1, s2⟩ := open_args ha.2 (fun j t' v' a b => hv (j + 1) t' v' (by simpa using a) (by simpa using b)) h2 (fun n hn => hw n (by simp only [DataW.weightsEach, List.mem_append]; exact .inr hn))
    exact ⟨argV P t cs :: xs, .cons _ _ _ _ r1 s1, cs, xs, rfl, r2, r3, s2⟩
theorem shut_args (hl : laidOutB P = true) {W' : World} (hb : Below W.heap.size W W') : ∀ {ts : List TypeId} {vs : List Value} {ds : List (DataW H)} {ps : List MemPlace},
    (ts.all fun t => P.readableRec t && decide (t < P.types.size)) = true → DataW.TrodAll enc P W 0 (fun _ => true) true ts vs ds ps →
    DataW.TrodAll enc P W' 0 (fun b => decide (b < W.heap.size)) true ts vs ds ps
  | [], [], [], ps, _, h => h
  | [], [], _ :: _, ps, _, h => by simp [DataW.TrodAll] at h
  | [], _ :: _, _, ps, _, h => by simp [DataW.TrodAll] at h
  | t :: ts, vs, ds, ps, ha, h => by
    obtain ⟨v, vs, d, ds, p, q, rfl, rfl, rfl, h1, h2⟩ := trodAll_cons h
    simp only [List.all_cons, Bool.and_eq_true, decide_eq_true_eq] at ha
    refine trodAll_cons_mk (Below.trod hl ha.1.1 ha.1.2 h1 hb ?_) (shut_args hl hb (by simpa using ha.2) h2)
    obtain ⟨m, hm⟩ := h1
    exact fun x hx => DataW.trod_lt m _ _ _ hm x hx
/-- A law's call. -/
theorem law_callR {C : Cfg} (hp : PrimOk C) (hk : fnsOk C = true) (hm : C.P.follows .mixedOrders = true) (hg : GR C (MW W) W) {f : Nat} {fn : Func} {c : Code} (h1 : C.prim f = none) (h2 : C.bar f = false) (h3 : C.P.funcs[f]? = some fn) (h4 : fn.body = some c)
    (hl : laidOutB C.P = true) {ts : List TypeId} (hts : (ts.all fun t => okT C.P 20 t && (C.P.readableRec t && decide (t < C.P.types.size))) = true)
    (run : ∀ xs, WTAR C.P R ts xs → runF C f xs [] [] = some (.b true, [])) {base : Nat} {args : Array Value} {ds : List (DataW H)} {p : List MemPlace}
    (hval : ∀ (j : Nat) t v, ts[j]? = some t → args[j]? = some v → Value.okWide C.P W .any base t v) (hA : DataW.TrodAll enc C.P W 0 (fun _ => true) true ts args.toList ds p)
    (hsz : (DataW.weightsEach C.P ts ds).all (· ≤ R) = true) :
    Calls C.P f args W fun e W' => e = .returned (.bool true) ∧ Below W.heap.size W W' ∧ DataW.TrodAll enc C.P W' 0 (fun b => decide (b < W.heap.size)) true ts args.toList ds p := by
  obtain ⟨xs, r1, r2⟩ := open_args (W := W) (ts := ts) (vs := args.toList) (by rw [List.all_eq_true] at hts ⊢; exact fun t ht => (Bool.and_eq_true_iff.1 (hts t ht)).1) (fun j t v a b => hval j t v a (by simpa using b)) hA (fun n hn => by have := List.all_eq_true.1 hsz n hn; simpa using this)
  refine (true_of_run hp hk hm h1 h2 h3 h4 hg r1 (run xs r2)).mono fun e W' ⟨he, bel⟩ => ⟨he, bel, shut_args hl bel (by rw [List.all_eq_true] at hts ⊢; exact fun t ht => (Bool.and_eq_true_iff.1 (hts t ht)).2) hA⟩
theorem law_call {C : Cfg} (hp : PrimOk C) (hk : fnsOk C = true) (hm : C.P.follows .mixedOrders = true) (hg : GR C (MW W) W) {f : Nat} {fn : Func} {c : Code} (h1 : C.prim f = none) (h2 : C.bar f = false) (h3 : C.P.funcs[f]? = some fn) (h4 : fn.body = some c)
    (hl : laidOutB C.P = true) {ts : List TypeId} (hts : (ts.all fun t => okT C.P 20 t && (C.P.readableRec t && decide (t < C.P.types.size))) = true)
    (run : ∀ xs, WTA C.P ts xs → runF C f xs [] [] = some (.b true, [])) {base : Nat} {args : Array Value} {ds : List (DataW H)} {p : List MemPlace}
    (hval : ∀ (j : Nat) t v, ts[j]? = some t → args[j]? = some v → Value.okWide C.P W .any base t v) (hA : DataW.TrodAll enc C.P W 0 (fun _ => true) true ts args.toList ds p)
    (hsz : (DataW.weightsEach C.P ts ds).all (· ≤ reachBytes) = true) :
    Calls C.P f args W fun e W' => e = .returned (.bool true) ∧ Below W.heap.size W W' ∧ DataW.TrodAll enc C.P W' 0 (fun b => decide (b < W.heap.size)) true ts args.toList ds p :=
  law_callR hp hk hm hg h1 h2 h3 h4 hl hts run hval hA hsz
theorem wta_nil {xs : List V} (h : WTAR P R [] xs) : xs = [] := h
theorem wta_cons {t : TypeId} {ts : List TypeId} {xs : List V} (h : WTAR P R (t :: ts) xs) : ∃ cs ys, xs = argV P t cs :: ys ∧ (∀ x ∈ cs, V.one x = true) ∧ WTR P R 20 t cs ∧ WTAR P R ts ys := h
theorem argV_one {t : TypeId} {x : V} (h : aggT P t = false) : argV P t [x] = x := by simp [argV, h]
theorem argV_agg {t : TypeId} {cs : List V} (h : aggT P t = true) : argV P t cs = .agg cs := by simp [argV, h]
theorem wt_int {D : Nat} {t : TypeId} {cs : List V} {k : IntKind} (hu : P.underlying t = some (.int k)) (h : WT P (D + 1) t cs) : ∃ n, cs = [.i k n] ∧ k.min ≤ n ∧ n ≤ k.max := by simpa [WT, WTR, hu] using h
theorem wt_bool {D : Nat} {t : TypeId} {cs : List V} (hu : P.underlying t = some .bool) (h : WT P (D + 1) t cs) : ∃ b, cs = [.b b] := by simpa [WT, WTR, hu] using h
theorem wt_slice {D : Nat} {t e : TypeId} {cs : List V} (hu : P.underlying t = some (.slice e)) (h : WT P (D + 1) t cs) :
    cs = [.nils] ∨ ∃ (els : List V) (n : Nat), cs = [.arr els n false] ∧ els.length = n * P.cellsOf e ∧ n * P.bytesOf e ≤ 140737488351232 ∧ ∀ i, i < n → WT P D e ((els.drop (i * P.cellsOf e)).take (P.cellsOf e)) := by
  have : cs = [.nils] ∨ ∃ (els : List V) (n : Nat), cs = [.arr els n false] ∧ els.length = n * P.cellsOf e ∧ n * P.bytesOf e ≤ reachBytes ∧ ∀ i, i < n → WT P D e ((els.drop (i * P.cellsOf e)).take (P.cellsOf e)) := by
    simpa only [WT, WTR, hu] using h
  exact this
theorem wt_struct {D : Nat} {t : TypeId} {fs : Array Field} {cs : List V} (hu : P.underlying t = some (.struct fs)) (h : WT P (D + 1) t cs) :
    cs.length = P.cellsOf t ∧ ∀ f ∈ fs.toList, WT P D f.type ((cs.drop f.offset).take (P.cellsOf f.type)) := by simpa only [WT, WTR, hu] using h
theorem wt_array {D n : Nat} {t e : TypeId} {cs : List V} (hu : P.underlying t = some (.array n e)) (h : WT P (D + 1) t cs) :
    cs.length = P.cellsOf t ∧ ∀ i, i < n → WT P D e ((cs.drop (i * P.cellsOf e)).take (P.cellsOf e)) := by simpa only [WT, WTR, hu] using h
theorem take1 {cs : List V} {x : V} {i : Nat} (h : (cs.drop i).take 1 = [x]) : cs[i]? = some x := by
  have := congrArg (fun l => l[0]?) h
  simpa [List.getElem?_take, List.getElem?_drop] using this
/-- Cells that are whole numbers. -/
theorem ints_of {k : IntKind} {cs : List V} (h : ∀ i, i < cs.length → ∃ n, cs[i]? = some (.i k n) ∧ k.min ≤ n ∧ n ≤ k.max) : ∃ l : List Int, cs = ints k l ∧ ∀ n ∈ l, k.min ≤ n ∧ n ≤ k.max := by
  induction cs with
  | nil => exact ⟨[], rfl, by simp⟩
  | cons c cs ih =>
    obtain ⟨n, h1, h2⟩ := h 0 (by simp)
    obtain ⟨l, rfl, hl⟩ := ih fun i hi => by have := h (i + 1) (by simp; omega); simpa using this
    simp at h1
    subst h1
    refine ⟨n :: l, rfl, fun m hm => ?_⟩
    rcases List.mem_cons.1 hm with rfl | hm
    · exact h2
    · exact hl m hm
theorem wt_ints {D : Nat} {t e : TypeId} {k : IntKind} {cs : List V} {B : Nat} (hu : P.underlying t = some (.slice e)) (he : P.underlying e = some (.int k)) (hc : P.cellsOf e = 1) (hB : P.bytesOf e = B) (h : WT P (D + 2) t cs) :
    ∃ (x : V) (l : List Int), cs = [x] ∧ View [] x (ints k l) ∧ l.length * B ≤ 140737488351232 ∧ ∀ n ∈ l, k.min ≤ n ∧ n ≤ k.max := by
  rcases wt_slice hu h with rfl | ⟨els, n, rfl, h1, h2, h3⟩
  · exact ⟨.nils, [], rfl, rfl, by simp, by simp⟩
  · rw [hc, Nat.mul_one] at h1
    obtain ⟨l, rfl, hl⟩ := ints_of (k := k) (cs := els) fun i hi => by
      have := h3 i (by omega)
      rw [hc, Nat.mul_one] at this
      obtain ⟨m, e1, e2⟩ := wt_int he this
      exact ⟨m, take1 e1, e2⟩
    rw [ints_len] at h1
    subst h1
    exact ⟨_, l, rfl, ⟨rfl, by rw [ints_len]⟩, by rw [← hB]; exact h2, hl⟩
end
end Go.Am
