/- Regions that draw their order: sound. -/
import Derived.Test.YtijdfdkngbpodaaAmRun
import Derived.Orders
namespace Go.Am
open Go.RowKit
set_option linter.unusedVariables false
set_option linter.unusedSimpArgs false

section
variable {C : Cfg} {M M' : Mp} {w w' : World} {B0 : Nat} {p : List Nat}

theorem SR.same {s t : St} {a : Act} (h : SR C B0 p M s a w) (h1 : s.nt = t.nt) (h2 : s.σ = t.σ) (h3 : s.c = t.c) (h4 : ∀ d, s.t.get d = t.t.get d) : SR C B0 p M t a w := by
  refine ⟨by rw [← h2]; exact h.mem, ⟨h.fr.defers, by rw [← h1]; exact h.fr.size, fun d => ?_⟩, by rw [← h2, ← h3]; exact h.new, h.gl⟩
  rw [← h4]; exact h.fr.tmp d
theorem Nx.same {s t t' : St} (h : Nx B0 p M M' s t w w') (h2 : t.σ = t'.σ) (h3 : t.c = t'.c) : Nx B0 p M M' s t' w w' :=
  ⟨h.ext, h.names, by rw [← h2]; exact h.onames, by rw [← h2]; exact h.len, by rw [← h3]; exact h.cc⟩

theorem getD_size {listed : Array Bool} {j : Nat} (h : j < listed.size) : listed.getD j true = listed.getD j false := by
  simp [Array.getD_eq_getD_getElem?, h]
theorem getD_set {listed : Array Bool} {j i : Nat} (h : j < listed.size) : ((listed.setIfInBounds j true).getD i false = true) ↔ (listed.getD i false = true ∨ i = j) := by
  by_cases e : i = j
  · subst e; simp [Array.getD_eq_getD_getElem?, h]
  · rw [getD_set_ne false (Ne.symm e)]; simp [e]

def left (listed : Array Bool) : Nat := listed.toList.countP fun b => !b
theorem left_set {listed : Array Bool} {j : Nat} (h : j < listed.size) (hj : listed.getD j true = false) : left (listed.setIfInBounds j true) + 1 = left listed := by
  have key : ∀ (l : List Bool) (j : Nat), l[j]? = some false → (l.set j true).countP (fun b => !b) + 1 = l.countP fun b => !b := by
    intro l
    induction l with
    | nil => intro j h; simp at h
    | cons b l ih =>
      intro j h
      cases j with
      | zero => simp at h; subst h; simp
      | succ j =>
        have := ih j (by simpa using h)
        simp only [List.set_cons_succ, List.countP_cons]
        omega
  rw [left, left, Array.toList_setIfInBounds]
  refine key _ _ ?_
  rw [Array.getD_eq_getD_getElem?] at hj
  simp [h] at hj ⊢
  exact hj

theorem any_sound {call : CallF} (hcall : CallOk C call) {ops : Array Oper} {ps : List (Nat × Nat)} {S : Nat → St} {ms : Nat → Nat} (ht : Tr C call p ps ops S) (hok : OkD C ps ops ms) {Q : Exit → Act → World → Prop} {M0 : Mp} {w0 : World}
    (hQ : ∀ M' a' w', SR C B0 p M' (S ops.size) a' w' → Nx B0 p M0 M' (S 0) (S ops.size) w0 w' → Q .normal a' w') :
    ∀ (fuel : Nat) (listed : Array Bool) (t : St) (a : Act) (M : Mp) (w : World), listed.size = ops.size → left listed ≤ fuel → Closed ops (fun i => listed.getD i false = true) → Inv C ops S (fun i => listed.getD i false = true) t →
      SR C B0 p M t a w → Nx B0 p M0 M (S 0) t w0 w → wpAny C.P .any ops Q fuel listed a w := by
  have done : ∀ (listed : Array Bool) (t : St) (a : Act) (M : Mp) (w : World), Inv C ops S (fun i => listed.getD i false = true) t → SR C B0 p M t a w → Nx B0 p M0 M (S 0) t w0 w → (∀ i, i < ops.size → listed.getD i false = true) → Q .normal a w := by
    intro listed t a M w hi hs hn hall
    obtain ⟨h1, h2, h3, h4⟩ := inv_done ht hi hall
    exact hQ M a w (hs.same h1 h2 h3 h4) (hn.same h2 h3)
  have noReady : ∀ (listed : Array Bool), listed.size = ops.size → Region.ready .any ops listed = [] → ∀ i, i < ops.size → listed.getD i false = true := by
    intro listed hsz hr i
    induction i using Nat.strongRecOn with
    | _ i ih =>
      intro hi
      cases hl : listed.getD i false with
      | true => rfl
      | false =>
        have : i ∈ Region.ready .any ops listed := mem_ready.2 ⟨by rw [getD_size (by omega)]; exact hl, ops[i], by simp [hi], fun e he hb => by
          have hlt := hok.lt i ops[i] (by simp [hi]) e.on ((hok.get i ops[i] (by simp [hi]) e.on).2 ⟨e, he, hb, .inl rfl⟩)
          exact ih e.on hlt (by omega)⟩
        rw [hr] at this; simp at this
  intro fuel
  induction fuel with
  | zero =>
    intro listed t a M w hsz hleft hc hi hs hn
    have hall : ∀ i, i < ops.size → listed.getD i false = true := by
      intro i hlt
      have h0 : left listed = 0 := by omega
      rw [left, List.countP_eq_zero] at h0
      have := h0 (listed[i]'(by omega)) (by simp)
      simp only [Bool.not_eq_true, Bool.not_eq_false'] at this
      rw [Array.getD_eq_getD_getElem?]
      simp [hsz, hlt, this]
    refine ⟨?_, done listed t a M w hi hs hn hall⟩
    rw [List.eq_nil_iff_forall_not_mem]
    intro j hj
    obtain ⟨h1, o, h2, _⟩ := mem_ready.1 hj
    have hjn := (Array.getElem?_eq_some_iff.1 h2).1
    rw [getD_size (by omega), hall j hjn] at h1
    cases h1
  | succ fuel ih =>
    intro listed t a M w hsz hleft hc hi hs hn
    refine ⟨fun hr => done listed t a M w hi hs hn (noReady listed hsz hr), fun j hj => ?_⟩
    obtain ⟨h1, o, h2, h3⟩ := mem_ready.1 hj
    have hjn := (Array.getElem?_eq_some_iff.1 h2).1
    have hnot : ¬ listed.getD j false = true := by rw [← getD_size (by omega), h1]; simp
    obtain ⟨t', hstep, hinv⟩ := inv_step ht hok hc hi h2 hnot h3
    have hiff : ∀ i, ((listed.setIfInBounds j true).getD i false = true) ↔ (listed.getD i false = true ∨ i = j) := fun i => getD_set (by omega)
    have hfun : (fun i => (listed.setIfInBounds j true).getD i false = true) = fun i => listed.getD i false = true ∨ i = j := funext fun i => propext (hiff i)
    have hc' : Closed ops (fun i => (listed.setIfInBounds j true).getD i false = true) := by
      rw [hfun]
      rintro i x hx (hD | rfl) e he hb
      · exact .inl (hc i x hx hD e he hb)
      · rw [h2] at hx; cases hx; exact .inl (h3 e he hb)
    have hwp := stepA_sound (Q := Q) hcall hs ops o hstep (K := wpAny C.P .any ops Q fuel (listed.setIfInBounds j true)) (fun M' a' w' hs' hn' => by
      refine ih _ t' a' M' w' (by simp [hsz]) ?_ hc' (by rw [hfun]; exact hinv) hs' (hn.trans hn')
      have := left_set (listed := listed) (j := j) (by omega) h1
      omega)
    unfold wpOp
    rw [h2]
    simp only
    split
    · rename_i hw; rw [if_pos hw] at hwp; exact .inl hwp
    · rename_i hw; rw [if_neg hw] at hwp; exact hwp

theorem draw_sound (hm : C.P.follows .mixedOrders = true) : DrawOk C := by
  intro call hcall B0 p g id ops s s' a M w hs hok hrun
  obtain ⟨S, rfl, rfl, ht⟩ := opsD_states hrun
  refine wp_region_any hm ?_
  have hE : Ext B0 M M w { w with drawn := w.drawn + 1 } := ⟨fun _ _ h => h, fun _ h => h, fun _ _ => rfl, below_drew _ _⟩
  have hfalse : (fun i => (Array.replicate ops.size false).getD i false = true) = fun _ => False := by
    funext i
    simp [Array.getD_eq_getD_getElem?, Array.getElem?_replicate]
    split <;> simp
  refine any_sound (M0 := M) (w0 := w) hcall ht (okD_spec hok) (fun M' a' w' h1 h2 => ⟨rfl, M', h1, h2⟩) ops.size _ (S 0) a M _ (by simp) (by simpa [left] using List.countP_le_length (l := List.replicate ops.size false) (p := fun b => !b)) ?_ ?_ ?_ ?_
  · rw [hfalse]; intro i x hx hD; exact hD.elim
  · rw [hfalse]; exact inv_start S
  · refine ⟨⟨⟨hs.mem.sep.apart, hs.mem.sep.live, hs.mem.sep.lt, hs.mem.sep.flt, hs.mem.sep.base⟩, fun r o ho => ObjRel.heap (w := w) (w' := w.drew) rfl (hs.mem.obj r o ho)⟩, hs.fr.mono hE, hs.new, hs.gl.mono hE⟩
  · exact ⟨hE, fun _ _ h => .inl h, fun r o st h h' => .inl ⟨r, o, h, h'⟩, Nat.le_refl _, Nat.le_refl _⟩
end
end Go.Am
