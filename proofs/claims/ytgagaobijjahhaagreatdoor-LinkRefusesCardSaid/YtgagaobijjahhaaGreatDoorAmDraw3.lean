/- Regions that draw their order: sound. -/
import Derived.Test.YtgagaobijjahhaaGreatDoorAmRun
import Derived.Test.YtgagaobijjahhaaGreatDoorAmDrawX
import Derived.Orders
namespace Go.Am
open Go.RowKit
set_option linter.unusedVariables false
set_option linter.unusedSimpArgs false

section
variable {C : Cfg} {M M' : Mp} {w w' : World} {B0 : Nat} {p : List Nat}

theorem SR.same {s t : St} {a : Act} (h : SR C B0 p M s a w) (h1 : s.nt = t.nt) (h2 : s.σ = t.σ) (h3 : s.c = t.c) (h4 : ∀ d, s.t.get d = t.t.get d) : SR C B0 p M t a w := by
  refine ⟨by rw [← h2]; exact h.mem, ⟨by rw [← h1]; exact h.fr.size, fun d => ?_⟩, by rw [← h2, ← h3]; exact h.new, h.gl⟩
  rw [← h4]; exact h.fr.tmp d
theorem Nx.same {s t t' : St} (h : Nx B0 p M M' s t w w') (h2 : t.σ = t'.σ) (h3 : t.c = t'.c) : Nx B0 p M M' s t' w w' :=
  ⟨h.ext, h.names, by rw [← h2]; exact h.onames, by rw [← h2]; exact h.len, by rw [← h3]; exact h.cc⟩

theorem getD_size {listed : Array Bool} {j : Nat} (h : j < listed.size) : listed.getD j true = listed.getD j false := by
  simp [Array.getD_eq_getD_getElem?, h]
theorem getD_set {listed : Array Bool} {j i : Nat} (h : j < listed.size) : ((listed.setIfInBounds j true).getD i false = true) ↔ (listed.getD i false = true ∨ i = j) := by
  by_cases e : i = j
  · subst e; simp [Array.getD_eq_getD_getElem?, h]
  · rw [getD_set_ne false (Ne.symm e)]; simp [e]

def left (listed : Array Bool) : Nat := listed.toList.countP fun b => !b
theorem left_set {listed : Array Bool} {j : Nat} (h : j < listed.size) (hj : listed.getD j true = false) : left (listed.setIfInBounds j true) + 1 = left listed := by
  have key : ∀ (l : List Bool) (j : Nat), l[j]? = some false → (l.set j true).countP (fun b => !b) + 1 = l.countP fun b => !b := by
    intro l
    induction l with
    | nil => intro j h; simp at h
    | cons b l ih =>
      intro j h
      cases j with
      | zero => simp at h; subst h; simp
      | succ j =>
        have := ih j (by simpa using h)
        simp only [List.set_cons_succ, List.countP_cons]
        omega
  rw [left, left, Array.toList_setIfInBounds]
  refine key _ _ ?_
  rw [Array.getD_eq_getD_getElem?] at hj
  simp [h] at hj ⊢
  exact hj

theorem any_sound {call : CallF} (hcall : CallOk C call) {ops : Array Oper} {ps : List (Nat × Nat)} {S : Nat → St} {ms : Nat → Nat} (ht : Tr C call p ps ops S) (hok : OkD C ps ops ms) (r : Option Nat) (n0 : Nat) (L : List Deferred) {Q : Exit → Act → World → Prop} {M0 : Mp} {w0 : World}
    (hQ : ∀ M' a' w', SR C B0 p M' (S ops.size) a' w' → Nx B0 p M0 M' (S 0) (S ops.size) w0 w' → a'.defers = L → Q .normal a' w') :
    ∀ (fuel : Nat) (listed : Array Bool) (t : St) (a : Act) (M : Mp) (w : World), listed.size = ops.size → left listed ≤ fuel → Closed ops (fun i => listed.getD i false = true) → Inv C ops S (fun i => listed.getD i false = true) t →
      SR C B0 p M t a w → Nx B0 p M0 M (S 0) t w0 w → a.defers = L → wpAnyIn (Fnc r) n0 C.P .any ops Q fuel listed a w := by
  have done : ∀ (listed : Array Bool) (t : St) (a : Act) (M : Mp) (w : World), Inv C ops S (fun i => listed.getD i false = true) t → SR C B0 p M t a w → Nx B0 p M0 M (S 0) t w0 w → a.defers = L → (∀ i, i < ops.size → listed.getD i false = true) → Q .normal a w := by
    intro listed t a M w hi hs hn hL hall
    obtain ⟨h1, h2, h3, h4⟩ := inv_done ht hi hall
    exact hQ M a w (hs.same h1 h2 h3 h4) (hn.same h2 h3) hL
  have noReady : ∀ (listed : Array Bool), listed.size = ops.size → Region.ready .any ops listed = [] → ∀ i, i < ops.size → listed.getD i false = true := by
    intro listed hsz hr i
    induction i using Nat.strongRecOn with
    | _ i ih =>
      intro hi
      cases hl : listed.getD i false with
      | true => rfl
      | false =>
        have : i ∈ Region.ready .any ops listed := mem_ready.2 ⟨by rw [getD_size (by omega)]; exact hl, ops[i], by simp [hi], fun e he hb => by
          have hlt := hok.lt i ops[i] (by simp [hi]) e.on ((hok.get i ops[i] (by simp [hi]) e.on).2 ⟨e, he, hb, .inl rfl⟩)
          exact ih e.on hlt (by omega)⟩
        rw [hr] at this; simp at this
  intro fuel
  induction fuel with
  | zero =>
    intro listed t a M w hsz hleft hc hi hs hn hL
    have hall : ∀ i, i < ops.size → listed.getD i false = true := by
      intro i hlt
      have h0 : left listed = 0 := by omega
      rw [left, List.countP_eq_zero] at h0
      have := h0 (listed[i]'(by omega)) (by simp)
      simp only [Bool.not_eq_true, Bool.not_eq_false'] at this
      rw [Array.getD_eq_getD_getElem?]
      simp [hsz, hlt, this]
    refine ⟨?_, done listed t a M w hi hs hn hL hall⟩
    rw [List.eq_nil_iff_forall_not_mem]
    intro j hj
    obtain ⟨h1, o, h2, _⟩ := mem_ready.1 hj
    have hjn := (Array.getElem?_eq_some_iff.1 h2).1
    rw [getD_size (by omega), hall j hjn] at h1
    cases h1
  | succ fuel ih =>
    intro listed t a M w hsz hleft hc hi hs hn hL
    refine ⟨fun hr => done listed t a M w hi hs hn hL (noReady listed hsz hr), fun j hj => ?_⟩
    obtain ⟨h1, o, h2, h3⟩ := mem_ready.1 hj
    have hjn := (Array.getElem?_eq_some_iff.1 h2).1
    have hnot : ¬ listed.getD j false = true := by rw [← getD_size (by omega), h1]; simp
    obtain ⟨t', hstep, hinv⟩ := inv_step ht hok hc hi h2 hnot h3
    have hiff : ∀ i, ((listed.setIfInBounds j true).getD i false = true) ↔ (listed.getD i false = true ∨ i = j) := fun i => getD_set (by omega)
    have hfun : (fun i => (listed.setIfInBounds j true).getD i false = true) = fun i => listed.getD i false = true ∨ i = j := funext fun i => propext (hiff i)
    have hc' : Closed ops (fun i => (listed.setIfInBounds j true).getD i false = true) := by
      rw [hfun]
      rintro i x hx (hD | rfl) e he hb
      · exact .inl (hc i x hx hD e he hb)
      · rw [h2] at hx; cases hx; exact .inl (h3 e he hb)
    have hwp := stepA_in (Q := Q) hcall hs ops o hstep r n0 (K := wpAnyIn (Fnc r) n0 C.P .any ops Q fuel (listed.setIfInBounds j true)) (fun M' a' w' hs' hn' hd' => by
      refine ih _ t' a' M' w' (by simp [hsz]) ?_ hc' (by rw [hfun]; exact hinv) hs' (hn.trans hn') (hd'.trans hL)
      have := left_set (listed := listed) (j := j) (by omega) h1
      omega)
    unfold wpOpIn
    rw [h2]
    simp only
    exact hwp

/-! Variables laid ahead. -/
mutual
theorem Rel.named : ∀ {v : V} {y : Value}, Rel M w v y → ∀ st ∈ V.stamps v, (M.m st).isSome = true
  | _, _, .bad y => fun st h => by simp [V.stamps] at h
  | _, _, .b x => fun st h => by simp [V.stamps] at h
  | _, _, .i k n => fun st h => by simp [V.stamps] at h
  | _, _, .s x => fun st h => by simp [V.stamps] at h
  | _, _, .nilp => fun st h => by simp [V.stamps] at h
  | _, _, .nils => fun st h => by simp [V.stamps] at h
  | _, _, .nilf => fun st h => by simp [V.stamps] at h
  | _, _, .nili => fun st h => by simp [V.stamps] at h
  | _, _, .nilm => fun st h => by simp [V.stamps] at h
  | _, _, .ptr r st off b n h => fun st' h' => by simp [V.stamps] at h'; subst h'; rw [h]; rfl
  | _, _, .iptr cs a vs h1 h2 h3 h4 => fun st h => RelL.named h3 st (by simpa [V.stamps] using h)
  | _, _, .sl r st off len es cap b n k h a1 a2 a3 => fun st' h' => by simp [V.stamps] at h'; subst h'; rw [h]; rfl
  | _, _, .arr cs len clip a vs k h1 h2 h3 h4 h5 h6 => fun st h => RelL.named h3 st (by simpa [V.stamps] using h)
  | _, _, .agg cs vs h1 h2 => fun st h => RelL.named h2 st (by simpa [V.stamps] using h)
  | _, _, .fn f fi ca us vs h1 h2 => fun st h => by
    simp only [V.stamps, List.mem_append] at h
    rcases h with h | h
    · exact RelL.named h1 st h
    · exact RelL.named h2 st h
  | _, _, .map r st b n h => fun st' h' => by simp [V.stamps] at h'; subst h'; rw [h]; rfl
  | _, _, .iface t v y h => fun st h' => Rel.named h st (by simpa [V.stamps] using h')
  | _, _, .tup xs vs h => fun st h' => RelL.named h st (by simpa [V.stamps] using h')
theorem RelL.named : ∀ {v : List V} {y : List Value}, RelL M w v y → ∀ st ∈ V.stampsL v, (M.m st).isSome = true
  | _, _, .nil => fun st h => by simp [V.stampsL] at h
  | _, _, .cons x y xs ys h hs => fun st h' => by
    simp only [V.stampsL, List.mem_append] at h'
    rcases h' with h' | h'
    · exact Rel.named h st h'
    · exact RelL.named hs st h'
end
def Mp.only (M M' : Mp) : Mp := ⟨M.m, M'.F⟩
theorem only_m (hm : ∀ st x, M.m st = some x → M'.m st = some x) {st : List Nat} {x : Nat × Nat} (h : M'.m st = some x) (hn : (M.m st).isSome = true) : M.m st = some x := by
  obtain ⟨y, hy⟩ := Option.isSome_iff_exists.1 hn
  rw [hm st y hy] at h; cases h; exact hy
mutual
theorem Rel.only (hm : ∀ st x, M.m st = some x → M'.m st = some x) : ∀ {v : V} {y : Value}, Rel M' w v y → (∀ st ∈ V.stamps v, (M.m st).isSome = true) → Rel (M.only M') w v y
  | _, _, .bad y, _ => .bad y
  | _, _, .b x, _ => .b x
  | _, _, .i k n, _ => .i k n
  | _, _, .s x, _ => .s x
  | _, _, .nilp, _ => .nilp
  | _, _, .nils, _ => .nils
  | _, _, .nilf, _ => .nilf
  | _, _, .nili, _ => .nili
  | _, _, .nilm, _ => .nilm
  | _, _, .ptr r st off b n h, hn => .ptr r st off b n (only_m hm h (hn st (by simp [V.stamps])))
  | _, _, .iptr cs a vs h1 h2 h3 h4, hn => .iptr cs a vs h1 h2 (RelL.only hm h3 fun st h => hn st (by simpa [V.stamps] using h)) h4
  | _, _, .sl r st off len es cap b n k h a1 a2 a3, hn => .sl r st off len es cap b n k (only_m hm h (hn st (by simp [V.stamps]))) a1 a2 a3
  | _, _, .arr cs len clip a vs k h1 h2 h3 h4 h5 h6, hn => .arr cs len clip a vs k h1 h2 (RelL.only hm h3 fun st h => hn st (by simpa [V.stamps] using h)) h4 h5 h6
  | _, _, .agg cs vs h1 h2, hn => .agg cs vs h1 (RelL.only hm h2 fun st h => hn st (by simpa [V.stamps] using h))
  | _, _, .fn f fi ca us vs h1 h2, hn => .fn f fi ca us vs (RelL.only hm h1 fun st h => hn st (by simp [V.stamps, h])) (RelL.only hm h2 fun st h => hn st (by simp [V.stamps, h]))
  | _, _, .map r st b n h, hn => .map r st b n (only_m hm h (hn st (by simp [V.stamps])))
  | _, _, .iface t v y h, hn => .iface t v y (Rel.only hm h fun st h => hn st (by simpa [V.stamps] using h))
  | _, _, .tup xs vs h, hn => .tup xs vs (RelL.only hm h fun st h => hn st (by simpa [V.stamps] using h))
theorem RelL.only (hm : ∀ st x, M.m st = some x → M'.m st = some x) : ∀ {v : List V} {y : List Value}, RelL M' w v y → (∀ st ∈ V.stampsL v, (M.m st).isSome = true) → RelL (M.only M') w v y
  | _, _, .nil, _ => .nil
  | _, _, .cons x y xs ys h hs, hn => .cons x y xs ys (Rel.only hm h fun st h => hn st (by simp [V.stampsL, h])) (RelL.only hm hs fun st h => hn st (by simp [V.stampsL, h]))
end
theorem SR.only {s s' : St} {a a' : Act} {d : Option Nat} {v : V} (h : SR C B0 p M s a w) (h' : SR C B0 p M' s' a' w') (hE : Ext B0 M M' w w') (hσ : s'.σ = s.σ) (hc : s.c ≤ s'.c) (hn : s'.nt = s.nt)
    (ht : ∀ d, s'.t.get d = s.t.get d ∨ s'.t.get d = some v) (hv : ∀ st ∈ V.stamps v, (M.m st).isSome = true) {t : St} (e1 : t.σ = s.σ) (e2 : t.c = s.c) (e3 : t.nt = s.nt) (e4 : t.t = s'.t) :
    SR C B0 p (M.only M') t a' w' ∧ Ext B0 M (M.only M') w w' := by
  have hE' : Ext B0 M (M.only M') w w' := ⟨fun _ _ h => h, hE.F, hE.keep, hE.below⟩
  have nm : ∀ d, ∀ st ∈ V.stamps ((s'.t.get d).getD .un), (M.m st).isSome = true := fun d => by
    rcases ht d with e | e
    · rw [e]; exact (h.fr.tmp d).named
    · rw [e]; exact hv
  refine ⟨⟨⟨⟨?_, ?_, ?_, h'.mem.sep.flt, h'.mem.sep.base⟩, ?_⟩, ⟨by rw [e3, ← hn]; exact h'.fr.size, fun d => by rw [e4]; exact (h'.fr.tmp d).only hE.m (nm d)⟩, ?_, ?_⟩, hE'⟩
  · rw [e1]; exact h.mem.sep.apart
  · intro r o st b n ho hs hm
    rw [e1] at ho
    exact h'.mem.sep.live r o st b n (by rw [hσ]; exact ho) hs (hE.m _ _ hm)
  · exact fun st b n hb => ⟨Nat.lt_of_lt_of_le (h.mem.sep.lt st b n hb).1 hE.below.size, (h.mem.sep.lt st b n hb).2⟩
  · intro r o ho
    rw [e1] at ho
    have g1 := h.mem.obj r o ho
    have g2 := h'.mem.obj r o (by rw [hσ]; exact ho)
    cases o with
    | dead => trivial
    | cells st cs =>
      intro b n hb
      obtain ⟨a1, a2, a3, a4⟩ := g1 b n hb
      obtain ⟨b1, b2, b3, b4⟩ := g2 b n (hE.m _ _ hb)
      refine ⟨b1, b2, b3, fun j x hx => ?_⟩
      obtain ⟨y, _, hy⟩ := a4 j x hx
      obtain ⟨y', hy1, hy2⟩ := b4 j x hx
      exact ⟨y', hy1, hy2.only hE.m hy.named⟩
    | map st kvs =>
      intro b n hb
      obtain ⟨es, cl, a1, a2, a3⟩ := g1 b n hb
      obtain ⟨es', cl', b1, b2, b3⟩ := g2 b n (hE.m _ _ hb)
      refine ⟨es', cl', b1, b2, fun j k v hj => ?_⟩
      obtain ⟨_, _, c2, c3⟩ := a3 j k v hj
      obtain ⟨e', d1, d2, d3⟩ := b3 j k v hj
      exact ⟨e', d1, d2.only hE.m c2.named, d3.only hE.m c3.named⟩
  · rw [e1, e2]; exact ⟨h.new.m, h.new.s⟩
  · exact ⟨fun g cs hg => (h'.gl.glob g cs hg).only hE.m (h.gl.glob g cs hg).named⟩

theorem preObjs_get {c0 : Nat} : ∀ {l : List Oper} {q : Nat} {objs : List O}, preObjs C p c0 q l = some objs → objs.length = (l.countP fun o => (preO o).isSome) ∧
    (∀ (i : Nat) o e, l[i]? = some o → preO o = some e → ∃ z, C.zero e = some z ∧ objs[slotOf l i]? = some (.cells ((c0 + (q + slotOf l i)) :: p) z.cells)) ∧
    (∀ (k : Nat) o, objs[k]? = some o → o.st = some ((c0 + (q + k)) :: p))
  | [], q, objs, h => by cases h; exact ⟨rfl, fun i o e h => by simp at h, fun k o h => by simp at h⟩
  | o :: l, q, objs, h => by
    simp only [preObjs] at h
    cases hp : preO o with
    | some e =>
      rw [hp] at h
      simp only [Option.bind_eq_some_iff, Option.map_eq_some_iff] at h
      obtain ⟨z, hz, os, ho, rfl⟩ := h
      obtain ⟨h1, h2, h3⟩ := preObjs_get ho
      refine ⟨by simp [h1, hp], fun i o' e' hi he => ?_, fun k o' hk => ?_⟩
      · cases i with
        | zero =>
          simp at hi; subst hi; rw [hp] at he; cases he
          exact ⟨z, hz, by simp [slotOf]⟩
        | succ i =>
          obtain ⟨z', hz', hg⟩ := h2 i o' e' (by simpa using hi) he
          have : slotOf (o :: l) (i + 1) = slotOf l i + 1 := by simp [slotOf, List.take_succ_cons, hp]
          rw [this]
          refine ⟨z', hz', ?_⟩
          rw [List.getElem?_cons_succ, hg]
          congr 3; omega
      · cases k with
        | zero => simp at hk; subst hk; rfl
        | succ k =>
          have := h3 k o' (by simpa using hk)
          rw [this]; congr 2; omega
    | none =>
      rw [hp] at h
      obtain ⟨h1, h2, h3⟩ := preObjs_get h
      refine ⟨by simp [h1, hp], fun i o' e' hi he => ?_, h3⟩
      cases i with
      | zero => simp at hi; subst hi; rw [hp] at he; cases he
      | succ i =>
        have : slotOf (o :: l) (i + 1) = slotOf l i := by simp [slotOf, List.take_succ_cons, hp]
        rw [this]
        exact h2 i o' e' (by simpa using hi) he
theorem slotOf_lt {l : List Oper} {i : Nat} {o : Oper} (hi : l[i]? = some o) (hp : (preO o).isSome = true) : slotOf l i < l.countP fun o => (preO o).isSome := by
  have h1 : slotOf l (i + 1) = slotOf l i + 1 := by
    unfold slotOf
    have hlt := (List.getElem?_eq_some_iff.1 hi).1
    rw [List.take_add_one, hi]
    simp [List.countP_append, hp]
  have h2 : slotOf l (i + 1) ≤ l.countP fun o => (preO o).isSome := by
    unfold slotOf
    conv => rhs; rw [← List.take_append_drop (i + 1) l]
    rw [List.countP_append]; omega
  omega
theorem slotOf_mono {l : List Oper} {i j : Nat} {o : Oper} (hij : i < j) (hi : l[i]? = some o) (hp : (preO o).isSome = true) : slotOf l i < slotOf l j := by
  have h1 : slotOf (l.take j) i = slotOf l i := by unfold slotOf; rw [List.take_take]; congr 2; omega
  rw [← h1]
  exact slotOf_lt (l := l.take j) (by rw [List.getElem?_take, if_pos hij]; exact hi) hp
theorem slotsOk_get {r0 : Nat} {l : List (List O × List Nat)} : ∀ {objs : List O} {ms : List Nat} {q : Nat}, slotsOk r0 l q objs ms = true → ∀ (k : Nat) o, objs[k]? = some o → ∀ (i : Nat) x, i ≤ ms.getD k 0 → l[i]? = some x → x.1[r0 + (q + k)]? = some o
  | [], ms, q, h, k, o, hk => by simp at hk
  | o :: os, [], q, h, k, o', hk => by simp [slotsOk] at h
  | o :: os, m :: ms, q, h, k, o', hk => by
    simp only [slotsOk, Bool.and_eq_true, List.all_eq_true] at h
    intro i x hi hx
    cases k with
    | zero =>
      simp at hk hi; subst hk
      have := h.1 x (List.mem_of_getElem? (i := i) (by rw [List.getElem?_take, if_pos (by omega)]; exact hx))
      exact O.eqb_eq this
    | succ k =>
      have := slotsOk_get h.2 k o' (by simpa using hk) i x (by simpa using hi) hx
      rw [← this]; congr 1; omega

theorem anyX_sound {call : CallF} (hcall : CallOk C call) (hstill : StillOk C) {ops : Array Oper} {ps : List (Nat × Nat)} {S : Nat → St} {ms : Nat → Nat} {r0 c0 : Nat} {objs : List O} {s0 : St} {msl : List Nat}
    (hr0 : r0 = s0.σ.length) (hc0 : c0 = s0.c) (hobjs : preObjs C p c0 0 ops.toList = some objs) (hslot : ∀ (k : Nat) o, objs[k]? = some o → ∀ i, i ≤ ops.size → i ≤ msl.getD k 0 → (S i).σ[r0 + k]? = some o)
    (hms : ∀ (i : Nat) o e, ops[i]? = some o → preO o = some e → (∃ j y, ops[j]? = some y ∧ memX C y = true ∧ (ms j).testBit i = true ∧ j ≤ msl.getD (slotOf ops.toList i) 0) ∨ ops.size ≤ msl.getD (slotOf ops.toList i) 0)
    (ht : TrX C call p r0 c0 ps ops S) (hok : OkDX C ps ops ms) (r : Option Nat) (n0 : Nat) (L : List Deferred) {Q : Exit → Act → World → Prop} {M0 : Mp} {w0 : World}
    (hQ : ∀ M' a' w', SR C B0 p M' (S ops.size) a' w' → Nx B0 p M0 M' s0 (S ops.size) w0 w' → a'.defers = L → Q .normal a' w') :
    ∀ (fuel : Nat) (listed : Array Bool) (t : St) (a : Act) (M : Mp) (w : World), listed.size = ops.size → left listed ≤ fuel → Closed ops (fun i => listed.getD i false = true) → InvX C ops S (fun i => listed.getD i false = true) t →
      SR C B0 p M t a w → Nx B0 p M0 M s0 t w0 w → a.defers = L →
      (c0 + objs.length ≤ t.c ∧ (∀ (i : Nat) o, ops[i]? = some o → (preO o).isSome = true → listed.getD i false = false → M.m ((c0 + slotOf ops.toList i) :: p) = none) ∧
        (∀ k, k < objs.length → ∀ (r : Nat) o, t.σ[r]? = some o → o.st = some ((c0 + k) :: p) → r = r0 + k)) → wpAnyIn (Fnc r) n0 C.P .any ops Q fuel listed a w := by
  obtain ⟨hol, hoget, host⟩ := preObjs_get hobjs
  have done : ∀ (listed : Array Bool) (t : St) (a : Act) (M : Mp) (w : World), InvX C ops S (fun i => listed.getD i false = true) t → SR C B0 p M t a w → Nx B0 p M0 M s0 t w0 w → a.defers = L → (∀ i, i < ops.size → listed.getD i false = true) → Q .normal a w := by
    intro listed t a M w hi hs hn hL hall
    obtain ⟨h1, h2, h3, h4⟩ := inv_doneX ht hi hall
    exact hQ M a w (hs.same h1 h2 h3 h4) (hn.same h2 h3) hL
  have noReady : ∀ (listed : Array Bool), listed.size = ops.size → Region.ready .any ops listed = [] → ∀ i, i < ops.size → listed.getD i false = true := by
    intro listed hsz hr i
    induction i using Nat.strongRecOn with
    | _ i ih =>
      intro hi
      cases hl : listed.getD i false with
      | true => rfl
      | false =>
        have : i ∈ Region.ready .any ops listed := mem_ready.2 ⟨by rw [getD_size (by omega)]; exact hl, ops[i], by simp [hi], fun e he hb => by
          have hlt := hok.lt i ops[i] (by simp [hi]) e.on ((hok.get i ops[i] (by simp [hi]) e.on).2 ⟨e, he, hb, .inl rfl⟩)
          exact ih e.on hlt (by omega)⟩
        rw [hr] at this; simp at this
  intro fuel
  induction fuel with
  | zero =>
    intro listed t a M w hsz hleft hc hi hs hn hL _
    have hall : ∀ i, i < ops.size → listed.getD i false = true := by
      intro i hlt
      have h0 : left listed = 0 := by omega
      rw [left, List.countP_eq_zero] at h0
      have := h0 (listed[i]'(by omega)) (by simp)
      simp only [Bool.not_eq_true, Bool.not_eq_false'] at this
      rw [Array.getD_eq_getD_getElem?]
      simp [hsz, hlt, this]
    refine ⟨?_, done listed t a M w hi hs hn hL hall⟩
    rw [List.eq_nil_iff_forall_not_mem]
    intro j hj
    obtain ⟨h1, o, h2, _⟩ := mem_ready.1 hj
    have hjn := (Array.getElem?_eq_some_iff.1 h2).1
    rw [getD_size (by omega), hall j hjn] at h1
    cases h1
  | succ fuel ih =>
    intro listed t a M w hsz hleft hc hi hs hn hL ⟨hx1, hx2, hx3⟩
    refine ⟨fun hr => done listed t a M w hi hs hn hL (noReady listed hsz hr), fun j hj => ?_⟩
    obtain ⟨h1, o, h2, h3⟩ := mem_ready.1 hj
    have hjn := (Array.getElem?_eq_some_iff.1 h2).1
    have hnotb : listed.getD j false = false := by rw [← getD_size (by omega), h1]
    have hnot : ¬ listed.getD j false = true := by rw [hnotb]; simp
    obtain ⟨t', hstep, hinv⟩ := inv_stepX ht hok hc hi h2 hnot h3
    have hiff : ∀ i, ((listed.setIfInBounds j true).getD i false = true) ↔ (listed.getD i false = true ∨ i = j) := fun i => getD_set (by omega)
    have hfun : (fun i => (listed.setIfInBounds j true).getD i false = true) = fun i => listed.getD i false = true ∨ i = j := funext fun i => propext (hiff i)
    have hc' : Closed ops (fun i => (listed.setIfInBounds j true).getD i false = true) := by
      rw [hfun]
      rintro i x hx (hD | rfl) e he hb
      · exact .inl (hc i x hx hD e he hb)
      · rw [h2] at hx; cases hx; exact .inl (h3 e he hb)
    have hleft' : left (listed.setIfInBounds j true) ≤ fuel := by
      have := left_set (listed := listed) (j := j) (by omega) h1
      omega
    have hnl : ∀ i, (listed.setIfInBounds j true).getD i false = false → listed.getD i false = false ∧ i ≠ j := by
      intro i hi
      have := hiff i
      rw [hi] at this
      constructor
      · cases e : listed.getD i false with
        | false => rfl
        | true => exact absurd (this.2 (.inl e)) (by simp)
      · rintro rfl; exact absurd (this.2 (.inr rfl)) (by simp)
    -- what other steps leave
    have keepX : ∀ M' a' w', SR C B0 p M' t' a' w' → Nx B0 p M M' t t' w w' → (c0 + objs.length ≤ t'.c ∧ (∀ (i : Nat) o, ops[i]? = some o → (preO o).isSome = true → (listed.setIfInBounds j true).getD i false = false → M'.m ((c0 + slotOf ops.toList i) :: p) = none) ∧
        (∀ k, k < objs.length → ∀ (r : Nat) o, t'.σ[r]? = some o → o.st = some ((c0 + k) :: p) → r = r0 + k)) := by
      intro M' a' w' hs' hn'
      refine ⟨Nat.le_trans hx1 hn'.cc, fun i x hx hp hl => ?_, fun k hk r' o' ho' hst' => ?_⟩
      · have hlt := slotOf_lt (l := ops.toList) (by simpa using hx) hp
        cases hm : M'.m ((c0 + slotOf ops.toList i) :: p) with
        | none => rfl
        | some y =>
          rcases hn'.names _ _ hm with h | ⟨k, hk, hmi⟩
          · rw [hx2 i x hx hp (hnl i hl).1] at h; cases h
          · have := mine_inj hmi ⟨[], rfl⟩; omega
      · rcases hn'.onames r' o' _ ho' hst' with ⟨o2, q1, q2⟩ | ⟨k', hk', hmi⟩
        · exact hx3 k hk r' o2 q1 q2
        · have := mine_inj hmi ⟨[], rfl⟩; omega
    unfold wpOpIn
    rw [h2]
    simp only
    unfold stepX at hstep
    cases hp : preO o with
    | some e =>
      rw [hp] at hstep
      simp only [Option.some.injEq] at hstep
      have hop : o.op = .alloc e ∧ o.guard = none := by
        unfold preO at hp
        split at hp
        · rename_i e' h5 h6; cases hp; exact ⟨h5, h6⟩
        · cases hp
      obtain ⟨z, hz, hzo⟩ := hoget j o e (by simpa using h2) hp
      simp only [Nat.zero_add] at hzo
      obtain ⟨y, hy, rfl, hone⟩ := run_zero hz w
      rw [if_pos (by simp [Region.wanted, hop.2])]
      have hlt := (List.getElem?_eq_some_iff.1 hzo).1
      have hfree := hx2 j o h2 (by rw [hp]; rfl) hnotb
      obtain ⟨st, hst⟩ : ∃ st, st = (c0 + slotOf ops.toList j) :: p := ⟨_, rfl⟩
      rw [← hst] at hfree hzo
      obtain ⟨w1, hw1⟩ : ∃ w1, w1 = w.alloc (.cells y.cells e (0, 0)) := ⟨_, rfl⟩
      have hrun : (execOp a.eval o).run C.P w = .ok (.value (.pointer (some ⟨w.heap.size, 0, none⟩))) w1 := by
        rw [hw1]
        simp [execOp, hop.1, Instr.alloc, hy, newVar, newRow]
      have hsz1 : w1.heap.size = w.heap.size + 1 := by rw [hw1]; simp
      have hold : ∀ b, b < w.heap.size → w1.heap[b]? = w.heap[b]? := fun b hb => by rw [hw1]; exact Below.heap_alloc w _ b hb
      have hnewb : w1.heap[w.heap.size]? = some (.cells y.cells e (0, 0)) := by rw [hw1]; exact World.alloc_heap_new w _
      obtain ⟨M', hM'⟩ : ∃ M' : Mp, M' = ⟨fun s => if s = st then some (w.heap.size, (ofVal y).cells.length) else M.m s, M.F⟩ := ⟨_, rfl⟩
      have hme : M'.m st = some (w.heap.size, (ofVal y).cells.length) := by rw [hM']; simp
      have hmo : ∀ s, s ≠ st → M'.m s = M.m s := fun s hs => by rw [hM']; simp [hs]
      have hF' : M'.F = M.F := by rw [hM']
      have hE : Ext B0 M M' w w1 := ⟨fun s x h => by rw [hmo s (by rintro rfl; rw [hfree] at h; cases h)]; exact h, fun b hb => by rw [hF']; exact hb, fun b hb => hold b (hs.mem.sep.flt b hb), by rw [hw1]; exact below_alloc _ _ _ hs.mem.sep.base⟩
      have hrl := (rel_ofVal (M := M) (w := w) y).cells hone
      have hylen : (ofVal y).cells.length = y.cells.toList.length := hrl.length
      have hobj := obj_new (B0 := B0) (M := M) (w := w) (w' := w1) (st := st) (e := e) (fz := (0, 0)) hrl hone [] (by simpa using hnewb) (.inl rfl) (fun y h => by cases h) (.inr (Nat.le_refl _)) M' hE (by rw [hme, hylen]; simp)
      -- where the new variable lies
      obtain ⟨κ, hκ, hmem, hσ, _⟩ := hi.mem
      have hat : t.σ[r0 + slotOf ops.toList j]? = some (.cells st (ofVal y).cells) := by
        rw [hσ]
        refine hslot _ _ hzo κ hκ ?_
        rcases hms j o e h2 hp with ⟨j', y', a1, a2, a3, a4⟩ | h4
        · have hnd : ¬ listed.getD j' false = true := fun hd => hnot (OkDX.closed hok hc j' y' a1 (hc j' y' a1 hd) j a3)
          have := hmem j' y' a1 a2
          have : ¬ j' < κ := fun hh => hnd (this.1 hh)
          omega
        · omega
      have huniq : ∀ (r : Nat) o, t.σ[r]? = some o → o.st = some st → r = r0 + slotOf ops.toList j := fun r o ho hs' => hx3 _ hlt r o ho (by rw [hs', hst])
      have hSR : ∀ a', a' = a.put o.dst (.pointer (some ⟨w.heap.size, 0, none⟩)) → SR C B0 p M' t' a' w1 := by
        rintro a' rfl
        rw [← hst] at hstep
        obtain ⟨e1, e2, e3⟩ := put_keeps t o.dst (.ptr (r0 + slotOf ops.toList j) st 0)
        rw [← hstep]
        refine ⟨⟨⟨?_, ?_, ?_, ?_, by rw [hsz1]; have := hs.mem.sep.base; omega⟩, ?_⟩, ?_, ?_, hs.gl.mono hE⟩
        · rw [e1]
          intro r r' o1 o2 st1 st2 b n n' g1 g2 hne s1 s2 m1 m2
          by_cases c1 : st1 = st
          · subst c1
            by_cases c2 : st2 = st1
            · rw [c2] at s2; exact hne ((huniq r o1 g1 s1).trans (huniq r' o2 g2 s2).symm)
            · rw [hme] at m1; cases m1
              rw [hmo st2 c2] at m2
              have := (hs.mem.sep.lt _ _ _ m2).1; omega
          · rw [hmo st1 c1] at m1
            by_cases c2 : st2 = st
            · subst c2; rw [hme] at m2; cases m2
              have := (hs.mem.sep.lt _ _ _ m1).1; omega
            · rw [hmo st2 c2] at m2
              exact hs.mem.sep.apart r r' o1 o2 st1 st2 b n n' g1 g2 hne s1 s2 m1 m2
        · rw [e1]
          intro r o1 st1 b n g1 s1 m1
          rw [hF']
          by_cases c1 : st1 = st
          · subst c1; rw [hme] at m1; cases m1
            exact fun hb => by have := hs.mem.sep.flt _ hb; omega
          · rw [hmo st1 c1] at m1; exact hs.mem.sep.live r o1 st1 b n g1 s1 m1
        · intro st1 b n m1
          by_cases c1 : st1 = st
          · subst c1; rw [hme] at m1; cases m1; exact ⟨by omega, hs.mem.sep.base⟩
          · rw [hmo st1 c1] at m1
            have := hs.mem.sep.lt _ _ _ m1
            exact ⟨by omega, this.2⟩
        · intro b hb; rw [hF'] at hb; have := hs.mem.sep.flt b hb; omega
        · rw [e1]
          intro r o1 g1
          by_cases c1 : o1.st = some st
          · have := huniq r o1 g1 c1
            subst this
            rw [hat] at g1; cases g1
            exact hobj
          · exact (hs.mem.obj r o1 g1).mono hE (fun st1 h => hmo st1 (by rintro rfl; exact c1 h)) fun st1 b n _ hm => hold b (hs.mem.sep.lt _ _ _ hm).1
        · exact (hs.fr.mono hE).put o.dst (.ptr _ _ _ _ _ hme)
        · rw [e1, e2]
          refine ⟨fun k s1 hk hmi => ?_, hs.new.s⟩
          rw [hmo s1 (by rintro rfl; have := mine_inj hmi (hst ▸ ⟨[], rfl⟩ : Mine p (c0 + slotOf ops.toList j) _); omega)]
          exact hs.new.m k s1 hk hmi
      have hσ' : t'.σ = t.σ ∧ t'.c = t.c := by
        obtain ⟨e1, e2, e3⟩ := put_keeps t o.dst (.ptr (r0 + slotOf ops.toList j) ((c0 + slotOf ops.toList j) :: p) 0)
        rw [← hstep]; exact ⟨e1, e2⟩
      refine oper_in (fun cl h => by rw [hop.1] at h; cases h) ?_
      unfold Oper.wp
      rw [hrun]
      refine ih _ t' _ M' w1 (by simp [hsz]) hleft' hc' (by rw [hfun]; exact hinv) (hSR _ rfl) ?_ ((put_defers _ _ _).trans hL) ⟨by rw [hσ'.2]; exact hx1, fun i x hx hpx hl => ?_, fun k hk r' o' ho' hst' => hx3 k hk r' o' (by rw [← hσ'.1]; exact ho') hst'⟩
      · refine ⟨hn.ext.trans hE, fun s1 x hs1 => ?_, fun r' o' s1 ho hs1 => hn.onames r' o' s1 (by rw [← hσ'.1]; exact ho) hs1, by rw [hσ'.1]; exact hn.len, by rw [hσ'.2]; exact hn.cc⟩
        by_cases c1 : s1 = st
        · exact .inr ⟨c0 + slotOf ops.toList j, by omega, by rw [c1, hst]; exact ⟨[], rfl⟩⟩
        · rw [hmo s1 c1] at hs1; exact hn.names s1 x hs1
      · obtain ⟨l1, l2⟩ := hnl i hl
        rw [hmo _ (by
          rw [hst]
          intro e
          simp only [List.cons.injEq, and_true] at e
          rcases Nat.lt_or_gt_of_ne l2 with h | h
          · have := slotOf_mono (l := ops.toList) h (by simpa using hx) hpx; omega
          · have := slotOf_mono (l := ops.toList) h (by simpa using h2) (by rw [hp]; rfl); omega)]
        exact hx2 i x hx hpx l1
    | none =>
      rw [hp] at hstep
      cases hst : stillO C o with
      | none =>
        rw [hst] at hstep
        exact stepA_in (Q := Q) hcall hs ops o hstep r n0 (K := wpAnyIn (Fnc r) n0 C.P .any ops Q fuel (listed.setIfInBounds j true)) (fun M' a' w' hs' hn' hd' =>
          ih _ t' a' M' w' (by simp [hsz]) hleft' hc' (by rw [hfun]; exact hinv) hs' (hn.trans hn') (hd'.trans hL) (keepX M' a' w' hs' hn'))
      | some ga =>
        obtain ⟨gg, args⟩ := ga
        rw [hst] at hstep
        simp only [Option.bind_eq_some_iff] at hstep
        obtain ⟨v, hv, hstep⟩ := hstep
        split at hstep
        case isFalse => cases hstep
        rename_i hwi
        simp only [Option.some.injEq] at hstep
        unfold stillO at hst
        split at hst
        case h_2 => cases hst
        rename_i f as ts hop hgd
        simp only [Option.map_eq_some_iff, Prod.mk.injEq] at hst
        obtain ⟨g', hg', rfl, rfl⟩ := hst
        rw [if_pos (by simp [Region.wanted, hgd])]
        have hcall' : CallOk C fun f' args σ p' => if f' = f then (g' args).map fun v => (v, σ) else none := by
          intro B1 f' args1 σ1 p1 v1 σ1' h5
          simp only at h5
          split at h5
          · rename_i e; subst e; exact hstill f' g' hg' B1 args1 σ1 p1 v1 σ1' h5
          · cases h5
        have hnv : ∀ st ∈ V.stamps v, (M.m st).isSome = true := fun st hs1 => by
          have h6 := List.all_eq_true.1 hwi st hs1
          exact (rel_fn_args hs.fr hs.gl as).named st (by simpa using h6)
        refine oper_in (fun cl h => by rw [hop] at h; cases h) ?_
        refine call_op hcall' hs o hop (v := v) (σ' := t.σ) (by
          simp only [St.ev, callA, List.nil_append, List.append_nil, if_true]
          show ((g' (as.toList.map (t.ev C))).map fun v => (v, t.σ)) = _
          rw [hv]; rfl) (fun M' a' w' hs' hn' hd' => ?_)
        obtain ⟨e1, e2, e3⟩ := put_keeps ⟨t.t, t.nt, t.σ, t.c + 1⟩ o.dst v
        obtain ⟨f1, f2, f3⟩ := put_keeps t o.dst v
        obtain ⟨q1, q2⟩ := hs.only (d := o.dst) (v := v) hs' hn'.ext e1 (by rw [e2]; exact Nat.le_succ _) e3 (fun d => by
          rw [put_get]; split
          · exact .inr rfl
          · exact .inl rfl) hnv (t := t') (by rw [← hstep]; exact f1) (by rw [← hstep]; exact f2) (by rw [← hstep]; exact f3) (by
            rw [← hstep]
            cases o.dst with
            | none => rfl
            | some d => simp only [St.put]; split <;> rfl)
        have hn2 : Nx B0 p M (M.only M') t t' w w' := ⟨q2, fun st x h => .inl h, fun r' o' st h h' => .inl ⟨o', by rw [← hstep, f1] at h; exact h, h'⟩, by rw [← hstep, f1]; exact Nat.le_refl _, by rw [← hstep, f2]; exact Nat.le_refl _⟩
        exact ih _ t' a' (M.only M') w' (by simp [hsz]) hleft' hc' (by rw [hfun]; exact hinv) q1 (hn.trans hn2) (hd'.trans hL) (keepX _ a' w' q1 hn2)

theorem drawD_sound (hm : C.P.follows .mixedOrders = true) {call : CallF} (hcall : CallOk C call) {g id : Nat} {ops : Array Oper} {s s' : St} {a : Act} (hs : SR C B0 p M s a w) (hok : okD C (C.cls g id) ops = true) (hrun : opsD C call p (C.cls g id) ops s = some s') (r : Option Nat) (n0 : Nat) :
    (Code.region id ops true).wpIn (Fnc r) n0 C.P (fun e a' w' => e = .normal ∧ ∃ M', SR C B0 p M' s' a' w' ∧ Nx B0 p M M' s s' w w' ∧ a'.defers = a.defers) a w := by
  obtain ⟨S, rfl, rfl, ht⟩ := opsD_states hrun
  refine wpIn_region_any hm ?_
  have hE : Ext B0 M M w { w with drawn := w.drawn + 1 } := ⟨fun _ _ h => h, fun _ h => h, fun _ _ => rfl, below_drew _ _⟩
  have hfalse : (fun i => (Array.replicate ops.size false).getD i false = true) = fun _ => False := by
    funext i
    simp [Array.getD_eq_getD_getElem?, Array.getElem?_replicate]
    split <;> simp
  refine any_sound (M0 := M) (w0 := w) hcall ht (okD_spec hok) r n0 a.defers (fun M' a' w' h1 h2 h3 => ⟨rfl, M', h1, h2, h3⟩) ops.size _ (S 0) a M _ (by simp) (by simpa [left] using List.countP_le_length (l := List.replicate ops.size false) (p := fun b => !b)) ?_ ?_ ?_ ?_ rfl
  · rw [hfalse]; intro i x hx hD; exact hD.elim
  · rw [hfalse]; exact inv_start S
  · refine ⟨⟨⟨hs.mem.sep.apart, hs.mem.sep.live, hs.mem.sep.lt, hs.mem.sep.flt, hs.mem.sep.base⟩, fun r o ho => ObjRel.heap (w := w) (w' := w.drew) rfl (hs.mem.obj r o ho)⟩, hs.fr.mono hE, hs.new, hs.gl.mono hE⟩
  · exact ⟨hE, fun _ _ h => .inl h, fun r o st h h' => .inl ⟨o, h, h'⟩, Nat.le_refl _, Nat.le_refl _⟩
theorem drawX_sound (hm : C.P.follows .mixedOrders = true) (hstill : StillOk C) {call : CallF} (hcall : CallOk C call) {g id : Nat} {ms : List Nat} {ops : Array Oper} {s s' : St} {a : Act} (hs : SR C B0 p M s a w) (hok : okX C (C.cls g id) ms ops = true) (hrun : opsX C call p (C.cls g id) ms ops s = some s') (r : Option Nat) (n0 : Nat) :
    (Code.region id ops true).wpIn (Fnc r) n0 C.P (fun e a' w' => e = .normal ∧ ∃ M', SR C B0 p M' s' a' w' ∧ Nx B0 p M M' s s' w w' ∧ a'.defers = a.defers) a w := by
  simp only [opsX, Option.bind_eq_some_iff] at hrun
  obtain ⟨objs, hobjs, ⟨L, e⟩, htr, hrun⟩ := hrun
  simp only at hrun
  split at hrun
  case isFalse => cases hrun
  rename_i hck
  simp only [Bool.and_eq_true] at hck
  cases hrun
  obtain ⟨hol, hoget, host⟩ := preObjs_get hobjs
  obtain ⟨S, h1, h2, h3, h4, h5⟩ := traceX_states (r0 := s.σ.length) (c0 := s.c) ops.toList [] _ _ _ (by simpa [slotOf] using htr)
  have hL : ∀ i, i ≤ ops.size → ∃ x, L[i]? = some x ∧ x.1 = (S i).σ := by
    intro i hi
    by_cases hl : i < ops.size
    · exact ⟨_, h4 i ops[i] (by simp [hl]), rfl⟩
    · have : i = ops.toList.length := by simp; omega
      rw [this]; exact ⟨_, h5, rfl⟩
  have ht : TrX C call p s.σ.length s.c (C.cls g id) ops S := by
    refine ⟨fun i o ho => ?_, fun i j o hi hlt ho r hr => ?_⟩
    · have := h3 i o (by simpa using ho)
      simpa using this
    · have := List.all_eq_true.1 hck.1 _ hi
      unfold okPair at this
      obtain ⟨x1, g1, e1⟩ := hL i (by omega)
      obtain ⟨x2, g2, e2⟩ := hL (i + 1) (by omega)
      have g3 := h4 j o (by simpa using ho)
      simp only [g1, g2, g3, List.all_eq_true, e1, e2] at this
      exact O.eqb_eq (this r hr)
  have hokX := okX_spec hok
  have hms : ∀ (i : Nat) o e, ops[i]? = some o → preO o = some e → (∃ j y, ops[j]? = some y ∧ memX C y = true ∧ ((masks ops.toList []).getD j 0).testBit i = true ∧ j ≤ ms.getD (slotOf ops.toList i) 0) ∨ ops.size ≤ ms.getD (slotOf ops.toList i) 0 := by
    intro i o e ho he
    simp only [okX, Bool.and_eq_true] at hok
    have h6 := List.all_eq_true.1 hok.2 (o, i) (by rw [List.mem_zipIdx_iff_getElem?]; simpa using ho)
    simp only [he, Option.isNone_some, Bool.false_or, Bool.or_eq_true, List.any_eq_true, Bool.and_eq_true, decide_eq_true_eq] at h6
    rcases h6 with ⟨⟨y, j⟩, hy, ⟨a1, a2⟩, a3⟩ | h6
    · rw [List.mem_zipIdx_iff_getElem?] at hy
      exact .inl ⟨j, y, by simpa using hy, a1, a2, a3⟩
    · exact .inr h6
  refine wpIn_region_any hm ?_
  have hE : Ext B0 M M w { w with drawn := w.drawn + 1 } := ⟨fun _ _ h => h, fun _ h => h, fun _ _ => rfl, below_drew _ _⟩
  have hfalse : (fun i => (Array.replicate ops.size false).getD i false = true) = fun _ => False := by
    funext i
    simp [Array.getD_eq_getD_getElem?, Array.getElem?_replicate]
    split <;> simp
  have hfl : ∀ i, (Array.replicate ops.size false).getD i false = false := by
    intro i
    simp [Array.getD_eq_getD_getElem?, Array.getElem?_replicate]
    split <;> simp
  have hnew : ∀ (k : Nat) o st, objs[k]? = some o → o.st = some st → st = (s.c + k) :: p := fun k o st hk hs' => by
    have := host k o hk
    rw [this] at hs'; cases hs'; rw [Nat.zero_add]
  have hnone : ∀ k, M.m ((s.c + k) :: p) = none := fun k => hs.new.m (s.c + k) _ (by omega) ⟨[], rfl⟩
  have hnob : ∀ (k : Nat) o st, objs[k]? = some o → o.st = some st → M.m st = none := fun k o st hk hs' => by rw [hnew k o st hk hs']; exact hnone k
  have hcase : ∀ (r : Nat) o, (s.σ ++ objs)[r]? = some o → (r < s.σ.length ∧ s.σ[r]? = some o) ∨ (s.σ.length ≤ r ∧ objs[r - s.σ.length]? = some o) := by
    intro r o ho
    by_cases hr : r < s.σ.length
    · rw [List.getElem?_append_left hr] at ho; exact .inl ⟨hr, ho⟩
    · rw [List.getElem?_append_right (by omega)] at ho; exact .inr ⟨by omega, ho⟩
  have hS0 : S 0 = ⟨s.t, s.nt, s.σ ++ objs, s.c + objs.length⟩ := h1
  have hsz : ops.toList.length = ops.size := by simp
  rw [hsz] at h2
  subst h2
  refine anyX_sound (M0 := M) (w0 := w) (s0 := s) (msl := ms) hcall hstill rfl rfl hobjs (fun k o hk i hi hle => ?_) hms ht hokX r n0 a.defers (fun M' a' w' h1 h2 h3 => ⟨rfl, M', h1, h2, h3⟩) ops.size _ (S 0) a M _ (by simp) (by simpa [left] using List.countP_le_length (l := List.replicate ops.size false) (p := fun b => !b)) ?_ ?_ ?_ ?_ rfl ?_
  · obtain ⟨x, g1, g2⟩ := hL i hi
    have := slotsOk_get hck.2 k o hk i x hle g1
    rw [← g2, ← this]; congr 1; omega
  · rw [hfalse]; intro i x hx hD; exact hD.elim
  · rw [hfalse]; exact inv_startX S
  · rw [hS0]
    refine ⟨⟨⟨fun r r' o o' st st' b n n' h1 h2 hne s1 s2 m1 m2 => ?_, fun r o st b n h1 s1 m1 => ?_, hs.mem.sep.lt, hs.mem.sep.flt, hs.mem.sep.base⟩, fun r o ho => ?_⟩, ⟨(hs.fr.mono hE).size, (hs.fr.mono hE).tmp⟩, ⟨fun k st hk hmi => hs.new.m k st (by simp only at hk; omega) hmi, fun r o st k h1 s1 hk hmi => ?_⟩, hs.gl.mono hE⟩
    · rcases hcase r o h1 with ⟨_, g1⟩ | ⟨_, g1⟩
      · rcases hcase r' o' h2 with ⟨_, g2⟩ | ⟨_, g2⟩
        · exact hs.mem.sep.apart r r' o o' st st' b n n' g1 g2 hne s1 s2 m1 m2
        · rw [hnob _ _ _ g2 s2] at m2; cases m2
      · rw [hnob _ _ _ g1 s1] at m1; cases m1
    · rcases hcase r o h1 with ⟨_, g1⟩ | ⟨_, g1⟩
      · exact hs.mem.sep.live r o st b n g1 s1 m1
      · rw [hnob _ _ _ g1 s1] at m1; cases m1
    · rcases hcase r o ho with ⟨_, g1⟩ | ⟨_, g1⟩
      · exact ObjRel.heap (w := w) (w' := w.drew) rfl (hs.mem.obj r o g1)
      · cases o with
        | dead => trivial
        | cells st cs => intro b n hb; rw [hnob _ _ st g1 rfl] at hb; cases hb
        | map st kvs => intro b n hb; rw [hnob _ _ st g1 rfl] at hb; cases hb
    · simp only at hk
      rcases hcase r o h1 with ⟨_, g1⟩ | ⟨_, g1⟩
      · exact hs.new.s r o st k g1 s1 (by omega) hmi
      · have h7 := hnew _ _ _ g1 s1
        have hlt := (List.getElem?_eq_some_iff.1 g1).1
        rw [h7] at hmi
        have := mine_inj hmi (⟨[], rfl⟩ : Mine p (s.c + (r - s.σ.length)) _)
        omega
  · rw [hS0]
    refine ⟨hE, fun _ _ h => .inl h, fun r o st h h' => ?_, by simp, by simp⟩
    rcases hcase r o h with ⟨_, g1⟩ | ⟨_, g1⟩
    · exact .inl ⟨o, g1, h'⟩
    · refine .inr ⟨s.c + (r - s.σ.length), by omega, ?_⟩
      rw [hnew _ _ _ g1 h']; exact ⟨[], rfl⟩
  · rw [hS0]
    refine ⟨Nat.le_refl _, fun i o ho hp _ => hnone _, fun k hk r o ho hst => ?_⟩
    simp only at ho
    rcases hcase r o ho with ⟨_, g1⟩ | ⟨hle, g1⟩
    · exact absurd ⟨[], rfl⟩ (hs.new.s r o _ (s.c + k) g1 hst (by omega))
    · have := hnew _ _ _ g1 hst
      simp only [List.cons.injEq, and_true] at this
      omega
theorem draw_sound (hm : C.P.follows .mixedOrders = true) (hstill : StillOk C) : DrawOk C := by
  intro call hcall B0 p g id ops s s' a M w hs hok hrun r n0
  unfold drawN at hrun
  unfold okN at hok
  cases hq : C.pre g id with
  | none => rw [hq] at hrun hok; exact drawD_sound hm hcall hs hok hrun r n0
  | some ms => rw [hq] at hrun hok; exact drawX_sound hm hstill hcall hs hok hrun r n0
end
end Go.Am
