/- The abstract machine's values and memory, and the model's. -/
import Derived.Test.YtgagaobijjahhaaGreatDoorAm2
import Derived.Below
import Derived.Laws.IdiomCopy
import Derived.Laws.Cells
namespace Go.Am
open Go.RowKit
set_option linter.unusedVariables false
set_option linter.unusedSimpArgs false

structure Mp where
  m : List Nat → Option (Nat × Nat)
  F : Nat → Prop

mutual
inductive Rel (M : Mp) (w : World) : V → Value → Prop
  | bad (y) : Rel M w .bad y
  | b (x) : Rel M w (.b x) (.bool x)
  | i (k n) : Rel M w (.i k n) (.int k n)
  | s (x) : Rel M w (.s x) (.string x)
  | nilp : Rel M w .nilp (.pointer none)
  | nils : Rel M w .nils (.slice none 0 0)
  | nilf : Rel M w .nilf .nilFunc
  | nili : Rel M w .nili .nilIface
  | nilm : Rel M w .nilm (.map none)
  | ptr (r st off b n) (h : M.m st = some (b, n)) : Rel M w (.ptr r st off) (.pointer (some ⟨b, off, none⟩))
  | iptr (cs a vs) (hF : cs ≠ [] → M.F a.block) (ho : ∀ x ∈ cs, x.one = true) (hr : RelL M w cs vs) (hc : ∀ j y, vs[j]? = some y → w.cell? (a.add j) = some y) : Rel M w (.iptr cs) (.pointer (some a))
  | sl (r st off len es cap b n k) (h : M.m st = some (b, n)) (hk : len ≤ k) (hn : cap = none → off + k * es = n) (hs : ∀ c, cap = some c → k = c) : Rel M w (.sl r st off len es cap) (.slice (some ⟨b, off, none⟩) len k)
  | arr (cs len clip a vs k) (hF : cs ≠ [] → M.F a.block) (ho : ∀ x ∈ cs, x.one = true) (hr : RelL M w cs vs) (hc : ∀ j y, vs[j]? = some y → w.cell? (a.add j) = some y) (hk : len ≤ k) (hl : clip = true → k = len) : Rel M w (.arr cs len clip) (.slice (some a) len k)
  | agg (cs vs) (ho : ∀ x ∈ cs, x.one = true) (hr : RelL M w cs vs) : Rel M w (.agg cs) (.agg vs.toArray)
  | fn (f fi ca us vs) (h1 : RelL M w fi us) (h2 : RelL M w ca vs) : Rel M w (.fn f fi ca) (.func (.func f) us.toArray vs.toArray)
  | map (r st b n) (h : M.m st = some (b, n)) : Rel M w (.map r st) (.map (some b))
  | iface (t v y) (h : Rel M w v y) : Rel M w (.iface t v) (.iface t y)
  | tup (xs vs) (h : RelL M w xs vs) : Rel M w (.tup xs) (.tuple vs.toArray)
inductive RelL (M : Mp) (w : World) : List V → List Value → Prop
  | nil : RelL M w [] []
  | cons (x y xs ys) (h : Rel M w x y) (hs : RelL M w xs ys) : RelL M w (x :: xs) (y :: ys)
end

section
variable {M M' : Mp} {w w' : World}
theorem RelL.length {xs : List V} {ys : List Value} (h : RelL M w xs ys) : xs.length = ys.length := by
  induction xs generalizing ys with
  | nil => cases h; rfl
  | cons x xs ih => cases h with | cons _ _ _ _ _ hs => simp [ih hs]
theorem RelL.get {xs : List V} {ys : List Value} (h : RelL M w xs ys) {j : Nat} {x : V} (hx : xs[j]? = some x) : ∃ y, ys[j]? = some y ∧ Rel M w x y := by
  induction xs generalizing ys j with
  | nil => simp at hx
  | cons a xs ih =>
    cases h with
    | cons _ y _ ys h hs =>
      cases j with
      | zero => simp at hx; subst hx; exact ⟨y, rfl, h⟩
      | succ j => simpa using ih hs (by simpa using hx)
theorem RelL.of_get {xs : List V} : ∀ {ys : List Value}, xs.length = ys.length → (∀ (j : Nat) x y, xs[j]? = some x → ys[j]? = some y → Rel M w x y) → RelL M w xs ys := by
  induction xs with
  | nil => intro ys hl h; cases ys with | nil => exact .nil | cons => simp at hl
  | cons a xs ih =>
    intro ys hl h
    cases ys with
    | nil => simp at hl
    | cons y ys => exact .cons _ _ _ _ (h 0 a y rfl rfl) (ih (by simpa using hl) fun j x z hx hz => h (j + 1) x z (by simpa using hx) (by simpa using hz))
theorem RelL.append {xs xs' : List V} {ys ys' : List Value} (h : RelL M w xs ys) (h' : RelL M w xs' ys') : RelL M w (xs ++ xs') (ys ++ ys') := by
  induction xs generalizing ys with
  | nil => cases h; simpa using h'
  | cons x xs ih => cases h with | cons _ _ _ _ h hs => exact .cons _ _ _ _ h (ih hs)
theorem RelL.drop {xs : List V} {ys : List Value} (h : RelL M w xs ys) (n : Nat) : RelL M w (xs.drop n) (ys.drop n) := by
  induction n generalizing xs ys with
  | zero => simpa using h
  | succ n ih => cases h with | nil => simpa using RelL.nil | cons _ _ _ _ h hs => simpa using ih hs
theorem RelL.take {xs : List V} {ys : List Value} (h : RelL M w xs ys) (n : Nat) : RelL M w (xs.take n) (ys.take n) := by
  induction n generalizing xs ys with
  | zero => simpa using RelL.nil
  | succ n ih => cases h with | nil => simpa using RelL.nil | cons _ _ _ _ h hs => simpa using RelL.cons _ _ _ _ h (ih hs)
theorem RelL.map_ev {X : Type} (xs : List X) (f : X → V) (g : X → Value) (h : ∀ x ∈ xs, Rel M w (f x) (g x)) : RelL M w (xs.map f) (xs.map g) := by
  induction xs with
  | nil => exact .nil
  | cons x xs ih => exact .cons _ _ _ _ (h x (by simp)) (ih fun y hy => h y (by simp [hy]))

structure Ext (B0 : Nat) (M M' : Mp) (w w' : World) : Prop where
  m : ∀ st x, M.m st = some x → M'.m st = some x
  F : ∀ b, M.F b → M'.F b
  keep : ∀ b, M.F b → w'.heap[b]? = w.heap[b]?
  below : Below B0 w w'
theorem Ext.refl (B0 : Nat) (M : Mp) (w : World) : Ext B0 M M w w := ⟨fun _ _ h => h, fun _ h => h, fun _ _ => rfl, Below.refl _ _⟩
theorem Ext.trans {B0 : Nat} {M1 M2 M3 : Mp} {w1 w2 w3 : World} (h : Ext B0 M1 M2 w1 w2) (k : Ext B0 M2 M3 w2 w3) : Ext B0 M1 M3 w1 w3 :=
  ⟨fun st x e => k.m _ _ (h.m _ _ e), fun b e => k.F _ (h.F _ e), fun b e => (k.keep _ (h.F _ e)).trans (h.keep _ e), h.below.trans k.below⟩

mutual
theorem Rel.mono' (hm : ∀ st x, M.m st = some x → M'.m st = some x) (hF : ∀ b, M.F b → M'.F b) (hk : ∀ b, M.F b → w'.heap[b]? = w.heap[b]?) : ∀ {v : V} {y : Value}, Rel M w v y → Rel M' w' v y
  | _, _, .bad y => .bad y
  | _, _, .b x => .b x
  | _, _, .i k n => .i k n
  | _, _, .s x => .s x
  | _, _, .nilp => .nilp
  | _, _, .nils => .nils
  | _, _, .nilf => .nilf
  | _, _, .nili => .nili
  | _, _, .nilm => .nilm
  | _, _, .ptr r st off b n h => .ptr r st off b n (hm _ _ h)
  | _, _, .iptr cs a vs h1 h2 h3 h4 => .iptr cs a vs (fun e => hF _ (h1 e)) h2 (RelL.mono' hm hF hk h3) (fun j y hy => by
      have hne : cs ≠ [] := by
        intro e; subst e; cases h3; simp at hy
      have hb : (a.add j).block = a.block := by unfold Addr.add; split <;> rfl
      rw [World.cell?_of_block (w := w) (by rw [hb]; exact hk _ (h1 hne))]; exact h4 j y hy)
  | _, _, .sl r st off len es cap b n k h a1 a2 a3 => .sl r st off len es cap b n k (hm _ _ h) a1 a2 a3
  | _, _, .arr cs len clip a vs k h1 h2 h3 h4 h5 h6 => .arr cs len clip a vs k (fun e => hF _ (h1 e)) h2 (RelL.mono' hm hF hk h3) (fun j y hy => by
      have hne : cs ≠ [] := by
        intro e; subst e; cases h3; simp at hy
      have hb : (a.add j).block = a.block := by unfold Addr.add; split <;> rfl
      rw [World.cell?_of_block (w := w) (by rw [hb]; exact hk _ (h1 hne))]; exact h4 j y hy) h5 h6
  | _, _, .agg cs vs h1 h2 => .agg cs vs h1 (RelL.mono' hm hF hk h2)
  | _, _, .fn f fi ca us vs h1 h2 => .fn f fi ca us vs (RelL.mono' hm hF hk h1) (RelL.mono' hm hF hk h2)
  | _, _, .map r st b n h => .map r st b n (hm _ _ h)
  | _, _, .iface t v y h => .iface t v y (Rel.mono' hm hF hk h)
  | _, _, .tup xs vs h => .tup xs vs (RelL.mono' hm hF hk h)
theorem RelL.mono' (hm : ∀ st x, M.m st = some x → M'.m st = some x) (hF : ∀ b, M.F b → M'.F b) (hk : ∀ b, M.F b → w'.heap[b]? = w.heap[b]?) : ∀ {v : List V} {y : List Value}, RelL M w v y → RelL M' w' v y
  | _, _, .nil => .nil
  | _, _, .cons x y xs ys h hs => .cons x y xs ys (Rel.mono' hm hF hk h) (RelL.mono' hm hF hk hs)
end
theorem Rel.mono {B0 : Nat} (e : Ext B0 M M' w w') {v : V} {y : Value} (h : Rel M w v y) : Rel M' w' v y := Rel.mono' e.m e.F e.keep h
theorem RelL.mono {B0 : Nat} (e : Ext B0 M M' w w') {v : List V} {y : List Value} (h : RelL M w v y) : RelL M' w' v y := RelL.mono' e.m e.F e.keep h

theorem Rel.oneCell {v : V} {y : Value} (h : Rel M w v y) (ho : v.one = true) : y.oneCell' = true := by
  cases h <;> simp_all [V.one, Value.oneCell']
theorem Rel.cells {v : V} {y : Value} (h : Rel M w v y) (hv : v.cells.all V.one = true) : RelL M w v.cells y.cells.toList := by
  cases h with
  | agg cs vs ho hr => simpa [V.cells, Value.cells] using hr
  | bad y => simp [V.cells, V.one] at hv
  | tup xs vs h => simp [V.cells, V.one] at hv
  | _ => simp only [V.cells, Value.cells]; exact .cons _ _ _ _ (by constructor <;> assumption) .nil
theorem rel_ofVal1 (y : Value) : Rel M w (ofVal1 y) y := by
  unfold ofVal1
  split <;> constructor
theorem one_ofVal1 (y : Value) : (ofVal1 y).one = true ∨ ofVal1 y = .bad := by
  unfold ofVal1
  split <;> simp [V.one]
theorem Rel.ptr_inv {r off st} {y : Value} (h : Rel M w (.ptr r st off) y) : ∃ b n, M.m st = some (b, n) ∧ y = .pointer (some ⟨b, off, none⟩) := by
  cases h; exact ⟨_, _, ‹_›, rfl⟩
theorem Rel.iptr_inv {cs} {y : Value} (h : Rel M w (.iptr cs) y) : ∃ a vs, y = .pointer (some a) ∧ (cs ≠ [] → M.F a.block) ∧ (∀ x ∈ cs, x.one = true) ∧ RelL M w cs vs ∧ (∀ j y, vs[j]? = some y → w.cell? (a.add j) = some y) := by
  cases h; exact ⟨_, _, rfl, ‹_›, ‹_›, ‹_›, ‹_›⟩
theorem Rel.sl_inv {r st off len es cap} {y : Value} (h : Rel M w (.sl r st off len es cap) y) : ∃ b n k, M.m st = some (b, n) ∧ y = .slice (some ⟨b, off, none⟩) len k ∧ len ≤ k ∧ (cap = none → off + k * es = n) ∧ (∀ c, cap = some c → k = c) := by
  cases h; exact ⟨_, _, _, ‹_›, rfl, ‹_›, ‹_›, ‹_›⟩
theorem Rel.arr_inv {cs len clip} {y : Value} (h : Rel M w (.arr cs len clip) y) : ∃ a vs k, y = .slice (some a) len k ∧ (cs ≠ [] → M.F a.block) ∧ (∀ x ∈ cs, x.one = true) ∧ RelL M w cs vs ∧ (∀ j y, vs[j]? = some y → w.cell? (a.add j) = some y) ∧ len ≤ k ∧ (clip = true → k = len) := by
  cases h; exact ⟨_, _, _, rfl, ‹_›, ‹_›, ‹_›, ‹_›, ‹_›, ‹_›⟩
theorem Rel.agg_inv {cs} {y : Value} (h : Rel M w (.agg cs) y) : ∃ vs : List Value, y = .agg vs.toArray ∧ (∀ x ∈ cs, x.one = true) ∧ RelL M w cs vs := by
  cases h; exact ⟨_, rfl, ‹_›, ‹_›⟩
theorem Rel.i_inv {k n} {y : Value} (h : Rel M w (.i k n) y) : y = .int k n := by cases h; rfl
theorem Rel.b_inv {x} {y : Value} (h : Rel M w (.b x) y) : y = .bool x := by cases h; rfl
theorem Rel.s_inv {x} {y : Value} (h : Rel M w (.s x) y) : y = .string x := by cases h; rfl
theorem Rel.nils_inv {y : Value} (h : Rel M w .nils y) : y = .slice none 0 0 := by cases h; rfl
theorem Rel.tup_inv {xs} {y : Value} (h : Rel M w (.tup xs) y) : ∃ vs : List Value, y = .tuple vs.toArray ∧ RelL M w xs vs := by
  cases h; exact ⟨_, rfl, ‹_›⟩
theorem Rel.map_inv {r st} {y : Value} (h : Rel M w (.map r st) y) : ∃ b n, M.m st = some (b, n) ∧ y = .map (some b) := by
  cases h; exact ⟨_, _, ‹_›, rfl⟩
theorem Rel.fn_inv {f fi ca} {y : Value} (h : Rel M w (.fn f fi ca) y) : ∃ us vs : List Value, y = .func (.func f) us.toArray vs.toArray ∧ RelL M w fi us ∧ RelL M w ca vs := by
  cases h; exact ⟨_, _, rfl, ‹_›, ‹_›⟩
end
end Go.Am
