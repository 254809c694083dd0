/- Arguments that are slices of whole numbers, as the machine sees them. -/
import Derived.Test.YtijdfdkngbpodaaAmView
import Derived.WalkKit
import Derived.ProofKit
import Derived.OpenShut
import Derived.ShutString
import Derived.ChangeOld
import Derived.Below
import Derived.SizedLaws
import Derived.ChangeSlices
namespace Go.Am
open Go.ChangeShapes Go.WideShapes Go.ChangeAt Go.RowKit
set_option linter.unusedVariables false
set_option linter.unusedSimpArgs false
/-- A row's slice of whole numbers. -/
def IsRow (k : IntKind) (w : World) (a : Option Addr) (len cap : Nat) (zs : List Int) : Prop :=
  (a = none ∧ len = 0 ∧ cap = 0 ∧ zs = []) ∨
  ∃ x, a = some x ∧ len ≤ cap ∧ len ≤ zs.length ∧ (∀ i, i < zs.length → w.cell? (x.add i) = some (.int k (zs.getD i 0))) ∧ ∀ n ∈ zs, (Lit.int k n).wf = true
/-- What a law knows ahead of its call: no memory of its own; what is there doesn't change. -/
def M0 (W : World) : Mp := ⟨fun _ => none, fun b => b < W.heap.size⟩
theorem cell_lt {W : World} {x : Addr} {y : Value} (h : W.cell? x = some y) : x.block < W.heap.size := by
  unfold World.cell? at h
  cases hb : W.heap[x.block]? with
  | none => rw [hb] at h; simp at h
  | some o => exact (Array.getElem?_eq_some_iff.1 hb).1
theorem rel_row {W : World} {k : IntKind} {a : Option Addr} {len cap : Nat} {zs : List Int} (h : IsRow k W a len cap zs) :
    ∃ (x : V) (l : List Int), Rel (M0 W) W x (.slice a len cap) ∧ View [] x (ints k l) ∧ l.length = len ∧ ∀ n ∈ l, (Lit.int k n).wf = true := by
  rcases h with ⟨rfl, rfl, rfl, rfl⟩ | ⟨x, rfl, hlc, hz, hc, hw⟩
  · exact ⟨.nils, [], .nils, rfl, rfl, fun n h => by simp at h⟩
  · have hlen : (zs.take len).length = len := by rw [List.length_take]; omega
    refine ⟨.arr (ints k (zs.take len)) len false, zs.take len, ?_, ?_, hlen, fun n hn => hw n (List.mem_of_mem_take hn)⟩
    · refine .arr _ len false x ((zs.take len).map (Value.int k)) cap (fun hne => ?_) (fun q hq => ?_) ?_ (fun j y hy => ?_) hlc (fun e => by cases e)
      · have h0 : 0 < zs.length := by
          rcases Nat.eq_zero_or_pos zs.length with e | e
          · have : zs = [] := List.eq_nil_of_length_eq_zero e
            subst this; simp [ints] at hne
          · exact e
        have := cell_lt (hc 0 h0)
        have hb : (x.add 0).block = x.block := by unfold Addr.add; split <;> rfl
        rw [hb] at this
        exact this
      · simp only [ints, List.mem_map] at hq
        obtain ⟨n, _, rfl⟩ := hq; rfl
      · exact RelL.map_ev (zs.take len) (V.i k) (Value.int k) fun n _ => .i k n
      · rw [List.getElem?_map, Option.map_eq_some_iff] at hy
        obtain ⟨n, hn, rfl⟩ := hy
        have hj := (List.getElem?_eq_some_iff.1 hn).1
        rw [hlen] at hj
        rw [List.getElem?_take, if_pos hj] at hn
        rw [hc j (by omega), List.getD_eq_getElem?_getD, hn]; rfl
    · refine ⟨rfl, ?_⟩
      rw [ints_len, hlen]
/-- A row's slice of whole numbers is no longer than its weight allows. -/
theorem sized_row {H : Type} {enc : TypeId × Value → H} {P : Program} {W : World} {base : Nat} {spare : Nat → Bool} {held : Bool} {t e : TypeId} {k : IntKind} {a : Option Addr} {len cap : Nat} {d : DataW H} {ps : List MemPlace} {ts : List TypeId} {ds : List (DataW H)} {j : Nat}
    (hsz : (DataW.weightsEach P ts ds).all (· ≤ reachBytes) = true) (ht : ts[j]? = some t) (hd : ds[j]? = some d) (hu : P.underlying t = some (.slice e)) (he : P.underlying e = some (.int k)) (hc : P.cellsOf e = 1) {B : Nat} (hB : P.bytesOf e = B)
    (h : DataW.Trod enc P W base spare held t (.slice a len cap) d ps) : len * B ≤ 140737488351232 ∧ ∃ zs, IsRow k W a len cap zs := by
  obtain ⟨fuel, hf⟩ := h
  rcases open_ints hu he hc hf with ⟨hcs, _⟩ | ⟨x, l, c, zs, hcs, _, hl, _, hz, hx, hcell, hwz⟩
  · simp [Value.cells] at hcs
    obtain ⟨rfl, rfl, rfl⟩ := hcs
    exact ⟨by simp, [], .inl ⟨rfl, rfl, rfl, rfl⟩⟩
  · simp [Value.cells] at hcs
    obtain ⟨rfl, rfl, rfl⟩ := hcs
    obtain ⟨hx, _⟩ := Prod.mk.inj hx
    have hl2 : len ≤ zs.length := by rw [hz]; split; exact hl; exact Nat.le_refl _
    refine ⟨?_, zs, .inr ⟨x, rfl, hl, hl2, hcell, hwz⟩⟩
    subst hx
    have z := sized_slice hsz ht hd hu
    rw [hB] at z
    have h1 : (lits (H := H) k (zs.take len)).length + (lits (H := H) k (zs.drop len)).length = zs.length := by
      simp [lits]; omega
    rw [h1] at z
    exact Nat.le_trans (Nat.mul_le_mul_right _ hl2) z
end Go.Am
