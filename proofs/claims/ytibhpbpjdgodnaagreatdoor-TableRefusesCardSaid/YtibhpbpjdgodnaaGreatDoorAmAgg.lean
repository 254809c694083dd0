/- The abstract machine: values of many cells, for the simplifier. -/
import Derived.Test.YtibhpbpjdgodnaaGreatDoorAmGuard
namespace Go.Am
open Go
set_option linter.unusedVariables false
set_option linter.unusedSimpArgs false
section
variable {C : Cfg} {t e : TypeId} {σ L : List O} {r o n off k : Nat} {st : List Nat} {cs us zs : List V} {v : V} {rest : List (Nat × Nat × V)} {pl : List (Nat × Nat)} {parts : List (Nat × V)} {x y : O}
theorem build_struct (hs : C.shape t = .other) (hp : C.places t = some pl) (hz : C.zero t = some (.agg zs)) : buildA C t parts = (partsAt (fun i => pl[i]?) parts).bind fun l => (fillA zs l).map V.agg := by
  simp only [buildA, hz, hs, hp, Option.bind_some]; rfl
theorem build_array (hs : C.shape t = .array n e) (he : C.size e = some k) (hz : C.zero t = some (.agg zs)) : buildA C t parts = (partsAt (fun i => some (i * k, k)) parts).bind fun l => (fillA zs l).map V.agg := by
  simp only [buildA, hz, hs, he, Option.bind_some]; rfl
theorem partsAt_nil {f : Nat → Option (Nat × Nat)} : partsAt f [] = some [] := rfl
theorem partsAt_cons {f : Nat → Option (Nat × Nat)} {i : Nat} {l : List (Nat × V)} : partsAt f ((i, v) :: l) = (f i).bind fun a => (partsAt f l).map fun l => (a.1, a.2, v) :: l := rfl
theorem fill_nil : fillA cs [] = some cs := rfl
theorem cells_one (h : v.one = true) : v.cells = [v] := by cases v <;> simp [V.one] at h <;> rfl
theorem cells_agg : (V.agg cs).cells = cs := rfl
theorem fill_one (h : v.one = true) (h2 : off < cs.length) : fillA cs ((off, 1, v) :: rest) = fillA (cs.set off v) rest := by
  rw [fillA, cells_one h]
  rw [if_pos ⟨rfl, by omega, by simp [h]⟩, splice_one h2]
theorem fill_agg (hl : us.length = n) (h2 : off + n ≤ cs.length) (h3 : us.all V.one = true) : fillA cs ((off, n, .agg us) :: rest) = fillA (splice cs off us) rest := by
  rw [fillA, cells_agg, if_pos ⟨hl, h2, h3⟩]
theorem splice_all (h : us.length = cs.length) : splice cs 0 us = us := by
  simp [splice, h]
theorem take_all (h : cs.length = n) : take? cs 0 n = some cs := by
  subst h; simp [take?]
theorem load_agg (ha : C.isAgg t = some true) (hz : C.size t = some n) (hn : 0 < n) : loadA C t σ (.ptr r st o) = (rowAt σ r st).bind fun cs => (take? cs o n).map V.agg := by
  simp only [loadA, cellsAt, ha, hz, Option.bind_some, if_true]
  cases rowAt σ r st with
  | none => rfl
  | some cs =>
    simp only [Option.map_some, Option.bind_some, take?, List.length_drop, Nat.zero_add, List.drop_zero]
    by_cases h : o + n ≤ cs.length
    · rw [if_pos (by omega), if_pos h]
    · rw [if_neg (by omega), if_neg h]
theorem store_agg (hz : C.size t = some n) (hl : us.length = n) (ho : us.all V.one = true) : storeA C t σ (.ptr r st o) (.agg us) = (rowAt σ r st).bind fun cs => if o + n ≤ cs.length then some (σ.set r (.cells st (splice cs o us))) else none := by
  simp only [storeA, hz, cells_agg, Option.bind_some, hl, if_true, ho]
theorem one_nilp : (V.nilp).one = true := rfl
theorem one_nils : (V.nils).one = true := rfl
theorem one_nilf : (V.nilf).one = true := rfl
theorem one_nili : (V.nili).one = true := rfl
theorem one_nilm : (V.nilm).one = true := rfl
theorem one_iptr : (V.iptr cs).one = true := rfl
theorem one_fn {f : Nat} {a b : List V} : (V.fn f a b).one = true := rfl
theorem one_iface {f : Nat} : (V.iface f v).one = true := rfl
theorem take_app2 : (σ.set r x ++ L).take σ.length = σ.set r x := by rw [← List.length_set (as := σ) (i := r) (a := x)]; exact List.take_left
theorem take_set2 : (σ.set r x).take σ.length = σ.set r x := List.take_of_length_le (by simp)
theorem rowAt_app2 (st' : List Nat) : rowAt (σ.set r x ++ L) σ.length st' = rowAt L 0 st' := by rw [← List.length_set (as := σ) (i := r) (a := x)]; exact rowAt_app0
theorem len_str (hs : C.shape t = .string) {b : ByteArray} : lenA C t σ (.s b) = some (.i .i64 b.size) := by simp [lenA, hs]
theorem get_app0 : (σ ++ L)[σ.length]? = L[0]? := by rw [List.getElem?_append_right (Nat.le_refl _)]; simp
theorem get_app : (σ ++ L)[σ.length + k]? = L[k]? := by rw [List.getElem?_append_right (by omega)]; simp
theorem all_tt {l : List Nat} : (l.all fun _ => true) = true := by simp
theorem freezeC_agg {base : Nat} : freezeC base σ (.agg cs) = .agg (cs.map (freeze1 base σ 4)) := rfl
theorem freezeC_ptr {base : Nat} : freezeC base σ (.ptr r st o) = .ptr r st o := rfl
theorem freezeC_nilp {base : Nat} : freezeC base σ .nilp = .nilp := rfl
theorem freezeC_nili {base : Nat} : freezeC base σ .nili = .nili := rfl
theorem frz_agg {base : Nat} : freeze base σ (.agg cs) = .agg (cs.map (freeze1 base σ 4)) := rfl
theorem frz1_s {base d : Nat} {b : ByteArray} : freeze1 base σ d (.s b) = .s b := by cases d <;> rfl
theorem frz1_nils {base d : Nat} : freeze1 base σ d .nils = .nils := by cases d <;> rfl
theorem frz1_nilp {base d : Nat} : freeze1 base σ d .nilp = .nilp := by cases d <;> rfl
theorem frz1_nilf {base d : Nat} : freeze1 base σ d .nilf = .nilf := by cases d <;> rfl
theorem frz1_nili {base d : Nat} : freeze1 base σ d .nili = .nili := by cases d <;> rfl
theorem frz1_nilm {base d : Nat} : freeze1 base σ d .nilm = .nilm := by cases d <;> rfl
theorem frz1_arr {base d n : Nat} {b : Bool} : freeze1 base σ d (.arr cs n b) = .arr cs n b := by cases d <;> rfl
theorem frz1_ptr {base d : Nat} : freeze1 base σ d (.ptr r st o) = .ptr r st o := by cases d <;> rfl
end
end Go.Am
