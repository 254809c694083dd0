/- The abstract machine: texts as lists of bytes. -/
import Derived.Test.YtijdfdkngbpodaaAmOwn
import Derived.Test.YtijdfdkngbpodaaAmJoin
namespace Go.Am
open Go
set_option linter.unusedVariables false
set_option linter.unusedSimpArgs false
/-- A text. -/
def S (l : List UInt8) : ByteArray := ⟨l.toArray⟩
section
variable {C : Cfg} {t : TypeId} {l m : List UInt8} {i lo hi : Nat} {k : IntKind} {x y : Operand} {b : ByteArray}
theorem S_data : (S l).data.toList = l := by simp [S]
theorem S_of (b : ByteArray) : S b.data.toList = b := by simp [S]
theorem S_size : (S l).size = l.length := by show l.toArray.size = _; simp
theorem S_eq : (S l = S m) = (l = m) := by
  refine propext ⟨fun h => ?_, fun h => by rw [h]⟩
  have := congrArg (fun b : ByteArray => b.data.toList) h
  simpa [S_data] using this
theorem S_inj {l m : List UInt8} (h : S l = S m) : l = m := S_eq ▸ h
theorem S_lit {a : Array UInt8} : (S l = ⟨a⟩) = (l = a.toList) := by
  have : (⟨a⟩ : ByteArray) = S a.toList := by simp [S]
  rw [this, S_eq]
theorem S_emp : (S l = .empty) = (l = []) := by
  have : (ByteArray.empty : ByteArray) = S [] := rfl
  rw [this, S_eq]
theorem S_get : (S l)[i]? = l[i]? := by
  by_cases h : i < l.length
  · have h2 : i < (S l).size := by rw [S_size]; exact h
    rw [getElem?_pos (S l) i h2, getElem?_pos l i h]
    congr 1
  · have h2 : ¬ i < (S l).size := by rw [S_size]; exact h
    rw [getElem?_neg (S l) i h2, getElem?_neg l i h]
theorem extract_list (d : ByteArray) : (d.extract lo hi).data.toList = (d.data.toList.take hi).drop lo := by
  rw [ByteArray.data_extract, Array.toList_extract, List.extract_eq_take_drop]
  rw [List.drop_take]
theorem S_extract : (S l).extract lo hi = S ((l.take hi).drop lo) := by
  rw [← S_of ((S l).extract lo hi), extract_list, S_data]
theorem slice_S (hs : C.shape t = .string) (h1 : lo ≤ hi) (h2 : hi ≤ l.length) {k k' : IntKind} : sliceA C t (.s (S l)) (some (.i k lo)) (some (.i k' hi)) none = some (.s (S ((l.take hi).drop lo))) := by
  simp only [sliceA, hs, S_size, bnd_nat (Nat.zero_le _) h2, bnd_nat (Nat.zero_le _) h1, Option.bind_some, S_extract]
theorem bndN {d lo hi : Nat} : bnd none d lo hi = some d := rfl
theorem slice_Sto (hs : C.shape t = .string) (h2 : hi ≤ l.length) {k' : IntKind} : sliceA C t (.s (S l)) none (some (.i k' hi)) none = some (.s (S (l.take hi))) := by
  simp only [sliceA, hs, S_size, bnd_nat (Nat.zero_le _) h2, bndN, Option.bind_some, S_extract, List.drop_zero]
theorem slice_Sfrom (hs : C.shape t = .string) (h1 : lo ≤ l.length) {k : IntKind} : sliceA C t (.s (S l)) (some (.i k lo)) none none = some (.s (S (l.drop lo))) := by
  simp only [sliceA, hs, S_size, bnd_nat (Nat.zero_le _) h1, bndN, Option.bind_some, S_extract, List.take_length]
theorem S_app : S l ++ S m = S (l ++ m) := by
  rw [← S_of (S l ++ S m), ByteArray.data_append, Array.toList_append, S_data, S_data]
theorem add_S (h : l.length + m.length ≤ 9223372036854775807) : binA C .add t x y (.s (S l)) (.s (S m)) = some (.s (S (l ++ m))) := by
  refine binA_of (op := .add) (u1 := .string (S l)) (u2 := .string (S m)) (r := .string (S (l ++ m))) rfl rfl rfl ?_
  have hm : ¬ (((S l).size + (S m).size : Nat) : Int) > IntKind.i64.max := by
    rw [S_size, S_size]
    have : IntKind.i64.max = 9223372036854775807 := rfl
    omega
  simp only [binOp, Op.stringOp, if_neg hm, S_app]
/-- A byte's place. -/
theorem indexByte_lt {c : UInt8} : (Lib.indexByte l c < 0) ↔ c ∉ l := by
  induction l with
  | nil => simp [Lib.indexByte]
  | cons a l ih =>
    unfold Lib.indexByte
    by_cases h : (a == c) = true
    · rw [if_pos h]
      have : a = c := by simpa using h
      simp [this]
    · rw [if_neg h]
      have hne : ¬ c = a := fun e => h (by simp [e])
      by_cases h2 : (Lib.indexByte l c == -1) = true
      · rw [if_pos h2]
        have : Lib.indexByte l c = -1 := by simpa using h2
        rw [this] at ih
        simp only [List.mem_cons, not_or]
        constructor
        · intro _; exact ⟨hne, ih.1 (by decide)⟩
        · intro _; decide
      · rw [if_neg h2]
        have h3 : Lib.indexByte l c ≠ -1 := by simpa using h2
        have h4 := Lib.indexByte_ge l c
        simp only [List.mem_cons, not_or]
        constructor
        · intro h5; omega
        · intro h5; have := ih.2 h5.2; omega
theorem indexByte_mem {c : UInt8} (h : c ∈ l) : Lib.indexByte l c = ((l.takeWhile (· != c)).length : Nat) := by
  induction l with
  | nil => simp at h
  | cons a l ih =>
    unfold Lib.indexByte
    by_cases h1 : (a == c) = true
    · rw [if_pos h1]
      have : a = c := by simpa using h1
      simp [this]
    · rw [if_neg h1]
      have hne : a ≠ c := fun e => h1 (by simp [e])
      have hm : c ∈ l := by
        rcases List.mem_cons.1 h with e | h
        · exact absurd e.symm hne
        · exact h
      have := ih hm
      have hn : ¬ (Lib.indexByte l c == -1) = true := by rw [this]; simp
      rw [if_neg hn, this, List.takeWhile_cons, if_pos (by simpa using hne)]
      simp
end
end Go.Am
