/- The abstract machine: what is appended, for the simplifier. -/
import Derived.Test.YtibhpbpjdgodnaaGreatDoorAmFlat
namespace Go.Am
open Go
set_option linter.unusedVariables false
set_option linter.unusedSimpArgs false
def appendRaw := @appendA
def ifst (m : Nat) (a b : List Nat) : List Nat := if m = 0 then a else b
section
variable {C : Cfg} {t e : TypeId} {σ : List O} {r r2 n m B z : Nat} {st st2 st' : List Nat} {b : ByteArray} {cap2 : Option Nat} {cs row : List V} {cl : Bool} {x zv : V}
theorem u8s_len : (u8s b).length = b.size := by simp [u8s]
theorem roomy_of {k : Nat} (h : k ≤ 140737488355328) : roomy k = true := by simp [roomy, h]
theorem set_row {st : List Nat} {cs : List V} (h : rowAt σ r st = some cs) : σ.set r (.cells st cs) = σ := by
  unfold rowAt at h
  split at h
  · rename_i st' cs' hs
    split at h
    · rename_i e
      cases h
      subst e
      obtain ⟨hl, hg⟩ := List.getElem?_eq_some_iff.1 hs
      rw [← hg]; exact List.set_getElem_self hl
    · cases h
  · cases h
/-- A slice that may grow, and has no room: where it stands, or anew. -/
theorem appN {news : List V} (he : C.elem t = some (e, 1, zv)) (hb : C.bytes e = B) (hx : elems 1 σ x = some (m, news)) (hm : news.length = m) (h : (n + m) * B ≤ 140737488355328) :
    appendA C t σ st' (.sl r st 0 n 1 none) x = (rowAt σ r st).bind fun row => if n = row.length then some (.sl r (ifst m st st') 0 (row ++ news).length 1 none, σ.set r (.cells (ifst m st st') (row ++ news))) else appendRaw C t σ st' (.sl r st 0 n 1 none) x := by
  cases hr : rowAt σ r st with
  | none => simp only [appendA, he, Option.bind_some, hx, hr, if_true, Option.bind_none]
  | some row =>
    simp only [Option.bind_some]
    split
    · rename_i hn
      subst hn
      simp only [appendA, he, Option.bind_some, hx, hr, if_true]
      by_cases h0 : m = 0
      · have : news = [] := List.eq_nil_of_length_eq_zero (by omega)
        subst this
        simp only [h0, if_true, ifst, List.append_nil, set_row hr]
      · rw [if_neg h0, if_neg (by omega), hb, roomy_of h, if_pos rfl, if_pos ⟨trivial, by omega⟩]
        simp only [ifst, if_neg h0, List.length_append, hm]
    · rfl
theorem appN_s (he : C.elem t = some (e, 1, zv)) (hb : C.bytes e = B) (h : (n + b.size) * B ≤ 140737488355328) :
    appendA C t σ st' (.sl r st 0 n 1 none) (.s b) = (rowAt σ r st).bind fun row => if n = row.length then some (.sl r (ifst b.size st st') 0 (row ++ u8s b).length 1 none, σ.set r (.cells (ifst b.size st st') (row ++ u8s b))) else appendRaw C t σ st' (.sl r st 0 n 1 none) (.s b) :=
  appN he hb (by simp [elems]) u8s_len h
theorem elems_row (h : rowAt σ r st = some cs) (hn : cs.length = n) : elems 1 σ (.sl r st 0 n 1 cap2) = some (n, cs) := by
  subst hn
  simp [elems, h, take?]
theorem appN_sl (he : C.elem t = some (e, 1, zv)) (hb : C.bytes e = B) (h : (n + m) * B ≤ 140737488355328) :
    appendA C t σ st' (.sl r st 0 n 1 none) (.sl r2 st2 0 m 1 cap2) = (rowAt σ r2 st2).bind fun row2 => (rowAt σ r st).bind fun row => if n = row.length ∧ m = row2.length then some (.sl r (ifst m st st') 0 (row ++ row2).length 1 none, σ.set r (.cells (ifst m st st') (row ++ row2))) else appendRaw C t σ st' (.sl r st 0 n 1 none) (.sl r2 st2 0 m 1 cap2) := by
  cases hr2 : rowAt σ r2 st2 with
  | none => simp only [appendA, he, Option.bind_some, elems, if_true, hr2, Option.bind_none]
  | some row2 =>
    simp only [Option.bind_some]
    by_cases hm : m = row2.length
    · rw [appN he hb (elems_row hr2 hm.symm) hm.symm h]
      cases rowAt σ r st with
      | none => rfl
      | some row => simp only [Option.bind_some, hm, and_true]
    · cases hr : rowAt σ r st with
      | none =>
        simp only [appendA, he, Option.bind_some, elems, if_true, hr2, Option.bind_none]
        cases take? row2 0 (m * 1) <;> simp [hr]
      | some row =>
        simp only [Option.bind_some]
        rw [if_neg (fun q => hm q.2)]
        rfl
theorem appN_arr (he : C.elem t = some (e, 1, zv)) (hb : C.bytes e = B) (h : (n + cs.length) * B ≤ 140737488355328) :
    appendA C t σ st' (.sl r st 0 n 1 none) (.arr cs cs.length cl) = (rowAt σ r st).bind fun row => if n = row.length then some (.sl r (ifst cs.length st st') 0 (row ++ cs).length 1 none, σ.set r (.cells (ifst cs.length st st') (row ++ cs))) else appendRaw C t σ st' (.sl r st 0 n 1 none) (.arr cs cs.length cl) :=
  appN he hb (by simp [elems, take?]) rfl h
/-- A slice that is full: anew. -/
theorem appC {news : List V} (he : C.elem t = some (e, 1, zv)) (hb : C.bytes e = B) (hx : elems 1 σ x = some (m + 1, news)) (hm : news.length = m + 1) (h : (n + (m + 1)) * B ≤ 140737488355328) :
    appendA C t σ st' (.sl r st 0 n 1 (some n)) x = (rowAt σ r st).bind fun row => if n = row.length then some (.sl σ.length st' 0 (row ++ news).length 1 none, σ ++ [.cells st' (row ++ news)]) else appendRaw C t σ st' (.sl r st 0 n 1 (some n)) x := by
  cases hr : rowAt σ r st with
  | none => simp only [appendA, he, Option.bind_some, hx, hr, if_true, Option.bind_none]
  | some row =>
    simp only [Option.bind_some]
    split
    · rename_i hn
      subst hn
      simp only [appendA, he, Option.bind_some, hx, hr, if_true]
      rw [if_neg (by omega), if_neg (by omega), hb, roomy_of h, if_pos rfl, if_pos (by omega)]
      simp [take?, hm]
    · rfl
theorem appC_sl (he : C.elem t = some (e, 1, zv)) (hb : C.bytes e = B) (h : (n + (m + 1)) * B ≤ 140737488355328) (hr2 : rowAt σ r2 st2 = some cs) (hm : cs.length = m + 1) :
    appendA C t σ st' (.sl r st 0 n 1 (some n)) (.sl r2 st2 0 (m + 1) 1 cap2) = (rowAt σ r st).bind fun row => if n = row.length then some (.sl σ.length st' 0 (row ++ cs).length 1 none, σ ++ [.cells st' (row ++ cs)]) else appendRaw C t σ st' (.sl r st 0 n 1 (some n)) (.sl r2 st2 0 (m + 1) 1 cap2) :=
  appC he hb (elems_row hr2 hm) hm h
theorem appC_sl2 (he : C.elem t = some (e, 1, zv)) (hb : C.bytes e = B) (h : (n + m) * B ≤ 140737488355328) (h0 : 0 < m) :
    appendA C t σ st' (.sl r st 0 n 1 (some n)) (.sl r2 st2 0 m 1 cap2) = (rowAt σ r2 st2).bind fun cs => (rowAt σ r st).bind fun row => if n = row.length ∧ m = cs.length then some (.sl σ.length st' 0 (row ++ cs).length 1 none, σ ++ [.cells st' (row ++ cs)]) else appendRaw C t σ st' (.sl r st 0 n 1 (some n)) (.sl r2 st2 0 m 1 cap2) := by
  obtain ⟨m, rfl⟩ : ∃ k, m = k + 1 := ⟨m - 1, by omega⟩
  cases hr2 : rowAt σ r2 st2 with
  | none => simp only [appendA, he, Option.bind_some, elems, if_true, hr2, Option.bind_none]
  | some cs =>
    simp only [Option.bind_some]
    by_cases hm : m + 1 = cs.length
    · rw [appC_sl he hb h hr2 hm.symm]
      cases rowAt σ r st with
      | none => rfl
      | some row => simp only [Option.bind_some, hm, and_true]
    · cases hr : rowAt σ r st with
      | none =>
        simp only [appendA, he, Option.bind_some, elems, if_true, hr2, Option.bind_none]
        cases take? cs 0 ((m + 1) * 1) <;> simp [hr]
      | some row =>
        simp only [Option.bind_some]
        rw [if_neg (fun q => hm q.2)]
        rfl
/-- Nothing there: anew. -/
theorem app0 {news : List V} (he : C.elem t = some (e, z, zv)) (hb : C.bytes e = B) (hx : elems z σ x = some (m + 1, news)) (h : (m + 1) * B ≤ 140737488355328) :
    appendA C t σ st' .nils x = some (.sl σ.length st' 0 (m + 1) z none, σ ++ [.cells st' news]) := by
  simp only [appendA, he, Option.bind_some, hx]
  rw [if_neg (by omega), hb, roomy_of h, if_pos rfl]
theorem app_empty {news : List V} (he : C.elem t = some (e, z, zv)) (hb : C.bytes e = B) (hx : elems z σ x = some (m + 1, news)) (h : (m + 1) * B ≤ 140737488355328) :
    appendA C t σ st' (.arr [] 0 true) x = some (.sl σ.length st' 0 (m + 1) z none, σ ++ [.cells st' news]) := by
  simp only [appendA, he, Option.bind_some, hx]
  rw [if_neg (by omega), hb, Nat.zero_add, roomy_of h]
  simp [take?]
/-- One more of elements of many cells. -/
theorem appZ {news : List V} (he : C.elem t = some (e, z, zv)) (hb : C.bytes e = B) (hz : 0 < z) (hx : elems z σ x = some (m + 1, news)) (h : (n + (m + 1)) * B ≤ 140737488355328) (hr : rowAt σ r st = some row) (hn : row.length = n * z) :
    appendA C t σ st' (.sl r st 0 n z none) x = some (.sl r st' 0 (n + (m + 1)) z none, σ.set r (.cells st' (row ++ news))) := by
  simp only [appendA, he, Option.bind_some, hx, hr, if_true]
  have : n * z < (n + (m + 1)) * z := by
    rw [Nat.add_mul]
    have : 0 < (m + 1) * z := Nat.mul_pos (by omega) hz
    omega
  rw [if_neg (by omega), if_neg (by omega), hb, roomy_of h, if_pos rfl, if_pos ⟨trivial, hn.symm⟩]
end
end Go.Am
