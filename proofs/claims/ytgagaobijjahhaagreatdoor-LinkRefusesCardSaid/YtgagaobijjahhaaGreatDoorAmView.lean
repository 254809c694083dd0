/- The abstract machine: slices of one-celled elements, seen as lists; loops that count up. -/
import Derived.Test.YtgagaobijjahhaaGreatDoorAmSimp
namespace Go.Am
set_option linter.unusedVariables false
set_option linter.unusedSimpArgs false

def View (σ : List O) (x : V) (cs : List V) : Prop :=
  match x with
  | .nils => cs = []
  | .arr l n _ => l = cs ∧ n = cs.length
  | .sl r st o n es cap => es = 1 ∧ n = cs.length ∧ (∀ c, cap = some c → n ≤ c) ∧ ∃ row, rowAt σ r st = some row ∧ o + n ≤ row.length ∧ (row.drop o).take n = cs
  | _ => False

section
variable {C : Cfg} {σ σ' L : List O} {x : V} {cs : List V} {t e : TypeId}
theorem View.cases {P : Prop} (h : View σ x cs) (h1 : x = .nils → cs = [] → P) (h2 : ∀ cl, x = .arr cs cs.length cl → P)
    (h3 : ∀ r st o cap row, x = .sl r st o cs.length 1 cap → (∀ c, cap = some c → cs.length ≤ c) → rowAt σ r st = some row → o + cs.length ≤ row.length → (row.drop o).take cs.length = cs → P) : P := by
  cases x <;> simp only [View] at h
  · exact h1 rfl h
  · rename_i r st o n es cap
    obtain ⟨rfl, rfl, hc, row, a1, a2, a3⟩ := h
    exact h3 r st o cap row rfl hc a1 a2 a3
  · rename_i l n cl
    obtain ⟨rfl, rfl⟩ := h
    exact h2 cl rfl
theorem View.arr (σ : List O) (cs : List V) (cl : Bool) : View σ (.arr cs cs.length cl) cs := ⟨rfl, rfl⟩
theorem View.len (h : View σ x cs) (hs : C.shape t = .slice e) : lenA C t σ x = some (.i .i64 cs.length) := by
  refine h.cases (fun h1 h2 => ?_) (fun cl h1 => ?_) (fun r st o cap row h1 _ _ _ _ => ?_)
  · subst h1; subst h2; simp [lenA, hs]
  · subst h1; simp [lenA, hs]
  · subst h1; simp [lenA, hs]
theorem View.elems (h : View σ x cs) : Am.elems 1 σ x = some (cs.length, cs) := by
  refine h.cases (fun h1 h2 => ?_) (fun cl h1 => ?_) (fun r st o cap row h1 _ hr ho hc => ?_)
  · subst h1; subst h2; rfl
  · subst h1; simp [Am.elems, take?]
  · subst h1; simp [Am.elems, hr, take?, ho, hc]
theorem idx_nat {k : IntKind} {i n : Nat} (h : i < n) : Am.idx (.i k i) n = some i := by
  simp only [Am.idx]
  rw [if_pos (by omega), if_pos (by omega)]
  rfl
theorem View.at (h : View σ x cs) (hs : C.shape t = .slice e) (hz : C.size e = some 1) (ha : C.isAgg e = some false) (k : IntKind) (i : Nat) (hi : i < cs.length) :
    ∃ a, indexAddrA C t x (.i k i) = some a ∧ ∀ (σ' : List O) (cs' : List V), View σ' x cs' → loadA C e σ' a = cs'[i]? := by
  refine h.cases (fun h1 h2 => ?_) (fun cl h1 => ?_) (fun r st o cap row h1 _ hr ho hc => ?_)
  · subst h2; simp at hi
  · subst h1
    refine ⟨.iptr (cs.drop i), by simp [indexAddrA, hs, hz, idx_nat hi], fun σ' cs' h' => ?_⟩
    obtain ⟨rfl, _⟩ := h'
    simp [loadA, cellsAt, ha]
  · subst h1
    refine ⟨.ptr r st (o + i), by simp [indexAddrA, hs, hz, idx_nat hi], fun σ' cs' h' => ?_⟩
    obtain ⟨_, e2, _, row', a1, a2, a3⟩ := h'
    simp only [loadA, cellsAt, a1, ha, Option.map_some, Option.bind_some, Bool.false_eq_true, if_false]
    have := congrArg (fun l => l[i]?) a3
    simp only [List.getElem?_take, if_pos hi, List.getElem?_drop] at this
    rw [← this]
    simp
theorem bnd_nat {k : IntKind} {d lo hi i : Nat} (h1 : lo ≤ i) (h2 : i ≤ hi) : bnd (some (.i k i)) d lo hi = some i := by
  simp only [bnd]
  rw [if_pos (by omega), if_pos (by omega)]
  rfl
theorem View.part (h : View σ x cs) (hs : C.shape t = .slice e) (hz : C.size e = some 1) (k k' : IntKind) (lo hi : Nat) (h1 : lo ≤ hi) (h2 : hi ≤ cs.length) :
    ∃ y, sliceA C t x (some (.i k lo)) (some (.i k' hi)) none = some y ∧ ∀ (σ' : List O) (cs' : List V), View σ' x cs' → View σ' y ((cs'.take hi).drop lo) := by
  refine h.cases (fun e1 e2 => ?_) (fun cl e1 => ?_) (fun r st o cap row e1 hcap hr ho hc => ?_)
  · subst e1; subst e2
    have g1 : hi = 0 := by simpa using h2
    have g2 : lo = 0 := by omega
    subst g1; subst g2
    refine ⟨.nils, by simp [sliceA, hs, hz, bnd], fun σ' cs' h' => ?_⟩
    have : cs' = [] := h'
    subst this; rfl
  · subst e1
    refine ⟨.arr ((cs.take (hi * 1)).drop (lo * 1)) (hi - lo) (cl && hi == cs.length), by simp [sliceA, hs, hz, bnd_nat (Nat.zero_le _) h2, bnd_nat (Nat.zero_le _) h1], fun σ' cs' h' => ?_⟩
    obtain ⟨rfl, _⟩ := h'
    refine ⟨by simp, ?_⟩
    rw [List.length_drop, List.length_take]; omega
  · subst e1
    have hcap' : hi ≤ cap.getD cs.length := by
      cases cap with
      | none => exact h2
      | some c => have := hcap c rfl; simp; omega
    by_cases hl : lo < cs.length
    · refine ⟨.sl r st (o + lo * 1) (hi - lo) 1 (cap.map (· - lo)), by simp [sliceA, hs, hz, bnd_nat (Nat.zero_le _) hcap', bnd_nat (Nat.zero_le _) h1, hl], fun σ' cs' h' => ?_⟩
      obtain ⟨_, e2, _, row', a1, a2, a3⟩ := h'
      refine ⟨rfl, by rw [List.length_drop, List.length_take]; omega, fun c hc' => ?_, row', a1, by omega, ?_⟩
      · cases cap with
        | none => simp at hc'
        | some c0 => simp at hc'; have := hcap c0 rfl; omega
      · rw [← a3, List.take_take, Nat.min_eq_left h2, List.drop_take, List.drop_drop, Nat.mul_one]
    · have g2 : lo = hi := by omega
      have g1 : hi = cs.length := by omega
      subst g2
      have hcap2 : cs.length ≤ cap.getD cs.length := by omega
      subst g1
      refine ⟨.arr [] 0 false, by simp [sliceA, hs, hz, bnd_nat (Nat.zero_le _) hcap', bnd_nat (Nat.zero_le _) h1], fun σ' cs' h' => ?_⟩
      obtain ⟨_, e2, _, row', a1, a2, a3⟩ := h'
      have : (cs'.take cs.length).drop cs.length = [] := by rw [List.drop_eq_nil_iff, List.length_take]; omega
      rw [this]; exact ⟨rfl, rfl⟩
theorem bytesOf_ints (l : List Int) : bytesOf (ints .u8 l) = some (l.map fun n => UInt8.ofNat n.toNat) := by
  induction l with
  | nil => rfl
  | cons n l ih => simp only [ints, List.map_cons, bytesOf] at ih ⊢; rw [ih]; rfl
theorem View.str {l : List Int} {s d : TypeId} {e : TypeId} (h : View σ x (ints .u8 l)) (hs : C.shape s = .slice e) (he : C.shape e = .int .u8) (hd : C.shape d = .string) :
    convertP C s d σ x = some (.s ⟨(l.map fun n => UInt8.ofNat n.toNat).toArray⟩) := by
  have hk : known C s = true := by simp [known, hs]
  have hel := h.elems
  have hns : ∀ b, x ≠ .s b := by rintro b rfl; exact h
  unfold convertP
  rw [if_pos hk]
  cases x <;> simp only [View] at h <;> simp [hd, hs, he, hel, bytesOf_ints]

/-! Loops that count up. -/
section
variable {g : Nat} {p : List Nat} {s : St} {Q : Ex → St → Prop}
def upQ (I : Nat → St → Prop) (N i : Nat) (Q : Ex → St → Prop) (e : Ex) (s : St) (_ : Tag I := .mk) (_ : Tag Q := .mk) : Prop :=
  match e with
  | .normal => i < N ∧ I (i + 1) s
  | e => Q e s
variable {I : Nat → St → Prop} {N i : Nat}
theorem upQ_normal : upQ I N i Q .normal s = (i < N ∧ I (i + 1) s) := rfl
theorem upQ_exit (id : Nat) : upQ I N i Q (.exit id) s = Q (.exit id) s := rfl
theorem upQ_ret : upQ I N i Q .ret s = Q .ret s := rfl
theorem Wq.up {a : Code} (I : Nat → St → Prop) (N : Nat) (h0 : I 0 s) (h : ∀ i s, i ≤ N → I i s → Wq C g p a s fun e s' => upQ I N i Q e s') : Wq C g p (.loop a) s Q := by
  refine Wp.loop (fun n s => ∃ i, i ≤ N ∧ n = N - i ∧ I i s) N ⟨0, Nat.zero_le _, rfl, h0⟩ ?_
  rintro n s ⟨i, hi, rfl, hI⟩
  refine Wp.mono (h i s hi hI) fun e s' hh => ?_
  cases e with
  | normal => obtain ⟨h1, h2⟩ := hh; exact ⟨N - (i + 1), by omega, i + 1, by omega, rfl, h2⟩
  | exit id => exact hh
  | ret => exact hh
def downQ (I : Nat → St → Prop) (n : Nat) (Q : Ex → St → Prop) (e : Ex) (s : St) (_ : Tag I := .mk) (_ : Tag Q := .mk) : Prop :=
  match e with
  | .normal => ∃ m, m < n ∧ I m s
  | e => Q e s
theorem downQ_normal : downQ I i Q .normal s = ∃ m, m < i ∧ I m s := rfl
theorem downQ_exit (id : Nat) : downQ I i Q (.exit id) s = Q (.exit id) s := rfl
theorem downQ_ret : downQ I i Q .ret s = Q .ret s := rfl
theorem Wq.down {a : Code} (I : Nat → St → Prop) (n : Nat) (h0 : I n s) (h : ∀ n s, I n s → Wq C g p a s fun e s' => downQ I n Q e s') : Wq C g p (.loop a) s Q := by
  refine Wp.loop I n h0 fun n s hI => Wp.mono (h n s hI) fun e s' hh => ?_
  cases e <;> exact hh
end
/-! What is handed back: new slices of scalars. -/
/-! Addresses, cells, new slices: of one-celled elements. -/
section
variable {r o j : Nat} {st : List Nat} {cap : Option Nat} {n : Nat} {k : IntKind} {v : V}
theorem idx_sl (hs : C.shape t = .slice e) (hz : C.size e = some 1) (h : j < n) : indexAddrA C t (.sl r st o n 1 cap) (.i k j) = some (.ptr r st (o + j)) := by
  simp [indexAddrA, hs, hz, idx_nat h]
theorem idx_arr (hs : C.shape t = .slice e) (hz : C.size e = some 1) {cl : Bool} (h : j < n) : indexAddrA C t (.arr cs n cl) (.i k j) = some (.iptr (cs.drop j)) := by
  simp [indexAddrA, hs, hz, idx_nat h]
theorem load_sc (ha : C.isAgg t = some false) : loadA C t σ (.ptr r st o) = (rowAt σ r st).bind fun cs => cs[o]? := by
  simp only [loadA, cellsAt, ha, Option.bind_some, Bool.false_eq_true, if_false]
  cases rowAt σ r st <;> simp
theorem load_ip (ha : C.isAgg t = some false) : loadA C t σ (.iptr cs) = cs[0]? := by
  simp [loadA, cellsAt, ha]
theorem splice_one (h : o < cs.length) : splice cs o [v] = cs.set o v := by
  simp only [splice, List.length_singleton]
  rw [List.set_eq_take_append_cons_drop, if_pos h]
  simp
theorem store_sc (hz : C.size t = some 1) (hv : v.one = true) : storeA C t σ (.ptr r st o) v = (rowAt σ r st).bind fun cs => if o < cs.length then some (σ.set r (.cells st (cs.set o v))) else none := by
  have hc : v.cells = [v] := by cases v <;> simp [V.one] at hv <;> rfl
  simp only [storeA, hz, hc, Option.bind_some, List.length_singleton, if_true, List.all_cons, List.all_nil, hv, Bool.and_true]
  cases hr : rowAt σ r st with
  | none => rfl
  | some cs =>
    simp only [Option.bind_some]
    by_cases h : o < cs.length
    · rw [if_pos (by omega), if_pos h, splice_one h]
    · rw [if_neg (by omega), if_neg h]
theorem make_sc {zv : V} {b : Nat} (he : C.elem t = some (e, 1, zv)) (hb : C.bytes e = b) (h : n * b ≤ 140737488355328) (h2 : n ≤ 9223372036854775807) (hv : zv.one = true) :
    makeSliceA C t (.i .i64 n) (.i .i64 n) σ st = some (.sl σ.length st 0 n 1 (some n), σ ++ [.cells st (List.replicate n zv)]) := by
  have hc : zv.cells = [zv] := by cases zv <;> simp [V.one] at hv <;> rfl
  simp only [makeSliceA, he, Option.bind_some, Int.toNat_natCast, roomy, hb, hc]
  rw [if_pos (by omega), if_pos (by omega), if_pos ⟨by omega, by simpa using h⟩]
  have : ∀ n, (List.replicate n [zv]).flatten = List.replicate n zv := by
    intro n
    induction n with
    | zero => rfl
    | succ n ih => rw [List.replicate_succ, List.flatten_cons, ih]; rfl
  rw [this]
theorem rep_bools (n : Nat) (b : Bool) : List.replicate n (V.b b) = bools (List.replicate n b) := by simp [bools]
theorem rep_ints (n : Nat) (i : Int) : List.replicate n (V.i k i) = ints k (List.replicate n i) := by simp [ints]
theorem set_bools {m : List Bool} {b : Bool} : (bools m).set o (.b b) = bools (m.set o b) := by simp [bools, List.map_set]
theorem set_ints {m : List Int} {b : Int} : (ints k m).set o (.i k b) = ints k (m.set o b) := by simp [ints, List.map_set]
theorem set_app0' {x y : O} : (σ ++ [x]).set σ.length y = σ ++ [y] := by rw [set_app0]; rfl
end
theorem len_sl {r o n es : Nat} {st : List Nat} {cap : Option Nat} (hs : C.shape t = .slice e) : lenA C t σ (.sl r st o n es cap) = some (.i .i64 n) := by simp [lenA, hs]
theorem len_arr {n : Nat} {cl : Bool} (hs : C.shape t = .slice e) : lenA C t σ (.arr cs n cl) = some (.i .i64 n) := by simp [lenA, hs]
theorem len_nils (hs : C.shape t = .slice e) : lenA C t σ .nils = some (.i .i64 0) := by simp [lenA, hs]
theorem foldA_min {k : IntKind} {a b : Int} : foldA minA [.i k a, .i k b] = some (.i k (if b < a then b else a)) := rfl
theorem foldA_max {k : IntKind} {a b : Int} : foldA maxA [.i k a, .i k b] = some (.i k (if b > a then b else a)) := rfl
theorem one_b {b : Bool} : (V.b b).one = true := rfl
theorem one_i {k : IntKind} {n : Int} : (V.i k n).one = true := rfl
theorem one_s {b : ByteArray} : (V.s b).one = true := rfl
theorem one_sl {r o n es : Nat} {st : List Nat} {c : Option Nat} : (V.sl r st o n es c).one = true := rfl
theorem one_arr {n : Nat} {c : Bool} : (V.arr cs n c).one = true := rfl
theorem one_ptr {r o : Nat} {st : List Nat} : (V.ptr r st o).one = true := rfl
theorem View.bools (σ : List O) (m : List Bool) (cl : Bool) : View σ (.arr (Am.bools m) m.length cl) (Am.bools m) := ⟨rfl, by rw [bools_len]⟩
theorem View.ints (σ : List O) (k : IntKind) (m : List Int) (cl : Bool) : View σ (.arr (Am.ints k m) m.length cl) (Am.ints k m) := ⟨rfl, by rw [ints_len]⟩
end
end Go.Am
