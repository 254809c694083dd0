/- What a bound on the bulk of arguments gives: a bound on each slice's, each text's bytes. -/
import Derived.Test.YtijdfdkngbpodaaRows
import Derived.Test.YtijdfdkngbpodaaAmRow
namespace Go.Proofs.Ytijdfdkngbpodaa.bulkUp
open Go.ChangeShapes Go.WideShapes Go.ChangeAt Go.RowKit Go.Am
set_option linter.unusedVariables false
/-- Are a type's parts types of the program's table? -/
def partsIn (P : Program) (t : TypeId) : Bool :=
  match P.underlying t with
  | some (.pointer e) | some (.slice e) | some (.array _ e) => decide (e < P.types.size)
  | some (.map k e) => decide (k < P.types.size) && decide (e < P.types.size)
  | some (.struct fs) => fs.toList.all fun f => decide (f.type < P.types.size)
  | _ => true
def okK (P : Program) (K : Nat) : Bool := (List.range P.types.size).all fun t => decide (P.bytesOf t ≤ K) && partsIn P t
section
variable {H : Type} {P : Program} {K : Nat}
theorem okK_get (hK : okK P K = true) {t : TypeId} (ht : t < P.types.size) : P.bytesOf t ≤ K ∧ partsIn P t = true := by
  have := List.all_eq_true.1 hK t (List.mem_range.2 ht)
  simpa using this
mutual
theorem one_w (hK : okK P K = true) (h1 : 1 ≤ K) : ∀ (d : DataW H) (t : TypeId) (n : Nat), t < P.types.size → n ∈ d.weights P t → n ≤ Rows.uptoBulk d * (2 * K)
  | .lit (.string b), t, n, ht, h => by
    simp only [DataW.weights, List.mem_singleton] at h
    subst h
    simp only [Rows.uptoBulk]
    have : (b.length + 1) * 1 ≤ (b.length + 1) * (2 * K) := Nat.mul_le_mul_left _ (by omega)
    omega
  | .lit (.int _ _), t, n, ht, h => by simp [DataW.weights] at h
  | .lit (.bool _), t, n, ht, h => by simp [DataW.weights] at h
  | .lit (.float _ _), t, n, ht, h => by simp [DataW.weights] at h
  | .lit .nil, t, n, ht, h => by simp [DataW.weights] at h
  | .nil, t, n, ht, h => by simp [DataW.weights] at h
  | .ptr d, t, n, ht, h => by
    simp only [DataW.weights] at h
    have hp := (okK_get hK ht).2
    unfold partsIn at hp
    split at h
    · rename_i e he
      rw [he] at hp
      have := one_w hK h1 d _ n (of_decide_eq_true hp) h
      simp only [Rows.uptoBulk, Nat.add_mul]
      omega
    · cases h
  | .slice elems spare, t, n, ht, h => by
    simp only [DataW.weights] at h
    have hp := (okK_get hK ht).2
    unfold partsIn at hp
    split at h
    · rename_i e he
      rw [he] at hp
      have he' : e < P.types.size := of_decide_eq_true hp
      simp only [Rows.uptoBulk, Nat.add_mul]
      rcases List.mem_cons.1 h with rfl | h
      · have a1 := len_le elems
        have a2 := len_le spare
        have a3 := (okK_get hK he').1
        have : (elems.length + spare.length) * P.bytesOf e ≤ (Rows.uptoBulkAll elems + Rows.uptoBulkAll spare) * (2 * K) := Nat.mul_le_mul (by omega) (by omega)
        have := Nat.le_trans this (Nat.le_of_eq (Nat.add_mul _ _ _))
        omega
      · rcases List.mem_append.1 h with h | h
        · have := all_w hK h1 elems _ n he' h; omega
        · have := all_w hK h1 spare _ n he' h; omega
    · cases h
  | .agg parts, t, n, ht, h => by
    simp only [DataW.weights] at h
    simp only [Rows.uptoBulk, Nat.add_mul]
    have hp := (okK_get hK ht).2
    unfold partsIn at hp
    split at h
    · rename_i fs he
      rw [he] at hp
      have := each_w hK h1 parts _ n (fun t ht => by
        obtain ⟨f, hf, rfl⟩ := List.mem_map.1 ht
        exact of_decide_eq_true (List.all_eq_true.1 hp f hf)) h
      omega
    · rename_i m e he
      rw [he] at hp
      have := all_w hK h1 parts _ n (of_decide_eq_true hp) h; omega
    · cases h
  | .iface _ _, t, n, ht, h => by simp [DataW.weights] at h
  | .map entries, t, n, ht, h => by
    simp only [DataW.weights] at h
    simp only [Rows.uptoBulk, Nat.add_mul]
    have hp := (okK_get hK ht).2
    unfold partsIn at hp
    split at h
    · rename_i k e he
      rw [he] at hp
      simp only [Bool.and_eq_true, decide_eq_true_eq] at hp
      rcases List.mem_cons.1 h with rfl | h
      · have a1 := lenE_le entries
        have a3 := (okK_get hK hp.2).1
        have a4 := (okK_get hK hp.1).1
        have : entries.length * (P.bytesOf k + P.bytesOf e) ≤ Rows.uptoBulkEntries entries * (2 * K) := Nat.mul_le_mul a1 (by omega)
        omega
      · have := ents_w hK h1 entries _ n hp.2 h; omega
    · cases h
  | .held _, t, n, ht, h => by simp [DataW.weights] at h
theorem all_w (hK : okK P K = true) (h1 : 1 ≤ K) : ∀ (l : List (DataW H)) (e : TypeId) (n : Nat), e < P.types.size → n ∈ DataW.weightsAll P e l → n ≤ Rows.uptoBulkAll l * (2 * K)
  | [], e, n, ht, h => by simp [DataW.weightsAll] at h
  | d :: l, e, n, ht, h => by
    simp only [DataW.weightsAll, List.mem_append] at h
    simp only [Rows.uptoBulkAll, Nat.add_mul]
    rcases h with h | h
    · have := one_w hK h1 d _ n ht h; omega
    · have := all_w hK h1 l _ n ht h; omega
theorem each_w (hK : okK P K = true) (h1 : 1 ≤ K) : ∀ (l : List (DataW H)) (ts : List TypeId) (n : Nat), (∀ t ∈ ts, t < P.types.size) → n ∈ DataW.weightsEach P ts l → n ≤ Rows.uptoBulkAll l * (2 * K)
  | [], ts, n, ht, h => by cases ts <;> simp [DataW.weightsEach] at h
  | d :: l, [], n, ht, h => by simp [DataW.weightsEach] at h
  | d :: l, t :: ts, n, ht, h => by
    simp only [DataW.weightsEach, List.mem_append] at h
    simp only [Rows.uptoBulkAll, Nat.add_mul]
    rcases h with h | h
    · have := one_w hK h1 d _ n (ht t List.mem_cons_self) h; omega
    · have := each_w hK h1 l _ n (fun q hq => ht q (List.mem_cons_of_mem _ hq)) h; omega
theorem ents_w (hK : okK P K = true) (h1 : 1 ≤ K) : ∀ (l : List (Lit × DataW H)) (e : TypeId) (n : Nat), e < P.types.size → n ∈ DataW.weightsEntries P e l → n ≤ Rows.uptoBulkEntries l * (2 * K)
  | [], e, n, ht, h => by simp [DataW.weightsEntries] at h
  | d :: l, e, n, ht, h => by
    simp only [DataW.weightsEntries, List.mem_append] at h
    simp only [Rows.uptoBulkEntries, Nat.add_mul]
    rcases h with h | h
    · have := ent_w hK h1 d _ n ht h; omega
    · have := ents_w hK h1 l _ n ht h; omega
theorem ent_w (hK : okK P K = true) (h1 : 1 ≤ K) : ∀ (x : Lit × DataW H) (e : TypeId) (n : Nat), e < P.types.size → n ∈ DataW.weightsEntry P e x → n ≤ Rows.uptoBulkEntry x * (2 * K)
  | (.string b, d), e, n, ht, h => by
    simp only [DataW.weightsEntry] at h
    simp only [Rows.uptoBulkEntry, Nat.add_mul]
    rcases List.mem_cons.1 h with rfl | h
    · have : b.length * 1 ≤ b.length * (2 * K) := Nat.mul_le_mul_left _ (by omega)
      omega
    · have := one_w hK h1 d _ n ht h; omega
  | (.int _ _, d), e, n, ht, h => by
    simp only [DataW.weightsEntry] at h
    simp only [Rows.uptoBulkEntry, Nat.add_mul]
    have := one_w hK h1 d _ n ht h; omega
  | (.bool _, d), e, n, ht, h => by
    simp only [DataW.weightsEntry] at h
    simp only [Rows.uptoBulkEntry, Nat.add_mul]
    have := one_w hK h1 d _ n ht h; omega
  | (.float _ _, d), e, n, ht, h => by
    simp only [DataW.weightsEntry] at h
    simp only [Rows.uptoBulkEntry, Nat.add_mul]
    have := one_w hK h1 d _ n ht h; omega
  | (.nil, d), e, n, ht, h => by
    simp only [DataW.weightsEntry] at h
    simp only [Rows.uptoBulkEntry, Nat.add_mul]
    have := one_w hK h1 d _ n ht h; omega
theorem len_le : ∀ (l : List (DataW H)), l.length ≤ Rows.uptoBulkAll l
  | [] => by simp
  | d :: l => by
    have h1 := bulk_pos d
    have h2 := len_le l
    simp only [Rows.uptoBulkAll, List.length_cons]; omega
theorem lenE_le : ∀ (l : List (Lit × DataW H)), l.length ≤ Rows.uptoBulkEntries l
  | [] => by simp
  | x :: l => by
    have h2 := lenE_le l
    have h1 : 1 ≤ Rows.uptoBulkEntry x := by
      obtain ⟨k, d⟩ := x
      cases k <;> simp [Rows.uptoBulkEntry]
    simp only [Rows.uptoBulkEntries, List.length_cons]; omega
theorem bulk_pos : ∀ (d : DataW H), 1 ≤ Rows.uptoBulk d
  | .lit l => by cases l <;> simp [Rows.uptoBulk]
  | .nil => by simp [Rows.uptoBulk]
  | .ptr d => by simp [Rows.uptoBulk]
  | .slice a b => by simp [Rows.uptoBulk]
  | .agg a => by simp [Rows.uptoBulk]
  | .iface a b => by simp [Rows.uptoBulk]
  | .map a => by simp [Rows.uptoBulk]
  | .held a => by simp [Rows.uptoBulk]
end
/-- The bound that comes with the claim. -/
theorem up_weights {ts : List TypeId} {ds : List (DataW H)} (hK : okK P K = true) (h1 : 1 ≤ K) (hts : ∀ t ∈ ts, t < P.types.size) (hk : Rows.uptoSmall H ds = true) : (DataW.weightsEach P ts ds).all (· ≤ 1048576 * (2 * K)) = true := by
  have hb : Rows.uptoBulkAll ds ≤ 1048576 := of_decide_eq_true hk
  rw [List.all_eq_true]
  intro n hn
  have := each_w hK h1 ds ts n hts hn
  have h2 : Rows.uptoBulkAll ds * (2 * K) ≤ 1048576 * (2 * K) := Nat.mul_le_mul_right _ hb
  exact decide_eq_true (by omega)
end
theorem bytes_le : okK Try.prog 144 = true := by decide +kernel
end Go.Proofs.Ytijdfdkngbpodaa.bulkUp
