/- Parts of one machine and of the walks over it, joined: K60 K61 K62. -/
import Derived.Test.YtibhpbpjdgodnaaGreatDoorJD
import Derived.Test.YtibhpbpjdgodnaaGreatDoorJP
import Derived.Test.YtibhpbpjdgodnaaGreatDoorKT
import Derived.Test.YtibhpbpjdgodnaaGreatDoorAmIter
/- Sums: a word turned, and mixed. -/
namespace Go.Am.R2
open Go.Proofs
set_option maxRecDepth 100000
set_option linter.unusedSimpArgs false
set_option linter.unusedVariables false
variable {σ : List O} {p : List Nat}
theorem conv_int {C : Cfg} {a b : TypeId} {σ : List O} {k k' : IntKind} {n : Int} (h0 : known C a = true) (h1 : C.shape a = .int k) (h2 : C.shape b = .int k') : convertP C a b σ (.i k n) = some (.i k' (k'.wrap n)) := by
  simp [convertP, h0, h1, h2]
noncomputable def rot (x s : Nat) : Nat := Nat.lor (Nat.mod (Nat.shiftLeft x s) 4294967296) (Nat.shiftRight x (Nat.sub 32 s))
theorem rot_run (x : Int) (k s s' : Int) (h1 : IntKind.u64.wrap ((BitVec.ofInt IntKind.u64.bits (IntKind.u64.wrap k) &&& BitVec.ofInt IntKind.u64.bits 31).toNat) = s) (h2 : IntKind.u64.wrap (32 - s) = s') (h3 : 0 ≤ s) (h4 : 0 ≤ s') (h5 : min s.toNat IntKind.u32.bits = s.toNat) (h6 : min s'.toNat IntKind.u32.bits = s'.toNat) :
    runF cfg 193 [.i .u32 x, .i .i64 k] σ p = some (.i .u32 (IntKind.u32.wrap ((BitVec.ofInt IntKind.u32.bits (IntKind.u32.wrap (x * 2 ^ s.toNat)) ||| BitVec.ofInt IntKind.u32.bits (x.fdiv (2 ^ s'.toNat))).toNat)), σ) := by
  refine run_done rfl rfl Tryz.func193 rfl ?_
  have cv := fun (τ : List O) n => conv_int (C := cfg) (σ := τ) (n := n) (k := .i64) kn3 sh3 sh183
  simp +contextual (disch := first | omega | exact rfl | decide | exact kpF (by decide) | exact kpT (by decide) | assumption | exact Z2z | exact Z30 | exact Z32 | exact Z31 | exact Z33 | exact Z34 | (simp only [Z6x, Z6y, Z2q, Z2g, Z6d, Z6e] <;> omega) | (simp only [Z6v, Z6w, Z7i, Z7j, Z7k, Z7l, Z2i, Z6k]) | (simp only [Z35, Z36, Z2r, Z2s, Z2t, Z2u, Z2v, Z2w, Z2x, Z2y, Z2z, Z30, Z31, Z32, Z33, Z34, Z7m, Z4a, Z4b] <;> assumption)) only [Tryz.f193, Z00, Z01, Z02, Z03, Z04, Z05, Z06, Z07, Z08, Z09, Z0a, Z0b, Z0c, Z0d, Z0e, Z0f, Z0g, Z0h, Z0i, Z0j, Z0k, Z0l, Z0m, Z0n, Z0o, SOp, Z0q, Z0r, Z0s, Z0t, Z0u, Z0v, Z0w, Z0x, Z0y, Z0z, Z10, Z11, Z12, GOp, Z14, Z15, Z16, Z17, Z18, Z19, Z1a, Z1b, ↓Z1c, Z1d, Z1e, Z1f, Z1g, Z1h, Z1i, Z1j, Z1k, Z1l, Z1m, Z1n, Z1o, Z1p, Int.reduceAdd, Int.reduceSub, Int.reduceMul, Int.reduceNeg, Z1q, Z1r, Z1s, Z1t, Z1u, Z1v, Z1w, Z1x, Z1y, Z1z, accs, touch, touchM, okPair, Z24, Z25, Z26, Z27, Z28, Z29, Z2a, Z2b, Z2c, Z2d, Z2e, Z2f, Z2g, Z2h, Z2i, Z2j, Z2k, Z2l, Z2m, Z2n, Z2o, Z2p, Z2q, Z2r, Z2s, Z2t, Z2u, Z2v, Z2w, Z2x, Z2y, Z2z, Z30, Z31, Z32, Z33, Z34, Z35, Z36, Z37, Z38, Z39, Z3a, Z3b, Z3c, Z3d, Z3e, Z3f, Z3g, Z3h, Z3i, Z3j, Z3k, Z3l, Nat.reduceAdd, Nat.reduceLeDiff, Nat.reduceMul, Nat.reduceSub, isV, opA, Z3o, grdO, grd, Z3r, Z3s, Z3t, Z3u, Z3v, Z3w, Z3x, Z3y, Z3z, Z40, Z41, Z42, Z43, Z44, Z45, Z46, Z47, Z48, Z49, Z4a, Z4b, Z4c, Z4d, Z4e, Z4f, Z4g, Z4h, Z4i, Z4j, Z4k, Int.reduceLT, Int.reduceLE, Int.reduceToNat, Z4l, Z4m, Z4n, Z4o, Z4p, Z4q, Z4r, Z4s, Z4t, Z4u, Z4v, Z4w, Z4x, Z4y, Z4z, Z50, Z51, Z52, Z53, Z54, Z55, Z56, Z57, Z58, Z59, Z5a, Z5b, Z5c, Z5d, Z5e, Z5f, Z5g, Z5h, Z5i, Z5j, Z5k, Z5l, Z5m, Z5n, Z5o, Z5p, Z5q, Z5r, Z5s, Z5t, Z5u, builtinP, builtinA, changes, fieldAddrA, resA, tupled, Z61, Z62, Z63, Z64, Z65, Z66, Z67, Z68, Z69, Z2q, Z6a, Z6b, Z64, Z6c, Z2m, Z6d, Z6e, Z6f, Z6g, Z6h, Z6i, Z6j, Z6k, Z6l, Z6m, Z6n, Z6o, Z6p, Z6q, Z6r, Z6s, Z6t, Z6u, Z6v, Z6w, Z6x, Z6y, Z6z, ↓reduceIte, Nat.reduceEqDiff, Nat.reduceLT, Z70, Int.reduceEq, Z3x, Z6s, Z71, Z72, Z73, Z74, Z75, Z76, Z77, Z78, Z79, Z7a, Z7b, Z7c, Z7d, Z7e, Z7f, Z7g, Z7h, sh3, sz3, by3, ag3, kn3, ze3, ld3, li3, sto3, sh183, sz183, by183, ag183, kn183, ze183, ld183, li183, sto183, sh211, sz211, by211, ag211, kn211, ze211, ld211, li211, sto211, cv, h1, h2, h3, h4, h5, h6, binA_and, binA_or, binA_shl h3, binA_shr h4]
theorem or_u32 {x y : Nat} (hx : x < 4294967296) (hy : y < 4294967296) : IntKind.u32.wrap ((BitVec.ofInt IntKind.u32.bits (x : Int) ||| BitVec.ofInt IntKind.u32.bits (y : Int)).toNat : Nat) = ((Nat.lor x y : Nat) : Int) := by
  have e : (BitVec.ofInt IntKind.u32.bits (x : Int) ||| BitVec.ofInt IntKind.u32.bits (y : Int)).toNat = Nat.lor x y := by
    simp only [BitVec.ofInt_natCast, BitVec.toNat_or, BitVec.toNat_ofNat]
    rw [Nat.mod_eq_of_lt (show x < 2 ^ IntKind.u32.bits from hx), Nat.mod_eq_of_lt (show y < 2 ^ IntKind.u32.bits from hy)]; rfl
  rw [e, uwrap (k := .u32) (by decide)]
  exact Nat.or_lt_two_pow (n := 32) hx hy
theorem rot_fin (x : Nat) (hx : x < 4294967296) (k : Int) (s : Nat) (h1 : IntKind.u64.wrap ((BitVec.ofInt IntKind.u64.bits (IntKind.u64.wrap k) &&& BitVec.ofInt IntKind.u64.bits 31).toNat) = (s : Int)) (h2 : s ≤ 32) :
    runF cfg 193 [.i .u32 (x : Int), .i .i64 k] σ p = some (.i .u32 ((rot x s : Nat) : Int), σ) := by
  have e2 : (32 : Int) - (s : Int) = ((32 - s : Nat) : Int) := by omega
  have hm : ∀ n : Nat, n ≤ 32 → min (n : Int).toNat IntKind.u32.bits = (n : Int).toNat := fun n hn => Nat.min_eq_left (by show n ≤ 32; exact hn)
  rw [rot_run (x : Int) k s ((32 - s : Nat) : Int) h1 (by rw [e2]; exact uwrap (k := .u64) (by decide) _ (by show _ < 18446744073709551616; omega)) (by omega) (by omega) (hm _ h2) (hm _ (by omega))]
  have a1 : IntKind.u32.wrap ((x : Int) * 2 ^ (s : Int).toNat) = ((Nat.mod (Nat.shiftLeft x s) 4294967296 : Nat) : Int) := by
    rw [IntKind.wrap_u32]
    show _ = (((x <<< s) % 4294967296 : Nat) : Int)
    rw [Nat.shiftLeft_eq, Int.toNat_natCast, Int.natCast_emod, Int.natCast_mul, Int.natCast_pow]; rfl
  have a2 : ((x : Int).fdiv (2 ^ ((32 - s : Nat) : Int).toNat)) = ((Nat.shiftRight x (Nat.sub 32 s) : Nat) : Int) := by
    show _ = ((x >>> (32 - s) : Nat) : Int)
    rw [Nat.shiftRight_eq_div_pow, Int.fdiv_eq_ediv_of_nonneg _ (by exact_mod_cast Nat.zero_le _), Int.toNat_natCast]
    push_cast; rfl
  rw [a1, a2, or_u32 (x := Nat.mod (Nat.shiftLeft x s) 4294967296) (y := Nat.shiftRight x (Nat.sub 32 s)) (Nat.mod_lt _ (by decide)) (Nat.lt_of_le_of_lt (by show x >>> (32 - s) ≤ x; rw [Nat.shiftRight_eq_div_pow]; exact Nat.div_le_self _ _) hx)]
  rfl
theorem rot_lt {x s : Nat} (hx : x < 4294967296) : rot x s < 4294967296 :=
  Nat.or_lt_two_pow (n := 32) (Nat.mod_lt _ (by decide)) (Nat.lt_of_le_of_lt (by show x >>> (32 - s) ≤ x; rw [Nat.shiftRight_eq_div_pow]; exact Nat.div_le_self _ _) hx)
/-- By how much the program turns. -/
noncomputable def amount : Int → Option Nat
  | .negSucc 1 => some 30 | .negSucc 5 => some 26 | .negSucc 6 => some 25 | .negSucc 10 => some 21 | .negSucc 12 => some 19
  | .negSucc 16 => some 15 | .negSucc 17 => some 14 | .negSucc 18 => some 13 | .negSucc 21 => some 10 | .negSucc 24 => some 7
  | _ => none
theorem rot_ok (x : Nat) (hx : x < 4294967296) (k : Int) (s : Nat) (hk : amount k = some s) : runF cfg 193 [.i .u32 (x : Int), .i .i64 k] σ p = some (.i .u32 ((rot x s : Nat) : Int), σ) := by
  unfold amount at hk
  split at hk <;> cases hk <;> exact rot_fin x hx _ _ (by decide) (by decide)
theorem xor_u32 {x y : Nat} (hx : x < 4294967296) (hy : y < 4294967296) {C : Cfg} {t : TypeId} {a b : Operand} : binA C .xor t a b (.i .u32 (x : Int)) (.i .u32 (y : Int)) = some (.i .u32 ((Nat.xor x y : Nat) : Int)) := binA_xor' (k := .u32) hx hy
noncomputable def mix3 (x a b c : Nat) : Nat := Nat.xor (Nat.xor (rot x a) (rot x b)) (rot x c)
theorem mixed_ok (x : Nat) (hx : x < 4294967296) (a b c : Int) (a' b' c' : Nat) (ha : amount (IntKind.i64.wrap (-a)) = some a') (hb : amount (IntKind.i64.wrap (-b)) = some b') (hc : amount (IntKind.i64.wrap (-c)) = some c') :
    runF cfg 185 [.i .u32 (x : Int), .i .i64 a, .i .i64 b, .i .i64 c] σ p = some (.i .u32 ((mix3 x a' b' c' : Nat) : Int), σ) := by
  refine run_done rfl rfl Tryz.func185 rfl ?_
  have r1 := fun (τ : List O) q => rot_ok (σ := τ) (p := q) x hx _ _ ha
  have r2 := fun (τ : List O) q => rot_ok (σ := τ) (p := q) x hx _ _ hb
  have r3 := fun (τ : List O) q => rot_ok (σ := τ) (p := q) x hx _ _ hc
  have x1 := fun (t : TypeId) (u v : Operand) => xor_u32 (C := cfg) (t := t) (a := u) (b := v) (rot_lt (s := a') hx) (rot_lt (s := b') hx)
  have x2 := fun (t : TypeId) (u v : Operand) => xor_u32 (C := cfg) (t := t) (a := u) (b := v) (x := Nat.xor (rot x a') (rot x b')) (Nat.xor_lt_two_pow (n := 32) (rot_lt (s := a') hx) (rot_lt (s := b') hx)) (rot_lt (s := c') hx)
  have ng : ∀ a : Int, pureV cfg (Op.unary .neg (.int .i64 a)) = some (.i .i64 (IntKind.i64.wrap (-a))) := fun a => (unA_neg .i64 a).trans (by rw [Int.zero_sub])
  simp +contextual (disch := first | omega | exact rfl | decide | exact kpF (by decide) | exact kpT (by decide) | assumption | exact Z2z | exact Z30 | exact Z32 | exact Z31 | exact Z33 | exact Z34 | (simp only [Z6x, Z6y, Z2q, Z2g, Z6d, Z6e] <;> omega) | (simp only [Z6v, Z6w, Z7i, Z7j, Z7k, Z7l, Z2i, Z6k]) | (simp only [Z35, Z36, Z2r, Z2s, Z2t, Z2u, Z2v, Z2w, Z2x, Z2y, Z2z, Z30, Z31, Z32, Z33, Z34, Z7m, Z4a, Z4b] <;> assumption)) only [Tryz.f185, Z00, Z01, Z02, Z03, Z04, Z05, Z06, Z07, Z08, Z09, Z0a, Z0b, Z0c, Z0d, Z0e, Z0f, Z0g, Z0h, Z0i, Z0j, Z0k, Z0l, Z0m, Z0n, Z0o, SOp, Z0q, Z0r, Z0s, Z0t, Z0u, Z0v, Z0w, Z0x, Z0y, Z0z, Z10, Z11, Z12, GOp, Z14, Z15, Z16, Z17, Z18, Z19, Z1a, Z1b, ↓Z1c, Z1d, Z1e, Z1f, Z1g, Z1h, Z1i, Z1j, Z1k, Z1l, Z1m, Z1n, Z1o, Z1p, Int.reduceAdd, Int.reduceSub, Int.reduceMul, Int.reduceNeg, Z1q, Z1r, Z1s, Z1t, Z1u, Z1v, Z1w, Z1x, Z1y, Z1z, accs, touch, touchM, okPair, Z24, Z25, Z26, Z27, Z28, Z29, Z2a, Z2b, Z2c, Z2d, Z2e, Z2f, Z2g, Z2h, Z2i, Z2j, Z2k, Z2l, Z2m, Z2n, Z2o, Z2p, Z2q, Z2r, Z2s, Z2t, Z2u, Z2v, Z2w, Z2x, Z2y, Z2z, Z30, Z31, Z32, Z33, Z34, Z35, Z36, Z37, Z38, Z39, Z3a, Z3b, Z3c, Z3d, Z3e, Z3f, Z3g, Z3h, Z3i, Z3j, Z3k, Z3l, Nat.reduceAdd, Nat.reduceLeDiff, Nat.reduceMul, Nat.reduceSub, isV, opA, Z3o, grdO, grd, Z3r, Z3s, Z3t, Z3u, Z3v, Z3w, Z3x, Z3y, Z3z, Z40, Z41, Z42, Z43, Z44, Z45, Z46, Z47, Z48, Z49, Z4a, Z4b, Z4c, Z4d, Z4e, Z4f, Z4g, Z4h, Z4i, Z4j, Z4k, Int.reduceLT, Int.reduceLE, Int.reduceToNat, Z4l, Z4m, Z4n, Z4o, Z4p, Z4q, Z4r, Z4s, Z4t, Z4u, Z4v, Z4w, Z4x, Z4y, Z4z, Z50, Z51, Z52, Z53, Z54, Z55, Z56, Z57, Z58, Z59, Z5a, Z5b, Z5c, Z5d, Z5e, Z5f, Z5g, Z5h, Z5i, Z5j, Z5k, Z5l, Z5m, Z5n, Z5o, Z5p, Z5q, Z5r, Z5s, Z5t, Z5u, builtinP, builtinA, changes, fieldAddrA, resA, tupled, Z61, Z62, Z63, Z64, Z65, Z66, Z67, Z68, Z69, Z2q, Z6a, Z6b, Z64, Z6c, Z2m, Z6d, Z6e, Z6f, Z6g, Z6h, Z6i, Z6j, Z6k, Z6l, Z6m, Z6n, Z6o, Z6p, Z6q, Z6r, Z6s, Z6t, Z6u, Z6v, Z6w, Z6x, Z6y, Z6z, ↓reduceIte, Nat.reduceEqDiff, Nat.reduceLT, Z70, Int.reduceEq, Z3x, Z6s, Z71, Z72, Z73, Z74, Z75, Z76, Z77, Z78, Z79, Z7a, Z7b, Z7c, Z7d, Z7e, Z7f, Z7g, Z7h, sh211, sz211, by211, ag211, kn211, ze211, ld211, li211, sto211, ng, r1, r2, r3, x1, x2, mix3]
end Go.Am.R2

/- The greatest of a list, told whole. -/
namespace Go.Am.R2
open Go.Proofs
set_option maxRecDepth 100000
set_option linter.unusedSimpArgs false
set_option linter.unusedVariables false
variable {σ : List O} {p : List Nat}
def maxI : List Int → Int
  | [] => 0
  | a :: l => l.foldl (fun m q => if m < q then q else m) a
theorem maxI_snoc {l : List Int} {q : Int} (h : 0 < l.length) : maxI (l ++ [q]) = if maxI l < q then q else maxI l := by
  cases l with
  | nil => simp at h
  | cons a l => simp only [maxI, List.cons_append, List.foldl_append, List.foldl_cons, List.foldl_nil]; rfl
theorem maxx_ok (l : List Int) (h0 : 0 < l.length) (hb : l.length ≤ 140737488355328) {x : V} (hv : ∀ σ, View σ x (ints .u8 l)) : runF cfg 170 [x] σ p = some (.i .u8 (maxI l), σ) := by
  suffices hs : ∃ res, runF cfg 170 [x] σ p = some res ∧ res = (.i .u8 (maxI l), σ) by
    obtain ⟨res, h1, rfl⟩ := hs
    exact h1
  refine run_doneP rfl rfl Tryz.func170 rfl ?_
  have l1 := fun τ => (hv τ).len (C := cfg) (t := 39) sh39
  simp only [ints_len] at l1
  have e0 : ((l.length : Int) < 1) = False := eq_false (by omega)
  obtain ⟨a0, ha0, hla0⟩ := (hv []).at (C := cfg) sh39 sz5 ag5 .i64 0 (by rw [ints_len]; exact h0)
  have hl0 := fun τ => hla0 τ _ (hv τ)
  have ha0' : indexAddrA cfg 39 x (.i .i64 0) = some a0 := ha0
  have hg0 : (ints .u8 l)[0]? = some (.i .u8 (l.getD 0 0)) := ints_get' h0
  simp only [hg0] at hl0
  simp +contextual (disch := first | omega | exact rfl | decide | exact kpF (by decide) | exact kpT (by decide) | assumption | exact Z2z | exact Z30 | exact Z32 | exact Z31 | exact Z33 | exact Z34 | (simp only [Z6x, Z6y, Z2q, Z2g, Z6d, Z6e] <;> omega) | (simp only [Z6v, Z6w, Z7i, Z7j, Z7k, Z7l, Z2i, Z6k]) | (simp only [Z35, Z36, Z2r, Z2s, Z2t, Z2u, Z2v, Z2w, Z2x, Z2y, Z2z, Z30, Z31, Z32, Z33, Z34, Z7m, Z4a, Z4b] <;> assumption)) only [Tryz.f170, Z00, Z01, Z02, Z03, Z04, Z05, Z06, Z07, Z08, Z09, Z0a, Z0b, Z0c, Z0d, Z0e, Z0f, Z0g, Z0h, Z0i, Z0j, Z0k, Z0l, Z0m, Z0n, Z0o, SOp, Z0q, Z0r, Z0s, Z0t, Z0u, Z0v, Z0w, Z0x, Z0y, Z0z, Z10, Z11, Z12, GOp, Z14, Z15, Z16, Z17, Z18, Z19, Z1a, Z1b, ↓Z1c, Z1d, Z1e, Z1f, Z1g, Z1h, Z1i, Z1j, Z1k, Z1l, Z1m, Z1n, Z1o, Z1p, Int.reduceAdd, Int.reduceSub, Int.reduceMul, Int.reduceNeg, Z1q, Z1r, Z1s, Z1t, Z1u, Z1v, Z1w, Z1x, Z1y, Z1z, accs, touch, touchM, okPair, Z24, Z25, Z26, Z27, Z28, Z29, Z2a, Z2b, Z2c, Z2d, Z2e, Z2f, Z2g, Z2h, Z2i, Z2j, Z2k, Z2l, Z2m, Z2n, Z2o, Z2p, Z2q, Z2r, Z2s, Z2t, Z2u, Z2v, Z2w, Z2x, Z2y, Z2z, Z30, Z31, Z32, Z33, Z34, Z35, Z36, Z37, Z38, Z39, Z3a, Z3b, Z3c, Z3d, Z3e, Z3f, Z3g, Z3h, Z3i, Z3j, Z3k, Z3l, Nat.reduceAdd, Nat.reduceLeDiff, Nat.reduceMul, Nat.reduceSub, isV, opA, Z3o, grdO, grd, Z3r, Z3s, Z3t, Z3u, Z3v, Z3w, Z3x, Z3y, Z3z, Z40, Z41, Z42, Z43, Z44, Z45, Z46, Z47, Z48, Z49, Z4a, Z4b, Z4c, Z4d, Z4e, Z4f, Z4g, Z4h, Z4i, Z4j, Z4k, Int.reduceLT, Int.reduceLE, Int.reduceToNat, Z4l, Z4m, Z4n, Z4o, Z4p, Z4q, Z4r, Z4s, Z4t, Z4u, Z4v, Z4w, Z4x, Z4y, Z4z, Z50, Z51, Z52, Z53, Z54, Z55, Z56, Z57, Z58, Z59, Z5a, Z5b, Z5c, Z5d, Z5e, Z5f, Z5g, Z5h, Z5i, Z5j, Z5k, Z5l, Z5m, Z5n, Z5o, Z5p, Z5q, Z5r, Z5s, Z5t, Z5u, builtinP, builtinA, changes, fieldAddrA, resA, tupled, Z61, Z62, Z63, Z64, Z65, Z66, Z67, Z68, Z69, Z2q, Z6a, Z6b, Z64, Z6c, Z2m, Z6d, Z6e, Z6f, Z6g, Z6h, Z6i, Z6j, Z6k, Z6l, Z6m, Z6n, Z6o, Z6p, Z6q, Z6r, Z6s, Z6t, Z6u, Z6v, Z6w, Z6x, Z6y, Z6z, ↓reduceIte, Nat.reduceEqDiff, Nat.reduceLT, Z70, Int.reduceEq, Z3x, Z6s, Z71, Z72, Z73, Z74, Z75, Z76, Z77, Z78, Z79, Z7a, Z7b, Z7c, Z7d, Z7e, Z7f, Z7g, Z7h, sh3, sz3, by3, ag3, kn3, ze3, ld3, li3, sto3, sh5, sz5, by5, ag5, kn5, ze5, ld5, li5, sto5, sh9, sz9, by9, ag9, kn9, ze9, ld9, li9, sto9, les9, ixs9, sh39, sz39, by39, ag39, kn39, el39, ze39, ld39, li39, sto39, ix39, ia39, mk39, ixi39, iai39, le39, lr39, ln39, l1, e0, ha0', hl0]
  refine Wq.up (fun i s => s.nt = 25 ∧ s.σ = σ ∧ i + 1 ≤ l.length ∧ s.t.get 0 = some x ∧ s.t.get 4 = some (.i .i64 ((i : Int) + 1)) ∧ ∃ m : Int, s.t.get 3 = some (.i .u8 m) ∧ m = maxI (l.take (i + 1))) (l.length - 1) ?_ ?_
  · refine ⟨rfl, rfl, by omega, ?_⟩
    simp +contextual (disch := first | omega | exact rfl | decide | exact kpF (by decide) | exact kpT (by decide) | assumption | exact Z2z | exact Z30 | exact Z32 | exact Z31 | exact Z33 | exact Z34 | (simp only [Z6x, Z6y, Z2q, Z2g, Z6d, Z6e] <;> omega) | (simp only [Z6v, Z6w, Z7i, Z7j, Z7k, Z7l, Z2i, Z6k]) | (simp only [Z35, Z36, Z2r, Z2s, Z2t, Z2u, Z2v, Z2w, Z2x, Z2y, Z2z, Z30, Z31, Z32, Z33, Z34, Z7m, Z4a, Z4b] <;> assumption)) only [Z00, Z01, Z02, Z03, Z04, Z05, Z06, Z07, Z08, Z09, Z0a, Z0b, Z0c, Z0d, Z0e, Z0f, Z0g, Z0h, Z0i, Z0j, Z0k, Z0l, Z0m, Z0n, Z0o, SOp, Z0q, Z0r, Z0s, Z0t, Z0u, Z0v, Z0w, Z0x, Z0y, Z0z, Z10, Z11, Z12, GOp, Z14, Z15, Z16, Z17, Z18, Z19, Z1a, Z1b, ↓Z1c, Z1d, Z1e, Z1f, Z1g, Z1h, Z1i, Z1j, Z1k, Z1l, Z1m, Z1n, Z1o, Z1p, Int.reduceAdd, Int.reduceSub, Int.reduceMul, Int.reduceNeg, Z1q, Z1r, Z1s, Z1t, Z1u, Z1v, Z1w, Z1x, Z1y, Z1z, accs, touch, touchM, okPair, Z24, Z25, Z26, Z27, Z28, Z29, Z2a, Z2b, Z2c, Z2d, Z2e, Z2f, Z2g, Z2h, Z2i, Z2j, Z2k, Z2l, Z2m, Z2n, Z2o, Z2p, Z2q, Z2r, Z2s, Z2t, Z2u, Z2v, Z2w, Z2x, Z2y, Z2z, Z30, Z31, Z32, Z33, Z34, Z35, Z36, Z37, Z38, Z39, Z3a, Z3b, Z3c, Z3d, Z3e, Z3f, Z3g, Z3h, Z3i, Z3j, Z3k, Z3l, Nat.reduceAdd, Nat.reduceLeDiff, Nat.reduceMul, Nat.reduceSub, isV, opA, Z3o, grdO, grd, Z3r, Z3s, Z3t, Z3u, Z3v, Z3w, Z3x, Z3y, Z3z, Z40, Z41, Z42, Z43, Z44, Z45, Z46, Z47, Z48, Z49, Z4a, Z4b, Z4c, Z4d, Z4e, Z4f, Z4g, Z4h, Z4i, Z4j, Z4k, Int.reduceLT, Int.reduceLE, Int.reduceToNat, Z4l, Z4m, Z4n, Z4o, Z4p, Z4q, Z4r, Z4s, Z4t, Z4u, Z4v, Z4w, Z4x, Z4y, Z4z, Z50, Z51, Z52, Z53, Z54, Z55, Z56, Z57, Z58, Z59, Z5a, Z5b, Z5c, Z5d, Z5e, Z5f, Z5g, Z5h, Z5i, Z5j, Z5k, Z5l, Z5m, Z5n, Z5o, Z5p, Z5q, Z5r, Z5s, Z5t, Z5u, builtinP, builtinA, changes, fieldAddrA, resA, tupled, Z61, Z62, Z63, Z64, Z65, Z66, Z67, Z68, Z69, Z2q, Z6a, Z6b, Z64, Z6c, Z2m, Z6d, Z6e, Z6f, Z6g, Z6h, Z6i, Z6j, Z6k, Z6l, Z6m, Z6n, Z6o, Z6p, Z6q, Z6r, Z6s, Z6t, Z6u, Z6v, Z6w, Z6x, Z6y, Z6z, ↓reduceIte, Nat.reduceEqDiff, Nat.reduceLT, Z70, Int.reduceEq, Z3x, Z6s, Z71, Z72, Z73, Z74, Z75, Z76, Z77, Z78, Z79, Z7a, Z7b, Z7c, Z7d, Z7e, Z7f, Z7g, Z7h]
    refine ⟨_, rfl, ?_⟩
    cases l with
    | nil => simp at h0
    | cons a l => simp [maxI]
  · rintro i ⟨t, nt, σ', c⟩ hi ⟨rfl, rfl, hil, g0, g4, m, g3, hm⟩
    by_cases hlt : i + 1 < l.length
    · have hlt' : (i : Int) + 1 < (l.length : Int) := by omega
      obtain ⟨a, ha, hla⟩ := (hv []).at (C := cfg) sh39 sz5 ag5 .i64 (i + 1) (by rw [ints_len]; exact hlt)
      have ha' : indexAddrA cfg 39 x (.i .i64 ((i : Int) + 1)) = some a := ha
      have hl1 := fun τ => hla τ _ (hv τ)
      simp only [ints_get' hlt] at hl1
      generalize hq : l.getD (i + 1) 0 = q at hl1
      have hm' : (if m < q then q else m) = maxI (l.take (i + 1 + 1)) := by
        have ht : l.take (i + 1 + 1) = l.take (i + 1) ++ [q] := by
          rw [List.take_add_one, List.getElem?_eq_getElem hlt, ← hq, List.getD_eq_getElem?_getD, List.getElem?_eq_getElem hlt]; rfl
        rw [ht, maxI_snoc (by rw [List.length_take]; omega), ← hm]
      simp +contextual (disch := first | omega | exact rfl | decide | exact kpF (by decide) | exact kpT (by decide) | assumption | exact Z2z | exact Z30 | exact Z32 | exact Z31 | exact Z33 | exact Z34 | (simp only [Z6x, Z6y, Z2q, Z2g, Z6d, Z6e] <;> omega) | (simp only [Z6v, Z6w, Z7i, Z7j, Z7k, Z7l, Z2i, Z6k]) | (simp only [Z35, Z36, Z2r, Z2s, Z2t, Z2u, Z2v, Z2w, Z2x, Z2y, Z2z, Z30, Z31, Z32, Z33, Z34, Z7m, Z4a, Z4b] <;> assumption)) only [Z00, Z01, Z02, Z03, Z04, Z05, Z06, Z07, Z08, Z09, Z0a, Z0b, Z0c, Z0d, Z0e, Z0f, Z0g, Z0h, Z0i, Z0j, Z0k, Z0l, Z0m, Z0n, Z0o, SOp, Z0q, Z0r, Z0s, Z0t, Z0u, Z0v, Z0w, Z0x, Z0y, Z0z, Z10, Z11, Z12, GOp, Z14, Z15, Z16, Z17, Z18, Z19, Z1a, Z1b, ↓Z1c, Z1d, Z1e, Z1f, Z1g, Z1h, Z1i, Z1j, Z1k, Z1l, Z1m, Z1n, Z1o, Z1p, Int.reduceAdd, Int.reduceSub, Int.reduceMul, Int.reduceNeg, Z1q, Z1r, Z1s, Z1t, Z1u, Z1v, Z1w, Z1x, Z1y, Z1z, accs, touch, touchM, okPair, Z24, Z25, Z26, Z27, Z28, Z29, Z2a, Z2b, Z2c, Z2d, Z2e, Z2f, Z2g, Z2h, Z2i, Z2j, Z2k, Z2l, Z2m, Z2n, Z2o, Z2p, Z2q, Z2r, Z2s, Z2t, Z2u, Z2v, Z2w, Z2x, Z2y, Z2z, Z30, Z31, Z32, Z33, Z34, Z35, Z36, Z37, Z38, Z39, Z3a, Z3b, Z3c, Z3d, Z3e, Z3f, Z3g, Z3h, Z3i, Z3j, Z3k, Z3l, Nat.reduceAdd, Nat.reduceLeDiff, Nat.reduceMul, Nat.reduceSub, isV, opA, Z3o, grdO, grd, Z3r, Z3s, Z3t, Z3u, Z3v, Z3w, Z3x, Z3y, Z3z, Z40, Z41, Z42, Z43, Z44, Z45, Z46, Z47, Z48, Z49, Z4a, Z4b, Z4c, Z4d, Z4e, Z4f, Z4g, Z4h, Z4i, Z4j, Z4k, Int.reduceLT, Int.reduceLE, Int.reduceToNat, Z4l, Z4m, Z4n, Z4o, Z4p, Z4q, Z4r, Z4s, Z4t, Z4u, Z4v, Z4w, Z4x, Z4y, Z4z, Z50, Z51, Z52, Z53, Z54, Z55, Z56, Z57, Z58, Z59, Z5a, Z5b, Z5c, Z5d, Z5e, Z5f, Z5g, Z5h, Z5i, Z5j, Z5k, Z5l, Z5m, Z5n, Z5o, Z5p, Z5q, Z5r, Z5s, Z5t, Z5u, builtinP, builtinA, changes, fieldAddrA, resA, tupled, Z61, Z62, Z63, Z64, Z65, Z66, Z67, Z68, Z69, Z2q, Z6a, Z6b, Z64, Z6c, Z2m, Z6d, Z6e, Z6f, Z6g, Z6h, Z6i, Z6j, Z6k, Z6l, Z6m, Z6n, Z6o, Z6p, Z6q, Z6r, Z6s, Z6t, Z6u, Z6v, Z6w, Z6x, Z6y, Z6z, ↓reduceIte, Nat.reduceEqDiff, Nat.reduceLT, Z70, Int.reduceEq, Z3x, Z6s, Z71, Z72, Z73, Z74, Z75, Z76, Z77, Z78, Z79, Z7a, Z7b, Z7c, Z7d, Z7e, Z7f, Z7g, Z7h, sh3, sz3, by3, ag3, kn3, ze3, ld3, li3, sto3, sh5, sz5, by5, ag5, kn5, ze5, ld5, li5, sto5, sh9, sz9, by9, ag9, kn9, ze9, ld9, li9, sto9, les9, ixs9, sh39, sz39, by39, ag39, kn39, el39, ze39, ld39, li39, sto39, ix39, ia39, mk39, ixi39, iai39, le39, lr39, ln39, g0, g3, g4, l1, hlt', ha', hl1]
      exact ⟨by omega, hlt, rfl, _, rfl, hm'⟩
    · have hi' : i + 1 = l.length := by omega
      have hf : ((i : Int) + 1 < (l.length : Int)) = False := eq_false (by omega)
      simp +contextual (disch := first | omega | exact rfl | decide | exact kpF (by decide) | exact kpT (by decide) | assumption | exact Z2z | exact Z30 | exact Z32 | exact Z31 | exact Z33 | exact Z34 | (simp only [Z6x, Z6y, Z2q, Z2g, Z6d, Z6e] <;> omega) | (simp only [Z6v, Z6w, Z7i, Z7j, Z7k, Z7l, Z2i, Z6k]) | (simp only [Z35, Z36, Z2r, Z2s, Z2t, Z2u, Z2v, Z2w, Z2x, Z2y, Z2z, Z30, Z31, Z32, Z33, Z34, Z7m, Z4a, Z4b] <;> assumption)) only [Z00, Z01, Z02, Z03, Z04, Z05, Z06, Z07, Z08, Z09, Z0a, Z0b, Z0c, Z0d, Z0e, Z0f, Z0g, Z0h, Z0i, Z0j, Z0k, Z0l, Z0m, Z0n, Z0o, SOp, Z0q, Z0r, Z0s, Z0t, Z0u, Z0v, Z0w, Z0x, Z0y, Z0z, Z10, Z11, Z12, GOp, Z14, Z15, Z16, Z17, Z18, Z19, Z1a, Z1b, ↓Z1c, Z1d, Z1e, Z1f, Z1g, Z1h, Z1i, Z1j, Z1k, Z1l, Z1m, Z1n, Z1o, Z1p, Int.reduceAdd, Int.reduceSub, Int.reduceMul, Int.reduceNeg, Z1q, Z1r, Z1s, Z1t, Z1u, Z1v, Z1w, Z1x, Z1y, Z1z, accs, touch, touchM, okPair, Z24, Z25, Z26, Z27, Z28, Z29, Z2a, Z2b, Z2c, Z2d, Z2e, Z2f, Z2g, Z2h, Z2i, Z2j, Z2k, Z2l, Z2m, Z2n, Z2o, Z2p, Z2q, Z2r, Z2s, Z2t, Z2u, Z2v, Z2w, Z2x, Z2y, Z2z, Z30, Z31, Z32, Z33, Z34, Z35, Z36, Z37, Z38, Z39, Z3a, Z3b, Z3c, Z3d, Z3e, Z3f, Z3g, Z3h, Z3i, Z3j, Z3k, Z3l, Nat.reduceAdd, Nat.reduceLeDiff, Nat.reduceMul, Nat.reduceSub, isV, opA, Z3o, grdO, grd, Z3r, Z3s, Z3t, Z3u, Z3v, Z3w, Z3x, Z3y, Z3z, Z40, Z41, Z42, Z43, Z44, Z45, Z46, Z47, Z48, Z49, Z4a, Z4b, Z4c, Z4d, Z4e, Z4f, Z4g, Z4h, Z4i, Z4j, Z4k, Int.reduceLT, Int.reduceLE, Int.reduceToNat, Z4l, Z4m, Z4n, Z4o, Z4p, Z4q, Z4r, Z4s, Z4t, Z4u, Z4v, Z4w, Z4x, Z4y, Z4z, Z50, Z51, Z52, Z53, Z54, Z55, Z56, Z57, Z58, Z59, Z5a, Z5b, Z5c, Z5d, Z5e, Z5f, Z5g, Z5h, Z5i, Z5j, Z5k, Z5l, Z5m, Z5n, Z5o, Z5p, Z5q, Z5r, Z5s, Z5t, Z5u, builtinP, builtinA, changes, fieldAddrA, resA, tupled, Z61, Z62, Z63, Z64, Z65, Z66, Z67, Z68, Z69, Z2q, Z6a, Z6b, Z64, Z6c, Z2m, Z6d, Z6e, Z6f, Z6g, Z6h, Z6i, Z6j, Z6k, Z6l, Z6m, Z6n, Z6o, Z6p, Z6q, Z6r, Z6s, Z6t, Z6u, Z6v, Z6w, Z6x, Z6y, Z6z, ↓reduceIte, Nat.reduceEqDiff, Nat.reduceLT, Z70, Int.reduceEq, Z3x, Z6s, Z71, Z72, Z73, Z74, Z75, Z76, Z77, Z78, Z79, Z7a, Z7b, Z7c, Z7d, Z7e, Z7f, Z7g, Z7h, sh3, sz3, by3, ag3, kn3, ze3, ld3, li3, sto3, sh5, sz5, by5, ag5, kn5, ze5, ld5, li5, sto5, sh9, sz9, by9, ag9, kn9, ze9, ld9, li9, sto9, les9, ixs9, sh39, sz39, by39, ag39, kn39, el39, ze39, ld39, li39, sto39, ix39, ia39, mk39, ixi39, iai39, le39, lr39, ln39, g0, g3, g4, l1, hf, DoneP_ret, DoneP_normal]
      rw [hi', List.take_length] at hm
      rw [hm]
end Go.Am.R2

/- The fast machine at a sum: its tables, what it stands on. -/
namespace Go.Am.R2
open Go.Proofs
set_option maxRecDepth 100000
set_option linter.unusedSimpArgs false
set_option linter.unusedVariables false
noncomputable def pRot : List V → Option V
  | [.i .u32 (.ofNat x), .i .i64 k] => (match Nat.blt x 4294967296 with | true => (match amount k with | some s => some (.i .u32 (.ofNat (rot x s))) | none => none) | false => none)
  | _ => none
noncomputable def pMix : List V → Option V
  | [.i .u32 (.ofNat x), .i .i64 a, .i .i64 b, .i .i64 c] => (match Nat.blt x 4294967296 with
    | true => (match amount (IntKind.i64.wrap (-a)), amount (IntKind.i64.wrap (-b)), amount (IntKind.i64.wrap (-c)) with | some a, some b, some c => some (.i .u32 (.ofNat (mix3 x a b c))) | _, _, _ => none)
    | false => none)
  | _ => none
noncomputable def primS (f : Nat) : Option (List V → List O → Option V) :=
  match Nat.beq f 193 with | true => some (fun a _ => pRot a) | false => (match Nat.beq f 185 with | true => some (fun a _ => pMix a) | false => none)
noncomputable def primSB (f : Nat) : Option (List V → Mem → Option V) :=
  match Nat.beq f 193 with | true => some (fun a _ => pRot a) | false => (match Nat.beq f 185 with | true => some (fun a _ => pMix a) | false => none)
noncomputable def globB (g : Nat) : Option (List V) := match g with | 0 => some beginsV | 1 => some cubesV | _ => none
/-- slices.Clip. -/
noncomputable def pClip : List V → Option V
  | [.sl r st o 0 129 cap] => some (.arr [] 0 true)
  | [.sl r st o (n + 1) 129 cap] => some (.sl r st o (n + 1) 129 (some (n + 1)))
  | [.nils] => some .nils
  | [.arr cs n c] => some (.arr (cs.take (n * 129)) n true)
  | _ => none
noncomputable def stT (f : Nat) : Option (List V → Option V) := match Nat.beq f 141 with | true => some pClip | false => none
noncomputable def DS : CB := ⟨tyK, primSB, globB, fnK, clsK, fun _ => none, preK, stT⟩
def barS (f : Nat) : Bool := !(fnL.contains f || f == 138)
noncomputable def cfgS : Cfg := { P := Tryz.prog, bar := barS, cls := clsB DS, pre := preB DS, prim := primS, still := stT, glob := globB, keep := fun f _ => !(f == 138) }
noncomputable def yesV (r : Option V) (w : V) : Bool := match r with | some v => V.eqb v w | none => false
theorem yesV_eq {r : Option V} {w : V} (h : yesV r w = true) : r = some w := by
  cases r with
  | none => cases h
  | some v => have h : V.eqb v w = true := h; rw [V.eqb_eq h]
end Go.Am.R2
