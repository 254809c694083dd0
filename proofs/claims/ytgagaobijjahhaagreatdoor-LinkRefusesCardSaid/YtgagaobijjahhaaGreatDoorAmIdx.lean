/- internal/bytealg.IndexByte of a slice: as the machine has it. -/
import Derived.Test.YtgagaobijjahhaaGreatDoorAmPrim
import Derived.Lib.BytesEntry
namespace Go.Am
open Go Go.RowKit
set_option linter.unusedVariables false
set_option linter.unusedSimpArgs false
def pIdxS : List V → List O → Option V
  | [.s _, _], _ => none
  | [x, .i .u8 c], σ => (elems 1 σ x).bind fun (_, cs) => (bytesOf cs).map fun l => .i .i64 (Lib.indexByte l c.toNat.toUInt8)
  | _, _ => none
theorem run_indexByteAt {P : Program} (w : World) (a : Addr) (n c : Nat) (xs : List Int) (hx : xs.length = n) (hc : ∀ j x, xs[j]? = some x → w.cell? (a.add j) = some (.int .u8 x)) (cv : Int) :
    (Extern.BytealgIndexByte.indexByte #[.slice (some a) n c, .int .u8 cv]).run P w = .ok (.int .i64 (Lib.indexByte (Lib.bytesOf xs) cv.toNat.toUInt8)) w := by
  have hl := Lib.run_loadBytesX (P := P) w xs a .empty hc
  rw [hx] at hl
  have hs := Lib.run_indexByteString (P := P) ⟨(Lib.bytesOf xs).toArray⟩ cv w
  have he : (⟨ByteArray.empty.data ++ (Lib.bytesOf xs).toArray⟩ : ByteArray) = ⟨(Lib.bytesOf xs).toArray⟩ := by
    apply ByteArray.ext
    show (#[] : Array UInt8) ++ (Lib.bytesOf xs).toArray = (Lib.bytesOf xs).toArray
    simp
  rw [he] at hl
  change Sem.run P (do
    let b ← Extern.Bytes.bytesOf (.slice (some a) n c)
    let c ← Extern.Bytes.asByte (.int .u8 cv)
    match (List.range b.size).find? fun i => b[i]! == c with
    | some i => pure (goInt i)
    | none => pure (goInt (-1))) w = _
  change Sem.run P (do
    let b ← Extern.Bytes.bytesOf (.string ⟨(Lib.bytesOf xs).toArray⟩)
    let c ← Extern.Bytes.asByte (.int .u8 cv)
    match (List.range b.size).find? fun i => b[i]! == c with
    | some i => pure (goInt i)
    | none => pure (goInt (-1))) w = _ at hs
  simp only [Extern.Bytes.bytesOf, Sem.run_bind, Sem.run_pure, hl, Result.andThen] at hs ⊢
  exact hs
theorem bytesOf_lib (ns : List Int) : Lib.bytesOf ns = ns.map fun n => UInt8.ofNat n.toNat := by
  simp [Lib.bytesOf, Nat.toUInt8]
theorem prim_idxS {C : Cfg} {f : Nat} {fn : Func} (hf : C.P.funcs[f]? = some fn) (hname : (fn.name == "runtime.NumGoroutine") = false) (hb : fn.body.isNone = true) (hn : Extern.findNext fn = none) (he : Extern.find fn = some Extern.BytealgIndexByte.indexByte) : PrimAt C f pIdxS := by
  intro B0 args σ p v hv M w cargs hM hG hr hm hs
  unfold pIdxS at hv
  split at hv
  · cases hv
  · rename_i x c hns
    simp only [Option.bind_eq_some_iff, Option.map_eq_some_iff] at hv
    obtain ⟨⟨n, cs⟩, hel, l, hl, rfl⟩ := hv
    obtain ⟨ns, rfl, rfl⟩ := bytesOf_some hl
    cases hr with
    | cons _ y _ ys h1 h2 =>
      cases h2 with
      | cons _ y2 _ ys2 h3 h4 =>
        cases h4
        obtain rfl := h3.i_inv
        have fin : ∀ a k, y = .slice (some a) n k → ns.length = n → (∀ j x, ns[j]? = some x → w.cell? (a.add j) = some (.int .u8 x)) →
            (callFunc f [y, .int .u8 c].toArray).run C.P w = .ok (.value (.int .i64 (Lib.indexByte (ns.map fun n => UInt8.ofNat n.toNat) c.toNat.toUInt8))) w := by
          intro a k hy hlen hc
          rw [run_callFunc_extern hf hname hb hn he, hy, run_indexByteAt w a n k ns hlen hc, bytesOf_lib]; rfl
        suffices hrun : (callFunc f [y, .int .u8 c].toArray).run C.P w = .ok (.value (.int .i64 (Lib.indexByte (ns.map fun n => UInt8.ofNat n.toNat) c.toNat.toUInt8))) w from
          ⟨_, w, M, hrun, Ext.refl _ _ _, hM, rfl, .inl ⟨_, rfl, .i _ _, rfl⟩⟩
        cases x <;> simp only [elems, reduceCtorEq] at hel
        · exact absurd rfl (hns _)
        · -- nils
          simp only [Option.some.injEq, Prod.mk.injEq] at hel
          obtain ⟨rfl, he2⟩ := hel
          cases ns with
          | cons a b => simp at he2
          | nil =>
            cases h1
            rw [run_callFunc_extern hf hname hb hn he]
            show ((Extern.BytealgIndexByte.indexByte #[.slice none 0 0, .int .u8 c]).run C.P w).andThen _ = _
            rw [Lib.run_indexByteNil]; rfl
        · rename_i r st o k es cap
          split at hel
          · simp only [Option.bind_eq_some_iff, Option.map_eq_some_iff, Prod.mk.injEq] at hel
            obtain ⟨row, hrow, l, hl2, rfl, rfl⟩ := hel
            obtain ⟨b, nn, kk, hmm, rfl, hk, _, _⟩ := h1.sl_inv
            obtain ⟨q1, q2, q3⟩ := take?_some hl2
            refine fin _ _ rfl (by simpa using q2) fun j x hj => ?_
            have hg := q3 j (.i .u8 x) (by rw [List.getElem?_map, hj]; rfl)
            obtain ⟨_, _, _, h9⟩ := hM.obj r _ (rowAt_some hrow) b nn hmm
            obtain ⟨y, hy, hry⟩ := h9 _ _ hg
            obtain rfl := hry.i_inv
            rw [add_off]; exact hy
          · cases hel
        · rename_i cs n' cl
          simp only [Option.map_eq_some_iff, Prod.mk.injEq] at hel
          obtain ⟨l, hl2, rfl, rfl⟩ := hel
          obtain ⟨a, vs, kk, rfl, hF, h5, h6, h7, hk, _⟩ := h1.arr_inv
          obtain ⟨q1, q2, q3⟩ := take?_some hl2
          refine fin _ _ rfl (by simpa using q2) fun j x hj => ?_
          have hg := q3 j (.i .u8 x) (by rw [List.getElem?_map, hj]; rfl)
          rw [Nat.zero_add] at hg
          obtain ⟨y, hy, hry⟩ := h6.get hg
          obtain rfl := hry.i_inv
          exact h7 j _ hy
  · cases hv
end Go.Am
