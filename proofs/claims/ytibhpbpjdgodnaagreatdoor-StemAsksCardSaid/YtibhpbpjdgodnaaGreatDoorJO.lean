/- Parts of one machine and of the walks over it, joined: AmC3 AmC4. -/
import Derived.Test.YtibhpbpjdgodnaaGreatDoorJM
/- The fast machine: what changes memory; steps, code, functions. -/
namespace Go.Am
set_option linter.unusedVariables false
set_option linter.unusedSimpArgs false

theorem roomyB {n : Nat} (h : Nat.ble n 140737488355328 = true) : roomy n = true := by simp [roomy, ble_true h]
section
variable {C : Cfg} {K : T TI} (hK : TOk C K) {m m' : Mem} {σ : List O} (h : MB m σ)
include hK h in
theorem appendB_sound {t : TypeId} {st' : List Nat} {s x v : V} (ha : appendB K t m st' s x = some (v, m')) : ∃ σ', appendA C t σ st' s x = some (v, σ') ∧ MB m' σ' := by
  unfold appendB at ha
  split at ha
  · rename_i e hsh
    simp only [Option.bind_eq_some_iff] at ha
    obtain ⟨te, he, ha⟩ := ha
    obtain ⟨hel, hz0, _, _⟩ := hK.elem hsh he
    have hby := (hK e te he).bytes
    split at ha
    · rename_i cs
      split at ha
      · rename_i k w d ov hw
        split at ha
        · rename_i hc
          simp only [Bool.and_eq_true, Bool.not_eq_true'] at hc
          obtain ⟨⟨c1, c2⟩, c3⟩ := hc
          have ew := nb_true c1
          obtain ⟨q1, q2, q3⟩ := wholeB_sound h hz0 hw ew
          simp only [Option.some.injEq, Prod.mk.injEq] at ha
          obtain ⟨rfl, rfl⟩ := ha
          refine ⟨_, ?_, h.push (.tab _ _ _ _ _ q2 q3)⟩
          simp only [appendA, hel, Option.bind_some, q1, hby, if_neg (nb_false c2), Nat.zero_add, roomyB c3, Bool.and_self, if_true, Nat.zero_mul]
          simp [take?, h.n]
        · cases ha
      · rename_i hw
        simp only [Option.bind_eq_some_iff] at ha
        obtain ⟨⟨n, news⟩, hx, ha⟩ := ha
        have hx := elemsB_sound h hx
        simp only at ha
        split at ha
        · rename_i hn
          have hn := nb_true hn
          simp only [Option.some.injEq, Prod.mk.injEq] at ha
          obtain ⟨rfl, rfl⟩ := ha
          refine ⟨σ, ?_, h⟩
          simp [appendA, hel, hx, hn]
        · rename_i hn
          have hn : ¬ n = 0 := nbN hn
          split at ha
          · rename_i hr
            simp only [Option.some.injEq, Prod.mk.injEq] at ha
            obtain ⟨rfl, rfl⟩ := ha
            refine ⟨_, ?_, h.push (.o _)⟩
            simp [appendA, hel, hx, hn, hby, roomyB hr, take?, h.n]
          · cases ha
    · simp only [Option.bind_eq_some_iff] at ha
      obtain ⟨⟨n, news⟩, hx, ha⟩ := ha
      have hx := elemsB_sound h hx
      simp only at ha
      split at ha
      · rename_i hn
        have hn := nb_true hn
        simp only [Option.some.injEq, Prod.mk.injEq] at ha
        obtain ⟨rfl, rfl⟩ := ha
        refine ⟨σ, ?_, h⟩
        simp [appendA, hel, hx, hn]
      · rename_i hn
        have hn : ¬ n = 0 := nbN hn
        split at ha
        · rename_i hr
          simp only [Option.some.injEq, Prod.mk.injEq] at ha
          obtain ⟨rfl, rfl⟩ := ha
          refine ⟨_, ?_, h.push (.o _)⟩
          simp [appendA, hel, hx, hn, hby, roomyB hr, h.n]
        · cases ha
    · rename_i cs n clip _
      simp only [Option.bind_eq_some_iff] at ha
      obtain ⟨⟨k, news⟩, hx, ha⟩ := ha
      have hx := elemsB_sound h hx
      simp only at ha
      split at ha
      · rename_i hn
        have hn := nb_true hn
        simp only [Option.some.injEq, Prod.mk.injEq] at ha
        obtain ⟨rfl, rfl⟩ := ha
        refine ⟨σ, ?_, h⟩
        simp [appendA, hel, hx, hn]
      · rename_i hn
        have hn : ¬ k = 0 := nbN hn
        split at ha
        · rename_i hr
          simp only [Bool.and_eq_true] at hr
          simp only [Option.map_eq_some_iff, Prod.mk.injEq] at ha
          obtain ⟨l, hl, rfl, rfl⟩ := ha
          refine ⟨_, ?_, h.push (.o _)⟩
          simp [appendA, hel, hx, hn, hby, hr.1, roomyB hr.2, takeN_take? hl, h.n]
        · cases ha
    · rename_i r st o n es cap
      split at ha
      · rename_i hes
        have hes := nb_true hes
        subst hes
        simp only [Option.bind_eq_some_iff] at ha
        obtain ⟨⟨k, news⟩, hx, ha⟩ := ha
        have hx := elemsB_sound h hx
        simp only at ha
        split at ha
        · rename_i st2 cs hr
          split at ha
          · rename_i hst
            have hrow := h.row hr hst
            split at ha
            · rename_i hn
              have hn := nb_true hn
              simp only [Option.some.injEq, Prod.mk.injEq] at ha
              obtain ⟨rfl, rfl⟩ := ha
              refine ⟨σ, ?_, h⟩
              simp [appendA, hel, hx, hn, hrow]
            · rename_i hn
              have hn : ¬ k = 0 := nbN hn
              split at ha
              · rename_i hc
                simp only [Bool.and_eq_true] at hc
                simp only [Option.map_eq_some_iff, Prod.mk.injEq] at ha
                obtain ⟨cs', hl, rfl, rfl⟩ := ha
                obtain ⟨q1, rfl⟩ := layN_some hl
                refine ⟨_, ?_, h.put hr (.o _)⟩
                simp only [appendA, hel, hx, hrow, Option.bind_some, if_true, if_neg hn]
                rw [if_pos ⟨ble_true hc.1, hc.2⟩]
              · rename_i hc
                have hc' : ¬ (o + (n + k) * te.size ≤ cs.length ∧ capFits cap (n + k) = true) := by
                  rintro ⟨h1, h2⟩; exact hc (by rw [ble_of h1, h2]; rfl)
                split at ha
                · rename_i hro
                  split at ha
                  · rename_i c
                    split at ha
                    · rename_i hlt
                      simp only [Option.map_eq_some_iff, Prod.mk.injEq] at ha
                      obtain ⟨l, hl, rfl, rfl⟩ := ha
                      refine ⟨_, ?_, h.push (.o _)⟩
                      simp only [appendA, hel, hx, hrow, Option.bind_some, if_true, if_neg hn, if_neg hc', hby, roomyB hro, if_pos (blt_true hlt), dt_take? hl, Option.map_some, h.n]
                    · cases ha
                  · split at ha
                    · rename_i hq
                      simp only [Bool.and_eq_true] at hq
                      simp only [Option.some.injEq, Prod.mk.injEq] at ha
                      obtain ⟨rfl, rfl⟩ := ha
                      refine ⟨_, ?_, h.put hr (.o _)⟩
                      simp only [appendA, hel, hx, hrow, Option.bind_some, if_true, if_neg hn, if_neg hc', hby, roomyB hro]
                      rw [if_pos ⟨nb_true hq.1, nb_true hq.2⟩]
                    · cases ha
                · cases ha
          · cases ha
        · cases ha
      · cases ha
    · cases ha
  · cases ha
include hK h in
theorem copyB_sound {t : TypeId} {d x v : V} (hc : copyB K t m d x = some (v, m')) : ∃ σ', copyA C t σ d x = some (v, σ') ∧ MB m' σ' := by
  unfold copyB at hc
  split at hc
  · rename_i e hsh
    simp only [Option.bind_eq_some_iff] at hc
    obtain ⟨te, he, ⟨k, xs⟩, hx, hc⟩ := hc
    obtain ⟨hel, hz0, _, _⟩ := hK.elem hsh he
    have hx := elemsB_sound h hx
    simp only at hc
    split at hc
    · rename_i r st o n es cap
      split at hc
      · rename_i hes
        have hes := nb_true hes
        subst hes
        split at hc
        · rename_i st' cs hr
          split at hc
          · rename_i hq
            simp only [Bool.and_eq_true] at hq
            simp only [Option.map_eq_some_iff, Prod.mk.injEq] at hc
            obtain ⟨cs', hl, rfl, rfl⟩ := hc
            obtain ⟨q1, rfl⟩ := layN_some hl
            refine ⟨_, ?_, h.put hr (.o _)⟩
            simp only [copyA, hel, hx, h.row hr hq.1, Option.bind_some, if_true]
            rw [if_pos (ble_true hq.2)]
          · cases hc
        · cases hc
      · cases hc
    · cases hc
  · cases hc
include hK h in
theorem lenB_sound {t : TypeId} {x v : V} (hl : lenB K t m x = some v) : lenA C t σ x = some v := by
  unfold lenB at hl
  split at hl <;> first | (cases hl; done) | skip
  · rename_i hs; simp only [lenA, hK.sh hs (by simp)]; exact hl
  · rename_i hs; simp only [lenA, hK.sh hs (by simp)]; exact hl
  · rename_i hs; simp only [lenA, hK.sh hs (by simp)]; exact hl
  · rename_i hs; simp only [lenA, hK.sh hs (by simp)]; exact hl
  · rename_i hs; simp only [lenA, hK.sh hs (by simp)]; exact hl
  · rename_i hs; simp only [lenA, hK.sh hs (by simp)]; exact hl
  · rename_i hs; simp only [lenA, hK.sh hs (by simp)]; exact hl
  · rename_i r st hs
    simp only [lenA, hK.sh hs (by simp)]
    split at hl
    · rename_i st' kvs hr
      rw [h.cells hr]
      split at hl
      · rename_i hst; simp only [stEq_eq hst, if_true]; exact hl
      · cases hl
    · cases hl
omit h in
include hK in
theorem keyOk_of {kt : TypeId} {k : V} (hk : keyOkB K kt k = true) : keyOk C kt k = true := by
  unfold keyOkB at hk
  split at hk
  · rename_i k1 n k2 hs; simp only [keyOk, hK.sh hs (by simp), kindEq_eq hk, beq_self_eq_true]
  · rename_i b hs; simp only [keyOk, hK.sh hs (by simp)]
  · cases hk
include hK h in
theorem lookupB_sound {t : TypeId} {x k v : V} {ok : Bool} (hl : lookupB K t m x k ok = some v) : lookupA C t σ x k ok = some v := by
  unfold lookupB at hl
  split at hl
  · rename_i kt et hs
    split at hl
    · rename_i hk
      simp only [lookupA, hK.sh hs (by simp), keyOk_of hK hk, if_true]
      simp only [Option.bind_eq_some_iff] at hl ⊢
      obtain ⟨r, h1, ⟨v1, f1⟩, h2, h3⟩ := hl
      refine ⟨r, ?_, (v1, f1), ?_, h3⟩
      · split at h1
        · exact h1
        · rename_i r' st
          split at h1
          · rename_i st' kvs hr
            simp only [h.cells hr]
            split at h1
            · rename_i hst; simp only [stEq_eq hst, if_true]; exact h1
            · cases h1
          · cases h1
        · cases h1
      · split at h2
        · exact h2
        · simp only [Option.map_eq_some_iff] at h2 ⊢
          obtain ⟨z, hz, h2⟩ := h2
          exact ⟨z, hK.zero hz, h2⟩
    · cases hl
  · cases hl
include hK h in
theorem mapUpdateB_sound {t : TypeId} {x k v : V} (hl : mapUpdateB K t m x k v = some m') : ∃ σ', mapUpdateA C t σ x k v = some σ' ∧ MB m' σ' := by
  unfold mapUpdateB at hl
  split at hl
  · rename_i kt et hs
    split at hl
    · rename_i hk
      simp only [mapUpdateA, hK.sh hs (by simp), keyOk_of hK hk, if_true]
      split at hl
      · rename_i r st
        split at hl
        · rename_i st' kvs hr
          simp only [h.cells hr]
          split at hl
          · rename_i hst
            simp only [stEq_eq hst, if_true]
            simp only [Option.map_eq_some_iff] at hl ⊢
            obtain ⟨q, h1, h2⟩ := hl
            cases q with
            | none => simp only at h2; subst h2; exact ⟨_, ⟨none, h1, rfl⟩, h.put hr (.o _)⟩
            | some q => obtain ⟨n, q⟩ := q; simp only at h2; subst h2; exact ⟨_, ⟨_, h1, rfl⟩, h.put hr (.o _)⟩
          · cases hl
        · cases hl
      · cases hl
    · cases hl
  · cases hl
omit hK h in
theorem fillB_sound : ∀ {l : List (Nat × Nat × V)} {cs r : List V}, fillB cs l = some r → fillA cs l = some r
  | [], cs, r, h => h
  | (off, n, v) :: rest, cs, r, h => by
    simp only [fillB] at h
    split at h
    · rename_i hc
      simp only [Bool.and_eq_true] at hc
      simp only [Option.bind_eq_some_iff] at h
      obtain ⟨cs', h1, h2⟩ := h
      obtain ⟨q1, rfl⟩ := layN_some h1
      have e := nb_true hc.1
      simp only [fillA]
      rw [if_pos ⟨e, by rw [← e]; exact q1, hc.2⟩]
      exact fillB_sound h2
    · cases h
omit h in
include hK in
theorem buildB_sound {t : TypeId} {parts : List (Nat × V)} {v : V} (hb : buildB K t parts = some v) : buildA C t parts = some v := by
  simp only [buildB, Option.bind_eq_some_iff] at hb
  obtain ⟨ti, ht, hb⟩ := hb
  have ty := hK t ti ht
  split at hb
  · rename_i n e hs
    simp only [Option.bind_eq_some_iff, Option.map_eq_some_iff] at hb
    obtain ⟨z, hz, l, hl, cs, hcs, rfl⟩ := hb
    simp [buildA, ty.zero, ty.shape, hs, hK.size hz, hl, fillB_sound hcs]
  · rename_i hs
    split at hb
    · rename_i hg
      simp only [Option.bind_eq_some_iff, Option.map_eq_some_iff] at hb
      obtain ⟨l, hl, cs, hcs, rfl⟩ := hb
      have hp := ty.places hg hs
      have : ∀ i : Nat, (ti.flds.map fun (x : Nat × Nat × Nat) => (x.1, x.2.2))[i]? = (ti.flds[i]?).map fun (x : Nat × Nat × Nat) => (x.1, x.2.2) := fun i => by simp
      unfold buildA
      rw [ty.zero, ty.shape]
      simp only [Option.bind_some]
      rw [hp]
      simp only [Option.bind_some, this, Option.bind_eq_some_iff, Option.map_eq_some_iff]
      exact ⟨l, hl, cs, fillB_sound hcs, rfl⟩
    · cases hb
include hK h in
theorem buildSliceB_sound {t : TypeId} {len : Nat} {parts : List (Nat × V)} {st' : List Nat} {v : V} (hb : buildSliceB K t len parts m st' = some (v, m')) : ∃ σ', buildSliceA C t len parts σ st' = some (v, σ') ∧ MB m' σ' := by
  unfold buildSliceB at hb
  split at hb
  · rename_i e hsh
    simp only [Option.bind_eq_some_iff] at hb
    obtain ⟨te, he, hb⟩ := hb
    obtain ⟨hel, hz0, _, _⟩ := hK.elem hsh he
    simp only [buildSliceA, hel, Option.bind_some]
    split at hb
    · cases hb
    · rename_i hbig
      rw [if_neg (bltN hbig)]
      split at hb
      · rename_i hl
        rw [if_pos (nb_true hl)]
        split at hb
        · simp only [Option.some.injEq, Prod.mk.injEq] at hb
          obtain ⟨rfl, rfl⟩ := hb
          exact ⟨σ, rfl, h⟩
        · cases hb
      · rename_i hl
        rw [if_neg (nbN hl)]
        simp only [Option.bind_eq_some_iff, Option.map_eq_some_iff, Prod.mk.injEq] at hb
        obtain ⟨l, hl, cs, hcs, rfl, rfl⟩ := hb
        refine ⟨_, ?_, h.push (.o _)⟩
        rw [hl]
        simp [fillB_sound hcs, h.n]
  · cases hb
omit hK in
theorem newRow_ok {st : List Nat} {n : Nat} {d : List V} : OR (newRow st n d) (.cells st (List.replicate n d).flatten) := by
  unfold newRow
  split
  · have e : (List.replicate n d) = rowsOf n d .l := by
      simp only [rowsOf, T.get, Option.getD_none]
      rw [List.map_const', List.length_range]
    rw [e]
    exact .tab _ _ _ _ _ rfl fun i l h => by simp [T.get] at h
  · exact .o _
include hK h in
theorem makeSliceB_sound {t : TypeId} {l c : V} {st' : List Nat} {v : V} (hb : makeSliceB K t l c m st' = some (v, m')) : ∃ σ', makeSliceA C t l c σ st' = some (v, σ') ∧ MB m' σ' := by
  unfold makeSliceB at hb
  split at hb
  · rename_i n k
    split at hb
    · rename_i e hsh
      simp only [Option.bind_eq_some_iff] at hb
      obtain ⟨te, he, hb⟩ := hb
      obtain ⟨hel, hz0, _, _⟩ := hK.elem hsh he
      have hby := (hK e te he).bytes
      split at hb
      · rename_i hc
        simp only [Bool.and_eq_true] at hc
        obtain ⟨⟨c1, c2⟩, c3⟩ := hc
        simp only [Option.some.injEq, Prod.mk.injEq] at hb
        obtain ⟨rfl, rfl⟩ := hb
        refine ⟨_, ?_, h.push newRow_ok⟩
        have h1 := ble_true c1
        have h3 := ble_true c3
        simp only [makeSliceA, hel, Option.bind_some, hby]
        rw [if_pos (by simp), if_pos (by simp only [Int.ofNat_eq_natCast]; omega), if_pos ⟨by simp only [Int.ofNat_eq_natCast]; omega, roomyB c2⟩]
        rw [h.n]; rfl
      · cases hb
    · cases hb
  · cases hb
include hK h in
theorem convB_sound {src dst : TypeId} {x v : V} (hc : convB K src dst m x = some v) : (∀ e, C.shape dst ≠ .slice e) ∧ convertP C src dst σ x = some v := by
  simp only [convB, Option.bind_eq_some_iff] at hc
  obtain ⟨ti, hti, hc⟩ := hc
  have hkn := hK.known hti
  split at hc
  · rename_i k k' n hs
    have e := hK.sh hs (by simp)
    refine ⟨fun q => by rw [e]; simp, ?_⟩
    simp [convertP, hkn, e, intR_some hc]
  · rename_i b hs
    have e := hK.sh hs (by simp)
    refine ⟨fun q => by rw [e]; simp, ?_⟩
    simp only [convertP, hkn, e, if_true]; exact hc
  · rename_i hs hx
    have e := hK.sh hs (by simp)
    refine ⟨fun q => by rw [e]; simp, ?_⟩
    split at hc
    · rename_i e1 hs1
      split at hc
      · rename_i hs2
        simp only [Option.bind_eq_some_iff, Option.map_eq_some_iff] at hc
        obtain ⟨⟨n, cs⟩, h1, l, h2, rfl⟩ := hc
        have h1 := elemsB_sound h h1
        have key : ∀ y, (∀ b, y = V.s b → False) → elems 1 σ y = some (n, cs) → convertP C src dst σ y = some (.s ⟨l.toArray⟩) := by
          intro y hy hz
          cases y <;> first
            | (exact absurd rfl (hy _))
            | (simp only [convertP, hkn, e, hK.sh hs1 (by simp), hK.sh hs2 (by simp), hz, if_true, Option.bind_some]; rw [show bytesOf cs = some l from h2]; rfl)
        exact key _ hx h1
      · cases hc
    · cases hc
  · cases hc
theorem unB_sound {op : UnOp} {x v : V} (hu : unB op x = some v) : ((toVal x).bind fun u => pureV C (Op.unary op u)) = some v := by
  unfold unB at hu
  split at hu
  · cases hu; exact unA_not _
  · rename_i k n
    rw [toVal_i, Option.bind_some, unA_neg, intR_some hu, Int.zero_sub]
  · cases hu
omit h in
include hK in
theorem arrPtrB_sound {t : TypeId} {x v : V} (ha : (match shapeB K t, x with
    | .array n _, .sl r st o k _ _ => if Nat.ble n k then some (V.ptr r st o) else none
    | .array n _, .arr cs k _ => if Nat.ble n k then some (V.iptr cs) else none
    | _, _ => none) = some v) : arrPtrA C t x = some v := by
  split at ha
  · rename_i n e r st o k es cap hs
    split at ha
    · rename_i hc; simp only [arrPtrA, hK.sh hs (by simp), if_pos (ble_true hc)]; exact ha
    · cases ha
  · rename_i n e cs k cl hs
    split at ha
    · rename_i hc; simp only [arrPtrA, hK.sh hs (by simp), if_pos (ble_true hc)]; exact ha
    · cases ha
  · cases ha
end

section
variable {C : Cfg} {K : T TI} (hK : TOk C K) {m m' : Mem} {σ : List O} (h : MB m σ) {p : List Nat} {ev : Operand → V} {c c' : Nat} {v : V}
include hK h in
theorem opB_sound (op : Op) (hop : opB' op K p ev m c = some (v, m', c')) : ∃ σ', opA C p ev σ c op = some (v, σ', c') ∧ MB m' σ' := by
  cases op
  case move x => cases hop; exact ⟨σ, rfl, h⟩
  case assign x => cases hop; exact ⟨σ, rfl, h⟩
  case pick k a b =>
    have hop : (match ev k with | .b x => some (if x then ev a else ev b, m, c) | _ => none) = some (v, m', c') := hop
    split at hop
    · rename_i x hx; cases hop; exact ⟨σ, by simp [opA, hx], h⟩
    · cases hop
  case alloc e =>
    have hop : ((zeroB K e).map fun z => (V.ptr m.n (c :: p) 0, m.push (.o (.cells (c :: p) z.cells)), c + 1)) = some (v, m', c') := hop
    simp only [Option.map_eq_some_iff, Prod.mk.injEq] at hop
    obtain ⟨z, hz, rfl, rfl, rfl⟩ := hop
    exact ⟨_, by simp [opA, hK.zero hz, h.n], h.push (.o _)⟩
  case box e x =>
    have hop : (if (ev x).cells.all V.one then some (V.ptr m.n (c :: p) 0, m.push (.o (.cells (c :: p) (ev x).cells)), c + 1) else none) = some (v, m', c') := hop
    split at hop
    · rename_i ho
      simp only [Option.some.injEq, Prod.mk.injEq] at hop
      obtain ⟨rfl, rfl, rfl⟩ := hop
      exact ⟨_, by simp only [opA, if_pos ho, h.n], h.push (.o _)⟩
    · cases hop
  case build t parts =>
    have hop : ((buildB K t (parts.toList.map fun (i, x) => (i, ev x))).map fun v => (v, m, c)) = some (v, m', c') := hop
    simp only [Option.map_eq_some_iff, Prod.mk.injEq] at hop
    obtain ⟨z, hz, rfl, rfl, rfl⟩ := hop
    exact ⟨σ, by simp only [opA, buildB_sound hK hz, Option.map_some], h⟩
  case buildSlice t len parts =>
    have hop : ((buildSliceB K t len (parts.toList.map fun (i, x) => (i, ev x)) m (c :: p)).map fun (v, m) => (v, m, c + 1)) = some (v, m', c') := hop
    simp only [Option.map_eq_some_iff, Prod.mk.injEq] at hop
    obtain ⟨⟨v1, m1⟩, hz, rfl, rfl, rfl⟩ := hop
    obtain ⟨σ', h1, h2⟩ := buildSliceB_sound hK h hz
    exact ⟨σ', by simp only [opA, h1, Option.map_some], h2⟩
  case load t a =>
    have hop : ((loadB K t m (ev a)).map fun v => (v, m, c)) = some (v, m', c') := hop
    simp only [Option.map_eq_some_iff, Prod.mk.injEq] at hop
    obtain ⟨z, hz, rfl, rfl, rfl⟩ := hop
    exact ⟨σ, by simp only [opA, loadB_sound hK h hz, Option.map_some], h⟩
  case store t a x =>
    have hop : ((storeB K t m (ev a) (ev x)).map fun m => (V.un, m, c + 1)) = some (v, m', c') := hop
    simp only [Option.map_eq_some_iff, Prod.mk.injEq] at hop
    obtain ⟨m1, hz, rfl, rfl, rfl⟩ := hop
    obtain ⟨σ', h1, h2⟩ := storeB_sound hK h hz
    exact ⟨σ', by simp only [opA, h1, Option.map_some], h2⟩
  case nilCheck x =>
    have hop : ((derefA (ev x)).map fun v => (v, m, c)) = some (v, m', c') := hop
    simp only [Option.map_eq_some_iff, Prod.mk.injEq] at hop
    obtain ⟨z, hz, rfl, rfl, rfl⟩ := hop
    exact ⟨σ, by simp only [opA, hz, Option.map_some], h⟩
  case binOp op t x y t' =>
    have hop : ((binB op K t (ev x) (ev y)).map fun v => (v, m, c)) = some (v, m', c') := hop
    simp only [Option.map_eq_some_iff, Prod.mk.injEq] at hop
    obtain ⟨z, hz, rfl, rfl, rfl⟩ := hop
    have := binB_sound (x := x) (y := y) hK hz
    refine ⟨σ, ?_, h⟩
    show Option.map (fun v => (v, σ, c)) (bin2 C op t x y (ev x) (ev y)) = _
    rw [this]; rfl
  case unOp op t x =>
    have hop : ((unB op (ev x)).map fun v => (v, m, c)) = some (v, m', c') := hop
    simp only [Option.map_eq_some_iff, Prod.mk.injEq] at hop
    obtain ⟨z, hz, rfl, rfl, rfl⟩ := hop
    exact ⟨σ, by simp only [opA, unB_sound hz, Option.map_some], h⟩
  case convert src dst x =>
    have hop : ((convB K src dst m (ev x)).map fun v => (v, m, c)) = some (v, m', c') := hop
    simp only [Option.map_eq_some_iff, Prod.mk.injEq] at hop
    obtain ⟨z, hz, rfl, rfl, rfl⟩ := hop
    obtain ⟨h1, h2⟩ := convB_sound hK h hz
    refine ⟨σ, ?_, h⟩
    simp only [opA]
    first
    | simp only [h2, Option.map_some]
    | (split
       · rename_i e he; exact absurd he (h1 e)
       · simp only [h2, Option.map_some])
  case makeFunc fn first cap =>
    cases fn
    case func f => cases hop; exact ⟨σ, rfl, h⟩
    all_goals cases hop
  case makeMap t r =>
    cases r
    case none => cases hop; exact ⟨_, by simp only [opA, h.n], h.push (.o _)⟩
    case some r => cases hop
  case makeSlice t l k =>
    have hop : ((makeSliceB K t (ev l) (ev k) m (c :: p)).map fun (v, m) => (v, m, c + 1)) = some (v, m', c') := hop
    simp only [Option.map_eq_some_iff, Prod.mk.injEq] at hop
    obtain ⟨⟨v1, m1⟩, hz, rfl, rfl, rfl⟩ := hop
    obtain ⟨σ', h1, h2⟩ := makeSliceB_sound hK h hz
    exact ⟨σ', by simp only [opA, h1, Option.map_some], h2⟩
  case slice t x lo hi mx =>
    have hop : (if mx.isSome && hi.isNone then none else (sliceB K t (ev x) (lo.map ev) (hi.map ev) (mx.map ev)).map fun v => (v, m, c)) = some (v, m', c') := hop
    split at hop
    · cases hop
    · rename_i hc
      simp only [Option.map_eq_some_iff, Prod.mk.injEq] at hop
      obtain ⟨z, hz, rfl, rfl, rfl⟩ := hop
      exact ⟨σ, by simp only [opA, if_neg hc, sliceB_sound hK hz, Option.map_some], h⟩
  case fieldAddr t x f =>
    have hop : ((fieldAddrB K t (ev x) f).map fun v => (v, m, c)) = some (v, m', c') := hop
    simp only [Option.map_eq_some_iff, Prod.mk.injEq] at hop
    obtain ⟨z, hz, rfl, rfl, rfl⟩ := hop
    exact ⟨σ, by simp only [opA, fieldAddrB_sound hK hz, Option.map_some], h⟩
  case field t x f =>
    have hop : ((fieldB K t (ev x) f).map fun v => (v, m, c)) = some (v, m', c') := hop
    simp only [Option.map_eq_some_iff, Prod.mk.injEq] at hop
    obtain ⟨z, hz, rfl, rfl, rfl⟩ := hop
    refine ⟨σ, ?_, h⟩
    obtain ⟨cs, q1, q2⟩ := fieldB_sound hK hz
    simp only [opA, q1]
    rw [q2]; rfl
  case indexAddr t x ix =>
    have hop : ((indexAddrB K t (ev x) (ev ix)).map fun v => (v, m, c)) = some (v, m', c') := hop
    simp only [Option.map_eq_some_iff, Prod.mk.injEq] at hop
    obtain ⟨z, hz, rfl, rfl, rfl⟩ := hop
    exact ⟨σ, by simp only [opA, indexAddrB_sound hK hz, Option.map_some], h⟩
  case index t x ix =>
    have hop : ((indexB K t (ev x) (ev ix)).map fun v => (v, m, c)) = some (v, m', c') := hop
    simp only [Option.map_eq_some_iff, Prod.mk.injEq] at hop
    obtain ⟨z, hz, rfl, rfl, rfl⟩ := hop
    exact ⟨σ, by simp only [opA, indexB_sound hK hz, Option.map_some], h⟩
  case lookup t x k ok =>
    have hop : ((lookupB K t m (ev x) (ev k) ok).map fun v => (v, m, c)) = some (v, m', c') := hop
    simp only [Option.map_eq_some_iff, Prod.mk.injEq] at hop
    obtain ⟨z, hz, rfl, rfl, rfl⟩ := hop
    exact ⟨σ, by simp only [opA, lookupB_sound hK h hz, Option.map_some], h⟩
  case mapUpdate t x k y =>
    have hop : ((mapUpdateB K t m (ev x) (ev k) (ev y)).map fun m => (V.un, m, c + 1)) = some (v, m', c') := hop
    simp only [Option.map_eq_some_iff, Prod.mk.injEq] at hop
    obtain ⟨m1, hz, rfl, rfl, rfl⟩ := hop
    obtain ⟨σ', h1, h2⟩ := mapUpdateB_sound hK h hz
    exact ⟨σ', by simp only [opA, h1, Option.map_some], h2⟩
  case sliceToArrayPointer t x =>
    have hop : ((match shapeB K t, ev x with
      | .array n _, .sl r st o k _ _ => if Nat.ble n k then some (V.ptr r st o) else none
      | .array n _, .arr cs k _ => if Nat.ble n k then some (V.iptr cs) else none
      | _, _ => none).map fun v => (v, m, c)) = some (v, m', c') := hop
    simp only [Option.map_eq_some_iff, Prod.mk.injEq] at hop
    obtain ⟨z, hz, rfl, rfl, rfl⟩ := hop
    exact ⟨σ, by simp only [opA, arrPtrB_sound hK hz, Option.map_some], h⟩
  case extract x n =>
    have hop : ((match ev x with | .tup vs => vs[n]? | _ => none).map fun v => (v, m, c)) = some (v, m', c') := hop
    simp only [Option.map_eq_some_iff, Prod.mk.injEq] at hop
    obtain ⟨z, hz, rfl, rfl, rfl⟩ := hop
    refine ⟨σ, ?_, h⟩
    split at hz
    · rename_i vs hx
      simp only [opA, hx, hz, Option.map_some]
    · cases hz
  case call cl =>
    obtain ⟨callee, args, ts⟩ := cl
    cases callee
    case builtin b =>
      simp only [opB'] at hop
      split at hop
      · rename_i s x ha
        split at hop
        · rename_i t u ht
          simp only [opA, changes, if_true, builtinA, ha, ht]
          split at hop
          · cases hop
          · cases hop
          · rename_i n1 n2
            simp only [Option.map_eq_some_iff, Prod.mk.injEq] at hop
            obtain ⟨⟨v1, m1⟩, hz, rfl, rfl, rfl⟩ := hop
            obtain ⟨σ', h1, h2⟩ := appendB_sound hK h hz
            have e := hK.shape (t := u) (fun e => n2 e)
            refine ⟨σ', ?_, h2⟩
            have hkn : known C u = true := by
              unfold known
              split
              · rename_i q; rw [e] at q; exact absurd q (fun q => n2 q)
              · rfl
            split
            · rename_i k q; rw [e] at q; exact absurd q (fun q => n1 k q)
            · simp only [hkn, if_true, h1, Option.map_some]
        · cases hop
      · rename_i d x ha
        split at hop
        · rename_i t u ht
          simp only [Option.map_eq_some_iff, Prod.mk.injEq] at hop
          obtain ⟨⟨v1, m1⟩, hz, rfl, rfl, rfl⟩ := hop
          obtain ⟨σ', h1, h2⟩ := copyB_sound hK h hz
          exact ⟨σ', by simp only [opA, changes, if_true, builtinA, ha, ht, h1, Option.map_some], h2⟩
        · cases hop
      · rename_i x ha
        split at hop
        · rename_i t ht
          simp only [Option.map_eq_some_iff, Prod.mk.injEq] at hop
          obtain ⟨z, hz, rfl, rfl, rfl⟩ := hop
          exact ⟨σ, by simp only [opA, changes, Bool.false_eq_true, if_false, builtinP, ha, ht, lenB_sound hK h hz, Option.map_some], h⟩
        · cases hop
      · rename_i x ha
        split at hop
        · rename_i t ht
          split at hop
          · rename_i e hs
            simp only [Option.map_eq_some_iff, Prod.mk.injEq] at hop
            obtain ⟨z, hz, rfl, rfl, rfl⟩ := hop
            exact ⟨σ, by simp only [opA, changes, Bool.false_eq_true, if_false, builtinP, ha, ht, hK.sh hs (by simp), hz, Option.map_some], h⟩
          · cases hop
        · cases hop
      · rename_i ha
        simp only [Option.map_eq_some_iff, Prod.mk.injEq] at hop
        obtain ⟨z, hz, rfl, rfl, rfl⟩ := hop
        exact ⟨σ, by simp only [opA, changes, Bool.false_eq_true, if_false, builtinP, hz, Option.map_some], h⟩
      · rename_i ha
        simp only [Option.map_eq_some_iff, Prod.mk.injEq] at hop
        obtain ⟨z, hz, rfl, rfl, rfl⟩ := hop
        exact ⟨σ, by simp only [opA, changes, Bool.false_eq_true, if_false, builtinP, hz, Option.map_some], h⟩
      · cases hop
    all_goals cases hop
  all_goals cases hop
end
end Go.Am

/- The fast machine: what it comes to is what the abstract machine comes to. -/

namespace Go.Am
set_option linter.unusedVariables false
set_option linter.unusedSimpArgs false

theorem rowEq_eq {a b : Option (List V)} (h : rowEq a b = true) : a = b := by
  cases a <;> cases b <;> simp only [rowEq, Bool.false_eq_true] at h
  · rfl
  · rw [V.eqbL_eq h]
theorem treeEq_eq : ∀ {a b : T (List V)}, treeEq a b = true → a = b
  | .l, .l, _ => rfl
  | .n v a b, .n v' a' b', h => by
    simp only [treeEq, Bool.and_eq_true] at h
    rw [rowEq_eq h.1.1, treeEq_eq h.1.2, treeEq_eq h.2]
  | .l, .n _ _ _, h => by cases h
  | .n _ _ _, .l, h => by cases h
theorem obEq_eq {a b : Option OB} (h : obEq a b = true) : ∃ x, a = some x ∧ b = some x := by
  unfold obEq at h
  split at h
  · rename_i x y; cases O.eqb_eq h; exact ⟨_, rfl, rfl⟩
  · simp only [Bool.and_eq_true, decide_eq_true_eq] at h
    obtain ⟨⟨⟨⟨h1, h2⟩, h3⟩, h4⟩, h5⟩ := h
    cases h1; cases nb_true h2; cases nb_true h3; cases V.eqbL_eq h4; cases treeEq_eq h5
    exact ⟨_, rfl, rfl⟩
  · cases h
theorem OR.fn {x : OB} {a b : O} (h : OR x a) (h' : OR x b) : a = b := by cases h <;> cases h' <;> rfl
theorem obEq_sound {m m' : Mem} {σ σ' : List O} (h : MB m σ) (h' : MB m' σ') {r : Nat} (e : obEq (m'.get r) (m.get r) = true) : O.eqb σ'[r]? σ[r]? = true := by
  obtain ⟨x, e1, e2⟩ := obEq_eq e
  obtain ⟨o, g1, g2⟩ := h.h r x e2
  obtain ⟨o', g3, g4⟩ := h'.h r x e1
  rw [g1, g3, g2.fn g4]; exact O.eqb_refl _

/-- The fast machine's tables are the abstract one's. -/
structure DOk (C : Cfg) (D : CB) : Prop where
  ty : TOk C D.K
  glob : ∀ g, C.glob g = D.glob g
  cls : ∀ g id, C.cls g id = clsB D g id
  hook : ∀ g id, C.hook g id = none
  pre : ∀ g id, C.pre g id = preB D g id
  still : ∀ f, C.still f = D.still f
  fn : ∀ f fn, D.prim f = none → D.fn.getB f = some fn → C.prim f = none ∧ C.primM f = none ∧ C.bar f = false ∧ C.P.funcs[f]? = some fn ∧ ∀ p, C.keep f p = true
  iter : ∀ f it, D.iter f = some it → ∃ it', C.iter f = some it' ∧ ∀ cap m σ x, MB m σ → it cap m = some x → it' cap σ = some x
  prim : ∀ f g, D.prim f = some g → ∃ g', C.prim f = some g' ∧ ∀ args m σ v, MB m σ → g args m = some v → g' args σ = some v
def CallRel (call : CallB) (call' : CallF) : Prop := ∀ f args m σ p v m', MB m σ → call f args m p = some (v, m') → ∃ σ', call' f args σ p = some (v, σ') ∧ MB m' σ'
def SB.st (s : SB) (nt : Nat) (σ : List O) : St := ⟨s.t, nt, σ, s.c⟩
section
variable {C : Cfg} {D : CB} (hD : DOk C D) {call : CallB} {call' : CallF} (hc : CallRel call call') {p : List Nat} {nt : Nat}
include hD in
theorem evB_eq (t : T V) (x : Operand) {σ : List O} {c : Nat} : evB D t x = (⟨t, nt, σ, c⟩ : St).ev C x := by
  cases x with
  | tmp k => simp only [evB, St.ev, T.getB_eq]; cases t.get k <;> rfl
  | const v => rfl
  | global g => simp only [evB, St.ev, hD.glob]; rfl
  | func f => rfl
theorem setT_some {t : T V} {m : Mem} {c : Nat} {d : Option Nat} {v : V} {s : SB} (h : setT nt t m c d v = some s) {σ : List O} : s.m = m ∧ (⟨t, nt, σ, c⟩ : St).put d v = s.st nt σ := by
  unfold setT at h
  cases d with
  | none => cases h; exact ⟨rfl, rfl⟩
  | some d =>
    simp only at h
    cases e : Nat.blt d nt with
    | false =>
      rw [e] at h; cases h
      exact ⟨rfl, by simp only [St.put]; rw [if_neg (blt_false e)]; rfl⟩
    | true =>
      rw [e] at h
      have e2 : forceV v (fun v => t.setK d v fun t => some (⟨t, m, c⟩ : SB)) = some ⟨t.setB d v, m, c⟩ := by
        have : ∀ K : V → Option SB, forceV v K = K v := by
          intro K; cases v <;> first | rfl | (rename_i x; cases x <;> rfl)
        rw [this, T.setK_eq]
      have h3 : forceV v (fun v => t.setK d v fun t => some (⟨t, m, c⟩ : SB)) = some s := h
      rw [e2] at h3; cases h3
      exact ⟨rfl, by simp only [St.put]; rw [if_pos (blt_true e), ← T.setB_eq]; rfl⟩
theorem guardB_eq (ops : List Oper) (t : T V) (g : Option (Nat × Bool)) {σ : List O} {c : Nat} : guardA ops.toArray (⟨t, nt, σ, c⟩ : St) g = guardB ops t g := by
  cases g with
  | none => rfl
  | some g =>
    obtain ⟨j, want⟩ := g
    simp only [guardA, guardB, List.getElem?_toArray, T.getB_eq]; rfl
include hD hc in
theorem opC_sound {m m' : Mem} {σ : List O} (h : MB m σ) {op : Op} {t : T V} {c c' : Nat} {v : V} (ho : opC op D call p (evB D t) m c = some (v, m', c')) :
    ∃ σ', (match op with
      | .call { callee := .value f, args, .. } => (callA call' p ((⟨t, nt, σ, c⟩ : St).ev C f) (args.toList.map ((⟨t, nt, σ, c⟩ : St).ev C)) σ c).map fun (v, σ) => (v, σ, c + 1)
      | op => opA C p ((⟨t, nt, σ, c⟩ : St).ev C) σ c op) = some (v, σ', c') ∧ MB m' σ' := by
  have hev : evB D t = (⟨t, nt, σ, c⟩ : St).ev C := funext fun x => evB_eq hD t x
  rw [hev] at ho
  have plain : opB' op D.K p ((⟨t, nt, σ, c⟩ : St).ev C) m c = some (v, m', c') → ∃ σ', opA C p ((⟨t, nt, σ, c⟩ : St).ev C) σ c op = some (v, σ', c') ∧ MB m' σ' := fun ho => opB_sound hD.ty h op ho
  cases op
  case call cl =>
    obtain ⟨callee, args, ts⟩ := cl
    cases callee
    case value f =>
      simp only [opC] at ho
      split at ho
      · rename_i v1 m1 hcall
        cases ho
        unfold callV at hcall
        split at hcall
        · rename_i g first cap hf
          obtain ⟨σ', h1, h2⟩ := hc _ _ _ _ _ _ _ h hcall
          exact ⟨σ', by simp only [callA, hf, h1, Option.map_some], h2⟩
        · cases hcall
      · cases ho
    all_goals exact plain ho
  all_goals exact plain ho
include hD hc in
theorem stepB_sound {ops : List Oper} {o : Oper} {s s' : SB} {σ : List O} (h : MB s.m σ) (hs : stepB D call p nt ops o s = some s') :
    ∃ σ', stepA C call' p ops.toArray o (s.st nt σ) = some (s'.st nt σ') ∧ MB s'.m σ' := by
  obtain ⟨t, m, c⟩ := s
  simp only [stepB] at hs
  unfold stepA
  rw [show SB.st ⟨t, m, c⟩ nt σ = ⟨t, nt, σ, c⟩ from rfl, guardB_eq]
  split at hs
  · rename_i hg
    rw [hg]
    simp only [Option.bind_some, if_true]
    split at hs
    · rename_i v m1 c1 ho
      obtain ⟨σ', h1, h2⟩ := opC_sound (nt := nt) hD hc h ho
      obtain ⟨e1, e2⟩ := setT_some hs (σ := σ')
      refine ⟨σ', ?_, by rw [e1]; exact h2⟩
      rw [← e2]
      split
      · rename_i f args ts e
        simp only [e, Option.map_eq_some_iff, Prod.mk.injEq] at h1
        obtain ⟨⟨v2, σ2⟩, h3, rfl, rfl, rfl⟩ := h1
        rw [h3]; rfl
      · rename_i hn
        split at h1
        · rename_i f args ts e; exact absurd e (hn f args ts)
        · rw [h1]; rfl
    · cases hs
  · rename_i hg
    rw [hg]
    simp only [Option.bind_some, Bool.false_eq_true, if_false]
    obtain ⟨e1, e2⟩ := setT_some hs (σ := σ)
    exact ⟨σ, by rw [← e2], by rw [e1]; exact h⟩
  · cases hs
include hD hc in
theorem opsB_sound {ops : List Oper} : ∀ (l : List Oper) {s s' : SB} {σ : List O}, MB s.m σ → opsB D call p nt ops l s = some s' → ∃ σ', opsA C call' p ops.toArray l (s.st nt σ) = some (s'.st nt σ') ∧ MB s'.m σ'
  | [], s, s', σ, h, hs => by cases hs; exact ⟨σ, rfl, h⟩
  | o :: rest, s, s', σ, h, hs => by
    simp only [opsB] at hs
    split at hs
    · rename_i s1 h1
      obtain ⟨σ1, g1, g2⟩ := stepB_sound hD hc h h1
      obtain ⟨σ', g3, g4⟩ := opsB_sound rest g2 hs
      exact ⟨σ', by simp only [opsA, g1, Option.bind_some, g3], g4⟩
    · cases hs
/-- Two traces, side by side. -/
inductive TR : List (Mem × List Nat) → List (List O × List Nat) → Prop
  | nil : TR [] []
  | cons {m σ rs l l'} (h : MB m σ) (hr : TR l l') : TR ((m, rs) :: l) ((σ, rs) :: l')
theorem TR.get {l : List (Mem × List Nat)} {l' : List (List O × List Nat)} (h : TR l l') : ∀ (i : Nat) m rs, l[i]? = some (m, rs) → ∃ σ, l'[i]? = some (σ, rs) ∧ MB m σ := by
  induction h with
  | nil => intro i m rs h; simp at h
  | cons h hr ih =>
    intro i m rs hi
    cases i with
    | zero => simp at hi; obtain ⟨rfl, rfl⟩ := hi; exact ⟨_, rfl, h⟩
    | succ i => simp at hi ⊢; exact ih i m rs hi
include hD hc in
theorem traceB_sound {ops : List Oper} : ∀ (l : List Oper) {s e : SB} {tr} {σ : List O}, MB s.m σ → traceB D call p nt ops l s = some (tr, e) → ∃ tr' σ', traceA C call' p ops.toArray l (s.st nt σ) = some (tr', e.st nt σ') ∧ MB e.m σ' ∧ TR tr tr'
  | [], s, e, tr, σ, h, hs => by cases hs; exact ⟨_, σ, rfl, h, .cons h .nil⟩
  | o :: rest, s, e, tr, σ, h, hs => by
    simp only [traceB] at hs
    split at hs
    · rename_i s1 h1
      split at hs
      · rename_i l1 e1 h2
        cases hs
        obtain ⟨σ1, g1, g2⟩ := stepB_sound hD hc h h1
        obtain ⟨tr', σ', g3, g4, g5⟩ := traceB_sound rest g2 h2
        refine ⟨_, σ', by simp only [traceA, g1, Option.bind_some, g3, Option.map_some]; rfl, g4, ?_⟩
        have e : evB D s.t = (s.st nt σ).ev C := funext fun x => evB_eq hD s.t x
        rw [e]
        exact .cons h g5
      · cases hs
    · cases hs
theorem okPairB_sound {tr : List (Mem × List Nat)} {tr' : List (List O × List Nat)} (h : TR tr tr') {ij : Nat × Nat} (ho : okPairB tr ij = true) : okPair tr' ij = true := by
  unfold okPairB at ho
  split at ho
  · rename_i m rs1 m' rs2 m2 rs e1 e2 e3
    obtain ⟨σ, g1, g2⟩ := h.get _ _ _ e1
    obtain ⟨σ', g3, g4⟩ := h.get _ _ _ e2
    obtain ⟨σ2, g5, g6⟩ := h.get _ _ _ e3
    simp only [okPair, g1, g3, g5]
    rw [List.all_eq_true] at ho ⊢
    exact fun r hr => obEq_sound g2 g4 (ho r hr)
  · cases ho
include hD in
theorem stillB_eq (o : Oper) : stillO C o = stillB D o := by
  unfold stillO stillB
  split
  · rename_i f as ts h1 h2; rw [h1, h2, hD.still]
  · rename_i h1
    split
    · rename_i f as ts h2 h3; exact absurd h3 (h1 f as ts h2)
    · rfl
include hD in
theorem preObjsB_sound {c0 : Nat} : ∀ {l : List Oper} {q : Nat} {m m' : Mem} {σ : List O}, preObjsB D p c0 q l m = some m' → MB m σ → ∃ objs, preObjs C p c0 q l = some objs ∧ MB m' (σ ++ objs)
  | [], q, m, m', σ, h, hm => by cases h; exact ⟨[], rfl, by simpa using hm⟩
  | o :: l, q, m, m', σ, h, hm => by
    simp only [preObjsB] at h
    simp only [preObjs]
    split at h
    · rename_i e hp
      split at h
      · rename_i z hz
        obtain ⟨objs, h1, h2⟩ := preObjsB_sound h (hm.push (.o _))
        refine ⟨.cells ((c0 + q) :: p) z.cells :: objs, by rw [hp]; simp only [hD.ty.zero hz, Option.bind_some, h1, Option.map_some], by simpa using h2⟩
      · cases h
    · rename_i hp
      obtain ⟨objs, h1, h2⟩ := preObjsB_sound h hm
      exact ⟨objs, by rw [hp]; exact h1, h2⟩
include hD hc in
theorem stepXB_sound {ops : List Oper} {r0 c0 q : Nat} {o : Oper} {s s' : SB} {σ : List O} (h : MB s.m σ) (hs : stepXB D call p nt ops r0 c0 q o s = some s') :
    ∃ σ', stepX C call' p ops.toArray r0 c0 q o (s.st nt σ) = some (s'.st nt σ') ∧ MB s'.m σ' := by
  unfold stepXB at hs
  unfold stepX
  split at hs
  · rename_i e hp
    obtain ⟨e1, e2⟩ := setT_some hs (σ := σ)
    rw [hp]
    exact ⟨σ, by rw [← e2]; rfl, by rw [e1]; exact h⟩
  · rename_i hp
    rw [hp, stillB_eq hD]
    split at hs
    · rename_i g args hst
      rw [hst]
      have hev : evB D s.t = (s.st nt σ).ev C := funext fun x => evB_eq hD s.t x
      rw [hev] at hs
      split at hs
      · rename_i v hv
        split at hs
        · rename_i hw
          obtain ⟨e1, e2⟩ := setT_some hs (σ := σ)
          refine ⟨σ, ?_, by rw [e1]; exact h⟩
          simp only [hv, Option.bind_some]
          rw [if_pos hw, ← e2]; rfl
        · cases hs
      · cases hs
    · rename_i hst
      rw [hst]
      exact stepB_sound hD hc h hs
include hD hc in
theorem traceXB_sound {ops : List Oper} {r0 c0 : Nat} : ∀ (l : List Oper) {q : Nat} {s e : SB} {tr} {σ : List O}, MB s.m σ → traceXB D call p nt ops r0 c0 q l s = some (tr, e) → ∃ tr' σ', traceX C call' p ops.toArray r0 c0 q l (s.st nt σ) = some (tr', e.st nt σ') ∧ MB e.m σ' ∧ TR tr tr'
  | [], q, s, e, tr, σ, h, hs => by cases hs; exact ⟨_, σ, rfl, h, .cons h .nil⟩
  | o :: rest, q, s, e, tr, σ, h, hs => by
    simp only [traceXB] at hs
    split at hs
    · rename_i s1 h1
      split at hs
      · rename_i l1 e1 h2
        cases hs
        obtain ⟨σ1, g1, g2⟩ := stepXB_sound hD hc h h1
        obtain ⟨tr', σ', g3, g4, g5⟩ := traceXB_sound rest g2 h2
        refine ⟨_, σ', by simp only [traceX, g1, Option.bind_some, g3]; rfl, g4, ?_⟩
        have e : evB D s.t = (s.st nt σ).ev C := funext fun x => evB_eq hD s.t x
        rw [e]
        exact .cons h g5
      · cases hs
    · cases hs
theorem TR.len {l : List (Mem × List Nat)} {l' : List (List O × List Nat)} (h : TR l l') : l.length = l'.length := by
  induction h with
  | nil => rfl
  | cons _ _ ih => simp [ih]
theorem slotsOkB_sound {tr : List (Mem × List Nat)} {tr' : List (List O × List Nat)} (h : TR tr tr') {r0 : Nat} {m1 : Mem} {σ objs : List O} (hm : MB m1 (σ ++ objs)) (hr : r0 = σ.length) :
    ∀ {ms : List Nat} {q : Nat}, slotsOkB r0 m1 tr q ms = true → q + ms.length = objs.length → slotsOk r0 tr' q (objs.drop q) ms = true
  | [], q, hs, hl => by rw [List.drop_eq_nil_of_le (by simp at hl; omega)]; rfl
  | k :: ms, q, hs, hl => by
    simp only [List.length_cons] at hl
    have hq : q < objs.length := by omega
    rw [List.drop_eq_getElem_cons hq]
    simp only [slotsOkB, Bool.and_eq_true, List.all_eq_true] at hs
    simp only [slotsOk, Bool.and_eq_true, List.all_eq_true]
    refine ⟨fun x hx => ?_, slotsOkB_sound h hm hr hs.2 (by omega)⟩
    obtain ⟨i, hi⟩ := List.getElem?_of_mem hx
    rw [List.getElem?_take] at hi
    split at hi
    · rename_i hik
      have hlt : i < tr.length := by rw [h.len]; exact (List.getElem?_eq_some_iff.1 hi).1
      obtain ⟨⟨m, rs⟩, hti'⟩ : ∃ x, tr[i]? = some x := ⟨tr[i], List.getElem?_eq_getElem hlt⟩
      obtain ⟨σ2, g1, g2⟩ := h.get i m rs hti'
      rw [g1] at hi; cases hi
      have := hs.1 (m, rs) (List.mem_of_getElem? (i := i) (by rw [List.getElem?_take, if_pos hik]; exact hti'))
      have h8 := obEq_sound hm g2 this
      have e : (σ ++ objs)[r0 + q]? = some objs[q] := by rw [hr, List.getElem?_append_right (by omega)]; simp [hq]
      rw [e] at h8
      exact h8
    · cases hi
include hD hc in
theorem drawXB_sound {g id : Nat} {ms : List Nat} {ops : List Oper} {s s' : SB} {σ : List O} (h : MB s.m σ) (hs : drawXB D call g id p nt ms ops s = some s') :
    ∃ σ', opsX C call' p (C.cls g id) ms ops.toArray (s.st nt σ) = some (s'.st nt σ') ∧ MB s'.m σ' := by
  unfold drawXB at hs
  split at hs
  · rename_i m1 hm1
    split at hs
    · rename_i l e htr
      split at hs
      · rename_i hck
        cases hs
        simp only [Bool.and_eq_true] at hck
        obtain ⟨objs, g1, g2⟩ := preObjsB_sound hD hm1 h
        have hlen : ms.length = objs.length := by
          have h9 := nb_true hck.2
          have h8 := g2.n
          rw [List.length_append, ← h.n] at h8
          omega
        obtain ⟨tr', σ', k1, k2, k3⟩ := traceXB_sound hD hc ops (s := ⟨s.t, m1, s.c + ms.length⟩) g2 htr
        refine ⟨σ', ?_, k2⟩
        rw [h.n] at k1
        have k1' : traceX C call' p ops.toArray (s.st nt σ).σ.length (s.st nt σ).c 0 ops ⟨s.t, nt, σ ++ objs, s.c + objs.length⟩ = some (tr', s'.st nt σ') := by
          rw [← hlen]; exact k1
        simp only [opsX]
        rw [show (s.st nt σ).c = s.c from rfl, g1]
        simp only [Option.bind_some]
        show ((traceX C call' p ops.toArray (s.st nt σ).σ.length (s.st nt σ).c 0 ops ⟨s.t, nt, σ ++ objs, s.c + objs.length⟩).bind _) = _
        rw [k1']
        simp only [Option.bind_some]
        rw [if_pos]
        rw [Bool.and_eq_true]
        refine ⟨?_, ?_⟩
        · rw [hD.cls]
          have h7 := hck.1.1
          rw [List.all_eq_true] at h7 ⊢
          exact fun ij hij => okPairB_sound k3 (h7 ij hij)
        · have := slotsOkB_sound k3 g2 h.n (q := 0) hck.1.2 (by omega)
          rw [h.n] at this
          rw [List.drop_zero] at this
          exact this
      · cases hs
    · cases hs
  · cases hs
include hD hc in
theorem drawB_sound {g id : Nat} {ops : List Oper} {s s' : SB} {σ : List O} (h : MB s.m σ) (hs : drawB D call g id p nt ops s = some s') :
    ∃ σ', drawA C call' g id p ops.toArray (s.st nt σ) = some (s'.st nt σ') ∧ MB s'.m σ' := by
  unfold drawB at hs
  unfold drawA drawN
  rw [hD.hook, hD.pre]
  split at hs
  · rename_i ms hms
    rw [hms]
    exact drawXB_sound hD hc h hs
  rename_i hpre
  rw [hpre, hD.cls]
  split at hs
  · rename_i e
    rw [e]
    exact opsB_sound hD hc ops h hs
  · rename_i x ps e
    rw [e]
    split at hs
    · rename_i l e1 ht
      split at hs
      · rename_i hall
        cases hs
        obtain ⟨tr', σ', g1, g2, g3⟩ := traceB_sound hD hc ops h ht
        refine ⟨σ', ?_, g2⟩
        simp only [opsD, g1, Option.bind_some]
        rw [if_pos]
        rw [List.all_eq_true] at hall ⊢
        exact fun ij hij => okPairB_sound g3 (hall ij hij)
      · cases hs
    · cases hs
theorem loopB_sound {f : SB → Option (Ex × SB)} {f' : St → Option (Ex × St)} (hf : ∀ s s' e σ, MB s.m σ → f s = some (e, s') → ∃ σ', f' (s.st nt σ) = some (e, s'.st nt σ') ∧ MB s'.m σ') :
    ∀ (n : Nat) {s s' : SB} {e : Ex} {σ : List O}, MB s.m σ → loopB f n s = some (e, s') → ∃ σ', loopA f' n (s.st nt σ) = some (e, s'.st nt σ') ∧ MB s'.m σ'
  | 0, s, s', e, σ, h, hs => by cases hs
  | n + 1, s, s', e, σ, h, hs => by
    simp only [loopB] at hs
    split at hs
    · rename_i s1 h1
      obtain ⟨σ1, g1, g2⟩ := hf _ _ _ _ h h1
      obtain ⟨σ', g3, g4⟩ := loopB_sound hf n g2 hs
      exact ⟨σ', by simp only [loopA, g1, Option.bind_some, g3], g4⟩
    · rename_i hn
      obtain ⟨σ', g1, g2⟩ := hf _ _ _ _ h hs
      refine ⟨σ', ?_, g2⟩
      simp only [loopA, g1, Option.bind_some]
      cases e with
      | normal => exact absurd hs (hn s')
      | exit i => rfl
      | ret => rfl
theorem bindB_sound : ∀ {ps : List Nat} {vs : List V} {s s' : SB} {σ : List O}, bindB nt ps vs s = some s' → vs.length = ps.length ∧ s'.m = s.m ∧ (ps.zip vs).foldl (fun s x => s.put (some x.1) x.2) (s.st nt σ) = s'.st nt σ
  | [], [], s, s', σ, h => by cases h; exact ⟨rfl, rfl, rfl⟩
  | d :: ds, v :: vs, s, s', σ, h => by
    simp only [bindB] at h
    split at h
    · rename_i s1 h1
      obtain ⟨e1, e2⟩ := setT_some h1 (σ := σ)
      obtain ⟨g1, g2, g3⟩ := bindB_sound (σ := σ) h
      refine ⟨by simp [g1], g2.trans e1, ?_⟩
      rw [← g3]
      simp only [List.zip_cons_cons, List.foldl_cons]
      rw [← e2]; rfl
    · cases h
  | [], _ :: _, s, s', σ, h => by cases h
  | _ :: _, [], s, s', σ, h => by cases h
theorem noRB_noR (hh : ∀ g id, C.hook g id = none) (g : Nat) : ∀ {c : Code}, noRB c = true → noR C g c = true := by
  intro c
  induction c with
  | region id ops draw => intro _; simp [noR, hh]
  | seq a b iha ihb => intro h; simp only [noRB, Bool.and_eq_true] at h; simp [noR, iha h.1, ihb h.2]
  | cond k a b iha ihb => intro h; simp only [noRB, Bool.and_eq_true] at h; simp [noR, iha h.1, ihb h.2]
  | block id a ih => intro h; exact ih h
  | loop a ih => intro h; exact ih h
  | rangeFunc => intro h; cases h
  | scope a ih => intro h; cases h
  | _ => intro _; rfl
theorem rangeB_sound {fa fb : SB → Option (Ex × SB)} {fa' fb' : St → Option (Ex × St)} (ha : ∀ s s' e σ, MB s.m σ → fa s = some (e, s') → ∃ σ', fa' (s.st nt σ) = some (e, s'.st nt σ') ∧ MB s'.m σ')
    (hb : ∀ s s' e σ, MB s.m σ → fb s = some (e, s') → ∃ σ', fb' (s.st nt σ) = some (e, s'.st nt σ') ∧ MB s'.m σ') {ps rows : List Nat} {m0 : Mem} {σ0 : List O} (h0 : MB m0 σ0) {t0 : T V} {s0 : St} (hs0 : s0.t = t0) (hs1 : s0.nt = nt) :
    ∀ (l : List (List V)) {s s' : SB} {e : Ex} {σ : List O}, MB s.m σ → s.t = t0 → rangeB fa fb nt ps rows m0 t0 l s = some (e, s') → ∃ σ', rangeA fa' fb' ps rows σ0 s0 l (s.st nt σ) = some (e, s'.st nt σ') ∧ MB s'.m σ'
  | [], s, s', e, σ, h, ht, hr => by cases hr; exact ⟨σ, rfl, h⟩
  | vs :: rest, s, s', e, σ, h, ht, hr => by
    simp only [rangeB] at hr
    split at hr
    · rename_i sb hbd
      obtain ⟨g1, g2, g3⟩ := bindB_sound (σ := σ) hbd
      have g3' : (ps.zip vs).foldl (fun s x => s.put (some x.1) x.2) ⟨s0.t, s0.nt, σ, s.c⟩ = sb.st nt σ := by rw [hs0, hs1]; exact g3
      split at hr
      · rename_i s1 h1
        obtain ⟨σ1, k1, k2⟩ := ha _ _ _ σ (by rw [g2]; exact h) h1
        split at hr
        · rename_i s2 h2
          obtain ⟨σ2, k3, k4⟩ := hb _ _ _ _ k2 h2
          split at hr
          · rename_i hall
            obtain ⟨σ', k5, k6⟩ := rangeB_sound ha hb h0 hs0 hs1 rest (s := ⟨t0, s2.m, s2.c⟩) k4 rfl hr
            refine ⟨σ', ?_, k6⟩
            simp only [rangeA]
            rw [if_pos g1]
            show ((fa' ((ps.zip vs).foldl (fun s x => s.put (some x.1) x.2) ⟨s0.t, s0.nt, σ, s.c⟩)).bind _) = _
            rw [g3', k1]
            simp only [Option.bind_some, k3]
            rw [if_pos]
            · rw [hs0, hs1]; exact k5
            · rw [List.all_eq_true] at hall ⊢
              exact fun r hr => obEq_sound h0 k4 (hall r hr)
          · cases hr
        · rename_i e2 s2 hne h2
          cases hr
          obtain ⟨σ2, k3, k4⟩ := hb _ _ _ _ k2 h2
          refine ⟨σ2, ?_, k4⟩
          simp only [rangeA]
          rw [if_pos g1]
          show ((fa' ((ps.zip vs).foldl (fun s x => s.put (some x.1) x.2) ⟨s0.t, s0.nt, σ, s.c⟩)).bind _) = _
          rw [g3', k1]
          simp only [Option.bind_some, k3]
          cases e with
          | normal => exact absurd rfl hne
          | exit i => rw [hs0, hs1]; rfl
          | ret => rw [hs0, hs1]; rfl
        · cases hr
      · cases hr
    · cases hr
include hD hc in
theorem codeB_sound (g n : Nat) : ∀ (x : Code) {s s' : SB} {e : Ex} {σ : List O}, MB s.m σ → codeB D call g p nt n x s = some (e, s') → ∃ σ', codeA C call' g p n x (s.st nt σ) = some (e, s'.st nt σ') ∧ MB s'.m σ' := by
  intro x
  induction x with
  | skip => intro s s' e σ h hs; cases hs; exact ⟨σ, rfl, h⟩
  | label l => intro s s' e σ h hs; cases hs; exact ⟨σ, rfl, h⟩
  | region id ops draw =>
    intro s s' e σ h hs
    simp only [codeB] at hs
    split at hs
    · split at hs
      · rename_i s1 h1
        cases hs
        obtain ⟨σ', g1, g2⟩ := drawB_sound hD hc h h1
        exact ⟨σ', by simp only [codeA, if_true]; rw [show ops.toList.toArray = ops from rfl] at g1; rw [g1]; rfl, g2⟩
      · cases hs
    · split at hs
      · rename_i s1 h1
        cases hs
        obtain ⟨σ', g1, g2⟩ := opsB_sound hD hc _ h h1
        exact ⟨σ', by simp only [codeA, Bool.false_eq_true, if_false]; rw [show ops.toList.toArray = ops from rfl] at g1; rw [g1]; rfl, g2⟩
      · cases hs
  | seq a b iha ihb =>
    intro s s' e σ h hs
    simp only [codeB] at hs
    split at hs
    · rename_i s1 h1
      obtain ⟨σ1, g1, g2⟩ := iha h h1
      obtain ⟨σ', g3, g4⟩ := ihb g2 hs
      exact ⟨σ', by simp only [codeA, g1, Option.bind_some, g3], g4⟩
    · rename_i hn
      obtain ⟨σ', g1, g2⟩ := iha h hs
      refine ⟨σ', ?_, g2⟩
      simp only [codeA, g1, Option.bind_some]
      cases e with
      | normal => exact absurd hs (hn s')
      | exit i => rfl
      | ret => rfl
  | cond k a b iha ihb =>
    intro s s' e σ h hs
    simp only [codeB] at hs
    have ek : evB D s.t k = (s.st nt σ).ev C k := evB_eq hD s.t k
    rw [ek] at hs
    split at hs
    · rename_i hk
      obtain ⟨σ', g1, g2⟩ := iha h hs
      exact ⟨σ', by simp only [codeA, hk, if_true, g1], g2⟩
    · rename_i hk
      obtain ⟨σ', g1, g2⟩ := ihb h hs
      exact ⟨σ', by simp only [codeA, hk, Bool.false_eq_true, if_false, g1], g2⟩
    · cases hs
  | block id a iha =>
    intro s s' e σ h hs
    simp only [codeB] at hs
    split at hs
    · rename_i i s1 h1
      cases hs
      obtain ⟨σ', g1, g2⟩ := iha h h1
      refine ⟨σ', ?_, g2⟩
      simp only [codeA, g1, Option.map_some]
      by_cases hi : i = id
      · subst hi; simp
      · rw [if_neg (by simpa using hi), if_neg (by rw [nb_ne hi]; simp)]
    · rename_i hn
      obtain ⟨σ', g1, g2⟩ := iha h hs
      refine ⟨σ', ?_, g2⟩
      simp only [codeA, g1, Option.map_some]
      cases e with
      | normal => rfl
      | exit i => exact absurd hs (hn i s')
      | ret => rfl
  | loop a iha =>
    intro s s' e σ h hs
    exact loopB_sound (fun s s' e σ h hs => iha h hs) n h hs
  | scope a iha => intro s s' e σ h hs; exact iha h hs
  | rangeFunc f ps a b iha ihb =>
    intro s s' e σ h hs
    simp only [codeB] at hs
    split at hs
    · rename_i hn
      simp only [Bool.and_eq_true] at hn
      have ek : evB D s.t f = (s.st nt σ).ev C f := evB_eq hD s.t f
      rw [ek] at hs
      split at hs
      · rename_i gf cap hf
        split at hs
        · rename_i it hit
          split at hs
          · rename_i rows yss hy
            obtain ⟨it', q1, q2⟩ := hD.iter gf it hit
            obtain ⟨σ', g1, g2⟩ := rangeB_sound (s0 := ⟨s.t, nt, [], 0⟩) (fun s s' e σ h hs => iha h hs) (fun s s' e σ h hs => ihb h hs) h rfl rfl yss h rfl hs
            refine ⟨σ', ?_, g2⟩
            simp only [codeA]
            rw [if_pos (by rw [noRB_noR hD.hook g hn.1, noRB_noR hD.hook g hn.2]; rfl), hf]
            simp only [q1]
            have hy' : it' cap (s.st nt σ).σ = some (rows, yss) := q2 cap s.m σ _ h hy
            rw [hy']
            exact g1
          · cases hs
        · cases hs
      · cases hs
    · cases hs
  | exit id => intro s s' e σ h hs; cases hs; exact ⟨σ, rfl, h⟩
  | ret => intro s s' e σ h hs; cases hs; exact ⟨σ, rfl, h⟩
  | _ => intro s s' e σ h hs; cases hs
include hD in
theorem resB_sound {s : SB} {σ : List O} (h : MB s.m σ) : ∀ {rs : List ResultVar} {vs : List V}, resB D s rs = some vs → resA C (s.st nt σ) rs = some vs
  | [], vs, hr => hr
  | .tmp t :: l, vs, hr => by
    simp only [resB, Option.map_eq_some_iff] at hr
    obtain ⟨us, h1, rfl⟩ := hr
    simp only [resA, resB_sound h h1, Option.map_some, T.getB_eq]
    show some (((s.t.get t).getD .un) :: us) = _
    cases s.t.get t <;> rfl
  | .cell a t :: l, vs, hr => by
    simp only [resB, Option.bind_eq_some_iff, Option.map_eq_some_iff] at hr
    obtain ⟨v, hv, us, h1, rfl⟩ := hr
    have e : (match s.t.getB a with | some v => v | none => .un) = ((s.st nt σ).t.get a).getD .un := by
      rw [T.getB_eq]; show _ = (s.t.get a).getD .un; cases s.t.get a <;> rfl
    have hv : loadB D.K t s.m (((s.st nt σ).t.get a).getD .un) = some v := by rw [← e]; exact hv
    have := loadB_sound hD.ty h hv
    simp only [resA, resB_sound h h1, Option.map_some]
    show ((loadA C t σ _).bind _) = _
    rw [this]; rfl
end
theorem ofB_go {α : Type} : ∀ (l : List α) (k : Nat) (t : T α), ofB l k t = (l.zipIdx k).foldl (fun t p => t.set p.2 p.1) t
  | [], k, t => rfl
  | x :: l, k, t => by
    simp only [ofB, List.zipIdx_cons, List.foldl_cons]
    rw [T.setK_eq, T.setB_eq, ofB_go l (Nat.succ k)]
theorem ofB_eq {α : Type} (l : List α) : ofB l 0 .l = T.ofList l := ofB_go l 0 .l
theorem runB_sound {C : Cfg} {D : CB} (hD : DOk C D) : ∀ k, CallRel (runB D k) (runA C k)
  | 0 => fun f args m σ p v m' h hr => by cases hr
  | k + 1 => fun f args m σ p v m' h hr => by
    simp only [runB] at hr
    split at hr
    · rename_i g hg
      simp only [Option.map_eq_some_iff, Prod.mk.injEq] at hr
      obtain ⟨v', h1, rfl, rfl⟩ := hr
      obtain ⟨g', g1, g2⟩ := hD.prim f g hg
      exact ⟨σ, by simp only [runA, g1, g2 _ _ _ _ h h1, Option.map_some], h⟩
    · rename_i hp
      split at hr
      · rename_i fn hfn
        obtain ⟨q1, q2, q3, q4, q5⟩ := hD.fn f fn hp hfn
        split at hr
        · rename_i c hb
          unfold doneB at hr
          split at hr
          · cases hr
          · rename_i e s hne hcode
            simp only [Option.map_eq_some_iff, Prod.mk.injEq] at hr
            obtain ⟨vs, hvs, rfl, rfl⟩ := hr
            obtain ⟨σ', g1, g2⟩ := codeB_sound hD (runB_sound hD k) f k c (σ := σ) h hcode
            refine ⟨σ', ?_, g2⟩
            simp only [runA, q1, q2, q3, q4, hb, Bool.false_eq_true, if_false]
            have g1' : codeA C (runA C k) f p k c ⟨T.ofList args, max args.length fn.ntmps, σ, 0⟩ = some (e, s.st (Nat.max args.length fn.ntmps) σ') := by rw [← ofB_eq]; exact g1
            rw [g1']
            simp only [Option.bind_some]
            have hres := resB_sound (nt := Nat.max args.length fn.ntmps) hD g2 hvs
            cases e with
            | exit i => exact absurd rfl (hne i)
            | normal => simp only [doneA, hres, Option.map_some, q5, if_true]; rfl
            | ret => simp only [doneA, hres, Option.map_some, q5, if_true]; rfl
          · cases hr
        · cases hr
      · cases hr
/-- A function that answers yes or no from nothing. -/
theorem rootB_sound {C : Cfg} {D : CB} (hD : DOk C D) {k f : Nat} {fn : Func} {p : List Nat} {b : Bool} (h : rootB D k f fn p = some (.b b))
    (q1 : C.prim f = none) (q2 : C.primM f = none) (q3 : C.bar f = false) (q4 : C.P.funcs[f]? = some fn) (q5 : C.keep f p = false) (q6 : C.esc f = []) :
    runA C (k + 1) f [] [] p = some (.b b, []) := by
  unfold rootB at h
  split at h
  · rename_i c hb
    simp only [Option.map_eq_some_iff] at h
    obtain ⟨⟨v, m⟩, h1, rfl⟩ := h
    unfold doneB at h1
    split at h1
    · cases h1
    · rename_i e s hne hcode
      simp only [Option.map_eq_some_iff, Prod.mk.injEq] at h1
      obtain ⟨vs, hvs, hv, rfl⟩ := h1
      obtain ⟨σ', g1, g2⟩ := codeB_sound hD (runB_sound hD k) f k c (σ := []) MB.nil hcode
      simp only [runA, q1, q2, q3, q4, hb, Bool.false_eq_true, if_false]
      have g1' : codeA C (runA C k) f p k c ⟨T.ofList [], max ([] : List V).length fn.ntmps, [], 0⟩ = some (e, s.st fn.ntmps σ') := by
        rw [show max ([] : List V).length fn.ntmps = fn.ntmps from by simp]; exact g1
      rw [g1']
      simp only [Option.bind_some]
      have hres := resB_sound (nt := fn.ntmps) hD g2 hvs
      have hfz : freeze 0 σ' (.b b) = .b b := rfl
      cases e with
      | exit i => exact absurd rfl (hne i)
      | normal => simp only [doneA, hres, Option.map_some, q5, q6, Bool.false_eq_true, if_false, hv, List.length_nil, escape, List.take_zero]; rfl
      | ret => simp only [doneA, hres, Option.map_some, q5, q6, Bool.false_eq_true, if_false, hv, List.length_nil, escape, List.take_zero]; rfl
    · cases h1
  · cases h
theorem backB_sound {z : Nat} {cap : List V} {m : Mem} {σ : List O} {x : List Nat × List (List V)} (h : MB m σ) (hb : backB z cap m = some x) : backA z cap σ = some x := by
  unfold backB at hb
  split at hb
  · rename_i r st off
    split at hb
    · rename_i st' cs hr
      split at hb
      · rename_i hs
        split at hb
        · rename_i s hso
          split at hb
          · cases hb
          · rename_i hns
            split at hb
            · rename_i n l he
              split at hb
              · rename_i hle
                cases hb
                simp only [backA, h.row hr hs, Option.bind_some, hso, elemsB_sound h he, hns, if_true, if_pos (ble_true hle)]
              · cases hb
            · cases hb
        · cases hb
      · cases hb
    · cases hb
  · cases hb
end Go.Am
