/- Parts of one machine and of the walks over it, joined: AmFrz AmRoot. -/
import Derived.Test.YtgagaobijjahhaaGreatDoorAmFun
import Derived.Test.YtgagaobijjahhaaGreatDoorAmPrim
import Derived.Test.YtgagaobijjahhaaGreatDoorJM
/- What is shown of frozen arguments holds of live ones. -/
namespace Go.Am
set_option linter.unusedVariables false
set_option linter.unusedSimpArgs false
mutual
def V.clean (fr : Bool) : V → Bool
  | .ptr _ _ _ => false
  | .sl _ _ _ _ _ _ => false
  | .map _ _ => false
  | .fn _ _ _ => false
  | .iptr cs => fr && V.cleanL fr cs
  | .arr cs _ _ => fr && V.cleanL fr cs
  | .agg cs => V.cleanL fr cs
  | .iface _ v => V.clean fr v
  | .tup xs => V.cleanL fr xs
  | _ => true
def V.cleanL (fr : Bool) : List V → Bool
  | [] => true
  | v :: l => V.clean fr v && V.cleanL fr l
end
section
variable {M M' : Mp} {w w' : World}
mutual
theorem Rel.cln {fr : Bool} (hF : fr = true → ∀ b, M.F b → M'.F b) (hk : fr = true → ∀ b, M.F b → w'.heap[b]? = w.heap[b]?) : ∀ {v : V} {y : Value}, Rel M w v y → v.clean fr = true → Rel M' w' v y
  | _, _, .bad y, _ => .bad y
  | _, _, .b x, _ => .b x
  | _, _, .i k n, _ => .i k n
  | _, _, .s x, _ => .s x
  | _, _, .nilp, _ => .nilp
  | _, _, .nils, _ => .nils
  | _, _, .nilf, _ => .nilf
  | _, _, .nili, _ => .nili
  | _, _, .nilm, _ => .nilm
  | _, _, .ptr r st off b n h, hc => by simp [V.clean] at hc
  | _, _, .iptr cs a vs h1 h2 h3 h4, hc => by
      simp only [V.clean, Bool.and_eq_true] at hc
      refine .iptr cs a vs (fun e => hF hc.1 _ (h1 e)) h2 (RelL.cln hF hk h3 hc.2) (fun j y hy => ?_)
      have hne : cs ≠ [] := by
        intro e; subst e; cases h3; simp at hy
      have hb : (a.add j).block = a.block := by unfold Addr.add; split <;> rfl
      rw [World.cell?_of_block (w := w) (by rw [hb]; exact hk hc.1 _ (h1 hne))]; exact h4 j y hy
  | _, _, .sl r st off len es cap b n k h a1 a2 a3, hc => by simp [V.clean] at hc
  | _, _, .arr cs len clip a vs k h1 h2 h3 h4 h5 h6, hc => by
      simp only [V.clean, Bool.and_eq_true] at hc
      refine .arr cs len clip a vs k (fun e => hF hc.1 _ (h1 e)) h2 (RelL.cln hF hk h3 hc.2) (fun j y hy => ?_) h5 h6
      have hne : cs ≠ [] := by
        intro e; subst e; cases h3; simp at hy
      have hb : (a.add j).block = a.block := by unfold Addr.add; split <;> rfl
      rw [World.cell?_of_block (w := w) (by rw [hb]; exact hk hc.1 _ (h1 hne))]; exact h4 j y hy
  | _, _, .agg cs vs h1 h2, hc => .agg cs vs h1 (RelL.cln hF hk h2 (by simpa only [V.clean] using hc))
  | _, _, .fn f fi ca us vs h1 h2, hc => by simp [V.clean] at hc
  | _, _, .map r st b n h, hc => by simp [V.clean] at hc
  | _, _, .iface t v y h, hc => .iface t v y (Rel.cln hF hk h (by simpa only [V.clean] using hc))
  | _, _, .tup xs vs h, hc => .tup xs vs (RelL.cln hF hk h (by simpa only [V.clean] using hc))
theorem RelL.cln {fr : Bool} (hF : fr = true → ∀ b, M.F b → M'.F b) (hk : fr = true → ∀ b, M.F b → w'.heap[b]? = w.heap[b]?) : ∀ {v : List V} {y : List Value}, RelL M w v y → V.cleanL fr v = true → RelL M' w' v y
  | _, _, .nil, _ => .nil
  | _, _, .cons x y xs ys h hs, hc => by
    simp only [V.cleanL, Bool.and_eq_true] at hc
    exact .cons x y xs ys (Rel.cln hF hk h hc.1) (RelL.cln hF hk hs hc.2)
end
end
theorem prim_frz {C : Cfg} {call : CallF} (hcall : CallOk C call) {f : Nat} {args0 : List V} {p0 : List Nat} {v : V} (hrun : call f args0 [] p0 = some (v, [])) (hcl : V.cleanL true args0 = true) (hv : v.clean false = true)
    (hgl : ∀ g cs, C.glob g = some cs → V.cleanL true cs = true) {C' : Cfg} (hP : C'.P = C.P) (hG : C'.glob = C.glob)
    {B0 : Nat} {args : List V} {σ : List O} {p : List Nat} (hfz : ∀ (M : Mp) (w : World) (ys : List Value), RelL M w (args.map (freezeC 0 σ)) ys → RelL M w args0 ys) :
    ∀ (M : Mp) (w : World) (cargs : List Value), MR B0 M σ w → GR C' M w → RelL M w args cargs → (∀ q, M.m (q ++ p) = none) → (∀ (r : Nat) o st q, σ[r]? = some o → o.st = some st → st ≠ q ++ p) →
    ∃ nx w1 M1, (callFunc f cargs.toArray).run C'.P w = .ok nx w1 ∧ Ext B0 M M1 w w1 ∧ MR B0 M1 σ w1 ∧ M1 = M ∧
      ((∃ y, nx = .value y ∧ Rel M1 w1 v y ∧ σ = σ) ∨
       (nx = .enter f cargs.toArray ∧ Calls C'.P f cargs.toArray w1 fun e w' => ∃ M' y, e = .returned y ∧ Rel M' w' v y ∧ Ext B0 M1 M' w1 w' ∧ MR B0 M' σ w' ∧ σ.length ≤ σ.length ∧
        (∀ st x, M'.m st = some x → M1.m st = some x ∨ ∃ q, st = q ++ p) ∧
        (∀ (r : Nat) o st, σ[r]? = some o → o.st = some st → (∃ o', σ[r]? = some o' ∧ o'.st = some st) ∨ ∃ q, st = q ++ p))) := by
  intro M w cargs hM hg hargs hm hs
  obtain ⟨N, hN⟩ : ∃ N : Mp, N = ⟨fun _ => none, (MF M σ 0).F⟩ := ⟨_, rfl⟩
  have hNF : N.F = (MF M σ 0).F := by rw [hN]
  have hNm : ∀ st, N.m st = none := fun st => by rw [hN]
  have hfl : ∀ b, N.F b → b < w.heap.size := by
    intro b hb
    rw [hNF] at hb
    rcases hb with h | ⟨r, o, st, n, _, _, _, h⟩
    · exact hM.sep.flt b h
    · exact (hM.sep.lt st b n h).1
  have hMN : MR B0 N [] w := ⟨⟨fun r r' o o' st st' b n n' h => by simp at h, fun r o st b n h => by simp at h, fun st b n h => by (rw [hNm] at h; cases h), hfl, hM.sep.base⟩, fun r o h => by simp at h⟩
  have hgN : GR C N w := ⟨fun g cs hgc => Rel.cln (fr := true) (fun _ b hb => by rw [hNF]; exact .inl hb) (fun _ _ _ => rfl) (hg.glob g cs (by rw [hG]; exact hgc)) (by simp only [V.clean, Bool.true_and]; exact hgl g cs hgc)⟩
  have hargsN : RelL N w args0 cargs := by
    refine RelL.cln (M := MF M σ 0) (fr := true) (fun _ b hb => by rw [hNF]; exact hb) (fun _ _ _ => rfl) ?_ hcl
    refine hfz _ _ _ ?_
    refine RelL.of_get (by rw [List.length_map]; exact hargs.length) fun j x y hx hy => ?_
    rw [List.getElem?_map, Option.map_eq_some_iff] at hx
    obtain ⟨x', hx', rfl⟩ := hx
    obtain ⟨y', hy', hr'⟩ := hargs.get hx'
    rw [hy] at hy'; cases hy'
    exact freezeC_rel hM 0 hr'
  obtain ⟨nx, w1, N1, h1, h2, h3, rfl, h4⟩ := hcall B0 f args0 [] p0 v [] hrun N w cargs hMN hgN hargsN (fun q => hNm _) (fun r o st q h => by simp at h)
  have hMF : ∀ b, M.F b → N1.F b := fun b hb => by rw [hNF]; exact .inl hb
  have keepM : ∀ (w' : World) (M' : Mp), Ext B0 N1 M' w w' → MR B0 M σ w' ∧ Ext B0 M M w w' := by
    intro w' M' e
    have hsz := e.below.size
    have hex : Ext B0 M M w w' := ⟨fun _ _ h => h, fun _ h => h, fun b hb => e.keep b (hMF b hb), e.below⟩
    refine ⟨⟨⟨hM.sep.apart, hM.sep.live, fun st b n h => ⟨by have := (hM.sep.lt st b n h).1; omega, (hM.sep.lt st b n h).2⟩, fun b hb => by have := hM.sep.flt b hb; omega, by have := hM.sep.base; omega⟩, fun r o ho => ?_⟩, hex⟩
    refine (hM.obj r o ho).mono hex (fun _ _ => rfl) fun st b n h5 h6 => ?_
    refine e.keep b ?_
    rw [hNF]
    exact .inr ⟨r, o, st, n, Nat.zero_le _, ho, h5, h6⟩
  rw [hP]
  refine ⟨nx, w1, M, h1, (keepM w1 N1 h2).2, (keepM w1 N1 h2).1, rfl, ?_⟩
  rcases h4 with ⟨y, q1, q2, _⟩ | ⟨q1, q2⟩
  · exact .inl ⟨y, q1, q2.cln (fr := false) (fun h => (by cases h)) (fun h => (by cases h)) hv, rfl⟩
  · refine .inr ⟨q1, q2.mono ?_⟩
    rintro e w' ⟨M', y, rfl, r1, r2, r3, r4, r5, r6⟩
    have e2 := h2.trans r2
    obtain ⟨k1, k2⟩ := keepM w' M' e2
    refine ⟨M, y, rfl, r1.cln (fr := false) (fun h => (by cases h)) (fun h => (by cases h)) hv, ?_, k1, Nat.le_refl _, fun st x h => .inl h, fun r o st h5 h6 => .inl ⟨o, h5, h6⟩⟩
    exact ⟨fun _ _ h => h, fun _ h => h, fun b hb => r2.keep b (hMF b hb), r2.below⟩
end Go.Am

/- The fast machine from nothing: a function at frozen arguments. -/
namespace Go.Am
set_option linter.unusedVariables false
set_option linter.unusedSimpArgs false
noncomputable def rootV (D : CB) (k f : Nat) (fn : Func) (args : List V) (p : List Nat) : Option V :=
  match fn.body with
  | some c => (doneB D fn.results.toList (codeB D (runB D k) f p (Nat.max args.length fn.ntmps) k c ⟨ofB args 0 .l, ⟨0, .l⟩, 0⟩)).map (·.1)
  | none => none
theorem freeze1_cln {base : Nat} {σ : List O} {d : Nat} {v : V} (h : v.clean false = true) : freeze1 base σ d v = v := by
  cases v <;> simp only [V.clean, Bool.false_and, Bool.false_eq_true] at h <;> cases d <;> rfl
theorem cleanL_mem {fr : Bool} : ∀ {l : List V}, V.cleanL fr l = true → ∀ v ∈ l, v.clean fr = true
  | [], _, v, h => by cases h
  | a :: l, hc, v, h => by
    simp only [V.cleanL, Bool.and_eq_true] at hc
    cases h with
    | head => exact hc.1
    | tail _ h => exact cleanL_mem hc.2 v h
theorem map_freeze1_cln {base : Nat} {σ : List O} {d : Nat} {l : List V} (h : V.cleanL false l = true) : l.map (freeze1 base σ d) = l := by
  conv => rhs; rw [← List.map_id l]
  exact List.map_congr_left fun v hv => freeze1_cln (cleanL_mem h v hv)
theorem freezeC_cln {base : Nat} {σ : List O} {v : V} (h : v.clean false = true) : freezeC base σ v = v := by
  cases v <;> simp only [freezeC] <;> first | exact freeze1_cln h | skip
  simp only [V.clean] at h
  rw [map_freeze1_cln h]
theorem freeze_cln {base : Nat} {σ : List O} {v : V} (h : v.clean false = true) : freeze base σ v = v := by
  cases v <;> simp only [freeze] <;> first | exact freezeC_cln h | skip
  simp only [V.clean] at h
  rename_i vs
  congr 1
  conv => rhs; rw [← List.map_id vs]
  exact List.map_congr_left fun v hv => freezeC_cln (cleanL_mem h v hv)
theorem rootV_sound {C : Cfg} {D : CB} (hD : DOk C D) {k f : Nat} {fn : Func} {args : List V} {p : List Nat} {v : V} (h : rootV D k f fn args p = some v) (hv : v.clean false = true)
    (q1 : C.prim f = none) (q2 : C.primM f = none) (q3 : C.bar f = false) (q4 : C.P.funcs[f]? = some fn) (q5 : C.keep f p = false) (q6 : C.esc f = []) :
    runA C (k + 1) f args [] p = some (v, []) := by
  unfold rootV at h
  split at h
  · rename_i c hb
    simp only [Option.map_eq_some_iff] at h
    obtain ⟨⟨v, m⟩, h1, rfl⟩ := h
    unfold doneB at h1
    split at h1
    · cases h1
    · rename_i e s hne hcode
      simp only [Option.map_eq_some_iff, Prod.mk.injEq] at h1
      obtain ⟨vs, hvs, hv', rfl⟩ := h1
      obtain ⟨σ', g1, g2⟩ := codeB_sound hD (runB_sound hD k) f k c (σ := []) MB.nil hcode
      simp only [runA, q1, q2, q3, q4, hb, Bool.false_eq_true, if_false]
      have g1' : codeA C (runA C k) f p k c ⟨T.ofList args, max args.length fn.ntmps, [], 0⟩ = some (e, s.st (Nat.max args.length fn.ntmps) σ') := by rw [← ofB_eq]; exact g1
      rw [g1']
      simp only [Option.bind_some]
      have hres := resB_sound (nt := Nat.max args.length fn.ntmps) hD g2 hvs
      have hfz : freeze 0 σ' v = v := freeze_cln hv
      cases e with
      | exit i => exact absurd rfl (hne i)
      | normal =>
        simp only [doneA, hres, Option.map_some, q5, q6, Bool.false_eq_true, if_false, hv', List.length_nil, escape, List.take_zero]
        show some (freeze 0 σ' v, []) = _
        rw [hfz]
      | ret =>
        simp only [doneA, hres, Option.map_some, q5, q6, Bool.false_eq_true, if_false, hv', List.length_nil, escape, List.take_zero]
        show some (freeze 0 σ' v, []) = _
        rw [hfz]
    · cases h1
  · cases h
noncomputable def lenN {α : Type} : List α → Nat
  | [] => 0
  | _ :: l => Nat.succ (lenN l)
theorem lenN_eq {α : Type} : ∀ l : List α, lenN l = l.length
  | [] => rfl
  | _ :: l => by simp [lenN, lenN_eq l]
noncomputable def u8n : List V → Option (List Nat)
  | [] => some []
  | .i .u8 (.ofNat n) :: l => match u8n l with | some r => some (n :: r) | none => none
  | _ => none
theorem u8n_eq : ∀ {cs : List V} {ns : List Nat}, u8n cs = some ns → cs = ints .u8 (ns.map Int.ofNat)
  | [], ns, h => by cases h; rfl
  | a :: l, ns, h => by
    unfold u8n at h
    split at h
    · rename_i h'; cases h'
    · rename_i n l' heq
      cases heq
      split at h
      · rename_i r hr; cases h; rw [u8n_eq hr]; rfl
      · cases h
    · cases h
noncomputable def rowy : V → Bool
  | .sl _ _ _ _ _ _ => true
  | .arr cs n _ => Nat.beq (lenN cs) n
  | _ => false
noncomputable def on1 (q : List Nat → Option V) (x : V) (el : Option (Nat × List V)) : Option V :=
  match rowy x with
  | true => (match el with | some (_, cs) => (match u8n cs with | some ns => q ns | none => none) | none => none)
  | false => none
theorem on1_some {q : List Nat → Option V} {x : V} {σ : List O} {v : V} (h : on1 q x (elems 1 σ x) = some v) : ∃ ns cl, q ns = some v ∧ ∀ d, freeze1 0 σ (d + 1) x = .arr (ints .u8 (ns.map Int.ofNat)) ns.length cl := by
  unfold on1 at h
  split at h
  case h_2 => cases h
  rename_i hr
  split at h
  case h_2 => cases h
  rename_i n cs he
  split at h
  case h_2 => cases h
  rename_i ns hns
  have hcs := u8n_eq hns
  cases x <;> simp only [rowy, Bool.false_eq_true] at hr
  · rename_i r st o n' es cap
    simp only [elems] at he
    split at he
    case isFalse => cases he
    rename_i hes
    subst hes
    simp only [Option.bind_eq_some_iff, Option.map_eq_some_iff, Prod.mk.injEq] at he
    obtain ⟨row, hrow, l, hl, rfl, rfl⟩ := he
    obtain ⟨q1, q2, q3⟩ := take?_some hl
    have hlen : ns.length = n' := by
      have := congrArg List.length hcs
      rw [ints_len, List.length_map] at this
      rw [← this]
      have := q2
      omega
    refine ⟨ns, cap == some n', h, fun d => ?_⟩
    simp only [freeze1, Nat.zero_le, if_true, hrow]
    split
    · rename_i h0
      have : ns = [] := List.eq_nil_of_length_eq_zero (by omega)
      subst this; subst h0; rfl
    · have : (row.drop o).take (n' * 1) = l := by rw [← q1]
      rw [this, hcs, frz_ints, hlen]
  · rename_i cs' n' cl
    simp only [elems, Option.map_eq_some_iff, Prod.mk.injEq] at he
    obtain ⟨l, hl, rfl, rfl⟩ := he
    have hn := Nat.eq_of_beq_eq_true hr
    rw [lenN_eq] at hn
    obtain ⟨q1, q2, q3⟩ := take?_some hl
    have hl' : l = cs' := by rw [q1, List.drop_zero, List.take_of_length_le (by omega)]
    rw [← hl', hcs] at hn ⊢
    rw [ints_len, List.length_map] at hn
    exact ⟨ns, cl, h, fun d => by rw [← hn]; cases d <;> rfl⟩
def mkF (P : Program) (l : List Nat) : T Func := l.foldl (fun t f => match P.funcs[f]? with | some fn => t.set f fn | none => t) .l
theorem mkF_go {P : Program} {f : Nat} {fn : Func} : ∀ (l : List Nat) (t : T Func), (l.foldl (fun t f => match P.funcs[f]? with | some fn => t.set f fn | none => t) t).get f = some fn → (f ∈ l ∧ P.funcs[f]? = some fn) ∨ t.get f = some fn
  | [], t, h => .inr h
  | a :: l, t, h => by
    rw [List.foldl_cons] at h
    rcases mkF_go l _ h with h | h
    · exact .inl ⟨List.mem_cons_of_mem _ h.1, h.2⟩
    · cases hfn : P.funcs[a]? with
      | some fn' =>
        simp only [hfn] at h
        rw [T.get_set] at h
        by_cases e : f = a
        · rw [if_pos e] at h
          cases h
          exact .inl ⟨by rw [e]; exact List.mem_cons_self .., by rw [e]; exact hfn⟩
        · rw [if_neg e] at h
          exact .inr h
      | none =>
        simp only [hfn] at h
        exact .inr h
theorem mkF_ok {P : Program} {l : List Nat} {f : Nat} {fn : Func} (h : (mkF P l).getB f = some fn) : f ∈ l ∧ P.funcs[f]? = some fn := by
  rw [T.getB_eq] at h
  rcases mkF_go l .l h with h | h
  · exact h
  · simp [T.get] at h
theorem primAt_frz {C C' : Cfg} (hcall : ∀ k, CallOk C (runA C k)) (hgl : ∀ g cs, C.glob g = some cs → V.cleanL true cs = true) (hP : C'.P = C.P) (hG : C'.glob = C.glob) {f : Nat} {g : List V → List O → Option V}
    (h : ∀ args σ v, g args σ = some v → ∃ k p0 args0, runA C k f args0 [] p0 = some (v, []) ∧ V.cleanL true args0 = true ∧ v.clean false = true ∧ ∀ (M : Mp) (w : World) (ys : List Value), RelL M w (args.map (freezeC 0 σ)) ys → RelL M w args0 ys) : PrimAt C' f g := by
  intro B0 args σ p v hv
  obtain ⟨k, p0, args0, h1, h2, h3, h4⟩ := h args σ v hv
  exact prim_frz (hcall k) h1 h2 h3 hgl hP hG h4
theorem cleanL_ints {fr : Bool} {k : IntKind} : ∀ l : List Int, V.cleanL fr (ints k l) = true
  | [] => rfl
  | _ :: l => by simp only [ints, List.map_cons, V.cleanL, V.clean, Bool.true_and]; exact cleanL_ints l
end Go.Am
