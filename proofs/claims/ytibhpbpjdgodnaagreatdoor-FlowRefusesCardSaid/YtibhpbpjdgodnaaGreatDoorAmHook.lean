/- Slices that were given more room than they were told of; regions whose orders come to the same but for names. -/
import Derived.Test.YtibhpbpjdgodnaaGreatDoorAmOwn
namespace Go.Am
open Go Go.RowKit
set_option linter.unusedVariables false
set_option linter.unusedSimpArgs false

def plainV : V → Bool
  | .b _ | .i _ _ | .s _ | .nilp | .nils | .nilm | .nilf | .nili => true
  | _ => false
section
variable {C : Cfg} {M M' M0 : Mp} {w w' w0 : World} {B0 : Nat} {p : List Nat} {σ σ' : List O}
theorem plain_of1 {y : Value} (h : (ofVal1 y).one = true) : plainV (ofVal1 y) = true := by
  unfold ofVal1 at *
  split at h <;> simp_all [plainV, V.one]
theorem plain_rel {x : V} {y : Value} (h : plainV x = true) (hr : Rel M w x y) : (ofVal1 y).one = true := by
  cases x <;> simp only [plainV, Bool.false_eq_true] at h <;> cases hr <;> rfl
theorem plain_one {x : V} (h : plainV x = true) : x.one = true := by
  cases x <;> simp only [plainV, Bool.false_eq_true] at h <;> rfl
theorem MR.setRow {r : Nat} {o o' : O} {st : List Nat} {b n : Nat} (h : MR B0 M σ w) (hr : σ[r]? = some o) (hst : o.st = some st) (hst' : o'.st = some st) (hm : M.m st = some (b, n)) (ho : ObjRel M w o') : MR B0 M (σ.set r o') w := by
  have hp := Post.write (N := fun _ => True) (W := fun _ => True) (p := []) (c := 0) h.sep (fun r o _ h' => h.obj r o h') r o o' st b n hr hst hst' hm trivial rfl (fun _ _ => rfl) (Below.refl _ _) (fun _ => ho)
  exact ⟨hp.sep, fun r o h' => hp.obj r o (.inl trivial) h'⟩
/-- What stands behind a slice's elements. -/
theorem reveal {r n z : Nat} {st : List Nat} {cs : List V} {y : Value} (h : MR B0 M σ w) (hrow : σ[r]? = some (.cells st cs)) (hl : cs.length = n * z) (hr : Rel M w (.sl r st 0 n z none) y) :
    ∃ k hs b, n ≤ k ∧ hs.length = (k - n) * z ∧ (∀ x ∈ hs, plainV x = true) ∧ MR B0 M (σ.set r (.cells st (cs ++ hs))) w ∧ Rel M w (.sl r st 0 n z (some k)) y ∧ M.m st = some (b, k * z) := by
  obtain ⟨b, nb, k, hm, rfl, hk, hfull, _⟩ := hr.sl_inv
  have hnb := hfull rfl
  rw [Nat.zero_add] at hnb
  subst hnb
  obtain ⟨q1, q2, q3, q4⟩ := h.obj r _ hrow b _ hm
  have hsplit : k * z = n * z + (k - n) * z := by rw [← Nat.add_mul]; congr 1; omega
  let hs : List V := (List.range ((k - n) * z)).map fun j => ofVal1 ((w.cell? ⟨b, n * z + j, none⟩).getD (.bool true))
  have hcell : ∀ j, j < (k - n) * z → ∃ u, w.cell? ⟨b, n * z + j, none⟩ = some u ∧ (ofVal1 u).one = true := by
    intro j hj
    obtain ⟨u, h1, _, h3, _⟩ := q3 (n * z + j) (by omega)
    exact ⟨u, h1, h3 (by omega)⟩
  have hget : ∀ j x, hs[j]? = some x → ∃ u, w.cell? ⟨b, n * z + j, none⟩ = some u ∧ (ofVal1 u).one = true ∧ x = ofVal1 u := by
    intro j x hx
    simp only [hs, List.getElem?_map, Option.map_eq_some_iff] at hx
    obtain ⟨i, hi, rfl⟩ := hx
    obtain ⟨hlt, rfl⟩ := List.getElem?_eq_some_iff.1 hi
    simp only [List.length_range] at hlt
    simp only [List.getElem_range]
    obtain ⟨u, h1, h2⟩ := hcell j hlt
    exact ⟨u, h1, h2, by rw [h1]; rfl⟩
  have hplain : ∀ x ∈ hs, plainV x = true := by
    intro x hx
    obtain ⟨j, hj⟩ := List.mem_iff_getElem?.1 hx
    obtain ⟨u, _, h2, rfl⟩ := hget j x hj
    exact plain_of1 h2
  have hsl : hs.length = (k - n) * z := by simp [hs]
  refine ⟨k, hs, b, hk, hsl, hplain, ?_, .sl _ _ _ _ _ _ b _ k hm hk (fun e => by cases e) (fun c e => by injection e), hm⟩
  refine h.setRow hrow rfl rfl hm ?_
  intro b' n' hm'
  rw [hm] at hm'; cases hm'
  refine ⟨by rw [List.length_append, hl, hsl]; omega, fun x hx => (List.mem_append.1 hx).elim (q2 x) (fun h => plain_one (hplain x h)), fun j hj => ?_, fun j x hx => ?_⟩
  · obtain ⟨u, h1, h2, h3, h4⟩ := q3 j hj
    exact ⟨u, h1, h2, fun hle => by rw [List.length_append, hl, hsl] at hle; omega, h4⟩
  · by_cases hj : j < cs.length
    · rw [List.getElem?_append_left hj] at hx
      exact q4 j x hx
    · rw [List.getElem?_append_right (by omega)] at hx
      obtain ⟨u, h1, h2, rfl⟩ := hget _ x hx
      exact ⟨u, by rw [← h1]; congr 2; omega, rel_ofVal1 u⟩
/-- A row under a new name; others gone. -/
def Mp.name (M : Mp) (st : List Nat) (x : Nat × Nat) : Mp := ⟨fun st' => if st' = st then some x else M.m st', M.F⟩
theorem Mp.name_self {st : List Nat} {x : Nat × Nat} : (M.name st x).m st = some x := by simp [Mp.name]
theorem Mp.name_ne {st st' : List Nat} {x : Nat × Nat} (h : st' ≠ st) : (M.name st x).m st' = M.m st' := by simp [Mp.name, h]
theorem MR.rename {r3 r' b3 n3 : Nat} {st3 st2 : List Nat} {cs3 ins junk : List V} (h : MR B0 M σ w) (hrow : σ[r3]? = some (.cells st3 cs3)) (hm : M.m st3 = some (b3, n3)) (hcs : cs3 = ins ++ junk) (hj : ∀ x ∈ junk, plainV x = true)
    (hfm : M.m st2 = none) (hfs : ∀ (r : Nat) o, σ[r]? = some o → o.st ≠ some st2) (hn : σ'[r']? = some (.cells st2 ins)) (hold : ∀ (r : Nat) o, r ≠ r' → σ'[r]? = some o → r ≠ r3 ∧ σ[r]? = some o) :
    MR B0 (M.name st2 (b3, n3)) σ' w ∧ Ext B0 M (M.name st2 (b3, n3)) w w := by
  have e : Ext B0 M (M.name st2 (b3, n3)) w w := ⟨fun st x hx => by rw [Mp.name_ne (by intro e; rw [e, hfm] at hx; cases hx)]; exact hx, fun _ h => h, fun _ _ => rfl, Below.refl _ _⟩
  have hst : ∀ (r : Nat) o st, r ≠ r' → σ'[r]? = some o → o.st = some st → (M.name st2 (b3, n3)).m st = M.m st := fun r o st hne ho hs => Mp.name_ne (by rintro rfl; exact hfs r o (hold r o hne ho).2 hs)
  refine ⟨⟨⟨?_, ?_, ?_, h.sep.flt, h.sep.base⟩, ?_⟩, e⟩
  · intro r1 r2 o1 o2 st1 st2' b n n' e1 e2 hne s1 s2 m1 m2
    by_cases c1 : r1 = r'
    · have c2 : r2 ≠ r' := by omega
      rw [c1, hn] at e1; cases e1; cases s1
      rw [Mp.name_self] at m1; cases m1
      rw [hst r2 o2 st2' c2 e2 s2] at m2
      obtain ⟨g1, g2⟩ := hold r2 o2 c2 e2
      exact h.sep.apart r2 r3 o2 _ _ _ _ _ _ g2 hrow g1 s2 rfl m2 hm
    · rw [hst r1 o1 st1 c1 e1 s1] at m1
      obtain ⟨g1, g2⟩ := hold r1 o1 c1 e1
      by_cases c2 : r2 = r'
      · rw [c2, hn] at e2; cases e2; cases s2
        rw [Mp.name_self] at m2; cases m2
        exact h.sep.apart r1 r3 o1 _ _ _ _ _ _ g2 hrow g1 s1 rfl m1 hm
      · rw [hst r2 o2 st2' c2 e2 s2] at m2
        exact h.sep.apart r1 r2 o1 o2 _ _ _ _ _ g2 (hold r2 o2 c2 e2).2 hne s1 s2 m1 m2
  · intro r o st b n e1 s1 m1
    by_cases c1 : r = r'
    · rw [c1, hn] at e1; cases e1; cases s1
      rw [Mp.name_self] at m1; cases m1
      exact h.sep.live r3 _ _ _ _ hrow rfl hm
    · rw [hst r o st c1 e1 s1] at m1
      exact h.sep.live r o st b n (hold r o c1 e1).2 s1 m1
  · intro st b n hx
    by_cases c : st = st2
    · subst c; rw [Mp.name_self] at hx; cases hx; exact h.sep.lt _ _ _ hm
    · rw [Mp.name_ne c] at hx; exact h.sep.lt _ _ _ hx
  · intro r o ho
    by_cases c1 : r = r'
    · rw [c1, hn] at ho; cases ho
      intro b n hx
      rw [Mp.name_self] at hx; cases hx
      obtain ⟨q1, q2, q3, q4⟩ := h.obj r3 _ hrow _ _ hm
      subst hcs
      refine ⟨by rw [List.length_append] at q1; omega, fun x hx => q2 x (List.mem_append_left _ hx), fun j hj' => ?_, fun j x hx => ?_⟩
      · obtain ⟨y, h1, h2, h3, h4⟩ := q3 j hj'
        refine ⟨y, h1, h2, fun hle => ?_, h4⟩
        by_cases hlt : j < (ins ++ junk).length
        · obtain ⟨y', g1, g2⟩ := q4 j _ (List.getElem?_eq_getElem hlt)
          rw [h1] at g1; cases g1
          refine plain_rel (hj _ ?_) g2
          rw [List.getElem_append_right hle]
          exact List.getElem_mem _
        · exact h3 (by omega)
      · obtain ⟨y, g1, g2⟩ := q4 j x (by rw [List.getElem?_append_left (List.getElem?_eq_some_iff.1 hx).1]; exact hx)
        exact ⟨y, g1, g2.mono e⟩
    · exact (h.obj r o (hold r o c1 ho).2).mono e (fun st hs => hst r o st c1 ho hs) (fun _ _ _ _ _ => rfl)
theorem app_ne {q p : List Nat} : 1 :: p ≠ q ++ 0 :: p := by
  intro h
  cases q with
  | nil => simp at h
  | cons a q =>
    have := congrArg List.length h
    simp at this
    omega
theorem row_set {r r1 : Nat} {st st' : List Nat} {cs cs' : List V} {o1 : O} (hrow : σ[r]? = some (.cells st cs)) (h1 : (σ.set r (.cells st' cs'))[r1]? = some o1) : (r1 = r ∧ o1 = .cells st' cs') ∨ (r1 ≠ r ∧ σ[r1]? = some o1) := by
  have hlt := (List.getElem?_eq_some_iff.1 hrow).1
  by_cases e : r1 = r
  · subst e; rw [List.getElem?_set_self hlt] at h1; exact .inl ⟨rfl, by simpa using h1.symm⟩
  · rw [List.getElem?_set_ne (Ne.symm e)] at h1; exact .inr ⟨e, h1⟩
/-- A call of a function that may use what room there is: whatever that is. -/
theorem reveal_call {f z r n m : Nat} {st : List Nat} {cs ins rest : List V} (hcall : CallOk C (runF C)) (hent : ∀ (cargs : Array Value) (w : World), (callFunc f cargs).run C.P w = .ok (.enter f cargs) w)
    (hrow : σ[r]? = some (.cells st cs)) (hl : cs.length = n * z)
    (hrun : ∀ k hs, n ≤ k → hs.length = (k - n) * z → (∀ x ∈ hs, plainV x = true) →
      (∃ junk, runF C f (.sl r st 0 n z (some k) :: rest) (σ.set r (.cells st (cs ++ hs))) (0 :: p) = some (.sl r st 0 m z (some k), σ.set r (.cells st (ins ++ junk))) ∧ ∀ x ∈ junk, plainV x = true) ∨
      (∃ st3, runF C f (.sl r st 0 n z (some k) :: rest) (σ.set r (.cells st (cs ++ hs))) (0 :: p) = some (.sl σ.length st3 0 m z none, σ.set r (.cells st (cs ++ hs)) ++ [.cells st3 ins])))
    (M : Mp) (w : World) (cargs : List Value) (hM : MR B0 M σ w) (hG : GR C M w) (hargs : RelL M w (.sl r st 0 n z none :: rest) cargs) (hfm : ∀ q, M.m (q ++ p) = none) (hfs : ∀ (r : Nat) o st q, σ[r]? = some o → o.st = some st → st ≠ q ++ p) :
    ∃ nx w1 M1, (callFunc f cargs.toArray).run C.P w = .ok nx w1 ∧ Ext B0 M M1 w w1 ∧ MR B0 M1 σ w1 ∧ M1 = M ∧
      ((∃ y, nx = .value y ∧ Rel M1 w1 (.sl r (1 :: p) 0 m z none) y ∧ σ.set r (.cells (1 :: p) ins) = σ) ∨
       (nx = .enter f cargs.toArray ∧ Calls C.P f cargs.toArray w1 fun e w' => ∃ M' y, e = .returned y ∧ Rel M' w' (.sl r (1 :: p) 0 m z none) y ∧ Ext B0 M1 M' w1 w' ∧ MR B0 M' (σ.set r (.cells (1 :: p) ins)) w' ∧ σ.length ≤ (σ.set r (.cells (1 :: p) ins)).length ∧
        (∀ st x, M'.m st = some x → M1.m st = some x ∨ ∃ q, st = q ++ p) ∧
        (∀ (r' : Nat) o st', (σ.set r (.cells (1 :: p) ins))[r']? = some o → o.st = some st' → (∃ o', σ[r']? = some o' ∧ o'.st = some st') ∨ ∃ q, st' = q ++ p))) := by
  have hlt := (List.getElem?_eq_some_iff.1 hrow).1
  cases hargs with
  | cons _ y _ ys hr hrest =>
    obtain ⟨k, hs, b, h1, h2, h3, h4, h5, h6⟩ := reveal hM hrow hl hr
    have hfm0 : ∀ q, M.m (q ++ (0 :: p)) = none := fun q => by have := hfm (q ++ [0]); simpa using this
    have hold1 : ∀ (r1 : Nat) o1, (σ.set r (.cells st (cs ++ hs)))[r1]? = some o1 → ∃ o2, σ[r1]? = some o2 ∧ o2.st = o1.st := by
      intro r1 o1 ho
      rcases row_set hrow ho with ⟨rfl, rfl⟩ | ⟨_, ho⟩
      · exact ⟨_, hrow, rfl⟩
      · exact ⟨o1, ho, rfl⟩
    have hfs0 : ∀ (r1 : Nat) o st' q, (σ.set r (.cells st (cs ++ hs)))[r1]? = some o → o.st = some st' → st' ≠ q ++ (0 :: p) := by
      intro r1 o st' q ho hs e
      obtain ⟨o2, g1, g2⟩ := hold1 r1 o ho
      exact hfs r1 o2 st' (q ++ [0]) g1 (g2.trans hs) (by simpa using e)
    refine ⟨_, w, M, hent _ w, Ext.refl _ _ _, hM, rfl, .inr ⟨rfl, ?_⟩⟩
    -- whatever becomes of it: a row, renamed
    have fin : ∀ (v1 : V) (σ1 : List O), runF C f (.sl r st 0 n z (some k) :: rest) (σ.set r (.cells st (cs ++ hs))) (0 :: p) = some (v1, σ1) →
        (∀ (M' : Mp) (w' : World) (y : Value), Ext B0 M M' w w' → MR B0 M' σ1 w' → Rel M' w' v1 y → ∃ r3 st3 cs3 junk b3 k3, σ1[r3]? = some (.cells st3 cs3) ∧ M'.m st3 = some (b3, k3 * z) ∧ cs3 = ins ++ junk ∧ (∀ x ∈ junk, plainV x = true) ∧ y = .slice (some ⟨b3, 0, none⟩) m k3 ∧ m ≤ k3 ∧
          (∀ (r1 : Nat) o1, r1 ≠ r → σ[r1]? = some o1 → r1 ≠ r3 ∧ σ1[r1]? = some o1)) →
        Calls C.P f (y :: ys).toArray w fun e w' => ∃ M' y, e = .returned y ∧ Rel M' w' (.sl r (1 :: p) 0 m z none) y ∧ Ext B0 M M' w w' ∧ MR B0 M' (σ.set r (.cells (1 :: p) ins)) w' ∧ σ.length ≤ (σ.set r (.cells (1 :: p) ins)).length ∧
        (∀ st x, M'.m st = some x → M.m st = some x ∨ ∃ q, st = q ++ p) ∧
        (∀ (r' : Nat) o st', (σ.set r (.cells (1 :: p) ins))[r']? = some o → o.st = some st' → (∃ o', σ[r']? = some o' ∧ o'.st = some st') ∨ ∃ q, st' = q ++ p) := by
      intro v1 σ1 hr1 hfind
      obtain ⟨nx, w1, M1, hcf, _, _, rfl, hcase⟩ := hcall B0 f _ _ _ v1 σ1 hr1 M w (y :: ys) h4 hG (.cons _ _ _ _ h5 hrest) hfm0 hfs0
      rw [hent] at hcf
      simp only [Result.ok.injEq] at hcf
      obtain ⟨rfl, rfl⟩ := hcf
      rcases hcase with ⟨y, he, _⟩ | ⟨_, hc⟩
      · cases he
      refine hc.mono fun e w' hh => ?_
      obtain ⟨M', y', rfl, hv, hE, hMR, hlen, hnm, hon⟩ := hh
      obtain ⟨r3, st3, cs3, junk, b3, k3, g1, g2, g3, g4, rfl, g5, g6⟩ := hfind M' w' y' hE hMR hv
      have hone : M'.m (1 :: p) = none := by
        cases hx : M'.m (1 :: p) with
        | none => rfl
        | some x =>
          rcases hnm _ x hx with h | ⟨q, h⟩
          · have := hfm [1]; rw [show [1] ++ p = 1 :: p from rfl, h] at this; cases this
          · exact absurd h app_ne
      have hone2 : ∀ (r : Nat) o, σ1[r]? = some o → o.st ≠ some (1 :: p) := by
        intro r1 o ho hs'
        rcases hon r1 o _ ho hs' with ⟨o2, q1, q2⟩ | ⟨q, h⟩
        · obtain ⟨o3, q3, q4⟩ := hold1 r1 o2 q1
          exact hfs r1 o3 (1 :: p) [1] q3 (q4.trans q2) rfl
        · exact absurd h app_ne
      obtain ⟨k1, k2⟩ := hMR.rename (σ' := σ.set r (.cells (1 :: p) ins)) (r' := r) g1 g2 g3 g4 hone hone2 (List.getElem?_set_self hlt) (fun r1 o1 hne ho => by
        rcases row_set hrow ho with ⟨rfl, _⟩ | ⟨_, ho⟩
        · exact absurd rfl hne
        · exact g6 r1 o1 hne ho)
      refine ⟨M'.name (1 :: p) (b3, k3 * z), _, rfl, .sl _ _ _ _ _ _ b3 _ k3 Mp.name_self g5 (fun _ => by omega) (fun c e => by cases e), hE.trans k2, k1, by simp, fun st' x hx => ?_, fun r1 o1 st' ho hs' => ?_⟩
      · by_cases c : st' = 1 :: p
        · exact .inr ⟨[1], c⟩
        · rw [Mp.name_ne c] at hx
          rcases hnm st' x hx with h | ⟨q, h⟩
          · exact .inl h
          · exact .inr ⟨q ++ [0], by simpa using h⟩
      · rcases row_set hrow ho with ⟨rfl, rfl⟩ | ⟨_, ho⟩
        · cases hs'; exact .inr ⟨[1], rfl⟩
        · exact .inl ⟨o1, ho, hs'⟩
    rcases hrun k hs h1 h2 h3 with ⟨junk, hr1, hj⟩ | ⟨st3, hr1⟩
    · refine fin _ _ hr1 fun M' w' y' hE hMR hv => ?_
      obtain ⟨b', n', k', q1, rfl, q2, _, q3⟩ := hv.sl_inv
      have := q3 k rfl
      subst this
      have h6' := hE.m _ _ h6
      rw [h6'] at q1; cases q1
      refine ⟨r, st, _, junk, _, k', List.getElem?_set_self hlt, h6', rfl, hj, rfl, q2, fun r1 o1 hne ho => ⟨hne, ?_⟩⟩
      rw [List.getElem?_set_ne (Ne.symm hne)]; exact ho
    · refine fin _ _ hr1 fun M' w' y' hE hMR hv => ?_
      obtain ⟨b', n', k', q1, rfl, q2, q3, _⟩ := hv.sl_inv
      have := q3 rfl
      rw [Nat.zero_add] at this
      subst this
      refine ⟨σ.length, st3, ins, [], b', k', by rw [List.getElem?_append_right (by simp)]; simp, q1, by simp, (fun _ h => by cases h), rfl, q2, fun r1 o1 hne ho => ?_⟩
      have hlt1 := (List.getElem?_eq_some_iff.1 ho).1
      refine ⟨by omega, ?_⟩
      rw [List.getElem?_append_left (by simpa using hlt1), List.getElem?_set_ne (Ne.symm hne)]; exact ho

/-- A region that draws its order: what holds of what was done already. -/
theorem region_inv (hm : C.P.follows .mixedOrders = true) {call : CallF} (hcall : CallOk C call) {ops : Array Oper} (hlt : ∀ (j : Nat) o e, ops[j]? = some o → e ∈ o.after → Region.binds .any e = true → e.on < j)
    {s0 : St} {a0 : Act} (I : (Nat → Bool) → St → Prop) (hs : SR C B0 p M0 s0 a0 w0) (h0 : I (fun _ => false) s0)
    (hstep : ∀ (D : Nat → Bool) (s : St) (j : Nat) (o : Oper), I D s → ops[j]? = some o → D j = false → (∀ e ∈ o.after, Region.binds .any e = true → D e.on = true) → ∃ s', stepA C call p ops o s = some s' ∧ I (fun i => D i || i == j) s')
    (id : Nat) {Q : Exit → Act → World → Prop} (hQ : ∀ D s M a w, I D s → (∀ i, i < ops.size → D i = true) → SR C B0 p M s a w → Nx B0 p M0 M s0 s w0 w → a.defers = a0.defers → Q .normal a w) : (Code.region id ops true).wp C.P Q a0 w0 := by
  refine wp_region_any hm ?_
  have noReady : ∀ (listed : Array Bool), listed.size = ops.size → Region.ready .any ops listed = [] → ∀ i, i < ops.size → listed.getD i false = true := by
    intro listed hsz hr i
    induction i using Nat.strongRecOn with
    | _ i ih =>
      intro hi
      cases hl : listed.getD i false with
      | true => rfl
      | false =>
        have : i ∈ Region.ready .any ops listed := mem_ready.2 ⟨by rw [getD_size (by omega)]; exact hl, ops[i], by simp [hi], fun e he hb => by
          have hlt := hlt i ops[i] e (by simp [hi]) he hb
          exact ih e.on hlt (by omega)⟩
        rw [hr] at this; simp at this
  have key : ∀ (fuel : Nat) (listed : Array Bool) (s : St) (a : Act) (M : Mp) (w : World), listed.size = ops.size → left listed ≤ fuel → I (fun i => listed.getD i false) s → SR C B0 p M s a w → Nx B0 p M0 M s0 s w0 w → a.defers = a0.defers → wpAny C.P .any ops Q fuel listed a w := by
    intro fuel
    induction fuel with
    | zero =>
      intro listed s a M w hsz hleft hi hs hn hL
      have hall : ∀ i, i < ops.size → listed.getD i false = true := by
        intro i hlt
        have h0 : left listed = 0 := by omega
        rw [left, List.countP_eq_zero] at h0
        have := h0 (listed[i]'(by omega)) (by simp)
        simp only [Bool.not_eq_true, Bool.not_eq_false'] at this
        rw [Array.getD_eq_getD_getElem?]
        simp [hsz, hlt, this]
      refine ⟨?_, hQ _ s M a w hi hall hs hn hL⟩
      rw [List.eq_nil_iff_forall_not_mem]
      intro j hj
      obtain ⟨h1, o, h2, _⟩ := mem_ready.1 hj
      have hjn := (Array.getElem?_eq_some_iff.1 h2).1
      rw [getD_size (by omega), hall j hjn] at h1
      cases h1
    | succ fuel ih =>
      intro listed s a M w hsz hleft hi hs hn hL
      refine ⟨fun hr => hQ _ s M a w hi (noReady listed hsz hr) hs hn hL, fun j hj => ?_⟩
      obtain ⟨h1, o, h2, h3⟩ := mem_ready.1 hj
      have hjn := (Array.getElem?_eq_some_iff.1 h2).1
      have hnot : listed.getD j false = false := by rw [← getD_size (by omega), h1]
      obtain ⟨t', hst, hinv⟩ := hstep _ s j o hi h2 hnot h3
      have hfun : (fun i => (listed.setIfInBounds j true).getD i false) = fun i => listed.getD i false || i == j := by
        funext i
        rw [Bool.eq_iff_iff, getD_set (by omega)]
        simp
      have hwp := stepA_sound (Q := Q) hcall hs ops o hst (K := wpAny C.P .any ops Q fuel (listed.setIfInBounds j true)) (fun M' a' w' hs' hn' hd' => by
        refine ih _ t' a' M' w' (by simp [hsz]) ?_ (by rw [hfun]; exact hinv) hs' (hn.trans hn') (hd'.trans hL)
        have := left_set (listed := listed) (j := j) (by omega) h1
        omega)
      unfold wpOp
      rw [h2]
      simp only
      split
      · rename_i hw; rw [if_pos hw] at hwp; exact .inl hwp
      · rename_i hw; rw [if_neg hw] at hwp; exact hwp
  have hE : Ext B0 M0 M0 w0 { w0 with drawn := w0.drawn + 1 } := ⟨fun _ _ h => h, fun _ h => h, fun _ _ => rfl, below_drew _ _⟩
  have hfalse : (fun i => (Array.replicate ops.size false).getD i false) = fun _ => false := by
    funext i
    simp [Array.getD_eq_getD_getElem?, Array.getElem?_replicate]
    split <;> simp
  refine key ops.size _ s0 a0 M0 _ (by simp) (by simpa [left] using List.countP_le_length (l := List.replicate ops.size false) (p := fun b => !b)) (by rw [hfalse]; exact h0) ?_ ?_ rfl
  · refine ⟨⟨⟨hs.mem.sep.apart, hs.mem.sep.live, hs.mem.sep.lt, hs.mem.sep.flt, hs.mem.sep.base⟩, fun r o ho => ObjRel.heap (w := w0) (w' := w0.drew) rfl (hs.mem.obj r o ho)⟩, hs.fr.mono hE, hs.new, hs.gl.mono hE⟩
  · exact ⟨hE, fun _ _ h => .inl h, fun r o st h h' => .inl ⟨o, h, h'⟩, Nat.le_refl _, Nat.le_refl _⟩

/-- What a region leaves, gathered: one new row, under a new name. -/
theorem SR.gather {s0 s s' : St} {a : Act} {L : List O} {r1 m z c1 : Nat} {st1 : List Nat} {ins : List V} (h : SR C B0 p M s a w) (hn : Nx B0 p M0 M s0 s w0 w) (hσ : s.σ = s0.σ ++ L) (hr : s0.σ.length ≤ r1) (hrow : s.σ[r1]? = some (.cells st1 ins))
    {d1 : Nat} (hd1 : s.t.get d1 = some (.sl r1 st1 0 m z none)) (hc : s.c ≤ c1)
    (hnt : s'.nt = s.nt) (hσ' : s'.σ = s0.σ ++ [.cells (c1 :: p) ins]) (hc' : s'.c = c1 + 1)
    (ht : ∀ d, s'.t.get d = s.t.get d ∨ s'.t.get d = some .bad ∨ (s'.t.get d = some (.sl s0.σ.length (c1 :: p) 0 m z none) ∧ s.t.get d = some (.sl r1 st1 0 m z none))) :
    ∃ M', SR C B0 p M' s' a w ∧ Nx B0 p M0 M' s0 s' w0 w := by
  have hv := h.fr.tmp d1
  rw [hd1] at hv
  obtain ⟨b, nb, k, hm, hy, hk, hfull, _⟩ := hv.sl_inv
  have hmine : Mine p c1 (c1 :: p) := ⟨[], rfl⟩
  have hfm := h.new.m c1 _ hc hmine
  obtain ⟨g1, g2⟩ := h.mem.rename (σ' := s'.σ) (r' := s0.σ.length) (st2 := c1 :: p) (ins := ins) (junk := []) hrow hm (by simp) (fun _ h => by cases h) hfm (fun r o ho hs => h.new.s r o _ c1 ho hs hc hmine)
    (by rw [hσ', List.getElem?_append_right (Nat.le_refl _)]; simp) (fun r o hne ho => by
      rw [hσ'] at ho
      rcases snoc_get ho with ⟨hlt, ho⟩ | ⟨e, _⟩
      · exact ⟨by omega, by rw [hσ, List.getElem?_append_left hlt]; exact ho⟩
      · exact absurd e hne)
  have hnames : ∀ st x, (M.name (c1 :: p) (b, nb)).m st = some x → M.m st = some x ∨ st = c1 :: p := fun st x hx => by
    by_cases c : st = c1 :: p
    · exact .inr c
    · rw [Mp.name_ne c] at hx; exact .inl hx
  refine ⟨M.name (c1 :: p) (b, nb), ⟨g1, ⟨by rw [hnt]; exact h.fr.size, fun d => ?_⟩, ⟨fun k' st hle hmi => ?_, fun r o st k' ho hs hle hmi => ?_⟩, h.gl.mono g2⟩, ⟨hn.ext.trans g2, fun st x hx => ?_, fun r o st ho hs => ?_, by rw [hσ']; simp, by rw [hc']; exact Nat.le_trans hn.cc (by omega)⟩⟩
  · rcases ht d with e | e | ⟨e, e2⟩
    · rw [e]; exact (h.fr.tmp d).mono g2
    · rw [e]; exact .bad _
    · have hvd := h.fr.tmp d
      rw [e2] at hvd
      rw [e]
      obtain ⟨b', nb', k', hm', hy', hk', hfull', _⟩ := hvd.sl_inv
      rw [hm] at hm'; cases hm'
      rw [hy']
      exact .sl _ _ _ _ _ _ b nb k' Mp.name_self hk' hfull' (fun c e => by cases e)
  · rw [hc'] at hle
    rw [Mp.name_ne (by rintro rfl; have := mine_inj hmi hmine; omega)]
    exact h.new.m k' st (by omega) hmi
  · rw [hc'] at hle
    rw [hσ'] at ho
    rcases snoc_get ho with ⟨hlt, ho⟩ | ⟨_, rfl⟩
    · exact h.new.s r o st k' (by rw [hσ, List.getElem?_append_left hlt]; exact ho) hs (by omega) hmi
    · cases hs; have := mine_inj hmi hmine; omega
  · rcases hnames st x hx with hx | rfl
    · exact hn.names st x hx
    · exact .inr ⟨c1, Nat.le_trans hn.cc hc, hmine⟩
  · rw [hσ'] at ho
    rcases snoc_get ho with ⟨hlt, ho⟩ | ⟨_, rfl⟩
    · exact .inl ⟨o, ho, hs⟩
    · cases hs; exact .inr ⟨c1, Nat.le_trans hn.cc hc, hmine⟩
theorem callOk_F (h : ∀ k, CallOk C (runA C k)) : CallOk C (runF C) := fun B0 f args σ p v σ' hr => by
  obtain ⟨k, hk⟩ := runF_some hr
  exact h k B0 f args σ p v σ' hk
end
end Go.Am
