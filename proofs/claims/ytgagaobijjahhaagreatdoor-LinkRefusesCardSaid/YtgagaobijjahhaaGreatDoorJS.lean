/- Parts of one machine and of the walks over it, joined: AmGuard AmAgg. -/
import Derived.Test.YtgagaobijjahhaaGreatDoorAmEq
/- The abstract machine: guards that stay open; regions that draw their order, by what they looked at. -/
namespace Go.Am
open Go
set_option linter.unusedVariables false
set_option linter.unusedSimpArgs false

def vg (g : Bool) (v : V) : V := if g then v else .un
def cg (g : Bool) (a b : Nat) : Nat := if g then a else b
def gopt (g : Bool) (σ : List O) (c : Nat) (o : Option (V × List O × Nat)) : Option (V × List O × Nat) := if g then o else some (.un, σ, c)
section
variable {g x y : Bool} {σ : List O} {c c' : Nat} {v a b : V}
@[congr] theorem gopt_congr {o o' : Option (V × List O × Nat)} (h : g = true → o = o') : gopt g σ c o = gopt g σ c o' := by
  cases g
  · rfl
  · simp only [gopt, if_true]; exact h rfl
theorem gopt_true {o : Option (V × List O × Nat)} : gopt true σ c o = o := rfl
theorem gopt_false {o : Option (V × List O × Nat)} : gopt false σ c o = some (.un, σ, c) := rfl
theorem gopt_some : gopt g σ c (some (v, σ, c')) = some (vg g v, σ, cg g c' c) := by cases g <;> rfl
theorem vg_true : vg true v = v := rfl
theorem vg_false : vg false v = .un := rfl
theorem cg_same : cg g c c = c := by cases g <;> rfl
theorem cg_true : cg true c c' = c := rfl
theorem cg_false : cg false c c' = c' := rfl
def pk (x : Bool) (a b : V) : V := if x then a else b
theorem pk_true : pk true a b = a := rfl
theorem pk_false : pk false a b = b := rfl
theorem pk_same : pk x a a = a := by cases x <;> rfl
theorem pk_and : pk x (vg x (.b y)) (.b false) = .b (x && y) := by cases x <;> rfl
theorem pk_or : pk x (.b true) (vg (!x) (.b y)) = .b (x || y) := by cases x <;> rfl
theorem pk_andn : pk (!x) (vg (!x) (.b y)) (.b false) = .b (!x && y) := by cases x <;> rfl
theorem pk_orn : pk (!x) (.b true) (vg x (.b y)) = .b (!x || y) := by cases x <;> rfl
theorem pk_or2 {p : Prop} [Decidable p] : pk (decide (¬ p)) (.b true) (vg (decide p) (.b y)) = .b (!decide p || y) := by by_cases h : p <;> simp [pk, vg, h]
theorem pk_or3 {p : Prop} [Decidable p] : pk (decide p) (.b true) (vg (decide (¬ p)) (.b y)) = .b (decide p || y) := by by_cases h : p <;> simp [pk, vg, h]
end

section
variable {C : Cfg} {g : Nat} {p : List Nat} {s : St} {Q : Ex → St → Prop} {K : St → Prop} {ops : Array Oper}
def GStep (C : Cfg) (p : List Nat) (ops : Array Oper) (b : Bool) (o : Oper) (s : St) (K : St → Prop) (_ : Tag ops := .mk) (_ : Tag o := .mk) (_ : Tag K := .mk) : Prop := if b = true then StepQ C p ops o s K else K (s.put o.dst .un)
def GOp (C : Cfg) (p : List Nat) (b : Bool) (d : Option Nat) (op : Op) (s : St) (K : St → Prop) (_ : Tag op := .mk) (_ : Tag K := .mk) : Prop := OptQ (gopt b s.σ s.c (opA C p (s.ev C) s.σ s.c op)) fun r => K ((⟨s.t, s.nt, r.2.1, r.2.2⟩ : St).put d r.1)
theorem Step_guard2 {d : Option Nat} {op : Op} {ty : TypeId} {pos : String} {af : Array Edge} {j : Nat} {wd : Bool} : StepQ C p ops ⟨d, op, ty, pos, af, some (j, wd)⟩ s K =
    OptQ (guardA ops s (some (j, wd))) fun b => GStep C p ops b ⟨d, op, ty, pos, af, none⟩ s K := by
  rw [Step_guard]; rfl
theorem GStep_op {b : Bool} {d : Option Nat} {op : Op} {ty : TypeId} {pos : String} {af : Array Edge} (h : isV op = false) : GStep C p ops b ⟨d, op, ty, pos, af, none⟩ s K = GOp C p b d op s K := by
  cases b
  · simp only [GStep, GOp, gopt, Bool.false_eq_true, if_false, OptQ_some]
  · simp only [GStep, GOp, gopt, if_true, Step_op h]; rfl
theorem GStep_call {b : Bool} {d : Option Nat} {f : Operand} {args : Array Operand} {ts : Array TypeId} {ty : TypeId} {pos : String} {af : Array Edge} :
    GStep C p ops b ⟨d, .call { callee := .value f, args := args, argTypes := ts }, ty, pos, af, none⟩ s K =
    OptQ (gopt b s.σ s.c ((callA (runF C) p (s.ev C f) (args.toList.map (s.ev C)) s.σ s.c).map fun r => (r.1, r.2, s.c + 1))) fun r => K ((⟨s.t, s.nt, r.2.1, r.2.2⟩ : St).put d r.1) := by
  cases b
  · simp only [GStep, gopt, Bool.false_eq_true, if_false, OptQ_some]
  · simp only [GStep, gopt, if_true, Step_call, SCall, OptQ_map]
theorem callA_fn {f : Nat} {args : List V} {σ : List O} {c : Nat} : callA (runF C) p (.fn f [] []) args σ c = runF C f args σ (c :: p) := by simp [callA]
def PkQ (v a b : V) (K : V → Prop) (_ : Tag K := .mk) : Prop := match v with | .b x => K (pk x a b) | _ => False
theorem PkQ_b {x : Bool} {a b : V} {K : V → Prop} : PkQ (.b x) a b K = K (pk x a b) := rfl
theorem SOp_pick {d : Option Nat} {k a b : Operand} : SOp C p d (.pick k a b) s K = PkQ (s.ev C k) (s.ev C a) (s.ev C b) fun v => K ((⟨s.t, s.nt, s.σ, s.c⟩ : St).put d v) := by
  cases h : s.ev C k <;> simp only [SOp, opA, h, PkQ, OptQ_some, OptQ_none, pk]

/-! Regions that draw their order. -/
mutual
theorem V.eqb_refl : ∀ v : V, V.eqb v v = true
  | .b x => by simp [V.eqb]
  | .i k n => by simp [V.eqb]
  | .s x => by simp [V.eqb]
  | .nilp | .nils | .nilf | .nili | .nilm | .bad => by simp [V.eqb]
  | .ptr r st o => by simp [V.eqb]
  | .iptr cs => by simp only [V.eqb]; exact V.eqbL_refl cs
  | .sl r st o n es c => by simp [V.eqb]
  | .arr cs n c => by simp only [V.eqb, V.eqbL_refl cs]; simp
  | .agg cs => by simp only [V.eqb]; exact V.eqbL_refl cs
  | .fn f u1 u2 => by simp only [V.eqb, V.eqbL_refl u1, V.eqbL_refl u2]; simp
  | .map r st => by simp [V.eqb]
  | .iface t v => by simp only [V.eqb, V.eqb_refl v]; simp
  | .tup u => by simp only [V.eqb]; exact V.eqbL_refl u
theorem V.eqbL_refl : ∀ l : List V, V.eqbL l l = true
  | [] => by simp [V.eqbL]
  | v :: l => by simp only [V.eqbL, V.eqb_refl v, V.eqbL_refl l]; simp
end
theorem kvEqb_refl : ∀ l : List (V × V), kvEqb l l = true
  | [] => rfl
  | (k, v) :: l => by simp only [kvEqb, V.eqb_refl, kvEqb_refl l]; rfl
theorem O.eqb_refl (o : Option O) : O.eqb o o = true := by
  cases o with
  | none => rfl
  | some o => cases o <;> simp [O.eqb, V.eqbL_refl, kvEqb_refl]
def TrQ (C : Cfg) (p : List Nat) (ops : Array Oper) (l : List Oper) (s : St) (tr : List (List O × List Nat)) (K : List (List O × List Nat) → St → Prop) (_ : Tag ops := .mk) (_ : Tag l := .mk) (_ : Tag K := .mk) : Prop :=
  OptQ (traceA C (runF C) p ops l s) fun r => K (tr ++ r.1) r.2
theorem TrQ_nil {tr : List (List O × List Nat)} {K : List (List O × List Nat) → St → Prop} : TrQ C p ops [] s tr K = K (tr ++ [(s.σ, [])]) s := by simp [TrQ, traceA, OptQ_some]
theorem TrQ_cons {tr : List (List O × List Nat)} {K : List (List O × List Nat) → St → Prop} (o : Oper) (l : List Oper) : TrQ C p ops (o :: l) s tr K = StepQ C p ops o s fun s' => TrQ C p ops l s' (tr ++ [(s.σ, accs (s.ev C) o.op)]) K := by
  have : ∀ {α : Type} (o : Option α) (K1 K2 : α → Prop), (∀ s', K1 s' = K2 s') → OptQ o K1 = OptQ o K2 := fun o K1 K2 h => by rw [funext h]
  simp only [TrQ, traceA, OptQ_bind, StepQ]
  refine this _ _ _ fun s' => ?_
  rw [OptQ_map]
  refine this _ _ _ fun r => ?_
  rw [List.append_assoc]; rfl
theorem Wp_drawT (id : Nat) (l : List Oper) {ps : List (Nat × Nat)} (h : C.cls g id = ps) (hp : ps ≠ []) (hh : C.hook g id = none := by rfl) (hx : C.pre g id = none := by rfl) : Wq C g p (.region id l.toArray true) s Q = TrQ C p l.toArray l s [] fun tr s' => ps.all (okPair tr) = true ∧ Q .normal s' := by
  have e1 : opsD C (runF C) p ps l.toArray s = (traceA C (runF C) p l.toArray l s).bind fun (l, e) => if ps.all (okPair l) then some e else none := by
    unfold opsD
    split
    · exact absurd rfl hp
    · rfl
  simp only [Wq, Wp, codeF, if_true, drawA, drawN, hh, hx, h, e1, Option.map_eq_some_iff, Option.bind_eq_some_iff, Prod.mk.injEq, TrQ, OptQ, List.nil_append]
  refine propext ⟨fun ⟨e, s', ⟨a, ⟨tr, h1, h2⟩, h3, h4⟩, h5⟩ => ?_, fun ⟨tr, h1, h2, h3⟩ => ⟨.normal, tr.2, ⟨tr.2, ⟨tr, h1, by simp [h2]⟩, rfl, rfl⟩, h3⟩⟩
  obtain ⟨tr, e'⟩ := tr
  simp only at h2
  split at h2
  · rename_i hh
    cases h2
    subst h4; subst h3
    exact ⟨_, h1, hh, h5⟩
  · cases h2
end
end Go.Am

/- The abstract machine: values of many cells, for the simplifier. -/
namespace Go.Am
open Go
set_option linter.unusedVariables false
set_option linter.unusedSimpArgs false
section
variable {C : Cfg} {t e : TypeId} {σ L : List O} {r o n off k : Nat} {st : List Nat} {cs us zs : List V} {v : V} {rest : List (Nat × Nat × V)} {pl : List (Nat × Nat)} {parts : List (Nat × V)} {x y : O}
theorem build_struct (hs : C.shape t = .other) (hp : C.places t = some pl) (hz : C.zero t = some (.agg zs)) : buildA C t parts = (partsAt (fun i => pl[i]?) parts).bind fun l => (fillA zs l).map V.agg := by
  simp only [buildA, hz, hs, hp, Option.bind_some]; rfl
theorem build_array (hs : C.shape t = .array n e) (he : C.size e = some k) (hz : C.zero t = some (.agg zs)) : buildA C t parts = (partsAt (fun i => some (i * k, k)) parts).bind fun l => (fillA zs l).map V.agg := by
  simp only [buildA, hz, hs, he, Option.bind_some]; rfl
theorem partsAt_nil {f : Nat → Option (Nat × Nat)} : partsAt f [] = some [] := rfl
theorem partsAt_cons {f : Nat → Option (Nat × Nat)} {i : Nat} {l : List (Nat × V)} : partsAt f ((i, v) :: l) = (f i).bind fun a => (partsAt f l).map fun l => (a.1, a.2, v) :: l := rfl
theorem fill_nil : fillA cs [] = some cs := rfl
theorem cells_one (h : v.one = true) : v.cells = [v] := by cases v <;> simp [V.one] at h <;> rfl
theorem cells_agg : (V.agg cs).cells = cs := rfl
theorem fill_one (h : v.one = true) (h2 : off < cs.length) : fillA cs ((off, 1, v) :: rest) = fillA (cs.set off v) rest := by
  rw [fillA, cells_one h]
  rw [if_pos ⟨rfl, by omega, by simp [h]⟩, splice_one h2]
theorem fill_agg (hl : us.length = n) (h2 : off + n ≤ cs.length) (h3 : us.all V.one = true) : fillA cs ((off, n, .agg us) :: rest) = fillA (splice cs off us) rest := by
  rw [fillA, cells_agg, if_pos ⟨hl, h2, h3⟩]
theorem splice_all (h : us.length = cs.length) : splice cs 0 us = us := by
  simp [splice, h]
theorem take_all (h : cs.length = n) : take? cs 0 n = some cs := by
  subst h; simp [take?]
theorem load_agg (ha : C.isAgg t = some true) (hz : C.size t = some n) (hn : 0 < n) : loadA C t σ (.ptr r st o) = (rowAt σ r st).bind fun cs => (take? cs o n).map V.agg := by
  simp only [loadA, cellsAt, ha, hz, Option.bind_some, if_true]
  cases rowAt σ r st with
  | none => rfl
  | some cs =>
    simp only [Option.map_some, Option.bind_some, take?, List.length_drop, Nat.zero_add, List.drop_zero]
    by_cases h : o + n ≤ cs.length
    · rw [if_pos (by omega), if_pos h]
    · rw [if_neg (by omega), if_neg h]
theorem store_agg (hz : C.size t = some n) (hl : us.length = n) (ho : us.all V.one = true) : storeA C t σ (.ptr r st o) (.agg us) = (rowAt σ r st).bind fun cs => if o + n ≤ cs.length then some (σ.set r (.cells st (splice cs o us))) else none := by
  simp only [storeA, hz, cells_agg, Option.bind_some, hl, if_true, ho]
theorem one_nilp : (V.nilp).one = true := rfl
theorem one_nils : (V.nils).one = true := rfl
theorem one_nilf : (V.nilf).one = true := rfl
theorem one_nili : (V.nili).one = true := rfl
theorem one_nilm : (V.nilm).one = true := rfl
theorem one_iptr : (V.iptr cs).one = true := rfl
theorem one_fn {f : Nat} {a b : List V} : (V.fn f a b).one = true := rfl
theorem one_iface {f : Nat} : (V.iface f v).one = true := rfl
theorem take_app2 : (σ.set r x ++ L).take σ.length = σ.set r x := by rw [← List.length_set (as := σ) (i := r) (a := x)]; exact List.take_left
theorem take_set2 : (σ.set r x).take σ.length = σ.set r x := List.take_of_length_le (by simp)
theorem rowAt_app2 (st' : List Nat) : rowAt (σ.set r x ++ L) σ.length st' = rowAt L 0 st' := by rw [← List.length_set (as := σ) (i := r) (a := x)]; exact rowAt_app0
theorem len_str (hs : C.shape t = .string) {b : ByteArray} : lenA C t σ (.s b) = some (.i .i64 b.size) := by simp [lenA, hs]
theorem get_app0 : (σ ++ L)[σ.length]? = L[0]? := by rw [List.getElem?_append_right (Nat.le_refl _)]; simp
theorem get_app : (σ ++ L)[σ.length + k]? = L[k]? := by rw [List.getElem?_append_right (by omega)]; simp
theorem all_tt {l : List Nat} : (l.all fun _ => true) = true := by simp
theorem freezeC_agg {base : Nat} : freezeC base σ (.agg cs) = .agg (cs.map (freeze1 base σ 4)) := rfl
theorem freezeC_ptr {base : Nat} : freezeC base σ (.ptr r st o) = .ptr r st o := rfl
theorem freezeC_nilp {base : Nat} : freezeC base σ .nilp = .nilp := rfl
theorem freezeC_nili {base : Nat} : freezeC base σ .nili = .nili := rfl
theorem frz_agg {base : Nat} : freeze base σ (.agg cs) = .agg (cs.map (freeze1 base σ 4)) := rfl
theorem frz1_s {base d : Nat} {b : ByteArray} : freeze1 base σ d (.s b) = .s b := by cases d <;> rfl
theorem frz1_nils {base d : Nat} : freeze1 base σ d .nils = .nils := by cases d <;> rfl
theorem frz1_nilp {base d : Nat} : freeze1 base σ d .nilp = .nilp := by cases d <;> rfl
theorem frz1_nilf {base d : Nat} : freeze1 base σ d .nilf = .nilf := by cases d <;> rfl
theorem frz1_nili {base d : Nat} : freeze1 base σ d .nili = .nili := by cases d <;> rfl
theorem frz1_nilm {base d : Nat} : freeze1 base σ d .nilm = .nilm := by cases d <;> rfl
theorem frz1_arr {base d n : Nat} {b : Bool} : freeze1 base σ d (.arr cs n b) = .arr cs n b := by cases d <;> rfl
theorem frz1_ptr {base d : Nat} : freeze1 base σ d (.ptr r st o) = .ptr r st o := by cases d <;> rfl
end
end Go.Am
