/- The abstract machine: guards that stay open; regions that draw their order, by what they looked at. -/
import Derived.Test.YtibhpbpjdgodnaaGreatDoorAmEq
namespace Go.Am
open Go
set_option linter.unusedVariables false
set_option linter.unusedSimpArgs false

/-- What is there where a guard lets it. -/
def vg (g : Bool) (v : V) : V := if g then v else .un
def cg (g : Bool) (a b : Nat) : Nat := if g then a else b
def gopt (g : Bool) (σ : List O) (c : Nat) (o : Option (V × List O × Nat)) : Option (V × List O × Nat) := if g then o else some (.un, σ, c)
section
variable {g x y : Bool} {σ : List O} {c c' : Nat} {v a b : V}
@[congr] theorem gopt_congr {o o' : Option (V × List O × Nat)} (h : g = true → o = o') : gopt g σ c o = gopt g σ c o' := by
  cases g
  · rfl
  · simp only [gopt, if_true]; exact h rfl
theorem gopt_true {o : Option (V × List O × Nat)} : gopt true σ c o = o := rfl
theorem gopt_false {o : Option (V × List O × Nat)} : gopt false σ c o = some (.un, σ, c) := rfl
theorem gopt_some : gopt g σ c (some (v, σ, c')) = some (vg g v, σ, cg g c' c) := by cases g <;> rfl
theorem vg_true : vg true v = v := rfl
theorem vg_false : vg false v = .un := rfl
theorem cg_same : cg g c c = c := by cases g <;> rfl
theorem cg_true : cg true c c' = c := rfl
theorem cg_false : cg false c c' = c' := rfl
def pk (x : Bool) (a b : V) : V := if x then a else b
theorem pk_true : pk true a b = a := rfl
theorem pk_false : pk false a b = b := rfl
theorem pk_same : pk x a a = a := by cases x <;> rfl
theorem pk_and : pk x (vg x (.b y)) (.b false) = .b (x && y) := by cases x <;> rfl
theorem pk_or : pk x (.b true) (vg (!x) (.b y)) = .b (x || y) := by cases x <;> rfl
theorem pk_andn : pk (!x) (vg (!x) (.b y)) (.b false) = .b (!x && y) := by cases x <;> rfl
theorem pk_orn : pk (!x) (.b true) (vg x (.b y)) = .b (!x || y) := by cases x <;> rfl
theorem pk_or2 {p : Prop} [Decidable p] : pk (decide (¬ p)) (.b true) (vg (decide p) (.b y)) = .b (!decide p || y) := by by_cases h : p <;> simp [pk, vg, h]
theorem pk_or3 {p : Prop} [Decidable p] : pk (decide p) (.b true) (vg (decide (¬ p)) (.b y)) = .b (decide p || y) := by by_cases h : p <;> simp [pk, vg, h]
end

section
variable {C : Cfg} {g : Nat} {p : List Nat} {s : St} {Q : Ex → St → Prop} {K : St → Prop} {ops : Array Oper}
def GStep (C : Cfg) (p : List Nat) (ops : Array Oper) (b : Bool) (o : Oper) (s : St) (K : St → Prop) (_ : Tag ops := .mk) (_ : Tag o := .mk) (_ : Tag K := .mk) : Prop := if b = true then StepQ C p ops o s K else K (s.put o.dst .un)
def GOp (C : Cfg) (p : List Nat) (b : Bool) (d : Option Nat) (op : Op) (s : St) (K : St → Prop) (_ : Tag op := .mk) (_ : Tag K := .mk) : Prop := OptQ (gopt b s.σ s.c (opA C p (s.ev C) s.σ s.c op)) fun r => K ((⟨s.t, s.nt, r.2.1, r.2.2⟩ : St).put d r.1)
theorem Step_guard2 {d : Option Nat} {op : Op} {ty : TypeId} {pos : String} {af : Array Edge} {j : Nat} {wd : Bool} : StepQ C p ops ⟨d, op, ty, pos, af, some (j, wd)⟩ s K =
    OptQ (guardA ops s (some (j, wd))) fun b => GStep C p ops b ⟨d, op, ty, pos, af, none⟩ s K := by
  rw [Step_guard]; rfl
theorem GStep_op {b : Bool} {d : Option Nat} {op : Op} {ty : TypeId} {pos : String} {af : Array Edge} (h : isV op = false) : GStep C p ops b ⟨d, op, ty, pos, af, none⟩ s K = GOp C p b d op s K := by
  cases b
  · simp only [GStep, GOp, gopt, Bool.false_eq_true, if_false, OptQ_some]
  · simp only [GStep, GOp, gopt, if_true, Step_op h]; rfl
theorem GStep_call {b : Bool} {d : Option Nat} {f : Operand} {args : Array Operand} {ts : Array TypeId} {ty : TypeId} {pos : String} {af : Array Edge} :
    GStep C p ops b ⟨d, .call { callee := .value f, args := args, argTypes := ts }, ty, pos, af, none⟩ s K =
    OptQ (gopt b s.σ s.c ((callA (runF C) p (s.ev C f) (args.toList.map (s.ev C)) s.σ s.c).map fun r => (r.1, r.2, s.c + 1))) fun r => K ((⟨s.t, s.nt, r.2.1, r.2.2⟩ : St).put d r.1) := by
  cases b
  · simp only [GStep, gopt, Bool.false_eq_true, if_false, OptQ_some]
  · simp only [GStep, gopt, if_true, Step_call, SCall, OptQ_map]
theorem callA_fn {f : Nat} {args : List V} {σ : List O} {c : Nat} : callA (runF C) p (.fn f [] []) args σ c = runF C f args σ (c :: p) := by simp [callA]
def PkQ (v a b : V) (K : V → Prop) (_ : Tag K := .mk) : Prop := match v with | .b x => K (pk x a b) | _ => False
theorem PkQ_b {x : Bool} {a b : V} {K : V → Prop} : PkQ (.b x) a b K = K (pk x a b) := rfl
theorem SOp_pick {d : Option Nat} {k a b : Operand} : SOp C p d (.pick k a b) s K = PkQ (s.ev C k) (s.ev C a) (s.ev C b) fun v => K ((⟨s.t, s.nt, s.σ, s.c⟩ : St).put d v) := by
  cases h : s.ev C k <;> simp only [SOp, opA, h, PkQ, OptQ_some, OptQ_none, pk]

/-! Regions that draw their order. -/
mutual
theorem V.eqb_refl : ∀ v : V, V.eqb v v = true
  | .b x => by simp [V.eqb]
  | .i k n => by simp [V.eqb]
  | .s x => by simp [V.eqb]
  | .nilp | .nils | .nilf | .nili | .nilm | .bad => by simp [V.eqb]
  | .ptr r st o => by simp [V.eqb]
  | .iptr cs => by simp only [V.eqb]; exact V.eqbL_refl cs
  | .sl r st o n es c => by simp [V.eqb]
  | .arr cs n c => by simp only [V.eqb, V.eqbL_refl cs]; simp
  | .agg cs => by simp only [V.eqb]; exact V.eqbL_refl cs
  | .fn f u1 u2 => by simp only [V.eqb, V.eqbL_refl u1, V.eqbL_refl u2]; simp
  | .map r st => by simp [V.eqb]
  | .iface t v => by simp only [V.eqb, V.eqb_refl v]; simp
  | .tup u => by simp only [V.eqb]; exact V.eqbL_refl u
theorem V.eqbL_refl : ∀ l : List V, V.eqbL l l = true
  | [] => by simp [V.eqbL]
  | v :: l => by simp only [V.eqbL, V.eqb_refl v, V.eqbL_refl l]; simp
end
theorem kvEqb_refl : ∀ l : List (V × V), kvEqb l l = true
  | [] => rfl
  | (k, v) :: l => by simp only [kvEqb, V.eqb_refl, kvEqb_refl l]; rfl
theorem O.eqb_refl (o : Option O) : O.eqb o o = true := by
  cases o with
  | none => rfl
  | some o => cases o <;> simp [O.eqb, V.eqbL_refl, kvEqb_refl]
def TrQ (C : Cfg) (p : List Nat) (ops : Array Oper) (l : List Oper) (s : St) (tr : List (List O × List Nat)) (K : List (List O × List Nat) → St → Prop) (_ : Tag ops := .mk) (_ : Tag l := .mk) (_ : Tag K := .mk) : Prop :=
  OptQ (traceA C (runF C) p ops l s) fun r => K (tr ++ r.1) r.2
theorem TrQ_nil {tr : List (List O × List Nat)} {K : List (List O × List Nat) → St → Prop} : TrQ C p ops [] s tr K = K (tr ++ [(s.σ, [])]) s := by simp [TrQ, traceA, OptQ_some]
theorem TrQ_cons {tr : List (List O × List Nat)} {K : List (List O × List Nat) → St → Prop} (o : Oper) (l : List Oper) : TrQ C p ops (o :: l) s tr K = StepQ C p ops o s fun s' => TrQ C p ops l s' (tr ++ [(s.σ, accs (s.ev C) o.op)]) K := by
  have : ∀ {α : Type} (o : Option α) (K1 K2 : α → Prop), (∀ s', K1 s' = K2 s') → OptQ o K1 = OptQ o K2 := fun o K1 K2 h => by rw [funext h]
  simp only [TrQ, traceA, OptQ_bind, StepQ]
  refine this _ _ _ fun s' => ?_
  rw [OptQ_map]
  refine this _ _ _ fun r => ?_
  rw [List.append_assoc]; rfl
theorem Wp_drawT (id : Nat) (l : List Oper) {ps : List (Nat × Nat)} (h : C.cls g id = ps) (hp : ps ≠ []) (hh : C.hook g id = none := by rfl) (hx : C.pre g id = none := by rfl) : Wq C g p (.region id l.toArray true) s Q = TrQ C p l.toArray l s [] fun tr s' => ps.all (okPair tr) = true ∧ Q .normal s' := by
  have e1 : opsD C (runF C) p ps l.toArray s = (traceA C (runF C) p l.toArray l s).bind fun (l, e) => if ps.all (okPair l) then some e else none := by
    unfold opsD
    split
    · exact absurd rfl hp
    · rfl
  simp only [Wq, Wp, codeF, if_true, drawA, drawN, hh, hx, h, e1, Option.map_eq_some_iff, Option.bind_eq_some_iff, Prod.mk.injEq, TrQ, OptQ, List.nil_append]
  refine propext ⟨fun ⟨e, s', ⟨a, ⟨tr, h1, h2⟩, h3, h4⟩, h5⟩ => ?_, fun ⟨tr, h1, h2, h3⟩ => ⟨.normal, tr.2, ⟨tr.2, ⟨tr, h1, by simp [h2]⟩, rfl, rfl⟩, h3⟩⟩
  obtain ⟨tr, e'⟩ := tr
  simp only at h2
  split at h2
  · rename_i hh
    cases h2
    subst h4; subst h3
    exact ⟨_, h1, hh, h5⟩
  · cases h2
end
end Go.Am
