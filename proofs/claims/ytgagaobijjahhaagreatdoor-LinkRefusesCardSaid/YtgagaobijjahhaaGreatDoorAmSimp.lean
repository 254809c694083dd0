/- Rules of the abstract machine, as equations for the simplifier. -/
import Derived.Test.YtgagaobijjahhaaGreatDoorAmFun
import Derived.IntWalk
import Derived.Laws.Strings
namespace Go.Am
universe u
set_option linter.unusedVariables false
set_option linter.unusedSimpArgs false

inductive Tag {α : Sort u} (x : α) : Type
  | mk
def OptQ {α : Type} (o : Option α) (K : α → Prop) (_ : Tag K := .mk) : Prop := ∃ x, o = some x ∧ K x
section
variable {α β : Type} {K : α → Prop}
theorem OptQ_some (x : α) : OptQ (some x) K = K x := by simp [OptQ]
theorem OptQ_none : OptQ (none : Option α) K = False := by simp [OptQ]
theorem OptQ_map (o : Option β) (f : β → α) : OptQ (o.map f) K = OptQ o fun x => K (f x) := by
  cases o <;> simp [OptQ]
theorem OptQ_bind (o : Option β) (f : β → Option α) : OptQ (o.bind f) K = OptQ o fun x => OptQ (f x) K := by
  simp only [OptQ, Option.bind_eq_some_iff, eq_iff_iff]
  constructor
  · rintro ⟨x, ⟨a, h1, h2⟩, h3⟩; exact ⟨a, h1, x, h2, h3⟩
  · rintro ⟨a, h1, x, h2, h3⟩; exact ⟨x, ⟨a, h1, h2⟩, h3⟩
theorem OptQ_ite (c : Prop) [Decidable c] (a b : Option α) : OptQ (if c then a else b) K = if c then OptQ a K else OptQ b K := by split <;> rfl
end

section
variable {C : Cfg} {g : Nat} {p : List Nat} {s : St} {Q : Ex → St → Prop} {K : St → Prop} {ops : Array Oper}
def Wq (C : Cfg) (g : Nat) (p : List Nat) (c : Code) (s : St) (Q : Ex → St → Prop) (_ : Tag c := .mk) (_ : Tag Q := .mk) : Prop := Wp C g p c s Q
def thenQ (C : Cfg) (g : Nat) (p : List Nat) (b : Code) (Q : Ex → St → Prop) (e : Ex) (s : St) (_ : Tag b := .mk) (_ : Tag Q := .mk) : Prop :=
  match e with
  | .normal => Wq C g p b s Q
  | e => Q e s
theorem thenQ_normal (b : Code) : thenQ C g p b Q .normal s = Wq C g p b s Q := rfl
theorem thenQ_exit (b : Code) (id : Nat) : thenQ C g p b Q (.exit id) s = Q (.exit id) s := rfl
theorem thenQ_ret (b : Code) : thenQ C g p b Q .ret s = Q .ret s := rfl
def blockQ (id : Nat) (Q : Ex → St → Prop) (e : Ex) (s : St) (_ : Tag Q := .mk) : Prop := Q (if e = .exit id then .normal else e) s
theorem blockQ_normal (id : Nat) : blockQ id Q .normal s = Q .normal s := rfl
theorem blockQ_ret (id : Nat) : blockQ id Q .ret s = Q .ret s := rfl
theorem blockQ_exit (id j : Nat) : blockQ id Q (.exit j) s = if j = id then Q .normal s else Q (.exit j) s := by
  unfold blockQ
  by_cases h : j = id
  · subst h; simp
  · have : ¬ (Ex.exit j = Ex.exit id) := by intro e; injection e; contradiction
    rw [if_neg this, if_neg h]
def Br (v : V) (A B : Prop) (_ : Tag A := .mk) (_ : Tag B := .mk) : Prop := match v with | .b true => A | .b false => B | _ => False
theorem Br_b (x : Bool) (A B : Prop) : Br (.b x) A B = if x = true then A else B := by cases x <;> simp [Br]
theorem Wp_of {c : Code} {e : Ex} {s' : St} (h : codeF C g p c s = some (e, s')) : Wq C g p c s Q = Q e s' :=
  propext ⟨fun ⟨e2, s2, h1, h2⟩ => by rw [h] at h1; cases h1; exact h2, fun h' => ⟨e, s', h, h'⟩⟩
theorem Wp_skip : Wq C g p .skip s Q = Q .normal s := Wp_of rfl
theorem Wp_exit (id : Nat) : Wq C g p (.exit id) s Q = Q (.exit id) s := Wp_of rfl
theorem Wp_ret : Wq C g p .ret s Q = Q .ret s := Wp_of rfl
theorem Wp_label (l : Nat) : Wq C g p (.label l) s Q = Q .normal s := Wp_of rfl
theorem Wp_scope (a : Code) : Wq C g p (.scope a) s Q = Wq C g p a s Q := rfl
theorem Wp_seq (a b : Code) : Wq C g p (.seq a b) s Q = Wq C g p a s fun e s' => thenQ C g p b Q e s' := by
  refine propext ⟨fun h => ?_, fun h => Wp.seq (Wp.mono h fun e s' h => by cases e <;> exact h)⟩
  obtain ⟨e, s', h1, h2⟩ := h
  simp only [codeF, Option.bind_eq_some_iff] at h1
  obtain ⟨⟨e1, s1⟩, h3, h4⟩ := h1
  refine ⟨e1, s1, h3, ?_⟩
  cases e1 with
  | normal => exact ⟨e, s', h4, h2⟩
  | exit id => simp at h4; obtain ⟨rfl, rfl⟩ := h4; exact h2
  | ret => simp at h4; obtain ⟨rfl, rfl⟩ := h4; exact h2
theorem Wp_block (id : Nat) (a : Code) : Wq C g p (.block id a) s Q = Wq C g p a s fun e s' => blockQ id Q e s' := by
  refine propext ⟨fun h => ?_, fun h => Wp.block h⟩
  obtain ⟨e, s', h1, h2⟩ := h
  simp only [codeF, Option.map_eq_some_iff, Prod.mk.injEq] at h1
  obtain ⟨⟨e1, s1⟩, h3, rfl, rfl⟩ := h1
  exact ⟨e1, s1, h3, h2⟩
theorem Wp_cond (k : Operand) (a b : Code) : Wq C g p (.cond k a b) s Q = Br (s.ev C k) (Wq C g p a s Q) (Wq C g p b s Q) := by
  cases h : s.ev C k <;> simp only [Wq, Wp, codeF, h, Br, reduceCtorEq, false_and, exists_false]
  rename_i x
  cases x <;> simp
def Ops (C : Cfg) (p : List Nat) (ops : Array Oper) (l : List Oper) (s : St) (K : St → Prop) (_ : Tag ops := .mk) (_ : Tag l := .mk) (_ : Tag K := .mk) : Prop := OptQ (opsA C (runF C) p ops l s) K
def StepQ (C : Cfg) (p : List Nat) (ops : Array Oper) (o : Oper) (s : St) (K : St → Prop) (_ : Tag ops := .mk) (_ : Tag o := .mk) (_ : Tag K := .mk) : Prop := OptQ (stepA C (runF C) p ops o s) K
theorem Wp_region (id : Nat) (l : List Oper) : Wq C g p (.region id l.toArray false) s Q = Ops C p l.toArray l s (Q .normal) := by
  simp only [Wq, Wp, codeF, Bool.false_eq_true, if_false, Option.map_eq_some_iff, Prod.mk.injEq, Ops, OptQ]
  exact propext ⟨fun ⟨e, s', ⟨a, h1, h2, h3⟩, h4⟩ => ⟨a, h1, by rw [h2, h3]; exact h4⟩, fun ⟨a, h1, h2⟩ => ⟨_, _, ⟨a, h1, rfl, rfl⟩, h2⟩⟩
theorem Wp_draw (id : Nat) (l : List Oper) (h : C.cls g id = []) (hh : C.hook g id = none := by rfl) (hx : C.pre g id = none := by rfl) : Wq C g p (.region id l.toArray true) s Q = Ops C p l.toArray l s (Q .normal) := by
  simp only [Wq, Wp, codeF, if_true, drawA, drawN, hh, hx, h, opsD, Option.map_eq_some_iff, Prod.mk.injEq, Ops, OptQ]
  exact propext ⟨fun ⟨e, s', ⟨a, h1, h2, h3⟩, h4⟩ => ⟨a, h1, by rw [h2, h3]; exact h4⟩, fun ⟨a, h1, h2⟩ => ⟨_, _, ⟨a, h1, rfl, rfl⟩, h2⟩⟩
theorem Ops_nil : Ops C p ops [] s K = K s := by simp [Ops, opsA, OptQ_some]
theorem Ops_cons (o : Oper) (l : List Oper) : Ops C p ops (o :: l) s K = StepQ C p ops o s fun s' => Ops C p ops l s' K := by simp only [Ops, opsA, OptQ_bind, StepQ]
def SOp (C : Cfg) (p : List Nat) (d : Option Nat) (op : Op) (s : St) (K : St → Prop) (_ : Tag op := .mk) (_ : Tag K := .mk) : Prop := OptQ (opA C p (s.ev C) s.σ s.c op) fun r => K ((⟨s.t, s.nt, r.2.1, r.2.2⟩ : St).put d r.1)
def SCall (C : Cfg) (p : List Nat) (d : Option Nat) (f : V) (args : List V) (s : St) (K : St → Prop) (_ : Tag K := .mk) : Prop := OptQ (callA (runF C) p f args s.σ s.c) fun r => K ((⟨s.t, s.nt, r.2, s.c + 1⟩ : St).put d r.1)
def isV : Op → Bool
  | .call { callee := .value _, .. } => true
  | _ => false
theorem Step_op {d : Option Nat} {op : Op} {ty : TypeId} {pos : String} {af : Array Edge} (h : isV op = false) : StepQ C p ops ⟨d, op, ty, pos, af, none⟩ s K = SOp C p d op s K := by
  simp only [StepQ, stepA, guardA, Option.bind_some, if_true, SOp]
  split
  · simp [isV] at h
  · rw [OptQ_map]
theorem Step_call {d : Option Nat} {f : Operand} {args : Array Operand} {ts : Array TypeId} {ty : TypeId} {pos : String} {af : Array Edge} :
    StepQ C p ops ⟨d, .call { callee := .value f, args := args, argTypes := ts }, ty, pos, af, none⟩ s K = SCall C p d (s.ev C f) (args.toList.map (s.ev C)) s K := by
  simp only [StepQ, stepA, guardA, Option.bind_some, if_true, SCall, OptQ_map]
theorem Step_guard {d : Option Nat} {op : Op} {ty : TypeId} {pos : String} {af : Array Edge} {j : Nat} {wd : Bool} : StepQ C p ops ⟨d, op, ty, pos, af, some (j, wd)⟩ s K =
    OptQ (guardA ops s (some (j, wd))) fun b => if b = true then StepQ C p ops ⟨d, op, ty, pos, af, none⟩ s K else K (s.put d .un) := by
  simp only [StepQ, stepA, OptQ_bind, guardA, Option.bind_some, if_true]
  have : ∀ K1 K2 : Bool → Prop, (∀ b, K1 b = K2 b) → OptQ (guardA ops s (some (j, wd))) K1 = OptQ (guardA ops s (some (j, wd))) K2 := fun K1 K2 h => by rw [funext h]
  refine this _ _ fun b => ?_
  cases b
  · simp [OptQ_some]
  · simp
def grd (wd : Bool) : Option V → Option Bool
  | some (.b x) => some (x == wd)
  | some .bad => none
  | _ => some false
def grdO (wd : Bool) (s : St) : Option Nat → Option Bool
  | some d => grd wd (s.t.get d)
  | none => some false
theorem guard_of {j : Nat} {wd : Bool} : guardA ops s (some (j, wd)) = grdO wd s ((ops[j]?).bind (·.dst)) := by
  simp only [guardA]
  cases (ops[j]?).bind (·.dst) with
  | none => rfl
  | some d =>
    simp only [grdO, grd]
    split <;> simp_all
theorem SCall_fn {d : Option Nat} {f : Nat} {args : List V} : SCall C p d (.fn f [] []) args s K = OptQ (runF C f args s.σ (s.c :: p)) fun r => K ((⟨s.t, s.nt, r.2, s.c + 1⟩ : St).put d r.1) := by
  simp [SCall, callA]
theorem put_mk (t : T V) (nt : Nat) (σ : List O) (c d : Nat) (v : V) (h : d < nt) : (⟨t, nt, σ, c⟩ : St).put (some d) v = ⟨t.set d v, nt, σ, c⟩ := by simp [St.put, h]
theorem put_mk0 (t : T V) (nt : Nat) (σ : List O) (c : Nat) (v : V) : (⟨t, nt, σ, c⟩ : St).put none v = ⟨t, nt, σ, c⟩ := rfl
theorem ev_tmp (t : T V) (nt : Nat) (σ : List O) (c d : Nat) : (⟨t, nt, σ, c⟩ : St).ev C (.tmp d) = (t.get d).getD .un := rfl
theorem ev_const (v : Value) : s.ev C (.const v) = ofVal v := rfl
theorem ev_func (f : Nat) : s.ev C (.func f) = .fn f [] [] := rfl
theorem ofVal_int (k : IntKind) (n : Int) : ofVal (.int k n) = .i k n := rfl
theorem ofVal_bool (b : Bool) : ofVal (.bool b) = .b b := rfl
theorem ofVal_string (b : ByteArray) : ofVal (.string b) = .s b := rfl
theorem ofVal_nilp : ofVal (.pointer none) = .nilp := rfl
theorem ofVal_nils : ofVal (.slice none 0 0) = .nils := rfl
theorem ofVal_nilm : ofVal (.map none) = .nilm := rfl

theorem pureRun_bind {α β : Type} (P : Program) (m : Sem α) (f : α → Sem β) : pureRun P (m.bind f) = (pureRun P m).bind fun x => pureRun P (f x) := by
  induction m with
  | pure a => rfl
  | program k ih => exact ih P
  | _ => rfl
theorem pureRun_under {t : TypeId} {d : TypeDesc} (h : C.P.underlying t = some d) : pureRun C.P (underlying t) = some d := by
  show pureRun C.P (match C.P.underlying t with | some d => pure d | none => stuck "no such type") = _
  rw [h]; rfl

/-! Numbers. -/
section
variable {t : TypeId} {x y : Operand} {k : IntKind} {a b : Int}
theorem binA_of {op : BinOp} {v1 v2 : V} {u1 u2 r : Value} (h1 : toVal v1 = some u1) (h2 : toVal v2 = some u2) (he : eqGuard op t x y u1 u2 = pure ()) (hb : binOp op t u1 u2 = pure r) : binA C op t x y v1 v2 = some (ofVal r) := by
  simp only [binA, h1, h2, he, hb, pureV]
  rfl
theorem binA_add : binA C .add t x y (.i k a) (.i k b) = some (.i k (k.wrap (a + b))) := binA_of (op := .add) (u1 := .int k a) (u2 := (.int k b)) (r := (.int k (k.wrap (a + b)))) rfl rfl rfl (by simp [binOp, Op.intArith])
theorem binA_sub : binA C .sub t x y (.i k a) (.i k b) = some (.i k (k.wrap (a - b))) := binA_of (op := .sub) (u1 := .int k a) (u2 := (.int k b)) (r := (.int k (k.wrap (a - b)))) rfl rfl rfl (by simp [binOp, Op.intArith])
theorem binA_mul : binA C .mul t x y (.i k a) (.i k b) = some (.i k (k.wrap (a * b))) := binA_of (op := .mul) (u1 := .int k a) (u2 := (.int k b)) (r := (.int k (k.wrap (a * b)))) rfl rfl rfl (by simp [binOp, Op.intArith])
theorem binA_quo (h : b ≠ 0) : binA C .quo t x y (.i k a) (.i k b) = some (.i k (k.wrap (a.tdiv b))) := binA_of (op := .quo) (u1 := .int k a) (u2 := (.int k b)) (r := (.int k (k.wrap (a.tdiv b)))) rfl rfl rfl (by simp [binOp, Op.intDiv, h])
theorem binA_rem (h : b ≠ 0) : binA C .rem t x y (.i k a) (.i k b) = some (.i k (a.tmod b)) := binA_of (op := .rem) (u1 := .int k a) (u2 := (.int k b)) (r := (.int k (a.tmod b))) rfl rfl rfl (by simp [binOp, Op.intDiv, h])
theorem binA_lss : binA C .lss t x y (.i k a) (.i k b) = some (.b (decide (a < b))) := binA_of (op := .lss) (u1 := .int k a) (u2 := (.int k b)) (r := (.bool (decide (a < b)))) rfl rfl rfl (by simp [binOp, Op.intCmp])
theorem binA_leq : binA C .leq t x y (.i k a) (.i k b) = some (.b (decide (a ≤ b))) := binA_of (op := .leq) (u1 := .int k a) (u2 := (.int k b)) (r := (.bool (decide (a ≤ b)))) rfl rfl rfl (by simp [binOp, Op.intCmp])
theorem binA_gtr : binA C .gtr t x y (.i k a) (.i k b) = some (.b (decide (b < a))) := binA_of (op := .gtr) (u1 := .int k a) (u2 := (.int k b)) (r := (.bool (decide (b < a)))) rfl rfl rfl (by simp [binOp, Op.intCmp])
theorem binA_geq : binA C .geq t x y (.i k a) (.i k b) = some (.b (decide (b ≤ a))) := binA_of (op := .geq) (u1 := .int k a) (u2 := (.int k b)) (r := (.bool (decide (b ≤ a)))) rfl rfl rfl (by simp [binOp, Op.intCmp])
theorem binA_eql : binA C .eql t x y (.i k a) (.i k b) = some (.b (decide (a = b))) := binA_of (op := .eql) (u1 := .int k a) (u2 := (.int k b)) (r := (.bool (decide (a = b)))) rfl rfl rfl (by simp [binOp, Op.intCmp]; rfl)
theorem binA_neq : binA C .neq t x y (.i k a) (.i k b) = some (.b (!decide (a = b))) := binA_of (op := .neq) (u1 := .int k a) (u2 := (.int k b)) (r := (.bool (!decide (a = b)))) rfl rfl rfl (by simp [binOp, Op.intCmp]; rfl)
theorem binA_and : binA C .and t x y (.i k a) (.i k b) = some (.i k (k.wrap (BitVec.ofInt k.bits a &&& BitVec.ofInt k.bits b).toNat)) := binA_of (op := .and) (u1 := .int k a) (u2 := (.int k b)) (r := (.int k (k.wrap (BitVec.ofInt k.bits a &&& BitVec.ofInt k.bits b).toNat))) rfl rfl rfl (by simp [binOp, Op.intBits])
theorem binA_or : binA C .or t x y (.i k a) (.i k b) = some (.i k (k.wrap (BitVec.ofInt k.bits a ||| BitVec.ofInt k.bits b).toNat)) := binA_of (op := .or) (u1 := .int k a) (u2 := (.int k b)) (r := (.int k (k.wrap (BitVec.ofInt k.bits a ||| BitVec.ofInt k.bits b).toNat))) rfl rfl rfl (by simp [binOp, Op.intBits])
theorem binA_xor : binA C .xor t x y (.i k a) (.i k b) = some (.i k (k.wrap (BitVec.ofInt k.bits a ^^^ BitVec.ofInt k.bits b).toNat)) := binA_of (op := .xor) (u1 := .int k a) (u2 := (.int k b)) (r := (.int k (k.wrap (BitVec.ofInt k.bits a ^^^ BitVec.ofInt k.bits b).toNat))) rfl rfl rfl (by simp [binOp, Op.intBits])
theorem binA_shl {k2 : IntKind} (h : 0 ≤ b) : binA C .shl t x y (.i k a) (.i k2 b) = some (.i k (k.wrap (a * 2 ^ min b.toNat k.bits))) := binA_of (op := .shl) (u1 := .int k a) (u2 := (.int k2 b)) (r := (.int k (k.wrap (a * 2 ^ min b.toNat k.bits)))) rfl rfl rfl (by simp [binOp, Op.shift, Int.not_lt.2 h])
theorem binA_shr {k2 : IntKind} (h : 0 ≤ b) : binA C .shr t x y (.i k a) (.i k2 b) = some (.i k (a.fdiv (2 ^ min b.toNat k.bits))) := binA_of (op := .shr) (u1 := .int k a) (u2 := (.int k2 b)) (r := (.int k (a.fdiv (2 ^ min b.toNat k.bits)))) rfl rfl rfl (by simp [binOp, Op.shift, Int.not_lt.2 h])
theorem ba_toList (b : ByteArray) : b.toList = b.data.toList := by
  exact ByteArray.toList_eq b
theorem binA_seql {a b : ByteArray} : binA C .eql t x y (.s a) (.s b) = some (.b (decide (a = b))) := binA_of (op := .eql) (u1 := .string a) (u2 := .string b) (r := .bool (decide (a = b))) rfl rfl rfl (by
  simp only [binOp, Op.stringOp, ba_toList]
  congr 2
  rw [Bool.eq_iff_iff]
  simp only [beq_iff_eq, decide_eq_true_eq]
  constructor
  · intro h; cases a; cases b; simp at h; simp [h]
  · rintro rfl; rfl)
theorem binA_sneq {a b : ByteArray} : binA C .neq t x y (.s a) (.s b) = some (.b (!decide (a = b))) := binA_of (op := .neq) (u1 := .string a) (u2 := .string b) (r := .bool (!decide (a = b))) rfl rfl rfl (by
  simp only [binOp, Op.stringOp, ba_toList]
  congr 3
  rw [Bool.eq_iff_iff]
  simp only [beq_iff_eq, decide_eq_true_eq]
  constructor
  · intro h; cases a; cases b; simp at h; simp [h]
  · rintro rfl; rfl)
theorem binA_bneq {a b : Bool} (h : C.P.underlying t = some .bool) : binA C .neq t x y (.b a) (.b b) = some (.b (!(a == b))) := by
  have h1 : pureRun C.P (do eqGuard .neq t x y (.bool a) (.bool b); binOp .neq t (.bool a) (.bool b) : Sem Value) = some (.bool (!(a == b))) := by
    show pureRun C.P (((underlying t).bind _).bind _) = _
    rw [pureRun_bind, pureRun_bind, pureRun_under h]
    rfl
  simp only [binA, toVal, toVal1, pureV, h1]; rfl
end
theorem unA_not (b : Bool) : pureV C (Op.unary .not (.bool b)) = some (.b !b) := rfl
theorem toVal_b (b : Bool) : toVal (.b b) = some (.bool b) := rfl
theorem toVal_i (k : IntKind) (n : Int) : toVal (.i k n) = some (.int k n) := rfl
theorem unA_neg (k : IntKind) (n : Int) : pureV C (Op.unary .neg (.int k n)) = some (.i k (k.wrap (0 - n))) := rfl
theorem wrap_i64 {n : Int} (h1 : -9223372036854775808 ≤ n) (h2 : n ≤ 9223372036854775807) : IntKind.wrap .i64 n = n := IntWalk.i64_in n ⟨h1, h2⟩

/-! Memory: what stands behind the caller's. -/
section
variable {σ L : List O} {k r : Nat} {st : List Nat}
theorem rowAt_app0 : rowAt (σ ++ L) σ.length st = rowAt L 0 st := by simp [rowAt, List.getElem?_append_right]
theorem rowAt_app : rowAt (σ ++ L) (σ.length + k) st = rowAt L k st := by simp [rowAt, List.getElem?_append_right]
theorem rowAt_old {cs : List V} (h : rowAt σ r st = some cs) : rowAt (σ ++ L) r st = some cs := by
  unfold rowAt at *
  rw [List.getElem?_append_left]
  · exact h
  · split at h
    · rename_i hs; exact (List.getElem?_eq_some_iff.1 hs).1
    · cases h
theorem rowAt_cons0 {cs : List V} : rowAt (.cells st cs :: L) 0 st = some cs := by simp [rowAt]
theorem rowAt_succ {o : O} : rowAt (o :: L) (k + 1) st = rowAt L k st := rfl
theorem set_app0 {o : O} : (σ ++ L).set σ.length o = σ ++ L.set 0 o := by rw [List.set_append_right _ _ (Nat.le_refl _)]; simp
theorem set_app {o : O} : (σ ++ L).set (σ.length + k) o = σ ++ L.set k o := by rw [List.set_append_right _ _ (by omega)]; simp
theorem take_app : (σ ++ L).take σ.length = σ := List.take_left
end
def ints (k : IntKind) (l : List Int) : List V := l.map (V.i k)
def bools (l : List Bool) : List V := l.map V.b
section
variable {k : IntKind} {l l2 : List Int} {i : Nat}
theorem ints_len : (ints k l).length = l.length := by simp [ints]
theorem ints_get : (ints k l)[i]? = (l[i]?).map (V.i k) := by simp [ints]
theorem ints_get' (h : i < l.length) : (ints k l)[i]? = some (.i k (l.getD i 0)) := by
  rw [ints_get, List.getD_eq_getElem?_getD]
  simp [h]
theorem ints_one : (ints k l).all V.one = true := by simp [ints, V.one]
theorem frz_int (base : Nat) (σ : List O) (d : Nat) (n : Int) : freeze1 base σ d (.i k n) = .i k n := by cases d <;> rfl
theorem frz_ints (base : Nat) (σ : List O) (d : Nat) : (ints k l).map (freeze1 base σ d) = ints k l := by
  simp only [ints, List.map_map]; congr 1; funext n; exact frz_int base σ d n
variable {m : List Bool}
theorem bools_len : (bools m).length = m.length := by simp [bools]
theorem bools_get : (bools m)[i]? = (m[i]?).map V.b := by simp [bools]
theorem bools_get' (h : i < m.length) : (bools m)[i]? = some (.b (m.getD i false)) := by
  rw [bools_get, List.getD_eq_getElem?_getD]
  simp [h]
theorem frz_bool (base : Nat) (σ : List O) (d : Nat) (b : Bool) : freeze1 base σ d (.b b) = .b b := by cases d <;> rfl
end
theorem frz_i (base : Nat) (σ : List O) (k : IntKind) (n : Int) : freeze base σ (.i k n) = .i k n := rfl
theorem frz_b (base : Nat) (σ : List O) (b : Bool) : freeze base σ (.b b) = .b b := rfl
theorem frz_s (base : Nat) (σ : List O) (b : ByteArray) : freeze base σ (.s b) = .s b := rfl
theorem frz_nils (base : Nat) (σ : List O) : freeze base σ .nils = .nils := rfl
theorem frz_arr (base : Nat) (σ : List O) (cs : List V) (n : Nat) (c : Bool) : freeze base σ (.arr cs n c) = .arr cs n c := rfl
theorem frz_tup (base : Nat) (σ : List O) (vs : List V) : freeze base σ (.tup vs) = .tup (vs.map (freezeC base σ)) := rfl
theorem frzC_i (base : Nat) (σ : List O) (k : IntKind) (n : Int) : freezeC base σ (.i k n) = .i k n := rfl
theorem frzC_b (base : Nat) (σ : List O) (b : Bool) : freezeC base σ (.b b) = .b b := rfl
theorem frzC_s (base : Nat) (σ : List O) (b : ByteArray) : freezeC base σ (.s b) = .s b := rfl
theorem frzC_nils (base : Nat) (σ : List O) : freezeC base σ .nils = .nils := rfl
theorem frzC_arr (base : Nat) (σ : List O) (cs : List V) (n : Nat) (c : Bool) : freezeC base σ (.arr cs n c) = .arr cs n c := rfl
theorem T_ofList (l : List V) (d : Nat) : (T.ofList l).get d = l[d]? := T.ofList_get l d
def DoneQ (C : Cfg) (f : Nat) (p : List Nat) (base : Nat) (args : List V) (rs : List ResultVar) (r : V × List O) (e : Ex) (s : St) (_ : Tag r := .mk) : Prop := doneA C f p base args rs (e, s) = some r
section
variable {f base : Nat} {args : List V} {rs : List ResultVar} {r : V × List O}
theorem DoneQ_ret (hk : C.keep f p = false) (he : C.esc f = []) : DoneQ C f p base args rs r .ret s = OptQ (resA C s rs) fun vs => (freeze base s.σ (tupled vs), s.σ.take base) = r := by
  simp only [DoneQ, doneA, hk, Bool.false_eq_true, if_false, he, escape, OptQ, Option.map_eq_some_iff]
theorem DoneQ_keep (hk : C.keep f p = true) : DoneQ C f p base args rs r .ret s = OptQ (resA C s rs) fun vs => (tupled vs, s.σ) = r := by
  simp only [DoneQ, doneA, hk, if_true, OptQ, Option.map_eq_some_iff]
theorem DoneQ_normal : DoneQ C f p base args rs r .normal s = DoneQ C f p base args rs r .ret s := rfl
theorem run_done {σ : List O} {fn : Func} {c : Code} (h1 : C.prim f = none) (h2 : C.bar f = false) (h3 : C.P.funcs[f]? = some fn) (h4 : fn.body = some c)
    (h5 : Wq C f p c ⟨T.ofList args, max args.length fn.ntmps, σ, 0⟩ fun e s => DoneQ C f p σ.length args fn.results.toList r e s) (hM : C.primM f = none := by rfl) : runF C f args σ p = some r := run_wp h1 h2 h3 h4 h5 hM
end
end
end Go.Am
