/- An abstract machine for Go code without draws: values, memory by names, and what each operation does. -/
import Derived.Calls
import Derived.WalkKit
namespace Go.Am
set_option linter.unusedVariables false
set_option linter.unusedSimpArgs false

inductive T (α : Type) where
  | l
  | n (v : Option α) (a b : T α)

namespace T
variable {α : Type}
def get : T α → Nat → Option α
  | .l, _ => none
  | .n v a b, k => if k = 0 then v else if k % 2 = 1 then a.get (k / 2) else b.get (k / 2 - 1)
def setF : Nat → T α → Nat → α → T α
  | 0, t, _, _ => t
  | f + 1, .l, k, x => if k = 0 then .n (some x) .l .l else if k % 2 = 1 then .n none (setF f .l (k / 2) x) .l else .n none .l (setF f .l (k / 2 - 1) x)
  | f + 1, .n v a b, k, x => if k = 0 then .n (some x) a b else if k % 2 = 1 then .n v (setF f a (k / 2) x) b else .n v a (setF f b (k / 2 - 1) x)
def set (t : T α) (k : Nat) (x : α) : T α := setF (k + 1) t k x

theorem get_setF (f : Nat) : ∀ (t : T α) (k j : Nat) (x : α), k < f → (setF f t k x).get j = if j = k then some x else t.get j := by
  induction f with
  | zero => intro t k j x h; omega
  | succ f ih =>
    intro t k j x h
    have h0 : ∀ i : Nat, ((.l : T α).get i) = none := fun i => by simp [get]
    have e : ∀ (a b : T α) (v : Option α), (setF (f + 1) (.n v a b) k x).get j = if j = k then some x else (T.n v a b).get j := by
      intro a b v
      by_cases hk : k = 0
      · subst hk
        by_cases hj : j = 0
        · subst hj; simp [setF, get]
        · simp [setF, get, hj]
      · by_cases h2 : k % 2 = 1
        · simp only [setF, if_neg hk, if_pos h2, get]
          by_cases hj : j = 0
          · subst hj; simp; omega
          · by_cases hj2 : j % 2 = 1
            · simp only [if_neg hj, if_pos hj2]
              rw [ih a (k / 2) (j / 2) x (by omega)]
              by_cases e : j = k
              · subst e; simp
              · rw [if_neg e, if_neg (by omega)]
            · simp only [if_neg hj, if_neg hj2]
              rw [if_neg (by intro e; subst e; exact hj2 h2)]
        · simp only [setF, if_neg hk, if_neg h2, get]
          by_cases hj : j = 0
          · subst hj; simp; omega
          · by_cases hj2 : j % 2 = 1
            · simp only [if_neg hj, if_pos hj2]
              rw [if_neg (by intro e; subst e; exact h2 hj2)]
            · simp only [if_neg hj, if_neg hj2]
              rw [ih b (k / 2 - 1) (j / 2 - 1) x (by omega)]
              by_cases e : j = k
              · subst e; simp
              · rw [if_neg e, if_neg (by omega)]
    cases t with
    | n v a b => exact e a b v
    | l =>
      have he := e .l .l none
      have hl : setF (f + 1) (.l : T α) k x = setF (f + 1) (.n none .l .l) k x := by simp [setF]
      rw [hl, he]
      congr 1
      simp [get]

theorem get_set (t : T α) (k j : Nat) (x : α) : (t.set k x).get j = if j = k then some x else t.get j := get_setF _ t k j x (by omega)
def ofList (l : List α) : T α := (l.zipIdx.foldl (fun t p => t.set p.2 p.1) .l)
end T

inductive V where
  | b (x : Bool)
  | i (k : IntKind) (n : Int)
  | s (x : ByteArray)
  | nilp | nils | nilf | nili | nilm
  | ptr (r : Nat) (st : List Nat) (off : Nat)
  | iptr (cs : List V)
  | sl (r : Nat) (st : List Nat) (off len es : Nat) (cap : Option Nat)
  | arr (cs : List V) (len : Nat) (clip : Bool)
  | agg (cs : List V)
  | fn (f : Nat) (first cap : List V)
  | map (r : Nat) (st : List Nat)
  | iface (t : Nat) (v : V)
  | tup (vs : List V)
  | bad

instance : Inhabited V := ⟨.bad⟩
abbrev V.un : V := .tup []
def V.one : V → Bool
  | .agg _ | .tup _ | .bad => false
  | _ => true
def V.cells : V → List V
  | .agg cs => cs
  | v => [v]

inductive O where
  | cells (st : List Nat) (cs : List V)
  | map (st : List Nat) (kvs : List (V × V))
  | dead
  deriving Inhabited

def ofVal1 : Value → V
  | .bool b => .b b
  | .int k n => .i k n
  | .string s => .s s
  | .pointer none => .nilp
  | .slice none 0 0 => .nils
  | .map none => .nilm
  | .nilFunc => .nilf
  | .nilIface => .nili
  | _ => .bad
def ofVal : Value → V
  | .agg cs => if (cs.toList.map ofVal1).all V.one then .agg (cs.toList.map ofVal1) else .bad
  | v => ofVal1 v
def toVal1 : V → Option Value
  | .b b => some (.bool b)
  | .i k n => some (.int k n)
  | .s s => some (.string s)
  | .nilp => some (.pointer none)
  | .nils => some (.slice none 0 0)
  | .nilm => some (.map none)
  | .nilf => some .nilFunc
  | .nili => some .nilIface
  | .iface t (.i k n) => some (.iface t (.int k n))
  | _ => none
def toVals : List V → Option (List Value)
  | [] => some []
  | v :: vs => (toVal1 v).bind fun x => (toVals vs).bind fun xs => some (x :: xs)
def toVal : V → Option Value
  | .agg cs => (toVals cs).map fun xs => .agg xs.toArray
  | v => toVal1 v

def pureRun {α : Type} (P : Program) : Sem α → Option α
  | .pure a => some a
  | .program k => pureRun P (k P)
  | _ => none

structure St where
  t : T V
  nt : Nat
  σ : List O
  c : Nat

def marks : Bool := true
structure Cfg where
  P : Program
  prim : Nat → Option (List V → List O → Option V) := fun _ => none
  glob : Nat → Option (List V) := fun _ => none
  bar : Nat → Bool := fun _ => false
  keep : Nat → List Nat → Bool := fun _ _ => false
  primM : Nat → Option (List V → List O → List Nat → Option (V × List O)) := fun _ => none
  hook : Nat → Nat → Option (List Nat → St → Option St) := fun _ _ => none
  esc : Nat → List (Nat × List Nat) := fun _ => []
  iter : Nat → Option (List V → List O → Option (List Nat × List (List V))) := fun _ => none
  cls : Nat → Nat → List (Nat × Nat) := fun _ _ => []
  pre : Nat → Nat → Option (List Nat) := fun _ _ => none
  still : Nat → Option (List V → Option V) := fun _ => none

section
variable (C : Cfg)
def Cfg.size (t : TypeId) : Option Nat := (C.P.info? t).map (·.size)
def Cfg.bytes (t : TypeId) : Nat := ((C.P.info? t).map (·.bytes)).getD 0
def Cfg.zero (t : TypeId) : Option V := (((C.P.info? t).bind (·.zero)).map ofVal).bind fun z => if z.cells.all V.one then some z else none
def Cfg.isAgg (t : TypeId) : Option Bool :=
  match C.P.underlying t with
  | some (.struct _) | some (.array _ _) => some true
  | some _ => some false
  | none => none
def Cfg.field (t : TypeId) (f : Nat) : Option (Nat × TypeId) :=
  match C.P.underlying t with
  | some (.struct fs) => (fs[f]?).map fun f => (f.offset, f.type)
  | _ => none
inductive Sh where
  | slice (e : TypeId) | array (n : Nat) (e : TypeId) | string | map (k e : TypeId) | ptrArray (n : Nat) (e : TypeId) | int (k : IntKind) | iface | other | bad
def Cfg.shape (t : TypeId) : Sh :=
  match C.P.underlying t with
  | some (.slice e) => .slice e
  | some (.array n e) => .array n e
  | some .string => .string
  | some (.map k e) => .map k e
  | some (.int k) => .int k
  | some (.interface _) => .iface
  | some (.pointer a) => match C.P.underlying a with | some (.array n e) => .ptrArray n e | _ => .other
  | some _ => .other
  | none => .bad
def Cfg.elem (t : TypeId) : Option (TypeId × Nat × V) :=
  match C.shape t with
  | .slice e => (C.size e).bind fun z => (C.zero e).bind fun zv => if z ≠ 0 ∧ zv.cells.length = z ∧ C.bytes e ≠ 0 then some (e, z, zv) else none
  | _ => none

def rowAt (σ : List O) (r : Nat) (st : List Nat) : Option (List V) :=
  match σ[r]? with
  | some (.cells st' cs) => if st' = st then some cs else none
  | _ => none
def take? (cs : List V) (off n : Nat) : Option (List V) := if off + n ≤ cs.length then some ((cs.drop off).take n) else none
def splice (cs : List V) (off : Nat) (xs : List V) : List V := cs.take off ++ xs ++ cs.drop (off + xs.length)

def cellsAt (σ : List O) : V → Option (List V)
  | .ptr r st off => (rowAt σ r st).map (·.drop off)
  | .iptr cs => some cs
  | _ => none
def loadA (t : TypeId) (σ : List O) (a : V) : Option V :=
  (cellsAt σ a).bind fun cs => (C.isAgg t).bind fun g =>
  if g then (C.size t).bind fun n => (take? cs 0 n).map V.agg
  else cs[0]?
def storeA (t : TypeId) (σ : List O) (a x : V) : Option (List O) :=
  match a with
  | .ptr r st off => (rowAt σ r st).bind fun cs => (C.size t).bind fun n =>
      if x.cells.length = n then if off + n ≤ cs.length then if x.cells.all V.one then some (σ.set r (.cells st (splice cs off x.cells))) else none else none else none
  | _ => none
def fieldAddrA (s : TypeId) (a : V) (f : Nat) : Option V :=
  (C.field s f).bind fun (off, ty) => (C.size ty).bind fun z => if z = 0 then none else
    match a with
    | .ptr r st o => some (.ptr r st (o + off))
    | .iptr cs => if off ≤ cs.length then some (.iptr (cs.drop off)) else none
    | _ => none
def partA (t : TypeId) (cs : List V) (off : Nat) : Option V :=
  (C.isAgg t).bind fun g => if g then (C.size t).bind fun n => (take? cs off n).map V.agg else cs[off]?
def idx (ix : V) (n : Nat) : Option Nat :=
  match ix with
  | .i _ i => if 0 ≤ i then if i < n then some i.toNat else none else none
  | _ => none
def indexAddrA (t : TypeId) (x ix : V) : Option V :=
  match C.shape t, x with
  | .array n e, .ptr r st o => (C.size e).bind fun z => (idx ix n).bind fun i => if z = 0 then none else some (.ptr r st (o + i * z))
  | .array n e, .iptr cs => (C.size e).bind fun z => (idx ix n).bind fun i => if z = 0 then none else some (.iptr (cs.drop (i * z)))
  | .slice e, .sl r st o n _ _ => (C.size e).bind fun z => (idx ix n).bind fun i => if z = 0 then none else some (.ptr r st (o + i * z))
  | .slice e, .arr cs n _ => (C.size e).bind fun z => (idx ix n).bind fun i => if z = 0 then none else some (.iptr (cs.drop (i * z)))
  | _, _ => none
def indexA (t : TypeId) (x ix : V) : Option V :=
  match C.shape t, x with
  | .array n e, .agg cs => (C.size e).bind fun z => (idx ix n).bind fun i => partA C e cs (i * z)
  | .string, .s s => (idx ix s.size).bind fun i => (s[i]?).map fun b => .i .u8 b.toNat
  | _, _ => none
def bnd (x : Option V) (dflt : Nat) (lo hi : Nat) : Option Nat :=
  match x with
  | none => some dflt
  | some (.i _ i) => if (lo : Int) ≤ i then if i ≤ hi then some i.toNat else none else none
  | _ => none
def sliceA (t : TypeId) (x : V) (lo hi mx : Option V) : Option V :=
  match C.shape t, x, mx with
  | .string, .s s, none => (bnd hi s.size 0 s.size).bind fun h => (bnd lo 0 0 h).bind fun l => some (.s (s.extract l h))
  | .slice e, .sl r st o n es cap, none => (C.size e).bind fun z => if z ≠ es then none else
      (bnd hi n 0 (cap.getD n)).bind fun h => (bnd lo 0 0 h).bind fun l =>
        if l < n then some (.sl r st (o + l * es) (h - l) es (cap.map (· - l))) else if h = l then if h = n then if lo = none then some (.sl r st o 0 es (cap.map (· - 0))) else some (.arr [] 0 false) else none else if l < h then some (.sl r st (o + l * es) (h - l) es (cap.map (· - l))) else none
  | .slice e, .sl r st o n es cap, some m => (C.size e).bind fun z => if z ≠ es then none else
      (bnd mx 0 0 n).bind fun m => (bnd hi n 0 m).bind fun h => (bnd lo 0 0 h).bind fun l =>
        if l < m then some (.sl r st (o + l * es) (h - l) es (some (m - l))) else some (.arr [] 0 true)
  | .slice e, .arr cs n cl, none => (C.size e).bind fun z => (bnd hi n 0 n).bind fun h => (bnd lo 0 0 h).bind fun l => some (.arr ((cs.take (h * z)).drop (l * z)) (h - l) (cl && h == n))
  | .slice e, .arr cs n cl, some _ => (C.size e).bind fun z => (bnd mx 0 0 n).bind fun m => (bnd hi n 0 m).bind fun h => (bnd lo 0 0 h).bind fun l => some (.arr ((cs.take (h * z)).drop (l * z)) (h - l) (h == m))
  | .slice e, .nils, none => (C.size e).bind fun z => (bnd hi 0 0 0).bind fun h => (bnd lo 0 0 h).bind fun l => some .nils
  | .slice e, .nils, some _ => (C.size e).bind fun z => (bnd mx 0 0 0).bind fun m => (bnd hi 0 0 m).bind fun h => (bnd lo 0 0 h).bind fun l => some .nils
  | .array k e, .ptr r st o, none => (C.size e).bind fun z => (bnd hi k 0 k).bind fun h => (bnd lo 0 0 h).bind fun l =>
        if l < k then some (.sl r st (o + l * z) (h - l) z (some (k - l))) else some (.arr [] 0 true)
  | .array k e, .iptr cs, none => (C.size e).bind fun z => (bnd hi k 0 k).bind fun h => (bnd lo 0 0 h).bind fun l => some (.arr ((cs.take (h * z)).drop (l * z)) (h - l) (h == k))
  | _, _, _ => none
end
end Go.Am
