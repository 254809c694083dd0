/- The abstract machine: builtins, operations, code, functions. -/
import Derived.Test.YtgagaobijjahhaaGreatDoorAm
import Derived.Orders
namespace Go.Am
set_option linter.unusedVariables false
set_option linter.unusedSimpArgs false

def u8s (b : ByteArray) : List V := b.data.toList.map fun x => .i .u8 x.toNat
def bytesOf : List V → Option (List UInt8)
  | [] => some []
  | .i .u8 n :: vs => (bytesOf vs).map fun xs => UInt8.ofNat n.toNat :: xs
  | _ => none

section
variable (C : Cfg)
def elems (z : Nat) (σ : List O) : V → Option (Nat × List V)
  | .nils => some (0, [])
  | .arr cs n _ => (take? cs 0 (n * z)).map fun l => (n, l)
  | .sl r st o n es _ => if es = z then (rowAt σ r st).bind fun cs => (take? cs o (n * z)).map fun l => (n, l) else none
  | .s x => if z = 1 then some (x.size, u8s x) else none
  | _ => none
def capFits (cap : Option Nat) (n : Nat) : Bool := match cap with | none => true | some c => n ≤ c
def roomy (n : Nat) : Bool := n ≤ 140737488355328
def appendA (t : TypeId) (σ : List O) (st' : List Nat) (s x : V) : Option (V × List O) :=
  (C.elem t).bind fun (e, z, zv) => (elems z σ x).bind fun (m, news) =>
    match s with
    | .nils => if m = 0 then some (.nils, σ) else if roomy (m * C.bytes e) then some (.sl σ.length st' 0 m z none, σ ++ [.cells st' news]) else none
    | .arr cs n clip =>
      if m = 0 then some (s, σ)
      else if clip && roomy ((n + m) * C.bytes e) then (take? cs 0 (n * z)).map fun l => (.sl σ.length st' 0 (n + m) z none, σ ++ [.cells st' (l ++ news)])
      else none
    | .sl r st o n es cap => if es = z then (rowAt σ r st).bind fun cs =>
        if m = 0 then some (s, σ)
        else if o + (n + m) * z ≤ cs.length ∧ capFits cap (n + m) then
          some (.sl r st o (n + m) z cap, σ.set r (.cells st (splice cs (o + n * z) news)))
        else if roomy ((n + m) * C.bytes e) then
          match cap with
          | some c => if c < n + m then (take? cs o (n * z)).map fun l => (.sl σ.length st' 0 (n + m) z none, σ ++ [.cells st' (l ++ news)]) else none
          | none => if o = 0 ∧ n * z = cs.length then some (.sl r st' 0 (n + m) z none, σ.set r (.cells st' (cs ++ news))) else none
        else none
      else none
    | _ => none
def appendZA (t : TypeId) (σ : List O) (st' : List Nat) (s : V) (k : Int) : Option (V × List O) :=
  (C.elem t).bind fun (e, z, zv) =>
    match s with
    | .sl r st o n es (some c) => if es = z then (rowAt σ r st).bind fun cs =>
        if 0 < k then if c < n + k.toNat then if roomy ((n + k.toNat) * C.bytes e) then
          (take? cs o (n * z)).map fun l => (.sl σ.length st' 0 (n + k.toNat) z none, σ ++ [.cells st' (l ++ (List.replicate k.toNat zv.cells).flatten)])
        else none else none else none
      else none
    | _ => none
def copyA (t : TypeId) (σ : List O) (d x : V) : Option (V × List O) :=
  (C.elem t).bind fun (e, z, zv) => (elems z σ x).bind fun (m, xs) =>
    match d with
    | .nils => some (.i .i64 0, σ)
    | .sl r st o n es _ => if es = z then (rowAt σ r st).bind fun cs =>
        if o + n * z ≤ cs.length then some (.i .i64 ((min m n : Nat) : Int), σ.set r (.cells st (splice cs o (xs.take (min m n * z))))) else none
      else none
    | _ => none
def clearA (t : TypeId) (σ : List O) (d : V) : Option (V × List O) :=
  match d with
  | .nils => some (.un, σ)
  | .sl r st o n es _ => (C.elem t).bind fun (e, z, zv) =>
    if z = es then (rowAt σ r st).bind fun cs =>
        if o + n * es ≤ cs.length then some (.un, σ.set r (.cells st (splice cs o (List.replicate n zv.cells).flatten))) else none
      else none
  | _ => none
def lenA (t : TypeId) (σ : List O) (x : V) : Option V :=
  match C.shape t, x with
  | .string, .s b => some (.i .i64 b.size)
  | .array n _, _ | .ptrArray n _, _ => some (.i .i64 n)
  | .slice _, .nils => some (.i .i64 0)
  | .slice _, .arr _ n _ => some (.i .i64 n)
  | .slice _, .sl _ _ _ n _ _ => some (.i .i64 n)
  | .map _ _, .nilm => some (.i .i64 0)
  | .map _ _, .map r st => match σ[r]? with | some (.map st' kvs) => if st' = st then some (.i .i64 kvs.length) else none | _ => none
  | _, _ => none
def capA (x : V) : Option V :=
  match x with
  | .nils => some (.i .i64 0)
  | .arr _ n true => some (.i .i64 n)
  | .sl _ _ _ _ _ (some c) => some (.i .i64 c)
  | _ => none
def minA : V → V → Option V
  | .i k x, .i k' y => some (.i k (if y < x then y else x))
  | _, _ => none
def maxA : V → V → Option V
  | .i k x, .i k' y => some (.i k (if y > x then y else x))
  | _, _ => none
def foldA (f : V → V → Option V) : List V → Option V
  | [] => none
  | x :: rest => rest.foldlM f x
def keyEq : V → V → Option Bool
  | .i k a, .i k' b => if k = k' then some (a == b) else none
  | .s a, .s b => some (a == b)
  | .b a, .b b => some (a == b)
  | _, _ => none
def findA (k : V) : List (V × V) → Nat → Option (Option (Nat × V))
  | [], _ => some none
  | (k', v) :: l, n => match keyEq k k' with | some true => some (some (n, v)) | some false => findA k l (n + 1) | none => none
def keyOk (t : TypeId) : V → Bool
  | .i k _ => match C.shape t with | .int k' => k == k' | _ => false
  | .s _ => match C.shape t with | .string => true | _ => false
  | _ => false
def lookupA (t : TypeId) (σ : List O) (m k : V) (ok : Bool) : Option V :=
  match C.shape t with
  | .map kt et => if keyOk C kt k then
      (match m with
        | .nilm => some none
        | .map r st => (match σ[r]? with | some (.map st' kvs) => if st' = st then findA k kvs 0 else none | _ => none)
        | _ => none).bind fun r => (match r with | some (_, v) => some (v, true) | none => (C.zero et).map fun z => (z, false)).bind fun (v, f) => some (if ok then .tup [v, .b f] else v)
    else none
  | _ => none
def mapUpdateA (t : TypeId) (σ : List O) (m k x : V) : Option (List O) :=
  match C.shape t with
  | .map kt _ => if keyOk C kt k then
      match m with
      | .map r st => (match σ[r]? with
        | some (.map st' kvs) => if st' = st then (findA k kvs 0).map fun
            | some (n, _) => σ.set r (.map st (kvs.set n (k, x)))
            | none => σ.set r (.map st (kvs ++ [(k, x)]))
          else none
        | _ => none)
      | _ => none
    else none
  | _ => none
def known (t : TypeId) : Bool := match C.shape t with | .bad => false | _ => true
def convertP (src dst : TypeId) (σ : List O) (x : V) : Option V :=
  if known C src then
  match C.shape dst, x with
  | .int k, .i _ n => some (.i k (k.wrap n))
  | .string, .s b => some x
  | .string, _ => (match C.shape src with
    | .slice e => (match C.shape e with
      | .int .u8 => (elems 1 σ x).bind fun (_, cs) => (bytesOf cs).map fun l => .s ⟨l.toArray⟩
      | _ => none)
    | _ => none)
  | _, _ => none
  else none
def convertA (src dst : TypeId) (σ : List O) (st' : List Nat) (x : V) : Option (V × List O) :=
  if known C src && marks then
  match C.shape dst, x with
  | .slice e, .s b => (match C.shape e with
    | .int .u8 => some (.sl σ.length st' 0 b.size 1 none, σ ++ [.cells st' (u8s b)])
    | _ => none)
  | .slice e, .sl r st off n es cap => (match C.shape e with
    | .int .u8 => (rowAt σ r st).bind fun cs => if src = dst ∧ 0 < cs.length then some (x, σ) else none
    | _ => none)
  | _, _ => none
  else none
def vk : V → Option (Nat × Bool)
  | .nilp => some (0, true) | .ptr .. | .iptr .. => some (0, false)
  | .nils => some (1, true) | .sl .. | .arr .. => some (1, false)
  | .nilm => some (2, true) | .map .. => some (2, false)
  | .nilf => some (3, true) | .fn .. => some (3, false)
  | .nili => some (4, true) | .iface .. => some (4, false)
  | _ => none
def tk (t : TypeId) : Option Nat :=
  match C.P.underlying t with
  | some (.pointer _) => some 0
  | some (.slice _) => some 1
  | some (.map _ _) => some 2
  | some (.func _ _ _) => some 3
  | some (.interface _) => some 4
  | _ => none
def pureV (m : Sem Value) : Option V := (pureRun C.P m).map ofVal
def binA (op : BinOp) (t : TypeId) (x y : Operand) (a b : V) : Option V :=
  match toVal a, toVal b with
  | some u, some v => pureV C (do eqGuard op t x y u v; binOp op t u v)
  | _, _ => none
def oneNil (t : TypeId) (a b : V) : Bool :=
  match tk C t, vk a, vk b with
  | some k, some (i, x), some (j, y) => k == i && k == j && x != y
  | _, _, _ => false
def eqNilA (op : BinOp) (t : TypeId) (a b : V) : Option V :=
  if oneNil C t a b then match op with
    | .eql => some (.b false)
    | .neq => some (.b true)
    | _ => none
  else none
def fillA (cs : List V) : List (Nat × Nat × V) → Option (List V)
  | [] => some cs
  | (off, n, v) :: rest => if v.cells.length = n ∧ off + n ≤ cs.length ∧ v.cells.all V.one then fillA (splice cs off v.cells) rest else none
def partsAt (place : Nat → Option (Nat × Nat)) : List (Nat × V) → Option (List (Nat × Nat × V))
  | [] => some []
  | (i, v) :: rest => (place i).bind fun (off, n) => (partsAt place rest).map fun l => (off, n, v) :: l
def Cfg.places (t : TypeId) : Option (List (Nat × Nat)) :=
  match C.P.underlying t with
  | some (.struct fs) => fs.toList.mapM fun f => (C.size f.type).map fun n => (f.offset, n)
  | _ => none
def buildA (t : TypeId) (parts : List (Nat × V)) : Option V :=
  (C.zero t).bind fun z => match C.shape t with
    | .array _ e => (C.size e).bind fun n => (partsAt (fun i => some (i * n, n)) parts).bind fun l => (fillA z.cells l).map V.agg
    | _ => (C.places t).bind fun pl => (partsAt (fun i => pl[i]?) parts).bind fun l => (fillA z.cells l).map V.agg
def buildSliceA (t : TypeId) (len : Nat) (parts : List (Nat × V)) (σ : List O) (st' : List Nat) : Option (V × List O) :=
  (C.elem t).bind fun (e, z, zv) => if len * z > 16777216 then none else if len = 0 then (match parts with | [] => some (.arr [] 0 true, σ) | _ => none) else
      (partsAt (fun i => some (i * z, z)) parts).bind fun l => (fillA (List.replicate len zv.cells).flatten l).map fun cs =>
        (.sl σ.length st' 0 len z (some len), σ ++ [.cells st' cs])
def makeSliceA (t : TypeId) (l c : V) (σ : List O) (st' : List Nat) : Option (V × List O) :=
  match l, c with
  | .i .i64 n, .i .i64 k => (C.elem t).bind fun (e, z, zv) => if 0 ≤ n then if n ≤ k then
      if k ≤ 9223372036854775807 ∧ roomy (k.toNat * C.bytes e) then some (.sl σ.length st' 0 n.toNat z (some k.toNat), σ ++ [.cells st' (List.replicate k.toNat zv.cells).flatten]) else none
    else none else none
  | _, _ => none

def arrPtrA (t : TypeId) (x : V) : Option V :=
  match C.shape t, x with
  | .array n _, .sl r st o k _ _ => if n ≤ k then some (.ptr r st o) else none
  | .array n _, .arr cs k _ => if n ≤ k then some (.iptr cs) else none
  | _, _ => none
def derefA : V → Option V
  | .ptr r st o => some (.ptr r st o)
  | .iptr cs => some (.iptr cs)
  | .fn f first cap => some (.fn f first cap)
  | _ => none
def ifaceA (t : TypeId) (v : V) : Option V := match C.shape t with | .iface => none | _ => if known C t then some (.iface t v) else none
abbrev CallF := Nat → List V → List O → List Nat → Option (V × List O)

def callA (call : CallF) (p : List Nat) (f : V) (args : List V) (σ : List O) (c : Nat) : Option (V × List O) :=
  match f with
  | .fn g first cap => call g (first ++ args ++ cap) σ (c :: p)
  | _ => none
def builtinA (b : Builtin) (ts : Array TypeId) (args : List V) (σ : List O) (st' : List Nat) : Option (V × List O) :=
  match b, args with
  | .append, [s, x] => (match ts.toList with | [t, u] => (match C.shape u with | .int _ => (match x with | .i .i64 k => appendZA C t σ st' s k | _ => none) | _ => if known C u then appendA C t σ st' s x else none) | _ => none)
  | .copy, [d, x] => (match ts.toList with | [t, _] => copyA C t σ d x | _ => none)
  | .clear, [d] => (match ts.toList with | [t] => if known C t then clearA C t σ d else none | _ => none)
  | _, _ => none
def builtinP (b : Builtin) (ts : Array TypeId) (args : List V) (σ : List O) : Option V :=
  match b, args with
  | .len, [x] => (match ts.toList with | [t] => lenA C t σ x | _ => none)
  | .cap, [x] => (match ts.toList with | [t] => (match C.shape t with | .slice _ => capA x | _ => none) | _ => none)
  | .min, xs => foldA minA xs
  | .max, xs => foldA maxA xs
  | _, _ => none
def changes : Builtin → Bool
  | .append | .copy | .clear => true
  | _ => false

def opA (p : List Nat) (ev : Operand → V) (σ : List O) (c : Nat) : Op → Option (V × List O × Nat)
  | .move x | .assign x => some (ev x, σ, c)
  | .pick k a b => match ev k with | .b x => some (if x then ev a else ev b, σ, c) | _ => none
  | .alloc e => (C.zero e).map fun z => (.ptr σ.length (c :: p) 0, σ ++ [.cells (c :: p) z.cells], c + 1)
  | .box e x => if (ev x).cells.all V.one then some (.ptr σ.length (c :: p) 0, σ ++ [.cells (c :: p) (ev x).cells], c + 1) else none
  | .build t parts => (buildA C t (parts.toList.map fun (i, x) => (i, ev x))).map fun v => (v, σ, c)
  | .buildSlice t len parts => (buildSliceA C t len (parts.toList.map fun (i, x) => (i, ev x)) σ (c :: p)).map fun (v, σ) => (v, σ, c + 1)
  | .load t a => (loadA C t σ (ev a)).map fun v => (v, σ, c)
  | .store t a x => (storeA C t σ (ev a) (ev x)).map fun σ => (.un, σ, c + 1)
  | .nilCheck x => (derefA (ev x)).map fun v => (v, σ, c)
  | .binOp op t x y _ => (match binA C op t x y (ev x) (ev y) with | some v => some v | none => eqNilA C op t (ev x) (ev y)).map fun v => (v, σ, c)
  | .unOp op _ x => ((toVal (ev x)).bind fun u => pureV C (Op.unary op u)).map fun v => (v, σ, c)
  | .convert src dst x => (match C.shape dst with
    | .slice _ => (convertA C src dst σ (c :: p) (ev x)).map fun (v, σ) => (v, σ, c + 1)
    | _ => (convertP C src dst σ (ev x)).map fun v => (v, σ, c))
  | .makeInterface t x => (ifaceA C t (ev x)).map fun v => (v, σ, c)
  | .makeFunc (.func f) first cap => some (.fn f (first.toList.map ev) (cap.toList.map ev), σ, c)
  | .makeMap t none => some (.map σ.length (c :: p), σ ++ [.map (c :: p) []], c + 1)
  | .makeSlice t l k => (makeSliceA C t (ev l) (ev k) σ (c :: p)).map fun (v, σ) => (v, σ, c + 1)
  | .slice t x lo hi mx => if mx.isSome && hi.isNone then none else (sliceA C t (ev x) (lo.map ev) (hi.map ev) (mx.map ev)).map fun v => (v, σ, c)
  | .fieldAddr t x f => (fieldAddrA C t (ev x) f).map fun v => (v, σ, c)
  | .field t x f => (match ev x with | .agg cs => (C.field t f).bind fun (off, ty) => partA C ty cs off | _ => none).map fun v => (v, σ, c)
  | .indexAddr t x ix => (indexAddrA C t (ev x) (ev ix)).map fun v => (v, σ, c)
  | .sliceToArrayPointer t x => (arrPtrA C t (ev x)).map fun v => (v, σ, c)
  | .index t x ix => (indexA C t (ev x) (ev ix)).map fun v => (v, σ, c)
  | .lookup t m k ok => (lookupA C t σ (ev m) (ev k) ok).map fun v => (v, σ, c)
  | .mapUpdate t m k x | .insert t m k x => (mapUpdateA C t σ (ev m) (ev k) (ev x)).map fun σ => (.un, σ, c + 1)
  | .extract x n => (match ev x with | .tup vs => vs[n]? | _ => none).map fun v => (v, σ, c)
  | .call { callee := .builtin b, args, argTypes } => if changes b then (builtinA C b argTypes (args.toList.map ev) σ (c :: p)).map fun (v, σ) => (v, σ, c + 1)
    else (builtinP C b argTypes (args.toList.map ev) σ).map fun v => (v, σ, c)
  | _ => none

def St.ev (C : Cfg) (s : St) : Operand → V
  | .tmp t => (s.t.get t).getD .un
  | .const v => ofVal v
  | .global g => match C.glob g with | some cs => .iptr cs | none => .bad
  | .func f => .fn f [] []
def St.put (s : St) (d : Option Nat) (v : V) : St := match d with | some d => if d < s.nt then { s with t := s.t.set d v } else s | none => s
def guardA (ops : Array Oper) (s : St) : Option (Nat × Bool) → Option Bool
  | none => some true
  | some (j, want) => match (ops[j]?).bind (·.dst) with
    | some d => (match s.t.get d with | some (.b x) => some (x == want) | some .bad => none | _ => some false)
    | none => some false
def stepA (call : CallF) (p : List Nat) (ops : Array Oper) (o : Oper) (s : St) : Option St :=
  (guardA ops s o.guard).bind fun g => if g then
    match o.op with
    | .call { callee := .value f, args, .. } => (callA call p (s.ev C f) (args.toList.map (s.ev C)) s.σ s.c).map fun (v, σ) => (⟨s.t, s.nt, σ, s.c + 1⟩ : St).put o.dst v
    | op => (opA C p (s.ev C) s.σ s.c op).map fun (v, σ, c) => (⟨s.t, s.nt, σ, c⟩ : St).put o.dst v
  else some (s.put o.dst .un)
def opsA (call : CallF) (p : List Nat) (ops : Array Oper) : List Oper → St → Option St
  | [], s => some s
  | o :: rest, s => (stepA C call p ops o s).bind fun s => opsA call p ops rest s

mutual
def V.eqb : V → V → Bool
  | .b x, .b y => x == y
  | .i k n, .i k' n' => decide (k = k') && decide (n = n')
  | .s x, .s y => decide (x = y)
  | .nilp, .nilp | .nils, .nils | .nilf, .nilf | .nili, .nili | .nilm, .nilm | .bad, .bad => true
  | .ptr r st o, .ptr r' st' o' => decide (r = r') && decide (st = st') && decide (o = o')
  | .iptr cs, .iptr cs' => V.eqbL cs cs'
  | .sl r st o n es c, .sl r' st' o' n' es' c' => decide (r = r') && decide (st = st') && decide (o = o') && decide (n = n') && decide (es = es') && decide (c = c')
  | .arr cs n c, .arr cs' n' c' => V.eqbL cs cs' && decide (n = n') && c == c'
  | .agg cs, .agg cs' => V.eqbL cs cs'
  | .fn f u1 u2, .fn f' u3 u4 => decide (f = f') && V.eqbL u1 u3 && V.eqbL u2 u4
  | .map r st, .map r' st' => decide (r = r') && decide (st = st')
  | .iface t v, .iface t' v' => decide (t = t') && V.eqb v v'
  | .tup u1, .tup u2 => V.eqbL u1 u2
  | _, _ => false
def V.eqbL : List V → List V → Bool
  | [], [] => true
  | u1 :: l1, u2 :: l2 => V.eqb u1 u2 && V.eqbL l1 l2
  | _, _ => false
end
def kvEqb : List (V × V) → List (V × V) → Bool
  | [], [] => true
  | (k1, v1) :: l1, (k2, v2) :: l2 => V.eqb k1 k2 && V.eqb v1 v2 && kvEqb l1 l2
  | _, _ => false
def O.eqb : Option O → Option O → Bool
  | none, none => true
  | some .dead, some .dead => true
  | some (.cells st cs), some (.cells st' cs') => decide (st = st') && V.eqbL cs cs'
  | some (.map st kvs), some (.map st' kvs') => decide (st = st') && kvEqb kvs kvs'
  | _, _ => false

def touch : V → List Nat
  | .ptr r _ _ | .sl r _ _ _ _ _ | .map r _ => [r]
  | _ => []
def touchM : V → List Nat
  | .map r _ => [r]
  | _ => []
def accs (ev : Operand → V) : Op → List Nat
  | .load _ a | .store _ a _ => touch (ev a)
  | .convert _ _ x => touch (ev x)
  | .lookup _ m _ _ | .mapUpdate _ m _ _ | .insert _ m _ _ => touch (ev m)
  | .call { callee := .builtin b, args, .. } => if changes b then args.toList.flatMap fun x => touch (ev x) else args.toList.flatMap fun x => touchM (ev x)
  | _ => []
def memOp : Op → Bool
  | .alloc _ | .box _ _ | .buildSlice .. | .store .. | .makeMap .. | .makeSlice .. | .mapUpdate .. | .insert .. => true
  | .convert _ dst _ => match C.shape dst with | .slice _ => true | _ => false
  | .call { callee := .builtin b, .. } => changes b
  | .call _ => true
  | _ => false
def accOp : Op → Bool
  | .load .. | .lookup .. | .convert .. => true
  | .call { callee := .builtin .len, .. } => true
  | _ => false
def traceA (call : CallF) (p : List Nat) (ops : Array Oper) : List Oper → St → Option (List (List O × List Nat) × St)
  | [], s => some ([(s.σ, [])], s)
  | o :: rest, s => (stepA C call p ops o s).bind fun s' => (traceA call p ops rest s').map fun (l, e) => ((s.σ, accs (s.ev C) o.op) :: l, e)
def okPair (l : List (List O × List Nat)) (ij : Nat × Nat) : Bool :=
  match l[ij.1]?, l[ij.1 + 1]?, l[ij.2]? with
  | some (σ, _), some (σ', _), some (_, rs) => rs.all fun r => O.eqb σ'[r]? σ[r]?
  | _, _, _ => false
def opsD (call : CallF) (p : List Nat) (ps : List (Nat × Nat)) (ops : Array Oper) (s : St) : Option St :=
  match ps with
  | [] => opsA C call p ops ops.toList s
  | ps => (traceA C call p ops ops.toList s).bind fun (l, e) => if ps.all (okPair l) then some e else none

/-! What is asked of a region that draws its order. -/
def edgeMask (acc : List Nat) (es : List Edge) : Nat := es.foldl (fun m e => if Region.binds .any e then m ||| 2 ^ e.on ||| acc.getD e.on 0 else m) 0
def masks : List Oper → List Nat → List Nat
  | [], acc => acc
  | o :: rest, acc => masks rest (acc ++ [edgeMask acc o.after.toList])
def okTwo (ps : List (Nat × Nat)) (ops : Array Oper) (i j : Nat) (x y : Oper) : Bool :=
  x.apart ops y && !(memOp C x.op && memOp C y.op) && (!(memOp C x.op && accOp y.op) || ps.contains (i, j)) && (!(memOp C y.op && accOp x.op) || ps.contains (j, i))
def okD (ps : List (Nat × Nat)) (ops : Array Oper) : Bool :=
  let ms := masks ops.toList []
  (ms.zipIdx.all fun (m, j) => m < 2 ^ j) && Region.noSelect ops &&
  (ops.toList.zipIdx.all fun (y, j) => ops.toList.zipIdx.all fun (x, i) => !(i < j) || (ms.getD j 0).testBit i || okTwo C ps ops i j x y)
/-! Regions that draw their order, and lay new variables beside other work: these are laid ahead. -/
def preO (o : Oper) : Option TypeId := match o.op, o.guard with | .alloc e, none => some e | _, _ => none
def stillO (o : Oper) : Option ((List V → Option V) × List Operand) := match o.op, o.guard with | .call { callee := .value (.func f), args, .. }, none => (C.still f).map fun g => (g, args.toList) | _, _ => none
def memX (o : Oper) : Bool := memOp C o.op && (preO o).isNone && (stillO C o).isNone
mutual
def V.stamps : V → List (List Nat)
  | .ptr _ st _ | .sl _ st _ _ _ _ | .map _ st => [st]
  | .iptr cs | .arr cs _ _ | .agg cs | .tup cs => V.stampsL cs
  | .fn _ u1 u2 => V.stampsL u1 ++ V.stampsL u2
  | .iface _ u1 => V.stamps u1
  | _ => []
def V.stampsL : List V → List (List Nat)
  | [] => []
  | u1 :: u2 => V.stamps u1 ++ V.stampsL u2
end
def within (v : V) (args : List V) : Bool := (V.stamps v).all fun st => (V.stampsL args).contains st
def stepX (call : CallF) (p : List Nat) (ops : Array Oper) (r0 c0 q : Nat) (o : Oper) (s : St) : Option St :=
  match preO o with
  | some _ => some (s.put o.dst (.ptr (r0 + q) ((c0 + q) :: p) 0))
  | none => match stillO C o with
    | some (g, args) => (g (args.map (s.ev C))).bind fun v => if within v (args.map (s.ev C)) then some (s.put o.dst v) else none
    | none => stepA C call p ops o s
def slotOf (ops : List Oper) (j : Nat) : Nat := (ops.take j).countP fun o => (preO o).isSome
def preObjs (p : List Nat) (c0 : Nat) : Nat → List Oper → Option (List O)
  | _, [] => some []
  | q, o :: l => match preO o with
    | some e => (C.zero e).bind fun z => (preObjs p c0 (q + 1) l).map fun os => .cells ((c0 + q) :: p) z.cells :: os
    | none => preObjs p c0 q l
def traceX (call : CallF) (p : List Nat) (ops : Array Oper) (r0 c0 : Nat) : Nat → List Oper → St → Option (List (List O × List Nat) × St)
  | _, [], s => some ([(s.σ, [])], s)
  | q, o :: rest, s => (stepX C call p ops r0 c0 q o s).bind fun s' => (traceX call p ops r0 c0 (if (preO o).isSome then q + 1 else q) rest s').map fun (l, e) => ((s.σ, accs (s.ev C) o.op) :: l, e)
def slotsOk (r0 : Nat) (l : List (List O × List Nat)) : Nat → List O → List Nat → Bool
  | _, [], [] => true
  | q, o :: os, m :: ms => (l.take (m + 1)).all (fun x => O.eqb x.1[r0 + q]? (some o)) && slotsOk r0 l (q + 1) os ms
  | _, _, _ => false
def opsX (call : CallF) (p : List Nat) (ps : List (Nat × Nat)) (ms : List Nat) (ops : Array Oper) (s : St) : Option St :=
  (preObjs C p s.c 0 ops.toList).bind fun objs =>
    (traceX C call p ops s.σ.length s.c 0 ops.toList ⟨s.t, s.nt, s.σ ++ objs, s.c + objs.length⟩).bind fun (l, e) =>
      if ps.all (okPair l) && slotsOk s.σ.length l 0 objs ms then some e else none
def okTwoX (ps : List (Nat × Nat)) (ops : Array Oper) (i j : Nat) (x y : Oper) : Bool :=
  x.apart ops y && !(memX C x && memX C y) && (!(memX C x && accOp y.op) || ps.contains (i, j)) && (!(memX C y && accOp x.op) || ps.contains (j, i))
def okX (ps : List (Nat × Nat)) (ms : List Nat) (ops : Array Oper) : Bool :=
  let bs := masks ops.toList []
  (bs.zipIdx.all fun (m, j) => m < 2 ^ j) && Region.noSelect ops &&
  (ops.toList.zipIdx.all fun (y, j) => ops.toList.zipIdx.all fun (x, i) => !(i < j) || (bs.getD j 0).testBit i || okTwoX C ps ops i j x y) &&
  (ops.toList.zipIdx.all fun (x, i) => (preO x).isNone || (ops.toList.zipIdx.any fun (y, j) => memX C y && (bs.getD j 0).testBit i && decide (j ≤ ms.getD (slotOf ops.toList i) 0)) || decide (ops.size ≤ ms.getD (slotOf ops.toList i) 0))
def okN (g id : Nat) (ops : Array Oper) : Bool := match C.pre g id with | some ms => okX C (C.cls g id) ms ops | none => okD C (C.cls g id) ops
def regsOk (g : Nat) : Code → Bool
  | .region id ops draw => !draw || ((C.hook g id).isSome || okN C g id ops)
  | .seq a b | .cond _ a b | .rangeFunc _ _ a b => regsOk g a && regsOk g b
  | .block _ a | .loop a | .scope a => regsOk g a
  | _ => true
def fnsOk : Bool := (List.range C.P.funcs.size).all fun f => C.bar f || (C.prim f).isSome || match C.P.funcs[f]? with
  | some fn => (match fn.body with | some c => regsOk C f c | none => true) && fn.name != "runtime.NumGoroutine"
  | none => true

inductive Ex where
  | normal | exit (id : Nat) | ret
  deriving DecidableEq
def loopA (f : St → Option (Ex × St)) : Nat → St → Option (Ex × St)
  | 0, _ => none
  | n + 1, s => (f s).bind fun (e, s') => match e with | .normal => loopA f n s' | e => some (e, s')
def drawN (call : CallF) (g id : Nat) (p : List Nat) (ops : Array Oper) (s : St) : Option St :=
  match C.pre g id with
  | some ms => opsX C call p (C.cls g id) ms ops s
  | none => opsD C call p (C.cls g id) ops s
def drawA (call : CallF) (g id : Nat) (p : List Nat) (ops : Array Oper) (s : St) : Option St :=
  match C.hook g id with
  | some h => h p s
  | none => drawN C call g id p ops s
def noR (g : Nat) : Code → Bool
  | .region id _ draw => !draw || (C.hook g id).isNone
  | .seq a b | .cond _ a b => noR g a && noR g b
  | .block _ a | .loop a => noR g a
  | .rangeFunc .. | .scope _ => false
  | _ => true
def rangeA (fa fb : St → Option (Ex × St)) (ps rows : List Nat) (σ0 : List O) (s0 : St) : List (List V) → St → Option (Ex × St)
  | [], s => some (.normal, s)
  | vs :: rest, s =>
    if vs.length = ps.length then
      (fa ((ps.zip vs).foldl (fun s x => s.put (some x.1) x.2) ⟨s0.t, s0.nt, s.σ, s.c⟩)).bind fun (e, s1) => match e with
        | .normal => (fb s1).bind fun (e, s2) => match e with
          | .normal => if rows.all (fun r => O.eqb s2.σ[r]? σ0[r]?) then rangeA fa fb ps rows σ0 s0 rest ⟨s0.t, s0.nt, s2.σ, s2.c⟩ else none
          | e => some (e, ⟨s0.t, s0.nt, s2.σ, s2.c⟩)
        | _ => none
    else none
def codeA (call : CallF) (g : Nat) (p : List Nat) (n : Nat) : Code → St → Option (Ex × St)
  | .skip, s | .label _, s => some (.normal, s)
  | .region id ops draw, s => (if draw then drawA C call g id p ops s else opsA C call p ops ops.toList s).map fun s => (.normal, s)
  | .seq a b, s => (codeA call g p n a s).bind fun (e, s') => match e with | .normal => codeA call g p n b s' | e => some (e, s')
  | .cond k a b, s => match s.ev C k with | .b x => if x then codeA call g p n a s else codeA call g p n b s | _ => none
  | .block id a, s => (codeA call g p n a s).map fun (e, s') => (if e = .exit id then .normal else e, s')
  | .loop a, s => loopA (codeA call g p n a) n s
  | .scope a, s => codeA call g p n a s
  | .rangeFunc f ps a b, s => if noR C g a && noR C g b then (match s.ev C f with
      | .fn gf [] cap => (match C.iter gf with
        | some it => (it cap s.σ).bind fun (rows, yss) => rangeA (codeA call g p n a) (codeA call g p n b) ps.toList rows s.σ ⟨s.t, s.nt, [], 0⟩ yss s
        | none => none)
      | _ => none) else none
  | .exit id, s => some (.exit id, s)
  | .ret, s => some (.ret, s)
  | _, _ => none

def resA (s : St) : List ResultVar → Option (List V)
  | [] => some []
  | .tmp t :: l => (resA s l).map fun vs => (s.t.get t).getD .un :: vs
  | .cell a t :: l => (loadA C t s.σ ((s.t.get a).getD .un)).bind fun v => (resA s l).map fun vs => v :: vs
def tupled : List V → V
  | [v] => v
  | vs => .tup vs
def freeze1 (base : Nat) (σ : List O) : Nat → V → V
  | d + 1, .sl r st o n es cap => if base ≤ r then match rowAt σ r st with
      | some cs => if n = 0 then .arr [] 0 (cap == some 0) else .arr (((cs.drop o).take (n * es)).map (freeze1 base σ d)) n (cap == some n)
      | none => .sl r st o n es cap
    else .sl r st o n es cap
  | _, v => v
def freezeC (base : Nat) (σ : List O) : V → V
  | .agg cs => .agg (cs.map (freeze1 base σ 4))
  | v => freeze1 base σ 4 v
def freeze (base : Nat) (σ : List O) : V → V
  | .tup vs => .tup (vs.map (freezeC base σ))
  | v => freezeC base σ v
def frzAt (base : Nat) (σ : List O) (o : Nat) (cs : List V) (k : Nat) : List V :=
  match cs[o + k]? with
  | some v => cs.set (o + k) (freeze1 base σ 4 v)
  | none => cs
def escape (base : Nat) (σ : List O) (args : List V) : List (Nat × List Nat) → List O → List O
  | [], σ' => σ'
  | (j, offs) :: rest, σ' => escape base σ args rest (match args[j]? with
      | some (.ptr r st o) => (match σ'[r]? with
        | some (.cells st' cs) => σ'.set r (.cells st' (offs.foldl (frzAt base σ o) cs))
        | _ => σ')
      | _ => σ')
def doneA (f : Nat) (p : List Nat) (base : Nat) (args : List V) (rs : List ResultVar) : Ex × St → Option (V × List O)
  | (.exit _, _) => none
  | (_, s) => (resA C s rs).map fun vs =>
    if C.keep f p then (tupled vs, s.σ)
    else (freeze base s.σ (tupled vs), escape base s.σ args (C.esc f) (s.σ.take base))
def runA : Nat → CallF
  | 0, _, _, _, _ => none
  | k + 1, f, args, σ, p =>
    match C.prim f with
    | some g => (g args σ).map fun v => (v, σ)
    | none => match C.primM f with
    | some g => g args σ p
    | none => if C.bar f then none else match C.P.funcs[f]? with
    | some fn => (match fn.body with
      | some c => (codeA C (runA k) f p k c ⟨T.ofList args, max args.length fn.ntmps, σ, 0⟩).bind (doneA C f p σ.length args fn.results.toList)
      | none => none)
    | none => none
end
end Go.Am
