/- A fast machine over the abstract one: types by tables, memory as a tree, great rows by what differs. -/
import Derived.Test.YtgagaobijjahhaaGreatDoorAmFlat
namespace Go.Am
set_option linter.unusedVariables false
set_option linter.unusedSimpArgs false

noncomputable def T.getB {α : Type} (t : T α) : Nat → Option α :=
  T.rec (motive := fun _ => Nat → Option α) (fun _ => none)
    (fun v _ _ ia ib k => Bool.rec (Bool.rec (ib (Nat.pred (Nat.div k 2))) (ia (Nat.div k 2)) (Nat.beq (Nat.mod k 2) 1)) v (Nat.beq k 0)) t
noncomputable def T.one {α : Type} (x : α) (f : Nat) : Nat → T α :=
  Nat.rec (motive := fun _ => Nat → T α) (fun _ => .l) (fun _ ih k => Bool.rec (Bool.rec (.n none .l (ih (Nat.pred (Nat.div k 2)))) (.n none (ih (Nat.div k 2)) .l) (Nat.beq (Nat.mod k 2) 1)) (.n (some x) .l .l) (Nat.beq k 0)) f
noncomputable def T.setB {α : Type} (t : T α) (k : Nat) (x : α) : T α :=
  T.rec (motive := fun _ => Nat → T α) (fun k => T.one x (Nat.succ k) k)
    (fun v a b ia ib k => Bool.rec (Bool.rec (.n v a (ib (Nat.pred (Nat.div k 2)))) (.n v (ia (Nat.div k 2)) b) (Nat.beq (Nat.mod k 2) 1)) (.n (some x) a b) (Nat.beq k 0)) t k
noncomputable def T.setK {α β : Type} (t : T α) (k : Nat) (x : α) (K : T α → β) : β :=
  T.rec (motive := fun _ => Nat → (T α → β) → β) (fun k K => K (T.one x (Nat.succ k) k))
    (fun v a b ia ib k K => Bool.rec (Bool.rec (ib (Nat.pred (Nat.div k 2)) fun b' => K (.n v a b')) (ia (Nat.div k 2) fun a' => K (.n v a' b)) (Nat.beq (Nat.mod k 2) 1)) (K (.n (some x) a b)) (Nat.beq k 0)) t k K
noncomputable def ofB {α : Type} : List α → Nat → T α → T α
  | [], _, t => t
  | x :: l, k, t => T.setK t k x fun t => ofB l (Nat.succ k) t
noncomputable def kindEq (a b : IntKind) : Bool := Nat.beq a.ctorIdx b.ctorIdx
noncomputable def addI : Int → Int → Int
  | .ofNat a, .ofNat b => .ofNat (Nat.add a b)
  | a, b => a + b
noncomputable def subI : Int → Int → Int
  | .ofNat a, .ofNat b => Bool.rec (.ofNat a - .ofNat b) (.ofNat (Nat.sub a b)) (Nat.ble b a)
  | a, b => a - b
noncomputable def mulI : Int → Int → Int
  | .ofNat a, .ofNat b => .ofNat (Nat.mul a b)
  | a, b => a * b
structure TI where
  size : Nat
  agg : Bool
  shape : Sh
  zero : V
  bytes : Nat
  flds : List (Nat × Nat × Nat)
  fl : Option (List Fk)
  tk : Option Nat

inductive OB where
  | o (x : O)
  | tab (st : List Nat) (n w : Nat) (d : List V) (ov : T (List V))
structure Mem where
  n : Nat
  h : T OB
noncomputable def Mem.get (m : Mem) (r : Nat) : Option OB := if Nat.blt r m.n then m.h.getB r else none
noncomputable def Mem.put (m : Mem) (r : Nat) (x : OB) : Mem := ⟨m.n, m.h.setB r x⟩
noncomputable def Mem.push (m : Mem) (x : OB) : Mem := ⟨m.n + 1, m.h.setB m.n x⟩
noncomputable def stEq : List Nat → List Nat → Bool
  | [], [] => true
  | a :: l, b :: m => match Nat.beq a b with | true => stEq l m | false => false
  | _, _ => false
noncomputable def takeN (l : List V) : Nat → Option (List V) :=
  List.rec (motive := fun _ => Nat → Option (List V)) (fun n => Nat.rec (some []) (fun _ _ => none) n)
    (fun x _ ih n => Nat.rec (some []) (fun n _ => Option.rec none (fun r => some (x :: r)) (ih n)) n) l
noncomputable def dropN (l : List V) : Nat → Option (List V) :=
  List.rec (motive := fun _ => Nat → Option (List V)) (fun n => Nat.rec (some []) (fun _ _ => none) n)
    (fun x l ih n => Nat.rec (some (x :: l)) (fun n _ => ih n) n) l
noncomputable def layN : List V → Nat → List V → Option (List V)
  | l, 0, [] => some l
  | _ :: l, 0, x :: xs => match layN l 0 xs with | some r => some (x :: r) | none => none
  | y :: l, k + 1, xs => match layN l k xs with | some r => some (y :: r) | none => none
  | _, _, _ => none
structure SB where
  t : T V
  m : Mem
  c : Nat
section
variable (K : T TI)
noncomputable def cellsAtB (m : Mem) (n : Nat) : V → Option (List V)
  | .ptr r st off => match m.get r with
    | some (.o (.cells st' cs)) => match stEq st' st with | true => (dropN cs off).bind fun l => takeN l n | false => none
    | some (.tab st' k w d ov) => match stEq st' st with
      | true => match Nat.ble (off % w + n) w with
        | true => match Nat.blt (off / w) k with
          | true => (dropN ((ov.getB (off / w)).getD d) (off % w)).bind fun l => takeN l n
          | false => none
        | false => none
      | false => none
    | _ => none
  | .iptr cs => takeN cs n
  | _ => none
noncomputable def loadB (t : TypeId) (m : Mem) (a : V) : Option V :=
  (K.getB t).bind fun ti => match ti.agg with
    | true => (cellsAtB m ti.size a).map V.agg
    | false => match cellsAtB m 1 a with | some [v] => some v | _ => none
noncomputable def fkEq (a b : V) : Bool := match a, b with | .i k _, .i k' _ => Nat.beq k.ctorIdx k'.ctorIdx | .b _, .b _ => true | .s _, .s _ => true | _, _ => false
noncomputable def sameK : List V → List V → Bool
  | [], [] => true
  | a :: l, b :: m => match fkEq a b with | true => sameK l m | false => false
  | _, _ => false
noncomputable def storeB (t : TypeId) (m : Mem) (a x : V) : Option Mem :=
  match a with
  | .ptr r st off => (K.getB t).bind fun ti => match Nat.beq x.cells.length ti.size && x.cells.all V.one with
    | true => match m.get r with
      | some (.o (.cells st' cs)) => match stEq st' st with | true => (layN cs off x.cells).map fun cs => m.put r (.o (.cells st cs)) | false => none
      | some (.tab st' k w d ov) => match stEq st' st with
        | true => match Nat.blt (off / w) k with
          | true => (layN ((ov.getB (off / w)).getD d) (off % w) x.cells).bind fun cs => match sameK cs d with | true => some (m.put r (.tab st k w d (ov.setB (off / w) cs))) | false => none
          | false => none
        | false => none
      | _ => none
    | false => none
  | _ => none
noncomputable def elemsB (z : Nat) (m : Mem) : V → Option (Nat × List V)
  | .nils => some (0, [])
  | .arr cs n _ => (takeN cs (n * z)).map fun l => (n, l)
  | .sl r st o n es _ => match Nat.beq es z with
    | true => match m.get r with
      | some (.o (.cells st' cs)) => match stEq st' st with | true => ((dropN cs o).bind fun l => takeN l (n * z)).map fun l => (n, l) | false => none
      | _ => none
    | false => none
  | .s x => match Nat.beq z 1 with | true => some (x.size, u8s x) | false => none
  | _ => none
noncomputable def wholeB (z : Nat) (m : Mem) : V → Option (Nat × Nat × List V × T (List V))
  | .sl r st 0 n es _ => match m.get r with
    | some (.tab st' k w d ov) => match stEq st' st && Nat.beq es z && Nat.beq (n * z) (k * w) with | true => some (k, w, d, ov) | false => none
    | _ => none
  | _ => none
end
noncomputable def forceN {α : Type} (m : Nat) (k : Nat → α) : α := match m with | 0 => k 0 | m + 1 => k (m + 1)
noncomputable def forceI {α : Type} (n : Int) (k : Int → α) : α := match n with | .ofNat m => forceN m fun m => k (.ofNat m) | .negSucc m => forceN m fun m => k (.negSucc m)
noncomputable def ukind : IntKind → Nat
  | .u8 => 256 | .u16 => 65536 | .u32 => 4294967296 | .u64 => 18446744073709551616
  | _ => 0
noncomputable def wrapB (k : IntKind) (n : Int) : Int :=
  match n with
  | .ofNat m => (match k with
    | .i64 => bif Nat.blt m 9223372036854775808 then n else k.wrap n
    | .u8 => .ofNat (Nat.mod m 256)
    | .u32 => .ofNat (Nat.mod m 4294967296)
    | .u64 => .ofNat (Nat.mod m 18446744073709551616)
    | k => k.wrap n)
  | n => k.wrap n
noncomputable def intR (k : IntKind) (n : Int) : Option V := forceI (wrapB k n) fun n => some (.i k n)
noncomputable def ltI : Int → Int → Bool
  | .ofNat a, .ofNat b => Nat.blt a b
  | .ofNat _, .negSucc _ => false
  | .negSucc _, .ofNat _ => true
  | .negSucc a, .negSucc b => Nat.blt b a
noncomputable def eqI : Int → Int → Bool
  | .ofNat a, .ofNat b => Nat.beq a b
  | .negSucc a, .negSucc b => Nat.beq a b
  | _, _ => false
noncomputable def eqV : V → V → Option Bool
  | .i k a, .i k' b => @Bool.rec (fun _ => Option Bool) none (some (eqI a b)) (kindEq k k')
  | .b a, .b b => some (a == b)
  | .s a, .s b => some (decide (a = b))
  | _, _ => none
noncomputable def eqCs : List V → List V → Option Bool
  | [], [] => some true
  | a :: l, b :: m => match eqV a b with
    | some true => eqCs l m
    | some false => some false
    | none => none
  | _, _ => none
noncomputable def fkB : V → Fk → Bool
  | .i k _, .i k' => kindEq k k'
  | .s _, .s => true
  | .b _, .b => true
  | _, _ => false
noncomputable def fksOk : List V → List Fk → Bool
  | [], [] => true
  | v :: l, k :: m => @Bool.rec (fun _ => Bool) false (fksOk l m) (fkB v k)
  | _, _ => false
section
variable (K : T TI)
noncomputable def intOf (v : V) (K : IntKind → Int → Option V) : Option V := match v with | .i k x => K k x | _ => none
noncomputable def arB (f : Int → Int → Int) (a b : V) : Option V := intOf a fun k x => intOf b fun k' y => Bool.rec none (intR k (f x y)) (kindEq k k')
noncomputable def cmpB (f : Int → Int → Bool) (a b : V) : Option V := intOf a fun k x => intOf b fun k' y => Bool.rec none (Bool.rec (some (.b false)) (some (.b true)) (f x y)) (kindEq k k')
noncomputable def intP (k : IntKind) (n : Int) : Option V := forceI n fun n => some (.i k n)
noncomputable def remB (a b : V) : Option V := intOf a fun k x => intOf b fun k' y => Bool.rec none (Bool.rec (intP k (Int.tmod x y)) none (eqI y 0)) (kindEq k k')
noncomputable def divB (f : Int → Int → Int) (a b : V) : Option V := intOf a fun k x => intOf b fun k' y => Bool.rec none (Bool.rec (intR k (f x y)) none (eqI y 0)) (kindEq k k')
noncomputable def bitB (f : Nat → Nat → Nat) (a b : V) : Option V := intOf a fun k x => intOf b fun k' y => Bool.rec none (match x, y with | .ofNat a, .ofNat b => Bool.rec none (some (.i k (.ofNat (f a b)))) (Nat.blt a (ukind k) && Nat.blt b (ukind k)) | _, _ => none) (kindEq k k')
noncomputable def shB (r : IntKind → Int → Option V) (f : Nat → Nat → Nat) (a b : V) : Option V := intOf a fun k x => intOf b fun k' y => match x, y with | .ofNat a, .ofNat b => Bool.rec none (r k (.ofNat (f a (min b k.bits)))) (Nat.blt b 65) | _, _ => none
noncomputable def eqlB (K : T TI) (t : TypeId) (a b : V) : Option Bool :=
  match a with
  | .i k x => (match b with | .i k' y => Bool.rec none (some (eqI x y)) (kindEq k k') | _ => none)
  | .s x => (match b with | .s y => some (decide (x = y)) | _ => none)
  | .agg us => (match b with | .agg vs => (K.getB t).bind fun ti => ti.fl.bind fun l => if fksOk us l && fksOk vs l then eqCs us vs else none | _ => none)
  | a => (K.getB t).bind fun ti => match ti.tk, vk a, vk b with
    | some k, some (i, x), some (j, y) => if Nat.blt k 4 && (Nat.beq k i && (Nat.beq k j && xor x y)) then some false else none
    | _, _, _ => none
noncomputable def binB : BinOp → T TI → TypeId → V → V → Option V
  | .add => fun _ _ a b => arB addI a b
  | .sub => fun _ _ a b => arB subI a b
  | .mul => fun _ _ a b => arB mulI a b
  | .quo => fun _ _ a b => divB Int.tdiv a b
  | .rem => fun _ _ a b => remB a b
  | .lss => fun _ _ a b => cmpB ltI a b
  | .leq => fun _ _ a b => cmpB (fun x y => !ltI y x) a b
  | .gtr => fun _ _ a b => cmpB (fun x y => ltI y x) a b
  | .geq => fun _ _ a b => cmpB (fun x y => !ltI x y) a b
  | .eql => fun K t a b => (eqlB K t a b).map V.b
  | .neq => fun K t a b => (eqlB K t a b).map fun x => V.b (!x)
  | .and => fun _ _ a b => bitB Nat.land a b
  | .or => fun _ _ a b => bitB Nat.lor a b
  | .xor => fun _ _ a b => bitB Nat.xor a b
  | .shl => fun _ _ a b => shB intR Nat.shiftLeft a b
  | .shr => fun _ _ a b => shB intP Nat.shiftRight a b
  | _ => fun _ _ _ _ => none
noncomputable def sizeB (t : TypeId) : Option Nat := (K.getB t).map TI.size
noncomputable def shapeB (t : TypeId) : Sh := match K.getB t with | some ti => ti.shape | none => .bad
noncomputable def idxB (ix : V) (n : Nat) : Option Nat := match ix with | .i _ (.ofNat i) => if Nat.blt i n then some i else none | _ => none
noncomputable def bndB (x : Option V) (dflt : Nat) (lo hi : Nat) : Option Nat :=
  match x with
  | none => some dflt
  | some (.i _ (.ofNat i)) => if Nat.ble lo i && Nat.ble i hi then some i else none
  | _ => none
noncomputable def fieldAddrB (s : TypeId) (a : V) (f : Nat) : Option V :=
  (K.getB s).bind fun ti => (ti.flds[f]?).bind fun (off, ty, z) => if Nat.beq z 0 then none else
    match a with
    | .ptr r st o => forceN (o + off) fun o => some (.ptr r st o)
    | .iptr cs => (dropN cs off).map V.iptr
    | _ => none
noncomputable def partB (t : TypeId) (cs : List V) (off : Nat) : Option V :=
  (K.getB t).bind fun ti => match ti.agg with
    | true => ((dropN cs off).bind fun l => takeN l ti.size).map V.agg
    | false => cs[off]?
noncomputable def fieldB (s : TypeId) (a : V) (f : Nat) : Option V :=
  match a with
  | .agg cs => (K.getB s).bind fun ti => (ti.flds[f]?).bind fun (off, ty, z) => partB K ty cs off
  | _ => none
noncomputable def indexAddrB (t : TypeId) (x ix : V) : Option V :=
  match shapeB K t, x with
  | .array n e, .ptr r st o => (sizeB K e).bind fun z => (idxB ix n).bind fun i => if Nat.beq z 0 then none else forceN (o + i * z) fun o => some (.ptr r st o)
  | .array n e, .iptr cs => (sizeB K e).bind fun z => (idxB ix n).bind fun i => if Nat.beq z 0 then none else (dropN cs (i * z)).map V.iptr
  | .slice e, .sl r st o n _ _ => (sizeB K e).bind fun z => (idxB ix n).bind fun i => if Nat.beq z 0 then none else forceN (o + i * z) fun o => some (.ptr r st o)
  | .slice e, .arr cs n _ => (sizeB K e).bind fun z => (idxB ix n).bind fun i => if Nat.beq z 0 then none else (dropN cs (i * z)).map V.iptr
  | _, _ => none
noncomputable def indexB (t : TypeId) (x ix : V) : Option V :=
  match shapeB K t, x with
  | .array n e, .agg cs => (sizeB K e).bind fun z => (idxB ix n).bind fun i => partB K e cs (i * z)
  | .string, .s s => (idxB ix s.size).bind fun i => (s[i]?).map fun b => .i .u8 b.toNat
  | _, _ => none
noncomputable def sliceB (t : TypeId) (x : V) (lo hi mx : Option V) : Option V :=
  match shapeB K t, x, mx with
  | .string, .s s, none => (bndB hi s.size 0 s.size).bind fun h => (bndB lo 0 0 h).bind fun l => some (.s (s.extract l h))
  | .slice e, .sl r st o n es cap, none => (sizeB K e).bind fun z => if Nat.beq z es then
      (bndB hi n 0 (match cap with | some c => c | none => n)).bind fun h => (bndB lo 0 0 h).bind fun l =>
        if Nat.blt l n then some (.sl r st (o + l * es) (h - l) es (cap.map (· - l))) else (match lo with | some _ => if Nat.beq h l && Nat.beq h n then some (.arr [] 0 false) else none | none => none)
      else none
  | .slice e, .sl r st o n es cap, some m => (sizeB K e).bind fun z => if Nat.beq z es then
      (bndB mx 0 0 n).bind fun m => (bndB hi n 0 m).bind fun h => (bndB lo 0 0 h).bind fun l =>
        if Nat.blt l m then some (.sl r st (o + l * es) (h - l) es (some (m - l))) else some (.arr [] 0 true)
      else none
  | .slice e, .arr cs n cl, none => (sizeB K e).bind fun z => (bndB hi n 0 n).bind fun h => (bndB lo 0 0 h).bind fun l => some (.arr ((cs.take (h * z)).drop (l * z)) (h - l) (cl && Nat.beq h n))
  | .slice e, .arr cs n cl, some _ => (sizeB K e).bind fun z => (bndB mx 0 0 n).bind fun m => (bndB hi n 0 m).bind fun h => (bndB lo 0 0 h).bind fun l => some (.arr ((cs.take (h * z)).drop (l * z)) (h - l) (Nat.beq h m))
  | .slice e, .nils, none => (sizeB K e).bind fun z => (bndB hi 0 0 0).bind fun h => (bndB lo 0 0 h).bind fun l => some .nils
  | .slice e, .nils, some _ => (sizeB K e).bind fun z => (bndB mx 0 0 0).bind fun m => (bndB hi 0 0 m).bind fun h => (bndB lo 0 0 h).bind fun l => some .nils
  | .array k e, .ptr r st o, none => (sizeB K e).bind fun z => (bndB hi k 0 k).bind fun h => (bndB lo 0 0 h).bind fun l =>
        if Nat.blt l k then some (.sl r st (o + l * z) (h - l) z (some (k - l))) else some (.arr [] 0 true)
  | .array k e, .iptr cs, none => (sizeB K e).bind fun z => (bndB hi k 0 k).bind fun h => (bndB lo 0 0 h).bind fun l => some (.arr ((cs.take (h * z)).drop (l * z)) (h - l) (Nat.beq h k))
  | _, _, _ => none
noncomputable def newRow (st : List Nat) (n : Nat) (d : List V) : OB := if Nat.blt 4000 (n * d.length) then .tab st n d.length d .l else .o (.cells st (List.replicate n d).flatten)
noncomputable def appendB (t : TypeId) (m : Mem) (st' : List Nat) (s x : V) : Option (V × Mem) :=
  match shapeB K t with
  | .slice e => (K.getB e).bind fun ti =>
    match s with
    | .arr cs 0 true => (match wholeB ti.size m x with
      | some (k, w, d, ov) => if Nat.beq w ti.size && !Nat.beq k 0 && Nat.ble (k * ti.bytes) 140737488355328 then some (.sl m.n st' 0 k ti.size none, m.push (.tab st' k w d ov)) else none
      | none => (elemsB ti.size m x).bind fun (n, news) => if Nat.beq n 0 then some (s, m) else if Nat.ble (n * ti.bytes) 140737488355328 then some (.sl m.n st' 0 n ti.size none, m.push (.o (.cells st' news))) else none)
    | .nils => (elemsB ti.size m x).bind fun (n, news) => if Nat.beq n 0 then some (.nils, m) else if Nat.ble (n * ti.bytes) 140737488355328 then some (.sl m.n st' 0 n ti.size none, m.push (.o (.cells st' news))) else none
    | .arr cs n clip => (elemsB ti.size m x).bind fun (k, news) => if Nat.beq k 0 then some (s, m)
      else if clip && Nat.ble ((n + k) * ti.bytes) 140737488355328 then (takeN cs (n * ti.size)).map fun l => (.sl m.n st' 0 (n + k) ti.size none, m.push (.o (.cells st' (l ++ news)))) else none
    | .sl r st o n es cap => if Nat.beq es ti.size then (elemsB ti.size m x).bind fun (k, news) =>
      (match m.get r with
      | some (.o (.cells st2 cs)) => if stEq st2 st then
        if Nat.beq k 0 then some (s, m)
        else if Nat.ble (o + (n + k) * es) cs.length && capFits cap (n + k) then (layN cs (o + n * es) news).map fun cs => (.sl r st o (n + k) es cap, m.put r (.o (.cells st cs)))
        else if Nat.ble ((n + k) * ti.bytes) 140737488355328 then
          match cap with
          | some c => if Nat.blt c (n + k) then ((dropN cs o).bind fun l => takeN l (n * es)).map fun l => (.sl m.n st' 0 (n + k) es none, m.push (.o (.cells st' (l ++ news)))) else none
          | none => if Nat.beq o 0 && Nat.beq (n * es) cs.length then some (.sl r st' 0 (n + k) es none, m.put r (.o (.cells st' (cs ++ news)))) else none
        else none
        else none
      | _ => none)
      else none
    | _ => none
  | _ => none
noncomputable def copyB (t : TypeId) (m : Mem) (d x : V) : Option (V × Mem) :=
  match shapeB K t with
  | .slice e => (K.getB e).bind fun ti => (elemsB ti.size m x).bind fun (k, xs) =>
    match d with
    | .sl r st o n es _ => if Nat.beq es ti.size then
      match m.get r with
      | some (.o (.cells st' cs)) => if stEq st' st && Nat.ble (o + n * es) cs.length then (layN cs o (xs.take (min k n * es))).map fun cs => (.i .i64 ((min k n : Nat) : Int), m.put r (.o (.cells st cs))) else none
      | _ => none
      else none
    | _ => none
  | _ => none
noncomputable def lenB (t : TypeId) (m : Mem) (x : V) : Option V :=
  match shapeB K t, x with
  | .string, .s b => some (.i .i64 b.size)
  | .array n _, _ | .ptrArray n _, _ => some (.i .i64 n)
  | .slice _, .nils => some (.i .i64 0)
  | .slice _, .arr _ n _ => some (.i .i64 n)
  | .slice _, .sl _ _ _ n _ _ => some (.i .i64 n)
  | .map _ _, .nilm => some (.i .i64 0)
  | .map _ _, .map r st => match m.get r with | some (.o (.map st' kvs)) => if stEq st' st then some (.i .i64 kvs.length) else none | _ => none
  | _, _ => none
noncomputable def zeroB (t : TypeId) : Option V := (K.getB t).map TI.zero
noncomputable def keyOkB (kt : TypeId) (k : V) : Bool := match k, shapeB K kt with | .i k _, .int k' => kindEq k k' | .s _, .string => true | _, _ => false
noncomputable def lookupB (t : TypeId) (m : Mem) (x k : V) (ok : Bool) : Option V :=
  match shapeB K t with
  | .map kt et => if keyOkB K kt k then
      (match x with
        | .nilm => some none
        | .map r st => (match m.get r with | some (.o (.map st' kvs)) => if stEq st' st then findA k kvs 0 else none | _ => none)
        | _ => none).bind fun r => (match r with | some (_, v) => some (v, true) | none => (zeroB K et).map fun z => (z, false)).bind fun (v, f) => some (if ok then .tup [v, .b f] else v)
    else none
  | _ => none
noncomputable def mapUpdateB (t : TypeId) (m : Mem) (x k v : V) : Option Mem :=
  match shapeB K t with
  | .map kt _ => if keyOkB K kt k then
      match x with
      | .map r st => (match m.get r with
        | some (.o (.map st' kvs)) => if stEq st' st then (findA k kvs 0).map fun
            | some (n, _) => m.put r (.o (.map st (kvs.set n (k, v))))
            | none => m.put r (.o (.map st (kvs ++ [(k, v)])))
          else none
        | _ => none)
      | _ => none
    else none
  | _ => none
noncomputable def fillB (cs : List V) : List (Nat × Nat × V) → Option (List V)
  | [] => some cs
  | (off, n, v) :: rest => if Nat.beq v.cells.length n && v.cells.all V.one then (layN cs off v.cells).bind fun cs => fillB cs rest else none
noncomputable def buildB (t : TypeId) (parts : List (Nat × V)) : Option V :=
  (K.getB t).bind fun ti => match ti.shape with
    | .array _ e => (sizeB K e).bind fun n => (partsAt (fun i => some (i * n, n)) parts).bind fun l => (fillB ti.zero.cells l).map V.agg
    | _ => match ti.agg with
      | true => (partsAt (fun i => (ti.flds[i]?).map fun (o, _, z) => (o, z)) parts).bind fun l => (fillB ti.zero.cells l).map V.agg
      | false => none
noncomputable def buildSliceB (t : TypeId) (len : Nat) (parts : List (Nat × V)) (m : Mem) (st' : List Nat) : Option (V × Mem) :=
  match shapeB K t with
  | .slice e => (K.getB e).bind fun ti => if Nat.blt 16777216 (len * ti.size) then none else if Nat.beq len 0 then (match parts with | [] => some (.arr [] 0 true, m) | _ => none) else
      (partsAt (fun i => some (i * ti.size, ti.size)) parts).bind fun l => (fillB (List.replicate len ti.zero.cells).flatten l).map fun cs =>
        (.sl m.n st' 0 len ti.size (some len), m.push (.o (.cells st' cs)))
  | _ => none
noncomputable def makeSliceB (t : TypeId) (l c : V) (m : Mem) (st' : List Nat) : Option (V × Mem) :=
  match l, c with
  | .i .i64 (.ofNat n), .i .i64 (.ofNat k) => (match shapeB K t with
    | .slice e => (K.getB e).bind fun ti => if Nat.ble n k && Nat.ble (k * ti.bytes) 140737488355328 && Nat.ble k 9223372036854775807 then
        some (.sl m.n st' 0 n ti.size (some k), m.push (newRow st' k ti.zero.cells)) else none
    | _ => none)
  | _, _ => none
noncomputable def convB (src dst : TypeId) (m : Mem) (x : V) : Option V :=
  (K.getB src).bind fun _ => match shapeB K dst, x with
  | .int k, .i _ n => intR k n
  | .string, .s b => some x
  | .string, _ => (match shapeB K src with
    | .slice e => (match shapeB K e with
      | .int .u8 => (elemsB 1 m x).bind fun (_, cs) => (bytesOf cs).map fun l => .s ⟨l.toArray⟩
      | _ => none)
    | _ => none)
  | _, _ => none
noncomputable def convSB (src dst : TypeId) (m : Mem) (st1 : List Nat) (x : V) : Option (V × Mem) :=
  match marks with
  | false => none
  | true => (K.getB src).bind fun _ => match shapeB K dst, x with
    | .slice e, .s b => (match shapeB K e with
      | .int .u8 => some (.sl m.n st1 0 b.size 1 none, m.push (.o (.cells st1 (u8s b))))
      | _ => none)
    | .slice e, .sl r st off n es cap => (match shapeB K e with
      | .int .u8 => (match Nat.beq src dst with
        | true => (match m.get r with
          | some (.o (.cells st' cs)) => (match stEq st' st with
            | true => (match cs with | _ :: _ => some (.sl r st off n es cap, m) | [] => none)
            | false => none)
          | _ => none)
        | false => none)
      | _ => none)
    | _, _ => none
noncomputable def unB : UnOp → V → Option V
  | .not, .b x => some (.b (!x))
  | .neg, .i k n => intR k (-n)
  | _, _ => none
noncomputable def opB' : Op → T TI → List Nat → (Operand → V) → Mem → Nat → Option (V × Mem × Nat)
  | .move x | .assign x => fun K p ev m c => some (ev x, m, c)
  | .pick k a b => fun K p ev m c => match ev k with | .b x => some (if x then ev a else ev b, m, c) | _ => none
  | .alloc e => fun K p ev m c => (zeroB K e).map fun z => (.ptr m.n (c :: p) 0, m.push (.o (.cells (c :: p) z.cells)), c + 1)
  | .box e x => fun K p ev m c => let v := ev x; if v.cells.all V.one then some (.ptr m.n (c :: p) 0, m.push (.o (.cells (c :: p) v.cells)), c + 1) else none
  | .build t parts => fun K p ev m c => (buildB K t (parts.toList.map fun (i, x) => (i, ev x))).map fun v => (v, m, c)
  | .buildSlice t len parts => fun K p ev m c => (buildSliceB K t len (parts.toList.map fun (i, x) => (i, ev x)) m (c :: p)).map fun (v, m) => (v, m, c + 1)
  | .load t a => fun K p ev m c => (loadB K t m (ev a)).map fun v => (v, m, c)
  | .store t a x => fun K p ev m c => (storeB K t m (ev a) (ev x)).map fun m => (.un, m, c + 1)
  | .nilCheck x => fun K p ev m c => (derefA (ev x)).map fun v => (v, m, c)
  | .binOp op t x y _ => fun K p ev m c => (binB op K t (ev x) (ev y)).map fun v => (v, m, c)
  | .unOp op _ x => fun K p ev m c => (unB op (ev x)).map fun v => (v, m, c)
  | .convert src dst x => fun K p ev m c => match shapeB K dst with
    | .slice _ => (convSB K src dst m (c :: p) (ev x)).map fun (v, m) => (v, m, c + 1)
    | _ => (convB K src dst m (ev x)).map fun v => (v, m, c)
  | .makeFunc (.func f) first cap => fun K p ev m c => some (.fn f (first.toList.map ev) (cap.toList.map ev), m, c)
  | .makeMap t none => fun K p ev m c => some (.map m.n (c :: p), m.push (.o (.map (c :: p) [])), c + 1)
  | .makeSlice t l k => fun K p ev m c => (makeSliceB K t (ev l) (ev k) m (c :: p)).map fun (v, m) => (v, m, c + 1)
  | .slice t x lo hi mx => fun K p ev m c => if mx.isSome && hi.isNone then none else (sliceB K t (ev x) (lo.map ev) (hi.map ev) (mx.map ev)).map fun v => (v, m, c)
  | .fieldAddr t x f => fun K p ev m c => (fieldAddrB K t (ev x) f).map fun v => (v, m, c)
  | .field t x f => fun K p ev m c => (fieldB K t (ev x) f).map fun v => (v, m, c)
  | .indexAddr t x ix => fun K p ev m c => (indexAddrB K t (ev x) (ev ix)).map fun v => (v, m, c)
  | .index t x ix => fun K p ev m c => (indexB K t (ev x) (ev ix)).map fun v => (v, m, c)
  | .lookup t x k ok => fun K p ev m c => (lookupB K t m (ev x) (ev k) ok).map fun v => (v, m, c)
  | .mapUpdate t x k v | .insert t x k v => fun K p ev m c => (mapUpdateB K t m (ev x) (ev k) (ev v)).map fun m => (.un, m, c + 1)
  | .sliceToArrayPointer t x => fun K p ev m c => (match shapeB K t, ev x with
    | .array n _, .sl r st o k _ _ => if Nat.ble n k then some (V.ptr r st o) else none
    | .array n _, .arr cs k _ => if Nat.ble n k then some (V.iptr cs) else none
    | _, _ => none).map fun v => (v, m, c)
  | .extract x n => fun K p ev m c => (match ev x with | .tup vs => vs[n]? | _ => none).map fun v => (v, m, c)
  | .call { callee := .builtin b, args, argTypes } => fun K p ev m c => match b, args.toList.map ev with
    | .append, [s, x] => (match argTypes.toList with | [t, u] => (match shapeB K u with | .int _ => none | .bad => none | _ => (appendB K t m (c :: p) s x).map fun (v, m) => (v, m, c + 1)) | _ => none)
    | .copy, [d, x] => (match argTypes.toList with | [t, _] => (copyB K t m d x).map fun (v, m) => (v, m, c + 1) | _ => none)
    | .len, [x] => (match argTypes.toList with | [t] => (lenB K t m x).map fun v => (v, m, c) | _ => none)
    | .cap, [x] => (match argTypes.toList with | [t] => (match shapeB K t with | .slice _ => (capA x).map fun v => (v, m, c) | _ => none) | _ => none)
    | .min, xs => (foldA minA xs).map fun v => (v, m, c)
    | .max, xs => (foldA maxA xs).map fun v => (v, m, c)
    | _, _ => none
  | _ => fun _ _ _ _ _ => none
structure CB where
  K : T TI
  prim : Nat → Option (List V → Mem → Option V)
  glob : Nat → Option (List V)
  fn : T Func
  cls : T (T (List (Nat × Nat)))
  iter : Nat → Option (List V → Mem → Option (List Nat × List (List V)))
  pre : T (T (List Nat))
  still : Nat → Option (List V → Option V)
variable (D : CB)
noncomputable def evB (t : T V) : Operand → V
  | .tmp k => match t.getB k with | some v => v | none => .un
  | .const v => ofVal v
  | .global g => match D.glob g with | some cs => .iptr cs | none => .bad
  | .func f => .fn f [] []
noncomputable def forceV {β : Type} (v : V) (K : V → β) : β :=
  match v with
  | .b x => Bool.rec (K (.b false)) (K (.b true)) x
  | .i k n => K (.i k n)
  | .ptr r st o => K (.ptr r st o)
  | .sl r st o n e c => K (.sl r st o n e c)
  | .arr cs n c => K (.arr cs n c)
  | .agg cs => K (.agg cs)
  | .tup vs => K (.tup vs)
  | v => K v
noncomputable def setT (nt : Nat) (t : T V) (m : Mem) (c : Nat) (d : Option Nat) (v : V) : Option SB := match d with | some d => Bool.rec (some ⟨t, m, c⟩) (forceV v fun v => t.setK d v fun t => some ⟨t, m, c⟩) (Nat.blt d nt) | none => some ⟨t, m, c⟩
noncomputable def guardB (ops : List Oper) (t : T V) : Option (Nat × Bool) → Option Bool
  | none => some true
  | some (j, want) => match (ops[j]?).bind (·.dst) with
    | some d => (match t.getB d with | some (.b x) => some (x == want) | some .bad => none | _ => some false)
    | none => some false
abbrev CallB := Nat → List V → Mem → List Nat → Option (V × Mem)
noncomputable def callV (call : CallB) (fv : V) (as : List V) (m : Mem) (p : List Nat) : Option (V × Mem) := match fv with | .fn g first cap => call g (first ++ as ++ cap) m p | _ => none
noncomputable def opC : Op → CB → CallB → List Nat → (Operand → V) → Mem → Nat → Option (V × Mem × Nat)
  | .call { callee := .value f, args, .. } => fun D call p ev m c => match callV call (ev f) (args.toList.map ev) m (c :: p) with | some (v, m) => some (v, m, c + 1) | none => none
  | op => fun D call p ev m c => opB' op D.K p ev m c
noncomputable def stepB (call : CallB) (p : List Nat) (nt : Nat) (ops : List Oper) (o : Oper) (s : SB) : Option SB :=
  match s with
  | ⟨t, m, c⟩ => match guardB ops t o.guard with
    | some true => (match opC o.op D call p (evB D t) m c with | some (v, m, c) => setT nt t m c o.dst v | none => none)
    | some false => setT nt t m c o.dst .un
    | none => none
noncomputable def opsB (call : CallB) (p : List Nat) (nt : Nat) (ops : List Oper) : List Oper → SB → Option SB
  | [], s => some s
  | o :: rest, s => match stepB D call p nt ops o s with | some s => opsB call p nt ops rest s | none => none
noncomputable def traceB (call : CallB) (p : List Nat) (nt : Nat) (ops : List Oper) : List Oper → SB → Option (List (Mem × List Nat) × SB)
  | [], s => some ([(s.m, [])], s)
  | o :: rest, s => match stepB D call p nt ops o s with
    | some s' => (match traceB call p nt ops rest s' with | some (l, e) => some ((s.m, accs (evB D s.t) o.op) :: l, e) | none => none)
    | none => none
def rowEq : Option (List V) → Option (List V) → Bool
  | none, none => true
  | some a, some b => V.eqbL a b
  | _, _ => false
def treeEq : T (List V) → T (List V) → Bool
  | .l, .l => true
  | .n v a b, .n v' a' b' => rowEq v v' && treeEq a a' && treeEq b b'
  | _, _ => false
def obEq : Option OB → Option OB → Bool
  | some (.o x), some (.o y) => O.eqb (some x) (some y)
  | some (.tab st n w d ov), some (.tab st' n' w' d' ov') => decide (st = st') && Nat.beq n n' && Nat.beq w w' && V.eqbL d d' && treeEq ov ov'
  | _, _ => false
noncomputable def okPairB (l : List (Mem × List Nat)) (ij : Nat × Nat) : Bool :=
  match l[ij.1]?, l[ij.1 + 1]?, l[ij.2]? with
  | some (m, _), some (m', _), some (_, rs) => rs.all fun r => obEq (m'.get r) (m.get r)
  | _, _, _ => false
noncomputable def clsB (g id : Nat) : List (Nat × Nat) := match D.cls.getB g with | some t => (match t.getB id with | some l => l | none => []) | none => []
noncomputable def preB (g id : Nat) : Option (List Nat) := match D.pre.getB g with | some t => t.getB id | none => none
def stillB (o : Oper) : Option ((List V → Option V) × List Operand) := match o.op, o.guard with | .call { callee := .value (.func f), args, .. }, none => (D.still f).map fun g => (g, args.toList) | _, _ => none
noncomputable def preObjsB (p : List Nat) (c0 : Nat) : Nat → List Oper → Mem → Option Mem
  | _, [], m => some m
  | q, o :: l, m => match preO o with
    | some e => (match zeroB D.K e with | some z => preObjsB p c0 (q + 1) l (m.push (.o (.cells ((c0 + q) :: p) z.cells))) | none => none)
    | none => preObjsB p c0 q l m
noncomputable def stepXB (call : CallB) (p : List Nat) (nt : Nat) (ops : List Oper) (r0 c0 q : Nat) (o : Oper) (s : SB) : Option SB :=
  match preO o with
  | some _ => setT nt s.t s.m s.c o.dst (.ptr (r0 + q) ((c0 + q) :: p) 0)
  | none => match stillB D o with
    | some (g, args) => (match g (args.map (evB D s.t)) with
      | some v => (match within v (args.map (evB D s.t)) with | true => setT nt s.t s.m s.c o.dst v | false => none)
      | none => none)
    | none => stepB D call p nt ops o s
noncomputable def traceXB (call : CallB) (p : List Nat) (nt : Nat) (ops : List Oper) (r0 c0 : Nat) : Nat → List Oper → SB → Option (List (Mem × List Nat) × SB)
  | _, [], s => some ([(s.m, [])], s)
  | q, o :: rest, s => match stepXB D call p nt ops r0 c0 q o s with
    | some s' => (match traceXB call p nt ops r0 c0 (if (preO o).isSome then q + 1 else q) rest s' with | some (l, e) => some ((s.m, accs (evB D s.t) o.op) :: l, e) | none => none)
    | none => none
noncomputable def slotsOkB (r0 : Nat) (m1 : Mem) (l : List (Mem × List Nat)) : Nat → List Nat → Bool
  | _, [] => true
  | q, k :: ms => (l.take (k + 1)).all (fun x => obEq (x.1.get (r0 + q)) (m1.get (r0 + q))) && slotsOkB r0 m1 l (q + 1) ms
noncomputable def drawXB (call : CallB) (g id : Nat) (p : List Nat) (nt : Nat) (ms : List Nat) (ops : List Oper) (s : SB) : Option SB :=
  match preObjsB D p s.c 0 ops s.m with
  | some m1 => (match traceXB D call p nt ops s.m.n s.c 0 ops ⟨s.t, m1, s.c + ms.length⟩ with
    | some (l, e) => (match (clsB D g id).all (okPairB l) && slotsOkB s.m.n m1 l 0 ms && Nat.beq m1.n (s.m.n + ms.length) with | true => some e | false => none)
    | none => none)
  | none => none
noncomputable def drawB (call : CallB) (g id : Nat) (p : List Nat) (nt : Nat) (ops : List Oper) (s : SB) : Option SB :=
  match preB D g id with
  | some ms => drawXB D call g id p nt ms ops s
  | none => match clsB D g id with
  | [] => opsB D call p nt ops ops s
  | x :: ps => match traceB D call p nt ops ops s with
    | some (l, e) => (match (x :: ps).all (okPairB l) with | true => some e | false => none)
    | none => none
noncomputable def loopB (f : SB → Option (Ex × SB)) : Nat → SB → Option (Ex × SB)
  | 0, _ => none
  | n + 1, s => match f s with | some (.normal, s') => loopB f n s' | r => r
noncomputable def bindB (nt : Nat) : List Nat → List V → SB → Option SB
  | [], [], s => some s
  | d :: ds, v :: vs, s => match setT nt s.t s.m s.c (some d) v with | some s => bindB nt ds vs s | none => none
  | _, _, _ => none
def noRB : Code → Bool
  | .seq a b | .cond _ a b => noRB a && noRB b
  | .block _ a | .loop a => noRB a
  | .rangeFunc .. | .scope _ => false
  | _ => true
noncomputable def rangeB (fa fb : SB → Option (Ex × SB)) (nt : Nat) (ps rows : List Nat) (m0 : Mem) (t0 : T V) : List (List V) → SB → Option (Ex × SB)
  | [], s => some (.normal, s)
  | vs :: rest, s => match bindB nt ps vs ⟨t0, s.m, s.c⟩ with
    | some sb => (match fa sb with
      | some (.normal, s1) => (match fb s1 with
        | some (.normal, s2) => (match rows.all fun r => obEq (s2.m.get r) (m0.get r) with
          | true => rangeB fa fb nt ps rows m0 t0 rest ⟨t0, s2.m, s2.c⟩
          | false => none)
        | some (e, s2) => some (e, ⟨t0, s2.m, s2.c⟩)
        | none => none)
      | _ => none)
    | none => none
noncomputable def codeB (call : CallB) (g : Nat) (p : List Nat) (nt n : Nat) : Code → SB → Option (Ex × SB)
  | .skip, s | .label _, s => some (.normal, s)
  | .region id ops draw, s => (match draw with
    | true => (match drawB D call g id p nt ops.toList s with | some s => some (.normal, s) | none => none)
    | false => match opsB D call p nt ops.toList ops.toList s with | some s => some (.normal, s) | none => none)
  | .seq a b, s => match codeB call g p nt n a s with | some (.normal, s') => codeB call g p nt n b s' | r => r
  | .cond k a b, s => match evB D s.t k with | .b true => codeB call g p nt n a s | .b false => codeB call g p nt n b s | _ => none
  | .block id a, s => match codeB call g p nt n a s with | some (.exit i, s') => some (if Nat.beq i id then .normal else .exit i, s') | r => r
  | .loop a, s => loopB (codeB call g p nt n a) n s
  | .scope a, s => codeB call g p nt n a s
  | .rangeFunc f ps a b, s => (match noRB a && noRB b with
    | true => (match evB D s.t f with
      | .fn gf [] cap => (match D.iter gf with
        | some it => (match it cap s.m with
          | some (rows, yss) => rangeB (codeB call g p nt n a) (codeB call g p nt n b) nt ps.toList rows s.m s.t yss s
          | none => none)
        | none => none)
      | _ => none)
    | false => none)
  | .exit id, s => some (.exit id, s)
  | .ret, s => some (.ret, s)
  | _, _ => none
noncomputable def resB (s : SB) : List ResultVar → Option (List V)
  | [] => some []
  | .tmp t :: l => (resB s l).map fun vs => (match s.t.getB t with | some v => v | none => .un) :: vs
  | .cell a t :: l => (loadB D.K t s.m (match s.t.getB a with | some v => v | none => .un)).bind fun v => (resB s l).map fun vs => v :: vs
noncomputable def doneB (rs : List ResultVar) : Option (Ex × SB) → Option (V × Mem)
  | some (.exit _, _) => none
  | some (_, s) => (resB D s rs).map fun vs => (tupled vs, s.m)
  | none => none
noncomputable def runB : Nat → CallB
  | 0, _, _, _, _ => none
  | k + 1, f, args, m, p =>
    match D.prim f with
    | some g => (g args m).map fun v => (v, m)
    | none => match D.fn.getB f with
      | some fn => (match fn.body with
        | some c => doneB D fn.results.toList (codeB D (runB k) f p (Nat.max args.length fn.ntmps) k c ⟨ofB args 0 .l, m, 0⟩)
        | none => none)
      | none => none
noncomputable def rootB (k f : Nat) (fn : Func) (p : List Nat) : Option V :=
  match fn.body with
  | some c => (doneB D fn.results.toList (codeB D (runB D k) f p fn.ntmps k c ⟨.l, ⟨0, .l⟩, 0⟩)).map (·.1)
  | none => none
end
def noS : V → Bool | .s _ => false | _ => true
def backA (z : Nat) : List V → List O → Option (List Nat × List (List V))
  | [.ptr r st off], σ => (rowAt σ r st).bind fun cs => (cs[off]?).bind fun s => if noS s then (elems z σ s).bind fun (n, l) => if n ≤ 4611686018427387904 then some
      (match s with | .sl r2 _ _ _ _ _ => [r, r2] | _ => [r], (List.range n).map fun k => [.i .i64 ((n - 1 - k : Nat) : Int), .agg ((l.drop ((n - 1 - k) * z)).take z)]) else none else none
  | _, _ => none
noncomputable def backB (z : Nat) : List V → Mem → Option (List Nat × List (List V))
  | [.ptr r st off], m => (match m.get r with
    | some (.o (.cells st' cs)) => (match stEq st' st with
      | true => (match cs[off]? with
        | some s => (match noS s with | false => none | true => match elemsB z m s with
          | some (n, l) => (match Nat.ble n 4611686018427387904 with | true => some (match s with | .sl r2 _ _ _ _ _ => [r, r2] | _ => [r], (List.range n).map fun k => [.i .i64 ((n - 1 - k : Nat) : Int), .agg ((l.drop ((n - 1 - k) * z)).take z)]) | false => none)
          | none => none)
        | none => none)
      | false => none)
    | _ => none)
  | _, _ => none
end Go.Am
