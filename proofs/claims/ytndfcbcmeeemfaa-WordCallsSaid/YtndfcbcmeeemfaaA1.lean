/-
  THE EVALUATOR OF OPERATIONS ON ABSTRACT VALUES: a plain function, made to be reckoned by 'whnf' on literal operations and symbolic data. What it cannot do it answers by 'none'; what must hold besides it collects as a proposition.
-/
import Derived.Test.YtndfcbcmeeemfaaA0
namespace Go.Proofs.Ytndfcbcmeeemfaa.Abs
open Go

inductive TK where
  | int (k : IntKind)
  | bool
  | str
  | sl (e : TypeId)
  | st (fs : List (Nat × TypeId))
  | arr (n : Nat) (e : TypeId)
  | ptr (e : TypeId)
  | fn
  | map (k e : TypeId)
  | other

structure Lay where
  kind : TK
  size : Nat
  bytes : Nat
  zero : List Value

def kindOf : TypeDesc → TK
  | .int k => .int k
  | .bool => .bool
  | .string => .str
  | .slice e => .sl e
  | .struct fs => .st (fs.toList.map fun f => (f.offset, f.type))
  | .array n e => .arr n e
  | .pointer e => .ptr e
  | .func _ _ _ => .fn
  | .map k e => .map k e
  | _ => .other

abbrev Lays := TypeId → Option Lay

def LayOk1 (P : Program) (t : TypeId) (x : Lay) : Prop :=
  (P.info? t).map (fun i => (i.size, i.bytes, i.zero.map fun z => z.cells.toList)) = some (x.size, x.bytes, some x.zero) ∧ (P.underlying t).map kindOf = some x.kind

def LayOk (P : Program) (T : Lays) : Prop := ∀ t x, T t = some x → LayOk1 P t x

def avDef : AV := .imm (.val Go.undef)
def ivDef : IV := .val Go.undef

/-- A value of one cell as data: the nil slice is a slice of no rows. -/
def ivOf (v : Value) : IV :=
  match v with
  | .slice none 0 0 => .sl 0 0 true fun _ _ => ivDef
  | v => .val v

def evConst (v : Value) : SV :=
  match v with
  | .agg cs => bif cs.toList.all (·.oneCell') then .cv (.agg (cs.toList.map fun u => .imm (ivOf u))) else .undef
  | .tuple _ => .undef
  | v => .cv (.one (.imm (ivOf v)))

def evS (E : Nat → SV) : Operand → SV
  | .tmp t => E t
  | .const v => evConst v
  | .global _ => .undef
  | .func f => .cv (.one (.fn (.func f) 0 (fun _ => avDef) 0 fun _ => avDef))

def strip : SV → SV
  | .gd _ x => x
  | x => x

def gdc : SV → Prop
  | .gd c _ => c = true
  | _ => True

def rd (E : Nat → SV) (x : Operand) : SV := strip (evS E x)
def need (E : Nat → SV) (x : Operand) : Prop := gdc (evS E x)

def mk (agg : Bool) (l : List AV) : Option CV :=
  bif agg then some (.agg l) else match l with
    | [x] => some (.one x)
    | _ => none

def isAgg : TK → Bool
  | .st _ => true
  | .arr _ _ => true
  | _ => false

def lenIs : List AV → Nat → Bool
  | [], 0 => true
  | _ :: l, n + 1 => lenIs l n
  | _, _ => false

/-- n cells by a function. -/
def ofFn (n : Nat) (f : Nat → AV) : List AV := (List.range n).map f

/-- The cells at a pointer. -/
def loadAt (H : Nat → Option ABlk) (p : AV) (size : Nat) : Option (List AV × Prop) :=
  match p with
  | .own b e i j => match H b with
    | some (.var _ cells) => let l := (cells.drop (i * e + j)).take size
      bif lenIs l size then some (l, True) else none
    | some (.rows _ e' n cell) => bif Nat.beq e e' && Nat.ble (j + size) e' then some (ofFn size fun q => .imm (cell i (j + q)), i < n) else none
    | _ => none
  | .vptr n cell => bif Nat.ble size n then some (ofFn size fun q => .imm (cell q), True) else none
  | _ => none

def arith (op : BinOp) (k : IntKind) (a b : Int) : Option (Value × Prop) :=
  match op with
  | .add => some (.int k (k.wrap (a + b)), True)
  | .sub => some (.int k (k.wrap (a - b)), True)
  | .mul => some (.int k (k.wrap (a * b)), True)
  | .quo => some (.int k (k.wrap (a.tdiv b)), b ≠ 0)
  | .rem => some (.int k (a.tmod b), b ≠ 0)
  | .eql => some (.bool (a == b), True)
  | .neq => some (.bool (a != b), True)
  | .lss => some (.bool (decide (a < b)), True)
  | .leq => some (.bool (decide (a ≤ b)), True)
  | .gtr => some (.bool (decide (a > b)), True)
  | .geq => some (.bool (decide (a ≥ b)), True)
  | _ => none

def kindEq : IntKind → IntKind → Bool
  | .i8, .i8 | .i16, .i16 | .i32, .i32 | .i64, .i64 | .u8, .u8 | .u16, .u16 | .u32, .u32 | .u64, .u64 => true
  | _, _ => false

/-- Two rows of int cells: are they the same? -/
def eqCells : List AV → List AV → Option Bool
  | [], [] => some true
  | .imm (.val (.int k a)) :: l, .imm (.val (.int k' b)) :: m => bif kindEq k k' then match eqCells l m with | some c => some ((a == b) && c) | none => none else none
  | _, _ => none

def isBool : Option Lay → Bool
  | some ⟨.bool, _, _, _⟩ => true
  | _ => false

def binV (isB : Bool) (op : BinOp) (x y : SV) : Option (Value × Prop) :=
  match x, y with
  | .cv (.one (.imm (.val (.int k a)))), .cv (.one (.imm (.val (.int k' b)))) => bif kindEq k k' then arith op k a b else none
  | .cv (.one (.imm (.val (.bool a)))), .cv (.one (.imm (.val (.bool b)))) => match op with
    | .eql => bif isB then some (.bool (a == b), True) else none
    | .neq => bif isB then some (.bool (!(a == b)), True) else none
    | _ => none
  | _, _ => none

def cellsOf (E : Nat → SV) (x : Operand) : Option (List AV) :=
  match rd E x with
  | .cv c => some c.cells
  | _ => none

/-- Parts laid over zero cells. -/
def setAt (cells : List AV) (off : Nat) (l : List AV) : List AV := cells.take off ++ l ++ cells.drop (off + l.length)

def fillS (T : Lays) (E : Nat → SV) (fs : List (Nat × TypeId)) : List AV → List (Nat × Operand) → Option (List AV × Prop)
  | cells, [] => some (cells, True)
  | cells, (i, x) :: rest => match fs[i]?, cellsOf E x with
    | some (off, ft), some l => match T ft with
      | some L => bif lenIs l L.size && Nat.ble (off + L.size) cells.length then match fillS T E fs (setAt cells off l) rest with
        | some (c, p) => some (c, need E x ∧ p)
        | none => none
        else none
      | none => none
    | _, _ => none

def fillA (E : Nat → SV) (size : Nat) : List AV → List (Nat × Operand) → Option (List AV × Prop)
  | cells, [] => some (cells, True)
  | cells, (i, x) :: rest => match cellsOf E x with
    | some l => bif lenIs l size && Nat.ble (i * size + size) cells.length then match fillA E size (setAt cells (i * size) l) rest with
        | some (c, p) => some (c, need E x ∧ p)
        | none => none
        else none
    | none => none

def zeros (L : Lay) : List AV := L.zero.map fun u => .imm (ivOf u)

def listAV (E : Nat → SV) : List Operand → Option (List AV × Prop)
  | [] => some ([], True)
  | x :: l => match rd E x, listAV E l with
    | .cv (.one y), some (ys, p) => some (y :: ys, need E x ∧ p)
    | _, _ => none

def listCV (E : Nat → SV) : List Operand → Option (List CV × Prop)
  | [] => some ([], True)
  | x :: l => match rd E x, listCV E l with
    | .cv y, some (ys, p) => some (y :: ys, need E x ∧ p)
    | _, _ => none

def eqI : List Int → List Int → Bool
  | [], [] => true
  | x :: l, y :: m => (x == y) && eqI l m
  | _, _ => false

def intKinds (T : Lays) : Nat → List (Nat × TypeId) → Option (List IntKind)
  | _, [] => some []
  | i, (off, ft) :: rest => match T ft with
    | some ⟨.int q, _, _, _⟩ => bif Nat.beq off i then match intKinds T (i + 1) rest with
      | some l => some (q :: l)
      | none => none
      else none
    | _ => none

def keyForm (T : Lays) (k : TypeId) : Option (Bool × List IntKind) :=
  match T k with
  | some ⟨.int q, _, _, _⟩ => some (false, [q])
  | some ⟨.st fs, _, _, _⟩ => match intKinds T 0 fs with
    | some l => some (true, l)
    | none => none
  | _ => none

def keyInts : List AV → Option (List IntKind × List Int)
  | [] => some ([], [])
  | .imm (.val (.int k n)) :: l => match keyInts l with
    | some (ks, ns) => some (k :: ks, n :: ns)
    | none => none
  | _ => none

def keyOf (x : SV) : Option (Bool × List IntKind × List Int) :=
  match x with
  | .cv (.one (.imm (.val (.int k n)))) => some (false, [k], [n])
  | .cv (.agg l) => match keyInts l with
    | some (ks, ns) => some (true, ks, ns)
    | none => none
  | _ => none

def kindsEq : List IntKind → List IntKind → Bool
  | [], [] => true
  | x :: l, y :: m => bif kindEq x y then kindsEq l m else false
  | _, _ => false

def bEq : Bool → Bool → Bool
  | true, true => true
  | false, false => true
  | _, _ => false

def mapOf (H : Nat → Option ABlk) : AV → Option (Bool × List IntKind × Bool × Nat × (List Int → Bool) × (List Int → Nat → IV))
  | .imm (.mp ka kks va vn dom val) => some (ka, kks, va, vn, dom, val)
  | .omp b => match H b with
    | some (.mp ka kks va vn dom val) => some (ka, kks, va, vn, dom, val)
    | _ => none
  | _ => none

def ivInt : IV → Int
  | .val (.int _ n) => n
  | _ => 0
def ivBool : IV → Bool
  | .val (.bool b) => b
  | _ => false

/-- A cell out of a map, or its zero. -/
def selIV (c : Bool) (x : IV) (z : Value) : IV × Prop :=
  match z with
  | .int q n => (.val (.int q (bif c then ivInt x else n)), c = true → x = .val (.int q (ivInt x)))
  | .bool b => (.val (.bool (bif c then ivBool x else b)), c = true → x = .val (.bool (ivBool x)))
  | z => (bif c then x else ivOf z, True)

def selL (c : Bool) (f : Nat → IV) : Nat → List Value → List AV × Prop
  | _, [] => ([], True)
  | j, z :: l => (.imm (selIV c (f j) z).1 :: (selL c f (j + 1) l).1, (selIV c (f j) z).2 ∧ (selL c f (j + 1) l).2)

/-- Structs of integers, compared. -/
def aggB (T : Lays) (op : BinOp) (t : TypeId) (x y : SV) : Option Bool :=
  match op, x, y with
  | .eql, .cv (.agg l), .cv (.agg m) => match keyForm T t, keyInts l, keyInts m with
    | some (true, kks), some (k1, xs), some (k2, ys) => bif kindsEq kks k1 && kindsEq kks k2 then some (eqI xs ys) else none
    | _, _, _ => none
  | .neq, .cv (.agg l), .cv (.agg m) => match keyForm T t, keyInts l, keyInts m with
    | some (true, kks), some (k1, xs), some (k2, ys) => bif kindsEq kks k1 && kindsEq kks k2 then some (!(eqI xs ys)) else none
    | _, _, _ => none
  | _, _, _ => none

abbrev Tab := FuncId → List CV → Option (SV × Prop)

def bound (E : Nat → SV) (dflt : Int) : Option Operand → Option (Int × Prop)
  | none => some (dflt, True)
  | some x => match rd E x with
    | .cv (.one (.imm (.val (.int _ z)))) => some (z, need E x)
    | _ => none

/-- What an operation that changes no memory yields. -/
def evalV (T : Lays) (H : Nat → Option ABlk) (E : Nat → SV) (o : Op) : Option (SV × Prop) :=
  match o with
  | .move x | .assign x => some (rd E x, need E x)
  | .pick c a b => match rd E c, rd E a, rd E b with
    | .cv (.one (.imm (.val (.bool c')))), .cv (.one (.imm (.val (.bool x)))), .cv (.one (.imm (.val (.bool y)))) =>
      some (.cv (ibool (bif c' then x else y)), need E c ∧ (c' = true → need E a) ∧ (c' = false → need E b))
    | _, _, _ => none
  | .load t a => match T t, rd E a with
    | some L, .cv (.one p) => match loadAt H p L.size with
      | some (l, q) => match mk (isAgg L.kind) l with
        | some c => some (.cv c, need E a ∧ q)
        | none => none
      | none => none
    | _, _ => none
  | .fieldAddr t x f => match T t with
    | some ⟨.st fs, _, _, _⟩ => match fs[f]? with
      | some (off, ft) => match T ft, rd E x with
        | some L, .cv (.one (.own b e i j)) => bif Nat.beq L.size 0 then none else some (.cv (.one (.own b e i (j + off))), need E x)
        | some L, .cv (.one (.vptr n cell)) => bif Nat.beq L.size 0 || !(Nat.ble off n) then none else some (.cv (.one (.vptr (n - off) fun q => cell (off + q))), need E x)
        | _, _ => none
      | none => none
    | _ => none
  | .field t x f => match T t with
    | some ⟨.st fs, _, _, _⟩ => match fs[f]? with
      | some (off, ft) => match T ft, rd E x with
        | some L, .cv (.agg l) => let r := (l.drop off).take L.size
          bif lenIs r L.size then match mk (isAgg L.kind) r with
            | some c => some (.cv c, need E x)
            | none => none
          else none
        | _, _ => none
      | none => none
    | _ => none
  | .indexAddr t x ix => match T t, rd E ix with
    | some ⟨.sl e, _, _, _⟩, .cv (.one (.imm (.val (.int _ z)))) => match T e, rd E x with
      | some L, .cv (.one (.imm (.sl s n _ cell))) => bif Nat.beq s L.size then some (.cv (.one (.vptr s (cell z.toNat))), need E x ∧ need E ix ∧ 0 ≤ z ∧ z < n) else none
      | some L, .cv (.one (.osl b s r j len _)) => bif Nat.beq s L.size then some (.cv (.one (.own b s (r + z.toNat) j)), need E x ∧ need E ix ∧ 0 ≤ z ∧ z < len) else none
      | _, _ => none
    | some ⟨.arr n e, _, _, _⟩, .cv (.one (.imm (.val (.int _ z)))) => match T e, rd E x with
      | some L, .cv (.one (.own b e' i j)) => some (.cv (.one (.own b e' i (j + z.toNat * L.size))), need E x ∧ need E ix ∧ 0 ≤ z ∧ z < n)
      | some L, .cv (.one (.vptr m cell)) => some (.cv (.one (.vptr (m - z.toNat * L.size) fun q => cell (z.toNat * L.size + q))), need E x ∧ need E ix ∧ 0 ≤ z ∧ z < n)
      | _, _ => none
    | _, _ => none
  | .index t x ix => match T t, rd E ix with
    | some ⟨.arr n e, _, _, _⟩, .cv (.one (.imm (.val (.int _ z)))) => match T e, rd E x with
      | some L, .cv (.agg l) => let r := (l.drop (z.toNat * L.size)).take L.size
        bif lenIs r L.size then match mk (isAgg L.kind) r with
          | some c => some (.cv c, need E x ∧ need E ix ∧ 0 ≤ z ∧ z < n)
          | none => none
        else none
      | _, _ => none
    | _, _ => none
  | .binOp op t x y _ => match aggB T op t (rd E x) (rd E y) with
    | some b => some (.cv (ibool b), need E x ∧ need E y)
    | none => match binV (isBool (T t)) op (rd E x) (rd E y) with
      | some (v, p) => some (.cv (ione v), need E x ∧ need E y ∧ p)
      | none => none
  | .lookup t x ix ok => match T t, rd E x, keyOf (rd E ix) with
    | some ⟨.map k e, _, _, _⟩, .cv (.one m), some (ka, kks, ks) => match keyForm T k, T e, mapOf H m with
      | some (ka', kks'), some L, some (ka2, kks2, va, vn, dom, val) =>
        bif bEq ka ka' && kindsEq kks kks' && (bEq ka ka2 && kindsEq kks kks2) && (bEq va (isAgg L.kind) && Nat.beq vn L.size) then
          match mk (isAgg L.kind) (selL (dom ks) (val ks) 0 L.zero).1 with
          | some c => some (bif ok then .tup [c, ibool (dom ks)] else .cv c, need E x ∧ need E ix ∧ (selL (dom ks) (val ks) 0 L.zero).2)
          | none => none
        else none
      | _, _, _ => none
    | _, _, _ => none
  | .unOp op _ x => match op, rd E x with
    | .not, .cv (.one (.imm (.val (.bool b)))) => some (.cv (ibool (!b)), need E x)
    | .neg, .cv (.one (.imm (.val (.int k n)))) => some (.cv (ione (.int k (k.wrap (0 - n)))), need E x)
    | _, _ => none
  | .convert s d x => match T s, T d, rd E x with
    | some _, some ⟨.int k, _, _, _⟩, .cv (.one (.imm (.val (.int _ n)))) => some (.cv (ione (.int k (k.wrap n))), need E x)
    | _, _, _ => none
  | .extract x i => match rd E x with
    | .tup l => match l[i]? with
      | some c => some (.cv c, need E x)
      | none => none
    | _ => none
  | .nilCheck x => match rd E x with
    | .cv (.one (.own b e i j)) => some (.cv (.one (.own b e i j)), need E x)
    | .cv (.one (.vptr n cell)) => some (.cv (.one (.vptr n cell)), need E x)
    | .cv (.one (.fn (.func f) nf first nc caps)) => some (.cv (.one (.fn (.func f) nf first nc caps)), need E x)
    | _ => none
  | .build t parts => match T t with
    | some ⟨.st fs, sz, by_, z⟩ => match fillS T E fs (zeros ⟨.st fs, sz, by_, z⟩) parts.toList with
      | some (l, p) => some (.cv (.agg l), p)
      | none => none
    | some ⟨.arr n e, sz, by_, z⟩ => match T e with
      | some L => match fillA E L.size (zeros ⟨.arr n e, sz, by_, z⟩) parts.toList with
        | some (l, p) => some (.cv (.agg l), p)
        | none => none
      | none => none
    | _ => none
  | .makeFunc f first caps => match listAV E first.toList, listAV E caps.toList with
    | some (l, p), some (m, q) => some (.cv (.one (.fn f l.length (fun i => l.getD i avDef) m.length fun i => m.getD i avDef)), p ∧ q)
    | _, _ => none
  | .slice t x lo hi mx => match T t, rd E x with
    | some ⟨.sl e, _, _, _⟩, .cv (.one (.imm (.sl s n ex cell))) => match T e, bound E 0 lo, bound E n hi with
      | some L, some (l, pl), some (h, ph) => bif Nat.beq L.size s || Nat.beq n 0 then match mx with
        | none => some (.cv (.one (.imm (.sl s (h - l).toNat (match hi with | none => ex | some _ => false) fun i j => cell (l.toNat + i) j))), need E x ∧ pl ∧ ph ∧ 0 ≤ l ∧ l ≤ h ∧ h ≤ n)
        | some m => match hi, bound E 0 (some m) with
          | some _, some (m', pm) => some (.cv (.one (.imm (.sl s (h - l).toNat (decide (m' = h)) fun i j => cell (l.toNat + i) j))), need E x ∧ pl ∧ ph ∧ pm ∧ 0 ≤ l ∧ l ≤ h ∧ h ≤ m' ∧ m' ≤ n)
          | _, _ => none
        else none
      | _, _, _ => none
    | _, _ => none
  | .call c => match c.callee with
    | .builtin .len => match c.argTypes.toList, c.args.toList with
      | [t], [x] => match T t, rd E x with
        | some ⟨.sl _, _, _, _⟩, .cv (.one (.imm (.sl _ n _ _))) => some (.cv (iint n), need E x)
        | some ⟨.sl _, _, _, _⟩, .cv (.one (.osl _ _ _ _ n _)) => some (.cv (iint n), need E x)
        | some ⟨.str, _, _, _⟩, .cv (.one (.imm (.val (.string s)))) => some (.cv (iint s.size), need E x)
        | some ⟨.arr n _, _, _, _⟩, _ => some (.cv (iint n), True)
        | _, _ => none
      | _, _ => none
    | .builtin .min => match c.args.toList with
      | [x, y] => match rd E x, rd E y with
        | .cv (.one (.imm (.val (.int k a)))), .cv (.one (.imm (.val (.int _ b)))) => some (.cv (ione (.int k (if b < a then b else a))), need E x ∧ need E y)
        | _, _ => none
      | _ => none
    | .builtin .max => match c.args.toList with
      | [x, y] => match rd E x, rd E y with
        | .cv (.one (.imm (.val (.int k a)))), .cv (.one (.imm (.val (.int _ b)))) => some (.cv (ione (.int k (if b > a then b else a))), need E x ∧ need E y)
        | _, _ => none
      | _ => none
    | _ => none
  | _ => none
end Go.Proofs.Ytndfcbcmeeemfaa.Abs
