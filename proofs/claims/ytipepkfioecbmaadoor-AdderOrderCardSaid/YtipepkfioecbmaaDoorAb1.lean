/- The abstract semantics "Ab": values, states, and the meaning of one operation and of code over them. Definitions alone; nothing of a program. -/
import Derived.Below
import Derived.Orders
import Derived.ArgAppend
import Derived.Laws.AppendOwn
import Derived.KernelRfl
namespace Go.Ab

/-- Pure deep data: scalars, slices (element size in cells, elements), structs and arrays (their cells). -/
inductive PV where
  | sc (v : Value)
  | sl (s : Nat) (xs : List PV)
  | ag (cs : List PV)

instance : Inhabited PV := ⟨.sc (.tuple #[])⟩

def PV.cells : PV → List PV
  | .ag cs => cs
  | x => [x]

/-- Abstract values. -/
inductive AV where
  | p (x : PV)
  | own (s : Nat) (xs : List PV)
  | tgt (s : Nat) (xs : List PV)
  | cptr (x : PV)
  | ref (id ver off : Nat)
  | arr (s id ver off len : Nat)
  | mp (id : Nat)
  | fn (f : Fn) (first captured : List AV)
  | ag (cs : List AV)
  | tu (vs : List AV)
  | ifc (t : TypeId) (x : PV)

instance : Inhabited AV := ⟨.p default⟩

abbrev iv (n : Int) : AV := .p (.sc (.int .i64 n))
abbrev bv (b : Bool) : AV := .p (.sc (.bool b))
abbrev un : AV := .p (.sc undef)

mutual
def AV.dem : AV → AV
  | .own s xs => .p (.sl s xs)
  | .ag cs => .ag (AV.demL cs)
  | .tu vs => .tu (AV.demL vs)
  | .p x => .p x
  | .tgt s xs => .tgt s xs
  | .cptr x => .cptr x
  | .ref i v o => .ref i v o
  | .arr s i v o l => .arr s i v o l
  | .mp i => .mp i
  | .fn f a b => .fn f a b
  | .ifc t x => .ifc t x
def AV.demL : List AV → List AV
  | [] => []
  | x :: xs => x.dem :: AV.demL xs
end

mutual
/-- The pure datum that a value shows, if it is one. -/
def AV.pv : AV → Option PV
  | .p x => some x
  | .own s xs => some (.sl s xs)
  | .tgt s xs => some (.sl s xs)
  | .ag cs => (AV.pvL cs).map .ag
  | .cptr _ => none
  | .ref .. => none
  | .arr .. => none
  | .mp _ => none
  | .fn .. => none
  | .tu _ => none
  | .ifc .. => none
def AV.pvL : List AV → Option (List PV)
  | [] => some []
  | x :: xs => match x.pv, AV.pvL xs with
    | some y, some ys => some (y :: ys)
    | _, _ => none
end

mutual
/-- Every reference is to an entry below n. -/
def AV.lt (n : Nat) : AV → Bool
  | .p _ => true
  | .own .. => true
  | .tgt .. => true
  | .cptr _ => true
  | .ref i _ _ => decide (i < n)
  | .arr _ i _ _ _ => decide (i < n)
  | .mp i => decide (i < n)
  | .fn _ a b => AV.ltL n a && AV.ltL n b
  | .ag cs => AV.ltL n cs
  | .tu vs => AV.ltL n vs
  | .ifc .. => true
def AV.ltL (n : Nat) : List AV → Bool
  | [] => true
  | x :: xs => x.lt n && AV.ltL n xs
end

def AV.cells : AV → List AV
  | .ag cs => cs
  | .p (.ag cs) => cs.map .p
  | x => [x]

/-- One cell's worth. -/
def PV.one : PV → Bool
  | .sc v => v.oneCell'
  | .sl .. => true
  | .ag _ => false
def AV.one : AV → Bool
  | .p x => x.one
  | .ag _ => false
  | .tu _ => false
  | _ => true

inductive Ent where
  | cells (ver : Nat) (cs : List AV)
  | map (kvs : List (Int × AV))
  | dead

instance : Inhabited Ent := ⟨.dead⟩

def Ent.below (n : Nat) : Ent → Bool
  | .cells _ cs => AV.ltL n cs
  | .map kvs => AV.ltL n (kvs.map (·.2))
  | .dead => true

structure St where
  env : Nat → AV
  σ : List Ent

/-- Hints: by the slot that an operation writes: which moves take, which slices are made as arrays, which are frozen. No proof leans on them. -/
structure Hint where
  tk : List Nat := []
  tg : List Nat := []
  ar : List Nat := []
  fz : List Nat := []
  vw : List Nat := []
  nl : List Nat := []

/-- A nil slice of cells of one as an own one. -/
def nlw : AV → AV
  | .p (.sc (.slice none 0 0)) => .own 1 []
  | x => x
def nlL (b : Bool) (cs : List AV) : List AV := if b then cs.map nlw else cs

def hd (l : List Nat) : Option Nat → Bool
  | some d => l.elem d
  | none => false

def upd (e : Nat → AV) (d : Nat) (v : AV) : Nat → AV := fun n => if n = d then v else e n

def rd (e : Nat → AV) : Operand → AV
  | .tmp t => e t
  | .const v => .p (.sc v)
  | .global g => .p (.sc (.pointer (some ⟨g, 0, none⟩)))
  | .func f => .fn (.func f) [] []

/-- An operand's value, taken out of its slot or copied. -/
def grab (tk : Bool) (x : Operand) (st : St) : AV × St :=
  match tk, x with
  | true, .tmp t => (st.env t, { st with env := upd st.env t (st.env t).dem })
  | _, x => ((rd st.env x).dem, st)

/-! ### Types -/
/-- Of a slice type: the element's type, cells, bytes, zero cells. -/
def slT (P : Program) (t : TypeId) : Option (TypeId × Nat × Nat × List Value) :=
  match P.underlying t with
  | some (.slice e) => match P.info? e with
    | some i => match i.zero with
      | some z => if z.cells.size = i.size then some (e, i.size, i.bytes, z.cells.toList) else none
      | none => none
    | none => none
  | _ => none
/-- Is it a struct or an array, and how many cells has it? -/
def agT (P : Program) (t : TypeId) : Option (Bool × Nat) :=
  match P.underlying t, P.info? t with
  | some (.struct _), some i | some (.array _ _), some i => some (true, i.size)
  | some _, some i => some (false, i.size)
  | _, _ => none
/-- Field f of a struct type: its offset, is it itself a struct or an array, its cells (not 0). -/
def flT (P : Program) (t : TypeId) (f : Nat) : Option (Nat × Bool × Nat) :=
  match P.underlying t with
  | some (.struct fs) => match fs[f]? with
    | some fl => match agT P fl.type with
      | some (b, n) => if n = 0 then none else some (fl.offset, b, n)
      | none => none
    | none => none
  | _ => none
/-- A struct type, each field's type known. -/
def stT (P : Program) (t : TypeId) : Bool := match P.underlying t with | some (.struct fs) => fs.toList.all (fun f => (P.info? f.type).isSome) | _ => false
/-- A type's zero cells. -/
def zrT (P : Program) (t : TypeId) : Option (List Value) :=
  match P.info? t with
  | some i => i.zero.map (·.cells.toList)
  | none => none
/-- An array type: its length, the element: is it a struct or an array, its cells. -/
def arT (P : Program) (t : TypeId) : Option (Nat × Bool × Nat) :=
  match P.underlying t with
  | some (.array n e) => match agT P e with
    | some (b, m) => some (n, b, m)
    | none => none
  | _ => none
/-- A map type with keys of int: its element's zero value. -/
def mpT (P : Program) (t : TypeId) : Option Value :=
  match P.underlying t with
  | some (.map k e) => match P.underlying k, P.info? e with
    | some (.int .i64), some i => i.zero
    | _, _ => none
  | _ => none
/-- The tables of math/bits, by their variables' names. -/
def tab32 : List Nat := [0, 1, 28, 2, 29, 14, 24, 3, 30, 22, 20, 15, 25, 17, 4, 8, 31, 27, 13, 23, 21, 19, 16, 7, 26, 12, 18, 6, 11, 5, 10, 9]
def tab64 : List Nat := [0, 1, 56, 2, 57, 49, 28, 3, 61, 58, 42, 50, 38, 29, 17, 4, 62, 47, 59, 36, 45, 43, 51, 22, 53, 39, 33, 30, 24, 18, 12, 5, 63, 55, 48, 27, 60, 41, 37, 16, 46, 35, 44, 21, 52, 32, 23, 11, 54, 26, 40, 15, 34, 20, 31, 10, 25, 14, 19, 9, 13, 8, 7, 6]
def tabOf (P : Program) (g : Nat) : Option (List Nat) :=
  match P.globals[g]? with
  | some v => if v.name = "math/bits.deBruijn32tab" then some tab32 else if v.name = "math/bits.deBruijn64tab" then some tab64 else none
  | none => none
/-- The address of an element of a table. -/
def tabA (A : Option (Nat × Bool × Nat)) (T : Option (List Nat)) (i : AV) : Option AV :=
  match A, T, i with
  | some (n, false, 1), some vs, .p (.sc (.int _ i)) => if n = vs.length ∧ 0 ≤ i ∧ i < vs.length then (vs[i.toNat]?).map fun (v : Nat) => AV.cptr (.sc (.int .u8 (v : Int))) else none
  | _, _, _ => none
def boolT (P : Program) (t : TypeId) : Bool := match P.underlying t with | some .bool => true | _ => false
def inT (P : Program) (t : TypeId) : Option IntKind := match P.underlying t with | some (.int k) => some k | _ => none

/-- A nil slice as a slice of its type. -/
def nz (P : Program) (t : TypeId) (v : AV) : AV :=
  match v with
  | .p (.sc (.slice none 0 0)) => match slT P t with
    | some (_, s, _, _) => .own s []
    | none => v
  | _ => v

/-! ### Scalars -/
def bin (P : Program) (op : BinOp) (t : TypeId) (x y : Value) : Option Value :=
  match op, x, y with
  | .shl, .int k a, .int _ b => if b < 0 then none else some (.int k (k.wrap (a * 2 ^ (min b.toNat k.bits))))
  | .shr, .int k a, .int _ b => if b < 0 then none else some (.int k (a.fdiv (2 ^ (min b.toNat k.bits))))
  | .add, .int k a, .int k' b => if k = k' then some (.int k (k.wrap (a + b))) else none
  | .sub, .int k a, .int k' b => if k = k' then some (.int k (k.wrap (a - b))) else none
  | .mul, .int k a, .int k' b => if k = k' then some (.int k (k.wrap (a * b))) else none
  | .quo, .int k a, .int k' b => if k = k' then (if b = 0 then none else some (.int k (k.wrap (a.tdiv b)))) else none
  | .rem, .int k a, .int k' b => if k = k' then (if b = 0 then none else some (.int k (a.tmod b))) else none
  | .and, .int k a, .int k' b => if k = k' then some (.int k (k.wrap (BitVec.ofInt k.bits a &&& BitVec.ofInt k.bits b).toNat)) else none
  | .or, .int k a, .int k' b => if k = k' then some (.int k (k.wrap (BitVec.ofInt k.bits a ||| BitVec.ofInt k.bits b).toNat)) else none
  | .xor, .int k a, .int k' b => if k = k' then some (.int k (k.wrap (BitVec.ofInt k.bits a ^^^ BitVec.ofInt k.bits b).toNat)) else none
  | .andNot, .int k a, .int k' b => if k = k' then some (.int k (k.wrap (BitVec.ofInt k.bits a &&& ~~~ BitVec.ofInt k.bits b).toNat)) else none
  | .eql, .int k a, .int k' b => if k = k' then some (.bool (decide (a = b))) else none
  | .neq, .int k a, .int k' b => if k = k' then some (.bool (!decide (a = b))) else none
  | .lss, .int k a, .int k' b => if k = k' then some (.bool (decide (a < b))) else none
  | .leq, .int k a, .int k' b => if k = k' then some (.bool (decide (a ≤ b))) else none
  | .gtr, .int k a, .int k' b => if k = k' then some (.bool (decide (b < a))) else none
  | .geq, .int k a, .int k' b => if k = k' then some (.bool (decide (b ≤ a))) else none
  | .eql, .bool a, .bool b => if boolT P t then some (.bool (a == b)) else none
  | .neq, .bool a, .bool b => if boolT P t then some (.bool (a != b)) else none
  | _, _, _ => none

def una (op : UnOp) (x : Value) : Option Value :=
  match op, x with
  | .neg, .int k n => some (.int k (k.wrap (0 - n)))
  | .not, .bool b => some (.bool !b)
  | _, _ => none

def mm (mx : Bool) : List Value → Option Value
  | [.int k a, .int _ b] => some (.int k (if mx then (if a < b then b else a) else (if b < a then b else a)))
  | _ => none

/-! ### Operations on values: each gives the value and the heap -/
def AV.sc? : AV → Option Value
  | .p (.sc v) => some v
  | _ => none

def elemsOf : AV → Option (Nat × List PV)
  | .p (.sl s xs) => some (s, xs)
  | .own s xs => some (s, xs)
  | .tgt s xs => some (s, xs)
  | _ => none

def lenA : AV → Option Nat
  | .p (.sl _ xs) => some xs.length
  | .own _ xs => some xs.length
  | .tgt _ xs => some xs.length
  | .arr _ _ _ _ n => some n
  | _ => none

/-- Load of type t through a pointer. -/
def loadA (P : Program) (t : TypeId) (tk : Bool) (a : AV) (σ : List Ent) : Option (AV × List Ent) :=
  match agT P t with
  | none => none
  | some (isA, n) =>
    match a with
    | .cptr x => match isA, x with
      | true, .ag cs => if cs.length = n then some (.p x, σ) else none
      | false, .ag _ => none
      | false, x => some (nz P t (.p x), σ)
      | true, _ => none
    | .ref id ver off => match σ[id]? with
      | some (.cells ver' cs) =>
        if ver' ≠ ver then none else
        if isA then (if off + n ≤ cs.length then
            (if tk then some (.ag ((cs.drop off).take n), σ.set id (.cells ver (cs.take off ++ AV.demL ((cs.drop off).take n) ++ cs.drop (off + n))))
             else some (.ag (AV.demL ((cs.drop off).take n)), σ)) else none) else
        match cs[off]? with
        | some v => if tk then some (nz P t v, σ.set id (.cells ver (cs.set off v.dem))) else some (nz P t v.dem, σ)
        | none => none
      | _ => none
    | _ => none

def putL : List AV → Nat → List AV → List AV
  | cs, _, [] => cs
  | cs, o, v :: vs => putL (cs.set o v) (o + 1) vs

/-- Store of type t through a pointer. -/
def storeA (P : Program) (t : TypeId) (a v : AV) (σ : List Ent) : Option (List Ent) :=
  match agT P t with
  | none => none
  | some (_, n) =>
    match a with
    | .ref id ver off => match σ[id]? with
      | some (.cells ver' cs) =>
        if ver' ≠ ver then none else
        if v.cells.length ≠ n ∨ v.cells.all AV.one = false then none else
        if off + n ≤ cs.length then some (σ.set id (.cells ver (putL cs off v.cells))) else none
      | _ => none
    | _ => none

/-- The address of an element. -/
def idxA (P : Program) (t : TypeId) (x i : AV) : Option AV :=
  match i with
  | .p (.sc (.int _ i)) =>
    match x with
    | .arr s id ver off len => match slT P t with
      | some (_, s', _, _) => if s = s' ∧ 0 ≤ i ∧ i < len then some (.ref id ver (off + i.toNat * s)) else none
      | none => none
    | .ref id ver off => match arT P t with
      | some (n, _, m) => if 0 ≤ i ∧ i < n then some (.ref id ver (off + i.toNat * m)) else none
      | none => none
    | x => match slT P t, elemsOf x with
      | some (_, s', _, _), some (s, xs) => if s = s' ∧ 0 ≤ i ∧ i < xs.length then (xs[i.toNat]?).map .cptr else none
      | _, _ => none
  | _ => none

/-- The address of a field. -/
def fldA (P : Program) (t : TypeId) (x : AV) (f : Nat) : Option AV :=
  match flT P t f with
  | none => none
  | some (o, isA, n) =>
    match x with
    | .ref id ver off => some (.ref id ver (off + o))
    | .cptr (.ag cs) => if isA then (if o + n ≤ cs.length then some (.cptr (.ag ((cs.drop o).take n))) else none)
        else match cs[o]? with
          | some (.ag _) => none
          | some c => some (.cptr c)
          | none => none
    | _ => none

/-- A part of a value of cells. -/
def partA (isA : Bool) (cs : List AV) (o n : Nat) : Option AV :=
  if isA then (if o + n ≤ cs.length then some (.ag ((cs.drop o).take n)) else none) else cs[o]?

def fieldA (P : Program) (t : TypeId) (x : AV) (f : Nat) : Option AV :=
  match flT P t f with
  | none => none
  | some (o, isA, n) =>
    match x with
    | .ag cs => partA isA cs o n
    | .p (.ag cs) => partA isA (cs.map .p) o n
    | _ => none

def indexA (P : Program) (t : TypeId) (x i : AV) : Option AV :=
  match i with
  | .p (.sc (.int _ i)) => match arT P t with
    | some (n, isA, m) => if 0 ≤ i ∧ i < n then (match x with
      | .ag cs => partA isA cs (i.toNat * m) m
      | .p (.ag cs) => partA isA (cs.map .p) (i.toNat * m) m
      | _ => none) else none
    | none => none
  | _ => none

/-- x[lo:hi] and x[lo:hi:hi]; never beyond the length. -/
def sliceA (P : Program) (t : TypeId) (x : AV) (lo hi mx : Option AV) : Option AV :=
  match slT P t, lenA x with
  | some (_, s', _, _), some n =>
    let num (d : Nat) : Option AV → Option Nat
      | none => some d
      | some (.p (.sc (.int _ i))) => if 0 ≤ i ∧ i ≤ n then some i.toNat else none
      | some _ => none
    match num 0 lo, num n hi, mx with
    | some l, some h, none => if l ≤ h then (match x with
        | .arr s id ver off _ => if s = s' ∧ l < h then some (.arr s id ver (off + l * s) (h - l)) else none
        | .own s xs => if s = s' then some (if h = n then .own s (xs.drop l) else .p (.sl s ((xs.take h).drop l))) else none
        | .tgt s xs => if s = s' then some (if h = n then .tgt s (xs.drop l) else .p (.sl s ((xs.take h).drop l))) else none
        | .p (.sl s xs) => if s = s' then some (.p (.sl s ((xs.take h).drop l))) else none
        | _ => none) else none
    | some l, some h, some m => if hi.isNone then none else match num n (some m) with
      | some m => if h ≠ m then none else if l ≤ h then (match elemsOf x with
        | some (s, xs) => if s = s' then some (.tgt s ((xs.take h).drop l)) else none
        | none => none) else none
      | none => none
    | _, _, _ => none
  | _, _ => none

def PV.ofCells (isA : Bool) (z : List Value) : PV := if isA then .ag (z.map .sc) else match z with | [v] => .sc v | _ => .sc undef

/-- The zero element of a slice type. -/
def zeroE (P : Program) (e : TypeId) (z : List Value) : Option PV :=
  match agT P e with
  | some (true, n) => if z.length = n ∧ z.all Value.oneCell' = true then some (.ag (z.map .sc)) else none
  | some (false, n) => match z with
    | [v] => if n = 1 ∧ v.oneCell' = true then some (.sc v) else none
    | _ => none
  | none => none

/-- The elements of a literal. -/
def fillA (s : Nat) : List PV → List (Nat × AV) → Option (List PV)
  | xs, [] => some xs
  | xs, (i, v) :: r => match v.pv with
    | some x => if i < xs.length ∧ x.cells.length = s ∧ x.cells.all PV.one = true then fillA s (xs.set i x) r else none
    | none => none

/-- The cells of a struct literal. -/
def buildA (P : Program) (t : TypeId) : List AV → List (Nat × AV) → Option (List AV)
  | cs, [] => some cs
  | cs, (f, v) :: r => match flT P t f with
    | some (o, _, n) => if v.cells.length = n ∧ o + n ≤ cs.length ∧ v.cells.all AV.one = true then buildA P t (putL cs o v.cells) r else none
    | none => none

/-- A fresh array of these elements. -/
def newArr (s : Nat) (cs : List AV) (len : Nat) (σ : List Ent) : AV × List Ent := (.arr s σ.length 0 0 len, σ ++ [.cells 0 cs])

def limit : Nat := 1099511627776

/-- Elements of a slice value as they now stand. -/
def seen (x : AV) (σ : List Ent) : Option (Nat × List PV) :=
  match x with
  | .arr s id ver off len => match σ[id]? with
    | some (.cells ver' cs) => if ver' = ver ∧ s = 1 ∧ off + len ≤ cs.length then (AV.pvL ((cs.drop off).take len)).map (s, ·) else none
    | _ => none
  | x => elemsOf x

/-- A frozen array. -/
def freezeA (x : AV) (σ : List Ent) : Option (AV × List Ent) :=
  match x with
  | .arr s id ver off len => match σ[id]? with
    | some (.cells ver' cs) => if ver' ≠ ver ∨ s ≠ 1 ∨ off ≠ 0 ∨ cs.length ≠ len then none else
      (match AV.pvL cs with
       | some xs => some (.own s xs, σ.set id .dead)
       | none => none)
    | _ => none
  | x => some (x, σ)

/-- append to an array that stays one. -/
def appR (s' : Nat) (ys : List PV) (x : AV) (σ : List Ent) : Option (AV × List Ent) :=
  match x with
  | .arr s id ver off len => if s ≠ s' ∨ s ≠ 1 ∨ off ≠ 0 ∨ limit < len + ys.length ∨ ys.all PV.one = false then none else
      match σ[id]? with
      | some (.cells ver' cs) => if ver' ≠ ver ∨ cs.length ≠ len then none else
        some (.arr s id (ver + 1) 0 (len + ys.length), σ.set id (.cells (ver + 1) (cs ++ ys.map .p)))
      | _ => none
  | _ => none

/-- append to a row. -/
def appO (s' : Nat) (ys : List PV) (x : AV) (σ : List Ent) : Option (AV × List Ent) :=
  match x with
  | .own s xs => if s ≠ s' ∨ limit < xs.length + ys.length then none else some (.own s (xs ++ ys), σ)
  | .tgt s xs => if s ≠ s' ∨ limit < xs.length + ys.length ∨ (xs ≠ [] ∧ ys = []) then none else some (.own s (xs ++ ys), σ)
  | _ => none

/-- append(x, ys...). -/
def appA (P : Program) (t : TypeId) (ar : Bool) (x y : AV) (σ : List Ent) : Option (AV × List Ent) :=
  match slT P t, seen y σ with
  | some (_, s', b, _), some (s2, ys) =>
    if s2 ≠ s' ∨ s' = 0 ∨ 128 < b then none else
    if ar then (match x with
      | .own s [] => let (x, σ) := newArr s [] 0 σ; appR s' ys x σ
      | x => appR s' ys x σ)
    else (match freezeA x σ with
      | some (x, σ) => appO s' ys x σ
      | none => none)
  | _, _ => none

def mget (k : Int) : List (Int × AV) → Option AV
  | [] => none
  | (j, v) :: r => if j = k then some v else mget k r
def mset (k : Int) (v : AV) : List (Int × AV) → List (Int × AV)
  | [] => [(k, v)]
  | (j, u) :: r => if j = k then (j, v) :: r else (j, u) :: mset k v r

def ofVal (v : Value) : AV := match v with
  | .agg cs => .ag (cs.toList.map fun c => .p (.sc c))
  | v => .p (.sc v)

def lookA (P : Program) (t e : TypeId) (tk ok : Bool) (m k : AV) (σ : List Ent) : Option (AV × List Ent) :=
  match mpT P t, m, k with
  | some z, .mp id, .p (.sc (.int .i64 k)) => match σ[id]? with
    | some (.map kvs) => match mget k kvs with
      | some v => if ok then some (.tu [v.dem, bv true], σ) else if tk then some (nz P e v, σ.set id (.map (mset k v.dem kvs))) else some (nz P e v.dem, σ)
      | none => some (if ok then .tu [ofVal z, bv false] else nz P e (ofVal z), σ)
    | _ => none
  | _, _, _ => none

def mupA (P : Program) (t : TypeId) (m k v : AV) (σ : List Ent) : Option (List Ent) :=
  match mpT P t, m, k with
  | some _, .mp id, .p (.sc (.int .i64 k)) => match σ[id]? with
    | some (.map kvs) => some (σ.set id (.map (mset k v kvs)))
    | _ => none
  | _, _, _ => none

/-- A slice that is not empty is not nil. -/
def nilQ (P : Program) (t : TypeId) (op : BinOp) (x y : AV) : Option AV :=
  match slT P t, y with
  | some _, .p (.sc (.slice none 0 0)) => match elemsOf x with
    | some (_, _ :: _) => match op with
      | .eql => some (bv false)
      | .neq => some (bv true)
      | _ => none
    | _ => none
  | _, _ => none

/-! ### One operation (no call) -/
/-- Moves, assigns. -/
def movA (P : Program) (H : Hint) (o : Oper) (tk : Bool) (x : Operand) (st : St) : Option (AV × St) :=
  let (v, st) := grab tk x st
  let v := nz P o.type v
  if hd H.fz o.dst then (freezeA v st.σ).map fun (v, σ) => (v, { st with σ }) else
  if hd H.ar o.dst then (match v with
    | .own s [] => let (v, σ) := newArr s [] 0 st.σ; some (v, { st with σ })
    | _ => some (v, st))
  else some (v, st)

def withσ (st : St) (r : Option (AV × List Ent)) : Option (AV × St) := r.map fun (v, σ) => (v, { st with σ })
def only (st : St) (r : Option AV) : Option (AV × St) := r.map fun v => (v, st)
def store' (st : St) (r : Option (List Ent)) : Option (AV × St) := r.map fun σ => (un, { st with σ })

def opF (P : Program) (H : Hint) (o : Oper) (st : St) : Option (AV × St) :=
  match o.op with
  | .move x => movA P H o (hd H.tk o.dst) x st
  | .assign x => movA P H o true x st
  | .pick c a b => match rd st.env c with
    | .p (.sc (.bool c)) => some ((rd st.env (if c then a else b)).dem, st)
    | _ => none
  | .alloc e => match zrT P e with
    | some z => if z.all Value.oneCell' = true then some (.ref st.σ.length 0 0, { st with σ := st.σ ++ [.cells 0 (z.map fun v => .p (.sc v))] }) else none
    | none => none
  | .box _ x => let (v, st) := grab true x st
    if v.cells.all AV.one = true then some (.ref st.σ.length 0 0, { st with σ := st.σ ++ [.cells 0 (nlL (hd H.nl o.dst) v.cells)] }) else none
  | .build t ps => match zrT P t, agT P t with
    | some z, some (true, m) => if z.length = m ∧ stT P t = true then
        (buildA P t (z.map fun v => .p (.sc v)) (ps.toList.map fun (i, x) => (i, (rd st.env x).dem))).map fun cs => (.ag cs, st) else none
    | _, _ => none
  | .buildSlice t n ps => match slT P t with
    | some (e, s, _, z) => match zeroE P e z with
      | some z => if n ≤ 4096 ∧ s ≤ 16 ∧ 0 < s then (fillA s (List.replicate n z) (ps.toList.map fun (i, x) => (i, rd st.env x))).map fun xs =>
          if hd H.ar o.dst && s == 1 && xs.all PV.one then let (v, σ) := newArr s (xs.map .p) n st.σ; (v, { st with σ }) else (if hd H.tg o.dst then .tgt s xs else .own s xs, st)
        else none
      | none => none
    | none => none
  | .load t a => withσ st (loadA P t (hd H.tk o.dst) (rd st.env a) st.σ)
  | .store t a x => let ad := rd st.env a; let (v, st) := grab true x st; store' st (storeA P t ad v st.σ)
  | .nilCheck x => match rd st.env x with
    | .ref i v f => some (.ref i v f, st)
    | .cptr x => some (.cptr x, st)
    | .fn (.func f) a b => some (.fn (.func f) a b, st)
    | _ => none
  | .binOp op t x y _ => match (rd st.env x).sc?, (rd st.env y).sc? with
    | some a, some b => only st ((bin P op t a b).map fun v => .p (.sc v))
    | _, _ => only st (nilQ P t op (rd st.env x) (rd st.env y))
  | .unOp op _ x => match (rd st.env x).sc? with
    | some a => only st ((una op a).map fun v => .p (.sc v))
    | none => none
  | .convert src dst x => match inT P src, inT P dst, rd st.env x with
    | some _, some k, .p (.sc (.int _ n)) => some (.p (.sc (.int k (k.wrap n))), st)
    | _, _, _ => none
  | .makeFunc f a b => some (.fn f (a.toList.map fun x => (rd st.env x).dem) (b.toList.map fun x => (rd st.env x).dem), st)
  | .makeMap _ none => some (.mp st.σ.length, { st with σ := st.σ ++ [.map []] })
  | .makeSlice t l c => match slT P t, rd st.env l, rd st.env c with
    | some (e, s, b, z), .p (.sc (.int .i64 n)), .p (.sc (.int .i64 m)) => match zeroE P e z with
      | some z => if n = m ∧ 0 ≤ n ∧ n ≤ limit ∧ b ≤ 128 ∧ s ≠ 0 then
          (if hd H.ar o.dst && s == 1 && z.one then let (v, σ) := newArr s (List.replicate n.toNat (.p z)) n.toNat st.σ; some (v, { st with σ })
           else some (.own s (List.replicate n.toNat z), st)) else none
      | none => none
    | _, _, _ => none
  | .slice t x lo hi mx => let l := lo.map (rd st.env); let h := hi.map (rd st.env); let m := mx.map (rd st.env); let (v, st) := grab true x st
    only st (sliceA P t v l h m)
  | .fieldAddr t x f => only st (fldA P t (rd st.env x) f)
  | .field t x f => only st ((fieldA P t (rd st.env x) f).map fun v => nz P o.type v.dem)
  | .indexAddr t x i => match x with
    | .global v => only st (tabA (arT P t) (tabOf P v) (rd st.env i))
    | x => only st (idxA P t (rd st.env x) (rd st.env i))
  | .index t x i => only st ((indexA P t (rd st.env x) (rd st.env i)).map fun v => nz P o.type v.dem)
  | .lookup t m k ok => withσ st (lookA P t o.type (hd H.tk o.dst) ok (rd st.env m) (rd st.env k) st.σ)
  | .mapUpdate t m k x => let ma := rd st.env m; let ka := rd st.env k; let (v, st) := grab true x st; store' st (mupA P t ma ka v st.σ)
  | .extract x i => match x with
    | .tmp t => match st.env t with
      | .tu vs => match vs[i]? with
        | some v => some (nz P o.type v, { st with env := upd st.env t (.tu (vs.set i v.dem)) })
        | none => none
      | _ => none
    | _ => none
  | _ => none

/-- An array is not frozen unasked. -/
def fzok (b : Bool) : AV → Bool
  | .arr .. => b
  | _ => true

/-- A builtin. -/
def bltF (P : Program) (H : Hint) (b : Builtin) (o : Oper) (c : Call) (st : St) : Option (AV × St) :=
  match b with
  | .len => match c.args[0]?, c.argTypes[0]? with
    | some x, some t => match rd st.env x with
      | .mp id => match mpT P t, st.σ[id]? with
        | some _, some (.map kvs) => some (iv kvs.length, st)
        | _, _ => none
      | v => match slT P t, lenA v with
        | some _, some n => some (iv n, st)
        | _, _ => none
    | _, _ => none
  | .append => match c.args[0]?, c.args[1]?, c.argTypes[0]?, c.argTypes[1]? with
    | some x, some y, some t, some t' => match slT P t' with
      | none => none
      | some _ =>
        let w := nz P t' (rd st.env y)
        let (v, st) := grab true x st
        if fzok (hd H.fz o.dst || hd H.ar o.dst) (nz P t v) = true then withσ st (appA P t (hd H.ar o.dst) (nz P t v) w st.σ) else none
    | _, _, _, _ => none
  | .min => match c.args.toList.mapM fun x => (rd st.env x).sc? with
    | some vs => only st ((mm false vs).map fun v => .p (.sc v))
    | none => none
  | .max => match c.args.toList.mapM fun x => (rd st.env x).sc? with
    | some vs => only st ((mm true vs).map fun v => .p (.sc v))
    | none => none
  | _ => none

end Go.Ab
