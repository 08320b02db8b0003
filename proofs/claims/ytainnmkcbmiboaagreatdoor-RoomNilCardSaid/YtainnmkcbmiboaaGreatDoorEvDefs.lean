/-
  Ev: a deterministic evaluator over abstract values for the code of GoSem. Definitions alone.
-/
import GoSem.Step
namespace Go.Ev
open Go

/-- Abstract values. `ptr`, `sl`, `map`: into the store's objects. `cptr`, `tr`: into cells that never change any more. -/
inductive AV where
  | bool (b : Bool)
  | int (k : IntKind) (n : Int)
  | str (s : List UInt8)
  | nilp
  | ptr (o off : Nat)
  | cptr (cs : List AV) (off : Nat)
  | nils
  | sl (o off len : Nat) (lim : Option Nat)
  | tr (es : List (List AV))
  | nilm
  | map (o : Nat)
  | nilf
  | fn (f : FuncId) (first cap : List AV)
  | yld (l : Nat)
  | nili
  | iface (t : TypeId) (v : AV)
  | agg (cs : List AV)
  | tup (vs : List AV)
  deriving Inhabited

def kindEq : IntKind → IntKind → Bool
  | .i8, .i8 | .i16, .i16 | .i32, .i32 | .i64, .i64 | .u8, .u8 | .u16, .u16 | .u32, .u32 | .u64, .u64 => true
  | _, _ => false

def bytesEq : List UInt8 → List UInt8 → Bool
  | [], [] => true
  | a :: x, b :: y => a.toNat.beq b.toNat && bytesEq x y
  | _, _ => false

def intEq : Int → Int → Bool
  | .ofNat a, .ofNat b => a.beq b
  | .negSucc a, .negSucc b => a.beq b
  | _, _ => false

mutual
/-- Are two values the same? (Sound: true only of equal ones.) -/
def AV.beq : AV → AV → Bool
  | .bool a, .bool b => a == b
  | .int k a, .int j b => kindEq k j && intEq a b
  | .str a, .str b => bytesEq a b
  | .nilp, .nilp => true
  | .ptr a b, .ptr c d => a.beq c && b.beq d
  | .cptr a b, .cptr c d => b.beq d && AV.beqL a c
  | .nils, .nils => true
  | .sl a b c none, .sl d e f none => a.beq d && b.beq e && c.beq f
  | .sl a b c (some x), .sl d e f (some y) => a.beq d && b.beq e && c.beq f && x.beq y
  | .tr a, .tr b => AV.beqLL a b
  | .nilm, .nilm => true
  | .map a, .map b => a.beq b
  | .nilf, .nilf => true
  | .fn f a b, .fn g c d => f.beq g && AV.beqL a c && AV.beqL b d
  | .yld a, .yld b => a.beq b
  | .nili, .nili => true
  | .iface t a, .iface u b => t.beq u && AV.beq a b
  | .agg a, .agg b => AV.beqL a b
  | .tup a, .tup b => AV.beqL a b
  | _, _ => false
def AV.beqL : List AV → List AV → Bool
  | [], [] => true
  | a :: x, b :: y => AV.beq a b && AV.beqL x y
  | _, _ => false
def AV.beqLL : List (List AV) → List (List AV) → Bool
  | [], [] => true
  | a :: x, b :: y => AV.beqL a b && AV.beqLL x y
  | _, _ => false
end

abbrev Env := List (Nat × AV)

/-- An object of the store. -/
inductive AObj where
  | cells (cs : List AV) (ty : TypeId) (imm : Bool)
  | map (es : List (Nat × AV × AV)) (clock : Nat)
  | iter (s : List UInt8) (pos : Nat)
  | miter (m : Option Nat) (since : Nat) (seen : List Nat) (stepped : Nat)
  | loop (st : LoopState) (pending : Option Code) (fn : FuncId) (env : Env) (params : List Nat) (assign body : Code) (defs : Nat) (nt : Nat)
  | defs (taken : Bool)
  deriving Inhabited

def look {α : Type} : List (Nat × α) → Nat → Option α
  | [], _ => none
  | (k, v) :: r, i => cond (Nat.beq k i) (some v) (look r i)

/-- Put in place of what stands there; behind all, if nothing does. -/
def put {α : Type} : List (Nat × α) → Nat → α → List (Nat × α)
  | [], i, v => [(i, v)]
  | (k, u) :: r, i, v => cond (Nat.beq k i) ((k, v) :: r) ((k, u) :: put r i v)

def del {α : Type} : List (Nat × α) → Nat → List (Nat × α)
  | [], _ => []
  | (k, u) :: r, i => cond (Nat.beq k i) (del r i) ((k, u) :: del r i)

/-- What stands at numbers below a bound. -/
def below {α : Type} : List (Nat × α) → Nat → List (Nat × α)
  | [], _ => []
  | (k, u) :: r, m => cond (Nat.ble m k) (below r m) ((k, u) :: below r m)

structure Store where
  next : Nat
  objs : List (Nat × AObj)
  deriving Inhabited

def Store.get (σ : Store) (o : Nat) : Option AObj := look σ.objs o
def Store.set (σ : Store) (o : Nat) (x : AObj) : Store := { σ with objs := put σ.objs o x }
/-- A new object of a number that was kept for it. -/
def Store.add (σ : Store) (o : Nat) (x : AObj) : Store := { σ with objs := (o, x) :: σ.objs }
def Store.kill (σ : Store) (o : Nat) : Store := { σ with objs := del σ.objs o }
def Store.cut (σ : Store) (m : Nat) : Store := { σ with objs := below σ.objs m }

/-- What a type is, as far as is asked here. -/
inductive TD where
  | bool | int (k : IntKind) | str
  | ptr (e : TypeId) | slice (e : TypeId) | arr (n : Nat) (e : TypeId)
  | struct (fs : List (Nat × TypeId))
  | map (k e : TypeId) | iface | fn | uptr | other
  deriving Inhabited
structure TI where
  d : TD
  size : Nat
  bytes : Nat
  zero : List AV
  flat : List Nat  -- what its cells are, where they are booleans (0), integers (1), texts (2) alone: equal, if all cells are
  deriving Inhabited

/-- A function's code, and two words of ours: are its own objects let go at its end; which temporaries live across regions. -/
structure FC where
  results : List ResultVar
  body : Code
  drop : Bool
  live : Nat
  ntmps : Nat
  deriving Inhabited

inductive OR where
  | val (v : AV)
  | pan (v : AV)
  deriving Inhabited

abbrev Oracle := FuncId → List AV → Store → Option (OR × Store)
abbrev Yielder := Nat → List AV → Store → Option (OR × Store)

/-- What the evaluator is told of a program. -/
structure Info where
  tt : TypeId → Option TI
  code : FuncId → Option FC
  prim : FuncId → Option (List AV → Store → Option (AV × Store))
  meth : TypeId → String → Option (FuncId × Option (Nat × TypeId))
  frz : FuncId → Nat → Nat → Bool
  free : FuncId → Nat → List (Nat × Nat)
  glob : Nat → Option (List AV)
  one : TypeId → Bool    -- no rows of it are appended to

def TI.isAgg (i : TI) : Bool := match i.d with | .struct _ => true | .arr _ _ => true | _ => false
def TI.val (i : TI) (cs : List AV) : Option AV :=
  if i.isAgg then some (.agg cs) else match cs with | [v] => some v | _ => none
def AV.cells : AV → List AV
  | .agg cs => cs
  | v => [v]
/-- One cell's value: may it lie in a cell? -/
def AV.isAtom : AV → Bool
  | .agg _ => false
  | .tup _ => false
  | _ => true

/-! ### Constants -/
def ofAtom : Value → Option AV
  | .bool b => some (.bool b)
  | .int k n => some (.int k n)
  | .string s => some (.str s.data.toList)
  | .pointer none => some .nilp
  | .slice none 0 0 => some .nils
  | .map none => some .nilm
  | .nilFunc => some .nilf
  | .nilIface => some .nili
  | _ => none
def ofAtoms : List Value → Option (List AV)
  | [] => some []
  | v :: r => match ofAtom v, ofAtoms r with
    | some a, some l => some (a :: l)
    | _, _ => none
def ofVal : Value → Option AV
  | .agg cs => (ofAtoms cs.toList).map .agg
  | .tuple vs => if vs.size = 0 then some (.tup []) else none
  | v => ofAtom v

section
variable (G : Info)

def opd (env : Env) : Operand → Option AV
  | .tmp t => look env t
  | .const v => ofVal v
  | .global g => (G.glob g).map (.cptr · 0)
  | .func f => some (.fn f [] [])
def opds (env : Env) : List Operand → Option (List AV)
  | [] => some []
  | x :: r => match opd G env x, opds env r with
    | some a, some l => some (a :: l)
    | _, _ => none

/-! ### Arithmetic: the model's own, where it answers at once -/
def pureOf : Sem Value → Option AV
  | .pure v => ofAtom v
  | _ => none

def atomEq : AV → AV → Option Bool
  | .bool a, .bool b => some (a == b)
  | .int k a, .int j b => if kindEq k j then some (intEq a b) else none
  | .str a, .str b => some (bytesEq a b)
  | _, _ => none
/-- two cells of a kind -/
def cellEq : Nat → AV → AV → Option Bool
  | 0, .bool a, .bool b => some (a == b)
  | 1, .int k a, .int j b => if kindEq k j then some (intEq a b) else none
  | 2, .str a, .str b => some (bytesEq a b)
  | _, _, _ => none
def cellsEq : List Nat → List AV → List AV → Option Bool
  | [], [], [] => some true
  | k :: ks, a :: x, b :: y => match cellEq k a b with
    | some true => cellsEq ks x y
    | some false => some false
    | none => none
  | _, _, _ => none
/-- Are two values equal, as far as is told here? `c`: one of them is written out. -/
def valEq (i : TI) (c : Bool) (x y : AV) : Option Bool :=
  match i.d with
  | .bool => match x, y with
    | .bool a, .bool b => some (a == b)
    | _, _ => none
  | .ptr _ => match x, y with
    | .nilp, .nilp => some true
    | .nilp, .ptr _ _ => some false
    | .ptr _ _, .nilp => some false
    | .nilp, .cptr _ _ => some false
    | .cptr _ _, .nilp => some false
    | _, _ => none
  | .slice _ => match x, y with
    | .nils, .nils => some true
    | .nils, .sl _ _ _ _ => some false
    | .sl _ _ _ _, .nils => some false
    | .nils, .tr _ => some false
    | .tr _, .nils => some false
    | _, _ => none
  | .iface => match x, y with
    | .nili, .nili => if c then some true else none
    | .nili, .iface _ _ => some false
    | .iface _ _, .nili => some false
    | _, _ => none
  | .fn => match x, y with
    | .nilf, .nilf => some true
    | .nilf, .fn _ _ _ => some false
    | .fn _ _ _, .nilf => some false
    | _, _ => none
  | .map _ _ => match x, y with
    | .nilm, .nilm => some true
    | .nilm, .map _ => some false
    | .map _, .nilm => some false
    | _, _ => none
  | _ => match x, y with
    | .agg a, .agg b => if i.flat.length.beq i.size && a.length.beq i.size && b.length.beq i.size then cellsEq i.flat a b else none
    | _, _ => none

def strLess : List UInt8 → List UInt8 → Bool := Op.bytesLess
def strOp (op : BinOp) (x y : List UInt8) : Option AV :=
  match op with
  | .add => if x.length + y.length ≤ 9223372036854775807 then some (.str (x ++ y)) else none
  | .eql => some (.bool (bytesEq x y))
  | .neq => some (.bool !(bytesEq x y))
  | .lss => some (.bool (strLess x y))
  | .leq => some (.bool (strLess x y || bytesEq x y))
  | .gtr => some (.bool !(strLess x y || bytesEq x y))
  | .geq => some (.bool !(strLess x y))
  | _ => none
def bin (op : BinOp) (t : TypeId) (c : Bool) (x y : AV) : Option AV :=
  match x, y with
  | .int k a, .int j b => pureOf (binOp op t (.int k a) (.int j b))
  | .str a, .str b => strOp op a b
  | x, y => match op with
    | .eql => match G.tt t with | some i => (valEq i c x y).map .bool | none => none
    | .neq => match G.tt t with | some i => (valEq i c x y).map (.bool !·) | none => none
    | _ => none
def un (op : UnOp) (x : AV) : Option AV :=
  match x with
  | .int k a => pureOf (Op.unary op (.int k a))
  | .bool b => pureOf (Op.unary op (.bool b))
  | _ => none

/-! ### Memory -/
def takeN : Nat → List AV → Option (List AV)
  | 0, _ => some []
  | n + 1, v :: r => (takeN n r).map (v :: ·)
  | _ + 1, [] => none
/-- so many cells from a place on -/
def part (cs : List AV) (off n : Nat) : Option (List AV) := takeN n (cs.drop off)
def loadAt (σ : Store) (i : TI) : AV → Option AV
  | .ptr o off => match σ.get o with
    | some (.cells cs _ _) => (part cs off i.size).bind i.val
    | _ => none
  | .cptr cs off => (part cs off i.size).bind i.val
  | _ => none
/-- cells put in place of those from a place on -/
def splice (cs : List AV) : Nat → List AV → Option (List AV)
  | _, [] => some cs
  | 0, v :: r => match cs with
    | _ :: t => (splice t 0 r).map (v :: ·)
    | [] => none
  | n + 1, vs => match cs with
    | c :: t => (splice t n vs).map (c :: ·)
    | [] => none
def allAtoms : List AV → Bool
  | [] => true
  | v :: r => v.isAtom && allAtoms r
def storeAt (σ : Store) (i : TI) (a v : AV) : Option Store :=
  match a with
  | .ptr o off => match σ.get o with
    | some (.cells cs ty false) =>
      if v.cells.length == i.size && allAtoms v.cells then (splice cs off v.cells).map fun cs' => σ.set o (.cells cs' ty false) else none
    | _ => none
  | _ => none

/-- a list in pieces of one length -/
def chunks (k : Nat) : Nat → List AV → Option (List (List AV))
  | 0, _ => some []
  | n + 1, l => match takeN k l with
    | some e => (chunks k n (l.drop k)).map (e :: ·)
    | none => none
def flat : List (List AV) → List AV
  | [] => []
  | e :: r => e ++ flat r

def sizeOfTy (t : TypeId) : Option Nat := (G.tt t).map (·.size)
/-- a slice's first elements, each with its cells -/
def elemsOf (σ : Store) (k n : Nat) : AV → Option (List (List AV))
  | .nils => if n = 0 then some [] else none
  | .sl o off len _ => if n ≤ len then match σ.get o with
      | some (.cells cs _ _) => chunks k n (cs.drop off)
      | _ => none
    else none
  | .tr es => if n ≤ es.length then some (es.take n) else none
  | .str s => if n ≤ s.length then some ((s.take n).map fun b => [.int .u8 b.toNat]) else none
  | _ => none
/-- Has each so many cells, each cell's value one that lies in a cell? -/
def sound (k : Nat) (es : List (List AV)) : Bool := es.all fun e => e.length.beq k && allAtoms e
def lenOf : AV → Option Nat
  | .nils => some 0
  | .sl _ _ len _ => some len
  | .tr es => some es.length
  | .str s => some s.length
  | _ => none

/-- one after the other, the store handed on -/
def mapS {α β : Type} (f : Store → α → Option (β × Store)) : Store → List α → Option (List β × Store)
  | σ, [] => some ([], σ)
  | σ, x :: r => match f σ x with
    | some (y, σ) => match mapS f σ r with
      | some (l, σ) => some (y :: l, σ)
      | none => none
    | none => none
/-- Deep: what hands out places into the store no more; what they were never changes again. -/
def frzV : Nat → Store → AV → Option (AV × Store)
  | 0, _, _ => none
  | n + 1, σ, v =>
    match v with
    | .sl _ _ 0 _ => some (.tr [], σ)
    | .sl o off (len + 1) _ => match σ.get o with
      | some (.cells cs ty _) =>
        match G.tt ty with
        | none => none
        | some i => match chunks i.size (len + 1) (cs.drop off) with
          | none => none
          | some es => (mapS (mapS (frzV n)) (σ.set o (.cells cs ty true)) es).map fun (r, σ) => (.tr r, σ)
      | _ => none
    | .agg cs => (mapS (frzV n) σ cs).map fun (r, σ) => (.agg r, σ)
    | .tup cs => (mapS (frzV n) σ cs).map fun (r, σ) => (.tup r, σ)
    | .iface t x => (frzV n σ x).map fun (y, σ) => (.iface t y, σ)
    | v => some (v, σ)

/-! ### Slices -/
def natOf : AV → Option Nat
  | .int _ (.ofNat n) => some n
  | _ => none
def optNat : Option AV → Nat → Option Nat
  | none, d => some d
  | some v, _ => natOf v
/-- the bounds: from, to, the last that may be taken -/
def bounds (len cap : Nat) (lo hi mx : Option AV) : Option (Nat × Nat × Nat) :=
  if mx.isSome && hi.isNone then none else
  match optNat lo 0, optNat hi len, optNat mx cap with
  | some l, some h, some m => if l ≤ h && h ≤ m && m ≤ cap then some (l, h, m) else none
  | _, _, _ => none
def limBy (len : Nat) : Option Nat → Nat
  | some c => c
  | none => len
/-- Are the row's elements of so many cells? -/
def rowOf (σ : Store) (o k : Nat) : Bool :=
  match σ.get o with
  | some (.cells _ ty _) => match sizeOfTy G ty with
    | some n => n.beq k
    | none => false
  | _ => false
def sliceOf (σ : Store) (t : TypeId) (x : AV) (lo hi mx : Option AV) : Option AV :=
  match G.tt t with
  | none => none
  | some i =>
  match i.d, x with
  | .str, .str s => if mx.isSome then none else match bounds s.length s.length lo hi mx with
    | some (l, h, _) => some (.str ((s.take h).drop l))
    | none => none
  | .slice e, .nils => match sizeOfTy G e, bounds 0 0 lo hi mx with
    | some _, some _ => some .nils
    | _, _ => none
  | .slice e, .sl o off len lim => match sizeOfTy G e, bounds len (limBy len lim) lo hi mx with
    | some k, some (l, h, m) =>
      if lim.isSome || mx.isSome || l.beq 0 || rowOf G σ o k then
        some (.sl o (off + l * k) (h - l) (if mx.isSome then some (m - l) else lim.map (· - l)))
      else none
    | _, _ => none
  | .slice e, .tr es => match sizeOfTy G e, bounds es.length es.length lo hi mx with
    | some k, some (l, h, _) => if es.all (fun c => c.length.beq k) then some (.tr ((es.take h).drop l)) else none
    | _, _ => none
  | .arr n e, .ptr o off => match sizeOfTy G e, bounds n n lo hi mx with
    | some k, some (l, h, m) => some (.sl o (off + l * k) (h - l) (some (m - l)))
    | _, _ => none
  | .arr n e, .cptr cs off => match sizeOfTy G e, bounds n n lo hi mx with
    | some k, some (l, h, _) => (chunks k (h - l) (cs.drop (off + l * k))).map .tr
    | _, _ => none
  | _, _ => none

def fieldOf (t : TypeId) (f : Nat) : Option (Nat × TypeId × TI) :=
  match G.tt t with
  | some { d := .struct fs, .. } => match fs[f]? with
    | some (off, ft) => (G.tt ft).map fun i => (off, ft, i)
    | none => none
  | _ => none
def fieldAddrOf (t : TypeId) (x : AV) (f : Nat) : Option AV :=
  match fieldOf G t f with
  | some (off, _, i) => if i.size = 0 then none else match x with
    | .ptr o b => some (.ptr o (b + off))
    | .cptr cs b => some (.cptr cs (b + off))
    | _ => none
  | none => none
def indexAddrOf (t : TypeId) (x ix : AV) : Option AV :=
  match natOf ix, G.tt t with
  | some n, some i => match i.d, x with
    | .arr len e, .ptr o off => match sizeOfTy G e with
      | some k => if n < len then some (.ptr o (off + n * k)) else none
      | none => none
    | .arr len e, .cptr cs off => match sizeOfTy G e with
      | some k => if n < len then some (.cptr cs (off + n * k)) else none
      | none => none
    | .slice e, .sl o off len _ => match sizeOfTy G e with
      | some k => if n < len then some (.ptr o (off + n * k)) else none
      | none => none
    | .slice e, .tr es => match sizeOfTy G e, es[n]? with
      | some k, some cs => if es.all (fun c => c.length.beq k) then some (.cptr cs 0) else none
      | _, _ => none
    | _, _ => none
  | _, _ => none
def indexOf (t : TypeId) (x ix : AV) : Option AV :=
  match natOf ix, G.tt t with
  | some n, some i => match i.d, x with
    | .arr len e, .agg cs => match G.tt e with
      | some j => if n < len then (part cs (n * j.size) j.size).bind j.val else none
      | none => none
    | .str, .str s => match s[n]? with
      | some b => some (.int .u8 b.toNat)
      | none => none
    | _, _ => none
  | _, _ => none
def fieldVal (t : TypeId) (x : AV) (f : Nat) : Option AV :=
  match fieldOf G t f, x with
  | some (off, _, i), .agg cs => (part cs off i.size).bind i.val
  | _, _ => none

/-- append: `base`: the number kept for a new row. -/
def appendOf (σ : Store) (base : Nat) (e : TypeId) (s x : AV) : Option (AV × Store) :=
  if G.one e then none else
  match G.tt e, lenOf s, lenOf x with
  | some i, some m, some n =>
    match elemsOf σ i.size n x with
    | none => none
    | some new =>
    if !(sound i.size new) then none
    else if n = 0 then (match s with | .str _ => none | _ => some (s, σ))
    else if (m + n) * 2 * i.bytes ≤ 140737488355328 && m + n ≤ 9223372036854775807 / 2 && 0 < i.size then
      match s with
      | .nils => some (.sl base 0 n none, σ.add base (.cells (flat new) e false))
      | .sl o off len lim => match σ.get o with
        | some (.cells cs ty imm) =>
          if !(ty.beq e) then none else
          match lim with
          | some c =>
            if len + n ≤ c then if imm then none else (splice cs (off + len * i.size) (flat new)).map fun cs' => (.sl o off (len + n) lim, σ.set o (.cells cs' ty false))
            else (part cs off (len * i.size)).map fun old => (.sl base 0 (len + n) none, σ.add base (.cells (old ++ flat new) e false))
          | none =>
            if imm then none else
            if off + (len + n) * i.size ≤ cs.length then (splice cs (off + len * i.size) (flat new)).map fun cs' => (.sl o off (len + n) none, σ.set o (.cells cs' ty false))
            else if (off + len * i.size).beq cs.length then
              some (.sl base 0 (len + n) none, (σ.kill o).add base (.cells (cs.drop off ++ flat new) e false))
            else none
        | _ => none
      | _ => none
    else none
  | _, _, _ => none

def copyOf (σ : Store) (e : TypeId) (d s : AV) : Option (AV × Store) :=
  match G.tt e, lenOf d, lenOf s with
  | some i, some m, some k =>
    let n := Nat.min k m
    match elemsOf σ i.size n s with
    | none => none
    | some new =>
      if !(sound i.size new) then none else
      if n = 0 then (match d with | .str _ => none | _ => some (.int .i64 0, σ)) else
      match d with
      | .sl o off _ _ => match σ.get o with
        | some (.cells cs ty false) => (splice cs off (flat new)).map fun cs' => (.int .i64 n, σ.set o (.cells cs' ty false))
        | _ => none
      | _ => none
  | _, _, _ => none
def repl (n : Nat) (z : List AV) : List AV := match n with | 0 => [] | n + 1 => z ++ repl n z
def clearOf (σ : Store) (t : TypeId) (d : AV) : Option Store :=
  match G.tt t with
  | some { d := .slice e, .. } => match G.tt e, d with
    | _, .nils => some σ
    | some i, .sl o off len _ => if len = 0 then some σ else match σ.get o with
      | some (.cells cs ty false) => (splice cs off (repl len i.zero)).map fun cs' => σ.set o (.cells cs' ty false)
      | _ => none
    | _, _ => none
  | _ => none

/-! ### Maps of integers' keys -/
def keyEq : AV → AV → Option Bool := atomEq
def findKey (k : AV) : List (Nat × AV × AV) → Option (Option AV)
  | [] => some none
  | (_, a, v) :: r => match keyEq k a with
    | some true => some (some v)
    | some false => findKey k r
    | none => none
def putKey (c : Nat) (k v : AV) : List (Nat × AV × AV) → Option (List (Nat × AV × AV) × Nat)
  | [] => some ([(c, k, v)], c + 1)
  | (b, a, u) :: r => match keyEq k a with
    | some true => some ((b, k, v) :: r, c)
    | some false => (putKey c k v r).map fun (r, c) => ((b, a, u) :: r, c)
    | none => none
def delKey (k : AV) : List (Nat × AV × AV) → Option (List (Nat × AV × AV))
  | [] => some []
  | (b, a, u) :: r => match keyEq k a with
    | some true => some r
    | some false => (delKey k r).map ((b, a, u) :: ·)
    | none => none
def hasNat (l : List Nat) (n : Nat) : Bool := match l with | [] => false | m :: r => m.beq n || hasNat r n
/-- an iterator's next step over a map: the entry, if there is one. Where several could come, nothing is told. -/
def mapStep (es : List (Nat × AV × AV)) (since : Nat) (seen : List Nat) (last : Nat) : Option (Option (Nat × AV × AV)) :=
  if !seen.isEmpty && !es.isEmpty && es.all (fun e => Nat.ble last e.1) then none else
  let left := es.filter fun e => !(hasNat seen e.1)
  let old := left.filter fun e => !(Nat.ble since e.1)
  let new := left.filter fun e => Nat.ble since e.1
  match (if old.isEmpty then [none] else []) ++ (old ++ new).map some with
    | [c] => some c
    | _ => none
/-- a key of its type, integers and strings alone -/
def keyFits (t : TypeId) (k : AV) : Bool := match G.tt t with
  | some i => match i.d, k with
    | .int _, .int _ _ => true
    | .str, .str _ => true
    | _, _ => false
  | none => false

/-! ### Texts -/
def get0 (s : List UInt8) (i : Nat) : Nat := match s[i]? with | some b => b.toNat | none => 0
/-- the rune at the beginning, and how many bytes it takes -/
def decodeRune (s : List UInt8) : Nat × Nat :=
  let cont (k : Nat) : Bool := Nat.ble (k + 1) s.length && (get0 s k / 64).beq 2
  let b0 := get0 s 0
  if b0 < 0x80 then (b0, 1)
  else if b0 / 32 == 6 && cont 1 then
    let c := (b0 % 32) * 64 + get0 s 1 % 64
    if c ≥ 0x80 then (c, 2) else (0xFFFD, 1)
  else if b0 / 16 == 14 && cont 1 && cont 2 then
    let c := (b0 % 16) * 4096 + (get0 s 1 % 64) * 64 + get0 s 2 % 64
    if c ≥ 0x800 && Utf8.valid c then (c, 3) else (0xFFFD, 1)
  else if b0 / 8 == 30 && cont 1 && cont 2 && cont 3 then
    let c := (b0 % 8) * 262144 + (get0 s 1 % 64) * 4096 + (get0 s 2 % 64) * 64 + get0 s 3 % 64
    if c ≥ 0x10000 && Utf8.valid c then (c, 4) else (0xFFFD, 1)
  else (0xFFFD, 1)
def bytesOfCells : List (List AV) → Option (List UInt8)
  | [] => some []
  | [.int .u8 n] :: r => (bytesOfCells r).map (UInt8.ofNat n.toNat :: ·)
  | _ => none
def conv (σ : Store) (src dst : TypeId) (x : AV) : Option AV :=
  match G.tt src, G.tt dst with
  | some a, some b => match a.d, b.d, x with
    | .int _, .int k, .int _ n => some (.int k (k.wrap n))
    | .int _, .str, .int _ n => some (.str (Utf8.encode n).data.toList)
    | .str, .str, .str s => some (.str s)
    | .slice e, .str, x => match G.tt e, lenOf x with
      | some { d := .int .u8, .. }, some n => match x with
        | .str _ => none
        | x => match elemsOf σ 1 n x with
          | some es => if sound 1 es then (bytesOfCells es).map .str else none
          | none => none
      | _, _ => none
    | _, _, _ => none
  | _, _ => none

/-! ### Composite literals -/
def fillL (place : Nat → Option (Nat × Nat)) (cells : List AV) : List (Nat × AV) → Option (List AV)
  | [] => some cells
  | (i, v) :: r => match place i with
    | none => none
    | some (off, size) => if v.cells.length == size && allAtoms v.cells && Nat.ble (off + size) cells.length then match splice cells off v.cells with
        | some cs => fillL place cs r
        | none => none
      else none
def partsOf (env : Env) : List (Nat × Operand) → Option (List (Nat × AV))
  | [] => some []
  | (i, x) :: r => match opd G env x, partsOf env r with
    | some a, some l => some ((i, a) :: l)
    | _, _ => none
def structPlace (fs : List (Nat × TypeId)) (i : Nat) : Option (Nat × Nat) :=
  match fs[i]? with
  | some (off, t) => (sizeOfTy G t).map fun s => (off, s)
  | none => none
def buildOf (t : TypeId) (parts : List (Nat × AV)) : Option AV :=
  match G.tt t with
  | some i => match i.d with
    | .struct fs => if fs.all fun f => (G.tt f.2).isSome then (fillL (structPlace G fs) i.zero parts).map .agg else none
    | .arr _ e => match sizeOfTy G e with
      | some k => (fillL (fun i => some (i * k, k)) i.zero parts).map .agg
      | none => none
    | _ => none
  | none => none

def minMaxOf (m : Bool) (args : List AV) : Option AV :=
  match args with
  | [.int k a, .int _ b] => some (.int k (cond m (if b > a then b else a) (if b < a then b else a)))
  | _ => none
def lenBy (σ : Store) (d : TD) (x : AV) : Option Nat :=
  match d with
  | .str => match x with
    | .str s => some s.length
    | _ => none
  | .slice _ => match x with
    | .str _ => none
    | x => lenOf x
  | .arr n _ => some n
  | .map _ _ => match x with
    | .map o => match σ.get o with
      | some (.map es _) => some es.length
      | _ => none
    | .nilm => some 0
    | _ => none
  | _ => none
def builtinOf (σ : Store) (base : Nat) (b : Builtin) (ts : Array TypeId) (args : List AV) : Option (AV × Store) :=
  match b, args with
  | .len, [x] => match (ts[0]?).bind G.tt with
    | some i => (lenBy σ i.d x).map fun (n : Nat) => (.int .i64 n, σ)
    | none => none
  | .min, args => (minMaxOf false args).map fun v => (v, σ)
  | .max, args => (minMaxOf true args).map fun v => (v, σ)
  | .append, [s, x] => match (ts[0]?).bind G.tt, (ts[1]?).bind G.tt with
    | some { d := .slice e, .. }, some j => match j.d with
      | .slice _ => appendOf G σ base e s x
      | .str => appendOf G σ base e s x
      | _ => none
    | _, _ => none
  | .copy, [d, s] => match (ts[0]?).bind G.tt with
    | some { d := .slice e, .. } => copyOf G σ e d s
    | _ => none
  | .clear, [d] => match ts[0]? with
    | some t => (clearOf G σ t d).map fun σ => (.tup [], σ)
    | none => none
  | .delete, [m, k] => match (ts[0]?).bind G.tt with
    | some { d := .map kt _, .. } => if keyFits G kt k then match m with
        | .map o => match σ.get o with
          | some (.map es c) => (delKey k es).map fun es => (.tup [], σ.set o (.map es c))
          | _ => none
        | _ => none
      else none
    | _ => none
  | _, _ => none

def methodOf (t : TypeId) (v : AV) (name : String) : Option (FuncId × AV) :=
  match G.meth t name with
  | some (f, none) => some (f, v)
  | some (f, some (off, u)) => match G.tt u, v with
    | some i, .agg cs => ((part cs off i.size).bind i.val).map fun r => (f, r)
    | _, _ => none
  | none => none

def callOf (C : Oracle) (Y : Yielder) (f : AV) (args : List AV) (σ : Store) : Option (OR × Store) :=
  match f with
  | .fn f first cap => C f (first ++ args ++ cap) σ
  | .yld l => Y l args σ
  | _ => none

def val1 (r : Option (AV × Store)) : Option (OR × Store) := r.map fun (v, σ) => (.val v, σ)
def pure1 (σ : Store) (r : Option AV) : Option (OR × Store) := r.map fun v => (.val v, σ)
def noRes : AV := .tup []
def isConstOp : Operand → Bool
  | .const _ => true
  | _ => false

def rangeOf (σ : Store) (base : Nat) (i : TI) (x : AV) : Option (AV × Store) :=
  match i.d, x with
  | .str, .str s => some (.ptr base 0, σ.add base (.iter s 0))
  | .map _ _, .nilm => some (.ptr base 0, σ.add base (.miter none 0 [] 0))
  | .map _ _, .map m => match σ.get m with
    | some (.map _ c) => some (.ptr base 0, σ.add base (.miter (some m) c [] c))
    | _ => none
  | _, _ => none
def nextText (σ : Store) (o : Nat) (s : List UInt8) (pos : Nat) : Option (AV × Store) :=
  if pos < s.length then
    let (c, w) := decodeRune (s.drop pos)
    some (.tup [.bool true, .int .i64 pos, .int .i32 c], σ.set o (.iter s (pos + w)))
  else some (.tup [.bool false], σ)
def nextMap (σ : Store) (o m : Nat) (es : List (Nat × AV × AV)) (since c last : Nat) (seen : List Nat) : Option (AV × Store) :=
  match mapStep es since seen last with
  | some (some (b, k, v)) => some (.tup [.bool true, k, v], σ.set o (.miter (some m) since (seen ++ [b]) c))
  | some none => some (.tup [.bool false], σ)
  | none => none
def TI.isIface (i : TI) : Bool := match i.d with | .iface => true | _ => false
def assertOf (t : TypeId) (ok : Bool) (i : TI) (x : AV) : Option AV :=
  if i.isIface then none else
  match x with
  | .iface u v => if u.beq t then some (if ok then .tup [v, .bool true] else v)
      else if ok then (i.val i.zero).map fun z => .tup [z, .bool false] else none
  | .nili => if ok then (i.val i.zero).map fun z => .tup [z, .bool false] else none
  | _ => none

def evOp (C : Oracle) (Y : Yielder) (base : Nat) (o : Oper) (env : Env) (σ : Store) : Option (OR × Store) :=
  let ρ := opd G env
  match o.op with
  | .move x | .assign x => pure1 σ (ρ x)
  | .pick c a b => match ρ c with
    | some (.bool true) => pure1 σ (ρ a)
    | some (.bool false) => pure1 σ (ρ b)
    | _ => none
  | .alloc e => match G.tt e with
    | some i => some (.val (.ptr base 0), σ.add base (.cells i.zero e false))
    | none => none
  | .box e x => match G.tt e, ρ x with
    | some i, some v => if v.cells.length == i.size && allAtoms v.cells then some (.val (.ptr base 0), σ.add base (.cells v.cells e false)) else none
    | _, _ => none
  | .build t ps => match partsOf G env ps.toList with
    | some l => pure1 σ (buildOf G t l)
    | none => none
  | .buildSlice t len ps => match G.tt t, partsOf G env ps.toList with
    | some { d := .slice e, .. }, some l => match G.tt e with
      | some i => if len * i.size ≤ 16777216 && 0 < i.size then
          (fillL (fun j => some (j * i.size, i.size)) (repl len i.zero) l).map fun cs => (.val (.sl base 0 len (some len)), σ.add base (.cells cs e false))
        else none
      | none => none
    | _, _ => none
  | .load t a => match G.tt t, ρ a with
    | some i, some a => pure1 σ (loadAt σ i a)
    | _, _ => none
  | .store t a x => match G.tt t, ρ a, ρ x with
    | some i, some a, some v => (storeAt σ i a v).map fun σ => (.val noRes, σ)
    | _, _, _ => none
  | .nilCheck x => match ρ x with
    | some .nilp | some .nili | some .nilf => none
    | some (.fn f first cap) => some (.val (.fn f first cap), σ)
    | some v => some (.val v, σ)
    | none => none
  | .binOp op t x y _ => match ρ x, ρ y with
    | some a, some b => pure1 σ (bin G op t (isConstOp x || isConstOp y) a b)
    | _, _ => none
  | .unOp op _ x => match ρ x with
    | some x => pure1 σ (un op x)
    | none => none
  | .convert src dst x => match ρ x with
    | some x => pure1 σ (conv G σ src dst x)
    | none => none
  | .makeInterface t x => match G.tt t, ρ x with
    | some i, some v => if i.isIface then none else some (.val (.iface t v), σ)
    | _, _ => none
  | .makeFunc (.func f) first cap => match opds G env first.toList, opds G env cap.toList with
    | some a, some b => some (.val (.fn f a b), σ)
    | _, _ => none
  | .makeMap _ none => some (.val (.map base), σ.add base (.map [] 0))
  | .makeSlice t l c => match G.tt t, (ρ l).bind natOf, (ρ c).bind natOf with
    | some { d := .slice e, .. }, some l, some c => match G.tt e with
      | some i => if l ≤ c && c * i.bytes ≤ 140737488355328 && c ≤ 9223372036854775807 then
          some (.val (.sl base 0 l (some c)), σ.add base (.cells (repl c i.zero) e false))
        else none
      | none => none
    | _, _, _ => none
  | .slice t x lo hi mx => match ρ x, opds G env lo.toList, opds G env hi.toList, opds G env mx.toList with
    | some x, some lo, some hi, some mx => pure1 σ (sliceOf G σ t x lo.head? hi.head? mx.head?)
    | _, _, _, _ => none
  | .fieldAddr t x f => match ρ x with
    | some x => pure1 σ (fieldAddrOf G t x f)
    | none => none
  | .field t x f => match ρ x with
    | some x => pure1 σ (fieldVal G t x f)
    | none => none
  | .indexAddr t x i => match ρ x, ρ i with
    | some x, some i => pure1 σ (indexAddrOf G t x i)
    | _, _ => none
  | .index t x i => match ρ x, ρ i with
    | some x, some i => pure1 σ (indexOf G t x i)
    | _, _ => none
  | .lookup t x k ok => match G.tt t, ρ x, ρ k with
    | some { d := .map kt e, .. }, some m, some k => if keyFits G kt k then match G.tt e with
        | some i =>
          let es := match m with
            | .map o => match σ.get o with | some (.map es _) => some es | _ => none
            | .nilm => some []
            | _ => none
          match es with
          | some es => match findKey k es with
            | some r => match (match r with | some v => some v | none => i.val i.zero) with
              | some v => some (.val (if ok then .tup [v, .bool r.isSome] else v), σ)
              | none => none
            | none => none
          | none => none
        | none => none
      else none
    | _, _, _ => none
  | .mapUpdate t m k x => match G.tt t, ρ m, ρ k, ρ x with
    | some { d := .map kt _, .. }, some (.map o), some k, some v => if keyFits G kt k then match σ.get o with
        | some (.map es c) => (putKey c k v es).map fun (es, c) => (.val noRes, σ.set o (.map es c))
        | _ => none
      else none
    | _, _, _, _ => none
  | .range t x => match G.tt t, ρ x with
    | some i, some v => val1 (rangeOf σ base i v)
    | _, _ => none
  | .next it true => match ρ it with
    | some (.ptr o 0) => match σ.get o with
      | some (.iter s pos) => val1 (nextText σ o s pos)
      | _ => none
    | _ => none
  | .next it false => match ρ it with
    | some (.ptr o 0) => match σ.get o with
      | some (.miter none _ _ _) => some (.val (.tup [.bool false]), σ)
      | some (.miter (some m) since seen last) => match σ.get m with
        | some (.map es c) => val1 (nextMap σ o m es since c last seen)
        | _ => none
      | _ => none
    | _ => none
  | .entry it => match ρ it with
    | some (.ptr o 0) => match σ.get o with
      | some (.miter (some m) _ seen last) => match σ.get m, seen.getLast? with
        | some (.map es c), some b => if c.beq last then match es.find? (fun e => e.1.beq b) with
            | some (_, k, v) => some (.val (.tup [k, v]), σ)
            | none => none
          else none
        | _, _ => none
      | _ => none
    | _ => none
  | .typeAssert x _ t ok => match ρ x, G.tt t with
    | some x, some i => pure1 σ (assertOf t ok i x)
    | _, _ => none
  | .extract t ix => match ρ t with
    | some (.tup vs) => pure1 σ (vs[ix]?)
    | _ => none
  | .call c => match opds G env c.args.toList with
    | none => none
    | some args => match c.callee with
      | .builtin b => val1 (builtinOf G σ base b c.argTypes args)
      | .value f => match ρ f with
        | some f => callOf C Y f args σ
        | none => none
      | .invoke r name => match ρ r with
        | some (.iface t v) => match methodOf G t v name with
          | some (f, recv) => C f (recv :: args) σ
          | none => none
        | _ => none
  | .panic x => match ρ x with
    | some (.iface t v) => some (.pan (.iface t v), σ)
    | _ => none
  | _ => none

/-! ### A region -/
/-- One operation that was done: its place, what was there ahead of it, what it answered, what was there behind it. -/
structure Snap where
  i : Nat
  env : Env
  σ : Store
  v : AV
  σ' : Store
def snapAt : List Snap → Nat → Option Snap
  | [], _ => none
  | s :: r, i => cond (Nat.beq s.i i) (some s) (snapAt r i)
def sameRead (C : Oracle) (Y : Yielder) (ops : Array Oper) (s : Snap) (σ : Store) : Bool :=
  match ops[s.i]? with
  | some o => match evOp G C Y 0 o s.env σ with
    | some (.val v, _) => AV.beq v s.v
    | _ => false
  | none => false
def freeOk (C : Oracle) (Y : Yielder) (ops : Array Oper) (sn : List Snap) : List (Nat × Nat) → Bool
  | [] => true
  | (r, e) :: rest => (match snapAt sn r, snapAt sn e with
      | some s, some x => sameRead G C Y ops s x.σ && sameRead G C Y ops s x.σ'
      | _, _ => true) && freeOk C Y ops sn rest

inductive RR where
  | done (env : Env) (σ : Store) (sn : List Snap)
  | pan (v : AV) (σ : Store)

/-- what outlives a region -/
def prune (live : Nat) : Env → Env
  | [] => []
  | (k, v) :: r => cond (live.testBit k) ((k, v) :: del (prune live r) k) (prune live r)
def consIf (env : Env) (dst : Option Tmp) (v : AV) : Env :=
  match dst with
  | some d => (d, v) :: env
  | none => env
/-- Is it wanted? none: that can't be told. -/
def wantedOf (ops : Array Oper) (env : Env) (o : Oper) : Option Bool :=
  match o.guard with
  | none => some true
  | some (g, want) => match ops[g]? with
    | some p => match p.dst with
      | some d => match look env d with
        | some (.bool b) => some (b == want)
        | _ => none
      | none => none
    | none => none

def freezeIf (b : Bool) (σ : Store) (v : AV) : Option (AV × Store) := cond b (frzV G 12 σ v) (some (v, σ))
def evOps (C : Oracle) (Y : Yielder) (fz : Nat → Bool) (base : Nat) (ops : Array Oper) (keep : Bool) : List Oper → Nat → Env → Store → List Snap → Option RR
  | [], _, env, σ, sn => some (.done env σ sn)
  | o :: rest, i, env, σ, sn =>
    match wantedOf ops env o with
    | none => none
    | some false => evOps C Y fz base ops keep rest (i + 1) (consIf env o.dst noRes) σ sn
    | some true =>
      match evOp G C Y (base + i) o env σ with
      | none => none
      | some (.pan v, σ') => some (.pan v σ')
      | some (.val v, σ') =>
        match freezeIf G (fz i) σ' v with
        | none => none
        | some (v, σ') => evOps C Y fz base ops keep rest (i + 1) (consIf env o.dst v) σ' (cond keep (⟨i, env, σ, v, σ'⟩ :: sn) sn)
def noList {α : Type} : List α → Bool
  | [] => true
  | _ :: _ => false
def evRegion (C : Oracle) (Y : Yielder) (fid rid live : Nat) (ops : Array Oper) (draw : Bool) (env : Env) (σ : Store) : Option RR :=
  let fr := cond draw (G.free fid rid) []
  let base := σ.next
  match evOps G C Y (G.frz fid rid) base ops (!noList fr) ops.toList 0 env { σ with next := base + ops.size } [] with
  | some (.done env σ sn) => cond (freeOk G C Y ops sn fr) (some (.done (prune live env) σ [])) none
  | some (.pan v σ) => cond draw none (some (.pan v σ))
  | none => none

/-! ### What kind of operation -/
/-- 0: of its operands alone; 1: reads; 2: does something -/
def clsOf (o : Oper) : Nat :=
  match o.op with
  | .move _ | .assign _ | .pick .. | .build .. | .nilCheck _ | .binOp .. | .unOp .. | .makeInterface .. | .makeFunc .. | .fieldAddr .. | .field .. | .indexAddr .. | .index .. | .typeAssert .. | .extract .. => 0
  | .load .. | .convert .. | .slice .. | .lookup .. | .entry _ => 1
  | .call c => match c.callee with
    | .builtin .len => 1
    | .builtin .min => 0
    | .builtin .max => 0
    | _ => 2
  | _ => 2
/-- It lays something new, of its operands alone. -/
def isNew (o : Oper) : Bool :=
  match o.op with
  | .alloc _ | .box .. | .buildSlice .. | .makeSlice .. | .makeMap _ none => true
  | _ => false

/-! ### What is asked of a region whose order is drawn -/
def nth (l : List Nat) (i : Nat) : Nat := match l, i with
  | [], _ => 0
  | x :: _, 0 => x
  | _ :: r, i + 1 => nth r i
def maskAdd (ms : List Nat) : List Edge → Nat
  | [] => 0
  | e :: r => cond (Region.binds .any e) ((1 <<< e.on) ||| nth ms e.on ||| maskAdd ms r) (maskAdd ms r)
def edgesBelow (i : Nat) : List Edge → Bool
  | [] => true
  | e :: r => cond (Region.binds .any e) (Nat.blt e.on i) true && edgesBelow i r
/-- what lies ahead of each operation -/
def masksFrom : List Oper → Nat → List Nat → Option (List Nat)
  | [], _, ms => some ms
  | o :: r, i, ms => cond (edgesBelow i o.after.toList) (masksFrom r (i + 1) (ms ++ [maskAdd ms o.after.toList])) none
def tmpsOf : List Operand → List Nat
  | [] => []
  | .tmp t :: r => t :: tmpsOf r
  | _ :: r => tmpsOf r
def guardTmp (ops : Array Oper) (o : Oper) : List Nat :=
  match o.guard with
  | none => []
  | some (g, _) => match ops[g]? with
    | some p => match p.dst with
      | some d => [d]
      | none => []
    | none => []
def looksOf (ops : Array Oper) (o : Oper) : List Nat := guardTmp ops o ++ tmpsOf o.op.operands.toList
/-- which operation writes which temporary; none: one is written twice -/
def writersFrom : List Oper → Nat → List (Nat × Nat) → Option (List (Nat × Nat))
  | [], _, ws => some ws
  | o :: r, i, ws => match o.dst with
    | none => writersFrom r (i + 1) ws
    | some d => match look ws d with
      | some _ => none
      | none => writersFrom r (i + 1) ((d, i) :: ws)
def aheadOf (ms : List Nat) (ws : List (Nat × Nat)) (i : Nat) : List Nat → Bool
  | [] => true
  | t :: r => (match look ws t with
    | some j => Nat.beq i j || (nth ms i).testBit j || (nth ms j).testBit i
    | none => true) && aheadOf ms ws i r
/-- every bit of the one is in the other -/
def within (a b : Nat) : Bool := Nat.beq (a &&& b) a
/-- the effects ahead of each operation, by their place in the text -/
def effsFrom : List Oper → Nat → Nat → List Nat → List Nat
  | [], _, _, es => es
  | o :: r, i, m, es => effsFrom r (i + 1) (cond (Nat.beq (clsOf o) 2) (m ||| (1 <<< i)) m) (es ++ [m])
def hasPair (l : List (Nat × Nat)) (i j : Nat) : Bool := match l with
  | [] => false
  | (a, b) :: r => (Nat.beq a i && Nat.beq b j) || hasPair r i j
/-- a read and the effects: each ahead of it (and then all ahead of that one, too), behind it, or among those that are tried -/
def readOk (fr : List (Nat × Nat)) (ms es : List Nat) (i : Nat) (m : Nat) : List Oper → Nat → Bool
  | [], _ => true
  | e :: r, j => (cond (Nat.beq (clsOf e) 2) (cond (m.testBit j) (within (nth es j) m) ((nth ms j).testBit i || hasPair fr i j)) true) && readOk fr ms es i m r (j + 1)
def opersOk (fz : Nat → Bool) (fr : List (Nat × Nat)) (ms es : List Nat) (ws : List (Nat × Nat)) (ops : Array Oper) : List Oper → Nat → Bool
  | [], _ => true
  | o :: r, i =>
    aheadOf ms ws i (looksOf ops o) &&
    (match clsOf o with
      | 0 => !(fz i)
      | 1 => !(fz i) && readOk fr ms es i (nth ms i) ops.toList 0
      | _ => within (nth es i) (nth ms i) || (isNew o && !(fz i))) &&
    opersOk fz fr ms es ws ops r (i + 1)
def drawOk (fz : Nat → Bool) (fr : List (Nat × Nat)) (ops : Array Oper) : Bool :=
  match masksFrom ops.toList 0 [], writersFrom ops.toList 0 [] with
  | some ms, some ws => opersOk fz fr ms (effsFrom ops.toList 0 0 []) ws ops ops.toList 0
  | _, _ => false

/-- What is asked of a region's text. -/
def regionOk (fid rid T : Nat) (ops : Array Oper) (draw : Bool) : Bool :=
  (ops.toList.all fun o => match o.dst with
    | some d => Nat.blt d T
    | none => true) && cond draw (drawOk (G.frz fid rid) (G.free fid rid) ops) true
/-- What is asked of code's text. -/
def codeOk (fid T : Nat) : Code → Bool
  | .region rid ops draw => regionOk G fid rid T ops draw
  | .seq a b => codeOk fid T a && codeOk fid T b
  | .cond _ a b => codeOk fid T a && codeOk fid T b
  | .block _ b => codeOk fid T b
  | .loop b => codeOk fid T b
  | .rangeFunc _ ps assign body => (ps.toList.all fun p => Nat.blt p T) && codeOk fid T assign && codeOk fid T body
  | _ => true

/-! ### Code -/
inductive Ex where
  | norm
  | exit (id : Nat)
  | ret
  | pan (v : AV)

/-- What a frame has: the values of temporaries, the blocks of deferred calls that range loops have laid. -/
structure Fr where
  env : Env
  marks : List Nat

abbrev CR := Option (Ex × Fr × Store)

def resultsOf (env : Env) (σ : Store) : List ResultVar → Option (List AV)
  | [] => some []
  | .tmp t :: r => match look env t, resultsOf env σ r with
    | some v, some l => some (v :: l)
    | _, _ => none
  | .cell a t :: r => match look env a, G.tt t, resultsOf env σ r with
    | some p, some i, some l => (loadAt σ i p).map (· :: l)
    | _, _, _ => none
def results1 : List AV → AV
  | [v] => v
  | vs => .tup vs
/-- the blocks of deferred calls are taken -/
def takeMarks (σ : Store) : List Nat → Option Store
  | [] => some σ
  | m :: r => match σ.get m with
    | some (.defs false) => takeMarks (σ.set m (.defs true)) r
    | _ => none
def argEnv : Nat → List AV → Env
  | _, [] => []
  | i, v :: r => (i, v) :: argEnv (i + 1) r
def paramEnv (env : Env) : List Nat → List AV → Option Env
  | [], [] => some env
  | p :: ps, v :: vs => paramEnv (put env p v) ps vs
  | _, _ => none

mutual
def evCode : Nat → FuncId → Nat → Option Nat → Code → Fr → Store → CR
  | 0, _, _, _, _, _, _ => none
  | n + 1, fid, live, ro, c, fr, σ =>
    match c with
    | .skip => some (.norm, fr, σ)
    | .ret => some (.ret, fr, σ)
    | .exit id => some (.exit id, fr, σ)
    | .region rid ops draw => match evRegion G (evCall n) (evRound n) fid rid live ops draw fr.env σ with
      | some (.done env σ _) => some (.norm, { fr with env }, σ)
      | some (.pan v σ) => some (.pan v, fr, σ)
      | none => none
    | .seq a b => match evCode n fid live ro a fr σ with
      | some (.norm, fr, σ) => evCode n fid live ro b fr σ
      | r => r
    | .cond x a b => match opd G fr.env x with
      | some (.bool true) => evCode n fid live ro a fr σ
      | some (.bool false) => evCode n fid live ro b fr σ
      | _ => none
    | .block id b => match evCode n fid live ro b fr σ with
      | some (.exit j, fr, σ) => cond (Nat.beq j id) (some (.norm, fr, σ)) (some (.exit j, fr, σ))
      | r => r
    | .loop b => match evCode n fid live ro b fr σ with
      | some (.norm, fr, σ) => evCode n fid live ro (.loop b) fr σ
      | r => r
    | .rangeFunc g ps assign body => match opd G fr.env g with
      | some (.fn gf first cap) =>
        let l := σ.next
        let ds : Option (Nat × List Nat × Store) := match ro with
          | none => some (l + 1, [l + 1], (({ σ with next := l + 2 } : Store).add (l + 1) (.defs false)))
          | some l' => match σ.get l' with
            | some (.loop _ _ _ _ _ _ _ d _) => some (d, [], { σ with next := l + 2 })
            | _ => none
        match ds, G.code fid with
        | some (d, mk, σ1), some fc =>
          match evCall n gf (first ++ [.yld l] ++ cap) (σ1.add l (.loop .ready none fid fr.env ps.toList assign body d fc.ntmps)) with
          | some (.val _, σ2) => match σ2.get l with
            | some (.loop st pending a b c d e f g) => match st with
              | .busy => none
              | _ =>
                let σ3 := σ2.set l (.loop .exhausted pending a b c d e f g)
                let fr := { fr with marks := mk ++ fr.marks }
                match pending with
                | none => some (.norm, fr, σ3)
                | some .ret => some (.ret, fr, σ3)
                | some (.exit id) => some (.exit id, fr, σ3)
                | _ => none
            | _ => none
          | some (.pan v, σ2) => some (.pan v, { fr with marks := mk ++ fr.marks }, σ2)
          | none => none
        | _, _ => none
      | _ => none
    | _ => none
termination_by structural n => n
/-- a round of a range over a function -/
def evRound : Nat → Nat → List AV → Store → Option (OR × Store)
  | 0, _, _, _ => none
  | n + 1, l, args, σ =>
    match σ.get l with
    | some (.loop _ _ fid env ps assign body _ nt) =>
      match paramEnv env ps args, G.code fid with
      | some env, some fc => cond (!(Nat.beq nt fc.ntmps)) none <| match evCode n fid fc.live (some l) assign ⟨env, []⟩ σ with
        | some (.norm, fr, σ) => match σ.get l with
          | some (.loop .ready pe a b c d e f g) =>
            match evCode n fid fc.live (some l) body fr (σ.set l (.loop .busy pe a b c d e f g)) with
            | some (.norm, fr, σ) => match fr.marks, σ.get l with
              | [], some (.loop _ _ a b c d e f g) => some (.val (.bool true), σ.set l (.loop .ready none a b c d e f g))
              | _, _ => none
            | some (.ret, fr, σ) => match fr.marks, σ.get l with
              | [], some (.loop _ _ a b c d e f g) => some (.val (.bool false), σ.set l (.loop .done (some .ret) a b c d e f g))
              | _, _ => none
            | some (.exit id, fr, σ) => match fr.marks, σ.get l with
              | [], some (.loop _ _ a b c d e f g) => some (.val (.bool false), σ.set l (.loop .done (some (.exit id)) a b c d e f g))
              | _, _ => none
            | _ => none
          | _ => none
        | _ => none
      | _, _ => none
    | _ => none
termination_by structural n => n
def evCall : Nat → FuncId → List AV → Store → Option (OR × Store)
  | 0, _, _, _ => none
  | n + 1, f, args, σ =>
    match G.prim f with
    | some p => val1 (p args σ)
    | none => match G.code f with
      | none => none
      | some fc =>
        let fin := fun (fr : Fr) (σ' : Store) => match takeMarks σ' fr.marks with
          | none => none
          | some σ' => match resultsOf G fr.env σ' fc.results with
            | some vs => some (OR.val (results1 vs), if fc.drop then σ'.cut σ.next else σ')
            | none => none
        cond (Nat.blt fc.ntmps args.length) none <| match evCode n f fc.live none fc.body ⟨argEnv 0 args, []⟩ σ with
        | some (.norm, fr, σ') => fin fr σ'
        | some (.ret, fr, σ') => fin fr σ'
        | some (.pan v, fr, σ') => match fr.marks with
          | [] => some (.pan v, σ')
          | _ => none
        | _ => none
termination_by structural n => n
end
end
end Go.Ev
