/- The walk's own machine: what each operation makes of trees, and what a piece of code asks for. -/
import Derived.Test.YtknllghkpjncoaaVa
namespace VC
open Go Go.RowKit

/-! What is asked of the program's tables. -/
def eszOf (P : Program) (t : TypeId) : Option Nat := match P.underlying t with | some (.slice e) => (P.info? e).map (·.size) | _ => none
def szOf (P : Program) (t : TypeId) : Option Nat := (P.info? t).map (·.size)
def aggOf (P : Program) (t : TypeId) : Option Bool := (P.underlying t).map fun | .struct _ | .array _ _ => true | _ => false
/-- A field: where it begins, how many cells it has, whether it is a struct or an array. -/
def fldOf (P : Program) (s : TypeId) (f : Nat) : Option (Nat × Nat × Bool) :=
  match P.underlying s with
  | some (.struct fs) => (fs[f]?).bind fun fl => (szOf P fl.type).bind fun n => (aggOf P fl.type).map fun b => (fl.offset, n, b)
  | _ => none
/-- An array: how many elements, their cells, whether they are structs or arrays. -/
def arrOf (P : Program) (t : TypeId) : Option (Nat × Nat × Bool) :=
  match P.underlying t with
  | some (.array n e) => (szOf P e).bind fun k => (aggOf P e).map fun b => (n, k, b)
  | _ => none
/-- A slice: its element's type, cells and bytes. -/
def slcOf (P : Program) (t : TypeId) : Option (TypeId × Nat × Nat) :=
  match P.underlying t with
  | some (.slice e) => (P.info? e).map fun i => (e, i.size, i.bytes)
  | _ => none
def isInt (P : Program) (t : TypeId) : Option IntKind := match P.underlying t with | some (.int k) => some k | _ => none
def isBoo (P : Program) (t : TypeId) : Bool := match P.underlying t with | some .bool => true | _ => false
def isStr (P : Program) (t : TypeId) : Bool := match P.underlying t with | some .string => true | _ => false

def ofCell : Value → AV
  | .slice none 0 0 => .sl 1 []
  | v => .sc v
def ofConst : Value → AV
  | .agg cs => .agg (cs.toList.map ofCell)
  | v => ofCell v
def trCell : Value → Tr
  | .slice none 0 0 => .sl []
  | v => .sc v
def zerOf (P : Program) (t : TypeId) : Option (List Value) := ((P.info? t).bind (·.zero)).map (·.cells.toList)

/-- A state. -/
structure AS where
  t : List (Nat × AV)
  b : List (Nat × Blk)
  l : List (Nat × Option (TypeId × Nat))
  h : Nat
  nt : Nat

def look : List (Nat × AV) → Nat → AV
  | [], _ => .no
  | (d, v) :: r, t => if t = d then v else look r t
def blook : List (Nat × Blk) → Nat → Option Blk
  | [], _ => none
  | (d, v) :: r, t => if t = d then some v else blook r t
def tlook : List (Nat × Option (TypeId × Nat)) → Nat → Option (TypeId × Nat)
  | [], _ => none
  | (d, v) :: r, t => if t = d then v else tlook r t
/-- What is known of a slot; of a block; whether a token lives. -/
def AS.T (σ : AS) (i : Nat) : AV := look σ.t i
def AS.H (σ : AS) (i : Nat) : Option Blk := blook σ.b i
def AS.L (σ : AS) (i : Nat) : Option (TypeId × Nat) := tlook σ.l i

def AS.ev (σ : AS) : Operand → AV
  | .tmp t => σ.T t
  | .const v => ofConst v
  | .func f => .clo f []
  | .global _ => .no
def AS.put (σ : AS) (d : Option Tmp) (v : AV) : AS :=
  match d with
  | some d => { σ with t := (d, v) :: σ.t }
  | none => σ
def bset : List (Nat × Blk) → Nat → Blk → List (Nat × Blk)
  | [], id, b => [(id, b)]
  | (d, v) :: r, id, b => if id = d then (d, b) :: r else (d, v) :: bset r id b
theorem blook_bset (l : List (Nat × Blk)) (id : Nat) (b : Blk) (t : Nat) : blook (bset l id b) t = if t = id then some b else blook l t := by
  induction l with
  | nil => simp [bset, blook]
  | cons x r ih =>
    obtain ⟨d, v⟩ := x
    simp only [bset]
    split
    · rename_i h; subst h; simp only [blook]; split <;> simp_all
    · rename_i h; simp only [blook, ih]; grind
def AS.blk (σ : AS) (id : Nat) (b : Blk) : AS := { σ with b := bset σ.b id b }
theorem AS.T_put (σ : AS) (d : Nat) (v : AV) (t : Nat) : (σ.put (some d) v).T t = if t = d then v else σ.T t := rfl

/-- The cells that a value fills. -/
def AV.cells : AV → List AV
  | .agg cs => cs
  | x => [x]
/-- May it stand in one cell, and is it known? -/
def AV.one : AV → Bool
  | .sc v => v.oneCell'
  | .sl _ _ | .arr .. | .ptr .. | .pel .. | .clo .. => true
  | _ => false
/-- As a plain tree. -/
def AV.tr : AV → Option Tr
  | .sc v => if v.oneCell' then some (.sc v) else none
  | .sl _ xs => some (.sl xs)
  | _ => none
/-- A few cells out of many, as one value. -/
def partOf (cs : List AV) (off n : Nat) (agg : Bool) : Option AV :=
  if agg then (if off + n ≤ cs.length then some (.agg ((cs.drop off).take n)) else none) else cs[off]?

/-- Bit by bit. -/
def iand (k : IntKind) (a b : Int) : Int := k.wrap (BitVec.ofInt k.bits a &&& BitVec.ofInt k.bits b).toNat
def ior (k : IntKind) (a b : Int) : Int := k.wrap (BitVec.ofInt k.bits a ||| BitVec.ofInt k.bits b).toNat
def ixor (k : IntKind) (a b : Int) : Int := k.wrap (BitVec.ofInt k.bits a ^^^ BitVec.ofInt k.bits b).toNat
def iandn (k : IntKind) (a b : Int) : Int := k.wrap (BitVec.ofInt k.bits a &&& ~~~ BitVec.ofInt k.bits b).toNat
def aint (op : BinOp) (k : IntKind) (a b : Int) : Option Value :=
  match op with
  | .add => some (.int k (k.wrap (a + b)))
  | .sub => some (.int k (k.wrap (a - b)))
  | .mul => some (.int k (k.wrap (a * b)))
  | .quo => if b = 0 then none else some (.int k (k.wrap (a.tdiv b)))
  | .rem => if b = 0 then none else some (.int k (a.tmod b))
  | .and => some (.int k (iand k a b))
  | .or => some (.int k (ior k a b))
  | .xor => some (.int k (ixor k a b))
  | .andNot => some (.int k (iandn k a b))
  | .eql => some (.bool (decide (a = b)))
  | .neq => some (.bool (!decide (a = b)))
  | .lss => some (.bool (decide (a < b)))
  | .leq => some (.bool (decide (a ≤ b)))
  | .gtr => some (.bool (decide (b < a)))
  | .geq => some (.bool (decide (b ≤ a)))
  | _ => none
def abin (P : Program) (op : BinOp) (xt : TypeId) (x y : Value) : Option Value :=
  match op, x, y with
  | .shl, .int k a, .int _ b => if b < 0 then none else some (.int k (k.wrap (a * 2 ^ (min b.toNat k.bits))))
  | .shr, .int k a, .int _ b => if b < 0 then none else some (.int k (a.fdiv (2 ^ (min b.toNat k.bits))))
  | op, .int k a, .int k' b => if k = k' then aint op k a b else none
  | .eql, .bool a, .bool b => if isBoo P xt = true then some (.bool (a == b)) else none
  | .neq, .bool a, .bool b => if isBoo P xt = true then some (.bool (a != b)) else none
  | .add, .string a, .string b => if a.size + b.size ≤ 140737488355328 then some (.string (a ++ b)) else none
  | .eql, .string a, .string b => some (.bool (decide (a = b)))
  | .neq, .string a, .string b => some (.bool (!decide (a = b)))
  | _, _, _ => none
def aun (op : UnOp) (x : Value) : Option Value :=
  match op, x with
  | .neg, .int k n => some (.int k (k.wrap (0 - n)))
  | .not, .bool b => some (.bool !b)
  | _, _ => none

/-- An array of whole numbers: how many, of which kind. -/
def arrInt (P : Program) (t : TypeId) : Option (Nat × IntKind) :=
  match P.underlying t with
  | some (.array n e) => match P.underlying e with
    | some (.int k) => if szOf P e = some 1 ∧ aggOf P e = some false ∧ P.eqGuardType P.depth t = false then some (n, k) else none
    | _ => none
  | _ => none
/-- Whole numbers, all of one kind. -/
def intsOf (k : IntKind) : List AV → Option (List Int)
  | [] => some []
  | .sc (.int k' n) :: r => if k' = k then (intsOf k r).map (n :: ·) else none
  | _ => none
def aeqa2 (op : BinOp) (n : Nat) (xs ys : Option (List Int)) : Option AV :=
  match xs, ys with
  | some xs, some ys => if xs.length = n ∧ ys.length = n then (match op with | .eql => some (.sc (.bool (decide (xs = ys)))) | .neq => some (.sc (.bool !decide (xs = ys))) | _ => none) else none
  | _, _ => none
/-- What one cell of a flat value is. -/
inductive Kd where | i (k : IntKind) | b | s
def flatFs (P : Program) (F : TypeId → Option (List Kd)) : List Field → Nat → Option (List Kd)
  | [], _ => some []
  | f :: r, o => match F f.type with
    | some ks => if f.name ≠ "_" ∧ f.offset = o ∧ szOf P f.type = some ks.length then (flatFs P F r (o + ks.length)).map (ks ++ ·) else none
    | none => none
def flatIn (P : Program) : Nat → TypeId → Option (List Kd)
  | 0, _ => none
  | d + 1, t => match P.underlying t with
    | some (.int k) => some [.i k]
    | some .bool => some [.b]
    | some .string => some [.s]
    | some (.struct fs) => if P.stoodInHeld t = false then flatFs P (flatIn P d) fs.toList 0 else none
    | _ => none
def flatOf (P : Program) (t : TypeId) : Option (List Kd) :=
  match P.underlying t with
  | some (.struct _) => if P.eqGuardType P.depth t = false then flatIn P 30 t else none
  | _ => none
def vceq : List Kd → List Value → List Value → Option Bool
  | [], [], [] => some true
  | .i k :: r, .int k1 a :: as, .int k2 b :: bs => if k1 = k ∧ k2 = k then (vceq r as bs).map (decide (a = b) && ·) else none
  | .b :: r, .bool a :: as, .bool b :: bs => (vceq r as bs).map ((a == b) && ·)
  | .s :: r, .string a :: as, .string b :: bs => (vceq r as bs).map (decide (a = b) && ·)
  | _, _, _ => none
def scs : List AV → Option (List Value)
  | [] => some []
  | .sc v :: r => (scs r).map (v :: ·)
  | _ => none
def aeqs2 (op : BinOp) (r : Option Bool) : Option AV :=
  match op, r with
  | .eql, some b => some (.sc (.bool b))
  | .neq, some b => some (.sc (.bool !b))
  | _, _ => none
def aeqs1 (op : BinOp) (ks : List Kd) (as bs : Option (List Value)) : Option AV :=
  match as, bs with | some vs, some us => aeqs2 op (vceq ks vs us) | _, _ => none
def aeqs (P : Program) (op : BinOp) (t : TypeId) (as bs : List AV) : Option AV :=
  match flatOf P t with
  | some ks => aeqs1 op ks (scs as) (scs bs)
  | none => none

/-- Two arrays of whole numbers, or two flat structs: are they alike? -/
def aeqa (P : Program) (op : BinOp) (t : TypeId) (as bs : List AV) : Option AV :=
  match arrInt P t with
  | some (n, k) => aeqa2 op n (intsOf k as) (intsOf k bs)
  | none => aeqs P op t as bs

/-- Bounds of a slice expression: given ones are whole numbers. -/
def bnd (x : Option AV) (d : Nat) : Option Int :=
  match x with
  | none => some d
  | some (.sc (.int _ n)) => some n
  | _ => none

def setCells (cs : List AV) (j : Nat) (vs : List AV) : List AV := cs.take j ++ vs ++ cs.drop (j + vs.length)
def setTr (e : List Tr) (j : Nat) (vs : List Tr) : List Tr := e.take j ++ vs ++ e.drop (j + vs.length)

def abuiltin (P : Program) (σ : AS) (b : Builtin) (as : List Operand) (ts : List TypeId) : Option AV :=
  match b, as, ts with
  | .len, [x], [t] => match σ.ev x with
    | .sl _ xs => if (slcOf P t).isSome then some (.sc (.int .i64 xs.length)) else none
    | .arr _ _ n => if (slcOf P t).isSome then some (.sc (.int .i64 n)) else none
    | .sc (.string s) => if isStr P t then some (.sc (.int .i64 s.size)) else none
    | _ => none
  | .min, [x, y], _ => match σ.ev x, σ.ev y with
    | .sc (.int k a), .sc (.int _ b) => some (.sc (.int k (if b < a then b else a)))
    | _, _ => none
  | .max, [x, y], _ => match σ.ev x, σ.ev y with
    | .sc (.int k a), .sc (.int _ b) => some (.sc (.int k (if a < b then b else a)))
    | _, _ => none
  | _, _, _ => none

/-- The value that an operation yields which makes nothing and changes nothing. -/
def aval (P : Program) (σ : AS) : Op → Option AV
  | .move x | .assign x => some (σ.ev x)
  | .pick c a b => match σ.ev c with | .sc (.bool t) => some (if t = true then σ.ev a else σ.ev b) | _ => none
  | .load t a => match szOf P t, aggOf P t, σ.ev a with
    | some n, some g, .ptr id j => match σ.H id with | some (.box cs) => partOf cs j n g | _ => none
    | some n, some g, .pel id i j => match σ.H id with | some (.row _ xs) => (xs[i]?).bind fun e => partOf (e.map Tr.av) j n g | _ => none
    | some n, some g, .cel e j => partOf (e.map Tr.av) j n g
    | _, _, _ => none
  | .nilCheck x => match σ.ev x with
    | .ptr id j => some (.ptr id j)
    | .pel id i j => some (.pel id i j)
    | .cel e j => some (.cel e j)
    | _ => none
  | .binOp op t x y _ => match σ.ev x, σ.ev y with | .sc a, .sc b => (abin P op t a b).map .sc | .agg as, .agg bs => aeqa P op t as bs | _, _ => none
  | .unOp op _ x => match σ.ev x with | .sc a => (aun op a).map .sc | _ => none
  | .convert s d x => match isInt P s, isInt P d, σ.ev x with | some _, some k, .sc (.int _ n) => some (.sc (.int k (k.wrap n))) | _, _, _ => none
  | .fieldAddr s x f => match fldOf P s f, σ.ev x with
    | some (o, n, _), .ptr id j => if n = 0 then none else some (.ptr id (j + o))
    | some (o, n, _), .pel id i j => if n = 0 then none else some (.pel id i (j + o))
    | some (o, n, _), .cel e j => if n = 0 then none else some (.cel e (j + o))
    | _, _ => none
  | .indexAddr t x ix => match σ.ev x, σ.ev ix with
    | .sl _ xs, .sc (.int _ i) => match slcOf P t with
      | some (_, n, _) => if 0 ≤ i ∧ i < xs.length ∧ (xs.getD i.toNat []).length = n then some (.cel (xs.getD i.toNat []) 0) else none
      | _ => none
    | .arr id off len, .sc (.int _ i) => match slcOf P t, σ.H id with
      | some (_, n, _), some (.row sz _) => if 0 ≤ i ∧ i < len ∧ sz = n then some (.pel id (off + i.toNat) 0) else none
      | _, _ => none
    | .ptr id j, .sc (.int _ i) => match arrOf P t with | some (len, n, _) => if 0 ≤ i ∧ i < len then some (.ptr id (j + i.toNat * n)) else none | _ => none
    | .pel id k j, .sc (.int _ i) => match arrOf P t with | some (len, n, _) => if 0 ≤ i ∧ i < len then some (.pel id k (j + i.toNat * n)) else none | _ => none
    | .cel e j, .sc (.int _ i) => match arrOf P t with | some (len, n, _) => if 0 ≤ i ∧ i < len then some (.cel e (j + i.toNat * n)) else none | _ => none
    | _, _ => none
  | .field t x f => match fldOf P t f, σ.ev x with | some (o, n, g), .agg cs => partOf cs o n g | _, _ => none
  | .index t x ix => match σ.ev x, σ.ev ix with
    | .agg cs, .sc (.int _ i) => match arrOf P t with | some (len, n, g) => if 0 ≤ i ∧ i < len then partOf cs (i.toNat * n) n g else none | _ => none
    | .sc (.string s), .sc (.int _ i) => if isStr P t = true ∧ 0 ≤ i ∧ i < s.size then some (.sc (.int .u8 (s.data.getD i.toNat 0).toNat)) else none
    | _, _ => none
  | .slice t x lo hi mx => match mx, σ.ev x with
    | none, .sl _ xs => match slcOf P t, bnd (hi.map σ.ev) xs.length, bnd (lo.map σ.ev) 0 with
      | some (_, n, _), some h, some l => if 0 ≤ l ∧ l ≤ h ∧ h ≤ xs.length ∧ (∀ e ∈ xs, e.length = n) then some (.sl 0 ((xs.take h.toNat).drop l.toNat)) else none
      | _, _, _ => none
    | none, .sc (.string s) => match isStr P t, bnd (hi.map σ.ev) s.size, bnd (lo.map σ.ev) 0 with
      | true, some h, some l => if 0 ≤ l ∧ l ≤ h ∧ h ≤ s.size then some (.sc (.string (s.extract l.toNat h.toNat))) else none
      | _, _, _ => none
    | _, _ => none
  | .extract x i => match σ.ev x with | .tup vs => vs[i]? | _ => none
  | .call { callee := .builtin b, args := as, argTypes := ts } => abuiltin P σ b as.toList ts.toList
  | _ => none
end VC
