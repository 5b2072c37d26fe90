/- What each operation, and each piece of code, asks for. -/
import Derived.Test.YtknllghkpjncoaaVf
import Derived.Still
set_option linter.unusedVariables false
namespace VC
open Go Go.RowKit

def AS.new (σ : AS) (b : Blk) : AS := { σ with b := (σ.h, b) :: σ.b, h := σ.h + 1 }
def AS.newTok (σ : AS) (e : TypeId × Nat) : AS := { σ with l := (σ.nt, some e) :: σ.l, nt := σ.nt + 1 }
def AS.kill (σ : AS) (tk : Nat) : AS := { σ with l := (tk, none) :: σ.l }
/-- The same with few slots alone. -/
def AS.keep (vs : List Nat) (σ : AS) : AS := { σ with t := vs.map fun t => (t, σ.T t) }

/-- Parts laid into cells, each at its place. -/
def afill (place : Nat → Option (Nat × Nat)) (cs : List AV) : List (Nat × List AV) → Option (List AV)
  | [] => some cs
  | (i, v) :: r => match place i with
    | none => none
    | some (o, n) => if v.length = n ∧ o + n ≤ cs.length then afill place (setCells cs o v) r else none
def chunk {α : Type} (n : Nat) : Nat → List α → List (List α)
  | 0, _ => []
  | k + 1, l => l.take n :: chunk n k (l.drop n)
def trs : List AV → Option (List Tr)
  | [] => some []
  | x :: r => match x.tr, trs r with | some y, some ys => some (y :: ys) | _, _ => none
def trss : List (List AV) → Option (List (List Tr))
  | [] => some []
  | x :: r => match trs x, trss r with | some y, some ys => some (y :: ys) | _, _ => none
/-- The places of a struct's fields. -/
def plcOf (P : Program) (t : TypeId) : Option (List (Nat × Nat)) :=
  match P.underlying t with
  | some (.struct fs) => fs.toList.mapM (fun f => (P.info? f.type).map fun i => (f.offset, i.size))
  | _ => none
def afillT (P : Program) (t : TypeId) (cs : List AV) (ps : List (Nat × List AV)) : Option (List AV) :=
  match plcOf P t, arrOf P t with
  | some pl, _ => afill (fun i => pl[i]?) cs ps
  | none, some (_, n, _) => afill (fun i => some (i * n, n)) cs ps
  | none, none => none

/-- A call of a pure function: its arguments are what they are, whatever memory; its result is a tree. -/
def Pure (P : Program) (f : FuncId) (args : List AV) (R : AV → Prop) : Prop :=
  ∀ (g : Gh) (w : World) (vals : List Value), g.B = w.heap.size → g.n = 0 → g.m = 2 → (∀ b o, g.M b o → b < w.heap.size) → vals.length = args.length →
    (∀ (j : Nat) (x : AV) (v : Value), args[j]? = some x → vals[j]? = some v → AV.R g w x v) →
    Calls P f vals.toArray w fun e w' => ∃ r v, R r ∧ e = .returned v ∧ AV.R g w' r v ∧ Below w.heap.size w w'

/-- The same where blocks of the caller's are handed on. -/
def Spec (P : Program) (f : FuncId) (args : List AV) (σ : AS) (R : AV → AS → Prop) : Prop :=
  ∀ (g : Gh) (w : World) (vals : List Value), HInv g σ.H σ.L σ.h σ.nt w → vals.length = args.length →
    (∀ (j : Nat) (x : AV) (v : Value), args[j]? = some x → vals[j]? = some v → AV.R g w x v) →
    Calls P f vals.toArray w fun e w' => ∃ r v σ' g', R r σ' ∧ e = .returned v ∧ AV.R g' w' r v ∧ HInv g' σ'.H σ'.L σ'.h σ'.nt w' ∧ Ext g w g' w'

/-- What is lent to a pure function. -/
def AV.lend : AV → AV
  | .sc v => .sc v
  | .sl _ xs => .sl 0 xs
  | .agg cs => .agg (cs.map fun | .sc v => .sc v | .sl _ xs => .sl 0 xs | _ => .no)
  | _ => .no

/-- A byte's type. -/
def isByte (P : Program) (e : TypeId) : Bool := match (P.info? e).bind (·.zero) with | some (.int .u8 0) => true | _ => false

def isFn (P : Program) (f : FuncId) : Bool := match P.funcs[f]? with | some fn => fn.name != "runtime.NumGoroutine" && fn.body.isSome | none => false

/-- A value, put into its slot. -/
def kput (x : Option AV) (d : Option Tmp) (K : AS → Prop) (σ : AS) : Prop := match x with | some v => K (σ.put d v) | none => False
theorem kput_elim {x : Option AV} {d : Option Tmp} {K : AS → Prop} {σ : AS} (h : kput x d K σ) : ∃ v, x = some v ∧ K (σ.put d v) := by
  cases x with
  | none => exact h.elim
  | some v => exact ⟨v, rfl, h⟩
def kalloc (z : Option (List Value)) (d : Option Tmp) (K : AS → Prop) (σ : AS) : Prop := match z with | some z => K ((σ.new (.box (z.map ofCell))).put d (.ptr σ.h 0)) | none => False
def kbox (cs : List AV) (d : Option Tmp) (K : AS → Prop) (σ : AS) : Prop := (cs.all AV.one) = true ∧ K ((σ.new (.box cs)).put d (.ptr σ.h 0))
def allOne (ps : List (Nat × List AV)) : Bool := ps.all fun p => p.2.all AV.one
def kbuild (P : Program) (t : TypeId) (ps : List (Nat × List AV)) (z : Option (List Value)) (d : Option Tmp) (K : AS → Prop) (σ : AS) : Prop :=
  match z with | some z => allOne ps = true ∧ kput ((afillT P t (z.map ofCell) ps).map .agg) d K σ | none => False
def kslice3 (e : TypeId) (n : Nat) (xs : Option (List (List Tr))) (d : Option Tmp) (K : AS → Prop) (σ : AS) : Prop := match xs with | some xs => K ((σ.newTok (e, n)).put d (.sl σ.nt xs)) | none => False
def fillTrs (n len : Nat) (z : List Value) (ps : List (Nat × List AV)) : Option (List (List Tr)) :=
  match afill (fun i => some (i * n, n)) ((List.replicate len (z.map ofCell)).flatten) ps with | some cs => trss (chunk n len cs) | none => none
def kslice2 (e : TypeId) (n len : Nat) (ps : List (Nat × List AV)) (z : Option (List Value)) (d : Option Tmp) (K : AS → Prop) (σ : AS) : Prop :=
  match z with | some z => z.length = n ∧ kslice3 e n (fillTrs n len z ps) d K σ | none => False
def kslice (P : Program) (len : Nat) (ps : List (Nat × List AV)) (s : Option (TypeId × Nat × Nat)) (d : Option Tmp) (K : AS → Prop) (σ : AS) : Prop :=
  match s with | some (e, n, _) => allOne ps = true ∧ 0 < n ∧ len * n ≤ 16777216 ∧ kslice2 e n len ps (zerOf P e) d K σ | none => False
def kmake2 (n b : Nat) (l c : AV) (z : Option (List Value)) (d : Option Tmp) (K : AS → Prop) (σ : AS) : Prop :=
  match z, l, c with
  | some z, .sc (.int _ i), .sc (.int _ i') => z.length = n ∧ (z.all Value.oneCell') = true ∧ i' = i ∧ 0 ≤ i ∧ i ≤ 9223372036854775807 ∧ i * b ≤ 140737488355328 ∧
      K ((σ.new (.row n (List.replicate i.toNat (z.map trCell)))).put d (.arr σ.h 0 i.toNat))
  | _, _, _ => False
def kmake (P : Program) (l c : AV) (s : Option (TypeId × Nat × Nat)) (d : Option Tmp) (K : AS → Prop) (σ : AS) : Prop :=
  match s with | some (e, n, b) => 0 < n ∧ kmake2 n b l c (zerOf P e) d K σ | none => False
def kstore2 (id i j n : Nat) (xs : List (List Tr)) (e ys : Option (List Tr)) (d : Option Tmp) (K : AS → Prop) (σ : AS) : Prop :=
  match e, ys with | some e, some ys => j + ys.length ≤ n ∧ K ((σ.blk id (.row n (xs.set i (setTr e j ys)))).put d .no) | _, _ => False
def kstore1 (ad : AV) (b : Option Blk) (x : List AV) (d : Option Tmp) (K : AS → Prop) (σ : AS) : Prop :=
  match ad, b with
  | .ptr id j, some (.box cs) => j + x.length ≤ cs.length ∧ K ((σ.blk id (.box (setCells cs j x))).put d .no)
  | .pel id i j, some (.row n xs) => kstore2 id i j n xs xs[i]? (trs x) d K σ
  | _, _ => False
def AV.blk (σ : AS) : AV → Option Blk
  | .ptr id _ => σ.H id
  | .pel id _ _ => σ.H id
  | _ => none
def kstore (sz : Option Nat) (ad : AV) (x : List AV) (d : Option Tmp) (K : AS → Prop) (σ : AS) : Prop :=
  (x.all AV.one) = true ∧ sz = some x.length ∧ kstore1 ad (ad.blk σ) x d K σ
/-- Behind an append. -/
def kappd (e : TypeId) (n b tk : Nat) (xs ys : List (List Tr)) (d : Option Tmp) (K : AS → Prop) (σ : AS) : Prop :=
  (tk = 1 ∨ σ.L tk = some (e, n)) ∧ (xs.length + ys.length) * b ≤ 140737488355328 ∧ xs.length + ys.length ≤ 9223372036854775807 ∧ (∀ y ∈ ys, y.length = n) ∧ K (((σ.kill tk).newTok (e, n)).put d (.sl σ.nt (xs ++ ys)))
def kapp2 (P : Program) (t u e : TypeId) (n b : Nat) (s x : AV) (z : Option (List Value)) (d : Option Tmp) (K : AS → Prop) (σ : AS) : Prop :=
  match z, s, x with
  | some z, .sl tk xs, .sl _ ys => z.length = n ∧ u = t ∧ kappd e n b tk xs ys d K σ
  | some z, .sl tk xs, .sc (.string s) => z.length = n ∧ isStr P u = true ∧ b = 1 ∧ isByte P e = true ∧ kappd e n b tk xs (s.data.toList.map fun c => [.sc (.int .u8 c.toNat)]) d K σ
  | _, _, _ => False
def kapp1 (P : Program) (t u : TypeId) (s x : AV) (i : Option (TypeId × Nat × Nat)) (d : Option Tmp) (K : AS → Prop) (σ : AS) : Prop :=
  match i with | some (e, n, b) => 0 < n ∧ kapp2 P t u e n b s x (zerOf P e) d K σ | none => False
def kapp (P : Program) (as : List AV) (ts : List TypeId) (d : Option Tmp) (K : AS → Prop) (σ : AS) : Prop :=
  match as, ts with | [s, x], [t, u] => kapp1 P t u s x (slcOf P t) d K σ | _, _ => False

def acall (P : Program) (f : AV) (as : List AV) (d : Option Tmp) (K : AS → Prop) (σ : AS) : Prop :=
  match f with
  | .clo fn caps => isFn P fn = true ∧
      ((∃ R, Pure P fn ((as ++ caps).map AV.lend) R ∧ ∀ r, R r → K (σ.put d r)) ∨
       (∃ R, Spec P fn (as ++ caps) σ R ∧ ∀ r σ', R r σ' → K (({ σ' with t := σ.t } : AS).put d r)))
  | _ => False

def AS.evs (σ : AS) : List Operand → List AV
  | [] => []
  | x :: r => σ.ev x :: σ.evs r
theorem AS.evs_map (σ : AS) : ∀ l, σ.evs l = l.map σ.ev
  | [] => rfl
  | x :: r => by simp [AS.evs, AS.evs_map σ r]
def AS.parts (σ : AS) : List (Nat × Operand) → List (Nat × List AV)
  | [] => []
  | (i, x) :: r => (i, (σ.ev x).cells) :: σ.parts r
theorem AS.parts_map (σ : AS) : ∀ l, σ.parts l = l.map fun p => (p.1, (σ.ev p.2).cells)
  | [] => rfl
  | (i, x) :: r => by simp [AS.parts, AS.parts_map σ r]

def aexec (P : Program) (op : Op) (d : Option Tmp) (K : AS → Prop) (σ : AS) : Prop :=
  match op with
  | .alloc e => kalloc (zerOf P e) d K σ
  | .box _ x => kbox (σ.ev x).cells d K σ
  | .build t parts => kbuild P t (σ.parts parts.toList) (zerOf P t) d K σ
  | .buildSlice t len parts => kslice P len (σ.parts parts.toList) (slcOf P t) d K σ
  | .makeSlice t l c => kmake P (σ.ev l) (σ.ev c) (slcOf P t) d K σ
  | .store t ad x => kstore (szOf P t) (σ.ev ad) (σ.ev x).cells d K σ
  | .call { callee := .builtin .append, args := as, argTypes := ts } => kapp P (σ.evs as.toList) ts.toList d K σ
  | .call { callee := .value f, args := as, .. } => acall P (σ.ev f) (σ.evs as.toList) d K σ
  | op => kput (aval P σ op) d K σ

/-- Under a guard. -/
def kguard (P : Program) (v : AV) (g : Nat) (want : Bool) (op : Op) (d : Option Tmp) (K : AS → Prop) (σ : AS) : Prop :=
  match v with
  | .sc (.bool b) => (b = want → aexec P op d K (σ.put (some g) (.sc (.bool want)))) ∧ (b = !want → K ((σ.put (some g) (.sc (.bool !want))).put d (.tup [])))
  | .tup [] => K (σ.put d (.tup []))
  | _ => False
def kguard0 (P : Program) (g : Option Tmp) (want : Bool) (op : Op) (d : Option Tmp) (K : AS → Prop) (σ : AS) : Prop :=
  match g with | some g => kguard P (σ.T g) g want op d K σ | none => False

/-- An operation under its guard. -/
def astep (P : Program) (ds : List (Option Tmp)) (g : Option (Nat × Bool)) (op : Op) (d : Option Tmp) (K : AS → Prop) (σ : AS) : Prop :=
  match g with
  | none => aexec P op d K σ
  | some (j, want) => kguard0 P (ds.getD j none) want op d K σ

def aops (P : Program) (ds : List (Option Tmp)) : List Oper → (AS → Prop) → AS → Prop
  | [], K, σ => K σ
  | o :: r, K, σ => astep P ds o.guard o.op o.dst (aops P ds r K) σ

def dsts (ops : List Oper) : List (Option Tmp) := ops.map (·.dst)

def Ex.then (K : AS → Prop) (Q : Exit → AS → Prop) : Exit → AS → Prop
  | .normal, σ => K σ
  | e, σ => Q e σ
def Ex.block (id : Nat) (Q : Exit → AS → Prop) : Exit → AS → Prop
  | .exit i, σ => if i = id then Q .normal σ else Q (.exit i) σ
  | e, σ => Q e σ
/-- Behind a region: few slots are looked at. -/
def kreg (vs : List Nat) (Q : Exit → AS → Prop) (σ : AS) : Prop := Q .normal (σ.keep vs)
def kcond (c : AV) (A B : AS → Prop) (σ : AS) : Prop := match c with | .sc (.bool b) => (b = true → A σ) ∧ (b = false → B σ) | _ => False

/-! Regions whose order is open: but for operations that stand alone among all others, each yields one value and leaves what is known of memory as it is. -/
def qcall (P : Program) (f : AV) (as : List AV) (d : Option Tmp) (K : AS → Prop) (σ : AS) : Prop :=
  match f with | .clo fn caps => isFn P fn = true ∧ ∃ x, Pure P fn ((as ++ caps).map AV.lend) (· = x) ∧ K (σ.put d x) | _ => False
def qslice2 (e : TypeId) (n len : Nat) (ps : List (Nat × List AV)) (z : Option (List Value)) (d : Option Tmp) (K : AS → Prop) (σ : AS) : Prop :=
  match z with | some z => z.length = n ∧ kput ((fillTrs n len z ps).map (AV.sl 0)) d K σ | none => False
def qslice (P : Program) (len : Nat) (ps : List (Nat × List AV)) (s : Option (TypeId × Nat × Nat)) (d : Option Tmp) (K : AS → Prop) (σ : AS) : Prop :=
  match s with | some (e, n, _) => allOne ps = true ∧ 0 < n ∧ len * n ≤ 16777216 ∧ qslice2 e n len ps (zerOf P e) d K σ | none => False
def qexec (P : Program) (op : Op) (d : Option Tmp) (K : AS → Prop) (σ : AS) : Prop :=
  match op with
  | .build t parts => kbuild P t (σ.parts parts.toList) (zerOf P t) d K σ
  | .buildSlice t len parts => qslice P len (σ.parts parts.toList) (slcOf P t) d K σ
  | .call { callee := .value f, args := as, .. } => qcall P (σ.ev f) (σ.evs as.toList) d K σ
  | op => kput (aval P σ op) d K σ
def qguard (P : Program) (v : AV) (g : Nat) (want : Bool) (op : Op) (d : Option Tmp) (K : AS → Prop) (σ : AS) : Prop :=
  match v with
  | .sc (.bool b) => (b = want → qexec P op d K (σ.put (some g) (.sc (.bool want)))) ∧ (b = !want → K ((σ.put (some g) (.sc (.bool !want))).put d (.tup [])))
  | .tup [] => K (σ.put d (.tup []))
  | _ => False
def qguard0 (P : Program) (g : Option Tmp) (want : Bool) (op : Op) (d : Option Tmp) (K : AS → Prop) (σ : AS) : Prop :=
  match g with | some g => qguard P (σ.T g) g want op d K σ | none => False
def qstep (P : Program) (ds : List (Option Tmp)) (g : Option (Nat × Bool)) (op : Op) (d : Option Tmp) (K : AS → Prop) (σ : AS) : Prop :=
  match g with
  | none => qexec P op d K σ
  | some (j, want) => qguard0 P (ds.getD j none) want op d K σ
/-- With a new block that waits. -/
def AS.real (σ : AS) : Option Blk → AS
  | none => σ
  | some b => σ.new b
def qalloc (z : Option (List Value)) (d : Option Tmp) (K : Option Blk → AS → Prop) (p : Option Blk) (σ : AS) : Prop := match z, p with | some z, none => K (some (.box (z.map ofCell))) (σ.put d (.ptr σ.h 0)) | _, _ => False
def qbox (cs : List AV) (d : Option Tmp) (K : Option Blk → AS → Prop) (p : Option Blk) (σ : AS) : Prop := (cs.all AV.one) = true ∧ match p with | none => K (some (.box cs)) (σ.put d (.ptr σ.h 0)) | _ => False
/-- An operation amid others: one new block may wait until all others are done. -/
def qastep (P : Program) (ds : List (Option Tmp)) (g : Option (Nat × Bool)) (op : Op) (d : Option Tmp) (K : Option Blk → AS → Prop) (p : Option Blk) (σ : AS) : Prop :=
  match g, op with
  | none, .alloc e => qalloc (zerOf P e) d K p σ
  | none, .box _ x => qbox (σ.ev x).cells d K p σ
  | g, op => qstep P ds g op d (K p) σ
def adops (P : Program) (ds : List (Option Tmp)) : List Bool → List Oper → (AS → Prop) → Option Blk → AS → Prop
  | _, [], K, p, σ => K (σ.real p)
  | true :: fl, o :: r, K, p, σ => astep P ds o.guard o.op o.dst (adops P ds fl r K none) (σ.real p)
  | false :: fl, o :: r, K, p, σ => qastep P ds o.guard o.op o.dst (adops P ds fl r K) p σ
  | [], _ :: _, _, _, _ => False
/-- Which operations come before each, by the edges, near or far. -/
def ancs : List Oper → List Nat → List Nat
  | [], acc => acc
  | o :: r, acc => ancs r (acc ++ [o.after.toList.foldl (fun s e => if Region.binds .any e then s ||| 2 ^ e.on ||| acc.getD e.on 0 else s) 0])
def soleOk (ops : Array Oper) (fl : List Bool) : Bool :=
  (List.range ops.size).all fun i => !(fl.getD i false) || (List.range ops.size).all fun k => i == k || ((ancs ops.toList []).getD i 0).testBit k || ((ancs ops.toList []).getD k 0).testBit i
/-- A loop. -/
def aloop (B : (Exit → AS → Prop) → AS → Prop) (Q : Exit → AS → Prop) (σ : AS) : Prop :=
  ∃ (I : Nat → AS → Prop) (n : Nat), I n σ ∧ ∀ n σ', I n σ' → B (Ex.then (fun σ'' => ∃ m, m < n ∧ I m σ'') Q) σ'

def drawOk (ops : Array Oper) (fl : List Bool) : Bool := Region.lexB .any ops && soleOk ops fl && fl.length == ops.size
def adraw (P : Program) (ops : Array Oper) (K : AS → Prop) (σ : AS) : Prop := ∃ fl, drawOk ops fl = true ∧ adops P (dsts ops.toList) fl ops.toList K none σ

/-- What a piece of code asks for; 'vs': the slots that are looked at behind the region that writes them. -/
def awp (P : Program) (vs : List Nat) : Code → (Exit → AS → Prop) → AS → Prop
  | .skip, Q, σ => Q .normal σ
  | .region _ ops false, Q, σ => aops P (dsts ops.toList) ops.toList (kreg vs Q) σ
  | .region _ ops true, Q, σ => adraw P ops (kreg vs Q) σ
  | .seq x y, Q, σ => awp P vs x (Ex.then (awp P vs y Q) Q) σ
  | .cond c x y, Q, σ => kcond (σ.ev c) (awp P vs x Q) (awp P vs y Q) σ
  | .block id x, Q, σ => awp P vs x (Ex.block id Q) σ
  | .loop x, Q, σ => aloop (awp P vs x) Q σ
  | .exit id, Q, σ => Q (.exit id) σ
  | .ret, Q, σ => Q .ret σ
  | _, _, _ => False

/-- Every operation writes a slot of the function's own. -/
def dstOk (N : Nat) : Code → Bool
  | .region _ ops _ => ops.toList.all fun o => match o.dst with | some d => decide (d < N) | none => true
  | .seq x y | .cond _ x y => dstOk N x && dstOk N y
  | .block _ x | .loop x => dstOk N x
  | _ => true
end VC
