/-
  An evaluator of the model's code on abstract values (data as lists and numbers; owned rows; local variables in local stores). Definitions alone.
-/
import Derived.Calls
import Derived.Below
import Derived.Laws.AppendOwn
import Derived.Orders
namespace Go.Proofs.YtffjdcbegohmiaaDoor.Ev
open Go

/-- Abstract values. v: a plain value, without addresses; nils: the nil slice; lst: a slice whose elements (each a list of cells) never change; row: a slice of the owned row s of the frame k up, n elements;
ref: a pointer to cells that never change; ptr: a pointer into the variable s of the frame k up; clo: a function value with captured values; ifc: an interface value that holds such a thing. -/
inductive AV where
  | v (x : Value)
  | nils
  | lst (e : TypeId) (xs : List (List AV))
  | agg (cs : List AV)
  | tup (cs : List AV)
  | row (k s n : Nat)
  | ref (cs : List AV)
  | ptr (k s off : Nat)
  | clo (f : FuncId) (caps : List AV)
  | ifc (t : TypeId) (x : AV)

/-- What a frame's store holds under a key: a variable's cells; an owned row's elements. -/
inductive Ob where
  | blk (t : TypeId) (cs : List AV)
  | row (e : TypeId) (sz : Nat) (xs : List (List AV))

abbrev Loc := List (Nat × Ob)
abbrev Stk := List Loc
abbrev Fr := List (Nat × AV)

/-- Lists by keys, sorted. -/
def kget {α : Type} : List (Nat × α) → Nat → Option α
  | [], _ => none
  | (t, y) :: r, s => if s = t then some y else kget r s
def kset {α : Type} : List (Nat × α) → Nat → α → List (Nat × α)
  | [], s, x => [(s, x)]
  | (t, y) :: r, s, x => if s = t then (s, x) :: r else if s < t then (s, x) :: (t, y) :: r else (t, y) :: kset r s x
def kdel {α : Type} : List (Nat × α) → Nat → List (Nat × α)
  | [], _ => []
  | (t, y) :: r, s => if s = t then kdel r s else (t, y) :: kdel r s
def kkeep {α : Type} (ks : List Nat) : List (Nat × α) → List (Nat × α)
  | [] => []
  | (t, y) :: r => if ks.contains t then (t, y) :: kkeep ks r else kkeep ks r

def sget : Stk → Nat → Nat → Option Ob
  | [], _, _ => none
  | L :: _, 0, s => kget L s
  | _ :: S, k + 1, s => sget S k s
def sset : Stk → Nat → Nat → Ob → Stk
  | [], _, _, _ => []
  | L :: S, 0, s, o => kset L s o :: S
  | L :: S, k + 1, s, o => L :: sset S k s o

/-- A value as it stands in the text or comes from a plain operation. -/
def ofCell : Value → AV
  | .slice none 0 0 => .nils
  | x => .v x
def ofVal1 : Value → AV
  | .agg cs => .agg (cs.toList.map ofCell)
  | x => ofCell x
def ofVal : Value → AV
  | .tuple vs => .tup (vs.toList.map ofVal1)
  | x => ofVal1 x

mutual
def AV.toVal : AV → Option Value
  | .v x => some x
  | .nils => some (.slice none 0 0)
  | .agg cs => (toVals cs).map fun l => .agg l.toArray
  | .tup cs => (toVals cs).map fun l => .tuple l.toArray
  | .ifc t x => x.toVal.map fun y => .iface t y
  | _ => none
def toVals : List AV → Option (List Value)
  | [] => some []
  | x :: r => match x.toVal, toVals r with
    | some y, some l => some (y :: l)
    | _, _ => none
end

/- up: seen from k frames further in. -/
mutual
def AV.up (k : Nat) : AV → AV
  | .agg cs => .agg (ups k cs)
  | .tup cs => .tup (ups k cs)
  | .row j s n => .row (j + k) s n
  | .ptr j s o => .ptr (j + k) s o
  | .clo f cs => .clo f (ups k cs)
  | .ifc t x => .ifc t (x.up k)
  | x => x
def ups (k : Nat) : List AV → List AV
  | [] => []
  | x :: r => x.up k :: ups k r
end

/- down: the converse of up; none: it speaks of a frame further in. -/
mutual
def AV.down (k : Nat) : AV → Option AV
  | .agg cs => (downs k cs).map .agg
  | .tup cs => (downs k cs).map .tup
  | .row j s n => if k ≤ j then some (.row (j - k) s n) else none
  | .ptr j s o => if k ≤ j then some (.ptr (j - k) s o) else none
  | .clo f cs => (downs k cs).map (.clo f)
  | .ifc t x => (x.down k).map (.ifc t)
  | x => some x
def downs (k : Nat) : List AV → Option (List AV)
  | [] => some []
  | x :: r => match x.down k, downs k r with
    | some y, some l => some (y :: l)
    | _, _ => none
end

/- frz: rows as lists (of all frames, or of the innermost alone). -/
mutual
def AV.frz (all : Bool) (S : Stk) : AV → Option AV
  | .agg cs => (frzs all S cs).map .agg
  | .tup cs => (frzs all S cs).map .tup
  | .row k s n => if all || k = 0 then match sget S k s with
      | some (.row e _ xs) => some (.lst e (xs.take n))
      | _ => none
    else some (.row k s n)
  | x => some x
def frzs (all : Bool) (S : Stk) : List AV → Option (List AV)
  | [] => some []
  | x :: r => match x.frz all S, frzs all S r with
    | some y, some l => some (y :: l)
    | _, _ => none
end

/- says: does it speak of the key s of the innermost frame? -/
mutual
def AV.says (s : Nat) : AV → Bool
  | .agg cs => sayss s cs
  | .tup cs => sayss s cs
  | .row k t _ => k = 0 && s = t
  | .ptr k t _ => k = 0 && s = t
  | .clo _ cs => sayss s cs
  | .ifc _ x => x.says s
  | _ => false
def sayss (s : Nat) : List AV → Bool
  | [] => false
  | x :: r => x.says s || sayss s r
end
def frSays (s : Nat) : Fr → Bool
  | [] => false
  | (_, x) :: r => x.says s || frSays s r
def locSays (s : Nat) : Loc → Bool
  | [] => false
  | (_, .blk _ cs) :: r => sayss s cs || locSays s r
  | (_, .row ..) :: r => locSays s r

/-- A value of one cell. -/
def oneV : Value → Bool
  | .agg _ => false
  | .tuple _ => false
  | _ => true
/-- Data: what may stand in a list. -/
def AV.dat : AV → Bool
  | .v x => oneV x
  | .nils => true
  | .lst .. => true
  | _ => false

def allDat (cs : List AV) : Bool := cs.all AV.dat
/-- What may stand in a variable's cell. -/
def AV.one : AV → Bool
  | .v x => oneV x
  | .agg _ => false
  | .tup _ => false
  | _ => true
def allOne (cs : List AV) : Bool := cs.all AV.one
/-- A variable's cells. -/
def AV.cells : AV → List AV
  | .agg cs => cs
  | x => [x]

/-- The answer of what touches no memory. -/
def pr {α : Type} (P : Program) : Sem α → Option α
  | .pure a => some a
  | .program k => pr P (k P)
  | .mark _ k => pr P k
  | _ => none

structure St where
  F : Fr
  L : Loc
  S : Stk

/-- What a program is told besides: contracts of functions; which slots live at a region's begin; which functions have bodies; which go on with rows that are handed to them; which only read what their pointers point to (and answer plain values);
what the calls in a region that draws are: 0: of what hangs on no store, 1: it only reads, 2: any. -/
structure Cfg where
  orc : FuncId → List AV → Stk → Option (AV × Stk)
  live : FuncId → Nat → Option (List Nat)
  ent : FuncId → Bool
  keep : FuncId → Bool
  snap : FuncId → Bool
  cls : FuncId → Nat → Nat → Nat

/-- What may make a new object (and loads): no plain operation. -/
def isNew : Op → Bool
  | .load .. => true
  | .alloc _ => true
  | .box .. => true
  | .buildSlice .. => true
  | .call c => match c.callee with
    | .builtin .append => true
    | _ => false
  | _ => false

section
variable (P : Program) (C : Cfg)

def St.eval (st : St) : Operand → Option AV
  | .tmp t => kget st.F t
  | .const v => some (ofVal v)
  | .global _ => none
  | .func f => some (.v (.func (.func f) #[] #[]))

def evals (st : St) : List Operand → Option (List AV)
  | [] => some []
  | x :: r => match st.eval x, evals st r with
    | some y, some l => some (y :: l)
    | _, _ => none

/-- A type's cells, its zero's cells, is it a struct or an array? -/
def tsize (t : TypeId) : Option Nat := (P.info? t).map (·.size)
def tagg (t : TypeId) : Option Bool := match P.underlying t with
  | some (.struct _) => some true
  | some (.array _ _) => some true
  | some _ => some false
  | none => none
def tzero (t : TypeId) : Option (List AV) := match P.info? t with
  | some i => i.zero.map fun z => z.cells.toList.map ofCell
  | none => none

/-- A new object under the key s. -/
def St.new (st : St) (s : Nat) (o : Ob) : Option Loc :=
  if frSays s (kdel st.F s) || locSays s (kdel st.L s) || locSays s [(s, o)] then none else some (kset st.L s o)

/-- Cells read as a value of type t. -/
def asTyped (t : TypeId) (cs : List AV) : Option AV :=
  match tagg P t with
  | some true => match tsize P t with
    | some n => if n ≤ cs.length then some (.agg (cs.take n)) else none
    | none => none
  | some false => cs.head?
  | none => none

def putCells : List AV → Nat → List AV → Option (List AV)
  | cs, off, news => if off + news.length ≤ cs.length then some (cs.take off ++ news ++ cs.drop (off + news.length)) else none

/-- Parts of a literal, laid. -/
def fillA (place : Nat → Option (Nat × Nat)) (cells : List AV) : List (Nat × AV) → Option (List AV)
  | [] => some cells
  | (i, x) :: rest => match place i with
    | none => none
    | some (off, size) => if x.cells.length ≠ size then none else match putCells cells off x.cells with
      | some c => fillA place c rest
      | none => none

def chunk (sz : Nat) : Nat → List AV → List (List AV)
  | 0, _ => []
  | n + 1, cs => cs.take sz :: chunk sz n (cs.drop sz)


/-- The elements of a slice of es, as lists of cells. -/
def elemsOf (st : St) (e : TypeId) : AV → Option (List (List AV))
  | .nils => some []
  | .lst e' xs => if e' = e then some xs else none
  | .row k s n => match sget (st.L :: st.S) k s with
    | some (.row e' _ xs) => if e' = e then some (xs.take n) else none
    | _ => none
  | _ => none

/-- What touches no memory, by the model's own text. -/
def St.plain (st : St) (o : Oper) : Option Next :=
  match (match o.op with | .select .. => none | _ => (evals st o.op.operands.toList).bind toVals) with
  | some _ => pr P (execOp (fun x => ((st.eval x).bind AV.toVal).getD undef) o)
  | none => none

abbrev Res := AV × Loc × Stk

mutual
def AV.noStk : AV → Bool
  | .agg cs => noStks cs
  | .tup cs => noStks cs
  | .row .. => false
  | .ptr .. => false
  | .clo _ cs => noStks cs
  | .ifc _ x => x.noStk
  | _ => true
def noStks : List AV → Bool
  | [] => true
  | x :: r => x.noStk && noStks r
end
/-- Values that hang on no store. -/
def ownYs (ys : List AV) : Option (List AV) := if noStks ys then some ys else none

/-- An operation that is no call of a function. -/
def evMem (st : St) (dst : Option Tmp) : Op → Option Res
  | .move x => (st.eval x).map fun y => (y, st.L, st.S)
  | .assign x => (st.eval x).map fun y => (y, st.L, st.S)
  | .pick c a b => match st.eval c with
    | some (.v (.bool t)) => cond t ((st.eval a).map fun y => (y, st.L, st.S)) ((st.eval b).map fun y => (y, st.L, st.S))
    | _ => none
  | .alloc t => match dst, tzero P t with
    | some d, some cs => if allOne cs then (st.new d (.blk t cs)).map fun L => (.ptr 0 d 0, L, st.S) else none
    | _, _ => none
  | .box t x => match dst, st.eval x with
    | some d, some y => if allOne y.cells then (st.new d (.blk t y.cells)).map fun L => (.ptr 0 d 0, L, st.S) else none
    | _, _ => none
  | .load t x => match st.eval x with
    | some (.ref cs) => (asTyped P t cs).map fun y => (y, st.L, st.S)
    | some (.ptr k s off) => match sget (st.L :: st.S) k s with
      | some (.blk _ cs) => (asTyped P t (cs.drop off)).map fun y => (y.up k, st.L, st.S)
      | _ => none
    | _ => none
  | .store t x y => match st.eval x, st.eval y, tsize P t with
    | some (.ptr k s off), some z, some n => match sget (st.L :: st.S) k s, z.down k with
      | some (.blk u cs), some z' => if z'.cells.length ≠ n || !allOne z'.cells then none else match putCells cs off z'.cells with
        | some cs' => match sset (st.L :: st.S) k s (.blk u cs') with
          | L :: S => some (.v undef, L, S)
          | [] => none
        | none => none
      | _, _ => none
    | _, _, _ => none
  | .nilCheck x => match st.eval x with
    | some (.ptr k s off) => some (.ptr k s off, st.L, st.S)
    | some (.ref cs) => some (.ref cs, st.L, st.S)
    | _ => none
  | .fieldAddr t x i => match P.underlying t with
    | some (.struct fields) => match fields[i]?, st.eval x with
      | some f, some y => match tsize P f.type with
        | some (_ + 1) => match y with
          | .ptr k s off => some (.ptr k s (off + f.offset), st.L, st.S)
          | .ref cs => some (.ref (cs.drop f.offset), st.L, st.S)
          | _ => none
        | _ => none
      | _, _ => none
    | _ => none
  | .indexAddr t x y => match P.underlying t, st.eval x, st.eval y with
    | some (.slice e), some l, some (.v (.int _ i)) => match elemsOf st e l, tsize P e with
      | some xs, some sz => cond (decide (0 ≤ i)) (match xs[i.toNat]? with
        | some cs => if cs.length = sz then some (.ref cs, st.L, st.S) else none
        | none => none) none
      | _, _ => none
    | _, _, _ => none
  | .build t parts => match tzero P t, P.underlying t, evals st (parts.toList.map (·.2)) with
    | some cells, some (.struct fields), some ys => match fields.toList.mapM (fun f => (P.info? f.type).map fun i => (f.offset, i.size)) with
      | some places => if ys.all (fun y => allOne y.cells) then
          (fillA (fun i => places.toArray[i]?) cells ((parts.toList.map (·.1)).zip ys)).map fun cs => (.agg cs, st.L, st.S) else none
      | none => none
    | _, _, _ => none
  | .buildSlice t len parts => match P.underlying t, evals st (parts.toList.map (·.2)) with
    | some (.slice e), some ys => match tsize P e, tzero P e, ownYs ys with
      | some sz, some z, some zs => if len * sz ≤ 16777216 ∧ 0 < sz ∧ z.length = sz ∧ zs.all (fun y => allOne y.cells) then
          match fillA (fun i => some (i * sz, sz)) (List.replicate len z).flatten ((parts.toList.map (·.1)).zip zs) with
          | some cells => if allDat cells then
              (if len = 0 then match dst with
                | some d => (st.new d (.row e sz [])).map fun L => (.row 0 d 0, L, st.S)
                | none => none
              else some (.lst e (chunk sz len cells), st.L, st.S)) else none
          | none => none
        else none
      | _, _, _ => none
    | _, _ => none
  | .makeInterface t x => match P.underlying t with
    | some (.interface _) => none
    | some _ => (st.eval x).map fun y => (match y.toVal with
      | some u => .v (.iface t u)
      | none => .ifc t y, st.L, st.S)
    | none => none
  | .extract x i => match st.eval x with
    | some (.tup vs) => (vs[i]?).map fun y => (y, st.L, st.S)
    | _ => none
  | .field t x i => match P.underlying t, st.eval x with
    | some (.struct fields), some (.agg cs) => match fields[i]? with
      | some f => (asTyped P f.type (cs.drop f.offset)).map fun y => (y, st.L, st.S)
      | none => none
    | _, _ => none
  | .slice t x lo hi none => match P.underlying t, st.eval x with
    | some (.slice e), some l => match elemsOf st e l, tsize P e with
      | some xs, some _ => match lo.map st.eval, hi.map st.eval with
        | some (some (.v (.int _ a))), some (some (.v (.int _ b))) => cond (decide (0 ≤ a) && decide (a ≤ b) && decide (b ≤ (xs.length : Int))) (some (.lst e ((xs.take b.toNat).drop a.toNat), st.L, st.S)) none
        | none, some (some (.v (.int _ b))) => cond (decide (0 ≤ b) && decide (b ≤ (xs.length : Int))) (some (.lst e (xs.take b.toNat), st.L, st.S)) none
        | some (some (.v (.int _ a))), none => cond (decide (0 ≤ a) && decide (a ≤ (xs.length : Int))) (some (.lst e (xs.drop a.toNat), st.L, st.S)) none
        | none, none => some (.lst e xs, st.L, st.S)
        | _, _ => none
      | _, _ => none
    | _, _ => none
  | .convert src dst' x => match P.underlying src, P.underlying dst', st.eval x with
    | some .string, some (.slice e), some (.v (.string s)) => match P.underlying e, tsize P e with
      | some (.int .u8), some 1 => some (.lst e (s.data.toList.map fun b => [.v (.int .u8 b.toNat)]), st.L, st.S)
      | _, _ => none
    | _, _, _ => none
  | .makeFunc (.func f) first caps => if first.size = 0 then (evals st caps.toList).map fun cs => (.clo f cs, st.L, st.S) else none
  | .call c => match c.callee, c.args.toList with
    | .builtin .len, [x] => match c.argTypes[0]?.bind P.underlying, st.eval x with
      | some (.slice e), some l => (elemsOf st e l).map fun xs => (.v (.int .i64 xs.length), st.L, st.S)
      | _, _ => none
    | .builtin .append, [x, y] => match c.argTypes.toList, c.argTypes[0]?.bind P.underlying, st.eval x, st.eval y with
      | [t, t'], some (.slice e), some l, some m => if t = t' then match tsize P e, (P.info? e).map (·.bytes), tzero P e, elemsOf st e m with
          | some sz, some by', some z, some ys => match ys with
            | [] => (elemsOf st e l).map fun _ => (l, st.L, st.S)
            | _ :: _ => if 0 < sz ∧ by' ≤ 1024 ∧ z.length = sz ∧ ys.all (fun cs => cs.length = sz && allDat cs) then
              match l with
              | .nils => match dst with
                | some d => if ys.length ≤ 1073741824 then (st.new d (.row e sz ys)).map fun L => (.row 0 d ys.length, L, st.S) else none
                | none => none
              | .row k s n => match sget (st.L :: st.S) k s with
                | some (.row e2 sz2 xs) => if e2 = e ∧ sz2 = sz ∧ n = xs.length then (if n + ys.length ≤ 1073741824 then match sset (st.L :: st.S) k s (.row e sz (xs ++ ys)) with
                  | L :: S => some (.row k s (n + ys.length), L, S)
                  | [] => none
                  else none) else none
                | _ => none
              | _ => none
              else none
          | _, _, _, _ => none
        else none
      | _, _, _, _ => none
    | _, _ => none
  | _ => none

/-- A plain operation's answer. -/
def ofNext (st : St) : Next → Option Res
  | .value x => some (ofVal x, st.L, st.S)
  | .skip => some (.v undef, st.L, st.S)
  | _ => none

/-- The call that an operation is: the function, what it is handed. -/
def calleeOf (st : St) (o : Oper) : Option (FuncId × List AV) :=
  match o.op with
  | .call c => match c.callee with
    | .value f => match st.eval f, evals st c.args.toList with
      | some (.v (.func (.func g) fs cs)), some ys => if fs.size = 0 ∧ cs.size = 0 then some (g, ys) else none
      | some (.clo g caps), some ys => some (g, ys ++ caps)
      | _, _ => none
    | .invoke _ _ => match st.plain P o with
      | some (.enter g args) => some (g, args.toList.map ofVal)
      | _ => none
    | .builtin _ => none
  | _ => none


/- snap: what a pointer points to, as it stands now. -/
mutual
def AV.snap (S : Stk) : AV → Option AV
  | .agg cs => (snaps S cs).map .agg
  | .tup cs => (snaps S cs).map .tup
  | .row k s n => match sget S k s with
    | some (.row e _ xs) => some (.lst e (xs.take n))
    | _ => none
  | .ptr k s off => match sget S k s with
    | some (.blk _ cs) => match frzs true S (ups k cs) with
      | some ds => if allDat ds then some (.ref (ds.drop off)) else none
      | none => none
    | _ => none
  | .clo f cs => (snaps S cs).map (.clo f)
  | .ifc t x => (x.snap S).map (.ifc t)
  | x => some x
def snaps (S : Stk) : List AV → Option (List AV)
  | [] => some []
  | x :: r => match x.snap S, snaps S r with
    | some y, some l => some (y :: l)
    | _, _ => none
end

/-- A plain answer. -/
def AV.sc : AV → Bool
  | .v _ => true
  | .nils => true
  | _ => false
def AV.scal : AV → Bool
  | .tup cs => cs.all AV.sc
  | .agg cs => cs.all AV.sc
  | x => x.sc

abbrev CallT := FuncId → List AV → Stk → Option (AV × Stk)

/-- A call: of what hangs on no store; of what only reads; any. -/
def evCallOp (call : CallT) (cl : Nat) (st : St) (g : FuncId) (ys : List AV) : Option Res :=
  if noStks ys then match call g ys [] with
    | some (r, _) => if r.noStk then some (r, st.L, st.S) else none
    | none => none
  else if cl = 0 then none
  else if C.snap g then match snaps (st.L :: st.S) ys with
    | some zs => match call g zs [] with
      | some (r, _) => if r.scal then some (r, st.L, st.S) else none
      | none => none
    | none => none
  else match (if C.keep g then some ys else frzs true (st.L :: st.S) ys) with
    | some zs => if noStks zs then match call g zs [] with
        | some (r, _) => if r.noStk then some (r, st.L, st.S) else none
        | none => none
      else if cl = 1 then none else match call g (ups 1 zs) (st.L :: st.S) with
        | some (r, L :: S) => some (r, L, S)
        | _ => none
    | none => none

/-- One operation. -/
def evOp (call : CallT) (cl : Nat) (st : St) (o : Oper) : Option Res :=
  match calleeOf P st o with
  | some (g, ys) => if C.ent g then evCallOp C call cl st g ys else match st.plain P o with
    | some nx => ofNext st nx
    | none => none
  | none => match evMem P st o.dst o.op with
    | some r => some r
    | none => if isNew o.op then none else match st.plain P o with
      | some nx => ofNext st nx
      | none => none

def St.put (N : Nat) (st : St) (dst : Option Tmp) (x : AV) : Option St := match dst with
  | none => some st
  | some d => if d < N then some { st with F := kset st.F d x } else none

/-- Is the operation wanted? none: that isn't known. -/
def wantedA (ops : Array Oper) (F : Fr) (o : Oper) : Option Bool := match o.guard with
  | none => some true
  | some (j, want) => match (ops[j]?).bind (·.dst) with
    | some d => match kget F d with
      | some (.v (.bool b)) => some (b == want)
      | some (.v (.tuple _)) => some false
      | _ => none
    | none => some false

def step1 (call : CallT) (N : Nat) (ops : Array Oper) (cl : Nat → Nat) (i : Nat) (st : St) : Option St :=
  match ops[i]? with
  | none => some st
  | some o => match wantedA ops st.F o with
    | some true => match evOp P C call (cl i) st o with
      | some (x, L, S) => St.put N { st with L := L, S := S } o.dst x
      | none => none
    | some false => st.put N o.dst (.v undef)
    | none => none

def evOps (call : CallT) (N : Nat) (ops : Array Oper) (cl : Nat → Nat) : List Nat → St → Option St
  | [], st => some st
  | i :: rest, st => match step1 P C call N ops cl i st with
    | some st' => evOps call N ops cl rest st'
    | none => none

/-! Regions that draw their order: what may stand in either order. -/
/-- 0: it hangs on no store; 1: it reads; 2: it writes; 3: it makes a new object; 4: no one knows. cl: what a call is. -/
def opCls (cl : Nat) (o : Oper) : Nat := match o.op with
  | .move _ | .assign _ | .pick .. | .nilCheck _ | .fieldAddr .. | .build .. | .makeInterface .. | .extract .. | .field .. | .convert .. | .binOp .. | .unOp .. | .typeAssert .. | .index .. => 0
  | .load .. | .indexAddr .. | .slice .. => 1
  | .call c => match c.callee with
    | .builtin .len => match c.argTypes[0]?.bind P.underlying with
      | some (.slice _) => 1
      | _ => 0
    | .builtin .min => 0
    | .builtin .max => 0
    | .builtin .append => 3
    | .builtin _ => 4
    | _ => cl
  | .buildSlice _ n _ => if n = 0 then 3 else 0
  | .alloc _ => 3
  | .box .. => 3
  | .store .. => 2
  | _ => 4
/-- The first of two may stand behind the second. -/
def isLoad : Op → Bool
  | .load .. => true
  | _ => false
def free2 (a b : Nat) (x y : Oper) : Bool := a = 0 || (b = 0 && decide (a ≤ 2)) || (a = 1 && b = 1) || (a = 1 && b = 3 && isLoad x.op && isNew y.op)
/-- Who must come ahead of whom, as bits. -/
def edgeBits (acc : List Nat) (b : Nat) : List Edge → Nat
  | [] => b
  | e :: r => edgeBits acc (if Region.binds .any e then b ||| (1 <<< e.on) ||| (acc.getD e.on 0) else b) r
def ancs (ops : List Oper) : List Nat → List Nat
  | acc => match ops with
    | [] => acc
    | o :: r => ancs r (acc ++ [edgeBits acc 0 o.after.toList])
/-- l names an order that a mode allows, whole. -/
def prefixOK (md : Region.Mode) (ops : Array Oper) : List Nat → List Nat → Bool
  | _, [] => true
  | pre, i :: r => (match ops[i]? with
    | some o => o.after.toList.all fun e => !Region.binds md e || pre.contains e.on
    | none => false) && prefixOK md ops (i :: pre) r
def complete (md : Region.Mode) (ops : Array Oper) (l : List Nat) : Bool := prefixOK md ops [] l && (List.range ops.size).all fun i => l.contains i
def drawOK (ops : Array Oper) (cl : Nat → Nat) : Bool :=
  let l := ops.toList.zipIdx
  let an := ancs ops.toList []
  (l.all fun (y, j) => l.all fun (x, i) => decide (j ≤ i) || ((!x.dst.isSome || x.dst != y.dst) && ((an.getD j 0).testBit i || (x.apart ops y && free2 (opCls P (cl i) x) (opCls P (cl j) y) x y)))) &&
  complete .any ops (List.range ops.size) && (!Region.departs ops || (complete .text ops (List.range ops.size) && complete .gc ops (Region.linearise .gc ops 0)))
/-- The slots that a region sets, forgotten. -/
def dropDst : List Oper → Fr → Fr
  | [], F => F
  | o :: r, F => match o.dst with
    | some d => kdel (dropDst r F) d
    | none => dropDst r F
def St.fresh (st : St) (ops : Array Oper) (draw : Bool) : St := if draw then { st with F := dropDst ops.toList st.F } else st

inductive Ex where
  | normal
  | exit (id : Nat)
  | ret

def locGc (F : Fr) (L0 : Loc) : Loc → Loc
  | [] => []
  | (s, o) :: r => if frSays s F || locSays s L0 then (s, o) :: locGc F L0 r else locGc F L0 r

def St.at (st : St) : Option (List Nat) → St
  | none => st
  | some ks => { st with F := kkeep ks st.F, L := locGc (kkeep ks st.F) st.L st.L }

/-- What a function hands back. -/
def oneResult (st : St) : ResultVar → Option AV
  | .tmp t => match kget st.F t with
    | some x => (x.frz false (st.L :: st.S)).bind fun y => y.down 1
    | none => none
  | .cell a t => match kget st.F a with
    | some (.ptr k s off) => match sget (st.L :: st.S) k s with
      | some (.blk _ cs) => (asTyped P t (cs.drop off)).bind fun x => ((x.up k).frz false (st.L :: st.S)).bind fun y => y.down 1
      | _ => none
    | _ => none
def resultsA (st : St) : List ResultVar → Option (List AV)
  | [] => some []
  | r :: rs => match oneResult P st r, resultsA st rs with
    | some x, some l => some (x :: l)
    | _, _ => none
def asOne : List AV → AV
  | [x] => x
  | l => .tup l

def params : Nat → List AV → Fr
  | _, [] => []
  | i, x :: r => (i, x) :: params (i + 1) r

/-- A call, the code's answer given. -/
def callWith (rec : FuncId → Nat → Code → St → Option (Ex × St)) : CallT := fun g args S =>
  match C.orc g args S with
  | some r => some r
  | none => match P.funcs[g]? with
    | some fn => match fn.body with
      | some c => if args.length ≤ fn.ntmps then match rec g fn.ntmps c { F := params 0 args, L := [], S := S } with
        | some (.exit _, _) => none
        | some (_, st) => (resultsA P st fn.results.toList).map fun l => (asOne l, st.S)
        | none => none
        else none
      | none => none
    | none => none

def evCode : Nat → FuncId → Nat → Code → St → Option (Ex × St)
  | 0, _, _, _, _ => none
  | k + 1, f, N, c, st => match c with
    | .skip => some (.normal, st)
    | .region id ops draw => if !draw || drawOK P ops (C.cls f id) then
        match evOps P C (callWith P C (evCode k)) N ops (fun i => if draw then C.cls f id i else 2) (List.range ops.size) ((st.at (C.live f id)).fresh ops draw) with
        | some st' => some (.normal, st')
        | none => none
      else none
    | .seq a b => match evCode k f N a st with
      | some (.normal, st') => evCode k f N b st'
      | r => r
    | .cond c a b => match st.eval c with
      | some (.v (.bool t)) => cond t (evCode k f N a st) (evCode k f N b st)
      | _ => none
    | .block id b => match evCode k f N b st with
      | some (.exit j, st') => if j = id then some (.normal, st') else some (.exit j, st')
      | r => r
    | .loop b => match evCode k f N b st with
      | some (.normal, st') => evCode k f N (.loop b) st'
      | r => r
    | .exit id => some (.exit id, st)
    | .ret => some (.ret, st)
    | _ => none

def evCall (k : Nat) : CallT := callWith P C (evCode P C k)

end
end Go.Proofs.YtffjdcbegohmiaaDoor.Ev
