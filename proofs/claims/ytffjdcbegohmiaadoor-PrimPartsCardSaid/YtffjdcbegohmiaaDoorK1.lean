/-
  The evaluator once more, told what comes next: its answers are trees of choices. Definitions alone.
-/
import Derived.Test.YtffjdcbegohmiaaDoorEv21
import Derived.Stop.Asserts
namespace Go.Proofs.YtffjdcbegohmiaaDoor.Ev
open Go

/-- What it is told besides: contracts (alternatives, each with its condition: the answer, the stores); how the elements of a list read; what loops come to (by the function and the loop's place in it). -/
structure Hint where
  orc : FuncId → List AV → Stk → Option (List (Bool × AV × Stk))
  rd : TypeId → List (List AV) → Nat → Option (Bool × List AV)
  lp : FuncId → List Nat → St → Option (List (Bool × Ex × St))

/-- The first alternative whose condition holds. -/
def firstOf {α : Type} : List (Bool × α) → Option α
  | [] => none
  | (b, x) :: r => cond b (some x) (firstOf r)
def firstK {α ρ : Type} (K : α → Option ρ) : List (Bool × α) → Option ρ
  | [] => none
  | (b, x) :: r => cond b (K x) (firstK K r)

def byteAt (s : ByteArray) (n : Nat) : Int := ((s.data.toList[n]?).getD 0).toNat
def cutS (s : ByteArray) (a b : Nat) : ByteArray := ⟨((s.data.toList.take b).drop a).toArray⟩
def catS (a b : ByteArray) : ByteArray := ⟨(a.data.toList ++ b.data.toList).toArray⟩
def eqL : List UInt8 → List UInt8 → Bool
  | [], [] => true
  | a :: x, b :: y => Nat.beq a.toNat b.toNat && eqL x y
  | _, _ => false
def eqS (a b : ByteArray) : Bool := eqL a.data.toList b.data.toList

/-- A code's part. -/
def Code.child : Code → Nat → Option Code
  | .seq a _, 0 => some a
  | .seq _ b, 1 => some b
  | .cond _ a _, 0 => some a
  | .cond _ _ b, 1 => some b
  | .block _ b, 0 => some b
  | .loop b, 0 => some b
  | _, _ => none
def Code.part (c : Code) : List Nat → Option Code
  | [] => some c
  | i :: p => (Code.part c p).bind fun d => Code.child d i

/-- A key's first entry, written anew. -/
def krep {α : Type} : List (Nat × α) → Nat → α → List (Nat × α)
  | [], _, _ => []
  | (t, y) :: r, s, x => if s = t then (t, x) :: r else (t, y) :: krep r s x
/-- A truth value that is known by now. -/
def St.know (st : St) (d : Nat) (b : Bool) : St := { st with F := krep st.F d (.v (.bool b)) }
def St.knowOp (st : St) (c : Operand) (b : Bool) : St := match c with
  | .tmp d => st.know d b
  | _ => st

section
variable (P : Program) (C : Cfg) (H : Hint) {ρ : Type}

def bnd (st : St) (d : Int) : Option Operand → Option Int
  | none => some d
  | some y => match st.eval y with
    | some (.v (.int _ a)) => some a
    | _ => none

/-- Operations with a condition. -/
def evSpec (st : St) (o : Oper) : Option (Bool × Res) := match o.op with
  | .indexAddr t x y => match P.underlying t, st.eval x, st.eval y with
    | some (.slice e), some l, some (.v (.int _ i)) => match elemsOf st e l with
      | some xs => match H.rd e xs i.toNat with
        | some (b, cs) => some (decide (0 ≤ i) && b, .ref cs, st.L, st.S)
        | none => none
      | none => none
    | _, _, _ => none
  | .index t x y => match P.underlying t, st.eval x, st.eval y with
    | some .string, some (.v (.string s)), some (.v (.int _ i)) => some (decide (0 ≤ i) && decide (i < (s.data.toList.length : Int)), .v (.int .u8 (byteAt s i.toNat)), st.L, st.S)
    | _, _, _ => none
  | .slice t x lo hi none => match P.underlying t, st.eval x with
    | some .string, some (.v (.string s)) => match bnd st 0 lo, bnd st (s.data.toList.length : Int) hi with
      | some a, some b => some (decide (0 ≤ a) && (decide (a ≤ b) && decide (b ≤ (s.data.toList.length : Int))), .v (.string (cutS s a.toNat b.toNat)), st.L, st.S)
      | _, _ => none
    | some (.slice e), some l => match elemsOf st e l, tsize P e with
      | some xs, some _ => match bnd st 0 lo, bnd st (xs.length : Int) hi with
        | some a, some b => some (decide (0 ≤ a) && (decide (a ≤ b) && decide (b ≤ (xs.length : Int))), .lst e ((xs.take b.toNat).drop a.toNat), st.L, st.S)
        | _, _ => none
      | _, _ => none
    | _, _ => none
  | .binOp op _ x y _ => match st.eval x, st.eval y with
    | some (.v (.string a)), some (.v (.string b)) => match op with
      | .add => some (decide ((a.data.toList.length + b.data.toList.length : Int) ≤ 9223372036854775807), .v (.string (catS a b)), st.L, st.S)
      | .eql => some (true, .v (.bool (eqS a b)), st.L, st.S)
      | .neq => some (true, .v (.bool (!eqS a b)), st.L, st.S)
      | _ => none
    | some (.v (.int k a)), some (.v (.int k' b)) => match op with
      | .quo => some (decide (k = k') && decide (b ≠ 0), .v (.int k (k.wrap (a.tdiv b))), st.L, st.S)
      | .rem => some (decide (k = k') && decide (b ≠ 0), .v (.int k (a.tmod b)), st.L, st.S)
      | _ => none
    | _, _ => none
  | .typeAssert x _ t true => match P.underlying t, st.eval x with
    | some (.interface want), some (.v (.iface d v)) => match P.info? d, P.info? t with
      | some i, some j => if (lacking want i.methods).isEmpty then some (true, ofVal (.tuple #[.iface d v, .bool true]), st.L, st.S) else match j.zero with
        | some z => some (true, ofVal (.tuple #[z, .bool false]), st.L, st.S)
        | none => none
      | _, _ => none
    | _, _ => none
  | .call c => match c.callee, c.args.toList with
    | .builtin .append, [x, y] => match c.argTypes.toList, c.argTypes[0]?.bind P.underlying, st.eval x, st.eval y with
      | [t, t'], some (.slice e), some (.row k s n), some m => if t = t' then match tsize P e, (P.info? e).map (·.bytes), tzero P e, elemsOf st e m, sget (st.L :: st.S) k s with
          | some sz, some by', some z, some (y0 :: ys), some (.row e2 sz2 xs) =>
              if 0 < sz ∧ by' ≤ 1024 ∧ z.length = sz ∧ (y0 :: ys).all (fun cs => cs.length = sz && allDat cs) ∧ e2 = e ∧ sz2 = sz then
                match sset (st.L :: st.S) k s (.row e sz (xs ++ y0 :: ys)) with
                | L :: S => some (decide (n = xs.length) && decide (n + (y0 :: ys).length ≤ 1073741824), .row k s (n + (y0 :: ys).length), L, S)
                | [] => none
              else none
          | _, _, _, _, _ => none
        else none
      | _, _, _, _ => none
    | _, _ => none
  | _ => none

abbrev CallKT (ρ : Type) := FuncId → List AV → Stk → (AV → Stk → Option ρ) → Option ρ

def evCallOpK (call : CallKT ρ) (cl : Nat) (st : St) (g : FuncId) (ys : List AV) (K : Res → Option ρ) : Option ρ :=
  if noStks ys then call g ys [] fun r _ => if r.noStk then K (r, st.L, st.S) else none
  else if cl = 0 then none
  else if C.snap g then match snaps (st.L :: st.S) ys with
    | some zs => call g zs [] fun r _ => if r.scal then K (r, st.L, st.S) else none
    | none => none
  else match (if C.keep g then some ys else frzs true (st.L :: st.S) ys) with
    | some zs => if noStks zs then call g zs [] fun r _ => if r.noStk then K (r, st.L, st.S) else none
      else if cl = 1 then none else call g (ups 1 zs) (st.L :: st.S) fun r S' => match S' with
        | L :: S => K (r, L, S)
        | [] => none
    | none => none

def evOpK (call : CallKT ρ) (cl : Nat) (st : St) (o : Oper) (K : Res → Option ρ) : Option ρ :=
  match calleeOf P st o with
  | some (g, ys) => if C.ent g then evCallOpK C call cl st g ys K else match st.plain P o with
    | some nx => match ofNext st nx with
      | some r => K r
      | none => none
    | none => none
  | none => match o.op with
    | .pick c a b => match st.eval c, st.eval a, st.eval b with
      | some (.v (.bool t)), some x, some y => cond t (K (x, st.L, st.S)) (K (y, st.L, st.S))
      | _, _, _ => none
    | _ => match evSpec P H st o with
      | some (b, r) => cond b (K r) none
      | none => match evMem P st o.dst o.op with
        | some r => K r
        | none => if isNew o.op then none else match st.plain P o with
          | some nx => match ofNext st nx with
            | some r => K r
            | none => none
          | none => none

def doOpK (call : CallKT ρ) (N : Nat) (cl : Nat) (o : Oper) (K : St → Option ρ) (st : St) : Option ρ :=
  evOpK P C H call cl st o fun r => match St.put N { st with L := r.2.1, S := r.2.2 } o.dst r.1 with
    | some st' => K st'
    | none => none
def noOpK (N : Nat) (o : Oper) (K : St → Option ρ) (st : St) : Option ρ := match st.put N o.dst (.v undef) with
  | some st' => K st'
  | none => none
def step1K (call : CallKT ρ) (N : Nat) (ops : Array Oper) (cl : Nat → Nat) (i : Nat) (st : St) (K : St → Option ρ) : Option ρ :=
  match ops[i]? with
  | none => K st
  | some o => match o.guard with
    | none => doOpK P C H call N (cl i) o K st
    | some (j, want) => match (ops[j]?).bind (·.dst) with
      | none => noOpK N o K st
      | some d => match kget st.F d with
        | some (.v (.bool b)) => cond b (cond want (doOpK P C H call N (cl i) o K (st.know d true)) (noOpK N o K (st.know d true))) (cond want (noOpK N o K (st.know d false)) (doOpK P C H call N (cl i) o K (st.know d false)))
        | some (.v (.tuple _)) => noOpK N o K st
        | _ => none

def evOpsK (call : CallKT ρ) (N : Nat) (ops : Array Oper) (cl : Nat → Nat) : List Nat → St → (St → Option ρ) → Option ρ
  | [], st, K => K st
  | i :: rest, st, K => step1K P C H call N ops cl i st fun st' => evOpsK call N ops cl rest st' K

def callK (rec : FuncId → List Nat → Nat → Code → St → (Ex → St → Option ρ) → Option ρ) : CallKT ρ := fun g args S K =>
  match H.orc g args S with
  | some l => firstK (fun x => K x.1 x.2) l
  | none => match P.funcs[g]? with
    | some fn => match fn.body with
      | some c => if args.length ≤ fn.ntmps then rec g [] fn.ntmps c { F := params 0 args, L := [], S := S } fun ex st => match ex with
          | .exit _ => none
          | _ => match resultsA P st fn.results.toList with
            | some l => K (asOne l) st.S
            | none => none
        else none
      | none => none
    | none => none

def evCodeK : Nat → FuncId → List Nat → Nat → Code → St → (Ex → St → Option ρ) → Option ρ
  | 0, _, _, _, _, _, _ => none
  | k + 1, f, p, N, c, st, K => match c with
    | .skip => K .normal st
    | .region id ops draw => if !draw || drawOK P ops (C.cls f id) then
        evOpsK P C H (callK P H (evCodeK k)) N ops (fun i => if draw then C.cls f id i else 2) (List.range ops.size) ((st.at (C.live f id)).fresh ops draw) fun st' => K .normal st'
      else none
    | .seq a b => evCodeK k f (0 :: p) N a st fun ex st' => match ex with
      | .normal => evCodeK k f (1 :: p) N b st' K
      | e => K e st'
    | .cond c a b => match st.eval c with
      | some (.v (.bool t)) => cond t (evCodeK k f (0 :: p) N a (st.knowOp c true) K) (evCodeK k f (1 :: p) N b (st.knowOp c false) K)
      | _ => none
    | .block id b => evCodeK k f (0 :: p) N b st fun ex st' => match ex with
      | .exit j => if j = id then K .normal st' else K (.exit j) st'
      | e => K e st'
    | .loop b => match H.lp f p st with
      | some l => firstK (fun x => K x.1 x.2) l
      | none => evCodeK k f (0 :: p) N b st fun ex st' => match ex with
        | .normal => evCodeK k f p N (.loop b) st' K
        | e => K e st'
    | .exit id => K (.exit id) st
    | .ret => K .ret st
    | _ => none

def evCallK (k : Nat) : CallKT ρ := callK P H (evCodeK P C H k)

end
end Go.Proofs.YtffjdcbegohmiaaDoor.Ev
