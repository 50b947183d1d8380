/- An interpreter over the model's Code and World with a partial environment: the layer 'Sh'. No condition. -/
import Derived.Calls
import Derived.LoopN
import Derived.Orders
import Derived.Laws.World
import Derived.Still
import Derived.StillTail
import Derived.Tactics
import Derived.Laws.Sem
import Derived.Scope
import Derived.Below
import Derived.Laws.AppendOwn
import Derived.Laws.MakeOwn
import Derived.Laws.Slices
import Derived.Laws.OwnMore
import Derived.Laws.BytesString
import Derived.Laws.CopyRow
import Derived.SizedLaws
import Derived.ChangeSlices
namespace Go.Sh

/-- looks into the environment: a bind that the kernel takes apart first -/
abbrev _root_.Option.ebind {α β : Type} (x : Option α) (f : α → Option β) : Option β := match x with | some a => f a | none => none
theorem _root_.Option.ebind_eq {α β : Type} (x : Option α) (f : α → Option β) : x.ebind f = x.bind f := by cases x <;> rfl
/-! ### environments -/
abbrev Env := Nat → Option Value
def Env.nil : Env := fun _ => none
def Env.set (e : Env) (d : Nat) (v : Value) : Env := fun i => bif Nat.beq i d then some v else e i
def Env.put (e : Env) (d : Option Nat) (v : Value) : Env := match d with | some d => e.set d v | none => e
def Env.drop (lo hi : Nat) (e : Env) : Env := fun i => bif Nat.ble lo i && Nat.ble i hi then none else e i
def ev (e : Env) : Operand → Option Value
  | .tmp t => e t
  | .const v => some v
  | .global g => some (.pointer (some ⟨g, 0, none⟩))
  | .func f => some (.func (.func f) #[] #[])
def evs (e : Env) : List Operand → Option (List Value)
  | [] => some []
  | x :: r => (ev e x).bind fun v => (evs e r).bind fun vs => some (v :: vs)
def gets (e : Env) : List Nat → Option (List Value)
  | [] => some []
  | t :: r => (e t).bind fun v => (gets e r).bind fun vs => some (v :: vs)
def nth : List Value → Nat → Value
  | [], _ => undef
  | v :: _, 0 => v
  | _ :: r, i + 1 => nth r i
def ofList (i : Nat) : List Nat → List Value → Env
  | [], _ => Env.nil
  | t :: r, vs => (ofList (i + 1) r vs).set t (nth vs i)

/-! ### results -/
inductive Res where
  | norm (vs : List Value) (w : World)
  | exit (id : Nat) (vs : List Value) (w : World)
  | ret (vs : List Value) (w : World)
def Res.cont (r : Res) (k : List Value → World → Option Res) : Option Res := match r with
  | .norm vs w => k vs w
  | .exit i vs w => some (.exit i vs w)
  | .ret vs w => some (.ret vs w)
def Res.unblock (id : Nat) : Res → Res
  | .exit i vs w => if i = id then .norm vs w else .exit i vs w
  | r => r

/-! ### operations -/
def asB : Value → Option Bool
  | .bool b => some b
  | _ => none
/-- a run that neither reads nor writes memory -/
def prun {α : Type} (P : Program) : Sem α → Option α
  | .pure a => some a
  | .program k => prun P (k P)
  | .mark _ k => prun P k
  | _ => none
/-- a run that only reads memory -/
def rrun {α : Type} (P : Program) : Sem α → World → Option α
  | .pure a, _ => some a
  | .program k, w => rrun P (k P) w
  | .mark _ k, w => rrun P k w
  | .load _ a k, w => match w.cell? a with
    | some v => rrun P (k v) w
    | none => none
  | .shape r k, w => rrun P (k (w.shape? r)) w
  | .frozen a k, w => rrun P (k (w.frozen? a)) w
  | .getObj r k, w => match w.heap[r]? with
    | some (.cells ..) => none
    | some o => rrun P (k o) w
    | none => none
  | _, _ => none
def erun {α : Type} (P : Program) (s : Sem α) (w : World) : Option (α × World) :=
  match s.run P w with
  | .ok a w' => some (a, w')
  | .halt _ _ => none

def bin (op : BinOp) : Value → Value → Option Value
  | .int k a, .int k' b => if k = k' then match op with
      | .add => some (.int k (k.wrap (a + b)))
      | .sub => some (.int k (k.wrap (a - b)))
      | .mul => some (.int k (k.wrap (a * b)))
      | .quo => if b = 0 then none else some (.int k (k.wrap (a.tdiv b)))
      | .rem => if b = 0 then none else some (.int k (a.tmod b))
      | .eql => some (.bool (a == b))
      | .neq => some (.bool (a != b))
      | .lss => some (.bool (a < b))
      | .leq => some (.bool (a ≤ b))
      | .gtr => some (.bool (a > b))
      | .geq => some (.bool (a ≥ b))
      | _ => none
    else none
  | _, _ => none
def pickV (c a b : Value) : Option Value := match c with
  | .bool true => some a
  | .bool false => some b
  | _ => none

def nilV (P : Program) : Value → Option Value
  | .pointer (some p) => some (.pointer (some p))
  | .func (.method name) first captured => match (first[0]? : Option Value) with
    | some (.iface t u) => match prun P (nilAhead (P.types.size + Made.depth) t u name) with
      | some (some false) => some (.func (.method name) first captured)
      | _ => none
    | _ => none
  | _ => none

/-- a function of the library that the model stands in for -/
def bodyless (P : Program) (f : FuncId) : Bool := match P.funcs[f]? with
  | some fn => fn.body.isNone
  | none => false
def xrun (P : Program) (s : Sem Next) (w : World) : Option (Value × World) := match s.run P w with
  | .ok (.value v) w' => some (v, w')
  | _ => none
/-- what a call answers -/
abbrev CallF := FuncId → Array Value → World → Option (Value × World)

def arith : BinOp → Bool
  | .shl | .shr | .and | .or | .xor | .andNot => false
  | _ => true
def isIntT (P : Program) (t : TypeId) : Bool := match P.underlying t with
  | some (.int _) => true
  | _ => false

def scalarT (P : Program) (t : TypeId) : Bool := match P.underlying t with
  | some (.int _) | some .bool | some .string => true
  | _ => false
def convReads (P : Program) (s d : TypeId) : Bool := match P.underlying s, P.underlying d with
  | some (.slice _), some .string => true
  | _, _ => false
def convPure (P : Program) (s d : TypeId) : Bool := match P.underlying s, P.underlying d with
  | some (.int _), some (.int _) => true
  | some .string, some .string => true
  | _, _ => false
def lenPure (P : Program) (ts : Array TypeId) : Bool := match (ts[0]?).bind P.underlying with
  | some (.slice _) | some .string | some (.array _ _) | some (.pointer _) => true
  | _ => false

section
variable (P : Program) (call : CallF)

def callV (v : Value) (args : List Value) (w : World) : Option (Value × World) := match v with
  | .func (.func f) first cap => call f (first ++ args.toArray ++ cap) w
  | _ => none

def imethod (v : Value) (name : String) (w : World) : Option (FuncId × Value) := match v with
  | .iface t x => rrun P (method (P.types.size + Made.depth) t x name) w
  | _ => none

/-- one operation that is wanted -/
def aOp {ρ : Type} (o : Oper) (e : Env) (w : World) (next : Value → World → Option ρ) : Option ρ :=
  match o.op with
  | .move x | .assign x => (ev e x).ebind fun v => next v w
  | .pick c a b => (ev e c).ebind fun c => (ev e a).ebind fun a => (ev e b).ebind fun b => (pickV c a b).bind fun v => next v w
  | .binOp op t x y _ => (ev e x).ebind fun a => (ev e y).ebind fun b =>
      if (isIntT P t && arith op) = true then (bin op a b).bind fun v => next v w
      else if scalarT P t = true then (prun P (do eqGuard op t x y a b; binOp op t a b)).bind fun v => next v w
      else (rrun P (do eqGuard op t x y a b; binOp op t a b) w).bind fun v => next v w
  | .unOp op _ x => (ev e x).ebind fun a => (prun P (Op.unary op a)).bind fun v => next v w
  | .convert s d x => (ev e x).ebind fun a => if convPure P s d = true then (prun P (convert s d a)).bind fun v => next v w else if convReads P s d = true then (rrun P (convert s d a) w).bind fun v => next v w else (erun P (convert s d a) w).bind fun r => next r.1 r.2
  | .fieldAddr s x f => (ev e x).ebind fun a => (prun P (Instr.fieldAt s a f)).bind fun v => next v w
  | .field t x f => (ev e x).ebind fun a => (prun P (Instr.field t a f)).bind fun v => next v w
  | .indexAddr t x i => (ev e x).ebind fun a => (ev e i).ebind fun i => (prun P (Instr.indexAt t a i)).bind fun v => next v w
  | .index t x i => (ev e x).ebind fun a => (ev e i).ebind fun i => (prun P (Instr.index t a i)).bind fun v => next v w
  | .nilCheck x => (ev e x).ebind fun a => (nilV P a).bind fun v => next v w
  | .slice t x lo hi mx => (ev e x).ebind fun a => (evs e lo.toList).ebind fun lo => (evs e hi.toList).ebind fun hi => (evs e mx.toList).ebind fun mx =>
      (prun P (Instr.sliceAt t a lo.head? hi.head? mx.head?)).bind fun v => next v w
  | .extract x i => (ev e x).ebind fun a => (prun P (Instr.extract a i)).bind fun v => next v w
  | .build t ps => (evs e (ps.toList.map (·.2))).ebind fun vs => (prun P (Instr.build t ((ps.toList.map (·.1)).zip vs).toArray)).bind fun v => next v w
  | .makeInterface t x => (ev e x).ebind fun a => (prun P (Instr.makeInterface t a)).bind fun v => next v w
  | .makeFunc fn first cap => (evs e first.toList).ebind fun a => (evs e cap.toList).ebind fun b => next (.func fn a.toArray b.toArray) w
  | .typeAssert x t u ok => (ev e x).ebind fun a => (prun P (Instr.typeAssert a t u ok)).bind fun v => next v w
  | .load t x => (ev e x).ebind fun a => (rrun P (Instr.loadAt t a) w).bind fun v => next v w
  | .store t x y => (ev e x).ebind fun a => (ev e y).ebind fun b => (erun P (Instr.storeAt t a b) w).bind fun r => next undef r.2
  | .alloc t => (erun P (Instr.alloc t true (.tuple #[])) w).bind fun r => next r.1 r.2
  | .box t x => (ev e x).ebind fun a => (erun P (Instr.box t a) w).bind fun r => next r.1 r.2
  | .buildSlice t n ps => (evs e (ps.toList.map (·.2))).ebind fun vs => (erun P (Instr.buildSlice t n ((ps.toList.map (·.1)).zip vs).toArray) w).bind fun r => next r.1 r.2
  | .makeSlice t l c => (ev e l).ebind fun l => (ev e c).ebind fun c => (erun P (Instr.makeSlice t l c) w).bind fun r => next r.1 r.2
  | .range t x => (ev e x).ebind fun a => (erun P (Instr.range t a) w).bind fun r => next r.1 r.2
  | .next it s => (ev e it).ebind fun a => (erun P (Instr.next a s o.type) w).bind fun r => next r.1 r.2
  | .makeMap t r => (evs e r.toList).ebind fun r => (erun P (Instr.makeMap t r.head?) w).bind fun r => next r.1 r.2
  | .lookup t x i ok => (ev e x).ebind fun a => (ev e i).ebind fun i => (rrun P (Instr.lookup t a i ok) w).bind fun v => next v w
  | .mapUpdate t m k x => (ev e m).ebind fun m => (ev e k).ebind fun k => (ev e x).ebind fun x => (erun P (Instr.mapUpdate t m k x) w).bind fun r => next undef r.2
  | .call c => match c.callee with
    | .builtin .len => (evs e c.args.toList).ebind fun vs => if lenPure P c.argTypes = true then (prun P (Builtin.len_ c.argTypes o.type vs.toArray)).bind fun v => next v w
        else (rrun P (Builtin.len_ c.argTypes o.type vs.toArray) w).bind fun v => next v w
    | .builtin .cap => (evs e c.args.toList).ebind fun vs => if lenPure P c.argTypes = true then (prun P (Builtin.cap_ c.argTypes o.type vs.toArray)).bind fun v => next v w
        else (rrun P (Builtin.cap_ c.argTypes o.type vs.toArray) w).bind fun v => next v w
    | .builtin .min => (evs e c.args.toList).ebind fun vs => (prun P (Builtin.min_ c.argTypes o.type vs.toArray)).bind fun v => next v w
    | .builtin .max => (evs e c.args.toList).ebind fun vs => (prun P (Builtin.max_ c.argTypes o.type vs.toArray)).bind fun v => next v w
    | .builtin .append => (evs e c.args.toList).ebind fun vs => (erun P (Builtin.append_ c.argTypes o.type vs.toArray) w).bind fun r => next r.1 r.2
    | .builtin .copy => (evs e c.args.toList).ebind fun vs => (erun P (Builtin.copy_ c.argTypes o.type vs.toArray) w).bind fun r => next r.1 r.2
    | .builtin .delete => (evs e c.args.toList).ebind fun vs => (erun P (Builtin.delete_ c.argTypes o.type vs.toArray) w).bind fun r => next r.1 r.2
    | .builtin .unsafeString => (evs e c.args.toList).ebind fun vs => (erun P (Builtin.unsafeString_ c.argTypes o.type vs.toArray) w).bind fun r => next r.1 r.2
    | .builtin _ => none
    | .invoke rc name => (ev e rc).ebind fun rc => (evs e c.args.toList).ebind fun vs => (imethod P rc name w).bind fun m => (call m.1 (m.2 :: vs).toArray w).bind fun r => next r.1 r.2
    | .value (.func f) => (evs e c.args.toList).ebind fun vs => (bif bodyless P f then xrun P (callFunc f vs.toArray) w else call f vs.toArray w).bind fun r => next r.1 r.2
    | .value x => (ev e x).ebind fun x => (evs e c.args.toList).ebind fun vs => (callV call x vs w).bind fun r => next r.1 r.2
  | _ => none

/-- how many operations, from the one at index i on, hang on the guard at j -/
def grpLen (i j : Nat) (want : Bool) : List Oper → Nat
  | [] => 0
  | o :: r => match o.guard with
    | some (g, b) => if (g = j ∧ b = want) ∨ i ≤ g then grpLen i j want r + 1 else 0
    | none => 0

def dstOf (all : List Oper) (j : Nat) : Option Nat := (all[j]?).bind (·.dst)
def loDst : List Oper → Nat → Nat
  | [], n => n
  | o :: r, n => loDst r (match o.dst with | some d => min d n | none => n)
def hiDst : List Oper → Nat → Nat
  | [], n => n
  | o :: r, n => hiDst r (match o.dst with | some d => max d n | none => n)
def inStrip (j : Nat) (want : Bool) : List (Nat × Bool) → Bool
  | [] => false
  | (g, b) :: r => (Nat.beq g j && (b == want)) || inStrip j want r

def guardIn (p : Oper) (strip : List (Nat × Bool)) : Bool := match p.guard with
  | none => true
  | some (g, b) => inStrip g b strip
/-- operations in the text's order: those under a guard together with the 'pick' behind them -/
def aOps (all : List Oper) : {ρ : Type} → Nat → (i : Nat) → (ops : List Oper) → (strip : List (Nat × Bool)) → Env → World → (Env → World → Option ρ) → Option ρ
  | _, 0, _, _, _, _, _, _ => none
  | _, _ + 1, _, [], _, e, w, k => k e w
  | _, n + 1, i, o :: rest, strip, e, w, k =>
    let plain := aOp P call o e w fun v w => aOps all n (i + 1) rest strip (e.put o.dst v) w k
    match o.guard with
    | none => plain
    | some (j, want) =>
      if inStrip j want strip = true then plain else
      let m := grpLen i j want (o :: rest)
      match (o :: rest).drop m with
      | p :: rest' =>
        match p.op, dstOf all j, p.dst with
        | .pick (.tmp c) x y, some d, some pd =>
          if c = d ∧ guardIn p strip = true then
            (e d).ebind fun bv => (asB bv).bind fun b =>
            (if b = want then aOps all n i ((o :: rest).take m) ((j, want) :: strip) e w fun e' w' => (ev e' (if want then x else y)).ebind fun v => some (v, w')
             else (ev (e.drop (loDst ((o :: rest).take m) pd) (hiDst ((o :: rest).take m) pd)) (if want then y else x)).bind fun v => some (v, w)).bind fun r => aOps all n (i + m + 1) rest' strip ((e.drop (loDst ((o :: rest).take m) pd) (hiDst ((o :: rest).take m) pd)).set pd r.1) r.2 k
          else none
        | _, _, _ => none
      | [] => none

end

/-! ### checks of a region, by its text -/
def quietOp (P : Program) : Op → Bool
  | .move _ | .assign _ | .pick .. | .binOp .. | .unOp .. | .fieldAddr .. | .field .. | .indexAddr .. | .index .. | .nilCheck _ | .slice ..
  | .extract .. | .build .. | .makeInterface .. | .makeFunc .. | .typeAssert .. | .load .. | .lookup .. => true
  | .convert s d _ => convReads P s d || convPure P s d
  | .call { callee := .builtin .len, .. } | .call { callee := .builtin .cap, .. } | .call { callee := .builtin .min, .. } | .call { callee := .builtin .max, .. } => true
  | _ => false
/-- each slot lies in the frame; a guard stands ahead of what hangs on it, and its slot is written by nothing else -/
def regionOk (nt : Nat) (ops : List Oper) : Bool :=
  ops.zipIdx.all fun (o, i) =>
    (match o.dst with | some d => Nat.blt d nt | none => true) &&
    (match o.guard with
     | none => true
     | some (j, _) => Nat.blt j i && (match dstOf ops j with
       | some d => ops.zipIdx.all fun (q, n) => Nat.beq n j || q.dst != some d
       | none => false))
/-- which of the ways serves a region that draws: all of it quiet; all but its tail from n on -/
def tailFrom (P : Program) (ops : List Oper) : Nat := (ops.takeWhile fun o => quietOp P o.op).length
def drawOk (P : Program) (ops : List Oper) : Bool :=
  (ops.all (fun o => quietOp P o.op) && Region.lexB .any ops.toArray) || Region.lexTailB .any ops.toArray (tailFrom P ops)

/-! ### a region that draws and holds calls or stores: the text's order, and what else may be asked when -/
def ancMask (acc : List Nat) (o : Oper) : Nat :=
  o.after.toList.foldl (fun s e => if Region.binds .any e = true then s ||| 2 ^ e.on ||| acc.getD e.on 0 else s) 0
def ancsFrom (acc : List Nat) : List Oper → List Nat
  | [] => acc
  | o :: r => ancsFrom (acc ++ [ancMask acc o]) r
def ancs (ops : List Oper) : List Nat := ancsFrom [] ops
/-- the slots that an operation looks at -/
def looks (ops : List Oper) (o : Oper) : List Nat :=
  (o.op.operands.toList.filterMap fun | .tmp t => some t | _ => none) ++ (match o.guard with
    | some (g, _) => (dstOf ops g).toList
    | none => [])
/-- operations whose value hangs on their operands alone -/
def pureOp (P : Program) : Op → Bool
  | .move _ | .assign _ | .pick .. | .unOp .. | .fieldAddr .. | .field .. | .indexAddr .. | .index .. | .nilCheck _ | .slice ..
  | .extract .. | .build .. | .makeInterface .. | .makeFunc .. | .typeAssert .. => true
  | .binOp _ t _ _ _ => scalarT P t
  | .convert s d _ => convPure P s d
  | .call { callee := .builtin .len, argTypes, .. } | .call { callee := .builtin .cap, argTypes, .. } => lenPure P argTypes
  | .call { callee := .builtin .min, .. } | .call { callee := .builtin .max, .. } => true
  | _ => false
def flatOk (P : Program) (ops : List Oper) : Bool :=
  let A := ancs ops
  Region.noSelect ops.toArray &&
  ops.zipIdx.all fun (o, i) =>
    o.after.toList.all (fun e => !Region.binds .any e || Nat.blt e.on i) &&
    ops.zipIdx.all fun (q, j) =>
      (Nat.beq i j || quietOp P o.op || quietOp P q.op || (A.getD i 0).testBit j || (A.getD j 0).testBit i) &&
      (match q.dst with
       | some d => (Nat.beq i j || o.dst != some d) && (!(looks ops o).contains d || Nat.beq i j || (A.getD i 0).testBit j || (A.getD j 0).testBit i)
       | none => true)
/-- pairs of an operation that reads, and one that may change what it reads, in no order -/
def loose (P : Program) (ops : List Oper) : List (Nat × Nat) :=
  let A := ancs ops
  ops.zipIdx.flatMap fun (o, i) => if (quietOp P o.op && !pureOp P o.op) = true then
      ops.zipIdx.filterMap fun (q, j) => if (quietOp P q.op || (A.getD i 0).testBit j || (A.getD j 0).testBit i) = true then none else some (i, j)
    else []
structure LogE where
  before : World
  after : World
  chk : World → Prop
def wantedV (want : Bool) : Value → Bool
  | .bool b => b == want
  | _ => false
def guardV (all : List Oper) (o : Oper) (e : Env) : Option Bool := match o.guard with
  | none => some true
  | some (j, want) => (dstOf all j).bind fun d => (e d).ebind fun v => some (wantedV want v)
def chkAll (log : List LogE) : List (Nat × Nat) → Prop
  | [] => True
  | (r, m) :: rest => (match log[r]?, log[m]? with
    | some x, some y => x.chk y.before ∧ x.chk y.after
    | _, _ => False) ∧ chkAll log rest
open Classical in
noncomputable def chkThen {ρ : Type} (c : Prop) (x : Option ρ) : Option ρ := if c then x else none
section
variable (P : Program) (call : CallF)
noncomputable def aFlat {ρ : Type} (all : List Oper) : List Oper → Env → World → List LogE → (Env → World → List LogE → Option ρ) → Option ρ
  | [], e, w, log, k => k e w log
  | o :: rest, e, w, log, k => (guardV all o e).bind fun g =>
      (if g = true then aOp P call o e w fun v w' => some (v, w') else some (undef, w)).bind fun r =>
      aFlat all rest (e.put o.dst r.1) r.2 (log ++ [⟨w, r.2, fun W => if g = true then (aOp P call o e W fun v _ => some v) = some r.1 else True⟩]) k
end

/-! ### code -/
inductive Ann where
  | z
  | s (a b : Ann)
  | c (a b : Ann)
  | j (K : List Nat) (a b : Ann)
  | b (K : List Nat) (a : Ann)
  | l (K : List Nat) (a : Ann)

inductive Rounds (f : List Value → World → Option Res) : List Value → World → Res → Prop where
  | more {vs : List Value} {w : World} {vs' : List Value} {w' : World} {r : Res} (h : f vs w = some (.norm vs' w')) (h' : Rounds f vs' w' r) : Rounds f vs w r
  | exit {vs : List Value} {w : World} {id : Nat} {vs' : List Value} {w' : World} (h : f vs w = some (.exit id vs' w')) : Rounds f vs w (.exit id vs' w')
  | ret {vs : List Value} {w : World} {vs' : List Value} {w' : World} (h : f vs w = some (.ret vs' w')) : Rounds f vs w (.ret vs' w')
open Classical in
/-- a body, again and again, till it leaves -/
noncomputable def iter (f : List Value → World → Option Res) (vs : List Value) (w : World) : Option Res :=
  if h : ∃ r, Rounds f vs w r then some (Classical.choose h) else none

abbrev Ctx := List (Nat × List Nat)
def Ctx.keep (c : Ctx) (id : Nat) : Option (List Nat) := match c with
  | [] => none
  | (i, K) :: r => if i = id then some K else Ctx.keep r id

section
variable (P : Program) (call : CallF) (rs : List Nat) (nt : Nat)

noncomputable def aCode : Code → Ann → Ctx → Env → World → (Env → World → Option Res) → Option Res
  | .skip, _, _, e, w, k => k e w
  | .label _, _, _, e, w, k => k e w
  | .region _ ops draw, _, _, e, w, k =>
    if regionOk nt ops.toList = true then
      match draw with
      | false => aOps P call ops.toList (2 * ops.toList.length + 1) 0 ops.toList [] e w k
      | true => if drawOk P ops.toList = true then aOps P call ops.toList (2 * ops.toList.length + 1) 0 ops.toList [] e w.drew k
        else if flatOk P ops.toList = true then aFlat P call ops.toList ops.toList e w.drew [] fun e w log => chkThen (chkAll log (loose P ops.toList)) (k e w)
        else none
    else none
  | .seq a b, .s x y, c, e, w, k => aCode a x c e w fun e w => aCode b y c e w k
  | .cond t a b, .c x y, c, e, w, k => (ev e t).ebind fun v => (asB v).bind fun t => if t then aCode a x c e w k else aCode b y c e w k
  | .cond t a b, .j K x y, c, e, w, k => (ev e t).ebind fun v => (asB v).bind fun t =>
      (if t then aCode a x c e w fun e w => (gets e K).ebind fun vs => some (.norm vs w) else aCode b y c e w fun e w => (gets e K).ebind fun vs => some (.norm vs w)).bind fun r => r.cont fun vs w => k (ofList 0 K vs) w
  | .block id a, .b K x, c, e, w, k => (aCode a x ((id, K) :: c) e w fun e w => (gets e K).ebind fun vs => some (.norm vs w)).bind fun r => (r.unblock id).cont fun vs w => k (ofList 0 K vs) w
  | .loop a, .l K x, c, e, w, _ => (gets e K).ebind fun vs => iter (fun vs w => aCode a x c (ofList 0 K vs) w fun e w => (gets e K).ebind fun vs => some (.norm vs w)) vs w
  | .scope a, x, c, e, w, k => aCode a x c e w k
  | .exit id, _, c, e, w, _ => (Ctx.keep c id).bind fun K => (gets e K).ebind fun vs => some (.exit id vs w)
  | .ret, _, _, e, w, _ => (gets e rs).ebind fun vs => some (.ret vs w)
  | _, _, _, _, _, _ => none
end

def tmpsOf : List ResultVar → Option (List Nat)
  | [] => some []
  | .tmp t :: r => (tmpsOf r).bind fun l => some (t :: l)
  | .cell _ _ :: _ => none
def ofArgs (args : Array Value) : Env := fun i => args[i]?
def outcome : List Value → Value
  | [v] => v
  | vs => .tuple vs.toArray
def Res.done (r : Res) : Option (Value × World) := match r with
  | .norm vs w => some (outcome vs, w)
  | .ret vs w => some (outcome vs, w)
  | .exit _ _ _ => none
/-- the slots of the results: a result, or the address of the variable that holds it -/
def slotsOf : List ResultVar → List Nat
  | [] => []
  | .tmp t :: r => t :: slotsOf r
  | .cell a _ :: r => a :: slotsOf r
def loadsOf (P : Program) : List ResultVar → List Value → World → Option (List Value)
  | [], _, _ => some []
  | .tmp _ :: r, v :: vs, w => (loadsOf P r vs w).bind fun us => some (v :: us)
  | .cell _ t :: r, v :: vs, w => match v with
    | .pointer (some a) => (rrun P (Instr.loadAt t (.pointer (some a))) w).bind fun u => (loadsOf P r vs w).bind fun us => some (u :: us)
    | _ => none
  | _ :: _, [], _ => none
def Res.doneR (P : Program) (vars : List ResultVar) (r : Res) : Option (Value × World) := match r with
  | .norm vs w => (loadsOf P vars vs w).bind fun us => some (outcome us, w)
  | .ret vs w => (loadsOf P vars vs w).bind fun us => some (outcome us, w)
  | .exit _ _ _ => none
/-- a region that ends with 'defer f(..)', f a function of the program -/
def deferOf (ops : List Oper) : Option (Call × FuncId) := match ops.getLast? with
  | some o => match o.op, o.guard, o.dst with
    | .defer c, none, none => match c.callee with
      | .value (.func f) => some (c, f)
      | _ => none
    | _, _, _ => none
  | none => none
/-- a deferred call, behind what it was put off for -/
def Res.after (dfr : CallF) (f : FuncId) (args : Array Value) : Res → Option Res
  | .norm vs w => (dfr f args w).bind fun q => some (.norm vs q.2)
  | .ret vs w => (dfr f args w).bind fun q => some (.ret vs q.2)
  | .exit _ _ _ => none
/-- a body whose outmost statements may defer calls -/
noncomputable def aBody (P : Program) (call dfr : CallF) (rs : List Nat) (nt : Nat) : Code → Ann → Env → World → Option Res
  | .seq a b, .s x y, e, w => match a with
    | .region _ ops draw => match draw, deferOf ops.toList with
      | false, some (c, f) =>
        if regionOk nt ops.toList = true then
          aOps P call ops.toList (2 * ops.toList.length + 1) 0 ops.toList.dropLast [] e w fun e w => (evs e c.args.toList).ebind fun vs => (aBody P call dfr rs nt b y e w).bind fun r => r.after dfr f vs.toArray
        else none
      | _, _ => aCode P call rs nt a x [] e w fun e w => aBody P call dfr rs nt b y e w
    | _ => aCode P call rs nt a x [] e w fun e w => aBody P call dfr rs nt b y e w
  | c, x, e, w => aCode P call rs nt c x [] e w fun e w => (gets e rs).ebind fun vs => some (.norm vs w)
/-- a function's body -/
noncomputable def aFun (P : Program) (call dfr : CallF) (fn : Func) (ann : Ann) (e : Env) (w : World) : Option (Value × World) :=
  match fn.body with
  | some c => match tmpsOf fn.results.toList with
    | some rs => (aBody P call dfr rs fn.ntmps c ann e w).bind Res.done
    | none => (aBody P call dfr (slotsOf fn.results.toList) fn.ntmps c ann e w).bind (Res.doneR P fn.results.toList)
  | none => none
/-- what is told of calls beforehand: of plain ones, of deferred ones -/
structure Prim where
  call : CallF
  dfr : CallF

/-! ### calls -/
def callable (P : Program) (f : FuncId) : Bool := match P.funcs[f]? with
  | some fn => fn.body.isSome && fn.name != "runtime.NumGoroutine"
  | none => false
/-- what calls come to: by their bodies, or by what is told of them beforehand -/
inductive Tells (P : Program) (ann : FuncId → Ann) (prim : Prim) : FuncId → Array Value → World → Value × World → Prop where
  | prim {f : FuncId} {args : Array Value} {w : World} {r : Value × World} (h : prim.call f args w = some r) : Tells P ann prim f args w r
  | body {f : FuncId} {args : Array Value} {w : World} {r : Value × World} (fn : Func) (call : CallF) (hn : prim.call f args w = none) (hf : P.funcs[f]? = some fn) (hc : callable P f = true)
      (hcall : ∀ f args w r, call f args w = some r → Tells P ann prim f args w r) (h : aFun P call prim.dfr fn (ann f) (ofArgs args) w = some r) : Tells P ann prim f args w r
open Classical in
noncomputable def run (P : Program) (ann : FuncId → Ann) (prim : Prim) : CallF := fun f args w =>
  if h : ∃ r, Tells P ann prim f args w r then some (Classical.choose h) else none
end Go.Sh

namespace Go.Sh
set_option linter.unusedSimpArgs false
open Go

/-! ### runs -/
theorem run_bind {α β : Type} (P : Program) (s : Sem α) (f : α → Sem β) : ∀ w, (s >>= f).run P w = match s.run P w with
    | .ok a w' => (f a).run P w'
    | .halt h w' => .halt h w' := by
  show ∀ w, (Sem.bind s f).run P w = _
  induction s with
  | pure a => intro w; rfl
  | load m a k ih =>
    intro w
    simp only [Sem.bind, Sem.run]
    split
    · exact ih _ _
    · split
      · exact ih _ _
      · rfl
  | store m a v k ih =>
    intro w
    cases v <;> simp only [Sem.bind, Sem.run] <;> (try rfl) <;> (split <;> (try split) <;> first | rfl | exact ih _)
  | new o k ih => intro w; exact ih _ _
  | shape r k ih => intro w; exact ih _ _
  | freeze a n k ih => intro w; exact ih _
  | frozen a k ih => intro w; exact ih _ _
  | getObj r k ih =>
    intro w
    simp only [Sem.bind, Sem.run]
    split
    · rfl
    · exact ih _ _
    · rfl
  | setObj r o k ih =>
    intro w
    simp only [Sem.bind, Sem.run]
    split
    · rfl
    · exact ih _
    · rfl
  | choose q k ih =>
    intro w
    simp only [Sem.bind, Sem.run]
    split <;> exact ih _ _
  | sys c k ih => intro w; exact ih _ _
  | program k ih => intro w; exact ih _ _
  | mark m k ih => intro w; exact ih _
  | halt h => intro w; rfl

theorem run_ok {α β : Type} {P : Program} {s : Sem α} {f : α → Sem β} {w w' : World} {a : α} (h : s.run P w = .ok a w') : (s >>= f).run P w = (f a).run P w' := by
  rw [run_bind, h]

theorem prun_run {α : Type} {P : Program} {s : Sem α} : ∀ {v : α}, prun P s = some v → ∀ w, s.run P w = .ok v w := by
  induction s with
  | pure a => intro v h w; simp only [prun, Option.some.injEq] at h; subst h; rfl
  | program k ih => intro v h w; exact ih _ h w
  | mark m k ih => intro v h w; exact ih h w
  | _ => intro v h; simp [prun] at h

theorem rrun_run {α : Type} {P : Program} {s : Sem α} : ∀ {v : α} {w}, rrun P s w = some v → s.run P w = .ok v w := by
  induction s with
  | pure a => intro v w h; simp only [rrun, Option.some.injEq] at h; subst h; rfl
  | program k ih => intro v w h; exact ih _ h
  | mark m k ih => intro v w h; exact ih h
  | load m a k ih =>
    intro v w h
    simp only [rrun] at h
    simp only [Sem.run]
    split at h
    · rename_i x hx; rw [hx]; exact ih _ h
    · cases h
  | shape r k ih => intro v w h; exact ih _ h
  | frozen a k ih => intro v w h; exact ih _ h
  | getObj r k ih =>
    intro v w h
    simp only [rrun] at h
    simp only [Sem.run]
    split at h
    · cases h
    · rename_i o ho hx; rw [hx]
      cases o <;> first | exact ih _ h | (rename_i c e f; exact absurd rfl (ho c e f))
    · cases h
  | _ => intro v w h; simp [rrun] at h

theorem erun_run {α : Type} {P : Program} {s : Sem α} {v : α × World} {w : World} (h : erun P s w = some v) : s.run P w = .ok v.1 v.2 := by
  unfold erun at h
  split at h
  · rename_i hr; simp only [Option.some.injEq] at h; subst h; exact hr
  · cases h

/-! ### environments and frames -/
def Agree (e : Env) (a : Act) : Prop := ∀ t v, e t = some v → a.tmps[t]? = some v

theorem Agree.eval {e : Env} {a : Act} (h : Agree e a) {x : Operand} {v : Value} (hx : ev e x = some v) : a.eval x = v := by
  cases x with
  | tmp t => have := h t v hx; simp [Act.eval, this]
  | const c => simpa [ev, Act.eval] using hx
  | global g => simpa [ev, Act.eval] using hx
  | func f => simpa [ev, Act.eval] using hx

theorem Agree.evals {e : Env} {a : Act} (h : Agree e a) : ∀ {l : List Operand} {vs : List Value}, evs e l = some vs → l.map a.eval = vs := by
  intro l
  induction l with
  | nil => intro vs hv; simpa [evs] using hv
  | cons x r ih =>
    intro vs hv
    simp only [evs, Option.bind_eq_some_iff, Option.some.injEq] at hv
    obtain ⟨v, h1, ws, h2, rfl⟩ := hv
    simp [h.eval h1, ih h2]

theorem Agree.evalsA {e : Env} {a : Act} (h : Agree e a) {l : Array Operand} {vs : List Value} (hv : evs e l.toList = some vs) : l.map a.eval = vs.toArray := by
  apply Array.ext'
  rw [Array.toList_map, h.evals hv]

theorem set_eq {e : Env} {d t : Nat} {v : Value} : e.set d v t = if t = d then some v else e t := by
  unfold Env.set
  by_cases h : t = d
  · subst h; simp
  · have : Nat.beq t d = false := by
      cases hb : Nat.beq t d with
      | false => rfl
      | true => exact absurd (Nat.eq_of_beq_eq_true hb) h
    simp [this, h]

theorem Agree.set {e : Env} {a : Act} (h : Agree e a) {d : Nat} {v : Value} (hd : d < a.tmps.size) : Agree (e.set d v) (a.put (some d) v) := by
  intro t u ht
  rw [set_eq] at ht
  simp only [Act.put]
  by_cases htd : t = d
  · subst htd; simp at ht; subst ht; simp [hd]
  · simp only [htd, if_false] at ht
    rw [Array.getElem?_setIfInBounds_ne (fun h' => htd h'.symm)]
    exact h t u ht

theorem Agree.put {e : Env} {a : Act} (h : Agree e a) {d : Option Nat} {v : Value} (hd : ∀ n, d = some n → n < a.tmps.size) : Agree (e.put d v) (a.put d v) := by
  cases d with
  | none => exact h
  | some d => exact h.set (hd d rfl)

theorem Agree.gets {e : Env} {a : Act} (h : Agree e a) : ∀ {K : List Nat} {vs : List Value}, gets e K = some vs → ∀ i t, K[i]? = some t → a.tmps[t]? = some (nth vs i) := by
  intro K
  induction K with
  | nil => intro vs _ i t ht; simp at ht
  | cons x r ih =>
    intro vs hv i t ht
    simp only [Sh.gets, Option.bind_eq_some_iff, Option.some.injEq] at hv
    obtain ⟨v, h1, ws, h2, rfl⟩ := hv
    cases i with
    | zero => simp at ht; subst ht; exact h _ _ h1
    | succ i => simp at ht; exact ih h2 i t ht

theorem agree_ofList {a : Act} {vs : List Value} : ∀ {K : List Nat} {n : Nat}, (∀ i t, K[i]? = some t → a.tmps[t]? = some (nth vs (n + i))) → Agree (ofList n K vs) a := by
  intro K
  induction K with
  | nil => intro n _ t v h; simp [ofList, Env.nil] at h
  | cons x r ih =>
    intro n h t v hv
    simp only [ofList, set_eq] at hv
    split at hv
    · rename_i htx; subst htx; simp at hv; subst hv; simpa using h 0 t (by simp)
    · refine ih (n := n + 1) (fun i t ht => ?_) t v hv
      have := h (i + 1) t (by simpa using ht)
      rwa [show n + 1 + i = n + (i + 1) by omega]

theorem agree_gets {e : Env} {a : Act} (h : Agree e a) {K : List Nat} {vs : List Value} (hv : gets e K = some vs) : Agree (ofList 0 K vs) a :=
  agree_ofList fun i t ht => by simpa using h.gets hv i t ht

/-! ### one operation -/
/-- what a call answers is what the machine comes to -/
structure CallOk (P : Program) (call : CallF) : Prop where
  enter : ∀ f args w r, call f args w = some r → (callFunc f args).run P w = .ok (.enter f args) w
  calls : ∀ f args w r, call f args w = some r → Calls P f args w fun e w' => e = .returned r.1 ∧ w' = r.2

def ExecTo (P : Program) (call : CallF) (o : Oper) (e : Env) (w : World) (v : Value) (w' : World) : Prop :=
  ∀ a, Agree e a → ((execOp a.eval o).run P w = .ok (.value v) w' ∨ ((execOp a.eval o).run P w = .ok .skip w' ∧ v = undef) ∨
    ∃ f args, (execOp a.eval o).run P w = .ok (.enter f args) w ∧ call f args w = some (v, w'))
/-- .. without a call, and the world as it was -/
def ExecQuiet (P : Program) (o : Oper) (e : Env) (w : World) (v : Value) (w' : World) : Prop :=
  w' = w ∧ ∀ a, Agree e a → ((execOp a.eval o).run P w = .ok (.value v) w ∨ ((execOp a.eval o).run P w = .ok .skip w ∧ v = undef))

theorem evs_one {e : Env} {x : Operand} {vs : List Value} (h : evs e [x] = some vs) : ∃ v, ev e x = some v ∧ vs = [v] := by
  simp only [evs, Option.bind_eq_some_iff, Option.some.injEq] at h
  obtain ⟨v, h1, ws, rfl, rfl⟩ := h
  exact ⟨v, h1, rfl⟩

theorem evs_opt {e : Env} {a : Act} (h : Agree e a) {x : Option Operand} {vs : List Value} (hv : evs e x.toList = some vs) : x.map a.eval = vs.head? := by
  cases x with
  | none => simp [evs] at hv; subst hv; rfl
  | some x => obtain ⟨v, h1, rfl⟩ := evs_one (by simpa using hv); simp [h.eval h1]

theorem evs_pairs {e : Env} {a : Act} (h : Agree e a) {ps : Array (Nat × Operand)} {vs : List Value} (hv : evs e (ps.toList.map (·.2)) = some vs) :
    (ps.map fun (i, x) => (i, a.eval x)) = ((ps.toList.map (·.1)).zip vs).toArray := by
  apply Array.ext'
  rw [Array.toList_map]
  have := h.evals hv
  rw [← this]
  simp only [List.map_map]
  induction ps.toList with
  | nil => rfl
  | cons p r ih => simp [ih]

theorem run_v {P : Program} {s : Sem Value} {w w' : World} {v : Value} (h : s.run P w = .ok v w') : (do pure (Next.value (← s)) : Sem Next).run P w = .ok (.value v) w' := by
  rw [run_ok h]; rfl
theorem run_u {P : Program} {s : Sem Unit} {w w' : World} {v : Unit} (h : s.run P w = .ok v w') : (do s; pure Next.skip : Sem Next).run P w = .ok .skip w' := by
  rw [run_ok h]; rfl

theorem bin_run {P : Program} {op : BinOp} {t : TypeId} {x y : Operand} {a b v : Value} (hop : arith op = true) (h : bin op a b = some v) (w : World) :
    (do eqGuard op t x y a b; binOp op t a b : Sem Value).run P w = .ok v w := by
  cases a <;> cases b <;> simp only [bin] at h <;> try (cases h; done)
  rename_i k n k' m
  split at h
  case isFalse => cases h
  rename_i hk; subst hk
  have g : eqGuard op t x y (.int k n) (.int k m) = (pure () : Sem Unit) := by cases op <;> rfl
  rw [g]
  show (binOp op t (.int k n) (.int k m)).run P w = _
  by_cases hm : m = 0
  · subst hm
    cases op <;> simp [arith] at hop <;> simp at h <;> subst h <;> simp [binOp, Op.intArith, Op.intCmp, pure] <;> rfl
  · cases op <;> simp [arith] at hop <;> simp [hm] at h <;> subst h <;> simp [binOp, Op.intArith, Op.intCmp, Op.intDiv, pure, hm] <;> rfl

section
variable {P : Program} {call : CallF}

theorem callV_ok (hc : CallOk P call) {e : Env} {a : Act} (h : Agree e a) {x : Operand} {c : Call} {o : Oper} (hcal : c.callee = .value x) {f : Value} {vs : List Value} {w : World} {r : Value × World}
    (hf : ev e x = some f) (hv : evs e c.args.toList = some vs) (hr : callV call f vs w = some r) :
    ∃ g args, (do let d ← resolve a.eval c o.type; invoke d.target d.args : Sem Next).run P w = .ok (.enter g args) w ∧ call g args w = some r := by
  unfold callV at hr
  split at hr
  · rename_i g first cap
    refine ⟨g, _, ?_, hr⟩
    have h1 := h.eval hf
    have h2 := h.evalsA hv
    have : (resolve a.eval c o.type).run P w = .ok { target := .fn (.func g) cap, args := first ++ vs.toArray } w := by
      unfold resolve; simp only [h2, hcal, h1, Deferred.ofValue]; rfl
    rw [run_ok this]
    exact hc.enter _ _ _ _ hr
  · cases hr

theorem aOp_ok (hc : CallOk P call) {ρ : Type} {o : Oper} {e : Env} {w : World} {next : Value → World → Option ρ} {r : ρ} (h : aOp P call o e w next = some r) :
    ∃ v w', next v w' = some r ∧ ExecTo P call o e w v w' ∧ (quietOp P o.op = true → ExecQuiet P o e w v w') := by
  obtain ⟨dst, op, type, pos, after, guard⟩ := o
  have val : ∀ {v : Value} {w' : World}, next v w' = some r → (∀ a, Agree e a → (execOp a.eval ⟨dst, op, type, pos, after, guard⟩).run P w = .ok (.value v) w') →
      (quietOp P op = true → w' = w) → ∃ v w', next v w' = some r ∧ ExecTo P call ⟨dst, op, type, pos, after, guard⟩ e w v w' ∧ (quietOp P op = true → ExecQuiet P ⟨dst, op, type, pos, after, guard⟩ e w v w') :=
    fun hn hx hq => ⟨_, _, hn, fun a ha => .inl (hx a ha), fun q => ⟨hq q, fun a ha => .inl (by rw [hx a ha, hq q])⟩⟩
  have ski : ∀ {w' : World}, next undef w' = some r → (∀ a, Agree e a → (execOp a.eval ⟨dst, op, type, pos, after, guard⟩).run P w = .ok .skip w') →
      (quietOp P op = false) → ∃ v w', next v w' = some r ∧ ExecTo P call ⟨dst, op, type, pos, after, guard⟩ e w v w' ∧ (quietOp P op = true → ExecQuiet P ⟨dst, op, type, pos, after, guard⟩ e w v w') :=
    fun hn hx hq => ⟨_, _, hn, fun a ha => .inr (.inl ⟨hx a ha, rfl⟩), fun q => by rw [hq] at q; cases q⟩
  have ent : ∀ {v : Value} {w' : World}, next v w' = some r → (∀ a, Agree e a → ∃ f args, (execOp a.eval ⟨dst, op, type, pos, after, guard⟩).run P w = .ok (.enter f args) w ∧ call f args w = some (v, w')) →
      (quietOp P op = false) → ∃ v w', next v w' = some r ∧ ExecTo P call ⟨dst, op, type, pos, after, guard⟩ e w v w' ∧ (quietOp P op = true → ExecQuiet P ⟨dst, op, type, pos, after, guard⟩ e w v w') :=
    fun hn hx hq => ⟨_, _, hn, fun a ha => .inr (.inr (hx a ha)), fun q => by rw [hq] at q; cases q⟩
  unfold aOp at h
  simp only [Option.ebind_eq] at h
  cases op <;> simp only [] at h <;> try (cases h; done)
  case move x =>
    simp only [Option.bind_eq_some_iff] at h
    obtain ⟨v, h1, h2⟩ := h
    exact val h2 (fun a ha => by simp only [execOp, ha.eval h1]; rfl) (fun _ => rfl)
  case assign x =>
    simp only [Option.bind_eq_some_iff] at h
    obtain ⟨v, h1, h2⟩ := h
    exact val h2 (fun a ha => by simp only [execOp, ha.eval h1]; rfl) (fun _ => rfl)
  case pick c x y =>
    simp only [Option.bind_eq_some_iff] at h
    obtain ⟨vc, h1, vx, h2, vy, h3, v, h4, h5⟩ := h
    refine val h5 (fun a ha => ?_) (fun _ => rfl)
    simp only [execOp, ha.eval h1, ha.eval h2, ha.eval h3]
    unfold pickV at h4
    split at h4 <;> cases h4 <;> rfl
  case alloc t =>
    simp only [Option.bind_eq_some_iff] at h
    obtain ⟨v, h1, h2⟩ := h
    exact val h2 (fun a ha => run_v (erun_run h1)) (fun q => by cases q)
  case box t x =>
    simp only [Option.bind_eq_some_iff] at h
    obtain ⟨v, h1, u, h2, h3⟩ := h
    exact val h3 (fun a ha => by simp only [execOp, ha.eval h1]; exact run_v (erun_run h2)) (fun q => by cases q)
  case range t x =>
    simp only [Option.bind_eq_some_iff] at h
    obtain ⟨v, h1, u, h2, h3⟩ := h
    exact val h3 (fun a ha => by simp only [execOp, ha.eval h1]; exact run_v (erun_run h2)) (fun q => by cases q)
  case next it s =>
    simp only [Option.bind_eq_some_iff] at h
    obtain ⟨v, h1, u, h2, h3⟩ := h
    exact val h3 (fun a ha => by simp only [execOp, ha.eval h1]; exact run_v (erun_run h2)) (fun q => by cases q)
  case build t ps =>
    simp only [Option.bind_eq_some_iff] at h
    obtain ⟨v, h1, u, h2, h3⟩ := h
    exact val h3 (fun a ha => by simp only [execOp, evs_pairs ha h1]; exact run_v (prun_run h2 w)) (fun _ => rfl)
  case buildSlice t n ps =>
    simp only [Option.bind_eq_some_iff] at h
    obtain ⟨v, h1, u, h2, h3⟩ := h
    exact val h3 (fun a ha => by simp only [execOp, evs_pairs ha h1]; exact run_v (erun_run h2)) (fun q => by cases q)
  case load t x =>
    simp only [Option.bind_eq_some_iff] at h
    obtain ⟨v, h1, u, h2, h3⟩ := h
    exact val h3 (fun a ha => by simp only [execOp, ha.eval h1]; exact run_v (rrun_run h2)) (fun _ => rfl)
  case store t x y =>
    simp only [Option.bind_eq_some_iff] at h
    obtain ⟨v, h1, u, h2, z, h3, h4⟩ := h
    exact ski h4 (fun a ha => by simp only [execOp, ha.eval h1, ha.eval h2]; exact run_u (erun_run h3)) rfl
  case nilCheck x =>
    simp only [Option.bind_eq_some_iff] at h
    obtain ⟨v, h1, u, h2, h3⟩ := h
    refine val h3 (fun a ha => ?_) (fun _ => rfl)
    simp only [execOp, ha.eval h1]
    unfold nilV at h2
    split at h2
    · cases h2; rfl
    · split at h2
      · rename_i hf
        split at h2
        · rename_i hn
          cases h2
          have := prun_run hn w
          simp [hf, this]
          try rfl
        · cases h2
      · cases h2
    · cases h2
  case binOp op t x y ty =>
    simp only [Option.bind_eq_some_iff] at h
    obtain ⟨vx, h1, vy, h2, h3⟩ := h
    split at h3
    · rename_i hb
      simp only [Bool.and_eq_true] at hb
      simp only [Option.bind_eq_some_iff] at h3
      obtain ⟨v, h4, h5⟩ := h3
      exact val h5 (fun a ha => by simp only [execOp, ha.eval h1, ha.eval h2]; exact run_v (bin_run hb.2 h4 w)) (fun _ => rfl)
    split at h3
    · simp only [Option.bind_eq_some_iff] at h3
      obtain ⟨v, h4, h5⟩ := h3
      exact val h5 (fun a ha => by simp only [execOp, ha.eval h1, ha.eval h2]; exact run_v (prun_run h4 w)) (fun _ => rfl)
    · simp only [Option.bind_eq_some_iff] at h3
      obtain ⟨v, h4, h5⟩ := h3
      exact val h5 (fun a ha => by simp only [execOp, ha.eval h1, ha.eval h2]; exact run_v (rrun_run h4)) (fun _ => rfl)
  case unOp op t x =>
    simp only [Option.bind_eq_some_iff] at h
    obtain ⟨v, h1, u, h2, h3⟩ := h
    exact val h3 (fun a ha => by simp only [execOp, ha.eval h1]; exact run_v (prun_run h2 w)) (fun _ => rfl)
  case convert s d x =>
    simp only [Option.bind_eq_some_iff] at h
    obtain ⟨v, h1, h2⟩ := h
    split at h2
    · simp only [Option.bind_eq_some_iff] at h2
      obtain ⟨u, h3, h4⟩ := h2
      exact val h4 (fun a ha => by simp only [execOp, ha.eval h1]; exact run_v (prun_run h3 w)) (fun _ => rfl)
    rename_i hq1
    split at h2
    · simp only [Option.bind_eq_some_iff] at h2
      obtain ⟨u, h3, h4⟩ := h2
      exact val h4 (fun a ha => by simp only [execOp, ha.eval h1]; exact run_v (rrun_run h3)) (fun _ => rfl)
    · rename_i hq
      simp only [Option.bind_eq_some_iff] at h2
      obtain ⟨u, h3, h4⟩ := h2
      exact val h4 (fun a ha => by simp only [execOp, ha.eval h1]; exact run_v (erun_run h3)) (fun q => by
        simp only [quietOp, Bool.or_eq_true] at q
        rcases q with q | q
        · exact absurd q hq
        · exact absurd q hq1)
  case makeInterface t x =>
    simp only [Option.bind_eq_some_iff] at h
    obtain ⟨v, h1, u, h2, h3⟩ := h
    exact val h3 (fun a ha => by simp only [execOp, ha.eval h1]; exact run_v (prun_run h2 w)) (fun _ => rfl)
  case makeFunc fn first cap =>
    simp only [Option.bind_eq_some_iff] at h
    obtain ⟨v, h1, u, h2, h3⟩ := h
    exact val h3 (fun a ha => by simp only [execOp, ha.evalsA h1, ha.evalsA h2]; rfl) (fun _ => rfl)
  case makeMap t r =>
    simp only [Option.bind_eq_some_iff] at h
    obtain ⟨v, h1, u, h2, h3⟩ := h
    exact val h3 (fun a ha => by simp only [execOp, evs_opt ha h1]; exact run_v (erun_run h2)) (fun q => by cases q)
  case makeSlice t l c =>
    simp only [Option.bind_eq_some_iff] at h
    obtain ⟨v, h1, u, h2, z, h3, h4⟩ := h
    exact val h4 (fun a ha => by simp only [execOp, ha.eval h1, ha.eval h2]; exact run_v (erun_run h3)) (fun q => by cases q)
  case slice t x lo hi mx =>
    simp only [Option.bind_eq_some_iff] at h
    obtain ⟨v, h1, l, h2, hh, h3, m, h4, u, h5, h6⟩ := h
    exact val h6 (fun a ha => by simp only [execOp, ha.eval h1, evs_opt ha h2, evs_opt ha h3, evs_opt ha h4]; exact run_v (prun_run h5 w)) (fun _ => rfl)
  case fieldAddr s x f =>
    simp only [Option.bind_eq_some_iff] at h
    obtain ⟨v, h1, u, h2, h3⟩ := h
    exact val h3 (fun a ha => by simp only [execOp, ha.eval h1]; exact run_v (prun_run h2 w)) (fun _ => rfl)
  case field s x f =>
    simp only [Option.bind_eq_some_iff] at h
    obtain ⟨v, h1, u, h2, h3⟩ := h
    exact val h3 (fun a ha => by simp only [execOp, ha.eval h1]; exact run_v (prun_run h2 w)) (fun _ => rfl)
  case indexAddr t x i =>
    simp only [Option.bind_eq_some_iff] at h
    obtain ⟨v, h1, u, h2, z, h3, h4⟩ := h
    exact val h4 (fun a ha => by simp only [execOp, ha.eval h1, ha.eval h2]; exact run_v (prun_run h3 w)) (fun _ => rfl)
  case index t x i =>
    simp only [Option.bind_eq_some_iff] at h
    obtain ⟨v, h1, u, h2, z, h3, h4⟩ := h
    exact val h4 (fun a ha => by simp only [execOp, ha.eval h1, ha.eval h2]; exact run_v (prun_run h3 w)) (fun _ => rfl)
  case lookup t x i ok =>
    simp only [Option.bind_eq_some_iff] at h
    obtain ⟨v, h1, u, h2, z, h3, h4⟩ := h
    exact val h4 (fun a ha => by simp only [execOp, ha.eval h1, ha.eval h2]; exact run_v (rrun_run h3)) (fun _ => rfl)
  case mapUpdate t m k x =>
    simp only [Option.bind_eq_some_iff] at h
    obtain ⟨v, h1, u, h2, y, h3, z, h4, h5⟩ := h
    exact ski h5 (fun a ha => by simp only [execOp, ha.eval h1, ha.eval h2, ha.eval h3]; exact run_u (erun_run h4)) rfl
  case typeAssert x t u ok =>
    simp only [Option.bind_eq_some_iff] at h
    obtain ⟨v, h1, z, h2, h3⟩ := h
    exact val h3 (fun a ha => by simp only [execOp, ha.eval h1]; exact run_v (prun_run h2 w)) (fun _ => rfl)
  case extract x i =>
    simp only [Option.bind_eq_some_iff] at h
    obtain ⟨v, h1, u, h2, h3⟩ := h
    exact val h3 (fun a ha => by simp only [execOp, ha.eval h1]; exact run_v (prun_run h2 w)) (fun _ => rfl)
  case call c =>
    obtain ⟨callee, cargs, cts⟩ := c
    have blt : ∀ {b : Builtin} {vs : List Value} {s : Sem Value} {v : Value} {w' : World}, evs e cargs.toList = some vs → s.run P w = .ok v w' →
        (∀ cs, builtin b cts type cs vs.toArray = (do pure (Next.value (← s)) : Sem Next)) → ∀ a, Agree e a →
        (execOp a.eval ⟨dst, .call ⟨.builtin b, cargs, cts⟩, type, pos, after, guard⟩).run P w = .ok (.value v) w' := by
      intro b vs s v w' h1 h2 h3 a ha
      simp only [execOp, resolve, ha.evalsA h1]
      show (invoke (Target.builtin b cts type _) vs.toArray).run P w = _
      simp only [invoke, h3]
      exact run_v h2
    cases callee with
    | builtin b =>
      cases b <;> simp only [] at h <;> try (cases h; done)
      all_goals simp only [Option.bind_eq_some_iff] at h
      all_goals obtain ⟨vs, h1, h⟩ := h
      all_goals try split at h
      all_goals try simp only [Option.bind_eq_some_iff] at h
      all_goals obtain ⟨u, h2, h3⟩ := h
      all_goals first
        | exact val h3 (blt h1 (rrun_run h2) fun cs => rfl) (fun _ => rfl)
        | exact val h3 (blt h1 (prun_run h2 w) fun cs => rfl) (fun _ => rfl)
        | exact val h3 (blt h1 (erun_run h2) fun cs => rfl) (fun q => by cases q)
    | invoke rc name =>
      simp only [Option.bind_eq_some_iff] at h
      obtain ⟨v, h1, vs, h2, m, h3, u, h4, h5⟩ := h
      refine ent h5 (fun a ha => ⟨_, _, ?_, h4⟩) rfl
      simp only [execOp, resolve, ha.evalsA h2, ha.eval h1]
      show (invoke (Target.fn (.method name) #[]) (#[v] ++ vs.toArray)).run P w = _
      unfold imethod at h3
      split at h3
      · rename_i t x
        have hargs : (#[Value.iface t x] ++ vs.toArray)[0]? = some (Value.iface t x) := by simp
        have hrest : (#[Value.iface t x] ++ vs.toArray).extract 1 (#[Value.iface t x] ++ vs.toArray).size = vs.toArray := by
          apply Array.ext'; simp
        simp only [invoke, hargs, hrest, callMethod]
        have hp : (program : Sem Program).run P w = .ok P w := rfl
        rw [run_ok hp, run_ok (rrun_run h3)]
        have := hc.enter _ _ _ _ h4
        have e1 : #[m.2] ++ vs.toArray = (m.2 :: vs).toArray := by apply Array.ext'; simp
        simpa [e1] using this
      · cases h3
    | value f =>
      cases f with
      | func f =>
        simp only [Option.bind_eq_some_iff] at h
        obtain ⟨vs, h1, u, h2, h3⟩ := h
        cases hbl : bodyless P f with
        | true =>
          rw [hbl] at h2
          simp only [cond_true] at h2
          refine val h3 (fun a ha => ?_) (fun q => by cases q)
          have h2' := ha.evalsA h1
          have hres : (resolve a.eval ⟨.value (.func f), cargs, cts⟩ type).run P w = .ok { target := .fn (.func f) #[], args := #[] ++ vs.toArray } w := by
            unfold resolve; simp only [h2', Act.eval, Deferred.ofValue]; rfl
          simp only [execOp]
          rw [run_ok hres]
          have e1 : #[] ++ vs.toArray ++ #[] = vs.toArray := by simp
          show (callFunc f (#[] ++ vs.toArray ++ #[])).run P w = _
          rw [e1]
          unfold xrun at h2
          split at h2
          · rename_i v w' hr
            cases h2
            exact hr
          · cases h2
        | false =>
        rw [hbl] at h2
        simp only [cond_false] at h2
        refine ent h3 (fun a ha => ?_) rfl
        have := callV_ok hc ha (x := .func f) (c := ⟨.value (.func f), cargs, cts⟩) (o := ⟨dst, .call ⟨.value (.func f), cargs, cts⟩, type, pos, after, guard⟩) rfl rfl h1 (w := w) (r := u) (by simpa [callV] using h2)
        simpa only [execOp] using this
      | tmp z =>
        simp only [Option.bind_eq_some_iff] at h
        obtain ⟨f, h0, vs, h1, u, h2, h3⟩ := h
        refine ent h3 (fun a ha => ?_) rfl
        have := callV_ok hc ha (x := (.tmp z)) (c := ⟨.value (.tmp z), cargs, cts⟩) (o := ⟨dst, .call ⟨.value (.tmp z), cargs, cts⟩, type, pos, after, guard⟩) rfl h0 h1 (w := w) (r := u) h2
        simpa only [execOp] using this
      | const z =>
        simp only [Option.bind_eq_some_iff] at h
        obtain ⟨f, h0, vs, h1, u, h2, h3⟩ := h
        refine ent h3 (fun a ha => ?_) rfl
        have := callV_ok hc ha (x := (.const z)) (c := ⟨.value (.const z), cargs, cts⟩) (o := ⟨dst, .call ⟨.value (.const z), cargs, cts⟩, type, pos, after, guard⟩) rfl h0 h1 (w := w) (r := u) h2
        simpa only [execOp] using this
      | global z =>
        simp only [Option.bind_eq_some_iff] at h
        obtain ⟨f, h0, vs, h1, u, h2, h3⟩ := h
        refine ent h3 (fun a ha => ?_) rfl
        have := callV_ok hc ha (x := (.global z)) (c := ⟨.value (.global z), cargs, cts⟩) (o := ⟨dst, .call ⟨.value (.global z), cargs, cts⟩, type, pos, after, guard⟩) rfl h0 h1 (w := w) (r := u) h2
        simpa only [execOp] using this
end

/-! ### the operations of a region -/
section
variable (step : Oper → (Act → World → Prop) → Act → World → Prop)
/-- operations one behind the other, by a step of whatever kind -/
def wpG (ops : Array Oper) : List Oper → (Act → World → Prop) → Act → World → Prop
  | [], K, a, w => K a w
  | o :: rest, K, a, w => if Region.wanted o (yielded ops a.tmps) = true then step o (wpG ops rest K) a w else wpG ops rest K (a.put o.dst undef) w
theorem wpG_append (ops : Array Oper) (hmono : ∀ o K K' a w, (∀ a w, K a w → K' a w) → step o K a w → step o K' a w) (l m : List Oper) (K : Act → World → Prop) :
    ∀ a w, wpG step ops l (wpG step ops m K) a w → wpG step ops (l ++ m) K a w := by
  induction l with
  | nil => intro a w h; exact h
  | cons o r ih =>
    intro a w h
    simp only [List.cons_append, wpG] at h ⊢
    split
    · rename_i hw; simp only [hw, if_true] at h; exact hmono _ _ _ _ _ ih h
    · rename_i hw; simp only [hw] at h; exact ih _ _ h
end

def dsts (l : List Oper) : List Nat := l.filterMap (·.dst)
/-- two frames that differ in these slots at most -/
structure Kept (ds : List Nat) (a a' : Act) : Prop where
  size : a'.tmps.size = a.tmps.size
  defers : a'.defers = a.defers
  same : ∀ t, t ∉ ds → a'.tmps[t]? = a.tmps[t]?
theorem Kept.refl (ds : List Nat) (a : Act) : Kept ds a a := ⟨rfl, rfl, fun _ _ => rfl⟩
theorem Kept.trans {d1 d2 ds : List Nat} {a b c : Act} (h1 : Kept d1 a b) (h2 : Kept d2 b c) (s1 : ∀ t ∈ d1, t ∈ ds) (s2 : ∀ t ∈ d2, t ∈ ds) : Kept ds a c :=
  ⟨h2.size.trans h1.size, h2.defers.trans h1.defers, fun t ht => (h2.same t fun h => ht (s2 t h)).trans (h1.same t fun h => ht (s1 t h))⟩
theorem Kept.put (a : Act) (d : Option Nat) (v : Value) {ds : List Nat} (hd : ∀ n, d = some n → n ∈ ds) : Kept ds a (a.put d v) := by
  cases d with
  | none => exact Kept.refl _ _
  | some d => exact ⟨by simp [Act.put], rfl, fun t ht => by
      simp only [Act.put]
      exact Array.getElem?_setIfInBounds_ne fun h => ht (by rw [← h]; exact hd d rfl)⟩

/-- slot d is written by operation j alone -/
def Sole (all : List Oper) (j d : Nat) : Prop := dstOf all j = some d ∧ ∀ n q, all[n]? = some q → n ≠ j → q.dst ≠ some d

theorem regionOk_spec {nt : Nat} {all : List Oper} (h : regionOk nt all = true) {i : Nat} {o : Oper} (ho : all[i]? = some o) :
    (∀ d, o.dst = some d → d < nt) ∧ (∀ j b, o.guard = some (j, b) → j < i ∧ ∃ d, Sole all j d) := by
  unfold regionOk at h
  rw [List.all_eq_true] at h
  have := h (o, i) (by rw [List.mem_zipIdx_iff_getElem?]; exact ho)
  simp only [Bool.and_eq_true] at this
  obtain ⟨h1, h2⟩ := this
  refine ⟨fun d hd => ?_, fun j b hj => ?_⟩
  · rw [hd] at h1; exact Nat.blt_eq.mp h1
  · rw [hj] at h2
    simp only [Bool.and_eq_true] at h2
    obtain ⟨h3, h4⟩ := h2
    refine ⟨Nat.blt_eq.mp h3, ?_⟩
    split at h4
    · rename_i d hd
      refine ⟨d, hd, fun n q hq hn => ?_⟩
      rw [List.all_eq_true] at h4
      have := h4 (q, n) (by rw [List.mem_zipIdx_iff_getElem?]; exact hq)
      simp only [Bool.or_eq_true] at this
      rcases this with h | h
      · exact absurd (Nat.eq_of_beq_eq_true h) hn
      · simpa using h
    · cases h4

theorem yielded_of {all : List Oper} {j d : Nat} (hs : Sole all j d) {tmps : Array Value} : yielded all.toArray tmps j = match tmps[d]? with | some (.bool b) => some b | _ => none := by
  have : (all.toArray[j]?).bind (·.dst) = some d := by simpa [dstOf] using hs.1
  unfold yielded
  rw [this]
  rfl

theorem loDst_le : ∀ (l : List Oper) (n : Nat), loDst l n ≤ n ∧ ∀ d ∈ dsts l, loDst l n ≤ d := by
  intro l
  induction l with
  | nil => intro n; exact ⟨Nat.le_refl _, fun d h => by simp [dsts] at h⟩
  | cons o r ih =>
    intro n
    cases hd : o.dst with
    | none => simp only [loDst, hd]; refine ⟨(ih n).1, fun d h => (ih n).2 d ?_⟩; simpa [dsts, hd] using h
    | some x =>
      simp only [loDst, hd]
      have := (ih (min x n)).1
      refine ⟨by omega, fun d h => ?_⟩
      have h' : d = x ∨ d ∈ dsts r := by simpa [dsts, hd] using h
      rcases h' with rfl | h'
      · omega
      · exact (ih _).2 d h'
theorem hiDst_le : ∀ (l : List Oper) (n : Nat), n ≤ hiDst l n ∧ ∀ d ∈ dsts l, d ≤ hiDst l n := by
  intro l
  induction l with
  | nil => intro n; exact ⟨Nat.le_refl _, fun d h => by simp [dsts] at h⟩
  | cons o r ih =>
    intro n
    cases hd : o.dst with
    | none => simp only [hiDst, hd]; refine ⟨(ih n).1, fun d h => (ih n).2 d ?_⟩; simpa [dsts, hd] using h
    | some x =>
      simp only [hiDst, hd]
      have := (ih (max x n)).1
      refine ⟨by omega, fun d h => ?_⟩
      have h' : d = x ∨ d ∈ dsts r := by simpa [dsts, hd] using h
      rcases h' with rfl | h'
      · omega
      · exact (ih _).2 d h'

theorem drop_eq {lo hi t : Nat} {e : Env} {v : Value} (h : Env.drop lo hi e t = some v) : e t = some v ∧ ¬ (lo ≤ t ∧ t ≤ hi) := by
  unfold Env.drop at h
  cases h1 : Nat.ble lo t <;> cases h2 : Nat.ble t hi <;> simp [h1, h2] at h
  · refine ⟨h, fun ⟨h3, _⟩ => ?_⟩; have := Nat.ble_eq.mpr h3; simp_all
  · refine ⟨h, fun ⟨h3, _⟩ => ?_⟩; have := Nat.ble_eq.mpr h3; simp_all
  · refine ⟨h, fun ⟨_, h3⟩ => ?_⟩; have := Nat.ble_eq.mpr h3; simp_all

/-- guards that are known to hold -/
def StripOk (all : List Oper) (strip : List (Nat × Bool)) (i : Nat) (a : Act) : Prop :=
  ∀ j b, inStrip j b strip = true → j < i ∧ ∃ d, Sole all j d ∧ a.tmps[d]? = some (.bool b)

theorem StripOk.keep {all : List Oper} {strip : List (Nat × Bool)} {i i' : Nat} {a a' : Act} (h : StripOk all strip i a) (hi : i ≤ i')
    {l : List Oper} (hl : ∀ (m : Nat) (o : Oper), l[m]? = some o → ∃ n, i ≤ n ∧ all[n]? = some o) (hk : Kept (dsts l) a a') : StripOk all strip i' a' := by
  intro j b hj
  obtain ⟨h1, d, h2, h3⟩ := h j b hj
  refine ⟨by omega, d, h2, ?_⟩
  rw [hk.same d ?_, h3]
  intro hd
  obtain ⟨o, ho, hod⟩ := List.mem_filterMap.mp hd
  obtain ⟨m, hm⟩ := List.mem_iff_getElem?.mp ho
  obtain ⟨n, hn, hno⟩ := hl m o hm
  exact h2.2 n o hno (by omega) hod

theorem inStrip_cons {j g : Nat} {b c : Bool} {strip : List (Nat × Bool)} (h : inStrip j b ((g, c) :: strip) = true) : (g = j ∧ c = b) ∨ inStrip j b strip = true := by
  simp only [inStrip, Bool.or_eq_true, Bool.and_eq_true, beq_iff_eq] at h
  rcases h with ⟨h1, h2⟩ | h
  · exact .inl ⟨Nat.eq_of_beq_eq_true h1, h2⟩
  · exact .inr h

/-- a group under a guard that does not hold is passed by -/
theorem wpG_skip {step : Oper → (Act → World → Prop) → Act → World → Prop} {nt : Nat} {all : List Oper} (hreg : regionOk nt all = true) {j d i0 : Nat} {want : Bool} (hj : Sole all j d) (hji : j < i0) {w : World} :
    ∀ (grp : List Oper) (i : Nat) (a : Act), (∀ m, m < grp.length → all[i + m]? = grp[m]?) → (∀ o ∈ grp, ∃ g b, o.guard = some (g, b) ∧ ((g = j ∧ b = want) ∨ i0 ≤ g)) → i0 ≤ i → nt ≤ a.tmps.size →
      a.tmps[d]? = some (.bool (!want)) → (∀ g, i0 ≤ g → g < i → ∀ dg, Sole all g dg → a.tmps[dg]? = some undef) →
      ∀ K : Act → World → Prop, (∀ a', Kept (dsts grp) a a' → K a' w) → wpG step all.toArray grp K a w := by
  intro grp
  induction grp with
  | nil => intro i a _ _ _ _ _ _ K h; exact h a (Kept.refl _ _)
  | cons o r ih =>
    intro i a hidx hg hi hnt hb hu K h
    have ho : all[i]? = some o := by simpa using hidx 0 (by simp)
    obtain ⟨hd, hgd⟩ := regionOk_spec hreg ho
    obtain ⟨g, b, hgo, hgj⟩ := hg o (by simp)
    have hnw : Region.wanted o (yielded all.toArray a.tmps) = false := by
      unfold Region.wanted
      simp only [hgo]
      obtain ⟨hlt, dg, hdg⟩ := hgd g b hgo
      rw [yielded_of hdg]
      rcases hgj with ⟨rfl, rfl⟩ | hge
      · have : dg = d := Option.some.inj (hdg.1.symm.trans hj.1)
        subst this
        rw [hb]; cases b <;> rfl
      · rw [hu g hge hlt dg hdg]; rfl
    simp only [wpG, hnw, Bool.false_eq_true, if_false]
    have hput : Kept (dsts [o]) a (a.put o.dst undef) := Kept.put _ _ _ fun n hn => by simp [dsts, hn]
    refine ih (i + 1) _ (fun m hm => ?_) (fun q hq => hg q (by simp [hq])) (by omega) (by rw [hput.size]; exact hnt) ?_ ?_ K ?_
    · have := hidx (m + 1) (by simp; omega)
      rw [show i + 1 + m = i + (m + 1) by omega, this]; simp
    · rw [hput.same d (by
        intro hm
        simp only [dsts, List.filterMap_cons, List.filterMap_nil] at hm
        cases hod : o.dst with
        | none => simp [hod] at hm
        | some x => simp [hod] at hm; subst hm; exact hj.2 i o ho (by omega) hod)]
      exact hb
    · intro g' h1 h2 dg hdg
      by_cases hgi : g' = i
      · subst hgi
        have hod : o.dst = some dg := by have := hdg.1; simp only [dstOf, ho, Option.bind_some] at this; exact this
        rw [hod]
        simp only [Act.put]
        have hlt : dg < a.tmps.size := Nat.lt_of_lt_of_le (hd dg hod) hnt
        simp [hlt]
      · rw [hput.same dg (by
          intro hm
          simp only [dsts, List.filterMap_cons, List.filterMap_nil] at hm
          cases hod : o.dst with
          | none => simp [hod] at hm
          | some x => simp [hod] at hm; subst hm; exact hdg.2 i o ho (by omega) hod)]
        exact hu g' h1 (by omega) dg hdg
    · intro a' ha'
      refine h a' (hput.trans ha' (fun t ht => ?_) (fun t ht => ?_))
      · simp only [dsts, List.filterMap_cons, List.filterMap_nil] at ht ⊢
        cases hod : o.dst with
        | none => simp [hod] at ht
        | some x => simp [hod] at ht ⊢; exact .inl ht
      · simp only [dsts, List.filterMap_cons] at ht ⊢
        cases hod : o.dst with
        | none => simpa [hod] using ht
        | some x => simp; exact .inr (by simpa using ht)

theorem dsts_append (l m : List Oper) : dsts (l ++ m) = dsts l ++ dsts m := by simp [dsts]
theorem dsts_cons_sub (o : Oper) (r : List Oper) : ∀ t ∈ dsts r, t ∈ dsts (o :: r) := by
  intro t ht
  obtain ⟨q, hq, hqd⟩ := List.mem_filterMap.mp ht
  exact List.mem_filterMap.mpr ⟨q, by simp [hq], hqd⟩
theorem dsts_head_sub (o : Oper) (r : List Oper) : ∀ t ∈ dsts [o], t ∈ dsts (o :: r) := by
  intro t ht
  obtain ⟨q, hq, hqd⟩ := List.mem_filterMap.mp ht
  exact List.mem_filterMap.mpr ⟨q, by simp at hq; simp [hq], hqd⟩

theorem grp_guards {i j : Nat} {want : Bool} : ∀ (l : List Oper), ∀ o ∈ l.take (grpLen i j want l), ∃ g b, o.guard = some (g, b) ∧ ((g = j ∧ b = want) ∨ i ≤ g) := by
  intro l
  induction l with
  | nil => intro o h; simp at h
  | cons q r ih =>
    intro o h
    simp only [grpLen] at h
    split at h
    · rename_i g b hg
      split at h
      · rename_i hc
        simp only [List.take_succ_cons, List.mem_cons] at h
        rcases h with rfl | h
        · exact ⟨g, b, hg, hc⟩
        · exact ih o h
      · simp at h
    · simp at h

/-- operations whose value hangs on their operands alone, and that are told the same in each world -/
def tinyOp : Op → Bool
  | .move _ | .assign _ | .slice .. => true
  | _ => false
theorem tiny_ok {P : Program} {call : CallF} {o : Oper} {e : Env} {w : World} {ρ : Type} {next : Value → World → Option ρ} {r : ρ} (ht : tinyOp o.op = true) (h : aOp P call o e w next = some r) :
    ∃ v, next v w = some r ∧ ∀ W, aOp P call o e W (fun v w => some (v, w)) = some (v, W) := by
  obtain ⟨dst, op, type, pos, after, guard⟩ := o
  unfold aOp at h ⊢
  simp only [Option.ebind_eq] at h ⊢
  cases op <;> simp only [tinyOp, Bool.false_eq_true] at ht
  all_goals
    simp only [Option.bind_eq_some_iff] at h
    first
    | (obtain ⟨a, h1, h2⟩ := h; exact ⟨a, h2, fun W => by simp [h1]⟩)
    | (obtain ⟨a, h1, b, h2, h3⟩ := h; exact ⟨b, h3, fun W => by simp [h1, h2]⟩)
    | (obtain ⟨a, h1, b, h2, c, h3, h4⟩ := h; exact ⟨c, h4, fun W => by simp [h1, h2, h3]⟩)
    | (obtain ⟨a, h1, b, h2, c, h3, d, h4, h5⟩ := h; exact ⟨d, h5, fun W => by simp [h1, h2, h3, h4]⟩)
    | (obtain ⟨a, h1, b, h2, c, h3, d, h4, f, h5, h6⟩ := h; exact ⟨f, h6, fun W => by simp [h1, h2, h3, h4, h5]⟩)
/-- what a step must bear -/
structure Steps1 (P : Program) (call : CallF) (all : List Oper) (step : Oper → (Act → World → Prop) → Act → World → Prop) : Prop where
  mono : ∀ o K K' a w, (∀ a w, K a w → K' a w) → step o K a w → step o K' a w
  ok : ∀ o ∈ all, ∀ e w v w', ExecTo P call o e w v w' → (quietOp P o.op = true → ExecQuiet P o e w v w') → (tinyOp o.op = true → ∀ W, ExecTo P call o e W v W) → ∀ K a, Agree e a → K (a.put o.dst v) w' → step o K a w

theorem pick_exec (P : Program) (call : CallF) {p : Oper} {c : Nat} {x y : Operand} (hp : p.op = .pick (.tmp c) x y) {e : Env} {a : Act} (ha : Agree e a) {b : Bool} (hb : a.tmps[c]? = some (.bool b)) {v : Value}
    (hv : ev e (if b then x else y) = some v) (w : World) : ∃ e2, Agree e2 a ∧ ExecTo P call p e2 w v w ∧ (quietOp P p.op = true → ExecQuiet P p e2 w v w) := by
  have ag : Agree (e.set c (.bool b)) a := by
    intro t u ht
    rw [set_eq] at ht
    split at ht
    · rename_i h; subst h; simp at ht; subst ht; exact hb
    · exact ha t u ht
  have run : ∀ a', Agree (e.set c (.bool b)) a' → (execOp a'.eval p).run P w = .ok (.value v) w := by
    intro a' ha'
    have h1 : a'.eval (.tmp c) = .bool b := ha'.eval (by simp [ev, set_eq])
    have h2 : a'.eval (if b then x else y) = v := by
      cases hx : (if b then x else y) with
      | tmp t =>
        rw [hx] at hv
        by_cases htc : t = c
        · subst htc
          have h3 := ha t v hv
          rw [hb] at h3
          simp at h3
          rw [h1, h3]
        · exact ha'.eval (by simpa [ev, set_eq, htc] using hv)
      | const z => rw [hx] at hv; simpa [ev, Act.eval] using hv
      | global z => rw [hx] at hv; simpa [ev, Act.eval] using hv
      | func z => rw [hx] at hv; simpa [ev, Act.eval] using hv
    simp only [execOp, hp, h1]
    cases b
    · simp only [Bool.false_eq_true, if_false] at h2; subst h2; rfl
    · simp only [if_true] at h2; subst h2; rfl
  exact ⟨_, ag, fun a' ha' => .inl (run a' ha'), fun _ => ⟨rfl, fun a' ha' => .inl (run a' ha')⟩⟩

theorem aOps_ok {P : Program} {call : CallF} (hc : CallOk P call) {nt : Nat} {all : List Oper} (hreg : regionOk nt all = true)
    {step : Oper → (Act → World → Prop) → Act → World → Prop} (hs : Steps1 P call all step) :
    ∀ (n : Nat) {ρ : Type} (i : Nat) (ops : List Oper) (strip : List (Nat × Bool)) (e : Env) (w : World) (k : Env → World → Option ρ) (r : ρ),
      aOps P call all n i ops strip e w k = some r → (∀ m, m < ops.length → all[i + m]? = ops[m]?) →
      ∃ e' w', k e' w' = some r ∧ ∀ (K : Act → World → Prop) (a : Act), nt ≤ a.tmps.size → Agree e a → StripOk all strip i a →
        (∀ a', Kept (dsts ops) a a' → Agree e' a' → K a' w') → wpG step all.toArray ops K a w := by
  intro n
  induction n with
  | zero => intro ρ i ops strip e w k r h; simp [Option.ebind_eq, aOps] at h
  | succ n ih =>
    intro ρ i ops strip e w k r h hidx
    cases ops with
    | nil => exact ⟨e, w, by simpa [Option.ebind_eq, aOps] using h, fun K a _ ha _ hK => hK a (Kept.refl _ _) ha⟩
    | cons o rest =>
      have ho : all[i]? = some o := by simpa using hidx 0 (by simp)
      obtain ⟨hd, hgd⟩ := regionOk_spec hreg ho
      have hmem : o ∈ all := List.mem_of_getElem? ho
      -- an operation that is wanted
      have plain : (aOp P call o e w fun v w => aOps P call all n (i + 1) rest strip (e.put o.dst v) w k) = some r →
          (∀ a, StripOk all strip i a → Region.wanted o (yielded all.toArray a.tmps) = true) →
          ∃ e' w', k e' w' = some r ∧ ∀ (K : Act → World → Prop) (a : Act), nt ≤ a.tmps.size → Agree e a → StripOk all strip i a →
            (∀ a', Kept (dsts (o :: rest)) a a' → Agree e' a' → K a' w') → wpG step all.toArray (o :: rest) K a w := by
        intro h hw
        obtain ⟨v, w1, h1, h2, h3, hti⟩ : ∃ v w1, aOps P call all n (i + 1) rest strip (e.put o.dst v) w1 k = some r ∧ ExecTo P call o e w v w1 ∧ (quietOp P o.op = true → ExecQuiet P o e w v w1) ∧ (tinyOp o.op = true → ∀ W, ExecTo P call o e W v W) := by
          cases ht : tinyOp o.op with
          | false =>
            obtain ⟨v, w1, h1, h2, h3⟩ := aOp_ok hc h
            exact ⟨v, w1, h1, h2, h3, fun q => by cases q⟩
          | true =>
            obtain ⟨v, h1, h2⟩ := tiny_ok ht h
            have all : ∀ W, ExecTo P call o e W v W ∧ (quietOp P o.op = true → ExecQuiet P o e W v W) := fun W => by
              obtain ⟨v', W', h3, h4, h5⟩ := aOp_ok hc (h2 W)
              simp only [Option.some.injEq, Prod.mk.injEq] at h3
              obtain ⟨rfl, rfl⟩ := h3
              exact ⟨h4, h5⟩
            exact ⟨v, w, h1, (all w).1, (all w).2, fun _ W => (all W).1⟩
        obtain ⟨e', w', h4, h5⟩ := ih (i + 1) rest strip _ w1 k r h1 (fun m hm => by
          have := hidx (m + 1) (by simp; omega)
          rw [show i + 1 + m = i + (m + 1) by omega, this]; simp)
        refine ⟨e', w', h4, fun K a hnt ha hst hK => ?_⟩
        simp only [wpG, hw a hst, if_true]
        have hput : Kept (dsts [o]) a (a.put o.dst v) := Kept.put _ _ _ fun n hn => by simp [dsts, hn]
        refine hs.ok o hmem e w v w1 h2 h3 hti _ a ha (h5 K _ (by rw [hput.size]; exact hnt) (ha.put fun m hm => Nat.lt_of_lt_of_le (hd m hm) hnt) ?_ ?_)
        · exact hst.keep (l := [o]) (by omega) (fun m q hq => ⟨i, Nat.le_refl _, by
            cases m with
            | zero => simp at hq; subst hq; exact ho
            | succ m => simp at hq⟩) hput
        · intro a' hk' ha'
          exact hK a' (hput.trans hk' (dsts_head_sub o rest) (dsts_cons_sub o rest)) ha'
      simp only [Option.ebind_eq, aOps] at h
      split at h
      · rename_i hg
        exact plain h fun a _ => by simp [Region.wanted, hg]
      · rename_i j want hg
        obtain ⟨hji, d0, hd0⟩ := hgd j want hg
        split at h
        · rename_i hin
          refine plain h fun a hst => ?_
          obtain ⟨_, d, hd1, hd2⟩ := hst j want hin
          unfold Region.wanted
          simp only [hg, yielded_of hd1, hd2]
          simp
        · split at h
          · rename_i p rest' hdrop
            split at h
            · rename_i c x y d pd hpop hdj hpd
              by_cases hcond : c = d ∧ guardIn p strip = true
              · rw [if_pos hcond] at h
                obtain ⟨hcd, hpg⟩ := hcond
                subst hcd
                have hdd : d0 = c := Option.some.inj (hd0.1.symm.trans hdj)
                subst hdd
                simp only [Option.bind_eq_some_iff] at h
                obtain ⟨bv, hbv, b, hb, r1, hr1, hrest⟩ := h
                have hbv' : bv = .bool b := by cases bv <;> simp [asB] at hb; subst hb; rfl
                subst hbv'
                generalize hm : grpLen i j want (o :: rest) = m at *
                generalize hgrp : (o :: rest).take m = grp at *
                have hall : o :: rest = grp ++ p :: rest' := by rw [← hgrp, ← hdrop, List.take_append_drop]
                have hlen : (o :: rest).length = grp.length + 1 + rest'.length := by rw [hall]; simp; omega
                have hml : grp.length = m := by
                  rw [← hgrp, List.length_take]
                  have : ((o :: rest).drop m).length = rest'.length + 1 := by rw [hdrop]; simp
                  rw [List.length_drop] at this
                  omega
                have hgidx : ∀ q, q < grp.length → all[i + q]? = grp[q]? := fun q hq => by
                  rw [hidx q (by omega), hall, List.getElem?_append_left hq]
                have hpidx : all[i + m]? = some p := by
                  rw [hidx m (by omega), hall, List.getElem?_append_right (by omega)]
                  simp [hml]
                have hridx : ∀ q, q < rest'.length → all[i + m + 1 + q]? = rest'[q]? := fun q hq => by
                  rw [show i + m + 1 + q = i + (m + 1 + q) by omega, hidx (m + 1 + q) (by omega), hall, List.getElem?_append_right (by omega)]
                  rw [show m + 1 + q - grp.length = q + 1 by omega]
                  simp
                have hgin : ∀ (q : Nat) (z : Oper), grp[q]? = some z → ∃ n, i ≤ n ∧ all[n]? = some z := fun q z hz => by
                  have hq : q < grp.length := (List.getElem?_eq_some_iff.mp hz).1
                  exact ⟨i + q, by omega, by rw [hgidx q hq, hz]⟩
                have hpmem : p ∈ all := List.mem_of_getElem? hpidx
                obtain ⟨hpd2, _⟩ := regionOk_spec hreg hpidx
                have hpw : ∀ a, StripOk all strip i a → Region.wanted p (yielded all.toArray a.tmps) = true := by
                  intro a hst
                  unfold Region.wanted
                  cases hpgd : p.guard with
                  | none => rfl
                  | some gb =>
                    obtain ⟨g, gb⟩ := gb
                    simp only [guardIn, hpgd] at hpg
                    obtain ⟨_, d2, h1, h2⟩ := hst g gb hpg
                    simp only [yielded_of h1, h2]
                    simp
                have hnotin : ∀ {l : List Oper}, (∀ (q : Nat) (z : Oper), l[q]? = some z → ∃ n, i ≤ n ∧ all[n]? = some z) → d0 ∉ dsts l := by
                  intro l hl hdl
                  obtain ⟨q, hq, hqd⟩ := List.mem_filterMap.mp hdl
                  obtain ⟨z, hz⟩ := List.mem_iff_getElem?.mp hq
                  obtain ⟨n', hn1, hn2⟩ := hl z q hz
                  exact hd0.2 n' q hn2 (by omega) hqd
                -- what stands behind the group
                obtain ⟨e', w', hk, hrec⟩ := ih (i + m + 1) rest' strip _ r1.2 k r hrest hridx
                have after : ∀ (K : Act → World → Prop) (a a1 : Act), nt ≤ a.tmps.size → Agree e a → StripOk all strip i a → Kept (dsts grp) a a1 →
                    (∀ a', Kept (dsts (o :: rest)) a a' → Agree e' a' → K a' w') →
                    (∃ e2, Agree e2 a1 ∧ ExecTo P call p e2 r1.2 r1.1 r1.2 ∧ (quietOp P p.op = true → ExecQuiet P p e2 r1.2 r1.1 r1.2)) →
                    wpG step all.toArray (p :: rest') K a1 r1.2 := by
                  intro K a a1 hnt ha hst hk1 hK ⟨e2, h1, h2, h3⟩
                  have hst1 : StripOk all strip i a1 := hst.keep (Nat.le_refl _) hgin hk1
                  simp only [wpG, hpw a1 hst1, if_true]
                  have hput : Kept (dsts [p]) a1 (a1.put p.dst r1.1) := Kept.put _ _ _ fun n hn => by simp [dsts, hn]
                  refine hs.ok p hpmem e2 r1.2 r1.1 r1.2 h2 h3 (fun q => by rw [hpop] at q; cases q) _ a1 h1 (hrec K _ (by rw [hput.size, hk1.size]; exact hnt) ?_ ?_ ?_)
                  · rw [hpd]
                    refine Agree.set ?_ (by rw [hk1.size]; exact Nat.lt_of_lt_of_le (hpd2 pd hpd) hnt)
                    intro t u ht
                    obtain ⟨h4, h5⟩ := drop_eq ht
                    rw [hk1.same t fun hin => h5 ⟨(loDst_le grp pd).2 t hin, (hiDst_le grp pd).2 t hin⟩]
                    exact ha t u h4
                  · exact hst1.keep (l := [p]) (by omega) (fun q z hz => ⟨i + m, by omega, by
                      cases q with
                      | zero => simp at hz; subst hz; exact hpidx
                      | succ q => simp at hz⟩) hput
                  · intro a' hk2 ha'
                    refine hK a' ((hk1.trans (ds := dsts (o :: rest)) (hput.trans (ds := dsts (p :: rest')) hk2 (dsts_head_sub p rest') (dsts_cons_sub p rest')) ?_ ?_)) ha'
                    · intro t ht; rw [hall, dsts_append]; simp [ht]
                    · intro t ht; rw [hall, dsts_append]; simp [ht]
                refine ⟨e', w', hk, fun K a hnt ha hst hK => ?_⟩
                rw [hall]
                refine wpG_append step all.toArray hs.mono grp (p :: rest') K a w ?_
                have hbit : a.tmps[d0]? = some (.bool b) := ha d0 _ hbv
                by_cases hbw : b = want
                · rw [if_pos hbw] at hr1
                  subst hbw
                  obtain ⟨e3, w3, h6, h7⟩ := ih i grp ((j, b) :: strip) e w _ r1 hr1 hgidx
                  simp only [Option.bind_eq_some_iff, Option.some.injEq] at h6
                  obtain ⟨v, h8, h9⟩ := h6
                  subst h9
                  refine h7 _ a hnt ha ?_ ?_
                  · intro j' b' hin'
                    rcases inStrip_cons hin' with ⟨rfl, rfl⟩ | hin'
                    · exact ⟨hji, d0, hd0, hbit⟩
                    · exact hst j' b' hin'
                  · intro a1 hk1 ha1
                    refine after K a a1 hnt ha hst hk1 hK (pick_exec P call hpop ha1 (b := b) ?_ h8 _)
                    rw [hk1.same d0 (hnotin hgin)]; exact hbit
                · rw [if_neg hbw] at hr1
                  simp only [Option.bind_eq_some_iff, Option.some.injEq] at hr1
                  obtain ⟨v, h8, h9⟩ := hr1
                  subst h9
                  have hb2 : b = !want := by cases b <;> cases want <;> simp_all
                  refine wpG_skip hreg hd0 hji grp i a hgidx (fun q hq => ?_) (Nat.le_refl _) hnt (by rw [hbit, hb2]) (fun g h1 h2 => by omega) _ ?_
                  · rw [← hgrp, ← hm] at hq
                    exact grp_guards (o :: rest) q hq
                  · intro a1 hk1
                    have hag : Agree (e.drop (loDst grp pd) (hiDst grp pd)) a1 := by
                      intro t u ht
                      obtain ⟨h4, h5⟩ := drop_eq ht
                      rw [hk1.same t fun hin => h5 ⟨(loDst_le grp pd).2 t hin, (hiDst_le grp pd).2 t hin⟩]
                      exact ha t u h4
                    refine after K a a1 hnt ha hst hk1 hK (pick_exec P call hpop hag (b := b) ?_ ?_ _)
                    · rw [hk1.same d0 (hnotin hgin)]; exact hbit
                    · rw [hb2]; cases want <;> simpa using h8
              · rw [if_neg hcond] at h; cases h
            · cases h
          · cases h
end Go.Sh

namespace Go.Sh
open Go
set_option linter.unusedVariables false
set_option linter.unusedSimpArgs false

/-! ### ancestors -/
theorem mask_spec {acc : List Nat} {o : Oper} {j : Nat} (h : (ancMask acc o).testBit j = true) : ∃ e ∈ o.after.toList, Region.binds .any e = true ∧ (e.on = j ∨ (acc.getD e.on 0).testBit j = true) := by
  unfold ancMask at h
  have key : ∀ (l : List Edge) (s : Nat), (l.foldl (fun s e => if Region.binds .any e = true then s ||| 2 ^ e.on ||| acc.getD e.on 0 else s) s).testBit j = true →
      s.testBit j = true ∨ ∃ e ∈ l, Region.binds .any e = true ∧ (e.on = j ∨ (acc.getD e.on 0).testBit j = true) := by
    intro l
    induction l with
    | nil => intro s h; exact .inl h
    | cons e r ih =>
      intro s h
      simp only [List.foldl_cons] at h
      rcases ih _ h with h1 | ⟨e', h2, h3⟩
      · split at h1
        · rename_i hb
          simp only [Nat.testBit_or, Bool.or_eq_true, Nat.testBit_two_pow, decide_eq_true_eq] at h1
          rcases h1 with (h1 | h1) | h1
          · exact .inl h1
          · exact .inr ⟨e, by simp, hb, .inl h1⟩
          · exact .inr ⟨e, by simp, hb, .inr h1⟩
        · exact .inl h1
      · exact .inr ⟨e', by simp [h2], h3⟩
  rcases key _ 0 h with h1 | h1
  · simp at h1
  · exact h1

theorem ancsFrom_spec : ∀ (l : List Oper) (acc : List Nat), (∀ i, i < acc.length → (ancsFrom acc l).getD i 0 = acc.getD i 0) ∧
    ∀ (k : Nat) (o : Oper), l[k]? = some o → ∃ pre : List Nat, (ancsFrom acc l).getD (acc.length + k) 0 = ancMask pre o ∧ ∀ i, i < acc.length + k → pre.getD i 0 = (ancsFrom acc l).getD i 0 := by
  intro l
  induction l with
  | nil => intro acc; exact ⟨fun i _ => rfl, fun k o h => by simp at h⟩
  | cons o r ih =>
    intro acc
    have h := ih (acc ++ [ancMask acc o])
    simp only [ancsFrom]
    have hlen : (acc ++ [ancMask acc o]).length = acc.length + 1 := by simp
    refine ⟨fun i hi => ?_, fun k q hk => ?_⟩
    · rw [h.1 i (by omega)]
      simp [List.getD_eq_getElem?_getD, List.getElem?_append_left hi]
    · cases k with
      | zero =>
        simp at hk; subst hk
        refine ⟨acc, ?_, fun i hi => ?_⟩
        · rw [Nat.add_zero, h.1 acc.length (by omega)]
          simp [List.getD_eq_getElem?_getD]
        · rw [h.1 i (by omega)]
          simp [List.getD_eq_getElem?_getD, List.getElem?_append_left (by omega : i < acc.length)]
      | succ k =>
        obtain ⟨pre, h1, h2⟩ := h.2 k q (by simpa using hk)
        rw [hlen] at h1 h2
        exact ⟨pre, by rw [show acc.length + (k + 1) = acc.length + 1 + k by omega]; exact h1, fun i hi => h2 i (by omega)⟩

/-- downward closed -/
def Closed (ops : List Oper) (S : Nat → Prop) : Prop := ∀ i o, S i → ops[i]? = some o → ∀ e ∈ o.after.toList, Region.binds .any e = true → S e.on
def Deps (ops : List Oper) (S : Nat → Prop) (i : Nat) : Prop := ∀ o, ops[i]? = some o → ∀ e ∈ o.after.toList, Region.binds .any e = true → S e.on

theorem anc_in {ops : List Oper} (hback : ∀ (i : Nat) (o : Oper), ops[i]? = some o → ∀ e ∈ o.after.toList, Region.binds .any e = true → e.on < i) {S : Nat → Prop} (hS : Closed ops S) :
    ∀ (i : Nat), i < ops.length → Deps ops S i → ∀ j, ((ancs ops).getD i 0).testBit j = true → S j ∧ j < i := by
  intro i
  induction i using Nat.strongRecOn with
  | _ i ih =>
    intro hi hd j hj
    have ho : ops[i]? = some ops[i] := List.getElem?_eq_getElem hi
    obtain ⟨pre, h1, h2⟩ := (ancsFrom_spec ops []).2 i _ ho
    simp only [List.length_nil, Nat.zero_add] at h1 h2
    unfold ancs at hj
    rw [h1] at hj
    obtain ⟨e, he, hb, hc⟩ := mask_spec hj
    have hlt := hback i _ ho e he hb
    have hin := hd _ ho e he hb
    rcases hc with rfl | hc
    · exact ⟨hin, hlt⟩
    · rw [h2 e.on hlt] at hc
      obtain ⟨h3, h4⟩ := ih e.on hlt (by omega) (fun o' ho' e' he' hb' => hS e.on o' hin ho' e' he' hb') j hc
      exact ⟨h3, by omega⟩

/-! ### the run in the text's order -/
structure Ent where
  act : Act
  v : Value
  before : World
  after : World
  g : Bool
  chk : World → Prop
def Exec3 (P : Program) (call : CallF) (o : Oper) (a : Act) (w : World) (v : Value) (w' : World) : Prop :=
  (execOp a.eval o).run P w = .ok (.value v) w' ∨ ((execOp a.eval o).run P w = .ok .skip w' ∧ v = undef) ∨ ∃ f args, (execOp a.eval o).run P w = .ok (.enter f args) w ∧ call f args w = some (v, w')
structure EntOk (P : Program) (call : CallF) (all : List Oper) (o : Oper) (x : Ent) : Prop where
  want : Region.wanted o (yielded all.toArray x.act.tmps) = x.g
  exec : x.g = true → Exec3 P call o x.act x.before x.v x.after
  none : x.g = false → x.v = undef ∧ x.after = x.before
  quiet : quietOp P o.op = true → x.after = x.before
  pure : x.g = true → pureOp P o.op = true → ∀ W, Exec3 P call o x.act W x.v W
  chk : x.g = true → quietOp P o.op = true → ∀ W, x.chk W → Exec3 P call o x.act W x.v W
def LexRun (P : Program) (call : CallF) (all : List Oper) : List Oper → Act → World → List Ent → Act → World → Prop
  | [], a, w, [], a', w' => a' = a ∧ w' = w
  | o :: rest, a, w, x :: L, a', w' => x.act = a ∧ x.before = w ∧ EntOk P call all o x ∧ LexRun P call all rest (a.put o.dst x.v) x.after L a' w'
  | _, _, _, _, _, _ => False

section
variable {P : Program} {call : CallF}
theorem pure_any {o : Oper} {e : Env} {w : World} {r : Value × World} (hp : pureOp P o.op = true) (h : aOp P call o e w (fun v w => some (v, w)) = some r) :
    ∀ W, aOp P call o e W (fun v w => some (v, w)) = some (r.1, W) := by
  intro W
  obtain ⟨dst, op, type, pos, after, guard⟩ := o
  unfold aOp at h ⊢
  simp only [Option.ebind_eq] at h ⊢
  cases op <;> simp only [] at h ⊢ <;> try (cases h; done)
  case binOp op t x y ty =>
    simp only [pureOp] at hp
    simp only [Option.bind_eq_some_iff] at h ⊢
    obtain ⟨a, h1, b, h2, h3⟩ := h
    refine ⟨a, h1, b, h2, ?_⟩
    by_cases hb : (isIntT P t && arith op) = true
    · rw [if_pos hb] at h3 ⊢
      simp only [Option.bind_eq_some_iff, Option.some.injEq] at h3 ⊢
      obtain ⟨v, h4, h5⟩ := h3
      exact ⟨v, h4, by rw [← h5]⟩
    · rw [if_neg hb] at h3 ⊢
      simp only [hp, if_true, Option.bind_eq_some_iff, Option.some.injEq] at h3 ⊢
      obtain ⟨v, h4, h5⟩ := h3
      exact ⟨v, h4, by rw [← h5]⟩
  case convert s d x =>
    simp only [pureOp] at hp
    simp only [hp, if_true, Option.bind_eq_some_iff, Option.some.injEq] at h ⊢
    obtain ⟨a, h1, v, h2, h3⟩ := h
    exact ⟨a, h1, v, h2, by rw [← h3]⟩
  case call c =>
    obtain ⟨callee, cargs, cts⟩ := c
    cases callee with
    | builtin b =>
      cases b <;> simp [pureOp] at hp
      all_goals try simp only [hp, if_true] at h ⊢
      all_goals
        simp only [Option.bind_eq_some_iff, Option.some.injEq] at h ⊢
        obtain ⟨a, h1, v, h2, h3⟩ := h
        exact ⟨a, h1, v, h2, by rw [← h3]⟩
    | _ => simp [pureOp] at hp
  all_goals first
    | (simp [pureOp] at hp; done)
    | (simp only [Option.bind_eq_some_iff, Option.some.injEq] at h ⊢
       first
       | (obtain ⟨a, h1, h2⟩ := h; exact ⟨a, h1, by rw [← h2]⟩)
       | (obtain ⟨a, h1, b, h2, h3⟩ := h; exact ⟨a, h1, b, h2, by rw [← h3]⟩)
       | (obtain ⟨a, h1, b, h2, c, h3, h4⟩ := h; exact ⟨a, h1, b, h2, c, h3, by rw [← h4]⟩)
       | (obtain ⟨a, h1, b, h2, c, h3, d, h4, h5⟩ := h; exact ⟨a, h1, b, h2, c, h3, d, h4, by rw [← h5]⟩)
       | (obtain ⟨a, h1, b, h2, c, h3, d, h4, f, h5, h6⟩ := h; exact ⟨a, h1, b, h2, c, h3, d, h4, f, h5, by rw [← h6]⟩))

theorem value_of_next {o : Oper} {e : Env} {W : World} {v : Value} (h : (aOp P call o e W fun v _ => some v) = some v) (hc : CallOk P call) (hq : quietOp P o.op = true) {a : Act} (ha : Agree e a) : Exec3 P call o a W v W := by
  obtain ⟨v', w', h1, _, h3⟩ := aOp_ok hc h
  simp only [Option.some.injEq] at h1
  subst h1
  obtain ⟨rfl, h4⟩ := h3 hq
  rcases h4 a ha with h5 | h5
  · exact .inl h5
  · exact .inr (.inl h5)

theorem guardV_spec {nt : Nat} {all : List Oper} (hreg : regionOk nt all = true) {i : Nat} {o : Oper} (ho : all[i]? = some o) {e : Env} {a : Act} (ha : Agree e a) {g : Bool} (h : guardV all o e = some g) :
    Region.wanted o (yielded all.toArray a.tmps) = g := by
  unfold guardV at h
  unfold Region.wanted
  cases hg : o.guard with
  | none => simp only [hg, Option.some.injEq] at h ⊢; exact h
  | some jw =>
    obtain ⟨j, want⟩ := jw
    simp only [hg, Option.ebind_eq, Option.bind_eq_some_iff, Option.some.injEq] at h ⊢
    obtain ⟨d, h1, v, h2, h3⟩ := h
    obtain ⟨_, d', hd⟩ := (regionOk_spec hreg ho).2 j want hg
    have : d' = d := Option.some.inj (hd.1.symm.trans h1)
    subst this
    rw [yielded_of hd, ha d' v h2]
    cases v <;> simp [wantedV] at h3 ⊢ <;> first | exact h3 | (subst h3; rfl)

/-- what the flat run tells -/
theorem aFlat_ok (hc : CallOk P call) {nt : Nat} {all : List Oper} (hreg : regionOk nt all = true) {ρ : Type} : ∀ (l : List Oper) (i : Nat) (e : Env) (w : World) (log : List LogE) (k : Env → World → List LogE → Option ρ) (r : ρ),
    (∀ m, m < l.length → all[i + m]? = l[m]?) → aFlat P call all l e w log k = some r →
    ∃ (logs : List LogE) (e' : Env) (w' : World), k e' w' (log ++ logs) = some r ∧ ∀ a, nt ≤ a.tmps.size → Agree e a → ∃ (L : List Ent) (a' : Act), LexRun P call all l a w L a' w' ∧ Agree e' a' ∧
      logs = L.map (fun x => ⟨x.before, x.after, x.chk⟩) ∧ Kept (dsts l) a a' := by
  intro l
  induction l with
  | nil =>
    intro i e w log k r _ h
    exact ⟨[], e, w, by simpa [Option.ebind_eq, aFlat] using h, fun a _ ha => ⟨[], a, ⟨rfl, rfl⟩, ha, rfl, Kept.refl _ _⟩⟩
  | cons o rest ih =>
    intro i e w log k r hidx h
    have ho : all[i]? = some o := by simpa using hidx 0 (by simp)
    simp only [Option.ebind_eq, aFlat, Option.bind_eq_some_iff] at h
    obtain ⟨g, h1, r1, h2, h3⟩ := h
    obtain ⟨logs, e', w', h4, h5⟩ := ih (i + 1) _ _ _ k r (fun m hm => by
      have := hidx (m + 1) (by simp; omega)
      rw [show i + 1 + m = i + (m + 1) by omega, this]; simp) h3
    refine ⟨⟨w, r1.2, fun W => if g = true then (aOp P call o e W fun v _ => some v) = some r1.1 else True⟩ :: logs, e', w', by rw [List.append_assoc] at h4; exact h4, fun a hnt ha => ?_⟩
    have hput : Kept (dsts [o]) a (a.put o.dst r1.1) := Kept.put _ _ _ fun n hn => by simp [dsts, hn]
    have hd := (regionOk_spec hreg ho).1
    obtain ⟨L, a', h6, h7, h8, h9⟩ := h5 (a.put o.dst r1.1) (by rw [hput.size]; exact hnt) (ha.put fun m hm => Nat.lt_of_lt_of_le (hd m hm) hnt)
    have hw := guardV_spec hreg ho ha h1
    refine ⟨⟨a, r1.1, w, r1.2, g, fun W => if g = true then (aOp P call o e W fun v _ => some v) = some r1.1 else True⟩ :: L, a', ⟨rfl, rfl, ?_, h6⟩, h7, by rw [h8]; rfl, hput.trans h9 (dsts_head_sub o rest) (dsts_cons_sub o rest)⟩
    cases g with
    | false =>
      simp only [Bool.false_eq_true, if_false, Option.some.injEq] at h2
      subst h2
      exact ⟨hw, (fun h => by cases h), fun _ => ⟨rfl, rfl⟩, fun _ => rfl, (fun h => by cases h), (fun h => by cases h)⟩
    | true =>
      simp only [if_true] at h2
      obtain ⟨v, w1, h10, h11, h12⟩ := aOp_ok hc h2
      simp only [Option.some.injEq] at h10
      subst h10
      refine ⟨hw, fun _ => h11 a ha, (fun h => by cases h), fun hq => (h12 hq).1, fun _ hp W => ?_, fun _ hq W hck => ?_⟩
      · have h13 := pure_any hp h2 W
        obtain ⟨v', w1', h14, h15, _⟩ := aOp_ok hc h13
        simp only [Option.some.injEq, Prod.mk.injEq] at h14
        obtain ⟨rfl, rfl⟩ := h14
        exact h15 a ha
      · simp only [if_true] at hck
        exact value_of_next hck hc hq ha
end

/-! ### any order -/
theorem lex_split {P : Program} {call : CallF} {all : List Oper} : ∀ (l : List Oper) (a : Act) (w : World) (L : List Ent) (a' : Act) (w' : World), LexRun P call all l a w L a' w' → L.length = l.length ∧
    ∀ i, i ≤ l.length → ∃ b v, LexRun P call all (l.take i) a w (L.take i) b v ∧ LexRun P call all (l.drop i) b v (L.drop i) a' w' := by
  intro l
  induction l with
  | nil =>
    intro a w L a' w' h
    cases L with
    | nil => exact ⟨rfl, fun i hi => ⟨a, w, by simp [LexRun], by simpa using h⟩⟩
    | cons x L => exact h.elim
  | cons o r ih =>
    intro a w L a' w' h
    cases L with
    | nil => exact h.elim
    | cons x L =>
      obtain ⟨h1, h2, h3, h4⟩ := h
      obtain ⟨h5, h6⟩ := ih _ _ _ _ _ h4
      refine ⟨by simp [h5], fun i hi => ?_⟩
      cases i with
      | zero => exact ⟨a, w, by simp [LexRun], by simpa using ⟨h1, h2, h3, h4⟩⟩
      | succ i =>
        obtain ⟨b, v, h7, h8⟩ := h6 i (by simpa using hi)
        exact ⟨b, v, ⟨h1, h2, h3, h7⟩, by simpa using h8⟩

section
variable (P : Program) (call : CallF) (all : List Oper) (L : List Ent) (a0 : Act) (w0 : World)
structure SlotsAt (T : Nat → Prop) (b : Act) : Prop where
  size : b.tmps.size = a0.tmps.size
  defers : b.defers = a0.defers
  done : ∀ (i : Nat) (o : Oper) (x : Ent) (t : Nat), T i → all[i]? = some o → L[i]? = some x → o.dst = some t → b.tmps[t]? = some x.v
  old : ∀ (t : Nat), (∀ (i : Nat) (o : Oper), T i → all[i]? = some o → o.dst ≠ some t) → b.tmps[t]? = a0.tmps[t]?
def Eff (i : Nat) : Prop := ∃ o, all[i]? = some o ∧ quietOp P o.op = false
def WorldOf (T : Nat → Prop) (W : World) : Prop :=
  (∃ m x, T m ∧ Eff P all m ∧ (∀ m', T m' → Eff P all m' → m' ≤ m) ∧ L[m]? = some x ∧ W = x.after) ∨ ((∀ m, T m → ¬ Eff P all m) ∧ W = w0)
variable {P call all L a0 w0}
theorem WorldOf.same {T T' : Nat → Prop} {W W' : World} (h : WorldOf P all L w0 T W) (h' : WorldOf P all L w0 T' W') (he : ∀ m, Eff P all m → (T m ↔ T' m)) : W = W' := by
  rcases h with ⟨m, x, h1, h2, h3, h4, rfl⟩ | ⟨h1, rfl⟩
  · rcases h' with ⟨m', x', h1', h2', h3', h4', rfl⟩ | ⟨h1', rfl⟩
    · have : m = m' := by
        have a1 := h3 m' ((he m' h2').mpr h1') h2'
        have a2 := h3' m ((he m h2).mp h1) h2
        omega
      subst this
      rw [h4] at h4'
      cases h4'
      rfl
    · exact absurd h2 (h1' m ((he m h2).mp h1))
  · rcases h' with ⟨m', x', h1', h2', h3', h4', rfl⟩ | ⟨h1', rfl⟩
    · exact absurd h2' (h1 m' ((he m' h2').mpr h1'))
    · rfl
theorem WorldOf.quiet {T : Nat → Prop} {W : World} {i : Nat} (h : WorldOf P all L w0 T W) (hi : ¬ Eff P all i) : WorldOf P all L w0 (fun j => T j ∨ j = i) W := by
  rcases h with ⟨m, x, h1, h2, h3, h4, rfl⟩ | ⟨h1, rfl⟩
  · exact .inl ⟨m, x, .inl h1, h2, fun m' hm he => by
      rcases hm with hm | rfl
      · exact h3 m' hm he
      · exact absurd he hi, h4, rfl⟩
  · exact .inr ⟨fun m hm he => by
      rcases hm with hm | rfl
      · exact h1 m hm he
      · exact hi he, rfl⟩
theorem WorldOf.eff {T : Nat → Prop} {i : Nat} {x : Ent} (hi : Eff P all i) (hlt : ∀ m, T m → Eff P all m → m < i) (hx : L[i]? = some x) : WorldOf P all L w0 (fun j => T j ∨ j = i) x.after :=
  .inl ⟨i, x, .inr rfl, hi, fun m hm he => by
    rcases hm with hm | rfl
    · exact Nat.le_of_lt (hlt m hm he)
    · exact Nat.le_refl _, hx, rfl⟩
theorem SlotsAt.put {T : Nat → Prop} {b : Act} {i : Nat} {o : Oper} {x : Ent} {nt : Nat} (h : SlotsAt all L a0 T b) (ho : all[i]? = some o) (hx : L[i]? = some x)
    (hone : ∀ (j : Nat) (q : Oper) (d : Nat), all[j]? = some q → j ≠ i → q.dst = some d → o.dst ≠ some d) (hnt : nt ≤ a0.tmps.size) (hd : ∀ d, o.dst = some d → d < nt) :
    SlotsAt all L a0 (fun j => T j ∨ j = i) (b.put o.dst x.v) := by
  have hk : Kept (dsts [o]) b (b.put o.dst x.v) := Kept.put _ _ _ fun n hn => by simp [dsts, hn]
  have hnot : ∀ t, o.dst ≠ some t → t ∉ dsts [o] := by
    intro t h1 h2
    simp only [dsts, List.filterMap_cons, List.filterMap_nil] at h2
    cases hod : o.dst with
    | none => simp [hod] at h2
    | some z => simp [hod] at h2; subst h2; exact h1 hod
  refine ⟨hk.size.trans h.size, hk.defers.trans h.defers, fun j q y t hj hq hy hqt => ?_, fun t ht => ?_⟩
  · by_cases hji : j = i
    · subst hji
      rw [ho] at hq; cases hq
      rw [hx] at hy; cases hy
      rw [hqt]
      have : t < b.tmps.size := by rw [h.size]; exact Nat.lt_of_lt_of_le (hd t hqt) hnt
      simp [Act.put, this]
    · rw [hk.same t (hnot t (hone j q t hq hji hqt))]
      exact h.done j q y t (hj.resolve_right hji) hq hy hqt
  · rw [hk.same t (hnot t (ht i o (.inr rfl) ho))]
    exact h.old t fun j q hj hq => ht j q (.inl hj) hq

/-- what the check of a region's text gives -/
structure Flat (P : Program) (all : List Oper) : Prop where
  sel : ∀ (j : Nat) (o : Oper) cs b, all[j]? = some o → o.op ≠ .select cs b
  back : ∀ (i : Nat) (o : Oper), all[i]? = some o → ∀ e ∈ o.after.toList, Region.binds .any e = true → e.on < i
  chain : ∀ (i j : Nat), Eff P all i → Eff P all j → i ≠ j → ((ancs all).getD i 0).testBit j = true ∨ ((ancs all).getD j 0).testBit i = true
  one : ∀ (i j : Nat) (o q : Oper) (d : Nat), all[i]? = some o → all[j]? = some q → j ≠ i → q.dst = some d → o.dst ≠ some d
  look : ∀ (i j : Nat) (o q : Oper) (d : Nat), all[i]? = some o → all[j]? = some q → j ≠ i → q.dst = some d → d ∈ looks all o → ((ancs all).getD i 0).testBit j = true ∨ ((ancs all).getD j 0).testBit i = true
theorem flat_of {P : Program} {all : List Oper} (h : flatOk P all = true) : Flat P all := by
  unfold flatOk at h
  simp only [Bool.and_eq_true] at h
  obtain ⟨hs, h⟩ := h
  rw [List.all_eq_true] at h
  have get : ∀ (i : Nat) (o : Oper), all[i]? = some o → (o.after.toList.all fun e => !Region.binds .any e || Nat.blt e.on i) = true ∧ ∀ (j : Nat) (q : Oper), all[j]? = some q →
      ((Nat.beq i j || quietOp P o.op || quietOp P q.op || ((ancs all).getD i 0).testBit j || ((ancs all).getD j 0).testBit i) = true ∧
      (match q.dst with
       | some d => (Nat.beq i j || o.dst != some d) && (!(looks all o).contains d || Nat.beq i j || ((ancs all).getD i 0).testBit j || ((ancs all).getD j 0).testBit i)
       | none => true) = true) := by
    intro i o ho
    have h1 := h (o, i) (by rw [List.mem_zipIdx_iff_getElem?]; exact ho)
    simp only [Bool.and_eq_true] at h1
    refine ⟨h1.1, fun j q hq => ?_⟩
    have h2 := List.all_eq_true.mp h1.2 (q, j) (by rw [List.mem_zipIdx_iff_getElem?]; exact hq)
    simp only [Bool.and_eq_true] at h2
    exact h2
  have nb : ∀ {i j : Nat}, j ≠ i → Nat.beq i j = false := by
    intro i j hij
    cases hb : Nat.beq i j with
    | false => rfl
    | true => exact absurd (Nat.eq_of_beq_eq_true hb).symm hij
  refine ⟨fun j o cs b ho => Region.noSelect_spec hs j o cs b (by simpa using ho), fun i o ho e he hb => ?_, fun i j ⟨o, ho, hoq⟩ ⟨q, hq, hqq⟩ hij => ?_, fun i j o q d ho hq hij hd => ?_, fun i j o q d ho hq hij hd hl => ?_⟩
  · have := List.all_eq_true.mp (get i o ho).1 e he
    simp only [hb, Bool.not_true, Bool.false_or] at this
    exact Nat.blt_eq.mp this
  · have := ((get i o ho).2 j q hq).1
    simpa [nb (Ne.symm hij), hoq, hqq] using this
  · have := ((get i o ho).2 j q hq).2
    simp only [hd, Bool.and_eq_true, nb hij, Bool.false_or, bne_iff_ne, ne_eq] at this
    exact this.1
  · have := ((get i o ho).2 j q hq).2
    simp only [hd, Bool.and_eq_true, nb hij, Bool.false_or] at this
    have h2 := this.2
    have hc : (looks all o).contains d = true := by simpa using hl
    rw [hc] at h2
    simpa only [Bool.not_true, Bool.false_or, Bool.or_eq_true] using h2

end

theorem loose_mem {P : Program} {all : List Oper} {i m : Nat} {o q : Oper} (ho : all[i]? = some o) (hq : all[m]? = some q) (h1 : quietOp P o.op = true) (h2 : pureOp P o.op = false) (h3 : quietOp P q.op = false)
    (h4 : ((ancs all).getD i 0).testBit m = false) (h5 : ((ancs all).getD m 0).testBit i = false) : (i, m) ∈ loose P all := by
  unfold loose
  simp only
  rw [List.mem_flatMap]
  refine ⟨(o, i), by rw [List.mem_zipIdx_iff_getElem?]; exact ho, ?_⟩
  simp only [h1, h2, Bool.not_false, Bool.and_self, if_true]
  rw [List.mem_filterMap]
  refine ⟨(q, m), by rw [List.mem_zipIdx_iff_getElem?]; exact hq, ?_⟩
  have : (quietOp P q.op || ((ancs all).getD i 0).testBit m || ((ancs all).getD m 0).testBit i) = false := by rw [h3, h4, h5]; rfl
  exact if_neg (by rw [this]; decide)
theorem chkAll_mem {log : List LogE} : ∀ {l : List (Nat × Nat)}, chkAll log l → ∀ r m, (r, m) ∈ l → ∃ x y, log[r]? = some x ∧ log[m]? = some y ∧ x.chk y.before ∧ x.chk y.after := by
  intro l
  induction l with
  | nil => intro _ r m h; simp at h
  | cons p rest ih =>
    intro h r m hm
    obtain ⟨h1, h2⟩ := h
    rcases List.mem_cons.mp hm with rfl | hm
    · simp only at h1
      split at h1
      · rename_i x y hx hy; exact ⟨x, y, hx, hy, h1.1, h1.2⟩
      · exact h1.elim
    · exact ih h2 r m hm

section
variable {P : Program} {call : CallF} {all : List Oper} {L : List Ent} {a0 : Act} {w0 : World}
/-- the frame and the world ahead of operation i, in the text's order -/
theorem lex_at (hF : Flat P all) {nt : Nat} (hreg : regionOk nt all = true) (hnt : nt ≤ a0.tmps.size) {a' : Act} {w' : World} (h : LexRun P call all all a0 w0 L a' w') :
    ∀ i, i ≤ all.length → ∃ b v, LexRun P call all (all.drop i) b v (L.drop i) a' w' ∧ SlotsAt all L a0 (fun j => j < i) b ∧ WorldOf P all L w0 (fun j => j < i) v := by
  obtain ⟨hlen, _⟩ := lex_split _ _ _ _ _ _ h
  intro i
  induction i with
  | zero =>
    intro _
    exact ⟨a0, w0, by simpa using h, ⟨rfl, rfl, fun j o x t hj => by omega, fun t _ => rfl⟩, .inr ⟨fun m hm => by omega, rfl⟩⟩
  | succ i ih =>
    intro hi
    obtain ⟨b, v, h1, h2, h3⟩ := ih (by omega)
    have ho : all[i]? = some all[i] := List.getElem?_eq_getElem (by omega)
    have hx : L[i]? = some (L[i]'(by omega)) := List.getElem?_eq_getElem (by omega)
    rw [List.drop_eq_getElem_cons (by omega : i < all.length), List.drop_eq_getElem_cons (by omega : i < L.length)] at h1
    obtain ⟨e1, e2, e3, e4⟩ := h1
    have hT : ∀ j, (j < i ∨ j = i) ↔ j < i + 1 := fun j => by omega
    have hT' : (fun j => j < i ∨ j = i) = (fun j => j < i + 1) := by funext j; exact propext (hT j)
    refine ⟨_, _, e4, ?_, ?_⟩
    · have := h2.put ho hx (fun j q d hq hj hd => hF.one i j _ q d ho hq hj hd) hnt (fun d hd => (regionOk_spec hreg ho).1 d hd)
      rw [hT'] at this
      exact this
    · by_cases he : Eff P all i
      · have := WorldOf.eff (P := P) (all := all) (w0 := w0) (T := fun j => j < i) he (fun m hm _ => hm) hx
        rw [hT'] at this
        exact this
      · have hq : quietOp P all[i].op = true := by
          cases hq : quietOp P all[i].op with
          | true => rfl
          | false => exact absurd ⟨_, ho, hq⟩ he
        have := h3.quiet he
        rw [hT'] at this
        rw [e3.quiet hq, e2]
        exact this

def un (listed : Array Bool) : Nat → Nat
  | 0 => 0
  | n + 1 => un listed n + if listed.getD n true = true then 0 else 1
theorem un_set {listed : Array Bool} {i : Nat} (hi : listed.getD i true = false) : ∀ n, i < n → un (listed.setIfInBounds i true) n + 1 = un listed n := by
  intro n
  induction n with
  | zero => intro h; omega
  | succ n ih =>
    intro h
    simp only [un]
    by_cases hin : i = n
    · subst hin
      have h1 : un (listed.setIfInBounds i true) i = un listed i := by
        have : ∀ k, k ≤ i → un (listed.setIfInBounds i true) k = un listed k := by
          intro k
          induction k with
          | zero => intro _; rfl
          | succ k ihk => intro hk; simp only [un]; rw [ihk (by omega), getD_set_ne true (by omega)]
        exact this i (Nat.le_refl _)
      have h2 : (listed.setIfInBounds i true).getD i true = true := by
        have := getD_set_true (i := i) (j := i) (listed := listed.setIfInBounds i true)
        by_cases hs : i < listed.size <;> simp [hs]
      rw [h1, h2, hi]
      simp
    · rw [getD_set_ne true hin]
      have := ih (by omega)
      omega
theorem un_zero {listed : Array Bool} : ∀ n, un listed n = 0 → ∀ i, i < n → listed.getD i true = true := by
  intro n
  induction n with
  | zero => intro _ i hi; omega
  | succ n ih =>
    intro h i hi
    simp only [un] at h
    split at h
    · rename_i hn
      by_cases hin : i = n
      · subst hin; exact hn
      · exact ih (by omega) i (by omega)
    · omega

theorem exec_wp {P : Program} {call : CallF} (hc : CallOk P call) {Q : Exit → Act → World → Prop} {o : Oper} {a : Act} {w w' : World} {v : Value} (h : Exec3 P call o a w v w') (K : Act → World → Prop) (hK : K (a.put o.dst v) w') : o.wp P a w K Q := by
  unfold Oper.wp
  rcases h with h1 | ⟨h1, rfl⟩ | ⟨f, args, h1, hf⟩
  · rw [h1]; exact hK
  · rw [h1]; exact hK
  · rw [h1]
    exact (hc.calls f args w _ hf).mono fun e w'' ⟨he, hw⟩ => by subst he; subst hw; exact hK

theorem any_order (hc : CallOk P call) (hF : Flat P all) {nt : Nat} (hreg : regionOk nt all = true) (hnt : nt ≤ a0.tmps.size) {a' : Act} {w' : World} (hL : LexRun P call all all a0 w0 L a' w')
    (hchk : ∀ i m, (i, m) ∈ loose P all → ∃ x y, L[i]? = some x ∧ L[m]? = some y ∧ x.chk y.before ∧ x.chk y.after)
    {Q : Exit → Act → World → Prop} (hQ : ∀ b W, SlotsAt all L a0 (fun j => j < all.length) b → WorldOf P all L w0 (fun j => j < all.length) W → Q .normal b W) :
    ∀ (fuel : Nat) (listed : Array Bool) (b : Act) (W : World), listed.size = all.length → un listed all.length = fuel → Closed all (fun j => listed.getD j false = true) →
      SlotsAt all L a0 (fun j => listed.getD j false = true) b → WorldOf P all L w0 (fun j => listed.getD j false = true) W →
      wpAny P .any all.toArray Q fuel listed b W := by
  obtain ⟨hlen, _⟩ := lex_split _ _ _ _ _ _ hL
  have hin : ∀ (listed : Array Bool) j, listed.size = all.length → listed.getD j false = true → j < all.length := by
    intro listed j hs h
    rcases Nat.lt_or_ge j listed.size with h' | h'
    · omega
    · simp [Array.getElem?_eq_none h'] at h
  have hgd : ∀ (listed : Array Bool) j, listed.size = all.length → j < all.length → listed.getD j true = listed.getD j false := by
    intro listed j hs hj
    simp [show j < listed.size by omega]
  -- all are listed, when none is ready
  have hdone : ∀ (listed : Array Bool), listed.size = all.length → Region.ready .any all.toArray listed = [] → ∀ j, j < all.length → listed.getD j false = true := by
    intro listed hs hr j
    induction j using Nat.strongRecOn with
    | _ j ih =>
      intro hj
      cases hl : listed.getD j false with
      | true => rfl
      | false =>
        have ho : all[j]? = some all[j] := List.getElem?_eq_getElem hj
        have : j ∈ Region.ready .any all.toArray listed := mem_ready.mpr ⟨by rw [hgd listed j hs hj]; exact hl, all[j], by simp [hj], fun e he hb => by
          have hlt := hF.back j _ ho e (by simpa using he) hb
          exact ih e.on hlt (by omega)⟩
        rw [hr] at this
        cases this
  have hfin : ∀ (listed : Array Bool) (b : Act) (W : World), listed.size = all.length → (∀ j, j < all.length → listed.getD j false = true) →
      SlotsAt all L a0 (fun j => listed.getD j false = true) b → WorldOf P all L w0 (fun j => listed.getD j false = true) W → Q .normal b W := by
    intro listed b W hs hall h1 h2
    have : (fun j => listed.getD j false = true) = (fun j => j < all.length) := by
      funext j
      exact propext ⟨hin listed j hs, hall j⟩
    rw [this] at h1 h2
    exact hQ b W h1 h2
  intro fuel
  induction fuel with
  | zero =>
    intro listed b W hs hu hcl h1 h2
    have hall : ∀ j, j < all.length → listed.getD j false = true := fun j hj => by rw [← hgd listed j hs hj]; exact un_zero _ hu j hj
    refine ⟨?_, hfin listed b W hs hall h1 h2⟩
    cases hr : Region.ready .any all.toArray listed with
    | nil => rfl
    | cons j r =>
      have hj : j ∈ Region.ready .any all.toArray listed := by rw [hr]; simp
      obtain ⟨h3, o, ho, _⟩ := mem_ready.mp hj
      have hjl : j < all.length := (List.getElem?_eq_some_iff.mp (by simpa using ho)).1
      rw [hgd listed j hs hjl, hall j hjl] at h3
      cases h3
  | succ fuel ih =>
    intro listed b W hs hu hcl h1 h2
    refine ⟨fun hr => hfin listed b W hs (hdone listed hs hr) h1 h2, fun i hi => ?_⟩
    obtain ⟨hun, o, ho', hdep'⟩ := mem_ready.mp hi
    have ho : all[i]? = some o := by simpa using ho'
    have hil : i < all.length := (List.getElem?_eq_some_iff.mp ho).1
    have hdep : Deps all (fun j => listed.getD j false = true) i := fun q hq e he hb => by
      rw [ho] at hq; cases hq
      exact hdep' e (by simpa using he) hb
    have hunF : listed.getD i false = false := by rw [← hgd listed i hs hil]; exact hun
    have hx : L[i]? = some (L[i]'(by omega)) := List.getElem?_eq_getElem (by omega)
    obtain ⟨bi, vi, l1, l2, l3⟩ := lex_at hF hreg hnt hL i (by omega)
    rw [List.drop_eq_getElem_cons hil, List.drop_eq_getElem_cons (by omega : i < L.length)] at l1
    have hoe : all[i] = o := Option.some.inj ((List.getElem?_eq_getElem hil).symm.trans ho)
    rw [hoe] at l1
    obtain ⟨e1, e2, e3, _⟩ := l1
    generalize L[i]'(by omega) = x at hx e1 e2 e3
    subst e1 e2
    have ancIn := anc_in hF.back hcl
    have ancLt : ∀ k j, k < all.length → ((ancs all).getD k 0).testBit j = true → j < k := fun k j hk hb =>
      (anc_in hF.back (S := fun _ => True) (fun _ _ _ _ _ _ _ => trivial) k hk (fun _ _ _ _ _ => trivial) j hb).2
    have notAnc : ∀ m, listed.getD m false = true → ((ancs all).getD m 0).testBit i = false := by
      intro m hm
      cases hb : ((ancs all).getD m 0).testBit i with
      | false => rfl
      | true =>
        have hml := hin listed m hs hm
        have := (ancIn m hml (fun q hq e he hb => hcl m q hm hq e he hb) i hb).1
        rw [hunF] at this
        cases this
    have iAnc : ∀ m, ((ancs all).getD i 0).testBit m = true → listed.getD m false = true := fun m hm => (ancIn i hil hdep m hm).1
    -- the slots that it looks at are as in the text's order
    have same : ∀ t ∈ looks all o, b.tmps[t]? = x.act.tmps[t]? := by
      intro t ht
      by_cases hw : ∃ (j : Nat) (q : Oper), all[j]? = some q ∧ q.dst = some t
      · obtain ⟨j, q, hq, hqt⟩ := hw
        have hjl : j < all.length := (List.getElem?_eq_some_iff.mp hq).1
        have sole : ∀ (k : Nat) (z : Oper), all[k]? = some z → k ≠ j → z.dst ≠ some t := fun k z hz hk => hF.one k j z q t hz hq (Ne.symm hk) hqt
        have none_of : ∀ (T : Nat → Prop) (c : Act), SlotsAt all L a0 T c → ¬ T j → c.tmps[t]? = a0.tmps[t]? := fun T c hc hj => hc.old t fun k z hk hz => by
          by_cases hkj : k = j
          · subst hkj; exact absurd hk hj
          · exact sole k z hz hkj
        have some_of : ∀ (T : Nat → Prop) (c : Act), SlotsAt all L a0 T c → T j → c.tmps[t]? = some (L[j]'(by omega)).v := fun T c hc hj =>
          hc.done j q _ t hj hq (List.getElem?_eq_getElem (by omega)) hqt
        by_cases hji : j = i
        · subst hji
          rw [none_of _ _ h1 (by simp [hunF]), none_of _ _ l2 (by omega)]
        · rcases hF.look i j o q t ho hq hji hqt ht with ha | ha
          · rw [some_of _ _ h1 (iAnc j ha), some_of _ _ l2 (ancLt i j hil ha)]
          · have hij := ancLt j i hjl ha
            rw [none_of _ _ h1 (fun hj => by rw [notAnc j hj] at ha; cases ha), none_of _ _ l2 (by omega)]
      · have no : ∀ (T : Nat → Prop) (c : Act), SlotsAt all L a0 T c → c.tmps[t]? = a0.tmps[t]? := fun T c hc => hc.old t fun k z _ hz hzt => hw ⟨k, z, hz, hzt⟩
        rw [no _ _ h1, no _ _ l2]
    have hex : execOp b.eval o = execOp x.act.eval o := by
      refine execOp_congr o (fun cs bb => hF.sel i o cs bb ho) fun y hy => ?_
      cases y with
      | tmp t =>
        have : t ∈ looks all o := List.mem_append_left _ (List.mem_filterMap.mpr ⟨.tmp t, by simpa using hy, rfl⟩)
        simp only [Act.eval, Array.getD_eq_getD_getElem?, same t this]
      | _ => rfl
    have hwant : Region.wanted o (yielded all.toArray b.tmps) = x.g := by
      rw [← e3.want]
      unfold Region.wanted
      cases hg : o.guard with
      | none => rfl
      | some jw =>
        obtain ⟨j, want⟩ := jw
        obtain ⟨_, d, hd⟩ := (regionOk_spec hreg ho).2 j want hg
        simp only [yielded_of hd]
        have : d ∈ looks all o := List.mem_append_right _ (by simp [hg, hd.1])
        rw [same d this]
    have conv : ∀ {W v W'}, Exec3 P call o x.act W v W' → Exec3 P call o b W v W' := by
      intro W v W' h
      unfold Exec3 at *
      rw [hex]
      exact h
    have hT : (fun j => (listed.setIfInBounds i true).getD j false = true) = (fun j => listed.getD j false = true ∨ j = i) := by
      funext j
      refine propext ⟨fun h => ?_, fun h => ?_⟩
      · by_cases hji : j = i
        · exact .inr hji
        · rw [getD_set_ne false (Ne.symm hji)] at h; exact .inl h
      · rcases h with h | rfl
        · exact getD_set_true h
        · simp [show j < listed.size by omega]
    have hcl' : Closed all (fun j => (listed.setIfInBounds i true).getD j false = true) := by
      rw [hT]
      intro k q hk hq e he hb
      rcases hk with hk | rfl
      · exact .inl (hcl k q hk hq e he hb)
      · exact .inl (hdep q hq e he hb)
    have hslots : SlotsAt all L a0 (fun j => (listed.setIfInBounds i true).getD j false = true) (b.put o.dst x.v) := by
      rw [hT]
      exact h1.put ho hx (fun j q d hq hj hd => hF.one i j o q d ho hq hj hd) hnt (regionOk_spec hreg ho).1
    have next : ∀ W', WorldOf P all L w0 (fun j => listed.getD j false = true ∨ j = i) W' → wpAny P .any all.toArray Q fuel (listed.setIfInBounds i true) (b.put o.dst x.v) W' := by
      intro W' hW'
      refine ih _ _ _ (by simpa using hs) ?_ hcl' hslots (by rw [hT]; exact hW')
      have := un_set hun all.length hil
      omega
    unfold wpOp
    simp only [ho', hwant]
    by_cases he : Eff P all i
    · -- it may change the world: all such ahead of it are done, none behind it
      have hW : W = x.before := by
        refine h2.same l3 fun m hm => ⟨fun h => ?_, fun h => ?_⟩
        · have hmi : m ≠ i := fun h' => by subst h'; rw [hunF] at h; cases h
          rcases hF.chain m i hm he hmi with ha | ha
          · rw [notAnc m h] at ha; cases ha
          · exact ancLt i m hil ha
        · have hmi : m ≠ i := by omega
          have hm' := hm
          obtain ⟨q, hq, _⟩ := hm
          have hml : m < all.length := (List.getElem?_eq_some_iff.mp hq).1
          rcases hF.chain m i hm' he hmi with ha | ha
          · have := ancLt m i hml ha; omega
          · exact iAnc m ha
      subst hW
      have hlt : ∀ m, listed.getD m false = true → Eff P all m → m < i := by
        intro m h hm
        have hmi : m ≠ i := fun h' => by subst h'; rw [hunF] at h; cases h
        rcases hF.chain m i hm he hmi with ha | ha
        · rw [notAnc m h] at ha; cases ha
        · exact ancLt i m hil ha
      have hnext := next x.after (WorldOf.eff he hlt hx)
      cases hg : x.g with
      | true => simp only [if_true]; exact .inl (exec_wp hc (conv (e3.exec hg)) _ hnext)
      | false =>
        simp only [Bool.false_eq_true, if_false]
        obtain ⟨g1, g2⟩ := e3.none hg
        rw [g1, g2] at hnext
        exact hnext
    · have hq : quietOp P o.op = true := by
        cases hq : quietOp P o.op with
        | true => rfl
        | false => exact absurd ⟨o, ho, hq⟩ he
      have hnext := next W (h2.quiet he)
      cases hg : x.g with
      | false =>
        simp only [Bool.false_eq_true, if_false]
        obtain ⟨g1, _⟩ := e3.none hg
        rw [g1] at hnext
        exact hnext
      | true =>
        simp only [if_true]
        refine .inl (exec_wp hc (conv ?_) _ hnext)
        cases hp : pureOp P o.op with
        | true => exact e3.pure hg hp W
        | false =>
          -- it reads
          have ck : ∀ m, Eff P all m → ((ancs all).getD i 0).testBit m = false → ((ancs all).getD m 0).testBit i = false → ∃ y, L[m]? = some y ∧ x.chk y.before ∧ x.chk y.after := by
            intro m ⟨q, hq1, hq2⟩ b1 b2
            obtain ⟨x', y, c1, c2, c3, c4⟩ := hchk i m (loose_mem ho hq1 hq hp hq2 b1 b2)
            rw [hx] at c1; cases c1
            exact ⟨y, c2, c3, c4⟩
          by_cases hbig : ∃ m, listed.getD m false = true ∧ Eff P all m ∧ i < m
          · -- one behind it is done already: the world is what the last of them left
            obtain ⟨m, m1, m2, m3⟩ := hbig
            rcases h2 with ⟨M, y, y1, y2, y3, y4, rfl⟩ | ⟨y1, _⟩
            · have hMi : i < M := Nat.lt_of_lt_of_le m3 (y3 m m1 m2)
              have hMl := hin listed M hs y1
              obtain ⟨y', c1, _, c3⟩ := ck M y2 (by
                cases hb : ((ancs all).getD i 0).testBit M with
                | false => rfl
                | true => have := ancLt i M hil hb; omega) (notAnc M y1)
              rw [y4] at c1; cases c1
              exact e3.chk hg hq _ c3
            · exact absurd m2 (y1 m m1)
          · have hsmall : ∀ m, listed.getD m false = true → Eff P all m → m < i := by
              intro m h hm
              rcases Nat.lt_trichotomy m i with h' | h' | h'
              · exact h'
              · subst h'; rw [hunF] at h; cases h
              · exact absurd ⟨m, h, hm, h'⟩ hbig
            by_cases hall : ∀ m, m < i → Eff P all m → listed.getD m false = true
            · have hW : W = x.before := h2.same l3 fun m hm => ⟨fun h => hsmall m h hm, fun h => hall m h hm⟩
              subst hW
              have := e3.exec hg
              rw [e3.quiet hq] at this
              exact this
            · -- one ahead of it is not done yet: the least of them has still the world of now ahead of it
              have hex2 : ∃ m, m < i ∧ Eff P all m ∧ listed.getD m false = false := by
                refine Classical.byContradiction fun hn => hall fun m hm he => ?_
                cases hl : listed.getD m false with
                | true => rfl
                | false => exact absurd ⟨m, hm, he, hl⟩ hn
              have least : ∃ m, (m < i ∧ Eff P all m ∧ listed.getD m false = false) ∧ ∀ k, k < m → ¬ (k < i ∧ Eff P all k ∧ listed.getD k false = false) := by
                obtain ⟨m, hm⟩ := hex2
                induction m using Nat.strongRecOn with
                | _ m ihm =>
                  by_cases hk : ∃ k, k < m ∧ (k < i ∧ Eff P all k ∧ listed.getD k false = false)
                  · obtain ⟨k, k1, k2⟩ := hk
                    exact ihm k k1 k2
                  · exact ⟨m, hm, fun k k1 k2 => hk ⟨k, k1, k2⟩⟩
              obtain ⟨m, ⟨m1, m2, m3⟩, m4⟩ := least
              have hml : m < all.length := by omega
              obtain ⟨y, c1, c2, _⟩ := ck m m2 (by
                cases hb : ((ancs all).getD i 0).testBit m with
                | false => rfl
                | true => have := iAnc m hb; rw [m3] at this; cases this) (by
                cases hb : ((ancs all).getD m 0).testBit i with
                | false => rfl
                | true => have := ancLt m i hml hb; omega)
              obtain ⟨bm, vm, n1, _, n3⟩ := lex_at hF hreg hnt hL m (by omega)
              rw [List.drop_eq_getElem_cons hml, List.drop_eq_getElem_cons (by omega : m < L.length)] at n1
              obtain ⟨_, n2, _, _⟩ := n1
              have hym : L[m]'(by omega) = y := Option.some.inj ((List.getElem?_eq_getElem (by omega)).symm.trans c1)
              rw [hym] at n2
              have hW : W = y.before := by
                rw [n2]
                refine h2.same n3 fun k hk => ⟨fun h => ?_, fun h => ?_⟩
                · have hkm : k ≠ m := fun h' => by subst h'; rw [m3] at h; cases h
                  rcases hF.chain k m hk m2 hkm with ha | ha
                  · have hkl := hin listed k hs h
                    have := (ancIn k hkl (fun q hq e he hb => hcl k q h hq e he hb) m ha).1
                    rw [m3] at this
                    cases this
                  · exact ancLt m k hml ha
                · cases hl : listed.getD k false with
                  | true => rfl
                  | false => exact absurd ⟨by omega, hk, hl⟩ (m4 k h)
              rw [hW]
              exact e3.chk hg hq _ c2

theorem last_same (hF : Flat P all) {nt : Nat} (hreg : regionOk nt all = true) (hnt : nt ≤ a0.tmps.size) {a' : Act} {w' : World} (hL : LexRun P call all all a0 w0 L a' w') {b : Act} {W : World}
    (h1 : SlotsAt all L a0 (fun j => j < all.length) b) (h2 : WorldOf P all L w0 (fun j => j < all.length) W) : W = w' ∧ (∀ t : Nat, b.tmps[t]? = a'.tmps[t]?) ∧ Kept (dsts all) a0 b := by
  obtain ⟨hlen, _⟩ := lex_split _ _ _ _ _ _ hL
  obtain ⟨c, v, l1, l2, l3⟩ := lex_at hF hreg hnt hL all.length (Nat.le_refl _)
  rw [List.drop_eq_nil_of_le (Nat.le_refl _), List.drop_eq_nil_of_le (by omega)] at l1
  obtain ⟨rfl, rfl⟩ := l1
  refine ⟨h2.same l3 fun _ _ => Iff.rfl, fun t => ?_, h1.size, h1.defers, fun t ht => h1.old t fun i o _ ho hd => ht (List.mem_filterMap.mpr ⟨o, List.mem_of_getElem? ho, hd⟩)⟩
  by_cases hw : ∃ (j : Nat) (q : Oper), all[j]? = some q ∧ q.dst = some t
  · obtain ⟨j, q, hq, hqt⟩ := hw
    have hjl : j < all.length := (List.getElem?_eq_some_iff.mp hq).1
    have hx : L[j]? = some (L[j]'(by omega)) := List.getElem?_eq_getElem (by omega)
    rw [h1.done j q _ t hjl hq hx hqt, l2.done j q _ t hjl hq hx hqt]
  · rw [h1.old t fun k z _ hz hzt => hw ⟨k, z, hz, hzt⟩, l2.old t fun k z _ hz hzt => hw ⟨k, z, hz, hzt⟩]
end
end Go.Sh

namespace Go.Sh
open Go
set_option linter.unusedVariables false
set_option linter.unusedSimpArgs false

/-! ### steps -/
def wpStep (P : Program) (Q : Exit → Act → World → Prop) (o : Oper) (K : Act → World → Prop) (a : Act) (w : World) : Prop := o.wp P a w K Q ∨ (o.asks P a w ∧ LetsOut Q)
def bothStep (P : Program) (Q : Exit → Act → World → Prop) (o : Oper) (K : Act → World → Prop) (a : Act) (w : World) : Prop :=
  (quietOp P o.op = true → o.still P a w (fun a' => K a' w)) ∧ wpStep P Q o K a w

section
variable {P : Program} {call : CallF}
theorem wpStep_ok (hc : CallOk P call) {Q : Exit → Act → World → Prop} {o : Oper} {e : Env} {w w' : World} {v : Value} (h : ExecTo P call o e w v w') (K : Act → World → Prop) (a : Act) (ha : Agree e a) (hK : K (a.put o.dst v) w') :
    wpStep P Q o K a w := by
  refine .inl ?_
  unfold Oper.wp
  rcases h a ha with h1 | ⟨h1, rfl⟩ | ⟨f, args, h1, hf⟩
  · rw [h1]; exact hK
  · rw [h1]; exact hK
  · rw [h1]
    exact (hc.calls f args w _ hf).mono fun e w'' ⟨he, hw⟩ => by subst he; subst hw; exact hK
theorem steps_wp (hc : CallOk P call) (all : List Oper) (Q : Exit → Act → World → Prop) : Steps1 P call all (wpStep P Q) where
  mono := fun o K K' a w h hh => hh.imp (Oper.wp_mono h) id
  ok := fun o _ e w v w' h _ _ K a ha hK => wpStep_ok hc h K a ha hK
theorem steps_both (hc : CallOk P call) (all : List Oper) (Q : Exit → Act → World → Prop) : Steps1 P call all (bothStep P Q) where
  mono := fun o K K' a w h hh => ⟨fun q => Oper.still_mono (fun a' => h a' w) (hh.1 q), hh.2.imp (Oper.wp_mono h) id⟩
  ok := fun o _ e w v w' h hq _ K a ha hK => ⟨fun q => by
    obtain ⟨rfl, h2⟩ := hq q
    unfold Oper.still
    rcases h2 a ha with h1 | ⟨h1, rfl⟩
    · rw [h1]; exact ⟨rfl, hK⟩
    · rw [h1]; exact ⟨rfl, hK⟩, wpStep_ok hc h K a ha hK⟩

theorem wpList_of_wpG {Q : Exit → Act → World → Prop} {ops : Array Oper} : ∀ (l : List Oper) (a : Act) (w : World), wpG (wpStep P Q) ops l (Q .normal) a w → wpList P ops Q l a w := by
  intro l
  induction l with
  | nil => intro a w h; exact h
  | cons o r ih =>
    intro a w h
    simp only [wpG, wpList] at h ⊢
    split
    · rename_i hw; simp only [hw, if_true] at h; exact h.imp (Oper.wp_mono ih) id
    · rename_i hw; simp only [hw] at h; exact ih _ _ h
theorem wpList_of_both {Q : Exit → Act → World → Prop} {ops : Array Oper} : ∀ (l : List Oper) (a : Act) (w : World), wpG (bothStep P Q) ops l (Q .normal) a w → wpList P ops Q l a w := by
  intro l
  induction l with
  | nil => intro a w h; exact h
  | cons o r ih =>
    intro a w h
    simp only [wpG, wpList] at h ⊢
    split
    · rename_i hw; simp only [hw, if_true] at h; exact h.2.imp (Oper.wp_mono ih) id
    · rename_i hw; simp only [hw] at h; exact ih _ _ h
theorem wpStill_of_both {Q : Exit → Act → World → Prop} {ops : Array Oper} {w : World} (m : List Oper) : ∀ (l : List Oper) (a : Act), (∀ o ∈ l, quietOp P o.op = true) → wpG (bothStep P Q) ops (l ++ m) (Q .normal) a w →
    wpStill P ops w (fun a' => wpList P ops Q m a' w) l a := by
  intro l
  induction l with
  | nil => intro a _ h; exact wpList_of_both m a w h
  | cons o r ih =>
    intro a hq h
    simp only [List.cons_append, wpG, wpStill] at h ⊢
    split
    · rename_i hw; simp only [hw, if_true] at h; exact Oper.still_mono (fun a' => ih a' fun o ho => hq o (by simp [ho])) (h.1 (hq o (by simp)))
    · rename_i hw; simp only [hw] at h; exact ih _ (fun o ho => hq o (by simp [ho])) h

/-- a region -/
theorem region_ok (hc : CallOk P call) (hm : P.follows .mixedOrders = true) {nt id : Nat} {ops : Array Oper} {draw : Bool} {rs : List Nat} {x : Ann} {c : Ctx} {e : Env} {w : World} {k : Env → World → Option Res} {r : Res}
    (h : aCode P call rs nt (.region id ops draw) x c e w k = some r) :
    ∀ (Q : Exit → Act → World → Prop) (a : Act), nt ≤ a.tmps.size → Agree e a →
      (∀ e' w', k e' w' = some r → ∀ a', Kept (dsts ops.toList) a a' → Agree e' a' → Q .normal a' w') → (Code.region id ops draw).wp P Q a w := by
  intro Q a hnt ha hQ
  simp only [Option.ebind_eq, aCode] at h
  split at h
  case isFalse => cases h
  rename_i hreg
  have hidx : ∀ m, m < ops.toList.length → ops.toList[0 + m]? = ops.toList[m]? := fun m _ => by rw [Nat.zero_add]
  have hst : StripOk ops.toList [] 0 a := fun j b h => by simp [inStrip] at h
  cases draw with
  | false =>
    simp only at h
    obtain ⟨e', w', h1, h2⟩ := aOps_ok hc hreg (steps_wp hc ops.toList Q) _ 0 _ [] e w k r h hidx
    refine wp_region ?_
    have := wpList_of_wpG _ _ _ (h2 (Q .normal) a hnt ha hst (hQ e' w' h1))
    have e1 := wpOps_eq_wpList (P := P) (Q := Q) (ops := ops) ops.toList 0 (fun j => by simp)
    rw [Array.toArray_toList] at this
    rw [← e1] at this
    simpa [List.range_eq_range'] using this
  | true =>
    simp only at h
    split at h
    case isFalse =>
      split at h
      case isFalse => cases h
      rename_i hflat
      have hF := flat_of hflat
      obtain ⟨logs, e', w', h1, h2⟩ := aFlat_ok hc hreg ops.toList 0 e w.drew [] _ r hidx h
      simp only [List.nil_append] at h1
      unfold chkThen at h1
      split at h1
      case isFalse => cases h1
      rename_i hchk
      obtain ⟨L, a', l1, l2, l3, l4⟩ := h2 a hnt ha
      have ck : ∀ i m, (i, m) ∈ loose P ops.toList → ∃ x y, L[i]? = some x ∧ L[m]? = some y ∧ x.chk y.before ∧ x.chk y.after := by
        intro i m him
        obtain ⟨x, y, c1, c2, c3, c4⟩ := chkAll_mem hchk i m him
        rw [l3, List.getElem?_map, Option.map_eq_some_iff] at c1 c2
        obtain ⟨x', d1, rfl⟩ := c1
        obtain ⟨y', d2, rfl⟩ := c2
        exact ⟨x', y', d1, d2, c3, c4⟩
      refine wp_region_any hm ?_
      have key := any_order hc hF hreg hnt l1 ck (Q := Q) (fun b W b1 b2 => by
        obtain ⟨rfl, f2, f3⟩ := last_same hF hreg hnt l1 b1 b2
        exact hQ e' W h1 b f3 fun t v ht => by rw [f2 t]; exact l2 t v ht)
        ops.toList.length (Array.replicate ops.size false) a w.drew (by simp) ?_ ?_ ?_ ?_
      · rw [Array.toArray_toList] at key
        simpa using key
      · have : ∀ n, n ≤ ops.size → un (Array.replicate ops.size false) n = n := by
          intro n
          induction n with
          | zero => intro _; rfl
          | succ n ih => intro hn; simp only [un]; rw [ih (by omega)]; simp [show n < ops.size by omega]
        simpa using this ops.size (Nat.le_refl _)
      · intro i o hi; exact absurd hi (by rw [getD_replicate_false]; decide)
      · exact ⟨rfl, rfl, fun i o x t hi => absurd hi (by simp only [getD_replicate_false]; decide), fun t _ => rfl⟩
      · exact .inr ⟨fun m hm => absurd hm (by simp only [getD_replicate_false]; decide), rfl⟩
    rename_i hdraw
    obtain ⟨e', w', h1, h2⟩ := aOps_ok hc hreg (steps_both hc ops.toList Q) _ 0 _ [] e w.drew k r h hidx
    have h3 := h2 (Q .normal) a hnt ha hst (hQ e' w' h1)
    unfold drawOk at hdraw
    rw [Bool.or_eq_true] at hdraw
    have hlit : (Code.region id ops true) = Code.region id ops.toList.toArray true := by rw [Array.toArray_toList]
    rw [hlit]
    rcases hdraw with hd | hd
    · rw [Bool.and_eq_true] at hd
      refine wp_region_still_lit hm hd.2 ?_
      have := wpStill_of_both [] ops.toList a (fun o ho => List.all_eq_true.mp hd.1 o ho) (by simpa using h3)
      exact this
    · refine wp_region_still_tail (tailFrom P ops.toList) hm hd ?_
      refine wpStill_of_both (ops.toList.drop (tailFrom P ops.toList)) (ops.toList.take (tailFrom P ops.toList)) a (fun o ho => ?_) (by simpa using h3)
      unfold tailFrom at ho
      have htw : ∀ (l : List Oper), l.take (l.takeWhile fun o => quietOp P o.op).length = l.takeWhile fun o => quietOp P o.op := by
        intro l
        induction l with
        | nil => rfl
        | cons q r ih =>
          by_cases hq : quietOp P q.op = true
          · simp [hq, ih]
          · simp [hq]
      rw [htw] at ho
      have : ∀ (l : List Oper), ∀ o ∈ l.takeWhile (fun o => quietOp P o.op), quietOp P o.op = true := by
        intro l
        induction l with
        | nil => intro o h; simp at h
        | cons q r ih =>
          intro o h
          by_cases hq : quietOp P q.op = true
          · simp only [List.takeWhile_cons, hq, if_true, List.mem_cons] at h
            rcases h with rfl | h
            · exact hq
            · exact ih o h
          · simp [hq] at h
      exact this _ o ho
end

/-! ### loops -/
theorem rounds_of_iter {f : List Value → World → Option Res} {vs : List Value} {w : World} {r : Res} (h : iter f vs w = some r) : Rounds f vs w r := by
  unfold iter at h
  split at h
  · rename_i hr; simp only [Option.some.injEq] at h; rw [← h]; exact Classical.choose_spec hr
  · cases h
theorem Rounds.one {f : List Value → World → Option Res} {vs : List Value} {w : World} {r r' : Res} (h : Rounds f vs w r) (h' : Rounds f vs w r') : r = r' := by
  induction h with
  | more h _ ih =>
    cases h' with
    | more g g' => rw [h] at g; cases g; exact ih g'
    | exit g => rw [h] at g; cases g
    | ret g => rw [h] at g; cases g
  | exit h =>
    cases h' with
    | more g _ => rw [h] at g; cases g
    | exit g => rw [h] at g; cases g; rfl
    | ret g => rw [h] at g; cases g
  | ret h =>
    cases h' with
    | more g _ => rw [h] at g; cases g
    | exit g => rw [h] at g; cases g
    | ret g => rw [h] at g; cases g; rfl
theorem iter_of_rounds {f : List Value → World → Option Res} {vs : List Value} {w : World} {r : Res} (h : Rounds f vs w r) : iter f vs w = some r := by
  unfold iter
  have hr : ∃ r, Rounds f vs w r := ⟨r, h⟩
  rw [dif_pos hr, (Classical.choose_spec hr).one h]
theorem Rounds.mono {f f' : List Value → World → Option Res} (hf : ∀ vs w r, f vs w = some r → f' vs w = some r) {vs : List Value} {w : World} {r : Res} (h : Rounds f vs w r) : Rounds f' vs w r := by
  induction h with
  | more h _ ih => exact .more (hf _ _ _ h) ih
  | exit h => exact .exit (hf _ _ _ h)
  | ret h => exact .ret (hf _ _ _ h)

/-! ### code -/
/-- the slots hold these values -/
def Has (K : List Nat) (vs : List Value) (a : Act) : Prop := vs.length = K.length ∧ ∀ (i t : Nat), K[i]? = some t → a.tmps[t]? = some (nth vs i)
theorem gets_length {e : Env} : ∀ {K : List Nat} {vs : List Value}, gets e K = some vs → vs.length = K.length := by
  intro K
  induction K with
  | nil => intro vs h; simp only [gets, Option.some.injEq] at h; subst h; rfl
  | cons x r ih =>
    intro vs h
    simp only [gets, Option.bind_eq_some_iff, Option.some.injEq] at h
    obtain ⟨v, _, ws, h2, rfl⟩ := h
    simp [ih h2]
theorem Has.of {e : Env} {a : Act} (ha : Agree e a) {K : List Nat} {vs : List Value} (h : gets e K = some vs) : Has K vs a := ⟨gets_length h, fun i t ht => ha.gets h i t ht⟩
theorem Has.agree {K : List Nat} {vs : List Value} {a : Act} (h : Has K vs a) : Agree (ofList 0 K vs) a := agree_ofList fun i t ht => by simpa using h.2 i t ht
/-- a frame that a body leads to from another -/
structure From (nt : Nat) (ds : List Deferred) (a : Act) : Prop where
  size : nt ≤ a.tmps.size
  defers : a.defers = ds

theorem keep_cons {id : Nat} {K : List Nat} {c : Ctx} (i : Nat) : Ctx.keep ((id, K) :: c) i = if id = i then some K else Ctx.keep c i := rfl

theorem aCode_ok {P : Program} {call : CallF} (hc : CallOk P call) (hm : P.follows .mixedOrders = true) {rs : List Nat} {nt : Nat} {ds : List Deferred} :
    ∀ (c : Code) (x : Ann) (ctx : Ctx) (e : Env) (w : World) (k : Env → World → Option Res) (r : Res), aCode P call rs nt c x ctx e w k = some r →
      ∀ (Q : Exit → Act → World → Prop) (a : Act), From nt ds a → Agree e a →
        (∀ e' w', k e' w' = some r → ∀ a', From nt ds a' → Agree e' a' → Q .normal a' w') →
        (∀ id vs w', r = .exit id vs w' → ∀ K, Ctx.keep ctx id = some K → ∀ a', From nt ds a' → Has K vs a' → Q (.exit id) a' w') →
        (∀ vs w', r = .ret vs w' → ∀ a', From nt ds a' → Has rs vs a' → Q .ret a' w') →
        c.wp P Q a w := by
  intro c
  induction c with
  | skip => intro x ctx e w k r h Q a hf ha hk _ _; exact wp_skip (hk e w (by simpa [Option.ebind_eq, aCode] using h) a hf ha)
  | label l => intro x ctx e w k r h Q a hf ha hk _ _; exact wp_label (hk e w (by simpa [Option.ebind_eq, aCode] using h) a hf ha)
  | region id ops draw =>
    intro x ctx e w k r h Q a hf ha hk _ _
    exact region_ok hc hm h Q a hf.size ha fun e' w' h1 a' h2 h3 => hk e' w' h1 a' ⟨by rw [h2.size]; exact hf.size, by rw [h2.defers]; exact hf.defers⟩ h3
  | seq c1 c2 ih1 ih2 =>
    intro x ctx e w k r h Q a hf ha hk hx hr
    cases x <;> simp only [Option.ebind_eq, aCode] at h <;> try (cases h; done)
    rename_i x y
    refine wp_seq (ih1 x ctx e w _ r h _ a hf ha ?_ ?_ ?_)
    · intro e' w' h' a' hf' ha'
      exact ih2 y ctx e' w' k r h' Q a' hf' ha' hk hx hr
    · exact hx
    · exact hr
  | cond t c1 c2 ih1 ih2 =>
    intro x ctx e w k r h Q a hf ha hk hx hr
    cases x <;> simp only [Option.ebind_eq, aCode] at h <;> try (cases h; done)
    · rename_i x y
      simp only [Option.bind_eq_some_iff] at h
      obtain ⟨v, h1, b, h2, h3⟩ := h
      have hv : v = .bool b := by cases v <;> simp [asB] at h2; subst h2; rfl
      subst hv
      cases b with
      | true => exact wp_cond_true (ha.eval h1) (ih1 x ctx e w k r (by simpa using h3) Q a hf ha hk hx hr)
      | false => exact wp_cond_false (ha.eval h1) (ih2 y ctx e w k r (by simpa using h3) Q a hf ha hk hx hr)
    · rename_i K x y
      simp only [Option.bind_eq_some_iff] at h
      obtain ⟨v, h1, b, h2, r1, h3, h4⟩ := h
      have hv : v = .bool b := by cases v <;> simp [asB] at h2; subst h2; rfl
      subst hv
      have hk1 : ∀ e' w', ((gets e' K).bind fun vs => some (Res.norm vs w')) = some r1 → ∀ a', From nt ds a' → Agree e' a' → Q .normal a' w' := by
        intro e' w' h5 a' hf' ha'
        simp only [Option.bind_eq_some_iff, Option.some.injEq] at h5
        obtain ⟨vs, h6, rfl⟩ := h5
        exact hk _ _ h4 a' hf' (agree_gets ha' h6)
      have hx1 : ∀ id vs w', r1 = .exit id vs w' → ∀ K, Ctx.keep ctx id = some K → ∀ a', From nt ds a' → Has K vs a' → Q (.exit id) a' w' := by
        intro id vs w' he
        subst he
        simp only [Res.cont, Option.some.injEq] at h4
        exact hx id vs w' h4.symm
      have hr1 : ∀ vs w', r1 = .ret vs w' → ∀ a', From nt ds a' → Has rs vs a' → Q .ret a' w' := by
        intro vs w' he
        subst he
        simp only [Res.cont, Option.some.injEq] at h4
        exact hr vs w' h4.symm
      cases b with
      | true => exact wp_cond_true (ha.eval h1) (ih1 x ctx e w _ r1 (by simpa using h3) Q a hf ha hk1 hx1 hr1)
      | false => exact wp_cond_false (ha.eval h1) (ih2 y ctx e w _ r1 (by simpa using h3) Q a hf ha hk1 hx1 hr1)
  | block id c1 ih1 =>
    intro x ctx e w k r h Q a hf ha hk hx hr
    cases x <;> simp only [Option.ebind_eq, aCode] at h <;> try (cases h; done)
    rename_i K x
    simp only [Option.bind_eq_some_iff] at h
    obtain ⟨r1, h3, h4⟩ := h
    refine wp_block (ih1 x _ e w _ r1 h3 _ a hf ha ?_ ?_ ?_)
    · intro e' w' h5 a' hf' ha'
      simp only [Option.bind_eq_some_iff, Option.some.injEq] at h5
      obtain ⟨vs, h6, rfl⟩ := h5
      exact hk _ _ h4 a' hf' (agree_gets ha' h6)
    · intro i vs w' he K' hK' a' hf' hh
      subst he
      rw [keep_cons] at hK'
      simp only [Exit.inBlock]
      simp only [Res.unblock] at h4
      by_cases hi : i = id
      · subst hi
        simp only [if_true, Option.some.injEq] at hK' h4 ⊢
        subst hK'
        exact hk _ _ h4 a' hf' hh.agree
      · have hi' : ¬ id = i := fun h => hi h.symm
        simp only [hi, hi', if_false] at hK' h4 ⊢
        simp only [Res.cont, Option.some.injEq] at h4
        exact hx i vs w' h4.symm K' hK' a' hf' hh
    · intro vs w' he
      subst he
      simp only [Res.unblock, Res.cont, Option.some.injEq] at h4
      exact hr vs w' h4.symm
  | scope c1 ih1 =>
    intro x ctx e w k r h Q a hf ha hk hx hr
    simp only [Option.ebind_eq, aCode] at h
    exact wp_scope_straight (ih1 x ctx e w k r h (Exit.noGoto Q) a hf ha hk hx hr)
  | loop c1 ih1 =>
    intro x ctx e w k r h Q a hf ha hk hx hr
    cases x <;> simp only [Option.ebind_eq, aCode] at h <;> try (cases h; done)
    rename_i K x
    simp only [Option.bind_eq_some_iff] at h
    obtain ⟨vs0, h1, h2⟩ := h
    have key : ∀ vs w r, Rounds (fun vs w => aCode P call rs nt c1 x ctx (ofList 0 K vs) w fun e w => (gets e K).bind fun vs => some (.norm vs w)) vs w r →
        (∀ id vs w', r = .exit id vs w' → ∀ K, Ctx.keep ctx id = some K → ∀ a', From nt ds a' → Has K vs a' → Q (.exit id) a' w') →
        (∀ vs w', r = .ret vs w' → ∀ a', From nt ds a' → Has rs vs a' → Q .ret a' w') →
        ∃ n, ∀ a, From nt ds a → Agree (ofList 0 K vs) a → Code.rounds P c1 Q n a w := by
      intro vs w r hR
      induction hR with
      | more h _ ih =>
        intro hx hr
        obtain ⟨n, hn⟩ := ih hx hr
        refine ⟨n + 1, fun a hf ha => ?_⟩
        rw [rounds_succ]
        refine ih1 x ctx _ _ _ _ h _ a hf ha ?_ (fun id vs w' he => by cases he) (fun vs w' he => by cases he)
        intro e' w' h5 a' hf' ha'
        simp only [Option.bind_eq_some_iff, Option.some.injEq] at h5
        obtain ⟨vs, h6, h7⟩ := h5
        cases h7
        exact hn a' hf' (agree_gets ha' h6)
      | exit h =>
        intro hx hr
        refine ⟨1, fun a hf ha => ?_⟩
        rw [rounds_succ]
        refine ih1 x ctx _ _ _ _ h _ a hf ha ?_ hx hr
        intro e' w' h5
        simp only [Option.bind_eq_some_iff, Option.some.injEq] at h5
        obtain ⟨vs, h6, h7⟩ := h5
        cases h7
      | ret h =>
        intro hx hr
        refine ⟨1, fun a hf ha => ?_⟩
        rw [rounds_succ]
        refine ih1 x ctx _ _ _ _ h _ a hf ha ?_ hx hr
        intro e' w' h5
        simp only [Option.bind_eq_some_iff, Option.some.injEq] at h5
        obtain ⟨vs, h6, h7⟩ := h5
        cases h7
    obtain ⟨n, hn⟩ := key vs0 w r (rounds_of_iter h2) hx hr
    exact wp_loop_rounds n (hn a hf (agree_gets ha h1))
  | exit id =>
    intro x ctx e w k r h Q a hf ha hk hx hr
    simp only [Option.ebind_eq, aCode, Option.bind_eq_some_iff, Option.some.injEq] at h
    obtain ⟨K, h1, vs, h2, rfl⟩ := h
    exact wp_exit (hx id vs w rfl K h1 a hf (.of ha h2))
  | ret =>
    intro x ctx e w k r h Q a hf ha hk hx hr
    simp only [Option.ebind_eq, aCode, Option.bind_eq_some_iff, Option.some.injEq] at h
    obtain ⟨vs, h2, rfl⟩ := h
    exact wp_ret (hr vs w rfl a hf (.of ha h2))
  | _ => intro x ctx e w k r h; cases x <;> simp [Option.ebind_eq, aCode] at h

/-! ### more calls told: no less is told -/
def Le {α : Type} (x y : Option α) : Prop := ∀ r, x = some r → y = some r
theorem Le.refl {α : Type} (x : Option α) : Le x x := fun _ h => h
theorem Le.bind {α β : Type} {x y : Option α} {f g : α → Option β} (h : Le x y) (hf : ∀ a, Le (f a) (g a)) : Le (x.bind f) (y.bind g) := by
  intro r hr
  simp only [Option.bind_eq_some_iff] at hr ⊢
  obtain ⟨a, h1, h2⟩ := hr
  exact ⟨a, h _ h1, hf _ _ h2⟩
theorem Le.ite {α : Type} {c : Prop} [Decidable c] {x y x' y' : Option α} (h : Le x x') (h' : Le y y') : Le (if c then x else y) (if c then x' else y') := by
  split
  · exact h
  · exact h'
section
variable {P : Program} {call call' : CallF}
theorem callV_mono (hc : ∀ f args w, Le (call f args w) (call' f args w)) (v : Value) (args : List Value) (w : World) : Le (callV call v args w) (callV call' v args w) := by
  unfold callV
  split
  · exact hc _ _ _
  · exact Le.refl _

theorem Le.bif {ρ : Type} {b : Bool} {x x' y y' : Option ρ} (h : Le x x') (h' : Le y y') : Le (bif b then x else y) (bif b then x' else y') := by cases b <;> assumption
theorem aOp_mono (hc : ∀ f args w, Le (call f args w) (call' f args w)) {ρ : Type} {o : Oper} {e : Env} {w : World} {next next' : Value → World → Option ρ} (hn : ∀ v w, Le (next v w) (next' v w)) :
    Le (aOp P call o e w next) (aOp P call' o e w next') := by
  unfold aOp
  simp only [Option.ebind_eq]
  split
  case h_29 =>
    split <;> repeat' first
      | exact hn _ _
      | exact hc _ _ _
      | exact callV_mono hc _ _ _
      | exact Le.refl _
      | refine Le.bif ?_ ?_
      | refine Le.bind ?_ fun _ => ?_
      | refine Le.ite ?_ ?_
  all_goals repeat' first
    | exact hn _ _
    | exact Le.refl _
    | refine Le.bind ?_ fun _ => ?_
    | refine Le.ite ?_ ?_

theorem aOps_mono (hc : ∀ f args w, Le (call f args w) (call' f args w)) {all : List Oper} : ∀ (n : Nat) {ρ : Type} (i : Nat) (ops : List Oper) (strip : List (Nat × Bool)) (e : Env) (w : World) (k k' : Env → World → Option ρ),
    (∀ e w, Le (k e w) (k' e w)) → Le (aOps P call all n i ops strip e w k) (aOps P call' all n i ops strip e w k') := by
  intro n
  induction n with
  | zero => intro ρ i ops strip e w k k' _; simp only [Option.ebind_eq, aOps]; exact Le.refl _
  | succ n ih =>
    intro ρ i ops strip e w k k' hk
    cases ops with
    | nil => simp only [Option.ebind_eq, aOps]; exact hk _ _
    | cons o rest =>
      simp only [Option.ebind_eq, aOps]
      have plain := aOp_mono (P := P) hc (o := o) (e := e) (w := w) (fun v w => ih (i + 1) rest strip (e.put o.dst v) w k k' hk)
      split
      · exact plain
      · refine Le.ite plain ?_
        split
        · split
          · refine Le.ite (Le.bind (Le.refl _) fun _ => Le.bind (Le.refl _) fun _ => Le.bind (Le.ite (ih _ _ _ _ _ _ _ fun _ _ => Le.refl _) (Le.refl _)) fun _ => ih _ _ _ _ _ _ _ hk) (Le.refl _)
          · exact Le.refl _
        · exact Le.refl _

def LogLe : List LogE → List LogE → Prop
  | [], [] => True
  | x :: l, y :: m => (x.before = y.before ∧ x.after = y.after ∧ ∀ W, x.chk W → y.chk W) ∧ LogLe l m
  | _, _ => False
theorem LogLe.refl : ∀ l, LogLe l l
  | [] => trivial
  | x :: l => ⟨⟨rfl, rfl, fun _ h => h⟩, LogLe.refl l⟩
theorem LogLe.append : ∀ {l m l' m' : List LogE}, LogLe l m → LogLe l' m' → LogLe (l ++ l') (m ++ m')
  | [], [], _, _, _, h => h
  | _ :: _, _ :: _, _, _, h, h' => ⟨h.1, h.2.append h'⟩
theorem LogLe.get : ∀ {l m : List LogE}, LogLe l m → ∀ {i : Nat} {x : LogE}, l[i]? = some x → ∃ y, m[i]? = some y ∧ x.before = y.before ∧ x.after = y.after ∧ ∀ W, x.chk W → y.chk W
  | [], [], _, i, x, hx => by simp at hx
  | x :: l, y :: m, h, i, z, hz => by
    cases i with
    | zero => simp at hz; subst hz; exact ⟨y, by simp, h.1⟩
    | succ i => simp at hz; obtain ⟨u, hu⟩ := h.2.get hz; exact ⟨u, by simpa using hu⟩
theorem LogLe.chkAll {l m : List LogE} (h : LogLe l m) : ∀ {ps : List (Nat × Nat)}, Sh.chkAll l ps → Sh.chkAll m ps
  | [], _ => trivial
  | (r, q) :: ps, hp => by
    obtain ⟨h1, h2⟩ := hp
    refine ⟨?_, h.chkAll h2⟩
    split at h1
    · rename_i x y hx hy
      obtain ⟨x', e1, _, _, e4⟩ := h.get hx
      obtain ⟨y', f1, f2, f3, _⟩ := h.get hy
      rw [e1, f1]
      exact ⟨e4 _ (f2 ▸ h1.1), e4 _ (f3 ▸ h1.2)⟩
    · exact h1.elim
theorem chkThen_mono {ρ : Type} {c c' : Prop} (hc : c → c') {x y : Option ρ} (h : Le x y) : Le (chkThen c x) (chkThen c' y) := by
  intro r hr
  unfold chkThen at *
  split at hr
  · rename_i hcc; rw [if_pos (hc hcc)]; exact h r hr
  · cases hr
theorem aFlat_mono (hc : ∀ f args w, Le (call f args w) (call' f args w)) {ρ : Type} {all : List Oper} : ∀ (l : List Oper) (e : Env) (w : World) (log log' : List LogE) (k k' : Env → World → List LogE → Option ρ),
    LogLe log log' → (∀ e w log log', LogLe log log' → Le (k e w log) (k' e w log')) → Le (aFlat P call all l e w log k) (aFlat P call' all l e w log' k') := by
  intro l
  induction l with
  | nil => intro e w log log' k k' hl hk; simp only [Option.ebind_eq, aFlat]; exact hk _ _ _ _ hl
  | cons o r ih =>
    intro e w log log' k k' hl hk
    simp only [Option.ebind_eq, aFlat]
    refine Le.bind (Le.refl _) fun g => ?_
    refine Le.bind (Le.ite (aOp_mono hc fun _ _ => Le.refl _) (Le.refl _)) fun x => ih _ _ _ _ _ _ (hl.append ⟨⟨rfl, rfl, fun W h => ?_⟩, trivial⟩) hk
    have h' : if g = true then (aOp P call o e W fun v _ => some v) = some x.1 else True := h
    show if g = true then (aOp P call' o e W fun v _ => some v) = some x.1 else True
    by_cases hg : g = true
    · rw [if_pos hg] at h' ⊢; exact aOp_mono hc (fun _ _ => Le.refl _) _ h'
    · rw [if_neg hg]; trivial

theorem iter_mono {f f' : List Value → World → Option Res} (hf : ∀ vs w, Le (f vs w) (f' vs w)) (vs : List Value) (w : World) : Le (iter f vs w) (iter f' vs w) :=
  fun _ h => iter_of_rounds ((rounds_of_iter h).mono fun vs w => hf vs w)

theorem cont_mono {r : Res} {k k' : List Value → World → Option Res} (h : ∀ vs w, Le (k vs w) (k' vs w)) : Le (r.cont k) (r.cont k') := by
  cases r with
  | norm vs w => exact h vs w
  | _ => exact Le.refl _

theorem aCode_mono (hc : ∀ f args w, Le (call f args w) (call' f args w)) {rs : List Nat} {nt : Nat} : ∀ (c : Code) (x : Ann) (ctx : Ctx) (e : Env) (w : World) (k k' : Env → World → Option Res),
    (∀ e w, Le (k e w) (k' e w)) → Le (aCode P call rs nt c x ctx e w k) (aCode P call' rs nt c x ctx e w k') := by
  intro c
  induction c with
  | skip => intro x ctx e w k k' hk; simp only [Option.ebind_eq, aCode]; exact hk _ _
  | label l => intro x ctx e w k k' hk; simp only [Option.ebind_eq, aCode]; exact hk _ _
  | region id ops draw =>
    intro x ctx e w k k' hk
    simp only [Option.ebind_eq, aCode]
    refine Le.ite ?_ (Le.refl _)
    cases draw with
    | false => exact aOps_mono hc _ _ _ _ _ _ _ _ hk
    | true => exact Le.ite (aOps_mono hc _ _ _ _ _ _ _ _ hk) (Le.ite (aFlat_mono hc _ _ _ _ _ _ _ trivial fun e w log log' hl => chkThen_mono hl.chkAll (hk _ _)) (Le.refl _))
  | seq a b iha ihb =>
    intro x ctx e w k k' hk
    cases x <;> simp only [Option.ebind_eq, aCode] <;> first | exact Le.refl _ | exact iha _ _ _ _ _ _ fun _ _ => ihb _ _ _ _ _ _ hk
  | cond t a b iha ihb =>
    intro x ctx e w k k' hk
    cases x <;> simp only [Option.ebind_eq, aCode] <;> first
      | exact Le.refl _
      | exact Le.bind (Le.refl _) fun _ => Le.bind (Le.refl _) fun _ => Le.ite (iha _ _ _ _ _ _ hk) (ihb _ _ _ _ _ _ hk)
      | exact Le.bind (Le.refl _) fun _ => Le.bind (Le.refl _) fun _ => Le.bind (Le.ite (iha _ _ _ _ _ _ fun _ _ => Le.refl _) (ihb _ _ _ _ _ _ fun _ _ => Le.refl _)) fun _ => cont_mono fun _ _ => hk _ _
  | block id a iha =>
    intro x ctx e w k k' hk
    cases x <;> simp only [Option.ebind_eq, aCode] <;> first
      | exact Le.refl _
      | exact Le.bind (iha _ _ _ _ _ _ fun _ _ => Le.refl _) fun _ => cont_mono fun _ _ => hk _ _
  | loop a iha =>
    intro x ctx e w k k' hk
    cases x <;> simp only [Option.ebind_eq, aCode] <;> first
      | exact Le.refl _
      | exact Le.bind (Le.refl _) fun _ => iter_mono (fun vs w => iha _ _ _ _ _ _ fun _ _ => Le.refl _) _ _
  | scope a iha => intro x ctx e w k k' hk; simp only [Option.ebind_eq, aCode]; exact iha _ _ _ _ _ _ hk
  | exit id => intro x ctx e w k k' hk; simp only [Option.ebind_eq, aCode]; exact Le.refl _
  | ret => intro x ctx e w k k' hk; simp only [Option.ebind_eq, aCode]; exact Le.refl _
  | _ => intro x ctx e w k k' hk; cases x <;> simp only [Option.ebind_eq, aCode] <;> exact Le.refl _

theorem aBody_mono (hc : ∀ f args w, Le (call f args w) (call' f args w)) {dfr : CallF} {rs : List Nat} {nt : Nat} : ∀ (c : Code) (x : Ann) (e : Env) (w : World),
    Le (aBody P call dfr rs nt c x e w) (aBody P call' dfr rs nt c x e w) := by
  intro c
  induction c with
  | seq a b _ ih =>
    intro x e w
    cases x with
    | s x y =>
      cases a with
      | region id ops draw =>
        simp only [Option.ebind_eq, aBody]
        split
        · split
          · exact aOps_mono hc _ _ _ _ _ _ _ _ fun e w => Le.bind (Le.refl _) fun vs => Le.bind (ih _ _ _) fun _ => Le.refl _
          · exact Le.refl _
        · exact aCode_mono hc _ _ _ _ _ _ _ fun e w => ih _ _ _
      | _ => simp only [Option.ebind_eq, aBody]; exact aCode_mono hc _ _ _ _ _ _ _ fun e w => ih _ _ _
    | _ => simp only [Option.ebind_eq, aBody]; exact aCode_mono hc _ _ _ _ _ _ _ fun _ _ => Le.refl _
  | _ => intro x e w; simp only [Option.ebind_eq, aBody]; exact aCode_mono hc _ _ _ _ _ _ _ fun _ _ => Le.refl _
theorem aFun_mono (hc : ∀ f args w, Le (call f args w) (call' f args w)) {dfr : CallF} (fn : Func) (ann : Ann) (e : Env) (w : World) : Le (aFun P call dfr fn ann e w) (aFun P call' dfr fn ann e w) := by
  unfold aFun
  split
  · split
    · exact Le.bind (aBody_mono hc _ _ _ _) fun _ => Le.refl _
    · exact Le.bind (aBody_mono hc _ _ _ _) fun _ => Le.refl _
  · exact Le.refl _
end

/-! ### calls -/
section
variable {P : Program} {ann : FuncId → Ann} {prim : Prim}
theorem Tells.one {f : FuncId} {args : Array Value} {w : World} {r r' : Value × World} (h : Tells P ann prim f args w r) (h' : Tells P ann prim f args w r') : r = r' := by
  induction h generalizing r' with
  | prim h =>
    cases h' with
    | prim g => rw [h] at g; exact Option.some.inj g
    | body fn call hn _ _ _ _ => rw [h] at hn; cases hn
  | body fn call hn hf hc hcall h ih =>
    cases h' with
    | prim g => rw [hn] at g; cases g
    | body fn' call' hn' hf' hc' hcall' h' =>
      have : fn' = fn := Option.some.inj (hf'.symm.trans hf)
      subst this
      let both : CallF := fun f args w => match call f args w with | some r => some r | none => call' f args w
      have m1 : ∀ f args w, Le (call f args w) (both f args w) := fun f args w r hr => by simp only [both, hr]
      have m2 : ∀ f args w, Le (call' f args w) (both f args w) := fun f args w r hr => by
        simp only [both]
        split
        · rename_i q hq; rw [ih f args w q hq (hcall' f args w r hr)]
        · exact hr
      have e1 := aFun_mono m1 _ _ _ _ _ h
      have e2 := aFun_mono m2 _ _ _ _ _ h'
      rw [e1] at e2
      exact Option.some.inj e2

theorem tells_of_run {f : FuncId} {args : Array Value} {w : World} {r : Value × World} (h : run P ann prim f args w = some r) : Tells P ann prim f args w r := by
  unfold run at h
  split at h
  · rename_i hr; simp only [Option.some.injEq] at h; rw [← h]; exact Classical.choose_spec hr
  · cases h
theorem run_of_tells {f : FuncId} {args : Array Value} {w : World} {r : Value × World} (h : Tells P ann prim f args w r) : run P ann prim f args w = some r := by
  unfold run
  have hr : ∃ r, Tells P ann prim f args w r := ⟨r, h⟩
  rw [dif_pos hr, (Classical.choose_spec hr).one h]
/-- a call, by its body -/
theorem run_body {f : FuncId} {args : Array Value} {w : World} {r : Value × World} {fn : Func} (hf : P.funcs[f]? = some fn) (hc : callable P f = true) (hn : prim.call f args w = none)
    (h : aFun P (run P ann prim) prim.dfr fn (ann f) (ofArgs args) w = some r) : run P ann prim f args w = some r :=
  run_of_tells (.body fn _ hn hf hc (fun _ _ _ _ h => tells_of_run h) h)
theorem run_prim {f : FuncId} {args : Array Value} {w : World} {r : Value × World} (h : prim.call f args w = some r) : run P ann prim f args w = some r := run_of_tells (.prim h)

def readVar (tmps : Array Value) (x : ResultVar) : Sem Value := match x with
  | .tmp t => pure (tmps.getD t undef)
  | .cell a t => do loadVar t (← asAddr (tmps.getD a undef))
theorem results_eq (fn : Func) (tmps : Array Value) : results fn tmps = (do let vs ← fn.results.mapM (readVar tmps); pure (if h : vs.size = 1 then vs[0] else .tuple vs)) := by
  unfold results
  congr 1
theorem run_mapM {rs : List ResultVar} {ts : List Nat} (h : tmpsOf rs = some ts) {tmps : Array Value} {vs : List Value} (hl : vs.length = ts.length) (hv : ∀ (i t : Nat), ts[i]? = some t → tmps[t]? = some (nth vs i)) (w : World) :
    (rs.mapM (readVar tmps)).run P w = .ok vs w := by
  induction rs generalizing ts vs with
  | nil =>
    simp only [tmpsOf, Option.some.injEq] at h
    subst h
    have : vs = [] := List.length_eq_zero_iff.mp (by simpa using hl)
    subst this
    simp
  | cons x r ih =>
    cases x with
    | cell a t => simp [tmpsOf] at h
    | tmp t =>
      simp only [tmpsOf, Option.bind_eq_some_iff, Option.some.injEq] at h
      obtain ⟨l, h1, rfl⟩ := h
      cases vs with
      | nil => simp at hl
      | cons v vs =>
        have h0 := hv 0 t (by simp)
        simp only [nth] at h0
        rw [List.mapM_cons]
        have e1 : (readVar tmps (.tmp t)).run P w = .ok v w := by
          have : tmps.getD t undef = v := by simp [h0]
          simp only [readVar, this]; rfl
        rw [run_ok e1, run_ok (ih h1 (by simpa using hl) fun i t' ht => by have := hv (i + 1) t' (by simpa using ht); simpa [nth] using this)]
        rfl

theorem results_ok {fn : Func} {ts : List Nat} (h : tmpsOf fn.results.toList = some ts) {a : Act} {vs : List Value} (hh : Has ts vs a) (w : World) : (results fn a.tmps).run P w = .ok (outcome vs) w := by
  rw [results_eq]
  have e1 : (fn.results.mapM (readVar a.tmps)).run P w = .ok vs.toArray w := by
    rw [Array.mapM_eq_mapM_toList]
    have := run_mapM (P := P) h hh.1 hh.2 w
    exact run_ok (f := fun l => (pure l.toArray : Sem (Array Value))) this
  rw [run_ok e1]
  cases vs with
  | nil => rfl
  | cons v r => cases r <;> rfl

theorem run_mapR {rs : List ResultVar} {tmps : Array Value} {vs us : List Value} {w : World} (hu : loadsOf P rs vs w = some us) (hv : ∀ (i t : Nat), (slotsOf rs)[i]? = some t → tmps[t]? = some (nth vs i)) :
    (rs.mapM (readVar tmps)).run P w = .ok us w := by
  induction rs generalizing vs us with
  | nil =>
    simp only [loadsOf, Option.some.injEq] at hu
    subst hu
    simp
  | cons x r ih =>
    cases vs with
    | nil => cases x <;> simp [loadsOf] at hu
    | cons v vs =>
      cases x with
      | tmp t =>
        simp only [loadsOf, Option.bind_eq_some_iff, Option.some.injEq] at hu
        obtain ⟨l, h1, rfl⟩ := hu
        have h0 := hv 0 t (by simp [slotsOf])
        simp only [nth] at h0
        rw [List.mapM_cons]
        have e1 : (readVar tmps (.tmp t)).run P w = .ok v w := by
          have : tmps.getD t undef = v := by simp [h0]
          simp only [readVar, this]; rfl
        rw [run_ok e1, run_ok (ih h1 fun i t' ht => by have := hv (i + 1) t' (by simpa [slotsOf] using ht); simpa [nth] using this)]
        rfl
      | cell a t =>
        have h0 := hv 0 a (by simp [slotsOf])
        simp only [nth] at h0
        cases v with
        | pointer p =>
          cases p with
          | none => simp [loadsOf] at hu
          | some p =>
            simp only [loadsOf, Option.bind_eq_some_iff, Option.some.injEq] at hu
            obtain ⟨u, h2, l, h1, rfl⟩ := hu
            rw [List.mapM_cons]
            have e1 : (readVar tmps (.cell a t)).run P w = .ok u w := by
              have hg : tmps.getD a undef = .pointer (some p) := by simp [h0]
              have h3 : rrun P (loadVar t p) w = some u := h2
              have h4 := rrun_run h3
              simp only [readVar, hg]
              exact h4
            rw [run_ok e1, run_ok (ih h1 fun i t' ht => by have := hv (i + 1) t' (by simpa [slotsOf] using ht); simpa [nth] using this)]
            rfl
        | _ => simp [loadsOf] at hu
theorem results_okR {fn : Func} {a : Act} {vs us : List Value} {w : World} (hu : loadsOf P fn.results.toList vs w = some us) (hh : Has (slotsOf fn.results.toList) vs a) : (results fn a.tmps).run P w = .ok (outcome us) w := by
  rw [results_eq]
  have e1 : (fn.results.mapM (readVar a.tmps)).run P w = .ok us.toArray w := by
    rw [Array.mapM_eq_mapM_toList]
    have := run_mapR (P := P) hu hh.2
    exact run_ok (f := fun l => (pure l.toArray : Sem (Array Value))) this
  rw [run_ok e1]
  cases us with
  | nil => rfl
  | cons v r => cases r <;> rfl

/-- what is told of deferred calls holds -/
structure DefOk (P : Program) (dfr : CallF) : Prop where
  enter : ∀ f args w r, dfr f args w = some r → (invoke (.fn (.func f) #[]) args).run P w = .ok (.enter f args) w
  calls : ∀ f args w r, dfr f args w = some r → CallsD P f args .returning w fun e u' w' => e = .returned r.1 ∧ u' = .returning ∧ w' = r.2
structure PrimOk (P : Program) (prim : Prim) : Prop where
  call : CallOk P prim.call
  dfr : DefOk P prim.dfr

theorem deferOf_spec {ops : List Oper} {c : Call} {f : FuncId} (h : deferOf ops = some (c, f)) : ∃ o, ops = ops.dropLast ++ [o] ∧ o.op = .defer c ∧ o.guard = none ∧ o.dst = none ∧ c.callee = .value (.func f) := by
  unfold deferOf at h
  split at h
  · rename_i o ho
    split at h
    · rename_i c' h1 h2 h3
      split at h
      · rename_i f' h4
        obtain ⟨rfl, rfl⟩ := Prod.mk.inj (Option.some.inj h)
        refine ⟨o, ?_, h1, h2, h3, h4⟩
        have hne : ops ≠ [] := by intro e; rw [e] at ho; simp at ho
        have : ops.getLast hne = o := by rw [List.getLast?_eq_some_getLast hne] at ho; exact Option.some.inj ho
        rw [← this, List.dropLast_concat_getLast]
      · cases h
    · cases h
  · cases h

theorem aBody_ok {call dfr : CallF} (hc : CallOk P call) (hd : DefOk P dfr) (hm : P.follows .mixedOrders = true) {fn : Func} {R : Ending → World → Prop} {rs : List Nat} {nt : Nat} :
    ∀ (c : Code) (x : Ann) (e : Env) (w : World) (r : Res), aBody P call dfr rs nt c x e w = some r →
      ∀ (ds : List Deferred), (∀ a' vs w', (r = .norm vs w' ∨ r = .ret vs w') → Has rs vs a' → Leaves P fn a'.tmps R ds .returning w') →
      (∀ id vs w', r ≠ .exit id vs w') → ∀ a, From nt ds a → Agree e a → c.wp P (bodyPostD P fn R) a w := by
  intro c
  have plain : ∀ (c : Code) (x : Ann) (e : Env) (w : World) (r : Res), (aCode P call rs nt c x [] e w fun e w => (gets e rs).bind fun vs => some (.norm vs w)) = some r →
      ∀ (ds : List Deferred), (∀ a' vs w', (r = .norm vs w' ∨ r = .ret vs w') → Has rs vs a' → Leaves P fn a'.tmps R ds .returning w') →
      (∀ id vs w', r ≠ .exit id vs w') → ∀ a, From nt ds a → Agree e a → c.wp P (bodyPostD P fn R) a w := by
    intro c x e w r h ds hL hx a hf ha
    refine aCode_ok hc hm c x [] e w _ r h _ a hf ha ?_ ?_ ?_
    · intro e' w' h4 a' hf' ha'
      simp only [Option.bind_eq_some_iff, Option.some.injEq] at h4
      obtain ⟨vs, h5, rfl⟩ := h4
      show Leaves P fn a'.tmps R a'.defers .returning w'
      rw [hf'.defers]
      exact hL a' vs w' (.inl rfl) (.of ha' h5)
    · intro id vs w' he
      exact absurd he (hx id vs w')
    · intro vs w' he a' hf' hh
      show Leaves P fn a'.tmps R a'.defers .returning w'
      rw [hf'.defers]
      exact hL a' vs w' (.inr he) hh
  induction c with
  | seq c1 c2 ih1 ih =>
    intro x e w r h ds hL hx a hf ha
    have step : ∀ x y, (aCode P call rs nt c1 x [] e w fun e w => aBody P call dfr rs nt c2 y e w) = some r → (c1.seq c2).wp P (bodyPostD P fn R) a w := by
      intro x y h
      refine wp_seq (aCode_ok hc hm c1 x [] e w _ r h _ a hf ha ?_ ?_ ?_)
      · intro e' w' h4 a' hf' ha'
        exact ih y e' w' r h4 ds hL hx a' hf' ha'
      · intro id vs w' he
        exact absurd he (hx id vs w')
      · intro vs w' he a' hf' hh
        show Leaves P fn a'.tmps R a'.defers .returning w'
        rw [hf'.defers]
        exact hL a' vs w' (.inr he) hh
    cases x with
    | s x y =>
      cases c1 with
      | region id ops draw =>
        simp only [Option.ebind_eq, aBody] at h
        split at h
        · rename_i c f hdef
          split at h
          case isFalse => cases h
          rename_i hreg
          obtain ⟨o, hops, ho1, ho2, ho3, ho4⟩ := deferOf_spec hdef
          refine wp_seq (wp_region ?_)
          have hidx : ∀ m, m < ops.toList.dropLast.length → ops.toList[0 + m]? = ops.toList.dropLast[m]? := fun m hm' => by
            rw [Nat.zero_add]
            conv => lhs; rw [hops]
            rw [List.getElem?_append_left hm']
          generalize hQ : (Exit.then (c2.wp P (bodyPostD P fn R)) (bodyPostD P fn R)) = Q
          have hst : StripOk ops.toList [] 0 a := fun j b h => by simp [inStrip] at h
          obtain ⟨e', w', h1, h2⟩ := aOps_ok hc hreg (steps_wp hc ops.toList Q) _ 0 _ [] e w _ r h hidx
          simp only [Option.bind_eq_some_iff] at h1
          obtain ⟨vs, hv, r1, hr1, hr2⟩ := h1
          have key : wpG (wpStep P Q) ops.toList.toArray ops.toList (Q .normal) a w := by
            conv => arg 3; rw [hops]
            refine wpG_append _ _ (steps_wp hc ops.toList Q).mono _ _ _ a w ?_
            refine h2 _ a hf.size ha hst fun a' hk ha' => ?_
            have hw : Region.wanted o (yielded ops.toList.toArray a'.tmps) = true := by simp [Region.wanted, ho2]
            unfold wpG
            rw [if_pos hw]
            refine .inl ?_
            have hargs : c.args.map a'.eval = vs.toArray := ha'.evalsA hv
            have ef : a'.eval (.func f) = .func (.func f) #[] #[] := rfl
            have hr : (execOp a'.eval o).run P w' = .ok (.defer ⟨.fn (.func f) #[], vs.toArray⟩) w' := by
              unfold execOp
              simp [ho1, resolve, ho4, Deferred.ofValue, ef, hargs]
            unfold Oper.wp
            rw [hr, Oper.upon_defer, ho3, ← hQ]
            show c2.wp P (bodyPostD P fn R) _ w'
            refine ih y e' w' r1 hr1 (⟨.fn (.func f) #[], vs.toArray⟩ :: ds) ?_ ?_ _ ⟨?_, ?_⟩ ?_
            · intro a'' us w1 hr1' hh
              rcases hr1' with rfl | rfl
              · simp only [Res.after, Option.bind_eq_some_iff, Option.some.injEq] at hr2
                obtain ⟨q, hq, rfl⟩ := hr2
                refine leaves_cons (by simp) (hd.enter _ _ _ _ hq) ((hd.calls _ _ _ _ hq).mono ?_)
                rintro e2 u2 w2 ⟨rfl, rfl, rfl⟩
                exact hL a'' us q.2 (.inl rfl) hh
              · simp only [Res.after, Option.bind_eq_some_iff, Option.some.injEq] at hr2
                obtain ⟨q, hq, rfl⟩ := hr2
                refine leaves_cons (by simp) (hd.enter _ _ _ _ hq) ((hd.calls _ _ _ _ hq).mono ?_)
                rintro e2 u2 w2 ⟨rfl, rfl, rfl⟩
                exact hL a'' us q.2 (.inr rfl) hh
            · intro id' us w1 he
              subst he
              simp [Res.after] at hr2
            · show nt ≤ a'.tmps.size
              rw [hk.size]; exact hf.size
            · show _ :: a'.defers = _
              rw [hk.defers, hf.defers]
            · exact ha'
          have := wpList_of_wpG _ _ _ key
          have e1 := wpOps_eq_wpList (P := P) (Q := Q) (ops := ops) ops.toList 0 (fun j => by simp)
          rw [Array.toArray_toList] at this
          rw [← e1] at this
          simpa [List.range_eq_range'] using this
        · exact step x y h
      | _ => simp only [Option.ebind_eq, aBody] at h; exact step x y h
    | _ => simp only [Option.ebind_eq, aBody] at h; exact plain _ _ e w r h ds hL hx a hf ha
  | _ => intro x e w r h ds hL hx a hf ha; simp only [Option.ebind_eq, aBody] at h; exact plain _ x e w r h ds hL hx a hf ha

theorem calls_of_tells (hm : P.follows .mixedOrders = true) (hp : PrimOk P prim) {f : FuncId} {args : Array Value} {w : World} {r : Value × World} (h : Tells P ann prim f args w r) :
    (callFunc f args).run P w = .ok (.enter f args) w ∧ Calls P f args w fun e w' => e = .returned r.1 ∧ w' = r.2 := by
  induction h with
  | prim h => exact ⟨hp.call.enter _ _ _ _ h, hp.call.calls _ _ _ _ h⟩
  | @body f args w r fn call hn hf hc hcall h ih =>
    have hcall' : CallOk P call := ⟨fun f args w r h => (ih f args w r h).1, fun f args w r h => (ih f args w r h).2⟩
    refine ⟨?_, ?_⟩
    · unfold callable at hc
      rw [hf] at hc
      simp only [Bool.and_eq_true, bne_iff_ne, ne_eq] at hc
      unfold callFunc
      have hpp : (program : Sem Program).run P w = .ok P w := rfl
      rw [run_ok hpp, hf]
      have h1 : (fn.name == "runtime.NumGoroutine") = false := by simpa using hc.2
      have h2 : fn.body.isNone = false := by cases hb : fn.body with | none => simp [hb] at hc | some b => rfl
      simp [h1, h2]
    · unfold aFun at h
      split at h
      · rename_i c hb
        refine calls_of_wp_defers hf hb ?_
        have hargs : Agree (ofArgs args) { tmps := args ++ Array.replicate (fn.ntmps - args.size) undef, defers := [] } := by
          intro t v ht
          simp only [ofArgs] at ht
          have hlt : t < args.size := (Array.getElem?_eq_some_iff.mp ht).1
          rw [Array.getElem?_append_left hlt]; exact ht
        split at h
        case h_2 hts =>
          simp only [Option.bind_eq_some_iff] at h
          obtain ⟨r1, h2, h3⟩ := h
          refine aBody_ok hcall' hp.dfr hm c _ _ w r1 h2 [] ?_ ?_ _ ⟨by simp; omega, rfl⟩ hargs
          · intro a' vs w' he hh
            rcases he with he | he <;>
            · subst he
              simp only [Res.doneR, Option.bind_eq_some_iff, Option.some.injEq] at h3
              obtain ⟨us, hu, rfl⟩ := h3
              exact ⟨_, results_okR hu hh, rfl, rfl⟩
          · intro id vs w' he
            subst he
            simp [Res.doneR] at h3
        rename_i ts h1
        simp only [Option.bind_eq_some_iff] at h
        obtain ⟨r1, h2, h3⟩ := h
        refine aBody_ok hcall' hp.dfr hm c _ _ w r1 h2 [] ?_ ?_ _ ⟨by simp; omega, rfl⟩ hargs
        · intro a' vs w' he hh
          rcases he with he | he <;>
          · subst he
            simp only [Res.done, Option.some.injEq] at h3
            subst h3
            exact ⟨_, results_ok h1 hh w', rfl, rfl⟩
        · intro id vs w' he
          subst he
          simp [Res.done] at h3
      · cases h

end
end Go.Sh

namespace Go.Sh
open Go Go.RowKit
set_option linter.unusedSimpArgs false

/-! ### values -/
@[simp] theorem asB_bool (b : Bool) : asB (.bool b) = some b := id rfl
@[simp] theorem pickV_true (a b : Value) : pickV (.bool true) a b = some a := id rfl
@[simp] theorem pickV_false (a b : Value) : pickV (.bool false) a b = some b := id rfl
@[simp] theorem nilV_some (P : Program) (a : Addr) : nilV P (.pointer (some a)) = some (.pointer (some a)) := id rfl
@[simp] theorem bin_add (k : IntKind) (a b : Int) : bin .add (.int k a) (.int k b) = some (.int k (k.wrap (a + b))) := by simp [bin]
@[simp] theorem bin_sub (k : IntKind) (a b : Int) : bin .sub (.int k a) (.int k b) = some (.int k (k.wrap (a - b))) := by simp [bin]
@[simp] theorem bin_mul (k : IntKind) (a b : Int) : bin .mul (.int k a) (.int k b) = some (.int k (k.wrap (a * b))) := by simp [bin]
theorem bin_quo (k : IntKind) (a b : Int) (h : b ≠ 0) : bin .quo (.int k a) (.int k b) = some (.int k (k.wrap (a.tdiv b))) := by simp [bin, h]
@[simp] theorem bin_eql (k : IntKind) (a b : Int) : bin .eql (.int k a) (.int k b) = some (.bool (a == b)) := by simp [bin]
@[simp] theorem bin_neq (k : IntKind) (a b : Int) : bin .neq (.int k a) (.int k b) = some (.bool (a != b)) := by simp [bin]
@[simp] theorem bin_lss (k : IntKind) (a b : Int) : bin .lss (.int k a) (.int k b) = some (.bool (a < b)) := by simp [bin]
@[simp] theorem bin_leq (k : IntKind) (a b : Int) : bin .leq (.int k a) (.int k b) = some (.bool (a ≤ b)) := by simp [bin]
@[simp] theorem bin_gtr (k : IntKind) (a b : Int) : bin .gtr (.int k a) (.int k b) = some (.bool (a > b)) := by simp [bin]
@[simp] theorem bin_geq (k : IntKind) (a b : Int) : bin .geq (.int k a) (.int k b) = some (.bool (a ≥ b)) := by simp [bin]
@[simp] theorem nth_zero (v : Value) (r : List Value) : nth (v :: r) 0 = v := id rfl
@[simp] theorem nth_succ (v : Value) (r : List Value) (i : Nat) : nth (v :: r) (i + 1) = nth r i := id rfl
@[simp] theorem done_ret (v : Value) (w : World) : (Res.ret [v] w).done = some (v, w) := id rfl
@[simp] theorem done_norm (v : Value) (w : World) : (Res.norm [v] w).done = some (v, w) := id rfl
@[simp] theorem done_ret2 (u v : Value) (r : List Value) (w : World) : (Res.ret (u :: v :: r) w).done = some (.tuple (u :: v :: r).toArray, w) := id rfl
@[simp] theorem done_norm2 (u v : Value) (r : List Value) (w : World) : (Res.norm (u :: v :: r) w).done = some (.tuple (u :: v :: r).toArray, w) := id rfl
@[simp] theorem done_ret0 (w : World) : (Res.ret [] w).done = some (.tuple #[], w) := id rfl
@[simp] theorem doneR_ret (P : Program) (vars : List ResultVar) (vs : List Value) (w : World) : (Res.ret vs w).doneR P vars = (loadsOf P vars vs w).bind fun us => some (outcome us, w) := id rfl
@[simp] theorem doneR_norm (P : Program) (vars : List ResultVar) (vs : List Value) (w : World) : (Res.norm vs w).doneR P vars = (loadsOf P vars vs w).bind fun us => some (outcome us, w) := id rfl
@[simp] theorem loadsOf_nil (P : Program) (vs : List Value) (w : World) : loadsOf P [] vs w = some [] := id (by cases vs <;> rfl)
@[simp] theorem loadsOf_tmp (P : Program) (t : Nat) (r : List ResultVar) (v : Value) (vs : List Value) (w : World) : loadsOf P (.tmp t :: r) (v :: vs) w = (loadsOf P r vs w).bind fun us => some (v :: us) := id rfl
@[simp] theorem loadsOf_cell (P : Program) (s : Nat) (t : TypeId) (r : List ResultVar) (a : Addr) (vs : List Value) (w : World) : loadsOf P (.cell s t :: r) (.pointer (some a) :: vs) w = (rrun P (Instr.loadAt t (.pointer (some a))) w).bind fun u => (loadsOf P r vs w).bind fun us => some (u :: us) := id rfl
@[simp] theorem outcome_one (v : Value) : outcome [v] = v := id rfl
@[simp] theorem outcome_two (u v : Value) (r : List Value) : outcome (u :: v :: r) = .tuple (u :: v :: r).toArray := id rfl
@[simp] theorem done_norm0 (w : World) : (Res.norm [] w).done = some (.tuple #[], w) := id rfl
@[simp] theorem cont_norm (vs : List Value) (w : World) (k : List Value → World → Option Res) : (Res.norm vs w).cont k = k vs w := id rfl
@[simp] theorem cont_exit (i : Nat) (vs : List Value) (w : World) (k : List Value → World → Option Res) : (Res.exit i vs w).cont k = some (.exit i vs w) := id rfl
@[simp] theorem cont_ret (vs : List Value) (w : World) (k : List Value → World → Option Res) : (Res.ret vs w).cont k = some (.ret vs w) := id rfl
@[simp] theorem unblock_exit (i : Nat) (vs : List Value) (w : World) : (Res.exit i vs w).unblock i = .norm vs w := by simp [Res.unblock]
theorem unblock_exit_ne {i j : Nat} (h : i ≠ j) (vs : List Value) (w : World) : (Res.exit i vs w).unblock j = .exit i vs w := by simp [Res.unblock, h]
@[simp] theorem unblock_norm (i : Nat) (vs : List Value) (w : World) : (Res.norm vs w).unblock i = .norm vs w := id rfl
@[simp] theorem unblock_ret (i : Nat) (vs : List Value) (w : World) : (Res.ret vs w).unblock i = .ret vs w := id rfl
/-- a test under '||' or '&&' that reads nothing -/
@[simp] theorem or_pure (b c : Bool) (w : World) : (if b = false then some (Value.bool c, w) else some (Value.bool true, w)) = some (.bool (b || c), w) := by cases b <;> rfl
@[simp] theorem and_pure (b c : Bool) (w : World) : (if b = true then some (Value.bool c, w) else some (Value.bool false, w)) = some (.bool (b && c), w) := by cases b <;> rfl
theorem wrap_i64 {x : Int} (h1 : -9223372036854775808 ≤ x) (h2 : x ≤ 9223372036854775807) : IntKind.i64.wrap x = x := by
  simp only [IntKind.wrap, IntKind.signed, IntKind.bits]; simp; omega
/-- the simplifier looks at a step's rest only when the step is known -/
@[congr] theorem bind_first {α β : Type} {x y : Option α} {f : α → Option β} (h : x = y) : x.bind f = y.bind f := by rw [h]
@[simp ↓] theorem bind_some_first {α β : Type} (a : α) (f : α → Option β) : (some a).bind f = f a := id rfl
@[simp high] theorem bind_some_last {α β : Type} (a : α) (f : α → Option β) : (some a).bind f = f a := id rfl
@[simp high] theorem bind_none_last {α β : Type} (f : α → Option β) : (none : Option α).bind f = none := id rfl
@[simp ↓] theorem cont_norm_first (vs : List Value) (w : World) (k : List Value → World → Option Res) : (Res.norm vs w).cont k = k vs w := id rfl
@[simp ↓] theorem cont_exit_first (i : Nat) (vs : List Value) (w : World) (k : List Value → World → Option Res) : (Res.exit i vs w).cont k = some (.exit i vs w) := id rfl
@[simp ↓] theorem cont_ret_first (vs : List Value) (w : World) (k : List Value → World → Option Res) : (Res.ret vs w).cont k = some (.ret vs w) := id rfl
@[congr] theorem chk_first {ρ : Type} {c d : Prop} {x : Option ρ} (h : c = d) : chkThen c x = chkThen d x := by rw [h]
@[simp ↓] theorem chk_true {ρ : Type} (x : Option ρ) : chkThen True x = x := if_pos trivial
@[congr] theorem cont_first {x y : Res} {k : List Value → World → Option Res} (h : x = y) : x.cont k = y.cont k := by rw [h]

/-! ### runs -/
section
variable {P : Program}
theorem prun_bind {α β : Type} (s : Sem α) (f : α → Sem β) : prun P (s >>= f) = (prun P s).bind fun a => prun P (f a) := by
  show prun P (Sem.bind s f) = _
  induction s with
  | pure a => rfl
  | program k ih => exact ih _
  | mark m k ih => exact ih
  | _ => simp [prun, Sem.bind]
@[simp] theorem prun_map {α β : Type} (s : Sem α) (f : α → β) : prun P (f <$> s) = (prun P s).map f := by
  have : (f <$> s) = (s >>= fun a => pure (f a)) := (bind_pure_comp f s).symm
  rw [this, prun_bind]
  cases prun P s <;> rfl
@[simp] theorem prun_pure {α : Type} (a : α) : prun P (pure a : Sem α) = some a := id rfl
@[simp] theorem prun_program : prun P program = some P := id rfl
theorem prun_underlying {t : TypeId} {d : TypeDesc} (h : P.underlying t = some d) : prun P (underlying t) = some d := by
  unfold underlying; simp [prun_bind, h]
theorem prun_typeInfo {t : TypeId} {i : TypeInfo} (h : P.info? t = some i) : prun P (typeInfo t) = some i := by
  unfold typeInfo; simp [prun_bind, h]
theorem prun_sizeOf {t : TypeId} {i : TypeInfo} (h : P.info? t = some i) : prun P (sizeOf t) = some i.size := by
  unfold sizeOf; simp [prun_bind, prun_typeInfo h]
theorem rrun_bind {α β : Type} (s : Sem α) (f : α → Sem β) (w : World) : rrun P (s >>= f) w = (rrun P s w).bind fun a => rrun P (f a) w := by
  show rrun P (Sem.bind s f) w = _
  induction s with
  | pure a => rfl
  | program k ih => exact ih _
  | mark m k ih => exact ih
  | load m a k ih =>
    simp only [Sem.bind, rrun]
    split
    · exact ih _
    · rfl
  | shape r k ih => exact ih _
  | frozen a k ih => exact ih _
  | getObj r k ih =>
    simp only [Sem.bind, rrun]
    split
    · rfl
    · exact ih _
    · rfl
  | _ => simp [rrun, Sem.bind]
@[simp] theorem rrun_map {α β : Type} (s : Sem α) (f : α → β) (w : World) : rrun P (f <$> s) w = (rrun P s w).map f := by
  have : (f <$> s) = (s >>= fun a => pure (f a)) := (bind_pure_comp f s).symm
  rw [this, rrun_bind]
  cases rrun P s w <;> rfl
theorem rrun_of_prun {α : Type} {s : Sem α} {a : α} (h : prun P s = some a) (w : World) : rrun P s w = some a := by
  induction s with
  | pure b => simpa [prun, rrun] using h
  | program k ih => exact ih _ h
  | mark m k ih => exact ih h
  | _ => simp [prun] at h
@[simp] theorem rrun_pure {α : Type} (a : α) (w : World) : rrun P (pure a : Sem α) w = some a := id rfl
@[simp] theorem rrun_load (a : Addr) (w : World) : rrun P (load a) w = w.cell? a := by
  unfold load
  simp only [rrun]
  cases w.cell? a <;> rfl
theorem erun_of_run {α : Type} {s : Sem α} {a : α} {w w' : World} (h : s.run P w = .ok a w') : erun P s w = some (a, w') := by
  unfold erun; rw [h]
theorem len_slice {t e : TypeId} (ht : P.underlying t = some (.slice e)) (ty : TypeId) (a : Option Addr) (n c : Nat) : prun P (Builtin.len_ #[t] ty #[.slice a n c]) = some (.int .i64 n) := by
  unfold Builtin.len_
  simp [prun_bind, prun_underlying ht, goInt]
theorem len_string {t : TypeId} (ht : P.underlying t = some .string) (ty : TypeId) (s : ByteArray) : prun P (Builtin.len_ #[t] ty #[.string s]) = some (.int .i64 s.size) := by
  unfold Builtin.len_
  simp [prun_bind, prun_underlying ht, goInt]
theorem index_slice {t e : TypeId} {i : TypeInfo} (ht : P.underlying t = some (.slice e)) (hi : P.info? e = some i) (a : Addr) (n c : Nat) (k : IntKind) (j : Int) (h0 : 0 ≤ j) (h1 : j < n) :
    prun P (Instr.indexAt t (.slice (some a) n c) (.int k j)) = some (.pointer (some (a.add (j.toNat * i.size)))) := by
  unfold Instr.indexAt
  simp [prun_bind, prun_underlying ht, asIntOf, h0, h1, prun_sizeOf hi]
theorem slice_at {t e : TypeId} {i : TypeInfo} (ht : P.underlying t = some (.slice e)) (hi : P.info? e = some i) (a : Option Addr) (n c : Nat) (lo hi' mx : Option Value) (l h m : Nat)
    (hb : prun P (Instr.sliceBounds true n c lo hi' mx) = some (l, h, m)) :
    prun P (Instr.sliceAt t (.slice a n c) lo hi' mx) = some (.slice (if m = l then a else a.map (·.add (l * i.size))) (h - l) (m - l)) := by
  unfold Instr.sliceAt
  simp only [prun_bind, prun_underlying ht, Option.bind_some]
  unfold Instr.slice
  simp [prun_bind, prun_underlying ht, hb, prun_sizeOf hi]
theorem bound_ok (k : IntKind) (x : Int) (y : Nat) (code : BoundsCode) (h0 : 0 ≤ x) (h1 : x ≤ y) : prun P (Instr.sliceBound (.int k x) y code) = some x.toNat := by
  unfold Instr.sliceBound
  simp [prun_bind, asIntOf, h0, h1]
theorem bounds_hi (n c : Nat) (k : IntKind) (h : Int) (h0 : 0 ≤ h) (h1 : h ≤ c) : prun P (Instr.sliceBounds true n c none (some (.int k h)) none) = some (0, h.toNat, c) := by
  unfold Instr.sliceBounds
  simp [prun_bind, bound_ok k h c _ h0 h1]
theorem bounds_lo (n c : Nat) (k : IntKind) (l : Int) (h0 : 0 ≤ l) (h1 : l ≤ n) : prun P (Instr.sliceBounds true n c (some (.int k l)) none none) = some (l.toNat, n, c) := by
  unfold Instr.sliceBounds
  simp [prun_bind, bound_ok k l n _ h0 h1]
theorem bounds_lohi (n c : Nat) (k k' : IntKind) (l h : Int) (h0 : 0 ≤ l) (h1 : l ≤ h) (h2 : h ≤ c) : prun P (Instr.sliceBounds true n c (some (.int k l)) (some (.int k' h)) none) = some (l.toNat, h.toNat, c) := by
  unfold Instr.sliceBounds
  simp [prun_bind, bound_ok k' h c _ (by omega) h2, bound_ok k l h.toNat _ h0 (by omega)]
theorem bounds_himax (n c : Nat) (k k' : IntKind) (h m : Int) (h1 : 0 ≤ h) (h2 : h ≤ m) (h3 : m ≤ c) : prun P (Instr.sliceBounds true n c none (some (.int k h)) (some (.int k' m))) = some (0, h.toNat, m.toNat) := by
  unfold Instr.sliceBounds
  simp [prun_bind, bound_ok k' m c _ (by omega) h3, bound_ok k h m.toNat _ (by omega) (by omega)]
@[simp] theorem extract_two0 (u v : Value) : prun P (Instr.extract (.tuple #[u, v]) 0) = some u := id rfl
@[simp] theorem extract_two1 (u v : Value) : prun P (Instr.extract (.tuple #[u, v]) 1) = some v := id rfl
@[simp] theorem extract_three0 (u v x : Value) : prun P (Instr.extract (.tuple #[u, v, x]) 0) = some u := id rfl
@[simp] theorem extract_three1 (u v x : Value) : prun P (Instr.extract (.tuple #[u, v, x]) 1) = some v := id rfl
@[simp] theorem extract_three2 (u v x : Value) : prun P (Instr.extract (.tuple #[u, v, x]) 2) = some x := id rfl
@[simp] theorem un_not (b : Bool) : prun P (Op.unary .not (.bool b)) = some (.bool !b) := id rfl
@[simp] theorem un_neg (k : IntKind) (a : Int) : prun P (Op.unary .neg (.int k a)) = some (.int k (k.wrap (0 - a))) := id rfl

@[simp] theorem add0 (a : Addr) : a.add 0 = a := by simp [Addr.add]
theorem addL (b o n : Nat) : (⟨b, o, none⟩ : Addr).add n = ⟨b, o + n, none⟩ := by unfold Addr.add; split <;> simp_all
@[simp] theorem add_block (a : Addr) (n : Nat) : (a.add n).block = a.block := by unfold Addr.add; split <;> rfl
/-! ### memory -/
def isAggB (P : Program) (t : TypeId) : Bool := match P.underlying t with
  | some (.struct _) | some (.array _ _) => true
  | _ => false
theorem load_one {t : TypeId} {d : TypeDesc} (ht : P.underlying t = some d) (hd : isAggB P t = false) (a : Addr) (w : World) : rrun P (Instr.loadAt t (.pointer (some a))) w = w.cell? a := by
  have h : prun P (isAgg t) = some false := by
    unfold isAgg
    unfold isAggB at hd
    rw [ht] at hd
    simp only [prun_bind, prun_underlying ht, Option.bind_some]
    cases d <;> first | rfl | cases hd
  unfold Instr.loadAt loadVar
  simp [rrun_bind, Instr.sureAddr, rrun_of_prun h]
/-- so many cells from a place on -/
def cellsAt (w : World) (a : Addr) : Nat → List Value → Prop
  | _, [] => True
  | i, v :: r => w.cell? (a.add i) = some v ∧ cellsAt w a (i + 1) r
theorem loadCellsFrom_ok {w : World} {a : Addr} : ∀ (vs : List Value) (i : Nat) (acc : Array Value), cellsAt w a i vs → rrun P (loadCellsFrom a i vs.length acc) w = some (acc ++ vs.toArray) := by
  intro vs
  induction vs with
  | nil => intro i acc _; simp [loadCellsFrom]
  | cons v r ih =>
    intro i acc h
    simp only [List.length_cons, loadCellsFrom, rrun_bind, rrun_load, h.1, Option.bind_some]
    rw [ih (i + 1) _ h.2]
    congr 1
    apply Array.ext'
    simp
theorem load_agg {t : TypeId} {i : TypeInfo} (hi : P.info? t = some i) (hd : isAggB P t = true) {a : Addr} {w : World} {vs : List Value} (hl : vs.length = i.size) (h : cellsAt w a 0 vs) :
    rrun P (Instr.loadAt t (.pointer (some a))) w = some (.agg vs.toArray) := by
  have h' : prun P (isAgg t) = some true := by
    unfold isAggB at hd
    unfold isAgg
    cases hu : P.underlying t with
    | none => rw [hu] at hd; cases hd
    | some d =>
      rw [hu] at hd
      simp only [prun_bind, prun_underlying hu, Option.bind_some]
      cases d <;> first | rfl | cases hd
  unfold Instr.loadAt loadVar
  have := loadCellsFrom_ok (P := P) vs 0 #[] h
  simp [rrun_bind, Instr.sureAddr, rrun_of_prun h', rrun_of_prun (prun_sizeOf hi), loadCells, ← hl, this]
theorem store_one {t : TypeId} {i : TypeInfo} (hi : P.info? t = some i) (hs : i.size = 1) {a : Addr} {w : World} {v u : Value} (hv : v.cells = #[v]) (ho : v.oneCell' = true) (hc : w.cell? a = some u) (hf : w.frozen? a = false) :
    erun P (Instr.storeAt t (.pointer (some a)) v) w = some ((), w.setCell a v) := by
  refine erun_of_run ?_
  unfold Instr.storeAt storeVar
  have e1 : (Instr.sureAddr (.pointer (some a))).run P w = .ok a w := rfl
  rw [run_ok e1, run_ok (prun_run (prun_sizeOf hi) w), hv]
  simp only [hs, List.size_toArray, List.length_singleton, ne_eq, not_true_eq_false, if_false]
  have e2 : (store (a.add 0) v).run P w = .ok () (w.setCell a v) := by
    show Sem.run P (Sem.store _ _ _ _) w = _
    cases v <;> simp [Value.oneCell'] at ho <;> simp [Sem.run, Addr.add, hc, hf] <;> rfl
  simp only [storeCells]
  rw [run_bind]
  have e3 : (do pure () : Sem Unit).run P w = .ok () w := rfl
  simp only [run_bind, e2]
  rfl
theorem box_any {t : TypeId} {v : Value} {w : World} : erun P (Instr.box t v) w = some (.pointer (some ⟨w.heap.size, 0, none⟩), w.alloc (.cells v.cells t)) := rfl

/-- what a slice reads: cells from a place on; none, if it has none -/
def Rd (w : World) (A : Option Addr) (cs : List Value) : Prop := match A with
  | none => cs = []
  | some a => ∀ (j : Nat) (v : Value), cs[j]? = some v → w.cell? (a.add j) = some v
theorem Rd.of_same {w w' : World} {A : Option Addr} {cs : List Value} (h : Rd w A cs) (hb : ∀ a, A = some a → w'.heap[a.block]? = w.heap[a.block]?) : Rd w' A cs := by
  cases A with
  | none => exact h
  | some a =>
    intro j v hj
    have : (a.add j).block = a.block := by unfold Addr.add; split <;> rfl
    rw [World.cell?_of_block (w := w) (by rw [this]; exact hb a rfl)]
    exact h j v hj
theorem Rd.lt {w : World} {a : Addr} {cs : List Value} (h : Rd w (some a) cs) (hn : cs ≠ []) : a.block < w.heap.size := by
  cases cs with
  | nil => exact absurd rfl hn
  | cons v r =>
    have := World.block_lt_of_cell? w _ (h 0 v rfl)
    simpa [Addr.add] using this
/-- a part of it -/
theorem Rd.part {w : World} {a : Addr} {cs : List Value} (h : Rd w (some a) cs) (l n : Nat) : Rd w (some (a.add l)) ((cs.drop l).take n) := by
  intro j v hj
  have h1 : cs[l + j]? = some v := by
    rw [List.getElem?_take] at hj
    split at hj
    · rwa [List.getElem?_drop] at hj
    · cases hj
  have := h (l + j) v h1
  have e : (a.add l).add j = a.add (l + j) := by
    unfold Addr.add
    by_cases hl : l = 0 <;> by_cases hj : j = 0 <;> simp [hl, hj, Nat.add_assoc]
  rwa [e]
theorem Rd.take {w : World} {A : Option Addr} {cs : List Value} (h : Rd w A cs) (n : Nat) : Rd w A (cs.take n) := by
  cases A with
  | none => have : cs = [] := h; subst this; simp [Rd]
  | some a => intro j v hj; exact h j v (by rw [List.getElem?_take] at hj; split at hj <;> first | exact hj | cases hj)
theorem Rd.nil (w : World) (A : Option Addr) : Rd w A [] := by
  cases A with
  | none => rfl
  | some a => intro j v h; simp at h
theorem Rd.sliced {w : World} {A : Option Addr} {cs : List Value} (hr : Rd w A cs) (l h m size : Nat) (h1 : l ≤ h) (h2 : h ≤ m) :
    Rd w (if m = l then A else A.map (·.add (l * size))) ((cs.drop (l * size)).take ((h - l) * size)) := by
  split
  · rename_i hm
    have : (h - l) * size = 0 := by rw [show h - l = 0 by omega]; simp
    rw [this]
    exact Rd.nil w A
  · cases A with
    | none => have hcs : cs = [] := hr; subst hcs; simp [Rd]
    | some a => exact hr.part (l * size) ((h - l) * size)
theorem sliced_nil {A : Option Addr} {l m c size : Nat} (hnil : A = none → c = 0) (hm : m ≤ c) : (if m = l then A else A.map (·.add (l * size))) = none → m - l = 0 := by
  intro h
  split at h
  · omega
  · have : A = none := by simpa using h
    have := hnil this
    omega
theorem own_nil {w : World} {base : Nat} {e : TypeId} {size n c : Nat} {A : Option Addr} {xs : List Value} (h : w.ownsRow base e size (.slice A n c) n xs) : A = none → c = 0 := by
  intro hA
  subst hA
  rcases h.2 with ⟨h1, _⟩ | ⟨g, cap, cur, hv, _⟩
  · simp at h1; exact h1.2
  · simp at hv
theorem grown_trans {w1 w2 w3 : World} {row : Option Nat} (h1 : w1.grownBy w2 none) (h2 : w2.grownBy w3 row) (hrow : ∀ k, row = some k → w1.heap.size ≤ k) : w1.grownBy w3 none :=
  ⟨h2.os.trans h1.os, h2.tape.trans h1.tape, h2.output.trans h1.output, Nat.le_trans h1.size h2.size, fun k hk _ => by
    rw [h2.block k (Nat.lt_of_lt_of_le hk h1.size) (fun e => by have := hrow k e.symm; omega)]
    exact h1.block k hk (by simp)⟩
theorem grown_refl (w : World) (row : Option Nat) : w.grownBy w row := ⟨rfl, rfl, rfl, Nat.le_refl _, fun _ _ _ => rfl⟩
theorem Rd.grown {w w' : World} {A : Option Addr} {cs : List Value} (h : Rd w A cs) (hg : w.grownBy w' none) : Rd w' A cs := by
  cases A with
  | none => exact h
  | some a =>
    by_cases hcs : cs = []
    · subst hcs; exact Rd.nil _ _
    · exact h.of_same fun b hb => by cases hb; exact hg.block _ (h.lt hcs) (by simp)
theorem Rd.owned {w : World} {base : Nat} {e : TypeId} {size n : Nat} {A : Option Addr} {c : Nat} {xs : List Value} (h : w.ownsRow base e size (.slice A n c) n xs) : Rd w A xs := by
  cases A with
  | none =>
    rcases h.2 with ⟨_, h2⟩ | ⟨g, cap, cur, hv, _⟩
    · have := h.1; rw [h2] at this; exact List.eq_nil_of_length_eq_zero (by simpa using this)
    · simp at hv
  | some a =>
    rcases h.2 with ⟨h1, _⟩ | ⟨g, cap, cur, hv, _⟩
    · simp at h1
    · simp only [Value.slice.injEq, Option.some.injEq] at hv
      have := h.cells (g := g) (by simp [Value.ownBlock, hv.1])
      rw [hv.1]
      exact this
theorem Rd.own {w : World} {base : Nat} {e : TypeId} {size n : Nat} {A : Option Addr} {c : Nat} {xs : List Value} (h : w.ownsRow base e size (.slice A n c) n xs) : Rd w A xs := by
  cases A with
  | none =>
    rcases h.2 with ⟨_, h2⟩ | ⟨g, cap, cur, hv, _⟩
    · have := h.1; rw [h2] at this; exact List.eq_nil_of_length_eq_zero (by simpa using this)
    · simp at hv
  | some a =>
    rcases h.2 with ⟨h1, _⟩ | ⟨g, cap, cur, hv, _⟩
    · simp at h1
    · simp only [Value.slice.injEq, Option.some.injEq] at hv
      have := h.cells (g := g) (by simp [Value.ownBlock, hv.1])
      rw [hv.1]
      exact this
/-- its shape -/
theorem own_form {w : World} {base : Nat} {e : TypeId} {size n : Nat} {v : Value} {xs : List Value} (h : w.ownsRow base e size v n xs) : ∃ A c, v = .slice A n c ∧ n ≤ c ∧ c ≤ maxLen := by
  rcases h.2 with ⟨h1, h2⟩ | ⟨g, cap, cur, hv, _, _, h3, h4, _⟩
  · exact ⟨none, 0, by rw [h1, h2], by omega, by simp [maxLen]⟩
  · exact ⟨_, _, hv, h3, h4⟩

theorem e_append {w : World} {base : Nat} {t ty e : TypeId} {i : TypeInfo} {z : Value} {size bytes : Nat} (ht : P.underlying t = some (.slice e)) (hi : P.info? e = some i) (hz : i.zero = some z)
    (hsize : i.size = size) (hby : i.bytes = bytes) (hzs : z.cells.size = size) (hsz : 0 < size) {v : Value} {n : Nat} {xs : List Value} (hown : w.ownsRow base e size v n xs)
    {A : Option Addr} {m c : Nat} {news : List Value} (hl : news.length = m * size) (hr : Rd w A news) (hnil : A = none → c = 0) (h1 : ∀ u ∈ news, u.oneCell' = true)
    (h63 : n + m ≤ maxLen) (hbytes : (n + m) * bytes ≤ 140737488355328) (hbase : base ≤ w.heap.size) :
    ∃ v' w', erun P (Builtin.append_ #[t, t] ty #[v, .slice A m c]) w = some (v', w') ∧ w'.ownsRow base e size v' (n + m) (xs ++ news) ∧ w.grownBy w' v.ownBlock := by
  cases A with
  | some a =>
    obtain ⟨v', w', h2, h3, h4, _⟩ := run_append_own (P := P) w base t ty e i z size bytes ht hi hz hsize hby hzs hsz v n xs hown a m c news hl hr h1 h63 hbytes hbase
    exact ⟨v', w', erun_of_run h2, h3, h4⟩
  | none =>
    have hn : news = [] := hr
    subst hn
    have hm : m = 0 := by
      have h : m * size = 0 := by simpa using hl.symm
      rcases Nat.mul_eq_zero.mp h with h | h
      · exact h
      · omega
    have hc := hnil rfl
    subst hm
    subst hc
    refine ⟨v, w, erun_of_run (run_append_owned_none (P := P) (w := w) base t ty e i size ht hi v n xs hown), by simpa using hown, ⟨rfl, rfl, rfl, Nat.le_refl _, fun _ _ _ => rfl⟩⟩
theorem e_make {w : World} {base : Nat} {t e : TypeId} {i : TypeInfo} {z : Value} {size : Nat} (ht : P.underlying t = some (.slice e)) (hi : P.info? e = some i) (hz : i.zero = some z) (hsize : i.size = size)
    (kl kc : IntKind) (n : Nat) (hbytes : i.bytes * n ≤ 281474976710656) (h63 : n ≤ maxLen) (hbase : base ≤ w.heap.size) :
    ∃ w', erun P (Instr.makeSlice t (.int kl (n : Int)) (.int kc (n : Int))) w = some (.slice (some ⟨w.heap.size, 0, none⟩) n n, w') ∧
      w'.ownsRow base e size (.slice (some ⟨w.heap.size, 0, none⟩) n n) n (madeCells z.cells (n * size)).toList ∧ w.grownBy w' none := by
  obtain ⟨w', h1, h2, h3⟩ := run_make_full (P := P) (w := w) base t e i z size ht hi hz hsize kl kc n hbytes h63 hbase
  exact ⟨w', erun_of_run h1, h2, h3⟩
/-- bytes as a list, as a text -/
def bv (l : List UInt8) : List Value := l.map fun x => .int .u8 x.toNat
@[simp] theorem length_bv (l : List UInt8) : (bv l).length = l.length := by simp [bv]
theorem bv_one (l : List UInt8) : ∀ u ∈ bv l, u.oneCell' = true := by
  intro u hu
  obtain ⟨x, _, rfl⟩ := List.mem_map.mp hu
  rfl
theorem rrun_forIn_bytes {w : World} (f : Value → ByteArray → Sem (ForInStep ByteArray)) (hf : ∀ (n : Int) (r : ByteArray), rrun P (f (.int .u8 n) r) w = some (.yield (r.push (UInt8.ofNat n.toNat)))) :
    ∀ (l : List UInt8) (s : ByteArray), rrun P (forIn (bv l) s f) w = some ⟨s.data ++ l.toArray⟩ := by
  intro l
  induction l with
  | nil => intro s; simp [bv]
  | cons x r ih =>
    intro s
    have h := ih (s.push x)
    simp only [bv, List.map_cons, List.forIn_cons, rrun_bind, hf, Option.bind_some] at h ⊢
    have hx : UInt8.ofNat (x.toNat : Int).toNat = x := by simp
    rw [hx, h]
    congr 2
    simp [ByteArray.push]
theorem e_text {w : World} {src dst e : TypeId} (hs : P.underlying src = some (.slice e)) (he : P.underlying e = some (.int .u8)) (hd : P.underlying dst = some .string)
    {A : Option Addr} {c : Nat} {l : List UInt8} {n : Nat} (hn : l.length = n) (hr : Rd w A (bv l)) : rrun P (convert src dst (.slice A n c)) w = some (.string ⟨l.toArray⟩) := by
  subst hn
  have h0 : rrun P (convert src dst (.slice A l.length c)) w = rrun P (Conv.bytesToString (.slice A l.length c)) w := by
    unfold convert
    simp only [rrun_bind, rrun_of_prun (prun_underlying hs), rrun_of_prun (prun_underlying hd), Option.bind_some, rrun_of_prun (prun_underlying he)]
  rw [h0]
  cases A with
  | none =>
    have : l = [] := by
      have h : bv l = [] := hr
      cases l with
      | nil => rfl
      | cons x r => simp [bv] at h
    subst this
    rfl
  | some a =>
    have hload : rrun P (loadCells a l.length) w = some (bv l).toArray := by
      have hc : ∀ (cs : List Value) (i : Nat), (∀ (j : Nat) (v : Value), cs[j]? = some v → w.cell? (a.add (i + j)) = some v) → cellsAt w a i cs := by
        intro cs
        induction cs with
        | nil => intro i _; trivial
        | cons v r ih => exact fun i h => ⟨by simpa using h 0 v rfl, ih (i + 1) fun j u hj => by have := h (j + 1) u (by simpa using hj); rwa [show i + 1 + j = i + (j + 1) by omega]⟩
      have := loadCellsFrom_ok (P := P) (bv l) 0 #[] (hc (bv l) 0 fun j v hj => by simpa using hr j v hj)
      simpa [loadCells] using this
    unfold Conv.bytesToString
    simp only [rrun_bind, hload, Option.bind_some, List.forIn_toArray]
    rw [rrun_forIn_bytes _ (by intro n r; simp)]
    simp
end

/-! ### blocks -/
/-- block b holds just these cells, of elements of type e -/
def Blk (w : World) (b : Nat) (e : TypeId) (cs : List Value) : Prop := w.heap[b]? = some (.cells cs.toArray e (0, 0))
theorem Blk.lt {w : World} {b : Nat} {e : TypeId} {cs : List Value} (h : Blk w b e cs) : b < w.heap.size := (Array.getElem?_eq_some_iff.mp h).1
theorem Blk.cell {w : World} {b : Nat} {e : TypeId} {cs : List Value} (h : Blk w b e cs) (i : Nat) : w.cell? ⟨b, i, none⟩ = cs[i]? := by
  unfold World.cell?; rw [h]; simp
theorem Blk.frozen {w : World} {b : Nat} {e : TypeId} {cs : List Value} (h : Blk w b e cs) (i : Nat) : w.frozen? ⟨b, i, none⟩ = false := by
  unfold World.frozen?; rw [h]; simp
theorem Blk.set {w : World} {b : Nat} {e : TypeId} {cs : List Value} (h : Blk w b e cs) (i : Nat) (v : Value) : Blk (w.setCell ⟨b, i, none⟩ v) b e (cs.set i v) := by
  unfold Blk at *
  simp [World.setCell, Array.getElem?_modify, h]
theorem Blk.drew {w : World} {b : Nat} {e : TypeId} {cs : List Value} (h : Blk w b e cs) : Blk w.drew b e cs := h
theorem Blk.new (w : World) (e : TypeId) (cs : List Value) : Blk (w.alloc (.cells cs.toArray e)) w.heap.size e cs := by
  exact heap_alloc_new w _
theorem Blk.same {w w' : World} {b : Nat} {e : TypeId} {cs : List Value} (h : Blk w b e cs) (hb : w'.heap[b]? = w.heap[b]?) : Blk w' b e cs := by
  unfold Blk at *; rw [hb]; exact h
theorem Blk.grown {w w' : World} {b : Nat} {e : TypeId} {cs : List Value} {row : Option Nat} (h : Blk w b e cs) (hg : w.grownBy w' row) (hne : row ≠ some b) : Blk w' b e cs :=
  h.same (hg.block b h.lt fun e => hne e.symm)
theorem grown_set {w : World} (b i : Nat) (v : Value) : w.grownBy (w.setCell ⟨b, i, none⟩ v) (some b) :=
  ⟨rfl, rfl, rfl, by simp, fun k _ hk => Below.heap_setCell w _ _ k fun h => hk (by rw [h])⟩
theorem grown_step {w1 w2 w3 : World} {row : Option Nat} (h1 : w1.grownBy w2 row) (h2 : w2.grownBy w3 row) : w1.grownBy w3 row :=
  ⟨h2.os.trans h1.os, h2.tape.trans h1.tape, h2.output.trans h1.output, Nat.le_trans h1.size h2.size, fun k hk hr => (h2.block k (Nat.lt_of_lt_of_le hk h1.size) hr).trans (h1.block k hk hr)⟩
theorem below_of_grown {w w' : World} (h : w.grownBy w' none) : Below w.heap.size w w' := ⟨h.os, h.tape, h.output, h.size, fun k hk => h.block k hk (by simp)⟩
theorem Blk.rd {w : World} {b : Nat} {e : TypeId} {cs : List Value} (h : Blk w b e cs) : Rd w (some ⟨b, 0, none⟩) cs := by
  intro j v hj
  rw [addL, Nat.zero_add, h.cell]
  exact hj
@[simp] theorem cutA (n : Nat) (A : Option Addr) : (if n = 0 then A else A.map fun x => x.add 0) = A := by
  cases A <;> simp

@[simp high] theorem cell_drew (w : World) (a : Addr) : w.drew.cell? a = w.cell? a := id rfl

/-! ### loops -/
/-- a loop whose rounds lower a number; what it leaves with -/
theorem iter_down {f : List Value → World → Option Res} (Inv : Nat → List Value → World → Prop) (Q : Res → Prop)
    (step : ∀ d vs w, Inv d vs w → (∃ d' vs' w', d' < d ∧ f vs w = some (.norm vs' w') ∧ Inv d' vs' w') ∨ ∃ r, f vs w = some r ∧ Q r ∧ ∀ vs w, r ≠ .norm vs w) :
    ∀ d vs w, Inv d vs w → ∃ r, iter f vs w = some r ∧ Q r := by
  have key : ∀ d vs w, Inv d vs w → ∃ r, Rounds f vs w r ∧ Q r := by
    intro d
    induction d using Nat.strongRecOn with
    | _ d ih =>
      intro vs w h
      rcases step d vs w h with ⟨d', vs', w', h1, h2, h3⟩ | ⟨r, h1, h2, h3⟩
      · obtain ⟨r, h4, h5⟩ := ih d' h1 vs' w' h3
        exact ⟨r, .more h2 h4, h5⟩
      · cases r with
        | norm vs w => exact absurd rfl (h3 vs w)
        | exit i vs w => exact ⟨_, .exit h1, h2⟩
        | ret vs w => exact ⟨_, .ret h1, h2⟩
  intro d vs w h
  obtain ⟨r, h1, h2⟩ := key d vs w h
  exact ⟨r, iter_of_rounds h1, h2⟩
/-- a loop that counts up to n, in one world, and leaves there -/
theorem iter_up {f : List Value → World → Option Res} {w : World} (n : Nat) (st : Nat → List Value) {r : Res} (hr : ∀ vs w, r ≠ .norm vs w) (step : ∀ i, i < n → f (st i) w = some (.norm (st (i + 1)) w)) (last : f (st n) w = some r) :
    iter f (st 0) w = some r := by
  have key : ∀ d i, i + d = n → Rounds f (st i) w r := by
    intro d
    induction d with
    | zero =>
      intro i hi
      have : i = n := by omega
      subst this
      cases r with
      | norm vs w => exact absurd rfl (hr vs w)
      | exit i vs w => exact .exit last
      | ret vs w => exact .ret last
    | succ d ih => intro i hi; exact .more (step i (by omega)) (ih (i + 1) (by omega))
  exact iter_of_rounds (key n 0 (by omega))

end Go.Sh

namespace Go.Sh
open Go Go.RowKit Go.ChangeShapes Go.WideShapes

/-- a slice of whole numbers that came in: what it reads up to its capacity -/
def IsRow (k : IntKind) (w : World) (a : Option Addr) (len cap : Nat) (zs : List Int) : Prop :=
  (a = none ∧ len = 0 ∧ cap = 0 ∧ zs = []) ∨
  ∃ x, a = some x ∧ len ≤ cap ∧ cap ≤ maxLen ∧ zs.length = cap ∧ (∀ i, i < zs.length → w.cell? (x.add i) = some (.int k (zs.getD i 0))) ∧ ∀ n ∈ zs, (Lit.int k n).wf = true

theorem IsRow.len {k : IntKind} {w : World} {a : Option Addr} {len cap : Nat} {zs : List Int} (h : IsRow k w a len cap zs) : len ≤ zs.length := by
  rcases h with ⟨_, rfl, _, rfl⟩ | ⟨x, _, h1, _, h2, _⟩
  · simp
  · omega
theorem IsRow.rd {k : IntKind} {w : World} {a : Option Addr} {len cap : Nat} {zs : List Int} (h : IsRow k w a len cap zs) : Rd w a ((zs.take len).map (Value.int k)) := by
  rcases h with ⟨rfl, rfl, _, rfl⟩ | ⟨x, rfl, h1, _, h2, h3, _⟩
  · rfl
  · intro j v hj
    rw [List.getElem?_map, List.getElem?_take] at hj
    split at hj
    · rename_i hjl
      have hlt : j < zs.length := by omega
      rw [List.getElem?_eq_getElem hlt] at hj
      simp only [Option.map_some, Option.some.injEq] at hj
      subst hj
      have := h3 j hlt
      simpa [List.getD_eq_getElem?_getD, List.getElem?_eq_getElem hlt] using this
    · cases hj
theorem IsRow.wf {k : IntKind} {w : World} {a : Option Addr} {len cap : Nat} {zs : List Int} (h : IsRow k w a len cap zs) : ∀ n ∈ zs, (Lit.int k n).wf = true := by
  rcases h with ⟨_, _, _, rfl⟩ | ⟨x, _, _, _, _, _, h⟩
  · simp
  · exact h
theorem IsRow.nil {k : IntKind} {w : World} {a : Option Addr} {len cap : Nat} {zs : List Int} (h : IsRow k w a len cap zs) : a = none → cap = 0 := by
  rcases h with ⟨_, _, h, _⟩ | ⟨x, hx, _⟩
  · exact fun _ => h
  · intro h; rw [h] at hx; cases hx
theorem IsRow.le {k : IntKind} {w : World} {a : Option Addr} {len cap : Nat} {zs : List Int} (h : IsRow k w a len cap zs) : len ≤ cap ∧ cap ≤ maxLen := by
  rcases h with ⟨_, rfl, rfl, _⟩ | ⟨x, _, h1, h2, _⟩
  · exact ⟨Nat.le_refl _, by simp [maxLen]⟩
  · exact ⟨h1, h2⟩
/-- element i, where memory that was there is as it was -/
theorem IsRow.get {k : IntKind} {w : World} {a : Option Addr} {len cap : Nat} {zs : List Int} (h : IsRow k w a len cap zs) {w' : World} (hg : w.grownBy w' none) {i : Nat} (hi : i < len) :
    ∃ x, a = some x ∧ w'.cell? (x.add i) = some (.int k (zs.getD i 0)) ∧ (Lit.int k (zs.getD i 0)).wf = true := by
  have hr := h.rd.grown hg
  have hl := h.len
  cases a with
  | none =>
    rcases h with ⟨_, h, _⟩ | ⟨x, hx, _⟩
    · omega
    · cases hx
  | some x =>
    have hlt : i < zs.length := by omega
    refine ⟨x, rfl, ?_, h.wf _ (by simp [List.getD_eq_getElem?_getD, List.getElem?_eq_getElem hlt])⟩
    have := hr i (.int k (zs.getD i 0)) (by simp [hi, List.getD_eq_getElem?_getD, List.getElem?_eq_getElem hlt])
    exact this
end Go.Sh

namespace Go.Sh
open Go Go.RowKit
set_option linter.unusedVariables false
set_option linter.unusedSimpArgs false

section
variable {P : Program}
theorem p_and (t : TypeId) (x y : Operand) (k : IntKind) (a b : Int) : prun P (do eqGuard .and t x y (.int k a) (.int k b); binOp .and t (.int k a) (.int k b)) = some (.int k (bits .and k a b)) := by simp [eqGuard, binOp, Op.intBits]; rfl
theorem p_or (t : TypeId) (x y : Operand) (k : IntKind) (a b : Int) : prun P (do eqGuard .or t x y (.int k a) (.int k b); binOp .or t (.int k a) (.int k b)) = some (.int k (bits .or k a b)) := by simp [eqGuard, binOp, Op.intBits]; rfl
theorem p_xor (t : TypeId) (x y : Operand) (k : IntKind) (a b : Int) : prun P (do eqGuard .xor t x y (.int k a) (.int k b); binOp .xor t (.int k a) (.int k b)) = some (.int k (bits .xor k a b)) := by simp [eqGuard, binOp, Op.intBits]; rfl
theorem p_shl (t : TypeId) (x y : Operand) (k k' : IntKind) (a b : Int) (hb : 0 ≤ b) : prun P (do eqGuard .shl t x y (.int k a) (.int k' b); binOp .shl t (.int k a) (.int k' b)) = some (.int k (k.wrap (a * 2 ^ min b.toNat k.bits))) := by
  have : ¬ b < 0 := by omega
  simp [eqGuard, binOp, Op.shift, this]
theorem p_shr (t : TypeId) (x y : Operand) (k k' : IntKind) (a b : Int) (hb : 0 ≤ b) : prun P (do eqGuard .shr t x y (.int k a) (.int k' b); binOp .shr t (.int k a) (.int k' b)) = some (.int k (a.fdiv (2 ^ min b.toNat k.bits))) := by
  have : ¬ b < 0 := by omega
  simp [eqGuard, binOp, Op.shift, this]
theorem wrap_u8_range (x : Int) : 0 ≤ IntKind.u8.wrap x ∧ IntKind.u8.wrap x ≤ 255 := by
  simp [IntKind.wrap, IntKind.signed, IntKind.bits]; omega
/-- one cell of a block -/
theorem Blk.store {w : World} {b : Nat} {e : TypeId} {cs : List Value} (h : Blk w b e cs) {t : TypeId} {i : TypeInfo} (hi : P.info? t = some i) (hs : i.size = 1) {j : Nat} (hj : j < cs.length) {v : Value} (hv : v.cells = #[v]) (ho : v.oneCell' = true) :
    erun P (Instr.storeAt t (.pointer (some ⟨b, j, none⟩)) v) w = some ((), w.setCell ⟨b, j, none⟩ v) :=
  store_one hi hs hv ho (by rw [h.cell]; exact List.getElem?_eq_getElem hj) (h.frozen j)
/-- copy, into a block -/
theorem e_copy {w : World} {b : Nat} {e0 : TypeId} {cur : List Value} (h : Blk w b e0 cur) {dT sT ty e : TypeId} {i : TypeInfo} (ht : P.underlying dT = some (.slice e)) (hi : P.info? e = some i) (hs : i.size = 1)
    {o dn dc sn sc : Nat} {A : Option Addr} {cs : List Value} (hr : Rd w A cs) (hl : cs.length = sn) (hnil : A = none → sc = 0) (hfit : o + min sn dn ≤ cur.length) (h1 : ∀ v ∈ cs, v.oneCell' = true) :
    ∃ w', erun P (Builtin.copy_ #[dT, sT] ty #[.slice (some ⟨b, o, none⟩) dn dc, .slice A sn sc]) w = some (.int .i64 (min sn dn : Nat), w') ∧ Blk w' b e0 (cur.take o ++ cs.take dn ++ cur.drop (o + min sn dn)) ∧ w.grownBy w' (some b) := by
  cases A with
  | none =>
    have hcs : cs = [] := hr
    subst hcs
    have hc := hnil rfl
    subst hc
    simp at hl
    subst hl
    refine ⟨w, erun_of_run (by have := run_copy_nil (P := P) w dT sT ty e ⟨b, o, none⟩ dn dc ht (by rw [hi]; rfl); simpa [goInt] using this), by simpa using h, grown_refl _ _⟩
  | some a =>
    have hn : (cs.take dn).length = Nat.min sn dn := by rw [List.length_take, hl]; exact Nat.min_comm _ _
    have := run_copy_row (P := P) w dT sT ty e b o dn dc a sn sc cur.toArray e0 (cs.take dn) ht (by rw [hi]; simp [hs]) h hn
      (fun j v hj => hr j v (by rw [List.getElem?_take] at hj; split at hj <;> first | exact hj | cases hj)) (by rw [hn]; simpa using hfit) (fun v hv => h1 v (List.mem_of_mem_take hv))
    rw [hn] at this
    refine ⟨_, erun_of_run this, ?_, ⟨rfl, rfl, rfl, by simp [World.setRow], fun k _ hk => ?_⟩⟩
    · have e1 := setRow_heap w b cur.toArray (cur.take o ++ cs.take dn ++ cur.drop (o + min sn dn)).toArray e0 (0, 0) h
      simpa [Blk] using e1
    · have hne : b ≠ k := fun e => hk (by rw [e])
      simp [World.setRow, Array.getElem?_modify, hne]
end
/-! ### appends -/
section
variable {P : Program}
/-- where the longer row lies: where it lay, or in new memory -/
theorem e_append2 {w : World} {base : Nat} {t ty e : TypeId} {i : TypeInfo} {z : Value} {size bytes : Nat} (ht : P.underlying t = some (.slice e)) (hi : P.info? e = some i) (hz : i.zero = some z)
    (hsize : i.size = size) (hby : i.bytes = bytes) (hzs : z.cells.size = size) (hsz : 0 < size) {v : Value} {n : Nat} {xs : List Value} (hown : w.ownsRow base e size v n xs)
    {A : Option Addr} {m c : Nat} {news : List Value} (hl : news.length = m * size) (hr : Rd w A news) (hnil : A = none → c = 0) (h1 : ∀ u ∈ news, u.oneCell' = true)
    (h63 : n + m ≤ maxLen) (hbytes : (n + m) * bytes ≤ 140737488355328) (hbase : base ≤ w.heap.size) :
    ∃ v' w', erun P (Builtin.append_ #[t, t] ty #[v, .slice A m c]) w = some (v', w') ∧ w'.ownsRow base e size v' (n + m) (xs ++ news) ∧ w.grownBy w' v.ownBlock ∧ (∀ k, v'.ownBlock = some k → v.ownBlock = some k ∨ w.heap.size ≤ k) := by
  obtain ⟨v', w', h2, h3, h4⟩ := e_append (P := P) ht hi hz hsize hby hzs hsz hown (ty := ty) hl hr hnil h1 h63 hbytes hbase
  refine ⟨v', w', h2, h3, h4, fun k hk => ?_⟩
  rcases hown.2 with ⟨rfl, rfl⟩ | ⟨g, cap, cur, rfl, hbg, hg, hnc, hcm, hcs, htake⟩
  · obtain ⟨v2, w2, k2, k3, _⟩ := e_append (P := P) ht hi hz hsize hby hzs hsz (World.ownsRow_nil w w.heap.size e size) (ty := ty) hl hr hnil h1 h63 hbytes (Nat.le_refl _)
    rw [k2] at h2
    obtain ⟨rfl, rfl⟩ := Prod.mk.inj (Option.some.inj h2)
    exact .inr (k3.lt k hk).1
  · cases A with
    | none =>
      have hn : news = [] := hr
      subst hn
      have hm : m = 0 := by
        have h : m * size = 0 := by simpa using hl.symm
        rcases Nat.mul_eq_zero.mp h with h | h
        · exact h
        · omega
      have hc := hnil rfl
      subst hm
      subst hc
      have := erun_of_run (run_append_owned_none (P := P) (w := w) base t ty e i size ht hi _ n xs hown)
      rw [this] at h2
      obtain ⟨rfl, rfl⟩ := Prod.mk.inj (Option.some.inj h2)
      exact .inl hk
    | some a =>
      subst hsize
      subst hby
      by_cases hroom : n + m ≤ cap
      · have hfit : n * i.size + news.length ≤ cur.size := by rw [hl, hcs, ← Nat.add_mul]; exact Nat.mul_le_mul_right _ hroom
        have := erun_of_run (run_append_room (P := P) w t ty e i ht hi g n cap cur hg a m c news hl hr h1 hroom hfit)
        rw [this] at h2
        obtain ⟨rfl, _⟩ := Prod.mk.inj (Option.some.inj h2)
        exact .inl hk
      · have holds : ∀ j u, xs[j]? = some u → w.cell? ((⟨g, 0, none⟩ : Addr).add j) = some u := hown.cells (g := g) rfl
        have hsmall : n + m ≤ 9223372036854775807 := by simp only [maxLen] at h63; omega
        have := erun_of_run (run_append_grow (P := P) w t ty e i z ht hi hz ⟨g, 0, none⟩ n cap xs hown.1 holds a m c news hl hr (by omega) (by omega) (growslice_fits (by omega) hbytes))
        rw [this] at h2
        obtain ⟨rfl, _⟩ := Prod.mk.inj (Option.some.inj h2)
        simp [Value.ownBlock] at hk
        exact .inr (by omega)
end
/-! ### order, by omega -/
theorem lt_t {a b : Int} (h : a < b) : (a < b) = True := eq_true h
theorem lt_f {a b : Int} (h : b ≤ a) : (a < b) = False := eq_false (by omega)
/-- bytes that came in, as a list -/
theorem IsRow.bytes {w : World} {a : Option Addr} {len cap : Nat} {zs : List Int} (h : IsRow .u8 w a len cap zs) : ∃ l : List UInt8, l.length = len ∧ Rd w a (bv l) ∧ (a = none → cap = 0) ∧ len ≤ cap := by
  refine ⟨(zs.take len).map fun z => UInt8.ofNat z.toNat, by simp [h.len], ?_, h.nil, h.le.1⟩
  have := h.rd
  have e : bv ((zs.take len).map fun z => UInt8.ofNat z.toNat) = (zs.take len).map (Value.int .u8) := by
    unfold bv
    rw [List.map_map]
    apply List.map_congr_left
    intro z hz
    have := h.wf z (List.mem_of_mem_take hz)
    simp [Lit.wf, IntKind.min, IntKind.max, IntKind.signed, IntKind.bits] at this
    simp
    omega
  rw [e]
  exact this
theorem bv_append (a b : List UInt8) : bv (a ++ b) = bv a ++ bv b := by simp [bv]
theorem bv_take (l : List UInt8) (n : Nat) : bv (l.take n) = (bv l).take n := by simp [bv]
theorem bv_drop (l : List UInt8) (n : Nat) : bv (l.drop n) = (bv l).drop n := by simp [bv]
end Go.Sh

namespace Go.Sh
open Go Go.RowKit
set_option linter.unusedVariables false
set_option linter.unusedSimpArgs false

/-- at most the blocks of S have changed, and there may be new ones -/
structure Grew (S : Nat → Prop) (w w' : World) : Prop where
  os : w'.os = w.os
  tape : w'.tape = w.tape
  output : w'.output = w.output
  size : w.heap.size ≤ w'.heap.size
  block : ∀ k, k < w.heap.size → ¬ S k → w'.heap[k]? = w.heap[k]?
theorem Grew.refl (S : Nat → Prop) (w : World) : Grew S w w := ⟨rfl, rfl, rfl, Nat.le_refl _, fun _ _ _ => rfl⟩
theorem Grew.drew (S : Nat → Prop) (w : World) : Grew S w w.drew := ⟨rfl, rfl, rfl, Nat.le_refl _, fun _ _ _ => rfl⟩
theorem Grew.trans {S T : Nat → Prop} {w w' w'' : World} (h : Grew S w w') (h' : Grew T w' w'') (hs : ∀ k, T k → S k ∨ w.heap.size ≤ k) : Grew S w w'' :=
  ⟨h'.os.trans h.os, h'.tape.trans h.tape, h'.output.trans h.output, Nat.le_trans h.size h'.size, fun k hk hn => (h'.block k (Nat.lt_of_lt_of_le hk h.size) fun ht => by
    rcases hs k ht with h1 | h1
    · exact hn h1
    · omega).trans (h.block k hk hn)⟩
theorem Grew.step {S : Nat → Prop} {w w' w'' : World} (h : Grew S w w') (h' : Grew S w' w'') : Grew S w w'' := h.trans h' fun _ hk => .inl hk
theorem Grew.weak {S T : Nat → Prop} {w w' : World} (h : Grew T w w') (hs : ∀ k, T k → S k ∨ w.heap.size ≤ k) : Grew S w w' := (Grew.refl S w).trans h hs
theorem grew_of {S : Nat → Prop} {w w' : World} {row : Option Nat} (h : w.grownBy w' row) (hs : ∀ k, row = some k → S k ∨ w.heap.size ≤ k) : Grew S w w' :=
  ⟨h.os, h.tape, h.output, h.size, fun k hk hn => h.block k hk fun e => by
    rcases hs k e.symm with h1 | h1
    · exact hn h1
    · omega⟩
theorem grew_new {S : Nat → Prop} {w w' : World} (h : w.grownBy w' none) : Grew S w w' := grew_of h fun k e => by cases e
theorem grew_set {S : Nat → Prop} (w : World) {b : Nat} (i : Nat) (v : Value) (hb : S b) : Grew S w (w.setCell ⟨b, i, none⟩ v) := grew_of (grown_set b i v) fun k e => by cases e; exact .inl hb
theorem Grew.toNew {S : Nat → Prop} {w w' : World} (h : Grew S w w') (hs : ∀ k, S k → w.heap.size ≤ k) : w.grownBy w' none :=
  ⟨h.os, h.tape, h.output, h.size, fun k hk _ => h.block k hk fun hk' => by have := hs k hk'; omega⟩
theorem Grew.alloc (S : Nat → Prop) (w : World) (o : Obj) : Grew S w (w.alloc o) := grew_new (World.grownBy_alloc w o none)

theorem Blk.grew {S : Nat → Prop} {w w' : World} {b : Nat} {e : TypeId} {cs : List Value} (h : Blk w b e cs) (hg : Grew S w w') (hn : ¬ S b) : Blk w' b e cs := h.same (hg.block b h.lt hn)
theorem own_same {w w' : World} {base : Nat} {e : TypeId} {size n : Nat} {v : Value} {xs : List Value} (h : w.ownsRow base e size v n xs) (hs : ∀ k, v.ownBlock = some k → w'.heap[k]? = w.heap[k]?) : w'.ownsRow base e size v n xs := by
  obtain ⟨h0, h1⟩ := h
  refine ⟨h0, ?_⟩
  rcases h1 with h1 | ⟨g, cap, cur, rfl, h2, h3, h4⟩
  · exact .inl h1
  · exact .inr ⟨g, cap, cur, rfl, h2, (hs g rfl).trans h3, h4⟩
theorem own_grew {S : Nat → Prop} {w w' : World} {base : Nat} {e : TypeId} {size n : Nat} {v : Value} {xs : List Value} (h : w.ownsRow base e size v n xs) (hg : Grew S w w') (hn : ∀ k, v.ownBlock = some k → ¬ S k) : w'.ownsRow base e size v n xs :=
  own_same h fun k hk => hg.block k (h.lt k hk).2 (hn k hk)
theorem own_blk_ne {w : World} {base b : Nat} {e e' : TypeId} {size n : Nat} {v : Value} {xs cs : List Value} (h : w.ownsRow base e size v n xs) (hb : Blk w b e' cs) (hne : e ≠ e') : v.ownBlock ≠ some b := by
  intro hk
  rcases h.2 with ⟨rfl, _⟩ | ⟨g, cap, cur, rfl, h2, h3, _⟩
  · cases hk
  · obtain rfl : g = b := by simpa [Value.ownBlock] using hk
    rw [hb] at h3
    injection h3 with h3
    injection h3 with _ h3
    exact hne h3.symm
theorem own_own_ne {w : World} {base base' k : Nat} {e e' : TypeId} {size size' n n' : Nat} {v v' : Value} {xs xs' : List Value} (h : w.ownsRow base e size v n xs) (h' : w.ownsRow base' e' size' v' n' xs') (hne : e ≠ e') (hk : v.ownBlock = some k) (hk' : v'.ownBlock = some k) : False := by
  rcases h.2 with ⟨rfl, _⟩ | ⟨g, cap, cur, rfl, h2, h3, _⟩
  · cases hk
  · rcases h'.2 with ⟨rfl, _⟩ | ⟨g', cap', cur', rfl, h2', h3', _⟩
    · cases hk'
    · obtain rfl : g = k := by simpa [Value.ownBlock] using hk
      obtain rfl : g' = g := by simpa [Value.ownBlock] using hk'
      rw [h3] at h3'
      injection h3' with h3'
      injection h3' with _ h3'
      exact hne h3'
/-- reads of what was there, where it has not changed -/
theorem Rd.grew {S : Nat → Prop} {w w' : World} {A : Option Addr} {cs : List Value} (h : Rd w A cs) (hg : Grew S w w') (hn : ∀ a, A = some a → ¬ S a.block) : Rd w' A cs := by
  cases A with
  | none => exact h
  | some a =>
    by_cases hc : cs = []
    · subst hc; exact Rd.nil _ _
    · exact h.of_same fun b hb => by cases hb; exact hg.block _ (h.lt hc) (hn a rfl)
theorem Blk.store2 {w : World} {b : Nat} {e : TypeId} {cs : List Value} (h : Blk w b e cs) (i : Nat) (v : Value) {cs' : List Value} (hcs : cs.set i v = cs') : Blk (w.setCell ⟨b, i, none⟩ v) b e cs' := hcs ▸ h.set i v
theorem Blk.cell_eq {w : World} {b : Nat} {e : TypeId} {cs : List Value} (h : Blk w b e cs) (i : Nat) {v : Value} (hv : cs[i]? = some v) : w.cell? ⟨b, i, none⟩ = some v := by rw [h.cell]; exact hv
theorem own_new {w w' : World} {base : Nat} {e : TypeId} {size n : Nat} {v : Value} {xs : List Value} (h : w.ownsRow base e size v n xs) (hg : w.grownBy w' none) : w'.ownsRow base e size v n xs :=
  own_same h fun k hk => hg.block k (h.lt k hk).2 (by simp)
theorem own_beside {w w' : World} {base : Nat} {e : TypeId} {size n : Nat} {v : Value} {xs : List Value} {row : Option Nat} (h : w.ownsRow base e size v n xs) (hg : w.grownBy w' row) (hn : ∀ k, v.ownBlock = some k → row = some k → False) : w'.ownsRow base e size v n xs :=
  own_same h fun k hk => hg.block k (h.lt k hk).2 fun e => hn k hk e.symm
end Go.Sh

