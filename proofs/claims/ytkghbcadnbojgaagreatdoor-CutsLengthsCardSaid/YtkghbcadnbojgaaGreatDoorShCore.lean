/- An interpreter over the model's Code and World with a partial environment: the layer 'Sh'. No condition. -/
import Derived.Calls
import Derived.LoopN
import Derived.Orders
import Derived.Laws.World
import Derived.Still
import Derived.StillTail
namespace Go.Sh

/-- looks into the environment: a bind that the kernel takes apart first -/
abbrev _root_.Option.ebind {α β : Type} (x : Option α) (f : α → Option β) : Option β := match x with | some a => f a | none => none
theorem _root_.Option.ebind_eq {α β : Type} (x : Option α) (f : α → Option β) : x.ebind f = x.bind f := by cases x <;> rfl
/-! ### environments -/
abbrev Env := Nat → Option Value
def Env.nil : Env := fun _ => none
def Env.set (e : Env) (d : Nat) (v : Value) : Env := fun i => bif Nat.beq i d then some v else e i
def Env.put (e : Env) (d : Option Nat) (v : Value) : Env := match d with | some d => e.set d v | none => e
def Env.drop (lo hi : Nat) (e : Env) : Env := fun i => bif Nat.ble lo i && Nat.ble i hi then none else e i
def ev (e : Env) : Operand → Option Value
  | .tmp t => e t
  | .const v => some v
  | .global g => some (.pointer (some ⟨g, 0, none⟩))
  | .func f => some (.func (.func f) #[] #[])
def evs (e : Env) : List Operand → Option (List Value)
  | [] => some []
  | x :: r => (ev e x).bind fun v => (evs e r).bind fun vs => some (v :: vs)
def gets (e : Env) : List Nat → Option (List Value)
  | [] => some []
  | t :: r => (e t).bind fun v => (gets e r).bind fun vs => some (v :: vs)
def nth : List Value → Nat → Value
  | [], _ => undef
  | v :: _, 0 => v
  | _ :: r, i + 1 => nth r i
def ofList (i : Nat) : List Nat → List Value → Env
  | [], _ => Env.nil
  | t :: r, vs => (ofList (i + 1) r vs).set t (nth vs i)

/-! ### results -/
inductive Res where
  | norm (vs : List Value) (w : World)
  | exit (id : Nat) (vs : List Value) (w : World)
  | ret (vs : List Value) (w : World)
def Res.cont (r : Res) (k : List Value → World → Option Res) : Option Res := match r with
  | .norm vs w => k vs w
  | .exit i vs w => some (.exit i vs w)
  | .ret vs w => some (.ret vs w)
def Res.unblock (id : Nat) : Res → Res
  | .exit i vs w => if i = id then .norm vs w else .exit i vs w
  | r => r

/-! ### operations -/
def asB : Value → Option Bool
  | .bool b => some b
  | _ => none
/-- a run that neither reads nor writes memory -/
def prun {α : Type} (P : Program) : Sem α → Option α
  | .pure a => some a
  | .program k => prun P (k P)
  | .mark _ k => prun P k
  | _ => none
/-- a run that only reads memory -/
def rrun {α : Type} (P : Program) : Sem α → World → Option α
  | .pure a, _ => some a
  | .program k, w => rrun P (k P) w
  | .mark _ k, w => rrun P k w
  | .load _ a k, w => match w.cell? a with
    | some v => rrun P (k v) w
    | none => none
  | .shape r k, w => rrun P (k (w.shape? r)) w
  | .frozen a k, w => rrun P (k (w.frozen? a)) w
  | .getObj r k, w => match w.heap[r]? with
    | some (.cells ..) => none
    | some o => rrun P (k o) w
    | none => none
  | _, _ => none
def erun {α : Type} (P : Program) (s : Sem α) (w : World) : Option (α × World) :=
  match s.run P w with
  | .ok a w' => some (a, w')
  | .halt _ _ => none

def bin (op : BinOp) : Value → Value → Option Value
  | .int k a, .int k' b => if k = k' then match op with
      | .add => some (.int k (k.wrap (a + b)))
      | .sub => some (.int k (k.wrap (a - b)))
      | .mul => some (.int k (k.wrap (a * b)))
      | .quo => if b = 0 then none else some (.int k (k.wrap (a.tdiv b)))
      | .rem => if b = 0 then none else some (.int k (a.tmod b))
      | .eql => some (.bool (a == b))
      | .neq => some (.bool (a != b))
      | .lss => some (.bool (a < b))
      | .leq => some (.bool (a ≤ b))
      | .gtr => some (.bool (a > b))
      | .geq => some (.bool (a ≥ b))
      | _ => none
    else none
  | _, _ => none
def pickV (c a b : Value) : Option Value := match c with
  | .bool true => some a
  | .bool false => some b
  | _ => none

def nilV (P : Program) : Value → Option Value
  | .pointer (some p) => some (.pointer (some p))
  | .func (.method name) first captured => match (first[0]? : Option Value) with
    | some (.iface t u) => match prun P (nilAhead (P.types.size + Made.depth) t u name) with
      | some (some false) => some (.func (.method name) first captured)
      | _ => none
    | _ => none
  | _ => none

/-- a function of the library that the model stands in for -/
def bodyless (P : Program) (f : FuncId) : Bool := match P.funcs[f]? with
  | some fn => fn.body.isNone
  | none => false
def xrun (P : Program) (s : Sem Next) (w : World) : Option (Value × World) := match s.run P w with
  | .ok (.value v) w' => some (v, w')
  | _ => none
/-- what a call answers -/
abbrev CallF := FuncId → Array Value → World → Option (Value × World)

def arith : BinOp → Bool
  | .shl | .shr | .and | .or | .xor | .andNot => false
  | _ => true
def isIntT (P : Program) (t : TypeId) : Bool := match P.underlying t with
  | some (.int _) => true
  | _ => false

def scalarT (P : Program) (t : TypeId) : Bool := match P.underlying t with
  | some (.int _) | some .bool | some .string => true
  | _ => false
def convReads (P : Program) (s d : TypeId) : Bool := match P.underlying s, P.underlying d with
  | some (.slice _), some .string => true
  | _, _ => false
def convPure (P : Program) (s d : TypeId) : Bool := match P.underlying s, P.underlying d with
  | some (.int _), some (.int _) => true
  | some .string, some .string => true
  | _, _ => false
def lenPure (P : Program) (ts : Array TypeId) : Bool := match (ts[0]?).bind P.underlying with
  | some (.slice _) | some .string | some (.array _ _) | some (.pointer _) => true
  | _ => false

section
variable (P : Program) (call : CallF)

def callV (v : Value) (args : List Value) (w : World) : Option (Value × World) := match v with
  | .func (.func f) first cap => call f (first ++ args.toArray ++ cap) w
  | _ => none

def imethod (v : Value) (name : String) (w : World) : Option (FuncId × Value) := match v with
  | .iface t x => rrun P (method (P.types.size + Made.depth) t x name) w
  | _ => none

/-- one operation that is wanted -/
def aOp {ρ : Type} (o : Oper) (e : Env) (w : World) (next : Value → World → Option ρ) : Option ρ :=
  match o.op with
  | .move x | .assign x => (ev e x).ebind fun v => next v w
  | .pick c a b => (ev e c).ebind fun c => (ev e a).ebind fun a => (ev e b).ebind fun b => (pickV c a b).bind fun v => next v w
  | .binOp op t x y _ => (ev e x).ebind fun a => (ev e y).ebind fun b =>
      if (isIntT P t && arith op) = true then (bin op a b).bind fun v => next v w
      else if scalarT P t = true then (prun P (do eqGuard op t x y a b; binOp op t a b)).bind fun v => next v w
      else (rrun P (do eqGuard op t x y a b; binOp op t a b) w).bind fun v => next v w
  | .unOp op _ x => (ev e x).ebind fun a => (prun P (Op.unary op a)).bind fun v => next v w
  | .convert s d x => (ev e x).ebind fun a => if convPure P s d = true then (prun P (convert s d a)).bind fun v => next v w else if convReads P s d = true then (rrun P (convert s d a) w).bind fun v => next v w else (erun P (convert s d a) w).bind fun r => next r.1 r.2
  | .fieldAddr s x f => (ev e x).ebind fun a => (prun P (Instr.fieldAt s a f)).bind fun v => next v w
  | .field t x f => (ev e x).ebind fun a => (prun P (Instr.field t a f)).bind fun v => next v w
  | .indexAddr t x i => (ev e x).ebind fun a => (ev e i).ebind fun i => (prun P (Instr.indexAt t a i)).bind fun v => next v w
  | .index t x i => (ev e x).ebind fun a => (ev e i).ebind fun i => (prun P (Instr.index t a i)).bind fun v => next v w
  | .nilCheck x => (ev e x).ebind fun a => (nilV P a).bind fun v => next v w
  | .slice t x lo hi mx => (ev e x).ebind fun a => (evs e lo.toList).ebind fun lo => (evs e hi.toList).ebind fun hi => (evs e mx.toList).ebind fun mx =>
      (prun P (Instr.sliceAt t a lo.head? hi.head? mx.head?)).bind fun v => next v w
  | .extract x i => (ev e x).ebind fun a => (prun P (Instr.extract a i)).bind fun v => next v w
  | .build t ps => (evs e (ps.toList.map (·.2))).ebind fun vs => (prun P (Instr.build t ((ps.toList.map (·.1)).zip vs).toArray)).bind fun v => next v w
  | .makeInterface t x => (ev e x).ebind fun a => (prun P (Instr.makeInterface t a)).bind fun v => next v w
  | .makeFunc fn first cap => (evs e first.toList).ebind fun a => (evs e cap.toList).ebind fun b => next (.func fn a.toArray b.toArray) w
  | .typeAssert x t u ok => (ev e x).ebind fun a => (prun P (Instr.typeAssert a t u ok)).bind fun v => next v w
  | .load t x => (ev e x).ebind fun a => (rrun P (Instr.loadAt t a) w).bind fun v => next v w
  | .store t x y => (ev e x).ebind fun a => (ev e y).ebind fun b => (erun P (Instr.storeAt t a b) w).bind fun r => next undef r.2
  | .alloc t => (erun P (Instr.alloc t true (.tuple #[])) w).bind fun r => next r.1 r.2
  | .box t x => (ev e x).ebind fun a => (erun P (Instr.box t a) w).bind fun r => next r.1 r.2
  | .buildSlice t n ps => (evs e (ps.toList.map (·.2))).ebind fun vs => (erun P (Instr.buildSlice t n ((ps.toList.map (·.1)).zip vs).toArray) w).bind fun r => next r.1 r.2
  | .makeSlice t l c => (ev e l).ebind fun l => (ev e c).ebind fun c => (erun P (Instr.makeSlice t l c) w).bind fun r => next r.1 r.2
  | .range t x => (ev e x).ebind fun a => (erun P (Instr.range t a) w).bind fun r => next r.1 r.2
  | .next it s => (ev e it).ebind fun a => (erun P (Instr.next a s o.type) w).bind fun r => next r.1 r.2
  | .makeMap t r => (evs e r.toList).ebind fun r => (erun P (Instr.makeMap t r.head?) w).bind fun r => next r.1 r.2
  | .lookup t x i ok => (ev e x).ebind fun a => (ev e i).ebind fun i => (rrun P (Instr.lookup t a i ok) w).bind fun v => next v w
  | .mapUpdate t m k x => (ev e m).ebind fun m => (ev e k).ebind fun k => (ev e x).ebind fun x => (erun P (Instr.mapUpdate t m k x) w).bind fun r => next undef r.2
  | .call c => match c.callee with
    | .builtin .len => (evs e c.args.toList).ebind fun vs => if lenPure P c.argTypes = true then (prun P (Builtin.len_ c.argTypes o.type vs.toArray)).bind fun v => next v w
        else (rrun P (Builtin.len_ c.argTypes o.type vs.toArray) w).bind fun v => next v w
    | .builtin .cap => (evs e c.args.toList).ebind fun vs => if lenPure P c.argTypes = true then (prun P (Builtin.cap_ c.argTypes o.type vs.toArray)).bind fun v => next v w
        else (rrun P (Builtin.cap_ c.argTypes o.type vs.toArray) w).bind fun v => next v w
    | .builtin .min => (evs e c.args.toList).ebind fun vs => (prun P (Builtin.min_ c.argTypes o.type vs.toArray)).bind fun v => next v w
    | .builtin .max => (evs e c.args.toList).ebind fun vs => (prun P (Builtin.max_ c.argTypes o.type vs.toArray)).bind fun v => next v w
    | .builtin .append => (evs e c.args.toList).ebind fun vs => (erun P (Builtin.append_ c.argTypes o.type vs.toArray) w).bind fun r => next r.1 r.2
    | .builtin .copy => (evs e c.args.toList).ebind fun vs => (erun P (Builtin.copy_ c.argTypes o.type vs.toArray) w).bind fun r => next r.1 r.2
    | .builtin .delete => (evs e c.args.toList).ebind fun vs => (erun P (Builtin.delete_ c.argTypes o.type vs.toArray) w).bind fun r => next r.1 r.2
    | .builtin _ => none
    | .invoke rc name => (ev e rc).ebind fun rc => (evs e c.args.toList).ebind fun vs => (imethod P rc name w).bind fun m => (call m.1 (m.2 :: vs).toArray w).bind fun r => next r.1 r.2
    | .value (.func f) => (evs e c.args.toList).ebind fun vs => (bif bodyless P f then xrun P (callFunc f vs.toArray) w else call f vs.toArray w).bind fun r => next r.1 r.2
    | .value x => (ev e x).ebind fun x => (evs e c.args.toList).ebind fun vs => (callV call x vs w).bind fun r => next r.1 r.2
  | _ => none

/-- how many operations, from the one at index i on, hang on the guard at j -/
def grpLen (i j : Nat) (want : Bool) : List Oper → Nat
  | [] => 0
  | o :: r => match o.guard with
    | some (g, b) => if (g = j ∧ b = want) ∨ i ≤ g then grpLen i j want r + 1 else 0
    | none => 0

def dstOf (all : List Oper) (j : Nat) : Option Nat := (all[j]?).bind (·.dst)
def loDst : List Oper → Nat → Nat
  | [], n => n
  | o :: r, n => loDst r (match o.dst with | some d => min d n | none => n)
def hiDst : List Oper → Nat → Nat
  | [], n => n
  | o :: r, n => hiDst r (match o.dst with | some d => max d n | none => n)
def inStrip (j : Nat) (want : Bool) : List (Nat × Bool) → Bool
  | [] => false
  | (g, b) :: r => (Nat.beq g j && (b == want)) || inStrip j want r

def guardIn (p : Oper) (strip : List (Nat × Bool)) : Bool := match p.guard with
  | none => true
  | some (g, b) => inStrip g b strip
/-- operations in the text's order: those under a guard together with the 'pick' behind them -/
def aOps (all : List Oper) : {ρ : Type} → Nat → (i : Nat) → (ops : List Oper) → (strip : List (Nat × Bool)) → Env → World → (Env → World → Option ρ) → Option ρ
  | _, 0, _, _, _, _, _, _ => none
  | _, _ + 1, _, [], _, e, w, k => k e w
  | _, n + 1, i, o :: rest, strip, e, w, k =>
    let plain := aOp P call o e w fun v w => aOps all n (i + 1) rest strip (e.put o.dst v) w k
    match o.guard with
    | none => plain
    | some (j, want) =>
      if inStrip j want strip = true then plain else
      let m := grpLen i j want (o :: rest)
      match (o :: rest).drop m with
      | p :: rest' =>
        match p.op, dstOf all j, p.dst with
        | .pick (.tmp c) x y, some d, some pd =>
          if c = d ∧ guardIn p strip = true then
            (e d).ebind fun bv => (asB bv).bind fun b =>
            (if b = want then aOps all n i ((o :: rest).take m) ((j, want) :: strip) e w fun e' w' => (ev e' (if want then x else y)).ebind fun v => some (v, w')
             else (ev (e.drop (loDst ((o :: rest).take m) pd) (hiDst ((o :: rest).take m) pd)) (if want then y else x)).bind fun v => some (v, w)).bind fun r => aOps all n (i + m + 1) rest' strip ((e.drop (loDst ((o :: rest).take m) pd) (hiDst ((o :: rest).take m) pd)).set pd r.1) r.2 k
          else none
        | _, _, _ => none
      | [] => none

end

/-! ### checks of a region, by its text -/
def quietOp (P : Program) : Op → Bool
  | .move _ | .assign _ | .pick .. | .binOp .. | .unOp .. | .fieldAddr .. | .field .. | .indexAddr .. | .index .. | .nilCheck _ | .slice ..
  | .extract .. | .build .. | .makeInterface .. | .makeFunc .. | .typeAssert .. | .load .. | .lookup .. => true
  | .convert s d _ => convReads P s d || convPure P s d
  | .call { callee := .builtin .len, .. } | .call { callee := .builtin .cap, .. } | .call { callee := .builtin .min, .. } | .call { callee := .builtin .max, .. } => true
  | _ => false
/-- each slot lies in the frame; a guard stands ahead of what hangs on it, and its slot is written by nothing else -/
def regionOk (nt : Nat) (ops : List Oper) : Bool :=
  ops.zipIdx.all fun (o, i) =>
    (match o.dst with | some d => Nat.blt d nt | none => true) &&
    (match o.guard with
     | none => true
     | some (j, _) => Nat.blt j i && (match dstOf ops j with
       | some d => ops.zipIdx.all fun (q, n) => Nat.beq n j || q.dst != some d
       | none => false))
/-- which of the ways serves a region that draws: all of it quiet; all but its tail from n on -/
def tailFrom (P : Program) (ops : List Oper) : Nat := (ops.takeWhile fun o => quietOp P o.op).length
def drawOk (P : Program) (ops : List Oper) : Bool :=
  (ops.all (fun o => quietOp P o.op) && Region.lexB .any ops.toArray) || Region.lexTailB .any ops.toArray (tailFrom P ops)

/-! ### a region that draws and holds calls or stores: the text's order, and what else may be asked when -/
def ancMask (acc : List Nat) (o : Oper) : Nat :=
  o.after.toList.foldl (fun s e => if Region.binds .any e = true then s ||| 2 ^ e.on ||| acc.getD e.on 0 else s) 0
def ancsFrom (acc : List Nat) : List Oper → List Nat
  | [] => acc
  | o :: r => ancsFrom (acc ++ [ancMask acc o]) r
def ancs (ops : List Oper) : List Nat := ancsFrom [] ops
/-- the slots that an operation looks at -/
def looks (ops : List Oper) (o : Oper) : List Nat :=
  (o.op.operands.toList.filterMap fun | .tmp t => some t | _ => none) ++ (match o.guard with
    | some (g, _) => (dstOf ops g).toList
    | none => [])
/-- operations whose value hangs on their operands alone -/
def pureOp (P : Program) : Op → Bool
  | .move _ | .assign _ | .pick .. | .unOp .. | .fieldAddr .. | .field .. | .indexAddr .. | .index .. | .nilCheck _ | .slice ..
  | .extract .. | .build .. | .makeInterface .. | .makeFunc .. | .typeAssert .. => true
  | .binOp _ t _ _ _ => scalarT P t
  | .convert s d _ => convPure P s d
  | .call { callee := .builtin .len, argTypes, .. } | .call { callee := .builtin .cap, argTypes, .. } => lenPure P argTypes
  | .call { callee := .builtin .min, .. } | .call { callee := .builtin .max, .. } => true
  | _ => false
def flatOk (P : Program) (ops : List Oper) : Bool :=
  let A := ancs ops
  Region.noSelect ops.toArray &&
  ops.zipIdx.all fun (o, i) =>
    o.after.toList.all (fun e => !Region.binds .any e || Nat.blt e.on i) &&
    ops.zipIdx.all fun (q, j) =>
      (Nat.beq i j || quietOp P o.op || quietOp P q.op || (A.getD i 0).testBit j || (A.getD j 0).testBit i) &&
      (match q.dst with
       | some d => (Nat.beq i j || o.dst != some d) && (!(looks ops o).contains d || Nat.beq i j || (A.getD i 0).testBit j || (A.getD j 0).testBit i)
       | none => true)
/-- pairs of an operation that reads, and one that may change what it reads, in no order -/
def loose (P : Program) (ops : List Oper) : List (Nat × Nat) :=
  let A := ancs ops
  ops.zipIdx.flatMap fun (o, i) => if (quietOp P o.op && !pureOp P o.op) = true then
      ops.zipIdx.filterMap fun (q, j) => if (quietOp P q.op || (A.getD i 0).testBit j || (A.getD j 0).testBit i) = true then none else some (i, j)
    else []
structure LogE where
  before : World
  after : World
  chk : World → Prop
def wantedV (want : Bool) : Value → Bool
  | .bool b => b == want
  | _ => false
def guardV (all : List Oper) (o : Oper) (e : Env) : Option Bool := match o.guard with
  | none => some true
  | some (j, want) => (dstOf all j).bind fun d => (e d).ebind fun v => some (wantedV want v)
def chkAll (log : List LogE) : List (Nat × Nat) → Prop
  | [] => True
  | (r, m) :: rest => (match log[r]?, log[m]? with
    | some x, some y => x.chk y.before ∧ x.chk y.after
    | _, _ => False) ∧ chkAll log rest
open Classical in
noncomputable def chkThen {ρ : Type} (c : Prop) (x : Option ρ) : Option ρ := if c then x else none
section
variable (P : Program) (call : CallF)
noncomputable def aFlat {ρ : Type} (all : List Oper) : List Oper → Env → World → List LogE → (Env → World → List LogE → Option ρ) → Option ρ
  | [], e, w, log, k => k e w log
  | o :: rest, e, w, log, k => (guardV all o e).bind fun g =>
      (if g = true then aOp P call o e w fun v w' => some (v, w') else some (undef, w)).bind fun r =>
      aFlat all rest (e.put o.dst r.1) r.2 (log ++ [⟨w, r.2, fun W => if g = true then (aOp P call o e W fun v _ => some v) = some r.1 else True⟩]) k
end

/-! ### code -/
inductive Ann where
  | z
  | s (a b : Ann)
  | c (a b : Ann)
  | j (K : List Nat) (a b : Ann)
  | b (K : List Nat) (a : Ann)
  | l (K : List Nat) (a : Ann)

inductive Rounds (f : List Value → World → Option Res) : List Value → World → Res → Prop where
  | more {vs : List Value} {w : World} {vs' : List Value} {w' : World} {r : Res} (h : f vs w = some (.norm vs' w')) (h' : Rounds f vs' w' r) : Rounds f vs w r
  | exit {vs : List Value} {w : World} {id : Nat} {vs' : List Value} {w' : World} (h : f vs w = some (.exit id vs' w')) : Rounds f vs w (.exit id vs' w')
  | ret {vs : List Value} {w : World} {vs' : List Value} {w' : World} (h : f vs w = some (.ret vs' w')) : Rounds f vs w (.ret vs' w')
open Classical in
/-- a body, again and again, till it leaves -/
noncomputable def iter (f : List Value → World → Option Res) (vs : List Value) (w : World) : Option Res :=
  if h : ∃ r, Rounds f vs w r then some (Classical.choose h) else none

abbrev Ctx := List (Nat × List Nat)
def Ctx.keep (c : Ctx) (id : Nat) : Option (List Nat) := match c with
  | [] => none
  | (i, K) :: r => if i = id then some K else Ctx.keep r id

section
variable (P : Program) (call : CallF) (rs : List Nat) (nt : Nat)

noncomputable def aCode : Code → Ann → Ctx → Env → World → (Env → World → Option Res) → Option Res
  | .skip, _, _, e, w, k => k e w
  | .label _, _, _, e, w, k => k e w
  | .region _ ops draw, _, _, e, w, k =>
    if regionOk nt ops.toList = true then
      match draw with
      | false => aOps P call ops.toList (2 * ops.toList.length + 1) 0 ops.toList [] e w k
      | true => if drawOk P ops.toList = true then aOps P call ops.toList (2 * ops.toList.length + 1) 0 ops.toList [] e w.drew k
        else if flatOk P ops.toList = true then aFlat P call ops.toList ops.toList e w.drew [] fun e w log => chkThen (chkAll log (loose P ops.toList)) (k e w)
        else none
    else none
  | .seq a b, .s x y, c, e, w, k => aCode a x c e w fun e w => aCode b y c e w k
  | .cond t a b, .c x y, c, e, w, k => (ev e t).ebind fun v => (asB v).bind fun t => if t then aCode a x c e w k else aCode b y c e w k
  | .cond t a b, .j K x y, c, e, w, k => (ev e t).ebind fun v => (asB v).bind fun t =>
      (if t then aCode a x c e w fun e w => (gets e K).ebind fun vs => some (.norm vs w) else aCode b y c e w fun e w => (gets e K).ebind fun vs => some (.norm vs w)).bind fun r => r.cont fun vs w => k (ofList 0 K vs) w
  | .block id a, .b K x, c, e, w, k => (aCode a x ((id, K) :: c) e w fun e w => (gets e K).ebind fun vs => some (.norm vs w)).bind fun r => (r.unblock id).cont fun vs w => k (ofList 0 K vs) w
  | .loop a, .l K x, c, e, w, _ => (gets e K).ebind fun vs => iter (fun vs w => aCode a x c (ofList 0 K vs) w fun e w => (gets e K).ebind fun vs => some (.norm vs w)) vs w
  | .exit id, _, c, e, w, _ => (Ctx.keep c id).bind fun K => (gets e K).ebind fun vs => some (.exit id vs w)
  | .ret, _, _, e, w, _ => (gets e rs).ebind fun vs => some (.ret vs w)
  | _, _, _, _, _, _ => none
end

def tmpsOf : List ResultVar → Option (List Nat)
  | [] => some []
  | .tmp t :: r => (tmpsOf r).bind fun l => some (t :: l)
  | .cell _ _ :: _ => none
def ofArgs (args : Array Value) : Env := fun i => args[i]?
def outcome : List Value → Value
  | [v] => v
  | vs => .tuple vs.toArray
def Res.done (r : Res) : Option (Value × World) := match r with
  | .norm vs w => some (outcome vs, w)
  | .ret vs w => some (outcome vs, w)
  | .exit _ _ _ => none
/-- the slots of the results: a result, or the address of the variable that holds it -/
def slotsOf : List ResultVar → List Nat
  | [] => []
  | .tmp t :: r => t :: slotsOf r
  | .cell a _ :: r => a :: slotsOf r
def loadsOf (P : Program) : List ResultVar → List Value → World → Option (List Value)
  | [], _, _ => some []
  | .tmp _ :: r, v :: vs, w => (loadsOf P r vs w).bind fun us => some (v :: us)
  | .cell _ t :: r, v :: vs, w => match v with
    | .pointer (some a) => (rrun P (Instr.loadAt t (.pointer (some a))) w).bind fun u => (loadsOf P r vs w).bind fun us => some (u :: us)
    | _ => none
  | _ :: _, [], _ => none
def Res.doneR (P : Program) (vars : List ResultVar) (r : Res) : Option (Value × World) := match r with
  | .norm vs w => (loadsOf P vars vs w).bind fun us => some (outcome us, w)
  | .ret vs w => (loadsOf P vars vs w).bind fun us => some (outcome us, w)
  | .exit _ _ _ => none
/-- a region that ends with 'defer f(..)', f a function of the program -/
def deferOf (ops : List Oper) : Option (Call × FuncId) := match ops.getLast? with
  | some o => match o.op, o.guard, o.dst with
    | .defer c, none, none => match c.callee with
      | .value (.func f) => some (c, f)
      | _ => none
    | _, _, _ => none
  | none => none
/-- a deferred call, behind what it was put off for -/
def Res.after (dfr : CallF) (f : FuncId) (args : Array Value) : Res → Option Res
  | .norm vs w => (dfr f args w).bind fun q => some (.norm vs q.2)
  | .ret vs w => (dfr f args w).bind fun q => some (.ret vs q.2)
  | .exit _ _ _ => none
/-- a body whose outmost statements may defer calls -/
noncomputable def aBody (P : Program) (call dfr : CallF) (rs : List Nat) (nt : Nat) : Code → Ann → Env → World → Option Res
  | .seq a b, .s x y, e, w => match a with
    | .region _ ops draw => match draw, deferOf ops.toList with
      | false, some (c, f) =>
        if regionOk nt ops.toList = true then
          aOps P call ops.toList (2 * ops.toList.length + 1) 0 ops.toList.dropLast [] e w fun e w => (evs e c.args.toList).ebind fun vs => (aBody P call dfr rs nt b y e w).bind fun r => r.after dfr f vs.toArray
        else none
      | _, _ => aCode P call rs nt a x [] e w fun e w => aBody P call dfr rs nt b y e w
    | _ => aCode P call rs nt a x [] e w fun e w => aBody P call dfr rs nt b y e w
  | c, x, e, w => aCode P call rs nt c x [] e w fun e w => (gets e rs).ebind fun vs => some (.norm vs w)
/-- a function's body -/
noncomputable def aFun (P : Program) (call dfr : CallF) (fn : Func) (ann : Ann) (e : Env) (w : World) : Option (Value × World) :=
  match fn.body with
  | some c => match tmpsOf fn.results.toList with
    | some rs => (aBody P call dfr rs fn.ntmps c ann e w).bind Res.done
    | none => (aBody P call dfr (slotsOf fn.results.toList) fn.ntmps c ann e w).bind (Res.doneR P fn.results.toList)
  | none => none
/-- what is told of calls beforehand: of plain ones, of deferred ones -/
structure Prim where
  call : CallF
  dfr : CallF

/-! ### calls -/
def callable (P : Program) (f : FuncId) : Bool := match P.funcs[f]? with
  | some fn => fn.body.isSome && fn.name != "runtime.NumGoroutine"
  | none => false
/-- what calls come to: by their bodies, or by what is told of them beforehand -/
inductive Tells (P : Program) (ann : FuncId → Ann) (prim : Prim) : FuncId → Array Value → World → Value × World → Prop where
  | prim {f : FuncId} {args : Array Value} {w : World} {r : Value × World} (h : prim.call f args w = some r) : Tells P ann prim f args w r
  | body {f : FuncId} {args : Array Value} {w : World} {r : Value × World} (fn : Func) (call : CallF) (hn : prim.call f args w = none) (hf : P.funcs[f]? = some fn) (hc : callable P f = true)
      (hcall : ∀ f args w r, call f args w = some r → Tells P ann prim f args w r) (h : aFun P call prim.dfr fn (ann f) (ofArgs args) w = some r) : Tells P ann prim f args w r
open Classical in
noncomputable def run (P : Program) (ann : FuncId → Ann) (prim : Prim) : CallF := fun f args w =>
  if h : ∃ r, Tells P ann prim f args w r then some (Classical.choose h) else none
end Go.Sh
