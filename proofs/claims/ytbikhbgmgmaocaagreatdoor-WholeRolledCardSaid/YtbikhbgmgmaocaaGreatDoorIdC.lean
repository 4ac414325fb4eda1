/-
  The ideal machine, part 3: a program's code as the ideal machine's. Conditions: none (definitions).
-/
import Derived.Test.YtbikhbgmgmaocaaGreatDoorIdE
namespace Go.Ideal

section
variable (P : Program)

def cSize (t : TypeId) : Option Nat := (P.info? t).map (·.size)
def cAgg (t : TypeId) : Option Bool := match P.underlying t with
  | some (.struct _) | some (.array _ _) => some true
  | some _ => some false
  | none => none
def cZero (t : TypeId) : Option (List V) := match P.info? t with
  | some i => match i.zero with
    | some v => V.ofCells v.cells.toList
    | none => none
  | none => none
def cZeroV (t : TypeId) : Option V := match P.info? t with
  | some i => match i.zero with
    | some v => V.ofVal v
    | none => none
  | none => none
/-- An element's cells, where its bytes are few. -/
def cElem (t : TypeId) : Option Nat := match P.info? t with
  | some i => if 0 < i.size ∧ 0 < i.bytes ∧ i.bytes ≤ 4096 then some i.size else none
  | none => none
def cOpd : Operand → Option Opd
  | .tmp t => some (.t t)
  | .const v => (V.ofVal v).map .c
  | .func f => some (.c (.fn (.func f) [] []))
  | .global _ => none
def cOpds : List Operand → Option (List Opd)
  | [] => some []
  | x :: xs => match cOpd x, cOpds xs with
    | some y, some ys => some (y :: ys)
    | _, _ => none
def cOpdO : Option Operand → Option (Option Opd)
  | none => some none
  | some x => (cOpd x).map some
def cParts (place : Nat → Option (Nat × Nat)) : List (Nat × Operand) → Option (List (Nat × Nat × Opd))
  | [] => some []
  | (i, x) :: xs => match place i, cOpd x, cParts place xs with
    | some (off, size), some y, some ys => some ((off, size, y) :: ys)
    | _, _, _ => none
def nilK : TypeDesc → Option NilK
  | .pointer _ => some .ptr
  | .slice _ => some .slice
  | .map _ _ => some .map
  | .func _ _ _ => some .fn
  | _ => none
def isNilOf : NilK → Operand → Bool
  | .ptr, .const (.pointer none) | .slice, .const (.slice none 0 0) | .map, .const (.map none) | .fn, .const .nilFunc => true
  | _, _ => false
def isConst : Operand → Bool
  | .const _ => true
  | _ => false
def sameOpd : Operand → Operand → Bool
  | .tmp a, .tmp b => a == b
  | .const (.int j a), .const (.int k b) => j == k && a == b
  | _, _ => false

def cBin (o : Oper) (op : BinOp) (t : TypeId) (x y : Operand) : Option IOp :=
  if op = .eql ∨ op = .neq then
    match P.underlying t with
    | none => none
    | some d => match nilK d with
      | none => some (.scal o)
      | some k => if isNilOf k y then (cOpd x).map (.isNil k (op = .neq)) else if isNilOf k x then (cOpd y).map (.isNil k (op = .neq)) else none
  else some (.scal o)

def cFields (fields : Array Field) : Nat → Option (Nat × Nat) := fun i => match fields[i]? with
  | some f => (cSize P f.type).map fun n => (f.offset, n)
  | none => none

def cOp (o : Oper) : Option IOp :=
  match o.op with
  | .move x | .assign x => (cOpd x).map .mv
  | .pick c a b => match cOpd c, cOpd a, cOpd b with
    | some c, some a, some b => some (.pick c a b)
    | _, _, _ => none
  | .alloc t => (cZero P t).map .alloc
  | .box _ x => (cOpd x).map .box
  | .build t parts => match P.underlying t, cZero P t with
    | some (.struct fields), some z => if fields.toList.all (fun f => (cSize P f.type).isSome) then (cParts (cFields P fields) parts.toList).map (.build z) else none
    | some (.array _ e), some z => match cSize P e with
      | some n => (cParts (fun i => some (i * n, n)) parts.toList).map (.build z)
      | none => none
    | _, _ => none
  | .buildSlice t len parts => match P.underlying t with
    | some (.slice e) => match cElem P e, cZero P e with
      | some n, some z => if z.length = n ∧ len * n ≤ 4096 then (cParts (fun i => some (i * n, n)) parts.toList).map (.buildSlice n len (List.replicate len z).flatten) else none
      | _, _ => none
    | _ => none
  | .load t a => match cAgg P t, cSize P t with
    | some true, some n => (cOpd a).map (.load (some n))
    | some false, _ => (cOpd a).map (.load none)
    | _, _ => none
  | .store t a x => match cSize P t, cOpd a, cOpd x with
    | some n, some a, some x => some (.store n a x)
    | _, _, _ => none
  | .nilCheck x => (cOpd x).map .nilCheck
  | .binOp op t x y _ => cBin P o op t x y
  | .unOp _ _ _ => some (.scal o)
  | .convert src dst x => match P.underlying src, P.underlying dst with
    | some (.int _), some (.int _) => some (.scal o)
    | some .string, some .string => some (.scal o)
    | some .string, some (.slice e) => match P.underlying e with
      | some (.int .u8) => (cOpd x).map .strBytes
      | _ => none
    | some (.slice e), some .string => match P.underlying e with
      | some (.int .u8) => (cOpd x).map .bytesStr
      | _ => none
    | _, _ => none
  | .makeFunc f a b => match cOpds a.toList, cOpds b.toList with
    | some a, some b => some (.mkFn f a b)
    | _, _ => none
  | .makeMap _ none => some .makeMap
  | .makeChan t x => match P.underlying t with
    | some (.chan _ e) => match cElem P e with
      | some _ => (cOpd x).map .makeChan
      | none => none
    | _ => none
  | .makeSlice t l c => if sameOpd l c then match P.underlying t with
      | some (.slice e) => match cElem P e, cZero P e with
        | some n, some z => if z.length = n then (cOpd l).map (.makeSlice n z) else none
        | _, _ => none
      | _ => none
    else none
  | .slice t x lo hi mx => match P.underlying t with
    | some .string => some (.scal o)
    | some (.slice e) => match cElem P e, cOpd x, cOpdO lo, cOpdO hi, cOpdO mx with
      | some n, some x, some lo', some hi', some mx' => if mx.isSome && hi.isNone then none else some (.slice n x lo' hi' mx')
      | _, _, _, _, _ => none
    | some (.array len e) => match cElem P e, cOpd x, cOpdO lo, cOpdO hi, mx with
      | some n, some x, some lo, some hi, none => some (.sliceA len n x lo hi)
      | _, _, _, _, _ => none
    | _ => none
  | .fieldAddr t x f => match P.underlying t with
    | some (.struct fields) => match fields[f]? with
      | some fd => match cSize P fd.type with
        | some n => if 0 < n then (cOpd x).map (.fieldAddr fd.offset) else none
        | none => none
      | none => none
    | _ => none
  | .field t x f => match P.underlying t with
    | some (.struct fields) => match fields[f]? with
      | some fd => match cSize P fd.type, cAgg P fd.type with
        | some n, some ag => (cOpd x).map (.field fd.offset n ag)
        | _, _ => none
      | none => none
    | _ => none
  | .indexAddr t x i => match P.underlying t with
    | some (.slice e) => match cElem P e, cOpd x, cOpd i with
      | some n, some x, some i => some (.indexAddr n x i)
      | _, _, _ => none
    | some (.array len e) => match cElem P e, cOpd x, cOpd i with
      | some n, some x, some i => some (.indexAddrA len n x i)
      | _, _, _ => none
    | _ => none
  | .index _ _ _ => some (.scal o)
  | .lookup t x k ok => match P.underlying t with
    | some (.map kt e) => match P.underlying kt, cZeroV P e, cOpd x, cOpd k with
      | some (.int _), some z, some x, some k => some (.lookup true z x k ok)
      | some .string, some z, some x, some k => some (.lookup false z x k ok)
      | _, _, _, _ => none
    | _ => none
  | .mapUpdate t x k v => match P.underlying t with
    | some (.map kt _) => match P.underlying kt, cOpd x, cOpd k, cOpd v with
      | some (.int _), some x, some k, some v => some (.mapUpdate true x k v)
      | some .string, some x, some k, some v => some (.mapUpdate false x k v)
      | _, _, _, _ => none
    | _ => none
  | .range t x => match P.underlying t with
    | some (.map _ _) => (cOpd x).map .range
    | _ => none
  | .next x false => (cOpd x).map .next
  | .entry x => (cOpd x).map .entry
  | .extract x i => (cOpd x).map (.extract i)
  | .call c => match c.callee with
    | .value (.func f) => (cOpds c.args.toList).map (.call f)
    | .value (.tmp t) => (cOpds c.args.toList).map (.callV (.t t))
    | .builtin .len => match c.argTypes.toList, c.args.toList with
      | [t], [x] => match P.underlying t with
        | some .string => some (.scal o)
        | some (.slice _) => (cOpd x).map .lenSlice
        | some (.map _ _) => (cOpd x).map .lenMap
        | some (.chan _ _) => (cOpd x).map .lenChan
        | some (.array n _) => some (.mv (.c (.int .i64 n)))
        | _ => none
      | _, _ => none
    | .builtin .cap => match c.argTypes.toList, c.args.toList with
      | [t], [x] => match P.underlying t with
        | some (.slice _) => (cOpd x).map .cap
        | _ => none
      | _, _ => none
    | .builtin .min | .builtin .max => some (.scal o)
    | .builtin .append => match c.argTypes.toList, c.args.toList with
      | [t, u], [x, y] => match P.underlying t, P.underlying u with
        | some (.slice e), some (.slice _) => match cElem P e, cZero P e, cOpd x, cOpd y with
          | some n, some z, some x, some y => if z.length = n then some (.append n x y) else none
          | _, _, _, _ => none
        | some (.slice e), some (.int .i64) => match cElem P e, cZero P e, cOpd x, cOpd y with
          | some n, some z, some x, some y => if z.length = n then some (.appendZ n z x y) else none
          | _, _, _, _ => none
        | some (.slice e), some .string => match cElem P e, cZero P e, cOpd x, cOpd y with
          | some n, some z, some x, some y => if n = 1 ∧ z.length = 1 then some (.appendStr x y) else none
          | _, _, _, _ => none
        | _, _ => none
      | _, _ => none
    | .builtin .copy => match c.argTypes.toList, c.args.toList with
      | [t, u], [x, y] => match P.underlying t, P.underlying u with
        | some (.slice e), some (.slice _) => match cElem P e, cOpd x, cOpd y with
          | some n, some x, some y => some (.copy n x y)
          | _, _, _ => none
        | _, _ => none
      | _, _ => none
    | .builtin .clear => match c.argTypes.toList, c.args.toList with
      | [t], [x] => match P.underlying t with
        | some (.slice e) => match cElem P e, cZero P e, cOpd x with
          | some n, some z, some x => if z.length = n then some (.clear n z x) else none
          | _, _, _ => none
        | _ => none
      | _, _ => none
    | .builtin .delete => match c.argTypes.toList, c.args.toList with
      | [t, _], [x, k] => match P.underlying t with
        | some (.map kt _) => match P.underlying kt, cOpd x, cOpd k with
          | some (.int _), some x, some k => some (.delete true x k)
          | some .string, some x, some k => some (.delete false x k)
          | _, _, _ => none
        | _ => none
      | _, _ => none
    | _ => none
  | .makeInterface _ _ | .panic _ => some .never
  | .sliceToArrayPointer t x => match P.underlying t with
    | some (.array len e) => match cElem P e with
      | some n => (cOpd x).map (.arrayPtr len n)
      | none => none
    | _ => none
  | _ => none

def cSel : Op → Option ISel
  | .select cs false => match cs.toList with
    | [s] => match s.send with
      | some v => match cOpd s.chan, cOpd v, cZeroV P s.elem with
        | some ch, some v, some _ => some (.send ch v)
        | _, _, _ => none
      | none => match cOpd s.chan, cZeroV P s.elem with
        | some ch, some z => some (.recv ch z)
        | _, _ => none
    | _ => none
  | _ => none

/-! ### Regions -/
inductive Cls where
  | plain | read | make | act
  deriving DecidableEq, Inhabited
def IOp.cls : IOp → Cls
  | .mv _ | .pick .. | .scal _ | .field .. | .extract .. | .build .. | .mkFn .. | .fieldAddr .. | .indexAddr .. | .indexAddrA .. | .slice ..
  | .nilCheck _ | .arrayPtr .. | .isNil .. | .lenSlice _ | .cap _ => .plain
  | .lenMap _ | .lenChan _ | .load .. | .lookup .. | .sliceA .. => .read
  | .alloc _ | .box _ | .buildSlice .. | .makeSlice .. | .makeMap | .makeChan _ | .strBytes _ => .make
  | _ => .act

def guardT (ops : Array Oper) : Option (Nat × Bool) → Option (Option (Nat × Bool))
  | none => some none
  | some (j, want) => match (ops[j]?).bind (·.dst) with
    | some t => some (some (t, want))
    | none => none

def cOps : List Oper → Option (List IOp)
  | [] => some []
  | o :: os => match cOp P o, cOps os with
    | some x, some xs => some (x :: xs)
    | _, _ => none

/-- The steps of a region that does not draw: as they stand. -/
def plainSteps (ops : Array Oper) : List Oper → Option (List Step)
  | [] => some []
  | o :: os => match cOp P o, guardT ops o.guard, plainSteps ops os with
    | some x, some g, some ss => some ({ dst := o.dst, guard := g, op := x } :: ss)
    | _, _, _ => none

/-- What comes ahead of each operation, and so on. -/
def befores (ops : List Oper) : List (List Nat) :=
  ops.foldl (fun acc o => acc ++ [(o.after.toList.filter (Region.binds .any)).foldl (fun s e => (e.on :: (acc.getD e.on [])).foldl (fun s x => if s.contains x then s else x :: s) s) []]) []

/-- The order: plain ones and reads as early as may be, makes as late as they may. 'done': the numbers so far (last first). -/
def orderGo (cls : List Cls) (bef : List (List Nat)) : Nat → List Nat → List Nat
  | 0, done => done.reverse
  | fuel + 1, done =>
    let n := cls.length
    let ready := (List.range n).filter fun i => !done.contains i && (bef.getD i []).all done.contains
    match ready.find? fun i => cls.getD i .act != .make && cls.getD i .act != .act with
    | some i => orderGo cls bef fuel (i :: done)
    | none =>
      -- the next act, and a make that it waits for
      match (List.range n).find? fun i => !done.contains i && cls.getD i .act == .act with
      | some a =>
        if ready.contains a then orderGo cls bef fuel (a :: done)
        else match ready.find? fun i => (bef.getD a []).contains i with
          | some i => orderGo cls bef fuel (i :: done)
          | none => done.reverse
      | none => match ready with
        | i :: _ => orderGo cls bef fuel (i :: done)
        | [] => done.reverse

def slotsOf : List Cls → Nat → List (Option Nat) × Nat
  | [], n => ([], n)
  | .make :: cs, n => let r := slotsOf cs (n + 1); (some n :: r.1, r.2)
  | _ :: cs, n => let r := slotsOf cs n; (none :: r.1, r.2)

/-! #### What is held of the order -/
def Opd.uses : Opd → List Nat
  | .t i => [i]
  | .c _ => []
def usesO : Option Opd → List Nat
  | none => []
  | some x => x.uses
def usesL (l : List Opd) : List Nat := l.flatMap Opd.uses
def usesP (l : List (Nat × Nat × Opd)) : List Nat := l.flatMap fun p => p.2.2.uses
/-- The temporaries that an operation reads. -/
def IOp.uses : IOp → List Nat
  | .mv x | .field _ _ _ x | .extract _ x | .fieldAddr _ x | .nilCheck x | .arrayPtr _ _ x | .isNil _ _ x | .lenSlice x | .cap x | .lenMap x | .lenChan x | .load _ x
  | .box x | .makeSlice _ _ x | .makeChan x | .strBytes x | .bytesStr x | .range x | .next x | .entry x | .clear _ _ x => x.uses
  | .pick a b c => a.uses ++ b.uses ++ c.uses
  | .scal o => o.op.operands.toList.filterMap fun | .tmp t => some t | _ => none
  | .build _ ps | .buildSlice _ _ _ ps => usesP ps
  | .mkFn _ a b => usesL a ++ usesL b
  | .indexAddr _ x y | .indexAddrA _ _ x y | .lookup _ _ x y _ | .store _ x y | .append _ x y | .appendStr x y | .appendZ _ _ x y | .copy _ x y | .delete _ x y => x.uses ++ y.uses
  | .slice _ x lo hi mx => x.uses ++ usesO lo ++ usesO hi ++ usesO mx
  | .sliceA _ _ x lo hi => x.uses ++ usesO lo ++ usesO hi
  | .mapUpdate _ x y z => x.uses ++ y.uses ++ z.uses
  | .alloc _ | .makeMap | .never => []
  | .call _ l => usesL l
  | .callV f l => f.uses ++ usesL l
def gUses : Option (Nat × Bool) → List Nat
  | none => []
  | some (t, _) => [t]
def DStep.looks (s : DStep) : List Nat := gUses s.guard ++ s.op.uses
def RStep.looks (s : RStep) : List Nat := gUses s.guard ++ s.op.uses
def dstNot (d : Option Nat) (l : List Nat) : Bool := match d with
  | none => true
  | some t => !l.contains t
def dstApart (d d' : Option Nat) : Bool := match d, d' with
  | some t, some u => t != u
  | _, _ => true
/-- A recheck that a new value at d leaves alone. -/
def RStep.off (d : Option Nat) (r : RStep) : Bool := dstNot d (r.dst :: r.looks)
def IOp.noSel : IOp → Bool
  | .scal o => match o.op with
    | .select .. => false
    | _ => true
  | _ => true
/-- May i be carried out ahead of a, which stands just ahead of it? -/
def swapOk (k : Nat) (bef : List (List Nat)) (a i : DStep) : Bool :=
  dstNot a.dst i.looks && dstNot i.dst a.looks && dstApart a.dst i.dst && a.op.noSel && i.op.noSel &&
  a.again.all (fun r => r.off i.dst && r.op.noSel && r.op.cls == .read) &&
  match i.op.cls with
  | .plain => i.again.isEmpty
  | .read => i.again.isEmpty && a.again.isEmpty && (a.op.cls == .plain || a.op.cls == .read)
  | .act => a.again.isEmpty && i.again.all (fun r => (r.id == a.id || (r.off a.dst || (bef.getD r.id []).contains a.id)) && r.op.noSel && r.op.cls == .read) &&
      ((a.op.cls == .plain && i.again.all (fun r => r.id != a.id)) || (a.op.cls == .read && dstNot a.dst a.looks && i.again.any (fun r => r.id == a.id)))
  | .make => i.again.isEmpty && (match i.slot with
    | some s => decide (s < k)
    | none => false)

def pairOk (k : Nat) (bef : List (List Nat)) (a i : DStep) : Bool := a.id != i.id && ((bef.getD i.id []).contains a.id || swapOk k bef a i) && !(bef.getD a.id []).contains i.id && a.again.all (fun r => r.id != i.id)
def pairsOk (k : Nat) (bef : List (List Nat)) : List DStep → Bool
  | [] => true
  | a :: ss => ss.all (pairOk k bef a) && pairsOk k bef ss
def edgesOk (ops : Array Oper) : List Nat → List DStep → Bool
  | _, [] => true
  | done, s :: ss => ((ops[s.id]?).map fun o => o.after.all fun e => !Region.binds .any e || done.contains e.on).getD false && edgesOk ops (s.id :: done) ss
def befOk (ops : Array Oper) (bef : List (List Nat)) : Bool := (List.range ops.size).all fun i => (bef.getD i []).all fun j =>
  ((ops[i]?).map fun o => o.after.any fun e => Region.binds .any e && (e.on == j || (bef.getD e.on []).contains j)).getD false
def drawOk (k : Nat) (bef : List (List Nat)) (ops : Array Oper) (ss : List DStep) : Bool :=
  ss.length == ops.size && ((List.range ops.size).all fun i => ss.any fun s => s.id == i) && befOk ops bef && edgesOk ops [] ss && pairsOk k bef ss &&
  ss.all fun s => s.again.all fun r => r.op.cls == .read && r.id != s.id

end

section
variable (P : Program)
def rstepOf (ops : Array Oper) (xs : List IOp) (i : Nat) : Option RStep := match ops[i]?, xs[i]? with
  | some o, some x => match guardT ops o.guard, o.dst with
    | some g, some d => some { id := i, dst := d, guard := g, op := x }
    | _, _ => none
  | _, _ => none
def rstepsOf (ops : Array Oper) (xs : List IOp) : List Nat → Option (List RStep)
  | [] => some []
  | i :: is => match rstepOf ops xs i, rstepsOf ops xs is with
    | some r, some rs => some (r :: rs)
    | _, _ => none
def dstepOf (ops : Array Oper) (xs : List IOp) (slot : Option Nat) (bef : List Nat) (reads : List Nat) (i : Nat) : Option DStep := match ops[i]?, xs[i]? with
  | some o, some x => match guardT ops o.guard, (if x.cls == .act then rstepsOf ops xs (reads.filter fun r => !bef.contains r) else some []) with
    | some g, some ag => some { id := i, slot := slot, dst := o.dst, guard := g, op := x, again := ag }
    | _, _ => none
  | _, _ => none
def dstepsOf (ops : Array Oper) (xs : List IOp) (sl : List (Option Nat)) (bef : List (List Nat)) : List Nat → List Nat → Option (List DStep)
  | [], _ => some []
  | i :: rest, reads => match dstepOf ops xs (sl.getD i none) (bef.getD i []) reads i, dstepsOf ops xs sl bef rest (if (xs.getD i .never).cls == .read then reads ++ [i] else reads) with
    | some s, some ss => some (s :: ss)
    | _, _ => none
/-- The steps of a region that draws its order. -/
def drawSteps (ops : Array Oper) : Option (Nat × List DStep) :=
  match cOps P ops.toList with
  | none => none
  | some xs =>
    let cls := xs.map IOp.cls
    let bef := befores ops.toList
    let sl := slotsOf cls 0
    match dstepsOf ops xs sl.1 bef (orderGo cls bef ops.size []) [] with
    | some ss => if drawOk sl.2 bef ops ss then some (sl.2, ss) else none
    | none => none

def cCode : Code → Option ICode
  | .skip => some .skip
  | .region _ ops false => match ops.toList with
    | [] => some (.region [])
    | o :: os => match cSel P o.op with
      | some s => if o.guard.isNone then (plainSteps P ops os).map (.sel o.dst s) else none
      | none => (plainSteps P ops (o :: os)).map .region
  | .region _ ops true => (drawSteps P ops).map fun p => .draw p.1 p.2
  | .seq a b => match cCode a, cCode b with
    | some a, some b => some (.seq a b)
    | _, _ => none
  | .cond c a b => match cOpd c, cCode a, cCode b with
    | some c, some a, some b => some (.cond c a b)
    | _, _, _ => none
  | .block id a => (cCode a).map (.block id)
  | .loop a => (cCode a).map .loop
  | .scope a => cCode a
  | .label _ => some .skip
  | .exit id => some (.exit id)
  | .ret => some .ret
  | _ => none

def cRes : List ResultVar → Option (List IRes)
  | [] => some []
  | .tmp t :: rs => (cRes rs).map (.tmp t :: ·)
  | .cell t ty :: rs => match cAgg P ty, cSize P ty, cRes rs with
    | some true, some n, some rs => some (.cell t (some n) :: rs)
    | some false, _, some rs => some (.cell t none :: rs)
    | _, _, _ => none

def cFunc (f : Nat) : Option IFunc := match P.funcs[f]? with
  | none => none
  | some fn => match fn.body with
    | none => none
    | some c => if fn.name == "runtime.NumGoroutine" then none else match cCode P c, cRes P fn.results.toList with
      | some c, some rs => some { ntmps := fn.ntmps, results := rs, body := c }
      | _, _ => none
end
end Go.Ideal
