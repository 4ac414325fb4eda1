/-
  The ideal machine, part 2: its code, the translation of a program's code, its run. Conditions: none (definitions).
-/
import Derived.Test.YtbikhbgmgmaocaaGreatDoorIdV
namespace Go.Ideal

/-! ### Scalars: values without addresses -/
mutual
def V.toVal : V → Option Value
  | .bool b => some (.bool b)
  | .int k n => some (.int k n)
  | .str s => some (.string s)
  | .nil => some (.pointer none)
  | .nilSlice => some (.slice none 0 0)
  | .nilMap => some (.map none)
  | .nilChan => some (.chan none)
  | .nilFn => some .nilFunc
  | .agg cs => (toVals cs).map fun l => .agg l.toArray
  | .tup cs => (toVals cs).map fun l => .tuple l.toArray
  | _ => none
def toVals : List V → Option (List Value)
  | [] => some []
  | v :: vs => match v.toVal, toVals vs with
    | some u, some us => some (u :: us)
    | _, _ => none
end

/-- A scalar cell of the model as a value. -/
def V.ofCell : Value → Option V
  | .bool b => some (.bool b)
  | .int k n => some (.int k n)
  | .string s => some (.str s)
  | .pointer none => some .nil
  | .slice none 0 0 => some .nilSlice
  | .map none => some .nilMap
  | .chan none => some .nilChan
  | .nilFunc => some .nilFn
  | _ => none
def V.ofCells : List Value → Option (List V)
  | [] => some []
  | v :: vs => match V.ofCell v, V.ofCells vs with
    | some u, some us => some (u :: us)
    | _, _ => none
def V.ofVal : Value → Option V
  | .agg cs => (V.ofCells cs.toList).map .agg
  | .tuple cs => (V.ofCells cs.toList).map .tup
  | v => V.ofCell v

/-- A computation of the model that asks nothing of memory. -/
def pureSem (P : Program) {α : Type} : Sem α → Option α
  | .pure a => some a
  | .program k => pureSem P (k P)
  | _ => none

/-! ### Code -/
inductive Opd where
  | t (i : Nat)
  | c (v : V)
  deriving Inhabited

inductive NilK where
  | ptr | slice | map | fn
  deriving DecidableEq, Inhabited

inductive IOp where
  | mv (x : Opd)
  | pick (c a b : Opd)
  | scal (o : Oper)
  | field (off n : Nat) (agg : Bool) (x : Opd)
  | extract (i : Nat) (x : Opd)
  | build (z : List V) (ps : List (Nat × Nat × Opd))
  | mkFn (f : Fn) (first cap : List Opd)
  | fieldAddr (off : Nat) (x : Opd)
  | indexAddr (sz : Nat) (x i : Opd)
  | indexAddrA (len sz : Nat) (x i : Opd)
  | slice (sz : Nat) (x : Opd) (lo hi mx : Option Opd)
  | sliceA (len sz : Nat) (x : Opd) (lo hi : Option Opd)
  | nilCheck (x : Opd)
  | arrayPtr (len sz : Nat) (x : Opd)
  | isNil (k : NilK) (neg : Bool) (x : Opd)
  | lenSlice (x : Opd)
  | cap (x : Opd)
  -- reads
  | lenMap (x : Opd)
  | lenChan (x : Opd)
  | load (n : Option Nat) (x : Opd)
  | lookup (ik : Bool) (z : V) (x k : Opd) (ok : Bool)
  -- makes
  | alloc (z : List V)
  | box (x : Opd)
  | buildSlice (sz len : Nat) (z : List V) (ps : List (Nat × Nat × Opd))
  | makeSlice (sz : Nat) (z : List V) (l : Opd)
  | makeMap
  | makeChan (x : Opd)
  | strBytes (x : Opd)
  -- acts
  | bytesStr (x : Opd)
  | store (n : Nat) (x v : Opd)
  | append (sz : Nat) (x y : Opd)
  | appendStr (x y : Opd)
  | appendZ (sz : Nat) (z : List V) (x n : Opd)
  | never
  | copy (sz : Nat) (x y : Opd)
  | mapUpdate (ik : Bool) (x k v : Opd)
  | delete (ik : Bool) (x k : Opd)
  | range (x : Opd)
  | next (x : Opd)
  | entry (x : Opd)
  | clear (sz : Nat) (z : List V) (x : Opd)
  | call (f : Nat) (args : List Opd)
  | callV (f : Opd) (args : List Opd)
  deriving Inhabited

/-- A select of one case and a default. -/
inductive ISel where
  | send (ch v : Opd)
  | recv (ch : Opd) (z : V)
  deriving Inhabited

/-- One step of a region: its temporary; its guard. -/
structure Step where
  dst : Option Nat
  guard : Option (Nat × Bool)
  op : IOp
  deriving Inhabited

/-- A read that is made once more: it must give what it gave. -/
structure RStep where
  id : Nat
  dst : Nat
  guard : Option (Nat × Bool)
  op : IOp
  deriving Inhabited

/-- One step of a region that draws its order: the operation's number; its number among those that make a block; reads that are made once more behind it. -/
structure DStep where
  id : Nat
  slot : Option Nat
  dst : Option Nat
  guard : Option (Nat × Bool)
  op : IOp
  again : List RStep
  deriving Inhabited

inductive ICode where
  | skip
  | region (steps : List Step)
  | draw (slots : Nat) (steps : List DStep)
  | sel (dst : Option Nat) (s : ISel) (steps : List Step)
  | seq (a b : ICode)
  | cond (c : Opd) (a b : ICode)
  | block (id : Nat) (a : ICode)
  | loop (a : ICode)
  | exit (id : Nat)
  | ret
  deriving Inhabited

inductive IRes where
  | tmp (t : Nat)
  | cell (t : Nat) (n : Option Nat)
  deriving Inhabited

structure IFunc where
  ntmps : Nat
  results : List IRes
  body : ICode
  deriving Inhabited


/-! ### Equality of values -/
mutual
def V.beq : V → V → Bool
  | .bool a, .bool b => a == b
  | .int k a, .int j b => k == j && a == b
  | .str a, .str b => a == b
  | .nil, .nil => true
  | .ptr a b, .ptr c d => a == c && b == d
  | .nilSlice, .nilSlice => true
  | .slice a b c d e f, .slice a' b' c' d' e' f' => a == a' && b == b' && c == c' && d == d' && e == e' && f == f'
  | .nilMap, .nilMap => true
  | .map a, .map b => a == b
  | .nilChan, .nilChan => true
  | .chan a, .chan b => a == b
  | .nilFn, .nilFn => true
  | .agg a, .agg b => V.beqs a b
  | .tup a, .tup b => V.beqs a b
  | _, _ => false
def V.beqs : List V → List V → Bool
  | [], [] => true
  | a :: as, b :: bs => V.beq a b && V.beqs as bs
  | _, _ => false
end

/-! ### The run -/
abbrev Env := List V
def Opd.ev (e : Env) : Opd → V
  | .t i => e.getD i .undef
  | .c v => v

def big : Nat := 2147483648

def getCells (b o n : Nat) : IM (List V) := .get b fun
  | .cells _ cs => if o + n ≤ cs.length then .pure ((cs.drop o).take n) else .fail
  | _ => .fail
def loadAt (b o : Nat) : Option Nat → IM V
  | none => (getCells b o 1).bind fun cs => IM.lift cs[0]?
  | some n => (getCells b o n).bind fun cs => .pure (V.agg cs)
def putCells (b o : Nat) (vs : List V) : IM Unit := .get b fun
  | .cells true cs => if o + vs.length ≤ cs.length then .set b (.cells true (cs.take o ++ vs ++ cs.drop (o + vs.length))) (.pure ()) else .fail
  | _ => .fail
def mkBlk (tok : Nat) (slot : Option Nat) (x : Blk) : IM Nat := match slot with
  | none => .alloc x .pure
  | some k => .fill (tok + k) x (.pure (tok + k))

def sliceCells (sz : Nat) : V → IM (Nat × List V)
  | .nilSlice => .pure (0, [])
  | .slice b o sz' n _ _ => if sz' = sz then (getCells b o (n * sz)).bind fun cs => .pure (n, cs) else .fail
  | _ => .fail

def appendCells (sz : Nat) (x : V) (n : Nat) (new : List V) : IM V := match x with
  | .nilSlice => if n = 0 then .pure .nilSlice else if n < big then .alloc (.cells true new) fun b => .pure (.slice b 0 sz n n true) else .fail
  | .slice b o sz' len cap more =>
    if sz' = sz then
      if n = 0 then .pure x
      else if len + n ≤ cap then (putCells b (o + len * sz) new).bind fun _ => .pure (.slice b o sz (len + n) cap more)
      else if len + n < big then
        (getCells b o (len * sz)).bind fun old =>
          if more then
            .get b fun
              | .cells true _ => .set b .dead (.alloc (.cells true (old ++ new)) fun b' => .pure (.slice b' 0 sz (len + n) (len + n) true))
              | _ => .fail
          else .alloc (.cells true (old ++ new)) fun b' => .pure (.slice b' 0 sz (len + n) (len + n) true)
      else .fail
    else .fail
  | _ => .fail

def boundOf (e : Env) (d : Nat) : Option Opd → Option Nat
  | none => some d
  | some x => match x.ev e with
    | .int _ i => if 0 ≤ i then some i.toNat else none
    | _ => none

def sliceOf (sz : Nat) (e : Env) (lo hi mx : Option Opd) : V → Option V
  | .nilSlice => match boundOf e 0 lo, boundOf e 0 hi, boundOf e 0 mx with
    | some 0, some 0, some 0 => some .nilSlice
    | _, _, _ => none
  | .slice b o sz' len cap more =>
    if sz' = sz then
      match boundOf e 0 lo, boundOf e len hi, boundOf e cap mx with
      | some l, some h, some m => if l ≤ h ∧ h ≤ m ∧ m ≤ cap then some (.slice b (o + l * sz) sz (h - l) (m - l) (more && mx.isNone)) else none
      | _, _, _ => none
    else none
  | _ => none

def fillParts (e : Env) : List (Nat × Nat × Opd) → List V → Option (List V)
  | [], cs => some cs
  | (off, size, x) :: rest, cs =>
    let vs := (x.ev e).cells
    if vs.length = size ∧ off + size ≤ cs.length then fillParts e rest (cs.take off ++ vs ++ cs.drop (off + size)) else none

def allOne (vs : List V) : Bool := vs.all V.one

def bytesOf : List V → Option (List UInt8)
  | [] => some []
  | .int .u8 n :: vs => (bytesOf vs).map (n.toNat.toUInt8 :: ·)
  | _ => none

/-- The place of a key, and what stands there. -/
def findEntry (k : V) : List (V × V × Nat) → Nat → Option (Nat × V)
  | [], _ => none
  | x :: xs, i => if V.beq k x.1 then some (i, x.2.1) else findEntry k xs (i + 1)

/-- A key of a map whose keys are whole numbers (ik), or texts. -/
def keyOk : Bool → V → Bool
  | true, .int _ _ => true
  | false, .str _ => true
  | _, _ => false
def likeKey : V → V → Bool
  | .int k _, .int j _ => k == j
  | .str _, .str _ => true
  | _, _ => false
/-- All keys are like one. -/
def keysOk (ik : Bool) (k : V) (es : List (V × V × Nat)) : Bool := keyOk ik k && es.all fun y => likeKey k y.1

def iop (P : Program) (rc : Nat → List V → IM V) (tok : Nat) (slot : Option Nat) (e : Env) : IOp → IM V
  | .mv x => .pure (x.ev e)
  | .pick c a b => match c.ev e with
    | .bool true => .pure (a.ev e)
    | .bool false => .pure (b.ev e)
    | _ => .fail
  | .scal o =>
    let ρ : Operand → Option Value := fun
      | .tmp t => (e.getD t .undef).toVal
      | .const v => some v
      | _ => none
    if o.op.operands.all fun x => (ρ x).isSome then
      match pureSem P (execOp (fun x => (ρ x).getD undef) o) with
      | some (.value v) => IM.lift (V.ofVal v)
      | _ => .fail
    else .fail
  | .field off n ag x => match x.ev e with
    | .agg cs => if ag then (if off + n ≤ cs.length then .pure (.agg ((cs.drop off).take n)) else .fail) else IM.lift cs[off]?
    | _ => .fail
  | .extract i x => match x.ev e with
    | .tup vs => IM.lift vs[i]?
    | _ => .fail
  | .build z ps => match fillParts e ps z with
    | some cs => .pure (.agg cs)
    | none => .fail
  | .mkFn f a b => .pure (.fn f (a.map (Opd.ev e)) (b.map (Opd.ev e)))
  | .fieldAddr off x => match x.ev e with
    | .ptr b o => .pure (.ptr b (o + off))
    | _ => .fail
  | .indexAddr sz x i => match x.ev e, i.ev e with
    | .slice b o sz' n _ _, .int _ j => if sz' = sz ∧ 0 ≤ j ∧ j < n then .pure (.ptr b (o + j.toNat * sz)) else .fail
    | _, _ => .fail
  | .indexAddrA len sz x i => match x.ev e, i.ev e with
    | .ptr b o, .int _ j => if 0 ≤ j ∧ j < len then .pure (.ptr b (o + j.toNat * sz)) else .fail
    | _, _ => .fail
  | .slice sz x lo hi mx => IM.lift (sliceOf sz e lo hi mx (x.ev e))
  | .sliceA len sz x lo hi => match x.ev e, boundOf e 0 lo, boundOf e len hi with
    | .ptr b o, some l, some h => if l ≤ h ∧ h ≤ len then (getCells b o (len * sz)).bind fun _ => .pure (.slice b (o + l * sz) sz (h - l) (len - l) false) else .fail
    | _, _, _ => .fail
  | .nilCheck x => match x.ev e with
    | .ptr b o => .pure (.ptr b o)
    | _ => .fail
  | .arrayPtr len sz x => match x.ev e with
    | .slice b o sz' n _ _ => if sz' = sz ∧ 0 < len ∧ len ≤ n then .pure (.ptr b o) else .fail
    | _ => .fail
  | .isNil k neg x => match k, x.ev e with
    | .ptr, .nil | .slice, .nilSlice | .map, .nilMap | .fn, .nilFn => .pure (.bool (!neg))
    | .ptr, .ptr _ _ | .slice, .slice .. | .map, .map _ | .fn, .fn .. => .pure (.bool neg)
    | _, _ => .fail
  | .lenSlice x => match x.ev e with
    | .nilSlice => .pure (.int .i64 0)
    | .slice _ _ _ n _ _ => .pure (.int .i64 n)
    | _ => .fail
  | .cap x => match x.ev e with
    | .nilSlice => .pure (.int .i64 0)
    | .slice _ _ _ _ c false => .pure (.int .i64 c)
    | _ => .fail
  | .lenMap x => match x.ev e with
    | .nilMap => .pure (.int .i64 0)
    | .map b => .get b fun
      | .map es _ => .pure (.int .i64 es.length)
      | _ => .fail
    | _ => .fail
  | .lenChan x => match x.ev e with
    | .chan b => .get b fun
      | .chan _ buf => .pure (.int .i64 buf.length)
      | _ => .fail
    | _ => .fail
  | .load n x => match x.ev e with
    | .ptr b o => loadAt b o n
    | _ => .fail
  | .lookup ik z x k ok =>
    let fin (v : V) (b : Bool) : IM V := .pure (if ok then .tup [v, .bool b] else v)
    match x.ev e with
    | .nilMap => if keyOk ik (k.ev e) then fin z false else .fail
    | .map b => .get b fun
      | .map es _ => if keysOk ik (k.ev e) es then (match findEntry (k.ev e) es 0 with
        | some en => fin en.2 true
        | none => fin z false) else .fail
      | _ => .fail
    | _ => .fail
  | .alloc z => (mkBlk tok slot (.cells true z)).bind fun b => .pure (.ptr b 0)
  | .box x => let cs := (x.ev e).cells; if allOne cs then (mkBlk tok slot (.cells true cs)).bind fun b => .pure (.ptr b 0) else .fail
  | .buildSlice sz len z ps => match fillParts e ps z with
    | some cs => if allOne cs then (mkBlk tok slot (.cells true cs)).bind fun b => .pure (.slice b 0 sz len len false) else .fail
    | none => .fail
  | .makeSlice sz z l => match l.ev e with
    | .int _ n => if 0 ≤ n ∧ n < big then (mkBlk tok slot (.cells true (List.replicate n.toNat z).flatten)).bind fun b => .pure (.slice b 0 sz n.toNat n.toNat false) else .fail
    | _ => .fail
  | .makeMap => (mkBlk tok slot (.map [] 0)).bind fun b => .pure (.map b)
  | .makeChan x => match x.ev e with
    | .int _ n => if 0 ≤ n ∧ n < big then (mkBlk tok slot (.chan n.toNat [])).bind fun b => .pure (.chan b) else .fail
    | _ => .fail
  | .strBytes x => match x.ev e with
    | .str s => (mkBlk tok slot (.cells true (s.data.toList.map fun c => .int .u8 c.toNat))).bind fun b => .pure (.slice b 0 1 s.size s.size true)
    | _ => .fail
  | .bytesStr x => (sliceCells 1 (x.ev e)).bind fun p => match bytesOf p.2 with
    | some l => .pure (.str ⟨l.toArray⟩)
    | none => .fail
  | .store n x v => match x.ev e with
    | .ptr b o => let vs := (v.ev e).cells; if vs.length = n ∧ allOne vs then (putCells b o vs).bind fun _ => .pure .undef else .fail
    | _ => .fail
  | .append sz x y => (sliceCells sz (y.ev e)).bind fun p => appendCells sz (x.ev e) p.1 p.2
  | .appendStr x y => match y.ev e with
    | .str s => appendCells 1 (x.ev e) s.size (s.data.toList.map fun c => .int .u8 c.toNat)
    | _ => .fail
  | .appendZ sz z x n => match n.ev e with
    | .int .i64 k => if 0 ≤ k ∧ k < big then appendCells sz (x.ev e) k.toNat (List.replicate k.toNat z).flatten else .fail
    | _ => .fail
  | .never => .fail
  | .copy sz x y => (sliceCells sz (y.ev e)).bind fun p => match x.ev e with
    | .nilSlice => .pure (.int .i64 0)
    | .slice b o sz' len _ _ => if sz' = sz then
        let n := min p.1 len
        (putCells b o (p.2.take (n * sz))).bind fun _ => .pure (.int .i64 n)
      else .fail
    | _ => .fail
  | .clear sz z x => match x.ev e with
    | .nilSlice => .pure .undef
    | .slice b o sz' len _ _ => if sz' = sz then (putCells b o (List.replicate len z).flatten).bind fun _ => .pure .undef else .fail
    | _ => .fail
  | .mapUpdate ik x k v => match x.ev e with
    | .map b => .get b fun
      | .map es clock => if keysOk ik (k.ev e) es then (match findEntry (k.ev e) es 0 with
        | some en => .set b (.map (es.modify en.1 fun y => (k.ev e, v.ev e, y.2.2)) clock) (.pure .undef)
        | none => .set b (.map (es ++ [(k.ev e, v.ev e, clock)]) (clock + 1)) (.pure .undef)) else .fail
      | _ => .fail
    | _ => .fail
  | .delete ik x k => match x.ev e with
    | .nilMap => if keyOk ik (k.ev e) then .pure .undef else .fail
    | .map b => .get b fun
      | .map es clock => if keysOk ik (k.ev e) es then (match findEntry (k.ev e) es 0 with
        | some en => .set b (.map (es.eraseIdx en.1) clock) (.pure .undef)
        | none => .set b (.map es clock) (.pure .undef)) else .fail
      | _ => .fail
    | _ => .fail
  | .range x => match x.ev e with
    | .nilMap => .alloc (.iter none 0 [] 0) fun b => .pure (.ptr b 0)
    | .map m => .get m fun
      | .map _ clock => .alloc (.iter (some m) clock [] clock) fun b => .pure (.ptr b 0)
      | _ => .fail
    | _ => .fail
  | .next x => match x.ev e with
    | .ptr r 0 => .get r fun
      | .iter none _ _ _ => .pure (.tup [.bool false])
      | .iter (some m) since seen last => .get m fun
        | .map es clock =>
          if !seen.isEmpty && !es.isEmpty && es.all (fun y => decide (y.2.2 ≥ last)) then .fail
          else
            let left := es.filter fun y => !seen.contains y.2.2
            match left with
            | [] => .pure (.tup [.bool false])
            | [y] => if y.2.2 < since then .set r (.iter (some m) since (seen ++ [y.2.2]) clock) (.pure (.tup [.bool true, y.1, y.2.1])) else .fail
            | _ => .fail
        | _ => .fail
      | _ => .fail
    | _ => .fail
  | .entry x => match x.ev e with
    | .ptr r 0 => .get r fun
      | .iter (some m) _ seen stepped => .get m fun
        | .map es clock => if clock = stepped then match seen.getLast? with
            | some st => match es.find? fun y => y.2.2 == st with
              | some y => .pure (.tup [y.1, y.2.1])
              | none => .fail
            | none => .fail
          else .fail
        | _ => .fail
      | _ => .fail
    | _ => .fail
  | .call f args => rc f (args.map (Opd.ev e))
  | .callV f args => match f.ev e with
    | .fn (.func g) first cap => rc g (first ++ args.map (Opd.ev e) ++ cap)
    | _ => .fail

def isel (e : Env) : ISel → IM V
  | .send ch v => match ch.ev e with
    | .chan b => .get b fun
      | .chan cap buf => if buf.length < cap then .set b (.chan cap (buf ++ [v.ev e])) (.pure (.tup [.int .i64 0, .bool false])) else .pure (.tup [.int .i64 (-1), .bool false])
      | _ => .fail
    | _ => .fail
  | .recv ch z => match ch.ev e with
    | .chan b => .get b fun
      | .chan cap (v :: buf) => .set b (.chan cap buf) (.pure (.tup [.int .i64 0, .bool true, v]))
      | .chan _ [] => .pure (.tup [.int .i64 (-1), .bool false, z])
      | _ => .fail
    | _ => .fail

def putT (e : Env) (dst : Option Nat) (v : V) : Env := match dst with
  | some d => e.set d v
  | none => e

def wantedI (e : Env) : Option (Nat × Bool) → Bool
  | none => true
  | some (t, want) => match e[t]? with
    | some (.bool b) => b == want
    | _ => false

def steps (P : Program) (rc : Nat → List V → IM V) : List Step → Env → IM Env
  | [], e => .pure e
  | s :: ss, e =>
    if wantedI e s.guard then (iop P rc 0 none e s.op).bind fun v => steps P rc ss (putT e s.dst v)
    else steps P rc ss (putT e s.dst .undef)

/-- One step of a region that draws: what it yields. -/
def dval (P : Program) (rc : Nat → List V → IM V) (tok : Nat) (e : Env) (slot : Option Nat) (g : Option (Nat × Bool)) (x : IOp) : IM V :=
  if wantedI e g then iop P rc tok slot e x else .pure .undef

def rchecks (P : Program) (rc : Nat → List V → IM V) (tok : Nat) (e : Env) : List RStep → IM Unit
  | [] => .pure ()
  | r :: rs => (dval P rc tok e none r.guard r.op).bind fun v => if V.beq v (e.getD r.dst .undef) then rchecks P rc tok e rs else .fail

def dsteps (P : Program) (rc : Nat → List V → IM V) (tok : Nat) : List DStep → Env → IM Env
  | [], e => .pure e
  | s :: ss, e => (dval P rc tok e s.slot s.guard s.op).bind fun v => (rchecks P rc tok (putT e s.dst v) s.again).bind fun _ => dsteps P rc tok ss (putT e s.dst v)

inductive Out where
  | norm
  | exit (id : Nat)
  | ret
  deriving Inhabited

def loopN (body : Env → IM (Out × Env)) : Nat → Env → IM (Out × Env)
  | 0, _ => .fail
  | k + 1, e => (body e).bind fun p => match p.1 with
    | .norm => loopN body k p.2
    | o => .pure (o, p.2)

def exec (P : Program) (rc : Nat → List V → IM V) (n : Nat) : ICode → Env → IM (Out × Env)
  | .skip, e => .pure (.norm, e)
  | .region ss, e => (steps P rc ss e).bind fun e => .pure (.norm, e)
  | .draw k ss, e => .reserve k fun tok => (dsteps P rc tok ss e).bind fun e => .pure (.norm, e)
  | .sel dst s ss, e => (isel e s).bind fun v => (steps P rc ss (putT e dst v)).bind fun e => .pure (.norm, e)
  | .seq a b, e => (exec P rc n a e).bind fun p => match p.1 with
    | .norm => exec P rc n b p.2
    | o => .pure (o, p.2)
  | .cond c a b, e => match c.ev e with
    | .bool true => exec P rc n a e
    | .bool false => exec P rc n b e
    | _ => .fail
  | .block id a, e => (exec P rc n a e).bind fun p => match p.1 with
    | .exit id' => if id' = id then .pure (.norm, p.2) else .pure (.exit id', p.2)
    | o => .pure (o, p.2)
  | .loop a, e => loopN (exec P rc n a) n e
  | .exit id, e => .pure (.exit id, e)
  | .ret, e => .pure (.ret, e)

def resultsOf (e : Env) : List IRes → IM (List V)
  | [] => .pure []
  | .tmp t :: rs => (resultsOf e rs).bind fun vs => .pure (e.getD t .undef :: vs)
  | .cell t n :: rs => match e.getD t .undef with
    | .ptr b o => (loadAt b o n).bind fun v => (resultsOf e rs).bind fun vs => .pure (v :: vs)
    | _ => .fail

def icall (P : Program) (code : Nat → Option IFunc) : Nat → Nat → List V → IM V
  | 0, _, _ => .fail
  | n + 1, f, args => match code f with
    | none => .fail
    | some fn => (exec P (icall P code n) n fn.body (args ++ List.replicate (fn.ntmps - args.length) .undef)).bind fun p => match p.1 with
      | .exit _ => .fail
      | _ => (resultsOf p.2 fn.results).bind fun vs => match vs with
        | [v] => .pure v
        | vs => .pure (.tup vs)

end Go.Ideal
