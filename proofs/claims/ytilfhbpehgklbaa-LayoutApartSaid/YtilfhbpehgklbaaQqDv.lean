/- A deterministic evaluator 'D' over a small form of the model's code: values in which a slice is the list of its elements, a state of variables, temporaries and a heap of its own. What it says of the model's machine stands in the texts behind this one. -/
import GoSem.Machine.Frame
set_option linter.unusedSimpArgs false
set_option linter.unusedVariables false
namespace Go.D

/-- How a slice may be appended to: 'view': not at all; 'full': it has no spare room; 'own': its spare room, if it has any, is nobody else's. -/
inductive Mode where
  | view | full | own
  deriving DecidableEq, Repr, Inhabited

/-- The evaluator's values. -/
inductive DV where
  | sc (v : Value)
  | agg (cs : List DV)
  | tup (cs : List DV)
  | sl (m : Mode) (sz : Nat) (xs : List DV)
  | ptr (b off : Nat)
  | cptr (cs : List DV)
  | hsl (b off len cap sz : Nat) (ag : Bool)
  | fn (f : Fn) (first cap : List DV)
  | ifc (t : TypeId) (v : DV)
  | box (cs : List DV)
  | lref (p off : Nat)
  | junk
  deriving Inhabited

abbrev Heap := List (List DV)

/-- What an operation, or a call, comes to. -/
inductive Res (α : Type) where
  | ok (a : α) (h : Heap)
  | pan (v : DV) (h : Heap)
  | no
  deriving Inhabited

def undefD : DV := .sc undef

/-- What a copy of a slice may do. -/
def vm : Mode → Mode
  | .full => .full
  | _ => .view

mutual
/-- A copy without the right to append into spare room. -/
def strip : DV → DV
  | .sl m sz xs => .sl (vm m) sz xs
  | .agg cs => .agg (stripL cs)
  | .tup cs => .tup (stripL cs)
  | .ifc t v => .ifc t (strip v)
  | .box _ => .junk
  | x => x
def stripL : List DV → List DV
  | [] => []
  | x :: r => strip x :: stripL r
end

mutual
/-- No address of the evaluator's own heap, or of a variable, is in it. -/
def free : DV → Bool
  | .sc _ => true
  | .agg cs => freeL cs
  | .tup cs => freeL cs
  | .sl _ _ xs => freeL xs
  | .cptr cs => freeL cs
  | .fn _ a b => freeL a && freeL b
  | .ifc _ v => free v
  | .junk => true
  | .ptr .. | .hsl .. | .box _ | .lref .. => false
def freeL : List DV → Bool
  | [] => true
  | x :: r => free x && freeL r
end

def cellsOf : DV → List DV
  | .agg cs => cs
  | .box _ | .lref .. | .junk | .tup _ => []
  | .sc (.tuple _) => []
  | x => [x]

/-- From cells to what a load of them is. -/
def ofCells (ag : Bool) (cs : List DV) : DV := if ag then .agg cs else cs.headD .junk

/-- The elements that cells are. -/
def chunks (sz : Nat) (ag : Bool) : Nat → List DV → List DV
  | 0, _ => []
  | n + 1, cs => ofCells ag (cs.take sz) :: chunks sz ag n (cs.drop sz)

/-- The elements of a slice that lies in the heap. -/
def hsElems (h : Heap) (b off len sz : Nat) (ag : Bool) : List DV := chunks sz ag len (((h.getD b []).drop off).take (len * sz))

mutual
/-- Slices of the heap as lists of what they have. -/
def look (h : Heap) : DV → DV
  | .hsl b off len _ sz ag =>
    if off + len * sz ≤ (h.getD b []).length ∧ 1 ≤ sz ∧ (ag || sz == 1) then .sl .view sz (stripL (hsElems h b off len sz ag)) else .junk
  | .agg cs => .agg (lookL h cs)
  | .tup cs => .tup (lookL h cs)
  | .ifc t v => .ifc t (look h v)
  | x => x
def lookL (h : Heap) : List DV → List DV
  | [] => []
  | x :: r => look h x :: lookL h r
end

mutual
/-- Is there a slice of the heap in it? -/
def hasHs : DV → Bool
  | .hsl .. => true
  | .agg cs => hasHsL cs
  | .tup cs => hasHsL cs
  | .ifc _ v => hasHs v
  | _ => false
def hasHsL : List DV → Bool
  | [] => false
  | x :: r => hasHs x || hasHsL r
end

mutual
/-- All slices in it are new, or without elements; no address of memory that is read alone. -/
def fresh : DV → Bool
  | .sc _ => true
  | .agg cs => freshL cs
  | .tup cs => freshL cs
  | .sl m _ xs => xs.isEmpty || (m == .own && freshL xs)
  | .ifc _ v => fresh v
  | .junk => true
  | _ => false
def freshL : List DV → Bool
  | [] => true
  | x :: r => fresh x && freshL r
end

mutual
/-- What is not new in it is not known any more. -/
def ruin : DV → DV
  | .sc v => .sc v
  | .agg cs => .agg (ruinL cs)
  | .tup cs => .tup (ruinL cs)
  | .ifc t v => .ifc t (ruin v)
  | .sl m sz xs => if fresh (.sl m sz xs) then .sl m sz xs else .junk
  | _ => .junk
def ruinL : List DV → List DV
  | [] => []
  | x :: r => ruin x :: ruinL r
end

/-- Where an operand comes from: a variable, a temporary (moved: the source keeps a copy without the right to append), or a constant. -/
inductive Src where
  | v (p : Nat) (mv : Bool)
  | t (i : Nat) (mv : Bool)
  | c (d : DV)
  deriving Inhabited

/-- Where a result goes to: a variable, the operation's own temporary, nowhere. -/
inductive Dst where
  | v (p : Nat)
  | t
  | none
  deriving DecidableEq, Inhabited

inductive DOp where
  | mv
  | pick
  | bin (op : BinOp) (isB : Bool)
  | eqA (ks : List Nat) (neg : Bool)
  | un (op : UnOp)
  | bx (n : Nat)
  | hp (n : Nat)
  | faB (p off : Nat)
  | fa (off : Nat)
  | ldB (p n : Nat) (ag take : Bool)
  | stB (p n : Nat)
  | ldP (n : Nat) (ag take : Bool)
  | stP (n : Nat)
  | ia (sz : Nat)
  | iaB (p len sz : Nat)
  | iaA (len sz : Nat)
  | ix (len sz : Nat) (ag : Bool)
  | ixS
  | fld (off n : Nat) (ag : Bool)
  | ext (k : Nat)
  | build (zero : List DV) (places : List (Nat × Nat))
  | buildSl (sz : Nat) (zero : List DV) (places : List Nat)
  | mkSl (sz bytes : Nat) (ag : Bool) (zero : List DV)
  | slc (sz : Nat) (lo hi mx : Bool)
  | slS (lo hi : Bool)
  | app (sz bytes : Nat)
  | appH (sz bytes : Nat) (ag : Bool)
  | cpy (sz : Nat)
  | len
  | lenS
  | lenA (n : Nat)
  | max
  | min
  | cvI (k : IntKind)
  | cvS
  | cvSB
  | cvBS
  | mkFn (fn : Fn) (nfirst : Nat)
  | call (f : FuncId)
  | callV
  | callQ (f : FuncId)
  | callVQ
  | mkIf (t : TypeId)
  deriving Inhabited

structure IOp where
  op : DOp
  ins : List Src
  dst : Dst
  guard : Option (Nat × Bool)
  deriving Inhabited

structure St where
  vars : List DV
  tmps : List DV
  heap : Heap
  deriving Inhabited

/-- A call that has nothing to do with the heap is a call. -/
def DOp.base : DOp → DOp
  | .callQ f => .call f
  | .callVQ => .callV
  | o => o
def IOp.base (q : IOp) : IOp := { q with op := q.op.base }

/-- What is handed on of an operand: all of it, if it was moved, else a copy. -/
def hand : Bool × DV → DV
  | (true, x) => x
  | (false, x) => strip x

/-- Operators on two scalars. -/
def dbin (op : BinOp) (x y : Value) : Option Value :=
  match x, y with
  | .int k a, .int k' b =>
    match op with
    | .shl => if b < 0 then none else some (.int k (k.wrap (a * 2 ^ (min b.toNat k.bits))))
    | .shr => if b < 0 then none else some (.int k (a.fdiv (2 ^ (min b.toNat k.bits))))
    | op =>
    if k = k' then
      match op with
      | .add => some (.int k (k.wrap (a + b)))
      | .sub => some (.int k (k.wrap (a - b)))
      | .mul => some (.int k (k.wrap (a * b)))
      | .quo => if b = 0 then none else some (.int k (k.wrap (a.tdiv b)))
      | .rem => if b = 0 then none else some (.int k (a.tmod b))
      | .and => some (.int k (k.wrap (BitVec.ofInt k.bits a &&& BitVec.ofInt k.bits b).toNat))
      | .or => some (.int k (k.wrap (BitVec.ofInt k.bits a ||| BitVec.ofInt k.bits b).toNat))
      | .xor => some (.int k (k.wrap (BitVec.ofInt k.bits a ^^^ BitVec.ofInt k.bits b).toNat))
      | .andNot => some (.int k (k.wrap (BitVec.ofInt k.bits a &&& ~~~ BitVec.ofInt k.bits b).toNat))
      | .eql => some (.bool (a == b))
      | .neq => some (.bool (a != b))
      | .lss => some (.bool (decide (a < b)))
      | .leq => some (.bool (decide (a ≤ b)))
      | .gtr => some (.bool (decide (a > b)))
      | .geq => some (.bool (decide (a ≥ b)))
      | _ => none
    else none
  | .string a, .string b =>
    match op with
    | .eql => some (.bool (a.toList == b.toList))
    | .neq => some (.bool (!(a.toList == b.toList)))
    | _ => none
  | _, _ => none

def dbinB (op : BinOp) (x y : Value) : Option Value :=
  match x, y with
  | .bool a, .bool b =>
    match op with
    | .eql => some (.bool (a == b))
    | .neq => some (.bool (!(a == b)))
    | _ => none
  | _, _ => none

def dun (op : UnOp) (x : Value) : Option Value :=
  match op, x with
  | .not, .bool b => some (.bool !b)
  | .neg, .int k n => some (.int k (k.wrap (0 - n)))
  | .xor, .int k n => some (.int k (k.wrap (BitVec.ofInt k.bits (if k.signed then -1 else k.max) ^^^ BitVec.ofInt k.bits n).toNat))
  | _, _ => none

/-- Two scalars of a kind: 0 a bool, 1 an integer, 2 a text. -/
def eqV1 (k : Nat) (x y : Value) : Option Bool :=
  match x, y with
  | .bool a, .bool b => if k = 0 then some (a == b) else none
  | .int j a, .int j' b => if k = 1 ∧ j = j' then some (a == b) else none
  | .string a, .string b => if k = 2 then some (a.toList == b.toList) else none
  | _, _ => none

/-- Cells of scalars: are they the same? -/
def eqL : List Nat → List DV → List DV → Option Bool
  | [], [], [] => some true
  | k :: ks, .sc x :: r, .sc y :: q => match eqV1 k x y, eqL ks r q with
    | some a, some b => some (a && b)
    | _, _ => none
  | _, _, _ => none

/-- A slice's elements laid over a row of zeros. -/
def fillEl : List DV → List Nat → List DV → Option (List DV)
  | acc, [], [] => some acc
  | acc, i :: is, x :: xs => if i < acc.length then fillEl (acc.set i x) is xs else none
  | _, _, _ => none

def setCells (cs : List DV) (off : Nat) (xs : List DV) : List DV := cs.take off ++ xs ++ cs.drop (off + xs.length)

/-- Parts laid over cells. -/
def fillC : List DV → List (Nat × Nat) → List DV → Option (List DV)
  | acc, [], [] => some acc
  | acc, (off, n) :: ps, x :: xs =>
    if (cellsOf x).length = n ∧ off + n ≤ acc.length then fillC (setCells acc off (cellsOf x)) ps xs else none
  | _, _, _ => none

/-- Bytes, of elements. -/
def bytesOf : List DV → Option (List UInt8)
  | [] => some []
  | .sc (.int .u8 n) :: r => (bytesOf r).map (UInt8.ofNat n.toNat :: ·)
  | _ => none

def ofBytes (l : List UInt8) : List DV := l.map fun b => .sc (.int .u8 b.toNat)

/-- What a slice has, as elements. -/
def elemsSl (h : Heap) : DV → Option (Nat × List DV)
  | .sl _ sz xs => some (sz, xs)
  | .hsl b off len _ sz ag => if off + len * sz ≤ (h.getD b []).length ∧ 1 ≤ sz ∧ (ag || sz == 1) then some (sz, stripL (hsElems h b off len sz ag)) else none
  | _ => none

/-- .. or a text's bytes. -/
def elems (h : Heap) : DV → Option (Nat × List DV)
  | .sc (.string s) => some (1, ofBytes s.data.toList)
  | x => elemsSl h x

def intOfD : DV → Option Int
  | .sc (.int _ n) => some n
  | _ => none

/-- The most that is asked for, in bytes. -/
def room : Nat := 2 ^ 40

/-- How the result of an append may be appended to. -/
def appMode (m : Mode) (nothing : Bool) : Mode :=
  match m with
  | .full => if nothing then .full else .own
  | _ => .own

/-- Bounds of a slice: low, high, max, of a length and a capacity (none: not known). -/
def bounds (len : Nat) (lo hi mx : Option Int) : Option (Nat × Nat × Option Nat) :=
  match mx with
  | none =>
    let h := hi.getD len
    let l := lo.getD 0
    if 0 ≤ l ∧ l ≤ h ∧ h ≤ (len : Int) then some (l.toNat, h.toNat, none) else none
  | some m =>
    let h := hi.getD len
    let l := lo.getD 0
    if 0 ≤ l ∧ l ≤ h ∧ h ≤ m ∧ m ≤ (len : Int) then some (l.toNat, h.toNat, some m.toNat) else none

/-- Three optional integers out of a list, by marks. -/
def takeOpt (b : Bool) (xs : List (Bool × DV)) : Option (Option Int × List (Bool × DV)) :=
  if b then
    match xs with
    | (_, .sc (.int _ n)) :: r => some (some n, r)
    | _ => none
  else some (none, xs)

def isLref : DV → Nat → Bool
  | .lref q _, p => q == p
  | _, _ => false

def noBox (d : DV) (h : Heap) : Res DV :=
  match d with
  | .box _ => .no
  | d => .ok d h

/-- A call: of values without addresses in a heap of its own; else in this one. -/
def callP (ev : FuncId → List DV → Heap → Res DV) (f : FuncId) (args : List DV) (h : Heap) : Res DV :=
  if freeL (lookL h args) then
    match ev f (lookL h args) [] with
    | .ok v h' =>
      if free (look h' v) && (!hasHsL args || fresh (look h' v)) then .ok (look h' v) h
      else if hasHsL args then (if free (look h' v) then .ok (ruin (look h' v)) h else .no) else ev f args h
    | .pan v h' =>
      if free (look h' v) && (!hasHsL args || fresh (look h' v)) then .pan (strip (look h' v)) h
      else if hasHsL args then .no else ev f args h
    | .no => if hasHsL args then ev f args h else .no
  else ev f args h

/-- A call that has nothing to do with this heap. -/
def callQ (ev : FuncId → List DV → Heap → Res DV) (f : FuncId) (args : List DV) (h : Heap) : Res DV :=
  if hasHsL args || !freeL args then .no
  else
    match ev f args [] with
    | .ok v h' => if free (look h' v) then .ok (look h' v) h else .no
    | .pan v h' => if free (look h' v) then .pan (strip (look h' v)) h else .no
    | .no => .no

/-- What an operation makes of its operands; 'old': what lies where the result goes to. -/
def compute (ev : FuncId → List DV → Heap → Res DV) (op : DOp) (old : DV) (xs : List (Bool × DV)) (h : Heap) : Res DV :=
  match op, xs with
  | .mv, [x] => .ok (hand x) h
  | .pick, [(_, .sc (.bool c)), a, b] => .ok (if c then hand a else hand b) h
  | .bin o isB, [(_, .sc x), (_, .sc y)] => match (if isB then dbinB o x y else dbin o x y) with | some v => .ok (.sc v) h | none => .no
  | .eqA ks neg, [(_, .agg a), (_, .agg b)] => match eqL ks a b with | some r => .ok (.sc (.bool (if neg then !r else r))) h | none => .no
  | .un o, [(_, .sc x)] => match dun o x with | some v => .ok (.sc v) h | none => .no
  | .bx n, [x] => if (cellsOf (hand x)).length = n then .ok (.box (cellsOf (hand x))) h else .no
  | .hp n, [x] => if (cellsOf (hand x)).length = n then .ok (.ptr h.length 0) (h ++ [cellsOf (hand x)]) else .no
  | .faB p off, [(_, .box _)] => .ok (.lref p off) h
  | .fa off, [(_, .ptr b o)] => .ok (.ptr b (o + off)) h
  | .fa off, [(_, .cptr cs)] => .ok (.cptr (cs.drop off)) h
  | .fa off, [(_, .lref p o)] => .ok (.lref p (o + off)) h
  | .ldB p n ag take, [(_, .lref q o), (_, .box cs)] =>
    if q = p ∧ o + n ≤ cs.length then (if take then noBox (ofCells ag ((cs.drop o).take n)) h else .ok (strip (ofCells ag ((cs.drop o).take n))) h) else .no
  | .ldB _ n ag take, [(_, .box cs)] =>
    if n ≤ cs.length then (if take then noBox (ofCells ag ((cs.drop 0).take n)) h else .ok (strip (ofCells ag (cs.take n))) h) else .no
  | .stB p n, [(_, .lref q o), x] =>
    match old with
    | .box cs => if q = p ∧ o + n ≤ cs.length ∧ (cellsOf (hand x)).length = n then .ok (.box (setCells cs o (cellsOf (hand x)))) h else .no
    | _ => .no
  | .stB _ n, [(_, .box _), x] =>
    match old with
    | .box cs => if n ≤ cs.length ∧ (cellsOf (hand x)).length = n then .ok (.box (setCells cs 0 (cellsOf (hand x)))) h else .no
    | _ => .no
  | .ldP n ag take, [(_, .ptr b o)] =>
    match h[b]? with
    | some cs =>
      if o + n ≤ cs.length then
        if take then noBox (ofCells ag ((cs.drop o).take n)) (h.set b (setCells cs o (stripL ((cs.drop o).take n))))
        else .ok (strip (ofCells ag ((cs.drop o).take n))) h
      else .no
    | none => .no
  | .ldP n ag _, [(_, .cptr cs)] => if n ≤ cs.length then .ok (strip (ofCells ag (cs.take n))) h else .no
  | .stP n, [(_, .ptr b o), x] =>
    match h[b]? with
    | some cs => if o + n ≤ cs.length ∧ (cellsOf (hand x)).length = n then .ok undefD (h.set b (setCells cs o (cellsOf (hand x)))) else .no
    | none => .no
  | .ia sz, [(_, .sl _ sz' xs), (_, .sc (.int _ i))] =>
    if sz' = sz ∧ 0 ≤ i then match xs[i.toNat]? with | some x => .ok (.cptr (cellsOf x)) h | none => .no else .no
  | .ia sz, [(_, .hsl b off len _ sz' _), (_, .sc (.int _ i))] =>
    if sz' = sz ∧ 0 ≤ i ∧ i < (len : Int) then .ok (.ptr b (off + i.toNat * sz)) h else .no
  | .iaB p len sz, [(_, .box _), (_, .sc (.int _ i))] => if 0 ≤ i ∧ i < (len : Int) then .ok (.lref p (i.toNat * sz)) h else .no
  | .iaA len sz, [(_, .lref p o), (_, .sc (.int _ i))] => if 0 ≤ i ∧ i < (len : Int) then .ok (.lref p (o + i.toNat * sz)) h else .no
  | .iaA len sz, [(_, .ptr b o), (_, .sc (.int _ i))] => if 0 ≤ i ∧ i < (len : Int) then .ok (.ptr b (o + i.toNat * sz)) h else .no
  | .iaA len sz, [(_, .cptr cs), (_, .sc (.int _ i))] => if 0 ≤ i ∧ i < (len : Int) then .ok (.cptr (cs.drop (i.toNat * sz))) h else .no
  | .ix len sz ag, [(_, .agg cs), (_, .sc (.int _ i))] =>
    if 0 ≤ i ∧ i < (len : Int) ∧ i.toNat * sz + sz ≤ cs.length then .ok (strip (ofCells ag ((cs.drop (i.toNat * sz)).take sz))) h else .no
  | .ixS, [(_, .sc (.string s)), (_, .sc (.int _ i))] =>
    if 0 ≤ i then match s[i.toNat]? with | some b => .ok (.sc (.int .u8 b.toNat)) h | none => .no else .no
  | .fld off n ag, [(_, .agg cs)] => if off + n ≤ cs.length then .ok (strip (ofCells ag ((cs.drop off).take n))) h else .no
  | .ext k, [(_, .tup cs)] => match cs[k]? with | some x => .ok (strip x) h | none => .no
  | .build zero places, xs => match fillC zero places (xs.map hand) with | some cs => .ok (.agg cs) h | none => .no
  | .buildSl sz zero places, xs =>
    if xs.all (fun x => (cellsOf x.2).length == sz) then
      match fillEl zero places (stripL (xs.map (·.2))) with | some l => .ok (.sl (if l.isEmpty then .full else .own) sz l) h | none => .no
    else .no
  | .mkSl sz bytes ag zero, [(_, .sc (.int _ n)), (_, .sc (.int _ m))] =>
    if 0 ≤ n ∧ n = m ∧ n * (bytes + sz + 1) ≤ (room : Int) then
      .ok (.hsl h.length 0 n.toNat n.toNat sz ag) (h ++ [(List.replicate n.toNat zero).flatten])
    else .no
  | .slc sz lo hi mx, (_, .sl _ sz' xs) :: r =>
    match takeOpt lo r with
    | none => .no
    | some (l, r1) =>
    match takeOpt hi r1 with
    | none => .no
    | some (u, r2) =>
    match takeOpt mx r2 with
    | none => .no
    | some (m, r3) =>
    match r3, bounds xs.length l u m with
    | [], some (l, u, m) => if sz' = sz then .ok (.sl (if m = some u then .full else .view) sz ((xs.drop l).take (u - l))) h else .no
    | _, _ => .no
  | .slS lo hi, (_, .sc (.string s)) :: r =>
    match takeOpt lo r with
    | none => .no
    | some (l, r1) =>
    match takeOpt hi r1 with
    | none => .no
    | some (u, r2) =>
    match r2, bounds s.size l u none with
    | [], some (l, u, _) => .ok (.sc (.string (s.extract l u))) h
    | _, _ => .no
  | .app sz bytes, [(mv, .sl m sz' xs), (_, y)] =>
    match elems h y with
    | some (sz'', ys) =>
      if sz' = sz ∧ sz'' = sz ∧ (xs.length + ys.length) * (bytes + 1) ≤ room then
        match m with
        | .view => .no
        | .full => .ok (.sl (appMode .full ys.isEmpty) sz (xs ++ ys)) h
        | .own => if mv then .ok (.sl .own sz (xs ++ ys)) h else .no
      else .no
    | none => .no
  | .appH sz bytes ag, [(_, .sl .full sz' []), (_, y)] =>
    match elems h y with
    | some (sz'', ys) =>
      if sz' = sz ∧ sz'' = sz ∧ ys.length * (bytes + 1) ≤ room ∧ ys.all (fun x => (cellsOf x).length == sz) then
        if ys.isEmpty then .ok (.sl .view sz []) h else .ok (.hsl h.length 0 ys.length ys.length sz ag) (h ++ [ys.flatMap cellsOf])
      else .no
    | none => .no
  | .cpy sz, [(_, .hsl b off len _ sz' _), (_, y)] =>
    match elems h y, h[b]? with
    | some (sz'', ys), some cs =>
      if sz' = sz ∧ sz'' = sz ∧ off + len * sz ≤ cs.length ∧ (ys.take len).all (fun x => (cellsOf x).length == sz) then
        .ok (.sc (.int .i64 (min ys.length len : Nat))) (h.set b (setCells cs off ((ys.take len).flatMap cellsOf)))
      else .no
    | _, _ => .no
  | .len, [(_, .sl _ _ xs)] => .ok (.sc (.int .i64 xs.length)) h
  | .len, [(_, .hsl _ _ len _ _ _)] => .ok (.sc (.int .i64 len)) h
  | .lenS, [(_, .sc (.string s))] => .ok (.sc (.int .i64 s.size)) h
  | .lenA n, [_] => .ok (.sc (.int .i64 n)) h
  | .max, [(_, .sc (.int k x)), (_, .sc (.int _ y))] => .ok (.sc (.int k (if y > x then y else x))) h
  | .min, [(_, .sc (.int k x)), (_, .sc (.int _ y))] => .ok (.sc (.int k (if y < x then y else x))) h
  | .cvI k, [(_, .sc (.int _ n))] => .ok (.sc (.int k (k.wrap n))) h
  | .cvS, [(_, .sc (.string s))] => .ok (.sc (.string s)) h
  | .cvSB, [(_, .sc (.string s))] => .ok (.sl .view 1 (ofBytes s.data.toList)) h
  | .cvBS, [(_, y)] =>
    match elemsSl h y with
    | some (1, ys) => match bytesOf ys with | some l => .ok (.sc (.string ⟨l.toArray⟩)) h | none => .no
    | _ => .no
  | .mkFn fn nfirst, xs =>
    if xs.any (fun x => match x.2 with | .lref .. => true | _ => false) then .no
    else .ok (.fn fn (stripL ((xs.map (·.2)).take nfirst)) (stripL ((xs.map (·.2)).drop nfirst))) h
  | .call f, xs => if xs.any (fun x => match x.2 with | .lref .. => true | _ => false) then .no else callP ev f (stripL (xs.map (·.2))) h
  | .callV, (_, .fn (.func f) first cap) :: xs =>
    if xs.any (fun x => match x.2 with | .lref .. => true | _ => false) then .no else callP ev f (first ++ stripL (xs.map (·.2)) ++ cap) h
  | .callQ f, xs => if xs.any (fun x => match x.2 with | .lref .. => true | _ => false) then .no else callQ ev f (stripL (xs.map (·.2))) h
  | .callVQ, (_, .fn (.func f) first cap) :: xs =>
    if xs.any (fun x => match x.2 with | .lref .. => true | _ => false) then .no else callQ ev f (first ++ stripL (xs.map (·.2)) ++ cap) h
  | .mkIf t, [x] => match x.2 with | .lref .. => .no | _ => .ok (.ifc t (hand x)) h
  | _, _ => .no

/-- Where an operand was moved away: what stays there. -/
def back (op : DOp) (x : DV) (adr : DV) : DV :=
  match op, x with
  | .ldB _ n _ true, .box cs =>
    match adr with
    | .lref _ o => .box (setCells cs o (stripL ((cs.drop o).take n)))
    | _ => .box (setCells cs 0 (stripL ((cs.drop 0).take n)))
  | _, x => strip x

def readS (s : St) : Src → Bool × DV
  | .v p m => (m, s.vars.getD p .junk)
  | .t i m => (m, s.tmps.getD i .junk)
  | .c d => (false, d)

def moveS (op : DOp) (adr : DV) (s : St) : Src → St
  | .v p true => { s with vars := s.vars.set p (back op (s.vars.getD p .junk) adr) }
  | .t i true => { s with tmps := s.tmps.set i (back op (s.tmps.getD i .junk) adr) }
  | _ => s

def writeD (i : Nat) (d : Dst) (x : DV) (s : St) : St :=
  match d with
  | .v p => { s with vars := s.vars.set p x }
  | .t => { s with tmps := s.tmps.set i x }
  | .none => s

def oldD (i : Nat) (d : Dst) (s : St) : DV :=
  match d with
  | .v p => s.vars.getD p .junk
  | .t => s.tmps.getD i .junk
  | .none => .junk

/-- Is no address of a variable's cells about that is made anew? -/
def boxOk (op : DOp) (d : Dst) (s : St) : Bool :=
  match op, d with
  | .bx _, .v p => !(s.vars.any (isLref · p) || s.tmps.any (isLref · p))
  | _, _ => true

/-- What a step comes to. -/
inductive Out where
  | st (s : St)
  | pan (v : DV) (h : Heap)
  | no
  deriving Inhabited

/-- A store into a variable's own cells turns that variable. -/
def DOp.dst (op : DOp) (d : Dst) : Dst :=
  match op with
  | .stB p _ => .v p
  | _ => d

def runOp (ev : FuncId → List DV → Heap → Res DV) (i : Nat) (o : IOp) (s : St) : Out :=
  let xs := o.ins.map (readS s)
  if boxOk o.op o.dst s then
    match compute ev o.op (oldD i (o.op.dst o.dst) s) xs s.heap with
    | .ok r h => .st (writeD i (o.op.dst o.dst) r { (o.ins.foldl (moveS o.op ((xs.headD (false, .junk)).2)) s) with heap := h })
    | .pan v h => .pan v h
    | .no => .no
  else .no

def runG (ev : FuncId → List DV → Heap → Res DV) (i : Nat) (o : IOp) (s : St) : Out :=
  match o.guard with
  | none => runOp ev i o s
  | some (j, want) =>
    match s.tmps.getD j .junk with
    | .sc (.bool b) => if b = want then runOp ev i o s else .st (writeD i o.dst undefD s)
    | .sc (.tuple _) => .st (writeD i o.dst undefD s)
    | _ => .no

/-- A region's operations, in the order of the text. -/
def runL (ev : FuncId → List DV → Heap → Res DV) : List IOp → Nat → St → Out
  | [], _, s => .st s
  | o :: r, i, s =>
    match runG ev i o s with
    | .st s' => runL ev r (i + 1) s'
    | e => e

/-- No address of these variables' cells is about. -/
def noL (B : List Nat) (s : St) : Bool := B.all fun p => !(s.vars.any (isLref · p) || s.tmps.any (isLref · p))

/-- The variables that get cells of their own here. -/
def bxs : List IOp → List Nat
  | [] => []
  | q :: r => match q.op, q.dst with | .bx _, .v p => p :: bxs r | _, _ => bxs r

def idx : List IOp → Nat → List (Nat × IOp)
  | [], _ => []
  | q :: r, i => (i, q) :: idx r (i + 1)

/-- A region whose order is drawn: every operation must come through. -/
def runX (ev : FuncId → List DV → Heap → Res DV) (B : List Nat) : List (Nat × IOp) → St → Option St
  | [], s => if noL B s then some s else none
  | (i, q) :: r, s =>
    if noL B s then
      match runG ev i q s with
      | .st s' => runX ev B r s'
      | _ => none
    else none

inductive IR where
  | skip
  | reg (ops : List IOp) (draw : Bool)
  | seq (a b : IR)
  | cond (c : Src) (a b : IR)
  | block (id : Nat) (a : IR)
  | loop (a : IR)
  | exit (id : Nat)
  | ret
  | no
  deriving Inhabited

inductive Ex where
  | norm (s : St)
  | exit (id : Nat) (s : St)
  | ret (s : St)
  | pan (v : DV) (h : Heap)
  | no
  deriving Inhabited

def iter (body : St → Ex) : Nat → St → Ex
  | 0, _ => .no
  | n + 1, s =>
    match body s with
    | .norm s' => iter body n s'
    | e => e

def evalC (ev : FuncId → List DV → Heap → Res DV) (N : Nat) : IR → St → Ex
  | .skip, s => .norm s
  | .reg ops draw, s =>
    if draw then
      match runX ev (bxs ops) (idx ops 0) { s with tmps := List.replicate ops.length .junk } with
      | some s' => .norm { s' with tmps := [] }
      | none => .no
    else
    match runL ev ops 0 { s with tmps := List.replicate ops.length .junk } with
    | .st s' => .norm { s' with tmps := [] }
    | .pan v h => .pan v h
    | .no => .no
  | .seq a b, s =>
    match evalC ev N a s with
    | .norm s' => evalC ev N b s'
    | e => e
  | .cond c a b, s =>
    match (readS s c).2 with
    | .sc (.bool t) => if t = true then evalC ev N a s else evalC ev N b s
    | _ => .no
  | .block id a, s =>
    match evalC ev N a s with
    | .exit id' s' => if id' = id then .norm s' else .exit id' s'
    | e => e
  | .loop a, s => iter (evalC ev N a) N s
  | .exit id, s => .exit id s
  | .ret, s => .ret s
  | .no, _ => .no

/-- A result: a variable, or a variable's cells. -/
inductive ResIR where
  | v (p : Nat)
  | b (p n : Nat) (ag : Bool)
  deriving Inhabited

structure FnIR where
  np : Nat
  nv : Nat
  slots : List Nat
  body : IR
  res : List ResIR
  deriving Inhabited

def resOf (s : St) : ResIR → Option DV
  | .v p => match s.vars.getD p .junk with | .box _ | .lref .. => none | x => some x
  | .b p n ag => match s.vars.getD p .junk with | .box cs => if cs.length = n then (match ofCells ag cs with | .box _ => none | x => some x) else none | _ => none

def resAll (s : St) : List ResIR → Option (List DV)
  | [] => some []
  | r :: rs => match resOf s r, resAll s rs with | some x, some l => some (x :: l) | _, _ => none

def outOf : List DV → DV
  | [] => undefD
  | [x] => x
  | l => .tup l

def evalF (ev : FuncId → List DV → Heap → Res DV) (N : Nat) (fi : FnIR) (args : List DV) (h : Heap) : Res DV :=
  if args.length = fi.np then
    match evalC ev N fi.body { vars := args ++ List.replicate (fi.nv - fi.np) .junk, tmps := [], heap := h } with
    | .norm s => match resAll s fi.res with | some l => .ok (outOf l) s.heap | none => .no
    | .ret s => match resAll s fi.res with | some l => .ok (outOf l) s.heap | none => .no
    | .pan v h => .pan v h
    | _ => .no
  else .no

def evalCall (fns : FuncId → Option FnIR) (N : Nat) : Nat → FuncId → List DV → Heap → Res DV
  | 0, _, _, _ => .no
  | d + 1, f, args, h =>
    match fns f with
    | some fi => evalF (evalCall fns N d) N fi args h
    | none => .no

end Go.D
