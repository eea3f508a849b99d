/- The abstract machine's code of a function's code. -/
import Derived.Test.YtbhjokfopgbmiaaGreatDoorAxDefs
namespace Go.Ax
open Go

def toAV : Nat → Value → Option AV
  | 0, _ => none
  | _ + 1, .bool b => some (.bool b)
  | _ + 1, .int k n => some (.int k n)
  | _ + 1, .string s => some (.str (s.data.toList.map (·.toNat)))
  | _ + 1, .pointer none => some .nilp
  | _ + 1, .slice none 0 0 => some .nils
  | _ + 1, .map none => some .nilm
  | _ + 1, .nilFunc => some .nilf
  | _ + 1, .nilIface => some .nili
  | n + 1, .iface t v => (toAV n v).map (.ifc t)
  | _ + 1, .func (.func f) ⟨[]⟩ ⟨[]⟩ => some (.fn (.func f) [] [])
  | n + 1, .agg ⟨cs⟩ => (cs.mapM (toAV n)).map .agg
  | n + 1, .tuple ⟨vs⟩ => (vs.mapM (toAV n)).map .tup
  | _ + 1, _ => none

def opd (P : Program) : Operand → Option X
  | .tmp t => some (.t (path t))
  | .const v => (toAV 20 v).map .c
  | .global g => if g < P.globals.size then some (.c (.ptr g 0)) else none
  | .func f => some (.c (.fn (.func f) [] []))

def opdO (P : Program) : Option Operand → Option (Option X)
  | none => some none
  | some o => (opd P o).map some

def cellsZ (P : Program) (t : TypeId) : Option (List AV) := do
  let i ← P.info? t
  let z ← i.zero
  let v ← toAV 20 z
  if v.cells.length = i.size && z.cells.size = i.size then some v.cells else none

def isAggB (P : Program) (t : TypeId) : Option Bool :=
  match P.underlying t with
  | some (.struct _) | some (.array _ _) => some true
  | some _ => some false
  | none => none

/-- What the cells of a comparable type are. -/
def layOf (P : Program) : Nat → TypeId → Option (List Lay)
  | 0, _ => none
  | n + 1, t =>
    match P.underlying t with
    | some .bool => some [.b]
    | some (.int _) => some [.i]
    | some .string => some [.s]
    | some (.struct fs) =>
      if P.stoodInHeld t then none else
      fs.toList.foldlM (fun (acc : List Lay) f => do
        if f.name == "_" || f.offset != acc.length then none
        let l ← layOf P n f.type
        if l.length != P.cellsOf f.type then none
        some (acc ++ l)) []
    | _ => none

def opdP (P : Program) (ps : List (Nat × Nat × Operand)) : Option (List (Nat × Nat × X)) := ps.mapM fun (a, b, x) => (opd P x).map fun x => (a, b, x)

/-- The kind of nil that a type has. -/
def nilKind : TypeDesc → Option (Nat × Value)
  | .pointer _ => some (0, .pointer none)
  | .slice _ => some (1, .slice none 0 0)
  | .map _ _ => some (2, .map none)
  | .func _ _ _ => some (3, .nilFunc)
  | .interface _ => some (4, .nilIface)
  | _ => none
def isNilOf (k : Nat) : Operand → Bool
  | .const (.pointer none) => k == 0
  | .const (.slice none 0 0) => k == 1
  | .const (.map none) => k == 2
  | .const .nilFunc => k == 3
  | .const .nilIface => k == 4
  | _ => false

def binC (P : Program) (op : BinOp) (t : TypeId) (x y : Operand) : Option AOp := do
  let a ← opd P x
  let b ← opd P y
  match op with
  | .shl | .shr => some (.p (.shf op a b))
  | .andNot => none
  | _ =>
    match P.underlying t with
    | some (.int _) => some (.p (.bin op a b))
    | some .string => some (.p (.sbin op a b))
    | some d =>
      let neg ← (match op with | .eql => some false | .neq => some true | _ => none)
      match d with
      | .bool => some (.p (.eqc neg false [.b] a b))
      | .struct _ => if P.eqGuardType P.depth t then none else (layOf P 20 t).map fun l => .p (.eqc neg true l a b)
      | d =>
        let (k, _) ← nilKind d
        if isNilOf k y then some (.p (.isnil k neg a)) else if isNilOf k x then some (.p (.isnil k neg b)) else none
    | none => none

def builtC (P : Program) (b : Builtin) (ts : Array TypeId) (as : Array Operand) : Option AOp := do
  match b, ts.toList, as.toList with
  | .len, [t], [x] =>
    let x' ← opd P x
    match P.underlying t with
    | some .string => some (.p (.lenS x'))
    | some (.slice _) => some (.p (.lenV x'))
    | some (.array n _) => some (.p (.mv (.c (.int .i64 (.ofNat n)))))
    | some (.map _ _) => some (.q (.lenM x'))
    | _ => none
  | .cap, [t], [x] =>
    let x' ← opd P x
    match P.underlying t with
    | some (.slice _) => some (.p (.cap x'))
    | _ => none
  | .append, [t, u], [s, v] =>
    let .slice e ← P.underlying t | none
    let i ← P.info? e
    if (← P.underlying u) matches .int _ then none
    let _ ← cellsZ P e
    if i.size = 0 then none
    some (.v (.app e i.size i.bytes (← opd P s) (← opd P v)))
  | .clear, [t], [x] =>
    let .slice e ← P.underlying t | none
    let z ← cellsZ P e
    if z.length = 0 then none
    some (.v (.clr z.length z (← opd P x)))
  | .delete, [t, _], [m, k] =>
    let .map kt _ ← P.underlying t | none
    some (.v (.del (← isAggB P kt) (← layOf P 20 kt) (← opd P m) (← opd P k)))
  | .min, [_, _], [x, y] => some (.p (.minI (← opd P x) (← opd P y)))
  | .max, [_, _], [x, y] => some (.p (.maxI (← opd P x) (← opd P y)))
  | _, _, _ => none

def opC (P : Program) (o : Oper) : Option AOp := do
  match o.op with
  | .move x => some (.p (.mv (← opd P x)))
  | .assign x => some (.v (.asg (← opd P x)))
  | .pick c a b => some (.p (.pick (← opd P c) (← opd P a) (← opd P b)))
  | .alloc e => some (.a (.alloc e (← cellsZ P e)))
  | .box e x => some (.a (.box e (← opd P x)))
  | .build t ps =>
    let z ← cellsZ P t
    match P.underlying t with
    | some (.struct fs) =>
      if !(fs.toList.all fun f => (P.info? f.type).isSome) then none
      let qs ← ps.toList.mapM fun p => ((fs[p.1]?).map fun f => (f.offset, P.cellsOf f.type)).map fun q => (q.1, q.2, p.2)
      some (.p (.build z (← opdP P qs)))
    | some (.array _ e) =>
      let _ ← P.info? e
      let qs ← ps.toList.mapM fun p => (some (p.1 * P.cellsOf e, P.cellsOf e)).map fun q => (q.1, q.2, p.2)
      some (.p (.build z (← opdP P qs)))
    | _ => none
  | .buildSlice t n ps =>
    let .slice e ← P.underlying t | none
    let z ← cellsZ P e
    if z.length = 0 || n * z.length > 65536 then none
    let qs ← ps.toList.mapM fun p => (some (p.1 * z.length, z.length)).map fun q => (q.1, q.2, p.2)
    some (.a (.bsl e z.length ((List.replicate n z).flatten) n (← opdP P qs)))
  | .load t a =>
    let b ← isAggB P t
    let a' ← opd P a
    some (.q (if b then .ldn (P.cellsOf t) a' else .ld1 a'))
  | .store t a v =>
    let b ← isAggB P t
    if b then some (.v (.stn (P.cellsOf t) (← opd P a) (← opd P v)))
    else if P.cellsOf t = 1 then some (.v (.st1 (← opd P a) (← opd P v))) else none
  | .nilCheck x => some (.p (.nilck (← opd P x)))
  | .binOp op t x y _ => binC P op t x y
  | .unOp .not _ x => some (.p (.not (← opd P x)))
  | .unOp .neg _ x => some (.p (.neg (← opd P x)))
  | .convert s d x =>
    match P.underlying s, P.underlying d with
    | some (.int _), some (.int k) => some (.p (.cvI k (← opd P x)))
    | some .string, some .string => some (.p (.idS (← opd P x)))
    | some (.slice e), some .string => if P.underlying e matches some (.int .u8) then some (.q (.b2s (← opd P x))) else none
    | _, _ => none
  | .makeInterface t x => match P.underlying t with
    | some (.interface _) | none => none
    | some _ => some (.p (.mkif t (← opd P x)))
  | .makeFunc (.func f) a b => some (.p (.mkfn (.func f) (← a.toList.mapM (opd P)) (← b.toList.mapM (opd P))))
  | .makeMap _ none => some (.a .mkmap)
  | .makeSlice t n c =>
    let .slice e ← P.underlying t | none
    let i ← P.info? e
    let z ← cellsZ P e
    if z.length = 0 then none
    some (.a (.msl e z.length i.bytes z (← opd P n) (← opd P c)))
  | .slice t x lo hi mx =>
    let x' ← opd P x
    let lo' ← opdO P lo
    let hi' ← opdO P hi
    let mx' ← opdO P mx
    match P.underlying t with
    | some .string => if mx.isSome then none else some (.p (.slStr x' lo' hi'))
    | some (.slice e) => if P.cellsOf e = 0 then none else some (.p (.slV (P.cellsOf e) x' lo' hi' mx'))
    | some (.array n e) => if P.cellsOf e = 0 then none else some (.q (.slA n (P.cellsOf e) x' lo' hi' mx'))
    | _ => none
  | .fieldAddr t x i =>
    let .struct fs ← P.underlying t | none
    let f ← fs[i]?
    if P.cellsOf f.type = 0 then none
    some (.p (.faddr f.offset (← opd P x)))
  | .field t x i =>
    let .struct fs ← P.underlying t | none
    let f ← fs[i]?
    let b ← isAggB P f.type
    some (.p (.fld f.offset (if b then some (P.cellsOf f.type) else none) (← opd P x)))
  | .indexAddr t x i =>
    match P.underlying t with
    | some (.slice e) => if P.cellsOf e = 0 then none else some (.p (.ixS (P.cellsOf e) (← opd P x) (← opd P i)))
    | some (.array n e) => if P.cellsOf e = 0 then none else some (.p (.ixA (P.cellsOf e) n (← opd P x) (← opd P i)))
    | _ => none
  | .index t x i =>
    match P.underlying t with
    | some .string => some (.p (.ixStr (← opd P x) (← opd P i)))
    | some (.array n e) => some (.p (.ixArr (P.cellsOf e) n (← isAggB P e) (← opd P x) (← opd P i)))
    | _ => none
  | .lookup t m k ok =>
    let .map kt e ← P.underlying t | none
    let i ← P.info? e
    let z ← toAV 20 (← i.zero)
    some (.q (.lkup (← isAggB P kt) (← layOf P 20 kt) z ok (← opd P m) (← opd P k)))
  | .mapUpdate t m k v =>
    let .map kt _ ← P.underlying t | none
    some (.v (.mupd (← isAggB P kt) (← layOf P 20 kt) (← opd P m) (← opd P k) (← opd P v)))
  | .range t x =>
    match P.underlying t with
    | some .string => some (.a (.rngS (← opd P x)))
    | some (.map _ _) => some (.v (.rngM (← opd P x)))
    | _ => none
  | .next x s => some (.v (.next (← opd P x) s))
  | .entry x => some (.q (.entry (← opd P x)))
  | .extract x i => some (.p (.ext i (← opd P x)))
  | .call c =>
    match c.callee with
    | .value f => some (.v (.call (← opd P f) (← c.args.toList.mapM (opd P))))
    | .builtin b => builtC P b c.argTypes c.args
    | .invoke _ _ => none
  | .panic x => some (.v (.panic (← opd P x)))
  | _ => none

/-! ## Regions -/

/-- Which operations stand ahead of each, as bits. -/
def befores (ops : List Oper) : List Nat :=
  ops.foldl (fun acc o => acc ++ [o.after.toList.foldl (fun s e => if Region.binds .any e then s ||| 2 ^ e.on ||| (acc[e.on]?).getD 0 else s) 0]) []

def guardT (ops : List Oper) (o : Oper) : Option (Option (Tmp × Bool)) :=
  match o.guard with
  | none => some none
  | some (j, b) => (ops[j]?).bind fun g => g.dst.map fun t => some (t, b)

def readsT (ops : List Oper) (o : Oper) : List Tmp :=
  (o.op.operands.toList.filterMap fun | .tmp t => some t | _ => none) ++ (match guardT ops o with | some (some (t, _)) => [t] | _ => [])

def isLoud : AOp → Bool
  | .v _ => true
  | _ => false
/-- Does it change the heap? -/
def isHeap : AOp → Bool
  | .v (.asg _) => false
  | .v _ => true
  | _ => false
def isAlloc : AOp → Bool
  | .a _ => true
  | _ => false
def isRead : AOp → Bool
  | .q _ => true
  | _ => false

/-- The order in which what isn't loud comes as early as it may. -/
def early (bef : List Nat) (as : List AOp) : Nat → Nat → List Nat
  | 0, _ => []
  | n + 1, done =>
    let ready := (List.range as.length).filter fun i => !done.testBit i && ((bef[i]?).getD 0 &&& done == (bef[i]?).getD 0)
    match ready.find? fun i => !((as[i]?).map isLoud).getD true with
    | some i => i :: early bef as n (done ||| 2 ^ i)
    | none => match ready with
      | i :: _ => i :: early bef as n (done ||| 2 ^ i)
      | [] => []

def ordered (bef : List Nat) (i j : Nat) : Bool := ((bef[i]?).getD 0).testBit j || ((bef[j]?).getD 0).testBit i

/-- What an operation that may come later looks at. -/
def xsO : Option X → List X
  | some x => [x]
  | none => []
def xsP : PO → List X
  | .mv x | .nilck x | .isnil _ _ x | .not x | .neg x | .faddr _ x | .fld _ _ x | .mkif _ x | .ext _ x | .cvI _ x | .lenS x | .lenV x | .idS x | .cap x => [x]
  | .pick c a b => [c, a, b]
  | .build _ ps => ps.map (·.2.2)
  | .bin _ x y | .shf _ x y | .sbin _ x y | .eqc _ _ _ x y | .ixS _ x y | .ixA _ _ x y | .ixStr x y | .ixArr _ _ _ x y | .minI x y | .maxI x y => [x, y]
  | .mkfn _ a b => a ++ b
  | .slStr x lo hi => x :: (xsO lo ++ xsO hi)
  | .slV _ x lo hi mx => x :: (xsO lo ++ (xsO hi ++ xsO mx))
  | .ntm => []
def xsR : RO → List X
  | .ld1 x | .ldn _ x | .lenM x | .entry x | .b2s x => [x]
  | .lkup _ _ _ _ m k => [m, k]
  | .slA _ _ x lo hi mx => x :: (xsO lo ++ (xsO hi ++ xsO mx))
def xsL : LO → List X
  | .alloc _ _ | .mkmap => []
  | .box _ x | .rngS x => [x]
  | .bsl _ _ _ _ ps => ps.map (·.2.2)
  | .msl _ _ _ _ n c => [n, c]
def xsA : AOp → List X
  | .p o => xsP o
  | .q o => xsR o
  | .a o => xsL o
  | .v _ => []
/-- A place's number. -/
def pnum : P1 → Nat
  | .e => 0
  | .l p => 2 * pnum p + 1
  | .r p => 2 * pnum p + 2
def okX (rs : List Tmp) : X → Bool
  | .t p => rs.contains (pnum p)
  | .c _ => true

structure Full where
  o : Oper
  a : AOp
  d : Option Tmp
  rs : List Tmp
  g : Option (Tmp × Bool)

/-- May two operations come in whatever order? -/
def pairOk (bef : List Nat) (fs : List Full) (pi : List Nat) (i j : Nat) : Bool :=
  match fs[i]?, fs[j]? with
  | some x, some y =>
    (ordered bef i j ||
      (-- neither touches what the other one writes
       (match x.d with | some t => !y.rs.contains t && y.d != some t | none => true) &&
       (match y.d with | some t => !x.rs.contains t | none => true) &&
       !(isLoud x.a && isLoud y.a) && !(isHeap x.a && isAlloc y.a) && !(isHeap y.a && isAlloc x.a) &&
       -- what isn't loud comes first
       (if isLoud x.a then pi.idxOf j < pi.idxOf i else true) && (if isLoud y.a then pi.idxOf i < pi.idxOf j else true))) &&
    -- what isn't loud writes what nobody wrote, and nobody read ahead of it
    (isLoud x.a || (match x.d with | some t => y.d != some t && (!y.rs.contains t || ((bef[j]?).getD 0).testBit i) | none => true)) &&
    (isLoud y.a || (match y.d with | some t => x.d != some t && (!x.rs.contains t || ((bef[i]?).getD 0).testBit j) | none => true))
  | _, _ => false

def selfOk (f : Full) : Bool := isLoud f.a || (match f.d with | some t => !f.rs.contains t | none => true)

def checksOf (bef : List Nat) (fs : List Full) (pi : List Nat) (i : Nat) : Option (List (Option (P1 × Bool) × RO × P1)) :=
  match fs[i]? with
  | some x => if isHeap x.a then
      ((pi.takeWhile (· != i)).filter fun j => !ordered bef i j).foldrM (fun j acc => do
        let y ← fs[j]?
        match y.a with
        | .q r => let d ← y.d; some ((y.g.map fun (t, b) => (path t, b), r, path d) :: acc)
        | _ => some acc) []
    else some []
  | none => none

def ropOf (f : Full) (chk : List (Option (P1 × Bool) × RO × P1)) : ROp := { g := f.g.map fun (t, b) => (path t, b), d := f.d.map path, op := f.a, chk }

def fullC (P : Program) (N : Nat) (ops : List Oper) (o : Oper) : Option Full := do
  let a ← opC P o
  let g ← guardT ops o
  if !(match o.dst with | some t => decide (t < N) | none => true) then none
  if !((xsA a).all (okX (readsT ops o))) then none
  some { o, a, d := o.dst, rs := readsT ops o, g }

def regC (P : Program) (N : Nat) (ops : List Oper) (draw : Bool) : Option (List ROp) := do
  let fs ← ops.mapM (fullC P N ops)
  if !draw then some (fs.map fun f => ropOf f []) else
  let bef := befores ops
  let pi := early bef (fs.map (·.a)) ops.length 0
  if !(P.follows .mixedOrders) then none
  if !(ops.zipIdx.all fun (o, i) => o.after.toList.all fun e => !Region.binds .any e || e.on < i) then none
  if pi.length != ops.length || !pi.Nodup || !(pi.all (· < ops.length)) then none
  if !(fs.all selfOk) then none
  if !((List.range ops.length).all fun i => (List.range i).all fun j => pairOk bef fs pi i j) then none
  pi.mapM fun i => do
    let f ← fs[i]?
    let c ← checksOf bef fs pi i
    some (ropOf f c)

def codeC (P : Program) (N : Nat) : Code → Option ACode
  | .skip => some .skip
  | .region _ ops draw => (regC P N ops.toList draw).map .reg
  | .seq a b => do some (.seq (← codeC P N a) (← codeC P N b))
  | .cond c a b => do some (.cond (← opd P c) (← codeC P N a) (← codeC P N b))
  | .block id a => do some (.block id (← codeC P N a))
  | .loop a => do some (.loop (← codeC P N a))
  | .exit id => some (.exit id)
  | .scope a => do some (.scope (← codeC P N a))
  | .label _ => some .skip
  | .ret => some .ret
  | .rangeFunc f ps a b => do
    if !(ps.toList.all (· < N)) then none
    some (.rf (← opd P f) (ps.toList.map path) (← codeC P N a) (← codeC P N b))
  | .goto _ | .refuse _ => none

def resC (P : Program) : ResultVar → Option (P1 × Option (Option Nat))
  | .tmp t => some (path t, none)
  | .cell t ty => do
    let b ← isAggB P ty
    some (path t, some (if b then some (P.cellsOf ty) else none))

def funC (P : Program) (f : Func) : Option AFn := do
  let b ← f.body
  some { body := ← codeC P f.ntmps b, nt := f.ntmps, res := ← f.results.toList.mapM (resC P) }

end Go.Ax
