/- The abstract machine: values with labels for blocks, an abstract heap, operations, code, and the run. -/
import GoSem.Step
namespace Go.Ax

/-- A place in a tree. -/
inductive P1 where
  | e | l (p : P1) | r (p : P1)
  deriving Inhabited, Repr, DecidableEq

/-- A finite map by places. -/
inductive Tr (α : Type) where
  | e | n (l : Tr α) (v : Option α) (r : Tr α)
  deriving Inhabited

noncomputable def Tr.get {α : Type} (p : P1) : Tr α → Option α :=
  P1.rec (motive := fun _ => Tr α → Option α) (fun t => Tr.casesOn t none fun _ v _ => v) (fun _ ih t => Tr.casesOn t none fun l _ _ => ih l)
    (fun _ ih t => Tr.casesOn t none fun _ _ r => ih r) p

noncomputable def Tr.set {α : Type} (p : P1) : Option α → Tr α → Tr α :=
  P1.rec (motive := fun _ => Option α → Tr α → Tr α) (fun v t => Tr.casesOn t (.n .e v .e) fun l _ r => .n l v r)
    (fun _ ih v t => Tr.casesOn t (.n (ih v .e) none .e) fun l u r => .n (ih v l) u r)
    (fun _ ih v t => Tr.casesOn t (.n .e none (ih v .e)) fun l u r => .n l u (ih v r)) p

/-- The place of a number. -/
def pathF : Nat → Nat → P1
  | 0, _ => .e
  | _ + 1, 0 => .e
  | f + 1, m + 1 => if m % 2 = 0 then .l (pathF f (m / 2)) else .r (pathF f (m / 2))
def path (n : Nat) : P1 := pathF n n
/-- The same, as the kernel reckons it fast. -/
noncomputable def pathG (f : Nat) : Nat → P1 :=
  Nat.rec (motive := fun _ => Nat → P1) (fun _ => .e)
    (fun _ ih n => Nat.rec (motive := fun _ => P1) .e (fun m _ => Nat.rec (motive := fun _ => P1) (.l (ih (Nat.div m 2))) (fun _ _ => .r (ih (Nat.div m 2))) (Nat.mod m 2)) n) f
noncomputable def pathR (n : Nat) : P1 := pathG n n
theorem pathG_eq : ∀ f n, pathG f n = pathF f n := by
  intro f
  induction f with
  | zero => intro n; rfl
  | succ f ih =>
    intro n
    cases n with
    | zero => rfl
    | succ m =>
      show Nat.rec (motive := fun _ => P1) (.l (pathG f (m / 2))) (fun _ _ => .r (pathG f (m / 2))) (m % 2) = _
      rw [ih]
      rcases Nat.mod_two_eq_zero_or_one m with h | h <;> simp only [pathF, h] <;> rfl
theorem pathR_eq (n : Nat) : pathR n = path n := pathG_eq n n

/-- An abstract value. -/
inductive AV where
  | bool (b : Bool)
  | int (k : IntKind) (n : Int)
  | tok (k : IntKind) (i : Nat)
  | str (s : List Nat)
  | ptr (l o : Nat)
  | nilp
  | slc (l o q n c : Nat) (x : Bool) (z : Nat)
  | nils
  | map (l : Nat)
  | nilm
  | fn (f : Fn) (a b : List AV)
  | nilf
  | ifc (t : Nat) (v : AV)
  | nili
  | agg (cs : List AV)
  | tup (vs : List AV)
  deriving Inhabited

def und : AV := .tup []

/-- An operand. -/
inductive X where
  | t (p : P1)
  | c (v : AV)
  deriving Inhabited

/-- What a cell of a comparable type is. -/
inductive Lay where
  | i | s | b
  deriving Inhabited, Repr, DecidableEq

/-- Operations that reckon. -/
inductive PO where
  | mv (x : X)
  | pick (c a b : X)
  | build (z : List AV) (ps : List (Nat × Nat × X))
  | nilck (x : X)
  | bin (op : BinOp) (x y : X)
  | shf (op : BinOp) (x y : X)
  | sbin (op : BinOp) (x y : X)
  | eqc (neg : Bool) (g : Bool) (lay : List Lay) (x y : X)
  | isnil (k : Nat) (neg : Bool) (x : X)
  | not (x : X)
  | neg (x : X)
  | faddr (o : Nat) (x : X)
  | fld (o : Nat) (n : Option Nat) (x : X)
  | ixS (z : Nat) (x i : X)
  | ixA (z len : Nat) (x i : X)
  | ixStr (x i : X)
  | ixArr (z len : Nat) (a : Bool) (x i : X)
  | mkfn (f : Fn) (a b : List X)
  | mkif (t : Nat) (x : X)
  | ext (i : Nat) (x : X)
  | slStr (x : X) (lo hi : Option X)
  | slV (z : Nat) (x : X) (lo hi mx : Option X)
  | cvI (k : IntKind) (x : X)
  | lenS (x : X)
  | lenV (x : X)
  | idS (x : X)
  | cap (x : X)
  | minI (x y : X)
  | maxI (x y : X)
  | ntm
  deriving Inhabited

/-- Operations that read. -/
inductive RO where
  | ld1 (x : X)
  | ldn (n : Nat) (x : X)
  | lkup (g : Bool) (lay : List Lay) (z : AV) (ok : Bool) (m k : X)
  | lenM (x : X)
  | entry (x : X)
  | b2s (x : X)
  | slA (n z : Nat) (x : X) (lo hi mx : Option X)
  deriving Inhabited

/-- Operations that lay a block. -/
inductive LO where
  | alloc (e : Nat) (z : List AV)
  | box (e : Nat) (x : X)
  | bsl (e z : Nat) (cs : List AV) (len : Nat) (ps : List (Nat × Nat × X))
  | msl (e z b : Nat) (zero : List AV) (len cap : X)
  | mkmap
  | rngS (x : X)
  deriving Inhabited

/-- Operations that change what is there. -/
inductive VO where
  | asg (x : X)
  | st1 (x v : X)
  | stn (n : Nat) (x v : X)
  | mupd (g : Bool) (lay : List Lay) (m k v : X)
  | app (e z b : Nat) (s v : X)
  | clr (z : Nat) (zero : List AV) (x : X)
  | cpy (z : Nat) (d s : X)
  | del (g : Bool) (lay : List Lay) (m k : X)
  | rngM (x : X)
  | next (x : X) (s : Bool)
  | call (f : X) (as : List X)
  | panic (x : X)
  | defer (f : X) (as : List X)
  deriving Inhabited

inductive AOp where
  | p (o : PO) | q (o : RO) | a (o : LO) | v (o : VO)
  deriving Inhabited

/-- An operation of a region: its guard, where it puts, and which reads are looked at again behind it. -/
structure ROp where
  g : Option (P1 × Bool)
  d : Option P1
  op : AOp
  chk : List (Option (P1 × Bool) × RO × P1)
  deriving Inhabited

inductive ACode where
  | skip
  | reg (ops : List ROp)
  | seq (a b : ACode)
  | cond (c : X) (a b : ACode)
  | block (id : Nat) (a : ACode)
  | loop (a : ACode)
  | exit (id : Nat)
  | scope (a : ACode)
  | ret
  | rf (f : X) (ps : List P1) (a b : ACode)
  deriving Inhabited

/-- How code ends. -/
inductive AExit where
  | normal | exit (id : Nat) | ret | panic (v : AV)
  deriving Inhabited

/-- Whether a loop over a function's round may begin. -/
inductive LSt where
  | ready | busy | done | exhausted
  deriving Inhabited

/-- An abstract block. -/
inductive AObj where
  | cells (e : Nat) (cs : List AV) (fz : Nat) (ro : Bool)
  | mp (es : List (AV × AV × Nat)) (clock : Nat)
  | sit (s : List Nat) (pos : Nat)
  | mit (m : Option Nat) (since : Nat) (seen : List Nat) (last : Nat)
  | loop (st : LSt) (pend : Option AExit) (T : Tr AV) (ps : List P1) (a b : ACode) (df : Nat)
  | dfr (taken : Bool)
  deriving Inhabited

/-- A deferred call. -/
inductive ADef where
  | call (f : AV) (as : List AV)
  | coll (l : Nat)
  deriving Inhabited

/-- A frame's place: its temporaries, its deferred calls; and the heap, with its next label. -/
structure St where
  T : Tr AV
  D : List ADef
  H : Tr AObj
  nx : Nat
  /-- is it a round of a loop over a function? -/
  rd : Bool
  deriving Inhabited

/-- What a function hands back. -/
inductive ARet where
  | ret (v : AV) | pan (v : AV)
  deriving Inhabited

structure AFn where
  body : ACode
  nt : Nat
  /-- each result: a temporary, or a cell behind one: of how many cells, if it is a struct or an array -/
  res : List (P1 × Option (Option Nat))
  deriving Inhabited

/-- Answers of a run: a truth, or something else that truths can be told of. -/
class Ans (ρ : Type) where
  fail : ρ
  both : ρ → ρ → ρ
  holds : ρ → Prop
  holds_both : ∀ a b, holds (both a b) → holds a ∧ holds b
  not_fail : ¬ holds fail

noncomputable instance : Ans Bool := ⟨false, fun a b => Bool.rec false b a, (· = true), fun a b h => by cases a <;> simp_all, by simp⟩

noncomputable section
section lists
variable {α : Type}
def getL (l : List α) : Nat → Option α :=
  List.rec (motive := fun _ => Nat → Option α) (fun _ => none) (fun x _ ih n => Nat.rec (motive := fun _ => Option α) (some x) (fun m _ => ih m) n) l
def setL (l : List α) : Nat → α → List α :=
  List.rec (motive := fun _ => Nat → α → List α) (fun _ _ => []) (fun x xs ih n v => Nat.rec (motive := fun _ => List α) (v :: xs) (fun m _ => x :: ih m v) n) l
def dropL (n : Nat) : List α → List α :=
  Nat.rec (motive := fun _ => List α → List α) (fun l => l) (fun _ ih l => List.casesOn l [] fun _ xs => ih xs) n
/-- The first so many, if there are as many. -/
def takeL (n : Nat) : List α → Option (List α) :=
  Nat.rec (motive := fun _ => List α → Option (List α)) (fun _ => some [])
    (fun _ ih l => List.casesOn l none fun x xs => Option.casesOn (ih xs) none fun ys => some (x :: ys)) n
def appL (a b : List α) : List α := List.rec b (fun x _ ih => x :: ih) a
def lenL (a : List α) : Nat := List.rec 0 (fun _ _ ih => Nat.succ ih) a
/-- Lays some over a list from a place on; nothing, if they don't fit. -/
def overL (vs : List α) (n : Nat) : List α → Option (List α) :=
  Nat.rec (motive := fun _ => List α → Option (List α))
    (List.rec (motive := fun _ => List α → Option (List α)) (fun l => some l)
      (fun v _ ih l => List.casesOn l none fun _ xs => Option.casesOn (ih xs) none fun ys => some (v :: ys)) vs)
    (fun _ ih l => List.casesOn l none fun x xs => Option.casesOn (ih xs) none fun ys => some (x :: ys)) n
/-- Lays some behind the first so many; what stood there is gone where they reach. -/
def replL (n : Nat) (x : α) : List α := Nat.rec [] (fun _ ih => x :: ih) n
def mapL {β : Type} (f : α → β) (l : List α) : List β := List.rec [] (fun x _ ih => f x :: ih) l
end lists

/-! ## Numbers -/

def ilt (a b : Int) : Bool :=
  Int.casesOn a (fun m => Int.casesOn b (fun n => Nat.blt m n) fun _ => false) fun m => Int.casesOn b (fun _ => true) fun n => Nat.blt n m
def ieq (a b : Int) : Bool :=
  Int.casesOn a (fun m => Int.casesOn b (fun n => Nat.beq m n) fun _ => false) fun m => Int.casesOn b (fun _ => false) fun n => Nat.beq m n
def bnot (b : Bool) : Bool := Bool.rec true false b
def band (a b : Bool) : Bool := Bool.rec false b a

def maxPos (k : IntKind) : Nat := match k with
  | .i8 => 127 | .i16 => 32767 | .i32 => 2147483647 | .i64 => 9223372036854775807
  | .u8 => 255 | .u16 => 65535 | .u32 => 4294967295 | .u64 => 18446744073709551615
def maxNeg (k : IntKind) : Nat := match k with
  | .i8 => 128 | .i16 => 32768 | .i32 => 2147483648 | .i64 => 9223372036854775808
  | _ => 0
/-- A number gone round. -/
def wrapF (k : IntKind) (n : Int) : Int :=
  Int.casesOn n (fun m => Bool.casesOn (Nat.ble m (maxPos k)) (k.wrap n) n) fun m => Bool.casesOn (Nat.blt m (maxNeg k)) (k.wrap n) n

def bitsOf (k : IntKind) : Nat := match k with
  | .i8 | .u8 => 8 | .i16 | .u16 => 16 | .i32 | .u32 => 32 | .i64 | .u64 => 64

def kindEq (a b : IntKind) : Bool := match a, b with
  | .i8, .i8 | .i16, .i16 | .i32, .i32 | .i64, .i64 | .u8, .u8 | .u16, .u16 | .u32, .u32 | .u64, .u64 => true
  | _, _ => false

def bit2 (k : IntKind) (f : Nat → Nat → Nat) (x y : Int) : Option AV :=
  Int.casesOn x (fun a => Int.casesOn y (fun b => some (.int k (wrapF k (.ofNat (f a b))))) fun _ => none) fun _ => none

/-- An operation on two integers of one kind. -/
def binI (op : BinOp) (k : IntKind) (x y : Int) : Option AV :=
  match op with
  | .add => some (.int k (wrapF k (Int.add x y)))
  | .sub => some (.int k (wrapF k (Int.add x (Int.neg y))))
  | .mul => some (.int k (wrapF k (Int.mul x y)))
  | .quo => Bool.casesOn (ieq y (.ofNat 0)) (some (.int k (wrapF k (Int.tdiv x y)))) none
  | .rem => Bool.casesOn (ieq y (.ofNat 0)) (some (.int k (Int.tmod x y))) none
  | .and => bit2 k Nat.land x y
  | .or => bit2 k Nat.lor x y
  | .xor => bit2 k Nat.xor x y
  | .eql => some (.bool (ieq x y))
  | .neq => some (.bool (bnot (ieq x y)))
  | .lss => some (.bool (ilt x y))
  | .leq => some (.bool (bnot (ilt y x)))
  | .gtr => some (.bool (ilt y x))
  | .geq => some (.bool (bnot (ilt x y)))
  | _ => none

/-- A shift. -/
def shfI (op : BinOp) (k : IntKind) (x y : Int) : Option AV :=
  Int.casesOn x (fun a => Int.casesOn y (fun b =>
    match op with
    | .shl => some (.int k (wrapF k (.ofNat (Nat.shiftLeft a (Nat.min b (bitsOf k))))))
    | .shr => some (.int k (.ofNat (Nat.shiftRight a (Nat.min b (bitsOf k)))))
    | _ => none) fun _ => none) fun _ => none

/-! ## Texts -/

def streq (a : List Nat) : List Nat → Bool :=
  List.rec (motive := fun _ => List Nat → Bool) (fun b => List.casesOn b true fun _ _ => false)
    (fun x _ ih b => List.casesOn b false fun y ys => Bool.rec false (ih ys) (Nat.beq x y)) a
def strlt (a : List Nat) : List Nat → Bool :=
  List.rec (motive := fun _ => List Nat → Bool) (fun b => List.casesOn b false fun _ _ => true)
    (fun x _ ih b => List.casesOn b false fun y ys => Bool.rec (Bool.rec false (ih ys) (Nat.beq x y)) true (Nat.blt x y)) a

def binS (op : BinOp) (x y : List Nat) : Option AV :=
  match op with
  | .add => Bool.casesOn (Nat.blt (lenL x) 4611686018427387904) none (Bool.casesOn (Nat.blt (lenL y) 4611686018427387904) none (some (.str (appL x y))))
  | .eql => some (.bool (streq x y))
  | .neq => some (.bool (bnot (streq x y)))
  | .lss => some (.bool (strlt x y))
  | .gtr => some (.bool (strlt y x))
  | .leq => some (.bool (bnot (strlt y x)))
  | .geq => some (.bool (bnot (strlt x y)))
  | _ => none

/-! ## Values -/

def AV.cells (v : AV) : List AV := match v with | .agg cs => cs | v => [v]
/-- Is it the value of one cell? -/
def AV.cell (v : AV) : Bool := match v with | .agg _ | .tup _ => false | _ => true
def allCell (l : List AV) : Bool := List.rec true (fun v _ ih => Bool.rec false ih v.cell) l

/-- Are two cells of comparable types the same? nothing: that can't be told. -/
def eqCell (y : Lay) (a b : AV) : Option Bool :=
  match y, a, b with
  | .i, .int j m, .int k n => Bool.casesOn (kindEq j k) none (some (ieq m n))
  | .s, .str m, .str n => some (streq m n)
  | .b, .bool m, .bool n => some (Bool.rec (bnot n) n m)
  | _, _, _ => none
def eqCells (ys : List Lay) : List AV → List AV → Option Bool :=
  List.rec (motive := fun _ => List AV → List AV → Option Bool)
    (fun a b => List.casesOn a (List.casesOn b (some true) fun _ _ => none) fun _ _ => none)
    (fun y _ ih a b => List.casesOn a none fun u us => List.casesOn b none fun v vs =>
      Option.casesOn (eqCell y u v) none fun r => Option.casesOn (ih us vs) none fun s => some (band r s)) ys

/-- The cells of a value of a struct, or of another type. -/
def kc (g : Bool) (v : AV) : Option (List AV) := match g, v with
  | true, .agg cs => some cs
  | true, _ => none
  | false, .agg _ => none
  | false, v => some [v]
def keyOk (g : Bool) (lay : List Lay) (k : AV) : Bool := Option.casesOn (kc g k) false fun xs => Nat.beq (lenL xs) (lenL lay)
def eqK (g : Bool) (lay : List Lay) (a b : AV) : Option Bool :=
  Option.casesOn (kc g a) none fun xs => Option.casesOn (kc g b) none fun ys => eqCells lay xs ys

def ev (x : X) (T : Tr AV) : AV :=
  X.casesOn x (fun p => Option.casesOn (Tr.get p T) und fun v => v) fun v => v
def evL (xs : List X) (T : Tr AV) : List AV := mapL (fun x => ev x T) xs

/-- Lays parts. -/
def fillC (ps : List (Nat × Nat × X)) (T : Tr AV) : List AV → Option (List AV) :=
  List.rec (motive := fun _ => List AV → Option (List AV)) (fun cs => some cs)
    (fun p _ ih cs => Bool.casesOn (Nat.beq (lenL (ev p.2.2 T).cells) p.2.1) none (Option.casesOn (overL (ev p.2.2 T).cells p.1 cs) none fun cs' => ih cs')) ps

/-- A bound of a slice expression. -/
def bnd (x : Option X) (T : Tr AV) (dflt most : Nat) : Option Nat :=
  Option.casesOn x (some dflt) fun x => match ev x T with
    | .int _ (.ofNat n) => Bool.casesOn (Nat.ble n most) none (some n)
    | _ => none

def isNil (k : Nat) (v : AV) : Option Bool := match k, v with
  | 0, .nilp => some true
  | 0, .ptr _ _ => some false
  | 1, .nils => some true
  | 1, .slc _ _ _ _ _ _ _ => some false
  | 2, .nilm => some true
  | 2, .map _ => some false
  | 3, .nilf => some true
  | 3, .fn _ _ _ => some false
  | 4, .nili => some true
  | 4, .ifc _ _ => some false
  | _, _ => none

def sliceStr (s : List Nat) (lo hi : Option X) (T : Tr AV) : Option AV :=
  Option.casesOn (bnd hi T (lenL s) (lenL s)) none fun h => Option.casesOn (bnd lo T 0 h) none fun l =>
    Option.casesOn (takeL (Nat.sub h l) (dropL l s)) none fun r => some (.str r)
def sliceV (b o q n c : Nat) (x : Bool) (z : Nat) (lo hi mx : Option X) (T : Tr AV) : Option AV :=
  Option.casesOn mx
    (Option.casesOn (bnd hi T n c) none fun h => Option.casesOn (bnd lo T 0 h) none fun l =>
      Nat.casesOn l (some (.slc b o q h c x z)) fun l' =>
        Bool.casesOn (band (bnot x) (Nat.beq (Nat.succ l') c)) (some (.slc b (Nat.add o (Nat.mul (Nat.succ l') z)) o (Nat.sub h (Nat.succ l')) (Nat.sub c (Nat.succ l')) x z)) (some (.slc b o o 0 0 false z)))
    fun m => Option.casesOn hi none fun hi => Option.casesOn (bnd (some m) T c c) none fun m => Option.casesOn (bnd (some hi) T n m) none fun h => Option.casesOn (bnd lo T 0 h) none fun l =>
      Nat.casesOn l (some (.slc b o q h m false z)) fun l' =>
        Bool.casesOn (Nat.beq (Nat.succ l') m) (some (.slc b (Nat.add o (Nat.mul (Nat.succ l') z)) o (Nat.sub h (Nat.succ l')) (Nat.sub m (Nat.succ l')) false z)) (some (.slc b o o 0 0 false z))

def sliceN (lo hi mx : Option X) (T : Tr AV) : Option AV :=
  Option.casesOn mx (Option.casesOn (bnd hi T 0 0) none fun h => Option.casesOn (bnd lo T 0 h) none fun _ => some .nils)
    fun m => Option.casesOn hi none fun hi => Option.casesOn (bnd (some m) T 0 0) none fun m => Option.casesOn (bnd (some hi) T 0 m) none fun h => Option.casesOn (bnd lo T 0 h) none fun _ => some .nils

def pfl (o : Nat) (n : Option Nat) (v : AV) : Option AV := match v with
  | .agg cs => Option.casesOn n (getL cs o) fun n => Option.casesOn (takeL n (dropL o cs)) none fun r => some (.agg r)
  | _ => none

/-- What an operation that reckons comes to. -/
def pev (o : PO) (T : Tr AV) : Option AV := match o with
  | .mv x => some (ev x T)
  | .pick c a b => match ev c T with | .bool t => some (Bool.rec (ev b T) (ev a T) t) | _ => none
  | .build z ps => Option.casesOn (fillC ps T z) none fun cs => some (.agg cs)
  | .nilck x => match ev x T with | .nilp | .nilf | .nili => none | .fn (.func f) a b => some (.fn (.func f) a b) | .fn _ _ _ => none | v => some v
  | .bin op x y => match ev x T, ev y T with | .int k a, .int j b => Bool.casesOn (kindEq k j) none (binI op k a b) | _, _ => none
  | .shf op x y => match ev x T, ev y T with | .int k a, .int _ b => shfI op k a b | _, _ => none
  | .sbin op x y => match ev x T, ev y T with | .str a, .str b => binS op a b | _, _ => none
  | .eqc neg g lay x y => Option.casesOn (eqK g lay (ev x T) (ev y T)) none fun r => some (.bool (Bool.rec r (bnot r) neg))
  | .isnil k neg x => Option.casesOn (isNil k (ev x T)) none fun r => some (.bool (Bool.rec r (bnot r) neg))
  | .not x => match ev x T with | .bool b => some (.bool (bnot b)) | _ => none
  | .neg x => match ev x T with | .int k a => some (.int k (wrapF k (Int.neg a))) | _ => none
  | .faddr o x => match ev x T with | .ptr l p => some (.ptr l (Nat.add p o)) | _ => none
  | .fld o n x => pfl o n (ev x T)
  | .ixS z x i => match ev x T, ev i T with
    | .slc l o _ n _ _ y, .int _ (.ofNat k) => Bool.casesOn (band (Nat.blt k n) (Nat.beq y z)) none (some (.ptr l (Nat.add o (Nat.mul k z))))
    | _, _ => none
  | .ixA z len x i => match ev x T, ev i T with
    | .ptr l o, .int _ (.ofNat k) => Bool.casesOn (Nat.blt k len) none (some (.ptr l (Nat.add o (Nat.mul k z))))
    | _, _ => none
  | .ixStr x i => match ev x T, ev i T with
    | .str s, .int _ (.ofNat k) => Option.casesOn (getL s k) none fun b => some (.int .u8 (.ofNat b))
    | _, _ => none
  | .ixArr z len a x i => match ev i T with
    | .int _ (.ofNat k) => Bool.casesOn (Nat.blt k len) none (pfl (Nat.mul k z) (Bool.rec none (some z) a) (ev x T))
    | _ => none
  | .mkfn f a b => some (.fn f (evL a T) (evL b T))
  | .mkif t x => some (.ifc t (ev x T))
  | .ext i x => match ev x T with | .tup vs => getL vs i | _ => none
  | .slStr x lo hi => match ev x T with | .str s => sliceStr s lo hi T | _ => none
  | .slV z x lo hi mx => match ev x T with | .slc b o q n c y w => Bool.casesOn (Nat.beq w z) none (sliceV b o q n c y z lo hi mx T) | .nils => sliceN lo hi mx T | _ => none
  | .cvI k x => match ev x T with | .int _ a => some (.int k (wrapF k a)) | _ => none
  | .lenS x => match ev x T with | .str s => some (.int .i64 (.ofNat (lenL s))) | _ => none
  | .lenV x => match ev x T with | .slc _ _ _ n _ _ _ => some (.int .i64 (.ofNat n)) | .nils => some (.int .i64 (.ofNat 0)) | _ => none
  | .idS x => match ev x T with | .str s => some (.str s) | _ => none
  | .cap x => match ev x T with | .slc _ _ _ _ c false _ => some (.int .i64 (.ofNat c)) | .nils => some (.int .i64 (.ofNat 0)) | _ => none
  | .minI x y => match ev x T, ev y T with | .int k a, .int _ b => some (.int k (Bool.rec a b (ilt b a))) | _, _ => none
  | .maxI x y => match ev x T, ev y T with | .int k a, .int _ b => some (.int k (Bool.rec a b (ilt a b))) | _, _ => none
  | .ntm => some (.tup [])

def hget (H : Tr AObj) (l : Nat) : Option AObj := Tr.get (pathR l) H
def hset (H : Tr AObj) (l : Nat) (o : AObj) : Tr AObj := Tr.set (pathR l) (some o) H
def hdel (H : Tr AObj) (l : Nat) : Tr AObj := Tr.set (pathR l) none H

/-- The cells of a block from a place on. -/
def cellsAt (H : Tr AObj) (l o n : Nat) : Option (List AV) :=
  match hget H l with | some (.cells _ cs _ _) => takeL n (dropL o cs) | _ => none

/-- The place and the value of a key. -/
def findK (g : Bool) (lay : List Lay) (k : AV) (es : List (AV × AV × Nat)) : Nat → Option (Option (Nat × AV)) :=
  List.rec (motive := fun _ => Nat → Option (Option (Nat × AV))) (fun _ => some none)
    (fun e _ ih i => Option.casesOn (eqK g lay k e.1) none fun r => Bool.rec (ih (Nat.succ i)) (some (some (i, e.2.1))) r) es

def mapAt (H : Tr AObj) (v : AV) : Option (List (AV × AV × Nat)) := match v with
  | .nilm => some []
  | .map l => (match hget H l with | some (.mp es _) => some es | _ => none)
  | _ => none

def memN (x : Nat) (l : List Nat) : Bool := List.rec false (fun y _ ih => Bool.rec ih true (Nat.beq x y)) l
def findB (x : Nat) (es : List (AV × AV × Nat)) : Option (AV × AV × Nat) := List.rec none (fun e _ ih => Bool.rec ih (some e) (Nat.beq e.2.2 x)) es
def lastL (l : List Nat) : Option Nat := List.rec none (fun x _ ih => Option.casesOn ih (some x) fun y => some y) l
def bytesOf (l : List AV) : Option (List Nat) :=
  List.rec (some []) (fun v _ ih => match v with | .int .u8 (.ofNat n) => Bool.casesOn (Nat.blt n 256) none (Option.casesOn ih none fun r => some (n :: r)) | _ => none) l

/-- What an operation that reads comes to. -/
def rev (o : RO) (T : Tr AV) (H : Tr AObj) : Option AV := match o with
  | .ld1 x => match ev x T with | .ptr l o => (match hget H l with | some (.cells _ cs _ _) => getL cs o | _ => none) | _ => none
  | .ldn n x => match ev x T with | .ptr l o => Option.casesOn (cellsAt H l o n) none fun cs => some (.agg cs) | _ => none
  | .lkup g lay z ok m k => Option.casesOn (mapAt H (ev m T)) none fun es => Bool.casesOn (keyOk g lay (ev k T)) none (Option.casesOn (findK g lay (ev k T) es 0) none fun r =>
      Option.casesOn r (some (Bool.rec z (.tup [z, .bool false]) ok)) fun p => some (Bool.rec p.2 (.tup [p.2, .bool true]) ok))
  | .lenM x => Option.casesOn (mapAt H (ev x T)) none fun es => some (.int .i64 (.ofNat (lenL es)))
  | .entry x => match ev x T with
    | .ptr l 0 => (match hget H l with
      | some (.mit (some m) _ seen last) => (match hget H m with
        | some (.mp es clock) => Bool.casesOn (Nat.beq clock last) none (Option.casesOn (lastL seen) none fun s => Option.casesOn (findB s es) none fun e => some (.tup [e.1, e.2.1]))
        | _ => none)
      | _ => none)
    | _ => none
  | .b2s x => match ev x T with
    | .nils => some (.str [])
    | .slc l o _ n _ _ 1 => Option.casesOn (cellsAt H l o n) none fun cs => Option.casesOn (bytesOf cs) none fun s => some (.str s)
    | _ => none
  | .slA n z x lo hi mx => match ev x T with
    | .ptr b o => (match hget H b with
      | some (.cells _ cs _ _) => Bool.casesOn (Nat.ble (Nat.add o (Nat.mul n z)) (lenL cs)) none (sliceV b o o n n false z lo hi mx T)
      | _ => none)
    | _ => none

/-- So many copies, one behind the other. -/
def copies (n : Nat) (z : List AV) : List AV := Nat.rec [] (fun _ ih => appL z ih) n

/-- What an operation that lays a block lays, and comes to, at a label. -/
def aev (o : LO) (T : Tr AV) (L : Nat) : Option (AObj × AV) := match o with
  | .alloc e z => some (.cells e z 0 false, .ptr L 0)
  | .box e x => some (.cells e (ev x T).cells 0 false, .ptr L 0)
  | .bsl e z cs len ps => Option.casesOn (fillC ps T cs) none fun cs' => some (.cells e cs' 0 false, .slc L 0 0 len len false z)
  | .msl e z b zero len cap => match ev len T, ev cap T with
    | .int _ (.ofNat n), .int _ (.ofNat c) => Bool.casesOn (band (Nat.ble n c) (band (Nat.ble c 1048576) (Nat.ble (Nat.mul c b) 1048576))) none (some (.cells e (copies c zero) 0 false, .slc L 0 0 n c false z))
    | _, _ => none
  | .mkmap => some (.mp [] 0, .map L)
  | .rngS x => match ev x T with | .str s => some (.sit s 0, .ptr L 0) | _ => none

section run
variable {ρ : Type} [Ans ρ]

/-- Of a function by its number: its code. -/
abbrev FT := Nat → Option AFn
/-- How a function that is not walked into answers: at its arguments, the heap, its next label. -/
abbrev Hook := Nat → List AV → Tr AObj → Nat → Option AV

def putT (d : Option P1) (v : AV) (T : Tr AV) : Tr AV := Option.casesOn d T fun p => Tr.set p (some v) T

def storeAt (l o : Nat) (vs : List AV) (st : St) (k : St → ρ) : ρ :=
  match hget st.H l with
  | some (.cells e cs fz false) => Bool.casesOn (band (Nat.ble fz o) (allCell vs)) Ans.fail
      (Option.casesOn (overL vs o cs) Ans.fail fun cs' => k ⟨st.T, st.D, hset st.H l (.cells e cs' fz false), st.nx, st.rd⟩)
  | _ => Ans.fail

/-- Cells that are appended. -/
def appCells (z : Nat) (v : AV) (H : Tr AObj) : Option (List AV) := match v with
  | .nils => some []
  | .str s => Bool.casesOn (Nat.beq z 1) none (some (mapL (fun b => .int .u8 (.ofNat b)) s))
  | .slc l o _ n _ _ y => Bool.casesOn (Nat.beq y z) none (cellsAt H l o (Nat.mul n z))
  | _ => none
def lenV (v : AV) : Nat := match v with | .str s => lenL s | .slc _ _ _ n _ _ _ => n | _ => 0

def appNew (e z b need : Nat) (cs : List AV) (st : St) (k : AV → St → ρ) : ρ :=
  Bool.casesOn (Nat.ble (Nat.mul need (Nat.succ b)) 16777216) Ans.fail
    (k (.slc st.nx 0 0 need need true z) ⟨st.T, st.D, hset st.H st.nx (.cells e cs 0 false), Nat.succ st.nx, st.rd⟩)
def appSame (l o q n c : Nat) (x : Bool) (z : Nat) (m : Nat) (vs : List AV) (st : St) (k : AV → St → ρ) : ρ :=
  storeAt l (Nat.add o (Nat.mul n z)) vs st fun st => k (.slc l o q (Nat.add n m) c x z) st
def appGrow (e z b : Nat) (l o n : Nat) (m : Nat) (vs : List AV) (x : Bool) (st : St) (k : AV → St → ρ) : ρ :=
  match hget st.H l with
  | some (.cells e₀ cs fz ro) => Option.casesOn (takeL (Nat.mul n z) (dropL o cs)) Ans.fail fun old =>
      Bool.casesOn x
        (appNew e z b (Nat.add n m) (appL old vs) st k)
        (Bool.casesOn (band (band (Nat.beq e₀ e) (bnot ro)) (band (Nat.ble fz o) (allCell vs))) Ans.fail
          (appNew e z b (Nat.add n m) (appL old vs) ⟨st.T, st.D, hdel st.H l, st.nx, st.rd⟩ k))
  | _ => Ans.fail
/-- An append. -/
def appV (e z b : Nat) (s v : AV) (st : St) (k : AV → St → ρ) : ρ :=
  Option.casesOn (appCells z v st.H) Ans.fail fun vs =>
    match s with
    | .nils => Nat.casesOn (lenV v) (k .nils st) fun m => appNew e z b (Nat.succ m) vs st k
    | .slc l o q n c x y => Bool.casesOn (Nat.beq y z) Ans.fail
        (Bool.casesOn (Nat.ble (Nat.add n (lenV v)) c) (appGrow e z b l o n (lenV v) vs x st k)
          (Nat.casesOn (lenV v) (k (.slc l o q n c x z) st) fun m => appSame l o q n c x z (Nat.succ m) vs st k))
    | _ => Ans.fail

/-- The entries that a round over a map may come to, and whether it may end. -/
def leftOf (es : List (AV × AV × Nat)) (seen : List Nat) : List (AV × AV × Nat) :=
  List.rec [] (fun e _ ih => Bool.rec (e :: ih) ih (memN e.2.2 seen)) es
def allOld (es : List (AV × AV × Nat)) (b : Nat) : Bool := List.rec true (fun e _ ih => Bool.rec false ih (Nat.blt e.2.2 b)) es
def nextM (l : Nat) (m : Option Nat) (since : Nat) (seen : List Nat) (last : Nat) (st : St) (k : AV → St → ρ) : ρ :=
  Option.casesOn m (k (.tup [.bool false]) st) fun m =>
    match hget st.H m with
    | some (.mp es clock) =>
      Bool.casesOn (band (allOld es since) (Nat.ble since last)) Ans.fail
        (List.casesOn (leftOf es seen) (k (.tup [.bool false]) st) fun e rest =>
          let go := fun (e : AV × AV × Nat) => k (.tup [.bool true, e.1, e.2.1]) ⟨st.T, st.D, hset st.H l (.mit (some m) since (appL seen [e.2.2]) clock), st.nx, st.rd⟩
          List.rec (motive := fun _ => (AV × AV × Nat) → ρ) (fun e => go e) (fun e' _ ih e => Ans.both (go e) (ih e')) rest e)
    | _ => Ans.fail

/-- A rune of a text, and how many bytes it has. -/
def decR (s : List Nat) : Option (Nat × Nat) :=
  List.casesOn s none fun a _ => Bool.casesOn (Nat.blt a 128) none (some (a, 1))

def nextV (v : AV) (s : Bool) (st : St) (k : AV → St → ρ) : ρ :=
  match v with
  | .ptr l 0 => (match hget st.H l, s with
    | some (.sit s pos), true => List.casesOn (dropL pos s) (k (.tup [.bool false]) st) fun a r =>
        Option.casesOn (decR (a :: r)) Ans.fail fun p =>
          k (.tup [.bool true, .int .i64 (.ofNat pos), .int .i32 (.ofNat p.1)]) ⟨st.T, st.D, hset st.H l (.sit s (Nat.add pos p.2)), st.nx, st.rd⟩
    | some (.mit m since seen last), false => nextM l m since seen last st k
    | _, _ => Ans.fail)
  | _ => Ans.fail

def eraseL {α : Type} (l : List α) : Nat → List α :=
  List.rec (motive := fun _ => Nat → List α) (fun _ => []) (fun x xs ih n => Nat.rec (motive := fun _ => List α) xs (fun m _ => x :: ih m) n) l

def mupdV (g : Bool) (lay : List Lay) (m k v : AV) (st : St) (kk : St → ρ) : ρ :=
  Bool.casesOn (keyOk g lay k) Ans.fail <| match m with
  | .map l => (match hget st.H l with
    | some (.mp es clock) => Option.casesOn (findK g lay k es 0) Ans.fail fun r =>
        Option.casesOn r (kk ⟨st.T, st.D, hset st.H l (.mp (appL es [(k, v, clock)]) (Nat.succ clock)), st.nx, st.rd⟩) fun p =>
          Option.casesOn (getL es p.1) Ans.fail fun e => kk ⟨st.T, st.D, hset st.H l (.mp (setL es p.1 (k, v, e.2.2)) clock), st.nx, st.rd⟩
    | _ => Ans.fail)
  | _ => Ans.fail
def delV (g : Bool) (lay : List Lay) (m k : AV) (st : St) (kk : St → ρ) : ρ :=
  Bool.casesOn (keyOk g lay k) Ans.fail <| match m with
  | .nilm => kk st
  | .map l => (match hget st.H l with
    | some (.mp es clock) => Option.casesOn (findK g lay k es 0) Ans.fail fun r =>
        Option.casesOn r (kk st) fun p => kk ⟨st.T, st.D, hset st.H l (.mp (eraseL es p.1) clock), st.nx, st.rd⟩
    | _ => Ans.fail)
  | _ => Ans.fail

/-- The answer of an operation: a value, or a panic. -/
inductive ONext where
  | val (v : AV) | pan (v : AV)

abbrev CallF (ρ : Type) := Nat → List AV → Tr AObj → Nat → (ARet → Tr AObj → Nat → ρ) → ρ
abbrev YieldF (ρ : Type) := Nat → List AV → Tr AObj → Nat → (ARet → Tr AObj → Nat → ρ) → ρ

def afterCall (st : St) (k : ONext → St → ρ) (r : ARet) (H : Tr AObj) (nx : Nat) : ρ :=
  match r with
  | .ret v => k (.val v) ⟨st.T, st.D, H, nx, st.rd⟩
  | .pan v => k (.pan v) ⟨st.T, st.D, H, nx, st.rd⟩
def callV (cf : CallF ρ) (yf : YieldF ρ) (f : AV) (as : List AV) (st : St) (k : ONext → St → ρ) : ρ :=
  match f with
  | .fn (.func g) a b => cf g (appL a (appL as b)) st.H st.nx (afterCall st k)
  | .fn (.yield l) a _ => List.casesOn a (yf l as st.H st.nx (afterCall st k)) fun _ _ => Ans.fail
  | _ => Ans.fail

/-- What an operation that changes something does. -/
def vev (cf : CallF ρ) (yf : YieldF ρ) (o : VO) (st : St) (k : ONext → St → ρ) : ρ := match o with
  | .asg x => k (.val (ev x st.T)) st
  | .st1 x v => match ev x st.T with | .ptr l o => storeAt l o [ev v st.T] st (k (.val und)) | _ => Ans.fail
  | .stn n x v => match ev x st.T with
    | .ptr l o => (match ev v st.T with | .agg cs => Bool.casesOn (Nat.beq (lenL cs) n) Ans.fail (storeAt l o cs st (k (.val und))) | _ => Ans.fail)
    | _ => Ans.fail
  | .mupd g lay m kx v => mupdV g lay (ev m st.T) (ev kx st.T) (ev v st.T) st (k (.val und))
  | .app e z b s v => appV e z b (ev s st.T) (ev v st.T) st fun v => k (.val v)
  | .clr z zero x => match ev x st.T with
    | .nils => k (.val (.tup [])) st
    | .slc l o _ n _ _ y => Bool.casesOn (Nat.beq y z) Ans.fail (Nat.casesOn n (k (.val (.tup [])) st) fun n => storeAt l o (copies (Nat.succ n) zero) st (k (.val (.tup []))))
    | _ => Ans.fail
  | .cpy _ _ _ => Ans.fail
  | .del g lay m kx => delV g lay (ev m st.T) (ev kx st.T) st (k (.val (.tup [])))
  | .rngM x => match ev x st.T with
    | .nilm => k (.val (.ptr st.nx 0)) ⟨st.T, st.D, hset st.H st.nx (.mit none 0 [] 0), Nat.succ st.nx, st.rd⟩
    | .map m => (match hget st.H m with
      | some (.mp _ clock) => k (.val (.ptr st.nx 0)) ⟨st.T, st.D, hset st.H st.nx (.mit (some m) clock [] clock), Nat.succ st.nx, st.rd⟩
      | _ => Ans.fail)
    | _ => Ans.fail
  | .next x s => nextV (ev x st.T) s st fun v => k (.val v)
  | .call f as => callV cf yf (ev f st.T) (evL as st.T) st k
  | .panic x => match ev x st.T with | .ifc t v => k (.pan (.ifc t v)) st | _ => Ans.fail
  | .defer _ _ => Ans.fail

/-- Is an operation wanted? -/
def wanted (g : Option (P1 × Bool)) (T : Tr AV) : Bool :=
  Option.casesOn g true fun p => match Tr.get p.1 T with | some (.bool b) => Bool.rec (bnot p.2) p.2 b | _ => false

/-- Equality of what was read twice. -/
def same0 (a b : AV) : Bool := match a, b with
  | .bool x, .bool y => Bool.rec (bnot y) y x
  | .int j x, .int k y => band (kindEq j k) (ieq x y)
  | .tok j x, .tok k y => band (kindEq j k) (Nat.beq x y)
  | .str x, .str y => streq x y
  | .ptr l o, .ptr m p => band (Nat.beq l m) (Nat.beq o p)
  | .nilp, .nilp | .nils, .nils | .nilm, .nilm | .nilf, .nilf | .nili, .nili => true
  | .map l, .map m => Nat.beq l m
  | .slc l o q n c x z, .slc l' o' q' n' c' x' z' => band (Nat.beq l l') (band (Nat.beq o o') (band (Nat.beq q q') (band (Nat.beq n n') (band (Nat.beq c c') (band (Bool.rec (bnot x') x' x) (Nat.beq z z'))))))
  | _, _ => false
def allSame (f : AV → AV → Bool) (a : List AV) : List AV → Bool :=
  List.rec (motive := fun _ => List AV → Bool) (fun b => List.casesOn b true fun _ _ => false) (fun x _ ih b => List.casesOn b false fun y ys => Bool.rec false (ih ys) (f x y)) a
def same1 (a b : AV) : Bool := match a, b with
  | .ifc t x, .ifc u y => band (Nat.beq t u) (same0 x y)
  | a, b => same0 a b
def same2 (a b : AV) : Bool := match a, b with
  | .agg x, .agg y => allSame same1 x y
  | .tup x, .tup y => allSame same1 x y
  | a, b => same1 a b

/-- Do reads that may come behind, too, come to what they came to? -/
def checked (l : List (Option (P1 × Bool) × RO × P1)) (T : Tr AV) (H : Tr AObj) : Bool :=
  List.rec true (fun c _ ih => Bool.rec false ih (Bool.rec true (match rev c.2.1 T H, Tr.get c.2.2 T with | some a, some b => same2 a b | _, _ => false) (wanted c.1 T))) l

def opStep (cf : CallF ρ) (yf : YieldF ρ) (kp : AV → St → ρ) (o : ROp) (ih : St → (St → ρ) → ρ) (st : St) (k : St → ρ) : ρ :=
  Bool.rec (ih ⟨putT o.d und st.T, st.D, st.H, st.nx, st.rd⟩ k)
    (match o.op with
      | .p op => Option.casesOn (pev op st.T) Ans.fail fun v => ih ⟨putT o.d v st.T, st.D, st.H, st.nx, st.rd⟩ k
      | .q op => Option.casesOn (rev op st.T st.H) Ans.fail fun v => ih ⟨putT o.d v st.T, st.D, st.H, st.nx, st.rd⟩ k
      | .a op => Option.casesOn (aev op st.T st.nx) Ans.fail fun p => ih ⟨putT o.d p.2 st.T, st.D, hset st.H st.nx p.1, Nat.succ st.nx, st.rd⟩ k
      | .v op => vev cf yf op st fun r st => match r with
        | .val v => (fun T => List.casesOn o.chk (ih ⟨T, st.D, st.H, st.nx, st.rd⟩ k) fun _ _ => Bool.rec Ans.fail (ih ⟨T, st.D, st.H, st.nx, st.rd⟩ k) (checked o.chk T st.H)) (putT o.d v st.T)
        | .pan v => kp v st)
    (wanted o.g st.T)

def runOps (cf : CallF ρ) (yf : YieldF ρ) (kp : AV → St → ρ) (ops : List ROp) : St → (St → ρ) → ρ :=
  List.rec (motive := fun _ => St → (St → ρ) → ρ) (fun st k => k st) (fun o _ ih => opStep cf yf kp o ih) ops

abbrev Kont (ρ : Type) := AExit → St → ρ
abbrev RunF (ρ : Type) := ACode → St → Kont ρ → ρ

def kSeq (run : RunF ρ) (b : ACode) (K : Kont ρ) (e : AExit) (st : St) : ρ := match e with
  | .normal => run b st K
  | e => K e st
def kBlock (id : Nat) (K : Kont ρ) (e : AExit) (st : St) : ρ := match e with
  | .exit j => Bool.rec (K (.exit j) st) (K .normal st) (Nat.beq j id)
  | e => K e st
def rCond (run : RunF ρ) (c : X) (a b : ACode) (st : St) (K : Kont ρ) : ρ :=
  match ev c st.T with | .bool t => Bool.rec (run b st K) (run a st K) t | _ => Ans.fail

/-- The results. -/
def res1 (r : P1 × Option (Option Nat)) (st : St) : Option AV :=
  Option.casesOn r.2 (some (ev (.t r.1) st.T)) fun n => Option.casesOn n (rev (.ld1 (.t r.1)) st.T st.H) fun n => rev (.ldn n (.t r.1)) st.T st.H
def resL (rs : List (P1 × Option (Option Nat))) (st : St) : Option (List AV) :=
  List.rec (some []) (fun r _ ih => Option.casesOn (res1 r st) none fun v => Option.casesOn ih none fun vs => some (v :: vs)) rs
def resV (rs : List (P1 × Option (Option Nat))) (st : St) : Option AV :=
  Option.casesOn (resL rs st) none fun vs => some (List.casesOn vs (.tup []) fun v r => List.casesOn r v fun _ _ => .tup vs)

def argsT (as : List AV) : Nat → Tr AV → Tr AV :=
  List.rec (motive := fun _ => Nat → Tr AV → Tr AV) (fun _ T => T) (fun v _ ih n T => ih (Nat.succ n) (Tr.set (pathR n) (some v) T)) as

def takenD (D : List ADef) (H : Tr AObj) : Option (Tr AObj) :=
  List.rec (motive := fun _ => Tr AObj → Option (Tr AObj)) (fun H => some H)
    (fun d _ ih H => match d with
      | .coll l => (match hget H l with | some (.dfr false) => ih (hset H l (.dfr true)) | _ => none)
      | .call _ _ => none) D H

def finish (fn : AFn) (st : St) (k : ARet → Tr AObj → Nat → ρ) : ρ :=
  Option.casesOn (takenD st.D st.H) Ans.fail fun H =>
    Option.casesOn (resV fn.res ⟨st.T, [], H, st.nx, st.rd⟩) Ans.fail fun v => k (.ret v) H st.nx

def callF (run : RunF ρ) (ft : FT) (hk : Hook) (g : Nat) (as : List AV) (H : Tr AObj) (nx : Nat) (k : ARet → Tr AObj → Nat → ρ) : ρ :=
  Option.casesOn (hk g as H nx)
    (Option.casesOn (ft g) Ans.fail fun fn =>
      run fn.body ⟨argsT as 0 .e, [], H, nx, false⟩ fun e st => match e with
        | .normal => finish fn st k
        | .ret => finish fn st k
        | .panic v => List.casesOn st.D (k (.pan v) st.H st.nx) fun _ _ => Ans.fail
        | _ => Ans.fail)
    fun v => k (.ret v) H nx

def putPs (ps : List P1) : List AV → Tr AV → Option (Tr AV) :=
  List.rec (motive := fun _ => List AV → Tr AV → Option (Tr AV)) (fun as T => List.casesOn as (some T) fun _ _ => none)
    (fun p _ ih as T => List.casesOn as none fun a as => ih as (Tr.set p (some a) T)) ps

/-- The end of a round. -/
def endRound (l : Nat) (jump : Option AExit) (st : St) (k : ARet → Tr AObj → Nat → ρ) : ρ :=
  List.casesOn st.D
    (match hget st.H l with
      | some (.loop _ _ T ps a b df) =>
        k (.ret (.bool (Option.casesOn jump true fun _ => false))) (hset st.H l (.loop (Option.casesOn jump .ready fun _ => .done) jump T ps a b df)) st.nx
      | _ => Ans.fail)
    fun _ _ => Ans.fail
/-- A round: a call of the function that a loop hands out. -/
def yieldF (run : RunF ρ) (l : Nat) (as : List AV) (H : Tr AObj) (nx : Nat) (k : ARet → Tr AObj → Nat → ρ) : ρ :=
  match hget H l with
  | some (.loop _ _ T ps a b _) => Option.casesOn (putPs ps as T) Ans.fail fun T =>
      run a ⟨T, [], H, nx, true⟩ fun e st => match e with
        | .normal => (match hget st.H l with
          | some (.loop .ready pend T ps a' b' df) =>
            run b ⟨st.T, st.D, hset st.H l (.loop .busy pend T ps a' b' df), st.nx, st.rd⟩ fun e st => match e with
              | .normal => endRound l none st k
              | .ret => endRound l (some .ret) st k
              | .exit i => endRound l (some (.exit i)) st k
              | .panic _ => Ans.fail
          | _ => Ans.fail)
        | _ => Ans.fail
  | _ => Ans.fail

/-- A loop over a function. -/
def rRf (cf : CallF ρ) (f : X) (ps : List P1) (a b : ACode) (st : St) (K : Kont ρ) : ρ :=
  match ev f st.T, st.rd with
  | .fn (.func g) x y, false =>
    cf g (appL x (appL [.fn (.yield (Nat.succ st.nx)) [] []] y))
      (hset (hset st.H st.nx (.dfr false)) (Nat.succ st.nx) (.loop .ready none st.T ps a b st.nx)) (Nat.succ (Nat.succ st.nx))
      fun r H nx => match r with
        | .ret _ => (match hget H (Nat.succ st.nx) with
          | some (.loop .busy _ _ _ _ _ _) => Ans.fail
          | some (.loop _ pend T ps a b df) =>
            K (Option.casesOn pend .normal fun e => e) ⟨st.T, .coll st.nx :: st.D, hset H (Nat.succ st.nx) (.loop .exhausted pend T ps a b df), nx, st.rd⟩
          | _ => Ans.fail)
        | .pan _ => Ans.fail
  | _, _ => Ans.fail

def runStep (ft : FT) (hk : Hook) (run : RunF ρ) (c : ACode) (st : St) (K : Kont ρ) : ρ := match c with
  | .skip => K .normal st
  | .reg ops => runOps (callF run ft hk) (yieldF run) (fun v st => K (.panic v) st) ops st (K .normal)
  | .seq a b => run a st (kSeq run b K)
  | .cond c a b => rCond run c a b st K
  | .block id a => run a st (kBlock id K)
  | .loop a => run a st (kSeq run (.loop a) K)
  | .exit id => K (.exit id) st
  | .scope a => run a st K
  | .ret => K .ret st
  | .rf f ps a b => rRf (callF run ft hk) f ps a b st K

def run (ft : FT) (hk : Hook) (n : Nat) : RunF ρ :=
  Nat.rec (motive := fun _ => RunF ρ) (fun _ _ _ => Ans.fail) (fun _ ih => runStep ft hk ih) n

def call (ft : FT) (hk : Hook) (n : Nat) : CallF ρ := callF (run ft hk n) ft hk

end run
end
end Go.Ax
