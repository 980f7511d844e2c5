/- A small evaluator over abstract values: definitions alone (no program of the repository in it). Its soundness is proved in the texts that import it. -/
import Derived.WalkKit
namespace Go.Ev
open Go

/-- Flags of an immutable slice: is it nil; does it lie in an owner's memory for a time; does its capacity end with its length. -/
structure SM where
  z : Bool
  b : Bool
  c : Bool

/-- Abstract values. -/
inductive AV where
  | un
  | bool (b : Bool)
  | int (k : IntKind) (n : Int)
  | nilp
  | ptr (l b i : Nat)
  | ro (b : Bool) (cs : List AV)
  | sl (m : SM) (xs : List (List AV))
  | own (l b i n sz : Nat) (cl : Bool)
  | fn (f : Nat) (cap : List AV)
  | nilf
  | mp (l b : Nat)
  | yl (l b : Nat)
  | agg (cs : List AV)
  | tup (vs : List AV)

/-- The cells of a value that can be laid. -/
def AV.lay : AV → Option (List AV)
  | .un => none
  | .tup _ => none
  | .agg cs => some cs
  | v => some [v]

def nilS : AV := .sl ⟨true, false, true⟩ []

/-- Operands. -/
inductive Od where
  | t (n : Nat)
  | c (v : AV)

inductive EqK where
  | flat
  | slice
  | plain (ks : List (Option IntKind))
  | other

inductive Ins where
  | mv (x : Od)
  | pick (c a b : Od)
  | alloc (z : List AV)
  | box (x : Od)
  | build (z : List AV) (ps : List (Nat × Nat × Od))
  | bslice (sz len : Nat) (z : List AV) (ps : List (Nat × Nat × Od))
  | ld (g : Bool) (sz : Nat) (x : Od)
  | st (sz : Nat) (a x : Od)
  | nck (x : Od)
  | bin (op : BinOp) (q : EqK) (x y : Od)
  | un (op : UnOp) (x : Od)
  | conv (k : IntKind) (x : Od)
  | mkf (f : Nat) (fs cs : List Od)
  | mkm
  | mks (sz bytes : Nat) (z : List AV) (l c : Od)
  | slice (sz : Nat) (x : Od) (lo hi mx : Option Od)
  | fad (off : Nat) (x : Od)
  | fld (g : Bool) (sz off : Nat) (x : Od)
  | iad (sz : Nat) (arr : Option Nat) (x i : Od)
  | idx (g : Bool) (sz len : Nat) (x i : Od)
  | look (z : AV) (m k : Od) (ok : Bool)
  | mset (m k v : Od)
  | ext (i : Nat) (x : Od)
  | call (f : Nat) (as : List Od)
  | ccall (x : Od) (as : List Od)
  | len (x : Od)
  | app (sz bytes : Nat) (s x : Od)
  | copy (sz : Nat) (d s : Od)
  | clear (sz : Nat) (z : List AV) (x : Od)
  | mx (x : Od) (xs : List Od)
  | mn (x : Od) (xs : List Od)
  | bad
  | tab (bs : List Nat) (x : Od)

/-- An instruction: where its value goes, its guard; in a region that draws its order: what it sees of what its region makes, and whether it may come ahead of the last instruction that writes; itself. -/
structure I where
  d : Option Nat
  g : Option (Nat × Bool)
  v : List Bool
  f : Bool
  i : Ins

inductive C where
  | skip
  | bad
  | reg (dr : Bool) (is : List I)
  | seq (a b : C)
  | cond (x : Od) (a b : C)
  | block (n : Nat) (c : C)
  | loop (c : C)
  | range (x : Od) (ps : List Nat) (asg bd : C)
  | exit (n : Nat)
  | ret

inductive RV where
  | tmp (t : Nat)
  | cell (t : Nat) (g : Bool) (sz : Nat)

structure Fn where
  vs : List Nat
  code : C
  res : List RV

inductive Ex where
  | normal
  | exit (n : Nat)
  | ret
  deriving DecidableEq

abbrev Tm := List (Nat × AV)

/-- Abstract blocks of memory: cells; a map; the record of a loop over a function, ready for a round. -/
inductive AB where
  | cells (cs : List AV)
  | map (es : List (AV × AV))
  | loop (ps : List Nat) (T : Tm) (asg bd : C)
  | dead

abbrev Lv := List AB

def lk : Tm → Nat → AV
  | [], _ => .un
  | (a, v) :: E, t => if a = t then v else lk E t

def Od.ev (E : Tm) : Od → AV
  | .t n => lk E n
  | .c v => v

/-- A block: of this level, or of an elder one. -/
def getB (H : List Lv) (L : Lv) (l b : Nat) : Option AB :=
  if l = H.length then L[b]? else if l < H.length then (H[H.length - 1 - l]?).bind fun M => M[b]? else none

/-- The cells from an address on. -/
def rdC (H : List Lv) (L : Lv) : AV → Option (List AV)
  | .ptr l b i => match getB H L l b with
    | some (.cells cs) => if i ≤ cs.length then some (cs.drop i) else none
    | _ => none
  | .ro _ cs => some cs
  | _ => none

def chunk (sz : Nat) : Nat → List AV → List (List AV)
  | 0, _ => []
  | n + 1, cs => cs.take sz :: chunk sz n (cs.drop sz)

/-- A slice's elements. -/
def elems (H : List Lv) (L : Lv) : AV → Option (List (List AV))
  | .sl _ xs => some xs
  | .own l b i n sz _ => match getB H L l b with
    | some (.cells cs) => if i + n * sz ≤ cs.length then some (chunk sz n (cs.drop i)) else none
    | _ => none
  | _ => none

def allM {α β : Type} (f : α → Option β) : List α → Option (List β)
  | [] => some []
  | a :: r => match f a, allM f r with
    | some b, some s => some (b :: s)
    | _, _ => none

def isNat : Option AV → Nat → Option Nat
  | none, d => some d
  | some (.int _ n), _ => if 0 ≤ n then some n.toNat else none
  | _, _ => none

def put (cs : List AV) (off : Nat) (vs : List AV) : List AV := cs.take off ++ vs ++ cs.drop (off + vs.length)

def fill (E : Tm) : List AV → List (Nat × Nat × Od) → Option (List AV)
  | cs, [] => some cs
  | cs, (off, sz, x) :: r => match (x.ev E).lay with
    | some vs => if vs.length = sz ∧ off + sz ≤ cs.length then fill E (put cs off vs) r else none
    | none => none

def rep : Nat → List AV → List AV
  | 0, _ => []
  | n + 1, z => z ++ rep n z

def cmpI (op : BinOp) (a b : Int) : Option Bool :=
  match op with
  | .eql => some (decide (a = b))
  | .neq => some (!decide (a = b))
  | .lss => some (decide (a < b))
  | .leq => some (decide (a ≤ b))
  | .gtr => some (decide (b < a))
  | .geq => some (decide (b ≤ a))
  | _ => none

def arI (op : BinOp) (k : IntKind) (a b : Int) : Option AV :=
  match op with
  | .add => some (.int k (k.wrap (a + b)))
  | .sub => some (.int k (k.wrap (a - b)))
  | .mul => some (.int k (k.wrap (a * b)))
  | .quo => if b = 0 then none else some (.int k (k.wrap (a.tdiv b)))
  | .rem => if b = 0 then none else some (.int k (a.tmod b))
  | .and => some (.int k (k.wrap (BitVec.ofInt k.bits a &&& BitVec.ofInt k.bits b).toNat))
  | .or => some (.int k (k.wrap (BitVec.ofInt k.bits a ||| BitVec.ofInt k.bits b).toNat))
  | .xor => some (.int k (k.wrap (BitVec.ofInt k.bits a ^^^ BitVec.ofInt k.bits b).toNat))
  | .andNot => some (.int k (k.wrap (BitVec.ofInt k.bits a &&& ~~~ BitVec.ofInt k.bits b).toNat))
  | _ => none

def shI (op : BinOp) (k : IntKind) (a b : Int) : Option AV :=
  if b < 0 then none else
  match op with
  | .shl => some (.int k (k.wrap (a * 2 ^ (min b.toNat k.bits))))
  | .shr => some (.int k (a.fdiv (2 ^ (min b.toNat k.bits))))
  | _ => none

def plainEq : List (Option IntKind) → List AV → List AV → Option Bool
  | [], [], [] => some true
  | some k :: q, .int k1 a :: r, .int k2 b :: s => if k1 = k ∧ k2 = k then (plainEq q r s).map fun z => decide (a = b) && z else none
  | none :: q, .bool a :: r, .bool b :: s => (plainEq q r s).map fun z => (a == b) && z
  | _, _, _ => none

def eqV (q : EqK) (x y : AV) : Option Bool :=
  match q, x, y with
  | .flat, .bool a, .bool b => some (a == b)
  | .slice, .sl m xs, .sl n [] => if n.z then some (m.z && xs.isEmpty) else none
  | .slice, .own _ _ _ _ _ _, .sl n [] => if n.z then some false else none
  | .plain ks, .agg a, .agg b => plainEq ks a b
  | _, _, _ => none

def binV (op : BinOp) (q : EqK) (x y : AV) : Option AV :=
  match op, x, y with
  | .shl, .int k a, .int _ b => shI .shl k a b
  | .shr, .int k a, .int _ b => shI .shr k a b
  | .eql, .int k a, .int k' b => if k = k' then some (.bool (decide (a = b))) else none
  | .neq, .int k a, .int k' b => if k = k' then some (.bool (!decide (a = b))) else none
  | .lss, .int k a, .int k' b => if k = k' then some (.bool (decide (a < b))) else none
  | .leq, .int k a, .int k' b => if k = k' then some (.bool (decide (a ≤ b))) else none
  | .gtr, .int k a, .int k' b => if k = k' then some (.bool (decide (b < a))) else none
  | .geq, .int k a, .int k' b => if k = k' then some (.bool (decide (b ≤ a))) else none
  | .add, .int k a, .int k' b => if k = k' then some (.int k (k.wrap (a + b))) else none
  | .sub, .int k a, .int k' b => if k = k' then some (.int k (k.wrap (a - b))) else none
  | .mul, .int k a, .int k' b => if k = k' then some (.int k (k.wrap (a * b))) else none
  | o, .int k a, .int k' b => if k = k' then arI o k a b else none
  | .eql, x, y => (eqV q x y).map .bool
  | .neq, x, y => (eqV q x y).map fun r => .bool (!r)
  | _, _, _ => none

def unV (op : UnOp) (x : AV) : Option AV :=
  match op, x with
  | .neg, .int k n => some (.int k (k.wrap (0 - n)))
  | .xor, .int k n => arI .xor k (if k.signed then -1 else k.max) n
  | .not, .bool b => some (.bool !b)
  | _, _ => none

def mxV : AV → List AV → Option AV
  | .int k a, [] => some (.int k a)
  | .int k a, .int _ b :: r => mxV (.int k (if b > a then b else a)) r
  | _, _ => none

def mnV : AV → List AV → Option AV
  | .int k a, [] => some (.int k a)
  | .int k a, .int _ b :: r => mnV (.int k (if b < a then b else a)) r
  | _, _ => none

/-- s[lo:hi:mx] -/
def sliceV (sz : Nat) (x : AV) (lo hi mx : Option AV) : Option AV :=
  match x with
  | .sl m xs =>
    if xs.all (fun c => decide (c.length = sz)) = false then none else
    match isNat hi xs.length, isNat lo 0 with
    | some h, some l =>
      match mx with
      | none => if l ≤ h ∧ h ≤ xs.length then some (.sl ⟨m.z, m.b, m.c && decide (h = xs.length)⟩ ((xs.take h).drop l)) else none
      | some v => match hi, isNat (some v) 0 with
        | some _, some k => if l ≤ h ∧ h ≤ k ∧ k ≤ xs.length then some (.sl ⟨m.z, m.b, decide (h = k)⟩ ((xs.take h).drop l)) else none
        | _, _ => none
    | _, _ => none
  | .own lv b i n s cl =>
    match isNat hi n, isNat lo 0 with
    | some h, some l =>
      match mx with
      | none => if s = sz ∧ l ≤ h ∧ h ≤ n ∧ (cl = false ∨ h = n) then some (.own lv b (i + l * s) (h - l) s cl) else none
      | some v => match hi, isNat (some v) 0 with
        | some _, some k => if s = sz ∧ l ≤ h ∧ h = k ∧ k ≤ n then some (.own lv b (i + l * s) (h - l) s true) else none
        | _, _ => none
    | _, _ => none
  | _ => none

/-- A key's equality with another one. -/
def keyEq : AV → AV → Option Bool
  | .int k a, .int k' b => if k = k' then some (decide (a = b)) else none
  | _, _ => none

def findK (k : AV) : List (AV × AV) → Nat → Option (Option (Nat × AV))
  | [], _ => some none
  | (a, v) :: r, i => match keyEq k a with
    | some true => some (some (i, v))
    | some false => findK k r (i + 1)
    | none => none

def oddKey : AV → Bool
  | .int _ _ => false
  | _ => true

def oddVal : AV → Bool
  | .un => true
  | .tup _ => true
  | .agg _ => true
  | _ => false

def setB (H : List Lv) (L : Lv) (l b : Nat) (x : AB) : Option Lv :=
  if l = H.length ∧ b < L.length then some (L.set b x) else none

/-- What a pure call is handed: what its caller owns is borrowed. -/
def borrow (H : List Lv) (L : Lv) : Nat → AV → Option AV
  | d + 1, .own l b i n sz cl =>
    match elems H L (.own l b i n sz cl) with
    | some xs => (allM (allM (borrow H L d)) xs).map fun ys => .sl ⟨false, true, cl⟩ ys
    | none => none
  | d + 1, .agg cs => (allM (borrow H L d) cs).map .agg
  | _, .own _ _ _ _ _ _ => none
  | _, .agg _ => none
  | _, v => some v

/-- Does a value refer to nothing that anybody owns? -/
def freeC : Nat → AV → Bool
  | d + 1, .agg cs => cs.all (freeC d)
  | d + 1, .tup cs => cs.all (freeC d)
  | d + 1, .fn _ cs => cs.all (freeC d)
  | 0, .agg _ => false
  | 0, .tup _ => false
  | 0, .fn _ cs => cs.isEmpty
  | _, .sl m _ => !m.b
  | _, .ro b _ => !b
  | _, .own _ _ _ _ _ _ => false
  | _, .ptr _ _ _ => false
  | _, .mp _ _ => false
  | _, .yl _ _ => false
  | _, _ => true

def liveB (H : List Lv) (L : Lv) (l b : Nat) : Bool :=
  match getB H L l b with
  | some (.cells _) => true
  | some (.map _) => true
  | _ => false

/-- Is a value free of what is borrowed, and of what its level owns? -/
def freeV (H : List Lv) (L : Lv) : Nat → AV → Bool
  | d + 1, .agg cs => cs.all (freeV H L d)
  | d + 1, .tup cs => cs.all (freeV H L d)
  | d + 1, .fn _ cs => cs.all (freeV H L d)
  | 0, .agg _ => false
  | 0, .tup _ => false
  | 0, .fn _ cs => cs.isEmpty
  | _, .sl m _ => !m.b
  | _, .ro b _ => !b
  | _, .own l b _ _ _ _ => decide (l < H.length) && liveB H L l b
  | _, .ptr l b _ => decide (l < H.length) && liveB H L l b
  | _, .mp l b => decide (l < H.length) && liveB H L l b
  | _, .yl _ _ => false
  | _, _ => true

/-- What is in a slice that is handed back. -/
def freezeC (H : List Lv) (L : Lv) : Nat → AV → Option AV
  | d + 1, .own l b i n sz cl =>
    if l < H.length then none else
    match elems H L (.own l b i n sz cl) with
    | some xs => (allM (allM (freezeC H L d)) xs).map fun ys => .sl ⟨false, false, cl⟩ ys
    | none => none
  | d, v => if freeC d v then some v else none

/-- What a pure call hands back: what it owns is nobody's, and stands. -/
def freeze (H : List Lv) (L : Lv) : Nat → AV → Option AV
  | d + 1, .own l b i n sz cl =>
    if l < H.length then (if liveB H L l b then some (.own l b i n sz cl) else none) else
    match elems H L (.own l b i n sz cl) with
    | some xs => (allM (allM (freezeC H L d)) xs).map fun ys => .sl ⟨false, false, cl⟩ ys
    | none => none
  | d + 1, .agg cs => (allM (freeze H L d) cs).map .agg
  | d + 1, .tup cs => (allM (freeze H L d) cs).map .tup
  | d, v => if freeV H L d v then some v else none

/-- What a call does: the level's elder levels, the level, the arguments. -/
abbrev CallT := Nat → List AV → List Lv → Lv → Option (AV × Lv)
abbrev LoopT := C → List Lv → Tm → Lv → Option (Ex × Tm × Lv)

/-- How a function is called: by value, in a level of its own, what it makes falls away; by reference; by value, and its result is its caller's own. -/
inductive Md where
  | pure
  | impure

structure GP where
  fn : Nat → Option Fn
  md : Nat → Md
  ex : Nat → Option CallT

def depth : Nat := 6

/-- No function's number: a round of a loop over a function. -/
def yieldF : Nat := 1000000007

def pcall (call : CallT) (H : List Lv) (L : Lv) (f : Nat) (as : List AV) : Option AV :=
  if f = yieldF then none else
  match allM (borrow H L depth) as with
  | some bs => match call f bs (L :: H) [] with
    | some (r, M) => freeze (L :: H) M depth r
    | none => none
  | none => none

def doCall (G : GP) (call : CallT) (H : List Lv) (L : Lv) (f : Nat) (as : List AV) : Option (AV × Lv) :=
  match G.md f with
  | .pure => (pcall call H L f as).map fun r => (r, L)
  | .impure => if f = yieldF then none else call f as H L

/-- The block that a making instruction makes, and its pointer. -/
def evA (H : List Lv) (E : Tm) : Ins → Option (AB × (Nat → AV))
  | .alloc z => some (.cells z, fun b => .ptr H.length b 0)
  | .box x => match (x.ev E).lay with
    | some vs => some (.cells vs, fun b => .ptr H.length b 0)
    | none => none
  | .bslice sz n z ps => match fill E z ps with
    | some cs => some (.cells cs, fun b => .own H.length b 0 n sz false)
    | none => none
  | .mkm => some (.map [], fun b => .mp H.length b)
  | .mks sz bytes z l c => match l.ev E, c.ev E with
    | .int _ n, .int _ m => if 0 ≤ n ∧ n ≤ m ∧ m * bytes ≤ 140737488355328 ∧ m < 9223372036854775808 then
        some (.cells (rep m.toNat z), fun b => .own H.length b 0 n.toNat sz false) else none
    | _, _ => none
  | _ => none

/-- What reads alone. -/
def evR (H : List Lv) (E : Tm) (L : Lv) : Ins → Option AV
  | .mv x => some (x.ev E)
  | .pick c a b => match c.ev E with
    | .bool t => some (if t then a.ev E else b.ev E)
    | _ => none
  | .build z ps => (fill E z ps).map .agg
  | .ld g sz x => match rdC H L (x.ev E) with
    | some cs => if g then (if sz ≤ cs.length then some (.agg (cs.take sz)) else none) else cs[0]?
    | none => none
  | .nck x => match x.ev E with
    | .ptr l b i => some (.ptr l b i)
    | .ro b cs => some (.ro b cs)
    | .fn f cs => some (.fn f cs)
    | _ => none
  | .bin op q x y => binV op q (x.ev E) (y.ev E)
  | .un op x => unV op (x.ev E)
  | .conv k x => match x.ev E with
    | .int _ n => some (.int k (k.wrap n))
    | _ => none
  | .mkf f fs cs => some (.fn f ((fs.map (Od.ev E)) ++ cs.map (Od.ev E)))
  | .slice sz x lo hi mx => sliceV sz (x.ev E) (lo.map (Od.ev E)) (hi.map (Od.ev E)) (mx.map (Od.ev E))
  | .fad off x => match x.ev E with
    | .ptr l b i => some (.ptr l b (i + off))
    | .ro b cs => if off ≤ cs.length then some (.ro b (cs.drop off)) else none
    | _ => none
  | .fld g sz off x => match x.ev E with
    | .agg cs => if g then (if off + sz ≤ cs.length then some (.agg ((cs.drop off).take sz)) else none) else cs[off]?
    | _ => none
  | .iad sz arr x i => match i.ev E with
    | .int _ n =>
      match arr, x.ev E with
      | some m, .ptr l b o => if 0 ≤ n ∧ n < m then some (.ptr l b (o + n.toNat * sz)) else none
      | none, .sl m xs => if 0 ≤ n then match xs[n.toNat]? with
          | some c => if c.length = sz then some (.ro m.b c) else none
          | none => none else none
      | none, .own l b o k s _ => if s = sz ∧ 0 ≤ n ∧ n < k then some (.ptr l b (o + n.toNat * sz)) else none
      | _, _ => none
    | _ => none
  | .idx g sz len x i => match x.ev E, i.ev E with
    | .agg cs, .int _ n => if 0 ≤ n ∧ n < len then
        (if g then (if n.toNat * sz + sz ≤ cs.length then some (.agg ((cs.drop (n.toNat * sz)).take sz)) else none) else cs[n.toNat * sz]?) else none
    | _, _ => none
  | .tab bs x => match x.ev E with
    | .int _ n => if 0 ≤ n then (bs[n.toNat]?).map fun (b : Nat) => .int .u8 b else none
    | _ => none
  | .look z m k ok => match m.ev E with
    | .mp l b => match getB H L l b with
      | some (.map es) => if oddKey (k.ev E) then none else match findK (k.ev E) es 0 with
        | some (some (_, v)) => some (if ok then .tup [v, .bool true] else v)
        | some none => some (if ok then .tup [z, .bool false] else z)
        | none => none
      | _ => none
    | _ => none
  | .ext i x => match x.ev E with
    | .tup vs => vs[i]?
    | _ => none
  | .len x => match x.ev E with
    | .sl _ xs => some (.int .i64 xs.length)
    | .own _ _ _ n _ _ => some (.int .i64 n)
    | _ => none
  | .mx x xs => mxV (x.ev E) (xs.map (Od.ev E))
  | .mn x xs => mnV (x.ev E) (xs.map (Od.ev E))
  | _ => none

def appV (H : List Lv) (L : Lv) (sz : Nat) (s : AV) (xs ys : List (List AV)) : Option (AV × Lv) :=
  match s with
  | .sl m _ => if ys = [] then some (s, L) else if m.c && xs.all (fun c => decide (c.length = sz)) then some (.own H.length L.length 0 (xs.length + ys.length) sz false, L ++ [.cells (xs.flatten ++ ys.flatten)]) else none
  | .own l b i n z cl =>
    if z ≠ sz then none else
    if ys = [] then some (s, L) else
    if cl then some (.own H.length L.length 0 (xs.length + ys.length) sz false, L ++ [.cells (xs.flatten ++ ys.flatten)]) else
    match getB H L l b with
    | some (.cells cs) =>
      if i + (n + ys.length) * sz ≤ cs.length then (setB H L l b (.cells (put cs (i + n * sz) ys.flatten))).map fun L' => (.own l b i (n + ys.length) sz false, L')
      else if i + n * sz = cs.length then (setB H L l b .dead).map fun L' => (.own H.length L.length 0 (xs.length + ys.length) sz false, L' ++ [.cells (xs.flatten ++ ys.flatten)])
      else none
    | _ => none
  | _ => none

def copyV (H : List Lv) (L : Lv) (sz : Nat) (d : AV) (ys : List (List AV)) : Option (AV × Lv) :=
  match d with
  | .own l b i n z _ =>
    match getB H L l b with
    | some (.cells cs) =>
      if z = sz ∧ i + n * sz ≤ cs.length ∧ ys.all (fun c => decide (c.length = sz)) then
        (setB H L l b (.cells (put cs i (ys.take (min ys.length n)).flatten))).map fun L' => (.int .i64 (min ys.length n : Nat), L') else none
    | _ => none
  | .sl _ [] => some (.int .i64 0, L)
  | _ => none

def clearV (H : List Lv) (L : Lv) (sz : Nat) (z : List AV) (x : AV) : Option (AV × Lv) :=
  match x with
  | .sl _ [] => some (.tup [], L)
  | .own l b i n s _ =>
    if n = 0 then some (.tup [], L) else
    match getB H L l b with
    | some (.cells cs) => if s = sz ∧ z.length = sz ∧ i + n * sz ≤ cs.length then (setB H L l b (.cells (put cs i (rep n z)))).map fun L' => (.tup [], L') else none
    | _ => none
  | _ => none

/-- What writes. -/
def evW (H : List Lv) (E : Tm) (L : Lv) : Ins → Option (AV × Lv)
  | .st sz a x => match a.ev E with
    | .ptr l b i => match getB H L l b with
      | some (.cells cs) => match (x.ev E).lay with
        | some vs => if vs.length = sz ∧ i + sz ≤ cs.length then (setB H L l b (.cells (put cs i vs))).map fun L' => (.un, L') else none
        | none => none
      | _ => none
    | _ => none
  | .mset m k v => match m.ev E with
    | .mp l b => match getB H L l b with
      | some (.map es) => if oddKey (k.ev E) || oddVal (v.ev E) then none else match findK (k.ev E) es 0 with
        | some (some (i, _)) => (setB H L l b (.map (es.set i (k.ev E, v.ev E)))).map fun L' => (.un, L')
        | some none => (setB H L l b (.map (es ++ [(k.ev E, v.ev E)]))).map fun L' => (.un, L')
        | none => none
      | _ => none
    | _ => none
  | .app sz bytes s x =>
    match elems H L (s.ev E), elems H L (x.ev E) with
    | some xs, some ys =>
      if (xs.length + ys.length) ≤ 9223372036854775807 ∧ (xs.length + ys.length) * bytes ≤ 140737488355328 ∧ ys.all (fun c => decide (c.length = sz)) then
        appV H L sz (s.ev E) xs ys
      else none
    | _, _ => none
  | .copy sz d s =>
    match elems H L (s.ev E) with
    | some ys => copyV H L sz (d.ev E) ys
    | none => none
  | .clear sz z x => clearV H L sz z (x.ev E)
  | _ => none

inductive Kd where
  | r | a | w | p | q
  deriving DecidableEq

/-- Of what make an instruction is: it reads; it makes; it writes; it calls a function, or what a value is. -/
def Ins.kd : Ins → Kd
  | .alloc _ | .box _ | .bslice .. | .mkm | .mks .. => .a
  | .st .. | .mset .. | .app .. | .copy .. | .clear .. => .w
  | .call .. => .p
  | .ccall .. => .q
  | _ => .r

/-- One instruction, in the text's order. -/
def ev1 (G : GP) (call : CallT) (H : List Lv) (E : Tm) (L : Lv) (i : Ins) : Option (AV × Lv) :=
  match i with
  | .call f as => doCall G call H L f (as.map (Od.ev E))
  | .ccall x as => match x.ev E with
    | .fn f cap => doCall G call H L f (as.map (Od.ev E) ++ cap)
    | .yl l b => call yieldF (.yl l b :: as.map (Od.ev E)) H L
    | _ => none
  | i => match i.kd with
    | .r => (evR H E L i).map fun v => (v, L)
    | .a => (evA H E i).map fun (b, p) => (p L.length, L ++ [b])
    | _ => evW H E L i

def dput (d : Option Nat) (v : AV) (E : Tm) : Tm :=
  match d with
  | some t => (t, v) :: E
  | none => E

/-- Is an instruction carried out? -/
def want (g : Option (Nat × Bool)) (E : Tm) : Option Bool :=
  match g with
  | none => some true
  | some (t, b) => match lk E t with
    | .bool c => some (c == b)
    | .tup [] => some false
    | _ => none

/-- Instructions, one behind the other. -/
def evL (G : GP) (call : CallT) (H : List Lv) : List I → Tm → Lv → Option (Tm × Lv)
  | [], E, L => some (E, L)
  | i :: r, E, L =>
    match want i.g E with
    | some true =>
      match ev1 G call H E L i.i with
      | some (v, L') => evL G call H r (dput i.d v E) L'
      | none => none
    | some false => evL G call H r (dput i.d (.tup []) E) L
    | none => none

/-- What is kept behind a region: the variables. -/
def keep (T E : Tm) : Tm := T.map fun p => (p.1, lk E p.1)

/-- What an instruction of a region that draws its order sees: of the blocks that the region makes those alone that it hangs on. -/
def mask : List Bool → Lv → Lv
  | v :: vs, b :: bs => (if v then b else .dead) :: mask vs bs
  | _ :: vs, [] => .dead :: mask vs []
  | [], _ => []

def isMk (i : Ins) : Bool := match i.kd with | .a => true | _ => false

/-- Does an instruction call what may write its caller's memory? -/
def isImp (md : Nat → Md) : Ins → Bool
  | .call f _ => match md f with | .impure => true | .pure => false
  | _ => false

/-- Does an instruction write? -/
def isBar (md : Nat → Md) (i : Ins) : Bool :=
  match i.kd with
  | .w => true
  | .p => isImp md i
  | _ => false

/-- A region that draws its order, on its way. 'B': the blocks ahead of the last instruction that wrote; 'S': those that were made since, in the text's order; 'W': what B and S were ahead of that instruction, and where it wrote. -/
structure DS where
  E : Tm
  B : Lv
  S : Lv
  W : Option (Lv × Lv × Nat)

/-- What is the same, whether the last instruction that writes has come or not. -/
def floatM (W : Option (Lv × Lv × Nat)) (v : List Bool) : Option Lv :=
  match W with
  | some (B, S, b) => some ((B ++ mask v S).set b .dead)
  | none => none

def wslot (E : Tm) (B S : Lv) : Ins → Option (Lv × Lv × Nat)
  | .st _ a _ => match a.ev E with
    | .ptr _ b _ => some (B, S, b)
    | _ => none
  | _ => none

/-- One instruction of a region that draws its order. -/
def stepD (G : GP) (call : CallT) (H : List Lv) (i : I) (σ : DS) : Option (AV × DS) :=
  match want i.g σ.E with
  | some true =>
    match i.i.kd with
    | .r => match (if i.f then floatM σ.W i.v else some (σ.B ++ mask i.v σ.S)) with
      | some Lm => match evR H σ.E Lm i.i with
        | some v => some (v, ⟨dput i.d v σ.E, σ.B, σ.S, σ.W⟩)
        | none => none
      | none => none
    | .a => match evA H σ.E i.i with
      | some (b, p) => some (p (σ.B.length + σ.S.length), ⟨dput i.d (p (σ.B.length + σ.S.length)) σ.E, σ.B, σ.S ++ [b], σ.W⟩)
      | none => none
    | .p => match i.i with
      | .call f as => match G.md f with
        | .pure => match pcall call H (σ.B ++ mask i.v σ.S) f (as.map (Od.ev σ.E)) with
          | some v => some (v, ⟨dput i.d v σ.E, σ.B, σ.S, σ.W⟩)
          | none => none
        | .impure => match (if f = yieldF then none else call f (as.map (Od.ev σ.E)) H (σ.B ++ σ.S)) with
          | some (v, M) => some (v, ⟨dput i.d v σ.E, M, [], none⟩)
          | none => none
      | _ => none
    | .q => match i.i with
      | .ccall x as => match x.ev σ.E with
        | .fn f cap => match G.md f with
          | .pure => match pcall call H (σ.B ++ mask i.v σ.S) f (as.map (Od.ev σ.E) ++ cap) with
            | some v => some (v, ⟨dput i.d v σ.E, σ.B, σ.S, σ.W⟩)
            | none => none
          | .impure => none
        | _ => none
      | _ => none
    | .w => match evW H σ.E (σ.B ++ σ.S) i.i with
      | some (v, M) => some (v, ⟨dput i.d v σ.E, M, [], wslot σ.E σ.B σ.S i.i⟩)
      | none => none
  | some false => some (.tup [], if isBar G.md i.i then ⟨dput i.d (.tup []) σ.E, σ.B ++ σ.S, [], none⟩ else ⟨dput i.d (.tup []) σ.E, σ.B, if isMk i.i then σ.S ++ [.dead] else σ.S, σ.W⟩)
  | none => none

def evD (G : GP) (call : CallT) (H : List Lv) : List I → DS → Option DS
  | [], σ => some σ
  | i :: r, σ => match stepD G call H i σ with
    | some (_, σ') => evD G call H r σ'
    | none => none

def evReg (G : GP) (call : CallT) (H : List Lv) (dr : Bool) (is : List I) (T : Tm) (L : Lv) : Option (Tm × Lv) :=
  if dr then (evD G call H is ⟨T, L, [], none⟩).map fun σ => (keep T σ.E, σ.B ++ σ.S)
  else (evL G call H is T L).map fun (E, L') => (keep T E, L')

def evC (G : GP) (call : CallT) (loop : LoopT) (H : List Lv) : C → Tm → Lv → Option (Ex × Tm × Lv)
  | .skip, T, L => some (.normal, T, L)
  | .bad, _, _ => none
  | .reg dr is, T, L => (evReg G call H dr is T L).map fun (T', L') => (.normal, T', L')
  | .seq a b, T, L => match evC G call loop H a T L with
    | some (.normal, T', L') => evC G call loop H b T' L'
    | some (.exit n, T', L') => some (.exit n, T', L')
    | some (.ret, T', L') => some (.ret, T', L')
    | none => none
  | .cond x a b, T, L => match x.ev T with
    | .bool t => if t then evC G call loop H a T L else evC G call loop H b T L
    | _ => none
  | .block n c, T, L => match evC G call loop H c T L with
    | some (.exit m, T', L') => some (if m = n then .normal else .exit m, T', L')
    | some (.normal, T', L') => some (.normal, T', L')
    | some (.ret, T', L') => some (.ret, T', L')
    | none => none
  | .loop c, T, L => loop c H T L
  | .range x ps asg bd, T, L => match x.ev T with
    | .fn f cap => if f = yieldF then none else match call f (.yl H.length L.length :: cap) H (L ++ [.loop ps T asg bd]) with
      | some (_, L') => match L'[L.length]? with
        | some (.loop _ _ _ _) => some (.normal, T, L'.set L.length .dead)
        | _ => none
      | none => none
    | _ => none
  | .exit n, T, L => some (.exit n, T, L)
  | .ret, T, L => some (.ret, T, L)

def evRes (H : List Lv) (T : Tm) (L : Lv) : List RV → Option (List AV)
  | [] => some []
  | .tmp t :: r => (evRes H T L r).map fun vs => lk T t :: vs
  | .cell t g sz :: r => match rdC H L (lk T t), evRes H T L r with
    | some cs, some vs => if g then (if sz ≤ cs.length then some (.agg (cs.take sz) :: vs) else none) else (cs[0]?).map (· :: vs)
    | _, _ => none

def one : List AV → AV
  | [v] => v
  | vs => .tup vs

def start (vs : List Nat) (as : List AV) : Tm := vs.map fun t => (t, (as[t]?).getD .un)

def evFn (G : GP) (call : CallT) (loop : LoopT) (fn : Fn) (as : List AV) (H : List Lv) (L : Lv) : Option (AV × Lv) :=
  match evC G call loop H fn.code (start fn.vs as) L with
  | some (.normal, T, L') => (evRes H T L' fn.res).map fun vs => (one vs, L')
  | some (.ret, T, L') => (evRes H T L' fn.res).map fun vs => (one vs, L')
  | _ => none

/-- What a round is handed, put where it belongs. -/
def bindP : List Nat → List AV → Tm → Tm
  | p :: ps, v :: vs, T => bindP ps vs ((p, v) :: T)
  | _, _, T => T

/-- One round of a loop over a function: the function has called 'yield'. -/
def evY (G : GP) (call : CallT) (loop : LoopT) (as : List AV) (H : List Lv) (L : Lv) : Option (AV × Lv) :=
  match as with
  | .yl l b :: vs =>
    if l = H.length then
      match L[b]? with
      | some (.loop ps T asg bd) =>
        if ps.length = vs.length then
          match evC G call loop H (.seq asg bd) (bindP ps vs T) (L.set b .dead) with
          | some (.normal, _, L') => match L'[b]? with
            | some .dead => some (.bool true, L'.set b (.loop ps T asg bd))
            | _ => none
          | _ => none
        else none
      | _ => none
    else none
  | _ => none

/-- So many rounds, so many calls deep. -/
def lev (G : GP) : Nat → CallT × LoopT
  | 0 => (fun _ _ _ _ => none, fun _ _ _ _ => none)
  | k + 1 =>
    (fun f as H L => match G.ex f with
      | some g => g f as H L
      | none => match G.fn f with
        | some fn => evFn G (lev G k).1 (lev G k).2 fn as H L
        | none => if f = yieldF then evY G (lev G k).1 (lev G k).2 as H L else none,
     fun c H T L => match evC G (lev G k).1 (lev G k).2 H c T L with
      | some (.normal, T', L') => (lev G k).2 c H T' L'
      | some (.exit n, T', L') => some (.exit n, T', L')
      | some (.ret, T', L') => some (.ret, T', L')
      | none => none)

end Go.Ev
