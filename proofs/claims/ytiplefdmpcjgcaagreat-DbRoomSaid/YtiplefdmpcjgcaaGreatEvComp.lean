/- From a function's code in the model to the evaluator's: definitions alone. -/
import Derived.Test.YtiplefdmpcjgcaaGreatEvDefs
namespace Go.Ev
open Go

def ofVal : Value → Option AV
  | .bool b => some (.bool b)
  | .int k n => some (.int k n)
  | .pointer none => some .nilp
  | .slice none 0 0 => some nilS
  | .nilFunc => some .nilf
  | _ => none

def valCells (v : Value) : Option (List AV) := allM ofVal v.cells.toList

def compOd : Operand → Option Od
  | .tmp t => some (.t t)
  | .const (.agg cs) => (allM ofVal cs.toList).map fun l => .c (.agg l)
  | .const v => (ofVal v).map .c
  | .func f => some (.c (.fn f []))
  | .global _ => none

def compOpt : Option Operand → Option (Option Od)
  | none => some none
  | some x => (compOd x).map some

def tsize (P : Program) (t : TypeId) : Option Nat := (P.info? t).map (·.size)
def tbytes (P : Program) (t : TypeId) : Option Nat := (P.info? t).map (·.bytes)
def tagg (P : Program) (t : TypeId) : Option Bool :=
  match P.underlying t with
  | some (.struct _) => some true
  | some (.array _ _) => some true
  | some _ => some false
  | none => none
def tzero (P : Program) (t : TypeId) : Option (List AV) := ((P.info? t).bind (·.zero)).bind valCells
def tzeroV (P : Program) (t : TypeId) : Option AV := ((P.info? t).bind (·.zero)).bind ofVal

/-- The cells of a struct's fields, where they lie one behind the other. -/
def plainFs (F : TypeId → Option (List (Option IntKind))) : List Field → Nat → Nat → Option (List (Option IntKind))
  | [], o, n => if o = n then some [] else none
  | f :: fs, o, n => if f.name == "_" || f.offset != o then none else match F f.type with
    | some k => (plainFs F fs (o + k.length) n).map (k ++ ·)
    | none => none

/-- The cells of a type of whole numbers and bools alone, whose '==' compares all cells, in order. -/
def plainKs (P : Program) : Nat → TypeId → Option (List (Option IntKind))
  | 0, _ => none
  | d + 1, t =>
    match P.underlying t, tsize P t with
    | some .bool, some n => if n = 1 then some [none] else none
    | some (.int k), some n => if n = 1 then some [some k] else none
    | some (.struct fs), some n => if P.stoodInHeld t then none else plainFs (plainKs P d) fs.toList 0 n
    | _, _ => none

def eqk (P : Program) (t : TypeId) : EqK :=
  match P.underlying t with
  | some .bool => .flat
  | some (.slice _) => .slice
  | some (.struct _) => match plainKs P 8 t with
    | some ks => if P.eqGuardType P.depth t then .other else .plain ks
    | none => .other
  | _ => .other

def compParts (pl : Nat → Option (Nat × Nat)) : List (Nat × Operand) → Option (List (Nat × Nat × Od))
  | [] => some []
  | (i, x) :: r => match pl i, compOd x, compParts pl r with
    | some (o, s), some y, some l => some ((o, s, y) :: l)
    | _, _, _ => none

def fieldsOf (P : Program) (t : TypeId) : Option (Array Field) :=
  match P.underlying t with
  | some (.struct fs) => some fs
  | _ => none

def sliceOf (P : Program) (t : TypeId) : Option TypeId :=
  match P.underlying t with
  | some (.slice e) => some e
  | _ => none

def intOfT (P : Program) (t : TypeId) : Option IntKind :=
  match P.underlying t with
  | some (.int k) => some k
  | _ => none

def compBuiltin (P : Program) (b : Builtin) (as : List Od) (ts : List TypeId) : Option Ins :=
  match b, as, ts with
  | .len, [x], [t] => match P.underlying t with
    | some (.slice _) => some (.len x)
    | some (.array n _) => some (.mv (.c (.int .i64 n)))
    | _ => none
  | .append, [s, x], [t, u] => match sliceOf P t, sliceOf P u with
    | some e, some _ => match tsize P e, tbytes P e, tzero P e with
      | some sz, some by_, some z => if 0 < sz ∧ z.length = sz then some (.app sz by_ s x) else none
      | _, _, _ => none
    | _, _ => none
  | .copy, [d, s], t :: _ => match sliceOf P t with
    | some e => match tsize P e with
      | some sz => if 0 < sz then some (.copy sz d s) else none
      | none => none
    | none => none
  | .clear, [x], [t] => match sliceOf P t with
    | some e => match tsize P e, tzero P e with
      | some sz, some z => if 0 < sz then some (.clear sz z x) else none
      | _, _ => none
    | none => none
  | .max, x :: xs, _ => some (.mx x xs)
  | .min, x :: xs, _ => some (.mn x xs)
  | _, _, _ => none

def compOp (P : Program) (op : Op) : Option Ins :=
  match op with
  | .move x => (compOd x).map .mv
  | .assign x => (compOd x).map .mv
  | .pick c a b => match compOd c, compOd a, compOd b with
    | some c, some a, some b => some (.pick c a b)
    | _, _, _ => none
  | .alloc t => (tzero P t).map .alloc
  | .box _ x => (compOd x).map .box
  | .build t ps => match tzero P t, fieldsOf P t with
    | some z, some fs => if fs.toList.all (fun f => (tsize P f.type).isSome) = false then none else (compParts (fun i => (fs[i]?).bind fun f => (tsize P f.type).map fun s => (f.offset, s)) ps.toList).map (.build z)
    | _, _ => none
  | .buildSlice t n ps => match sliceOf P t with
    | some e => match tsize P e, tzero P e with
      | some sz, some z => if n * sz ≤ 16777216 ∧ 0 < sz ∧ z.length = sz then (compParts (fun i => some (i * sz, sz)) ps.toList).map (.bslice sz n (rep n z)) else none
      | _, _ => none
    | none => none
  | .load t a => match tagg P t, tsize P t, compOd a with
    | some g, some s, some x => some (.ld g s x)
    | _, _, _ => none
  | .store t a v => match tsize P t, compOd a, compOd v with
    | some s, some x, some y => some (.st s x y)
    | _, _, _ => none
  | .nilCheck x => (compOd x).map .nck
  | .binOp o t x y _ => match compOd x, compOd y with
    | some x, some y => some (.bin o (eqk P t) x y)
    | _, _ => none
  | .unOp o _ x => (compOd x).map (.un o)
  | .convert s d x => match intOfT P s, intOfT P d with
    | some _, some k => (compOd x).map (.conv k)
    | _, _ => none
  | .makeFunc (.func f) fs cs => match allM compOd fs.toList, allM compOd cs.toList with
    | some fs, some cs => if fs.isEmpty then some (.mkf f fs cs) else none
    | _, _ => none
  | .makeMap _ none => some .mkm
  | .makeSlice t l c => match sliceOf P t with
    | some e => match tsize P e, tbytes P e, tzero P e, compOd l, compOd c with
      | some sz, some by_, some z, some l, some c => if 0 < sz ∧ z.length = sz then some (.mks sz by_ z l c) else none
      | _, _, _, _, _ => none
    | none => none
  | .slice t x lo hi mx => match sliceOf P t with
    | some e => match tsize P e, compOd x, compOpt lo, compOpt hi, compOpt mx with
      | some sz, some x, some lo, some hi, some mx => some (.slice sz x lo hi mx)
      | _, _, _, _, _ => none
    | none => none
  | .fieldAddr t x i => match fieldsOf P t, compOd x with
    | some fs, some x => match fs[i]? with
      | some f => match tsize P f.type with
        | some s => if 0 < s then some (.fad f.offset x) else none
        | none => none
      | none => none
    | _, _ => none
  | .field t x i => match fieldsOf P t, compOd x with
    | some fs, some x => match fs[i]? with
      | some f => match tagg P f.type, tsize P f.type with
        | some g, some s => some (.fld g s f.offset x)
        | _, _ => none
      | none => none
    | _, _ => none
  | .indexAddr t x i => match P.underlying t, compOd x, compOd i with
    | some (.slice e), some x, some i => match tsize P e with
      | some sz => some (.iad sz none x i)
      | none => none
    | some (.array n e), some x, some i => match tsize P e with
      | some sz => some (.iad sz (some n) x i)
      | none => none
    | _, _, _ => none
  | .index t (.const (.string s)) i => match P.underlying t, compOd i with
    | some .string, some i => some (.tab (s.data.toList.map UInt8.toNat) i)
    | _, _ => none
  | .index t x i => match P.underlying t, compOd x, compOd i with
    | some (.array n e), some x, some i => match tagg P e, tsize P e with
      | some g, some sz => some (.idx g sz n x i)
      | _, _ => none
    | _, _, _ => none
  | .lookup t m k ok => match P.underlying t with
    | some (.map kt e) => match intOfT P kt, tzeroV P e, compOd m, compOd k with
      | some _, some z, some m, some k => some (.look z m k ok)
      | _, _, _, _ => none
    | _ => none
  | .mapUpdate t m k v => match P.underlying t with
    | some (.map kt _) => match intOfT P kt, compOd m, compOd k, compOd v with
      | some _, some m, some k, some v => some (.mset m k v)
      | _, _, _, _ => none
    | _ => none
  | .insert t m k v => match P.underlying t with
    | some (.map kt _) => match intOfT P kt, compOd m, compOd k, compOd v with
      | some _, some m, some k, some v => some (.mset m k v)
      | _, _, _, _ => none
    | _ => none
  | .extract x i => (compOd x).map (.ext i)
  | .call c => match allM compOd c.args.toList with
    | some as => match c.callee with
      | .value (.func f) => some (.call f as)
      | .value x => (compOd x).map fun y => .ccall y as
      | .builtin b => compBuiltin P b as c.argTypes.toList
      | .invoke _ _ => none
    | none => none
  | _ => none

def odR : Od → List Nat
  | .t n => [n]
  | .c _ => []
def ooR : Option Od → List Nat
  | some x => odR x
  | none => []

def insR : Ins → List Nat
  | .tab _ x | .mv x | .box x | .ld _ _ x | .nck x | .un _ x | .conv _ x | .fad _ x | .fld _ _ _ x | .ext _ x | .len x | .clear _ _ x => odR x
  | .pick c a b => odR c ++ odR a ++ odR b
  | .alloc _ | .mkm | .bad => []
  | .build _ ps | .bslice _ _ _ ps => ps.flatMap fun p => odR p.2.2
  | .st _ a x | .bin _ _ a x | .mks _ _ _ a x | .iad _ _ a x | .idx _ _ _ a x | .look _ a x _ | .app _ _ a x | .copy _ a x => odR a ++ odR x
  | .mkf _ fs cs => fs.flatMap odR ++ cs.flatMap odR
  | .slice _ x lo hi mx => odR x ++ ooR lo ++ ooR hi ++ ooR mx
  | .mset m k v => odR m ++ odR k ++ odR v
  | .call _ as => as.flatMap odR
  | .ccall x as | .mx x as | .mn x as => odR x ++ as.flatMap odR

def compG (ops : Array Oper) : Option (Nat × Bool) → Option (Option (Nat × Bool))
  | none => some none
  | some (j, w) => match (ops[j]?).bind (·.dst) with
    | some t => some (some (t, w))
    | none => none

def barAt (md : Nat → Md) (is : List I) (p : Nat) : Bool := match is[p]? with | some x => isBar md x.i | none => false
def mkAt (is : List I) (p : Nat) : Bool := match is[p]? with | some x => isMk x.i | none => false

/-- The place behind the last instruction that writes ahead of place p; how many instructions since then, ahead of p, make something. -/
def loAt (md : Nat → Md) (is : List I) : Nat → Nat
  | 0 => 0
  | p + 1 => if barAt md is p then p + 1 else loAt md is p
def slotAt (md : Nat → Md) (is : List I) : Nat → Nat
  | 0 => 0
  | p + 1 => if barAt md is p then 0 else if mkAt is p then slotAt md is p + 1 else slotAt md is p

def guardR (g : Option (Nat × Bool)) : List Nat :=
  match g with
  | some (t, _) => [t]
  | none => []

/-- Does one instruction put what the other one looks at, or puts? -/
def clash (x y : I) : Bool :=
  (match x.d with | some d => (insR y.i).contains d || (guardR y.g).contains d || y.d == some d | none => false) ||
  (match y.d with | some d => (insR x.i).contains d || (guardR x.g).contains d | none => false)

def bit (b : Array Nat) (j i : Nat) : Bool := (b.getD j 0).testBit i

/-- Is what a table says comes ahead of an operation so by the operations' own edges? -/
def tableOk (ops : Array Oper) (b : Array Nat) : Bool :=
  (List.range ops.size).all fun j => match ops[j]? with
    | some o => (o.after.all fun e => !Region.binds .any e || decide (e.on < j)) &&
      (List.range ops.size).all fun i => !bit b j i || o.after.any fun e => Region.binds .any e && (e.on == i || bit b e.on i)
    | none => false

/-- Does an instruction neither read memory nor write it? -/
def still : Ins → Bool
  | .tab .. | .mv _ | .pick .. | .build .. | .nck _ | .bin .. | .un .. | .conv .. | .mkf .. | .slice .. | .fad .. | .fld .. | .iad .. | .idx .. | .ext .. | .len _ | .mx .. | .mn .. => true
  | _ => false

/-- In which order a region that draws its order is told: what writes as early as may be. -/
def order (b : Array Nat) (n : Nat) (bars : List Nat) : List Nat :=
  let l := bars.foldl (fun acc q => acc ++ ((List.range n).filter fun i => bit b q i && !acc.contains i) ++ (if acc.contains q then [] else [q])) []
  l ++ (List.range n).filter fun i => !l.contains i

/-- Does an instruction read memory alone? -/
def reads (md : Nat → Md) (i : Ins) : Bool := !still i && !isMk i && !isBar md i

/-- Of what an instruction sees of what its region made: is it made ahead of it, whatever the order? -/
def seesOk (md : Nat → Md) (b : Array Nat) (ord : List Nat) (is : List I) (x : I) (j' i : Nat) : Bool :=
  decide (x.v.length = slotAt md is i) && (List.range i).all fun m => !(decide (loAt md is i ≤ m) && mkAt is m && (x.v[slotAt md is m]? == some true)) || bit b j' (ord.getD m 0)

/-- Is the order one of all operations, and may no two of them that hang on one another come the other way round? -/
def drawOk (md : Nat → Md) (ops : Array Oper) (b : Array Nat) (ord : List Nat) (is : List I) : Bool :=
  tableOk ops b && decide (ord.length = ops.size) && decide (is.length = ops.size) && ((List.range ops.size).all fun i => ord.contains i) &&
  (List.range ops.size).all fun j => match is[j]?, ord[j]? with
    | some y, some j' =>
      decide (j' < ops.size) &&
      ((List.range j).all fun i => match is[i]?, ord[i]? with
        | some x, some i' =>
          (i' != j') && (!clash x y || bit b j' i') && (!isBar md y.i || bit b j' i') && (!isBar md x.i || bit b j' i' || still y.i || (y.f && decide (loAt md is j = i + 1)))
        | _, _ => false) &&
      (!reads md y.i ||
        if y.f then (match y.i.kd with | .r => true | _ => false) && decide (0 < loAt md is j) && seesOk md b ord is y j' (loAt md is j - 1) &&
          (List.range (ops.size + 1)).all fun r => !(decide (j ≤ r) && decide (loAt md is r ≤ j) && (decide (r = ops.size) || barAt md is r)) || decide (slotAt md is r = 0)
        else (List.range (ops.size + 1)).all fun r => !(decide (j ≤ r) && decide (loAt md is r ≤ j) && (decide (r = ops.size) || barAt md is r)) || (decide (y.v.length = slotAt md is r) && seesOk md b ord is { y with v := y.v.take (slotAt md is j) } j' j)) &&
      (y.f == false || reads md y.i)
    | _, _ => false

def compReg (P : Program) (md : Nat → Md) (nt : Nat) (ops : Array Oper) (dr : Bool) : Option (List I) :=
  match allM (fun (o : Oper) => match compG ops o.guard with
    | some g => if (match o.dst with | some t => decide (t < nt) | none => true) then some (⟨o.dst, g, [], false, (compOp P o.op).getD .bad⟩ : I) else none
    | none => none) ops.toList with
  | some is =>
    if dr then
      let b := Region.before ops
      let ord := order b ops.size ((List.range ops.size).filter fun j => match is[j]? with | some x => isBar md x.i | none => false)
      match allM (fun j => is[j]?) ord with
      | some js =>
        let ks := (js.zip ord).zipIdx.map fun ((x, j'), p) =>
          let lo := loAt md js p
          let f := match x.i.kd, ord[lo - 1]? with
            | .r, some q => !still x.i && decide (0 < lo) && !bit b j' q
            | _, _ => false
          let hi := ((List.range js.length).filter fun j => p ≤ j && barAt md js j).headD js.length
          let at_ := if f then lo - 1 else hi
          let v := if reads md x.i then ((List.range at_).filter fun m => loAt md js at_ ≤ m && mkAt js m).map fun m => match ord[m]? with | some m' => bit b j' m' | none => false else []
          { x with v := v, f := f }
        if drawOk md ops b ord ks then some ks else none
      | none => none
    else some is
  | none => none

/-- Does a code hold no loop over a function? -/
def noR : C → Bool
  | .range .. => false
  | .seq a b => noR a && noR b
  | .cond _ a b => noR a && noR b
  | .block _ c => noR c
  | .loop c => noR c
  | _ => true

def compC (P : Program) (md : Nat → Md) (nt : Nat) : Code → Option C
  | .skip => some .skip
  | .region _ ops dr => match compReg P md nt ops dr with
    | some is => some (.reg dr is)
    | none => some .bad
  | .seq a b => match compC P md nt a, compC P md nt b with
    | some x, some y => some (.seq x y)
    | _, _ => none
  | .cond c a b => match compOd c, compC P md nt a, compC P md nt b with
    | some c, some x, some y => some (.cond c x y)
    | _, _, _ => some .bad
  | .block n c => (compC P md nt c).map (.block n)
  | .loop c => (compC P md nt c).map .loop
  | .exit n => some (.exit n)
  | .ret => some .ret
  | .label _ => some .skip
  | .rangeFunc x ps asg bd => match compOd x, compC P md nt asg, compC P md nt bd with
    | some x, some a, some b => if noR a && noR b && ps.toList.all (fun t => decide (t < nt)) then some (.range x ps.toList a b) else some .bad
    | _, _, _ => some .bad
  | .scope _ => some .bad
  | .goto _ => some .bad
  | .refuse _ => some .bad

def regR : List I → List Nat → List Nat
  | [], _ => []
  | i :: r, wr =>
    ((insR i.i ++ (match i.g with | some (t, _) => [t] | none => [])).filter fun t => !wr.contains t) ++ regR r (i.d.toList ++ wr)

def codeR : C → List Nat
  | .reg _ is => regR is []
  | .seq a b => codeR a ++ codeR b
  | .cond x a b => odR x ++ codeR a ++ codeR b
  | .range x _ a b => odR x ++ codeR a ++ codeR b
  | .block _ c | .loop c => codeR c
  | _ => []

def resR : RV → Nat
  | .tmp t => t
  | .cell t _ _ => t

def compRes (P : Program) : ResultVar → Option RV
  | .tmp t => some (.tmp t)
  | .cell t ty => match tagg P ty, tsize P ty with
    | some g, some s => some (.cell t g s)
    | _, _ => none

def nodup : List Nat → List Nat
  | [] => []
  | a :: r => let s := nodup r; if s.contains a then s else a :: s

def ins1 (a : Nat) : List Nat → List Nat
  | [] => [a]
  | b :: r => if a ≤ b then a :: b :: r else b :: ins1 a r

def compFn (P : Program) (md : Nat → Md) (f : Func) : Option Fn :=
  match f.body with
  | some c => match compC P md f.ntmps c, allM (compRes P) f.results.toList with
    | some k, some rs => some { vs := (nodup (codeR k ++ rs.map resR)).foldr ins1 [], code := k, res := rs }
    | _, _ => none
  | none => none

end Go.Ev
