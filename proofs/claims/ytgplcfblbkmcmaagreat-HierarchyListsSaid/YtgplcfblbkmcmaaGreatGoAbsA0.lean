/- A deterministic abstract machine over Go's operations: blocks of cells, operations in continuation-passing style. -/
import Derived.Orders
namespace Go.Abs

/-- The abstract heap: blocks by number; none: not there (or dead). -/
structure AH where
  next : Nat
  blk : Nat → Option (List Value)

def AH.cell (h : AH) (b o : Nat) : Option Value := match h.blk b with | some cs => cs[o]? | none => none
def AH.alloc (h : AH) (cs : List Value) : AH := ⟨h.next + 1, fun b => if b = h.next then some cs else h.blk b⟩
def AH.put (h : AH) (b : Nat) (x : Option (List Value)) : AH := ⟨h.next, fun c => if c = b then x else h.blk c⟩

/-- A slice's capacity that is not known: this and the number of cells of an element. -/
def UNK : Nat := 2 ^ 63
/-- The bound of what one slice takes, in bytes. -/
def ROOM : Nat := 2 ^ 47

structure Sl where
  a : Option Addr
  l : Nat
  c : Nat

def Sl.v (s : Sl) : Value := .slice s.a s.l s.c

/-! ### shapes -/
inductive S0 where
  | any | int (k : IntKind) | bool | slice | ptr | nptr
inductive S1 where
  | one (s : S0) | agg (l : List S0)
inductive S2 where
  | one (s : S1) | tup (l : List S1)

section
variable {R : Type}
def asInt (k : IntKind) (v : Value) (K : Int → Option R) : Option R := match v with
  | .int k' n => if k' = k then K n else none
  | _ => none
def asBool (v : Value) (K : Bool → Option R) : Option R := match v with
  | .bool b => K b
  | _ => none
/-- A guard's value: a bool, or the mark of what was left out. -/
def asG (v : Value) (K : Bool → Option R) (k : Option R) : Option R := match v with
  | .bool b => K b
  | .complex .f32 _ _ => k
  | _ => none
def asSl (v : Value) (K : Sl → Option R) : Option R := match v with
  | .slice a l c => K ⟨a, l, c⟩
  | _ => none
def asPtr (v : Value) (K : Addr → Option R) : Option R := match v with
  | .pointer (some a) => K a
  | _ => none
def asNptr (v : Value) (K : Option Addr → Option R) : Option R := match v with
  | .pointer a => K a
  | _ => none
def castK0 (s : S0) (v : Value) (K : Value → Option R) : Option R := match s with
  | .any => K v
  | .int k => asInt k v fun n => K (.int k n)
  | .bool => asBool v fun b => K (.bool b)
  | .slice => asSl v fun s => K (.slice s.a s.l s.c)
  | .ptr => asPtr v fun a => K (.pointer (some a))
  | .nptr => asNptr v fun a => K (.pointer a)
def castsK0 : List S0 → List Value → (List Value → Option R) → Option R
  | [], vs, K => match vs with | [] => K [] | _ => none
  | s :: ss, vs, K => match vs with | v :: vs => castK0 s v fun v' => castsK0 ss vs fun vs' => K (v' :: vs') | [] => none
def asAgg (v : Value) (K : List Value → Option R) : Option R := match v with
  | .agg cs => K cs.toList
  | _ => none
def castK1 (s : S1) (v : Value) (K : Value → Option R) : Option R := match s with
  | .one s => castK0 s v K
  | .agg l => asAgg v fun cs => castsK0 l cs fun cs' => K (.agg ⟨cs'⟩)
def castsK1 : List S1 → List Value → (List Value → Option R) → Option R
  | [], vs, K => match vs with | [] => K [] | _ => none
  | s :: ss, vs, K => match vs with | v :: vs => castK1 s v fun v' => castsK1 ss vs fun vs' => K (v' :: vs') | [] => none
def asTup (v : Value) (K : List Value → Option R) : Option R := match v with
  | .tuple cs => K cs.toList
  | _ => none
def castK2 (s : S2) (v : Value) (K : Value → Option R) : Option R := match s with
  | .one s => castK1 s v K
  | .tup l => asTup v fun cs => castsK1 l cs fun cs' => K (.tuple ⟨cs'⟩)

/-! ### memory -/
def ld (h : AH) (a : Addr) (K : Value → Option R) : Option R := match h.cell a.block a.off with
  | some v => K v
  | none => none
def ldK0 (s : S0) (h : AH) (b o : Nat) (K : Value → Option R) : Option R := match h.cell b o with
  | some v => castK0 s v K
  | none => none
def ldsK0 : List S0 → AH → Nat → Nat → (List Value → Option R) → Option R
  | [], _, _, _, K => K []
  | s :: ss, h, b, o, K => ldK0 s h b o fun v => ldsK0 ss h b (o + 1) fun vs => K (v :: vs)
def setAll : List Value → Nat → List Value → List Value
  | cs, _, [] => cs
  | cs, o, x :: xs => setAll (cs.set o x) (o + 1) xs
/-- A value that lies in one cell. -/
def oneC : Value → Bool
  | .agg _ | .tuple _ | .complex _ _ _ => false
  | _ => true
/-- Cells written into a block; the block's number is at least the floor. -/
def st (fl : Nat) (h : AH) (a : Addr) (xs : List Value) (K : AH → Option R) : Option R := match h.blk a.block with
  | some cs => if fl ≤ a.block then if 0 < xs.length then if a.off + xs.length ≤ cs.length then if xs.all oneC = true then K (h.put a.block (some (setAll cs a.off xs))) else none else none else none else none
  | none => none
/-- The first n cells of a slice. -/
def rdN (h : AH) (a : Option Addr) (n : Nat) (K : List Value → Option R) : Option R := match a with
  | none => if n = 0 then K [] else none
  | some a => match h.blk a.block with
    | some cs => if a.off + n ≤ cs.length then K ((cs.drop a.off).take n) else none
    | none => none
def apnd (fl esz bytes : Nat) (s x : Sl) (h : AH) (K : Sl → AH → Option R) : Option R :=
  if x.l = 0 then K s h else
  if (s.l + x.l) * bytes ≤ ROOM then
    rdN h x.a (x.l * esz) fun xs =>
    match s.a with
    | none => if s.l = 0 ∧ s.c = 0 then K ⟨some ⟨h.next, 0, none⟩, x.l, UNK + esz⟩ (h.alloc xs) else none
    | some a =>
      if s.c < UNK then
        if s.l + x.l ≤ s.c then
          st fl h ⟨a.block, a.off + s.l * esz, none⟩ xs fun h1 => K ⟨s.a, s.l + x.l, s.c⟩ h1
        else rdN h s.a (s.l * esz) fun ys => K ⟨some ⟨h.next, 0, none⟩, s.l + x.l, UNK + esz⟩ (h.alloc (ys ++ xs))
      else
        if fl ≤ a.block ∧ s.c = UNK + esz ∧ xs.all oneC = true then
          rdN h s.a (s.l * esz) fun ys => K ⟨some ⟨h.next, 0, none⟩, s.l + x.l, UNK + esz⟩ ((h.put a.block none).alloc (ys ++ xs))
        else none
  else none
def zrow (z : List Value) (n : Nat) : List Value := (List.replicate n z).flatten
def mkSl (bytes : Nat) (z : List Value) (l c : Int) (h : AH) (K : Sl → AH → Option R) : Option R :=
  if 0 ≤ l ∧ l ≤ c ∧ c * bytes ≤ ROOM then K ⟨some ⟨h.next, 0, none⟩, l.toNat, c.toNat⟩ (h.alloc (zrow z c.toNat)) else none
/-- x[l:h] and x[l:h:m] of a slice. -/
def sub (esz : Nat) (s : Sl) (lo hi mx : Option Int) (K : Sl → Option R) : Option R :=
  if s.c < UNK then
    if 0 ≤ lo.getD 0 ∧ lo.getD 0 ≤ hi.getD s.l ∧ hi.getD s.l ≤ mx.getD s.c ∧ mx.getD s.c ≤ s.c then
      K ⟨if mx.getD s.c = lo.getD 0 then s.a else s.a.map fun a => ⟨a.block, a.off + (lo.getD 0).toNat * esz, none⟩, (hi.getD s.l - lo.getD 0).toNat, (mx.getD s.c - lo.getD 0).toNat⟩
    else none
  else if s.c = UNK + esz ∧ mx.isNone = true then
    if 0 ≤ lo.getD 0 ∧ lo.getD 0 ≤ hi.getD s.l ∧ hi.getD s.l ≤ s.l then
      K ⟨s.a.map fun a => ⟨a.block, a.off + (lo.getD 0).toNat * esz, none⟩, (hi.getD s.l - lo.getD 0).toNat, s.c⟩
    else none
  else none
def idx (esz : Nat) (s : Sl) (i : Int) (K : Addr → Option R) : Option R := match s.a with
  | some a => if 0 ≤ i then if i < s.l then K ⟨a.block, a.off + i.toNat * esz, none⟩ else none else none
  | none => none
def cpy (fl esz : Nat) (d s : Sl) (h : AH) (K : Int → AH → Option R) : Option R :=
  if min s.l d.l = 0 then K 0 h else
  rdN h s.a (min s.l d.l * esz) fun xs => match d.a with
    | some a => st fl h a xs fun h1 => K (min s.l d.l : Nat) h1
    | none => none
end

/-! ### operations -/
inductive Opd where
  | t (i : Nat) | c (v : Value) | f (id : Nat)

def ev (st : List Value) : Opd → Value
  | .t i => st.getD i undef
  | .c v => v
  | .f id => .func (.func id) #[] #[]

inductive AOp where
  | mv (x : Opd)
  | pick (c a b : Opd)
  | box (x : Opd)
  | alloc (z : List Value)
  | build (z : List Value) (parts : List (Nat × Nat × Opd))
  | bslice (len : Nat) (z : List Value) (parts : List (Nat × Nat × Opd))
  | load (sh : S1) (a : Opd)
  | store (n : Nat) (a x : Opd)
  | nilc (x : Opd)
  | bin (op : BinOp) (k : IntKind) (x y : Opd)
  | sh (left : Bool) (k yk : IntKind) (x y : Opd)
  | cmp (op : BinOp) (k : IntKind) (x y : Opd)
  | beq (neg : Bool) (x y : Opd)
  | snil (neg : Bool) (x : Opd)
  | not (x : Opd)
  | neg (k : IntKind) (x : Opd)
  | conv (src dst : IntKind) (x : Opd)
  | mkfn (f : FuncId) (first captured : List Opd)
  | mkslice (bytes : Nat) (z : List Value) (l c : Opd)
  | slice (esz : Nat) (x : Opd) (lo hi mx : Option Opd)
  | faddr (off : Nat) (x : Opd)
  | iaddr (esz : Nat) (x i : Opd)
  | extr (x : Opd) (i : Nat)
  | call (f : Opd) (args : List Opd) (sh : S2)
  | len (x : Opd)
  | append (esz bytes : Nat) (s x : Opd)
  | copy (esz : Nat) (d s : Opd)
  | mm (isMax : Bool) (x y : Opd)
  | sidx (k : IntKind) (bs : List Nat) (i : Opd)

/-- How many bits a byte has. -/
def bitTab : List Nat := [0, 1, 2, 2, 3, 3, 3, 3, 4, 4, 4, 4, 4, 4, 4, 4, 5, 5, 5, 5, 5, 5, 5, 5, 5, 5, 5, 5, 5, 5, 5, 5, 6, 6, 6, 6, 6, 6, 6, 6, 6, 6, 6, 6, 6, 6, 6, 6, 6, 6, 6, 6, 6, 6, 6, 6, 6, 6, 6, 6, 6, 6, 6, 6, 7, 7, 7, 7, 7, 7, 7, 7, 7, 7, 7, 7, 7, 7, 7, 7, 7, 7, 7, 7, 7, 7, 7, 7, 7, 7, 7, 7, 7, 7, 7, 7, 7, 7, 7, 7, 7, 7, 7, 7, 7, 7, 7, 7, 7, 7, 7, 7, 7, 7, 7, 7, 7, 7, 7, 7, 7, 7, 7, 7, 7, 7, 7, 7, 8, 8, 8, 8, 8, 8, 8, 8, 8, 8, 8, 8, 8, 8, 8, 8, 8, 8, 8, 8, 8, 8, 8, 8, 8, 8, 8, 8, 8, 8, 8, 8, 8, 8, 8, 8, 8, 8, 8, 8, 8, 8, 8, 8, 8, 8, 8, 8, 8, 8, 8, 8, 8, 8, 8, 8, 8, 8, 8, 8, 8, 8, 8, 8, 8, 8, 8, 8, 8, 8, 8, 8, 8, 8, 8, 8, 8, 8, 8, 8, 8, 8, 8, 8, 8, 8, 8, 8, 8, 8, 8, 8, 8, 8, 8, 8, 8, 8, 8, 8, 8, 8, 8, 8, 8, 8, 8, 8, 8, 8, 8, 8, 8, 8, 8, 8, 8, 8, 8, 8, 8, 8, 8, 8, 8, 8, 8, 8]

abbrev Callee := Nat → FuncId → List Value → AH → Option (Value × AH)

/-- The cells of a composite value: zeros, then the parts, each at its place. -/
def fillA (st : List Value) : List (Nat × Nat × Opd) → List Value → Option (List Value)
  | [], z => some z
  | (off, size, x) :: ps, z =>
    let cs := (ev st x).cells.toList
    if cs.length = size then if off + size ≤ z.length then if cs.all oneC = true then fillA st ps (setAll z off cs) else none else none else none

def binInt (op : BinOp) (k : IntKind) (a b : Int) : Option Int := match op with
  | .add => some (k.wrap (a + b))
  | .sub => some (k.wrap (a - b))
  | .mul => some (k.wrap (a * b))
  | .quo => if b = 0 then none else some (k.wrap (a.tdiv b))
  | .rem => if b = 0 then none else some (a.tmod b)
  | .and => some (k.wrap (BitVec.ofInt k.bits a &&& BitVec.ofInt k.bits b).toNat)
  | .or => some (k.wrap (BitVec.ofInt k.bits a ||| BitVec.ofInt k.bits b).toNat)
  | .xor => some (k.wrap (BitVec.ofInt k.bits a ^^^ BitVec.ofInt k.bits b).toNat)
  | _ => none
def cmpInt (op : BinOp) (a b : Int) : Option Bool := match op with
  | .eql => some (a == b)
  | .neq => some (a != b)
  | .lss => some (decide (a < b))
  | .leq => some (decide (a ≤ b))
  | .gtr => some (decide (a > b))
  | .geq => some (decide (a ≥ b))
  | _ => none
def shInt (left : Bool) (k : IntKind) (x y : Int) : Option Int :=
  if y < 0 then none else if left then some (k.wrap (x * 2 ^ min y.toNat k.bits)) else some (x.fdiv (2 ^ min y.toNat k.bits))

section
variable {R : Type}
/-- A call, its result in the shape that is asked. -/
def callK (C : Callee) (fl : Nat) (f : Value) (args : List Value) (sh : S2) (h : AH) (K : Value → AH → Option R) : Option R := match f with
  | .func (.func g) a b => match C fl g (a.toList ++ args ++ b.toList) h with
    | some (v, h1) => castK2 sh v fun v' => K v' h1
    | none => none
  | _ => none
def optInt (st : List Value) (o : Option Opd) (K : Option Int → Option R) : Option R := match o with
  | none => K none
  | some x => match ev st x with
    | .int _ n => K (some n)
    | _ => none
def opK (C : Callee) (fl : Nat) (s : List Value) (h : AH) (o : AOp) (K : Value → AH → Option R) : Option R := match o with
  | .mv x => K (ev s x) h
  | .pick c a b => asBool (ev s c) fun t => if t = true then K (ev s a) h else K (ev s b) h
  | .box x => if (ev s x).cells.toList.all oneC = true then K (.pointer (some ⟨h.next, 0, none⟩)) (h.alloc (ev s x).cells.toList) else none
  | .alloc z => K (.pointer (some ⟨h.next, 0, none⟩)) (h.alloc z)
  | .build z ps => match fillA s ps z with
    | some cs => K (.agg ⟨cs⟩) h
    | none => none
  | .bslice len z ps => match fillA s ps z with
    | some cs => K (.slice (some ⟨h.next, 0, none⟩) len len) (h.alloc cs)
    | none => none
  | .load sh a => asPtr (ev s a) fun a => match sh with
    | .one s0 => ldK0 s0 h a.block a.off fun v => K v h
    | .agg l => ldsK0 l h a.block a.off fun vs => K (.agg ⟨vs⟩) h
  | .store n a x => asPtr (ev s a) fun a => if (ev s x).cells.toList.length = n then st fl h a (ev s x).cells.toList fun h1 => K undef h1 else none
  | .nilc x => asPtr (ev s x) fun a => K (.pointer (some a)) h
  | .bin op k x y => asInt k (ev s x) fun a => asInt k (ev s y) fun b => match binInt op k a b with
    | some n => K (.int k n) h
    | none => none
  | .sh left k yk x y => asInt k (ev s x) fun a => asInt yk (ev s y) fun b => match shInt left k a b with
    | some n => K (.int k n) h
    | none => none
  | .cmp op k x y => asInt k (ev s x) fun a => asInt k (ev s y) fun b => match cmpInt op a b with
    | some n => K (.bool n) h
    | none => none
  | .beq neg x y => asBool (ev s x) fun a => asBool (ev s y) fun b => K (.bool (if neg then !(a == b) else a == b)) h
  | .snil neg x => asSl (ev s x) fun a => K (.bool (if neg then !a.a.isNone else a.a.isNone)) h
  | .not x => asBool (ev s x) fun b => K (.bool (!b)) h
  | .neg k x => asInt k (ev s x) fun n => K (.int k (k.wrap (0 - n))) h
  | .conv src dst x => asInt src (ev s x) fun n => K (.int dst (dst.wrap n)) h
  | .mkfn f a b => K (.func (.func f) ⟨a.map (ev s)⟩ ⟨b.map (ev s)⟩) h
  | .mkslice bytes z l c => asInt .i64 (ev s l) fun l => asInt .i64 (ev s c) fun c => mkSl bytes z l c h fun v h1 => K (.slice v.a v.l v.c) h1
  | .slice esz x lo hi mx => asSl (ev s x) fun v => optInt s lo fun lo => optInt s hi fun hi => optInt s mx fun mx => sub esz v lo hi mx fun v => K (.slice v.a v.l v.c) h
  | .faddr off x => asPtr (ev s x) fun a => K (.pointer (some ⟨a.block, a.off + off, none⟩)) h
  | .iaddr esz x i => asSl (ev s x) fun v => asInt .i64 (ev s i) fun i => idx esz v i fun a => K (.pointer (some a)) h
  | .extr x i => asTup (ev s x) fun vs => match vs[i]? with
    | some v => K v h
    | none => none
  | .call f args sh => callK C fl (ev s f) (args.map (ev s)) sh h K
  | .len x => asSl (ev s x) fun v => K (.int .i64 v.l) h
  | .append esz bytes a x => asSl (ev s a) fun a => asSl (ev s x) fun x => apnd fl esz bytes a x h fun v h1 => K (.slice v.a v.l v.c) h1
  | .copy esz d x => asSl (ev s d) fun d => asSl (ev s x) fun x => cpy fl esz d x h fun n h1 => K (.int .i64 n) h1
  | .sidx k bs i => asInt k (ev s i) fun n => if 0 ≤ n then match bs[n.toNat]? with
    | some b => K (.int .u8 b) h
    | none => none
    else none
  | .mm isMax x y => asInt .i64 (ev s x) fun a => asInt .i64 (ev s y) fun b => K (.int .i64 (if isMax then (if b > a then b else a) else (if b < a then b else a))) h
end

/-! ### regions, code -/
structure AOper where
  dst : Option Nat
  op : AOp
  guard : Option (Nat × Bool)
  iso : Bool

/-- The mark of an operation that its guard has left out. -/
def skipv : Value := .complex .f32 7 7

def putT (s : List Value) (d : Option Nat) (v : Value) : List Value := match d with
  | some d => s.set d v
  | none => s

/-- An operation, or a row of operations under one guard. -/
inductive AItem where
  | op (o : AOper)
  | grp (g : Nat) (want : Bool) (os : List AOper)

def withG (g : Nat) (want : Bool) : List AOper → List AOper
  | [] => []
  | o :: os => { o with guard := some (g, want) } :: withG g want os
def flat : List AItem → List AOper
  | [] => []
  | .op o :: is => { o with guard := none } :: flat is
  | .grp g want os :: is => withG g want os ++ flat is

inductive ACode where
  | skip
  | seq (a b : ACode)
  | cond (c : Opd) (a b : ACode)
  | block (id : Nat) (body : ACode)
  | loop (body : ACode)
  | exit (id : Nat)
  | ret
  | region (ops : List AItem) (kill : List Nat)

inductive Flow where
  | normal | exit (id : Nat) | ret

def killT : List Nat → List Value → List Value
  | [], s => s
  | t :: ts, s => killT ts (s.set t undef)

section
variable {R : Type}
def regK (C : Callee) (fl : Nat) : List AOper → List Value → AH → (List Value → AH → Option R) → Option R
  | [], s, h, K => K s h
  | o :: os, s, h, K => match o.guard with
    | none => opK C (if o.iso = true then fl else h.next) s h o.op fun v h1 => regK C fl os (putT s o.dst v) h1 K
    | some (g, want) => asG (s.getD g undef) (fun b =>
      if b = want then opK C (if o.iso = true then fl else h.next) s h o.op fun v h1 => regK C fl os (putT s o.dst v) h1 K
      else regK C fl os (putT s o.dst skipv) h K) (regK C fl os (putT s o.dst skipv) h K)

def regN (C : Callee) (fl : Nat) : List AOper → List Value → AH → (List Value → AH → Option R) → Option R
  | [], s, h, K => K s h
  | o :: os, s, h, K => opK C (if o.iso = true then fl else h.next) s h o.op fun v h1 => regN C fl os (putT s o.dst v) h1 K
def skips : List AOper → List Value → List Value
  | [], s => s
  | o :: os, s => skips os (putT s o.dst skipv)
def regG (C : Callee) (fl : Nat) : List AItem → List Value → AH → (List Value → AH → Option R) → Option R
  | [], s, h, K => K s h
  | .op o :: is, s, h, K => opK C (if o.iso = true then fl else h.next) s h o.op fun v h1 => regG C fl is (putT s o.dst v) h1 K
  | .grp g want os :: is, s, h, K => asG (s.getD g undef) (fun b =>
    if b = want then regN C fl os (s.set g (.bool want)) h fun s h => regG C fl is s h K
    else regG C fl is (skips os (s.set g (.bool !want))) h K) (regG C fl is (skips os s) h K)

def loopK : Nat → (List Value → AH → (List Value → AH → Option R) → Option R) → List Value → AH → Option R
  | 0, _, _, _ => none
  | k + 1, step, s, h => step s h fun s h => loopK k step s h

def cexec (C : Callee) (fl k : Nat) : ACode → List Value → AH → (Flow → List Value → AH → Option R) → Option R
  | .skip, s, h, K => K .normal s h
  | .seq a b, s, h, K => cexec C fl k a s h fun f s h => match f with
    | .normal => cexec C fl k b s h K
    | .exit i => K (.exit i) s h
    | .ret => K .ret s h
  | .cond c a b, s, h, K => asBool (ev s c) fun t => if t = true then cexec C fl k a s h K else cexec C fl k b s h K
  | .block id c, s, h, K => cexec C fl k c s h fun f s h => match f with
    | .normal => K .normal s h
    | .exit i => if i = id then K .normal s h else K (.exit i) s h
    | .ret => K .ret s h
  | .loop c, s, h, K => loopK k (fun s h next => cexec C fl k c s h fun f s h => match f with
    | .normal => next s h
    | .exit i => K (.exit i) s h
    | .ret => K .ret s h) s h
  | .exit id, s, h, K => K (.exit id) s h
  | .ret, s, h, K => K .ret s h
  | .region ops kill, s, h, K => regG C fl ops s h fun s h => K .normal (killT kill s) h
end

/-- A result: a temporary, or a variable in memory. -/
inductive ARes where
  | tmp (t : Nat)
  | cell (t : Nat) (sh : S1)

structure AFunc where
  ntmps : Nat
  body : ACode
  results : List ARes

def tupV : List Value → Value
  | [v] => v
  | vs => .tuple ⟨vs⟩

def resK {R : Type} : List ARes → List Value → AH → (List Value → Option R) → Option R
  | [], _, _, K => K []
  | .tmp t :: rs, s, h, K => resK rs s h fun vs => K (s.getD t undef :: vs)
  | .cell t sh :: rs, s, h, K => asPtr (s.getD t undef) fun a => match sh with
    | .one s0 => ldK0 s0 h a.block a.off fun v => resK rs s h fun vs => K (v :: vs)
    | .agg l => ldsK0 l h a.block a.off fun cs => resK rs s h fun vs => K (.agg ⟨cs⟩ :: vs)

def finalK (rs : List ARes) : Flow → List Value → AH → Option (Value × AH)
  | .normal, s, h => resK rs s h fun vs => some (tupV vs, h)
  | .ret, s, h => resK rs s h fun vs => some (tupV vs, h)
  | .exit _, _, _ => none

def runF (C : Callee) (fl k : Nat) (af : AFunc) (args : List Value) (h : AH) : Option (Value × AH) :=
  cexec C fl k af.body (args ++ List.replicate (af.ntmps - args.length) undef) h (finalK af.results)

/-- Functions by their code; what has none, by E. -/
def acall (T : FuncId → Option AFunc) (E : Callee) : Nat → Callee
  | 0, _, _, _, _ => none
  | k + 1, fl, f, args, h => match T f with
    | some af => runF (acall T E k) fl k af args h
    | none => E fl f args h

end Go.Abs
