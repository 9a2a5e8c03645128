/- Shortened by a program of ours out of readable texts. -/
import Derived.Orders
import Derived.Below
import Derived.Laws.AppendOwn
import Derived.Laws.Sem
import Derived.Laws.Entries
import Derived.Laws.Slices
import Derived.Laws.CopyRow
import Derived.ChangeKeysEq
import Derived.Laws.MakeOwn
import Derived.Great.BuildSlice
import Derived.LoopN
set_option linter.all false
section
namespace Go.Abs
structure AH where
 next:Nat
 iq:Nat→Option (List Value)
def AH.cell(h:AH)(b o:Nat):Option Value:=match h.iq b with|some cs=>cs[o]?|none=>none
def AH.alloc(h:AH)(cs:List Value):AH:=⟨h.next+1,fun b=>if b=h.next then some cs else h.iq b⟩
def AH.put(h:AH)(b:Nat)(x:Option (List Value)):AH:=⟨h.next,fun c=>if c=b then x else h.iq c⟩
def pB:Nat:=2^63
def lk:Nat:=2^47
structure Sl where
 a:Option Addr
 l:Nat
 c:Nat
def Sl.v(s:Sl):Value:=.slice s.a s.l s.c
inductive S0 where
 |any|int (k:IntKind)|bool|slice|ptr|jW
inductive S1 where
 |one (s:S0)|agg (l:List S0)
inductive S2 where
 |one (s:S1)|jn (l:List S1)
section
variable{R:Type}
def asInt(k:IntKind)(v:Value)(K:Int→Option R):Option R:=match v with
 |.int k' n=>if k'=k then K n else none
 |_=>none
def asBool(v:Value)(K:Bool→Option R):Option R:=match v with
 |.bool b=>K b
 |_=>none
def XA(v:Value)(K:Bool→Option R)(k:Option R):Option R:=match v with
 |.bool b=>K b
 |.complex .f32 _ _=>k
 |_=>none
def bB(v:Value)(K:Sl→Option R):Option R:=match v with
 |.slice a l c=>K ⟨a,l,c⟩
 |_=>none
def cT(v:Value)(K:Addr→Option R):Option R:=match v with
 |.pointer (some a)=>K a
 |_=>none
def fE(v:Value)(K:Option Addr→Option R):Option R:=match v with
 |.pointer a=>K a
 |_=>none
def nY(s:S0)(v:Value)(K:Value→Option R):Option R:=match s with
 |.any=>K v
 |.int k=>asInt k v fun n=>K (.int k n)
 |.bool=>asBool v fun b=>K (.bool b)
 |.slice=>bB v fun s=>K (.slice s.a s.l s.c)
 |.ptr=>cT v fun a=>K (.pointer (some a))
 |.jW=>fE v fun a=>K (.pointer a)
def Ac:List S0→List Value→(List Value→Option R)→Option R
 |[],vs,K=>match vs with|[]=>K []|_=>none
 |s::ss,vs,K=>match vs with|v::vs=>nY s v fun v'=>Ac ss vs fun yn=>K (v'::yn)|[]=>none
def asAgg(v:Value)(K:List Value→Option R):Option R:=match v with
 |.agg cs=>K cs.toList
 |_=>none
def FF(s:S1)(v:Value)(K:Value→Option R):Option R:=match s with
 |.one s=>nY s v K
 |.agg l=>asAgg v fun cs=>Ac l cs fun eE=>K (.agg ⟨eE⟩)
def Ad:List S1→List Value→(List Value→Option R)→Option R
 |[],vs,K=>match vs with|[]=>K []|_=>none
 |s::ss,vs,K=>match vs with|v::vs=>FF s v fun v'=>Ad ss vs fun yn=>K (v'::yn)|[]=>none
def bj(v:Value)(K:List Value→Option R):Option R:=match v with
 |.tuple cs=>K cs.toList
 |_=>none
def Kz(s:S2)(v:Value)(K:Value→Option R):Option R:=match s with
 |.one s=>FF s v K
 |.jn l=>bj v fun cs=>Ad l cs fun eE=>K (.tuple ⟨eE⟩)
def ld(h:AH)(a:Addr)(K:Value→Option R):Option R:=match h.cell a.block a.off with
 |some v=>K v
 |none=>none
def KA(s:S0)(h:AH)(b o:Nat)(K:Value→Option R):Option R:=match h.cell b o with
 |some v=>nY s v K
 |none=>none
def Ff:List S0→AH→Nat→Nat→(List Value→Option R)→Option R
 |[],_,_,_,K=>K []
 |s::ss,h,b,o,K=>KA s h b o fun v=>Ff ss h b (o+1) fun vs=>K (v::vs)
def mh:List Value→Nat→List Value→List Value
 |cs,_,[]=>cs
 |cs,o,x::xs=>mh (cs.set o x) (o+1) xs
def yp:Value→Bool
 |.agg _|.tuple _|.complex _ _ _=>false
 |_=>true
def st(fl:Nat)(h:AH)(a:Addr)(xs:List Value)(K:AH→Option R):Option R:=match h.iq a.block with
 |some cs=>if fl≤a.block then if 0<xs.length then if a.off+xs.length≤cs.length then if xs.all yp=true then K (h.put a.block (some (mh cs a.off xs))) else none else none else none else none
 |none=>none
def Fg(h:AH)(a:Option Addr)(n:Nat)(K:List Value→Option R):Option R:=match a with
 |none=>if n=0 then K [] else none
 |some a=>match h.iq a.block with
  |some cs=>if a.off+n≤cs.length then K ((cs.drop a.off).take n) else none
  |none=>none
def iJ(fl jZ bytes:Nat)(s x:Sl)(h:AH)(K:Sl→AH→Option R):Option R:=
 if x.l=0 then K s h else
 if (s.l+x.l)*bytes≤lk then
  Fg h x.a (x.l*jZ) fun xs=>
  match s.a with
  |none=>if s.l=0∧s.c=0 then K ⟨some ⟨h.next,0,none⟩,x.l,pB+jZ⟩ (h.alloc xs) else none
  |some a=>
   if s.c<pB then
    if s.l+x.l≤s.c then
     st fl h ⟨a.block,a.off+s.l*jZ,none⟩ xs fun h1=>K ⟨s.a,s.l+x.l,s.c⟩ h1
    else Fg h s.a (s.l*jZ) fun ys=>K ⟨some ⟨h.next,0,none⟩,s.l+x.l,pB+jZ⟩ (h.alloc (ys++xs))
   else
    if fl≤a.block∧s.c=pB+jZ∧xs.all yp=true then
     Fg h s.a (s.l*jZ) fun ys=>K ⟨some ⟨h.next,0,none⟩,s.l+x.l,pB+jZ⟩ ((h.put a.block none).alloc (ys++xs))
    else none
 else none
def KB(z:List Value)(n:Nat):List Value:=(List.replicate n z).flatten
def wU(bytes:Nat)(z:List Value)(l c:Int)(h:AH)(K:Sl→AH→Option R):Option R:=
 if 0≤l∧l≤c∧c*bytes≤lk then K ⟨some ⟨h.next,0,none⟩,l.toNat,c.toNat⟩ (h.alloc (KB z c.toNat)) else none
def sub(jZ:Nat)(s:Sl)(lo hi mx:Option Int)(K:Sl→Option R):Option R:=
 if s.c<pB then
  if 0≤lo.getD 0∧lo.getD 0≤hi.getD s.l∧hi.getD s.l≤mx.getD s.c∧mx.getD s.c≤s.c then
   K ⟨if mx.getD s.c=lo.getD 0 then s.a else s.a.map fun a=>⟨a.block,a.off+(lo.getD 0).toNat*jZ,none⟩,(hi.getD s.l-lo.getD 0).toNat,(mx.getD s.c-lo.getD 0).toNat⟩
  else none
 else if s.c=pB+jZ∧mx.isNone=true then
  if 0≤lo.getD 0∧lo.getD 0≤hi.getD s.l∧hi.getD s.l≤s.l then
   K ⟨s.a.map fun a=>⟨a.block,a.off+(lo.getD 0).toNat*jZ,none⟩,(hi.getD s.l-lo.getD 0).toNat,s.c⟩
  else none
 else none
def idx(jZ:Nat)(s:Sl)(i:Int)(K:Addr→Option R):Option R:=match s.a with
 |some a=>if 0≤i then if i<s.l then K ⟨a.block,a.off+i.toNat*jZ,none⟩ else none else none
 |none=>none
def cpy(fl jZ:Nat)(d s:Sl)(h:AH)(K:Int→AH→Option R):Option R:=
 if min s.l d.l=0 then K 0 h else
 Fg h s.a (min s.l d.l*jZ) fun xs=>match d.a with
  |some a=>st fl h a xs fun h1=>K (min s.l d.l:Nat) h1
  |none=>none
end
inductive my where
 |t (i:Nat)|c (v:Value)|f (id:Nat)
def ev(st:List Value):my→Value
 |.t i=>st.getD i undef
 |.c v=>v
 |.f id=>.func (.func id) #[] #[]
inductive HO where
 |mv (x:my)
 |pick (c a b:my)
 |box (x:my)
 |alloc (z:List Value)
 |build (z:List Value) (parts:List (Nat×Nat×my))
 |aO (len:Nat) (z:List Value) (parts:List (Nat×Nat×my))
 |load (sh:S1) (a:my)
 |store (n:Nat) (a x:my)
 |cg (x:my)
 |bin (op:BinOp) (k:IntKind) (x y:my)
 |sh (left:Bool) (k yk:IntKind) (x y:my)
 |cmp (op:BinOp) (k:IntKind) (x y:my)
 |beq (neg:Bool) (x y:my)
 |Fc (neg:Bool) (x:my)
 |not (x:my)
 |neg (k:IntKind) (x:my)
 |conv (src dst:IntKind) (x:my)
 |vf (f:FuncId) (first captured:List my)
 |cH (bytes:Nat) (z:List Value) (l c:my)
 |slice (jZ:Nat) (x:my) (lo hi mx:Option my)
 |bR (off:Nat) (x:my)
 |di (jZ:Nat) (x i:my)
 |Kp (x:my) (i:Nat)
 |call (f:my) (args:List my) (sh:S2)
 |len (x:my)
 |append (jZ bytes:Nat) (s x:my)
 |copy (jZ:Nat) (d s:my)
 |mm (isMax:Bool) (x y:my)
 |Kq (k:IntKind) (bs:List Nat) (i:my)
def atS:List Nat:=[0,1,2,2,3,3,3,3,4,4,4,4,4,4,4,4,5,5,5,5,5,5,5,5,5,5,5,5,5,5,5,5,6,6,6,6,6,6,6,6,6,6,6,6,6,6,6,6,6,6,6,6,6,6,6,6,6,6,6,6,6,6,6,6,7,7,7,7,7,7,7,7,7,7,7,7,7,7,7,7,7,7,7,7,7,7,7,7,7,7,7,7,7,7,7,7,7,7,7,7,7,7,7,7,7,7,7,7,7,7,7,7,7,7,7,7,7,7,7,7,7,7,7,7,7,7,7,7,8,8,8,8,8,8,8,8,8,8,8,8,8,8,8,8,8,8,8,8,8,8,8,8,8,8,8,8,8,8,8,8,8,8,8,8,8,8,8,8,8,8,8,8,8,8,8,8,8,8,8,8,8,8,8,8,8,8,8,8,8,8,8,8,8,8,8,8,8,8,8,8,8,8,8,8,8,8,8,8,8,8,8,8,8,8,8,8,8,8,8,8,8,8,8,8,8,8,8,8,8,8,8,8,8,8,8,8,8,8,8,8,8,8,8,8,8,8,8,8,8,8,8,8,8,8,8,8]
abbrev Callee:=Nat→FuncId→List Value→AH→Option (Value×AH)
def pC(st:List Value):List (Nat×Nat×my)→List Value→Option (List Value)
 |[],z=>some z
 |(off,size,x)::ps,z=>
  let cs:=(ev st x).cells.toList
  if cs.length=size then if off+size≤z.length then if cs.all yp=true then pC st ps (mh z off cs) else none else none else none
def Cg(op:BinOp)(k:IntKind)(a b:Int):Option Int:=match op with
 |.add=>some (k.wrap (a+b))
 |.sub=>some (k.wrap (a-b))
 |.mul=>some (k.wrap (a*b))
 |.quo=>if b=0 then none else some (k.wrap (a.tdiv b))
 |.rem=>if b=0 then none else some (a.tmod b)
 |.and=>some (k.wrap (BitVec.ofInt k.bits a&&&BitVec.ofInt k.bits b).toNat)
 |.or=>some (k.wrap (BitVec.ofInt k.bits a|||BitVec.ofInt k.bits b).toNat)
 |.xor=>some (k.wrap (BitVec.ofInt k.bits a^^^BitVec.ofInt k.bits b).toNat)
 |_=>none
def aiD(op:BinOp)(a b:Int):Option Bool:=match op with
 |.eql=>some (a==b)
 |.neq=>some (a !=b)
 |.lss=>some (decide (a<b))
 |.leq=>some (decide (a≤b))
 |.gtr=>some (decide (a>b))
 |.geq=>some (decide (a≥b))
 |_=>none
def XB(left:Bool)(k:IntKind)(x y:Int):Option Int:=
 if y<0 then none else if left then some (k.wrap (x*2^min y.toNat k.bits)) else some (x.fdiv (2^min y.toNat k.bits))
section
variable{R:Type}
def Ps(C:Callee)(fl:Nat)(f:Value)(args:List Value)(sh:S2)(h:AH)(K:Value→AH→Option R):Option R:=match f with
 |.func (.func g) a b=>match C fl g (a.toList++args++b.toList) h with
  |some (v,h1)=>Kz sh v fun v'=>K v' h1
  |none=>none
 |_=>none
def fT(st:List Value)(o:Option my)(K:Option Int→Option R):Option R:=match o with
 |none=>K none
 |some x=>match ev st x with
  |.int _ n=>K (some n)
  |_=>none
def cQ(C:Callee)(fl:Nat)(s:List Value)(h:AH)(o:HO)(K:Value→AH→Option R):Option R:=match o with
 |.mv x=>K (ev s x) h
 |.pick c a b=>asBool (ev s c) fun t=>if t=true then K (ev s a) h else K (ev s b) h
 |.box x=>if (ev s x).cells.toList.all yp=true then K (.pointer (some ⟨h.next,0,none⟩)) (h.alloc (ev s x).cells.toList) else none
 |.alloc z=>K (.pointer (some ⟨h.next,0,none⟩)) (h.alloc z)
 |.build z ps=>match pC s ps z with
  |some cs=>K (.agg ⟨cs⟩) h
  |none=>none
 |.aO len z ps=>match pC s ps z with
  |some cs=>K (.slice (some ⟨h.next,0,none⟩) len len) (h.alloc cs)
  |none=>none
 |.load sh a=>cT (ev s a) fun a=>match sh with
  |.one s0=>KA s0 h a.block a.off fun v=>K v h
  |.agg l=>Ff l h a.block a.off fun vs=>K (.agg ⟨vs⟩) h
 |.store n a x=>cT (ev s a) fun a=>if (ev s x).cells.toList.length=n then st fl h a (ev s x).cells.toList fun h1=>K undef h1 else none
 |.cg x=>cT (ev s x) fun a=>K (.pointer (some a)) h
 |.bin op k x y=>asInt k (ev s x) fun a=>asInt k (ev s y) fun b=>match Cg op k a b with
  |some n=>K (.int k n) h
  |none=>none
 |.sh left k yk x y=>asInt k (ev s x) fun a=>asInt yk (ev s y) fun b=>match XB left k a b with
  |some n=>K (.int k n) h
  |none=>none
 |.cmp op k x y=>asInt k (ev s x) fun a=>asInt k (ev s y) fun b=>match aiD op a b with
  |some n=>K (.bool n) h
  |none=>none
 |.beq neg x y=>asBool (ev s x) fun a=>asBool (ev s y) fun b=>K (.bool (if neg then !(a==b) else a==b)) h
 |.Fc neg x=>bB (ev s x) fun a=>K (.bool (if neg then !a.a.isNone else a.a.isNone)) h
 |.not x=>asBool (ev s x) fun b=>K (.bool (!b)) h
 |.neg k x=>asInt k (ev s x) fun n=>K (.int k (k.wrap (0-n))) h
 |.conv src dst x=>asInt src (ev s x) fun n=>K (.int dst (dst.wrap n)) h
 |.vf f a b=>K (.func (.func f) ⟨a.map (ev s)⟩ ⟨b.map (ev s)⟩) h
 |.cH bytes z l c=>asInt .i64 (ev s l) fun l=>asInt .i64 (ev s c) fun c=>wU bytes z l c h fun v h1=>K (.slice v.a v.l v.c) h1
 |.slice jZ x lo hi mx=>bB (ev s x) fun v=>fT s lo fun lo=>fT s hi fun hi=>fT s mx fun mx=>sub jZ v lo hi mx fun v=>K (.slice v.a v.l v.c) h
 |.bR off x=>cT (ev s x) fun a=>K (.pointer (some ⟨a.block,a.off+off,none⟩)) h
 |.di jZ x i=>bB (ev s x) fun v=>asInt .i64 (ev s i) fun i=>idx jZ v i fun a=>K (.pointer (some a)) h
 |.Kp x i=>bj (ev s x) fun vs=>match vs[i]? with
  |some v=>K v h
  |none=>none
 |.call f args sh=>Ps C fl (ev s f) (args.map (ev s)) sh h K
 |.len x=>bB (ev s x) fun v=>K (.int .i64 v.l) h
 |.append jZ bytes a x=>bB (ev s a) fun a=>bB (ev s x) fun x=>iJ fl jZ bytes a x h fun v h1=>K (.slice v.a v.l v.c) h1
 |.copy jZ d x=>bB (ev s d) fun d=>bB (ev s x) fun x=>cpy fl jZ d x h fun n h1=>K (.int .i64 n) h1
 |.Kq k bs i=>asInt k (ev s i) fun n=>if 0≤n then match bs[n.toNat]? with
  |some b=>K (.int .u8 b) h
  |none=>none
  else none
 |.mm isMax x y=>asInt .i64 (ev s x) fun a=>asInt .i64 (ev s y) fun b=>K (.int .i64 (if isMax then (if b>a then b else a) else (if b<a then b else a))) h
end
structure bD where
 dst:Option Nat
 op:HO
 guard:Option (Nat×Bool)
 Ku:Bool
def yq:Value:=.complex .f32 7 7
def mY(s:List Value)(d:Option Nat)(v:Value):List Value:=match d with
 |some d=>s.set d v
 |none=>s
inductive fU where
 |op (o:bD)
 |fb (g:Nat) (want:Bool) (os:List bD)
def LQ(g:Nat)(want:Bool):List bD→List bD
 |[]=>[]
 |o::os=>{o with guard:=some (g,want)}::LQ g want os
def flat:List fU→List bD
 |[]=>[]
 |.op o::is=>{o with guard:=none}::flat is
 |.fb g want os::is=>LQ g want os++flat is
inductive ab where
 |skip
 |seq (a b:ab)
 |cond (c:my) (a b:ab)
 |block (id:Nat) (body:ab)
 |loop (body:ab)
 |exit (id:Nat)
 |ret
 |region (ops:List fU) (kill:List Nat)
inductive nZ where
 |normal|exit (id:Nat)|ret
def Ch:List Nat→List Value→List Value
 |[],s=>s
 |t::ts,s=>Ch ts (s.set t undef)
section
variable{R:Type}
def pz(C:Callee)(fl:Nat):List bD→List Value→AH→(List Value→AH→Option R)→Option R
 |[],s,h,K=>K s h
 |o::os,s,h,K=>match o.guard with
  |none=>cQ C (if o.Ku=true then fl else h.next) s h o.op fun v h1=>pz C fl os (mY s o.dst v) h1 K
  |some (g,want)=>XA (s.getD g undef) (fun b=>
   if b=want then cQ C (if o.Ku=true then fl else h.next) s h o.op fun v h1=>pz C fl os (mY s o.dst v) h1 K
   else pz C fl os (mY s o.dst yq) h K) (pz C fl os (mY s o.dst yq) h K)
def FG(C:Callee)(fl:Nat):List bD→List Value→AH→(List Value→AH→Option R)→Option R
 |[],s,h,K=>K s h
 |o::os,s,h,K=>cQ C (if o.Ku=true then fl else h.next) s h o.op fun v h1=>FG C fl os (mY s o.dst v) h1 K
def HP:List bD→List Value→List Value
 |[],s=>s
 |o::os,s=>HP os (mY s o.dst yq)
def xX(C:Callee)(fl:Nat):List fU→List Value→AH→(List Value→AH→Option R)→Option R
 |[],s,h,K=>K s h
 |.op o::is,s,h,K=>cQ C (if o.Ku=true then fl else h.next) s h o.op fun v h1=>xX C fl is (mY s o.dst v) h1 K
 |.fb g want os::is,s,h,K=>XA (s.getD g undef) (fun b=>
  if b=want then FG C fl os (s.set g (.bool want)) h fun s h=>xX C fl is s h K
  else xX C fl is (HP os (s.set g (.bool !want))) h K) (xX C fl is (HP os s) h K)
def aQ:Nat→(List Value→AH→(List Value→AH→Option R)→Option R)→List Value→AH→Option R
 |0,_,_,_=>none
 |k+1,step,s,h=>step s h fun s h=>aQ k step s h
def bN(C:Callee)(fl k:Nat):ab→List Value→AH→(nZ→List Value→AH→Option R)→Option R
 |.skip,s,h,K=>K .normal s h
 |.seq a b,s,h,K=>bN C fl k a s h fun f s h=>match f with
  |.normal=>bN C fl k b s h K
  |.exit i=>K (.exit i) s h
  |.ret=>K .ret s h
 |.cond c a b,s,h,K=>asBool (ev s c) fun t=>if t=true then bN C fl k a s h K else bN C fl k b s h K
 |.block id c,s,h,K=>bN C fl k c s h fun f s h=>match f with
  |.normal=>K .normal s h
  |.exit i=>if i=id then K .normal s h else K (.exit i) s h
  |.ret=>K .ret s h
 |.loop c,s,h,K=>aQ k (fun s h next=>bN C fl k c s h fun f s h=>match f with
  |.normal=>next s h
  |.exit i=>K (.exit i) s h
  |.ret=>K .ret s h) s h
 |.exit id,s,h,K=>K (.exit id) s h
 |.ret,s,h,K=>K .ret s h
 |.region ops kill,s,h,K=>xX C fl ops s h fun s h=>K .normal (Ch kill s) h
end
inductive Ci where
 |tmp (t:Nat)
 |cell (t:Nat) (sh:S1)
structure aB where
 ntmps:Nat
 body:ab
 results:List Ci
def abo:List Value→Value
 |[v]=>v
 |vs=>.tuple ⟨vs⟩
def FH{R:Type}:List Ci→List Value→AH→(List Value→Option R)→Option R
 |[],_,_,K=>K []
 |.tmp t::rs,s,h,K=>FH rs s h fun vs=>K (s.getD t undef::vs)
 |.cell t sh::rs,s,h,K=>cT (s.getD t undef) fun a=>match sh with
  |.one s0=>KA s0 h a.block a.off fun v=>FH rs s h fun vs=>K (v::vs)
  |.agg l=>Ff l h a.block a.off fun cs=>FH rs s h fun vs=>K (.agg ⟨cs⟩::vs)
def aE(rs:List Ci):nZ→List Value→AH→Option (Value×AH)
 |.normal,s,h=>FH rs s h fun vs=>some (abo vs,h)
 |.ret,s,h=>FH rs s h fun vs=>some (abo vs,h)
 |.exit _,_,_=>none
def bk(C:Callee)(fl k:Nat)(af:aB)(args:List Value)(h:AH):Option (Value×AH):=
 bN C fl k af.body (args++List.replicate (af.ntmps-args.length) undef) h (aE af.results)
def Bn(T:FuncId→Option aB)(E:Callee):Nat→Callee
 |0,_,_,_,_=>none
 |k+1,fl,f,args,h=>match T f with
  |some af=>bk (Bn T E k) fl k af args h
  |none=>E fl f args h
end Go.Abs
end
section
namespace Go.Abs
def c8(w:World)(rb:Nat):Nat:=match w.heap[rb]? with
 |some (.cells c _ _)=>c.size
 |_=>0
abbrev Mu:=Nat→Option (Nat×Nat)
inductive cC (μ:Mu) (sz:Nat→Nat):Value→Value→Prop
 |ue (v):cC μ sz (.tuple #[]) v
 |skip:cC μ sz yq (.tuple #[])
 |bool (b):cC μ sz (.bool b) (.bool b)
 |int (k n):cC μ sz (.int k n) (.int k n)
 |LN:cC μ sz (.pointer none) (.pointer none)
 |ptr {b o s rb off}:μ b=some (rb,off)→cC μ sz (.pointer (some ⟨b,o,s⟩)) (.pointer (some ⟨rb,off+o,none⟩))
 |kZ:cC μ sz (.slice none 0 0) (.slice none 0 0)
 |slice {b o s rb off l c}:μ b=some (rb,off)→c<pB→l≤c→cC μ sz (.slice (some ⟨b,o,s⟩) l c) (.slice (some ⟨rb,off+o,none⟩) l c)
 |mq {b o s rb off o' l c es}:μ b=some (rb,off)→(l=0∨o'=off+o)→l≤c→o'+c*es≤sz rb→
  cC μ sz (.slice (some ⟨b,o,s⟩) l (pB+es)) (.slice (some ⟨rb,o',none⟩) l c)
 |S9 {x a}:cC μ sz (.slice (some x) 0 0) (.slice (some a) 0 0)
 |nilFunc:cC μ sz .nilFunc .nilFunc
 |func {f} {f1 f2 c1 c2:List Value}:f1.length=f2.length→(∀(i:Nat) (h1:i<f1.length) (h2:i<f2.length),cC μ sz f1[i] f2[i])→
  c1.length=c2.length→(∀(i:Nat) (h1:i<c1.length) (h2:i<c2.length),cC μ sz c1[i] c2[i])→
  cC μ sz (.func (.func f) ⟨f1⟩ ⟨c1⟩) (.func (.func f) ⟨f2⟩ ⟨c2⟩)
 |agg {f1 f2:List Value}:f1.length=f2.length→(∀(i:Nat) (h1:i<f1.length) (h2:i<f2.length),cC μ sz f1[i] f2[i])→cC μ sz (.agg ⟨f1⟩) (.agg ⟨f2⟩)
 |tuple {f1 f2:List Value}:f1.length=f2.length→(∀(i:Nat) (h1:i<f1.length) (h2:i<f2.length),cC μ sz f1[i] f2[i])→cC μ sz (.tuple ⟨f1⟩) (.tuple ⟨f2⟩)
def bq(μ:Mu)(sz:Nat→Nat)(xs ys:List Value):Prop:=
 xs.length=ys.length∧∀(i:Nat) (h1:i<xs.length) (h2:i<ys.length),cC μ sz xs[i] ys[i]
theorem bq.nil{μ sz}:bq μ sz [] []:=⟨rfl,fun i h1=>by simp at h1⟩
theorem bq.cons{μ sz x y xs ys}(h:cC μ sz x y)(t:bq μ sz xs ys):bq μ sz (x::xs) (y::ys):=
 ⟨by simp[t.1],fun i h1 h2=>by
  cases i with
  |zero=>exact h
  |succ i=>exact t.2 i (by simpa using h1) (by simpa using h2)⟩
theorem bq.append{μ sz xs ys wS ys'}(h:bq μ sz xs ys)(t:bq μ sz wS ys'):bq μ sz (xs++wS) (ys++ys'):=by
 refine⟨by simp[h.1,t.1],fun i h1 h2=>?_⟩
 by_cases hi:i<xs.length
 ·rw[List.getElem_append_left hi,List.getElem_append_left (h.1▸hi)];exact h.2 i hi _
 ·have h3:¬i<ys.length:=h.1▸hi
  rw[List.getElem_append_right (by omega),List.getElem_append_right (by omega)]
  have:=t.2 (i-xs.length) (by simp at h1;omega) (by simp at h2;have:=h.1;omega)
  simp only[h.1] at this ⊢
  exact this
theorem bq.get{μ sz xs ys}(h:bq μ sz xs ys){i:Nat}{v}(hv:xs[i]?=some v):∃v',ys[i]?=some v'∧cC μ sz v v':=by
 obtain⟨hi,rfl⟩:=List.getElem?_eq_some_iff.1 hv
 have Bl:i<ys.length:=h.1▸hi
 exact⟨ys[i],List.getElem?_eq_getElem Bl,h.2 i hi Bl⟩
theorem bq.abp{μ sz xs ys}(hl:xs.length=ys.length)(h:∀(i:Nat) v,xs[i]?=some v→∃v',ys[i]?=some v'∧cC μ sz v v'):bq μ sz xs ys:=
 ⟨hl,fun i h1 h2=>by
  obtain⟨v',hv',hr⟩:=h i _ (List.getElem?_eq_getElem h1)
  rw[List.getElem?_eq_getElem h2] at hv'
  injection hv' with hv'
  subst hv';exact hr⟩
theorem cC.mono{μ μ':Mu}{sz sz':Nat→Nat}{v v':Value}(h:cC μ sz v v')(hm:∀b x,μ b=some x→μ' b=some x)
 (hs:∀b rb o,μ b=some (rb,o)→sz rb≤sz' rb):cC μ' sz' v v':=by
 induction h with
 |ue v=>exact .ue v
 |skip=>exact .skip
 |bool b=>exact .bool b
 |int k n=>exact .int k n
 |LN=>exact .LN
 |ptr h=>exact .ptr (hm _ _ h)
 |kZ=>exact .kZ
 |slice h hc h1=>exact .slice (hm _ _ h) hc h1
 |mq h h1 h2 h3=>exact .mq (hm _ _ h) h1 h2 (Nat.le_trans h3 (hs _ _ _ h))
 |S9=>exact .S9
 |nilFunc=>exact .nilFunc
 |func l1 _ l2 _ ih1 ih2=>exact .func l1 ih1 l2 ih2
 |agg l _ ih=>exact .agg l ih
 |tuple l _ ih=>exact .tuple l ih
structure yo(base aq:Nat)(μ:Mu)(h:AH)(w:World):Prop where
 cell:∀b cs rb o,h.iq b=some cs→μ b=some (rb,o)→∀(j:Nat) v,cs[j]?=some v→∃v',w.cell? ⟨rb,o+j,none⟩=some v'∧cC μ (c8 w) v v'
 own:∀b cs rb o,base≤b→h.iq b=some cs→μ b=some (rb,o)→aq≤rb∧∃c t,w.heap[rb]?=some (.cells c t (0,0))
 inj:∀b b' cs eE rb o o',base≤b→h.iq b=some cs→h.iq b'=some eE→μ b=some (rb,o)→μ b'=some (rb,o')→b=b'
 lt:∀b rb o,μ b=some (rb,o)→rb<w.heap.size
 Po:∀b cs,h.iq b=some cs→b<h.next
structure bY(fl base aq:Nat)(μ:Mu)(h:AH)(w:World)(μ':Mu)(h':AH)(w':World):Prop where
 eV:yo base aq μ' h' w'
 mu:∀b,¬(h.next≤b∧b<h'.next)→μ' b=μ b
 nx:h.next≤h'.next
 TU:∀b,b<h.next→b<fl→h'.iq b=h.iq b
 dead:∀b cs,b<h.next→h'.iq b=some cs→∃eE,h.iq b=some eE
 fr:∀rb,rb<w.heap.size→(∀b cs o,fl≤b→b<h.next→h.iq b=some cs→μ b≠some (rb,o))→w'.heap[rb]?=w.heap[rb]?
 sz:∀rb,rb<w.heap.size→c8 w' rb=c8 w rb
 hs:w.heap.size≤w'.heap.size
 os:w'.os=w.os
 tape:w'.tape=w.tape
 output:w'.output=w.output
 new:∀b cs rb o,h.next≤b→b<h'.next→μ' b=some (rb,o)→h'.iq b=some cs→
  w.heap.size≤rb∨∃b0 cs0 o0,fl≤b0∧b0<h.next∧h.iq b0=some cs0∧μ b0=some (rb,o0)
def gL(μ:Mu)(lo hi:Nat):Prop:=∀b,lo≤b→b<hi→μ b=none
theorem bY.refl{fl base aq μ h w}(hs:yo base aq μ h w):bY fl base aq μ h w μ h w where
 eV:=hs
 mu _ _:=rfl
 nx:=Nat.le_refl _
 TU _ _ _:=rfl
 dead _ cs _ h:=⟨cs,h⟩
 fr _ _ _:=rfl
 sz _ _:=rfl
 hs:=Nat.le_refl _
 os:=rfl
 tape:=rfl
 output:=rfl
 new b _ _ _ h1 h2:=by omega
theorem bY.ay7{fl base aq μ h w μ' h' w'}(p:bY fl base aq μ h w μ' h' w')(hf:gL μ h.next h'.next):∀b x,μ b=some x→μ' b=some x:=by
 intro b x hb
 rw[p.mu b,hb]
 rintro⟨h1,h2⟩
 rw[hf b h1 h2] at hb;cases hb
theorem bY.aww{fl base aq μ h w μ' h' w'}(p:bY fl base aq μ h w μ' h' w')(s:yo base aq μ h w)(hf:gL μ h.next h'.next){v v'}(hv:cC μ (c8 w) v v'):cC μ' (c8 w') v v':=
 hv.mono (p.ay7 hf) fun b rb o hb=>by rw[p.sz rb (s.lt b rb o hb)];exact Nat.le_refl _
theorem bY.afV{fl base aq μ h w μ' h' w'}(p:bY fl base aq μ h w μ' h' w')(s:yo base aq μ h w)(hf:gL μ h.next h'.next){v v'}(hv:bq μ (c8 w) v v'):bq μ' (c8 w') v v':=
 ⟨hv.1,fun i h1 h2=>p.aww s hf (hv.2 i h1 h2)⟩
theorem bY.fresh{fl base aq μ h w μ' h' w'}(p:bY fl base aq μ h w μ' h' w'){hi}(hf:gL μ h.next hi):gL μ' h'.next hi:=by
 intro b h1 h2
 rw[p.mu b (by omega)]
 exact hf b (Nat.le_trans p.nx h1) h2
theorem gL.sub{μ lo hi lo' Bl}(h:gL μ lo hi)(h1:lo≤lo')(h2:Bl≤hi):gL μ lo' Bl:=fun b a c=>h b (Nat.le_trans h1 a) (Nat.lt_of_lt_of_le c h2)
theorem bY.trans{fl Pp base aq μ h w μ1 h1 w1 μ2 h2 w2}(p:bY fl base aq μ h w μ1 h1 w1)(q:bY Pp base aq μ1 h1 w1 μ2 h2 w2)(bL:fl≤Pp)
 :bY fl base aq μ h w μ2 h2 w2 where
 eV:=q.eV
 mu b hb:=by
  have:=p.nx;have:=q.nx
  rw[q.mu b (by omega),p.mu b (by omega)]
 nx:=Nat.le_trans p.nx q.nx
 TU b hb hbf:=by rw[q.TU b (Nat.lt_of_lt_of_le hb p.nx) (Nat.lt_of_lt_of_le hbf bL),p.TU b hb hbf]
 dead b cs hb hc:=by
  obtain⟨eE,h'⟩:=q.dead b cs (Nat.lt_of_lt_of_le hb p.nx) hc
  exact p.dead b eE hb h'
 fr rb EC hno:=by
  have e1:=p.fr rb EC hno
  rw[←e1]
  refine q.fr rb (Nat.lt_of_lt_of_le EC p.hs) ?_
  intro b cs o Cf mg FE jq
  by_cases hb:b<h.next
  ·obtain⟨eE,hc'⟩:=p.dead b cs hb FE
   rw[p.mu b (by omega)] at jq
   exact hno b eE o (Nat.le_trans bL Cf) hb hc' jq
  ·rcases p.new b cs rb o (by omega) mg jq FE with hh|⟨b0,cs0,o0,a1,a2,a3,a4⟩
   ·omega
   ·exact hno b0 cs0 o0 a1 a2 a3 a4
 sz rb EC:=by rw[q.sz rb (Nat.lt_of_lt_of_le EC p.hs),p.sz rb EC]
 hs:=Nat.le_trans p.hs q.hs
 os:=q.os.trans p.os
 tape:=q.tape.trans p.tape
 output:=q.output.trans p.output
 new b cs rb o Cf mg jq FE:=by
  by_cases hb:b<h1.next
  ·obtain⟨eE,hc'⟩:=q.dead b cs hb FE
   rw[q.mu b (by omega)] at jq
   exact p.new b eE rb o Cf hb jq hc'
  ·rcases q.new b cs rb o (by omega) mg jq FE with hh|⟨b0,cs0,o0,a1,a2,a3,a4⟩
   ·exact .inl (Nat.le_trans p.hs hh)
   ·by_cases hb0:b0<h.next
    ·obtain⟨eE,hc'⟩:=p.dead b0 cs0 hb0 a3
     rw[p.mu b0 (by omega)] at a4
     exact .inr ⟨b0,eE,o0,Nat.le_trans bL a1,hb0,hc',a4⟩
    ·exact p.new b0 cs0 rb o0 (by omega) a2 a4 a3
theorem bY.floor{fl Pp base aq μ h w μ' h' w'}(p:bY Pp base aq μ h w μ' h' w')(bL:fl≤Pp):bY fl base aq μ h w μ' h' w' where
 eV:=p.eV
 mu:=p.mu
 nx:=p.nx
 TU b hb hbf:=p.TU b hb (Nat.lt_of_lt_of_le hbf bL)
 dead:=p.dead
 fr rb EC hno:=p.fr rb EC fun b cs o h1=>hno b cs o (Nat.le_trans bL h1)
 sz:=p.sz
 hs:=p.hs
 os:=p.os
 tape:=p.tape
 output:=p.output
 new b cs rb o h1 h2 h3 h4:=(p.new b cs rb o h1 h2 h3 h4).imp id fun⟨b0,cs0,o0,a1,a2⟩=>⟨b0,cs0,o0,Nat.le_trans bL a1,a2⟩
end Go.Abs
end
section
namespace Go.Abs
def ext(μ:Mu)(b:Nat)(x:Nat×Nat):Mu:=fun c=>if c=b then some x else μ c
theorem bW(μ b x):ext μ b x b=some x:=by simp[ext]
theorem gE{μ:Mu}{b x c}(h:c≠b):ext μ b x c=μ c:=by simp[ext,h]
theorem abq{μ:Mu}{b x}(h:μ b=none):∀c y,μ c=some y→ext μ b x c=some y:=by
 intro c y hc
 rw[gE];exact hc
 rintro rfl;rw[h] at hc;cases hc
theorem xh{w w':World}{rb:Nat}(h:w'.heap[rb]?=w.heap[rb]?):c8 w' rb=c8 w rb:=by simp[c8,h]
theorem fV{w:World}{rb c t fr}(h:w.heap[rb]?=some (.cells c t fr)):c8 w rb=c.size:=by simp[c8,h]
theorem DE{w w':World}{rb:Nat}(h:w'.heap[rb]?=w.heap[rb]?)(o:Nat):w'.cell? ⟨rb,o,none⟩=w.cell? ⟨rb,o,none⟩:=by simp[World.cell?,h]
theorem mZ{w:World}{rb c t fr}(h:w.heap[rb]?=some (.cells c t fr))(o:Nat):w.cell? ⟨rb,o,none⟩=c[o]?:=by simp[World.cell?,h]
theorem yo.heap{base aq μ h w w'}(s:yo base aq μ h w)(e:w'.heap=w.heap):yo base aq μ h w' where
 cell b cs rb o h1 h2 j v hv:=by
  obtain⟨v',a,b⟩:=s.cell b cs rb o h1 h2 j v hv
  refine⟨v',by simpa [World.cell?,e] using a,b.mono (fun _ _ h=>h) fun _ _ _ _=>by simp[c8,e]⟩
 own b cs rb o h0 h1 h2:=by rw[e];exact s.own b cs rb o h0 h1 h2
 inj:=s.inj
 lt b rb o hb:=by rw[e];exact s.lt b rb o hb
 Po:=s.Po
theorem bY.heap{fl base aq μ h w w'}(s:yo base aq μ h w)(e:w'.heap=w.heap)(h1:w'.os=w.os)(h2:w'.tape=w.tape)(h3:w'.output=w.output):bY fl base aq μ h w μ h w' where
 eV:=s.heap e
 mu _ _:=rfl
 nx:=Nat.le_refl _
 TU _ _ _:=rfl
 dead _ cs _ h:=⟨cs,h⟩
 fr _ _ _:=by rw[e]
 sz _ _:=by simp[c8,e]
 hs:=by rw[e];exact Nat.le_refl _
 os:=h1
 tape:=h2
 output:=h3
 new b _ _ _ h1 h2:=by omega
theorem bY.alloc{fl base aq μ h w}(s:yo base aq μ h w)(hb:base≤h.next)(hr:aq≤w.heap.size)(hf:μ h.next=none){cs:List Value}{c:Array Value}{t:TypeId}
 (hc:∀(j:Nat) v,cs[j]?=some v→∃v',c[j]?=some v'∧cC μ (c8 w) v v'):
 bY fl base aq μ h w (ext μ h.next (w.heap.size,0)) (h.alloc cs) (w.alloc (.cells c t)):=by
 have hn:(w.alloc (.cells c t)).heap[w.heap.size]?=some (.cells c t (0,0)):=heap_alloc_new w _
 have ho:∀rb,rb<w.heap.size→(w.alloc (.cells c t)).heap[rb]?=w.heap[rb]?:=fun rb h=>heap_alloc_old w _ rb h
 have RO:(w.alloc (.cells c t)).heap.size=w.heap.size+1:=by show(w.heap.push _).size=_;simp
 have hle:=abq (x:=(w.heap.size,0)) hf
 have Dz:∀b rb o,μ b=some (rb,o)→c8 w rb≤c8 (w.alloc (.cells c t)) rb:=fun b rb o hb=>by rw[xh (ho rb (s.lt b rb o hb))];exact Nat.le_refl _
 have mw:∀b eE,(h.alloc cs).iq b=some eE→(b=h.next∧eE=cs)∨(b≠h.next∧h.iq b=some eE):=by
  intro b eE hb
  by_cases e:b=h.next
  ·simp[AH.alloc,e] at hb;exact .inl ⟨e,hb.symm⟩
  ·simp[AH.alloc,e] at hb;exact .inr ⟨e,hb⟩
 refine {eV:={cell:=?_,own:=?_,inj:=?_,lt:=?_,Po:=?_},mu:=?_,nx:=?_,TU:=?_,dead:=?_,fr:=?_,sz:=?_,hs:=?_,os:=rfl,tape:=rfl,output:=rfl,new:=?_}
 ·intro b eE rb o FE jq j v hv
  rcases mw b eE FE with⟨rfl,rfl⟩|⟨iH,HI⟩
  ·rw[bW] at jq;injection jq with jq;injection jq with e1 e2;subst e1;subst e2
   obtain⟨v',h1,h2⟩:=hc j v hv
   exact⟨v',by rw[mZ hn,Nat.zero_add];exact h1,h2.mono hle Dz⟩
  ·rw[gE iH] at jq
   obtain⟨v',h1,h2⟩:=s.cell b eE rb o HI jq j v hv
   exact⟨v',by rw[DE (ho rb (s.lt b rb o jq))];exact h1,h2.mono hle Dz⟩
 ·intro b eE rb o Xy FE jq
  rcases mw b eE FE with⟨rfl,rfl⟩|⟨iH,HI⟩
  ·rw[bW] at jq;injection jq with jq;injection jq with e1 e2;subst e1
   exact⟨hr,c,t,hn⟩
  ·rw[gE iH] at jq
   rw[ho rb (s.lt b rb o jq)]
   exact s.own b eE rb o Xy HI jq
 ·intro b b' cs1 cs2 rb o o' Xy h1 h2 m1 m2
  rcases mw b cs1 h1 with⟨rfl,rfl⟩|⟨iH,h1'⟩
  ·rcases mw b' cs2 h2 with⟨rfl,rfl⟩|⟨RT,h2'⟩
   ·rfl
   ·rw[bW] at m1;injection m1 with m1;injection m1 with e1 e2;subst e1
    rw[gE RT] at m2
    exact absurd (s.lt b' _ _ m2) (by omega)
  ·rw[gE iH] at m1
   rcases mw b' cs2 h2 with⟨rfl,rfl⟩|⟨RT,h2'⟩
   ·rw[bW] at m2;injection m2 with m2;injection m2 with e1 e2;subst e1
    exact absurd (s.lt b _ _ m1) (by omega)
   ·rw[gE RT] at m2
    exact s.inj b b' cs1 cs2 rb o o' Xy h1' h2' m1 m2
 ·intro b rb o jq
  rw[RO]
  by_cases e:b=h.next
  ·subst e;rw[bW] at jq;injection jq with jq;injection jq with e1 e2;omega
  ·rw[gE e] at jq;have:=s.lt b rb o jq;omega
 ·intro b eE FE
  show b<h.next+1
  rcases mw b eE FE with⟨rfl,rfl⟩|⟨iH,HI⟩
  ·omega
  ·have:=s.Po b eE HI;omega
 ·intro b hb
  refine gE ?_
  rintro rfl
  exact hb ⟨Nat.le_refl _,Nat.lt_succ_self _⟩
 ·exact Nat.le_succ _
 ·intro b hb _
  simp[AH.alloc,Nat.ne_of_lt hb]
 ·intro b eE hb FE
  rcases mw b eE FE with⟨rfl,rfl⟩|⟨iH,HI⟩
  ·omega
  ·exact⟨_,HI⟩
 ·intro rb EC _;exact ho rb EC
 ·intro rb EC;exact xh (ho rb EC)
 ·rw[RO];omega
 ·intro b eE rb o h1 h2 jq _
  have:b=h.next:=by have:b<h.next+1:=h2;omega
  subst this
  rw[bW] at jq;injection jq with jq;injection jq with e1 e2;exact .inl (by omega)
theorem bY.kill{fl base aq μ h w}(s:yo base aq μ h w)(b:Nat)(hb:fl≤b):bY fl base aq μ h w μ (h.put b none) w:=by
 have mw:∀c eE,(h.put b none).iq c=some eE→c≠b∧h.iq c=some eE:=by
  intro c eE hc
  by_cases e:c=b
  ·simp[AH.put,e] at hc
  ·simp[AH.put,e] at hc;exact⟨e,hc⟩
 refine {eV:={cell:=fun c eE rb o h1=>s.cell c eE rb o (mw _ _ h1).2,own:=fun c eE rb o h0 h1=>s.own c eE rb o h0 (mw _ _ h1).2,inj:=fun c c' cs1 cs2 rb o o' h0 h1 h2=>s.inj c c' cs1 cs2 rb o o' h0 (mw _ _ h1).2 (mw _ _ h2).2,lt:=s.lt,Po:=fun c eE h1=>s.Po c eE (mw _ _ h1).2},mu:=fun _ _=>rfl,nx:=Nat.le_refl _,TU:=?_,dead:=fun c eE _ h1=>⟨eE,(mw _ _ h1).2⟩,fr:=fun _ _ _=>rfl,sz:=fun _ _=>rfl,hs:=Nat.le_refl _,os:=rfl,tape:=rfl,output:=rfl,new:=?_}
 ·intro c _ hc
  have:c≠b:=by omega
  simp[AH.put,this]
 ·intro c _ _ _ h1 h2;have:c<h.next:=h2;omega
theorem bY.set{fl base aq μ h w}(s:yo base aq μ h w){b rb ob:Nat}{cs eE:List Value}{c c':Array Value}{t:TypeId}(hb:fl≤b)(amS:base≤fl)(FE:h.iq b=some cs)(jq:μ b=some (rb,ob))
 (hg:w.heap[rb]?=some (.cells c t (0,0))) (hs:c'.size=c.size)
 (hc:∀(j:Nat) v,eE[j]?=some v→∃v',c'[ob+j]?=some v'∧cC μ (c8 w) v v'):
 bY fl base aq μ h w μ (h.put b (some eE)) (w.setRow rb c'):=by
 have hn:(w.setRow rb c').heap[rb]?=some (.cells c' t (0,0)):=setRow_heap w rb c c' t _ hg
 have ho:∀r,r≠rb→(w.setRow rb c').heap[r]?=w.heap[r]?:=fun r h=>setRow_other w rb r c' h
 have RO:∀r,c8 (w.setRow rb c') r=c8 w r:=by
  intro r
  by_cases e:r=rb
  ·subst e;rw[fV hn,fV hg,hs]
  ·exact xh (ho r e)
 have Dz:∀d r o,μ d=some (r,o)→c8 w r≤c8 (w.setRow rb c') r:=fun d r o _=>by rw[RO];exact Nat.le_refl _
 have mw:∀d ds,(h.put b (some eE)).iq d=some ds→(d=b∧ds=eE)∨(d≠b∧h.iq d=some ds):=by
  intro d ds hd
  by_cases e:d=b
  ·simp[AH.put,e] at hd;exact .inl ⟨e,hd.symm⟩
  ·simp[AH.put,e] at hd;exact .inr ⟨e,hd⟩
 have aaY:∀d ds,(h.put b (some eE)).iq d=some ds→∃ds',h.iq d=some ds':=by
  intro d ds hd
  rcases mw d ds hd with⟨rfl,_⟩|⟨_,h1⟩
  ·exact⟨cs,FE⟩
  ·exact⟨ds,h1⟩
 refine {eV:={cell:=?_,own:=?_,inj:=?_,lt:=?_,Po:=?_},mu:=fun _ _=>rfl,nx:=Nat.le_refl _,TU:=?_,dead:=fun d ds _ hd=>aaY d ds hd,fr:=?_,sz:=fun r _=>RO r,hs:=by simp,os:=rfl,tape:=rfl,output:=rfl,new:=fun d _ _ _ h1 h2=>by have:d<h.next:=h2;omega}
 ·intro d ds r o hdk Kt j v hv
  rcases mw d ds hdk with⟨rfl,rfl⟩|⟨iH,aaX⟩
  ·rw[jq] at Kt;injection Kt with Kt;injection Kt with e1 e2;subst e1;subst e2
   obtain⟨v',h1,h2⟩:=hc j v hv
   exact⟨v',by rw[mZ hn];exact h1,h2.mono (fun _ _ h=>h) Dz⟩
  ·have hr:r≠rb:=by
    rintro rfl
    exact iH (s.inj b d cs ds r ob o (Nat.le_trans amS hb) FE aaX jq Kt).symm
   obtain⟨v',h1,h2⟩:=s.cell d ds r o aaX Kt j v hv
   exact⟨v',by rw[DE (ho r hr)];exact h1,h2.mono (fun _ _ h=>h) Dz⟩
 ·intro d ds r o hdb hdk Kt
  obtain⟨ds',h1⟩:=aaY d ds hdk
  obtain⟨a1,c1,t1,a2⟩:=s.own d ds' r o hdb h1 Kt
  refine⟨a1,?_⟩
  by_cases e:r=rb
  ·subst e;exact⟨c',t,hn⟩
  ·rw[ho r e];exact⟨c1,t1,a2⟩
 ·intro d d' ds1 ds2 r o o' hdb h1 h2 m1 m2
  obtain⟨_,h1'⟩:=aaY d ds1 h1
  obtain⟨_,h2'⟩:=aaY d' ds2 h2
  exact s.inj d d' _ _ r o o' hdb h1' h2' m1 m2
 ·intro d r o hd;simpa using s.lt d r o hd
 ·intro d ds hd
  obtain⟨_,h1⟩:=aaY d ds hd
  exact s.Po d _ h1
 ·intro d _ hd
  have:d≠b:=by omega
  simp[AH.put,this]
 ·intro r hr hno
  refine ho r ?_
  rintro rfl
  exact hno b cs ob hb (s.Po b cs FE) FE jq
theorem bY.ay8{fl base aq μ h w}(s:yo base aq μ h w){b rb ob o':Nat}{cs zs:List Value}{c c':Array Value}{t:TypeId}(hb:fl≤b)(amS:base≤fl)(FE:h.iq b=some cs)(jq:μ b=some (rb,ob))
 (hf:μ h.next=none) (hg:w.heap[rb]?=some (.cells c t (0,0))) (hs:c'.size=c.size)
 (hc:∀(j:Nat) v,zs[j]?=some v→∃v',c'[o'+j]?=some v'∧cC μ (c8 w) v v'):
 bY fl base aq μ h w (ext μ h.next (rb,o')) ((h.put b none).alloc zs) (w.setRow rb c'):=by
 have hn:(w.setRow rb c').heap[rb]?=some (.cells c' t (0,0)):=setRow_heap w rb c c' t _ hg
 have ho:∀r,r≠rb→(w.setRow rb c').heap[r]?=w.heap[r]?:=fun r h=>setRow_other w rb r c' h
 have RO:∀r,c8 (w.setRow rb c') r=c8 w r:=by
  intro r
  by_cases e:r=rb
  ·subst e;rw[fV hn,fV hg,hs]
  ·exact xh (ho r e)
 have hle:=abq (x:=(rb,o')) hf
 have Dz:∀d r o,μ d=some (r,o)→c8 w r≤c8 (w.setRow rb c') r:=fun d r o _=>by rw[RO];exact Nat.le_refl _
 have hbn:b<h.next:=s.Po b cs FE
 have mw:∀d ds,((h.put b none).alloc zs).iq d=some ds→(d=h.next∧ds=zs)∨(d≠h.next∧d≠b∧h.iq d=some ds):=by
  intro d ds hd
  by_cases e:d=h.next
  ·simp[AH.alloc,AH.put,e] at hd;exact .inl ⟨e,hd.symm⟩
  ·by_cases e2:d=b
   ·simp[AH.alloc,AH.put,e2,Nat.ne_of_lt hbn] at hd
   ·simp[AH.alloc,AH.put,e,e2] at hd;exact .inr ⟨e,e2,hd⟩
 have Xy:base≤b:=Nat.le_trans amS hb
 have Xf:∀d ds o r,d≠b→h.iq d=some ds→μ d=some (r,o)→r≠rb:=by
  rintro d ds o r iH hd hm rfl
  exact iH (s.inj b d cs ds r ob o Xy FE hd jq hm).symm
 refine {eV:={cell:=?_,own:=?_,inj:=?_,lt:=?_,Po:=?_},mu:=?_,nx:=Nat.le_succ _,TU:=?_,dead:=?_,fr:=?_,sz:=fun r _=>RO r,hs:=by simp,os:=rfl,tape:=rfl,output:=rfl,new:=?_}
 ·intro d ds r o hdk Kt j v hv
  rcases mw d ds hdk with⟨rfl,rfl⟩|⟨iH,amV,aaX⟩
  ·rw[bW] at Kt;injection Kt with Kt;injection Kt with e1 e2;subst e1;subst e2
   obtain⟨v',h1,h2⟩:=hc j v hv
   exact⟨v',by rw[mZ hn];exact h1,h2.mono hle Dz⟩
  ·rw[gE iH] at Kt
   obtain⟨v',h1,h2⟩:=s.cell d ds r o aaX Kt j v hv
   exact⟨v',by rw[DE (ho r (Xf d ds o r amV aaX Kt))];exact h1,h2.mono hle Dz⟩
 ·intro d ds r o hdb hdk Kt
  rcases mw d ds hdk with⟨rfl,rfl⟩|⟨iH,amV,aaX⟩
  ·rw[bW] at Kt;injection Kt with Kt;injection Kt with e1 e2;subst e1
   exact⟨(s.own b cs rb ob Xy FE jq).1,c',t,hn⟩
  ·rw[gE iH] at Kt
   rw[ho r (Xf d ds o r amV aaX Kt)]
   exact s.own d ds r o hdb aaX Kt
 ·intro d d' ds1 ds2 r o1 o2 hdb h1 h2 m1 m2
  rcases mw d ds1 h1 with⟨rfl,rfl⟩|⟨iH,amV,h1'⟩
  ·rcases mw d' ds2 h2 with⟨rfl,rfl⟩|⟨RT,atM,h2'⟩
   ·rfl
   ·rw[bW] at m1;injection m1 with m1;injection m1 with e1 e2;subst e1
    rw[gE RT] at m2
    exact absurd rfl (Xf d' ds2 o2 rb atM h2' m2)
  ·rw[gE iH] at m1
   rcases mw d' ds2 h2 with⟨rfl,rfl⟩|⟨RT,atM,h2'⟩
   ·rw[bW] at m2;injection m2 with m2;injection m2 with e1 e2;subst e1
    exact absurd rfl (Xf d ds1 o1 rb amV h1' m1)
   ·rw[gE RT] at m2
    exact s.inj d d' ds1 ds2 r o1 o2 hdb h1' h2' m1 m2
 ·intro d r o hd
  rw[setRow_size]
  by_cases e:d=h.next
  ·subst e;rw[bW] at hd;injection hd with hd;injection hd with e1 e2;subst e1;exact s.lt b rb ob jq
  ·rw[gE e] at hd;exact s.lt d r o hd
 ·intro d ds hd
  show d<h.next+1
  rcases mw d ds hd with⟨rfl,rfl⟩|⟨_,_,h1⟩
  ·omega
  ·have:=s.Po d ds h1;omega
 ·intro d hd
  refine gE ?_
  rintro rfl
  exact hd ⟨Nat.le_refl _,Nat.lt_succ_self _⟩
 ·intro d hd hdf
  have h1:d≠b:=by omega
  have h2:d≠h.next:=by omega
  simp[AH.alloc,AH.put,h1,h2]
 ·intro d ds hd hdk
  rcases mw d ds hdk with⟨rfl,rfl⟩|⟨_,_,h1⟩
  ·omega
  ·exact⟨ds,h1⟩
 ·intro r hr hno
  refine ho r ?_
  rintro rfl
  exact hno b cs ob hb hbn FE jq
 ·intro d ds r o h1 h2 Kt _
  have:d=h.next:=by have:d<h.next+1:=h2;omega
  subst this
  rw[bW] at Kt;injection Kt with Kt;injection Kt with e1 e2;subst e1
  exact .inr ⟨b,cs,ob,hb,hbn,FE,jq⟩
end Go.Abs
end
section
namespace Go.Abs
section
variable{R:Type}{r:R}
theorem aG{k v}{K:Int→Option R}(h:asInt k v K=some r):∃n,v=.int k n∧K n=some r:=by
 unfold asInt at h
 split at h
 ·rename_i k' n
  by_cases e:k'=k
  ·rw[if_pos e] at h;exact⟨n,by rw[e],h⟩
  ·rw[if_neg e] at h;cases h
 ·cases h
theorem vu{v}{K:Bool→Option R}{k:Option R}(h:XA v K k=some r):(∃b,v=.bool b∧K b=some r)∨(∃x y,v=.complex .f32 x y∧k=some r):=by
 unfold XA at h
 split at h
 ·exact .inl ⟨_,rfl,h⟩
 ·exact .inr ⟨_,_,rfl,h⟩
 ·cases h
theorem bX{v}{K:Bool→Option R}(h:asBool v K=some r):∃n,v=.bool n∧K n=some r:=by
 unfold asBool at h
 split at h
 ·exact⟨_,rfl,h⟩
 ·cases h
theorem cA{v}{K:Sl→Option R}(h:bB v K=some r):∃s:Sl,v=.slice s.a s.l s.c∧K s=some r:=by
 unfold bB at h
 split at h
 ·exact⟨⟨_,_,_⟩,rfl,h⟩
 ·cases h
theorem dL{v}{K:Addr→Option R}(h:cT v K=some r):∃a,v=.pointer (some a)∧K a=some r:=by
 unfold cT at h
 split at h
 ·exact⟨_,rfl,h⟩
 ·cases h
theorem XC{v}{K:Option Addr→Option R}(h:fE v K=some r):∃a,v=.pointer a∧K a=some r:=by
 unfold fE at h
 split at h
 ·exact⟨_,rfl,h⟩
 ·cases h
theorem abr{v}{K:List Value→Option R}(h:asAgg v K=some r):∃a:List Value,v=.agg ⟨a⟩∧K a=some r:=by
 unfold asAgg at h
 split at h
 ·exact⟨_,rfl,h⟩
 ·cases h
theorem Ae{v}{K:List Value→Option R}(h:bj v K=some r):∃a:List Value,v=.tuple ⟨a⟩∧K a=some r:=by
 unfold bj at h
 split at h
 ·exact⟨_,rfl,h⟩
 ·cases h
theorem Cj{s v}{K:Value→Option R}(h:nY s v K=some r):K v=some r:=by
 cases s with
 |any=>exact h
 |int k=>simp only[nY] at h;obtain⟨n,rfl,h2⟩:=aG h;exact h2
 |bool=>simp only[nY] at h;obtain⟨n,rfl,h2⟩:=bX h;exact h2
 |slice=>simp only[nY] at h;obtain⟨n,rfl,h2⟩:=cA h;exact h2
 |ptr=>simp only[nY] at h;obtain⟨n,rfl,h2⟩:=dL h;exact h2
 |jW=>simp only[nY] at h;obtain⟨n,rfl,h2⟩:=XC h;exact h2
theorem HQ:∀{ss vs} {K:List Value→Option R},Ac ss vs K=some r→K vs=some r
 |[],[],_,h=>h
 |[],_::_,_,h=>by cases h
 |_::_,[],_,h=>by cases h
 |s::ss,v::vs,K,h=>by
  have h1:=Cj (K:=fun v'=>Ac ss vs fun yn=>K (v'::yn)) h
  exact HQ (K:=fun yn=>K (v::yn)) h1
theorem LR{s v}{K:Value→Option R}(h:FF s v K=some r):K v=some r:=by
 cases s with
 |one s=>exact Cj h
 |agg l=>simp only[FF] at h;obtain⟨n,rfl,h2⟩:=abr h;exact HQ (K:=fun cs=>K (.agg ⟨cs⟩)) h2
theorem HR:∀{ss vs} {K:List Value→Option R},Ad ss vs K=some r→K vs=some r
 |[],[],_,h=>h
 |[],_::_,_,h=>by cases h
 |_::_,[],_,h=>by cases h
 |s::ss,v::vs,K,h=>by
  have h1:=LR (K:=fun v'=>Ad ss vs fun yn=>K (v'::yn)) h
  exact HR (K:=fun yn=>K (v::yn)) h1
theorem LS{s v}{K:Value→Option R}(h:Kz s v K=some r):K v=some r:=by
 cases s with
 |one s=>exact LR h
 |jn l=>simp only[Kz] at h;obtain⟨n,rfl,h2⟩:=Ae h;exact HR (K:=fun cs=>K (.tuple ⟨cs⟩)) h2
theorem yr{s h b o}{K:Value→Option R}(e:KA s h b o K=some r):∃v,AH.cell h b o=some v∧K v=some r:=by
 unfold KA at e
 split at e
 ·rename_i v hv;exact⟨v,hv,Cj e⟩
 ·cases e
theorem vv:∀{ss h b o} {K:List Value→Option R},Ff ss h b o K=some r→
 ∃vs:List Value,vs.length=ss.length∧(∀(i:Nat) v,vs[i]?=some v→AH.cell h b (o+i)=some v)∧K vs=some r
 |[],h,b,o,K,e=>⟨[],rfl,fun i v hv=>by simp at hv,e⟩
 |s::ss,h,b,o,K,e=>by
  obtain⟨v,hv,e1⟩:=yr (K:=fun v=>Ff ss h b (o+1) fun vs=>K (v::vs)) e
  obtain⟨vs,h1,h2,h3⟩:=vv e1
  refine⟨v::vs,by simp[h1],?_,h3⟩
  intro i u hu
  cases i with
  |zero=>simp at hu;subst hu;exact hv
  |succ i=>have:=h2 i u (by simpa using hu);rwa[show o+(i+1)=o+1+i by omega]
end
def cv0:Value→Value→Bool
 |.bool a,.bool b=>a==b
 |.int k n,.int k' n'=>decide (k=k')&&decide (n=n')
 |.pointer none,.pointer none=>true
 |.slice none 0 0,.slice none 0 0=>true
 |.nilFunc,.nilFunc=>true
 |_,_=>false
def Ud:List Value→List Value→Bool
 |[],[]=>true
 |x::xs,y::ys=>cv0 x y&&Ud xs ys
 |_,_=>false
def cv(v v':Value):Bool:=match v,v' with
 |.agg xs,.agg ys=>Ud xs.toList ys.toList
 |.tuple xs,.tuple ys=>xs.toList.isEmpty&&ys.toList.isEmpty
 |v,v'=>cv0 v v'
theorem ac4{μ sz v v'}(h:cv0 v v'=true):cC μ sz v v':=by
 unfold cv0 at h
 split at h
 ·simp at h;subst h;exact .bool _
 ·simp at h;obtain⟨rfl,rfl⟩:=h;exact .int _ _
 ·exact .LN
 ·exact .kZ
 ·exact .nilFunc
 ·cases h
theorem yt{μ sz}:∀{v v'},Ud v v'=true→bq μ sz v v'
 |[],[],_=>bq.nil
 |x::xs,y::ys,h=>by
  simp[Ud] at h
  exact bq.cons (ac4 h.1) (yt h.2)
 |[],_::_,h=>by simp[Ud] at h
 |_::_,[],h=>by simp[Ud] at h
theorem atT{μ sz v v'}(h:cv v v'=true):cC μ sz v v':=by
 unfold cv at h
 split at h
 ·rename_i xs ys
  obtain⟨xs⟩:=xs;obtain⟨ys⟩:=ys
  have:=yt (μ:=μ) (sz:=sz) h
  exact .agg this.1 this.2
 ·rename_i xs ys
  obtain⟨xs⟩:=xs
  simp at h
  obtain⟨rfl,_⟩:=h
  exact .ue _
 ·exact ac4 h
def cZ:Operand→my→Bool
 |.tmp t,.t i=>t==i
 |.const v,.c v'=>cv v' v
 |.func f,.f g=>f==g
 |_,_=>false
theorem Pt{μ sz st tmps}(t:bq μ sz st tmps)(i:Nat):cC μ sz (st.getD i undef) (tmps.getD i undef):=by
 rw[List.getD_eq_getElem?_getD,List.getD_eq_getElem?_getD]
 cases hv:st[i]? with
 |none=>exact .ue _
 |some v=>
  obtain⟨v',h1,h2⟩:=t.get hv
  rw[h1];exact h2
theorem bE{μ sz st}{a:Act}(t:bq μ sz st a.tmps.toList){x y}(h:cZ x y=true):cC μ sz (ev st y) (a.eval x):=by
 cases x<;>cases y<;>simp[cZ] at h
 ·rename_i i j
  subst h
  have:=Pt t i
  simpa [ev,Act.eval,Array.getD_eq_getD_getElem?,List.getD_eq_getElem?_getD] using this
 ·exact atT h
 ·subst h
  exact .func rfl (fun i h=>by simp at h) rfl (fun i h=>by simp at h)
def Ck:List Operand→List my→Bool
 |[],[]=>true
 |x::xs,y::ys=>cZ x y&&Ck xs ys
 |_,_=>false
theorem HS{μ sz st}{a:Act}(t:bq μ sz st a.tmps.toList):∀{x y},Ck x y=true→bq μ sz (y.map (ev st)) (x.map a.eval)
 |[],[],_=>bq.nil
 |x::xs,y::ys,h=>by
  simp[Ck] at h
  exact bq.cons (bE t h.1) (HS t h.2)
 |[],_::_,h=>by simp[Ck] at h
 |_::_,[],h=>by simp[Ck] at h
theorem cC.jw{μ sz k n v}(h:cC μ sz (.int k n) v):v=.int k n:=by cases h;rfl
theorem cC.tz{μ sz b v}(h:cC μ sz (.bool b) v):v=.bool b:=by cases h;rfl
theorem cC.HT{μ sz a v}(h:cC μ sz (.pointer (some a)) v):∃rb o,μ a.block=some (rb,o)∧v=.pointer (some ⟨rb,o+a.off,none⟩):=by
 cases h with
 |ptr h=>exact⟨_,_,h,rfl⟩
theorem cC.Td{μ sz s v}(h:cC μ sz (Sl.v s) v):∃a c,v=.slice a s.l c∧(s.a.isNone=a.isNone):=by
 obtain⟨a,l,c⟩:=s
 unfold Sl.v at h
 cases h with
 |kZ=>exact⟨_,_,rfl,rfl⟩
 |slice h1 h2 h3=>exact⟨_,_,rfl,rfl⟩
 |mq h1 h2 h3 h4=>exact⟨_,_,rfl,rfl⟩
 |S9=>exact⟨_,_,rfl,rfl⟩
theorem cC.afW{μ sz}{xs:List Value}{v}(h:cC μ sz (.tuple ⟨xs⟩) v)(hx:xs≠[]):∃ys:List Value,v=.tuple ⟨ys⟩∧bq μ sz xs ys:=by
 cases h with
 |ue=>exact absurd rfl hx
 |tuple h1 h2=>exact⟨_,rfl,h1,h2⟩
theorem cC.ny{μ sz a l c v}(h:cC μ sz (.slice a l c) v):
 (a=none∧l=0∧c=0∧v=.slice none 0 0)∨
 (∃b o s rb off,a=some ⟨b,o,s⟩∧μ b=some (rb,off)∧c<pB∧l≤c∧v=.slice (some ⟨rb,off+o,none⟩) l c)∨
 (∃b o s rb off o' c' es,a=some ⟨b,o,s⟩∧c=pB+es∧μ b=some (rb,off)∧(l=0∨o'=off+o)∧l≤c'∧o'+c'*es≤sz rb∧v=.slice (some ⟨rb,o',none⟩) l c')∨
 (∃x a',a=some x∧l=0∧c=0∧v=.slice (some a') 0 0):=by
 generalize hq:Value.slice a l c=q at h
 cases h with
 |kZ=>injection hq with h1 h2 h3;exact .inl ⟨h1,h2,h3,rfl⟩
 |slice g1 g2 g3=>injection hq with h1 h2 h3;subst h1 h2 h3;exact .inr (.inl ⟨_,_,_,_,_,rfl,g1,g2,g3,rfl⟩)
 |mq g1 g2 g3 g4=>injection hq with h1 h2 h3;subst h1 h2 h3;exact .inr (.inr (.inl ⟨_,_,_,_,_,_,_,_,rfl,rfl,g1,g2,g3,g4,rfl⟩))
 |S9=>injection hq with h1 h2 h3;subst h1 h2 h3;exact .inr (.inr (.inr ⟨_,_,rfl,rfl,rfl,rfl⟩))
 |_=>cases hq
theorem cC.cells{μ sz v v'}(h:cC μ sz v v')(hp:∀c∈v.cells.toList,yp c=true):bq μ sz v.cells.toList v'.cells.toList:=by
 cases h with
 |ue=>simp[Value.cells,yp] at hp
 |skip=>simp[Value.cells,yq,yp] at hp
 |agg h1 h2=>exact⟨h1,h2⟩
 |tuple h1 h2=>simp[Value.cells,yp] at hp
 |bool=>exact bq.cons (.bool _) bq.nil
 |int=>exact bq.cons (.int _ _) bq.nil
 |LN=>exact bq.cons .LN bq.nil
 |ptr h=>exact bq.cons (.ptr h) bq.nil
 |kZ=>exact bq.cons .kZ bq.nil
 |slice h h' h2=>exact bq.cons (.slice h h' h2) bq.nil
 |mq h h1 h2 h3=>exact bq.cons (.mq h h1 h2 h3) bq.nil
 |S9=>exact bq.cons .S9 bq.nil
 |nilFunc=>exact bq.cons .nilFunc bq.nil
 |func h1 h2 h3 h4=>exact bq.cons (.func h1 h2 h3 h4) bq.nil
theorem cC.anN{μ sz v v'}(h:cC μ sz v v')(hp:yp v=true):v'.oneCell'=true:=by
 cases h<;>simp_all[yp,Value.oneCell',yq]
structure Ctx(fl base aq:Nat)(μ:Mu)(h:AH)(w:World)(st:List Value)(a:Act):Prop where
 eV:yo base aq μ h w
 hb:base≤fl
 bL:fl≤h.next
 hr:aq≤w.heap.size
 t:bq μ (c8 w) st a.tmps.toList
theorem Ctx.hn{fl base aq:Nat}{μ:Mu}{h:AH}{w:World}{st:List Value}{a:Act}(c:Ctx fl base aq μ h w st a):base≤h.next:=Nat.le_trans c.hb c.bL
def aV(fl base aq:Nat)(μ:Mu)(h:AH)(w:World)(v:Value)(h1:AH)(r:Result Next):Prop:=
 ∃v' μ' w',(r=.ok (.value v') w'∨(r=.ok .skip w'∧v'=undef))∧bY fl base aq μ h w μ' h1 w'∧cC μ' (c8 w') v v'
theorem aV.still{fl base aq μ h w v v'}(s:yo base aq μ h w)(hv:cC μ (c8 w) v v'):aV fl base aq μ h w v h (.ok (.value v') w):=
 ⟨v',μ,w,.inl rfl,bY.refl s,hv⟩
end Go.Abs
end
section
namespace Go.Abs
def zeroOf(P:Program)(t:TypeId):Option (List Value):=match P.info? t with
 |some i=>match i.zero with
  |some z=>some z.cells.toList
  |none=>none
 |none=>none
def okZ(P:Program)(t:TypeId)(z:List Value):Bool:=match zeroOf P t with
 |some zs=>Ud z zs
 |none=>false
def oe(P:Program)(t:TypeId)(n:Nat):Bool:=match P.info? t with
 |some i=>i.size==n
 |none=>false
def OF(P:Program)(t:TypeId)(n:Nat):Bool:=match P.info? t with
 |some i=>i.bytes==n
 |none=>false
def mK(P:Program)(t:TypeId):Option TypeId:=match P.underlying t with
 |some (.slice e)=>some e
 |_=>none
def isInt(P:Program)(t:TypeId)(k:IntKind):Bool:=match P.underlying t with
 |some (.int k')=>decide (k'=k)
 |_=>false
def ac5(P:Program)(t:TypeId):Bool:=match P.underlying t with
 |some .bool=>true
 |_=>false
def DF(P:Program)(fs:Array Field):List (Nat×Operand)→List (Nat×Nat×my)→Bool
 |[],[]=>true
 |(i,x)::xs,(off,size,y)::ys=>(match fs[i]? with|some f=>f.offset==off&&oe P f.type size|none=>false)&&cZ x y&&DF P fs xs ys
 |_,_=>false
def yu(size:Nat):List (Nat×Operand)→List (Nat×Nat×my)→Bool
 |[],[]=>true
 |(i,x)::xs,(off,sz,y)::ys=>off==i*size&&sz==size&&cZ x y&&yu size xs ys
 |_,_=>false
def okO:Option Operand→Option my→Bool
 |none,none=>true
 |some x,some y=>cZ x y
 |_,_=>false
def ac6:BinOp→Bool
 |.add|.sub|.mul|.quo|.rem|.and|.or|.xor=>true
 |_=>false
def asU:BinOp→Bool
 |.eql|.neq|.lss|.leq|.gtr|.geq=>true
 |_=>false
def dM(P:Program)(op:Op):HO→Bool
 |.mv y=>match op with
  |.move x=>cZ x y
  |.assign x=>cZ x y
  |_=>false
 |.pick c a b=>match op with
  |.pick c' a' b'=>cZ c' c&&cZ a' a&&cZ b' b
  |_=>false
 |.box y=>match op with
  |.box _ x=>cZ x y
  |_=>false
 |.alloc z=>match op with
  |.alloc t=>okZ P t z
  |_=>false
 |.build z ps=>match op with
  |.build t parts=>okZ P t z&&(match P.underlying t with
   |some (.struct fs)=>fs.toList.all (fun f=>(P.info? f.type).isSome)&&DF P fs parts.toList ps
   |_=>false)
  |_=>false
 |.aO len z ps=>match op with
  |.buildSlice t n parts=>n==len&&decide (len<pB)&&(match mK P t with
   |some e=>match P.info? e with
    |some i=>decide (len*i.size≤2^24)&&(match i.zero with
     |some zv=>Ud z ((Array.range (len*i.size)).map (zv.cells[·%zv.cells.size]!)).toList
     |none=>false)&&yu i.size parts.toList ps
    |none=>false
   |none=>false)
  |_=>false
 |.load sh y=>match op with
  |.load t x=>cZ x y&&(match P.underlying t with
   |some (.struct _)=>(match sh with|.agg l=>oe P t l.length|_=>false)
   |some (.array _ _)=>false
   |some _=>(match sh with|.one _=>true|_=>false)
   |none=>false)
  |_=>false
 |.store n a y=>match op with
  |.store t a' x=>oe P t n&&cZ a' a&&cZ x y
  |_=>false
 |.cg y=>match op with
  |.nilCheck x=>cZ x y
  |_=>false
 |.bin o _ x y=>match op with
  |.binOp o' _ x' y' _=>decide (o'=o)&&ac6 o&&cZ x' x&&cZ y' y
  |_=>false
 |.sh left _ _ x y=>match op with
  |.binOp o' _ x' y' _=>(if left then decide (o'=.shl) else decide (o'=.shr))&&cZ x' x&&cZ y' y
  |_=>false
 |.cmp o _ x y=>match op with
  |.binOp o' _ x' y' _=>decide (o'=o)&&asU o&&cZ x' x&&cZ y' y
  |_=>false
 |.beq neg x y=>match op with
  |.binOp o' t x' y' _=>(if neg then decide (o'=.neq) else decide (o'=.eql))&&ac5 P t&&cZ x' x&&cZ y' y
  |_=>false
 |.Fc neg x=>match op with
  |.binOp o' t x' (.const (.slice none 0 0)) _=>(if neg then decide (o'=.neq) else decide (o'=.eql))&&(mK P t).isSome&&cZ x' x
  |_=>false
 |.not y=>match op with
  |.unOp .not _ x=>cZ x y
  |_=>false
 |.neg _ y=>match op with
  |.unOp .neg _ x=>cZ x y
  |_=>false
 |.conv s d y=>match op with
  |.convert src dst x=>isInt P src s&&isInt P dst d&&cZ x y
  |_=>false
 |.vf f a b=>match op with
  |.makeFunc (.func g) a' b'=>g==f&&Ck a'.toList a&&Ck b'.toList b
  |_=>false
 |.cH bytes z l c=>match op with
  |.makeSlice t l' c'=>cZ l' l&&cZ c' c&&(match mK P t with
   |some e=>OF P e bytes&&okZ P e z&&oe P e z.length&&decide (0<z.length)&&decide (0<bytes)
   |none=>false)
  |_=>false
 |.slice jZ y lo hi mx=>match op with
  |.slice t x lo' Bl mx'=>cZ x y&&okO lo' lo&&okO Bl hi&&okO mx' mx&&(Bl.isSome||!mx'.isSome)&&(match mK P t with
   |some e=>oe P e jZ
   |none=>false)
  |_=>false
 |.bR off y=>match op with
  |.fieldAddr t x i=>cZ x y&&(match P.underlying t with
   |some (.struct fs)=>match fs[i]? with
    |some f=>f.offset==off&&(match P.info? f.type with|some i=>i.size !=0|none=>false)
    |none=>false
   |_=>false)
  |_=>false
 |.di jZ x i=>match op with
  |.indexAddr t x' i'=>cZ x' x&&cZ i' i&&(match mK P t with
   |some e=>oe P e jZ
   |none=>false)
  |_=>false
 |.Kp y i=>match op with
  |.extract x j=>cZ x y&&j==i
  |_=>false
 |.call ..=>false
 |.len y=>match op with
  |.call {callee:=.builtin .len,args,argTypes}=>(match args.toList,argTypes.toList with
   |[x],[t]=>cZ x y&&(mK P t).isSome
   |_,_=>false)
  |_=>false
 |.append jZ bytes x y=>match op with
  |.call {callee:=.builtin .append,args,argTypes}=>(match args.toList,argTypes.toList with
   |[x',y'],[t,t']=>cZ x' x&&cZ y' y&&decide (0<jZ)&&decide (0<bytes)&&(match mK P t with
    |some e=>oe P e jZ&&OF P e bytes&&t'==t&&(match zeroOf P e with|some z=>z.length==jZ|none=>false)
    |none=>false)
   |_,_=>false)
  |_=>false
 |.copy jZ d s=>match op with
  |.call {callee:=.builtin .copy,args,argTypes}=>(match args.toList,argTypes.toList with
   |[x',y'],t::_=>cZ x' d&&cZ y' s&&decide (0<jZ)&&(match mK P t with
    |some e=>oe P e jZ
    |none=>false)
   |_,_=>false)
  |_=>false
 |.Kq _ bs y=>match op with
  |.index t (.const (.string s)) x=>cZ x y&&(match P.underlying t with|some .string=>true|_=>false)&&decide (s.data.toList.map (·.toNat)=bs)
  |_=>false
 |.mm isMax x y=>match op with
  |.call {callee:=.builtin b,args, ..}=>(match args.toList with
   |[x',y']=>(if isMax then (match b with|.max=>true|_=>false) else (match b with|.min=>true|_=>false))&&cZ x' x&&cZ y' y
   |_=>false)
  |_=>false
section
variable{P:Program}{C:Callee}{fl base aq:Nat}{μ:Mu}{h h1:AH}{w:World}{s:List Value}{a:Act}{v:Value}{o:Oper}
abbrev K0:Value→AH→Option (Value×AH):=fun v h=>some (v,h)
theorem ay9{y}(c:Ctx fl base aq μ h w s a)(ok:dM P o.op (.mv y)=true)(e:cQ C fl s h (.mv y) K0=some (v,h1)):
 aV fl base aq μ h w v h1 ((execOp a.eval o).run P w):=by
 simp only[cQ,K0,Option.some.injEq,Prod.mk.injEq] at e
 obtain⟨rfl,rfl⟩:=e
 simp only[dM] at ok
 unfold execOp
 split at ok
 ·rename_i hx;rw[hx];exact aV.still c.eV (bE c.t ok)
 ·rename_i hx;rw[hx];exact aV.still c.eV (bE c.t ok)
 ·cases ok
theorem atV{x y z}(c:Ctx fl base aq μ h w s a)(ok:dM P o.op (.pick x y z)=true)(e:cQ C fl s h (.pick x y z) K0=some (v,h1)):
 aV fl base aq μ h w v h1 ((execOp a.eval o).run P w):=by
 simp only[cQ] at e
 obtain⟨t,ht,e⟩:=bX e
 simp only[dM] at ok
 unfold execOp
 split at ok
 ·rename_i hx;rw[hx]
  simp only[Bool.and_eq_true] at ok
  obtain⟨⟨k1,k2⟩,k3⟩:=ok
  have r1:=bE c.t k1
  rw[ht] at r1
  have r1:=r1.tz
  simp only[r1,Go.asBool,Sem.run_bind,Sem.run_pure,Result.andThen_ok]
  cases t with
  |true=>
   simp only[if_true,K0,Option.some.injEq,Prod.mk.injEq] at e ⊢
   obtain⟨rfl,rfl⟩:=e
   exact aV.still c.eV (bE c.t k2)
  |false=>
   simp only[Bool.false_eq_true,if_false,K0,Option.some.injEq,Prod.mk.injEq] at e ⊢
   obtain⟨rfl,rfl⟩:=e
   exact aV.still c.eV (bE c.t k3)
 ·cases ok
theorem LU(t:TypeId)(c:Array Value):(newRow t c).run P w=.ok ⟨w.heap.size,0,none⟩ (w.alloc (.cells c t)):=rfl
theorem Fh{t:TypeId}{i:TypeInfo}(hi:P.info? t=some i):(typeInfo t).run P w=.ok i w:=by
 simp only[typeInfo,Go.program,Sem.run_bind,Sem.run,Result.andThen_ok,hi,Sem.run_pure]
theorem Pu{t:TypeId}{i:TypeInfo}{z:Value}(hi:P.info? t=some i)(hz:i.zero=some z):(zeroValue t).run P w=.ok z w:=by
 simp only[zeroValue,Sem.run_bind,Fh hi,Result.andThen_ok,hz,Sem.run_pure]
theorem eW{t:TypeId}{i:TypeInfo}(hi:P.info? t=some i):(sizeOf t).run P w=.ok i.size w:=by
 simp only[sizeOf,Sem.run_bind,Fh hi,Result.andThen_ok,Sem.run_pure]
theorem aV.new(c:Ctx fl base aq μ h w s a)(hf:μ h.next=none){cs:List Value}{x:Array Value}{t:TypeId}(hc:bq μ (c8 w) cs x.toList){v':Value}{r:Result Next}
 (hr:r=.ok (.value v') (w.alloc (.cells x t)))
 (hv:cC (ext μ h.next (w.heap.size,0)) (c8 (w.alloc (.cells x t))) v v'):aV fl base aq μ h w v (h.alloc cs) r:=by
 refine⟨v',_,_,.inl hr,bY.alloc c.eV c.hn c.hr hf (fun j u hu=>?_),hv⟩
 obtain⟨u',h1,h2⟩:=hc.get hu
 exact⟨u',by simpa using h1,h2⟩
theorem awy{y}(c:Ctx fl base aq μ h w s a)(hf:h.next<h1.next→μ h.next=none)(ok:dM P o.op (.box y)=true)(e:cQ C fl s h (.box y) K0=some (v,h1)):
 aV fl base aq μ h w v h1 ((execOp a.eval o).run P w):=by
 simp only[cQ,K0] at e
 split at e
 ·rename_i am9
  simp only[Option.some.injEq,Prod.mk.injEq] at e
  obtain⟨rfl,rfl⟩:=e
  simp only[dM] at ok
  unfold execOp
  split at ok
  ·rename_i t x hx;rw[hx]
   have r:=(bE c.t ok).cells (List.all_eq_true.1 am9)
   refine aV.new (t:=t) c (hf (Nat.lt_succ_self _)) r (v':=.pointer (some ⟨w.heap.size,0,none⟩)) ?_ (.ptr (bW _ _ _))
   simp[Instr.box,newVar,LU]
  ·cases ok
 ·cases e
theorem anO{z}(c:Ctx fl base aq μ h w s a)(hf:h.next<h1.next→μ h.next=none)(ok:dM P o.op (.alloc z)=true)(e:cQ C fl s h (.alloc z) K0=some (v,h1)):
 aV fl base aq μ h w v h1 ((execOp a.eval o).run P w):=by
 simp only[cQ,K0,Option.some.injEq,Prod.mk.injEq] at e
 obtain⟨rfl,rfl⟩:=e
 simp only[dM] at ok
 unfold execOp
 split at ok
 ·rename_i t hx;rw[hx]
  unfold okZ zeroOf at ok
  split at ok
  ·rename_i zs hz
   split at hz
   ·rename_i i hi
    split at hz
    ·rename_i zv hzv
     injection hz with hz;subst hz
     refine aV.new (t:=t) c (hf (Nat.lt_succ_self _)) (yt ok) (v':=.pointer (some ⟨w.heap.size,0,none⟩)) ?_ (.ptr (bW _ _ _))
     simp[Instr.alloc,newVar,LU,Pu hi hzv]
    ·cases hz
   ·cases hz
  ·cases ok
 ·cases ok
theorem atW{y}(c:Ctx fl base aq μ h w s a)(ok:dM P o.op (.cg y)=true)(e:cQ C fl s h (.cg y) K0=some (v,h1)):
 aV fl base aq μ h w v h1 ((execOp a.eval o).run P w):=by
 simp only[cQ] at e
 obtain⟨p,hp,e⟩:=dL e
 simp only[K0,Option.some.injEq,Prod.mk.injEq] at e
 obtain⟨rfl,rfl⟩:=e
 simp only[dM] at ok
 unfold execOp
 split at ok
 ·rename_i x hx;rw[hx]
  have r:=bE c.t ok
  rw[hp] at r
  obtain⟨rb,ob,h1,h2⟩:=r.HT
  simp only[h2]
  rw[h2] at r
  exact aV.still c.eV r
 ·cases ok
theorem awz{op k x y}(c:Ctx fl base aq μ h w s a)(ok:dM P o.op (.bin op k x y)=true)(e:cQ C fl s h (.bin op k x y) K0=some (v,h1)):
 aV fl base aq μ h w v h1 ((execOp a.eval o).run P w):=by
 simp only[cQ] at e
 obtain⟨m,hm,e⟩:=aG e
 obtain⟨n,hn,e⟩:=aG e
 simp only[dM] at ok
 unfold execOp
 split at ok
 ·rename_i o' t x' y' t' hx;rw[hx]
  simp only[Bool.and_eq_true,decide_eq_true_eq] at ok
  obtain⟨⟨⟨rfl,k0⟩,k1⟩,k2⟩:=ok
  have r1:=bE c.t k1
  have r2:=bE c.t k2
  rw[hm] at r1;rw[hn] at r2
  have r1:=r1.jw
  have r2:=r2.jw
  simp only[r1,r2]
  split at e
  ·rename_i z hz
   simp only[K0,Option.some.injEq,Prod.mk.injEq] at e
   obtain⟨rfl,rfl⟩:=e
   have hg:(eqGuard o' t x' y' (Value.int k m) (Value.int k n)).run P w=.ok () w:=by
    cases o'<;>first|rfl|(cases k0;done)
   have hb:(binOp o' t (Value.int k m) (Value.int k n)).run P w=.ok (.int k z) w:=by
    cases o'<;>simp only[ac6,Bool.false_eq_true] at k0<;>simp only[Cg] at hz<;>unfold binOp<;>
     simp only[ne_eq,not_true_eq_false,if_false,Op.intArith,Op.intDiv,Op.intBits]
    all_goals first
     |(injection hz with hz;subst hz;rfl)
     |(split at hz
       ·cases hz
       ·rename_i iH;injection hz with hz;subst hz;rw[if_neg iH];rfl)
   simp only[Sem.run_bind,hg,hb,Result.andThen_ok,Sem.run_pure]
   exact aV.still c.eV (.int _ _)
  ·cases e
 ·cases ok
theorem awA{op k x y}(c:Ctx fl base aq μ h w s a)(ok:dM P o.op (.cmp op k x y)=true)(e:cQ C fl s h (.cmp op k x y) K0=some (v,h1)):
 aV fl base aq μ h w v h1 ((execOp a.eval o).run P w):=by
 simp only[cQ] at e
 obtain⟨m,hm,e⟩:=aG e
 obtain⟨n,hn,e⟩:=aG e
 simp only[dM] at ok
 unfold execOp
 split at ok
 ·rename_i o' t x' y' t' hx;rw[hx]
  simp only[Bool.and_eq_true,decide_eq_true_eq] at ok
  obtain⟨⟨⟨rfl,k0⟩,k1⟩,k2⟩:=ok
  have r1:=bE c.t k1
  have r2:=bE c.t k2
  rw[hm] at r1;rw[hn] at r2
  have r1:=r1.jw
  have r2:=r2.jw
  simp only[r1,r2]
  split at e
  ·rename_i z hz
   simp only[K0,Option.some.injEq,Prod.mk.injEq] at e
   obtain⟨rfl,rfl⟩:=e
   have hg:(eqGuard o' t x' y' (Value.int k m) (Value.int k n)).run P w=.ok () w:=by
    cases o'<;>rfl
   have hb:(binOp o' t (Value.int k m) (Value.int k n)).run P w=.ok (.bool z) w:=by
    cases o'<;>simp only[asU,Bool.false_eq_true] at k0<;>simp only[aiD] at hz<;>unfold binOp<;>
     simp only[ne_eq,not_true_eq_false,if_false,Op.intCmp]
    all_goals (injection hz with hz;subst hz;rfl)
   simp only[Sem.run_bind,hg,hb,Result.andThen_ok,Sem.run_pure]
   exact aV.still c.eV (.bool _)
  ·cases e
 ·cases ok
theorem aza{left k yk x y}(c:Ctx fl base aq μ h w s a)(ok:dM P o.op (.sh left k yk x y)=true)(e:cQ C fl s h (.sh left k yk x y) K0=some (v,h1)):
 aV fl base aq μ h w v h1 ((execOp a.eval o).run P w):=by
 simp only[cQ] at e
 obtain⟨m,hm,e⟩:=aG e
 obtain⟨n,hn,e⟩:=aG e
 simp only[dM] at ok
 unfold execOp
 split at ok
 ·rename_i o' t x' y' t' hx;rw[hx]
  simp only[Bool.and_eq_true] at ok
  obtain⟨⟨k0,k1⟩,k2⟩:=ok
  have r1:=bE c.t k1
  have r2:=bE c.t k2
  rw[hm] at r1;rw[hn] at r2
  have r1:=r1.jw
  have r2:=r2.jw
  simp only[r1,r2]
  split at e
  ·rename_i z hz
   simp only[K0,Option.some.injEq,Prod.mk.injEq] at e
   obtain⟨rfl,rfl⟩:=e
   have TY:o'=if left=true then BinOp.shl else .shr:=by cases left<;>simpa using k0
   have hg:(eqGuard o' t x' y' (Value.int k m) (Value.int yk n)).run P w=.ok () w:=by
    subst TY;cases left<;>rfl
   have hb:(binOp o' t (Value.int k m) (Value.int yk n)).run P w=.ok (.int k z) w:=by
    subst TY
    unfold XB at hz
    split at hz
    ·cases hz
    ·rename_i aBY
     cases left<;>simp only[Bool.false_eq_true,if_false,if_true] at hz ⊢<;>injection hz with hz<;>subst hz<;>unfold binOp<;>simp only[Op.shift,if_neg aBY]<;>rfl
   simp only[Sem.run_bind,hg,hb,Result.andThen_ok,Sem.run_pure]
   exact aV.still c.eV (.int _ _)
  ·cases e
 ·cases ok
theorem awB{y}(c:Ctx fl base aq μ h w s a)(ok:dM P o.op (.not y)=true)(e:cQ C fl s h (.not y) K0=some (v,h1)):
 aV fl base aq μ h w v h1 ((execOp a.eval o).run P w):=by
 simp only[cQ] at e
 obtain⟨m,hm,e⟩:=bX e
 simp only[K0,Option.some.injEq,Prod.mk.injEq] at e
 obtain⟨rfl,rfl⟩:=e
 simp only[dM] at ok
 unfold execOp
 split at ok
 ·rename_i t x hx;rw[hx]
  have r:=bE c.t ok
  rw[hm] at r
  simp only[r.tz]
  exact aV.still c.eV (.bool _)
 ·cases ok
theorem awC{k y}(c:Ctx fl base aq μ h w s a)(ok:dM P o.op (.neg k y)=true)(e:cQ C fl s h (.neg k y) K0=some (v,h1)):
 aV fl base aq μ h w v h1 ((execOp a.eval o).run P w):=by
 simp only[cQ] at e
 obtain⟨m,hm,e⟩:=aG e
 simp only[K0,Option.some.injEq,Prod.mk.injEq] at e
 obtain⟨rfl,rfl⟩:=e
 simp only[dM] at ok
 unfold execOp
 split at ok
 ·rename_i t x hx;rw[hx]
  have r:=bE c.t ok
  rw[hm] at r
  simp only[r.jw]
  exact aV.still c.eV (.int _ _)
 ·cases ok
theorem atX{y i}(c:Ctx fl base aq μ h w s a)(ok:dM P o.op (.Kp y i)=true)(e:cQ C fl s h (.Kp y i) K0=some (v,h1)):
 aV fl base aq μ h w v h1 ((execOp a.eval o).run P w):=by
 simp only[cQ] at e
 obtain⟨vs,hvs,e⟩:=Ae e
 split at e
 ·rename_i u hu
  simp only[K0,Option.some.injEq,Prod.mk.injEq] at e
  obtain⟨rfl,rfl⟩:=e
  simp only[dM] at ok
  unfold execOp
  split at ok
  ·rename_i x j hx;rw[hx]
   simp only[Bool.and_eq_true,beq_iff_eq] at ok
   obtain⟨k1,rfl⟩:=ok
   have r:=bE c.t k1
   rw[hvs] at r
   obtain⟨ys,hy,hl⟩:=r.afW (by rintro rfl;simp at hu)
   obtain⟨u',h1,h2⟩:=hl.get hu
   simp only[hy,Instr.extract]
   have h3:(⟨ys⟩:Array Value)[j]?=some u':=by simpa using h1
   simp only[h3,Sem.run_bind,Sem.run_pure,Result.andThen_ok]
   exact aV.still c.eV h2
  ·cases ok
 ·cases e
end
end Go.Abs
end
section
namespace Go.Abs
theorem bq.mh{μ sz}:∀{xs wS z z':List Value} {off:Nat},bq μ sz z z'→bq μ sz xs wS→bq μ sz (mh z off xs) (mh z' off wS)
 |[],[],_,_,_,h,_=>h
 |[],_::_,_,_,_,_,t=>by have:=t.1;simp at this
 |_::_,[],_,_,_,_,t=>by have:=t.1;simp at this
 |x::xs,x'::wS,z,z',off,h,t=>by
  have hx:=t.2 0 (by simp) (by simp)
  have ht:bq μ sz xs wS:=⟨by have:=t.1;simpa using this,fun i h1 h2=>t.2 (i+1) (by simpa using h1) (by simpa using h2)⟩
  refine bq.mh (z:=z.set off x) (z':=z'.set off x') (off:=off+1) ?_ ht
  refine bq.abp (by simp[h.1]) fun i v hv=>?_
  rw[List.getElem?_set] at hv ⊢
  have hl:=h.1
  by_cases e:off=i
  ·simp only[e,if_true] at hv ⊢
   split at hv
   ·rename_i hlt
    injection hv with hv;subst hv
    rw[if_pos (by omega)];exact⟨x',rfl,hx⟩
   ·cases hv
  ·simp only[e,if_false] at hv ⊢
   exact h.get hv
theorem Pv:∀(xs z:List Value) (off i:Nat),off+xs.length≤z.length→(mh z off xs)[i]?=if off≤i∧i<off+xs.length then xs[i-off]? else z[i]?
 |[],z,off,i,_=>by simp[mh];omega
 |x::xs,z,off,i,h=>by
  simp only[List.length_cons] at h
  rw[mh,Pv xs _ (off+1) i (by simp;omega)]
  by_cases h1:off+1≤i∧i<off+1+xs.length
  ·rw[if_pos h1,if_pos (by simp;omega)]
   rw[show i-off=(i-(off+1))+1 by omega,List.getElem?_cons_succ]
  ·rw[if_neg h1,List.getElem?_set]
   by_cases e:off=i
   ·subst e;rw[if_pos rfl,if_pos (by omega),if_pos (by simp)];simp
   ·rw[if_neg e,if_neg (by simp;omega)]
theorem HU(off:Nat):∀(xs:List Value) (k:Nat) (cells:Array Value),
 (xs.zipIdx k).foldl (fun(cs:Array Value) (c:Value×Nat)=>cs.setIfInBounds (off+c.2) c.1) cells=⟨mh cells.toList (off+k) xs⟩
 |[],_,_=>rfl
 |x::xs,k,cells=>by
  rw[List.zipIdx_cons,List.foldl_cons,HU off xs (k+1)]
  simp only[mh,Array.toList_setIfInBounds]
  rw[Nat.add_assoc]
section
variable{P:Program}{C:Callee}{fl base aq:Nat}{μ:Mu}{h h1:AH}{w:World}{s:List Value}{a:Act}{v:Value}{o:Oper}
theorem Te{sz}{y:my}{x:Operand}{z z' cs:List Value}{off size:Nat}{ps:List (Nat×Nat×my)}{place:Nat→Option (Nat×Nat)}{i:Nat}(hp:place i=some (off,size))
 (t:bq μ sz s a.tmps.toList) (hx:cZ x y=true) (hz:bq μ sz z z') (e:pC s ((off,size,y)::ps) z=some cs) (rest:List (Nat×Value)):
 ∃z2 z2':List Value,bq μ sz z2 z2'∧pC s ps z2=some cs∧Instr.fill place z'.toArray ((i,a.eval x)::rest)=Instr.fill place z2'.toArray rest:=by
 simp only[pC] at e
 split at e
 ·rename_i h1
  split at e
  ·rename_i h2
   split at e
   ·rename_i h3
    have r:=(bE t hx).cells (List.all_eq_true.1 h3)
    have hl:=r.1
    refine⟨_,_,bq.mh (off:=off) hz r,e,?_⟩
    simp only[Instr.fill,hp]
    have hs:(a.eval x).cells.size=size:=by rw[←h1,hl];simp
    have hzl:z'.toArray.size=z.length:=by simp[hz.1]
    rw[if_neg (by simp[hs];have:=hz.1;omega)]
    congr 1
    rw[←Array.foldl_toList,Array.toList_zipIdx,HU off _ 0]
    simp
   ·cases e
  ·cases e
 ·cases e
theorem Pw{sz}(fs:Array Field)(uf:Array (Nat×Nat))(Xa:∀(i:Nat) (f:Field) (ti:TypeInfo),fs[i]?=some f→P.info? f.type=some ti→uf[i]?=some (f.offset,ti.size))(t:bq μ sz s a.tmps.toList):
 ∀{ps:List (Nat×Nat×my)} {parts:List (Nat×Operand)} {z z' cs:List Value},DF P fs parts ps=true→bq μ sz z z'→pC s ps z=some cs→
  ∃eE:List Value,Instr.fill (uf[·]?) z'.toArray (parts.map fun p=>(p.1,a.eval p.2))=some eE.toArray∧bq μ sz cs eE
 |[],[],z,z',cs,_,hz,e=>by
  simp only[pC,Option.some.injEq] at e;subst e
  exact⟨z',rfl,hz⟩
 |(off,size,y)::ps,(i,x)::parts,z,z',cs,ok,hz,e=>by
  simp only[DF,Bool.and_eq_true] at ok
  obtain⟨⟨k1,k2⟩,k3⟩:=ok
  split at k1
  ·rename_i f hf
   simp only[Bool.and_eq_true,beq_iff_eq] at k1
   obtain⟨k4,k5⟩:=k1
   unfold oe at k5
   split at k5
   ·rename_i ti hti
    simp at k5
    have hp:uf[i]?=some (off,size):=by rw[Xa i f ti hf hti,k4,k5]
    obtain⟨z2,z2',r1,r2,r3⟩:=Te (place:=(uf[·]?)) (i:=i) hp t k2 hz e (parts.map fun p=>(p.1,a.eval p.2))
    obtain⟨eE,q1,q2⟩:=Pw fs uf Xa t k3 r1 r2
    exact⟨eE,by simp only[List.map_cons];rw[r3];exact q1,q2⟩
   ·cases k5
  ·cases k1
 |[],_::_,_,_,_,ok,_,_=>by simp[DF] at ok
 |_::_,[],_,_,_,ok,_,_=>by simp[DF] at ok
theorem LV{sz}(size:Nat)(t:bq μ sz s a.tmps.toList):
 ∀{ps:List (Nat×Nat×my)} {parts:List (Nat×Operand)} {z z' cs:List Value},yu size parts ps=true→bq μ sz z z'→pC s ps z=some cs→
  ∃eE:List Value,Instr.fill (fun i=>some (i*size,size)) z'.toArray (parts.map fun p=>(p.1,a.eval p.2))=some eE.toArray∧bq μ sz cs eE
 |[],[],z,z',cs,_,hz,e=>by
  simp only[pC,Option.some.injEq] at e;subst e
  exact⟨z',rfl,hz⟩
 |(off,sz',y)::ps,(i,x)::parts,z,z',cs,ok,hz,e=>by
  simp only[yu,Bool.and_eq_true,beq_iff_eq] at ok
  obtain⟨⟨⟨rfl,rfl⟩,k2⟩,k3⟩:=ok
  obtain⟨z2,z2',r1,r2,r3⟩:=Te (place:=fun i=>some (i*sz',sz')) (i:=i) rfl t k2 hz e (parts.map fun p=>(p.1,a.eval p.2))
  obtain⟨eE,q1,q2⟩:=LV sz' t k3 r1 r2
  exact⟨eE,by simp only[List.map_cons];rw[r3];exact q1,q2⟩
 |[],_::_,_,_,_,ok,_,_=>by simp[yu] at ok
 |_::_,[],_,_,_,ok,_,_=>by simp[yu] at ok
theorem Tf:∀(fs:List Field),fs.all (fun f=>(P.info? f.type).isSome)=true→
 ∃uf,fs.mapM (fun f=>(P.info? f.type).map fun i=>(f.offset,i.size))=some uf∧∀(i:Nat) (f:Field) (ti:TypeInfo),fs[i]?=some f→P.info? f.type=some ti→uf[i]?=some (f.offset,ti.size)
 |[],_=>⟨[],rfl,fun i f ti h=>by simp at h⟩
 |f::fs,h=>by
  simp only[List.all_cons,Bool.and_eq_true] at h
  obtain⟨uf,h1,h2⟩:=Tf fs h.2
  obtain⟨ti,hti⟩:=Option.isSome_iff_exists.1 h.1
  refine⟨(f.offset,ti.size)::uf,by simp[List.mapM_cons,hti,h1],?_⟩
  intro i g tj hg hj
  cases i with
  |zero=>simp at hg;subst hg;rw[hti] at hj;injection hj with hj;subst hj;rfl
  |succ i=>simpa using h2 i g tj (by simpa using hg) hj
theorem anP{z ps}(c:Ctx fl base aq μ h w s a)(ok:dM P o.op (.build z ps)=true)(e:cQ C fl s h (.build z ps) K0=some (v,h1)):
 aV fl base aq μ h w v h1 ((execOp a.eval o).run P w):=by
 simp only[cQ] at e
 split at e
 ·rename_i cs hcs
  simp only[K0,Option.some.injEq,Prod.mk.injEq] at e
  obtain⟨rfl,rfl⟩:=e
  simp only[dM] at ok
  unfold execOp
  split at ok
  ·rename_i t parts hx;rw[hx]
   simp only[Bool.and_eq_true] at ok
   obtain⟨k1,k2⟩:=ok
   split at k2
   ·rename_i fs hfs
    simp only[Bool.and_eq_true] at k2
    obtain⟨k3,k4⟩:=k2
    unfold okZ zeroOf at k1
    split at k1
    ·rename_i zs hz
     split at hz
     ·rename_i i hi
      split at hz
      ·rename_i zv hzv
       injection hz with hz;subst hz
       obtain⟨uf,p1,p2⟩:=Tf fs.toList k3
       obtain⟨eE,q1,q2⟩:=Pw (P:=P) (a:=a) fs uf.toArray (fun i f ti hf hti=>by simpa using p2 i f ti (by simpa using hf) hti) c.t k4 (yt k1) hcs
       have hb:P.built t (parts.map fun(i,x)=>(i,a.eval x)).toList=some eE.toArray:=by
        simp only[Program.built,hi,hfs,hzv,p1,Array.toList_map]
        simpa using q1
       simp only[Sem.run_bind,run_build w t _ _ hb,Result.andThen_ok,Sem.run_pure]
       exact aV.still c.eV (.agg q2.1 q2.2)
      ·cases hz
     ·cases hz
    ·cases k1
   ·cases k2
  ·cases ok
 ·cases e
theorem aiE{len z ps}(c:Ctx fl base aq μ h w s a)(hf:h.next<h1.next→μ h.next=none)(ok:dM P o.op (.aO len z ps)=true)(e:cQ C fl s h (.aO len z ps) K0=some (v,h1)):
 aV fl base aq μ h w v h1 ((execOp a.eval o).run P w):=by
 simp only[cQ] at e
 split at e
 ·rename_i cs hcs
  simp only[K0,Option.some.injEq,Prod.mk.injEq] at e
  obtain⟨rfl,rfl⟩:=e
  simp only[dM] at ok
  unfold execOp
  split at ok
  ·rename_i t n parts hx;rw[hx]
   simp only[Bool.and_eq_true,beq_iff_eq,decide_eq_true_eq] at ok
   obtain⟨⟨rfl,hlen⟩,k2⟩:=ok
   unfold mK at k2
   split at k2
   ·rename_i ee hee
    split at hee
    ·rename_i e' hu
     injection hee with hee;subst hee
     split at k2
     ·rename_i i hi
      simp only[Bool.and_eq_true,decide_eq_true_eq] at k2
      obtain⟨⟨k3,k4⟩,k5⟩:=k2
      split at k4
      ·rename_i zv hzv
       obtain⟨eE,q1,q2⟩:=LV (a:=a) i.size c.t k5 (yt k4) hcs
       rw[Array.toArray_toList] at q1
       have lZ:(Instr.buildSlice t n (parts.map fun(i,x)=>(i,a.eval x))).run P w=.ok (.slice (some ⟨w.heap.size,0,none⟩) n n) (w.alloc (.cells eE.toArray e')):=by
        have q3:Instr.fill (fun j=>some (j*i.size,i.size)) ((Array.range (n*i.size)).map (zv.cells[·%zv.cells.size]!)) (parts.map fun(i,x)=>(i,a.eval x)).toList=some eE.toArray:=by
         rw[Array.toList_map];exact q1
        by_cases hz0:n*i.size=0
        ·have h0:((Array.range (n*i.size)).map (zv.cells[·%zv.cells.size]!))=#[]:=by rw[hz0];simp
         rw[h0] at q3
         have h0':¬(n*i.size>2^24):=by omega
         have h00:((Array.range (n*i.size)).map ((#[]:Array Value)[·%(#[]:Array Value).size]!))=#[]:=by rw[hz0];simp
         unfold Instr.buildSlice
         have h1':¬(0>2^24):=by omega
         simp only[run_underlying hu,Sem.run_bind,Result.andThen_ok,eW hi,hz0,if_true,Sem.run_pure,if_neg h1']
         simp only[hz0] at h00
         rw[h00,q3]
         rfl
        ·exact run_buildSlice w t e' n _ _ i zv hu hi hzv (by omega) hz0 q3
       refine aV.new (t:=e') (x:=eE.toArray) c (hf (Nat.lt_succ_self _)) (by simpa using q2) (v':=.slice (some ⟨w.heap.size,0,none⟩) n n) ?_ (.slice (bW _ _ _) hlen (Nat.le_refl _))
       simp only[Sem.run_bind,lZ,Result.andThen_ok,Sem.run_pure]
      ·cases k4
     ·cases k2
    ·cases hee
   ·cases k2
  ·cases ok
 ·cases e
theorem yo.load{b o rb ob u}(sm:yo base aq μ h w)(hc:h.cell b o=some u)(hm:μ b=some (rb,ob)):∃u',w.cell? ⟨rb,ob+o,none⟩=some u'∧cC μ (c8 w) u u':=by
 unfold AH.cell at hc
 split at hc
 ·rename_i cs hb
  exact sm.cell b cs rb ob hb hm o u hc
 ·cases hc
theorem atY{sh y}(c:Ctx fl base aq μ h w s a)(ok:dM P o.op (.load sh y)=true)(e:cQ C fl s h (.load sh y) K0=some (v,h1)):
 aV fl base aq μ h w v h1 ((execOp a.eval o).run P w):=by
 simp only[cQ] at e
 obtain⟨p,hp,e⟩:=dL e
 simp only[dM] at ok
 unfold execOp
 split at ok
 ·rename_i t x hx;rw[hx]
  simp only[Bool.and_eq_true] at ok
  obtain⟨k1,k2⟩:=ok
  have r:=bE c.t k1
  rw[hp] at r
  obtain⟨rb,ob,m1,m2⟩:=r.HT
  simp only[m2,Instr.loadAt,Instr.sureAddr,loadVar,isAgg,Sem.run_bind,Sem.run_pure,Result.andThen_ok]
  split at k2
  ·rename_i fs hu
   split at k2
   ·rename_i l
    unfold oe at k2
    split at k2
    ·rename_i i hi
     simp at k2
     simp only at e
     obtain⟨vs,l1,l2,l3⟩:=vv (K:=fun vs=>K0 (.agg ⟨vs⟩) h) e
     simp only[K0,Option.some.injEq,Prod.mk.injEq] at l3
     obtain⟨rfl,rfl⟩:=l3
     have Xj:∃yn:List Value,bq μ (c8 w) vs yn∧∀(j:Nat) u,yn[j]?=some u→w.cell? ⟨rb,ob+p.off+j,none⟩=some u:=by
      clear e
      have key:∀(vs:List Value) (o':Nat),(∀(j:Nat) u,vs[j]?=some u→h.cell p.block (o'+j)=some u)→∃yn:List Value,bq μ (c8 w) vs yn∧∀(j:Nat) u,yn[j]?=some u→w.cell? ⟨rb,ob+o'+j,none⟩=some u:=by
       intro vs
       induction vs with
       |nil=>intro o' _;exact⟨[],bq.nil,fun j u hu=>by simp at hu⟩
       |cons u vs ih=>
        intro o' hh
        obtain⟨u',g1,g2⟩:=c.eV.load (hh 0 u rfl) m1
        obtain⟨yn,g3,g4⟩:=ih (o'+1) (fun j q hq=>by have:=hh (j+1) q (by simpa using hq);rwa[show o'+(j+1)=o'+1+j by omega] at this)
        refine⟨u'::yn,bq.cons g2 g3,?_⟩
        intro j q hq
        cases j with
        |zero=>simp at hq;subst hq;exact g1
        |succ j=>have:=g4 j q (by simpa using hq);rwa[show ob+o'+(j+1)=ob+(o'+1)+j by omega]
      exact key vs p.off (fun j u hu=>l2 j u hu)
     obtain⟨yn,g1,g2⟩:=Xj
     have hl:(loadCells ⟨rb,ob+p.off,none⟩ i.size).run P w=.ok yn.toArray w:=by
      rw[k2,←l1,g1.1]
      refine run_loadCells_list w _ yn fun j u hu=>?_
      have:=g2 j u hu
      unfold Addr.add
      split
      ·rename_i h0;subst h0;simpa using this
      ·exact this
     simp only[run_underlying hu,Result.andThen_ok,if_true,Sem.run_bind,eW hi,hl,Sem.run_pure]
     exact aV.still c.eV (.agg g1.1 g1.2)
    ·cases k2
   ·cases k2
  ·cases k2
  ·rename_i d hn1 hn2 hu
   split at k2
   ·rename_i s0
    simp only at e
    obtain⟨u,g1,g2⟩:=yr (K:=fun v=>K0 v h) e
    simp only[K0,Option.some.injEq,Prod.mk.injEq] at g2
    obtain⟨rfl,rfl⟩:=g2
    obtain⟨u',q1,q2⟩:=c.eV.load g1 m1
    have hd:((match d with|.struct _=>pure true|.array _ _=>pure true|_=>pure false):Sem Bool)=pure false:=by
     cases d<;>first|rfl|(exact absurd rfl (hn1 _))|(exact absurd rfl (hn2 _ _))
    simp only[run_underlying hu,Result.andThen_ok,hd,Sem.run_pure,Bool.false_eq_true,if_false,run_load,q1]
    exact aV.still c.eV q2
   ·cases k2
  ·cases k2
 ·cases ok
end
end Go.Abs
end
section
namespace Go.Abs
section
variable{P:Program}{C:Callee}{fl base aq:Nat}{μ:Mu}{h h1:AH}{w:World}{s:List Value}{a:Act}{v:Value}{o:Oper}
theorem kB(b o n:Nat):(⟨b,o,none⟩:Addr).add n=⟨b,o+n,none⟩:=by
 unfold Addr.add
 split
 ·rename_i h;subst h;rfl
 ·rfl
theorem bq.one{μ sz}{xs wS:List Value}(r:bq μ sz xs wS)(h:xs.all yp=true):∀u∈wS,u.oneCell'=true:=by
 intro u hu
 obtain⟨i,hi,rfl⟩:=List.getElem_of_mem hu
 have Bl:i<xs.length:=by have:=r.1;omega
 exact(r.2 i Bl hi).anN (List.all_eq_true.1 h _ (List.getElem_mem Bl))
theorem Px{R:Type}{r:R}{p:Addr}{xs wS:List Value}{K:AH→Option R}{rb ob:Nat}(sm:yo base aq μ h w)(hb:base≤fl)(e:st fl h p xs K=some r)(hx:bq μ (c8 w) xs wS)(m:μ p.block=some (rb,ob)):
 ∃c' h2,(storeCells ⟨rb,ob+p.off,none⟩ wS).run P w=.ok () (w.setRow rb c')∧bY fl base aq μ h w μ h2 (w.setRow rb c')∧K h2=some r∧h2.next=h.next∧fl≤p.block:=by
 unfold st at e
 split at e
 ·rename_i cs hcs
  split at e
  ·rename_i bL
   split at e
   ·rename_i axm
    split at e
    ·rename_i hlen
     split at e
     ·rename_i am9
      obtain⟨_,c,t,hg⟩:=sm.own p.block cs rb ob (Nat.le_trans hb bL) hcs m
      have No:wS.length=xs.length:=hx.1.symm
      have RO:ob+p.off+wS.length≤c.size:=by
       have hlt:p.off+xs.length-1<cs.length:=by omega
       obtain⟨u',g1,_⟩:=sm.cell p.block cs rb ob hcs m (p.off+xs.length-1) _ (List.getElem?_eq_getElem hlt)
       rw[mZ hg] at g1
       obtain⟨g2,_⟩:=Array.getElem?_eq_some_iff.1 g1
       omega
      have lZ:=run_storeCells_at (P:=P) rb (ob+p.off) t wS 0 c w hg (by omega) (hx.one am9)
      simp only[Nat.add_zero] at lZ
      refine⟨_,_,lZ,?_,e,rfl,bL⟩
      refine bY.set sm bL hb hcs m hg ?_ ?_
      ·simp;omega
      ·intro j u hu
       rw[Pv xs cs p.off j hlen] at hu
       by_cases hj:p.off≤j∧j<p.off+xs.length
       ·rw[if_pos hj] at hu
        obtain⟨u',g1,g2⟩:=hx.get hu
        refine⟨u',?_,g2⟩
        simp only[List.getElem?_toArray]
        rw[List.append_assoc,List.getElem?_append_right (by simp;omega),List.getElem?_append_left (by simp;omega)]
        have e1:ob+j-(List.take (ob+p.off) c.toList).length=j-p.off:=by simp;omega
        rw[e1];exact g1
       ·rw[if_neg hj] at hu
        obtain⟨u',g1,g2⟩:=sm.cell p.block cs rb ob hcs m j u hu
        rw[mZ hg] at g1
        refine⟨u',?_,g2⟩
        obtain⟨g3,g4⟩:=Array.getElem?_eq_some_iff.1 g1
        simp only[List.getElem?_toArray]
        by_cases hj2:j<p.off
        ·rw[List.append_assoc,List.getElem?_append_left (by simp;omega),List.getElem?_take,if_pos (by omega)]
         simpa using g1
        ·rw[List.append_assoc,List.getElem?_append_right (by simp;omega),List.getElem?_append_right (by simp;omega),List.getElem?_drop]
         have e1:ob+p.off+wS.length+(ob+j-(List.take (ob+p.off) c.toList).length-wS.length)=ob+j:=by simp;omega
         rw[e1]
         simpa using g1
     ·cases e
    ·cases e
   ·cases e
  ·cases e
 ·cases e
theorem anQ{n y z}(c:Ctx fl base aq μ h w s a)(ok:dM P o.op (.store n y z)=true)(e:cQ C fl s h (.store n y z) K0=some (v,h1)):
 aV fl base aq μ h w v h1 ((execOp a.eval o).run P w):=by
 simp only[cQ] at e
 obtain⟨p,hp,e⟩:=dL e
 split at e
 ·rename_i hn
  simp only[dM] at ok
  unfold execOp
  split at ok
  ·rename_i t y' z' hx;rw[hx]
   simp only[Bool.and_eq_true] at ok
   obtain⟨⟨k1,k2⟩,k3⟩:=ok
   have r1:=bE c.t k2
   rw[hp] at r1
   obtain⟨rb,ob,m1,m2⟩:=r1.HT
   have am9:(ev s z).cells.toList.all yp=true:=by
    unfold st at e
    (repeat' split at e)<;>first|assumption|cases e
   have r2:=(bE c.t k3).cells (List.all_eq_true.1 am9)
   obtain⟨c',h2,g1,g2,g3,_⟩:=Px (P:=P) c.eV c.hb e r2 m1
   simp only[K0,Option.some.injEq,Prod.mk.injEq] at g3
   obtain⟨rfl,rfl⟩:=g3
   unfold oe at k1
   split at k1
   ·rename_i i hi
    simp at k1
    have hs:¬((a.eval z').cells.size≠i.size):=by
     have:=r2.1
     simp only[Array.length_toList] at this hn
     omega
    simp only[m2,Instr.storeAt,Instr.sureAddr,storeVar,Sem.run_bind,Sem.run_pure,Result.andThen_ok,eW hi,if_neg hs,g1]
    exact⟨undef,μ,_,.inr ⟨rfl,rfl⟩,g2,.ue _⟩
   ·cases k1
  ·cases ok
 ·cases e
theorem abt(d:Nat){t m n}(hu:P.underlying t=some .bool):(Op.equalIn (d+1) t (Value.bool m) (Value.bool n)).run P w=.ok (m==n) w:=by
 simp only[Op.equalIn,Sem.run_bind,run_underlying hu,Result.andThen_ok,Sem.run_pure]
theorem XD(d:Nat){t e b l c}(hu:P.underlying t=some (.slice e)):(Op.equalIn (d+1) t (Value.slice b l c) (Value.slice none 0 0)).run P w=.ok b.isNone w:=by
 cases b<;>simp only[Op.equalIn,Sem.run_bind,run_underlying hu,Result.andThen_ok,Sem.run_pure,Option.isNone]
theorem awD{neg x y}(c:Ctx fl base aq μ h w s a)(ok:dM P o.op (.beq neg x y)=true)(e:cQ C fl s h (.beq neg x y) K0=some (v,h1)):
 aV fl base aq μ h w v h1 ((execOp a.eval o).run P w):=by
 simp only[cQ] at e
 obtain⟨m,hm,e⟩:=bX e
 obtain⟨n,hn,e⟩:=bX e
 simp only[K0,Option.some.injEq,Prod.mk.injEq] at e
 obtain⟨rfl,rfl⟩:=e
 simp only[dM] at ok
 unfold execOp
 split at ok
 ·rename_i o' t x' y' t' hx;rw[hx]
  simp only[Bool.and_eq_true] at ok
  obtain⟨⟨⟨k0,kt⟩,k1⟩,k2⟩:=ok
  have r1:=bE c.t k1
  have r2:=bE c.t k2
  rw[hm] at r1;rw[hn] at r2
  have r1:=r1.tz
  have r2:=r2.tz
  simp only[r1,r2]
  unfold ac5 at kt
  split at kt
  ·rename_i hu
   have TY:o'=if neg=true then BinOp.neq else .eql:=by cases neg<;>simpa using k0
   have hg:(eqGuard o' t x' y' (Value.bool m) (Value.bool n)).run P w=.ok () w:=by
    subst TY;cases neg<;>rfl
   have he:(Op.equal t (Value.bool m) (Value.bool n)).run P w=.ok (m==n) w:=by
    exact abt 9999 hu
   have hb:(binOp o' t (Value.bool m) (Value.bool n)).run P w=.ok (.bool (if neg=true then !(m==n) else m==n)) w:=by
    subst TY
    cases neg<;>simp[binOp,he]
   simp only[Sem.run_bind,hg,hb,Result.andThen_ok,Sem.run_pure]
   exact aV.still c.eV (.bool _)
  ·cases kt
 ·cases ok
theorem atZ{neg x}(c:Ctx fl base aq μ h w s a)(ok:dM P o.op (.Fc neg x)=true)(e:cQ C fl s h (.Fc neg x) K0=some (v,h1)):
 aV fl base aq μ h w v h1 ((execOp a.eval o).run P w):=by
 simp only[cQ] at e
 obtain⟨m,hm,e⟩:=cA e
 simp only[K0,Option.some.injEq,Prod.mk.injEq] at e
 obtain⟨rfl,rfl⟩:=e
 simp only[dM] at ok
 unfold execOp
 split at ok
 ·rename_i o' t x' t' hx;rw[hx]
  simp only[Bool.and_eq_true] at ok
  obtain⟨⟨k0,kt⟩,k1⟩:=ok
  have r1:=bE c.t k1
  rw[hm] at r1
  obtain⟨b',c',q1,q2⟩:=cC.Td (s:=m) r1
  unfold mK at kt
  split at kt
  ·rename_i e' hu
   have Tc:a.eval (.const (.slice none 0 0))=.slice none 0 0:=rfl
   simp only[q1,Tc]
   have TY:o'=if neg=true then BinOp.neq else .eql:=by cases neg<;>simpa using k0
   have hg:(eqGuard o' t x' (.const (.slice none 0 0)) (Value.slice b' m.l c') (.slice none 0 0)).run P w=.ok () w:=by
    subst TY;cases neg<;>rfl
   have he:(Op.equal t (Value.slice b' m.l c') (.slice none 0 0)).run P w=.ok b'.isNone w:=by
    exact XD 9999 hu
   have hb:(binOp o' t (Value.slice b' m.l c') (.slice none 0 0)).run P w=.ok (.bool (if neg=true then !m.a.isNone else m.a.isNone)) w:=by
    subst TY
    rw[q2]
    cases neg<;>simp[binOp,he]
   simp only[Sem.run_bind,hg,hb,Result.andThen_ok,Sem.run_pure]
   exact aV.still c.eV (.bool _)
  ·cases kt
 ·cases ok
theorem ac7{t k}(h:isInt P t k=true):P.underlying t=some (.int k):=by
 unfold isInt at h
 split at h
 ·rename_i k' hu;simp at h;rw[hu,h]
 ·cases h
theorem at1{sk dk y}(c:Ctx fl base aq μ h w s a)(ok:dM P o.op (.conv sk dk y)=true)(e:cQ C fl s h (.conv sk dk y) K0=some (v,h1)):
 aV fl base aq μ h w v h1 ((execOp a.eval o).run P w):=by
 simp only[cQ] at e
 obtain⟨m,hm,e⟩:=aG e
 simp only[K0,Option.some.injEq,Prod.mk.injEq] at e
 obtain⟨rfl,rfl⟩:=e
 simp only[dM] at ok
 unfold execOp
 split at ok
 ·rename_i ts td x hx;rw[hx]
  simp only[Bool.and_eq_true] at ok
  obtain⟨⟨k1,k2⟩,k3⟩:=ok
  have r:=bE c.t k3
  rw[hm] at r
  have hr:(convert ts td (Value.int sk m)).run P w=.ok (.int dk (dk.wrap m)) w:=by
   simp[convert,run_underlying (ac7 k1),run_underlying (ac7 k2),Conv.intToInt]
  simp only[r.jw,Sem.run_bind,hr,Result.andThen_ok,Sem.run_pure]
  exact aV.still c.eV (.int _ _)
 ·cases ok
theorem at2{f x y}(c:Ctx fl base aq μ h w s a)(ok:dM P o.op (.vf f x y)=true)(e:cQ C fl s h (.vf f x y) K0=some (v,h1)):
 aV fl base aq μ h w v h1 ((execOp a.eval o).run P w):=by
 simp only[cQ,K0,Option.some.injEq,Prod.mk.injEq] at e
 obtain⟨rfl,rfl⟩:=e
 simp only[dM] at ok
 unfold execOp
 split at ok
 ·rename_i g x' y' hx;rw[hx]
  simp only[Bool.and_eq_true,beq_iff_eq] at ok
  obtain⟨⟨rfl,k2⟩,k3⟩:=ok
  have r1:=HS c.t k2
  have r2:=HS c.t k3
  have e1:x'.map a.eval=⟨x'.toList.map a.eval⟩:=by apply Array.ext';simp
  have e2:y'.map a.eval=⟨y'.toList.map a.eval⟩:=by apply Array.ext';simp
  simp only[e1,e2,Instr.makeFunc,Sem.run_bind,Result.andThen_ok,Sem.run_pure]
  exact aV.still c.eV (.func r1.1 r1.2 r2.1 r2.2)
 ·cases ok
theorem anR{off y}(c:Ctx fl base aq μ h w s a)(ok:dM P o.op (.bR off y)=true)(e:cQ C fl s h (.bR off y) K0=some (v,h1)):
 aV fl base aq μ h w v h1 ((execOp a.eval o).run P w):=by
 simp only[cQ] at e
 obtain⟨p,hp,e⟩:=dL e
 simp only[K0,Option.some.injEq,Prod.mk.injEq] at e
 obtain⟨rfl,rfl⟩:=e
 simp only[dM] at ok
 unfold execOp
 split at ok
 ·rename_i t x i hx;rw[hx]
  simp only[Bool.and_eq_true] at ok
  obtain⟨k1,k2⟩:=ok
  have r:=bE c.t k1
  rw[hp] at r
  obtain⟨rb,ob,m1,m2⟩:=r.HT
  split at k2
  ·rename_i fs hu
   split at k2
   ·rename_i f hf
    simp only[Bool.and_eq_true,beq_iff_eq] at k2
    obtain⟨rfl,k3⟩:=k2
    split at k3
    ·rename_i ti hi
     simp only[bne_iff_ne,ne_eq] at k3
     simp only[m2,Instr.fieldAt,Instr.sureAddr,fieldPlace,Sem.run_bind,Sem.run_pure,Result.andThen_ok,run_underlying hu,hf,eW hi,if_neg k3,kB]
     refine aV.still c.eV ?_
     rw[Nat.add_assoc]
     exact .ptr m1
    ·cases k3
   ·cases k2
  ·cases k2
 ·cases ok
theorem KC{t e}(h:mK P t=some e):P.underlying t=some (.slice e):=by
 unfold mK at h
 split at h
 ·rename_i e' hu;injection h with h;rw[hu,h]
 ·cases h
theorem KD{t n}(h:oe P t n=true):∃i,P.info? t=some i∧i.size=n:=by
 unfold oe at h
 split at h
 ·rename_i i hi;exact⟨i,hi,by simpa using h⟩
 ·cases h
theorem anS{jZ x i}(c:Ctx fl base aq μ h w s a)(ok:dM P o.op (.di jZ x i)=true)(e:cQ C fl s h (.di jZ x i) K0=some (v,h1)):
 aV fl base aq μ h w v h1 ((execOp a.eval o).run P w):=by
 simp only[cQ] at e
 obtain⟨⟨ma,ml,mc⟩,hm,e⟩:=cA e
 obtain⟨n,hn,e⟩:=aG e
 unfold idx at e
 simp only at e hm
 split at e
 ·rename_i p _
  split at e
  ·rename_i h0
   split at e
   ·rename_i hlt
    simp only[K0,Option.some.injEq,Prod.mk.injEq] at e
    obtain⟨rfl,rfl⟩:=e
    simp only[dM] at ok
    unfold execOp
    split at ok
    ·rename_i t x' i' hx;rw[hx]
     simp only[Bool.and_eq_true] at ok
     obtain⟨⟨k1,k2⟩,k3⟩:=ok
     have r1:=bE c.t k1
     have r2:=bE c.t k2
     rw[hm] at r1;rw[hn] at r2
     split at k3
     ·rename_i ee hee
      obtain⟨ti,hi,rfl⟩:=KD k3
      have hu:=KC hee
      have ax8:∃rb ob c',μ p.block=some (rb,ob)∧a.eval x'=.slice (some ⟨rb,ob+p.off,none⟩) ml c':=by
       revert r1
       generalize a.eval x'=q
       intro r1
       cases r1 with
       |slice g1 g2 g3=>exact⟨_,_,_,g1,rfl⟩
       |mq g1 g2 g3 g4=>
        rcases g2 with g2|g2
        ·omega
        ·subst g2;exact⟨_,_,_,g1,rfl⟩
       |S9=>omega
      obtain⟨rb,ob,c',q1,q2⟩:=ax8
      have hbd:0≤n∧n<(ml:Int):=⟨h0,hlt⟩
      simp only[q2,r2.jw,Instr.indexAt,asIntOf,Sem.run_bind,Sem.run_pure,Result.andThen_ok,run_underlying hu,if_pos hbd,eW hi,kB]
      refine aV.still c.eV ?_
      rw[Nat.add_assoc]
      exact .ptr q1
     ·cases k3
    ·cases ok
   ·cases e
  ·cases e
 ·cases e
theorem awE{args:Array Operand}{x}(h:args.toList=[x]):args=#[x]:=by apply Array.ext';rw[h]
theorem aiF{args:Array Operand}{x y}(h:args.toList=[x,y]):args=#[x,y]:=by apply Array.ext';rw[h]
theorem awF{y}(c:Ctx fl base aq μ h w s a)(ok:dM P o.op (.len y)=true)(e:cQ C fl s h (.len y) K0=some (v,h1)):
 aV fl base aq μ h w v h1 ((execOp a.eval o).run P w):=by
 simp only[cQ] at e
 obtain⟨m,hm,e⟩:=cA e
 simp only[K0,Option.some.injEq,Prod.mk.injEq] at e
 obtain⟨rfl,rfl⟩:=e
 simp only[dM] at ok
 unfold execOp
 split at ok
 ·rename_i args tys hx;rw[hx]
  split at ok
  ·rename_i x t ha ht
   have ha:=awE ha
   have ht:tys=#[t]:=by apply Array.ext';rw[ht]
   subst ha;subst ht
   simp only[Bool.and_eq_true] at ok
   obtain⟨k1,kt⟩:=ok
   have r1:=bE c.t k1
   rw[hm] at r1
   obtain⟨b',c',q1,q2⟩:=cC.Td (s:=m) r1
   obtain⟨ee,hee⟩:=Option.isSome_iff_exists.1 kt
   have hu:=KC hee
   have hr:(Builtin.len_ #[t] o.type #[Value.slice b' m.l c']).run P w=.ok (.int .i64 m.l) w:=by
    simp[Builtin.len_,run_underlying hu,goInt]
   simp only[resolve,Sem.run_bind,Sem.run_pure,Result.andThen_ok,invoke,builtin,List.map_toArray,List.map_cons,List.map_nil,q1,hr]
   exact aV.still c.eV (.int _ _)
  ·cases ok
 ·cases ok
theorem at3{k bs y}(c:Ctx fl base aq μ h w s a)(ok:dM P o.op (.Kq k bs y)=true)(e:cQ C fl s h (.Kq k bs y) K0=some (v,h1)):
 aV fl base aq μ h w v h1 ((execOp a.eval o).run P w):=by
 simp only[cQ] at e
 obtain⟨n,hn,e⟩:=aG e
 split at e
 ·rename_i h0
  split at e
  ·rename_i b hb
   simp only[K0,Option.some.injEq,Prod.mk.injEq] at e
   obtain⟨rfl,rfl⟩:=e
   simp only[dM] at ok
   unfold execOp
   split at ok
   ·rename_i t sb x hx;rw[hx]
    simp only[Bool.and_eq_true,decide_eq_true_eq] at ok
    obtain⟨⟨k1,kt⟩,rfl⟩:=ok
    have r:=bE c.t k1
    rw[hn] at r
    split at kt
    ·rename_i hu
     have Tc:a.eval (.const (.string sb))=.string sb:=rfl
     obtain⟨u,hu1,hu2⟩:∃u,sb[n.toNat]?=some u∧u.toNat=b:=by
      rw[List.getElem?_map,Option.map_eq_some_iff] at hb
      obtain⟨u,h1,h2⟩:=hb
      obtain⟨hl,h3⟩:=List.getElem?_eq_some_iff.1 h1
      have No:n.toNat<sb.size:=by simpa using hl
      refine⟨sb[n.toNat],getElem?_pos sb n.toNat No,?_⟩
      rw[←h2,←h3];rfl
     have hr:(Instr.index t (.string sb) (.int k n)).run P w=.ok (.int .u8 b) w:=by
      simp only[Instr.index,asIntOf,Sem.run_bind,Sem.run_pure,Result.andThen_ok,run_underlying hu,if_pos h0,hu1,hu2]
     simp only[Tc,r.jw,Sem.run_bind,hr,Result.andThen_ok,Sem.run_pure]
     exact aV.still c.eV (.int _ _)
    ·cases kt
   ·cases ok
  ·cases e
 ·cases e
theorem azb{isMax x y}(c:Ctx fl base aq μ h w s a)(ok:dM P o.op (.mm isMax x y)=true)(e:cQ C fl s h (.mm isMax x y) K0=some (v,h1)):
 aV fl base aq μ h w v h1 ((execOp a.eval o).run P w):=by
 simp only[cQ] at e
 obtain⟨m,hm,e⟩:=aG e
 obtain⟨n,hn,e⟩:=aG e
 simp only[K0,Option.some.injEq,Prod.mk.injEq] at e
 obtain⟨rfl,rfl⟩:=e
 simp only[dM] at ok
 unfold execOp
 split at ok
 ·rename_i b args tys hx;rw[hx]
  split at ok
  ·rename_i x' y' ha
   have ha:=aiF ha
   subst ha
   simp only[Bool.and_eq_true] at ok
   obtain⟨⟨k0,k1⟩,k2⟩:=ok
   have r1:=bE c.t k1
   have r2:=bE c.t k2
   rw[hm] at r1;rw[hn] at r2
   have r1:=r1.jw
   have r2:=r2.jw
   cases isMax with
   |true=>
    simp only[if_true] at k0
    split at k0
    ·simp only[resolve,Sem.run_bind,Sem.run_pure,Result.andThen_ok,invoke,builtin,List.map_toArray,List.map_cons,List.map_nil,r1,r2,Builtin.max_,List.foldlM_cons,List.foldlM_nil,Builtin.max2,if_true]
     exact aV.still c.eV (.int _ _)
    ·cases k0
   |false=>
    simp only[Bool.false_eq_true,if_false] at k0
    split at k0
    ·simp only[resolve,Sem.run_bind,Sem.run_pure,Result.andThen_ok,invoke,builtin,List.map_toArray,List.map_cons,List.map_nil,r1,r2,Builtin.min_,List.foldlM_cons,List.foldlM_nil,Builtin.min2,Bool.false_eq_true,if_false]
     exact aV.still c.eV (.int _ _)
    ·cases k0
  ·cases ok
 ·cases ok
end
end Go.Abs
end
section
namespace Go.Abs
section
variable{P:Program}{C:Callee}{fl base aq:Nat}{μ:Mu}{h h1:AH}{w:World}{s:List Value}{a:Act}{v:Value}{o:Oper}
theorem yo.Tg{b rb ob:Nat}(sm:yo base aq μ h w)(m:μ b=some (rb,ob)):∀(vs:List Value) (o':Nat),(∀(j:Nat) u,vs[j]?=some u→h.cell b (o'+j)=some u)→
 ∃yn:List Value,bq μ (c8 w) vs yn∧∀(j:Nat) u,yn[j]?=some u→w.cell? ⟨rb,ob+o'+j,none⟩=some u
 |[],_,_=>⟨[],bq.nil,fun j u hu=>by simp at hu⟩
 |u::vs,o',hh=>by
  obtain⟨u',g1,g2⟩:=sm.load (hh 0 u rfl) m
  obtain⟨yn,g3,g4⟩:=yo.Tg sm m vs (o'+1) (fun j q hq=>by have:=hh (j+1) q (by simpa using hq);rwa[show o'+(j+1)=o'+1+j by omega] at this)
  refine⟨u'::yn,bq.cons g2 g3,?_⟩
  intro j q hq
  cases j with
  |zero=>simp at hq;subst hq;exact g1
  |succ j=>have:=g4 j q (by simpa using hq);rwa[show ob+o'+(j+1)=ob+(o'+1)+j by omega]
theorem Cl{R:Type}{r:R}{p:Addr}{n:Nat}{K:List Value→Option R}(e:Fg h (some p) n K=some r):
 ∃xs:List Value,xs.length=n∧K xs=some r∧(∃cs,h.iq p.block=some cs)∧∀(j:Nat) u,xs[j]?=some u→h.cell p.block (p.off+j)=some u:=by
 unfold Fg at e
 simp only at e
 split at e
 ·rename_i cs hcs
  split at e
  ·rename_i hl
   refine⟨_,by simp;omega,e,⟨cs,hcs⟩,?_⟩
   intro j u hu
   rw[List.getElem?_take] at hu
   split at hu
   ·rw[List.getElem?_drop] at hu
    simp[AH.cell,hcs,hu]
   ·cases hu
  ·cases e
 ·cases e
theorem Py(z:List Value)(hz:0<z.length)(n:Nat):(madeCells z.toArray (n*z.length)).toList=KB z n:=by
 apply List.ext_getElem?
 intro i
 have hmul:∀n,(List.replicate n z).flatten.length=n*z.length:=by
  intro n;simp
 by_cases hi:i<n*z.length
 ·have h1:i%z.length<z.length:=Nat.mod_lt _ hz
  have e1:(madeCells z.toArray (n*z.length)).toList[i]?=some z[i%z.length]:=by
   simp[madeCells,hi,h1]
  rw[e1]
  have key:∀(n i:Nat),i<n*z.length→(List.replicate n z).flatten[i]?=z[i%z.length]?:=by
   intro n
   induction n with
   |zero=>intro i h;omega
   |succ n ih=>
    intro i h
    rw[List.replicate_succ,List.flatten_cons]
    by_cases hi:i<z.length
    ·rw[List.getElem?_append_left hi,Nat.mod_eq_of_lt hi]
    ·rw[List.getElem?_append_right (by omega),ih (i-z.length) (by rw[Nat.succ_mul] at h;omega)]
     congr 1
     exact(Nat.mod_eq_sub_mod (by omega)).symm
  unfold KB
  rw[key n i hi,List.getElem?_eq_getElem h1]
 ·rw[List.getElem?_eq_none (by simp[madeCells];omega),List.getElem?_eq_none (by unfold KB;rw[hmul];omega)]
theorem bq.KB{μ sz z z'}(h:bq μ sz z z'):∀n,bq μ sz (KB z n) (KB z' n)
 |0=>bq.nil
 |n+1=>by unfold Abs.KB;rw[List.replicate_succ,List.flatten_cons,List.replicate_succ,List.flatten_cons];exact h.append (bq.KB h n)
theorem at4{t z}(h:okZ P t z=true):∃i zv,P.info? t=some i∧i.zero=some zv∧Ud z zv.cells.toList=true:=by
 unfold okZ zeroOf at h
 split at h
 ·rename_i zs hz
  split at hz
  ·rename_i i hi
   split at hz
   ·rename_i zv hzv
    injection hz with hz;subst hz
    exact⟨i,zv,hi,hzv,h⟩
   ·cases hz
  ·cases hz
 ·cases h
theorem afX{bytes z x y}(c:Ctx fl base aq μ h w s a)(hf:h.next<h1.next→μ h.next=none)(ok:dM P o.op (.cH bytes z x y)=true)(e:cQ C fl s h (.cH bytes z x y) K0=some (v,h1)):
 aV fl base aq μ h w v h1 ((execOp a.eval o).run P w):=by
 simp only[cQ] at e
 obtain⟨m,hm,e⟩:=aG e
 obtain⟨n,hn,e⟩:=aG e
 unfold wU at e
 split at e
 ·rename_i hb
  simp only[K0,Option.some.injEq,Prod.mk.injEq] at e
  obtain⟨rfl,rfl⟩:=e
  simp only[dM] at ok
  unfold execOp
  split at ok
  ·rename_i t l' c' hx;rw[hx]
   simp only[Bool.and_eq_true] at ok
   obtain⟨⟨k1,k2⟩,k3⟩:=ok
   have r1:=bE c.t k1
   have r2:=bE c.t k2
   rw[hm] at r1;rw[hn] at r2
   split at k3
   ·rename_i ee hee
    have hu:=KC hee
    simp only[Bool.and_eq_true,decide_eq_true_eq] at k3
    obtain⟨⟨⟨⟨kb,kz⟩,ks⟩,kp⟩,kbp⟩:=k3
    obtain⟨i,zv,hi,hzv,hz⟩:=at4 kz
    obtain⟨i2,hi2,RO⟩:=KD ks
    rw[hi] at hi2;injection hi2 with hi2;subst hi2
    have hby:i.bytes=bytes:=by
     unfold OF at kb
     rw[hi] at kb;simpa using kb
    obtain⟨h0,h1,h2⟩:=hb
    have TX:(n*(bytes:Int))≤2^47:=by simpa [lk] using h2
    have hnb:n≤n*(bytes:Int):=by
     have:n*1≤n*(bytes:Int):=Int.mul_le_mul_of_nonneg_left (by omega) (by omega)
     omega
    have lZ:=run_make (P:=P) w t ee i zv hu hi hzv .i64 .i64 m n h0 h1 (by rw[hby,Int.mul_comm];omega) (by omega)
    have hzl:=yt (μ:=μ) (sz:=c8 w) hz
    have hzz:zv.cells=(zv.cells.toList).toArray:=by simp
    have avz:(madeCells zv.cells (n.toNat*i.size)).toList=KB zv.cells.toList n.toNat:=by
     rw[RO,hzl.1]
     have:=Py zv.cells.toList (by rw[←hzl.1];exact kp) n.toNat
     rwa[Array.toArray_toList] at this
    refine aV.new (t:=ee) (x:=madeCells zv.cells (n.toNat*i.size)) c (hf (Nat.lt_succ_self _)) (by rw[avz];exact hzl.KB _) (v':=.slice (some ⟨w.heap.size,0,none⟩) m.toNat n.toNat) ?_ (.slice (bW _ _ _) ?_ (by omega))
    ·simp only[r1.jw,r2.jw,Sem.run_bind,lZ,Result.andThen_ok,Sem.run_pure]
    ·unfold pB;omega
   ·cases k3
  ·cases ok
 ·cases e
theorem Cm{R:Type}{r:R}{μ sz}{x:Option Operand}{y:Option my}{K:Option Int→Option R}(t:bq μ sz s a.tmps.toList)(ok:okO x y=true)(e:fT s y K=some r):
 (x=none∧K none=some r)∨∃x' k n,x=some x'∧a.eval x'=.int k n∧K (some n)=some r:=by
 cases x<;>cases y<;>simp[okO] at ok
 ·exact .inl ⟨rfl,e⟩
 ·rename_i x y
  right
  simp only[fT] at e
  split at e
  ·rename_i k n hn
   have r:=bE t ok
   rw[hn] at r
   exact⟨x,k,n,rfl,r.jw,e⟩
  ·cases e
theorem rN(t e:TypeId)(b:Option Addr)(len cap:Nat)(hu:P.underlying t=some (.slice e))(ti:TypeInfo)(hi:P.info? e=some ti)(lo Bl mx:Option Value)(l h m:Nat)
 (hb:(Instr.sliceBounds true len cap lo Bl mx).run P w=.ok (l,h,m) w):
 (Instr.sliceAt t (.slice b len cap) lo Bl mx).run P w=.ok (.slice (if m=l then b else b.map (·.add (l*ti.size))) (h-l) (m-l)) w:=by
 simp only[Instr.sliceAt,Instr.slice,Sem.run_bind,run_underlying hu,Result.andThen_ok,hb,eW hi,Sem.run_pure]
theorem Af{len cap:Nat}{lo hi mx:Option (IntKind×Int)}(l h m:Int)(hm:m=(mx.map (·.2)).getD (cap:Int))(hh:h=(hi.map (·.2)).getD (len:Int))(hl:l=(lo.map (·.2)).getD 0)
 (h0:0≤l) (h1:l≤h) (h2:h≤m) (h3:m≤cap) (hp:mx.isSome=true→hi.isSome=true):
 (Instr.sliceBounds true len cap (lo.map fun x=>.int x.1 x.2) (hi.map fun x=>.int x.1 x.2) (mx.map fun x=>.int x.1 x.2)).run P w=.ok (l.toNat,h.toNat,m.toNat) w:=by
 subst hm hh hl
 have em:∀x:Int,0≤x→(x.toNat:Int)=x:=fun x hx=>Int.toNat_of_nonneg hx
 cases mx with
 |none=>
  cases hi with
  |none=>
   cases lo with
   |none=>simp[Instr.sliceBounds]
   |some lo=>
    simp only[Option.map_none,Option.getD_none,Option.map_some,Option.getD_some] at*
    simp[Instr.sliceBounds,run_sliceBound (P:=P) (w:=w) lo.1 lo.2 _ _ h0 h1]
  |some hi=>
   simp only[Option.map_none,Option.getD_none,Option.map_some,Option.getD_some] at*
   cases lo with
   |none=>
    simp only[Option.map_none,Option.getD_none] at*
    simp[Instr.sliceBounds,run_sliceBound (P:=P) (w:=w) hi.1 hi.2 cap _ h1 h2]
   |some lo=>
    simp only[Option.map_some,Option.getD_some] at*
    have:=run_sliceBound (P:=P) (w:=w) lo.1 lo.2 hi.2.toNat .sliceB h0 (by rw[em _ (by omega)];exact h1)
    simp[Instr.sliceBounds,run_sliceBound (P:=P) (w:=w) hi.1 hi.2 cap _ (by omega) h2,this]
 |some mx=>
  cases hi with
  |none=>simp at hp
  |some hi=>
   simp only[Option.map_some,Option.getD_some] at*
   have hmm:=run_sliceBound (P:=P) (w:=w) mx.1 mx.2 cap .slice3Acap (by omega) h3
   have hhh:=run_sliceBound (P:=P) (w:=w) hi.1 hi.2 mx.2.toNat .slice3B (by omega) (by rw[em _ (by omega)];exact h2)
   cases lo with
   |none=>simp[Instr.sliceBounds,hmm,hhh]
   |some lo=>
    simp only[Option.map_some,Option.getD_some] at*
    have:=run_sliceBound (P:=P) (w:=w) lo.1 lo.2 hi.2.toNat .slice3C h0 (by rw[em _ (by omega)];exact h1)
    simp[Instr.sliceBounds,hmm,hhh,this]
theorem anT{jZ y lo hi mx}(c:Ctx fl base aq μ h w s a)(ok:dM P o.op (.slice jZ y lo hi mx)=true)(e:cQ C fl s h (.slice jZ y lo hi mx) K0=some (v,h1)):
 aV fl base aq μ h w v h1 ((execOp a.eval o).run P w):=by
 simp only[cQ] at e
 obtain⟨⟨ma,ml,mc⟩,hm,e⟩:=cA e
 change ev s y=.slice ma ml mc at hm
 simp only[dM] at ok
 unfold execOp
 split at ok
 ·rename_i t x lo' Bl mx' hx;rw[hx]
  simp only[Bool.and_eq_true] at ok
  obtain⟨⟨⟨⟨⟨k1,k2⟩,k3⟩,k4⟩,k5⟩,k6⟩:=ok
  have r1:=bE c.t k1
  rw[hm] at r1
  split at k6
  ·rename_i ee hee
   have hu:=KC hee
   obtain⟨ti,hti,rfl⟩:=KD k6
   have hlo:∃L:Option (IntKind×Int),lo'.map a.eval=L.map (fun x=>.int x.1 x.2)∧∃e',fT s hi (fun hi=>fT s mx fun mx=>sub ti.size ⟨ma,ml,mc⟩ (L.map (·.2)) hi mx fun v=>K0 (.slice v.a v.l v.c) h)=some e'∧e'=(v,h1):=by
    rcases Cm c.t k2 e with⟨rfl,e1⟩|⟨x',k,n,rfl,q,e1⟩
    ·exact⟨none,rfl,_,e1,rfl⟩
    ·exact⟨some (k,n),by simp[q],_,e1,rfl⟩
   obtain⟨L,hL,e',e1,rfl⟩:=hlo
   have hhi:∃H:Option (IntKind×Int),Bl.map a.eval=H.map (fun x=>.int x.1 x.2)∧H.isSome=Bl.isSome∧fT s mx (fun mx=>sub ti.size ⟨ma,ml,mc⟩ (L.map (·.2)) (H.map (·.2)) mx fun v=>K0 (.slice v.a v.l v.c) h)=some (v,h1):=by
    rcases Cm c.t k3 e1 with⟨rfl,e2⟩|⟨x',k,n,rfl,q,e2⟩
    ·exact⟨none,rfl,rfl,e2⟩
    ·exact⟨some (k,n),by simp[q],rfl,e2⟩
   obtain⟨H,hH,hHs,e2⟩:=hhi
   have hmx:∃M:Option (IntKind×Int),mx'.map a.eval=M.map (fun x=>.int x.1 x.2)∧M.isSome=mx'.isSome∧sub ti.size ⟨ma,ml,mc⟩ (L.map (·.2)) (H.map (·.2)) (M.map (·.2)) (fun v=>K0 (.slice v.a v.l v.c) h)=some (v,h1):=by
    rcases Cm c.t k4 e2 with⟨rfl,e3⟩|⟨x',k,n,rfl,q,e3⟩
    ·exact⟨none,rfl,rfl,e3⟩
    ·exact⟨some (k,n),by simp[q],rfl,e3⟩
   obtain⟨M,hM,hMs,e3⟩:=hmx
   have hp:M.isSome=true→H.isSome=true:=by
    rw[hHs,hMs];intro hq;rw[hq] at k5;simpa using k5
   simp only[hL,hH,hM,Sem.run_bind]
   clear e e1 e2 hm
   revert r1
   generalize a.eval x=q
   intro r1
   unfold sub at e3
   simp only at e3
   split at e3
   ·rename_i hex
    split at e3
    ·rename_i hb
     obtain⟨b0,b1,b2,b3⟩:=hb
     simp only[K0,Option.some.injEq,Prod.mk.injEq] at e3
     obtain⟨rfl,rfl⟩:=e3
     rcases r1.ny with⟨rfl,rfl,rfl,rfl⟩|⟨b,ob,st',rb,off,rfl,g1,g2,g3,rfl⟩|⟨b,ob,st',rb,off,o',c',es,rfl,rfl,g1,g2,g3,g4,rfl⟩|⟨x4,a4,rfl,rfl,rfl,rfl⟩
     ·rw[rN t ee none 0 0 hu ti hti _ _ _ _ _ _ (Af _ _ _ rfl rfl rfl b0 b1 b2 b3 hp)]
      simp only[Option.map_none,ite_self,Result.andThen_ok,Sem.run_pure]
      have z1:((M.map (·.2)).getD ((0:Nat):Int))=0:=by omega
      have z2:((H.map (·.2)).getD ((0:Nat):Int))=0:=by omega
      have z3:((L.map (·.2)).getD (0:Int))=0:=by omega
      rw[z1,z2,z3]
      exact aV.still c.eV .kZ
     ·rw[rN t ee _ ml mc hu ti hti _ _ _ _ _ _ (Af _ _ _ rfl rfl rfl b0 b1 b2 b3 hp)]
      simp only[Result.andThen_ok,Sem.run_pure,Option.map_some,kB]
      generalize (M.map (·.2)).getD (mc:Int)=m at*
      generalize (H.map (·.2)).getD (ml:Int)=hh at*
      generalize (L.map (·.2)).getD (0:Int)=l at*
      have e1:hh.toNat-l.toNat=(hh-l).toNat:=by omega
      have e2:m.toNat-l.toNat=(m-l).toNat:=by omega
      rw[e1,e2]
      refine aV.still c.eV ?_
      by_cases hml:m=l
      ·rw[if_pos hml,if_pos (by omega)]
       exact .slice g1 (by omega) (by omega)
      ·rw[if_neg hml,if_neg (by omega),Nat.add_assoc]
       exact .slice g1 (by omega) (by omega)
     ·omega
     ·rw[rN t ee _ 0 0 hu ti hti _ _ _ _ _ _ (Af _ _ _ rfl rfl rfl b0 b1 b2 b3 hp)]
      simp only[Result.andThen_ok,Sem.run_pure,Option.map_some]
      have z1:((M.map (·.2)).getD ((0:Nat):Int))=0:=by omega
      have z2:((H.map (·.2)).getD ((0:Nat):Int))=0:=by omega
      have z3:((L.map (·.2)).getD (0:Int))=0:=by omega
      rw[z1,z2,z3]
      exact aV.still c.eV .S9
    ·cases e3
   ·rename_i hex
    change ¬(mc<pB) at hex
    split at e3
    ·rename_i hes
     obtain⟨hes,hmn⟩:=hes
     change mc=pB+ti.size at hes
     split at e3
     ·rename_i hb
      obtain⟨b0,b1,b3⟩:=hb
      simp only[K0,Option.some.injEq,Prod.mk.injEq] at e3
      obtain⟨rfl,rfl⟩:=e3
      have hM0:M=none:=by cases M<;>simp at hmn ⊢
      subst hM0
      rcases r1.ny with⟨rfl,rfl,rfl,rfl⟩|⟨b,ob,st',rb,off,rfl,g1,g2,g3,rfl⟩|⟨b,ob,st',rb,off,o',c',es,rfl,rfl,g1,g2,g3,g4,rfl⟩|⟨x4,a4,rfl,rfl,rfl,rfl⟩
      ·exact absurd (show(0:Nat)<pB by unfold pB;omega) hex
      ·omega
      ·have az2:es=ti.size:=by omega
       subst az2
       rw[rN t ee _ ml c' hu ti hti _ _ _ _ _ _ (Af _ _ _ rfl rfl rfl b0 b1 (by simp only[Option.map_none,Option.getD_none];omega) (by simp) hp)]
       simp only[Result.andThen_ok,Sem.run_pure,Option.map_some,kB,Option.map_none,Option.getD_none,Int.toNat_natCast]
       generalize (H.map (·.2)).getD (ml:Int)=hh at*
       generalize (L.map (·.2)).getD (0:Int)=l at*
       have e1:hh.toNat-l.toNat=(hh-l).toNat:=by omega
       rw[e1]
       refine aV.still c.eV ?_
       obtain⟨n,rfl⟩:=Int.eq_ofNat_of_zero_le b0
       simp only[Int.toNat_natCast]
       have hmul:n*ti.size+(c'-n)*ti.size=c'*ti.size:=by rw[←Nat.add_mul];congr 1;omega
       by_cases hml:c'=n
       ·rw[if_pos hml]
        refine .mq g1 (.inl (by omega)) (by omega) ?_
        have:c'-n=0:=by omega
        rw[this];omega
       ·rw[if_neg hml]
        refine .mq g1 ?_ (by omega) (by omega)
        rcases g2 with g2|g2
        ·left;omega
        ·right;omega
      ·exact absurd (show(0:Nat)<pB by unfold pB;omega) hex
     ·cases e3
    ·cases e3
  ·cases k6
 ·cases ok
end
end Go.Abs
end
section
namespace Go.Abs
section
variable{P:Program}{C:Callee}{fl base aq:Nat}{μ:Mu}{h h1:AH}{w:World}{s:List Value}{a:Act}{v:Value}{o:Oper}
theorem Cn(t ty e:TypeId)(i:TypeInfo)(ht:P.underlying t=some (.slice e))(hi:P.info? e=some i)(b:Addr)(aa1 acZ n c:Nat)(x:Option Addr)(new:List Value){w':World}
 (hx:(Builtin.firstCells i.size n (.slice x n c)).run P w=.ok new.toArray w) (TX:aa1+n≤acZ)
 (hst:(storeCells (b.add (aa1*i.size)) new).run P w=.ok () w'):
 (Builtin.append_ #[t,t] ty #[.slice (some b) aa1 acZ,.slice x n c]).run P w=.ok (.slice (some b) (aa1+n) acZ) w':=by
 simp[Builtin.append_,run_underlying ht,eW hi,Builtin.lenOf,TX,hx,hst]
theorem Np(t ty e:TypeId)(i:TypeInfo)(ht:P.underlying t=some (.slice e))(hi:P.info? e=some i)(b:Option Addr)(aa1 acZ c:Nat)(x:Option Addr)(TX:aa1≤acZ):
 (Builtin.append_ #[t,t] ty #[.slice b aa1 acZ,.slice x 0 c]).run P w=.ok (.slice b aa1 acZ) w:=by
 have hx:(Builtin.firstCells i.size 0 (.slice x 0 c)).run P w=.ok #[] w:=by
  cases x with
  |none=>exact run_firstCells_none w _ _ _ _
  |some x=>exact run_firstCells_some w i.size 0 x 0 c [] (by simp) (by simp)
 cases b<;>simp[Builtin.append_,run_underlying ht,eW hi,Builtin.lenOf,TX,hx,storeCells]
theorem at5{t z}(h:(match zeroOf P t with|some z'=>z'.length==z|none=>false)=true){i:TypeInfo}(hi:P.info? t=some i):∃zv,i.zero=some zv∧zv.cells.size=z:=by
 unfold zeroOf at h
 rw[hi] at h
 simp only at h
 split at h
 ·rename_i z' hz
  split at hz
  ·rename_i zv hzv
   injection hz with hz;subst hz
   exact⟨zv,hzv,by simpa using h⟩
  ·cases hz
 ·cases h
theorem Ctx.KE{a1:Option Addr}{l c1 n:Nat}{v'}(sm:yo base aq μ h w)(r:cC μ (c8 w) (.slice a1 l c1) v')(hl:0<l):
 ∃b o st rb off c',a1=some ⟨b,o,st⟩∧μ b=some (rb,off)∧v'=.slice (some ⟨rb,off+o,none⟩) l c':=by
 rcases r.ny with⟨_,rfl,_,_⟩|⟨b,ob,st',rb,off,rfl,g1,g2,g3,rfl⟩|⟨b,ob,st',rb,off,o',c',es,rfl,rfl,g1,g2,g3,g4,rfl⟩|⟨x4,a4,rfl,rfl,rfl,rfl⟩
 ·omega
 ·exact⟨_,_,_,_,_,_,rfl,g1,rfl⟩
 ·rcases g2 with g2|g2
  ·omega
  ·subst g2;exact⟨_,_,_,_,_,_,rfl,g1,rfl⟩
 ·omega
theorem yo.drew(sm:yo base aq μ h w):bY fl base aq μ h w μ h w.drew:=bY.heap sm rfl rfl rfl rfl
theorem xi{e:TypeId}(zv:Value)(am1 TU jZ:Nat)(hz:zv.cells.size=jZ)(xs:List Value)(hl:xs.length=am1*jZ):
 (xs.toArray++Builtin.zeroCells zv.cells (grownCap w am1 TU e-am1)).size=grownCap w am1 TU e*jZ:=by
 have h1:=grownCap_ge w am1 TU e
 simp[Builtin.zeroCells,hz,hl]
 rw[←Nat.add_mul];congr 1;omega
theorem aiG{jZ bytes y z}(c:Ctx fl base aq μ h w s a)(hf:h.next<h1.next→μ h.next=none)(ok:dM P o.op (.append jZ bytes y z)=true)(e:cQ C fl s h (.append jZ bytes y z) K0=some (v,h1)):
 aV fl base aq μ h w v h1 ((execOp a.eval o).run P w):=by
 simp only[cQ] at e
 obtain⟨⟨sa,sl,sc⟩,hs,e⟩:=cA e
 obtain⟨⟨xa,xl,xc⟩,hx,e⟩:=cA e
 change ev s y=.slice sa sl sc at hs
 change ev s z=.slice xa xl xc at hx
 simp only[dM] at ok
 unfold execOp
 split at ok
 ·rename_i args tys ho;rw[ho]
  split at ok
  ·rename_i y' z' t t' ha ht
   have ha:=aiF ha
   subst ha
   simp only[Bool.and_eq_true,decide_eq_true_eq] at ok
   obtain⟨⟨⟨⟨k1,k2⟩,az7⟩,kbp⟩,k3⟩:=ok
   split at k3
   ·rename_i ee hee
    have hu:=KC hee
    simp only[Bool.and_eq_true,beq_iff_eq] at k3
    obtain⟨⟨⟨ks,kb⟩,rfl⟩,kz⟩:=k3
    have ht:tys=#[t',t']:=by apply Array.ext';rw[ht]
    subst ht
    obtain⟨i,hi,rfl⟩:=KD ks
    have hby:i.bytes=bytes:=by
     unfold OF at kb
     rw[hi] at kb;simpa using kb
    obtain⟨zv,hzv,hzs⟩:=at5 kz hi
    have r1:=bE c.t k1
    have r2:=bE c.t k2
    rw[hs] at r1;rw[hx] at r2
    simp only[resolve,Sem.run_bind,Sem.run_pure,Result.andThen_ok,invoke,builtin,List.map_toArray,List.map_cons,List.map_nil]
    revert r1 r2
    generalize a.eval y'=q1
    generalize a.eval z'=q2
    intro r1 r2
    clear hs hx
    unfold iJ at e
    simp only at e
    split at e
    ·
      rename_i h0
      subst h0
      simp only[K0,Option.some.injEq,Prod.mk.injEq] at e
      obtain⟨rfl,rfl⟩:=e
      have Xz:∃xb xcc,q2=.slice xb 0 xcc:=by
       rcases r2.ny with⟨rfl,_,rfl,rfl⟩|⟨b,ob,st',rb,off,rfl,g1,g2,g3,rfl⟩|⟨b,ob,st',rb,off,o',c',es,rfl,rfl,g1,g2,g3,g4,rfl⟩|⟨x4,a4,rfl,_,rfl,rfl⟩
       ·exact⟨_,_,rfl⟩
       ·exact⟨_,_,rfl⟩
       ·exact⟨_,_,rfl⟩
       ·exact⟨_,_,rfl⟩
      obtain⟨xb,xcc,rfl⟩:=Xz
      have hs2:∃sb scc,q1=.slice sb sl scc∧sl≤scc:=by
       rcases r1.ny with⟨rfl,rfl,rfl,rfl⟩|⟨b,ob,st',rb,off,rfl,g1,g2,g3,rfl⟩|⟨b,ob,st',rb,off,o',c',es,rfl,rfl,g1,g2,g3,g4,rfl⟩|⟨x4,a4,rfl,rfl,rfl,rfl⟩
       ·exact⟨_,_,rfl,Nat.le_refl _⟩
       ·exact⟨_,_,rfl,g3⟩
       ·exact⟨_,_,rfl,g3⟩
       ·exact⟨_,_,rfl,Nat.le_refl _⟩
      obtain⟨sb,scc,rfl,hle⟩:=hs2
      rw[Np t' o.type ee i hu hi sb sl scc xcc xb hle]
      exact aV.still c.eV r1
    ·rename_i h0
     have hxl:0<xl:=by omega
     split at e
     ·rename_i TX
      obtain⟨bx,ox,stx,rbx,OC,cx,rfl,mx,rfl⟩:=Ctx.KE (n:=0) c.eV r2 hxl
      obtain⟨xs,avK,e2,_,avm⟩:=Cl e
      clear e
      obtain⟨wS,rx,auQ⟩:=c.eV.Tg mx xs ox avm
      have No:wS.length=xl*i.size:=by rw[←rx.1,avK]
      have aaQ:∀j u,wS[j]?=some u→w.cell? ((⟨rbx,OC+ox,none⟩:Addr).add j)=some u:=fun j u hu=>by rw[kB];exact auQ j u hu
      have Xe:=run_firstCells_some (P:=P) w i.size xl ⟨rbx,OC+ox,none⟩ xl cx wS No aaQ
      have RQ:(sl+xl)*bytes≤140737488355328:=by simpa [lk] using TX
      have hsn:sl+xl≤140737488355328:=Nat.le_trans (Nat.le_mul_of_pos_right _ kbp) RQ
      rcases r1.ny with⟨rfl,rfl,rfl,rfl⟩|⟨b,ob,st',rb,off,rfl,g1,g2,g3,rfl⟩|⟨b,ob,st',rb,off,o',c',es,rfl,rfl,g1,g2,g3,g4,rfl⟩|⟨x4,a4,rfl,rfl,rfl,rfl⟩
      ·
        simp only[and_self,if_true,K0,Option.some.injEq,Prod.mk.injEq] at e2
        obtain⟨rfl,rfl⟩:=e2
        have hr:=run_append_nil (P:=P) w t' o.type ee i zv hu hi hzv ⟨rbx,OC+ox,none⟩ xl cx wS No aaQ hxl (by omega) (by rw[hby];simp only[Nat.zero_add] at RQ;omega)
        rw[hr]
        simp only[Result.andThen_ok]
        have p1:=c.eV.drew (fl:=fl)
        have p2:=bY.alloc (fl:=fl) (c:=wS.toArray++Builtin.zeroCells zv.cells (grownCap w xl 0 ee-xl)) (t:=ee) p1.eV c.hn (by exact c.hr) (hf (Nat.lt_succ_self _)) (cs:=xs) (fun j u hu=>by
         obtain⟨u',q1,q2⟩:=rx.get hu
         refine⟨u',?_,q2⟩
         rw[Array.getElem?_append_left (by have:=(List.getElem?_eq_some_iff.1 q1).1;simpa using this)]
         simpa using q1)
        refine⟨_,_,_,.inl rfl,p1.trans p2 (Nat.le_refl _),?_⟩
        have hn:=heap_alloc_new w.drew (.cells (wS.toArray++Builtin.zeroCells zv.cells (grownCap w xl 0 ee-xl)) ee)
        have RO:=fV hn
        have hg:=xi (w:=w) (e:=ee) zv xl 0 i.size hzs wS No
        exact .mq (o':=0) (bW _ _ _) (.inr rfl) (grownCap_ge _ _ _ _) (by rw[Nat.zero_add];exact Nat.le_of_eq (by rw[←hg];exact RO.symm))
      ·
        simp only at e2
        rw[if_pos g2] at e2
        split at e2
        ·rename_i acX
         obtain⟨cc,h2,w1,w2,w3,w4,w5⟩:=Px (P:=P) (p:=⟨b,ob+sl*i.size,none⟩) c.eV c.hb e2 rx g1
         simp only[K0,Option.some.injEq,Prod.mk.injEq] at w3
         obtain⟨rfl,rfl⟩:=w3
         have hr:=Cn (P:=P) t' o.type ee i hu hi ⟨rb,off+ob,none⟩ sl sc xl cx (some ⟨rbx,OC+ox,none⟩) wS Xe acX (by rw[kB,Nat.add_assoc];exact w1)
         rw[hr]
         simp only[Result.andThen_ok]
         refine⟨_,_,_,.inl rfl,w2,?_⟩
         exact .slice g1 g2 acX
        ·rename_i acX
         obtain⟨ys,ani,e2,_,auP⟩:=Cl e2
         simp only[K0,Option.some.injEq,Prod.mk.injEq] at e2
         obtain⟨rfl,rfl⟩:=e2
         obtain⟨ys',ry,avu⟩:=c.eV.Tg g1 ys ob auP
         have hly:ys'.length=sl*i.size:=by rw[←ry.1,ani]
         have hr:=run_append_grow (P:=P) w t' o.type ee i zv hu hi hzv ⟨rb,off+ob,none⟩ sl sc ys' hly (fun j u hu=>by rw[kB];exact avu j u hu) ⟨rbx,OC+ox,none⟩ xl cx wS No aaQ (by omega) (by omega) (growslice_fits (by omega) (by rw[hby];exact RQ))
         rw[hr]
         simp only[Result.andThen_ok]
         have p1:=c.eV.drew (fl:=fl)
         have rr:=ry.append rx
         have p2:=bY.alloc (fl:=fl) (c:=ys'.toArray++wS.toArray++Builtin.zeroCells zv.cells (grownCap w (sl+xl) sc ee-(sl+xl))) (t:=ee) p1.eV c.hn (by exact c.hr) (hf (Nat.lt_succ_self _)) (cs:=ys++xs) (fun j u hu=>by
          obtain⟨u',q1,q2⟩:=rr.get hu
          refine⟨u',?_,q2⟩
          have hlt:=(List.getElem?_eq_some_iff.1 q1).1
          rw[Array.getElem?_append_left (by simpa using hlt)]
          simpa using q1)
         refine⟨_,_,_,.inl rfl,p1.trans p2 (Nat.le_refl _),?_⟩
         have hn:=heap_alloc_new w.drew (.cells (ys'.toArray++wS.toArray++Builtin.zeroCells zv.cells (grownCap w (sl+xl) sc ee-(sl+xl))) ee)
         have RO:=fV hn
         have hg:=xi (w:=w) (e:=ee) zv (sl+xl) sc i.size hzs (ys'++wS) (by rw[List.length_append,hly,No,Nat.add_mul])
         rw[←List.append_toArray] at hg
         exact .mq (o':=0) (bW _ _ _) (.inr rfl) (grownCap_ge _ _ _ _) (by rw[Nat.zero_add];exact Nat.le_of_eq (by rw[←hg];exact RO.symm))
      ·
        simp only at e2
        rw[if_neg (by omega)] at e2
        split at e2
        ·rename_i hk
         obtain⟨hk1,hk2,hk3⟩:=hk
         change fl≤b at hk1
         have hes:es=i.size:=by omega
         subst hes
         obtain⟨ys,ani,e2,⟨cs,hcs⟩,auP⟩:=Cl e2
         simp only[K0,Option.some.injEq,Prod.mk.injEq] at e2
         obtain⟨rfl,rfl⟩:=e2
         obtain⟨ys',ry,avu⟩:=c.eV.Tg g1 ys ob auP
         have hly:ys'.length=sl*i.size:=by rw[←ry.1,ani]
         have axA:∀(j:Nat) u,ys'[j]?=some u→w.cell? ⟨rb,o'+j,none⟩=some u:=by
          intro j u hu
          have Oz:=(List.getElem?_eq_some_iff.1 hu).1
          rcases g2 with g2|g2
          ·subst g2;simp at hly;subst hly;simp at Oz
          ·subst g2;exact avu j u hu
         have rr:=ry.append rx
         by_cases acX:sl+xl≤c'
         ·
           obtain⟨_,cur,tt,hg⟩:=c.eV.own b cs rb off (Nat.le_trans c.hb hk1) hcs g1
           have avI:=fV hg
           rw[avI] at g4
           have hmul:(sl+xl)*i.size≤c'*i.size:=Nat.mul_le_mul_right _ acX
           have aC1:(sl+xl)*i.size=sl*i.size+xl*i.size:=Nat.add_mul _ _ _
           have hst:=run_storeCells_at (P:=P) rb (o'+sl*i.size) tt wS 0 cur w hg (by omega) (rx.one hk3)
           simp only[Nat.add_zero] at hst
           have hr:=Cn (P:=P) t' o.type ee i hu hi ⟨rb,o',none⟩ sl c' xl cx (some ⟨rbx,OC+ox,none⟩) wS Xe acX (by rw[kB];exact hst)
           rw[hr]
           simp only[Result.andThen_ok]
           refine⟨_,_,_,.inl rfl,bY.ay8 (o':=o') c.eV hk1 c.hb hcs g1 (hf (Nat.lt_succ_self _)) hg ?_ ?_,?_⟩
           ·simp;omega
           ·intro j u hu
            obtain⟨u',q1,q2⟩:=rr.get hu
            refine⟨u',?_,q2⟩
            have hlt:=(List.getElem?_eq_some_iff.1 q1).1
            simp only[List.length_append] at hlt
            simp only[List.getElem?_toArray]
            by_cases hj:j<ys'.length
            ·rw[List.getElem?_append_left hj] at q1
             have q3:=axA j u' q1
             rw[mZ hg] at q3
             rw[List.append_assoc,List.getElem?_append_left (by simp;omega),List.getElem?_take,if_pos (by omega)]
             simpa using q3
            ·rw[List.getElem?_append_right (by omega)] at q1
             rw[List.append_assoc,List.getElem?_append_right (by simp;omega),List.getElem?_append_left (by simp;omega)]
             have e1:o'+j-(List.take (o'+sl*i.size) cur.toList).length=j-ys'.length:=by simp;omega
             rw[e1];exact q1
           ·refine .mq (o':=o') (bW _ _ _) (.inr rfl) acX ?_
            have hn:=setRow_heap w rb cur (List.take (o'+sl*i.size) cur.toList++wS++List.drop (o'+sl*i.size+wS.length) cur.toList).toArray tt (0,0) hg
            rw[fV hn]
            simp;omega
         ·
           have hr:=run_append_grow (P:=P) w t' o.type ee i zv hu hi hzv ⟨rb,o',none⟩ sl c' ys' hly (fun j u hu=>by rw[kB];exact axA j u hu) ⟨rbx,OC+ox,none⟩ xl cx wS No aaQ (by omega) (by omega) (growslice_fits (by omega) (by rw[hby];exact RQ))
           rw[hr]
           simp only[Result.andThen_ok]
           have p1:=c.eV.drew (fl:=fl)
           have Xb:=bY.kill (fl:=fl) p1.eV b hk1
           have p2:=bY.alloc (fl:=fl) (c:=ys'.toArray++wS.toArray++Builtin.zeroCells zv.cells (grownCap w (sl+xl) c' ee-(sl+xl))) (t:=ee) Xb.eV c.hn (by exact c.hr) (hf (Nat.lt_succ_self _)) (cs:=ys++xs) (fun j u hu=>by
            obtain⟨u',q1,q2⟩:=rr.get hu
            refine⟨u',?_,q2⟩
            have hlt:=(List.getElem?_eq_some_iff.1 q1).1
            rw[Array.getElem?_append_left (by simpa using hlt)]
            simpa using q1)
           refine⟨_,_,_,.inl rfl,p1.trans (Xb.trans p2 (Nat.le_refl _)) (Nat.le_refl _),?_⟩
           have hn:=heap_alloc_new w.drew (.cells (ys'.toArray++wS.toArray++Builtin.zeroCells zv.cells (grownCap w (sl+xl) c' ee-(sl+xl))) ee)
           have RO:=fV hn
           have hg:=xi (w:=w) (e:=ee) zv (sl+xl) c' i.size hzs (ys'++wS) (by rw[List.length_append,hly,No,Nat.add_mul])
           rw[←List.append_toArray] at hg
           exact .mq (o':=0) (bW _ _ _) (.inr rfl) (grownCap_ge _ _ _ _) (by rw[Nat.zero_add];exact Nat.le_of_eq (by rw[←hg];exact RO.symm))
        ·cases e2
      ·
        simp only at e2
        rw[if_pos (show(0:Nat)<pB by unfold pB;omega),if_neg (by omega)] at e2
        obtain⟨ys,ani,e2,_,_⟩:=Cl e2
        simp only[K0,Option.some.injEq,Prod.mk.injEq] at e2
        obtain⟨rfl,rfl⟩:=e2
        obtain rfl:ys=[]:=List.length_eq_zero_iff.1 (by rw[ani,Nat.zero_mul])
        have hr:=run_append_grow (P:=P) w t' o.type ee i zv hu hi hzv a4 0 0 [] (by simp) (fun j u hu=>by simp at hu) ⟨rbx,OC+ox,none⟩ xl cx wS No aaQ (by omega) (by omega) (growslice_fits (by omega) (by rw[hby];exact RQ))
        rw[hr]
        simp only[Result.andThen_ok]
        have p1:=c.eV.drew (fl:=fl)
        have p2:=bY.alloc (fl:=fl) (c:=([]:List Value).toArray++wS.toArray++Builtin.zeroCells zv.cells (grownCap w (0+xl) 0 ee-(0+xl))) (t:=ee) p1.eV c.hn (by exact c.hr) (hf (Nat.lt_succ_self _)) (cs:=[]++xs) (fun j u hu=>by
         obtain⟨u',q1,q2⟩:=rx.get (by simpa using hu)
         refine⟨u',?_,q2⟩
         have hlt:=(List.getElem?_eq_some_iff.1 q1).1
         rw[Array.getElem?_append_left (by simpa using hlt)]
         simpa using q1)
        refine⟨_,_,_,.inl rfl,p1.trans p2 (Nat.le_refl _),?_⟩
        have hn:=heap_alloc_new w.drew (.cells (([]:List Value).toArray++wS.toArray++Builtin.zeroCells zv.cells (grownCap w (0+xl) 0 ee-(0+xl))) ee)
        have RO:=fV hn
        have hg:=xi (w:=w) (e:=ee) zv (0+xl) 0 i.size hzs ([]++wS) (by rw[List.nil_append,No,Nat.zero_add])
        rw[←List.append_toArray] at hg
        exact .mq (o':=0) (bW _ _ _) (.inr rfl) (grownCap_ge _ _ _ _) (by rw[Nat.zero_add];exact Nat.le_of_eq (by rw[←hg];exact RO.symm))
     ·cases e
   ·cases k3
  ·cases ok
 ·cases ok
theorem at6{jZ y z}(c:Ctx fl base aq μ h w s a)(ok:dM P o.op (.copy jZ y z)=true)(e:cQ C fl s h (.copy jZ y z) K0=some (v,h1)):
 aV fl base aq μ h w v h1 ((execOp a.eval o).run P w):=by
 simp only[cQ] at e
 obtain⟨⟨sa,sl,sc⟩,hs,e⟩:=cA e
 obtain⟨⟨xa,xl,xc⟩,hx,e⟩:=cA e
 change ev s y=.slice sa sl sc at hs
 change ev s z=.slice xa xl xc at hx
 simp only[dM] at ok
 unfold execOp
 split at ok
 ·rename_i args tys ho;rw[ho]
  split at ok
  ·rename_i y' z' t tt ha ht
   have ha:=aiF ha
   subst ha
   simp only[Bool.and_eq_true,decide_eq_true_eq] at ok
   obtain⟨⟨⟨k1,k2⟩,az7⟩,k3⟩:=ok
   split at k3
   ·rename_i ee hee
    have hu:=KC hee
    obtain⟨i,hi,rfl⟩:=KD k3
    have ht0:tys[0]?=some t:=by
     have:tys.toList[0]?=some t:=by rw[ht];rfl
     simpa using this
    have r1:=bE c.t k1
    have r2:=bE c.t k2
    rw[hs] at r1;rw[hx] at r2
    simp only[resolve,Sem.run_bind,Sem.run_pure,Result.andThen_ok,invoke,builtin,List.map_toArray,List.map_cons,List.map_nil]
    revert r1 r2
    generalize a.eval y'=q1
    generalize a.eval z'=q2
    intro r1 r2
    clear hs hx
    unfold cpy at e
    simp only at e
    have hd:∃db dc,q1=.slice db sl dc:=by
     rcases r1.ny with⟨rfl,rfl,rfl,rfl⟩|⟨b,ob,st',rb,off,rfl,g1,g2,g3,rfl⟩|⟨b,ob,st',rb,off,o',c',es,rfl,rfl,g1,g2,g3,g4,rfl⟩|⟨x4,a4,rfl,rfl,rfl,rfl⟩
     ·exact⟨_,_,rfl⟩
     ·exact⟨_,_,rfl⟩
     ·exact⟨_,_,rfl⟩
     ·exact⟨_,_,rfl⟩
    have hx:∃db dc,q2=.slice db xl dc:=by
     rcases r2.ny with⟨rfl,rfl,rfl,rfl⟩|⟨b,ob,st',rb,off,rfl,g1,g2,g3,rfl⟩|⟨b,ob,st',rb,off,o',c',es,rfl,rfl,g1,g2,g3,g4,rfl⟩|⟨x4,a4,rfl,rfl,rfl,rfl⟩
     ·exact⟨_,_,rfl⟩
     ·exact⟨_,_,rfl⟩
     ·exact⟨_,_,rfl⟩
     ·exact⟨_,_,rfl⟩
    split at e
    ·rename_i h0
     simp only[K0,Option.some.injEq,Prod.mk.injEq] at e
     obtain⟨rfl,rfl⟩:=e
     obtain⟨db,dc,rfl⟩:=hd
     obtain⟨xb,xcc,rfl⟩:=hx
     have hx:(Builtin.firstCells i.size 0 (.slice xb xl xcc)).run P w=.ok #[] w:=by
      cases xb with
      |none=>exact run_firstCells_none w _ _ _ _
      |some x=>exact run_firstCells_some w i.size 0 x xl xcc [] (by simp) (by simp)
     have hr:(Builtin.copy_ tys o.type #[.slice db sl dc,.slice xb xl xcc]).run P w=.ok (.int .i64 0) w:=by
      have h0':Nat.min xl sl=0:=h0
      cases db<;>simp[Builtin.copy_,ht0,run_underlying hu,eW hi,Builtin.lenOf,h0',hx,storeCells,goInt]
     rw[hr]
     exact aV.still c.eV (.int _ _)
    ·rename_i h0
     have hm:min xl sl≤xl:=Nat.min_le_left _ _
     have hm2:min xl sl≤sl:=Nat.min_le_right _ _
     obtain⟨bx,ox,stx,rbx,OC,cx,rfl,mx,rfl⟩:=Ctx.KE (n:=0) c.eV r2 (by omega)
     obtain⟨bd,od,std,rbd,aAD,cd,rfl,md,rfl⟩:=Ctx.KE (n:=0) c.eV r1 (by omega)
     obtain⟨xs,avK,e2,_,avm⟩:=Cl e
     clear e
     simp only at e2
     obtain⟨wS,rx,auQ⟩:=c.eV.Tg mx xs ox avm
     have No:wS.length=min xl sl*i.size:=by rw[←rx.1,avK]
     have Xe:=run_firstCells_some (P:=P) w i.size (min xl sl) ⟨rbx,OC+ox,none⟩ xl cx wS No (fun j u hu=>by rw[kB];exact auQ j u hu)
     obtain⟨cc,h2,w1,w2,w3,w4,w5⟩:=Px (P:=P) (p:=⟨bd,od,std⟩) c.eV c.hb e2 rx md
     simp only[K0,Option.some.injEq,Prod.mk.injEq] at w3
     obtain⟨rfl,rfl⟩:=w3
     have hr:(Builtin.copy_ tys o.type #[.slice (some ⟨rbd,aAD+od,none⟩) sl cd,.slice (some ⟨rbx,OC+ox,none⟩) xl cx]).run P w=.ok (.int .i64 (min xl sl:Nat)) (w.setRow rbd cc):=by
      have asl:(Builtin.firstCells i.size (Nat.min xl sl) (.slice (some ⟨rbx,OC+ox,none⟩) xl cx)).run P w=.ok wS.toArray w:=Xe
      have hmm:Nat.min xl sl=min xl sl:=rfl
      simp[Builtin.copy_,ht0,run_underlying hu,eW hi,Builtin.lenOf,asl,w1,goInt,hmm]
     rw[hr]
     simp only[Result.andThen_ok]
     exact⟨_,_,_,.inl rfl,w2,.int _ _⟩
   ·cases k3
  ·cases ok
 ·cases ok
end
end Go.Abs
end
section
namespace Go.Abs
section
variable{R S:Type}(g:R→Option S)
theorem dy(k v)(F:Int→Option R):asInt k v (fun n=>(F n).bind g)=(asInt k v F).bind g:=by
 unfold asInt;split
 ·split<;>rfl
 ·rfl
theorem tA(v)(F:Bool→Option R):asBool v (fun n=>(F n).bind g)=(asBool v F).bind g:=by
 unfold asBool;split<;>rfl
theorem ll(v)(F:Sl→Option R):bB v (fun n=>(F n).bind g)=(bB v F).bind g:=by
 unfold bB;split<;>rfl
theorem vw(v)(F:Addr→Option R):cT v (fun n=>(F n).bind g)=(cT v F).bind g:=by
 unfold cT;split<;>rfl
theorem XE(v)(F:Option Addr→Option R):fE v (fun n=>(F n).bind g)=(fE v F).bind g:=by
 unfold fE;split<;>rfl
theorem abu(v)(F:List Value→Option R):asAgg v (fun n=>(F n).bind g)=(asAgg v F).bind g:=by
 unfold asAgg;split<;>rfl
theorem Pz(v)(F:List Value→Option R):bj v (fun n=>(F n).bind g)=(bj v F).bind g:=by
 unfold bj;split<;>rfl
theorem Co(s v)(F:Value→Option R):nY s v (fun n=>(F n).bind g)=(nY s v F).bind g:=by
 cases s with
 |any=>rfl
 |int k=>exact dy g k v fun n=>F (.int k n)
 |bool=>exact tA g v fun n=>F (.bool n)
 |slice=>exact ll g v fun s=>F (.slice s.a s.l s.c)
 |ptr=>exact vw g v fun a=>F (.pointer (some a))
 |jW=>exact XE g v fun a=>F (.pointer a)
theorem HV:∀(ss vs) (F:List Value→Option R),Ac ss vs (fun n=>(F n).bind g)=(Ac ss vs F).bind g
 |[],[],_=>rfl
 |[],_::_,_=>rfl
 |_::_,[],_=>rfl
 |s::ss,v::vs,F=>by
  simp only[Ac]
  rw[←Co]
  congr 1;funext v'
  exact HV ss vs fun yn=>F (v'::yn)
theorem LW(s v)(F:Value→Option R):FF s v (fun n=>(F n).bind g)=(FF s v F).bind g:=by
 cases s with
 |one s=>exact Co g s v F
 |agg l=>
  simp only[FF]
  rw[←abu]
  congr 1;funext cs
  exact HV g l cs fun eE=>F (.agg ⟨eE⟩)
theorem HW:∀(ss vs) (F:List Value→Option R),Ad ss vs (fun n=>(F n).bind g)=(Ad ss vs F).bind g
 |[],[],_=>rfl
 |[],_::_,_=>rfl
 |_::_,[],_=>rfl
 |s::ss,v::vs,F=>by
  simp only[Ad]
  rw[←LW]
  congr 1;funext v'
  exact HW ss vs fun yn=>F (v'::yn)
theorem XF(s v)(F:Value→Option R):Kz s v (fun n=>(F n).bind g)=(Kz s v F).bind g:=by
 cases s with
 |one s=>exact LW g s v F
 |jn l=>
  simp only[Kz]
  rw[←Pz]
  congr 1;funext cs
  exact HW g l cs fun eE=>F (.tuple ⟨eE⟩)
theorem Th(s h b o)(F:Value→Option R):KA s h b o (fun n=>(F n).bind g)=(KA s h b o F).bind g:=by
 unfold KA;split
 ·exact Co g s _ F
 ·rfl
theorem PA:∀(ss h b o) (F:List Value→Option R),Ff ss h b o (fun n=>(F n).bind g)=(Ff ss h b o F).bind g
 |[],_,_,_,_=>rfl
 |s::ss,h,b,o,F=>by
  simp only[Ff]
  rw[←Th]
  congr 1;funext v'
  exact PA ss h b (o+1) fun yn=>F (v'::yn)
theorem Ue(fl h a xs)(F:AH→Option R):st fl h a xs (fun n=>(F n).bind g)=(st fl h a xs F).bind g:=by
 unfold st;(repeat' split)<;>rfl
theorem HX(h a n)(F:List Value→Option R):Fg h a n (fun n=>(F n).bind g)=(Fg h a n F).bind g:=by
 unfold Fg;(repeat' split)<;>rfl
theorem afY(fl jZ bytes s x h)(F:Sl→AH→Option R):iJ fl jZ bytes s x h (fun n m=>(F n m).bind g)=(iJ fl jZ bytes s x h F).bind g:=by
 unfold iJ
 split
 ·rfl
 ·split
  ·rw[←HX]
   congr 1;funext xs
   split
   ·split<;>rfl
   ·split
    ·split
     ·exact Ue g _ _ _ _ _
     ·exact HX g _ _ _ _
    ·split
     ·exact HX g _ _ _ _
     ·rfl
  ·rfl
theorem afZ(bytes z l c h)(F:Sl→AH→Option R):wU bytes z l c h (fun n m=>(F n m).bind g)=(wU bytes z l c h F).bind g:=by
 unfold wU;split<;>rfl
theorem aiH(jZ s lo hi mx)(F:Sl→Option R):sub jZ s lo hi mx (fun n=>(F n).bind g)=(sub jZ s lo hi mx F).bind g:=by
 unfold sub;(repeat' split)<;>rfl
theorem aiI(jZ s i)(F:Addr→Option R):idx jZ s i (fun n=>(F n).bind g)=(idx jZ s i F).bind g:=by
 unfold idx;(repeat' split)<;>rfl
theorem aiJ(fl jZ d s h)(F:Int→AH→Option R):cpy fl jZ d s h (fun n m=>(F n m).bind g)=(cpy fl jZ d s h F).bind g:=by
 unfold cpy
 split
 ·rfl
 ·rw[←HX]
  congr 1;funext xs
  split
  ·exact Ue g _ _ _ _ _
  ·rfl
theorem abv(C fl f args sh h)(F:Value→AH→Option R):Ps C fl f args sh h (fun n m=>(F n m).bind g)=(Ps C fl f args sh h F).bind g:=by
 unfold Ps
 split
 ·split
  ·exact XF g sh _ _
  ·rfl
 ·rfl
theorem Cp(st o)(F:Option Int→Option R):fT st o (fun n=>(F n).bind g)=(fT st o F).bind g:=by
 unfold fT;(repeat' split)<;>rfl
theorem Ti(C:Callee)(fl:Nat)(s:List Value)(h:AH)(o:HO)(F:Value→AH→Option R):
 cQ C fl s h o (fun v h=>(F v h).bind g)=(cQ C fl s h o F).bind g:=by
 cases o with
 |mv x=>rfl
 |pick c a b=>simp only[cQ];rw[←tA];congr 1;funext t;split<;>rfl
 |box x=>simp only[cQ];split<;>rfl
 |alloc z=>rfl
 |build z ps=>simp only[cQ];split<;>rfl
 |aO len z ps=>simp only[cQ];split<;>rfl
 |load sh a=>
  simp only[cQ];rw[←vw];congr 1;funext a
  cases sh with
  |one s0=>exact Th g s0 h _ _ fun v=>F v h
  |agg l=>exact PA g l h _ _ fun vs=>F (.agg ⟨vs⟩) h
 |store n a x=>
  simp only[cQ];rw[←vw];congr 1;funext a
  split
  ·exact Ue g _ _ _ _ fun h1=>F undef h1
  ·rfl
 |cg x=>simp only[cQ];rw[←vw]
 |bin op k x y=>
  simp only[cQ];rw[←dy];congr 1;funext a;rw[←dy];congr 1;funext b;split<;>rfl
 |sh l k yk x y=>
  simp only[cQ];rw[←dy];congr 1;funext a;rw[←dy];congr 1;funext b;split<;>rfl
 |cmp op k x y=>
  simp only[cQ];rw[←dy];congr 1;funext a;rw[←dy];congr 1;funext b;split<;>rfl
 |beq neg x y=>simp only[cQ];rw[←tA];congr 1;funext a;rw[←tA]
 |Fc neg x=>simp only[cQ];rw[←ll]
 |not x=>simp only[cQ];rw[←tA]
 |neg k x=>simp only[cQ];rw[←dy]
 |conv a b x=>simp only[cQ];rw[←dy]
 |vf f a b=>rfl
 |cH bytes z l c=>
  simp only[cQ];rw[←dy];congr 1;funext a;rw[←dy];congr 1;funext b
  exact afZ g _ _ _ _ _ fun v h1=>F (.slice v.a v.l v.c) h1
 |slice jZ x lo hi mx=>
  simp only[cQ];rw[←ll];congr 1;funext v;rw[←Cp];congr 1;funext lo;rw[←Cp];congr 1;funext hi;rw[←Cp];congr 1;funext mx
  exact aiH g _ _ _ _ _ fun v=>F (.slice v.a v.l v.c) h
 |bR off x=>simp only[cQ];rw[←vw]
 |di jZ x i=>
  simp only[cQ];rw[←ll];congr 1;funext v;rw[←dy];congr 1;funext i
  exact aiI g _ _ _ fun a=>F (.pointer (some a)) h
 |Kp x i=>simp only[cQ];rw[←Pz];congr 1;funext vs;split<;>rfl
 |call f args sh=>exact abv g C fl _ _ sh h F
 |len x=>simp only[cQ];rw[←ll]
 |append jZ bytes a x=>
  simp only[cQ];rw[←ll];congr 1;funext a;rw[←ll];congr 1;funext x
  exact afY g _ _ _ _ _ _ fun v h1=>F (.slice v.a v.l v.c) h1
 |copy jZ d x=>
  simp only[cQ];rw[←ll];congr 1;funext a;rw[←ll];congr 1;funext x
  exact aiJ g _ _ _ _ _ fun n h1=>F (.int .i64 n) h1
 |mm m x y=>simp only[cQ];rw[←dy];congr 1;funext a;rw[←dy]
 |Kq k bs i=>
  simp only[cQ];rw[←dy];congr 1;funext n
  split
  ·split<;>rfl
  ·rfl
end
theorem lq{R:Type}{r:R}{C:Callee}{fl:Nat}{s:List Value}{h:AH}{o:HO}{K:Value→AH→Option R}(e:cQ C fl s h o K=some r):
 ∃v h1,cQ C fl s h o K0=some (v,h1)∧K v h1=some r:=by
 have:=Ti (fun p:Value×AH=>K p.1 p.2) C fl s h o K0
 have h2:(cQ C fl s h o fun v h=>(K0 v h).bind fun p:Value×AH=>K p.1 p.2)=cQ C fl s h o K:=rfl
 rw[h2,e] at this
 cases hq:cQ C fl s h o K0 with
 |none=>rw[hq] at this;cases this
 |some p=>rw[hq] at this;exact⟨p.1,p.2,rfl,this.symm⟩
theorem Cq{R:Type}{r:R}{C:Callee}{fl:Nat}{s:List Value}{h h1:AH}{v:Value}{o:HO}{K:Value→AH→Option R}(e:cQ C fl s h o K0=some (v,h1))(e2:K v h1=some r):
 cQ C fl s h o K=some r:=by
 have:=Ti (fun p:Value×AH=>K p.1 p.2) C fl s h o K0
 have h2:(cQ C fl s h o fun v h=>(K0 v h).bind fun p:Value×AH=>K p.1 p.2)=cQ C fl s h o K:=rfl
 rw[h2,e] at this
 rw[this];exact e2
def bJ(fl:Nat)(h h1:AH):Prop:=
 h.next≤h1.next∧(∀b,b<h.next→b<fl→h1.iq b=h.iq b)∧(∀b cs,b<h.next∨h1.next≤b→h1.iq b=some cs→∃eE,h.iq b=some eE)
theorem bJ.refl(fl h):bJ fl h h:=⟨Nat.le_refl _,fun _ _ _=>rfl,fun _ cs _ e=>⟨cs,e⟩⟩
theorem bJ.trans{fl Pp h h1 h2}(p:bJ fl h h1)(q:bJ Pp h1 h2)(hf:fl≤Pp):bJ fl h h2:=
 ⟨Nat.le_trans p.1 q.1,fun b hb hbf=>by rw[q.2.1 b (Nat.lt_of_lt_of_le hb p.1) (Nat.lt_of_lt_of_le hbf hf),p.2.1 b hb hbf],
  fun b cs hb e=>by
   have h1:=p.1
   have h2:=q.1
   obtain⟨eE,e'⟩:=q.2.2 b cs (by omega) e
   exact p.2.2 b eE (by omega) e'⟩
theorem bJ.alloc(fl h cs):bJ fl h (h.alloc cs):=
 ⟨Nat.le_succ _,fun b hb _=>by simp[AH.alloc,Nat.ne_of_lt hb],fun b eE hb e=>⟨eE,by
  have iH:b≠h.next:=by
   rcases hb with hb|hb
   ·omega
   ·have:h.next+1≤b:=hb
    omega
  simpa [AH.alloc,iH] using e⟩⟩
theorem bJ.put{fl h b cs eE}(hb:fl≤b)(hk:h.iq b=some cs):bJ fl h (h.put b (some eE)):=
 ⟨Nat.le_refl _,fun c _ hc=>by
  have:c≠b:=by omega
  simp[AH.put,this],
  fun c cs2 _ e=>by
   by_cases hcb:c=b
   ·subst hcb;exact⟨cs,hk⟩
   ·exact⟨cs2,by simpa [AH.put,hcb] using e⟩⟩
theorem bJ.kill{fl h b}(hb:fl≤b):bJ fl h (h.put b none):=
 ⟨Nat.le_refl _,fun c _ hc=>by
  have:c≠b:=by omega
  simp[AH.put,this],
  fun c cs2 _ e=>by
   by_cases hcb:c=b
   ·subst hcb;simp[AH.put] at e
   ·exact⟨cs2,by simpa [AH.put,hcb] using e⟩⟩
theorem bJ.floor{fl Pp h h1}(p:bJ Pp h h1)(hf:fl≤Pp):bJ fl h h1:=⟨p.1,fun b hb hbf=>p.2.1 b hb (Nat.lt_of_lt_of_le hbf hf),p.2.2⟩
theorem PB{R:Type}{r:R}{fl h a xs}{K:AH→Option R}(e:st fl h a xs K=some r):∃h1,bJ fl h h1∧K h1=some r:=by
 unfold st at e
 split at e
 ·rename_i cs hcs
  split at e
  ·rename_i bL
   split at e
   ·split at e
    ·split at e
     ·exact⟨_,bJ.put bL hcs,e⟩
     ·cases e
    ·cases e
   ·cases e
  ·cases e
 ·cases e
theorem OG{R:Type}{r:R}{h:AH}{a n}{K:List Value→Option R}(e:Fg h a n K=some r):∃xs,K xs=some r:=by
 unfold Fg at e
 (repeat' split at e)<;>first|exact⟨_,e⟩|cases e
theorem abw{R:Type}{r:R}{fl jZ bytes s x h}{K:Sl→AH→Option R}(e:iJ fl jZ bytes s x h K=some r):∃v h1,bJ fl h h1∧K v h1=some r:=by
 unfold iJ at e
 split at e
 ·exact⟨_,_,bJ.refl _ _,e⟩
 ·split at e
  ·obtain⟨xs,e⟩:=OG e
   split at e
   ·split at e
    ·exact⟨_,_,bJ.alloc _ _ _,e⟩
    ·cases e
   ·split at e
    ·split at e
     ·obtain⟨h1,g1,g2⟩:=PB e;exact⟨_,h1,g1,g2⟩
     ·obtain⟨ys,e⟩:=OG e;exact⟨_,_,bJ.alloc _ _ _,e⟩
    ·split at e
     ·rename_i hk
      obtain⟨ys,e⟩:=OG e;exact⟨_,_,(bJ.kill hk.1).trans (bJ.alloc _ _ _) (Nat.le_refl _),e⟩
     ·cases e
  ·cases e
structure CAbs(C:Callee):Prop where
 step:∀fl f args h v h1,C fl f args h=some (v,h1)→bJ fl h h1
theorem FI{R:Type}{r:R}{s:List Value}{o}{K:Option Int→Option R}(e:fT s o K=some r):∃x,K x=some r:=by
 unfold fT at e
 (repeat' split at e)<;>first|exact⟨_,e⟩|cases e
theorem PC{C:Callee}(hC:CAbs C){fl s h o v h1}(e:cQ C fl s h o K0=some (v,h1)):bJ fl h h1:=by
 have wT:∀{v':Value},K0 v' h=some (v,h1)→bJ fl h h1:=fun e=>by
  simp only[K0,Option.some.injEq,Prod.mk.injEq] at e
  rw[←e.2];exact bJ.refl _ _
 have same:∀{v':Value} {h':AH},bJ fl h h'→K0 v' h'=some (v,h1)→bJ fl h h1:=fun a e=>by
  simp only[K0,Option.some.injEq,Prod.mk.injEq] at e
  rw[←e.2];exact a
 cases o<;>simp only[cQ] at e
 case mv=>exact wT e
 case pick=>obtain⟨t,_,e⟩:=bX e;split at e<;>exact wT e
 case box=>split at e<;>first|exact same (bJ.alloc _ _ _) e|cases e
 case alloc=>exact same (bJ.alloc _ _ _) e
 case build=>split at e<;>first|exact wT e|cases e
 case aO=>split at e<;>first|exact same (bJ.alloc _ _ _) e|cases e
 case load sh a=>
  obtain⟨a,_,e⟩:=dL e
  cases sh with
  |one s0=>obtain⟨u,_,e⟩:=yr (K:=fun v=>K0 v h) e;exact wT e
  |agg l=>obtain⟨u,_,_,e⟩:=vv (K:=fun vs=>K0 (.agg ⟨vs⟩) h) e;exact wT e
 case store=>
  obtain⟨a,_,e⟩:=dL e
  split at e
  ·obtain⟨h2,g1,g2⟩:=PB e;exact same g1 g2
  ·cases e
 case cg=>obtain⟨a,_,e⟩:=dL e;exact wT e
 case bin=>obtain⟨a,_,e⟩:=aG e;obtain⟨b,_,e⟩:=aG e;split at e<;>first|exact wT e|cases e
 case sh=>obtain⟨a,_,e⟩:=aG e;obtain⟨b,_,e⟩:=aG e;split at e<;>first|exact wT e|cases e
 case cmp=>obtain⟨a,_,e⟩:=aG e;obtain⟨b,_,e⟩:=aG e;split at e<;>first|exact wT e|cases e
 case beq=>obtain⟨a,_,e⟩:=bX e;obtain⟨b,_,e⟩:=bX e;exact wT e
 case Fc=>obtain⟨a,_,e⟩:=cA e;exact wT e
 case not=>obtain⟨a,_,e⟩:=bX e;exact wT e
 case neg=>obtain⟨a,_,e⟩:=aG e;exact wT e
 case conv=>obtain⟨a,_,e⟩:=aG e;exact wT e
 case vf=>exact wT e
 case cH=>
  obtain⟨a,_,e⟩:=aG e;obtain⟨b,_,e⟩:=aG e
  unfold wU at e
  split at e<;>first|exact same (bJ.alloc _ _ _) e|cases e
 case slice=>
  obtain⟨a,_,e⟩:=cA e;obtain⟨_,e⟩:=FI e;obtain⟨_,e⟩:=FI e;obtain⟨_,e⟩:=FI e
  unfold sub at e
  (repeat' split at e)<;>first|exact wT e|cases e
 case bR=>obtain⟨a,_,e⟩:=dL e;exact wT e
 case di=>
  obtain⟨a,_,e⟩:=cA e;obtain⟨b,_,e⟩:=aG e
  unfold idx at e
  (repeat' split at e)<;>first|exact wT e|cases e
 case Kp=>obtain⟨a,_,e⟩:=Ae e;split at e<;>first|exact wT e|cases e
 case call f args sh=>
  unfold Ps at e
  split at e
  ·split at e
   ·rename_i v' h' hc
    exact same (hC.step _ _ _ _ _ _ hc) (LS (K:=fun v'=>K0 v' h') e)
   ·cases e
  ·cases e
 case len=>obtain⟨a,_,e⟩:=cA e;exact wT e
 case append=>
  obtain⟨a,_,e⟩:=cA e;obtain⟨b,_,e⟩:=cA e
  obtain⟨u,h2,g1,g2⟩:=abw e;exact same g1 g2
 case copy=>
  obtain⟨a,_,e⟩:=cA e;obtain⟨b,_,e⟩:=cA e
  unfold cpy at e
  split at e
  ·exact wT e
  ·obtain⟨xs,e⟩:=OG e
   split at e
   ·obtain⟨h2,g1,g2⟩:=PB e;exact same g1 g2
   ·cases e
 case mm=>obtain⟨a,_,e⟩:=aG e;obtain⟨b,_,e⟩:=aG e;exact wT e
 case Kq=>obtain⟨a,_,e⟩:=aG e;(repeat' split at e)<;>first|exact wT e|cases e
theorem cC.XG{μ sz g}{d1 d2:List Value}{v}(h:cC μ sz (.func (.func g) ⟨d1⟩ ⟨d2⟩) v):∃f2 g2:List Value,v=.func (.func g) ⟨f2⟩ ⟨g2⟩∧bq μ sz d1 f2∧bq μ sz d2 g2:=by
 generalize hq:Value.func (.func g) ⟨d1⟩ ⟨d2⟩=q at h
 cases h with
 |func l1 l2 l3 l4=>
  injection hq with h1 h2 h3
  injection h1 with h1;injection h2 with h2;injection h3 with h3
  subst h1 h2 h3
  exact⟨_,_,rfl,⟨l1,l2⟩,⟨l3,l4⟩⟩
 |_=>cases hq
structure fx(P:Program)(C:Callee):Prop extends CAbs C where
 fn : ∀ fl f args h v h1, C fl f args h = some (v, h1) → ∃ fd, P.funcs[f]? = some fd ∧ (fd.name == "runtime.NumGoroutine") = false ∧ fd.body.isNone = false
 sound:∀fl f args h v h1,C fl f args h=some (v,h1)→∀base aq μ w args',yo base aq μ h w→base≤fl→fl≤h.next→aq≤w.heap.size→bq μ (c8 w) args args'→gL μ h.next h1.next→
  Calls P f args'.toArray w fun e w'=>∃v' μ',e=.returned v'∧bY fl base aq μ h w μ' h1 w'∧cC μ' (c8 w') v v'
def aiK(P:Program)(op:Op):HO→Bool
 |.call f args _=>match op with
  |.call {callee:=.value f',args:=args', ..}=>cZ f' f&&Ck args'.toList args
  |_=>false
 |x=>dM P op x
section
variable{P:Program}{C:Callee}{fl base aq:Nat}{μ:Mu}{h h1:AH}{w:World}{s:List Value}{a:Act}{v:Value}{o:Oper}
theorem anU{ao:HO}(hnc:∀f args sh,ao≠.call f args sh)(c:Ctx fl base aq μ h w s a)(hf:h.next<h1.next→μ h.next=none)(ok:dM P o.op ao=true)(e:cQ C fl s h ao K0=some (v,h1)):
 aV fl base aq μ h w v h1 ((execOp a.eval o).run P w):=by
 cases ao with
 |mv=>exact ay9 c ok e
 |pick=>exact atV c ok e
 |box=>exact awy c hf ok e
 |alloc=>exact anO c hf ok e
 |build=>exact anP c ok e
 |aO=>exact aiE c hf ok e
 |load=>exact atY c ok e
 |store=>exact anQ c ok e
 |cg=>exact atW c ok e
 |bin=>exact awz c ok e
 |sh=>exact aza c ok e
 |cmp=>exact awA c ok e
 |beq=>exact awD c ok e
 |Fc=>exact atZ c ok e
 |not=>exact awB c ok e
 |neg=>exact awC c ok e
 |conv=>exact at1 c ok e
 |vf=>exact at2 c ok e
 |cH=>exact afX c hf ok e
 |slice=>exact anT c ok e
 |bR=>exact anR c ok e
 |di=>exact anS c ok e
 |Kp=>exact atX c ok e
 |call f args sh=>exact absurd rfl (hnc f args sh)
 |len=>exact awF c ok e
 |append=>exact aiG c hf ok e
 |copy=>exact at6 c ok e
 |mm=>exact azb c ok e
 |Kq=>exact at3 c ok e
theorem asV(hC:fx P C){ao:HO}(c:Ctx fl base aq μ h w s a)(hf:gL μ h.next h1.next)(ok:aiK P o.op ao=true)(e:cQ C fl s h ao K0=some (v,h1))
 {next:Act→World→Prop} {Q:Exit→Act→World→Prop} (hn:∀v' μ' w',bY fl base aq μ h w μ' h1 w'→cC μ' (c8 w') v v'→next (a.put o.dst v') w'):o.wp P a w next Q:=by
 by_cases atr:∃f args sh,ao=.call f args sh
 ·obtain⟨f,args,sh,rfl⟩:=atr
  simp only[aiK] at ok
  simp only[cQ,Ps] at e
  unfold Oper.wp execOp
  split at ok
  ·rename_i f' args' tys ho
   rw[ho]
   simp only[Bool.and_eq_true] at ok
   obtain⟨k1,k2⟩:=ok
   have r1:=bE c.t k1
   have r2:=HS c.t k2
   split at e
   ·rename_i g c1 c2 hg
    rw[hg] at r1
    split at e
    ·rename_i v0 h0 hc
     have e2:=LS (K:=fun v'=>K0 v' h0) e
     simp only[K0,Option.some.injEq,Prod.mk.injEq] at e2
     obtain⟨rfl,rfl⟩:=e2
     obtain⟨d1⟩:=c1;obtain⟨d2⟩:=c2
     obtain⟨f2,g2,hq,l12,l34⟩:=r1.XG
     have atK:bq μ (c8 w) (d1++args.map (ev s)++d2) (f2++args'.toList.map a.eval++g2):=(bq.append l12 r2).append l34
     obtain⟨fd,q1,q2,q3⟩:=hC.fn _ _ _ _ _ _ hc
     have hcs:=hC.sound _ _ _ _ _ _ hc base aq μ w _ c.eV c.hb c.bL c.hr atK hf
     have e1:(Array.map a.eval args')=⟨args'.toList.map a.eval⟩:=by apply Array.ext';simp
     have hr:(callFunc g ((⟨f2⟩++Array.map a.eval args':Array Value)++⟨g2⟩)).run P w=.ok (.enter g (f2++args'.toList.map a.eval++g2).toArray) w:=by
      unfold callFunc
      simp only[Sem.run_bind,Go.program,Sem.run,Result.andThen_ok,q1,q2,q3,Bool.false_eq_true,if_false,Sem.run_pure]
      congr 2
      rw[e1];simp
     simp only[resolve,hq,Deferred.ofValue,Sem.run_bind,Sem.run_pure,Result.andThen_ok,invoke,hr]
     rw[Oper.upon_enter]
     refine hcs.mono fun e w' ⟨v',μ',he,hp,hv⟩=>?_
     subst he
     exact hn v' μ' w' hp hv
    ·cases e
   ·cases e
  ·cases ok
 ·have hnc:∀f args sh,ao≠.call f args sh:=fun f args sh hh=>atr ⟨f,args,sh,hh⟩
  have ok':dM P o.op ao=true:=by
   cases ao<;>first|exact ok|exact absurd rfl (hnc _ _ _)
  obtain⟨v',μ',w',hr,hp,hv⟩:=anU hnc c (fun hlt=>hf _ (Nat.le_refl _) hlt) ok' e
  unfold Oper.wp
  rcases hr with hr|⟨hr,hu⟩
  ·rw[hr,Oper.upon_value];exact hn v' μ' w' hp hv
  ·rw[hr,Oper.upon_skip];subst hu;exact hn undef μ' w' hp hv
end
end Go.Abs
end
section
namespace Go.Abs
def Ag(C:Callee)(fl:Nat)(o:bD)(s:List Value)(h:AH):Option (Value×AH):=match o.guard with
 |none=>cQ C (if o.Ku=true then fl else h.next) s h o.op K0
 |some (g,want)=>XA (s.getD g undef) (fun b=>
  if b=want then cQ C (if o.Ku=true then fl else h.next) s h o.op K0 else some (yq,h)) (some (yq,h))
theorem KG{R:Type}{r:R}{C fl o os s h}{K:List Value→AH→Option R}(e:pz C fl (o::os) s h K=some r):
 ∃v h1,Ag C fl o s h=some (v,h1)∧pz C fl os (mY s o.dst v) h1 K=some r:=by
 simp only[pz] at e
 unfold Ag
 split at e
 ·rename_i hg
  obtain⟨v,h1,g1,g2⟩:=lq e
  exact⟨v,h1,by(try simp only[hg]);exact g1,g2⟩
 ·rename_i g want hg
  rcases vu e with⟨b,hb,e⟩|⟨x,y,hb,e⟩
  ·simp only[hg,hb,XA]
   split at e
   ·rename_i hw
    obtain⟨v,h1,g1,g2⟩:=lq e
    exact⟨v,h1,by rw[if_pos hw];exact g1,g2⟩
   ·rename_i hw
    exact⟨yq,h,by rw[if_neg hw],e⟩
  ·simp only[hg,hb,XA]
   exact⟨yq,h,rfl,e⟩
def abx:fU→Bool
 |.op _=>true
 |.fb g _ os=>os.all fun o=>decide (o.dst≠some g)
theorem XH{s:List Value}{g:Nat}{b:Bool}(h:s.getD g undef=.bool b):s.set g (.bool b)=s:=by
 have hg:s[g]?=some (.bool b):=by
  rw[List.getD_eq_getElem?_getD] at h
  cases hq:s[g]? with
  |none=>rw[hq] at h;cases h
  |some u=>rw[hq] at h;simp at h;rw[h]
 apply List.ext_getElem?
 intro i
 rw[List.getElem?_set]
 by_cases e:g=i
 ·subst e
  obtain⟨hl,_⟩:=List.getElem?_eq_some_iff.1 hg
  rw[if_pos rfl,if_pos hl,hg]
 ·rw[if_neg e]
theorem KH{s:List Value}{g:Nat}{d:Option Nat}{v:Value}(h:d≠some g):(mY s d v).getD g undef=s.getD g undef:=by
 cases d with
 |none=>rfl
 |some d=>
  have:d≠g:=fun e=>h (by rw[e])
  simp only[mY,List.getD_eq_getElem?_getD]
  rw[List.getElem?_set_ne this]
theorem XI{R:Type}{r:R}{C fl}{g:Nat}{want:Bool}{rest:List bD}{K:List Value→AH→Option R}:∀(os:List bD) {s h},(os.all fun o=>decide (o.dst≠some g))=true→s.getD g undef=.bool want→
 FG C fl os s h (fun s h=>pz C fl rest s h K)=some r→pz C fl (LQ g want os++rest) s h K=some r
 |[],s,h,_,_,e=>e
 |o::os,s,h,ok,hg,e=>by
  simp only[List.all_cons,Bool.and_eq_true,decide_eq_true_eq] at ok
  simp only[FG] at e
  obtain⟨v,h1,g1,g2⟩:=lq e
  simp only[LQ,List.cons_append,pz,hg,XA,if_true]
  exact Cq g1 (XI os ok.2 (by rw[KH ok.1];exact hg) g2)
theorem PD{R:Type}{r:R}{C fl}{g:Nat}{want b:Bool}(hb:b≠want){rest:List bD}{K:List Value→AH→Option R}:∀(os:List bD) {s h},(os.all fun o=>decide (o.dst≠some g))=true→s.getD g undef=.bool b→
 pz C fl rest (HP os s) h K=some r→pz C fl (LQ g want os++rest) s h K=some r
 |[],s,h,_,_,e=>e
 |o::os,s,h,ok,hg,e=>by
  simp only[List.all_cons,Bool.and_eq_true,decide_eq_true_eq] at ok
  simp only[HP] at e
  simp only[LQ,List.cons_append,pz,hg,XA,if_neg hb]
  exact PD hb os ok.2 (by rw[KH ok.1];exact hg) e
theorem LX{R:Type}{r:R}{C fl}{g:Nat}{want:Bool}{x y}{rest:List bD}{K:List Value→AH→Option R}:∀(os:List bD) {s h},(os.all fun o=>decide (o.dst≠some g))=true→s.getD g undef=.complex .f32 x y→
 pz C fl rest (HP os s) h K=some r→pz C fl (LQ g want os++rest) s h K=some r
 |[],s,h,_,_,e=>e
 |o::os,s,h,ok,hg,e=>by
  simp only[List.all_cons,Bool.and_eq_true,decide_eq_true_eq] at ok
  simp only[HP] at e
  simp only[LQ,List.cons_append,pz,hg,XA]
  exact LX os ok.2 (by rw[KH ok.1];exact hg) e
theorem oh{R:Type}{r:R}{C fl}:∀{is:List fU} {s h} {K:List Value→AH→Option R},(is.all abx)=true→xX C fl is s h K=some r→pz C fl (flat is) s h K=some r
 |[],s,h,K,_,e=>e
 |.op o::is,s,h,K,ok,e=>by
  simp only[List.all_cons,Bool.and_eq_true] at ok
  simp only[xX] at e
  obtain⟨v,h1,g1,g2⟩:=lq e
  simp only[flat,pz]
  exact Cq g1 (oh ok.2 g2)
 |.fb g want os::is,s,h,K,ok,e=>by
  simp only[List.all_cons,Bool.and_eq_true,abx] at ok
  simp only[xX] at e
  simp only[flat]
  rcases vu e with⟨b,hb,e⟩|⟨x,y,hb,e⟩
  case inr=>exact LX os ok.1 hb (oh ok.2 e)
  split at e
  ·rename_i hw
   subst hw
   rw[XH hb] at e
   refine XI os ok.1 hb ?_
   have:∀(os:List bD) {s h},FG C fl os s h (fun s h=>xX C fl is s h K)=some r→FG C fl os s h (fun s h=>pz C fl (flat is) s h K)=some r:=by
    intro os
    induction os with
    |nil=>intro s h e;exact oh ok.2 e
    |cons o os ih=>
     intro s h e
     simp only[FG] at e ⊢
     obtain⟨v,h1,g1,g2⟩:=lq e
     exact Cq g1 (ih g2)
   exact this os e
  ·rename_i hw
   have hnb:(!want)=b:=by cases b<;>cases want<;>simp at hw ⊢
   rw[hnb,XH hb] at e
   exact PD hw os ok.1 hb (oh ok.2 e)
def gM(o:bD)(fl:Nat)(h:AH):Nat:=if o.Ku=true then fl else h.next
theorem pN{o fl}{h:AH}(hf:fl≤h.next):fl≤gM o fl h:=by unfold gM;split<;>omega
theorem PE{o fl}{h:AH}(hf:fl≤h.next):gM o fl h≤h.next:=by unfold gM;split<;>omega
theorem DG{C:Callee}(hC:CAbs C){fl o s h v h1}(e:Ag C fl o s h=some (v,h1)):bJ (gM o fl h) h h1:=by
 unfold Ag at e
 split at e
 ·exact PC hC e
 ·rcases vu e with⟨b,_,e⟩|⟨x,y,_,e⟩
  ·split at e
   ·exact PC hC e
   ·simp only[Option.some.injEq,Prod.mk.injEq] at e
    rw[←e.2];exact bJ.refl _ _
  ·simp only[Option.some.injEq,Prod.mk.injEq] at e
   rw[←e.2];exact bJ.refl _ _
def okA(P:Program)(ops:Array Oper)(o:Oper)(ao:bD):Bool:=
 decide (o.dst=ao.dst)&&aiK P o.op ao.op&&(match o.guard,ao.guard with
  |none,none=>true
  |some (j,want),some (t,axF)=>(want==axF)&&decide ((ops[j]?).bind (·.dst)=some t)
  |_,_=>false)
section
variable{P:Program}{C:Callee}{fl base aq:Nat}{μ:Mu}{h h1:AH}{w:World}{s:List Value}{a:Act}{v:Value}{o:Oper}{ao:bD}{ops:Array Oper}
theorem Ah(hC:fx P C){i:Nat}(hi:ops[i]?=some o)(ok:okA P ops o ao=true)(c:Ctx (gM ao fl h) base aq μ h w s a)(e:Ag C fl ao s h=some (v,h1))(hf:gL μ h.next h1.next)
 {K:Act→World→Prop} {Q:Exit→Act→World→Prop} (hn:∀v' μ' w',bY (gM ao fl h) base aq μ h w μ' h1 w'→cC μ' (c8 w') v v'→K (a.put o.dst v') w'):wpOp P ops Q i K a w:=by
 unfold okA at ok
 simp only[Bool.and_eq_true,decide_eq_true_eq] at ok
 obtain⟨⟨k1,k2⟩,k3⟩:=ok
 unfold wpOp
 simp only[hi]
 unfold Ag at e
 split at e
 ·rename_i hg
  split at k3
  ·rename_i hog _
   have hw:Region.wanted o (yielded ops a.tmps)=true:=by simp[Region.wanted,hog]
   rw[if_pos hw]
   exact .inl (asV hC c hf k2 e hn)
  ·rename_i h2;rw[hg] at h2;cases h2
  ·cases k3
 ·rename_i g want hg
  split at k3
  ·rename_i h2;rw[hg] at h2;cases h2
  ·rename_i j aCk t aC2 hog h2
   rw[hg] at h2
   injection h2 with h2;injection h2 with h3 h4
   subst h3;subst h4
   simp only[Bool.and_eq_true,beq_iff_eq,decide_eq_true_eq] at k3
   obtain⟨rfl,k4⟩:=k3
   rcases vu e with⟨b,hb,e⟩|⟨x,y,hb,e⟩
   case inr=>
    have hy:yielded ops a.tmps j=none:=by
     unfold yielded
     rw[k4]
     have hsg:s[g]?=some (.complex .f32 x y):=by
      rw[List.getD_eq_getElem?_getD] at hb
      cases hq:s[g]? with
      |none=>rw[hq] at hb;cases hb
      |some u=>rw[hq] at hb;simp at hb;rw[hb]
     obtain⟨u',q1,q2⟩:=c.t.get hsg
     have q3:u'=.tuple #[]:=by cases q2;rfl
     subst q3
     have:a.tmps[g]?=some (.tuple #[]):=by simpa using q1
     simp[this]
    have hw':¬Region.wanted o (yielded ops a.tmps)=true:=by simp[Region.wanted,hog,hy]
    rw[if_neg hw']
    simp only[Option.some.injEq,Prod.mk.injEq] at e
    obtain⟨rfl,rfl⟩:=e
    exact hn undef μ w (bY.refl c.eV) .skip
   have hy:yielded ops a.tmps j=some b:=by
    unfold yielded
    rw[k4]
    have hsg:s[g]?=some (.bool b):=by
     rw[List.getD_eq_getElem?_getD] at hb
     cases hq:s[g]? with
     |none=>rw[hq] at hb;cases hb
     |some u=>rw[hq] at hb;simp at hb;rw[hb]
    obtain⟨u',q1,q2⟩:=c.t.get hsg
    have q3:=q2.tz
    subst q3
    have:a.tmps[g]?=some (.bool b):=by simpa using q1
    simp[this]
   split at e
   ·rename_i hw
    have hw':Region.wanted o (yielded ops a.tmps)=true:=by simp[Region.wanted,hog,hy,hw]
    rw[if_pos hw']
    exact .inl (asV hC c hf k2 e hn)
   ·rename_i hw
    have hw':¬Region.wanted o (yielded ops a.tmps)=true:=by simp[Region.wanted,hog,hy,hw]
    rw[if_neg hw']
    simp only[Option.some.injEq,Prod.mk.injEq] at e
    obtain⟨rfl,rfl⟩:=e
    exact hn undef μ w (bY.refl c.eV) .skip
  ·cases k3
theorem ac8{μ sz s}{a:Act}(t:bq μ sz s a.tmps.toList){v v'}(hv:cC μ sz v v')(d:Option Nat):bq μ sz (mY s d v) (a.put d v').tmps.toList:=by
 cases d with
 |none=>exact t
 |some d=>
  simp only[mY,Act.put,Array.toList_setIfInBounds]
  refine bq.abp (by simp[t.1]) fun i u hu=>?_
  rw[List.getElem?_set] at hu ⊢
  have hl:=t.1
  by_cases e:d=i
  ·simp only[e,if_true] at hu ⊢
   split at hu
   ·rename_i hlt
    injection hu with hu;subst hu
    rw[if_pos (by omega)];exact⟨v',rfl,hv⟩
   ·cases hu
  ·simp only[e,if_false] at hu ⊢
   exact t.get hu
theorem put_defers(a:Act)(d:Option Nat)(v:Value):(a.put d v).defers=a.defers:=by cases d<;>rfl
theorem PF{R:Type}{r:R}(hC:CAbs C):∀{os:List bD} {s h} {K:List Value→AH→Option R},pz C fl os s h K=some r→fl≤h.next→∃s' h',bJ fl h h'∧K s' h'=some r
 |[],s,h,K,e,_=>⟨s,h,bJ.refl _ _,e⟩
 |o::os,s,h,K,e,bL=>by
  obtain⟨v,h1,g1,g2⟩:=KG e
  have a1:=(DG hC g1).floor (pN (o:=o) bL)
  obtain⟨s',h',a2,g3⟩:=PF hC g2 (Nat.le_trans bL a1.1)
  exact⟨s',h',a1.trans a2 (Nat.le_refl _),g3⟩
def gN(P:Program)(ops:Array Oper):List Oper→List bD→Bool
 |[],[]=>true
 |o::os,x::xs=>okA P ops o x&&gN P ops os xs
 |_,_=>false
theorem Tj{R:Type}{r:R}(hC:fx P C){hend:Nat}{Q:Exit→Act→World→Prop}{K:List Value→AH→Option R}(hK:∀s h,K s h=some r→h.next≤hend):
 ∀(rest:List Oper) (al:List bD) (i:Nat),ops.toList.drop i=rest→gN P ops rest al=true→
 ∀(s:List Value) (h:AH) (a:Act) (w:World) (μ:Mu),pz C fl al s h K=some r→Ctx fl base aq μ h w s a→gL μ h.next hend→
 (∀s' h' a' w' μ',K s' h'=some r→bY fl base aq μ h w μ' h' w'→bq μ' (c8 w') s' a'.tmps.toList→a'.defers=a.defers→Q .normal a' w')→
 wpOps P ops Q (List.range' i rest.length) a w
 |[],[],i,_,_,s,h,a,w,μ,e,c,hf,hQ=>by
  simp only[List.length_nil,List.range'_zero,wpOps]
  exact hQ s h a w μ e (bY.refl c.eV) c.t rfl
 |o::os,x::xs,i,hd,ok,s,h,a,w,μ,e,c,hf,hQ=>by
  simp only[gN,Bool.and_eq_true] at ok
  obtain⟨v,h1,g1,g2⟩:=KG e
  have hi:ops[i]?=some o:=by
   have:(ops.toList.drop i)[0]?=some o:=by rw[hd];rfl
   rw[List.getElem?_drop] at this
   simpa using this
  have a1:=DG hC.toCAbs g1
  have ayp:fl≤h1.next:=Nat.le_trans c.bL a1.1
  obtain⟨s2,h2,a2,g3⟩:=PF hC.toCAbs g2 ayp
  have ax2:h1.next≤hend:=Nat.le_trans a2.1 (hK _ _ g3)
  have hf1:gL μ h.next h1.next:=hf.sub (Nat.le_refl _) ax2
  rw[List.length_cons,List.range'_succ,wpOps_cons]
  have c':Ctx (gM x fl h) base aq μ h w s a:=⟨c.eV,Nat.le_trans c.hb (pN c.bL),PE c.bL,c.hr,c.t⟩
  refine Ah hC hi ok.1 c' g1 hf1 fun v' μ' w' hp hv=>?_
  have hp':=hp.floor (pN (o:=x) c.bL)
  have auU:o.dst=x.dst:=by
   have:=ok.1
   unfold okA at this
   simp only[Bool.and_eq_true,decide_eq_true_eq] at this
   exact this.1.1
  refine Tj hC hK os xs (i+1) (by rw[←List.tail_drop,hd];rfl) ok.2 (mY s x.dst v) h1 (a.put o.dst v') w' μ' g2 ⟨hp'.eV,c.hb,ayp,Nat.le_trans c.hr hp'.hs,?_⟩ (hp'.fresh hf) ?_
  ·rw[←auU]
   exact ac8 (hp'.afV c.eV hf1 c.t) hv _
  ·intro s' h' a' w2 μ2 hk hp2 ht hd2
   have hh':=hK _ _ hk
   exact hQ s' h' a' w2 μ2 hk (hp'.trans hp2 (Nat.le_refl _)) ht (by rw[hd2,put_defers])
 |[],_::_,_,_,ok,_,_,_,_,_,_,_,_,_=>by simp[gN] at ok
 |_::_,[],_,_,ok,_,_,_,_,_,_,_,_,_=>by simp[gN] at ok
end
end Go.Abs
end
section
namespace Go.Abs
def my.reads:my→List Nat
 |.t i=>[i]
 |_=>[]
def HY:Option my→List Nat
 |some x=>x.reads
 |none=>[]
def DH:List (Nat×Nat×my)→List Nat
 |[]=>[]
 |p::ps=>p.2.2.reads++DH ps
def PG:List my→List Nat
 |[]=>[]
 |x::xs=>x.reads++PG xs
def HO.reads:HO→List Nat
 |.mv x|.box x|.load _ x|.cg x|.Fc _ x|.not x|.neg _ x|.conv _ _ x|.bR _ x|.Kp x _|.len x|.Kq _ _ x=>x.reads
 |.pick a b c=>a.reads++(b.reads++c.reads)
 |.alloc _=>[]
 |.build _ ps|.aO _ _ ps=>DH ps
 |.store _ x y|.bin _ _ x y|.sh _ _ _ x y|.cmp _ _ x y|.beq _ x y|.cH _ _ x y|.di _ x y|.append _ _ x y|.copy _ x y|.mm _ x y=>x.reads++y.reads
 |.vf _ a b=>PG a++PG b
 |.slice _ x a b c=>x.reads++(HY a++(HY b++HY c))
 |.call f args _=>f.reads++PG args
def bD.reads(o:bD):List Nat:=o.op.reads++(match o.guard with|some (g,_)=>[g]|none=>[])
def HO.pure:HO→Bool
 |.mv _|.pick .. |.build .. |.cg _|.bin .. |.sh .. |.cmp .. |.beq .. |.Fc .. |.not _|.neg .. |.conv .. |.vf .. |.slice .. |.bR .. |.di .. |.Kp .. |.len _|.mm .. |.Kq ..=>true
 |_=>false
def ug(l:List Nat)(s s':List Value):Prop:=∀t∈l,s.getD t undef=s'.getD t undef
theorem ug.left{l l' s s'}(h:ug (l++l') s s'):ug l s s':=fun t ht=>h t (List.mem_append_left _ ht)
theorem ug.right{l l' s s'}(h:ug (l++l') s s'):ug l' s s':=fun t ht=>h t (List.mem_append_right _ ht)
theorem bh{x:my}{s s'}(h:ug x.reads s s'):ev s x=ev s' x:=by
 cases x with
 |t i=>exact h i (by simp[my.reads])
 |c v=>rfl
 |f id=>rfl
theorem DI:∀{xs:List my} {s s'},ug (PG xs) s s'→xs.map (ev s)=xs.map (ev s')
 |[],_,_,_=>rfl
 |x::xs,s,s',h=>by
  rw[List.map_cons,List.map_cons,bh h.left,DI (ug.right (l:=x.reads) h)]
theorem Cr:∀{ps:List (Nat×Nat×my)} {z:List Value} {s s'},ug (DH ps) s s'→pC s ps z=pC s' ps z
 |[],_,_,_,_=>rfl
 |(off,size,x)::ps,z,s,s',h=>by
  have h1:ev s x=ev s' x:=bh (ug.left (l':=DH ps) h)
  have h2:∀z,pC s ps z=pC s' ps z:=fun z=>Cr (ug.right (l:=x.reads) h)
  simp only[pC,h1,h2]
theorem Ai{R:Type}{o:Option my}{s s'}(h:ug (HY o) s s')(K:Option Int→Option R):fT s o K=fT s' o K:=by
 cases o with
 |none=>rfl
 |some x=>
  have:ev s x=ev s' x:=bh h
  simp only[fT,this]
theorem Tk{R:Type}{C:Callee}{fl:Nat}{s s':List Value}{h:AH}{o:HO}(ha:ug o.reads s s')(K:Value→AH→Option R):cQ C fl s h o K=cQ C fl s' h o K:=by
 cases o<;>simp only[HO.reads] at ha<;>simp only[cQ]
 case mv x=>rw[bh ha]
 case pick x y z=>rw[bh ha.left,bh ha.right.left,bh ha.right.right]
 case box x=>rw[bh ha]
 case build z ps=>rw[Cr ha]
 case aO z ps=>rw[Cr ha]
 case load x=>rw[bh ha]
 case store x y=>rw[bh ha.left,bh ha.right]
 case cg x=>rw[bh ha]
 case bin x y=>rw[bh ha.left,bh ha.right]
 case sh x y=>rw[bh ha.left,bh ha.right]
 case cmp x y=>rw[bh ha.left,bh ha.right]
 case beq x y=>rw[bh ha.left,bh ha.right]
 case Fc x=>rw[bh ha]
 case not x=>rw[bh ha]
 case neg x=>rw[bh ha]
 case conv x=>rw[bh ha]
 case vf f a b=>rw[DI ha.left,DI ha.right]
 case cH x y=>rw[bh ha.left,bh ha.right]
 case slice x a b c=>
  rw[bh ha.left]
  congr 1;funext v
  rw[Ai ha.right.left]
  congr 1;funext v
  rw[Ai ha.right.right.left]
  congr 1;funext v
  rw[Ai ha.right.right.right]
 case bR x=>rw[bh ha]
 case di x y=>rw[bh ha.left,bh ha.right]
 case Kp x i=>rw[bh ha]
 case call f args sh=>rw[bh ha.left,DI ha.right]
 case len x=>rw[bh ha]
 case append x y=>rw[bh ha.left,bh ha.right]
 case copy x y=>rw[bh ha.left,bh ha.right]
 case mm x y=>rw[bh ha.left,bh ha.right]
 case Kq x=>rw[bh ha]
theorem Tm{C:Callee}{fl:Nat}{s s':List Value}{h:AH}{o:bD}(ha:ug o.reads s s'):Ag C fl o s h=Ag C fl o s' h:=by
 unfold Ag
 unfold bD.reads at ha
 split
 ·rename_i hg;exact Tk ha.left _
 ·rename_i g want hg
  rw[hg] at ha
  rw[ha.right g (by simp)]
  congr 1;funext b
  split
  ·exact Tk ha.left _
  ·rfl
theorem ac9{C:Callee}{fl:Nat}{s:List Value}{h h1:AH}{o:HO}{v:Value}(hp:o.pure=true)(e:cQ C fl s h o K0=some (v,h1)):h1=h∧∀Pp h',cQ C Pp s h' o K0=some (v,h'):=by
 have key:∀{v'},K0 v' h=some (v,h1)→h1=h∧v'=v:=fun e=>by
  simp only[K0,Option.some.injEq,Prod.mk.injEq] at e;exact⟨e.2.symm,e.1⟩
 cases o<;>simp only[HO.pure,Bool.false_eq_true] at hp<;>simp only[cQ] at e
 case mv x=>obtain⟨h1,h2⟩:=key e;exact⟨h1,fun _ _=>by simp only[cQ,h2,K0]⟩
 case pick x y z=>
  obtain⟨t,ht,e⟩:=bX e
  split at e
  ·rename_i q;obtain⟨h1,h2⟩:=key e;exact⟨h1,fun _ _=>by simp only[cQ,ht,asBool,if_pos q,h2,K0]⟩
  ·rename_i q;obtain⟨h1,h2⟩:=key e;exact⟨h1,fun _ _=>by simp only[cQ,ht,asBool,if_neg q,h2,K0]⟩
 case build z ps=>
  split at e
  ·rename_i cs q;obtain⟨h1,h2⟩:=key e;exact⟨h1,fun _ _=>by simp only[cQ,q,h2,K0]⟩
  ·cases e
 case cg x=>obtain⟨t,ht,e⟩:=dL e;obtain⟨h1,h2⟩:=key e;exact⟨h1,fun _ _=>by simp only[cQ,ht,cT,K0];rw[h2]⟩
 case bin op k x y=>
  obtain⟨t,ht,e⟩:=aG e;obtain⟨u,hu,e⟩:=aG e
  split at e
  ·rename_i n q;obtain⟨h1,h2⟩:=key e;exact⟨h1,fun _ _=>by simp only[cQ,ht,hu,asInt,if_true,q,h2,K0]⟩
  ·cases e
 case sh l k yk x y=>
  obtain⟨t,ht,e⟩:=aG e;obtain⟨u,hu,e⟩:=aG e
  split at e
  ·rename_i n q;obtain⟨h1,h2⟩:=key e;exact⟨h1,fun _ _=>by simp only[cQ,ht,hu,asInt,if_true,q,h2,K0]⟩
  ·cases e
 case cmp op k x y=>
  obtain⟨t,ht,e⟩:=aG e;obtain⟨u,hu,e⟩:=aG e
  split at e
  ·rename_i n q;obtain⟨h1,h2⟩:=key e;exact⟨h1,fun _ _=>by simp only[cQ,ht,hu,asInt,if_true,q,h2,K0]⟩
  ·cases e
 case beq neg x y=>obtain⟨t,ht,e⟩:=bX e;obtain⟨u,hu,e⟩:=bX e;obtain⟨h1,h2⟩:=key e;exact⟨h1,fun _ _=>by simp only[cQ,ht,hu,asBool,h2,K0]⟩
 case Fc neg x=>obtain⟨t,ht,e⟩:=cA e;obtain⟨h1,h2⟩:=key e;exact⟨h1,fun _ _=>by simp only[cQ,ht,bB,h2,K0]⟩
 case not x=>obtain⟨t,ht,e⟩:=bX e;obtain⟨h1,h2⟩:=key e;exact⟨h1,fun _ _=>by simp only[cQ,ht,asBool,h2,K0]⟩
 case neg k x=>obtain⟨t,ht,e⟩:=aG e;obtain⟨h1,h2⟩:=key e;exact⟨h1,fun _ _=>by simp only[cQ,ht,asInt,if_true,h2,K0]⟩
 case conv k k' x=>obtain⟨t,ht,e⟩:=aG e;obtain⟨h1,h2⟩:=key e;exact⟨h1,fun _ _=>by simp only[cQ,ht,asInt,if_true,h2,K0]⟩
 case vf f x y=>obtain⟨h1,h2⟩:=key e;exact⟨h1,fun _ _=>by simp only[cQ,h2,K0]⟩
 case slice jZ x lo hi mx=>
  obtain⟨t,ht,e⟩:=cA e
  have step:∀(o:Option my) (F:Option Int→Option (Value×AH)),fT s o F=some (v,h1)→∃n,F n=some (v,h1)∧∀(G:Option Int→Option (Value×AH)),fT s o G=G n:=by
   intro o F hF
   cases o with
   |none=>exact⟨none,hF,fun _=>rfl⟩
   |some x=>
    simp only[fT] at hF
    split at hF
    ·rename_i k n hn
     exact⟨some n,hF,fun G=>by simp only[fT,hn]⟩
    ·cases hF
  obtain⟨a,e,ha⟩:=step _ _ e
  obtain⟨b,e,hb⟩:=step _ _ e
  obtain⟨c,e,hc⟩:=step _ _ e
  have hs':∀fl (h:AH),cQ C fl s h (.slice jZ x lo hi mx) K0=sub jZ t a b c fun v=>K0 (.slice v.a v.l v.c) h:=by
   intro fl h;simp only[cQ,ht,bB,ha,hb,hc]
  unfold sub at e
  split at e
  ·rename_i q1
   split at e
   ·rename_i q2;obtain⟨h1,h2⟩:=key e;exact⟨h1,fun Pp h'=>by rw[hs'];unfold sub;rw[if_pos q1,if_pos q2];simp only[K0,h2]⟩
   ·cases e
  ·rename_i q1
   split at e
   ·rename_i q2
    split at e
    ·rename_i q3;obtain⟨h1,h2⟩:=key e;exact⟨h1,fun Pp h'=>by rw[hs'];unfold sub;rw[if_neg q1,if_pos q2,if_pos q3];simp only[K0,h2]⟩
    ·cases e
   ·cases e
 case bR off x=>obtain⟨t,ht,e⟩:=dL e;obtain⟨h1,h2⟩:=key e;exact⟨h1,fun _ _=>by simp only[cQ,ht,cT,h2,K0]⟩
 case di jZ x i=>
  obtain⟨t,ht,e⟩:=cA e;obtain⟨u,hu,e⟩:=aG e
  unfold idx at e
  split at e
  ·rename_i p hp
   split at e
   ·rename_i q1
    split at e
    ·rename_i q2;obtain⟨h1,h2⟩:=key e;exact⟨h1,fun _ _=>by simp only[cQ,ht,hu,bB,asInt,if_true,idx,hp,if_pos q1,if_pos q2,h2,K0]⟩
    ·cases e
   ·cases e
  ·cases e
 case Kp x i=>
  obtain⟨t,ht,e⟩:=Ae e
  split at e
  ·rename_i n q;obtain⟨h1,h2⟩:=key e;exact⟨h1,fun _ _=>by simp only[cQ,ht,bj,q,h2,K0]⟩
  ·cases e
 case len x=>obtain⟨t,ht,e⟩:=cA e;obtain⟨h1,h2⟩:=key e;exact⟨h1,fun _ _=>by simp only[cQ,ht,bB,h2,K0]⟩
 case Kq k bs x=>
  obtain⟨t,ht,e⟩:=aG e
  split at e
  ·rename_i q0
   split at e
   ·rename_i n q;obtain⟨h1,h2⟩:=key e;exact⟨h1,fun _ _=>by simp only[cQ,ht,asInt,if_true,if_pos q0,q,h2,K0]⟩
   ·cases e
  ·cases e
 case mm m x y=>obtain⟨t,ht,e⟩:=aG e;obtain⟨u,hu,e⟩:=aG e;obtain⟨h1,h2⟩:=key e;exact⟨h1,fun _ _=>by simp only[cQ,ht,hu,asInt,if_true,h2,K0]⟩
theorem PH{C:Callee}{fl:Nat}{s:List Value}{h h1:AH}{o:bD}{v:Value}(hp:o.op.pure=true)(e:Ag C fl o s h=some (v,h1)):h1=h∧∀Pp h',Ag C Pp o s h'=some (v,h'):=by
 unfold Ag at e
 split at e
 ·rename_i hg
  obtain⟨h1,h2⟩:=ac9 hp e
  exact⟨h1,fun Pp h'=>by unfold Ag;simp only[hg];exact h2 _ _⟩
 ·rename_i g want hg
  rcases vu e with⟨b,hb,e⟩|⟨x,y,hb,e⟩
  case inr=>
   simp only[Option.some.injEq,Prod.mk.injEq] at e
   exact⟨e.2.symm,fun Pp h'=>by unfold Ag;simp only[hg,hb,XA,e.1]⟩
  split at e
  ·rename_i q
   obtain⟨h1,h2⟩:=ac9 hp e
   exact⟨h1,fun Pp h'=>by unfold Ag;simp only[hg,hb,XA,if_pos q];exact h2 _ _⟩
  ·rename_i q
   simp only[Option.some.injEq,Prod.mk.injEq] at e
   exact⟨e.2.symm,fun Pp h'=>by unfold Ag;simp only[hg,hb,XA,if_neg q,e.1]⟩
def Uf(o:Oper)(acc:List Nat):Nat:=o.after.toList.foldl (fun s e=>if Region.binds .any e=true then s|||2^e.on|||acc.getD e.on 0 else s) 0
def anV:List Oper→List Nat→List Nat
 |[],acc=>acc
 |o::os,acc=>anV os (acc++[Uf o acc])
def HZ:Nat→List Oper→Bool
 |_,[]=>true
 |i,o::os=>o.after.toList.all (fun e=>!Region.binds .any e||decide (e.on<i))&&HZ (i+1) os
def yv(x y:bD):Bool:=
 (match x.dst with|some d=>y.reads.contains d||decide (y.dst=some d)|none=>false)||
 (match y.dst with|some d=>x.reads.contains d|none=>false)||
 (!x.op.pure&&!y.op.pure&&(x.Ku||y.Ku))
def H0(x:bD)(i:Nat):List bD→List Nat→Bool
 |[],_=>true
 |_::_,[]=>false
 |y::ys,m::ms=>(!yv x y||m.testBit i)&&H0 x i ys ms
def H3:Nat→List bD→List Nat→Bool
 |_,[],_=>true
 |_,_::_,[]=>false
 |i,x::xs,_::ms=>H0 x i xs ms&&H3 (i+1) xs ms
def aby(ops:Array Oper)(al:List bD):Bool:=HZ 0 ops.toList&&H3 0 al (anV ops.toList [])
end Go.Abs
end
section
namespace Go.Abs
def DC(ops:Array Oper)(E:Nat→Prop):Prop:=∀k o,ops[k]?=some o→E k→∀e∈o.after.toList,Region.binds .any e=true→E e.on
theorem XJ{E:Nat→Prop}(acc:List Nat)(ha:∀j i,(acc.getD j 0).testBit i=true→E j→E i)(o:Oper)(ho:∀e∈o.after.toList,Region.binds .any e=true→E e.on):
 ∀i,(Uf o acc).testBit i=true→E i:=by
 unfold Uf
 have key:∀(l:List Edge) (s:Nat),(∀e∈l,Region.binds .any e=true→E e.on)→(∀i,s.testBit i=true→E i)→
  ∀i,(l.foldl (fun s e=>if Region.binds .any e=true then s|||2^e.on|||acc.getD e.on 0 else s) s).testBit i=true→E i:=by
  intro l
  induction l with
  |nil=>intro s _ hs i hi;exact hs i hi
  |cons e l ih=>
   intro s hl hs i hi
   rw[List.foldl_cons] at hi
   refine ih _ (fun e' Kw=>hl e' (List.mem_cons_of_mem _ Kw)) ?_ i hi
   intro i hi
   split at hi
   ·rename_i hb
    have he:=hl e List.mem_cons_self hb
    simp only[Nat.testBit_or,Bool.or_eq_true] at hi
    rcases hi with(hi|hi)|hi
    ·exact hs i hi
    ·rw[Nat.testBit_two_pow] at hi
     have:e.on=i:=by simpa using hi
     rw[←this];exact he
    ·exact ha _ _ hi he
   ·exact hs i hi
 exact key _ 0 ho (fun i hi=>by simp at hi)
theorem KI{E:Nat→Prop}:∀(os:List Oper) (acc:List Nat),(∀j i,(acc.getD j 0).testBit i=true→E j→E i)→
 (∀j o,os[j]?=some o→E (acc.length+j)→∀e∈o.after.toList,Region.binds .any e=true→E e.on)→∀j i,((anV os acc).getD j 0).testBit i=true→E j→E i
 |[],acc,ha,_,j,i,hb,hj=>ha j i hb hj
 |o::os,acc,ha,ho,j,i,hb,hj=>by
  refine KI os (acc++[Uf o acc]) ?_ ?_ j i hb hj
  ·intro j i hb hj
   rcases Nat.lt_trichotomy j acc.length with hl|hl|hl
   ·rw[List.getD_eq_getElem?_getD,List.getElem?_append_left hl,←List.getD_eq_getElem?_getD] at hb
    exact ha j i hb hj
   ·subst hl
    rw[List.getD_eq_getElem?_getD,List.getElem?_append_right (Nat.le_refl _),Nat.sub_self] at hb
    exact XJ acc ha o (ho 0 o rfl hj) i (by simpa using hb)
   ·rw[List.getD_eq_getElem?_getD,List.getElem?_eq_none (by simp;omega)] at hb
    simp at hb
  ·intro j o' ho' hj
   refine ho (j+1) o' (by simpa using ho') ?_
   simpa [Nat.add_assoc,Nat.add_comm 1 j] using hj
theorem H4{x:bD}{i:Nat}:∀{ys:List bD} {ms:List Nat},H0 x i ys ms=true→∀(j:Nat) y,ys[j]?=some y→yv x y=true→(ms.getD j 0).testBit i=true
 |[],_,_,j,y,hy,_=>by simp at hy
 |_::_,[],h,_,_,_,_=>by simp[H0] at h
 |y0::ys,m::ms,h,j,y,hy,hm=>by
  simp only[H0,Bool.and_eq_true,Bool.or_eq_true,Bool.not_eq_true'] at h
  cases j with
  |zero=>
   simp at hy;subst hy
   rcases h.1 with h1|h1
   ·rw[hm] at h1;cases h1
   ·exact h1
  |succ j=>exact H4 h.2 j y (by simpa using hy) hm
theorem H5:∀{xs:List bD} {ms:List Nat} {i0:Nat},H3 i0 xs ms=true→∀(i j:Nat) x y,i<j→xs[i]?=some x→xs[j]?=some y→yv x y=true→(ms.getD j 0).testBit (i0+i)=true
 |[],_,_,_,i,j,x,y,_,hx,_,_=>by simp at hx
 |_::_,[],_,h,_,_,_,_,_,_,_,_=>by simp[H3] at h
 |x0::xs,m::ms,i0,h,i,j,x,y,Xv,hx,hy,hm=>by
  simp only[H3,Bool.and_eq_true] at h
  obtain⟨j,rfl⟩:∃k,j=k+1:=⟨j-1,by omega⟩
  cases i with
  |zero=>
   simp at hx;subst hx
   exact H4 h.1 j y (by simpa using hy) hm
  |succ i=>
   have:=H5 h.2 i j x y (by omega) (by simpa using hx) (by simpa using hy) hm
   rw[show i0+(i+1)=i0+1+i by omega]
   exact this
theorem Aj:∀{os:List Oper} {i0:Nat},HZ i0 os=true→∀(i:Nat) o,os[i]?=some o→∀e∈o.after.toList,Region.binds .any e=true→e.on<i0+i
 |[],_,_,i,o,ho=>by simp at ho
 |o0::os,i0,h,i,o,ho=>by
  simp only[HZ,Bool.and_eq_true,List.all_eq_true,Bool.or_eq_true,Bool.not_eq_true',decide_eq_true_eq] at h
  cases i with
  |zero=>
   simp at ho;subst ho
   intro e he hb
   rcases h.1 e he with h1|h1
   ·rw[hb] at h1;cases h1
   ·exact h1
  |succ i=>
   intro e he hb
   have:=Aj h.2 i o (by simpa using ho) e he hb
   omega
theorem Ug{R:Type}{r:R}{C:Callee}{fl:Nat}:∀{al:List bD} {s:List Value} {h:AH} {K:List Value→AH→Option R},pz C fl al s h K=some r→
 ∃(S:Nat→List Value) (H:Nat→AH) (V:Nat→Value),S 0=s∧H 0=h∧(∀(i:Nat) x,al[i]?=some x→Ag C fl x (S i) (H i)=some (V i,H (i+1))∧S (i+1)=mY (S i) x.dst (V i))∧K (S al.length) (H al.length)=some r
 |[],s,h,K,e=>⟨fun _=>s,fun _=>h,fun _=>undef,rfl,rfl,fun i x hx=>by simp at hx,e⟩
 |o::os,s,h,K,e=>by
  obtain⟨v,h1,g1,g2⟩:=KG e
  obtain⟨S,H,V,s0,h0,hs,hk⟩:=Ug g2
  refine⟨fun i=>match i with|0=>s|i+1=>S i,fun i=>match i with|0=>h|i+1=>H i,fun i=>match i with|0=>v|i+1=>V i,rfl,rfl,?_,hk⟩
  intro i x hx
  cases i with
  |zero=>
   simp at hx;subst hx
   exact⟨by simp only[h0];exact g1,s0⟩
  |succ i=>exact hs i x (by simpa using hx)
def WF(h:AH):Prop:=∀b cs,h.iq b=some cs→b<h.next
theorem WF.step{fl h h1}(hw:WF h)(p:bJ fl h h1):WF h1:=by
 intro b cs hb
 rcases Nat.lt_or_ge b h1.next with h2|h2
 ·exact h2
 ·obtain⟨eE,h3⟩:=p.2.2 b cs (.inr h2) hb
  have:=hw b eE h3
  have:=p.1
  omega
section
variable{fl base aq:Nat}{μ μ' μ0:Mu}{h hj Aa hp:AH}{w w' w0:World}
theorem yo.anW(s:yo base aq μ hp w)(st:bJ hj.next hj hp)(wf:WF hj):yo base aq μ hj w:=by
 have hb:∀b cs,hj.iq b=some cs→hp.iq b=some cs:=fun b cs hb=>by
  have:=wf b cs hb
  rw[st.2.1 b this this];exact hb
 exact {cell:=fun b cs rb o h1=>s.cell b cs rb o (hb _ _ h1),own:=fun b cs rb o h0 h1=>s.own b cs rb o h0 (hb _ _ h1),inj:=fun b b' cs eE rb o o' h0 h1 h2=>s.inj b b' cs eE rb o o' h0 (hb _ _ h1) (hb _ _ h2),lt:=s.lt,Po:=wf}
theorem bY.Uh(s:yo base aq μ hj w)(st:bJ hj.next hj hp)(wf:WF hp)(hf:gL μ hj.next hp.next):bY fl base aq μ hj w μ hp w:=by
 have hlt:∀b cs x,hp.iq b=some cs→μ b=some x→b<hj.next∧hj.iq b=some cs:=fun b cs x hb hm=>by
  have h1:=wf b cs hb
  have h2:b<hj.next:=by
   rcases Nat.lt_or_ge b hj.next with h2|h2
   ·exact h2
   ·rw[hf b h2 h1] at hm;cases hm
  exact⟨h2,by rw[←st.2.1 b h2 h2];exact hb⟩
 refine {eV:={cell:=fun b cs rb o h1 hm=>s.cell b cs rb o (hlt b cs _ h1 hm).2 hm,own:=fun b cs rb o h0 h1 hm=>s.own b cs rb o h0 (hlt b cs _ h1 hm).2 hm,inj:=fun b b' cs eE rb o o' h0 h1 h2 m1 m2=>s.inj b b' cs eE rb o o' h0 (hlt _ _ _ h1 m1).2 (hlt _ _ _ h2 m2).2 m1 m2,lt:=s.lt,Po:=wf},mu:=fun _ _=>rfl,nx:=st.1,TU:=fun b hb _=>st.2.1 b hb hb,dead:=fun b cs hb hc=>st.2.2 b cs (.inl hb) hc,fr:=fun _ _ _=>rfl,sz:=fun _ _=>rfl,hs:=Nat.le_refl _,os:=rfl,tape:=rfl,output:=rfl,new:=?_}
 intro b cs rb o h1 _ hm hb
 exact absurd (hlt b cs _ hb hm).1 (by omega)
theorem bY.merge(p:bY fl base aq μ0 h w0 μ hp w)(q:bY hj.next base aq μ hj w μ' Aa w')(sj:yo base aq μ hj w)(fq:gL μ hj.next Aa.next)
 (st:bJ Aa.next Aa hp) (stj:bJ hj.next hj hp) (h0:h.next≤hj.next):bY fl base aq μ0 h w0 μ' hp w':=by
 have wf:WF hp:=p.eV.Po
 have hq:∀rb,rb<w.heap.size→w'.heap[rb]?=w.heap[rb]?:=fun rb EC=>q.fr rb EC fun b cs o h1 h2=>by omega
 have DD:∀b cs,b<Aa.next→hp.iq b=some cs→Aa.iq b=some cs:=fun b cs hb hc=>by rw[←st.2.1 b hb hb];exact hc
 have jq:∀b,Aa.next≤b→μ' b=μ b:=fun b hb=>q.mu b (by omega)
 have ax6:∀b cs rb o,hj.next≤b→b<Aa.next→μ' b=some (rb,o)→hp.iq b=some cs→w.heap.size≤rb:=fun b cs rb o h1 h2 hm hc=>by
  rcases q.new b cs rb o h1 h2 hm (DD b cs h2 hc) with h3|⟨b0,_,_,h4,h5,_⟩
  ·exact h3
  ·omega
 have hvm:∀{v v'},cC μ (c8 w) v v'→cC μ' (c8 w') v v':=fun hv=>q.aww sj fq hv
 refine {eV:={cell:=?_,own:=?_,inj:=?_,lt:=q.eV.lt,Po:=wf},mu:=?_,nx:=p.nx,TU:=p.TU,dead:=p.dead,fr:=?_,sz:=?_,hs:=Nat.le_trans p.hs q.hs,os:=q.os.trans p.os,tape:=q.tape.trans p.tape,output:=q.output.trans p.output,new:=?_}
 ·intro b cs rb o hb hm j v hv
  rcases Nat.lt_or_ge b Aa.next with hl|hl
  ·exact q.eV.cell b cs rb o (DD b cs hl hb) hm j v hv
  ·rw[jq b hl] at hm
   obtain⟨v',h1,h2⟩:=p.eV.cell b cs rb o hb hm j v hv
   exact⟨v',by rw[DE (hq rb (p.eV.lt b rb o hm))];exact h1,hvm h2⟩
 ·intro b cs rb o Xy hb hm
  rcases Nat.lt_or_ge b Aa.next with hl|hl
  ·exact q.eV.own b cs rb o Xy (DD b cs hl hb) hm
  ·rw[jq b hl] at hm
   rw[hq rb (p.eV.lt b rb o hm)]
   exact p.eV.own b cs rb o Xy hb hm
 ·have mixed:∀b b' cs eE rb o o',b<Aa.next→Aa.next≤b'→hp.iq b=some cs→hp.iq b'=some eE→μ' b=some (rb,o)→μ b'=some (rb,o')→b<hj.next∧μ b=some (rb,o):=by
   intro b b' cs eE rb o o' h1 h2 h3 h4 m1 m2
   rcases Nat.lt_or_ge b hj.next with hl|hl
   ·exact⟨hl,by rw[←q.mu b (by omega)];exact m1⟩
   ·have:=ax6 b cs rb o hl h1 m1 h3
    have:=p.eV.lt b' rb o' m2
    omega
  intro b b' cs eE rb o o' Xy h1 h2 m1 m2
  rcases Nat.lt_or_ge b Aa.next with hl|hl
  ·rcases Nat.lt_or_ge b' Aa.next with No|No
   ·exact q.eV.inj b b' cs eE rb o o' Xy (DD _ _ hl h1) (DD _ _ No h2) m1 m2
   ·rw[jq b' No] at m2
    obtain⟨_,m1'⟩:=mixed b b' cs eE rb o o' hl No h1 h2 m1 m2
    exact p.eV.inj b b' cs eE rb o o' Xy h1 h2 m1' m2
  ·rw[jq b hl] at m1
   rcases Nat.lt_or_ge b' Aa.next with No|No
   ·obtain⟨_,m2'⟩:=mixed b' b eE cs rb o' o No hl h2 h1 m2 m1
    exact p.eV.inj b b' cs eE rb o o' Xy h1 h2 m1 m2'
   ·rw[jq b' No] at m2
    exact p.eV.inj b b' cs eE rb o o' Xy h1 h2 m1 m2
 ·intro b hb
  have h1:=st.1
  have h2:=q.nx
  rw[q.mu b (by omega),p.mu b hb]
 ·intro rb EC hno
  rw[hq rb (Nat.lt_of_lt_of_le EC p.hs)]
  exact p.fr rb EC hno
 ·intro rb EC
  rw[q.sz rb (Nat.lt_of_lt_of_le EC p.hs),p.sz rb EC]
 ·intro b cs rb o h1 h2 hm hc
  by_cases hin:hj.next≤b∧b<Aa.next
  ·exact .inl (Nat.le_trans p.hs (ax6 b cs rb o hin.1 hin.2 hm hc))
  ·rw[q.mu b hin] at hm
   exact p.new b cs rb o h1 h2 hm hc
end
def PI(x:bD):Prop:=x.op.pure=false∧x.Ku=true
section
variable{P:Program}{C:Callee}{fl base aq:Nat}{ops:Array Oper}{al:List bD}{S:Nat→List Value}{H:Nat→AH}{V:Nat→Value}
theorem H6(al:List bD):∀d j,j+d=al.length→∃p,j≤p∧p≤al.length∧(∀x,al[p]?=some x→PI x)∧(∀(i:Nat) x,j≤i→i<p→al[i]?=some x→¬PI x)
 |0,j,hj=>⟨j,Nat.le_refl _,by omega,fun x hx=>(by rw[List.getElem?_eq_none (by omega)] at hx;cases hx),fun i x h1 h2=>by omega⟩
 |d+1,j,hj=>by
  by_cases hx:∃x,al[j]?=some x∧PI x
  ·obtain⟨x,h1,h2⟩:=hx
   exact⟨j,Nat.le_refl _,by omega,fun y hy=>(by rw[h1] at hy;injection hy with hy;subst hy;exact h2),fun i x h1 h2=>by omega⟩
  ·obtain⟨p,h1,h2,h3,h4⟩:=H6 al d (j+1) (by omega)
   refine⟨p,by omega,h2,h3,fun i x hi1 hi2 hix Cd=>?_⟩
   by_cases Xv:i=j
   ·subst Xv;exact hx ⟨x,hix,Cd⟩
   ·exact h4 i x (by omega) hi2 hix Cd
end
end Go.Abs
end
section
namespace Go.Abs
def DJ(x y:bD):Bool:=
 (match x.dst with|some d=>y.reads.contains d||decide (y.dst=some d)|none=>false)||
 (match y.dst with|some d=>x.reads.contains d|none=>false)
def ada(cm:Nat→Prop)(i j:Nat)(x y:bD):Prop:=DJ x y=true∨(¬cm i∧¬cm j∧(x.Ku=true∨y.Ku=true))
structure DR(P:Program)(C:Callee)(fl base aq:Nat)(ops:Array Oper)(al:List bD)(S:Nat→List Value)(H:Nat→AH)(V:Nat→Value)(cm:Nat→Prop):Prop where
 hC:fx P C
 len:al.length=ops.size
 ok:∀(i:Nat) o x,ops[i]?=some o→al[i]?=some x→okA P ops o x=true
 auO:∀(i:Nat) o,ops[i]?=some o→∀e∈o.after.toList,Region.binds .any e=true→e.on<i
 ord:∀E,DC ops E→∀(i j:Nat) x y,i<j→al[i]?=some x→al[j]?=some y→ada cm i j x y→E j→E i
 run:∀(i:Nat) x,al[i]?=some x→Ag C fl x (S i) (H i)=some (V i,H (i+1))∧S (i+1)=mY (S i) x.dst (V i)
 fl0:fl≤(H 0).next
 wf0:WF (H 0)
 hb:base≤fl
 calm:∀(j:Nat) x,al[j]?=some x→cm j→H (j+1)=H j∧∀p,p≤al.length→∀f,Ag C f x (S j) (H p)=some (V j,H p)
 amM:∀(j:Nat) x,al[j]?=some x→x.op.pure=true→cm j
 acM:∀(j:Nat) x,al[j]?=some x→PI x→¬cm j
namespace DR
variable{P:Program}{C:Callee}{fl base aq:Nat}{ops:Array Oper}{al:List bD}{S:Nat→List Value}{H:Nat→AH}{V:Nat→Value}{cm:Nat→Prop}
theorem steps(d:DR P C fl base aq ops al S H V cm):∀i,i≤al.length→bJ fl (H 0) (H i)
 |0,_=>bJ.refl _ _
 |i+1,hi=>by
  have ih:=d.steps i (by omega)
  obtain⟨x,hx⟩:∃x,al[i]?=some x:=⟨al[i],List.getElem?_eq_getElem (by omega)⟩
  have bL:fl≤(H i).next:=Nat.le_trans d.fl0 ih.1
  exact ih.trans ((DG d.hC.toCAbs (d.run i x hx).1).floor (pN bL)) (Nat.le_refl _)
theorem flH(d:DR P C fl base aq ops al S H V cm){i}(hi:i≤al.length):fl≤(H i).next:=Nat.le_trans d.fl0 (d.steps i hi).1
theorem adb(d:DR P C fl base aq ops al S H V cm){i x}(hx:al[i]?=some x):bJ (gM x fl (H i)) (H i) (H (i+1)):=DG d.hC.toCAbs (d.run i x hx).1
theorem lt(d:DR P C fl base aq ops al S H V cm){i:Nat}{x}(hx:al[i]?=some x):i<al.length:=(List.getElem?_eq_some_iff.1 hx).1
theorem mono(d:DR P C fl base aq ops al S H V cm):∀{j i},i≤j→j≤al.length→(H i).next≤(H j).next
 |0,i,h1,_=>by have:i=0:=by omega
               subst this;exact Nat.le_refl _
 |j+1,i,h1,h2=>by
  by_cases h:i=j+1
  ·subst h;exact Nat.le_refl _
  ·obtain⟨x,hx⟩:∃x,al[j]?=some x:=⟨al[j],List.getElem?_eq_getElem (by omega)⟩
   exact Nat.le_trans (d.mono (by omega) (by omega)) (d.adb hx).1
theorem wf(d:DR P C fl base aq ops al S H V cm):∀{i},i≤al.length→WF (H i)
 |0,_=>d.wf0
 |i+1,hi=>by
  obtain⟨x,hx⟩:∃x,al[i]?=some x:=⟨al[i],List.getElem?_eq_getElem (by omega)⟩
  exact(d.wf (i:=i) (by omega)).step (d.adb hx)
theorem awG(d:DR P C fl base aq ops al S H V cm){i x}(hx:al[i]?=some x)(hp:x.op.pure=true):H (i+1)=H i:=(PH hp (d.run i x hx).1).1
theorem quiet(d:DR P C fl base aq ops al S H V cm):∀{j i},i≤j→j≤al.length→(∀(k:Nat) x,i≤k→k<j→al[k]?=some x→¬PI x)→bJ (H i).next (H i) (H j)
 |0,i,h1,_,_=>by have:i=0:=by omega
                 subst this;exact bJ.refl _ _
 |j+1,i,h1,h2,hq=>by
  by_cases h:i=j+1
  ·subst h;exact bJ.refl _ _
  ·obtain⟨x,hx⟩:∃x,al[j]?=some x:=⟨al[j],List.getElem?_eq_getElem (by omega)⟩
   have ih:=d.quiet (j:=j) (i:=i) (by omega) (by omega) (fun k y a b=>hq k y a (by omega))
   have hm:=d.mono (i:=i) (j:=j) (by omega) (by omega)
   by_cases hp:x.op.pure=true
   ·rw[d.awG hx hp];exact ih
   ·have Cd:x.Ku=false:=by
     have:=hq j x (by omega) (by omega) hx
     unfold PI at this
     cases hxi:x.Ku with
     |true=>exact absurd ⟨by simpa using hp,hxi⟩ this
     |false=>rfl
    have:=d.adb hx
    unfold gM at this
    rw[Cd] at this
    exact ih.trans this hm
theorem PJ(d:DR P C fl base aq ops al S H V cm){μ:Mu}:∀{j i},i≤j→j≤al.length→(∀k,i≤k→k<j→gL μ (H k).next (H (k+1)).next)→gL μ (H i).next (H j).next
 |0,i,h1,_,_=>by
  have:i=0:=by omega
  subst this
  intro b Cf mg;omega
 |j+1,i,h1,h2,hq=>by
  by_cases h:i=j+1
  ·subst h;intro b Cf mg;omega
  ·have ih:=d.PJ (j:=j) (i:=i) (by omega) (by omega) (fun k a b=>hq k a (by omega))
   intro b Cf mg
   rcases Nat.lt_or_ge b (H j).next with hl|hl
   ·exact ih b Cf hl
   ·exact hq j (by omega) (by omega) b hl mg
end DR
structure H7{P:Program}{C:Callee}{fl base aq:Nat}{ops:Array Oper}{al:List bD}{S:Nat→List Value}{H:Nat→AH}{V:Nat→Value}{cm:Nat→Prop}(_d:DR P C fl base aq ops al S H V cm)
 (μ0:Mu) (w0:World) (a0:Act) (hend:Nat) (L:Array Bool) (a:Act) (w:World) (μ:Mu) (sE:List Value) (p:Nat):Prop where
 size:L.size=ops.size
 dc:DC ops fun i=>L.getD i false=true
 dfr:a.defers=a0.defers
 t:bq μ (c8 w) sE a.tmps.toList
 cut:∀t,∃m,m≤al.length∧(∀(i:Nat) x,al[i]?=some x→x.dst=some t→L.getD i false=true→i<m)∧(∀(i:Nat) x,al[i]?=some x→x.dst=some t→¬L.getD i false=true→m≤i)∧sE[t]?=(S m)[t]?
 ple:p≤al.length
 pat:∀x,al[p]?=some x→PI x∧¬L.getD p false=true
 plt:∀(i:Nat) x,i<p→al[i]?=some x→PI x→L.getD i false=true
 post:bY fl base aq μ0 (H 0) w0 μ (H p) w
 fresh:∀i,i<al.length→¬L.getD i false=true→gL μ (H i).next (H (i+1)).next
 Ub:gL μ (H al.length).next hend
 hr:aq≤w.heap.size
section
variable{P:Program}{C:Callee}{fl base aq:Nat}{ops:Array Oper}{al:List bD}{S:Nat→List Value}{H:Nat→AH}{V:Nat→Value}{cm:Nat→Prop}{d:DR P C fl base aq ops al S H V cm}
variable{μ0:Mu}{w0:World}{a0:Act}{hend:Nat}{L:Array Bool}{a:Act}{w:World}{μ:Mu}{sE:List Value}{p:Nat}
theorem at8(L:Array Bool)(j i:Nat)(hj:j<L.size):((L.setIfInBounds j true).getD i false=true)↔(i=j∨L.getD i false=true):=by
 simp only[Array.getD_eq_getD_getElem?,Array.getElem?_setIfInBounds]
 by_cases e:j=i
 ·subst e;simp[hj]
 ·simp[e,Ne.symm e]
theorem H8(d:DR P C fl base aq ops al S H V cm)(t:Nat):∀{n m},m≤n→n≤al.length→(∀(i:Nat) x,m≤i→i<n→al[i]?=some x→x.dst≠some t)→(S m)[t]?=(S n)[t]?
 |0,m,h1,_,_=>by have:m=0:=by omega
                 subst this;rfl
 |n+1,m,h1,h2,hq=>by
  by_cases h:m=n+1
  ·subst h;rfl
  ·obtain⟨x,hx⟩:∃x,al[n]?=some x:=⟨al[n],List.getElem?_eq_getElem (by omega)⟩
   rw[H8 d t (n:=n) (m:=m) (by omega) (by omega) (fun i y a b=>hq i y a (by omega)),(d.run n x hx).2]
   have iH:=hq n x (by omega) (by omega) hx
   cases hd:x.dst with
   |none=>rfl
   |some q=>
    have:q≠t:=fun e=>iH (by rw[hd,e])
    simp only[mY]
    rw[List.getElem?_set_ne this]
theorem Ak{cm:Nat→Prop}{i j:Nat}{x y:bD}{t}(hx:x.dst=some t)(hy:t∈y.reads∨y.dst=some t):ada cm i j x y:=by
 left
 unfold DJ
 rw[hx]
 rcases hy with hy|hy
 ·simp[hy]
 ·simp[hy]
theorem Ui{cm:Nat→Prop}{i j:Nat}{x y:bD}{t}(hy:y.dst=some t)(hx:t∈x.reads):ada cm i j x y:=by
 left
 unfold DJ
 rw[hy]
 simp[hx]
theorem rO{cm:Nat→Prop}{i j:Nat}{x y:bD}(hx:¬cm i)(hy:¬cm j)(h:x.Ku=true∨y.Ku=true):ada cm i j x y:=.inr ⟨hx,hy,h⟩
theorem H7.asW(v:H7 d μ0 w0 a0 hend L a w μ sE p){j:Nat}{x:bD}(hx:al[j]?=some x)(hj:¬L.getD j false=true)
 (hdc:DC ops fun i=>i=j∨L.getD i false=true):ug x.reads sE (S j):=by
 intro t ht
 obtain⟨m,hm1,hm2,hm3,hm4⟩:=v.cut t
 have Oz:=d.lt hx
 have w1:∀(i:Nat) y,i<j→al[i]?=some y→y.dst=some t→L.getD i false=true:=fun i y hi hy hd=>by
  have:=d.ord _ hdc i j y x hi hy hx (Ak hd (.inl ht)) (.inl rfl)
  rcases this with h|h
  ·omega
  ·exact h
 have w2:∀(i:Nat) y,j<i→al[i]?=some y→y.dst=some t→¬L.getD i false=true:=fun i y hi hy hd hL=>
  hj (d.ord _ v.dc j i x y hi hx hy (Ui hd ht) hL)
 have hs:(S m)[t]?=(S j)[t]?:=by
  rcases Nat.le_total m j with h|h
  ·refine H8 d t h (by omega) fun i y h1 h2 hy hd=>?_
   have:=hm2 i y hy hd (w1 i y h2 hy hd);omega
  ·refine(H8 d t h hm1 fun i y h1 h2 hy hd=>?_).symm
   by_cases e:i=j
   ·subst e
    by_cases hL:L.getD i false=true
    ·exact hj hL
    ·have:=hm3 i y hy hd hL;omega
   ·have hnL:=w2 i y (by omega) hy hd
    have:=hm3 i y hy hd hnL;omega
 rw[List.getD_eq_getElem?_getD,List.getD_eq_getElem?_getD,hm4,hs]
theorem H7.aiL(v:H7 d μ0 w0 a0 hend L a w μ sE p):∀m,m≤al.length→(S m).length=(S 0).length
 |0,_=>rfl
 |m+1,hm=>by
  obtain⟨x,hx⟩:∃x,al[m]?=some x:=⟨al[m],List.getElem?_eq_getElem (by omega)⟩
  rw[(d.run m x hx).2,←H7.aiL v m (by omega)]
  cases x.dst<;>simp[mY]
theorem H7.azd(v:H7 d μ0 w0 a0 hend L a w μ sE p){j:Nat}{x:bD}(hx:al[j]?=some x)(hj:¬L.getD j false=true)(hlen:sE.length=(S 0).length)
 (hdc:DC ops fun i=>i=j∨L.getD i false=true) (t:Nat):
 ∃m,m≤al.length∧(∀(i:Nat) y,al[i]?=some y→y.dst=some t→(i=j∨L.getD i false=true)→i<m)∧(∀(i:Nat) y,al[i]?=some y→y.dst=some t→¬(i=j∨L.getD i false=true)→m≤i)∧(mY sE x.dst (V j))[t]?=(S m)[t]?:=by
 have Oz:=d.lt hx
 by_cases hd:x.dst=some t
 ·refine⟨j+1,by omega,fun i y hy hyd hi=>?_,fun i y hy hyd hi=>?_,?_⟩
  ·rcases hi with rfl|hi
   ·omega
   ·rcases Nat.lt_or_ge j i with hlt|hge
    ·exact absurd (d.ord _ v.dc j i x y hlt hx hy (Ak hd (.inr hyd)) hi) hj
    ·omega
  ·rcases Nat.lt_or_ge i (j+1) with hlt|hge
   ·exfalso
    by_cases e:i=j
    ·exact hi (.inl e)
    ·exact hi (d.ord _ hdc i j y x (by omega) hy hx (Ak hyd (.inr hd)) (.inl rfl))
   ·exact hge
  ·rw[(d.run j x hx).2,hd]
   simp only[mY,List.getElem?_set]
   rw[hlen,v.aiL j (by omega)]
   simp
 ·obtain⟨m,hm1,hm2,hm3,hm4⟩:=v.cut t
  refine⟨m,hm1,fun i y hy hyd hi=>?_,fun i y hy hyd hi=>hm3 i y hy hyd fun h=>hi (.inr h),?_⟩
  ·rcases hi with rfl|hi
   ·rw[hx] at hy;injection hy with hy;subst hy;exact absurd hyd hd
   ·exact hm2 i y hy hyd hi
  ·cases hq:x.dst with
   |none=>exact hm4
   |some q=>
    have:q≠t:=fun e=>hd (by rw[hq,e])
    simp only[mY]
    rw[List.getElem?_set_ne this];exact hm4
end
end Go.Abs
end
section
namespace Go.Abs
section
variable{P:Program}{C:Callee}{fl base aq:Nat}{ops:Array Oper}{al:List bD}{S:Nat→List Value}{H:Nat→AH}{V:Nat→Value}{cm:Nat→Prop}{d:DR P C fl base aq ops al S H V cm}
variable{μ0:Mu}{w0:World}{a0:Act}{hend:Nat}{L:Array Bool}{a:Act}{w:World}{μ:Mu}{sE:List Value}{p:Nat}
theorem H7.step(v:H7 d μ0 w0 a0 hend L a w μ sE p)(hlen:sE.length=(S 0).length){j:Nat}{o:Oper}(ho:ops[j]?=some o)(hj:¬L.getD j false=true)
 (aw6:∀e∈o.after.toList,Region.binds .any e=true→L.getD e.on false=true) {Q:Exit→Act→World→Prop} {K:Act→World→Prop}
 (hK:∀a' w' μ' sE' p',H7 d μ0 w0 a0 hend (L.setIfInBounds j true) a' w' μ' sE' p'→sE'.length=(S 0).length→K a' w'):wpOp P ops Q j K a w:=by
 have hjo:j<ops.size:=(Array.getElem?_eq_some_iff.1 ho).1
 have Oz:j<al.length:=by rw[d.len];exact hjo
 obtain⟨x,hx⟩:∃x,al[j]?=some x:=⟨al[j],List.getElem?_eq_getElem Oz⟩
 have hok:=d.ok j o x ho hx
 have auU:o.dst=x.dst:=by
  unfold okA at hok
  simp only[Bool.and_eq_true,decide_eq_true_eq] at hok
  exact hok.1.1
 have hdc:DC ops fun i=>i=j∨L.getD i false=true:=by
  intro k o' ho' hk e he hb
  rcases hk with rfl|hk
  ·rw[ho] at ho';injection ho' with ho';subst ho'
   exact .inr (aw6 e he hb)
  ·exact .inr (v.dc k o' ho' hk e he hb)
 have nu:∀i,((L.setIfInBounds j true).getD i false=true)↔(i=j∨L.getD i false=true):=fun i=>at8 L j i (by rw[v.size];exact hjo)
 have hag:=v.asW hx hj hdc
 have lZ:=d.run j x hx
 have atI:=d.adb hx
 have finish:∀(v':Value) (μ':Mu) (w':World) (p':Nat),cC μ' (c8 w') (V j) v'→bq μ' (c8 w') sE a.tmps.toList→p'≤al.length→
  (∀y,al[p']?=some y→PI y∧¬(p'=j∨L.getD p' false=true))→(∀(i:Nat) y,i<p'→al[i]?=some y→PI y→(i=j∨L.getD i false=true))→
  bY fl base aq μ0 (H 0) w0 μ' (H p') w'→(∀i,i<al.length→i≠j→¬L.getD i false=true→gL μ' (H i).next (H (i+1)).next)→gL μ' (H al.length).next hend→aq≤w'.heap.size→
  K (a.put o.dst v') w':=by
  intro v' μ' w' p' hv ht aAT aAv aBO afP hfr hfe hr
  refine hK _ _ μ' (mY sE x.dst (V j)) p' {size:=by simp[v.size],dc:=?_,dfr:=?_,t:=?_,cut:=?_,ple:=aAT,pat:=?_,plt:=?_,post:=afP,fresh:=?_,Ub:=hfe,hr:=hr} ?_
  ·intro k o' ho' hk e he hb
   rw[nu] at hk ⊢
   exact hdc k o' ho' hk e he hb
  ·rw[put_defers];exact v.dfr
  ·rw[auU];exact ac8 ht hv _
  ·intro t
   obtain⟨m,h1,h2,h3,h4⟩:=v.azd hx hj hlen hdc t
   exact⟨m,h1,fun i y hy hyd hi=>h2 i y hy hyd ((nu i).1 hi),fun i y hy hyd hi=>h3 i y hy hyd fun h=>hi ((nu i).2 h),h4⟩
  ·intro y hy
   obtain⟨h1,h2⟩:=aAv y hy
   exact⟨h1,fun h=>h2 ((nu p').1 h)⟩
  ·intro i y hi hy Cd
   exact(nu i).2 (aBO i y hi hy Cd)
  ·intro i hi hn
   have hn':¬(i=j∨L.getD i false=true):=fun h=>hn ((nu i).2 h)
   exact hfr i hi (fun h=>hn' (.inl h)) (fun h=>hn' (.inr h))
  ·cases x.dst<;>simp[mY,hlen]
 by_cases aa9:cm j
 ·
   have hHp:=(d.calm j x hx aa9).1
   have hV:Ag C fl x sE (H p)=some (V j,H p):=by
    rw[Tm hag];exact(d.calm j x hx aa9).2 p v.ple fl
   have avk:=d.flH v.ple
   have c:Ctx (gM x fl (H p)) base aq μ (H p) w sE a:=⟨v.post.eV,Nat.le_trans d.hb (pN avk),PE avk,v.hr,v.t⟩
   refine Ah d.hC ho hok c hV (fun b h1 h2=>by omega) fun v' μ' w' hp hv=>?_
   have jq:μ'=μ:=funext fun b=>hp.mu b (by omega)
   subst jq
   have hp':=hp.floor (pN (o:=x) avk)
   refine finish v' μ' w' p hv (hp.afV v.post.eV (fun b h1 h2=>by omega) v.t) v.ple ?_ ?_ (v.post.trans hp' (Nat.le_refl _)) ?_ v.Ub (Nat.le_trans v.hr hp.hs)
   ·intro y hy
    obtain⟨h1,h2⟩:=v.pat y hy
    refine⟨h1,fun h=>?_⟩
    rcases h with h|h
    ·subst h;exact d.acM _ y hy h1 aa9
    ·exact h2 h
   ·intro i y hi hy Cd;exact .inr (v.plt i y hi hy Cd)
   ·intro i hi _ hn;exact v.fresh i hi hn
 ·have hpf:¬cm j:=aa9
  have aBA:x.op.pure=false:=by cases hxp:x.op.pure with|false=>rfl|true=>exact absurd (d.amM j x hx hxp) aa9
  have hV:Ag C fl x sE (H j)=some (V j,H (j+1)):=by rw[Tm hag];exact lZ.1
  have hfj:gL μ (H j).next (H (j+1)).next:=v.fresh j Oz hj
  by_cases Cd:x.Ku=true
  ·
    have hpj:p=j:=by
     rcases Nat.lt_trichotomy p j with h|h|h
     ·obtain⟨y,hy⟩:∃y,al[p]?=some y:=⟨al[p],List.getElem?_eq_getElem (by omega)⟩
      obtain⟨h1,h2⟩:=v.pat y hy
      have:=d.ord _ hdc p j y x h hy hx (rO (d.acM _ y hy h1) hpf (.inr Cd)) (.inl rfl)
      rcases this with h3|h3
      ·omega
      ·exact absurd h3 h2
     ·exact h
     ·exact absurd (v.plt j x h hx ⟨aBA,Cd⟩) hj
    subst hpj
    have RN:gM x fl (H p)=fl:=by unfold gM;rw[if_pos Cd]
    have c:Ctx (gM x fl (H p)) base aq μ (H p) w sE a:=by rw[RN];exact⟨v.post.eV,d.hb,d.flH v.ple,v.hr,v.t⟩
    refine Ah d.hC ho hok c hV hfj fun v' μ' w' hp hv=>?_
    rw[RN] at hp
    obtain⟨p',q1,q2,q3,q4⟩:=H6 al (al.length-(p+1)) (p+1) (by omega)
    have ath:∀(i:Nat) y,p<i→al[i]?=some y→¬cm i→¬L.getD i false=true:=fun i y hi hy hyp hL=>
     hj (d.ord _ v.dc p i x y hi hx hy (rO hpf hyp (.inl Cd)) hL)
    have hfi:∀i,i<al.length→i≠p→¬L.getD i false=true→gL μ' (H i).next (H (i+1)).next:=by
     intro i hi iH hn b Cf mg
     have aaU:¬((H p).next≤b∧b<(H (p+1)).next):=by
      rcases Nat.lt_or_ge i p with h|h
      ·have:=d.mono (i:=i+1) (j:=p) (by omega) (by omega);omega
      ·have:=d.mono (i:=p+1) (j:=i) (by omega) (by omega);omega
     rw[hp.mu b aaU];exact v.fresh i hi hn b Cf mg
    have aAH:gL μ' (H (p+1)).next (H p').next:=by
     refine d.PJ q1 q2 fun k k1 k2=>?_
     obtain⟨y,hy⟩:∃y,al[k]?=some y:=⟨al[k],List.getElem?_eq_getElem (by omega)⟩
     by_cases hyp:cm k
     ·rw[(d.calm k y hy hyp).1];intro b Cf mg;omega
     ·exact hfi k (by omega) (by omega) (ath k y (by omega) hy hyp)
    have hg:bY fl base aq μ' (H (p+1)) w' μ' (H p') w':=bY.Uh hp.eV (d.quiet q1 q2 fun k y k1 k2 hy=>q4 k y k1 k2 hy) (d.wf q2) aAH
    refine finish v' μ' w' p' hv (hp.afV v.post.eV hfj v.t) q2 ?_ ?_ (v.post.trans (hp.trans hg (Nat.le_refl _)) (Nat.le_refl _)) hfi ?_ (Nat.le_trans v.hr hp.hs)
    ·intro y hy
     refine⟨q3 y hy,fun h=>?_⟩
     rcases h with h|h
     ·omega
     ·exact ath p' y (by omega) hy (d.acM _ y hy (q3 y hy)) h
    ·intro i y hi hy hyi
     rcases Nat.lt_trichotomy i p with h|h|h
     ·exact .inr (v.plt i y h hy hyi)
     ·exact .inl h
     ·exact absurd hyi (q4 i y (by omega) hi hy)
    ·intro b Cf mg
     have:=d.mono (i:=p+1) (j:=al.length) (by omega) (by omega)
     rw[hp.mu b (by omega)];exact v.Ub b Cf mg
  ·
    have atj:x.Ku=false:=by simpa using Cd
    have hjp:j<p:=by
     rcases Nat.lt_trichotomy p j with h|h|h
     ·obtain⟨y,hy⟩:∃y,al[p]?=some y:=⟨al[p],List.getElem?_eq_getElem (by omega)⟩
      obtain⟨h1,h2⟩:=v.pat y hy
      have:=d.ord _ hdc p j y x h hy hx (rO (d.acM _ y hy h1) hpf (.inl h1.2)) (.inl rfl)
      rcases this with h3|h3
      ·omega
      ·exact absurd h3 h2
     ·subst h
      obtain⟨h1,_⟩:=v.pat x hx
      have h3:=h1.2;rw[atj] at h3;cases h3
     ·exact h
    have amR:∀(k:Nat) y,j≤k→k<p→al[k]?=some y→¬PI y:=by
     intro k y h1 h2 hy hyi
     have hL:=v.plt k y h2 hy hyi
     rcases Nat.lt_or_ge j k with h3|h3
     ·exact hj (d.ord _ v.dc j k x y h3 hx hy (rO hpf (d.acM _ y hy hyi) (.inr hyi.2)) hL)
     ·have:k=j:=by omega
      subst this;exact hj hL
    have stj:bJ (H j).next (H j) (H p):=d.quiet (by omega) v.ple amR
    have aBU:bJ (H (j+1)).next (H (j+1)) (H p):=d.quiet (by omega) v.ple fun k y h1 h2 hy=>amR k y (by omega) h2 hy
    have sj:yo base aq μ (H j) w:=v.post.eV.anW stj (d.wf (by omega))
    have RN:gM x fl (H j)=(H j).next:=by unfold gM;rw[atj];rfl
    have aAI:=d.flH (i:=j) (by omega)
    have c:Ctx (gM x fl (H j)) base aq μ (H j) w sE a:=by rw[RN];exact⟨sj,Nat.le_trans d.hb aAI,Nat.le_refl _,v.hr,v.t⟩
    refine Ah d.hC ho hok c hV hfj fun v' μ' w' hp hv=>?_
    rw[RN] at hp
    have hm:=bY.merge v.post hp sj hfj aBU stj (d.mono (Nat.zero_le _) (by omega))
    refine finish v' μ' w' p hv (hp.afV sj hfj v.t) v.ple ?_ ?_ hm ?_ ?_ (Nat.le_trans v.hr hp.hs)
    ·intro y hy
     obtain⟨h1,h2⟩:=v.pat y hy
     refine⟨h1,fun h=>?_⟩
     rcases h with h|h
     ·omega
     ·exact h2 h
    ·intro i y hi hy hyi;exact .inr (v.plt i y hi hy hyi)
    ·intro i hi iH hn b Cf mg
     have aaU:¬((H j).next≤b∧b<(H (j+1)).next):=by
      rcases Nat.lt_or_ge i j with h|h
      ·have:=d.mono (i:=i+1) (j:=j) (by omega) (by omega);omega
      ·have:=d.mono (i:=j+1) (j:=i) (by omega) (by omega);omega
     rw[hp.mu b aaU];exact v.fresh i hi hn b Cf mg
    ·intro b Cf mg
     have:=d.mono (i:=j+1) (j:=al.length) (by omega) (by omega)
     rw[hp.mu b (by omega)];exact v.Ub b Cf mg
def left(L:Array Bool):Nat:=L.toList.countP (fun b=>!b)
theorem aiM{L:Array Bool}{j:Nat}(hj:j<L.size)(h:¬L.getD j false=true):left (L.setIfInBounds j true)+1=left L:=by
 unfold left
 rw[Array.toList_setIfInBounds]
 have hl:j<L.toList.length:=by simpa using hj
 have hf:L.toList[j]=false:=by
  have:L.getD j false=false:=by simpa using h
  rw[Array.getD_eq_getD_getElem?,Array.getElem?_eq_getElem hj] at this
  simpa using this
 have h1:=List.countP_set (p:=fun b=>!b) (l:=L.toList) (a:=true) hl
 rw[hf] at h1
 have axm:0<L.toList.countP (fun b=>!b):=by
  rw[List.countP_pos_iff]
  exact⟨L.toList[j],List.getElem_mem hl,by rw[hf];rfl⟩
 simp only[Bool.not_false,Bool.not_true,if_true,Bool.false_eq_true,if_false,Nat.add_zero] at h1
 omega
theorem af0{L:Array Bool}(h:left L=0){i:Nat}(hi:i<L.size):L.getD i false=true:=by
 unfold left at h
 rw[List.countP_eq_zero] at h
 have hl:i<L.toList.length:=by simpa using hi
 have:=h L.toList[i] (List.getElem_mem hl)
 simp at this
 rw[Array.getD_eq_getD_getElem?,Array.getElem?_eq_getElem hi]
 simpa using this
theorem mem_ready{L:Array Bool}{i:Nat}(h:i∈Region.ready .any ops L):∃o,ops[i]?=some o∧(i<L.size→¬L.getD i false=true)∧∀e∈o.after.toList,Region.binds .any e=true→L.getD e.on false=true:=by
 unfold Region.ready at h
 rw[List.mem_filter] at h
 obtain⟨h1,h2⟩:=h
 simp only[List.mem_range] at h1
 simp only[Bool.and_eq_true,Bool.not_eq_true'] at h2
 have ho:ops[i]?=some ops[i]:=Array.getElem?_eq_getElem h1
 refine⟨ops[i],ho,fun hi=>?_,?_⟩
 ·have:=h2.1
  rw[Array.getD_eq_getD_getElem?,Array.getElem?_eq_getElem hi] at this ⊢
  simp at this ⊢;exact this
 ·have h3:=h2.2
  rw[ho] at h3
  simp only[Option.map_some,Option.getD_some,Array.all_eq_true_iff_forall_mem] at h3
  intro e he hb
  have:=h3 e (by simpa using he)
  simp only[Bool.or_eq_true,Bool.not_eq_true'] at this
  rcases this with h4|h4
  ·rw[hb] at h4;cases h4
  ·exact h4
theorem af1(d:DR P C fl base aq ops al S H V cm){L:Array Bool}(hs:L.size=ops.size)(h:Region.ready .any ops L=[]):∀i,i<ops.size→L.getD i false=true:=by
 intro i
 induction i using Nat.strongRecOn with
 |ind i ih=>
  intro hi
  have ho:ops[i]?=some ops[i]:=Array.getElem?_eq_getElem hi
  have hn:¬i∈Region.ready .any ops L:=by rw[h];simp
  unfold Region.ready at hn
  rw[List.mem_filter] at hn
  simp only[List.mem_range,hi,true_and,Bool.and_eq_true,Bool.not_eq_true',not_and] at hn
  by_cases hL:L.getD i true=false
  ·have h2:=hn hL
   rw[ho] at h2
   simp only[Option.map_some,Option.getD_some] at h2
   exfalso
   apply h2
   rw[Array.all_eq_true_iff_forall_mem]
   intro e he
   simp only[Bool.or_eq_true,Bool.not_eq_true']
   by_cases hb:Region.binds .any e=true
   ·right
    have:=d.auO i _ ho e (by simpa using he) hb
    exact ih e.on this (by omega)
   ·left;simpa using hb
  ·have:L.getD i true=true:=by simpa using hL
   rw[Array.getD_eq_getD_getElem?,Array.getElem?_eq_getElem (by omega)] at this ⊢
   simpa using this
theorem XK{Q:Exit→Act→World→Prop}(hQ:∀a' w' μ',bq μ' (c8 w') (S al.length) a'.tmps.toList→a'.defers=a0.defers→bY fl base aq μ0 (H 0) w0 μ' (H al.length) w'→Q .normal a' w'):
 ∀(fuel:Nat) (L:Array Bool) (a:Act) (w:World) (μ:Mu) (sE:List Value) (p:Nat),H7 d μ0 w0 a0 hend L a w μ sE p→sE.length=(S 0).length→left L≤fuel→wpAny P .any ops Q fuel L a w:=by
 have done:∀(L:Array Bool) (a:Act) (w:World) (μ:Mu) (sE:List Value) (p:Nat),H7 d μ0 w0 a0 hend L a w μ sE p→sE.length=(S 0).length→(∀i,i<ops.size→L.getD i false=true)→Q .normal a w:=by
  intro L a w μ sE p v hlen Xj
  have hp:p=al.length:=by
   rcases Nat.lt_or_ge p al.length with h|h
   ·obtain⟨y,hy⟩:∃y,al[p]?=some y:=⟨al[p],List.getElem?_eq_getElem h⟩
    exact absurd (Xj p (by rw[←d.len];exact h)) (v.pat y hy).2
   ·exact Nat.le_antisymm v.ple h
  have hse:sE=S al.length:=by
   apply List.ext_getElem?
   intro t
   obtain⟨m,h1,h2,h3,h4⟩:=v.cut t
   rw[h4]
   refine H8 d t h1 (Nat.le_refl _) fun i x hi1 hi2 hx hd=>?_
   have:=h2 i x hx hd (Xj i (by rw[←d.len];exact hi2))
   omega
  have ht:=v.t
  rw[hse] at ht
  have afP:=v.post
  rw[hp] at afP
  exact hQ a w μ ht v.dfr afP
 intro fuel
 induction fuel with
 |zero=>
  intro L a w μ sE p v hlen hle
  have Xj:∀i,i<ops.size→L.getD i false=true:=fun i hi=>af0 (by omega) (by rw[v.size];exact hi)
  refine⟨?_,done L a w μ sE p v hlen Xj⟩
  cases hr:Region.ready .any ops L with
  |nil=>rfl
  |cons i l=>
   obtain⟨o,ho,h1,_⟩:=mem_ready (ops:=ops) (L:=L) (i:=i) (by rw[hr];simp)
   have hi:i<ops.size:=(Array.getElem?_eq_some_iff.1 ho).1
   exact absurd (Xj i hi) (h1 (by rw[v.size];exact hi))
 |succ fuel ih=>
  intro L a w μ sE p v hlen hle
  refine⟨fun hr=>done L a w μ sE p v hlen (af1 d v.size hr),fun i hi=>?_⟩
  obtain⟨o,ho,h1,h2⟩:=mem_ready hi
  have his:i<ops.size:=(Array.getElem?_eq_some_iff.1 ho).1
  have hiL:i<L.size:=by rw[v.size];exact his
  refine v.step hlen ho (h1 hiL) h2 fun a' w' μ' sE' p' v' hlen'=>?_
  have:=aiM hiL (h1 hiL)
  exact ih _ a' w' μ' sE' p' v' hlen' (by omega)
end
end Go.Abs
end
section
namespace Go.Abs
def gF(P:Program):Code→ab→Bool
 |.skip,.skip=>true
 |.seq a b,.seq x y=>gF P a x&&gF P b y
 |.cond c a b,.cond c' x y=>cZ c c'&&(gF P a x&&gF P b y)
 |.block i a,.block j x=>i==j&&gF P a x
 |.loop a,.loop x=>gF P a x
 |.exit i,.exit j=>i==j
 |.exit i,.seq (.region [] _) (.exit j)=>i==j
 |.ret,.ret=>true
 |.ret,.seq (.region [] _) .ret=>true
 |.skip,.region [] _=>true
 |.region _ ops draw,.region al _=>al.all abx&&(gN P ops ops.toList (flat al)&&(!draw||aby ops (flat al)))
 |_,_=>false
def aiN:nZ→Exit
 |.normal=>.normal
 |.exit i=>.exit i
 |.ret=>.ret
section
variable{P:Program}{C:Callee}{fl base aq:Nat}
theorem Cs{ops:Array Oper}:∀{l:List Oper} {al:List bD},gN P ops l al=true→al.length=l.length
 |[],[],_=>rfl
 |o::os,x::xs,h=>by
  simp only[gN,Bool.and_eq_true] at h
  simp[Cs h.2]
 |[],_::_,h=>by simp[gN] at h
 |_::_,[],h=>by simp[gN] at h
theorem FJ{ops:Array Oper}:∀{l:List Oper} {al:List bD},gN P ops l al=true→∀(i:Nat) o x,l[i]?=some o→al[i]?=some x→okA P ops o x=true
 |[],[],_,i,o,x,h,_=>by simp at h
 |o::os,x::xs,h,i,o',x',ho,hx=>by
  simp only[gN,Bool.and_eq_true] at h
  cases i with
  |zero=>simp at ho hx;subst ho;subst hx;exact h.1
  |succ i=>exact FJ h.2 i o' x' (by simpa using ho) (by simpa using hx)
 |[],_::_,h,_,_,_,_,_=>by simp[gN] at h
 |_::_,[],h,_,_,_,_,_=>by simp[gN] at h
structure Good(fl base aq hend:Nat)(μ0:Mu)(h0:AH)(w0:World)(μ:Mu)(h:AH)(w:World)(s:List Value)(a:Act):Prop where
 post:bY fl base aq μ0 h0 w0 μ h w
 ctx:Ctx fl base aq μ h w s a
 dfr:a.defers=[]
 fresh:gL μ h.next hend
variable{hend:Nat}{μ0:Mu}{h0:AH}{w0:World}
theorem Good.next{R:Type}{r:R}{μ μ' h h' w w' s s'}{a a':Act}(g:Good fl base aq hend μ0 h0 w0 μ h w s a)(p:bY fl base aq μ h w μ' h' w')(t:bq μ' (c8 w') s' a'.tmps.toList)(hd:a'.defers=a.defers):Good fl base aq hend μ0 h0 w0 μ' h' w' s' a':=
 ⟨g.post.trans p (Nat.le_refl _),⟨p.eV,g.ctx.hb,Nat.le_trans g.ctx.bL p.nx,Nat.le_trans g.ctx.hr p.hs,t⟩,by rw[hd,g.dfr],p.fresh g.fresh⟩
theorem Ct{μ sz}:∀(ts:List Nat) {s l:List Value},bq μ sz s l→bq μ sz (Ch ts s) l
 |[],_,_,h=>h
 |t::ts,s,l,h=>by
  refine Ct ts ?_
  refine bq.abp (by simp[h.1]) fun i v hv=>?_
  rw[List.getElem?_set] at hv
  by_cases e:t=i
  ·simp only[e,if_true] at hv
   split at hv
   ·rename_i hlt
    injection hv with hv;subst hv
    exact⟨l[i]'(by have:=h.1;omega),List.getElem?_eq_getElem _,.ue _⟩
   ·cases hv
  ·simp only[e,if_false] at hv
   exact h.get hv
theorem XL{R:Type}{r:R}(hC:fx P C)(hm:P.follows .mixedOrders=true){id:Nat}{ops:Array Oper}{al:List bD}(ok1:gN P ops ops.toList al=true)(ok2:aby ops al=true)
 {K:List Value→AH→Option R} (hK:∀s h,K s h=some r→h.next≤hend) {s:List Value} {h:AH} {a:Act} {w:World} {μ:Mu} {Q:Exit→Act→World→Prop} (e:pz C fl al s h K=some r)
 (g:Good fl base aq hend μ0 h0 w0 μ h w s a) (hQ:∀s' h' a' w' μ',K s' h'=some r→Good fl base aq hend μ0 h0 w0 μ' h' w' s' a'→Q .normal a' w'):(Code.region id ops true).wp P Q a w:=by
 obtain⟨S,H,V,s0,e0,lZ,hk⟩:=Ug e
 unfold aby at ok2
 simp only[Bool.and_eq_true] at ok2
 have hl:=Cs ok1
 have hlen:al.length=ops.size:=by rw[hl];simp
 have d:DR P C fl base aq ops al S H V (fun i=>∃x,al[i]?=some x∧x.op.pure=true):={
  hC:=hC,len:=hlen
  ok:=fun i o x ho hx=>FJ ok1 i o x (by simpa using ho) hx
  auO:=fun i o ho e he hb=>by
   have:=Aj ok2.1 i o (by simpa using ho) e he hb
   omega
  ord:=fun E hE i j x y Xv hx hy hmo hEj=>by
   have azY:yv x y=true:=by
    have h0:yv x y=(DJ x y||(!x.op.pure&&!y.op.pure&&(x.Ku||y.Ku))):=rfl
    rw[h0]
    rcases hmo with hd|⟨h1,h2,h3⟩
    ·rw[hd];rfl
    ·have p1:x.op.pure=false:=by cases hxp:x.op.pure with|false=>rfl|true=>exact absurd ⟨x,hx,hxp⟩ h1
     have p2:y.op.pure=false:=by cases hyp:y.op.pure with|false=>rfl|true=>exact absurd ⟨y,hy,hyp⟩ h2
     rw[p1,p2]
     rcases h3 with h3|h3<;>simp[h3]
   have h1:=H5 ok2.2 i j x y Xv hx hy azY
   rw[Nat.zero_add] at h1
   refine KI (E:=E) ops.toList [] (fun j i hb=>by simp at hb) (fun j o ho hj=>?_) j i h1 hEj
   exact hE j o (by simpa using ho) (by simpa using hj)
  run:=lZ
  fl0:=by rw[e0];exact g.ctx.bL
  wf0:=by rw[e0];exact g.ctx.eV.Po
  hb:=g.ctx.hb
  calm:=fun j x hx hc=>by
   obtain⟨y,hy,hp⟩:=hc
   rw[hx] at hy;injection hy with hy;subst hy
   have:=PH hp (lZ j x hx).1
   exact⟨this.1,fun p _ f=>this.2 f (H p)⟩
  amM:=fun j x hx hp=>⟨x,hx,hp⟩
  acM:=fun j x hx hi hc=>by
   obtain⟨y,hy,hp⟩:=hc
   rw[hx] at hy;injection hy with hy;subst hy
   rw[hi.1] at hp;cases hp}
 refine wp_region_any hm ?_
 have p1:bY fl base aq μ h w μ h {w with drawn:=w.drawn+1}:=bY.heap g.ctx.eV rfl rfl rfl rfl
 obtain⟨p,q1,q2,q3,q4⟩:=H6 al al.length 0 (by omega)
 have hq:=d.quiet (i:=0) q1 q2 fun k y k1 k2 hy=>q4 k y k1 k2 hy
 have aaR:(H al.length).next≤hend:=hK _ _ hk
 have hfr:gL μ (H 0).next hend:=by rw[e0];exact g.fresh
 have amU:yo base aq μ (H 0) {w with drawn:=w.drawn+1}:=by rw[e0];exact p1.eV
 have hg:bY fl base aq μ (H 0) {w with drawn:=w.drawn+1} μ (H p) {w with drawn:=w.drawn+1}:=
  bY.Uh amU hq (d.wf q2) (hfr.sub (Nat.le_refl _) (Nat.le_trans (d.mono (i:=p) (j:=al.length) q2 (Nat.le_refl _)) aaR))
 have p1':bY fl base aq μ (H 0) w μ (H 0) {w with drawn:=w.drawn+1}:=by rw[e0];exact p1
 have hL:∀i,¬(Array.replicate ops.size false).getD i false=true:=by
  intro i
  rw[Array.getD_eq_getD_getElem?,Array.getElem?_replicate]
  split<;>simp
 have v:H7 d μ w a hend (Array.replicate ops.size false) a {w with drawn:=w.drawn+1} μ s p:={
  size:=by simp
  dc:=fun k o _ hk=>absurd hk (hL k)
  dfr:=rfl
  t:=p1.afV g.ctx.eV (fun b h1 h2=>by omega) g.ctx.t
  cut:=fun t=>⟨0,Nat.zero_le _,fun i x _ _ hi=>absurd hi (hL i),fun i x _ _ _=>Nat.zero_le _,by rw[s0]⟩
  ple:=q2
  pat:=fun x hx=>⟨q3 x hx,hL p⟩
  plt:=fun i x hi hx Cd=>absurd Cd (q4 i x (Nat.zero_le _) hi hx)
  post:=p1'.trans hg (Nat.le_refl _)
  fresh:=fun i hi _=>hfr.sub (d.mono (i:=0) (j:=i) (Nat.zero_le _) (by omega)) (Nat.le_trans (d.mono (i:=i+1) (j:=al.length) (by omega) (Nat.le_refl _)) aaR)
  Ub:=hfr.sub (d.mono (i:=0) (j:=al.length) (Nat.zero_le _) (Nat.le_refl _)) (Nat.le_refl _)
  hr:=g.ctx.hr}
 refine XK (d:=d) (μ0:=μ) (w0:=w) (a0:=a) (hend:=hend) (fun a' w' μ' ht hd hp=>?_) ops.size _ a _ μ s p v (by rw[s0]) ?_
 ·rw[e0] at hp
  exact hQ _ _ a' w' μ' hk (g.next (r:=r) hp ht hd)
 ·unfold left
  exact Nat.le_trans List.countP_le_length (by simp)
theorem bJ.any{fl:Nat}{h h1:AH}(a:bJ h.next h h1):bJ fl h h1:=⟨a.1,fun b hb _=>a.2.1 b hb hb,a.2.2⟩
theorem XM{C:Callee}(hC:CAbs C){fl}{o:bD}{s h v h1}(e:cQ C (if o.Ku=true then fl else h.next) s h o.op K0=some (v,h1)):bJ fl h h1:=by
 have:=PC hC e
 split at this
 ·exact this
 ·exact this.any
theorem KJ{R:Type}{r:R}{C:Callee}(hC:CAbs C){fl:Nat}:∀{os:List bD} {s h} {K:List Value→AH→Option R},FG C fl os s h K=some r→∃s' h',bJ fl h h'∧K s' h'=some r
 |[],s,h,K,e=>⟨s,h,bJ.refl _ _,e⟩
 |o::os,s,h,K,e=>by
  simp only[FG] at e
  obtain⟨v,h1,g1,g2⟩:=lq e
  obtain⟨s',h',a2,g3⟩:=KJ hC g2
  exact⟨s',h',(XM hC g1).trans a2 (Nat.le_refl _),g3⟩
theorem vh{R:Type}{r:R}{C:Callee}(hC:CAbs C){fl:Nat}:∀{is:List fU} {s h} {K:List Value→AH→Option R},xX C fl is s h K=some r→∃s' h',bJ fl h h'∧K s' h'=some r
 |[],s,h,K,e=>⟨s,h,bJ.refl _ _,e⟩
 |.op o::is,s,h,K,e=>by
  simp only[xX] at e
  obtain⟨v,h1,g1,g2⟩:=lq e
  obtain⟨s',h',a2,g3⟩:=vh hC g2
  exact⟨s',h',(XM hC g1).trans a2 (Nat.le_refl _),g3⟩
 |.fb g want os::is,s,h,K,e=>by
  simp only[xX] at e
  rcases vu e with⟨b,hb,e⟩|⟨x,y,hb,e⟩
  case inr=>exact vh hC e
  split at e
  ·obtain⟨s1,h1,a1,e⟩:=KJ hC e
   obtain⟨s',h',a2,g3⟩:=vh hC e
   exact⟨s',h',a1.trans a2 (Nat.le_refl _),g3⟩
  ·exact vh hC e
theorem kC{R:Type}{r:R}(hC:CAbs C){k:Nat}:∀(ac:ab) {s:List Value} {h:AH} {K:nZ→List Value→AH→Option R},bN C fl k ac s h K=some r→∃f s' h',h.next≤h'.next∧K f s' h'=some r
 |.skip,s,h,K,e=>⟨.normal,s,h,Nat.le_refl _,e⟩
 |.exit id,s,h,K,e=>⟨.exit id,s,h,Nat.le_refl _,e⟩
 |.ret,s,h,K,e=>⟨.ret,s,h,Nat.le_refl _,e⟩
 |.seq x y,s,h,K,e=>by
  simp only[bN] at e
  obtain⟨f,s',h',h1,e⟩:=kC hC x e
  cases f with
  |normal=>
   obtain⟨f2,s2,h2,h3,e2⟩:=kC hC y e
   exact⟨f2,s2,h2,Nat.le_trans h1 h3,e2⟩
  |exit i=>exact⟨_,s',h',h1,e⟩
  |ret=>exact⟨_,s',h',h1,e⟩
 |.cond c x y,s,h,K,e=>by
  simp only[bN] at e
  obtain⟨t,_,e⟩:=bX e
  split at e
  ·exact kC hC x e
  ·exact kC hC y e
 |.block id x,s,h,K,e=>by
  simp only[bN] at e
  obtain⟨f,s',h',h1,e⟩:=kC hC x e
  cases f with
  |normal=>exact⟨_,s',h',h1,e⟩
  |exit i=>
   simp only at e
   split at e
   ·exact⟨_,s',h',h1,e⟩
   ·exact⟨_,s',h',h1,e⟩
  |ret=>exact⟨_,s',h',h1,e⟩
 |.loop x,s,h,K,e=>by
  simp only[bN] at e
  have key:∀(n:Nat) (s:List Value) (h:AH),aQ n (fun s h next=>bN C fl k x s h fun f s h=>match f with
   |.normal=>next s h
   |.exit i=>K (.exit i) s h
   |.ret=>K .ret s h) s h=some r→∃f s' h',h.next≤h'.next∧K f s' h'=some r:=by
   intro n
   induction n with
   |zero=>intro s h e;simp[aQ] at e
   |succ n ih=>
    intro s h e
    simp only[aQ] at e
    obtain⟨f,s',h',h1,e⟩:=kC hC x e
    cases f with
    |normal=>
     obtain⟨f2,s2,h2,h3,e2⟩:=ih s' h' e
     exact⟨f2,s2,h2,Nat.le_trans h1 h3,e2⟩
    |exit i=>exact⟨_,s',h',h1,e⟩
    |ret=>exact⟨_,s',h',h1,e⟩
  exact key k s h e
 |.region al kill,s,h,K,e=>by
  simp only[bN] at e
  obtain⟨s',h',q1,q2⟩:=vh hC e
  exact⟨.normal,_,h',q1.1,q2⟩
theorem abz{R:Type}{r:R}(hC:fx P C)(hm:P.follows .mixedOrders=true){k:Nat}:∀(code:Code) (ac:ab),gF P code ac=true→
 ∀{K:nZ→List Value→AH→Option R} {Q:Exit→Act→World→Prop},(∀f s h,K f s h=some r→h.next≤hend)→
 ∀(s:List Value) (h:AH) (a:Act) (w:World) (μ:Mu),bN C fl k ac s h K=some r→Good fl base aq hend μ0 h0 w0 μ h w s a→
 (∀f s' h' a' w' μ',K f s' h'=some r→Good fl base aq hend μ0 h0 w0 μ' h' w' s' a'→Q (aiN f) a' w')→code.wp P Q a w:=by
 intro code
 induction code with
 |skip=>
  intro ac ok K Q hK s h a w μ e g hQ
  cases ac<;>try (simp only[gF,Bool.false_eq_true] at ok;done)
  ·exact wp_skip (hQ .normal s h a w μ e g)
  ·rename_i al kill
   cases al with
   |nil=>exact wp_skip (hQ .normal _ h a w μ e ⟨g.post,⟨g.ctx.eV,g.ctx.hb,g.ctx.bL,g.ctx.hr,Ct kill g.ctx.t⟩,g.dfr,g.fresh⟩)
   |cons x xs=>simp[gF] at ok
 |exit id=>
  intro ac ok K Q hK s h a w μ e g hQ
  unfold gF at ok
  split at ok
  all_goals try (rename_i h1;cases h1;done)
  ·rename_i i j h1;cases h1
   simp only[beq_iff_eq] at ok
   subst ok
   exact wp_exit (hQ (.exit _) s h a w μ e g)
  ·rename_i i kill j h1;cases h1
   simp only[beq_iff_eq] at ok
   subst ok
   exact wp_exit (hQ (.exit _) _ h a w μ e ⟨g.post,⟨g.ctx.eV,g.ctx.hb,g.ctx.bL,g.ctx.hr,Ct kill g.ctx.t⟩,g.dfr,g.fresh⟩)
  ·cases ok
 |ret=>
  intro ac ok K Q hK s h a w μ e g hQ
  unfold gF at ok
  split at ok
  all_goals try (rename_i h1;cases h1;done)
  ·exact wp_ret (hQ .ret s h a w μ e g)
  ·exact wp_ret (hQ .ret _ h a w μ e ⟨g.post,⟨g.ctx.eV,g.ctx.hb,g.ctx.bL,g.ctx.hr,Ct _ g.ctx.t⟩,g.dfr,g.fresh⟩)
  ·cases ok
 |seq x y ihx ihy=>
  intro ac ok K Q hK s h a w μ e g hQ
  cases ac<;>simp only[gF,Bool.false_eq_true,Bool.and_eq_true] at ok
  rename_i x' y'
  simp only[bN] at e
  refine wp_seq (ihx x' ok.1 ?_ s h a w μ e g ?_)
  ·intro f s h e
   cases f with
   |normal=>
    obtain⟨f2,s2,h2,h3,e2⟩:=kC hC.toCAbs y' e
    exact Nat.le_trans h3 (hK _ _ _ e2)
   |exit i=>exact hK _ _ _ e
   |ret=>exact hK _ _ _ e
  ·intro f s' h' a' w' μ' e g'
   cases f with
   |normal=>exact ihy y' ok.2 hK s' h' a' w' μ' e g' hQ
   |exit i=>exact hQ _ _ _ _ _ _ e g'
   |ret=>exact hQ _ _ _ _ _ _ e g'
 |cond c x y ihx ihy=>
  intro ac ok K Q hK s h a w μ e g hQ
  cases ac<;>simp only[gF,Bool.false_eq_true,Bool.and_eq_true] at ok
  rename_i c' x' y'
  simp only[bN] at e
  obtain⟨t,ht,e⟩:=bX e
  have rr:=bE g.ctx.t ok.1
  rw[ht] at rr
  refine wp_cond (t:=t) rr.tz ?_
  cases t with
  |true=>exact ihx x' ok.2.1 hK s h a w μ (by simpa using e) g hQ
  |false=>exact ihy y' ok.2.2 hK s h a w μ (by simpa using e) g hQ
 |block id x ihx=>
  intro ac ok K Q hK s h a w μ e g hQ
  cases ac<;>simp only[gF,Bool.false_eq_true,Bool.and_eq_true,beq_iff_eq] at ok
  rename_i id' x'
  obtain⟨rfl,ok⟩:=ok
  simp only[bN] at e
  refine wp_block (ihx x' ok ?_ s h a w μ e g ?_)
  ·intro f s h e
   cases f with
   |normal=>exact hK _ _ _ e
   |exit i=>
    simp only at e
    split at e<;>exact hK _ _ _ e
   |ret=>exact hK _ _ _ e
  ·intro f s' h' a' w' μ' e g'
   cases f with
   |normal=>exact hQ _ _ _ _ _ _ e g'
   |exit i=>
    simp only[aiN,Exit.inBlock]
    simp only at e
    split at e
    ·rename_i hi;rw[if_pos hi];exact hQ _ _ _ _ _ _ e g'
    ·rename_i hi;rw[if_neg hi];exact hQ _ _ _ _ _ _ e g'
   |ret=>exact hQ _ _ _ _ _ _ e g'
 |loop x ihx=>
  intro ac ok K Q hK s h a w μ e g hQ
  cases ac<;>simp only[gF,Bool.false_eq_true] at ok
  rename_i x'
  simp only[bN] at e
  have hnx:∀(n:Nat) (s:List Value) (h:AH),aQ n (fun s h next=>bN C fl k x' s h fun f s h=>match f with
   |.normal=>next s h
   |.exit i=>K (.exit i) s h
   |.ret=>K .ret s h) s h=some r→h.next≤hend:=by
   intro n
   induction n with
   |zero=>intro s h e;simp[aQ] at e
   |succ n ih=>
    intro s h e
    simp only[aQ] at e
    obtain⟨f,s',h',h1,e⟩:=kC hC.toCAbs x' e
    cases f with
    |normal=>exact Nat.le_trans h1 (ih s' h' e)
    |exit i=>exact Nat.le_trans h1 (hK _ _ _ e)
    |ret=>exact Nat.le_trans h1 (hK _ _ _ e)
  have key:∀(n:Nat) (s:List Value) (h:AH) (a:Act) (w:World) (μ:Mu),aQ n (fun s h next=>bN C fl k x' s h fun f s h=>match f with
   |.normal=>next s h
   |.exit i=>K (.exit i) s h
   |.ret=>K .ret s h) s h=some r→Good fl base aq hend μ0 h0 w0 μ h w s a→Code.rounds P x Q n a w:=by
   intro n
   induction n with
   |zero=>intro s h a w μ e;simp[aQ] at e
   |succ n ih=>
    intro s h a w μ e g
    simp only[aQ] at e
    rw[rounds_succ]
    refine ihx x' ok ?_ s h a w μ e g ?_
    ·intro f s h e
     cases f with
     |normal=>exact hnx n s h e
     |exit i=>exact hK _ _ _ e
     |ret=>exact hK _ _ _ e
    ·intro f s' h' a' w' μ' e g'
     cases f with
     |normal=>exact ih s' h' a' w' μ' e g'
     |exit i=>exact hQ _ _ _ _ _ _ e g'
     |ret=>exact hQ _ _ _ _ _ _ e g'
  exact wp_loop_rounds k (key k s h a w μ e g)
 |region id ops draw=>
  intro ac ok K Q hK s h a w μ e g hQ
  cases ac<;>simp only[gF,Bool.false_eq_true,Bool.and_eq_true,Bool.or_eq_true,Bool.not_eq_true'] at ok
  rename_i al kill
  obtain⟨okI,ok⟩:=ok
  simp only[bN] at e
  have e:=oh okI e
  have hK':∀s h,K .normal (Ch kill s) h=some r→h.next≤hend:=fun s h=>hK _ _ _
  have ati:∀{μ' h' w' s'} {a':Act},Good fl base aq hend μ0 h0 w0 μ' h' w' s' a'→Good fl base aq hend μ0 h0 w0 μ' h' w' (Ch kill s') a':=fun g=>
   ⟨g.post,⟨g.ctx.eV,g.ctx.hb,g.ctx.bL,g.ctx.hr,Ct kill g.ctx.t⟩,g.dfr,g.fresh⟩
  cases draw with
  |true=>
   rcases ok.2 with h1|h1
   ·cases h1
   ·exact XL hC hm ok.1 h1 hK' e g fun s' h' a' w' μ' hk g'=>hQ .normal _ _ _ _ _ hk (ati g')
  |false=>
   refine wp_region ?_
   have hr:=Tj hC hK' (Q:=Q) ops.toList (flat al) 0 (by simp) ok.1 s h a w μ e g.ctx g.fresh fun s' h' a' w' μ' hk hp ht hd=>hQ .normal _ _ _ _ _ hk (ati (g.next (r:=r) hp ht hd))
   rw[List.range_eq_range']
   simpa using hr
 |rangeFunc f ps x y=>intro ac ok;cases ac<;>simp[gF] at ok
 |scope x=>intro ac ok;cases ac<;>simp[gF] at ok
 |label l=>intro ac ok;cases ac<;>simp[gF] at ok
 |goto l=>intro ac ok;cases ac<;>simp[gF] at ok
 |refuse w=>intro ac ok;cases ac<;>simp[gF] at ok
end
end Go.Abs
end
section
namespace Go.Abs
def iY(P:Program):List ResultVar→List Ci→Bool
 |[],[]=>true
 |.tmp t::rs,.tmp t'::ts=>t==t'&&iY P rs ts
 |.cell t ty::rs,.cell t' sh::ts=>t==t'&&iY P rs ts&&(match P.underlying ty with
  |some (.struct _)=>(match sh with|.agg l=>oe P ty l.length|_=>false)
  |some (.array _ _)=>false
  |some _=>(match sh with|.one _=>true|_=>false)
  |none=>false)
 |_,_=>false
def FK(P:Program)(f:FuncId)(af:aB):Bool:=match P.funcs[f]? with
 | some fd => !(fd.name == "runtime.NumGoroutine") && (match fd.body with | some c => gF P c af.body | none => false) && fd.ntmps == af.ntmps && iY P fd.results.toList af.results
 |none=>false
theorem Al{R:Type}{r:R}{P:Program}{base aq:Nat}{μ:Mu}{h:AH}{w:World}(sm:yo base aq μ h w){s:List Value}{tmps:Array Value}(t:bq μ (c8 w) s tmps.toList)(g:ResultVar→Sem Value)
 (hg1:∀t,g (.tmp t)=Pure.pure (tmps.getD t undef)) (hg2:∀a ty,g (.cell a ty)=(do loadVar ty (←asAddr (tmps.getD a undef)))):
 ∀(rs:List ResultVar) (ts:List Ci) (K:List Value→Option R),iY P rs ts=true→FH ts s h K=some r→
  ∃vs yn:List Value,K vs=some r∧(List.mapM g rs).run P w=.ok yn w∧bq μ (c8 w) vs yn
 |[],[],K,_,e=>⟨[],[],e,by simp,bq.nil⟩
 |.tmp x::rs,.tmp y::ts,K,ok,e=>by
  simp only[iY,Bool.and_eq_true,beq_iff_eq] at ok
  obtain⟨rfl,ok⟩:=ok
  simp only[FH] at e
  obtain⟨vs,yn,h1,h2,h3⟩:=Al sm t g hg1 hg2 rs ts _ ok e
  refine⟨s.getD x undef::vs,tmps.getD x undef::yn,h1,?_,bq.cons ?_ h3⟩
  ·simp only[List.mapM_cons,hg1,Sem.run_bind,Sem.run_pure,Result.andThen_ok,h2]
  ·have:=Pt t x
   simpa [Array.getD_eq_getD_getElem?,List.getD_eq_getElem?_getD] using this
 |.cell x ty::rs,.cell y sh::ts,K,ok,e=>by
  simp only[iY,Bool.and_eq_true,beq_iff_eq] at ok
  obtain⟨⟨rfl,ok⟩,k2⟩:=ok
  simp only[FH] at e
  obtain⟨p,hp,e⟩:=dL e
  have rr:cC μ (c8 w) (s.getD x undef) (tmps.getD x undef):=by
   have:=Pt t x
   simpa [Array.getD_eq_getD_getElem?,List.getD_eq_getElem?_getD] using this
  rw[hp] at rr
  obtain⟨rb,ob,m1,m2⟩:=rr.HT
  split at k2
  ·rename_i fs hu
   split at k2
   ·rename_i l
    obtain⟨i,hi,RO⟩:=KD k2
    obtain⟨cs,l1,l2,l3⟩:=vv e
    obtain⟨eE,g1,g2⟩:=sm.Tg m1 cs p.off l2
    obtain⟨vs,yn,h1,h2,h3⟩:=Al sm t g hg1 hg2 rs ts _ ok l3
    have hl:(loadCells ⟨rb,ob+p.off,none⟩ i.size).run P w=.ok eE.toArray w:=by
     rw[RO,←l1,g1.1]
     exact run_loadCells_list w _ eE fun j u hu=>by rw[kB];exact g2 j u hu
    refine⟨.agg ⟨cs⟩::vs,.agg eE.toArray::yn,h1,?_,bq.cons (.agg g1.1 g1.2) h3⟩
    simp only[List.mapM_cons,hg2,m2,asAddr,loadVar,isAgg,Sem.run_bind,Sem.run_pure,Result.andThen_ok,run_underlying hu,if_true,eW hi,hl,h2]
   ·cases k2
  ·cases k2
  ·rename_i d hn1 hn2 hu
   split at k2
   ·rename_i s0
    obtain⟨u,g1,g2⟩:=yr e
    obtain⟨u',q1,q2⟩:=sm.load g1 m1
    obtain⟨vs,yn,h1,h2,h3⟩:=Al sm t g hg1 hg2 rs ts _ ok g2
    have hd:((match d with|.struct _=>Pure.pure true|.array _ _=>Pure.pure true|_=>Pure.pure false):Sem Bool)=Pure.pure false:=by
     cases d<;>first|rfl|(exact absurd rfl (hn1 _))|(exact absurd rfl (hn2 _ _))
    refine⟨u::vs,u'::yn,h1,?_,bq.cons q2 h3⟩
    simp only[List.mapM_cons,hg2,m2,asAddr,loadVar,isAgg,Sem.run_bind,Sem.run_pure,Result.andThen_ok,run_underlying hu,hd,Bool.false_eq_true,if_false,run_load,q1,h2]
   ·cases k2
  ·cases k2
 |[],_::_,_,ok,_=>by simp[iY] at ok
 |.tmp _::_,[],_,ok,_=>by simp[iY] at ok
 |.cell _ _::_,[],_,ok,_=>by simp[iY] at ok
 |.tmp _::_,.cell _ _::_,_,ok,_=>by simp[iY] at ok
 |.cell _ _::_,.tmp _::_,_,ok,_=>by simp[iY] at ok
theorem yw{R:Type}{r:R}:∀(ts:List Ci) {s:List Value} {h:AH} {K:List Value→Option R},FH ts s h K=some r→∃vs,K vs=some r
 |[],_,_,_,e=>⟨_,e⟩
 |.tmp x::ts,s,h,K,e=>by
  simp only[FH] at e
  obtain⟨vs,hv⟩:=yw ts e
  exact⟨_,hv⟩
 |.cell x sh::ts,s,h,K,e=>by
  simp only[FH] at e
  obtain⟨p,_,e⟩:=dL e
  cases sh with
  |one s0=>
   obtain⟨u,_,e⟩:=yr e
   obtain⟨vs,hv⟩:=yw ts e
   exact⟨_,hv⟩
  |agg l=>
   obtain⟨cs,_,_,e⟩:=vv e
   obtain⟨vs,hv⟩:=yw ts e
   exact⟨_,hv⟩
theorem aiO{μ sz}{xs ys:List Value}(h:bq μ sz xs ys):cC μ sz (abo xs) (if h:(⟨ys⟩:Array Value).size=1 then (⟨ys⟩:Array Value)[0] else .tuple ⟨ys⟩):=by
 cases xs with
 |nil=>
  cases ys with
  |nil=>exact .ue _
  |cons y ys=>have:=h.1;simp at this
 |cons x xs=>
  cases ys with
  |nil=>have:=h.1;simp at this
  |cons y ys=>
   cases xs with
   |nil=>
    cases ys with
    |nil=>exact h.2 0 (by simp) (by simp)
    |cons y' ys=>have:=h.1;simp at this
   |cons x' xs=>
    cases ys with
    |nil=>have:=h.1;simp at this
    |cons y' ys=>
     rw[dif_neg (by simp)]
     exact .tuple h.1 h.2
section
variable{P:Program}{T:FuncId→Option aB}{E:Callee}
theorem abA{C:Callee}(hC:fx P C)(hm:P.follows .mixedOrders=true){f:FuncId}{af:aB}(ok:FK P f af=true){fl k:Nat}{args:List Value}{h h1:AH}{v:Value}
 (e:bk C fl k af args h=some (v,h1)) {base aq:Nat} {μ:Mu} {w:World} {args':List Value} (sm:yo base aq μ h w) (hb:base≤fl) (bL:fl≤h.next) (hr:aq≤w.heap.size)
 (ha:bq μ (c8 w) args args') (hf:gL μ h.next h1.next):
 Calls P f args'.toArray w fun e w'=>∃v' μ',e=.returned v'∧bY fl base aq μ h w μ' h1 w'∧cC μ' (c8 w') v v':=by
 unfold FK at ok
 split at ok
 ·rename_i fd hfd
  simp only[Bool.and_eq_true,beq_iff_eq] at ok
  obtain⟨⟨⟨_,k1⟩,k2⟩,k3⟩:=ok
  split at k1
  ·rename_i c hc
   refine calls_of_wp hfd hc ?_
   unfold bk at e
   have ht:bq μ (c8 w) (args++List.replicate (af.ntmps-args.length) undef) (args'.toArray++Array.replicate (fd.ntmps-args'.toArray.size) undef).toList:=by
    simp only[Array.toList_append,Array.toList_replicate,List.size_toArray]
    rw[k2,←ha.1]
    refine ha.append ⟨by simp,fun i h1 h2=>?_⟩
    rw[List.getElem_replicate]
    exact .ue _
   have g:Good fl base aq h1.next μ h w μ h w (args++List.replicate (af.ntmps-args.length) undef) {tmps:=args'.toArray++Array.replicate (fd.ntmps-args'.toArray.size) undef,defers:=[]}:=
    ⟨bY.refl sm,⟨sm,hb,bL,hr,ht⟩,rfl,hf⟩
   have fin:∀{s':List Value} {h':AH} {a':Act} {w':World} {μ':Mu},FH af.results s' h' (fun vs=>some (abo vs,h'))=some (v,h1)→Good fl base aq h1.next μ h w μ' h' w' s' a'→
    ∃v',(results fd a'.tmps).run P w'=.ok v' w'∧∃v'' μ'',Ending.returned v'=.returned v''∧bY fl base aq μ h w μ'' h1 w'∧cC μ'' (c8 w') v v'':=by
    intro s' h' a' w' μ' he g'
    unfold results
    have key:∀(g:ResultVar→Sem Value),(∀t,g (.tmp t)=Pure.pure (a'.tmps.getD t undef))→(∀x ty,g (.cell x ty)=(do loadVar ty (←asAddr (a'.tmps.getD x undef))))→
     ∃v',(do let vs ←fd.results.mapM g;Pure.pure (if h:vs.size=1 then vs[0] else Value.tuple vs):Sem Value).run P w'=.ok v' w'∧bY fl base aq μ h w μ' h1 w'∧cC μ' (c8 w') v v':=by
     intro g hg1 hg2
     obtain⟨vs,yn,q1,q2,q3⟩:=Al g'.ctx.eV g'.ctx.t g hg1 hg2 fd.results.toList af.results _ k3 he
     simp only[Option.some.injEq,Prod.mk.injEq] at q1
     obtain⟨rfl,rfl⟩:=q1
     refine⟨_,?_,g'.post,aiO q3⟩
     rw[Array.mapM_eq_mapM_toList]
     simp only[Sem.run_bind,Sem.run_map,q2,Result.andThen_ok,Sem.run_pure,List.toArray]
    obtain⟨v',p1,p2,p3⟩:=key (fun x=>match x with|.tmp t=>Pure.pure (a'.tmps.getD t undef)|.cell a t=>do loadVar t (←asAddr (a'.tmps.getD a undef))) (fun t=>rfl) (fun x ty=>rfl)
    exact⟨v',p1,v',μ',rfl,p2,p3⟩
   have axR:∀{s':List Value} {h':AH},FH af.results s' h' (fun vs=>some (abo vs,h'))=some (v,h1)→h'.next≤h1.next:=by
    intro s' h' he
    obtain⟨vs,hvs⟩:=yw af.results he
    simp only[Option.some.injEq,Prod.mk.injEq] at hvs
    rw[hvs.2];exact Nat.le_refl _
   refine abz (r:=(v,h1)) hC hm c af.body k1 (K:=aE af.results) ?_ _ h _ w μ e g ?_
   ·intro f s' h' he
    cases f with
    |normal=>exact axR he
    |ret=>exact axR he
    |exit i=>cases he
   ·intro f s' h' a' w' μ' he g'
    cases f with
    |normal=>
     obtain⟨v',p1,v'',μ'',p2⟩:=fin he g'
     exact⟨g'.dfr,v',p1,v'',μ'',p2⟩
    |ret=>
     obtain⟨v',p1,v'',μ'',p2⟩:=fin he g'
     exact⟨g'.dfr,v',p1,v'',μ'',p2⟩
    |exit i=>cases he
  ·cases k1
 ·cases ok
theorem kD{R:Type}{r:R}{C:Callee}(hC:CAbs C){fl k:Nat}:∀(ac:ab) {s:List Value} {h:AH} {K:nZ→List Value→AH→Option R},bN C fl k ac s h K=some r→∃f s' h',bJ fl h h'∧K f s' h'=some r
 |.skip,s,h,K,e=>⟨.normal,s,h,bJ.refl _ _,e⟩
 |.exit id,s,h,K,e=>⟨.exit id,s,h,bJ.refl _ _,e⟩
 |.ret,s,h,K,e=>⟨.ret,s,h,bJ.refl _ _,e⟩
 |.seq x y,s,h,K,e=>by
  simp only[bN] at e
  obtain⟨f,s',h',h1,e⟩:=kD hC x e
  cases f with
  |normal=>
   obtain⟨f2,s2,h2,h3,e2⟩:=kD hC y e
   exact⟨f2,s2,h2,h1.trans h3 (Nat.le_refl _),e2⟩
  |exit i=>exact⟨_,s',h',h1,e⟩
  |ret=>exact⟨_,s',h',h1,e⟩
 |.cond c x y,s,h,K,e=>by
  simp only[bN] at e
  obtain⟨t,_,e⟩:=bX e
  split at e
  ·exact kD hC x e
  ·exact kD hC y e
 |.block id x,s,h,K,e=>by
  simp only[bN] at e
  obtain⟨f,s',h',h1,e⟩:=kD hC x e
  cases f with
  |normal=>exact⟨_,s',h',h1,e⟩
  |exit i=>
   simp only at e
   split at e
   ·exact⟨_,s',h',h1,e⟩
   ·exact⟨_,s',h',h1,e⟩
  |ret=>exact⟨_,s',h',h1,e⟩
 |.loop x,s,h,K,e=>by
  simp only[bN] at e
  have key:∀(n:Nat) (s:List Value) (h:AH),aQ n (fun s h next=>bN C fl k x s h fun f s h=>match f with
   |.normal=>next s h
   |.exit i=>K (.exit i) s h
   |.ret=>K .ret s h) s h=some r→∃f s' h',bJ fl h h'∧K f s' h'=some r:=by
   intro n
   induction n with
   |zero=>intro s h e;simp[aQ] at e
   |succ n ih=>
    intro s h e
    simp only[aQ] at e
    obtain⟨f,s',h',h1,e⟩:=kD hC x e
    cases f with
    |normal=>
     obtain⟨f2,s2,h2,h3,e2⟩:=ih s' h' e
     exact⟨f2,s2,h2,h1.trans h3 (Nat.le_refl _),e2⟩
    |exit i=>exact⟨_,s',h',h1,e⟩
    |ret=>exact⟨_,s',h',h1,e⟩
  exact key k s h e
 |.region al kill,s,h,K,e=>by
  simp only[bN] at e
  obtain⟨s',h',q1,q2⟩:=vh (K:=fun s h=>K .normal (Ch kill s) h) hC e
  exact⟨.normal,_,h',q1,q2⟩
theorem xj(hm:P.follows .mixedOrders=true)(hE:fx P E)(hT:∀f af,T f=some af→FK P f af=true):∀k,fx P (Bn T E k)
 |0=>{step:=fun fl f args h v h1 e=>by simp[Bn] at e,fn:=fun fl f args h v h1 e=>by simp[Bn] at e,sound:=fun fl f args h v h1 e=>by simp[Bn] at e}
 |k+1=>by
  have ih:=xj hm hE hT k
  refine {step:=?_,fn:=?_,sound:=?_}
  ·intro fl f args h v h1 e
   simp only[Bn] at e
   split at e
   ·rename_i af haf
    unfold bk at e
    obtain⟨fw,s',h',a1,e2⟩:=kD ih.toCAbs _ e
    cases fw with
    |normal=>obtain⟨vs,e3⟩:=yw _ e2;simp only[Option.some.injEq,Prod.mk.injEq] at e3;rw[←e3.2];exact a1
    |ret=>obtain⟨vs,e3⟩:=yw _ e2;simp only[Option.some.injEq,Prod.mk.injEq] at e3;rw[←e3.2];exact a1
    |exit i=>cases e2
   ·exact hE.step _ _ _ _ _ _ e
  ·intro fl f args h v h1 e
   simp only[Bn] at e
   split at e
   ·rename_i af haf
    have ok:=hT f af haf
    unfold FK at ok
    split at ok
    ·rename_i fd hfd
     simp only[Bool.and_eq_true,Bool.not_eq_true',beq_iff_eq] at ok
     refine⟨fd,hfd,ok.1.1.1,?_⟩
     have:=ok.1.1.2
     split at this
     ·rename_i c hc;rw[hc];rfl
     ·cases this
    ·cases ok
   ·exact hE.fn _ _ _ _ _ _ e
  ·intro fl f args h v h1 e base aq μ w args' sm hb bL hr ha hf
   simp only[Bn] at e
   split at e
   ·rename_i af haf
    exact abA ih hm (hT f af haf) e sm hb bL hr ha hf
   ·exact hE.sound _ _ _ _ _ _ e base aq μ w args' sm hb bL hr ha hf
def noE:Callee:=fun _ _ _ _=>none
theorem Tn:fx P noE:={step:=fun fl f args h v h1 e=>(by simp[noE] at e),fn:=fun fl f args h v h1 e=>(by simp[noE] at e),sound:=fun fl f args h v h1 e=>(by simp[noE] at e)}
end
end Go.Abs
end
section
namespace Go.Abs
section
variable{R:Type}{r:R}{C:Callee}{F:Nat→Callee}(hF:∀fl f args h r,C fl f args h=some r→∃n0,∀n,n0≤n→F n fl f args h=some r){fl:Nat}
include hF
theorem ade{Pp:Nat}{o:HO}{s h v h1}(e:cQ C Pp s h o K0=some (v,h1)):∃n2,∀n,n2≤n→cQ (F n) Pp s h o K0=some (v,h1):=by
 cases o with
 |call f args sh=>
  simp only[cQ,Ps] at e ⊢
  split at e
  ·rename_i g a b hg
   split at e
   ·rename_i v' h' hq
    obtain⟨n2,hn2⟩:=hF _ _ _ _ _ hq
    exact⟨n2,fun n hn=>by simp only[hn2 n hn];exact e⟩
   ·cases e
  ·cases e
 |_=>exact⟨0,fun n _=>e⟩
theorem XN:∀(os:List bD) (s:List Value) (h:AH) (K:List Value→AH→Option R) (K':Nat→List Value→AH→Option R),(∀s h,K s h=some r→∃n0,∀n,n0≤n→K' n s h=some r)→
 FG C fl os s h K=some r→∃n0,∀n,n0≤n→FG (F n) fl os s h (K' n)=some r
 |[],s,h,K,K',hK,e=>hK s h e
 |o::os,s,h,K,K',hK,e=>by
  simp only[FG] at e ⊢
  obtain⟨v,h1,g1,g2⟩:=lq e
  obtain⟨n1,hn1⟩:=XN os (mY s o.dst v) h1 K K' hK g2
  obtain⟨n2,hn2⟩:=ade hF g1
  exact⟨max n1 n2,fun n hn=>Cq (hn2 n (by omega)) (hn1 n (by omega))⟩
theorem yx:∀(os:List fU) (s:List Value) (h:AH) (K:List Value→AH→Option R) (K':Nat→List Value→AH→Option R),(∀s h,K s h=some r→∃n0,∀n,n0≤n→K' n s h=some r)→
 xX C fl os s h K=some r→∃n0,∀n,n0≤n→xX (F n) fl os s h (K' n)=some r
 |[],s,h,K,K',hK,e=>hK s h e
 |.op o::os,s,h,K,K',hK,e=>by
  simp only[xX] at e ⊢
  obtain⟨v,h1,g1,g2⟩:=lq e
  obtain⟨n1,hn1⟩:=yx os (mY s o.dst v) h1 K K' hK g2
  obtain⟨n2,hn2⟩:=ade hF g1
  exact⟨max n1 n2,fun n hn=>Cq (hn2 n (by omega)) (hn1 n (by omega))⟩
 |.fb g want os::is,s,h,K,K',hK,e=>by
  simp only[xX] at e ⊢
  rcases vu e with⟨b,hb,e⟩|⟨x,y,hb,e⟩
  case inr=>
   simp only[hb,XA]
   exact yx is _ h K K' hK e
  simp only[hb,XA]
  split at e
  ·rename_i hw
   simp only[if_pos hw]
   exact XN hF os _ h _ (fun n s h=>xX (F n) fl is s h (K' n)) (fun s h e=>yx is s h K K' hK e) e
  ·rename_i hw
   simp only[if_neg hw]
   exact yx is _ h K K' hK e
end
open Classical in
theorem nA{R:Type}{r:R}{C:Callee}{F:Nat→Callee}(hF:∀fl f args h r,C fl f args h=some r→∃n0,∀n,n0≤n→F n fl f args h=some r){fl k:Nat}:
 ∀(ac:ab) (s:List Value) (h:AH) (K:nZ→List Value→AH→Option R) (K':Nat→nZ→List Value→AH→Option R),(∀f s h,K f s h=some r→∃n0,∀n,n0≤n→K' n f s h=some r)→
  bN C fl k ac s h K=some r→∃n0,∀n,n0≤n→bN (F n) fl n ac s h (K' n)=some r
 |.skip,s,h,K,K',hK,e=>hK _ s h e
 |.exit id,s,h,K,K',hK,e=>hK _ s h e
 |.ret,s,h,K,K',hK,e=>hK _ s h e
 |.seq x y,s,h,K,K',hK,e=>by
  simp only[bN] at e ⊢
  refine nA hF x s h _ (fun n f s h=>match f with|.normal=>bN (F n) fl n y s h (K' n)|.exit i=>K' n (.exit i) s h|.ret=>K' n .ret s h) ?_ e
  intro f s h e
  cases f with
  |normal=>exact nA hF y s h K K' hK e
  |exit i=>exact hK _ s h e
  |ret=>exact hK _ s h e
 |.cond c x y,s,h,K,K',hK,e=>by
  simp only[bN] at e ⊢
  obtain⟨t,ht,e⟩:=bX e
  simp only[ht,asBool]
  split at e
  ·rename_i hw
   obtain⟨n0,hn⟩:=nA hF x s h K K' hK e
   exact⟨n0,fun n h=>by rw[if_pos hw];exact hn n h⟩
  ·rename_i hw
   obtain⟨n0,hn⟩:=nA hF y s h K K' hK e
   exact⟨n0,fun n h=>by rw[if_neg hw];exact hn n h⟩
 |.block id x,s,h,K,K',hK,e=>by
  simp only[bN] at e ⊢
  refine nA hF x s h _ (fun n f s h=>match f with|.normal=>K' n .normal s h|.exit i=>if i=id then K' n .normal s h else K' n (.exit i) s h|.ret=>K' n .ret s h) ?_ e
  intro f s h e
  cases f with
  |normal=>exact hK _ s h e
  |exit i=>
   simp only at e ⊢
   split at e
   ·rename_i hi;simp only[if_pos hi];exact hK _ s h e
   ·rename_i hi;simp only[if_neg hi];exact hK _ s h e
  |ret=>exact hK _ s h e
 |.loop x,s,h,K,K',hK,e=>by
  simp only[bN] at e ⊢
  have key:∀(m:Nat) (s:List Value) (h:AH),aQ m (fun s h next=>bN C fl k x s h fun f s h=>match f with
   |.normal=>next s h
   |.exit i=>K (.exit i) s h
   |.ret=>K .ret s h) s h=some r→∃n0,∀n,n0≤n→∀q,m≤q→aQ q (fun s h next=>bN (F n) fl n x s h fun f s h=>match f with
   |.normal=>next s h
   |.exit i=>K' n (.exit i) s h
   |.ret=>K' n .ret s h) s h=some r:=by
   intro m
   induction m with
   |zero=>intro s h e;simp[aQ] at e
   |succ m ih=>
    intro s h e
    simp only[aQ] at e
    have:=nA hF x s h _ (fun n f s h=>match f with
     |.normal=>if ∀q,m≤q→aQ q (fun s h next=>bN (F n) fl n x s h fun f s h=>match f with
      |.normal=>next s h
      |.exit i=>K' n (.exit i) s h
      |.ret=>K' n .ret s h) s h=some r then some r else none
     |.exit i=>K' n (.exit i) s h
     |.ret=>K' n .ret s h) ?_ e
    ·obtain⟨n0,hn⟩:=this
     refine⟨n0,fun n hn0 q hq=>?_⟩
     obtain⟨q,rfl⟩:∃j,q=j+1:=⟨q-1,by omega⟩
     simp only[aQ]
     have h1:=hn n hn0
     refine k9 x ?_ h1
     intro f s h e
     cases f with
     |normal=>
      simp only at e
      split at e
      ·rename_i Xj;exact Xj q (by omega)
      ·cases e
     |exit i=>exact e
     |ret=>exact e
    ·intro f s h e
     cases f with
     |normal=>
      obtain⟨n0,hn⟩:=ih s h e
      exact⟨n0,fun n hn0=>by simp only;rw[if_pos (fun q hq=>hn n hn0 q hq)]⟩
     |exit i=>exact hK _ s h e
     |ret=>exact hK _ s h e
  obtain⟨n0,hn⟩:=key k s h e
  exact⟨max n0 k,fun n h=>hn n (by omega) n (by omega)⟩
 |.region al kill,s,h,K,K',hK,e=>by
  simp only[bN] at e ⊢
  exact yx hF al s h _ (fun n s h=>K' n .normal (Ch kill s) h) (fun s h e=>hK _ _ h e) e
where
 k9 {C:Callee} {fl k:Nat}:∀(ac:ab) {s:List Value} {h:AH} {K K':nZ→List Value→AH→Option R},(∀f s h,K f s h=some r→K' f s h=some r)→
  bN C fl k ac s h K=some r→bN C fl k ac s h K'=some r
 |.skip,s,h,K,K',hK,e=>hK _ s h e
 |.exit id,s,h,K,K',hK,e=>hK _ s h e
 |.ret,s,h,K,K',hK,e=>hK _ s h e
 |.seq x y,s,h,K,K',hK,e=>by
  simp only[bN] at e ⊢
  refine k9 x ?_ e
  intro f s h e
  cases f with
  |normal=>exact k9 y hK e
  |exit i=>exact hK _ s h e
  |ret=>exact hK _ s h e
 |.cond c x y,s,h,K,K',hK,e=>by
  simp only[bN] at e ⊢
  obtain⟨t,ht,e⟩:=bX e
  simp only[ht,asBool]
  split at e
  ·rename_i hw;rw[if_pos hw];exact k9 x hK e
  ·rename_i hw;rw[if_neg hw];exact k9 y hK e
 |.block id x,s,h,K,K',hK,e=>by
  simp only[bN] at e ⊢
  refine k9 x ?_ e
  intro f s h e
  cases f with
  |normal=>exact hK _ s h e
  |exit i=>
   simp only at e ⊢
   split at e
   ·rename_i hi;simp only[if_pos hi];exact hK _ s h e
   ·rename_i hi;simp only[if_neg hi];exact hK _ s h e
  |ret=>exact hK _ s h e
 |.loop x,s,h,K,K',hK,e=>by
  simp only[bN] at e ⊢
  have key:∀(m:Nat) (s:List Value) (h:AH),aQ m (fun s h next=>bN C fl k x s h fun f s h=>match f with
   |.normal=>next s h
   |.exit i=>K (.exit i) s h
   |.ret=>K .ret s h) s h=some r→aQ m (fun s h next=>bN C fl k x s h fun f s h=>match f with
   |.normal=>next s h
   |.exit i=>K' (.exit i) s h
   |.ret=>K' .ret s h) s h=some r:=by
   intro m
   induction m with
   |zero=>intro s h e;simp[aQ] at e
   |succ m ih=>
    intro s h e
    simp only[aQ] at e ⊢
    refine k9 x ?_ e
    intro f s h e
    cases f with
    |normal=>exact ih s h e
    |exit i=>exact hK _ s h e
    |ret=>exact hK _ s h e
  exact key k s h e
 |.region al kill,s,h,K,K',hK,e=>by
  simp only[bN] at e ⊢
  have:=yx (C:=C) (F:=fun _=>C) (fun fl f args h r e=>⟨0,fun _ _=>e⟩) al s h (fun s h=>K .normal (Ch kill s) h) (fun _ s h=>K' .normal (Ch kill s) h) (fun s h e=>⟨0,fun _ _=>hK _ _ h e⟩) e
  obtain⟨n0,hn⟩:=this
  exact hn n0 (Nat.le_refl _)
section
variable{T:FuncId→Option aB}{E:Callee}
def Ans(T:FuncId→Option aB)(E:Callee)(fl:Nat)(f:FuncId)(args:List Value)(h:AH)(r:Value×AH):Prop:=∃n0,∀n,n0≤n→Bn T E n fl f args h=some r
open Classical in
noncomputable def CC(T:FuncId→Option aB)(E:Callee):Callee:=fun fl f args h=>
 if x:∃r,Ans T E fl f args h r then some (Classical.choose x) else none
theorem Uj{fl f args h r}(e:CC T E fl f args h=some r):Ans T E fl f args h r:=by
 unfold CC at e
 split at e
 ·rename_i x
  injection e with e
  rw[←e]
  exact Classical.choose_spec x
 ·cases e
theorem asX{fl f args h r}(a:Ans T E fl f args h r):CC T E fl f args h=some r:=by
 unfold CC
 have x:∃r,Ans T E fl f args h r:=⟨r,a⟩
 rw[dif_pos x]
 congr 1
 obtain⟨n1,h1⟩:=Classical.choose_spec x
 obtain⟨n2,h2⟩:=a
 have e1:=h1 (max n1 n2) (by omega)
 have e2:=h2 (max n1 n2) (by omega)
 rw[e1] at e2
 injection e2
theorem at9{fl k f af args h r}(hT:T f=some af)(e:bk (CC T E) fl k af args h=some r):CC T E fl f args h=some r:=by
 refine asX ?_
 unfold bk at e
 have:=nA (C:=CC T E) (F:=fun n=>Bn T E n) (fun fl f args h r e=>Uj e) af.body _ h (aE af.results) (fun _=>aE af.results) (fun f s h e=>⟨0,fun _ _=>e⟩) e
 obtain⟨n0,hn⟩:=this
 refine⟨n0+1,fun n hn0=>?_⟩
 obtain⟨n,rfl⟩:∃j,n=j+1:=⟨n-1,by omega⟩
 simp only[Bn,hT]
 exact hn n (by omega)
theorem abB{fl f args h r}(hT:T f=none)(e:E fl f args h=some r):CC T E fl f args h=some r:=
 asX ⟨1,fun n hn=>by
  obtain⟨n,rfl⟩:∃j,n=j+1:=⟨n-1,by omega⟩
  simp only[Bn,hT];exact e⟩
theorem XO{P:Program}(hm:P.follows .mixedOrders=true)(hE:fx P E)(hT:∀f af,T f=some af→FK P f af=true):fx P (CC T E) where
 step fl f args h v h1 e:=by obtain⟨n,hn⟩:=Uj e;exact(xj hm hE hT n).step _ _ _ _ _ _ (hn n (Nat.le_refl _))
 fn fl f args h v h1 e:=by obtain⟨n,hn⟩:=Uj e;exact(xj hm hE hT n).fn _ _ _ _ _ _ (hn n (Nat.le_refl _))
 sound fl f args h v h1 e:=by obtain⟨n,hn⟩:=Uj e;exact(xj hm hE hT n).sound _ _ _ _ _ _ (hn n (Nat.le_refl _))
end
end Go.Abs
end
section
namespace Go.Abs
section
variable{R:Type}
abbrev bM(n:Int):Int:=IntKind.i64.wrap n
def aF(k:IntKind)(h:AH)(b o:Nat)(K:Int→Option R):Option R:=match h.cell b o with
 |some v=>asInt k v K
 |none=>none
def ldB(h:AH)(b o:Nat)(K:Bool→Option R):Option R:=match h.cell b o with
 |some v=>asBool v K
 |none=>none
def bC(h:AH)(b o:Nat)(K:Sl→Option R):Option R:=match h.cell b o with
 |some v=>bB v K
 |none=>none
def ldV(h:AH)(b o:Nat)(K:Value→Option R):Option R:=match h.cell b o with
 |some v=>K v
 |none=>none
def ldN(h:AH)(b o:Nat)(K:Option Addr→Option R):Option R:=match h.cell b o with
 |some v=>fE v K
 |none=>none
def vx(id:Nat)(K:nZ→List Value→AH→Option R):nZ→List Value→AH→Option R:=fun f s h=>match f with
 |.normal=>K .normal s h
 |.exit i=>if i=id then K .normal s h else K (.exit i) s h
 |.ret=>K .ret s h
def asY(next:List Value→AH→Option R)(K:nZ→List Value→AH→Option R):nZ→List Value→AH→Option R:=fun f s h=>match f with
 |.normal=>next s h
 |.exit i=>K (.exit i) s h
 |.ret=>K .ret s h
def bT(C:Callee)(fl k:Nat)(c:ab)(K:nZ→List Value→AH→Option R):nZ→List Value→AH→Option R:=fun f s h=>match f with
 |.normal=>bN C fl k c s h K
 |.exit i=>K (.exit i) s h
 |.ret=>K .ret s h
def bK(C:Callee)(fl k:Nat)(c:ab)(id:Nat)(K:nZ→List Value→AH→Option R):List Value→AH→(List Value→AH→Option R)→Option R:=fun s h next=>bN C fl k c s h (asY next (vx id K))
theorem vj(C:Callee)(fl k:Nat)(a b:ab)(s:List Value)(h:AH)(K:nZ→List Value→AH→Option R):bN C fl k (.seq a b) s h K=bN C fl k a s h (bT C fl k b K):=rfl
theorem ak{α β}(f:α→β){a a'}(h:a=a'):f a=f a':=by rw[h]
theorem pO{α β γ}(f:α→β→γ){a a' b b'}(h:a=a')(h2:b=b'):f a b=f a' b':=by rw[h,h2]
abbrev KF(R:Type):=nZ→List Value→AH→Option R
abbrev OA:=Option Addr
def ce(C:Callee)(fl k:Nat)(c:ab)(K:KF R):List Value→AH→Option R:=fun s q=>bN C fl k c s q K
theorem awH(C:Callee)(fl k:Nat)(c:ab)(id:Nat)(K:KF R):vx id (bT C fl k c K) (.exit id)=ce C fl k c K:=by
 funext s h;show(if id=id then _ else _)=_;rw[if_pos rfl];rfl
def un:Nat→List Value→List Value
 |0,l=>l
 |n+1,l=>undef::un n l
abbrev vi(n:Int):Value:=.int .i64 n
abbrev vp(a:Addr):Value:=.pointer (some a)
abbrev vn(a:Option Addr):Value:=.pointer a
abbrev vs(s:Sl):Value:=.slice s.a s.l s.c
class CP(S R:Type)(T:outParam Type) where
 cp:S→(List Value→AH→Option R)→T
instance:CP (List Value) R (AH→Option R):=⟨fun s g q=>g s q⟩
instance{A S T:Type}[CP S R T]:CP (A→S) R (A→T):=⟨fun s g x=>CP.cp (s x) g⟩
section
open CP
variable{S T:Type}[CP S R T]{s:S}{C:Callee}{fl k:Nat}
theorem mL{c:ab}{id m:Nat}{K:KF R}{y z:T}(e:cp s (ce C fl k c (asY (aQ m (bK C fl k c id K)) (vx id K)))=y)(e2:y=z):cp s (aQ (m+1) (bK C fl k c id K))=z:=e.trans e2
theorem mM{c:ab}{id:Nat}{K:KF R}{F:Nat→T}(e:∀m,cp s (aQ m (bK C fl k c id K))=F m):cp s (ce C fl k (.block id (.loop c)) K)=F k:=e k
theorem pA{a b:ab}{K:KF R}{y:T}(e:cp s (ce C fl k a (bT C fl k b K))=y):cp s (ce C fl k (.seq a b) K)=y:=e
theorem py{c:ab}{K:KF R}{y:T}(e:cp s (ce C fl k c K)=y):cp s (bT C fl k c K .normal)=y:=e
theorem bn1{c:ab}{id:Nat}{K:KF R}{y:T}(e:cp s (ce C fl k c K)=y):cp s (vx id (bT C fl k c K) .normal)=y:=e
theorem bx1{c:ab}{id:Nat}{K:KF R}{y:T}(e:cp s (ce C fl k c K)=y):cp s (vx id (bT C fl k c K) (.exit id))=y:=by rw[awH];exact e
end
def oI(d:Nat)(o:HO):fU:=.op ⟨some d,o,none,true⟩
def oJ(d:Nat)(o:HO):fU:=.op ⟨some d,o,none,false⟩
def pI(o:HO):fU:=.op ⟨none,o,none,true⟩
def pJ(o:HO):fU:=.op ⟨none,o,none,false⟩
def qI(d:Nat)(o:HO):bD:=⟨some d,o,none,true⟩
def qJ(d:Nat)(o:HO):bD:=⟨some d,o,none,false⟩
def ci(n:Int):my:=.c (.int .i64 n)
def cU(h:AH)(cs:List Value)(K:Nat→AH→Option R):Option R:=K h.next (h.alloc cs)
def aD(C:Callee)(fl:Nat)(f:Nat)(args:List Value)(h:AH)(K:Value→AH→Option R):Option R:=match C fl f args h with
 |some (v,h1)=>K v h1
 |none=>none
def kE(C:Callee)(fl:Nat)(f:Value)(args:List Value)(h:AH)(K:Value→AH→Option R):Option R:=match f with
 |.func (.func g) a b=>match C fl g (a.toList++args++b.toList) h with
  |some (v,h1)=>K v h1
  |none=>none
 |_=>none
def aL(l:List Value)(K:Value→List Value→Option R):Option R:=match l with
 |v::vs=>K v vs
 |[]=>none
def ch(l:List Value)(K:Option R):Option R:=match l with
 |[]=>K
 |_=>none
def iZ(op:BinOp)(k:IntKind)(a b:Int)(K:Int→Option R):Option R:=match Cg op k a b with
 |some n=>K n
 |none=>none
def shQ(left:Bool)(k:IntKind)(a b:Int)(K:Int→Option R):Option R:=match XB left k a b with
 |some n=>K n
 |none=>none
def atQ(bs:List Nat)(n:Int)(K:Int→Option R):Option R:=if 0≤n then match bs[n.toNat]? with
 |some b=>K b
 |none=>none
 else none
end
namespace C
def m(d s:Nat):fU:=oI d (.mv (.t s))
def mc(d n:Nat):fU:=oI d (.mv (ci n))
def cm(d:Nat)(o:BinOp)(x y:Nat):fU:=oI d (.cmp o .i64 (.t x) (.t y))
def ck(d:Nat)(o:BinOp)(x n:Nat):fU:=oI d (.cmp o .i64 (.t x) (ci n))
def bb(d:Nat)(o:BinOp)(x y:Nat):fU:=oI d (.bin o .i64 (.t x) (.t y))
def bc(d:Nat)(o:BinOp)(x n:Nat):fU:=oI d (.bin o .i64 (.t x) (ci n))
def ex(d x i:Nat):fU:=oI d (.Kp (.t x) i)
def ln(d x:Nat):fU:=oI d (.len (.t x))
def no(d x:Nat):fU:=oI d (.not (.t x))
def fa(d o x:Nat):fU:=oI d (.bR o (.t x))
def ia(d e x i:Nat):fU:=oI d (.di e (.t x) (.t i))
def li(d x:Nat):fU:=oI d (.load (.one (.int .i64)) (.t x))
def ls(d x:Nat):fU:=oI d (.load (.one .slice) (.t x))
def lj(d x:Nat):fU:=oJ d (.load (.one (.int .i64)) (.t x))
def lt(d x:Nat):fU:=oJ d (.load (.one .slice) (.t x))
def sI(n a x:Nat):fU:=pI (.store n (.t a) (.t x))
def sJ(n a x:Nat):fU:=pJ (.store n (.t a) (.t x))
def kl(l:List Nat):ab:=.region [] l
end C
abbrev yy:=List Value→Option (Value×AH)
def dI(k:IntKind)(F:Int→yy):yy|.int k' n::l=>if k'=k then F n l else none|_=>none
def dS(F:Sl→yy):yy|.slice a l c::r=>F ⟨a,l,c⟩ r|_=>none
def dP(F:Addr→yy):yy|.pointer (some a)::l=>F a l|_=>none
def dN(F:Option Addr→yy):yy|.pointer a::l=>F a l|_=>none
def dV(F:Value→yy):yy|v::l=>F v l|_=>none
def dA(n:Nat)(F:yy):yy|.agg cs::l=>if cs.toList.length=n then F (cs.toList++l) else none|_=>none
def dE(x:Option (Value×AH)):yy|[]=>x|_=>none
section
variable{r:Value×AH}{G:List Value→Prop}
theorem ja{k:IntKind}{F:Int→yy}(h:∀n l,F n l=some r→G (.int k n::l))(l:List Value)(e:dI k F l=some r):G l:=by
 unfold dI at e
 split at e
 ·split at e
  ·rename_i hk;subst hk;exact h _ _ e
  ·cases e
 ·cases e
theorem pP{F:Sl→yy}(h:∀n l,F n l=some r→G (.slice n.a n.l n.c::l))(l:List Value)(e:dS F l=some r):G l:=by
 unfold dS at e
 split at e
 ·exact h ⟨_,_,_⟩ _ e
 ·cases e
theorem dP_{F:Addr→yy}(h:∀n l,F n l=some r→G (.pointer (some n)::l))(l:List Value)(e:dP F l=some r):G l:=by
 unfold dP at e
 split at e
 ·exact h _ _ e
 ·cases e
theorem dN_{F:Option Addr→yy}(h:∀n l,F n l=some r→G (.pointer n::l))(l:List Value)(e:dN F l=some r):G l:=by
 unfold dN at e
 split at e
 ·exact h _ _ e
 ·cases e
theorem dV_{F:Value→yy}(h:∀n l,F n l=some r→G (n::l))(l:List Value)(e:dV F l=some r):G l:=by
 unfold dV at e
 split at e
 ·exact h _ _ e
 ·cases e
theorem OH(n:Nat){F:yy}(h:∀l,F l=some r→G (.agg ⟨l.take n⟩::l.drop n))(l:List Value)(e:dA n F l=some r):G l:=by
 unfold dA at e
 split at e
 ·rename_i cs l'
  split at e
  ·rename_i hn
   have:=h _ e
   rw[←hn,List.take_left,List.drop_left] at this
   exact this
  ·cases e
 ·cases e
theorem tQ{x:Option (Value×AH)}(h:x=some r→G [])(l:List Value)(e:dE x l=some r):G l:=by
 unfold dE at e
 split at e
 ·exact h e
 ·cases e
end
end Go.Abs
end
section
namespace Go.Abs
def H9:ab→List ab
 |.seq a b=>H9 a++H9 b
 |a=>[a]
def Ia:Code→List ab→Option (ab×List ab)
 |.seq x y,l=>match Ia x l with
  |some (a,l1)=>match Ia y l1 with
   |some (b,l2)=>some (.seq a b,l2)
   |none=>none
  |none=>none
 |.cond _ x y,.cond c a b::l=>match Ia x (H9 a) with
  |some (a',[])=>match Ia y (H9 b) with
   |some (b',[])=>some (.cond c a' b',l)
   |_=>none
  |_=>none
 |.block _ x,.block id a::l=>match Ia x (H9 a) with
  |some (a',[])=>some (.block id a',l)
  |_=>none
 |.loop x,.loop a::l=>match Ia x (H9 a) with
  |some (a',[])=>some (.loop a',l)
  |_=>none
 |.exit _,.region [] kl::.exit i::l=>some (.seq (.region [] kl) (.exit i),l)
 |.ret,.region [] kl::.ret::l=>some (.seq (.region [] kl) .ret,l)
 |.exit _,a::l=>some (a,l)
 |.ret,a::l=>some (a,l)
 |.skip,a::l=>some (a,l)
 |.region _ _ _,a::l=>some (a,l)
 |_,_=>none
def mkA:List ab→ab
 |[]=>.skip
 |a::l=>.seq a (mkA l)
structure pD(a b:ab):Prop where
 eq:∀(R:Type) (C:Callee) (fl k:Nat) (s:List Value) (h:AH) (K:nZ→List Value→AH→Option R),bN C fl k a s h K=bN C fl k b s h K
theorem pD.refl(a:ab):pD a a:=⟨fun _ _ _ _ _ _ _=>rfl⟩
theorem pD.symm{a b:ab}(h:pD a b):pD b a:=⟨fun _ C fl k s q K=>(h.1 _ C fl k s q K).symm⟩
theorem pD.trans{a b c:ab}(h:pD a b)(g:pD b c):pD a c:=⟨fun _ C fl k s q K=>(h.1 _ C fl k s q K).trans (g.1 _ C fl k s q K)⟩
theorem pD.seq{a b c d:ab}(h:pD a b)(g:pD c d):pD (.seq a c) (.seq b d):=⟨fun _ C fl k s q K=>by
 rw[vj,vj,h.1]
 have:bT C fl k c K=bT C fl k d K:=by
  funext f s q
  cases f with
  |normal=>exact g.1 _ C fl k s q K
  |exit i=>rfl
  |ret=>rfl
 rw[this]⟩
theorem pD.cond{c:my}{a b a' b':ab}(h:pD a a')(g:pD b b'):pD (.cond c a b) (.cond c a' b'):=⟨fun _ C fl k s q K=>by
 simp only[bN]
 congr 1
 funext t
 rw[h.1,g.1]⟩
theorem pD.block{id:Nat}{a b:ab}(h:pD a b):pD (.block id a) (.block id b):=⟨fun _ C fl k s q K=>by
 simp only[bN];rw[h.1]⟩
theorem pD.loop{a b:ab}(h:pD a b):pD (.loop a) (.loop b):=⟨fun _ C fl k s q K=>by
 simp only[bN]
 simp only[h.1]⟩
theorem pD.assoc{a b c:ab}:pD (.seq (.seq a b) c) (.seq a (.seq b c)):=⟨fun _ C fl k s q K=>by
 have:bT C fl k b (bT C fl k c K)=bT C fl k (.seq b c) K:=by
  funext f s q
  cases f<;>rfl
 rw[vj,vj,vj,this]⟩
theorem pD.unit{a:ab}:pD (.seq a .skip) a:=⟨fun _ C fl k s q K=>by
 rw[vj]
 congr 1
 funext f s q
 cases f<;>rfl⟩
theorem pD.skip{a:ab}:pD (.seq .skip a) a:=⟨fun _ _ _ _ _ _ _=>rfl⟩
theorem abC(l m:List ab):pD (mkA (l++m)) (.seq (mkA l) (mkA m)):=by
 induction l with
 |nil=>exact pD.skip.symm
 |cons a l ih=>exact(pD.seq (.refl _) ih).trans pD.assoc.symm
theorem DK:∀(a:ab),pD a (mkA (H9 a))
 |.seq a b=>((DK a).seq (DK b)).trans (abC _ _).symm
 |.skip=>pD.unit.symm
 |.cond _ _ _=>pD.unit.symm
 |.block _ _=>pD.unit.symm
 |.loop _=>pD.unit.symm
 |.exit _=>pD.unit.symm
 |.ret=>pD.unit.symm
 |.region _ _=>pD.unit.symm
theorem af3(g:Code)(l:List ab):∀{b:ab} {m:List ab},Ia g l=some (b,m)→pD (mkA l) (.seq b (mkA m)):=by
 have one:∀{a b:ab} {l m:List ab},some (a,l)=some (b,m)→pD (mkA (a::l)) (.seq b (mkA m)):=by
  intro a b l m h
  injection h with h;injection h with h1 h2;subst h1;subst h2;exact .refl _
 have nil:∀{a b:ab},pD (mkA (H9 a)) (.seq b (mkA []))→pD a b:=fun h=>(DK _).trans (h.trans pD.unit)
 fun_induction Ia g l with
 |case1 l x y a l1 h1 b l2 h2 hx hy=>
  intro c m h
  injection h with h;injection h with h3 h4;subst h3;subst h4
  exact(hx h1).trans ((pD.seq (.refl _) (hy h2)).trans pD.assoc.symm)
 |case4 o x y c a b l a' h1 b' h2 hx hy=>
  intro d m h
  injection h with h;injection h with h3 h4;subst h3;subst h4
  exact pD.seq (pD.cond (nil (hx h1)) (nil (hy h2))) (.refl _)
 |case7 _ x id a l b' h1 hx=>
  intro d m h
  injection h with h;injection h with h3 h4;subst h3;subst h4
  exact pD.seq (pD.block (nil (hx h1))) (.refl _)
 |case9 x a l b' h1 hx=>
  intro d m h
  injection h with h;injection h with h3 h4;subst h3;subst h4
  exact pD.seq (pD.loop (nil (hx h1))) (.refl _)
 |case11|case12=>
  intro d m h
  injection h with h;injection h with h3 h4;subst h3;subst h4
  exact pD.assoc.symm
 |case13|case14|case15|case16=>intro d m h;exact one h
 |_=>intro d m h;cases h
def Uk(P:Program)(f:FuncId)(af:aB):Option aB:=match P.funcs[f]? with
 |some fd=>match fd.body with
  |some c=>match Ia c (H9 af.body) with
   |some (b,[])=>some ⟨af.ntmps,b,af.results⟩
   |_=>none
  |none=>none
 |none=>none
def okF(P:Program)(f:FuncId)(af:aB):Bool:=match Uk P f af with
 |some a=>FK P f a
 |none=>false
theorem abD{P:Program}{f:FuncId}{af a:aB}(h:Uk P f af=some a){C:Callee}{fl k:Nat}{args:List Value}{q:AH}:bk C fl k a args q=bk C fl k af args q:=by
 unfold Uk at h
 split at h
 ·split at h
  ·split at h
   ·rename_i b hb
    injection h with h;subst h
    have:=(DK af.body).trans ((af3 _ _ hb).trans pD.unit)
    exact(this.1 _ C fl k _ q _).symm
   ·cases h
  ·cases h
 ·cases h
def shT(P:Program)(T:FuncId→Option aB):FuncId→Option aB:=fun f=>(T f).bind fun af=>Uk P f af
theorem aiQ{P:Program}{T:FuncId→Option aB}(h:∀f af,T f=some af→okF P f af=true):∀f af,shT P T f=some af→FK P f af=true:=by
 intro f a ha
 unfold shT at ha
 cases hf:T f with
 |none=>rw[hf] at ha;cases ha
 |some af=>
  rw[hf] at ha
  have hk:=h f af hf
  unfold okF at hk
  simp only[Option.bind_some] at ha
  rw[ha] at hk
  exact hk
theorem adf{P:Program}{T:FuncId→Option aB}{E:Callee}(h:∀f af,T f=some af→okF P f af=true){f:FuncId}{af:aB}(hf:T f=some af){fl k:Nat}{args:List Value}{q:AH}{r:Value×AH}
 (e:bk (CC (shT P T) E) fl k af args q=some r):CC (shT P T) E fl f args q=some r:=by
 have hk:=h f af hf
 unfold okF at hk
 split at hk
 ·rename_i a ha
  refine at9 (af:=a) (k:=k) ?_ ?_
  ·unfold shT;rw[hf];exact ha
  ·rw[abD ha];exact e
 ·cases hk
end Go.Abs
end
section
namespace Go.Abs
open Go.RowKit
theorem yo.below{base aq μ h w w'}(s:yo base aq μ h w)(b:Below w.heap.size w w'):yo base aq μ h w' where
 cell bb cs rb o h1 h2 j v hv:=by
  obtain⟨v',a,c⟩:=s.cell bb cs rb o h1 h2 j v hv
  have hl:=s.lt _ _ _ h2
  exact⟨v',by rw[DE (b.block rb hl)];exact a,c.mono (fun _ _ h=>h) fun _ _ _ hm=>by rw[xh (b.block _ (s.lt _ _ _ hm))];exact Nat.le_refl _⟩
 own bb cs rb o h0 h1 h2:=by rw[b.block rb (s.lt _ _ _ h2)];exact s.own bb cs rb o h0 h1 h2
 inj:=s.inj
 lt bb rb o hb:=Nat.lt_of_lt_of_le (s.lt bb rb o hb) b.size
 Po:=s.Po
theorem bY.below{fl base aq μ h w w'}(s:yo base aq μ h w)(b:Below w.heap.size w w'):bY fl base aq μ h w μ h w' where
 eV:=s.below b
 mu _ _:=rfl
 nx:=Nat.le_refl _
 TU _ _ _:=rfl
 dead _ cs _ h:=⟨cs,h⟩
 fr rb h _:=b.block rb h
 sz rb h:=xh (b.block rb h)
 hs:=b.size
 os:=b.os
 tape:=b.tape
 output:=b.output
 new b _ _ _ h1 h2:=by omega
theorem bY.found{fl base aq μ h w w'}(s:yo base aq μ h w)(b:Below w.heap.size w w')(hr:aq≤w.heap.size)(hf:μ h.next=none){g:Nat}(hg:w.heap.size≤g){cs:List Value}{c:Array Value}{t:TypeId}
 (hgb:w'.heap[g]?=some (.cells c t (0,0))) (hc:∀(j:Nat) v,cs[j]?=some v→∃v',c[j]?=some v'∧cC μ (c8 w) v v'):
 bY fl base aq μ h w (ext μ h.next (g,0)) (h.alloc cs) w':=by
 have ho:=b.block
 have hgl:g<w'.heap.size:=(Array.getElem?_eq_some_iff.1 hgb).1
 have hle:=abq (x:=(g,0)) hf
 have Dz:∀b rb o,μ b=some (rb,o)→c8 w rb≤c8 w' rb:=fun b rb o hb=>by rw[xh (ho rb (s.lt b rb o hb))];exact Nat.le_refl _
 have mw:∀b eE,(h.alloc cs).iq b=some eE→(b=h.next∧eE=cs)∨(b≠h.next∧h.iq b=some eE):=by
  intro b eE hb
  by_cases e:b=h.next
  ·simp[AH.alloc,e] at hb;exact .inl ⟨e,hb.symm⟩
  ·simp[AH.alloc,e] at hb;exact .inr ⟨e,hb⟩
 refine {eV:={cell:=?_,own:=?_,inj:=?_,lt:=?_,Po:=?_},mu:=?_,nx:=?_,TU:=?_,dead:=?_,fr:=?_,sz:=?_,hs:=b.size,os:=b.os,tape:=b.tape,output:=b.output,new:=?_}
 ·intro b eE rb o FE jq j v hv
  rcases mw b eE FE with⟨rfl,rfl⟩|⟨iH,HI⟩
  ·rw[bW] at jq;injection jq with jq;injection jq with e1 e2;subst e1;subst e2
   obtain⟨v',h1,h2⟩:=hc j v hv
   exact⟨v',by rw[mZ hgb,Nat.zero_add];exact h1,h2.mono hle Dz⟩
  ·rw[gE iH] at jq
   obtain⟨v',h1,h2⟩:=s.cell b eE rb o HI jq j v hv
   exact⟨v',by rw[DE (ho rb (s.lt b rb o jq))];exact h1,h2.mono hle Dz⟩
 ·intro b eE rb o Xy FE jq
  rcases mw b eE FE with⟨rfl,rfl⟩|⟨iH,HI⟩
  ·rw[bW] at jq;injection jq with jq;injection jq with e1 e2;subst e1
   exact⟨Nat.le_trans hr hg,c,t,hgb⟩
  ·rw[gE iH] at jq
   rw[ho rb (s.lt b rb o jq)]
   exact s.own b eE rb o Xy HI jq
 ·intro b b' cs1 cs2 rb o o' Xy h1 h2 m1 m2
  rcases mw b cs1 h1 with⟨rfl,rfl⟩|⟨iH,h1'⟩
  ·rcases mw b' cs2 h2 with⟨rfl,rfl⟩|⟨RT,h2'⟩
   ·rfl
   ·rw[bW] at m1;injection m1 with m1;injection m1 with e1 e2;subst e1
    rw[gE RT] at m2
    exact absurd (s.lt b' _ _ m2) (by omega)
  ·rw[gE iH] at m1
   rcases mw b' cs2 h2 with⟨rfl,rfl⟩|⟨RT,h2'⟩
   ·rw[bW] at m2;injection m2 with m2;injection m2 with e1 e2;subst e1
    exact absurd (s.lt b _ _ m1) (by omega)
   ·rw[gE RT] at m2
    exact s.inj b b' cs1 cs2 rb o o' Xy h1' h2' m1 m2
 ·intro bb rb o jq
  by_cases e:bb=h.next
  ·subst e;rw[bW] at jq;injection jq with jq;injection jq with e1 e2;omega
  ·rw[gE e] at jq;have:=s.lt bb rb o jq;have:=b.size;omega
 ·intro b eE FE
  show b<h.next+1
  rcases mw b eE FE with⟨rfl,rfl⟩|⟨iH,HI⟩
  ·omega
  ·have:=s.Po b eE HI;omega
 ·intro b hb
  refine gE ?_
  rintro rfl
  exact hb ⟨Nat.le_refl _,Nat.lt_succ_self _⟩
 ·exact Nat.le_succ _
 ·intro b hb _
  simp[AH.alloc,Nat.ne_of_lt hb]
 ·intro b eE hb FE
  rcases mw b eE FE with⟨rfl,rfl⟩|⟨iH,HI⟩
  ·omega
  ·exact⟨_,HI⟩
 ·intro rb EC _;exact ho rb EC
 ·intro rb EC;exact xh (ho rb EC)
 ·intro b eE rb o h1 h2 jq _
  have:b=h.next:=by have:b<h.next+1:=h2;omega
  subst this
  rw[bW] at jq;injection jq with jq;injection jq with e1 e2;exact .inl (by omega)
def To:Value→Bool
 |.int .i64 _=>true
 |_=>false
theorem af4{v:Value}(h:To v=true):∃n,v=.int .i64 n:=by
 unfold To at h
 split at h
 ·exact⟨_,rfl⟩
 ·cases h
theorem adg:∀{xs:List Value},xs.all To=true→∃zs:List Int,xs=zs.map (Value.int .i64)
 |[],_=>⟨[],rfl⟩
 |x::xs,h=>by
  simp only[List.all_cons,Bool.and_eq_true] at h
  obtain⟨zs,e⟩:=adg h.2
  obtain⟨n,e1⟩:=af4 h.1
  exact⟨n::zs,by simp[e,e1]⟩
end Go.Abs
end
section
namespace Go.Abs
open Go.RowKit
theorem PK{α:Type}:∀{l:List (Nat×α)} {f:Nat} {a:α},l.lookup f=some a→(f,a)∈l
 |[],_,_,h=>by cases h
 |(g,b)::l,f,a,h=>by
  simp only[List.lookup] at h
  split at h
  ·rename_i e
   injection h with h
   have:f=g:=by simpa using e
   subst this;subst h;exact List.mem_cons_self
  ·exact List.mem_cons_of_mem _ (PK h)
theorem ar{α:Type}{b:Bool}{x y:Option α}{r:α}{Q:Prop}(e:cond b x y=some r)(h1:x=some r→Q)(h2:y=some r→Q):Q:=by
 cases b
 ·exact h2 e
 ·exact h1 e
def aiR(T:FuncId→Option aB)(C E:Callee)(fl k f:Nat)(args:List Value)(h:AH)(r:Value×AH):Prop:=
 E fl f args h=some r∨∃af,T f=some af∧bk C fl k af args h=some r
theorem leaf{T:FuncId→Option aB}{C E:Callee}{fl k f:Nat}{args:List Value}{h:AH}{r:Value×AH}{j:Nat}{af:aB}{d:Option (Value×AH)}(hT:T j=some af)
 (hd:d=some r→bk C fl k af args h=some r) (e:cond (Nat.beq f j) d (E fl f args h)=some r):aiR T C E fl k f args h r:=by
 cases hb:Nat.beq f j with
 |false=>rw[hb] at e;exact .inl e
 |true=>
  rw[hb] at e
  have:=Nat.eq_of_beq_eq_true hb
  subst this
  exact .inr ⟨af,hT,hd e⟩
theorem cD{T:FuncId→Option aB}{C E:Callee}{fl k f:Nat}{args:List Value}{h:AH}{r:Value×AH}{j:Nat}{af:aB}{d:yy}(hT:T j=some af)
 (hd:∀l,d l=some r→bk C fl k af l h=some r) (e:cond (Nat.beq f j) (d args) (E fl f args h)=some r):aiR T C E fl k f args h r:=leaf hT (hd args) e
def aiS(aal:Callee→Callee→Nat→Nat→Nat→List Value→AH→Option (Value×AH))(E:Callee):Nat→Callee
 |0=>fun _ _ _ _=>none
 |k+1=>fun fl f args h=>aal (aiS aal E k) E fl k f args h
theorem abE{C C':Callee}(hC:∀fl f args h r,C fl f args h=some r→C' fl f args h=some r){fl k:Nat}{af:aB}{args:List Value}{h:AH}{r:Value×AH}(e:bk C fl k af args h=some r):∃n,bk C' fl n af args h=some r:=by
 unfold bk at e
 have:=nA (C:=C) (F:=fun _=>C') (fun fl f args h r e=>⟨0,fun _ _=>hC _ _ _ _ _ e⟩) af.body _ h (aE af.results) (fun _=>aE af.results) (fun f s h e=>⟨0,fun _ _=>e⟩) e
 obtain⟨n,hn⟩:=this
 exact⟨n,hn n (Nat.le_refl _)⟩
theorem XP{P:Program}{T:FuncId→Option aB}{E:Callee}{aal:Callee→Callee→Nat→Nat→Nat→List Value→AH→Option (Value×AH)}(hT:∀f af,T f=some af→okF P f af=true)
 (hE:∀fl f args h r,E fl f args h=some r→T f=none) (hd:∀C fl k f args h r,aal C E fl k f args h=some r→aiR T C E fl k f args h r):
 ∀k fl f args h r,aiS aal E k fl f args h=some r→CC (shT P T) E fl f args h=some r
 |0,_,_,_,_,_,e=>by cases e
 |k+1,fl,f,args,h,r,e=>by
  rcases hd _ _ _ _ _ _ _ e with e|⟨af,ha,e⟩
  ·refine abB ?_ e
   unfold shT
   rw[hE _ _ _ _ _ e];rfl
  ·obtain⟨n,hn⟩:=abE (C':=CC (shT P T) E) (fun fl f args h r e=>XP hT hE hd k fl f args h r e) e
   exact adf hT ha hn
def PL(g:FuncId)(v:Value):Callee:=fun _ f args h=>if f=g∧args.isEmpty=true then some (v,h) else none
theorem FL{g v fl f args h r}(e:PL g v fl f args h=some r):f=g∧args=[]∧r=(v,h):=by
 unfold PL at e
 split at e
 ·rename_i q
  simp only[Option.some.injEq] at e
  exact⟨q.1,by simpa using q.2,e.symm⟩
 ·cases e
theorem Ul{P:Program}{C:Callee}(hC:fx P C){g:FuncId}{b:Bool}{h1:AH}(e:C 0 g [] ⟨0,fun _=>none⟩=some (.bool b,h1)):fx P (PL g (.bool b)) where
 step fl f args h v h2 e2:=by
  obtain⟨_,_,e3⟩:=FL e2
  injection e3 with e3 e4;subst e4;exact bJ.refl _ _
 fn fl f args h v h2 e2:=by
  obtain⟨rfl,_⟩:=FL e2
  exact hC.fn _ _ _ _ _ _ e
 sound fl f args h v h2 e2 base aq μ w args' s hb bL hr ha hf:=by
  obtain⟨rfl,rfl,e3⟩:=FL e2
  injection e3 with e3 e4;subst e3;subst e4
  have ea:args'=[]:=by have:=ha.1;cases args' with|nil=>rfl|cons _ _=>cases this
  subst ea
  have s0:yo 0 w.heap.size (fun _=>none) ⟨0,fun _=>none⟩ w:={cell:=fun b cs rb o h=>(by cases h),own:=fun b cs rb o _ h=>(by cases h),inj:=fun b b' cs eE rb o o' _ h=>(by cases h),lt:=fun b rb o h=>(by cases h),Po:=fun b cs h=>(by cases h)}
  refine(hC.sound 0 f [] ⟨0,fun _=>none⟩ (.bool b) h1 e 0 w.heap.size (fun _=>none) w [] s0 (Nat.le_refl _) (Nat.le_refl _) (Nat.le_refl _) bq.nil (fun _ _ _=>rfl)).mono ?_
  rintro e' w' ⟨v',μ',rfl,p,hv⟩
  have:=hv.tz
  subst this
  exact⟨_,μ,rfl,bY.below s ⟨p.os,p.tape,p.output,p.hs,fun rb EC=>p.fr rb EC fun b cs o _ _ h=>(by cases h)⟩,.bool b⟩
def orE(E1 E2:Callee):Callee:=fun fl f args h=>match E1 fl f args h with
 |some r=>some r
 |none=>E2 fl f args h
theorem Um{E1 E2:Callee}{fl f args h r}(e:orE E1 E2 fl f args h=some r):E1 fl f args h=some r∨E2 fl f args h=some r:=by
 unfold orE at e
 split at e
 ·rename_i r' h1;rw[h1];exact .inl e
 ·exact .inr e
theorem Tp{P:Program}{E1 E2:Callee}(h1:fx P E1)(h2:fx P E2):fx P (orE E1 E2) where
 step fl f args h v h3 e:=(Um e).elim (h1.step _ _ _ _ _ _) (h2.step _ _ _ _ _ _)
 fn fl f args h v h3 e:=(Um e).elim (h1.fn _ _ _ _ _ _) (h2.fn _ _ _ _ _ _)
 sound fl f args h v h3 e:=(Um e).elim (h1.sound _ _ _ _ _ _) (h2.sound _ _ _ _ _ _)
end Go.Abs
end
section
namespace Go.Abs
def Un(ops:Array Oper)(al:List bD)(cl:List Nat):Bool:=
 HZ 0 ops.toList&&
 ((List.range al.length).all (fun j=>(List.range j).all fun i=>match al[i]?,al[j]? with
   |some x,some y=>!(DJ x y||(!(x.op.pure||cl.contains i)&&!(y.op.pure||cl.contains j)&&(x.Ku||y.Ku)))||((anV ops.toList []).getD j 0).testBit i
   |_,_=>true)&&
 cl.all (fun i=>match al[i]? with|some x=>!x.Ku|none=>true))
section
variable{P:Program}{C:Callee}{fl base aq hend:Nat}{μ0:Mu}{h0:AH}{w0:World}
theorem KK{R:Type}{r:R}(hC:fx P C)(hm:P.follows .mixedOrders=true){id:Nat}{ops:Array Oper}{al:List bD}{cl:List Nat}(ok1:gN P ops ops.toList al=true)(ok2:Un ops al cl=true)
 {K:List Value→AH→Option R} (hK:∀s h,K s h=some r→h.next≤hend) {s:List Value} {h:AH} {a:Act} {w:World} {μ:Mu} {Q:Exit→Act→World→Prop} (e:pz C fl al s h K=some r)
 (anb:∀(S:Nat→List Value) (H:Nat→AH) (V:Nat→Value),S 0=s→H 0=h→(∀(i:Nat) x,al[i]?=some x→Ag C fl x (S i) (H i)=some (V i,H (i+1))∧S (i+1)=mY (S i) x.dst (V i))→
  ∀j∈cl,∀x,al[j]?=some x→H (j+1)=H j∧∀p,p≤al.length→∀f,Ag C f x (S j) (H p)=some (V j,H p))
 (g:Good fl base aq hend μ0 h0 w0 μ h w s a) (hQ:∀s' h' a' w' μ',K s' h'=some r→Good fl base aq hend μ0 h0 w0 μ' h' w' s' a'→Q .normal a' w'):(Code.region id ops true).wp P Q a w:=by
 obtain⟨S,H,V,s0,e0,lZ,hk⟩:=Ug e
 have hcm:=anb S H V s0 e0 lZ
 unfold Un at ok2
 simp only[Bool.and_eq_true,List.all_eq_true,List.mem_range] at ok2
 obtain⟨o1,o2,o3⟩:=ok2
 have hl:=Cs ok1
 have hlen:al.length=ops.size:=by rw[hl];simp
 have d:DR P C fl base aq ops al S H V (fun i=>(∃x,al[i]?=some x∧x.op.pure=true)∨i∈cl):={
  hC:=hC,len:=hlen
  ok:=fun i o x ho hx=>FJ ok1 i o x (by simpa using ho) hx
  auO:=fun i o ho e he hb=>by
   have:=Aj o1 i o (by simpa using ho) e he hb
   omega
  ord:=fun E hE i j x y Xv hx hy hmo hEj=>by
   have h1:=o2 j (List.getElem?_eq_some_iff.1 hy).1 i Xv
   rw[hx,hy] at h1
   have h2:(DJ x y||(!(x.op.pure||cl.contains i)&&!(y.op.pure||cl.contains j)&&(x.Ku||y.Ku)))=true:=by
    rcases hmo with hd|⟨n1,n2,h3⟩
    ·rw[hd];rfl
    ·have p1:x.op.pure=false:=by cases hxp:x.op.pure with|false=>rfl|true=>exact absurd (.inl ⟨x,hx,hxp⟩) n1
     have p2:y.op.pure=false:=by cases hyp:y.op.pure with|false=>rfl|true=>exact absurd (.inl ⟨y,hy,hyp⟩) n2
     have c1:cl.contains i=false:=by
      cases hc:cl.contains i with
      |false=>rfl
      |true=>exact absurd (.inr (by simpa using hc)) n1
     have c2:cl.contains j=false:=by
      cases hc:cl.contains j with
      |false=>rfl
      |true=>exact absurd (.inr (by simpa using hc)) n2
     rw[p1,p2,c1,c2]
     rcases h3 with h3|h3<;>simp[h3]
   simp only[h2,Bool.not_true,Bool.false_or] at h1
   refine KI (E:=E) ops.toList [] (fun j i hb=>by simp at hb) (fun j o ho hj=>?_) j i h1 hEj
   exact hE j o (by simpa using ho) (by simpa using hj)
  run:=lZ
  fl0:=by rw[e0];exact g.ctx.bL
  wf0:=by rw[e0];exact g.ctx.eV.Po
  hb:=g.ctx.hb
  calm:=fun j x hx hc=>by
   rcases hc with⟨y,hy,hp⟩|hc
   ·rw[hx] at hy;injection hy with hy;subst hy
    have:=PH hp (lZ j x hx).1
    exact⟨this.1,fun p _ f=>this.2 f (H p)⟩
   ·exact hcm j hc x hx
  amM:=fun j x hx hp=>.inl ⟨x,hx,hp⟩
  acM:=fun j x hx hi hc=>by
   rcases hc with⟨y,hy,hp⟩|hc
   ·rw[hx] at hy;injection hy with hy;subst hy
    rw[hi.1] at hp;cases hp
   ·have:=o3 j hc
    rw[hx] at this
    simp only[Bool.not_eq_true'] at this
    have h3:=hi.2
    rw[this] at h3;cases h3}
 refine wp_region_any hm ?_
 have p1:bY fl base aq μ h w μ h {w with drawn:=w.drawn+1}:=bY.heap g.ctx.eV rfl rfl rfl rfl
 obtain⟨p,q1,q2,q3,q4⟩:=H6 al al.length 0 (by omega)
 have hq:=d.quiet (i:=0) q1 q2 fun k y k1 k2 hy=>q4 k y k1 k2 hy
 have aaR:(H al.length).next≤hend:=hK _ _ hk
 have hfr:gL μ (H 0).next hend:=by rw[e0];exact g.fresh
 have amU:yo base aq μ (H 0) {w with drawn:=w.drawn+1}:=by rw[e0];exact p1.eV
 have hg:bY fl base aq μ (H 0) {w with drawn:=w.drawn+1} μ (H p) {w with drawn:=w.drawn+1}:=
  bY.Uh amU hq (d.wf q2) (hfr.sub (Nat.le_refl _) (Nat.le_trans (d.mono (i:=p) (j:=al.length) q2 (Nat.le_refl _)) aaR))
 have p1':bY fl base aq μ (H 0) w μ (H 0) {w with drawn:=w.drawn+1}:=by rw[e0];exact p1
 have hL:∀i,¬(Array.replicate ops.size false).getD i false=true:=by
  intro i
  rw[Array.getD_eq_getD_getElem?,Array.getElem?_replicate]
  split<;>simp
 have v:H7 d μ w a hend (Array.replicate ops.size false) a {w with drawn:=w.drawn+1} μ s p:={
  size:=by simp
  dc:=fun k o _ hk=>absurd hk (hL k)
  dfr:=rfl
  t:=p1.afV g.ctx.eV (fun b h1 h2=>by omega) g.ctx.t
  cut:=fun t=>⟨0,Nat.zero_le _,fun i x _ _ hi=>absurd hi (hL i),fun i x _ _ _=>Nat.zero_le _,by rw[s0]⟩
  ple:=q2
  pat:=fun x hx=>⟨q3 x hx,hL p⟩
  plt:=fun i x hi hx Cd=>absurd Cd (q4 i x (Nat.zero_le _) hi hx)
  post:=p1'.trans hg (Nat.le_refl _)
  fresh:=fun i hi _=>hfr.sub (d.mono (i:=0) (j:=i) (Nat.zero_le _) (by omega)) (Nat.le_trans (d.mono (i:=i+1) (j:=al.length) (by omega) (Nat.le_refl _)) aaR)
  Ub:=hfr.sub (d.mono (i:=0) (j:=al.length) (Nat.zero_le _) (Nat.le_refl _)) (Nat.le_refl _)
  hr:=g.ctx.hr}
 refine XK (d:=d) (μ0:=μ) (w0:=w) (a0:=a) (hend:=hend) (fun a' w' μ' ht hd hp=>?_) ops.size _ a _ μ s p v (by rw[s0]) ?_
 ·rw[e0] at hp
  exact hQ _ _ a' w' μ' hk (g.next (r:=r) hp ht hd)
 ·unfold left
  exact Nat.le_trans List.countP_le_length (by simp)
theorem abF(hC:fx P C)(hm:P.follows .mixedOrders=true){f:FuncId}{fd:Func}{id nt:Nat}{ops:Array Oper}{al:List bD}{cl:List Nat}(hfd:P.funcs[f]?=some fd)(hc:fd.body=some (.region id ops true))(k2:fd.ntmps=nt)(k3:fd.results=#[])
 (ok1:gN P ops ops.toList al=true) (ok2:Un ops al cl=true) {args:List Value} {h h1:AH} {v:Value}
 (e:pz C fl al (args++List.replicate (nt-args.length) undef) h (fun _ h=>some (.tuple ⟨[]⟩,h))=some (v,h1))
 (anb:∀(S:Nat→List Value) (H:Nat→AH) (V:Nat→Value),S 0=args++List.replicate (nt-args.length) undef→H 0=h→(∀(i:Nat) x,al[i]?=some x→Ag C fl x (S i) (H i)=some (V i,H (i+1))∧S (i+1)=mY (S i) x.dst (V i))→
  ∀j∈cl,∀x,al[j]?=some x→H (j+1)=H j∧∀p,p≤al.length→∀f,Ag C f x (S j) (H p)=some (V j,H p))
 {μ:Mu} {w:World} {args':List Value} (sm:yo base aq μ h w) (hb:base≤fl) (bL:fl≤h.next) (hr:aq≤w.heap.size)
 (ha:bq μ (c8 w) args args') (hf:gL μ h.next h1.next):
 Calls P f args'.toArray w fun e w'=>∃v' μ',e=.returned v'∧bY fl base aq μ h w μ' h1 w'∧cC μ' (c8 w') v v':=by
 refine calls_of_wp hfd hc ?_
 have ht:bq μ (c8 w) (args++List.replicate (nt-args.length) undef) (args'.toArray++Array.replicate (fd.ntmps-args'.toArray.size) undef).toList:=by
  simp only[Array.toList_append,Array.toList_replicate,List.size_toArray]
  rw[k2,←ha.1]
  refine ha.append ⟨by simp,fun i h1 h2=>?_⟩
  rw[List.getElem_replicate]
  exact .ue _
 have g:Good fl base aq h1.next μ h w μ h w (args++List.replicate (nt-args.length) undef) {tmps:=args'.toArray++Array.replicate (fd.ntmps-args'.toArray.size) undef,defers:=[]}:=
  ⟨bY.refl sm,⟨sm,hb,bL,hr,ht⟩,rfl,hf⟩
 refine KK (r:=(v,h1)) hC hm ok1 ok2 (K:=fun _ h=>some (.tuple ⟨[]⟩,h)) ?_ e anb g ?_
 ·intro s' h' he
  simp only[Option.some.injEq,Prod.mk.injEq] at he
  rw[he.2];exact Nat.le_refl _
 ·intro s' h' a' w' μ' he g'
  simp only[Option.some.injEq,Prod.mk.injEq] at he
  obtain⟨rfl,rfl⟩:=he
  refine⟨g'.dfr,.tuple #[],?_,.tuple #[],μ',rfl,g'.post,?_⟩
  ·unfold results
   rw[k3,Array.mapM_eq_mapM_toList]
   simp only[List.mapM_nil,Sem.run_bind,Sem.run_map,Sem.run_pure,Result.andThen_ok]
   rfl
  ·exact .tuple rfl (fun i h1 h2=>by cases h1)
end
end Go.Abs
end
section
namespace Go.Abs
inductive Tr where
 |lf
 |nd (v:Value) (l r:Tr)
noncomputable def gv(t:Tr):Nat→Value:=Tr.rec (motive:=fun _=>Nat→Value) (fun _=>undef)
 (fun v _ _ gl gr i=>cond (Nat.beq i 0) v (cond (Nat.beq (Nat.mod i 2) 1) (gl (Nat.div i 2)) (gr (Nat.sub (Nat.div i 2) 1)))) t
noncomputable def sF(x:Value)(n:Nat):Tr→Nat→Tr:=Nat.rec (motive:=fun _=>Tr→Nat→Tr) (fun t _=>t)
 (fun _ ih t i=>Tr.rec (motive:=fun _=>Tr)
  (cond (Nat.beq i 0) (.nd x .lf .lf) (cond (Nat.beq (Nat.mod i 2) 1) (.nd undef (ih .lf (Nat.div i 2)) .lf) (.nd undef .lf (ih .lf (Nat.sub (Nat.div i 2) 1)))))
  (fun v l r _ _=>cond (Nat.beq i 0) (.nd x l r) (cond (Nat.beq (Nat.mod i 2) 1) (.nd v (ih l (Nat.div i 2)) r) (.nd v l (ih r (Nat.sub (Nat.div i 2) 1))))) t) n
theorem xk{α:Type}(b:Bool)(x y:α):cond b x y=if b=true then x else y:=by cases b<;>rfl
theorem anZ(i j:Nat):(Nat.beq i j=true)=(i=j):=propext ⟨Nat.eq_of_beq_eq_true,fun h=>by subst h;exact Nat.beq_refl i⟩
theorem Ib(v:Value)(l r:Tr)(i:Nat):gv (.nd v l r) i=if i=0 then v else if i%2=1 then gv l (i/2) else gv r (i/2-1):=by
 show cond (Nat.beq i 0) v (cond (Nat.beq (i%2) 1) (gv l (i/2)) (gv r (i/2-1)))=_
 simp only[xk,anZ]
theorem awI(x:Value)(n i:Nat):sF x (n+1) .lf i=if i=0 then .nd x .lf .lf else if i%2=1 then .nd undef (sF x n .lf (i/2)) .lf else .nd undef .lf (sF x n .lf (i/2-1)):=by
 show cond (Nat.beq i 0) (Tr.nd x .lf .lf) (cond (Nat.beq (i%2) 1) (Tr.nd undef (sF x n .lf (i/2)) .lf) (Tr.nd undef .lf (sF x n .lf (i/2-1))))=_
 simp only[xk,anZ]
theorem awJ(x v:Value)(l r:Tr)(n i:Nat):sF x (n+1) (.nd v l r) i=if i=0 then .nd x l r else if i%2=1 then .nd v (sF x n l (i/2)) r else .nd v l (sF x n r (i/2-1)):=by
 show cond (Nat.beq i 0) (Tr.nd x l r) (cond (Nat.beq (i%2) 1) (Tr.nd v (sF x n l (i/2)) r) (Tr.nd v l (sF x n r (i/2-1))))=_
 simp only[xk,anZ]
theorem as0(x:Value):∀(n:Nat) (t:Tr) (i j:Nat),i<2^n-1→gv (sF x n t i) j=if j=i then x else gv t j:=by
 intro n
 induction n with
 |zero=>intro t i j h;simp at h
 |succ n ih=>
  intro t i j h
  rw[Nat.pow_succ] at h
  cases t with
  |lf=>
   rw[awI]
   by_cases h0:i=0
   ·rw[if_pos h0,Ib]
    subst h0
    by_cases hj:j=0
    ·rw[if_pos hj,if_pos hj]
    ·rw[if_neg hj,if_neg hj];split<;>rfl
   ·rw[if_neg h0]
    by_cases h1:i%2=1
    ·rw[if_pos h1,Ib]
     by_cases hj:j=0
     ·rw[if_pos hj,if_neg (by omega)];rfl
     ·rw[if_neg hj]
      by_cases Aa:j%2=1
      ·rw[if_pos Aa,ih _ _ _ (by omega)]
       by_cases e:j=i
       ·rw[if_pos e,if_pos (by rw[e])]
       ·rw[if_neg e,if_neg (by omega)];rfl
      ·rw[if_neg Aa,if_neg (by omega)];rfl
    ·rw[if_neg h1,Ib]
     by_cases hj:j=0
     ·rw[if_pos hj,if_neg (by omega)];rfl
     ·rw[if_neg hj]
      by_cases Aa:j%2=1
      ·rw[if_pos Aa,if_neg (by omega)];rfl
      ·rw[if_neg Aa,ih _ _ _ (by omega)]
       by_cases e:j=i
       ·rw[if_pos e,if_pos (by rw[e])]
       ·rw[if_neg e,if_neg (by omega)];rfl
  |nd v l r=>
   rw[awJ]
   by_cases h0:i=0
   ·rw[if_pos h0,Ib,Ib]
    subst h0
    by_cases hj:j=0
    ·rw[if_pos hj,if_pos hj]
    ·rw[if_neg hj,if_neg hj,if_neg hj]
   ·rw[if_neg h0]
    by_cases h1:i%2=1
    ·rw[if_pos h1,Ib,Ib]
     by_cases hj:j=0
     ·rw[if_pos hj,if_pos hj,if_neg (by omega)]
     ·rw[if_neg hj,if_neg hj]
      by_cases Aa:j%2=1
      ·rw[if_pos Aa,if_pos Aa,ih _ _ _ (by omega)]
       by_cases e:j=i
       ·rw[if_pos e,if_pos (by rw[e])]
       ·rw[if_neg e,if_neg (by omega)]
      ·rw[if_neg Aa,if_neg Aa,if_neg (by omega)]
    ·rw[if_neg h1,Ib,Ib]
     by_cases hj:j=0
     ·rw[if_pos hj,if_pos hj,if_neg (by omega)]
     ·rw[if_neg hj,if_neg hj]
      by_cases Aa:j%2=1
      ·rw[if_pos Aa,if_pos Aa,if_neg (by omega)]
      ·rw[if_neg Aa,if_neg Aa,ih _ _ _ (by omega)]
       by_cases e:j=i
       ·rw[if_pos e,if_pos (by rw[e])]
       ·rw[if_neg e,if_neg (by omega)]
noncomputable def sv(n:Nat)(e:Tr)(i:Nat)(v:Value):Tr:=cond (Nat.blt i n) (sF v 10 e i) e
noncomputable def evE(e:Tr)(o:my):Value:=my.rec (motive:=fun _=>Value) (fun i=>gv e i) (fun v=>v) (fun id=>.func (.func id) #[] #[]) o
noncomputable def cE(e:Tr)(o:my):my:=.c (evE e o)
noncomputable def auc(e:Tr):HO→HO
 |.mv x=>.mv (cE e x)
 |.pick c a b=>.pick (cE e c) (cE e a) (cE e b)
 |.box x=>.box (cE e x)
 |.alloc z=>.alloc z
 |.build z ps=>.build z (ps.map fun p=>(p.1,p.2.1,cE e p.2.2))
 |.aO len z ps=>.aO len z (ps.map fun p=>(p.1,p.2.1,cE e p.2.2))
 |.load sh a=>.load sh (cE e a)
 |.store n a x=>.store n (cE e a) (cE e x)
 |.cg x=>.cg (cE e x)
 |.bin op k x y=>.bin op k (cE e x) (cE e y)
 |.sh l k yk x y=>.sh l k yk (cE e x) (cE e y)
 |.cmp op k x y=>.cmp op k (cE e x) (cE e y)
 |.beq n x y=>.beq n (cE e x) (cE e y)
 |.Fc n x=>.Fc n (cE e x)
 |.not x=>.not (cE e x)
 |.neg k x=>.neg k (cE e x)
 |.conv a b x=>.conv a b (cE e x)
 |.vf f a b=>.vf f (a.map (cE e)) (b.map (cE e))
 |.cH n z l c=>.cH n z (cE e l) (cE e c)
 |.slice n x lo hi mx=>.slice n (cE e x) (lo.map (cE e)) (hi.map (cE e)) (mx.map (cE e))
 |.bR o x=>.bR o (cE e x)
 |.di n x i=>.di n (cE e x) (cE e i)
 |.Kp x i=>.Kp (cE e x) i
 |.call f as sh=>.call (cE e f) (as.map (cE e)) sh
 |.len x=>.len (cE e x)
 |.append n b s x=>.append n b (cE e s) (cE e x)
 |.copy n d s=>.copy n (cE e d) (cE e s)
 |.mm m x y=>.mm m (cE e x) (cE e y)
 |.Kq k bs i=>.Kq k bs (cE e i)
def TL(e:Tr)(s:List Value):Prop:=∀i,gv e i=s.getD i undef
theorem TL.ev{e s}(r:TL e s)(o:my):ev [] (cE e o)=ev s o:=by
 cases o with
 |t i=>exact r i
 |c v=>rfl
 |f i=>rfl
section
variable{R:Type}{C:Callee}{fl k n:Nat}
theorem TL.fill{e s}(r:TL e s):∀(ps:List (Nat×Nat×my)) (z:List Value),pC [] (ps.map fun p=>(p.1,p.2.1,cE e p.2.2)) z=pC s ps z
 |[],z=>rfl
 |(a,b,x)::ps,z=>by
  simp only[List.map_cons,pC,r.ev,r.fill ps]
theorem TL.opt{e s}(r:TL e s)(o:Option my)(K:Option Int→Option R):fT [] (o.map (cE e)) K=fT s o K:=by
 cases o with
 |none=>rfl
 |some x=>simp only[Option.map_some,fT,r.ev]
theorem TL.op{e s}(r:TL e s)(h:AH)(o:HO)(K:Value→AH→Option R):cQ C fl [] h (auc e o) K=cQ C fl s h o K:=by
 cases o<;>simp only[auc,cQ,r.ev,r.fill,r.opt,List.map_map]
 all_goals
  have hm:∀l:List my,l.map (Abs.ev []∘cE e)=l.map (Abs.ev s):=fun l=>List.map_congr_left fun x _=>r.ev x
  simp only[hm]
theorem TL.set{e s}(r:TL e s)(hs:s.length=n)(hn:n<1000)(i:Nat)(v:Value):TL (sv n e i v) (s.set i v):=by
 intro j
 unfold sv
 rw[xk]
 by_cases hi:i<n
 ·have hb:Nat.blt i n=true:=Nat.ble_eq_true_of_le hi
  rw[if_pos hb,as0 v 10 e i j (by omega)]
  by_cases hj:j=i
  ·subst hj
   simp[List.getD_eq_getElem?_getD,hs,hi]
  ·rw[if_neg hj,r j]
   simp[List.getD_eq_getElem?_getD,List.getElem?_set_ne (fun e=>hj e.symm)]
 ·have hb:¬Nat.blt i n=true:=fun h=>hi (Nat.le_of_ble_eq_true h)
  rw[if_neg hb,r j,List.set_eq_of_length_le (by omega)]
noncomputable def pX(n:Nat)(e:Tr)(d:Option Nat)(v:Value):Tr:=Option.rec (motive:=fun _=>Tr) e (fun i=>sv n e i v) d
theorem TL.put{e s}(r:TL e s)(hs:s.length=n)(hn:n<1000)(d:Option Nat)(v:Value):TL (pX n e d v) (mY s d v)∧(mY s d v).length=n:=by
 cases d with
 |none=>exact⟨r,hs⟩
 |some i=>exact⟨r.set hs hn i v,by simp[mY,hs]⟩
noncomputable def adh(C:Callee)(fl n:Nat)(o:bD)(e:Tr)(h:AH)(K:Tr→AH→Option R):Option R:=
 cQ C (cond o.Ku fl h.next) [] h (auc e o.op) fun v h1=>K (pX n e o.dst v) h1
noncomputable def Tq(C:Callee)(fl n:Nat)(os:List bD):Tr→AH→(Tr→AH→Option R)→Option R:=
 List.rec (motive:=fun _=>Tr→AH→(Tr→AH→Option R)→Option R) (fun e h K=>K e h) (fun o _ ih e h K=>adh C fl n o e h fun e h=>ih e h K) os
noncomputable def skX(n:Nat)(os:List bD):Tr→Tr:=List.rec (motive:=fun _=>Tr→Tr) (fun e=>e) (fun o _ ih e=>ih (pX n e o.dst yq)) os
noncomputable def aue(a b:Bool):Bool:=Bool.rec (not b) b a
noncomputable def PM(C:Callee)(fl n:Nat)(is:List fU):Tr→AH→(Tr→AH→Option R)→Option R:=
 List.rec (motive:=fun _=>Tr→AH→(Tr→AH→Option R)→Option R) (fun e h K=>K e h)
  (fun i _ ih e h K=>fU.rec (motive:=fun _=>Option R) (fun o=>adh C fl n o e h fun e h=>ih e h K)
   (fun g want os=>XA (gv e g) (fun b=>cond (aue b want) (Tq C fl n os (sv n e g (.bool want)) h fun e h=>ih e h K) (ih (skX n os (sv n e g (.bool (!want)))) h K)) (ih (skX n os e) h K)) i) is
noncomputable def klX(n:Nat)(l:List Nat):Tr→Tr:=List.rec (motive:=fun _=>Tr→Tr) (fun e=>e) (fun t _ ih e=>ih (sv n e t undef)) l
noncomputable def as1(m:Nat)(step:Tr→AH→(Tr→AH→Option R)→Option R):Tr→AH→Option R:=
 Nat.rec (motive:=fun _=>Tr→AH→Option R) (fun _ _=>none) (fun _ ih e h=>step e h ih) m
noncomputable def XQ(C:Callee)(fl k n:Nat)(c:ab):Tr→AH→(nZ→Tr→AH→Option R)→Option R:=
 ab.rec (motive:=fun _=>Tr→AH→(nZ→Tr→AH→Option R)→Option R)
  (fun e h K=>K .normal e h)
  (fun _ _ ia ib e h K=>ia e h fun f e h=>nZ.rec (motive:=fun _=>Option R) (ib e h K) (fun i=>K (.exit i) e h) (K .ret e h) f)
  (fun c _ _ ia ib e h K=>asBool (evE e c) fun t=>cond t (ia e h K) (ib e h K))
  (fun id _ ib e h K=>ib e h fun f e h=>nZ.rec (motive:=fun _=>Option R) (K .normal e h) (fun i=>cond (Nat.beq i id) (K .normal e h) (K (.exit i) e h)) (K .ret e h) f)
  (fun _ ib e h K=>as1 k (fun e h next=>ib e h fun f e h=>nZ.rec (motive:=fun _=>Option R) (next e h) (fun i=>K (.exit i) e h) (K .ret e h) f) e h)
  (fun id e h K=>K (.exit id) e h)
  (fun e h K=>K .ret e h)
  (fun is kill e h K=>PM C fl n is e h fun e h=>K .normal (klX n kill e) h) c
noncomputable def af5(rs:List Ci)(e:Tr)(h:AH):(List Value→Option R)→Option R:=
 List.rec (motive:=fun _=>(List Value→Option R)→Option R) (fun K=>K []) (fun r _ ih K=>Ci.rec (motive:=fun _=>Option R) (fun t=>ih fun vs=>K (gv e t::vs)) (fun t sh=>cT (gv e t) fun a=>match sh with
     |.one s0=>KA s0 h a.block a.off fun v=>ih fun vs=>K (v::vs)
     |.agg l=>Ff l h a.block a.off fun cs=>ih fun vs=>K (.agg ⟨cs⟩::vs)) r) rs
noncomputable def azh(rs:List Ci):nZ→Tr→AH→Option (Value×AH):=fun f e h=>
 nZ.rec (motive:=fun _=>Option (Value×AH)) (af5 rs e h fun vs=>some (abo vs,h)) (fun _=>none) (af5 rs e h fun vs=>some (abo vs,h)) f
noncomputable def aiT(l:List Value):Nat→Tr→Tr:=List.rec (motive:=fun _=>Nat→Tr→Tr) (fun _ e=>e) (fun v _ ih i e=>ih (Nat.succ i) (sF v 10 e i)) l
noncomputable def fF(C:Callee)(fl k:Nat)(af:aB)(args:List Value)(h:AH):Option (Value×AH):=
 cond (and (Nat.ble args.length af.ntmps) (Nat.blt af.ntmps 1000)) (XQ C fl k af.ntmps af.body (aiT args 0 .lf) h (azh af.results)) none
theorem XR(hn:n<1000){o:bD}{e s h}{K:Tr→AH→Option R}{K':List Value→AH→Option R}(r:TL e s)(hs:s.length=n)(hK:∀e s h,TL e s→s.length=n→K e h=K' s h):
 adh C fl n o e h K=cQ C (if o.Ku=true then fl else h.next) s h o.op fun v h1=>K' (mY s o.dst v) h1:=by
 unfold adh
 rw[r.op,xk]
 congr 1
 funext v h1
 exact hK _ _ _ (r.put hs hn _ _).1 (r.put hs hn _ _).2
theorem XS(hn:n<1000):∀(os:List bD) {e s h} {K:Tr→AH→Option R} {K':List Value→AH→Option R} (_:TL e s) (_:s.length=n) (_:∀e s h,TL e s→s.length=n→K e h=K' s h),Tq C fl n os e h K=FG C fl os s h K'
 |[],e,s,h,K,K',r,hs,hK=>hK _ _ _ r hs
 |o::os,e,s,h,K,K',r,hs,hK=>XR (K:=fun e h=>Tq C fl n os e h K) (K':=fun s h=>FG C fl os s h K') hn r hs fun e s h r hs=>XS hn os r hs hK
theorem PN(hn:n<1000):∀(os:List bD) {e s} (_:TL e s) (_:s.length=n),TL (skX n os e) (HP os s)∧(HP os s).length=n
 |[],e,s,r,hs=>⟨r,hs⟩
 |o::os,e,s,r,hs=>PN hn os (r.put hs hn o.dst yq).1 (r.put hs hn o.dst yq).2
theorem abG(hn:n<1000):∀(l:List Nat) {e s} (_:TL e s) (_:s.length=n),TL (klX n l e) (Ch l s)∧(Ch l s).length=n
 |[],e,s,r,hs=>⟨r,hs⟩
 |t::l,e,s,r,hs=>abG hn l (r.set hs hn t undef) (by simp[hs])
theorem Ic(hn:n<1000):∀(is:List fU) {e s h} {K:Tr→AH→Option R} {K':List Value→AH→Option R} (_:TL e s) (_:s.length=n) (_:∀e s h,TL e s→s.length=n→K e h=K' s h),PM C fl n is e h K=xX C fl is s h K'
 |[],e,s,h,K,K',r,hs,hK=>hK _ _ _ r hs
 |.op o::is,e,s,h,K,K',r,hs,hK=>XR (K:=fun e h=>PM C fl n is e h K) (K':=fun s h=>xX C fl is s h K') hn r hs fun e s h r hs=>Ic hn is r hs hK
 |.fb g want os::is,e,s,h,K,K',r,hs,hK=>by
  show XA (gv e g) (fun b=>cond (aue b want) (Tq C fl n os (sv n e g (.bool want)) h fun e h=>PM C fl n is e h K) (PM C fl n is (skX n os (sv n e g (.bool (!want)))) h K)) (PM C fl n is (skX n os e) h K)=_
  simp only[xX]
  rw[r g,Ic hn is (PN hn os r hs).1 (PN hn os r hs).2 hK]
  congr 1
  funext b
  have hb:cond (aue b want) (Tq C fl n os (sv n e g (.bool want)) h fun e h=>PM C fl n is e h K) (PM C fl n is (skX n os (sv n e g (.bool (!want)))) h K)=
   if b=want then Tq C fl n os (sv n e g (.bool want)) h (fun e h=>PM C fl n is e h K) else PM C fl n is (skX n os (sv n e g (.bool (!want)))) h K:=by
   cases b<;>cases want<;>rfl
  rw[hb]
  have r1:=r.set hs hn g (.bool want)
  have r2:=r.set hs hn g (.bool (!want))
  rw[XS (K:=fun e h=>PM C fl n is e h K) (K':=fun s h=>xX C fl is s h K') hn os r1 (by simp[hs]) (fun e s h r hs=>Ic hn is r hs hK),Ic hn is (PN hn os r2 (by simp[hs])).1 (PN hn os r2 (by simp[hs])).2 hK]
theorem vy(hn:n<1000):∀(c:ab) {e s h} {K:nZ→Tr→AH→Option R} {K':nZ→List Value→AH→Option R} (_:TL e s) (_:s.length=n) (_:∀f e s h,TL e s→s.length=n→K f e h=K' f s h),XQ C fl k n c e h K=bN C fl k c s h K'
 |.skip,e,s,h,K,K',r,hs,hK=>hK _ _ _ _ r hs
 |.ret,e,s,h,K,K',r,hs,hK=>hK _ _ _ _ r hs
 |.exit i,e,s,h,K,K',r,hs,hK=>hK _ _ _ _ r hs
 |.seq a b,e,s,h,K,K',r,hs,hK=>by
  simp only[bN]
  refine vy hn a r hs fun f e s h r hs=>?_
  cases f with
  |normal=>exact vy hn b r hs hK
  |exit i=>exact hK _ _ _ _ r hs
  |ret=>exact hK _ _ _ _ r hs
 |.cond c a b,e,s,h,K,K',r,hs,hK=>by
  show asBool (evE e c) (fun t=>cond t (XQ C fl k n a e h K) (XQ C fl k n b e h K))=_
  simp only[bN]
  have hc:evE e c=ev s c:=r.ev c
  rw[hc,vy hn a r hs hK,vy hn b r hs hK]
  congr 1
  funext t
  rw[xk]
 |.block id c,e,s,h,K,K',r,hs,hK=>by
  simp only[bN]
  refine vy hn c r hs fun f e s h r hs=>?_
  cases f with
  |normal=>exact hK _ _ _ _ r hs
  |exit i=>
   show cond (Nat.beq i id) _ _=_
   rw[xk]
   simp only[anZ]
   split
   ·exact hK _ _ _ _ r hs
   ·exact hK _ _ _ _ r hs
  |ret=>exact hK _ _ _ _ r hs
 |.loop c,e,s,h,K,K',r,hs,hK=>by
  simp only[bN]
  have key:∀m {e s h},TL e s→s.length=n→as1 m (fun e h next=>XQ C fl k n c e h fun f e h=>nZ.rec (motive:=fun _=>Option R) (next e h) (fun i=>K (.exit i) e h) (K .ret e h) f) e h=
   aQ m (fun s h next=>bN C fl k c s h fun f s h=>match f with
    |.normal=>next s h
    |.exit i=>K' (.exit i) s h
    |.ret=>K' .ret s h) s h:=by
   intro m
   induction m with
   |zero=>intro e s h _ _;rfl
   |succ m ih=>
    intro e s h r hs
    refine vy hn c r hs fun f e s h r hs=>?_
    cases f with
    |normal=>exact ih r hs
    |exit i=>exact hK _ _ _ _ r hs
    |ret=>exact hK _ _ _ _ r hs
  exact key k r hs
 |.region is kill,e,s,h,K,K',r,hs,hK=>Ic hn is r hs fun e s h r hs=>hK _ _ _ _ (abG hn kill r hs).1 (abG hn kill r hs).2
theorem Ie{e s}(r:TL e s)(h:AH):∀(rs:List Ci) (K:List Value→Option R),af5 rs e h K=FH rs s h K
 |[],K=>rfl
 |.tmp t::rs,K=>by
  show af5 rs e h (fun vs=>K (gv e t::vs))=_
  rw[r t,Ie r h rs];rfl
 |.cell t sh::rs,K=>by
  show cT (gv e t) (fun a=>match sh with
   |.one s0=>KA s0 h a.block a.off fun v=>af5 rs e h fun vs=>K (v::vs)
   |.agg l=>Ff l h a.block a.off fun cs=>af5 rs e h fun vs=>K (.agg ⟨cs⟩::vs))=_
  simp only[FH]
  rw[r t]
  congr 1
  funext a
  cases sh with
  |one s0=>simp only[Ie r h rs]
  |agg l=>simp only[Ie r h rs]
theorem Ts:∀(l:List Value) (i:Nat) (e:Tr),i+l.length<1000→∀j,gv (aiT l i e) j=if i≤j∧j<i+l.length then l.getD (j-i) undef else gv e j
 |[],i,e,_,j=>by rw[if_neg (by simp only[List.length_nil];omega)];rfl
 |v::l,i,e,h,j=>by
  simp only[List.length_cons] at h ⊢
  show gv (aiT l (i+1) (sF v 10 e i)) j=_
  rw[Ts l (i+1) _ (by omega) j,as0 v 10 e i j (by omega)]
  by_cases hj:j=i
  ·subst hj
   rw[if_neg (by omega),if_pos rfl,if_pos (by omega)];simp
  ·by_cases h2:i+1≤j∧j<i+1+l.length
   ·rw[if_pos h2,if_pos (by omega),show j-i=(j-(i+1))+1 by omega];simp
   ·rw[if_neg h2,if_neg hj,if_neg (by omega)]
theorem aiU{af:aB}{args:List Value}{h:AH}{r:Value×AH}(e:fF C fl k af args h=some r):bk C fl k af args h=some r:=by
 unfold fF at e
 rw[xk] at e
 split at e
 ·rename_i hc
  simp only[Bool.and_eq_true] at hc
  have h1:=Nat.le_of_ble_eq_true hc.1
  have h2:af.ntmps<1000:=Nat.le_of_ble_eq_true hc.2
  rw[←e]
  unfold bk
  refine(vy h2 af.body ?_ (by simp;omega) ?_).symm
  ·intro j
   rw[Ts args 0 .lf (by omega) j]
   simp only[Nat.zero_le,true_and,Nat.zero_add,Nat.sub_zero]
   by_cases hj:j<args.length
   ·rw[if_pos hj];simp[List.getD_eq_getElem?_getD,List.getElem?_append_left hj]
   ·rw[if_neg hj]
    simp only[List.getD_eq_getElem?_getD,List.getElem?_append_right (Nat.le_of_not_lt hj),List.getElem?_replicate]
    split<;>rfl
  ·intro f e s h r hs
   cases f with
   |normal=>exact Ie r h _ _
   |exit i=>rfl
   |ret=>exact Ie r h _ _
 ·cases e
theorem c7{T:FuncId→Option aB}{E:Callee}{f:Nat}{args:List Value}{h:AH}{r:Value×AH}{j:Nat}{af:aB}(hT:T j=some af)
 (e:cond (Nat.beq f j) (fF C fl k af args h) (E fl f args h)=some r):aiR T C E fl k f args h r:=leaf hT aiU e
end
end Go.Abs
end
