/- Shortened by a program of ours out of readable texts. -/
import Derived.Orders
import Derived.Below
import Derived.Laws.AppendOwn
import Derived.Laws.Sem
import Derived.Laws.Entries
import Derived.Laws.Slices
import Derived.Laws.CopyRow
import Derived.ChangeKeysEq
import Derived.Laws.MakeOwn
import Derived.Great.BuildSlice
import Derived.LoopN
section
namespace Go.Abs
structure AH where
 next:Nat
 iN:Nat→Option (List Value)
def AH.cell(h:AH)(b o:Nat):Option Value:=match h.iN b with|some cs=>cs[o]?|none=>none
def AH.alloc(h:AH)(cs:List Value):AH:=⟨h.next+1,fun b=>if b=h.next then some cs else h.iN b⟩
def AH.put(h:AH)(b:Nat)(x:Option (List Value)):AH:=⟨h.next,fun c=>if c=b then x else h.iN c⟩
def oB:Nat:=2^63
def kc:Nat:=2^47
structure Sl where
 a:Option Addr
 l:Nat
 c:Nat
def Sl.v(s:Sl):Value:=.slice s.a s.l s.c
inductive S0 where
 |any|int (k:IntKind)|bool|slice|ptr|l0
inductive S1 where
 |one (s:S0)|agg (l:List S0)
inductive S2 where
 |one (s:S1)|ke (l:List S1)
section
variable{R:Type}
def asInt(k:IntKind)(v:Value)(K:Int→Option R):Option R:=match v with
 |.int k' n=>if k'=k then K n else none
 |_=>none
def asBool(v:Value)(K:Bool→Option R):Option R:=match v with
 |.bool b=>K b
 |_=>none
def asG(v:Value)(K:Bool→Option R)(k:Option R):Option R:=match v with
 |.bool b=>K b
 |.complex .f32 _ _=>k
 |_=>none
def aX(v:Value)(K:Sl→Option R):Option R:=match v with
 |.slice a l c=>K ⟨a,l,c⟩
 |_=>none
def bz(v:Value)(K:Addr→Option R):Option R:=match v with
 |.pointer (some a)=>K a
 |_=>none
def ek(v:Value)(K:Option Addr→Option R):Option R:=match v with
 |.pointer a=>K a
 |_=>none
def qE(s:S0)(v:Value)(K:Value→Option R):Option R:=match s with
 |.any=>K v
 |.int k=>asInt k v fun n=>K (.int k n)
 |.bool=>asBool v fun b=>K (.bool b)
 |.slice=>aX v fun s=>K (.slice s.a s.l s.c)
 |.ptr=>bz v fun a=>K (.pointer (some a))
 |.l0=>ek v fun a=>K (.pointer a)
def EK:List S0→List Value→(List Value→Option R)→Option R
 |[],vs,K=>match vs with|[]=>K []|_=>none
 |s::ss,vs,K=>match vs with|v::vs=>qE s v fun v'=>EK ss vs fun Dc=>K (v'::Dc)|[]=>none
def asAgg(v:Value)(K:List Value→Option R):Option R:=match v with
 |.agg cs=>K cs.toList
 |_=>none
def MS(s:S1)(v:Value)(K:Value→Option R):Option R:=match s with
 |.one s=>qE s v K
 |.agg l=>asAgg v fun cs=>EK l cs fun fC=>K (.agg ⟨fC⟩)
def EL:List S1→List Value→(List Value→Option R)→Option R
 |[],vs,K=>match vs with|[]=>K []|_=>none
 |s::ss,vs,K=>match vs with|v::vs=>MS s v fun v'=>EL ss vs fun Dc=>K (v'::Dc)|[]=>none
def aE(v:Value)(K:List Value→Option R):Option R:=match v with
 |.tuple cs=>K cs.toList
 |_=>none
def Ub(s:S2)(v:Value)(K:Value→Option R):Option R:=match s with
 |.one s=>MS s v K
 |.ke l=>aE v fun cs=>EL l cs fun fC=>K (.tuple ⟨fC⟩)
def ld(h:AH)(a:Addr)(K:Value→Option R):Option R:=match h.cell a.block a.off with
 |some v=>K v
 |none=>none
def abu(s:S0)(h:AH)(b o:Nat)(K:Value→Option R):Option R:=match h.cell b o with
 |some v=>qE s v K
 |none=>none
def V4:List S0→AH→Nat→Nat→(List Value→Option R)→Option R
 |[],_,_,_,K=>K []
 |s::ss,h,b,o,K=>abu s h b o fun v=>V4 ss h b (o+1) fun vs=>K (v::vs)
def nQ:List Value→Nat→List Value→List Value
 |cs,_,[]=>cs
 |cs,o,x::xs=>nQ (cs.set o x) (o+1) xs
def De:Value→Bool
 |.agg _|.tuple _|.complex _ _ _=>false
 |_=>true
def st(fl:Nat)(h:AH)(a:Addr)(xs:List Value)(K:AH→Option R):Option R:=match h.iN a.block with
 |some cs=>if fl≤a.block then if 0<xs.length then if a.off+xs.length≤cs.length then if xs.all De=true then K (h.put a.block (some (nQ cs a.off xs))) else none else none else none else none
 |none=>none
def GO(h:AH)(a:Option Addr)(n:Nat)(K:List Value→Option R):Option R:=match a with
 |none=>if n=0 then K [] else none
 |some a=>match h.iN a.block with
  |some cs=>if a.off+n≤cs.length then K ((cs.drop a.off).take n) else none
  |none=>none
def dn(fl kY bytes:Nat)(s x:Sl)(h:AH)(K:Sl→AH→Option R):Option R:=
 if x.l=0 then K s h else
 if (s.l+x.l)*bytes≤kc then
  GO h x.a (x.l*kY) fun xs=>
  match s.a with
  |none=>if s.l=0∧s.c=0 then K ⟨some ⟨h.next,0,none⟩,x.l,oB+kY⟩ (h.alloc xs) else none
  |some a=>
   if s.c<oB then
    if s.l+x.l≤s.c then
     st fl h ⟨a.block,a.off+s.l*kY,none⟩ xs fun h1=>K ⟨s.a,s.l+x.l,s.c⟩ h1
    else GO h s.a (s.l*kY) fun ys=>K ⟨some ⟨h.next,0,none⟩,s.l+x.l,oB+kY⟩ (h.alloc (ys++xs))
   else
    if fl≤a.block∧s.c=oB+kY∧xs.all De=true then
     GO h s.a (s.l*kY) fun ys=>K ⟨some ⟨h.next,0,none⟩,s.l+x.l,oB+kY⟩ ((h.put a.block none).alloc (ys++xs))
    else none
 else none
def Uc(z:List Value)(n:Nat):List Value:=(List.replicate n z).flatten
def qF(bytes:Nat)(z:List Value)(l c:Int)(h:AH)(K:Sl→AH→Option R):Option R:=
 if 0≤l∧l≤c∧c*bytes≤kc then K ⟨some ⟨h.next,0,none⟩,l.toNat,c.toNat⟩ (h.alloc (Uc z c.toNat)) else none
def sub(kY:Nat)(s:Sl)(lo hi mx:Option Int)(K:Sl→Option R):Option R:=
 if s.c<oB then
  if 0≤lo.getD 0∧lo.getD 0≤hi.getD s.l∧hi.getD s.l≤mx.getD s.c∧mx.getD s.c≤s.c then
   K ⟨if mx.getD s.c=lo.getD 0 then s.a else s.a.map fun a=>⟨a.block,a.off+(lo.getD 0).toNat*kY,none⟩,(hi.getD s.l-lo.getD 0).toNat,(mx.getD s.c-lo.getD 0).toNat⟩
  else none
 else if s.c=oB+kY∧mx.isNone=true then
  if 0≤lo.getD 0∧lo.getD 0≤hi.getD s.l∧hi.getD s.l≤s.l then
   K ⟨s.a.map fun a=>⟨a.block,a.off+(lo.getD 0).toNat*kY,none⟩,(hi.getD s.l-lo.getD 0).toNat,s.c⟩
  else none
 else none
def idx(kY:Nat)(s:Sl)(i:Int)(K:Addr→Option R):Option R:=match s.a with
 |some a=>if 0≤i then if i<s.l then K ⟨a.block,a.off+i.toNat*kY,none⟩ else none else none
 |none=>none
def cpy(fl kY:Nat)(d s:Sl)(h:AH)(K:Int→AH→Option R):Option R:=
 if min s.l d.l=0 then K 0 h else
 GO h s.a (min s.l d.l*kY) fun xs=>match d.a with
  |some a=>st fl h a xs fun h1=>K (min s.l d.l:Nat) h1
  |none=>none
end
inductive sW where
 |t (i:Nat)|c (v:Value)|f (id:Nat)
def ev(st:List Value):sW→Value
 |.t i=>st.getD i undef
 |.c v=>v
 |.f id=>.func (.func id) #[] #[]
inductive V5 where
 |mv (x:sW)
 |pick (c a b:sW)
 |box (x:sW)
 |alloc (z:List Value)
 |build (z:List Value) (parts:List (Nat×Nat×sW))
 |bq (len:Nat) (z:List Value) (parts:List (Nat×Nat×sW))
 |load (sh:S1) (a:sW)
 |store (n:Nat) (a x:sW)
 |cQ (x:sW)
 |bin (op:BinOp) (k:IntKind) (x y:sW)
 |sh (left:Bool) (k yk:IntKind) (x y:sW)
 |cmp (op:BinOp) (k:IntKind) (x y:sW)
 |beq (neg:Bool) (x y:sW)
 |TQ (neg:Bool) (x:sW)
 |not (x:sW)
 |neg (k:IntKind) (x:sW)
 |conv (src dst:IntKind) (x:sW)
 |Da (f:FuncId) (first captured:List sW)
 |dj (bytes:Nat) (z:List Value) (l c:sW)
 |slice (kY:Nat) (x:sW) (lo hi mx:Option sW)
 |cW (off:Nat) (x:sW)
 |eE (kY:Nat) (x i:sW)
 |aal (x:sW) (i:Nat)
 |call (f:sW) (args:List sW) (sh:S2)
 |len (x:sW)
 |append (kY bytes:Nat) (s x:sW)
 |copy (kY:Nat) (d s:sW)
 |mm (isMax:Bool) (x y:sW)
 |aam (k:IntKind) (bs:List Nat) (i:sW)
def aA1:List Nat:=[0,1,2,2,3,3,3,3,4,4,4,4,4,4,4,4,5,5,5,5,5,5,5,5,5,5,5,5,5,5,5,5,6,6,6,6,6,6,6,6,6,6,6,6,6,6,6,6,6,6,6,6,6,6,6,6,6,6,6,6,6,6,6,6,7,7,7,7,7,7,7,7,7,7,7,7,7,7,7,7,7,7,7,7,7,7,7,7,7,7,7,7,7,7,7,7,7,7,7,7,7,7,7,7,7,7,7,7,7,7,7,7,7,7,7,7,7,7,7,7,7,7,7,7,7,7,7,7,8,8,8,8,8,8,8,8,8,8,8,8,8,8,8,8,8,8,8,8,8,8,8,8,8,8,8,8,8,8,8,8,8,8,8,8,8,8,8,8,8,8,8,8,8,8,8,8,8,8,8,8,8,8,8,8,8,8,8,8,8,8,8,8,8,8,8,8,8,8,8,8,8,8,8,8,8,8,8,8,8,8,8,8,8,8,8,8,8,8,8,8,8,8,8,8,8,8,8,8,8,8,8,8,8,8,8,8,8,8,8,8,8,8,8,8,8,8,8,8,8,8,8,8,8,8,8,8]
abbrev Callee:=Nat→FuncId→List Value→AH→Option (Value×AH)
def zO(st:List Value):List (Nat×Nat×sW)→List Value→Option (List Value)
 |[],z=>some z
 |(off,size,x)::ps,z=>
  let cs:=(ev st x).cells.toList
  if cs.length=size then if off+size≤z.length then if cs.all De=true then zO st ps (nQ z off cs) else none else none else none
def Iw(op:BinOp)(k:IntKind)(a b:Int):Option Int:=match op with
 |.add=>some (k.wrap (a+b))
 |.sub=>some (k.wrap (a-b))
 |.mul=>some (k.wrap (a*b))
 |.quo=>if b=0 then none else some (k.wrap (a.tdiv b))
 |.rem=>if b=0 then none else some (a.tmod b)
 |.and=>some (k.wrap (BitVec.ofInt k.bits a&&&BitVec.ofInt k.bits b).toNat)
 |.or=>some (k.wrap (BitVec.ofInt k.bits a|||BitVec.ofInt k.bits b).toNat)
 |.xor=>some (k.wrap (BitVec.ofInt k.bits a^^^BitVec.ofInt k.bits b).toNat)
 |_=>none
def aA2(op:BinOp)(a b:Int):Option Bool:=match op with
 |.eql=>some (a==b)
 |.neq=>some (a !=b)
 |.lss=>some (decide (a<b))
 |.leq=>some (decide (a≤b))
 |.gtr=>some (decide (a>b))
 |.geq=>some (decide (a≥b))
 |_=>none
def ak8(left:Bool)(k:IntKind)(x y:Int):Option Int:=
 if y<0 then none else if left then some (k.wrap (x*2^min y.toNat k.bits)) else some (x.fdiv (2^min y.toNat k.bits))
section
variable{R:Type}
def abv(C:Callee)(fl:Nat)(f:Value)(args:List Value)(sh:S2)(h:AH)(K:Value→AH→Option R):Option R:=match f with
 |.func (.func g) a b=>match C fl g (a.toList++args++b.toList) h with
  |some (v,h1)=>Ub sh v fun v'=>K v' h1
  |none=>none
 |_=>none
def j4(st:List Value)(o:Option sW)(K:Option Int→Option R):Option R:=match o with
 |none=>K none
 |some x=>match ev st x with
  |.int _ n=>K (some n)
  |_=>none
def dw(C:Callee)(fl:Nat)(s:List Value)(h:AH)(o:V5)(K:Value→AH→Option R):Option R:=match o with
 |.mv x=>K (ev s x) h
 |.pick c a b=>asBool (ev s c) fun t=>if t=true then K (ev s a) h else K (ev s b) h
 |.box x=>if (ev s x).cells.toList.all De=true then K (.pointer (some ⟨h.next,0,none⟩)) (h.alloc (ev s x).cells.toList) else none
 |.alloc z=>K (.pointer (some ⟨h.next,0,none⟩)) (h.alloc z)
 |.build z ps=>match zO s ps z with
  |some cs=>K (.agg ⟨cs⟩) h
  |none=>none
 |.bq len z ps=>match zO s ps z with
  |some cs=>K (.slice (some ⟨h.next,0,none⟩) len len) (h.alloc cs)
  |none=>none
 |.load sh a=>bz (ev s a) fun a=>match sh with
  |.one s0=>abu s0 h a.block a.off fun v=>K v h
  |.agg l=>V4 l h a.block a.off fun vs=>K (.agg ⟨vs⟩) h
 |.store n a x=>bz (ev s a) fun a=>if (ev s x).cells.toList.length=n then st fl h a (ev s x).cells.toList fun h1=>K undef h1 else none
 |.cQ x=>bz (ev s x) fun a=>K (.pointer (some a)) h
 |.bin op k x y=>asInt k (ev s x) fun a=>asInt k (ev s y) fun b=>match Iw op k a b with
  |some n=>K (.int k n) h
  |none=>none
 |.sh left k yk x y=>asInt k (ev s x) fun a=>asInt yk (ev s y) fun b=>match ak8 left k a b with
  |some n=>K (.int k n) h
  |none=>none
 |.cmp op k x y=>asInt k (ev s x) fun a=>asInt k (ev s y) fun b=>match aA2 op a b with
  |some n=>K (.bool n) h
  |none=>none
 |.beq neg x y=>asBool (ev s x) fun a=>asBool (ev s y) fun b=>K (.bool (if neg then !(a==b) else a==b)) h
 |.TQ neg x=>aX (ev s x) fun a=>K (.bool (if neg then !a.a.isNone else a.a.isNone)) h
 |.not x=>asBool (ev s x) fun b=>K (.bool (!b)) h
 |.neg k x=>asInt k (ev s x) fun n=>K (.int k (k.wrap (0-n))) h
 |.conv src dst x=>asInt src (ev s x) fun n=>K (.int dst (dst.wrap n)) h
 |.Da f a b=>K (.func (.func f) ⟨a.map (ev s)⟩ ⟨b.map (ev s)⟩) h
 |.dj bytes z l c=>asInt .i64 (ev s l) fun l=>asInt .i64 (ev s c) fun c=>qF bytes z l c h fun v h1=>K (.slice v.a v.l v.c) h1
 |.slice kY x lo hi mx=>aX (ev s x) fun v=>j4 s lo fun lo=>j4 s hi fun hi=>j4 s mx fun mx=>sub kY v lo hi mx fun v=>K (.slice v.a v.l v.c) h
 |.cW off x=>bz (ev s x) fun a=>K (.pointer (some ⟨a.block,a.off+off,none⟩)) h
 |.eE kY x i=>aX (ev s x) fun v=>asInt .i64 (ev s i) fun i=>idx kY v i fun a=>K (.pointer (some a)) h
 |.aal x i=>aE (ev s x) fun vs=>match vs[i]? with
  |some v=>K v h
  |none=>none
 |.call f args sh=>abv C fl (ev s f) (args.map (ev s)) sh h K
 |.len x=>aX (ev s x) fun v=>K (.int .i64 v.l) h
 |.append kY bytes a x=>aX (ev s a) fun a=>aX (ev s x) fun x=>dn fl kY bytes a x h fun v h1=>K (.slice v.a v.l v.c) h1
 |.copy kY d x=>aX (ev s d) fun d=>aX (ev s x) fun x=>cpy fl kY d x h fun n h1=>K (.int .i64 n) h1
 |.aam k bs i=>asInt k (ev s i) fun n=>if 0≤n then match bs[n.toNat]? with
  |some b=>K (.int .u8 b) h
  |none=>none
  else none
 |.mm isMax x y=>asInt .i64 (ev s x) fun a=>asInt .i64 (ev s y) fun b=>K (.int .i64 (if isMax then (if b>a then b else a) else (if b<a then b else a))) h
end
structure cw where
 dst:Option Nat
 op:V5
 guard:Option (Nat×Bool)
 YC:Bool
def Mg:Value:=.complex .f32 7 7
def tA(s:List Value)(d:Option Nat)(v:Value):List Value:=match d with
 |some d=>s.set d v
 |none=>s
inductive jH where
 |op (o:cw)
 |gL (g:Nat) (want:Bool) (os:List cw)
def V6(g:Nat)(want:Bool):List cw→List cw
 |[]=>[]
 |o::os=>{o with guard:=some (g,want)}::V6 g want os
def flat:List jH→List cw
 |[]=>[]
 |.op o::is=>{o with guard:=none}::flat is
 |.gL g want os::is=>V6 g want os++flat is
inductive aa where
 |skip
 |seq (a b:aa)
 |cond (c:sW) (a b:aa)
 |block (id:Nat) (body:aa)
 |loop (body:aa)
 |exit (id:Nat)
 |ret
 |region (ops:List jH) (kill:List Nat)
inductive EM where
 |normal|exit (id:Nat)|ret
def Qq:List Nat→List Value→List Value
 |[],s=>s
 |t::ts,s=>Qq ts (s.set t undef)
section
variable{R:Type}
def sX(C:Callee)(fl:Nat):List cw→List Value→AH→(List Value→AH→Option R)→Option R
 |[],s,h,K=>K s h
 |o::os,s,h,K=>match o.guard with
  |none=>dw C (if o.YC=true then fl else h.next) s h o.op fun v h1=>sX C fl os (tA s o.dst v) h1 K
  |some (g,want)=>asG (s.getD g undef) (fun b=>
   if b=want then dw C (if o.YC=true then fl else h.next) s h o.op fun v h1=>sX C fl os (tA s o.dst v) h1 K
   else sX C fl os (tA s o.dst Mg) h K) (sX C fl os (tA s o.dst Mg) h K)
def Ud(C:Callee)(fl:Nat):List cw→List Value→AH→(List Value→AH→Option R)→Option R
 |[],s,h,K=>K s h
 |o::os,s,h,K=>dw C (if o.YC=true then fl else h.next) s h o.op fun v h1=>Ud C fl os (tA s o.dst v) h1 K
def abw:List cw→List Value→List Value
 |[],s=>s
 |o::os,s=>abw os (tA s o.dst Mg)
def Ix(C:Callee)(fl:Nat):List jH→List Value→AH→(List Value→AH→Option R)→Option R
 |[],s,h,K=>K s h
 |.op o::is,s,h,K=>dw C (if o.YC=true then fl else h.next) s h o.op fun v h1=>Ix C fl is (tA s o.dst v) h1 K
 |.gL g want os::is,s,h,K=>asG (s.getD g undef) (fun b=>
  if b=want then Ud C fl os (s.set g (.bool want)) h fun s h=>Ix C fl is s h K
  else Ix C fl is (abw os (s.set g (.bool !want))) h K) (Ix C fl is (abw os s) h K)
def aQ:Nat→(List Value→AH→(List Value→AH→Option R)→Option R)→List Value→AH→Option R
 |0,_,_,_=>none
 |k+1,step,s,h=>step s h fun s h=>aQ k step s h
def cE(C:Callee)(fl k:Nat):aa→List Value→AH→(EM→List Value→AH→Option R)→Option R
 |.skip,s,h,K=>K .normal s h
 |.seq a b,s,h,K=>cE C fl k a s h fun f s h=>match f with
  |.normal=>cE C fl k b s h K
  |.exit i=>K (.exit i) s h
  |.ret=>K .ret s h
 |.cond c a b,s,h,K=>asBool (ev s c) fun t=>if t=true then cE C fl k a s h K else cE C fl k b s h K
 |.block id c,s,h,K=>cE C fl k c s h fun f s h=>match f with
  |.normal=>K .normal s h
  |.exit i=>if i=id then K .normal s h else K (.exit i) s h
  |.ret=>K .ret s h
 |.loop c,s,h,K=>aQ k (fun s h next=>cE C fl k c s h fun f s h=>match f with
  |.normal=>next s h
  |.exit i=>K (.exit i) s h
  |.ret=>K .ret s h) s h
 |.exit id,s,h,K=>K (.exit id) s h
 |.ret,s,h,K=>K .ret s h
 |.region ops kill,s,h,K=>Ix C fl ops s h fun s h=>K .normal (Qq kill s) h
end
inductive MT where
 |tmp (t:Nat)
 |cell (t:Nat) (sh:S1)
structure aK where
 ntmps:Nat
 body:aa
 results:List MT
def aA3:List Value→Value
 |[v]=>v
 |vs=>.tuple ⟨vs⟩
def Ue{R:Type}:List MT→List Value→AH→(List Value→Option R)→Option R
 |[],_,_,K=>K []
 |.tmp t::rs,s,h,K=>Ue rs s h fun vs=>K (s.getD t undef::vs)
 |.cell t sh::rs,s,h,K=>bz (s.getD t undef) fun a=>match sh with
  |.one s0=>abu s0 h a.block a.off fun v=>Ue rs s h fun vs=>K (v::vs)
  |.agg l=>V4 l h a.block a.off fun cs=>Ue rs s h fun vs=>K (.agg ⟨cs⟩::vs)
def aG(rs:List MT):EM→List Value→AH→Option (Value×AH)
 |.normal,s,h=>Ue rs s h fun vs=>some (aA3 vs,h)
 |.ret,s,h=>Ue rs s h fun vs=>some (aA3 vs,h)
 |.exit _,_,_=>none
def aV(C:Callee)(fl k:Nat)(af:aK)(args:List Value)(h:AH):Option (Value×AH):=
 cE C fl k af.body (args++List.replicate (af.ntmps-args.length) undef) h (aG af.results)
def GP(T:FuncId→Option aK)(E:Callee):Nat→Callee
 |0,_,_,_,_=>none
 |k+1,fl,f,args,h=>match T f with
  |some af=>aV (GP T E k) fl k af args h
  |none=>E fl f args h
end Go.Abs
end
section
namespace Go.Abs
def dD(w:World)(rb:Nat):Nat:=match w.heap[rb]? with
 |some (.cells c _ _)=>c.size
 |_=>0
abbrev Mu:=Nat→Option (Nat×Nat)
inductive cU (μ:Mu) (sz:Nat→Nat):Value→Value→Prop
 |xU (v):cU μ sz (.tuple #[]) v
 |skip:cU μ sz Mg (.tuple #[])
 |bool (b):cU μ sz (.bool b) (.bool b)
 |int (k n):cU μ sz (.int k n) (.int k n)
 |VY:cU μ sz (.pointer none) (.pointer none)
 |ptr {b o s rb off}:μ b=some (rb,off)→cU μ sz (.pointer (some ⟨b,o,s⟩)) (.pointer (some ⟨rb,off+o,none⟩))
 |mR:cU μ sz (.slice none 0 0) (.slice none 0 0)
 |slice {b o s rb off l c}:μ b=some (rb,off)→c<oB→l≤c→cU μ sz (.slice (some ⟨b,o,s⟩) l c) (.slice (some ⟨rb,off+o,none⟩) l c)
 |nU {b o s rb off o' l c es}:μ b=some (rb,off)→(l=0∨o'=off+o)→l≤c→o'+c*es≤sz rb→
  cU μ sz (.slice (some ⟨b,o,s⟩) l (oB+es)) (.slice (some ⟨rb,o',none⟩) l c)
 |ago {x a}:cU μ sz (.slice (some x) 0 0) (.slice (some a) 0 0)
 |nilFunc:cU μ sz .nilFunc .nilFunc
 |func {f} {f1 f2 c1 c2:List Value}:f1.length=f2.length→(∀(i:Nat) (h1:i<f1.length) (h2:i<f2.length),cU μ sz f1[i] f2[i])→
  c1.length=c2.length→(∀(i:Nat) (h1:i<c1.length) (h2:i<c2.length),cU μ sz c1[i] c2[i])→
  cU μ sz (.func (.func f) ⟨f1⟩ ⟨c1⟩) (.func (.func f) ⟨f2⟩ ⟨c2⟩)
 |agg {f1 f2:List Value}:f1.length=f2.length→(∀(i:Nat) (h1:i<f1.length) (h2:i<f2.length),cU μ sz f1[i] f2[i])→cU μ sz (.agg ⟨f1⟩) (.agg ⟨f2⟩)
 |tuple {f1 f2:List Value}:f1.length=f2.length→(∀(i:Nat) (h1:i<f1.length) (h2:i<f2.length),cU μ sz f1[i] f2[i])→cU μ sz (.tuple ⟨f1⟩) (.tuple ⟨f2⟩)
def bN(μ:Mu)(sz:Nat→Nat)(xs ys:List Value):Prop:=
 xs.length=ys.length∧∀(i:Nat) (h1:i<xs.length) (h2:i<ys.length),cU μ sz xs[i] ys[i]
theorem bN.nil{μ sz}:bN μ sz [] []:=⟨rfl,fun i h1=>by simp at h1⟩
theorem bN.cons{μ sz x y xs ys}(h:cU μ sz x y)(t:bN μ sz xs ys):bN μ sz (x::xs) (y::ys):=
 ⟨by simp[t.1],fun i h1 h2=>by
  cases i with
  |zero=>exact h
  |succ i=>exact t.2 i (by simpa using h1) (by simpa using h2)⟩
theorem bN.append{μ sz xs ys Br ys'}(h:bN μ sz xs ys)(t:bN μ sz Br ys'):bN μ sz (xs++Br) (ys++ys'):=by
 refine⟨by simp[h.1,t.1],fun i h1 h2=>?_⟩
 by_cases hi:i<xs.length
 ·rw[List.getElem_append_left hi,List.getElem_append_left (h.1▸hi)];exact h.2 i hi _
 ·have h3:¬i<ys.length:=h.1▸hi
  rw[List.getElem_append_right (by omega),List.getElem_append_right (by omega)]
  have:=t.2 (i-xs.length) (by simp at h1;omega) (by simp at h2;have:=h.1;omega)
  simp only[h.1] at this ⊢
  exact this
theorem bN.get{μ sz xs ys}(h:bN μ sz xs ys){i:Nat}{v}(hv:xs[i]?=some v):∃v',ys[i]?=some v'∧cU μ sz v v':=by
 obtain⟨hi,rfl⟩:=List.getElem?_eq_some_iff.1 hv
 have JO:i<ys.length:=h.1▸hi
 exact⟨ys[i],List.getElem?_eq_getElem JO,h.2 i hi JO⟩
theorem bN.aqP{μ sz xs ys}(hl:xs.length=ys.length)(h:∀(i:Nat) v,xs[i]?=some v→∃v',ys[i]?=some v'∧cU μ sz v v'):bN μ sz xs ys:=
 ⟨hl,fun i h1 h2=>by
  obtain⟨v',hv',hr⟩:=h i _ (List.getElem?_eq_getElem h1)
  rw[List.getElem?_eq_getElem h2] at hv'
  injection hv' with hv'
  subst hv';exact hr⟩
theorem cU.mono{μ μ':Mu}{sz sz':Nat→Nat}{v v':Value}(h:cU μ sz v v')(hm:∀b x,μ b=some x→μ' b=some x)
 (hs:∀b rb o,μ b=some (rb,o)→sz rb≤sz' rb):cU μ' sz' v v':=by
 induction h with
 |xU v=>exact .xU v
 |skip=>exact .skip
 |bool b=>exact .bool b
 |int k n=>exact .int k n
 |VY=>exact .VY
 |ptr h=>exact .ptr (hm _ _ h)
 |mR=>exact .mR
 |slice h hc h1=>exact .slice (hm _ _ h) hc h1
 |nU h h1 h2 h3=>exact .nU (hm _ _ h) h1 h2 (Nat.le_trans h3 (hs _ _ _ h))
 |ago=>exact .ago
 |nilFunc=>exact .nilFunc
 |func l1 _ l2 _ ih1 ih2=>exact .func l1 ih1 l2 ih2
 |agg l _ ih=>exact .agg l ih
 |tuple l _ ih=>exact .tuple l ih
structure Dd(base aA:Nat)(μ:Mu)(h:AH)(w:World):Prop where
 cell:∀b cs rb o,h.iN b=some cs→μ b=some (rb,o)→∀(j:Nat) v,cs[j]?=some v→∃v',w.cell? ⟨rb,o+j,none⟩=some v'∧cU μ (dD w) v v'
 own:∀b cs rb o,base≤b→h.iN b=some cs→μ b=some (rb,o)→aA≤rb∧∃c t,w.heap[rb]?=some (.cells c t (0,0))
 inj:∀b b' cs fC rb o o',base≤b→h.iN b=some cs→h.iN b'=some fC→μ b=some (rb,o)→μ b'=some (rb,o')→b=b'
 lt:∀b rb o,μ b=some (rb,o)→rb<w.heap.size
 bnd:∀b cs,h.iN b=some cs→b<h.next
structure cJ(fl base aA:Nat)(μ:Mu)(h:AH)(w:World)(μ':Mu)(h':AH)(w':World):Prop where
 gd:Dd base aA μ' h' w'
 mu:∀b,¬(h.next≤b∧b<h'.next)→μ' b=μ b
 nx:h.next≤h'.next
 old:∀b,b<h.next→b<fl→h'.iN b=h.iN b
 dead:∀b cs,b<h.next→h'.iN b=some cs→∃fC,h.iN b=some fC
 fr:∀rb,rb<w.heap.size→(∀b cs o,fl≤b→b<h.next→h.iN b=some cs→μ b≠some (rb,o))→w'.heap[rb]?=w.heap[rb]?
 sz:∀rb,rb<w.heap.size→dD w' rb=dD w rb
 hs:w.heap.size≤w'.heap.size
 os:w'.os=w.os
 tape:w'.tape=w.tape
 output:w'.output=w.output
 new:∀b cs rb o,h.next≤b→b<h'.next→μ' b=some (rb,o)→h'.iN b=some cs→
  w.heap.size≤rb∨∃b0 cs0 o0,fl≤b0∧b0<h.next∧h.iN b0=some cs0∧μ b0=some (rb,o0)
def iU(μ:Mu)(lo hi:Nat):Prop:=∀b,lo≤b→b<hi→μ b=none
theorem cJ.refl{fl base aA μ h w}(hs:Dd base aA μ h w):cJ fl base aA μ h w μ h w where
 gd:=hs
 mu _ _:=rfl
 nx:=Nat.le_refl _
 old _ _ _:=rfl
 dead _ cs _ h:=⟨cs,h⟩
 fr _ _ _:=rfl
 sz _ _:=rfl
 hs:=Nat.le_refl _
 os:=rfl
 tape:=rfl
 output:=rfl
 new b _ _ _ h1 h2:=by omega
theorem cJ.aXv{fl base aA μ h w μ' h' w'}(p:cJ fl base aA μ h w μ' h' w')(hf:iU μ h.next h'.next):∀b x,μ b=some x→μ' b=some x:=by
 intro b x hb
 rw[p.mu b,hb]
 rintro⟨h1,h2⟩
 rw[hf b h1 h2] at hb;cases hb
theorem cJ.aSZ{fl base aA μ h w μ' h' w'}(p:cJ fl base aA μ h w μ' h' w')(s:Dd base aA μ h w)(hf:iU μ h.next h'.next){v v'}(hv:cU μ (dD w) v v'):cU μ' (dD w') v v':=
 hv.mono (p.aXv hf) fun b rb o hb=>by rw[p.sz rb (s.lt b rb o hb)];exact Nat.le_refl _
theorem cJ.axB{fl base aA μ h w μ' h' w'}(p:cJ fl base aA μ h w μ' h' w')(s:Dd base aA μ h w)(hf:iU μ h.next h'.next){v v'}(hv:bN μ (dD w) v v'):bN μ' (dD w') v v':=
 ⟨hv.1,fun i h1 h2=>p.aSZ s hf (hv.2 i h1 h2)⟩
theorem cJ.fresh{fl base aA μ h w μ' h' w'}(p:cJ fl base aA μ h w μ' h' w'){hi}(hf:iU μ h.next hi):iU μ' h'.next hi:=by
 intro b h1 h2
 rw[p.mu b (by omega)]
 exact hf b (Nat.le_trans p.nx h1) h2
theorem iU.sub{μ lo hi lo' JO}(h:iU μ lo hi)(h1:lo≤lo')(h2:JO≤hi):iU μ lo' JO:=fun b a c=>h b (Nat.le_trans h1 a) (Nat.lt_of_lt_of_le c h2)
theorem cJ.trans{fl fl' base aA μ h w μ1 h1 w1 μ2 h2 w2}(p:cJ fl base aA μ h w μ1 h1 w1)(q:cJ fl' base aA μ1 h1 w1 μ2 h2 w2)(bR:fl≤fl')
 :cJ fl base aA μ h w μ2 h2 w2 where
 gd:=q.gd
 mu b hb:=by
  have:=p.nx;have:=q.nx
  rw[q.mu b (by omega),p.mu b (by omega)]
 nx:=Nat.le_trans p.nx q.nx
 old b hb hbf:=by rw[q.old b (Nat.lt_of_lt_of_le hb p.nx) (Nat.lt_of_lt_of_le hbf bR),p.old b hb hbf]
 dead b cs hb hc:=by
  obtain⟨fC,h'⟩:=q.dead b cs (Nat.lt_of_lt_of_le hb p.nx) hc
  exact p.dead b fC hb h'
 fr rb Lh hno:=by
  have e1:=p.fr rb Lh hno
  rw[←e1]
  refine q.fr rb (Nat.lt_of_lt_of_le Lh p.hs) ?_
  intro b cs o Iv nY MQ kf
  by_cases hb:b<h.next
  ·obtain⟨fC,hc'⟩:=p.dead b cs hb MQ
   rw[p.mu b (by omega)] at kf
   exact hno b fC o (Nat.le_trans bR Iv) hb hc' kf
  ·rcases p.new b cs rb o (by omega) nY kf MQ with hh|⟨b0,cs0,o0,a1,a2,a3,a4⟩
   ·omega
   ·exact hno b0 cs0 o0 a1 a2 a3 a4
 sz rb Lh:=by rw[q.sz rb (Nat.lt_of_lt_of_le Lh p.hs),p.sz rb Lh]
 hs:=Nat.le_trans p.hs q.hs
 os:=q.os.trans p.os
 tape:=q.tape.trans p.tape
 output:=q.output.trans p.output
 new b cs rb o Iv nY kf MQ:=by
  by_cases hb:b<h1.next
  ·obtain⟨fC,hc'⟩:=q.dead b cs hb MQ
   rw[q.mu b (by omega)] at kf
   exact p.new b fC rb o Iv hb kf hc'
  ·rcases q.new b cs rb o (by omega) nY kf MQ with hh|⟨b0,cs0,o0,a1,a2,a3,a4⟩
   ·exact .inl (Nat.le_trans p.hs hh)
   ·by_cases hb0:b0<h.next
    ·obtain⟨fC,hc'⟩:=p.dead b0 cs0 hb0 a3
     rw[p.mu b0 (by omega)] at a4
     exact .inr ⟨b0,fC,o0,Nat.le_trans bR a1,hb0,hc',a4⟩
    ·exact p.new b0 cs0 rb o0 (by omega) a2 a4 a3
theorem cJ.floor{fl fl' base aA μ h w μ' h' w'}(p:cJ fl' base aA μ h w μ' h' w')(bR:fl≤fl'):cJ fl base aA μ h w μ' h' w' where
 gd:=p.gd
 mu:=p.mu
 nx:=p.nx
 old b hb hbf:=p.old b hb (Nat.lt_of_lt_of_le hbf bR)
 dead:=p.dead
 fr rb Lh hno:=p.fr rb Lh fun b cs o h1=>hno b cs o (Nat.le_trans bR h1)
 sz:=p.sz
 hs:=p.hs
 os:=p.os
 tape:=p.tape
 output:=p.output
 new b cs rb o h1 h2 h3 h4:=(p.new b cs rb o h1 h2 h3 h4).imp id fun⟨b0,cs0,o0,a1,a2⟩=>⟨b0,cs0,o0,Nat.le_trans bR a1,a2⟩
end Go.Abs
end
section
namespace Go.Abs
def ext(μ:Mu)(b:Nat)(x:Nat×Nat):Mu:=fun c=>if c=b then some x else μ c
theorem cH(μ b x):ext μ b x b=some x:=by simp[ext]
theorem iI{μ:Mu}{b x c}(h:c≠b):ext μ b x c=μ c:=by simp[ext,h]
theorem aqQ{μ:Mu}{b x}(h:μ b=none):∀c y,μ c=some y→ext μ b x c=some y:=by
 intro c y hc
 rw[iI];exact hc
 rintro rfl;rw[h] at hc;cases hc
theorem BM{w w':World}{rb:Nat}(h:w'.heap[rb]?=w.heap[rb]?):dD w' rb=dD w rb:=by simp[dD,h]
theorem ie{w:World}{rb c t fr}(h:w.heap[rb]?=some (.cells c t fr)):dD w rb=c.size:=by simp[dD,h]
theorem JV{w w':World}{rb:Nat}(h:w'.heap[rb]?=w.heap[rb]?)(o:Nat):w'.cell? ⟨rb,o,none⟩=w.cell? ⟨rb,o,none⟩:=by simp[World.cell?,h]
theorem oV{w:World}{rb c t fr}(h:w.heap[rb]?=some (.cells c t fr))(o:Nat):w.cell? ⟨rb,o,none⟩=c[o]?:=by simp[World.cell?,h]
theorem Dd.heap{base aA μ h w w'}(s:Dd base aA μ h w)(e:w'.heap=w.heap):Dd base aA μ h w' where
 cell b cs rb o h1 h2 j v hv:=by
  obtain⟨v',a,b⟩:=s.cell b cs rb o h1 h2 j v hv
  refine⟨v',by simpa [World.cell?,e] using a,b.mono (fun _ _ h=>h) fun _ _ _ _=>by simp[dD,e]⟩
 own b cs rb o h0 h1 h2:=by rw[e];exact s.own b cs rb o h0 h1 h2
 inj:=s.inj
 lt b rb o hb:=by rw[e];exact s.lt b rb o hb
 bnd:=s.bnd
theorem cJ.heap{fl base aA μ h w w'}(s:Dd base aA μ h w)(e:w'.heap=w.heap)(h1:w'.os=w.os)(h2:w'.tape=w.tape)(h3:w'.output=w.output):cJ fl base aA μ h w μ h w' where
 gd:=s.heap e
 mu _ _:=rfl
 nx:=Nat.le_refl _
 old _ _ _:=rfl
 dead _ cs _ h:=⟨cs,h⟩
 fr _ _ _:=by rw[e]
 sz _ _:=by simp[dD,e]
 hs:=by rw[e];exact Nat.le_refl _
 os:=h1
 tape:=h2
 output:=h3
 new b _ _ _ h1 h2:=by omega
theorem cJ.alloc{fl base aA μ h w}(s:Dd base aA μ h w)(hb:base≤h.next)(hr:aA≤w.heap.size)(hf:μ h.next=none){cs:List Value}{c:Array Value}{t:TypeId}
 (hc:∀(j:Nat) v,cs[j]?=some v→∃v',c[j]?=some v'∧cU μ (dD w) v v'):
 cJ fl base aA μ h w (ext μ h.next (w.heap.size,0)) (h.alloc cs) (w.alloc (.cells c t)):=by
 have hn:(w.alloc (.cells c t)).heap[w.heap.size]?=some (.cells c t (0,0)):=heap_alloc_new w _
 have ho:∀rb,rb<w.heap.size→(w.alloc (.cells c t)).heap[rb]?=w.heap[rb]?:=fun rb h=>heap_alloc_old w _ rb h
 have hsz:(w.alloc (.cells c t)).heap.size=w.heap.size+1:=by show(w.heap.push _).size=_;simp
 have hle:=aqQ (x:=(w.heap.size,0)) hf
 have JQ:∀b rb o,μ b=some (rb,o)→dD w rb≤dD (w.alloc (.cells c t)) rb:=fun b rb o hb=>by rw[BM (ho rb (s.lt b rb o hb))];exact Nat.le_refl _
 have nW:∀b fC,(h.alloc cs).iN b=some fC→(b=h.next∧fC=cs)∨(b≠h.next∧h.iN b=some fC):=by
  intro b fC hb
  by_cases e:b=h.next
  ·simp[AH.alloc,e] at hb;exact .inl ⟨e,hb.symm⟩
  ·simp[AH.alloc,e] at hb;exact .inr ⟨e,hb⟩
 refine {gd:={cell:=?_,own:=?_,inj:=?_,lt:=?_,bnd:=?_},mu:=?_,nx:=?_,old:=?_,dead:=?_,fr:=?_,sz:=?_,hs:=?_,os:=rfl,tape:=rfl,output:=rfl,new:=?_}
 ·intro b fC rb o MQ kf j v hv
  rcases nW b fC MQ with⟨rfl,rfl⟩|⟨lZ,Qi⟩
  ·rw[cH] at kf;injection kf with kf;injection kf with e1 e2;subst e1;subst e2
   obtain⟨v',h1,h2⟩:=hc j v hv
   exact⟨v',by rw[oV hn,Nat.zero_add];exact h1,h2.mono hle JQ⟩
  ·rw[iI lZ] at kf
   obtain⟨v',h1,h2⟩:=s.cell b fC rb o Qi kf j v hv
   exact⟨v',by rw[JV (ho rb (s.lt b rb o kf))];exact h1,h2.mono hle JQ⟩
 ·intro b fC rb o hbb MQ kf
  rcases nW b fC MQ with⟨rfl,rfl⟩|⟨lZ,Qi⟩
  ·rw[cH] at kf;injection kf with kf;injection kf with e1 e2;subst e1
   exact⟨hr,c,t,hn⟩
  ·rw[iI lZ] at kf
   rw[ho rb (s.lt b rb o kf)]
   exact s.own b fC rb o hbb Qi kf
 ·intro b b' cs1 cs2 rb o o' hbb h1 h2 m1 m2
  rcases nW b cs1 h1 with⟨rfl,rfl⟩|⟨lZ,h1'⟩
  ·rcases nW b' cs2 h2 with⟨rfl,rfl⟩|⟨aeC,h2'⟩
   ·rfl
   ·rw[cH] at m1;injection m1 with m1;injection m1 with e1 e2;subst e1
    rw[iI aeC] at m2
    exact absurd (s.lt b' _ _ m2) (by omega)
  ·rw[iI lZ] at m1
   rcases nW b' cs2 h2 with⟨rfl,rfl⟩|⟨aeC,h2'⟩
   ·rw[cH] at m2;injection m2 with m2;injection m2 with e1 e2;subst e1
    exact absurd (s.lt b _ _ m1) (by omega)
   ·rw[iI aeC] at m2
    exact s.inj b b' cs1 cs2 rb o o' hbb h1' h2' m1 m2
 ·intro b rb o kf
  rw[hsz]
  by_cases e:b=h.next
  ·subst e;rw[cH] at kf;injection kf with kf;injection kf with e1 e2;omega
  ·rw[iI e] at kf;have:=s.lt b rb o kf;omega
 ·intro b fC MQ
  show b<h.next+1
  rcases nW b fC MQ with⟨rfl,rfl⟩|⟨lZ,Qi⟩
  ·omega
  ·have:=s.bnd b fC Qi;omega
 ·intro b hb
  refine iI ?_
  rintro rfl
  exact hb ⟨Nat.le_refl _,Nat.lt_succ_self _⟩
 ·exact Nat.le_succ _
 ·intro b hb _
  simp[AH.alloc,Nat.ne_of_lt hb]
 ·intro b fC hb MQ
  rcases nW b fC MQ with⟨rfl,rfl⟩|⟨lZ,Qi⟩
  ·omega
  ·exact⟨_,Qi⟩
 ·intro rb Lh _;exact ho rb Lh
 ·intro rb Lh;exact BM (ho rb Lh)
 ·rw[hsz];omega
 ·intro b fC rb o h1 h2 kf _
  have:b=h.next:=by have:b<h.next+1:=h2;omega
  subst this
  rw[cH] at kf;injection kf with kf;injection kf with e1 e2;exact .inl (by omega)
theorem cJ.kill{fl base aA μ h w}(s:Dd base aA μ h w)(b:Nat)(hb:fl≤b):cJ fl base aA μ h w μ (h.put b none) w:=by
 have nW:∀c fC,(h.put b none).iN c=some fC→c≠b∧h.iN c=some fC:=by
  intro c fC hc
  by_cases e:c=b
  ·simp[AH.put,e] at hc
  ·simp[AH.put,e] at hc;exact⟨e,hc⟩
 refine {gd:={cell:=fun c fC rb o h1=>s.cell c fC rb o (nW _ _ h1).2,own:=fun c fC rb o h0 h1=>s.own c fC rb o h0 (nW _ _ h1).2,inj:=fun c c' cs1 cs2 rb o o' h0 h1 h2=>s.inj c c' cs1 cs2 rb o o' h0 (nW _ _ h1).2 (nW _ _ h2).2,lt:=s.lt,bnd:=fun c fC h1=>s.bnd c fC (nW _ _ h1).2},mu:=fun _ _=>rfl,nx:=Nat.le_refl _,old:=?_,dead:=fun c fC _ h1=>⟨fC,(nW _ _ h1).2⟩,fr:=fun _ _ _=>rfl,sz:=fun _ _=>rfl,hs:=Nat.le_refl _,os:=rfl,tape:=rfl,output:=rfl,new:=?_}
 ·intro c _ hc
  have:c≠b:=by omega
  simp[AH.put,this]
 ·intro c _ _ _ h1 h2;have:c<h.next:=h2;omega
theorem cJ.set{fl base aA μ h w}(s:Dd base aA μ h w){b rb ob:Nat}{cs fC:List Value}{c c':Array Value}{t:TypeId}(hb:fl≤b)(aFW:base≤fl)(MQ:h.iN b=some cs)(kf:μ b=some (rb,ob))
 (hg:w.heap[rb]?=some (.cells c t (0,0))) (hs:c'.size=c.size)
 (hc:∀(j:Nat) v,fC[j]?=some v→∃v',c'[ob+j]?=some v'∧cU μ (dD w) v v'):
 cJ fl base aA μ h w μ (h.put b (some fC)) (w.setRow rb c'):=by
 have hn:(w.setRow rb c').heap[rb]?=some (.cells c' t (0,0)):=setRow_heap w rb c c' t _ hg
 have ho:∀r,r≠rb→(w.setRow rb c').heap[r]?=w.heap[r]?:=fun r h=>setRow_other w rb r c' h
 have hsz:∀r,dD (w.setRow rb c') r=dD w r:=by
  intro r
  by_cases e:r=rb
  ·subst e;rw[ie hn,ie hg,hs]
  ·exact BM (ho r e)
 have JQ:∀d r o,μ d=some (r,o)→dD w r≤dD (w.setRow rb c') r:=fun d r o _=>by rw[hsz];exact Nat.le_refl _
 have nW:∀d ds,(h.put b (some fC)).iN d=some ds→(d=b∧ds=fC)∨(d≠b∧h.iN d=some ds):=by
  intro d ds hd
  by_cases e:d=b
  ·simp[AH.put,e] at hd;exact .inl ⟨e,hd.symm⟩
  ·simp[AH.put,e] at hd;exact .inr ⟨e,hd⟩
 have aqq:∀d ds,(h.put b (some fC)).iN d=some ds→∃ds',h.iN d=some ds':=by
  intro d ds hd
  rcases nW d ds hd with⟨rfl,_⟩|⟨_,h1⟩
  ·exact⟨cs,MQ⟩
  ·exact⟨ds,h1⟩
 refine {gd:={cell:=?_,own:=?_,inj:=?_,lt:=?_,bnd:=?_},mu:=fun _ _=>rfl,nx:=Nat.le_refl _,old:=?_,dead:=fun d ds _ hd=>aqq d ds hd,fr:=?_,sz:=fun r _=>hsz r,hs:=by simp,os:=rfl,tape:=rfl,output:=rfl,new:=fun d _ _ _ h1 h2=>by have:d<h.next:=h2;omega}
 ·intro d ds r o hdk TU j v hv
  rcases nW d ds hdk with⟨rfl,rfl⟩|⟨lZ,aqn⟩
  ·rw[kf] at TU;injection TU with TU;injection TU with e1 e2;subst e1;subst e2
   obtain⟨v',h1,h2⟩:=hc j v hv
   exact⟨v',by rw[oV hn];exact h1,h2.mono (fun _ _ h=>h) JQ⟩
  ·have hr:r≠rb:=by
    rintro rfl
    exact lZ (s.inj b d cs ds r ob o (Nat.le_trans aFW hb) MQ aqn kf TU).symm
   obtain⟨v',h1,h2⟩:=s.cell d ds r o aqn TU j v hv
   exact⟨v',by rw[JV (ho r hr)];exact h1,h2.mono (fun _ _ h=>h) JQ⟩
 ·intro d ds r o hdb hdk TU
  obtain⟨ds',h1⟩:=aqq d ds hdk
  obtain⟨a1,c1,t1,a2⟩:=s.own d ds' r o hdb h1 TU
  refine⟨a1,?_⟩
  by_cases e:r=rb
  ·subst e;exact⟨c',t,hn⟩
  ·rw[ho r e];exact⟨c1,t1,a2⟩
 ·intro d d' ds1 ds2 r o o' hdb h1 h2 m1 m2
  obtain⟨_,h1'⟩:=aqq d ds1 h1
  obtain⟨_,h2'⟩:=aqq d' ds2 h2
  exact s.inj d d' _ _ r o o' hdb h1' h2' m1 m2
 ·intro d r o hd;simpa using s.lt d r o hd
 ·intro d ds hd
  obtain⟨_,h1⟩:=aqq d ds hd
  exact s.bnd d _ h1
 ·intro d _ hd
  have:d≠b:=by omega
  simp[AH.put,this]
 ·intro r hr hno
  refine ho r ?_
  rintro rfl
  exact hno b cs ob hb (s.bnd b cs MQ) MQ kf
theorem cJ.aXw{fl base aA μ h w}(s:Dd base aA μ h w){b rb ob o':Nat}{cs zs:List Value}{c c':Array Value}{t:TypeId}(hb:fl≤b)(aFW:base≤fl)(MQ:h.iN b=some cs)(kf:μ b=some (rb,ob))
 (hf:μ h.next=none) (hg:w.heap[rb]?=some (.cells c t (0,0))) (hs:c'.size=c.size)
 (hc:∀(j:Nat) v,zs[j]?=some v→∃v',c'[o'+j]?=some v'∧cU μ (dD w) v v'):
 cJ fl base aA μ h w (ext μ h.next (rb,o')) ((h.put b none).alloc zs) (w.setRow rb c'):=by
 have hn:(w.setRow rb c').heap[rb]?=some (.cells c' t (0,0)):=setRow_heap w rb c c' t _ hg
 have ho:∀r,r≠rb→(w.setRow rb c').heap[r]?=w.heap[r]?:=fun r h=>setRow_other w rb r c' h
 have hsz:∀r,dD (w.setRow rb c') r=dD w r:=by
  intro r
  by_cases e:r=rb
  ·subst e;rw[ie hn,ie hg,hs]
  ·exact BM (ho r e)
 have hle:=aqQ (x:=(rb,o')) hf
 have JQ:∀d r o,μ d=some (r,o)→dD w r≤dD (w.setRow rb c') r:=fun d r o _=>by rw[hsz];exact Nat.le_refl _
 have hbn:b<h.next:=s.bnd b cs MQ
 have nW:∀d ds,((h.put b none).alloc zs).iN d=some ds→(d=h.next∧ds=zs)∨(d≠h.next∧d≠b∧h.iN d=some ds):=by
  intro d ds hd
  by_cases e:d=h.next
  ·simp[AH.alloc,AH.put,e] at hd;exact .inl ⟨e,hd.symm⟩
  ·by_cases e2:d=b
   ·simp[AH.alloc,AH.put,e2,Nat.ne_of_lt hbn] at hd
   ·simp[AH.alloc,AH.put,e,e2] at hd;exact .inr ⟨e,e2,hd⟩
 have hbb:base≤b:=Nat.le_trans aFW hb
 have akP:∀d ds o r,d≠b→h.iN d=some ds→μ d=some (r,o)→r≠rb:=by
  rintro d ds o r lZ hd hm rfl
  exact lZ (s.inj b d cs ds r ob o hbb MQ hd kf hm).symm
 refine {gd:={cell:=?_,own:=?_,inj:=?_,lt:=?_,bnd:=?_},mu:=?_,nx:=Nat.le_succ _,old:=?_,dead:=?_,fr:=?_,sz:=fun r _=>hsz r,hs:=by simp,os:=rfl,tape:=rfl,output:=rfl,new:=?_}
 ·intro d ds r o hdk TU j v hv
  rcases nW d ds hdk with⟨rfl,rfl⟩|⟨lZ,aGa,aqn⟩
  ·rw[cH] at TU;injection TU with TU;injection TU with e1 e2;subst e1;subst e2
   obtain⟨v',h1,h2⟩:=hc j v hv
   exact⟨v',by rw[oV hn];exact h1,h2.mono hle JQ⟩
  ·rw[iI lZ] at TU
   obtain⟨v',h1,h2⟩:=s.cell d ds r o aqn TU j v hv
   exact⟨v',by rw[JV (ho r (akP d ds o r aGa aqn TU))];exact h1,h2.mono hle JQ⟩
 ·intro d ds r o hdb hdk TU
  rcases nW d ds hdk with⟨rfl,rfl⟩|⟨lZ,aGa,aqn⟩
  ·rw[cH] at TU;injection TU with TU;injection TU with e1 e2;subst e1
   exact⟨(s.own b cs rb ob hbb MQ kf).1,c',t,hn⟩
  ·rw[iI lZ] at TU
   rw[ho r (akP d ds o r aGa aqn TU)]
   exact s.own d ds r o hdb aqn TU
 ·intro d d' ds1 ds2 r o1 o2 hdb h1 h2 m1 m2
  rcases nW d ds1 h1 with⟨rfl,rfl⟩|⟨lZ,aGa,h1'⟩
  ·rcases nW d' ds2 h2 with⟨rfl,rfl⟩|⟨aeC,aPr,h2'⟩
   ·rfl
   ·rw[cH] at m1;injection m1 with m1;injection m1 with e1 e2;subst e1
    rw[iI aeC] at m2
    exact absurd rfl (akP d' ds2 o2 rb aPr h2' m2)
  ·rw[iI lZ] at m1
   rcases nW d' ds2 h2 with⟨rfl,rfl⟩|⟨aeC,aPr,h2'⟩
   ·rw[cH] at m2;injection m2 with m2;injection m2 with e1 e2;subst e1
    exact absurd rfl (akP d ds1 o1 rb aGa h1' m1)
   ·rw[iI aeC] at m2
    exact s.inj d d' ds1 ds2 r o1 o2 hdb h1' h2' m1 m2
 ·intro d r o hd
  rw[setRow_size]
  by_cases e:d=h.next
  ·subst e;rw[cH] at hd;injection hd with hd;injection hd with e1 e2;subst e1;exact s.lt b rb ob kf
  ·rw[iI e] at hd;exact s.lt d r o hd
 ·intro d ds hd
  show d<h.next+1
  rcases nW d ds hd with⟨rfl,rfl⟩|⟨_,_,h1⟩
  ·omega
  ·have:=s.bnd d ds h1;omega
 ·intro d hd
  refine iI ?_
  rintro rfl
  exact hd ⟨Nat.le_refl _,Nat.lt_succ_self _⟩
 ·intro d hd hdf
  have h1:d≠b:=by omega
  have h2:d≠h.next:=by omega
  simp[AH.alloc,AH.put,h1,h2]
 ·intro d ds hd hdk
  rcases nW d ds hdk with⟨rfl,rfl⟩|⟨_,_,h1⟩
  ·omega
  ·exact⟨ds,h1⟩
 ·intro r hr hno
  refine ho r ?_
  rintro rfl
  exact hno b cs ob hb hbn MQ kf
 ·intro d ds r o h1 h2 TU _
  have:d=h.next:=by have:d<h.next+1:=h2;omega
  subst this
  rw[cH] at TU;injection TU with TU;injection TU with e1 e2;subst e1
  exact .inr ⟨b,cs,ob,hb,hbn,MQ,kf⟩
end Go.Abs
end
section
namespace Go.Abs
section
variable{R:Type}{r:R}
theorem aU{k v}{K:Int→Option R}(h:asInt k v K=some r):∃n,v=.int k n∧K n=some r:=by
 unfold asInt at h
 split at h
 ·rename_i k' n
  by_cases e:k'=k
  ·rw[if_pos e] at h;exact⟨n,by rw[e],h⟩
  ·rw[if_neg e] at h;cases h
 ·cases h
theorem zP{v}{K:Bool→Option R}{k:Option R}(h:asG v K k=some r):(∃b,v=.bool b∧K b=some r)∨(∃x y,v=.complex .f32 x y∧k=some r):=by
 unfold asG at h
 split at h
 ·exact .inl ⟨_,rfl,h⟩
 ·exact .inr ⟨_,_,rfl,h⟩
 ·cases h
theorem cI{v}{K:Bool→Option R}(h:asBool v K=some r):∃n,v=.bool n∧K n=some r:=by
 unfold asBool at h
 split at h
 ·exact⟨_,rfl,h⟩
 ·cases h
theorem cT{v}{K:Sl→Option R}(h:aX v K=some r):∃s:Sl,v=.slice s.a s.l s.c∧K s=some r:=by
 unfold aX at h
 split at h
 ·exact⟨⟨_,_,_⟩,rfl,h⟩
 ·cases h
theorem eL{v}{K:Addr→Option R}(h:bz v K=some r):∃a,v=.pointer (some a)∧K a=some r:=by
 unfold bz at h
 split at h
 ·exact⟨_,rfl,h⟩
 ·cases h
theorem ak9{v}{K:Option Addr→Option R}(h:ek v K=some r):∃a,v=.pointer a∧K a=some r:=by
 unfold ek at h
 split at h
 ·exact⟨_,rfl,h⟩
 ·cases h
theorem aqR{v}{K:List Value→Option R}(h:asAgg v K=some r):∃a:List Value,v=.agg ⟨a⟩∧K a=some r:=by
 unfold asAgg at h
 split at h
 ·exact⟨_,rfl,h⟩
 ·cases h
theorem EN{v}{K:List Value→Option R}(h:aE v K=some r):∃a:List Value,v=.tuple ⟨a⟩∧K a=some r:=by
 unfold aE at h
 split at h
 ·exact⟨_,rfl,h⟩
 ·cases h
theorem Iy{s v}{K:Value→Option R}(h:qE s v K=some r):K v=some r:=by
 cases s with
 |any=>exact h
 |int k=>simp only[qE] at h;obtain⟨n,rfl,h2⟩:=aU h;exact h2
 |bool=>simp only[qE] at h;obtain⟨n,rfl,h2⟩:=cI h;exact h2
 |slice=>simp only[qE] at h;obtain⟨n,rfl,h2⟩:=cT h;exact h2
 |ptr=>simp only[qE] at h;obtain⟨n,rfl,h2⟩:=eL h;exact h2
 |l0=>simp only[qE] at h;obtain⟨n,rfl,h2⟩:=ak9 h;exact h2
theorem Qr:∀{ss vs} {K:List Value→Option R},EK ss vs K=some r→K vs=some r
 |[],[],_,h=>h
 |[],_::_,_,h=>by cases h
 |_::_,[],_,h=>by cases h
 |s::ss,v::vs,K,h=>by
  have h1:=Iy (K:=fun v'=>EK ss vs fun Dc=>K (v'::Dc)) h
  exact Qr (K:=fun Dc=>K (v::Dc)) h1
theorem V7{s v}{K:Value→Option R}(h:MS s v K=some r):K v=some r:=by
 cases s with
 |one s=>exact Iy h
 |agg l=>simp only[MS] at h;obtain⟨n,rfl,h2⟩:=aqR h;exact Qr (K:=fun cs=>K (.agg ⟨cs⟩)) h2
theorem Qs:∀{ss vs} {K:List Value→Option R},EL ss vs K=some r→K vs=some r
 |[],[],_,h=>h
 |[],_::_,_,h=>by cases h
 |_::_,[],_,h=>by cases h
 |s::ss,v::vs,K,h=>by
  have h1:=V7 (K:=fun v'=>EL ss vs fun Dc=>K (v'::Dc)) h
  exact Qs (K:=fun Dc=>K (v::Dc)) h1
theorem V8{s v}{K:Value→Option R}(h:Ub s v K=some r):K v=some r:=by
 cases s with
 |one s=>exact V7 h
 |ke l=>simp only[Ub] at h;obtain⟨n,rfl,h2⟩:=EN h;exact Qs (K:=fun cs=>K (.tuple ⟨cs⟩)) h2
theorem Df{s h b o}{K:Value→Option R}(e:abu s h b o K=some r):∃v,AH.cell h b o=some v∧K v=some r:=by
 unfold abu at e
 split at e
 ·rename_i v hv;exact⟨v,hv,Iy e⟩
 ·cases e
theorem zQ:∀{ss h b o} {K:List Value→Option R},V4 ss h b o K=some r→
 ∃vs:List Value,vs.length=ss.length∧(∀(i:Nat) v,vs[i]?=some v→AH.cell h b (o+i)=some v)∧K vs=some r
 |[],h,b,o,K,e=>⟨[],rfl,fun i v hv=>by simp at hv,e⟩
 |s::ss,h,b,o,K,e=>by
  obtain⟨v,hv,e1⟩:=Df (K:=fun v=>V4 ss h b (o+1) fun vs=>K (v::vs)) e
  obtain⟨vs,h1,h2,h3⟩:=zQ e1
  refine⟨v::vs,by simp[h1],?_,h3⟩
  intro i u hu
  cases i with
  |zero=>simp at hu;subst hu;exact hv
  |succ i=>have:=h2 i u (by simpa using hu);rwa[show o+(i+1)=o+1+i by omega]
end
def cv0:Value→Value→Bool
 |.bool a,.bool b=>a==b
 |.int k n,.int k' n'=>decide (k=k')&&decide (n=n')
 |.pointer none,.pointer none=>true
 |.slice none 0 0,.slice none 0 0=>true
 |.nilFunc,.nilFunc=>true
 |_,_=>false
def ahB:List Value→List Value→Bool
 |[],[]=>true
 |x::xs,y::ys=>cv0 x y&&ahB xs ys
 |_,_=>false
def cv(v v':Value):Bool:=match v,v' with
 |.agg xs,.agg ys=>ahB xs.toList ys.toList
 |.tuple xs,.tuple ys=>xs.toList.isEmpty&&ys.toList.isEmpty
 |v,v'=>cv0 v v'
theorem as6{μ sz v v'}(h:cv0 v v'=true):cU μ sz v v':=by
 unfold cv0 at h
 split at h
 ·simp at h;subst h;exact .bool _
 ·simp at h;obtain⟨rfl,rfl⟩:=h;exact .int _ _
 ·exact .VY
 ·exact .mR
 ·exact .nilFunc
 ·cases h
theorem Dg{μ sz}:∀{v v'},ahB v v'=true→bN μ sz v v'
 |[],[],_=>bN.nil
 |x::xs,y::ys,h=>by
  simp[ahB] at h
  exact bN.cons (as6 h.1) (Dg h.2)
 |[],_::_,h=>by simp[ahB] at h
 |_::_,[],h=>by simp[ahB] at h
theorem aPA{μ sz v v'}(h:cv v v'=true):cU μ sz v v':=by
 unfold cv at h
 split at h
 ·rename_i xs ys
  obtain⟨xs⟩:=xs;obtain⟨ys⟩:=ys
  have:=Dg (μ:=μ) (sz:=sz) h
  exact .agg this.1 this.2
 ·rename_i xs ys
  obtain⟨xs⟩:=xs
  simp at h
  obtain⟨rfl,_⟩:=h
  exact .xU _
 ·exact as6 h
def dx:Operand→sW→Bool
 |.tmp t,.t i=>t==i
 |.const v,.c v'=>cv v' v
 |.func f,.f g=>f==g
 |_,_=>false
theorem abx{μ sz st tmps}(t:bN μ sz st tmps)(i:Nat):cU μ sz (st.getD i undef) (tmps.getD i undef):=by
 rw[List.getD_eq_getElem?_getD,List.getD_eq_getElem?_getD]
 cases hv:st[i]? with
 |none=>exact .xU _
 |some v=>
  obtain⟨v',h1,h2⟩:=t.get hv
  rw[h1];exact h2
theorem bU{μ sz st}{a:Act}(t:bN μ sz st a.tmps.toList){x y}(h:dx x y=true):cU μ sz (ev st y) (a.eval x):=by
 cases x<;>cases y<;>simp[dx] at h
 ·rename_i i j
  subst h
  have:=abx t i
  simpa [ev,Act.eval,Array.getD_eq_getD_getElem?,List.getD_eq_getElem?_getD] using this
 ·exact aPA h
 ·subst h
  exact .func rfl (fun i h=>by simp at h) rfl (fun i h=>by simp at h)
def Iz:List Operand→List sW→Bool
 |[],[]=>true
 |x::xs,y::ys=>dx x y&&Iz xs ys
 |_,_=>false
theorem Qt{μ sz st}{a:Act}(t:bN μ sz st a.tmps.toList):∀{x y},Iz x y=true→bN μ sz (y.map (ev st)) (x.map a.eval)
 |[],[],_=>bN.nil
 |x::xs,y::ys,h=>by
  simp[Iz] at h
  exact bN.cons (bU t h.1) (Qt t h.2)
 |[],_::_,h=>by simp[Iz] at h
 |_::_,[],h=>by simp[Iz] at h
theorem cU.km{μ sz k n v}(h:cU μ sz (.int k n) v):v=.int k n:=by cases h;rfl
theorem cU.xm{μ sz b v}(h:cU μ sz (.bool b) v):v=.bool b:=by cases h;rfl
theorem cU.Qu{μ sz a v}(h:cU μ sz (.pointer (some a)) v):∃rb o,μ a.block=some (rb,o)∧v=.pointer (some ⟨rb,o+a.off,none⟩):=by
 cases h with
 |ptr h=>exact⟨_,_,h,rfl⟩
theorem cU.agv{μ sz s v}(h:cU μ sz (Sl.v s) v):∃a c,v=.slice a s.l c∧(s.a.isNone=a.isNone):=by
 obtain⟨a,l,c⟩:=s
 unfold Sl.v at h
 cases h with
 |mR=>exact⟨_,_,rfl,rfl⟩
 |slice h1 h2 h3=>exact⟨_,_,rfl,rfl⟩
 |nU h1 h2 h3 h4=>exact⟨_,_,rfl,rfl⟩
 |ago=>exact⟨_,_,rfl,rfl⟩
theorem cU.axC{μ sz}{xs:List Value}{v}(h:cU μ sz (.tuple ⟨xs⟩) v)(hx:xs≠[]):∃ys:List Value,v=.tuple ⟨ys⟩∧bN μ sz xs ys:=by
 cases h with
 |xU=>exact absurd rfl hx
 |tuple h1 h2=>exact⟨_,rfl,h1,h2⟩
theorem cU.pS{μ sz a l c v}(h:cU μ sz (.slice a l c) v):
 (a=none∧l=0∧c=0∧v=.slice none 0 0)∨
 (∃b o s rb off,a=some ⟨b,o,s⟩∧μ b=some (rb,off)∧c<oB∧l≤c∧v=.slice (some ⟨rb,off+o,none⟩) l c)∨
 (∃b o s rb off o' c' es,a=some ⟨b,o,s⟩∧c=oB+es∧μ b=some (rb,off)∧(l=0∨o'=off+o)∧l≤c'∧o'+c'*es≤sz rb∧v=.slice (some ⟨rb,o',none⟩) l c')∨
 (∃x a',a=some x∧l=0∧c=0∧v=.slice (some a') 0 0):=by
 generalize hq:Value.slice a l c=q at h
 cases h with
 |mR=>injection hq with h1 h2 h3;exact .inl ⟨h1,h2,h3,rfl⟩
 |slice g1 g2 g3=>injection hq with h1 h2 h3;subst h1 h2 h3;exact .inr (.inl ⟨_,_,_,_,_,rfl,g1,g2,g3,rfl⟩)
 |nU g1 g2 g3 g4=>injection hq with h1 h2 h3;subst h1 h2 h3;exact .inr (.inr (.inl ⟨_,_,_,_,_,_,_,_,rfl,rfl,g1,g2,g3,g4,rfl⟩))
 |ago=>injection hq with h1 h2 h3;subst h1 h2 h3;exact .inr (.inr (.inr ⟨_,_,rfl,rfl,rfl,rfl⟩))
 |_=>cases hq
theorem cU.cells{μ sz v v'}(h:cU μ sz v v')(hp:∀c∈v.cells.toList,De c=true):bN μ sz v.cells.toList v'.cells.toList:=by
 cases h with
 |xU=>simp[Value.cells,De] at hp
 |skip=>simp[Value.cells,Mg,De] at hp
 |agg h1 h2=>exact⟨h1,h2⟩
 |tuple h1 h2=>simp[Value.cells,De] at hp
 |bool=>exact bN.cons (.bool _) bN.nil
 |int=>exact bN.cons (.int _ _) bN.nil
 |VY=>exact bN.cons .VY bN.nil
 |ptr h=>exact bN.cons (.ptr h) bN.nil
 |mR=>exact bN.cons .mR bN.nil
 |slice h h' h2=>exact bN.cons (.slice h h' h2) bN.nil
 |nU h h1 h2 h3=>exact bN.cons (.nU h h1 h2 h3) bN.nil
 |ago=>exact bN.cons .ago bN.nil
 |nilFunc=>exact bN.cons .nilFunc bN.nil
 |func h1 h2 h3 h4=>exact bN.cons (.func h1 h2 h3 h4) bN.nil
theorem cU.aGJ{μ sz v v'}(h:cU μ sz v v')(hp:De v=true):v'.oneCell'=true:=by
 cases h<;>simp_all[De,Value.oneCell',Mg]
structure Ctx(fl base aA:Nat)(μ:Mu)(h:AH)(w:World)(st:List Value)(a:Act):Prop where
 gd:Dd base aA μ h w
 hb:base≤fl
 bR:fl≤h.next
 hr:aA≤w.heap.size
 t:bN μ (dD w) st a.tmps.toList
theorem Ctx.hn{fl base aA:Nat}{μ:Mu}{h:AH}{w:World}{st:List Value}{a:Act}(c:Ctx fl base aA μ h w st a):base≤h.next:=Nat.le_trans c.hb c.bR
def bE(fl base aA:Nat)(μ:Mu)(h:AH)(w:World)(v:Value)(h1:AH)(r:Result Next):Prop:=
 ∃v' μ' w',(r=.ok (.value v') w'∨(r=.ok .skip w'∧v'=undef))∧cJ fl base aA μ h w μ' h1 w'∧cU μ' (dD w') v v'
theorem bE.still{fl base aA μ h w v v'}(s:Dd base aA μ h w)(hv:cU μ (dD w) v v'):bE fl base aA μ h w v h (.ok (.value v') w):=
 ⟨v',μ,w,.inl rfl,cJ.refl s,hv⟩
end Go.Abs
end
section
namespace Go.Abs
def zeroOf(P:Program)(t:TypeId):Option (List Value):=match P.info? t with
 |some i=>match i.zero with
  |some z=>some z.cells.toList
  |none=>none
 |none=>none
def okZ(P:Program)(t:TypeId)(z:List Value):Bool:=match zeroOf P t with
 |some zs=>ahB z zs
 |none=>false
def qG(P:Program)(t:TypeId)(n:Nat):Bool:=match P.info? t with
 |some i=>i.size==n
 |none=>false
def aat(P:Program)(t:TypeId)(n:Nat):Bool:=match P.info? t with
 |some i=>i.bytes==n
 |none=>false
def oC(P:Program)(t:TypeId):Option TypeId:=match P.underlying t with
 |some (.slice e)=>some e
 |_=>none
def isInt(P:Program)(t:TypeId)(k:IntKind):Bool:=match P.underlying t with
 |some (.int k')=>decide (k'=k)
 |_=>false
def as7(P:Program)(t:TypeId):Bool:=match P.underlying t with
 |some .bool=>true
 |_=>false
def JW(P:Program)(fs:Array Field):List (Nat×Operand)→List (Nat×Nat×sW)→Bool
 |[],[]=>true
 |(i,x)::xs,(off,size,y)::ys=>(match fs[i]? with|some f=>f.offset==off&&qG P f.type size|none=>false)&&dx x y&&JW P fs xs ys
 |_,_=>false
def Dh(size:Nat):List (Nat×Operand)→List (Nat×Nat×sW)→Bool
 |[],[]=>true
 |(i,x)::xs,(off,sz,y)::ys=>off==i*size&&sz==size&&dx x y&&Dh size xs ys
 |_,_=>false
def okO:Option Operand→Option sW→Bool
 |none,none=>true
 |some x,some y=>dx x y
 |_,_=>false
def as8:BinOp→Bool
 |.add|.sub|.mul|.quo|.rem|.and|.or|.xor=>true
 |_=>false
def aNS:BinOp→Bool
 |.eql|.neq|.lss|.leq|.gtr|.geq=>true
 |_=>false
def eM(P:Program)(op:Op):V5→Bool
 |.mv y=>match op with
  |.move x=>dx x y
  |.assign x=>dx x y
  |_=>false
 |.pick c a b=>match op with
  |.pick c' a' b'=>dx c' c&&dx a' a&&dx b' b
  |_=>false
 |.box y=>match op with
  |.box _ x=>dx x y
  |_=>false
 |.alloc z=>match op with
  |.alloc t=>okZ P t z
  |_=>false
 |.build z ps=>match op with
  |.build t parts=>okZ P t z&&(match P.underlying t with
   |some (.struct fs)=>fs.toList.all (fun f=>(P.info? f.type).isSome)&&JW P fs parts.toList ps
   |_=>false)
  |_=>false
 |.bq len z ps=>match op with
  |.buildSlice t n parts=>n==len&&decide (len<oB)&&(match oC P t with
   |some e=>match P.info? e with
    |some i=>decide (len*i.size≤2^24)&&(match i.zero with
     |some zv=>ahB z ((Array.range (len*i.size)).map (zv.cells[·%zv.cells.size]!)).toList
     |none=>false)&&Dh i.size parts.toList ps
    |none=>false
   |none=>false)
  |_=>false
 |.load sh y=>match op with
  |.load t x=>dx x y&&(match P.underlying t with
   |some (.struct _)=>(match sh with|.agg l=>qG P t l.length|_=>false)
   |some (.array _ _)=>false
   |some _=>(match sh with|.one _=>true|_=>false)
   |none=>false)
  |_=>false
 |.store n a y=>match op with
  |.store t a' x=>qG P t n&&dx a' a&&dx x y
  |_=>false
 |.cQ y=>match op with
  |.nilCheck x=>dx x y
  |_=>false
 |.bin o _ x y=>match op with
  |.binOp o' _ x' y' _=>decide (o'=o)&&as8 o&&dx x' x&&dx y' y
  |_=>false
 |.sh left _ _ x y=>match op with
  |.binOp o' _ x' y' _=>(if left then decide (o'=.shl) else decide (o'=.shr))&&dx x' x&&dx y' y
  |_=>false
 |.cmp o _ x y=>match op with
  |.binOp o' _ x' y' _=>decide (o'=o)&&aNS o&&dx x' x&&dx y' y
  |_=>false
 |.beq neg x y=>match op with
  |.binOp o' t x' y' _=>(if neg then decide (o'=.neq) else decide (o'=.eql))&&as7 P t&&dx x' x&&dx y' y
  |_=>false
 |.TQ neg x=>match op with
  |.binOp o' t x' (.const (.slice none 0 0)) _=>(if neg then decide (o'=.neq) else decide (o'=.eql))&&(oC P t).isSome&&dx x' x
  |_=>false
 |.not y=>match op with
  |.unOp .not _ x=>dx x y
  |_=>false
 |.neg _ y=>match op with
  |.unOp .neg _ x=>dx x y
  |_=>false
 |.conv s d y=>match op with
  |.convert src dst x=>isInt P src s&&isInt P dst d&&dx x y
  |_=>false
 |.Da f a b=>match op with
  |.makeFunc (.func g) a' b'=>g==f&&Iz a'.toList a&&Iz b'.toList b
  |_=>false
 |.dj bytes z l c=>match op with
  |.makeSlice t l' c'=>dx l' l&&dx c' c&&(match oC P t with
   |some e=>aat P e bytes&&okZ P e z&&qG P e z.length&&decide (0<z.length)&&decide (0<bytes)
   |none=>false)
  |_=>false
 |.slice kY y lo hi mx=>match op with
  |.slice t x lo' JO mx'=>dx x y&&okO lo' lo&&okO JO hi&&okO mx' mx&&(JO.isSome||!mx'.isSome)&&(match oC P t with
   |some e=>qG P e kY
   |none=>false)
  |_=>false
 |.cW off y=>match op with
  |.fieldAddr t x i=>dx x y&&(match P.underlying t with
   |some (.struct fs)=>match fs[i]? with
    |some f=>f.offset==off&&(match P.info? f.type with|some i=>i.size !=0|none=>false)
    |none=>false
   |_=>false)
  |_=>false
 |.eE kY x i=>match op with
  |.indexAddr t x' i'=>dx x' x&&dx i' i&&(match oC P t with
   |some e=>qG P e kY
   |none=>false)
  |_=>false
 |.aal y i=>match op with
  |.extract x j=>dx x y&&j==i
  |_=>false
 |.call ..=>false
 |.len y=>match op with
  |.call {callee:=.builtin .len,args,argTypes}=>(match args.toList,argTypes.toList with
   |[x],[t]=>dx x y&&(oC P t).isSome
   |_,_=>false)
  |_=>false
 |.append kY bytes x y=>match op with
  |.call {callee:=.builtin .append,args,argTypes}=>(match args.toList,argTypes.toList with
   |[x',y'],[t,t']=>dx x' x&&dx y' y&&decide (0<kY)&&decide (0<bytes)&&(match oC P t with
    |some e=>qG P e kY&&aat P e bytes&&t'==t&&(match zeroOf P e with|some z=>z.length==kY|none=>false)
    |none=>false)
   |_,_=>false)
  |_=>false
 |.copy kY d s=>match op with
  |.call {callee:=.builtin .copy,args,argTypes}=>(match args.toList,argTypes.toList with
   |[x',y'],t::_=>dx x' d&&dx y' s&&decide (0<kY)&&(match oC P t with
    |some e=>qG P e kY
    |none=>false)
   |_,_=>false)
  |_=>false
 |.aam _ bs y=>match op with
  |.index t (.const (.string s)) x=>dx x y&&(match P.underlying t with|some .string=>true|_=>false)&&decide (s.data.toList.map (·.toNat)=bs)
  |_=>false
 |.mm isMax x y=>match op with
  |.call {callee:=.builtin b,args, ..}=>(match args.toList with
   |[x',y']=>(if isMax then (match b with|.max=>true|_=>false) else (match b with|.min=>true|_=>false))&&dx x' x&&dx y' y
   |_=>false)
  |_=>false
section
variable{P:Program}{C:Callee}{fl base aA:Nat}{μ:Mu}{h h1:AH}{w:World}{s:List Value}{a:Act}{v:Value}{o:Oper}
abbrev K0:Value→AH→Option (Value×AH):=fun v h=>some (v,h)
theorem aXx{y}(c:Ctx fl base aA μ h w s a)(ok:eM P o.op (.mv y)=true)(e:dw C fl s h (.mv y) K0=some (v,h1)):
 bE fl base aA μ h w v h1 ((execOp a.eval o).run P w):=by
 simp only[dw,K0,Option.some.injEq,Prod.mk.injEq] at e
 obtain⟨rfl,rfl⟩:=e
 simp only[eM] at ok
 unfold execOp
 split at ok
 ·rename_i hx;rw[hx];exact bE.still c.gd (bU c.t ok)
 ·rename_i hx;rw[hx];exact bE.still c.gd (bU c.t ok)
 ·cases ok
theorem aPC{x y z}(c:Ctx fl base aA μ h w s a)(ok:eM P o.op (.pick x y z)=true)(e:dw C fl s h (.pick x y z) K0=some (v,h1)):
 bE fl base aA μ h w v h1 ((execOp a.eval o).run P w):=by
 simp only[dw] at e
 obtain⟨t,ht,e⟩:=cI e
 simp only[eM] at ok
 unfold execOp
 split at ok
 ·rename_i hx;rw[hx]
  simp only[Bool.and_eq_true] at ok
  obtain⟨⟨k1,k2⟩,k3⟩:=ok
  have r1:=bU c.t k1
  rw[ht] at r1
  have r1:=r1.xm
  simp only[r1,Go.asBool,Sem.run_bind,Sem.run_pure,Result.andThen_ok]
  cases t with
  |true=>
   simp only[if_true,K0,Option.some.injEq,Prod.mk.injEq] at e ⊢
   obtain⟨rfl,rfl⟩:=e
   exact bE.still c.gd (bU c.t k2)
  |false=>
   simp only[Bool.false_eq_true,if_false,K0,Option.some.injEq,Prod.mk.injEq] at e ⊢
   obtain⟨rfl,rfl⟩:=e
   exact bE.still c.gd (bU c.t k3)
 ·cases ok
theorem V9(t:TypeId)(c:Array Value):(newRow t c).run P w=.ok ⟨w.heap.size,0,none⟩ (w.alloc (.cells c t)):=rfl
theorem Mh{t:TypeId}{i:TypeInfo}(hi:P.info? t=some i):(typeInfo t).run P w=.ok i w:=by
 simp only[typeInfo,Go.program,Sem.run_bind,Sem.run,Result.andThen_ok,hi,Sem.run_pure]
theorem aby{t:TypeId}{i:TypeInfo}{z:Value}(hi:P.info? t=some i)(hz:i.zero=some z):(zeroValue t).run P w=.ok z w:=by
 simp only[zeroValue,Sem.run_bind,Mh hi,Result.andThen_ok,hz,Sem.run_pure]
theorem gg{t:TypeId}{i:TypeInfo}(hi:P.info? t=some i):(sizeOf t).run P w=.ok i.size w:=by
 simp only[sizeOf,Sem.run_bind,Mh hi,Result.andThen_ok,Sem.run_pure]
theorem bE.new(c:Ctx fl base aA μ h w s a)(hf:μ h.next=none){cs:List Value}{x:Array Value}{t:TypeId}(hc:bN μ (dD w) cs x.toList){v':Value}{r:Result Next}
 (hr:r=.ok (.value v') (w.alloc (.cells x t)))
 (hv:cU (ext μ h.next (w.heap.size,0)) (dD (w.alloc (.cells x t))) v v'):bE fl base aA μ h w v (h.alloc cs) r:=by
 refine⟨v',_,_,.inl hr,cJ.alloc c.gd c.hn c.hr hf (fun j u hu=>?_),hv⟩
 obtain⟨u',h1,h2⟩:=hc.get hu
 exact⟨u',by simpa using h1,h2⟩
theorem aS1{y}(c:Ctx fl base aA μ h w s a)(hf:h.next<h1.next→μ h.next=none)(ok:eM P o.op (.box y)=true)(e:dw C fl s h (.box y) K0=some (v,h1)):
 bE fl base aA μ h w v h1 ((execOp a.eval o).run P w):=by
 simp only[dw,K0] at e
 split at e
 ·rename_i aFL
  simp only[Option.some.injEq,Prod.mk.injEq] at e
  obtain⟨rfl,rfl⟩:=e
  simp only[eM] at ok
  unfold execOp
  split at ok
  ·rename_i t x hx;rw[hx]
   have r:=(bU c.t ok).cells (List.all_eq_true.1 aFL)
   refine bE.new (t:=t) c (hf (Nat.lt_succ_self _)) r (v':=.pointer (some ⟨w.heap.size,0,none⟩)) ?_ (.ptr (cH _ _ _))
   simp[Instr.box,newVar,V9]
  ·cases ok
 ·cases e
theorem aGK{z}(c:Ctx fl base aA μ h w s a)(hf:h.next<h1.next→μ h.next=none)(ok:eM P o.op (.alloc z)=true)(e:dw C fl s h (.alloc z) K0=some (v,h1)):
 bE fl base aA μ h w v h1 ((execOp a.eval o).run P w):=by
 simp only[dw,K0,Option.some.injEq,Prod.mk.injEq] at e
 obtain⟨rfl,rfl⟩:=e
 simp only[eM] at ok
 unfold execOp
 split at ok
 ·rename_i t hx;rw[hx]
  unfold okZ zeroOf at ok
  split at ok
  ·rename_i zs hz
   split at hz
   ·rename_i i hi
    split at hz
    ·rename_i zv hzv
     injection hz with hz;subst hz
     refine bE.new (t:=t) c (hf (Nat.lt_succ_self _)) (Dg ok) (v':=.pointer (some ⟨w.heap.size,0,none⟩)) ?_ (.ptr (cH _ _ _))
     simp[Instr.alloc,newVar,V9,aby hi hzv]
    ·cases hz
   ·cases hz
  ·cases ok
 ·cases ok
theorem aPD{y}(c:Ctx fl base aA μ h w s a)(ok:eM P o.op (.cQ y)=true)(e:dw C fl s h (.cQ y) K0=some (v,h1)):
 bE fl base aA μ h w v h1 ((execOp a.eval o).run P w):=by
 simp only[dw] at e
 obtain⟨p,hp,e⟩:=eL e
 simp only[K0,Option.some.injEq,Prod.mk.injEq] at e
 obtain⟨rfl,rfl⟩:=e
 simp only[eM] at ok
 unfold execOp
 split at ok
 ·rename_i x hx;rw[hx]
  have r:=bU c.t ok
  rw[hp] at r
  obtain⟨rb,ob,h1,h2⟩:=r.Qu
  simp only[h2]
  rw[h2] at r
  exact bE.still c.gd r
 ·cases ok
theorem aS2{op k x y}(c:Ctx fl base aA μ h w s a)(ok:eM P o.op (.bin op k x y)=true)(e:dw C fl s h (.bin op k x y) K0=some (v,h1)):
 bE fl base aA μ h w v h1 ((execOp a.eval o).run P w):=by
 simp only[dw] at e
 obtain⟨m,hm,e⟩:=aU e
 obtain⟨n,hn,e⟩:=aU e
 simp only[eM] at ok
 unfold execOp
 split at ok
 ·rename_i o' t x' y' t' hx;rw[hx]
  simp only[Bool.and_eq_true,decide_eq_true_eq] at ok
  obtain⟨⟨⟨rfl,k0⟩,k1⟩,k2⟩:=ok
  have r1:=bU c.t k1
  have r2:=bU c.t k2
  rw[hm] at r1;rw[hn] at r2
  have r1:=r1.km
  have r2:=r2.km
  simp only[r1,r2]
  split at e
  ·rename_i z hz
   simp only[K0,Option.some.injEq,Prod.mk.injEq] at e
   obtain⟨rfl,rfl⟩:=e
   have hg:(eqGuard o' t x' y' (Value.int k m) (Value.int k n)).run P w=.ok () w:=by
    cases o'<;>first|rfl|(cases k0;done)
   have hb:(binOp o' t (Value.int k m) (Value.int k n)).run P w=.ok (.int k z) w:=by
    cases o'<;>simp only[as8,Bool.false_eq_true] at k0<;>simp only[Iw] at hz<;>unfold binOp<;>
     simp only[ne_eq,not_true_eq_false,if_false,Op.intArith,Op.intDiv,Op.intBits]
    all_goals first
     |(injection hz with hz;subst hz;rfl)
     |(split at hz
       ·cases hz
       ·rename_i lZ;injection hz with hz;subst hz;rw[if_neg lZ];rfl)
   simp only[Sem.run_bind,hg,hb,Result.andThen_ok,Sem.run_pure]
   exact bE.still c.gd (.int _ _)
  ·cases e
 ·cases ok
theorem aS3{op k x y}(c:Ctx fl base aA μ h w s a)(ok:eM P o.op (.cmp op k x y)=true)(e:dw C fl s h (.cmp op k x y) K0=some (v,h1)):
 bE fl base aA μ h w v h1 ((execOp a.eval o).run P w):=by
 simp only[dw] at e
 obtain⟨m,hm,e⟩:=aU e
 obtain⟨n,hn,e⟩:=aU e
 simp only[eM] at ok
 unfold execOp
 split at ok
 ·rename_i o' t x' y' t' hx;rw[hx]
  simp only[Bool.and_eq_true,decide_eq_true_eq] at ok
  obtain⟨⟨⟨rfl,k0⟩,k1⟩,k2⟩:=ok
  have r1:=bU c.t k1
  have r2:=bU c.t k2
  rw[hm] at r1;rw[hn] at r2
  have r1:=r1.km
  have r2:=r2.km
  simp only[r1,r2]
  split at e
  ·rename_i z hz
   simp only[K0,Option.some.injEq,Prod.mk.injEq] at e
   obtain⟨rfl,rfl⟩:=e
   have hg:(eqGuard o' t x' y' (Value.int k m) (Value.int k n)).run P w=.ok () w:=by
    cases o'<;>rfl
   have hb:(binOp o' t (Value.int k m) (Value.int k n)).run P w=.ok (.bool z) w:=by
    cases o'<;>simp only[aNS,Bool.false_eq_true] at k0<;>simp only[aA2] at hz<;>unfold binOp<;>
     simp only[ne_eq,not_true_eq_false,if_false,Op.intCmp]
    all_goals (injection hz with hz;subst hz;rfl)
   simp only[Sem.run_bind,hg,hb,Result.andThen_ok,Sem.run_pure]
   exact bE.still c.gd (.bool _)
  ·cases e
 ·cases ok
theorem aXy{left k yk x y}(c:Ctx fl base aA μ h w s a)(ok:eM P o.op (.sh left k yk x y)=true)(e:dw C fl s h (.sh left k yk x y) K0=some (v,h1)):
 bE fl base aA μ h w v h1 ((execOp a.eval o).run P w):=by
 simp only[dw] at e
 obtain⟨m,hm,e⟩:=aU e
 obtain⟨n,hn,e⟩:=aU e
 simp only[eM] at ok
 unfold execOp
 split at ok
 ·rename_i o' t x' y' t' hx;rw[hx]
  simp only[Bool.and_eq_true] at ok
  obtain⟨⟨k0,k1⟩,k2⟩:=ok
  have r1:=bU c.t k1
  have r2:=bU c.t k2
  rw[hm] at r1;rw[hn] at r2
  have r1:=r1.km
  have r2:=r2.km
  simp only[r1,r2]
  split at e
  ·rename_i z hz
   simp only[K0,Option.some.injEq,Prod.mk.injEq] at e
   obtain⟨rfl,rfl⟩:=e
   have hsh:o'=if left=true then BinOp.shl else .shr:=by cases left<;>simpa using k0
   have hg:(eqGuard o' t x' y' (Value.int k m) (Value.int yk n)).run P w=.ok () w:=by
    subst hsh;cases left<;>rfl
   have hb:(binOp o' t (Value.int k m) (Value.int yk n)).run P w=.ok (.int k z) w:=by
    subst hsh
    unfold ak8 at hz
    split at hz
    ·cases hz
    ·rename_i a44
     cases left<;>simp only[Bool.false_eq_true,if_false,if_true] at hz ⊢<;>injection hz with hz<;>subst hz<;>unfold binOp<;>simp only[Op.shift,if_neg a44]<;>rfl
   simp only[Sem.run_bind,hg,hb,Result.andThen_ok,Sem.run_pure]
   exact bE.still c.gd (.int _ _)
  ·cases e
 ·cases ok
theorem aS4{y}(c:Ctx fl base aA μ h w s a)(ok:eM P o.op (.not y)=true)(e:dw C fl s h (.not y) K0=some (v,h1)):
 bE fl base aA μ h w v h1 ((execOp a.eval o).run P w):=by
 simp only[dw] at e
 obtain⟨m,hm,e⟩:=cI e
 simp only[K0,Option.some.injEq,Prod.mk.injEq] at e
 obtain⟨rfl,rfl⟩:=e
 simp only[eM] at ok
 unfold execOp
 split at ok
 ·rename_i t x hx;rw[hx]
  have r:=bU c.t ok
  rw[hm] at r
  simp only[r.xm]
  exact bE.still c.gd (.bool _)
 ·cases ok
theorem aS5{k y}(c:Ctx fl base aA μ h w s a)(ok:eM P o.op (.neg k y)=true)(e:dw C fl s h (.neg k y) K0=some (v,h1)):
 bE fl base aA μ h w v h1 ((execOp a.eval o).run P w):=by
 simp only[dw] at e
 obtain⟨m,hm,e⟩:=aU e
 simp only[K0,Option.some.injEq,Prod.mk.injEq] at e
 obtain⟨rfl,rfl⟩:=e
 simp only[eM] at ok
 unfold execOp
 split at ok
 ·rename_i t x hx;rw[hx]
  have r:=bU c.t ok
  rw[hm] at r
  simp only[r.km]
  exact bE.still c.gd (.int _ _)
 ·cases ok
theorem aPE{y i}(c:Ctx fl base aA μ h w s a)(ok:eM P o.op (.aal y i)=true)(e:dw C fl s h (.aal y i) K0=some (v,h1)):
 bE fl base aA μ h w v h1 ((execOp a.eval o).run P w):=by
 simp only[dw] at e
 obtain⟨vs,hvs,e⟩:=EN e
 split at e
 ·rename_i u hu
  simp only[K0,Option.some.injEq,Prod.mk.injEq] at e
  obtain⟨rfl,rfl⟩:=e
  simp only[eM] at ok
  unfold execOp
  split at ok
  ·rename_i x j hx;rw[hx]
   simp only[Bool.and_eq_true,beq_iff_eq] at ok
   obtain⟨k1,rfl⟩:=ok
   have r:=bU c.t k1
   rw[hvs] at r
   obtain⟨ys,hy,hl⟩:=r.axC (by rintro rfl;simp at hu)
   obtain⟨u',h1,h2⟩:=hl.get hu
   simp only[hy,Instr.extract]
   have h3:(⟨ys⟩:Array Value)[j]?=some u':=by simpa using h1
   simp only[h3,Sem.run_bind,Sem.run_pure,Result.andThen_ok]
   exact bE.still c.gd h2
  ·cases ok
 ·cases e
end
end Go.Abs
end
section
namespace Go.Abs
theorem bN.nQ{μ sz}:∀{xs Br z z':List Value} {off:Nat},bN μ sz z z'→bN μ sz xs Br→bN μ sz (nQ z off xs) (nQ z' off Br)
 |[],[],_,_,_,h,_=>h
 |[],_::_,_,_,_,_,t=>by have:=t.1;simp at this
 |_::_,[],_,_,_,_,t=>by have:=t.1;simp at this
 |x::xs,x'::Br,z,z',off,h,t=>by
  have hx:=t.2 0 (by simp) (by simp)
  have ht:bN μ sz xs Br:=⟨by have:=t.1;simpa using this,fun i h1 h2=>t.2 (i+1) (by simpa using h1) (by simpa using h2)⟩
  refine bN.nQ (z:=z.set off x) (z':=z'.set off x') (off:=off+1) ?_ ht
  refine bN.aqP (by simp[h.1]) fun i v hv=>?_
  rw[List.getElem?_set] at hv ⊢
  have hl:=h.1
  by_cases e:off=i
  ·simp only[e,if_true] at hv ⊢
   split at hv
   ·rename_i hlt
    injection hv with hv;subst hv
    rw[if_pos (by omega)];exact⟨x',rfl,hx⟩
   ·cases hv
  ·simp only[e,if_false] at hv ⊢
   exact h.get hv
theorem abz:∀(xs z:List Value) (off i:Nat),off+xs.length≤z.length→(nQ z off xs)[i]?=if off≤i∧i<off+xs.length then xs[i-off]? else z[i]?
 |[],z,off,i,_=>by simp[nQ];omega
 |x::xs,z,off,i,h=>by
  simp only[List.length_cons] at h
  rw[nQ,abz xs _ (off+1) i (by simp;omega)]
  by_cases h1:off+1≤i∧i<off+1+xs.length
  ·rw[if_pos h1,if_pos (by simp;omega)]
   rw[show i-off=(i-(off+1))+1 by omega,List.getElem?_cons_succ]
  ·rw[if_neg h1,List.getElem?_set]
   by_cases e:off=i
   ·subst e;rw[if_pos rfl,if_pos (by omega),if_pos (by simp)];simp
   ·rw[if_neg e,if_neg (by simp;omega)]
theorem Qv(off:Nat):∀(xs:List Value) (k:Nat) (cells:Array Value),
 (xs.zipIdx k).foldl (fun(cs:Array Value) (c:Value×Nat)=>cs.setIfInBounds (off+c.2) c.1) cells=⟨nQ cells.toList (off+k) xs⟩
 |[],_,_=>rfl
 |x::xs,k,cells=>by
  rw[List.zipIdx_cons,List.foldl_cons,Qv off xs (k+1)]
  simp only[nQ,Array.toList_setIfInBounds]
  rw[Nat.add_assoc]
section
variable{P:Program}{C:Callee}{fl base aA:Nat}{μ:Mu}{h h1:AH}{w:World}{s:List Value}{a:Act}{v:Value}{o:Oper}
theorem agw{sz}{y:sW}{x:Operand}{z z' cs:List Value}{off size:Nat}{ps:List (Nat×Nat×sW)}{place:Nat→Option (Nat×Nat)}{i:Nat}(hp:place i=some (off,size))
 (t:bN μ sz s a.tmps.toList) (hx:dx x y=true) (hz:bN μ sz z z') (e:zO s ((off,size,y)::ps) z=some cs) (rest:List (Nat×Value)):
 ∃z2 z2':List Value,bN μ sz z2 z2'∧zO s ps z2=some cs∧Instr.fill place z'.toArray ((i,a.eval x)::rest)=Instr.fill place z2'.toArray rest:=by
 simp only[zO] at e
 split at e
 ·rename_i h1
  split at e
  ·rename_i h2
   split at e
   ·rename_i h3
    have r:=(bU t hx).cells (List.all_eq_true.1 h3)
    have hl:=r.1
    refine⟨_,_,bN.nQ (off:=off) hz r,e,?_⟩
    simp only[Instr.fill,hp]
    have hs:(a.eval x).cells.size=size:=by rw[←h1,hl];simp
    have hzl:z'.toArray.size=z.length:=by simp[hz.1]
    rw[if_neg (by simp[hs];have:=hz.1;omega)]
    congr 1
    rw[←Array.foldl_toList,Array.toList_zipIdx,Qv off _ 0]
    simp
   ·cases e
  ·cases e
 ·cases e
theorem abA{sz}(fs:Array Field)(xV:Array (Nat×Nat))(Ql:∀(i:Nat) (f:Field) (ti:TypeInfo),fs[i]?=some f→P.info? f.type=some ti→xV[i]?=some (f.offset,ti.size))(t:bN μ sz s a.tmps.toList):
 ∀{ps:List (Nat×Nat×sW)} {parts:List (Nat×Operand)} {z z' cs:List Value},JW P fs parts ps=true→bN μ sz z z'→zO s ps z=some cs→
  ∃fC:List Value,Instr.fill (xV[·]?) z'.toArray (parts.map fun p=>(p.1,a.eval p.2))=some fC.toArray∧bN μ sz cs fC
 |[],[],z,z',cs,_,hz,e=>by
  simp only[zO,Option.some.injEq] at e;subst e
  exact⟨z',rfl,hz⟩
 |(off,size,y)::ps,(i,x)::parts,z,z',cs,ok,hz,e=>by
  simp only[JW,Bool.and_eq_true] at ok
  obtain⟨⟨k1,k2⟩,k3⟩:=ok
  split at k1
  ·rename_i f hf
   simp only[Bool.and_eq_true,beq_iff_eq] at k1
   obtain⟨k4,k5⟩:=k1
   unfold qG at k5
   split at k5
   ·rename_i ti hti
    simp at k5
    have hp:xV[i]?=some (off,size):=by rw[Ql i f ti hf hti,k4,k5]
    obtain⟨z2,z2',r1,r2,r3⟩:=agw (place:=(xV[·]?)) (i:=i) hp t k2 hz e (parts.map fun p=>(p.1,a.eval p.2))
    obtain⟨fC,q1,q2⟩:=abA fs xV Ql t k3 r1 r2
    exact⟨fC,by simp only[List.map_cons];rw[r3];exact q1,q2⟩
   ·cases k5
  ·cases k1
 |[],_::_,_,_,_,ok,_,_=>by simp[JW] at ok
 |_::_,[],_,_,_,ok,_,_=>by simp[JW] at ok
theorem Wa{sz}(size:Nat)(t:bN μ sz s a.tmps.toList):
 ∀{ps:List (Nat×Nat×sW)} {parts:List (Nat×Operand)} {z z' cs:List Value},Dh size parts ps=true→bN μ sz z z'→zO s ps z=some cs→
  ∃fC:List Value,Instr.fill (fun i=>some (i*size,size)) z'.toArray (parts.map fun p=>(p.1,a.eval p.2))=some fC.toArray∧bN μ sz cs fC
 |[],[],z,z',cs,_,hz,e=>by
  simp only[zO,Option.some.injEq] at e;subst e
  exact⟨z',rfl,hz⟩
 |(off,sz',y)::ps,(i,x)::parts,z,z',cs,ok,hz,e=>by
  simp only[Dh,Bool.and_eq_true,beq_iff_eq] at ok
  obtain⟨⟨⟨rfl,rfl⟩,k2⟩,k3⟩:=ok
  obtain⟨z2,z2',r1,r2,r3⟩:=agw (place:=fun i=>some (i*sz',sz')) (i:=i) rfl t k2 hz e (parts.map fun p=>(p.1,a.eval p.2))
  obtain⟨fC,q1,q2⟩:=Wa sz' t k3 r1 r2
  exact⟨fC,by simp only[List.map_cons];rw[r3];exact q1,q2⟩
 |[],_::_,_,_,_,ok,_,_=>by simp[Dh] at ok
 |_::_,[],_,_,_,ok,_,_=>by simp[Dh] at ok
theorem agx:∀(fs:List Field),fs.all (fun f=>(P.info? f.type).isSome)=true→
 ∃xV,fs.mapM (fun f=>(P.info? f.type).map fun i=>(f.offset,i.size))=some xV∧∀(i:Nat) (f:Field) (ti:TypeInfo),fs[i]?=some f→P.info? f.type=some ti→xV[i]?=some (f.offset,ti.size)
 |[],_=>⟨[],rfl,fun i f ti h=>by simp at h⟩
 |f::fs,h=>by
  simp only[List.all_cons,Bool.and_eq_true] at h
  obtain⟨xV,h1,h2⟩:=agx fs h.2
  obtain⟨ti,hti⟩:=Option.isSome_iff_exists.1 h.1
  refine⟨(f.offset,ti.size)::xV,by simp[List.mapM_cons,hti,h1],?_⟩
  intro i g tj hg hj
  cases i with
  |zero=>simp at hg;subst hg;rw[hti] at hj;injection hj with hj;subst hj;rfl
  |succ i=>simpa using h2 i g tj (by simpa using hg) hj
theorem aGL{z ps}(c:Ctx fl base aA μ h w s a)(ok:eM P o.op (.build z ps)=true)(e:dw C fl s h (.build z ps) K0=some (v,h1)):
 bE fl base aA μ h w v h1 ((execOp a.eval o).run P w):=by
 simp only[dw] at e
 split at e
 ·rename_i cs hcs
  simp only[K0,Option.some.injEq,Prod.mk.injEq] at e
  obtain⟨rfl,rfl⟩:=e
  simp only[eM] at ok
  unfold execOp
  split at ok
  ·rename_i t parts hx;rw[hx]
   simp only[Bool.and_eq_true] at ok
   obtain⟨k1,k2⟩:=ok
   split at k2
   ·rename_i fs hfs
    simp only[Bool.and_eq_true] at k2
    obtain⟨k3,k4⟩:=k2
    unfold okZ zeroOf at k1
    split at k1
    ·rename_i zs hz
     split at hz
     ·rename_i i hi
      split at hz
      ·rename_i zv hzv
       injection hz with hz;subst hz
       obtain⟨xV,p1,p2⟩:=agx fs.toList k3
       obtain⟨fC,q1,q2⟩:=abA (P:=P) (a:=a) fs xV.toArray (fun i f ti hf hti=>by simpa using p2 i f ti (by simpa using hf) hti) c.t k4 (Dg k1) hcs
       have hb:P.built t (parts.map fun(i,x)=>(i,a.eval x)).toList=some fC.toArray:=by
        simp only[Program.built,hi,hfs,hzv,p1,Array.toList_map]
        simpa using q1
       simp only[Sem.run_bind,run_build w t _ _ hb,Result.andThen_ok,Sem.run_pure]
       exact bE.still c.gd (.agg q2.1 q2.2)
      ·cases hz
     ·cases hz
    ·cases k1
   ·cases k2
  ·cases ok
 ·cases e
theorem aA4{len z ps}(c:Ctx fl base aA μ h w s a)(hf:h.next<h1.next→μ h.next=none)(ok:eM P o.op (.bq len z ps)=true)(e:dw C fl s h (.bq len z ps) K0=some (v,h1)):
 bE fl base aA μ h w v h1 ((execOp a.eval o).run P w):=by
 simp only[dw] at e
 split at e
 ·rename_i cs hcs
  simp only[K0,Option.some.injEq,Prod.mk.injEq] at e
  obtain⟨rfl,rfl⟩:=e
  simp only[eM] at ok
  unfold execOp
  split at ok
  ·rename_i t n parts hx;rw[hx]
   simp only[Bool.and_eq_true,beq_iff_eq,decide_eq_true_eq] at ok
   obtain⟨⟨rfl,hlen⟩,k2⟩:=ok
   unfold oC at k2
   split at k2
   ·rename_i ee hee
    split at hee
    ·rename_i e' hu
     injection hee with hee;subst hee
     split at k2
     ·rename_i i hi
      simp only[Bool.and_eq_true,decide_eq_true_eq] at k2
      obtain⟨⟨k3,k4⟩,k5⟩:=k2
      split at k4
      ·rename_i zv hzv
       obtain⟨fC,q1,q2⟩:=Wa (a:=a) i.size c.t k5 (Dg k4) hcs
       rw[Array.toArray_toList] at q1
       have nM:(Instr.buildSlice t n (parts.map fun(i,x)=>(i,a.eval x))).run P w=.ok (.slice (some ⟨w.heap.size,0,none⟩) n n) (w.alloc (.cells fC.toArray e')):=by
        have q3:Instr.fill (fun j=>some (j*i.size,i.size)) ((Array.range (n*i.size)).map (zv.cells[·%zv.cells.size]!)) (parts.map fun(i,x)=>(i,a.eval x)).toList=some fC.toArray:=by
         rw[Array.toList_map];exact q1
        by_cases hz0:n*i.size=0
        ·have h0:((Array.range (n*i.size)).map (zv.cells[·%zv.cells.size]!))=#[]:=by rw[hz0];simp
         rw[h0] at q3
         have h0':¬(n*i.size>2^24):=by omega
         have h00:((Array.range (n*i.size)).map ((#[]:Array Value)[·%(#[]:Array Value).size]!))=#[]:=by rw[hz0];simp
         unfold Instr.buildSlice
         have h1':¬(0>2^24):=by omega
         simp only[run_underlying hu,Sem.run_bind,Result.andThen_ok,gg hi,hz0,if_true,Sem.run_pure,if_neg h1']
         simp only[hz0] at h00
         rw[h00,q3]
         rfl
        ·exact run_buildSlice w t e' n _ _ i zv hu hi hzv (by omega) hz0 q3
       refine bE.new (t:=e') (x:=fC.toArray) c (hf (Nat.lt_succ_self _)) (by simpa using q2) (v':=.slice (some ⟨w.heap.size,0,none⟩) n n) ?_ (.slice (cH _ _ _) hlen (Nat.le_refl _))
       simp only[Sem.run_bind,nM,Result.andThen_ok,Sem.run_pure]
      ·cases k4
     ·cases k2
    ·cases hee
   ·cases k2
  ·cases ok
 ·cases e
theorem Dd.load{b o rb ob u}(sm:Dd base aA μ h w)(hc:h.cell b o=some u)(hm:μ b=some (rb,ob)):∃u',w.cell? ⟨rb,ob+o,none⟩=some u'∧cU μ (dD w) u u':=by
 unfold AH.cell at hc
 split at hc
 ·rename_i cs hb
  exact sm.cell b cs rb ob hb hm o u hc
 ·cases hc
theorem aPF{sh y}(c:Ctx fl base aA μ h w s a)(ok:eM P o.op (.load sh y)=true)(e:dw C fl s h (.load sh y) K0=some (v,h1)):
 bE fl base aA μ h w v h1 ((execOp a.eval o).run P w):=by
 simp only[dw] at e
 obtain⟨p,hp,e⟩:=eL e
 simp only[eM] at ok
 unfold execOp
 split at ok
 ·rename_i t x hx;rw[hx]
  simp only[Bool.and_eq_true] at ok
  obtain⟨k1,k2⟩:=ok
  have r:=bU c.t k1
  rw[hp] at r
  obtain⟨rb,ob,m1,m2⟩:=r.Qu
  simp only[m2,Instr.loadAt,Instr.sureAddr,loadVar,isAgg,Sem.run_bind,Sem.run_pure,Result.andThen_ok]
  split at k2
  ·rename_i fs hu
   split at k2
   ·rename_i l
    unfold qG at k2
    split at k2
    ·rename_i i hi
     simp at k2
     simp only at e
     obtain⟨vs,l1,l2,l3⟩:=zQ (K:=fun vs=>K0 (.agg ⟨vs⟩) h) e
     simp only[K0,Option.some.injEq,Prod.mk.injEq] at l3
     obtain⟨rfl,rfl⟩:=l3
     have akU:∃Dc:List Value,bN μ (dD w) vs Dc∧∀(j:Nat) u,Dc[j]?=some u→w.cell? ⟨rb,ob+p.off+j,none⟩=some u:=by
      clear e
      have key:∀(vs:List Value) (o':Nat),(∀(j:Nat) u,vs[j]?=some u→h.cell p.block (o'+j)=some u)→∃Dc:List Value,bN μ (dD w) vs Dc∧∀(j:Nat) u,Dc[j]?=some u→w.cell? ⟨rb,ob+o'+j,none⟩=some u:=by
       intro vs
       induction vs with
       |nil=>intro o' _;exact⟨[],bN.nil,fun j u hu=>by simp at hu⟩
       |cons u vs ih=>
        intro o' hh
        obtain⟨u',g1,g2⟩:=c.gd.load (hh 0 u rfl) m1
        obtain⟨Dc,g3,g4⟩:=ih (o'+1) (fun j q hq=>by have:=hh (j+1) q (by simpa using hq);rwa[show o'+(j+1)=o'+1+j by omega] at this)
        refine⟨u'::Dc,bN.cons g2 g3,?_⟩
        intro j q hq
        cases j with
        |zero=>simp at hq;subst hq;exact g1
        |succ j=>have:=g4 j q (by simpa using hq);rwa[show ob+o'+(j+1)=ob+(o'+1)+j by omega]
      exact key vs p.off (fun j u hu=>l2 j u hu)
     obtain⟨Dc,g1,g2⟩:=akU
     have hl:(loadCells ⟨rb,ob+p.off,none⟩ i.size).run P w=.ok Dc.toArray w:=by
      rw[k2,←l1,g1.1]
      refine run_loadCells_list w _ Dc fun j u hu=>?_
      have:=g2 j u hu
      unfold Addr.add
      split
      ·rename_i h0;subst h0;simpa using this
      ·exact this
     simp only[run_underlying hu,Result.andThen_ok,if_true,Sem.run_bind,gg hi,hl,Sem.run_pure]
     exact bE.still c.gd (.agg g1.1 g1.2)
    ·cases k2
   ·cases k2
  ·cases k2
  ·rename_i d hn1 hn2 hu
   split at k2
   ·rename_i s0
    simp only at e
    obtain⟨u,g1,g2⟩:=Df (K:=fun v=>K0 v h) e
    simp only[K0,Option.some.injEq,Prod.mk.injEq] at g2
    obtain⟨rfl,rfl⟩:=g2
    obtain⟨u',q1,q2⟩:=c.gd.load g1 m1
    have hd:((match d with|.struct _=>pure true|.array _ _=>pure true|_=>pure false):Sem Bool)=pure false:=by
     cases d<;>first|rfl|(exact absurd rfl (hn1 _))|(exact absurd rfl (hn2 _ _))
    simp only[run_underlying hu,Result.andThen_ok,hd,Sem.run_pure,Bool.false_eq_true,if_false,run_load,q1]
    exact bE.still c.gd q2
   ·cases k2
  ·cases k2
 ·cases ok
end
end Go.Abs
end
section
namespace Go.Abs
section
variable{P:Program}{C:Callee}{fl base aA:Nat}{μ:Mu}{h h1:AH}{w:World}{s:List Value}{a:Act}{v:Value}{o:Oper}
theorem me(b o n:Nat):(⟨b,o,none⟩:Addr).add n=⟨b,o+n,none⟩:=by
 unfold Addr.add
 split
 ·rename_i h;subst h;rfl
 ·rfl
theorem bN.one{μ sz}{xs Br:List Value}(r:bN μ sz xs Br)(h:xs.all De=true):∀u∈Br,u.oneCell'=true:=by
 intro u hu
 obtain⟨i,hi,rfl⟩:=List.getElem_of_mem hu
 have JO:i<xs.length:=by have:=r.1;omega
 exact(r.2 i JO hi).aGJ (List.all_eq_true.1 h _ (List.getElem_mem JO))
theorem abB{R:Type}{r:R}{p:Addr}{xs Br:List Value}{K:AH→Option R}{rb ob:Nat}(sm:Dd base aA μ h w)(hb:base≤fl)(e:st fl h p xs K=some r)(hx:bN μ (dD w) xs Br)(m:μ p.block=some (rb,ob)):
 ∃c' h2,(storeCells ⟨rb,ob+p.off,none⟩ Br).run P w=.ok () (w.setRow rb c')∧cJ fl base aA μ h w μ h2 (w.setRow rb c')∧K h2=some r∧h2.next=h.next∧fl≤p.block:=by
 unfold st at e
 split at e
 ·rename_i cs hcs
  split at e
  ·rename_i bR
   split at e
   ·rename_i aUh
    split at e
    ·rename_i hlen
     split at e
     ·rename_i aFL
      obtain⟨_,c,t,hg⟩:=sm.own p.block cs rb ob (Nat.le_trans hb bR) hcs m
      have YE:Br.length=xs.length:=hx.1.symm
      have hsz:ob+p.off+Br.length≤c.size:=by
       have hlt:p.off+xs.length-1<cs.length:=by omega
       obtain⟨u',g1,_⟩:=sm.cell p.block cs rb ob hcs m (p.off+xs.length-1) _ (List.getElem?_eq_getElem hlt)
       rw[oV hg] at g1
       obtain⟨g2,_⟩:=Array.getElem?_eq_some_iff.1 g1
       omega
      have nM:=run_storeCells_at (P:=P) rb (ob+p.off) t Br 0 c w hg (by omega) (hx.one aFL)
      simp only[Nat.add_zero] at nM
      refine⟨_,_,nM,?_,e,rfl,bR⟩
      refine cJ.set sm bR hb hcs m hg ?_ ?_
      ·simp;omega
      ·intro j u hu
       rw[abz xs cs p.off j hlen] at hu
       by_cases hj:p.off≤j∧j<p.off+xs.length
       ·rw[if_pos hj] at hu
        obtain⟨u',g1,g2⟩:=hx.get hu
        refine⟨u',?_,g2⟩
        simp only[List.getElem?_toArray]
        rw[List.append_assoc,List.getElem?_append_right (by simp;omega),List.getElem?_append_left (by simp;omega)]
        have e1:ob+j-(List.take (ob+p.off) c.toList).length=j-p.off:=by simp;omega
        rw[e1];exact g1
       ·rw[if_neg hj] at hu
        obtain⟨u',g1,g2⟩:=sm.cell p.block cs rb ob hcs m j u hu
        rw[oV hg] at g1
        refine⟨u',?_,g2⟩
        obtain⟨g3,g4⟩:=Array.getElem?_eq_some_iff.1 g1
        simp only[List.getElem?_toArray]
        by_cases hj2:j<p.off
        ·rw[List.append_assoc,List.getElem?_append_left (by simp;omega),List.getElem?_take,if_pos (by omega)]
         simpa using g1
        ·rw[List.append_assoc,List.getElem?_append_right (by simp;omega),List.getElem?_append_right (by simp;omega),List.getElem?_drop]
         have e1:ob+p.off+Br.length+(ob+j-(List.take (ob+p.off) c.toList).length-Br.length)=ob+j:=by simp;omega
         rw[e1]
         simpa using g1
     ·cases e
    ·cases e
   ·cases e
  ·cases e
 ·cases e
theorem aGM{n y z}(c:Ctx fl base aA μ h w s a)(ok:eM P o.op (.store n y z)=true)(e:dw C fl s h (.store n y z) K0=some (v,h1)):
 bE fl base aA μ h w v h1 ((execOp a.eval o).run P w):=by
 simp only[dw] at e
 obtain⟨p,hp,e⟩:=eL e
 split at e
 ·rename_i hn
  simp only[eM] at ok
  unfold execOp
  split at ok
  ·rename_i t y' z' hx;rw[hx]
   simp only[Bool.and_eq_true] at ok
   obtain⟨⟨k1,k2⟩,k3⟩:=ok
   have r1:=bU c.t k2
   rw[hp] at r1
   obtain⟨rb,ob,m1,m2⟩:=r1.Qu
   have aFL:(ev s z).cells.toList.all De=true:=by
    unfold st at e
    (repeat' split at e)<;>first|assumption|cases e
   have r2:=(bU c.t k3).cells (List.all_eq_true.1 aFL)
   obtain⟨c',h2,g1,g2,g3,_⟩:=abB (P:=P) c.gd c.hb e r2 m1
   simp only[K0,Option.some.injEq,Prod.mk.injEq] at g3
   obtain⟨rfl,rfl⟩:=g3
   unfold qG at k1
   split at k1
   ·rename_i i hi
    simp at k1
    have hs:¬((a.eval z').cells.size≠i.size):=by
     have:=r2.1
     simp only[Array.length_toList] at this hn
     omega
    simp only[m2,Instr.storeAt,Instr.sureAddr,storeVar,Sem.run_bind,Sem.run_pure,Result.andThen_ok,gg hi,if_neg hs,g1]
    exact⟨undef,μ,_,.inr ⟨rfl,rfl⟩,g2,.xU _⟩
   ·cases k1
  ·cases ok
 ·cases e
theorem aqS(d:Nat){t m n}(hu:P.underlying t=some .bool):(Op.equalIn (d+1) t (Value.bool m) (Value.bool n)).run P w=.ok (m==n) w:=by
 simp only[Op.equalIn,Sem.run_bind,run_underlying hu,Result.andThen_ok,Sem.run_pure]
theorem ala(d:Nat){t e b l c}(hu:P.underlying t=some (.slice e)):(Op.equalIn (d+1) t (Value.slice b l c) (Value.slice none 0 0)).run P w=.ok b.isNone w:=by
 cases b<;>simp only[Op.equalIn,Sem.run_bind,run_underlying hu,Result.andThen_ok,Sem.run_pure,Option.isNone]
theorem aS6{neg x y}(c:Ctx fl base aA μ h w s a)(ok:eM P o.op (.beq neg x y)=true)(e:dw C fl s h (.beq neg x y) K0=some (v,h1)):
 bE fl base aA μ h w v h1 ((execOp a.eval o).run P w):=by
 simp only[dw] at e
 obtain⟨m,hm,e⟩:=cI e
 obtain⟨n,hn,e⟩:=cI e
 simp only[K0,Option.some.injEq,Prod.mk.injEq] at e
 obtain⟨rfl,rfl⟩:=e
 simp only[eM] at ok
 unfold execOp
 split at ok
 ·rename_i o' t x' y' t' hx;rw[hx]
  simp only[Bool.and_eq_true] at ok
  obtain⟨⟨⟨k0,kt⟩,k1⟩,k2⟩:=ok
  have r1:=bU c.t k1
  have r2:=bU c.t k2
  rw[hm] at r1;rw[hn] at r2
  have r1:=r1.xm
  have r2:=r2.xm
  simp only[r1,r2]
  unfold as7 at kt
  split at kt
  ·rename_i hu
   have hsh:o'=if neg=true then BinOp.neq else .eql:=by cases neg<;>simpa using k0
   have hg:(eqGuard o' t x' y' (Value.bool m) (Value.bool n)).run P w=.ok () w:=by
    subst hsh;cases neg<;>rfl
   have he:(Op.equal t (Value.bool m) (Value.bool n)).run P w=.ok (m==n) w:=by
    exact aqS 9999 hu
   have hb:(binOp o' t (Value.bool m) (Value.bool n)).run P w=.ok (.bool (if neg=true then !(m==n) else m==n)) w:=by
    subst hsh
    cases neg<;>simp[binOp,he]
   simp only[Sem.run_bind,hg,hb,Result.andThen_ok,Sem.run_pure]
   exact bE.still c.gd (.bool _)
  ·cases kt
 ·cases ok
theorem aPG{neg x}(c:Ctx fl base aA μ h w s a)(ok:eM P o.op (.TQ neg x)=true)(e:dw C fl s h (.TQ neg x) K0=some (v,h1)):
 bE fl base aA μ h w v h1 ((execOp a.eval o).run P w):=by
 simp only[dw] at e
 obtain⟨m,hm,e⟩:=cT e
 simp only[K0,Option.some.injEq,Prod.mk.injEq] at e
 obtain⟨rfl,rfl⟩:=e
 simp only[eM] at ok
 unfold execOp
 split at ok
 ·rename_i o' t x' t' hx;rw[hx]
  simp only[Bool.and_eq_true] at ok
  obtain⟨⟨k0,kt⟩,k1⟩:=ok
  have r1:=bU c.t k1
  rw[hm] at r1
  obtain⟨b',c',q1,q2⟩:=cU.agv (s:=m) r1
  unfold oC at kt
  split at kt
  ·rename_i e' hu
   have hev:a.eval (.const (.slice none 0 0))=.slice none 0 0:=rfl
   simp only[q1,hev]
   have hsh:o'=if neg=true then BinOp.neq else .eql:=by cases neg<;>simpa using k0
   have hg:(eqGuard o' t x' (.const (.slice none 0 0)) (Value.slice b' m.l c') (.slice none 0 0)).run P w=.ok () w:=by
    subst hsh;cases neg<;>rfl
   have he:(Op.equal t (Value.slice b' m.l c') (.slice none 0 0)).run P w=.ok b'.isNone w:=by
    exact ala 9999 hu
   have hb:(binOp o' t (Value.slice b' m.l c') (.slice none 0 0)).run P w=.ok (.bool (if neg=true then !m.a.isNone else m.a.isNone)) w:=by
    subst hsh
    rw[q2]
    cases neg<;>simp[binOp,he]
   simp only[Sem.run_bind,hg,hb,Result.andThen_ok,Sem.run_pure]
   exact bE.still c.gd (.bool _)
  ·cases kt
 ·cases ok
theorem as9{t k}(h:isInt P t k=true):P.underlying t=some (.int k):=by
 unfold isInt at h
 split at h
 ·rename_i k' hu;simp at h;rw[hu,h]
 ·cases h
theorem aPH{sk dk y}(c:Ctx fl base aA μ h w s a)(ok:eM P o.op (.conv sk dk y)=true)(e:dw C fl s h (.conv sk dk y) K0=some (v,h1)):
 bE fl base aA μ h w v h1 ((execOp a.eval o).run P w):=by
 simp only[dw] at e
 obtain⟨m,hm,e⟩:=aU e
 simp only[K0,Option.some.injEq,Prod.mk.injEq] at e
 obtain⟨rfl,rfl⟩:=e
 simp only[eM] at ok
 unfold execOp
 split at ok
 ·rename_i ts td x hx;rw[hx]
  simp only[Bool.and_eq_true] at ok
  obtain⟨⟨k1,k2⟩,k3⟩:=ok
  have r:=bU c.t k3
  rw[hm] at r
  have hr:(convert ts td (Value.int sk m)).run P w=.ok (.int dk (dk.wrap m)) w:=by
   simp[convert,run_underlying (as9 k1),run_underlying (as9 k2),Conv.intToInt]
  simp only[r.km,Sem.run_bind,hr,Result.andThen_ok,Sem.run_pure]
  exact bE.still c.gd (.int _ _)
 ·cases ok
theorem aPI{f x y}(c:Ctx fl base aA μ h w s a)(ok:eM P o.op (.Da f x y)=true)(e:dw C fl s h (.Da f x y) K0=some (v,h1)):
 bE fl base aA μ h w v h1 ((execOp a.eval o).run P w):=by
 simp only[dw,K0,Option.some.injEq,Prod.mk.injEq] at e
 obtain⟨rfl,rfl⟩:=e
 simp only[eM] at ok
 unfold execOp
 split at ok
 ·rename_i g x' y' hx;rw[hx]
  simp only[Bool.and_eq_true,beq_iff_eq] at ok
  obtain⟨⟨rfl,k2⟩,k3⟩:=ok
  have r1:=Qt c.t k2
  have r2:=Qt c.t k3
  have e1:x'.map a.eval=⟨x'.toList.map a.eval⟩:=by apply Array.ext';simp
  have e2:y'.map a.eval=⟨y'.toList.map a.eval⟩:=by apply Array.ext';simp
  simp only[e1,e2,Instr.makeFunc,Sem.run_bind,Result.andThen_ok,Sem.run_pure]
  exact bE.still c.gd (.func r1.1 r1.2 r2.1 r2.2)
 ·cases ok
theorem aGN{off y}(c:Ctx fl base aA μ h w s a)(ok:eM P o.op (.cW off y)=true)(e:dw C fl s h (.cW off y) K0=some (v,h1)):
 bE fl base aA μ h w v h1 ((execOp a.eval o).run P w):=by
 simp only[dw] at e
 obtain⟨p,hp,e⟩:=eL e
 simp only[K0,Option.some.injEq,Prod.mk.injEq] at e
 obtain⟨rfl,rfl⟩:=e
 simp only[eM] at ok
 unfold execOp
 split at ok
 ·rename_i t x i hx;rw[hx]
  simp only[Bool.and_eq_true] at ok
  obtain⟨k1,k2⟩:=ok
  have r:=bU c.t k1
  rw[hp] at r
  obtain⟨rb,ob,m1,m2⟩:=r.Qu
  split at k2
  ·rename_i fs hu
   split at k2
   ·rename_i f hf
    simp only[Bool.and_eq_true,beq_iff_eq] at k2
    obtain⟨rfl,k3⟩:=k2
    split at k3
    ·rename_i ti hi
     simp only[bne_iff_ne,ne_eq] at k3
     simp only[m2,Instr.fieldAt,Instr.sureAddr,fieldPlace,Sem.run_bind,Sem.run_pure,Result.andThen_ok,run_underlying hu,hf,gg hi,if_neg k3,me]
     refine bE.still c.gd ?_
     rw[Nat.add_assoc]
     exact .ptr m1
    ·cases k3
   ·cases k2
  ·cases k2
 ·cases ok
theorem Uf{t e}(h:oC P t=some e):P.underlying t=some (.slice e):=by
 unfold oC at h
 split at h
 ·rename_i e' hu;injection h with h;rw[hu,h]
 ·cases h
theorem Ug{t n}(h:qG P t n=true):∃i,P.info? t=some i∧i.size=n:=by
 unfold qG at h
 split at h
 ·rename_i i hi;exact⟨i,hi,by simpa using h⟩
 ·cases h
theorem aGO{kY x i}(c:Ctx fl base aA μ h w s a)(ok:eM P o.op (.eE kY x i)=true)(e:dw C fl s h (.eE kY x i) K0=some (v,h1)):
 bE fl base aA μ h w v h1 ((execOp a.eval o).run P w):=by
 simp only[dw] at e
 obtain⟨⟨ma,ml,mc⟩,hm,e⟩:=cT e
 obtain⟨n,hn,e⟩:=aU e
 unfold idx at e
 simp only at e hm
 split at e
 ·rename_i p _
  split at e
  ·rename_i h0
   split at e
   ·rename_i hlt
    simp only[K0,Option.some.injEq,Prod.mk.injEq] at e
    obtain⟨rfl,rfl⟩:=e
    simp only[eM] at ok
    unfold execOp
    split at ok
    ·rename_i t x' i' hx;rw[hx]
     simp only[Bool.and_eq_true] at ok
     obtain⟨⟨k1,k2⟩,k3⟩:=ok
     have r1:=bU c.t k1
     have r2:=bU c.t k2
     rw[hm] at r1;rw[hn] at r2
     split at k3
     ·rename_i ee hee
      obtain⟨ti,hi,rfl⟩:=Ug k3
      have hu:=Uf hee
      have aVl:∃rb ob c',μ p.block=some (rb,ob)∧a.eval x'=.slice (some ⟨rb,ob+p.off,none⟩) ml c':=by
       revert r1
       generalize a.eval x'=q
       intro r1
       cases r1 with
       |slice g1 g2 g3=>exact⟨_,_,_,g1,rfl⟩
       |nU g1 g2 g3 g4=>
        rcases g2 with g2|g2
        ·omega
        ·subst g2;exact⟨_,_,_,g1,rfl⟩
       |ago=>omega
      obtain⟨rb,ob,c',q1,q2⟩:=aVl
      have hbd:0≤n∧n<(ml:Int):=⟨h0,hlt⟩
      simp only[q2,r2.km,Instr.indexAt,asIntOf,Sem.run_bind,Sem.run_pure,Result.andThen_ok,run_underlying hu,if_pos hbd,gg hi,me]
      refine bE.still c.gd ?_
      rw[Nat.add_assoc]
      exact .ptr q1
     ·cases k3
    ·cases ok
   ·cases e
  ·cases e
 ·cases e
theorem aS7{args:Array Operand}{x}(h:args.toList=[x]):args=#[x]:=by apply Array.ext';rw[h]
theorem aA5{args:Array Operand}{x y}(h:args.toList=[x,y]):args=#[x,y]:=by apply Array.ext';rw[h]
theorem aS8{y}(c:Ctx fl base aA μ h w s a)(ok:eM P o.op (.len y)=true)(e:dw C fl s h (.len y) K0=some (v,h1)):
 bE fl base aA μ h w v h1 ((execOp a.eval o).run P w):=by
 simp only[dw] at e
 obtain⟨m,hm,e⟩:=cT e
 simp only[K0,Option.some.injEq,Prod.mk.injEq] at e
 obtain⟨rfl,rfl⟩:=e
 simp only[eM] at ok
 unfold execOp
 split at ok
 ·rename_i args tys hx;rw[hx]
  split at ok
  ·rename_i x t ha ht
   have ha:=aS7 ha
   have ht:tys=#[t]:=by apply Array.ext';rw[ht]
   subst ha;subst ht
   simp only[Bool.and_eq_true] at ok
   obtain⟨k1,kt⟩:=ok
   have r1:=bU c.t k1
   rw[hm] at r1
   obtain⟨b',c',q1,q2⟩:=cU.agv (s:=m) r1
   obtain⟨ee,hee⟩:=Option.isSome_iff_exists.1 kt
   have hu:=Uf hee
   have hr:(Builtin.len_ #[t] o.type #[Value.slice b' m.l c']).run P w=.ok (.int .i64 m.l) w:=by
    simp[Builtin.len_,run_underlying hu,goInt]
   simp only[resolve,Sem.run_bind,Sem.run_pure,Result.andThen_ok,invoke,builtin,List.map_toArray,List.map_cons,List.map_nil,q1,hr]
   exact bE.still c.gd (.int _ _)
  ·cases ok
 ·cases ok
theorem aPJ{k bs y}(c:Ctx fl base aA μ h w s a)(ok:eM P o.op (.aam k bs y)=true)(e:dw C fl s h (.aam k bs y) K0=some (v,h1)):
 bE fl base aA μ h w v h1 ((execOp a.eval o).run P w):=by
 simp only[dw] at e
 obtain⟨n,hn,e⟩:=aU e
 split at e
 ·rename_i h0
  split at e
  ·rename_i b hb
   simp only[K0,Option.some.injEq,Prod.mk.injEq] at e
   obtain⟨rfl,rfl⟩:=e
   simp only[eM] at ok
   unfold execOp
   split at ok
   ·rename_i t sb x hx;rw[hx]
    simp only[Bool.and_eq_true,decide_eq_true_eq] at ok
    obtain⟨⟨k1,kt⟩,rfl⟩:=ok
    have r:=bU c.t k1
    rw[hn] at r
    split at kt
    ·rename_i hu
     have hev:a.eval (.const (.string sb))=.string sb:=rfl
     obtain⟨u,hu1,hu2⟩:∃u,sb[n.toNat]?=some u∧u.toNat=b:=by
      rw[List.getElem?_map,Option.map_eq_some_iff] at hb
      obtain⟨u,h1,h2⟩:=hb
      obtain⟨hl,h3⟩:=List.getElem?_eq_some_iff.1 h1
      have YE:n.toNat<sb.size:=by simpa using hl
      refine⟨sb[n.toNat],getElem?_pos sb n.toNat YE,?_⟩
      rw[←h2,←h3];rfl
     have hr:(Instr.index t (.string sb) (.int k n)).run P w=.ok (.int .u8 b) w:=by
      simp only[Instr.index,asIntOf,Sem.run_bind,Sem.run_pure,Result.andThen_ok,run_underlying hu,if_pos h0,hu1,hu2]
     simp only[hev,r.km,Sem.run_bind,hr,Result.andThen_ok,Sem.run_pure]
     exact bE.still c.gd (.int _ _)
    ·cases kt
   ·cases ok
  ·cases e
 ·cases e
theorem aXz{isMax x y}(c:Ctx fl base aA μ h w s a)(ok:eM P o.op (.mm isMax x y)=true)(e:dw C fl s h (.mm isMax x y) K0=some (v,h1)):
 bE fl base aA μ h w v h1 ((execOp a.eval o).run P w):=by
 simp only[dw] at e
 obtain⟨m,hm,e⟩:=aU e
 obtain⟨n,hn,e⟩:=aU e
 simp only[K0,Option.some.injEq,Prod.mk.injEq] at e
 obtain⟨rfl,rfl⟩:=e
 simp only[eM] at ok
 unfold execOp
 split at ok
 ·rename_i b args tys hx;rw[hx]
  split at ok
  ·rename_i x' y' ha
   have ha:=aA5 ha
   subst ha
   simp only[Bool.and_eq_true] at ok
   obtain⟨⟨k0,k1⟩,k2⟩:=ok
   have r1:=bU c.t k1
   have r2:=bU c.t k2
   rw[hm] at r1;rw[hn] at r2
   have r1:=r1.km
   have r2:=r2.km
   cases isMax with
   |true=>
    simp only[if_true] at k0
    split at k0
    ·simp only[resolve,Sem.run_bind,Sem.run_pure,Result.andThen_ok,invoke,builtin,List.map_toArray,List.map_cons,List.map_nil,r1,r2,Builtin.max_,List.foldlM_cons,List.foldlM_nil,Builtin.max2,if_true]
     exact bE.still c.gd (.int _ _)
    ·cases k0
   |false=>
    simp only[Bool.false_eq_true,if_false] at k0
    split at k0
    ·simp only[resolve,Sem.run_bind,Sem.run_pure,Result.andThen_ok,invoke,builtin,List.map_toArray,List.map_cons,List.map_nil,r1,r2,Builtin.min_,List.foldlM_cons,List.foldlM_nil,Builtin.min2,Bool.false_eq_true,if_false]
     exact bE.still c.gd (.int _ _)
    ·cases k0
  ·cases ok
 ·cases ok
end
end Go.Abs
end
section
namespace Go.Abs
section
variable{P:Program}{C:Callee}{fl base aA:Nat}{μ:Mu}{h h1:AH}{w:World}{s:List Value}{a:Act}{v:Value}{o:Oper}
theorem Dd.agy{b rb ob:Nat}(sm:Dd base aA μ h w)(m:μ b=some (rb,ob)):∀(vs:List Value) (o':Nat),(∀(j:Nat) u,vs[j]?=some u→h.cell b (o'+j)=some u)→
 ∃Dc:List Value,bN μ (dD w) vs Dc∧∀(j:Nat) u,Dc[j]?=some u→w.cell? ⟨rb,ob+o'+j,none⟩=some u
 |[],_,_=>⟨[],bN.nil,fun j u hu=>by simp at hu⟩
 |u::vs,o',hh=>by
  obtain⟨u',g1,g2⟩:=sm.load (hh 0 u rfl) m
  obtain⟨Dc,g3,g4⟩:=Dd.agy sm m vs (o'+1) (fun j q hq=>by have:=hh (j+1) q (by simpa using hq);rwa[show o'+(j+1)=o'+1+j by omega] at this)
  refine⟨u'::Dc,bN.cons g2 g3,?_⟩
  intro j q hq
  cases j with
  |zero=>simp at hq;subst hq;exact g1
  |succ j=>have:=g4 j q (by simpa using hq);rwa[show ob+o'+(j+1)=ob+(o'+1)+j by omega]
theorem IA{R:Type}{r:R}{p:Addr}{n:Nat}{K:List Value→Option R}(e:GO h (some p) n K=some r):
 ∃xs:List Value,xs.length=n∧K xs=some r∧(∃cs,h.iN p.block=some cs)∧∀(j:Nat) u,xs[j]?=some u→h.cell p.block (p.off+j)=some u:=by
 unfold GO at e
 simp only at e
 split at e
 ·rename_i cs hcs
  split at e
  ·rename_i hl
   refine⟨_,by simp;omega,e,⟨cs,hcs⟩,?_⟩
   intro j u hu
   rw[List.getElem?_take] at hu
   split at hu
   ·rw[List.getElem?_drop] at hu
    simp[AH.cell,hcs,hu]
   ·cases hu
  ·cases e
 ·cases e
theorem abC(z:List Value)(hz:0<z.length)(n:Nat):(madeCells z.toArray (n*z.length)).toList=Uc z n:=by
 apply List.ext_getElem?
 intro i
 have hmul:∀n,(List.replicate n z).flatten.length=n*z.length:=by
  intro n;simp
 by_cases hi:i<n*z.length
 ·have h1:i%z.length<z.length:=Nat.mod_lt _ hz
  have e1:(madeCells z.toArray (n*z.length)).toList[i]?=some z[i%z.length]:=by
   simp[madeCells,hi,h1]
  rw[e1]
  have key:∀(n i:Nat),i<n*z.length→(List.replicate n z).flatten[i]?=z[i%z.length]?:=by
   intro n
   induction n with
   |zero=>intro i h;omega
   |succ n ih=>
    intro i h
    rw[List.replicate_succ,List.flatten_cons]
    by_cases hi:i<z.length
    ·rw[List.getElem?_append_left hi,Nat.mod_eq_of_lt hi]
    ·rw[List.getElem?_append_right (by omega),ih (i-z.length) (by rw[Nat.succ_mul] at h;omega)]
     congr 1
     exact(Nat.mod_eq_sub_mod (by omega)).symm
  unfold Uc
  rw[key n i hi,List.getElem?_eq_getElem h1]
 ·rw[List.getElem?_eq_none (by simp[madeCells];omega),List.getElem?_eq_none (by unfold Uc;rw[hmul];omega)]
theorem bN.Uc{μ sz z z'}(h:bN μ sz z z'):∀n,bN μ sz (Uc z n) (Uc z' n)
 |0=>bN.nil
 |n+1=>by unfold Abs.Uc;rw[List.replicate_succ,List.flatten_cons,List.replicate_succ,List.flatten_cons];exact h.append (bN.Uc h n)
theorem aPK{t z}(h:okZ P t z=true):∃i zv,P.info? t=some i∧i.zero=some zv∧ahB z zv.cells.toList=true:=by
 unfold okZ zeroOf at h
 split at h
 ·rename_i zs hz
  split at hz
  ·rename_i i hi
   split at hz
   ·rename_i zv hzv
    injection hz with hz;subst hz
    exact⟨i,zv,hi,hzv,h⟩
   ·cases hz
  ·cases hz
 ·cases h
theorem axD{bytes z x y}(c:Ctx fl base aA μ h w s a)(hf:h.next<h1.next→μ h.next=none)(ok:eM P o.op (.dj bytes z x y)=true)(e:dw C fl s h (.dj bytes z x y) K0=some (v,h1)):
 bE fl base aA μ h w v h1 ((execOp a.eval o).run P w):=by
 simp only[dw] at e
 obtain⟨m,hm,e⟩:=aU e
 obtain⟨n,hn,e⟩:=aU e
 unfold qF at e
 split at e
 ·rename_i hb
  simp only[K0,Option.some.injEq,Prod.mk.injEq] at e
  obtain⟨rfl,rfl⟩:=e
  simp only[eM] at ok
  unfold execOp
  split at ok
  ·rename_i t l' c' hx;rw[hx]
   simp only[Bool.and_eq_true] at ok
   obtain⟨⟨k1,k2⟩,k3⟩:=ok
   have r1:=bU c.t k1
   have r2:=bU c.t k2
   rw[hm] at r1;rw[hn] at r2
   split at k3
   ·rename_i ee hee
    have hu:=Uf hee
    simp only[Bool.and_eq_true,decide_eq_true_eq] at k3
    obtain⟨⟨⟨⟨kb,kz⟩,ks⟩,kp⟩,kbp⟩:=k3
    obtain⟨i,zv,hi,hzv,hz⟩:=aPK kz
    obtain⟨i2,hi2,hsz⟩:=Ug ks
    rw[hi] at hi2;injection hi2 with hi2;subst hi2
    have hby:i.bytes=bytes:=by
     unfold aat at kb
     rw[hi] at kb;simpa using kb
    obtain⟨h0,h1,h2⟩:=hb
    have ahs:(n*(bytes:Int))≤2^47:=by simpa [kc] using h2
    have hnb:n≤n*(bytes:Int):=by
     have:n*1≤n*(bytes:Int):=Int.mul_le_mul_of_nonneg_left (by omega) (by omega)
     omega
    have nM:=run_make (P:=P) w t ee i zv hu hi hzv .i64 .i64 m n h0 h1 (by rw[hby,Int.mul_comm];omega) (by omega)
    have hzl:=Dg (μ:=μ) (sz:=dD w) hz
    have hzz:zv.cells=(zv.cells.toList).toArray:=by simp
    have aQr:(madeCells zv.cells (n.toNat*i.size)).toList=Uc zv.cells.toList n.toNat:=by
     rw[hsz,hzl.1]
     have:=abC zv.cells.toList (by rw[←hzl.1];exact kp) n.toNat
     rwa[Array.toArray_toList] at this
    refine bE.new (t:=ee) (x:=madeCells zv.cells (n.toNat*i.size)) c (hf (Nat.lt_succ_self _)) (by rw[aQr];exact hzl.Uc _) (v':=.slice (some ⟨w.heap.size,0,none⟩) m.toNat n.toNat) ?_ (.slice (cH _ _ _) ?_ (by omega))
    ·simp only[r1.km,r2.km,Sem.run_bind,nM,Result.andThen_ok,Sem.run_pure]
    ·unfold oB;omega
   ·cases k3
  ·cases ok
 ·cases e
theorem IB{R:Type}{r:R}{μ sz}{x:Option Operand}{y:Option sW}{K:Option Int→Option R}(t:bN μ sz s a.tmps.toList)(ok:okO x y=true)(e:j4 s y K=some r):
 (x=none∧K none=some r)∨∃x' k n,x=some x'∧a.eval x'=.int k n∧K (some n)=some r:=by
 cases x<;>cases y<;>simp[okO] at ok
 ·exact .inl ⟨rfl,e⟩
 ·rename_i x y
  right
  simp only[j4] at e
  split at e
  ·rename_i k n hn
   have r:=bU t ok
   rw[hn] at r
   exact⟨x,k,n,rfl,r.km,e⟩
  ·cases e
theorem vu(t e:TypeId)(b:Option Addr)(len cap:Nat)(hu:P.underlying t=some (.slice e))(ti:TypeInfo)(hi:P.info? e=some ti)(lo JO mx:Option Value)(l h m:Nat)
 (hb:(Instr.sliceBounds true len cap lo JO mx).run P w=.ok (l,h,m) w):
 (Instr.sliceAt t (.slice b len cap) lo JO mx).run P w=.ok (.slice (if m=l then b else b.map (·.add (l*ti.size))) (h-l) (m-l)) w:=by
 simp only[Instr.sliceAt,Instr.slice,Sem.run_bind,run_underlying hu,Result.andThen_ok,hb,gg hi,Sem.run_pure]
theorem EO{len cap:Nat}{lo hi mx:Option (IntKind×Int)}(l h m:Int)(hm:m=(mx.map (·.2)).getD (cap:Int))(hh:h=(hi.map (·.2)).getD (len:Int))(hl:l=(lo.map (·.2)).getD 0)
 (h0:0≤l) (h1:l≤h) (h2:h≤m) (h3:m≤cap) (hp:mx.isSome=true→hi.isSome=true):
 (Instr.sliceBounds true len cap (lo.map fun x=>.int x.1 x.2) (hi.map fun x=>.int x.1 x.2) (mx.map fun x=>.int x.1 x.2)).run P w=.ok (l.toNat,h.toNat,m.toNat) w:=by
 subst hm hh hl
 have em:∀x:Int,0≤x→(x.toNat:Int)=x:=fun x hx=>Int.toNat_of_nonneg hx
 cases mx with
 |none=>
  cases hi with
  |none=>
   cases lo with
   |none=>simp[Instr.sliceBounds]
   |some lo=>
    simp only[Option.map_none,Option.getD_none,Option.map_some,Option.getD_some] at*
    simp[Instr.sliceBounds,run_sliceBound (P:=P) (w:=w) lo.1 lo.2 _ _ h0 h1]
  |some hi=>
   simp only[Option.map_none,Option.getD_none,Option.map_some,Option.getD_some] at*
   cases lo with
   |none=>
    simp only[Option.map_none,Option.getD_none] at*
    simp[Instr.sliceBounds,run_sliceBound (P:=P) (w:=w) hi.1 hi.2 cap _ h1 h2]
   |some lo=>
    simp only[Option.map_some,Option.getD_some] at*
    have:=run_sliceBound (P:=P) (w:=w) lo.1 lo.2 hi.2.toNat .sliceB h0 (by rw[em _ (by omega)];exact h1)
    simp[Instr.sliceBounds,run_sliceBound (P:=P) (w:=w) hi.1 hi.2 cap _ (by omega) h2,this]
 |some mx=>
  cases hi with
  |none=>simp at hp
  |some hi=>
   simp only[Option.map_some,Option.getD_some] at*
   have hmm:=run_sliceBound (P:=P) (w:=w) mx.1 mx.2 cap .slice3Acap (by omega) h3
   have hhh:=run_sliceBound (P:=P) (w:=w) hi.1 hi.2 mx.2.toNat .slice3B (by omega) (by rw[em _ (by omega)];exact h2)
   cases lo with
   |none=>simp[Instr.sliceBounds,hmm,hhh]
   |some lo=>
    simp only[Option.map_some,Option.getD_some] at*
    have:=run_sliceBound (P:=P) (w:=w) lo.1 lo.2 hi.2.toNat .slice3C h0 (by rw[em _ (by omega)];exact h1)
    simp[Instr.sliceBounds,hmm,hhh,this]
theorem aGP{kY y lo hi mx}(c:Ctx fl base aA μ h w s a)(ok:eM P o.op (.slice kY y lo hi mx)=true)(e:dw C fl s h (.slice kY y lo hi mx) K0=some (v,h1)):
 bE fl base aA μ h w v h1 ((execOp a.eval o).run P w):=by
 simp only[dw] at e
 obtain⟨⟨ma,ml,mc⟩,hm,e⟩:=cT e
 change ev s y=.slice ma ml mc at hm
 simp only[eM] at ok
 unfold execOp
 split at ok
 ·rename_i t x lo' JO mx' hx;rw[hx]
  simp only[Bool.and_eq_true] at ok
  obtain⟨⟨⟨⟨⟨k1,k2⟩,k3⟩,k4⟩,k5⟩,k6⟩:=ok
  have r1:=bU c.t k1
  rw[hm] at r1
  split at k6
  ·rename_i ee hee
   have hu:=Uf hee
   obtain⟨ti,hti,rfl⟩:=Ug k6
   have hlo:∃L:Option (IntKind×Int),lo'.map a.eval=L.map (fun x=>.int x.1 x.2)∧∃e',j4 s hi (fun hi=>j4 s mx fun mx=>sub ti.size ⟨ma,ml,mc⟩ (L.map (·.2)) hi mx fun v=>K0 (.slice v.a v.l v.c) h)=some e'∧e'=(v,h1):=by
    rcases IB c.t k2 e with⟨rfl,e1⟩|⟨x',k,n,rfl,q,e1⟩
    ·exact⟨none,rfl,_,e1,rfl⟩
    ·exact⟨some (k,n),by simp[q],_,e1,rfl⟩
   obtain⟨L,hL,e',e1,rfl⟩:=hlo
   have hhi:∃H:Option (IntKind×Int),JO.map a.eval=H.map (fun x=>.int x.1 x.2)∧H.isSome=JO.isSome∧j4 s mx (fun mx=>sub ti.size ⟨ma,ml,mc⟩ (L.map (·.2)) (H.map (·.2)) mx fun v=>K0 (.slice v.a v.l v.c) h)=some (v,h1):=by
    rcases IB c.t k3 e1 with⟨rfl,e2⟩|⟨x',k,n,rfl,q,e2⟩
    ·exact⟨none,rfl,rfl,e2⟩
    ·exact⟨some (k,n),by simp[q],rfl,e2⟩
   obtain⟨H,hH,hHs,e2⟩:=hhi
   have hmx:∃M:Option (IntKind×Int),mx'.map a.eval=M.map (fun x=>.int x.1 x.2)∧M.isSome=mx'.isSome∧sub ti.size ⟨ma,ml,mc⟩ (L.map (·.2)) (H.map (·.2)) (M.map (·.2)) (fun v=>K0 (.slice v.a v.l v.c) h)=some (v,h1):=by
    rcases IB c.t k4 e2 with⟨rfl,e3⟩|⟨x',k,n,rfl,q,e3⟩
    ·exact⟨none,rfl,rfl,e3⟩
    ·exact⟨some (k,n),by simp[q],rfl,e3⟩
   obtain⟨M,hM,hMs,e3⟩:=hmx
   have hp:M.isSome=true→H.isSome=true:=by
    rw[hHs,hMs];intro hq;rw[hq] at k5;simpa using k5
   simp only[hL,hH,hM,Sem.run_bind]
   clear e e1 e2 hm
   revert r1
   generalize a.eval x=q
   intro r1
   unfold sub at e3
   simp only at e3
   split at e3
   ·rename_i hex
    split at e3
    ·rename_i hb
     obtain⟨b0,b1,b2,b3⟩:=hb
     simp only[K0,Option.some.injEq,Prod.mk.injEq] at e3
     obtain⟨rfl,rfl⟩:=e3
     rcases r1.pS with⟨rfl,rfl,rfl,rfl⟩|⟨b,ob,st',rb,off,rfl,g1,g2,g3,rfl⟩|⟨b,ob,st',rb,off,o',c',es,rfl,rfl,g1,g2,g3,g4,rfl⟩|⟨x4,a4,rfl,rfl,rfl,rfl⟩
     ·rw[vu t ee none 0 0 hu ti hti _ _ _ _ _ _ (EO _ _ _ rfl rfl rfl b0 b1 b2 b3 hp)]
      simp only[Option.map_none,ite_self,Result.andThen_ok,Sem.run_pure]
      have z1:((M.map (·.2)).getD ((0:Nat):Int))=0:=by omega
      have z2:((H.map (·.2)).getD ((0:Nat):Int))=0:=by omega
      have z3:((L.map (·.2)).getD (0:Int))=0:=by omega
      rw[z1,z2,z3]
      exact bE.still c.gd .mR
     ·rw[vu t ee _ ml mc hu ti hti _ _ _ _ _ _ (EO _ _ _ rfl rfl rfl b0 b1 b2 b3 hp)]
      simp only[Result.andThen_ok,Sem.run_pure,Option.map_some,me]
      generalize (M.map (·.2)).getD (mc:Int)=m at*
      generalize (H.map (·.2)).getD (ml:Int)=hh at*
      generalize (L.map (·.2)).getD (0:Int)=l at*
      have e1:hh.toNat-l.toNat=(hh-l).toNat:=by omega
      have e2:m.toNat-l.toNat=(m-l).toNat:=by omega
      rw[e1,e2]
      refine bE.still c.gd ?_
      by_cases hml:m=l
      ·rw[if_pos hml,if_pos (by omega)]
       exact .slice g1 (by omega) (by omega)
      ·rw[if_neg hml,if_neg (by omega),Nat.add_assoc]
       exact .slice g1 (by omega) (by omega)
     ·omega
     ·rw[vu t ee _ 0 0 hu ti hti _ _ _ _ _ _ (EO _ _ _ rfl rfl rfl b0 b1 b2 b3 hp)]
      simp only[Result.andThen_ok,Sem.run_pure,Option.map_some]
      have z1:((M.map (·.2)).getD ((0:Nat):Int))=0:=by omega
      have z2:((H.map (·.2)).getD ((0:Nat):Int))=0:=by omega
      have z3:((L.map (·.2)).getD (0:Int))=0:=by omega
      rw[z1,z2,z3]
      exact bE.still c.gd .ago
    ·cases e3
   ·rename_i hex
    change ¬(mc<oB) at hex
    split at e3
    ·rename_i hes
     obtain⟨hes,hmn⟩:=hes
     change mc=oB+ti.size at hes
     split at e3
     ·rename_i hb
      obtain⟨b0,b1,b3⟩:=hb
      simp only[K0,Option.some.injEq,Prod.mk.injEq] at e3
      obtain⟨rfl,rfl⟩:=e3
      have hM0:M=none:=by cases M<;>simp at hmn ⊢
      subst hM0
      rcases r1.pS with⟨rfl,rfl,rfl,rfl⟩|⟨b,ob,st',rb,off,rfl,g1,g2,g3,rfl⟩|⟨b,ob,st',rb,off,o',c',es,rfl,rfl,g1,g2,g3,g4,rfl⟩|⟨x4,a4,rfl,rfl,rfl,rfl⟩
      ·exact absurd (show(0:Nat)<oB by unfold oB;omega) hex
      ·omega
      ·have a7X:es=ti.size:=by omega
       subst a7X
       rw[vu t ee _ ml c' hu ti hti _ _ _ _ _ _ (EO _ _ _ rfl rfl rfl b0 b1 (by simp only[Option.map_none,Option.getD_none];omega) (by simp) hp)]
       simp only[Result.andThen_ok,Sem.run_pure,Option.map_some,me,Option.map_none,Option.getD_none,Int.toNat_natCast]
       generalize (H.map (·.2)).getD (ml:Int)=hh at*
       generalize (L.map (·.2)).getD (0:Int)=l at*
       have e1:hh.toNat-l.toNat=(hh-l).toNat:=by omega
       rw[e1]
       refine bE.still c.gd ?_
       obtain⟨n,rfl⟩:=Int.eq_ofNat_of_zero_le b0
       simp only[Int.toNat_natCast]
       have hmul:n*ti.size+(c'-n)*ti.size=c'*ti.size:=by rw[←Nat.add_mul];congr 1;omega
       by_cases hml:c'=n
       ·rw[if_pos hml]
        refine .nU g1 (.inl (by omega)) (by omega) ?_
        have:c'-n=0:=by omega
        rw[this];omega
       ·rw[if_neg hml]
        refine .nU g1 ?_ (by omega) (by omega)
        rcases g2 with g2|g2
        ·left;omega
        ·right;omega
      ·exact absurd (show(0:Nat)<oB by unfold oB;omega) hex
     ·cases e3
    ·cases e3
  ·cases k6
 ·cases ok
end
end Go.Abs
end
section
namespace Go.Abs
section
variable{P:Program}{C:Callee}{fl base aA:Nat}{μ:Mu}{h h1:AH}{w:World}{s:List Value}{a:Act}{v:Value}{o:Oper}
theorem IC(t ty e:TypeId)(i:TypeInfo)(ht:P.underlying t=some (.slice e))(hi:P.info? e=some i)(b:Addr)(aql asV n c:Nat)(x:Option Addr)(new:List Value){w':World}
 (hx:(Builtin.firstCells i.size n (.slice x n c)).run P w=.ok new.toArray w) (ahs:aql+n≤asV)
 (hst:(storeCells (b.add (aql*i.size)) new).run P w=.ok () w'):
 (Builtin.append_ #[t,t] ty #[.slice (some b) aql asV,.slice x n c]).run P w=.ok (.slice (some b) (aql+n) asV) w':=by
 simp[Builtin.append_,run_underlying ht,gg hi,Builtin.lenOf,ahs,hx,hst]
theorem YK(t ty e:TypeId)(i:TypeInfo)(ht:P.underlying t=some (.slice e))(hi:P.info? e=some i)(b:Option Addr)(aql asV c:Nat)(x:Option Addr)(ahs:aql≤asV):
 (Builtin.append_ #[t,t] ty #[.slice b aql asV,.slice x 0 c]).run P w=.ok (.slice b aql asV) w:=by
 have hx:(Builtin.firstCells i.size 0 (.slice x 0 c)).run P w=.ok #[] w:=by
  cases x with
  |none=>exact run_firstCells_none w _ _ _ _
  |some x=>exact run_firstCells_some w i.size 0 x 0 c [] (by simp) (by simp)
 cases b<;>simp[Builtin.append_,run_underlying ht,gg hi,Builtin.lenOf,ahs,hx,storeCells]
theorem aPL{t z}(h:(match zeroOf P t with|some z'=>z'.length==z|none=>false)=true){i:TypeInfo}(hi:P.info? t=some i):∃zv,i.zero=some zv∧zv.cells.size=z:=by
 unfold zeroOf at h
 rw[hi] at h
 simp only at h
 split at h
 ·rename_i z' hz
  split at hz
  ·rename_i zv hzv
   injection hz with hz;subst hz
   exact⟨zv,hzv,by simpa using h⟩
  ·cases hz
 ·cases h
theorem Ctx.Uh{a1:Option Addr}{l c1 n:Nat}{v'}(sm:Dd base aA μ h w)(r:cU μ (dD w) (.slice a1 l c1) v')(hl:0<l):
 ∃b o st rb off c',a1=some ⟨b,o,st⟩∧μ b=some (rb,off)∧v'=.slice (some ⟨rb,off+o,none⟩) l c':=by
 rcases r.pS with⟨_,rfl,_,_⟩|⟨b,ob,st',rb,off,rfl,g1,g2,g3,rfl⟩|⟨b,ob,st',rb,off,o',c',es,rfl,rfl,g1,g2,g3,g4,rfl⟩|⟨x4,a4,rfl,rfl,rfl,rfl⟩
 ·omega
 ·exact⟨_,_,_,_,_,_,rfl,g1,rfl⟩
 ·rcases g2 with g2|g2
  ·omega
  ·subst g2;exact⟨_,_,_,_,_,_,rfl,g1,rfl⟩
 ·omega
theorem Dd.drew(sm:Dd base aA μ h w):cJ fl base aA μ h w μ h w.drew:=cJ.heap sm rfl rfl rfl rfl
theorem BN{e:TypeId}(zv:Value)(aGf old kY:Nat)(hz:zv.cells.size=kY)(xs:List Value)(hl:xs.length=aGf*kY):
 (xs.toArray++Builtin.zeroCells zv.cells (grownCap w aGf old e-aGf)).size=grownCap w aGf old e*kY:=by
 have h1:=grownCap_ge w aGf old e
 simp[Builtin.zeroCells,hz,hl]
 rw[←Nat.add_mul];congr 1;omega
theorem aA6{kY bytes y z}(c:Ctx fl base aA μ h w s a)(hf:h.next<h1.next→μ h.next=none)(ok:eM P o.op (.append kY bytes y z)=true)(e:dw C fl s h (.append kY bytes y z) K0=some (v,h1)):
 bE fl base aA μ h w v h1 ((execOp a.eval o).run P w):=by
 simp only[dw] at e
 obtain⟨⟨sa,sl,sc⟩,hs,e⟩:=cT e
 obtain⟨⟨xa,xl,xc⟩,hx,e⟩:=cT e
 change ev s y=.slice sa sl sc at hs
 change ev s z=.slice xa xl xc at hx
 simp only[eM] at ok
 unfold execOp
 split at ok
 ·rename_i args tys ho;rw[ho]
  split at ok
  ·rename_i y' z' t t' ha ht
   have ha:=aA5 ha
   subst ha
   simp only[Bool.and_eq_true,decide_eq_true_eq] at ok
   obtain⟨⟨⟨⟨k1,k2⟩,a8z⟩,kbp⟩,k3⟩:=ok
   split at k3
   ·rename_i ee hee
    have hu:=Uf hee
    simp only[Bool.and_eq_true,beq_iff_eq] at k3
    obtain⟨⟨⟨ks,kb⟩,rfl⟩,kz⟩:=k3
    have ht:tys=#[t',t']:=by apply Array.ext';rw[ht]
    subst ht
    obtain⟨i,hi,rfl⟩:=Ug ks
    have hby:i.bytes=bytes:=by
     unfold aat at kb
     rw[hi] at kb;simpa using kb
    obtain⟨zv,hzv,hzs⟩:=aPL kz hi
    have r1:=bU c.t k1
    have r2:=bU c.t k2
    rw[hs] at r1;rw[hx] at r2
    simp only[resolve,Sem.run_bind,Sem.run_pure,Result.andThen_ok,invoke,builtin,List.map_toArray,List.map_cons,List.map_nil]
    revert r1 r2
    generalize a.eval y'=q1
    generalize a.eval z'=q2
    intro r1 r2
    clear hs hx
    unfold dn at e
    simp only at e
    split at e
    ·
      rename_i h0
      subst h0
      simp only[K0,Option.some.injEq,Prod.mk.injEq] at e
      obtain⟨rfl,rfl⟩:=e
      have hx2:∃xb xcc,q2=.slice xb 0 xcc:=by
       rcases r2.pS with⟨rfl,_,rfl,rfl⟩|⟨b,ob,st',rb,off,rfl,g1,g2,g3,rfl⟩|⟨b,ob,st',rb,off,o',c',es,rfl,rfl,g1,g2,g3,g4,rfl⟩|⟨x4,a4,rfl,_,rfl,rfl⟩
       ·exact⟨_,_,rfl⟩
       ·exact⟨_,_,rfl⟩
       ·exact⟨_,_,rfl⟩
       ·exact⟨_,_,rfl⟩
      obtain⟨xb,xcc,rfl⟩:=hx2
      have hs2:∃sb scc,q1=.slice sb sl scc∧sl≤scc:=by
       rcases r1.pS with⟨rfl,rfl,rfl,rfl⟩|⟨b,ob,st',rb,off,rfl,g1,g2,g3,rfl⟩|⟨b,ob,st',rb,off,o',c',es,rfl,rfl,g1,g2,g3,g4,rfl⟩|⟨x4,a4,rfl,rfl,rfl,rfl⟩
       ·exact⟨_,_,rfl,Nat.le_refl _⟩
       ·exact⟨_,_,rfl,g3⟩
       ·exact⟨_,_,rfl,g3⟩
       ·exact⟨_,_,rfl,Nat.le_refl _⟩
      obtain⟨sb,scc,rfl,hle⟩:=hs2
      rw[YK t' o.type ee i hu hi sb sl scc xcc xb hle]
      exact bE.still c.gd r1
    ·rename_i h0
     have hxl:0<xl:=by omega
     split at e
     ·rename_i ahs
      obtain⟨bx,ox,stx,rbx,aan,cx,rfl,mx,rfl⟩:=Ctx.Uh (n:=0) c.gd r2 hxl
      obtain⟨xs,aRp,e2,_,aRd⟩:=IA e
      clear e
      obtain⟨Br,rx,aRY⟩:=c.gd.agy mx xs ox aRd
      have YE:Br.length=xl*i.size:=by rw[←rx.1,aRp]
      have apT:∀j u,Br[j]?=some u→w.cell? ((⟨rbx,aan+ox,none⟩:Addr).add j)=some u:=fun j u hu=>by rw[me];exact aRY j u hu
      have akO:=run_firstCells_some (P:=P) w i.size xl ⟨rbx,aan+ox,none⟩ xl cx Br YE apT
      have aeA:(sl+xl)*bytes≤140737488355328:=by simpa [kc] using ahs
      have hsn:sl+xl≤140737488355328:=Nat.le_trans (Nat.le_mul_of_pos_right _ kbp) aeA
      rcases r1.pS with⟨rfl,rfl,rfl,rfl⟩|⟨b,ob,st',rb,off,rfl,g1,g2,g3,rfl⟩|⟨b,ob,st',rb,off,o',c',es,rfl,rfl,g1,g2,g3,g4,rfl⟩|⟨x4,a4,rfl,rfl,rfl,rfl⟩
      ·
        simp only[and_self,if_true,K0,Option.some.injEq,Prod.mk.injEq] at e2
        obtain⟨rfl,rfl⟩:=e2
        have hr:=run_append_nil (P:=P) w t' o.type ee i zv hu hi hzv ⟨rbx,aan+ox,none⟩ xl cx Br YE apT hxl (by omega) (by rw[hby];simp only[Nat.zero_add] at aeA;omega)
        rw[hr]
        simp only[Result.andThen_ok]
        have p1:=c.gd.drew (fl:=fl)
        have p2:=cJ.alloc (fl:=fl) (c:=Br.toArray++Builtin.zeroCells zv.cells (grownCap w xl 0 ee-xl)) (t:=ee) p1.gd c.hn (by exact c.hr) (hf (Nat.lt_succ_self _)) (cs:=xs) (fun j u hu=>by
         obtain⟨u',q1,q2⟩:=rx.get hu
         refine⟨u',?_,q2⟩
         rw[Array.getElem?_append_left (by have:=(List.getElem?_eq_some_iff.1 q1).1;simpa using this)]
         simpa using q1)
        refine⟨_,_,_,.inl rfl,p1.trans p2 (Nat.le_refl _),?_⟩
        have hn:=heap_alloc_new w.drew (.cells (Br.toArray++Builtin.zeroCells zv.cells (grownCap w xl 0 ee-xl)) ee)
        have hsz:=ie hn
        have hg:=BN (w:=w) (e:=ee) zv xl 0 i.size hzs Br YE
        exact .nU (o':=0) (cH _ _ _) (.inr rfl) (grownCap_ge _ _ _ _) (by rw[Nat.zero_add];exact Nat.le_of_eq (by rw[←hg];exact hsz.symm))
      ·
        simp only at e2
        rw[if_pos g2] at e2
        split at e2
        ·rename_i asR
         obtain⟨cc,h2,w1,w2,w3,w4,w5⟩:=abB (P:=P) (p:=⟨b,ob+sl*i.size,none⟩) c.gd c.hb e2 rx g1
         simp only[K0,Option.some.injEq,Prod.mk.injEq] at w3
         obtain⟨rfl,rfl⟩:=w3
         have hr:=IC (P:=P) t' o.type ee i hu hi ⟨rb,off+ob,none⟩ sl sc xl cx (some ⟨rbx,aan+ox,none⟩) Br akO asR (by rw[me,Nat.add_assoc];exact w1)
         rw[hr]
         simp only[Result.andThen_ok]
         refine⟨_,_,_,.inl rfl,w2,?_⟩
         exact .slice g1 g2 asR
        ·rename_i asR
         obtain⟨ys,aGm,e2,_,aRA⟩:=IA e2
         simp only[K0,Option.some.injEq,Prod.mk.injEq] at e2
         obtain⟨rfl,rfl⟩:=e2
         obtain⟨ys',ry,aQM⟩:=c.gd.agy g1 ys ob aRA
         have hly:ys'.length=sl*i.size:=by rw[←ry.1,aGm]
         have hr:=run_append_grow (P:=P) w t' o.type ee i zv hu hi hzv ⟨rb,off+ob,none⟩ sl sc ys' hly (fun j u hu=>by rw[me];exact aQM j u hu) ⟨rbx,aan+ox,none⟩ xl cx Br YE apT (by omega) (by omega) (growslice_fits (by omega) (by rw[hby];exact aeA))
         rw[hr]
         simp only[Result.andThen_ok]
         have p1:=c.gd.drew (fl:=fl)
         have rr:=ry.append rx
         have p2:=cJ.alloc (fl:=fl) (c:=ys'.toArray++Br.toArray++Builtin.zeroCells zv.cells (grownCap w (sl+xl) sc ee-(sl+xl))) (t:=ee) p1.gd c.hn (by exact c.hr) (hf (Nat.lt_succ_self _)) (cs:=ys++xs) (fun j u hu=>by
          obtain⟨u',q1,q2⟩:=rr.get hu
          refine⟨u',?_,q2⟩
          have hlt:=(List.getElem?_eq_some_iff.1 q1).1
          rw[Array.getElem?_append_left (by simpa using hlt)]
          simpa using q1)
         refine⟨_,_,_,.inl rfl,p1.trans p2 (Nat.le_refl _),?_⟩
         have hn:=heap_alloc_new w.drew (.cells (ys'.toArray++Br.toArray++Builtin.zeroCells zv.cells (grownCap w (sl+xl) sc ee-(sl+xl))) ee)
         have hsz:=ie hn
         have hg:=BN (w:=w) (e:=ee) zv (sl+xl) sc i.size hzs (ys'++Br) (by rw[List.length_append,hly,YE,Nat.add_mul])
         rw[←List.append_toArray] at hg
         exact .nU (o':=0) (cH _ _ _) (.inr rfl) (grownCap_ge _ _ _ _) (by rw[Nat.zero_add];exact Nat.le_of_eq (by rw[←hg];exact hsz.symm))
      ·
        simp only at e2
        rw[if_neg (by omega)] at e2
        split at e2
        ·rename_i hk
         obtain⟨hk1,hk2,hk3⟩:=hk
         change fl≤b at hk1
         have hes:es=i.size:=by omega
         subst hes
         obtain⟨ys,aGm,e2,⟨cs,hcs⟩,aRA⟩:=IA e2
         simp only[K0,Option.some.injEq,Prod.mk.injEq] at e2
         obtain⟨rfl,rfl⟩:=e2
         obtain⟨ys',ry,aQM⟩:=c.gd.agy g1 ys ob aRA
         have hly:ys'.length=sl*i.size:=by rw[←ry.1,aGm]
         have aUM:∀(j:Nat) u,ys'[j]?=some u→w.cell? ⟨rb,o'+j,none⟩=some u:=by
          intro j u hu
          have Qk:=(List.getElem?_eq_some_iff.1 hu).1
          rcases g2 with g2|g2
          ·subst g2;simp at hly;subst hly;simp at Qk
          ·subst g2;exact aQM j u hu
         have rr:=ry.append rx
         by_cases asR:sl+xl≤c'
         ·
           obtain⟨_,cur,tt,hg⟩:=c.gd.own b cs rb off (Nat.le_trans c.hb hk1) hcs g1
           have aRF:=ie hg
           rw[aRF] at g4
           have hmul:(sl+xl)*i.size≤c'*i.size:=Nat.mul_le_mul_right _ asR
           have a9Q:(sl+xl)*i.size=sl*i.size+xl*i.size:=Nat.add_mul _ _ _
           have hst:=run_storeCells_at (P:=P) rb (o'+sl*i.size) tt Br 0 cur w hg (by omega) (rx.one hk3)
           simp only[Nat.add_zero] at hst
           have hr:=IC (P:=P) t' o.type ee i hu hi ⟨rb,o',none⟩ sl c' xl cx (some ⟨rbx,aan+ox,none⟩) Br akO asR (by rw[me];exact hst)
           rw[hr]
           simp only[Result.andThen_ok]
           refine⟨_,_,_,.inl rfl,cJ.aXw (o':=o') c.gd hk1 c.hb hcs g1 (hf (Nat.lt_succ_self _)) hg ?_ ?_,?_⟩
           ·simp;omega
           ·intro j u hu
            obtain⟨u',q1,q2⟩:=rr.get hu
            refine⟨u',?_,q2⟩
            have hlt:=(List.getElem?_eq_some_iff.1 q1).1
            simp only[List.length_append] at hlt
            simp only[List.getElem?_toArray]
            by_cases hj:j<ys'.length
            ·rw[List.getElem?_append_left hj] at q1
             have q3:=aUM j u' q1
             rw[oV hg] at q3
             rw[List.append_assoc,List.getElem?_append_left (by simp;omega),List.getElem?_take,if_pos (by omega)]
             simpa using q3
            ·rw[List.getElem?_append_right (by omega)] at q1
             rw[List.append_assoc,List.getElem?_append_right (by simp;omega),List.getElem?_append_left (by simp;omega)]
             have e1:o'+j-(List.take (o'+sl*i.size) cur.toList).length=j-ys'.length:=by simp;omega
             rw[e1];exact q1
           ·refine .nU (o':=o') (cH _ _ _) (.inr rfl) asR ?_
            have hn:=setRow_heap w rb cur (List.take (o'+sl*i.size) cur.toList++Br++List.drop (o'+sl*i.size+Br.length) cur.toList).toArray tt (0,0) hg
            rw[ie hn]
            simp;omega
         ·
           have hr:=run_append_grow (P:=P) w t' o.type ee i zv hu hi hzv ⟨rb,o',none⟩ sl c' ys' hly (fun j u hu=>by rw[me];exact aUM j u hu) ⟨rbx,aan+ox,none⟩ xl cx Br YE apT (by omega) (by omega) (growslice_fits (by omega) (by rw[hby];exact aeA))
           rw[hr]
           simp only[Result.andThen_ok]
           have p1:=c.gd.drew (fl:=fl)
           have YJ:=cJ.kill (fl:=fl) p1.gd b hk1
           have p2:=cJ.alloc (fl:=fl) (c:=ys'.toArray++Br.toArray++Builtin.zeroCells zv.cells (grownCap w (sl+xl) c' ee-(sl+xl))) (t:=ee) YJ.gd c.hn (by exact c.hr) (hf (Nat.lt_succ_self _)) (cs:=ys++xs) (fun j u hu=>by
            obtain⟨u',q1,q2⟩:=rr.get hu
            refine⟨u',?_,q2⟩
            have hlt:=(List.getElem?_eq_some_iff.1 q1).1
            rw[Array.getElem?_append_left (by simpa using hlt)]
            simpa using q1)
           refine⟨_,_,_,.inl rfl,p1.trans (YJ.trans p2 (Nat.le_refl _)) (Nat.le_refl _),?_⟩
           have hn:=heap_alloc_new w.drew (.cells (ys'.toArray++Br.toArray++Builtin.zeroCells zv.cells (grownCap w (sl+xl) c' ee-(sl+xl))) ee)
           have hsz:=ie hn
           have hg:=BN (w:=w) (e:=ee) zv (sl+xl) c' i.size hzs (ys'++Br) (by rw[List.length_append,hly,YE,Nat.add_mul])
           rw[←List.append_toArray] at hg
           exact .nU (o':=0) (cH _ _ _) (.inr rfl) (grownCap_ge _ _ _ _) (by rw[Nat.zero_add];exact Nat.le_of_eq (by rw[←hg];exact hsz.symm))
        ·cases e2
      ·
        simp only at e2
        rw[if_pos (show(0:Nat)<oB by unfold oB;omega),if_neg (by omega)] at e2
        obtain⟨ys,aGm,e2,_,_⟩:=IA e2
        simp only[K0,Option.some.injEq,Prod.mk.injEq] at e2
        obtain⟨rfl,rfl⟩:=e2
        obtain rfl:ys=[]:=List.length_eq_zero_iff.1 (by rw[aGm,Nat.zero_mul])
        have hr:=run_append_grow (P:=P) w t' o.type ee i zv hu hi hzv a4 0 0 [] (by simp) (fun j u hu=>by simp at hu) ⟨rbx,aan+ox,none⟩ xl cx Br YE apT (by omega) (by omega) (growslice_fits (by omega) (by rw[hby];exact aeA))
        rw[hr]
        simp only[Result.andThen_ok]
        have p1:=c.gd.drew (fl:=fl)
        have p2:=cJ.alloc (fl:=fl) (c:=([]:List Value).toArray++Br.toArray++Builtin.zeroCells zv.cells (grownCap w (0+xl) 0 ee-(0+xl))) (t:=ee) p1.gd c.hn (by exact c.hr) (hf (Nat.lt_succ_self _)) (cs:=[]++xs) (fun j u hu=>by
         obtain⟨u',q1,q2⟩:=rx.get (by simpa using hu)
         refine⟨u',?_,q2⟩
         have hlt:=(List.getElem?_eq_some_iff.1 q1).1
         rw[Array.getElem?_append_left (by simpa using hlt)]
         simpa using q1)
        refine⟨_,_,_,.inl rfl,p1.trans p2 (Nat.le_refl _),?_⟩
        have hn:=heap_alloc_new w.drew (.cells (([]:List Value).toArray++Br.toArray++Builtin.zeroCells zv.cells (grownCap w (0+xl) 0 ee-(0+xl))) ee)
        have hsz:=ie hn
        have hg:=BN (w:=w) (e:=ee) zv (0+xl) 0 i.size hzs ([]++Br) (by rw[List.nil_append,YE,Nat.zero_add])
        rw[←List.append_toArray] at hg
        exact .nU (o':=0) (cH _ _ _) (.inr rfl) (grownCap_ge _ _ _ _) (by rw[Nat.zero_add];exact Nat.le_of_eq (by rw[←hg];exact hsz.symm))
     ·cases e
   ·cases k3
  ·cases ok
 ·cases ok
theorem aPM{kY y z}(c:Ctx fl base aA μ h w s a)(ok:eM P o.op (.copy kY y z)=true)(e:dw C fl s h (.copy kY y z) K0=some (v,h1)):
 bE fl base aA μ h w v h1 ((execOp a.eval o).run P w):=by
 simp only[dw] at e
 obtain⟨⟨sa,sl,sc⟩,hs,e⟩:=cT e
 obtain⟨⟨xa,xl,xc⟩,hx,e⟩:=cT e
 change ev s y=.slice sa sl sc at hs
 change ev s z=.slice xa xl xc at hx
 simp only[eM] at ok
 unfold execOp
 split at ok
 ·rename_i args tys ho;rw[ho]
  split at ok
  ·rename_i y' z' t tt ha ht
   have ha:=aA5 ha
   subst ha
   simp only[Bool.and_eq_true,decide_eq_true_eq] at ok
   obtain⟨⟨⟨k1,k2⟩,a8z⟩,k3⟩:=ok
   split at k3
   ·rename_i ee hee
    have hu:=Uf hee
    obtain⟨i,hi,rfl⟩:=Ug k3
    have ht0:tys[0]?=some t:=by
     have:tys.toList[0]?=some t:=by rw[ht];rfl
     simpa using this
    have r1:=bU c.t k1
    have r2:=bU c.t k2
    rw[hs] at r1;rw[hx] at r2
    simp only[resolve,Sem.run_bind,Sem.run_pure,Result.andThen_ok,invoke,builtin,List.map_toArray,List.map_cons,List.map_nil]
    revert r1 r2
    generalize a.eval y'=q1
    generalize a.eval z'=q2
    intro r1 r2
    clear hs hx
    unfold cpy at e
    simp only at e
    have hd:∃db dc,q1=.slice db sl dc:=by
     rcases r1.pS with⟨rfl,rfl,rfl,rfl⟩|⟨b,ob,st',rb,off,rfl,g1,g2,g3,rfl⟩|⟨b,ob,st',rb,off,o',c',es,rfl,rfl,g1,g2,g3,g4,rfl⟩|⟨x4,a4,rfl,rfl,rfl,rfl⟩
     ·exact⟨_,_,rfl⟩
     ·exact⟨_,_,rfl⟩
     ·exact⟨_,_,rfl⟩
     ·exact⟨_,_,rfl⟩
    have hx:∃db dc,q2=.slice db xl dc:=by
     rcases r2.pS with⟨rfl,rfl,rfl,rfl⟩|⟨b,ob,st',rb,off,rfl,g1,g2,g3,rfl⟩|⟨b,ob,st',rb,off,o',c',es,rfl,rfl,g1,g2,g3,g4,rfl⟩|⟨x4,a4,rfl,rfl,rfl,rfl⟩
     ·exact⟨_,_,rfl⟩
     ·exact⟨_,_,rfl⟩
     ·exact⟨_,_,rfl⟩
     ·exact⟨_,_,rfl⟩
    split at e
    ·rename_i h0
     simp only[K0,Option.some.injEq,Prod.mk.injEq] at e
     obtain⟨rfl,rfl⟩:=e
     obtain⟨db,dc,rfl⟩:=hd
     obtain⟨xb,xcc,rfl⟩:=hx
     have hx:(Builtin.firstCells i.size 0 (.slice xb xl xcc)).run P w=.ok #[] w:=by
      cases xb with
      |none=>exact run_firstCells_none w _ _ _ _
      |some x=>exact run_firstCells_some w i.size 0 x xl xcc [] (by simp) (by simp)
     have hr:(Builtin.copy_ tys o.type #[.slice db sl dc,.slice xb xl xcc]).run P w=.ok (.int .i64 0) w:=by
      have h0':Nat.min xl sl=0:=h0
      cases db<;>simp[Builtin.copy_,ht0,run_underlying hu,gg hi,Builtin.lenOf,h0',hx,storeCells,goInt]
     rw[hr]
     exact bE.still c.gd (.int _ _)
    ·rename_i h0
     have hm:min xl sl≤xl:=Nat.min_le_left _ _
     have hm2:min xl sl≤sl:=Nat.min_le_right _ _
     obtain⟨bx,ox,stx,rbx,aan,cx,rfl,mx,rfl⟩:=Ctx.Uh (n:=0) c.gd r2 (by omega)
     obtain⟨bd,od,std,rbd,a8G,cd,rfl,md,rfl⟩:=Ctx.Uh (n:=0) c.gd r1 (by omega)
     obtain⟨xs,aRp,e2,_,aRd⟩:=IA e
     clear e
     simp only at e2
     obtain⟨Br,rx,aRY⟩:=c.gd.agy mx xs ox aRd
     have YE:Br.length=min xl sl*i.size:=by rw[←rx.1,aRp]
     have akO:=run_firstCells_some (P:=P) w i.size (min xl sl) ⟨rbx,aan+ox,none⟩ xl cx Br YE (fun j u hu=>by rw[me];exact aRY j u hu)
     obtain⟨cc,h2,w1,w2,w3,w4,w5⟩:=abB (P:=P) (p:=⟨bd,od,std⟩) c.gd c.hb e2 rx md
     simp only[K0,Option.some.injEq,Prod.mk.injEq] at w3
     obtain⟨rfl,rfl⟩:=w3
     have hr:(Builtin.copy_ tys o.type #[.slice (some ⟨rbd,a8G+od,none⟩) sl cd,.slice (some ⟨rbx,aan+ox,none⟩) xl cx]).run P w=.ok (.int .i64 (min xl sl:Nat)) (w.setRow rbd cc):=by
      have aNs:(Builtin.firstCells i.size (Nat.min xl sl) (.slice (some ⟨rbx,aan+ox,none⟩) xl cx)).run P w=.ok Br.toArray w:=akO
      have hmm:Nat.min xl sl=min xl sl:=rfl
      simp[Builtin.copy_,ht0,run_underlying hu,gg hi,Builtin.lenOf,aNs,w1,goInt,hmm]
     rw[hr]
     simp only[Result.andThen_ok]
     exact⟨_,_,_,.inl rfl,w2,.int _ _⟩
   ·cases k3
  ·cases ok
 ·cases ok
end
end Go.Abs
end
section
namespace Go.Abs
section
variable{R S:Type}(g:R→Option S)
theorem eo(k v)(F:Int→Option R):asInt k v (fun n=>(F n).bind g)=(asInt k v F).bind g:=by
 unfold asInt;split
 ·split<;>rfl
 ·rfl
theorem xn(v)(F:Bool→Option R):asBool v (fun n=>(F n).bind g)=(asBool v F).bind g:=by
 unfold asBool;split<;>rfl
theorem mU(v)(F:Sl→Option R):aX v (fun n=>(F n).bind g)=(aX v F).bind g:=by
 unfold aX;split<;>rfl
theorem zR(v)(F:Addr→Option R):bz v (fun n=>(F n).bind g)=(bz v F).bind g:=by
 unfold bz;split<;>rfl
theorem alb(v)(F:Option Addr→Option R):ek v (fun n=>(F n).bind g)=(ek v F).bind g:=by
 unfold ek;split<;>rfl
theorem aqT(v)(F:List Value→Option R):asAgg v (fun n=>(F n).bind g)=(asAgg v F).bind g:=by
 unfold asAgg;split<;>rfl
theorem abD(v)(F:List Value→Option R):aE v (fun n=>(F n).bind g)=(aE v F).bind g:=by
 unfold aE;split<;>rfl
theorem ID(s v)(F:Value→Option R):qE s v (fun n=>(F n).bind g)=(qE s v F).bind g:=by
 cases s with
 |any=>rfl
 |int k=>exact eo g k v fun n=>F (.int k n)
 |bool=>exact xn g v fun n=>F (.bool n)
 |slice=>exact mU g v fun s=>F (.slice s.a s.l s.c)
 |ptr=>exact zR g v fun a=>F (.pointer (some a))
 |l0=>exact alb g v fun a=>F (.pointer a)
theorem Qw:∀(ss vs) (F:List Value→Option R),EK ss vs (fun n=>(F n).bind g)=(EK ss vs F).bind g
 |[],[],_=>rfl
 |[],_::_,_=>rfl
 |_::_,[],_=>rfl
 |s::ss,v::vs,F=>by
  simp only[EK]
  rw[←ID]
  congr 1;funext v'
  exact Qw ss vs fun Dc=>F (v'::Dc)
theorem Wb(s v)(F:Value→Option R):MS s v (fun n=>(F n).bind g)=(MS s v F).bind g:=by
 cases s with
 |one s=>exact ID g s v F
 |agg l=>
  simp only[MS]
  rw[←aqT]
  congr 1;funext cs
  exact Qw g l cs fun fC=>F (.agg ⟨fC⟩)
theorem Qx:∀(ss vs) (F:List Value→Option R),EL ss vs (fun n=>(F n).bind g)=(EL ss vs F).bind g
 |[],[],_=>rfl
 |[],_::_,_=>rfl
 |_::_,[],_=>rfl
 |s::ss,v::vs,F=>by
  simp only[EL]
  rw[←Wb]
  congr 1;funext v'
  exact Qx ss vs fun Dc=>F (v'::Dc)
theorem ald(s v)(F:Value→Option R):Ub s v (fun n=>(F n).bind g)=(Ub s v F).bind g:=by
 cases s with
 |one s=>exact Wb g s v F
 |ke l=>
  simp only[Ub]
  rw[←abD]
  congr 1;funext cs
  exact Qx g l cs fun fC=>F (.tuple ⟨fC⟩)
theorem agz(s h b o)(F:Value→Option R):abu s h b o (fun n=>(F n).bind g)=(abu s h b o F).bind g:=by
 unfold abu;split
 ·exact ID g s _ F
 ·rfl
theorem abE:∀(ss h b o) (F:List Value→Option R),V4 ss h b o (fun n=>(F n).bind g)=(V4 ss h b o F).bind g
 |[],_,_,_,_=>rfl
 |s::ss,h,b,o,F=>by
  simp only[V4]
  rw[←agz]
  congr 1;funext v'
  exact abE ss h b (o+1) fun Dc=>F (v'::Dc)
theorem ahC(fl h a xs)(F:AH→Option R):st fl h a xs (fun n=>(F n).bind g)=(st fl h a xs F).bind g:=by
 unfold st;(repeat' split)<;>rfl
theorem Qy(h a n)(F:List Value→Option R):GO h a n (fun n=>(F n).bind g)=(GO h a n F).bind g:=by
 unfold GO;(repeat' split)<;>rfl
theorem axE(fl kY bytes s x h)(F:Sl→AH→Option R):dn fl kY bytes s x h (fun n m=>(F n m).bind g)=(dn fl kY bytes s x h F).bind g:=by
 unfold dn
 split
 ·rfl
 ·split
  ·rw[←Qy]
   congr 1;funext xs
   split
   ·split<;>rfl
   ·split
    ·split
     ·exact ahC g _ _ _ _ _
     ·exact Qy g _ _ _ _
    ·split
     ·exact Qy g _ _ _ _
     ·rfl
  ·rfl
theorem axF(bytes z l c h)(F:Sl→AH→Option R):qF bytes z l c h (fun n m=>(F n m).bind g)=(qF bytes z l c h F).bind g:=by
 unfold qF;split<;>rfl
theorem aA7(kY s lo hi mx)(F:Sl→Option R):sub kY s lo hi mx (fun n=>(F n).bind g)=(sub kY s lo hi mx F).bind g:=by
 unfold sub;(repeat' split)<;>rfl
theorem aA8(kY s i)(F:Addr→Option R):idx kY s i (fun n=>(F n).bind g)=(idx kY s i F).bind g:=by
 unfold idx;(repeat' split)<;>rfl
theorem aA9(fl kY d s h)(F:Int→AH→Option R):cpy fl kY d s h (fun n m=>(F n m).bind g)=(cpy fl kY d s h F).bind g:=by
 unfold cpy
 split
 ·rfl
 ·rw[←Qy]
  congr 1;funext xs
  split
  ·exact ahC g _ _ _ _ _
  ·rfl
theorem aqU(C fl f args sh h)(F:Value→AH→Option R):abv C fl f args sh h (fun n m=>(F n m).bind g)=(abv C fl f args sh h F).bind g:=by
 unfold abv
 split
 ·split
  ·exact ald g sh _ _
  ·rfl
 ·rfl
theorem IE(st o)(F:Option Int→Option R):j4 st o (fun n=>(F n).bind g)=(j4 st o F).bind g:=by
 unfold j4;(repeat' split)<;>rfl
theorem agA(C:Callee)(fl:Nat)(s:List Value)(h:AH)(o:V5)(F:Value→AH→Option R):
 dw C fl s h o (fun v h=>(F v h).bind g)=(dw C fl s h o F).bind g:=by
 cases o with
 |mv x=>rfl
 |pick c a b=>simp only[dw];rw[←xn];congr 1;funext t;split<;>rfl
 |box x=>simp only[dw];split<;>rfl
 |alloc z=>rfl
 |build z ps=>simp only[dw];split<;>rfl
 |bq len z ps=>simp only[dw];split<;>rfl
 |load sh a=>
  simp only[dw];rw[←zR];congr 1;funext a
  cases sh with
  |one s0=>exact agz g s0 h _ _ fun v=>F v h
  |agg l=>exact abE g l h _ _ fun vs=>F (.agg ⟨vs⟩) h
 |store n a x=>
  simp only[dw];rw[←zR];congr 1;funext a
  split
  ·exact ahC g _ _ _ _ fun h1=>F undef h1
  ·rfl
 |cQ x=>simp only[dw];rw[←zR]
 |bin op k x y=>
  simp only[dw];rw[←eo];congr 1;funext a;rw[←eo];congr 1;funext b;split<;>rfl
 |sh l k yk x y=>
  simp only[dw];rw[←eo];congr 1;funext a;rw[←eo];congr 1;funext b;split<;>rfl
 |cmp op k x y=>
  simp only[dw];rw[←eo];congr 1;funext a;rw[←eo];congr 1;funext b;split<;>rfl
 |beq neg x y=>simp only[dw];rw[←xn];congr 1;funext a;rw[←xn]
 |TQ neg x=>simp only[dw];rw[←mU]
 |not x=>simp only[dw];rw[←xn]
 |neg k x=>simp only[dw];rw[←eo]
 |conv a b x=>simp only[dw];rw[←eo]
 |Da f a b=>rfl
 |dj bytes z l c=>
  simp only[dw];rw[←eo];congr 1;funext a;rw[←eo];congr 1;funext b
  exact axF g _ _ _ _ _ fun v h1=>F (.slice v.a v.l v.c) h1
 |slice kY x lo hi mx=>
  simp only[dw];rw[←mU];congr 1;funext v;rw[←IE];congr 1;funext lo;rw[←IE];congr 1;funext hi;rw[←IE];congr 1;funext mx
  exact aA7 g _ _ _ _ _ fun v=>F (.slice v.a v.l v.c) h
 |cW off x=>simp only[dw];rw[←zR]
 |eE kY x i=>
  simp only[dw];rw[←mU];congr 1;funext v;rw[←eo];congr 1;funext i
  exact aA8 g _ _ _ fun a=>F (.pointer (some a)) h
 |aal x i=>simp only[dw];rw[←abD];congr 1;funext vs;split<;>rfl
 |call f args sh=>exact aqU g C fl _ _ sh h F
 |len x=>simp only[dw];rw[←mU]
 |append kY bytes a x=>
  simp only[dw];rw[←mU];congr 1;funext a;rw[←mU];congr 1;funext x
  exact axE g _ _ _ _ _ _ fun v h1=>F (.slice v.a v.l v.c) h1
 |copy kY d x=>
  simp only[dw];rw[←mU];congr 1;funext a;rw[←mU];congr 1;funext x
  exact aA9 g _ _ _ _ _ fun n h1=>F (.int .i64 n) h1
 |mm m x y=>simp only[dw];rw[←eo];congr 1;funext a;rw[←eo]
 |aam k bs i=>
  simp only[dw];rw[←eo];congr 1;funext n
  split
  ·split<;>rfl
  ·rfl
end
theorem mV{R:Type}{r:R}{C:Callee}{fl:Nat}{s:List Value}{h:AH}{o:V5}{K:Value→AH→Option R}(e:dw C fl s h o K=some r):
 ∃v h1,dw C fl s h o K0=some (v,h1)∧K v h1=some r:=by
 have:=agA (fun p:Value×AH=>K p.1 p.2) C fl s h o K0
 have h2:(dw C fl s h o fun v h=>(K0 v h).bind fun p:Value×AH=>K p.1 p.2)=dw C fl s h o K:=rfl
 rw[h2,e] at this
 cases hq:dw C fl s h o K0 with
 |none=>rw[hq] at this;cases this
 |some p=>rw[hq] at this;exact⟨p.1,p.2,rfl,this.symm⟩
theorem IF{R:Type}{r:R}{C:Callee}{fl:Nat}{s:List Value}{h h1:AH}{v:Value}{o:V5}{K:Value→AH→Option R}(e:dw C fl s h o K0=some (v,h1))(e2:K v h1=some r):
 dw C fl s h o K=some r:=by
 have:=agA (fun p:Value×AH=>K p.1 p.2) C fl s h o K0
 have h2:(dw C fl s h o fun v h=>(K0 v h).bind fun p:Value×AH=>K p.1 p.2)=dw C fl s h o K:=rfl
 rw[h2,e] at this
 rw[this];exact e2
def cj(fl:Nat)(h h1:AH):Prop:=
 h.next≤h1.next∧(∀b,b<h.next→b<fl→h1.iN b=h.iN b)∧(∀b cs,b<h.next∨h1.next≤b→h1.iN b=some cs→∃fC,h.iN b=some fC)
theorem cj.refl(fl h):cj fl h h:=⟨Nat.le_refl _,fun _ _ _=>rfl,fun _ cs _ e=>⟨cs,e⟩⟩
theorem cj.trans{fl fl' h h1 h2}(p:cj fl h h1)(q:cj fl' h1 h2)(hf:fl≤fl'):cj fl h h2:=
 ⟨Nat.le_trans p.1 q.1,fun b hb hbf=>by rw[q.2.1 b (Nat.lt_of_lt_of_le hb p.1) (Nat.lt_of_lt_of_le hbf hf),p.2.1 b hb hbf],
  fun b cs hb e=>by
   have h1:=p.1
   have h2:=q.1
   obtain⟨fC,e'⟩:=q.2.2 b cs (by omega) e
   exact p.2.2 b fC (by omega) e'⟩
theorem cj.alloc(fl h cs):cj fl h (h.alloc cs):=
 ⟨Nat.le_succ _,fun b hb _=>by simp[AH.alloc,Nat.ne_of_lt hb],fun b fC hb e=>⟨fC,by
  have lZ:b≠h.next:=by
   rcases hb with hb|hb
   ·omega
   ·have:h.next+1≤b:=hb
    omega
  simpa [AH.alloc,lZ] using e⟩⟩
theorem cj.put{fl h b cs fC}(hb:fl≤b)(hk:h.iN b=some cs):cj fl h (h.put b (some fC)):=
 ⟨Nat.le_refl _,fun c _ hc=>by
  have:c≠b:=by omega
  simp[AH.put,this],
  fun c cs2 _ e=>by
   by_cases hcb:c=b
   ·subst hcb;exact⟨cs,hk⟩
   ·exact⟨cs2,by simpa [AH.put,hcb] using e⟩⟩
theorem cj.kill{fl h b}(hb:fl≤b):cj fl h (h.put b none):=
 ⟨Nat.le_refl _,fun c _ hc=>by
  have:c≠b:=by omega
  simp[AH.put,this],
  fun c cs2 _ e=>by
   by_cases hcb:c=b
   ·subst hcb;simp[AH.put] at e
   ·exact⟨cs2,by simpa [AH.put,hcb] using e⟩⟩
theorem cj.floor{fl fl' h h1}(p:cj fl' h h1)(hf:fl≤fl'):cj fl h h1:=⟨p.1,fun b hb hbf=>p.2.1 b hb (Nat.lt_of_lt_of_le hbf hf),p.2.2⟩
theorem abF{R:Type}{r:R}{fl h a xs}{K:AH→Option R}(e:st fl h a xs K=some r):∃h1,cj fl h h1∧K h1=some r:=by
 unfold st at e
 split at e
 ·rename_i cs hcs
  split at e
  ·rename_i bR
   split at e
   ·split at e
    ·split at e
     ·exact⟨_,cj.put bR hcs,e⟩
     ·cases e
    ·cases e
   ·cases e
  ·cases e
 ·cases e
theorem aau{R:Type}{r:R}{h:AH}{a n}{K:List Value→Option R}(e:GO h a n K=some r):∃xs,K xs=some r:=by
 unfold GO at e
 (repeat' split at e)<;>first|exact⟨_,e⟩|cases e
theorem aqV{R:Type}{r:R}{fl kY bytes s x h}{K:Sl→AH→Option R}(e:dn fl kY bytes s x h K=some r):∃v h1,cj fl h h1∧K v h1=some r:=by
 unfold dn at e
 split at e
 ·exact⟨_,_,cj.refl _ _,e⟩
 ·split at e
  ·obtain⟨xs,e⟩:=aau e
   split at e
   ·split at e
    ·exact⟨_,_,cj.alloc _ _ _,e⟩
    ·cases e
   ·split at e
    ·split at e
     ·obtain⟨h1,g1,g2⟩:=abF e;exact⟨_,h1,g1,g2⟩
     ·obtain⟨ys,e⟩:=aau e;exact⟨_,_,cj.alloc _ _ _,e⟩
    ·split at e
     ·rename_i hk
      obtain⟨ys,e⟩:=aau e;exact⟨_,_,(cj.kill hk.1).trans (cj.alloc _ _ _) (Nat.le_refl _),e⟩
     ·cases e
  ·cases e
structure CAbs(C:Callee):Prop where
 step:∀fl f args h v h1,C fl f args h=some (v,h1)→cj fl h h1
theorem MU{R:Type}{r:R}{s:List Value}{o}{K:Option Int→Option R}(e:j4 s o K=some r):∃x,K x=some r:=by
 unfold j4 at e
 (repeat' split at e)<;>first|exact⟨_,e⟩|cases e
theorem abG{C:Callee}(hC:CAbs C){fl s h o v h1}(e:dw C fl s h o K0=some (v,h1)):cj fl h h1:=by
 have Bt:∀{v':Value},K0 v' h=some (v,h1)→cj fl h h1:=fun e=>by
  simp only[K0,Option.some.injEq,Prod.mk.injEq] at e
  rw[←e.2];exact cj.refl _ _
 have same:∀{v':Value} {h':AH},cj fl h h'→K0 v' h'=some (v,h1)→cj fl h h1:=fun a e=>by
  simp only[K0,Option.some.injEq,Prod.mk.injEq] at e
  rw[←e.2];exact a
 cases o<;>simp only[dw] at e
 case mv=>exact Bt e
 case pick=>obtain⟨t,_,e⟩:=cI e;split at e<;>exact Bt e
 case box=>split at e<;>first|exact same (cj.alloc _ _ _) e|cases e
 case alloc=>exact same (cj.alloc _ _ _) e
 case build=>split at e<;>first|exact Bt e|cases e
 case bq=>split at e<;>first|exact same (cj.alloc _ _ _) e|cases e
 case load sh a=>
  obtain⟨a,_,e⟩:=eL e
  cases sh with
  |one s0=>obtain⟨u,_,e⟩:=Df (K:=fun v=>K0 v h) e;exact Bt e
  |agg l=>obtain⟨u,_,_,e⟩:=zQ (K:=fun vs=>K0 (.agg ⟨vs⟩) h) e;exact Bt e
 case store=>
  obtain⟨a,_,e⟩:=eL e
  split at e
  ·obtain⟨h2,g1,g2⟩:=abF e;exact same g1 g2
  ·cases e
 case cQ=>obtain⟨a,_,e⟩:=eL e;exact Bt e
 case bin=>obtain⟨a,_,e⟩:=aU e;obtain⟨b,_,e⟩:=aU e;split at e<;>first|exact Bt e|cases e
 case sh=>obtain⟨a,_,e⟩:=aU e;obtain⟨b,_,e⟩:=aU e;split at e<;>first|exact Bt e|cases e
 case cmp=>obtain⟨a,_,e⟩:=aU e;obtain⟨b,_,e⟩:=aU e;split at e<;>first|exact Bt e|cases e
 case beq=>obtain⟨a,_,e⟩:=cI e;obtain⟨b,_,e⟩:=cI e;exact Bt e
 case TQ=>obtain⟨a,_,e⟩:=cT e;exact Bt e
 case not=>obtain⟨a,_,e⟩:=cI e;exact Bt e
 case neg=>obtain⟨a,_,e⟩:=aU e;exact Bt e
 case conv=>obtain⟨a,_,e⟩:=aU e;exact Bt e
 case Da=>exact Bt e
 case dj=>
  obtain⟨a,_,e⟩:=aU e;obtain⟨b,_,e⟩:=aU e
  unfold qF at e
  split at e<;>first|exact same (cj.alloc _ _ _) e|cases e
 case slice=>
  obtain⟨a,_,e⟩:=cT e;obtain⟨_,e⟩:=MU e;obtain⟨_,e⟩:=MU e;obtain⟨_,e⟩:=MU e
  unfold sub at e
  (repeat' split at e)<;>first|exact Bt e|cases e
 case cW=>obtain⟨a,_,e⟩:=eL e;exact Bt e
 case eE=>
  obtain⟨a,_,e⟩:=cT e;obtain⟨b,_,e⟩:=aU e
  unfold idx at e
  (repeat' split at e)<;>first|exact Bt e|cases e
 case aal=>obtain⟨a,_,e⟩:=EN e;split at e<;>first|exact Bt e|cases e
 case call f args sh=>
  unfold abv at e
  split at e
  ·split at e
   ·rename_i v' h' hc
    exact same (hC.step _ _ _ _ _ _ hc) (V8 (K:=fun v'=>K0 v' h') e)
   ·cases e
  ·cases e
 case len=>obtain⟨a,_,e⟩:=cT e;exact Bt e
 case append=>
  obtain⟨a,_,e⟩:=cT e;obtain⟨b,_,e⟩:=cT e
  obtain⟨u,h2,g1,g2⟩:=aqV e;exact same g1 g2
 case copy=>
  obtain⟨a,_,e⟩:=cT e;obtain⟨b,_,e⟩:=cT e
  unfold cpy at e
  split at e
  ·exact Bt e
  ·obtain⟨xs,e⟩:=aau e
   split at e
   ·obtain⟨h2,g1,g2⟩:=abF e;exact same g1 g2
   ·cases e
 case mm=>obtain⟨a,_,e⟩:=aU e;obtain⟨b,_,e⟩:=aU e;exact Bt e
 case aam=>obtain⟨a,_,e⟩:=aU e;(repeat' split at e)<;>first|exact Bt e|cases e
theorem cU.ale{μ sz g}{d1 d2:List Value}{v}(h:cU μ sz (.func (.func g) ⟨d1⟩ ⟨d2⟩) v):∃f2 g2:List Value,v=.func (.func g) ⟨f2⟩ ⟨g2⟩∧bN μ sz d1 f2∧bN μ sz d2 g2:=by
 generalize hq:Value.func (.func g) ⟨d1⟩ ⟨d2⟩=q at h
 cases h with
 |func l1 l2 l3 l4=>
  injection hq with h1 h2 h3
  injection h1 with h1;injection h2 with h2;injection h3 with h3
  subst h1 h2 h3
  exact⟨_,_,rfl,⟨l1,l2⟩,⟨l3,l4⟩⟩
 |_=>cases hq
structure gF(P:Program)(C:Callee):Prop extends CAbs C where
 fn : ∀ fl f args h v h1, C fl f args h = some (v, h1) → ∃ fd, P.funcs[f]? = some fd ∧ (fd.name == "runtime.NumGoroutine") = false ∧ fd.body.isNone = false
 sound:∀fl f args h v h1,C fl f args h=some (v,h1)→∀base aA μ w args',Dd base aA μ h w→base≤fl→fl≤h.next→aA≤w.heap.size→bN μ (dD w) args args'→iU μ h.next h1.next→
  Calls P f args'.toArray w fun e w'=>∃v' μ',e=.returned v'∧cJ fl base aA μ h w μ' h1 w'∧cU μ' (dD w') v v'
def aBa(P:Program)(op:Op):V5→Bool
 |.call f args _=>match op with
  |.call {callee:=.value f',args:=args', ..}=>dx f' f&&Iz args'.toList args
  |_=>false
 |x=>eM P op x
section
variable{P:Program}{C:Callee}{fl base aA:Nat}{μ:Mu}{h h1:AH}{w:World}{s:List Value}{a:Act}{v:Value}{o:Oper}
theorem aGQ{ao:V5}(hnc:∀f args sh,ao≠.call f args sh)(c:Ctx fl base aA μ h w s a)(hf:h.next<h1.next→μ h.next=none)(ok:eM P o.op ao=true)(e:dw C fl s h ao K0=some (v,h1)):
 bE fl base aA μ h w v h1 ((execOp a.eval o).run P w):=by
 cases ao with
 |mv=>exact aXx c ok e
 |pick=>exact aPC c ok e
 |box=>exact aS1 c hf ok e
 |alloc=>exact aGK c hf ok e
 |build=>exact aGL c ok e
 |bq=>exact aA4 c hf ok e
 |load=>exact aPF c ok e
 |store=>exact aGM c ok e
 |cQ=>exact aPD c ok e
 |bin=>exact aS2 c ok e
 |sh=>exact aXy c ok e
 |cmp=>exact aS3 c ok e
 |beq=>exact aS6 c ok e
 |TQ=>exact aPG c ok e
 |not=>exact aS4 c ok e
 |neg=>exact aS5 c ok e
 |conv=>exact aPH c ok e
 |Da=>exact aPI c ok e
 |dj=>exact axD c hf ok e
 |slice=>exact aGP c ok e
 |cW=>exact aGN c ok e
 |eE=>exact aGO c ok e
 |aal=>exact aPE c ok e
 |call f args sh=>exact absurd rfl (hnc f args sh)
 |len=>exact aS8 c ok e
 |append=>exact aA6 c hf ok e
 |copy=>exact aPM c ok e
 |mm=>exact aXz c ok e
 |aam=>exact aPJ c ok e
theorem aNT(hC:gF P C){ao:V5}(c:Ctx fl base aA μ h w s a)(hf:iU μ h.next h1.next)(ok:aBa P o.op ao=true)(e:dw C fl s h ao K0=some (v,h1))
 {next:Act→World→Prop} {Q:Exit→Act→World→Prop} (hn:∀v' μ' w',cJ fl base aA μ h w μ' h1 w'→cU μ' (dD w') v v'→next (a.put o.dst v') w'):o.wp P a w next Q:=by
 by_cases aPq:∃f args sh,ao=.call f args sh
 ·obtain⟨f,args,sh,rfl⟩:=aPq
  simp only[aBa] at ok
  simp only[dw,abv] at e
  unfold Oper.wp execOp
  split at ok
  ·rename_i f' args' tys ho
   rw[ho]
   simp only[Bool.and_eq_true] at ok
   obtain⟨k1,k2⟩:=ok
   have r1:=bU c.t k1
   have r2:=Qt c.t k2
   split at e
   ·rename_i g c1 c2 hg
    rw[hg] at r1
    split at e
    ·rename_i v0 h0 hc
     have e2:=V8 (K:=fun v'=>K0 v' h0) e
     simp only[K0,Option.some.injEq,Prod.mk.injEq] at e2
     obtain⟨rfl,rfl⟩:=e2
     obtain⟨d1⟩:=c1;obtain⟨d2⟩:=c2
     obtain⟨f2,g2,hq,l12,l34⟩:=r1.ale
     have aPt:bN μ (dD w) (d1++args.map (ev s)++d2) (f2++args'.toList.map a.eval++g2):=(bN.append l12 r2).append l34
     obtain⟨fd,q1,q2,q3⟩:=hC.fn _ _ _ _ _ _ hc
     have hcs:=hC.sound _ _ _ _ _ _ hc base aA μ w _ c.gd c.hb c.bR c.hr aPt hf
     have e1:(Array.map a.eval args')=⟨args'.toList.map a.eval⟩:=by apply Array.ext';simp
     have hr:(callFunc g ((⟨f2⟩++Array.map a.eval args':Array Value)++⟨g2⟩)).run P w=.ok (.enter g (f2++args'.toList.map a.eval++g2).toArray) w:=by
      unfold callFunc
      simp only[Sem.run_bind,Go.program,Sem.run,Result.andThen_ok,q1,q2,q3,Bool.false_eq_true,if_false,Sem.run_pure]
      congr 2
      rw[e1];simp
     simp only[resolve,hq,Deferred.ofValue,Sem.run_bind,Sem.run_pure,Result.andThen_ok,invoke,hr]
     rw[Oper.upon_enter]
     refine hcs.mono fun e w' ⟨v',μ',he,hp,hv⟩=>?_
     subst he
     exact hn v' μ' w' hp hv
    ·cases e
   ·cases e
  ·cases ok
 ·have hnc:∀f args sh,ao≠.call f args sh:=fun f args sh hh=>aPq ⟨f,args,sh,hh⟩
  have ok':eM P o.op ao=true:=by
   cases ao<;>first|exact ok|exact absurd rfl (hnc _ _ _)
  obtain⟨v',μ',w',hr,hp,hv⟩:=aGQ hnc c (fun hlt=>hf _ (Nat.le_refl _) hlt) ok' e
  unfold Oper.wp
  rcases hr with hr|⟨hr,hu⟩
  ·rw[hr,Oper.upon_value];exact hn v' μ' w' hp hv
  ·rw[hr,Oper.upon_skip];subst hu;exact hn undef μ' w' hp hv
end
end Go.Abs
end
section
namespace Go.Abs
def EP(C:Callee)(fl:Nat)(o:cw)(s:List Value)(h:AH):Option (Value×AH):=match o.guard with
 |none=>dw C (if o.YC=true then fl else h.next) s h o.op K0
 |some (g,want)=>asG (s.getD g undef) (fun b=>
  if b=want then dw C (if o.YC=true then fl else h.next) s h o.op K0 else some (Mg,h)) (some (Mg,h))
theorem Ui{R:Type}{r:R}{C fl o os s h}{K:List Value→AH→Option R}(e:sX C fl (o::os) s h K=some r):
 ∃v h1,EP C fl o s h=some (v,h1)∧sX C fl os (tA s o.dst v) h1 K=some r:=by
 simp only[sX] at e
 unfold EP
 split at e
 ·rename_i hg
  obtain⟨v,h1,g1,g2⟩:=mV e
  exact⟨v,h1,by(try simp only[hg]);exact g1,g2⟩
 ·rename_i g want hg
  rcases zP e with⟨b,hb,e⟩|⟨x,y,hb,e⟩
  ·simp only[hg,hb,asG]
   split at e
   ·rename_i hw
    obtain⟨v,h1,g1,g2⟩:=mV e
    exact⟨v,h1,by rw[if_pos hw];exact g1,g2⟩
   ·rename_i hw
    exact⟨Mg,h,by rw[if_neg hw],e⟩
  ·simp only[hg,hb,asG]
   exact⟨Mg,h,rfl,e⟩
def aqW:jH→Bool
 |.op _=>true
 |.gL g _ os=>os.all fun o=>decide (o.dst≠some g)
theorem alf{s:List Value}{g:Nat}{b:Bool}(h:s.getD g undef=.bool b):s.set g (.bool b)=s:=by
 have hg:s[g]?=some (.bool b):=by
  rw[List.getD_eq_getElem?_getD] at h
  cases hq:s[g]? with
  |none=>rw[hq] at h;cases h
  |some u=>rw[hq] at h;simp at h;rw[h]
 apply List.ext_getElem?
 intro i
 rw[List.getElem?_set]
 by_cases e:g=i
 ·subst e
  obtain⟨hl,_⟩:=List.getElem?_eq_some_iff.1 hg
  rw[if_pos rfl,if_pos hl,hg]
 ·rw[if_neg e]
theorem Uj{s:List Value}{g:Nat}{d:Option Nat}{v:Value}(h:d≠some g):(tA s d v).getD g undef=s.getD g undef:=by
 cases d with
 |none=>rfl
 |some d=>
  have:d≠g:=fun e=>h (by rw[e])
  simp only[tA,List.getD_eq_getElem?_getD]
  rw[List.getElem?_set_ne this]
theorem alg{R:Type}{r:R}{C fl}{g:Nat}{want:Bool}{rest:List cw}{K:List Value→AH→Option R}:∀(os:List cw) {s h},(os.all fun o=>decide (o.dst≠some g))=true→s.getD g undef=.bool want→
 Ud C fl os s h (fun s h=>sX C fl rest s h K)=some r→sX C fl (V6 g want os++rest) s h K=some r
 |[],s,h,_,_,e=>e
 |o::os,s,h,ok,hg,e=>by
  simp only[List.all_cons,Bool.and_eq_true,decide_eq_true_eq] at ok
  simp only[Ud] at e
  obtain⟨v,h1,g1,g2⟩:=mV e
  simp only[V6,List.cons_append,sX,hg,asG,if_true]
  exact IF g1 (alg os ok.2 (by rw[Uj ok.1];exact hg) g2)
theorem abH{R:Type}{r:R}{C fl}{g:Nat}{want b:Bool}(hb:b≠want){rest:List cw}{K:List Value→AH→Option R}:∀(os:List cw) {s h},(os.all fun o=>decide (o.dst≠some g))=true→s.getD g undef=.bool b→
 sX C fl rest (abw os s) h K=some r→sX C fl (V6 g want os++rest) s h K=some r
 |[],s,h,_,_,e=>e
 |o::os,s,h,ok,hg,e=>by
  simp only[List.all_cons,Bool.and_eq_true,decide_eq_true_eq] at ok
  simp only[abw] at e
  simp only[V6,List.cons_append,sX,hg,asG,if_neg hb]
  exact abH hb os ok.2 (by rw[Uj ok.1];exact hg) e
theorem Wc{R:Type}{r:R}{C fl}{g:Nat}{want:Bool}{x y}{rest:List cw}{K:List Value→AH→Option R}:∀(os:List cw) {s h},(os.all fun o=>decide (o.dst≠some g))=true→s.getD g undef=.complex .f32 x y→
 sX C fl rest (abw os s) h K=some r→sX C fl (V6 g want os++rest) s h K=some r
 |[],s,h,_,_,e=>e
 |o::os,s,h,ok,hg,e=>by
  simp only[List.all_cons,Bool.and_eq_true,decide_eq_true_eq] at ok
  simp only[abw] at e
  simp only[V6,List.cons_append,sX,hg,asG]
  exact Wc os ok.2 (by rw[Uj ok.1];exact hg) e
theorem qH{R:Type}{r:R}{C fl}:∀{is:List jH} {s h} {K:List Value→AH→Option R},(is.all aqW)=true→Ix C fl is s h K=some r→sX C fl (flat is) s h K=some r
 |[],s,h,K,_,e=>e
 |.op o::is,s,h,K,ok,e=>by
  simp only[List.all_cons,Bool.and_eq_true] at ok
  simp only[Ix] at e
  obtain⟨v,h1,g1,g2⟩:=mV e
  simp only[flat,sX]
  exact IF g1 (qH ok.2 g2)
 |.gL g want os::is,s,h,K,ok,e=>by
  simp only[List.all_cons,Bool.and_eq_true,aqW] at ok
  simp only[Ix] at e
  simp only[flat]
  rcases zP e with⟨b,hb,e⟩|⟨x,y,hb,e⟩
  case inr=>exact Wc os ok.1 hb (qH ok.2 e)
  split at e
  ·rename_i hw
   subst hw
   rw[alf hb] at e
   refine alg os ok.1 hb ?_
   have:∀(os:List cw) {s h},Ud C fl os s h (fun s h=>Ix C fl is s h K)=some r→Ud C fl os s h (fun s h=>sX C fl (flat is) s h K)=some r:=by
    intro os
    induction os with
    |nil=>intro s h e;exact qH ok.2 e
    |cons o os ih=>
     intro s h e
     simp only[Ud] at e ⊢
     obtain⟨v,h1,g1,g2⟩:=mV e
     exact IF g1 (ih g2)
   exact this os e
  ·rename_i hw
   have hnb:(!want)=b:=by cases b<;>cases want<;>simp at hw ⊢
   rw[hnb,alf hb] at e
   exact abH hw os ok.1 hb (qH ok.2 e)
def iV(o:cw)(fl:Nat)(h:AH):Nat:=if o.YC=true then fl else h.next
theorem tB{o fl}{h:AH}(hf:fl≤h.next):fl≤iV o fl h:=by unfold iV;split<;>omega
theorem abI{o fl}{h:AH}(hf:fl≤h.next):iV o fl h≤h.next:=by unfold iV;split<;>omega
theorem JX{C:Callee}(hC:CAbs C){fl o s h v h1}(e:EP C fl o s h=some (v,h1)):cj (iV o fl h) h h1:=by
 unfold EP at e
 split at e
 ·exact abG hC e
 ·rcases zP e with⟨b,_,e⟩|⟨x,y,_,e⟩
  ·split at e
   ·exact abG hC e
   ·simp only[Option.some.injEq,Prod.mk.injEq] at e
    rw[←e.2];exact cj.refl _ _
  ·simp only[Option.some.injEq,Prod.mk.injEq] at e
   rw[←e.2];exact cj.refl _ _
def okA(P:Program)(ops:Array Oper)(o:Oper)(ao:cw):Bool:=
 decide (o.dst=ao.dst)&&aBa P o.op ao.op&&(match o.guard,ao.guard with
  |none,none=>true
  |some (j,want),some (t,aVW)=>(want==aVW)&&decide ((ops[j]?).bind (·.dst)=some t)
  |_,_=>false)
section
variable{P:Program}{C:Callee}{fl base aA:Nat}{μ:Mu}{h h1:AH}{w:World}{s:List Value}{a:Act}{v:Value}{o:Oper}{ao:cw}{ops:Array Oper}
theorem ER(hC:gF P C){i:Nat}(hi:ops[i]?=some o)(ok:okA P ops o ao=true)(c:Ctx (iV ao fl h) base aA μ h w s a)(e:EP C fl ao s h=some (v,h1))(hf:iU μ h.next h1.next)
 {K:Act→World→Prop} {Q:Exit→Act→World→Prop} (hn:∀v' μ' w',cJ (iV ao fl h) base aA μ h w μ' h1 w'→cU μ' (dD w') v v'→K (a.put o.dst v') w'):wpOp P ops Q i K a w:=by
 unfold okA at ok
 simp only[Bool.and_eq_true,decide_eq_true_eq] at ok
 obtain⟨⟨k1,k2⟩,k3⟩:=ok
 unfold wpOp
 simp only[hi]
 unfold EP at e
 split at e
 ·rename_i hg
  split at k3
  ·rename_i hog _
   have hw:Region.wanted o (yielded ops a.tmps)=true:=by simp[Region.wanted,hog]
   rw[if_pos hw]
   exact .inl (aNT hC c hf k2 e hn)
  ·rename_i h2;rw[hg] at h2;cases h2
  ·cases k3
 ·rename_i g want hg
  split at k3
  ·rename_i h2;rw[hg] at h2;cases h2
  ·rename_i j a9t t a9y hog h2
   rw[hg] at h2
   injection h2 with h2;injection h2 with h3 h4
   subst h3;subst h4
   simp only[Bool.and_eq_true,beq_iff_eq,decide_eq_true_eq] at k3
   obtain⟨rfl,k4⟩:=k3
   rcases zP e with⟨b,hb,e⟩|⟨x,y,hb,e⟩
   case inr=>
    have hy:yielded ops a.tmps j=none:=by
     unfold yielded
     rw[k4]
     have hsg:s[g]?=some (.complex .f32 x y):=by
      rw[List.getD_eq_getElem?_getD] at hb
      cases hq:s[g]? with
      |none=>rw[hq] at hb;cases hb
      |some u=>rw[hq] at hb;simp at hb;rw[hb]
     obtain⟨u',q1,q2⟩:=c.t.get hsg
     have q3:u'=.tuple #[]:=by cases q2;rfl
     subst q3
     have:a.tmps[g]?=some (.tuple #[]):=by simpa using q1
     simp[this]
    have hw':¬Region.wanted o (yielded ops a.tmps)=true:=by simp[Region.wanted,hog,hy]
    rw[if_neg hw']
    simp only[Option.some.injEq,Prod.mk.injEq] at e
    obtain⟨rfl,rfl⟩:=e
    exact hn undef μ w (cJ.refl c.gd) .skip
   have hy:yielded ops a.tmps j=some b:=by
    unfold yielded
    rw[k4]
    have hsg:s[g]?=some (.bool b):=by
     rw[List.getD_eq_getElem?_getD] at hb
     cases hq:s[g]? with
     |none=>rw[hq] at hb;cases hb
     |some u=>rw[hq] at hb;simp at hb;rw[hb]
    obtain⟨u',q1,q2⟩:=c.t.get hsg
    have q3:=q2.xm
    subst q3
    have:a.tmps[g]?=some (.bool b):=by simpa using q1
    simp[this]
   split at e
   ·rename_i hw
    have hw':Region.wanted o (yielded ops a.tmps)=true:=by simp[Region.wanted,hog,hy,hw]
    rw[if_pos hw']
    exact .inl (aNT hC c hf k2 e hn)
   ·rename_i hw
    have hw':¬Region.wanted o (yielded ops a.tmps)=true:=by simp[Region.wanted,hog,hy,hw]
    rw[if_neg hw']
    simp only[Option.some.injEq,Prod.mk.injEq] at e
    obtain⟨rfl,rfl⟩:=e
    exact hn undef μ w (cJ.refl c.gd) .skip
  ·cases k3
theorem ata{μ sz s}{a:Act}(t:bN μ sz s a.tmps.toList){v v'}(hv:cU μ sz v v')(d:Option Nat):bN μ sz (tA s d v) (a.put d v').tmps.toList:=by
 cases d with
 |none=>exact t
 |some d=>
  simp only[tA,Act.put,Array.toList_setIfInBounds]
  refine bN.aqP (by simp[t.1]) fun i u hu=>?_
  rw[List.getElem?_set] at hu ⊢
  have hl:=t.1
  by_cases e:d=i
  ·simp only[e,if_true] at hu ⊢
   split at hu
   ·rename_i hlt
    injection hu with hu;subst hu
    rw[if_pos (by omega)];exact⟨v',rfl,hv⟩
   ·cases hu
  ·simp only[e,if_false] at hu ⊢
   exact t.get hu
theorem put_defers(a:Act)(d:Option Nat)(v:Value):(a.put d v).defers=a.defers:=by cases d<;>rfl
theorem abJ{R:Type}{r:R}(hC:CAbs C):∀{os:List cw} {s h} {K:List Value→AH→Option R},sX C fl os s h K=some r→fl≤h.next→∃s' h',cj fl h h'∧K s' h'=some r
 |[],s,h,K,e,_=>⟨s,h,cj.refl _ _,e⟩
 |o::os,s,h,K,e,bR=>by
  obtain⟨v,h1,g1,g2⟩:=Ui e
  have a1:=(JX hC g1).floor (tB (o:=o) bR)
  obtain⟨s',h',a2,g3⟩:=abJ hC g2 (Nat.le_trans bR a1.1)
  exact⟨s',h',a1.trans a2 (Nat.le_refl _),g3⟩
def iW(P:Program)(ops:Array Oper):List Oper→List cw→Bool
 |[],[]=>true
 |o::os,x::xs=>okA P ops o x&&iW P ops os xs
 |_,_=>false
theorem agB{R:Type}{r:R}(hC:gF P C){hend:Nat}{Q:Exit→Act→World→Prop}{K:List Value→AH→Option R}(hK:∀s h,K s h=some r→h.next≤hend):
 ∀(rest:List Oper) (al:List cw) (i:Nat),ops.toList.drop i=rest→iW P ops rest al=true→
 ∀(s:List Value) (h:AH) (a:Act) (w:World) (μ:Mu),sX C fl al s h K=some r→Ctx fl base aA μ h w s a→iU μ h.next hend→
 (∀s' h' a' w' μ',K s' h'=some r→cJ fl base aA μ h w μ' h' w'→bN μ' (dD w') s' a'.tmps.toList→a'.defers=a.defers→Q .normal a' w')→
 wpOps P ops Q (List.range' i rest.length) a w
 |[],[],i,_,_,s,h,a,w,μ,e,c,hf,hQ=>by
  simp only[List.length_nil,List.range'_zero,wpOps]
  exact hQ s h a w μ e (cJ.refl c.gd) c.t rfl
 |o::os,x::xs,i,hd,ok,s,h,a,w,μ,e,c,hf,hQ=>by
  simp only[iW,Bool.and_eq_true] at ok
  obtain⟨v,h1,g1,g2⟩:=Ui e
  have hi:ops[i]?=some o:=by
   have:(ops.toList.drop i)[0]?=some o:=by rw[hd];rfl
   rw[List.getElem?_drop] at this
   simpa using this
  have a1:=JX hC.toCAbs g1
  have aTy:fl≤h1.next:=Nat.le_trans c.bR a1.1
  obtain⟨s2,h2,a2,g3⟩:=abJ hC.toCAbs g2 aTy
  have aWm:h1.next≤hend:=Nat.le_trans a2.1 (hK _ _ g3)
  have hf1:iU μ h.next h1.next:=hf.sub (Nat.le_refl _) aWm
  rw[List.length_cons,List.range'_succ,wpOps_cons]
  have c':Ctx (iV x fl h) base aA μ h w s a:=⟨c.gd,Nat.le_trans c.hb (tB c.bR),abI c.bR,c.hr,c.t⟩
  refine ER hC hi ok.1 c' g1 hf1 fun v' μ' w' hp hv=>?_
  have hp':=hp.floor (tB (o:=x) c.bR)
  have aQv:o.dst=x.dst:=by
   have:=ok.1
   unfold okA at this
   simp only[Bool.and_eq_true,decide_eq_true_eq] at this
   exact this.1.1
  refine agB hC hK os xs (i+1) (by rw[←List.tail_drop,hd];rfl) ok.2 (tA s x.dst v) h1 (a.put o.dst v') w' μ' g2 ⟨hp'.gd,c.hb,aTy,Nat.le_trans c.hr hp'.hs,?_⟩ (hp'.fresh hf) ?_
  ·rw[←aQv]
   exact ata (hp'.axB c.gd hf1 c.t) hv _
  ·intro s' h' a' w2 μ2 hk hp2 ht hd2
   have hh':=hK _ _ hk
   exact hQ s' h' a' w2 μ2 hk (hp'.trans hp2 (Nat.le_refl _)) ht (by rw[hd2,put_defers])
 |[],_::_,_,_,ok,_,_,_,_,_,_,_,_,_=>by simp[iW] at ok
 |_::_,[],_,_,ok,_,_,_,_,_,_,_,_,_=>by simp[iW] at ok
end
end Go.Abs
end
section
namespace Go.Abs
def sW.reads:sW→List Nat
 |.t i=>[i]
 |_=>[]
def Qz:Option sW→List Nat
 |some x=>x.reads
 |none=>[]
def JY:List (Nat×Nat×sW)→List Nat
 |[]=>[]
 |p::ps=>p.2.2.reads++JY ps
def abK:List sW→List Nat
 |[]=>[]
 |x::xs=>x.reads++abK xs
def V5.reads:V5→List Nat
 |.mv x|.box x|.load _ x|.cQ x|.TQ _ x|.not x|.neg _ x|.conv _ _ x|.cW _ x|.aal x _|.len x|.aam _ _ x=>x.reads
 |.pick a b c=>a.reads++(b.reads++c.reads)
 |.alloc _=>[]
 |.build _ ps|.bq _ _ ps=>JY ps
 |.store _ x y|.bin _ _ x y|.sh _ _ _ x y|.cmp _ _ x y|.beq _ x y|.dj _ _ x y|.eE _ x y|.append _ _ x y|.copy _ x y|.mm _ x y=>x.reads++y.reads
 |.Da _ a b=>abK a++abK b
 |.slice _ x a b c=>x.reads++(Qz a++(Qz b++Qz c))
 |.call f args _=>f.reads++abK args
def cw.reads(o:cw):List Nat:=o.op.reads++(match o.guard with|some (g,_)=>[g]|none=>[])
def V5.pure:V5→Bool
 |.mv _|.pick .. |.build .. |.cQ _|.bin .. |.sh .. |.cmp .. |.beq .. |.TQ .. |.not _|.neg .. |.conv .. |.Da .. |.slice .. |.cW .. |.eE .. |.aal .. |.len _|.mm .. |.aam ..=>true
 |_=>false
def xW(l:List Nat)(s s':List Value):Prop:=∀t∈l,s.getD t undef=s'.getD t undef
theorem xW.left{l l' s s'}(h:xW (l++l') s s'):xW l s s':=fun t ht=>h t (List.mem_append_left _ ht)
theorem xW.right{l l' s s'}(h:xW (l++l') s s'):xW l' s s':=fun t ht=>h t (List.mem_append_right _ ht)
theorem bI{x:sW}{s s'}(h:xW x.reads s s'):ev s x=ev s' x:=by
 cases x with
 |t i=>exact h i (by simp[sW.reads])
 |c v=>rfl
 |f id=>rfl
theorem JZ:∀{xs:List sW} {s s'},xW (abK xs) s s'→xs.map (ev s)=xs.map (ev s')
 |[],_,_,_=>rfl
 |x::xs,s,s',h=>by
  rw[List.map_cons,List.map_cons,bI h.left,JZ (xW.right (l:=x.reads) h)]
theorem IG:∀{ps:List (Nat×Nat×sW)} {z:List Value} {s s'},xW (JY ps) s s'→zO s ps z=zO s' ps z
 |[],_,_,_,_=>rfl
 |(off,size,x)::ps,z,s,s',h=>by
  have h1:ev s x=ev s' x:=bI (xW.left (l':=JY ps) h)
  have h2:∀z,zO s ps z=zO s' ps z:=fun z=>IG (xW.right (l:=x.reads) h)
  simp only[zO,h1,h2]
theorem ET{R:Type}{o:Option sW}{s s'}(h:xW (Qz o) s s')(K:Option Int→Option R):j4 s o K=j4 s' o K:=by
 cases o with
 |none=>rfl
 |some x=>
  have:ev s x=ev s' x:=bI h
  simp only[j4,this]
theorem agC{R:Type}{C:Callee}{fl:Nat}{s s':List Value}{h:AH}{o:V5}(ha:xW o.reads s s')(K:Value→AH→Option R):dw C fl s h o K=dw C fl s' h o K:=by
 cases o<;>simp only[V5.reads] at ha<;>simp only[dw]
 case mv x=>rw[bI ha]
 case pick x y z=>rw[bI ha.left,bI ha.right.left,bI ha.right.right]
 case box x=>rw[bI ha]
 case build z ps=>rw[IG ha]
 case bq z ps=>rw[IG ha]
 case load x=>rw[bI ha]
 case store x y=>rw[bI ha.left,bI ha.right]
 case cQ x=>rw[bI ha]
 case bin x y=>rw[bI ha.left,bI ha.right]
 case sh x y=>rw[bI ha.left,bI ha.right]
 case cmp x y=>rw[bI ha.left,bI ha.right]
 case beq x y=>rw[bI ha.left,bI ha.right]
 case TQ x=>rw[bI ha]
 case not x=>rw[bI ha]
 case neg x=>rw[bI ha]
 case conv x=>rw[bI ha]
 case Da f a b=>rw[JZ ha.left,JZ ha.right]
 case dj x y=>rw[bI ha.left,bI ha.right]
 case slice x a b c=>
  rw[bI ha.left]
  congr 1;funext v
  rw[ET ha.right.left]
  congr 1;funext v
  rw[ET ha.right.right.left]
  congr 1;funext v
  rw[ET ha.right.right.right]
 case cW x=>rw[bI ha]
 case eE x y=>rw[bI ha.left,bI ha.right]
 case aal x i=>rw[bI ha]
 case call f args sh=>rw[bI ha.left,JZ ha.right]
 case len x=>rw[bI ha]
 case append x y=>rw[bI ha.left,bI ha.right]
 case copy x y=>rw[bI ha.left,bI ha.right]
 case mm x y=>rw[bI ha.left,bI ha.right]
 case aam x=>rw[bI ha]
theorem agD{C:Callee}{fl:Nat}{s s':List Value}{h:AH}{o:cw}(ha:xW o.reads s s'):EP C fl o s h=EP C fl o s' h:=by
 unfold EP
 unfold cw.reads at ha
 split
 ·rename_i hg;exact agC ha.left _
 ·rename_i g want hg
  rw[hg] at ha
  rw[ha.right g (by simp)]
  congr 1;funext b
  split
  ·exact agC ha.left _
  ·rfl
theorem atb{C:Callee}{fl:Nat}{s:List Value}{h h1:AH}{o:V5}{v:Value}(hp:o.pure=true)(e:dw C fl s h o K0=some (v,h1)):h1=h∧∀fl' h',dw C fl' s h' o K0=some (v,h'):=by
 have key:∀{v'},K0 v' h=some (v,h1)→h1=h∧v'=v:=fun e=>by
  simp only[K0,Option.some.injEq,Prod.mk.injEq] at e;exact⟨e.2.symm,e.1⟩
 cases o<;>simp only[V5.pure,Bool.false_eq_true] at hp<;>simp only[dw] at e
 case mv x=>obtain⟨h1,h2⟩:=key e;exact⟨h1,fun _ _=>by simp only[dw,h2,K0]⟩
 case pick x y z=>
  obtain⟨t,ht,e⟩:=cI e
  split at e
  ·rename_i q;obtain⟨h1,h2⟩:=key e;exact⟨h1,fun _ _=>by simp only[dw,ht,asBool,if_pos q,h2,K0]⟩
  ·rename_i q;obtain⟨h1,h2⟩:=key e;exact⟨h1,fun _ _=>by simp only[dw,ht,asBool,if_neg q,h2,K0]⟩
 case build z ps=>
  split at e
  ·rename_i cs q;obtain⟨h1,h2⟩:=key e;exact⟨h1,fun _ _=>by simp only[dw,q,h2,K0]⟩
  ·cases e
 case cQ x=>obtain⟨t,ht,e⟩:=eL e;obtain⟨h1,h2⟩:=key e;exact⟨h1,fun _ _=>by simp only[dw,ht,bz,K0];rw[h2]⟩
 case bin op k x y=>
  obtain⟨t,ht,e⟩:=aU e;obtain⟨u,hu,e⟩:=aU e
  split at e
  ·rename_i n q;obtain⟨h1,h2⟩:=key e;exact⟨h1,fun _ _=>by simp only[dw,ht,hu,asInt,if_true,q,h2,K0]⟩
  ·cases e
 case sh l k yk x y=>
  obtain⟨t,ht,e⟩:=aU e;obtain⟨u,hu,e⟩:=aU e
  split at e
  ·rename_i n q;obtain⟨h1,h2⟩:=key e;exact⟨h1,fun _ _=>by simp only[dw,ht,hu,asInt,if_true,q,h2,K0]⟩
  ·cases e
 case cmp op k x y=>
  obtain⟨t,ht,e⟩:=aU e;obtain⟨u,hu,e⟩:=aU e
  split at e
  ·rename_i n q;obtain⟨h1,h2⟩:=key e;exact⟨h1,fun _ _=>by simp only[dw,ht,hu,asInt,if_true,q,h2,K0]⟩
  ·cases e
 case beq neg x y=>obtain⟨t,ht,e⟩:=cI e;obtain⟨u,hu,e⟩:=cI e;obtain⟨h1,h2⟩:=key e;exact⟨h1,fun _ _=>by simp only[dw,ht,hu,asBool,h2,K0]⟩
 case TQ neg x=>obtain⟨t,ht,e⟩:=cT e;obtain⟨h1,h2⟩:=key e;exact⟨h1,fun _ _=>by simp only[dw,ht,aX,h2,K0]⟩
 case not x=>obtain⟨t,ht,e⟩:=cI e;obtain⟨h1,h2⟩:=key e;exact⟨h1,fun _ _=>by simp only[dw,ht,asBool,h2,K0]⟩
 case neg k x=>obtain⟨t,ht,e⟩:=aU e;obtain⟨h1,h2⟩:=key e;exact⟨h1,fun _ _=>by simp only[dw,ht,asInt,if_true,h2,K0]⟩
 case conv k k' x=>obtain⟨t,ht,e⟩:=aU e;obtain⟨h1,h2⟩:=key e;exact⟨h1,fun _ _=>by simp only[dw,ht,asInt,if_true,h2,K0]⟩
 case Da f x y=>obtain⟨h1,h2⟩:=key e;exact⟨h1,fun _ _=>by simp only[dw,h2,K0]⟩
 case slice kY x lo hi mx=>
  obtain⟨t,ht,e⟩:=cT e
  have step:∀(o:Option sW) (F:Option Int→Option (Value×AH)),j4 s o F=some (v,h1)→∃n,F n=some (v,h1)∧∀(G:Option Int→Option (Value×AH)),j4 s o G=G n:=by
   intro o F hF
   cases o with
   |none=>exact⟨none,hF,fun _=>rfl⟩
   |some x=>
    simp only[j4] at hF
    split at hF
    ·rename_i k n hn
     exact⟨some n,hF,fun G=>by simp only[j4,hn]⟩
    ·cases hF
  obtain⟨a,e,ha⟩:=step _ _ e
  obtain⟨b,e,hb⟩:=step _ _ e
  obtain⟨c,e,hc⟩:=step _ _ e
  have hs':∀fl (h:AH),dw C fl s h (.slice kY x lo hi mx) K0=sub kY t a b c fun v=>K0 (.slice v.a v.l v.c) h:=by
   intro fl h;simp only[dw,ht,aX,ha,hb,hc]
  unfold sub at e
  split at e
  ·rename_i q1
   split at e
   ·rename_i q2;obtain⟨h1,h2⟩:=key e;exact⟨h1,fun fl' h'=>by rw[hs'];unfold sub;rw[if_pos q1,if_pos q2];simp only[K0,h2]⟩
   ·cases e
  ·rename_i q1
   split at e
   ·rename_i q2
    split at e
    ·rename_i q3;obtain⟨h1,h2⟩:=key e;exact⟨h1,fun fl' h'=>by rw[hs'];unfold sub;rw[if_neg q1,if_pos q2,if_pos q3];simp only[K0,h2]⟩
    ·cases e
   ·cases e
 case cW off x=>obtain⟨t,ht,e⟩:=eL e;obtain⟨h1,h2⟩:=key e;exact⟨h1,fun _ _=>by simp only[dw,ht,bz,h2,K0]⟩
 case eE kY x i=>
  obtain⟨t,ht,e⟩:=cT e;obtain⟨u,hu,e⟩:=aU e
  unfold idx at e
  split at e
  ·rename_i p hp
   split at e
   ·rename_i q1
    split at e
    ·rename_i q2;obtain⟨h1,h2⟩:=key e;exact⟨h1,fun _ _=>by simp only[dw,ht,hu,aX,asInt,if_true,idx,hp,if_pos q1,if_pos q2,h2,K0]⟩
    ·cases e
   ·cases e
  ·cases e
 case aal x i=>
  obtain⟨t,ht,e⟩:=EN e
  split at e
  ·rename_i n q;obtain⟨h1,h2⟩:=key e;exact⟨h1,fun _ _=>by simp only[dw,ht,aE,q,h2,K0]⟩
  ·cases e
 case len x=>obtain⟨t,ht,e⟩:=cT e;obtain⟨h1,h2⟩:=key e;exact⟨h1,fun _ _=>by simp only[dw,ht,aX,h2,K0]⟩
 case aam k bs x=>
  obtain⟨t,ht,e⟩:=aU e
  split at e
  ·rename_i q0
   split at e
   ·rename_i n q;obtain⟨h1,h2⟩:=key e;exact⟨h1,fun _ _=>by simp only[dw,ht,asInt,if_true,if_pos q0,q,h2,K0]⟩
   ·cases e
  ·cases e
 case mm m x y=>obtain⟨t,ht,e⟩:=aU e;obtain⟨u,hu,e⟩:=aU e;obtain⟨h1,h2⟩:=key e;exact⟨h1,fun _ _=>by simp only[dw,ht,hu,asInt,if_true,h2,K0]⟩
theorem abL{C:Callee}{fl:Nat}{s:List Value}{h h1:AH}{o:cw}{v:Value}(hp:o.op.pure=true)(e:EP C fl o s h=some (v,h1)):h1=h∧∀fl' h',EP C fl' o s h'=some (v,h'):=by
 unfold EP at e
 split at e
 ·rename_i hg
  obtain⟨h1,h2⟩:=atb hp e
  exact⟨h1,fun fl' h'=>by unfold EP;simp only[hg];exact h2 _ _⟩
 ·rename_i g want hg
  rcases zP e with⟨b,hb,e⟩|⟨x,y,hb,e⟩
  case inr=>
   simp only[Option.some.injEq,Prod.mk.injEq] at e
   exact⟨e.2.symm,fun fl' h'=>by unfold EP;simp only[hg,hb,asG,e.1]⟩
  split at e
  ·rename_i q
   obtain⟨h1,h2⟩:=atb hp e
   exact⟨h1,fun fl' h'=>by unfold EP;simp only[hg,hb,asG,if_pos q];exact h2 _ _⟩
  ·rename_i q
   simp only[Option.some.injEq,Prod.mk.injEq] at e
   exact⟨e.2.symm,fun fl' h'=>by unfold EP;simp only[hg,hb,asG,if_neg q,e.1]⟩
def ahD(o:Oper)(acc:List Nat):Nat:=o.after.toList.foldl (fun s e=>if Region.binds .any e=true then s|||2^e.on|||acc.getD e.on 0 else s) 0
def aGR:List Oper→List Nat→List Nat
 |[],acc=>acc
 |o::os,acc=>aGR os (acc++[ahD o acc])
def QA:Nat→List Oper→Bool
 |_,[]=>true
 |i,o::os=>o.after.toList.all (fun e=>!Region.binds .any e||decide (e.on<i))&&QA (i+1) os
def Di(x y:cw):Bool:=
 (match x.dst with|some d=>y.reads.contains d||decide (y.dst=some d)|none=>false)||
 (match y.dst with|some d=>x.reads.contains d|none=>false)||
 (!x.op.pure&&!y.op.pure&&(x.YC||y.YC))
def QB(x:cw)(i:Nat):List cw→List Nat→Bool
 |[],_=>true
 |_::_,[]=>false
 |y::ys,m::ms=>(!Di x y||m.testBit i)&&QB x i ys ms
def QC:Nat→List cw→List Nat→Bool
 |_,[],_=>true
 |_,_::_,[]=>false
 |i,x::xs,_::ms=>QB x i xs ms&&QC (i+1) xs ms
def aqX(ops:Array Oper)(al:List cw):Bool:=QA 0 ops.toList&&QC 0 al (aGR ops.toList [])
end Go.Abs
end
section
namespace Go.Abs
def DC(ops:Array Oper)(E:Nat→Prop):Prop:=∀k o,ops[k]?=some o→E k→∀e∈o.after.toList,Region.binds .any e=true→E e.on
theorem alh{E:Nat→Prop}(acc:List Nat)(ha:∀j i,(acc.getD j 0).testBit i=true→E j→E i)(o:Oper)(ho:∀e∈o.after.toList,Region.binds .any e=true→E e.on):
 ∀i,(ahD o acc).testBit i=true→E i:=by
 unfold ahD
 have key:∀(l:List Edge) (s:Nat),(∀e∈l,Region.binds .any e=true→E e.on)→(∀i,s.testBit i=true→E i)→
  ∀i,(l.foldl (fun s e=>if Region.binds .any e=true then s|||2^e.on|||acc.getD e.on 0 else s) s).testBit i=true→E i:=by
  intro l
  induction l with
  |nil=>intro s _ hs i hi;exact hs i hi
  |cons e l ih=>
   intro s hl hs i hi
   rw[List.foldl_cons] at hi
   refine ih _ (fun e' TZ=>hl e' (List.mem_cons_of_mem _ TZ)) ?_ i hi
   intro i hi
   split at hi
   ·rename_i hb
    have he:=hl e List.mem_cons_self hb
    simp only[Nat.testBit_or,Bool.or_eq_true] at hi
    rcases hi with(hi|hi)|hi
    ·exact hs i hi
    ·rw[Nat.testBit_two_pow] at hi
     have:e.on=i:=by simpa using hi
     rw[←this];exact he
    ·exact ha _ _ hi he
   ·exact hs i hi
 exact key _ 0 ho (fun i hi=>by simp at hi)
theorem Uk{E:Nat→Prop}:∀(os:List Oper) (acc:List Nat),(∀j i,(acc.getD j 0).testBit i=true→E j→E i)→
 (∀j o,os[j]?=some o→E (acc.length+j)→∀e∈o.after.toList,Region.binds .any e=true→E e.on)→∀j i,((aGR os acc).getD j 0).testBit i=true→E j→E i
 |[],acc,ha,_,j,i,hb,hj=>ha j i hb hj
 |o::os,acc,ha,ho,j,i,hb,hj=>by
  refine Uk os (acc++[ahD o acc]) ?_ ?_ j i hb hj
  ·intro j i hb hj
   rcases Nat.lt_trichotomy j acc.length with hl|hl|hl
   ·rw[List.getD_eq_getElem?_getD,List.getElem?_append_left hl,←List.getD_eq_getElem?_getD] at hb
    exact ha j i hb hj
   ·subst hl
    rw[List.getD_eq_getElem?_getD,List.getElem?_append_right (Nat.le_refl _),Nat.sub_self] at hb
    exact alh acc ha o (ho 0 o rfl hj) i (by simpa using hb)
   ·rw[List.getD_eq_getElem?_getD,List.getElem?_eq_none (by simp;omega)] at hb
    simp at hb
  ·intro j o' ho' hj
   refine ho (j+1) o' (by simpa using ho') ?_
   simpa [Nat.add_assoc,Nat.add_comm 1 j] using hj
theorem QD{x:cw}{i:Nat}:∀{ys:List cw} {ms:List Nat},QB x i ys ms=true→∀(j:Nat) y,ys[j]?=some y→Di x y=true→(ms.getD j 0).testBit i=true
 |[],_,_,j,y,hy,_=>by simp at hy
 |_::_,[],h,_,_,_,_=>by simp[QB] at h
 |y0::ys,m::ms,h,j,y,hy,hm=>by
  simp only[QB,Bool.and_eq_true,Bool.or_eq_true,Bool.not_eq_true'] at h
  cases j with
  |zero=>
   simp at hy;subst hy
   rcases h.1 with h1|h1
   ·rw[hm] at h1;cases h1
   ·exact h1
  |succ j=>exact QD h.2 j y (by simpa using hy) hm
theorem QE:∀{xs:List cw} {ms:List Nat} {i0:Nat},QC i0 xs ms=true→∀(i j:Nat) x y,i<j→xs[i]?=some x→xs[j]?=some y→Di x y=true→(ms.getD j 0).testBit (i0+i)=true
 |[],_,_,_,i,j,x,y,_,hx,_,_=>by simp at hx
 |_::_,[],_,h,_,_,_,_,_,_,_,_=>by simp[QC] at h
 |x0::xs,m::ms,i0,h,i,j,x,y,hij,hx,hy,hm=>by
  simp only[QC,Bool.and_eq_true] at h
  obtain⟨j,rfl⟩:∃k,j=k+1:=⟨j-1,by omega⟩
  cases i with
  |zero=>
   simp at hx;subst hx
   exact QD h.1 j y (by simpa using hy) hm
  |succ i=>
   have:=QE h.2 i j x y (by omega) (by simpa using hx) (by simpa using hy) hm
   rw[show i0+(i+1)=i0+1+i by omega]
   exact this
theorem EU:∀{os:List Oper} {i0:Nat},QA i0 os=true→∀(i:Nat) o,os[i]?=some o→∀e∈o.after.toList,Region.binds .any e=true→e.on<i0+i
 |[],_,_,i,o,ho=>by simp at ho
 |o0::os,i0,h,i,o,ho=>by
  simp only[QA,Bool.and_eq_true,List.all_eq_true,Bool.or_eq_true,Bool.not_eq_true',decide_eq_true_eq] at h
  cases i with
  |zero=>
   simp at ho;subst ho
   intro e he hb
   rcases h.1 e he with h1|h1
   ·rw[hb] at h1;cases h1
   ·exact h1
  |succ i=>
   intro e he hb
   have:=EU h.2 i o (by simpa using ho) e he hb
   omega
theorem ahE{R:Type}{r:R}{C:Callee}{fl:Nat}:∀{al:List cw} {s:List Value} {h:AH} {K:List Value→AH→Option R},sX C fl al s h K=some r→
 ∃(S:Nat→List Value) (H:Nat→AH) (V:Nat→Value),S 0=s∧H 0=h∧(∀(i:Nat) x,al[i]?=some x→EP C fl x (S i) (H i)=some (V i,H (i+1))∧S (i+1)=tA (S i) x.dst (V i))∧K (S al.length) (H al.length)=some r
 |[],s,h,K,e=>⟨fun _=>s,fun _=>h,fun _=>undef,rfl,rfl,fun i x hx=>by simp at hx,e⟩
 |o::os,s,h,K,e=>by
  obtain⟨v,h1,g1,g2⟩:=Ui e
  obtain⟨S,H,V,s0,h0,hs,hk⟩:=ahE g2
  refine⟨fun i=>match i with|0=>s|i+1=>S i,fun i=>match i with|0=>h|i+1=>H i,fun i=>match i with|0=>v|i+1=>V i,rfl,rfl,?_,hk⟩
  intro i x hx
  cases i with
  |zero=>
   simp at hx;subst hx
   exact⟨by simp only[h0];exact g1,s0⟩
  |succ i=>exact hs i x (by simpa using hx)
def WF(h:AH):Prop:=∀b cs,h.iN b=some cs→b<h.next
theorem WF.step{fl h h1}(hw:WF h)(p:cj fl h h1):WF h1:=by
 intro b cs hb
 rcases Nat.lt_or_ge b h1.next with h2|h2
 ·exact h2
 ·obtain⟨fC,h3⟩:=p.2.2 b cs (.inr h2) hb
  have:=hw b fC h3
  have:=p.1
  omega
section
variable{fl base aA:Nat}{μ μ' μ0:Mu}{h hj hj1 hp:AH}{w w' w0:World}
theorem Dd.aGS(s:Dd base aA μ hp w)(st:cj hj.next hj hp)(wf:WF hj):Dd base aA μ hj w:=by
 have hb:∀b cs,hj.iN b=some cs→hp.iN b=some cs:=fun b cs hb=>by
  have:=wf b cs hb
  rw[st.2.1 b this this];exact hb
 exact {cell:=fun b cs rb o h1=>s.cell b cs rb o (hb _ _ h1),own:=fun b cs rb o h0 h1=>s.own b cs rb o h0 (hb _ _ h1),inj:=fun b b' cs fC rb o o' h0 h1 h2=>s.inj b b' cs fC rb o o' h0 (hb _ _ h1) (hb _ _ h2),lt:=s.lt,bnd:=wf}
theorem cJ.ahF(s:Dd base aA μ hj w)(st:cj hj.next hj hp)(wf:WF hp)(hf:iU μ hj.next hp.next):cJ fl base aA μ hj w μ hp w:=by
 have hlt:∀b cs x,hp.iN b=some cs→μ b=some x→b<hj.next∧hj.iN b=some cs:=fun b cs x hb hm=>by
  have h1:=wf b cs hb
  have h2:b<hj.next:=by
   rcases Nat.lt_or_ge b hj.next with h2|h2
   ·exact h2
   ·rw[hf b h2 h1] at hm;cases hm
  exact⟨h2,by rw[←st.2.1 b h2 h2];exact hb⟩
 refine {gd:={cell:=fun b cs rb o h1 hm=>s.cell b cs rb o (hlt b cs _ h1 hm).2 hm,own:=fun b cs rb o h0 h1 hm=>s.own b cs rb o h0 (hlt b cs _ h1 hm).2 hm,inj:=fun b b' cs fC rb o o' h0 h1 h2 m1 m2=>s.inj b b' cs fC rb o o' h0 (hlt _ _ _ h1 m1).2 (hlt _ _ _ h2 m2).2 m1 m2,lt:=s.lt,bnd:=wf},mu:=fun _ _=>rfl,nx:=st.1,old:=fun b hb _=>st.2.1 b hb hb,dead:=fun b cs hb hc=>st.2.2 b cs (.inl hb) hc,fr:=fun _ _ _=>rfl,sz:=fun _ _=>rfl,hs:=Nat.le_refl _,os:=rfl,tape:=rfl,output:=rfl,new:=?_}
 intro b cs rb o h1 _ hm hb
 exact absurd (hlt b cs _ hb hm).1 (by omega)
theorem cJ.merge(p:cJ fl base aA μ0 h w0 μ hp w)(q:cJ hj.next base aA μ hj w μ' hj1 w')(sj:Dd base aA μ hj w)(fq:iU μ hj.next hj1.next)
 (st:cj hj1.next hj1 hp) (stj:cj hj.next hj hp) (h0:h.next≤hj.next):cJ fl base aA μ0 h w0 μ' hp w':=by
 have wf:WF hp:=p.gd.bnd
 have hq:∀rb,rb<w.heap.size→w'.heap[rb]?=w.heap[rb]?:=fun rb Lh=>q.fr rb Lh fun b cs o h1 h2=>by omega
 have JP:∀b cs,b<hj1.next→hp.iN b=some cs→hj1.iN b=some cs:=fun b cs hb hc=>by rw[←st.2.1 b hb hb];exact hc
 have kf:∀b,hj1.next≤b→μ' b=μ b:=fun b hb=>q.mu b (by omega)
 have aUc:∀b cs rb o,hj.next≤b→b<hj1.next→μ' b=some (rb,o)→hp.iN b=some cs→w.heap.size≤rb:=fun b cs rb o h1 h2 hm hc=>by
  rcases q.new b cs rb o h1 h2 hm (JP b cs h2 hc) with h3|⟨b0,_,_,h4,h5,_⟩
  ·exact h3
  ·omega
 have hvm:∀{v v'},cU μ (dD w) v v'→cU μ' (dD w') v v':=fun hv=>q.aSZ sj fq hv
 refine {gd:={cell:=?_,own:=?_,inj:=?_,lt:=q.gd.lt,bnd:=wf},mu:=?_,nx:=p.nx,old:=p.old,dead:=p.dead,fr:=?_,sz:=?_,hs:=Nat.le_trans p.hs q.hs,os:=q.os.trans p.os,tape:=q.tape.trans p.tape,output:=q.output.trans p.output,new:=?_}
 ·intro b cs rb o hb hm j v hv
  rcases Nat.lt_or_ge b hj1.next with hl|hl
  ·exact q.gd.cell b cs rb o (JP b cs hl hb) hm j v hv
  ·rw[kf b hl] at hm
   obtain⟨v',h1,h2⟩:=p.gd.cell b cs rb o hb hm j v hv
   exact⟨v',by rw[JV (hq rb (p.gd.lt b rb o hm))];exact h1,hvm h2⟩
 ·intro b cs rb o hbb hb hm
  rcases Nat.lt_or_ge b hj1.next with hl|hl
  ·exact q.gd.own b cs rb o hbb (JP b cs hl hb) hm
  ·rw[kf b hl] at hm
   rw[hq rb (p.gd.lt b rb o hm)]
   exact p.gd.own b cs rb o hbb hb hm
 ·have mixed:∀b b' cs fC rb o o',b<hj1.next→hj1.next≤b'→hp.iN b=some cs→hp.iN b'=some fC→μ' b=some (rb,o)→μ b'=some (rb,o')→b<hj.next∧μ b=some (rb,o):=by
   intro b b' cs fC rb o o' h1 h2 h3 h4 m1 m2
   rcases Nat.lt_or_ge b hj.next with hl|hl
   ·exact⟨hl,by rw[←q.mu b (by omega)];exact m1⟩
   ·have:=aUc b cs rb o hl h1 m1 h3
    have:=p.gd.lt b' rb o' m2
    omega
  intro b b' cs fC rb o o' hbb h1 h2 m1 m2
  rcases Nat.lt_or_ge b hj1.next with hl|hl
  ·rcases Nat.lt_or_ge b' hj1.next with YE|YE
   ·exact q.gd.inj b b' cs fC rb o o' hbb (JP _ _ hl h1) (JP _ _ YE h2) m1 m2
   ·rw[kf b' YE] at m2
    obtain⟨_,m1'⟩:=mixed b b' cs fC rb o o' hl YE h1 h2 m1 m2
    exact p.gd.inj b b' cs fC rb o o' hbb h1 h2 m1' m2
  ·rw[kf b hl] at m1
   rcases Nat.lt_or_ge b' hj1.next with YE|YE
   ·obtain⟨_,m2'⟩:=mixed b' b fC cs rb o' o YE hl h2 h1 m2 m1
    exact p.gd.inj b b' cs fC rb o o' hbb h1 h2 m1 m2'
   ·rw[kf b' YE] at m2
    exact p.gd.inj b b' cs fC rb o o' hbb h1 h2 m1 m2
 ·intro b hb
  have h1:=st.1
  have h2:=q.nx
  rw[q.mu b (by omega),p.mu b hb]
 ·intro rb Lh hno
  rw[hq rb (Nat.lt_of_lt_of_le Lh p.hs)]
  exact p.fr rb Lh hno
 ·intro rb Lh
  rw[q.sz rb (Nat.lt_of_lt_of_le Lh p.hs),p.sz rb Lh]
 ·intro b cs rb o h1 h2 hm hc
  by_cases hin:hj.next≤b∧b<hj1.next
  ·exact .inl (Nat.le_trans p.hs (aUc b cs rb o hin.1 hin.2 hm hc))
  ·rw[q.mu b hin] at hm
   exact p.new b cs rb o h1 h2 hm hc
end
def abM(x:cw):Prop:=x.op.pure=false∧x.YC=true
section
variable{P:Program}{C:Callee}{fl base aA:Nat}{ops:Array Oper}{al:List cw}{S:Nat→List Value}{H:Nat→AH}{V:Nat→Value}
theorem QF(al:List cw):∀d j,j+d=al.length→∃p,j≤p∧p≤al.length∧(∀x,al[p]?=some x→abM x)∧(∀(i:Nat) x,j≤i→i<p→al[i]?=some x→¬abM x)
 |0,j,hj=>⟨j,Nat.le_refl _,by omega,fun x hx=>(by rw[List.getElem?_eq_none (by omega)] at hx;cases hx),fun i x h1 h2=>by omega⟩
 |d+1,j,hj=>by
  by_cases hx:∃x,al[j]?=some x∧abM x
  ·obtain⟨x,h1,h2⟩:=hx
   exact⟨j,Nat.le_refl _,by omega,fun y hy=>(by rw[h1] at hy;injection hy with hy;subst hy;exact h2),fun i x h1 h2=>by omega⟩
  ·obtain⟨p,h1,h2,h3,h4⟩:=QF al d (j+1) (by omega)
   refine⟨p,by omega,h2,h3,fun i x hi1 hi2 hix Iu=>?_⟩
   by_cases hij:i=j
   ·subst hij;exact hx ⟨x,hix,Iu⟩
   ·exact h4 i x (by omega) hi2 hix Iu
end
end Go.Abs
end
section
namespace Go.Abs
def J0(x y:cw):Bool:=
 (match x.dst with|some d=>y.reads.contains d||decide (y.dst=some d)|none=>false)||
 (match y.dst with|some d=>x.reads.contains d|none=>false)
def atc(cm:Nat→Prop)(i j:Nat)(x y:cw):Prop:=J0 x y=true∨(¬cm i∧¬cm j∧(x.YC=true∨y.YC=true))
structure DR(P:Program)(C:Callee)(fl base aA:Nat)(ops:Array Oper)(al:List cw)(S:Nat→List Value)(H:Nat→AH)(V:Nat→Value)(cm:Nat→Prop):Prop where
 hC:gF P C
 len:al.length=ops.size
 ok:∀(i:Nat) o x,ops[i]?=some o→al[i]?=some x→okA P ops o x=true
 aQp:∀(i:Nat) o,ops[i]?=some o→∀e∈o.after.toList,Region.binds .any e=true→e.on<i
 ord:∀E,DC ops E→∀(i j:Nat) x y,i<j→al[i]?=some x→al[j]?=some y→atc cm i j x y→E j→E i
 run:∀(i:Nat) x,al[i]?=some x→EP C fl x (S i) (H i)=some (V i,H (i+1))∧S (i+1)=tA (S i) x.dst (V i)
 fl0:fl≤(H 0).next
 wf0:WF (H 0)
 hb:base≤fl
 calm:∀(j:Nat) x,al[j]?=some x→cm j→H (j+1)=H j∧∀p,p≤al.length→∀f,EP C f x (S j) (H p)=some (V j,H p)
 aFH:∀(j:Nat) x,al[j]?=some x→x.op.pure=true→cm j
 asK:∀(j:Nat) x,al[j]?=some x→abM x→¬cm j
namespace DR
variable{P:Program}{C:Callee}{fl base aA:Nat}{ops:Array Oper}{al:List cw}{S:Nat→List Value}{H:Nat→AH}{V:Nat→Value}{cm:Nat→Prop}
theorem steps(d:DR P C fl base aA ops al S H V cm):∀i,i≤al.length→cj fl (H 0) (H i)
 |0,_=>cj.refl _ _
 |i+1,hi=>by
  have ih:=d.steps i (by omega)
  obtain⟨x,hx⟩:∃x,al[i]?=some x:=⟨al[i],List.getElem?_eq_getElem (by omega)⟩
  have bR:fl≤(H i).next:=Nat.le_trans d.fl0 ih.1
  exact ih.trans ((JX d.hC.toCAbs (d.run i x hx).1).floor (tB bR)) (Nat.le_refl _)
theorem flH(d:DR P C fl base aA ops al S H V cm){i}(hi:i≤al.length):fl≤(H i).next:=Nat.le_trans d.fl0 (d.steps i hi).1
theorem atd(d:DR P C fl base aA ops al S H V cm){i x}(hx:al[i]?=some x):cj (iV x fl (H i)) (H i) (H (i+1)):=JX d.hC.toCAbs (d.run i x hx).1
theorem lt(d:DR P C fl base aA ops al S H V cm){i:Nat}{x}(hx:al[i]?=some x):i<al.length:=(List.getElem?_eq_some_iff.1 hx).1
theorem mono(d:DR P C fl base aA ops al S H V cm):∀{j i},i≤j→j≤al.length→(H i).next≤(H j).next
 |0,i,h1,_=>by have:i=0:=by omega
               subst this;exact Nat.le_refl _
 |j+1,i,h1,h2=>by
  by_cases h:i=j+1
  ·subst h;exact Nat.le_refl _
  ·obtain⟨x,hx⟩:∃x,al[j]?=some x:=⟨al[j],List.getElem?_eq_getElem (by omega)⟩
   exact Nat.le_trans (d.mono (by omega) (by omega)) (d.atd hx).1
theorem wf(d:DR P C fl base aA ops al S H V cm):∀{i},i≤al.length→WF (H i)
 |0,_=>d.wf0
 |i+1,hi=>by
  obtain⟨x,hx⟩:∃x,al[i]?=some x:=⟨al[i],List.getElem?_eq_getElem (by omega)⟩
  exact(d.wf (i:=i) (by omega)).step (d.atd hx)
theorem aS9(d:DR P C fl base aA ops al S H V cm){i x}(hx:al[i]?=some x)(hp:x.op.pure=true):H (i+1)=H i:=(abL hp (d.run i x hx).1).1
theorem quiet(d:DR P C fl base aA ops al S H V cm):∀{j i},i≤j→j≤al.length→(∀(k:Nat) x,i≤k→k<j→al[k]?=some x→¬abM x)→cj (H i).next (H i) (H j)
 |0,i,h1,_,_=>by have:i=0:=by omega
                 subst this;exact cj.refl _ _
 |j+1,i,h1,h2,hq=>by
  by_cases h:i=j+1
  ·subst h;exact cj.refl _ _
  ·obtain⟨x,hx⟩:∃x,al[j]?=some x:=⟨al[j],List.getElem?_eq_getElem (by omega)⟩
   have ih:=d.quiet (j:=j) (i:=i) (by omega) (by omega) (fun k y a b=>hq k y a (by omega))
   have hm:=d.mono (i:=i) (j:=j) (by omega) (by omega)
   by_cases hp:x.op.pure=true
   ·rw[d.aS9 hx hp];exact ih
   ·have Iu:x.YC=false:=by
     have:=hq j x (by omega) (by omega) hx
     unfold abM at this
     cases hxi:x.YC with
     |true=>exact absurd ⟨by simpa using hp,hxi⟩ this
     |false=>rfl
    have:=d.atd hx
    unfold iV at this
    rw[Iu] at this
    exact ih.trans this hm
theorem abN(d:DR P C fl base aA ops al S H V cm){μ:Mu}:∀{j i},i≤j→j≤al.length→(∀k,i≤k→k<j→iU μ (H k).next (H (k+1)).next)→iU μ (H i).next (H j).next
 |0,i,h1,_,_=>by
  have:i=0:=by omega
  subst this
  intro b Iv nY;omega
 |j+1,i,h1,h2,hq=>by
  by_cases h:i=j+1
  ·subst h;intro b Iv nY;omega
  ·have ih:=d.abN (j:=j) (i:=i) (by omega) (by omega) (fun k a b=>hq k a (by omega))
   intro b Iv nY
   rcases Nat.lt_or_ge b (H j).next with hl|hl
   ·exact ih b Iv hl
   ·exact hq j (by omega) (by omega) b hl nY
end DR
structure QG{P:Program}{C:Callee}{fl base aA:Nat}{ops:Array Oper}{al:List cw}{S:Nat→List Value}{H:Nat→AH}{V:Nat→Value}{cm:Nat→Prop}(_d:DR P C fl base aA ops al S H V cm)
 (μ0:Mu) (w0:World) (a0:Act) (hend:Nat) (L:Array Bool) (a:Act) (w:World) (μ:Mu) (sE:List Value) (p:Nat):Prop where
 size:L.size=ops.size
 dc:DC ops fun i=>L.getD i false=true
 dfr:a.defers=a0.defers
 t:bN μ (dD w) sE a.tmps.toList
 cut:∀t,∃m,m≤al.length∧(∀(i:Nat) x,al[i]?=some x→x.dst=some t→L.getD i false=true→i<m)∧(∀(i:Nat) x,al[i]?=some x→x.dst=some t→¬L.getD i false=true→m≤i)∧sE[t]?=(S m)[t]?
 ple:p≤al.length
 pat:∀x,al[p]?=some x→abM x∧¬L.getD p false=true
 plt:∀(i:Nat) x,i<p→al[i]?=some x→abM x→L.getD i false=true
 post:cJ fl base aA μ0 (H 0) w0 μ (H p) w
 fresh:∀i,i<al.length→¬L.getD i false=true→iU μ (H i).next (H (i+1)).next
 ahv:iU μ (H al.length).next hend
 hr:aA≤w.heap.size
section
variable{P:Program}{C:Callee}{fl base aA:Nat}{ops:Array Oper}{al:List cw}{S:Nat→List Value}{H:Nat→AH}{V:Nat→Value}{cm:Nat→Prop}{d:DR P C fl base aA ops al S H V cm}
variable{μ0:Mu}{w0:World}{a0:Act}{hend:Nat}{L:Array Bool}{a:Act}{w:World}{μ:Mu}{sE:List Value}{p:Nat}
theorem aPO(L:Array Bool)(j i:Nat)(hj:j<L.size):((L.setIfInBounds j true).getD i false=true)↔(i=j∨L.getD i false=true):=by
 simp only[Array.getD_eq_getD_getElem?,Array.getElem?_setIfInBounds]
 by_cases e:j=i
 ·subst e;simp[hj]
 ·simp[e,Ne.symm e]
theorem QH(d:DR P C fl base aA ops al S H V cm)(t:Nat):∀{n m},m≤n→n≤al.length→(∀(i:Nat) x,m≤i→i<n→al[i]?=some x→x.dst≠some t)→(S m)[t]?=(S n)[t]?
 |0,m,h1,_,_=>by have:m=0:=by omega
                 subst this;rfl
 |n+1,m,h1,h2,hq=>by
  by_cases h:m=n+1
  ·subst h;rfl
  ·obtain⟨x,hx⟩:∃x,al[n]?=some x:=⟨al[n],List.getElem?_eq_getElem (by omega)⟩
   rw[QH d t (n:=n) (m:=m) (by omega) (by omega) (fun i y a b=>hq i y a (by omega)),(d.run n x hx).2]
   have lZ:=hq n x (by omega) (by omega) hx
   cases hd:x.dst with
   |none=>rfl
   |some q=>
    have:q≠t:=fun e=>lZ (by rw[hd,e])
    simp only[tA]
    rw[List.getElem?_set_ne this]
theorem EV{cm:Nat→Prop}{i j:Nat}{x y:cw}{t}(hx:x.dst=some t)(hy:t∈y.reads∨y.dst=some t):atc cm i j x y:=by
 left
 unfold J0
 rw[hx]
 rcases hy with hy|hy
 ·simp[hy]
 ·simp[hy]
theorem ahG{cm:Nat→Prop}{i j:Nat}{x y:cw}{t}(hy:y.dst=some t)(hx:t∈x.reads):atc cm i j x y:=by
 left
 unfold J0
 rw[hy]
 simp[hx]
theorem vv{cm:Nat→Prop}{i j:Nat}{x y:cw}(hx:¬cm i)(hy:¬cm j)(h:x.YC=true∨y.YC=true):atc cm i j x y:=.inr ⟨hx,hy,h⟩
theorem QG.ate(v:QG d μ0 w0 a0 hend L a w μ sE p){j:Nat}{x:cw}(hx:al[j]?=some x)(hj:¬L.getD j false=true)
 (hdc:DC ops fun i=>i=j∨L.getD i false=true):xW x.reads sE (S j):=by
 intro t ht
 obtain⟨m,hm1,hm2,hm3,hm4⟩:=v.cut t
 have Qk:=d.lt hx
 have w1:∀(i:Nat) y,i<j→al[i]?=some y→y.dst=some t→L.getD i false=true:=fun i y hi hy hd=>by
  have:=d.ord _ hdc i j y x hi hy hx (EV hd (.inl ht)) (.inl rfl)
  rcases this with h|h
  ·omega
  ·exact h
 have w2:∀(i:Nat) y,j<i→al[i]?=some y→y.dst=some t→¬L.getD i false=true:=fun i y hi hy hd hL=>
  hj (d.ord _ v.dc j i x y hi hx hy (ahG hd ht) hL)
 have hs:(S m)[t]?=(S j)[t]?:=by
  rcases Nat.le_total m j with h|h
  ·refine QH d t h (by omega) fun i y h1 h2 hy hd=>?_
   have:=hm2 i y hy hd (w1 i y h2 hy hd);omega
  ·refine(QH d t h hm1 fun i y h1 h2 hy hd=>?_).symm
   by_cases e:i=j
   ·subst e
    by_cases hL:L.getD i false=true
    ·exact hj hL
    ·have:=hm3 i y hy hd hL;omega
   ·have hnL:=w2 i y (by omega) hy hd
    have:=hm3 i y hy hd hnL;omega
 rw[List.getD_eq_getElem?_getD,List.getD_eq_getElem?_getD,hm4,hs]
theorem QG.aBb(v:QG d μ0 w0 a0 hend L a w μ sE p):∀m,m≤al.length→(S m).length=(S 0).length
 |0,_=>rfl
 |m+1,hm=>by
  obtain⟨x,hx⟩:∃x,al[m]?=some x:=⟨al[m],List.getElem?_eq_getElem (by omega)⟩
  rw[(d.run m x hx).2,←QG.aBb v m (by omega)]
  cases x.dst<;>simp[tA]
theorem QG.aXB(v:QG d μ0 w0 a0 hend L a w μ sE p){j:Nat}{x:cw}(hx:al[j]?=some x)(hj:¬L.getD j false=true)(hlen:sE.length=(S 0).length)
 (hdc:DC ops fun i=>i=j∨L.getD i false=true) (t:Nat):
 ∃m,m≤al.length∧(∀(i:Nat) y,al[i]?=some y→y.dst=some t→(i=j∨L.getD i false=true)→i<m)∧(∀(i:Nat) y,al[i]?=some y→y.dst=some t→¬(i=j∨L.getD i false=true)→m≤i)∧(tA sE x.dst (V j))[t]?=(S m)[t]?:=by
 have Qk:=d.lt hx
 by_cases hd:x.dst=some t
 ·refine⟨j+1,by omega,fun i y hy hyd hi=>?_,fun i y hy hyd hi=>?_,?_⟩
  ·rcases hi with rfl|hi
   ·omega
   ·rcases Nat.lt_or_ge j i with hlt|hge
    ·exact absurd (d.ord _ v.dc j i x y hlt hx hy (EV hd (.inr hyd)) hi) hj
    ·omega
  ·rcases Nat.lt_or_ge i (j+1) with hlt|hge
   ·exfalso
    by_cases e:i=j
    ·exact hi (.inl e)
    ·exact hi (d.ord _ hdc i j y x (by omega) hy hx (EV hyd (.inr hd)) (.inl rfl))
   ·exact hge
  ·rw[(d.run j x hx).2,hd]
   simp only[tA,List.getElem?_set]
   rw[hlen,v.aBb j (by omega)]
   simp
 ·obtain⟨m,hm1,hm2,hm3,hm4⟩:=v.cut t
  refine⟨m,hm1,fun i y hy hyd hi=>?_,fun i y hy hyd hi=>hm3 i y hy hyd fun h=>hi (.inr h),?_⟩
  ·rcases hi with rfl|hi
   ·rw[hx] at hy;injection hy with hy;subst hy;exact absurd hyd hd
   ·exact hm2 i y hy hyd hi
  ·cases hq:x.dst with
   |none=>exact hm4
   |some q=>
    have:q≠t:=fun e=>hd (by rw[hq,e])
    simp only[tA]
    rw[List.getElem?_set_ne this];exact hm4
end
end Go.Abs
end
section
namespace Go.Abs
section
variable{P:Program}{C:Callee}{fl base aA:Nat}{ops:Array Oper}{al:List cw}{S:Nat→List Value}{H:Nat→AH}{V:Nat→Value}{cm:Nat→Prop}{d:DR P C fl base aA ops al S H V cm}
variable{μ0:Mu}{w0:World}{a0:Act}{hend:Nat}{L:Array Bool}{a:Act}{w:World}{μ:Mu}{sE:List Value}{p:Nat}
theorem QG.step(v:QG d μ0 w0 a0 hend L a w μ sE p)(hlen:sE.length=(S 0).length){j:Nat}{o:Oper}(ho:ops[j]?=some o)(hj:¬L.getD j false=true)
 (aTL:∀e∈o.after.toList,Region.binds .any e=true→L.getD e.on false=true) {Q:Exit→Act→World→Prop} {K:Act→World→Prop}
 (hK:∀a' w' μ' sE' p',QG d μ0 w0 a0 hend (L.setIfInBounds j true) a' w' μ' sE' p'→sE'.length=(S 0).length→K a' w'):wpOp P ops Q j K a w:=by
 have hjo:j<ops.size:=(Array.getElem?_eq_some_iff.1 ho).1
 have Qk:j<al.length:=by rw[d.len];exact hjo
 obtain⟨x,hx⟩:∃x,al[j]?=some x:=⟨al[j],List.getElem?_eq_getElem Qk⟩
 have hok:=d.ok j o x ho hx
 have aQv:o.dst=x.dst:=by
  unfold okA at hok
  simp only[Bool.and_eq_true,decide_eq_true_eq] at hok
  exact hok.1.1
 have hdc:DC ops fun i=>i=j∨L.getD i false=true:=by
  intro k o' ho' hk e he hb
  rcases hk with rfl|hk
  ·rw[ho] at ho';injection ho' with ho';subst ho'
   exact .inr (aTL e he hb)
  ·exact .inr (v.dc k o' ho' hk e he hb)
 have nV:∀i,((L.setIfInBounds j true).getD i false=true)↔(i=j∨L.getD i false=true):=fun i=>aPO L j i (by rw[v.size];exact hjo)
 have hag:=v.ate hx hj hdc
 have nM:=d.run j x hx
 have aPv:=d.atd hx
 have finish:∀(v':Value) (μ':Mu) (w':World) (p':Nat),cU μ' (dD w') (V j) v'→bN μ' (dD w') sE a.tmps.toList→p'≤al.length→
  (∀y,al[p']?=some y→abM y∧¬(p'=j∨L.getD p' false=true))→(∀(i:Nat) y,i<p'→al[i]?=some y→abM y→(i=j∨L.getD i false=true))→
  cJ fl base aA μ0 (H 0) w0 μ' (H p') w'→(∀i,i<al.length→i≠j→¬L.getD i false=true→iU μ' (H i).next (H (i+1)).next)→iU μ' (H al.length).next hend→aA≤w'.heap.size→
  K (a.put o.dst v') w':=by
  intro v' μ' w' p' hv ht a5z a6c a6o axm hfr hfe hr
  refine hK _ _ μ' (tA sE x.dst (V j)) p' {size:=by simp[v.size],dc:=?_,dfr:=?_,t:=?_,cut:=?_,ple:=a5z,pat:=?_,plt:=?_,post:=axm,fresh:=?_,ahv:=hfe,hr:=hr} ?_
  ·intro k o' ho' hk e he hb
   rw[nV] at hk ⊢
   exact hdc k o' ho' hk e he hb
  ·rw[put_defers];exact v.dfr
  ·rw[aQv];exact ata ht hv _
  ·intro t
   obtain⟨m,h1,h2,h3,h4⟩:=v.aXB hx hj hlen hdc t
   exact⟨m,h1,fun i y hy hyd hi=>h2 i y hy hyd ((nV i).1 hi),fun i y hy hyd hi=>h3 i y hy hyd fun h=>hi ((nV i).2 h),h4⟩
  ·intro y hy
   obtain⟨h1,h2⟩:=a6c y hy
   exact⟨h1,fun h=>h2 ((nV p').1 h)⟩
  ·intro i y hi hy Iu
   exact(nV i).2 (a6o i y hi hy Iu)
  ·intro i hi hn
   have hn':¬(i=j∨L.getD i false=true):=fun h=>hn ((nV i).2 h)
   exact hfr i hi (fun h=>hn' (.inl h)) (fun h=>hn' (.inr h))
  ·cases x.dst<;>simp[tA,hlen]
 by_cases ap5:cm j
 ·
   have hHp:=(d.calm j x hx ap5).1
   have hV:EP C fl x sE (H p)=some (V j,H p):=by
    rw[agD hag];exact(d.calm j x hx ap5).2 p v.ple fl
   have aR9:=d.flH v.ple
   have c:Ctx (iV x fl (H p)) base aA μ (H p) w sE a:=⟨v.post.gd,Nat.le_trans d.hb (tB aR9),abI aR9,v.hr,v.t⟩
   refine ER d.hC ho hok c hV (fun b h1 h2=>by omega) fun v' μ' w' hp hv=>?_
   have kf:μ'=μ:=funext fun b=>hp.mu b (by omega)
   subst kf
   have hp':=hp.floor (tB (o:=x) aR9)
   refine finish v' μ' w' p hv (hp.axB v.post.gd (fun b h1 h2=>by omega) v.t) v.ple ?_ ?_ (v.post.trans hp' (Nat.le_refl _)) ?_ v.ahv (Nat.le_trans v.hr hp.hs)
   ·intro y hy
    obtain⟨h1,h2⟩:=v.pat y hy
    refine⟨h1,fun h=>?_⟩
    rcases h with h|h
    ·subst h;exact d.asK _ y hy h1 ap5
    ·exact h2 h
   ·intro i y hi hy Iu;exact .inr (v.plt i y hi hy Iu)
   ·intro i hi _ hn;exact v.fresh i hi hn
 ·have hpf:¬cm j:=ap5
  have a4U:x.op.pure=false:=by cases hxp:x.op.pure with|false=>rfl|true=>exact absurd (d.aFH j x hx hxp) ap5
  have hV:EP C fl x sE (H j)=some (V j,H (j+1)):=by rw[agD hag];exact nM.1
  have hfj:iU μ (H j).next (H (j+1)).next:=v.fresh j Qk hj
  by_cases Iu:x.YC=true
  ·
    have hpj:p=j:=by
     rcases Nat.lt_trichotomy p j with h|h|h
     ·obtain⟨y,hy⟩:∃y,al[p]?=some y:=⟨al[p],List.getElem?_eq_getElem (by omega)⟩
      obtain⟨h1,h2⟩:=v.pat y hy
      have:=d.ord _ hdc p j y x h hy hx (vv (d.asK _ y hy h1) hpf (.inr Iu)) (.inl rfl)
      rcases this with h3|h3
      ·omega
      ·exact absurd h3 h2
     ·exact h
     ·exact absurd (v.plt j x h hx ⟨a4U,Iu⟩) hj
    subst hpj
    have aez:iV x fl (H p)=fl:=by unfold iV;rw[if_pos Iu]
    have c:Ctx (iV x fl (H p)) base aA μ (H p) w sE a:=by rw[aez];exact⟨v.post.gd,d.hb,d.flH v.ple,v.hr,v.t⟩
    refine ER d.hC ho hok c hV hfj fun v' μ' w' hp hv=>?_
    rw[aez] at hp
    obtain⟨p',q1,q2,q3,q4⟩:=QF al (al.length-(p+1)) (p+1) (by omega)
    have aO9:∀(i:Nat) y,p<i→al[i]?=some y→¬cm i→¬L.getD i false=true:=fun i y hi hy hyp hL=>
     hj (d.ord _ v.dc p i x y hi hx hy (vv hpf hyp (.inl Iu)) hL)
    have hfi:∀i,i<al.length→i≠p→¬L.getD i false=true→iU μ' (H i).next (H (i+1)).next:=by
     intro i hi lZ hn b Iv nY
     have aqc:¬((H p).next≤b∧b<(H (p+1)).next):=by
      rcases Nat.lt_or_ge i p with h|h
      ·have:=d.mono (i:=i+1) (j:=p) (by omega) (by omega);omega
      ·have:=d.mono (i:=p+1) (j:=i) (by omega) (by omega);omega
     rw[hp.mu b aqc];exact v.fresh i hi hn b Iv nY
    have a9g:iU μ' (H (p+1)).next (H p').next:=by
     refine d.abN q1 q2 fun k k1 k2=>?_
     obtain⟨y,hy⟩:∃y,al[k]?=some y:=⟨al[k],List.getElem?_eq_getElem (by omega)⟩
     by_cases hyp:cm k
     ·rw[(d.calm k y hy hyp).1];intro b Iv nY;omega
     ·exact hfi k (by omega) (by omega) (aO9 k y (by omega) hy hyp)
    have hg:cJ fl base aA μ' (H (p+1)) w' μ' (H p') w':=cJ.ahF hp.gd (d.quiet q1 q2 fun k y k1 k2 hy=>q4 k y k1 k2 hy) (d.wf q2) a9g
    refine finish v' μ' w' p' hv (hp.axB v.post.gd hfj v.t) q2 ?_ ?_ (v.post.trans (hp.trans hg (Nat.le_refl _)) (Nat.le_refl _)) hfi ?_ (Nat.le_trans v.hr hp.hs)
    ·intro y hy
     refine⟨q3 y hy,fun h=>?_⟩
     rcases h with h|h
     ·omega
     ·exact aO9 p' y (by omega) hy (d.asK _ y hy (q3 y hy)) h
    ·intro i y hi hy hyi
     rcases Nat.lt_trichotomy i p with h|h|h
     ·exact .inr (v.plt i y h hy hyi)
     ·exact .inl h
     ·exact absurd hyi (q4 i y (by omega) hi hy)
    ·intro b Iv nY
     have:=d.mono (i:=p+1) (j:=al.length) (by omega) (by omega)
     rw[hp.mu b (by omega)];exact v.ahv b Iv nY
  ·
    have aPd:x.YC=false:=by simpa using Iu
    have hjp:j<p:=by
     rcases Nat.lt_trichotomy p j with h|h|h
     ·obtain⟨y,hy⟩:∃y,al[p]?=some y:=⟨al[p],List.getElem?_eq_getElem (by omega)⟩
      obtain⟨h1,h2⟩:=v.pat y hy
      have:=d.ord _ hdc p j y x h hy hx (vv (d.asK _ y hy h1) hpf (.inl h1.2)) (.inl rfl)
      rcases this with h3|h3
      ·omega
      ·exact absurd h3 h2
     ·subst h
      obtain⟨h1,_⟩:=v.pat x hx
      have h3:=h1.2;rw[aPd] at h3;cases h3
     ·exact h
    have aGi:∀(k:Nat) y,j≤k→k<p→al[k]?=some y→¬abM y:=by
     intro k y h1 h2 hy hyi
     have hL:=v.plt k y h2 hy hyi
     rcases Nat.lt_or_ge j k with h3|h3
     ·exact hj (d.ord _ v.dc j k x y h3 hx hy (vv hpf (d.asK _ y hy hyi) (.inr hyi.2)) hL)
     ·have:k=j:=by omega
      subst this;exact hj hL
    have stj:cj (H j).next (H j) (H p):=d.quiet (by omega) v.ple aGi
    have a7H:cj (H (j+1)).next (H (j+1)) (H p):=d.quiet (by omega) v.ple fun k y h1 h2 hy=>aGi k y (by omega) h2 hy
    have sj:Dd base aA μ (H j) w:=v.post.gd.aGS stj (d.wf (by omega))
    have aez:iV x fl (H j)=(H j).next:=by unfold iV;rw[aPd];rfl
    have a41:=d.flH (i:=j) (by omega)
    have c:Ctx (iV x fl (H j)) base aA μ (H j) w sE a:=by rw[aez];exact⟨sj,Nat.le_trans d.hb a41,Nat.le_refl _,v.hr,v.t⟩
    refine ER d.hC ho hok c hV hfj fun v' μ' w' hp hv=>?_
    rw[aez] at hp
    have hm:=cJ.merge v.post hp sj hfj a7H stj (d.mono (Nat.zero_le _) (by omega))
    refine finish v' μ' w' p hv (hp.axB sj hfj v.t) v.ple ?_ ?_ hm ?_ ?_ (Nat.le_trans v.hr hp.hs)
    ·intro y hy
     obtain⟨h1,h2⟩:=v.pat y hy
     refine⟨h1,fun h=>?_⟩
     rcases h with h|h
     ·omega
     ·exact h2 h
    ·intro i y hi hy hyi;exact .inr (v.plt i y hi hy hyi)
    ·intro i hi lZ hn b Iv nY
     have aqc:¬((H j).next≤b∧b<(H (j+1)).next):=by
      rcases Nat.lt_or_ge i j with h|h
      ·have:=d.mono (i:=i+1) (j:=j) (by omega) (by omega);omega
      ·have:=d.mono (i:=j+1) (j:=i) (by omega) (by omega);omega
     rw[hp.mu b aqc];exact v.fresh i hi hn b Iv nY
    ·intro b Iv nY
     have:=d.mono (i:=j+1) (j:=al.length) (by omega) (by omega)
     rw[hp.mu b (by omega)];exact v.ahv b Iv nY
def left(L:Array Bool):Nat:=L.toList.countP (fun b=>!b)
theorem aBc{L:Array Bool}{j:Nat}(hj:j<L.size)(h:¬L.getD j false=true):left (L.setIfInBounds j true)+1=left L:=by
 unfold left
 rw[Array.toList_setIfInBounds]
 have hl:j<L.toList.length:=by simpa using hj
 have hf:L.toList[j]=false:=by
  have:L.getD j false=false:=by simpa using h
  rw[Array.getD_eq_getD_getElem?,Array.getElem?_eq_getElem hj] at this
  simpa using this
 have h1:=List.countP_set (p:=fun b=>!b) (l:=L.toList) (a:=true) hl
 rw[hf] at h1
 have aUh:0<L.toList.countP (fun b=>!b):=by
  rw[List.countP_pos_iff]
  exact⟨L.toList[j],List.getElem_mem hl,by rw[hf];rfl⟩
 simp only[Bool.not_false,Bool.not_true,if_true,Bool.false_eq_true,if_false,Nat.add_zero] at h1
 omega
theorem axG{L:Array Bool}(h:left L=0){i:Nat}(hi:i<L.size):L.getD i false=true:=by
 unfold left at h
 rw[List.countP_eq_zero] at h
 have hl:i<L.toList.length:=by simpa using hi
 have:=h L.toList[i] (List.getElem_mem hl)
 simp at this
 rw[Array.getD_eq_getD_getElem?,Array.getElem?_eq_getElem hi]
 simpa using this
theorem mem_ready{L:Array Bool}{i:Nat}(h:i∈Region.ready .any ops L):∃o,ops[i]?=some o∧(i<L.size→¬L.getD i false=true)∧∀e∈o.after.toList,Region.binds .any e=true→L.getD e.on false=true:=by
 unfold Region.ready at h
 rw[List.mem_filter] at h
 obtain⟨h1,h2⟩:=h
 simp only[List.mem_range] at h1
 simp only[Bool.and_eq_true,Bool.not_eq_true'] at h2
 have ho:ops[i]?=some ops[i]:=Array.getElem?_eq_getElem h1
 refine⟨ops[i],ho,fun hi=>?_,?_⟩
 ·have:=h2.1
  rw[Array.getD_eq_getD_getElem?,Array.getElem?_eq_getElem hi] at this ⊢
  simp at this ⊢;exact this
 ·have h3:=h2.2
  rw[ho] at h3
  simp only[Option.map_some,Option.getD_some,Array.all_eq_true_iff_forall_mem] at h3
  intro e he hb
  have:=h3 e (by simpa using he)
  simp only[Bool.or_eq_true,Bool.not_eq_true'] at this
  rcases this with h4|h4
  ·rw[hb] at h4;cases h4
  ·exact h4
theorem axH(d:DR P C fl base aA ops al S H V cm){L:Array Bool}(hs:L.size=ops.size)(h:Region.ready .any ops L=[]):∀i,i<ops.size→L.getD i false=true:=by
 intro i
 induction i using Nat.strongRecOn with
 |ind i ih=>
  intro hi
  have ho:ops[i]?=some ops[i]:=Array.getElem?_eq_getElem hi
  have hn:¬i∈Region.ready .any ops L:=by rw[h];simp
  unfold Region.ready at hn
  rw[List.mem_filter] at hn
  simp only[List.mem_range,hi,true_and,Bool.and_eq_true,Bool.not_eq_true',not_and] at hn
  by_cases hL:L.getD i true=false
  ·have h2:=hn hL
   rw[ho] at h2
   simp only[Option.map_some,Option.getD_some] at h2
   exfalso
   apply h2
   rw[Array.all_eq_true_iff_forall_mem]
   intro e he
   simp only[Bool.or_eq_true,Bool.not_eq_true']
   by_cases hb:Region.binds .any e=true
   ·right
    have:=d.aQp i _ ho e (by simpa using he) hb
    exact ih e.on this (by omega)
   ·left;simpa using hb
  ·have:L.getD i true=true:=by simpa using hL
   rw[Array.getD_eq_getD_getElem?,Array.getElem?_eq_getElem (by omega)] at this ⊢
   simpa using this
theorem ali{Q:Exit→Act→World→Prop}(hQ:∀a' w' μ',bN μ' (dD w') (S al.length) a'.tmps.toList→a'.defers=a0.defers→cJ fl base aA μ0 (H 0) w0 μ' (H al.length) w'→Q .normal a' w'):
 ∀(fuel:Nat) (L:Array Bool) (a:Act) (w:World) (μ:Mu) (sE:List Value) (p:Nat),QG d μ0 w0 a0 hend L a w μ sE p→sE.length=(S 0).length→left L≤fuel→wpAny P .any ops Q fuel L a w:=by
 have done:∀(L:Array Bool) (a:Act) (w:World) (μ:Mu) (sE:List Value) (p:Nat),QG d μ0 w0 a0 hend L a w μ sE p→sE.length=(S 0).length→(∀i,i<ops.size→L.getD i false=true)→Q .normal a w:=by
  intro L a w μ sE p v hlen akU
  have hp:p=al.length:=by
   rcases Nat.lt_or_ge p al.length with h|h
   ·obtain⟨y,hy⟩:∃y,al[p]?=some y:=⟨al[p],List.getElem?_eq_getElem h⟩
    exact absurd (akU p (by rw[←d.len];exact h)) (v.pat y hy).2
   ·exact Nat.le_antisymm v.ple h
  have hse:sE=S al.length:=by
   apply List.ext_getElem?
   intro t
   obtain⟨m,h1,h2,h3,h4⟩:=v.cut t
   rw[h4]
   refine QH d t h1 (Nat.le_refl _) fun i x hi1 hi2 hx hd=>?_
   have:=h2 i x hx hd (akU i (by rw[←d.len];exact hi2))
   omega
  have ht:=v.t
  rw[hse] at ht
  have axm:=v.post
  rw[hp] at axm
  exact hQ a w μ ht v.dfr axm
 intro fuel
 induction fuel with
 |zero=>
  intro L a w μ sE p v hlen hle
  have akU:∀i,i<ops.size→L.getD i false=true:=fun i hi=>axG (by omega) (by rw[v.size];exact hi)
  refine⟨?_,done L a w μ sE p v hlen akU⟩
  cases hr:Region.ready .any ops L with
  |nil=>rfl
  |cons i l=>
   obtain⟨o,ho,h1,_⟩:=mem_ready (ops:=ops) (L:=L) (i:=i) (by rw[hr];simp)
   have hi:i<ops.size:=(Array.getElem?_eq_some_iff.1 ho).1
   exact absurd (akU i hi) (h1 (by rw[v.size];exact hi))
 |succ fuel ih=>
  intro L a w μ sE p v hlen hle
  refine⟨fun hr=>done L a w μ sE p v hlen (axH d v.size hr),fun i hi=>?_⟩
  obtain⟨o,ho,h1,h2⟩:=mem_ready hi
  have his:i<ops.size:=(Array.getElem?_eq_some_iff.1 ho).1
  have hiL:i<L.size:=by rw[v.size];exact his
  refine v.step hlen ho (h1 hiL) h2 fun a' w' μ' sE' p' v' hlen'=>?_
  have:=aBc hiL (h1 hiL)
  exact ih _ a' w' μ' sE' p' v' hlen' (by omega)
end
end Go.Abs
end
section
namespace Go.Abs
def iJ(P:Program):Code→aa→Bool
 |.skip,.skip=>true
 |.seq a b,.seq x y=>iJ P a x&&iJ P b y
 |.cond c a b,.cond c' x y=>dx c c'&&(iJ P a x&&iJ P b y)
 |.block i a,.block j x=>i==j&&iJ P a x
 |.loop a,.loop x=>iJ P a x
 |.exit i,.exit j=>i==j
 |.exit i,.seq (.region [] _) (.exit j)=>i==j
 |.ret,.ret=>true
 |.ret,.seq (.region [] _) .ret=>true
 |.skip,.region [] _=>true
 |.region _ ops draw,.region al _=>al.all aqW&&(iW P ops ops.toList (flat al)&&(!draw||aqX ops (flat al)))
 |_,_=>false
def aBd:EM→Exit
 |.normal=>.normal
 |.exit i=>.exit i
 |.ret=>.ret
section
variable{P:Program}{C:Callee}{fl base aA:Nat}
theorem IH{ops:Array Oper}:∀{l:List Oper} {al:List cw},iW P ops l al=true→al.length=l.length
 |[],[],_=>rfl
 |o::os,x::xs,h=>by
  simp only[iW,Bool.and_eq_true] at h
  simp[IH h.2]
 |[],_::_,h=>by simp[iW] at h
 |_::_,[],h=>by simp[iW] at h
theorem MV{ops:Array Oper}:∀{l:List Oper} {al:List cw},iW P ops l al=true→∀(i:Nat) o x,l[i]?=some o→al[i]?=some x→okA P ops o x=true
 |[],[],_,i,o,x,h,_=>by simp at h
 |o::os,x::xs,h,i,o',x',ho,hx=>by
  simp only[iW,Bool.and_eq_true] at h
  cases i with
  |zero=>simp at ho hx;subst ho;subst hx;exact h.1
  |succ i=>exact MV h.2 i o' x' (by simpa using ho) (by simpa using hx)
 |[],_::_,h,_,_,_,_,_=>by simp[iW] at h
 |_::_,[],h,_,_,_,_,_=>by simp[iW] at h
structure Good(fl base aA hend:Nat)(μ0:Mu)(h0:AH)(w0:World)(μ:Mu)(h:AH)(w:World)(s:List Value)(a:Act):Prop where
 post:cJ fl base aA μ0 h0 w0 μ h w
 ctx:Ctx fl base aA μ h w s a
 dfr:a.defers=[]
 fresh:iU μ h.next hend
variable{hend:Nat}{μ0:Mu}{h0:AH}{w0:World}
theorem Good.next{R:Type}{r:R}{μ μ' h h' w w' s s'}{a a':Act}(g:Good fl base aA hend μ0 h0 w0 μ h w s a)(p:cJ fl base aA μ h w μ' h' w')(t:bN μ' (dD w') s' a'.tmps.toList)(hd:a'.defers=a.defers):Good fl base aA hend μ0 h0 w0 μ' h' w' s' a':=
 ⟨g.post.trans p (Nat.le_refl _),⟨p.gd,g.ctx.hb,Nat.le_trans g.ctx.bR p.nx,Nat.le_trans g.ctx.hr p.hs,t⟩,by rw[hd,g.dfr],p.fresh g.fresh⟩
theorem II{μ sz}:∀(ts:List Nat) {s l:List Value},bN μ sz s l→bN μ sz (Qq ts s) l
 |[],_,_,h=>h
 |t::ts,s,l,h=>by
  refine II ts ?_
  refine bN.aqP (by simp[h.1]) fun i v hv=>?_
  rw[List.getElem?_set] at hv
  by_cases e:t=i
  ·simp only[e,if_true] at hv
   split at hv
   ·rename_i hlt
    injection hv with hv;subst hv
    exact⟨l[i]'(by have:=h.1;omega),List.getElem?_eq_getElem _,.xU _⟩
   ·cases hv
  ·simp only[e,if_false] at hv
   exact h.get hv
theorem alj{R:Type}{r:R}(hC:gF P C)(hm:P.follows .mixedOrders=true){id:Nat}{ops:Array Oper}{al:List cw}(ok1:iW P ops ops.toList al=true)(ok2:aqX ops al=true)
 {K:List Value→AH→Option R} (hK:∀s h,K s h=some r→h.next≤hend) {s:List Value} {h:AH} {a:Act} {w:World} {μ:Mu} {Q:Exit→Act→World→Prop} (e:sX C fl al s h K=some r)
 (g:Good fl base aA hend μ0 h0 w0 μ h w s a) (hQ:∀s' h' a' w' μ',K s' h'=some r→Good fl base aA hend μ0 h0 w0 μ' h' w' s' a'→Q .normal a' w'):(Code.region id ops true).wp P Q a w:=by
 obtain⟨S,H,V,s0,e0,nM,hk⟩:=ahE e
 unfold aqX at ok2
 simp only[Bool.and_eq_true] at ok2
 have hl:=IH ok1
 have hlen:al.length=ops.size:=by rw[hl];simp
 have d:DR P C fl base aA ops al S H V (fun i=>∃x,al[i]?=some x∧x.op.pure=true):={
  hC:=hC,len:=hlen
  ok:=fun i o x ho hx=>MV ok1 i o x (by simpa using ho) hx
  aQp:=fun i o ho e he hb=>by
   have:=EU ok2.1 i o (by simpa using ho) e he hb
   omega
  ord:=fun E hE i j x y hij hx hy hmo hEj=>by
   have a4Z:Di x y=true:=by
    have h0:Di x y=(J0 x y||(!x.op.pure&&!y.op.pure&&(x.YC||y.YC))):=rfl
    rw[h0]
    rcases hmo with hd|⟨h1,h2,h3⟩
    ·rw[hd];rfl
    ·have p1:x.op.pure=false:=by cases hxp:x.op.pure with|false=>rfl|true=>exact absurd ⟨x,hx,hxp⟩ h1
     have p2:y.op.pure=false:=by cases hyp:y.op.pure with|false=>rfl|true=>exact absurd ⟨y,hy,hyp⟩ h2
     rw[p1,p2]
     rcases h3 with h3|h3<;>simp[h3]
   have h1:=QE ok2.2 i j x y hij hx hy a4Z
   rw[Nat.zero_add] at h1
   refine Uk (E:=E) ops.toList [] (fun j i hb=>by simp at hb) (fun j o ho hj=>?_) j i h1 hEj
   exact hE j o (by simpa using ho) (by simpa using hj)
  run:=nM
  fl0:=by rw[e0];exact g.ctx.bR
  wf0:=by rw[e0];exact g.ctx.gd.bnd
  hb:=g.ctx.hb
  calm:=fun j x hx hc=>by
   obtain⟨y,hy,hp⟩:=hc
   rw[hx] at hy;injection hy with hy;subst hy
   have:=abL hp (nM j x hx).1
   exact⟨this.1,fun p _ f=>this.2 f (H p)⟩
  aFH:=fun j x hx hp=>⟨x,hx,hp⟩
  asK:=fun j x hx hi hc=>by
   obtain⟨y,hy,hp⟩:=hc
   rw[hx] at hy;injection hy with hy;subst hy
   rw[hi.1] at hp;cases hp}
 refine wp_region_any hm ?_
 have p1:cJ fl base aA μ h w μ h {w with drawn:=w.drawn+1}:=cJ.heap g.ctx.gd rfl rfl rfl rfl
 obtain⟨p,q1,q2,q3,q4⟩:=QF al al.length 0 (by omega)
 have hq:=d.quiet (i:=0) q1 q2 fun k y k1 k2 hy=>q4 k y k1 k2 hy
 have aqa:(H al.length).next≤hend:=hK _ _ hk
 have hfr:iU μ (H 0).next hend:=by rw[e0];exact g.fresh
 have aGk:Dd base aA μ (H 0) {w with drawn:=w.drawn+1}:=by rw[e0];exact p1.gd
 have hg:cJ fl base aA μ (H 0) {w with drawn:=w.drawn+1} μ (H p) {w with drawn:=w.drawn+1}:=
  cJ.ahF aGk hq (d.wf q2) (hfr.sub (Nat.le_refl _) (Nat.le_trans (d.mono (i:=p) (j:=al.length) q2 (Nat.le_refl _)) aqa))
 have p1':cJ fl base aA μ (H 0) w μ (H 0) {w with drawn:=w.drawn+1}:=by rw[e0];exact p1
 have hL:∀i,¬(Array.replicate ops.size false).getD i false=true:=by
  intro i
  rw[Array.getD_eq_getD_getElem?,Array.getElem?_replicate]
  split<;>simp
 have v:QG d μ w a hend (Array.replicate ops.size false) a {w with drawn:=w.drawn+1} μ s p:={
  size:=by simp
  dc:=fun k o _ hk=>absurd hk (hL k)
  dfr:=rfl
  t:=p1.axB g.ctx.gd (fun b h1 h2=>by omega) g.ctx.t
  cut:=fun t=>⟨0,Nat.zero_le _,fun i x _ _ hi=>absurd hi (hL i),fun i x _ _ _=>Nat.zero_le _,by rw[s0]⟩
  ple:=q2
  pat:=fun x hx=>⟨q3 x hx,hL p⟩
  plt:=fun i x hi hx Iu=>absurd Iu (q4 i x (Nat.zero_le _) hi hx)
  post:=p1'.trans hg (Nat.le_refl _)
  fresh:=fun i hi _=>hfr.sub (d.mono (i:=0) (j:=i) (Nat.zero_le _) (by omega)) (Nat.le_trans (d.mono (i:=i+1) (j:=al.length) (by omega) (Nat.le_refl _)) aqa)
  ahv:=hfr.sub (d.mono (i:=0) (j:=al.length) (Nat.zero_le _) (Nat.le_refl _)) (Nat.le_refl _)
  hr:=g.ctx.hr}
 refine ali (d:=d) (μ0:=μ) (w0:=w) (a0:=a) (hend:=hend) (fun a' w' μ' ht hd hp=>?_) ops.size _ a _ μ s p v (by rw[s0]) ?_
 ·rw[e0] at hp
  exact hQ _ _ a' w' μ' hk (g.next (r:=r) hp ht hd)
 ·unfold left
  exact Nat.le_trans List.countP_le_length (by simp)
theorem cj.any{fl:Nat}{h h1:AH}(a:cj h.next h h1):cj fl h h1:=⟨a.1,fun b hb _=>a.2.1 b hb hb,a.2.2⟩
theorem alk{C:Callee}(hC:CAbs C){fl}{o:cw}{s h v h1}(e:dw C (if o.YC=true then fl else h.next) s h o.op K0=some (v,h1)):cj fl h h1:=by
 have:=abG hC e
 split at this
 ·exact this
 ·exact this.any
theorem Ul{R:Type}{r:R}{C:Callee}(hC:CAbs C){fl:Nat}:∀{os:List cw} {s h} {K:List Value→AH→Option R},Ud C fl os s h K=some r→∃s' h',cj fl h h'∧K s' h'=some r
 |[],s,h,K,e=>⟨s,h,cj.refl _ _,e⟩
 |o::os,s,h,K,e=>by
  simp only[Ud] at e
  obtain⟨v,h1,g1,g2⟩:=mV e
  obtain⟨s',h',a2,g3⟩:=Ul hC g2
  exact⟨s',h',(alk hC g1).trans a2 (Nat.le_refl _),g3⟩
theorem zE{R:Type}{r:R}{C:Callee}(hC:CAbs C){fl:Nat}:∀{is:List jH} {s h} {K:List Value→AH→Option R},Ix C fl is s h K=some r→∃s' h',cj fl h h'∧K s' h'=some r
 |[],s,h,K,e=>⟨s,h,cj.refl _ _,e⟩
 |.op o::is,s,h,K,e=>by
  simp only[Ix] at e
  obtain⟨v,h1,g1,g2⟩:=mV e
  obtain⟨s',h',a2,g3⟩:=zE hC g2
  exact⟨s',h',(alk hC g1).trans a2 (Nat.le_refl _),g3⟩
 |.gL g want os::is,s,h,K,e=>by
  simp only[Ix] at e
  rcases zP e with⟨b,hb,e⟩|⟨x,y,hb,e⟩
  case inr=>exact zE hC e
  split at e
  ·obtain⟨s1,h1,a1,e⟩:=Ul hC e
   obtain⟨s',h',a2,g3⟩:=zE hC e
   exact⟨s',h',a1.trans a2 (Nat.le_refl _),g3⟩
  ·exact zE hC e
theorem mf{R:Type}{r:R}(hC:CAbs C){k:Nat}:∀(ac:aa) {s:List Value} {h:AH} {K:EM→List Value→AH→Option R},cE C fl k ac s h K=some r→∃f s' h',h.next≤h'.next∧K f s' h'=some r
 |.skip,s,h,K,e=>⟨.normal,s,h,Nat.le_refl _,e⟩
 |.exit id,s,h,K,e=>⟨.exit id,s,h,Nat.le_refl _,e⟩
 |.ret,s,h,K,e=>⟨.ret,s,h,Nat.le_refl _,e⟩
 |.seq x y,s,h,K,e=>by
  simp only[cE] at e
  obtain⟨f,s',h',h1,e⟩:=mf hC x e
  cases f with
  |normal=>
   obtain⟨f2,s2,h2,h3,e2⟩:=mf hC y e
   exact⟨f2,s2,h2,Nat.le_trans h1 h3,e2⟩
  |exit i=>exact⟨_,s',h',h1,e⟩
  |ret=>exact⟨_,s',h',h1,e⟩
 |.cond c x y,s,h,K,e=>by
  simp only[cE] at e
  obtain⟨t,_,e⟩:=cI e
  split at e
  ·exact mf hC x e
  ·exact mf hC y e
 |.block id x,s,h,K,e=>by
  simp only[cE] at e
  obtain⟨f,s',h',h1,e⟩:=mf hC x e
  cases f with
  |normal=>exact⟨_,s',h',h1,e⟩
  |exit i=>
   simp only at e
   split at e
   ·exact⟨_,s',h',h1,e⟩
   ·exact⟨_,s',h',h1,e⟩
  |ret=>exact⟨_,s',h',h1,e⟩
 |.loop x,s,h,K,e=>by
  simp only[cE] at e
  have key:∀(n:Nat) (s:List Value) (h:AH),aQ n (fun s h next=>cE C fl k x s h fun f s h=>match f with
   |.normal=>next s h
   |.exit i=>K (.exit i) s h
   |.ret=>K .ret s h) s h=some r→∃f s' h',h.next≤h'.next∧K f s' h'=some r:=by
   intro n
   induction n with
   |zero=>intro s h e;simp[aQ] at e
   |succ n ih=>
    intro s h e
    simp only[aQ] at e
    obtain⟨f,s',h',h1,e⟩:=mf hC x e
    cases f with
    |normal=>
     obtain⟨f2,s2,h2,h3,e2⟩:=ih s' h' e
     exact⟨f2,s2,h2,Nat.le_trans h1 h3,e2⟩
    |exit i=>exact⟨_,s',h',h1,e⟩
    |ret=>exact⟨_,s',h',h1,e⟩
  exact key k s h e
 |.region al kill,s,h,K,e=>by
  simp only[cE] at e
  obtain⟨s',h',q1,q2⟩:=zE hC e
  exact⟨.normal,_,h',q1.1,q2⟩
theorem aqY{R:Type}{r:R}(hC:gF P C)(hm:P.follows .mixedOrders=true){k:Nat}:∀(code:Code) (ac:aa),iJ P code ac=true→
 ∀{K:EM→List Value→AH→Option R} {Q:Exit→Act→World→Prop},(∀f s h,K f s h=some r→h.next≤hend)→
 ∀(s:List Value) (h:AH) (a:Act) (w:World) (μ:Mu),cE C fl k ac s h K=some r→Good fl base aA hend μ0 h0 w0 μ h w s a→
 (∀f s' h' a' w' μ',K f s' h'=some r→Good fl base aA hend μ0 h0 w0 μ' h' w' s' a'→Q (aBd f) a' w')→code.wp P Q a w:=by
 intro code
 induction code with
 |skip=>
  intro ac ok K Q hK s h a w μ e g hQ
  cases ac<;>try (simp only[iJ,Bool.false_eq_true] at ok;done)
  ·exact wp_skip (hQ .normal s h a w μ e g)
  ·rename_i al kill
   cases al with
   |nil=>exact wp_skip (hQ .normal _ h a w μ e ⟨g.post,⟨g.ctx.gd,g.ctx.hb,g.ctx.bR,g.ctx.hr,II kill g.ctx.t⟩,g.dfr,g.fresh⟩)
   |cons x xs=>simp[iJ] at ok
 |exit id=>
  intro ac ok K Q hK s h a w μ e g hQ
  unfold iJ at ok
  split at ok
  all_goals try (rename_i h1;cases h1;done)
  ·rename_i i j h1;cases h1
   simp only[beq_iff_eq] at ok
   subst ok
   exact wp_exit (hQ (.exit _) s h a w μ e g)
  ·rename_i i kill j h1;cases h1
   simp only[beq_iff_eq] at ok
   subst ok
   exact wp_exit (hQ (.exit _) _ h a w μ e ⟨g.post,⟨g.ctx.gd,g.ctx.hb,g.ctx.bR,g.ctx.hr,II kill g.ctx.t⟩,g.dfr,g.fresh⟩)
  ·cases ok
 |ret=>
  intro ac ok K Q hK s h a w μ e g hQ
  unfold iJ at ok
  split at ok
  all_goals try (rename_i h1;cases h1;done)
  ·exact wp_ret (hQ .ret s h a w μ e g)
  ·exact wp_ret (hQ .ret _ h a w μ e ⟨g.post,⟨g.ctx.gd,g.ctx.hb,g.ctx.bR,g.ctx.hr,II _ g.ctx.t⟩,g.dfr,g.fresh⟩)
  ·cases ok
 |seq x y ihx ihy=>
  intro ac ok K Q hK s h a w μ e g hQ
  cases ac<;>simp only[iJ,Bool.false_eq_true,Bool.and_eq_true] at ok
  rename_i x' y'
  simp only[cE] at e
  refine wp_seq (ihx x' ok.1 ?_ s h a w μ e g ?_)
  ·intro f s h e
   cases f with
   |normal=>
    obtain⟨f2,s2,h2,h3,e2⟩:=mf hC.toCAbs y' e
    exact Nat.le_trans h3 (hK _ _ _ e2)
   |exit i=>exact hK _ _ _ e
   |ret=>exact hK _ _ _ e
  ·intro f s' h' a' w' μ' e g'
   cases f with
   |normal=>exact ihy y' ok.2 hK s' h' a' w' μ' e g' hQ
   |exit i=>exact hQ _ _ _ _ _ _ e g'
   |ret=>exact hQ _ _ _ _ _ _ e g'
 |cond c x y ihx ihy=>
  intro ac ok K Q hK s h a w μ e g hQ
  cases ac<;>simp only[iJ,Bool.false_eq_true,Bool.and_eq_true] at ok
  rename_i c' x' y'
  simp only[cE] at e
  obtain⟨t,ht,e⟩:=cI e
  have rr:=bU g.ctx.t ok.1
  rw[ht] at rr
  refine wp_cond (t:=t) rr.xm ?_
  cases t with
  |true=>exact ihx x' ok.2.1 hK s h a w μ (by simpa using e) g hQ
  |false=>exact ihy y' ok.2.2 hK s h a w μ (by simpa using e) g hQ
 |block id x ihx=>
  intro ac ok K Q hK s h a w μ e g hQ
  cases ac<;>simp only[iJ,Bool.false_eq_true,Bool.and_eq_true,beq_iff_eq] at ok
  rename_i id' x'
  obtain⟨rfl,ok⟩:=ok
  simp only[cE] at e
  refine wp_block (ihx x' ok ?_ s h a w μ e g ?_)
  ·intro f s h e
   cases f with
   |normal=>exact hK _ _ _ e
   |exit i=>
    simp only at e
    split at e<;>exact hK _ _ _ e
   |ret=>exact hK _ _ _ e
  ·intro f s' h' a' w' μ' e g'
   cases f with
   |normal=>exact hQ _ _ _ _ _ _ e g'
   |exit i=>
    simp only[aBd,Exit.inBlock]
    simp only at e
    split at e
    ·rename_i hi;rw[if_pos hi];exact hQ _ _ _ _ _ _ e g'
    ·rename_i hi;rw[if_neg hi];exact hQ _ _ _ _ _ _ e g'
   |ret=>exact hQ _ _ _ _ _ _ e g'
 |loop x ihx=>
  intro ac ok K Q hK s h a w μ e g hQ
  cases ac<;>simp only[iJ,Bool.false_eq_true] at ok
  rename_i x'
  simp only[cE] at e
  have hnx:∀(n:Nat) (s:List Value) (h:AH),aQ n (fun s h next=>cE C fl k x' s h fun f s h=>match f with
   |.normal=>next s h
   |.exit i=>K (.exit i) s h
   |.ret=>K .ret s h) s h=some r→h.next≤hend:=by
   intro n
   induction n with
   |zero=>intro s h e;simp[aQ] at e
   |succ n ih=>
    intro s h e
    simp only[aQ] at e
    obtain⟨f,s',h',h1,e⟩:=mf hC.toCAbs x' e
    cases f with
    |normal=>exact Nat.le_trans h1 (ih s' h' e)
    |exit i=>exact Nat.le_trans h1 (hK _ _ _ e)
    |ret=>exact Nat.le_trans h1 (hK _ _ _ e)
  have key:∀(n:Nat) (s:List Value) (h:AH) (a:Act) (w:World) (μ:Mu),aQ n (fun s h next=>cE C fl k x' s h fun f s h=>match f with
   |.normal=>next s h
   |.exit i=>K (.exit i) s h
   |.ret=>K .ret s h) s h=some r→Good fl base aA hend μ0 h0 w0 μ h w s a→Code.rounds P x Q n a w:=by
   intro n
   induction n with
   |zero=>intro s h a w μ e;simp[aQ] at e
   |succ n ih=>
    intro s h a w μ e g
    simp only[aQ] at e
    rw[rounds_succ]
    refine ihx x' ok ?_ s h a w μ e g ?_
    ·intro f s h e
     cases f with
     |normal=>exact hnx n s h e
     |exit i=>exact hK _ _ _ e
     |ret=>exact hK _ _ _ e
    ·intro f s' h' a' w' μ' e g'
     cases f with
     |normal=>exact ih s' h' a' w' μ' e g'
     |exit i=>exact hQ _ _ _ _ _ _ e g'
     |ret=>exact hQ _ _ _ _ _ _ e g'
  exact wp_loop_rounds k (key k s h a w μ e g)
 |region id ops draw=>
  intro ac ok K Q hK s h a w μ e g hQ
  cases ac<;>simp only[iJ,Bool.false_eq_true,Bool.and_eq_true,Bool.or_eq_true,Bool.not_eq_true'] at ok
  rename_i al kill
  obtain⟨okI,ok⟩:=ok
  simp only[cE] at e
  have e:=qH okI e
  have hK':∀s h,K .normal (Qq kill s) h=some r→h.next≤hend:=fun s h=>hK _ _ _
  have aPo:∀{μ' h' w' s'} {a':Act},Good fl base aA hend μ0 h0 w0 μ' h' w' s' a'→Good fl base aA hend μ0 h0 w0 μ' h' w' (Qq kill s') a':=fun g=>
   ⟨g.post,⟨g.ctx.gd,g.ctx.hb,g.ctx.bR,g.ctx.hr,II kill g.ctx.t⟩,g.dfr,g.fresh⟩
  cases draw with
  |true=>
   rcases ok.2 with h1|h1
   ·cases h1
   ·exact alj hC hm ok.1 h1 hK' e g fun s' h' a' w' μ' hk g'=>hQ .normal _ _ _ _ _ hk (aPo g')
  |false=>
   refine wp_region ?_
   have hr:=agB hC hK' (Q:=Q) ops.toList (flat al) 0 (by simp) ok.1 s h a w μ e g.ctx g.fresh fun s' h' a' w' μ' hk hp ht hd=>hQ .normal _ _ _ _ _ hk (aPo (g.next (r:=r) hp ht hd))
   rw[List.range_eq_range']
   simpa using hr
 |rangeFunc f ps x y=>intro ac ok;cases ac<;>simp[iJ] at ok
 |scope x=>intro ac ok;cases ac<;>simp[iJ] at ok
 |label l=>intro ac ok;cases ac<;>simp[iJ] at ok
 |goto l=>intro ac ok;cases ac<;>simp[iJ] at ok
 |refuse w=>intro ac ok;cases ac<;>simp[iJ] at ok
end
end Go.Abs
end
section
namespace Go.Abs
def j5(P:Program):List ResultVar→List MT→Bool
 |[],[]=>true
 |.tmp t::rs,.tmp t'::ts=>t==t'&&j5 P rs ts
 |.cell t ty::rs,.cell t' sh::ts=>t==t'&&j5 P rs ts&&(match P.underlying ty with
  |some (.struct _)=>(match sh with|.agg l=>qG P ty l.length|_=>false)
  |some (.array _ _)=>false
  |some _=>(match sh with|.one _=>true|_=>false)
  |none=>false)
 |_,_=>false
def MW(P:Program)(f:FuncId)(af:aK):Bool:=match P.funcs[f]? with
 | some fd => !(fd.name == "runtime.NumGoroutine") && (match fd.body with | some c => iJ P c af.body | none => false) && fd.ntmps == af.ntmps && j5 P fd.results.toList af.results
 |none=>false
theorem EW{R:Type}{r:R}{P:Program}{base aA:Nat}{μ:Mu}{h:AH}{w:World}(sm:Dd base aA μ h w){s:List Value}{tmps:Array Value}(t:bN μ (dD w) s tmps.toList)(g:ResultVar→Sem Value)
 (hg1:∀t,g (.tmp t)=Pure.pure (tmps.getD t undef)) (hg2:∀a ty,g (.cell a ty)=(do loadVar ty (←asAddr (tmps.getD a undef)))):
 ∀(rs:List ResultVar) (ts:List MT) (K:List Value→Option R),j5 P rs ts=true→Ue ts s h K=some r→
  ∃vs Dc:List Value,K vs=some r∧(List.mapM g rs).run P w=.ok Dc w∧bN μ (dD w) vs Dc
 |[],[],K,_,e=>⟨[],[],e,by simp,bN.nil⟩
 |.tmp x::rs,.tmp y::ts,K,ok,e=>by
  simp only[j5,Bool.and_eq_true,beq_iff_eq] at ok
  obtain⟨rfl,ok⟩:=ok
  simp only[Ue] at e
  obtain⟨vs,Dc,h1,h2,h3⟩:=EW sm t g hg1 hg2 rs ts _ ok e
  refine⟨s.getD x undef::vs,tmps.getD x undef::Dc,h1,?_,bN.cons ?_ h3⟩
  ·simp only[List.mapM_cons,hg1,Sem.run_bind,Sem.run_pure,Result.andThen_ok,h2]
  ·have:=abx t x
   simpa [Array.getD_eq_getD_getElem?,List.getD_eq_getElem?_getD] using this
 |.cell x ty::rs,.cell y sh::ts,K,ok,e=>by
  simp only[j5,Bool.and_eq_true,beq_iff_eq] at ok
  obtain⟨⟨rfl,ok⟩,k2⟩:=ok
  simp only[Ue] at e
  obtain⟨p,hp,e⟩:=eL e
  have rr:cU μ (dD w) (s.getD x undef) (tmps.getD x undef):=by
   have:=abx t x
   simpa [Array.getD_eq_getD_getElem?,List.getD_eq_getElem?_getD] using this
  rw[hp] at rr
  obtain⟨rb,ob,m1,m2⟩:=rr.Qu
  split at k2
  ·rename_i fs hu
   split at k2
   ·rename_i l
    obtain⟨i,hi,hsz⟩:=Ug k2
    obtain⟨cs,l1,l2,l3⟩:=zQ e
    obtain⟨fC,g1,g2⟩:=sm.agy m1 cs p.off l2
    obtain⟨vs,Dc,h1,h2,h3⟩:=EW sm t g hg1 hg2 rs ts _ ok l3
    have hl:(loadCells ⟨rb,ob+p.off,none⟩ i.size).run P w=.ok fC.toArray w:=by
     rw[hsz,←l1,g1.1]
     exact run_loadCells_list w _ fC fun j u hu=>by rw[me];exact g2 j u hu
    refine⟨.agg ⟨cs⟩::vs,.agg fC.toArray::Dc,h1,?_,bN.cons (.agg g1.1 g1.2) h3⟩
    simp only[List.mapM_cons,hg2,m2,asAddr,loadVar,isAgg,Sem.run_bind,Sem.run_pure,Result.andThen_ok,run_underlying hu,if_true,gg hi,hl,h2]
   ·cases k2
  ·cases k2
  ·rename_i d hn1 hn2 hu
   split at k2
   ·rename_i s0
    obtain⟨u,g1,g2⟩:=Df e
    obtain⟨u',q1,q2⟩:=sm.load g1 m1
    obtain⟨vs,Dc,h1,h2,h3⟩:=EW sm t g hg1 hg2 rs ts _ ok g2
    have hd:((match d with|.struct _=>Pure.pure true|.array _ _=>Pure.pure true|_=>Pure.pure false):Sem Bool)=Pure.pure false:=by
     cases d<;>first|rfl|(exact absurd rfl (hn1 _))|(exact absurd rfl (hn2 _ _))
    refine⟨u::vs,u'::Dc,h1,?_,bN.cons q2 h3⟩
    simp only[List.mapM_cons,hg2,m2,asAddr,loadVar,isAgg,Sem.run_bind,Sem.run_pure,Result.andThen_ok,run_underlying hu,hd,Bool.false_eq_true,if_false,run_load,q1,h2]
   ·cases k2
  ·cases k2
 |[],_::_,_,ok,_=>by simp[j5] at ok
 |.tmp _::_,[],_,ok,_=>by simp[j5] at ok
 |.cell _ _::_,[],_,ok,_=>by simp[j5] at ok
 |.tmp _::_,.cell _ _::_,_,ok,_=>by simp[j5] at ok
 |.cell _ _::_,.tmp _::_,_,ok,_=>by simp[j5] at ok
theorem Dj{R:Type}{r:R}:∀(ts:List MT) {s:List Value} {h:AH} {K:List Value→Option R},Ue ts s h K=some r→∃vs,K vs=some r
 |[],_,_,_,e=>⟨_,e⟩
 |.tmp x::ts,s,h,K,e=>by
  simp only[Ue] at e
  obtain⟨vs,hv⟩:=Dj ts e
  exact⟨_,hv⟩
 |.cell x sh::ts,s,h,K,e=>by
  simp only[Ue] at e
  obtain⟨p,_,e⟩:=eL e
  cases sh with
  |one s0=>
   obtain⟨u,_,e⟩:=Df e
   obtain⟨vs,hv⟩:=Dj ts e
   exact⟨_,hv⟩
  |agg l=>
   obtain⟨cs,_,_,e⟩:=zQ e
   obtain⟨vs,hv⟩:=Dj ts e
   exact⟨_,hv⟩
theorem aBe{μ sz}{xs ys:List Value}(h:bN μ sz xs ys):cU μ sz (aA3 xs) (if h:(⟨ys⟩:Array Value).size=1 then (⟨ys⟩:Array Value)[0] else .tuple ⟨ys⟩):=by
 cases xs with
 |nil=>
  cases ys with
  |nil=>exact .xU _
  |cons y ys=>have:=h.1;simp at this
 |cons x xs=>
  cases ys with
  |nil=>have:=h.1;simp at this
  |cons y ys=>
   cases xs with
   |nil=>
    cases ys with
    |nil=>exact h.2 0 (by simp) (by simp)
    |cons y' ys=>have:=h.1;simp at this
   |cons x' xs=>
    cases ys with
    |nil=>have:=h.1;simp at this
    |cons y' ys=>
     rw[dif_neg (by simp)]
     exact .tuple h.1 h.2
section
variable{P:Program}{T:FuncId→Option aK}{E:Callee}
theorem aqZ{C:Callee}(hC:gF P C)(hm:P.follows .mixedOrders=true){f:FuncId}{af:aK}(ok:MW P f af=true){fl k:Nat}{args:List Value}{h h1:AH}{v:Value}
 (e:aV C fl k af args h=some (v,h1)) {base aA:Nat} {μ:Mu} {w:World} {args':List Value} (sm:Dd base aA μ h w) (hb:base≤fl) (bR:fl≤h.next) (hr:aA≤w.heap.size)
 (ha:bN μ (dD w) args args') (hf:iU μ h.next h1.next):
 Calls P f args'.toArray w fun e w'=>∃v' μ',e=.returned v'∧cJ fl base aA μ h w μ' h1 w'∧cU μ' (dD w') v v':=by
 unfold MW at ok
 split at ok
 ·rename_i fd hfd
  simp only[Bool.and_eq_true,beq_iff_eq] at ok
  obtain⟨⟨⟨_,k1⟩,k2⟩,k3⟩:=ok
  split at k1
  ·rename_i c hc
   refine calls_of_wp hfd hc ?_
   unfold aV at e
   have ht:bN μ (dD w) (args++List.replicate (af.ntmps-args.length) undef) (args'.toArray++Array.replicate (fd.ntmps-args'.toArray.size) undef).toList:=by
    simp only[Array.toList_append,Array.toList_replicate,List.size_toArray]
    rw[k2,←ha.1]
    refine ha.append ⟨by simp,fun i h1 h2=>?_⟩
    rw[List.getElem_replicate]
    exact .xU _
   have g:Good fl base aA h1.next μ h w μ h w (args++List.replicate (af.ntmps-args.length) undef) {tmps:=args'.toArray++Array.replicate (fd.ntmps-args'.toArray.size) undef,defers:=[]}:=
    ⟨cJ.refl sm,⟨sm,hb,bR,hr,ht⟩,rfl,hf⟩
   have fin:∀{s':List Value} {h':AH} {a':Act} {w':World} {μ':Mu},Ue af.results s' h' (fun vs=>some (aA3 vs,h'))=some (v,h1)→Good fl base aA h1.next μ h w μ' h' w' s' a'→
    ∃v',(results fd a'.tmps).run P w'=.ok v' w'∧∃v'' μ'',Ending.returned v'=.returned v''∧cJ fl base aA μ h w μ'' h1 w'∧cU μ'' (dD w') v v'':=by
    intro s' h' a' w' μ' he g'
    unfold results
    have key:∀(g:ResultVar→Sem Value),(∀t,g (.tmp t)=Pure.pure (a'.tmps.getD t undef))→(∀x ty,g (.cell x ty)=(do loadVar ty (←asAddr (a'.tmps.getD x undef))))→
     ∃v',(do let vs ←fd.results.mapM g;Pure.pure (if h:vs.size=1 then vs[0] else Value.tuple vs):Sem Value).run P w'=.ok v' w'∧cJ fl base aA μ h w μ' h1 w'∧cU μ' (dD w') v v':=by
     intro g hg1 hg2
     obtain⟨vs,Dc,q1,q2,q3⟩:=EW g'.ctx.gd g'.ctx.t g hg1 hg2 fd.results.toList af.results _ k3 he
     simp only[Option.some.injEq,Prod.mk.injEq] at q1
     obtain⟨rfl,rfl⟩:=q1
     refine⟨_,?_,g'.post,aBe q3⟩
     rw[Array.mapM_eq_mapM_toList]
     simp only[Sem.run_bind,Sem.run_map,q2,Result.andThen_ok,Sem.run_pure,List.toArray]
    obtain⟨v',p1,p2,p3⟩:=key (fun x=>match x with|.tmp t=>Pure.pure (a'.tmps.getD t undef)|.cell a t=>do loadVar t (←asAddr (a'.tmps.getD a undef))) (fun t=>rfl) (fun x ty=>rfl)
    exact⟨v',p1,v',μ',rfl,p2,p3⟩
   have aTS:∀{s':List Value} {h':AH},Ue af.results s' h' (fun vs=>some (aA3 vs,h'))=some (v,h1)→h'.next≤h1.next:=by
    intro s' h' he
    obtain⟨vs,hvs⟩:=Dj af.results he
    simp only[Option.some.injEq,Prod.mk.injEq] at hvs
    rw[hvs.2];exact Nat.le_refl _
   refine aqY (r:=(v,h1)) hC hm c af.body k1 (K:=aG af.results) ?_ _ h _ w μ e g ?_
   ·intro f s' h' he
    cases f with
    |normal=>exact aTS he
    |ret=>exact aTS he
    |exit i=>cases he
   ·intro f s' h' a' w' μ' he g'
    cases f with
    |normal=>
     obtain⟨v',p1,v'',μ'',p2⟩:=fin he g'
     exact⟨g'.dfr,v',p1,v'',μ'',p2⟩
    |ret=>
     obtain⟨v',p1,v'',μ'',p2⟩:=fin he g'
     exact⟨g'.dfr,v',p1,v'',μ'',p2⟩
    |exit i=>cases he
  ·cases k1
 ·cases ok
theorem mg{R:Type}{r:R}{C:Callee}(hC:CAbs C){fl k:Nat}:∀(ac:aa) {s:List Value} {h:AH} {K:EM→List Value→AH→Option R},cE C fl k ac s h K=some r→∃f s' h',cj fl h h'∧K f s' h'=some r
 |.skip,s,h,K,e=>⟨.normal,s,h,cj.refl _ _,e⟩
 |.exit id,s,h,K,e=>⟨.exit id,s,h,cj.refl _ _,e⟩
 |.ret,s,h,K,e=>⟨.ret,s,h,cj.refl _ _,e⟩
 |.seq x y,s,h,K,e=>by
  simp only[cE] at e
  obtain⟨f,s',h',h1,e⟩:=mg hC x e
  cases f with
  |normal=>
   obtain⟨f2,s2,h2,h3,e2⟩:=mg hC y e
   exact⟨f2,s2,h2,h1.trans h3 (Nat.le_refl _),e2⟩
  |exit i=>exact⟨_,s',h',h1,e⟩
  |ret=>exact⟨_,s',h',h1,e⟩
 |.cond c x y,s,h,K,e=>by
  simp only[cE] at e
  obtain⟨t,_,e⟩:=cI e
  split at e
  ·exact mg hC x e
  ·exact mg hC y e
 |.block id x,s,h,K,e=>by
  simp only[cE] at e
  obtain⟨f,s',h',h1,e⟩:=mg hC x e
  cases f with
  |normal=>exact⟨_,s',h',h1,e⟩
  |exit i=>
   simp only at e
   split at e
   ·exact⟨_,s',h',h1,e⟩
   ·exact⟨_,s',h',h1,e⟩
  |ret=>exact⟨_,s',h',h1,e⟩
 |.loop x,s,h,K,e=>by
  simp only[cE] at e
  have key:∀(n:Nat) (s:List Value) (h:AH),aQ n (fun s h next=>cE C fl k x s h fun f s h=>match f with
   |.normal=>next s h
   |.exit i=>K (.exit i) s h
   |.ret=>K .ret s h) s h=some r→∃f s' h',cj fl h h'∧K f s' h'=some r:=by
   intro n
   induction n with
   |zero=>intro s h e;simp[aQ] at e
   |succ n ih=>
    intro s h e
    simp only[aQ] at e
    obtain⟨f,s',h',h1,e⟩:=mg hC x e
    cases f with
    |normal=>
     obtain⟨f2,s2,h2,h3,e2⟩:=ih s' h' e
     exact⟨f2,s2,h2,h1.trans h3 (Nat.le_refl _),e2⟩
    |exit i=>exact⟨_,s',h',h1,e⟩
    |ret=>exact⟨_,s',h',h1,e⟩
  exact key k s h e
 |.region al kill,s,h,K,e=>by
  simp only[cE] at e
  obtain⟨s',h',q1,q2⟩:=zE (K:=fun s h=>K .normal (Qq kill s) h) hC e
  exact⟨.normal,_,h',q1,q2⟩
theorem BO(hm:P.follows .mixedOrders=true)(hE:gF P E)(hT:∀f af,T f=some af→MW P f af=true):∀k,gF P (GP T E k)
 |0=>{step:=fun fl f args h v h1 e=>by simp[GP] at e,fn:=fun fl f args h v h1 e=>by simp[GP] at e,sound:=fun fl f args h v h1 e=>by simp[GP] at e}
 |k+1=>by
  have ih:=BO hm hE hT k
  refine {step:=?_,fn:=?_,sound:=?_}
  ·intro fl f args h v h1 e
   simp only[GP] at e
   split at e
   ·rename_i af haf
    unfold aV at e
    obtain⟨fw,s',h',a1,e2⟩:=mg ih.toCAbs _ e
    cases fw with
    |normal=>obtain⟨vs,e3⟩:=Dj _ e2;simp only[Option.some.injEq,Prod.mk.injEq] at e3;rw[←e3.2];exact a1
    |ret=>obtain⟨vs,e3⟩:=Dj _ e2;simp only[Option.some.injEq,Prod.mk.injEq] at e3;rw[←e3.2];exact a1
    |exit i=>cases e2
   ·exact hE.step _ _ _ _ _ _ e
  ·intro fl f args h v h1 e
   simp only[GP] at e
   split at e
   ·rename_i af haf
    have ok:=hT f af haf
    unfold MW at ok
    split at ok
    ·rename_i fd hfd
     simp only[Bool.and_eq_true,Bool.not_eq_true',beq_iff_eq] at ok
     refine⟨fd,hfd,ok.1.1.1,?_⟩
     have:=ok.1.1.2
     split at this
     ·rename_i c hc;rw[hc];rfl
     ·cases this
    ·cases ok
   ·exact hE.fn _ _ _ _ _ _ e
  ·intro fl f args h v h1 e base aA μ w args' sm hb bR hr ha hf
   simp only[GP] at e
   split at e
   ·rename_i af haf
    exact aqZ ih hm (hT f af haf) e sm hb bR hr ha hf
   ·exact hE.sound _ _ _ _ _ _ e base aA μ w args' sm hb bR hr ha hf
def noE:Callee:=fun _ _ _ _=>none
theorem agE:gF P noE:={step:=fun fl f args h v h1 e=>(by simp[noE] at e),fn:=fun fl f args h v h1 e=>(by simp[noE] at e),sound:=fun fl f args h v h1 e=>(by simp[noE] at e)}
end
end Go.Abs
end
section
namespace Go.Abs
section
variable{R:Type}{r:R}{C:Callee}{F:Nat→Callee}(hF:∀fl f args h r,C fl f args h=some r→∃n0,∀n,n0≤n→F n fl f args h=some r){fl:Nat}
include hF
theorem atf{fl':Nat}{o:V5}{s h v h1}(e:dw C fl' s h o K0=some (v,h1)):∃n2,∀n,n2≤n→dw (F n) fl' s h o K0=some (v,h1):=by
 cases o with
 |call f args sh=>
  simp only[dw,abv] at e ⊢
  split at e
  ·rename_i g a b hg
   split at e
   ·rename_i v' h' hq
    obtain⟨n2,hn2⟩:=hF _ _ _ _ _ hq
    exact⟨n2,fun n hn=>by simp only[hn2 n hn];exact e⟩
   ·cases e
  ·cases e
 |_=>exact⟨0,fun n _=>e⟩
theorem alm:∀(os:List cw) (s:List Value) (h:AH) (K:List Value→AH→Option R) (K':Nat→List Value→AH→Option R),(∀s h,K s h=some r→∃n0,∀n,n0≤n→K' n s h=some r)→
 Ud C fl os s h K=some r→∃n0,∀n,n0≤n→Ud (F n) fl os s h (K' n)=some r
 |[],s,h,K,K',hK,e=>hK s h e
 |o::os,s,h,K,K',hK,e=>by
  simp only[Ud] at e ⊢
  obtain⟨v,h1,g1,g2⟩:=mV e
  obtain⟨n1,hn1⟩:=alm os (tA s o.dst v) h1 K K' hK g2
  obtain⟨n2,hn2⟩:=atf hF g1
  exact⟨max n1 n2,fun n hn=>IF (hn2 n (by omega)) (hn1 n (by omega))⟩
theorem Dk:∀(os:List jH) (s:List Value) (h:AH) (K:List Value→AH→Option R) (K':Nat→List Value→AH→Option R),(∀s h,K s h=some r→∃n0,∀n,n0≤n→K' n s h=some r)→
 Ix C fl os s h K=some r→∃n0,∀n,n0≤n→Ix (F n) fl os s h (K' n)=some r
 |[],s,h,K,K',hK,e=>hK s h e
 |.op o::os,s,h,K,K',hK,e=>by
  simp only[Ix] at e ⊢
  obtain⟨v,h1,g1,g2⟩:=mV e
  obtain⟨n1,hn1⟩:=Dk os (tA s o.dst v) h1 K K' hK g2
  obtain⟨n2,hn2⟩:=atf hF g1
  exact⟨max n1 n2,fun n hn=>IF (hn2 n (by omega)) (hn1 n (by omega))⟩
 |.gL g want os::is,s,h,K,K',hK,e=>by
  simp only[Ix] at e ⊢
  rcases zP e with⟨b,hb,e⟩|⟨x,y,hb,e⟩
  case inr=>
   simp only[hb,asG]
   exact Dk is _ h K K' hK e
  simp only[hb,asG]
  split at e
  ·rename_i hw
   simp only[if_pos hw]
   exact alm hF os _ h _ (fun n s h=>Ix (F n) fl is s h (K' n)) (fun s h e=>Dk is s h K K' hK e) e
  ·rename_i hw
   simp only[if_neg hw]
   exact Dk is _ h K K' hK e
end
open Classical in
theorem pT{R:Type}{r:R}{C:Callee}{F:Nat→Callee}(hF:∀fl f args h r,C fl f args h=some r→∃n0,∀n,n0≤n→F n fl f args h=some r){fl k:Nat}:
 ∀(ac:aa) (s:List Value) (h:AH) (K:EM→List Value→AH→Option R) (K':Nat→EM→List Value→AH→Option R),(∀f s h,K f s h=some r→∃n0,∀n,n0≤n→K' n f s h=some r)→
  cE C fl k ac s h K=some r→∃n0,∀n,n0≤n→cE (F n) fl n ac s h (K' n)=some r
 |.skip,s,h,K,K',hK,e=>hK _ s h e
 |.exit id,s,h,K,K',hK,e=>hK _ s h e
 |.ret,s,h,K,K',hK,e=>hK _ s h e
 |.seq x y,s,h,K,K',hK,e=>by
  simp only[cE] at e ⊢
  refine pT hF x s h _ (fun n f s h=>match f with|.normal=>cE (F n) fl n y s h (K' n)|.exit i=>K' n (.exit i) s h|.ret=>K' n .ret s h) ?_ e
  intro f s h e
  cases f with
  |normal=>exact pT hF y s h K K' hK e
  |exit i=>exact hK _ s h e
  |ret=>exact hK _ s h e
 |.cond c x y,s,h,K,K',hK,e=>by
  simp only[cE] at e ⊢
  obtain⟨t,ht,e⟩:=cI e
  simp only[ht,asBool]
  split at e
  ·rename_i hw
   obtain⟨n0,hn⟩:=pT hF x s h K K' hK e
   exact⟨n0,fun n h=>by rw[if_pos hw];exact hn n h⟩
  ·rename_i hw
   obtain⟨n0,hn⟩:=pT hF y s h K K' hK e
   exact⟨n0,fun n h=>by rw[if_neg hw];exact hn n h⟩
 |.block id x,s,h,K,K',hK,e=>by
  simp only[cE] at e ⊢
  refine pT hF x s h _ (fun n f s h=>match f with|.normal=>K' n .normal s h|.exit i=>if i=id then K' n .normal s h else K' n (.exit i) s h|.ret=>K' n .ret s h) ?_ e
  intro f s h e
  cases f with
  |normal=>exact hK _ s h e
  |exit i=>
   simp only at e ⊢
   split at e
   ·rename_i hi;simp only[if_pos hi];exact hK _ s h e
   ·rename_i hi;simp only[if_neg hi];exact hK _ s h e
  |ret=>exact hK _ s h e
 |.loop x,s,h,K,K',hK,e=>by
  simp only[cE] at e ⊢
  have key:∀(m:Nat) (s:List Value) (h:AH),aQ m (fun s h next=>cE C fl k x s h fun f s h=>match f with
   |.normal=>next s h
   |.exit i=>K (.exit i) s h
   |.ret=>K .ret s h) s h=some r→∃n0,∀n,n0≤n→∀q,m≤q→aQ q (fun s h next=>cE (F n) fl n x s h fun f s h=>match f with
   |.normal=>next s h
   |.exit i=>K' n (.exit i) s h
   |.ret=>K' n .ret s h) s h=some r:=by
   intro m
   induction m with
   |zero=>intro s h e;simp[aQ] at e
   |succ m ih=>
    intro s h e
    simp only[aQ] at e
    have:=pT hF x s h _ (fun n f s h=>match f with
     |.normal=>if ∀q,m≤q→aQ q (fun s h next=>cE (F n) fl n x s h fun f s h=>match f with
      |.normal=>next s h
      |.exit i=>K' n (.exit i) s h
      |.ret=>K' n .ret s h) s h=some r then some r else none
     |.exit i=>K' n (.exit i) s h
     |.ret=>K' n .ret s h) ?_ e
    ·obtain⟨n0,hn⟩:=this
     refine⟨n0,fun n hn0 q hq=>?_⟩
     obtain⟨q,rfl⟩:∃j,q=j+1:=⟨q-1,by omega⟩
     simp only[aQ]
     have h1:=hn n hn0
     refine mT x ?_ h1
     intro f s h e
     cases f with
     |normal=>
      simp only at e
      split at e
      ·rename_i akU;exact akU q (by omega)
      ·cases e
     |exit i=>exact e
     |ret=>exact e
    ·intro f s h e
     cases f with
     |normal=>
      obtain⟨n0,hn⟩:=ih s h e
      exact⟨n0,fun n hn0=>by simp only;rw[if_pos (fun q hq=>hn n hn0 q hq)]⟩
     |exit i=>exact hK _ s h e
     |ret=>exact hK _ s h e
  obtain⟨n0,hn⟩:=key k s h e
  exact⟨max n0 k,fun n h=>hn n (by omega) n (by omega)⟩
 |.region al kill,s,h,K,K',hK,e=>by
  simp only[cE] at e ⊢
  exact Dk hF al s h _ (fun n s h=>K' n .normal (Qq kill s) h) (fun s h e=>hK _ _ h e) e
where
 mT {C:Callee} {fl k:Nat}:∀(ac:aa) {s:List Value} {h:AH} {K K':EM→List Value→AH→Option R},(∀f s h,K f s h=some r→K' f s h=some r)→
  cE C fl k ac s h K=some r→cE C fl k ac s h K'=some r
 |.skip,s,h,K,K',hK,e=>hK _ s h e
 |.exit id,s,h,K,K',hK,e=>hK _ s h e
 |.ret,s,h,K,K',hK,e=>hK _ s h e
 |.seq x y,s,h,K,K',hK,e=>by
  simp only[cE] at e ⊢
  refine mT x ?_ e
  intro f s h e
  cases f with
  |normal=>exact mT y hK e
  |exit i=>exact hK _ s h e
  |ret=>exact hK _ s h e
 |.cond c x y,s,h,K,K',hK,e=>by
  simp only[cE] at e ⊢
  obtain⟨t,ht,e⟩:=cI e
  simp only[ht,asBool]
  split at e
  ·rename_i hw;rw[if_pos hw];exact mT x hK e
  ·rename_i hw;rw[if_neg hw];exact mT y hK e
 |.block id x,s,h,K,K',hK,e=>by
  simp only[cE] at e ⊢
  refine mT x ?_ e
  intro f s h e
  cases f with
  |normal=>exact hK _ s h e
  |exit i=>
   simp only at e ⊢
   split at e
   ·rename_i hi;simp only[if_pos hi];exact hK _ s h e
   ·rename_i hi;simp only[if_neg hi];exact hK _ s h e
  |ret=>exact hK _ s h e
 |.loop x,s,h,K,K',hK,e=>by
  simp only[cE] at e ⊢
  have key:∀(m:Nat) (s:List Value) (h:AH),aQ m (fun s h next=>cE C fl k x s h fun f s h=>match f with
   |.normal=>next s h
   |.exit i=>K (.exit i) s h
   |.ret=>K .ret s h) s h=some r→aQ m (fun s h next=>cE C fl k x s h fun f s h=>match f with
   |.normal=>next s h
   |.exit i=>K' (.exit i) s h
   |.ret=>K' .ret s h) s h=some r:=by
   intro m
   induction m with
   |zero=>intro s h e;simp[aQ] at e
   |succ m ih=>
    intro s h e
    simp only[aQ] at e ⊢
    refine mT x ?_ e
    intro f s h e
    cases f with
    |normal=>exact ih s h e
    |exit i=>exact hK _ s h e
    |ret=>exact hK _ s h e
  exact key k s h e
 |.region al kill,s,h,K,K',hK,e=>by
  simp only[cE] at e ⊢
  have:=Dk (C:=C) (F:=fun _=>C) (fun fl f args h r e=>⟨0,fun _ _=>e⟩) al s h (fun s h=>K .normal (Qq kill s) h) (fun _ s h=>K' .normal (Qq kill s) h) (fun s h e=>⟨0,fun _ _=>hK _ _ h e⟩) e
  obtain⟨n0,hn⟩:=this
  exact hn n0 (Nat.le_refl _)
section
variable{T:FuncId→Option aK}{E:Callee}
def Ans(T:FuncId→Option aK)(E:Callee)(fl:Nat)(f:FuncId)(args:List Value)(h:AH)(r:Value×AH):Prop:=∃n0,∀n,n0≤n→GP T E n fl f args h=some r
open Classical in
noncomputable def CC(T:FuncId→Option aK)(E:Callee):Callee:=fun fl f args h=>
 if x:∃r,Ans T E fl f args h r then some (Classical.choose x) else none
theorem ahH{fl f args h r}(e:CC T E fl f args h=some r):Ans T E fl f args h r:=by
 unfold CC at e
 split at e
 ·rename_i x
  injection e with e
  rw[←e]
  exact Classical.choose_spec x
 ·cases e
theorem aNU{fl f args h r}(a:Ans T E fl f args h r):CC T E fl f args h=some r:=by
 unfold CC
 have x:∃r,Ans T E fl f args h r:=⟨r,a⟩
 rw[dif_pos x]
 congr 1
 obtain⟨n1,h1⟩:=Classical.choose_spec x
 obtain⟨n2,h2⟩:=a
 have e1:=h1 (max n1 n2) (by omega)
 have e2:=h2 (max n1 n2) (by omega)
 rw[e1] at e2
 injection e2
theorem aPP{fl k f af args h r}(hT:T f=some af)(e:aV (CC T E) fl k af args h=some r):CC T E fl f args h=some r:=by
 refine aNU ?_
 unfold aV at e
 have:=pT (C:=CC T E) (F:=fun n=>GP T E n) (fun fl f args h r e=>ahH e) af.body _ h (aG af.results) (fun _=>aG af.results) (fun f s h e=>⟨0,fun _ _=>e⟩) e
 obtain⟨n0,hn⟩:=this
 refine⟨n0+1,fun n hn0=>?_⟩
 obtain⟨n,rfl⟩:∃j,n=j+1:=⟨n-1,by omega⟩
 simp only[GP,hT]
 exact hn n (by omega)
theorem aq0{fl f args h r}(hT:T f=none)(e:E fl f args h=some r):CC T E fl f args h=some r:=
 aNU ⟨1,fun n hn=>by
  obtain⟨n,rfl⟩:∃j,n=j+1:=⟨n-1,by omega⟩
  simp only[GP,hT];exact e⟩
theorem aln{P:Program}(hm:P.follows .mixedOrders=true)(hE:gF P E)(hT:∀f af,T f=some af→MW P f af=true):gF P (CC T E) where
 step fl f args h v h1 e:=by obtain⟨n,hn⟩:=ahH e;exact(BO hm hE hT n).step _ _ _ _ _ _ (hn n (Nat.le_refl _))
 fn fl f args h v h1 e:=by obtain⟨n,hn⟩:=ahH e;exact(BO hm hE hT n).fn _ _ _ _ _ _ (hn n (Nat.le_refl _))
 sound fl f args h v h1 e:=by obtain⟨n,hn⟩:=ahH e;exact(BO hm hE hT n).sound _ _ _ _ _ _ (hn n (Nat.le_refl _))
end
end Go.Abs
end
section
namespace Go.Abs
section
variable{R:Type}
abbrev av(n:Int):Int:=IntKind.i64.wrap n
def aF(k:IntKind)(h:AH)(b o:Nat)(K:Int→Option R):Option R:=match h.cell b o with
 |some v=>asInt k v K
 |none=>none
def ldB(h:AH)(b o:Nat)(K:Bool→Option R):Option R:=match h.cell b o with
 |some v=>asBool v K
 |none=>none
def aT(h:AH)(b o:Nat)(K:Sl→Option R):Option R:=match h.cell b o with
 |some v=>aX v K
 |none=>none
def ldV(h:AH)(b o:Nat)(K:Value→Option R):Option R:=match h.cell b o with
 |some v=>K v
 |none=>none
def ldN(h:AH)(b o:Nat)(K:Option Addr→Option R):Option R:=match h.cell b o with
 |some v=>ek v K
 |none=>none
def iK(id:Nat)(K:EM→List Value→AH→Option R):EM→List Value→AH→Option R:=fun f s h=>match f with
 |.normal=>K .normal s h
 |.exit i=>if i=id then K .normal s h else K (.exit i) s h
 |.ret=>K .ret s h
def aNV(next:List Value→AH→Option R)(K:EM→List Value→AH→Option R):EM→List Value→AH→Option R:=fun f s h=>match f with
 |.normal=>next s h
 |.exit i=>K (.exit i) s h
 |.ret=>K .ret s h
def bw(C:Callee)(fl k:Nat)(c:aa)(K:EM→List Value→AH→Option R):EM→List Value→AH→Option R:=fun f s h=>match f with
 |.normal=>cE C fl k c s h K
 |.exit i=>K (.exit i) s h
 |.ret=>K .ret s h
def aW(C:Callee)(fl k:Nat)(c:aa)(id:Nat)(K:EM→List Value→AH→Option R):List Value→AH→(List Value→AH→Option R)→Option R:=fun s h next=>cE C fl k c s h (aNV next (iK id K))
theorem zF(C:Callee)(fl k:Nat)(a b:aa)(s:List Value)(h:AH)(K:EM→List Value→AH→Option R):cE C fl k (.seq a b) s h K=cE C fl k a s h (bw C fl k b K):=rfl
theorem ag{α β}(f:α→β){a a'}(h:a=a'):f a=f a':=by rw[h]
theorem gG{α β γ}(f:α→β→γ){a a' b b'}(h:a=a')(h2:b=b'):f a b=f a' b':=by rw[h,h2]
abbrev KF(R:Type):=EM→List Value→AH→Option R
abbrev OA:=Option Addr
def ce(C:Callee)(fl k:Nat)(c:aa)(K:KF R):List Value→AH→Option R:=fun s q=>cE C fl k c s q K
theorem aTb(C:Callee)(fl k:Nat)(c:aa)(id:Nat)(K:KF R):iK id (bw C fl k c K) (.exit id)=ce C fl k c K:=by
 funext s h;show(if id=id then _ else _)=_;rw[if_pos rfl];rfl
def un:Nat→List Value→List Value
 |0,l=>l
 |n+1,l=>undef::un n l
abbrev vi(n:Int):Value:=.int .i64 n
abbrev vp(a:Addr):Value:=.pointer (some a)
abbrev vn(a:Option Addr):Value:=.pointer a
abbrev vs(s:Sl):Value:=.slice s.a s.l s.c
class CP(S R:Type)(T:outParam Type) where
 cp:S→(List Value→AH→Option R)→T
instance:CP (List Value) R (AH→Option R):=⟨fun s g q=>g s q⟩
instance{A S T:Type}[CP S R T]:CP (A→S) R (A→T):=⟨fun s g x=>CP.cp (s x) g⟩
section
open CP
variable{S T:Type}[CP S R T]{s:S}{C:Callee}{fl k:Nat}
theorem gu{c:aa}{id m:Nat}{K:KF R}{y z:T}(e:cp s (ce C fl k c (aNV (aQ m (aW C fl k c id K)) (iK id K)))=y)(e2:y=z):cp s (aQ (m+1) (aW C fl k c id K))=z:=e.trans e2
theorem gv{c:aa}{id:Nat}{K:KF R}{F:Nat→T}(e:∀m,cp s (aQ m (aW C fl k c id K))=F m):cp s (ce C fl k (.block id (.loop c)) K)=F k:=e k
theorem iP{a b:aa}{K:KF R}{y:T}(e:cp s (ce C fl k a (bw C fl k b K))=y):cp s (ce C fl k (.seq a b) K)=y:=e
theorem iL{c:aa}{K:KF R}{y:T}(e:cp s (ce C fl k c K)=y):cp s (bw C fl k c K .normal)=y:=e
theorem bn1{c:aa}{id:Nat}{K:KF R}{y:T}(e:cp s (ce C fl k c K)=y):cp s (iK id (bw C fl k c K) .normal)=y:=e
theorem bx1{c:aa}{id:Nat}{K:KF R}{y:T}(e:cp s (ce C fl k c K)=y):cp s (iK id (bw C fl k c K) (.exit id))=y:=by rw[aTb];exact e
end
def oI(d:Nat)(o:V5):jH:=.op ⟨some d,o,none,true⟩
def oJ(d:Nat)(o:V5):jH:=.op ⟨some d,o,none,false⟩
def pI(o:V5):jH:=.op ⟨none,o,none,true⟩
def pJ(o:V5):jH:=.op ⟨none,o,none,false⟩
def qI(d:Nat)(o:V5):cw:=⟨some d,o,none,true⟩
def qJ(d:Nat)(o:V5):cw:=⟨some d,o,none,false⟩
def ci(n:Int):sW:=.c (.int .i64 n)
def bJ(h:AH)(cs:List Value)(K:Nat→AH→Option R):Option R:=K h.next (h.alloc cs)
def aj(C:Callee)(fl:Nat)(f:Nat)(args:List Value)(h:AH)(K:Value→AH→Option R):Option R:=match C fl f args h with
 |some (v,h1)=>K v h1
 |none=>none
def mh(C:Callee)(fl:Nat)(f:Value)(args:List Value)(h:AH)(K:Value→AH→Option R):Option R:=match f with
 |.func (.func g) a b=>match C fl g (a.toList++args++b.toList) h with
  |some (v,h1)=>K v h1
  |none=>none
 |_=>none
def ar(l:List Value)(K:Value→List Value→Option R):Option R:=match l with
 |v::vs=>K v vs
 |[]=>none
def aM(l:List Value)(K:Option R):Option R:=match l with
 |[]=>K
 |_=>none
def j6(op:BinOp)(k:IntKind)(a b:Int)(K:Int→Option R):Option R:=match Iw op k a b with
 |some n=>K n
 |none=>none
def shQ(left:Bool)(k:IntKind)(a b:Int)(K:Int→Option R):Option R:=match ak8 left k a b with
 |some n=>K n
 |none=>none
def atQ(bs:List Nat)(n:Int)(K:Int→Option R):Option R:=if 0≤n then match bs[n.toNat]? with
 |some b=>K b
 |none=>none
 else none
end
namespace C
def m(d s:Nat):jH:=oI d (.mv (.t s))
def mc(d n:Nat):jH:=oI d (.mv (ci n))
def cm(d:Nat)(o:BinOp)(x y:Nat):jH:=oI d (.cmp o .i64 (.t x) (.t y))
def ck(d:Nat)(o:BinOp)(x n:Nat):jH:=oI d (.cmp o .i64 (.t x) (ci n))
def bb(d:Nat)(o:BinOp)(x y:Nat):jH:=oI d (.bin o .i64 (.t x) (.t y))
def bc(d:Nat)(o:BinOp)(x n:Nat):jH:=oI d (.bin o .i64 (.t x) (ci n))
def ex(d x i:Nat):jH:=oI d (.aal (.t x) i)
def ln(d x:Nat):jH:=oI d (.len (.t x))
def no(d x:Nat):jH:=oI d (.not (.t x))
def fa(d o x:Nat):jH:=oI d (.cW o (.t x))
def ia(d e x i:Nat):jH:=oI d (.eE e (.t x) (.t i))
def li(d x:Nat):jH:=oI d (.load (.one (.int .i64)) (.t x))
def ls(d x:Nat):jH:=oI d (.load (.one .slice) (.t x))
def lj(d x:Nat):jH:=oJ d (.load (.one (.int .i64)) (.t x))
def lt(d x:Nat):jH:=oJ d (.load (.one .slice) (.t x))
def sI(n a x:Nat):jH:=pI (.store n (.t a) (.t x))
def sJ(n a x:Nat):jH:=pJ (.store n (.t a) (.t x))
def kl(l:List Nat):aa:=.region [] l
end C
abbrev Dl:=List Value→Option (Value×AH)
def dI(k:IntKind)(F:Int→Dl):Dl|.int k' n::l=>if k'=k then F n l else none|_=>none
def dS(F:Sl→Dl):Dl|.slice a l c::r=>F ⟨a,l,c⟩ r|_=>none
def dP(F:Addr→Dl):Dl|.pointer (some a)::l=>F a l|_=>none
def dN(F:Option Addr→Dl):Dl|.pointer a::l=>F a l|_=>none
def dV(F:Value→Dl):Dl|v::l=>F v l|_=>none
def dA(n:Nat)(F:Dl):Dl|.agg cs::l=>if cs.toList.length=n then F (cs.toList++l) else none|_=>none
def dE(x:Option (Value×AH)):Dl|[]=>x|_=>none
section
variable{r:Value×AH}{G:List Value→Prop}
theorem cP{k:IntKind}{F:Int→Dl}(h:∀n l,F n l=some r→G (.int k n::l))(l:List Value)(e:dI k F l=some r):G l:=by
 unfold dI at e
 split at e
 ·split at e
  ·rename_i hk;subst hk;exact h _ _ e
  ·cases e
 ·cases e
theorem eF{F:Sl→Dl}(h:∀n l,F n l=some r→G (.slice n.a n.l n.c::l))(l:List Value)(e:dS F l=some r):G l:=by
 unfold dS at e
 split at e
 ·exact h ⟨_,_,_⟩ _ e
 ·cases e
theorem dP_{F:Addr→Dl}(h:∀n l,F n l=some r→G (.pointer (some n)::l))(l:List Value)(e:dP F l=some r):G l:=by
 unfold dP at e
 split at e
 ·exact h _ _ e
 ·cases e
theorem TW{F:Option Addr→Dl}(h:∀n l,F n l=some r→G (.pointer n::l))(l:List Value)(e:dN F l=some r):G l:=by
 unfold dN at e
 split at e
 ·exact h _ _ e
 ·cases e
theorem dV_{F:Value→Dl}(h:∀n l,F n l=some r→G (n::l))(l:List Value)(e:dV F l=some r):G l:=by
 unfold dV at e
 split at e
 ·exact h _ _ e
 ·cases e
theorem xB(n:Nat){F:Dl}(h:∀l,F l=some r→G (.agg ⟨l.take n⟩::l.drop n))(l:List Value)(e:dA n F l=some r):G l:=by
 unfold dA at e
 split at e
 ·rename_i cs l'
  split at e
  ·rename_i hn
   have:=h _ e
   rw[←hn,List.take_left,List.drop_left] at this
   exact this
  ·cases e
 ·cases e
theorem hS{x:Option (Value×AH)}(h:x=some r→G [])(l:List Value)(e:dE x l=some r):G l:=by
 unfold dE at e
 split at e
 ·exact h e
 ·cases e
end
end Go.Abs
end
section
namespace Go.Abs
def QI:aa→List aa
 |.seq a b=>QI a++QI b
 |a=>[a]
def QJ:Code→List aa→Option (aa×List aa)
 |.seq x y,l=>match QJ x l with
  |some (a,l1)=>match QJ y l1 with
   |some (b,l2)=>some (.seq a b,l2)
   |none=>none
  |none=>none
 |.cond _ x y,.cond c a b::l=>match QJ x (QI a) with
  |some (a',[])=>match QJ y (QI b) with
   |some (b',[])=>some (.cond c a' b',l)
   |_=>none
  |_=>none
 |.block _ x,.block id a::l=>match QJ x (QI a) with
  |some (a',[])=>some (.block id a',l)
  |_=>none
 |.loop x,.loop a::l=>match QJ x (QI a) with
  |some (a',[])=>some (.loop a',l)
  |_=>none
 |.exit _,.region [] kl::.exit i::l=>some (.seq (.region [] kl) (.exit i),l)
 |.ret,.region [] kl::.ret::l=>some (.seq (.region [] kl) .ret,l)
 |.exit _,a::l=>some (a,l)
 |.ret,a::l=>some (a,l)
 |.skip,a::l=>some (a,l)
 |.region _ _ _,a::l=>some (a,l)
 |_,_=>none
def mkA:List aa→aa
 |[]=>.skip
 |a::l=>.seq a (mkA l)
structure sZ(a b:aa):Prop where
 eq:∀(R:Type) (C:Callee) (fl k:Nat) (s:List Value) (h:AH) (K:EM→List Value→AH→Option R),cE C fl k a s h K=cE C fl k b s h K
theorem sZ.refl(a:aa):sZ a a:=⟨fun _ _ _ _ _ _ _=>rfl⟩
theorem sZ.symm{a b:aa}(h:sZ a b):sZ b a:=⟨fun _ C fl k s q K=>(h.1 _ C fl k s q K).symm⟩
theorem sZ.trans{a b c:aa}(h:sZ a b)(g:sZ b c):sZ a c:=⟨fun _ C fl k s q K=>(h.1 _ C fl k s q K).trans (g.1 _ C fl k s q K)⟩
theorem sZ.seq{a b c d:aa}(h:sZ a b)(g:sZ c d):sZ (.seq a c) (.seq b d):=⟨fun _ C fl k s q K=>by
 rw[zF,zF,h.1]
 have:bw C fl k c K=bw C fl k d K:=by
  funext f s q
  cases f with
  |normal=>exact g.1 _ C fl k s q K
  |exit i=>rfl
  |ret=>rfl
 rw[this]⟩
theorem sZ.cond{c:sW}{a b a' b':aa}(h:sZ a a')(g:sZ b b'):sZ (.cond c a b) (.cond c a' b'):=⟨fun _ C fl k s q K=>by
 simp only[cE]
 congr 1
 funext t
 rw[h.1,g.1]⟩
theorem sZ.block{id:Nat}{a b:aa}(h:sZ a b):sZ (.block id a) (.block id b):=⟨fun _ C fl k s q K=>by
 simp only[cE];rw[h.1]⟩
theorem sZ.loop{a b:aa}(h:sZ a b):sZ (.loop a) (.loop b):=⟨fun _ C fl k s q K=>by
 simp only[cE]
 simp only[h.1]⟩
theorem sZ.assoc{a b c:aa}:sZ (.seq (.seq a b) c) (.seq a (.seq b c)):=⟨fun _ C fl k s q K=>by
 have:bw C fl k b (bw C fl k c K)=bw C fl k (.seq b c) K:=by
  funext f s q
  cases f<;>rfl
 rw[zF,zF,zF,this]⟩
theorem sZ.unit{a:aa}:sZ (.seq a .skip) a:=⟨fun _ C fl k s q K=>by
 rw[zF]
 congr 1
 funext f s q
 cases f<;>rfl⟩
theorem sZ.skip{a:aa}:sZ (.seq .skip a) a:=⟨fun _ _ _ _ _ _ _=>rfl⟩
theorem aq1(l m:List aa):sZ (mkA (l++m)) (.seq (mkA l) (mkA m)):=by
 induction l with
 |nil=>exact sZ.skip.symm
 |cons a l ih=>exact(sZ.seq (.refl _) ih).trans sZ.assoc.symm
theorem J1:∀(a:aa),sZ a (mkA (QI a))
 |.seq a b=>((J1 a).seq (J1 b)).trans (aq1 _ _).symm
 |.skip=>sZ.unit.symm
 |.cond _ _ _=>sZ.unit.symm
 |.block _ _=>sZ.unit.symm
 |.loop _=>sZ.unit.symm
 |.exit _=>sZ.unit.symm
 |.ret=>sZ.unit.symm
 |.region _ _=>sZ.unit.symm
theorem axI(g:Code)(l:List aa):∀{b:aa} {m:List aa},QJ g l=some (b,m)→sZ (mkA l) (.seq b (mkA m)):=by
 have one:∀{a b:aa} {l m:List aa},some (a,l)=some (b,m)→sZ (mkA (a::l)) (.seq b (mkA m)):=by
  intro a b l m h
  injection h with h;injection h with h1 h2;subst h1;subst h2;exact .refl _
 have nil:∀{a b:aa},sZ (mkA (QI a)) (.seq b (mkA []))→sZ a b:=fun h=>(J1 _).trans (h.trans sZ.unit)
 fun_induction QJ g l with
 |case1 l x y a l1 h1 b l2 h2 hx hy=>
  intro c m h
  injection h with h;injection h with h3 h4;subst h3;subst h4
  exact(hx h1).trans ((sZ.seq (.refl _) (hy h2)).trans sZ.assoc.symm)
 |case4 o x y c a b l a' h1 b' h2 hx hy=>
  intro d m h
  injection h with h;injection h with h3 h4;subst h3;subst h4
  exact sZ.seq (sZ.cond (nil (hx h1)) (nil (hy h2))) (.refl _)
 |case7 _ x id a l b' h1 hx=>
  intro d m h
  injection h with h;injection h with h3 h4;subst h3;subst h4
  exact sZ.seq (sZ.block (nil (hx h1))) (.refl _)
 |case9 x a l b' h1 hx=>
  intro d m h
  injection h with h;injection h with h3 h4;subst h3;subst h4
  exact sZ.seq (sZ.loop (nil (hx h1))) (.refl _)
 |case11|case12=>
  intro d m h
  injection h with h;injection h with h3 h4;subst h3;subst h4
  exact sZ.assoc.symm
 |case13|case14|case15|case16=>intro d m h;exact one h
 |_=>intro d m h;cases h
def ahI(P:Program)(f:FuncId)(af:aK):Option aK:=match P.funcs[f]? with
 |some fd=>match fd.body with
  |some c=>match QJ c (QI af.body) with
   |some (b,[])=>some ⟨af.ntmps,b,af.results⟩
   |_=>none
  |none=>none
 |none=>none
def okF(P:Program)(f:FuncId)(af:aK):Bool:=match ahI P f af with
 |some a=>MW P f a
 |none=>false
theorem aq2{P:Program}{f:FuncId}{af a:aK}(h:ahI P f af=some a){C:Callee}{fl k:Nat}{args:List Value}{q:AH}:aV C fl k a args q=aV C fl k af args q:=by
 unfold ahI at h
 split at h
 ·split at h
  ·split at h
   ·rename_i b hb
    injection h with h;subst h
    have:=(J1 af.body).trans ((axI _ _ hb).trans sZ.unit)
    exact(this.1 _ C fl k _ q _).symm
   ·cases h
  ·cases h
 ·cases h
def shT(P:Program)(T:FuncId→Option aK):FuncId→Option aK:=fun f=>(T f).bind fun af=>ahI P f af
theorem aBh{P:Program}{T:FuncId→Option aK}(h:∀f af,T f=some af→okF P f af=true):∀f af,shT P T f=some af→MW P f af=true:=by
 intro f a ha
 unfold shT at ha
 cases hf:T f with
 |none=>rw[hf] at ha;cases ha
 |some af=>
  rw[hf] at ha
  have hk:=h f af hf
  unfold okF at hk
  simp only[Option.bind_some] at ha
  rw[ha] at hk
  exact hk
theorem atg{P:Program}{T:FuncId→Option aK}{E:Callee}(h:∀f af,T f=some af→okF P f af=true){f:FuncId}{af:aK}(hf:T f=some af){fl k:Nat}{args:List Value}{q:AH}{r:Value×AH}
 (e:aV (CC (shT P T) E) fl k af args q=some r):CC (shT P T) E fl f args q=some r:=by
 have hk:=h f af hf
 unfold okF at hk
 split at hk
 ·rename_i a ha
  refine aPP (af:=a) (k:=k) ?_ ?_
  ·unfold shT;rw[hf];exact ha
  ·rw[aq2 ha];exact e
 ·cases hk
end Go.Abs
end
section
namespace Go.Abs
open Go.RowKit
theorem Dd.below{base aA μ h w w'}(s:Dd base aA μ h w)(b:Below w.heap.size w w'):Dd base aA μ h w' where
 cell bb cs rb o h1 h2 j v hv:=by
  obtain⟨v',a,c⟩:=s.cell bb cs rb o h1 h2 j v hv
  have hl:=s.lt _ _ _ h2
  exact⟨v',by rw[JV (b.block rb hl)];exact a,c.mono (fun _ _ h=>h) fun _ _ _ hm=>by rw[BM (b.block _ (s.lt _ _ _ hm))];exact Nat.le_refl _⟩
 own bb cs rb o h0 h1 h2:=by rw[b.block rb (s.lt _ _ _ h2)];exact s.own bb cs rb o h0 h1 h2
 inj:=s.inj
 lt bb rb o hb:=Nat.lt_of_lt_of_le (s.lt bb rb o hb) b.size
 bnd:=s.bnd
theorem cJ.below{fl base aA μ h w w'}(s:Dd base aA μ h w)(b:Below w.heap.size w w'):cJ fl base aA μ h w μ h w' where
 gd:=s.below b
 mu _ _:=rfl
 nx:=Nat.le_refl _
 old _ _ _:=rfl
 dead _ cs _ h:=⟨cs,h⟩
 fr rb h _:=b.block rb h
 sz rb h:=BM (b.block rb h)
 hs:=b.size
 os:=b.os
 tape:=b.tape
 output:=b.output
 new b _ _ _ h1 h2:=by omega
theorem cJ.found{fl base aA μ h w w'}(s:Dd base aA μ h w)(b:Below w.heap.size w w')(hr:aA≤w.heap.size)(hf:μ h.next=none){g:Nat}(hg:w.heap.size≤g){cs:List Value}{c:Array Value}{t:TypeId}
 (hgb:w'.heap[g]?=some (.cells c t (0,0))) (hc:∀(j:Nat) v,cs[j]?=some v→∃v',c[j]?=some v'∧cU μ (dD w) v v'):
 cJ fl base aA μ h w (ext μ h.next (g,0)) (h.alloc cs) w':=by
 have ho:=b.block
 have hgl:g<w'.heap.size:=(Array.getElem?_eq_some_iff.1 hgb).1
 have hle:=aqQ (x:=(g,0)) hf
 have JQ:∀b rb o,μ b=some (rb,o)→dD w rb≤dD w' rb:=fun b rb o hb=>by rw[BM (ho rb (s.lt b rb o hb))];exact Nat.le_refl _
 have nW:∀b fC,(h.alloc cs).iN b=some fC→(b=h.next∧fC=cs)∨(b≠h.next∧h.iN b=some fC):=by
  intro b fC hb
  by_cases e:b=h.next
  ·simp[AH.alloc,e] at hb;exact .inl ⟨e,hb.symm⟩
  ·simp[AH.alloc,e] at hb;exact .inr ⟨e,hb⟩
 refine {gd:={cell:=?_,own:=?_,inj:=?_,lt:=?_,bnd:=?_},mu:=?_,nx:=?_,old:=?_,dead:=?_,fr:=?_,sz:=?_,hs:=b.size,os:=b.os,tape:=b.tape,output:=b.output,new:=?_}
 ·intro b fC rb o MQ kf j v hv
  rcases nW b fC MQ with⟨rfl,rfl⟩|⟨lZ,Qi⟩
  ·rw[cH] at kf;injection kf with kf;injection kf with e1 e2;subst e1;subst e2
   obtain⟨v',h1,h2⟩:=hc j v hv
   exact⟨v',by rw[oV hgb,Nat.zero_add];exact h1,h2.mono hle JQ⟩
  ·rw[iI lZ] at kf
   obtain⟨v',h1,h2⟩:=s.cell b fC rb o Qi kf j v hv
   exact⟨v',by rw[JV (ho rb (s.lt b rb o kf))];exact h1,h2.mono hle JQ⟩
 ·intro b fC rb o hbb MQ kf
  rcases nW b fC MQ with⟨rfl,rfl⟩|⟨lZ,Qi⟩
  ·rw[cH] at kf;injection kf with kf;injection kf with e1 e2;subst e1
   exact⟨Nat.le_trans hr hg,c,t,hgb⟩
  ·rw[iI lZ] at kf
   rw[ho rb (s.lt b rb o kf)]
   exact s.own b fC rb o hbb Qi kf
 ·intro b b' cs1 cs2 rb o o' hbb h1 h2 m1 m2
  rcases nW b cs1 h1 with⟨rfl,rfl⟩|⟨lZ,h1'⟩
  ·rcases nW b' cs2 h2 with⟨rfl,rfl⟩|⟨aeC,h2'⟩
   ·rfl
   ·rw[cH] at m1;injection m1 with m1;injection m1 with e1 e2;subst e1
    rw[iI aeC] at m2
    exact absurd (s.lt b' _ _ m2) (by omega)
  ·rw[iI lZ] at m1
   rcases nW b' cs2 h2 with⟨rfl,rfl⟩|⟨aeC,h2'⟩
   ·rw[cH] at m2;injection m2 with m2;injection m2 with e1 e2;subst e1
    exact absurd (s.lt b _ _ m1) (by omega)
   ·rw[iI aeC] at m2
    exact s.inj b b' cs1 cs2 rb o o' hbb h1' h2' m1 m2
 ·intro bb rb o kf
  by_cases e:bb=h.next
  ·subst e;rw[cH] at kf;injection kf with kf;injection kf with e1 e2;omega
  ·rw[iI e] at kf;have:=s.lt bb rb o kf;have:=b.size;omega
 ·intro b fC MQ
  show b<h.next+1
  rcases nW b fC MQ with⟨rfl,rfl⟩|⟨lZ,Qi⟩
  ·omega
  ·have:=s.bnd b fC Qi;omega
 ·intro b hb
  refine iI ?_
  rintro rfl
  exact hb ⟨Nat.le_refl _,Nat.lt_succ_self _⟩
 ·exact Nat.le_succ _
 ·intro b hb _
  simp[AH.alloc,Nat.ne_of_lt hb]
 ·intro b fC hb MQ
  rcases nW b fC MQ with⟨rfl,rfl⟩|⟨lZ,Qi⟩
  ·omega
  ·exact⟨_,Qi⟩
 ·intro rb Lh _;exact ho rb Lh
 ·intro rb Lh;exact BM (ho rb Lh)
 ·intro b fC rb o h1 h2 kf _
  have:b=h.next:=by have:b<h.next+1:=h2;omega
  subst this
  rw[cH] at kf;injection kf with kf;injection kf with e1 e2;exact .inl (by omega)
def agG:Value→Bool
 |.int .i64 _=>true
 |_=>false
theorem axJ{v:Value}(h:agG v=true):∃n,v=.int .i64 n:=by
 unfold agG at h
 split at h
 ·exact⟨_,rfl⟩
 ·cases h
theorem ath:∀{xs:List Value},xs.all agG=true→∃zs:List Int,xs=zs.map (Value.int .i64)
 |[],_=>⟨[],rfl⟩
 |x::xs,h=>by
  simp only[List.all_cons,Bool.and_eq_true] at h
  obtain⟨zs,e⟩:=ath h.2
  obtain⟨n,e1⟩:=axJ h.1
  exact⟨n::zs,by simp[e,e1]⟩
end Go.Abs
end
section
namespace Go.Abs
open Go.RowKit
theorem abO{α:Type}:∀{l:List (Nat×α)} {f:Nat} {a:α},l.lookup f=some a→(f,a)∈l
 |[],_,_,h=>by cases h
 |(g,b)::l,f,a,h=>by
  simp only[List.lookup] at h
  split at h
  ·rename_i e
   injection h with h
   have:f=g:=by simpa using e
   subst this;subst h;exact List.mem_cons_self
  ·exact List.mem_cons_of_mem _ (abO h)
theorem aD{α:Type}{b:Bool}{x y:Option α}{r:α}{Q:Prop}(e:cond b x y=some r)(h1:x=some r→Q)(h2:y=some r→Q):Q:=by
 cases b
 ·exact h2 e
 ·exact h1 e
def aGU(T:FuncId→Option aK)(C E:Callee)(fl k f:Nat)(args:List Value)(h:AH)(r:Value×AH):Prop:=
 E fl f args h=some r∨∃af,T f=some af∧aV C fl k af args h=some r
theorem leaf{T:FuncId→Option aK}{C E:Callee}{fl k f:Nat}{args:List Value}{h:AH}{r:Value×AH}{j:Nat}{af:aK}{d:Option (Value×AH)}(hT:T j=some af)
 (hd:d=some r→aV C fl k af args h=some r) (e:cond (Nat.beq f j) d (E fl f args h)=some r):aGU T C E fl k f args h r:=by
 cases hb:Nat.beq f j with
 |false=>rw[hb] at e;exact .inl e
 |true=>
  rw[hb] at e
  have:=Nat.eq_of_beq_eq_true hb
  subst this
  exact .inr ⟨af,hT,hd e⟩
theorem bu{T:FuncId→Option aK}{C E:Callee}{fl k f:Nat}{args:List Value}{h:AH}{r:Value×AH}{j:Nat}{af:aK}{d:Dl}(hT:T j=some af)
 (hd:∀l,d l=some r→aV C fl k af l h=some r) (e:cond (Nat.beq f j) (d args) (E fl f args h)=some r):aGU T C E fl k f args h r:=leaf hT (hd args) e
def aBi(apb:Callee→Callee→Nat→Nat→Nat→List Value→AH→Option (Value×AH))(E:Callee):Nat→Callee
 |0=>fun _ _ _ _=>none
 |k+1=>fun fl f args h=>apb (aBi apb E k) E fl k f args h
theorem aq3{C C':Callee}(hC:∀fl f args h r,C fl f args h=some r→C' fl f args h=some r){fl k:Nat}{af:aK}{args:List Value}{h:AH}{r:Value×AH}(e:aV C fl k af args h=some r):∃n,aV C' fl n af args h=some r:=by
 unfold aV at e
 have:=pT (C:=C) (F:=fun _=>C') (fun fl f args h r e=>⟨0,fun _ _=>hC _ _ _ _ _ e⟩) af.body _ h (aG af.results) (fun _=>aG af.results) (fun f s h e=>⟨0,fun _ _=>e⟩) e
 obtain⟨n,hn⟩:=this
 exact⟨n,hn n (Nat.le_refl _)⟩
theorem alo{P:Program}{T:FuncId→Option aK}{E:Callee}{apb:Callee→Callee→Nat→Nat→Nat→List Value→AH→Option (Value×AH)}(hT:∀f af,T f=some af→okF P f af=true)
 (hE:∀fl f args h r,E fl f args h=some r→T f=none) (hd:∀C fl k f args h r,apb C E fl k f args h=some r→aGU T C E fl k f args h r):
 ∀k fl f args h r,aBi apb E k fl f args h=some r→CC (shT P T) E fl f args h=some r
 |0,_,_,_,_,_,e=>by cases e
 |k+1,fl,f,args,h,r,e=>by
  rcases hd _ _ _ _ _ _ _ e with e|⟨af,ha,e⟩
  ·refine aq0 ?_ e
   unfold shT
   rw[hE _ _ _ _ _ e];rfl
  ·obtain⟨n,hn⟩:=aq3 (C':=CC (shT P T) E) (fun fl f args h r e=>alo hT hE hd k fl f args h r e) e
   exact atg hT ha hn
def abP(g:FuncId)(v:Value):Callee:=fun _ f args h=>if f=g∧args.isEmpty=true then some (v,h) else none
theorem MX{g v fl f args h r}(e:abP g v fl f args h=some r):f=g∧args=[]∧r=(v,h):=by
 unfold abP at e
 split at e
 ·rename_i q
  simp only[Option.some.injEq] at e
  exact⟨q.1,by simpa using q.2,e.symm⟩
 ·cases e
theorem ahJ{P:Program}{C:Callee}(hC:gF P C){g:FuncId}{b:Bool}{h1:AH}(e:C 0 g [] ⟨0,fun _=>none⟩=some (.bool b,h1)):gF P (abP g (.bool b)) where
 step fl f args h v h2 e2:=by
  obtain⟨_,_,e3⟩:=MX e2
  injection e3 with e3 e4;subst e4;exact cj.refl _ _
 fn fl f args h v h2 e2:=by
  obtain⟨rfl,_⟩:=MX e2
  exact hC.fn _ _ _ _ _ _ e
 sound fl f args h v h2 e2 base aA μ w args' s hb bR hr ha hf:=by
  obtain⟨rfl,rfl,e3⟩:=MX e2
  injection e3 with e3 e4;subst e3;subst e4
  have ea:args'=[]:=by have:=ha.1;cases args' with|nil=>rfl|cons _ _=>cases this
  subst ea
  have s0:Dd 0 w.heap.size (fun _=>none) ⟨0,fun _=>none⟩ w:={cell:=fun b cs rb o h=>(by cases h),own:=fun b cs rb o _ h=>(by cases h),inj:=fun b b' cs fC rb o o' _ h=>(by cases h),lt:=fun b rb o h=>(by cases h),bnd:=fun b cs h=>(by cases h)}
  refine(hC.sound 0 f [] ⟨0,fun _=>none⟩ (.bool b) h1 e 0 w.heap.size (fun _=>none) w [] s0 (Nat.le_refl _) (Nat.le_refl _) (Nat.le_refl _) bN.nil (fun _ _ _=>rfl)).mono ?_
  rintro e' w' ⟨v',μ',rfl,p,hv⟩
  have:=hv.xm
  subst this
  exact⟨_,μ,rfl,cJ.below s ⟨p.os,p.tape,p.output,p.hs,fun rb Lh=>p.fr rb Lh fun b cs o _ _ h=>(by cases h)⟩,.bool b⟩
def orE(E1 E2:Callee):Callee:=fun fl f args h=>match E1 fl f args h with
 |some r=>some r
 |none=>E2 fl f args h
theorem ahK{E1 E2:Callee}{fl f args h r}(e:orE E1 E2 fl f args h=some r):E1 fl f args h=some r∨E2 fl f args h=some r:=by
 unfold orE at e
 split at e
 ·rename_i r' h1;rw[h1];exact .inl e
 ·exact .inr e
theorem agH{P:Program}{E1 E2:Callee}(h1:gF P E1)(h2:gF P E2):gF P (orE E1 E2) where
 step fl f args h v h3 e:=(ahK e).elim (h1.step _ _ _ _ _ _) (h2.step _ _ _ _ _ _)
 fn fl f args h v h3 e:=(ahK e).elim (h1.fn _ _ _ _ _ _) (h2.fn _ _ _ _ _ _)
 sound fl f args h v h3 e:=(ahK e).elim (h1.sound _ _ _ _ _ _) (h2.sound _ _ _ _ _ _)
end Go.Abs
end
section
namespace Go.Abs
def ahL(ops:Array Oper)(al:List cw)(cl:List Nat):Bool:=
 QA 0 ops.toList&&
 ((List.range al.length).all (fun j=>(List.range j).all fun i=>match al[i]?,al[j]? with
   |some x,some y=>!(J0 x y||(!(x.op.pure||cl.contains i)&&!(y.op.pure||cl.contains j)&&(x.YC||y.YC)))||((aGR ops.toList []).getD j 0).testBit i
   |_,_=>true)&&
 cl.all (fun i=>match al[i]? with|some x=>!x.YC|none=>true))
section
variable{P:Program}{C:Callee}{fl base aA hend:Nat}{μ0:Mu}{h0:AH}{w0:World}
theorem Um{R:Type}{r:R}(hC:gF P C)(hm:P.follows .mixedOrders=true){id:Nat}{ops:Array Oper}{al:List cw}{cl:List Nat}(ok1:iW P ops ops.toList al=true)(ok2:ahL ops al cl=true)
 {K:List Value→AH→Option R} (hK:∀s h,K s h=some r→h.next≤hend) {s:List Value} {h:AH} {a:Act} {w:World} {μ:Mu} {Q:Exit→Act→World→Prop} (e:sX C fl al s h K=some r)
 (aGh:∀(S:Nat→List Value) (H:Nat→AH) (V:Nat→Value),S 0=s→H 0=h→(∀(i:Nat) x,al[i]?=some x→EP C fl x (S i) (H i)=some (V i,H (i+1))∧S (i+1)=tA (S i) x.dst (V i))→
  ∀j∈cl,∀x,al[j]?=some x→H (j+1)=H j∧∀p,p≤al.length→∀f,EP C f x (S j) (H p)=some (V j,H p))
 (g:Good fl base aA hend μ0 h0 w0 μ h w s a) (hQ:∀s' h' a' w' μ',K s' h'=some r→Good fl base aA hend μ0 h0 w0 μ' h' w' s' a'→Q .normal a' w'):(Code.region id ops true).wp P Q a w:=by
 obtain⟨S,H,V,s0,e0,nM,hk⟩:=ahE e
 have hcm:=aGh S H V s0 e0 nM
 unfold ahL at ok2
 simp only[Bool.and_eq_true,List.all_eq_true,List.mem_range] at ok2
 obtain⟨o1,o2,o3⟩:=ok2
 have hl:=IH ok1
 have hlen:al.length=ops.size:=by rw[hl];simp
 have d:DR P C fl base aA ops al S H V (fun i=>(∃x,al[i]?=some x∧x.op.pure=true)∨i∈cl):={
  hC:=hC,len:=hlen
  ok:=fun i o x ho hx=>MV ok1 i o x (by simpa using ho) hx
  aQp:=fun i o ho e he hb=>by
   have:=EU o1 i o (by simpa using ho) e he hb
   omega
  ord:=fun E hE i j x y hij hx hy hmo hEj=>by
   have h1:=o2 j (List.getElem?_eq_some_iff.1 hy).1 i hij
   rw[hx,hy] at h1
   have h2:(J0 x y||(!(x.op.pure||cl.contains i)&&!(y.op.pure||cl.contains j)&&(x.YC||y.YC)))=true:=by
    rcases hmo with hd|⟨n1,n2,h3⟩
    ·rw[hd];rfl
    ·have p1:x.op.pure=false:=by cases hxp:x.op.pure with|false=>rfl|true=>exact absurd (.inl ⟨x,hx,hxp⟩) n1
     have p2:y.op.pure=false:=by cases hyp:y.op.pure with|false=>rfl|true=>exact absurd (.inl ⟨y,hy,hyp⟩) n2
     have c1:cl.contains i=false:=by
      cases hc:cl.contains i with
      |false=>rfl
      |true=>exact absurd (.inr (by simpa using hc)) n1
     have c2:cl.contains j=false:=by
      cases hc:cl.contains j with
      |false=>rfl
      |true=>exact absurd (.inr (by simpa using hc)) n2
     rw[p1,p2,c1,c2]
     rcases h3 with h3|h3<;>simp[h3]
   simp only[h2,Bool.not_true,Bool.false_or] at h1
   refine Uk (E:=E) ops.toList [] (fun j i hb=>by simp at hb) (fun j o ho hj=>?_) j i h1 hEj
   exact hE j o (by simpa using ho) (by simpa using hj)
  run:=nM
  fl0:=by rw[e0];exact g.ctx.bR
  wf0:=by rw[e0];exact g.ctx.gd.bnd
  hb:=g.ctx.hb
  calm:=fun j x hx hc=>by
   rcases hc with⟨y,hy,hp⟩|hc
   ·rw[hx] at hy;injection hy with hy;subst hy
    have:=abL hp (nM j x hx).1
    exact⟨this.1,fun p _ f=>this.2 f (H p)⟩
   ·exact hcm j hc x hx
  aFH:=fun j x hx hp=>.inl ⟨x,hx,hp⟩
  asK:=fun j x hx hi hc=>by
   rcases hc with⟨y,hy,hp⟩|hc
   ·rw[hx] at hy;injection hy with hy;subst hy
    rw[hi.1] at hp;cases hp
   ·have:=o3 j hc
    rw[hx] at this
    simp only[Bool.not_eq_true'] at this
    have h3:=hi.2
    rw[this] at h3;cases h3}
 refine wp_region_any hm ?_
 have p1:cJ fl base aA μ h w μ h {w with drawn:=w.drawn+1}:=cJ.heap g.ctx.gd rfl rfl rfl rfl
 obtain⟨p,q1,q2,q3,q4⟩:=QF al al.length 0 (by omega)
 have hq:=d.quiet (i:=0) q1 q2 fun k y k1 k2 hy=>q4 k y k1 k2 hy
 have aqa:(H al.length).next≤hend:=hK _ _ hk
 have hfr:iU μ (H 0).next hend:=by rw[e0];exact g.fresh
 have aGk:Dd base aA μ (H 0) {w with drawn:=w.drawn+1}:=by rw[e0];exact p1.gd
 have hg:cJ fl base aA μ (H 0) {w with drawn:=w.drawn+1} μ (H p) {w with drawn:=w.drawn+1}:=
  cJ.ahF aGk hq (d.wf q2) (hfr.sub (Nat.le_refl _) (Nat.le_trans (d.mono (i:=p) (j:=al.length) q2 (Nat.le_refl _)) aqa))
 have p1':cJ fl base aA μ (H 0) w μ (H 0) {w with drawn:=w.drawn+1}:=by rw[e0];exact p1
 have hL:∀i,¬(Array.replicate ops.size false).getD i false=true:=by
  intro i
  rw[Array.getD_eq_getD_getElem?,Array.getElem?_replicate]
  split<;>simp
 have v:QG d μ w a hend (Array.replicate ops.size false) a {w with drawn:=w.drawn+1} μ s p:={
  size:=by simp
  dc:=fun k o _ hk=>absurd hk (hL k)
  dfr:=rfl
  t:=p1.axB g.ctx.gd (fun b h1 h2=>by omega) g.ctx.t
  cut:=fun t=>⟨0,Nat.zero_le _,fun i x _ _ hi=>absurd hi (hL i),fun i x _ _ _=>Nat.zero_le _,by rw[s0]⟩
  ple:=q2
  pat:=fun x hx=>⟨q3 x hx,hL p⟩
  plt:=fun i x hi hx Iu=>absurd Iu (q4 i x (Nat.zero_le _) hi hx)
  post:=p1'.trans hg (Nat.le_refl _)
  fresh:=fun i hi _=>hfr.sub (d.mono (i:=0) (j:=i) (Nat.zero_le _) (by omega)) (Nat.le_trans (d.mono (i:=i+1) (j:=al.length) (by omega) (Nat.le_refl _)) aqa)
  ahv:=hfr.sub (d.mono (i:=0) (j:=al.length) (Nat.zero_le _) (Nat.le_refl _)) (Nat.le_refl _)
  hr:=g.ctx.hr}
 refine ali (d:=d) (μ0:=μ) (w0:=w) (a0:=a) (hend:=hend) (fun a' w' μ' ht hd hp=>?_) ops.size _ a _ μ s p v (by rw[s0]) ?_
 ·rw[e0] at hp
  exact hQ _ _ a' w' μ' hk (g.next (r:=r) hp ht hd)
 ·unfold left
  exact Nat.le_trans List.countP_le_length (by simp)
theorem aq4(hC:gF P C)(hm:P.follows .mixedOrders=true){f:FuncId}{fd:Func}{id nt:Nat}{ops:Array Oper}{al:List cw}{cl:List Nat}(hfd:P.funcs[f]?=some fd)(hc:fd.body=some (.region id ops true))(k2:fd.ntmps=nt)(k3:fd.results=#[])
 (ok1:iW P ops ops.toList al=true) (ok2:ahL ops al cl=true) {args:List Value} {h h1:AH} {v:Value}
 (e:sX C fl al (args++List.replicate (nt-args.length) undef) h (fun _ h=>some (.tuple ⟨[]⟩,h))=some (v,h1))
 (aGh:∀(S:Nat→List Value) (H:Nat→AH) (V:Nat→Value),S 0=args++List.replicate (nt-args.length) undef→H 0=h→(∀(i:Nat) x,al[i]?=some x→EP C fl x (S i) (H i)=some (V i,H (i+1))∧S (i+1)=tA (S i) x.dst (V i))→
  ∀j∈cl,∀x,al[j]?=some x→H (j+1)=H j∧∀p,p≤al.length→∀f,EP C f x (S j) (H p)=some (V j,H p))
 {μ:Mu} {w:World} {args':List Value} (sm:Dd base aA μ h w) (hb:base≤fl) (bR:fl≤h.next) (hr:aA≤w.heap.size)
 (ha:bN μ (dD w) args args') (hf:iU μ h.next h1.next):
 Calls P f args'.toArray w fun e w'=>∃v' μ',e=.returned v'∧cJ fl base aA μ h w μ' h1 w'∧cU μ' (dD w') v v':=by
 refine calls_of_wp hfd hc ?_
 have ht:bN μ (dD w) (args++List.replicate (nt-args.length) undef) (args'.toArray++Array.replicate (fd.ntmps-args'.toArray.size) undef).toList:=by
  simp only[Array.toList_append,Array.toList_replicate,List.size_toArray]
  rw[k2,←ha.1]
  refine ha.append ⟨by simp,fun i h1 h2=>?_⟩
  rw[List.getElem_replicate]
  exact .xU _
 have g:Good fl base aA h1.next μ h w μ h w (args++List.replicate (nt-args.length) undef) {tmps:=args'.toArray++Array.replicate (fd.ntmps-args'.toArray.size) undef,defers:=[]}:=
  ⟨cJ.refl sm,⟨sm,hb,bR,hr,ht⟩,rfl,hf⟩
 refine Um (r:=(v,h1)) hC hm ok1 ok2 (K:=fun _ h=>some (.tuple ⟨[]⟩,h)) ?_ e aGh g ?_
 ·intro s' h' he
  simp only[Option.some.injEq,Prod.mk.injEq] at he
  rw[he.2];exact Nat.le_refl _
 ·intro s' h' a' w' μ' he g'
  simp only[Option.some.injEq,Prod.mk.injEq] at he
  obtain⟨rfl,rfl⟩:=he
  refine⟨g'.dfr,.tuple #[],?_,.tuple #[],μ',rfl,g'.post,?_⟩
  ·unfold results
   rw[k3,Array.mapM_eq_mapM_toList]
   simp only[List.mapM_nil,Sem.run_bind,Sem.run_map,Sem.run_pure,Result.andThen_ok]
   rfl
  ·exact .tuple rfl (fun i h1 h2=>by cases h1)
end
end Go.Abs
end
section
namespace Go.Fld
section
variable{p:Nat}[NeZero p]
def sm:Nat→(Nat→Fin p)→Fin p
 |0,_=>0
 |n+1,f=>sm n f+f n
theorem fK{n:Nat}{f g:Nat→Fin p}(h:∀i,i<n→f i=g i):sm n f=sm n g:=by
 induction n with
 |zero=>rfl
 |succ n ih=>simp only[sm];rw[ih fun i hi=>h i (by omega),h n (by omega)]
theorem EX(n:Nat):sm n (fun _=>(0:Fin p))=0:=by
 induction n with
 |zero=>rfl
 |succ n ih=>simp only[sm,ih];grind
theorem aq5(n:Nat)(f g:Nat→Fin p):sm n (fun i=>f i+g i)=sm n f+sm n g:=by
 induction n with
 |zero=>simp only[sm];grind
 |succ n ih=>simp only[sm,ih];grind
theorem aBj(n:Nat)(f g:Nat→Fin p):sm n (fun i=>f i-g i)=sm n f-sm n g:=by
 induction n with
 |zero=>simp only[sm];grind
 |succ n ih=>simp only[sm,ih];grind
theorem abQ(n:Nat)(a:Fin p)(f:Nat→Fin p):sm n (fun i=>a*f i)=a*sm n f:=by
 induction n with
 |zero=>simp only[sm];grind
 |succ n ih=>simp only[sm,ih];grind
theorem ati(n:Nat)(a:Fin p)(f:Nat→Fin p):sm n (fun i=>f i*a)=sm n f*a:=by
 induction n with
 |zero=>simp only[sm];grind
 |succ n ih=>simp only[sm,ih];grind
theorem atj(n m:Nat)(f:Nat→Nat→Fin p):sm n (fun i=>sm m (f i))=sm m (fun j=>sm n (fun i=>f i j)):=by
 induction n with
 |zero=>simp only[sm];exact(EX m).symm
 |succ n ih=>simp only[sm,ih];rw[←aq5]
theorem aq6{n k:Nat}(hk:k<n){f:Nat→Fin p}(h:∀i,i<n→i≠k→f i=0):sm n f=f k:=by
 induction n with
 |zero=>omega
 |succ n ih=>
  simp only[sm]
  by_cases e:k=n
  ·subst e
   rw[fK (g:=fun _=>0) fun i hi=>h i (by omega) (by omega),EX];grind
  ·rw[ih (by omega) fun i hi=>h i (by omega),h n (by omega) (by omega)];grind
variable(m:Nat)(low:Nat→Fin p)
abbrev V(p:Nat):=Nat→Fin p
def Sup(m:Nat)(v:V p):Prop:=∀j,m≤j→v j=0
def yM(x y:V p):V p:=fun j=>x j+y j
def aGV(x:V p):V p:=fun j=> -x j
def T(v:V p):V p:=fun j=>if j<m then (if j=0 then 0 else v (j-1))-v (m-1)*low j else 0
def tp:Nat→V p→V p
 |0,v=>v
 |n+1,v=>T m low (tp n v)
def lc(n:Nat)(a:Nat→Fin p)(f:Nat→V p):V p:=fun j=>sm n (fun i=>a i*f i j)
def e0:V p:=fun j=>if j=0 then 1 else 0
def Cy(x y:V p):V p:=lc m y (fun i=>tp m low i x)
theorem aTc(n:Nat)(a:Nat→Fin p)(f:Nat→V p):T m low (lc n a f)=lc n a (fun i=>T m low (f i)):=by
 funext j
 unfold T lc
 by_cases h:j<m
 ·simp only[if_pos h]
  by_cases h0:j=0
  ·simp only[if_pos h0]
   refine Eq.trans (b:=sm n (fun _=>0)-sm n (fun i=>a i*f i (m-1))*low j) (by rw[EX]) ?_
   rw[←ati,←aBj]
   exact fK fun i _=>by grind
  ·simp only[if_neg h0]
   rw[←ati,←aBj]
   exact fK fun i _=>by grind
 ·simp only[if_neg h]
  rw[fK (g:=fun _=>0) fun i _=>by grind,EX]
theorem aBk(k n:Nat)(a:Nat→Fin p)(f:Nat→V p):tp m low k (lc n a f)=lc n a (fun i=>tp m low k (f i)):=by
 induction k with
 |zero=>rfl
 |succ k ih=>simp only[tp];rw[ih,aTc]
theorem abR(k l:Nat)(x:V p):tp m low (k+l) x=tp m low k (tp m low l x):=by
 induction k with
 |zero=>simp[tp]
 |succ k ih=>rw[Nat.add_right_comm];simp only[tp];rw[ih]
theorem aTd(x:V p):Sup m (T m low x):=fun j hj=>by unfold T;rw[if_neg (by omega)]
theorem aPS{x:V p}(h:Sup m x)(k:Nat):Sup m (tp m low k x):=by
 cases k with
 |zero=>exact h
 |succ k=>exact aTd m low _
theorem aPT{n:Nat}{a:Nat→Fin p}{f:Nat→V p}(h:∀i,i<n→Sup m (f i)):Sup m (lc n a f):=fun j hj=>by
 unfold lc
 rw[fK (g:=fun _=>0) fun i hi=>by rw[h i hi j hj];grind,EX]
theorem aGW{x:V p}(h:Sup m x)(y:V p):Sup m (Cy m low x y):=aPT m fun i _=>aPS m low h i
theorem atk(i:Nat)(hi:i<m):tp m low i e0=fun j=>if j=i then 1 else 0:=by
 induction i with
 |zero=>rfl
 |succ i ih=>
  simp only[tp]
  rw[ih (by omega)]
  funext j
  unfold T
  dsimp only
  by_cases h:j<m
  ·rw[if_pos h,if_neg (show ¬m-1=i by omega)]
   by_cases h0:j=0
   ·subst h0;simp;grind
   ·rw[if_neg h0]
    by_cases h1:j=i+1
    ·rw[if_pos (by omega),if_pos h1];grind
    ·rw[if_neg (by omega),if_neg h1];grind
  ·rw[if_neg h,if_neg (by omega)]
theorem aBl{x:V p}(h:Sup m x):lc m x (fun i=>tp m low i e0)=x:=by
 funext j
 unfold lc
 by_cases hj:j<m
 ·rw[aq6 (k:=j) hj]
  ·dsimp only;rw[atk m low j hj];simp;grind
  ·intro i hi lZ
   dsimp only
   rw[atk m low i hi]
   simp only
   rw[if_neg (by omega)];grind
 ·rw[h j (by omega),fK (g:=fun _=>0) fun i hi=>by dsimp only;rw[atk m low i hi];dsimp only;rw[if_neg (by omega)];grind,EX]
theorem ahM{x y:V p}(hx:Sup m x):Cy m low x y=lc m y (fun j=>lc m x (fun i=>tp m low (i+j) e0)):=by
 unfold Cy
 congr 1
 funext j
 conv=>lhs;rw[←aBl m low hx]
 rw[aBk]
 congr 1
 funext i
 rw[←abR,Nat.add_comm]
theorem mul_comm{x y:V p}(hx:Sup m x)(hy:Sup m y):Cy m low x y=Cy m low y x:=by
 rw[ahM m low hx,ahM m low hy]
 funext k
 unfold lc
 rw[fK (g:=fun j=>sm m (fun i=>y j*(x i*tp m low (i+j) e0 k))) fun j _=>(abQ _ _ _).symm,atj]
 refine fK fun i _=>?_
 rw[←abQ]
 refine fK fun j _=>?_
 rw[Nat.add_comm];grind
theorem mul_right_comm(x y z:V p):Cy m low (Cy m low x y) z=Cy m low (Cy m low x z) y:=by
 unfold Cy
 have:∀y z:V p,lc m z (fun i=>tp m low i (lc m y fun i=>tp m low i x))=lc m z (fun i=>lc m y (fun j=>tp m low (i+j) x)):=by
  intro y z
  congr 1
  funext i
  rw[aBk]
  congr 1
  funext j
  rw[←abR]
 rw[this,this]
 funext k
 unfold lc
 rw[fK (g:=fun j=>sm m (fun i=>z j*(y i*tp m low (j+i) x k))) fun j _=>(abQ _ _ _).symm,atj]
 refine fK fun i _=>?_
 rw[←abQ]
 refine fK fun j _=>?_
 rw[Nat.add_comm];grind
theorem mul_assoc{x y z:V p}(hx:Sup m x)(hy:Sup m y)(hz:Sup m z):Cy m low (Cy m low x y) z=Cy m low x (Cy m low y z):=by
 rw[mul_comm m low hx (aGW m low hy z),mul_comm m low hx hy]
 exact mul_right_comm m low y x z
theorem add_mul(x y z:V p):Cy m low z (yM x y)=yM (Cy m low z x) (Cy m low z y):=by
 funext k
 unfold Cy yM lc
 rw[←aq5]
 exact fK fun i _=>by grind
theorem mul_one(hm:0<m)(x:V p):Cy m low x e0=x:=by
 funext k
 unfold Cy lc
 rw[aq6 (k:=0) hm]
 ·simp[e0,tp];grind
 ·intro i hi h0
  unfold e0;rw[if_neg h0];grind
end
end Go.Fld
end
section
namespace Go.Fld
def bn(p:Nat):Nat→Nat→List Nat
 |0,_=>[]
 |m+1,x=>x%p::bn p m (x/p)
def eH(p:Nat):List Nat→Nat
 |[]=>0
 |d::ds=>d+p*eH p ds
def kd(p top b:Nat):List Nat→List Nat→List Nat→List Nat
 |o::os,l::ls,a::aS=>(o+(p-top)*l+b*a)%p::kd p top b os ls aS
 |_,_,_=>[]
def zS:List Nat→Nat
 |[]=>0
 |[x]=>x
 |_::y::l=>zS (y::l)
def agI(p:Nat)(low a:List Nat)(b:Nat)(out:List Nat):List Nat:=kd p (zS out) b (0::out) low a
def gM:Nat→List Nat
 |0=>[]
 |n+1=>0::gM n
def mulL(p:Nat)(low a:List Nat):List Nat→List Nat
 |[]=>gM low.length
 |b::bs=>agI p low a b (mulL p low a bs)
def xo(p:Nat):List Nat→List Nat→List Nat
 |a::aS,b::bs=>(a+b)%p::xo p aS bs
 |_,_=>[]
def Dm(p:Nat):List Nat→List Nat
 |[]=>[]
 |a::aS=>(p-a)%p::Dm p aS
def Small(p:Nat)(l:List Nat):Prop:=∀a∈l,a<p
theorem eO(p m x:Nat):(bn p m x).length=m:=by
 induction m generalizing x with
 |zero=>rfl
 |succ m ih=>simp[bn,ih]
theorem nZ{p:Nat}(hp:0<p)(m x:Nat):Small p (bn p m x):=by
 induction m generalizing x with
 |zero=>intro a h;cases h
 |succ m ih=>
  intro a h
  rcases List.mem_cons.1 h with rfl|h
  ·exact Nat.mod_lt _ hp
  ·exact ih _ a h
theorem aq7{p:Nat}(m x:Nat)(h:x<p^m):eH p (bn p m x)=x:=by
 induction m generalizing x with
 |zero=>simp at h;subst h;rfl
 |succ m ih=>
  rw[Nat.pow_succ] at h
  simp only[bn,eH]
  rw[ih _ (Nat.div_lt_of_lt_mul (by rw[Nat.mul_comm];exact h))]
  exact Nat.mod_add_div x p
theorem aq8{p:Nat}(l:List Nat)(h:Small p l):bn p l.length (eH p l)=l:=by
 induction l with
 |nil=>rfl
 |cons a l ih=>
  have ha:a<p:=h a (List.mem_cons_self ..)
  simp only[List.length_cons,bn,eH]
  rw[Nat.add_mul_mod_self_left,Nat.mod_eq_of_lt ha,Nat.add_mul_div_left _ _ (by omega),Nat.div_eq_of_lt ha,Nat.zero_add,ih fun b hb=>h b (List.mem_cons_of_mem _ hb)]
theorem aq9{p:Nat}(l:List Nat)(h:Small p l):eH p l<p^l.length:=by
 induction l with
 |nil=>simp[eH]
 |cons a l ih=>
  have ha:a<p:=h a (List.mem_cons_self ..)
  have:=ih fun b hb=>h b (List.mem_cons_of_mem _ hb)
  simp only[eH,List.length_cons,Nat.pow_succ]
  calc a+p*eH p l<p+p*eH p l:=by omega
   _=p*(eH p l+1):=by rw[Nat.mul_add];omega
   _≤p*p^l.length:=Nat.mul_le_mul_left _ this
   _=_:=Nat.mul_comm ..
theorem QK(n:Nat):(gM n).length=n:=by
 induction n with
 |zero=>rfl
 |succ n ih=>simp[gM,ih]
theorem IJ{p:Nat}(hp:0<p)(n:Nat):Small p (gM n):=by
 induction n with
 |zero=>intro a h;cases h
 |succ n ih=>
  intro a h
  rcases List.mem_cons.1 h with rfl|h
  ·exact hp
  ·exact ih a h
theorem Wd(p top b:Nat)(os ls aS:List Nat):(kd p top b os ls aS).length=min os.length (min ls.length aS.length):=by
 induction os generalizing ls aS with
 |nil=>simp[kd]
 |cons o os ih=>
  cases ls with
  |nil=>simp[kd]
  |cons l ls=>cases aS with
   |nil=>simp[kd]
   |cons a aS=>simp only[kd,List.length_cons,ih];omega
theorem ara{p:Nat}(hp:0<p)(top b:Nat)(os ls aS:List Nat):Small p (kd p top b os ls aS):=by
 induction os generalizing ls aS with
 |nil=>intro a h;simp[kd] at h
 |cons o os ih=>
  cases ls with
  |nil=>intro a h;simp[kd] at h
  |cons l ls=>cases aS with
   |nil=>intro a h;simp[kd] at h
   |cons a aS=>
    intro c h
    rcases List.mem_cons.1 h with rfl|h
    ·exact Nat.mod_lt _ hp
    ·exact ih _ _ c h
theorem BP{p:Nat}{low a:List Nat}(ha:a.length=low.length)(bs:List Nat):(mulL p low a bs).length=low.length:=by
 induction bs with
 |nil=>exact QK _
 |cons b bs ih=>simp only[mulL,agI,Wd,List.length_cons];omega
theorem zT{p:Nat}(hp:0<p)(low a bs:List Nat):Small p (mulL p low a bs):=by
 cases bs with
 |nil=>exact IJ hp _
 |cons b bs=>exact ara hp _ _ _ _ _
theorem alp(p:Nat)(a b:List Nat):(xo p a b).length=min a.length b.length:=by
 induction a generalizing b with
 |nil=>simp[xo]
 |cons x a ih=>cases b with
  |nil=>simp[xo]
  |cons y b=>simp only[xo,List.length_cons,ih];omega
theorem MY{p:Nat}(hp:0<p)(a b:List Nat):Small p (xo p a b):=by
 induction a generalizing b with
 |nil=>intro c h;simp[xo] at h
 |cons x a ih=>cases b with
  |nil=>intro c h;simp[xo] at h
  |cons y b=>
   intro c h
   rcases List.mem_cons.1 h with rfl|h
   ·exact Nat.mod_lt _ hp
   ·exact ih _ c h
theorem alq(p:Nat)(a:List Nat):(Dm p a).length=a.length:=by
 induction a with
 |nil=>rfl
 |cons x a ih=>simp[Dm,ih]
theorem MZ{p:Nat}(hp:0<p)(a:List Nat):Small p (Dm p a):=by
 induction a with
 |nil=>intro c h;simp[Dm] at h
 |cons x a ih=>
  intro c h
  rcases List.mem_cons.1 h with rfl|h
  ·exact Nat.mod_lt _ hp
  ·exact ih c h
theorem abS(l:List Nat){j:Nat}(h:l.length≤j):l.getD j 0=0:=by rw[List.getD_eq_getElem?_getD,List.getElem?_eq_none h];rfl
theorem mW(l:List Nat){j:Nat}(h:j<l.length):l.getD j 0=l[j]:=by rw[List.getD_eq_getElem?_getD,List.getElem?_eq_getElem h];rfl
section
variable{p:Nat}[NeZero p]
def vec(l:List Nat):V p:=fun j=>Fin.ofNat p (l.getD j 0)
theorem atl(l:List Nat):Sup l.length (vec (p:=p) l):=fun j hj=>by unfold vec;rw[abS _ (by omega)];rfl
theorem aGX{l k:List Nat}(h:l.length=k.length)(hl:Small p l)(hk:Small p k)(e:vec (p:=p) l=vec k):l=k:=by
 apply List.ext_getElem h
 intro i h1 h2
 have:=congrFun e i
 unfold vec at this
 rw[mW _ h1,mW _ h2] at this
 have:=congrArg Fin.val this
 simp only[Fin.ofNat] at this
 rwa[Nat.mod_eq_of_lt (hl _ (List.getElem_mem h1)),Nat.mod_eq_of_lt (hk _ (List.getElem_mem h2))] at this
theorem abT(n:Nat):Fin.ofNat p (n%p)=Fin.ofNat p n:=by
 apply Fin.ext;simp[Fin.ofNat]
theorem abU(a b:Nat):Fin.ofNat p (a+b)=Fin.ofNat p a+Fin.ofNat p b:=by
 apply Fin.ext;simp[Fin.ofNat,Fin.val_add]
theorem arb(a b:Nat):Fin.ofNat p (a*b)=Fin.ofNat p a*Fin.ofNat p b:=by
 apply Fin.ext;simp[Fin.ofNat,Fin.val_mul,Nat.mul_mod]
theorem J2:Fin.ofNat p 0=0:=rfl
theorem aGY:Fin.ofNat p p=0:=by apply Fin.ext;simp[Fin.ofNat]
theorem arc{a:Nat}(h:a≤p):Fin.ofNat p (p-a)= -Fin.ofNat p a:=by
 have h1:Fin.ofNat p (p-a)+Fin.ofNat p a=0:=by rw[←abU,Nat.sub_add_cancel h,aGY]
 grind
theorem Un(n:Nat):vec (p:=p) (gM n)=fun _=>0:=by
 funext j
 unfold vec
 induction n generalizing j with
 |zero=>rfl
 |succ n ih=>cases j with
  |zero=>rfl
  |succ j=>exact ih j
theorem aBm{a b:List Nat}(h:a.length=b.length):vec (p:=p) (xo p a b)=yM (vec a) (vec b):=by
 funext j
 unfold vec yM
 induction a generalizing b j with
 |nil=>cases b with
  |nil=>simp[xo,J2]
  |cons y b=>cases h
 |cons x a ih=>cases b with
  |nil=>cases h
  |cons y b=>cases j with
   |zero=>simp[xo,abT,abU]
   |succ j=>simpa [xo] using ih (by simpa using h) j
theorem aBn{a:List Nat}(h:Small p a):vec (p:=p) (Dm p a)=aGV (vec a):=by
 funext j
 unfold vec aGV
 induction a generalizing j with
 |nil=>simp[Dm,J2];grind
 |cons x a ih=>cases j with
  |zero=>simp only[Dm,List.getD_cons_zero,abT];exact arc (Nat.le_of_lt (h x (List.mem_cons_self ..)))
  |succ j=>simpa [Dm] using ih (fun b hb=>h b (List.mem_cons_of_mem _ hb)) j
theorem J3(l:List Nat):zS l=l.getD (l.length-1) 0:=by
 induction l with
 |nil=>rfl
 |cons x l ih=>cases l with
  |nil=>rfl
  |cons y l=>rw[zS,ih];simp
theorem aBo(top b:Nat)(ht:top≤p)(os ls aS:List Nat)(h1:ls.length≤os.length)(h2:aS.length=ls.length)(j:Nat):
 Fin.ofNat p ((kd p top b os ls aS).getD j 0)=if j<ls.length then Fin.ofNat p (os.getD j 0)-Fin.ofNat p top*Fin.ofNat p (ls.getD j 0)+Fin.ofNat p b*Fin.ofNat p (aS.getD j 0) else 0:=by
 induction ls generalizing os aS j with
 |nil=>
  have:kd p top b os [] aS=[]:=by cases os<;>rfl
  rw[this];simp[J2]
 |cons l ls ih=>
  obtain⟨o,os,rfl⟩:∃o os',os=o::os':=by cases os with|nil=>simp at h1|cons o os=>exact⟨o,os,rfl⟩
  obtain⟨a,aS,rfl⟩:∃o os',aS=o::os':=by cases aS with|nil=>simp at h2|cons o os=>exact⟨o,os,rfl⟩
  cases j with
  |zero=>simp only[kd,List.getD_cons_zero,abT,abU,arb,arc ht,List.length_cons];rw[if_pos (by omega)];grind
  |succ j=>
   simp only[kd,List.getD_cons_succ,List.length_cons]
   rw[ih os aS (by simpa using h1) (by simpa using h2)]
   by_cases hj:j<ls.length
   ·rw[if_pos hj,if_pos (by omega)]
   ·rw[if_neg hj,if_neg (by omega)]
theorem aBp{low a out:List Nat}(b:Nat)(ho:out.length=low.length)(ha:a.length=low.length)(hs:Small p out):
 vec (p:=p) (agI p low a b out)=yM (T low.length (vec low) (vec out)) (fun j=>Fin.ofNat p b*vec a j):=by
 funext j
 unfold agI yM
 have ht:zS out≤p:=by
  rw[J3]
  by_cases h:out.length-1<out.length
  ·rw[mW _ h];exact Nat.le_of_lt (hs _ (List.getElem_mem h))
  ·rw[abS _ (by omega)];exact Nat.zero_le _
 unfold vec
 rw[aBo _ _ ht _ _ _ (by simp;omega) ha]
 unfold T
 by_cases hj:j<low.length
 ·rw[if_pos hj,if_pos hj,J3,ho]
  cases j with
  |zero=>simp[J2]
  |succ j=>simp
 ·rw[if_neg hj,if_neg hj];dsimp only;rw[abS a (by omega),J2];grind
theorem aGZ(n:Nat)(f:Nat→Fin p):sm (n+1) f=f 0+sm n (fun i=>f (i+1)):=by
 induction n with
 |zero=>simp only[sm];grind
 |succ n ih=>rw[sm,ih];simp only[sm];grind
theorem aBq{low a:List Nat}(bs:List Nat)(ha:a.length=low.length):
 vec (p:=p) (mulL p low a bs)=lc bs.length (vec bs) (fun i=>tp low.length (vec low) i (vec a)):=by
 induction bs with
 |nil=>simp only[mulL,Un];rfl
 |cons b bs ih=>
  simp only[mulL]
  rw[aBp b (BP ha bs) ha (zT (Nat.pos_of_ne_zero (NeZero.ne p)) _ _ _),ih,aTc]
  funext j
  unfold yM lc
  rw[List.length_cons,aGZ]
  simp only[tp,vec,List.getD_cons_zero,List.getD_cons_succ]
  grind
end
end Go.Fld
end
