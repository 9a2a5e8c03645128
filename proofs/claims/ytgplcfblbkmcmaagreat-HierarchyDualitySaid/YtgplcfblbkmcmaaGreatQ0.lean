/- Shortened by a program of ours out of readable texts. -/
import Derived.Orders
import Derived.Below
import Derived.Laws.AppendOwn
import Derived.Laws.Sem
import Derived.Laws.Entries
import Derived.Laws.Slices
import Derived.Laws.CopyRow
import Derived.ChangeKeysEq
import Derived.Laws.MakeOwn
import Derived.Great.BuildSlice
import Derived.LoopN
section
namespace Go.Abs
structure AH where
 next:Nat
 gR:Nat→Option (List Value)
def AH.cell(h:AH)(b o:Nat):Option Value:=match h.gR b with|some cs=>cs[o]?|none=>none
def AH.alloc(h:AH)(cs:List Value):AH:=⟨h.next+1,fun b=>if b=h.next then some cs else h.gR b⟩
def AH.put(h:AH)(b:Nat)(x:Option (List Value)):AH:=⟨h.next,fun c=>if c=b then x else h.gR c⟩
def nZ:Nat:=2^63
def kA:Nat:=2^47
structure Sl where
 a:Option Addr
 l:Nat
 c:Nat
def Sl.v(s:Sl):Value:=.slice s.a s.l s.c
inductive S0 where
 |any|int (k:IntKind)|bool|slice|ptr|kB
inductive S1 where
 |one (s:S0)|agg (l:List S0)
inductive S2 where
 |one (s:S1)|jo (l:List S1)
section
variable{R:Type}
def asInt(k:IntKind)(v:Value)(K:Int→Option R):Option R:=match v with
 |.int k' n=>if k'=k then K n else none
 |_=>none
def asBool(v:Value)(K:Bool→Option R):Option R:=match v with
 |.bool b=>K b
 |_=>none
def X1(v:Value)(K:Bool→Option R)(k:Option R):Option R:=match v with
 |.bool b=>K b
 |.complex .f32 _ _=>k
 |_=>none
def bB(v:Value)(K:Sl→Option R):Option R:=match v with
 |.slice a l c=>K ⟨a,l,c⟩
 |_=>none
def cQ(v:Value)(K:Addr→Option R):Option R:=match v with
 |.pointer (some a)=>K a
 |_=>none
def fV(v:Value)(K:Option Addr→Option R):Option R:=match v with
 |.pointer a=>K a
 |_=>none
def oi(s:S0)(v:Value)(K:Value→Option R):Option R:=match s with
 |.any=>K v
 |.int k=>asInt k v fun n=>K (.int k n)
 |.bool=>asBool v fun b=>K (.bool b)
 |.slice=>bB v fun s=>K (.slice s.a s.l s.c)
 |.ptr=>cQ v fun a=>K (.pointer (some a))
 |.kB=>fV v fun a=>K (.pointer a)
def Al:List S0→List Value→(List Value→Option R)→Option R
 |[],vs,K=>match vs with|[]=>K []|_=>none
 |s::ss,vs,K=>match vs with|v::vs=>oi s v fun v'=>Al ss vs fun yA=>K (v'::yA)|[]=>none
def asAgg(v:Value)(K:List Value→Option R):Option R:=match v with
 |.agg cs=>K cs.toList
 |_=>none
def FW(s:S1)(v:Value)(K:Value→Option R):Option R:=match s with
 |.one s=>oi s v K
 |.agg l=>asAgg v fun cs=>Al l cs fun eC=>K (.agg ⟨eC⟩)
def Am:List S1→List Value→(List Value→Option R)→Option R
 |[],vs,K=>match vs with|[]=>K []|_=>none
 |s::ss,vs,K=>match vs with|v::vs=>FW s v fun v'=>Am ss vs fun yA=>K (v'::yA)|[]=>none
def bj(v:Value)(K:List Value→Option R):Option R:=match v with
 |.tuple cs=>K cs.toList
 |_=>none
def KR(s:S2)(v:Value)(K:Value→Option R):Option R:=match s with
 |.one s=>FW s v K
 |.jo l=>bj v fun cs=>Am l cs fun eC=>K (.tuple ⟨eC⟩)
def ld(h:AH)(a:Addr)(K:Value→Option R):Option R:=match h.cell a.block a.off with
 |some v=>K v
 |none=>none
def KS(s:S0)(h:AH)(b o:Nat)(K:Value→Option R):Option R:=match h.cell b o with
 |some v=>oi s v K
 |none=>none
def Ft:List S0→AH→Nat→Nat→(List Value→Option R)→Option R
 |[],_,_,_,K=>K []
 |s::ss,h,b,o,K=>KS s h b o fun v=>Ft ss h b (o+1) fun vs=>K (v::vs)
def mb:List Value→Nat→List Value→List Value
 |cs,_,[]=>cs
 |cs,o,x::xs=>mb (cs.set o x) (o+1) xs
def yC:Value→Bool
 |.agg _|.tuple _|.complex _ _ _=>false
 |_=>true
def st(fl:Nat)(h:AH)(a:Addr)(xs:List Value)(K:AH→Option R):Option R:=match h.gR a.block with
 |some cs=>if fl≤a.block then if 0<xs.length then if a.off+xs.length≤cs.length then if xs.all yC=true then K (h.put a.block (some (mb cs a.off xs))) else none else none else none else none
 |none=>none
def Cu(h:AH)(a:Option Addr)(n:Nat)(K:List Value→Option R):Option R:=match a with
 |none=>if n=0 then K [] else none
 |some a=>match h.gR a.block with
  |some cs=>if a.off+n≤cs.length then K ((cs.drop a.off).take n) else none
  |none=>none
def fW(fl jY bytes:Nat)(s x:Sl)(h:AH)(K:Sl→AH→Option R):Option R:=
 if x.l=0 then K s h else
 if (s.l+x.l)*bytes≤kA then
  Cu h x.a (x.l*jY) fun xs=>
  match s.a with
  |none=>if s.l=0∧s.c=0 then K ⟨some ⟨h.next,0,none⟩,x.l,nZ+jY⟩ (h.alloc xs) else none
  |some a=>
   if s.c<nZ then
    if s.l+x.l≤s.c then
     st fl h ⟨a.block,a.off+s.l*jY,none⟩ xs fun h1=>K ⟨s.a,s.l+x.l,s.c⟩ h1
    else Cu h s.a (s.l*jY) fun ys=>K ⟨some ⟨h.next,0,none⟩,s.l+x.l,nZ+jY⟩ (h.alloc (ys++xs))
   else
    if fl≤a.block∧s.c=nZ+jY∧xs.all yC=true then
     Cu h s.a (s.l*jY) fun ys=>K ⟨some ⟨h.next,0,none⟩,s.l+x.l,nZ+jY⟩ ((h.put a.block none).alloc (ys++xs))
    else none
 else none
def KT(z:List Value)(n:Nat):List Value:=(List.replicate n z).flatten
def xg(bytes:Nat)(z:List Value)(l c:Int)(h:AH)(K:Sl→AH→Option R):Option R:=
 if 0≤l∧l≤c∧c*bytes≤kA then K ⟨some ⟨h.next,0,none⟩,l.toNat,c.toNat⟩ (h.alloc (KT z c.toNat)) else none
def sub(jY:Nat)(s:Sl)(lo hi mx:Option Int)(K:Sl→Option R):Option R:=
 if s.c<nZ then
  if 0≤lo.getD 0∧lo.getD 0≤hi.getD s.l∧hi.getD s.l≤mx.getD s.c∧mx.getD s.c≤s.c then
   K ⟨if mx.getD s.c=lo.getD 0 then s.a else s.a.map fun a=>⟨a.block,a.off+(lo.getD 0).toNat*jY,none⟩,(hi.getD s.l-lo.getD 0).toNat,(mx.getD s.c-lo.getD 0).toNat⟩
  else none
 else if s.c=nZ+jY∧mx.isNone=true then
  if 0≤lo.getD 0∧lo.getD 0≤hi.getD s.l∧hi.getD s.l≤s.l then
   K ⟨s.a.map fun a=>⟨a.block,a.off+(lo.getD 0).toNat*jY,none⟩,(hi.getD s.l-lo.getD 0).toNat,s.c⟩
  else none
 else none
def idx(jY:Nat)(s:Sl)(i:Int)(K:Addr→Option R):Option R:=match s.a with
 |some a=>if 0≤i then if i<s.l then K ⟨a.block,a.off+i.toNat*jY,none⟩ else none else none
 |none=>none
def cpy(fl jY:Nat)(d s:Sl)(h:AH)(K:Int→AH→Option R):Option R:=
 if min s.l d.l=0 then K 0 h else
 Cu h s.a (min s.l d.l*jY) fun xs=>match d.a with
  |some a=>st fl h a xs fun h1=>K (min s.l d.l:Nat) h1
  |none=>none
end
inductive mo where
 |t (i:Nat)|c (v:Value)|f (id:Nat)
def ev(st:List Value):mo→Value
 |.t i=>st.getD i undef
 |.c v=>v
 |.f id=>.func (.func id) #[] #[]
inductive H8 where
 |mv (x:mo)
 |pick (c a b:mo)
 |box (x:mo)
 |alloc (z:List Value)
 |build (z:List Value) (parts:List (Nat×Nat×mo))
 |aQ (len:Nat) (z:List Value) (parts:List (Nat×Nat×mo))
 |load (sh:S1) (a:mo)
 |store (n:Nat) (a x:mo)
 |cg (x:mo)
 |bin (op:BinOp) (k:IntKind) (x y:mo)
 |sh (left:Bool) (k yk:IntKind) (x y:mo)
 |cmp (op:BinOp) (k:IntKind) (x y:mo)
 |beq (neg:Bool) (x y:mo)
 |Fq (neg:Bool) (x:mo)
 |not (x:mo)
 |neg (k:IntKind) (x:mo)
 |conv (src dst:IntKind) (x:mo)
 |xd (f:FuncId) (first captured:List mo)
 |cD (bytes:Nat) (z:List Value) (l c:mo)
 |slice (jY:Nat) (x:mo) (lo hi mx:Option mo)
 |cu (off:Nat) (x:mo)
 |dx (jY:Nat) (x i:mo)
 |KI (x:mo) (i:Nat)
 |call (f:mo) (args:List mo) (sh:S2)
 |len (x:mo)
 |append (jY bytes:Nat) (s x:mo)
 |copy (jY:Nat) (d s:mo)
 |mm (isMax:Bool) (x y:mo)
 |KJ (k:IntKind) (bs:List Nat) (i:mo)
def atU:List Nat:=[0,1,2,2,3,3,3,3,4,4,4,4,4,4,4,4,5,5,5,5,5,5,5,5,5,5,5,5,5,5,5,5,6,6,6,6,6,6,6,6,6,6,6,6,6,6,6,6,6,6,6,6,6,6,6,6,6,6,6,6,6,6,6,6,7,7,7,7,7,7,7,7,7,7,7,7,7,7,7,7,7,7,7,7,7,7,7,7,7,7,7,7,7,7,7,7,7,7,7,7,7,7,7,7,7,7,7,7,7,7,7,7,7,7,7,7,7,7,7,7,7,7,7,7,7,7,7,7,8,8,8,8,8,8,8,8,8,8,8,8,8,8,8,8,8,8,8,8,8,8,8,8,8,8,8,8,8,8,8,8,8,8,8,8,8,8,8,8,8,8,8,8,8,8,8,8,8,8,8,8,8,8,8,8,8,8,8,8,8,8,8,8,8,8,8,8,8,8,8,8,8,8,8,8,8,8,8,8,8,8,8,8,8,8,8,8,8,8,8,8,8,8,8,8,8,8,8,8,8,8,8,8,8,8,8,8,8,8,8,8,8,8,8,8,8,8,8,8,8,8,8,8,8,8,8,8]
abbrev Callee:=Nat→FuncId→List Value→AH→Option (Value×AH)
def pO(st:List Value):List (Nat×Nat×mo)→List Value→Option (List Value)
 |[],z=>some z
 |(off,size,x)::ps,z=>
  let cs:=(ev st x).cells.toList
  if cs.length=size then if off+size≤z.length then if cs.all yC=true then pO st ps (mb z off cs) else none else none else none
def Cx(op:BinOp)(k:IntKind)(a b:Int):Option Int:=match op with
 |.add=>some (k.wrap (a+b))
 |.sub=>some (k.wrap (a-b))
 |.mul=>some (k.wrap (a*b))
 |.quo=>if b=0 then none else some (k.wrap (a.tdiv b))
 |.rem=>if b=0 then none else some (a.tmod b)
 |.and=>some (k.wrap (BitVec.ofInt k.bits a&&&BitVec.ofInt k.bits b).toNat)
 |.or=>some (k.wrap (BitVec.ofInt k.bits a|||BitVec.ofInt k.bits b).toNat)
 |.xor=>some (k.wrap (BitVec.ofInt k.bits a^^^BitVec.ofInt k.bits b).toNat)
 |_=>none
def ai2(op:BinOp)(a b:Int):Option Bool:=match op with
 |.eql=>some (a==b)
 |.neq=>some (a !=b)
 |.lss=>some (decide (a<b))
 |.leq=>some (decide (a≤b))
 |.gtr=>some (decide (a>b))
 |.geq=>some (decide (a≥b))
 |_=>none
def X2(left:Bool)(k:IntKind)(x y:Int):Option Int:=
 if y<0 then none else if left then some (k.wrap (x*2^min y.toNat k.bits)) else some (x.fdiv (2^min y.toNat k.bits))
section
variable{R:Type}
def PZ(C:Callee)(fl:Nat)(f:Value)(args:List Value)(sh:S2)(h:AH)(K:Value→AH→Option R):Option R:=match f with
 |.func (.func g) a b=>match C fl g (a.toList++args++b.toList) h with
  |some (v,h1)=>KR sh v fun v'=>K v' h1
  |none=>none
 |_=>none
def fX(st:List Value)(o:Option mo)(K:Option Int→Option R):Option R:=match o with
 |none=>K none
 |some x=>match ev st x with
  |.int _ n=>K (some n)
  |_=>none
def cM(C:Callee)(fl:Nat)(s:List Value)(h:AH)(o:H8)(K:Value→AH→Option R):Option R:=match o with
 |.mv x=>K (ev s x) h
 |.pick c a b=>asBool (ev s c) fun t=>if t=true then K (ev s a) h else K (ev s b) h
 |.box x=>if (ev s x).cells.toList.all yC=true then K (.pointer (some ⟨h.next,0,none⟩)) (h.alloc (ev s x).cells.toList) else none
 |.alloc z=>K (.pointer (some ⟨h.next,0,none⟩)) (h.alloc z)
 |.build z ps=>match pO s ps z with
  |some cs=>K (.agg ⟨cs⟩) h
  |none=>none
 |.aQ len z ps=>match pO s ps z with
  |some cs=>K (.slice (some ⟨h.next,0,none⟩) len len) (h.alloc cs)
  |none=>none
 |.load sh a=>cQ (ev s a) fun a=>match sh with
  |.one s0=>KS s0 h a.block a.off fun v=>K v h
  |.agg l=>Ft l h a.block a.off fun vs=>K (.agg ⟨vs⟩) h
 |.store n a x=>cQ (ev s a) fun a=>if (ev s x).cells.toList.length=n then st fl h a (ev s x).cells.toList fun h1=>K undef h1 else none
 |.cg x=>cQ (ev s x) fun a=>K (.pointer (some a)) h
 |.bin op k x y=>asInt k (ev s x) fun a=>asInt k (ev s y) fun b=>match Cx op k a b with
  |some n=>K (.int k n) h
  |none=>none
 |.sh left k yk x y=>asInt k (ev s x) fun a=>asInt yk (ev s y) fun b=>match X2 left k a b with
  |some n=>K (.int k n) h
  |none=>none
 |.cmp op k x y=>asInt k (ev s x) fun a=>asInt k (ev s y) fun b=>match ai2 op a b with
  |some n=>K (.bool n) h
  |none=>none
 |.beq neg x y=>asBool (ev s x) fun a=>asBool (ev s y) fun b=>K (.bool (if neg then !(a==b) else a==b)) h
 |.Fq neg x=>bB (ev s x) fun a=>K (.bool (if neg then !a.a.isNone else a.a.isNone)) h
 |.not x=>asBool (ev s x) fun b=>K (.bool (!b)) h
 |.neg k x=>asInt k (ev s x) fun n=>K (.int k (k.wrap (0-n))) h
 |.conv src dst x=>asInt src (ev s x) fun n=>K (.int dst (dst.wrap n)) h
 |.xd f a b=>K (.func (.func f) ⟨a.map (ev s)⟩ ⟨b.map (ev s)⟩) h
 |.cD bytes z l c=>asInt .i64 (ev s l) fun l=>asInt .i64 (ev s c) fun c=>xg bytes z l c h fun v h1=>K (.slice v.a v.l v.c) h1
 |.slice jY x lo hi mx=>bB (ev s x) fun v=>fX s lo fun lo=>fX s hi fun hi=>fX s mx fun mx=>sub jY v lo hi mx fun v=>K (.slice v.a v.l v.c) h
 |.cu off x=>cQ (ev s x) fun a=>K (.pointer (some ⟨a.block,a.off+off,none⟩)) h
 |.dx jY x i=>bB (ev s x) fun v=>asInt .i64 (ev s i) fun i=>idx jY v i fun a=>K (.pointer (some a)) h
 |.KI x i=>bj (ev s x) fun vs=>match vs[i]? with
  |some v=>K v h
  |none=>none
 |.call f args sh=>PZ C fl (ev s f) (args.map (ev s)) sh h K
 |.len x=>bB (ev s x) fun v=>K (.int .i64 v.l) h
 |.append jY bytes a x=>bB (ev s a) fun a=>bB (ev s x) fun x=>fW fl jY bytes a x h fun v h1=>K (.slice v.a v.l v.c) h1
 |.copy jY d x=>bB (ev s d) fun d=>bB (ev s x) fun x=>cpy fl jY d x h fun n h1=>K (.int .i64 n) h1
 |.KJ k bs i=>asInt k (ev s i) fun n=>if 0≤n then match bs[n.toNat]? with
  |some b=>K (.int .u8 b) h
  |none=>none
  else none
 |.mm isMax x y=>asInt .i64 (ev s x) fun a=>asInt .i64 (ev s y) fun b=>K (.int .i64 (if isMax then (if b>a then b else a) else (if b<a then b else a))) h
end
structure bD where
 dst:Option Nat
 op:H8
 guard:Option (Nat×Bool)
 KN:Bool
def yD:Value:=.complex .f32 7 7
def mT(s:List Value)(d:Option Nat)(v:Value):List Value:=match d with
 |some d=>s.set d v
 |none=>s
inductive fY where
 |op (o:bD)
 |fc (g:Nat) (want:Bool) (os:List bD)
def Mh(g:Nat)(want:Bool):List bD→List bD
 |[]=>[]
 |o::os=>{o with guard:=some (g,want)}::Mh g want os
def flat:List fY→List bD
 |[]=>[]
 |.op o::is=>{o with guard:=none}::flat is
 |.fc g want os::is=>Mh g want os++flat is
inductive aa where
 |skip
 |seq (a b:aa)
 |cond (c:mo) (a b:aa)
 |block (id:Nat) (body:aa)
 |loop (body:aa)
 |exit (id:Nat)
 |ret
 |region (ops:List fY) (kill:List Nat)
inductive oj where
 |normal|exit (id:Nat)|ret
def Cy:List Nat→List Value→List Value
 |[],s=>s
 |t::ts,s=>Cy ts (s.set t undef)
section
variable{R:Type}
def pL(C:Callee)(fl:Nat):List bD→List Value→AH→(List Value→AH→Option R)→Option R
 |[],s,h,K=>K s h
 |o::os,s,h,K=>match o.guard with
  |none=>cM C (if o.KN=true then fl else h.next) s h o.op fun v h1=>pL C fl os (mT s o.dst v) h1 K
  |some (g,want)=>X1 (s.getD g undef) (fun b=>
   if b=want then cM C (if o.KN=true then fl else h.next) s h o.op fun v h1=>pL C fl os (mT s o.dst v) h1 K
   else pL C fl os (mT s o.dst yD) h K) (pL C fl os (mT s o.dst yD) h K)
def FX(C:Callee)(fl:Nat):List bD→List Value→AH→(List Value→AH→Option R)→Option R
 |[],s,h,K=>K s h
 |o::os,s,h,K=>cM C (if o.KN=true then fl else h.next) s h o.op fun v h1=>FX C fl os (mT s o.dst v) h1 K
def H9:List bD→List Value→List Value
 |[],s=>s
 |o::os,s=>H9 os (mT s o.dst yD)
def yd(C:Callee)(fl:Nat):List fY→List Value→AH→(List Value→AH→Option R)→Option R
 |[],s,h,K=>K s h
 |.op o::is,s,h,K=>cM C (if o.KN=true then fl else h.next) s h o.op fun v h1=>yd C fl is (mT s o.dst v) h1 K
 |.fc g want os::is,s,h,K=>X1 (s.getD g undef) (fun b=>
  if b=want then FX C fl os (s.set g (.bool want)) h fun s h=>yd C fl is s h K
  else yd C fl is (H9 os (s.set g (.bool !want))) h K) (yd C fl is (H9 os s) h K)
def aR:Nat→(List Value→AH→(List Value→AH→Option R)→Option R)→List Value→AH→Option R
 |0,_,_,_=>none
 |k+1,step,s,h=>step s h fun s h=>aR k step s h
def bO(C:Callee)(fl k:Nat):aa→List Value→AH→(oj→List Value→AH→Option R)→Option R
 |.skip,s,h,K=>K .normal s h
 |.seq a b,s,h,K=>bO C fl k a s h fun f s h=>match f with
  |.normal=>bO C fl k b s h K
  |.exit i=>K (.exit i) s h
  |.ret=>K .ret s h
 |.cond c a b,s,h,K=>asBool (ev s c) fun t=>if t=true then bO C fl k a s h K else bO C fl k b s h K
 |.block id c,s,h,K=>bO C fl k c s h fun f s h=>match f with
  |.normal=>K .normal s h
  |.exit i=>if i=id then K .normal s h else K (.exit i) s h
  |.ret=>K .ret s h
 |.loop c,s,h,K=>aR k (fun s h next=>bO C fl k c s h fun f s h=>match f with
  |.normal=>next s h
  |.exit i=>K (.exit i) s h
  |.ret=>K .ret s h) s h
 |.exit id,s,h,K=>K (.exit id) s h
 |.ret,s,h,K=>K .ret s h
 |.region ops kill,s,h,K=>yd C fl ops s h fun s h=>K .normal (Cy kill s) h
end
inductive Cz where
 |tmp (t:Nat)
 |cell (t:Nat) (sh:S1)
structure ay where
 ntmps:Nat
 body:aa
 results:List Cz
def abZ:List Value→Value
 |[v]=>v
 |vs=>.tuple ⟨vs⟩
def FY{R:Type}:List Cz→List Value→AH→(List Value→Option R)→Option R
 |[],_,_,K=>K []
 |.tmp t::rs,s,h,K=>FY rs s h fun vs=>K (s.getD t undef::vs)
 |.cell t sh::rs,s,h,K=>cQ (s.getD t undef) fun a=>match sh with
  |.one s0=>KS s0 h a.block a.off fun v=>FY rs s h fun vs=>K (v::vs)
  |.agg l=>Ft l h a.block a.off fun cs=>FY rs s h fun vs=>K (.agg ⟨cs⟩::vs)
def aD(rs:List Cz):oj→List Value→AH→Option (Value×AH)
 |.normal,s,h=>FY rs s h fun vs=>some (abZ vs,h)
 |.ret,s,h=>FY rs s h fun vs=>some (abZ vs,h)
 |.exit _,_,_=>none
def bl(C:Callee)(fl k:Nat)(af:ay)(args:List Value)(h:AH):Option (Value×AH):=
 bO C fl k af.body (args++List.replicate (af.ntmps-args.length) undef) h (aD af.results)
def BA(T:FuncId→Option ay)(E:Callee):Nat→Callee
 |0,_,_,_,_=>none
 |k+1,fl,f,args,h=>match T f with
  |some af=>bl (BA T E k) fl k af args h
  |none=>E fl f args h
end Go.Abs
end
section
namespace Go.Abs
def cX(w:World)(rb:Nat):Nat:=match w.heap[rb]? with
 |some (.cells c _ _)=>c.size
 |_=>0
abbrev Mu:=Nat→Option (Nat×Nat)
inductive cB (μ:Mu) (sz:Nat→Nat):Value→Value→Prop
 |uv (v):cB μ sz (.tuple #[]) v
 |skip:cB μ sz yD (.tuple #[])
 |bool (b):cB μ sz (.bool b) (.bool b)
 |int (k n):cB μ sz (.int k n) (.int k n)
 |Mb:cB μ sz (.pointer none) (.pointer none)
 |ptr {b o s rb off}:μ b=some (rb,off)→cB μ sz (.pointer (some ⟨b,o,s⟩)) (.pointer (some ⟨rb,off+o,none⟩))
 |kX:cB μ sz (.slice none 0 0) (.slice none 0 0)
 |slice {b o s rb off l c}:μ b=some (rb,off)→c<nZ→l≤c→cB μ sz (.slice (some ⟨b,o,s⟩) l c) (.slice (some ⟨rb,off+o,none⟩) l c)
 |mi {b o s rb off o' l c es}:μ b=some (rb,off)→(l=0∨o'=off+o)→l≤c→o'+c*es≤sz rb→
  cB μ sz (.slice (some ⟨b,o,s⟩) l (nZ+es)) (.slice (some ⟨rb,o',none⟩) l c)
 |TJ {x a}:cB μ sz (.slice (some x) 0 0) (.slice (some a) 0 0)
 |nilFunc:cB μ sz .nilFunc .nilFunc
 |func {f} {f1 f2 c1 c2:List Value}:f1.length=f2.length→(∀(i:Nat) (h1:i<f1.length) (h2:i<f2.length),cB μ sz f1[i] f2[i])→
  c1.length=c2.length→(∀(i:Nat) (h1:i<c1.length) (h2:i<c2.length),cB μ sz c1[i] c2[i])→
  cB μ sz (.func (.func f) ⟨f1⟩ ⟨c1⟩) (.func (.func f) ⟨f2⟩ ⟨c2⟩)
 |agg {f1 f2:List Value}:f1.length=f2.length→(∀(i:Nat) (h1:i<f1.length) (h2:i<f2.length),cB μ sz f1[i] f2[i])→cB μ sz (.agg ⟨f1⟩) (.agg ⟨f2⟩)
 |tuple {f1 f2:List Value}:f1.length=f2.length→(∀(i:Nat) (h1:i<f1.length) (h2:i<f2.length),cB μ sz f1[i] f2[i])→cB μ sz (.tuple ⟨f1⟩) (.tuple ⟨f2⟩)
def bq(μ:Mu)(sz:Nat→Nat)(xs ys:List Value):Prop:=
 xs.length=ys.length∧∀(i:Nat) (h1:i<xs.length) (h2:i<ys.length),cB μ sz xs[i] ys[i]
theorem bq.nil{μ sz}:bq μ sz [] []:=⟨rfl,fun i h1=>by simp at h1⟩
theorem bq.cons{μ sz x y xs ys}(h:cB μ sz x y)(t:bq μ sz xs ys):bq μ sz (x::xs) (y::ys):=
 ⟨by simp[t.1],fun i h1 h2=>by
  cases i with
  |zero=>exact h
  |succ i=>exact t.2 i (by simpa using h1) (by simpa using h2)⟩
theorem bq.append{μ sz xs ys xf ys'}(h:bq μ sz xs ys)(t:bq μ sz xf ys'):bq μ sz (xs++xf) (ys++ys'):=by
 refine⟨by simp[h.1,t.1],fun i h1 h2=>?_⟩
 by_cases hi:i<xs.length
 ·rw[List.getElem_append_left hi,List.getElem_append_left (h.1▸hi)];exact h.2 i hi _
 ·have h3:¬i<ys.length:=h.1▸hi
  rw[List.getElem_append_right (by omega),List.getElem_append_right (by omega)]
  have:=t.2 (i-xs.length) (by simp at h1;omega) (by simp at h2;have:=h.1;omega)
  simp only[h.1] at this ⊢
  exact this
theorem bq.get{μ sz xs ys}(h:bq μ sz xs ys){i:Nat}{v}(hv:xs[i]?=some v):∃v',ys[i]?=some v'∧cB μ sz v v':=by
 obtain⟨hi,rfl⟩:=List.getElem?_eq_some_iff.1 hv
 have By:i<ys.length:=h.1▸hi
 exact⟨ys[i],List.getElem?_eq_getElem By,h.2 i hi By⟩
theorem bq.ab0{μ sz xs ys}(hl:xs.length=ys.length)(h:∀(i:Nat) v,xs[i]?=some v→∃v',ys[i]?=some v'∧cB μ sz v v'):bq μ sz xs ys:=
 ⟨hl,fun i h1 h2=>by
  obtain⟨v',XY,hr⟩:=h i _ (List.getElem?_eq_getElem h1)
  rw[List.getElem?_eq_getElem h2] at XY
  injection XY with XY
  subst XY;exact hr⟩
theorem cB.mono{μ μ':Mu}{sz sz':Nat→Nat}{v v':Value}(h:cB μ sz v v')(hm:∀b x,μ b=some x→μ' b=some x)
 (hs:∀b rb o,μ b=some (rb,o)→sz rb≤sz' rb):cB μ' sz' v v':=by
 induction h with
 |uv v=>exact .uv v
 |skip=>exact .skip
 |bool b=>exact .bool b
 |int k n=>exact .int k n
 |Mb=>exact .Mb
 |ptr h=>exact .ptr (hm _ _ h)
 |kX=>exact .kX
 |slice h hc h1=>exact .slice (hm _ _ h) hc h1
 |mi h h1 h2 h3=>exact .mi (hm _ _ h) h1 h2 (Nat.le_trans h3 (hs _ _ _ h))
 |TJ=>exact .TJ
 |nilFunc=>exact .nilFunc
 |func l1 _ l2 _ ih1 ih2=>exact .func l1 ih1 l2 ih2
 |agg l _ ih=>exact .agg l ih
 |tuple l _ ih=>exact .tuple l ih
structure yB(base an:Nat)(μ:Mu)(h:AH)(w:World):Prop where
 cell:∀b cs rb o,h.gR b=some cs→μ b=some (rb,o)→∀(j:Nat) v,cs[j]?=some v→∃v',w.cell? ⟨rb,o+j,none⟩=some v'∧cB μ (cX w) v v'
 own:∀b cs rb o,base≤b→h.gR b=some cs→μ b=some (rb,o)→an≤rb∧∃c t,w.heap[rb]?=some (.cells c t (0,0))
 inj:∀b b' cs eC rb o o',base≤b→h.gR b=some cs→h.gR b'=some eC→μ b=some (rb,o)→μ b'=some (rb,o')→b=b'
 lt:∀b rb o,μ b=some (rb,o)→rb<w.heap.size
 PS:∀b cs,h.gR b=some cs→b<h.next
structure bZ(fl base an:Nat)(μ:Mu)(h:AH)(w:World)(μ':Mu)(h':AH)(w':World):Prop where
 eW:yB base an μ' h' w'
 mu:∀b,¬(h.next≤b∧b<h'.next)→μ' b=μ b
 nx:h.next≤h'.next
 UB:∀b,b<h.next→b<fl→h'.gR b=h.gR b
 dead:∀b cs,b<h.next→h'.gR b=some cs→∃eC,h.gR b=some eC
 fr:∀rb,rb<w.heap.size→(∀b cs o,fl≤b→b<h.next→h.gR b=some cs→μ b≠some (rb,o))→w'.heap[rb]?=w.heap[rb]?
 sz:∀rb,rb<w.heap.size→cX w' rb=cX w rb
 hs:w.heap.size≤w'.heap.size
 os:w'.os=w.os
 tape:w'.tape=w.tape
 output:w'.output=w.output
 new:∀b cs rb o,h.next≤b→b<h'.next→μ' b=some (rb,o)→h'.gR b=some cs→
  w.heap.size≤rb∨∃b0 cs0 o0,fl≤b0∧b0<h.next∧h.gR b0=some cs0∧μ b0=some (rb,o0)
def gS(μ:Mu)(lo hi:Nat):Prop:=∀b,lo≤b→b<hi→μ b=none
theorem bZ.refl{fl base an μ h w}(hs:yB base an μ h w):bZ fl base an μ h w μ h w where
 eW:=hs
 mu _ _:=rfl
 nx:=Nat.le_refl _
 UB _ _ _:=rfl
 dead _ cs _ h:=⟨cs,h⟩
 fr _ _ _:=rfl
 sz _ _:=rfl
 hs:=Nat.le_refl _
 os:=rfl
 tape:=rfl
 output:=rfl
 new b _ _ _ h1 h2:=by omega
theorem bZ.azv{fl base an μ h w μ' h' w'}(p:bZ fl base an μ h w μ' h' w')(hf:gS μ h.next h'.next):∀b x,μ b=some x→μ' b=some x:=by
 intro b x hb
 rw[p.mu b,hb]
 rintro⟨h1,h2⟩
 rw[hf b h1 h2] at hb;cases hb
theorem bZ.awR{fl base an μ h w μ' h' w'}(p:bZ fl base an μ h w μ' h' w')(s:yB base an μ h w)(hf:gS μ h.next h'.next){v v'}(hv:cB μ (cX w) v v'):cB μ' (cX w') v v':=
 hv.mono (p.azv hf) fun b rb o hb=>by rw[p.sz rb (s.lt b rb o hb)];exact Nat.le_refl _
theorem bZ.agu{fl base an μ h w μ' h' w'}(p:bZ fl base an μ h w μ' h' w')(s:yB base an μ h w)(hf:gS μ h.next h'.next){v v'}(hv:bq μ (cX w) v v'):bq μ' (cX w') v v':=
 ⟨hv.1,fun i h1 h2=>p.awR s hf (hv.2 i h1 h2)⟩
theorem bZ.fresh{fl base an μ h w μ' h' w'}(p:bZ fl base an μ h w μ' h' w'){hi}(hf:gS μ h.next hi):gS μ' h'.next hi:=by
 intro b h1 h2
 rw[p.mu b (by omega)]
 exact hf b (Nat.le_trans p.nx h1) h2
theorem gS.sub{μ lo hi lo' By}(h:gS μ lo hi)(h1:lo≤lo')(h2:By≤hi):gS μ lo' By:=fun b a c=>h b (Nat.le_trans h1 a) (Nat.lt_of_lt_of_le c h2)
theorem bZ.trans{fl PT base an μ h w μ1 h1 w1 μ2 h2 w2}(p:bZ fl base an μ h w μ1 h1 w1)(q:bZ PT base an μ1 h1 w1 μ2 h2 w2)(bN:fl≤PT)
 :bZ fl base an μ h w μ2 h2 w2 where
 eW:=q.eW
 mu b hb:=by
  have:=p.nx;have:=q.nx
  rw[q.mu b (by omega),p.mu b (by omega)]
 nx:=Nat.le_trans p.nx q.nx
 UB b hb hbf:=by rw[q.UB b (Nat.lt_of_lt_of_le hb p.nx) (Nat.lt_of_lt_of_le hbf bN),p.UB b hb hbf]
 dead b cs hb hc:=by
  obtain⟨eC,h'⟩:=q.dead b cs (Nat.lt_of_lt_of_le hb p.nx) hc
  exact p.dead b eC hb h'
 fr rb EO hno:=by
  have e1:=p.fr rb EO hno
  rw[←e1]
  refine q.fr rb (Nat.lt_of_lt_of_le EO p.hs) ?_
  intro b cs o Cv mn FU jr
  by_cases hb:b<h.next
  ·obtain⟨eC,hc'⟩:=p.dead b cs hb FU
   rw[p.mu b (by omega)] at jr
   exact hno b eC o (Nat.le_trans bN Cv) hb hc' jr
  ·rcases p.new b cs rb o (by omega) mn jr FU with hh|⟨b0,cs0,o0,a1,a2,a3,a4⟩
   ·omega
   ·exact hno b0 cs0 o0 a1 a2 a3 a4
 sz rb EO:=by rw[q.sz rb (Nat.lt_of_lt_of_le EO p.hs),p.sz rb EO]
 hs:=Nat.le_trans p.hs q.hs
 os:=q.os.trans p.os
 tape:=q.tape.trans p.tape
 output:=q.output.trans p.output
 new b cs rb o Cv mn jr FU:=by
  by_cases hb:b<h1.next
  ·obtain⟨eC,hc'⟩:=q.dead b cs hb FU
   rw[q.mu b (by omega)] at jr
   exact p.new b eC rb o Cv hb jr hc'
  ·rcases q.new b cs rb o (by omega) mn jr FU with hh|⟨b0,cs0,o0,a1,a2,a3,a4⟩
   ·exact .inl (Nat.le_trans p.hs hh)
   ·by_cases hb0:b0<h.next
    ·obtain⟨eC,hc'⟩:=p.dead b0 cs0 hb0 a3
     rw[p.mu b0 (by omega)] at a4
     exact .inr ⟨b0,eC,o0,Nat.le_trans bN a1,hb0,hc',a4⟩
    ·exact p.new b0 cs0 rb o0 (by omega) a2 a4 a3
theorem bZ.floor{fl PT base an μ h w μ' h' w'}(p:bZ PT base an μ h w μ' h' w')(bN:fl≤PT):bZ fl base an μ h w μ' h' w' where
 eW:=p.eW
 mu:=p.mu
 nx:=p.nx
 UB b hb hbf:=p.UB b hb (Nat.lt_of_lt_of_le hbf bN)
 dead:=p.dead
 fr rb EO hno:=p.fr rb EO fun b cs o h1=>hno b cs o (Nat.le_trans bN h1)
 sz:=p.sz
 hs:=p.hs
 os:=p.os
 tape:=p.tape
 output:=p.output
 new b cs rb o h1 h2 h3 h4:=(p.new b cs rb o h1 h2 h3 h4).imp id fun⟨b0,cs0,o0,a1,a2⟩=>⟨b0,cs0,o0,Nat.le_trans bN a1,a2⟩
end Go.Abs
end
section
namespace Go.Abs
def ext(μ:Mu)(b:Nat)(x:Nat×Nat):Mu:=fun c=>if c=b then some x else μ c
theorem bX(μ b x):ext μ b x b=some x:=by simp[ext]
theorem gK{μ:Mu}{b x c}(h:c≠b):ext μ b x c=μ c:=by simp[ext,h]
theorem ab1{μ:Mu}{b x}(h:μ b=none):∀c y,μ c=some y→ext μ b x c=some y:=by
 intro c y hc
 rw[gK];exact hc
 rintro rfl;rw[h] at hc;cases hc
theorem xt{w w':World}{rb:Nat}(h:w'.heap[rb]?=w.heap[rb]?):cX w' rb=cX w rb:=by simp[cX,h]
theorem fZ{w:World}{rb c t fr}(h:w.heap[rb]?=some (.cells c t fr)):cX w rb=c.size:=by simp[cX,h]
theorem DO{w w':World}{rb:Nat}(h:w'.heap[rb]?=w.heap[rb]?)(o:Nat):w'.cell? ⟨rb,o,none⟩=w.cell? ⟨rb,o,none⟩:=by simp[World.cell?,h]
theorem mU{w:World}{rb c t fr}(h:w.heap[rb]?=some (.cells c t fr))(o:Nat):w.cell? ⟨rb,o,none⟩=c[o]?:=by simp[World.cell?,h]
theorem yB.heap{base an μ h w w'}(s:yB base an μ h w)(e:w'.heap=w.heap):yB base an μ h w' where
 cell b cs rb o h1 h2 j v hv:=by
  obtain⟨v',a,b⟩:=s.cell b cs rb o h1 h2 j v hv
  refine⟨v',by simpa [World.cell?,e] using a,b.mono (fun _ _ h=>h) fun _ _ _ _=>by simp[cX,e]⟩
 own b cs rb o h0 h1 h2:=by rw[e];exact s.own b cs rb o h0 h1 h2
 inj:=s.inj
 lt b rb o hb:=by rw[e];exact s.lt b rb o hb
 PS:=s.PS
theorem bZ.heap{fl base an μ h w w'}(s:yB base an μ h w)(e:w'.heap=w.heap)(h1:w'.os=w.os)(h2:w'.tape=w.tape)(h3:w'.output=w.output):bZ fl base an μ h w μ h w' where
 eW:=s.heap e
 mu _ _:=rfl
 nx:=Nat.le_refl _
 UB _ _ _:=rfl
 dead _ cs _ h:=⟨cs,h⟩
 fr _ _ _:=by rw[e]
 sz _ _:=by simp[cX,e]
 hs:=by rw[e];exact Nat.le_refl _
 os:=h1
 tape:=h2
 output:=h3
 new b _ _ _ h1 h2:=by omega
theorem bZ.alloc{fl base an μ h w}(s:yB base an μ h w)(hb:base≤h.next)(hr:an≤w.heap.size)(hf:μ h.next=none){cs:List Value}{c:Array Value}{t:TypeId}
 (hc:∀(j:Nat) v,cs[j]?=some v→∃v',c[j]?=some v'∧cB μ (cX w) v v'):
 bZ fl base an μ h w (ext μ h.next (w.heap.size,0)) (h.alloc cs) (w.alloc (.cells c t)):=by
 have hn:(w.alloc (.cells c t)).heap[w.heap.size]?=some (.cells c t (0,0)):=heap_alloc_new w _
 have ho:∀rb,rb<w.heap.size→(w.alloc (.cells c t)).heap[rb]?=w.heap[rb]?:=fun rb h=>heap_alloc_old w _ rb h
 have Sr:(w.alloc (.cells c t)).heap.size=w.heap.size+1:=by show(w.heap.push _).size=_;simp
 have hle:=ab1 (x:=(w.heap.size,0)) hf
 have DK:∀b rb o,μ b=some (rb,o)→cX w rb≤cX (w.alloc (.cells c t)) rb:=fun b rb o hb=>by rw[xt (ho rb (s.lt b rb o hb))];exact Nat.le_refl _
 have mj:∀b eC,(h.alloc cs).gR b=some eC→(b=h.next∧eC=cs)∨(b≠h.next∧h.gR b=some eC):=by
  intro b eC hb
  by_cases e:b=h.next
  ·simp[AH.alloc,e] at hb;exact .inl ⟨e,hb.symm⟩
  ·simp[AH.alloc,e] at hb;exact .inr ⟨e,hb⟩
 refine {eW:={cell:=?_,own:=?_,inj:=?_,lt:=?_,PS:=?_},mu:=?_,nx:=?_,UB:=?_,dead:=?_,fr:=?_,sz:=?_,hs:=?_,os:=rfl,tape:=rfl,output:=rfl,new:=?_}
 ·intro b eC rb o FU jr j v hv
  rcases mj b eC FU with⟨rfl,rfl⟩|⟨fA,H4⟩
  ·rw[bX] at jr;injection jr with jr;injection jr with e1 e2;subst e1;subst e2
   obtain⟨v',h1,h2⟩:=hc j v hv
   exact⟨v',by rw[mU hn,Nat.zero_add];exact h1,h2.mono hle DK⟩
  ·rw[gK fA] at jr
   obtain⟨v',h1,h2⟩:=s.cell b eC rb o H4 jr j v hv
   exact⟨v',by rw[DO (ho rb (s.lt b rb o jr))];exact h1,h2.mono hle DK⟩
 ·intro b eC rb o XW FU jr
  rcases mj b eC FU with⟨rfl,rfl⟩|⟨fA,H4⟩
  ·rw[bX] at jr;injection jr with jr;injection jr with e1 e2;subst e1
   exact⟨hr,c,t,hn⟩
  ·rw[gK fA] at jr
   rw[ho rb (s.lt b rb o jr)]
   exact s.own b eC rb o XW H4 jr
 ·intro b b' cs1 cs2 rb o o' XW h1 h2 m1 m2
  rcases mj b cs1 h1 with⟨rfl,rfl⟩|⟨fA,h1'⟩
  ·rcases mj b' cs2 h2 with⟨rfl,rfl⟩|⟨Sn,h2'⟩
   ·rfl
   ·rw[bX] at m1;injection m1 with m1;injection m1 with e1 e2;subst e1
    rw[gK Sn] at m2
    exact absurd (s.lt b' _ _ m2) (by omega)
  ·rw[gK fA] at m1
   rcases mj b' cs2 h2 with⟨rfl,rfl⟩|⟨Sn,h2'⟩
   ·rw[bX] at m2;injection m2 with m2;injection m2 with e1 e2;subst e1
    exact absurd (s.lt b _ _ m1) (by omega)
   ·rw[gK Sn] at m2
    exact s.inj b b' cs1 cs2 rb o o' XW h1' h2' m1 m2
 ·intro b rb o jr
  rw[Sr]
  by_cases e:b=h.next
  ·subst e;rw[bX] at jr;injection jr with jr;injection jr with e1 e2;omega
  ·rw[gK e] at jr;have:=s.lt b rb o jr;omega
 ·intro b eC FU
  show b<h.next+1
  rcases mj b eC FU with⟨rfl,rfl⟩|⟨fA,H4⟩
  ·omega
  ·have:=s.PS b eC H4;omega
 ·intro b hb
  refine gK ?_
  rintro rfl
  exact hb ⟨Nat.le_refl _,Nat.lt_succ_self _⟩
 ·exact Nat.le_succ _
 ·intro b hb _
  simp[AH.alloc,Nat.ne_of_lt hb]
 ·intro b eC hb FU
  rcases mj b eC FU with⟨rfl,rfl⟩|⟨fA,H4⟩
  ·omega
  ·exact⟨_,H4⟩
 ·intro rb EO _;exact ho rb EO
 ·intro rb EO;exact xt (ho rb EO)
 ·rw[Sr];omega
 ·intro b eC rb o h1 h2 jr _
  have:b=h.next:=by have:b<h.next+1:=h2;omega
  subst this
  rw[bX] at jr;injection jr with jr;injection jr with e1 e2;exact .inl (by omega)
theorem bZ.kill{fl base an μ h w}(s:yB base an μ h w)(b:Nat)(hb:fl≤b):bZ fl base an μ h w μ (h.put b none) w:=by
 have mj:∀c eC,(h.put b none).gR c=some eC→c≠b∧h.gR c=some eC:=by
  intro c eC hc
  by_cases e:c=b
  ·simp[AH.put,e] at hc
  ·simp[AH.put,e] at hc;exact⟨e,hc⟩
 refine {eW:={cell:=fun c eC rb o h1=>s.cell c eC rb o (mj _ _ h1).2,own:=fun c eC rb o h0 h1=>s.own c eC rb o h0 (mj _ _ h1).2,inj:=fun c c' cs1 cs2 rb o o' h0 h1 h2=>s.inj c c' cs1 cs2 rb o o' h0 (mj _ _ h1).2 (mj _ _ h2).2,lt:=s.lt,PS:=fun c eC h1=>s.PS c eC (mj _ _ h1).2},mu:=fun _ _=>rfl,nx:=Nat.le_refl _,UB:=?_,dead:=fun c eC _ h1=>⟨eC,(mj _ _ h1).2⟩,fr:=fun _ _ _=>rfl,sz:=fun _ _=>rfl,hs:=Nat.le_refl _,os:=rfl,tape:=rfl,output:=rfl,new:=?_}
 ·intro c _ hc
  have:c≠b:=by omega
  simp[AH.put,this]
 ·intro c _ _ _ h1 h2;have:c<h.next:=h2;omega
theorem bZ.set{fl base an μ h w}(s:yB base an μ h w){b rb ob:Nat}{cs eC:List Value}{c c':Array Value}{t:TypeId}(hb:fl≤b)(ank:base≤fl)(FU:h.gR b=some cs)(jr:μ b=some (rb,ob))
 (hg:w.heap[rb]?=some (.cells c t (0,0))) (hs:c'.size=c.size)
 (hc:∀(j:Nat) v,eC[j]?=some v→∃v',c'[ob+j]?=some v'∧cB μ (cX w) v v'):
 bZ fl base an μ h w μ (h.put b (some eC)) (w.setRow rb c'):=by
 have hn:(w.setRow rb c').heap[rb]?=some (.cells c' t (0,0)):=setRow_heap w rb c c' t _ hg
 have ho:∀r,r≠rb→(w.setRow rb c').heap[r]?=w.heap[r]?:=fun r h=>setRow_other w rb r c' h
 have Sr:∀r,cX (w.setRow rb c') r=cX w r:=by
  intro r
  by_cases e:r=rb
  ·subst e;rw[fZ hn,fZ hg,hs]
  ·exact xt (ho r e)
 have DK:∀d r o,μ d=some (r,o)→cX w r≤cX (w.setRow rb c') r:=fun d r o _=>by rw[Sr];exact Nat.le_refl _
 have mj:∀d ds,(h.put b (some eC)).gR d=some ds→(d=b∧ds=eC)∨(d≠b∧h.gR d=some ds):=by
  intro d ds hd
  by_cases e:d=b
  ·simp[AH.put,e] at hd;exact .inl ⟨e,hd.symm⟩
  ·simp[AH.put,e] at hd;exact .inr ⟨e,hd⟩
 have abN:∀d ds,(h.put b (some eC)).gR d=some ds→∃ds',h.gR d=some ds':=by
  intro d ds hd
  rcases mj d ds hd with⟨rfl,_⟩|⟨_,h1⟩
  ·exact⟨cs,FU⟩
  ·exact⟨ds,h1⟩
 refine {eW:={cell:=?_,own:=?_,inj:=?_,lt:=?_,PS:=?_},mu:=fun _ _=>rfl,nx:=Nat.le_refl _,UB:=?_,dead:=fun d ds _ hd=>abN d ds hd,fr:=?_,sz:=fun r _=>Sr r,hs:=by simp,os:=rfl,tape:=rfl,output:=rfl,new:=fun d _ _ _ h1 h2=>by have:d<h.next:=h2;omega}
 ·intro d ds r o hdk KM j v hv
  rcases mj d ds hdk with⟨rfl,rfl⟩|⟨fA,abx⟩
  ·rw[jr] at KM;injection KM with KM;injection KM with e1 e2;subst e1;subst e2
   obtain⟨v',h1,h2⟩:=hc j v hv
   exact⟨v',by rw[mU hn];exact h1,h2.mono (fun _ _ h=>h) DK⟩
  ·have hr:r≠rb:=by
    rintro rfl
    exact fA (s.inj b d cs ds r ob o (Nat.le_trans ank hb) FU abx jr KM).symm
   obtain⟨v',h1,h2⟩:=s.cell d ds r o abx KM j v hv
   exact⟨v',by rw[DO (ho r hr)];exact h1,h2.mono (fun _ _ h=>h) DK⟩
 ·intro d ds r o hdb hdk KM
  obtain⟨ds',h1⟩:=abN d ds hdk
  obtain⟨a1,c1,t1,a2⟩:=s.own d ds' r o hdb h1 KM
  refine⟨a1,?_⟩
  by_cases e:r=rb
  ·subst e;exact⟨c',t,hn⟩
  ·rw[ho r e];exact⟨c1,t1,a2⟩
 ·intro d d' ds1 ds2 r o o' hdb h1 h2 m1 m2
  obtain⟨_,h1'⟩:=abN d ds1 h1
  obtain⟨_,h2'⟩:=abN d' ds2 h2
  exact s.inj d d' _ _ r o o' hdb h1' h2' m1 m2
 ·intro d r o hd;simpa using s.lt d r o hd
 ·intro d ds hd
  obtain⟨_,h1⟩:=abN d ds hd
  exact s.PS d _ h1
 ·intro d _ hd
  have:d≠b:=by omega
  simp[AH.put,this]
 ·intro r hr hno
  refine ho r ?_
  rintro rfl
  exact hno b cs ob hb (s.PS b cs FU) FU jr
theorem bZ.azw{fl base an μ h w}(s:yB base an μ h w){b rb ob o':Nat}{cs zs:List Value}{c c':Array Value}{t:TypeId}(hb:fl≤b)(ank:base≤fl)(FU:h.gR b=some cs)(jr:μ b=some (rb,ob))
 (hf:μ h.next=none) (hg:w.heap[rb]?=some (.cells c t (0,0))) (hs:c'.size=c.size)
 (hc:∀(j:Nat) v,zs[j]?=some v→∃v',c'[o'+j]?=some v'∧cB μ (cX w) v v'):
 bZ fl base an μ h w (ext μ h.next (rb,o')) ((h.put b none).alloc zs) (w.setRow rb c'):=by
 have hn:(w.setRow rb c').heap[rb]?=some (.cells c' t (0,0)):=setRow_heap w rb c c' t _ hg
 have ho:∀r,r≠rb→(w.setRow rb c').heap[r]?=w.heap[r]?:=fun r h=>setRow_other w rb r c' h
 have Sr:∀r,cX (w.setRow rb c') r=cX w r:=by
  intro r
  by_cases e:r=rb
  ·subst e;rw[fZ hn,fZ hg,hs]
  ·exact xt (ho r e)
 have hle:=ab1 (x:=(rb,o')) hf
 have DK:∀d r o,μ d=some (r,o)→cX w r≤cX (w.setRow rb c') r:=fun d r o _=>by rw[Sr];exact Nat.le_refl _
 have hbn:b<h.next:=s.PS b cs FU
 have mj:∀d ds,((h.put b none).alloc zs).gR d=some ds→(d=h.next∧ds=zs)∨(d≠h.next∧d≠b∧h.gR d=some ds):=by
  intro d ds hd
  by_cases e:d=h.next
  ·simp[AH.alloc,AH.put,e] at hd;exact .inl ⟨e,hd.symm⟩
  ·by_cases e2:d=b
   ·simp[AH.alloc,AH.put,e2,Nat.ne_of_lt hbn] at hd
   ·simp[AH.alloc,AH.put,e,e2] at hd;exact .inr ⟨e,e2,hd⟩
 have XW:base≤b:=Nat.le_trans ank hb
 have XN:∀d ds o r,d≠b→h.gR d=some ds→μ d=some (r,o)→r≠rb:=by
  rintro d ds o r fA hd hm rfl
  exact fA (s.inj b d cs ds r ob o XW FU hd jr hm).symm
 refine {eW:={cell:=?_,own:=?_,inj:=?_,lt:=?_,PS:=?_},mu:=?_,nx:=Nat.le_succ _,UB:=?_,dead:=?_,fr:=?_,sz:=fun r _=>Sr r,hs:=by simp,os:=rfl,tape:=rfl,output:=rfl,new:=?_}
 ·intro d ds r o hdk KM j v hv
  rcases mj d ds hdk with⟨rfl,rfl⟩|⟨fA,anq,abx⟩
  ·rw[bX] at KM;injection KM with KM;injection KM with e1 e2;subst e1;subst e2
   obtain⟨v',h1,h2⟩:=hc j v hv
   exact⟨v',by rw[mU hn];exact h1,h2.mono hle DK⟩
  ·rw[gK fA] at KM
   obtain⟨v',h1,h2⟩:=s.cell d ds r o abx KM j v hv
   exact⟨v',by rw[DO (ho r (XN d ds o r anq abx KM))];exact h1,h2.mono hle DK⟩
 ·intro d ds r o hdb hdk KM
  rcases mj d ds hdk with⟨rfl,rfl⟩|⟨fA,anq,abx⟩
  ·rw[bX] at KM;injection KM with KM;injection KM with e1 e2;subst e1
   exact⟨(s.own b cs rb ob XW FU jr).1,c',t,hn⟩
  ·rw[gK fA] at KM
   rw[ho r (XN d ds o r anq abx KM)]
   exact s.own d ds r o hdb abx KM
 ·intro d d' ds1 ds2 r o1 o2 hdb h1 h2 m1 m2
  rcases mj d ds1 h1 with⟨rfl,rfl⟩|⟨fA,anq,h1'⟩
  ·rcases mj d' ds2 h2 with⟨rfl,rfl⟩|⟨Sn,atv,h2'⟩
   ·rfl
   ·rw[bX] at m1;injection m1 with m1;injection m1 with e1 e2;subst e1
    rw[gK Sn] at m2
    exact absurd rfl (XN d' ds2 o2 rb atv h2' m2)
  ·rw[gK fA] at m1
   rcases mj d' ds2 h2 with⟨rfl,rfl⟩|⟨Sn,atv,h2'⟩
   ·rw[bX] at m2;injection m2 with m2;injection m2 with e1 e2;subst e1
    exact absurd rfl (XN d ds1 o1 rb anq h1' m1)
   ·rw[gK Sn] at m2
    exact s.inj d d' ds1 ds2 r o1 o2 hdb h1' h2' m1 m2
 ·intro d r o hd
  rw[setRow_size]
  by_cases e:d=h.next
  ·subst e;rw[bX] at hd;injection hd with hd;injection hd with e1 e2;subst e1;exact s.lt b rb ob jr
  ·rw[gK e] at hd;exact s.lt d r o hd
 ·intro d ds hd
  show d<h.next+1
  rcases mj d ds hd with⟨rfl,rfl⟩|⟨_,_,h1⟩
  ·omega
  ·have:=s.PS d ds h1;omega
 ·intro d hd
  refine gK ?_
  rintro rfl
  exact hd ⟨Nat.le_refl _,Nat.lt_succ_self _⟩
 ·intro d hd hdf
  have h1:d≠b:=by omega
  have h2:d≠h.next:=by omega
  simp[AH.alloc,AH.put,h1,h2]
 ·intro d ds hd hdk
  rcases mj d ds hdk with⟨rfl,rfl⟩|⟨_,_,h1⟩
  ·omega
  ·exact⟨ds,h1⟩
 ·intro r hr hno
  refine ho r ?_
  rintro rfl
  exact hno b cs ob hb hbn FU jr
 ·intro d ds r o h1 h2 KM _
  have:d=h.next:=by have:d<h.next+1:=h2;omega
  subst this
  rw[bX] at KM;injection KM with KM;injection KM with e1 e2;subst e1
  exact .inr ⟨b,cs,ob,hb,hbn,FU,jr⟩
end Go.Abs
end
section
namespace Go.Abs
section
variable{R:Type}{r:R}
theorem aF{k v}{K:Int→Option R}(h:asInt k v K=some r):∃n,v=.int k n∧K n=some r:=by
 unfold asInt at h
 split at h
 ·rename_i k' n
  by_cases e:k'=k
  ·rw[if_pos e] at h;exact⟨n,by rw[e],h⟩
  ·rw[if_neg e] at h;cases h
 ·cases h
theorem vG{v}{K:Bool→Option R}{k:Option R}(h:X1 v K k=some r):(∃b,v=.bool b∧K b=some r)∨(∃x y,v=.complex .f32 x y∧k=some r):=by
 unfold X1 at h
 split at h
 ·exact .inl ⟨_,rfl,h⟩
 ·exact .inr ⟨_,_,rfl,h⟩
 ·cases h
theorem bY{v}{K:Bool→Option R}(h:asBool v K=some r):∃n,v=.bool n∧K n=some r:=by
 unfold asBool at h
 split at h
 ·exact⟨_,rfl,h⟩
 ·cases h
theorem cA{v}{K:Sl→Option R}(h:bB v K=some r):∃s:Sl,v=.slice s.a s.l s.c∧K s=some r:=by
 unfold bB at h
 split at h
 ·exact⟨⟨_,_,_⟩,rfl,h⟩
 ·cases h
theorem dG{v}{K:Addr→Option R}(h:cQ v K=some r):∃a,v=.pointer (some a)∧K a=some r:=by
 unfold cQ at h
 split at h
 ·exact⟨_,rfl,h⟩
 ·cases h
theorem X3{v}{K:Option Addr→Option R}(h:fV v K=some r):∃a,v=.pointer a∧K a=some r:=by
 unfold fV at h
 split at h
 ·exact⟨_,rfl,h⟩
 ·cases h
theorem ab2{v}{K:List Value→Option R}(h:asAgg v K=some r):∃a:List Value,v=.agg ⟨a⟩∧K a=some r:=by
 unfold asAgg at h
 split at h
 ·exact⟨_,rfl,h⟩
 ·cases h
theorem An{v}{K:List Value→Option R}(h:bj v K=some r):∃a:List Value,v=.tuple ⟨a⟩∧K a=some r:=by
 unfold bj at h
 split at h
 ·exact⟨_,rfl,h⟩
 ·cases h
theorem CA{s v}{K:Value→Option R}(h:oi s v K=some r):K v=some r:=by
 cases s with
 |any=>exact h
 |int k=>simp only[oi] at h;obtain⟨n,rfl,h2⟩:=aF h;exact h2
 |bool=>simp only[oi] at h;obtain⟨n,rfl,h2⟩:=bY h;exact h2
 |slice=>simp only[oi] at h;obtain⟨n,rfl,h2⟩:=cA h;exact h2
 |ptr=>simp only[oi] at h;obtain⟨n,rfl,h2⟩:=dG h;exact h2
 |kB=>simp only[oi] at h;obtain⟨n,rfl,h2⟩:=X3 h;exact h2
theorem Ia:∀{ss vs} {K:List Value→Option R},Al ss vs K=some r→K vs=some r
 |[],[],_,h=>h
 |[],_::_,_,h=>by cases h
 |_::_,[],_,h=>by cases h
 |s::ss,v::vs,K,h=>by
  have h1:=CA (K:=fun v'=>Al ss vs fun yA=>K (v'::yA)) h
  exact Ia (K:=fun yA=>K (v::yA)) h1
theorem Mi{s v}{K:Value→Option R}(h:FW s v K=some r):K v=some r:=by
 cases s with
 |one s=>exact CA h
 |agg l=>simp only[FW] at h;obtain⟨n,rfl,h2⟩:=ab2 h;exact Ia (K:=fun cs=>K (.agg ⟨cs⟩)) h2
theorem Ib:∀{ss vs} {K:List Value→Option R},Am ss vs K=some r→K vs=some r
 |[],[],_,h=>h
 |[],_::_,_,h=>by cases h
 |_::_,[],_,h=>by cases h
 |s::ss,v::vs,K,h=>by
  have h1:=Mi (K:=fun v'=>Am ss vs fun yA=>K (v'::yA)) h
  exact Ib (K:=fun yA=>K (v::yA)) h1
theorem Mj{s v}{K:Value→Option R}(h:KR s v K=some r):K v=some r:=by
 cases s with
 |one s=>exact Mi h
 |jo l=>simp only[KR] at h;obtain⟨n,rfl,h2⟩:=An h;exact Ib (K:=fun cs=>K (.tuple ⟨cs⟩)) h2
theorem yE{s h b o}{K:Value→Option R}(e:KS s h b o K=some r):∃v,AH.cell h b o=some v∧K v=some r:=by
 unfold KS at e
 split at e
 ·rename_i v hv;exact⟨v,hv,CA e⟩
 ·cases e
theorem vH:∀{ss h b o} {K:List Value→Option R},Ft ss h b o K=some r→
 ∃vs:List Value,vs.length=ss.length∧(∀(i:Nat) v,vs[i]?=some v→AH.cell h b (o+i)=some v)∧K vs=some r
 |[],h,b,o,K,e=>⟨[],rfl,fun i v hv=>by simp at hv,e⟩
 |s::ss,h,b,o,K,e=>by
  obtain⟨v,hv,e1⟩:=yE (K:=fun v=>Ft ss h b (o+1) fun vs=>K (v::vs)) e
  obtain⟨vs,h1,h2,h3⟩:=vH e1
  refine⟨v::vs,by simp[h1],?_,h3⟩
  intro i u hu
  cases i with
  |zero=>simp at hu;subst hu;exact hv
  |succ i=>have:=h2 i u (by simpa using hu);rwa[show o+(i+1)=o+1+i by omega]
end
def cv0:Value→Value→Bool
 |.bool a,.bool b=>a==b
 |.int k n,.int k' n'=>decide (k=k')&&decide (n=n')
 |.pointer none,.pointer none=>true
 |.slice none 0 0,.slice none 0 0=>true
 |.nilFunc,.nilFunc=>true
 |_,_=>false
def UO:List Value→List Value→Bool
 |[],[]=>true
 |x::xs,y::ys=>cv0 x y&&UO xs ys
 |_,_=>false
def cv(v v':Value):Bool:=match v,v' with
 |.agg xs,.agg ys=>UO xs.toList ys.toList
 |.tuple xs,.tuple ys=>xs.toList.isEmpty&&ys.toList.isEmpty
 |v,v'=>cv0 v v'
theorem adI{μ sz v v'}(h:cv0 v v'=true):cB μ sz v v':=by
 unfold cv0 at h
 split at h
 ·simp at h;subst h;exact .bool _
 ·simp at h;obtain⟨rfl,rfl⟩:=h;exact .int _ _
 ·exact .Mb
 ·exact .kX
 ·exact .nilFunc
 ·cases h
theorem yF{μ sz}:∀{v v'},UO v v'=true→bq μ sz v v'
 |[],[],_=>bq.nil
 |x::xs,y::ys,h=>by
  simp[UO] at h
  exact bq.cons (adI h.1) (yF h.2)
 |[],_::_,h=>by simp[UO] at h
 |_::_,[],h=>by simp[UO] at h
theorem atV{μ sz v v'}(h:cv v v'=true):cB μ sz v v':=by
 unfold cv at h
 split at h
 ·rename_i xs ys
  obtain⟨xs⟩:=xs;obtain⟨ys⟩:=ys
  have:=yF (μ:=μ) (sz:=sz) h
  exact .agg this.1 this.2
 ·rename_i xs ys
  obtain⟨xs⟩:=xs
  simp at h
  obtain⟨rfl,_⟩:=h
  exact .uv _
 ·exact adI h
def cV:Operand→mo→Bool
 |.tmp t,.t i=>t==i
 |.const v,.c v'=>cv v' v
 |.func f,.f g=>f==g
 |_,_=>false
theorem P0{μ sz st tmps}(t:bq μ sz st tmps)(i:Nat):cB μ sz (st.getD i undef) (tmps.getD i undef):=by
 rw[List.getD_eq_getElem?_getD,List.getD_eq_getElem?_getD]
 cases hv:st[i]? with
 |none=>exact .uv _
 |some v=>
  obtain⟨v',h1,h2⟩:=t.get hv
  rw[h1];exact h2
theorem bE{μ sz st}{a:Act}(t:bq μ sz st a.tmps.toList){x y}(h:cV x y=true):cB μ sz (ev st y) (a.eval x):=by
 cases x<;>cases y<;>simp[cV] at h
 ·rename_i i j
  subst h
  have:=P0 t i
  simpa [ev,Act.eval,Array.getD_eq_getD_getElem?,List.getD_eq_getElem?_getD] using this
 ·exact atV h
 ·subst h
  exact .func rfl (fun i h=>by simp at h) rfl (fun i h=>by simp at h)
def CB:List Operand→List mo→Bool
 |[],[]=>true
 |x::xs,y::ys=>cV x y&&CB xs ys
 |_,_=>false
theorem Ic{μ sz st}{a:Act}(t:bq μ sz st a.tmps.toList):∀{x y},CB x y=true→bq μ sz (y.map (ev st)) (x.map a.eval)
 |[],[],_=>bq.nil
 |x::xs,y::ys,h=>by
  simp[CB] at h
  exact bq.cons (bE t h.1) (Ic t h.2)
 |[],_::_,h=>by simp[CB] at h
 |_::_,[],h=>by simp[CB] at h
theorem cB.jw{μ sz k n v}(h:cB μ sz (.int k n) v):v=.int k n:=by cases h;rfl
theorem cB.tH{μ sz b v}(h:cB μ sz (.bool b) v):v=.bool b:=by cases h;rfl
theorem cB.Ie{μ sz a v}(h:cB μ sz (.pointer (some a)) v):∃rb o,μ a.block=some (rb,o)∧v=.pointer (some ⟨rb,o+a.off,none⟩):=by
 cases h with
 |ptr h=>exact⟨_,_,h,rfl⟩
theorem cB.TO{μ sz s v}(h:cB μ sz (Sl.v s) v):∃a c,v=.slice a s.l c∧(s.a.isNone=a.isNone):=by
 obtain⟨a,l,c⟩:=s
 unfold Sl.v at h
 cases h with
 |kX=>exact⟨_,_,rfl,rfl⟩
 |slice h1 h2 h3=>exact⟨_,_,rfl,rfl⟩
 |mi h1 h2 h3 h4=>exact⟨_,_,rfl,rfl⟩
 |TJ=>exact⟨_,_,rfl,rfl⟩
theorem cB.agv{μ sz}{xs:List Value}{v}(h:cB μ sz (.tuple ⟨xs⟩) v)(hx:xs≠[]):∃ys:List Value,v=.tuple ⟨ys⟩∧bq μ sz xs ys:=by
 cases h with
 |uv=>exact absurd rfl hx
 |tuple h1 h2=>exact⟨_,rfl,h1,h2⟩
theorem cB.ny{μ sz a l c v}(h:cB μ sz (.slice a l c) v):
 (a=none∧l=0∧c=0∧v=.slice none 0 0)∨
 (∃b o s rb off,a=some ⟨b,o,s⟩∧μ b=some (rb,off)∧c<nZ∧l≤c∧v=.slice (some ⟨rb,off+o,none⟩) l c)∨
 (∃b o s rb off o' c' es,a=some ⟨b,o,s⟩∧c=nZ+es∧μ b=some (rb,off)∧(l=0∨o'=off+o)∧l≤c'∧o'+c'*es≤sz rb∧v=.slice (some ⟨rb,o',none⟩) l c')∨
 (∃x a',a=some x∧l=0∧c=0∧v=.slice (some a') 0 0):=by
 generalize hq:Value.slice a l c=q at h
 cases h with
 |kX=>injection hq with h1 h2 h3;exact .inl ⟨h1,h2,h3,rfl⟩
 |slice g1 g2 g3=>injection hq with h1 h2 h3;subst h1 h2 h3;exact .inr (.inl ⟨_,_,_,_,_,rfl,g1,g2,g3,rfl⟩)
 |mi g1 g2 g3 g4=>injection hq with h1 h2 h3;subst h1 h2 h3;exact .inr (.inr (.inl ⟨_,_,_,_,_,_,_,_,rfl,rfl,g1,g2,g3,g4,rfl⟩))
 |TJ=>injection hq with h1 h2 h3;subst h1 h2 h3;exact .inr (.inr (.inr ⟨_,_,rfl,rfl,rfl,rfl⟩))
 |_=>cases hq
theorem cB.cells{μ sz v v'}(h:cB μ sz v v')(hp:∀c∈v.cells.toList,yC c=true):bq μ sz v.cells.toList v'.cells.toList:=by
 cases h with
 |uv=>simp[Value.cells,yC] at hp
 |skip=>simp[Value.cells,yD,yC] at hp
 |agg h1 h2=>exact⟨h1,h2⟩
 |tuple h1 h2=>simp[Value.cells,yC] at hp
 |bool=>exact bq.cons (.bool _) bq.nil
 |int=>exact bq.cons (.int _ _) bq.nil
 |Mb=>exact bq.cons .Mb bq.nil
 |ptr h=>exact bq.cons (.ptr h) bq.nil
 |kX=>exact bq.cons .kX bq.nil
 |slice h h' h2=>exact bq.cons (.slice h h' h2) bq.nil
 |mi h h1 h2 h3=>exact bq.cons (.mi h h1 h2 h3) bq.nil
 |TJ=>exact bq.cons .TJ bq.nil
 |nilFunc=>exact bq.cons .nilFunc bq.nil
 |func h1 h2 h3 h4=>exact bq.cons (.func h1 h2 h3 h4) bq.nil
theorem cB.an3{μ sz v v'}(h:cB μ sz v v')(hp:yC v=true):v'.oneCell'=true:=by
 cases h<;>simp_all[yC,Value.oneCell',yD]
structure Ctx(fl base an:Nat)(μ:Mu)(h:AH)(w:World)(st:List Value)(a:Act):Prop where
 eW:yB base an μ h w
 hb:base≤fl
 bN:fl≤h.next
 hr:an≤w.heap.size
 t:bq μ (cX w) st a.tmps.toList
theorem Ctx.hn{fl base an:Nat}{μ:Mu}{h:AH}{w:World}{st:List Value}{a:Act}(c:Ctx fl base an μ h w st a):base≤h.next:=Nat.le_trans c.hb c.bN
def aV(fl base an:Nat)(μ:Mu)(h:AH)(w:World)(v:Value)(h1:AH)(r:Result Next):Prop:=
 ∃v' μ' w',(r=.ok (.value v') w'∨(r=.ok .skip w'∧v'=undef))∧bZ fl base an μ h w μ' h1 w'∧cB μ' (cX w') v v'
theorem aV.still{fl base an μ h w v v'}(s:yB base an μ h w)(hv:cB μ (cX w) v v'):aV fl base an μ h w v h (.ok (.value v') w):=
 ⟨v',μ,w,.inl rfl,bZ.refl s,hv⟩
end Go.Abs
end
section
namespace Go.Abs
def zeroOf(P:Program)(t:TypeId):Option (List Value):=match P.info? t with
 |some i=>match i.zero with
  |some z=>some z.cells.toList
  |none=>none
 |none=>none
def okZ(P:Program)(t:TypeId)(z:List Value):Bool:=match zeroOf P t with
 |some zs=>UO z zs
 |none=>false
def om(P:Program)(t:TypeId)(n:Nat):Bool:=match P.info? t with
 |some i=>i.size==n
 |none=>false
def O7(P:Program)(t:TypeId)(n:Nat):Bool:=match P.info? t with
 |some i=>i.bytes==n
 |none=>false
def mJ(P:Program)(t:TypeId):Option TypeId:=match P.underlying t with
 |some (.slice e)=>some e
 |_=>none
def isInt(P:Program)(t:TypeId)(k:IntKind):Bool:=match P.underlying t with
 |some (.int k')=>decide (k'=k)
 |_=>false
def adJ(P:Program)(t:TypeId):Bool:=match P.underlying t with
 |some .bool=>true
 |_=>false
def DP(P:Program)(fs:Array Field):List (Nat×Operand)→List (Nat×Nat×mo)→Bool
 |[],[]=>true
 |(i,x)::xs,(off,size,y)::ys=>(match fs[i]? with|some f=>f.offset==off&&om P f.type size|none=>false)&&cV x y&&DP P fs xs ys
 |_,_=>false
def yG(size:Nat):List (Nat×Operand)→List (Nat×Nat×mo)→Bool
 |[],[]=>true
 |(i,x)::xs,(off,sz,y)::ys=>off==i*size&&sz==size&&cV x y&&yG size xs ys
 |_,_=>false
def okO:Option Operand→Option mo→Bool
 |none,none=>true
 |some x,some y=>cV x y
 |_,_=>false
def adK:BinOp→Bool
 |.add|.sub|.mul|.quo|.rem|.and|.or|.xor=>true
 |_=>false
def as2:BinOp→Bool
 |.eql|.neq|.lss|.leq|.gtr|.geq=>true
 |_=>false
def dH(P:Program)(op:Op):H8→Bool
 |.mv y=>match op with
  |.move x=>cV x y
  |.assign x=>cV x y
  |_=>false
 |.pick c a b=>match op with
  |.pick c' a' b'=>cV c' c&&cV a' a&&cV b' b
  |_=>false
 |.box y=>match op with
  |.box _ x=>cV x y
  |_=>false
 |.alloc z=>match op with
  |.alloc t=>okZ P t z
  |_=>false
 |.build z ps=>match op with
  |.build t parts=>okZ P t z&&(match P.underlying t with
   |some (.struct fs)=>fs.toList.all (fun f=>(P.info? f.type).isSome)&&DP P fs parts.toList ps
   |_=>false)
  |_=>false
 |.aQ len z ps=>match op with
  |.buildSlice t n parts=>n==len&&decide (len<nZ)&&(match mJ P t with
   |some e=>match P.info? e with
    |some i=>decide (len*i.size≤2^24)&&(match i.zero with
     |some zv=>UO z ((Array.range (len*i.size)).map (zv.cells[·%zv.cells.size]!)).toList
     |none=>false)&&yG i.size parts.toList ps
    |none=>false
   |none=>false)
  |_=>false
 |.load sh y=>match op with
  |.load t x=>cV x y&&(match P.underlying t with
   |some (.struct _)=>(match sh with|.agg l=>om P t l.length|_=>false)
   |some (.array _ _)=>false
   |some _=>(match sh with|.one _=>true|_=>false)
   |none=>false)
  |_=>false
 |.store n a y=>match op with
  |.store t a' x=>om P t n&&cV a' a&&cV x y
  |_=>false
 |.cg y=>match op with
  |.nilCheck x=>cV x y
  |_=>false
 |.bin o _ x y=>match op with
  |.binOp o' _ x' y' _=>decide (o'=o)&&adK o&&cV x' x&&cV y' y
  |_=>false
 |.sh left _ _ x y=>match op with
  |.binOp o' _ x' y' _=>(if left then decide (o'=.shl) else decide (o'=.shr))&&cV x' x&&cV y' y
  |_=>false
 |.cmp o _ x y=>match op with
  |.binOp o' _ x' y' _=>decide (o'=o)&&as2 o&&cV x' x&&cV y' y
  |_=>false
 |.beq neg x y=>match op with
  |.binOp o' t x' y' _=>(if neg then decide (o'=.neq) else decide (o'=.eql))&&adJ P t&&cV x' x&&cV y' y
  |_=>false
 |.Fq neg x=>match op with
  |.binOp o' t x' (.const (.slice none 0 0)) _=>(if neg then decide (o'=.neq) else decide (o'=.eql))&&(mJ P t).isSome&&cV x' x
  |_=>false
 |.not y=>match op with
  |.unOp .not _ x=>cV x y
  |_=>false
 |.neg _ y=>match op with
  |.unOp .neg _ x=>cV x y
  |_=>false
 |.conv s d y=>match op with
  |.convert src dst x=>isInt P src s&&isInt P dst d&&cV x y
  |_=>false
 |.xd f a b=>match op with
  |.makeFunc (.func g) a' b'=>g==f&&CB a'.toList a&&CB b'.toList b
  |_=>false
 |.cD bytes z l c=>match op with
  |.makeSlice t l' c'=>cV l' l&&cV c' c&&(match mJ P t with
   |some e=>O7 P e bytes&&okZ P e z&&om P e z.length&&decide (0<z.length)&&decide (0<bytes)
   |none=>false)
  |_=>false
 |.slice jY y lo hi mx=>match op with
  |.slice t x lo' By mx'=>cV x y&&okO lo' lo&&okO By hi&&okO mx' mx&&(By.isSome||!mx'.isSome)&&(match mJ P t with
   |some e=>om P e jY
   |none=>false)
  |_=>false
 |.cu off y=>match op with
  |.fieldAddr t x i=>cV x y&&(match P.underlying t with
   |some (.struct fs)=>match fs[i]? with
    |some f=>f.offset==off&&(match P.info? f.type with|some i=>i.size !=0|none=>false)
    |none=>false
   |_=>false)
  |_=>false
 |.dx jY x i=>match op with
  |.indexAddr t x' i'=>cV x' x&&cV i' i&&(match mJ P t with
   |some e=>om P e jY
   |none=>false)
  |_=>false
 |.KI y i=>match op with
  |.extract x j=>cV x y&&j==i
  |_=>false
 |.call ..=>false
 |.len y=>match op with
  |.call {callee:=.builtin .len,args,argTypes}=>(match args.toList,argTypes.toList with
   |[x],[t]=>cV x y&&(mJ P t).isSome
   |_,_=>false)
  |_=>false
 |.append jY bytes x y=>match op with
  |.call {callee:=.builtin .append,args,argTypes}=>(match args.toList,argTypes.toList with
   |[x',y'],[t,t']=>cV x' x&&cV y' y&&decide (0<jY)&&decide (0<bytes)&&(match mJ P t with
    |some e=>om P e jY&&O7 P e bytes&&t'==t&&(match zeroOf P e with|some z=>z.length==jY|none=>false)
    |none=>false)
   |_,_=>false)
  |_=>false
 |.copy jY d s=>match op with
  |.call {callee:=.builtin .copy,args,argTypes}=>(match args.toList,argTypes.toList with
   |[x',y'],t::_=>cV x' d&&cV y' s&&decide (0<jY)&&(match mJ P t with
    |some e=>om P e jY
    |none=>false)
   |_,_=>false)
  |_=>false
 |.KJ _ bs y=>match op with
  |.index t (.const (.string s)) x=>cV x y&&(match P.underlying t with|some .string=>true|_=>false)&&decide (s.data.toList.map (·.toNat)=bs)
  |_=>false
 |.mm isMax x y=>match op with
  |.call {callee:=.builtin b,args, ..}=>(match args.toList with
   |[x',y']=>(if isMax then (match b with|.max=>true|_=>false) else (match b with|.min=>true|_=>false))&&cV x' x&&cV y' y
   |_=>false)
  |_=>false
section
variable{P:Program}{C:Callee}{fl base an:Nat}{μ:Mu}{h h1:AH}{w:World}{s:List Value}{a:Act}{v:Value}{o:Oper}
abbrev K0:Value→AH→Option (Value×AH):=fun v h=>some (v,h)
theorem azx{y}(c:Ctx fl base an μ h w s a)(ok:dH P o.op (.mv y)=true)(e:cM C fl s h (.mv y) K0=some (v,h1)):
 aV fl base an μ h w v h1 ((execOp a.eval o).run P w):=by
 simp only[cM,K0,Option.some.injEq,Prod.mk.injEq] at e
 obtain⟨rfl,rfl⟩:=e
 simp only[dH] at ok
 unfold execOp
 split at ok
 ·rename_i hx;rw[hx];exact aV.still c.eW (bE c.t ok)
 ·rename_i hx;rw[hx];exact aV.still c.eW (bE c.t ok)
 ·cases ok
theorem atX{x y z}(c:Ctx fl base an μ h w s a)(ok:dH P o.op (.pick x y z)=true)(e:cM C fl s h (.pick x y z) K0=some (v,h1)):
 aV fl base an μ h w v h1 ((execOp a.eval o).run P w):=by
 simp only[cM] at e
 obtain⟨t,ht,e⟩:=bY e
 simp only[dH] at ok
 unfold execOp
 split at ok
 ·rename_i hx;rw[hx]
  simp only[Bool.and_eq_true] at ok
  obtain⟨⟨k1,k2⟩,k3⟩:=ok
  have r1:=bE c.t k1
  rw[ht] at r1
  have r1:=r1.tH
  simp only[r1,Go.asBool,Sem.run_bind,Sem.run_pure,Result.andThen_ok]
  cases t with
  |true=>
   simp only[if_true,K0,Option.some.injEq,Prod.mk.injEq] at e ⊢
   obtain⟨rfl,rfl⟩:=e
   exact aV.still c.eW (bE c.t k2)
  |false=>
   simp only[Bool.false_eq_true,if_false,K0,Option.some.injEq,Prod.mk.injEq] at e ⊢
   obtain⟨rfl,rfl⟩:=e
   exact aV.still c.eW (bE c.t k3)
 ·cases ok
theorem Mk(t:TypeId)(c:Array Value):(newRow t c).run P w=.ok ⟨w.heap.size,0,none⟩ (w.alloc (.cells c t)):=rfl
theorem Fu{t:TypeId}{i:TypeInfo}(hi:P.info? t=some i):(typeInfo t).run P w=.ok i w:=by
 simp only[typeInfo,Go.program,Sem.run_bind,Sem.run,Result.andThen_ok,hi,Sem.run_pure]
theorem P1{t:TypeId}{i:TypeInfo}{z:Value}(hi:P.info? t=some i)(hz:i.zero=some z):(zeroValue t).run P w=.ok z w:=by
 simp only[zeroValue,Sem.run_bind,Fu hi,Result.andThen_ok,hz,Sem.run_pure]
theorem eX{t:TypeId}{i:TypeInfo}(hi:P.info? t=some i):(sizeOf t).run P w=.ok i.size w:=by
 simp only[sizeOf,Sem.run_bind,Fu hi,Result.andThen_ok,Sem.run_pure]
theorem aV.new(c:Ctx fl base an μ h w s a)(hf:μ h.next=none){cs:List Value}{x:Array Value}{t:TypeId}(hc:bq μ (cX w) cs x.toList){v':Value}{r:Result Next}
 (hr:r=.ok (.value v') (w.alloc (.cells x t)))
 (hv:cB (ext μ h.next (w.heap.size,0)) (cX (w.alloc (.cells x t))) v v'):aV fl base an μ h w v (h.alloc cs) r:=by
 refine⟨v',_,_,.inl hr,bZ.alloc c.eW c.hn c.hr hf (fun j u hu=>?_),hv⟩
 obtain⟨u',h1,h2⟩:=hc.get hu
 exact⟨u',by simpa using h1,h2⟩
theorem awT{y}(c:Ctx fl base an μ h w s a)(hf:h.next<h1.next→μ h.next=none)(ok:dH P o.op (.box y)=true)(e:cM C fl s h (.box y) K0=some (v,h1)):
 aV fl base an μ h w v h1 ((execOp a.eval o).run P w):=by
 simp only[cM,K0] at e
 split at e
 ·rename_i ane
  simp only[Option.some.injEq,Prod.mk.injEq] at e
  obtain⟨rfl,rfl⟩:=e
  simp only[dH] at ok
  unfold execOp
  split at ok
  ·rename_i t x hx;rw[hx]
   have r:=(bE c.t ok).cells (List.all_eq_true.1 ane)
   refine aV.new (t:=t) c (hf (Nat.lt_succ_self _)) r (v':=.pointer (some ⟨w.heap.size,0,none⟩)) ?_ (.ptr (bX _ _ _))
   simp[Instr.box,newVar,Mk]
  ·cases ok
 ·cases e
theorem an4{z}(c:Ctx fl base an μ h w s a)(hf:h.next<h1.next→μ h.next=none)(ok:dH P o.op (.alloc z)=true)(e:cM C fl s h (.alloc z) K0=some (v,h1)):
 aV fl base an μ h w v h1 ((execOp a.eval o).run P w):=by
 simp only[cM,K0,Option.some.injEq,Prod.mk.injEq] at e
 obtain⟨rfl,rfl⟩:=e
 simp only[dH] at ok
 unfold execOp
 split at ok
 ·rename_i t hx;rw[hx]
  unfold okZ zeroOf at ok
  split at ok
  ·rename_i zs hz
   split at hz
   ·rename_i i hi
    split at hz
    ·rename_i zv hzv
     injection hz with hz;subst hz
     refine aV.new (t:=t) c (hf (Nat.lt_succ_self _)) (yF ok) (v':=.pointer (some ⟨w.heap.size,0,none⟩)) ?_ (.ptr (bX _ _ _))
     simp[Instr.alloc,newVar,Mk,P1 hi hzv]
    ·cases hz
   ·cases hz
  ·cases ok
 ·cases ok
theorem atY{y}(c:Ctx fl base an μ h w s a)(ok:dH P o.op (.cg y)=true)(e:cM C fl s h (.cg y) K0=some (v,h1)):
 aV fl base an μ h w v h1 ((execOp a.eval o).run P w):=by
 simp only[cM] at e
 obtain⟨p,hp,e⟩:=dG e
 simp only[K0,Option.some.injEq,Prod.mk.injEq] at e
 obtain⟨rfl,rfl⟩:=e
 simp only[dH] at ok
 unfold execOp
 split at ok
 ·rename_i x hx;rw[hx]
  have r:=bE c.t ok
  rw[hp] at r
  obtain⟨rb,ob,h1,h2⟩:=r.Ie
  simp only[h2]
  rw[h2] at r
  exact aV.still c.eW r
 ·cases ok
theorem awU{op k x y}(c:Ctx fl base an μ h w s a)(ok:dH P o.op (.bin op k x y)=true)(e:cM C fl s h (.bin op k x y) K0=some (v,h1)):
 aV fl base an μ h w v h1 ((execOp a.eval o).run P w):=by
 simp only[cM] at e
 obtain⟨m,hm,e⟩:=aF e
 obtain⟨n,hn,e⟩:=aF e
 simp only[dH] at ok
 unfold execOp
 split at ok
 ·rename_i o' t x' y' t' hx;rw[hx]
  simp only[Bool.and_eq_true,decide_eq_true_eq] at ok
  obtain⟨⟨⟨rfl,k0⟩,k1⟩,k2⟩:=ok
  have r1:=bE c.t k1
  have r2:=bE c.t k2
  rw[hm] at r1;rw[hn] at r2
  have r1:=r1.jw
  have r2:=r2.jw
  simp only[r1,r2]
  split at e
  ·rename_i z hz
   simp only[K0,Option.some.injEq,Prod.mk.injEq] at e
   obtain⟨rfl,rfl⟩:=e
   have hg:(eqGuard o' t x' y' (Value.int k m) (Value.int k n)).run P w=.ok () w:=by
    cases o'<;>first|rfl|(cases k0;done)
   have hb:(binOp o' t (Value.int k m) (Value.int k n)).run P w=.ok (.int k z) w:=by
    cases o'<;>simp only[adK,Bool.false_eq_true] at k0<;>simp only[Cx] at hz<;>unfold binOp<;>
     simp only[ne_eq,not_true_eq_false,if_false,Op.intArith,Op.intDiv,Op.intBits]
    all_goals first
     |(injection hz with hz;subst hz;rfl)
     |(split at hz
       ·cases hz
       ·rename_i fA;injection hz with hz;subst hz;rw[if_neg fA];rfl)
   simp only[Sem.run_bind,hg,hb,Result.andThen_ok,Sem.run_pure]
   exact aV.still c.eW (.int _ _)
  ·cases e
 ·cases ok
theorem awV{op k x y}(c:Ctx fl base an μ h w s a)(ok:dH P o.op (.cmp op k x y)=true)(e:cM C fl s h (.cmp op k x y) K0=some (v,h1)):
 aV fl base an μ h w v h1 ((execOp a.eval o).run P w):=by
 simp only[cM] at e
 obtain⟨m,hm,e⟩:=aF e
 obtain⟨n,hn,e⟩:=aF e
 simp only[dH] at ok
 unfold execOp
 split at ok
 ·rename_i o' t x' y' t' hx;rw[hx]
  simp only[Bool.and_eq_true,decide_eq_true_eq] at ok
  obtain⟨⟨⟨rfl,k0⟩,k1⟩,k2⟩:=ok
  have r1:=bE c.t k1
  have r2:=bE c.t k2
  rw[hm] at r1;rw[hn] at r2
  have r1:=r1.jw
  have r2:=r2.jw
  simp only[r1,r2]
  split at e
  ·rename_i z hz
   simp only[K0,Option.some.injEq,Prod.mk.injEq] at e
   obtain⟨rfl,rfl⟩:=e
   have hg:(eqGuard o' t x' y' (Value.int k m) (Value.int k n)).run P w=.ok () w:=by
    cases o'<;>rfl
   have hb:(binOp o' t (Value.int k m) (Value.int k n)).run P w=.ok (.bool z) w:=by
    cases o'<;>simp only[as2,Bool.false_eq_true] at k0<;>simp only[ai2] at hz<;>unfold binOp<;>
     simp only[ne_eq,not_true_eq_false,if_false,Op.intCmp]
    all_goals (injection hz with hz;subst hz;rfl)
   simp only[Sem.run_bind,hg,hb,Result.andThen_ok,Sem.run_pure]
   exact aV.still c.eW (.bool _)
  ·cases e
 ·cases ok
theorem azy{left k yk x y}(c:Ctx fl base an μ h w s a)(ok:dH P o.op (.sh left k yk x y)=true)(e:cM C fl s h (.sh left k yk x y) K0=some (v,h1)):
 aV fl base an μ h w v h1 ((execOp a.eval o).run P w):=by
 simp only[cM] at e
 obtain⟨m,hm,e⟩:=aF e
 obtain⟨n,hn,e⟩:=aF e
 simp only[dH] at ok
 unfold execOp
 split at ok
 ·rename_i o' t x' y' t' hx;rw[hx]
  simp only[Bool.and_eq_true] at ok
  obtain⟨⟨k0,k1⟩,k2⟩:=ok
  have r1:=bE c.t k1
  have r2:=bE c.t k2
  rw[hm] at r1;rw[hn] at r2
  have r1:=r1.jw
  have r2:=r2.jw
  simp only[r1,r2]
  split at e
  ·rename_i z hz
   simp only[K0,Option.some.injEq,Prod.mk.injEq] at e
   obtain⟨rfl,rfl⟩:=e
   have UH:o'=if left=true then BinOp.shl else .shr:=by cases left<;>simpa using k0
   have hg:(eqGuard o' t x' y' (Value.int k m) (Value.int yk n)).run P w=.ok () w:=by
    subst UH;cases left<;>rfl
   have hb:(binOp o' t (Value.int k m) (Value.int yk n)).run P w=.ok (.int k z) w:=by
    subst UH
    unfold X2 at hz
    split at hz
    ·cases hz
    ·rename_i aBZ
     cases left<;>simp only[Bool.false_eq_true,if_false,if_true] at hz ⊢<;>injection hz with hz<;>subst hz<;>unfold binOp<;>simp only[Op.shift,if_neg aBZ]<;>rfl
   simp only[Sem.run_bind,hg,hb,Result.andThen_ok,Sem.run_pure]
   exact aV.still c.eW (.int _ _)
  ·cases e
 ·cases ok
theorem awW{y}(c:Ctx fl base an μ h w s a)(ok:dH P o.op (.not y)=true)(e:cM C fl s h (.not y) K0=some (v,h1)):
 aV fl base an μ h w v h1 ((execOp a.eval o).run P w):=by
 simp only[cM] at e
 obtain⟨m,hm,e⟩:=bY e
 simp only[K0,Option.some.injEq,Prod.mk.injEq] at e
 obtain⟨rfl,rfl⟩:=e
 simp only[dH] at ok
 unfold execOp
 split at ok
 ·rename_i t x hx;rw[hx]
  have r:=bE c.t ok
  rw[hm] at r
  simp only[r.tH]
  exact aV.still c.eW (.bool _)
 ·cases ok
theorem awX{k y}(c:Ctx fl base an μ h w s a)(ok:dH P o.op (.neg k y)=true)(e:cM C fl s h (.neg k y) K0=some (v,h1)):
 aV fl base an μ h w v h1 ((execOp a.eval o).run P w):=by
 simp only[cM] at e
 obtain⟨m,hm,e⟩:=aF e
 simp only[K0,Option.some.injEq,Prod.mk.injEq] at e
 obtain⟨rfl,rfl⟩:=e
 simp only[dH] at ok
 unfold execOp
 split at ok
 ·rename_i t x hx;rw[hx]
  have r:=bE c.t ok
  rw[hm] at r
  simp only[r.jw]
  exact aV.still c.eW (.int _ _)
 ·cases ok
theorem atZ{y i}(c:Ctx fl base an μ h w s a)(ok:dH P o.op (.KI y i)=true)(e:cM C fl s h (.KI y i) K0=some (v,h1)):
 aV fl base an μ h w v h1 ((execOp a.eval o).run P w):=by
 simp only[cM] at e
 obtain⟨vs,hvs,e⟩:=An e
 split at e
 ·rename_i u hu
  simp only[K0,Option.some.injEq,Prod.mk.injEq] at e
  obtain⟨rfl,rfl⟩:=e
  simp only[dH] at ok
  unfold execOp
  split at ok
  ·rename_i x j hx;rw[hx]
   simp only[Bool.and_eq_true,beq_iff_eq] at ok
   obtain⟨k1,rfl⟩:=ok
   have r:=bE c.t k1
   rw[hvs] at r
   obtain⟨ys,hy,hl⟩:=r.agv (by rintro rfl;simp at hu)
   obtain⟨u',h1,h2⟩:=hl.get hu
   simp only[hy,Instr.extract]
   have h3:(⟨ys⟩:Array Value)[j]?=some u':=by simpa using h1
   simp only[h3,Sem.run_bind,Sem.run_pure,Result.andThen_ok]
   exact aV.still c.eW h2
  ·cases ok
 ·cases e
end
end Go.Abs
end
section
namespace Go.Abs
theorem bq.mb{μ sz}:∀{xs xf z z':List Value} {off:Nat},bq μ sz z z'→bq μ sz xs xf→bq μ sz (mb z off xs) (mb z' off xf)
 |[],[],_,_,_,h,_=>h
 |[],_::_,_,_,_,_,t=>by have:=t.1;simp at this
 |_::_,[],_,_,_,_,t=>by have:=t.1;simp at this
 |x::xs,x'::xf,z,z',off,h,t=>by
  have hx:=t.2 0 (by simp) (by simp)
  have ht:bq μ sz xs xf:=⟨by have:=t.1;simpa using this,fun i h1 h2=>t.2 (i+1) (by simpa using h1) (by simpa using h2)⟩
  refine bq.mb (z:=z.set off x) (z':=z'.set off x') (off:=off+1) ?_ ht
  refine bq.ab0 (by simp[h.1]) fun i v hv=>?_
  rw[List.getElem?_set] at hv ⊢
  have hl:=h.1
  by_cases e:off=i
  ·simp only[e,if_true] at hv ⊢
   split at hv
   ·rename_i hlt
    injection hv with hv;subst hv
    rw[if_pos (by omega)];exact⟨x',rfl,hx⟩
   ·cases hv
  ·simp only[e,if_false] at hv ⊢
   exact h.get hv
theorem P2:∀(xs z:List Value) (off i:Nat),off+xs.length≤z.length→(mb z off xs)[i]?=if off≤i∧i<off+xs.length then xs[i-off]? else z[i]?
 |[],z,off,i,_=>by simp[mb];omega
 |x::xs,z,off,i,h=>by
  simp only[List.length_cons] at h
  rw[mb,P2 xs _ (off+1) i (by simp;omega)]
  by_cases h1:off+1≤i∧i<off+1+xs.length
  ·rw[if_pos h1,if_pos (by simp;omega)]
   rw[show i-off=(i-(off+1))+1 by omega,List.getElem?_cons_succ]
  ·rw[if_neg h1,List.getElem?_set]
   by_cases e:off=i
   ·subst e;rw[if_pos rfl,if_pos (by omega),if_pos (by simp)];simp
   ·rw[if_neg e,if_neg (by simp;omega)]
theorem Ig(off:Nat):∀(xs:List Value) (k:Nat) (cells:Array Value),
 (xs.zipIdx k).foldl (fun(cs:Array Value) (c:Value×Nat)=>cs.setIfInBounds (off+c.2) c.1) cells=⟨mb cells.toList (off+k) xs⟩
 |[],_,_=>rfl
 |x::xs,k,cells=>by
  rw[List.zipIdx_cons,List.foldl_cons,Ig off xs (k+1)]
  simp only[mb,Array.toList_setIfInBounds]
  rw[Nat.add_assoc]
section
variable{P:Program}{C:Callee}{fl base an:Nat}{μ:Mu}{h h1:AH}{w:World}{s:List Value}{a:Act}{v:Value}{o:Oper}
theorem TP{sz}{y:mo}{x:Operand}{z z' cs:List Value}{off size:Nat}{ps:List (Nat×Nat×mo)}{place:Nat→Option (Nat×Nat)}{i:Nat}(hp:place i=some (off,size))
 (t:bq μ sz s a.tmps.toList) (hx:cV x y=true) (hz:bq μ sz z z') (e:pO s ((off,size,y)::ps) z=some cs) (rest:List (Nat×Value)):
 ∃z2 z2':List Value,bq μ sz z2 z2'∧pO s ps z2=some cs∧Instr.fill place z'.toArray ((i,a.eval x)::rest)=Instr.fill place z2'.toArray rest:=by
 simp only[pO] at e
 split at e
 ·rename_i h1
  split at e
  ·rename_i h2
   split at e
   ·rename_i h3
    have r:=(bE t hx).cells (List.all_eq_true.1 h3)
    have hl:=r.1
    refine⟨_,_,bq.mb (off:=off) hz r,e,?_⟩
    simp only[Instr.fill,hp]
    have hs:(a.eval x).cells.size=size:=by rw[←h1,hl];simp
    have hzl:z'.toArray.size=z.length:=by simp[hz.1]
    rw[if_neg (by simp[hs];have:=hz.1;omega)]
    congr 1
    rw[←Array.foldl_toList,Array.toList_zipIdx,Ig off _ 0]
    simp
   ·cases e
  ·cases e
 ·cases e
theorem P3{sz}(fs:Array Field)(uw:Array (Nat×Nat))(H6:∀(i:Nat) (f:Field) (ti:TypeInfo),fs[i]?=some f→P.info? f.type=some ti→uw[i]?=some (f.offset,ti.size))(t:bq μ sz s a.tmps.toList):
 ∀{ps:List (Nat×Nat×mo)} {parts:List (Nat×Operand)} {z z' cs:List Value},DP P fs parts ps=true→bq μ sz z z'→pO s ps z=some cs→
  ∃eC:List Value,Instr.fill (uw[·]?) z'.toArray (parts.map fun p=>(p.1,a.eval p.2))=some eC.toArray∧bq μ sz cs eC
 |[],[],z,z',cs,_,hz,e=>by
  simp only[pO,Option.some.injEq] at e;subst e
  exact⟨z',rfl,hz⟩
 |(off,size,y)::ps,(i,x)::parts,z,z',cs,ok,hz,e=>by
  simp only[DP,Bool.and_eq_true] at ok
  obtain⟨⟨k1,k2⟩,k3⟩:=ok
  split at k1
  ·rename_i f hf
   simp only[Bool.and_eq_true,beq_iff_eq] at k1
   obtain⟨k4,k5⟩:=k1
   unfold om at k5
   split at k5
   ·rename_i ti hti
    simp at k5
    have hp:uw[i]?=some (off,size):=by rw[H6 i f ti hf hti,k4,k5]
    obtain⟨z2,z2',r1,r2,r3⟩:=TP (place:=(uw[·]?)) (i:=i) hp t k2 hz e (parts.map fun p=>(p.1,a.eval p.2))
    obtain⟨eC,q1,q2⟩:=P3 fs uw H6 t k3 r1 r2
    exact⟨eC,by simp only[List.map_cons];rw[r3];exact q1,q2⟩
   ·cases k5
  ·cases k1
 |[],_::_,_,_,_,ok,_,_=>by simp[DP] at ok
 |_::_,[],_,_,_,ok,_,_=>by simp[DP] at ok
theorem Ml{sz}(size:Nat)(t:bq μ sz s a.tmps.toList):
 ∀{ps:List (Nat×Nat×mo)} {parts:List (Nat×Operand)} {z z' cs:List Value},yG size parts ps=true→bq μ sz z z'→pO s ps z=some cs→
  ∃eC:List Value,Instr.fill (fun i=>some (i*size,size)) z'.toArray (parts.map fun p=>(p.1,a.eval p.2))=some eC.toArray∧bq μ sz cs eC
 |[],[],z,z',cs,_,hz,e=>by
  simp only[pO,Option.some.injEq] at e;subst e
  exact⟨z',rfl,hz⟩
 |(off,sz',y)::ps,(i,x)::parts,z,z',cs,ok,hz,e=>by
  simp only[yG,Bool.and_eq_true,beq_iff_eq] at ok
  obtain⟨⟨⟨rfl,rfl⟩,k2⟩,k3⟩:=ok
  obtain⟨z2,z2',r1,r2,r3⟩:=TP (place:=fun i=>some (i*sz',sz')) (i:=i) rfl t k2 hz e (parts.map fun p=>(p.1,a.eval p.2))
  obtain⟨eC,q1,q2⟩:=Ml sz' t k3 r1 r2
  exact⟨eC,by simp only[List.map_cons];rw[r3];exact q1,q2⟩
 |[],_::_,_,_,_,ok,_,_=>by simp[yG] at ok
 |_::_,[],_,_,_,ok,_,_=>by simp[yG] at ok
theorem TQ:∀(fs:List Field),fs.all (fun f=>(P.info? f.type).isSome)=true→
 ∃uw,fs.mapM (fun f=>(P.info? f.type).map fun i=>(f.offset,i.size))=some uw∧∀(i:Nat) (f:Field) (ti:TypeInfo),fs[i]?=some f→P.info? f.type=some ti→uw[i]?=some (f.offset,ti.size)
 |[],_=>⟨[],rfl,fun i f ti h=>by simp at h⟩
 |f::fs,h=>by
  simp only[List.all_cons,Bool.and_eq_true] at h
  obtain⟨uw,h1,h2⟩:=TQ fs h.2
  obtain⟨ti,hti⟩:=Option.isSome_iff_exists.1 h.1
  refine⟨(f.offset,ti.size)::uw,by simp[List.mapM_cons,hti,h1],?_⟩
  intro i g tj hg hj
  cases i with
  |zero=>simp at hg;subst hg;rw[hti] at hj;injection hj with hj;subst hj;rfl
  |succ i=>simpa using h2 i g tj (by simpa using hg) hj
theorem an5{z ps}(c:Ctx fl base an μ h w s a)(ok:dH P o.op (.build z ps)=true)(e:cM C fl s h (.build z ps) K0=some (v,h1)):
 aV fl base an μ h w v h1 ((execOp a.eval o).run P w):=by
 simp only[cM] at e
 split at e
 ·rename_i cs hcs
  simp only[K0,Option.some.injEq,Prod.mk.injEq] at e
  obtain⟨rfl,rfl⟩:=e
  simp only[dH] at ok
  unfold execOp
  split at ok
  ·rename_i t parts hx;rw[hx]
   simp only[Bool.and_eq_true] at ok
   obtain⟨k1,k2⟩:=ok
   split at k2
   ·rename_i fs hfs
    simp only[Bool.and_eq_true] at k2
    obtain⟨k3,k4⟩:=k2
    unfold okZ zeroOf at k1
    split at k1
    ·rename_i zs hz
     split at hz
     ·rename_i i hi
      split at hz
      ·rename_i zv hzv
       injection hz with hz;subst hz
       obtain⟨uw,p1,p2⟩:=TQ fs.toList k3
       obtain⟨eC,q1,q2⟩:=P3 (P:=P) (a:=a) fs uw.toArray (fun i f ti hf hti=>by simpa using p2 i f ti (by simpa using hf) hti) c.t k4 (yF k1) hcs
       have hb:P.built t (parts.map fun(i,x)=>(i,a.eval x)).toList=some eC.toArray:=by
        simp only[Program.built,hi,hfs,hzv,p1,Array.toList_map]
        simpa using q1
       simp only[Sem.run_bind,run_build w t _ _ hb,Result.andThen_ok,Sem.run_pure]
       exact aV.still c.eW (.agg q2.1 q2.2)
      ·cases hz
     ·cases hz
    ·cases k1
   ·cases k2
  ·cases ok
 ·cases e
theorem ai3{len z ps}(c:Ctx fl base an μ h w s a)(hf:h.next<h1.next→μ h.next=none)(ok:dH P o.op (.aQ len z ps)=true)(e:cM C fl s h (.aQ len z ps) K0=some (v,h1)):
 aV fl base an μ h w v h1 ((execOp a.eval o).run P w):=by
 simp only[cM] at e
 split at e
 ·rename_i cs hcs
  simp only[K0,Option.some.injEq,Prod.mk.injEq] at e
  obtain⟨rfl,rfl⟩:=e
  simp only[dH] at ok
  unfold execOp
  split at ok
  ·rename_i t n parts hx;rw[hx]
   simp only[Bool.and_eq_true,beq_iff_eq,decide_eq_true_eq] at ok
   obtain⟨⟨rfl,hlen⟩,k2⟩:=ok
   unfold mJ at k2
   split at k2
   ·rename_i ee hee
    split at hee
    ·rename_i e' hu
     injection hee with hee;subst hee
     split at k2
     ·rename_i i hi
      simp only[Bool.and_eq_true,decide_eq_true_eq] at k2
      obtain⟨⟨k3,k4⟩,k5⟩:=k2
      split at k4
      ·rename_i zv hzv
       obtain⟨eC,q1,q2⟩:=Ml (a:=a) i.size c.t k5 (yF k4) hcs
       rw[Array.toArray_toList] at q1
       have lW:(Instr.buildSlice t n (parts.map fun(i,x)=>(i,a.eval x))).run P w=.ok (.slice (some ⟨w.heap.size,0,none⟩) n n) (w.alloc (.cells eC.toArray e')):=by
        have q3:Instr.fill (fun j=>some (j*i.size,i.size)) ((Array.range (n*i.size)).map (zv.cells[·%zv.cells.size]!)) (parts.map fun(i,x)=>(i,a.eval x)).toList=some eC.toArray:=by
         rw[Array.toList_map];exact q1
        by_cases hz0:n*i.size=0
        ·have h0:((Array.range (n*i.size)).map (zv.cells[·%zv.cells.size]!))=#[]:=by rw[hz0];simp
         rw[h0] at q3
         have h0':¬(n*i.size>2^24):=by omega
         have h00:((Array.range (n*i.size)).map ((#[]:Array Value)[·%(#[]:Array Value).size]!))=#[]:=by rw[hz0];simp
         unfold Instr.buildSlice
         have h1':¬(0>2^24):=by omega
         simp only[run_underlying hu,Sem.run_bind,Result.andThen_ok,eX hi,hz0,if_true,Sem.run_pure,if_neg h1']
         simp only[hz0] at h00
         rw[h00,q3]
         rfl
        ·exact run_buildSlice w t e' n _ _ i zv hu hi hzv (by omega) hz0 q3
       refine aV.new (t:=e') (x:=eC.toArray) c (hf (Nat.lt_succ_self _)) (by simpa using q2) (v':=.slice (some ⟨w.heap.size,0,none⟩) n n) ?_ (.slice (bX _ _ _) hlen (Nat.le_refl _))
       simp only[Sem.run_bind,lW,Result.andThen_ok,Sem.run_pure]
      ·cases k4
     ·cases k2
    ·cases hee
   ·cases k2
  ·cases ok
 ·cases e
theorem yB.load{b o rb ob u}(sm:yB base an μ h w)(hc:h.cell b o=some u)(hm:μ b=some (rb,ob)):∃u',w.cell? ⟨rb,ob+o,none⟩=some u'∧cB μ (cX w) u u':=by
 unfold AH.cell at hc
 split at hc
 ·rename_i cs hb
  exact sm.cell b cs rb ob hb hm o u hc
 ·cases hc
theorem at1{sh y}(c:Ctx fl base an μ h w s a)(ok:dH P o.op (.load sh y)=true)(e:cM C fl s h (.load sh y) K0=some (v,h1)):
 aV fl base an μ h w v h1 ((execOp a.eval o).run P w):=by
 simp only[cM] at e
 obtain⟨p,hp,e⟩:=dG e
 simp only[dH] at ok
 unfold execOp
 split at ok
 ·rename_i t x hx;rw[hx]
  simp only[Bool.and_eq_true] at ok
  obtain⟨k1,k2⟩:=ok
  have r:=bE c.t k1
  rw[hp] at r
  obtain⟨rb,ob,m1,m2⟩:=r.Ie
  simp only[m2,Instr.loadAt,Instr.sureAddr,loadVar,isAgg,Sem.run_bind,Sem.run_pure,Result.andThen_ok]
  split at k2
  ·rename_i fs hu
   split at k2
   ·rename_i l
    unfold om at k2
    split at k2
    ·rename_i i hi
     simp at k2
     simp only at e
     obtain⟨vs,l1,l2,l3⟩:=vH (K:=fun vs=>K0 (.agg ⟨vs⟩) h) e
     simp only[K0,Option.some.injEq,Prod.mk.injEq] at l3
     obtain⟨rfl,rfl⟩:=l3
     have XL:∃yA:List Value,bq μ (cX w) vs yA∧∀(j:Nat) u,yA[j]?=some u→w.cell? ⟨rb,ob+p.off+j,none⟩=some u:=by
      clear e
      have key:∀(vs:List Value) (o':Nat),(∀(j:Nat) u,vs[j]?=some u→h.cell p.block (o'+j)=some u)→∃yA:List Value,bq μ (cX w) vs yA∧∀(j:Nat) u,yA[j]?=some u→w.cell? ⟨rb,ob+o'+j,none⟩=some u:=by
       intro vs
       induction vs with
       |nil=>intro o' _;exact⟨[],bq.nil,fun j u hu=>by simp at hu⟩
       |cons u vs ih=>
        intro o' hh
        obtain⟨u',g1,g2⟩:=c.eW.load (hh 0 u rfl) m1
        obtain⟨yA,g3,g4⟩:=ih (o'+1) (fun j q hq=>by have:=hh (j+1) q (by simpa using hq);rwa[show o'+(j+1)=o'+1+j by omega] at this)
        refine⟨u'::yA,bq.cons g2 g3,?_⟩
        intro j q hq
        cases j with
        |zero=>simp at hq;subst hq;exact g1
        |succ j=>have:=g4 j q (by simpa using hq);rwa[show ob+o'+(j+1)=ob+(o'+1)+j by omega]
      exact key vs p.off (fun j u hu=>l2 j u hu)
     obtain⟨yA,g1,g2⟩:=XL
     have hl:(loadCells ⟨rb,ob+p.off,none⟩ i.size).run P w=.ok yA.toArray w:=by
      rw[k2,←l1,g1.1]
      refine run_loadCells_list w _ yA fun j u hu=>?_
      have:=g2 j u hu
      unfold Addr.add
      split
      ·rename_i h0;subst h0;simpa using this
      ·exact this
     simp only[run_underlying hu,Result.andThen_ok,if_true,Sem.run_bind,eX hi,hl,Sem.run_pure]
     exact aV.still c.eW (.agg g1.1 g1.2)
    ·cases k2
   ·cases k2
  ·cases k2
  ·rename_i d hn1 hn2 hu
   split at k2
   ·rename_i s0
    simp only at e
    obtain⟨u,g1,g2⟩:=yE (K:=fun v=>K0 v h) e
    simp only[K0,Option.some.injEq,Prod.mk.injEq] at g2
    obtain⟨rfl,rfl⟩:=g2
    obtain⟨u',q1,q2⟩:=c.eW.load g1 m1
    have hd:((match d with|.struct _=>pure true|.array _ _=>pure true|_=>pure false):Sem Bool)=pure false:=by
     cases d<;>first|rfl|(exact absurd rfl (hn1 _))|(exact absurd rfl (hn2 _ _))
    simp only[run_underlying hu,Result.andThen_ok,hd,Sem.run_pure,Bool.false_eq_true,if_false,run_load,q1]
    exact aV.still c.eW q2
   ·cases k2
  ·cases k2
 ·cases ok
end
end Go.Abs
end
section
namespace Go.Abs
section
variable{P:Program}{C:Callee}{fl base an:Nat}{μ:Mu}{h h1:AH}{w:World}{s:List Value}{a:Act}{v:Value}{o:Oper}
theorem kC(b o n:Nat):(⟨b,o,none⟩:Addr).add n=⟨b,o+n,none⟩:=by
 unfold Addr.add
 split
 ·rename_i h;subst h;rfl
 ·rfl
theorem bq.one{μ sz}{xs xf:List Value}(r:bq μ sz xs xf)(h:xs.all yC=true):∀u∈xf,u.oneCell'=true:=by
 intro u hu
 obtain⟨i,hi,rfl⟩:=List.getElem_of_mem hu
 have By:i<xs.length:=by have:=r.1;omega
 exact(r.2 i By hi).an3 (List.all_eq_true.1 h _ (List.getElem_mem By))
theorem P4{R:Type}{r:R}{p:Addr}{xs xf:List Value}{K:AH→Option R}{rb ob:Nat}(sm:yB base an μ h w)(hb:base≤fl)(e:st fl h p xs K=some r)(hx:bq μ (cX w) xs xf)(m:μ p.block=some (rb,ob)):
 ∃c' h2,(storeCells ⟨rb,ob+p.off,none⟩ xf).run P w=.ok () (w.setRow rb c')∧bZ fl base an μ h w μ h2 (w.setRow rb c')∧K h2=some r∧h2.next=h.next∧fl≤p.block:=by
 unfold st at e
 split at e
 ·rename_i cs hcs
  split at e
  ·rename_i bN
   split at e
   ·rename_i axY
    split at e
    ·rename_i hlen
     split at e
     ·rename_i ane
      obtain⟨_,c,t,hg⟩:=sm.own p.block cs rb ob (Nat.le_trans hb bN) hcs m
      have NM:xf.length=xs.length:=hx.1.symm
      have Sr:ob+p.off+xf.length≤c.size:=by
       have hlt:p.off+xs.length-1<cs.length:=by omega
       obtain⟨u',g1,_⟩:=sm.cell p.block cs rb ob hcs m (p.off+xs.length-1) _ (List.getElem?_eq_getElem hlt)
       rw[mU hg] at g1
       obtain⟨g2,_⟩:=Array.getElem?_eq_some_iff.1 g1
       omega
      have lW:=run_storeCells_at (P:=P) rb (ob+p.off) t xf 0 c w hg (by omega) (hx.one ane)
      simp only[Nat.add_zero] at lW
      refine⟨_,_,lW,?_,e,rfl,bN⟩
      refine bZ.set sm bN hb hcs m hg ?_ ?_
      ·simp;omega
      ·intro j u hu
       rw[P2 xs cs p.off j hlen] at hu
       by_cases hj:p.off≤j∧j<p.off+xs.length
       ·rw[if_pos hj] at hu
        obtain⟨u',g1,g2⟩:=hx.get hu
        refine⟨u',?_,g2⟩
        simp only[List.getElem?_toArray]
        rw[List.append_assoc,List.getElem?_append_right (by simp;omega),List.getElem?_append_left (by simp;omega)]
        have e1:ob+j-(List.take (ob+p.off) c.toList).length=j-p.off:=by simp;omega
        rw[e1];exact g1
       ·rw[if_neg hj] at hu
        obtain⟨u',g1,g2⟩:=sm.cell p.block cs rb ob hcs m j u hu
        rw[mU hg] at g1
        refine⟨u',?_,g2⟩
        obtain⟨g3,g4⟩:=Array.getElem?_eq_some_iff.1 g1
        simp only[List.getElem?_toArray]
        by_cases hj2:j<p.off
        ·rw[List.append_assoc,List.getElem?_append_left (by simp;omega),List.getElem?_take,if_pos (by omega)]
         simpa using g1
        ·rw[List.append_assoc,List.getElem?_append_right (by simp;omega),List.getElem?_append_right (by simp;omega),List.getElem?_drop]
         have e1:ob+p.off+xf.length+(ob+j-(List.take (ob+p.off) c.toList).length-xf.length)=ob+j:=by simp;omega
         rw[e1]
         simpa using g1
     ·cases e
    ·cases e
   ·cases e
  ·cases e
 ·cases e
theorem an6{n y z}(c:Ctx fl base an μ h w s a)(ok:dH P o.op (.store n y z)=true)(e:cM C fl s h (.store n y z) K0=some (v,h1)):
 aV fl base an μ h w v h1 ((execOp a.eval o).run P w):=by
 simp only[cM] at e
 obtain⟨p,hp,e⟩:=dG e
 split at e
 ·rename_i hn
  simp only[dH] at ok
  unfold execOp
  split at ok
  ·rename_i t y' z' hx;rw[hx]
   simp only[Bool.and_eq_true] at ok
   obtain⟨⟨k1,k2⟩,k3⟩:=ok
   have r1:=bE c.t k2
   rw[hp] at r1
   obtain⟨rb,ob,m1,m2⟩:=r1.Ie
   have ane:(ev s z).cells.toList.all yC=true:=by
    unfold st at e
    (repeat' split at e)<;>first|assumption|cases e
   have r2:=(bE c.t k3).cells (List.all_eq_true.1 ane)
   obtain⟨c',h2,g1,g2,g3,_⟩:=P4 (P:=P) c.eW c.hb e r2 m1
   simp only[K0,Option.some.injEq,Prod.mk.injEq] at g3
   obtain⟨rfl,rfl⟩:=g3
   unfold om at k1
   split at k1
   ·rename_i i hi
    simp at k1
    have hs:¬((a.eval z').cells.size≠i.size):=by
     have:=r2.1
     simp only[Array.length_toList] at this hn
     omega
    simp only[m2,Instr.storeAt,Instr.sureAddr,storeVar,Sem.run_bind,Sem.run_pure,Result.andThen_ok,eX hi,if_neg hs,g1]
    exact⟨undef,μ,_,.inr ⟨rfl,rfl⟩,g2,.uv _⟩
   ·cases k1
  ·cases ok
 ·cases e
theorem ab3(d:Nat){t m n}(hu:P.underlying t=some .bool):(Op.equalIn (d+1) t (Value.bool m) (Value.bool n)).run P w=.ok (m==n) w:=by
 simp only[Op.equalIn,Sem.run_bind,run_underlying hu,Result.andThen_ok,Sem.run_pure]
theorem X4(d:Nat){t e b l c}(hu:P.underlying t=some (.slice e)):(Op.equalIn (d+1) t (Value.slice b l c) (Value.slice none 0 0)).run P w=.ok b.isNone w:=by
 cases b<;>simp only[Op.equalIn,Sem.run_bind,run_underlying hu,Result.andThen_ok,Sem.run_pure,Option.isNone]
theorem awY{neg x y}(c:Ctx fl base an μ h w s a)(ok:dH P o.op (.beq neg x y)=true)(e:cM C fl s h (.beq neg x y) K0=some (v,h1)):
 aV fl base an μ h w v h1 ((execOp a.eval o).run P w):=by
 simp only[cM] at e
 obtain⟨m,hm,e⟩:=bY e
 obtain⟨n,hn,e⟩:=bY e
 simp only[K0,Option.some.injEq,Prod.mk.injEq] at e
 obtain⟨rfl,rfl⟩:=e
 simp only[dH] at ok
 unfold execOp
 split at ok
 ·rename_i o' t x' y' t' hx;rw[hx]
  simp only[Bool.and_eq_true] at ok
  obtain⟨⟨⟨k0,kt⟩,k1⟩,k2⟩:=ok
  have r1:=bE c.t k1
  have r2:=bE c.t k2
  rw[hm] at r1;rw[hn] at r2
  have r1:=r1.tH
  have r2:=r2.tH
  simp only[r1,r2]
  unfold adJ at kt
  split at kt
  ·rename_i hu
   have UH:o'=if neg=true then BinOp.neq else .eql:=by cases neg<;>simpa using k0
   have hg:(eqGuard o' t x' y' (Value.bool m) (Value.bool n)).run P w=.ok () w:=by
    subst UH;cases neg<;>rfl
   have he:(Op.equal t (Value.bool m) (Value.bool n)).run P w=.ok (m==n) w:=by
    exact ab3 9999 hu
   have hb:(binOp o' t (Value.bool m) (Value.bool n)).run P w=.ok (.bool (if neg=true then !(m==n) else m==n)) w:=by
    subst UH
    cases neg<;>simp[binOp,he]
   simp only[Sem.run_bind,hg,hb,Result.andThen_ok,Sem.run_pure]
   exact aV.still c.eW (.bool _)
  ·cases kt
 ·cases ok
theorem at2{neg x}(c:Ctx fl base an μ h w s a)(ok:dH P o.op (.Fq neg x)=true)(e:cM C fl s h (.Fq neg x) K0=some (v,h1)):
 aV fl base an μ h w v h1 ((execOp a.eval o).run P w):=by
 simp only[cM] at e
 obtain⟨m,hm,e⟩:=cA e
 simp only[K0,Option.some.injEq,Prod.mk.injEq] at e
 obtain⟨rfl,rfl⟩:=e
 simp only[dH] at ok
 unfold execOp
 split at ok
 ·rename_i o' t x' t' hx;rw[hx]
  simp only[Bool.and_eq_true] at ok
  obtain⟨⟨k0,kt⟩,k1⟩:=ok
  have r1:=bE c.t k1
  rw[hm] at r1
  obtain⟨b',c',q1,q2⟩:=cB.TO (s:=m) r1
  unfold mJ at kt
  split at kt
  ·rename_i e' hu
   have TN:a.eval (.const (.slice none 0 0))=.slice none 0 0:=rfl
   simp only[q1,TN]
   have UH:o'=if neg=true then BinOp.neq else .eql:=by cases neg<;>simpa using k0
   have hg:(eqGuard o' t x' (.const (.slice none 0 0)) (Value.slice b' m.l c') (.slice none 0 0)).run P w=.ok () w:=by
    subst UH;cases neg<;>rfl
   have he:(Op.equal t (Value.slice b' m.l c') (.slice none 0 0)).run P w=.ok b'.isNone w:=by
    exact X4 9999 hu
   have hb:(binOp o' t (Value.slice b' m.l c') (.slice none 0 0)).run P w=.ok (.bool (if neg=true then !m.a.isNone else m.a.isNone)) w:=by
    subst UH
    rw[q2]
    cases neg<;>simp[binOp,he]
   simp only[Sem.run_bind,hg,hb,Result.andThen_ok,Sem.run_pure]
   exact aV.still c.eW (.bool _)
  ·cases kt
 ·cases ok
theorem adL{t k}(h:isInt P t k=true):P.underlying t=some (.int k):=by
 unfold isInt at h
 split at h
 ·rename_i k' hu;simp at h;rw[hu,h]
 ·cases h
theorem at3{sk dk y}(c:Ctx fl base an μ h w s a)(ok:dH P o.op (.conv sk dk y)=true)(e:cM C fl s h (.conv sk dk y) K0=some (v,h1)):
 aV fl base an μ h w v h1 ((execOp a.eval o).run P w):=by
 simp only[cM] at e
 obtain⟨m,hm,e⟩:=aF e
 simp only[K0,Option.some.injEq,Prod.mk.injEq] at e
 obtain⟨rfl,rfl⟩:=e
 simp only[dH] at ok
 unfold execOp
 split at ok
 ·rename_i ts td x hx;rw[hx]
  simp only[Bool.and_eq_true] at ok
  obtain⟨⟨k1,k2⟩,k3⟩:=ok
  have r:=bE c.t k3
  rw[hm] at r
  have hr:(convert ts td (Value.int sk m)).run P w=.ok (.int dk (dk.wrap m)) w:=by
   simp[convert,run_underlying (adL k1),run_underlying (adL k2),Conv.intToInt]
  simp only[r.jw,Sem.run_bind,hr,Result.andThen_ok,Sem.run_pure]
  exact aV.still c.eW (.int _ _)
 ·cases ok
theorem at4{f x y}(c:Ctx fl base an μ h w s a)(ok:dH P o.op (.xd f x y)=true)(e:cM C fl s h (.xd f x y) K0=some (v,h1)):
 aV fl base an μ h w v h1 ((execOp a.eval o).run P w):=by
 simp only[cM,K0,Option.some.injEq,Prod.mk.injEq] at e
 obtain⟨rfl,rfl⟩:=e
 simp only[dH] at ok
 unfold execOp
 split at ok
 ·rename_i g x' y' hx;rw[hx]
  simp only[Bool.and_eq_true,beq_iff_eq] at ok
  obtain⟨⟨rfl,k2⟩,k3⟩:=ok
  have r1:=Ic c.t k2
  have r2:=Ic c.t k3
  have e1:x'.map a.eval=⟨x'.toList.map a.eval⟩:=by apply Array.ext';simp
  have e2:y'.map a.eval=⟨y'.toList.map a.eval⟩:=by apply Array.ext';simp
  simp only[e1,e2,Instr.makeFunc,Sem.run_bind,Result.andThen_ok,Sem.run_pure]
  exact aV.still c.eW (.func r1.1 r1.2 r2.1 r2.2)
 ·cases ok
theorem an7{off y}(c:Ctx fl base an μ h w s a)(ok:dH P o.op (.cu off y)=true)(e:cM C fl s h (.cu off y) K0=some (v,h1)):
 aV fl base an μ h w v h1 ((execOp a.eval o).run P w):=by
 simp only[cM] at e
 obtain⟨p,hp,e⟩:=dG e
 simp only[K0,Option.some.injEq,Prod.mk.injEq] at e
 obtain⟨rfl,rfl⟩:=e
 simp only[dH] at ok
 unfold execOp
 split at ok
 ·rename_i t x i hx;rw[hx]
  simp only[Bool.and_eq_true] at ok
  obtain⟨k1,k2⟩:=ok
  have r:=bE c.t k1
  rw[hp] at r
  obtain⟨rb,ob,m1,m2⟩:=r.Ie
  split at k2
  ·rename_i fs hu
   split at k2
   ·rename_i f hf
    simp only[Bool.and_eq_true,beq_iff_eq] at k2
    obtain⟨rfl,k3⟩:=k2
    split at k3
    ·rename_i ti hi
     simp only[bne_iff_ne,ne_eq] at k3
     simp only[m2,Instr.fieldAt,Instr.sureAddr,fieldPlace,Sem.run_bind,Sem.run_pure,Result.andThen_ok,run_underlying hu,hf,eX hi,if_neg k3,kC]
     refine aV.still c.eW ?_
     rw[Nat.add_assoc]
     exact .ptr m1
    ·cases k3
   ·cases k2
  ·cases k2
 ·cases ok
theorem KU{t e}(h:mJ P t=some e):P.underlying t=some (.slice e):=by
 unfold mJ at h
 split at h
 ·rename_i e' hu;injection h with h;rw[hu,h]
 ·cases h
theorem KV{t n}(h:om P t n=true):∃i,P.info? t=some i∧i.size=n:=by
 unfold om at h
 split at h
 ·rename_i i hi;exact⟨i,hi,by simpa using h⟩
 ·cases h
theorem an8{jY x i}(c:Ctx fl base an μ h w s a)(ok:dH P o.op (.dx jY x i)=true)(e:cM C fl s h (.dx jY x i) K0=some (v,h1)):
 aV fl base an μ h w v h1 ((execOp a.eval o).run P w):=by
 simp only[cM] at e
 obtain⟨⟨ma,ml,mc⟩,hm,e⟩:=cA e
 obtain⟨n,hn,e⟩:=aF e
 unfold idx at e
 simp only at e hm
 split at e
 ·rename_i p _
  split at e
  ·rename_i h0
   split at e
   ·rename_i hlt
    simp only[K0,Option.some.injEq,Prod.mk.injEq] at e
    obtain⟨rfl,rfl⟩:=e
    simp only[dH] at ok
    unfold execOp
    split at ok
    ·rename_i t x' i' hx;rw[hx]
     simp only[Bool.and_eq_true] at ok
     obtain⟨⟨k1,k2⟩,k3⟩:=ok
     have r1:=bE c.t k1
     have r2:=bE c.t k2
     rw[hm] at r1;rw[hn] at r2
     split at k3
     ·rename_i ee hee
      obtain⟨ti,hi,rfl⟩:=KV k3
      have hu:=KU hee
      have axs:∃rb ob c',μ p.block=some (rb,ob)∧a.eval x'=.slice (some ⟨rb,ob+p.off,none⟩) ml c':=by
       revert r1
       generalize a.eval x'=q
       intro r1
       cases r1 with
       |slice g1 g2 g3=>exact⟨_,_,_,g1,rfl⟩
       |mi g1 g2 g3 g4=>
        rcases g2 with g2|g2
        ·omega
        ·subst g2;exact⟨_,_,_,g1,rfl⟩
       |TJ=>omega
      obtain⟨rb,ob,c',q1,q2⟩:=axs
      have hbd:0≤n∧n<(ml:Int):=⟨h0,hlt⟩
      simp only[q2,r2.jw,Instr.indexAt,asIntOf,Sem.run_bind,Sem.run_pure,Result.andThen_ok,run_underlying hu,if_pos hbd,eX hi,kC]
      refine aV.still c.eW ?_
      rw[Nat.add_assoc]
      exact .ptr q1
     ·cases k3
    ·cases ok
   ·cases e
  ·cases e
 ·cases e
theorem awZ{args:Array Operand}{x}(h:args.toList=[x]):args=#[x]:=by apply Array.ext';rw[h]
theorem ai4{args:Array Operand}{x y}(h:args.toList=[x,y]):args=#[x,y]:=by apply Array.ext';rw[h]
theorem aw0{y}(c:Ctx fl base an μ h w s a)(ok:dH P o.op (.len y)=true)(e:cM C fl s h (.len y) K0=some (v,h1)):
 aV fl base an μ h w v h1 ((execOp a.eval o).run P w):=by
 simp only[cM] at e
 obtain⟨m,hm,e⟩:=cA e
 simp only[K0,Option.some.injEq,Prod.mk.injEq] at e
 obtain⟨rfl,rfl⟩:=e
 simp only[dH] at ok
 unfold execOp
 split at ok
 ·rename_i args tys hx;rw[hx]
  split at ok
  ·rename_i x t ha ht
   have ha:=awZ ha
   have ht:tys=#[t]:=by apply Array.ext';rw[ht]
   subst ha;subst ht
   simp only[Bool.and_eq_true] at ok
   obtain⟨k1,kt⟩:=ok
   have r1:=bE c.t k1
   rw[hm] at r1
   obtain⟨b',c',q1,q2⟩:=cB.TO (s:=m) r1
   obtain⟨ee,hee⟩:=Option.isSome_iff_exists.1 kt
   have hu:=KU hee
   have hr:(Builtin.len_ #[t] o.type #[Value.slice b' m.l c']).run P w=.ok (.int .i64 m.l) w:=by
    simp[Builtin.len_,run_underlying hu,goInt]
   simp only[resolve,Sem.run_bind,Sem.run_pure,Result.andThen_ok,invoke,builtin,List.map_toArray,List.map_cons,List.map_nil,q1,hr]
   exact aV.still c.eW (.int _ _)
  ·cases ok
 ·cases ok
theorem at5{k bs y}(c:Ctx fl base an μ h w s a)(ok:dH P o.op (.KJ k bs y)=true)(e:cM C fl s h (.KJ k bs y) K0=some (v,h1)):
 aV fl base an μ h w v h1 ((execOp a.eval o).run P w):=by
 simp only[cM] at e
 obtain⟨n,hn,e⟩:=aF e
 split at e
 ·rename_i h0
  split at e
  ·rename_i b hb
   simp only[K0,Option.some.injEq,Prod.mk.injEq] at e
   obtain⟨rfl,rfl⟩:=e
   simp only[dH] at ok
   unfold execOp
   split at ok
   ·rename_i t sb x hx;rw[hx]
    simp only[Bool.and_eq_true,decide_eq_true_eq] at ok
    obtain⟨⟨k1,kt⟩,rfl⟩:=ok
    have r:=bE c.t k1
    rw[hn] at r
    split at kt
    ·rename_i hu
     have TN:a.eval (.const (.string sb))=.string sb:=rfl
     obtain⟨u,hu1,hu2⟩:∃u,sb[n.toNat]?=some u∧u.toNat=b:=by
      rw[List.getElem?_map,Option.map_eq_some_iff] at hb
      obtain⟨u,h1,h2⟩:=hb
      obtain⟨hl,h3⟩:=List.getElem?_eq_some_iff.1 h1
      have NM:n.toNat<sb.size:=by simpa using hl
      refine⟨sb[n.toNat],getElem?_pos sb n.toNat NM,?_⟩
      rw[←h2,←h3];rfl
     have hr:(Instr.index t (.string sb) (.int k n)).run P w=.ok (.int .u8 b) w:=by
      simp only[Instr.index,asIntOf,Sem.run_bind,Sem.run_pure,Result.andThen_ok,run_underlying hu,if_pos h0,hu1,hu2]
     simp only[TN,r.jw,Sem.run_bind,hr,Result.andThen_ok,Sem.run_pure]
     exact aV.still c.eW (.int _ _)
    ·cases kt
   ·cases ok
  ·cases e
 ·cases e
theorem azz{isMax x y}(c:Ctx fl base an μ h w s a)(ok:dH P o.op (.mm isMax x y)=true)(e:cM C fl s h (.mm isMax x y) K0=some (v,h1)):
 aV fl base an μ h w v h1 ((execOp a.eval o).run P w):=by
 simp only[cM] at e
 obtain⟨m,hm,e⟩:=aF e
 obtain⟨n,hn,e⟩:=aF e
 simp only[K0,Option.some.injEq,Prod.mk.injEq] at e
 obtain⟨rfl,rfl⟩:=e
 simp only[dH] at ok
 unfold execOp
 split at ok
 ·rename_i b args tys hx;rw[hx]
  split at ok
  ·rename_i x' y' ha
   have ha:=ai4 ha
   subst ha
   simp only[Bool.and_eq_true] at ok
   obtain⟨⟨k0,k1⟩,k2⟩:=ok
   have r1:=bE c.t k1
   have r2:=bE c.t k2
   rw[hm] at r1;rw[hn] at r2
   have r1:=r1.jw
   have r2:=r2.jw
   cases isMax with
   |true=>
    simp only[if_true] at k0
    split at k0
    ·simp only[resolve,Sem.run_bind,Sem.run_pure,Result.andThen_ok,invoke,builtin,List.map_toArray,List.map_cons,List.map_nil,r1,r2,Builtin.max_,List.foldlM_cons,List.foldlM_nil,Builtin.max2,if_true]
     exact aV.still c.eW (.int _ _)
    ·cases k0
   |false=>
    simp only[Bool.false_eq_true,if_false] at k0
    split at k0
    ·simp only[resolve,Sem.run_bind,Sem.run_pure,Result.andThen_ok,invoke,builtin,List.map_toArray,List.map_cons,List.map_nil,r1,r2,Builtin.min_,List.foldlM_cons,List.foldlM_nil,Builtin.min2,Bool.false_eq_true,if_false]
     exact aV.still c.eW (.int _ _)
    ·cases k0
  ·cases ok
 ·cases ok
end
end Go.Abs
end
section
namespace Go.Abs
section
variable{P:Program}{C:Callee}{fl base an:Nat}{μ:Mu}{h h1:AH}{w:World}{s:List Value}{a:Act}{v:Value}{o:Oper}
theorem yB.TR{b rb ob:Nat}(sm:yB base an μ h w)(m:μ b=some (rb,ob)):∀(vs:List Value) (o':Nat),(∀(j:Nat) u,vs[j]?=some u→h.cell b (o'+j)=some u)→
 ∃yA:List Value,bq μ (cX w) vs yA∧∀(j:Nat) u,yA[j]?=some u→w.cell? ⟨rb,ob+o'+j,none⟩=some u
 |[],_,_=>⟨[],bq.nil,fun j u hu=>by simp at hu⟩
 |u::vs,o',hh=>by
  obtain⟨u',g1,g2⟩:=sm.load (hh 0 u rfl) m
  obtain⟨yA,g3,g4⟩:=yB.TR sm m vs (o'+1) (fun j q hq=>by have:=hh (j+1) q (by simpa using hq);rwa[show o'+(j+1)=o'+1+j by omega] at this)
  refine⟨u'::yA,bq.cons g2 g3,?_⟩
  intro j q hq
  cases j with
  |zero=>simp at hq;subst hq;exact g1
  |succ j=>have:=g4 j q (by simpa using hq);rwa[show ob+o'+(j+1)=ob+(o'+1)+j by omega]
theorem CD{R:Type}{r:R}{p:Addr}{n:Nat}{K:List Value→Option R}(e:Cu h (some p) n K=some r):
 ∃xs:List Value,xs.length=n∧K xs=some r∧(∃cs,h.gR p.block=some cs)∧∀(j:Nat) u,xs[j]?=some u→h.cell p.block (p.off+j)=some u:=by
 unfold Cu at e
 simp only at e
 split at e
 ·rename_i cs hcs
  split at e
  ·rename_i hl
   refine⟨_,by simp;omega,e,⟨cs,hcs⟩,?_⟩
   intro j u hu
   rw[List.getElem?_take] at hu
   split at hu
   ·rw[List.getElem?_drop] at hu
    simp[AH.cell,hcs,hu]
   ·cases hu
  ·cases e
 ·cases e
theorem P5(z:List Value)(hz:0<z.length)(n:Nat):(madeCells z.toArray (n*z.length)).toList=KT z n:=by
 apply List.ext_getElem?
 intro i
 have hmul:∀n,(List.replicate n z).flatten.length=n*z.length:=by
  intro n;simp
 by_cases hi:i<n*z.length
 ·have h1:i%z.length<z.length:=Nat.mod_lt _ hz
  have e1:(madeCells z.toArray (n*z.length)).toList[i]?=some z[i%z.length]:=by
   simp[madeCells,hi,h1]
  rw[e1]
  have key:∀(n i:Nat),i<n*z.length→(List.replicate n z).flatten[i]?=z[i%z.length]?:=by
   intro n
   induction n with
   |zero=>intro i h;omega
   |succ n ih=>
    intro i h
    rw[List.replicate_succ,List.flatten_cons]
    by_cases hi:i<z.length
    ·rw[List.getElem?_append_left hi,Nat.mod_eq_of_lt hi]
    ·rw[List.getElem?_append_right (by omega),ih (i-z.length) (by rw[Nat.succ_mul] at h;omega)]
     congr 1
     exact(Nat.mod_eq_sub_mod (by omega)).symm
  unfold KT
  rw[key n i hi,List.getElem?_eq_getElem h1]
 ·rw[List.getElem?_eq_none (by simp[madeCells];omega),List.getElem?_eq_none (by unfold KT;rw[hmul];omega)]
theorem bq.KT{μ sz z z'}(h:bq μ sz z z'):∀n,bq μ sz (KT z n) (KT z' n)
 |0=>bq.nil
 |n+1=>by unfold Abs.KT;rw[List.replicate_succ,List.flatten_cons,List.replicate_succ,List.flatten_cons];exact h.append (bq.KT h n)
theorem at6{t z}(h:okZ P t z=true):∃i zv,P.info? t=some i∧i.zero=some zv∧UO z zv.cells.toList=true:=by
 unfold okZ zeroOf at h
 split at h
 ·rename_i zs hz
  split at hz
  ·rename_i i hi
   split at hz
   ·rename_i zv hzv
    injection hz with hz;subst hz
    exact⟨i,zv,hi,hzv,h⟩
   ·cases hz
  ·cases hz
 ·cases h
theorem agw{bytes z x y}(c:Ctx fl base an μ h w s a)(hf:h.next<h1.next→μ h.next=none)(ok:dH P o.op (.cD bytes z x y)=true)(e:cM C fl s h (.cD bytes z x y) K0=some (v,h1)):
 aV fl base an μ h w v h1 ((execOp a.eval o).run P w):=by
 simp only[cM] at e
 obtain⟨m,hm,e⟩:=aF e
 obtain⟨n,hn,e⟩:=aF e
 unfold xg at e
 split at e
 ·rename_i hb
  simp only[K0,Option.some.injEq,Prod.mk.injEq] at e
  obtain⟨rfl,rfl⟩:=e
  simp only[dH] at ok
  unfold execOp
  split at ok
  ·rename_i t l' c' hx;rw[hx]
   simp only[Bool.and_eq_true] at ok
   obtain⟨⟨k1,k2⟩,k3⟩:=ok
   have r1:=bE c.t k1
   have r2:=bE c.t k2
   rw[hm] at r1;rw[hn] at r2
   split at k3
   ·rename_i ee hee
    have hu:=KU hee
    simp only[Bool.and_eq_true,decide_eq_true_eq] at k3
    obtain⟨⟨⟨⟨kb,kz⟩,ks⟩,kp⟩,kbp⟩:=k3
    obtain⟨i,zv,hi,hzv,hz⟩:=at6 kz
    obtain⟨i2,hi2,Sr⟩:=KV ks
    rw[hi] at hi2;injection hi2 with hi2;subst hi2
    have hby:i.bytes=bytes:=by
     unfold O7 at kb
     rw[hi] at kb;simpa using kb
    obtain⟨h0,h1,h2⟩:=hb
    have UD:(n*(bytes:Int))≤2^47:=by simpa [kA] using h2
    have hnb:n≤n*(bytes:Int):=by
     have:n*1≤n*(bytes:Int):=Int.mul_le_mul_of_nonneg_left (by omega) (by omega)
     omega
    have lW:=run_make (P:=P) w t ee i zv hu hi hzv .i64 .i64 m n h0 h1 (by rw[hby,Int.mul_comm];omega) (by omega)
    have hzl:=yF (μ:=μ) (sz:=cX w) hz
    have hzz:zv.cells=(zv.cells.toList).toArray:=by simp
    have avo:(madeCells zv.cells (n.toNat*i.size)).toList=KT zv.cells.toList n.toNat:=by
     rw[Sr,hzl.1]
     have:=P5 zv.cells.toList (by rw[←hzl.1];exact kp) n.toNat
     rwa[Array.toArray_toList] at this
    refine aV.new (t:=ee) (x:=madeCells zv.cells (n.toNat*i.size)) c (hf (Nat.lt_succ_self _)) (by rw[avo];exact hzl.KT _) (v':=.slice (some ⟨w.heap.size,0,none⟩) m.toNat n.toNat) ?_ (.slice (bX _ _ _) ?_ (by omega))
    ·simp only[r1.jw,r2.jw,Sem.run_bind,lW,Result.andThen_ok,Sem.run_pure]
    ·unfold nZ;omega
   ·cases k3
  ·cases ok
 ·cases e
theorem CE{R:Type}{r:R}{μ sz}{x:Option Operand}{y:Option mo}{K:Option Int→Option R}(t:bq μ sz s a.tmps.toList)(ok:okO x y=true)(e:fX s y K=some r):
 (x=none∧K none=some r)∨∃x' k n,x=some x'∧a.eval x'=.int k n∧K (some n)=some r:=by
 cases x<;>cases y<;>simp[okO] at ok
 ·exact .inl ⟨rfl,e⟩
 ·rename_i x y
  right
  simp only[fX] at e
  split at e
  ·rename_i k n hn
   have r:=bE t ok
   rw[hn] at r
   exact⟨x,k,n,rfl,r.jw,e⟩
  ·cases e
theorem r6(t e:TypeId)(b:Option Addr)(len cap:Nat)(hu:P.underlying t=some (.slice e))(ti:TypeInfo)(hi:P.info? e=some ti)(lo By mx:Option Value)(l h m:Nat)
 (hb:(Instr.sliceBounds true len cap lo By mx).run P w=.ok (l,h,m) w):
 (Instr.sliceAt t (.slice b len cap) lo By mx).run P w=.ok (.slice (if m=l then b else b.map (·.add (l*ti.size))) (h-l) (m-l)) w:=by
 simp only[Instr.sliceAt,Instr.slice,Sem.run_bind,run_underlying hu,Result.andThen_ok,hb,eX hi,Sem.run_pure]
theorem Ao{len cap:Nat}{lo hi mx:Option (IntKind×Int)}(l h m:Int)(hm:m=(mx.map (·.2)).getD (cap:Int))(hh:h=(hi.map (·.2)).getD (len:Int))(hl:l=(lo.map (·.2)).getD 0)
 (h0:0≤l) (h1:l≤h) (h2:h≤m) (h3:m≤cap) (hp:mx.isSome=true→hi.isSome=true):
 (Instr.sliceBounds true len cap (lo.map fun x=>.int x.1 x.2) (hi.map fun x=>.int x.1 x.2) (mx.map fun x=>.int x.1 x.2)).run P w=.ok (l.toNat,h.toNat,m.toNat) w:=by
 subst hm hh hl
 have em:∀x:Int,0≤x→(x.toNat:Int)=x:=fun x hx=>Int.toNat_of_nonneg hx
 cases mx with
 |none=>
  cases hi with
  |none=>
   cases lo with
   |none=>simp[Instr.sliceBounds]
   |some lo=>
    simp only[Option.map_none,Option.getD_none,Option.map_some,Option.getD_some] at*
    simp[Instr.sliceBounds,run_sliceBound (P:=P) (w:=w) lo.1 lo.2 _ _ h0 h1]
  |some hi=>
   simp only[Option.map_none,Option.getD_none,Option.map_some,Option.getD_some] at*
   cases lo with
   |none=>
    simp only[Option.map_none,Option.getD_none] at*
    simp[Instr.sliceBounds,run_sliceBound (P:=P) (w:=w) hi.1 hi.2 cap _ h1 h2]
   |some lo=>
    simp only[Option.map_some,Option.getD_some] at*
    have:=run_sliceBound (P:=P) (w:=w) lo.1 lo.2 hi.2.toNat .sliceB h0 (by rw[em _ (by omega)];exact h1)
    simp[Instr.sliceBounds,run_sliceBound (P:=P) (w:=w) hi.1 hi.2 cap _ (by omega) h2,this]
 |some mx=>
  cases hi with
  |none=>simp at hp
  |some hi=>
   simp only[Option.map_some,Option.getD_some] at*
   have hmm:=run_sliceBound (P:=P) (w:=w) mx.1 mx.2 cap .slice3Acap (by omega) h3
   have hhh:=run_sliceBound (P:=P) (w:=w) hi.1 hi.2 mx.2.toNat .slice3B (by omega) (by rw[em _ (by omega)];exact h2)
   cases lo with
   |none=>simp[Instr.sliceBounds,hmm,hhh]
   |some lo=>
    simp only[Option.map_some,Option.getD_some] at*
    have:=run_sliceBound (P:=P) (w:=w) lo.1 lo.2 hi.2.toNat .slice3C h0 (by rw[em _ (by omega)];exact h1)
    simp[Instr.sliceBounds,hmm,hhh,this]
theorem an9{jY y lo hi mx}(c:Ctx fl base an μ h w s a)(ok:dH P o.op (.slice jY y lo hi mx)=true)(e:cM C fl s h (.slice jY y lo hi mx) K0=some (v,h1)):
 aV fl base an μ h w v h1 ((execOp a.eval o).run P w):=by
 simp only[cM] at e
 obtain⟨⟨ma,ml,mc⟩,hm,e⟩:=cA e
 change ev s y=.slice ma ml mc at hm
 simp only[dH] at ok
 unfold execOp
 split at ok
 ·rename_i t x lo' By mx' hx;rw[hx]
  simp only[Bool.and_eq_true] at ok
  obtain⟨⟨⟨⟨⟨k1,k2⟩,k3⟩,k4⟩,k5⟩,k6⟩:=ok
  have r1:=bE c.t k1
  rw[hm] at r1
  split at k6
  ·rename_i ee hee
   have hu:=KU hee
   obtain⟨ti,hti,rfl⟩:=KV k6
   have hlo:∃L:Option (IntKind×Int),lo'.map a.eval=L.map (fun x=>.int x.1 x.2)∧∃e',fX s hi (fun hi=>fX s mx fun mx=>sub ti.size ⟨ma,ml,mc⟩ (L.map (·.2)) hi mx fun v=>K0 (.slice v.a v.l v.c) h)=some e'∧e'=(v,h1):=by
    rcases CE c.t k2 e with⟨rfl,e1⟩|⟨x',k,n,rfl,q,e1⟩
    ·exact⟨none,rfl,_,e1,rfl⟩
    ·exact⟨some (k,n),by simp[q],_,e1,rfl⟩
   obtain⟨L,hL,e',e1,rfl⟩:=hlo
   have hhi:∃H:Option (IntKind×Int),By.map a.eval=H.map (fun x=>.int x.1 x.2)∧H.isSome=By.isSome∧fX s mx (fun mx=>sub ti.size ⟨ma,ml,mc⟩ (L.map (·.2)) (H.map (·.2)) mx fun v=>K0 (.slice v.a v.l v.c) h)=some (v,h1):=by
    rcases CE c.t k3 e1 with⟨rfl,e2⟩|⟨x',k,n,rfl,q,e2⟩
    ·exact⟨none,rfl,rfl,e2⟩
    ·exact⟨some (k,n),by simp[q],rfl,e2⟩
   obtain⟨H,hH,hHs,e2⟩:=hhi
   have hmx:∃M:Option (IntKind×Int),mx'.map a.eval=M.map (fun x=>.int x.1 x.2)∧M.isSome=mx'.isSome∧sub ti.size ⟨ma,ml,mc⟩ (L.map (·.2)) (H.map (·.2)) (M.map (·.2)) (fun v=>K0 (.slice v.a v.l v.c) h)=some (v,h1):=by
    rcases CE c.t k4 e2 with⟨rfl,e3⟩|⟨x',k,n,rfl,q,e3⟩
    ·exact⟨none,rfl,rfl,e3⟩
    ·exact⟨some (k,n),by simp[q],rfl,e3⟩
   obtain⟨M,hM,hMs,e3⟩:=hmx
   have hp:M.isSome=true→H.isSome=true:=by
    rw[hHs,hMs];intro hq;rw[hq] at k5;simpa using k5
   simp only[hL,hH,hM,Sem.run_bind]
   clear e e1 e2 hm
   revert r1
   generalize a.eval x=q
   intro r1
   unfold sub at e3
   simp only at e3
   split at e3
   ·rename_i hex
    split at e3
    ·rename_i hb
     obtain⟨b0,b1,b2,b3⟩:=hb
     simp only[K0,Option.some.injEq,Prod.mk.injEq] at e3
     obtain⟨rfl,rfl⟩:=e3
     rcases r1.ny with⟨rfl,rfl,rfl,rfl⟩|⟨b,ob,st',rb,off,rfl,g1,g2,g3,rfl⟩|⟨b,ob,st',rb,off,o',c',es,rfl,rfl,g1,g2,g3,g4,rfl⟩|⟨x4,a4,rfl,rfl,rfl,rfl⟩
     ·rw[r6 t ee none 0 0 hu ti hti _ _ _ _ _ _ (Ao _ _ _ rfl rfl rfl b0 b1 b2 b3 hp)]
      simp only[Option.map_none,ite_self,Result.andThen_ok,Sem.run_pure]
      have z1:((M.map (·.2)).getD ((0:Nat):Int))=0:=by omega
      have z2:((H.map (·.2)).getD ((0:Nat):Int))=0:=by omega
      have z3:((L.map (·.2)).getD (0:Int))=0:=by omega
      rw[z1,z2,z3]
      exact aV.still c.eW .kX
     ·rw[r6 t ee _ ml mc hu ti hti _ _ _ _ _ _ (Ao _ _ _ rfl rfl rfl b0 b1 b2 b3 hp)]
      simp only[Result.andThen_ok,Sem.run_pure,Option.map_some,kC]
      generalize (M.map (·.2)).getD (mc:Int)=m at*
      generalize (H.map (·.2)).getD (ml:Int)=hh at*
      generalize (L.map (·.2)).getD (0:Int)=l at*
      have e1:hh.toNat-l.toNat=(hh-l).toNat:=by omega
      have e2:m.toNat-l.toNat=(m-l).toNat:=by omega
      rw[e1,e2]
      refine aV.still c.eW ?_
      by_cases hml:m=l
      ·rw[if_pos hml,if_pos (by omega)]
       exact .slice g1 (by omega) (by omega)
      ·rw[if_neg hml,if_neg (by omega),Nat.add_assoc]
       exact .slice g1 (by omega) (by omega)
     ·omega
     ·rw[r6 t ee _ 0 0 hu ti hti _ _ _ _ _ _ (Ao _ _ _ rfl rfl rfl b0 b1 b2 b3 hp)]
      simp only[Result.andThen_ok,Sem.run_pure,Option.map_some]
      have z1:((M.map (·.2)).getD ((0:Nat):Int))=0:=by omega
      have z2:((H.map (·.2)).getD ((0:Nat):Int))=0:=by omega
      have z3:((L.map (·.2)).getD (0:Int))=0:=by omega
      rw[z1,z2,z3]
      exact aV.still c.eW .TJ
    ·cases e3
   ·rename_i hex
    change ¬(mc<nZ) at hex
    split at e3
    ·rename_i hes
     obtain⟨hes,hmn⟩:=hes
     change mc=nZ+ti.size at hes
     split at e3
     ·rename_i hb
      obtain⟨b0,b1,b3⟩:=hb
      simp only[K0,Option.some.injEq,Prod.mk.injEq] at e3
      obtain⟨rfl,rfl⟩:=e3
      have hM0:M=none:=by cases M<;>simp at hmn ⊢
      subst hM0
      rcases r1.ny with⟨rfl,rfl,rfl,rfl⟩|⟨b,ob,st',rb,off,rfl,g1,g2,g3,rfl⟩|⟨b,ob,st',rb,off,o',c',es,rfl,rfl,g1,g2,g3,g4,rfl⟩|⟨x4,a4,rfl,rfl,rfl,rfl⟩
      ·exact absurd (show(0:Nat)<nZ by unfold nZ;omega) hex
      ·omega
      ·have aBO:es=ti.size:=by omega
       subst aBO
       rw[r6 t ee _ ml c' hu ti hti _ _ _ _ _ _ (Ao _ _ _ rfl rfl rfl b0 b1 (by simp only[Option.map_none,Option.getD_none];omega) (by simp) hp)]
       simp only[Result.andThen_ok,Sem.run_pure,Option.map_some,kC,Option.map_none,Option.getD_none,Int.toNat_natCast]
       generalize (H.map (·.2)).getD (ml:Int)=hh at*
       generalize (L.map (·.2)).getD (0:Int)=l at*
       have e1:hh.toNat-l.toNat=(hh-l).toNat:=by omega
       rw[e1]
       refine aV.still c.eW ?_
       obtain⟨n,rfl⟩:=Int.eq_ofNat_of_zero_le b0
       simp only[Int.toNat_natCast]
       have hmul:n*ti.size+(c'-n)*ti.size=c'*ti.size:=by rw[←Nat.add_mul];congr 1;omega
       by_cases hml:c'=n
       ·rw[if_pos hml]
        refine .mi g1 (.inl (by omega)) (by omega) ?_
        have:c'-n=0:=by omega
        rw[this];omega
       ·rw[if_neg hml]
        refine .mi g1 ?_ (by omega) (by omega)
        rcases g2 with g2|g2
        ·left;omega
        ·right;omega
      ·exact absurd (show(0:Nat)<nZ by unfold nZ;omega) hex
     ·cases e3
    ·cases e3
  ·cases k6
 ·cases ok
end
end Go.Abs
end
section
namespace Go.Abs
section
variable{P:Program}{C:Callee}{fl base an:Nat}{μ:Mu}{h h1:AH}{w:World}{s:List Value}{a:Act}{v:Value}{o:Oper}
theorem CF(t ty e:TypeId)(i:TypeInfo)(ht:P.underlying t=some (.slice e))(hi:P.info? e=some i)(b:Addr)(abO adB n c:Nat)(x:Option Addr)(new:List Value){w':World}
 (hx:(Builtin.firstCells i.size n (.slice x n c)).run P w=.ok new.toArray w) (UD:abO+n≤adB)
 (hst:(storeCells (b.add (abO*i.size)) new).run P w=.ok () w'):
 (Builtin.append_ #[t,t] ty #[.slice (some b) abO adB,.slice x n c]).run P w=.ok (.slice (some b) (abO+n) adB) w':=by
 simp[Builtin.append_,run_underlying ht,eX hi,Builtin.lenOf,UD,hx,hst]
theorem NR(t ty e:TypeId)(i:TypeInfo)(ht:P.underlying t=some (.slice e))(hi:P.info? e=some i)(b:Option Addr)(abO adB c:Nat)(x:Option Addr)(UD:abO≤adB):
 (Builtin.append_ #[t,t] ty #[.slice b abO adB,.slice x 0 c]).run P w=.ok (.slice b abO adB) w:=by
 have hx:(Builtin.firstCells i.size 0 (.slice x 0 c)).run P w=.ok #[] w:=by
  cases x with
  |none=>exact run_firstCells_none w _ _ _ _
  |some x=>exact run_firstCells_some w i.size 0 x 0 c [] (by simp) (by simp)
 cases b<;>simp[Builtin.append_,run_underlying ht,eX hi,Builtin.lenOf,UD,hx,storeCells]
theorem at7{t z}(h:(match zeroOf P t with|some z'=>z'.length==z|none=>false)=true){i:TypeInfo}(hi:P.info? t=some i):∃zv,i.zero=some zv∧zv.cells.size=z:=by
 unfold zeroOf at h
 rw[hi] at h
 simp only at h
 split at h
 ·rename_i z' hz
  split at hz
  ·rename_i zv hzv
   injection hz with hz;subst hz
   exact⟨zv,hzv,by simpa using h⟩
  ·cases hz
 ·cases h
theorem Ctx.KW{a1:Option Addr}{l c1 n:Nat}{v'}(sm:yB base an μ h w)(r:cB μ (cX w) (.slice a1 l c1) v')(hl:0<l):
 ∃b o st rb off c',a1=some ⟨b,o,st⟩∧μ b=some (rb,off)∧v'=.slice (some ⟨rb,off+o,none⟩) l c':=by
 rcases r.ny with⟨_,rfl,_,_⟩|⟨b,ob,st',rb,off,rfl,g1,g2,g3,rfl⟩|⟨b,ob,st',rb,off,o',c',es,rfl,rfl,g1,g2,g3,g4,rfl⟩|⟨x4,a4,rfl,rfl,rfl,rfl⟩
 ·omega
 ·exact⟨_,_,_,_,_,_,rfl,g1,rfl⟩
 ·rcases g2 with g2|g2
  ·omega
  ·subst g2;exact⟨_,_,_,_,_,_,rfl,g1,rfl⟩
 ·omega
theorem yB.drew(sm:yB base an μ h w):bZ fl base an μ h w μ h w.drew:=bZ.heap sm rfl rfl rfl rfl
theorem xu{e:TypeId}(zv:Value)(ana UB jY:Nat)(hz:zv.cells.size=jY)(xs:List Value)(hl:xs.length=ana*jY):
 (xs.toArray++Builtin.zeroCells zv.cells (grownCap w ana UB e-ana)).size=grownCap w ana UB e*jY:=by
 have h1:=grownCap_ge w ana UB e
 simp[Builtin.zeroCells,hz,hl]
 rw[←Nat.add_mul];congr 1;omega
theorem ai5{jY bytes y z}(c:Ctx fl base an μ h w s a)(hf:h.next<h1.next→μ h.next=none)(ok:dH P o.op (.append jY bytes y z)=true)(e:cM C fl s h (.append jY bytes y z) K0=some (v,h1)):
 aV fl base an μ h w v h1 ((execOp a.eval o).run P w):=by
 simp only[cM] at e
 obtain⟨⟨sa,sl,sc⟩,hs,e⟩:=cA e
 obtain⟨⟨xa,xl,xc⟩,hx,e⟩:=cA e
 change ev s y=.slice sa sl sc at hs
 change ev s z=.slice xa xl xc at hx
 simp only[dH] at ok
 unfold execOp
 split at ok
 ·rename_i args tys ho;rw[ho]
  split at ok
  ·rename_i y' z' t t' ha ht
   have ha:=ai4 ha
   subst ha
   simp only[Bool.and_eq_true,decide_eq_true_eq] at ok
   obtain⟨⟨⟨⟨k1,k2⟩,aAU⟩,kbp⟩,k3⟩:=ok
   split at k3
   ·rename_i ee hee
    have hu:=KU hee
    simp only[Bool.and_eq_true,beq_iff_eq] at k3
    obtain⟨⟨⟨ks,kb⟩,rfl⟩,kz⟩:=k3
    have ht:tys=#[t',t']:=by apply Array.ext';rw[ht]
    subst ht
    obtain⟨i,hi,rfl⟩:=KV ks
    have hby:i.bytes=bytes:=by
     unfold O7 at kb
     rw[hi] at kb;simpa using kb
    obtain⟨zv,hzv,hzs⟩:=at7 kz hi
    have r1:=bE c.t k1
    have r2:=bE c.t k2
    rw[hs] at r1;rw[hx] at r2
    simp only[resolve,Sem.run_bind,Sem.run_pure,Result.andThen_ok,invoke,builtin,List.map_toArray,List.map_cons,List.map_nil]
    revert r1 r2
    generalize a.eval y'=q1
    generalize a.eval z'=q2
    intro r1 r2
    clear hs hx
    unfold fW at e
    simp only at e
    split at e
    ·
      rename_i h0
      subst h0
      simp only[K0,Option.some.injEq,Prod.mk.injEq] at e
      obtain⟨rfl,rfl⟩:=e
      have X0:∃xb xcc,q2=.slice xb 0 xcc:=by
       rcases r2.ny with⟨rfl,_,rfl,rfl⟩|⟨b,ob,st',rb,off,rfl,g1,g2,g3,rfl⟩|⟨b,ob,st',rb,off,o',c',es,rfl,rfl,g1,g2,g3,g4,rfl⟩|⟨x4,a4,rfl,_,rfl,rfl⟩
       ·exact⟨_,_,rfl⟩
       ·exact⟨_,_,rfl⟩
       ·exact⟨_,_,rfl⟩
       ·exact⟨_,_,rfl⟩
      obtain⟨xb,xcc,rfl⟩:=X0
      have hs2:∃sb scc,q1=.slice sb sl scc∧sl≤scc:=by
       rcases r1.ny with⟨rfl,rfl,rfl,rfl⟩|⟨b,ob,st',rb,off,rfl,g1,g2,g3,rfl⟩|⟨b,ob,st',rb,off,o',c',es,rfl,rfl,g1,g2,g3,g4,rfl⟩|⟨x4,a4,rfl,rfl,rfl,rfl⟩
       ·exact⟨_,_,rfl,Nat.le_refl _⟩
       ·exact⟨_,_,rfl,g3⟩
       ·exact⟨_,_,rfl,g3⟩
       ·exact⟨_,_,rfl,Nat.le_refl _⟩
      obtain⟨sb,scc,rfl,hle⟩:=hs2
      rw[NR t' o.type ee i hu hi sb sl scc xcc xb hle]
      exact aV.still c.eW r1
    ·rename_i h0
     have hxl:0<xl:=by omega
     split at e
     ·rename_i UD
      obtain⟨bx,ox,stx,rbx,O5,cx,rfl,mx,rfl⟩:=Ctx.KW (n:=0) c.eW r2 hxl
      obtain⟨xs,avn,e2,_,avy⟩:=CD e
      clear e
      obtain⟨xf,rx,avD⟩:=c.eW.TR mx xs ox avy
      have NM:xf.length=xl*i.size:=by rw[←rx.1,avn]
      have aby:∀j u,xf[j]?=some u→w.cell? ((⟨rbx,O5+ox,none⟩:Addr).add j)=some u:=fun j u hu=>by rw[kC];exact avD j u hu
      have XJ:=run_firstCells_some (P:=P) w i.size xl ⟨rbx,O5+ox,none⟩ xl cx xf NM aby
      have So:(sl+xl)*bytes≤140737488355328:=by simpa [kA] using UD
      have hsn:sl+xl≤140737488355328:=Nat.le_trans (Nat.le_mul_of_pos_right _ kbp) So
      rcases r1.ny with⟨rfl,rfl,rfl,rfl⟩|⟨b,ob,st',rb,off,rfl,g1,g2,g3,rfl⟩|⟨b,ob,st',rb,off,o',c',es,rfl,rfl,g1,g2,g3,g4,rfl⟩|⟨x4,a4,rfl,rfl,rfl,rfl⟩
      ·
        simp only[and_self,if_true,K0,Option.some.injEq,Prod.mk.injEq] at e2
        obtain⟨rfl,rfl⟩:=e2
        have hr:=run_append_nil (P:=P) w t' o.type ee i zv hu hi hzv ⟨rbx,O5+ox,none⟩ xl cx xf NM aby hxl (by omega) (by rw[hby];simp only[Nat.zero_add] at So;omega)
        rw[hr]
        simp only[Result.andThen_ok]
        have p1:=c.eW.drew (fl:=fl)
        have p2:=bZ.alloc (fl:=fl) (c:=xf.toArray++Builtin.zeroCells zv.cells (grownCap w xl 0 ee-xl)) (t:=ee) p1.eW c.hn (by exact c.hr) (hf (Nat.lt_succ_self _)) (cs:=xs) (fun j u hu=>by
         obtain⟨u',q1,q2⟩:=rx.get hu
         refine⟨u',?_,q2⟩
         rw[Array.getElem?_append_left (by have:=(List.getElem?_eq_some_iff.1 q1).1;simpa using this)]
         simpa using q1)
        refine⟨_,_,_,.inl rfl,p1.trans p2 (Nat.le_refl _),?_⟩
        have hn:=heap_alloc_new w.drew (.cells (xf.toArray++Builtin.zeroCells zv.cells (grownCap w xl 0 ee-xl)) ee)
        have Sr:=fZ hn
        have hg:=xu (w:=w) (e:=ee) zv xl 0 i.size hzs xf NM
        exact .mi (o':=0) (bX _ _ _) (.inr rfl) (grownCap_ge _ _ _ _) (by rw[Nat.zero_add];exact Nat.le_of_eq (by rw[←hg];exact Sr.symm))
      ·
        simp only at e2
        rw[if_pos g2] at e2
        split at e2
        ·rename_i adx
         obtain⟨cc,h2,w1,w2,w3,w4,w5⟩:=P4 (P:=P) (p:=⟨b,ob+sl*i.size,none⟩) c.eW c.hb e2 rx g1
         simp only[K0,Option.some.injEq,Prod.mk.injEq] at w3
         obtain⟨rfl,rfl⟩:=w3
         have hr:=CF (P:=P) t' o.type ee i hu hi ⟨rb,off+ob,none⟩ sl sc xl cx (some ⟨rbx,O5+ox,none⟩) xf XJ adx (by rw[kC,Nat.add_assoc];exact w1)
         rw[hr]
         simp only[Result.andThen_ok]
         refine⟨_,_,_,.inl rfl,w2,?_⟩
         exact .slice g1 g2 adx
        ·rename_i adx
         obtain⟨ys,anm,e2,_,avG⟩:=CD e2
         simp only[K0,Option.some.injEq,Prod.mk.injEq] at e2
         obtain⟨rfl,rfl⟩:=e2
         obtain⟨ys',ry,au3⟩:=c.eW.TR g1 ys ob avG
         have hly:ys'.length=sl*i.size:=by rw[←ry.1,anm]
         have hr:=run_append_grow (P:=P) w t' o.type ee i zv hu hi hzv ⟨rb,off+ob,none⟩ sl sc ys' hly (fun j u hu=>by rw[kC];exact au3 j u hu) ⟨rbx,O5+ox,none⟩ xl cx xf NM aby (by omega) (by omega) (growslice_fits (by omega) (by rw[hby];exact So))
         rw[hr]
         simp only[Result.andThen_ok]
         have p1:=c.eW.drew (fl:=fl)
         have rr:=ry.append rx
         have p2:=bZ.alloc (fl:=fl) (c:=ys'.toArray++xf.toArray++Builtin.zeroCells zv.cells (grownCap w (sl+xl) sc ee-(sl+xl))) (t:=ee) p1.eW c.hn (by exact c.hr) (hf (Nat.lt_succ_self _)) (cs:=ys++xs) (fun j u hu=>by
          obtain⟨u',q1,q2⟩:=rr.get hu
          refine⟨u',?_,q2⟩
          have hlt:=(List.getElem?_eq_some_iff.1 q1).1
          rw[Array.getElem?_append_left (by simpa using hlt)]
          simpa using q1)
         refine⟨_,_,_,.inl rfl,p1.trans p2 (Nat.le_refl _),?_⟩
         have hn:=heap_alloc_new w.drew (.cells (ys'.toArray++xf.toArray++Builtin.zeroCells zv.cells (grownCap w (sl+xl) sc ee-(sl+xl))) ee)
         have Sr:=fZ hn
         have hg:=xu (w:=w) (e:=ee) zv (sl+xl) sc i.size hzs (ys'++xf) (by rw[List.length_append,hly,NM,Nat.add_mul])
         rw[←List.append_toArray] at hg
         exact .mi (o':=0) (bX _ _ _) (.inr rfl) (grownCap_ge _ _ _ _) (by rw[Nat.zero_add];exact Nat.le_of_eq (by rw[←hg];exact Sr.symm))
      ·
        simp only at e2
        rw[if_neg (by omega)] at e2
        split at e2
        ·rename_i hk
         obtain⟨hk1,hk2,hk3⟩:=hk
         change fl≤b at hk1
         have hes:es=i.size:=by omega
         subst hes
         obtain⟨ys,anm,e2,⟨cs,hcs⟩,avG⟩:=CD e2
         simp only[K0,Option.some.injEq,Prod.mk.injEq] at e2
         obtain⟨rfl,rfl⟩:=e2
         obtain⟨ys',ry,au3⟩:=c.eW.TR g1 ys ob avG
         have hly:ys'.length=sl*i.size:=by rw[←ry.1,anm]
         have ax2:∀(j:Nat) u,ys'[j]?=some u→w.cell? ⟨rb,o'+j,none⟩=some u:=by
          intro j u hu
          have XO:=(List.getElem?_eq_some_iff.1 hu).1
          rcases g2 with g2|g2
          ·subst g2;simp at hly;subst hly;simp at XO
          ·subst g2;exact au3 j u hu
         have rr:=ry.append rx
         by_cases adx:sl+xl≤c'
         ·
           obtain⟨_,cur,tt,hg⟩:=c.eW.own b cs rb off (Nat.le_trans c.hb hk1) hcs g1
           have avL:=fZ hg
           rw[avL] at g4
           have hmul:(sl+xl)*i.size≤c'*i.size:=Nat.mul_le_mul_right _ adx
           have aD5:(sl+xl)*i.size=sl*i.size+xl*i.size:=Nat.add_mul _ _ _
           have hst:=run_storeCells_at (P:=P) rb (o'+sl*i.size) tt xf 0 cur w hg (by omega) (rx.one hk3)
           simp only[Nat.add_zero] at hst
           have hr:=CF (P:=P) t' o.type ee i hu hi ⟨rb,o',none⟩ sl c' xl cx (some ⟨rbx,O5+ox,none⟩) xf XJ adx (by rw[kC];exact hst)
           rw[hr]
           simp only[Result.andThen_ok]
           refine⟨_,_,_,.inl rfl,bZ.azw (o':=o') c.eW hk1 c.hb hcs g1 (hf (Nat.lt_succ_self _)) hg ?_ ?_,?_⟩
           ·simp;omega
           ·intro j u hu
            obtain⟨u',q1,q2⟩:=rr.get hu
            refine⟨u',?_,q2⟩
            have hlt:=(List.getElem?_eq_some_iff.1 q1).1
            simp only[List.length_append] at hlt
            simp only[List.getElem?_toArray]
            by_cases hj:j<ys'.length
            ·rw[List.getElem?_append_left hj] at q1
             have q3:=ax2 j u' q1
             rw[mU hg] at q3
             rw[List.append_assoc,List.getElem?_append_left (by simp;omega),List.getElem?_take,if_pos (by omega)]
             simpa using q3
            ·rw[List.getElem?_append_right (by omega)] at q1
             rw[List.append_assoc,List.getElem?_append_right (by simp;omega),List.getElem?_append_left (by simp;omega)]
             have e1:o'+j-(List.take (o'+sl*i.size) cur.toList).length=j-ys'.length:=by simp;omega
             rw[e1];exact q1
           ·refine .mi (o':=o') (bX _ _ _) (.inr rfl) adx ?_
            have hn:=setRow_heap w rb cur (List.take (o'+sl*i.size) cur.toList++xf++List.drop (o'+sl*i.size+xf.length) cur.toList).toArray tt (0,0) hg
            rw[fZ hn]
            simp;omega
         ·
           have hr:=run_append_grow (P:=P) w t' o.type ee i zv hu hi hzv ⟨rb,o',none⟩ sl c' ys' hly (fun j u hu=>by rw[kC];exact ax2 j u hu) ⟨rbx,O5+ox,none⟩ xl cx xf NM aby (by omega) (by omega) (growslice_fits (by omega) (by rw[hby];exact So))
           rw[hr]
           simp only[Result.andThen_ok]
           have p1:=c.eW.drew (fl:=fl)
           have XH:=bZ.kill (fl:=fl) p1.eW b hk1
           have p2:=bZ.alloc (fl:=fl) (c:=ys'.toArray++xf.toArray++Builtin.zeroCells zv.cells (grownCap w (sl+xl) c' ee-(sl+xl))) (t:=ee) XH.eW c.hn (by exact c.hr) (hf (Nat.lt_succ_self _)) (cs:=ys++xs) (fun j u hu=>by
            obtain⟨u',q1,q2⟩:=rr.get hu
            refine⟨u',?_,q2⟩
            have hlt:=(List.getElem?_eq_some_iff.1 q1).1
            rw[Array.getElem?_append_left (by simpa using hlt)]
            simpa using q1)
           refine⟨_,_,_,.inl rfl,p1.trans (XH.trans p2 (Nat.le_refl _)) (Nat.le_refl _),?_⟩
           have hn:=heap_alloc_new w.drew (.cells (ys'.toArray++xf.toArray++Builtin.zeroCells zv.cells (grownCap w (sl+xl) c' ee-(sl+xl))) ee)
           have Sr:=fZ hn
           have hg:=xu (w:=w) (e:=ee) zv (sl+xl) c' i.size hzs (ys'++xf) (by rw[List.length_append,hly,NM,Nat.add_mul])
           rw[←List.append_toArray] at hg
           exact .mi (o':=0) (bX _ _ _) (.inr rfl) (grownCap_ge _ _ _ _) (by rw[Nat.zero_add];exact Nat.le_of_eq (by rw[←hg];exact Sr.symm))
        ·cases e2
      ·
        simp only at e2
        rw[if_pos (show(0:Nat)<nZ by unfold nZ;omega),if_neg (by omega)] at e2
        obtain⟨ys,anm,e2,_,_⟩:=CD e2
        simp only[K0,Option.some.injEq,Prod.mk.injEq] at e2
        obtain⟨rfl,rfl⟩:=e2
        obtain rfl:ys=[]:=List.length_eq_zero_iff.1 (by rw[anm,Nat.zero_mul])
        have hr:=run_append_grow (P:=P) w t' o.type ee i zv hu hi hzv a4 0 0 [] (by simp) (fun j u hu=>by simp at hu) ⟨rbx,O5+ox,none⟩ xl cx xf NM aby (by omega) (by omega) (growslice_fits (by omega) (by rw[hby];exact So))
        rw[hr]
        simp only[Result.andThen_ok]
        have p1:=c.eW.drew (fl:=fl)
        have p2:=bZ.alloc (fl:=fl) (c:=([]:List Value).toArray++xf.toArray++Builtin.zeroCells zv.cells (grownCap w (0+xl) 0 ee-(0+xl))) (t:=ee) p1.eW c.hn (by exact c.hr) (hf (Nat.lt_succ_self _)) (cs:=[]++xs) (fun j u hu=>by
         obtain⟨u',q1,q2⟩:=rx.get (by simpa using hu)
         refine⟨u',?_,q2⟩
         have hlt:=(List.getElem?_eq_some_iff.1 q1).1
         rw[Array.getElem?_append_left (by simpa using hlt)]
         simpa using q1)
        refine⟨_,_,_,.inl rfl,p1.trans p2 (Nat.le_refl _),?_⟩
        have hn:=heap_alloc_new w.drew (.cells (([]:List Value).toArray++xf.toArray++Builtin.zeroCells zv.cells (grownCap w (0+xl) 0 ee-(0+xl))) ee)
        have Sr:=fZ hn
        have hg:=xu (w:=w) (e:=ee) zv (0+xl) 0 i.size hzs ([]++xf) (by rw[List.nil_append,NM,Nat.zero_add])
        rw[←List.append_toArray] at hg
        exact .mi (o':=0) (bX _ _ _) (.inr rfl) (grownCap_ge _ _ _ _) (by rw[Nat.zero_add];exact Nat.le_of_eq (by rw[←hg];exact Sr.symm))
     ·cases e
   ·cases k3
  ·cases ok
 ·cases ok
theorem at8{jY y z}(c:Ctx fl base an μ h w s a)(ok:dH P o.op (.copy jY y z)=true)(e:cM C fl s h (.copy jY y z) K0=some (v,h1)):
 aV fl base an μ h w v h1 ((execOp a.eval o).run P w):=by
 simp only[cM] at e
 obtain⟨⟨sa,sl,sc⟩,hs,e⟩:=cA e
 obtain⟨⟨xa,xl,xc⟩,hx,e⟩:=cA e
 change ev s y=.slice sa sl sc at hs
 change ev s z=.slice xa xl xc at hx
 simp only[dH] at ok
 unfold execOp
 split at ok
 ·rename_i args tys ho;rw[ho]
  split at ok
  ·rename_i y' z' t tt ha ht
   have ha:=ai4 ha
   subst ha
   simp only[Bool.and_eq_true,decide_eq_true_eq] at ok
   obtain⟨⟨⟨k1,k2⟩,aAU⟩,k3⟩:=ok
   split at k3
   ·rename_i ee hee
    have hu:=KU hee
    obtain⟨i,hi,rfl⟩:=KV k3
    have ht0:tys[0]?=some t:=by
     have:tys.toList[0]?=some t:=by rw[ht];rfl
     simpa using this
    have r1:=bE c.t k1
    have r2:=bE c.t k2
    rw[hs] at r1;rw[hx] at r2
    simp only[resolve,Sem.run_bind,Sem.run_pure,Result.andThen_ok,invoke,builtin,List.map_toArray,List.map_cons,List.map_nil]
    revert r1 r2
    generalize a.eval y'=q1
    generalize a.eval z'=q2
    intro r1 r2
    clear hs hx
    unfold cpy at e
    simp only at e
    have hd:∃db dc,q1=.slice db sl dc:=by
     rcases r1.ny with⟨rfl,rfl,rfl,rfl⟩|⟨b,ob,st',rb,off,rfl,g1,g2,g3,rfl⟩|⟨b,ob,st',rb,off,o',c',es,rfl,rfl,g1,g2,g3,g4,rfl⟩|⟨x4,a4,rfl,rfl,rfl,rfl⟩
     ·exact⟨_,_,rfl⟩
     ·exact⟨_,_,rfl⟩
     ·exact⟨_,_,rfl⟩
     ·exact⟨_,_,rfl⟩
    have hx:∃db dc,q2=.slice db xl dc:=by
     rcases r2.ny with⟨rfl,rfl,rfl,rfl⟩|⟨b,ob,st',rb,off,rfl,g1,g2,g3,rfl⟩|⟨b,ob,st',rb,off,o',c',es,rfl,rfl,g1,g2,g3,g4,rfl⟩|⟨x4,a4,rfl,rfl,rfl,rfl⟩
     ·exact⟨_,_,rfl⟩
     ·exact⟨_,_,rfl⟩
     ·exact⟨_,_,rfl⟩
     ·exact⟨_,_,rfl⟩
    split at e
    ·rename_i h0
     simp only[K0,Option.some.injEq,Prod.mk.injEq] at e
     obtain⟨rfl,rfl⟩:=e
     obtain⟨db,dc,rfl⟩:=hd
     obtain⟨xb,xcc,rfl⟩:=hx
     have hx:(Builtin.firstCells i.size 0 (.slice xb xl xcc)).run P w=.ok #[] w:=by
      cases xb with
      |none=>exact run_firstCells_none w _ _ _ _
      |some x=>exact run_firstCells_some w i.size 0 x xl xcc [] (by simp) (by simp)
     have hr:(Builtin.copy_ tys o.type #[.slice db sl dc,.slice xb xl xcc]).run P w=.ok (.int .i64 0) w:=by
      have h0':Nat.min xl sl=0:=h0
      cases db<;>simp[Builtin.copy_,ht0,run_underlying hu,eX hi,Builtin.lenOf,h0',hx,storeCells,goInt]
     rw[hr]
     exact aV.still c.eW (.int _ _)
    ·rename_i h0
     have hm:min xl sl≤xl:=Nat.min_le_left _ _
     have hm2:min xl sl≤sl:=Nat.min_le_right _ _
     obtain⟨bx,ox,stx,rbx,O5,cx,rfl,mx,rfl⟩:=Ctx.KW (n:=0) c.eW r2 (by omega)
     obtain⟨bd,od,std,rbd,aBw,cd,rfl,md,rfl⟩:=Ctx.KW (n:=0) c.eW r1 (by omega)
     obtain⟨xs,avn,e2,_,avy⟩:=CD e
     clear e
     simp only at e2
     obtain⟨xf,rx,avD⟩:=c.eW.TR mx xs ox avy
     have NM:xf.length=min xl sl*i.size:=by rw[←rx.1,avn]
     have XJ:=run_firstCells_some (P:=P) w i.size (min xl sl) ⟨rbx,O5+ox,none⟩ xl cx xf NM (fun j u hu=>by rw[kC];exact avD j u hu)
     obtain⟨cc,h2,w1,w2,w3,w4,w5⟩:=P4 (P:=P) (p:=⟨bd,od,std⟩) c.eW c.hb e2 rx md
     simp only[K0,Option.some.injEq,Prod.mk.injEq] at w3
     obtain⟨rfl,rfl⟩:=w3
     have hr:(Builtin.copy_ tys o.type #[.slice (some ⟨rbd,aBw+od,none⟩) sl cd,.slice (some ⟨rbx,O5+ox,none⟩) xl cx]).run P w=.ok (.int .i64 (min xl sl:Nat)) (w.setRow rbd cc):=by
      have as0:(Builtin.firstCells i.size (Nat.min xl sl) (.slice (some ⟨rbx,O5+ox,none⟩) xl cx)).run P w=.ok xf.toArray w:=XJ
      have hmm:Nat.min xl sl=min xl sl:=rfl
      simp[Builtin.copy_,ht0,run_underlying hu,eX hi,Builtin.lenOf,as0,w1,goInt,hmm]
     rw[hr]
     simp only[Result.andThen_ok]
     exact⟨_,_,_,.inl rfl,w2,.int _ _⟩
   ·cases k3
  ·cases ok
 ·cases ok
end
end Go.Abs
end
section
namespace Go.Abs
section
variable{R S:Type}(g:R→Option S)
theorem dy(k v)(F:Int→Option R):asInt k v (fun n=>(F n).bind g)=(asInt k v F).bind g:=by
 unfold asInt;split
 ·split<;>rfl
 ·rfl
theorem tI(v)(F:Bool→Option R):asBool v (fun n=>(F n).bind g)=(asBool v F).bind g:=by
 unfold asBool;split<;>rfl
theorem la(v)(F:Sl→Option R):bB v (fun n=>(F n).bind g)=(bB v F).bind g:=by
 unfold bB;split<;>rfl
theorem vI(v)(F:Addr→Option R):cQ v (fun n=>(F n).bind g)=(cQ v F).bind g:=by
 unfold cQ;split<;>rfl
theorem X5(v)(F:Option Addr→Option R):fV v (fun n=>(F n).bind g)=(fV v F).bind g:=by
 unfold fV;split<;>rfl
theorem ab4(v)(F:List Value→Option R):asAgg v (fun n=>(F n).bind g)=(asAgg v F).bind g:=by
 unfold asAgg;split<;>rfl
theorem P6(v)(F:List Value→Option R):bj v (fun n=>(F n).bind g)=(bj v F).bind g:=by
 unfold bj;split<;>rfl
theorem CG(s v)(F:Value→Option R):oi s v (fun n=>(F n).bind g)=(oi s v F).bind g:=by
 cases s with
 |any=>rfl
 |int k=>exact dy g k v fun n=>F (.int k n)
 |bool=>exact tI g v fun n=>F (.bool n)
 |slice=>exact la g v fun s=>F (.slice s.a s.l s.c)
 |ptr=>exact vI g v fun a=>F (.pointer (some a))
 |kB=>exact X5 g v fun a=>F (.pointer a)
theorem Ih:∀(ss vs) (F:List Value→Option R),Al ss vs (fun n=>(F n).bind g)=(Al ss vs F).bind g
 |[],[],_=>rfl
 |[],_::_,_=>rfl
 |_::_,[],_=>rfl
 |s::ss,v::vs,F=>by
  simp only[Al]
  rw[←CG]
  congr 1;funext v'
  exact Ih ss vs fun yA=>F (v'::yA)
theorem Mm(s v)(F:Value→Option R):FW s v (fun n=>(F n).bind g)=(FW s v F).bind g:=by
 cases s with
 |one s=>exact CG g s v F
 |agg l=>
  simp only[FW]
  rw[←ab4]
  congr 1;funext cs
  exact Ih g l cs fun eC=>F (.agg ⟨eC⟩)
theorem Ii:∀(ss vs) (F:List Value→Option R),Am ss vs (fun n=>(F n).bind g)=(Am ss vs F).bind g
 |[],[],_=>rfl
 |[],_::_,_=>rfl
 |_::_,[],_=>rfl
 |s::ss,v::vs,F=>by
  simp only[Am]
  rw[←Mm]
  congr 1;funext v'
  exact Ii ss vs fun yA=>F (v'::yA)
theorem X6(s v)(F:Value→Option R):KR s v (fun n=>(F n).bind g)=(KR s v F).bind g:=by
 cases s with
 |one s=>exact Mm g s v F
 |jo l=>
  simp only[KR]
  rw[←P6]
  congr 1;funext cs
  exact Ii g l cs fun eC=>F (.tuple ⟨eC⟩)
theorem TS(s h b o)(F:Value→Option R):KS s h b o (fun n=>(F n).bind g)=(KS s h b o F).bind g:=by
 unfold KS;split
 ·exact CG g s _ F
 ·rfl
theorem P7:∀(ss h b o) (F:List Value→Option R),Ft ss h b o (fun n=>(F n).bind g)=(Ft ss h b o F).bind g
 |[],_,_,_,_=>rfl
 |s::ss,h,b,o,F=>by
  simp only[Ft]
  rw[←TS]
  congr 1;funext v'
  exact P7 ss h b (o+1) fun yA=>F (v'::yA)
theorem UP(fl h a xs)(F:AH→Option R):st fl h a xs (fun n=>(F n).bind g)=(st fl h a xs F).bind g:=by
 unfold st;(repeat' split)<;>rfl
theorem Ij(h a n)(F:List Value→Option R):Cu h a n (fun n=>(F n).bind g)=(Cu h a n F).bind g:=by
 unfold Cu;(repeat' split)<;>rfl
theorem agx(fl jY bytes s x h)(F:Sl→AH→Option R):fW fl jY bytes s x h (fun n m=>(F n m).bind g)=(fW fl jY bytes s x h F).bind g:=by
 unfold fW
 split
 ·rfl
 ·split
  ·rw[←Ij]
   congr 1;funext xs
   split
   ·split<;>rfl
   ·split
    ·split
     ·exact UP g _ _ _ _ _
     ·exact Ij g _ _ _ _
    ·split
     ·exact Ij g _ _ _ _
     ·rfl
  ·rfl
theorem agy(bytes z l c h)(F:Sl→AH→Option R):xg bytes z l c h (fun n m=>(F n m).bind g)=(xg bytes z l c h F).bind g:=by
 unfold xg;split<;>rfl
theorem ai6(jY s lo hi mx)(F:Sl→Option R):sub jY s lo hi mx (fun n=>(F n).bind g)=(sub jY s lo hi mx F).bind g:=by
 unfold sub;(repeat' split)<;>rfl
theorem ai7(jY s i)(F:Addr→Option R):idx jY s i (fun n=>(F n).bind g)=(idx jY s i F).bind g:=by
 unfold idx;(repeat' split)<;>rfl
theorem ai8(fl jY d s h)(F:Int→AH→Option R):cpy fl jY d s h (fun n m=>(F n m).bind g)=(cpy fl jY d s h F).bind g:=by
 unfold cpy
 split
 ·rfl
 ·rw[←Ij]
  congr 1;funext xs
  split
  ·exact UP g _ _ _ _ _
  ·rfl
theorem ab5(C fl f args sh h)(F:Value→AH→Option R):PZ C fl f args sh h (fun n m=>(F n m).bind g)=(PZ C fl f args sh h F).bind g:=by
 unfold PZ
 split
 ·split
  ·exact X6 g sh _ _
  ·rfl
 ·rfl
theorem CH(st o)(F:Option Int→Option R):fX st o (fun n=>(F n).bind g)=(fX st o F).bind g:=by
 unfold fX;(repeat' split)<;>rfl
theorem TT(C:Callee)(fl:Nat)(s:List Value)(h:AH)(o:H8)(F:Value→AH→Option R):
 cM C fl s h o (fun v h=>(F v h).bind g)=(cM C fl s h o F).bind g:=by
 cases o with
 |mv x=>rfl
 |pick c a b=>simp only[cM];rw[←tI];congr 1;funext t;split<;>rfl
 |box x=>simp only[cM];split<;>rfl
 |alloc z=>rfl
 |build z ps=>simp only[cM];split<;>rfl
 |aQ len z ps=>simp only[cM];split<;>rfl
 |load sh a=>
  simp only[cM];rw[←vI];congr 1;funext a
  cases sh with
  |one s0=>exact TS g s0 h _ _ fun v=>F v h
  |agg l=>exact P7 g l h _ _ fun vs=>F (.agg ⟨vs⟩) h
 |store n a x=>
  simp only[cM];rw[←vI];congr 1;funext a
  split
  ·exact UP g _ _ _ _ fun h1=>F undef h1
  ·rfl
 |cg x=>simp only[cM];rw[←vI]
 |bin op k x y=>
  simp only[cM];rw[←dy];congr 1;funext a;rw[←dy];congr 1;funext b;split<;>rfl
 |sh l k yk x y=>
  simp only[cM];rw[←dy];congr 1;funext a;rw[←dy];congr 1;funext b;split<;>rfl
 |cmp op k x y=>
  simp only[cM];rw[←dy];congr 1;funext a;rw[←dy];congr 1;funext b;split<;>rfl
 |beq neg x y=>simp only[cM];rw[←tI];congr 1;funext a;rw[←tI]
 |Fq neg x=>simp only[cM];rw[←la]
 |not x=>simp only[cM];rw[←tI]
 |neg k x=>simp only[cM];rw[←dy]
 |conv a b x=>simp only[cM];rw[←dy]
 |xd f a b=>rfl
 |cD bytes z l c=>
  simp only[cM];rw[←dy];congr 1;funext a;rw[←dy];congr 1;funext b
  exact agy g _ _ _ _ _ fun v h1=>F (.slice v.a v.l v.c) h1
 |slice jY x lo hi mx=>
  simp only[cM];rw[←la];congr 1;funext v;rw[←CH];congr 1;funext lo;rw[←CH];congr 1;funext hi;rw[←CH];congr 1;funext mx
  exact ai6 g _ _ _ _ _ fun v=>F (.slice v.a v.l v.c) h
 |cu off x=>simp only[cM];rw[←vI]
 |dx jY x i=>
  simp only[cM];rw[←la];congr 1;funext v;rw[←dy];congr 1;funext i
  exact ai7 g _ _ _ fun a=>F (.pointer (some a)) h
 |KI x i=>simp only[cM];rw[←P6];congr 1;funext vs;split<;>rfl
 |call f args sh=>exact ab5 g C fl _ _ sh h F
 |len x=>simp only[cM];rw[←la]
 |append jY bytes a x=>
  simp only[cM];rw[←la];congr 1;funext a;rw[←la];congr 1;funext x
  exact agx g _ _ _ _ _ _ fun v h1=>F (.slice v.a v.l v.c) h1
 |copy jY d x=>
  simp only[cM];rw[←la];congr 1;funext a;rw[←la];congr 1;funext x
  exact ai8 g _ _ _ _ _ fun n h1=>F (.int .i64 n) h1
 |mm m x y=>simp only[cM];rw[←dy];congr 1;funext a;rw[←dy]
 |KJ k bs i=>
  simp only[cM];rw[←dy];congr 1;funext n
  split
  ·split<;>rfl
  ·rfl
end
theorem lh{R:Type}{r:R}{C:Callee}{fl:Nat}{s:List Value}{h:AH}{o:H8}{K:Value→AH→Option R}(e:cM C fl s h o K=some r):
 ∃v h1,cM C fl s h o K0=some (v,h1)∧K v h1=some r:=by
 have:=TT (fun p:Value×AH=>K p.1 p.2) C fl s h o K0
 have h2:(cM C fl s h o fun v h=>(K0 v h).bind fun p:Value×AH=>K p.1 p.2)=cM C fl s h o K:=rfl
 rw[h2,e] at this
 cases hq:cM C fl s h o K0 with
 |none=>rw[hq] at this;cases this
 |some p=>rw[hq] at this;exact⟨p.1,p.2,rfl,this.symm⟩
theorem CI{R:Type}{r:R}{C:Callee}{fl:Nat}{s:List Value}{h h1:AH}{v:Value}{o:H8}{K:Value→AH→Option R}(e:cM C fl s h o K0=some (v,h1))(e2:K v h1=some r):
 cM C fl s h o K=some r:=by
 have:=TT (fun p:Value×AH=>K p.1 p.2) C fl s h o K0
 have h2:(cM C fl s h o fun v h=>(K0 v h).bind fun p:Value×AH=>K p.1 p.2)=cM C fl s h o K:=rfl
 rw[h2,e] at this
 rw[this];exact e2
def bK(fl:Nat)(h h1:AH):Prop:=
 h.next≤h1.next∧(∀b,b<h.next→b<fl→h1.gR b=h.gR b)∧(∀b cs,b<h.next∨h1.next≤b→h1.gR b=some cs→∃eC,h.gR b=some eC)
theorem bK.refl(fl h):bK fl h h:=⟨Nat.le_refl _,fun _ _ _=>rfl,fun _ cs _ e=>⟨cs,e⟩⟩
theorem bK.trans{fl PT h h1 h2}(p:bK fl h h1)(q:bK PT h1 h2)(hf:fl≤PT):bK fl h h2:=
 ⟨Nat.le_trans p.1 q.1,fun b hb hbf=>by rw[q.2.1 b (Nat.lt_of_lt_of_le hb p.1) (Nat.lt_of_lt_of_le hbf hf),p.2.1 b hb hbf],
  fun b cs hb e=>by
   have h1:=p.1
   have h2:=q.1
   obtain⟨eC,e'⟩:=q.2.2 b cs (by omega) e
   exact p.2.2 b eC (by omega) e'⟩
theorem bK.alloc(fl h cs):bK fl h (h.alloc cs):=
 ⟨Nat.le_succ _,fun b hb _=>by simp[AH.alloc,Nat.ne_of_lt hb],fun b eC hb e=>⟨eC,by
  have fA:b≠h.next:=by
   rcases hb with hb|hb
   ·omega
   ·have:h.next+1≤b:=hb
    omega
  simpa [AH.alloc,fA] using e⟩⟩
theorem bK.put{fl h b cs eC}(hb:fl≤b)(hk:h.gR b=some cs):bK fl h (h.put b (some eC)):=
 ⟨Nat.le_refl _,fun c _ hc=>by
  have:c≠b:=by omega
  simp[AH.put,this],
  fun c cs2 _ e=>by
   by_cases hcb:c=b
   ·subst hcb;exact⟨cs,hk⟩
   ·exact⟨cs2,by simpa [AH.put,hcb] using e⟩⟩
theorem bK.kill{fl h b}(hb:fl≤b):bK fl h (h.put b none):=
 ⟨Nat.le_refl _,fun c _ hc=>by
  have:c≠b:=by omega
  simp[AH.put,this],
  fun c cs2 _ e=>by
   by_cases hcb:c=b
   ·subst hcb;simp[AH.put] at e
   ·exact⟨cs2,by simpa [AH.put,hcb] using e⟩⟩
theorem bK.floor{fl PT h h1}(p:bK PT h h1)(hf:fl≤PT):bK fl h h1:=⟨p.1,fun b hb hbf=>p.2.1 b hb (Nat.lt_of_lt_of_le hbf hf),p.2.2⟩
theorem P8{R:Type}{r:R}{fl h a xs}{K:AH→Option R}(e:st fl h a xs K=some r):∃h1,bK fl h h1∧K h1=some r:=by
 unfold st at e
 split at e
 ·rename_i cs hcs
  split at e
  ·rename_i bN
   split at e
   ·split at e
    ·split at e
     ·exact⟨_,bK.put bN hcs,e⟩
     ·cases e
    ·cases e
   ·cases e
  ·cases e
 ·cases e
theorem O8{R:Type}{r:R}{h:AH}{a n}{K:List Value→Option R}(e:Cu h a n K=some r):∃xs,K xs=some r:=by
 unfold Cu at e
 (repeat' split at e)<;>first|exact⟨_,e⟩|cases e
theorem ab6{R:Type}{r:R}{fl jY bytes s x h}{K:Sl→AH→Option R}(e:fW fl jY bytes s x h K=some r):∃v h1,bK fl h h1∧K v h1=some r:=by
 unfold fW at e
 split at e
 ·exact⟨_,_,bK.refl _ _,e⟩
 ·split at e
  ·obtain⟨xs,e⟩:=O8 e
   split at e
   ·split at e
    ·exact⟨_,_,bK.alloc _ _ _,e⟩
    ·cases e
   ·split at e
    ·split at e
     ·obtain⟨h1,g1,g2⟩:=P8 e;exact⟨_,h1,g1,g2⟩
     ·obtain⟨ys,e⟩:=O8 e;exact⟨_,_,bK.alloc _ _ _,e⟩
    ·split at e
     ·rename_i hk
      obtain⟨ys,e⟩:=O8 e;exact⟨_,_,(bK.kill hk.1).trans (bK.alloc _ _ _) (Nat.le_refl _),e⟩
     ·cases e
  ·cases e
structure CAbs(C:Callee):Prop where
 step:∀fl f args h v h1,C fl f args h=some (v,h1)→bK fl h h1
theorem FZ{R:Type}{r:R}{s:List Value}{o}{K:Option Int→Option R}(e:fX s o K=some r):∃x,K x=some r:=by
 unfold fX at e
 (repeat' split at e)<;>first|exact⟨_,e⟩|cases e
theorem P9{C:Callee}(hC:CAbs C){fl s h o v h1}(e:cM C fl s h o K0=some (v,h1)):bK fl h h1:=by
 have xe:∀{v':Value},K0 v' h=some (v,h1)→bK fl h h1:=fun e=>by
  simp only[K0,Option.some.injEq,Prod.mk.injEq] at e
  rw[←e.2];exact bK.refl _ _
 have same:∀{v':Value} {h':AH},bK fl h h'→K0 v' h'=some (v,h1)→bK fl h h1:=fun a e=>by
  simp only[K0,Option.some.injEq,Prod.mk.injEq] at e
  rw[←e.2];exact a
 cases o<;>simp only[cM] at e
 case mv=>exact xe e
 case pick=>obtain⟨t,_,e⟩:=bY e;split at e<;>exact xe e
 case box=>split at e<;>first|exact same (bK.alloc _ _ _) e|cases e
 case alloc=>exact same (bK.alloc _ _ _) e
 case build=>split at e<;>first|exact xe e|cases e
 case aQ=>split at e<;>first|exact same (bK.alloc _ _ _) e|cases e
 case load sh a=>
  obtain⟨a,_,e⟩:=dG e
  cases sh with
  |one s0=>obtain⟨u,_,e⟩:=yE (K:=fun v=>K0 v h) e;exact xe e
  |agg l=>obtain⟨u,_,_,e⟩:=vH (K:=fun vs=>K0 (.agg ⟨vs⟩) h) e;exact xe e
 case store=>
  obtain⟨a,_,e⟩:=dG e
  split at e
  ·obtain⟨h2,g1,g2⟩:=P8 e;exact same g1 g2
  ·cases e
 case cg=>obtain⟨a,_,e⟩:=dG e;exact xe e
 case bin=>obtain⟨a,_,e⟩:=aF e;obtain⟨b,_,e⟩:=aF e;split at e<;>first|exact xe e|cases e
 case sh=>obtain⟨a,_,e⟩:=aF e;obtain⟨b,_,e⟩:=aF e;split at e<;>first|exact xe e|cases e
 case cmp=>obtain⟨a,_,e⟩:=aF e;obtain⟨b,_,e⟩:=aF e;split at e<;>first|exact xe e|cases e
 case beq=>obtain⟨a,_,e⟩:=bY e;obtain⟨b,_,e⟩:=bY e;exact xe e
 case Fq=>obtain⟨a,_,e⟩:=cA e;exact xe e
 case not=>obtain⟨a,_,e⟩:=bY e;exact xe e
 case neg=>obtain⟨a,_,e⟩:=aF e;exact xe e
 case conv=>obtain⟨a,_,e⟩:=aF e;exact xe e
 case xd=>exact xe e
 case cD=>
  obtain⟨a,_,e⟩:=aF e;obtain⟨b,_,e⟩:=aF e
  unfold xg at e
  split at e<;>first|exact same (bK.alloc _ _ _) e|cases e
 case slice=>
  obtain⟨a,_,e⟩:=cA e;obtain⟨_,e⟩:=FZ e;obtain⟨_,e⟩:=FZ e;obtain⟨_,e⟩:=FZ e
  unfold sub at e
  (repeat' split at e)<;>first|exact xe e|cases e
 case cu=>obtain⟨a,_,e⟩:=dG e;exact xe e
 case dx=>
  obtain⟨a,_,e⟩:=cA e;obtain⟨b,_,e⟩:=aF e
  unfold idx at e
  (repeat' split at e)<;>first|exact xe e|cases e
 case KI=>obtain⟨a,_,e⟩:=An e;split at e<;>first|exact xe e|cases e
 case call f args sh=>
  unfold PZ at e
  split at e
  ·split at e
   ·rename_i v' h' hc
    exact same (hC.step _ _ _ _ _ _ hc) (Mj (K:=fun v'=>K0 v' h') e)
   ·cases e
  ·cases e
 case len=>obtain⟨a,_,e⟩:=cA e;exact xe e
 case append=>
  obtain⟨a,_,e⟩:=cA e;obtain⟨b,_,e⟩:=cA e
  obtain⟨u,h2,g1,g2⟩:=ab6 e;exact same g1 g2
 case copy=>
  obtain⟨a,_,e⟩:=cA e;obtain⟨b,_,e⟩:=cA e
  unfold cpy at e
  split at e
  ·exact xe e
  ·obtain⟨xs,e⟩:=O8 e
   split at e
   ·obtain⟨h2,g1,g2⟩:=P8 e;exact same g1 g2
   ·cases e
 case mm=>obtain⟨a,_,e⟩:=aF e;obtain⟨b,_,e⟩:=aF e;exact xe e
 case KJ=>obtain⟨a,_,e⟩:=aF e;(repeat' split at e)<;>first|exact xe e|cases e
theorem cB.X7{μ sz g}{d1 d2:List Value}{v}(h:cB μ sz (.func (.func g) ⟨d1⟩ ⟨d2⟩) v):∃f2 g2:List Value,v=.func (.func g) ⟨f2⟩ ⟨g2⟩∧bq μ sz d1 f2∧bq μ sz d2 g2:=by
 generalize hq:Value.func (.func g) ⟨d1⟩ ⟨d2⟩=q at h
 cases h with
 |func l1 l2 l3 l4=>
  injection hq with h1 h2 h3
  injection h1 with h1;injection h2 with h2;injection h3 with h3
  subst h1 h2 h3
  exact⟨_,_,rfl,⟨l1,l2⟩,⟨l3,l4⟩⟩
 |_=>cases hq
structure fx(P:Program)(C:Callee):Prop extends CAbs C where
 fn : ∀ fl f args h v h1, C fl f args h = some (v, h1) → ∃ fd, P.funcs[f]? = some fd ∧ (fd.name == "runtime.NumGoroutine") = false ∧ fd.body.isNone = false
 sound:∀fl f args h v h1,C fl f args h=some (v,h1)→∀base an μ w args',yB base an μ h w→base≤fl→fl≤h.next→an≤w.heap.size→bq μ (cX w) args args'→gS μ h.next h1.next→
  Calls P f args'.toArray w fun e w'=>∃v' μ',e=.returned v'∧bZ fl base an μ h w μ' h1 w'∧cB μ' (cX w') v v'
def ai9(P:Program)(op:Op):H8→Bool
 |.call f args _=>match op with
  |.call {callee:=.value f',args:=args', ..}=>cV f' f&&CB args'.toList args
  |_=>false
 |x=>dH P op x
section
variable{P:Program}{C:Callee}{fl base an:Nat}{μ:Mu}{h h1:AH}{w:World}{s:List Value}{a:Act}{v:Value}{o:Oper}
theorem aoa{ao:H8}(hnc:∀f args sh,ao≠.call f args sh)(c:Ctx fl base an μ h w s a)(hf:h.next<h1.next→μ h.next=none)(ok:dH P o.op ao=true)(e:cM C fl s h ao K0=some (v,h1)):
 aV fl base an μ h w v h1 ((execOp a.eval o).run P w):=by
 cases ao with
 |mv=>exact azx c ok e
 |pick=>exact atX c ok e
 |box=>exact awT c hf ok e
 |alloc=>exact an4 c hf ok e
 |build=>exact an5 c ok e
 |aQ=>exact ai3 c hf ok e
 |load=>exact at1 c ok e
 |store=>exact an6 c ok e
 |cg=>exact atY c ok e
 |bin=>exact awU c ok e
 |sh=>exact azy c ok e
 |cmp=>exact awV c ok e
 |beq=>exact awY c ok e
 |Fq=>exact at2 c ok e
 |not=>exact awW c ok e
 |neg=>exact awX c ok e
 |conv=>exact at3 c ok e
 |xd=>exact at4 c ok e
 |cD=>exact agw c hf ok e
 |slice=>exact an9 c ok e
 |cu=>exact an7 c ok e
 |dx=>exact an8 c ok e
 |KI=>exact atZ c ok e
 |call f args sh=>exact absurd rfl (hnc f args sh)
 |len=>exact aw0 c ok e
 |append=>exact ai5 c hf ok e
 |copy=>exact at8 c ok e
 |mm=>exact azz c ok e
 |KJ=>exact at5 c ok e
theorem as3(hC:fx P C){ao:H8}(c:Ctx fl base an μ h w s a)(hf:gS μ h.next h1.next)(ok:ai9 P o.op ao=true)(e:cM C fl s h ao K0=some (v,h1))
 {next:Act→World→Prop} {Q:Exit→Act→World→Prop} (hn:∀v' μ' w',bZ fl base an μ h w μ' h1 w'→cB μ' (cX w') v v'→next (a.put o.dst v') w'):o.wp P a w next Q:=by
 by_cases aty:∃f args sh,ao=.call f args sh
 ·obtain⟨f,args,sh,rfl⟩:=aty
  simp only[ai9] at ok
  simp only[cM,PZ] at e
  unfold Oper.wp execOp
  split at ok
  ·rename_i f' args' tys ho
   rw[ho]
   simp only[Bool.and_eq_true] at ok
   obtain⟨k1,k2⟩:=ok
   have r1:=bE c.t k1
   have r2:=Ic c.t k2
   split at e
   ·rename_i g c1 c2 hg
    rw[hg] at r1
    split at e
    ·rename_i v0 h0 hc
     have e2:=Mj (K:=fun v'=>K0 v' h0) e
     simp only[K0,Option.some.injEq,Prod.mk.injEq] at e2
     obtain⟨rfl,rfl⟩:=e2
     obtain⟨d1⟩:=c1;obtain⟨d2⟩:=c2
     obtain⟨f2,g2,hq,l12,l34⟩:=r1.X7
     have atK:bq μ (cX w) (d1++args.map (ev s)++d2) (f2++args'.toList.map a.eval++g2):=(bq.append l12 r2).append l34
     obtain⟨fd,q1,q2,q3⟩:=hC.fn _ _ _ _ _ _ hc
     have hcs:=hC.sound _ _ _ _ _ _ hc base an μ w _ c.eW c.hb c.bN c.hr atK hf
     have e1:(Array.map a.eval args')=⟨args'.toList.map a.eval⟩:=by apply Array.ext';simp
     have hr:(callFunc g ((⟨f2⟩++Array.map a.eval args':Array Value)++⟨g2⟩)).run P w=.ok (.enter g (f2++args'.toList.map a.eval++g2).toArray) w:=by
      unfold callFunc
      simp only[Sem.run_bind,Go.program,Sem.run,Result.andThen_ok,q1,q2,q3,Bool.false_eq_true,if_false,Sem.run_pure]
      congr 2
      rw[e1];simp
     simp only[resolve,hq,Deferred.ofValue,Sem.run_bind,Sem.run_pure,Result.andThen_ok,invoke,hr]
     rw[Oper.upon_enter]
     refine hcs.mono fun e w' ⟨v',μ',he,hp,hv⟩=>?_
     subst he
     exact hn v' μ' w' hp hv
    ·cases e
   ·cases e
  ·cases ok
 ·have hnc:∀f args sh,ao≠.call f args sh:=fun f args sh hh=>aty ⟨f,args,sh,hh⟩
  have ok':dH P o.op ao=true:=by
   cases ao<;>first|exact ok|exact absurd rfl (hnc _ _ _)
  obtain⟨v',μ',w',hr,hp,hv⟩:=aoa hnc c (fun hlt=>hf _ (Nat.le_refl _) hlt) ok' e
  unfold Oper.wp
  rcases hr with hr|⟨hr,hu⟩
  ·rw[hr,Oper.upon_value];exact hn v' μ' w' hp hv
  ·rw[hr,Oper.upon_skip];subst hu;exact hn undef μ' w' hp hv
end
end Go.Abs
end
section
namespace Go.Abs
def Ap(C:Callee)(fl:Nat)(o:bD)(s:List Value)(h:AH):Option (Value×AH):=match o.guard with
 |none=>cM C (if o.KN=true then fl else h.next) s h o.op K0
 |some (g,want)=>X1 (s.getD g undef) (fun b=>
  if b=want then cM C (if o.KN=true then fl else h.next) s h o.op K0 else some (yD,h)) (some (yD,h))
theorem KX{R:Type}{r:R}{C fl o os s h}{K:List Value→AH→Option R}(e:pL C fl (o::os) s h K=some r):
 ∃v h1,Ap C fl o s h=some (v,h1)∧pL C fl os (mT s o.dst v) h1 K=some r:=by
 simp only[pL] at e
 unfold Ap
 split at e
 ·rename_i hg
  obtain⟨v,h1,g1,g2⟩:=lh e
  exact⟨v,h1,by(try simp only[hg]);exact g1,g2⟩
 ·rename_i g want hg
  rcases vG e with⟨b,hb,e⟩|⟨x,y,hb,e⟩
  ·simp only[hg,hb,X1]
   split at e
   ·rename_i hw
    obtain⟨v,h1,g1,g2⟩:=lh e
    exact⟨v,h1,by rw[if_pos hw];exact g1,g2⟩
   ·rename_i hw
    exact⟨yD,h,by rw[if_neg hw],e⟩
  ·simp only[hg,hb,X1]
   exact⟨yD,h,rfl,e⟩
def ab7:fY→Bool
 |.op _=>true
 |.fc g _ os=>os.all fun o=>decide (o.dst≠some g)
theorem X8{s:List Value}{g:Nat}{b:Bool}(h:s.getD g undef=.bool b):s.set g (.bool b)=s:=by
 have hg:s[g]?=some (.bool b):=by
  rw[List.getD_eq_getElem?_getD] at h
  cases hq:s[g]? with
  |none=>rw[hq] at h;cases h
  |some u=>rw[hq] at h;simp at h;rw[h]
 apply List.ext_getElem?
 intro i
 rw[List.getElem?_set]
 by_cases e:g=i
 ·subst e
  obtain⟨hl,_⟩:=List.getElem?_eq_some_iff.1 hg
  rw[if_pos rfl,if_pos hl,hg]
 ·rw[if_neg e]
theorem KY{s:List Value}{g:Nat}{d:Option Nat}{v:Value}(h:d≠some g):(mT s d v).getD g undef=s.getD g undef:=by
 cases d with
 |none=>rfl
 |some d=>
  have:d≠g:=fun e=>h (by rw[e])
  simp only[mT,List.getD_eq_getElem?_getD]
  rw[List.getElem?_set_ne this]
theorem X9{R:Type}{r:R}{C fl}{g:Nat}{want:Bool}{rest:List bD}{K:List Value→AH→Option R}:∀(os:List bD) {s h},(os.all fun o=>decide (o.dst≠some g))=true→s.getD g undef=.bool want→
 FX C fl os s h (fun s h=>pL C fl rest s h K)=some r→pL C fl (Mh g want os++rest) s h K=some r
 |[],s,h,_,_,e=>e
 |o::os,s,h,ok,hg,e=>by
  simp only[List.all_cons,Bool.and_eq_true,decide_eq_true_eq] at ok
  simp only[FX] at e
  obtain⟨v,h1,g1,g2⟩:=lh e
  simp only[Mh,List.cons_append,pL,hg,X1,if_true]
  exact CI g1 (X9 os ok.2 (by rw[KY ok.1];exact hg) g2)
theorem Qa{R:Type}{r:R}{C fl}{g:Nat}{want b:Bool}(hb:b≠want){rest:List bD}{K:List Value→AH→Option R}:∀(os:List bD) {s h},(os.all fun o=>decide (o.dst≠some g))=true→s.getD g undef=.bool b→
 pL C fl rest (H9 os s) h K=some r→pL C fl (Mh g want os++rest) s h K=some r
 |[],s,h,_,_,e=>e
 |o::os,s,h,ok,hg,e=>by
  simp only[List.all_cons,Bool.and_eq_true,decide_eq_true_eq] at ok
  simp only[H9] at e
  simp only[Mh,List.cons_append,pL,hg,X1,if_neg hb]
  exact Qa hb os ok.2 (by rw[KY ok.1];exact hg) e
theorem Mn{R:Type}{r:R}{C fl}{g:Nat}{want:Bool}{x y}{rest:List bD}{K:List Value→AH→Option R}:∀(os:List bD) {s h},(os.all fun o=>decide (o.dst≠some g))=true→s.getD g undef=.complex .f32 x y→
 pL C fl rest (H9 os s) h K=some r→pL C fl (Mh g want os++rest) s h K=some r
 |[],s,h,_,_,e=>e
 |o::os,s,h,ok,hg,e=>by
  simp only[List.all_cons,Bool.and_eq_true,decide_eq_true_eq] at ok
  simp only[H9] at e
  simp only[Mh,List.cons_append,pL,hg,X1]
  exact Mn os ok.2 (by rw[KY ok.1];exact hg) e
theorem oq{R:Type}{r:R}{C fl}:∀{is:List fY} {s h} {K:List Value→AH→Option R},(is.all ab7)=true→yd C fl is s h K=some r→pL C fl (flat is) s h K=some r
 |[],s,h,K,_,e=>e
 |.op o::is,s,h,K,ok,e=>by
  simp only[List.all_cons,Bool.and_eq_true] at ok
  simp only[yd] at e
  obtain⟨v,h1,g1,g2⟩:=lh e
  simp only[flat,pL]
  exact CI g1 (oq ok.2 g2)
 |.fc g want os::is,s,h,K,ok,e=>by
  simp only[List.all_cons,Bool.and_eq_true,ab7] at ok
  simp only[yd] at e
  simp only[flat]
  rcases vG e with⟨b,hb,e⟩|⟨x,y,hb,e⟩
  case inr=>exact Mn os ok.1 hb (oq ok.2 e)
  split at e
  ·rename_i hw
   subst hw
   rw[X8 hb] at e
   refine X9 os ok.1 hb ?_
   have:∀(os:List bD) {s h},FX C fl os s h (fun s h=>yd C fl is s h K)=some r→FX C fl os s h (fun s h=>pL C fl (flat is) s h K)=some r:=by
    intro os
    induction os with
    |nil=>intro s h e;exact oq ok.2 e
    |cons o os ih=>
     intro s h e
     simp only[FX] at e ⊢
     obtain⟨v,h1,g1,g2⟩:=lh e
     exact CI g1 (ih g2)
   exact this os e
  ·rename_i hw
   have hnb:(!want)=b:=by cases b<;>cases want<;>simp at hw ⊢
   rw[hnb,X8 hb] at e
   exact Qa hw os ok.1 hb (oq ok.2 e)
def gT(o:bD)(fl:Nat)(h:AH):Nat:=if o.KN=true then fl else h.next
theorem qd{o fl}{h:AH}(hf:fl≤h.next):fl≤gT o fl h:=by unfold gT;split<;>omega
theorem Qb{o fl}{h:AH}(hf:fl≤h.next):gT o fl h≤h.next:=by unfold gT;split<;>omega
theorem DQ{C:Callee}(hC:CAbs C){fl o s h v h1}(e:Ap C fl o s h=some (v,h1)):bK (gT o fl h) h h1:=by
 unfold Ap at e
 split at e
 ·exact P9 hC e
 ·rcases vG e with⟨b,_,e⟩|⟨x,y,_,e⟩
  ·split at e
   ·exact P9 hC e
   ·simp only[Option.some.injEq,Prod.mk.injEq] at e
    rw[←e.2];exact bK.refl _ _
  ·simp only[Option.some.injEq,Prod.mk.injEq] at e
   rw[←e.2];exact bK.refl _ _
def okA(P:Program)(ops:Array Oper)(o:Oper)(ao:bD):Bool:=
 decide (o.dst=ao.dst)&&ai9 P o.op ao.op&&(match o.guard,ao.guard with
  |none,none=>true
  |some (j,want),some (t,axL)=>(want==axL)&&decide ((ops[j]?).bind (·.dst)=some t)
  |_,_=>false)
section
variable{P:Program}{C:Callee}{fl base an:Nat}{μ:Mu}{h h1:AH}{w:World}{s:List Value}{a:Act}{v:Value}{o:Oper}{ao:bD}{ops:Array Oper}
theorem Aq(hC:fx P C){i:Nat}(hi:ops[i]?=some o)(ok:okA P ops o ao=true)(c:Ctx (gT ao fl h) base an μ h w s a)(e:Ap C fl ao s h=some (v,h1))(hf:gS μ h.next h1.next)
 {K:Act→World→Prop} {Q:Exit→Act→World→Prop} (hn:∀v' μ' w',bZ (gT ao fl h) base an μ h w μ' h1 w'→cB μ' (cX w') v v'→K (a.put o.dst v') w'):wpOp P ops Q i K a w:=by
 unfold okA at ok
 simp only[Bool.and_eq_true,decide_eq_true_eq] at ok
 obtain⟨⟨k1,k2⟩,k3⟩:=ok
 unfold wpOp
 simp only[hi]
 unfold Ap at e
 split at e
 ·rename_i hg
  split at k3
  ·rename_i hog _
   have hw:Region.wanted o (yielded ops a.tmps)=true:=by simp[Region.wanted,hog]
   rw[if_pos hw]
   exact .inl (as3 hC c hf k2 e hn)
  ·rename_i h2;rw[hg] at h2;cases h2
  ·cases k3
 ·rename_i g want hg
  split at k3
  ·rename_i h2;rw[hg] at h2;cases h2
  ·rename_i j aD7 t aDc hog h2
   rw[hg] at h2
   injection h2 with h2;injection h2 with h3 h4
   subst h3;subst h4
   simp only[Bool.and_eq_true,beq_iff_eq,decide_eq_true_eq] at k3
   obtain⟨rfl,k4⟩:=k3
   rcases vG e with⟨b,hb,e⟩|⟨x,y,hb,e⟩
   case inr=>
    have hy:yielded ops a.tmps j=none:=by
     unfold yielded
     rw[k4]
     have hsg:s[g]?=some (.complex .f32 x y):=by
      rw[List.getD_eq_getElem?_getD] at hb
      cases hq:s[g]? with
      |none=>rw[hq] at hb;cases hb
      |some u=>rw[hq] at hb;simp at hb;rw[hb]
     obtain⟨u',q1,q2⟩:=c.t.get hsg
     have q3:u'=.tuple #[]:=by cases q2;rfl
     subst q3
     have:a.tmps[g]?=some (.tuple #[]):=by simpa using q1
     simp[this]
    have hw':¬Region.wanted o (yielded ops a.tmps)=true:=by simp[Region.wanted,hog,hy]
    rw[if_neg hw']
    simp only[Option.some.injEq,Prod.mk.injEq] at e
    obtain⟨rfl,rfl⟩:=e
    exact hn undef μ w (bZ.refl c.eW) .skip
   have hy:yielded ops a.tmps j=some b:=by
    unfold yielded
    rw[k4]
    have hsg:s[g]?=some (.bool b):=by
     rw[List.getD_eq_getElem?_getD] at hb
     cases hq:s[g]? with
     |none=>rw[hq] at hb;cases hb
     |some u=>rw[hq] at hb;simp at hb;rw[hb]
    obtain⟨u',q1,q2⟩:=c.t.get hsg
    have q3:=q2.tH
    subst q3
    have:a.tmps[g]?=some (.bool b):=by simpa using q1
    simp[this]
   split at e
   ·rename_i hw
    have hw':Region.wanted o (yielded ops a.tmps)=true:=by simp[Region.wanted,hog,hy,hw]
    rw[if_pos hw']
    exact .inl (as3 hC c hf k2 e hn)
   ·rename_i hw
    have hw':¬Region.wanted o (yielded ops a.tmps)=true:=by simp[Region.wanted,hog,hy,hw]
    rw[if_neg hw']
    simp only[Option.some.injEq,Prod.mk.injEq] at e
    obtain⟨rfl,rfl⟩:=e
    exact hn undef μ w (bZ.refl c.eW) .skip
  ·cases k3
theorem adM{μ sz s}{a:Act}(t:bq μ sz s a.tmps.toList){v v'}(hv:cB μ sz v v')(d:Option Nat):bq μ sz (mT s d v) (a.put d v').tmps.toList:=by
 cases d with
 |none=>exact t
 |some d=>
  simp only[mT,Act.put,Array.toList_setIfInBounds]
  refine bq.ab0 (by simp[t.1]) fun i u hu=>?_
  rw[List.getElem?_set] at hu ⊢
  have hl:=t.1
  by_cases e:d=i
  ·simp only[e,if_true] at hu ⊢
   split at hu
   ·rename_i hlt
    injection hu with hu;subst hu
    rw[if_pos (by omega)];exact⟨v',rfl,hv⟩
   ·cases hu
  ·simp only[e,if_false] at hu ⊢
   exact t.get hu
theorem put_defers(a:Act)(d:Option Nat)(v:Value):(a.put d v).defers=a.defers:=by cases d<;>rfl
theorem Qc{R:Type}{r:R}(hC:CAbs C):∀{os:List bD} {s h} {K:List Value→AH→Option R},pL C fl os s h K=some r→fl≤h.next→∃s' h',bK fl h h'∧K s' h'=some r
 |[],s,h,K,e,_=>⟨s,h,bK.refl _ _,e⟩
 |o::os,s,h,K,e,bN=>by
  obtain⟨v,h1,g1,g2⟩:=KX e
  have a1:=(DQ hC g1).floor (qd (o:=o) bN)
  obtain⟨s',h',a2,g3⟩:=Qc hC g2 (Nat.le_trans bN a1.1)
  exact⟨s',h',a1.trans a2 (Nat.le_refl _),g3⟩
def gU(P:Program)(ops:Array Oper):List Oper→List bD→Bool
 |[],[]=>true
 |o::os,x::xs=>okA P ops o x&&gU P ops os xs
 |_,_=>false
theorem TU{R:Type}{r:R}(hC:fx P C){hend:Nat}{Q:Exit→Act→World→Prop}{K:List Value→AH→Option R}(hK:∀s h,K s h=some r→h.next≤hend):
 ∀(rest:List Oper) (al:List bD) (i:Nat),ops.toList.drop i=rest→gU P ops rest al=true→
 ∀(s:List Value) (h:AH) (a:Act) (w:World) (μ:Mu),pL C fl al s h K=some r→Ctx fl base an μ h w s a→gS μ h.next hend→
 (∀s' h' a' w' μ',K s' h'=some r→bZ fl base an μ h w μ' h' w'→bq μ' (cX w') s' a'.tmps.toList→a'.defers=a.defers→Q .normal a' w')→
 wpOps P ops Q (List.range' i rest.length) a w
 |[],[],i,_,_,s,h,a,w,μ,e,c,hf,hQ=>by
  simp only[List.length_nil,List.range'_zero,wpOps]
  exact hQ s h a w μ e (bZ.refl c.eW) c.t rfl
 |o::os,x::xs,i,hd,ok,s,h,a,w,μ,e,c,hf,hQ=>by
  simp only[gU,Bool.and_eq_true] at ok
  obtain⟨v,h1,g1,g2⟩:=KX e
  have hi:ops[i]?=some o:=by
   have:(ops.toList.drop i)[0]?=some o:=by rw[hd];rfl
   rw[List.getElem?_drop] at this
   simpa using this
  have a1:=DQ hC.toCAbs g1
  have ayy:fl≤h1.next:=Nat.le_trans c.bN a1.1
  obtain⟨s2,h2,a2,g3⟩:=Qc hC.toCAbs g2 ayy
  have ax1:h1.next≤hend:=Nat.le_trans a2.1 (hK _ _ g3)
  have hf1:gS μ h.next h1.next:=hf.sub (Nat.le_refl _) ax1
  rw[List.length_cons,List.range'_succ,wpOps_cons]
  have c':Ctx (gT x fl h) base an μ h w s a:=⟨c.eW,Nat.le_trans c.hb (qd c.bN),Qb c.bN,c.hr,c.t⟩
  refine Aq hC hi ok.1 c' g1 hf1 fun v' μ' w' hp hv=>?_
  have hp':=hp.floor (qd (o:=x) c.bN)
  have avf:o.dst=x.dst:=by
   have:=ok.1
   unfold okA at this
   simp only[Bool.and_eq_true,decide_eq_true_eq] at this
   exact this.1.1
  refine TU hC hK os xs (i+1) (by rw[←List.tail_drop,hd];rfl) ok.2 (mT s x.dst v) h1 (a.put o.dst v') w' μ' g2 ⟨hp'.eW,c.hb,ayy,Nat.le_trans c.hr hp'.hs,?_⟩ (hp'.fresh hf) ?_
  ·rw[←avf]
   exact adM (hp'.agu c.eW hf1 c.t) hv _
  ·intro s' h' a' w2 μ2 hk hp2 ht hd2
   have hh':=hK _ _ hk
   exact hQ s' h' a' w2 μ2 hk (hp'.trans hp2 (Nat.le_refl _)) ht (by rw[hd2,put_defers])
 |[],_::_,_,_,ok,_,_,_,_,_,_,_,_,_=>by simp[gU] at ok
 |_::_,[],_,_,ok,_,_,_,_,_,_,_,_,_=>by simp[gU] at ok
end
end Go.Abs
end
section
namespace Go.Abs
def mo.reads:mo→List Nat
 |.t i=>[i]
 |_=>[]
def Ik:Option mo→List Nat
 |some x=>x.reads
 |none=>[]
def DS:List (Nat×Nat×mo)→List Nat
 |[]=>[]
 |p::ps=>p.2.2.reads++DS ps
def Qd:List mo→List Nat
 |[]=>[]
 |x::xs=>x.reads++Qd xs
def H8.reads:H8→List Nat
 |.mv x|.box x|.load _ x|.cg x|.Fq _ x|.not x|.neg _ x|.conv _ _ x|.cu _ x|.KI x _|.len x|.KJ _ _ x=>x.reads
 |.pick a b c=>a.reads++(b.reads++c.reads)
 |.alloc _=>[]
 |.build _ ps|.aQ _ _ ps=>DS ps
 |.store _ x y|.bin _ _ x y|.sh _ _ _ x y|.cmp _ _ x y|.beq _ x y|.cD _ _ x y|.dx _ x y|.append _ _ x y|.copy _ x y|.mm _ x y=>x.reads++y.reads
 |.xd _ a b=>Qd a++Qd b
 |.slice _ x a b c=>x.reads++(Ik a++(Ik b++Ik c))
 |.call f args _=>f.reads++Qd args
def bD.reads(o:bD):List Nat:=o.op.reads++(match o.guard with|some (g,_)=>[g]|none=>[])
def H8.pure:H8→Bool
 |.mv _|.pick .. |.build .. |.cg _|.bin .. |.sh .. |.cmp .. |.beq .. |.Fq .. |.not _|.neg .. |.conv .. |.xd .. |.slice .. |.cu .. |.dx .. |.KI .. |.len _|.mm .. |.KJ ..=>true
 |_=>false
def uy(l:List Nat)(s s':List Value):Prop:=∀t∈l,s.getD t undef=s'.getD t undef
theorem uy.left{l l' s s'}(h:uy (l++l') s s'):uy l s s':=fun t ht=>h t (List.mem_append_left _ ht)
theorem uy.right{l l' s s'}(h:uy (l++l') s s'):uy l' s s':=fun t ht=>h t (List.mem_append_right _ ht)
theorem bh{x:mo}{s s'}(h:uy x.reads s s'):ev s x=ev s' x:=by
 cases x with
 |t i=>exact h i (by simp[mo.reads])
 |c v=>rfl
 |f id=>rfl
theorem DT:∀{xs:List mo} {s s'},uy (Qd xs) s s'→xs.map (ev s)=xs.map (ev s')
 |[],_,_,_=>rfl
 |x::xs,s,s',h=>by
  rw[List.map_cons,List.map_cons,bh h.left,DT (uy.right (l:=x.reads) h)]
theorem CJ:∀{ps:List (Nat×Nat×mo)} {z:List Value} {s s'},uy (DS ps) s s'→pO s ps z=pO s' ps z
 |[],_,_,_,_=>rfl
 |(off,size,x)::ps,z,s,s',h=>by
  have h1:ev s x=ev s' x:=bh (uy.left (l':=DS ps) h)
  have h2:∀z,pO s ps z=pO s' ps z:=fun z=>CJ (uy.right (l:=x.reads) h)
  simp only[pO,h1,h2]
theorem Ar{R:Type}{o:Option mo}{s s'}(h:uy (Ik o) s s')(K:Option Int→Option R):fX s o K=fX s' o K:=by
 cases o with
 |none=>rfl
 |some x=>
  have:ev s x=ev s' x:=bh h
  simp only[fX,this]
theorem TV{R:Type}{C:Callee}{fl:Nat}{s s':List Value}{h:AH}{o:H8}(ha:uy o.reads s s')(K:Value→AH→Option R):cM C fl s h o K=cM C fl s' h o K:=by
 cases o<;>simp only[H8.reads] at ha<;>simp only[cM]
 case mv x=>rw[bh ha]
 case pick x y z=>rw[bh ha.left,bh ha.right.left,bh ha.right.right]
 case box x=>rw[bh ha]
 case build z ps=>rw[CJ ha]
 case aQ z ps=>rw[CJ ha]
 case load x=>rw[bh ha]
 case store x y=>rw[bh ha.left,bh ha.right]
 case cg x=>rw[bh ha]
 case bin x y=>rw[bh ha.left,bh ha.right]
 case sh x y=>rw[bh ha.left,bh ha.right]
 case cmp x y=>rw[bh ha.left,bh ha.right]
 case beq x y=>rw[bh ha.left,bh ha.right]
 case Fq x=>rw[bh ha]
 case not x=>rw[bh ha]
 case neg x=>rw[bh ha]
 case conv x=>rw[bh ha]
 case xd f a b=>rw[DT ha.left,DT ha.right]
 case cD x y=>rw[bh ha.left,bh ha.right]
 case slice x a b c=>
  rw[bh ha.left]
  congr 1;funext v
  rw[Ar ha.right.left]
  congr 1;funext v
  rw[Ar ha.right.right.left]
  congr 1;funext v
  rw[Ar ha.right.right.right]
 case cu x=>rw[bh ha]
 case dx x y=>rw[bh ha.left,bh ha.right]
 case KI x i=>rw[bh ha]
 case call f args sh=>rw[bh ha.left,DT ha.right]
 case len x=>rw[bh ha]
 case append x y=>rw[bh ha.left,bh ha.right]
 case copy x y=>rw[bh ha.left,bh ha.right]
 case mm x y=>rw[bh ha.left,bh ha.right]
 case KJ x=>rw[bh ha]
theorem TW{C:Callee}{fl:Nat}{s s':List Value}{h:AH}{o:bD}(ha:uy o.reads s s'):Ap C fl o s h=Ap C fl o s' h:=by
 unfold Ap
 unfold bD.reads at ha
 split
 ·rename_i hg;exact TV ha.left _
 ·rename_i g want hg
  rw[hg] at ha
  rw[ha.right g (by simp)]
  congr 1;funext b
  split
  ·exact TV ha.left _
  ·rfl
theorem adN{C:Callee}{fl:Nat}{s:List Value}{h h1:AH}{o:H8}{v:Value}(hp:o.pure=true)(e:cM C fl s h o K0=some (v,h1)):h1=h∧∀PT h',cM C PT s h' o K0=some (v,h'):=by
 have key:∀{v'},K0 v' h=some (v,h1)→h1=h∧v'=v:=fun e=>by
  simp only[K0,Option.some.injEq,Prod.mk.injEq] at e;exact⟨e.2.symm,e.1⟩
 cases o<;>simp only[H8.pure,Bool.false_eq_true] at hp<;>simp only[cM] at e
 case mv x=>obtain⟨h1,h2⟩:=key e;exact⟨h1,fun _ _=>by simp only[cM,h2,K0]⟩
 case pick x y z=>
  obtain⟨t,ht,e⟩:=bY e
  split at e
  ·rename_i q;obtain⟨h1,h2⟩:=key e;exact⟨h1,fun _ _=>by simp only[cM,ht,asBool,if_pos q,h2,K0]⟩
  ·rename_i q;obtain⟨h1,h2⟩:=key e;exact⟨h1,fun _ _=>by simp only[cM,ht,asBool,if_neg q,h2,K0]⟩
 case build z ps=>
  split at e
  ·rename_i cs q;obtain⟨h1,h2⟩:=key e;exact⟨h1,fun _ _=>by simp only[cM,q,h2,K0]⟩
  ·cases e
 case cg x=>obtain⟨t,ht,e⟩:=dG e;obtain⟨h1,h2⟩:=key e;exact⟨h1,fun _ _=>by simp only[cM,ht,cQ,K0];rw[h2]⟩
 case bin op k x y=>
  obtain⟨t,ht,e⟩:=aF e;obtain⟨u,hu,e⟩:=aF e
  split at e
  ·rename_i n q;obtain⟨h1,h2⟩:=key e;exact⟨h1,fun _ _=>by simp only[cM,ht,hu,asInt,if_true,q,h2,K0]⟩
  ·cases e
 case sh l k yk x y=>
  obtain⟨t,ht,e⟩:=aF e;obtain⟨u,hu,e⟩:=aF e
  split at e
  ·rename_i n q;obtain⟨h1,h2⟩:=key e;exact⟨h1,fun _ _=>by simp only[cM,ht,hu,asInt,if_true,q,h2,K0]⟩
  ·cases e
 case cmp op k x y=>
  obtain⟨t,ht,e⟩:=aF e;obtain⟨u,hu,e⟩:=aF e
  split at e
  ·rename_i n q;obtain⟨h1,h2⟩:=key e;exact⟨h1,fun _ _=>by simp only[cM,ht,hu,asInt,if_true,q,h2,K0]⟩
  ·cases e
 case beq neg x y=>obtain⟨t,ht,e⟩:=bY e;obtain⟨u,hu,e⟩:=bY e;obtain⟨h1,h2⟩:=key e;exact⟨h1,fun _ _=>by simp only[cM,ht,hu,asBool,h2,K0]⟩
 case Fq neg x=>obtain⟨t,ht,e⟩:=cA e;obtain⟨h1,h2⟩:=key e;exact⟨h1,fun _ _=>by simp only[cM,ht,bB,h2,K0]⟩
 case not x=>obtain⟨t,ht,e⟩:=bY e;obtain⟨h1,h2⟩:=key e;exact⟨h1,fun _ _=>by simp only[cM,ht,asBool,h2,K0]⟩
 case neg k x=>obtain⟨t,ht,e⟩:=aF e;obtain⟨h1,h2⟩:=key e;exact⟨h1,fun _ _=>by simp only[cM,ht,asInt,if_true,h2,K0]⟩
 case conv k k' x=>obtain⟨t,ht,e⟩:=aF e;obtain⟨h1,h2⟩:=key e;exact⟨h1,fun _ _=>by simp only[cM,ht,asInt,if_true,h2,K0]⟩
 case xd f x y=>obtain⟨h1,h2⟩:=key e;exact⟨h1,fun _ _=>by simp only[cM,h2,K0]⟩
 case slice jY x lo hi mx=>
  obtain⟨t,ht,e⟩:=cA e
  have step:∀(o:Option mo) (F:Option Int→Option (Value×AH)),fX s o F=some (v,h1)→∃n,F n=some (v,h1)∧∀(G:Option Int→Option (Value×AH)),fX s o G=G n:=by
   intro o F hF
   cases o with
   |none=>exact⟨none,hF,fun _=>rfl⟩
   |some x=>
    simp only[fX] at hF
    split at hF
    ·rename_i k n hn
     exact⟨some n,hF,fun G=>by simp only[fX,hn]⟩
    ·cases hF
  obtain⟨a,e,ha⟩:=step _ _ e
  obtain⟨b,e,hb⟩:=step _ _ e
  obtain⟨c,e,hc⟩:=step _ _ e
  have hs':∀fl (h:AH),cM C fl s h (.slice jY x lo hi mx) K0=sub jY t a b c fun v=>K0 (.slice v.a v.l v.c) h:=by
   intro fl h;simp only[cM,ht,bB,ha,hb,hc]
  unfold sub at e
  split at e
  ·rename_i q1
   split at e
   ·rename_i q2;obtain⟨h1,h2⟩:=key e;exact⟨h1,fun PT h'=>by rw[hs'];unfold sub;rw[if_pos q1,if_pos q2];simp only[K0,h2]⟩
   ·cases e
  ·rename_i q1
   split at e
   ·rename_i q2
    split at e
    ·rename_i q3;obtain⟨h1,h2⟩:=key e;exact⟨h1,fun PT h'=>by rw[hs'];unfold sub;rw[if_neg q1,if_pos q2,if_pos q3];simp only[K0,h2]⟩
    ·cases e
   ·cases e
 case cu off x=>obtain⟨t,ht,e⟩:=dG e;obtain⟨h1,h2⟩:=key e;exact⟨h1,fun _ _=>by simp only[cM,ht,cQ,h2,K0]⟩
 case dx jY x i=>
  obtain⟨t,ht,e⟩:=cA e;obtain⟨u,hu,e⟩:=aF e
  unfold idx at e
  split at e
  ·rename_i p hp
   split at e
   ·rename_i q1
    split at e
    ·rename_i q2;obtain⟨h1,h2⟩:=key e;exact⟨h1,fun _ _=>by simp only[cM,ht,hu,bB,asInt,if_true,idx,hp,if_pos q1,if_pos q2,h2,K0]⟩
    ·cases e
   ·cases e
  ·cases e
 case KI x i=>
  obtain⟨t,ht,e⟩:=An e
  split at e
  ·rename_i n q;obtain⟨h1,h2⟩:=key e;exact⟨h1,fun _ _=>by simp only[cM,ht,bj,q,h2,K0]⟩
  ·cases e
 case len x=>obtain⟨t,ht,e⟩:=cA e;obtain⟨h1,h2⟩:=key e;exact⟨h1,fun _ _=>by simp only[cM,ht,bB,h2,K0]⟩
 case KJ k bs x=>
  obtain⟨t,ht,e⟩:=aF e
  split at e
  ·rename_i q0
   split at e
   ·rename_i n q;obtain⟨h1,h2⟩:=key e;exact⟨h1,fun _ _=>by simp only[cM,ht,asInt,if_true,if_pos q0,q,h2,K0]⟩
   ·cases e
  ·cases e
 case mm m x y=>obtain⟨t,ht,e⟩:=aF e;obtain⟨u,hu,e⟩:=aF e;obtain⟨h1,h2⟩:=key e;exact⟨h1,fun _ _=>by simp only[cM,ht,hu,asInt,if_true,h2,K0]⟩
theorem Qe{C:Callee}{fl:Nat}{s:List Value}{h h1:AH}{o:bD}{v:Value}(hp:o.op.pure=true)(e:Ap C fl o s h=some (v,h1)):h1=h∧∀PT h',Ap C PT o s h'=some (v,h'):=by
 unfold Ap at e
 split at e
 ·rename_i hg
  obtain⟨h1,h2⟩:=adN hp e
  exact⟨h1,fun PT h'=>by unfold Ap;simp only[hg];exact h2 _ _⟩
 ·rename_i g want hg
  rcases vG e with⟨b,hb,e⟩|⟨x,y,hb,e⟩
  case inr=>
   simp only[Option.some.injEq,Prod.mk.injEq] at e
   exact⟨e.2.symm,fun PT h'=>by unfold Ap;simp only[hg,hb,X1,e.1]⟩
  split at e
  ·rename_i q
   obtain⟨h1,h2⟩:=adN hp e
   exact⟨h1,fun PT h'=>by unfold Ap;simp only[hg,hb,X1,if_pos q];exact h2 _ _⟩
  ·rename_i q
   simp only[Option.some.injEq,Prod.mk.injEq] at e
   exact⟨e.2.symm,fun PT h'=>by unfold Ap;simp only[hg,hb,X1,if_neg q,e.1]⟩
def UQ(o:Oper)(acc:List Nat):Nat:=o.after.toList.foldl (fun s e=>if Region.binds .any e=true then s|||2^e.on|||acc.getD e.on 0 else s) 0
def aob:List Oper→List Nat→List Nat
 |[],acc=>acc
 |o::os,acc=>aob os (acc++[UQ o acc])
def Il:Nat→List Oper→Bool
 |_,[]=>true
 |i,o::os=>o.after.toList.all (fun e=>!Region.binds .any e||decide (e.on<i))&&Il (i+1) os
def yH(x y:bD):Bool:=
 (match x.dst with|some d=>y.reads.contains d||decide (y.dst=some d)|none=>false)||
 (match y.dst with|some d=>x.reads.contains d|none=>false)||
 (!x.op.pure&&!y.op.pure&&(x.KN||y.KN))
def Im(x:bD)(i:Nat):List bD→List Nat→Bool
 |[],_=>true
 |_::_,[]=>false
 |y::ys,m::ms=>(!yH x y||m.testBit i)&&Im x i ys ms
def Ip:Nat→List bD→List Nat→Bool
 |_,[],_=>true
 |_,_::_,[]=>false
 |i,x::xs,_::ms=>Im x i xs ms&&Ip (i+1) xs ms
def ab8(ops:Array Oper)(al:List bD):Bool:=Il 0 ops.toList&&Ip 0 al (aob ops.toList [])
end Go.Abs
end
section
namespace Go.Abs
def DC(ops:Array Oper)(E:Nat→Prop):Prop:=∀k o,ops[k]?=some o→E k→∀e∈o.after.toList,Region.binds .any e=true→E e.on
theorem Ya{E:Nat→Prop}(acc:List Nat)(ha:∀j i,(acc.getD j 0).testBit i=true→E j→E i)(o:Oper)(ho:∀e∈o.after.toList,Region.binds .any e=true→E e.on):
 ∀i,(UQ o acc).testBit i=true→E i:=by
 unfold UQ
 have key:∀(l:List Edge) (s:Nat),(∀e∈l,Region.binds .any e=true→E e.on)→(∀i,s.testBit i=true→E i)→
  ∀i,(l.foldl (fun s e=>if Region.binds .any e=true then s|||2^e.on|||acc.getD e.on 0 else s) s).testBit i=true→E i:=by
  intro l
  induction l with
  |nil=>intro s _ hs i hi;exact hs i hi
  |cons e l ih=>
   intro s hl hs i hi
   rw[List.foldl_cons] at hi
   refine ih _ (fun e' KP=>hl e' (List.mem_cons_of_mem _ KP)) ?_ i hi
   intro i hi
   split at hi
   ·rename_i hb
    have he:=hl e List.mem_cons_self hb
    simp only[Nat.testBit_or,Bool.or_eq_true] at hi
    rcases hi with(hi|hi)|hi
    ·exact hs i hi
    ·rw[Nat.testBit_two_pow] at hi
     have:e.on=i:=by simpa using hi
     rw[←this];exact he
    ·exact ha _ _ hi he
   ·exact hs i hi
 exact key _ 0 ho (fun i hi=>by simp at hi)
theorem KZ{E:Nat→Prop}:∀(os:List Oper) (acc:List Nat),(∀j i,(acc.getD j 0).testBit i=true→E j→E i)→
 (∀j o,os[j]?=some o→E (acc.length+j)→∀e∈o.after.toList,Region.binds .any e=true→E e.on)→∀j i,((aob os acc).getD j 0).testBit i=true→E j→E i
 |[],acc,ha,_,j,i,hb,hj=>ha j i hb hj
 |o::os,acc,ha,ho,j,i,hb,hj=>by
  refine KZ os (acc++[UQ o acc]) ?_ ?_ j i hb hj
  ·intro j i hb hj
   rcases Nat.lt_trichotomy j acc.length with hl|hl|hl
   ·rw[List.getD_eq_getElem?_getD,List.getElem?_append_left hl,←List.getD_eq_getElem?_getD] at hb
    exact ha j i hb hj
   ·subst hl
    rw[List.getD_eq_getElem?_getD,List.getElem?_append_right (Nat.le_refl _),Nat.sub_self] at hb
    exact Ya acc ha o (ho 0 o rfl hj) i (by simpa using hb)
   ·rw[List.getD_eq_getElem?_getD,List.getElem?_eq_none (by simp;omega)] at hb
    simp at hb
  ·intro j o' ho' hj
   refine ho (j+1) o' (by simpa using ho') ?_
   simpa [Nat.add_assoc,Nat.add_comm 1 j] using hj
theorem Iq{x:bD}{i:Nat}:∀{ys:List bD} {ms:List Nat},Im x i ys ms=true→∀(j:Nat) y,ys[j]?=some y→yH x y=true→(ms.getD j 0).testBit i=true
 |[],_,_,j,y,hy,_=>by simp at hy
 |_::_,[],h,_,_,_,_=>by simp[Im] at h
 |y0::ys,m::ms,h,j,y,hy,hm=>by
  simp only[Im,Bool.and_eq_true,Bool.or_eq_true,Bool.not_eq_true'] at h
  cases j with
  |zero=>
   simp at hy;subst hy
   rcases h.1 with h1|h1
   ·rw[hm] at h1;cases h1
   ·exact h1
  |succ j=>exact Iq h.2 j y (by simpa using hy) hm
theorem Ir:∀{xs:List bD} {ms:List Nat} {i0:Nat},Ip i0 xs ms=true→∀(i j:Nat) x y,i<j→xs[i]?=some x→xs[j]?=some y→yH x y=true→(ms.getD j 0).testBit (i0+i)=true
 |[],_,_,_,i,j,x,y,_,hx,_,_=>by simp at hx
 |_::_,[],_,h,_,_,_,_,_,_,_,_=>by simp[Ip] at h
 |x0::xs,m::ms,i0,h,i,j,x,y,UJ,hx,hy,hm=>by
  simp only[Ip,Bool.and_eq_true] at h
  obtain⟨j,rfl⟩:∃k,j=k+1:=⟨j-1,by omega⟩
  cases i with
  |zero=>
   simp at hx;subst hx
   exact Iq h.1 j y (by simpa using hy) hm
  |succ i=>
   have:=Ir h.2 i j x y (by omega) (by simpa using hx) (by simpa using hy) hm
   rw[show i0+(i+1)=i0+1+i by omega]
   exact this
theorem As:∀{os:List Oper} {i0:Nat},Il i0 os=true→∀(i:Nat) o,os[i]?=some o→∀e∈o.after.toList,Region.binds .any e=true→e.on<i0+i
 |[],_,_,i,o,ho=>by simp at ho
 |o0::os,i0,h,i,o,ho=>by
  simp only[Il,Bool.and_eq_true,List.all_eq_true,Bool.or_eq_true,Bool.not_eq_true',decide_eq_true_eq] at h
  cases i with
  |zero=>
   simp at ho;subst ho
   intro e he hb
   rcases h.1 e he with h1|h1
   ·rw[hb] at h1;cases h1
   ·exact h1
  |succ i=>
   intro e he hb
   have:=As h.2 i o (by simpa using ho) e he hb
   omega
theorem UR{R:Type}{r:R}{C:Callee}{fl:Nat}:∀{al:List bD} {s:List Value} {h:AH} {K:List Value→AH→Option R},pL C fl al s h K=some r→
 ∃(S:Nat→List Value) (H:Nat→AH) (V:Nat→Value),S 0=s∧H 0=h∧(∀(i:Nat) x,al[i]?=some x→Ap C fl x (S i) (H i)=some (V i,H (i+1))∧S (i+1)=mT (S i) x.dst (V i))∧K (S al.length) (H al.length)=some r
 |[],s,h,K,e=>⟨fun _=>s,fun _=>h,fun _=>undef,rfl,rfl,fun i x hx=>by simp at hx,e⟩
 |o::os,s,h,K,e=>by
  obtain⟨v,h1,g1,g2⟩:=KX e
  obtain⟨S,H,V,s0,h0,hs,hk⟩:=UR g2
  refine⟨fun i=>match i with|0=>s|i+1=>S i,fun i=>match i with|0=>h|i+1=>H i,fun i=>match i with|0=>v|i+1=>V i,rfl,rfl,?_,hk⟩
  intro i x hx
  cases i with
  |zero=>
   simp at hx;subst hx
   exact⟨by simp only[h0];exact g1,s0⟩
  |succ i=>exact hs i x (by simpa using hx)
def WF(h:AH):Prop:=∀b cs,h.gR b=some cs→b<h.next
theorem WF.step{fl h h1}(hw:WF h)(p:bK fl h h1):WF h1:=by
 intro b cs hb
 rcases Nat.lt_or_ge b h1.next with h2|h2
 ·exact h2
 ·obtain⟨eC,h3⟩:=p.2.2 b cs (.inr h2) hb
  have:=hw b eC h3
  have:=p.1
  omega
section
variable{fl base an:Nat}{μ μ' μ0:Mu}{h hj Aj hp:AH}{w w' w0:World}
theorem yB.aoc(s:yB base an μ hp w)(st:bK hj.next hj hp)(wf:WF hj):yB base an μ hj w:=by
 have hb:∀b cs,hj.gR b=some cs→hp.gR b=some cs:=fun b cs hb=>by
  have:=wf b cs hb
  rw[st.2.1 b this this];exact hb
 exact {cell:=fun b cs rb o h1=>s.cell b cs rb o (hb _ _ h1),own:=fun b cs rb o h0 h1=>s.own b cs rb o h0 (hb _ _ h1),inj:=fun b b' cs eC rb o o' h0 h1 h2=>s.inj b b' cs eC rb o o' h0 (hb _ _ h1) (hb _ _ h2),lt:=s.lt,PS:=wf}
theorem bZ.US(s:yB base an μ hj w)(st:bK hj.next hj hp)(wf:WF hp)(hf:gS μ hj.next hp.next):bZ fl base an μ hj w μ hp w:=by
 have hlt:∀b cs x,hp.gR b=some cs→μ b=some x→b<hj.next∧hj.gR b=some cs:=fun b cs x hb hm=>by
  have h1:=wf b cs hb
  have h2:b<hj.next:=by
   rcases Nat.lt_or_ge b hj.next with h2|h2
   ·exact h2
   ·rw[hf b h2 h1] at hm;cases hm
  exact⟨h2,by rw[←st.2.1 b h2 h2];exact hb⟩
 refine {eW:={cell:=fun b cs rb o h1 hm=>s.cell b cs rb o (hlt b cs _ h1 hm).2 hm,own:=fun b cs rb o h0 h1 hm=>s.own b cs rb o h0 (hlt b cs _ h1 hm).2 hm,inj:=fun b b' cs eC rb o o' h0 h1 h2 m1 m2=>s.inj b b' cs eC rb o o' h0 (hlt _ _ _ h1 m1).2 (hlt _ _ _ h2 m2).2 m1 m2,lt:=s.lt,PS:=wf},mu:=fun _ _=>rfl,nx:=st.1,UB:=fun b hb _=>st.2.1 b hb hb,dead:=fun b cs hb hc=>st.2.2 b cs (.inl hb) hc,fr:=fun _ _ _=>rfl,sz:=fun _ _=>rfl,hs:=Nat.le_refl _,os:=rfl,tape:=rfl,output:=rfl,new:=?_}
 intro b cs rb o h1 _ hm hb
 exact absurd (hlt b cs _ hb hm).1 (by omega)
theorem bZ.merge(p:bZ fl base an μ0 h w0 μ hp w)(q:bZ hj.next base an μ hj w μ' Aj w')(sj:yB base an μ hj w)(fq:gS μ hj.next Aj.next)
 (st:bK Aj.next Aj hp) (stj:bK hj.next hj hp) (h0:h.next≤hj.next):bZ fl base an μ0 h w0 μ' hp w':=by
 have wf:WF hp:=p.eW.PS
 have hq:∀rb,rb<w.heap.size→w'.heap[rb]?=w.heap[rb]?:=fun rb EO=>q.fr rb EO fun b cs o h1 h2=>by omega
 have DL:∀b cs,b<Aj.next→hp.gR b=some cs→Aj.gR b=some cs:=fun b cs hb hc=>by rw[←st.2.1 b hb hb];exact hc
 have jr:∀b,Aj.next≤b→μ' b=μ b:=fun b hb=>q.mu b (by omega)
 have axO:∀b cs rb o,hj.next≤b→b<Aj.next→μ' b=some (rb,o)→hp.gR b=some cs→w.heap.size≤rb:=fun b cs rb o h1 h2 hm hc=>by
  rcases q.new b cs rb o h1 h2 hm (DL b cs h2 hc) with h3|⟨b0,_,_,h4,h5,_⟩
  ·exact h3
  ·omega
 have hvm:∀{v v'},cB μ (cX w) v v'→cB μ' (cX w') v v':=fun hv=>q.awR sj fq hv
 refine {eW:={cell:=?_,own:=?_,inj:=?_,lt:=q.eW.lt,PS:=wf},mu:=?_,nx:=p.nx,UB:=p.UB,dead:=p.dead,fr:=?_,sz:=?_,hs:=Nat.le_trans p.hs q.hs,os:=q.os.trans p.os,tape:=q.tape.trans p.tape,output:=q.output.trans p.output,new:=?_}
 ·intro b cs rb o hb hm j v hv
  rcases Nat.lt_or_ge b Aj.next with hl|hl
  ·exact q.eW.cell b cs rb o (DL b cs hl hb) hm j v hv
  ·rw[jr b hl] at hm
   obtain⟨v',h1,h2⟩:=p.eW.cell b cs rb o hb hm j v hv
   exact⟨v',by rw[DO (hq rb (p.eW.lt b rb o hm))];exact h1,hvm h2⟩
 ·intro b cs rb o XW hb hm
  rcases Nat.lt_or_ge b Aj.next with hl|hl
  ·exact q.eW.own b cs rb o XW (DL b cs hl hb) hm
  ·rw[jr b hl] at hm
   rw[hq rb (p.eW.lt b rb o hm)]
   exact p.eW.own b cs rb o XW hb hm
 ·have mixed:∀b b' cs eC rb o o',b<Aj.next→Aj.next≤b'→hp.gR b=some cs→hp.gR b'=some eC→μ' b=some (rb,o)→μ b'=some (rb,o')→b<hj.next∧μ b=some (rb,o):=by
   intro b b' cs eC rb o o' h1 h2 h3 h4 m1 m2
   rcases Nat.lt_or_ge b hj.next with hl|hl
   ·exact⟨hl,by rw[←q.mu b (by omega)];exact m1⟩
   ·have:=axO b cs rb o hl h1 m1 h3
    have:=p.eW.lt b' rb o' m2
    omega
  intro b b' cs eC rb o o' XW h1 h2 m1 m2
  rcases Nat.lt_or_ge b Aj.next with hl|hl
  ·rcases Nat.lt_or_ge b' Aj.next with NM|NM
   ·exact q.eW.inj b b' cs eC rb o o' XW (DL _ _ hl h1) (DL _ _ NM h2) m1 m2
   ·rw[jr b' NM] at m2
    obtain⟨_,m1'⟩:=mixed b b' cs eC rb o o' hl NM h1 h2 m1 m2
    exact p.eW.inj b b' cs eC rb o o' XW h1 h2 m1' m2
  ·rw[jr b hl] at m1
   rcases Nat.lt_or_ge b' Aj.next with NM|NM
   ·obtain⟨_,m2'⟩:=mixed b' b eC cs rb o' o NM hl h2 h1 m2 m1
    exact p.eW.inj b b' cs eC rb o o' XW h1 h2 m1 m2'
   ·rw[jr b' NM] at m2
    exact p.eW.inj b b' cs eC rb o o' XW h1 h2 m1 m2
 ·intro b hb
  have h1:=st.1
  have h2:=q.nx
  rw[q.mu b (by omega),p.mu b hb]
 ·intro rb EO hno
  rw[hq rb (Nat.lt_of_lt_of_le EO p.hs)]
  exact p.fr rb EO hno
 ·intro rb EO
  rw[q.sz rb (Nat.lt_of_lt_of_le EO p.hs),p.sz rb EO]
 ·intro b cs rb o h1 h2 hm hc
  by_cases hin:hj.next≤b∧b<Aj.next
  ·exact .inl (Nat.le_trans p.hs (axO b cs rb o hin.1 hin.2 hm hc))
  ·rw[q.mu b hin] at hm
   exact p.new b cs rb o h1 h2 hm hc
end
def Qf(x:bD):Prop:=x.op.pure=false∧x.KN=true
section
variable{P:Program}{C:Callee}{fl base an:Nat}{ops:Array Oper}{al:List bD}{S:Nat→List Value}{H:Nat→AH}{V:Nat→Value}
theorem Is(al:List bD):∀d j,j+d=al.length→∃p,j≤p∧p≤al.length∧(∀x,al[p]?=some x→Qf x)∧(∀(i:Nat) x,j≤i→i<p→al[i]?=some x→¬Qf x)
 |0,j,hj=>⟨j,Nat.le_refl _,by omega,fun x hx=>(by rw[List.getElem?_eq_none (by omega)] at hx;cases hx),fun i x h1 h2=>by omega⟩
 |d+1,j,hj=>by
  by_cases hx:∃x,al[j]?=some x∧Qf x
  ·obtain⟨x,h1,h2⟩:=hx
   exact⟨j,Nat.le_refl _,by omega,fun y hy=>(by rw[h1] at hy;injection hy with hy;subst hy;exact h2),fun i x h1 h2=>by omega⟩
  ·obtain⟨p,h1,h2,h3,h4⟩:=Is al d (j+1) (by omega)
   refine⟨p,by omega,h2,h3,fun i x hi1 hi2 hix Ct=>?_⟩
   by_cases UJ:i=j
   ·subst UJ;exact hx ⟨x,hix,Ct⟩
   ·exact h4 i x (by omega) hi2 hix Ct
end
end Go.Abs
end
section
namespace Go.Abs
def DU(x y:bD):Bool:=
 (match x.dst with|some d=>y.reads.contains d||decide (y.dst=some d)|none=>false)||
 (match y.dst with|some d=>x.reads.contains d|none=>false)
def adO(cm:Nat→Prop)(i j:Nat)(x y:bD):Prop:=DU x y=true∨(¬cm i∧¬cm j∧(x.KN=true∨y.KN=true))
structure DR(P:Program)(C:Callee)(fl base an:Nat)(ops:Array Oper)(al:List bD)(S:Nat→List Value)(H:Nat→AH)(V:Nat→Value)(cm:Nat→Prop):Prop where
 hC:fx P C
 len:al.length=ops.size
 ok:∀(i:Nat) o x,ops[i]?=some o→al[i]?=some x→okA P ops o x=true
 auV:∀(i:Nat) o,ops[i]?=some o→∀e∈o.after.toList,Region.binds .any e=true→e.on<i
 ord:∀E,DC ops E→∀(i j:Nat) x y,i<j→al[i]?=some x→al[j]?=some y→adO cm i j x y→E j→E i
 run:∀(i:Nat) x,al[i]?=some x→Ap C fl x (S i) (H i)=some (V i,H (i+1))∧S (i+1)=mT (S i) x.dst (V i)
 fl0:fl≤(H 0).next
 wf0:WF (H 0)
 hb:base≤fl
 calm:∀(j:Nat) x,al[j]?=some x→cm j→H (j+1)=H j∧∀p,p≤al.length→∀f,Ap C f x (S j) (H p)=some (V j,H p)
 am3:∀(j:Nat) x,al[j]?=some x→x.op.pure=true→cm j
 adu:∀(j:Nat) x,al[j]?=some x→Qf x→¬cm j
namespace DR
variable{P:Program}{C:Callee}{fl base an:Nat}{ops:Array Oper}{al:List bD}{S:Nat→List Value}{H:Nat→AH}{V:Nat→Value}{cm:Nat→Prop}
theorem steps(d:DR P C fl base an ops al S H V cm):∀i,i≤al.length→bK fl (H 0) (H i)
 |0,_=>bK.refl _ _
 |i+1,hi=>by
  have ih:=d.steps i (by omega)
  obtain⟨x,hx⟩:∃x,al[i]?=some x:=⟨al[i],List.getElem?_eq_getElem (by omega)⟩
  have bN:fl≤(H i).next:=Nat.le_trans d.fl0 ih.1
  exact ih.trans ((DQ d.hC.toCAbs (d.run i x hx).1).floor (qd bN)) (Nat.le_refl _)
theorem flH(d:DR P C fl base an ops al S H V cm){i}(hi:i≤al.length):fl≤(H i).next:=Nat.le_trans d.fl0 (d.steps i hi).1
theorem adP(d:DR P C fl base an ops al S H V cm){i x}(hx:al[i]?=some x):bK (gT x fl (H i)) (H i) (H (i+1)):=DQ d.hC.toCAbs (d.run i x hx).1
theorem lt(d:DR P C fl base an ops al S H V cm){i:Nat}{x}(hx:al[i]?=some x):i<al.length:=(List.getElem?_eq_some_iff.1 hx).1
theorem mono(d:DR P C fl base an ops al S H V cm):∀{j i},i≤j→j≤al.length→(H i).next≤(H j).next
 |0,i,h1,_=>by have:i=0:=by omega
               subst this;exact Nat.le_refl _
 |j+1,i,h1,h2=>by
  by_cases h:i=j+1
  ·subst h;exact Nat.le_refl _
  ·obtain⟨x,hx⟩:∃x,al[j]?=some x:=⟨al[j],List.getElem?_eq_getElem (by omega)⟩
   exact Nat.le_trans (d.mono (by omega) (by omega)) (d.adP hx).1
theorem wf(d:DR P C fl base an ops al S H V cm):∀{i},i≤al.length→WF (H i)
 |0,_=>d.wf0
 |i+1,hi=>by
  obtain⟨x,hx⟩:∃x,al[i]?=some x:=⟨al[i],List.getElem?_eq_getElem (by omega)⟩
  exact(d.wf (i:=i) (by omega)).step (d.adP hx)
theorem aw1(d:DR P C fl base an ops al S H V cm){i x}(hx:al[i]?=some x)(hp:x.op.pure=true):H (i+1)=H i:=(Qe hp (d.run i x hx).1).1
theorem quiet(d:DR P C fl base an ops al S H V cm):∀{j i},i≤j→j≤al.length→(∀(k:Nat) x,i≤k→k<j→al[k]?=some x→¬Qf x)→bK (H i).next (H i) (H j)
 |0,i,h1,_,_=>by have:i=0:=by omega
                 subst this;exact bK.refl _ _
 |j+1,i,h1,h2,hq=>by
  by_cases h:i=j+1
  ·subst h;exact bK.refl _ _
  ·obtain⟨x,hx⟩:∃x,al[j]?=some x:=⟨al[j],List.getElem?_eq_getElem (by omega)⟩
   have ih:=d.quiet (j:=j) (i:=i) (by omega) (by omega) (fun k y a b=>hq k y a (by omega))
   have hm:=d.mono (i:=i) (j:=j) (by omega) (by omega)
   by_cases hp:x.op.pure=true
   ·rw[d.aw1 hx hp];exact ih
   ·have Ct:x.KN=false:=by
     have:=hq j x (by omega) (by omega) hx
     unfold Qf at this
     cases hxi:x.KN with
     |true=>exact absurd ⟨by simpa using hp,hxi⟩ this
     |false=>rfl
    have:=d.adP hx
    unfold gT at this
    rw[Ct] at this
    exact ih.trans this hm
theorem Qg(d:DR P C fl base an ops al S H V cm){μ:Mu}:∀{j i},i≤j→j≤al.length→(∀k,i≤k→k<j→gS μ (H k).next (H (k+1)).next)→gS μ (H i).next (H j).next
 |0,i,h1,_,_=>by
  have:i=0:=by omega
  subst this
  intro b Cv mn;omega
 |j+1,i,h1,h2,hq=>by
  by_cases h:i=j+1
  ·subst h;intro b Cv mn;omega
  ·have ih:=d.Qg (j:=j) (i:=i) (by omega) (by omega) (fun k a b=>hq k a (by omega))
   intro b Cv mn
   rcases Nat.lt_or_ge b (H j).next with hl|hl
   ·exact ih b Cv hl
   ·exact hq j (by omega) (by omega) b hl mn
end DR
structure It{P:Program}{C:Callee}{fl base an:Nat}{ops:Array Oper}{al:List bD}{S:Nat→List Value}{H:Nat→AH}{V:Nat→Value}{cm:Nat→Prop}(_d:DR P C fl base an ops al S H V cm)
 (μ0:Mu) (w0:World) (a0:Act) (hend:Nat) (L:Array Bool) (a:Act) (w:World) (μ:Mu) (sE:List Value) (p:Nat):Prop where
 size:L.size=ops.size
 dc:DC ops fun i=>L.getD i false=true
 dfr:a.defers=a0.defers
 t:bq μ (cX w) sE a.tmps.toList
 cut:∀t,∃m,m≤al.length∧(∀(i:Nat) x,al[i]?=some x→x.dst=some t→L.getD i false=true→i<m)∧(∀(i:Nat) x,al[i]?=some x→x.dst=some t→¬L.getD i false=true→m≤i)∧sE[t]?=(S m)[t]?
 ple:p≤al.length
 pat:∀x,al[p]?=some x→Qf x∧¬L.getD p false=true
 plt:∀(i:Nat) x,i<p→al[i]?=some x→Qf x→L.getD i false=true
 post:bZ fl base an μ0 (H 0) w0 μ (H p) w
 fresh:∀i,i<al.length→¬L.getD i false=true→gS μ (H i).next (H (i+1)).next
 UE:gS μ (H al.length).next hend
 hr:an≤w.heap.size
section
variable{P:Program}{C:Callee}{fl base an:Nat}{ops:Array Oper}{al:List bD}{S:Nat→List Value}{H:Nat→AH}{V:Nat→Value}{cm:Nat→Prop}{d:DR P C fl base an ops al S H V cm}
variable{μ0:Mu}{w0:World}{a0:Act}{hend:Nat}{L:Array Bool}{a:Act}{w:World}{μ:Mu}{sE:List Value}{p:Nat}
theorem aua(L:Array Bool)(j i:Nat)(hj:j<L.size):((L.setIfInBounds j true).getD i false=true)↔(i=j∨L.getD i false=true):=by
 simp only[Array.getD_eq_getD_getElem?,Array.getElem?_setIfInBounds]
 by_cases e:j=i
 ·subst e;simp[hj]
 ·simp[e,Ne.symm e]
theorem Iu(d:DR P C fl base an ops al S H V cm)(t:Nat):∀{n m},m≤n→n≤al.length→(∀(i:Nat) x,m≤i→i<n→al[i]?=some x→x.dst≠some t)→(S m)[t]?=(S n)[t]?
 |0,m,h1,_,_=>by have:m=0:=by omega
                 subst this;rfl
 |n+1,m,h1,h2,hq=>by
  by_cases h:m=n+1
  ·subst h;rfl
  ·obtain⟨x,hx⟩:∃x,al[n]?=some x:=⟨al[n],List.getElem?_eq_getElem (by omega)⟩
   rw[Iu d t (n:=n) (m:=m) (by omega) (by omega) (fun i y a b=>hq i y a (by omega)),(d.run n x hx).2]
   have fA:=hq n x (by omega) (by omega) hx
   cases hd:x.dst with
   |none=>rfl
   |some q=>
    have:q≠t:=fun e=>fA (by rw[hd,e])
    simp only[mT]
    rw[List.getElem?_set_ne this]
theorem Au{cm:Nat→Prop}{i j:Nat}{x y:bD}{t}(hx:x.dst=some t)(hy:t∈y.reads∨y.dst=some t):adO cm i j x y:=by
 left
 unfold DU
 rw[hx]
 rcases hy with hy|hy
 ·simp[hy]
 ·simp[hy]
theorem UT{cm:Nat→Prop}{i j:Nat}{x y:bD}{t}(hy:y.dst=some t)(hx:t∈x.reads):adO cm i j x y:=by
 left
 unfold DU
 rw[hy]
 simp[hx]
theorem r7{cm:Nat→Prop}{i j:Nat}{x y:bD}(hx:¬cm i)(hy:¬cm j)(h:x.KN=true∨y.KN=true):adO cm i j x y:=.inr ⟨hx,hy,h⟩
theorem It.as4(v:It d μ0 w0 a0 hend L a w μ sE p){j:Nat}{x:bD}(hx:al[j]?=some x)(hj:¬L.getD j false=true)
 (hdc:DC ops fun i=>i=j∨L.getD i false=true):uy x.reads sE (S j):=by
 intro t ht
 obtain⟨m,hm1,hm2,hm3,hm4⟩:=v.cut t
 have XO:=d.lt hx
 have w1:∀(i:Nat) y,i<j→al[i]?=some y→y.dst=some t→L.getD i false=true:=fun i y hi hy hd=>by
  have:=d.ord _ hdc i j y x hi hy hx (Au hd (.inl ht)) (.inl rfl)
  rcases this with h|h
  ·omega
  ·exact h
 have w2:∀(i:Nat) y,j<i→al[i]?=some y→y.dst=some t→¬L.getD i false=true:=fun i y hi hy hd hL=>
  hj (d.ord _ v.dc j i x y hi hx hy (UT hd ht) hL)
 have hs:(S m)[t]?=(S j)[t]?:=by
  rcases Nat.le_total m j with h|h
  ·refine Iu d t h (by omega) fun i y h1 h2 hy hd=>?_
   have:=hm2 i y hy hd (w1 i y h2 hy hd);omega
  ·refine(Iu d t h hm1 fun i y h1 h2 hy hd=>?_).symm
   by_cases e:i=j
   ·subst e
    by_cases hL:L.getD i false=true
    ·exact hj hL
    ·have:=hm3 i y hy hd hL;omega
   ·have hnL:=w2 i y (by omega) hy hd
    have:=hm3 i y hy hd hnL;omega
 rw[List.getD_eq_getElem?_getD,List.getD_eq_getElem?_getD,hm4,hs]
theorem It.aja(v:It d μ0 w0 a0 hend L a w μ sE p):∀m,m≤al.length→(S m).length=(S 0).length
 |0,_=>rfl
 |m+1,hm=>by
  obtain⟨x,hx⟩:∃x,al[m]?=some x:=⟨al[m],List.getElem?_eq_getElem (by omega)⟩
  rw[(d.run m x hx).2,←It.aja v m (by omega)]
  cases x.dst<;>simp[mT]
theorem It.azB(v:It d μ0 w0 a0 hend L a w μ sE p){j:Nat}{x:bD}(hx:al[j]?=some x)(hj:¬L.getD j false=true)(hlen:sE.length=(S 0).length)
 (hdc:DC ops fun i=>i=j∨L.getD i false=true) (t:Nat):
 ∃m,m≤al.length∧(∀(i:Nat) y,al[i]?=some y→y.dst=some t→(i=j∨L.getD i false=true)→i<m)∧(∀(i:Nat) y,al[i]?=some y→y.dst=some t→¬(i=j∨L.getD i false=true)→m≤i)∧(mT sE x.dst (V j))[t]?=(S m)[t]?:=by
 have XO:=d.lt hx
 by_cases hd:x.dst=some t
 ·refine⟨j+1,by omega,fun i y hy hyd hi=>?_,fun i y hy hyd hi=>?_,?_⟩
  ·rcases hi with rfl|hi
   ·omega
   ·rcases Nat.lt_or_ge j i with hlt|hge
    ·exact absurd (d.ord _ v.dc j i x y hlt hx hy (Au hd (.inr hyd)) hi) hj
    ·omega
  ·rcases Nat.lt_or_ge i (j+1) with hlt|hge
   ·exfalso
    by_cases e:i=j
    ·exact hi (.inl e)
    ·exact hi (d.ord _ hdc i j y x (by omega) hy hx (Au hyd (.inr hd)) (.inl rfl))
   ·exact hge
  ·rw[(d.run j x hx).2,hd]
   simp only[mT,List.getElem?_set]
   rw[hlen,v.aja j (by omega)]
   simp
 ·obtain⟨m,hm1,hm2,hm3,hm4⟩:=v.cut t
  refine⟨m,hm1,fun i y hy hyd hi=>?_,fun i y hy hyd hi=>hm3 i y hy hyd fun h=>hi (.inr h),?_⟩
  ·rcases hi with rfl|hi
   ·rw[hx] at hy;injection hy with hy;subst hy;exact absurd hyd hd
   ·exact hm2 i y hy hyd hi
  ·cases hq:x.dst with
   |none=>exact hm4
   |some q=>
    have:q≠t:=fun e=>hd (by rw[hq,e])
    simp only[mT]
    rw[List.getElem?_set_ne this];exact hm4
end
end Go.Abs
end
section
namespace Go.Abs
section
variable{P:Program}{C:Callee}{fl base an:Nat}{ops:Array Oper}{al:List bD}{S:Nat→List Value}{H:Nat→AH}{V:Nat→Value}{cm:Nat→Prop}{d:DR P C fl base an ops al S H V cm}
variable{μ0:Mu}{w0:World}{a0:Act}{hend:Nat}{L:Array Bool}{a:Act}{w:World}{μ:Mu}{sE:List Value}{p:Nat}
theorem It.step(v:It d μ0 w0 a0 hend L a w μ sE p)(hlen:sE.length=(S 0).length){j:Nat}{o:Oper}(ho:ops[j]?=some o)(hj:¬L.getD j false=true)
 (axr:∀e∈o.after.toList,Region.binds .any e=true→L.getD e.on false=true) {Q:Exit→Act→World→Prop} {K:Act→World→Prop}
 (hK:∀a' w' μ' sE' p',It d μ0 w0 a0 hend (L.setIfInBounds j true) a' w' μ' sE' p'→sE'.length=(S 0).length→K a' w'):wpOp P ops Q j K a w:=by
 have hjo:j<ops.size:=(Array.getElem?_eq_some_iff.1 ho).1
 have XO:j<al.length:=by rw[d.len];exact hjo
 obtain⟨x,hx⟩:∃x,al[j]?=some x:=⟨al[j],List.getElem?_eq_getElem XO⟩
 have hok:=d.ok j o x ho hx
 have avf:o.dst=x.dst:=by
  unfold okA at hok
  simp only[Bool.and_eq_true,decide_eq_true_eq] at hok
  exact hok.1.1
 have hdc:DC ops fun i=>i=j∨L.getD i false=true:=by
  intro k o' ho' hk e he hb
  rcases hk with rfl|hk
  ·rw[ho] at ho';injection ho' with ho';subst ho'
   exact .inr (axr e he hb)
  ·exact .inr (v.dc k o' ho' hk e he hb)
 have nv:∀i,((L.setIfInBounds j true).getD i false=true)↔(i=j∨L.getD i false=true):=fun i=>aua L j i (by rw[v.size];exact hjo)
 have hag:=v.as4 hx hj hdc
 have lW:=d.run j x hx
 have atA:=d.adP hx
 have finish:∀(v':Value) (μ':Mu) (w':World) (p':Nat),cB μ' (cX w') (V j) v'→bq μ' (cX w') sE a.tmps.toList→p'≤al.length→
  (∀y,al[p']?=some y→Qf y∧¬(p'=j∨L.getD p' false=true))→(∀(i:Nat) y,i<p'→al[i]?=some y→Qf y→(i=j∨L.getD i false=true))→
  bZ fl base an μ0 (H 0) w0 μ' (H p') w'→(∀i,i<al.length→i≠j→¬L.getD i false=true→gS μ' (H i).next (H (i+1)).next)→gS μ' (H al.length).next hend→an≤w'.heap.size→
  K (a.put o.dst v') w':=by
  intro v' μ' w' p' hv ht aAi aBg aBa agn hfr hfe hr
  refine hK _ _ μ' (mT sE x.dst (V j)) p' {size:=by simp[v.size],dc:=?_,dfr:=?_,t:=?_,cut:=?_,ple:=aAi,pat:=?_,plt:=?_,post:=agn,fresh:=?_,UE:=hfe,hr:=hr} ?_
  ·intro k o' ho' hk e he hb
   rw[nv] at hk ⊢
   exact hdc k o' ho' hk e he hb
  ·rw[put_defers];exact v.dfr
  ·rw[avf];exact adM ht hv _
  ·intro t
   obtain⟨m,h1,h2,h3,h4⟩:=v.azB hx hj hlen hdc t
   exact⟨m,h1,fun i y hy hyd hi=>h2 i y hy hyd ((nv i).1 hi),fun i y hy hyd hi=>h3 i y hy hyd fun h=>hi ((nv i).2 h),h4⟩
  ·intro y hy
   obtain⟨h1,h2⟩:=aBg y hy
   exact⟨h1,fun h=>h2 ((nv p').1 h)⟩
  ·intro i y hi hy Ct
   exact(nv i).2 (aBa i y hi hy Ct)
  ·intro i hi hn
   have hn':¬(i=j∨L.getD i false=true):=fun h=>hn ((nv i).2 h)
   exact hfr i hi (fun h=>hn' (.inl h)) (fun h=>hn' (.inr h))
  ·cases x.dst<;>simp[mT,hlen]
 by_cases abG:cm j
 ·
   have hHp:=(d.calm j x hx abG).1
   have hV:Ap C fl x sE (H p)=some (V j,H p):=by
    rw[TW hag];exact(d.calm j x hx abG).2 p v.ple fl
   have avl:=d.flH v.ple
   have c:Ctx (gT x fl (H p)) base an μ (H p) w sE a:=⟨v.post.eW,Nat.le_trans d.hb (qd avl),Qb avl,v.hr,v.t⟩
   refine Aq d.hC ho hok c hV (fun b h1 h2=>by omega) fun v' μ' w' hp hv=>?_
   have jr:μ'=μ:=funext fun b=>hp.mu b (by omega)
   subst jr
   have hp':=hp.floor (qd (o:=x) avl)
   refine finish v' μ' w' p hv (hp.agu v.post.eW (fun b h1 h2=>by omega) v.t) v.ple ?_ ?_ (v.post.trans hp' (Nat.le_refl _)) ?_ v.UE (Nat.le_trans v.hr hp.hs)
   ·intro y hy
    obtain⟨h1,h2⟩:=v.pat y hy
    refine⟨h1,fun h=>?_⟩
    rcases h with h|h
    ·subst h;exact d.adu _ y hy h1 abG
    ·exact h2 h
   ·intro i y hi hy Ct;exact .inr (v.plt i y hi hy Ct)
   ·intro i hi _ hn;exact v.fresh i hi hn
 ·have hpf:¬cm j:=abG
  have aBN:x.op.pure=false:=by cases hxp:x.op.pure with|false=>rfl|true=>exact absurd (d.am3 j x hx hxp) abG
  have hV:Ap C fl x sE (H j)=some (V j,H (j+1)):=by rw[TW hag];exact lW.1
  have hfj:gS μ (H j).next (H (j+1)).next:=v.fresh j XO hj
  by_cases Ct:x.KN=true
  ·
    have hpj:p=j:=by
     rcases Nat.lt_trichotomy p j with h|h|h
     ·obtain⟨y,hy⟩:∃y,al[p]?=some y:=⟨al[p],List.getElem?_eq_getElem (by omega)⟩
      obtain⟨h1,h2⟩:=v.pat y hy
      have:=d.ord _ hdc p j y x h hy hx (r7 (d.adu _ y hy h1) hpf (.inr Ct)) (.inl rfl)
      rcases this with h3|h3
      ·omega
      ·exact absurd h3 h2
     ·exact h
     ·exact absurd (v.plt j x h hx ⟨aBN,Ct⟩) hj
    subst hpj
    have Su:gT x fl (H p)=fl:=by unfold gT;rw[if_pos Ct]
    have c:Ctx (gT x fl (H p)) base an μ (H p) w sE a:=by rw[Su];exact⟨v.post.eW,d.hb,d.flH v.ple,v.hr,v.t⟩
    refine Aq d.hC ho hok c hV hfj fun v' μ' w' hp hv=>?_
    rw[Su] at hp
    obtain⟨p',q1,q2,q3,q4⟩:=Is al (al.length-(p+1)) (p+1) (by omega)
    have atu:∀(i:Nat) y,p<i→al[i]?=some y→¬cm i→¬L.getD i false=true:=fun i y hi hy hyp hL=>
     hj (d.ord _ v.dc p i x y hi hx hy (r7 hpf hyp (.inl Ct)) hL)
    have hfi:∀i,i<al.length→i≠p→¬L.getD i false=true→gS μ' (H i).next (H (i+1)).next:=by
     intro i hi fA hn b Cv mn
     have abp:¬((H p).next≤b∧b<(H (p+1)).next):=by
      rcases Nat.lt_or_ge i p with h|h
      ·have:=d.mono (i:=i+1) (j:=p) (by omega) (by omega);omega
      ·have:=d.mono (i:=p+1) (j:=i) (by omega) (by omega);omega
     rw[hp.mu b abp];exact v.fresh i hi hn b Cv mn
    have aBL:gS μ' (H (p+1)).next (H p').next:=by
     refine d.Qg q1 q2 fun k k1 k2=>?_
     obtain⟨y,hy⟩:∃y,al[k]?=some y:=⟨al[k],List.getElem?_eq_getElem (by omega)⟩
     by_cases hyp:cm k
     ·rw[(d.calm k y hy hyp).1];intro b Cv mn;omega
     ·exact hfi k (by omega) (by omega) (atu k y (by omega) hy hyp)
    have hg:bZ fl base an μ' (H (p+1)) w' μ' (H p') w':=bZ.US hp.eW (d.quiet q1 q2 fun k y k1 k2 hy=>q4 k y k1 k2 hy) (d.wf q2) aBL
    refine finish v' μ' w' p' hv (hp.agu v.post.eW hfj v.t) q2 ?_ ?_ (v.post.trans (hp.trans hg (Nat.le_refl _)) (Nat.le_refl _)) hfi ?_ (Nat.le_trans v.hr hp.hs)
    ·intro y hy
     refine⟨q3 y hy,fun h=>?_⟩
     rcases h with h|h
     ·omega
     ·exact atu p' y (by omega) hy (d.adu _ y hy (q3 y hy)) h
    ·intro i y hi hy hyi
     rcases Nat.lt_trichotomy i p with h|h|h
     ·exact .inr (v.plt i y h hy hyi)
     ·exact .inl h
     ·exact absurd hyi (q4 i y (by omega) hi hy)
    ·intro b Cv mn
     have:=d.mono (i:=p+1) (j:=al.length) (by omega) (by omega)
     rw[hp.mu b (by omega)];exact v.UE b Cv mn
  ·
    have atN:x.KN=false:=by simpa using Ct
    have hjp:j<p:=by
     rcases Nat.lt_trichotomy p j with h|h|h
     ·obtain⟨y,hy⟩:∃y,al[p]?=some y:=⟨al[p],List.getElem?_eq_getElem (by omega)⟩
      obtain⟨h1,h2⟩:=v.pat y hy
      have:=d.ord _ hdc p j y x h hy hx (r7 (d.adu _ y hy h1) hpf (.inl h1.2)) (.inl rfl)
      rcases this with h3|h3
      ·omega
      ·exact absurd h3 h2
     ·subst h
      obtain⟨h1,_⟩:=v.pat x hx
      have h3:=h1.2;rw[atN] at h3;cases h3
     ·exact h
    have am6:∀(k:Nat) y,j≤k→k<p→al[k]?=some y→¬Qf y:=by
     intro k y h1 h2 hy hyi
     have hL:=v.plt k y h2 hy hyi
     rcases Nat.lt_or_ge j k with h3|h3
     ·exact hj (d.ord _ v.dc j k x y h3 hx hy (r7 hpf (d.adu _ y hy hyi) (.inr hyi.2)) hL)
     ·have:k=j:=by omega
      subst this;exact hj hL
    have stj:bK (H j).next (H j) (H p):=d.quiet (by omega) v.ple am6
    have aBG:bK (H (j+1)).next (H (j+1)) (H p):=d.quiet (by omega) v.ple fun k y h1 h2 hy=>am6 k y (by omega) h2 hy
    have sj:yB base an μ (H j) w:=v.post.eW.aoc stj (d.wf (by omega))
    have Su:gT x fl (H j)=(H j).next:=by unfold gT;rw[atN];rfl
    have aBA:=d.flH (i:=j) (by omega)
    have c:Ctx (gT x fl (H j)) base an μ (H j) w sE a:=by rw[Su];exact⟨sj,Nat.le_trans d.hb aBA,Nat.le_refl _,v.hr,v.t⟩
    refine Aq d.hC ho hok c hV hfj fun v' μ' w' hp hv=>?_
    rw[Su] at hp
    have hm:=bZ.merge v.post hp sj hfj aBG stj (d.mono (Nat.zero_le _) (by omega))
    refine finish v' μ' w' p hv (hp.agu sj hfj v.t) v.ple ?_ ?_ hm ?_ ?_ (Nat.le_trans v.hr hp.hs)
    ·intro y hy
     obtain⟨h1,h2⟩:=v.pat y hy
     refine⟨h1,fun h=>?_⟩
     rcases h with h|h
     ·omega
     ·exact h2 h
    ·intro i y hi hy hyi;exact .inr (v.plt i y hi hy hyi)
    ·intro i hi fA hn b Cv mn
     have abp:¬((H j).next≤b∧b<(H (j+1)).next):=by
      rcases Nat.lt_or_ge i j with h|h
      ·have:=d.mono (i:=i+1) (j:=j) (by omega) (by omega);omega
      ·have:=d.mono (i:=j+1) (j:=i) (by omega) (by omega);omega
     rw[hp.mu b abp];exact v.fresh i hi hn b Cv mn
    ·intro b Cv mn
     have:=d.mono (i:=j+1) (j:=al.length) (by omega) (by omega)
     rw[hp.mu b (by omega)];exact v.UE b Cv mn
def left(L:Array Bool):Nat:=L.toList.countP (fun b=>!b)
theorem ajb{L:Array Bool}{j:Nat}(hj:j<L.size)(h:¬L.getD j false=true):left (L.setIfInBounds j true)+1=left L:=by
 unfold left
 rw[Array.toList_setIfInBounds]
 have hl:j<L.toList.length:=by simpa using hj
 have hf:L.toList[j]=false:=by
  have:L.getD j false=false:=by simpa using h
  rw[Array.getD_eq_getD_getElem?,Array.getElem?_eq_getElem hj] at this
  simpa using this
 have h1:=List.countP_set (p:=fun b=>!b) (l:=L.toList) (a:=true) hl
 rw[hf] at h1
 have axY:0<L.toList.countP (fun b=>!b):=by
  rw[List.countP_pos_iff]
  exact⟨L.toList[j],List.getElem_mem hl,by rw[hf];rfl⟩
 simp only[Bool.not_false,Bool.not_true,if_true,Bool.false_eq_true,if_false,Nat.add_zero] at h1
 omega
theorem agz{L:Array Bool}(h:left L=0){i:Nat}(hi:i<L.size):L.getD i false=true:=by
 unfold left at h
 rw[List.countP_eq_zero] at h
 have hl:i<L.toList.length:=by simpa using hi
 have:=h L.toList[i] (List.getElem_mem hl)
 simp at this
 rw[Array.getD_eq_getD_getElem?,Array.getElem?_eq_getElem hi]
 simpa using this
theorem mem_ready{L:Array Bool}{i:Nat}(h:i∈Region.ready .any ops L):∃o,ops[i]?=some o∧(i<L.size→¬L.getD i false=true)∧∀e∈o.after.toList,Region.binds .any e=true→L.getD e.on false=true:=by
 unfold Region.ready at h
 rw[List.mem_filter] at h
 obtain⟨h1,h2⟩:=h
 simp only[List.mem_range] at h1
 simp only[Bool.and_eq_true,Bool.not_eq_true'] at h2
 have ho:ops[i]?=some ops[i]:=Array.getElem?_eq_getElem h1
 refine⟨ops[i],ho,fun hi=>?_,?_⟩
 ·have:=h2.1
  rw[Array.getD_eq_getD_getElem?,Array.getElem?_eq_getElem hi] at this ⊢
  simp at this ⊢;exact this
 ·have h3:=h2.2
  rw[ho] at h3
  simp only[Option.map_some,Option.getD_some,Array.all_eq_true_iff_forall_mem] at h3
  intro e he hb
  have:=h3 e (by simpa using he)
  simp only[Bool.or_eq_true,Bool.not_eq_true'] at this
  rcases this with h4|h4
  ·rw[hb] at h4;cases h4
  ·exact h4
theorem agA(d:DR P C fl base an ops al S H V cm){L:Array Bool}(hs:L.size=ops.size)(h:Region.ready .any ops L=[]):∀i,i<ops.size→L.getD i false=true:=by
 intro i
 induction i using Nat.strongRecOn with
 |ind i ih=>
  intro hi
  have ho:ops[i]?=some ops[i]:=Array.getElem?_eq_getElem hi
  have hn:¬i∈Region.ready .any ops L:=by rw[h];simp
  unfold Region.ready at hn
  rw[List.mem_filter] at hn
  simp only[List.mem_range,hi,true_and,Bool.and_eq_true,Bool.not_eq_true',not_and] at hn
  by_cases hL:L.getD i true=false
  ·have h2:=hn hL
   rw[ho] at h2
   simp only[Option.map_some,Option.getD_some] at h2
   exfalso
   apply h2
   rw[Array.all_eq_true_iff_forall_mem]
   intro e he
   simp only[Bool.or_eq_true,Bool.not_eq_true']
   by_cases hb:Region.binds .any e=true
   ·right
    have:=d.auV i _ ho e (by simpa using he) hb
    exact ih e.on this (by omega)
   ·left;simpa using hb
  ·have:L.getD i true=true:=by simpa using hL
   rw[Array.getD_eq_getD_getElem?,Array.getElem?_eq_getElem (by omega)] at this ⊢
   simpa using this
theorem Yb{Q:Exit→Act→World→Prop}(hQ:∀a' w' μ',bq μ' (cX w') (S al.length) a'.tmps.toList→a'.defers=a0.defers→bZ fl base an μ0 (H 0) w0 μ' (H al.length) w'→Q .normal a' w'):
 ∀(fuel:Nat) (L:Array Bool) (a:Act) (w:World) (μ:Mu) (sE:List Value) (p:Nat),It d μ0 w0 a0 hend L a w μ sE p→sE.length=(S 0).length→left L≤fuel→wpAny P .any ops Q fuel L a w:=by
 have done:∀(L:Array Bool) (a:Act) (w:World) (μ:Mu) (sE:List Value) (p:Nat),It d μ0 w0 a0 hend L a w μ sE p→sE.length=(S 0).length→(∀i,i<ops.size→L.getD i false=true)→Q .normal a w:=by
  intro L a w μ sE p v hlen XL
  have hp:p=al.length:=by
   rcases Nat.lt_or_ge p al.length with h|h
   ·obtain⟨y,hy⟩:∃y,al[p]?=some y:=⟨al[p],List.getElem?_eq_getElem h⟩
    exact absurd (XL p (by rw[←d.len];exact h)) (v.pat y hy).2
   ·exact Nat.le_antisymm v.ple h
  have hse:sE=S al.length:=by
   apply List.ext_getElem?
   intro t
   obtain⟨m,h1,h2,h3,h4⟩:=v.cut t
   rw[h4]
   refine Iu d t h1 (Nat.le_refl _) fun i x hi1 hi2 hx hd=>?_
   have:=h2 i x hx hd (XL i (by rw[←d.len];exact hi2))
   omega
  have ht:=v.t
  rw[hse] at ht
  have agn:=v.post
  rw[hp] at agn
  exact hQ a w μ ht v.dfr agn
 intro fuel
 induction fuel with
 |zero=>
  intro L a w μ sE p v hlen hle
  have XL:∀i,i<ops.size→L.getD i false=true:=fun i hi=>agz (by omega) (by rw[v.size];exact hi)
  refine⟨?_,done L a w μ sE p v hlen XL⟩
  cases hr:Region.ready .any ops L with
  |nil=>rfl
  |cons i l=>
   obtain⟨o,ho,h1,_⟩:=mem_ready (ops:=ops) (L:=L) (i:=i) (by rw[hr];simp)
   have hi:i<ops.size:=(Array.getElem?_eq_some_iff.1 ho).1
   exact absurd (XL i hi) (h1 (by rw[v.size];exact hi))
 |succ fuel ih=>
  intro L a w μ sE p v hlen hle
  refine⟨fun hr=>done L a w μ sE p v hlen (agA d v.size hr),fun i hi=>?_⟩
  obtain⟨o,ho,h1,h2⟩:=mem_ready hi
  have his:i<ops.size:=(Array.getElem?_eq_some_iff.1 ho).1
  have hiL:i<L.size:=by rw[v.size];exact his
  refine v.step hlen ho (h1 hiL) h2 fun a' w' μ' sE' p' v' hlen'=>?_
  have:=ajb hiL (h1 hiL)
  exact ih _ a' w' μ' sE' p' v' hlen' (by omega)
end
end Go.Abs
end
section
namespace Go.Abs
def gL(P:Program):Code→aa→Bool
 |.skip,.skip=>true
 |.seq a b,.seq x y=>gL P a x&&gL P b y
 |.cond c a b,.cond c' x y=>cV c c'&&(gL P a x&&gL P b y)
 |.block i a,.block j x=>i==j&&gL P a x
 |.loop a,.loop x=>gL P a x
 |.exit i,.exit j=>i==j
 |.exit i,.seq (.region [] _) (.exit j)=>i==j
 |.ret,.ret=>true
 |.ret,.seq (.region [] _) .ret=>true
 |.skip,.region [] _=>true
 |.region _ ops draw,.region al _=>al.all ab7&&(gU P ops ops.toList (flat al)&&(!draw||ab8 ops (flat al)))
 |_,_=>false
def ajc:oj→Exit
 |.normal=>.normal
 |.exit i=>.exit i
 |.ret=>.ret
section
variable{P:Program}{C:Callee}{fl base an:Nat}
theorem CK{ops:Array Oper}:∀{l:List Oper} {al:List bD},gU P ops l al=true→al.length=l.length
 |[],[],_=>rfl
 |o::os,x::xs,h=>by
  simp only[gU,Bool.and_eq_true] at h
  simp[CK h.2]
 |[],_::_,h=>by simp[gU] at h
 |_::_,[],h=>by simp[gU] at h
theorem F0{ops:Array Oper}:∀{l:List Oper} {al:List bD},gU P ops l al=true→∀(i:Nat) o x,l[i]?=some o→al[i]?=some x→okA P ops o x=true
 |[],[],_,i,o,x,h,_=>by simp at h
 |o::os,x::xs,h,i,o',x',ho,hx=>by
  simp only[gU,Bool.and_eq_true] at h
  cases i with
  |zero=>simp at ho hx;subst ho;subst hx;exact h.1
  |succ i=>exact F0 h.2 i o' x' (by simpa using ho) (by simpa using hx)
 |[],_::_,h,_,_,_,_,_=>by simp[gU] at h
 |_::_,[],h,_,_,_,_,_=>by simp[gU] at h
structure Good(fl base an hend:Nat)(μ0:Mu)(h0:AH)(w0:World)(μ:Mu)(h:AH)(w:World)(s:List Value)(a:Act):Prop where
 post:bZ fl base an μ0 h0 w0 μ h w
 ctx:Ctx fl base an μ h w s a
 dfr:a.defers=[]
 fresh:gS μ h.next hend
variable{hend:Nat}{μ0:Mu}{h0:AH}{w0:World}
theorem Good.next{R:Type}{r:R}{μ μ' h h' w w' s s'}{a a':Act}(g:Good fl base an hend μ0 h0 w0 μ h w s a)(p:bZ fl base an μ h w μ' h' w')(t:bq μ' (cX w') s' a'.tmps.toList)(hd:a'.defers=a.defers):Good fl base an hend μ0 h0 w0 μ' h' w' s' a':=
 ⟨g.post.trans p (Nat.le_refl _),⟨p.eW,g.ctx.hb,Nat.le_trans g.ctx.bN p.nx,Nat.le_trans g.ctx.hr p.hs,t⟩,by rw[hd,g.dfr],p.fresh g.fresh⟩
theorem CL{μ sz}:∀(ts:List Nat) {s l:List Value},bq μ sz s l→bq μ sz (Cy ts s) l
 |[],_,_,h=>h
 |t::ts,s,l,h=>by
  refine CL ts ?_
  refine bq.ab0 (by simp[h.1]) fun i v hv=>?_
  rw[List.getElem?_set] at hv
  by_cases e:t=i
  ·simp only[e,if_true] at hv
   split at hv
   ·rename_i hlt
    injection hv with hv;subst hv
    exact⟨l[i]'(by have:=h.1;omega),List.getElem?_eq_getElem _,.uv _⟩
   ·cases hv
  ·simp only[e,if_false] at hv
   exact h.get hv
theorem Yc{R:Type}{r:R}(hC:fx P C)(hm:P.follows .mixedOrders=true){id:Nat}{ops:Array Oper}{al:List bD}(ok1:gU P ops ops.toList al=true)(ok2:ab8 ops al=true)
 {K:List Value→AH→Option R} (hK:∀s h,K s h=some r→h.next≤hend) {s:List Value} {h:AH} {a:Act} {w:World} {μ:Mu} {Q:Exit→Act→World→Prop} (e:pL C fl al s h K=some r)
 (g:Good fl base an hend μ0 h0 w0 μ h w s a) (hQ:∀s' h' a' w' μ',K s' h'=some r→Good fl base an hend μ0 h0 w0 μ' h' w' s' a'→Q .normal a' w'):(Code.region id ops true).wp P Q a w:=by
 obtain⟨S,H,V,s0,e0,lW,hk⟩:=UR e
 unfold ab8 at ok2
 simp only[Bool.and_eq_true] at ok2
 have hl:=CK ok1
 have hlen:al.length=ops.size:=by rw[hl];simp
 have d:DR P C fl base an ops al S H V (fun i=>∃x,al[i]?=some x∧x.op.pure=true):={
  hC:=hC,len:=hlen
  ok:=fun i o x ho hx=>F0 ok1 i o x (by simpa using ho) hx
  auV:=fun i o ho e he hb=>by
   have:=As ok2.1 i o (by simpa using ho) e he hb
   omega
  ord:=fun E hE i j x y UJ hx hy hmo hEj=>by
   have aBk:yH x y=true:=by
    have h0:yH x y=(DU x y||(!x.op.pure&&!y.op.pure&&(x.KN||y.KN))):=rfl
    rw[h0]
    rcases hmo with hd|⟨h1,h2,h3⟩
    ·rw[hd];rfl
    ·have p1:x.op.pure=false:=by cases hxp:x.op.pure with|false=>rfl|true=>exact absurd ⟨x,hx,hxp⟩ h1
     have p2:y.op.pure=false:=by cases hyp:y.op.pure with|false=>rfl|true=>exact absurd ⟨y,hy,hyp⟩ h2
     rw[p1,p2]
     rcases h3 with h3|h3<;>simp[h3]
   have h1:=Ir ok2.2 i j x y UJ hx hy aBk
   rw[Nat.zero_add] at h1
   refine KZ (E:=E) ops.toList [] (fun j i hb=>by simp at hb) (fun j o ho hj=>?_) j i h1 hEj
   exact hE j o (by simpa using ho) (by simpa using hj)
  run:=lW
  fl0:=by rw[e0];exact g.ctx.bN
  wf0:=by rw[e0];exact g.ctx.eW.PS
  hb:=g.ctx.hb
  calm:=fun j x hx hc=>by
   obtain⟨y,hy,hp⟩:=hc
   rw[hx] at hy;injection hy with hy;subst hy
   have:=Qe hp (lW j x hx).1
   exact⟨this.1,fun p _ f=>this.2 f (H p)⟩
  am3:=fun j x hx hp=>⟨x,hx,hp⟩
  adu:=fun j x hx hi hc=>by
   obtain⟨y,hy,hp⟩:=hc
   rw[hx] at hy;injection hy with hy;subst hy
   rw[hi.1] at hp;cases hp}
 refine wp_region_any hm ?_
 have p1:bZ fl base an μ h w μ h {w with drawn:=w.drawn+1}:=bZ.heap g.ctx.eW rfl rfl rfl rfl
 obtain⟨p,q1,q2,q3,q4⟩:=Is al al.length 0 (by omega)
 have hq:=d.quiet (i:=0) q1 q2 fun k y k1 k2 hy=>q4 k y k1 k2 hy
 have abL:(H al.length).next≤hend:=hK _ _ hk
 have hfr:gS μ (H 0).next hend:=by rw[e0];exact g.fresh
 have anc:yB base an μ (H 0) {w with drawn:=w.drawn+1}:=by rw[e0];exact p1.eW
 have hg:bZ fl base an μ (H 0) {w with drawn:=w.drawn+1} μ (H p) {w with drawn:=w.drawn+1}:=
  bZ.US anc hq (d.wf q2) (hfr.sub (Nat.le_refl _) (Nat.le_trans (d.mono (i:=p) (j:=al.length) q2 (Nat.le_refl _)) abL))
 have p1':bZ fl base an μ (H 0) w μ (H 0) {w with drawn:=w.drawn+1}:=by rw[e0];exact p1
 have hL:∀i,¬(Array.replicate ops.size false).getD i false=true:=by
  intro i
  rw[Array.getD_eq_getD_getElem?,Array.getElem?_replicate]
  split<;>simp
 have v:It d μ w a hend (Array.replicate ops.size false) a {w with drawn:=w.drawn+1} μ s p:={
  size:=by simp
  dc:=fun k o _ hk=>absurd hk (hL k)
  dfr:=rfl
  t:=p1.agu g.ctx.eW (fun b h1 h2=>by omega) g.ctx.t
  cut:=fun t=>⟨0,Nat.zero_le _,fun i x _ _ hi=>absurd hi (hL i),fun i x _ _ _=>Nat.zero_le _,by rw[s0]⟩
  ple:=q2
  pat:=fun x hx=>⟨q3 x hx,hL p⟩
  plt:=fun i x hi hx Ct=>absurd Ct (q4 i x (Nat.zero_le _) hi hx)
  post:=p1'.trans hg (Nat.le_refl _)
  fresh:=fun i hi _=>hfr.sub (d.mono (i:=0) (j:=i) (Nat.zero_le _) (by omega)) (Nat.le_trans (d.mono (i:=i+1) (j:=al.length) (by omega) (Nat.le_refl _)) abL)
  UE:=hfr.sub (d.mono (i:=0) (j:=al.length) (Nat.zero_le _) (Nat.le_refl _)) (Nat.le_refl _)
  hr:=g.ctx.hr}
 refine Yb (d:=d) (μ0:=μ) (w0:=w) (a0:=a) (hend:=hend) (fun a' w' μ' ht hd hp=>?_) ops.size _ a _ μ s p v (by rw[s0]) ?_
 ·rw[e0] at hp
  exact hQ _ _ a' w' μ' hk (g.next (r:=r) hp ht hd)
 ·unfold left
  exact Nat.le_trans List.countP_le_length (by simp)
theorem bK.any{fl:Nat}{h h1:AH}(a:bK h.next h h1):bK fl h h1:=⟨a.1,fun b hb _=>a.2.1 b hb hb,a.2.2⟩
theorem Yd{C:Callee}(hC:CAbs C){fl}{o:bD}{s h v h1}(e:cM C (if o.KN=true then fl else h.next) s h o.op K0=some (v,h1)):bK fl h h1:=by
 have:=P9 hC e
 split at this
 ·exact this
 ·exact this.any
theorem K1{R:Type}{r:R}{C:Callee}(hC:CAbs C){fl:Nat}:∀{os:List bD} {s h} {K:List Value→AH→Option R},FX C fl os s h K=some r→∃s' h',bK fl h h'∧K s' h'=some r
 |[],s,h,K,e=>⟨s,h,bK.refl _ _,e⟩
 |o::os,s,h,K,e=>by
  simp only[FX] at e
  obtain⟨v,h1,g1,g2⟩:=lh e
  obtain⟨s',h',a2,g3⟩:=K1 hC g2
  exact⟨s',h',(Yd hC g1).trans a2 (Nat.le_refl _),g3⟩
theorem vx{R:Type}{r:R}{C:Callee}(hC:CAbs C){fl:Nat}:∀{is:List fY} {s h} {K:List Value→AH→Option R},yd C fl is s h K=some r→∃s' h',bK fl h h'∧K s' h'=some r
 |[],s,h,K,e=>⟨s,h,bK.refl _ _,e⟩
 |.op o::is,s,h,K,e=>by
  simp only[yd] at e
  obtain⟨v,h1,g1,g2⟩:=lh e
  obtain⟨s',h',a2,g3⟩:=vx hC g2
  exact⟨s',h',(Yd hC g1).trans a2 (Nat.le_refl _),g3⟩
 |.fc g want os::is,s,h,K,e=>by
  simp only[yd] at e
  rcases vG e with⟨b,hb,e⟩|⟨x,y,hb,e⟩
  case inr=>exact vx hC e
  split at e
  ·obtain⟨s1,h1,a1,e⟩:=K1 hC e
   obtain⟨s',h',a2,g3⟩:=vx hC e
   exact⟨s',h',a1.trans a2 (Nat.le_refl _),g3⟩
  ·exact vx hC e
theorem kD{R:Type}{r:R}(hC:CAbs C){k:Nat}:∀(ac:aa) {s:List Value} {h:AH} {K:oj→List Value→AH→Option R},bO C fl k ac s h K=some r→∃f s' h',h.next≤h'.next∧K f s' h'=some r
 |.skip,s,h,K,e=>⟨.normal,s,h,Nat.le_refl _,e⟩
 |.exit id,s,h,K,e=>⟨.exit id,s,h,Nat.le_refl _,e⟩
 |.ret,s,h,K,e=>⟨.ret,s,h,Nat.le_refl _,e⟩
 |.seq x y,s,h,K,e=>by
  simp only[bO] at e
  obtain⟨f,s',h',h1,e⟩:=kD hC x e
  cases f with
  |normal=>
   obtain⟨f2,s2,h2,h3,e2⟩:=kD hC y e
   exact⟨f2,s2,h2,Nat.le_trans h1 h3,e2⟩
  |exit i=>exact⟨_,s',h',h1,e⟩
  |ret=>exact⟨_,s',h',h1,e⟩
 |.cond c x y,s,h,K,e=>by
  simp only[bO] at e
  obtain⟨t,_,e⟩:=bY e
  split at e
  ·exact kD hC x e
  ·exact kD hC y e
 |.block id x,s,h,K,e=>by
  simp only[bO] at e
  obtain⟨f,s',h',h1,e⟩:=kD hC x e
  cases f with
  |normal=>exact⟨_,s',h',h1,e⟩
  |exit i=>
   simp only at e
   split at e
   ·exact⟨_,s',h',h1,e⟩
   ·exact⟨_,s',h',h1,e⟩
  |ret=>exact⟨_,s',h',h1,e⟩
 |.loop x,s,h,K,e=>by
  simp only[bO] at e
  have key:∀(n:Nat) (s:List Value) (h:AH),aR n (fun s h next=>bO C fl k x s h fun f s h=>match f with
   |.normal=>next s h
   |.exit i=>K (.exit i) s h
   |.ret=>K .ret s h) s h=some r→∃f s' h',h.next≤h'.next∧K f s' h'=some r:=by
   intro n
   induction n with
   |zero=>intro s h e;simp[aR] at e
   |succ n ih=>
    intro s h e
    simp only[aR] at e
    obtain⟨f,s',h',h1,e⟩:=kD hC x e
    cases f with
    |normal=>
     obtain⟨f2,s2,h2,h3,e2⟩:=ih s' h' e
     exact⟨f2,s2,h2,Nat.le_trans h1 h3,e2⟩
    |exit i=>exact⟨_,s',h',h1,e⟩
    |ret=>exact⟨_,s',h',h1,e⟩
  exact key k s h e
 |.region al kill,s,h,K,e=>by
  simp only[bO] at e
  obtain⟨s',h',q1,q2⟩:=vx hC e
  exact⟨.normal,_,h',q1.1,q2⟩
theorem ab9{R:Type}{r:R}(hC:fx P C)(hm:P.follows .mixedOrders=true){k:Nat}:∀(code:Code) (ac:aa),gL P code ac=true→
 ∀{K:oj→List Value→AH→Option R} {Q:Exit→Act→World→Prop},(∀f s h,K f s h=some r→h.next≤hend)→
 ∀(s:List Value) (h:AH) (a:Act) (w:World) (μ:Mu),bO C fl k ac s h K=some r→Good fl base an hend μ0 h0 w0 μ h w s a→
 (∀f s' h' a' w' μ',K f s' h'=some r→Good fl base an hend μ0 h0 w0 μ' h' w' s' a'→Q (ajc f) a' w')→code.wp P Q a w:=by
 intro code
 induction code with
 |skip=>
  intro ac ok K Q hK s h a w μ e g hQ
  cases ac<;>try (simp only[gL,Bool.false_eq_true] at ok;done)
  ·exact wp_skip (hQ .normal s h a w μ e g)
  ·rename_i al kill
   cases al with
   |nil=>exact wp_skip (hQ .normal _ h a w μ e ⟨g.post,⟨g.ctx.eW,g.ctx.hb,g.ctx.bN,g.ctx.hr,CL kill g.ctx.t⟩,g.dfr,g.fresh⟩)
   |cons x xs=>simp[gL] at ok
 |exit id=>
  intro ac ok K Q hK s h a w μ e g hQ
  unfold gL at ok
  split at ok
  all_goals try (rename_i h1;cases h1;done)
  ·rename_i i j h1;cases h1
   simp only[beq_iff_eq] at ok
   subst ok
   exact wp_exit (hQ (.exit _) s h a w μ e g)
  ·rename_i i kill j h1;cases h1
   simp only[beq_iff_eq] at ok
   subst ok
   exact wp_exit (hQ (.exit _) _ h a w μ e ⟨g.post,⟨g.ctx.eW,g.ctx.hb,g.ctx.bN,g.ctx.hr,CL kill g.ctx.t⟩,g.dfr,g.fresh⟩)
  ·cases ok
 |ret=>
  intro ac ok K Q hK s h a w μ e g hQ
  unfold gL at ok
  split at ok
  all_goals try (rename_i h1;cases h1;done)
  ·exact wp_ret (hQ .ret s h a w μ e g)
  ·exact wp_ret (hQ .ret _ h a w μ e ⟨g.post,⟨g.ctx.eW,g.ctx.hb,g.ctx.bN,g.ctx.hr,CL _ g.ctx.t⟩,g.dfr,g.fresh⟩)
  ·cases ok
 |seq x y ihx ihy=>
  intro ac ok K Q hK s h a w μ e g hQ
  cases ac<;>simp only[gL,Bool.false_eq_true,Bool.and_eq_true] at ok
  rename_i x' y'
  simp only[bO] at e
  refine wp_seq (ihx x' ok.1 ?_ s h a w μ e g ?_)
  ·intro f s h e
   cases f with
   |normal=>
    obtain⟨f2,s2,h2,h3,e2⟩:=kD hC.toCAbs y' e
    exact Nat.le_trans h3 (hK _ _ _ e2)
   |exit i=>exact hK _ _ _ e
   |ret=>exact hK _ _ _ e
  ·intro f s' h' a' w' μ' e g'
   cases f with
   |normal=>exact ihy y' ok.2 hK s' h' a' w' μ' e g' hQ
   |exit i=>exact hQ _ _ _ _ _ _ e g'
   |ret=>exact hQ _ _ _ _ _ _ e g'
 |cond c x y ihx ihy=>
  intro ac ok K Q hK s h a w μ e g hQ
  cases ac<;>simp only[gL,Bool.false_eq_true,Bool.and_eq_true] at ok
  rename_i c' x' y'
  simp only[bO] at e
  obtain⟨t,ht,e⟩:=bY e
  have rr:=bE g.ctx.t ok.1
  rw[ht] at rr
  refine wp_cond (t:=t) rr.tH ?_
  cases t with
  |true=>exact ihx x' ok.2.1 hK s h a w μ (by simpa using e) g hQ
  |false=>exact ihy y' ok.2.2 hK s h a w μ (by simpa using e) g hQ
 |block id x ihx=>
  intro ac ok K Q hK s h a w μ e g hQ
  cases ac<;>simp only[gL,Bool.false_eq_true,Bool.and_eq_true,beq_iff_eq] at ok
  rename_i id' x'
  obtain⟨rfl,ok⟩:=ok
  simp only[bO] at e
  refine wp_block (ihx x' ok ?_ s h a w μ e g ?_)
  ·intro f s h e
   cases f with
   |normal=>exact hK _ _ _ e
   |exit i=>
    simp only at e
    split at e<;>exact hK _ _ _ e
   |ret=>exact hK _ _ _ e
  ·intro f s' h' a' w' μ' e g'
   cases f with
   |normal=>exact hQ _ _ _ _ _ _ e g'
   |exit i=>
    simp only[ajc,Exit.inBlock]
    simp only at e
    split at e
    ·rename_i hi;rw[if_pos hi];exact hQ _ _ _ _ _ _ e g'
    ·rename_i hi;rw[if_neg hi];exact hQ _ _ _ _ _ _ e g'
   |ret=>exact hQ _ _ _ _ _ _ e g'
 |loop x ihx=>
  intro ac ok K Q hK s h a w μ e g hQ
  cases ac<;>simp only[gL,Bool.false_eq_true] at ok
  rename_i x'
  simp only[bO] at e
  have hnx:∀(n:Nat) (s:List Value) (h:AH),aR n (fun s h next=>bO C fl k x' s h fun f s h=>match f with
   |.normal=>next s h
   |.exit i=>K (.exit i) s h
   |.ret=>K .ret s h) s h=some r→h.next≤hend:=by
   intro n
   induction n with
   |zero=>intro s h e;simp[aR] at e
   |succ n ih=>
    intro s h e
    simp only[aR] at e
    obtain⟨f,s',h',h1,e⟩:=kD hC.toCAbs x' e
    cases f with
    |normal=>exact Nat.le_trans h1 (ih s' h' e)
    |exit i=>exact Nat.le_trans h1 (hK _ _ _ e)
    |ret=>exact Nat.le_trans h1 (hK _ _ _ e)
  have key:∀(n:Nat) (s:List Value) (h:AH) (a:Act) (w:World) (μ:Mu),aR n (fun s h next=>bO C fl k x' s h fun f s h=>match f with
   |.normal=>next s h
   |.exit i=>K (.exit i) s h
   |.ret=>K .ret s h) s h=some r→Good fl base an hend μ0 h0 w0 μ h w s a→Code.rounds P x Q n a w:=by
   intro n
   induction n with
   |zero=>intro s h a w μ e;simp[aR] at e
   |succ n ih=>
    intro s h a w μ e g
    simp only[aR] at e
    rw[rounds_succ]
    refine ihx x' ok ?_ s h a w μ e g ?_
    ·intro f s h e
     cases f with
     |normal=>exact hnx n s h e
     |exit i=>exact hK _ _ _ e
     |ret=>exact hK _ _ _ e
    ·intro f s' h' a' w' μ' e g'
     cases f with
     |normal=>exact ih s' h' a' w' μ' e g'
     |exit i=>exact hQ _ _ _ _ _ _ e g'
     |ret=>exact hQ _ _ _ _ _ _ e g'
  exact wp_loop_rounds k (key k s h a w μ e g)
 |region id ops draw=>
  intro ac ok K Q hK s h a w μ e g hQ
  cases ac<;>simp only[gL,Bool.false_eq_true,Bool.and_eq_true,Bool.or_eq_true,Bool.not_eq_true'] at ok
  rename_i al kill
  obtain⟨okI,ok⟩:=ok
  simp only[bO] at e
  have e:=oq okI e
  have hK':∀s h,K .normal (Cy kill s) h=some r→h.next≤hend:=fun s h=>hK _ _ _
  have ats:∀{μ' h' w' s'} {a':Act},Good fl base an hend μ0 h0 w0 μ' h' w' s' a'→Good fl base an hend μ0 h0 w0 μ' h' w' (Cy kill s') a':=fun g=>
   ⟨g.post,⟨g.ctx.eW,g.ctx.hb,g.ctx.bN,g.ctx.hr,CL kill g.ctx.t⟩,g.dfr,g.fresh⟩
  cases draw with
  |true=>
   rcases ok.2 with h1|h1
   ·cases h1
   ·exact Yc hC hm ok.1 h1 hK' e g fun s' h' a' w' μ' hk g'=>hQ .normal _ _ _ _ _ hk (ats g')
  |false=>
   refine wp_region ?_
   have hr:=TU hC hK' (Q:=Q) ops.toList (flat al) 0 (by simp) ok.1 s h a w μ e g.ctx g.fresh fun s' h' a' w' μ' hk hp ht hd=>hQ .normal _ _ _ _ _ hk (ats (g.next (r:=r) hp ht hd))
   rw[List.range_eq_range']
   simpa using hr
 |rangeFunc f ps x y=>intro ac ok;cases ac<;>simp[gL] at ok
 |scope x=>intro ac ok;cases ac<;>simp[gL] at ok
 |label l=>intro ac ok;cases ac<;>simp[gL] at ok
 |goto l=>intro ac ok;cases ac<;>simp[gL] at ok
 |refuse w=>intro ac ok;cases ac<;>simp[gL] at ok
end
end Go.Abs
end
section
namespace Go.Abs
def jc(P:Program):List ResultVar→List Cz→Bool
 |[],[]=>true
 |.tmp t::rs,.tmp t'::ts=>t==t'&&jc P rs ts
 |.cell t ty::rs,.cell t' sh::ts=>t==t'&&jc P rs ts&&(match P.underlying ty with
  |some (.struct _)=>(match sh with|.agg l=>om P ty l.length|_=>false)
  |some (.array _ _)=>false
  |some _=>(match sh with|.one _=>true|_=>false)
  |none=>false)
 |_,_=>false
def F1(P:Program)(f:FuncId)(af:ay):Bool:=match P.funcs[f]? with
 | some fd => !(fd.name == "runtime.NumGoroutine") && (match fd.body with | some c => gL P c af.body | none => false) && fd.ntmps == af.ntmps && jc P fd.results.toList af.results
 |none=>false
theorem Av{R:Type}{r:R}{P:Program}{base an:Nat}{μ:Mu}{h:AH}{w:World}(sm:yB base an μ h w){s:List Value}{tmps:Array Value}(t:bq μ (cX w) s tmps.toList)(g:ResultVar→Sem Value)
 (hg1:∀t,g (.tmp t)=Pure.pure (tmps.getD t undef)) (hg2:∀a ty,g (.cell a ty)=(do loadVar ty (←asAddr (tmps.getD a undef)))):
 ∀(rs:List ResultVar) (ts:List Cz) (K:List Value→Option R),jc P rs ts=true→FY ts s h K=some r→
  ∃vs yA:List Value,K vs=some r∧(List.mapM g rs).run P w=.ok yA w∧bq μ (cX w) vs yA
 |[],[],K,_,e=>⟨[],[],e,by simp,bq.nil⟩
 |.tmp x::rs,.tmp y::ts,K,ok,e=>by
  simp only[jc,Bool.and_eq_true,beq_iff_eq] at ok
  obtain⟨rfl,ok⟩:=ok
  simp only[FY] at e
  obtain⟨vs,yA,h1,h2,h3⟩:=Av sm t g hg1 hg2 rs ts _ ok e
  refine⟨s.getD x undef::vs,tmps.getD x undef::yA,h1,?_,bq.cons ?_ h3⟩
  ·simp only[List.mapM_cons,hg1,Sem.run_bind,Sem.run_pure,Result.andThen_ok,h2]
  ·have:=P0 t x
   simpa [Array.getD_eq_getD_getElem?,List.getD_eq_getElem?_getD] using this
 |.cell x ty::rs,.cell y sh::ts,K,ok,e=>by
  simp only[jc,Bool.and_eq_true,beq_iff_eq] at ok
  obtain⟨⟨rfl,ok⟩,k2⟩:=ok
  simp only[FY] at e
  obtain⟨p,hp,e⟩:=dG e
  have rr:cB μ (cX w) (s.getD x undef) (tmps.getD x undef):=by
   have:=P0 t x
   simpa [Array.getD_eq_getD_getElem?,List.getD_eq_getElem?_getD] using this
  rw[hp] at rr
  obtain⟨rb,ob,m1,m2⟩:=rr.Ie
  split at k2
  ·rename_i fs hu
   split at k2
   ·rename_i l
    obtain⟨i,hi,Sr⟩:=KV k2
    obtain⟨cs,l1,l2,l3⟩:=vH e
    obtain⟨eC,g1,g2⟩:=sm.TR m1 cs p.off l2
    obtain⟨vs,yA,h1,h2,h3⟩:=Av sm t g hg1 hg2 rs ts _ ok l3
    have hl:(loadCells ⟨rb,ob+p.off,none⟩ i.size).run P w=.ok eC.toArray w:=by
     rw[Sr,←l1,g1.1]
     exact run_loadCells_list w _ eC fun j u hu=>by rw[kC];exact g2 j u hu
    refine⟨.agg ⟨cs⟩::vs,.agg eC.toArray::yA,h1,?_,bq.cons (.agg g1.1 g1.2) h3⟩
    simp only[List.mapM_cons,hg2,m2,asAddr,loadVar,isAgg,Sem.run_bind,Sem.run_pure,Result.andThen_ok,run_underlying hu,if_true,eX hi,hl,h2]
   ·cases k2
  ·cases k2
  ·rename_i d hn1 hn2 hu
   split at k2
   ·rename_i s0
    obtain⟨u,g1,g2⟩:=yE e
    obtain⟨u',q1,q2⟩:=sm.load g1 m1
    obtain⟨vs,yA,h1,h2,h3⟩:=Av sm t g hg1 hg2 rs ts _ ok g2
    have hd:((match d with|.struct _=>Pure.pure true|.array _ _=>Pure.pure true|_=>Pure.pure false):Sem Bool)=Pure.pure false:=by
     cases d<;>first|rfl|(exact absurd rfl (hn1 _))|(exact absurd rfl (hn2 _ _))
    refine⟨u::vs,u'::yA,h1,?_,bq.cons q2 h3⟩
    simp only[List.mapM_cons,hg2,m2,asAddr,loadVar,isAgg,Sem.run_bind,Sem.run_pure,Result.andThen_ok,run_underlying hu,hd,Bool.false_eq_true,if_false,run_load,q1,h2]
   ·cases k2
  ·cases k2
 |[],_::_,_,ok,_=>by simp[jc] at ok
 |.tmp _::_,[],_,ok,_=>by simp[jc] at ok
 |.cell _ _::_,[],_,ok,_=>by simp[jc] at ok
 |.tmp _::_,.cell _ _::_,_,ok,_=>by simp[jc] at ok
 |.cell _ _::_,.tmp _::_,_,ok,_=>by simp[jc] at ok
theorem yI{R:Type}{r:R}:∀(ts:List Cz) {s:List Value} {h:AH} {K:List Value→Option R},FY ts s h K=some r→∃vs,K vs=some r
 |[],_,_,_,e=>⟨_,e⟩
 |.tmp x::ts,s,h,K,e=>by
  simp only[FY] at e
  obtain⟨vs,hv⟩:=yI ts e
  exact⟨_,hv⟩
 |.cell x sh::ts,s,h,K,e=>by
  simp only[FY] at e
  obtain⟨p,_,e⟩:=dG e
  cases sh with
  |one s0=>
   obtain⟨u,_,e⟩:=yE e
   obtain⟨vs,hv⟩:=yI ts e
   exact⟨_,hv⟩
  |agg l=>
   obtain⟨cs,_,_,e⟩:=vH e
   obtain⟨vs,hv⟩:=yI ts e
   exact⟨_,hv⟩
theorem ajd{μ sz}{xs ys:List Value}(h:bq μ sz xs ys):cB μ sz (abZ xs) (if h:(⟨ys⟩:Array Value).size=1 then (⟨ys⟩:Array Value)[0] else .tuple ⟨ys⟩):=by
 cases xs with
 |nil=>
  cases ys with
  |nil=>exact .uv _
  |cons y ys=>have:=h.1;simp at this
 |cons x xs=>
  cases ys with
  |nil=>have:=h.1;simp at this
  |cons y ys=>
   cases xs with
   |nil=>
    cases ys with
    |nil=>exact h.2 0 (by simp) (by simp)
    |cons y' ys=>have:=h.1;simp at this
   |cons x' xs=>
    cases ys with
    |nil=>have:=h.1;simp at this
    |cons y' ys=>
     rw[dif_neg (by simp)]
     exact .tuple h.1 h.2
section
variable{P:Program}{T:FuncId→Option ay}{E:Callee}
theorem aca{C:Callee}(hC:fx P C)(hm:P.follows .mixedOrders=true){f:FuncId}{af:ay}(ok:F1 P f af=true){fl k:Nat}{args:List Value}{h h1:AH}{v:Value}
 (e:bl C fl k af args h=some (v,h1)) {base an:Nat} {μ:Mu} {w:World} {args':List Value} (sm:yB base an μ h w) (hb:base≤fl) (bN:fl≤h.next) (hr:an≤w.heap.size)
 (ha:bq μ (cX w) args args') (hf:gS μ h.next h1.next):
 Calls P f args'.toArray w fun e w'=>∃v' μ',e=.returned v'∧bZ fl base an μ h w μ' h1 w'∧cB μ' (cX w') v v':=by
 unfold F1 at ok
 split at ok
 ·rename_i fd hfd
  simp only[Bool.and_eq_true,beq_iff_eq] at ok
  obtain⟨⟨⟨_,k1⟩,k2⟩,k3⟩:=ok
  split at k1
  ·rename_i c hc
   refine calls_of_wp hfd hc ?_
   unfold bl at e
   have ht:bq μ (cX w) (args++List.replicate (af.ntmps-args.length) undef) (args'.toArray++Array.replicate (fd.ntmps-args'.toArray.size) undef).toList:=by
    simp only[Array.toList_append,Array.toList_replicate,List.size_toArray]
    rw[k2,←ha.1]
    refine ha.append ⟨by simp,fun i h1 h2=>?_⟩
    rw[List.getElem_replicate]
    exact .uv _
   have g:Good fl base an h1.next μ h w μ h w (args++List.replicate (af.ntmps-args.length) undef) {tmps:=args'.toArray++Array.replicate (fd.ntmps-args'.toArray.size) undef,defers:=[]}:=
    ⟨bZ.refl sm,⟨sm,hb,bN,hr,ht⟩,rfl,hf⟩
   have fin:∀{s':List Value} {h':AH} {a':Act} {w':World} {μ':Mu},FY af.results s' h' (fun vs=>some (abZ vs,h'))=some (v,h1)→Good fl base an h1.next μ h w μ' h' w' s' a'→
    ∃v',(results fd a'.tmps).run P w'=.ok v' w'∧∃v'' μ'',Ending.returned v'=.returned v''∧bZ fl base an μ h w μ'' h1 w'∧cB μ'' (cX w') v v'':=by
    intro s' h' a' w' μ' he g'
    unfold results
    have key:∀(g:ResultVar→Sem Value),(∀t,g (.tmp t)=Pure.pure (a'.tmps.getD t undef))→(∀x ty,g (.cell x ty)=(do loadVar ty (←asAddr (a'.tmps.getD x undef))))→
     ∃v',(do let vs ←fd.results.mapM g;Pure.pure (if h:vs.size=1 then vs[0] else Value.tuple vs):Sem Value).run P w'=.ok v' w'∧bZ fl base an μ h w μ' h1 w'∧cB μ' (cX w') v v':=by
     intro g hg1 hg2
     obtain⟨vs,yA,q1,q2,q3⟩:=Av g'.ctx.eW g'.ctx.t g hg1 hg2 fd.results.toList af.results _ k3 he
     simp only[Option.some.injEq,Prod.mk.injEq] at q1
     obtain⟨rfl,rfl⟩:=q1
     refine⟨_,?_,g'.post,ajd q3⟩
     rw[Array.mapM_eq_mapM_toList]
     simp only[Sem.run_bind,Sem.run_map,q2,Result.andThen_ok,Sem.run_pure,List.toArray]
    obtain⟨v',p1,p2,p3⟩:=key (fun x=>match x with|.tmp t=>Pure.pure (a'.tmps.getD t undef)|.cell a t=>do loadVar t (←asAddr (a'.tmps.getD a undef))) (fun t=>rfl) (fun x ty=>rfl)
    exact⟨v',p1,v',μ',rfl,p2,p3⟩
   have axz:∀{s':List Value} {h':AH},FY af.results s' h' (fun vs=>some (abZ vs,h'))=some (v,h1)→h'.next≤h1.next:=by
    intro s' h' he
    obtain⟨vs,hvs⟩:=yI af.results he
    simp only[Option.some.injEq,Prod.mk.injEq] at hvs
    rw[hvs.2];exact Nat.le_refl _
   refine ab9 (r:=(v,h1)) hC hm c af.body k1 (K:=aD af.results) ?_ _ h _ w μ e g ?_
   ·intro f s' h' he
    cases f with
    |normal=>exact axz he
    |ret=>exact axz he
    |exit i=>cases he
   ·intro f s' h' a' w' μ' he g'
    cases f with
    |normal=>
     obtain⟨v',p1,v'',μ'',p2⟩:=fin he g'
     exact⟨g'.dfr,v',p1,v'',μ'',p2⟩
    |ret=>
     obtain⟨v',p1,v'',μ'',p2⟩:=fin he g'
     exact⟨g'.dfr,v',p1,v'',μ'',p2⟩
    |exit i=>cases he
  ·cases k1
 ·cases ok
theorem kE{R:Type}{r:R}{C:Callee}(hC:CAbs C){fl k:Nat}:∀(ac:aa) {s:List Value} {h:AH} {K:oj→List Value→AH→Option R},bO C fl k ac s h K=some r→∃f s' h',bK fl h h'∧K f s' h'=some r
 |.skip,s,h,K,e=>⟨.normal,s,h,bK.refl _ _,e⟩
 |.exit id,s,h,K,e=>⟨.exit id,s,h,bK.refl _ _,e⟩
 |.ret,s,h,K,e=>⟨.ret,s,h,bK.refl _ _,e⟩
 |.seq x y,s,h,K,e=>by
  simp only[bO] at e
  obtain⟨f,s',h',h1,e⟩:=kE hC x e
  cases f with
  |normal=>
   obtain⟨f2,s2,h2,h3,e2⟩:=kE hC y e
   exact⟨f2,s2,h2,h1.trans h3 (Nat.le_refl _),e2⟩
  |exit i=>exact⟨_,s',h',h1,e⟩
  |ret=>exact⟨_,s',h',h1,e⟩
 |.cond c x y,s,h,K,e=>by
  simp only[bO] at e
  obtain⟨t,_,e⟩:=bY e
  split at e
  ·exact kE hC x e
  ·exact kE hC y e
 |.block id x,s,h,K,e=>by
  simp only[bO] at e
  obtain⟨f,s',h',h1,e⟩:=kE hC x e
  cases f with
  |normal=>exact⟨_,s',h',h1,e⟩
  |exit i=>
   simp only at e
   split at e
   ·exact⟨_,s',h',h1,e⟩
   ·exact⟨_,s',h',h1,e⟩
  |ret=>exact⟨_,s',h',h1,e⟩
 |.loop x,s,h,K,e=>by
  simp only[bO] at e
  have key:∀(n:Nat) (s:List Value) (h:AH),aR n (fun s h next=>bO C fl k x s h fun f s h=>match f with
   |.normal=>next s h
   |.exit i=>K (.exit i) s h
   |.ret=>K .ret s h) s h=some r→∃f s' h',bK fl h h'∧K f s' h'=some r:=by
   intro n
   induction n with
   |zero=>intro s h e;simp[aR] at e
   |succ n ih=>
    intro s h e
    simp only[aR] at e
    obtain⟨f,s',h',h1,e⟩:=kE hC x e
    cases f with
    |normal=>
     obtain⟨f2,s2,h2,h3,e2⟩:=ih s' h' e
     exact⟨f2,s2,h2,h1.trans h3 (Nat.le_refl _),e2⟩
    |exit i=>exact⟨_,s',h',h1,e⟩
    |ret=>exact⟨_,s',h',h1,e⟩
  exact key k s h e
 |.region al kill,s,h,K,e=>by
  simp only[bO] at e
  obtain⟨s',h',q1,q2⟩:=vx (K:=fun s h=>K .normal (Cy kill s) h) hC e
  exact⟨.normal,_,h',q1,q2⟩
theorem xv(hm:P.follows .mixedOrders=true)(hE:fx P E)(hT:∀f af,T f=some af→F1 P f af=true):∀k,fx P (BA T E k)
 |0=>{step:=fun fl f args h v h1 e=>by simp[BA] at e,fn:=fun fl f args h v h1 e=>by simp[BA] at e,sound:=fun fl f args h v h1 e=>by simp[BA] at e}
 |k+1=>by
  have ih:=xv hm hE hT k
  refine {step:=?_,fn:=?_,sound:=?_}
  ·intro fl f args h v h1 e
   simp only[BA] at e
   split at e
   ·rename_i af haf
    unfold bl at e
    obtain⟨fw,s',h',a1,e2⟩:=kE ih.toCAbs _ e
    cases fw with
    |normal=>obtain⟨vs,e3⟩:=yI _ e2;simp only[Option.some.injEq,Prod.mk.injEq] at e3;rw[←e3.2];exact a1
    |ret=>obtain⟨vs,e3⟩:=yI _ e2;simp only[Option.some.injEq,Prod.mk.injEq] at e3;rw[←e3.2];exact a1
    |exit i=>cases e2
   ·exact hE.step _ _ _ _ _ _ e
  ·intro fl f args h v h1 e
   simp only[BA] at e
   split at e
   ·rename_i af haf
    have ok:=hT f af haf
    unfold F1 at ok
    split at ok
    ·rename_i fd hfd
     simp only[Bool.and_eq_true,Bool.not_eq_true',beq_iff_eq] at ok
     refine⟨fd,hfd,ok.1.1.1,?_⟩
     have:=ok.1.1.2
     split at this
     ·rename_i c hc;rw[hc];rfl
     ·cases this
    ·cases ok
   ·exact hE.fn _ _ _ _ _ _ e
  ·intro fl f args h v h1 e base an μ w args' sm hb bN hr ha hf
   simp only[BA] at e
   split at e
   ·rename_i af haf
    exact aca ih hm (hT f af haf) e sm hb bN hr ha hf
   ·exact hE.sound _ _ _ _ _ _ e base an μ w args' sm hb bN hr ha hf
def noE:Callee:=fun _ _ _ _=>none
theorem TX:fx P noE:={step:=fun fl f args h v h1 e=>(by simp[noE] at e),fn:=fun fl f args h v h1 e=>(by simp[noE] at e),sound:=fun fl f args h v h1 e=>(by simp[noE] at e)}
end
end Go.Abs
end
section
namespace Go.Abs
section
variable{R:Type}{r:R}{C:Callee}{F:Nat→Callee}(hF:∀fl f args h r,C fl f args h=some r→∃n0,∀n,n0≤n→F n fl f args h=some r){fl:Nat}
include hF
theorem adQ{PT:Nat}{o:H8}{s h v h1}(e:cM C PT s h o K0=some (v,h1)):∃n2,∀n,n2≤n→cM (F n) PT s h o K0=some (v,h1):=by
 cases o with
 |call f args sh=>
  simp only[cM,PZ] at e ⊢
  split at e
  ·rename_i g a b hg
   split at e
   ·rename_i v' h' hq
    obtain⟨n2,hn2⟩:=hF _ _ _ _ _ hq
    exact⟨n2,fun n hn=>by simp only[hn2 n hn];exact e⟩
   ·cases e
  ·cases e
 |_=>exact⟨0,fun n _=>e⟩
theorem Ye:∀(os:List bD) (s:List Value) (h:AH) (K:List Value→AH→Option R) (K':Nat→List Value→AH→Option R),(∀s h,K s h=some r→∃n0,∀n,n0≤n→K' n s h=some r)→
 FX C fl os s h K=some r→∃n0,∀n,n0≤n→FX (F n) fl os s h (K' n)=some r
 |[],s,h,K,K',hK,e=>hK s h e
 |o::os,s,h,K,K',hK,e=>by
  simp only[FX] at e ⊢
  obtain⟨v,h1,g1,g2⟩:=lh e
  obtain⟨n1,hn1⟩:=Ye os (mT s o.dst v) h1 K K' hK g2
  obtain⟨n2,hn2⟩:=adQ hF g1
  exact⟨max n1 n2,fun n hn=>CI (hn2 n (by omega)) (hn1 n (by omega))⟩
theorem yJ:∀(os:List fY) (s:List Value) (h:AH) (K:List Value→AH→Option R) (K':Nat→List Value→AH→Option R),(∀s h,K s h=some r→∃n0,∀n,n0≤n→K' n s h=some r)→
 yd C fl os s h K=some r→∃n0,∀n,n0≤n→yd (F n) fl os s h (K' n)=some r
 |[],s,h,K,K',hK,e=>hK s h e
 |.op o::os,s,h,K,K',hK,e=>by
  simp only[yd] at e ⊢
  obtain⟨v,h1,g1,g2⟩:=lh e
  obtain⟨n1,hn1⟩:=yJ os (mT s o.dst v) h1 K K' hK g2
  obtain⟨n2,hn2⟩:=adQ hF g1
  exact⟨max n1 n2,fun n hn=>CI (hn2 n (by omega)) (hn1 n (by omega))⟩
 |.fc g want os::is,s,h,K,K',hK,e=>by
  simp only[yd] at e ⊢
  rcases vG e with⟨b,hb,e⟩|⟨x,y,hb,e⟩
  case inr=>
   simp only[hb,X1]
   exact yJ is _ h K K' hK e
  simp only[hb,X1]
  split at e
  ·rename_i hw
   simp only[if_pos hw]
   exact Ye hF os _ h _ (fun n s h=>yd (F n) fl is s h (K' n)) (fun s h e=>yJ is s h K K' hK e) e
  ·rename_i hw
   simp only[if_neg hw]
   exact yJ is _ h K K' hK e
end
open Classical in
theorem nA{R:Type}{r:R}{C:Callee}{F:Nat→Callee}(hF:∀fl f args h r,C fl f args h=some r→∃n0,∀n,n0≤n→F n fl f args h=some r){fl k:Nat}:
 ∀(ac:aa) (s:List Value) (h:AH) (K:oj→List Value→AH→Option R) (K':Nat→oj→List Value→AH→Option R),(∀f s h,K f s h=some r→∃n0,∀n,n0≤n→K' n f s h=some r)→
  bO C fl k ac s h K=some r→∃n0,∀n,n0≤n→bO (F n) fl n ac s h (K' n)=some r
 |.skip,s,h,K,K',hK,e=>hK _ s h e
 |.exit id,s,h,K,K',hK,e=>hK _ s h e
 |.ret,s,h,K,K',hK,e=>hK _ s h e
 |.seq x y,s,h,K,K',hK,e=>by
  simp only[bO] at e ⊢
  refine nA hF x s h _ (fun n f s h=>match f with|.normal=>bO (F n) fl n y s h (K' n)|.exit i=>K' n (.exit i) s h|.ret=>K' n .ret s h) ?_ e
  intro f s h e
  cases f with
  |normal=>exact nA hF y s h K K' hK e
  |exit i=>exact hK _ s h e
  |ret=>exact hK _ s h e
 |.cond c x y,s,h,K,K',hK,e=>by
  simp only[bO] at e ⊢
  obtain⟨t,ht,e⟩:=bY e
  simp only[ht,asBool]
  split at e
  ·rename_i hw
   obtain⟨n0,hn⟩:=nA hF x s h K K' hK e
   exact⟨n0,fun n h=>by rw[if_pos hw];exact hn n h⟩
  ·rename_i hw
   obtain⟨n0,hn⟩:=nA hF y s h K K' hK e
   exact⟨n0,fun n h=>by rw[if_neg hw];exact hn n h⟩
 |.block id x,s,h,K,K',hK,e=>by
  simp only[bO] at e ⊢
  refine nA hF x s h _ (fun n f s h=>match f with|.normal=>K' n .normal s h|.exit i=>if i=id then K' n .normal s h else K' n (.exit i) s h|.ret=>K' n .ret s h) ?_ e
  intro f s h e
  cases f with
  |normal=>exact hK _ s h e
  |exit i=>
   simp only at e ⊢
   split at e
   ·rename_i hi;simp only[if_pos hi];exact hK _ s h e
   ·rename_i hi;simp only[if_neg hi];exact hK _ s h e
  |ret=>exact hK _ s h e
 |.loop x,s,h,K,K',hK,e=>by
  simp only[bO] at e ⊢
  have key:∀(m:Nat) (s:List Value) (h:AH),aR m (fun s h next=>bO C fl k x s h fun f s h=>match f with
   |.normal=>next s h
   |.exit i=>K (.exit i) s h
   |.ret=>K .ret s h) s h=some r→∃n0,∀n,n0≤n→∀q,m≤q→aR q (fun s h next=>bO (F n) fl n x s h fun f s h=>match f with
   |.normal=>next s h
   |.exit i=>K' n (.exit i) s h
   |.ret=>K' n .ret s h) s h=some r:=by
   intro m
   induction m with
   |zero=>intro s h e;simp[aR] at e
   |succ m ih=>
    intro s h e
    simp only[aR] at e
    have:=nA hF x s h _ (fun n f s h=>match f with
     |.normal=>if ∀q,m≤q→aR q (fun s h next=>bO (F n) fl n x s h fun f s h=>match f with
      |.normal=>next s h
      |.exit i=>K' n (.exit i) s h
      |.ret=>K' n .ret s h) s h=some r then some r else none
     |.exit i=>K' n (.exit i) s h
     |.ret=>K' n .ret s h) ?_ e
    ·obtain⟨n0,hn⟩:=this
     refine⟨n0,fun n hn0 q hq=>?_⟩
     obtain⟨q,rfl⟩:∃j,q=j+1:=⟨q-1,by omega⟩
     simp only[aR]
     have h1:=hn n hn0
     refine k8 x ?_ h1
     intro f s h e
     cases f with
     |normal=>
      simp only at e
      split at e
      ·rename_i XL;exact XL q (by omega)
      ·cases e
     |exit i=>exact e
     |ret=>exact e
    ·intro f s h e
     cases f with
     |normal=>
      obtain⟨n0,hn⟩:=ih s h e
      exact⟨n0,fun n hn0=>by simp only;rw[if_pos (fun q hq=>hn n hn0 q hq)]⟩
     |exit i=>exact hK _ s h e
     |ret=>exact hK _ s h e
  obtain⟨n0,hn⟩:=key k s h e
  exact⟨max n0 k,fun n h=>hn n (by omega) n (by omega)⟩
 |.region al kill,s,h,K,K',hK,e=>by
  simp only[bO] at e ⊢
  exact yJ hF al s h _ (fun n s h=>K' n .normal (Cy kill s) h) (fun s h e=>hK _ _ h e) e
where
 k8 {C:Callee} {fl k:Nat}:∀(ac:aa) {s:List Value} {h:AH} {K K':oj→List Value→AH→Option R},(∀f s h,K f s h=some r→K' f s h=some r)→
  bO C fl k ac s h K=some r→bO C fl k ac s h K'=some r
 |.skip,s,h,K,K',hK,e=>hK _ s h e
 |.exit id,s,h,K,K',hK,e=>hK _ s h e
 |.ret,s,h,K,K',hK,e=>hK _ s h e
 |.seq x y,s,h,K,K',hK,e=>by
  simp only[bO] at e ⊢
  refine k8 x ?_ e
  intro f s h e
  cases f with
  |normal=>exact k8 y hK e
  |exit i=>exact hK _ s h e
  |ret=>exact hK _ s h e
 |.cond c x y,s,h,K,K',hK,e=>by
  simp only[bO] at e ⊢
  obtain⟨t,ht,e⟩:=bY e
  simp only[ht,asBool]
  split at e
  ·rename_i hw;rw[if_pos hw];exact k8 x hK e
  ·rename_i hw;rw[if_neg hw];exact k8 y hK e
 |.block id x,s,h,K,K',hK,e=>by
  simp only[bO] at e ⊢
  refine k8 x ?_ e
  intro f s h e
  cases f with
  |normal=>exact hK _ s h e
  |exit i=>
   simp only at e ⊢
   split at e
   ·rename_i hi;simp only[if_pos hi];exact hK _ s h e
   ·rename_i hi;simp only[if_neg hi];exact hK _ s h e
  |ret=>exact hK _ s h e
 |.loop x,s,h,K,K',hK,e=>by
  simp only[bO] at e ⊢
  have key:∀(m:Nat) (s:List Value) (h:AH),aR m (fun s h next=>bO C fl k x s h fun f s h=>match f with
   |.normal=>next s h
   |.exit i=>K (.exit i) s h
   |.ret=>K .ret s h) s h=some r→aR m (fun s h next=>bO C fl k x s h fun f s h=>match f with
   |.normal=>next s h
   |.exit i=>K' (.exit i) s h
   |.ret=>K' .ret s h) s h=some r:=by
   intro m
   induction m with
   |zero=>intro s h e;simp[aR] at e
   |succ m ih=>
    intro s h e
    simp only[aR] at e ⊢
    refine k8 x ?_ e
    intro f s h e
    cases f with
    |normal=>exact ih s h e
    |exit i=>exact hK _ s h e
    |ret=>exact hK _ s h e
  exact key k s h e
 |.region al kill,s,h,K,K',hK,e=>by
  simp only[bO] at e ⊢
  have:=yJ (C:=C) (F:=fun _=>C) (fun fl f args h r e=>⟨0,fun _ _=>e⟩) al s h (fun s h=>K .normal (Cy kill s) h) (fun _ s h=>K' .normal (Cy kill s) h) (fun s h e=>⟨0,fun _ _=>hK _ _ h e⟩) e
  obtain⟨n0,hn⟩:=this
  exact hn n0 (Nat.le_refl _)
section
variable{T:FuncId→Option ay}{E:Callee}
def Ans(T:FuncId→Option ay)(E:Callee)(fl:Nat)(f:FuncId)(args:List Value)(h:AH)(r:Value×AH):Prop:=∃n0,∀n,n0≤n→BA T E n fl f args h=some r
open Classical in
noncomputable def CC(T:FuncId→Option ay)(E:Callee):Callee:=fun fl f args h=>
 if x:∃r,Ans T E fl f args h r then some (Classical.choose x) else none
theorem UU{fl f args h r}(e:CC T E fl f args h=some r):Ans T E fl f args h r:=by
 unfold CC at e
 split at e
 ·rename_i x
  injection e with e
  rw[←e]
  exact Classical.choose_spec x
 ·cases e
theorem as5{fl f args h r}(a:Ans T E fl f args h r):CC T E fl f args h=some r:=by
 unfold CC
 have x:∃r,Ans T E fl f args h r:=⟨r,a⟩
 rw[dif_pos x]
 congr 1
 obtain⟨n1,h1⟩:=Classical.choose_spec x
 obtain⟨n2,h2⟩:=a
 have e1:=h1 (max n1 n2) (by omega)
 have e2:=h2 (max n1 n2) (by omega)
 rw[e1] at e2
 injection e2
theorem aub{fl k f af args h r}(hT:T f=some af)(e:bl (CC T E) fl k af args h=some r):CC T E fl f args h=some r:=by
 refine as5 ?_
 unfold bl at e
 have:=nA (C:=CC T E) (F:=fun n=>BA T E n) (fun fl f args h r e=>UU e) af.body _ h (aD af.results) (fun _=>aD af.results) (fun f s h e=>⟨0,fun _ _=>e⟩) e
 obtain⟨n0,hn⟩:=this
 refine⟨n0+1,fun n hn0=>?_⟩
 obtain⟨n,rfl⟩:∃j,n=j+1:=⟨n-1,by omega⟩
 simp only[BA,hT]
 exact hn n (by omega)
theorem acb{fl f args h r}(hT:T f=none)(e:E fl f args h=some r):CC T E fl f args h=some r:=
 as5 ⟨1,fun n hn=>by
  obtain⟨n,rfl⟩:∃j,n=j+1:=⟨n-1,by omega⟩
  simp only[BA,hT];exact e⟩
theorem Yf{P:Program}(hm:P.follows .mixedOrders=true)(hE:fx P E)(hT:∀f af,T f=some af→F1 P f af=true):fx P (CC T E) where
 step fl f args h v h1 e:=by obtain⟨n,hn⟩:=UU e;exact(xv hm hE hT n).step _ _ _ _ _ _ (hn n (Nat.le_refl _))
 fn fl f args h v h1 e:=by obtain⟨n,hn⟩:=UU e;exact(xv hm hE hT n).fn _ _ _ _ _ _ (hn n (Nat.le_refl _))
 sound fl f args h v h1 e:=by obtain⟨n,hn⟩:=UU e;exact(xv hm hE hT n).sound _ _ _ _ _ _ (hn n (Nat.le_refl _))
end
end Go.Abs
end
section
namespace Go.Abs
section
variable{R:Type}
abbrev bL(n:Int):Int:=IntKind.i64.wrap n
def aE(k:IntKind)(h:AH)(b o:Nat)(K:Int→Option R):Option R:=match h.cell b o with
 |some v=>asInt k v K
 |none=>none
def ldB(h:AH)(b o:Nat)(K:Bool→Option R):Option R:=match h.cell b o with
 |some v=>asBool v K
 |none=>none
def bM(h:AH)(b o:Nat)(K:Sl→Option R):Option R:=match h.cell b o with
 |some v=>bB v K
 |none=>none
def ldV(h:AH)(b o:Nat)(K:Value→Option R):Option R:=match h.cell b o with
 |some v=>K v
 |none=>none
def ldN(h:AH)(b o:Nat)(K:Option Addr→Option R):Option R:=match h.cell b o with
 |some v=>fV v K
 |none=>none
def vJ(id:Nat)(K:oj→List Value→AH→Option R):oj→List Value→AH→Option R:=fun f s h=>match f with
 |.normal=>K .normal s h
 |.exit i=>if i=id then K .normal s h else K (.exit i) s h
 |.ret=>K .ret s h
def as6(next:List Value→AH→Option R)(K:oj→List Value→AH→Option R):oj→List Value→AH→Option R:=fun f s h=>match f with
 |.normal=>next s h
 |.exit i=>K (.exit i) s h
 |.ret=>K .ret s h
def bU(C:Callee)(fl k:Nat)(c:aa)(K:oj→List Value→AH→Option R):oj→List Value→AH→Option R:=fun f s h=>match f with
 |.normal=>bO C fl k c s h K
 |.exit i=>K (.exit i) s h
 |.ret=>K .ret s h
def bH(C:Callee)(fl k:Nat)(c:aa)(id:Nat)(K:oj→List Value→AH→Option R):List Value→AH→(List Value→AH→Option R)→Option R:=fun s h next=>bO C fl k c s h (as6 next (vJ id K))
theorem vy(C:Callee)(fl k:Nat)(a b:aa)(s:List Value)(h:AH)(K:oj→List Value→AH→Option R):bO C fl k (.seq a b) s h K=bO C fl k a s h (bU C fl k b K):=rfl
theorem aj{α β}(f:α→β){a a'}(h:a=a'):f a=f a':=by rw[h]
theorem ot{α β γ}(f:α→β→γ){a a' b b'}(h:a=a')(h2:b=b'):f a b=f a' b':=by rw[h,h2]
abbrev KF(R:Type):=oj→List Value→AH→Option R
abbrev OA:=Option Addr
def ce(C:Callee)(fl k:Nat)(c:aa)(K:KF R):List Value→AH→Option R:=fun s q=>bO C fl k c s q K
theorem aw2(C:Callee)(fl k:Nat)(c:aa)(id:Nat)(K:KF R):vJ id (bU C fl k c K) (.exit id)=ce C fl k c K:=by
 funext s h;show(if id=id then _ else _)=_;rw[if_pos rfl];rfl
def un:Nat→List Value→List Value
 |0,l=>l
 |n+1,l=>undef::un n l
abbrev vi(n:Int):Value:=.int .i64 n
abbrev vp(a:Addr):Value:=.pointer (some a)
abbrev vn(a:Option Addr):Value:=.pointer a
abbrev vs(s:Sl):Value:=.slice s.a s.l s.c
class CP(S R:Type)(T:outParam Type) where
 cp:S→(List Value→AH→Option R)→T
instance:CP (List Value) R (AH→Option R):=⟨fun s g q=>g s q⟩
instance{A S T:Type}[CP S R T]:CP (A→S) R (A→T):=⟨fun s g x=>CP.cp (s x) g⟩
section
open CP
variable{S T:Type}[CP S R T]{s:S}{C:Callee}{fl k:Nat}
theorem mq{c:aa}{id m:Nat}{K:KF R}{y z:T}(e:cp s (ce C fl k c (as6 (aR m (bH C fl k c id K)) (vJ id K)))=y)(e2:y=z):cp s (aR (m+1) (bH C fl k c id K))=z:=e.trans e2
theorem mw{c:aa}{id:Nat}{K:KF R}{F:Nat→T}(e:∀m,cp s (aR m (bH C fl k c id K))=F m):cp s (ce C fl k (.block id (.loop c)) K)=F k:=e k
theorem ou{a b:aa}{K:KF R}{y:T}(e:cp s (ce C fl k a (bU C fl k b K))=y):cp s (ce C fl k (.seq a b) K)=y:=e
theorem oh{c:aa}{K:KF R}{y:T}(e:cp s (ce C fl k c K)=y):cp s (bU C fl k c K .normal)=y:=e
theorem bn1{c:aa}{id:Nat}{K:KF R}{y:T}(e:cp s (ce C fl k c K)=y):cp s (vJ id (bU C fl k c K) .normal)=y:=e
theorem bx1{c:aa}{id:Nat}{K:KF R}{y:T}(e:cp s (ce C fl k c K)=y):cp s (vJ id (bU C fl k c K) (.exit id))=y:=by rw[aw2];exact e
end
def oI(d:Nat)(o:H8):fY:=.op ⟨some d,o,none,true⟩
def oJ(d:Nat)(o:H8):fY:=.op ⟨some d,o,none,false⟩
def pI(o:H8):fY:=.op ⟨none,o,none,true⟩
def pJ(o:H8):fY:=.op ⟨none,o,none,false⟩
def qI(d:Nat)(o:H8):bD:=⟨some d,o,none,true⟩
def qJ(d:Nat)(o:H8):bD:=⟨some d,o,none,false⟩
def ci(n:Int):mo:=.c (.int .i64 n)
def cU(h:AH)(cs:List Value)(K:Nat→AH→Option R):Option R:=K h.next (h.alloc cs)
def aC(C:Callee)(fl:Nat)(f:Nat)(args:List Value)(h:AH)(K:Value→AH→Option R):Option R:=match C fl f args h with
 |some (v,h1)=>K v h1
 |none=>none
def lX(C:Callee)(fl:Nat)(f:Value)(args:List Value)(h:AH)(K:Value→AH→Option R):Option R:=match f with
 |.func (.func g) a b=>match C fl g (a.toList++args++b.toList) h with
  |some (v,h1)=>K v h1
  |none=>none
 |_=>none
def aG(l:List Value)(K:Value→List Value→Option R):Option R:=match l with
 |v::vs=>K v vs
 |[]=>none
def ch(l:List Value)(K:Option R):Option R:=match l with
 |[]=>K
 |_=>none
def jd(op:BinOp)(k:IntKind)(a b:Int)(K:Int→Option R):Option R:=match Cx op k a b with
 |some n=>K n
 |none=>none
def shQ(left:Bool)(k:IntKind)(a b:Int)(K:Int→Option R):Option R:=match X2 left k a b with
 |some n=>K n
 |none=>none
def atQ(bs:List Nat)(n:Int)(K:Int→Option R):Option R:=if 0≤n then match bs[n.toNat]? with
 |some b=>K b
 |none=>none
 else none
end
namespace C
def m(d s:Nat):fY:=oI d (.mv (.t s))
def mc(d n:Nat):fY:=oI d (.mv (ci n))
def cm(d:Nat)(o:BinOp)(x y:Nat):fY:=oI d (.cmp o .i64 (.t x) (.t y))
def ck(d:Nat)(o:BinOp)(x n:Nat):fY:=oI d (.cmp o .i64 (.t x) (ci n))
def bb(d:Nat)(o:BinOp)(x y:Nat):fY:=oI d (.bin o .i64 (.t x) (.t y))
def bc(d:Nat)(o:BinOp)(x n:Nat):fY:=oI d (.bin o .i64 (.t x) (ci n))
def ex(d x i:Nat):fY:=oI d (.KI (.t x) i)
def ln(d x:Nat):fY:=oI d (.len (.t x))
def no(d x:Nat):fY:=oI d (.not (.t x))
def fa(d o x:Nat):fY:=oI d (.cu o (.t x))
def ia(d e x i:Nat):fY:=oI d (.dx e (.t x) (.t i))
def li(d x:Nat):fY:=oI d (.load (.one (.int .i64)) (.t x))
def ls(d x:Nat):fY:=oI d (.load (.one .slice) (.t x))
def lj(d x:Nat):fY:=oJ d (.load (.one (.int .i64)) (.t x))
def lt(d x:Nat):fY:=oJ d (.load (.one .slice) (.t x))
def sI(n a x:Nat):fY:=pI (.store n (.t a) (.t x))
def sJ(n a x:Nat):fY:=pJ (.store n (.t a) (.t x))
def kl(l:List Nat):aa:=.region [] l
end C
abbrev yK:=List Value→Option (Value×AH)
def dI(k:IntKind)(F:Int→yK):yK|.int k' n::l=>if k'=k then F n l else none|_=>none
def dS(F:Sl→yK):yK|.slice a l c::r=>F ⟨a,l,c⟩ r|_=>none
def dP(F:Addr→yK):yK|.pointer (some a)::l=>F a l|_=>none
def dN(F:Option Addr→yK):yK|.pointer a::l=>F a l|_=>none
def dV(F:Value→yK):yK|v::l=>F v l|_=>none
def dA(n:Nat)(F:yK):yK|.agg cs::l=>if cs.toList.length=n then F (cs.toList++l) else none|_=>none
def dE(x:Option (Value×AH)):yK|[]=>x|_=>none
section
variable{r:Value×AH}{G:List Value→Prop}
theorem iM{k:IntKind}{F:Int→yK}(h:∀n l,F n l=some r→G (.int k n::l))(l:List Value)(e:dI k F l=some r):G l:=by
 unfold dI at e
 split at e
 ·split at e
  ·rename_i hk;subst hk;exact h _ _ e
  ·cases e
 ·cases e
theorem pP{F:Sl→yK}(h:∀n l,F n l=some r→G (.slice n.a n.l n.c::l))(l:List Value)(e:dS F l=some r):G l:=by
 unfold dS at e
 split at e
 ·exact h ⟨_,_,_⟩ _ e
 ·cases e
theorem dP_{F:Addr→yK}(h:∀n l,F n l=some r→G (.pointer (some n)::l))(l:List Value)(e:dP F l=some r):G l:=by
 unfold dP at e
 split at e
 ·exact h _ _ e
 ·cases e
theorem dN_{F:Option Addr→yK}(h:∀n l,F n l=some r→G (.pointer n::l))(l:List Value)(e:dN F l=some r):G l:=by
 unfold dN at e
 split at e
 ·exact h _ _ e
 ·cases e
theorem dV_{F:Value→yK}(h:∀n l,F n l=some r→G (n::l))(l:List Value)(e:dV F l=some r):G l:=by
 unfold dV at e
 split at e
 ·exact h _ _ e
 ·cases e
theorem O9(n:Nat){F:yK}(h:∀l,F l=some r→G (.agg ⟨l.take n⟩::l.drop n))(l:List Value)(e:dA n F l=some r):G l:=by
 unfold dA at e
 split at e
 ·rename_i cs l'
  split at e
  ·rename_i hn
   have:=h _ e
   rw[←hn,List.take_left,List.drop_left] at this
   exact this
  ·cases e
 ·cases e
theorem tJ{x:Option (Value×AH)}(h:x=some r→G [])(l:List Value)(e:dE x l=some r):G l:=by
 unfold dE at e
 split at e
 ·exact h e
 ·cases e
end
end Go.Abs
end
section
namespace Go.Abs
def Iv:aa→List aa
 |.seq a b=>Iv a++Iv b
 |a=>[a]
def Iw:Code→List aa→Option (aa×List aa)
 |.seq x y,l=>match Iw x l with
  |some (a,l1)=>match Iw y l1 with
   |some (b,l2)=>some (.seq a b,l2)
   |none=>none
  |none=>none
 |.cond _ x y,.cond c a b::l=>match Iw x (Iv a) with
  |some (a',[])=>match Iw y (Iv b) with
   |some (b',[])=>some (.cond c a' b',l)
   |_=>none
  |_=>none
 |.block _ x,.block id a::l=>match Iw x (Iv a) with
  |some (a',[])=>some (.block id a',l)
  |_=>none
 |.loop x,.loop a::l=>match Iw x (Iv a) with
  |some (a',[])=>some (.loop a',l)
  |_=>none
 |.exit _,.region [] kl::.exit i::l=>some (.seq (.region [] kl) (.exit i),l)
 |.ret,.region [] kl::.ret::l=>some (.seq (.region [] kl) .ret,l)
 |.exit _,a::l=>some (a,l)
 |.ret,a::l=>some (a,l)
 |.skip,a::l=>some (a,l)
 |.region _ _ _,a::l=>some (a,l)
 |_,_=>none
def mkA:List aa→aa
 |[]=>.skip
 |a::l=>.seq a (mkA l)
structure pQ(a b:aa):Prop where
 eq:∀(R:Type) (C:Callee) (fl k:Nat) (s:List Value) (h:AH) (K:oj→List Value→AH→Option R),bO C fl k a s h K=bO C fl k b s h K
theorem pQ.refl(a:aa):pQ a a:=⟨fun _ _ _ _ _ _ _=>rfl⟩
theorem pQ.symm{a b:aa}(h:pQ a b):pQ b a:=⟨fun _ C fl k s q K=>(h.1 _ C fl k s q K).symm⟩
theorem pQ.trans{a b c:aa}(h:pQ a b)(g:pQ b c):pQ a c:=⟨fun _ C fl k s q K=>(h.1 _ C fl k s q K).trans (g.1 _ C fl k s q K)⟩
theorem pQ.seq{a b c d:aa}(h:pQ a b)(g:pQ c d):pQ (.seq a c) (.seq b d):=⟨fun _ C fl k s q K=>by
 rw[vy,vy,h.1]
 have:bU C fl k c K=bU C fl k d K:=by
  funext f s q
  cases f with
  |normal=>exact g.1 _ C fl k s q K
  |exit i=>rfl
  |ret=>rfl
 rw[this]⟩
theorem pQ.cond{c:mo}{a b a' b':aa}(h:pQ a a')(g:pQ b b'):pQ (.cond c a b) (.cond c a' b'):=⟨fun _ C fl k s q K=>by
 simp only[bO]
 congr 1
 funext t
 rw[h.1,g.1]⟩
theorem pQ.block{id:Nat}{a b:aa}(h:pQ a b):pQ (.block id a) (.block id b):=⟨fun _ C fl k s q K=>by
 simp only[bO];rw[h.1]⟩
theorem pQ.loop{a b:aa}(h:pQ a b):pQ (.loop a) (.loop b):=⟨fun _ C fl k s q K=>by
 simp only[bO]
 simp only[h.1]⟩
theorem pQ.assoc{a b c:aa}:pQ (.seq (.seq a b) c) (.seq a (.seq b c)):=⟨fun _ C fl k s q K=>by
 have:bU C fl k b (bU C fl k c K)=bU C fl k (.seq b c) K:=by
  funext f s q
  cases f<;>rfl
 rw[vy,vy,vy,this]⟩
theorem pQ.unit{a:aa}:pQ (.seq a .skip) a:=⟨fun _ C fl k s q K=>by
 rw[vy]
 congr 1
 funext f s q
 cases f<;>rfl⟩
theorem pQ.skip{a:aa}:pQ (.seq .skip a) a:=⟨fun _ _ _ _ _ _ _=>rfl⟩
theorem ace(l m:List aa):pQ (mkA (l++m)) (.seq (mkA l) (mkA m)):=by
 induction l with
 |nil=>exact pQ.skip.symm
 |cons a l ih=>exact(pQ.seq (.refl _) ih).trans pQ.assoc.symm
theorem DV:∀(a:aa),pQ a (mkA (Iv a))
 |.seq a b=>((DV a).seq (DV b)).trans (ace _ _).symm
 |.skip=>pQ.unit.symm
 |.cond _ _ _=>pQ.unit.symm
 |.block _ _=>pQ.unit.symm
 |.loop _=>pQ.unit.symm
 |.exit _=>pQ.unit.symm
 |.ret=>pQ.unit.symm
 |.region _ _=>pQ.unit.symm
theorem agB(g:Code)(l:List aa):∀{b:aa} {m:List aa},Iw g l=some (b,m)→pQ (mkA l) (.seq b (mkA m)):=by
 have one:∀{a b:aa} {l m:List aa},some (a,l)=some (b,m)→pQ (mkA (a::l)) (.seq b (mkA m)):=by
  intro a b l m h
  injection h with h;injection h with h1 h2;subst h1;subst h2;exact .refl _
 have nil:∀{a b:aa},pQ (mkA (Iv a)) (.seq b (mkA []))→pQ a b:=fun h=>(DV _).trans (h.trans pQ.unit)
 fun_induction Iw g l with
 |case1 l x y a l1 h1 b l2 h2 hx hy=>
  intro c m h
  injection h with h;injection h with h3 h4;subst h3;subst h4
  exact(hx h1).trans ((pQ.seq (.refl _) (hy h2)).trans pQ.assoc.symm)
 |case4 o x y c a b l a' h1 b' h2 hx hy=>
  intro d m h
  injection h with h;injection h with h3 h4;subst h3;subst h4
  exact pQ.seq (pQ.cond (nil (hx h1)) (nil (hy h2))) (.refl _)
 |case7 _ x id a l b' h1 hx=>
  intro d m h
  injection h with h;injection h with h3 h4;subst h3;subst h4
  exact pQ.seq (pQ.block (nil (hx h1))) (.refl _)
 |case9 x a l b' h1 hx=>
  intro d m h
  injection h with h;injection h with h3 h4;subst h3;subst h4
  exact pQ.seq (pQ.loop (nil (hx h1))) (.refl _)
 |case11|case12=>
  intro d m h
  injection h with h;injection h with h3 h4;subst h3;subst h4
  exact pQ.assoc.symm
 |case13|case14|case15|case16=>intro d m h;exact one h
 |_=>intro d m h;cases h
def UW(P:Program)(f:FuncId)(af:ay):Option ay:=match P.funcs[f]? with
 |some fd=>match fd.body with
  |some c=>match Iw c (Iv af.body) with
   |some (b,[])=>some ⟨af.ntmps,b,af.results⟩
   |_=>none
  |none=>none
 |none=>none
def okF(P:Program)(f:FuncId)(af:ay):Bool:=match UW P f af with
 |some a=>F1 P f a
 |none=>false
theorem acf{P:Program}{f:FuncId}{af a:ay}(h:UW P f af=some a){C:Callee}{fl k:Nat}{args:List Value}{q:AH}:bl C fl k a args q=bl C fl k af args q:=by
 unfold UW at h
 split at h
 ·split at h
  ·split at h
   ·rename_i b hb
    injection h with h;subst h
    have:=(DV af.body).trans ((agB _ _ hb).trans pQ.unit)
    exact(this.1 _ C fl k _ q _).symm
   ·cases h
  ·cases h
 ·cases h
def shT(P:Program)(T:FuncId→Option ay):FuncId→Option ay:=fun f=>(T f).bind fun af=>UW P f af
theorem ajf{P:Program}{T:FuncId→Option ay}(h:∀f af,T f=some af→okF P f af=true):∀f af,shT P T f=some af→F1 P f af=true:=by
 intro f a ha
 unfold shT at ha
 cases hf:T f with
 |none=>rw[hf] at ha;cases ha
 |some af=>
  rw[hf] at ha
  have hk:=h f af hf
  unfold okF at hk
  simp only[Option.bind_some] at ha
  rw[ha] at hk
  exact hk
theorem adR{P:Program}{T:FuncId→Option ay}{E:Callee}(h:∀f af,T f=some af→okF P f af=true){f:FuncId}{af:ay}(hf:T f=some af){fl k:Nat}{args:List Value}{q:AH}{r:Value×AH}
 (e:bl (CC (shT P T) E) fl k af args q=some r):CC (shT P T) E fl f args q=some r:=by
 have hk:=h f af hf
 unfold okF at hk
 split at hk
 ·rename_i a ha
  refine aub (af:=a) (k:=k) ?_ ?_
  ·unfold shT;rw[hf];exact ha
  ·rw[acf ha];exact e
 ·cases hk
end Go.Abs
end
section
namespace Go.Abs
open Go.RowKit
theorem yB.below{base an μ h w w'}(s:yB base an μ h w)(b:Below w.heap.size w w'):yB base an μ h w' where
 cell bb cs rb o h1 h2 j v hv:=by
  obtain⟨v',a,c⟩:=s.cell bb cs rb o h1 h2 j v hv
  have hl:=s.lt _ _ _ h2
  exact⟨v',by rw[DO (b.block rb hl)];exact a,c.mono (fun _ _ h=>h) fun _ _ _ hm=>by rw[xt (b.block _ (s.lt _ _ _ hm))];exact Nat.le_refl _⟩
 own bb cs rb o h0 h1 h2:=by rw[b.block rb (s.lt _ _ _ h2)];exact s.own bb cs rb o h0 h1 h2
 inj:=s.inj
 lt bb rb o hb:=Nat.lt_of_lt_of_le (s.lt bb rb o hb) b.size
 PS:=s.PS
theorem bZ.below{fl base an μ h w w'}(s:yB base an μ h w)(b:Below w.heap.size w w'):bZ fl base an μ h w μ h w' where
 eW:=s.below b
 mu _ _:=rfl
 nx:=Nat.le_refl _
 UB _ _ _:=rfl
 dead _ cs _ h:=⟨cs,h⟩
 fr rb h _:=b.block rb h
 sz rb h:=xt (b.block rb h)
 hs:=b.size
 os:=b.os
 tape:=b.tape
 output:=b.output
 new b _ _ _ h1 h2:=by omega
theorem bZ.found{fl base an μ h w w'}(s:yB base an μ h w)(b:Below w.heap.size w w')(hr:an≤w.heap.size)(hf:μ h.next=none){g:Nat}(hg:w.heap.size≤g){cs:List Value}{c:Array Value}{t:TypeId}
 (hgb:w'.heap[g]?=some (.cells c t (0,0))) (hc:∀(j:Nat) v,cs[j]?=some v→∃v',c[j]?=some v'∧cB μ (cX w) v v'):
 bZ fl base an μ h w (ext μ h.next (g,0)) (h.alloc cs) w':=by
 have ho:=b.block
 have hgl:g<w'.heap.size:=(Array.getElem?_eq_some_iff.1 hgb).1
 have hle:=ab1 (x:=(g,0)) hf
 have DK:∀b rb o,μ b=some (rb,o)→cX w rb≤cX w' rb:=fun b rb o hb=>by rw[xt (ho rb (s.lt b rb o hb))];exact Nat.le_refl _
 have mj:∀b eC,(h.alloc cs).gR b=some eC→(b=h.next∧eC=cs)∨(b≠h.next∧h.gR b=some eC):=by
  intro b eC hb
  by_cases e:b=h.next
  ·simp[AH.alloc,e] at hb;exact .inl ⟨e,hb.symm⟩
  ·simp[AH.alloc,e] at hb;exact .inr ⟨e,hb⟩
 refine {eW:={cell:=?_,own:=?_,inj:=?_,lt:=?_,PS:=?_},mu:=?_,nx:=?_,UB:=?_,dead:=?_,fr:=?_,sz:=?_,hs:=b.size,os:=b.os,tape:=b.tape,output:=b.output,new:=?_}
 ·intro b eC rb o FU jr j v hv
  rcases mj b eC FU with⟨rfl,rfl⟩|⟨fA,H4⟩
  ·rw[bX] at jr;injection jr with jr;injection jr with e1 e2;subst e1;subst e2
   obtain⟨v',h1,h2⟩:=hc j v hv
   exact⟨v',by rw[mU hgb,Nat.zero_add];exact h1,h2.mono hle DK⟩
  ·rw[gK fA] at jr
   obtain⟨v',h1,h2⟩:=s.cell b eC rb o H4 jr j v hv
   exact⟨v',by rw[DO (ho rb (s.lt b rb o jr))];exact h1,h2.mono hle DK⟩
 ·intro b eC rb o XW FU jr
  rcases mj b eC FU with⟨rfl,rfl⟩|⟨fA,H4⟩
  ·rw[bX] at jr;injection jr with jr;injection jr with e1 e2;subst e1
   exact⟨Nat.le_trans hr hg,c,t,hgb⟩
  ·rw[gK fA] at jr
   rw[ho rb (s.lt b rb o jr)]
   exact s.own b eC rb o XW H4 jr
 ·intro b b' cs1 cs2 rb o o' XW h1 h2 m1 m2
  rcases mj b cs1 h1 with⟨rfl,rfl⟩|⟨fA,h1'⟩
  ·rcases mj b' cs2 h2 with⟨rfl,rfl⟩|⟨Sn,h2'⟩
   ·rfl
   ·rw[bX] at m1;injection m1 with m1;injection m1 with e1 e2;subst e1
    rw[gK Sn] at m2
    exact absurd (s.lt b' _ _ m2) (by omega)
  ·rw[gK fA] at m1
   rcases mj b' cs2 h2 with⟨rfl,rfl⟩|⟨Sn,h2'⟩
   ·rw[bX] at m2;injection m2 with m2;injection m2 with e1 e2;subst e1
    exact absurd (s.lt b _ _ m1) (by omega)
   ·rw[gK Sn] at m2
    exact s.inj b b' cs1 cs2 rb o o' XW h1' h2' m1 m2
 ·intro bb rb o jr
  by_cases e:bb=h.next
  ·subst e;rw[bX] at jr;injection jr with jr;injection jr with e1 e2;omega
  ·rw[gK e] at jr;have:=s.lt bb rb o jr;have:=b.size;omega
 ·intro b eC FU
  show b<h.next+1
  rcases mj b eC FU with⟨rfl,rfl⟩|⟨fA,H4⟩
  ·omega
  ·have:=s.PS b eC H4;omega
 ·intro b hb
  refine gK ?_
  rintro rfl
  exact hb ⟨Nat.le_refl _,Nat.lt_succ_self _⟩
 ·exact Nat.le_succ _
 ·intro b hb _
  simp[AH.alloc,Nat.ne_of_lt hb]
 ·intro b eC hb FU
  rcases mj b eC FU with⟨rfl,rfl⟩|⟨fA,H4⟩
  ·omega
  ·exact⟨_,H4⟩
 ·intro rb EO _;exact ho rb EO
 ·intro rb EO;exact xt (ho rb EO)
 ·intro b eC rb o h1 h2 jr _
  have:b=h.next:=by have:b<h.next+1:=h2;omega
  subst this
  rw[bX] at jr;injection jr with jr;injection jr with e1 e2;exact .inl (by omega)
def TY:Value→Bool
 |.int .i64 _=>true
 |_=>false
theorem agC{v:Value}(h:TY v=true):∃n,v=.int .i64 n:=by
 unfold TY at h
 split at h
 ·exact⟨_,rfl⟩
 ·cases h
theorem adS:∀{xs:List Value},xs.all TY=true→∃zs:List Int,xs=zs.map (Value.int .i64)
 |[],_=>⟨[],rfl⟩
 |x::xs,h=>by
  simp only[List.all_cons,Bool.and_eq_true] at h
  obtain⟨zs,e⟩:=adS h.2
  obtain⟨n,e1⟩:=agC h.1
  exact⟨n::zs,by simp[e,e1]⟩
end Go.Abs
end
section
namespace Go.Abs
open Go.RowKit
theorem Qh{α:Type}:∀{l:List (Nat×α)} {f:Nat} {a:α},l.lookup f=some a→(f,a)∈l
 |[],_,_,h=>by cases h
 |(g,b)::l,f,a,h=>by
  simp only[List.lookup] at h
  split at h
  ·rename_i e
   injection h with h
   have:f=g:=by simpa using e
   subst this;subst h;exact List.mem_cons_self
  ·exact List.mem_cons_of_mem _ (Qh h)
theorem aq{α:Type}{b:Bool}{x y:Option α}{r:α}{Q:Prop}(e:cond b x y=some r)(h1:x=some r→Q)(h2:y=some r→Q):Q:=by
 cases b
 ·exact h2 e
 ·exact h1 e
def ajg(T:FuncId→Option ay)(C E:Callee)(fl k f:Nat)(args:List Value)(h:AH)(r:Value×AH):Prop:=
 E fl f args h=some r∨∃af,T f=some af∧bl C fl k af args h=some r
theorem leaf{T:FuncId→Option ay}{C E:Callee}{fl k f:Nat}{args:List Value}{h:AH}{r:Value×AH}{j:Nat}{af:ay}{d:Option (Value×AH)}(hT:T j=some af)
 (hd:d=some r→bl C fl k af args h=some r) (e:cond (Nat.beq f j) d (E fl f args h)=some r):ajg T C E fl k f args h r:=by
 cases hb:Nat.beq f j with
 |false=>rw[hb] at e;exact .inl e
 |true=>
  rw[hb] at e
  have:=Nat.eq_of_beq_eq_true hb
  subst this
  exact .inr ⟨af,hT,hd e⟩
theorem cy{T:FuncId→Option ay}{C E:Callee}{fl k f:Nat}{args:List Value}{h:AH}{r:Value×AH}{j:Nat}{af:ay}{d:yK}(hT:T j=some af)
 (hd:∀l,d l=some r→bl C fl k af l h=some r) (e:cond (Nat.beq f j) (d args) (E fl f args h)=some r):ajg T C E fl k f args h r:=leaf hT (hd args) e
def ajh(aaR:Callee→Callee→Nat→Nat→Nat→List Value→AH→Option (Value×AH))(E:Callee):Nat→Callee
 |0=>fun _ _ _ _=>none
 |k+1=>fun fl f args h=>aaR (ajh aaR E k) E fl k f args h
theorem acg{C C':Callee}(hC:∀fl f args h r,C fl f args h=some r→C' fl f args h=some r){fl k:Nat}{af:ay}{args:List Value}{h:AH}{r:Value×AH}(e:bl C fl k af args h=some r):∃n,bl C' fl n af args h=some r:=by
 unfold bl at e
 have:=nA (C:=C) (F:=fun _=>C') (fun fl f args h r e=>⟨0,fun _ _=>hC _ _ _ _ _ e⟩) af.body _ h (aD af.results) (fun _=>aD af.results) (fun f s h e=>⟨0,fun _ _=>e⟩) e
 obtain⟨n,hn⟩:=this
 exact⟨n,hn n (Nat.le_refl _)⟩
theorem Yg{P:Program}{T:FuncId→Option ay}{E:Callee}{aaR:Callee→Callee→Nat→Nat→Nat→List Value→AH→Option (Value×AH)}(hT:∀f af,T f=some af→okF P f af=true)
 (hE:∀fl f args h r,E fl f args h=some r→T f=none) (hd:∀C fl k f args h r,aaR C E fl k f args h=some r→ajg T C E fl k f args h r):
 ∀k fl f args h r,ajh aaR E k fl f args h=some r→CC (shT P T) E fl f args h=some r
 |0,_,_,_,_,_,e=>by cases e
 |k+1,fl,f,args,h,r,e=>by
  rcases hd _ _ _ _ _ _ _ e with e|⟨af,ha,e⟩
  ·refine acb ?_ e
   unfold shT
   rw[hE _ _ _ _ _ e];rfl
  ·obtain⟨n,hn⟩:=acg (C':=CC (shT P T) E) (fun fl f args h r e=>Yg hT hE hd k fl f args h r e) e
   exact adR hT ha hn
def Qi(g:FuncId)(v:Value):Callee:=fun _ f args h=>if f=g∧args.isEmpty=true then some (v,h) else none
theorem F2{g v fl f args h r}(e:Qi g v fl f args h=some r):f=g∧args=[]∧r=(v,h):=by
 unfold Qi at e
 split at e
 ·rename_i q
  simp only[Option.some.injEq] at e
  exact⟨q.1,by simpa using q.2,e.symm⟩
 ·cases e
theorem UX{P:Program}{C:Callee}(hC:fx P C){g:FuncId}{b:Bool}{h1:AH}(e:C 0 g [] ⟨0,fun _=>none⟩=some (.bool b,h1)):fx P (Qi g (.bool b)) where
 step fl f args h v h2 e2:=by
  obtain⟨_,_,e3⟩:=F2 e2
  injection e3 with e3 e4;subst e4;exact bK.refl _ _
 fn fl f args h v h2 e2:=by
  obtain⟨rfl,_⟩:=F2 e2
  exact hC.fn _ _ _ _ _ _ e
 sound fl f args h v h2 e2 base an μ w args' s hb bN hr ha hf:=by
  obtain⟨rfl,rfl,e3⟩:=F2 e2
  injection e3 with e3 e4;subst e3;subst e4
  have ea:args'=[]:=by have:=ha.1;cases args' with|nil=>rfl|cons _ _=>cases this
  subst ea
  have s0:yB 0 w.heap.size (fun _=>none) ⟨0,fun _=>none⟩ w:={cell:=fun b cs rb o h=>(by cases h),own:=fun b cs rb o _ h=>(by cases h),inj:=fun b b' cs eC rb o o' _ h=>(by cases h),lt:=fun b rb o h=>(by cases h),PS:=fun b cs h=>(by cases h)}
  refine(hC.sound 0 f [] ⟨0,fun _=>none⟩ (.bool b) h1 e 0 w.heap.size (fun _=>none) w [] s0 (Nat.le_refl _) (Nat.le_refl _) (Nat.le_refl _) bq.nil (fun _ _ _=>rfl)).mono ?_
  rintro e' w' ⟨v',μ',rfl,p,hv⟩
  have:=hv.tH
  subst this
  exact⟨_,μ,rfl,bZ.below s ⟨p.os,p.tape,p.output,p.hs,fun rb EO=>p.fr rb EO fun b cs o _ _ h=>(by cases h)⟩,.bool b⟩
def orE(E1 E2:Callee):Callee:=fun fl f args h=>match E1 fl f args h with
 |some r=>some r
 |none=>E2 fl f args h
theorem UY{E1 E2:Callee}{fl f args h r}(e:orE E1 E2 fl f args h=some r):E1 fl f args h=some r∨E2 fl f args h=some r:=by
 unfold orE at e
 split at e
 ·rename_i r' h1;rw[h1];exact .inl e
 ·exact .inr e
theorem TZ{P:Program}{E1 E2:Callee}(h1:fx P E1)(h2:fx P E2):fx P (orE E1 E2) where
 step fl f args h v h3 e:=(UY e).elim (h1.step _ _ _ _ _ _) (h2.step _ _ _ _ _ _)
 fn fl f args h v h3 e:=(UY e).elim (h1.fn _ _ _ _ _ _) (h2.fn _ _ _ _ _ _)
 sound fl f args h v h3 e:=(UY e).elim (h1.sound _ _ _ _ _ _) (h2.sound _ _ _ _ _ _)
end Go.Abs
end
section
namespace Go.Abs
def UZ(ops:Array Oper)(al:List bD)(cl:List Nat):Bool:=
 Il 0 ops.toList&&
 ((List.range al.length).all (fun j=>(List.range j).all fun i=>match al[i]?,al[j]? with
   |some x,some y=>!(DU x y||(!(x.op.pure||cl.contains i)&&!(y.op.pure||cl.contains j)&&(x.KN||y.KN)))||((aob ops.toList []).getD j 0).testBit i
   |_,_=>true)&&
 cl.all (fun i=>match al[i]? with|some x=>!x.KN|none=>true))
section
variable{P:Program}{C:Callee}{fl base an hend:Nat}{μ0:Mu}{h0:AH}{w0:World}
theorem K2{R:Type}{r:R}(hC:fx P C)(hm:P.follows .mixedOrders=true){id:Nat}{ops:Array Oper}{al:List bD}{cl:List Nat}(ok1:gU P ops ops.toList al=true)(ok2:UZ ops al cl=true)
 {K:List Value→AH→Option R} (hK:∀s h,K s h=some r→h.next≤hend) {s:List Value} {h:AH} {a:Act} {w:World} {μ:Mu} {Q:Exit→Act→World→Prop} (e:pL C fl al s h K=some r)
 (ans:∀(S:Nat→List Value) (H:Nat→AH) (V:Nat→Value),S 0=s→H 0=h→(∀(i:Nat) x,al[i]?=some x→Ap C fl x (S i) (H i)=some (V i,H (i+1))∧S (i+1)=mT (S i) x.dst (V i))→
  ∀j∈cl,∀x,al[j]?=some x→H (j+1)=H j∧∀p,p≤al.length→∀f,Ap C f x (S j) (H p)=some (V j,H p))
 (g:Good fl base an hend μ0 h0 w0 μ h w s a) (hQ:∀s' h' a' w' μ',K s' h'=some r→Good fl base an hend μ0 h0 w0 μ' h' w' s' a'→Q .normal a' w'):(Code.region id ops true).wp P Q a w:=by
 obtain⟨S,H,V,s0,e0,lW,hk⟩:=UR e
 have hcm:=ans S H V s0 e0 lW
 unfold UZ at ok2
 simp only[Bool.and_eq_true,List.all_eq_true,List.mem_range] at ok2
 obtain⟨o1,o2,o3⟩:=ok2
 have hl:=CK ok1
 have hlen:al.length=ops.size:=by rw[hl];simp
 have d:DR P C fl base an ops al S H V (fun i=>(∃x,al[i]?=some x∧x.op.pure=true)∨i∈cl):={
  hC:=hC,len:=hlen
  ok:=fun i o x ho hx=>F0 ok1 i o x (by simpa using ho) hx
  auV:=fun i o ho e he hb=>by
   have:=As o1 i o (by simpa using ho) e he hb
   omega
  ord:=fun E hE i j x y UJ hx hy hmo hEj=>by
   have h1:=o2 j (List.getElem?_eq_some_iff.1 hy).1 i UJ
   rw[hx,hy] at h1
   have h2:(DU x y||(!(x.op.pure||cl.contains i)&&!(y.op.pure||cl.contains j)&&(x.KN||y.KN)))=true:=by
    rcases hmo with hd|⟨n1,n2,h3⟩
    ·rw[hd];rfl
    ·have p1:x.op.pure=false:=by cases hxp:x.op.pure with|false=>rfl|true=>exact absurd (.inl ⟨x,hx,hxp⟩) n1
     have p2:y.op.pure=false:=by cases hyp:y.op.pure with|false=>rfl|true=>exact absurd (.inl ⟨y,hy,hyp⟩) n2
     have c1:cl.contains i=false:=by
      cases hc:cl.contains i with
      |false=>rfl
      |true=>exact absurd (.inr (by simpa using hc)) n1
     have c2:cl.contains j=false:=by
      cases hc:cl.contains j with
      |false=>rfl
      |true=>exact absurd (.inr (by simpa using hc)) n2
     rw[p1,p2,c1,c2]
     rcases h3 with h3|h3<;>simp[h3]
   simp only[h2,Bool.not_true,Bool.false_or] at h1
   refine KZ (E:=E) ops.toList [] (fun j i hb=>by simp at hb) (fun j o ho hj=>?_) j i h1 hEj
   exact hE j o (by simpa using ho) (by simpa using hj)
  run:=lW
  fl0:=by rw[e0];exact g.ctx.bN
  wf0:=by rw[e0];exact g.ctx.eW.PS
  hb:=g.ctx.hb
  calm:=fun j x hx hc=>by
   rcases hc with⟨y,hy,hp⟩|hc
   ·rw[hx] at hy;injection hy with hy;subst hy
    have:=Qe hp (lW j x hx).1
    exact⟨this.1,fun p _ f=>this.2 f (H p)⟩
   ·exact hcm j hc x hx
  am3:=fun j x hx hp=>.inl ⟨x,hx,hp⟩
  adu:=fun j x hx hi hc=>by
   rcases hc with⟨y,hy,hp⟩|hc
   ·rw[hx] at hy;injection hy with hy;subst hy
    rw[hi.1] at hp;cases hp
   ·have:=o3 j hc
    rw[hx] at this
    simp only[Bool.not_eq_true'] at this
    have h3:=hi.2
    rw[this] at h3;cases h3}
 refine wp_region_any hm ?_
 have p1:bZ fl base an μ h w μ h {w with drawn:=w.drawn+1}:=bZ.heap g.ctx.eW rfl rfl rfl rfl
 obtain⟨p,q1,q2,q3,q4⟩:=Is al al.length 0 (by omega)
 have hq:=d.quiet (i:=0) q1 q2 fun k y k1 k2 hy=>q4 k y k1 k2 hy
 have abL:(H al.length).next≤hend:=hK _ _ hk
 have hfr:gS μ (H 0).next hend:=by rw[e0];exact g.fresh
 have anc:yB base an μ (H 0) {w with drawn:=w.drawn+1}:=by rw[e0];exact p1.eW
 have hg:bZ fl base an μ (H 0) {w with drawn:=w.drawn+1} μ (H p) {w with drawn:=w.drawn+1}:=
  bZ.US anc hq (d.wf q2) (hfr.sub (Nat.le_refl _) (Nat.le_trans (d.mono (i:=p) (j:=al.length) q2 (Nat.le_refl _)) abL))
 have p1':bZ fl base an μ (H 0) w μ (H 0) {w with drawn:=w.drawn+1}:=by rw[e0];exact p1
 have hL:∀i,¬(Array.replicate ops.size false).getD i false=true:=by
  intro i
  rw[Array.getD_eq_getD_getElem?,Array.getElem?_replicate]
  split<;>simp
 have v:It d μ w a hend (Array.replicate ops.size false) a {w with drawn:=w.drawn+1} μ s p:={
  size:=by simp
  dc:=fun k o _ hk=>absurd hk (hL k)
  dfr:=rfl
  t:=p1.agu g.ctx.eW (fun b h1 h2=>by omega) g.ctx.t
  cut:=fun t=>⟨0,Nat.zero_le _,fun i x _ _ hi=>absurd hi (hL i),fun i x _ _ _=>Nat.zero_le _,by rw[s0]⟩
  ple:=q2
  pat:=fun x hx=>⟨q3 x hx,hL p⟩
  plt:=fun i x hi hx Ct=>absurd Ct (q4 i x (Nat.zero_le _) hi hx)
  post:=p1'.trans hg (Nat.le_refl _)
  fresh:=fun i hi _=>hfr.sub (d.mono (i:=0) (j:=i) (Nat.zero_le _) (by omega)) (Nat.le_trans (d.mono (i:=i+1) (j:=al.length) (by omega) (Nat.le_refl _)) abL)
  UE:=hfr.sub (d.mono (i:=0) (j:=al.length) (Nat.zero_le _) (Nat.le_refl _)) (Nat.le_refl _)
  hr:=g.ctx.hr}
 refine Yb (d:=d) (μ0:=μ) (w0:=w) (a0:=a) (hend:=hend) (fun a' w' μ' ht hd hp=>?_) ops.size _ a _ μ s p v (by rw[s0]) ?_
 ·rw[e0] at hp
  exact hQ _ _ a' w' μ' hk (g.next (r:=r) hp ht hd)
 ·unfold left
  exact Nat.le_trans List.countP_le_length (by simp)
theorem ach(hC:fx P C)(hm:P.follows .mixedOrders=true){f:FuncId}{fd:Func}{id nt:Nat}{ops:Array Oper}{al:List bD}{cl:List Nat}(hfd:P.funcs[f]?=some fd)(hc:fd.body=some (.region id ops true))(k2:fd.ntmps=nt)(k3:fd.results=#[])
 (ok1:gU P ops ops.toList al=true) (ok2:UZ ops al cl=true) {args:List Value} {h h1:AH} {v:Value}
 (e:pL C fl al (args++List.replicate (nt-args.length) undef) h (fun _ h=>some (.tuple ⟨[]⟩,h))=some (v,h1))
 (ans:∀(S:Nat→List Value) (H:Nat→AH) (V:Nat→Value),S 0=args++List.replicate (nt-args.length) undef→H 0=h→(∀(i:Nat) x,al[i]?=some x→Ap C fl x (S i) (H i)=some (V i,H (i+1))∧S (i+1)=mT (S i) x.dst (V i))→
  ∀j∈cl,∀x,al[j]?=some x→H (j+1)=H j∧∀p,p≤al.length→∀f,Ap C f x (S j) (H p)=some (V j,H p))
 {μ:Mu} {w:World} {args':List Value} (sm:yB base an μ h w) (hb:base≤fl) (bN:fl≤h.next) (hr:an≤w.heap.size)
 (ha:bq μ (cX w) args args') (hf:gS μ h.next h1.next):
 Calls P f args'.toArray w fun e w'=>∃v' μ',e=.returned v'∧bZ fl base an μ h w μ' h1 w'∧cB μ' (cX w') v v':=by
 refine calls_of_wp hfd hc ?_
 have ht:bq μ (cX w) (args++List.replicate (nt-args.length) undef) (args'.toArray++Array.replicate (fd.ntmps-args'.toArray.size) undef).toList:=by
  simp only[Array.toList_append,Array.toList_replicate,List.size_toArray]
  rw[k2,←ha.1]
  refine ha.append ⟨by simp,fun i h1 h2=>?_⟩
  rw[List.getElem_replicate]
  exact .uv _
 have g:Good fl base an h1.next μ h w μ h w (args++List.replicate (nt-args.length) undef) {tmps:=args'.toArray++Array.replicate (fd.ntmps-args'.toArray.size) undef,defers:=[]}:=
  ⟨bZ.refl sm,⟨sm,hb,bN,hr,ht⟩,rfl,hf⟩
 refine K2 (r:=(v,h1)) hC hm ok1 ok2 (K:=fun _ h=>some (.tuple ⟨[]⟩,h)) ?_ e ans g ?_
 ·intro s' h' he
  simp only[Option.some.injEq,Prod.mk.injEq] at he
  rw[he.2];exact Nat.le_refl _
 ·intro s' h' a' w' μ' he g'
  simp only[Option.some.injEq,Prod.mk.injEq] at he
  obtain⟨rfl,rfl⟩:=he
  refine⟨g'.dfr,.tuple #[],?_,.tuple #[],μ',rfl,g'.post,?_⟩
  ·unfold results
   rw[k3,Array.mapM_eq_mapM_toList]
   simp only[List.mapM_nil,Sem.run_bind,Sem.run_map,Sem.run_pure,Result.andThen_ok]
   rfl
  ·exact .tuple rfl (fun i h1 h2=>by cases h1)
end
end Go.Abs
end
section
namespace Go.Abs
inductive Tr where
 |lf
 |nd (v:Value) (l r:Tr)
noncomputable def gv(t:Tr):Nat→Value:=Tr.rec (motive:=fun _=>Nat→Value) (fun _=>undef)
 (fun v _ _ gl gr i=>cond (Nat.beq i 0) v (cond (Nat.beq (Nat.mod i 2) 1) (gl (Nat.div i 2)) (gr (Nat.sub (Nat.div i 2) 1)))) t
noncomputable def sF(x:Value)(n:Nat):Tr→Nat→Tr:=Nat.rec (motive:=fun _=>Tr→Nat→Tr) (fun t _=>t)
 (fun _ ih t i=>Tr.rec (motive:=fun _=>Tr)
  (cond (Nat.beq i 0) (.nd x .lf .lf) (cond (Nat.beq (Nat.mod i 2) 1) (.nd undef (ih .lf (Nat.div i 2)) .lf) (.nd undef .lf (ih .lf (Nat.sub (Nat.div i 2) 1)))))
  (fun v l r _ _=>cond (Nat.beq i 0) (.nd x l r) (cond (Nat.beq (Nat.mod i 2) 1) (.nd v (ih l (Nat.div i 2)) r) (.nd v l (ih r (Nat.sub (Nat.div i 2) 1))))) t) n
theorem xw{α:Type}(b:Bool)(x y:α):cond b x y=if b=true then x else y:=by cases b<;>rfl
theorem aof(i j:Nat):(Nat.beq i j=true)=(i=j):=propext ⟨Nat.eq_of_beq_eq_true,fun h=>by subst h;exact Nat.beq_refl i⟩
theorem Ix(v:Value)(l r:Tr)(i:Nat):gv (.nd v l r) i=if i=0 then v else if i%2=1 then gv l (i/2) else gv r (i/2-1):=by
 show cond (Nat.beq i 0) v (cond (Nat.beq (i%2) 1) (gv l (i/2)) (gv r (i/2-1)))=_
 simp only[xw,aof]
theorem aw3(x:Value)(n i:Nat):sF x (n+1) .lf i=if i=0 then .nd x .lf .lf else if i%2=1 then .nd undef (sF x n .lf (i/2)) .lf else .nd undef .lf (sF x n .lf (i/2-1)):=by
 show cond (Nat.beq i 0) (Tr.nd x .lf .lf) (cond (Nat.beq (i%2) 1) (Tr.nd undef (sF x n .lf (i/2)) .lf) (Tr.nd undef .lf (sF x n .lf (i/2-1))))=_
 simp only[xw,aof]
theorem aw4(x v:Value)(l r:Tr)(n i:Nat):sF x (n+1) (.nd v l r) i=if i=0 then .nd x l r else if i%2=1 then .nd v (sF x n l (i/2)) r else .nd v l (sF x n r (i/2-1)):=by
 show cond (Nat.beq i 0) (Tr.nd x l r) (cond (Nat.beq (i%2) 1) (Tr.nd v (sF x n l (i/2)) r) (Tr.nd v l (sF x n r (i/2-1))))=_
 simp only[xw,aof]
theorem as8(x:Value):∀(n:Nat) (t:Tr) (i j:Nat),i<2^n-1→gv (sF x n t i) j=if j=i then x else gv t j:=by
 intro n
 induction n with
 |zero=>intro t i j h;simp at h
 |succ n ih=>
  intro t i j h
  rw[Nat.pow_succ] at h
  cases t with
  |lf=>
   rw[aw3]
   by_cases h0:i=0
   ·rw[if_pos h0,Ix]
    subst h0
    by_cases hj:j=0
    ·rw[if_pos hj,if_pos hj]
    ·rw[if_neg hj,if_neg hj];split<;>rfl
   ·rw[if_neg h0]
    by_cases h1:i%2=1
    ·rw[if_pos h1,Ix]
     by_cases hj:j=0
     ·rw[if_pos hj,if_neg (by omega)];rfl
     ·rw[if_neg hj]
      by_cases Aj:j%2=1
      ·rw[if_pos Aj,ih _ _ _ (by omega)]
       by_cases e:j=i
       ·rw[if_pos e,if_pos (by rw[e])]
       ·rw[if_neg e,if_neg (by omega)];rfl
      ·rw[if_neg Aj,if_neg (by omega)];rfl
    ·rw[if_neg h1,Ix]
     by_cases hj:j=0
     ·rw[if_pos hj,if_neg (by omega)];rfl
     ·rw[if_neg hj]
      by_cases Aj:j%2=1
      ·rw[if_pos Aj,if_neg (by omega)];rfl
      ·rw[if_neg Aj,ih _ _ _ (by omega)]
       by_cases e:j=i
       ·rw[if_pos e,if_pos (by rw[e])]
       ·rw[if_neg e,if_neg (by omega)];rfl
  |nd v l r=>
   rw[aw4]
   by_cases h0:i=0
   ·rw[if_pos h0,Ix,Ix]
    subst h0
    by_cases hj:j=0
    ·rw[if_pos hj,if_pos hj]
    ·rw[if_neg hj,if_neg hj,if_neg hj]
   ·rw[if_neg h0]
    by_cases h1:i%2=1
    ·rw[if_pos h1,Ix,Ix]
     by_cases hj:j=0
     ·rw[if_pos hj,if_pos hj,if_neg (by omega)]
     ·rw[if_neg hj,if_neg hj]
      by_cases Aj:j%2=1
      ·rw[if_pos Aj,if_pos Aj,ih _ _ _ (by omega)]
       by_cases e:j=i
       ·rw[if_pos e,if_pos (by rw[e])]
       ·rw[if_neg e,if_neg (by omega)]
      ·rw[if_neg Aj,if_neg Aj,if_neg (by omega)]
    ·rw[if_neg h1,Ix,Ix]
     by_cases hj:j=0
     ·rw[if_pos hj,if_pos hj,if_neg (by omega)]
     ·rw[if_neg hj,if_neg hj]
      by_cases Aj:j%2=1
      ·rw[if_pos Aj,if_pos Aj,if_neg (by omega)]
      ·rw[if_neg Aj,if_neg Aj,ih _ _ _ (by omega)]
       by_cases e:j=i
       ·rw[if_pos e,if_pos (by rw[e])]
       ·rw[if_neg e,if_neg (by omega)]
noncomputable def sv(n:Nat)(e:Tr)(i:Nat)(v:Value):Tr:=cond (Nat.blt i n) (sF v 10 e i) e
noncomputable def evE(e:Tr)(o:mo):Value:=mo.rec (motive:=fun _=>Value) (fun i=>gv e i) (fun v=>v) (fun id=>.func (.func id) #[] #[]) o
noncomputable def cE(e:Tr)(o:mo):mo:=.c (evE e o)
noncomputable def aue(e:Tr):H8→H8
 |.mv x=>.mv (cE e x)
 |.pick c a b=>.pick (cE e c) (cE e a) (cE e b)
 |.box x=>.box (cE e x)
 |.alloc z=>.alloc z
 |.build z ps=>.build z (ps.map fun p=>(p.1,p.2.1,cE e p.2.2))
 |.aQ len z ps=>.aQ len z (ps.map fun p=>(p.1,p.2.1,cE e p.2.2))
 |.load sh a=>.load sh (cE e a)
 |.store n a x=>.store n (cE e a) (cE e x)
 |.cg x=>.cg (cE e x)
 |.bin op k x y=>.bin op k (cE e x) (cE e y)
 |.sh l k yk x y=>.sh l k yk (cE e x) (cE e y)
 |.cmp op k x y=>.cmp op k (cE e x) (cE e y)
 |.beq n x y=>.beq n (cE e x) (cE e y)
 |.Fq n x=>.Fq n (cE e x)
 |.not x=>.not (cE e x)
 |.neg k x=>.neg k (cE e x)
 |.conv a b x=>.conv a b (cE e x)
 |.xd f a b=>.xd f (a.map (cE e)) (b.map (cE e))
 |.cD n z l c=>.cD n z (cE e l) (cE e c)
 |.slice n x lo hi mx=>.slice n (cE e x) (lo.map (cE e)) (hi.map (cE e)) (mx.map (cE e))
 |.cu o x=>.cu o (cE e x)
 |.dx n x i=>.dx n (cE e x) (cE e i)
 |.KI x i=>.KI (cE e x) i
 |.call f as sh=>.call (cE e f) (as.map (cE e)) sh
 |.len x=>.len (cE e x)
 |.append n b s x=>.append n b (cE e s) (cE e x)
 |.copy n d s=>.copy n (cE e d) (cE e s)
 |.mm m x y=>.mm m (cE e x) (cE e y)
 |.KJ k bs i=>.KJ k bs (cE e i)
def TL(e:Tr)(s:List Value):Prop:=∀i,gv e i=s.getD i undef
theorem TL.ev{e s}(r:TL e s)(o:mo):ev [] (cE e o)=ev s o:=by
 cases o with
 |t i=>exact r i
 |c v=>rfl
 |f i=>rfl
section
variable{R:Type}{C:Callee}{fl k n:Nat}
theorem TL.fill{e s}(r:TL e s):∀(ps:List (Nat×Nat×mo)) (z:List Value),pO [] (ps.map fun p=>(p.1,p.2.1,cE e p.2.2)) z=pO s ps z
 |[],z=>rfl
 |(a,b,x)::ps,z=>by
  simp only[List.map_cons,pO,r.ev,r.fill ps]
theorem TL.opt{e s}(r:TL e s)(o:Option mo)(K:Option Int→Option R):fX [] (o.map (cE e)) K=fX s o K:=by
 cases o with
 |none=>rfl
 |some x=>simp only[Option.map_some,fX,r.ev]
theorem TL.op{e s}(r:TL e s)(h:AH)(o:H8)(K:Value→AH→Option R):cM C fl [] h (aue e o) K=cM C fl s h o K:=by
 cases o<;>simp only[aue,cM,r.ev,r.fill,r.opt,List.map_map]
 all_goals
  have hm:∀l:List mo,l.map (Abs.ev []∘cE e)=l.map (Abs.ev s):=fun l=>List.map_congr_left fun x _=>r.ev x
  simp only[hm]
theorem TL.set{e s}(r:TL e s)(hs:s.length=n)(hn:n<1000)(i:Nat)(v:Value):TL (sv n e i v) (s.set i v):=by
 intro j
 unfold sv
 rw[xw]
 by_cases hi:i<n
 ·have hb:Nat.blt i n=true:=Nat.ble_eq_true_of_le hi
  rw[if_pos hb,as8 v 10 e i j (by omega)]
  by_cases hj:j=i
  ·subst hj
   simp[List.getD_eq_getElem?_getD,hs,hi]
  ·rw[if_neg hj,r j]
   simp[List.getD_eq_getElem?_getD,List.getElem?_set_ne (fun e=>hj e.symm)]
 ·have hb:¬Nat.blt i n=true:=fun h=>hi (Nat.le_of_ble_eq_true h)
  rw[if_neg hb,r j,List.set_eq_of_length_le (by omega)]
noncomputable def pX(n:Nat)(e:Tr)(d:Option Nat)(v:Value):Tr:=Option.rec (motive:=fun _=>Tr) e (fun i=>sv n e i v) d
theorem TL.put{e s}(r:TL e s)(hs:s.length=n)(hn:n<1000)(d:Option Nat)(v:Value):TL (pX n e d v) (mT s d v)∧(mT s d v).length=n:=by
 cases d with
 |none=>exact⟨r,hs⟩
 |some i=>exact⟨r.set hs hn i v,by simp[mT,hs]⟩
noncomputable def adT(C:Callee)(fl n:Nat)(o:bD)(e:Tr)(h:AH)(K:Tr→AH→Option R):Option R:=
 cM C (cond o.KN fl h.next) [] h (aue e o.op) fun v h1=>K (pX n e o.dst v) h1
noncomputable def T7(C:Callee)(fl n:Nat)(os:List bD):Tr→AH→(Tr→AH→Option R)→Option R:=
 List.rec (motive:=fun _=>Tr→AH→(Tr→AH→Option R)→Option R) (fun e h K=>K e h) (fun o _ ih e h K=>adT C fl n o e h fun e h=>ih e h K) os
noncomputable def skX(n:Nat)(os:List bD):Tr→Tr:=List.rec (motive:=fun _=>Tr→Tr) (fun e=>e) (fun o _ ih e=>ih (pX n e o.dst yD)) os
noncomputable def aug(a b:Bool):Bool:=Bool.rec (not b) b a
noncomputable def Qj(C:Callee)(fl n:Nat)(is:List fY):Tr→AH→(Tr→AH→Option R)→Option R:=
 List.rec (motive:=fun _=>Tr→AH→(Tr→AH→Option R)→Option R) (fun e h K=>K e h)
  (fun i _ ih e h K=>fY.rec (motive:=fun _=>Option R) (fun o=>adT C fl n o e h fun e h=>ih e h K)
   (fun g want os=>X1 (gv e g) (fun b=>cond (aug b want) (T7 C fl n os (sv n e g (.bool want)) h fun e h=>ih e h K) (ih (skX n os (sv n e g (.bool (!want)))) h K)) (ih (skX n os e) h K)) i) is
noncomputable def klX(n:Nat)(l:List Nat):Tr→Tr:=List.rec (motive:=fun _=>Tr→Tr) (fun e=>e) (fun t _ ih e=>ih (sv n e t undef)) l
noncomputable def as9(m:Nat)(step:Tr→AH→(Tr→AH→Option R)→Option R):Tr→AH→Option R:=
 Nat.rec (motive:=fun _=>Tr→AH→Option R) (fun _ _=>none) (fun _ ih e h=>step e h ih) m
noncomputable def Yh(C:Callee)(fl k n:Nat)(c:aa):Tr→AH→(oj→Tr→AH→Option R)→Option R:=
 aa.rec (motive:=fun _=>Tr→AH→(oj→Tr→AH→Option R)→Option R)
  (fun e h K=>K .normal e h)
  (fun _ _ ia ib e h K=>ia e h fun f e h=>oj.rec (motive:=fun _=>Option R) (ib e h K) (fun i=>K (.exit i) e h) (K .ret e h) f)
  (fun c _ _ ia ib e h K=>asBool (evE e c) fun t=>cond t (ia e h K) (ib e h K))
  (fun id _ ib e h K=>ib e h fun f e h=>oj.rec (motive:=fun _=>Option R) (K .normal e h) (fun i=>cond (Nat.beq i id) (K .normal e h) (K (.exit i) e h)) (K .ret e h) f)
  (fun _ ib e h K=>as9 k (fun e h next=>ib e h fun f e h=>oj.rec (motive:=fun _=>Option R) (next e h) (fun i=>K (.exit i) e h) (K .ret e h) f) e h)
  (fun id e h K=>K (.exit id) e h)
  (fun e h K=>K .ret e h)
  (fun is kill e h K=>Qj C fl n is e h fun e h=>K .normal (klX n kill e) h) c
noncomputable def agD(rs:List Cz)(e:Tr)(h:AH):(List Value→Option R)→Option R:=
 List.rec (motive:=fun _=>(List Value→Option R)→Option R) (fun K=>K []) (fun r _ ih K=>Cz.rec (motive:=fun _=>Option R) (fun t=>ih fun vs=>K (gv e t::vs)) (fun t sh=>cQ (gv e t) fun a=>match sh with
     |.one s0=>KS s0 h a.block a.off fun v=>ih fun vs=>K (v::vs)
     |.agg l=>Ft l h a.block a.off fun cs=>ih fun vs=>K (.agg ⟨cs⟩::vs)) r) rs
noncomputable def azE(rs:List Cz):oj→Tr→AH→Option (Value×AH):=fun f e h=>
 oj.rec (motive:=fun _=>Option (Value×AH)) (agD rs e h fun vs=>some (abZ vs,h)) (fun _=>none) (agD rs e h fun vs=>some (abZ vs,h)) f
noncomputable def aji(l:List Value):Nat→Tr→Tr:=List.rec (motive:=fun _=>Nat→Tr→Tr) (fun _ e=>e) (fun v _ ih i e=>ih (Nat.succ i) (sF v 10 e i)) l
noncomputable def gg(C:Callee)(fl k:Nat)(af:ay)(args:List Value)(h:AH):Option (Value×AH):=
 cond (and (Nat.ble args.length af.ntmps) (Nat.blt af.ntmps 1000)) (Yh C fl k af.ntmps af.body (aji args 0 .lf) h (azE af.results)) none
theorem Yi(hn:n<1000){o:bD}{e s h}{K:Tr→AH→Option R}{K':List Value→AH→Option R}(r:TL e s)(hs:s.length=n)(hK:∀e s h,TL e s→s.length=n→K e h=K' s h):
 adT C fl n o e h K=cM C (if o.KN=true then fl else h.next) s h o.op fun v h1=>K' (mT s o.dst v) h1:=by
 unfold adT
 rw[r.op,xw]
 congr 1
 funext v h1
 exact hK _ _ _ (r.put hs hn _ _).1 (r.put hs hn _ _).2
theorem Yj(hn:n<1000):∀(os:List bD) {e s h} {K:Tr→AH→Option R} {K':List Value→AH→Option R} (_:TL e s) (_:s.length=n) (_:∀e s h,TL e s→s.length=n→K e h=K' s h),T7 C fl n os e h K=FX C fl os s h K'
 |[],e,s,h,K,K',r,hs,hK=>hK _ _ _ r hs
 |o::os,e,s,h,K,K',r,hs,hK=>Yi (K:=fun e h=>T7 C fl n os e h K) (K':=fun s h=>FX C fl os s h K') hn r hs fun e s h r hs=>Yj hn os r hs hK
theorem Qk(hn:n<1000):∀(os:List bD) {e s} (_:TL e s) (_:s.length=n),TL (skX n os e) (H9 os s)∧(H9 os s).length=n
 |[],e,s,r,hs=>⟨r,hs⟩
 |o::os,e,s,r,hs=>Qk hn os (r.put hs hn o.dst yD).1 (r.put hs hn o.dst yD).2
theorem aci(hn:n<1000):∀(l:List Nat) {e s} (_:TL e s) (_:s.length=n),TL (klX n l e) (Cy l s)∧(Cy l s).length=n
 |[],e,s,r,hs=>⟨r,hs⟩
 |t::l,e,s,r,hs=>aci hn l (r.set hs hn t undef) (by simp[hs])
theorem Iy(hn:n<1000):∀(is:List fY) {e s h} {K:Tr→AH→Option R} {K':List Value→AH→Option R} (_:TL e s) (_:s.length=n) (_:∀e s h,TL e s→s.length=n→K e h=K' s h),Qj C fl n is e h K=yd C fl is s h K'
 |[],e,s,h,K,K',r,hs,hK=>hK _ _ _ r hs
 |.op o::is,e,s,h,K,K',r,hs,hK=>Yi (K:=fun e h=>Qj C fl n is e h K) (K':=fun s h=>yd C fl is s h K') hn r hs fun e s h r hs=>Iy hn is r hs hK
 |.fc g want os::is,e,s,h,K,K',r,hs,hK=>by
  show X1 (gv e g) (fun b=>cond (aug b want) (T7 C fl n os (sv n e g (.bool want)) h fun e h=>Qj C fl n is e h K) (Qj C fl n is (skX n os (sv n e g (.bool (!want)))) h K)) (Qj C fl n is (skX n os e) h K)=_
  simp only[yd]
  rw[r g,Iy hn is (Qk hn os r hs).1 (Qk hn os r hs).2 hK]
  congr 1
  funext b
  have hb:cond (aug b want) (T7 C fl n os (sv n e g (.bool want)) h fun e h=>Qj C fl n is e h K) (Qj C fl n is (skX n os (sv n e g (.bool (!want)))) h K)=
   if b=want then T7 C fl n os (sv n e g (.bool want)) h (fun e h=>Qj C fl n is e h K) else Qj C fl n is (skX n os (sv n e g (.bool (!want)))) h K:=by
   cases b<;>cases want<;>rfl
  rw[hb]
  have r1:=r.set hs hn g (.bool want)
  have r2:=r.set hs hn g (.bool (!want))
  rw[Yj (K:=fun e h=>Qj C fl n is e h K) (K':=fun s h=>yd C fl is s h K') hn os r1 (by simp[hs]) (fun e s h r hs=>Iy hn is r hs hK),Iy hn is (Qk hn os r2 (by simp[hs])).1 (Qk hn os r2 (by simp[hs])).2 hK]
theorem vK(hn:n<1000):∀(c:aa) {e s h} {K:oj→Tr→AH→Option R} {K':oj→List Value→AH→Option R} (_:TL e s) (_:s.length=n) (_:∀f e s h,TL e s→s.length=n→K f e h=K' f s h),Yh C fl k n c e h K=bO C fl k c s h K'
 |.skip,e,s,h,K,K',r,hs,hK=>hK _ _ _ _ r hs
 |.ret,e,s,h,K,K',r,hs,hK=>hK _ _ _ _ r hs
 |.exit i,e,s,h,K,K',r,hs,hK=>hK _ _ _ _ r hs
 |.seq a b,e,s,h,K,K',r,hs,hK=>by
  simp only[bO]
  refine vK hn a r hs fun f e s h r hs=>?_
  cases f with
  |normal=>exact vK hn b r hs hK
  |exit i=>exact hK _ _ _ _ r hs
  |ret=>exact hK _ _ _ _ r hs
 |.cond c a b,e,s,h,K,K',r,hs,hK=>by
  show asBool (evE e c) (fun t=>cond t (Yh C fl k n a e h K) (Yh C fl k n b e h K))=_
  simp only[bO]
  have hc:evE e c=ev s c:=r.ev c
  rw[hc,vK hn a r hs hK,vK hn b r hs hK]
  congr 1
  funext t
  rw[xw]
 |.block id c,e,s,h,K,K',r,hs,hK=>by
  simp only[bO]
  refine vK hn c r hs fun f e s h r hs=>?_
  cases f with
  |normal=>exact hK _ _ _ _ r hs
  |exit i=>
   show cond (Nat.beq i id) _ _=_
   rw[xw]
   simp only[aof]
   split
   ·exact hK _ _ _ _ r hs
   ·exact hK _ _ _ _ r hs
  |ret=>exact hK _ _ _ _ r hs
 |.loop c,e,s,h,K,K',r,hs,hK=>by
  simp only[bO]
  have key:∀m {e s h},TL e s→s.length=n→as9 m (fun e h next=>Yh C fl k n c e h fun f e h=>oj.rec (motive:=fun _=>Option R) (next e h) (fun i=>K (.exit i) e h) (K .ret e h) f) e h=
   aR m (fun s h next=>bO C fl k c s h fun f s h=>match f with
    |.normal=>next s h
    |.exit i=>K' (.exit i) s h
    |.ret=>K' .ret s h) s h:=by
   intro m
   induction m with
   |zero=>intro e s h _ _;rfl
   |succ m ih=>
    intro e s h r hs
    refine vK hn c r hs fun f e s h r hs=>?_
    cases f with
    |normal=>exact ih r hs
    |exit i=>exact hK _ _ _ _ r hs
    |ret=>exact hK _ _ _ _ r hs
  exact key k r hs
 |.region is kill,e,s,h,K,K',r,hs,hK=>Iy hn is r hs fun e s h r hs=>hK _ _ _ _ (aci hn kill r hs).1 (aci hn kill r hs).2
theorem Iz{e s}(r:TL e s)(h:AH):∀(rs:List Cz) (K:List Value→Option R),agD rs e h K=FY rs s h K
 |[],K=>rfl
 |.tmp t::rs,K=>by
  show agD rs e h (fun vs=>K (gv e t::vs))=_
  rw[r t,Iz r h rs];rfl
 |.cell t sh::rs,K=>by
  show cQ (gv e t) (fun a=>match sh with
   |.one s0=>KS s0 h a.block a.off fun v=>agD rs e h fun vs=>K (v::vs)
   |.agg l=>Ft l h a.block a.off fun cs=>agD rs e h fun vs=>K (.agg ⟨cs⟩::vs))=_
  simp only[FY]
  rw[r t]
  congr 1
  funext a
  cases sh with
  |one s0=>simp only[Iz r h rs]
  |agg l=>simp only[Iz r h rs]
theorem T8:∀(l:List Value) (i:Nat) (e:Tr),i+l.length<1000→∀j,gv (aji l i e) j=if i≤j∧j<i+l.length then l.getD (j-i) undef else gv e j
 |[],i,e,_,j=>by rw[if_neg (by simp only[List.length_nil];omega)];rfl
 |v::l,i,e,h,j=>by
  simp only[List.length_cons] at h ⊢
  show gv (aji l (i+1) (sF v 10 e i)) j=_
  rw[T8 l (i+1) _ (by omega) j,as8 v 10 e i j (by omega)]
  by_cases hj:j=i
  ·subst hj
   rw[if_neg (by omega),if_pos rfl,if_pos (by omega)];simp
  ·by_cases h2:i+1≤j∧j<i+1+l.length
   ·rw[if_pos h2,if_pos (by omega),show j-i=(j-(i+1))+1 by omega];simp
   ·rw[if_neg h2,if_neg hj,if_neg (by omega)]
theorem ajj{af:ay}{args:List Value}{h:AH}{r:Value×AH}(e:gg C fl k af args h=some r):bl C fl k af args h=some r:=by
 unfold gg at e
 rw[xw] at e
 split at e
 ·rename_i hc
  simp only[Bool.and_eq_true] at hc
  have h1:=Nat.le_of_ble_eq_true hc.1
  have h2:af.ntmps<1000:=Nat.le_of_ble_eq_true hc.2
  rw[←e]
  unfold bl
  refine(vK h2 af.body ?_ (by simp;omega) ?_).symm
  ·intro j
   rw[T8 args 0 .lf (by omega) j]
   simp only[Nat.zero_le,true_and,Nat.zero_add,Nat.sub_zero]
   by_cases hj:j<args.length
   ·rw[if_pos hj];simp[List.getD_eq_getElem?_getD,List.getElem?_append_left hj]
   ·rw[if_neg hj]
    simp only[List.getD_eq_getElem?_getD,List.getElem?_append_right (Nat.le_of_not_lt hj),List.getElem?_replicate]
    split<;>rfl
  ·intro f e s h r hs
   cases f with
   |normal=>exact Iz r h _ _
   |exit i=>rfl
   |ret=>exact Iz r h _ _
 ·cases e
theorem cZ{T:FuncId→Option ay}{E:Callee}{f:Nat}{args:List Value}{h:AH}{r:Value×AH}{j:Nat}{af:ay}(hT:T j=some af)
 (e:cond (Nat.beq f j) (gg C fl k af args h) (E fl f args h)=some r):ajg T C E fl k f args h r:=leaf hT ajj e
end
end Go.Abs
end
