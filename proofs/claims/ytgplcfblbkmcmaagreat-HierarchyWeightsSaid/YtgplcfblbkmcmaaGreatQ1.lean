/- Shortened by a program of ours out of readable texts. -/
import Derived.Test.YtgplcfblbkmcmaaGreatQ0
import Derived.IntWalk
import Derived.Deep.Strs
import Derived.ChangeSlices
import Derived.RangeFuncBox
import Derived.RangeFuncLeaves
import Derived.Maps.AppendAt
import Derived.Shelf.Abstract
import Derived.WalkKit
import Derived.OwnWalkIn
import Derived.TacticsInMore
import Derived.LoopNIn
import Derived.LoopIn
import Derived.Test.YtgplcfblbkmcmaaGreatProg
import Derived.KernelRfl
section
namespace Go.Fld
def axK(p c:Nat):List Nat→List Nat→List Nat
 |r,[]=>r
 |[],_::_=>[]
 |r::rs,l::ls=>(r+(p-c)*l)%p::axK p c rs ls
def Li(p:Nat)(lr:List Nat):Nat→List Nat→List Nat→List Nat×List Nat
 |0,r,qs=>(qs,r)
 |n+1,r,qs=>match r with
  |[]=>(qs,[])
  |c::rest=>Li p lr n (axK p c rest lr) (c::qs)
def rev:List Nat→List Nat→List Nat
 |[],b=>b
 |x::a,b=>rev a (x::b)
def alr(p:Nat)(low mod:List Nat):List Nat×List Nat:=Li p (rev low []) (mod.length+1-low.length) (1::rev mod []) []
def Bw:List Nat→Bool
 |[]=>true
 |a::aS=>Nat.beq a 0&&Bw aS
def zU(p:Nat)(low mod:List Nat):Bool:=Bw (alr p low mod).2
def BQ(p d:Nat)(mod:List Nat):Nat→Nat→Option (List Nat)
 |0,_=>none
 |n+1,v=>if zU p (bn p d v) mod=true then some (bn p d v) else BQ p d mod n (v+1)
def findD(p:Nat)(mod:List Nat):Nat→Nat→Option (List Nat)
 |0,_=>none
 |n+1,d=>match BQ p d mod (p^d) 0 with
  |some l=>some l
  |none=>findD p mod n (d+1)
def ard(p:Nat)(mod:List Nat):Bool:=(findD p mod (mod.length/2) 1).isNone
def aBr:Nat→List Nat
 |0=>[]
 |n+1=>1::gM n
def trim:List Nat→List Nat
 |[]=>[]
 |a::aS=>match trim aS with
  |[]=>if a=0 then [] else [a]
  |b::bs=>a::b::bs
def itL(p:Nat)(low x:List Nat):Nat→List Nat→List Nat
 |0,y=>y
 |n+1,y=>itL p low x n (mulL p low y x)
def isP(n:Nat):Nat→Nat→Bool
 |0,_=>true
 |k+1,d=>if n%d=0 then false else isP n k (d+1)
noncomputable section
def lit(n:Nat)(k:Nat→Bool):Bool:=Nat.rec (motive:=fun _=>Bool) (k 0) (fun v _=>k (Nat.succ v)) n
theorem zV(n:Nat)(k:Nat→Bool):lit n k=k n:=by cases n<;>rfl
def bik(c:Bool)(a b:Bool):Bool:=Bool.rec (motive:=fun _=>Bool) b a c
theorem IK(c a b:Bool):bik c a b=if c=true then a else b:=by cases c<;>rfl
def aPU(p top b:Nat)(os:List Nat):List Nat→List Nat→(List Nat→Bool)→Bool:=
 List.rec (motive:=fun _=>List Nat→List Nat→(List Nat→Bool)→Bool) (fun _ _ k=>k [])
  (fun o _ ih ls aS k=>List.rec (motive:=fun _=>Bool) (k []) (fun l ls _=>List.rec (motive:=fun _=>Bool) (k []) (fun a aS _=>
   lit (Nat.mod (Nat.add (Nat.add o (Nat.mul (Nat.sub p top) l)) (Nat.mul b a)) p) fun v=>ih ls aS fun r=>k (v::r)) aS) ls) os
theorem aG1(p top b:Nat)(os ls aS:List Nat)(k:List Nat→Bool):aPU p top b os ls aS k=k (kd p top b os ls aS):=by
 induction os generalizing ls aS k with
 |nil=>rfl
 |cons o os ih=>cases ls with
  |nil=>rfl
  |cons l ls=>cases aS with
   |nil=>rfl
   |cons a aS=>exact(zV (Nat.mod (Nat.add (Nat.add o (Nat.mul (Nat.sub p top) l)) (Nat.mul b a)) p) fun v=>aPU p top b os ls aS fun r=>k (v::r)).trans (ih _ _ _)
def aNX(l:List Nat):Nat:=List.rec (motive:=fun _=>Nat→Nat) (fun x=>x) (fun x _ ih _=>ih x) l 0
theorem aBs(l:List Nat):aNX l=zS l:=by
 have:∀(l:List Nat) (x:Nat),List.rec (motive:=fun _=>Nat→Nat) (fun x=>x) (fun x _ ih _=>ih x) l x=zS (x::l):=by
  intro l
  induction l with
  |nil=>intro x;rfl
  |cons y l ih=>intro x;exact ih y
 cases l with
 |nil=>rfl
 |cons x l=>exact this l x
def aG2(p:Nat)(low a:List Nat)(bs:List Nat):(List Nat→Bool)→Bool:=
 List.rec (motive:=fun _=>(List Nat→Bool)→Bool) (fun k=>k (gM low.length)) (fun b _ ih k=>ih fun out=>aPU p (aNX out) b (0::out) low a k) bs
theorem atm(p:Nat)(low a bs:List Nat)(k:List Nat→Bool):aG2 p low a bs k=k (mulL p low a bs):=by
 induction bs generalizing k with
 |nil=>rfl
 |cons b bs ih=>
  refine(ih _).trans ((aG1 ..).trans ?_)
  rw[aBs];rfl
def aeI(l:List Nat):List Nat→Bool:=
 List.rec (motive:=fun _=>List Nat→Bool) (fun k=>List.rec (motive:=fun _=>Bool) true (fun _ _ _=>false) k) (fun x _ ih k=>List.rec (motive:=fun _=>Bool) false (fun y k _=>bik (Nat.beq x y) (ih k) false) k) l
theorem ahN(a b:List Nat):aeI a b=true↔a=b:=by
 induction a generalizing b with
 |nil=>cases b<;>simp[aeI]
 |cons x a ih=>cases b with
  |nil=>simp[aeI]
  |cons y b=>
   have:aeI (x::a) (y::b)=bik (Nat.beq x y) (aeI a b) false:=rfl
   rw[this,IK]
   by_cases e:x=y
   ·subst e;simp[ih]
   ·rw[if_neg (by intro h;exact e (Nat.eq_of_beq_eq_true h))];simp[e]
def ahO(p:Nat)(low one x:List Nat)(n:Nat):List Nat→Bool:=
 Nat.rec (motive:=fun _=>List Nat→Bool) (fun y=>aeI y one) (fun _ ih y=>bik (aeI y one) false (aG2 p low y x ih)) n
theorem axL(p:Nat)(low one x:List Nat)(n:Nat)(y:List Nat):ahO p low one x n y=true→(∀i,i<n→itL p low x i y≠one)∧itL p low x n y=one:=by
 induction n generalizing y with
 |zero=>intro h;exact⟨fun i hi=>by omega,(ahN ..).1 h⟩
 |succ n ih=>
  intro h
  have e:ahO p low one x (n+1) y=bik (aeI y one) false (aG2 p low y x (ahO p low one x n)):=rfl
  rw[e,IK,atm] at h
  by_cases c:aeI y one=true
  ·rw[if_pos c] at h;cases h
  ·rw[if_neg c] at h
   obtain⟨h1,h2⟩:=ih _ h
   refine⟨fun i hi=>?_,h2⟩
   cases i with
   |zero=>intro g;exact c ((ahN ..).2 g)
   |succ i=>exact h1 i (by omega)
def are(p m:Nat):Nat→(List Nat→Bool)→Bool:=
 Nat.rec (motive:=fun _=>Nat→(List Nat→Bool)→Bool) (fun _ k=>k []) (fun _ ih x k=>lit (Nat.mod x p) fun d=>lit (Nat.div x p) fun y=>ih y fun l=>k (d::l)) m
theorem ahP(p m x:Nat)(k:List Nat→Bool):are p m x k=k (bn p m x):=by
 induction m generalizing x k with
 |zero=>rfl
 |succ m ih=>exact(zV (Nat.mod x p) fun d=>lit (Nat.div x p) fun y=>are p m y fun l=>k (d::l)).trans ((zV (Nat.div x p) fun y=>are p m y fun l=>k (x%p::l)).trans (ih _ _))
def aNY(l:List Nat):(List Nat→Bool)→Bool:=
 List.rec (motive:=fun _=>(List Nat→Bool)→Bool) (fun k=>k []) (fun a _ ih k=>ih fun t=>List.rec (motive:=fun _=>Bool) (bik (Nat.beq a 0) (k []) (k [a])) (fun b bs _=>k (a::b::bs)) t) l
theorem aBt(l:List Nat)(k:List Nat→Bool):aNY l k=k (trim l):=by
 induction l generalizing k with
 |nil=>rfl
 |cons a l ih=>
  refine(ih _).trans ?_
  simp only[trim]
  cases trim l with
  |nil=>
   show bik (Nat.beq a 0) (k []) (k [a])=_
   rw[IK]
   by_cases e:a=0
   ·subst e;rfl
   ·rw[if_neg (by intro h;exact e (Nat.eq_of_beq_eq_true h))];simp[e]
  |cons b bs=>rfl
def abV(p:Nat)(low:List Nat)(x:Nat):Bool:=are p low.length x fun l=>aNY l fun t=>lit (p^low.length-2) fun n=>ahO p low (aBr low.length) t n l
def IL(p:Nat)(low:List Nat)(n:Nat):Nat→Bool:=
 Nat.rec (motive:=fun _=>Nat→Bool) (fun _=>false) (fun _ ih x=>bik (abV p low x) true (lit (Nat.succ x) ih)) n
def aPV(p c:Nat)(l:List Nat):List Nat→(List Nat→Bool)→Bool:=
 List.rec (motive:=fun _=>List Nat→(List Nat→Bool)→Bool) (fun r k=>k r) (fun l _ ih r k=>List.rec (motive:=fun _=>Bool) (k []) (fun r rs _=>
  lit (Nat.mod (Nat.add r (Nat.mul (Nat.sub p c) l)) p) fun v=>ih rs fun t=>k (v::t)) r) l
theorem aG3(p c:Nat)(l r:List Nat)(k:List Nat→Bool):aPV p c l r k=k (axK p c r l):=by
 induction l generalizing r k with
 |nil=>cases r<;>rfl
 |cons x l ih=>cases r with
  |nil=>rfl
  |cons y r=>exact(zV (Nat.mod (Nat.add y (Nat.mul (Nat.sub p c) x)) p) fun v=>aPV p c l r fun t=>k (v::t)).trans (ih _ _)
def aPW(p:Nat)(lr:List Nat)(n:Nat):List Nat→List Nat→(List Nat→List Nat→Bool)→Bool:=
 Nat.rec (motive:=fun _=>List Nat→List Nat→(List Nat→List Nat→Bool)→Bool) (fun r qs k=>k qs r) (fun _ ih r qs k=>List.rec (motive:=fun _=>Bool) (k qs []) (fun c rest _=>
  aPV p c lr rest fun r=>ih r (c::qs) k) r) n
theorem aG4(p:Nat)(lr:List Nat)(n:Nat)(r qs:List Nat)(k:List Nat→List Nat→Bool):aPW p lr n r qs k=k (Li p lr n r qs).1 (Li p lr n r qs).2:=by
 induction n generalizing r qs with
 |zero=>rfl
 |succ n ih=>cases r with
  |nil=>rfl
  |cons c rest=>exact(aG3 ..).trans (ih ..)
def axM(l:List Nat):Bool:=List.rec (motive:=fun _=>Bool) true (fun a _ ih=>bik (Nat.beq a 0) ih false) l
theorem atn(l:List Nat):axM l=Bw l:=by
 induction l with
 |nil=>rfl
 |cons a l ih=>
  show bik (Nat.beq a 0) (axM l) false=(Nat.beq a 0&&Bw l)
  rw[ih];cases Nat.beq a 0<;>rfl
def aG5(a:List Nat):List Nat→(List Nat→Bool)→Bool:=List.rec (motive:=fun _=>List Nat→(List Nat→Bool)→Bool) (fun b k=>k b) (fun x _ ih b k=>ih (x::b) k) a
theorem ato(a b:List Nat)(k:List Nat→Bool):aG5 a b k=k (rev a b):=by
 induction a generalizing b with
 |nil=>rfl
 |cons x a ih=>exact ih _
def fvK(p d:Nat)(mod mr:List Nat)(kn:Bool)(ks:List Nat→List Nat→Bool)(n:Nat):Nat→Bool:=
 Nat.rec (motive:=fun _=>Nat→Bool) (fun _=>kn) (fun _ ih v=>are p d v fun l=>aG5 l [] fun lr=>aPW p lr (mod.length+1-d) mr [] fun qs r=>bik (axM r) (ks l qs) (lit (Nat.succ v) ih)) n
theorem aPX(p d:Nat)(mod:List Nat)(kn:Bool)(ks:List Nat→List Nat→Bool)(n v:Nat):fvK p d mod (1::rev mod []) kn ks n v=match BQ p d mod n v with
 |none=>kn
 |some l=>ks l (alr p l mod).1:=by
 induction n generalizing v with
 |zero=>rfl
 |succ n ih=>
  show(are p d v fun l=>aG5 l [] fun lr=>aPW p lr (mod.length+1-d) (1::rev mod []) [] fun qs r=>bik (axM r) (ks l qs) (lit (Nat.succ v) (fvK p d mod (1::rev mod []) kn ks n)))=_
  rw[ahP,ato,aG4,IK,zV,ih,atn]
  simp only[BQ]
  have:alr p (bn p d v) mod=Li p (rev (bn p d v) []) (mod.length+1-d) (1::rev mod []) []:=by unfold alr;rw[eO]
  rw[←this,show Bw (alr p (bn p d v) mod).2=zU p (bn p d v) mod from rfl]
  by_cases c:zU p (bn p d v) mod=true
  ·rw[if_pos c,if_pos c]
  ·rw[if_neg c,if_neg c]
def fdK(p:Nat)(mod mr:List Nat)(kn:Bool)(ks:List Nat→List Nat→Bool)(n:Nat):Nat→Bool:=
 Nat.rec (motive:=fun _=>Nat→Bool) (fun _=>kn) (fun _ ih d=>lit (p^d) fun c=>fvK p d mod mr (lit (Nat.succ d) ih) ks c 0) n
theorem aPY(p:Nat)(mod:List Nat)(kn:Bool)(ks:List Nat→List Nat→Bool)(n d:Nat):fdK p mod (1::rev mod []) kn ks n d=match findD p mod n d with
 |none=>kn
 |some l=>ks l (alr p l mod).1:=by
 induction n generalizing d with
 |zero=>rfl
 |succ n ih=>
  show(lit (p^d) fun c=>fvK p d mod (1::rev mod []) (lit (Nat.succ d) (fdK p mod (1::rev mod []) kn ks n)) ks c 0)=_
  rw[zV,aPX,zV,ih]
  simp only[findD]
  cases BQ p d mod (p^d) 0<;>rfl
def aPZ(m:Nat)(l:List Nat):List Nat:=l++gM (m-l.length)
def arf(l:List Nat):(List Nat→Bool)→Bool:=List.rec (motive:=fun _=>(List Nat→Bool)→Bool) (fun k=>k []) (fun a _ ih k=>lit a fun a=>ih fun r=>k (a::r)) l
theorem axN(l:List Nat)(k:List Nat→Bool):arf l k=k l:=by
 induction l generalizing k with
 |nil=>rfl
 |cons a l ih=>exact(zV a fun a=>arf l fun r=>k (a::r)).trans (ih _)
def zdK(p:Nat)(mod low b:List Nat):Bool:=
 arf (aPZ mod.length (low++[1])) fun a=>
 bik (Nat.beq a.length mod.length) (bik (Nat.ble b.length mod.length) (bik (axM a) false (bik (axM b) false (aG2 p mod a b fun r=>aeI r (gM mod.length)))) false) false
def chk(p m v:Nat):Bool:=are p m v fun mod=>aG5 mod [] fun mr=>fdK p mod (1::mr) (IL p mod (p^m) 1) (zdK p mod) (m/2) 1
def aBu(f:Nat→Bool)(n:Nat):Bool:=Nat.rec (motive:=fun _=>Bool) true (fun n ih=>bik (lit n f) ih false) n
def mi(p m:Nat):Bool:=aBu (chk p m) (p^m)
def aTe(p:Nat):Bool:=bik (Nat.ble 2 p&&isP p (p-2) 2) (IL p [0] p 1) true
end
end Go.Fld
end
section
namespace Go.Fld
set_option maxRecDepth 20000
theorem aXF:mi 2 2=true:=by decide+kernel
theorem aXG:mi 2 3=true:=by decide+kernel
theorem aXH:mi 2 4=true:=by decide+kernel
theorem aXI:mi 2 5=true:=by decide+kernel
theorem aXJ:mi 2 6=true:=by decide+kernel
theorem aXK:mi 2 7=true:=by decide+kernel
theorem aXL:mi 2 8=true:=by decide+kernel
theorem aXM:mi 3 2=true:=by decide+kernel
theorem aXN:mi 3 3=true:=by decide+kernel
theorem aXO:mi 3 4=true:=by decide+kernel
theorem aXP:mi 3 5=true:=by decide+kernel
theorem aXQ:mi 5 2=true:=by decide+kernel
theorem aXR:mi 5 3=true:=by decide+kernel
theorem aXS:mi 7 2=true:=by decide+kernel
theorem aTf:mi 11 2=true:=by decide+kernel
theorem aTg:mi 13 2=true:=by decide+kernel
theorem c1:aBu aTe 257=true:=by decide+kernel
end Go.Fld
end
section
namespace Go.Fld
structure FD where
 p:Nat
 m:Nat
 low:List Nat
 hp:2≤p
 hm:1≤m
 hl:low.length=m
 hs:Small p low
namespace FD
variable(D:FD)
def q:Nat:=D.p^D.m
def dg(x:Nat):List Nat:=bn D.p D.m x
def mul(x y:Nat):Nat:=eH D.p (mulL D.p D.low (D.dg x) (D.dg y))
def add(x y:Nat):Nat:=eH D.p (xo D.p (D.dg x) (D.dg y))
def neg(x:Nat):Nat:=eH D.p (Dm D.p (D.dg x))
def pw(x:Nat):Nat→Nat
 |0=>1
 |n+1=>D.mul (pw x n) x
instance nz:NeZero D.p:=⟨by have:=D.hp;omega⟩
def ph(x:Nat):V D.p:=vec (D.dg x)
theorem pp:0<D.p:=by have:=D.hp;omega
theorem q1:1<D.q:=Nat.one_lt_pow (by have:=D.hm;omega) D.hp
theorem iM(x:Nat):(D.dg x).length=D.m:=eO ..
theorem oe(x:Nat):Small D.p (D.dg x):=nZ D.pp _ _
theorem abW{x:Nat}(h:x<D.q):eH D.p (D.dg x)=x:=aq7 _ _ h
theorem Cz{l:List Nat}(h:l.length=D.m)(hs:Small D.p l):D.dg (eH D.p l)=l:=by unfold dg;rw[←h];exact aq8 l hs
theorem BR{l:List Nat}(h:l.length=D.m)(hs:Small D.p l):eH D.p l<D.q:=by unfold q;rw[←h];exact aq9 l hs
theorem IM(x y:Nat):(mulL D.p D.low (D.dg x) (D.dg y)).length=D.m:=by rw[BP (by rw[iM,D.hl]),D.hl]
theorem QL(x y:Nat):(xo D.p (D.dg x) (D.dg y)).length=D.m:=by rw[alp,iM,iM];omega
theorem QM(x:Nat):(Dm D.p (D.dg x)).length=D.m:=by rw[alq,iM]
theorem CA(x y:Nat):D.mul x y<D.q:=D.BR (D.IM x y) (zT D.pp _ _ _)
theorem IN(x y:Nat):D.add x y<D.q:=D.BR (D.QL x y) (MY D.pp _ _)
theorem aBv(x:Nat):D.neg x<D.q:=D.BR (D.QM x) (MZ D.pp _)
theorem aBw(x y:Nat):D.dg (D.mul x y)=mulL D.p D.low (D.dg x) (D.dg y):=D.Cz (D.IM x y) (zT D.pp _ _ _)
theorem ext{x y:Nat}(hx:x<D.q)(hy:y<D.q)(h:D.ph x=D.ph y):x=y:=by
 rw[←D.abW hx,←D.abW hy,aGX (by rw[iM,iM]) (D.oe x) (D.oe y) h]
theorem IP(x:Nat):Sup D.m (D.ph x):=by rw[←D.iM x];exact atl _
theorem zW(x y:Nat):D.ph (D.mul x y)=Cy D.m (vec D.low) (D.ph x) (D.ph y):=by
 unfold ph
 rw[aBw,aBq _ (by rw[iM,D.hl]),iM,D.hl]
 rfl
theorem CB(x y:Nat):D.ph (D.add x y)=yM (D.ph x) (D.ph y):=by
 unfold ph add
 rw[D.Cz (D.QL x y) (MY D.pp _ _),aBm (by rw[iM,iM])]
theorem aP0(x:Nat):D.ph (D.neg x)=aGV (D.ph x):=by
 unfold ph neg
 rw[D.Cz (D.QM x) (MZ D.pp _),aBn (D.oe x)]
theorem QN:D.dg 0=gM D.m:=by
 unfold dg
 generalize D.m=m
 induction m with
 |zero=>rfl
 |succ m ih=>simp[bn,gM,ih]
theorem arh:D.dg 1=aBr D.m:=by
 unfold dg
 have h1:=D.hm
 have h2:=D.hp
 have h0:=D.QN
 unfold dg at h0
 generalize D.m=m at*
 cases m with
 |zero=>omega
 |succ m=>
  simp only[bn,aBr,gM] at h0 ⊢
  rw[Nat.mod_eq_of_lt (by omega),Nat.div_eq_of_lt (by omega)]
  simp only[Nat.zero_div,List.cons.injEq] at h0
  rw[h0.2]
theorem atp:D.ph 0=fun _=>0:=by unfold ph;rw[QN,Un]
theorem aP1:D.ph 1=e0:=by
 unfold ph
 rw[arh]
 have h1:=D.hm
 generalize D.m=m at*
 cases m with
 |zero=>omega
 |succ m=>
  funext j
  cases j with
  |zero=>
   unfold vec e0
   simp only[aBr,List.getD_cons_zero]
   rfl
  |succ j=>
   have:=congrFun (Un (p:=D.p) m) j
   unfold vec e0 at*
   simp only[aBr,List.getD_cons_succ]
   rw[this];rfl
theorem mul_comm(x y:Nat):D.mul x y=D.mul y x:=D.ext (D.CA ..) (D.CA ..) (by rw[zW,zW];exact Fld.mul_comm _ _ (D.IP x) (D.IP y))
theorem mul_assoc(x y z:Nat):D.mul (D.mul x y) z=D.mul x (D.mul y z):=D.ext (D.CA ..) (D.CA ..) (by
 rw[zW,zW,zW,zW];exact Fld.mul_assoc _ _ (D.IP x) (D.IP y) (D.IP z))
theorem mul_add(x y z:Nat):D.mul x (D.add y z)=D.add (D.mul x y) (D.mul x z):=D.ext (D.CA ..) (D.IN ..) (by
 rw[zW,CB,CB,zW,zW];exact Fld.add_mul _ _ _ _ _)
theorem mul_one{x:Nat}(h:x<D.q):D.mul x 1=x:=D.ext (D.CA ..) h (by rw[zW,aP1];exact Fld.mul_one _ _ D.hm _)
theorem one_mul{x:Nat}(h:x<D.q):D.mul 1 x=x:=by rw[mul_comm,D.mul_one h]
theorem add_comm(x y:Nat):D.add x y=D.add y x:=D.ext (D.IN ..) (D.IN ..) (by rw[CB,CB];funext j;unfold yM;grind)
theorem add_assoc(x y z:Nat):D.add (D.add x y) z=D.add x (D.add y z):=D.ext (D.IN ..) (D.IN ..) (by rw[CB,CB,CB,CB];funext j;unfold yM;grind)
theorem add_zero{x:Nat}(h:x<D.q):D.add x 0=x:=D.ext (D.IN ..) h (by rw[CB,atp];funext j;unfold yM;grind)
theorem add_neg(x:Nat):D.add x (D.neg x)=0:=D.ext (D.IN ..) (by have:=D.q1;omega) (by rw[CB,aP0,atp];funext j;unfold yM aGV;grind)
theorem mul_zero(x:Nat):D.mul x 0=0:=by
 have h0:0<D.q:=by have:=D.q1;omega
 have h1:D.add (D.mul x 0) (D.mul x 0)=D.mul x 0:=by rw[←mul_add,D.add_zero h0]
 have h2:D.add (D.add (D.mul x 0) (D.mul x 0)) (D.neg (D.mul x 0))=D.add (D.mul x 0) (D.neg (D.mul x 0)):=by rw[h1]
 rwa[add_assoc,add_neg,D.add_zero (D.CA ..)] at h2
theorem IQ(x n:Nat):D.pw x n<D.q:=by
 cases n with
 |zero=>exact D.q1
 |succ n=>exact D.CA ..
theorem CD(x a b:Nat):D.pw x (a+b)=D.mul (D.pw x a) (D.pw x b):=by
 induction b with
 |zero=>simp only[pw,Nat.add_zero];rw[D.mul_one (D.IQ x a)]
 |succ b ih=>rw[←Nat.add_assoc];simp only[pw];rw[ih,mul_assoc]
def bh(x:Nat):Prop:=x<D.q∧D.pw x (D.q-1)=1∧∀i,0<i→i<D.q-1→D.pw x i≠1
theorem aP2{x:Nat}(hx:x<D.q)(i k:Nat):itL D.p D.low (D.dg x) i (D.dg (D.pw x k))=D.dg (D.pw x (k+i)):=by
 induction i generalizing k with
 |zero=>rfl
 |succ i ih=>
  simp only[itL]
  rw[←aBw,show D.mul (D.pw x k) x=D.pw x (k+1) from rfl,ih,Nat.add_right_comm,Nat.add_assoc]
theorem ahQ{x:Nat}(h:D.bh x){i j:Nat}(hij:i<j)(hj:j<D.q-1):D.pw x i≠D.pw x j:=by
 intro e
 refine h.2.2 (j-i) (by omega) (by omega) ?_
 have h1:D.mul (D.pw x j) (D.pw x (D.q-1-i))=1:=by rw[←e,←CD,show i+(D.q-1-i)=D.q-1 by omega];exact h.2.1
 rw[←CD,show j+(D.q-1-i)=(j-i)+(D.q-1) by omega,CD,h.2.1,D.mul_one (D.IQ ..)] at h1
 exact h1
theorem vw{x:Nat}(h:D.bh x)(i:Nat):D.pw x i≠0:=by
 intro e
 have hk:∀k,D.pw x (k*(D.q-1))=1:=by
  intro k
  induction k with
  |zero=>simp[pw]
  |succ k ih=>rw[Nat.succ_mul,CD,ih,h.2.1,D.mul_one D.q1]
 have hq:=D.q1
 have hle:i≤(i+1)*(D.q-1):=by
  have h1:i+1≤(i+1)*(D.q-1):=Nat.le_mul_of_pos_right _ (by omega)
  omega
 have h1:D.pw x ((i+1)*(D.q-1))=D.mul (D.pw x i) (D.pw x ((i+1)*(D.q-1)-i)):=by rw[←CD];congr 1;omega
 rw[hk,e,mul_comm,mul_zero] at h1
 cases h1
theorem als:∀(n:Nat) (l:List Nat),l.Nodup→(∀x∈l,x<n)→l.length≤n:=by
 intro n
 induction n with
 |zero=>
  intro l _ h
  cases l with
  |nil=>exact Nat.le_refl _
  |cons x l=>exact absurd (h x (List.mem_cons_self ..)) (Nat.not_lt_zero _)
 |succ n ih=>
  intro l hn h
  by_cases hm:n∈l
  ·have h1:=ih (l.erase n) (hn.erase n) (fun x hx=>by
    obtain⟨h1,h2⟩:=hn.mem_erase_iff.1 hx
    have:=h x h2;omega)
   rw[List.length_erase_of_mem hm] at h1
   omega
  ·have:=ih l hn (fun x hx=>by have h1:=h x hx;have:x≠n:=fun e=>hm (e▸hx);omega)
   omega
theorem aBx{n:Nat}(f:Nat→Nat)(hf:∀i,i<n→f i<n)(hi:∀i j,i<j→j<n→f i≠f j):∀y,y<n→∃i,i<n∧f i=y:=by
 intro y hy
 refine Classical.byContradiction fun hc=>?_
 have hn:((List.range n).map f).Nodup:=by
  unfold List.Nodup
  rw[List.pairwise_map]
  refine List.Pairwise.imp_of_mem (R:=fun i j=>i<j) ?_ List.pairwise_lt_range
  intro i j _ hj hij
  exact hi i j hij (List.mem_range.1 hj)
 have hy2:y∉(List.range n).map f:=by
  intro h
  obtain⟨i,h1,h2⟩:=List.mem_map.1 h
  exact hc ⟨i,List.mem_range.1 h1,h2⟩
 have:=als n (y::(List.range n).map f) (List.nodup_cons.2 ⟨hy2,hn⟩) (fun x hx=>by
  rcases List.mem_cons.1 hx with rfl|hx
  ·exact hy
  ·obtain⟨i,h1,rfl⟩:=List.mem_map.1 hx
   exact hf i (List.mem_range.1 h1))
 simp at this;omega
theorem Dn{x:Nat}(h:D.bh x){y:Nat}(h0:y≠0)(hy:y<D.q):∃i,i<D.q-1∧D.pw x i=y:=by
 have hq:=D.q1
 obtain⟨i,h1,h2⟩:=aBx (n:=D.q-1) (fun i=>D.pw x i-1) (fun i _=>by have:=D.IQ x i;have:=D.vw h i;omega)
  (fun i j hij hj e=>D.ahQ h hij hj (by have:=D.vw h i;have:=D.vw h j;omega)) (y-1) (by omega)
 exact⟨i,h1,by have:=D.vw h i;omega⟩
theorem aBy{x:Nat}(h:D.bh x){a b:Nat}(ha:a<D.q)(hb:b<D.q)(e:D.mul a b=0):a=0∨b=0:=by
 by_cases h1:a=0
 ·exact .inl h1
 ·by_cases h2:b=0
  ·exact .inr h2
  ·obtain⟨i,_,rfl⟩:=D.Dn h h1 ha
   obtain⟨j,_,rfl⟩:=D.Dn h h2 hb
   rw[←CD] at e
   exact absurd e (D.vw h _)
end FD
end Go.Fld
end
section
namespace Go.Fld
theorem aBz(l:List Nat):∃k,l=trim l++gM k:=by
 induction l with
 |nil=>exact⟨0,rfl⟩
 |cons a l ih=>
  obtain⟨k,hk⟩:=ih
  simp only[trim]
  cases ht:trim l with
  |nil=>
   rw[ht,List.nil_append] at hk
   by_cases e:a=0
   ·subst e
    exact⟨k+1,by rw[hk];rfl⟩
   ·exact⟨k,by simp[e,hk]⟩
  |cons b bs=>
   rw[ht] at hk
   exact⟨k,by rw[hk];rfl⟩
theorem axO(p:Nat)(low a:List Nat)(ha:a.length=low.length)(n:Nat)(hn:low.length≤n):kd p 0 0 (gM n) low a=gM low.length:=by
 induction low generalizing a n with
 |nil=>cases n<;>rfl
 |cons l low ih=>
  obtain⟨x,a,rfl⟩:∃x a',a=x::a':=by cases a with|nil=>simp at ha|cons x a=>exact⟨x,a,rfl⟩
  obtain⟨n,rfl⟩:∃k,n=k+1:=⟨n-1,by simp at hn;omega⟩
  simp only[gM,kd,List.length_cons]
  rw[ih a (by simpa using ha) n (by simpa using hn)]
  simp
theorem alu(n:Nat):zS (gM n)=0:=by
 induction n with
 |zero=>rfl
 |succ n ih=>cases n with
  |zero=>rfl
  |succ n=>exact ih
theorem ari(p:Nat)(low a:List Nat)(ha:a.length=low.length)(k:Nat):mulL p low a (gM k)=gM low.length:=by
 induction k with
 |zero=>rfl
 |succ k ih=>
  simp only[gM,mulL,ih,agI,alu]
  exact axO p low a ha (low.length+1) (by omega)
theorem alv(p:Nat)(low a:List Nat)(ha:a.length=low.length)(bs:List Nat)(k:Nat):mulL p low a (bs++gM k)=mulL p low a bs:=by
 induction bs with
 |nil=>exact ari p low a ha k
 |cons b bs ih=>simp only[List.cons_append,mulL,ih]
theorem axP(p:Nat)(low a:List Nat)(ha:a.length=low.length)(bs:List Nat):mulL p low a (trim bs)=mulL p low a bs:=by
 obtain⟨k,hk⟩:=aBz bs
 conv=>rhs;rw[hk]
 rw[alv p low a ha]
theorem aBA(p:Nat)(low x:List Nat)(n:Nat)(y:List Nat)(hy:y.length=low.length):itL p low (trim x) n y=itL p low x n y:=by
 induction n generalizing y with
 |zero=>rfl
 |succ n ih=>simp only[itL];rw[axP p low y hy,ih _ (BP hy _)]
namespace FD
variable(D:FD)
theorem aBB(x:Nat):D.dg x=D.dg (eH D.p (D.dg x)):=(D.Cz (D.iM x) (D.oe x)).symm
theorem aG6{x:Nat}(h:abV D.p D.low x=true):D.bh (eH D.p (D.dg x)):=by
 unfold abV at h
 rw[ahP,aBt,zV,D.hl] at h
 obtain⟨h1,h2⟩:=axL _ _ _ _ _ _ h
 have hd:bn D.p D.m x=D.dg x:=rfl
 have hq:D.p^D.m=D.q:=rfl
 rw[hd,hq] at h1 h2
 have hlt:=D.BR (D.iM x) (D.oe x)
 have EJ:=D.q1
 have it:∀i,itL D.p D.low (trim (D.dg x)) i (D.dg x)=D.dg (D.pw (eH D.p (D.dg x)) (i+1)):=by
  intro i
  rw[aBA _ _ _ _ _ (by rw[iM,D.hl]),D.aBB x]
  have:=D.aP2 hlt i 1
  rw[show D.pw (eH D.p (D.dg x)) 1=eH D.p (D.dg x) from D.one_mul hlt,Nat.add_comm 1 i] at this
  rw[this,←D.aBB x]
 refine⟨hlt,?_,?_⟩
 ·rw[it,←D.arh,show D.q-2+1=D.q-1 by omega] at h2
  have:=congrArg (eH D.p) h2
  rwa[D.abW (D.IQ ..),D.abW EJ] at this
 ·intro i h0 hi e
  have:=h1 (i-1) (by omega)
  rw[it,←D.arh,show i-1+1=i by omega,e] at this
  exact this rfl
theorem agK{n x:Nat}(h:IL D.p D.low n x=true):∃x,D.bh x:=by
 induction n generalizing x with
 |zero=>cases h
 |succ n ih=>
  have e:IL D.p D.low (n+1) x=bik (abV D.p D.low x) true (lit (Nat.succ x) (IL D.p D.low n)):=rfl
  rw[e,IK,zV] at h
  by_cases c:abV D.p D.low x=true
  ·exact⟨_,D.aG6 c⟩
  ·rw[if_neg c] at h;exact ih h
theorem abX{l:List Nat}:Bw l=true↔l=gM l.length:=by
 induction l with
 |nil=>simp[Bw,gM]
 |cons a l ih=>
  simp only[Bw,Bool.and_eq_true,ih,gM,List.length_cons,List.cons.injEq]
  constructor
  ·rintro⟨h1,h2⟩;exact⟨Nat.eq_of_beq_eq_true h1,h2⟩
  ·rintro⟨h1,h2⟩;exact⟨by rw[h1];rfl,h2⟩
theorem aTh{low b:List Nat}(h:zdK D.p D.low low b=true)(JP:Small D.p low)(hb:Small D.p b)(x:Nat):¬D.bh x:=by
 unfold zdK at h
 rw[axN] at h
 simp only[IK,atn] at h
 split at h<;>try contradiction
 rename_i h1
 split at h<;>try contradiction
 rename_i h2
 split at h<;>try contradiction
 rename_i h3
 split at h<;>try contradiction
 rename_i h4
 rw[atm,ahN] at h
 have h1:=Nat.eq_of_beq_eq_true h1
 have h2:=Nat.le_of_ble_eq_true h2
 rw[D.hl] at h h1 h2 h3
 generalize ha:aPZ D.m (low++[1])=a at h h1 h3
 have hsa:Small D.p a:=by
  intro c hc
  rw[←ha] at hc
  unfold aPZ at hc
  rcases List.mem_append.1 hc with hc|hc
  ·rcases List.mem_append.1 hc with hc|hc
   ·exact JP c hc
   ·have:=D.hp;simp at hc;omega
  ·exact IJ D.pp _ c hc
 intro hx
 have nY:(b++gM (D.m-b.length)).length=D.m:=by rw[List.length_append,QK];omega
 have hbs:Small D.p (b++gM (D.m-b.length)):=by
  intro c hc
  rcases List.mem_append.1 hc with hc|hc
  ·exact hb c hc
  ·exact IJ D.pp _ c hc
 have hm:D.mul (eH D.p a) (eH D.p (b++gM (D.m-b.length)))=0:=by
  unfold mul
  rw[D.Cz h1 hsa,D.Cz nY hbs,alv _ _ _ (by rw[h1,D.hl]),h,←D.QN,D.abW (by have:=D.q1;omega)]
 rcases D.aBy hx (D.BR h1 hsa) (D.BR nY hbs) hm with e|e
 ·have:=D.Cz h1 hsa
  rw[e,QN] at this
  apply h3
  rw[abX,h1,this]
 ·have:=D.Cz nY hbs
  rw[e,QN] at this
  apply h4
  rw[abX]
  have h5:b=(gM D.m).take b.length:=by rw[this,List.take_left]
  have h6:∀n k,k≤n→(gM n).take k=gM k:=by
   intro n
   induction n with
   |zero=>intro k hk;obtain rfl:k=0:=by omega
          rfl
   |succ n ih=>
    intro k hk
    cases k with
    |zero=>rfl
    |succ k=>simp[gM,ih k (by omega)]
  rw[h6 _ _ h2] at h5
  exact h5
theorem arj{p:Nat}(hp:0<p)(c:Nat)(r l:List Nat)(hr:Small p r):Small p (axK p c r l):=by
 induction r generalizing l with
 |nil=>cases l with
  |nil=>exact hr
  |cons x l=>intro a h;cases h
 |cons y r ih=>cases l with
  |nil=>exact hr
  |cons x l=>
   intro a h
   rcases List.mem_cons.1 h with rfl|h
   ·exact Nat.mod_lt _ hp
   ·exact ih l (fun b hb=>hr b (List.mem_cons_of_mem _ hb)) a h
theorem ark{p:Nat}(hp:0<p)(lr:List Nat)(n:Nat)(r qs:List Nat)(hr:Small p r)(hq:Small p qs):Small p (Li p lr n r qs).1:=by
 induction n generalizing r qs with
 |zero=>exact hq
 |succ n ih=>cases r with
  |nil=>exact hq
  |cons c rest=>
   refine ih _ _ (arj hp c rest lr fun b hb=>hr b (List.mem_cons_of_mem _ hb)) ?_
   intro a h
   rcases List.mem_cons.1 h with rfl|h
   ·exact hr _ (List.mem_cons_self ..)
   ·exact hq a h
theorem aG7(a b:List Nat)(x:Nat):x∈rev a b↔x∈a∨x∈b:=by
 induction a generalizing b with
 |nil=>simp[rev]
 |cons y a ih=>simp only[rev,ih,List.mem_cons];grind
theorem alw{p d:Nat}(hp:0<p){mod:List Nat}{n v:Nat}{l:List Nat}(h:BQ p d mod n v=some l):Small p l:=by
 induction n generalizing v with
 |zero=>cases h
 |succ n ih=>
  simp only[BQ] at h
  split at h
  ·cases h;exact nZ hp _ _
  ·exact ih h
theorem alx{p d:Nat}(hp:0<p){mod:List Nat}{n:Nat}{l:List Nat}(h:findD p mod n d=some l):Small p l:=by
 induction n generalizing d with
 |zero=>cases h
 |succ n ih=>
  simp only[findD] at h
  split at h
  ·rename_i l' hv;cases h;exact alw hp hv
  ·exact ih h
theorem aG8(h:chk D.p D.m (eH D.p D.low)=true):ard D.p D.low=true↔∃x,D.bh x:=by
 unfold chk at h
 have hd:bn D.p D.m (eH D.p D.low)=D.low:=D.Cz D.hl D.hs
 rw[ahP,ato,aPY,hd] at h
 unfold ard
 rw[D.hl]
 cases hf:findD D.p D.low (D.m/2) 1 with
 |none=>
  rw[hf] at h
  simp only[Option.isNone_none,true_iff]
  exact D.agK h
 |some l=>
  rw[hf] at h
  simp only[Option.isNone_some,Bool.false_eq_true,false_iff,not_exists]
  refine D.aTh h (alx D.pp hf) ?_
  unfold alr
  refine ark D.pp _ _ _ _ ?_ (by intro a h;cases h)
  intro a ha
  rcases List.mem_cons.1 ha with rfl|ha
  ·have:=D.hp;omega
  ·rcases(aG7 ..).1 ha with ha|ha
   ·exact D.hs a ha
   ·cases ha
theorem aly{f:Nat→Bool}{n:Nat}(h:aBu f n=true){i:Nat}(hi:i<n):f i=true:=by
 induction n with
 |zero=>omega
 |succ n ih=>
  have e:aBu f (n+1)=bik (lit n f) (aBu f n) false:=rfl
  rw[e,IK,zV] at h
  by_cases c:f n=true
  ·rw[if_pos c] at h
   by_cases e:i=n
   ·subst e;exact c
   ·exact ih h (by omega)
  ·rw[if_neg c] at h;cases h
def prB(n:Nat):Bool:=Nat.ble 2 n&&isP n (n-2) 2
def aBC:List (Nat×Nat):=[(2,2),(2,3),(2,4),(2,5),(2,6),(2,7),(2,8),(3,2),(3,3),(3,4),(3,5),(5,2),(5,3),(7,2),(11,2),(13,2)]
theorem aP3:∀p<17,∀m<9,prB p=true→2≤m→p^m≤256→mi p m=true:=by
 intro p hp m hm hpr h2 hpm
 have hb:((List.range 17).all fun p=>(List.range 9).all fun m=>!(prB p&&Nat.ble 2 m&&Nat.ble (p^m) 256)||aBC.any fun x=>Nat.beq x.1 p&&Nat.beq x.2 m)=true:=by decide+kernel
 have h1:=List.all_eq_true.1 (List.all_eq_true.1 hb p (List.mem_range.2 hp)) m (List.mem_range.2 hm)
 rw[hpr,Nat.ble_eq_true_of_le h2,Nat.ble_eq_true_of_le hpm] at h1
 simp only[Bool.and_self,Bool.not_true,Bool.false_or] at h1
 obtain⟨⟨a,b⟩,h3,h4⟩:=List.any_eq_true.1 h1
 simp only[Bool.and_eq_true] at h4
 obtain⟨h4,h5⟩:=h4
 have h4:=Nat.eq_of_beq_eq_true h4
 have h5:=Nat.eq_of_beq_eq_true h5
 subst h4 h5
 have apU:=h3
 unfold aBC at apU
 simp only[List.mem_cons,Prod.mk.injEq,List.not_mem_nil,or_false] at apU
 rcases apU with⟨rfl,rfl⟩|⟨rfl,rfl⟩|⟨rfl,rfl⟩|⟨rfl,rfl⟩|⟨rfl,rfl⟩|⟨rfl,rfl⟩|⟨rfl,rfl⟩|⟨rfl,rfl⟩|⟨rfl,rfl⟩|⟨rfl,rfl⟩|⟨rfl,rfl⟩|⟨rfl,rfl⟩|⟨rfl,rfl⟩|⟨rfl,rfl⟩|⟨rfl,rfl⟩|⟨rfl,rfl⟩
 ·exact aXF
 ·exact aXG
 ·exact aXH
 ·exact aXI
 ·exact aXJ
 ·exact aXK
 ·exact aXL
 ·exact aXM
 ·exact aXN
 ·exact aXO
 ·exact aXP
 ·exact aXQ
 ·exact aXR
 ·exact aXS
 ·exact aTf
 ·exact aTg
theorem atr(hm:2≤D.m)(hq:D.q≤256)(hp:prB D.p=true):ard D.p D.low=true↔∃x,D.bh x:=by
 refine D.aG8 ?_
 have h2:=D.hp
 have GN:D.p<17:=by
  refine Classical.byContradiction fun hc=>?_
  have h1:17^2≤D.p^2:=Nat.pow_le_pow_left (by omega) 2
  have h3:D.p^2≤D.p^D.m:=Nat.pow_le_pow_right (by omega) hm
  unfold q at hq
  omega
 have h9:D.m<9:=by
  refine Classical.byContradiction fun hc=>?_
  have h1:2^9≤D.p^9:=Nat.pow_le_pow_left h2 9
  have h3:D.p^9≤D.p^D.m:=Nat.pow_le_pow_right (by omega) (by omega)
  unfold q at hq
  omega
 exact aly (aP3 D.p GN D.m h9 hp hm hq) (D.BR D.hl D.hs)
theorem arl(hm:D.m=1)(JP:D.low=[0])(hq:D.p≤256)(hp:prB D.p=true):∃x,D.bh x:=by
 have:=aly c1 (show D.p<257 by omega)
 unfold aTe at this
 rw[show(Nat.ble 2 D.p&&isP D.p (D.p-2) 2)=prB D.p from rfl,IK,if_pos hp,←JP] at this
 exact D.agK this
end FD
end Go.Fld
end
section
namespace Go.Fld
structure Fld(α:Type) where
 zero:α
 one:α
 add:α→α→α
 mul:α→α→α
 neg:α→α
 inv:α→α
 dec:DecidableEq α
 add_comm:∀a b,add a b=add b a
 add_assoc:∀a b c,add (add a b) c=add a (add b c)
 add_zero:∀a,add a zero=a
 add_neg:∀a,add a (neg a)=zero
 mul_comm:∀a b,mul a b=mul b a
 mul_assoc:∀a b c,mul (mul a b) c=mul a (mul b c)
 mul_one:∀a,mul a one=a
 mul_add:∀a b c,mul a (add b c)=add (mul a b) (mul a c)
 BS:∀a,a≠zero→mul a (inv a)=one
 asL:one≠zero
namespace FD
variable(D:FD)
def fi(x:Nat):Nat→Nat→Nat
 |0,_=>0
 |n+1,y=>if D.mul x y=1 then y else fi x n (y+1)
def inv(x:Nat):Nat:=D.fi x (D.q-1) 1
theorem ats(x:Nat):∀n y,(∃z,y≤z∧z<y+n∧D.mul x z=1)→D.mul x (D.fi x n y)=1∧y≤D.fi x n y∧D.fi x n y<y+n:=by
 intro n
 induction n with
 |zero=>rintro y ⟨z,h1,h2,_⟩;omega
 |succ n ih=>
  rintro y ⟨z,h1,h2,h3⟩
  unfold fi
  by_cases e:D.mul x y=1
  ·rw[if_pos e];exact⟨e,by omega,by omega⟩
  ·rw[if_neg e]
   have hz:z≠y:=fun h=>e (h▸h3)
   obtain⟨a,b,c⟩:=ih (y+1) ⟨z,by omega,by omega,h3⟩
   exact⟨a,by omega,by omega⟩
theorem aG9(x:Nat):∀n y,(∀z,y≤z→z<y+n→D.mul x z≠1)→D.fi x n y=0:=by
 intro n
 induction n with
 |zero=>intro y _;rfl
 |succ n ih=>
  intro y h
  unfold fi
  rw[if_neg (h y (by omega) (by omega))]
  exact ih _ fun z h1 h2=>h z (by omega) (by omega)
theorem arn(x:Nat):D.inv x<D.q:=by
 have hq:=D.q1
 by_cases h:∃z,1≤z∧z<1+(D.q-1)∧D.mul x z=1
 ·have:=(D.ats x _ _ h).2.2
  unfold inv;omega
 ·unfold inv
  rw[D.aG9 x _ _ fun z h1 h2 h3=>h ⟨z,h1,h2,h3⟩];omega
variable{D}
theorem alz{g:Nat}(hg:D.bh g){i:Nat}(hi:i<D.q-1):D.mul (D.pw g i) (D.pw g ((D.q-1-i)%(D.q-1)))=1:=by
 have h1:=hg.2.1
 by_cases h:i=0
 ·subst h
  rw[Nat.sub_zero,Nat.mod_self]
  exact D.mul_one D.q1
 ·rw[Nat.mod_eq_of_lt (by omega),←CD,show i+(D.q-1-i)=D.q-1 by omega,h1]
theorem BS{g:Nat}(hg:D.bh g){x:Nat}(h0:x≠0)(hx:x<D.q):D.mul x (D.inv x)=1:=by
 obtain⟨i,hi,rfl⟩:=D.Dn hg h0 hx
 refine(D.ats _ _ _ ⟨D.pw g ((D.q-1-i)%(D.q-1)),?_,?_,alz hg hi⟩).1
 ·have:=D.vw hg ((D.q-1-i)%(D.q-1));omega
 ·have:=D.IQ g ((D.q-1-i)%(D.q-1));omega
theorem aro{g:Nat}(hg:D.bh g){x y:Nat}(hx:x<D.q)(hy:y<D.q)(h:D.mul x y=1):D.inv x=y:=by
 have h0:x≠0:=by
  rintro rfl
  rw[D.mul_comm,D.mul_zero] at h;cases h
 have h1:=BS hg h0 hx
 have:D.mul (D.mul x y) (D.inv x)=D.mul (D.mul x (D.inv x)) y:=by rw[D.mul_assoc,D.mul_comm y,←D.mul_assoc]
 rw[h,h1,D.one_mul (D.arn x),D.one_mul hy] at this
 exact this
def aR{g:Nat}(hg:D.bh g):Fld (Fin D.q) where
 zero:=⟨0,by have:=D.q1;omega⟩
 one:=⟨1,D.q1⟩
 add a b:=⟨D.add a.1 b.1,D.IN ..⟩
 mul a b:=⟨D.mul a.1 b.1,D.CA ..⟩
 neg a:=⟨D.neg a.1,D.aBv ..⟩
 inv a:=⟨D.inv a.1,D.arn ..⟩
 dec:=inferInstance
 add_comm a b:=Fin.ext (D.add_comm ..)
 add_assoc a b c:=Fin.ext (D.add_assoc ..)
 add_zero a:=Fin.ext (D.add_zero a.2)
 add_neg a:=Fin.ext (D.add_neg ..)
 mul_comm a b:=Fin.ext (D.mul_comm ..)
 mul_assoc a b c:=Fin.ext (D.mul_assoc ..)
 mul_one a:=Fin.ext (D.mul_one a.2)
 mul_add a b c:=Fin.ext (D.mul_add ..)
 BS a h:=Fin.ext (BS hg (fun e=>h (Fin.ext e)) a.2)
 asL e:=by have:=congrArg Fin.val e;cases this
end FD
namespace Fld
variable{α:Type}(F:Fld α)
theorem zero_add(a:α):F.add F.zero a=a:=by rw[F.add_comm,F.add_zero]
theorem one_mul(a:α):F.mul F.one a=a:=by rw[F.mul_comm,F.mul_one]
theorem neg_add(a:α):F.add (F.neg a) a=F.zero:=by rw[F.add_comm,F.add_neg]
theorem add_left_cancel{a b c:α}(h:F.add a b=F.add a c):b=c:=by
 have:=congrArg (F.add (F.neg a)) h
 rwa[←F.add_assoc,←F.add_assoc,F.neg_add,F.zero_add,F.zero_add] at this
theorem mul_zero(a:α):F.mul a F.zero=F.zero:=by
 apply F.add_left_cancel (a:=F.mul a F.zero)
 rw[←F.mul_add,F.add_zero,F.add_zero]
theorem zero_mul(a:α):F.mul F.zero a=F.zero:=by rw[F.mul_comm,F.mul_zero]
theorem add_mul(a b c:α):F.mul (F.add a b) c=F.add (F.mul a c) (F.mul b c):=by rw[F.mul_comm,F.mul_add,F.mul_comm c a,F.mul_comm c b]
theorem abY{a b:α}(h:F.add a b=F.zero):b=F.neg a:=F.add_left_cancel (h.trans (F.add_neg a).symm)
theorem neg_mul(a b:α):F.mul (F.neg a) b=F.neg (F.mul a b):=F.abY (by rw[←F.add_mul,F.add_neg,F.zero_mul])
theorem neg_zero:F.neg F.zero=F.zero:=(F.abY (F.add_zero _)).symm
theorem aP4{a b:α}(ha:a≠F.zero)(hb:b≠F.zero):F.mul a b≠F.zero:=by
 intro h
 have h1:F.mul (F.mul a b) (F.inv a)=F.mul b (F.mul a (F.inv a)):=by rw[F.mul_comm a b,F.mul_assoc]
 rw[h,F.zero_mul,F.BS a ha,F.mul_one] at h1
 exact hb h1.symm
theorem inv_mul{a:α}(ha:a≠F.zero):F.mul (F.inv a) a=F.one:=by rw[F.mul_comm,F.BS a ha]
theorem inv_one:F.inv F.one=F.one:=by
 have:=F.BS F.one F.asL
 rwa[F.one_mul] at this
end Fld
end Go.Fld
end
section
namespace Go.Fld
section
variable{p:Nat}[NeZero p]
theorem aav(n:Nat)(a:Nat→Fin p)(f:Nat→V p):lc (n+1) a f=yM (lc n a f) (fun j=>a n*f n j):=rfl
theorem aBD{n k v:Nat}{c:List Nat}{d:Fin p}(f:Nat→V p)(hk:k<n)(hc:k<c.length)(hv:Fin.ofNat p v=Fin.ofNat p c[k]+d):
 lc n (vec (c.set k v)) f=yM (lc n (vec c) f) (fun j=>d*f k j):=by
 funext j
 unfold lc yM
 have e:∀i,i<n→vec (c.set k v) i*f i j=vec c i*f i j+(if i=k then d*f k j else 0):=by
  intro i _
  unfold vec
  by_cases h:i=k
  ·subst h
   rw[if_pos rfl,List.getD_eq_getElem?_getD,List.getElem?_set_self hc,mW _ hc,Option.getD_some,hv]
   grind
  ·rw[if_neg h,List.getD_eq_getElem?_getD,List.getElem?_set_ne (fun e=>h e.symm),←List.getD_eq_getElem?_getD]
   grind
 rw[fK e,aq5]
 congr 1
 rw[aq6 (k:=k) hk (fun i _ lZ=>by rw[if_neg lZ]),if_pos rfl]
variable(m:Nat)(low:V p)
def evp(n:Nat)(c:List Nat):V p:=lc n (vec c) (fun k=>tp m low k e0)
theorem aXT(hm:0<m):tp m low m e0=lc m (fun j=> -low j) (fun j=>tp m low j e0):=by
 have h1:tp m low m e0=T m low (tp m low (m-1) e0):=by
  conv=>lhs;rw[show m=1+(m-1) by omega,abR]
  rw[show 1+(m-1)=m by omega];rfl
 rw[h1,atk m low (m-1) (by omega)]
 have hs:Sup m (fun j=>if j<m then-low j else 0):=fun j hj=>by dsimp only;rw[if_neg (by omega)]
 have h2:=aBl m low hs
 have h3:lc m (fun j=>if j<m then-low j else 0) (fun i=>tp m low i e0)=lc m (fun j=> -low j) (fun j=>tp m low j e0):=by
  funext k
  unfold lc
  exact fK fun i hi=>by dsimp only;rw[if_pos hi]
 rw[←h3,h2]
 funext j
 unfold T
 dsimp only
 by_cases hj:j<m
 ·rw[if_pos hj,if_pos hj,if_pos rfl]
  by_cases h0:j=0
  ·rw[if_pos h0];grind
  ·rw[if_neg h0,if_neg (by omega)];grind
 ·rw[if_neg hj,if_neg hj]
theorem aTi(hm:0<m){i:Nat}(hi:m≤i)(a:Fin p):(fun j=>a*tp m low i e0 j)=lc m (fun j=> -(a*low j)) (fun j=>tp m low (i-m+j) e0):=by
 have h1:tp m low i e0=lc m (fun j=> -low j) (fun j=>tp m low (i-m+j) e0):=by
  conv=>lhs;rw[show i=(i-m)+m by omega,abR,aXT m low hm,aBk]
  congr 1
  funext j
  rw[abR]
 rw[h1]
 funext k
 unfold lc
 rw[←abQ]
 exact fK fun j _=>by grind
theorem aBE{c:List Nat}(hc:m≤c.length):evp m low m c=vec (c.take m):=by
 have hs:Sup m (vec (p:=p) (c.take m)):=by
  have:=atl (p:=p) (c.take m)
  rwa[List.length_take,Nat.min_eq_left hc] at this
 have:=aBl m low hs
 rw[←this]
 funext k
 unfold evp lc
 refine fK fun i hi=>?_
 congr 1
 unfold vec
 rw[mW _ (show i<c.length by omega),mW _ (show i<(c.take m).length by simp;omega)]
 simp
end
namespace FD
variable(D:FD)
theorem arp{x y:Nat}{c:List Nat}(hc:D.m≤c.length)(hs:Small D.p c)
 (h:evp D.m (vec D.low) D.m c=lc D.m (D.ph x) (fun i=>lc D.m (D.ph y) (fun j=>tp D.m (vec D.low) (i+j) e0))):eH D.p (c.take D.m)=D.mul x y:=by
 have hl:(c.take D.m).length=D.m:=by simp;omega
 have hss:Small D.p (c.take D.m):=fun a ha=>hs a (List.mem_of_mem_take ha)
 refine D.ext (D.BR hl hss) (D.CA x y) ?_
 rw[zW,_root_.Go.Fld.mul_comm _ _ (D.IP x) (D.IP y),ahM _ _ (D.IP y)]
 have h1:D.ph (eH D.p (c.take D.m))=vec (c.take D.m):=by unfold ph;rw[D.Cz hl hss]
 rw[h1,←aBE _ (vec D.low) hc,h]
 congr 1
 funext i
 congr 1
 funext j
 rw[Nat.add_comm]
end FD
end Go.Fld
end
section
namespace Go.Fld.Fld
variable{α:Type}(F:Fld α)
def cy(v:List α)(a:α)(u:List α):List α:=List.zipWith (fun x y=>F.add x (F.mul a y)) v u
def yN(a:α)(v:List α):List α:=v.map (F.mul a)
theorem cg(v:List α)(a:α)(u:List α)(h:v.length=u.length):(F.cy v a u).length=v.length:=by
 unfold cy;rw[List.length_zipWith];omega
theorem ig(a:α)(v:List α):(F.yN a v).length=v.length:=by simp[yN]
theorem J4(v u:List α)(h:v.length=u.length):F.cy v F.zero u=v:=by
 induction v generalizing u with
 |nil=>rfl
 |cons x v ih=>cases u with
  |nil=>cases h
  |cons y u=>
   show F.add x (F.mul F.zero y)::F.cy v F.zero u=x::v
   rw[F.zero_mul,F.add_zero,ih u (by simpa using h)]
theorem att(v:List α):F.yN F.one v=v:=by
 unfold yN
 conv=>rhs;rw[←List.map_id v]
 exact List.map_congr_left fun x _=>F.one_mul x
def YL(rows:List (List α))(k c:Nat):α:=(rows.getD k []).getD c F.zero
def pick(rows:List (List α))(c:Nat):Nat→Nat→Option Nat
 |0,_=>none
 |n+1,k=>match F.dec (F.YL rows k c) F.zero with
  |isTrue _=>pick rows c n (k+1)
  |isFalse _=>some k
def IS(rows:List (List α))(i k:Nat):List (List α):=(rows.set i (rows.getD k [])).set k (rows.getD i [])
def clr(rows:List (List α))(i c:Nat):List (List α):=rows.mapIdx fun j r=>if j=i then r else F.cy r (F.neg (r.getD c F.zero)) (rows.getD i [])
def norm(rows:List (List α))(i c:Nat):List (List α):=rows.set i (F.yN (F.inv (F.YL rows i c)) (rows.getD i []))
def gi(rows:List (List α))(i k c:Nat):List (List α):=F.clr (F.norm (IS rows i k) i c) i c
def vx:Nat→Nat→List (List α)→List Nat→List (List α)×List Nat
 |0,_,rows,ps=>(rows,ps)
 |n+1,c,rows,ps=>match F.pick rows c (rows.length-ps.length) ps.length with
  |none=>vx n (c+1) rows ps
  |some k=>vx n (c+1) (F.gi rows ps.length k c) (ps++[c])
def dU(rows:List (List α))(cols:Nat):List (List α)×List Nat:=((F.vx cols 0 rows []).1.take (F.vx cols 0 rows []).2.length,(F.vx cols 0 rows []).2)
theorem Dp{rows:List (List α)}{c n k j:Nat}(h:F.pick rows c n k=some j):k≤j∧j<k+n∧F.YL rows j c≠F.zero∧∀i,k≤i→i<j→F.YL rows i c=F.zero:=by
 induction n generalizing k with
 |zero=>cases h
 |succ n ih=>
  unfold pick at h
  split at h
  ·rename_i hz _
   obtain⟨a,b,c',d⟩:=ih h
   refine⟨by omega,by omega,c',fun i h1 h2=>?_⟩
   by_cases e:i=k
   ·subst e;exact hz
   ·exact d i (by omega) h2
  ·rename_i hz _
   cases h
   exact⟨Nat.le_refl _,by omega,hz,fun i h1 h2=>by omega⟩
theorem axQ{rows:List (List α)}{c n k:Nat}(h:F.pick rows c n k=none):∀i,k≤i→i<k+n→F.YL rows i c=F.zero:=by
 induction n generalizing k with
 |zero=>intro i h1 h2;omega
 |succ n ih=>
  unfold pick at h
  split at h
  ·rename_i hz _
   intro i h1 h2
   by_cases e:i=k
   ·subst e;exact hz
   ·exact ih h i (by omega) (by omega)
  ·cases h
theorem oW(rows:List (List α))(i k:Nat):(IS rows i k).length=rows.length:=by simp[IS]
theorem BT(rows:List (List α))(i c:Nat):(F.norm rows i c).length=rows.length:=by simp[norm]
theorem ab0(rows:List (List α))(i c:Nat):(F.clr rows i c).length=rows.length:=by simp[clr]
theorem jw(rows:List (List α))(i k c:Nat):(F.gi rows i k c).length=rows.length:=by simp[gi,ab0,BT,oW]
theorem EY(n c:Nat)(rows:List (List α))(ps:List Nat):(F.vx n c rows ps).1.length=rows.length:=by
 induction n generalizing c rows ps with
 |zero=>rfl
 |succ n ih=>
  unfold vx
  split
  ·exact ih ..
  ·rw[ih,jw]
theorem ab1(n c:Nat)(rows:List (List α))(ps:List Nat)(h:rows.length≤ps.length):F.vx n c rows ps=(rows,ps):=by
 induction n generalizing c with
 |zero=>rfl
 |succ n ih=>
  unfold vx
  rw[Nat.sub_eq_zero_of_le h]
  simp only[pick]
  exact ih _
def jI(w:Nat)(rows:List (List α)):Prop:=∀r∈rows,r.length=w
theorem jI.getD{w:Nat}{rows:List (List α)}(h:jI w rows){k:Nat}(hk:k<rows.length):(rows.getD k []).length=w:=by
 rw[List.getD_eq_getElem?_getD,List.getElem?_eq_getElem hk];exact h _ (List.getElem_mem hk)
theorem jI.set{w:Nat}{rows:List (List α)}(h:jI w rows)(i:Nat){r:List α}(hr:r.length=w):jI w (rows.set i r):=by
 intro x hx
 rcases List.mem_or_eq_of_mem_set hx with h1|h1
 ·exact h x h1
 ·rw[h1];exact hr
theorem jI.IS{w:Nat}{rows:List (List α)}(h:jI w rows){i k:Nat}(hi:i<rows.length)(hk:k<rows.length):jI w (IS rows i k):=(h.set i (h.getD hk)).set k (h.getD hi)
theorem jI.norm{w:Nat}{rows:List (List α)}(h:jI w rows){i:Nat}(c:Nat)(hi:i<rows.length):jI w (F.norm rows i c):=h.set i (by rw[ig];exact h.getD hi)
theorem jI.clr{w:Nat}{rows:List (List α)}(h:jI w rows){i:Nat}(c:Nat)(hi:i<rows.length):jI w (F.clr rows i c):=by
 intro x hx
 obtain⟨j,hj,rfl⟩:=List.mem_mapIdx.1 hx
 have h1:=h _ (List.getElem_mem hj)
 split
 ·exact h1
 ·rw[F.cg _ _ _ (by rw[h1,h.getD hi]),h1]
theorem jI.step{w:Nat}{rows:List (List α)}(h:jI w rows){i k:Nat}(c:Nat)(hi:i<rows.length)(hk:k<rows.length):jI w (F.gi rows i k c):=by
 have h1:=h.IS hi hk
 have h2:jI w (F.norm (Fld.IS rows i k) i c):=jI.norm F h1 c (by rw[oW];exact hi)
 exact jI.clr F h2 c (by rw[BT,oW];exact hi)
end Go.Fld.Fld
end
section
namespace Go.Fld.Fld
variable{α:Type}(F:Fld α)
theorem QO{w:Nat}{v u:List α}(a:α)(hv:v.length=w)(hu:u.length=w):(F.cy v a u).length=w:=by rw[F.cg _ _ _ (by omega),hv]
theorem aBF{v u:List α}{a:α}(i:Nat)(h:i<(F.cy v a u).length):(F.cy v a u)[i]=F.add (v[i]'(by unfold cy at h;rw[List.length_zipWith] at h;omega)) (F.mul a (u[i]'(by unfold cy at h;rw[List.length_zipWith] at h;omega))):=by
 simp[cy]
theorem cC{v u:List α}(a:α)(h:v.length=u.length)(c:Nat):(F.cy v a u).getD c F.zero=F.add (v.getD c F.zero) (F.mul a (u.getD c F.zero)):=by
 have hl:=F.cg v a u h
 by_cases hc:c<v.length
 ·rw[List.getD_eq_getElem?_getD,List.getD_eq_getElem?_getD,List.getD_eq_getElem?_getD,List.getElem?_eq_getElem (by omega),List.getElem?_eq_getElem hc,List.getElem?_eq_getElem (by omega)]
  simp only[Option.getD_some]
  exact F.aBF c (by omega)
 ·rw[List.getD_eq_getElem?_getD,List.getD_eq_getElem?_getD,List.getD_eq_getElem?_getD,List.getElem?_eq_none (by omega),List.getElem?_eq_none (by omega),List.getElem?_eq_none (by omega)]
  simp only[Option.getD_none]
  rw[F.mul_zero,F.add_zero]
theorem ab2(a:α)(v:List α)(c:Nat):(F.yN a v).getD c F.zero=F.mul a (v.getD c F.zero):=by
 unfold yN
 rw[List.getD_eq_getElem?_getD,List.getD_eq_getElem?_getD,List.getElem?_map]
 cases v[c]? with
 |none=>simp[F.mul_zero]
 |some x=>rfl
theorem oD{v v':List α}(hl:v.length=v'.length)(h:∀c,v.getD c F.zero=v'.getD c F.zero):v=v':=by
 apply List.ext_getElem hl
 intro i h1 h2
 have:=h i
 rw[List.getD_eq_getElem?_getD,List.getD_eq_getElem?_getD,List.getElem?_eq_getElem h1,List.getElem?_eq_getElem h2] at this
 exact this
theorem qK(w c:Nat):(List.replicate w F.zero).getD c F.zero=F.zero:=by
 rw[List.getD_eq_getElem?_getD,List.getElem?_replicate]
 split<;>rfl
inductive Sp (w:Nat) (rows:List (List α)):List α→Prop
 |zero:Sp w rows (List.replicate w F.zero)
 |add {v r:List α} (a:α):Sp w rows v→r∈rows→Sp w rows (F.cy v a r)
variable{w:Nat}{rows EF:List (List α)}
theorem Sp.len(hw:jI w rows){v:List α}(h:F.Sp w rows v):v.length=w:=by
 induction h with
 |zero=>simp
 |add a _ hr ih=>rw[F.cg _ _ _ (by rw[ih,hw _ hr]),ih]
theorem Sp.cy(hw:jI w rows){u v:List α}(a:α)(hu:F.Sp w rows u)(hv:F.Sp w rows v):F.Sp w rows (F.cy u a v):=by
 have hul:=Sp.len F hw hu
 induction hv with
 |zero=>
  have:F.cy u a (List.replicate w F.zero)=u:=F.oD (F.cg _ _ _ (by simp[hul])) fun c=>by
   rw[F.cC _ (by simp[hul]),F.qK,F.mul_zero,F.add_zero]
  rw[this];exact hu
 |@add v r b hv hr ih=>
  have hvl:=Sp.len F hw hv
  have hrl:=hw _ hr
  have:F.cy u a (F.cy v b r)=F.cy (F.cy u a v) (F.mul a b) r:=by
   have l1:(F.cy v b r).length=w:=by rw[F.cg _ _ _ (by omega),hvl]
   have l2:(F.cy u a v).length=w:=by rw[F.cg _ _ _ (by omega),hul]
   refine F.oD (by rw[F.cg _ _ _ (by omega),F.cg _ _ _ (by omega)];omega) fun c=>?_
   rw[F.cC _ (by omega),F.cC _ (by omega),F.cC _ (by omega),F.cC _ (by omega),F.mul_add,←F.mul_assoc,F.add_assoc]
  rw[this]
  exact ih.add _ hr
theorem Sp.mem(hw:jI w rows){r:List α}(hr:r∈rows):F.Sp w rows r:=by
 have hl:=hw _ hr
 have:F.cy (List.replicate w F.zero) F.one r=r:=by
  refine F.oD (by rw[F.cg _ _ _ (by simp[hl])];simp[hl]) fun c=>?_
  rw[F.cC _ (by simp[hl]),F.qK,F.zero_add,F.one_mul]
 rw[←this]
 exact Sp.zero.add _ hr
theorem Sp.mono(hw':jI w EF)(h:∀r∈rows,F.Sp w EF r){v:List α}(hv:F.Sp w rows v):F.Sp w EF v:=by
 induction hv with
 |zero=>exact .zero
 |add a _ hr ih=>exact Sp.cy F hw' a ih (h _ hr)
theorem Sp.at0(hw:jI w rows){c:Nat}(h:∀r∈rows,r.getD c F.zero=F.zero){v:List α}(hv:F.Sp w rows v):v.getD c F.zero=F.zero:=by
 induction hv with
 |zero=>exact F.qK ..
 |add a h1 hr ih=>rw[F.cC _ (by rw[Sp.len F hw h1,hw _ hr]),ih,h _ hr,F.mul_zero,F.add_zero]
theorem Sp.split(hw:jI w rows){p v:List α}(hp:p.length=w)(hv:F.Sp w (p::rows) v):∃u a,F.Sp w rows u∧v=F.cy u a p:=by
 induction hv with
 |zero=>
  refine⟨_,F.zero,.zero,?_⟩
  rw[F.J4 _ _ (by simp[hp])]
 |@add v r b hv hr ih=>
  obtain⟨u,a,h1,rfl⟩:=ih
  have hul:=Sp.len F hw h1
  rcases List.mem_cons.1 hr with rfl|hr
  ·refine⟨u,F.add a b,h1,?_⟩
   have l1:(F.cy u a r).length=w:=by rw[F.cg _ _ _ (by omega),hul]
   refine F.oD ((F.QO _ l1 hp).trans (F.QO _ hul hp).symm) fun c=>?_
   rw[F.cC _ (by omega),F.cC _ (by omega),F.cC _ (by omega),F.add_mul,F.add_assoc]
  ·have hrl:=hw _ hr
   refine⟨F.cy u b r,a,h1.add _ hr,?_⟩
   have l1:(F.cy u a p).length=w:=by rw[F.cg _ _ _ (by omega),hul]
   have l2:(F.cy u b r).length=w:=by rw[F.cg _ _ _ (by omega),hul]
   refine F.oD ((F.QO _ l1 hrl).trans (F.QO _ l2 hp).symm) fun c=>?_
   rw[F.cC _ (by omega),F.cC _ (by omega),F.cC _ (by omega),F.cC _ (by omega),F.add_assoc,F.add_assoc,F.add_comm (F.mul a _)]
theorem Sp.elim(hw:jI w rows)(hw':jI w EF){p:List α}{c:Nat}(hp:F.Sp w rows p)(hc:p.getD c F.zero≠F.zero)(h1:∀r∈EF,F.Sp w rows r∧r.getD c F.zero=F.zero)(h2:∀r∈rows,F.Sp w (p::EF) r)(v:List α):
 F.Sp w EF v↔F.Sp w rows v∧v.getD c F.zero=F.zero:=by
 have Ql:=Sp.len F hw hp
 have hwp:jI w (p::EF):=fun r hr=>by
  rcases List.mem_cons.1 hr with rfl|hr
  ·exact Ql
  ·exact hw' r hr
 constructor
 ·intro h
  exact⟨Sp.mono F hw (fun r hr=>(h1 r hr).1) h,Sp.at0 F hw' (fun r hr=>(h1 r hr).2) h⟩
 ·rintro⟨h,h0⟩
  obtain⟨u,a,g1,rfl⟩:=Sp.split F hw' Ql (Sp.mono F hwp h2 h)
  have hul:=Sp.len F hw' g1
  rw[F.cC _ (by omega),Sp.at0 F hw' (fun r hr=>(h1 r hr).2) g1,F.zero_add] at h0
  have ha:a=F.zero:=by
   cases F.dec a F.zero with
   |isTrue e=>exact e
   |isFalse e=>exact absurd h0 (F.aP4 e hc)
  rw[ha,F.J4 _ _ (by omega)]
  exact g1
def nz(x:α):Bool:=match F.dec x F.zero with
 |isTrue _=>false
 |isFalse _=>true
theorem Uo(x:α):F.nz x=true↔x≠F.zero:=by
 unfold nz
 cases F.dec x F.zero with
 |isTrue e=>simp[e]
 |isFalse e=>simp[e]
def wo(rows:List (List α))(i:Nat):List (List α):=
 if h:rows.findIdx (fun r=>F.nz (r.getD i F.zero))<rows.length then
  (rows.eraseIdx (rows.findIdx (fun r=>F.nz (r.getD i F.zero)))).map fun r=>F.cy r (F.neg (F.mul (r.getD i F.zero) (F.inv ((rows[rows.findIdx (fun r=>F.nz (r.getD i F.zero))]).getD i F.zero)))) rows[rows.findIdx (fun r=>F.nz (r.getD i F.zero))]
 else rows
theorem atu{i:Nat}(h:∀r∈rows,r.getD i F.zero=F.zero):F.wo rows i=rows:=by
 unfold wo
 rw[dif_neg]
 intro hlt
 exact(F.Uo _).1 (List.findIdx_getElem (w:=hlt)) (h _ (List.getElem_mem _))
theorem atv{i:Nat}{r0:List α}(h0:r0∈rows)(h1:r0.getD i F.zero≠F.zero):∃(k:Nat) (hk:k<rows.length),(rows[k]).getD i F.zero≠F.zero∧
 F.wo rows i=(rows.eraseIdx k).map fun r=>F.cy r (F.neg (F.mul (r.getD i F.zero) (F.inv ((rows[k]).getD i F.zero)))) rows[k]:=by
 have hlt:rows.findIdx (fun r=>F.nz (r.getD i F.zero))<rows.length:=List.findIdx_lt_length_of_exists ⟨r0,h0,(F.Uo _).2 h1⟩
 refine⟨_,hlt,(F.Uo _).1 (List.findIdx_getElem (w:=hlt)),?_⟩
 unfold wo
 rw[dif_pos hlt]
theorem arq(hw:jI w rows)(i:Nat):jI w (F.wo rows i):=by
 unfold wo
 split
 ·intro r hr
  obtain⟨r',hr',rfl⟩:=List.mem_map.1 hr
  have:=hw _ (List.mem_of_mem_eraseIdx hr')
  rw[F.cg _ _ _ (by rw[this,hw _ (List.getElem_mem _)]),this]
 ·exact hw
theorem aTk(hw:jI w rows)(i:Nat)(v:List α):F.Sp w (F.wo rows i) v↔F.Sp w rows v∧v.getD i F.zero=F.zero:=by
 by_cases h:∀r∈rows,r.getD i F.zero=F.zero
 ·rw[F.atu h]
  exact⟨fun hv=>⟨hv,Sp.at0 F hw h hv⟩,fun hv=>hv.1⟩
 ·obtain⟨r0,hr0⟩:=Classical.not_forall.1 h
  obtain⟨h0,h1⟩:=Classical.not_imp.1 hr0
  have hww:=F.arq hw i
  obtain⟨k,hk,hz,e⟩:=F.atv h0 h1
  rw[e] at hww ⊢
  have Ql:=hw _ (List.getElem_mem hk)
  refine Sp.elim F hw hww (Sp.mem F hw (List.getElem_mem hk)) hz ?_ ?_ v
  ·intro r hr
   obtain⟨r',hr',rfl⟩:=List.mem_map.1 hr
   have hrm:=List.mem_of_mem_eraseIdx hr'
   have hrl:=hw _ hrm
   refine⟨Sp.cy F hw _ (Sp.mem F hw hrm) (Sp.mem F hw (List.getElem_mem hk)),?_⟩
   rw[F.cC _ (by omega),F.neg_mul,F.mul_assoc,F.inv_mul hz,F.mul_one,F.add_neg]
  ·intro r hr
   have hwp:jI w (rows[k]::(rows.eraseIdx k).map fun r=>F.cy r (F.neg (F.mul (r.getD i F.zero) (F.inv ((rows[k]).getD i F.zero)))) rows[k]):=fun r hr=>by
    rcases List.mem_cons.1 hr with rfl|hr
    ·exact Ql
    ·exact hww r hr
   obtain⟨j,hj,rfl⟩:=List.getElem_of_mem hr
   by_cases ejk:j=k
   ·subst ejk
    exact Sp.mem F hwp (List.mem_cons_self ..)
   ·have hjm:rows[j]∈rows.eraseIdx k:=by
     rw[List.mem_eraseIdx_iff_getElem]
     exact⟨j,hj,ejk,rfl⟩
    have Qk:=hw _ (List.getElem_mem hj)
    have m1:=Sp.mem F hwp (List.mem_cons_of_mem _ (List.mem_map_of_mem (f:=fun r=>F.cy r (F.neg (F.mul (r.getD i F.zero) (F.inv ((rows[k]).getD i F.zero)))) rows[k]) hjm))
    have m2:=Sp.cy F hwp (F.mul (rows[j].getD i F.zero) (F.inv ((rows[k]).getD i F.zero))) m1 (Sp.mem F hwp (List.mem_cons_self ..))
    have:F.cy (F.cy rows[j] (F.neg (F.mul (rows[j].getD i F.zero) (F.inv ((rows[k]).getD i F.zero)))) rows[k]) (F.mul (rows[j].getD i F.zero) (F.inv ((rows[k]).getD i F.zero))) rows[k]=rows[j]:=by
     have l1:=F.cg rows[j] (F.neg (F.mul (rows[j].getD i F.zero) (F.inv ((rows[k]).getD i F.zero)))) rows[k] (by omega)
     refine F.oD (by rw[F.cg _ _ _ (by omega),l1]) fun c=>?_
     rw[F.cC _ (by omega),F.cC _ (by omega),F.add_assoc,←F.add_mul,F.neg_add,F.zero_mul,F.add_zero]
    rw[this] at m2
    exact m2
theorem alA(hw:jI w rows){i:Nat}(h:¬∃v,F.Sp w rows v∧v.getD i F.zero≠F.zero):(F.wo rows i).length=rows.length:=by
 rw[F.atu]
 intro r hr
 cases F.dec (r.getD i F.zero) F.zero with
 |isTrue e=>exact e
 |isFalse e=>exact absurd ⟨r,Sp.mem F hw hr,e⟩ h
theorem alB(hw:jI w rows){i:Nat}(h:∃v,F.Sp w rows v∧v.getD i F.zero≠F.zero):(F.wo rows i).length+1=rows.length:=by
 obtain⟨v,h1,h2⟩:=h
 have:∃r0∈rows,r0.getD i F.zero≠F.zero:=by
  refine Classical.byContradiction fun hn=>h2 (Sp.at0 F hw (fun r hr=>?_) h1)
  cases F.dec (r.getD i F.zero) F.zero with
  |isTrue e=>exact e
  |isFalse e=>exact absurd ⟨r,hr,e⟩ hn
 obtain⟨r0,h0,h3⟩:=this
 obtain⟨k,hk,hz,e⟩:=F.atv h0 h3
 rw[e,List.length_map,List.length_eraseIdx_of_lt hk]
 omega
end Go.Fld.Fld
end
section
namespace Go.Fld.Fld
variable{α:Type}(F:Fld α){w:Nat}{rows:List (List α)}
theorem ars{a k c j:Nat}(ha:a<rows.length)(hak:a≤k)(hk:k<rows.length)(haj:a<j)(hj:j<rows.length):
 (F.gi rows a k c)[j]?=some (F.cy (if j=k then rows[a] else rows[j]) (F.neg ((if j=k then rows[a] else rows[j]).getD c F.zero)) (F.yN (F.inv ((rows[k]).getD c F.zero)) rows[k])):=by
 have T9:(IS rows a k).length=rows.length:=oW ..
 have gk:rows.getD k []=rows[k]:=by rw[List.getD_eq_getElem?_getD,List.getElem?_eq_getElem hk];rfl
 have ga:rows.getD a []=rows[a]:=by rw[List.getD_eq_getElem?_getD,List.getElem?_eq_getElem ha];rfl
 have sa:(IS rows a k).getD a []=rows[k]:=by
  unfold IS
  rw[gk,ga,List.getD_eq_getElem?_getD]
  by_cases e:k=a
  ·subst e
   rw[List.set_set,List.getElem?_set_self hk];rfl
  ·rw[List.getElem?_set_ne e,List.getElem?_set_self ha];rfl
 have sj:(IS rows a k)[j]?=some (if j=k then rows[a] else rows[j]):=by
  unfold IS
  rw[gk,ga]
  by_cases e:j=k
  ·subst e
   rw[List.getElem?_set_self (by simpa using hj),if_pos rfl]
  ·rw[List.getElem?_set_ne (fun h=>e h.symm),List.getElem?_set_ne (by omega),List.getElem?_eq_getElem hj,if_neg e]
 have na:(F.norm (IS rows a k) a c).getD a []=F.yN (F.inv ((rows[k]).getD c F.zero)) rows[k]:=by
  unfold norm YL
  rw[sa,List.getD_eq_getElem?_getD,List.getElem?_set_self (by omega)];rfl
 have nj:(F.norm (IS rows a k) a c)[j]?=some (if j=k then rows[a] else rows[j]):=by
  unfold norm
  rw[List.getElem?_set_ne (by omega),sj]
 unfold gi clr
 rw[List.getElem?_mapIdx,nj,Option.map_some,if_neg (by omega),na]
theorem ab3{k c:Nat}(hk:k<rows.length):F.YL rows k c=(rows[k]).getD c F.zero:=by
 unfold YL
 congr 1
 rw[List.getD_eq_getElem?_getD,List.getElem?_eq_getElem hk];rfl
theorem axR(hw:jI w rows){a k c:Nat}(ha:a<rows.length)(hak:a≤k)(hk:k<rows.length)(hz:F.YL rows k c≠F.zero)(v:List α):
 F.Sp w ((F.gi rows a k c).drop (a+1)) v↔F.Sp w (rows.drop a) v∧v.getD c F.zero=F.zero:=by
 have hl:=F.jw rows a k c
 rw[F.ab3 hk] at hz
 have hwd:jI w (rows.drop a):=fun r hr=>hw _ (List.mem_of_mem_drop hr)
 have hws:jI w (F.gi rows a k c):=jI.step F hw c ha hk
 have hwn:jI w ((F.gi rows a k c).drop (a+1)):=fun r hr=>hws _ (List.mem_of_mem_drop hr)
 have hkl:=hw _ (List.getElem_mem hk)
 have md:∀{j} (hj:j<rows.length),a≤j→rows[j]∈rows.drop a:=by
  intro j hj haj
  have:rows[j]=(rows.drop a)[j-a]'(by simp;omega):=by
   rw[List.getElem_drop];congr 1;omega
  rw[this];exact List.getElem_mem _
 have hpS:F.Sp w (rows.drop a) (F.yN (F.inv ((rows[k]).getD c F.zero)) rows[k]):=by
  have:F.yN (F.inv ((rows[k]).getD c F.zero)) rows[k]=F.cy (List.replicate w F.zero) (F.inv ((rows[k]).getD c F.zero)) rows[k]:=by
   refine F.oD (by rw[F.ig,F.QO _ (by simp) hkl,hkl]) fun i=>?_
   rw[F.ab2,F.cC _ (by simp[hkl]),F.qK,F.zero_add]
  rw[this]
  exact Sp.zero.add _ (md hk hak)
 have Ql:(F.yN (F.inv ((rows[k]).getD c F.zero)) rows[k]).length=w:=by rw[F.ig,hkl]
 have hpc:(F.yN (F.inv ((rows[k]).getD c F.zero)) rows[k]).getD c F.zero=F.one:=by rw[F.ab2,F.inv_mul hz]
 generalize hp:F.yN (F.inv ((rows[k]).getD c F.zero)) rows[k]=p at hpS Ql hpc
 have get:∀{j} (haj:a<j) (hj:j<rows.length),(F.gi rows a k c)[j]'(by omega)=F.cy (if j=k then rows[a] else rows[j]) (F.neg ((if j=k then rows[a] else rows[j]).getD c F.zero)) p:=by
  intro j haj hj
  have:=F.ars (c:=c) ha hak hk haj hj
  rw[hp] at this
  rw[List.getElem?_eq_getElem (by omega)] at this
  exact Option.some.inj this
 refine Sp.elim F hwd hwn (p:=p) (c:=c) hpS (by rw[hpc];exact F.asL) ?_ ?_ v
 ·intro r hr
  obtain⟨j,hj,rfl⟩:=List.getElem_of_mem hr
  rw[List.length_drop] at hj
  have hsm:(if a+1+j=k then rows[a] else rows[a+1+j]'(by omega))∈rows.drop a:=by
   split
   ·exact md ha (Nat.le_refl _)
   ·exact md (by omega) (by omega)
  have T9:=hwd _ hsm
  rw[List.getElem_drop,get (by omega) (by omega)]
  refine⟨Sp.cy F hwd _ (Sp.mem F hwd hsm) hpS,?_⟩
  rw[F.cC _ (by rw[T9,Ql]),hpc,F.mul_one,F.add_neg]
 ·intro r hr
  obtain⟨i,hi,rfl⟩:=List.getElem_of_mem hr
  rw[List.length_drop] at hi
  rw[List.getElem_drop]
  have hwp:jI w (p::(F.gi rows a k c).drop (a+1)):=fun r hr=>by
   rcases List.mem_cons.1 hr with rfl|hr
   ·exact Ql
   ·exact hwn r hr
  have pk:F.Sp w (p::(F.gi rows a k c).drop (a+1)) rows[k]:=by
   have:rows[k]=F.cy (List.replicate w F.zero) ((rows[k]).getD c F.zero) p:=by
    refine F.oD (by rw[F.QO _ (by simp) Ql,hkl]) fun i=>?_
    rw[F.cC _ (by simp[Ql]),F.qK,F.zero_add,←hp,F.ab2,←F.mul_assoc,F.BS _ hz,F.one_mul]
   rw[this]
   exact Sp.zero.add _ (List.mem_cons_self ..)
  have oth:∀{j} (haj:a<j) (hj:j<rows.length),F.Sp w (p::(F.gi rows a k c).drop (a+1)) (if j=k then rows[a] else rows[j]):=by
   intro j haj hj
   have T9:(if j=k then rows[a] else rows[j]).length=w:=by
    split
    ·exact hw _ (List.getElem_mem _)
    ·exact hw _ (List.getElem_mem _)
   have hm:(F.gi rows a k c)[j]'(by omega)∈p::(F.gi rows a k c).drop (a+1):=by
    refine List.mem_cons_of_mem _ ?_
    have:(F.gi rows a k c)[j]'(by omega)=((F.gi rows a k c).drop (a+1))[j-(a+1)]'(by rw[List.length_drop];omega):=by
     rw[List.getElem_drop];congr 1;omega
    rw[this];exact List.getElem_mem _
   have m2:=Sp.cy F hwp ((if j=k then rows[a] else rows[j]).getD c F.zero) (Sp.mem F hwp hm) (Sp.mem F hwp (List.mem_cons_self ..))
   rw[get haj hj] at m2
   have l1:=F.QO (F.neg ((if j=k then rows[a] else rows[j]).getD c F.zero)) T9 Ql
   have:F.cy (F.cy (if j=k then rows[a] else rows[j]) (F.neg ((if j=k then rows[a] else rows[j]).getD c F.zero)) p) ((if j=k then rows[a] else rows[j]).getD c F.zero) p=(if j=k then rows[a] else rows[j]):=by
    refine F.oD (by rw[F.QO _ l1 Ql,T9]) fun i=>?_
    rw[F.cC _ (by rw[l1,Ql]),F.cC _ (by rw[T9,Ql]),F.add_assoc,←F.add_mul,F.neg_add,F.zero_mul,F.add_zero]
   rw[this] at m2
   exact m2
  by_cases e1:a+i=k
  ·have:rows[a+i]=rows[k]:=by congr 1
   rw[this];exact pk
  ·by_cases e2:i=0
   ·subst e2
    have:=oth (j:=k) (by omega) hk
    rw[if_pos rfl] at this
    exact this
   ·have:=oth (j:=a+i) (by omega) (by omega)
    rw[if_neg e1] at this
    exact this
def xC(os:List Nat)(v:List α):List α:=os.map fun o=>v.getD o F.zero
theorem qL{os:List Nat}{v:List α}{j:Nat}(hj:j<os.length):(F.xC os v).getD j F.zero=v.getD os[j] F.zero:=by
 unfold xC
 rw[List.getD_eq_getElem?_getD,List.getElem?_map,List.getElem?_eq_getElem hj];rfl
theorem alC{os:List Nat}{v u:List α}(a:α)(h:v.length=u.length):F.xC os (F.cy v a u)=F.cy (F.xC os v) a (F.xC os u):=by
 refine F.oD (by rw[F.QO (w:=os.length) _ (by simp[xC]) (by simp[xC])];simp[xC]) fun c=>?_
 rw[F.cC _ (by simp[xC])]
 by_cases hc:c<os.length
 ·rw[F.qL hc,F.qL hc,F.qL hc,F.cC _ h]
 ·have h0:∀v:List α,(F.xC os v).getD c F.zero=F.zero:=fun v=>by
   rw[List.getD_eq_getElem?_getD,List.getElem?_eq_none (by simp[xC];omega)];rfl
  rw[h0,h0,h0,F.mul_zero,F.add_zero]
theorem aP5{os:List Nat}(hw:jI w rows)(v':List α):F.Sp os.length (rows.map (F.xC os)) v'↔∃v,F.Sp w rows v∧v'=F.xC os v:=by
 have hwm:jI os.length (rows.map (F.xC os)):=fun r hr=>by
  obtain⟨r',_,rfl⟩:=List.mem_map.1 hr
  simp[xC]
 constructor
 ·intro h
  induction h with
  |zero=>
   refine⟨_,.zero,F.oD (by simp[xC]) fun c=>?_⟩
   rw[F.qK]
   by_cases hc:c<os.length
   ·rw[F.qL hc,F.qK]
   ·rw[List.getD_eq_getElem?_getD,List.getElem?_eq_none (by simp[xC];omega)];rfl
  |add a _ hr ih=>
   obtain⟨v,h1,rfl⟩:=ih
   obtain⟨r,h2,rfl⟩:=List.mem_map.1 hr
   exact⟨_,h1.add a h2,(F.alC a (by rw[Sp.len F hw h1,hw _ h2])).symm⟩
 ·rintro⟨v,h,rfl⟩
  induction h with
  |zero=>
   have:F.xC os (List.replicate w F.zero)=List.replicate os.length F.zero:=F.oD (by simp[xC]) fun c=>by
    rw[F.qK]
    by_cases hc:c<os.length
    ·rw[F.qL hc,F.qK]
    ·rw[List.getD_eq_getElem?_getD,List.getElem?_eq_none (by simp[xC];omega)];rfl
   rw[this];exact .zero
  |add a h1 hr ih=>
   rw[F.alC a (by rw[Sp.len F hw h1,hw _ hr])]
   exact ih.add a (List.mem_map_of_mem hr)
theorem aP6(os:List Nat):∀(n c:Nat) (G:List (List α)) (ps:List Nat) (W:List (List α)),c+n=os.length→jI os.length G→jI w W→ps.length≤G.length→
 (∀v',F.Sp os.length (G.drop ps.length) v'↔∃v,F.Sp w W v∧v'=F.xC os v)→W.length+ps.length=G.length→
 ((os.drop c).foldl F.wo W).length+(F.vx n c G ps).2.length=G.length:=by
 intro n
 induction n with
 |zero=>
  intro c G ps W hc hG hW hp hs hl
  rw[List.drop_eq_nil_of_le (by omega)]
  exact hl
 |succ n ih=>
  intro c G ps W hc hG hW hp hs hl
  have hco:c<os.length:=by omega
  rw[List.drop_eq_getElem_cons hco,List.foldl_cons]
  have hwd:jI os.length (G.drop ps.length):=fun r hr=>hG _ (List.mem_of_mem_drop hr)
  have hww:=F.arq hW os[c]
  have hsw:=F.aTk hW os[c]
  cases hpk:F.pick G c (G.length-ps.length) ps.length with
  |none=>
   have hgj:F.vx (n+1) c G ps=F.vx n (c+1) G ps:=by conv=>lhs;unfold vx;rw[hpk]
   rw[hgj]
   have hz:=F.axQ hpk
   have h0:∀v',F.Sp os.length (G.drop ps.length) v'→v'.getD c F.zero=F.zero:=by
    intro v' hv'
    refine Sp.at0 F hwd (fun r hr=>?_) hv'
    obtain⟨i,hi,rfl⟩:=List.getElem_of_mem hr
    rw[List.length_drop] at hi
    rw[List.getElem_drop]
    have:=hz (ps.length+i) (by omega) (by omega)
    rwa[F.ab3 (by omega)] at this
   have hn:¬∃v,F.Sp w W v∧v.getD os[c] F.zero≠F.zero:=by
    rintro⟨v,h1,h2⟩
    have:=h0 _ ((hs _).2 ⟨v,h1,rfl⟩)
    rw[F.qL hco] at this
    exact h2 this
   have hlw:=F.alA hW hn
   refine ih (c+1) G ps (F.wo W os[c]) (by omega) hG hww hp ?_ (by omega)
   intro v'
   rw[hs]
   constructor
   ·rintro⟨v,h1,h2⟩
    refine⟨v,(hsw v).2 ⟨h1,?_⟩,h2⟩
    cases F.dec (v.getD os[c] F.zero) F.zero with
    |isTrue e=>exact e
    |isFalse e=>exact absurd ⟨v,h1,e⟩ hn
   ·rintro⟨v,h1,h2⟩
    exact⟨v,((hsw v).1 h1).1,h2⟩
  |some k=>
   obtain⟨p1,p2,p3,_⟩:=F.Dp hpk
   have hk:k<G.length:=by omega
   have ha:ps.length<G.length:=by omega
   have hgj:F.vx (n+1) c G ps=F.vx n (c+1) (F.gi G ps.length k c) (ps++[c]):=by conv=>lhs;unfold vx;rw[hpk]
   rw[hgj]
   have hst:=F.axR hG ha p1 hk p3
   have T9:=F.jw G ps.length k c
   have hex:∃v,F.Sp w W v∧v.getD os[c] F.zero≠F.zero:=by
    have hm:G[k]∈G.drop ps.length:=by
     have:G[k]=(G.drop ps.length)[k-ps.length]'(by simp;omega):=by rw[List.getElem_drop];congr 1;omega
     rw[this];exact List.getElem_mem _
    obtain⟨v,h1,h2⟩:=(hs _).1 (Sp.mem F hwd hm)
    refine⟨v,h1,fun e=>p3 ?_⟩
    rw[F.ab3 hk,h2,F.qL hco,e]
   have hlw:=F.alB hW hex
   have hc1:(ps++[c]).length=ps.length+1:=by simp
   have:=ih (c+1) (F.gi G ps.length k c) (ps++[c]) (F.wo W os[c]) (by omega) (jI.step F hG c ha hk) hww (by omega) ?_ (by omega)
   ·omega
   ·intro v'
    rw[hc1,hst]
    constructor
    ·rintro⟨h1,h2⟩
     obtain⟨v,h3,rfl⟩:=(hs _).1 h1
     rw[F.qL hco] at h2
     exact⟨v,(hsw v).2 ⟨h3,h2⟩,rfl⟩
    ·rintro⟨v,h1,rfl⟩
     obtain⟨h2,h3⟩:=(hsw v).1 h1
     exact⟨(hs _).2 ⟨v,h2,rfl⟩,by rw[F.qL hco,h3]⟩
theorem aHa(hw:jI w rows)(os:List Nat):(os.foldl F.wo rows).length+(F.dU (rows.map (F.xC os)) os.length).2.length=rows.length:=by
 have:=F.aP6 (w:=w) os os.length 0 (rows.map (F.xC os)) [] rows (by omega) (fun r hr=>by
  obtain⟨r',_,rfl⟩:=List.mem_map.1 hr
  simp[xC]) hw (Nat.zero_le _) (F.aP5 hw) (by simp)
 rw[List.drop_zero,List.length_map] at this
 exact this
end Go.Fld.Fld
end
section
namespace Go.Abs
structure an(h h':AH):Prop where
 next:h.next≤h'.next
 iN:∀b,b<h.next→h'.iN b=h.iN b
theorem an.refl(h:AH):an h h:=⟨Nat.le_refl _,fun _ _=>rfl⟩
theorem an.trans{a b c:AH}(p:an a b)(q:an b c):an a c:=⟨Nat.le_trans p.1 q.1,fun x hx=>(q.2 x (Nat.lt_of_lt_of_le hx p.1)).trans (p.2 x hx)⟩
theorem an.alloc(h:AH)(cs:List Value):an h (h.alloc cs):=⟨Nat.le_succ _,fun b hb=>by simp[AH.alloc,Nat.ne_of_lt hb]⟩
theorem an.put{h h':AH}(p:an h h'){b:Nat}(hb:h.next≤b)(x:Option (List Value)):an h (h'.put b x):=
 ⟨p.1,fun c hc=>by simp only[AH.put];rw[if_neg (by omega)];exact p.2 c hc⟩
structure SI(h:AH)(s:Sl)(xs:List Int):Prop where
 len:s.l=xs.length
 get:∀(i:Nat) (hi:i<xs.length),∃a,s.a=some a∧a.block<h.next∧h.cell a.block (a.off+i)=some (.int .i64 xs[i])
theorem SI.nil(h:AH):SI h ⟨none,0,0⟩ []:=⟨rfl,fun i hi=>by cases hi⟩
theorem SI.quiet{h h':AH}{s xs}(p:SI h s xs)(q:an h h'):SI h' s xs:=⟨p.1,fun i hi=>by
 obtain⟨a,h1,h2,h3⟩:=p.2 i hi
 exact⟨a,h1,Nat.lt_of_lt_of_le h2 q.1,by unfold AH.cell at h3 ⊢;rw[q.2 _ h2];exact h3⟩⟩
section
variable{R:Type}
theorem SI.read{h:AH}{s:Sl}{xs:List Int}(p:SI h s xs){i:Int}(h0:0≤i)(hi:i.toNat<xs.length)(K:Int→Option R):
 (idx 1 s i fun q=>aF .i64 h q.block q.off K)=K xs[i.toNat]:=by
 obtain⟨a,h1,_,h3⟩:=p.2 i.toNat hi
 have hl:=p.1
 unfold idx
 rw[h1]
 simp only[if_pos h0]
 rw[if_pos (by omega)]
 unfold aF
 rw[Nat.mul_one,h3]
 simp[asInt]
end
def OI(n0:Nat)(h:AH)(s:Sl)(xs:List Int):Prop:=
 (xs=[]∧s=⟨none,0,0⟩)∨(∃b,n0≤b∧b<h.next∧xs≠[]∧s=⟨some ⟨b,0,none⟩,xs.length,oB+1⟩∧h.iN b=some (xs.map (Value.int .i64)))
theorem OI.si{n0 h s xs}(p:OI n0 h s xs):SI h s xs:=by
 rcases p with⟨rfl,rfl⟩|⟨b,h1,h2,h3,rfl,h4⟩
 ·exact SI.nil h
 ·exact⟨rfl,fun i hi=>⟨_,rfl,h2,by simp[AH.cell,h4,hi]⟩⟩
section
variable{R:Type}
theorem OI.push{n0 fl:Nat}{h0 h:AH}{s:Sl}{xs:List Int}(p:OI n0 h s xs)(q:an h0 h)(hn:h0.next=n0)(bR:fl≤n0)(hr:(xs.length+1)*8≤kc)(x:Int)(K:Sl→AH→Option R):
 ∃s' h',(bJ h [.int .i64 x] fun b h1=>dn fl 1 8 s ⟨some ⟨b,0,none⟩,1,1⟩ h1 K)=K s' h'∧OI n0 h' s' (xs++[x])∧an h0 h':=by
 have hb:(h.alloc [Value.int .i64 x]).iN h.next=some [Value.int .i64 x]:=by simp[AH.alloc]
 have rd:∀{R':Type} (F:List Value→Option R'),GO (h.alloc [Value.int .i64 x]) (some ⟨h.next,0,none⟩) (1*1) F=F [.int .i64 x]:=by
  intro R' F
  simp[GO,hb]
 rcases p with⟨rfl,rfl⟩|⟨b,h1,h2,h3,rfl,h4⟩
 ·refine⟨⟨some ⟨h.next+1,0,none⟩,1,oB+1⟩,(h.alloc [.int .i64 x]).alloc [.int .i64 x],?_,.inr ⟨h.next+1,?_,?_,by simp,rfl,?_⟩,(q.trans (an.alloc _ _)).trans (an.alloc _ _)⟩
  ·show dn fl 1 8 ⟨none,0,0⟩ ⟨some ⟨h.next,0,none⟩,1,1⟩ (h.alloc [.int .i64 x]) K=_
   unfold dn
   simp only[List.length_nil] at hr
   rw[if_neg (by simp),if_pos (by simpa using hr),rd]
   simp[AH.alloc]
  ·have:=q.1;omega
  ·simp[AH.alloc]
  ·simp[AH.alloc]
 ·have hbn:(h.alloc [Value.int .i64 x]).iN b=some (xs.map (Value.int .i64)):=by simp[AH.alloc,Nat.ne_of_lt h2,h4]
  refine⟨⟨some ⟨h.next+1,0,none⟩,xs.length+1,oB+1⟩,((h.alloc [.int .i64 x]).put b none).alloc (xs.map (Value.int .i64)++[.int .i64 x]),?_,.inr ⟨h.next+1,?_,?_,by simp,by simp,?_⟩,?_⟩
  ·show dn fl 1 8 ⟨some ⟨b,0,none⟩,xs.length,oB+1⟩ ⟨some ⟨h.next,0,none⟩,1,1⟩ (h.alloc [.int .i64 x]) K=_
   unfold dn
   rw[if_neg (by simp),if_pos (by simpa using hr),rd]
   have hU:¬(oB+1<oB):=by omega
   have hrd:∀{R':Type} (F:List Value→Option R'),GO (h.alloc [Value.int .i64 x]) (some ⟨b,0,none⟩) (xs.length*1) F=F (xs.map (Value.int .i64)):=by
    intro R' F
    simp[GO,hbn,←List.map_take]
   simp only[if_neg hU,hrd]
   rw[if_pos ⟨by omega,trivial,rfl⟩]
   rfl
  ·have:=q.1;omega
  ·simp[AH.alloc,AH.put]
  ·simp[AH.alloc,AH.put]
  ·exact((q.trans (an.alloc _ _)).put (by omega) none).trans (an.alloc _ _)
end
theorem mj{n:Int}(h1: -9223372036854775808≤n)(h2:n<9223372036854775808):av n=n:=by
 unfold av
 rw[IntKind.wrap_i64];omega
end Go.Abs
end
section
namespace Go.Abs
def iv(xs:List Int):List Value:=xs.map (Value.int .i64)
def ints(l:List Nat):List Int:=l.map Int.ofNat
@[simp] theorem axS(xs:List Int):(iv xs).length=xs.length:=by simp[iv]
@[simp] theorem dt(l:List Nat):(ints l).length=l.length:=by simp[ints]
theorem M1(xs:List Int)(i:Nat)(h:i<xs.length):(iv xs)[i]?=some (.int .i64 xs[i]):=by simp[iv,h]
theorem lu(xs:List Int)(i:Nat)(n:Int):(iv xs).set i (.int .i64 n)=iv (xs.set i n):=by simp[iv,List.map_set]
theorem ints_set(l:List Nat)(i n:Nat):(ints l).set i (n:Int)=ints (l.set i n):=by simp[ints,List.map_set]
theorem dW(l:List Nat)(i:Nat)(h:i<(ints l).length):(ints l)[i]=((l[i]'(by simpa using h):Nat):Int):=by simp[ints]
structure OB(h:AH)(b:Nat)(vs:List Value):Prop where
 lt:b<h.next
 iN:h.iN b=some vs
theorem OB.alloc(h:AH)(vs:List Value):OB (h.alloc vs) h.next vs:=⟨Nat.lt_succ_self _,by simp[AH.alloc]⟩
theorem OB.put{h:AH}{b:Nat}{vs:List Value}(p:OB h b vs)(ws:List Value):OB (h.put b (some ws)) b ws:=⟨p.1,by simp[AH.put]⟩
theorem OB.art{h:AH}{b c:Nat}{vs:List Value}(p:OB h b vs)(hc:c≠b)(x:Option (List Value)):OB (h.put c x) b vs:=
 ⟨p.1,by simp only[AH.put];rw[if_neg (fun e=>hc e.symm)];exact p.2⟩
theorem OB.quiet{h h':AH}{b:Nat}{vs:List Value}(p:OB h b vs)(q:an h h'):OB h' b vs:=⟨Nat.lt_of_lt_of_le p.1 q.1,by rw[q.2 b p.1];exact p.2⟩
theorem OB.si{h:AH}{b:Nat}{xs:List Int}(p:OB h b (iv xs))(t:Option Nat)(c:Nat):SI h ⟨some ⟨b,0,none⟩,xs.length,c⟩ xs:=
 ⟨rfl,fun i hi=>⟨_,rfl,p.1,by simp only[AH.cell,p.2,Nat.zero_add];exact M1 xs i hi⟩⟩
section
variable{R:Type}
theorem OB.st{h:AH}{b:Nat}{vs:List Value}(p:OB h b vs){fl o:Nat}{v:Value}(bR:fl≤b)(ho:o<vs.length)(hv:De v=true)(K:AH→Option R):
 st fl h ⟨b,o,none⟩ [v] K=K (h.put b (some (vs.set o v))):=by
 unfold Abs.st
 simp only[p.2,if_pos bR]
 rw[if_pos (by simp),if_pos (by simp;omega),if_pos (by simp[hv])]
 rfl
theorem aP7{s:Sl}{a:Addr}(ha:s.a=some a){i:Int}(h0:0≤i)(hi:i<s.l)(K:Addr→Option R):idx 1 s i K=K ⟨a.block,a.off+i.toNat,none⟩:=by
 unfold idx
 rw[ha]
 simp only
 rw[if_pos h0,if_pos hi,Nat.mul_one]
theorem bC{s:Sl}{a:Addr}(ha:s.a=some a){i:Nat}(hi:i<s.l)(K:Addr→Option R):idx 1 s (i:Int) K=K ⟨a.block,a.off+i,none⟩:=by
 rw[aP7 ha (by omega) (by omega)];simp
theorem OB.cell{h:AH}{b:Nat}{vs:List Value}(p:OB h b vs){o:Nat}{v:Value}(e:vs[o]?=some v):h.cell b o=some v:=by
 simp only[AH.cell,p.2];exact e
theorem ae{h:AH}{b o:Nat}{n:Int}(e:h.cell b o=some (.int .i64 n))(K:Int→Option R):aF .i64 h b o K=K n:=by
 unfold aF;rw[e];simp[asInt]
theorem aP8{h:AH}{b o:Nat}{n:Bool}(e:h.cell b o=some (.bool n))(K:Bool→Option R):ldB h b o K=K n:=by
 unfold ldB;rw[e];rfl
theorem aq{h:AH}{b o:Nat}{s:Sl}(e:h.cell b o=some (.slice s.a s.l s.c))(K:Sl→Option R):aT h b o K=K s:=by
 unfold aT;rw[e];rfl
theorem CE{h:AH}{b o:Nat}{s:Option Addr}(e:h.cell b o=some (.pointer s))(K:Option Addr→Option R):ldN h b o K=K s:=by
 unfold ldN;rw[e];rfl
theorem ak{C:Callee}{fl f:Nat}{args:List Value}{h h1:AH}{v:Value}(e:C fl f args h=some (v,h1))(K:Value→AH→Option R):aj C fl f args h K=K v h1:=by
 unfold aj;rw[e]
theorem aBG{a b:Int}(hb:b≠0)(K:Int→Option R):j6 .rem .i64 a b K=K (a.tmod b):=by
 unfold j6 Iw;simp only[if_neg hb]
theorem aBH{a b:Int}(hb:b≠0)(K:Int→Option R):j6 .quo .i64 a b K=K (av (a.tdiv b)):=by
 unfold j6 Iw;simp only[if_neg hb]
theorem iX{a b:Nat}(hb:0<b)(K:Int→Option R):j6 .rem .i64 (a:Int) (b:Int) K=K ((a%b:Nat):Int):=by
 rw[aBG (by omega),Int.ofNat_tmod]
theorem aH{n:Int}(m:Nat)(h:n=m)(hm:m<9223372036854775808):av n=m:=by
 rw[mj (by omega) (by omega)];exact h
theorem J5{a b:Nat}(hb:0<b)(ha:a<9223372036854775808)(K:Int→Option R):j6 .quo .i64 (a:Int) (b:Int) K=K ((a/b:Nat):Int):=by
 rw[aBH (by omega),←Int.ofNat_tdiv,aH (a/b) rfl (Nat.lt_of_le_of_lt (Nat.div_le_self a b) ha)]
theorem aBI(v:Value)(n:Nat):Uc [v] n=List.replicate n v:=by
 unfold Uc
 induction n with
 |zero=>rfl
 |succ n ih=>rw[List.replicate_succ,List.flatten_cons,ih];rfl
theorem j7{bytes:Nat}{v:Value}{n:Nat}(hn:n*bytes≤kc)(h:AH)(K:Sl→AH→Option R):
 qF bytes [v] (n:Int) (n:Int) h K=K ⟨some ⟨h.next,0,none⟩,n,n⟩ (h.alloc (List.replicate n v)):=by
 unfold qF
 rw[if_pos ⟨by omega,by omega,by exact_mod_cast hn⟩]
 simp[aBI]
end
theorem qM(n:Nat):List.replicate n (Value.int .i64 0)=iv (ints (List.replicate n 0)):=by simp[iv,ints]
end Go.Abs
end
section
namespace Go.Abs
structure kg(x:Option Addr)(h h':AH):Prop where
 next:h.next≤h'.next
 iN:∀b,b<h.next→(∀a,x=some a→a.block≠b)→h'.iN b=h.iN b
theorem kg.ob{x:Option Addr}{h h':AH}(p:kg x h h'){b:Nat}{vs:List Value}(o:OB h b vs)(hb:∀a,x=some a→a.block≠b):OB h' b vs:=
 ⟨Nat.lt_of_lt_of_le o.1 p.1,by rw[p.2 b o.1 hb];exact o.2⟩
theorem kg.quiet{x:Option Addr}{h0 h h':AH}(p:kg x h h')(q:an h0 h)(hx:∀a,x=some a→h0.next≤a.block):an h0 h':=
 ⟨Nat.le_trans q.1 p.1,fun b hb=>by rw[p.2 b (Nat.lt_of_lt_of_le hb q.1) (fun a ha=>by have:=hx a ha;omega)];exact q.2 b hb⟩
theorem kg.put{h:AH}{b o:Nat}{t:Option Nat}(vs:Option (List Value)):kg (some ⟨b,o,t⟩) h (h.put b vs):=
 ⟨Nat.le_refl _,fun c _ hc=>by
  have:=hc _ rfl
  simp only[AH.put];rw[if_neg (fun e=>this e.symm)]⟩
theorem an.ob{h h':AH}(q:an h h'){b:Nat}{vs:List Value}(o:OB h b vs):OB h' b vs:=o.quiet q
theorem Dq{h:AH}{c:Nat}(vs:List Value)(hc:c<h.next):(h.alloc vs).iN c=h.iN c:=by simp only[AH.alloc];rw[if_neg (by omega)]
theorem ahS{h:AH}{b c:Nat}(x:Option (List Value))(hc:b≠c):(h.put b x).iN c=h.iN c:=by simp only[AH.put];rw[if_neg (fun e=>hc e.symm)]
def OV(n0:Nat)(h:AH)(s:Sl)(vs:List Value):Prop:=
 (vs=[]∧s=⟨none,0,0⟩)∨(∃b c,n0≤b∧b<h.next∧vs≠[]∧(c=oB+1∨c=vs.length∧c<oB)∧s=⟨some ⟨b,0,none⟩,vs.length,c⟩∧h.iN b=some vs)
theorem OV.nil(n0:Nat)(h:AH):OV n0 h ⟨none,0,0⟩ []:=.inl ⟨rfl,rfl⟩
theorem OV.len{n0 h s vs}(p:OV n0 h s vs):s.l=vs.length:=by
 rcases p with⟨rfl,rfl⟩|⟨b,c,_,_,_,_,rfl,_⟩<;>rfl
theorem OV.ge{n0 h s vs}(p:OV n0 h s vs):∀a,s.a=some a→n0≤a.block:=by
 rcases p with⟨rfl,rfl⟩|⟨b,c,h1,_,_,_,rfl,_⟩
 ·intro a h;cases h
 ·intro a h;cases h;exact h1
theorem OV.si{n0 h s}{xs:List Int}(p:OV n0 h s (iv xs)):SI h s xs:=by
 rcases p with⟨h1,rfl⟩|⟨b,c,h1,h2,h3,h4,rfl,h5⟩
 ·have:xs=[]:=by simpa [iv] using h1
  subst this;exact SI.nil h
 ·refine⟨by simp,fun i hi=>⟨_,rfl,h2,?_⟩⟩
  simp only[AH.cell,h5,Nat.zero_add];exact M1 xs i hi
theorem OV.aHb{n0 h h' s vs}(p:OV n0 h s vs)(hn:h.next≤h'.next)(hb:∀a,s.a=some a→h'.iN a.block=h.iN a.block):OV n0 h' s vs:=by
 rcases p with⟨rfl,rfl⟩|⟨b,c,h1,h2,h3,h4,rfl,h5⟩
 ·exact OV.nil n0 h'
 ·exact .inr ⟨b,c,h1,Nat.lt_of_lt_of_le h2 hn,h3,h4,rfl,by rw[hb _ rfl];exact h5⟩
theorem OV.quiet{n0 h h' s vs}(p:OV n0 h s vs)(q:an h h'):OV n0 h' s vs:=by
 rcases p with⟨rfl,rfl⟩|⟨b,c,h1,h2,h3,h4,rfl,h5⟩
 ·exact OV.nil n0 h'
 ·exact .inr ⟨b,c,h1,Nat.lt_of_lt_of_le h2 q.1,h3,h4,rfl,by rw[q.2 _ h2];exact h5⟩
theorem OV.full{h:AH}{b:Nat}{vs:List Value}{n0:Nat}(o:OB h b vs)(hb:n0≤b)(lZ:vs≠[])(hu:vs.length<oB):OV n0 h ⟨some ⟨b,0,none⟩,vs.length,vs.length⟩ vs:=
 .inr ⟨b,vs.length,hb,o.1,lZ,.inr ⟨rfl,hu⟩,rfl,o.2⟩
theorem OV.mono{n0 n1 h s vs}(p:OV n0 h s vs)(hn:n1≤n0):OV n1 h s vs:=by
 rcases p with⟨rfl,rfl⟩|⟨b,c,h1,h2,h3,h4,rfl,h5⟩
 ·exact OV.nil n1 h
 ·exact .inr ⟨b,c,Nat.le_trans hn h1,h2,h3,h4,rfl,h5⟩
section
variable{R:Type}
theorem OV.push{n0 fl bytes:Nat}{h:AH}{s:Sl}{vs:List Value}(p:OV n0 h s vs)(bR:fl≤n0)(hn0:n0≤h.next)(hr:(vs.length+1)*bytes≤kc){x:Value}(hx:De x=true)(K:Sl→AH→Option R):
 ∃s' h',(bJ h [x] fun b h1=>dn fl 1 bytes s ⟨some ⟨b,0,none⟩,1,1⟩ h1 K)=K s' h'∧OV n0 h' s' (vs++[x])∧kg s.a h h'∧(∀a,s'.a=some a→h.next≤a.block):=by
 have hb:(h.alloc [x]).iN h.next=some [x]:=by simp[AH.alloc]
 have rd:∀{R':Type} (F:List Value→Option R'),GO (h.alloc [x]) (some ⟨h.next,0,none⟩) (1*1) F=F [x]:=by
  intro R' F
  simp[GO,hb]
 rcases p with⟨rfl,rfl⟩|⟨b,c,h1,h2,h3,h4,rfl,h5⟩
 ·refine⟨⟨some ⟨h.next+1,0,none⟩,1,oB+1⟩,(h.alloc [x]).alloc [x],?_,.inr ⟨h.next+1,oB+1,by omega,?_,by simp,.inl rfl,rfl,?_⟩,⟨?_,?_⟩,?_⟩
  ·show dn fl 1 bytes ⟨none,0,0⟩ ⟨some ⟨h.next,0,none⟩,1,1⟩ (h.alloc [x]) K=_
   unfold dn
   simp only[List.length_nil] at hr
   rw[if_neg (by simp),if_pos (by simpa using hr),rd]
   simp[AH.alloc]
  ·simp[AH.alloc]
  ·simp[AH.alloc]
  ·simp only[AH.alloc];omega
  ·intro c hc _;rw[Dq _ (by simp only[AH.alloc];omega),Dq _ hc]
  ·intro a ha;cases ha;simp
 ·have hbn:(h.alloc [x]).iN b=some vs:=by simp[AH.alloc,Nat.ne_of_lt h2,h5]
  have hrd:∀{R':Type} (F:List Value→Option R'),GO (h.alloc [x]) (some ⟨b,0,none⟩) (vs.length*1) F=F vs:=by
   intro R' F
   simp[GO,hbn]
  rcases h4 with rfl|⟨rfl,hu⟩
  ·refine⟨⟨some ⟨h.next+1,0,none⟩,vs.length+1,oB+1⟩,((h.alloc [x]).put b none).alloc (vs++[x]),?_,.inr ⟨h.next+1,oB+1,by omega,?_,by simp,.inl rfl,by simp,?_⟩,⟨?_,?_⟩,?_⟩
   ·show dn fl 1 bytes ⟨some ⟨b,0,none⟩,vs.length,oB+1⟩ ⟨some ⟨h.next,0,none⟩,1,1⟩ (h.alloc [x]) K=_
    unfold dn
    rw[if_neg (by simp),if_pos (by simpa using hr),rd]
    have hU:¬(oB+1<oB):=by omega
    simp only[if_neg hU,hrd]
    rw[if_pos ⟨by omega,trivial,by simp[hx]⟩]
    rfl
   ·simp[AH.alloc,AH.put]
   ·simp[AH.alloc,AH.put]
   ·simp only[AH.alloc,AH.put];omega
   ·intro c hc hcb
    have:=hcb _ rfl
    rw[Dq _ (by simp only[AH.alloc,AH.put];omega),ahS _ this,Dq _ hc]
   ·intro a ha;cases ha;simp
  ·refine⟨⟨some ⟨h.next+1,0,none⟩,vs.length+1,oB+1⟩,(h.alloc [x]).alloc (vs++[x]),?_,.inr ⟨h.next+1,oB+1,by omega,?_,by simp,.inl rfl,by simp,?_⟩,⟨?_,?_⟩,?_⟩
   ·show dn fl 1 bytes ⟨some ⟨b,0,none⟩,vs.length,vs.length⟩ ⟨some ⟨h.next,0,none⟩,1,1⟩ (h.alloc [x]) K=_
    unfold dn
    rw[if_neg (by simp),if_pos (by simpa using hr),rd]
    simp only[if_pos hu,hrd]
    rw[if_neg (by omega)]
    rfl
   ·simp[AH.alloc]
   ·simp[AH.alloc]
   ·simp only[AH.alloc];omega
   ·intro c hc _;rw[Dq _ (by simp only[AH.alloc];omega),Dq _ hc]
   ·intro a ha;cases ha;simp
end
end Go.Abs
namespace Go.Abs
theorem kg.trans{x:Option Addr}{a b c:AH}(p:kg x a b)(q:kg x b c):kg x a c:=
 ⟨Nat.le_trans p.1 q.1,fun d hd hx=>(q.2 d (Nat.lt_of_lt_of_le hd p.1) hx).trans (p.2 d hd hx)⟩
theorem kg.refl(x:Option Addr)(h:AH):kg x h h:=⟨Nat.le_refl _,fun _ _ _=>rfl⟩
theorem kg.ab4{x:Option Addr}{h h':AH}(q:an h h'):kg x h h':=⟨q.1,fun b hb _=>q.2 b hb⟩
theorem SI.J6{x:Option Addr}{h h':AH}{s:Sl}{xs:List Int}(p:SI h s xs)(q:kg x h h')(lZ:∀a b,s.a=some a→x=some b→b.block≠a.block):SI h' s xs:=⟨p.1,fun i hi=>by
 obtain⟨a,h1,h2,h3⟩:=p.2 i hi
 exact⟨a,h1,Nat.lt_of_lt_of_le h2 q.1,by unfold AH.cell at h3 ⊢;rw[q.2 _ h2 (fun b hb=>lZ a b h1 hb)];exact h3⟩⟩
theorem SI.GO{R:Type}{h:AH}{s:Sl}{xs:List Int}(p:SI h s xs)(lZ:xs≠[])(K:List Value→Option R):GO h s.a (s.l*1) K=K (iv xs):=by
 have hl:0<xs.length:=List.length_pos_iff.2 lZ
 obtain⟨a,h1,h2,h3⟩:=p.2 0 hl
 unfold Abs.GO
 rw[h1]
 unfold AH.cell at h3
 cases hb:h.iN a.block with
 |none=>rw[hb] at h3;cases h3
 |some cs=>
  simp only
  have mS:∀i (hi:i<xs.length),cs[a.off+i]?=some (.int .i64 xs[i]):=by
   intro i hi
   obtain⟨a',g1,g2,g3⟩:=p.2 i hi
   rw[h1] at g1
   cases g1
   unfold AH.cell at g3
   rw[hb] at g3
   exact g3
  have hlen:a.off+xs.length≤cs.length:=by
   have h4:=mS (xs.length-1) (by omega)
   have h5:a.off+(xs.length-1)<cs.length:=by
    refine Classical.byContradiction fun hc=>?_
    rw[List.getElem?_eq_none (by omega)] at h4
    cases h4
   omega
  simp only[hb]
  rw[p.1,Nat.mul_one,if_pos hlen]
  congr 1
  apply List.ext_getElem?
  intro i
  by_cases hi:i<xs.length
  ·rw[List.getElem?_take,if_pos hi,List.getElem?_drop,mS i hi,M1 xs i hi]
  ·rw[List.getElem?_take,if_neg hi,List.getElem?_eq_none (by simp;omega)]
theorem SI.lt{h:AH}{s:Sl}{xs:List Int}(p:SI h s xs)(lZ:xs≠[]):∀a,s.a=some a→a.block<h.next:=by
 obtain⟨a,h1,h2,_⟩:=p.2 0 (List.length_pos_iff.2 lZ)
 intro b hb
 rw[h1] at hb;cases hb;exact h2
end Go.Abs
end
section
namespace Go.Abs
open Go.RowKit Go.ChangeShapes Go.WideShapes
def nice(n:Nat):Value→Bool
 |.bool _=>true
 |.int _ _=>true
 |.pointer none=>true
 |.pointer (some a)=>decide (a.block<n)&&a.spot.isNone
 |.slice none l c=>decide (l=0)&&decide (c=0)
 |.slice (some a) l c=>(decide (l=0)&&decide (c=0))||(decide (a.block<n)&&a.spot.isNone&&decide (c<oB)&&decide (l≤c))
 |_=>false
def img(n:Nat)(v:Value):Value:=if nice n v=true then v else .tuple #[]
def muW(w:World):Mu:=fun b=>if b<w.heap.size then some (b,0) else none
theorem aBJ{w:World}{b:Nat}(h:b<w.heap.size):muW w b=some (b,0):=by unfold muW;rw[if_pos h]
theorem alD{w:World}{b rb o:Nat}(h:muW w b=some (rb,o)):rb=b∧o=0∧b<w.heap.size:=by
 unfold muW at h
 split at h
 ·simp only[Option.some.injEq,Prod.mk.injEq] at h;exact⟨h.1.symm,h.2.symm,by assumption⟩
 ·cases h
theorem ab5{w:World}{sz:Nat→Nat}{v:Value}(h:nice w.heap.size v=true):cU (muW w) sz v v:=by
 unfold nice at h
 split at h
 ·exact .bool _
 ·exact .int _ _
 ·exact .VY
 ·rename_i a
  simp only[Bool.and_eq_true,decide_eq_true_eq,Option.isNone_iff_eq_none] at h
  obtain⟨b,o,s⟩:=a
  obtain⟨h1,h2⟩:=h
  simp only at h2;subst h2
  have:=cU.ptr (μ:=muW w) (sz:=sz) (b:=b) (o:=o) (s:=none) (aBJ h1)
  rwa[Nat.zero_add] at this
 ·rename_i l c
  simp only[Bool.and_eq_true,decide_eq_true_eq] at h
  obtain⟨rfl,rfl⟩:=h
  exact .mR
 ·rename_i a l c
  simp only[Bool.or_eq_true,Bool.and_eq_true,decide_eq_true_eq,Option.isNone_iff_eq_none] at h
  rcases h with⟨rfl,rfl⟩|⟨⟨⟨h1,h2⟩,h3⟩,h4⟩
  ·exact .ago
  ·obtain⟨b,o,s⟩:=a
   simp only at h2;subst h2
   have:=cU.slice (μ:=muW w) (sz:=sz) (b:=b) (o:=o) (s:=none) (aBJ h1) h3 h4
   rwa[Nat.zero_add] at this
 ·cases h
theorem aHc{w:World}{sz:Nat→Nat}(v:Value):cU (muW w) sz (img w.heap.size v) v:=by
 unfold img
 split
 ·exact ab5 (by assumption)
 ·exact .xU v
def Up(w:World):AH:=⟨w.heap.size,fun b=>match w.heap[b]? with
 |some (.cells c _ _)=>some (c.toList.map (img w.heap.size))
 |_=>none⟩
theorem alE{w:World}{b:Nat}{cs:List Value}(h:(Up w).iN b=some cs):∃c t f,w.heap[b]?=some (.cells c t f)∧cs=c.toList.map (img w.heap.size):=by
 unfold Up at h
 simp only at h
 split at h
 ·rename_i c t f e;injection h with h;exact⟨c,t,f,e,h.symm⟩
 ·cases h
theorem ahT{w:World}{b:Nat}{cs:List Value}(h:(Up w).iN b=some cs):b<w.heap.size:=by
 obtain⟨c,t,f,e,_⟩:=alE h
 exact(Array.getElem?_eq_some_iff.1 e).1
theorem aBK(w:World):Dd w.heap.size w.heap.size (muW w) (Up w) w where
 cell b cs rb o h1 h2 j v hv:=by
  obtain⟨rfl,rfl,_⟩:=alD h2
  obtain⟨c,t,f,e,rfl⟩:=alE h1
  rw[List.getElem?_map] at hv
  cases hc:c.toList[j]? with
  |none=>rw[hc] at hv;cases hv
  |some v'=>
   rw[hc] at hv
   simp only[Option.map_some,Option.some.injEq] at hv
   subst hv
   refine⟨v',?_,aHc v'⟩
   simp only[World.cell?,e,Nat.zero_add]
   simpa using hc
 own b cs rb o h0 h1 _:=by have:=ahT h1;omega
 inj b b' cs fC rb o o' h0 h1:=by have:=ahT h1;omega
 lt b rb o h:=by obtain⟨rfl,_,h3⟩:=alD h;exact h3
 bnd b cs h:=ahT h
theorem QP{w:World}{a:Addr}{v:Value}(h:w.cell? a=some v):a.spot=none∧a.block<w.heap.size∧(Up w).cell a.block a.off=some (img w.heap.size v):=by
 unfold World.cell? at h
 split at h
 ·rename_i c t f e
  split at h
  ·cases h
  ·rename_i hs
   refine⟨by simpa using hs,(Array.getElem?_eq_some_iff.1 e).1,?_⟩
   unfold AH.cell Up
   simp only[e,List.getElem?_map]
   rw[show c.toList[a.off]?=some v by simpa using h]
   rfl
 ·cases h
theorem J7(a:Addr)(n:Nat):(a.add n).block=a.block∧(a.add n).off=a.off+n:=by unfold Addr.add;split<;>simp_all
theorem aHd{P:Program}{C:Callee}(hC:gF P C){f:FuncId}{args args':List Value}{b:Bool}{w:World}{h':AH}(e:C w.heap.size f args (Up w)=some (.bool b,h'))(ha:bN (muW w) (dD w) args args'):
 Calls P f args'.toArray w fun e w'=>e=.returned (.bool b)∧Below w.heap.size w w':=by
 refine(hC.sound _ _ _ _ _ _ e w.heap.size w.heap.size (muW w) w args' (aBK w) (Nat.le_refl _) (Nat.le_refl _) (Nat.le_refl _) ha ?_).mono ?_
 ·intro c h1 _
  unfold muW
  rw[if_neg (by have:w.heap.size≤c:=h1;omega)]
 ·rintro e' w' ⟨v',μ',rfl,p,hv⟩
  have:=hv.xm
  subst this
  exact⟨rfl,⟨p.os,p.tape,p.output,p.hs,fun rb Lh=>p.fr rb Lh fun c cs o h1 h2=>by have:c<w.heap.size:=h2;omega⟩⟩
section
variable{H:Type}{enc:TypeId×Value→H}{P:Program}{w:World}{held:Bool}
theorem SI.open{t e:TypeId}{fuel:Nat}{a:Option Addr}{l c:Nat}{x:DataW H×List MemPlace}(ht:P.underlying t=some (.slice e))(he:P.underlying e=some (.int .i64))(hc:P.cellsOf e=1)
 (h:DataW.trod enc P w 0 (fun _=>true) held fuel t [.slice a l c]=some x):∃xs:List Int,SI (Up w) ⟨a,l,c⟩ xs∧xs.length≤maxLen∧nice w.heap.size (.slice a l c)=true∧∀n∈xs,(Lit.int .i64 n).wf=true:=by
 rcases open_ints ht he hc h with⟨hcs,_⟩|⟨x,l',c',zs,hcs,_,hl,hm,hz,_,mS,hwz⟩
 ·simp only[List.cons.injEq,Value.slice.injEq,and_true] at hcs
  obtain⟨rfl,rfl,rfl⟩:=hcs
  exact⟨[],SI.nil _,by simp,rfl,by simp⟩
 ·simp only[List.cons.injEq,Value.slice.injEq,and_true] at hcs
  obtain⟨rfl,rfl,rfl⟩:=hcs
  simp only[if_true] at hz
  have hlen:(zs.take l).length=l:=by simp;omega
  refine⟨zs.take l,⟨hlen.symm,fun i hi=>?_⟩,by omega,?_,fun n hn=>hwz n (List.mem_of_mem_take hn)⟩
  ·have JO:i<zs.length:=by rw[hlen] at hi;omega
   obtain⟨h1,h2,h3⟩:=QP (mS i JO)
   rw[(J7 x i).1,(J7 x i).2] at h3
   rw[(J7 x i).1] at h2
   refine⟨x,rfl,h2,?_⟩
   rw[h3]
   simp[img,nice,List.getElem?_eq_getElem JO]
  ·by_cases h0:c=0
   ·have:l=0:=by omega
    subst h0;subst this;simp[nice]
   ·have h1:=QP (mS 0 (by omega))
    have e0:x.add 0=x:=by simp[Addr.add]
    rw[e0] at h1
    obtain⟨h1,h2,_⟩:=h1
    simp[nice,h1,h2,hl]
    right
    unfold maxLen at hm;unfold oB;omega
end
end Go.Abs
end
section
namespace Go.Abs.fn
abbrev gO:Nat:=3
abbrev ey:Nat:=11
abbrev pU:Nat:=12
abbrev eP:Nat:=13
abbrev kZ:Nat:=14
abbrev dG:Nat:=15
abbrev k8:Nat:=16
abbrev cN:Nat:=17
abbrev lE:Nat:=18
abbrev jJ:Nat:=20
abbrev lF:Nat:=23
abbrev lG:Nat:=25
abbrev oE:Nat:=28
abbrev tC:Nat:=29
abbrev pV:Nat:=32
abbrev qN:Nat:=33
abbrev QQ:Nat:=37
abbrev eQ:Nat:=38
abbrev cY:Nat:=39
abbrev cZ:Nat:=40
abbrev mX:Nat:=41
abbrev pW:Nat:=42
abbrev gj:Nat:=43
abbrev ij:Nat:=44
abbrev ik:Nat:=45
abbrev zG:Nat:=46
abbrev ep:Nat:=47
abbrev iY:Nat:=48
abbrev oF:Nat:=49
abbrev cM:Nat:=54
abbrev yO:Nat:=55
abbrev jK:Nat:=56
abbrev jL:Nat:=59
abbrev zH:Nat:=60
abbrev iZ:Nat:=62
abbrev mn:Nat:=63
abbrev yP:Nat:=64
abbrev yQ:Nat:=65
abbrev qO:Nat:=66
abbrev vy:Nat:=67
abbrev Dr:Nat:=68
abbrev aaw:Nat:=69
abbrev k9:Nat:=70
abbrev cD:Nat:=73
abbrev mo:Nat:=74
abbrev fB:Nat:=75
abbrev bm:Nat:=76
abbrev de:Nat:=77
abbrev IT:Nat:=78
abbrev gY:Nat:=79
abbrev pX:Nat:=80
abbrev ab6:Nat:=81
abbrev gH:Nat:=82
abbrev qP:Nat:=83
abbrev mY:Nat:=84
abbrev EZ:Nat:=85
abbrev ja:Nat:=86
abbrev yR:Nat:=89
abbrev mq:Nat:=90
abbrev jb:Nat:=91
abbrev gP:Nat:=94
abbrev mw:Nat:=96
abbrev pY:Nat:=97
abbrev jc:Nat:=98
abbrev jd:Nat:=99
abbrev lH:Nat:=100
abbrev qQ:Nat:=101
abbrev c7:Nat:=102
abbrev je:Nat:=103
abbrev fR:Nat:=104
abbrev QR:Nat:=105
abbrev my:Nat:=106
abbrev mz:Nat:=109
abbrev j8:Nat:=110
abbrev E0:Nat:=111
abbrev mA:Nat:=112
abbrev jf:Nat:=113
abbrev cX:Nat:=114
abbrev eA:Nat:=115
abbrev c8:Nat:=116
abbrev ko:Nat:=117
abbrev eS:Nat:=118
abbrev gQ:Nat:=119
abbrev dy:Nat:=120
abbrev zX:Nat:=121
abbrev hX:Nat:=123
abbrev jg:Nat:=124
abbrev gI:Nat:=125
abbrev tD:Nat:=126
abbrev qR:Nat:=127
abbrev fL:Nat:=128
abbrev fM:Nat:=134
abbrev oh:Nat:=136
abbrev mZ:Nat:=137
abbrev jM:Nat:=138
abbrev fS:Nat:=139
abbrev gm:Nat:=140
abbrev m4:Nat:=141
abbrev m6:Nat:=142
abbrev hZ:Nat:=143
abbrev gn:Nat:=144
abbrev oX:Nat:=145
abbrev la:Nat:=146
abbrev m7:Nat:=147
abbrev gp:Nat:=148
abbrev jh:Nat:=149
abbrev zY:Nat:=150
abbrev Ds:Nat:=151
abbrev zZ:Nat:=152
abbrev pZ:Nat:=153
abbrev tE:Nat:=154
abbrev qa:Nat:=155
abbrev df:Nat:=156
abbrev gZ:Nat:=157
abbrev dz:Nat:=158
abbrev eB:Nat:=159
abbrev xp:Nat:=160
abbrev fN:Nat:=161
abbrev dX:Nat:=162
abbrev fO:Nat:=166
abbrev bX:Nat:=167
abbrev fP:Nat:=168
abbrev fQ:Nat:=169
abbrev il:Nat:=170
abbrev lf:Nat:=171
abbrev iQ:Nat:=172
abbrev qb:Nat:=173
abbrev Dt:Nat:=174
abbrev jN:Nat:=175
abbrev gR:Nat:=176
abbrev vz:Nat:=177
abbrev vA:Nat:=178
abbrev ai:Nat:=179
abbrev vB:Nat:=180
abbrev HV:Nat:=181
abbrev iw:Nat:=185
abbrev qS:Nat:=186
abbrev oG:Nat:=187
abbrev eG:Nat:=188
abbrev E3:Nat:=189
abbrev yS:Nat:=190
abbrev nN:Nat:=191
abbrev mB:Nat:=192
abbrev cV:Nat:=193
abbrev eC:Nat:=194
abbrev aN:Nat:=195
abbrev aB:Nat:=196
abbrev oH:Nat:=198
abbrev m8:Nat:=201
end Go.Abs.fn
namespace Go.Abs.P
open CP
theorem aXU{s:List Value}{n:Nat}{c:aa}{rs:List MT}{C:Callee}{fl k:Nat}{F:AH→Option (Value×AH)}(e:cp s (ce C fl k c (aG rs))=F){a:List Value}{h:AH}{r:Option (Value×AH)}(e1:a++List.replicate (n-a.length) undef=s)(e2:F h=r):aV C fl k ⟨n,c,rs⟩ a h=r:=by subst e2;subst e;unfold aV;simp only[];rw[e1];rfl
theorem IU{T0:Type}{s:T0→List Value}{n:Nat}{c:aa}{rs:List MT}{C:Callee}{fl k:Nat}{F:T0→AH→Option (Value×AH)}(e:cp s (ce C fl k c (aG rs))=F)(x0:T0){a:List Value}{h:AH}{r:Option (Value×AH)}(e1:a++List.replicate (n-a.length) undef=s x0)(e2:F x0 h=r):aV C fl k ⟨n,c,rs⟩ a h=r:=by subst e2;subst e;unfold aV;simp only[];rw[e1];rfl
theorem tF{T0 T1:Type}{s:T0→T1→List Value}{n:Nat}{c:aa}{rs:List MT}{C:Callee}{fl k:Nat}{F:T0→T1→AH→Option (Value×AH)}(e:cp s (ce C fl k c (aG rs))=F)(x0:T0)(x1:T1){a:List Value}{h:AH}{r:Option (Value×AH)}(e1:a++List.replicate (n-a.length) undef=s x0 x1)(e2:F x0 x1 h=r):aV C fl k ⟨n,c,rs⟩ a h=r:=by subst e2;subst e;unfold aV;simp only[];rw[e1];rfl
theorem tG{T0 T1 T2:Type}{s:T0→T1→T2→List Value}{n:Nat}{c:aa}{rs:List MT}{C:Callee}{fl k:Nat}{F:T0→T1→T2→AH→Option (Value×AH)}(e:cp s (ce C fl k c (aG rs))=F)(x0:T0)(x1:T1)(x2:T2){a:List Value}{h:AH}{r:Option (Value×AH)}(e1:a++List.replicate (n-a.length) undef=s x0 x1 x2)(e2:F x0 x1 x2 h=r):aV C fl k ⟨n,c,rs⟩ a h=r:=by subst e2;subst e;unfold aV;simp only[];rw[e1];rfl
theorem QS{T0 T1 T2 T3:Type}{s:T0→T1→T2→T3→List Value}{n:Nat}{c:aa}{rs:List MT}{C:Callee}{fl k:Nat}{F:T0→T1→T2→T3→AH→Option (Value×AH)}(e:cp s (ce C fl k c (aG rs))=F)(x0:T0)(x1:T1)(x2:T2)(x3:T3){a:List Value}{h:AH}{r:Option (Value×AH)}(e1:a++List.replicate (n-a.length) undef=s x0 x1 x2 x3)(e2:F x0 x1 x2 x3 h=r):aV C fl k ⟨n,c,rs⟩ a h=r:=by subst e2;subst e;unfold aV;simp only[];rw[e1];rfl
theorem oY{T0 T1 T2 T3 T4:Type}{s:T0→T1→T2→T3→T4→List Value}{n:Nat}{c:aa}{rs:List MT}{C:Callee}{fl k:Nat}{F:T0→T1→T2→T3→T4→AH→Option (Value×AH)}(e:cp s (ce C fl k c (aG rs))=F)(x0:T0)(x1:T1)(x2:T2)(x3:T3)(x4:T4){a:List Value}{h:AH}{r:Option (Value×AH)}(e1:a++List.replicate (n-a.length) undef=s x0 x1 x2 x3 x4)(e2:F x0 x1 x2 x3 x4 h=r):aV C fl k ⟨n,c,rs⟩ a h=r:=by subst e2;subst e;unfold aV;simp only[];rw[e1];rfl
theorem Uq{T0 T1 T2 T3 T4 T5:Type}{s:T0→T1→T2→T3→T4→T5→List Value}{n:Nat}{c:aa}{rs:List MT}{C:Callee}{fl k:Nat}{F:T0→T1→T2→T3→T4→T5→AH→Option (Value×AH)}(e:cp s (ce C fl k c (aG rs))=F)(x0:T0)(x1:T1)(x2:T2)(x3:T3)(x4:T4)(x5:T5){a:List Value}{h:AH}{r:Option (Value×AH)}(e1:a++List.replicate (n-a.length) undef=s x0 x1 x2 x3 x4 x5)(e2:F x0 x1 x2 x3 x4 x5 h=r):aV C fl k ⟨n,c,rs⟩ a h=r:=by subst e2;subst e;unfold aV;simp only[];rw[e1];rfl
theorem axU{T0 T1 T2 T3 T4 T5 T6:Type}{s:T0→T1→T2→T3→T4→T5→T6→List Value}{n:Nat}{c:aa}{rs:List MT}{C:Callee}{fl k:Nat}{F:T0→T1→T2→T3→T4→T5→T6→AH→Option (Value×AH)}(e:cp s (ce C fl k c (aG rs))=F)(x0:T0)(x1:T1)(x2:T2)(x3:T3)(x4:T4)(x5:T5)(x6:T6){a:List Value}{h:AH}{r:Option (Value×AH)}(e1:a++List.replicate (n-a.length) undef=s x0 x1 x2 x3 x4 x5 x6)(e2:F x0 x1 x2 x3 x4 x5 x6 h=r):aV C fl k ⟨n,c,rs⟩ a h=r:=by subst e2;subst e;unfold aV;simp only[];rw[e1];rfl
theorem aXV{T0 T1 T2 T3 T4 T5 T6 T7:Type}{s:T0→T1→T2→T3→T4→T5→T6→T7→List Value}{n:Nat}{c:aa}{rs:List MT}{C:Callee}{fl k:Nat}{F:T0→T1→T2→T3→T4→T5→T6→T7→AH→Option (Value×AH)}(e:cp s (ce C fl k c (aG rs))=F)(x0:T0)(x1:T1)(x2:T2)(x3:T3)(x4:T4)(x5:T5)(x6:T6)(x7:T7){a:List Value}{h:AH}{r:Option (Value×AH)}(e1:a++List.replicate (n-a.length) undef=s x0 x1 x2 x3 x4 x5 x6 x7)(e2:F x0 x1 x2 x3 x4 x5 x6 x7 h=r):aV C fl k ⟨n,c,rs⟩ a h=r:=by subst e2;subst e;unfold aV;simp only[];rw[e1];rfl
end Go.Abs.P
end
section
namespace Go.Proofs
open Go.RowKit Go.Shelf Go.Maps
def Sq.intOf:Value→Int|.int _ q=>q|_=>0
attribute [local go_sem] Oper.semAt_some
def Sq.upto{α:Type}(f:Nat→α)(k:Nat):List α:=(List.range k).map f
theorem Sq.agL{α:Type}(f:Nat→α)(k:Nat):Sq.upto f (k+1)=Sq.upto f k++[f k]:=by simp[Sq.upto,List.range_succ]
theorem Sq.alF{α:Type}(f:Nat→α)(k:Nat):(Sq.upto f k).length=k:=by simp[Sq.upto]
theorem Sq.aBL(zs:List Int):Sq.upto (fun j=>zs[j]?.getD 0) zs.length=zs:=by
 apply List.ext_getElem
 ·simp[Sq.upto]
 ·intro i h1 h2
  simp[Sq.upto,h2]
set_option maxRecDepth 100000 in
set_option maxHeartbeats 2000000 in
theorem Sq.aru(F:Fence)(n:Nat)(h187:F.fn 187)(hro:F.round=none)(hn:1≤n)(l Bs Bo n₀ b off len cap:Nat)(zs:List Int)(hreach:len*8≤140737488351232)(hb:b<n₀)(J Jx:List Int→World→Prop)
 (hY:∀pre x W,J pre W→pre.length<len→YieldAt F (n-1) Tryz.prog l #[.int .i64 x] W fun e W'=>
  (e=.returned (.bool true)∧J (pre++[x]) W'∧Below n₀ W W')∨(e=.returned (.bool false)∧Jx (pre++[x]) W'))
 (W:World) (hBs:W.cell? ⟨Bs,Bo,none⟩=some (.slice (some ⟨b,off,none⟩) len cap)) (hc:∀j,j<len→W.cell? ⟨b,off+j,none⟩=some (.int .i64 (zs[j]?.getD 0))) (h0:J [] W):
 CallsIn F n Tryz.prog 187 #[.func (.yield l) #[] #[],.pointer (some ⟨Bs,Bo,none⟩)] W fun e W'=>(∃v,e=.returned v)∧
  ((∃ys,ys=Sq.upto (fun j=>zs[j]?.getD 0) len∧J ys W')∨(∃pre,(∃k,k≤len∧pre=Sq.upto (fun j=>zs[j]?.getD 0) k)∧Jx pre W')):=by
 refine callsIn_of_wp Tryz.func187 rfl h187 ?_ hro
 simp only[Tryz.ntmps187,List.size_toArray,List.length_cons,List.length_nil,Nat.reduceAdd,Nat.reduceSub,Array.replicate_succ,Array.replicate_zero,List.push_toArray,List.append_toArray,List.nil_append,List.cons_append]
 gi_wp2
 gi_loopw [7] (fun i wr=>∃k:Nat,k≤len∧i=.int .i64 k∧J (Sq.upto (fun j=>zs[j]?.getD 0) k) wr∧Below n₀ W wr)
  (fun i _=>len-(Sq.intOf i).toNat)
 case atStart=>exact⟨0,Nat.zero_le _,rfl,h0,Below.refl _ _⟩
 case round=>
  obtain⟨k,hk,rfl,hJs,hnx⟩:=hrel
  have hcx:k<len→wr.cell? ⟨b,off+k,none⟩=some (.int .i64 (zs[k]?.getD 0)):=fun h=>(hnx.cell (p:=⟨b,off+k,none⟩) hb).trans (hc k h)
  by_cases hlt:k<len
  ·obtain⟨fn,tmps,assign,body,hy,hR⟩:=hY _ (zs[k]?.getD 0) wr hJs (by rw[Sq.alF];exact hlt)
   have hcx':=hcx hlt
   gi_wp2
   refine hR.mono ?_
   rintro e W3 (⟨rfl,hJ3,hk3⟩|⟨rfl,hJx3⟩)
   ·
     gi_wp2
     go_roundw
     case rel=>exact⟨k+1,by omega,by simp,by rw[Sq.agL];exact hJ3,hnx.trans hk3⟩
     case measure=>simp[Sq.intOf];omega
   ·gi_wp2
    refine bodyPost_ret (results_none rfl _ _ _) rfl ?_
    exact⟨⟨_,rfl⟩,.inr ⟨_,⟨k+1,by omega,(Sq.agL _ _).symm⟩,hJx3⟩⟩
  ·obtain rfl:k=len:=by omega
   gi_wp2
   go_end0
   exact⟨⟨_,rfl⟩,.inl ⟨_,rfl,hJs⟩⟩
theorem Sq.axV(zs:List Int){k:Nat}(hk:k≤zs.length):Sq.upto (fun j=>zs[j]?.getD 0) k=zs.take k:=by
 apply List.ext_getElem
 ·simp[Sq.upto,hk]
 ·intro i h1 h2
  have:i<zs.length:=by simp[Sq.upto] at h1;omega
  simp[Sq.upto,this]
def Sq.axW(n₀:Nat)(W:World)(sv:Value)(zs:List Int):Prop:=
 (sv=.slice none 0 0∧zs=[])∨∃b off cap,sv=.slice (some ⟨b,off,none⟩) zs.length cap∧b<n₀∧∀j,j<zs.length→W.cell? ⟨b,off+j,none⟩=some (.int .i64 (zs[j]?.getD 0))
theorem Sq.axW.below{n₀:Nat}{A B:World}(h:Below n₀ A B){sv:Value}{zs:List Int}:Sq.axW n₀ A sv zs→Sq.axW n₀ B sv zs
 |.inl e=>.inl e
 |.inr ⟨b,off,cap,e,hb,hc⟩=>.inr ⟨b,off,cap,e,hb,fun j hj=>(h.cell (p:=⟨b,off+j,none⟩) hb).trans (hc j hj)⟩
set_option maxRecDepth 100000 in
set_option maxHeartbeats 1000000 in
theorem Sq.ab7(F:Fence)(n:Nat)(h187:F.fn 187)(hro:F.round=none)(l Bs Bo:Nat)(J:List Int→World→Prop)(W:World)(hBs:W.cell? ⟨Bs,Bo,none⟩=some (.slice none 0 0))(h0:J [] W):
 CallsIn F n Tryz.prog 187 #[.func (.yield l) #[] #[],.pointer (some ⟨Bs,Bo,none⟩)] W fun e W'=>(∃v,e=.returned v)∧J [] W':=by
 refine callsIn_of_wp Tryz.func187 rfl h187 ?_ hro
 simp only[Tryz.ntmps187,List.size_toArray,List.length_cons,List.length_nil,Nat.reduceAdd,Nat.reduceSub,Array.replicate_succ,Array.replicate_zero,List.push_toArray,List.append_toArray,List.nil_append,List.cons_append]
 gi_wp2
 gi_loopw [7] (fun i wr=>i=.int .i64 0∧J [] wr) (fun _ _=>0)
 case atStart=>exact⟨rfl,h0⟩
 case round=>
  obtain⟨rfl,hJs⟩:=hrel
  gi_wp2
  go_end0
  exact⟨⟨_,rfl⟩,hJs⟩
theorem Sq.ahU(F:Fence)(n:Nat)(h187:F.fn 187)(hro:F.round=none)(hn:1≤n)(Bs Bo n₀:Nat)(sv:Value)(zs:List Int)(hreach:zs.length*8≤140737488351232)(w:World)(hBs:Bs<w.heap.size)(hn₀:n₀≤w.heap.size)
 (hc:w.cell? ⟨Bs,Bo,none⟩=some sv) (hI:Sq.axW n₀ w sv zs):
 SeqStopsK F n Tryz.prog 187 #[.pointer (some ⟨Bs,Bo,none⟩)] (fun x:Int=>#[Value.int .i64 x]) (Below n₀) (fun ys=>ys=zs) (fun pre=>pre<+:zs) zs.length w:=fun l J Jx W hW _ _ hY h0=>by
 have hc':=(hW.cell (p:=⟨Bs,Bo,none⟩) hBs).trans hc
 rcases hI.below (hW.mono hn₀) with⟨rfl,rfl⟩|⟨b,off,cap,rfl,hb,hcs⟩
 ·exact(Sq.ab7 F n h187 hro l Bs Bo J W hc' h0).mono fun e W' ⟨he,hj⟩=>⟨he,.inl ⟨_,rfl,hj⟩⟩
 ·refine(Sq.aru F n h187 hro hn l Bs Bo n₀ b off zs.length cap zs hreach hb J Jx hY W hc' hcs h0).mono ?_
  rintro e W' ⟨he,⟨ys,rfl,hj⟩|⟨pre,⟨k,hk,rfl⟩,hj⟩⟩
  ·exact⟨he,.inl ⟨_,Sq.aBL zs,hj⟩⟩
  ·exact⟨he,.inr ⟨_,by rw[Sq.axV zs hk];exact List.take_prefix _ _,hj⟩⟩
theorem Sq.IV{W:World}{B:Nat}{v:Value}{t:TypeId}(h:W.heap[B]?=some (.cells #[v] t (0,0))):W.cell? ⟨B,0,none⟩=some v∧W.frozen? ⟨B,0,none⟩=false:=by
 constructor<;>simp[World.cell?,World.frozen?,h]
theorem Sq.Ur{W:World}{B:Nat}{v:Value}{t:TypeId}(v':Value)(h:W.heap[B]?=some (.cells #[v] t (0,0))):(W.setCell ⟨B,0,none⟩ v').heap[B]?=some (.cells #[v'] t (0,0)):=by
 obtain⟨hlt,hk⟩:=Array.getElem?_eq_some_iff.1 h
 show(W.heap.modify B _)[B]?=_
 rw[Array.getElem?_eq_getElem (by rw[Array.size_modify];exact hlt),Array.getElem_modify_self,hk]
 rfl
theorem Sq.Us(W:World)(b:Nat)(v:Value):W.grownBy (W.setCell ⟨b,0,none⟩ v) (some b):=
 ⟨rfl,rfl,rfl,(KeepsWalks.setCell W _ v).size,fun k _ hk=>Below.heap_setCell _ _ _ k (fun e=>hk (by rw[e]))⟩
theorem Sq.aeJ{W:World}{base:Nat}{e:TypeId}{size:Nat}{v:Value}{k:Nat}{xs:List Value}(h:W.ownsRow base e size v k xs):∀(j:Nat) (o:Obj),v.ownBlock=some j→W.heap[j]?=some o→o.isCells=true:=by
 intro j o hj ho
 rcases h.2 with⟨rfl,_⟩|⟨g,cap,cur,rfl,_,hgb,_⟩
 ·simp[Value.ownBlock] at hj
 ·have:g=j:=by simpa [Value.ownBlock] using hj
  subst this;rw[hgb] at ho;cases ho;rfl
theorem Sq.M3{W:World}{base:Nat}{e:TypeId}{size:Nat}{v:Value}{k:Nat}{xs:List Value}(h:W.ownsRow base e size v k xs){j:Nat}{o:Obj}(hj:W.heap[j]?=some o)(ho:∀cur,o≠.cells cur e (0,0)):some j≠v.ownBlock:=by
 rcases h.2 with⟨rfl,_⟩|⟨g,cap,cur,rfl,_,hg,_⟩
 ·simp[Value.ownBlock]
 ·intro e'
  simp[Value.ownBlock] at e'
  subst e'
  rw[hj] at hg
  exact ho _ (Option.some.inj hg)
def Sq.At(w:World)(pre:List Int)(W:World):Prop:=
 (∃v,W.heap[w.heap.size]?=some (.cells #[v] 22 (0,0))∧W.ownsRow w.heap.size 3 1 v pre.length (pre.map (Value.int .i64))∧(v=.slice none 0 0↔pre=[]))∧Below w.heap.size w W
theorem Sq.aQa(w:World):OwnFrom (w.heap.size+1) (Sq.At w):=fun s W W' row h hg hr=>by
 obtain⟨⟨v,hv,hrow,hnil⟩,hb⟩:=h
 have hr':∀r,row=some r→∃o:Obj,W.heap[r]?=some o∧o.isCells=false:=fun r e=>(hr r e).2
 refine⟨⟨v,(grownBy_keeps_cells hg hr' hv rfl).trans hv,⟨hrow.1,?_⟩,hnil⟩,hb.grown hg hb.size (fun k e=>by have:=(hr k e).1;omega)⟩
 rcases hrow.2 with h1|⟨g,cap,cur,h1,h2,h3,h4⟩
 ·exact .inl h1
 ·exact .inr ⟨g,cap,cur,h1,h2,(grownBy_keeps_cells hg hr' h3 rfl).trans h3,h4⟩
set_option maxRecDepth 100000 in
set_option maxHeartbeats 2000000 in
theorem Sq.ahV(F:Fence)(n:Nat)(h201:F.fn 201)(h187:F.fn 187)(hro:F.round=none)(hn:3≤n)(Bs Bo:Nat)(sv:Value)(zs:List Int)(hlen:zs.length≤maxLen)(hreach:zs.length*8≤140737488351232)(w:World)
 (hBs:Bs<w.heap.size) (hc:w.cell? ⟨Bs,Bo,none⟩=some sv) (hI:Sq.axW w.heap.size w sv zs):
 CallsIn F n Tryz.prog 201 #[.slice none 0 0,.func (.func 187) #[] #[.pointer (some ⟨Bs,Bo,none⟩)]] w fun e W'=>
  ∃v,e=.returned v∧W'.ownsRow w.heap.size 3 1 v zs.length (zs.map (Value.int .i64))∧(v=.slice none 0 0↔zs=[])∧Below w.heap.size w W':=by
 have h1:1≤n:=by omega
 refine callsIn_of_wp_marks Tryz.func201 rfl h201 ?_ hro
 simp only[Tryz.ntmps201,List.size_toArray,List.length_cons,List.length_nil,Nat.reduceAdd,Nat.reduceSub,Array.replicate_succ,Array.replicate_zero,List.push_toArray,List.append_toArray,List.nil_append,List.cons_append]
 gi_wp2
 have bS:=Boxed.new w 22 (.slice none 0 0)
 have hB0:Below w.heap.size w (w.alloc (.cells #[.slice none 0 0] 22)):=(Below.refl _ w).alloc (Nat.le_refl _) _
 refine wpIn_rangeFunc_ownG hro h1 (gf:=187) (lb:=#[.pointer (some ⟨Bs,Bo,none⟩)]) rfl h187 (enters_of Tryz.func187 (by kernel_rfl) rfl)
  (Sq.ahU F (n-1) h187 hro (by omega) Bs Bo w.heap.size sv zs hreach (w.alloc (.cells #[.slice none 0 0] 22)) (by simp;omega) (by simp) ((hB0.cell (p:=⟨Bs,Bo,none⟩) hBs).trans hc) (hI.below hB0)) belowK_t (belowK_b (by simp)) (Below.refl _ _) (fun _=>rfl)
  (Sq.At w) (fun _ _ _=>False) (by simpa using Sq.aQa w) (fun _ _ _ _ _ hs _ _=>hs)
  ⟨⟨_,World.alloc_heap_new w _,⟨rfl,.inl ⟨rfl,rfl⟩⟩,by simp⟩,hB0⟩
  (fun x=>{tmps:=#[.slice none 0 0,.func (.func 187) #[] #[.pointer (some ⟨Bs,Bo,none⟩)],.pointer (some ⟨w.heap.size,0,none⟩),undef,.slice none 0 0,.int .i64 x,.func (.func 187) #[] #[.pointer (some ⟨Bs,Bo,none⟩)],.int .i64 x,undef,undef,undef,undef,undef],defers:=[]}) ?assign ?body ?done ?stop
 case assign=>
  intro l x W K hK
  gi_wp2
  exact hK
 case body=>
  rintro l pre x W ⟨⟨v,hv,hrow,hnil⟩,hB⟩ hlen'
  obtain⟨hc2,hf2⟩:=Sq.IV hv
  have hBlt:w.heap.size<W.heap.size:=(Array.getElem?_eq_some_iff.1 hv).1
  obtain⟨i0,hi,hz0,hz1,hz2⟩:∃i0,Tryz.prog.info? 3=some i0∧i0.zero=some (.int .i64 0)∧i0.size=1∧i0.bytes=8:=⟨_,rfl,rfl,rfl,rfl⟩
  gi_wp2_with (gi_at_builtin;refine wpListIn_append_own _ rfl _ _ 22 rfl w.heap.size 3 i0 (.int .i64 0) 1 8 rfl hi hz0 hz1 hz2 rfl (by decide) _ _ _ rfl (hrow.alloc _) ⟨W.heap.size,0,none⟩ 1 1 [.int .i64 x] rfl rfl (cell_one_new _ _ _) (by simp[Value.oneCell']) (by omega) (by omega) (by have:=hB.size;simp;omega) ?_;intro v' w3 hown' hg3 hnil3
               have hv3:w3.heap[w.heap.size]?=some (.cells #[v] 22 (0,0)):=(hg3.block w.heap.size (by simp;omega) (Sq.M3 hrow hv (fun cur e=>by cases e))).trans ((Below.heap_alloc _ _ w.heap.size hBlt).trans hv)
               obtain⟨hc3,hf3⟩:=Sq.IV hv3
               obtain⟨g',cap',cur',rfl,hr0⟩:∃g' cap' cur',v'=.slice (some ⟨g',0,none⟩) (pre.length+1) cap'∧w3.heap[g']?=some (.cells cur' 3 (0,0)):=by
                rcases hown'.2 with⟨_,h0⟩|⟨g',cap',cur',h5,h6,h7,_⟩
                ·exact absurd h0 (by omega)
                ·exact⟨g',cap',cur',h5,h7⟩)
  have hg3':(W.alloc (.cells #[.int .i64 x] 3)).grownBy w3 v.ownBlock:=hg3
  refine⟨?_,?_,⟨_,Sq.Ur _ hv3,?_,by simp⟩,?_⟩
  ·exact(((KeepsOthers.alloc _ _).trans (KeepsOthers.of_grownBy hg3' (Sq.aeJ (hrow.alloc _)))).trans (KeepsOthers.setCell _ _ _)).from _
  ·exact((((Below.refl _ W).alloc (by omega) _).grown hg3' (by simp;omega) (fun k e=>(hrow.lt k e).1))).setCell (p:=⟨w.heap.size,0,none⟩) (Nat.le_refl _) _
  ·have:=hown'.kept (Sq.Us w3 w.heap.size (.slice (some ⟨g',0,none⟩) (pre.length+1) cap')) (.inr (Sq.M3 hown' hv3 (fun cur e=>by cases e)).symm)
   simpa using this
  ·exact((hB.alloc hB.size _).grown hg3' (by simp;omega) (fun k e=>(hrow.lt k e).1)).setCell (p:=⟨w.heap.size,0,none⟩) (Nat.le_refl _) _
 case done=>
  rintro D ys W hD rfl ⟨⟨v,hv,hrow,hnil⟩,hB⟩ hK
  obtain⟨hc5,hf5⟩:=Sq.IV hv
  gi_wp2
  refine⟨by simp,.inl ⟨_,_,rfl,run_takeDeferred hK,?_⟩⟩
  refine⟨_,results_tmp rfl _ _ _,v,rfl,hrow.kept (grownBy_putObj' _ D (.deferred none)) (.inr (Sq.M3 hrow hK (fun cur e=>by cases e)).symm),hnil,hB.trans (belowK_b (w:=w) (Nat.le_refl _) W D _ _ (by simp at hD;omega) hK rfl rfl)⟩
 case stop=>
  rintro D c pre W _ _ h _
  exact h.elim
end Go.Proofs
end
section
namespace Go.Abs
open Go.RowKit Go.Proofs
def sqE:Callee:=fun _ f args h=>cond (Nat.beq f fn.m8) (match args with
 |[.slice none 0 0,.func (.func g) ⟨[]⟩ ⟨[.pointer (some p)]⟩]=>cond (Nat.beq g fn.oG) (match h.cell p.block p.off with
  |some (.slice a l c)=>cond (and (Nat.ble l 1000000000) (or (Nat.blt 0 c) a.isNone)) (GO h a l fun xs=>cond (xs.all agG) (match xs with
   |[]=>some (.slice none 0 0,h)
   |x::xs=>some (.slice (some ⟨h.next,0,none⟩) l (oB+1),h.alloc (x::xs))) none) none
  |_=>none) none
 |_=>none) none
theorem axX{R:Type}{r:R}{h:AH}{a:Option Addr}{n:Nat}{K:List Value→Option R}(e:GO h a n K=some r):∃xs,GO h a n some=some xs∧K xs=some r:=by
 unfold GO at e ⊢
 split at e
 ·split at e
  ·rename_i hz;exact⟨[],by simp[hz],e⟩
  ·cases e
 ·split at e
  ·rename_i cs hc
   split at e
   ·rename_i hl;exact⟨_,by simp only[if_pos hl],e⟩
   ·cases e
  ·cases e
theorem aax{fl f args h v h1}(e:sqE fl f args h=some (v,h1)):f=fn.m8∧∃p a l c xs,args=[.slice none 0 0,.func (.func fn.oG) ⟨[]⟩ ⟨[.pointer (some p)]⟩]∧h.cell p.block p.off=some (.slice a l c)∧(l≤1000000000∧(0<c∨a=none))∧
 GO h a l some=some xs∧xs.all agG=true∧((xs=[]∧v=.slice none 0 0∧h1=h)∨(xs≠[]∧v=.slice (some ⟨h.next,0,none⟩) l (oB+1)∧h1=h.alloc xs)):=by
 unfold sqE at e
 cases hf:Nat.beq f fn.m8 with
 |false=>rw[hf] at e;cases e
 |true=>
  rw[hf] at e
  refine⟨Nat.eq_of_beq_eq_true hf,?_⟩
  simp only[cond_true] at e
  split at e
  ·rename_i g p
   cases hg:Nat.beq g fn.oG with
   |false=>rw[hg] at e;cases e
   |true=>
    rw[hg] at e
    have hg':=Nat.eq_of_beq_eq_true hg
    simp only[cond_true] at e
    split at e
    ·rename_i a l c hc
     cases hl:(and (Nat.ble l 1000000000) (or (Nat.blt 0 c) a.isNone)) with
     |false=>rw[hl] at e;cases e
     |true=>
      rw[hl] at e
      have YE:l≤1000000000∧(0<c∨a=none):=by
       simp only[Bool.and_eq_true,Bool.or_eq_true] at hl
       refine⟨Nat.le_of_ble_eq_true hl.1,hl.2.imp (fun h=>?_) (fun h=>?_)⟩
       ·have:Nat.ble 1 c=true:=h
        exact Nat.le_of_ble_eq_true this
       ·cases a with
        |none=>rfl
        |some _=>cases h
      simp only[cond_true] at e
      obtain⟨xs,hx,e⟩:=axX e
      ·cases hi:xs.all agG with
       |false=>rw[hi] at e;cases e
       |true=>
        rw[hi] at e
        simp only[cond_true] at e
        refine⟨p,a,l,c,xs,by rw[hg'],hc,YE,hx,hi,?_⟩
        split at e
        ·simp only[Option.some.injEq,Prod.mk.injEq] at e;exact .inl ⟨rfl,e.1.symm,e.2.symm⟩
        ·simp only[Option.some.injEq,Prod.mk.injEq] at e;exact .inr ⟨by simp,e.1.symm,e.2.symm⟩
    ·cases e
  ·cases e
theorem agM:gF Tryz.prog sqE where
 step fl f args h v h1 e:=by
  obtain⟨_,p,a,l,c,xs,_,_,_,_,_,h7⟩:=aax e
  rcases h7 with⟨_,_,rfl⟩|⟨_,_,rfl⟩
  ·exact cj.refl _ _
  ·exact cj.alloc _ _ _
 fn fl f args h v h1 e:=by
  obtain⟨rfl,_⟩:=aax e
  exact⟨_,Tryz.func201,by kernel_rfl,by kernel_rfl⟩
 sound fl f args h v h1 e base aA μ w args' s hb bR hr ha hf:=by
  obtain⟨rfl,p,a,l,c,xs,rfl,h3,⟨h4,h4c⟩,h5,h6,h7⟩:=aax e
  obtain⟨zs,rfl⟩:=ath h6
  obtain⟨hl,ha⟩:=ha
  match args',hl,ha with
  |[s1,f1],_,ha=>
   have r1:=ha 0 (by simp) (by simp)
   have r2:=ha 1 (by simp) (by simp)
   simp only[List.getElem_cons_zero,List.getElem_cons_succ] at r1 r2
   have e1:s1=.slice none 0 0:=by cases r1;rfl
   subst e1
   obtain⟨f2,g2,rfl,r3,r4⟩:=r2.ale
   obtain⟨l3,_⟩:=r3
   match f2,l3 with
   |[],_=>
    obtain⟨l4,r4⟩:=r4
    match g2,l4,r4 with
    |[q],_,r4=>
     have r5:=r4 0 (by simp) (by simp)
     simp only[List.getElem_cons_zero] at r5
     obtain⟨bp,op,sp⟩:=p
     obtain⟨rb,off,hm,rfl⟩:∃rb off,μ bp=some (rb,off)∧q=.pointer (some ⟨rb,off+op,none⟩):=by cases r5;exact⟨_,_,by assumption,rfl⟩
     clear r5 r4 r2
     unfold AH.cell at h3
     split at h3
     ·rename_i cs hcs
      obtain⟨v',k1,k2⟩:=s.cell _ _ _ _ hcs hm _ _ h3
      have Lh:=s.lt _ _ _ hm
      have hlen:zs.length=l:=by
       unfold GO at h5
       split at h5
       ·split at h5
        ·rename_i hz;simp only[Option.some.injEq] at h5;have:=congrArg List.length h5;simp at this;omega
        ·cases h5
       ·split at h5
        ·split at h5
         ·simp only[Option.some.injEq] at h5;have:=congrArg List.length h5;simp at this;omega
         ·cases h5
        ·cases h5
      have hI:Sq.axW w.heap.size w v' zs:=by
       have cells:∀ad b2 o2,a=some ad→μ ad.block=some (b2,o2)→∀j,j<zs.length→w.cell? ⟨b2,o2+ad.off+j,none⟩=some (.int .i64 (zs[j]?.getD 0)):=by
        intro ad b2 o2 e2 hm2 j hj
        subst e2
        simp only[GO] at h5
        split at h5
        ·rename_i cs2 aRF
         split at h5
         ·rename_i hle
          simp only[Option.some.injEq] at h5
          have h9:cs2[ad.off+j]?=some (.int .i64 (zs[j]?.getD 0)):=by
           have:=congrArg (fun l=>l[j]?) h5
           simp only[List.getElem?_take,List.getElem?_drop,List.getElem?_map] at this
           rw[if_pos (by omega)] at this
           rw[this,List.getElem?_eq_getElem hj];rfl
          obtain⟨v3,k3,k4⟩:=s.cell _ _ _ _ aRF hm2 _ _ h9
          cases k4
          rw[Nat.add_assoc];exact k3
         ·cases h5
        ·cases h5
       cases k2 with
       |mR=>exact .inl ⟨rfl,by cases zs with|nil=>rfl|cons _ _=>simp at hlen⟩
       |slice hm2 hc2 hl2=>exact .inr ⟨_,_,_,by rw[hlen],s.lt _ _ _ hm2,fun j hj=>cells _ _ _ rfl hm2 j hj⟩
       |nU hm2 ho2 hl2 hs2=>
        refine .inr ⟨_,_,_,by rw[hlen],s.lt _ _ _ hm2,fun j hj=>?_⟩
        rcases ho2 with ho2|ho2
        ·omega
        ·rw[ho2];exact cells _ _ _ rfl hm2 j hj
       |ago=>rcases h4c with h|h<;>simp at h
      have call:=Sq.ahV Fence.wide 5 trivial trivial rfl (by omega) rb (off+op) v' zs (by rw[hlen];unfold maxLen;omega) (by omega) w Lh k1 hI
      refine(callsIn_wide.1 call).mono ?_
      rintro e' W' ⟨v2,rfl,h8,h9,sU⟩
      rcases h7 with⟨iH,rfl,rfl⟩|⟨iH,rfl,rfl⟩
      ·have:zs=[]:=by simpa using iH
       rw[h9.2 this]
       exact⟨_,μ,rfl,cJ.below s sU,.mR⟩
      ·have lZ:zs≠[]:=by intro e2;rw[e2] at iH;exact iH rfl
       rcases h8.2 with⟨zN,_⟩|⟨g,cap,cur,rfl,qB,h14,nX,GN,yK,JR⟩
       ·exact absurd (h9.1 zN) lZ
       ·refine⟨_,_,rfl,cJ.found s sU hr (hf _ (Nat.le_refl _) (Nat.lt_succ_self _)) qB h14 ?_,?_⟩
        ·intro j u hu
         have:cur[j]?=some u:=by
          have Mf:=congrArg (fun l=>l[j]?) JR
          simp only[List.getElem?_take] at Mf
          have hj:j<zs.length:=by have:=(List.getElem?_eq_some_iff.1 hu).1;simpa using this
          rw[if_pos (by omega),hu] at Mf
          simpa using Mf
         refine⟨u,this,?_⟩
         rw[List.getElem?_map] at hu
         cases hz:zs[j]? with
         |none=>rw[hz] at hu;cases hu
         |some z=>rw[hz] at hu;simp at hu;rw[←hu];exact .int _ _
        ·rw[←hlen]
         exact .nU (cH _ _ _) (.inr rfl) nX (by rw[ie h14];omega)
     ·cases h3
end Go.Abs
end
section
set_option maxRecDepth 100000
namespace Go.Abs
open Go.Proofs
def oJ'(d:Nat)(o:V5):cw:=⟨some d,o,none,false⟩
def oI'(d:Nat)(o:V5):cw:=⟨some d,o,none,true⟩
def alW:List cw:=[oI' 4 (.mv (.t 0)),oJ' 5 (.load (.one (.int .i64)) (.t 2)),oI' 6 (.mv (.t 0)),oJ' 7 (.load (.one (.int .i64)) (.t 1)),oI' 8 (.mv (.t 0)),oJ' 9 (.load (.one (.int .i64)) (.t 1)),oI' 10 (.eE 1 (.t 8) (.t 9)),oJ' 11 (.load (.one .slice) (.t 10)),
 oI' 12 (.mv (.t 0)),oJ' 13 (.load (.one (.int .i64)) (.t 2)),oI' 14 (.eE 1 (.t 12) (.t 13)),oJ' 15 (.load (.one .slice) (.t 14)),oI' 16 (.eE 1 (.t 4) (.t 5)),⟨none,.store 1 (.t 16) (.t 11),none,true⟩,oI' 17 (.eE 1 (.t 6) (.t 7)),⟨none,.store 1 (.t 17) (.t 15),none,true⟩]
def swE:Callee:=fun fl f args h=>cond (Nat.beq f fn.bX) (match args with
 |[.slice (some a) l c,.pointer (some p1),.pointer (some p2)]=>cond (Nat.beq a.block p1.block||Nat.beq a.block p2.block) none
    (sX noE fl alW (args++List.replicate 15 undef) h (fun _ h=>some (.tuple ⟨[]⟩,h)))
 |_=>none) none
theorem ahW{fl f args h r}(e:swE fl f args h=some r):f=fn.bX∧∃a l c p1 p2,args=[.slice (some a) l c,.pointer (some p1),.pointer (some p2)]∧a.block≠p1.block∧a.block≠p2.block∧
 sX noE fl alW (args++List.replicate 15 undef) h (fun _ h=>some (.tuple ⟨[]⟩,h))=some r:=by
 unfold swE at e
 cases hf:Nat.beq f fn.bX with
 |false=>rw[hf] at e;cases e
 |true=>
  rw[hf] at e
  refine⟨Nat.eq_of_beq_eq_true hf,?_⟩
  simp only[cond_true] at e
  split at e
  ·rename_i a l c p1 p2
   cases hg:(Nat.beq a.block p1.block||Nat.beq a.block p2.block) with
   |true=>rw[hg] at e;cases e
   |false=>
    rw[hg] at e
    simp only[Bool.or_eq_false_iff] at hg
    refine⟨a,l,c,p1,p2,rfl,fun h=>?_,fun h=>?_,e⟩
    ·rw[h] at hg;simp at hg
    ·rw[h] at hg;simp at hg
  ·cases e
theorem ahX{C:Callee}{f t d:Nat}{i:Bool}{s:List Value}{h h1:AH}{v:Value}{q:Addr}(hs:s.getD t undef=.pointer (some q))(e:EP C f ⟨some d,.load (.one (.int .i64)) (.t t),none,i⟩ s h=some (v,h1)):
 h1=h∧h.cell q.block q.off=some v∧∃n,v=.int .i64 n:=by
 unfold EP at e
 simp only[dw,ev,hs,bz,abu] at e
 cases hc:h.cell q.block q.off with
 |none=>rw[hc] at e;cases e
 |some v'=>
  rw[hc] at e
  simp only[qE] at e
  obtain⟨n,rfl,e⟩:=aU e
  simp only[K0,Option.some.injEq,Prod.mk.injEq] at e
  obtain⟨rfl,rfl⟩:=e
  exact⟨rfl,rfl,n,rfl⟩
theorem aay{C:Callee}{f t d:Nat}{i:Bool}{s:List Value}{h:AH}{n:Int}{q:Addr}(hs:s.getD t undef=.pointer (some q))(hc:h.cell q.block q.off=some (.int .i64 n)):EP C f ⟨some d,.load (.one (.int .i64)) (.t t),none,i⟩ s h=some (.int .i64 n,h):=by
 unfold EP
 simp only[dw,ev,hs,bz]
 unfold abu
 rw[hc]
 simp[qE,asInt,K0]
theorem atw{C:Callee}{f t d:Nat}{i:Bool}{s:List Value}{h h1:AH}{v:Value}(e:EP C f ⟨some d,.load (.one .slice) (.t t),none,i⟩ s h=some (v,h1)):h1=h:=by
 unfold EP at e
 simp only[dw] at e
 obtain⟨a,_,e⟩:=eL e
 simp only[abu] at e
 cases hc:h.cell a.block a.off with
 |none=>rw[hc] at e;cases e
 |some v'=>
  rw[hc] at e
  simp only[qE] at e
  obtain⟨sl,_,e⟩:=cT e
  simp only[K0,Option.some.injEq,Prod.mk.injEq] at e
  exact e.2.symm
theorem ahY{C:Callee}{f t u d:Nat}{i:Bool}{s:List Value}{h h1:AH}{v:Value}{a:Addr}{l c:Nat}(hs:s.getD t undef=.slice (some a) l c)(e:EP C f ⟨some d,.eE 1 (.t t) (.t u),none,i⟩ s h=some (v,h1)):
 h1=h∧∃q:Addr,v=.pointer (some q)∧q.block=a.block:=by
 unfold EP at e
 simp only[dw,ev,hs,aX] at e
 obtain⟨n,_,e⟩:=aU e
 unfold idx at e
 simp only at e
 by_cases c1:0≤n
 ·rw[if_pos c1] at e
  by_cases c2:n<(l:Int)
  ·rw[if_pos c2] at e
   simp only[K0,Option.some.injEq,Prod.mk.injEq] at e
   exact⟨e.2.symm,_,e.1.symm,rfl⟩
  ·rw[if_neg c2] at e;cases e
 ·rw[if_neg c1] at e;cases e
theorem aBM{C:Callee}{f t u:Nat}{i:Bool}{s:List Value}{h h1:AH}{v:Value}{a:Addr}(hs:s.getD t undef=.pointer (some a))(e:EP C f ⟨none,.store 1 (.t t) (.t u),none,i⟩ s h=some (v,h1)):
 ∀c,c≠a.block→h1.iN c=h.iN c:=by
 unfold EP at e
 have hs':ev s (.t t)=.pointer (some a):=hs
 simp only[dw,hs',bz] at e
 have key:∀{xs:List Value} {fl:Nat},st fl h a xs (fun h1=>K0 undef h1)=some (v,h1)→∀c,c≠a.block→h1.iN c=h.iN c:=by
  intro xs fl e
  unfold st at e
  cases hb:h.iN a.block with
  |none=>rw[hb] at e;cases e
  |some cs=>
   rw[hb] at e
   simp only at e
   by_cases q1:fl≤a.block
   ·rw[if_pos q1] at e
    by_cases q2:0<xs.length
    ·rw[if_pos q2] at e
     by_cases q3:a.off+xs.length≤cs.length
     ·rw[if_pos q3] at e
      by_cases q4:xs.all De=true
      ·rw[if_pos q4] at e
       simp only[K0,Option.some.injEq,Prod.mk.injEq] at e
       obtain⟨_,rfl⟩:=e
       intro c hc
       simp only[AH.put]
       rw[if_neg hc]
      ·rw[if_neg q4] at e;cases e
     ·rw[if_neg q3] at e;cases e
    ·rw[if_neg q2] at e;cases e
   ·rw[if_neg q1] at e;cases e
 by_cases q0:(ev s (.t u)).cells.toList.length=1
 ·rw[if_pos q0] at e;exact key e
 ·rw[if_neg q0] at e;cases e
theorem aBN{C:Callee}{fl:Nat}{a p1 p2:Addr}{l c:Nat}{h:AH}(n1:a.block≠p1.block)(n2:a.block≠p2.block)(S:Nat→List Value)(H:Nat→AH)(V:Nat→Value)
 (s0:S 0=[.slice (some a) l c,.pointer (some p1),.pointer (some p2)]++List.replicate 15 undef) (_h0:H 0=h) (nM:∀(i:Nat) x,alW[i]?=some x→EP C fl x (S i) (H i)=some (V i,H (i+1))∧S (i+1)=tA (S i) x.dst (V i)):
 ∀j∈[1,3,5,9],∀x,alW[j]?=some x→H (j+1)=H j∧∀p,p≤alW.length→∀f,EP C f x (S j) (H p)=some (V j,H p):=by
 have e0:=nM 0 _ rfl
 have e1:=nM 1 _ rfl
 have e2:=nM 2 _ rfl
 have e3:=nM 3 _ rfl
 have e4:=nM 4 _ rfl
 have e5:=nM 5 _ rfl
 have e6:=nM 6 _ rfl
 have e7:=nM 7 _ rfl
 have e8:=nM 8 _ rfl
 have e9:=nM 9 _ rfl
 have e10:=nM 10 _ rfl
 have e11:=nM 11 _ rfl
 have e12:=nM 12 _ rfl
 have e13:=nM 13 _ rfl
 have e14:=nM 14 _ rfl
 have e15:=nM 15 _ rfl
 have mv:∀{d:Nat} {s:List Value} {h h1:AH} {v:Value},EP C fl (oI' d (.mv (.t 0))) s h=some (v,h1)→v=s.getD 0 undef∧h1=h:=by
  intro d s h h1 v e
  unfold EP oI' at e
  simp only[dw,ev,K0,Option.some.injEq,Prod.mk.injEq] at e
  exact⟨e.1.symm,e.2.symm⟩
 have s1:S 1=[.slice (some a) l c,.pointer (some p1),.pointer (some p2),undef,V 0]++List.replicate 13 undef:=by rw[e0.2,s0];rfl
 have s2:S 2=[.slice (some a) l c,.pointer (some p1),.pointer (some p2),undef,V 0,V 1]++List.replicate 12 undef:=by rw[e1.2,s1];rfl
 have s3:S 3=[.slice (some a) l c,.pointer (some p1),.pointer (some p2),undef,V 0,V 1,V 2]++List.replicate 11 undef:=by rw[e2.2,s2];rfl
 have s4:S 4=[.slice (some a) l c,.pointer (some p1),.pointer (some p2),undef,V 0,V 1,V 2,V 3]++List.replicate 10 undef:=by rw[e3.2,s3];rfl
 have s5:S 5=[.slice (some a) l c,.pointer (some p1),.pointer (some p2),undef,V 0,V 1,V 2,V 3,V 4]++List.replicate 9 undef:=by rw[e4.2,s4];rfl
 have s6:S 6=[.slice (some a) l c,.pointer (some p1),.pointer (some p2),undef,V 0,V 1,V 2,V 3,V 4,V 5]++List.replicate 8 undef:=by rw[e5.2,s5];rfl
 have s7:S 7=[.slice (some a) l c,.pointer (some p1),.pointer (some p2),undef,V 0,V 1,V 2,V 3,V 4,V 5,V 6]++List.replicate 7 undef:=by rw[e6.2,s6];rfl
 have s8:S 8=[.slice (some a) l c,.pointer (some p1),.pointer (some p2),undef,V 0,V 1,V 2,V 3,V 4,V 5,V 6,V 7]++List.replicate 6 undef:=by rw[e7.2,s7];rfl
 have s9:S 9=[.slice (some a) l c,.pointer (some p1),.pointer (some p2),undef,V 0,V 1,V 2,V 3,V 4,V 5,V 6,V 7,V 8]++List.replicate 5 undef:=by rw[e8.2,s8];rfl
 have s10:S 10=[.slice (some a) l c,.pointer (some p1),.pointer (some p2),undef,V 0,V 1,V 2,V 3,V 4,V 5,V 6,V 7,V 8,V 9]++List.replicate 4 undef:=by rw[e9.2,s9];rfl
 have EG:S 11=[.slice (some a) l c,.pointer (some p1),.pointer (some p2),undef,V 0,V 1,V 2,V 3,V 4,V 5,V 6,V 7,V 8,V 9,V 10]++List.replicate 3 undef:=by rw[e10.2,s10];rfl
 have T8:S 12=[.slice (some a) l c,.pointer (some p1),.pointer (some p2),undef,V 0,V 1,V 2,V 3,V 4,V 5,V 6,V 7,V 8,V 9,V 10,V 11]++List.replicate 2 undef:=by rw[e11.2,EG];rfl
 have VZ:S 13=[.slice (some a) l c,.pointer (some p1),.pointer (some p2),undef,V 0,V 1,V 2,V 3,V 4,V 5,V 6,V 7,V 8,V 9,V 10,V 11,V 12]++List.replicate 1 undef:=by rw[e12.2,T8];rfl
 have TT:S 14=S 13:=e13.2
 have Ua:S 15=[.slice (some a) l c,.pointer (some p1),.pointer (some p2),undef,V 0,V 1,V 2,V 3,V 4,V 5,V 6,V 7,V 8,V 9,V 10,V 11,V 12,V 14]:=by rw[e14.2,TT,VZ];rfl
 obtain⟨v0,h1⟩:=mv e0.1
 obtain⟨h2,c1,m1,w1⟩:=ahX (q:=p2) (by rw[s1];rfl) e1.1
 obtain⟨v2,h3⟩:=mv e2.1
 obtain⟨h4,c3,m3,w3⟩:=ahX (q:=p1) (by rw[s3];rfl) e3.1
 obtain⟨v4,h5⟩:=mv e4.1
 obtain⟨h6,c5,m5,w5⟩:=ahX (q:=p1) (by rw[s5];rfl) e5.1
 have v0':V 0=.slice (some a) l c:=by rw[v0,s0];rfl
 have v2':V 2=.slice (some a) l c:=by rw[v2,s2];rfl
 have v4':V 4=.slice (some a) l c:=by rw[v4,s4];rfl
 obtain⟨h7,_⟩:=ahY (a:=a) (l:=l) (c:=c) (by rw[s6,v4'];rfl) e6.1
 have h8:=atw e7.1
 obtain⟨v8,h9⟩:=mv e8.1
 have v8':V 8=.slice (some a) l c:=by rw[v8,s8];rfl
 obtain⟨sU,c9,m9,w9⟩:=ahX (q:=p2) (by rw[s9];rfl) e9.1
 obtain⟨iH,_⟩:=ahY (a:=a) (l:=l) (c:=c) (by rw[s10,v8'];rfl) e10.1
 have zN:=atw e11.1
 obtain⟨qB,q12,u12,b12⟩:=ahY (a:=a) (l:=l) (c:=c) (by rw[T8,v0'];rfl) e12.1
 have h14:=aBM (a:=q12) (by rw[VZ,u12];rfl) e13.1
 obtain⟨nX,q14,u14,GM⟩:=ahY (a:=a) (l:=l) (c:=c) (by rw[TT,VZ,v2'];rfl) e14.1
 have GN:=aBM (a:=q14) (by rw[Ua,u14];rfl) e15.1
 have g2:H 2=H 0:=h2.trans h1
 have g3:H 3=H 0:=h3.trans g2
 have g4:H 4=H 0:=h4.trans g3
 have g5:H 5=H 0:=h5.trans g4
 have g6:H 6=H 0:=h6.trans g5
 have g7:H 7=H 0:=h7.trans g6
 have g8:H 8=H 0:=h8.trans g7
 have g9:H 9=H 0:=h9.trans g8
 have g10:H 10=H 0:=sU.trans g9
 have g11:H 11=H 0:=iH.trans g10
 have g12:H 12=H 0:=zN.trans g11
 have g13:H 13=H 0:=qB.trans g12
 have k14:∀c,c≠a.block→(H 14).iN c=(H 0).iN c:=fun c hc=>by rw[h14 c (by rw[b12];exact hc),g13]
 have k15:∀c,c≠a.block→(H 15).iN c=(H 0).iN c:=fun c hc=>by rw[nX];exact k14 c hc
 have k16:∀c,c≠a.block→(H 16).iN c=(H 0).iN c:=fun c hc=>by rw[GN c (by rw[GM];exact hc)];exact k15 c hc
 have all:∀p,p≤16→∀c,c≠a.block→(H p).iN c=(H 0).iN c:=by
  intro p hp c hc
  have:p=0∨p=1∨p=2∨p=3∨p=4∨p=5∨p=6∨p=7∨p=8∨p=9∨p=10∨p=11∨p=12∨p=13∨p=14∨p=15∨p=16:=by omega
  rcases this with rfl|rfl|rfl|rfl|rfl|rfl|rfl|rfl|rfl|rfl|rfl|rfl|rfl|rfl|rfl|rfl|rfl
  ·rfl
  ·rw[h1]
  ·rw[g2]
  ·rw[g3]
  ·rw[g4]
  ·rw[g5]
  ·rw[g6]
  ·rw[g7]
  ·rw[g8]
  ·rw[g9]
  ·rw[g10]
  ·rw[g11]
  ·rw[g12]
  ·rw[g13]
  ·exact k14 c hc
  ·exact k15 c hc
  ·exact k16 c hc
 have axu:∀p,p≤16→∀(q:Addr),a.block≠q.block→(H p).cell q.block q.off=(H 0).cell q.block q.off:=fun p hp q hq=>by
  unfold AH.cell;rw[all p hp _ (fun e=>hq e.symm)]
 intro j hj x hx
 simp only[List.mem_cons,List.not_mem_nil,or_false] at hj
 rcases hj with rfl|rfl|rfl|rfl
 ·cases hx
  refine⟨h2,fun p hp f=>?_⟩
  rw[w1] at c1 ⊢
  exact aay (q:=p2) (by rw[s1];rfl) (by rw[axu p hp p2 n2,←h1];exact c1)
 ·cases hx
  refine⟨h4,fun p hp f=>?_⟩
  rw[w3] at c3 ⊢
  exact aay (q:=p1) (by rw[s3];rfl) (by rw[axu p hp p1 n1,←g3];exact c3)
 ·cases hx
  refine⟨h6,fun p hp f=>?_⟩
  rw[w5] at c5 ⊢
  exact aay (q:=p1) (by rw[s5];rfl) (by rw[axu p hp p1 n1,←g5];exact c5)
 ·cases hx
  refine⟨sU,fun p hp f=>?_⟩
  rw[w9] at c9 ⊢
  exact aay (q:=p2) (by rw[s9];rfl) (by rw[axu p hp p2 n2,←g9];exact c9)
theorem aQc:Tryz.prog.follows .mixedOrders=true:=by kernel_rfl
def aXW(c:Option Code):Array Oper:=match c with
 |some (.region _ ops true)=>ops
 |_=>#[]
theorem axY:gF Tryz.prog swE where
 step:=fun fl f args h v h1 e=>by
  obtain⟨rfl,a,l,c,p1,p2,rfl,n1,n2,e⟩:=ahW e
  have e':Ud noE fl alW ([.slice (some a) l c,.pointer (some p1),.pointer (some p2)]++List.replicate 15 undef) h (fun _ h=>some (.tuple ⟨[]⟩,h))=some (v,h1):=e
  obtain⟨s',h',st,hk⟩:=Ul (agE (P:=Tryz.prog)).toCAbs e'
  simp only[Option.some.injEq,Prod.mk.injEq] at hk
  rw[←hk.2];exact st
 fn:=fun fl f args h v h1 e=>by
  obtain⟨rfl,_⟩:=ahW e
  exact⟨_,rfl,by kernel_rfl,by kernel_rfl⟩
 sound:=fun fl f args h v h1 e base aA μ w args' sm hb bR hr ha hf=>by
  obtain⟨rfl,a,l,c,p1,p2,rfl,n1,n2,e⟩:=ahW e
  exact aq4 (P:=Tryz.prog) (C:=noE) agE aQc (fd:=Tryz.f167) (id:=0) (nt:=18) (ops:=aXW Tryz.f167.body) (al:=alW) (cl:=[1,3,5,9]) (by kernel_rfl) (by kernel_rfl) (by kernel_rfl) (by kernel_rfl) (by kernel_rfl) (by kernel_rfl) e
   (fun S H V s0 h0 nM=>aBN n1 n2 S H V s0 h0 nM) sm hb bR hr ha hf
end Go.Abs
end
section
set_option maxRecDepth 100000
set_option linter.unusedVariables false
namespace Go.Abs.P
open Go.Abs Go.Abs.CP Go.Abs.C Go.Proofs
variable{R:Type}(C:Callee)(fl k:Nat)(K:KF R)
abbrev aC(R:Type):=Bool→AH→Option R
def aHe(t2:Bool):List Value:=un 2 (.bool t2::un 54 [])
def aBO:aa:=.seq (.region [oI 1 (.box (.t 0)),oI 2 (.mv (.c (.bool false)))] [0,2]) (.seq (.region [oI 11 (.call (.f 11) [] (.one (.one .bool))),no 12 11,m 13 12,.gL 13 false [qI 14 (.load (.agg [.int .i64,.int .i64,.slice,.int .i64,.slice]) (.t 1)),qI 15 (.call (.f 12) [.t 14] (.one (.one .bool))),qI 16 (.not (.t 15))],oI 17 (.pick (.t 13) (.c (.bool true)) (.t 16))] [11,12,13,14,15,16]) (.seq (.cond (.t 17) (.seq (.region [oI 18 (.call (.f 11) [] (.one (.one .bool))),m 2 18] [1,17,18]) (.ret)) (kl [17])) (.seq (.region [oI 20 (.load (.agg [.int .i64,.int .i64,.slice,.int .i64,.slice]) (.t 1)),oI 21 (.call (.f 13) [.t 20] (.ke [.one .slice,.one (.int .i64)])),m 19 21,ex 22 19 0,ex 23 19 1,m 3 22,m 4 23] [19,20,21,22,23]) (.seq (.region [oI 25 (.load (.agg [.int .i64,.int .i64,.slice,.int .i64,.slice]) (.t 1)),oI 26 (.call (.f 14) [.t 25] (.ke [.one .slice,.one (.int .i64)])),m 24 26,ex 27 24 0,ex 28 24 1,m 5 27,m 6 28] [24,25,26,27,28]) (.seq (.region [oI 30 (.load (.agg [.int .i64,.int .i64,.slice,.int .i64,.slice]) (.t 1)),oI 31 (.call (.f 15) [.t 30] (.ke [.one .slice,.one (.int .i64)])),m 29 31,ex 32 29 0,ex 33 29 1,m 7 32,m 8 33] [29,30,31,32,33]) (.seq (.region [oI 35 (.load (.agg [.int .i64,.int .i64,.slice,.int .i64,.slice]) (.t 1)),oI 36 (.call (.f 16) [.t 35] (.ke [.one .slice,.one (.int .i64)])),m 34 36,ex 37 34 0,ex 38 34 1,m 9 37,m 10 38] [1,34,35,36,37,38]) (.seq (.region [m 39 4,m 40 6,cm 41 .eql 39 40,m 42 41,.gL 42 true [qI 43 (.mv (.t 3)),qI 44 (.mv (.t 5)),qI 45 (.call (.f 17) [.t 43,.t 44] (.one (.one .bool)))],oI 46 (.pick (.t 42) (.t 45) (.c (.bool false))),m 47 46,.gL 47 true [qI 48 (.mv (.t 8)),qI 49 (.mv (.t 10)),qI 50 (.cmp .eql .i64 (.t 48) (.t 49))],oI 51 (.pick (.t 47) (.t 50) (.c (.bool false))),m 52 51,.gL 52 true [qI 53 (.mv (.t 7)),qI 54 (.mv (.t 9)),qI 55 (.call (.f 17) [.t 53,.t 54] (.one (.one .bool)))],oI 56 (.pick (.t 52) (.t 55) (.c (.bool false))),m 2 56] [3,4,5,6,7,8,9,10,39,40,41,42,43,44,45,46,47,48,49,50,51,52,53,54,55,56]) (.ret))))))))
abbrev bD(R:Type):=Int→Int→Sl→Int→Sl→AH→Option R
def aHf(aI aJ:Int)(aL:Sl)(bZ:Int)(bY:Sl):List Value:=.agg ⟨[vi aI,vi aJ,vs aL,vi bZ,vs bY]⟩::un 56 []
def fT:aK:=⟨57,aBO,[.tmp 2]⟩
theorem Bx:okF Tryz.prog 3 fT=true:=by kernel_rfl
def alG{R:Type}(C:Callee)(fl k:Nat)(kr:aC R):bD R:=fun aI aJ aL bZ bY h=>bJ h [vi aI,vi aJ,vs aL,vi bZ,vs bY] fun b1 h2=>aj C fl fn.ey [] h2 fun v3 h4=>asBool v3 fun b5=>if (!b5)=false then aF .i64 h4 b1 0 fun n6=>aF .i64 h4 b1 1 fun n7=>aT h4 b1 2 fun s8=>aF .i64 h4 b1 3 fun n9=>aT h4 b1 4 fun s10=>aj C fl fn.pU [.agg ⟨[vi n6,vi n7,vs s8,vi n9,vs s10]⟩] h4 fun v11 zN=>asBool v11 fun b13=>if (!b13)=true then aj C fl fn.ey [] zN fun v14 nX=>asBool v14 fun b16=>kr b16 nX else aF .i64 zN b1 0 fun Qh=>aF .i64 zN b1 1 fun JT=>aT zN b1 2 fun s19=>aF .i64 zN b1 3 fun n20=>aT zN b1 4 fun s21=>aj C fl fn.eP [.agg ⟨[vi Qh,vi JT,vs s19,vi n20,vs s21]⟩] zN fun v22 YH=>aE v22 fun l24=>ar l24 fun v25 l26=>aX v25 fun s27=>ar l26 fun v28 l29=>asInt .i64 v28 fun n30=>aM l29 (aF .i64 YH b1 0 fun n31=>aF .i64 YH b1 1 fun n32=>aT YH b1 2 fun s33=>aF .i64 YH b1 3 fun n34=>aT YH b1 4 fun s35=>aj C fl fn.kZ [.agg ⟨[vi n31,vi n32,vs s33,vi n34,vs s35]⟩] YH fun v36 h37=>aE v36 fun l38=>ar l38 fun v39 l40=>aX v39 fun s41=>ar l40 fun v42 l43=>asInt .i64 v42 fun n44=>aM l43 (aF .i64 h37 b1 0 fun n45=>aF .i64 h37 b1 1 fun n46=>aT h37 b1 2 fun s47=>aF .i64 h37 b1 3 fun n48=>aT h37 b1 4 fun s49=>aj C fl fn.dG [.agg ⟨[vi n45,vi n46,vs s47,vi n48,vs s49]⟩] h37 fun v50 h51=>aE v50 fun l52=>ar l52 fun v53 l54=>aX v53 fun s55=>ar l54 fun v56 l57=>asInt .i64 v56 fun n58=>aM l57 (aF .i64 h51 b1 0 fun n59=>aF .i64 h51 b1 1 fun n60=>aT h51 b1 2 fun s61=>aF .i64 h51 b1 3 fun n62=>aT h51 b1 4 fun s63=>aj C fl fn.k8 [.agg ⟨[vi n59,vi n60,vs s61,vi n62,vs s63]⟩] h51 fun v64 h65=>aE v64 fun l66=>ar l66 fun v67 l68=>aX v67 fun s69=>ar l68 fun v70 l71=>asInt .i64 v70 fun n72=>aM l71 (if (n30==n44)=true then aj C fl fn.cN [vs s27,vs s41] h65 fun v73 h74=>asBool v73 fun b75=>if b75=true then if (n58==n72)=true then aj C fl fn.cN [vs s55,vs s69] h74 fun v76 h77=>asBool v76 fun b78=>kr b78 h77 else kr false h74 else kr false h74 else kr false h65)))) else aj C fl fn.ey [] h4 fun v79 h80=>asBool v79 fun b81=>kr b81 h80
theorem aHg:(cp aHf (ce C fl k aBO K))=alG C fl k (cp aHe (K .ret)):=by kernel_rfl
def gO(aw ax:Int)(ay:Sl)(bk:Int)(bj:Sl)(h:AH):Option (Value×AH):=alG C fl k (fun y2 q=>some (.bool y2,q)) aw ax ay bk bj h
theorem z6(aw ax:Int)(ay:Sl)(bk:Int)(bj:Sl)(h):aV C fl k fT [.agg ⟨[vi aw,vi ax,vs ay,vi bk,vs bj]⟩] h=gO C fl k aw ax ay bk bj h:=oY (aHg C fl k (aG _)) aw ax ay bk bj (by kernel_rfl) (by kernel_rfl)
def aHh(t0:Bool):List Value:=.bool t0::un 149 []
def aBP:aa:=.seq (.region [oI 0 (.mv (.c (.bool false)))] [0]) (.seq (.region [oI 17 (.build [.int .i64 0,.int .i64 0,.slice none 0 0] [(0,1,ci 2),(1,1,ci 1)]),oI 18 (.bq 4 [.int .i64 0,.int .i64 0,.int .i64 0,.int .i64 0] [(0,1,ci 1),(1,1,ci 0),(2,1,ci 1),(3,1,ci 0)]),oI 19 (.bq 4 [.int .i64 0,.int .i64 0,.int .i64 0,.int .i64 0] [(0,1,ci 0),(1,1,ci 1),(2,1,ci 1),(3,1,ci 1)]),oI 20 (.bq 2 [.slice none 0 0,.slice none 0 0] [(0,1,.t 18),(1,1,.t 19)]),oI 21 (.build [.int .i64 0,.int .i64 0,.slice none 0 0,.int .i64 0,.slice none 0 0] [(0,3,.t 17),(3,1,ci 4),(4,1,.t 20)]),oI 1 (.alloc [.int .i64 0,.int .i64 0,.slice none 0 0,.int .i64 0,.slice none 0 0]),sI 5 1 21] [17,18,19,20,21]) (.seq (.region [oI 23 (.load (.agg [.int .i64,.int .i64,.slice,.int .i64,.slice]) (.t 1)),oI 24 (.call (.f 18) [.t 23,ci 1] (.ke [.one .slice,.one (.int .i64)])),m 22 24,ex 25 22 0,ex 26 22 1,m 2 25,m 3 26] [22,23,24,25,26]) (.seq (.region [oI 28 (.load (.agg [.int .i64,.int .i64,.slice,.int .i64,.slice]) (.t 1)),oI 29 (.call (.f 13) [.t 28] (.ke [.one .slice,.one (.int .i64)])),m 27 29,ex 30 27 0,ex 31 27 1,m 4 30,m 5 31] [27,28,29,30,31]) (.seq (.region [oI 33 (.load (.agg [.int .i64,.int .i64,.slice,.int .i64,.slice]) (.t 1)),oI 34 (.call (.f 15) [.t 33] (.ke [.one .slice,.one (.int .i64)])),m 32 34,ex 35 32 0,ex 36 32 1,m 6 35,m 7 36] [32,33,34,35,36]) (.seq (.region [oI 38 (.bq 2 [.int .i64 0,.int .i64 0] [(0,1,ci 2),(1,1,ci 4)]),oI 39 (.call (.f 23) [.t 38,ci 4] (.ke [.one .slice,.one (.int .i64)])),m 37 39,ex 40 37 0,ex 41 37 1,m 8 40,m 9 41] [37,38,39,40,41]) (.seq (.region [oI 43 (.load (.agg [.int .i64,.int .i64,.slice,.int .i64,.slice]) (.t 1)),oI 44 (.bq 3 [.int .i64 0,.int .i64 0,.int .i64 0] [(0,1,ci 0),(1,1,ci 2),(2,1,ci 3)]),oI 45 (.call (.f 20) [.t 43,.t 44] (.ke [.agg [.int .i64,.int .i64,.slice,.int .i64,.slice],.one (.int .i64)])),m 42 45,ex 46 42 0,ex 47 42 1,oI 10 (.alloc [.int .i64 0,.int .i64 0,.slice none 0 0,.int .i64 0,.slice none 0 0]),sI 5 10 46,m 11 47] [42,43,44,45,46,47]) (.seq (.region [oI 49 (.load (.agg [.int .i64,.int .i64,.slice,.int .i64,.slice]) (.t 1)),oI 50 (.call (.f 25) [.t 49] (.ke [.agg [.slice,.slice],.one (.int .i64)])),m 48 50,ex 51 48 0,ex 52 48 1,oI 12 (.alloc [.slice none 0 0,.slice none 0 0]),sI 2 12 51,m 13 52] [48,49,50,51,52]) (.seq (.region [oI 54 (.load (.agg [.int .i64,.int .i64,.slice,.int .i64,.slice]) (.t 1)),oI 55 (.load (.agg [.slice,.slice]) (.t 12)),oI 56 (.call (.f 28) [.t 54,.t 55] (.ke [.one .slice,.one (.int .i64)])),m 53 56,ex 57 53 0,ex 58 53 1,m 14 57,m 15 58] [1,53,54,55,56,57,58]) (.seq (.region [m 59 3,ck 60 .eql 59 0,m 61 60,.gL 61 true [qI 62 (.mv (.t 5)),qI 63 (.cmp .eql .i64 (.t 62) (ci 0))],oI 64 (.pick (.t 61) (.t 63) (.c (.bool false))),m 65 64,.gL 65 true [qI 66 (.mv (.t 7)),qI 67 (.cmp .eql .i64 (.t 66) (ci 0))],oI 68 (.pick (.t 65) (.t 67) (.c (.bool false))),m 69 68,.gL 69 true [qI 70 (.mv (.t 9)),qI 71 (.cmp .eql .i64 (.t 70) (ci 0))],oI 72 (.pick (.t 69) (.t 71) (.c (.bool false))),m 73 72,.gL 73 true [qI 74 (.mv (.t 11)),qI 75 (.cmp .eql .i64 (.t 74) (ci 0))],oI 76 (.pick (.t 73) (.t 75) (.c (.bool false))),m 77 76,.gL 77 true [qI 78 (.mv (.t 13)),qI 79 (.cmp .eql .i64 (.t 78) (ci 0))],oI 80 (.pick (.t 77) (.t 79) (.c (.bool false))),m 81 80,.gL 81 true [qI 82 (.mv (.t 15)),qI 83 (.cmp .eql .i64 (.t 82) (ci 0))],oI 84 (.pick (.t 81) (.t 83) (.c (.bool false))),m 16 84] [3,5,7,9,11,13,15,59,60,61,62,63,64,65,66,67,68,69,70,71,72,73,74,75,76,77,78,79,80,81,82,83,84]) (.seq (.region [m 85 16,m 86 85,.gL 86 true [qI 87 (.mv (.t 2)),qI 88 (.bq 2 [.int .i64 0,.int .i64 0] [(0,1,ci 0),(1,1,ci 2)]),qI 89 (.call (.f 17) [.t 87,.t 88] (.one (.one .bool)))],oI 90 (.pick (.t 86) (.t 89) (.c (.bool false))),m 91 90,.gL 91 true [qI 92 (.mv (.t 4)),qI 93 (.bq 2 [.int .i64 0,.int .i64 0] [(0,1,ci 2),(1,1,ci 4)]),qI 94 (.call (.f 17) [.t 92,.t 93] (.one (.one .bool)))],oI 95 (.pick (.t 91) (.t 94) (.c (.bool false))),m 96 95,.gL 96 true [qI 97 (.mv (.t 6)),qI 98 (.bq 5 [.int .i64 0,.int .i64 0,.int .i64 0,.int .i64 0,.int .i64 0] [(0,1,ci 0),(1,1,ci 0),(2,1,ci 1),(3,1,ci 1),(4,1,ci 2)]),qI 99 (.call (.f 17) [.t 97,.t 98] (.one (.one .bool)))],oI 100 (.pick (.t 96) (.t 99) (.c (.bool false))),m 101 100,.gL 101 true [qI 102 (.mv (.t 8)),qI 103 (.bq 2 [.int .i64 0,.int .i64 0] [(0,1,ci 2),(1,1,ci 4)]),qI 104 (.call (.f 17) [.t 102,.t 103] (.one (.one .bool)))],oI 105 (.pick (.t 101) (.t 104) (.c (.bool false))),m 106 105,.gL 106 true [qI 107 (.cW 4 (.t 10)),qI 108 (.load (.one .slice) (.t 107)),qI 109 (.bq 4 [.int .i64 0,.int .i64 0,.int .i64 0,.int .i64 0] [(0,1,ci 1),(1,1,ci 0),(2,1,ci 1),(3,1,ci 0)]),qI 110 (.bq 1 [.slice none 0 0] [(0,1,.t 109)]),qI 111 (.call (.f 38) [.t 108,.t 110] (.one (.one .bool)))],oI 112 (.pick (.t 106) (.t 111) (.c (.bool false))),m 113 112,.gL 113 true [qI 114 (.mv (.t 14)),qI 115 (.bq 2 [.int .i64 0,.int .i64 0] [(0,1,ci 2),(1,1,ci 4)]),qI 116 (.call (.f 17) [.t 114,.t 115] (.one (.one .bool)))],oI 117 (.pick (.t 113) (.t 116) (.c (.bool false))),m 16 117] [2,4,6,8,10,14,85,86,87,88,89,90,91,92,93,94,95,96,97,98,99,100,101,102,103,104,105,106,107,108,109,110,111,112,113,114,115,116,117]) (.seq (.region [m 118 16,m 119 118,.gL 119 true [qI 120 (.cW 1 (.t 12)),qI 121 (.load (.one .slice) (.t 120)),qI 122 (.len (.t 121)),qI 123 (.cmp .eql .i64 (.t 122) (ci 2))],oI 124 (.pick (.t 119) (.t 123) (.c (.bool false))),m 125 124,.gL 125 true [qI 126 (.cW 1 (.t 12)),qI 127 (.load (.one .slice) (.t 126)),qI 128 (.eE 1 (.t 127) (ci 0)),qI 129 (.cW 0 (.t 128)),qI 130 (.load (.one .slice) (.t 129)),qI 131 (.bq 2 [.int .i64 0,.int .i64 0] [(0,1,ci 0),(1,1,ci 1)]),qI 132 (.bq 2 [.int .i64 0,.int .i64 0] [(0,1,ci 1),(1,1,ci 2)]),qI 133 (.bq 2 [.int .i64 0,.int .i64 0] [(0,1,ci 0),(1,1,ci 2)]),qI 134 (.bq 3 [.slice none 0 0,.slice none 0 0,.slice none 0 0] [(0,1,.t 131),(1,1,.t 132),(2,1,.t 133)]),qI 135 (.call (.f 38) [.t 130,.t 134] (.one (.one .bool)))],oI 136 (.pick (.t 125) (.t 135) (.c (.bool false))),m 137 136,.gL 137 true [qI 138 (.cW 1 (.t 12)),qI 139 (.load (.one .slice) (.t 138)),qI 140 (.eE 1 (.t 139) (ci 1)),qI 141 (.cW 0 (.t 140)),qI 142 (.load (.one .slice) (.t 141)),qI 143 (.bq 1 [.int .i64 0] [(0,1,ci 0)]),qI 144 (.bq 1 [.int .i64 0] [(0,1,ci 1)]),qI 145 (.bq 1 [.int .i64 0] [(0,1,ci 2)]),qI 146 (.bq 1 [.int .i64 0] [(0,1,ci 3)]),qI 147 (.bq 4 [.slice none 0 0,.slice none 0 0,.slice none 0 0,.slice none 0 0] [(0,1,.t 143),(1,1,.t 144),(2,1,.t 145),(3,1,.t 146)]),qI 148 (.call (.f 38) [.t 142,.t 147] (.one (.one .bool)))],oI 149 (.pick (.t 137) (.t 148) (.c (.bool false))),m 0 149] [12,16,118,119,120,121,122,123,124,125,126,127,128,129,130,131,132,133,134,135,136,137,138,139,140,141,142,143,144,145,146,147,148,149]) (.ret))))))))))))
abbrev au(R:Type):=AH→Option R
def aHi:List Value:=un 150 []
def vC:aK:=⟨150,aBP,[.tmp 0]⟩
theorem ab8:okF Tryz.prog 11 vC=true:=by kernel_rfl
def aN0{R:Type}(C:Callee)(fl k:Nat)(kr:aC R):au R:=fun h=>bJ h [vi 1,vi 0,vi 1,vi 0] fun b1 h2=>bJ h2 [vi 0,vi 1,vi 1,vi 1] fun b3 h4=>bJ h4 [.slice (some ⟨b1,0,none⟩) 4 4,.slice (some ⟨b3,0,none⟩) 4 4] fun b5 h6=>bJ h6 [.int .i64 0,.int .i64 0,.slice none 0 0,.int .i64 0,.slice none 0 0] fun b7 h8=>st fl h8 ⟨b7,0,none⟩ [vi 2,vi 1,.slice none 0 0,vi 4,.slice (some ⟨b5,0,none⟩) 2 2] fun h9=>aF .i64 h9 b7 0 fun mb=>aF .i64 h9 b7 1 fun xA=>aT h9 b7 2 fun T8=>aF .i64 h9 b7 3 fun BL=>aT h9 b7 4 fun TT=>aj C fl fn.lE [.agg ⟨[vi mb,vi xA,vs T8,vi BL,vs TT]⟩,vi 1] h9 fun v15 GN=>aE v15 fun l17=>ar l17 fun v18 l19=>aX v18 fun YI=>ar l19 fun v21 l22=>asInt .i64 v21 fun n23=>aM l22 (aF .i64 GN b7 0 fun n24=>aF .i64 GN b7 1 fun HU=>aT GN b7 2 fun s26=>aF .i64 GN b7 3 fun n27=>aT GN b7 4 fun s28=>aj C fl fn.eP [.agg ⟨[vi n24,vi HU,vs s26,vi n27,vs s28]⟩] GN fun v29 h30=>aE v29 fun l31=>ar l31 fun v32 l33=>aX v32 fun s34=>ar l33 fun v35 l36=>asInt .i64 v35 fun n37=>aM l36 (aF .i64 h30 b7 0 fun n38=>aF .i64 h30 b7 1 fun n39=>aT h30 b7 2 fun s40=>aF .i64 h30 b7 3 fun n41=>aT h30 b7 4 fun s42=>aj C fl fn.dG [.agg ⟨[vi n38,vi n39,vs s40,vi n41,vs s42]⟩] h30 fun v43 h44=>aE v43 fun l45=>ar l45 fun v46 l47=>aX v46 fun s48=>ar l47 fun v49 l50=>asInt .i64 v49 fun n51=>aM l50 (bJ h44 [vi 2,vi 4] fun b52 h53=>aj C fl fn.lF [.slice (some ⟨b52,0,none⟩) 2 2,vi 4] h53 fun v54 h55=>aE v54 fun l56=>ar l56 fun v57 l58=>aX v57 fun s59=>ar l58 fun v60 l61=>asInt .i64 v60 fun n62=>aM l61 (aF .i64 h55 b7 0 fun n63=>aF .i64 h55 b7 1 fun n64=>aT h55 b7 2 fun s65=>aF .i64 h55 b7 3 fun n66=>aT h55 b7 4 fun s67=>bJ h55 [vi 0,vi 2,vi 3] fun b68 h69=>aj C fl fn.jJ [.agg ⟨[vi n63,vi n64,vs s65,vi n66,vs s67]⟩,.slice (some ⟨b68,0,none⟩) 3 3] h69 fun v70 h71=>aE v70 fun l72=>ar l72 fun v73 l74=>asAgg v73 fun l75=>ar l75 fun v76 l77=>asInt .i64 v76 fun n78=>ar l77 fun v79 l80=>asInt .i64 v79 fun n81=>ar l80 fun v82 l83=>aX v82 fun s84=>ar l83 fun v85 l86=>asInt .i64 v85 fun n87=>ar l86 fun v88 l89=>aX v88 fun s90=>aM l89 (ar l74 fun v91 l92=>asInt .i64 v91 fun n93=>aM l92 (bJ h71 [.int .i64 0,.int .i64 0,.slice none 0 0,.int .i64 0,.slice none 0 0] fun b94 h95=>st fl h95 ⟨b94,0,none⟩ [vi n78,vi n81,vs s84,vi n87,vs s90] fun h96=>aF .i64 h96 b7 0 fun n97=>aF .i64 h96 b7 1 fun n98=>aT h96 b7 2 fun s99=>aF .i64 h96 b7 3 fun aZ1=>aT h96 b7 4 fun a8v=>aj C fl fn.lG [.agg ⟨[vi n97,vi n98,vs s99,vi aZ1,vs a8v]⟩] h96 fun aQW aSa=>aE aQW fun aQu=>ar aQu fun a6d aX9=>asAgg a6d fun aRN=>ar aRN fun a59 aZV=>aX a59 fun aZk=>ar aZV fun aYL a4a=>aX aYL fun a5v=>aM a4a (ar aX9 fun a4k a3u=>asInt .i64 a4k fun a33=>aM a3u (bJ aSa [.slice none 0 0,.slice none 0 0] fun aAC a1R=>st fl a1R ⟨aAC,0,none⟩ [vs aZk,vs a5v] fun aqo=>aF .i64 aqo b7 0 fun aas=>aF .i64 aqo b7 1 fun aZl=>aT aqo b7 2 fun a7s=>aF .i64 aqo b7 3 fun a4w=>aT aqo b7 4 fun a83=>aT aqo aAC 0 fun aRa=>aT aqo aAC 1 fun a17=>aj C fl fn.oE [.agg ⟨[vi aas,vi aZl,vs a7s,vi a4w,vs a83]⟩,.agg ⟨[vs aRa,vs a17]⟩] aqo fun aGc V1=>aE aGc fun aQ1=>ar aQ1 fun aRn aYU=>aX aRn fun aRW=>ar aYU fun aQX aQR=>asInt .i64 aQX fun ags=>aM aQR (if (n23==0)=true then if (n37==0)=true then if (n51==0)=true then if (n62==0)=true then if (n93==0)=true then if (a33==0)=true then if (ags==0)=true then bJ V1 [vi 0,vi 2] fun a32 a69=>aj C fl fn.cN [vs YI,.slice (some ⟨a32,0,none⟩) 2 2] a69 fun a0u aUX=>asBool a0u fun a40=>if a40=true then bJ aUX [vi 2,vi 4] fun a55 aRw=>aj C fl fn.cN [vs s34,.slice (some ⟨a55,0,none⟩) 2 2] aRw fun a5c aNc=>asBool a5c fun aFO=>if aFO=true then bJ aNc [vi 0,vi 0,vi 1,vi 1,vi 2] fun a7E aY9=>aj C fl fn.cN [vs s48,.slice (some ⟨a7E,0,none⟩) 5 5] aY9 fun a7J aUF=>asBool a7J fun a4T=>if a4T=true then bJ aUF [vi 2,vi 4] fun aQE a3Y=>aj C fl fn.cN [vs s59,.slice (some ⟨aQE,0,none⟩) 2 2] a3Y fun aZD aQ2=>asBool aZD fun a67=>if a67=true then aT aQ2 b94 4 fun aZ7=>bJ aQ2 [vi 1,vi 0,vi 1,vi 0] fun a5V a8x=>bJ a8x [.slice (some ⟨a5V,0,none⟩) 4 4] fun aY2 aZo=>aj C fl fn.eQ [vs aZ7,.slice (some ⟨aY2,0,none⟩) 1 1] aZo fun aQ3 aTE=>asBool aQ3 fun aNe=>if aNe=true then bJ aTE [vi 2,vi 4] fun a3E aQP=>aj C fl fn.cN [vs aRW,.slice (some ⟨a3E,0,none⟩) 2 2] aQP fun aR1 aAq=>asBool aR1 fun a4b=>if a4b=true then aT aAq aAC 1 fun a43=>if (((a43.l:Nat):Int)==2)=true then aT aAq aAC 1 fun a6O=>idx 1 a6O 0 fun aUZ=>aT aAq aUZ.block aUZ.off fun a73=>bJ aAq [vi 0,vi 1] fun aZh a2y=>bJ a2y [vi 1,vi 2] fun aQ9 aRv=>bJ aRv [vi 0,vi 2] fun aZm aQ7=>bJ aQ7 [.slice (some ⟨aZh,0,none⟩) 2 2,.slice (some ⟨aQ9,0,none⟩) 2 2,.slice (some ⟨aZm,0,none⟩) 2 2] fun a0z aRQ=>aj C fl fn.eQ [vs a73,.slice (some ⟨a0z,0,none⟩) 3 3] aRQ fun aZF aNB=>asBool aZF fun a4V=>if a4V=true then aT aNB aAC 1 fun a1U=>idx 1 a1U 1 fun aUP=>aT aNB aUP.block aUP.off fun a0P=>bJ aNB [vi 0] fun aQI aZe=>bJ aZe [vi 1] fun a80 aYl=>bJ aYl [vi 2] fun a2J a8S=>bJ a8S [vi 3] fun aZP a06=>bJ a06 [.slice (some ⟨aQI,0,none⟩) 1 1,.slice (some ⟨a80,0,none⟩) 1 1,.slice (some ⟨a2J,0,none⟩) 1 1,.slice (some ⟨aZP,0,none⟩) 1 1] fun a2A aRk=>aj C fl fn.eQ [vs a0P,.slice (some ⟨a2A,0,none⟩) 4 4] aRk fun aYH a5Y=>asBool aYH fun a5K=>kr a5K a5Y else kr false aNB else kr false aAq else kr false aAq else kr false aTE else kr false aQ2 else kr false aUF else kr false aNc else kr false aUX else kr false V1 else kr false V1 else kr false V1 else kr false V1 else kr false V1 else kr false V1 else kr false V1)))))))))
theorem aHj:(cp aHi (ce C fl k aBP K))=aN0 C fl k (cp aHh (K .ret)):=by kernel_rfl
def ey(h:AH):Option (Value×AH):=aN0 C fl k (fun y0 q=>some (.bool y0,q)) h
theorem YM(h):aV C fl k vC [] h=ey C fl k h:=aXU (aHj C fl k (aG _)) (by kernel_rfl) (by kernel_rfl)
def aHk(t2:Bool):List Value:=un 2 (.bool t2::un 17 [])
def aBQ:aa:=.seq (.region [oI 1 (.box (.t 0)),oI 2 (.mv (.c (.bool false)))] [0,2]) (.seq (.region [oI 3 (.load (.agg [.int .i64,.int .i64,.slice,.int .i64,.slice]) (.t 1)),oI 4 (.call (.f 29) [.t 3,ci 120] (.one (.one .bool))),m 5 4,.gL 5 true [qI 6 (.load (.agg [.int .i64,.int .i64,.slice,.int .i64,.slice]) (.t 1)),qI 7 (.call (.f 32) [.t 6] (.one (.one (.int .i64)))),qI 8 (.cmp .neq .i64 (.t 7) (ci 0)),qI 9 (.mv (.t 8))],.gL 9 false [qI 10 (.cW 3 (.t 1)),qI 11 (.load (.one (.int .i64)) (.t 10)),qI 12 (.cmp .gtr .i64 (.t 11) (ci 16))],.gL 5 true [qI 13 (.pick (.t 9) (.c (.bool true)) (.t 12)),qI 14 (.mv (.t 13))],.gL 14 false [qI 15 (.cW 3 (.t 1)),qI 16 (.load (.one (.int .i64)) (.t 15)),qI 17 (.cmp .leq .i64 (.t 16) (ci 9))],.gL 5 true [qI 18 (.pick (.t 14) (.c (.bool true)) (.t 17))],oI 19 (.pick (.t 5) (.t 18) (.c (.bool false))),m 2 19] [1,3,4,5,6,7,8,9,10,11,12,13,14,15,16,17,18,19]) (.ret))
def aHl(aI aJ:Int)(aL:Sl)(bZ:Int)(bY:Sl):List Value:=.agg ⟨[vi aI,vi aJ,vs aL,vi bZ,vs bY]⟩::un 19 []
def vD:aK:=⟨20,aBQ,[.tmp 2]⟩
theorem ab9:okF Tryz.prog 12 vD=true:=by kernel_rfl
def alH{R:Type}(C:Callee)(fl k:Nat)(kr:aC R):bD R:=fun aI aJ aL bZ bY h=>bJ h [vi aI,vi aJ,vs aL,vi bZ,vs bY] fun b1 h2=>aF .i64 h2 b1 0 fun n3=>aF .i64 h2 b1 1 fun n4=>aT h2 b1 2 fun s5=>aF .i64 h2 b1 3 fun n6=>aT h2 b1 4 fun s7=>aj C fl fn.tC [.agg ⟨[vi n3,vi n4,vs s5,vi n6,vs s7]⟩,vi 120] h2 fun v8 h9=>asBool v8 fun b10=>if b10=true then aF .i64 h9 b1 0 fun xA=>aF .i64 h9 b1 1 fun Bu=>aT h9 b1 2 fun VZ=>aF .i64 h9 b1 3 fun Bv=>aT h9 b1 4 fun Ua=>aj C fl fn.pV [.agg ⟨[vi xA,vi Bu,vs VZ,vi Bv,vs Ua]⟩] h9 fun v16 yK=>asInt .i64 v16 fun JT=>if (JT !=0)=false then aF .i64 yK b1 3 fun TX=>if decide (TX>16)=false then aF .i64 yK b1 3 fun n20=>kr (decide (n20≤9)) yK else kr true yK else kr true yK else kr false h9
theorem aHm:(cp aHl (ce C fl k aBQ K))=alH C fl k (cp aHk (K .ret)):=by kernel_rfl
def pU(aw ax:Int)(ay:Sl)(bk:Int)(bj:Sl)(h:AH):Option (Value×AH):=alH C fl k (fun y2 q=>some (.bool y2,q)) aw ax ay bk bj h
theorem YN(aw ax:Int)(ay:Sl)(bk:Int)(bj:Sl)(h):aV C fl k vD [.agg ⟨[vi aw,vi ax,vs ay,vi bk,vs bj]⟩] h=pU C fl k aw ax ay bk bj h:=oY (aHm C fl k (aG _)) aw ax ay bk bj (by kernel_rfl) (by kernel_rfl)
abbrev aO(R:Type):=Sl→Int→AH→Option R
def aaz(t2:Sl)(t3:Int):List Value:=un 2 (t2.v::vi t3::un 27 [])
def M4:aa:=.seq (.region [m 30 6,m 2 30,mc 3 0] [6,30]) (.ret)
abbrev ab(R:Type):=Sl→AH→Option R
def ahZ(t6:Sl):List Value:=un 6 (t6.v::un 24 [])
abbrev QT(R:Type):=Addr→Sl→Sl→Addr→AH→Option R
def QU(t1:Addr)(t4 t6:Sl)(t7:Addr):List Value:=un 1 (vp t1::un 2 (t4.v::un 1 (t6.v::vp t7::un 23 [])))
def M5:aa:=.seq (.region [li 16 7,fa 17 4 1,ls 18 17,ln 19 18,cm 20 .leq 16 19] [16,17,18,19]) (.seq (.cond (.t 20) (kl [20]) (.seq (kl [1,4,7,20]) (.exit 0))) (.seq (.block 1 (.region [m 23 6,m 24 4,oI 25 (.Da 40 [] [.t 7]),oI 26 (.call (.f 39) [.t 24,.t 25] (.one (.one (.int .i64)))),oI 27 (.bq 1 [.int .i64 0] [(0,1,.t 26)]),oI 28 (.append 1 8 (.t 23) (.t 27)),m 6 28] [23,24,25,26,27,28])) (.seq (.region [li 29 7] [7]) (.seq (.region [oI 7 (.alloc [.int .i64 0]),sI 1 7 29] [29]) (.region [li 21 7,bc 22 .add 21 1,sI 1 7 22] [21,22])))))
def aca:aa:=.seq (.block 0 (.loop M5)) M4
def atx(cn:aa):aa:=.seq (.seq (.region [oI 1 (.box (.t 0)),oI 2 (.mv (.c (.slice none 0 0))),mc 3 0] [0,2,3]) (.seq (.region [oI 9 (.load (.agg [.int .i64,.int .i64,.slice,.int .i64,.slice]) (.t 1)),oI 10 (.call (.f 15) [.t 9] (.ke [.one .slice,.one (.int .i64)])),m 8 10,ex 11 8 0,ex 12 8 1,m 4 11,m 5 12] [8,9,10,11,12]) (.seq (.region [m 13 5,ck 14 .neq 13 0] [13]) (.seq (.cond (.t 14) (.seq (.region [m 15 5,oI 2 (.mv (.c (.slice none 0 0))),m 3 15] [1,4,5,14,15]) (.ret)) (kl [5,14])) (.seq (.region [oI 6 (.mv (.c (.slice none 0 0)))] []) (.region [oI 7 (.alloc [.int .i64 0]),pI (.store 1 (.t 7) (ci 1))] [])))))) cn
def aBR:aa:=atx aca
def aty(aI aJ:Int)(aL:Sl)(bZ:Int)(bY:Sl):List Value:=.agg ⟨[vi aI,vi aJ,vs aL,vi bZ,vs bY]⟩::un 30 []
def jO:aK:=⟨31,aBR,[.tmp 2,.tmp 3]⟩
theorem IW:okF Tryz.prog 13 jO=true:=by kernel_rfl
def Ut{R:Type}(C:Callee)(fl k:Nat)(kr:aO R):ab R:=fun t6 h=>kr t6 0 h
theorem alI:(cp ahZ (ce C fl k M4 K))=Ut C fl k (cp aaz (K .ret)):=by kernel_rfl
def tH{R:Type}(C:Callee)(fl k:Nat)(kn:QT R)(e0:ab R):QT R:=fun t1 t4 t6 t7 h=>aF .i64 h t7.block t7.off fun n1=>aT h t1.block (t1.off+4) fun s2=>if decide (n1≤((s2.l:Nat):Int))=true then aj C fl fn.cY [vs t4,.func (.func fn.cZ) ⟨[]⟩ ⟨[.pointer (some t7)]⟩] h fun v3 h4=>asInt .i64 v3 fun n5=>bJ h4 [vi n5] fun b6 h7=>dn fl 1 8 t6 ⟨(some ⟨b6,0,none⟩),1,1⟩ h7 fun s8 h9=>aF .i64 h9 t7.block t7.off fun mb=>bJ h9 [.int .i64 0] fun b11 zN=>st fl zN ⟨b11,0,none⟩ [vi mb] fun qB=>aF .i64 qB b11 0 fun Bv=>st fl qB ⟨b11,0,none⟩ [vi (av (Bv+1))] fun nX=>kn t1 t4 s8 ⟨b11,0,none⟩ nX else e0 t6 h
theorem alJ:(cp QU (ce C fl k M5 K))=tH C fl k (cp QU (K .normal)) (cp ahZ (K (.exit 0))):=by kernel_rfl
def qc(kn:ab R):Nat→QT R
 |0=>fun _ _ _ _ _=>none
 |m+1=>tH C fl k (qc kn m) kn
theorem We:∀m,(cp QU (aQ m (aW C fl k M5 0 K)))=qc C fl k (cp ahZ (K .normal)) m
 |0=>by kernel_rfl
 |m+1=>gu (alJ C fl k _) (ag (fun L=>tH C fl k L _) (We m))
def ah0(kr:aO R):QT R:=qc C fl k (Ut C fl k kr) k
theorem axZ:(cp QU (ce C fl k aca K))=ah0 C fl k (cp aaz (K .ret)):=(iP (gv (We C fl k (bw C fl k M4 K)))).trans (ag (fun L=>qc C fl k L k) (iL (alI C fl k K)))
def Uu{R:Type}(C:Callee)(fl k:Nat)(kx:QT R)(kr:aO R):bD R:=fun aI aJ aL bZ bY h=>bJ h [vi aI,vi aJ,vs aL,vi bZ,vs bY] fun b16 yK=>aF .i64 yK b16 0 fun JT=>aF .i64 yK b16 1 fun TX=>aT yK b16 2 fun YI=>aF .i64 yK b16 3 fun n21=>aT yK b16 4 fun s22=>aj C fl fn.dG [.agg ⟨[vi JT,vi TX,vs YI,vi n21,vs s22]⟩] yK fun v23 vt=>aE v23 fun l25=>ar l25 fun v26 l27=>aX v26 fun s28=>ar l27 fun v29 l30=>asInt .i64 v29 fun n31=>aM l30 (if (n31 !=0)=true then kr ⟨none,0,0⟩ n31 vt else bJ vt [.int .i64 0] fun b32 h33=>st fl h33 ⟨b32,0,none⟩ [vi 1] fun h34=>kx ⟨b16,0,none⟩ s28 ⟨none,0,0⟩ ⟨b32,0,none⟩ h34)
def agN(kr:aO R):bD R:=Uu C fl k (ah0 C fl k kr) kr
theorem aHn(cn:aa):(cp aty (ce C fl k (atx cn) K))=Uu C fl k (cp QU (ce C fl k cn K)) (cp aaz (K .ret)):=by kernel_rfl
theorem aHo:(cp aty (ce C fl k aBR K))=agN C fl k (cp aaz (K .ret)):=(aHn C fl k K aca).trans (ag (fun L0=>Uu C fl k L0 _) (axZ C fl k K))
def eP(aw ax:Int)(ay:Sl)(bk:Int)(bj:Sl)(h:AH):Option (Value×AH):=agN C fl k (fun y2 y3 q=>some (.tuple ⟨[vs y2,vi y3]⟩,q)) aw ax ay bk bj h
theorem te(aw ax:Int)(ay:Sl)(bk:Int)(bj:Sl)(h):aV C fl k jO [.agg ⟨[vi aw,vi ax,vs ay,vi bk,vs bj]⟩] h=eP C fl k aw ax ay bk bj h:=oY (aHo C fl k (aG _)) aw ax ay bk bj (by kernel_rfl) (by kernel_rfl)
def aaA(t2:Sl)(t3:Int):List Value:=un 2 (t2.v::vi t3::un 23 [])
def M6:aa:=.seq (.region [m 26 5,m 2 26,mc 3 0] [5,26]) (.ret)
def ah1(t5:Sl):List Value:=un 5 (t5.v::un 21 [])
abbrev bl(R:Type):=Addr→Sl→Int→AH→Option R
def QW(t1:Addr)(t5:Sl)(t6:Int):List Value:=un 1 (vp t1::un 3 (t5.v::vi t6::un 20 []))
def M7:aa:=.seq (.region [m 12 6,fa 13 4 1,ls 14 13,ln 15 14,cm 16 .leq 12 15] [12,13,14,15]) (.seq (.cond (.t 16) (kl [16]) (.seq (kl [1,6,16]) (.exit 0))) (.seq (.block 1 (.region [m 19 5,oI 20 (.load (.agg [.int .i64,.int .i64,.slice,.int .i64,.slice]) (.t 1)),m 21 6,oI 22 (.call (.f 42) [.t 20,.t 21] (.one (.one .slice))),ln 23 22,oI 24 (.bq 1 [.int .i64 0] [(0,1,.t 23)]),oI 25 (.append 1 8 (.t 19) (.t 24)),m 5 25] [19,20,21,22,23,24,25])) (.region [m 17 6,bc 18 .add 17 1,m 6 18] [17,18])))
def acb:aa:=.seq (.block 0 (.loop M7)) M6
def atz(cn:aa):aa:=.seq (.seq (.region [oI 1 (.box (.t 0)),oI 2 (.mv (.c (.slice none 0 0))),mc 3 0] [0,2,3]) (.seq (.region [oI 7 (.load (.agg [.int .i64,.int .i64,.slice,.int .i64,.slice]) (.t 1)),oI 8 (.call (.f 41) [.t 7] (.one (.one (.int .i64)))),m 4 8] [7,8]) (.seq (.region [m 9 4,ck 10 .neq 9 0] [9]) (.seq (.cond (.t 10) (.seq (.region [m 11 4,oI 2 (.mv (.c (.slice none 0 0))),m 3 11] [1,4,10,11]) (.ret)) (kl [4,10])) (.seq (.region [oI 5 (.mv (.c (.slice none 0 0)))] []) (.region [mc 6 1] [])))))) cn
def aBS:aa:=atz acb
def atA(aI aJ:Int)(aL:Sl)(bZ:Int)(bY:Sl):List Value:=.agg ⟨[vi aI,vi aJ,vs aL,vi bZ,vs bY]⟩::un 26 []
def oK:aK:=⟨27,aBS,[.tmp 2,.tmp 3]⟩
theorem Uv:okF Tryz.prog 14 oK=true:=by kernel_rfl
def Uw{R:Type}(C:Callee)(fl k:Nat)(kr:aO R):ab R:=fun t5 h=>kr t5 0 h
theorem alK:(cp ah1 (ce C fl k M6 K))=Uw C fl k (cp aaA (K .ret)):=by kernel_rfl
def tI{R:Type}(C:Callee)(fl k:Nat)(kn:bl R)(e0:ab R):bl R:=fun t1 t5 t6 h=>aT h t1.block (t1.off+4) fun s1=>if decide (t6≤((s1.l:Nat):Int))=true then aF .i64 h t1.block t1.off fun n2=>aF .i64 h t1.block (t1.off+1) fun n3=>aT h t1.block (t1.off+1+1) fun s4=>aF .i64 h t1.block (t1.off+1+1+1) fun n5=>aT h t1.block (t1.off+1+1+1+1) fun s6=>aj C fl fn.pW [.agg ⟨[vi n2,vi n3,vs s4,vi n5,vs s6]⟩,vi t6] h fun v7 h8=>aX v7 fun s9=>bJ h8 [vi ((s9.l:Nat):Int)] fun b10 iH=>dn fl 1 8 t5 ⟨(some ⟨b10,0,none⟩),1,1⟩ iH fun T8 qB=>kn t1 T8 (av (t6+1)) qB else e0 t5 h
theorem alL:(cp QW (ce C fl k M7 K))=tI C fl k (cp QW (K .normal)) (cp ah1 (K (.exit 0))):=by kernel_rfl
def qd(kn:ab R):Nat→bl R
 |0=>fun _ _ _ _=>none
 |m+1=>tI C fl k (qd kn m) kn
theorem Wf:∀m,(cp QW (aQ m (aW C fl k M7 0 K)))=qd C fl k (cp ah1 (K .normal)) m
 |0=>by kernel_rfl
 |m+1=>gu (alL C fl k _) (ag (fun L=>tI C fl k L _) (Wf m))
def ah2(kr:aO R):bl R:=qd C fl k (Uw C fl k kr) k
theorem ax0:(cp QW (ce C fl k acb K))=ah2 C fl k (cp aaA (K .ret)):=(iP (gv (Wf C fl k (bw C fl k M6 K)))).trans (ag (fun L=>qd C fl k L k) (iL (alK C fl k K)))
def acd{R:Type}(C:Callee)(fl k:Nat)(kx:bl R)(kr:aO R):bD R:=fun aI aJ aL bZ bY h=>bJ h [vi aI,vi aJ,vs aL,vi bZ,vs bY] fun GM nX=>aF .i64 nX GM 0 fun HT=>aF .i64 nX GM 1 fun Qh=>aT nX GM 2 fun s18=>aF .i64 nX GM 3 fun TX=>aT nX GM 4 fun YI=>aj C fl fn.mX [.agg ⟨[vi HT,vi Qh,vs s18,vi TX,vs YI]⟩] nX fun v21 TY=>asInt .i64 v21 fun n23=>if (n23 !=0)=true then kr ⟨none,0,0⟩ n23 TY else kx ⟨GM,0,none⟩ ⟨none,0,0⟩ 1 TY
def alM(kr:aO R):bD R:=acd C fl k (ah2 C fl k kr) kr
theorem aHp(cn:aa):(cp atA (ce C fl k (atz cn) K))=acd C fl k (cp QW (ce C fl k cn K)) (cp aaA (K .ret)):=by kernel_rfl
theorem aHq:(cp atA (ce C fl k aBS K))=alM C fl k (cp aaA (K .ret)):=(aHp C fl k K acb).trans (ag (fun L0=>acd C fl k L0 _) (ax0 C fl k K))
def kZ(aw ax:Int)(ay:Sl)(bk:Int)(bj:Sl)(h:AH):Option (Value×AH):=alM C fl k (fun y2 y3 q=>some (.tuple ⟨[vs y2,vi y3]⟩,q)) aw ax ay bk bj h
theorem QX(aw ax:Int)(ay:Sl)(bk:Int)(bj:Sl)(h):aV C fl k oK [.agg ⟨[vi aw,vi ax,vs ay,vi bk,vs bj]⟩] h=kZ C fl k aw ax ay bk bj h:=oY (aHq C fl k (aG _)) aw ax ay bk bj (by kernel_rfl) (by kernel_rfl)
def aaB(t2:Sl)(t3:Int):List Value:=un 2 (t2.v::vi t3::un 39 [])
def M8:aa:=.seq (.region [m 42 6,m 2 42,mc 3 0] [6,42]) (.ret)
def ah3(t6:Sl):List Value:=un 6 (t6.v::un 36 [])
abbrev ji(R:Type):=Sl→Sl→Int→Int→AH→Option R
def QY(t6 t22:Sl)(t23 t24:Int):List Value:=un 6 (t6.v::un 15 (t22.v::vi t23::vi t24::un 18 []))
def M9:aa:=.seq (.region [cm 25 .lss 24 23] []) (.seq (.cond (.t 25) (kl [25]) (.seq (kl [22,23,24,25]) (.exit 0))) (.seq (.block 1 (.seq (.region [m 26 24,ia 27 1 22 24,li 28 27,m 7 26,m 8 28] [26,27,28]) (.seq (.region [m 29 7,oI 30 (.call (.f 44) [.t 29] (.one (.one .slice))),ln 31 30,m 9 31] [7,29,30,31]) (.region [m 32 6,m 33 9,m 34 6,m 35 9,ia 36 1 34 35,li 37 36,m 38 8,oI 39 (.mm true (.t 37) (.t 38)),ia 40 1 32 33,sI 1 40 39] [8,9,32,33,34,35,36,37,38,39,40])))) (.region [bc 41 .add 24 1,m 24 41] [41])))
def ace:aa:=.seq (.block 0 (.loop M9)) M8
def atB(cn:aa):aa:=.seq (.seq (.region [oI 1 (.box (.t 0)),oI 2 (.mv (.c (.slice none 0 0))),mc 3 0] [0,2,3]) (.seq (.region [oI 11 (.load (.agg [.int .i64,.int .i64,.slice,.int .i64,.slice]) (.t 1)),oI 12 (.call (.f 43) [.t 11] (.ke [.one .slice,.one (.int .i64)])),m 10 12,ex 13 10 0,ex 14 10 1,m 4 13,m 5 14] [10,11,12,13,14]) (.seq (.region [m 15 5,ck 16 .neq 15 0] [15]) (.seq (.cond (.t 16) (.seq (.region [m 17 5,oI 2 (.mv (.c (.slice none 0 0))),m 3 17] [1,4,5,16,17]) (.ret)) (kl [5,16])) (.seq (.region [fa 18 3 1,li 19 18,bc 20 .add 19 1,oI 21 (.dj 8 [.int .i64 0] (.t 20) (.t 20)),m 6 21] [1,18,19,20,21]) (.region [m 22 4,ln 23 22,mc 24 0] [4])))))) cn
def aBT:aa:=atB ace
def atC(aI aJ:Int)(aL:Sl)(bZ:Int)(bY:Sl):List Value:=.agg ⟨[vi aI,vi aJ,vs aL,vi bZ,vs bY]⟩::un 42 []
def jP:aK:=⟨43,aBT,[.tmp 2,.tmp 3]⟩
theorem IX:okF Tryz.prog 15 jP=true:=by kernel_rfl
def Ux{R:Type}(C:Callee)(fl k:Nat)(kr:aO R):ab R:=fun t6 h=>kr t6 0 h
theorem alN:(cp ah3 (ce C fl k M8 K))=Ux C fl k (cp aaB (K .ret)):=by kernel_rfl
def tJ{R:Type}(C:Callee)(fl k:Nat)(kn:ji R)(e0:ab R):ji R:=fun t6 t22 t23 t24 h=>if decide (t24<t23)=true then idx 1 t22 t24 fun p1=>aF .i64 h p1.block p1.off fun n2=>aj C fl fn.ij [vi t24] h fun v3 h4=>aX v3 fun s5=>idx 1 t6 ((s5.l:Nat):Int) fun p6=>aF .i64 h4 p6.block p6.off fun n7=>idx 1 t6 ((s5.l:Nat):Int) fun p8=>st fl h4 p8 [vi (if n2>n7 then n2 else n7)] fun h9=>kn t6 t22 t23 (av (t24+1)) h9 else e0 t6 h
theorem alO:(cp QY (ce C fl k M9 K))=tJ C fl k (cp QY (K .normal)) (cp ah3 (K (.exit 0))):=by kernel_rfl
def tK(kn:ab R):Nat→ji R
 |0=>fun _ _ _ _ _=>none
 |m+1=>tJ C fl k (tK kn m) kn
theorem Wg:∀m,(cp QY (aQ m (aW C fl k M9 0 K)))=tK C fl k (cp ah3 (K .normal)) m
 |0=>by kernel_rfl
 |m+1=>gu (alO C fl k _) (ag (fun L=>tJ C fl k L _) (Wg m))
def ah4(kr:aO R):ji R:=tK C fl k (Ux C fl k kr) k
theorem ax1:(cp QY (ce C fl k ace K))=ah4 C fl k (cp aaB (K .ret)):=(iP (gv (Wg C fl k (bw C fl k M8 K)))).trans (ag (fun L=>tK C fl k L k) (iL (alN C fl k K)))
def Uy{R:Type}(C:Callee)(fl k:Nat)(kx:ji R)(kr:aO R):bD R:=fun aI aJ aL bZ bY h=>bJ h [vi aI,vi aJ,vs aL,vi bZ,vs bY] fun b10 iH=>aF .i64 iH b10 0 fun Bu=>aF .i64 iH b10 1 fun BL=>aT iH b10 2 fun TT=>aF .i64 iH b10 3 fun qD=>aT iH b10 4 fun TR=>aj C fl fn.gj [.agg ⟨[vi Bu,vi BL,vs TT,vi qD,vs TR]⟩] iH fun v17 JR=>aE v17 fun l19=>ar l19 fun v20 l21=>aX v20 fun s22=>ar l21 fun v23 l24=>asInt .i64 v23 fun HU=>aM l24 (if (HU !=0)=true then kr ⟨none,0,0⟩ HU JR else aF .i64 JR b10 3 fun EI=>qF 8 [.int .i64 0] (av (EI+1)) (av (EI+1)) JR fun s27 h28=>kx s27 s22 ((s22.l:Nat):Int) 0 h28)
def agO(kr:aO R):bD R:=Uy C fl k (ah4 C fl k kr) kr
theorem aHr(cn:aa):(cp atC (ce C fl k (atB cn) K))=Uy C fl k (cp QY (ce C fl k cn K)) (cp aaB (K .ret)):=by kernel_rfl
theorem aHs:(cp atC (ce C fl k aBT K))=agO C fl k (cp aaB (K .ret)):=(aHr C fl k K ace).trans (ag (fun L0=>Uy C fl k L0 _) (ax1 C fl k K))
def dG(aw ax:Int)(ay:Sl)(bk:Int)(bj:Sl)(h:AH):Option (Value×AH):=agO C fl k (fun y2 y3 q=>some (.tuple ⟨[vs y2,vi y3]⟩,q)) aw ax ay bk bj h
theorem tg(aw ax:Int)(ay:Sl)(bk:Int)(bj:Sl)(h):aV C fl k jP [.agg ⟨[vi aw,vi ax,vs ay,vi bk,vs bj]⟩] h=dG C fl k aw ax ay bk bj h:=oY (aHs C fl k (aG _)) aw ax ay bk bj (by kernel_rfl) (by kernel_rfl)
def aaC(t2:Sl)(t3:Int):List Value:=un 2 (t2.v::vi t3::un 40 [])
def Na:aa:=.seq (.region [m 43 5,m 2 43,mc 3 0] [5,43]) (.ret)
def E4(t5:Sl):List Value:=un 5 (t5.v::un 38 [])
def fD(t1:Addr)(t5:Sl)(t6:Int):List Value:=un 1 (vp t1::un 3 (t5.v::vi t6::un 37 []))
def qT:aa:=.region [m 19 6,bc 20 .add 19 1,m 6 20] [19,20]
def oZ:aa:=.region [m 39 5,m 40 8,oI 41 (.bq 1 [.int .i64 0] [(0,1,.t 40)]),oI 42 (.append 1 8 (.t 39) (.t 41)),m 5 42] [8,39,40,41,42]
abbrev bV(R:Type):=Addr→Sl→Int→Int→AH→Option R
def ah5(t1:Addr)(t5:Sl)(t6 t8:Int):List Value:=un 1 (vp t1::un 3 (t5.v::vi t6::un 1 (vi t8::un 35 [])))
abbrev QZ(R:Type):=Addr→Sl→Int→Sl→Int→Int→AH→Option R
def Q0(t1:Addr)(t5:Sl)(t6:Int)(t7:Sl)(t8 t9:Int):List Value:=un 1 (vp t1::un 3 (t5.v::vi t6::t7.v::vi t8::vi t9::un 34 []))
def o9:aa:=.seq (.region [m 25 9,m 26 7,ln 27 26,cm 28 .lss 25 27] [25,26,27]) (.seq (.cond (.t 28) (kl [28]) (.seq (kl [7,9,28]) (.exit 2))) (.seq (.block 3 (.region [m 31 8,oJ 32 (.load (.agg [.int .i64,.int .i64,.slice,.int .i64,.slice]) (.t 1)),m 33 7,m 34 9,ia 35 1 33 34,lt 36 35,oI 37 (.call (.f 46) [.t 32,.t 36] (.one (.one (.int .i64)))),oI 38 (.mm true (.t 31) (.t 37)),m 8 38] [31,32,33,34,35,36,37,38])) (.region [m 29 9,bc 30 .add 29 1,m 9 30] [29,30])))
def tL:aa:=.seq (.block 2 (.loop o9)) oZ
def GQ(cn:aa):aa:=.seq (.seq (.region [fa 21 3 1,li 22 21,m 23 6,oI 24 (.call (.f 45) [ci 0,.t 22,.t 23] (.one (.one .slice))),m 7 24] [21,22,23,24]) (.seq (.region [mc 8 0] []) (.region [mc 9 0] []))) cn
def z7:aa:=GQ tL
def Mi(cn fJ:aa):aa:=.seq (.block 1 fJ) cn
def E5:aa:=Mi qT z7
def Wh(cn:aa):aa:=.seq (.seq (.region [m 15 6,fa 16 3 1,li 17 16,cm 18 .leq 15 17] [15,16,17]) (.cond (.t 18) (kl [18]) (.seq (kl [1,6,18]) (.exit 0)))) cn
def Nb:aa:=Wh E5
def acf:aa:=.seq (.block 0 (.loop Nb)) Na
def atD(cn:aa):aa:=.seq (.seq (.region [oI 1 (.box (.t 0)),oI 2 (.mv (.c (.slice none 0 0))),mc 3 0] [0,2,3]) (.seq (.region [oI 10 (.load (.agg [.int .i64,.int .i64,.slice,.int .i64,.slice]) (.t 1)),oI 11 (.call (.f 41) [.t 10] (.one (.one (.int .i64)))),m 4 11] [10,11]) (.seq (.region [m 12 4,ck 13 .neq 12 0] [12]) (.seq (.cond (.t 13) (.seq (.region [m 14 4,oI 2 (.mv (.c (.slice none 0 0))),m 3 14] [1,4,13,14]) (.ret)) (kl [4,13])) (.seq (.region [oI 5 (.mv (.c (.slice none 0 0)))] []) (.region [mc 6 0] [])))))) cn
def aBU:aa:=atD acf
def atE(aI aJ:Int)(aL:Sl)(bZ:Int)(bY:Sl):List Value:=.agg ⟨[vi aI,vi aJ,vs aL,vi bZ,vs bY]⟩::un 43 []
def oL:aK:=⟨44,aBU,[.tmp 2,.tmp 3]⟩
theorem Uz:okF Tryz.prog 16 oL=true:=by kernel_rfl
def UA{R:Type}(C:Callee)(fl k:Nat)(kr:aO R):ab R:=fun t5 h=>kr t5 0 h
theorem alP:(cp E4 (ce C fl k Na K))=UA C fl k (cp aaC (K .ret)):=by kernel_rfl
def lh{R:Type}(C:Callee)(fl k:Nat)(kn:bl R)(e0:ab R):bl R:=fun t1 t5 t6 h=>kn t1 t5 (av (t6+1)) h
theorem GR:(cp fD (ce C fl k qT K))=lh C fl k (cp fD (K .normal)) (cp E4 (K (.exit 0))):=by kernel_rfl
def lI{R:Type}(C:Callee)(fl k:Nat)(kn:bl R):bV R:=fun t1 t5 t6 t8 h=>bJ h [vi t8] fun b1 h2=>dn fl 1 8 t5 ⟨(some ⟨b1,0,none⟩),1,1⟩ h2 fun s3 h4=>kn t1 s3 t6 h4
theorem Lj:(cp ah5 (ce C fl k oZ K))=lI C fl k (cp fD (K .normal)):=by kernel_rfl
def eT{R:Type}(C:Callee)(fl k:Nat)(kn:QZ R)(e2:bV R):QZ R:=fun t1 t5 t6 t7 t8 t9 h=>if decide (t9<((t7.l:Nat):Int))=true then aF .i64 h t1.block t1.off fun n5=>aF .i64 h t1.block (t1.off+1) fun n6=>aT h t1.block (t1.off+1+1) fun s7=>aF .i64 h t1.block (t1.off+1+1+1) fun n8=>aT h t1.block (t1.off+1+1+1+1) fun s9=>idx 1 t7 t9 fun Qo=>aT h Qo.block Qo.off fun EG=>aj C fl fn.zG [.agg ⟨[vi n5,vi n6,vs s7,vi n8,vs s9]⟩,vs EG] h fun V3 qB=>asInt .i64 V3 fun Bv=>kn t1 t5 t6 t7 (if Bv>t8 then Bv else t8) (av (t9+1)) qB else e2 t1 t5 t6 t8 h
theorem Lk:(cp Q0 (ce C fl k o9 K))=eT C fl k (cp Q0 (K .normal)) (cp ah5 (K (.exit 2))):=by kernel_rfl
def eU(kn:bV R):Nat→QZ R
 |0=>fun _ _ _ _ _ _ _=>none
 |m+1=>eT C fl k (eU kn m) kn
theorem xX:∀m,(cp Q0 (aQ m (aW C fl k o9 2 K)))=eU C fl k (cp ah5 (K .normal)) m
 |0=>by kernel_rfl
 |m+1=>gu (Lk C fl k _) (ag (fun L=>eT C fl k L _) (xX m))
def xD(kn:bl R):QZ R:=eU C fl k (lI C fl k kn) k
theorem Q1:(cp Q0 (ce C fl k tL K))=xD C fl k (cp fD (K .normal)):=(iP (gv (xX C fl k (bw C fl k oZ K)))).trans (ag (fun L=>eU C fl k L k) (iL (Lj C fl k K)))
def qU{R:Type}(C:Callee)(fl k:Nat)(kx:QZ R)(kn:bl R):bl R:=fun t1 t5 t6 h=>aF .i64 h t1.block (t1.off+3) fun qD=>aj C fl fn.ik [vi 0,vi qD,vi t6] h fun v16 yK=>aX v16 fun s18=>kx t1 t5 t6 s18 0 0 yK
def vE(kn:bl R):bl R:=qU C fl k (xD C fl k kn) kn
theorem YO(cn:aa):(cp fD (ce C fl k (GQ cn) K))=qU C fl k (cp Q0 (ce C fl k cn K)) (cp fD (K .normal)):=by kernel_rfl
theorem YP:(cp fD (ce C fl k z7 K))=vE C fl k (cp fD (K .normal)):=(YO C fl k K tL).trans (ag (fun L0=>qU C fl k L0 _) (Q1 C fl k K))
def yT{R:Type}(C:Callee)(fl k:Nat)(kx:bl R)(u0:bl R)(kn:bl R)(e0:ab R):bl R:=fun t1 t5 t6 h=>u0 t1 t5 t6 h
def IY(kn:bl R)(e0:ab R):bl R:=yT C fl k (lh C fl k kn e0) (vE C fl k (lh C fl k kn e0)) kn e0
theorem aeK(cn fJ:aa):(cp fD (ce C fl k (Mi cn fJ) K))=yT C fl k (cp fD (ce C fl k cn K)) (cp fD (ce C fl k fJ (iK 1 (bw C fl k cn K)))) (cp fD (K .normal)) (cp E4 (K (.exit 0))):=by kernel_rfl
theorem aeL:(cp fD (ce C fl k E5 K))=IY C fl k (cp fD (K .normal)) (cp E4 (K (.exit 0))):=(aeK C fl k K qT z7).trans (gG (fun L0 L1=>yT C fl k L0 L1 _ _) (GR C fl k K) ((YP C fl k (iK 1 (bw C fl k qT K))).trans (ag (fun L0=>vE C fl k L0) (bn1 (GR C fl k K)))))
def z8{R:Type}(C:Callee)(fl k:Nat)(kx:bl R)(kn:bl R)(e0:ab R):bl R:=fun t1 t5 t6 h=>aF .i64 h t1.block (t1.off+3) fun TX=>if decide (t6≤TX)=true then kx t1 t5 t6 h else e0 t5 h
def tM(kn:bl R)(e0:ab R):bl R:=z8 C fl k (IY C fl k kn e0) kn e0
theorem alQ(cn:aa):(cp fD (ce C fl k (Wh cn) K))=z8 C fl k (cp fD (ce C fl k cn K)) (cp fD (K .normal)) (cp E4 (K (.exit 0))):=by kernel_rfl
theorem alR:(cp fD (ce C fl k Nb K))=tM C fl k (cp fD (K .normal)) (cp E4 (K (.exit 0))):=(alQ C fl k K E5).trans (ag (fun L0=>z8 C fl k L0 _ _) (aeL C fl k K))
def nh(kn:ab R):Nat→bl R
 |0=>fun _ _ _ _=>none
 |m+1=>tM C fl k (nh kn m) kn
theorem Wi:∀m,(cp fD (aQ m (aW C fl k Nb 0 K)))=nh C fl k (cp E4 (K .normal)) m
 |0=>by kernel_rfl
 |m+1=>gu (alR C fl k _) (ag (fun L=>tM C fl k L _) (Wi m))
def ah6(kr:aO R):bl R:=nh C fl k (UA C fl k kr) k
theorem ax2:(cp fD (ce C fl k acf K))=ah6 C fl k (cp aaC (K .ret)):=(iP (gv (Wi C fl k (bw C fl k Na K)))).trans (ag (fun L=>nh C fl k L k) (iL (alP C fl k K)))
def acg{R:Type}(C:Callee)(fl k:Nat)(kx:bl R)(kr:aO R):bD R:=fun aI aJ aL bZ bY h=>bJ h [vi aI,vi aJ,vs aL,vi bZ,vs bY] fun b20 yL=>aF .i64 yL b20 0 fun JU=>aF .i64 yL b20 1 fun n23=>aT yL b20 2 fun s24=>aF .i64 yL b20 3 fun HU=>aT yL b20 4 fun s26=>aj C fl fn.mX [.agg ⟨[vi JU,vi n23,vs s24,vi HU,vs s26]⟩] yL fun v27 h28=>asInt .i64 v27 fun n29=>if (n29 !=0)=true then kr ⟨none,0,0⟩ n29 h28 else kx ⟨b20,0,none⟩ ⟨none,0,0⟩ 0 h28
def alS(kr:aO R):bD R:=acg C fl k (ah6 C fl k kr) kr
theorem aHt(cn:aa):(cp atE (ce C fl k (atD cn) K))=acg C fl k (cp fD (ce C fl k cn K)) (cp aaC (K .ret)):=by kernel_rfl
theorem aHu:(cp atE (ce C fl k aBU K))=alS C fl k (cp aaC (K .ret)):=(aHt C fl k K acf).trans (ag (fun L0=>acg C fl k L0 _) (ax2 C fl k K))
def k8(aw ax:Int)(ay:Sl)(bk:Int)(bj:Sl)(h:AH):Option (Value×AH):=alS C fl k (fun y2 y3 q=>some (.tuple ⟨[vs y2,vi y3]⟩,q)) aw ax ay bk bj h
theorem Q2(aw ax:Int)(ay:Sl)(bk:Int)(bj:Sl)(h):aV C fl k oL [.agg ⟨[vi aw,vi ax,vs ay,vi bk,vs bj]⟩] h=k8 C fl k aw ax ay bk bj h:=oY (aHu C fl k (aG _)) aw ax ay bk bj (by kernel_rfl) (by kernel_rfl)
def J8(t4:Bool):List Value:=un 4 (.bool t4::un 21 [])
def Nc:aa:=.seq (.region [oI 4 (.mv (.c (.bool true)))] []) (.ret)
def ah7:List Value:=un 26 []
abbrev gw(R:Type):=Sl→Sl→Int→AH→Option R
def Q3(t0 t1:Sl)(t5:Int):List Value:=t0.v::t1.v::un 3 (vi t5::un 20 [])
def Nd:aa:=.seq (.region [m 11 5,m 12 0,ln 13 12,cm 14 .lss 11 13] [11,12,13]) (.seq (.cond (.t 14) (kl [14]) (.seq (kl [0,1,5,14]) (.exit 0))) (.seq (.block 1 (.seq (.region [m 17 0,m 18 5,ia 19 1 17 18,lj 20 19,m 21 1,m 22 5,ia 23 1 21 22,lj 24 23,cm 25 .neq 20 24] [17,18,19,20,21,22,23,24]) (.cond (.t 25) (.seq (.region [oI 4 (.mv (.c (.bool false)))] [0,1,5,25]) (.ret)) (kl [25])))) (.region [m 15 5,bc 16 .add 15 1,m 5 16] [15,16])))
def ach:aa:=.seq (.block 0 (.loop Nd)) Nc
def atF(cn:aa):aa:=.seq (.seq (.region [oI 4 (.mv (.c (.bool false)))] [4]) (.seq (.region [m 6 0,ln 7 6,m 8 1,ln 9 8,cm 10 .neq 7 9] [6,7,8,9]) (.seq (.cond (.t 10) (.seq (.region [oI 4 (.mv (.c (.bool false)))] [0,1,10]) (.ret)) (kl [10])) (.region [mc 5 0] [])))) cn
def aBV:aa:=atF ach
abbrev cR(R:Type):=Sl→Sl→AH→Option R
def atG(t0 t1:Sl):List Value:=t0.v::t1.v::un 24 []
def ni:aK:=⟨26,aBV,[.tmp 4]⟩
theorem Q4:okF Tryz.prog 17 ni=true:=by kernel_rfl
def J9{R:Type}(C:Callee)(fl k:Nat)(kr:aC R):au R:=fun h=>kr true h
theorem alT:(cp ah7 (ce C fl k Nc K))=J9 C fl k (cp J8 (K .ret)):=by kernel_rfl
def tN{R:Type}(C:Callee)(fl k:Nat)(kn:gw R)(e0:au R)(kr:aC R):gw R:=fun t0 t1 t5 h=>if decide (t5<((t0.l:Nat):Int))=true then idx 1 t0 t5 fun p1=>aF .i64 h p1.block p1.off fun n2=>idx 1 t1 t5 fun p3=>aF .i64 h p3.block p3.off fun n4=>if (n2 !=n4)=true then kr false h else kn t0 t1 (av (t5+1)) h else e0 h
theorem alU:(cp Q3 (ce C fl k Nd K))=tN C fl k (cp Q3 (K .normal)) (cp ah7 (K (.exit 0))) (cp J8 (K .ret)):=by kernel_rfl
def Du(kn:au R)(kr:aC R):Nat→gw R
 |0=>fun _ _ _ _=>none
 |m+1=>tN C fl k (Du kn kr m) kn kr
theorem Wj:∀m,(cp Q3 (aQ m (aW C fl k Nd 0 K)))=Du C fl k (cp ah7 (K .normal)) (cp J8 (K .ret)) m
 |0=>by kernel_rfl
 |m+1=>gu (alU C fl k _) (ag (fun L=>tN C fl k L _ _) (Wj m))
def atH(kr:aC R):gw R:=Du C fl k (J9 C fl k kr) kr k
theorem ax3:(cp Q3 (ce C fl k ach K))=atH C fl k (cp J8 (K .ret)):=(iP (gv (Wj C fl k (bw C fl k Nc K)))).trans (ag (fun L=>Du C fl k L _ k) (iL (alT C fl k K)))
def ah8{R:Type}(C:Callee)(fl k:Nat)(kx:gw R)(kr:aC R):cR R:=fun t0 t1 h=>if (((t0.l:Nat):Int) !=((t1.l:Nat):Int))=true then kr false h else kx t0 t1 0 h
def aBW(kr:aC R):cR R:=ah8 C fl k (atH C fl k kr) kr
theorem aHv(cn:aa):(cp atG (ce C fl k (atF cn) K))=ah8 C fl k (cp Q3 (ce C fl k cn K)) (cp J8 (K .ret)):=by kernel_rfl
theorem aHw:(cp atG (ce C fl k aBV K))=aBW C fl k (cp J8 (K .ret)):=(aHv C fl k K ach).trans (ag (fun L0=>ah8 C fl k L0 _) (ax3 C fl k K))
def cN(p0 p1:Sl)(h:AH):Option (Value×AH):=aBW C fl k (fun y4 q=>some (.bool y4,q)) p0 p1 h
theorem z9(p0 p1:Sl)(h):aV C fl k ni [vs p0,vs p1] h=cN C fl k p0 p1 h:=tF (aHw C fl k (aG _)) p0 p1 (by kernel_rfl) (by kernel_rfl)
def aHx(t4:Sl)(t5:Int):List Value:=un 4 (t4.v::vi t5::un 28 [])
def aBX:aa:=.seq (.region [oI 2 (.box (.t 0)),oI 4 (.mv (.c (.slice none 0 0))),mc 5 0] [0,4,5]) (.seq (.region [oI 9 (.load (.agg [.int .i64,.int .i64,.slice,.int .i64,.slice]) (.t 2)),oI 10 (.call (.f 47) [.t 9] (.one (.one (.int .i64)))),m 6 10] [9,10]) (.seq (.region [m 11 6,ck 12 .neq 11 0] [11]) (.seq (.cond (.t 12) (.seq (.region [m 13 6,oI 4 (.mv (.c (.slice none 0 0))),m 5 13] [1,2,6,12,13]) (.ret)) (kl [6,12])) (.seq (.region [m 14 1,ck 15 .lss 14 1,m 16 15,.gL 16 false [qI 17 (.mv (.t 1)),qI 18 (.cW 4 (.t 2)),qI 19 (.load (.one .slice) (.t 18)),qI 20 (.len (.t 19)),qI 21 (.cmp .gtr .i64 (.t 17) (.t 20))],oI 22 (.pick (.t 16) (.c (.bool true)) (.t 21))] [14,15,16,17,18,19,20,21]) (.seq (.cond (.t 22) (.seq (.region [oI 4 (.mv (.c (.slice none 0 0))),mc 5 6] [1,2,22]) (.ret)) (kl [22])) (.seq (.region [oI 24 (.load (.agg [.int .i64,.int .i64,.slice,.int .i64,.slice]) (.t 2)),oI 25 (.call (.f 43) [.t 24] (.ke [.one .slice,.one (.int .i64)])),m 23 25,ex 26 23 0,ex 27 23 1,m 7 26,m 8 27] [2,23,24,25,26,27]) (.seq (.region [m 28 8,ck 29 .neq 28 0] [28]) (.seq (.cond (.t 29) (.seq (.region [m 30 8,oI 4 (.mv (.c (.slice none 0 0))),m 5 30] [1,7,8,29,30]) (.ret)) (kl [8,29])) (.seq (.region [m 31 7,m 32 1,oI 33 (.call (.f 48) [.t 31,.t 32] (.one (.one .slice))),m 4 33,mc 5 0] [1,7,31,32,33]) (.ret))))))))))
abbrev gS(R:Type):=Int→Int→Sl→Int→Sl→Int→AH→Option R
def aHy(aI aJ:Int)(aL:Sl)(bZ:Int)(bY:Sl)(t1:Int):List Value:=.agg ⟨[vi aI,vi aJ,vs aL,vi bZ,vs bY]⟩::vi t1::un 32 []
def jQ:aK:=⟨34,aBX,[.tmp 4,.tmp 5]⟩
theorem IZ:okF Tryz.prog 18 jQ=true:=by kernel_rfl
def aN1{R:Type}(C:Callee)(fl k:Nat)(kr:aO R):gS R:=fun aI aJ aL bZ bY t1 h=>bJ h [vi aI,vi aJ,vs aL,vi bZ,vs bY] fun b1 h2=>aF .i64 h2 b1 0 fun n3=>aF .i64 h2 b1 1 fun n4=>aT h2 b1 2 fun s5=>aF .i64 h2 b1 3 fun n6=>aT h2 b1 4 fun s7=>aj C fl fn.ep [.agg ⟨[vi n3,vi n4,vs s5,vi n6,vs s7]⟩] h2 fun v8 h9=>asInt .i64 v8 fun mb=>if (mb !=0)=true then kr ⟨none,0,0⟩ mb h9 else if decide (t1<1)=false then aT h9 b1 4 fun EG=>if decide (t1>((EG.l:Nat):Int))=true then kr ⟨none,0,0⟩ 6 h9 else aF .i64 h9 b1 0 fun Bu=>aF .i64 h9 b1 1 fun BL=>aT h9 b1 2 fun TT=>aF .i64 h9 b1 3 fun qD=>aT h9 b1 4 fun TR=>aj C fl fn.gj [.agg ⟨[vi Bu,vi BL,vs TT,vi qD,vs TR]⟩] h9 fun v17 JR=>aE v17 fun l19=>ar l19 fun v20 l21=>aX v20 fun s22=>ar l21 fun v23 l24=>asInt .i64 v23 fun HU=>aM l24 (if (HU !=0)=true then kr ⟨none,0,0⟩ HU JR else aj C fl fn.iY [vs s22,vi t1] JR fun v26 h27=>aX v26 fun s28=>kr s28 0 h27) else kr ⟨none,0,0⟩ 6 h9
theorem aHz:(cp aHy (ce C fl k aBX K))=aN1 C fl k (cp aHx (K .ret)):=by kernel_rfl
def lE(aw ax:Int)(ay:Sl)(bk:Int)(bj:Sl)(p1:Int)(h:AH):Option (Value×AH):=aN1 C fl k (fun y4 y5 q=>some (.tuple ⟨[vs y4,vi y5]⟩,q)) aw ax ay bk bj p1 h
theorem HW(aw ax:Int)(ay:Sl)(bk:Int)(bj:Sl)(p1:Int)(h):aV C fl k jQ [.agg ⟨[vi aw,vi ax,vs ay,vi bk,vs bj]⟩,vi p1] h=lE C fl k aw ax ay bk bj p1 h:=Uq (aHz C fl k (aG _)) aw ax ay bk bj p1 (by kernel_rfl) (by kernel_rfl)
abbrev aY(R:Type):=Addr→Int→AH→Option R
def aHA(t4:Addr)(t5:Int):List Value:=un 4 (vp t4::vi t5::un 31 [])
def aBY:aa:=.seq (.region [oI 2 (.box (.t 0)),oI 4 (.alloc [.int .i64 0,.int .i64 0,.slice none 0 0,.int .i64 0,.slice none 0 0]),mc 5 0] [0,5]) (.seq (.region [oI 9 (.load (.agg [.int .i64,.int .i64,.slice,.int .i64,.slice]) (.t 2)),oI 10 (.call (.f 47) [.t 9] (.one (.one (.int .i64)))),m 6 10] [9,10]) (.seq (.region [m 11 6,ck 12 .neq 11 0] [11]) (.seq (.cond (.t 12) (.seq (.region [oI 13 (.build [.int .i64 0,.int .i64 0,.slice none 0 0,.int .i64 0,.slice none 0 0] []),m 14 6,sI 5 4 13,m 5 14] [1,2,6,12,13,14]) (.ret)) (kl [6,12])) (.seq (.region [fa 16 0 2,oI 17 (.load (.agg [.int .i64,.int .i64,.slice]) (.t 16)),fa 18 3 2,li 19 18,fa 20 4 2,ls 21 20,oI 22 (.build [.int .i64 0,.slice none 0 0] [(0,1,.t 19),(1,1,.t 21)]),m 23 1,oI 24 (.call (.f 49) [.t 17,.t 22,.t 23] (.ke [.agg [.int .i64,.slice],.one (.int .i64)])),m 15 24,ex 25 15 0,ex 26 15 1,oI 7 (.alloc [.int .i64 0,.slice none 0 0]),sI 2 7 25,m 8 26] [1,15,16,17,18,19,20,21,22,23,24,25,26]) (.seq (.region [m 27 8,ck 28 .neq 27 0] [27]) (.seq (.cond (.t 28) (.seq (.region [oI 29 (.build [.int .i64 0,.int .i64 0,.slice none 0 0,.int .i64 0,.slice none 0 0] []),m 30 8,sI 5 4 29,m 5 30] [2,7,8,28,29,30]) (.ret)) (kl [8,28])) (.seq (.region [fa 31 0 2,oI 32 (.load (.agg [.int .i64,.int .i64,.slice]) (.t 31)),oI 33 (.load (.agg [.int .i64,.slice]) (.t 7)),oI 34 (.call (.f 37) [.t 32,.t 33] (.ke [.agg [.int .i64,.int .i64,.slice,.int .i64,.slice],.one (.int .i64)])),ex 35 34 0,ex 36 34 1,sI 5 4 35,m 5 36] [2,7,31,32,33,34,35,36]) (.ret))))))))
abbrev kq(R:Type):=Int→Int→Sl→Int→Sl→Sl→AH→Option R
def aHB(aI aJ:Int)(aL:Sl)(bZ:Int)(bY t1:Sl):List Value:=.agg ⟨[vi aI,vi aJ,vs aL,vi bZ,vs bY]⟩::t1.v::un 35 []
def ix:aK:=⟨37,aBY,[.cell 4 (.agg [.int .i64,.int .i64,.slice,.int .i64,.slice]),.tmp 5]⟩
theorem E6:okF Tryz.prog 20 ix=true:=by kernel_rfl
def aN2{R:Type}(C:Callee)(fl k:Nat)(kr:aY R):kq R:=fun aI aJ aL bZ bY t1 h=>bJ h [vi aI,vi aJ,vs aL,vi bZ,vs bY] fun b1 h2=>bJ h2 [.int .i64 0,.int .i64 0,.slice none 0 0,.int .i64 0,.slice none 0 0] fun b3 h4=>aF .i64 h4 b1 0 fun n5=>aF .i64 h4 b1 1 fun n6=>aT h4 b1 2 fun s7=>aF .i64 h4 b1 3 fun n8=>aT h4 b1 4 fun s9=>aj C fl fn.ep [.agg ⟨[vi n5,vi n6,vs s7,vi n8,vs s9]⟩] h4 fun v10 iH=>asInt .i64 v10 fun Bu=>if (Bu !=0)=true then st fl iH ⟨b3,0,none⟩ [vi 0,vi 0,.slice none 0 0,vi 0,.slice none 0 0] fun qB=>kr ⟨b3,0,none⟩ Bu qB else aF .i64 iH b1 0 fun Bv=>aF .i64 iH b1 1 fun qD=>aT iH b1 2 fun TR=>aF .i64 iH b1 3 fun Qh=>aT iH b1 4 fun s18=>aj C fl fn.oF [.agg ⟨[vi Bv,vi qD,vs TR]⟩,.agg ⟨[vi Qh,vs s18]⟩,vs t1] iH fun v19 Qn=>aE v19 fun l21=>ar l21 fun v22 l23=>asAgg v22 fun l24=>ar l24 fun v25 l26=>asInt .i64 v25 fun n27=>ar l26 fun v28 l29=>aX v28 fun s30=>aM l29 (ar l23 fun v31 l32=>asInt .i64 v31 fun n33=>aM l32 (bJ Qn [.int .i64 0,.slice none 0 0] fun b34 h35=>st fl h35 ⟨b34,0,none⟩ [vi n27,vs s30] fun Qj=>if (n33 !=0)=true then st fl Qj ⟨b3,0,none⟩ [vi 0,vi 0,.slice none 0 0,vi 0,.slice none 0 0] fun h37=>kr ⟨b3,0,none⟩ n33 h37 else aF .i64 Qj b1 0 fun n38=>aF .i64 Qj b1 1 fun n39=>aT Qj b1 2 fun s40=>aF .i64 Qj b34 0 fun n41=>aT Qj b34 1 fun s42=>aj C fl fn.QQ [.agg ⟨[vi n38,vi n39,vs s40]⟩,.agg ⟨[vi n41,vs s42]⟩] Qj fun v43 h44=>aE v43 fun l45=>ar l45 fun v46 l47=>asAgg v46 fun l48=>ar l48 fun v49 l50=>asInt .i64 v49 fun n51=>ar l50 fun v52 l53=>asInt .i64 v52 fun n54=>ar l53 fun v55 l56=>aX v55 fun s57=>ar l56 fun v58 l59=>asInt .i64 v58 fun n60=>ar l59 fun v61 l62=>aX v61 fun s63=>aM l62 (ar l47 fun v64 l65=>asInt .i64 v64 fun n66=>aM l65 (st fl h44 ⟨b3,0,none⟩ [vi n51,vi n54,vs s57,vi n60,vs s63] fun h67=>kr ⟨b3,0,none⟩ n66 h67))))
theorem aHC:(cp aHB (ce C fl k aBY K))=aN2 C fl k (cp aHA (K .ret)):=by kernel_rfl
def jJ(aw ax:Int)(ay:Sl)(bk:Int)(bj p1:Sl)(h:AH):Option (Value×AH):=aN2 C fl k (fun y4 y5 q=>aF .i64 q y4.block y4.off fun n68=>aF .i64 q y4.block (y4.off+1) fun n69=>aT q y4.block (y4.off+1+1) fun s70=>aF .i64 q y4.block (y4.off+1+1+1) fun n71=>aT q y4.block (y4.off+1+1+1+1) fun s72=>some (.tuple ⟨[.agg ⟨[vi n68,vi n69,vs s70,vi n71,vs s72]⟩,vi y5]⟩,q)) aw ax ay bk bj p1 h
theorem Dv(aw ax:Int)(ay:Sl)(bk:Int)(bj p1:Sl)(h):aV C fl k ix [.agg ⟨[vi aw,vi ax,vs ay,vi bk,vs bj]⟩,vs p1] h=jJ C fl k aw ax ay bk bj p1 h:=Uq (aHC C fl k (aG _)) aw ax ay bk bj p1 (by kernel_rfl) (by kernel_rfl)
def qV(t4:Sl)(t5:Int):List Value:=un 4 (t4.v::vi t5::un 55 [])
def Aa:aa:=.seq (.region [m 60 8,m 4 60,mc 5 0] [8,60]) (.ret)
def Q5(t8:Sl):List Value:=un 8 (t8.v::un 52 [])
abbrev cK(R:Type):=Sl→Int→Sl→Int→AH→Option R
def vF(t0:Sl)(t1:Int)(t8:Sl)(t9:Int):List Value:=t0.v::vi t1::un 6 (t8.v::vi t9::un 51 [])
def tO:aa:=.region [m 47 9,bc 48 .sub 47 1,m 9 48] [47,48]
def GS(cn:aa):aa:=.seq (.seq (.region [m 45 9,ck 46 .geq 45 1] [45]) (.seq (.cond (.t 46) (kl [46]) (.seq (kl [0,1,9,46]) (.exit 2))) (.block 3 (.seq (.region [m 49 0,m 50 9,oI 51 (.call (.f 54) [.t 49,.t 50] (.one (.one .bool))),no 52 51] [49,50,51]) (.cond (.t 52) (.region [m 53 8,m 54 1,bc 55 .add 54 1,m 56 9,bb 57 .sub 55 56,oI 58 (.bq 1 [.int .i64 0] [(0,1,.t 57)]),oI 59 (.append 1 8 (.t 53) (.t 58)),m 8 59] [52,53,54,55,56,57,58,59]) (kl [52])))))) cn
def Ab:aa:=GS tO
def E7:aa:=.seq (.block 2 (.loop Ab)) Aa
def Wk(cn:aa):aa:=.seq (.seq (.region [oI 8 (.mv (.c (.slice none 0 0)))] []) (.region [m 44 1,m 9 44] [44])) cn
def Nf:aa:=Wk E7
def BU(t0:Sl)(t1:Int):List Value:=t0.v::vi t1::un 59 []
abbrev vG(R:Type):=Sl→Int→Sl→Int→Int→AH→Option R
def vH(t0:Sl)(t1:Int)(t16:Sl)(t17 t18:Int):List Value:=t0.v::vi t1::un 14 (t16.v::vi t17::vi t18::un 42 [])
def E8:aa:=.region [bc 43 .add 18 1,m 18 43] [43]
def Wl(cn:aa):aa:=.seq (.seq (.region [cm 19 .lss 18 17] []) (.seq (.cond (.t 19) (kl [19]) (.seq (kl [16,17,18,19]) (.exit 0))) (.block 1 (.seq (.region [m 20 18,ia 21 1 16 18,li 22 21,m 6 20,m 7 22] [20,21,22]) (.seq (.region [m 23 7,ck 24 .lss 23 1,m 25 24,.gL 25 false [qI 26 (.mv (.t 7)),qI 27 (.mv (.t 1)),qI 28 (.cmp .gtr .i64 (.t 26) (.t 27))],oI 29 (.pick (.t 25) (.c (.bool true)) (.t 28)),m 30 29,.gL 30 false [qI 31 (.mv (.t 6)),qI 32 (.cmp .gtr .i64 (.t 31) (ci 0)),qI 33 (.mv (.t 32))],.gL 33 true [qI 34 (.mv (.t 7)),qI 35 (.mv (.t 0)),qI 36 (.mv (.t 6)),qI 37 (.bin .sub .i64 (.t 36) (ci 1)),qI 38 (.eE 1 (.t 35) (.t 37)),qI 39 (.load (.one (.int .i64)) (.t 38)),qI 40 (.cmp .leq .i64 (.t 34) (.t 39))],.gL 30 false [qI 41 (.pick (.t 33) (.t 40) (.c (.bool false)))],oI 42 (.pick (.t 30) (.c (.bool true)) (.t 41))] [6,7,23,24,25,26,27,28,29,30,31,32,33,34,35,36,37,38,39,40,41]) (.cond (.t 42) (.seq (.region [oI 4 (.mv (.c (.slice none 0 0))),mc 5 6] [0,1,16,17,18,42]) (.ret)) (kl [42]))))))) cn
def Ng:aa:=Wl E8
def aci:aa:=.seq (.block 0 (.loop Ng)) Nf
def atI(cn:aa):aa:=.seq (.seq (.region [oI 4 (.mv (.c (.slice none 0 0))),mc 5 0] [4,5]) (.seq (.region [m 10 1,ck 11 .lss 10 1,m 12 11,.gL 12 false [qI 13 (.mv (.t 1)),qI 14 (.cmp .gtr .i64 (.t 13) (ci 64))],oI 15 (.pick (.t 12) (.c (.bool true)) (.t 14))] [10,11,12,13,14]) (.seq (.cond (.t 15) (.seq (.region [oI 4 (.mv (.c (.slice none 0 0))),mc 5 6] [0,1,15]) (.ret)) (kl [15])) (.region [m 16 0,ln 17 16,mc 18 0] [])))) cn
def aBZ:aa:=atI aci
def jR:aK:=⟨61,aBZ,[.tmp 4,.tmp 5]⟩
theorem I0:okF Tryz.prog 23 jR=true:=by kernel_rfl
def Mj{R:Type}(C:Callee)(fl k:Nat)(kr:aO R):ab R:=fun t8 h=>kr t8 0 h
theorem YQ:(cp Q5 (ce C fl k Aa K))=Mj C fl k (cp qV (K .ret)):=by kernel_rfl
def GU{R:Type}(C:Callee)(fl k:Nat)(kn:cK R)(e2:ab R):cK R:=fun t0 t1 t8 t9 h=>kn t0 t1 t8 (av (t9-1)) h
theorem Q6:(cp vF (ce C fl k tO K))=GU C fl k (cp vF (K .normal)) (cp Q5 (K (.exit 2))):=by kernel_rfl
def Ac{R:Type}(C:Callee)(fl k:Nat)(kx:cK R)(kn:cK R)(e2:ab R):cK R:=fun t0 t1 t8 t9 h=>if decide (t9≥1)=true then aj C fl fn.cM [vs t0,vi t9] h fun v1 h2=>asBool v1 fun b3=>if (!b3)=true then bJ h2 [vi (av (av (t1+1)-t9))] fun b4 h5=>dn fl 1 8 t8 ⟨(some ⟨b4,0,none⟩),1,1⟩ h5 fun s6 h7=>kx t0 t1 s6 t9 h7 else kx t0 t1 t8 t9 h2 else e2 t8 h
def CF(kn:cK R)(e2:ab R):cK R:=Ac C fl k (GU C fl k kn e2) kn e2
theorem YR(cn:aa):(cp vF (ce C fl k (GS cn) K))=Ac C fl k (cp vF (ce C fl k cn K)) (cp vF (K .normal)) (cp Q5 (K (.exit 2))):=by kernel_rfl
theorem YS:(cp vF (ce C fl k Ab K))=CF C fl k (cp vF (K .normal)) (cp Q5 (K (.exit 2))):=(YR C fl k K tO).trans (ag (fun L0=>Ac C fl k L0 _ _) (Q6 C fl k K))
def vI(kn:ab R):Nat→cK R
 |0=>fun _ _ _ _ _=>none
 |m+1=>CF C fl k (vI kn m) kn
theorem GV:∀m,(cp vF (aQ m (aW C fl k Ab 2 K)))=vI C fl k (cp Q5 (K .normal)) m
 |0=>by kernel_rfl
 |m+1=>gu (YS C fl k _) (ag (fun L=>CF C fl k L _) (GV m))
def Wm(kr:aO R):cK R:=vI C fl k (Mj C fl k kr) k
theorem aeM:(cp vF (ce C fl k E7 K))=Wm C fl k (cp qV (K .ret)):=(iP (gv (GV C fl k (bw C fl k Aa K)))).trans (ag (fun L=>vI C fl k L k) (iL (YQ C fl k K)))
def Nh{R:Type}(C:Callee)(fl k:Nat)(kx:cK R)(kr:aO R):aO R:=fun t0 t1 h=>kx t0 t1 ⟨none,0,0⟩ t1 h
def agP(kr:aO R):aO R:=Nh C fl k (Wm C fl k kr) kr
theorem alV(cn:aa):(cp BU (ce C fl k (Wk cn) K))=Nh C fl k (cp vF (ce C fl k cn K)) (cp qV (K .ret)):=by kernel_rfl
theorem alX:(cp BU (ce C fl k Nf K))=agP C fl k (cp qV (K .ret)):=(alV C fl k K E7).trans (ag (fun L0=>Nh C fl k L0 _) (aeM C fl k K))
def Wn{R:Type}(C:Callee)(fl k:Nat)(kn:vG R)(e0:aO R)(kr:aO R):vG R:=fun t0 t1 t16 t17 t18 h=>kn t0 t1 t16 t17 (av (t18+1)) h
theorem aeN:(cp vH (ce C fl k E8 K))=Wn C fl k (cp vH (K .normal)) (cp BU (K (.exit 0))) (cp qV (K .ret)):=by kernel_rfl
def Ni{R:Type}(C:Callee)(fl k:Nat)(kx:vG R)(kn:vG R)(e0:aO R)(kr:aO R):vG R:=fun t0 t1 t16 t17 t18 h=>if decide (t18<t17)=true then idx 1 t16 t18 fun p8=>aF .i64 h p8.block p8.off fun n9=>if decide (n9<1)=false then if decide (n9>t1)=false then if decide (t18>0)=true then idx 1 t0 (av (t18-1)) fun Qo=>aF .i64 h Qo.block Qo.off fun xA=>if decide (n9≤xA)=true then kr ⟨none,0,0⟩ 6 h else kx t0 t1 t16 t17 t18 h else kx t0 t1 t16 t17 t18 h else kr ⟨none,0,0⟩ 6 h else kr ⟨none,0,0⟩ 6 h else e0 t0 t1 h
def UB(kn:vG R)(e0:aO R)(kr:aO R):vG R:=Ni C fl k (Wn C fl k kn e0 kr) kn e0 kr
theorem alY(cn:aa):(cp vH (ce C fl k (Wl cn) K))=Ni C fl k (cp vH (ce C fl k cn K)) (cp vH (K .normal)) (cp BU (K (.exit 0))) (cp qV (K .ret)):=by kernel_rfl
theorem alZ:(cp vH (ce C fl k Ng K))=UB C fl k (cp vH (K .normal)) (cp BU (K (.exit 0))) (cp qV (K .ret)):=(alY C fl k K E8).trans (ag (fun L0=>Ni C fl k L0 _ _ _) (aeN C fl k K))
def Ka(kn:aO R)(kr:aO R):Nat→vG R
 |0=>fun _ _ _ _ _ _=>none
 |m+1=>UB C fl k (Ka kn kr m) kn kr
theorem Wo:∀m,(cp vH (aQ m (aW C fl k Ng 0 K)))=Ka C fl k (cp BU (K .normal)) (cp qV (K .ret)) m
 |0=>by kernel_rfl
 |m+1=>gu (alZ C fl k _) (ag (fun L=>UB C fl k L _ _) (Wo m))
def atJ(kr:aO R):vG R:=Ka C fl k (agP C fl k kr) kr k
theorem ax4:(cp vH (ce C fl k aci K))=atJ C fl k (cp qV (K .ret)):=(iP (gv (Wo C fl k (bw C fl k Nf K)))).trans (ag (fun L=>Ka C fl k L _ k) (iL (alX C fl k K)))
def arv{R:Type}(C:Callee)(fl k:Nat)(kx:vG R)(kr:aO R):aO R:=fun t0 t1 h=>if decide (t1<1)=false then if decide (t1>64)=true then kr ⟨none,0,0⟩ 6 h else kx t0 t1 t0 ((t0.l:Nat):Int) 0 h else kr ⟨none,0,0⟩ 6 h
def aN3(kr:aO R):aO R:=arv C fl k (atJ C fl k kr) kr
theorem aHD(cn:aa):(cp BU (ce C fl k (atI cn) K))=arv C fl k (cp vH (ce C fl k cn K)) (cp qV (K .ret)):=by kernel_rfl
theorem aHE:(cp BU (ce C fl k aBZ K))=aN3 C fl k (cp qV (K .ret)):=(aHD C fl k K aci).trans (ag (fun L0=>arv C fl k L0 _) (ax4 C fl k K))
def lF(p0:Sl)(p1:Int)(h:AH):Option (Value×AH):=aN3 C fl k (fun y4 y5 q=>some (.tuple ⟨[vs y4,vi y5]⟩,q)) p0 p1 h
theorem HX(p0:Sl)(p1:Int)(h):aV C fl k jR [vs p0,vi p1] h=lF C fl k p0 p1 h:=tF (aHE C fl k (aG _)) p0 p1 (by kernel_rfl) (by kernel_rfl)
def Kb(t2:Addr)(t3:Int):List Value:=un 2 (vp t2::vi t3::un 57 [])
def Nj:aa:=.seq (.region [oI 60 (.load (.agg [.slice,.slice]) (.t 6)),sI 2 2 60,mc 3 0] [6,60]) (.ret)
abbrev dh(R:Type):=Addr→Addr→AH→Option R
def ah9(t2 t6:Addr):List Value:=un 2 (vp t2::un 3 (vp t6::un 54 []))
abbrev Q7(R:Type):=Addr→Addr→Sl→Addr→Int→AH→Option R
def Q8(t1 t2:Addr)(t4:Sl)(t6:Addr)(t7:Int):List Value:=un 1 (vp t1::vp t2::un 1 (t4.v::un 1 (vp t6::vi t7::un 53 [])))
def Nk:aa:=.seq (.region [m 20 7,fa 21 4 1,ls 22 21,ln 23 22,cm 24 .leq 20 23] [20,21,22,23]) (.seq (.cond (.t 24) (kl [24]) (.seq (kl [1,4,7,24]) (.exit 0))) (.seq (.block 1 (.seq (.region [m 27 4,m 28 7,oI 29 (.call (.f 48) [.t 27,.t 28] (.one (.one .slice))),m 8 29] [27,28,29]) (.seq (.region [oI 31 (.load (.agg [.int .i64,.int .i64,.slice,.int .i64,.slice]) (.t 1)),fa 32 4 1,ls 33 32,ln 34 33,m 35 7,bb 36 .sub 34 35,bc 37 .add 36 1,m 38 8,ln 39 38,bc 40 .sub 39 1,oI 41 (.call (.f 56) [.t 31,.t 37,.t 40] (.ke [.agg [.slice],.one (.int .i64)])),m 30 41,ex 42 30 0,ex 43 30 1,oI 9 (.alloc [.slice none 0 0]),sI 1 9 42,m 10 43] [30,31,32,33,34,35,36,37,38,39,40,41,42,43]) (.seq (.seq (.region [m 44 10,ck 45 .neq 44 0] [44]) (.cond (.t 45) (.seq (.region [oI 46 (.build [.slice none 0 0,.slice none 0 0] []),m 47 10,sI 2 2 46,m 3 47] [1,4,6,7,8,9,10,45,46,47]) (.ret)) (kl [10,45]))) (.seq (.region [fa 48 0 6,ls 49 48,m 50 8,oI 51 (.bq 1 [.slice none 0 0] [(0,1,.t 50)]),oI 52 (.append 1 24 (.t 49) (.t 51)),fa 53 0 6,sI 1 53 52] [8,48,49,50,51,52,53]) (.region [fa 54 1 6,ls 55 54,oI 56 (.load (.agg [.slice]) (.t 9)),oI 57 (.bq 1 [.slice none 0 0] [(0,1,.t 56)]),oI 58 (.append 1 24 (.t 55) (.t 57)),fa 59 1 6,sI 1 59 58] [9,54,55,56,57,58,59])))))) (.region [m 25 7,bc 26 .add 25 1,m 7 26] [25,26])))
def acj:aa:=.seq (.block 0 (.loop Nk)) Nj
def atK(cn:aa):aa:=.seq (.seq (.region [oI 1 (.box (.t 0)),oI 2 (.alloc [.slice none 0 0,.slice none 0 0]),mc 3 0] [0,3]) (.seq (.region [oI 12 (.load (.agg [.int .i64,.int .i64,.slice,.int .i64,.slice]) (.t 1)),oI 13 (.call (.f 43) [.t 12] (.ke [.one .slice,.one (.int .i64)])),m 11 13,ex 14 11 0,ex 15 11 1,m 4 14,m 5 15] [11,12,13,14,15]) (.seq (.region [m 16 5,ck 17 .neq 16 0] [16]) (.seq (.cond (.t 17) (.seq (.region [oI 18 (.build [.slice none 0 0,.slice none 0 0] []),m 19 5,sI 2 2 18,m 3 19] [1,4,5,17,18,19]) (.ret)) (kl [5,17])) (.seq (.region [oI 6 (.alloc [.slice none 0 0,.slice none 0 0])] []) (.region [mc 7 1] [])))))) cn
def aB0:aa:=atK acj
def atL(aI aJ:Int)(aL:Sl)(bZ:Int)(bY:Sl):List Value:=.agg ⟨[vi aI,vi aJ,vs aL,vi bZ,vs bY]⟩::un 60 []
def jS:aK:=⟨61,aB0,[.cell 2 (.agg [.slice,.slice]),.tmp 3]⟩
theorem I1:okF Tryz.prog 25 jS=true:=by kernel_rfl
def agQ{R:Type}(C:Callee)(fl k:Nat)(kr:aY R):dh R:=fun t2 t6 h=>aT h t6.block t6.off fun s1=>aT h t6.block (t6.off+1) fun s2=>st fl h t2 [vs s1,vs s2] fun h3=>kr t2 0 h3
theorem al0:(cp ah9 (ce C fl k Nj K))=agQ C fl k (cp Kb (K .ret)):=by kernel_rfl
def UC{R:Type}(C:Callee)(fl k:Nat)(kn:Q7 R)(e0:dh R)(kr:aY R):Q7 R:=fun t1 t2 t4 t6 t7 h=>aT h t1.block (t1.off+4) fun s4=>if decide (t7≤((s4.l:Nat):Int))=true then aj C fl fn.iY [vs t4,vi t7] h fun v5 h6=>aX v5 fun s7=>aF .i64 h6 t1.block t1.off fun n8=>aF .i64 h6 t1.block (t1.off+1) fun n9=>aT h6 t1.block (t1.off+1+1) fun s10=>aF .i64 h6 t1.block (t1.off+1+1+1) fun xA=>aT h6 t1.block (t1.off+1+1+1+1) fun T8=>aT h6 t1.block (t1.off+4) fun VZ=>aj C fl fn.jK [.agg ⟨[vi n8,vi n9,vs s10,vi xA,vs T8]⟩,vi (av (av (((VZ.l:Nat):Int)-t7)+1)),vi (av (((s7.l:Nat):Int)-1))] h6 fun v14 nX=>aE v14 fun l16=>ar l16 fun v17 l18=>asAgg v17 fun l19=>ar l19 fun v20 l21=>aX v20 fun s22=>aM l21 (ar l18 fun v23 l24=>asInt .i64 v23 fun HU=>aM l24 (bJ nX [.slice none 0 0] fun b26 h27=>st fl h27 ⟨b26,0,none⟩ [vs s22] fun h28=>if (HU !=0)=true then st fl h28 t2 [.slice none 0 0,.slice none 0 0] fun h29=>kr t2 HU h29 else aT h28 t6.block t6.off fun s30=>bJ h28 [vs s7] fun b31 Qp=>dn fl 1 24 s30 ⟨(some ⟨b31,0,none⟩),1,1⟩ Qp fun s33 h34=>st fl h34 ⟨t6.block,t6.off,none⟩ [vs s33] fun h35=>aT h35 t6.block (t6.off+1) fun s36=>aT h35 b26 0 fun s37=>bJ h35 [vs s37] fun b38 h39=>dn fl 1 24 s36 ⟨(some ⟨b38,0,none⟩),1,1⟩ h39 fun s40 h41=>st fl h41 ⟨t6.block,t6.off+1,none⟩ [vs s40] fun h42=>kn t1 t2 t4 t6 (av (t7+1)) h42)) else e0 t2 t6 h
theorem al1:(cp Q8 (ce C fl k Nk K))=UC C fl k (cp Q8 (K .normal)) (cp ah9 (K (.exit 0))) (cp Kb (K .ret)):=by kernel_rfl
def Kc(kn:dh R)(kr:aY R):Nat→Q7 R
 |0=>fun _ _ _ _ _ _=>none
 |m+1=>UC C fl k (Kc kn kr m) kn kr
theorem Wp:∀m,(cp Q8 (aQ m (aW C fl k Nk 0 K)))=Kc C fl k (cp ah9 (K .normal)) (cp Kb (K .ret)) m
 |0=>by kernel_rfl
 |m+1=>gu (al1 C fl k _) (ag (fun L=>UC C fl k L _ _) (Wp m))
def atM(kr:aY R):Q7 R:=Kc C fl k (agQ C fl k kr) kr k
theorem ax5:(cp Q8 (ce C fl k acj K))=atM C fl k (cp Kb (K .ret)):=(iP (gv (Wp C fl k (bw C fl k Nj K)))).trans (ag (fun L=>Kc C fl k L _ k) (iL (al0 C fl k K)))
def arw{R:Type}(C:Callee)(fl k:Nat)(kx:Q7 R)(kr:aY R):bD R:=fun aI aJ aL bZ bY h=>bJ h [vi aI,vi aJ,vs aL,vi bZ,vs bY] fun b43 h44=>bJ h44 [.slice none 0 0,.slice none 0 0] fun b45 h46=>aF .i64 h46 b43 0 fun n47=>aF .i64 h46 b43 1 fun n48=>aT h46 b43 2 fun s49=>aF .i64 h46 b43 3 fun n50=>aT h46 b43 4 fun s51=>aj C fl fn.gj [.agg ⟨[vi n47,vi n48,vs s49,vi n50,vs s51]⟩] h46 fun v52 h53=>aE v52 fun l54=>ar l54 fun v55 l56=>aX v55 fun s57=>ar l56 fun v58 l59=>asInt .i64 v58 fun n60=>aM l59 (if (n60 !=0)=true then st fl h53 ⟨b45,0,none⟩ [.slice none 0 0,.slice none 0 0] fun h61=>kr ⟨b45,0,none⟩ n60 h61 else bJ h53 [.slice none 0 0,.slice none 0 0] fun b62 h63=>kx ⟨b43,0,none⟩ ⟨b45,0,none⟩ s57 ⟨b62,0,none⟩ 1 h63)
def aN4(kr:aY R):bD R:=arw C fl k (atM C fl k kr) kr
theorem aHF(cn:aa):(cp atL (ce C fl k (atK cn) K))=arw C fl k (cp Q8 (ce C fl k cn K)) (cp Kb (K .ret)):=by kernel_rfl
theorem aHG:(cp atL (ce C fl k aB0 K))=aN4 C fl k (cp Kb (K .ret)):=(aHF C fl k K acj).trans (ag (fun L0=>arw C fl k L0 _) (ax5 C fl k K))
def lG(aw ax:Int)(ay:Sl)(bk:Int)(bj:Sl)(h:AH):Option (Value×AH):=aN4 C fl k (fun y2 y3 q=>aT q y2.block y2.off fun s64=>aT q y2.block (y2.off+1) fun s65=>some (.tuple ⟨[.agg ⟨[vs s64,vs s65]⟩,vi y3]⟩,q)) aw ax ay bk bj h
theorem HY(aw ax:Int)(ay:Sl)(bk:Int)(bj:Sl)(h):aV C fl k jS [.agg ⟨[vi aw,vi ax,vs ay,vi bk,vs bj]⟩] h=lG C fl k aw ax ay bk bj h:=oY (aHG C fl k (aG _)) aw ax ay bk bj (by kernel_rfl) (by kernel_rfl)
def lJ(t4:Sl)(t5:Int):List Value:=un 4 (t4.v::vi t5::un 103 [])
def Nl:aa:=.seq (.region [m 108 8,m 4 108,mc 5 0] [8,108]) (.ret)
def E9(t8:Sl):List Value:=un 8 (t8.v::un 100 [])
abbrev fE(R:Type):=Addr→Addr→Int→Sl→Int→AH→Option R
def fF(t2 t3:Addr)(t7:Int)(t8:Sl)(t9:Int):List Value:=un 2 (vp t2::vp t3::un 3 (vi t7::t8.v::vi t9::un 99 []))
def qW:aa:=.region [m 40 9,bc 41 .add 40 1,m 9 41] [40,41]
def pa:aa:=.seq (.region [oI 63 (.load (.agg [.int .i64,.int .i64,.slice,.int .i64,.slice]) (.t 2)),m 64 10,oI 65 (.call (.f 33) [.t 63,.t 64] (.ke [.one (.int .i64),.one (.int .i64)])),m 62 65,ex 66 62 0,ex 67 62 1,m 13 66,m 14 67] [13,62,63,64,65,66,67]) (.seq (.region [m 68 14,ck 69 .neq 68 0] [14,68]) (.seq (.cond (.t 69) (.seq (.region [oI 4 (.mv (.c (.slice none 0 0))),mc 5 13] [2,3,7,8,9,10,11,69]) (.ret)) (kl [69])) (.seq (.region [oI 71 (.load (.agg [.int .i64,.int .i64,.slice,.int .i64,.slice]) (.t 2)),m 72 11,oI 73 (.call (.f 33) [.t 71,.t 72] (.ke [.one (.int .i64),.one (.int .i64)])),m 70 73,ex 74 70 0,ex 75 70 1,m 15 74,m 16 75] [11,70,71,72,73,74,75]) (.seq (.region [m 76 16,ck 77 .neq 76 0,m 78 77,.gL 78 false [qI 79 (.mv (.t 7)),qI 80 (.mv (.t 15)),qI 81 (.bin .sub .i64 (.t 79) (.t 80)),qI 82 (.mv (.t 9)),qI 83 (.cmp .lss .i64 (.t 81) (.t 82))],oI 84 (.pick (.t 78) (.c (.bool true)) (.t 83)),m 85 84,.gL 85 false [qJ 86 (.load (.agg [.int .i64,.int .i64,.slice,.int .i64,.slice]) (.t 2)),qI 87 (.mv (.t 7)),qI 88 (.mv (.t 9)),qI 89 (.bin .sub .i64 (.t 87) (.t 88)),qI 90 (.bin .add .i64 (.t 89) (ci 1)),qI 91 (.mv (.t 10)),qI 92 (.len (.t 91)),qI 93 (.bin .sub .i64 (.t 92) (ci 1)),qI 94 (.cW 1 (.t 3)),qJ 95 (.load (.one .slice) (.t 94)),qI 96 (.mv (.t 9)),qI 97 (.bin .sub .i64 (.t 96) (ci 1)),qI 98 (.eE 1 (.t 95) (.t 97)),qJ 99 (.load (.agg [.slice]) (.t 98)),qI 100 (.call (.f 59) [.t 86,.t 90,.t 93,.t 99] (.one (.one (.int .i64)))),qI 101 (.cmp .neq .i64 (.t 100) (ci 0))],oI 102 (.pick (.t 85) (.c (.bool true)) (.t 101))] [15,16,76,77,78,79,80,81,82,83,84,85,86,87,88,89,90,91,92,93,94,95,96,97,98,99,100,101]) (.seq (.cond (.t 102) (.seq (.region [oI 4 (.mv (.c (.slice none 0 0))),mc 5 13] [2,3,7,8,9,10,102]) (.ret)) (kl [102])) (.region [m 103 8,m 104 10,ln 105 104,oI 106 (.bq 1 [.int .i64 0] [(0,1,.t 105)]),oI 107 (.append 1 8 (.t 103) (.t 106)),m 8 107] [10,103,104,105,106,107]))))))
abbrev Q9(R:Type):=Addr→Addr→Int→Sl→Int→Sl→Sl→AH→Option R
def Ra(t2 t3:Addr)(t7:Int)(t8:Sl)(t9:Int)(t10 t11:Sl):List Value:=un 2 (vp t2::vp t3::un 3 (vi t7::t8.v::vi t9::t10.v::t11.v::un 97 []))
abbrev vJ(R:Type):=Addr→Addr→Int→Sl→Int→Sl→Sl→Int→Int→AH→Option R
def vK(t2 t3:Addr)(t7:Int)(t8:Sl)(t9:Int)(t10 t11:Sl)(t49 t50:Int):List Value:=un 2 (vp t2::vp t3::un 3 (vi t7::t8.v::vi t9::t10.v::t11.v::un 37 (vi t49::vi t50::un 58 [])))
def mC:aa:=.region [bc 61 .add 50 1,m 50 61] [61]
def xY(cn:aa):aa:=.seq (.seq (.region [cm 51 .lss 50 49] []) (.seq (.cond (.t 51) (kl [51]) (.seq (kl [49,50,51]) (.exit 2))) (.block 3 (.seq (.region [m 52 50,m 12 52] [52]) (.seq (.region [m 53 10,m 54 12,oI 55 (.call (.f 54) [.t 53,.t 54] (.one (.one .bool))),no 56 55] [53,54,55]) (.cond (.t 56) (.region [m 57 11,m 58 12,oI 59 (.bq 1 [.int .i64 0] [(0,1,.t 58)]),oI 60 (.append 1 8 (.t 57) (.t 59)),m 11 60] [12,56,57,58,59,60]) (kl [12,56]))))))) cn
def pb:aa:=xY mC
def tP:aa:=.seq (.block 2 (.loop pb)) pa
def GW(cn:aa):aa:=.seq (.seq (.region [fa 42 0 3,ls 43 42,m 44 9,bc 45 .sub 44 1,ia 46 1 43 45,ls 47 46,m 10 47] [42,43,44,45,46,47]) (.seq (.region [oI 11 (.mv (.c (.slice none 0 0)))] []) (.region [fa 48 3 2,li 49 48,mc 50 0] [48]))) cn
def Ad:aa:=GW tP
def Mk(cn fJ:aa):aa:=.seq (.block 1 fJ) cn
def Fa:aa:=Mk qW Ad
def Wq(cn:aa):aa:=.seq (.seq (.region [m 37 9,m 38 7,cm 39 .leq 37 38] [37,38]) (.cond (.t 39) (kl [39]) (.seq (kl [2,3,7,9,39]) (.exit 0)))) cn
def Nm:aa:=Wq Fa
def ack:aa:=.seq (.block 0 (.loop Nm)) Nl
def atN(cn:aa):aa:=.seq (.seq (.region [oI 2 (.box (.t 0)),oI 3 (.box (.t 1)),oI 4 (.mv (.c (.slice none 0 0))),mc 5 0] [0,1,4,5]) (.seq (.region [oI 17 (.load (.agg [.int .i64,.int .i64,.slice,.int .i64,.slice]) (.t 2)),oI 18 (.call (.f 47) [.t 17] (.one (.one (.int .i64)))),m 6 18] [17,18]) (.seq (.region [m 19 6,ck 20 .neq 19 0] [19]) (.seq (.cond (.t 20) (.seq (.region [m 21 6,oI 4 (.mv (.c (.slice none 0 0))),m 5 21] [2,3,6,20,21]) (.ret)) (kl [6,20])) (.seq (.region [fa 22 4 2,ls 23 22,ln 24 23,m 7 24] [22,23,24]) (.seq (.region [fa 25 0 3,ls 26 25,ln 27 26,m 28 7,cm 29 .neq 27 28,m 30 29,.gL 30 false [qI 31 (.cW 1 (.t 3)),qI 32 (.load (.one .slice) (.t 31)),qI 33 (.len (.t 32)),qI 34 (.mv (.t 7)),qI 35 (.cmp .neq .i64 (.t 33) (.t 34))],oI 36 (.pick (.t 30) (.c (.bool true)) (.t 35))] [25,26,27,28,29,30,31,32,33,34,35]) (.seq (.cond (.t 36) (.seq (.region [oI 4 (.mv (.c (.slice none 0 0))),mc 5 13] [2,3,7,36]) (.ret)) (kl [36])) (.seq (.region [oI 8 (.mv (.c (.slice none 0 0)))] []) (.region [mc 9 1] []))))))))) cn
def aB1:aa:=atN ack
abbrev atO(R:Type):=Int→Int→Sl→Int→Sl→Sl→Sl→AH→Option R
def atP(aI aJ:Int)(aL:Sl)(bZ:Int)(bY eu fA:Sl):List Value:=.agg ⟨[vi aI,vi aJ,vs aL,vi bZ,vs bY]⟩::.agg ⟨[vs eu,vs fA]⟩::un 107 []
def lK:aK:=⟨109,aB1,[.tmp 4,.tmp 5]⟩
theorem Nn:okF Tryz.prog 28 lK=true:=by kernel_rfl
def agR{R:Type}(C:Callee)(fl k:Nat)(kr:aO R):ab R:=fun t8 h=>kr t8 0 h
theorem al2:(cp E9 (ce C fl k Nl K))=agR C fl k (cp lJ (K .ret)):=by kernel_rfl
def CG{R:Type}(C:Callee)(fl k:Nat)(kn:fE R)(e0:ab R)(kr:aO R):fE R:=fun t2 t3 t7 t8 t9 h=>kn t2 t3 t7 t8 (av (t9+1)) h
theorem GX:(cp fF (ce C fl k qW K))=CG C fl k (cp fF (K .normal)) (cp E9 (K (.exit 0))) (cp lJ (K .ret)):=by kernel_rfl
def BV{R:Type}(C:Callee)(fl k:Nat)(kn:fE R)(kr:aO R):Q9 R:=fun t2 t3 t7 t8 t9 t10 t11 h=>aF .i64 h t2.block t2.off fun n1=>aF .i64 h t2.block (t2.off+1) fun n2=>aT h t2.block (t2.off+1+1) fun s3=>aF .i64 h t2.block (t2.off+1+1+1) fun n4=>aT h t2.block (t2.off+1+1+1+1) fun s5=>aj C fl fn.qN [.agg ⟨[vi n1,vi n2,vs s3,vi n4,vs s5]⟩,vs t10] h fun v6 h7=>aE v6 fun l8=>ar l8 fun v9 l10=>asInt .i64 v9 fun xA=>ar l10 fun V3 l13=>asInt .i64 V3 fun Bv=>aM l13 (if (Bv !=0)=true then kr ⟨none,0,0⟩ 13 h7 else aF .i64 h7 t2.block t2.off fun qD=>aF .i64 h7 t2.block (t2.off+1) fun HT=>aT h7 t2.block (t2.off+1+1) fun s17=>aF .i64 h7 t2.block (t2.off+1+1+1) fun JT=>aT h7 t2.block (t2.off+1+1+1+1) fun s19=>aj C fl fn.qN [.agg ⟨[vi qD,vi HT,vs s17,vi JT,vs s19]⟩,vs t11] h7 fun v20 yL=>aE v20 fun l22=>ar l22 fun v23 l24=>asInt .i64 v23 fun HU=>ar l24 fun v26 l27=>asInt .i64 v26 fun n28=>aM l27 (if (n28 !=0)=false then if decide (av (t7-HU)<t9)=false then aF .i64 yL t2.block t2.off fun n29=>aF .i64 yL t2.block (t2.off+1) fun n30=>aT yL t2.block (t2.off+1+1) fun s31=>aF .i64 yL t2.block (t2.off+1+1+1) fun n32=>aT yL t2.block (t2.off+1+1+1+1) fun s33=>aT yL t3.block (t3.off+1) fun s34=>idx 1 s34 (av (t9-1)) fun p35=>aT yL p35.block p35.off fun s36=>aj C fl fn.jL [.agg ⟨[vi n29,vi n30,vs s31,vi n32,vs s33]⟩,vi (av (av (t7-t9)+1)),vi (av (((t10.l:Nat):Int)-1)),.agg ⟨[vs s36]⟩] yL fun v37 h38=>asInt .i64 v37 fun n39=>if (n39 !=0)=true then kr ⟨none,0,0⟩ 13 h38 else bJ h38 [vi ((t10.l:Nat):Int)] fun b40 h41=>dn fl 1 8 t8 ⟨(some ⟨b40,0,none⟩),1,1⟩ h41 fun s42 h43=>kn t2 t3 t7 s42 t9 h43 else kr ⟨none,0,0⟩ 13 yL else kr ⟨none,0,0⟩ 13 yL))
theorem Ll:(cp Ra (ce C fl k pa K))=BV C fl k (cp fF (K .normal)) (cp lJ (K .ret)):=by kernel_rfl
def xZ{R:Type}(C:Callee)(fl k:Nat)(kn:vJ R)(e2:Q9 R):vJ R:=fun t2 t3 t7 t8 t9 t10 t11 t49 t50 h=>kn t2 t3 t7 t8 t9 t10 t11 t49 (av (t50+1)) h
theorem HZ:(cp vK (ce C fl k mC K))=xZ C fl k (cp vK (K .normal)) (cp Ra (K (.exit 2))):=by kernel_rfl
def pc{R:Type}(C:Callee)(fl k:Nat)(kx:vJ R)(kn:vJ R)(e2:Q9 R):vJ R:=fun t2 t3 t7 t8 t9 t10 t11 t49 t50 h=>if decide (t50<t49)=true then aj C fl fn.cM [vs t10,vi t50] h fun v44 h45=>asBool v44 fun b46=>if (!b46)=true then bJ h45 [vi t50] fun b47 h48=>dn fl 1 8 t11 ⟨(some ⟨b47,0,none⟩),1,1⟩ h48 fun s49 h50=>kx t2 t3 t7 t8 t9 t10 s49 t49 t50 h50 else kx t2 t3 t7 t8 t9 t10 t11 t49 t50 h45 else e2 t2 t3 t7 t8 t9 t10 t11 h
def qX(kn:vJ R)(e2:Q9 R):vJ R:=pc C fl k (xZ C fl k kn e2) kn e2
theorem Lm(cn:aa):(cp vK (ce C fl k (xY cn) K))=pc C fl k (cp vK (ce C fl k cn K)) (cp vK (K .normal)) (cp Ra (K (.exit 2))):=by kernel_rfl
theorem Ln:(cp vK (ce C fl k pb K))=qX C fl k (cp vK (K .normal)) (cp Ra (K (.exit 2))):=(Lm C fl k K mC).trans (ag (fun L0=>pc C fl k L0 _ _) (HZ C fl k K))
def lL(kn:Q9 R):Nat→vJ R
 |0=>fun _ _ _ _ _ _ _ _ _ _=>none
 |m+1=>qX C fl k (lL kn m) kn
theorem x8:∀m,(cp vK (aQ m (aW C fl k pb 2 K)))=lL C fl k (cp Ra (K .normal)) m
 |0=>by kernel_rfl
 |m+1=>gu (Ln C fl k _) (ag (fun L=>qX C fl k L _) (x8 m))
def GY(kn:fE R)(kr:aO R):vJ R:=lL C fl k (BV C fl k kn kr) k
theorem Rb:(cp vK (ce C fl k tP K))=GY C fl k (cp fF (K .normal)) (cp lJ (K .ret)):=(iP (gv (x8 C fl k (bw C fl k pa K)))).trans (ag (fun L=>lL C fl k L k) (iL (Ll C fl k K)))
def Ae{R:Type}(C:Callee)(fl k:Nat)(kx:vJ R)(kn:fE R)(kr:aO R):fE R:=fun t2 t3 t7 t8 t9 h=>aT h t3.block t3.off fun s51=>idx 1 s51 (av (t9-1)) fun p52=>aT h p52.block p52.off fun s53=>aF .i64 h t2.block (t2.off+3) fun n54=>kx t2 t3 t7 t8 t9 s53 ⟨none,0,0⟩ n54 0 h
def CH(kn:fE R)(kr:aO R):fE R:=Ae C fl k (GY C fl k kn kr) kn kr
theorem YT(cn:aa):(cp fF (ce C fl k (GW cn) K))=Ae C fl k (cp vK (ce C fl k cn K)) (cp fF (K .normal)) (cp lJ (K .ret)):=by kernel_rfl
theorem YU:(cp fF (ce C fl k Ad K))=CH C fl k (cp fF (K .normal)) (cp lJ (K .ret)):=(YT C fl k K tP).trans (ag (fun L0=>Ae C fl k L0 _ _) (Rb C fl k K))
def Fb{R:Type}(C:Callee)(fl k:Nat)(kx:fE R)(u0:fE R)(kn:fE R)(e0:ab R)(kr:aO R):fE R:=fun t2 t3 t7 t8 t9 h=>u0 t2 t3 t7 t8 t9 h
def Wr(kn:fE R)(e0:ab R)(kr:aO R):fE R:=Fb C fl k (CG C fl k kn e0 kr) (CH C fl k (CG C fl k kn e0 kr) kr) kn e0 kr
theorem aeO(cn fJ:aa):(cp fF (ce C fl k (Mk cn fJ) K))=Fb C fl k (cp fF (ce C fl k cn K)) (cp fF (ce C fl k fJ (iK 1 (bw C fl k cn K)))) (cp fF (K .normal)) (cp E9 (K (.exit 0))) (cp lJ (K .ret)):=by kernel_rfl
theorem aeP:(cp fF (ce C fl k Fa K))=Wr C fl k (cp fF (K .normal)) (cp E9 (K (.exit 0))) (cp lJ (K .ret)):=(aeO C fl k K qW Ad).trans (gG (fun L0 L1=>Fb C fl k L0 L1 _ _ _) (GX C fl k K) ((YU C fl k (iK 1 (bw C fl k qW K))).trans (ag (fun L0=>CH C fl k L0 _) (bn1 (GX C fl k K)))))
def No{R:Type}(C:Callee)(fl k:Nat)(kx:fE R)(kn:fE R)(e0:ab R)(kr:aO R):fE R:=fun t2 t3 t7 t8 t9 h=>if decide (t9≤t7)=true then kx t2 t3 t7 t8 t9 h else e0 t8 h
def UD(kn:fE R)(e0:ab R)(kr:aO R):fE R:=No C fl k (Wr C fl k kn e0 kr) kn e0 kr
theorem al3(cn:aa):(cp fF (ce C fl k (Wq cn) K))=No C fl k (cp fF (ce C fl k cn K)) (cp fF (K .normal)) (cp E9 (K (.exit 0))) (cp lJ (K .ret)):=by kernel_rfl
theorem al4:(cp fF (ce C fl k Nm K))=UD C fl k (cp fF (K .normal)) (cp E9 (K (.exit 0))) (cp lJ (K .ret)):=(al3 C fl k K Fa).trans (ag (fun L0=>No C fl k L0 _ _ _) (aeP C fl k K))
def Kd(kn:ab R)(kr:aO R):Nat→fE R
 |0=>fun _ _ _ _ _ _=>none
 |m+1=>UD C fl k (Kd kn kr m) kn kr
theorem Ws:∀m,(cp fF (aQ m (aW C fl k Nm 0 K)))=Kd C fl k (cp E9 (K .normal)) (cp lJ (K .ret)) m
 |0=>by kernel_rfl
 |m+1=>gu (al4 C fl k _) (ag (fun L=>UD C fl k L _ _) (Ws m))
def atS(kr:aO R):fE R:=Kd C fl k (agR C fl k kr) kr k
theorem ax6:(cp fF (ce C fl k ack K))=atS C fl k (cp lJ (K .ret)):=(iP (gv (Ws C fl k (bw C fl k Nl K)))).trans (ag (fun L=>Kd C fl k L _ k) (iL (al2 C fl k K)))
def arx{R:Type}(C:Callee)(fl k:Nat)(kx:fE R)(kr:aO R):atO R:=fun aI aJ aL bZ bY eu fA h=>bJ h [vi aI,vi aJ,vs aL,vi bZ,vs bY] fun b55 h56=>bJ h56 [vs eu,vs fA] fun b57 h58=>aF .i64 h58 b55 0 fun n59=>aF .i64 h58 b55 1 fun n60=>aT h58 b55 2 fun s61=>aF .i64 h58 b55 3 fun n62=>aT h58 b55 4 fun s63=>aj C fl fn.ep [.agg ⟨[vi n59,vi n60,vs s61,vi n62,vs s63]⟩] h58 fun v64 h65=>asInt .i64 v64 fun n66=>if (n66 !=0)=true then kr ⟨none,0,0⟩ n66 h65 else aT h65 b55 4 fun s67=>aT h65 b57 0 fun s68=>if (((s68.l:Nat):Int) !=((s67.l:Nat):Int))=false then aT h65 b57 1 fun s69=>if (((s69.l:Nat):Int) !=((s67.l:Nat):Int))=true then kr ⟨none,0,0⟩ 13 h65 else kx ⟨b55,0,none⟩ ⟨b57,0,none⟩ ((s67.l:Nat):Int) ⟨none,0,0⟩ 1 h65 else kr ⟨none,0,0⟩ 13 h65
def aN5(kr:aO R):atO R:=arx C fl k (atS C fl k kr) kr
theorem aHH(cn:aa):(cp atP (ce C fl k (atN cn) K))=arx C fl k (cp fF (ce C fl k cn K)) (cp lJ (K .ret)):=by kernel_rfl
theorem aHI:(cp atP (ce C fl k aB1 K))=aN5 C fl k (cp lJ (K .ret)):=(aHH C fl k K ack).trans (ag (fun L0=>arx C fl k L0 _) (ax6 C fl k K))
def oE(aw ax:Int)(ay:Sl)(bk:Int)(bj cz cF:Sl)(h:AH):Option (Value×AH):=aN5 C fl k (fun y4 y5 q=>some (.tuple ⟨[vs y4,vi y5]⟩,q)) aw ax ay bk bj cz cF h
theorem Lo(aw ax:Int)(ay:Sl)(bk:Int)(bj cz cF:Sl)(h):aV C fl k lK [.agg ⟨[vi aw,vi ax,vs ay,vi bk,vs bj]⟩,.agg ⟨[vs cz,vs cF]⟩] h=oE C fl k aw ax ay bk bj cz cF h:=axU (aHI C fl k (aG _)) aw ax ay bk bj cz cF (by kernel_rfl) (by kernel_rfl)
def aHJ(t4:Bool):List Value:=un 4 (.bool t4::un 5 [])
def aB2:aa:=.seq (.region [oI 2 (.box (.t 0)),oI 4 (.mv (.c (.bool false)))] [0,4]) (.seq (.region [fa 5 4 2,ls 6 5,oI 7 (.build [.int .i64 0,.slice none 0 0] [(1,1,.t 6)]),m 8 1,oI 9 (.call (.f 60) [.t 7,.t 8] (.one (.one .bool))),m 4 9] [1,2,5,6,7,8,9]) (.ret))
def aHK(aI aJ:Int)(aL:Sl)(bZ:Int)(bY:Sl)(t1:Int):List Value:=.agg ⟨[vi aI,vi aJ,vs aL,vi bZ,vs bY]⟩::vi t1::un 8 []
def BW:aK:=⟨10,aB2,[.tmp 4]⟩
theorem aia:okF Tryz.prog 29 BW=true:=by kernel_rfl
def aB3{R:Type}(C:Callee)(fl k:Nat)(kr:aC R):gS R:=fun aI aJ aL bZ bY t1 h=>bJ h [vi aI,vi aJ,vs aL,vi bZ,vs bY] fun b1 h2=>aT h2 b1 4 fun s3=>aj C fl fn.zH [.agg ⟨[vi 0,vs s3]⟩,vi t1] h2 fun v4 h5=>asBool v4 fun b6=>kr b6 h5
theorem aHL:(cp aHK (ce C fl k aB2 K))=aB3 C fl k (cp aHJ (K .ret)):=by kernel_rfl
def tC(aw ax:Int)(ay:Sl)(bk:Int)(bj:Sl)(p1:Int)(h:AH):Option (Value×AH):=aB3 C fl k (fun y4 q=>some (.bool y4,q)) aw ax ay bk bj p1 h
theorem aeQ(aw ax:Int)(ay:Sl)(bk:Int)(bj:Sl)(p1:Int)(h):aV C fl k BW [.agg ⟨[vi aw,vi ax,vs ay,vi bk,vs bj]⟩,vi p1] h=tC C fl k aw ax ay bk bj p1 h:=Uq (aHL C fl k (aG _)) aw ax ay bk bj p1 (by kernel_rfl) (by kernel_rfl)
abbrev ah(R:Type):=Int→AH→Option R
def aHM(t2:Int):List Value:=un 2 (vi t2::un 23 [])
def aB4:aa:=.seq (.region [oI 1 (.box (.t 0)),mc 2 0] [0,2]) (.seq (.region [fa 4 0 1,oI 5 (.load (.agg [.int .i64,.int .i64,.slice]) (.t 4)),oI 6 (.call (.f 62) [.t 5] (.one (.one (.int .i64)))),m 3 6] [4,5,6]) (.seq (.region [m 7 3,ck 8 .neq 7 0] [7]) (.seq (.cond (.t 8) (.seq (.region [m 9 3,m 2 9] [1,3,8,9]) (.ret)) (kl [3,8])) (.seq (.region [fa 10 3 1,li 11 10,ck 12 .lss 11 1,m 13 12,.gL 13 false [qI 14 (.cW 3 (.t 1)),qI 15 (.load (.one (.int .i64)) (.t 14)),qI 16 (.cmp .gtr .i64 (.t 15) (ci 64))],oI 17 (.pick (.t 13) (.c (.bool true)) (.t 16))] [10,11,12,13,14,15,16]) (.seq (.cond (.t 17) (.seq (.region [mc 2 4] [1,17]) (.ret)) (kl [17])) (.seq (.region [fa 18 0 1,oI 19 (.load (.agg [.int .i64,.int .i64,.slice]) (.t 18)),fa 20 3 1,li 21 20,fa 22 4 1,ls 23 22,oI 24 (.build [.int .i64 0,.slice none 0 0] [(0,1,.t 21),(1,1,.t 23)]),oI 25 (.call (.f 63) [.t 19,.t 24] (.one (.one (.int .i64)))),m 2 25] [1,18,19,20,21,22,23,24,25]) (.ret)))))))
def aHN(aI aJ:Int)(aL:Sl)(bZ:Int)(bY:Sl):List Value:=.agg ⟨[vi aI,vi aJ,vs aL,vi bZ,vs bY]⟩::un 25 []
def vL:aK:=⟨26,aB4,[.tmp 2]⟩
theorem acm:okF Tryz.prog 32 vL=true:=by kernel_rfl
def acn{R:Type}(C:Callee)(fl k:Nat)(kr:ah R):bD R:=fun aI aJ aL bZ bY h=>bJ h [vi aI,vi aJ,vs aL,vi bZ,vs bY] fun b1 h2=>aF .i64 h2 b1 0 fun n3=>aF .i64 h2 b1 1 fun n4=>aT h2 b1 2 fun s5=>aj C fl fn.iZ [.agg ⟨[vi n3,vi n4,vs s5]⟩] h2 fun v6 h7=>asInt .i64 v6 fun n8=>if (n8 !=0)=true then kr n8 h7 else aF .i64 h7 b1 3 fun n9=>if decide (n9<1)=false then aF .i64 h7 b1 3 fun mb=>if decide (mb>64)=true then kr 4 h7 else aF .i64 h7 b1 0 fun xA=>aF .i64 h7 b1 1 fun Bu=>aT h7 b1 2 fun VZ=>aF .i64 h7 b1 3 fun Bv=>aT h7 b1 4 fun Ua=>aj C fl fn.mn [.agg ⟨[vi xA,vi Bu,vs VZ]⟩,.agg ⟨[vi Bv,vs Ua]⟩] h7 fun v16 yK=>asInt .i64 v16 fun JT=>kr JT yK else kr 4 h7
theorem aHO:(cp aHN (ce C fl k aB4 K))=acn C fl k (cp aHM (K .ret)):=by kernel_rfl
def pV(aw ax:Int)(ay:Sl)(bk:Int)(bj:Sl)(h:AH):Option (Value×AH):=acn C fl k (fun y2 q=>some (vi y2,q)) aw ax ay bk bj h
theorem YV(aw ax:Int)(ay:Sl)(bk:Int)(bj:Sl)(h):aV C fl k vL [.agg ⟨[vi aw,vi ax,vs ay,vi bk,vs bj]⟩] h=pV C fl k aw ax ay bk bj h:=oY (aHO C fl k (aG _)) aw ax ay bk bj (by kernel_rfl) (by kernel_rfl)
abbrev cL(R:Type):=Int→Int→AH→Option R
def aib(t4 t5:Int):List Value:=un 4 (vi t4::vi t5::un 21 [])
def aco:aa:=.seq (.region [m 19 7,ck 20 .neq 19 0] [19]) (.seq (.cond (.t 20) (.seq (.region [m 21 7,mc 4 0,m 5 21] [1,2,6,7,20,21]) (.ret)) (kl [7,20])) (.seq (.region [m 22 6,oI 23 (.load (.agg [.int .i64,.int .i64,.slice,.int .i64,.slice]) (.t 2)),m 24 1,oI 25 (.call (.f 66) [.t 22,.t 23,.t 24] (.one (.one .slice))),ln 26 25,m 4 26,mc 5 0] [1,2,6,22,23,24,25,26]) (.ret)))
abbrev atT(R:Type):=Sl→Addr→OA→Int→AH→Option R
def atU(t1:Sl)(t2:Addr)(t6:OA)(t7:Int):List Value:=un 1 (t1.v::vp t2::un 3 (vn t6::vi t7::un 19 []))
def atV(cn:aa):aa:=.seq (.seq (.region [oI 2 (.box (.t 0)),mc 4 0,mc 5 0] [0,4,5]) (.seq (.region [oI 9 (.load (.agg [.int .i64,.int .i64,.slice,.int .i64,.slice]) (.t 2)),oI 10 (.call (.f 64) [.t 9] (.ke [.one .l0,.one (.int .i64)])),m 8 10,ex 11 8 0,ex 12 8 1,m 6 11,m 7 12] [8,9,10,11,12]) (.seq (.region [m 13 7,ck 14 .eql 13 0] [13]) (.cond (.t 14) (.region [oI 15 (.load (.agg [.int .i64,.int .i64,.slice,.int .i64,.slice]) (.t 2)),m 16 1,oI 17 (.bq 1 [.slice none 0 0] [(0,1,.t 16)]),oI 18 (.call (.f 65) [.t 15,.t 17] (.one (.one (.int .i64)))),m 7 18] [14,15,16,17,18]) (kl [14]))))) cn
def aB5:aa:=atV aco
def atW(aI aJ:Int)(aL:Sl)(bZ:Int)(bY t1:Sl):List Value:=.agg ⟨[vi aI,vi aJ,vs aL,vi bZ,vs bY]⟩::t1.v::un 25 []
def qY:aK:=⟨27,aB5,[.tmp 4,.tmp 5]⟩
theorem YW:okF Tryz.prog 33 qY=true:=by kernel_rfl
def atX{R:Type}(C:Callee)(fl k:Nat)(kr:cL R):atT R:=fun t1 t2 t6 t7 h=>if (t7 !=0)=true then kr 0 t7 h else aF .i64 h t2.block t2.off fun n1=>aF .i64 h t2.block (t2.off+1) fun n2=>aT h t2.block (t2.off+1+1) fun s3=>aF .i64 h t2.block (t2.off+1+1+1) fun n4=>aT h t2.block (t2.off+1+1+1+1) fun s5=>aj C fl fn.qO [.pointer t6,.agg ⟨[vi n1,vi n2,vs s3,vi n4,vs s5]⟩,vs t1] h fun v6 h7=>aX v6 fun s8=>kr ((s8.l:Nat):Int) 0 h7
theorem ax7:(cp atU (ce C fl k aco K))=atX C fl k (cp aib (K .ret)):=by kernel_rfl
def ary{R:Type}(C:Callee)(fl k:Nat)(kx:atT R)(kr:cL R):kq R:=fun aI aJ aL bZ bY t1 h=>bJ h [vi aI,vi aJ,vs aL,vi bZ,vs bY] fun b9 sU=>aF .i64 sU b9 0 fun xA=>aF .i64 sU b9 1 fun Bu=>aT sU b9 2 fun VZ=>aF .i64 sU b9 3 fun Bv=>aT sU b9 4 fun Ua=>aj C fl fn.yP [.agg ⟨[vi xA,vi Bu,vs VZ,vi Bv,vs Ua]⟩] sU fun v16 yK=>aE v16 fun l18=>ar l18 fun v19 l20=>ek v19 fun p21=>ar l20 fun v22 l23=>asInt .i64 v22 fun n24=>aM l23 (if (n24==0)=true then aF .i64 yK b9 0 fun HU=>aF .i64 yK b9 1 fun EI=>aT yK b9 2 fun s27=>aF .i64 yK b9 3 fun n28=>aT yK b9 4 fun s29=>bJ yK [vs t1] fun b30 h31=>aj C fl fn.yQ [.agg ⟨[vi HU,vi EI,vs s27,vi n28,vs s29]⟩,.slice (some ⟨b30,0,none⟩) 1 1] h31 fun v32 h33=>asInt .i64 v32 fun n34=>kx t1 ⟨b9,0,none⟩ p21 n34 h33 else kx t1 ⟨b9,0,none⟩ p21 n24 yK)
def aN6(kr:cL R):kq R:=ary C fl k (atX C fl k kr) kr
theorem aHP(cn:aa):(cp atW (ce C fl k (atV cn) K))=ary C fl k (cp atU (ce C fl k cn K)) (cp aib (K .ret)):=by kernel_rfl
theorem aHQ:(cp atW (ce C fl k aB5 K))=aN6 C fl k (cp aib (K .ret)):=(aHP C fl k K aco).trans (ag (fun L0=>ary C fl k L0 _) (ax7 C fl k K))
def qN(aw ax:Int)(ay:Sl)(bk:Int)(bj p1:Sl)(h:AH):Option (Value×AH):=aN6 C fl k (fun y4 y5 q=>some (.tuple ⟨[vi y4,vi y5]⟩,q)) aw ax ay bk bj p1 h
theorem UE(aw ax:Int)(ay:Sl)(bk:Int)(bj p1:Sl)(h):aV C fl k qY [.agg ⟨[vi aw,vi ax,vs ay,vi bk,vs bj]⟩,vs p1] h=qN C fl k aw ax ay bk bj p1 h:=Uq (aHQ C fl k (aG _)) aw ax ay bk bj p1 (by kernel_rfl) (by kernel_rfl)
def aic(t4:Addr)(t5:Int):List Value:=un 4 (vp t4::vi t5::un 21 [])
def acp:aa:=.seq (.region [oI 21 (.load (.agg [.int .i64,.int .i64,.slice]) (.t 2)),oI 22 (.load (.agg [.int .i64,.slice]) (.t 6)),m 23 8,oI 24 (.call (.f 69) [.t 21,.t 22,.t 23] (.ke [.agg [.int .i64,.int .i64,.slice,.int .i64,.slice],.one (.int .i64)])),ex 25 24 0,ex 26 24 1,sI 5 4 25,m 5 26] [2,6,8,21,22,23,24,25,26]) (.ret)
abbrev atY(R:Type):=Addr→Addr→Addr→Int→AH→Option R
def atZ(t2 t4 t6:Addr)(t8:Int):List Value:=un 2 (vp t2::un 1 (vp t4::un 1 (vp t6::un 1 (vi t8::un 18 []))))
def at1(cn:aa):aa:=.seq (.seq (.region [oI 2 (.box (.t 0)),oI 3 (.box (.t 1)),oI 4 (.alloc [.int .i64 0,.int .i64 0,.slice none 0 0,.int .i64 0,.slice none 0 0]),mc 5 0] [0,1,5]) (.seq (.region [oI 10 (.load (.agg [.int .i64,.int .i64,.slice]) (.t 2)),oI 11 (.load (.agg [.int .i64,.slice]) (.t 3)),oI 12 (.call (.f 73) [.t 10,.t 11] (.ke [.agg [.int .i64,.slice],.one .slice,.one (.int .i64)])),m 9 12,ex 13 9 0,ex 14 9 1,ex 15 9 2,oI 6 (.alloc [.int .i64 0,.slice none 0 0]),sI 2 6 13,m 7 14,m 8 15] [7,9,10,11,12,13,14,15]) (.seq (.region [m 16 8,ck 17 .eql 16 0] [16]) (.cond (.t 17) (.region [fa 18 0 3,li 19 18,oI 20 (.call (.f 74) [.t 19] (.one (.one (.int .i64)))),m 8 20] [3,17,18,19,20]) (kl [3,17]))))) cn
def aB6:aa:=at1 acp
def at2(aI aJ:Int)(aL:Sl)(eu:Int)(fA:Sl):List Value:=.agg ⟨[vi aI,vi aJ,vs aL]⟩::.agg ⟨[vi eu,vs fA]⟩::un 25 []
def Fc:aK:=⟨27,aB6,[.cell 4 (.agg [.int .i64,.int .i64,.slice,.int .i64,.slice]),.tmp 5]⟩
theorem al5:okF Tryz.prog 37 Fc=true:=by kernel_rfl
def at3{R:Type}(C:Callee)(fl k:Nat)(kr:aY R):atY R:=fun t2 t4 t6 t8 h=>aF .i64 h t2.block t2.off fun n1=>aF .i64 h t2.block (t2.off+1) fun n2=>aT h t2.block (t2.off+1+1) fun s3=>aF .i64 h t6.block t6.off fun n4=>aT h t6.block (t6.off+1) fun s5=>aj C fl fn.aaw [.agg ⟨[vi n1,vi n2,vs s3]⟩,.agg ⟨[vi n4,vs s5]⟩,vi t8] h fun v6 h7=>aE v6 fun l8=>ar l8 fun v9 l10=>asAgg v9 fun l11=>ar l11 fun V3 l13=>asInt .i64 V3 fun Bv=>ar l13 fun v15 l16=>asInt .i64 v15 fun Qh=>ar l16 fun v18 l19=>aX v18 fun YI=>ar l19 fun v21 l22=>asInt .i64 v21 fun n23=>ar l22 fun v24 l25=>aX v24 fun s26=>aM l25 (ar l10 fun v27 l28=>asInt .i64 v27 fun n29=>aM l28 (st fl h7 t4 [vi Bv,vi Qh,vs YI,vi n23,vs s26] fun h30=>kr t4 n29 h30))
theorem ax8:(cp atZ (ce C fl k acp K))=at3 C fl k (cp aic (K .ret)):=by kernel_rfl
def arz{R:Type}(C:Callee)(fl k:Nat)(kx:atY R)(kr:aY R):bD R:=fun aI aJ aL eu fA h=>bJ h [vi aI,vi aJ,vs aL] fun b31 Qp=>bJ Qp [vi eu,vs fA] fun b33 h34=>bJ h34 [.int .i64 0,.int .i64 0,.slice none 0 0,.int .i64 0,.slice none 0 0] fun b35 Qj=>aF .i64 Qj b31 0 fun n37=>aF .i64 Qj b31 1 fun n38=>aT Qj b31 2 fun s39=>aF .i64 Qj b33 0 fun n40=>aT Qj b33 1 fun s41=>aj C fl fn.cD [.agg ⟨[vi n37,vi n38,vs s39]⟩,.agg ⟨[vi n40,vs s41]⟩] Qj fun v42 h43=>aE v42 fun l44=>ar l44 fun v45 l46=>asAgg v45 fun l47=>ar l47 fun v48 l49=>asInt .i64 v48 fun n50=>ar l49 fun v51 l52=>aX v51 fun s53=>aM l52 (ar l46 fun v54 l55=>aX v54 fun s56=>ar l55 fun v57 l58=>asInt .i64 v57 fun n59=>aM l58 (bJ h43 [.int .i64 0,.slice none 0 0] fun b60 h61=>st fl h61 ⟨b60,0,none⟩ [vi n50,vs s53] fun h62=>if (n59==0)=true then aF .i64 h62 b33 0 fun n63=>aj C fl fn.mo [vi n63] h62 fun v64 h65=>asInt .i64 v64 fun n66=>kx ⟨b31,0,none⟩ ⟨b35,0,none⟩ ⟨b60,0,none⟩ n66 h65 else kx ⟨b31,0,none⟩ ⟨b35,0,none⟩ ⟨b60,0,none⟩ n59 h62))
def aN7(kr:aY R):bD R:=arz C fl k (at3 C fl k kr) kr
theorem aHR(cn:aa):(cp at2 (ce C fl k (at1 cn) K))=arz C fl k (cp atZ (ce C fl k cn K)) (cp aic (K .ret)):=by kernel_rfl
theorem aHS:(cp at2 (ce C fl k aB6 K))=aN7 C fl k (cp aic (K .ret)):=(aHR C fl k K acp).trans (ag (fun L0=>arz C fl k L0 _) (ax8 C fl k K))
def QQ(aw ax:Int)(ay:Sl)(cz:Int)(cF:Sl)(h:AH):Option (Value×AH):=aN7 C fl k (fun y4 y5 q=>aF .i64 q y4.block y4.off fun n67=>aF .i64 q y4.block (y4.off+1) fun n68=>aT q y4.block (y4.off+1+1) fun s69=>aF .i64 q y4.block (y4.off+1+1+1) fun n70=>aT q y4.block (y4.off+1+1+1+1) fun s71=>some (.tuple ⟨[.agg ⟨[vi n67,vi n68,vs s69,vi n70,vs s71]⟩,vi y5]⟩,q)) aw ax ay cz cF h
theorem aid(aw ax:Int)(ay:Sl)(cz:Int)(cF:Sl)(h):aV C fl k Fc [.agg ⟨[vi aw,vi ax,vs ay]⟩,.agg ⟨[vi cz,vs cF]⟩] h=QQ C fl k aw ax ay cz cF h:=oY (aHS C fl k (aG _)) aw ax ay cz cF (by kernel_rfl) (by kernel_rfl)
def Ke(t4:Bool):List Value:=un 4 (.bool t4::un 22 [])
def Np:aa:=.seq (.region [oI 4 (.mv (.c (.bool true)))] []) (.ret)
def aie:List Value:=un 27 []
def Rc(t0 t1:Sl)(t5:Int):List Value:=t0.v::t1.v::un 3 (vi t5::un 21 [])
def Nq:aa:=.seq (.region [m 11 5,m 12 0,ln 13 12,cm 14 .lss 11 13] [11,12,13]) (.seq (.cond (.t 14) (kl [14]) (.seq (kl [0,1,5,14]) (.exit 0))) (.seq (.block 1 (.seq (.region [m 17 0,m 18 5,ia 19 1 17 18,lt 20 19,m 21 1,m 22 5,ia 23 1 21 22,lt 24 23,oI 25 (.call (.f 17) [.t 20,.t 24] (.one (.one .bool))),no 26 25] [17,18,19,20,21,22,23,24,25]) (.cond (.t 26) (.seq (.region [oI 4 (.mv (.c (.bool false)))] [0,1,5,26]) (.ret)) (kl [26])))) (.region [m 15 5,bc 16 .add 15 1,m 5 16] [15,16])))
def acq:aa:=.seq (.block 0 (.loop Nq)) Np
def at4(cn:aa):aa:=.seq (.seq (.region [oI 4 (.mv (.c (.bool false)))] [4]) (.seq (.region [m 6 0,ln 7 6,m 8 1,ln 9 8,cm 10 .neq 7 9] [6,7,8,9]) (.seq (.cond (.t 10) (.seq (.region [oI 4 (.mv (.c (.bool false)))] [0,1,10]) (.ret)) (kl [10])) (.region [mc 5 0] [])))) cn
def aB7:aa:=at4 acq
def at5(t0 t1:Sl):List Value:=t0.v::t1.v::un 25 []
def nk:aK:=⟨27,aB7,[.tmp 4]⟩
theorem Rd:okF Tryz.prog 38 nk=true:=by kernel_rfl
def Kf{R:Type}(C:Callee)(fl k:Nat)(kr:aC R):au R:=fun h=>kr true h
theorem al6:(cp aie (ce C fl k Np K))=Kf C fl k (cp Ke (K .ret)):=by kernel_rfl
def tQ{R:Type}(C:Callee)(fl k:Nat)(kn:gw R)(e0:au R)(kr:aC R):gw R:=fun t0 t1 t5 h=>if decide (t5<((t0.l:Nat):Int))=true then idx 1 t0 t5 fun p1=>aT h p1.block p1.off fun s2=>idx 1 t1 t5 fun p3=>aT h p3.block p3.off fun s4=>aj C fl fn.cN [vs s2,vs s4] h fun v5 h6=>asBool v5 fun b7=>if (!b7)=true then kr false h6 else kn t0 t1 (av (t5+1)) h6 else e0 h
theorem al7:(cp Rc (ce C fl k Nq K))=tQ C fl k (cp Rc (K .normal)) (cp aie (K (.exit 0))) (cp Ke (K .ret)):=by kernel_rfl
def Dw(kn:au R)(kr:aC R):Nat→gw R
 |0=>fun _ _ _ _=>none
 |m+1=>tQ C fl k (Dw kn kr m) kn kr
theorem Wt:∀m,(cp Rc (aQ m (aW C fl k Nq 0 K)))=Dw C fl k (cp aie (K .normal)) (cp Ke (K .ret)) m
 |0=>by kernel_rfl
 |m+1=>gu (al7 C fl k _) (ag (fun L=>tQ C fl k L _ _) (Wt m))
def aif(kr:aC R):gw R:=Dw C fl k (Kf C fl k kr) kr k
theorem ax9:(cp Rc (ce C fl k acq K))=aif C fl k (cp Ke (K .ret)):=(iP (gv (Wt C fl k (bw C fl k Np K)))).trans (ag (fun L=>Dw C fl k L _ k) (iL (al6 C fl k K)))
def aih{R:Type}(C:Callee)(fl k:Nat)(kx:gw R)(kr:aC R):cR R:=fun t0 t1 h=>if (((t0.l:Nat):Int) !=((t1.l:Nat):Int))=true then kr false h else kx t0 t1 0 h
def aB8(kr:aC R):cR R:=aih C fl k (aif C fl k kr) kr
theorem aHT(cn:aa):(cp at5 (ce C fl k (at4 cn) K))=aih C fl k (cp Rc (ce C fl k cn K)) (cp Ke (K .ret)):=by kernel_rfl
theorem aHU:(cp at5 (ce C fl k aB7 K))=aB8 C fl k (cp Ke (K .ret)):=(aHT C fl k K acq).trans (ag (fun L0=>aih C fl k L0 _) (ax9 C fl k K))
def eQ(p0 p1:Sl)(h:AH):Option (Value×AH):=aB8 C fl k (fun y4 q=>some (.bool y4,q)) p0 p1 h
theorem Af(p0 p1:Sl)(h):aV C fl k nk [vs p0,vs p1] h=eQ C fl k p0 p1 h:=tF (aHU C fl k (aG _)) p0 p1 (by kernel_rfl) (by kernel_rfl)
def Kg(t4:Int):List Value:=un 4 (vi t4::un 14 [])
def Nr:aa:=.seq (.region [oI 4 (.mv (ci (-1)))] []) (.ret)
def aii:List Value:=un 19 []
abbrev qZ(R:Type):=Sl→Value→Int→Int→AH→Option R
def Re(t0:Sl)(t1:Value)(t7 t8:Int):List Value:=t0.v::t1::un 5 (vi t7::vi t8::un 10 [])
def Ns:aa:=.seq (.region [cm 9 .lss 8 7] []) (.seq (.cond (.t 9) (kl [9]) (.seq (kl [0,1,7,8,9]) (.exit 0))) (.seq (.block 1 (.seq (.region [m 10 8,m 5 10] [10]) (.seq (.region [m 11 1,m 12 0,m 13 5,ia 14 1 12 13,li 15 14,oI 16 (.call (.t 11) [.t 15] (.one (.one .bool)))] [11,12,13,14,15]) (.cond (.t 16) (.seq (.region [m 17 5,m 4 17] [0,1,5,7,8,16,17]) (.ret)) (kl [5,16]))))) (.region [bc 18 .add 8 1,m 8 18] [18])))
def acr:aa:=.seq (.block 0 (.loop Ns)) Nr
def at6(cn:aa):aa:=.seq (.seq (.region [mc 4 0] [4]) (.region [m 6 0,ln 7 6,mc 8 0] [6])) cn
def aB9:aa:=at6 acr
abbrev Rf(R:Type):=Sl→Value→AH→Option R
def at7(t0:Sl)(t1:Value):List Value:=t0.v::t1::un 17 []
def iy:aK:=⟨19,aB9,[.tmp 4]⟩
theorem Fe:okF Tryz.prog 39 iy=true:=by kernel_rfl
def UF{R:Type}(C:Callee)(fl k:Nat)(kr:ah R):au R:=fun h=>kr (-1) h
theorem al8:(cp aii (ce C fl k Nr K))=UF C fl k (cp Kg (K .ret)):=by kernel_rfl
def tR{R:Type}(C:Callee)(fl k:Nat)(kn:qZ R)(e0:au R)(kr:ah R):qZ R:=fun t0 t1 t7 t8 h=>if decide (t8<t7)=true then idx 1 t0 t8 fun p1=>aF .i64 h p1.block p1.off fun n2=>mh C fl t1 [vi n2] h fun v3 h4=>asBool v3 fun b5=>if b5=true then kr t8 h4 else kn t0 t1 t7 (av (t8+1)) h4 else e0 h
theorem al9:(cp Re (ce C fl k Ns K))=tR C fl k (cp Re (K .normal)) (cp aii (K (.exit 0))) (cp Kg (K .ret)):=by kernel_rfl
def Dx(kn:au R)(kr:ah R):Nat→qZ R
 |0=>fun _ _ _ _ _=>none
 |m+1=>tR C fl k (Dx kn kr m) kn kr
theorem Wu:∀m,(cp Re (aQ m (aW C fl k Ns 0 K)))=Dx C fl k (cp aii (K .normal)) (cp Kg (K .ret)) m
 |0=>by kernel_rfl
 |m+1=>gu (al9 C fl k _) (ag (fun L=>tR C fl k L _ _) (Wu m))
def aij(kr:ah R):qZ R:=Dx C fl k (UF C fl k kr) kr k
theorem aya:(cp Re (ce C fl k acr K))=aij C fl k (cp Kg (K .ret)):=(iP (gv (Wu C fl k (bw C fl k Nr K)))).trans (ag (fun L=>Dx C fl k L _ k) (iL (al8 C fl k K)))
def aik{R:Type}(C:Callee)(fl k:Nat)(kx:qZ R)(kr:ah R):Rf R:=fun t0 t1 h=>kx t0 t1 ((t0.l:Nat):Int) 0 h
def aCa(kr:ah R):Rf R:=aik C fl k (aij C fl k kr) kr
theorem aHV(cn:aa):(cp at7 (ce C fl k (at6 cn) K))=aik C fl k (cp Re (ce C fl k cn K)) (cp Kg (K .ret)):=by kernel_rfl
theorem aHW:(cp at7 (ce C fl k aB9 K))=aCa C fl k (cp Kg (K .ret)):=(aHV C fl k K acr).trans (ag (fun L0=>aik C fl k L0 _) (aya C fl k K))
def cY(p0:Sl)(p1:Value)(h:AH):Option (Value×AH):=aCa C fl k (fun y4 q=>some (vi y4,q)) p0 p1 h
theorem qf(p0:Sl)(p1:Value)(h):aV C fl k iy [vs p0,p1] h=cY C fl k p0 p1 h:=tF (aHW C fl k (aG _)) p0 p1 (by kernel_rfl) (by kernel_rfl)
def aHX(t3:Bool):List Value:=un 3 (.bool t3::un 3 [])
def aCb:aa:=.seq (.region [oI 3 (.mv (.c (.bool false)))] [3]) (.seq (.region [m 4 0,li 5 1,cm 6 .geq 4 5,m 3 6] [0,1,4,5,6]) (.ret))
abbrev aHY(R:Type):=Int→Addr→AH→Option R
def aHZ(t0:Int)(t1:Addr):List Value:=vi t0::vp t1::un 5 []
def iz:aK:=⟨7,aCb,[.tmp 3]⟩
theorem Ff:okF Tryz.prog 40 iz=true:=by kernel_rfl
def aCc{R:Type}(C:Callee)(fl k:Nat)(kr:aC R):aHY R:=fun t0 t1 h=>aF .i64 h t1.block t1.off fun n1=>kr (decide (t0≥n1)) h
theorem aH0:(cp aHZ (ce C fl k aCb K))=aCc C fl k (cp aHX (K .ret)):=by kernel_rfl
def cZ(p0:Int)(p1:Addr)(h:AH):Option (Value×AH):=aCc C fl k (fun y3 q=>some (.bool y3,q)) p0 p1 h
theorem qg(p0:Int)(p1:Addr)(h):aV C fl k iz [vi p0,.pointer (some p1)] h=cZ C fl k p0 p1 h:=tF (aH0 C fl k (aG _)) p0 p1 (by kernel_rfl) (by kernel_rfl)
def ail(t2:Int):List Value:=un 2 (vi t2::un 11 [])
def acs:aa:=.seq (.region [m 13 3,m 2 13] [3,13]) (.ret)
def at8(t3:Int):List Value:=un 3 (vi t3::un 10 [])
def at9(cn:aa):aa:=.seq (.seq (.region [oI 1 (.box (.t 0)),mc 2 0] [0,2]) (.seq (.region [oI 4 (.load (.agg [.int .i64,.int .i64,.slice,.int .i64,.slice]) (.t 1)),oI 5 (.call (.f 32) [.t 4] (.one (.one (.int .i64)))),m 3 5] [4,5]) (.seq (.region [m 6 3,ck 7 .eql 6 0,m 8 7,.gL 8 true [qI 9 (.cW 3 (.t 1)),qI 10 (.load (.one (.int .i64)) (.t 9)),qI 11 (.cmp .gtr .i64 (.t 10) (ci 16))],oI 12 (.pick (.t 8) (.t 11) (.c (.bool false)))] [1,6,7,8,9,10,11]) (.cond (.t 12) (.seq (.region [mc 2 8] [3,12]) (.ret)) (kl [12]))))) cn
def aCd:aa:=at9 acs
def aua(aI aJ:Int)(aL:Sl)(bZ:Int)(bY:Sl):List Value:=.agg ⟨[vi aI,vi aJ,vs aL,vi bZ,vs bY]⟩::un 13 []
def ra:aK:=⟨14,aCd,[.tmp 2]⟩
theorem YX:okF Tryz.prog 41 ra=true:=by kernel_rfl
def aim{R:Type}(C:Callee)(fl k:Nat)(kr:ah R):ah R:=fun t3 h=>kr t3 h
theorem ayb:(cp at8 (ce C fl k acs K))=aim C fl k (cp ail (K .ret)):=by kernel_rfl
def ain{R:Type}(C:Callee)(fl k:Nat)(kx:ah R)(kr:ah R):bD R:=fun aI aJ aL bZ bY h=>bJ h [vi aI,vi aJ,vs aL,vi bZ,vs bY] fun b1 h2=>aF .i64 h2 b1 0 fun n3=>aF .i64 h2 b1 1 fun n4=>aT h2 b1 2 fun s5=>aF .i64 h2 b1 3 fun n6=>aT h2 b1 4 fun s7=>aj C fl fn.pV [.agg ⟨[vi n3,vi n4,vs s5,vi n6,vs s7]⟩] h2 fun v8 h9=>asInt .i64 v8 fun mb=>if (mb==0)=true then aF .i64 h9 b1 3 fun xA=>if decide (xA>16)=true then kr 8 h9 else kx mb h9 else kx mb h9
def aCe(kr:ah R):bD R:=ain C fl k (aim C fl k kr) kr
theorem aH1(cn:aa):(cp aua (ce C fl k (at9 cn) K))=ain C fl k (cp at8 (ce C fl k cn K)) (cp ail (K .ret)):=by kernel_rfl
theorem aH2:(cp aua (ce C fl k aCd K))=aCe C fl k (cp ail (K .ret)):=(aH1 C fl k K acs).trans (ag (fun L0=>ain C fl k L0 _) (ayb C fl k K))
def mX(aw ax:Int)(ay:Sl)(bk:Int)(bj:Sl)(h:AH):Option (Value×AH):=aCe C fl k (fun y2 q=>some (vi y2,q)) aw ax ay bk bj h
theorem UG(aw ax:Int)(ay:Sl)(bk:Int)(bj:Sl)(h):aV C fl k ra [.agg ⟨[vi aw,vi ax,vs ay,vi bk,vs bj]⟩] h=mX C fl k aw ax ay bk bj h:=oY (aH2 C fl k (aG _)) aw ax ay bk bj (by kernel_rfl) (by kernel_rfl)
def ku(t4:Sl):List Value:=un 4 (t4.v::un 31 [])
def Nt:aa:=.seq (.region [oI 4 (.mv (.c (.slice none 0 0)))] []) (.ret)
def Fg:List Value:=un 36 []
abbrev bW(R:Type):=Int→Addr→Int→AH→Option R
def eV(t1:Int)(t2:Addr)(t5:Int):List Value:=un 1 (vi t1::vp t2::un 2 (vi t5::un 30 []))
def re:aa:=.region [m 12 5,bc 13 .add 12 1,m 5 13] [12,13]
abbrev Rg(R:Type):=Int→Addr→Int→Sl→Int→AH→Option R
def Rh(t1:Int)(t2:Addr)(t5:Int)(t6:Sl)(t7:Int):List Value:=un 1 (vi t1::vp t2::un 2 (vi t5::t6.v::vi t7::un 28 []))
def pd:aa:=.seq (.region [m 18 7,m 19 6,ln 20 19,cm 21 .lss 18 20] [18,19,20]) (.seq (.cond (.t 21) (kl [21]) (.seq (kl [6,7,21]) (.exit 2))) (.seq (.block 3 (.seq (.region [oJ 24 (.load (.agg [.int .i64,.int .i64,.slice,.int .i64,.slice]) (.t 2)),m 25 6,m 26 7,ia 27 1 25 26,lt 28 27,oI 29 (.call (.f 46) [.t 24,.t 28] (.one (.one (.int .i64)))),m 30 1,cm 31 .geq 29 30] [24,25,26,27,28,29,30]) (.cond (.t 31) (.seq (.region [m 32 6,m 33 7,ia 34 1 32 33,ls 35 34,m 4 35] [1,2,5,6,7,31,32,33,34,35]) (.ret)) (kl [31])))) (.region [m 22 7,bc 23 .add 22 1,m 7 23] [22,23])))
def tS:aa:=.block 2 (.loop pd)
def GZ(cn:aa):aa:=.seq (.seq (.region [fa 14 3 2,li 15 14,m 16 5,oI 17 (.call (.f 45) [ci 0,.t 15,.t 16] (.one (.one .slice))),m 6 17] [14,15,16,17]) (.region [mc 7 0] [])) cn
def Ag:aa:=GZ tS
def Ml(cn fJ:aa):aa:=.seq (.block 1 fJ) cn
def Fh:aa:=Ml re Ag
def Wv(cn:aa):aa:=.seq (.seq (.region [m 8 5,fa 9 3 2,li 10 9,cm 11 .leq 8 10] [8,9,10]) (.cond (.t 11) (kl [11]) (.seq (kl [1,2,5,11]) (.exit 0)))) cn
def Nu:aa:=Wv Fh
def acu:aa:=.seq (.block 0 (.loop Nu)) Nt
def aub(cn:aa):aa:=.seq (.seq (.region [oI 2 (.box (.t 0)),oI 4 (.mv (.c (.slice none 0 0)))] [0,4]) (.region [mc 5 0] [])) cn
def aCf:aa:=aub acu
def auc(aI aJ:Int)(aL:Sl)(bZ:Int)(bY:Sl)(t1:Int):List Value:=.agg ⟨[vi aI,vi aJ,vs aL,vi bZ,vs bY]⟩::vi t1::un 34 []
def vM:aK:=⟨36,aCf,[.tmp 4]⟩
theorem acv:okF Tryz.prog 42 vM=true:=by kernel_rfl
def Kh{R:Type}(C:Callee)(fl k:Nat)(kr:ab R):au R:=fun h=>kr ⟨none,0,0⟩ h
theorem ama:(cp Fg (ce C fl k Nt K))=Kh C fl k (cp ku (K .ret)):=by kernel_rfl
def lk{R:Type}(C:Callee)(fl k:Nat)(kn:bW R)(e0:au R)(kr:ab R):bW R:=fun t1 t2 t5 h=>kn t1 t2 (av (t5+1)) h
theorem G0:(cp eV (ce C fl k re K))=lk C fl k (cp eV (K .normal)) (cp Fg (K (.exit 0))) (cp ku (K .ret)):=by kernel_rfl
def dH{R:Type}(C:Callee)(fl k:Nat)(kn:Rg R)(e2:bW R)(kr:ab R):Rg R:=fun t1 t2 t5 t6 t7 h=>if decide (t7<((t6.l:Nat):Int))=true then aF .i64 h t2.block t2.off fun n1=>aF .i64 h t2.block (t2.off+1) fun n2=>aT h t2.block (t2.off+1+1) fun s3=>aF .i64 h t2.block (t2.off+1+1+1) fun n4=>aT h t2.block (t2.off+1+1+1+1) fun s5=>idx 1 t6 t7 fun p6=>aT h p6.block p6.off fun s7=>aj C fl fn.zG [.agg ⟨[vi n1,vi n2,vs s3,vi n4,vs s5]⟩,vs s7] h fun v8 h9=>asInt .i64 v8 fun mb=>if decide (mb≥t1)=true then idx 1 t6 t7 fun TS=>aT h9 TS.block TS.off fun T8=>kr T8 h9 else kn t1 t2 t5 t6 (av (t7+1)) h9 else e2 t1 t2 t5 h
theorem Lp:(cp Rh (ce C fl k pd K))=dH C fl k (cp Rh (K .normal)) (cp eV (K (.exit 2))) (cp ku (K .ret)):=by kernel_rfl
def cS(kn:bW R)(kr:ab R):Nat→Rg R
 |0=>fun _ _ _ _ _ _=>none
 |m+1=>dH C fl k (cS kn kr m) kn kr
theorem x9:∀m,(cp Rh (aQ m (aW C fl k pd 2 K)))=cS C fl k (cp eV (K .normal)) (cp ku (K .ret)) m
 |0=>by kernel_rfl
 |m+1=>gu (Lp C fl k _) (ag (fun L=>dH C fl k L _ _) (x9 m))
def xE(kn:bW R)(kr:ab R):Rg R:=cS C fl k kn kr k
theorem Ri:(cp Rh (ce C fl k tS K))=xE C fl k (cp eV (K .normal)) (cp ku (K .ret)):=gv (x9 C fl k K)
def rh{R:Type}(C:Callee)(fl k:Nat)(kx:Rg R)(kn:bW R)(kr:ab R):bW R:=fun t1 t2 t5 h=>aF .i64 h t2.block (t2.off+3) fun BL=>aj C fl fn.ik [vi 0,vi BL,vi t5] h fun v14 nX=>aX v14 fun TR=>kx t1 t2 t5 TR 0 nX
def vN(kn:bW R)(kr:ab R):bW R:=rh C fl k (xE C fl k kn kr) kn kr
theorem YY(cn:aa):(cp eV (ce C fl k (GZ cn) K))=rh C fl k (cp Rh (ce C fl k cn K)) (cp eV (K .normal)) (cp ku (K .ret)):=by kernel_rfl
theorem YZ:(cp eV (ce C fl k Ag K))=vN C fl k (cp eV (K .normal)) (cp ku (K .ret)):=(YY C fl k K tS).trans (ag (fun L0=>rh C fl k L0 _ _) (Ri C fl k K))
def yU{R:Type}(C:Callee)(fl k:Nat)(kx:bW R)(u0:bW R)(kn:bW R)(e0:au R)(kr:ab R):bW R:=fun t1 t2 t5 h=>u0 t1 t2 t5 h
def I2(kn:bW R)(e0:au R)(kr:ab R):bW R:=yU C fl k (lk C fl k kn e0 kr) (vN C fl k (lk C fl k kn e0 kr) kr) kn e0 kr
theorem aeR(cn fJ:aa):(cp eV (ce C fl k (Ml cn fJ) K))=yU C fl k (cp eV (ce C fl k cn K)) (cp eV (ce C fl k fJ (iK 1 (bw C fl k cn K)))) (cp eV (K .normal)) (cp Fg (K (.exit 0))) (cp ku (K .ret)):=by kernel_rfl
theorem aeS:(cp eV (ce C fl k Fh K))=I2 C fl k (cp eV (K .normal)) (cp Fg (K (.exit 0))) (cp ku (K .ret)):=(aeR C fl k K re Ag).trans (gG (fun L0 L1=>yU C fl k L0 L1 _ _ _) (G0 C fl k K) ((YZ C fl k (iK 1 (bw C fl k re K))).trans (ag (fun L0=>vN C fl k L0 _) (bn1 (G0 C fl k K)))))
def Ah{R:Type}(C:Callee)(fl k:Nat)(kx:bW R)(kn:bW R)(e0:au R)(kr:ab R):bW R:=fun t1 t2 t5 h=>aF .i64 h t2.block (t2.off+3) fun Qh=>if decide (t5≤Qh)=true then kx t1 t2 t5 h else e0 h
def nm(kn:bW R)(e0:au R)(kr:ab R):bW R:=Ah C fl k (I2 C fl k kn e0 kr) kn e0 kr
theorem amb(cn:aa):(cp eV (ce C fl k (Wv cn) K))=Ah C fl k (cp eV (ce C fl k cn K)) (cp eV (K .normal)) (cp Fg (K (.exit 0))) (cp ku (K .ret)):=by kernel_rfl
theorem amc:(cp eV (ce C fl k Nu K))=nm C fl k (cp eV (K .normal)) (cp Fg (K (.exit 0))) (cp ku (K .ret)):=(amb C fl k K Fh).trans (ag (fun L0=>Ah C fl k L0 _ _ _) (aeS C fl k K))
def gx(kn:au R)(kr:ab R):Nat→bW R
 |0=>fun _ _ _ _=>none
 |m+1=>nm C fl k (gx kn kr m) kn kr
theorem Ww:∀m,(cp eV (aQ m (aW C fl k Nu 0 K)))=gx C fl k (cp Fg (K .normal)) (cp ku (K .ret)) m
 |0=>by kernel_rfl
 |m+1=>gu (amc C fl k _) (ag (fun L=>nm C fl k L _ _) (Ww m))
def aio(kr:ab R):bW R:=gx C fl k (Kh C fl k kr) kr k
theorem ayc:(cp eV (ce C fl k acu K))=aio C fl k (cp ku (K .ret)):=(iP (gv (Ww C fl k (bw C fl k Nt K)))).trans (ag (fun L=>gx C fl k L _ k) (iL (ama C fl k K)))
def aip{R:Type}(C:Callee)(fl k:Nat)(kx:bW R)(kr:ab R):gS R:=fun aI aJ aL bZ bY t1 h=>bJ h [vi aI,vi aJ,vs aL,vi bZ,vs bY] fun b18 Mf=>kx t1 ⟨b18,0,none⟩ 0 Mf
def aCg(kr:ab R):gS R:=aip C fl k (aio C fl k kr) kr
theorem aH3(cn:aa):(cp auc (ce C fl k (aub cn) K))=aip C fl k (cp eV (ce C fl k cn K)) (cp ku (K .ret)):=by kernel_rfl
theorem aH4:(cp auc (ce C fl k aCf K))=aCg C fl k (cp ku (K .ret)):=(aH3 C fl k K acu).trans (ag (fun L0=>aip C fl k L0 _) (ayc C fl k K))
def pW(aw ax:Int)(ay:Sl)(bk:Int)(bj:Sl)(p1:Int)(h:AH):Option (Value×AH):=aCg C fl k (fun y4 q=>some (vs y4,q)) aw ax ay bk bj p1 h
theorem Y0(aw ax:Int)(ay:Sl)(bk:Int)(bj:Sl)(p1:Int)(h):aV C fl k vM [.agg ⟨[vi aw,vi ax,vs ay,vi bk,vs bj]⟩,vi p1] h=pW C fl k aw ax ay bk bj p1 h:=Uq (aH4 C fl k (aG _)) aw ax ay bk bj p1 (by kernel_rfl) (by kernel_rfl)
def aH5(t2:Sl)(t3:Int):List Value:=un 2 (t2.v::vi t3::un 32 [])
def aCh:aa:=.seq (.region [oI 1 (.box (.t 0)),oI 2 (.mv (.c (.slice none 0 0))),mc 3 0] [0,2,3]) (.seq (.region [oI 9 (.load (.agg [.int .i64,.int .i64,.slice,.int .i64,.slice]) (.t 1)),oI 10 (.call (.f 47) [.t 9] (.one (.one (.int .i64)))),m 4 10] [9,10]) (.seq (.region [m 11 4,ck 12 .neq 11 0] [11]) (.seq (.cond (.t 12) (.seq (.region [m 13 4,oI 2 (.mv (.c (.slice none 0 0))),m 3 13] [1,4,12,13]) (.ret)) (kl [4,12])) (.seq (.region [fa 14 3 1,li 15 14,ck 16 .gtr 15 16] [14,15]) (.seq (.cond (.t 16) (.seq (.region [oI 2 (.mv (.c (.slice none 0 0))),mc 3 8] [1,16]) (.ret)) (kl [16])) (.seq (.region [fa 18 0 1,oI 19 (.load (.agg [.int .i64,.int .i64,.slice]) (.t 18)),oI 20 (.call (.f 75) [.t 19] (.ke [.one .l0,.one (.int .i64)])),m 17 20,ex 21 17 0,ex 22 17 1,oI 5 (.alloc [.pointer none]),sI 1 5 21,m 6 22] [17,18,19,20,21,22]) (.seq (.region [m 23 6,ck 24 .neq 23 0] [23]) (.seq (.cond (.t 24) (.seq (.region [m 25 6,oI 2 (.mv (.c (.slice none 0 0))),m 3 25] [1,5,6,24,25]) (.ret)) (kl [6,24])) (.seq (.region [fa 26 3 1,li 27 26,oI 28 (.sh true .i64 .i64 (ci 1) (.t 27)),oI 29 (.dj 8 [.int .i64 0] (.t 28) (.t 28)),oI 7 (.alloc [.slice none 0 0]),sI 1 7 29] [26,27,28,29]) (.seq (.region [oI 8 (.alloc [.nilFunc])] []) (.seq (.region [oI 30 (.Da 76 [] [.t 1,.t 7,.t 8,.t 5]),sI 1 8 30] [5,30]) (.seq (.region [oI 31 (.load (.one .any) (.t 8)),fa 32 4 1,ls 33 32,oI 34 (.call (.t 31) [.t 33,ci 0,ci 0] (.ke []))] [1,8,31,32,33,34]) (.seq (.region [ls 35 7,m 2 35,mc 3 0] [7,35]) (.ret))))))))))))))
def aH6(aI aJ:Int)(aL:Sl)(bZ:Int)(bY:Sl):List Value:=.agg ⟨[vi aI,vi aJ,vs aL,vi bZ,vs bY]⟩::un 35 []
def np:aK:=⟨36,aCh,[.tmp 2,.tmp 3]⟩
theorem Rj:okF Tryz.prog 43 np=true:=by kernel_rfl
def agS{R:Type}(C:Callee)(fl k:Nat)(kr:aO R):bD R:=fun aI aJ aL bZ bY h=>bJ h [vi aI,vi aJ,vs aL,vi bZ,vs bY] fun b1 h2=>aF .i64 h2 b1 0 fun n3=>aF .i64 h2 b1 1 fun n4=>aT h2 b1 2 fun s5=>aF .i64 h2 b1 3 fun n6=>aT h2 b1 4 fun s7=>aj C fl fn.ep [.agg ⟨[vi n3,vi n4,vs s5,vi n6,vs s7]⟩] h2 fun v8 h9=>asInt .i64 v8 fun mb=>if (mb !=0)=true then kr ⟨none,0,0⟩ mb h9 else aF .i64 h9 b1 3 fun xA=>if decide (xA>16)=true then kr ⟨none,0,0⟩ 8 h9 else aF .i64 h9 b1 0 fun Bu=>aF .i64 h9 b1 1 fun BL=>aT h9 b1 2 fun TT=>aj C fl fn.fB [.agg ⟨[vi Bu,vi BL,vs TT]⟩] h9 fun v15 GN=>aE v15 fun l17=>ar l17 fun v18 l19=>ek v18 fun p20=>ar l19 fun v21 l22=>asInt .i64 v21 fun n23=>aM l22 (bJ GN [.pointer none] fun b24 h25=>st fl h25 ⟨b24,0,none⟩ [.pointer p20] fun h26=>if (n23 !=0)=true then kr ⟨none,0,0⟩ n23 h26 else aF .i64 h26 b1 3 fun n27=>shQ true .i64 1 n27 fun n28=>qF 8 [.int .i64 0] n28 n28 h26 fun s29 h30=>bJ h30 [.slice none 0 0] fun b31 Qp=>st fl Qp ⟨b31,0,none⟩ [vs s29] fun h33=>bJ h33 [.nilFunc] fun b34 h35=>st fl h35 ⟨b34,0,none⟩ [.func (.func fn.bm) ⟨[]⟩ ⟨[.pointer (some ⟨b1,0,none⟩),.pointer (some ⟨b31,0,none⟩),.pointer (some ⟨b34,0,none⟩),.pointer (some ⟨b24,0,none⟩)]⟩] fun Qj=>ldV Qj b34 0 fun v37=>aT Qj b1 4 fun s38=>mh C fl v37 [vs s38,vi 0,vi 0] Qj fun v39 h40=>aE v39 fun l41=>aM l41 (aT h40 b31 0 fun s42=>kr s42 0 h40))
theorem aH7:(cp aH6 (ce C fl k aCh K))=agS C fl k (cp aH5 (K .ret)):=by kernel_rfl
def gj(aw ax:Int)(ay:Sl)(bk:Int)(bj:Sl)(h:AH):Option (Value×AH):=agS C fl k (fun y2 y3 q=>some (.tuple ⟨[vs y2,vi y3]⟩,q)) aw ax ay bk bj h
theorem Ai(aw ax:Int)(ay:Sl)(bk:Int)(bj:Sl)(h):aV C fl k np [.agg ⟨[vi aw,vi ax,vs ay,vi bk,vs bj]⟩] h=gj C fl k aw ax ay bk bj h:=oY (aH7 C fl k (aG _)) aw ax ay bk bj (by kernel_rfl) (by kernel_rfl)
def aaD(t2:Sl):List Value:=un 2 (t2.v::un 18 [])
def Nv:aa:=.seq (.region [m 20 3,m 2 20] [3,20]) (.ret)
def Rk(t3:Sl):List Value:=un 3 (t3.v::un 17 [])
abbrev nq(R:Type):=Int→Sl→Int→AH→Option R
def vO(t0:Int)(t3:Sl)(t4:Int):List Value:=vi t0::un 2 (t3.v::vi t4::un 16 [])
def Fi:aa:=.region [m 9 4,bc 10 .add 9 1,m 4 10] [9,10]
def Wx(cn:aa):aa:=.seq (.seq (.region [m 5 0,m 6 4,oI 7 (.sh false .i64 .i64 (.t 5) (.t 6)),ck 8 .gtr 7 0] [5,6,7]) (.seq (.cond (.t 8) (kl [8]) (.seq (kl [0,4,8]) (.exit 0))) (.block 1 (.seq (.region [m 11 0,m 12 4,oI 13 (.sh false .i64 .i64 (.t 11) (.t 12)),bc 14 .and 13 1,ck 15 .eql 14 1] [11,12,13,14]) (.cond (.t 15) (.region [m 16 3,m 17 4,oI 18 (.bq 1 [.int .i64 0] [(0,1,.t 17)]),oI 19 (.append 1 8 (.t 16) (.t 18)),m 3 19] [15,16,17,18,19]) (kl [15])))))) cn
def Nw:aa:=Wx Fi
def acw:aa:=.seq (.block 0 (.loop Nw)) Nv
def aud(cn:aa):aa:=.seq (.seq (.region [oI 2 (.mv (.c (.slice none 0 0)))] [2]) (.seq (.region [oI 3 (.mv (.c (.slice none 0 0)))] []) (.region [mc 4 0] []))) cn
def aCi:aa:=aud acw
def aue(t0:Int):List Value:=vi t0::un 20 []
def nr:aK:=⟨21,aCi,[.tmp 2]⟩
theorem Rl:okF Tryz.prog 44 nr=true:=by kernel_rfl
def UH{R:Type}(C:Callee)(fl k:Nat)(kr:ab R):ab R:=fun t3 h=>kr t3 h
theorem amd:(cp Rk (ce C fl k Nv K))=UH C fl k (cp aaD (K .ret)):=by kernel_rfl
def xq{R:Type}(C:Callee)(fl k:Nat)(kn:nq R)(e0:ab R):nq R:=fun t0 t3 t4 h=>kn t0 t3 (av (t4+1)) h
theorem aeT:(cp vO (ce C fl k Fi K))=xq C fl k (cp vO (K .normal)) (cp Rk (K (.exit 0))):=by kernel_rfl
def Aj{R:Type}(C:Callee)(fl k:Nat)(kx:nq R)(kn:nq R)(e0:ab R):nq R:=fun t0 t3 t4 h=>shQ false .i64 t0 t4 fun n1=>if decide (n1>0)=true then shQ false .i64 t0 t4 fun n2=>j6 .and .i64 n2 1 fun n3=>if (n3==1)=true then bJ h [vi t4] fun b4 h5=>dn fl 1 8 t3 ⟨(some ⟨b4,0,none⟩),1,1⟩ h5 fun s6 h7=>kx t0 s6 t4 h7 else kx t0 t3 t4 h else e0 t3 h
def tT(kn:nq R)(e0:ab R):nq R:=Aj C fl k (xq C fl k kn e0) kn e0
theorem ame(cn:aa):(cp vO (ce C fl k (Wx cn) K))=Aj C fl k (cp vO (ce C fl k cn K)) (cp vO (K .normal)) (cp Rk (K (.exit 0))):=by kernel_rfl
theorem amf:(cp vO (ce C fl k Nw K))=tT C fl k (cp vO (K .normal)) (cp Rk (K (.exit 0))):=(ame C fl k K Fi).trans (ag (fun L0=>Aj C fl k L0 _ _) (aeT C fl k K))
def qh(kn:ab R):Nat→nq R
 |0=>fun _ _ _ _=>none
 |m+1=>tT C fl k (qh kn m) kn
theorem Wy:∀m,(cp vO (aQ m (aW C fl k Nw 0 K)))=qh C fl k (cp Rk (K .normal)) m
 |0=>by kernel_rfl
 |m+1=>gu (amf C fl k _) (ag (fun L=>tT C fl k L _) (Wy m))
def aiq(kr:ab R):nq R:=qh C fl k (UH C fl k kr) k
theorem ayd:(cp vO (ce C fl k acw K))=aiq C fl k (cp aaD (K .ret)):=(iP (gv (Wy C fl k (bw C fl k Nv K)))).trans (ag (fun L=>qh C fl k L k) (iL (amd C fl k K)))
def air{R:Type}(C:Callee)(fl k:Nat)(kx:nq R)(kr:ab R):ah R:=fun t0 h=>kx t0 ⟨none,0,0⟩ 0 h
def aCj(kr:ab R):ah R:=air C fl k (aiq C fl k kr) kr
theorem aH8(cn:aa):(cp aue (ce C fl k (aud cn) K))=air C fl k (cp vO (ce C fl k cn K)) (cp aaD (K .ret)):=by kernel_rfl
theorem aH9:(cp aue (ce C fl k aCi K))=aCj C fl k (cp aaD (K .ret)):=(aH8 C fl k K acw).trans (ag (fun L0=>air C fl k L0 _) (ayd C fl k K))
def ij(p0:Int)(h:AH):Option (Value×AH):=aCj C fl k (fun y2 q=>some (vs y2,q)) p0 h
theorem Ak(p0:Int)(h):aV C fl k nr [vi p0] h=ij C fl k p0 h:=IU (aH9 C fl k (aG _)) p0 (by kernel_rfl) (by kernel_rfl)
def aaE(t6:Sl):List Value:=un 6 (t6.v::un 36 [])
def Nx:aa:=.seq (.region [m 42 7,m 6 42] [7,42]) (.ret)
def Fj(t7:Sl):List Value:=un 7 (t7.v::un 35 [])
abbrev cu(R:Type):=Int→Int→Sl→Int→AH→Option R
def eW(t1 t2:Int)(t7:Sl)(t8:Int):List Value:=un 1 (vi t1::vi t2::un 4 (t7.v::vi t8::un 34 []))
def rj:aa:=.region [m 18 8,bc 19 .add 18 1,m 8 19] [18,19]
def Rm(t1 t2:Int)(t7:Sl)(t8:Int)(t9:Sl)(t10:Int):List Value:=un 1 (vi t1::vi t2::un 4 (t7.v::vi t8::t9.v::vi t10::un 32 []))
def pe:aa:=.seq (.region [m 26 10,m 27 9,ln 28 27,cm 29 .lss 26 28] [26,27,28]) (.seq (.cond (.t 29) (kl [29]) (.seq (kl [9,10,29]) (.exit 2))) (.seq (.block 3 (.region [m 32 7,m 33 8,oI 34 (.bq 1 [.int .i64 0] [(0,1,.t 33)]),m 35 9,m 36 10,ia 37 1 35 36,ls 38 37,oI 39 (.append 1 8 (.t 34) (.t 38)),oI 40 (.bq 1 [.slice none 0 0] [(0,1,.t 39)]),oI 41 (.append 1 24 (.t 32) (.t 40)),m 7 41] [32,33,34,35,36,37,38,39,40,41])) (.region [m 30 10,bc 31 .add 30 1,m 10 31] [30,31])))
def tU:aa:=.block 2 (.loop pe)
def G1(cn:aa):aa:=.seq (.seq (.region [m 20 8,bc 21 .add 20 1,m 22 1,m 23 2,bc 24 .sub 23 1,oI 25 (.call (.f 45) [.t 21,.t 22,.t 24] (.one (.one .slice))),m 9 25] [20,21,22,23,24,25]) (.region [mc 10 0] [])) cn
def Al:aa:=G1 tU
def Mm(cn fJ:aa):aa:=.seq (.block 1 fJ) cn
def Fk:aa:=Mm rj Al
def Wz(cn:aa):aa:=.seq (.seq (.region [m 15 8,m 16 1,cm 17 .lss 15 16] [15,16]) (.cond (.t 17) (kl [17]) (.seq (kl [1,2,8,17]) (.exit 0)))) cn
def Ny:aa:=Wz Fk
def acx:aa:=.seq (.block 0 (.loop Ny)) Nx
def auf(cn:aa):aa:=.seq (.seq (.region [oI 6 (.mv (.c (.slice none 0 0)))] [6]) (.seq (.region [m 11 2,ck 12 .eql 11 0] [11]) (.seq (.cond (.t 12) (.seq (.region [oI 13 (.bq 1 [.slice none 0 0] [(0,1,.c (.slice none 0 0))]),m 6 13] [0,1,2,12,13]) (.ret)) (kl [12])) (.seq (.region [oI 7 (.mv (.c (.slice none 0 0)))] []) (.region [m 14 0,m 8 14] [0,14]))))) cn
def aCk:aa:=auf acx
abbrev BX(R:Type):=Int→Int→Int→AH→Option R
def aug(t0 t1 t2:Int):List Value:=vi t0::vi t1::vi t2::un 40 []
def yV:aK:=⟨43,aCk,[.tmp 6]⟩
theorem aeU:okF Tryz.prog 45 yV=true:=by kernel_rfl
def UI{R:Type}(C:Callee)(fl k:Nat)(kr:ab R):ab R:=fun t7 h=>kr t7 h
theorem amg:(cp Fj (ce C fl k Nx K))=UI C fl k (cp aaE (K .ret)):=by kernel_rfl
def oi{R:Type}(C:Callee)(fl k:Nat)(kn:cu R)(e0:ab R):cu R:=fun t1 t2 t7 t8 h=>kn t1 t2 t7 (av (t8+1)) h
theorem G2:(cp eW (ce C fl k rj K))=oi C fl k (cp eW (K .normal)) (cp Fj (K (.exit 0))):=by kernel_rfl
def eX{R:Type}(C:Callee)(fl k:Nat)(kn:gS R)(e2:cu R):gS R:=fun t1 t2 t7 t8 t9 t10 h=>if decide (t10<((t9.l:Nat):Int))=true then bJ h [vi t8] fun b1 h2=>idx 1 t9 t10 fun p3=>aT h2 p3.block p3.off fun s4=>dn fl 1 8 ⟨(some ⟨b1,0,none⟩),1,1⟩ s4 h2 fun s5 h6=>bJ h6 [vs s5] fun b7 h8=>dn fl 1 24 t7 ⟨(some ⟨b7,0,none⟩),1,1⟩ h8 fun s9 sU=>kn t1 t2 s9 t8 t9 (av (t10+1)) sU else e2 t1 t2 t7 t8 h
theorem Lq:(cp Rm (ce C fl k pe K))=eX C fl k (cp Rm (K .normal)) (cp eW (K (.exit 2))):=by kernel_rfl
def dJ(kn:cu R):Nat→gS R
 |0=>fun _ _ _ _ _ _ _=>none
 |m+1=>eX C fl k (dJ kn m) kn
theorem ya:∀m,(cp Rm (aQ m (aW C fl k pe 2 K)))=dJ C fl k (cp eW (K .normal)) m
 |0=>by kernel_rfl
 |m+1=>gu (Lq C fl k _) (ag (fun L=>eX C fl k L _) (ya m))
def xF(kn:cu R):gS R:=dJ C fl k kn k
theorem Rn:(cp Rm (ce C fl k tU K))=xF C fl k (cp eW (K .normal)):=gv (ya C fl k K)
def rl{R:Type}(C:Callee)(fl k:Nat)(kx:gS R)(kn:cu R):cu R:=fun t1 t2 t7 t8 h=>aj C fl fn.ik [vi (av (t8+1)),vi t1,vi (av (t2-1))] h fun v11 zN=>aX v11 fun VZ=>kx t1 t2 t7 t8 VZ 0 zN
def vP(kn:cu R):cu R:=rl C fl k (xF C fl k kn) kn
theorem Y1(cn:aa):(cp eW (ce C fl k (G1 cn) K))=rl C fl k (cp Rm (ce C fl k cn K)) (cp eW (K .normal)):=by kernel_rfl
theorem Y2:(cp eW (ce C fl k Al K))=vP C fl k (cp eW (K .normal)):=(Y1 C fl k K tU).trans (ag (fun L0=>rl C fl k L0 _) (Rn C fl k K))
def yW{R:Type}(C:Callee)(fl k:Nat)(kx:cu R)(u0:cu R)(kn:cu R)(e0:ab R):cu R:=fun t1 t2 t7 t8 h=>u0 t1 t2 t7 t8 h
def I3(kn:cu R)(e0:ab R):cu R:=yW C fl k (oi C fl k kn e0) (vP C fl k (oi C fl k kn e0)) kn e0
theorem aeV(cn fJ:aa):(cp eW (ce C fl k (Mm cn fJ) K))=yW C fl k (cp eW (ce C fl k cn K)) (cp eW (ce C fl k fJ (iK 1 (bw C fl k cn K)))) (cp eW (K .normal)) (cp Fj (K (.exit 0))):=by kernel_rfl
theorem aeW:(cp eW (ce C fl k Fk K))=I3 C fl k (cp eW (K .normal)) (cp Fj (K (.exit 0))):=(aeV C fl k K rj Al).trans (gG (fun L0 L1=>yW C fl k L0 L1 _ _) (G2 C fl k K) ((Y2 C fl k (iK 1 (bw C fl k rj K))).trans (ag (fun L0=>vP C fl k L0) (bn1 (G2 C fl k K)))))
def Am{R:Type}(C:Callee)(fl k:Nat)(kx:cu R)(kn:cu R)(e0:ab R):cu R:=fun t1 t2 t7 t8 h=>if decide (t8<t1)=true then kx t1 t2 t7 t8 h else e0 t7 h
def tV(kn:cu R)(e0:ab R):cu R:=Am C fl k (I3 C fl k kn e0) kn e0
theorem amh(cn:aa):(cp eW (ce C fl k (Wz cn) K))=Am C fl k (cp eW (ce C fl k cn K)) (cp eW (K .normal)) (cp Fj (K (.exit 0))):=by kernel_rfl
theorem ami:(cp eW (ce C fl k Ny K))=tV C fl k (cp eW (K .normal)) (cp Fj (K (.exit 0))):=(amh C fl k K Fk).trans (ag (fun L0=>Am C fl k L0 _ _) (aeW C fl k K))
def qi(kn:ab R):Nat→cu R
 |0=>fun _ _ _ _ _=>none
 |m+1=>tV C fl k (qi kn m) kn
theorem WA:∀m,(cp eW (aQ m (aW C fl k Ny 0 K)))=qi C fl k (cp Fj (K .normal)) m
 |0=>by kernel_rfl
 |m+1=>gu (ami C fl k _) (ag (fun L=>tV C fl k L _) (WA m))
def ais(kr:ab R):cu R:=qi C fl k (UI C fl k kr) k
theorem aye:(cp eW (ce C fl k acx K))=ais C fl k (cp aaE (K .ret)):=(iP (gv (WA C fl k (bw C fl k Nx K)))).trans (ag (fun L=>qi C fl k L k) (iL (amg C fl k K)))
def acy{R:Type}(C:Callee)(fl k:Nat)(kx:cu R)(kr:ab R):BX R:=fun t0 t1 t2 h=>if (t2==0)=true then bJ h [.slice none 0 0] fun GM nX=>kr ⟨(some ⟨GM,0,none⟩),1,1⟩ nX else kx t1 t2 ⟨none,0,0⟩ t0 h
def auh(kr:ab R):BX R:=acy C fl k (ais C fl k kr) kr
theorem aIa(cn:aa):(cp aug (ce C fl k (auf cn) K))=acy C fl k (cp eW (ce C fl k cn K)) (cp aaE (K .ret)):=by kernel_rfl
theorem aIb:(cp aug (ce C fl k aCk K))=auh C fl k (cp aaE (K .ret)):=(aIa C fl k K acx).trans (ag (fun L0=>acy C fl k L0 _) (aye C fl k K))
def ik(p0 p1 p2:Int)(h:AH):Option (Value×AH):=auh C fl k (fun y6 q=>some (vs y6,q)) p0 p1 p2 h
theorem I4(p0 p1 p2:Int)(h):aV C fl k yV [vi p0,vi p1,vi p2] h=ik C fl k p0 p1 p2 h:=tG (aIb C fl k (aG _)) p0 p1 p2 (by kernel_rfl) (by kernel_rfl)
def aIc(t4:Int):List Value:=un 4 (vi t4::un 13 [])
def aCl:aa:=.seq (.region [oI 2 (.box (.t 0)),mc 4 0] [0,4]) (.seq (.region [fa 5 4 2,lt 6 5,ln 7 6,fa 8 0 2,oJ 9 (.load (.agg [.int .i64,.int .i64,.slice]) (.t 8)),fa 10 4 2,lt 11 10,m 12 1,fa 13 3 2,lj 14 13,oJ 15 (.call (.f 55) [.t 12,.t 14] (.one (.one .slice))),oJ 16 (.call (.f 78) [.t 9,.t 11,.t 15] (.one (.one (.int .i64)))),bb 17 .sub 7 16,m 4 17] [1,2,5,6,7,8,9,10,11,12,13,14,15,16,17]) (.ret))
def aId(aI aJ:Int)(aL:Sl)(bZ:Int)(bY t1:Sl):List Value:=.agg ⟨[vi aI,vi aJ,vs aL,vi bZ,vs bY]⟩::t1.v::un 16 []
def BY:aK:=⟨18,aCl,[.tmp 4]⟩
theorem ait:okF Tryz.prog 46 BY=true:=by kernel_rfl
def aCm{R:Type}(C:Callee)(fl k:Nat)(kr:ah R):kq R:=fun aI aJ aL bZ bY t1 h=>bJ h [vi aI,vi aJ,vs aL,vi bZ,vs bY] fun b1 h2=>aT h2 b1 4 fun s3=>aF .i64 h2 b1 0 fun n4=>aF .i64 h2 b1 1 fun n5=>aT h2 b1 2 fun s6=>aT h2 b1 4 fun s7=>aF .i64 h2 b1 3 fun n8=>aj C h2.next fn.yO [vs t1,vi n8] h2 fun v9 sU=>aX v9 fun EG=>aj C sU.next fn.IT [.agg ⟨[vi n4,vi n5,vs s6]⟩,vs s7,vs EG] sU fun V3 qB=>asInt .i64 V3 fun Bv=>kr (av (((s3.l:Nat):Int)-Bv)) qB
theorem aIe:(cp aId (ce C fl k aCl K))=aCm C fl k (cp aIc (K .ret)):=by kernel_rfl
def zG(aw ax:Int)(ay:Sl)(bk:Int)(bj p1:Sl)(h:AH):Option (Value×AH):=aCm C fl k (fun y4 q=>some (vi y4,q)) aw ax ay bk bj p1 h
theorem aeX(aw ax:Int)(ay:Sl)(bk:Int)(bj p1:Sl)(h):aV C fl k BY [.agg ⟨[vi aw,vi ax,vs ay,vi bk,vs bj]⟩,vs p1] h=zG C fl k aw ax ay bk bj p1 h:=Uq (aIe C fl k (aG _)) aw ax ay bk bj p1 (by kernel_rfl) (by kernel_rfl)
def aIf(t2:Int):List Value:=un 2 (vi t2::un 16 [])
def aCn:aa:=.seq (.region [oI 1 (.box (.t 0)),mc 2 0] [0,2]) (.seq (.region [fa 4 0 1,oI 5 (.load (.agg [.int .i64,.int .i64,.slice]) (.t 4)),oI 6 (.call (.f 79) [.t 5] (.one (.one (.int .i64)))),ck 7 .neq 6 0] [4,5,6]) (.seq (.cond (.t 7) (.seq (.region [mc 2 1] [1,7]) (.ret)) (kl [7])) (.seq (.region [fa 8 3 1,li 9 8,oI 10 (.call (.f 74) [.t 9] (.one (.one (.int .i64)))),m 3 10] [8,9,10]) (.seq (.region [m 11 3,ck 12 .neq 11 0] [11]) (.seq (.cond (.t 12) (.seq (.region [m 13 3,m 2 13] [1,3,12,13]) (.ret)) (kl [3,12])) (.seq (.region [fa 14 0 1,oJ 15 (.load (.agg [.int .i64,.int .i64,.slice]) (.t 14)),oJ 16 (.load (.agg [.int .i64,.int .i64,.slice,.int .i64,.slice]) (.t 1)),oJ 17 (.call (.f 68) [.t 16] (.one (.agg [.int .i64,.slice]))),oI 18 (.call (.f 80) [.t 15,.t 17] (.one (.one (.int .i64)))),m 2 18] [1,14,15,16,17,18]) (.ret)))))))
def aIg(aI aJ:Int)(aL:Sl)(bZ:Int)(bY:Sl):List Value:=.agg ⟨[vi aI,vi aJ,vs aL,vi bZ,vs bY]⟩::un 18 []
def yX:aK:=⟨19,aCn,[.tmp 2]⟩
theorem aeY:okF Tryz.prog 47 yX=true:=by kernel_rfl
def amj{R:Type}(C:Callee)(fl k:Nat)(kr:ah R):bD R:=fun aI aJ aL bZ bY h=>bJ h [vi aI,vi aJ,vs aL,vi bZ,vs bY] fun b1 h2=>aF .i64 h2 b1 0 fun n3=>aF .i64 h2 b1 1 fun n4=>aT h2 b1 2 fun s5=>aj C fl fn.gY [.agg ⟨[vi n3,vi n4,vs s5]⟩] h2 fun v6 h7=>asInt .i64 v6 fun n8=>if (n8 !=0)=true then kr 1 h7 else aF .i64 h7 b1 3 fun n9=>aj C fl fn.mo [vi n9] h7 fun v10 iH=>asInt .i64 v10 fun Bu=>if (Bu !=0)=true then kr Bu iH else aF .i64 iH b1 0 fun BL=>aF .i64 iH b1 1 fun Bv=>aT iH b1 2 fun Ua=>aF .i64 iH b1 0 fun HT=>aF .i64 iH b1 1 fun Qh=>aT iH b1 2 fun s18=>aF .i64 iH b1 3 fun TX=>aT iH b1 4 fun YI=>aj C iH.next fn.Dr [.agg ⟨[vi HT,vi Qh,vs s18,vi TX,vs YI]⟩] iH fun v21 TY=>asAgg v21 fun l23=>ar l23 fun v24 l25=>asInt .i64 v24 fun EI=>ar l25 fun v27 l28=>aX v27 fun s29=>aM l28 (aj C fl fn.pX [.agg ⟨[vi BL,vi Bv,vs Ua]⟩,.agg ⟨[vi EI,vs s29]⟩] TY fun v30 h31=>asInt .i64 v30 fun n32=>kr n32 h31)
theorem aIh:(cp aIg (ce C fl k aCn K))=amj C fl k (cp aIf (K .ret)):=by kernel_rfl
def ep(aw ax:Int)(ay:Sl)(bk:Int)(bj:Sl)(h:AH):Option (Value×AH):=amj C fl k (fun y2 q=>some (vi y2,q)) aw ax ay bk bj h
theorem I5(aw ax:Int)(ay:Sl)(bk:Int)(bj:Sl)(h):aV C fl k yX [.agg ⟨[vi aw,vi ax,vs ay,vi bk,vs bj]⟩] h=ep C fl k aw ax ay bk bj h:=oY (aIh C fl k (aG _)) aw ax ay bk bj (by kernel_rfl) (by kernel_rfl)
def aaF(t4:Sl):List Value:=un 4 (t4.v::un 42 [])
def Nz:aa:=.seq (.region [m 46 5,m 4 46] [5,46]) (.ret)
def Ro(t5:Sl):List Value:=un 5 (t5.v::un 41 [])
abbrev vQ(R:Type):=Int→Sl→Bool→Sl→Int→Int→AH→Option R
def vR(t1:Int)(t5:Sl)(t6:Bool)(t10:Sl)(t11 t12:Int):List Value:=un 1 (vi t1::un 3 (t5.v::.bool t6::un 3 (t10.v::vi t11::vi t12::un 34 [])))
def Fl:aa:=.region [bc 45 .add 12 1,m 12 45] [45]
def WB(cn:aa):aa:=.seq (.seq (.region [cm 13 .lss 12 11] []) (.seq (.cond (.t 13) (kl [13]) (.seq (kl [1,6,10,11,12,13]) (.exit 0))) (.block 1 (.seq (.region [m 14 12,ia 15 1 10 12,li 16 15,m 7 14,m 8 16] [14,15,16]) (.seq (.seq (.region [m 17 8,m 18 1,cm 19 .lss 17 18] [8,17,18]) (.cond (.t 19) (.seq (kl [7,19]) (.exit 1)) (kl [19]))) (.seq (.region [m 20 7,oI 21 (.call (.f 44) [.t 20] (.one (.one .slice))),m 9 21] [7,20,21]) (.seq (.region [m 22 6,no 23 22,m 24 23,.gL 24 false [qI 25 (.mv (.t 9)),qI 26 (.len (.t 25)),qI 27 (.mv (.t 5)),qI 28 (.len (.t 27)),qI 29 (.cmp .lss .i64 (.t 26) (.t 28))],oI 30 (.pick (.t 24) (.c (.bool true)) (.t 29)),m 31 30,.gL 31 false [qI 32 (.mv (.t 9)),qI 33 (.len (.t 32)),qI 34 (.mv (.t 5)),qI 35 (.len (.t 34)),qI 36 (.cmp .eql .i64 (.t 33) (.t 35)),qI 37 (.mv (.t 36))],.gL 37 true [qI 38 (.mv (.t 9)),qI 39 (.mv (.t 5)),qI 40 (.call (.f 81) [.t 38,.t 39] (.one (.one (.int .i64)))),qI 41 (.cmp .lss .i64 (.t 40) (ci 0))],.gL 31 false [qI 42 (.pick (.t 37) (.t 41) (.c (.bool false)))],oI 43 (.pick (.t 31) (.c (.bool true)) (.t 42))] [22,23,24,25,26,27,28,29,30,31,32,33,34,35,36,37,38,39,40,41,42]) (.cond (.t 43) (.region [m 44 9,m 5 44,oI 6 (.mv (.c (.bool true)))] [9,43,44]) (kl [9,43]))))))))) cn
def NA:aa:=WB Fl
def acz:aa:=.seq (.block 0 (.loop NA)) Nz
def aui(cn:aa):aa:=.seq (.seq (.region [oI 4 (.mv (.c (.slice none 0 0)))] [4]) (.seq (.region [oI 5 (.mv (.c (.slice none 0 0)))] []) (.seq (.region [oI 6 (.mv (.c (.bool false)))] []) (.region [m 10 0,ln 11 10,mc 12 0] [0])))) cn
def aCo:aa:=aui acz
def auj(t0:Sl)(t1:Int):List Value:=t0.v::vi t1::un 45 []
def jT:aK:=⟨47,aCo,[.tmp 4]⟩
theorem I6:okF Tryz.prog 48 jT=true:=by kernel_rfl
def agT{R:Type}(C:Callee)(fl k:Nat)(kr:ab R):ab R:=fun t5 h=>kr t5 h
theorem amk:(cp Ro (ce C fl k Nz K))=agT C fl k (cp aaF (K .ret)):=by kernel_rfl
def WC{R:Type}(C:Callee)(fl k:Nat)(kn:vQ R)(e0:ab R):vQ R:=fun t1 t5 t6 t10 t11 t12 h=>kn t1 t5 t6 t10 t11 (av (t12+1)) h
theorem aeZ:(cp vR (ce C fl k Fl K))=WC C fl k (cp vR (K .normal)) (cp Ro (K (.exit 0))):=by kernel_rfl
def NB{R:Type}(C:Callee)(fl k:Nat)(kx:vQ R)(kn:vQ R)(e0:ab R):vQ R:=fun t1 t5 t6 t10 t11 t12 h=>if decide (t12<t11)=true then idx 1 t10 t12 fun p1=>aF .i64 h p1.block p1.off fun n2=>if decide (n2<t1)=true then kx t1 t5 t6 t10 t11 t12 h else aj C fl fn.ij [vi t12] h fun v3 h4=>aX v3 fun s5=>if (!t6)=false then if decide (((s5.l:Nat):Int)<((t5.l:Nat):Int))=false then if (((s5.l:Nat):Int)==((t5.l:Nat):Int))=true then aj C fl fn.ab6 [vs s5,vs t5] h4 fun v6 h7=>asInt .i64 v6 fun n8=>if decide (n8<0)=true then kx t1 s5 true t10 t11 t12 h7 else kx t1 t5 t6 t10 t11 t12 h7 else kx t1 t5 t6 t10 t11 t12 h4 else kx t1 s5 true t10 t11 t12 h4 else kx t1 s5 true t10 t11 t12 h4 else e0 t5 h
def UJ(kn:vQ R)(e0:ab R):vQ R:=NB C fl k (WC C fl k kn e0) kn e0
theorem aml(cn:aa):(cp vR (ce C fl k (WB cn) K))=NB C fl k (cp vR (ce C fl k cn K)) (cp vR (K .normal)) (cp Ro (K (.exit 0))):=by kernel_rfl
theorem amm:(cp vR (ce C fl k NA K))=UJ C fl k (cp vR (K .normal)) (cp Ro (K (.exit 0))):=(aml C fl k K Fl).trans (ag (fun L0=>NB C fl k L0 _ _) (aeZ C fl k K))
def Ki(kn:ab R):Nat→vQ R
 |0=>fun _ _ _ _ _ _ _=>none
 |m+1=>UJ C fl k (Ki kn m) kn
theorem WD:∀m,(cp vR (aQ m (aW C fl k NA 0 K)))=Ki C fl k (cp Ro (K .normal)) m
 |0=>by kernel_rfl
 |m+1=>gu (amm C fl k _) (ag (fun L=>UJ C fl k L _) (WD m))
def auk(kr:ab R):vQ R:=Ki C fl k (agT C fl k kr) k
theorem ayf:(cp vR (ce C fl k acz K))=auk C fl k (cp aaF (K .ret)):=(iP (gv (WD C fl k (bw C fl k Nz K)))).trans (ag (fun L=>Ki C fl k L k) (iL (amk C fl k K)))
def arA{R:Type}(C:Callee)(fl k:Nat)(kx:vQ R)(kr:ab R):aO R:=fun t0 t1 h=>kx t1 ⟨none,0,0⟩ false t0 ((t0.l:Nat):Int) 0 h
def aN8(kr:ab R):aO R:=arA C fl k (auk C fl k kr) kr
theorem aIi(cn:aa):(cp auj (ce C fl k (aui cn) K))=arA C fl k (cp vR (ce C fl k cn K)) (cp aaF (K .ret)):=by kernel_rfl
theorem aIj:(cp auj (ce C fl k aCo K))=aN8 C fl k (cp aaF (K .ret)):=(aIi C fl k K acz).trans (ag (fun L0=>arA C fl k L0 _) (ayf C fl k K))
def iY(p0:Sl)(p1:Int)(h:AH):Option (Value×AH):=aN8 C fl k (fun y4 q=>some (vs y4,q)) p0 p1 h
theorem H0(p0:Sl)(p1:Int)(h):aV C fl k jT [vs p0,vi p1] h=iY C fl k p0 p1 h:=tF (aIj C fl k (aG _)) p0 p1 (by kernel_rfl) (by kernel_rfl)
def rm(t6:Addr)(t7:Int):List Value:=un 6 (vp t6::vi t7::un 117 [])
def An:aa:=.seq (.region [oI 75 (.load (.agg [.int .i64,.int .i64,.slice]) (.t 3)),oI 76 (.load (.agg [.int .i64,.slice]) (.t 4)),m 77 12,oI 78 (.call (.f 83) [.t 75,.t 76,.t 77] (.ke [.agg [.int .i64,.slice],.one (.int .i64)])),m 74 78,ex 79 74 0,ex 80 74 1,oI 14 (.alloc [.int .i64 0,.slice none 0 0]),sI 2 14 79,m 15 80] [12,74,75,76,77,78,79,80]) (.seq (.region [m 81 15,ck 82 .neq 81 0] [81]) (.seq (.cond (.t 82) (.seq (.region [oI 83 (.build [.int .i64 0,.slice none 0 0] []),m 84 15,sI 2 6 83,m 7 84] [3,4,14,15,82,83,84]) (.ret)) (kl [15,82])) (.seq (.region [oI 86 (.load (.agg [.int .i64,.int .i64,.slice]) (.t 3)),oI 87 (.load (.agg [.int .i64,.slice]) (.t 14)),oI 88 (.call (.f 84) [.t 86,.t 87] (.ke [.agg [.int .i64,.slice],.one (.int .i64)])),m 85 88,ex 89 85 0,ex 90 85 1,sI 2 14 89] [85,86,87,88,89,90]) (.seq (.region [fa 91 1 4,ls 92 91,ln 93 92,fa 94 0 14,sI 1 94 93] [91,92,93,94]) (.seq (.region [oI 96 (.load (.agg [.int .i64,.int .i64,.slice]) (.t 3)),oI 97 (.load (.agg [.int .i64,.slice]) (.t 14)),oI 98 (.call (.f 67) [.t 96,.t 97] (.ke [.agg [.int .i64,.slice],.one (.int .i64)])),m 95 98,ex 99 95 0,ex 100 95 1,oI 16 (.alloc [.int .i64 0,.slice none 0 0]),sI 2 16 99,m 15 100] [14,95,96,97,98,99,100]) (.seq (.region [m 101 15,ck 102 .neq 101 0] [101]) (.seq (.cond (.t 102) (.seq (.region [oI 103 (.build [.int .i64 0,.slice none 0 0] []),m 104 15,sI 2 6 103,m 7 104] [3,4,15,16,102,103,104]) (.ret)) (kl [15,102])) (.seq (.region [oI 106 (.load (.agg [.int .i64,.int .i64,.slice]) (.t 3)),oI 107 (.load (.agg [.int .i64,.slice]) (.t 16)),oI 108 (.load (.agg [.int .i64,.slice]) (.t 4)),oI 109 (.call (.f 85) [.t 106,.t 107,.t 108] (.ke [.agg [.int .i64,.slice],.one (.int .i64)])),m 105 109,ex 110 105 0,ex 111 105 1,oI 17 (.alloc [.int .i64 0,.slice none 0 0]),sI 2 17 110,m 15 111] [4,16,105,106,107,108,109,110,111]) (.seq (.region [m 112 15,ck 113 .neq 112 0] [112]) (.seq (.cond (.t 113) (.seq (.region [oI 114 (.build [.int .i64 0,.slice none 0 0] []),m 115 15,sI 2 6 114,m 7 115] [3,15,17,113,114,115]) (.ret)) (kl [15,113])) (.seq (.region [oI 117 (.load (.agg [.int .i64,.int .i64,.slice]) (.t 3)),oI 118 (.load (.agg [.int .i64,.slice]) (.t 17)),oI 119 (.call (.f 73) [.t 117,.t 118] (.ke [.agg [.int .i64,.slice],.one .slice,.one (.int .i64)])),m 116 119,ex 120 116 0,ex 121 116 1,ex 122 116 2,oI 18 (.alloc [.int .i64 0,.slice none 0 0]),sI 2 18 120,m 19 121,m 15 122] [3,17,19,116,117,118,119,120,121,122]) (.seq (.region [oI 123 (.load (.agg [.int .i64,.slice]) (.t 18)),m 124 15,sI 2 6 123,m 7 124] [15,18,123,124]) (.ret)))))))))))))
abbrev Rp(R:Type):=Addr→Addr→Addr→Sl→AH→Option R
def Rq(t3 t4 t6:Addr)(t12:Sl):List Value:=un 3 (vp t3::vp t4::un 1 (vp t6::un 5 (t12.v::un 112 [])))
abbrev fU(R:Type):=Sl→Addr→Addr→Addr→Sl→Int→Int→AH→Option R
def vS(t2:Sl)(t3 t4 t6:Addr)(t12:Sl)(t61 t62:Int):List Value:=un 2 (t2.v::vp t3::vp t4::un 1 (vp t6::un 5 (t12.v::un 48 (vi t61::vi t62::un 62 []))))
def tW:aa:=.region [bc 73 .add 62 1,m 62 73] [73]
def G3(cn:aa):aa:=.seq (.seq (.region [cm 63 .lss 62 61] []) (.seq (.cond (.t 63) (kl [63]) (.seq (kl [2,61,62,63]) (.exit 2))) (.block 3 (.seq (.region [m 64 62,m 13 64] [64]) (.seq (.region [m 65 2,m 66 13,oI 67 (.call (.f 54) [.t 65,.t 66] (.one (.one .bool))),no 68 67] [65,66,67]) (.cond (.t 68) (.region [m 69 12,m 70 13,oI 71 (.bq 1 [.int .i64 0] [(0,1,.t 70)]),oI 72 (.append 1 8 (.t 69) (.t 71)),m 12 72] [13,68,69,70,71,72]) (kl [13,68]))))))) cn
def Ao:aa:=G3 tW
def Fm:aa:=.seq (.block 2 (.loop Ao)) An
def WE(cn:aa):aa:=.seq (.seq (.region [oI 12 (.mv (.c (.slice none 0 0)))] []) (.region [fa 60 0 4,li 61 60,mc 62 0] [60])) cn
def NC:aa:=WE Fm
abbrev BZ(R:Type):=Sl→Addr→Addr→Addr→AH→Option R
def Kj(t2:Sl)(t3 t4 t6:Addr):List Value:=un 2 (t2.v::vp t3::vp t4::un 1 (vp t6::un 118 []))
def vT(t2:Sl)(t3 t4 t6:Addr)(t30:Sl)(t31 t32:Int):List Value:=un 2 (t2.v::vp t3::vp t4::un 1 (vp t6::un 23 (t30.v::vi t31::vi t32::un 92 [])))
def Fo:aa:=.region [bc 59 .add 32 1,m 32 59] [59]
def WG(cn:aa):aa:=.seq (.seq (.region [cm 33 .lss 32 31] []) (.seq (.cond (.t 33) (kl [33]) (.seq (kl [30,31,32,33]) (.exit 0))) (.block 1 (.seq (.region [m 34 32,ia 35 1 30 32,li 36 35,m 10 34,m 11 36] [34,35,36]) (.seq (.region [m 37 11,ck 38 .lss 37 0,m 39 38,.gL 39 false [qI 40 (.mv (.t 11)),qI 41 (.cW 0 (.t 4)),qI 42 (.load (.one (.int .i64)) (.t 41)),qI 43 (.cmp .geq .i64 (.t 40) (.t 42))],oI 44 (.pick (.t 39) (.c (.bool true)) (.t 43)),m 45 44,.gL 45 false [qI 46 (.mv (.t 10)),qI 47 (.cmp .gtr .i64 (.t 46) (ci 0)),qI 48 (.mv (.t 47))],.gL 48 true [qI 49 (.mv (.t 11)),qI 50 (.mv (.t 2)),qI 51 (.mv (.t 10)),qI 52 (.bin .sub .i64 (.t 51) (ci 1)),qI 53 (.eE 1 (.t 50) (.t 52)),qI 54 (.load (.one (.int .i64)) (.t 53)),qI 55 (.cmp .leq .i64 (.t 49) (.t 54))],.gL 45 false [qI 56 (.pick (.t 48) (.t 55) (.c (.bool false)))],oI 57 (.pick (.t 45) (.c (.bool true)) (.t 56))] [10,11,37,38,39,40,41,42,43,44,45,46,47,48,49,50,51,52,53,54,55,56]) (.cond (.t 57) (.seq (.region [oI 58 (.build [.int .i64 0,.slice none 0 0] []),sI 2 6 58,mc 7 6] [2,3,4,30,31,32,57,58]) (.ret)) (kl [57]))))))) cn
def ND:aa:=WG Fo
def acA:aa:=.seq (.block 0 (.loop ND)) NC
def aul(cn:aa):aa:=.seq (.seq (.region [oI 3 (.box (.t 0)),oI 4 (.box (.t 1)),oI 6 (.alloc [.int .i64 0,.slice none 0 0]),mc 7 0] [0,1,7]) (.seq (.region [oI 21 (.load (.agg [.int .i64,.int .i64,.slice]) (.t 3)),oI 22 (.load (.agg [.int .i64,.slice]) (.t 4)),oI 23 (.call (.f 82) [.t 21,.t 22] (.ke [.agg [.l0,.int .i64,.slice,.slice],.one (.int .i64)])),m 20 23,ex 24 20 0,ex 25 20 1,oI 8 (.alloc [.pointer none,.int .i64 0,.slice none 0 0,.slice none 0 0]),sI 4 8 24,m 9 25] [8,20,21,22,23,24,25]) (.seq (.region [m 26 9,ck 27 .neq 26 0] [26]) (.seq (.cond (.t 27) (.seq (.region [oI 28 (.build [.int .i64 0,.slice none 0 0] []),m 29 9,sI 2 6 28,m 7 29] [2,3,4,9,27,28,29]) (.ret)) (kl [9,27])) (.region [m 30 2,ln 31 30,mc 32 0] []))))) cn
def aCp:aa:=aul acA
def aum(aI aJ:Int)(aL:Sl)(eu:Int)(fA t2:Sl):List Value:=.agg ⟨[vi aI,vi aJ,vs aL]⟩::.agg ⟨[vi eu,vs fA]⟩::t2.v::un 122 []
def lM:aK:=⟨125,aCp,[.cell 6 (.agg [.int .i64,.slice]),.tmp 7]⟩
theorem NF:okF Tryz.prog 49 lM=true:=by kernel_rfl
def Mn{R:Type}(C:Callee)(fl k:Nat)(kr:aY R):Rp R:=fun t3 t4 t6 t12 h=>aF .i64 h t3.block t3.off fun n1=>aF .i64 h t3.block (t3.off+1) fun n2=>aT h t3.block (t3.off+1+1) fun s3=>aF .i64 h t4.block t4.off fun n4=>aT h t4.block (t4.off+1) fun s5=>aj C fl fn.qP [.agg ⟨[vi n1,vi n2,vs s3]⟩,.agg ⟨[vi n4,vs s5]⟩,vs t12] h fun v6 h7=>aE v6 fun l8=>ar l8 fun v9 l10=>asAgg v9 fun l11=>ar l11 fun V3 l13=>asInt .i64 V3 fun Bv=>ar l13 fun v15 l16=>aX v15 fun s17=>aM l16 (ar l10 fun v18 l19=>asInt .i64 v18 fun n20=>aM l19 (bJ h7 [.int .i64 0,.slice none 0 0] fun b21 TY=>st fl TY ⟨b21,0,none⟩ [vi Bv,vs s17] fun YH=>if (n20 !=0)=true then st fl YH t6 [vi 0,.slice none 0 0] fun vt=>kr t6 n20 vt else aF .i64 YH t3.block t3.off fun HU=>aF .i64 YH t3.block (t3.off+1) fun EI=>aT YH t3.block (t3.off+1+1) fun s27=>aF .i64 YH b21 0 fun n28=>aT YH b21 1 fun s29=>aj C fl fn.mY [.agg ⟨[vi HU,vi EI,vs s27]⟩,.agg ⟨[vi n28,vs s29]⟩] YH fun v30 h31=>aE v30 fun l32=>ar l32 fun v33 l34=>asAgg v33 fun l35=>ar l35 fun v36 l37=>asInt .i64 v36 fun n38=>ar l37 fun v39 l40=>aX v39 fun s41=>aM l40 (ar l34 fun v42 l43=>asInt .i64 v42 fun n44=>aM l43 (st fl h31 ⟨b21,0,none⟩ [vi n38,vs s41] fun h45=>aT h45 t4.block (t4.off+1) fun s46=>st fl h45 ⟨b21,0,none⟩ [vi ((s46.l:Nat):Int)] fun h47=>aF .i64 h47 t3.block t3.off fun n48=>aF .i64 h47 t3.block (t3.off+1) fun n49=>aT h47 t3.block (t3.off+1+1) fun s50=>aF .i64 h47 b21 0 fun n51=>aT h47 b21 1 fun s52=>aj C fl fn.vy [.agg ⟨[vi n48,vi n49,vs s50]⟩,.agg ⟨[vi n51,vs s52]⟩] h47 fun v53 h54=>aE v53 fun l55=>ar l55 fun v56 l57=>asAgg v56 fun l58=>ar l58 fun v59 l60=>asInt .i64 v59 fun n61=>ar l60 fun v62 l63=>aX v62 fun s64=>aM l63 (ar l57 fun v65 l66=>asInt .i64 v65 fun n67=>aM l66 (bJ h54 [.int .i64 0,.slice none 0 0] fun b68 h69=>st fl h69 ⟨b68,0,none⟩ [vi n61,vs s64] fun h70=>if (n67 !=0)=true then st fl h70 t6 [vi 0,.slice none 0 0] fun h71=>kr t6 n67 h71 else aF .i64 h70 t3.block t3.off fun n72=>aF .i64 h70 t3.block (t3.off+1) fun n73=>aT h70 t3.block (t3.off+1+1) fun s74=>aF .i64 h70 b68 0 fun n75=>aT h70 b68 1 fun s76=>aF .i64 h70 t4.block t4.off fun n77=>aT h70 t4.block (t4.off+1) fun s78=>aj C fl fn.EZ [.agg ⟨[vi n72,vi n73,vs s74]⟩,.agg ⟨[vi n75,vs s76]⟩,.agg ⟨[vi n77,vs s78]⟩] h70 fun v79 h80=>aE v79 fun l81=>ar l81 fun v82 l83=>asAgg v82 fun l84=>ar l84 fun v85 l86=>asInt .i64 v85 fun n87=>ar l86 fun v88 l89=>aX v88 fun s90=>aM l89 (ar l83 fun v91 l92=>asInt .i64 v91 fun n93=>aM l92 (bJ h80 [.int .i64 0,.slice none 0 0] fun b94 h95=>st fl h95 ⟨b94,0,none⟩ [vi n87,vs s90] fun h96=>if (n93 !=0)=true then st fl h96 t6 [vi 0,.slice none 0 0] fun h97=>kr t6 n93 h97 else aF .i64 h96 t3.block t3.off fun n98=>aF .i64 h96 t3.block (t3.off+1) fun n99=>aT h96 t3.block (t3.off+1+1) fun a7U=>aF .i64 h96 b94 0 fun a0B=>aT h96 b94 1 fun a05=>aj C fl fn.cD [.agg ⟨[vi n98,vi n99,vs a7U]⟩,.agg ⟨[vi a0B,vs a05]⟩] h96 fun a76 aYr=>aE a76 fun aYj=>ar aYj fun aX7 aRN=>asAgg aX7 fun a6X=>ar a6X fun aQy a1l=>asInt .i64 aQy fun aZQ=>ar a1l fun aRy a0F=>aX aRy fun a27=>aM a0F (ar aRN fun aR5 a8Q=>aX aR5 fun bbd=>ar a8Q fun aRX aRV=>asInt .i64 aRX fun aas=>aM aRV (bJ aYr [.int .i64 0,.slice none 0 0] fun aRg aYN=>st fl aYN ⟨aRg,0,none⟩ [vi aZQ,vs a27] fun aQG=>aF .i64 aQG aRg 0 fun a4g=>aT aQG aRg 1 fun aRa=>st fl aQG t6 [vi a4g,vs aRa] fun a0M=>kr t6 aas a0M))))))))))
theorem Y3:(cp Rq (ce C fl k An K))=Mn C fl k (cp rm (K .ret)):=by kernel_rfl
def G4{R:Type}(C:Callee)(fl k:Nat)(kn:fU R)(e2:Rp R):fU R:=fun t2 t3 t4 t6 t12 t61 t62 h=>kn t2 t3 t4 t6 t12 t61 (av (t62+1)) h
theorem Rr:(cp vS (ce C fl k tW K))=G4 C fl k (cp vS (K .normal)) (cp Rq (K (.exit 2))):=by kernel_rfl
def Ap{R:Type}(C:Callee)(fl k:Nat)(kx:fU R)(kn:fU R)(e2:Rp R):fU R:=fun t2 t3 t4 t6 t12 t61 t62 h=>if decide (t62<t61)=true then aj C fl fn.cM [vs t2,vi t62] h fun aGc V1=>asBool aGc fun a0N=>if (!a0N)=true then bJ V1 [vi t62] fun a3i aNo=>dn fl 1 8 t12 ⟨(some ⟨a3i,0,none⟩),1,1⟩ aNo fun aRW aZA=>kx t2 t3 t4 t6 aRW t61 t62 aZA else kx t2 t3 t4 t6 t12 t61 t62 V1 else e2 t3 t4 t6 t12 h
def CI(kn:fU R)(e2:Rp R):fU R:=Ap C fl k (G4 C fl k kn e2) kn e2
theorem Y4(cn:aa):(cp vS (ce C fl k (G3 cn) K))=Ap C fl k (cp vS (ce C fl k cn K)) (cp vS (K .normal)) (cp Rq (K (.exit 2))):=by kernel_rfl
theorem Y5:(cp vS (ce C fl k Ao K))=CI C fl k (cp vS (K .normal)) (cp Rq (K (.exit 2))):=(Y4 C fl k K tW).trans (ag (fun L0=>Ap C fl k L0 _ _) (Rr C fl k K))
def vU(kn:Rp R):Nat→fU R
 |0=>fun _ _ _ _ _ _ _ _=>none
 |m+1=>CI C fl k (vU kn m) kn
theorem G5:∀m,(cp vS (aQ m (aW C fl k Ao 2 K)))=vU C fl k (cp Rq (K .normal)) m
 |0=>by kernel_rfl
 |m+1=>gu (Y5 C fl k _) (ag (fun L=>CI C fl k L _) (G5 m))
def WH(kr:aY R):fU R:=vU C fl k (Mn C fl k kr) k
theorem ae0:(cp vS (ce C fl k Fm K))=WH C fl k (cp rm (K .ret)):=(iP (gv (G5 C fl k (bw C fl k An K)))).trans (ag (fun L=>vU C fl k L k) (iL (Y3 C fl k K)))
def NG{R:Type}(C:Callee)(fl k:Nat)(kx:fU R)(kr:aY R):BZ R:=fun t2 t3 t4 t6 h=>aF .i64 h t4.block t4.off fun a7j=>kx t2 t3 t4 t6 ⟨none,0,0⟩ a7j 0 h
def agU(kr:aY R):BZ R:=NG C fl k (WH C fl k kr) kr
theorem amn(cn:aa):(cp Kj (ce C fl k (WE cn) K))=NG C fl k (cp vS (ce C fl k cn K)) (cp rm (K .ret)):=by kernel_rfl
theorem amo:(cp Kj (ce C fl k NC K))=agU C fl k (cp rm (K .ret)):=(amn C fl k K Fm).trans (ag (fun L0=>NG C fl k L0 _) (ae0 C fl k K))
def WI{R:Type}(C:Callee)(fl k:Nat)(kn:fU R)(e0:BZ R)(kr:aY R):fU R:=fun t2 t3 t4 t6 t30 t31 t32 h=>kn t2 t3 t4 t6 t30 t31 (av (t32+1)) h
theorem ae1:(cp vT (ce C fl k Fo K))=WI C fl k (cp vT (K .normal)) (cp Kj (K (.exit 0))) (cp rm (K .ret)):=by kernel_rfl
def NH{R:Type}(C:Callee)(fl k:Nat)(kx:fU R)(kn:fU R)(e0:BZ R)(kr:aY R):fU R:=fun t2 t3 t4 t6 t30 t31 t32 h=>if decide (t32<t31)=true then idx 1 t30 t32 fun aWp=>aF .i64 h aWp.block aWp.off fun aRE=>if decide (aRE<0)=false then aF .i64 h t4.block t4.off fun a6A=>if decide (aRE≥a6A)=false then if decide (t32>0)=true then idx 1 t2 (av (t32-1)) fun aVi=>aF .i64 h aVi.block aVi.off fun a4q=>if decide (aRE≤a4q)=true then st fl h t6 [vi 0,.slice none 0 0] fun aRT=>kr t6 6 aRT else kx t2 t3 t4 t6 t30 t31 t32 h else kx t2 t3 t4 t6 t30 t31 t32 h else st fl h t6 [vi 0,.slice none 0 0] fun a86=>kr t6 6 a86 else st fl h t6 [vi 0,.slice none 0 0] fun aRw=>kr t6 6 aRw else e0 t2 t3 t4 t6 h
def UK(kn:fU R)(e0:BZ R)(kr:aY R):fU R:=NH C fl k (WI C fl k kn e0 kr) kn e0 kr
theorem amp(cn:aa):(cp vT (ce C fl k (WG cn) K))=NH C fl k (cp vT (ce C fl k cn K)) (cp vT (K .normal)) (cp Kj (K (.exit 0))) (cp rm (K .ret)):=by kernel_rfl
theorem amq:(cp vT (ce C fl k ND K))=UK C fl k (cp vT (K .normal)) (cp Kj (K (.exit 0))) (cp rm (K .ret)):=(amp C fl k K Fo).trans (ag (fun L0=>NH C fl k L0 _ _ _) (ae1 C fl k K))
def Kk(kn:BZ R)(kr:aY R):Nat→fU R
 |0=>fun _ _ _ _ _ _ _ _=>none
 |m+1=>UK C fl k (Kk kn kr m) kn kr
theorem WJ:∀m,(cp vT (aQ m (aW C fl k ND 0 K)))=Kk C fl k (cp Kj (K .normal)) (cp rm (K .ret)) m
 |0=>by kernel_rfl
 |m+1=>gu (amq C fl k _) (ag (fun L=>UK C fl k L _ _) (WJ m))
def aun(kr:aY R):fU R:=Kk C fl k (agU C fl k kr) kr k
theorem ayg:(cp vT (ce C fl k acA K))=aun C fl k (cp rm (K .ret)):=(iP (gv (WJ C fl k (bw C fl k NC K)))).trans (ag (fun L=>Kk C fl k L _ k) (iL (amo C fl k K)))
def arB{R:Type}(C:Callee)(fl k:Nat)(kx:fU R)(kr:aY R):kq R:=fun aI aJ aL eu fA t2 h=>bJ h [vi aI,vi aJ,vs aL] fun aNC aNc=>bJ aNc [vi eu,vs fA] fun aFO a7Z=>bJ a7Z [.int .i64 0,.slice none 0 0] fun aRZ aAs=>aF .i64 aAs aNC 0 fun a1e=>aF .i64 aAs aNC 1 fun aY0=>aT aAs aNC 2 fun a2q=>aF .i64 aAs aFO 0 fun aYG=>aT aAs aFO 1 fun a6T=>aj C fl fn.gH [.agg ⟨[vi a1e,vi aY0,vs a2q]⟩,.agg ⟨[vi aYG,vs a6T]⟩] aAs fun a7t a7p=>aE a7t fun a1s=>ar a1s fun a7S a8c=>asAgg a7S fun aQU=>ar aQU fun a7z a5t=>ek a7z fun aZC=>ar a5t fun aZ4 a4l=>asInt .i64 aZ4 fun a8h=>ar a4l fun aR1 aZB=>aX aR1 fun aYi=>ar aZB fun aYC a4L=>aX aYC fun aYO=>aM a4L (ar a8c fun a5d a8j=>asInt .i64 a5d fun aVg=>aM a8j (bJ a7p [.pointer none,.int .i64 0,.slice none 0 0,.slice none 0 0] fun aQ9 aRv=>st fl aRv ⟨aQ9,0,none⟩ [.pointer aZC,vi a8h,vs aYi,vs aYO] fun aTO=>if (aVg !=0)=true then st fl aTO ⟨aRZ,0,none⟩ [vi 0,.slice none 0 0] fun aQ7=>kr ⟨aRZ,0,none⟩ aVg aQ7 else kx t2 ⟨aNC,0,none⟩ ⟨aFO,0,none⟩ ⟨aRZ,0,none⟩ t2 ((t2.l:Nat):Int) 0 aTO))
def aN9(kr:aY R):kq R:=arB C fl k (aun C fl k kr) kr
theorem aIk(cn:aa):(cp aum (ce C fl k (aul cn) K))=arB C fl k (cp vT (ce C fl k cn K)) (cp rm (K .ret)):=by kernel_rfl
theorem aIl:(cp aum (ce C fl k aCp K))=aN9 C fl k (cp rm (K .ret)):=(aIk C fl k K acA).trans (ag (fun L0=>arB C fl k L0 _) (ayg C fl k K))
def oF(aw ax:Int)(ay:Sl)(cz:Int)(cF p2:Sl)(h:AH):Option (Value×AH):=aN9 C fl k (fun y6 y7 q=>aF .i64 q y6.block y6.off fun a2F=>aT q y6.block (y6.off+1) fun a4j=>some (.tuple ⟨[.agg ⟨[vi a2F,vs a4j]⟩,vi y7]⟩,q)) aw ax ay cz cF p2 h
theorem Lr(aw ax:Int)(ay:Sl)(cz:Int)(cF p2:Sl)(h):aV C fl k lM [.agg ⟨[vi aw,vi ax,vs ay]⟩,.agg ⟨[vi cz,vs cF]⟩,vs p2] h=oF C fl k aw ax ay cz cF p2 h:=Uq (aIl C fl k (aG _)) aw ax ay cz cF p2 (by kernel_rfl) (by kernel_rfl)
def aIm(t4:Bool):List Value:=un 4 (.bool t4::un 4 [])
def aCq:aa:=.seq (.region [oI 4 (.mv (.c (.bool false)))] [4]) (.seq (.region [m 5 0,m 6 1,oI 7 (.call (.f 89) [.t 5,.t 6] (.one (.one (.int .i64)))),ck 8 .geq 7 0,m 4 8] [0,1,5,6,7,8]) (.ret))
def aIn(t0:Sl)(t1:Int):List Value:=t0.v::vi t1::un 7 []
def lN:aK:=⟨9,aCq,[.tmp 4]⟩
theorem NI:okF Tryz.prog 54 lN=true:=by kernel_rfl
def aOa{R:Type}(C:Callee)(fl k:Nat)(kr:aC R):aO R:=fun t0 t1 h=>aj C fl fn.yR [vs t0,vi t1] h fun v1 h2=>asInt .i64 v1 fun n3=>kr (decide (n3≥0)) h2
theorem aIo:(cp aIn (ce C fl k aCq K))=aOa C fl k (cp aIm (K .ret)):=by kernel_rfl
def cM(p0:Sl)(p1:Int)(h:AH):Option (Value×AH):=aOa C fl k (fun y4 q=>some (.bool y4,q)) p0 p1 h
theorem Ls(p0:Sl)(p1:Int)(h):aV C fl k lN [vs p0,vi p1] h=cM C fl k p0 p1 h:=tF (aIo C fl k (aG _)) p0 p1 (by kernel_rfl) (by kernel_rfl)
def aaG(t4:Sl):List Value:=un 4 (t4.v::un 31 [])
def NJ:aa:=.seq (.region [m 35 5,m 4 35] [5,35]) (.ret)
def Fp(t5:Sl):List Value:=un 5 (t5.v::un 30 [])
def fG(t0:Sl)(t1:Int)(t5:Sl)(t6:Int):List Value:=t0.v::vi t1::un 3 (t5.v::vi t6::un 29 [])
def rn:aa:=.region [m 12 6,bc 13 .add 12 1,m 6 13] [12,13]
def pf:aa:=.seq (.region [m 29 7,no 30 29] [7,29]) (.cond (.t 30) (.region [m 31 5,m 32 6,oI 33 (.bq 1 [.int .i64 0] [(0,1,.t 32)]),oI 34 (.append 1 8 (.t 31) (.t 33)),m 5 34] [30,31,32,33,34]) (kl [30]))
abbrev Kl(R:Type):=Sl→Int→Sl→Int→Bool→AH→Option R
def Rs(t0:Sl)(t1:Int)(t5:Sl)(t6:Int)(t7:Bool):List Value:=t0.v::vi t1::un 3 (t5.v::vi t6::.bool t7::un 28 [])
abbrev vV(R:Type):=Sl→Int→Sl→Int→Bool→Int→AH→Option R
def vW(t0:Sl)(t1:Int)(t5:Sl)(t6:Int)(t7:Bool)(t8:Int):List Value:=t0.v::vi t1::un 3 (t5.v::vi t6::.bool t7::vi t8::un 27 [])
def mD:aa:=.region [m 18 8,bc 19 .add 18 1,m 8 19] [18,19]
def yb(cn:aa):aa:=.seq (.seq (.region [m 14 8,m 15 0,ln 16 15,cm 17 .lss 14 16] [14,15,16]) (.seq (.cond (.t 17) (kl [17]) (.seq (kl [8,17]) (.exit 2))) (.block 3 (.region [m 20 7,m 21 20,.gL 21 false [qI 22 (.mv (.t 0)),qI 23 (.mv (.t 8)),qI 24 (.eE 1 (.t 22) (.t 23)),qI 25 (.load (.one (.int .i64)) (.t 24)),qI 26 (.mv (.t 6)),qI 27 (.cmp .eql .i64 (.t 25) (.t 26))],oI 28 (.pick (.t 21) (.c (.bool true)) (.t 27)),m 7 28] [20,21,22,23,24,25,26,27,28])))) cn
def pg:aa:=yb mD
def tX:aa:=.seq (.block 2 (.loop pg)) pf
def G6(cn:aa):aa:=.seq (.seq (.region [oI 7 (.mv (.c (.bool false)))] []) (.region [mc 8 0] [])) cn
def Aq:aa:=G6 tX
def Mo(cn fJ:aa):aa:=.seq (.block 1 fJ) cn
def Fq:aa:=Mo rn Aq
def WK(cn:aa):aa:=.seq (.seq (.region [m 9 6,m 10 1,cm 11 .lss 9 10] [9,10]) (.cond (.t 11) (kl [11]) (.seq (kl [0,1,6,11]) (.exit 0)))) cn
def NK:aa:=WK Fq
def acB:aa:=.seq (.block 0 (.loop NK)) NJ
def auo(cn:aa):aa:=.seq (.seq (.region [oI 4 (.mv (.c (.slice none 0 0)))] [4]) (.seq (.region [oI 5 (.mv (.c (.slice none 0 0)))] []) (.region [mc 6 0] []))) cn
def aCr:aa:=auo acB
def aup(t0:Sl)(t1:Int):List Value:=t0.v::vi t1::un 34 []
def rq:aK:=⟨36,aCr,[.tmp 4]⟩
theorem Y6:okF Tryz.prog 55 rq=true:=by kernel_rfl
def UL{R:Type}(C:Callee)(fl k:Nat)(kr:ab R):ab R:=fun t5 h=>kr t5 h
theorem amr:(cp Fp (ce C fl k NJ K))=UL C fl k (cp aaG (K .ret)):=by kernel_rfl
def jx{R:Type}(C:Callee)(fl k:Nat)(kn:cK R)(e0:ab R):cK R:=fun t0 t1 t5 t6 h=>kn t0 t1 t5 (av (t6+1)) h
theorem G7:(cp fG (ce C fl k rn K))=jx C fl k (cp fG (K .normal)) (cp Fp (K (.exit 0))):=by kernel_rfl
def lO{R:Type}(C:Callee)(fl k:Nat)(kn:cK R):Kl R:=fun t0 t1 t5 t6 t7 h=>if (!t7)=true then bJ h [vi t6] fun b1 h2=>dn fl 1 8 t5 ⟨(some ⟨b1,0,none⟩),1,1⟩ h2 fun s3 h4=>kn t0 t1 s3 t6 h4 else kn t0 t1 t5 t6 h
theorem Lt:(cp Rs (ce C fl k pf K))=lO C fl k (cp fG (K .normal)):=by kernel_rfl
def jU{R:Type}(C:Callee)(fl k:Nat)(kn:vV R)(e2:Kl R):vV R:=fun t0 t1 t5 t6 t7 t8 h=>kn t0 t1 t5 t6 t7 (av (t8+1)) h
theorem H3:(cp vW (ce C fl k mD K))=jU C fl k (cp vW (K .normal)) (cp Rs (K (.exit 2))):=by kernel_rfl
def im{R:Type}(C:Callee)(fl k:Nat)(kx:vV R)(kn:vV R)(e2:Kl R):vV R:=fun t0 t1 t5 t6 t7 t8 h=>if decide (t8<((t0.l:Nat):Int))=true then if t7=false then idx 1 t0 t8 fun p5=>aF .i64 h p5.block p5.off fun n6=>kx t0 t1 t5 t6 (n6==t6) t8 h else kx t0 t1 t5 t6 true t8 h else e2 t0 t1 t5 t6 t7 h
def eY(kn:vV R)(e2:Kl R):vV R:=im C fl k (jU C fl k kn e2) kn e2
theorem Lu(cn:aa):(cp vW (ce C fl k (yb cn) K))=im C fl k (cp vW (ce C fl k cn K)) (cp vW (K .normal)) (cp Rs (K (.exit 2))):=by kernel_rfl
theorem Lv:(cp vW (ce C fl k pg K))=eY C fl k (cp vW (K .normal)) (cp Rs (K (.exit 2))):=(Lu C fl k K mD).trans (ag (fun L0=>im C fl k L0 _ _) (H3 C fl k K))
def jj(kn:Kl R):Nat→vV R
 |0=>fun _ _ _ _ _ _ _=>none
 |m+1=>eY C fl k (jj kn m) kn
theorem yc:∀m,(cp vW (aQ m (aW C fl k pg 2 K)))=jj C fl k (cp Rs (K .normal)) m
 |0=>by kernel_rfl
 |m+1=>gu (Lv C fl k _) (ag (fun L=>eY C fl k L _) (yc m))
def xG(kn:cK R):vV R:=jj C fl k (lO C fl k kn) k
theorem Rt:(cp vW (ce C fl k tX K))=xG C fl k (cp fG (K .normal)):=(iP (gv (yc C fl k (bw C fl k pf K)))).trans (ag (fun L=>jj C fl k L k) (iL (Lt C fl k K)))
def ru{R:Type}(C:Callee)(fl k:Nat)(kx:vV R)(kn:cK R):cK R:=fun t0 t1 t5 t6 h=>kx t0 t1 t5 t6 false 0 h
def vX(kn:cK R):cK R:=ru C fl k (xG C fl k kn) kn
theorem Y7(cn:aa):(cp fG (ce C fl k (G6 cn) K))=ru C fl k (cp vW (ce C fl k cn K)) (cp fG (K .normal)):=by kernel_rfl
theorem Y8:(cp fG (ce C fl k Aq K))=vX C fl k (cp fG (K .normal)):=(Y7 C fl k K tX).trans (ag (fun L0=>ru C fl k L0 _) (Rt C fl k K))
def yY{R:Type}(C:Callee)(fl k:Nat)(kx:cK R)(u0:cK R)(kn:cK R)(e0:ab R):cK R:=fun t0 t1 t5 t6 h=>u0 t0 t1 t5 t6 h
def I7(kn:cK R)(e0:ab R):cK R:=yY C fl k (jx C fl k kn e0) (vX C fl k (jx C fl k kn e0)) kn e0
theorem ae2(cn fJ:aa):(cp fG (ce C fl k (Mo cn fJ) K))=yY C fl k (cp fG (ce C fl k cn K)) (cp fG (ce C fl k fJ (iK 1 (bw C fl k cn K)))) (cp fG (K .normal)) (cp Fp (K (.exit 0))):=by kernel_rfl
theorem ae3:(cp fG (ce C fl k Fq K))=I7 C fl k (cp fG (K .normal)) (cp Fp (K (.exit 0))):=(ae2 C fl k K rn Aq).trans (gG (fun L0 L1=>yY C fl k L0 L1 _ _) (G7 C fl k K) ((Y8 C fl k (iK 1 (bw C fl k rn K))).trans (ag (fun L0=>vX C fl k L0) (bn1 (G7 C fl k K)))))
def Ar{R:Type}(C:Callee)(fl k:Nat)(kx:cK R)(kn:cK R)(e0:ab R):cK R:=fun t0 t1 t5 t6 h=>if decide (t6<t1)=true then kx t0 t1 t5 t6 h else e0 t5 h
def tY(kn:cK R)(e0:ab R):cK R:=Ar C fl k (I7 C fl k kn e0) kn e0
theorem ams(cn:aa):(cp fG (ce C fl k (WK cn) K))=Ar C fl k (cp fG (ce C fl k cn K)) (cp fG (K .normal)) (cp Fp (K (.exit 0))):=by kernel_rfl
theorem amt:(cp fG (ce C fl k NK K))=tY C fl k (cp fG (K .normal)) (cp Fp (K (.exit 0))):=(ams C fl k K Fq).trans (ag (fun L0=>Ar C fl k L0 _ _) (ae3 C fl k K))
def qj(kn:ab R):Nat→cK R
 |0=>fun _ _ _ _ _=>none
 |m+1=>tY C fl k (qj kn m) kn
theorem WL:∀m,(cp fG (aQ m (aW C fl k NK 0 K)))=qj C fl k (cp Fp (K .normal)) m
 |0=>by kernel_rfl
 |m+1=>gu (amt C fl k _) (ag (fun L=>tY C fl k L _) (WL m))
def auq(kr:ab R):cK R:=qj C fl k (UL C fl k kr) k
theorem ayh:(cp fG (ce C fl k acB K))=auq C fl k (cp aaG (K .ret)):=(iP (gv (WL C fl k (bw C fl k NJ K)))).trans (ag (fun L=>qj C fl k L k) (iL (amr C fl k K)))
def arC{R:Type}(C:Callee)(fl k:Nat)(kx:cK R)(kr:ab R):aO R:=fun t0 t1 h=>kx t0 t1 ⟨none,0,0⟩ 0 h
def aOb(kr:ab R):aO R:=arC C fl k (auq C fl k kr) kr
theorem aIp(cn:aa):(cp aup (ce C fl k (auo cn) K))=arC C fl k (cp fG (ce C fl k cn K)) (cp aaG (K .ret)):=by kernel_rfl
theorem aIq:(cp aup (ce C fl k aCr K))=aOb C fl k (cp aaG (K .ret)):=(aIp C fl k K acB).trans (ag (fun L0=>arC C fl k L0 _) (ayh C fl k K))
def yO(p0:Sl)(p1:Int)(h:AH):Option (Value×AH):=aOb C fl k (fun y4 q=>some (vs y4,q)) p0 p1 h
theorem UM(p0:Sl)(p1:Int)(h):aV C fl k rq [vs p0,vi p1] h=yO C fl k p0 p1 h:=tF (aIq C fl k (aG _)) p0 p1 (by kernel_rfl) (by kernel_rfl)
def aIr(t6:Addr)(t7:Int):List Value:=un 6 (vp t6::vi t7::un 17 [])
def aCs:aa:=.seq (.region [oI 3 (.box (.t 0)),oI 6 (.alloc [.slice none 0 0]),mc 7 0] [0,7]) (.seq (.region [oI 11 (.load (.agg [.int .i64,.int .i64,.slice,.int .i64,.slice]) (.t 3)),m 12 1,m 13 2,oI 14 (.call (.f 90) [.t 11,.t 12,.t 13] (.ke [.one .l0,.one (.int .i64)])),m 10 14,ex 15 10 0,ex 16 10 1,m 8 15,m 9 16] [1,2,3,10,11,12,13,14,15,16]) (.seq (.region [m 17 9,ck 18 .neq 17 0] [17]) (.seq (.cond (.t 18) (.seq (.region [oI 19 (.build [.slice none 0 0] []),m 20 9,sI 1 6 19,m 7 20] [8,9,18,19,20]) (.ret)) (kl [9,18])) (.seq (.region [m 21 8,oI 22 (.call (.f 91) [.t 21] (.ke [.agg [.slice],.one (.int .i64)])),ex 23 22 0,ex 24 22 1,sI 1 6 23,m 7 24] [8,21,22,23,24]) (.ret)))))
abbrev aiu(R:Type):=Int→Int→Sl→Int→Sl→Int→Int→AH→Option R
def aIs(aI aJ:Int)(aL:Sl)(bZ:Int)(bY:Sl)(t1 t2:Int):List Value:=.agg ⟨[vi aI,vi aJ,vs aL,vi bZ,vs bY]⟩::vi t1::vi t2::un 22 []
def iA:aK:=⟨25,aCs,[.cell 6 (.agg [.slice]),.tmp 7]⟩
theorem Fs:okF Tryz.prog 56 iA=true:=by kernel_rfl
def aOc{R:Type}(C:Callee)(fl k:Nat)(kr:aY R):aiu R:=fun aI aJ aL bZ bY t1 t2 h=>bJ h [vi aI,vi aJ,vs aL,vi bZ,vs bY] fun b1 h2=>bJ h2 [.slice none 0 0] fun b3 h4=>aF .i64 h4 b1 0 fun n5=>aF .i64 h4 b1 1 fun n6=>aT h4 b1 2 fun s7=>aF .i64 h4 b1 3 fun n8=>aT h4 b1 4 fun s9=>aj C fl fn.mq [.agg ⟨[vi n5,vi n6,vs s7,vi n8,vs s9]⟩,vi t1,vi t2] h4 fun v10 iH=>aE v10 fun l12=>ar l12 fun v13 l14=>ek v13 fun YJ=>ar l14 fun v16 l17=>asInt .i64 v16 fun JT=>aM l17 (if (JT !=0)=true then st fl iH ⟨b3,0,none⟩ [.slice none 0 0] fun Mf=>kr ⟨b3,0,none⟩ JT Mf else aj C fl fn.jb [.pointer YJ] iH fun v20 yL=>aE v20 fun l22=>ar l22 fun v23 l24=>asAgg v23 fun l25=>ar l25 fun v26 l27=>aX v26 fun s28=>aM l27 (ar l24 fun v29 l30=>asInt .i64 v29 fun n31=>aM l30 (st fl yL ⟨b3,0,none⟩ [vs s28] fun Qp=>kr ⟨b3,0,none⟩ n31 Qp)))
theorem aIt:(cp aIs (ce C fl k aCs K))=aOc C fl k (cp aIr (K .ret)):=by kernel_rfl
def jK(aw ax:Int)(ay:Sl)(bk:Int)(bj:Sl)(p1 p2:Int)(h:AH):Option (Value×AH):=aOc C fl k (fun y6 y7 q=>aT q y6.block y6.off fun s33=>some (.tuple ⟨[.agg ⟨[vs s33]⟩,vi y7]⟩,q)) aw ax ay bk bj p1 p2 h
theorem Dy(aw ax:Int)(ay:Sl)(bk:Int)(bj:Sl)(p1 p2:Int)(h):aV C fl k iA [.agg ⟨[vi aw,vi ax,vs ay,vi bk,vs bj]⟩,vi p1,vi p2] h=jK C fl k aw ax ay bk bj p1 p2 h:=axU (aIt C fl k (aG _)) aw ax ay bk bj p1 p2 (by kernel_rfl) (by kernel_rfl)
end Go.Abs.P
end
