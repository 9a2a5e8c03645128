/- Shortened by a program of ours out of readable texts. -/
import Derived.Test.YtgplcfblbkmcmaaGreatU0
import Derived.Orders
import Derived.IntWalk
import Derived.Deep.Strs
import Derived.ChangeSlices
import Derived.RangeFuncBox
import Derived.RangeFuncLeaves
import Derived.Maps.AppendAt
import Derived.Shelf.Abstract
import Derived.WalkKit
import Derived.OwnWalkIn
import Derived.TacticsInMore
import Derived.LoopNIn
import Derived.LoopIn
import Derived.Test.YtgplcfblbkmcmaaGreatProg
import Derived.KernelRfl
set_option linter.all false
section
namespace Go.Fld
section
variable{p:Nat}[NeZero p]
def sm:Nat→(Nat→Fin p)→Fin p
 |0,_=>0
 |n+1,f=>sm n f+f n
theorem eJ{n:Nat}{f g:Nat→Fin p}(h:∀i,i<n→f i=g i):sm n f=sm n g:=by
 induction n with
 |zero=>rfl
 |succ n ih=>simp only[sm];rw[ih fun i hi=>h i (by omega),h n (by omega)]
theorem Am(n:Nat):sm n (fun _=>(0:Fin p))=0:=by
 induction n with
 |zero=>rfl
 |succ n ih=>simp only[sm,ih];grind
theorem abH(n:Nat)(f g:Nat→Fin p):sm n (fun i=>f i+g i)=sm n f+sm n g:=by
 induction n with
 |zero=>simp only[sm];grind
 |succ n ih=>simp only[sm,ih];grind
theorem aiV(n:Nat)(f g:Nat→Fin p):sm n (fun i=>f i-g i)=sm n f-sm n g:=by
 induction n with
 |zero=>simp only[sm];grind
 |succ n ih=>simp only[sm,ih];grind
theorem PO(n:Nat)(a:Fin p)(f:Nat→Fin p):sm n (fun i=>a*f i)=a*sm n f:=by
 induction n with
 |zero=>simp only[sm];grind
 |succ n ih=>simp only[sm,ih];grind
theorem adi(n:Nat)(a:Fin p)(f:Nat→Fin p):sm n (fun i=>f i*a)=sm n f*a:=by
 induction n with
 |zero=>simp only[sm];grind
 |succ n ih=>simp only[sm,ih];grind
theorem adj(n m:Nat)(f:Nat→Nat→Fin p):sm n (fun i=>sm m (f i))=sm m (fun j=>sm n (fun i=>f i j)):=by
 induction n with
 |zero=>simp only[sm];exact(Am m).symm
 |succ n ih=>simp only[sm,ih];rw[←abH]
theorem abI{n k:Nat}(hk:k<n){f:Nat→Fin p}(h:∀i,i<n→i≠k→f i=0):sm n f=f k:=by
 induction n with
 |zero=>omega
 |succ n ih=>
  simp only[sm]
  by_cases e:k=n
  ·subst e
   rw[eJ (g:=fun _=>0) fun i hi=>h i (by omega) (by omega),Am];grind
  ·rw[ih (by omega) fun i hi=>h i (by omega),h n (by omega) (by omega)];grind
variable(m:Nat)(low:Nat→Fin p)
abbrev V(p:Nat):=Nat→Fin p
def Xm(m:Nat)(v:V p):Prop:=∀j,m≤j→v j=0
def uF(x y:V p):V p:=fun j=>x j+y j
def an0(x:V p):V p:=fun j=> -x j
def T(v:V p):V p:=fun j=>if j<m then (if j=0 then 0 else v (j-1))-v (m-1)*low j else 0
def tp:Nat→V p→V p
 |0,v=>v
 |n+1,v=>T m low (tp n v)
def lc(n:Nat)(a:Nat→Fin p)(f:Nat→V p):V p:=fun j=>sm n (fun i=>a i*f i j)
def e0:V p:=fun j=>if j=0 then 1 else 0
def xY(x y:V p):V p:=lc m y (fun i=>tp m low i x)
theorem awK(n:Nat)(a:Nat→Fin p)(f:Nat→V p):T m low (lc n a f)=lc n a (fun i=>T m low (f i)):=by
 funext j
 unfold T lc
 by_cases h:j<m
 ·simp only[if_pos h]
  by_cases h0:j=0
  ·simp only[if_pos h0]
   refine Eq.trans (b:=sm n (fun _=>0)-sm n (fun i=>a i*f i (m-1))*low j) (by rw[Am]) ?_
   rw[←adi,←aiV]
   exact eJ fun i _=>by grind
  ·simp only[if_neg h0]
   rw[←adi,←aiV]
   exact eJ fun i _=>by grind
 ·simp only[if_neg h]
  rw[eJ (g:=fun _=>0) fun i _=>by grind,Am]
theorem aiW(k n:Nat)(a:Nat→Fin p)(f:Nat→V p):tp m low k (lc n a f)=lc n a (fun i=>tp m low k (f i)):=by
 induction k with
 |zero=>rfl
 |succ k ih=>simp only[tp];rw[ih,awK]
theorem PQ(k l:Nat)(x:V p):tp m low (k+l) x=tp m low k (tp m low l x):=by
 induction k with
 |zero=>simp[tp]
 |succ k ih=>rw[Nat.add_right_comm];simp only[tp];rw[ih]
theorem awL(x:V p):Xm m (T m low x):=fun j hj=>by unfold T;rw[if_neg (by omega)]
theorem auf{x:V p}(h:Xm m x)(k:Nat):Xm m (tp m low k x):=by
 cases k with
 |zero=>exact h
 |succ k=>exact awL m low _
theorem aug{n:Nat}{a:Nat→Fin p}{f:Nat→V p}(h:∀i,i<n→Xm m (f i)):Xm m (lc n a f):=fun j hj=>by
 unfold lc
 rw[eJ (g:=fun _=>0) fun i hi=>by rw[h i hi j hj];grind,Am]
theorem an1{x:V p}(h:Xm m x)(y:V p):Xm m (xY m low x y):=aug m fun i _=>auf m low h i
theorem adk(i:Nat)(hi:i<m):tp m low i e0=fun j=>if j=i then 1 else 0:=by
 induction i with
 |zero=>rfl
 |succ i ih=>
  simp only[tp]
  rw[ih (by omega)]
  funext j
  unfold T
  dsimp only
  by_cases h:j<m
  ·rw[if_pos h,if_neg (show ¬m-1=i by omega)]
   by_cases h0:j=0
   ·subst h0;simp;grind
   ·rw[if_neg h0]
    by_cases h1:j=i+1
    ·rw[if_pos (by omega),if_pos h1];grind
    ·rw[if_neg (by omega),if_neg h1];grind
  ·rw[if_neg h,if_neg (by omega)]
theorem aiX{x:V p}(h:Xm m x):lc m x (fun i=>tp m low i e0)=x:=by
 funext j
 unfold lc
 by_cases hj:j<m
 ·rw[abI (k:=j) hj]
  ·dsimp only;rw[adk m low j hj];simp;grind
  ·intro i hi iH
   dsimp only
   rw[adk m low i hi]
   simp only
   rw[if_neg (by omega)];grind
 ·rw[h j (by omega),eJ (g:=fun _=>0) fun i hi=>by dsimp only;rw[adk m low i hi];dsimp only;rw[if_neg (by omega)];grind,Am]
theorem Uo{x y:V p}(hx:Xm m x):xY m low x y=lc m y (fun j=>lc m x (fun i=>tp m low (i+j) e0)):=by
 unfold xY
 congr 1
 funext j
 conv=>lhs;rw[←aiX m low hx]
 rw[aiW]
 congr 1
 funext i
 rw[←PQ,Nat.add_comm]
theorem mul_comm{x y:V p}(hx:Xm m x)(hy:Xm m y):xY m low x y=xY m low y x:=by
 rw[Uo m low hx,Uo m low hy]
 funext k
 unfold lc
 rw[eJ (g:=fun j=>sm m (fun i=>y j*(x i*tp m low (i+j) e0 k))) fun j _=>(PO _ _ _).symm,adj]
 refine eJ fun i _=>?_
 rw[←PO]
 refine eJ fun j _=>?_
 rw[Nat.add_comm];grind
theorem mul_right_comm(x y z:V p):xY m low (xY m low x y) z=xY m low (xY m low x z) y:=by
 unfold xY
 have:∀y z:V p,lc m z (fun i=>tp m low i (lc m y fun i=>tp m low i x))=lc m z (fun i=>lc m y (fun j=>tp m low (i+j) x)):=by
  intro y z
  congr 1
  funext i
  rw[aiW]
  congr 1
  funext j
  rw[←PQ]
 rw[this,this]
 funext k
 unfold lc
 rw[eJ (g:=fun j=>sm m (fun i=>z j*(y i*tp m low (j+i) x k))) fun j _=>(PO _ _ _).symm,adj]
 refine eJ fun i _=>?_
 rw[←PO]
 refine eJ fun j _=>?_
 rw[Nat.add_comm];grind
theorem mul_assoc{x y z:V p}(hx:Xm m x)(hy:Xm m y)(hz:Xm m z):xY m low (xY m low x y) z=xY m low x (xY m low y z):=by
 rw[mul_comm m low hx (an1 m low hy z),mul_comm m low hx hy]
 exact mul_right_comm m low y x z
theorem add_mul(x y z:V p):xY m low z (uF x y)=uF (xY m low z x) (xY m low z y):=by
 funext k
 unfold xY uF lc
 rw[←abH]
 exact eJ fun i _=>by grind
theorem mul_one(hm:0<m)(x:V p):xY m low x e0=x:=by
 funext k
 unfold xY lc
 rw[abI (k:=0) hm]
 ·simp[e0,tp];grind
 ·intro i hi h0
  unfold e0;rw[if_neg h0];grind
end
end Go.Fld
end
section
namespace Go.Fld
def aN(p:Nat):Nat→Nat→List Nat
 |0,_=>[]
 |m+1,x=>x%p::aN p m (x/p)
def dJ(p:Nat):List Nat→Nat
 |[]=>0
 |d::ds=>d+p*dJ p ds
def jo(p top b:Nat):List Nat→List Nat→List Nat→List Nat
 |o::os,l::ls,a::aS=>(o+(p-top)*l+b*a)%p::jo p top b os ls aS
 |_,_,_=>[]
def vz:List Nat→Nat
 |[]=>0
 |[x]=>x
 |_::y::l=>vz (y::l)
def Tt(p:Nat)(low a:List Nat)(b:Nat)(out:List Nat):List Nat:=jo p (vz out) b (0::out) low a
def fA:Nat→List Nat
 |0=>[]
 |n+1=>0::fA n
def mulL(p:Nat)(low a:List Nat):List Nat→List Nat
 |[]=>fA low.length
 |b::bs=>Tt p low a b (mulL p low a bs)
def tB(p:Nat):List Nat→List Nat→List Nat
 |a::aS,b::bs=>(a+b)%p::tB p aS bs
 |_,_=>[]
def yz(p:Nat):List Nat→List Nat
 |[]=>[]
 |a::aS=>(p-a)%p::yz p aS
def Small(p:Nat)(l:List Nat):Prop:=∀a∈l,a<p
theorem dO(p m x:Nat):(aN p m x).length=m:=by
 induction m generalizing x with
 |zero=>rfl
 |succ m ih=>simp[aN,ih]
theorem mz{p:Nat}(hp:0<p)(m x:Nat):Small p (aN p m x):=by
 induction m generalizing x with
 |zero=>intro a h;cases h
 |succ m ih=>
  intro a h
  rcases List.mem_cons.1 h with rfl|h
  ·exact Nat.mod_lt _ hp
  ·exact ih _ a h
theorem abJ{p:Nat}(m x:Nat)(h:x<p^m):dJ p (aN p m x)=x:=by
 induction m generalizing x with
 |zero=>simp at h;subst h;rfl
 |succ m ih=>
  rw[Nat.pow_succ] at h
  simp only[aN,dJ]
  rw[ih _ (Nat.div_lt_of_lt_mul (by rw[Nat.mul_comm];exact h))]
  exact Nat.mod_add_div x p
theorem abK{p:Nat}(l:List Nat)(h:Small p l):aN p l.length (dJ p l)=l:=by
 induction l with
 |nil=>rfl
 |cons a l ih=>
  have ha:a<p:=h a (List.mem_cons_self ..)
  simp only[List.length_cons,aN,dJ]
  rw[Nat.add_mul_mod_self_left,Nat.mod_eq_of_lt ha,Nat.add_mul_div_left _ _ (by omega),Nat.div_eq_of_lt ha,Nat.zero_add,ih fun b hb=>h b (List.mem_cons_of_mem _ hb)]
theorem abL{p:Nat}(l:List Nat)(h:Small p l):dJ p l<p^l.length:=by
 induction l with
 |nil=>simp[dJ]
 |cons a l ih=>
  have ha:a<p:=h a (List.mem_cons_self ..)
  have:=ih fun b hb=>h b (List.mem_cons_of_mem _ hb)
  simp only[dJ,List.length_cons,Nat.pow_succ]
  calc a+p*dJ p l<p+p*dJ p l:=by omega
   _=p*(dJ p l+1):=by rw[Nat.mul_add];omega
   _≤p*p^l.length:=Nat.mul_le_mul_left _ this
   _=_:=Nat.mul_comm ..
theorem Ig(n:Nat):(fA n).length=n:=by
 induction n with
 |zero=>rfl
 |succ n ih=>simp[fA,ih]
theorem Cu{p:Nat}(hp:0<p)(n:Nat):Small p (fA n):=by
 induction n with
 |zero=>intro a h;cases h
 |succ n ih=>
  intro a h
  rcases List.mem_cons.1 h with rfl|h
  ·exact hp
  ·exact ih a h
theorem LY(p top b:Nat)(os ls aS:List Nat):(jo p top b os ls aS).length=min os.length (min ls.length aS.length):=by
 induction os generalizing ls aS with
 |nil=>simp[jo]
 |cons o os ih=>
  cases ls with
  |nil=>simp[jo]
  |cons l ls=>cases aS with
   |nil=>simp[jo]
   |cons a aS=>simp only[jo,List.length_cons,ih];omega
theorem abM{p:Nat}(hp:0<p)(top b:Nat)(os ls aS:List Nat):Small p (jo p top b os ls aS):=by
 induction os generalizing ls aS with
 |nil=>intro a h;simp[jo] at h
 |cons o os ih=>
  cases ls with
  |nil=>intro a h;simp[jo] at h
  |cons l ls=>cases aS with
   |nil=>intro a h;simp[jo] at h
   |cons a aS=>
    intro c h
    rcases List.mem_cons.1 h with rfl|h
    ·exact Nat.mod_lt _ hp
    ·exact ih _ _ c h
theorem xm{p:Nat}{low a:List Nat}(ha:a.length=low.length)(bs:List Nat):(mulL p low a bs).length=low.length:=by
 induction bs with
 |nil=>exact Ig _
 |cons b bs ih=>simp only[mulL,Tt,LY,List.length_cons];omega
theorem vA{p:Nat}(hp:0<p)(low a bs:List Nat):Small p (mulL p low a bs):=by
 cases bs with
 |nil=>exact Cu hp _
 |cons b bs=>exact abM hp _ _ _ _ _
theorem XT(p:Nat)(a b:List Nat):(tB p a b).length=min a.length b.length:=by
 induction a generalizing b with
 |nil=>simp[tB]
 |cons x a ih=>cases b with
  |nil=>simp[tB]
  |cons y b=>simp only[tB,List.length_cons,ih];omega
theorem FM{p:Nat}(hp:0<p)(a b:List Nat):Small p (tB p a b):=by
 induction a generalizing b with
 |nil=>intro c h;simp[tB] at h
 |cons x a ih=>cases b with
  |nil=>intro c h;simp[tB] at h
  |cons y b=>
   intro c h
   rcases List.mem_cons.1 h with rfl|h
   ·exact Nat.mod_lt _ hp
   ·exact ih _ c h
theorem XU(p:Nat)(a:List Nat):(yz p a).length=a.length:=by
 induction a with
 |nil=>rfl
 |cons x a ih=>simp[yz,ih]
theorem FN{p:Nat}(hp:0<p)(a:List Nat):Small p (yz p a):=by
 induction a with
 |nil=>intro c h;simp[yz] at h
 |cons x a ih=>
  intro c h
  rcases List.mem_cons.1 h with rfl|h
  ·exact Nat.mod_lt _ hp
  ·exact ih c h
theorem PR(l:List Nat){j:Nat}(h:l.length≤j):l.getD j 0=0:=by rw[List.getD_eq_getElem?_getD,List.getElem?_eq_none h];rfl
theorem lu(l:List Nat){j:Nat}(h:j<l.length):l.getD j 0=l[j]:=by rw[List.getD_eq_getElem?_getD,List.getElem?_eq_getElem h];rfl
section
variable{p:Nat}[NeZero p]
def vec(l:List Nat):V p:=fun j=>Fin.ofNat p (l.getD j 0)
theorem adl(l:List Nat):Xm l.length (vec (p:=p) l):=fun j hj=>by unfold vec;rw[PR _ (by omega)];rfl
theorem an2{l k:List Nat}(h:l.length=k.length)(hl:Small p l)(hk:Small p k)(e:vec (p:=p) l=vec k):l=k:=by
 apply List.ext_getElem h
 intro i h1 h2
 have:=congrFun e i
 unfold vec at this
 rw[lu _ h1,lu _ h2] at this
 have:=congrArg Fin.val this
 simp only[Fin.ofNat] at this
 rwa[Nat.mod_eq_of_lt (hl _ (List.getElem_mem h1)),Nat.mod_eq_of_lt (hk _ (List.getElem_mem h2))] at this
theorem PS(n:Nat):Fin.ofNat p (n%p)=Fin.ofNat p n:=by
 apply Fin.ext;simp[Fin.ofNat]
theorem PT(a b:Nat):Fin.ofNat p (a+b)=Fin.ofNat p a+Fin.ofNat p b:=by
 apply Fin.ext;simp[Fin.ofNat,Fin.val_add]
theorem abN(a b:Nat):Fin.ofNat p (a*b)=Fin.ofNat p a*Fin.ofNat p b:=by
 apply Fin.ext;simp[Fin.ofNat,Fin.val_mul,Nat.mul_mod]
theorem DL:Fin.ofNat p 0=0:=rfl
theorem an3:Fin.ofNat p p=0:=by apply Fin.ext;simp[Fin.ofNat]
theorem abO{a:Nat}(h:a≤p):Fin.ofNat p (p-a)= -Fin.ofNat p a:=by
 have h1:Fin.ofNat p (p-a)+Fin.ofNat p a=0:=by rw[←PT,Nat.sub_add_cancel h,an3]
 grind
theorem KL(n:Nat):vec (p:=p) (fA n)=fun _=>0:=by
 funext j
 unfold vec
 induction n generalizing j with
 |zero=>rfl
 |succ n ih=>cases j with
  |zero=>rfl
  |succ j=>exact ih j
theorem aiY{a b:List Nat}(h:a.length=b.length):vec (p:=p) (tB p a b)=uF (vec a) (vec b):=by
 funext j
 unfold vec uF
 induction a generalizing b j with
 |nil=>cases b with
  |nil=>simp[tB,DL]
  |cons y b=>cases h
 |cons x a ih=>cases b with
  |nil=>cases h
  |cons y b=>cases j with
   |zero=>simp[tB,PS,PT]
   |succ j=>simpa [tB] using ih (by simpa using h) j
theorem aiZ{a:List Nat}(h:Small p a):vec (p:=p) (yz p a)=an0 (vec a):=by
 funext j
 unfold vec an0
 induction a generalizing j with
 |nil=>simp[yz,DL];grind
 |cons x a ih=>cases j with
  |zero=>simp only[yz,List.getD_cons_zero,PS];exact abO (Nat.le_of_lt (h x (List.mem_cons_self ..)))
  |succ j=>simpa [yz] using ih (fun b hb=>h b (List.mem_cons_of_mem _ hb)) j
theorem DM(l:List Nat):vz l=l.getD (l.length-1) 0:=by
 induction l with
 |nil=>rfl
 |cons x l ih=>cases l with
  |nil=>rfl
  |cons y l=>rw[vz,ih];simp
theorem ai0(top b:Nat)(ht:top≤p)(os ls aS:List Nat)(h1:ls.length≤os.length)(h2:aS.length=ls.length)(j:Nat):
 Fin.ofNat p ((jo p top b os ls aS).getD j 0)=if j<ls.length then Fin.ofNat p (os.getD j 0)-Fin.ofNat p top*Fin.ofNat p (ls.getD j 0)+Fin.ofNat p b*Fin.ofNat p (aS.getD j 0) else 0:=by
 induction ls generalizing os aS j with
 |nil=>
  have:jo p top b os [] aS=[]:=by cases os<;>rfl
  rw[this];simp[DL]
 |cons l ls ih=>
  obtain⟨o,os,rfl⟩:∃o os',os=o::os':=by cases os with|nil=>simp at h1|cons o os=>exact⟨o,os,rfl⟩
  obtain⟨a,aS,rfl⟩:∃o os',aS=o::os':=by cases aS with|nil=>simp at h2|cons o os=>exact⟨o,os,rfl⟩
  cases j with
  |zero=>simp only[jo,List.getD_cons_zero,PS,PT,abN,abO ht,List.length_cons];rw[if_pos (by omega)];grind
  |succ j=>
   simp only[jo,List.getD_cons_succ,List.length_cons]
   rw[ih os aS (by simpa using h1) (by simpa using h2)]
   by_cases hj:j<ls.length
   ·rw[if_pos hj,if_pos (by omega)]
   ·rw[if_neg hj,if_neg (by omega)]
theorem ai1{low a out:List Nat}(b:Nat)(ho:out.length=low.length)(ha:a.length=low.length)(hs:Small p out):
 vec (p:=p) (Tt p low a b out)=uF (T low.length (vec low) (vec out)) (fun j=>Fin.ofNat p b*vec a j):=by
 funext j
 unfold Tt uF
 have ht:vz out≤p:=by
  rw[DM]
  by_cases h:out.length-1<out.length
  ·rw[lu _ h];exact Nat.le_of_lt (hs _ (List.getElem_mem h))
  ·rw[PR _ (by omega)];exact Nat.zero_le _
 unfold vec
 rw[ai0 _ _ ht _ _ _ (by simp;omega) ha]
 unfold T
 by_cases hj:j<low.length
 ·rw[if_pos hj,if_pos hj,DM,ho]
  cases j with
  |zero=>simp[DL]
  |succ j=>simp
 ·rw[if_neg hj,if_neg hj];dsimp only;rw[PR a (by omega),DL];grind
theorem an4(n:Nat)(f:Nat→Fin p):sm (n+1) f=f 0+sm n (fun i=>f (i+1)):=by
 induction n with
 |zero=>simp only[sm];grind
 |succ n ih=>rw[sm,ih];simp only[sm];grind
theorem ai2{low a:List Nat}(bs:List Nat)(ha:a.length=low.length):
 vec (p:=p) (mulL p low a bs)=lc bs.length (vec bs) (fun i=>tp low.length (vec low) i (vec a)):=by
 induction bs with
 |nil=>simp only[mulL,KL];rfl
 |cons b bs ih=>
  simp only[mulL]
  rw[ai1 b (xm ha bs) ha (vA (Nat.pos_of_ne_zero (NeZero.ne p)) _ _ _),ih,awK]
  funext j
  unfold uF lc
  rw[List.length_cons,an4]
  simp only[tp,vec,List.getD_cons_zero,List.getD_cons_succ]
  grind
end
end Go.Fld
end
section
namespace Go.Fld
def af6(p c:Nat):List Nat→List Nat→List Nat
 |r,[]=>r
 |[],_::_=>[]
 |r::rs,l::ls=>(r+(p-c)*l)%p::af6 p c rs ls
def EE(p:Nat)(lr:List Nat):Nat→List Nat→List Nat→List Nat×List Nat
 |0,r,qs=>(qs,r)
 |n+1,r,qs=>match r with
  |[]=>(qs,[])
  |c::rest=>EE p lr n (af6 p c rest lr) (c::qs)
def rev:List Nat→List Nat→List Nat
 |[],b=>b
 |x::a,b=>rev a (x::b)
def XV(p:Nat)(low mod:List Nat):List Nat×List Nat:=EE p (rev low []) (mod.length+1-low.length) (1::rev mod []) []
def wV:List Nat→Bool
 |[]=>true
 |a::aS=>Nat.beq a 0&&wV aS
def vB(p:Nat)(low mod:List Nat):Bool:=wV (XV p low mod).2
def xn(p d:Nat)(mod:List Nat):Nat→Nat→Option (List Nat)
 |0,_=>none
 |n+1,v=>if vB p (aN p d v) mod=true then some (aN p d v) else xn p d mod n (v+1)
def findD(p:Nat)(mod:List Nat):Nat→Nat→Option (List Nat)
 |0,_=>none
 |n+1,d=>match xn p d mod (p^d) 0 with
  |some l=>some l
  |none=>findD p mod n (d+1)
def abP(p:Nat)(mod:List Nat):Bool:=(findD p mod (mod.length/2) 1).isNone
def ai3:Nat→List Nat
 |0=>[]
 |n+1=>1::fA n
def trim:List Nat→List Nat
 |[]=>[]
 |a::aS=>match trim aS with
  |[]=>if a=0 then [] else [a]
  |b::bs=>a::b::bs
def itL(p:Nat)(low x:List Nat):Nat→List Nat→List Nat
 |0,y=>y
 |n+1,y=>itL p low x n (mulL p low y x)
def isP(n:Nat):Nat→Nat→Bool
 |0,_=>true
 |k+1,d=>if n%d=0 then false else isP n k (d+1)
noncomputable section
def lit(n:Nat)(k:Nat→Bool):Bool:=Nat.rec (motive:=fun _=>Bool) (k 0) (fun v _=>k (Nat.succ v)) n
theorem vC(n:Nat)(k:Nat→Bool):lit n k=k n:=by cases n<;>rfl
def Tu(c:Bool)(a b:Bool):Bool:=Bool.rec (motive:=fun _=>Bool) b a c
theorem Cv(c a b:Bool):Tu c a b=if c=true then a else b:=by cases c<;>rfl
def auh(p top b:Nat)(os:List Nat):List Nat→List Nat→(List Nat→Bool)→Bool:=
 List.rec (motive:=fun _=>List Nat→List Nat→(List Nat→Bool)→Bool) (fun _ _ k=>k [])
  (fun o _ ih ls aS k=>List.rec (motive:=fun _=>Bool) (k []) (fun l ls _=>List.rec (motive:=fun _=>Bool) (k []) (fun a aS _=>
   lit (Nat.mod (Nat.add (Nat.add o (Nat.mul (Nat.sub p top) l)) (Nat.mul b a)) p) fun v=>ih ls aS fun r=>k (v::r)) aS) ls) os
theorem an6(p top b:Nat)(os ls aS:List Nat)(k:List Nat→Bool):auh p top b os ls aS k=k (jo p top b os ls aS):=by
 induction os generalizing ls aS k with
 |nil=>rfl
 |cons o os ih=>cases ls with
  |nil=>rfl
  |cons l ls=>cases aS with
   |nil=>rfl
   |cons a aS=>exact(vC (Nat.mod (Nat.add (Nat.add o (Nat.mul (Nat.sub p top) l)) (Nat.mul b a)) p) fun v=>auh p top b os ls aS fun r=>k (v::r)).trans (ih _ _ _)
def as3(l:List Nat):Nat:=List.rec (motive:=fun _=>Nat→Nat) (fun x=>x) (fun x _ ih _=>ih x) l 0
theorem ai4(l:List Nat):as3 l=vz l:=by
 have:∀(l:List Nat) (x:Nat),List.rec (motive:=fun _=>Nat→Nat) (fun x=>x) (fun x _ ih _=>ih x) l x=vz (x::l):=by
  intro l
  induction l with
  |nil=>intro x;rfl
  |cons y l ih=>intro x;exact ih y
 cases l with
 |nil=>rfl
 |cons x l=>exact this l x
def an7(p:Nat)(low a:List Nat)(bs:List Nat):(List Nat→Bool)→Bool:=
 List.rec (motive:=fun _=>(List Nat→Bool)→Bool) (fun k=>k (fA low.length)) (fun b _ ih k=>ih fun out=>auh p (as3 out) b (0::out) low a k) bs
theorem adm(p:Nat)(low a bs:List Nat)(k:List Nat→Bool):an7 p low a bs k=k (mulL p low a bs):=by
 induction bs generalizing k with
 |nil=>rfl
 |cons b bs ih=>
  refine(ih _).trans ((an6 ..).trans ?_)
  rw[ai4];rfl
def RY(l:List Nat):List Nat→Bool:=
 List.rec (motive:=fun _=>List Nat→Bool) (fun k=>List.rec (motive:=fun _=>Bool) true (fun _ _ _=>false) k) (fun x _ ih k=>List.rec (motive:=fun _=>Bool) false (fun y k _=>Tu (Nat.beq x y) (ih k) false) k) l
theorem Up(a b:List Nat):RY a b=true↔a=b:=by
 induction a generalizing b with
 |nil=>cases b<;>simp[RY]
 |cons x a ih=>cases b with
  |nil=>simp[RY]
  |cons y b=>
   have:RY (x::a) (y::b)=Tu (Nat.beq x y) (RY a b) false:=rfl
   rw[this,Cv]
   by_cases e:x=y
   ·subst e;simp[ih]
   ·rw[if_neg (by intro h;exact e (Nat.eq_of_beq_eq_true h))];simp[e]
def Uq(p:Nat)(low one x:List Nat)(n:Nat):List Nat→Bool:=
 Nat.rec (motive:=fun _=>List Nat→Bool) (fun y=>RY y one) (fun _ ih y=>Tu (RY y one) false (an7 p low y x ih)) n
theorem af7(p:Nat)(low one x:List Nat)(n:Nat)(y:List Nat):Uq p low one x n y=true→(∀i,i<n→itL p low x i y≠one)∧itL p low x n y=one:=by
 induction n generalizing y with
 |zero=>intro h;exact⟨fun i hi=>by omega,(Up ..).1 h⟩
 |succ n ih=>
  intro h
  have e:Uq p low one x (n+1) y=Tu (RY y one) false (an7 p low y x (Uq p low one x n)):=rfl
  rw[e,Cv,adm] at h
  by_cases c:RY y one=true
  ·rw[if_pos c] at h;cases h
  ·rw[if_neg c] at h
   obtain⟨h1,h2⟩:=ih _ h
   refine⟨fun i hi=>?_,h2⟩
   cases i with
   |zero=>intro g;exact c ((Up ..).2 g)
   |succ i=>exact h1 i (by omega)
def abQ(p m:Nat):Nat→(List Nat→Bool)→Bool:=
 Nat.rec (motive:=fun _=>Nat→(List Nat→Bool)→Bool) (fun _ k=>k []) (fun _ ih x k=>lit (Nat.mod x p) fun d=>lit (Nat.div x p) fun y=>ih y fun l=>k (d::l)) m
theorem Ur(p m x:Nat)(k:List Nat→Bool):abQ p m x k=k (aN p m x):=by
 induction m generalizing x k with
 |zero=>rfl
 |succ m ih=>exact(vC (Nat.mod x p) fun d=>lit (Nat.div x p) fun y=>abQ p m y fun l=>k (d::l)).trans ((vC (Nat.div x p) fun y=>abQ p m y fun l=>k (x%p::l)).trans (ih _ _))
def as4(l:List Nat):(List Nat→Bool)→Bool:=
 List.rec (motive:=fun _=>(List Nat→Bool)→Bool) (fun k=>k []) (fun a _ ih k=>ih fun t=>List.rec (motive:=fun _=>Bool) (Tu (Nat.beq a 0) (k []) (k [a])) (fun b bs _=>k (a::b::bs)) t) l
theorem ai5(l:List Nat)(k:List Nat→Bool):as4 l k=k (trim l):=by
 induction l generalizing k with
 |nil=>rfl
 |cons a l ih=>
  refine(ih _).trans ?_
  simp only[trim]
  cases trim l with
  |nil=>
   show Tu (Nat.beq a 0) (k []) (k [a])=_
   rw[Cv]
   by_cases e:a=0
   ·subst e;rfl
   ·rw[if_neg (by intro h;exact e (Nat.eq_of_beq_eq_true h))];simp[e]
  |cons b bs=>rfl
def PU(p:Nat)(low:List Nat)(x:Nat):Bool:=abQ p low.length x fun l=>as4 l fun t=>lit (p^low.length-2) fun n=>Uq p low (ai3 low.length) t n l
def Cw(p:Nat)(low:List Nat)(n:Nat):Nat→Bool:=
 Nat.rec (motive:=fun _=>Nat→Bool) (fun _=>false) (fun _ ih x=>Tu (PU p low x) true (lit (Nat.succ x) ih)) n
def aui(p c:Nat)(l:List Nat):List Nat→(List Nat→Bool)→Bool:=
 List.rec (motive:=fun _=>List Nat→(List Nat→Bool)→Bool) (fun r k=>k r) (fun l _ ih r k=>List.rec (motive:=fun _=>Bool) (k []) (fun r rs _=>
  lit (Nat.mod (Nat.add r (Nat.mul (Nat.sub p c) l)) p) fun v=>ih rs fun t=>k (v::t)) r) l
theorem an8(p c:Nat)(l r:List Nat)(k:List Nat→Bool):aui p c l r k=k (af6 p c r l):=by
 induction l generalizing r k with
 |nil=>cases r<;>rfl
 |cons x l ih=>cases r with
  |nil=>rfl
  |cons y r=>exact(vC (Nat.mod (Nat.add y (Nat.mul (Nat.sub p c) x)) p) fun v=>aui p c l r fun t=>k (v::t)).trans (ih _ _)
def auj(p:Nat)(lr:List Nat)(n:Nat):List Nat→List Nat→(List Nat→List Nat→Bool)→Bool:=
 Nat.rec (motive:=fun _=>List Nat→List Nat→(List Nat→List Nat→Bool)→Bool) (fun r qs k=>k qs r) (fun _ ih r qs k=>List.rec (motive:=fun _=>Bool) (k qs []) (fun c rest _=>
  aui p c lr rest fun r=>ih r (c::qs) k) r) n
theorem an9(p:Nat)(lr:List Nat)(n:Nat)(r qs:List Nat)(k:List Nat→List Nat→Bool):auj p lr n r qs k=k (EE p lr n r qs).1 (EE p lr n r qs).2:=by
 induction n generalizing r qs with
 |zero=>rfl
 |succ n ih=>cases r with
  |nil=>rfl
  |cons c rest=>exact(an8 ..).trans (ih ..)
def af8(l:List Nat):Bool:=List.rec (motive:=fun _=>Bool) true (fun a _ ih=>Tu (Nat.beq a 0) ih false) l
theorem adn(l:List Nat):af8 l=wV l:=by
 induction l with
 |nil=>rfl
 |cons a l ih=>
  show Tu (Nat.beq a 0) (af8 l) false=(Nat.beq a 0&&wV l)
  rw[ih];cases Nat.beq a 0<;>rfl
def aoa(a:List Nat):List Nat→(List Nat→Bool)→Bool:=List.rec (motive:=fun _=>List Nat→(List Nat→Bool)→Bool) (fun b k=>k b) (fun x _ ih b k=>ih (x::b) k) a
theorem ado(a b:List Nat)(k:List Nat→Bool):aoa a b k=k (rev a b):=by
 induction a generalizing b with
 |nil=>rfl
 |cons x a ih=>exact ih _
def fvK(p d:Nat)(mod mr:List Nat)(kn:Bool)(ks:List Nat→List Nat→Bool)(n:Nat):Nat→Bool:=
 Nat.rec (motive:=fun _=>Nat→Bool) (fun _=>kn) (fun _ ih v=>abQ p d v fun l=>aoa l [] fun lr=>auj p lr (mod.length+1-d) mr [] fun qs r=>Tu (af8 r) (ks l qs) (lit (Nat.succ v) ih)) n
theorem auk(p d:Nat)(mod:List Nat)(kn:Bool)(ks:List Nat→List Nat→Bool)(n v:Nat):fvK p d mod (1::rev mod []) kn ks n v=match xn p d mod n v with
 |none=>kn
 |some l=>ks l (XV p l mod).1:=by
 induction n generalizing v with
 |zero=>rfl
 |succ n ih=>
  show(abQ p d v fun l=>aoa l [] fun lr=>auj p lr (mod.length+1-d) (1::rev mod []) [] fun qs r=>Tu (af8 r) (ks l qs) (lit (Nat.succ v) (fvK p d mod (1::rev mod []) kn ks n)))=_
  rw[Ur,ado,an9,Cv,vC,ih,adn]
  simp only[xn]
  have:XV p (aN p d v) mod=EE p (rev (aN p d v) []) (mod.length+1-d) (1::rev mod []) []:=by unfold XV;rw[dO]
  rw[←this,show wV (XV p (aN p d v) mod).2=vB p (aN p d v) mod from rfl]
  by_cases c:vB p (aN p d v) mod=true
  ·rw[if_pos c,if_pos c]
  ·rw[if_neg c,if_neg c]
def fdK(p:Nat)(mod mr:List Nat)(kn:Bool)(ks:List Nat→List Nat→Bool)(n:Nat):Nat→Bool:=
 Nat.rec (motive:=fun _=>Nat→Bool) (fun _=>kn) (fun _ ih d=>lit (p^d) fun c=>fvK p d mod mr (lit (Nat.succ d) ih) ks c 0) n
theorem aul(p:Nat)(mod:List Nat)(kn:Bool)(ks:List Nat→List Nat→Bool)(n d:Nat):fdK p mod (1::rev mod []) kn ks n d=match findD p mod n d with
 |none=>kn
 |some l=>ks l (XV p l mod).1:=by
 induction n generalizing d with
 |zero=>rfl
 |succ n ih=>
  show(lit (p^d) fun c=>fvK p d mod (1::rev mod []) (lit (Nat.succ d) (fdK p mod (1::rev mod []) kn ks n)) ks c 0)=_
  rw[vC,auk,vC,ih]
  simp only[findD]
  cases xn p d mod (p^d) 0<;>rfl
def aum(m:Nat)(l:List Nat):List Nat:=l++fA (m-l.length)
def abR(l:List Nat):(List Nat→Bool)→Bool:=List.rec (motive:=fun _=>(List Nat→Bool)→Bool) (fun k=>k []) (fun a _ ih k=>lit a fun a=>ih fun r=>k (a::r)) l
theorem af9(l:List Nat)(k:List Nat→Bool):abR l k=k l:=by
 induction l generalizing k with
 |nil=>rfl
 |cons a l ih=>exact(vC a fun a=>abR l fun r=>k (a::r)).trans (ih _)
def zdK(p:Nat)(mod low b:List Nat):Bool:=
 abR (aum mod.length (low++[1])) fun a=>
 Tu (Nat.beq a.length mod.length) (Tu (Nat.ble b.length mod.length) (Tu (af8 a) false (Tu (af8 b) false (an7 p mod a b fun r=>RY r (fA mod.length)))) false) false
def chk(p m v:Nat):Bool:=abQ p m v fun mod=>aoa mod [] fun mr=>fdK p mod (1::mr) (Cw p mod (p^m) 1) (zdK p mod) (m/2) 1
def ai6(f:Nat→Bool)(n:Nat):Bool:=Nat.rec (motive:=fun _=>Bool) true (fun n ih=>Tu (lit n f) ih false) n
def kF(p m:Nat):Bool:=ai6 (chk p m) (p^m)
def awM(p:Nat):Bool:=Tu (Nat.ble 2 p&&isP p (p-2) 2) (Cw p [0] p 1) true
end
end Go.Fld
end
section
namespace Go.Fld
set_option maxRecDepth 20000
theorem azl:kF 2 2=true:=by decide+kernel
theorem azm:kF 2 3=true:=by decide+kernel
theorem azn:kF 2 4=true:=by decide+kernel
theorem azo:kF 2 5=true:=by decide+kernel
theorem azp:kF 2 6=true:=by decide+kernel
theorem azq:kF 2 7=true:=by decide+kernel
theorem azr:kF 2 8=true:=by decide+kernel
theorem azs:kF 3 2=true:=by decide+kernel
theorem azt:kF 3 3=true:=by decide+kernel
theorem azu:kF 3 4=true:=by decide+kernel
theorem azv:kF 3 5=true:=by decide+kernel
theorem azw:kF 5 2=true:=by decide+kernel
theorem azx:kF 5 3=true:=by decide+kernel
theorem azy:kF 7 2=true:=by decide+kernel
theorem awN:kF 11 2=true:=by decide+kernel
theorem awO:kF 13 2=true:=by decide+kernel
theorem c1:ai6 awM 257=true:=by decide+kernel
end Go.Fld
end
section
namespace Go.Fld
structure FD where
 p:Nat
 m:Nat
 low:List Nat
 hp:2≤p
 hm:1≤m
 hl:low.length=m
 hs:Small p low
namespace FD
variable(D:FD)
def q:Nat:=D.p^D.m
def dg(x:Nat):List Nat:=aN D.p D.m x
def mul(x y:Nat):Nat:=dJ D.p (mulL D.p D.low (D.dg x) (D.dg y))
def add(x y:Nat):Nat:=dJ D.p (tB D.p (D.dg x) (D.dg y))
def neg(x:Nat):Nat:=dJ D.p (yz D.p (D.dg x))
def pw(x:Nat):Nat→Nat
 |0=>1
 |n+1=>D.mul (pw x n) x
instance nz:NeZero D.p:=⟨by have:=D.hp;omega⟩
def ph(x:Nat):V D.p:=vec (D.dg x)
theorem pp:0<D.p:=by have:=D.hp;omega
theorem q1:1<D.q:=Nat.one_lt_pow (by have:=D.hm;omega) D.hp
theorem gG(x:Nat):(D.dg x).length=D.m:=dO ..
theorem mA(x:Nat):Small D.p (D.dg x):=mz D.pp _ _
theorem PW{x:Nat}(h:x<D.q):dJ D.p (D.dg x)=x:=abJ _ _ h
theorem xZ{l:List Nat}(h:l.length=D.m)(hs:Small D.p l):D.dg (dJ D.p l)=l:=by unfold dg;rw[←h];exact abK l hs
theorem xo{l:List Nat}(h:l.length=D.m)(hs:Small D.p l):dJ D.p l<D.q:=by unfold q;rw[←h];exact abL l hs
theorem Cx(x y:Nat):(mulL D.p D.low (D.dg x) (D.dg y)).length=D.m:=by rw[xm (by rw[gG,D.hl]),D.hl]
theorem Ih(x y:Nat):(tB D.p (D.dg x) (D.dg y)).length=D.m:=by rw[XT,gG,gG];omega
theorem Ii(x:Nat):(yz D.p (D.dg x)).length=D.m:=by rw[XU,gG]
theorem x7(x y:Nat):D.mul x y<D.q:=D.xo (D.Cx x y) (vA D.pp _ _ _)
theorem Cy(x y:Nat):D.add x y<D.q:=D.xo (D.Ih x y) (FM D.pp _ _)
theorem ai7(x:Nat):D.neg x<D.q:=D.xo (D.Ii x) (FN D.pp _)
theorem ai8(x y:Nat):D.dg (D.mul x y)=mulL D.p D.low (D.dg x) (D.dg y):=D.xZ (D.Cx x y) (vA D.pp _ _ _)
theorem ext{x y:Nat}(hx:x<D.q)(hy:y<D.q)(h:D.ph x=D.ph y):x=y:=by
 rw[←D.PW hx,←D.PW hy,an2 (by rw[gG,gG]) (D.mA x) (D.mA y) h]
theorem Cz(x:Nat):Xm D.m (D.ph x):=by rw[←D.gG x];exact adl _
theorem vD(x y:Nat):D.ph (D.mul x y)=xY D.m (vec D.low) (D.ph x) (D.ph y):=by
 unfold ph
 rw[ai8,ai2 _ (by rw[gG,D.hl]),gG,D.hl]
 rfl
theorem x8(x y:Nat):D.ph (D.add x y)=uF (D.ph x) (D.ph y):=by
 unfold ph add
 rw[D.xZ (D.Ih x y) (FM D.pp _ _),aiY (by rw[gG,gG])]
theorem aun(x:Nat):D.ph (D.neg x)=an0 (D.ph x):=by
 unfold ph neg
 rw[D.xZ (D.Ii x) (FN D.pp _),aiZ (D.mA x)]
theorem Ij:D.dg 0=fA D.m:=by
 unfold dg
 generalize D.m=m
 induction m with
 |zero=>rfl
 |succ m ih=>simp[aN,fA,ih]
theorem abS:D.dg 1=ai3 D.m:=by
 unfold dg
 have h1:=D.hm
 have h2:=D.hp
 have h0:=D.Ij
 unfold dg at h0
 generalize D.m=m at*
 cases m with
 |zero=>omega
 |succ m=>
  simp only[aN,ai3,fA] at h0 ⊢
  rw[Nat.mod_eq_of_lt (by omega),Nat.div_eq_of_lt (by omega)]
  simp only[Nat.zero_div,List.cons.injEq] at h0
  rw[h0.2]
theorem adp:D.ph 0=fun _=>0:=by unfold ph;rw[Ij,KL]
theorem auo:D.ph 1=e0:=by
 unfold ph
 rw[abS]
 have h1:=D.hm
 generalize D.m=m at*
 cases m with
 |zero=>omega
 |succ m=>
  funext j
  cases j with
  |zero=>
   unfold vec e0
   simp only[ai3,List.getD_cons_zero]
   rfl
  |succ j=>
   have:=congrFun (KL (p:=D.p) m) j
   unfold vec e0 at*
   simp only[ai3,List.getD_cons_succ]
   rw[this];rfl
theorem mul_comm(x y:Nat):D.mul x y=D.mul y x:=D.ext (D.x7 ..) (D.x7 ..) (by rw[vD,vD];exact Fld.mul_comm _ _ (D.Cz x) (D.Cz y))
theorem mul_assoc(x y z:Nat):D.mul (D.mul x y) z=D.mul x (D.mul y z):=D.ext (D.x7 ..) (D.x7 ..) (by
 rw[vD,vD,vD,vD];exact Fld.mul_assoc _ _ (D.Cz x) (D.Cz y) (D.Cz z))
theorem mul_add(x y z:Nat):D.mul x (D.add y z)=D.add (D.mul x y) (D.mul x z):=D.ext (D.x7 ..) (D.Cy ..) (by
 rw[vD,x8,x8,vD,vD];exact Fld.add_mul _ _ _ _ _)
theorem mul_one{x:Nat}(h:x<D.q):D.mul x 1=x:=D.ext (D.x7 ..) h (by rw[vD,auo];exact Fld.mul_one _ _ D.hm _)
theorem one_mul{x:Nat}(h:x<D.q):D.mul 1 x=x:=by rw[mul_comm,D.mul_one h]
theorem add_comm(x y:Nat):D.add x y=D.add y x:=D.ext (D.Cy ..) (D.Cy ..) (by rw[x8,x8];funext j;unfold uF;grind)
theorem add_assoc(x y z:Nat):D.add (D.add x y) z=D.add x (D.add y z):=D.ext (D.Cy ..) (D.Cy ..) (by rw[x8,x8,x8,x8];funext j;unfold uF;grind)
theorem add_zero{x:Nat}(h:x<D.q):D.add x 0=x:=D.ext (D.Cy ..) h (by rw[x8,adp];funext j;unfold uF;grind)
theorem add_neg(x:Nat):D.add x (D.neg x)=0:=D.ext (D.Cy ..) (by have:=D.q1;omega) (by rw[x8,aun,adp];funext j;unfold uF an0;grind)
theorem mul_zero(x:Nat):D.mul x 0=0:=by
 have h0:0<D.q:=by have:=D.q1;omega
 have h1:D.add (D.mul x 0) (D.mul x 0)=D.mul x 0:=by rw[←mul_add,D.add_zero h0]
 have h2:D.add (D.add (D.mul x 0) (D.mul x 0)) (D.neg (D.mul x 0))=D.add (D.mul x 0) (D.neg (D.mul x 0)):=by rw[h1]
 rwa[add_assoc,add_neg,D.add_zero (D.x7 ..)] at h2
theorem CA(x n:Nat):D.pw x n<D.q:=by
 cases n with
 |zero=>exact D.q1
 |succ n=>exact D.x7 ..
theorem x9(x a b:Nat):D.pw x (a+b)=D.mul (D.pw x a) (D.pw x b):=by
 induction b with
 |zero=>simp only[pw,Nat.add_zero];rw[D.mul_one (D.CA x a)]
 |succ b ih=>rw[←Nat.add_assoc];simp only[pw];rw[ih,mul_assoc]
def aK(x:Nat):Prop:=x<D.q∧D.pw x (D.q-1)=1∧∀i,0<i→i<D.q-1→D.pw x i≠1
theorem aup{x:Nat}(hx:x<D.q)(i k:Nat):itL D.p D.low (D.dg x) i (D.dg (D.pw x k))=D.dg (D.pw x (k+i)):=by
 induction i generalizing k with
 |zero=>rfl
 |succ i ih=>
  simp only[itL]
  rw[←ai8,show D.mul (D.pw x k) x=D.pw x (k+1) from rfl,ih,Nat.add_right_comm,Nat.add_assoc]
theorem Us{x:Nat}(h:D.aK x){i j:Nat}(Xv:i<j)(hj:j<D.q-1):D.pw x i≠D.pw x j:=by
 intro e
 refine h.2.2 (j-i) (by omega) (by omega) ?_
 have h1:D.mul (D.pw x j) (D.pw x (D.q-1-i))=1:=by rw[←e,←x9,show i+(D.q-1-i)=D.q-1 by omega];exact h.2.1
 rw[←x9,show j+(D.q-1-i)=(j-i)+(D.q-1) by omega,x9,h.2.1,D.mul_one (D.CA ..)] at h1
 exact h1
theorem rP{x:Nat}(h:D.aK x)(i:Nat):D.pw x i≠0:=by
 intro e
 have hk:∀k,D.pw x (k*(D.q-1))=1:=by
  intro k
  induction k with
  |zero=>simp[pw]
  |succ k ih=>rw[Nat.succ_mul,x9,ih,h.2.1,D.mul_one D.q1]
 have hq:=D.q1
 have hle:i≤(i+1)*(D.q-1):=by
  have h1:i+1≤(i+1)*(D.q-1):=Nat.le_mul_of_pos_right _ (by omega)
  omega
 have h1:D.pw x ((i+1)*(D.q-1))=D.mul (D.pw x i) (D.pw x ((i+1)*(D.q-1)-i)):=by rw[←x9];congr 1;omega
 rw[hk,e,mul_comm,mul_zero] at h1
 cases h1
theorem XW:∀(n:Nat) (l:List Nat),l.Nodup→(∀x∈l,x<n)→l.length≤n:=by
 intro n
 induction n with
 |zero=>
  intro l _ h
  cases l with
  |nil=>exact Nat.le_refl _
  |cons x l=>exact absurd (h x (List.mem_cons_self ..)) (Nat.not_lt_zero _)
 |succ n ih=>
  intro l hn h
  by_cases hm:n∈l
  ·have h1:=ih (l.erase n) (hn.erase n) (fun x hx=>by
    obtain⟨h1,h2⟩:=hn.mem_erase_iff.1 hx
    have:=h x h2;omega)
   rw[List.length_erase_of_mem hm] at h1
   omega
  ·have:=ih l hn (fun x hx=>by have h1:=h x hx;have:x≠n:=fun e=>hm (e▸hx);omega)
   omega
theorem ai9{n:Nat}(f:Nat→Nat)(hf:∀i,i<n→f i<n)(hi:∀i j,i<j→j<n→f i≠f j):∀y,y<n→∃i,i<n∧f i=y:=by
 intro y hy
 refine Classical.byContradiction fun hc=>?_
 have hn:((List.range n).map f).Nodup:=by
  unfold List.Nodup
  rw[List.pairwise_map]
  refine List.Pairwise.imp_of_mem (R:=fun i j=>i<j) ?_ List.pairwise_lt_range
  intro i j _ hj Xv
  exact hi i j Xv (List.mem_range.1 hj)
 have hy2:y∉(List.range n).map f:=by
  intro h
  obtain⟨i,h1,h2⟩:=List.mem_map.1 h
  exact hc ⟨i,List.mem_range.1 h1,h2⟩
 have:=XW n (y::(List.range n).map f) (List.nodup_cons.2 ⟨hy2,hn⟩) (fun x hx=>by
  rcases List.mem_cons.1 hx with rfl|hx
  ·exact hy
  ·obtain⟨i,h1,rfl⟩:=List.mem_map.1 hx
   exact hf i (List.mem_range.1 h1))
 simp at this;omega
theorem yA{x:Nat}(h:D.aK x){y:Nat}(h0:y≠0)(hy:y<D.q):∃i,i<D.q-1∧D.pw x i=y:=by
 have hq:=D.q1
 obtain⟨i,h1,h2⟩:=ai9 (n:=D.q-1) (fun i=>D.pw x i-1) (fun i _=>by have:=D.CA x i;have:=D.rP h i;omega)
  (fun i j Xv hj e=>D.Us h Xv hj (by have:=D.rP h i;have:=D.rP h j;omega)) (y-1) (by omega)
 exact⟨i,h1,by have:=D.rP h i;omega⟩
theorem aja{x:Nat}(h:D.aK x){a b:Nat}(ha:a<D.q)(hb:b<D.q)(e:D.mul a b=0):a=0∨b=0:=by
 by_cases h1:a=0
 ·exact .inl h1
 ·by_cases h2:b=0
  ·exact .inr h2
  ·obtain⟨i,_,rfl⟩:=D.yA h h1 ha
   obtain⟨j,_,rfl⟩:=D.yA h h2 hb
   rw[←x9] at e
   exact absurd e (D.rP h _)
end FD
end Go.Fld
end
section
namespace Go.Fld
theorem ajb(l:List Nat):∃k,l=trim l++fA k:=by
 induction l with
 |nil=>exact⟨0,rfl⟩
 |cons a l ih=>
  obtain⟨k,hk⟩:=ih
  simp only[trim]
  cases ht:trim l with
  |nil=>
   rw[ht,List.nil_append] at hk
   by_cases e:a=0
   ·subst e
    exact⟨k+1,by rw[hk];rfl⟩
   ·exact⟨k,by simp[e,hk]⟩
  |cons b bs=>
   rw[ht] at hk
   exact⟨k,by rw[hk];rfl⟩
theorem aga(p:Nat)(low a:List Nat)(ha:a.length=low.length)(n:Nat)(hn:low.length≤n):jo p 0 0 (fA n) low a=fA low.length:=by
 induction low generalizing a n with
 |nil=>cases n<;>rfl
 |cons l low ih=>
  obtain⟨x,a,rfl⟩:∃x a',a=x::a':=by cases a with|nil=>simp at ha|cons x a=>exact⟨x,a,rfl⟩
  obtain⟨n,rfl⟩:∃k,n=k+1:=⟨n-1,by simp at hn;omega⟩
  simp only[fA,jo,List.length_cons]
  rw[ih a (by simpa using ha) n (by simpa using hn)]
  simp
theorem XX(n:Nat):vz (fA n)=0:=by
 induction n with
 |zero=>rfl
 |succ n ih=>cases n with
  |zero=>rfl
  |succ n=>exact ih
theorem abT(p:Nat)(low a:List Nat)(ha:a.length=low.length)(k:Nat):mulL p low a (fA k)=fA low.length:=by
 induction k with
 |zero=>rfl
 |succ k ih=>
  simp only[fA,mulL,ih,Tt,XX]
  exact aga p low a ha (low.length+1) (by omega)
theorem XY(p:Nat)(low a:List Nat)(ha:a.length=low.length)(bs:List Nat)(k:Nat):mulL p low a (bs++fA k)=mulL p low a bs:=by
 induction bs with
 |nil=>exact abT p low a ha k
 |cons b bs ih=>simp only[List.cons_append,mulL,ih]
theorem agb(p:Nat)(low a:List Nat)(ha:a.length=low.length)(bs:List Nat):mulL p low a (trim bs)=mulL p low a bs:=by
 obtain⟨k,hk⟩:=ajb bs
 conv=>rhs;rw[hk]
 rw[XY p low a ha]
theorem ajc(p:Nat)(low x:List Nat)(n:Nat)(y:List Nat)(hy:y.length=low.length):itL p low (trim x) n y=itL p low x n y:=by
 induction n generalizing y with
 |zero=>rfl
 |succ n ih=>simp only[itL];rw[agb p low y hy,ih _ (xm hy _)]
namespace FD
variable(D:FD)
theorem ajd(x:Nat):D.dg x=D.dg (dJ D.p (D.dg x)):=(D.xZ (D.gG x) (D.mA x)).symm
theorem aob{x:Nat}(h:PU D.p D.low x=true):D.aK (dJ D.p (D.dg x)):=by
 unfold PU at h
 rw[Ur,ai5,vC,D.hl] at h
 obtain⟨h1,h2⟩:=af7 _ _ _ _ _ _ h
 have hd:aN D.p D.m x=D.dg x:=rfl
 have hq:D.p^D.m=D.q:=rfl
 rw[hd,hq] at h1 h2
 have hlt:=D.xo (D.gG x) (D.mA x)
 have z8:=D.q1
 have it:∀i,itL D.p D.low (trim (D.dg x)) i (D.dg x)=D.dg (D.pw (dJ D.p (D.dg x)) (i+1)):=by
  intro i
  rw[ajc _ _ _ _ _ (by rw[gG,D.hl]),D.ajd x]
  have:=D.aup hlt i 1
  rw[show D.pw (dJ D.p (D.dg x)) 1=dJ D.p (D.dg x) from D.one_mul hlt,Nat.add_comm 1 i] at this
  rw[this,←D.ajd x]
 refine⟨hlt,?_,?_⟩
 ·rw[it,←D.abS,show D.q-2+1=D.q-1 by omega] at h2
  have:=congrArg (dJ D.p) h2
  rwa[D.PW (D.CA ..),D.PW z8] at this
 ·intro i h0 hi e
  have:=h1 (i-1) (by omega)
  rw[it,←D.abS,show i-1+1=i by omega,e] at this
  exact this rfl
theorem Tv{n x:Nat}(h:Cw D.p D.low n x=true):∃x,D.aK x:=by
 induction n generalizing x with
 |zero=>cases h
 |succ n ih=>
  have e:Cw D.p D.low (n+1) x=Tu (PU D.p D.low x) true (lit (Nat.succ x) (Cw D.p D.low n)):=rfl
  rw[e,Cv,vC] at h
  by_cases c:PU D.p D.low x=true
  ·exact⟨_,D.aob c⟩
  ·rw[if_neg c] at h;exact ih h
theorem PX{l:List Nat}:wV l=true↔l=fA l.length:=by
 induction l with
 |nil=>simp[wV,fA]
 |cons a l ih=>
  simp only[wV,Bool.and_eq_true,ih,fA,List.length_cons,List.cons.injEq]
  constructor
  ·rintro⟨h1,h2⟩;exact⟨Nat.eq_of_beq_eq_true h1,h2⟩
  ·rintro⟨h1,h2⟩;exact⟨by rw[h1];rfl,h2⟩
theorem awP{low b:List Nat}(h:zdK D.p D.low low b=true)(DD:Small D.p low)(hb:Small D.p b)(x:Nat):¬D.aK x:=by
 unfold zdK at h
 rw[af9] at h
 simp only[Cv,adn] at h
 split at h<;>try contradiction
 rename_i h1
 split at h<;>try contradiction
 rename_i h2
 split at h<;>try contradiction
 rename_i h3
 split at h<;>try contradiction
 rename_i h4
 rw[adm,Up] at h
 have h1:=Nat.eq_of_beq_eq_true h1
 have h2:=Nat.le_of_ble_eq_true h2
 rw[D.hl] at h h1 h2 h3
 generalize ha:aum D.m (low++[1])=a at h h1 h3
 have Pr:Small D.p a:=by
  intro c hc
  rw[←ha] at hc
  unfold aum at hc
  rcases List.mem_append.1 hc with hc|hc
  ·rcases List.mem_append.1 hc with hc|hc
   ·exact DD c hc
   ·have:=D.hp;simp at hc;omega
  ·exact Cu D.pp _ c hc
 intro hx
 have mg:(b++fA (D.m-b.length)).length=D.m:=by rw[List.length_append,Ig];omega
 have hbs:Small D.p (b++fA (D.m-b.length)):=by
  intro c hc
  rcases List.mem_append.1 hc with hc|hc
  ·exact hb c hc
  ·exact Cu D.pp _ c hc
 have hm:D.mul (dJ D.p a) (dJ D.p (b++fA (D.m-b.length)))=0:=by
  unfold mul
  rw[D.xZ h1 Pr,D.xZ mg hbs,XY _ _ _ (by rw[h1,D.hl]),h,←D.Ij,D.PW (by have:=D.q1;omega)]
 rcases D.aja hx (D.xo h1 Pr) (D.xo mg hbs) hm with e|e
 ·have:=D.xZ h1 Pr
  rw[e,Ij] at this
  apply h3
  rw[PX,h1,this]
 ·have:=D.xZ mg hbs
  rw[e,Ij] at this
  apply h4
  rw[PX]
  have h5:b=(fA D.m).take b.length:=by rw[this,List.take_left]
  have h6:∀n k,k≤n→(fA n).take k=fA k:=by
   intro n
   induction n with
   |zero=>intro k hk;obtain rfl:k=0:=by omega
          rfl
   |succ n ih=>
    intro k hk
    cases k with
    |zero=>rfl
    |succ k=>simp[fA,ih k (by omega)]
  rw[h6 _ _ h2] at h5
  exact h5
theorem abU{p:Nat}(hp:0<p)(c:Nat)(r l:List Nat)(hr:Small p r):Small p (af6 p c r l):=by
 induction r generalizing l with
 |nil=>cases l with
  |nil=>exact hr
  |cons x l=>intro a h;cases h
 |cons y r ih=>cases l with
  |nil=>exact hr
  |cons x l=>
   intro a h
   rcases List.mem_cons.1 h with rfl|h
   ·exact Nat.mod_lt _ hp
   ·exact ih l (fun b hb=>hr b (List.mem_cons_of_mem _ hb)) a h
theorem abV{p:Nat}(hp:0<p)(lr:List Nat)(n:Nat)(r qs:List Nat)(hr:Small p r)(hq:Small p qs):Small p (EE p lr n r qs).1:=by
 induction n generalizing r qs with
 |zero=>exact hq
 |succ n ih=>cases r with
  |nil=>exact hq
  |cons c rest=>
   refine ih _ _ (abU hp c rest lr fun b hb=>hr b (List.mem_cons_of_mem _ hb)) ?_
   intro a h
   rcases List.mem_cons.1 h with rfl|h
   ·exact hr _ (List.mem_cons_self ..)
   ·exact hq a h
theorem aoc(a b:List Nat)(x:Nat):x∈rev a b↔x∈a∨x∈b:=by
 induction a generalizing b with
 |nil=>simp[rev]
 |cons y a ih=>simp only[rev,ih,List.mem_cons];grind
theorem XZ{p d:Nat}(hp:0<p){mod:List Nat}{n v:Nat}{l:List Nat}(h:xn p d mod n v=some l):Small p l:=by
 induction n generalizing v with
 |zero=>cases h
 |succ n ih=>
  simp only[xn] at h
  split at h
  ·cases h;exact mz hp _ _
  ·exact ih h
theorem X0{p d:Nat}(hp:0<p){mod:List Nat}{n:Nat}{l:List Nat}(h:findD p mod n d=some l):Small p l:=by
 induction n generalizing d with
 |zero=>cases h
 |succ n ih=>
  simp only[findD] at h
  split at h
  ·rename_i l' hv;cases h;exact XZ hp hv
  ·exact ih h
theorem aod(h:chk D.p D.m (dJ D.p D.low)=true):abP D.p D.low=true↔∃x,D.aK x:=by
 unfold chk at h
 have hd:aN D.p D.m (dJ D.p D.low)=D.low:=D.xZ D.hl D.hs
 rw[Ur,ado,aul,hd] at h
 unfold abP
 rw[D.hl]
 cases hf:findD D.p D.low (D.m/2) 1 with
 |none=>
  rw[hf] at h
  simp only[Option.isNone_none,true_iff]
  exact D.Tv h
 |some l=>
  rw[hf] at h
  simp only[Option.isNone_some,Bool.false_eq_true,false_iff,not_exists]
  refine D.awP h (X0 D.pp hf) ?_
  unfold XV
  refine abV D.pp _ _ _ _ ?_ (by intro a h;cases h)
  intro a ha
  rcases List.mem_cons.1 ha with rfl|ha
  ·have:=D.hp;omega
  ·rcases(aoc ..).1 ha with ha|ha
   ·exact D.hs a ha
   ·cases ha
theorem X1{f:Nat→Bool}{n:Nat}(h:ai6 f n=true){i:Nat}(hi:i<n):f i=true:=by
 induction n with
 |zero=>omega
 |succ n ih=>
  have e:ai6 f (n+1)=Tu (lit n f) (ai6 f n) false:=rfl
  rw[e,Cv,vC] at h
  by_cases c:f n=true
  ·rw[if_pos c] at h
   by_cases e:i=n
   ·subst e;exact c
   ·exact ih h (by omega)
  ·rw[if_neg c] at h;cases h
def prB(n:Nat):Bool:=Nat.ble 2 n&&isP n (n-2) 2
def aje:List (Nat×Nat):=[(2,2),(2,3),(2,4),(2,5),(2,6),(2,7),(2,8),(3,2),(3,3),(3,4),(3,5),(5,2),(5,3),(7,2),(11,2),(13,2)]
theorem auq:∀p<17,∀m<9,prB p=true→2≤m→p^m≤256→kF p m=true:=by
 intro p hp m hm hpr h2 hpm
 have hb:((List.range 17).all fun p=>(List.range 9).all fun m=>!(prB p&&Nat.ble 2 m&&Nat.ble (p^m) 256)||aje.any fun x=>Nat.beq x.1 p&&Nat.beq x.2 m)=true:=by decide+kernel
 have h1:=List.all_eq_true.1 (List.all_eq_true.1 hb p (List.mem_range.2 hp)) m (List.mem_range.2 hm)
 rw[hpr,Nat.ble_eq_true_of_le h2,Nat.ble_eq_true_of_le hpm] at h1
 simp only[Bool.and_self,Bool.not_true,Bool.false_or] at h1
 obtain⟨⟨a,b⟩,h3,h4⟩:=List.any_eq_true.1 h1
 simp only[Bool.and_eq_true] at h4
 obtain⟨h4,h5⟩:=h4
 have h4:=Nat.eq_of_beq_eq_true h4
 have h5:=Nat.eq_of_beq_eq_true h5
 subst h4 h5
 have aba:=h3
 unfold aje at aba
 simp only[List.mem_cons,Prod.mk.injEq,List.not_mem_nil,or_false] at aba
 rcases aba with⟨rfl,rfl⟩|⟨rfl,rfl⟩|⟨rfl,rfl⟩|⟨rfl,rfl⟩|⟨rfl,rfl⟩|⟨rfl,rfl⟩|⟨rfl,rfl⟩|⟨rfl,rfl⟩|⟨rfl,rfl⟩|⟨rfl,rfl⟩|⟨rfl,rfl⟩|⟨rfl,rfl⟩|⟨rfl,rfl⟩|⟨rfl,rfl⟩|⟨rfl,rfl⟩|⟨rfl,rfl⟩
 ·exact azl
 ·exact azm
 ·exact azn
 ·exact azo
 ·exact azp
 ·exact azq
 ·exact azr
 ·exact azs
 ·exact azt
 ·exact azu
 ·exact azv
 ·exact azw
 ·exact azx
 ·exact azy
 ·exact awN
 ·exact awO
theorem adr(hm:2≤D.m)(hq:D.q≤256)(hp:prB D.p=true):abP D.p D.low=true↔∃x,D.aK x:=by
 refine D.aod ?_
 have h2:=D.hp
 have Kx:D.p<17:=by
  refine Classical.byContradiction fun hc=>?_
  have h1:17^2≤D.p^2:=Nat.pow_le_pow_left (by omega) 2
  have h3:D.p^2≤D.p^D.m:=Nat.pow_le_pow_right (by omega) hm
  unfold q at hq
  omega
 have h9:D.m<9:=by
  refine Classical.byContradiction fun hc=>?_
  have h1:2^9≤D.p^9:=Nat.pow_le_pow_left h2 9
  have h3:D.p^9≤D.p^D.m:=Nat.pow_le_pow_right (by omega) (by omega)
  unfold q at hq
  omega
 exact X1 (auq D.p Kx D.m h9 hp hm hq) (D.xo D.hl D.hs)
theorem abW(hm:D.m=1)(DD:D.low=[0])(hq:D.p≤256)(hp:prB D.p=true):∃x,D.aK x:=by
 have:=X1 c1 (show D.p<257 by omega)
 unfold awM at this
 rw[show(Nat.ble 2 D.p&&isP D.p (D.p-2) 2)=prB D.p from rfl,Cv,if_pos hp,←DD] at this
 exact D.Tv this
end FD
end Go.Fld
end
section
namespace Go.Fld
structure Fld(α:Type) where
 zero:α
 one:α
 add:α→α→α
 mul:α→α→α
 neg:α→α
 inv:α→α
 dec:DecidableEq α
 add_comm:∀a b,add a b=add b a
 add_assoc:∀a b c,add (add a b) c=add a (add b c)
 add_zero:∀a,add a zero=a
 add_neg:∀a,add a (neg a)=zero
 mul_comm:∀a b,mul a b=mul b a
 mul_assoc:∀a b c,mul (mul a b) c=mul a (mul b c)
 mul_one:∀a,mul a one=a
 mul_add:∀a b c,mul a (add b c)=add (mul a b) (mul a c)
 xp:∀a,a≠zero→mul a (inv a)=one
 acN:one≠zero
namespace FD
variable(D:FD)
def fi(x:Nat):Nat→Nat→Nat
 |0,_=>0
 |n+1,y=>if D.mul x y=1 then y else fi x n (y+1)
def inv(x:Nat):Nat:=D.fi x (D.q-1) 1
theorem ads(x:Nat):∀n y,(∃z,y≤z∧z<y+n∧D.mul x z=1)→D.mul x (D.fi x n y)=1∧y≤D.fi x n y∧D.fi x n y<y+n:=by
 intro n
 induction n with
 |zero=>rintro y ⟨z,h1,h2,_⟩;omega
 |succ n ih=>
  rintro y ⟨z,h1,h2,h3⟩
  unfold fi
  by_cases e:D.mul x y=1
  ·rw[if_pos e];exact⟨e,by omega,by omega⟩
  ·rw[if_neg e]
   have hz:z≠y:=fun h=>e (h▸h3)
   obtain⟨a,b,c⟩:=ih (y+1) ⟨z,by omega,by omega,h3⟩
   exact⟨a,by omega,by omega⟩
theorem aoe(x:Nat):∀n y,(∀z,y≤z→z<y+n→D.mul x z≠1)→D.fi x n y=0:=by
 intro n
 induction n with
 |zero=>intro y _;rfl
 |succ n ih=>
  intro y h
  unfold fi
  rw[if_neg (h y (by omega) (by omega))]
  exact ih _ fun z h1 h2=>h z (by omega) (by omega)
theorem abX(x:Nat):D.inv x<D.q:=by
 have hq:=D.q1
 by_cases h:∃z,1≤z∧z<1+(D.q-1)∧D.mul x z=1
 ·have:=(D.ads x _ _ h).2.2
  unfold inv;omega
 ·unfold inv
  rw[D.aoe x _ _ fun z h1 h2 h3=>h ⟨z,h1,h2,h3⟩];omega
variable{D}
theorem X2{g:Nat}(hg:D.aK g){i:Nat}(hi:i<D.q-1):D.mul (D.pw g i) (D.pw g ((D.q-1-i)%(D.q-1)))=1:=by
 have h1:=hg.2.1
 by_cases h:i=0
 ·subst h
  rw[Nat.sub_zero,Nat.mod_self]
  exact D.mul_one D.q1
 ·rw[Nat.mod_eq_of_lt (by omega),←x9,show i+(D.q-1-i)=D.q-1 by omega,h1]
theorem xp{g:Nat}(hg:D.aK g){x:Nat}(h0:x≠0)(hx:x<D.q):D.mul x (D.inv x)=1:=by
 obtain⟨i,hi,rfl⟩:=D.yA hg h0 hx
 refine(D.ads _ _ _ ⟨D.pw g ((D.q-1-i)%(D.q-1)),?_,?_,X2 hg hi⟩).1
 ·have:=D.rP hg ((D.q-1-i)%(D.q-1));omega
 ·have:=D.CA g ((D.q-1-i)%(D.q-1));omega
theorem abY{g:Nat}(hg:D.aK g){x y:Nat}(hx:x<D.q)(hy:y<D.q)(h:D.mul x y=1):D.inv x=y:=by
 have h0:x≠0:=by
  rintro rfl
  rw[D.mul_comm,D.mul_zero] at h;cases h
 have h1:=xp hg h0 hx
 have:D.mul (D.mul x y) (D.inv x)=D.mul (D.mul x (D.inv x)) y:=by rw[D.mul_assoc,D.mul_comm y,←D.mul_assoc]
 rw[h,h1,D.one_mul (D.abX x),D.one_mul hy] at this
 exact this
def aC{g:Nat}(hg:D.aK g):Fld (Fin D.q) where
 zero:=⟨0,by have:=D.q1;omega⟩
 one:=⟨1,D.q1⟩
 add a b:=⟨D.add a.1 b.1,D.Cy ..⟩
 mul a b:=⟨D.mul a.1 b.1,D.x7 ..⟩
 neg a:=⟨D.neg a.1,D.ai7 ..⟩
 inv a:=⟨D.inv a.1,D.abX ..⟩
 dec:=inferInstance
 add_comm a b:=Fin.ext (D.add_comm ..)
 add_assoc a b c:=Fin.ext (D.add_assoc ..)
 add_zero a:=Fin.ext (D.add_zero a.2)
 add_neg a:=Fin.ext (D.add_neg ..)
 mul_comm a b:=Fin.ext (D.mul_comm ..)
 mul_assoc a b c:=Fin.ext (D.mul_assoc ..)
 mul_one a:=Fin.ext (D.mul_one a.2)
 mul_add a b c:=Fin.ext (D.mul_add ..)
 xp a h:=Fin.ext (xp hg (fun e=>h (Fin.ext e)) a.2)
 acN e:=by have:=congrArg Fin.val e;cases this
end FD
namespace Fld
variable{α:Type}(F:Fld α)
theorem zero_add(a:α):F.add F.zero a=a:=by rw[F.add_comm,F.add_zero]
theorem one_mul(a:α):F.mul F.one a=a:=by rw[F.mul_comm,F.mul_one]
theorem neg_add(a:α):F.add (F.neg a) a=F.zero:=by rw[F.add_comm,F.add_neg]
theorem add_left_cancel{a b c:α}(h:F.add a b=F.add a c):b=c:=by
 have:=congrArg (F.add (F.neg a)) h
 rwa[←F.add_assoc,←F.add_assoc,F.neg_add,F.zero_add,F.zero_add] at this
theorem mul_zero(a:α):F.mul a F.zero=F.zero:=by
 apply F.add_left_cancel (a:=F.mul a F.zero)
 rw[←F.mul_add,F.add_zero,F.add_zero]
theorem zero_mul(a:α):F.mul F.zero a=F.zero:=by rw[F.mul_comm,F.mul_zero]
theorem add_mul(a b c:α):F.mul (F.add a b) c=F.add (F.mul a c) (F.mul b c):=by rw[F.mul_comm,F.mul_add,F.mul_comm c a,F.mul_comm c b]
theorem PY{a b:α}(h:F.add a b=F.zero):b=F.neg a:=F.add_left_cancel (h.trans (F.add_neg a).symm)
theorem neg_mul(a b:α):F.mul (F.neg a) b=F.neg (F.mul a b):=F.PY (by rw[←F.add_mul,F.add_neg,F.zero_mul])
theorem neg_zero:F.neg F.zero=F.zero:=(F.PY (F.add_zero _)).symm
theorem aur{a b:α}(ha:a≠F.zero)(hb:b≠F.zero):F.mul a b≠F.zero:=by
 intro h
 have h1:F.mul (F.mul a b) (F.inv a)=F.mul b (F.mul a (F.inv a)):=by rw[F.mul_comm a b,F.mul_assoc]
 rw[h,F.zero_mul,F.xp a ha,F.mul_one] at h1
 exact hb h1.symm
theorem inv_mul{a:α}(ha:a≠F.zero):F.mul (F.inv a) a=F.one:=by rw[F.mul_comm,F.xp a ha]
theorem Ut(a b c d:α):F.add (F.add a b) (F.add c d)=F.add (F.add a c) (F.add b d):=by
 rw[F.add_assoc,F.add_assoc,←F.add_assoc b,F.add_comm b c,F.add_assoc c]
theorem inv_one:F.inv F.one=F.one:=by
 have:=F.xp F.one F.acN
 rwa[F.one_mul] at this
end Fld
end Go.Fld
end
section
namespace Go.Fld
section
variable{p:Nat}[NeZero p]
theorem OJ(n:Nat)(a:Nat→Fin p)(f:Nat→V p):lc (n+1) a f=uF (lc n a f) (fun j=>a n*f n j):=rfl
theorem ajf{n k v:Nat}{c:List Nat}{d:Fin p}(f:Nat→V p)(hk:k<n)(hc:k<c.length)(hv:Fin.ofNat p v=Fin.ofNat p c[k]+d):
 lc n (vec (c.set k v)) f=uF (lc n (vec c) f) (fun j=>d*f k j):=by
 funext j
 unfold lc uF
 have e:∀i,i<n→vec (c.set k v) i*f i j=vec c i*f i j+(if i=k then d*f k j else 0):=by
  intro i _
  unfold vec
  by_cases h:i=k
  ·subst h
   rw[if_pos rfl,List.getD_eq_getElem?_getD,List.getElem?_set_self hc,lu _ hc,Option.getD_some,hv]
   grind
  ·rw[if_neg h,List.getD_eq_getElem?_getD,List.getElem?_set_ne (fun e=>h e.symm),←List.getD_eq_getElem?_getD]
   grind
 rw[eJ e,abH]
 congr 1
 rw[abI (k:=k) hk (fun i _ iH=>by rw[if_neg iH]),if_pos rfl]
variable(m:Nat)(low:V p)
def Uu(n:Nat)(c:List Nat):V p:=lc n (vec c) (fun k=>tp m low k e0)
theorem azz(hm:0<m):tp m low m e0=lc m (fun j=> -low j) (fun j=>tp m low j e0):=by
 have h1:tp m low m e0=T m low (tp m low (m-1) e0):=by
  conv=>lhs;rw[show m=1+(m-1) by omega,PQ]
  rw[show 1+(m-1)=m by omega];rfl
 rw[h1,adk m low (m-1) (by omega)]
 have hs:Xm m (fun j=>if j<m then-low j else 0):=fun j hj=>by dsimp only;rw[if_neg (by omega)]
 have h2:=aiX m low hs
 have h3:lc m (fun j=>if j<m then-low j else 0) (fun i=>tp m low i e0)=lc m (fun j=> -low j) (fun j=>tp m low j e0):=by
  funext k
  unfold lc
  exact eJ fun i hi=>by dsimp only;rw[if_pos hi]
 rw[←h3,h2]
 funext j
 unfold T
 dsimp only
 by_cases hj:j<m
 ·rw[if_pos hj,if_pos hj,if_pos rfl]
  by_cases h0:j=0
  ·rw[if_pos h0];grind
  ·rw[if_neg h0,if_neg (by omega)];grind
 ·rw[if_neg hj,if_neg hj]
theorem awQ(hm:0<m){i:Nat}(hi:m≤i)(a:Fin p):(fun j=>a*tp m low i e0 j)=lc m (fun j=> -(a*low j)) (fun j=>tp m low (i-m+j) e0):=by
 have h1:tp m low i e0=lc m (fun j=> -low j) (fun j=>tp m low (i-m+j) e0):=by
  conv=>lhs;rw[show i=(i-m)+m by omega,PQ,azz m low hm,aiW]
  congr 1
  funext j
  rw[PQ]
 rw[h1]
 funext k
 unfold lc
 rw[←PO]
 exact eJ fun j _=>by grind
theorem ajg{c:List Nat}(hc:m≤c.length):Uu m low m c=vec (c.take m):=by
 have hs:Xm m (vec (p:=p) (c.take m)):=by
  have:=adl (p:=p) (c.take m)
  rwa[List.length_take,Nat.min_eq_left hc] at this
 have:=aiX m low hs
 rw[←this]
 funext k
 unfold Uu lc
 refine eJ fun i hi=>?_
 congr 1
 unfold vec
 rw[lu _ (show i<c.length by omega),lu _ (show i<(c.take m).length by simp;omega)]
 simp
end
namespace FD
variable(D:FD)
theorem abZ{x y:Nat}{c:List Nat}(hc:D.m≤c.length)(hs:Small D.p c)
 (h:Uu D.m (vec D.low) D.m c=lc D.m (D.ph x) (fun i=>lc D.m (D.ph y) (fun j=>tp D.m (vec D.low) (i+j) e0))):dJ D.p (c.take D.m)=D.mul x y:=by
 have hl:(c.take D.m).length=D.m:=by simp;omega
 have hss:Small D.p (c.take D.m):=fun a ha=>hs a (List.mem_of_mem_take ha)
 refine D.ext (D.xo hl hss) (D.x7 x y) ?_
 rw[vD,_root_.Go.Fld.mul_comm _ _ (D.Cz x) (D.Cz y),Uo _ _ (D.Cz y)]
 have h1:D.ph (dJ D.p (c.take D.m))=vec (c.take D.m):=by unfold ph;rw[D.xZ hl hss]
 rw[h1,←ajg _ (vec D.low) hc,h]
 congr 1
 funext i
 congr 1
 funext j
 rw[Nat.add_comm]
end FD
end Go.Fld
end
section
namespace Go.Fld.Fld
variable{α:Type}(F:Fld α)
def bF(v:List α)(a:α)(u:List α):List α:=List.zipWith (fun x y=>F.add x (F.mul a y)) v u
def pQ(a:α)(v:List α):List α:=v.map (F.mul a)
theorem bH(v:List α)(a:α)(u:List α)(h:v.length=u.length):(F.bF v a u).length=v.length:=by
 unfold bF;rw[List.length_zipWith];omega
theorem dQ(a:α)(v:List α):(F.pQ a v).length=v.length:=by simp[pQ]
theorem yB(v u:List α)(h:v.length=u.length):F.bF v F.zero u=v:=by
 induction v generalizing u with
 |nil=>rfl
 |cons x v ih=>cases u with
  |nil=>cases h
  |cons y u=>
   show F.add x (F.mul F.zero y)::F.bF v F.zero u=x::v
   rw[F.zero_mul,F.add_zero,ih u (by simpa using h)]
theorem adt(v:List α):F.pQ F.one v=v:=by
 unfold pQ
 conv=>rhs;rw[←List.map_id v]
 exact List.map_congr_left fun x _=>F.one_mul x
def nX(rows:List (List α))(k c:Nat):α:=(rows.getD k []).getD c F.zero
def pick(rows:List (List α))(c:Nat):Nat→Nat→Option Nat
 |0,_=>none
 |n+1,k=>match F.dec (F.nX rows k c) F.zero with
  |isTrue _=>pick rows c n (k+1)
  |isFalse _=>some k
def DN(rows:List (List α))(i k:Nat):List (List α):=(rows.set i (rows.getD k [])).set k (rows.getD i [])
def PZ(rows:List (List α))(i c:Nat):List (List α):=rows.mapIdx fun j r=>if j=i then r else F.bF r (F.neg (r.getD c F.zero)) (rows.getD i [])
def norm(rows:List (List α))(i c:Nat):List (List α):=rows.set i (F.pQ (F.inv (F.nX rows i c)) (rows.getD i []))
def jx(rows:List (List α))(i k c:Nat):List (List α):=F.PZ (F.norm (DN rows i k) i c) i c
def rQ:Nat→Nat→List (List α)→List Nat→List (List α)×List Nat
 |0,_,rows,ps=>(rows,ps)
 |n+1,c,rows,ps=>match F.pick rows c (rows.length-ps.length) ps.length with
  |none=>rQ n (c+1) rows ps
  |some k=>rQ n (c+1) (F.jx rows ps.length k c) (ps++[c])
def aY(rows:List (List α))(cols:Nat):List (List α)×List Nat:=((F.rQ cols 0 rows []).1.take (F.rQ cols 0 rows []).2.length,(F.rQ cols 0 rows []).2)
theorem yC{rows:List (List α)}{c n k j:Nat}(h:F.pick rows c n k=some j):k≤j∧j<k+n∧F.nX rows j c≠F.zero∧∀i,k≤i→i<j→F.nX rows i c=F.zero:=by
 induction n generalizing k with
 |zero=>cases h
 |succ n ih=>
  unfold pick at h
  split at h
  ·rename_i hz _
   obtain⟨a,b,c',d⟩:=ih h
   refine⟨by omega,by omega,c',fun i h1 h2=>?_⟩
   by_cases e:i=k
   ·subst e;exact hz
   ·exact d i (by omega) h2
  ·rename_i hz _
   cases h
   exact⟨Nat.le_refl _,by omega,hz,fun i h1 h2=>by omega⟩
theorem agc{rows:List (List α)}{c n k:Nat}(h:F.pick rows c n k=none):∀i,k≤i→i<k+n→F.nX rows i c=F.zero:=by
 induction n generalizing k with
 |zero=>intro i h1 h2;omega
 |succ n ih=>
  unfold pick at h
  split at h
  ·rename_i hz _
   intro i h1 h2
   by_cases e:i=k
   ·subst e;exact hz
   ·exact ih h i (by omega) (by omega)
  ·cases h
theorem kG(rows:List (List α))(i k:Nat):(DN rows i k).length=rows.length:=by simp[DN]
theorem tC(rows:List (List α))(i c:Nat):(F.norm rows i c).length=rows.length:=by simp[norm]
theorem P0(rows:List (List α))(i c:Nat):(F.PZ rows i c).length=rows.length:=by simp[PZ]
theorem j0(rows:List (List α))(i k c:Nat):(F.jx rows i k c).length=rows.length:=by simp[jx,P0,tC,kG]
theorem vE(n c:Nat)(rows:List (List α))(ps:List Nat):(F.rQ n c rows ps).1.length=rows.length:=by
 induction n generalizing c rows ps with
 |zero=>rfl
 |succ n ih=>
  unfold rQ
  split
  ·exact ih ..
  ·rw[ih,j0]
theorem P1(n c:Nat)(rows:List (List α))(ps:List Nat)(h:rows.length≤ps.length):F.rQ n c rows ps=(rows,ps):=by
 induction n generalizing c with
 |zero=>rfl
 |succ n ih=>
  unfold rQ
  rw[Nat.sub_eq_zero_of_le h]
  simp only[pick]
  exact ih _
def fy(w:Nat)(rows:List (List α)):Prop:=∀r∈rows,r.length=w
theorem fy.getD{w:Nat}{rows:List (List α)}(h:fy w rows){k:Nat}(hk:k<rows.length):(rows.getD k []).length=w:=by
 rw[List.getD_eq_getElem?_getD,List.getElem?_eq_getElem hk];exact h _ (List.getElem_mem hk)
theorem fy.set{w:Nat}{rows:List (List α)}(h:fy w rows)(i:Nat){r:List α}(hr:r.length=w):fy w (rows.set i r):=by
 intro x hx
 rcases List.mem_or_eq_of_mem_set hx with h1|h1
 ·exact h x h1
 ·rw[h1];exact hr
theorem fy.DN{w:Nat}{rows:List (List α)}(h:fy w rows){i k:Nat}(hi:i<rows.length)(hk:k<rows.length):fy w (DN rows i k):=(h.set i (h.getD hk)).set k (h.getD hi)
theorem fy.norm{w:Nat}{rows:List (List α)}(h:fy w rows){i:Nat}(c:Nat)(hi:i<rows.length):fy w (F.norm rows i c):=h.set i (by rw[dQ];exact h.getD hi)
theorem fy.PZ{w:Nat}{rows:List (List α)}(h:fy w rows){i:Nat}(c:Nat)(hi:i<rows.length):fy w (F.PZ rows i c):=by
 intro x hx
 obtain⟨j,hj,rfl⟩:=List.mem_mapIdx.1 hx
 have h1:=h _ (List.getElem_mem hj)
 split
 ·exact h1
 ·rw[F.bH _ _ _ (by rw[h1,h.getD hi]),h1]
theorem fy.step{w:Nat}{rows:List (List α)}(h:fy w rows){i k:Nat}(c:Nat)(hi:i<rows.length)(hk:k<rows.length):fy w (F.jx rows i k c):=by
 have h1:=h.DN hi hk
 have h2:fy w (F.norm (Fld.DN rows i k) i c):=fy.norm F h1 c (by rw[kG];exact hi)
 exact fy.PZ F h2 c (by rw[tC,kG];exact hi)
end Go.Fld.Fld
end
section
namespace Go.Fld.Fld
variable{α:Type}(F:Fld α)
theorem LZ{w:Nat}{v u:List α}(a:α)(hv:v.length=w)(hu:u.length=w):(F.bF v a u).length=w:=by rw[F.bH _ _ _ (by omega),hv]
theorem ajh{v u:List α}{a:α}(i:Nat)(h:i<(F.bF v a u).length):(F.bF v a u)[i]=F.add (v[i]'(by unfold bF at h;rw[List.length_zipWith] at h;omega)) (F.mul a (u[i]'(by unfold bF at h;rw[List.length_zipWith] at h;omega))):=by
 simp[bF]
theorem bO{v u:List α}(a:α)(h:v.length=u.length)(c:Nat):(F.bF v a u).getD c F.zero=F.add (v.getD c F.zero) (F.mul a (u.getD c F.zero)):=by
 have hl:=F.bH v a u h
 by_cases hc:c<v.length
 ·rw[List.getD_eq_getElem?_getD,List.getD_eq_getElem?_getD,List.getD_eq_getElem?_getD,List.getElem?_eq_getElem (by omega),List.getElem?_eq_getElem hc,List.getElem?_eq_getElem (by omega)]
  simp only[Option.getD_some]
  exact F.ajh c (by omega)
 ·rw[List.getD_eq_getElem?_getD,List.getD_eq_getElem?_getD,List.getD_eq_getElem?_getD,List.getElem?_eq_none (by omega),List.getElem?_eq_none (by omega),List.getElem?_eq_none (by omega)]
  simp only[Option.getD_none]
  rw[F.mul_zero,F.add_zero]
theorem CB(a:α)(v:List α)(c:Nat):(F.pQ a v).getD c F.zero=F.mul a (v.getD c F.zero):=by
 unfold pQ
 rw[List.getD_eq_getElem?_getD,List.getD_eq_getElem?_getD,List.getElem?_map]
 cases v[c]? with
 |none=>simp[F.mul_zero]
 |some x=>rfl
theorem mN{v v':List α}(hl:v.length=v'.length)(h:∀c,v.getD c F.zero=v'.getD c F.zero):v=v':=by
 apply List.ext_getElem hl
 intro i h1 h2
 have:=h i
 rw[List.getD_eq_getElem?_getD,List.getD_eq_getElem?_getD,List.getElem?_eq_getElem h1,List.getElem?_eq_getElem h2] at this
 exact this
theorem vF(w c:Nat):(List.replicate w F.zero).getD c F.zero=F.zero:=by
 rw[List.getD_eq_getElem?_getD,List.getElem?_replicate]
 split<;>rfl
inductive Sp (w:Nat) (rows:List (List α)):List α→Prop
 |zero:Sp w rows (List.replicate w F.zero)
 |add {v r:List α} (a:α):Sp w rows v→r∈rows→Sp w rows (F.bF v a r)
variable{w:Nat}{rows lh:List (List α)}
theorem Sp.len(hw:fy w rows){v:List α}(h:F.Sp w rows v):v.length=w:=by
 induction h with
 |zero=>simp
 |add a _ hr ih=>rw[F.bH _ _ _ (by rw[ih,hw _ hr]),ih]
theorem Sp.bF(hw:fy w rows){u v:List α}(a:α)(hu:F.Sp w rows u)(hv:F.Sp w rows v):F.Sp w rows (F.bF u a v):=by
 have hul:=Sp.len F hw hu
 induction hv with
 |zero=>
  have:F.bF u a (List.replicate w F.zero)=u:=F.mN (F.bH _ _ _ (by simp[hul])) fun c=>by
   rw[F.bO _ (by simp[hul]),F.vF,F.mul_zero,F.add_zero]
  rw[this];exact hu
 |@add v r b hv hr ih=>
  have hvl:=Sp.len F hw hv
  have hrl:=hw _ hr
  have:F.bF u a (F.bF v b r)=F.bF (F.bF u a v) (F.mul a b) r:=by
   have l1:(F.bF v b r).length=w:=by rw[F.bH _ _ _ (by omega),hvl]
   have l2:(F.bF u a v).length=w:=by rw[F.bH _ _ _ (by omega),hul]
   refine F.mN (by rw[F.bH _ _ _ (by omega),F.bH _ _ _ (by omega)];omega) fun c=>?_
   rw[F.bO _ (by omega),F.bO _ (by omega),F.bO _ (by omega),F.bO _ (by omega),F.mul_add,←F.mul_assoc,F.add_assoc]
  rw[this]
  exact ih.add _ hr
theorem Sp.mem(hw:fy w rows){r:List α}(hr:r∈rows):F.Sp w rows r:=by
 have hl:=hw _ hr
 have:F.bF (List.replicate w F.zero) F.one r=r:=by
  refine F.mN (by rw[F.bH _ _ _ (by simp[hl])];simp[hl]) fun c=>?_
  rw[F.bO _ (by simp[hl]),F.vF,F.zero_add,F.one_mul]
 rw[←this]
 exact Sp.zero.add _ hr
theorem Sp.mono(hw':fy w lh)(h:∀r∈rows,F.Sp w lh r){v:List α}(hv:F.Sp w rows v):F.Sp w lh v:=by
 induction hv with
 |zero=>exact .zero
 |add a _ hr ih=>exact Sp.bF F hw' a ih (h _ hr)
theorem Sp.at0(hw:fy w rows){c:Nat}(h:∀r∈rows,r.getD c F.zero=F.zero){v:List α}(hv:F.Sp w rows v):v.getD c F.zero=F.zero:=by
 induction hv with
 |zero=>exact F.vF ..
 |add a h1 hr ih=>rw[F.bO _ (by rw[Sp.len F hw h1,hw _ hr]),ih,h _ hr,F.mul_zero,F.add_zero]
theorem Sp.split(hw:fy w rows){p v:List α}(hp:p.length=w)(hv:F.Sp w (p::rows) v):∃u a,F.Sp w rows u∧v=F.bF u a p:=by
 induction hv with
 |zero=>
  refine⟨_,F.zero,.zero,?_⟩
  rw[F.yB _ _ (by simp[hp])]
 |@add v r b hv hr ih=>
  obtain⟨u,a,h1,rfl⟩:=ih
  have hul:=Sp.len F hw h1
  rcases List.mem_cons.1 hr with rfl|hr
  ·refine⟨u,F.add a b,h1,?_⟩
   have l1:(F.bF u a r).length=w:=by rw[F.bH _ _ _ (by omega),hul]
   refine F.mN ((F.LZ _ l1 hp).trans (F.LZ _ hul hp).symm) fun c=>?_
   rw[F.bO _ (by omega),F.bO _ (by omega),F.bO _ (by omega),F.add_mul,F.add_assoc]
  ·have hrl:=hw _ hr
   refine⟨F.bF u b r,a,h1.add _ hr,?_⟩
   have l1:(F.bF u a p).length=w:=by rw[F.bH _ _ _ (by omega),hul]
   have l2:(F.bF u b r).length=w:=by rw[F.bH _ _ _ (by omega),hul]
   refine F.mN ((F.LZ _ l1 hrl).trans (F.LZ _ l2 hp).symm) fun c=>?_
   rw[F.bO _ (by omega),F.bO _ (by omega),F.bO _ (by omega),F.bO _ (by omega),F.add_assoc,F.add_assoc,F.add_comm (F.mul a _)]
theorem Sp.elim(hw:fy w rows)(hw':fy w lh){p:List α}{c:Nat}(hp:F.Sp w rows p)(hc:p.getD c F.zero≠F.zero)(h1:∀r∈lh,F.Sp w rows r∧r.getD c F.zero=F.zero)(h2:∀r∈rows,F.Sp w (p::lh) r)(v:List α):
 F.Sp w lh v↔F.Sp w rows v∧v.getD c F.zero=F.zero:=by
 have Xa:=Sp.len F hw hp
 have hwp:fy w (p::lh):=fun r hr=>by
  rcases List.mem_cons.1 hr with rfl|hr
  ·exact Xa
  ·exact hw' r hr
 constructor
 ·intro h
  exact⟨Sp.mono F hw (fun r hr=>(h1 r hr).1) h,Sp.at0 F hw' (fun r hr=>(h1 r hr).2) h⟩
 ·rintro⟨h,h0⟩
  obtain⟨u,a,g1,rfl⟩:=Sp.split F hw' Xa (Sp.mono F hwp h2 h)
  have hul:=Sp.len F hw' g1
  rw[F.bO _ (by omega),Sp.at0 F hw' (fun r hr=>(h1 r hr).2) g1,F.zero_add] at h0
  have ha:a=F.zero:=by
   cases F.dec a F.zero with
   |isTrue e=>exact e
   |isFalse e=>exact absurd h0 (F.aur e hc)
  rw[ha,F.yB _ _ (by omega)]
  exact g1
def nz(x:α):Bool:=match F.dec x F.zero with
 |isTrue _=>false
 |isFalse _=>true
theorem An(x:α):F.nz x=true↔x≠F.zero:=by
 unfold nz
 cases F.dec x F.zero with
 |isTrue e=>simp[e]
 |isFalse e=>simp[e]
def wo(rows:List (List α))(i:Nat):List (List α):=
 if h:rows.findIdx (fun r=>F.nz (r.getD i F.zero))<rows.length then
  (rows.eraseIdx (rows.findIdx (fun r=>F.nz (r.getD i F.zero)))).map fun r=>F.bF r (F.neg (F.mul (r.getD i F.zero) (F.inv ((rows[rows.findIdx (fun r=>F.nz (r.getD i F.zero))]).getD i F.zero)))) rows[rows.findIdx (fun r=>F.nz (r.getD i F.zero))]
 else rows
theorem adu{i:Nat}(h:∀r∈rows,r.getD i F.zero=F.zero):F.wo rows i=rows:=by
 unfold wo
 rw[dif_neg]
 intro hlt
 exact(F.An _).1 (List.findIdx_getElem (w:=hlt)) (h _ (List.getElem_mem _))
theorem adv{i:Nat}{r0:List α}(h0:r0∈rows)(h1:r0.getD i F.zero≠F.zero):∃(k:Nat) (hk:k<rows.length),(rows[k]).getD i F.zero≠F.zero∧
 F.wo rows i=(rows.eraseIdx k).map fun r=>F.bF r (F.neg (F.mul (r.getD i F.zero) (F.inv ((rows[k]).getD i F.zero)))) rows[k]:=by
 have hlt:rows.findIdx (fun r=>F.nz (r.getD i F.zero))<rows.length:=List.findIdx_lt_length_of_exists ⟨r0,h0,(F.An _).2 h1⟩
 refine⟨_,hlt,(F.An _).1 (List.findIdx_getElem (w:=hlt)),?_⟩
 unfold wo
 rw[dif_pos hlt]
theorem ya(hw:fy w rows)(i:Nat):fy w (F.wo rows i):=by
 unfold wo
 split
 ·intro r hr
  obtain⟨r',hr',rfl⟩:=List.mem_map.1 hr
  have:=hw _ (List.mem_of_mem_eraseIdx hr')
  rw[F.bH _ _ _ (by rw[this,hw _ (List.getElem_mem _)]),this]
 ·exact hw
theorem Ik(hw:fy w rows)(i:Nat)(v:List α):F.Sp w (F.wo rows i) v↔F.Sp w rows v∧v.getD i F.zero=F.zero:=by
 by_cases h:∀r∈rows,r.getD i F.zero=F.zero
 ·rw[F.adu h]
  exact⟨fun hv=>⟨hv,Sp.at0 F hw h hv⟩,fun hv=>hv.1⟩
 ·obtain⟨r0,hr0⟩:=Classical.not_forall.1 h
  obtain⟨h0,h1⟩:=Classical.not_imp.1 hr0
  have hww:=F.ya hw i
  obtain⟨k,hk,hz,e⟩:=F.adv h0 h1
  rw[e] at hww ⊢
  have Xa:=hw _ (List.getElem_mem hk)
  refine Sp.elim F hw hww (Sp.mem F hw (List.getElem_mem hk)) hz ?_ ?_ v
  ·intro r hr
   obtain⟨r',hr',rfl⟩:=List.mem_map.1 hr
   have hrm:=List.mem_of_mem_eraseIdx hr'
   have hrl:=hw _ hrm
   refine⟨Sp.bF F hw _ (Sp.mem F hw hrm) (Sp.mem F hw (List.getElem_mem hk)),?_⟩
   rw[F.bO _ (by omega),F.neg_mul,F.mul_assoc,F.inv_mul hz,F.mul_one,F.add_neg]
  ·intro r hr
   have hwp:fy w (rows[k]::(rows.eraseIdx k).map fun r=>F.bF r (F.neg (F.mul (r.getD i F.zero) (F.inv ((rows[k]).getD i F.zero)))) rows[k]):=fun r hr=>by
    rcases List.mem_cons.1 hr with rfl|hr
    ·exact Xa
    ·exact hww r hr
   obtain⟨j,hj,rfl⟩:=List.getElem_of_mem hr
   by_cases ejk:j=k
   ·subst ejk
    exact Sp.mem F hwp (List.mem_cons_self ..)
   ·have hjm:rows[j]∈rows.eraseIdx k:=by
     rw[List.mem_eraseIdx_iff_getElem]
     exact⟨j,hj,ejk,rfl⟩
    have Oz:=hw _ (List.getElem_mem hj)
    have m1:=Sp.mem F hwp (List.mem_cons_of_mem _ (List.mem_map_of_mem (f:=fun r=>F.bF r (F.neg (F.mul (r.getD i F.zero) (F.inv ((rows[k]).getD i F.zero)))) rows[k]) hjm))
    have m2:=Sp.bF F hwp (F.mul (rows[j].getD i F.zero) (F.inv ((rows[k]).getD i F.zero))) m1 (Sp.mem F hwp (List.mem_cons_self ..))
    have:F.bF (F.bF rows[j] (F.neg (F.mul (rows[j].getD i F.zero) (F.inv ((rows[k]).getD i F.zero)))) rows[k]) (F.mul (rows[j].getD i F.zero) (F.inv ((rows[k]).getD i F.zero))) rows[k]=rows[j]:=by
     have l1:=F.bH rows[j] (F.neg (F.mul (rows[j].getD i F.zero) (F.inv ((rows[k]).getD i F.zero)))) rows[k] (by omega)
     refine F.mN (by rw[F.bH _ _ _ (by omega),l1]) fun c=>?_
     rw[F.bO _ (by omega),F.bO _ (by omega),F.add_assoc,←F.add_mul,F.neg_add,F.zero_mul,F.add_zero]
    rw[this] at m2
    exact m2
theorem L2(hw:fy w rows){i:Nat}(h:¬∃v,F.Sp w rows v∧v.getD i F.zero≠F.zero):(F.wo rows i).length=rows.length:=by
 rw[F.adu]
 intro r hr
 cases F.dec (r.getD i F.zero) F.zero with
 |isTrue e=>exact e
 |isFalse e=>exact absurd ⟨r,Sp.mem F hw hr,e⟩ h
theorem CD(hw:fy w rows){i:Nat}(h:∃v,F.Sp w rows v∧v.getD i F.zero≠F.zero):(F.wo rows i).length+1=rows.length:=by
 obtain⟨v,h1,h2⟩:=h
 have:∃r0∈rows,r0.getD i F.zero≠F.zero:=by
  refine Classical.byContradiction fun hn=>h2 (Sp.at0 F hw (fun r hr=>?_) h1)
  cases F.dec (r.getD i F.zero) F.zero with
  |isTrue e=>exact e
  |isFalse e=>exact absurd ⟨r,hr,e⟩ hn
 obtain⟨r0,h0,h3⟩:=this
 obtain⟨k,hk,hz,e⟩:=F.adv h0 h3
 rw[e,List.length_map,List.length_eraseIdx_of_lt hk]
 omega
end Go.Fld.Fld
end
section
namespace Go.Fld.Fld
variable{α:Type}(F:Fld α){w:Nat}{rows:List (List α)}
def at'(os:List Nat)(v:List α):List α:=os.map fun o=>v.getD o F.zero
end Go.Fld.Fld
end
section
namespace Go.Fld.Fld
variable{α:Type}(F:Fld α){w:Nat}
def sg:Nat→(Nat→α)→α
 |0,_=>F.zero
 |n+1,f=>F.add (sg n f) (f n)
theorem X3{n:Nat}{f g:Nat→α}(h:∀i,i<n→f i=g i):F.sg n f=F.sg n g:=by
 induction n with
 |zero=>rfl
 |succ n ih=>show F.add _ _=F.add _ _;rw[ih fun i hi=>h i (by omega),h n (by omega)]
theorem Uv{n:Nat}{f:Nat→α}(h:∀i,i<n→f i=F.zero):F.sg n f=F.zero:=by
 induction n with
 |zero=>rfl
 |succ n ih=>show F.add _ _=_;rw[ih fun i hi=>h i (by omega),h n (by omega),F.add_zero]
theorem aus(n:Nat)(f g:Nat→α):F.sg n (fun i=>F.add (f i) (g i))=F.add (F.sg n f) (F.sg n g):=by
 induction n with
 |zero=>exact(F.add_zero _).symm
 |succ n ih=>show F.add _ _=F.add (F.add _ _) (F.add _ _);rw[ih,F.Ut]
theorem aut(n:Nat)(a:α)(f:Nat→α):F.sg n (fun i=>F.mul a (f i))=F.mul a (F.sg n f):=by
 induction n with
 |zero=>exact(F.mul_zero _).symm
 |succ n ih=>show F.add _ _=F.mul a (F.add _ _);rw[ih,F.mul_add]
theorem agd{n k:Nat}{f:Nat→α}(hk:k<n)(h:∀i,i<n→i≠k→f i=F.zero):F.sg n f=f k:=by
 induction n with
 |zero=>omega
 |succ n ih=>
  show F.add _ _=_
  by_cases e:k=n
  ·subst e
   rw[F.Uv fun i hi=>h i (by omega) (by omega),F.zero_add]
  ·rw[ih (by omega) fun i hi iH=>h i (by omega) iH,h n (by omega) (by omega),F.add_zero]
structure Can(w:Nat)(R:List (List α))(ps:List Nat):Prop where
 wid:fy w R
 len:ps.length=R.length
 inc:∀i j,i<j→j<ps.length→ps.getD i 0<ps.getD j 0
 lt:∀i,i<ps.length→ps.getD i 0<w
 lead:∀i,i<R.length→∀c,c<ps.getD i 0→F.nX R i c=F.zero
 one:∀i j,i<R.length→j<R.length→F.nX R i (ps.getD j 0)=if i=j then F.one else F.zero
variable{F}{R R' rows:List (List α)}{ps ps':List Nat}
theorem CE(k c:Nat):(R.getD k []).getD c F.zero=F.nX R k c:=rfl
theorem mB{k:Nat}(hk:k<R.length):R.getD k []∈R:=by
 rw[List.getD_eq_getElem?_getD,List.getElem?_eq_getElem hk];exact List.getElem_mem hk
theorem Uw{r:List α}(h:r∈R):∃k,k<R.length∧r=R.getD k []:=by
 obtain⟨k,hk,e⟩:=List.getElem_of_mem h
 exact⟨k,hk,by rw[List.getD_eq_getElem?_getD,List.getElem?_eq_getElem hk];exact e.symm⟩
theorem Can.word(h:F.Can w R ps){v:List α}(hv:F.Sp w R v)(c:Nat):v.getD c F.zero=F.sg R.length fun i=>F.mul (v.getD (ps.getD i 0) F.zero) (F.nX R i c):=by
 induction hv with
 |zero=>rw[F.vF,F.Uv];intro i _;rw[F.vF,F.zero_mul]
 |@add v r a hv hr ih=>
  obtain⟨k,hk,rfl⟩:=Uw hr
  have hl:v.length=(R.getD k []).length:=by rw[Sp.len F h.wid hv,h.wid _ hr]
  rw[F.bO _ hl,ih]
  have e:∀i,i<R.length→F.mul ((F.bF v a (R.getD k [])).getD (ps.getD i 0) F.zero) (F.nX R i c)=F.add (F.mul (v.getD (ps.getD i 0) F.zero) (F.nX R i c)) (F.mul a (F.mul (F.nX R k (ps.getD i 0)) (F.nX R i c))):=by
   intro i _
   rw[F.bO _ hl,F.add_mul,F.mul_assoc,CE]
  rw[F.X3 e,F.aus,F.aut,F.agd (k:=k) (f:=fun i=>F.mul (F.nX R k (ps.getD i 0)) (F.nX R i c)) hk]
  ·rw[h.one k k hk hk,if_pos rfl,F.one_mul,CE]
  ·intro i hi iH
   rw[h.one k i hk hi,if_neg (fun e=>iH e.symm),F.zero_mul]
theorem Can.eq(h:F.Can w R ps){u v:List α}(hu:F.Sp w R u)(hv:F.Sp w R v)(e:∀i,i<R.length→u.getD (ps.getD i 0) F.zero=v.getD (ps.getD i 0) F.zero):u=v:=by
 refine F.mN (by rw[Sp.len F h.wid hu,Sp.len F h.wid hv]) fun c=>?_
 rw[h.word hu c,h.word hv c]
 exact F.X3 fun i hi=>by rw[e i hi]
theorem Can.aji(h:F.Can w R ps){v:List α}(hv:F.Sp w R v){c:Nat}(h0:v.getD c F.zero≠F.zero)(h1:∀d,d<c→v.getD d F.zero=F.zero):∃i,i<R.length∧ps.getD i 0=c:=by
 apply Classical.byContradiction
 intro hn
 apply h0
 rw[h.word hv c]
 refine F.Uv fun i hi=>?_
 have iH:ps.getD i 0≠c:=fun e=>hn ⟨i,hi,e⟩
 by_cases hlt:ps.getD i 0<c
 ·rw[h1 _ hlt,F.zero_mul]
 ·rw[h.lead i hi c (by omega),F.mul_zero]
theorem Can.ajj(h:F.Can w R ps){i:Nat}(hi:i<R.length):F.Sp w R (R.getD i [])∧(R.getD i []).getD (ps.getD i 0) F.zero≠F.zero∧∀d,d<ps.getD i 0→(R.getD i []).getD d F.zero=F.zero:=by
 refine⟨Sp.mem F h.wid (mB hi),?_,fun d hd=>h.lead i hi d hd⟩
 rw[CE,h.one i i hi hi,if_pos rfl];exact F.acN
theorem P2:∀{a b:List Nat},(∀i j,i<j→j<a.length→a.getD i 0<a.getD j 0)→(∀i j,i<j→j<b.length→b.getD i 0<b.getD j 0)→
 (∀c,(∃i,i<a.length∧a.getD i 0=c)↔∃i,i<b.length∧b.getD i 0=c)→a=b
 |[],[],_,_,_=>rfl
 |[],y::b,_,_,h=>by obtain⟨i,hi,_⟩:=(h y).2 ⟨0,by simp,rfl⟩;simp at hi
 |x::a,[],_,_,h=>by obtain⟨i,hi,_⟩:=(h x).1 ⟨0,by simp,rfl⟩;simp at hi
 |x::a,y::b,ha,hb,h=>by
  have tl:∀{z:Nat} {l:List Nat},(∀i j,i<j→j<(z::l).length→(z::l).getD i 0<(z::l).getD j 0)→∀i,i<l.length→z<l.getD i 0:=by
   intro z l hl i hi
   have:=hl 0 (i+1) (by omega) (by simp;omega)
   simpa using this
  have hxy:x=y:=by
   obtain⟨i,hi,e1⟩:=(h x).1 ⟨0,by simp,rfl⟩
   obtain⟨j,hj,e2⟩:=(h y).2 ⟨0,by simp,rfl⟩
   cases i with
   |zero=>simpa using e1.symm
   |succ i=>
    cases j with
    |zero=>simpa using e2
    |succ j=>
     have h3:=tl hb i (by simpa using hi)
     have h4:=tl ha j (by simpa using hj)
     simp only[List.getD_cons_succ] at e1 e2
     omega
  subst hxy
  congr 1
  refine P2 (fun i j Xv hj=>by have:=ha (i+1) (j+1) (by omega) (by simp;omega);simpa using this) (fun i j Xv hj=>by have:=hb (i+1) (j+1) (by omega) (by simp;omega);simpa using this) fun c=>?_
  constructor
  ·rintro⟨i,hi,e⟩
   have h3:=tl ha i hi
   obtain⟨j,hj,e2⟩:=(h c).1 ⟨i+1,by simp;omega,by simpa using e⟩
   cases j with
   |zero=>simp at e2;omega
   |succ j=>exact⟨j,by simpa using hj,by simpa using e2⟩
  ·rintro⟨i,hi,e⟩
   have h3:=tl hb i hi
   obtain⟨j,hj,e2⟩:=(h c).2 ⟨i+1,by simp;omega,by simpa using e⟩
   cases j with
   |zero=>simp at e2;omega
   |succ j=>exact⟨j,by simpa using hj,by simpa using e2⟩
theorem Can.unique(h:F.Can w R ps)(h':F.Can w R' ps')(e:∀v,F.Sp w R v↔F.Sp w R' v):R=R'∧ps=ps':=by
 have hp:ps=ps':=by
  refine P2 h.inc h'.inc fun c=>⟨?_,?_⟩
  ·rintro⟨i,hi,rfl⟩
   obtain⟨a,b,c⟩:=h.ajj (i:=i) (by rw[←h.len];exact hi)
   obtain⟨j,hj,e'⟩:=h'.aji ((e _).1 a) b c
   exact⟨j,by rw[h'.len];exact hj,e'⟩
  ·rintro⟨i,hi,rfl⟩
   obtain⟨a,b,c⟩:=h'.ajj (i:=i) (by rw[←h'.len];exact hi)
   obtain⟨j,hj,e'⟩:=h.aji ((e _).2 a) b c
   exact⟨j,by rw[h.len];exact hj,e'⟩
 subst hp
 have hl:R.length=R'.length:=by rw[←h.len,h'.len]
 refine⟨List.ext_getElem hl fun i h1 h2=>?_,rfl⟩
 have g:∀{S:List (List α)} (hi:i<S.length),S[i]=S.getD i []:=fun hi=>by rw[List.getD_eq_getElem?_getD,List.getElem?_eq_getElem hi];rfl
 rw[g h1,g h2]
 refine h.eq (Sp.mem F h.wid (mB h1)) ((e _).2 (Sp.mem F h'.wid (mB h2))) fun j hj=>?_
 rw[CE,CE,h.one i j h1 hj,h'.one i j h2 (by omega)]
theorem ajk(hw:fy w R){r:List α}(hr:F.Sp w R r)(a:α):F.Sp w R (F.pQ a r):=by
 have hl:=Sp.len F hw hr
 have:F.pQ a r=F.bF (List.replicate w F.zero) a r:=by
  refine F.mN (by rw[F.dQ,F.LZ _ (by simp) hl,hl]) fun i=>?_
  rw[F.CB,F.bO _ (by simp[hl]),F.vF,F.zero_add]
 rw[this]
 exact Sp.bF F hw a .zero hr
theorem ab0{a k c j:Nat}(ha:a<rows.length)(hk:k<rows.length)(hj:j<rows.length):(F.jx rows a k c).getD j []=
 if j=a then F.pQ (F.inv (F.nX rows k c)) (rows.getD k []) else F.bF (rows.getD (if j=k then a else j) []) (F.neg ((rows.getD (if j=k then a else j) []).getD c F.zero)) (F.pQ (F.inv (F.nX rows k c)) (rows.getD k [])):=by
 have sw:∀i,i<rows.length→(DN rows a k).getD i []=rows.getD (if i=k then a else if i=a then k else i) []:=by
  intro i hi
  unfold DN
  rw[List.getD_eq_getElem?_getD,List.getElem?_set]
  by_cases h1:k=i
  ·subst h1;simp[hk]
  ·rw[if_neg h1,if_neg (fun e=>h1 e.symm),List.getElem?_set]
   by_cases h2:a=i
   ·subst h2;simp[ha]
   ·rw[if_neg h2,if_neg (fun e=>h2 e.symm),List.getD_eq_getElem?_getD]
 have sa:(DN rows a k).getD a []=rows.getD k []:=by rw[sw a ha];by_cases e:a=k<;>simp[e]
 have nm:∀i,i<rows.length→(F.norm (DN rows a k) a c).getD i []=if i=a then F.pQ (F.inv (F.nX rows k c)) (rows.getD k []) else rows.getD (if i=k then a else i) []:=by
  intro i hi
  unfold norm
  have e1:F.nX (DN rows a k) a c=F.nX rows k c:=by unfold nX;rw[sa]
  rw[e1,sa,List.getD_eq_getElem?_getD,List.getElem?_set]
  by_cases h1:a=i
  ·subst h1;simp[kG,ha]
  ·rw[if_neg h1,if_neg (fun e=>h1 e.symm),←List.getD_eq_getElem?_getD,sw i hi]
   by_cases h2:i=k
   ·rw[if_pos h2,if_pos h2]
   ·rw[if_neg h2,if_neg h2,if_neg (fun e=>h1 e.symm)]
 unfold jx PZ
 have hj':j<(F.norm (DN rows a k) a c).length:=by rw[tC,kG];exact hj
 have e2:=nm j hj
 rw[List.getD_eq_getElem?_getD,List.getElem?_eq_getElem hj'] at e2
 rw[List.getD_eq_getElem?_getD,List.getElem?_mapIdx,List.getElem?_eq_getElem hj']
 simp only[Option.map_some,Option.getD_some] at e2 ⊢
 rw[nm a ha,if_pos rfl]
 by_cases h1:j=a
 ·rw[if_pos h1,if_pos h1,e2,if_pos h1]
 ·rw[if_neg h1,if_neg h1,e2,if_neg h1]
structure GJI(F:Fld α)(w:Nat)(G0 G:List (List α))(ps:List Nat)(c:Nat):Prop where
 wid:fy w G
 le:ps.length≤G.length
 inc:∀i j,i<j→j<ps.length→ps.getD i 0<ps.getD j 0
 lt:∀i,i<ps.length→ps.getD i 0<c
 lead:∀i,i<ps.length→∀d,d<ps.getD i 0→F.nX G i d=F.zero
 one:∀i j,i<G.length→j<ps.length→F.nX G i (ps.getD j 0)=if i=j then F.one else F.zero
 rest:∀i,ps.length≤i→i<G.length→∀d,d<c→F.nX G i d=F.zero
 sp:∀v,F.Sp w G v↔F.Sp w G0 v
theorem GJI.step{G0 G:List (List α)}{c k:Nat}(h:GJI F w G0 G ps c)(hc:c<w)(h1:ps.length≤k)(h2:k<G.length)(hz:F.nX G k c≠F.zero):GJI F w G0 (F.jx G ps.length k c) (ps++[c]) (c+1):=by
 have ha:ps.length<G.length:=by omega
 have hl:=F.j0 G ps.length k c
 have row:=fun {j} (hj:j<G.length)=>ab0 (F:=F) (c:=c) ha h2 hj
 have hm:∀j,j<G.length→(if j=k then ps.length else j)<G.length:=by intro j hj;split<;>omega
 have lw:∀j,j<G.length→(G.getD j []).length=w:=fun j hj=>h.wid _ (mB hj)
 have amQ:∀j d,j<G.length→F.nX (F.jx G ps.length k c) j d=if j=ps.length then F.mul (F.inv (F.nX G k c)) (F.nX G k d) else
  F.add (F.nX G (if j=k then ps.length else j) d) (F.mul (F.neg (F.nX G (if j=k then ps.length else j) c)) (F.mul (F.inv (F.nX G k c)) (F.nX G k d))):=by
  intro j d hj
  unfold nX
  rw[row hj]
  by_cases e:j=ps.length
  ·rw[if_pos e,if_pos e,F.CB];rfl
  ·rw[if_neg e,if_neg e,F.bO _ (by rw[F.dQ,lw _ (hm j hj),lw _ h2]),F.CB];rfl
 have gp:∀j,j<ps.length→(ps++[c]).getD j 0=ps.getD j 0:=fun j hj=>by simp[List.getD_eq_getElem?_getD,List.getElem?_append_left hj]
 have gl:(ps++[c]).getD ps.length 0=c:=by simp[List.getD_eq_getElem?_getD]
 have hwG:=fy.step F h.wid c ha h2
 refine⟨hwG,by simp;omega,?_,?_,?_,?_,?_,?_⟩
 ·intro i j Xv hj
  simp only[List.length_append,List.length_singleton] at hj
  rw[gp i (by omega)]
  by_cases e:j=ps.length
  ·subst e;rw[gl];exact h.lt i Xv
  ·rw[gp j (by omega)];exact h.inc i j Xv (by omega)
 ·intro i hi
  simp only[List.length_append,List.length_singleton] at hi
  by_cases e:i=ps.length
  ·subst e;rw[gl];omega
  ·rw[gp i (by omega)];have:=h.lt i (by omega);omega
 ·intro i hi d hd
  simp only[List.length_append,List.length_singleton] at hi
  by_cases e:i=ps.length
  ·subst e
   rw[gl] at hd
   rw[amQ _ _ ha,if_pos rfl,h.rest k h1 h2 d hd,F.mul_zero]
  ·have Bl:i<ps.length:=by omega
   rw[gp i Bl] at hd
   have hdc:=h.lt i Bl
   rw[amQ _ _ (by omega),if_neg e,if_neg (by omega),h.rest k h1 h2 d (by omega),F.mul_zero,F.mul_zero,F.add_zero]
   exact h.lead i Bl d hd
 ·intro i j hi hj
  rw[hl] at hi
  simp only[List.length_append,List.length_singleton] at hj
  by_cases ej:j=ps.length
  ·subst ej
   rw[gl,amQ _ _ hi]
   by_cases ei:i=ps.length
   ·rw[if_pos ei,if_pos ei,F.inv_mul hz]
   ·rw[if_neg ei,if_neg ei,F.inv_mul hz,F.mul_one,F.add_neg]
  ·have hj':j<ps.length:=by omega
   rw[gp j hj',amQ _ _ hi]
   have hkj:F.nX G k (ps.getD j 0)=F.zero:=by rw[h.one k j h2 hj',if_neg (by omega)]
   rw[hkj,F.mul_zero,F.mul_zero,F.add_zero]
   by_cases ei:i=ps.length
   ·rw[if_pos ei,if_neg (by omega)]
   ·rw[if_neg ei]
    by_cases ek:i=k
    ·rw[if_pos ek,h.one _ j ha hj',if_neg (by omega),if_neg (by omega)]
    ·rw[if_neg ek,h.one i j hi hj']
 ·intro i h3 h4 d hd
  simp only[List.length_append,List.length_singleton] at h3
  rw[hl] at h4
  rw[amQ _ _ h4,if_neg (by omega)]
  have hm':=hm i h4
  have hge:ps.length≤(if i=k then ps.length else i):=by split<;>omega
  by_cases e:d=c
  ·subst e
   rw[F.inv_mul hz,F.mul_one,F.add_neg]
  ·rw[h.rest k h1 h2 d (by omega),F.mul_zero,F.mul_zero,F.add_zero,h.rest _ hge hm' d (by omega)]
 ·intro v
  rw[←h.sp v]
  have hs:F.Sp w G (F.pQ (F.inv (F.nX G k c)) (G.getD k [])):=ajk h.wid (Sp.mem F h.wid (mB h2)) _
  have Fe:(F.pQ (F.inv (F.nX G k c)) (G.getD k [])).length=w:=by rw[F.dQ,lw k h2]
  have hs':F.Sp w (F.jx G ps.length k c) (F.pQ (F.inv (F.nX G k c)) (G.getD k [])):=by
   have:=Sp.mem F hwG (mB (R:=F.jx G ps.length k c) (k:=ps.length) (by omega))
   rwa[row ha,if_pos rfl] at this
  constructor
  ·refine fun hv=>Sp.mono F h.wid (fun r hr=>?_) hv
   obtain⟨j,hj,rfl⟩:=Uw hr
   rw[hl] at hj
   rw[row hj]
   split
   ·exact hs
   ·exact Sp.bF F h.wid _ (Sp.mem F h.wid (mB (hm j hj))) hs
  ·refine fun hv=>Sp.mono F hwG (fun r hr=>?_) hv
   obtain⟨j,hj,rfl⟩:=Uw hr
   have back:∀i,i<G.length→i≠ps.length→F.Sp w (F.jx G ps.length k c) (G.getD (if i=k then ps.length else i) []):=by
    intro i hi iH
    have h5:=Sp.mem F hwG (mB (R:=F.jx G ps.length k c) (k:=i) (by omega))
    rw[row hi,if_neg iH] at h5
    have h6:=Sp.bF F hwG ((G.getD (if i=k then ps.length else i) []).getD c F.zero) h5 hs'
    have:F.bF (F.bF (G.getD (if i=k then ps.length else i) []) (F.neg ((G.getD (if i=k then ps.length else i) []).getD c F.zero)) (F.pQ (F.inv (F.nX G k c)) (G.getD k []))) ((G.getD (if i=k then ps.length else i) []).getD c F.zero) (F.pQ (F.inv (F.nX G k c)) (G.getD k []))=G.getD (if i=k then ps.length else i) []:=by
     have l0:=lw _ (hm i hi)
     have l1:(F.bF (G.getD (if i=k then ps.length else i) []) (F.neg ((G.getD (if i=k then ps.length else i) []).getD c F.zero)) (F.pQ (F.inv (F.nX G k c)) (G.getD k []))).length=w:=F.LZ _ l0 Fe
     refine F.mN (by rw[F.LZ _ l1 Fe,l0]) fun d=>?_
     rw[F.bO _ (by rw[l1,Fe]),F.bO _ (by rw[l0,Fe]),F.add_assoc,←F.add_mul,F.neg_add,F.zero_mul,F.add_zero]
    rwa[this] at h6
   by_cases ek:j=k
   ·subst ek
    have h7:=ajk (F:=F) hwG hs' (F.nX G j c)
    have:F.pQ (F.nX G j c) (F.pQ (F.inv (F.nX G j c)) (G.getD j []))=G.getD j []:=by
     refine F.mN (by rw[F.dQ,F.dQ]) fun d=>?_
     rw[F.CB,F.CB,←F.mul_assoc,F.xp _ hz,F.one_mul]
    rwa[this] at h7
   ·by_cases ea:j=ps.length
    ·have:=back k h2 (by omega)
     rw[if_pos rfl] at this
     rw[ea];exact this
    ·have:=back j hj ea
     rwa[if_neg ek] at this
theorem GJI.run{G0:List (List α)}:∀(n c:Nat) (G:List (List α)) (ps:List Nat),c+n=w→GJI F w G0 G ps c→GJI F w G0 (F.rQ n c G ps).1 (F.rQ n c G ps).2 w
 |0,c,G,ps,hc,h=>by obtain rfl:c=w:=by omega
                    exact h
 |n+1,c,G,ps,hc,h=>by
  unfold rQ
  cases hp:F.pick G c (G.length-ps.length) ps.length with
  |none=>
   refine GJI.run n (c+1) G ps (by omega) ⟨h.wid,h.le,h.inc,fun i hi=>by have:=h.lt i hi;omega,h.lead,h.one,fun i h1 h2 d hd=>?_,h.sp⟩
   by_cases e:d=c
   ·subst e;exact F.agc hp i h1 (by have:=h.le;omega)
   ·exact h.rest i h1 h2 d (by omega)
  |some k=>
   obtain⟨a,b,z,_⟩:=F.yC hp
   exact GJI.run n (c+1) _ _ (by omega) (h.step (by omega) a (by have:=h.le;omega) z)
theorem j3(hw:fy w rows):F.Can w (F.aY rows w).1 (F.aY rows w).2∧∀v,F.Sp w (F.aY rows w).1 v↔F.Sp w rows v:=by
 have h:GJI F w rows (F.rQ w 0 rows []).1 (F.rQ w 0 rows []).2 w:=GJI.run w 0 rows [] (by omega) ⟨hw,by simp,fun i j _ hj=>by simp at hj,fun i hi=>by simp at hi,fun i hi=>by simp at hi,fun i j _ hj=>by simp at hj,fun i _ _ d hd=>by omega,fun v=>Iff.rfl⟩
 unfold aY
 generalize (F.rQ w 0 rows []).1=G at h ⊢
 generalize (F.rQ w 0 rows []).2=qs at h ⊢
 have tk:∀i,i<qs.length→(G.take qs.length).getD i []=G.getD i []:=fun i hi=>by simp[List.getD_eq_getElem?_getD,List.getElem?_take,hi]
 have hlt:(G.take qs.length).length=qs.length:=by simp[h.le]
 have hwt:fy w (G.take qs.length):=fun r hr=>h.wid _ (List.mem_of_mem_take hr)
 refine⟨⟨hwt,hlt.symm,h.inc,h.lt,fun i hi c hc=>?_,fun i j hi hj=>?_⟩,fun v=>?_⟩
 ·rw[hlt] at hi
  unfold nX;rw[tk i hi];exact h.lead i hi c hc
 ·rw[hlt] at hi hj
  unfold nX;rw[tk i hi];exact h.one i j (by have:=h.le;omega) hj
 ·rw[←h.sp v]
  constructor
  ·exact fun hv=>Sp.mono F h.wid (fun r hr=>Sp.mem F h.wid (List.mem_of_mem_take hr)) hv
  ·refine fun hv=>Sp.mono F hwt (fun r hr=>?_) hv
   obtain⟨j,hj,rfl⟩:=Uw hr
   by_cases e:j<qs.length
   ·rw[←tk j e];exact Sp.mem F hwt (mB (by omega))
   ·have hz:G.getD j []=List.replicate w F.zero:=by
     refine F.mN (by rw[h.wid _ hr];simp) fun d=>?_
     rw[F.vF]
     by_cases hd:d<w
     ·exact h.rest j (by omega) hj d hd
     ·rw[List.getD_eq_getElem?_getD,List.getElem?_eq_none (by rw[h.wid _ hr];omega)];rfl
    rw[hz];exact .zero
theorem ajl{lh:List (List α)}(hw:fy w rows)(hw':fy w lh)(e:∀v,F.Sp w rows v↔F.Sp w lh v):F.aY rows w=F.aY lh w:=by
 obtain⟨a,b⟩:=j3 (F:=F) hw
 obtain⟨a',b'⟩:=j3 (F:=F) hw'
 obtain⟨h1,h2⟩:=a.unique a' fun v=>by rw[b,b',e]
 exact Prod.ext h1 h2
theorem Can.fix(h:F.Can w R ps):F.aY R w=(R,ps):=by
 obtain⟨a,b⟩:=j3 (F:=F) h.wid
 obtain⟨h1,h2⟩:=a.unique h b
 exact Prod.ext h1 h2
end Go.Fld.Fld
end
section
namespace Go.Fld.Fld
variable{α:Type}(F:Fld α){w:Nat}
variable{F}{R rows:List (List α)}{ps:List Nat}
variable(F)
variable{F}
variable(F)
variable{F}
end Go.Fld.Fld
end
section
namespace Go.Fld.Fld
variable{α:Type}(F:Fld α){w:Nat}
def tD(w:Nat)(rows:List (List α)):Nat:=(F.aY rows w).2.length
variable{F}{rows lh:List (List α)}
theorem KM(hw:fy w rows):(F.aY rows w).1.length=F.tD w rows:=(j3 (F:=F) hw).1.len.symm
theorem ab1(hw:fy w rows):F.tD w rows≤rows.length:=by
 rw[←KM hw]
 unfold aY
 rw[List.length_take,F.vE]
 omega
theorem DO(hw:fy w rows)(hw':fy w lh)(e:∀v,F.Sp w rows v↔F.Sp w lh v):F.tD w rows=F.tD w lh:=by
 unfold tD;rw[ajl hw hw' e]
theorem CF(hw:fy w rows){i:Nat}(h:¬∃v,F.Sp w rows v∧v.getD i F.zero≠F.zero):F.tD w (F.wo rows i)=F.tD w rows:=by
 refine DO (F.ya hw i) hw fun v=>?_
 rw[F.Ik hw]
 exact⟨fun h=>h.1,fun hv=>⟨hv,by
  cases F.dec (v.getD i F.zero) F.zero with
  |isTrue e=>exact e
  |isFalse e=>exact absurd ⟨v,hv,e⟩ h⟩⟩
theorem xq(hw:fy w rows){i:Nat}(h:∃v,F.Sp w rows v∧v.getD i F.zero≠F.zero):F.tD w (F.wo rows i)+1=F.tD w rows:=by
 obtain⟨a,b⟩:=j3 (F:=F) hw
 have hww:=F.ya hw i
 have h1:F.tD w (F.wo rows i)+1≤F.tD w rows:=by
  have e:F.tD w (F.wo rows i)=F.tD w (F.wo (F.aY rows w).1 i):=DO hww (F.ya a.wid i) fun v=>by rw[F.Ik hw,F.Ik a.wid,b]
  obtain⟨v,h1,h2⟩:=h
  have h3:=F.CD a.wid (i:=i) ⟨v,(b v).2 h1,h2⟩
  have h4:=ab1 (F:=F) (F.ya a.wid i)
  rw[←KM hw,e];omega
 have h2:F.tD w rows≤F.tD w (F.wo rows i)+1:=by
  obtain⟨a',b'⟩:=j3 (F:=F) hww
  obtain⟨v,h1,h2⟩:=h
  have hvl:=Sp.len F hw h1
  have hw1:fy w (v::(F.aY (F.wo rows i) w).1):=by
   intro r hr
   rcases List.mem_cons.1 hr with rfl|hr
   ·exact hvl
   ·exact a'.wid _ hr
  have e:F.tD w rows=F.tD w (v::(F.aY (F.wo rows i) w).1):=by
   refine DO hw hw1 fun x=>⟨fun hx=>?_,fun hx=>?_⟩
   ·have hxl:=Sp.len F hw hx
    have hy:F.Sp w (F.wo rows i) (F.bF x (F.neg (F.mul (x.getD i F.zero) (F.inv (v.getD i F.zero)))) v):=by
     rw[F.Ik hw]
     refine⟨Sp.bF F hw _ hx h1,?_⟩
     rw[F.bO _ (by rw[hxl,hvl]),F.neg_mul,F.mul_assoc,F.inv_mul h2,F.mul_one,F.add_neg]
    have hyl:=Sp.len F hww hy
    have hz:F.Sp w (v::(F.aY (F.wo rows i) w).1) (F.bF (F.bF x (F.neg (F.mul (x.getD i F.zero) (F.inv (v.getD i F.zero)))) v) (F.mul (x.getD i F.zero) (F.inv (v.getD i F.zero))) v):=
     Sp.bF F hw1 _ (Sp.mono F hw1 (fun r hr=>Sp.mem F hw1 (List.mem_cons_of_mem _ hr)) ((b' _).2 hy)) (Sp.mem F hw1 (List.mem_cons_self ..))
    have:F.bF (F.bF x (F.neg (F.mul (x.getD i F.zero) (F.inv (v.getD i F.zero)))) v) (F.mul (x.getD i F.zero) (F.inv (v.getD i F.zero))) v=x:=by
     refine F.mN (by rw[F.LZ _ hyl hvl,hxl]) fun c=>?_
     rw[F.bO _ (by rw[hyl,hvl]),F.bO _ (by rw[hxl,hvl]),F.add_assoc,←F.add_mul,F.neg_add,F.zero_mul,F.add_zero]
    rwa[this] at hz
   ·refine Sp.mono F hw (fun r hr=>?_) hx
    rcases List.mem_cons.1 hr with rfl|hr
    ·exact h1
    ·exact((F.Ik hw i r).1 ((b' r).1 (Sp.mem F a'.wid hr))).1
  rw[e]
  have:=ab1 (F:=F) hw1
  rw[List.length_cons,KM hww] at this
  exact this
 omega
def X4(F:Fld α)(w:Nat)(rows:List (List α)):Prop:=fy w rows∧rows.length=F.tD w rows
theorem Can.ind{R:List (List α)}{ps:List Nat}(h:F.Can w R ps):X4 F w R:=⟨h.wid,by unfold tD;rw[h.fix];exact h.len.symm⟩
theorem X4.wo(h:X4 F w rows)(i:Nat):X4 F w (F.wo rows i):=by
 refine⟨F.ya h.1 i,?_⟩
 by_cases e:∃v,F.Sp w rows v∧v.getD i F.zero≠F.zero
 ·have h1:=xq h.1 e
  have h2:=F.CD h.1 e
  have:=h.2
  omega
 ·rw[CF h.1 e,F.L2 h.1 e];exact h.2
theorem X4.fold:∀(os:List Nat) {rows:List (List α)},X4 F w rows→X4 F w (os.foldl F.wo rows)
 |[],_,h=>h
 |o::os,_,h=>X4.fold os (h.wo o)
theorem Il:∀(os:List Nat) {rows:List (List α)},fy w rows→∀v,F.Sp w (os.foldl F.wo rows) v↔F.Sp w rows v∧∀o∈os,v.getD o F.zero=F.zero
 |[],_,_,v=>by simp
 |o::os,rows,hw,v=>by
  rw[List.foldl_cons,Il os (F.ya hw o),F.Ik hw,and_assoc]
  simp
theorem X5(hw:fy w rows)(h:∀v,F.Sp w rows v→∀c,v.getD c F.zero=F.zero):F.tD w rows=0:=by
 obtain⟨a,b⟩:=j3 (F:=F) hw
 rw[←KM hw]
 apply Classical.byContradiction
 intro hn
 have h0:0<(F.aY rows w).1.length:=by omega
 obtain⟨p1,p2,_⟩:=a.ajj h0
 exact p2 (h _ ((b _).1 p1) _)
theorem X6:∀(n i:Nat) {A B:List (List α)},i+n=w→fy w A→fy w B→(∀v,F.Sp w A v→F.Sp w B v)→(∀v,F.Sp w A v→∀c,c<i→v.getD c F.zero=F.zero)→F.tD w A≤F.tD w B
 |0,i,A,B,hi,hA,hB,hs,hz=>by
  rw[X5 hA]
  ·exact Nat.zero_le _
  ·intro v hv c
   by_cases hc:c<i
   ·exact hz v hv c hc
   ·rw[List.getD_eq_getElem?_getD,List.getElem?_eq_none (by rw[Sp.len F hA hv];omega)];rfl
 |n+1,i,A,B,hi,hA,hB,hs,hz=>by
  have ih:=X6 n (i+1) (A:=F.wo A i) (B:=F.wo B i) (by omega) (F.ya hA i) (F.ya hB i) (fun v hv=>by
   rw[F.Ik hA] at hv;rw[F.Ik hB];exact⟨hs v hv.1,hv.2⟩) (fun v hv c hc=>by
   rw[F.Ik hA] at hv
   by_cases e:c=i
   ·subst e;exact hv.2
   ·exact hz v hv.1 c (by omega))
  by_cases e:∃v,F.Sp w A v∧v.getD i F.zero≠F.zero
  ·have h1:=xq hA e
   obtain⟨v,e1,e2⟩:=e
   have h2:=xq hB ⟨v,hs v e1,e2⟩
   omega
  ·have h1:=CF hA e
   have h2:F.tD w (F.wo B i)≤F.tD w B:=by
    by_cases e':∃v,F.Sp w B v∧v.getD i F.zero≠F.zero
    ·have:=xq hB e';omega
    ·rw[CF hB e'];exact Nat.le_refl _
   omega
theorem adw{A B:List (List α)}(hA:fy w A)(hB:fy w B)(hs:∀v,F.Sp w A v→F.Sp w B v):F.tD w A≤F.tD w B:=X6 w 0 (by omega) hA hB hs (fun _ _ c hc=>by omega)
theorem awS{β:Type}(p:β→Bool):∀l:List β,(l.filter p).length+(l.filter fun c=>!p c).length=l.length
 |[]=>rfl
 |x::l=>by
  have:=awS p l
  rw[List.filter_cons,List.filter_cons]
  cases p x<;>simp<;>omega
end Go.Fld.Fld
end
section
namespace Go.Fld.Fld
variable{α:Type}{F:Fld α}{w:Nat}{rows:List (List α)}
theorem Tw{os:List Nat}{o:Nat}(hi:X4 F w rows):((os++[o]).foldl F.wo rows).length≤(os.foldl F.wo rows).length∧(os.foldl F.wo rows).length≤((os++[o]).foldl F.wo rows).length+1:=by
 rw[List.foldl_append]
 simp only[List.foldl_cons,List.foldl_nil]
 have h:=(X4.fold os hi).1
 by_cases e:∃v,F.Sp w (os.foldl F.wo rows) v∧v.getD o F.zero≠F.zero
 ·have:=F.CD h e;omega
 ·have:=F.L2 h e;omega
theorem KN{os os':List Nat}(hi:X4 F w rows)(e:∀o,o∈os↔o∈os'):(os.foldl F.wo rows).length=(os'.foldl F.wo rows).length:=by
 rw[(X4.fold os hi).2,(X4.fold os' hi).2]
 refine DO (X4.fold os hi).1 (X4.fold os' hi).1 fun v=>?_
 rw[Il _ hi.1,Il _ hi.1]
 exact and_congr_right fun _=>⟨fun h o ho=>h o ((e o).2 ho),fun h o ho=>h o ((e o).1 ho)⟩
end Go.Fld.Fld
end
section
namespace Go.Fld.Fld
variable{α:Type}(F:Fld α){w:Nat}{rows:List (List α)}
def xr(w:Nat)(a:List α)(rows:List (List α))(n:Nat):List α:=(List.range n).foldl (fun x i=>F.bF x (a.getD i F.zero) (rows.getD i [])) (List.replicate w F.zero)
theorem FO(a:List α)(n:Nat):F.xr w a rows (n+1)=F.bF (F.xr w a rows n) (a.getD n F.zero) (rows.getD n []):=by
 unfold xr;rw[List.range_succ,List.foldl_append];rfl
variable{F}
theorem P3(hw:fy w rows)(a:List α):∀n,n≤rows.length→F.Sp w rows (F.xr w a rows n)
 |0,_=>.zero
 |n+1,h=>by rw[FO];exact(P3 hw a n (by omega)).add _ (mB (by omega))
theorem Tx(hw:fy w rows)(a:List α){n:Nat}(h:n≤rows.length):(F.xr w a rows n).length=w:=Sp.len F hw (P3 hw a n h)
end Go.Fld.Fld
end
section
namespace Go.Abs
structure aj(h h':AH):Prop where
 next:h.next≤h'.next
 iq:∀b,b<h.next→h'.iq b=h.iq b
theorem aj.refl(h:AH):aj h h:=⟨Nat.le_refl _,fun _ _=>rfl⟩
theorem aj.trans{a b c:AH}(p:aj a b)(q:aj b c):aj a c:=⟨Nat.le_trans p.1 q.1,fun x hx=>(q.2 x (Nat.lt_of_lt_of_le hx p.1)).trans (p.2 x hx)⟩
theorem aj.alloc(h:AH)(cs:List Value):aj h (h.alloc cs):=⟨Nat.le_succ _,fun b hb=>by simp[AH.alloc,Nat.ne_of_lt hb]⟩
theorem aj.put{h h':AH}(p:aj h h'){b:Nat}(hb:h.next≤b)(x:Option (List Value)):aj h (h'.put b x):=
 ⟨p.1,fun c hc=>by simp only[AH.put];rw[if_neg (by omega)];exact p.2 c hc⟩
structure SI(h:AH)(s:Sl)(xs:List Int):Prop where
 len:s.l=xs.length
 get:∀(i:Nat) (hi:i<xs.length),∃a,s.a=some a∧a.block<h.next∧h.cell a.block (a.off+i)=some (.int .i64 xs[i])
theorem SI.nil(h:AH):SI h ⟨none,0,0⟩ []:=⟨rfl,fun i hi=>by cases hi⟩
theorem SI.quiet{h h':AH}{s xs}(p:SI h s xs)(q:aj h h'):SI h' s xs:=⟨p.1,fun i hi=>by
 obtain⟨a,h1,h2,h3⟩:=p.2 i hi
 exact⟨a,h1,Nat.lt_of_lt_of_le h2 q.1,by unfold AH.cell at h3 ⊢;rw[q.2 _ h2];exact h3⟩⟩
section
variable{R:Type}
theorem SI.read{h:AH}{s:Sl}{xs:List Int}(p:SI h s xs){i:Int}(h0:0≤i)(hi:i.toNat<xs.length)(K:Int→Option R):
 (idx 1 s i fun q=>aF .i64 h q.block q.off K)=K xs[i.toNat]:=by
 obtain⟨a,h1,_,h3⟩:=p.2 i.toNat hi
 have hl:=p.1
 unfold idx
 rw[h1]
 simp only[if_pos h0]
 rw[if_pos (by omega)]
 unfold aF
 rw[Nat.mul_one,h3]
 simp[asInt]
end
def OI(n0:Nat)(h:AH)(s:Sl)(xs:List Int):Prop:=
 (xs=[]∧s=⟨none,0,0⟩)∨(∃b,n0≤b∧b<h.next∧xs≠[]∧s=⟨some ⟨b,0,none⟩,xs.length,pB+1⟩∧h.iq b=some (xs.map (Value.int .i64)))
theorem OI.si{n0 h s xs}(p:OI n0 h s xs):SI h s xs:=by
 rcases p with⟨rfl,rfl⟩|⟨b,h1,h2,h3,rfl,h4⟩
 ·exact SI.nil h
 ·exact⟨rfl,fun i hi=>⟨_,rfl,h2,by simp[AH.cell,h4,hi]⟩⟩
section
variable{R:Type}
end
theorem kH{n:Int}(h1: -9223372036854775808≤n)(h2:n<9223372036854775808):bM n=n:=by
 unfold bM
 rw[IntKind.wrap_i64];omega
end Go.Abs
end
section
namespace Go.Abs
def iv(xs:List Int):List Value:=xs.map (Value.int .i64)
def ints(l:List Nat):List Int:=l.map Int.ofNat
@[simp] theorem age(xs:List Int):(iv xs).length=xs.length:=by simp[iv]
@[simp] theorem cI(l:List Nat):(ints l).length=l.length:=by simp[ints]
theorem FP(xs:List Int)(i:Nat)(h:i<xs.length):(iv xs)[i]?=some (.int .i64 xs[i]):=by simp[iv,h]
theorem kI(xs:List Int)(i:Nat)(n:Int):(iv xs).set i (.int .i64 n)=iv (xs.set i n):=by simp[iv,List.map_set]
theorem ints_set(l:List Nat)(i n:Nat):(ints l).set i (n:Int)=ints (l.set i n):=by simp[ints,List.map_set]
theorem dC(l:List Nat)(i:Nat)(h:i<(ints l).length):(ints l)[i]=((l[i]'(by simpa using h):Nat):Int):=by simp[ints]
structure OB(h:AH)(b:Nat)(vs:List Value):Prop where
 lt:b<h.next
 iq:h.iq b=some vs
theorem OB.alloc(h:AH)(vs:List Value):OB (h.alloc vs) h.next vs:=⟨Nat.lt_succ_self _,by simp[AH.alloc]⟩
theorem OB.put{h:AH}{b:Nat}{vs:List Value}(p:OB h b vs)(ws:List Value):OB (h.put b (some ws)) b ws:=⟨p.1,by simp[AH.put]⟩
theorem OB.X7{h:AH}{b c:Nat}{vs:List Value}(p:OB h b vs)(hc:c≠b)(x:Option (List Value)):OB (h.put c x) b vs:=
 ⟨p.1,by simp only[AH.put];rw[if_neg (fun e=>hc e.symm)];exact p.2⟩
theorem OB.quiet{h h':AH}{b:Nat}{vs:List Value}(p:OB h b vs)(q:aj h h'):OB h' b vs:=⟨Nat.lt_of_lt_of_le p.1 q.1,by rw[q.2 b p.1];exact p.2⟩
theorem OB.si{h:AH}{b:Nat}{xs:List Int}(p:OB h b (iv xs))(t:Option Nat)(c:Nat):SI h ⟨some ⟨b,0,none⟩,xs.length,c⟩ xs:=
 ⟨rfl,fun i hi=>⟨_,rfl,p.1,by simp only[AH.cell,p.2,Nat.zero_add];exact FP xs i hi⟩⟩
section
variable{R:Type}
theorem OB.st{h:AH}{b:Nat}{vs:List Value}(p:OB h b vs){fl o:Nat}{v:Value}(bL:fl≤b)(ho:o<vs.length)(hv:yp v=true)(K:AH→Option R):
 st fl h ⟨b,o,none⟩ [v] K=K (h.put b (some (vs.set o v))):=by
 unfold Abs.st
 simp only[p.2,if_pos bL]
 rw[if_pos (by simp),if_pos (by simp;omega),if_pos (by simp[hv])]
 rfl
theorem auu{s:Sl}{a:Addr}(ha:s.a=some a){i:Int}(h0:0≤i)(hi:i<s.l)(K:Addr→Option R):idx 1 s i K=K ⟨a.block,a.off+i.toNat,none⟩:=by
 unfold idx
 rw[ha]
 simp only
 rw[if_pos h0,if_pos hi,Nat.mul_one]
theorem aU{s:Sl}{a:Addr}(ha:s.a=some a){i:Nat}(hi:i<s.l)(K:Addr→Option R):idx 1 s (i:Int) K=K ⟨a.block,a.off+i,none⟩:=by
 rw[auu ha (by omega) (by omega)];simp
theorem OB.cell{h:AH}{b:Nat}{vs:List Value}(p:OB h b vs){o:Nat}{v:Value}(e:vs[o]?=some v):h.cell b o=some v:=by
 simp only[AH.cell,p.2];exact e
theorem ae{h:AH}{b o:Nat}{n:Int}(e:h.cell b o=some (.int .i64 n))(K:Int→Option R):aF .i64 h b o K=K n:=by
 unfold aF;rw[e];simp[asInt]
theorem auv{h:AH}{b o:Nat}{n:Bool}(e:h.cell b o=some (.bool n))(K:Bool→Option R):ldB h b o K=K n:=by
 unfold ldB;rw[e];rfl
theorem ai{h:AH}{b o:Nat}{s:Sl}(e:h.cell b o=some (.slice s.a s.l s.c))(K:Sl→Option R):bC h b o K=K s:=by
 unfold bC;rw[e];rfl
theorem vG{h:AH}{b o:Nat}{s:Option Addr}(e:h.cell b o=some (.pointer s))(K:Option Addr→Option R):ldN h b o K=K s:=by
 unfold ldN;rw[e];rfl
theorem ah{C:Callee}{fl f:Nat}{args:List Value}{h h1:AH}{v:Value}(e:C fl f args h=some (v,h1))(K:Value→AH→Option R):aD C fl f args h K=K v h1:=by
 unfold aD;rw[e]
theorem ajm{a b:Int}(hb:b≠0)(K:Int→Option R):iZ .rem .i64 a b K=K (a.tmod b):=by
 unfold iZ Cg;simp only[if_neg hb]
theorem ajn{a b:Int}(hb:b≠0)(K:Int→Option R):iZ .quo .i64 a b K=K (bM (a.tdiv b)):=by
 unfold iZ Cg;simp only[if_neg hb]
theorem gO{a b:Nat}(hb:0<b)(K:Int→Option R):iZ .rem .i64 (a:Int) (b:Int) K=K ((a%b:Nat):Int):=by
 rw[ajm (by omega),Int.ofNat_tmod]
theorem aw{n:Int}(m:Nat)(h:n=m)(hm:m<9223372036854775808):bM n=m:=by
 rw[kH (by omega) (by omega)];exact h
theorem DP{a b:Nat}(hb:0<b)(ha:a<9223372036854775808)(K:Int→Option R):iZ .quo .i64 (a:Int) (b:Int) K=K ((a/b:Nat):Int):=by
 rw[ajn (by omega),←Int.ofNat_tdiv,aw (a/b) rfl (Nat.lt_of_le_of_lt (Nat.div_le_self a b) ha)]
theorem ajo(v:Value)(n:Nat):KB [v] n=List.replicate n v:=by
 unfold KB
 induction n with
 |zero=>rfl
 |succ n ih=>rw[List.replicate_succ,List.flatten_cons,ih];rfl
theorem jb{bytes:Nat}{v:Value}{n:Nat}(hn:n*bytes≤lk)(h:AH)(K:Sl→AH→Option R):
 wU bytes [v] (n:Int) (n:Int) h K=K ⟨some ⟨h.next,0,none⟩,n,n⟩ (h.alloc (List.replicate n v)):=by
 unfold wU
 rw[if_pos ⟨by omega,by omega,by exact_mod_cast hn⟩]
 simp[ajo]
end
theorem oi(n:Nat):List.replicate n (Value.int .i64 0)=iv (ints (List.replicate n 0)):=by simp[iv,ints]
end Go.Abs
end
section
namespace Go.Abs
structure iI(x:Option Addr)(h h':AH):Prop where
 next:h.next≤h'.next
 iq:∀b,b<h.next→(∀a,x=some a→a.block≠b)→h'.iq b=h.iq b
theorem iI.ob{x:Option Addr}{h h':AH}(p:iI x h h'){b:Nat}{vs:List Value}(o:OB h b vs)(hb:∀a,x=some a→a.block≠b):OB h' b vs:=
 ⟨Nat.lt_of_lt_of_le o.1 p.1,by rw[p.2 b o.1 hb];exact o.2⟩
theorem iI.quiet{x:Option Addr}{h0 h h':AH}(p:iI x h h')(q:aj h0 h)(hx:∀a,x=some a→h0.next≤a.block):aj h0 h':=
 ⟨Nat.le_trans q.1 p.1,fun b hb=>by rw[p.2 b (Nat.lt_of_lt_of_le hb q.1) (fun a ha=>by have:=hx a ha;omega)];exact q.2 b hb⟩
theorem iI.put{h:AH}{b o:Nat}{t:Option Nat}(vs:Option (List Value)):iI (some ⟨b,o,t⟩) h (h.put b vs):=
 ⟨Nat.le_refl _,fun c _ hc=>by
  have:=hc _ rfl
  simp only[AH.put];rw[if_neg (fun e=>this e.symm)]⟩
theorem aj.ob{h h':AH}(q:aj h h'){b:Nat}{vs:List Value}(o:OB h b vs):OB h' b vs:=o.quiet q
theorem yD{h:AH}{c:Nat}(vs:List Value)(hc:c<h.next):(h.alloc vs).iq c=h.iq c:=by simp only[AH.alloc];rw[if_neg (by omega)]
theorem P4{h:AH}{b c:Nat}(x:Option (List Value))(hc:b≠c):(h.put b x).iq c=h.iq c:=by simp only[AH.put];rw[if_neg (fun e=>hc e.symm)]
def OV(n0:Nat)(h:AH)(s:Sl)(vs:List Value):Prop:=
 (vs=[]∧s=⟨none,0,0⟩)∨(∃b c,n0≤b∧b<h.next∧vs≠[]∧(c=pB+1∨c=vs.length∧c<pB)∧s=⟨some ⟨b,0,none⟩,vs.length,c⟩∧h.iq b=some vs)
theorem OV.nil(n0:Nat)(h:AH):OV n0 h ⟨none,0,0⟩ []:=.inl ⟨rfl,rfl⟩
theorem OV.len{n0 h s vs}(p:OV n0 h s vs):s.l=vs.length:=by
 rcases p with⟨rfl,rfl⟩|⟨b,c,_,_,_,_,rfl,_⟩<;>rfl
theorem OV.ge{n0 h s vs}(p:OV n0 h s vs):∀a,s.a=some a→n0≤a.block:=by
 rcases p with⟨rfl,rfl⟩|⟨b,c,h1,_,_,_,rfl,_⟩
 ·intro a h;cases h
 ·intro a h;cases h;exact h1
theorem OV.si{n0 h s}{xs:List Int}(p:OV n0 h s (iv xs)):SI h s xs:=by
 rcases p with⟨h1,rfl⟩|⟨b,c,h1,h2,h3,h4,rfl,h5⟩
 ·have:xs=[]:=by simpa [iv] using h1
  subst this;exact SI.nil h
 ·refine⟨by simp,fun i hi=>⟨_,rfl,h2,?_⟩⟩
  simp only[AH.cell,h5,Nat.zero_add];exact FP xs i hi
theorem OV.ajp{n0 h h' s vs}(p:OV n0 h s vs)(hn:h.next≤h'.next)(hb:∀a,s.a=some a→h'.iq a.block=h.iq a.block):OV n0 h' s vs:=by
 rcases p with⟨rfl,rfl⟩|⟨b,c,h1,h2,h3,h4,rfl,h5⟩
 ·exact OV.nil n0 h'
 ·exact .inr ⟨b,c,h1,Nat.lt_of_lt_of_le h2 hn,h3,h4,rfl,by rw[hb _ rfl];exact h5⟩
theorem OV.quiet{n0 h h' s vs}(p:OV n0 h s vs)(q:aj h h'):OV n0 h' s vs:=by
 rcases p with⟨rfl,rfl⟩|⟨b,c,h1,h2,h3,h4,rfl,h5⟩
 ·exact OV.nil n0 h'
 ·exact .inr ⟨b,c,h1,Nat.lt_of_lt_of_le h2 q.1,h3,h4,rfl,by rw[q.2 _ h2];exact h5⟩
theorem OV.full{h:AH}{b:Nat}{vs:List Value}{n0:Nat}(o:OB h b vs)(hb:n0≤b)(iH:vs≠[])(hu:vs.length<pB):OV n0 h ⟨some ⟨b,0,none⟩,vs.length,vs.length⟩ vs:=
 .inr ⟨b,vs.length,hb,o.1,iH,.inr ⟨rfl,hu⟩,rfl,o.2⟩
theorem OV.mono{n0 n1 h s vs}(p:OV n0 h s vs)(hn:n1≤n0):OV n1 h s vs:=by
 rcases p with⟨rfl,rfl⟩|⟨b,c,h1,h2,h3,h4,rfl,h5⟩
 ·exact OV.nil n1 h
 ·exact .inr ⟨b,c,Nat.le_trans hn h1,h2,h3,h4,rfl,h5⟩
section
variable{R:Type}
theorem OV.push{n0 fl bytes:Nat}{h:AH}{s:Sl}{vs:List Value}(p:OV n0 h s vs)(bL:fl≤n0)(hn0:n0≤h.next)(hr:(vs.length+1)*bytes≤lk){x:Value}(hx:yp x=true)(K:Sl→AH→Option R):
 ∃s' h',(cU h [x] fun b h1=>iJ fl 1 bytes s ⟨some ⟨b,0,none⟩,1,1⟩ h1 K)=K s' h'∧OV n0 h' s' (vs++[x])∧iI s.a h h'∧(∀a,s'.a=some a→h.next≤a.block):=by
 have hb:(h.alloc [x]).iq h.next=some [x]:=by simp[AH.alloc]
 have rd:∀{R':Type} (F:List Value→Option R'),Fg (h.alloc [x]) (some ⟨h.next,0,none⟩) (1*1) F=F [x]:=by
  intro R' F
  simp[Fg,hb]
 rcases p with⟨rfl,rfl⟩|⟨b,c,h1,h2,h3,h4,rfl,h5⟩
 ·refine⟨⟨some ⟨h.next+1,0,none⟩,1,pB+1⟩,(h.alloc [x]).alloc [x],?_,.inr ⟨h.next+1,pB+1,by omega,?_,by simp,.inl rfl,rfl,?_⟩,⟨?_,?_⟩,?_⟩
  ·show iJ fl 1 bytes ⟨none,0,0⟩ ⟨some ⟨h.next,0,none⟩,1,1⟩ (h.alloc [x]) K=_
   unfold iJ
   simp only[List.length_nil] at hr
   rw[if_neg (by simp),if_pos (by simpa using hr),rd]
   simp[AH.alloc]
  ·simp[AH.alloc]
  ·simp[AH.alloc]
  ·simp only[AH.alloc];omega
  ·intro c hc _;rw[yD _ (by simp only[AH.alloc];omega),yD _ hc]
  ·intro a ha;cases ha;simp
 ·have hbn:(h.alloc [x]).iq b=some vs:=by simp[AH.alloc,Nat.ne_of_lt h2,h5]
  have hrd:∀{R':Type} (F:List Value→Option R'),Fg (h.alloc [x]) (some ⟨b,0,none⟩) (vs.length*1) F=F vs:=by
   intro R' F
   simp[Fg,hbn]
  rcases h4 with rfl|⟨rfl,hu⟩
  ·refine⟨⟨some ⟨h.next+1,0,none⟩,vs.length+1,pB+1⟩,((h.alloc [x]).put b none).alloc (vs++[x]),?_,.inr ⟨h.next+1,pB+1,by omega,?_,by simp,.inl rfl,by simp,?_⟩,⟨?_,?_⟩,?_⟩
   ·show iJ fl 1 bytes ⟨some ⟨b,0,none⟩,vs.length,pB+1⟩ ⟨some ⟨h.next,0,none⟩,1,1⟩ (h.alloc [x]) K=_
    unfold iJ
    rw[if_neg (by simp),if_pos (by simpa using hr),rd]
    have hU:¬(pB+1<pB):=by omega
    simp only[if_neg hU,hrd]
    rw[if_pos ⟨by omega,trivial,by simp[hx]⟩]
    rfl
   ·simp[AH.alloc,AH.put]
   ·simp[AH.alloc,AH.put]
   ·simp only[AH.alloc,AH.put];omega
   ·intro c hc hcb
    have:=hcb _ rfl
    rw[yD _ (by simp only[AH.alloc,AH.put];omega),P4 _ this,yD _ hc]
   ·intro a ha;cases ha;simp
  ·refine⟨⟨some ⟨h.next+1,0,none⟩,vs.length+1,pB+1⟩,(h.alloc [x]).alloc (vs++[x]),?_,.inr ⟨h.next+1,pB+1,by omega,?_,by simp,.inl rfl,by simp,?_⟩,⟨?_,?_⟩,?_⟩
   ·show iJ fl 1 bytes ⟨some ⟨b,0,none⟩,vs.length,vs.length⟩ ⟨some ⟨h.next,0,none⟩,1,1⟩ (h.alloc [x]) K=_
    unfold iJ
    rw[if_neg (by simp),if_pos (by simpa using hr),rd]
    simp only[if_pos hu,hrd]
    rw[if_neg (by omega)]
    rfl
   ·simp[AH.alloc]
   ·simp[AH.alloc]
   ·simp only[AH.alloc];omega
   ·intro c hc _;rw[yD _ (by simp only[AH.alloc];omega),yD _ hc]
   ·intro a ha;cases ha;simp
end
end Go.Abs
namespace Go.Abs
theorem iI.trans{x:Option Addr}{a b c:AH}(p:iI x a b)(q:iI x b c):iI x a c:=
 ⟨Nat.le_trans p.1 q.1,fun d hd hx=>(q.2 d (Nat.lt_of_lt_of_le hd p.1) hx).trans (p.2 d hd hx)⟩
theorem iI.refl(x:Option Addr)(h:AH):iI x h h:=⟨Nat.le_refl _,fun _ _ _=>rfl⟩
theorem iI.P5{x:Option Addr}{h h':AH}(q:aj h h'):iI x h h':=⟨q.1,fun b hb _=>q.2 b hb⟩
theorem SI.Ao{x:Option Addr}{h h':AH}{s:Sl}{xs:List Int}(p:SI h s xs)(q:iI x h h')(iH:∀a b,s.a=some a→x=some b→b.block≠a.block):SI h' s xs:=⟨p.1,fun i hi=>by
 obtain⟨a,h1,h2,h3⟩:=p.2 i hi
 exact⟨a,h1,Nat.lt_of_lt_of_le h2 q.1,by unfold AH.cell at h3 ⊢;rw[q.2 _ h2 (fun b hb=>iH a b h1 hb)];exact h3⟩⟩
theorem SI.Fg{R:Type}{h:AH}{s:Sl}{xs:List Int}(p:SI h s xs)(iH:xs≠[])(K:List Value→Option R):Fg h s.a (s.l*1) K=K (iv xs):=by
 have hl:0<xs.length:=List.length_pos_iff.2 iH
 obtain⟨a,h1,h2,h3⟩:=p.2 0 hl
 unfold Abs.Fg
 rw[h1]
 unfold AH.cell at h3
 cases hb:h.iq a.block with
 |none=>rw[hb] at h3;cases h3
 |some cs=>
  simp only
  have k8:∀i (hi:i<xs.length),cs[a.off+i]?=some (.int .i64 xs[i]):=by
   intro i hi
   obtain⟨a',g1,g2,g3⟩:=p.2 i hi
   rw[h1] at g1
   cases g1
   unfold AH.cell at g3
   rw[hb] at g3
   exact g3
  have hlen:a.off+xs.length≤cs.length:=by
   have h4:=k8 (xs.length-1) (by omega)
   have h5:a.off+(xs.length-1)<cs.length:=by
    refine Classical.byContradiction fun hc=>?_
    rw[List.getElem?_eq_none (by omega)] at h4
    cases h4
   omega
  simp only[hb]
  rw[p.1,Nat.mul_one,if_pos hlen]
  congr 1
  apply List.ext_getElem?
  intro i
  by_cases hi:i<xs.length
  ·rw[List.getElem?_take,if_pos hi,List.getElem?_drop,k8 i hi,FP xs i hi]
  ·rw[List.getElem?_take,if_neg hi,List.getElem?_eq_none (by simp;omega)]
theorem SI.lt{h:AH}{s:Sl}{xs:List Int}(p:SI h s xs)(iH:xs≠[]):∀a,s.a=some a→a.block<h.next:=by
 obtain⟨a,h1,h2,_⟩:=p.2 0 (List.length_pos_iff.2 iH)
 intro b hb
 rw[h1] at hb;cases hb;exact h2
end Go.Abs
end
section
namespace Go.Abs
open Go.RowKit Go.ChangeShapes Go.WideShapes
def nice(n:Nat):Value→Bool
 |.bool _=>true
 |.int _ _=>true
 |.pointer none=>true
 |.pointer (some a)=>decide (a.block<n)&&a.spot.isNone
 |.slice none l c=>decide (l=0)&&decide (c=0)
 |.slice (some a) l c=>(decide (l=0)&&decide (c=0))||(decide (a.block<n)&&a.spot.isNone&&decide (c<pB)&&decide (l≤c))
 |_=>false
def img(n:Nat)(v:Value):Value:=if nice n v=true then v else .tuple #[]
def muW(w:World):Mu:=fun b=>if b<w.heap.size then some (b,0) else none
theorem ajq{w:World}{b:Nat}(h:b<w.heap.size):muW w b=some (b,0):=by unfold muW;rw[if_pos h]
theorem X8{w:World}{b rb o:Nat}(h:muW w b=some (rb,o)):rb=b∧o=0∧b<w.heap.size:=by
 unfold muW at h
 split at h
 ·simp only[Option.some.injEq,Prod.mk.injEq] at h;exact⟨h.1.symm,h.2.symm,by assumption⟩
 ·cases h
theorem Im{w:World}{sz:Nat→Nat}{v:Value}(h:nice w.heap.size v=true):cC (muW w) sz v v:=by
 unfold nice at h
 split at h
 ·exact .bool _
 ·exact .int _ _
 ·exact .LN
 ·rename_i a
  simp only[Bool.and_eq_true,decide_eq_true_eq,Option.isNone_iff_eq_none] at h
  obtain⟨b,o,s⟩:=a
  obtain⟨h1,h2⟩:=h
  simp only at h2;subst h2
  have:=cC.ptr (μ:=muW w) (sz:=sz) (b:=b) (o:=o) (s:=none) (ajq h1)
  rwa[Nat.zero_add] at this
 ·rename_i l c
  simp only[Bool.and_eq_true,decide_eq_true_eq] at h
  obtain⟨rfl,rfl⟩:=h
  exact .kZ
 ·rename_i a l c
  simp only[Bool.or_eq_true,Bool.and_eq_true,decide_eq_true_eq,Option.isNone_iff_eq_none] at h
  rcases h with⟨rfl,rfl⟩|⟨⟨⟨h1,h2⟩,h3⟩,h4⟩
  ·exact .S9
  ·obtain⟨b,o,s⟩:=a
   simp only at h2;subst h2
   have:=cC.slice (μ:=muW w) (sz:=sz) (b:=b) (o:=o) (s:=none) (ajq h1) h3 h4
   rwa[Nat.zero_add] at this
 ·cases h
theorem aof{w:World}{sz:Nat→Nat}(v:Value):cC (muW w) sz (img w.heap.size v) v:=by
 unfold img
 split
 ·exact Im (by assumption)
 ·exact .ue v
def KO(w:World):AH:=⟨w.heap.size,fun b=>match w.heap[b]? with
 |some (.cells c _ _)=>some (c.toList.map (img w.heap.size))
 |_=>none⟩
theorem X9{w:World}{b:Nat}{cs:List Value}(h:(KO w).iq b=some cs):∃c t f,w.heap[b]?=some (.cells c t f)∧cs=c.toList.map (img w.heap.size):=by
 unfold KO at h
 simp only at h
 split at h
 ·rename_i c t f e;injection h with h;exact⟨c,t,f,e,h.symm⟩
 ·cases h
theorem Ux{w:World}{b:Nat}{cs:List Value}(h:(KO w).iq b=some cs):b<w.heap.size:=by
 obtain⟨c,t,f,e,_⟩:=X9 h
 exact(Array.getElem?_eq_some_iff.1 e).1
theorem ajr(w:World):yo w.heap.size w.heap.size (muW w) (KO w) w where
 cell b cs rb o h1 h2 j v hv:=by
  obtain⟨rfl,rfl,_⟩:=X8 h2
  obtain⟨c,t,f,e,rfl⟩:=X9 h1
  rw[List.getElem?_map] at hv
  cases hc:c.toList[j]? with
  |none=>rw[hc] at hv;cases hv
  |some v'=>
   rw[hc] at hv
   simp only[Option.map_some,Option.some.injEq] at hv
   subst hv
   refine⟨v',?_,aof v'⟩
   simp only[World.cell?,e,Nat.zero_add]
   simpa using hc
 own b cs rb o h0 h1 _:=by have:=Ux h1;omega
 inj b b' cs eE rb o o' h0 h1:=by have:=Ux h1;omega
 lt b rb o h:=by obtain⟨rfl,_,h3⟩:=X8 h;exact h3
 Po b cs h:=Ux h
theorem Ip{w:World}{a:Addr}{v:Value}(h:w.cell? a=some v):a.spot=none∧a.block<w.heap.size∧(KO w).cell a.block a.off=some (img w.heap.size v):=by
 unfold World.cell? at h
 split at h
 ·rename_i c t f e
  split at h
  ·cases h
  ·rename_i hs
   refine⟨by simpa using hs,(Array.getElem?_eq_some_iff.1 e).1,?_⟩
   unfold AH.cell KO
   simp only[e,List.getElem?_map]
   rw[show c.toList[a.off]?=some v by simpa using h]
   rfl
 ·cases h
theorem DQ(a:Addr)(n:Nat):(a.add n).block=a.block∧(a.add n).off=a.off+n:=by unfold Addr.add;split<;>simp_all
theorem aog{P:Program}{C:Callee}(hC:fx P C){f:FuncId}{args args':List Value}{b:Bool}{w:World}{h':AH}(e:C w.heap.size f args (KO w)=some (.bool b,h'))(ha:bq (muW w) (c8 w) args args'):
 Calls P f args'.toArray w fun e w'=>e=.returned (.bool b)∧Below w.heap.size w w':=by
 refine(hC.sound _ _ _ _ _ _ e w.heap.size w.heap.size (muW w) w args' (ajr w) (Nat.le_refl _) (Nat.le_refl _) (Nat.le_refl _) ha ?_).mono ?_
 ·intro c h1 _
  unfold muW
  rw[if_neg (by have:w.heap.size≤c:=h1;omega)]
 ·rintro e' w' ⟨v',μ',rfl,p,hv⟩
  have:=hv.tz
  subst this
  exact⟨rfl,⟨p.os,p.tape,p.output,p.hs,fun rb EC=>p.fr rb EC fun c cs o h1 h2=>by have:c<w.heap.size:=h2;omega⟩⟩
section
variable{H:Type}{enc:TypeId×Value→H}{P:Program}{w:World}{held:Bool}
theorem SI.open{t e:TypeId}{fuel:Nat}{a:Option Addr}{l c:Nat}{x:DataW H×List MemPlace}(ht:P.underlying t=some (.slice e))(he:P.underlying e=some (.int .i64))(hc:P.cellsOf e=1)
 (h:DataW.trod enc P w 0 (fun _=>true) held fuel t [.slice a l c]=some x):∃xs:List Int,SI (KO w) ⟨a,l,c⟩ xs∧xs.length≤maxLen∧nice w.heap.size (.slice a l c)=true∧∀n∈xs,(Lit.int .i64 n).wf=true:=by
 rcases open_ints ht he hc h with⟨hcs,_⟩|⟨x,l',c',zs,hcs,_,hl,hm,hz,_,k8,hwz⟩
 ·simp only[List.cons.injEq,Value.slice.injEq,and_true] at hcs
  obtain⟨rfl,rfl,rfl⟩:=hcs
  exact⟨[],SI.nil _,by simp,rfl,by simp⟩
 ·simp only[List.cons.injEq,Value.slice.injEq,and_true] at hcs
  obtain⟨rfl,rfl,rfl⟩:=hcs
  simp only[if_true] at hz
  have hlen:(zs.take l).length=l:=by simp;omega
  refine⟨zs.take l,⟨hlen.symm,fun i hi=>?_⟩,by omega,?_,fun n hn=>hwz n (List.mem_of_mem_take hn)⟩
  ·have Bl:i<zs.length:=by rw[hlen] at hi;omega
   obtain⟨h1,h2,h3⟩:=Ip (k8 i Bl)
   rw[(DQ x i).1,(DQ x i).2] at h3
   rw[(DQ x i).1] at h2
   refine⟨x,rfl,h2,?_⟩
   rw[h3]
   simp[img,nice,List.getElem?_eq_getElem Bl]
  ·by_cases h0:c=0
   ·have:l=0:=by omega
    subst h0;subst this;simp[nice]
   ·have h1:=Ip (k8 0 (by omega))
    have e0:x.add 0=x:=by simp[Addr.add]
    rw[e0] at h1
    obtain⟨h1,h2,_⟩:=h1
    simp[nice,h1,h2,hl]
    right
    unfold maxLen at hm;unfold pB;omega
end
end Go.Abs
end
section
namespace Go.Abs.fn
abbrev dD:Nat:=10
abbrev dF:Nat:=11
abbrev nB:Nat:=12
abbrev fc:Nat:=13
abbrev fe:Nat:=15
abbrev jc:Nat:=17
abbrev adx:Nat:=18
abbrev abc:Nat:=20
abbrev ady:Nat:=23
abbrev adz:Nat:=25
abbrev aib:Nat:=28
abbrev pR:Nat:=29
abbrev nC:Nat:=32
abbrev aoh:Nat:=33
abbrev pS:Nat:=35
abbrev tE:Nat:=36
abbrev yE:Nat:=37
abbrev jd:Nat:=38
abbrev bZ:Nat:=39
abbrev cJ:Nat:=40
abbrev je:Nat:=43
abbrev jf:Nat:=44
abbrev fW:Nat:=47
abbrev adA:Nat:=48
abbrev aic:Nat:=49
abbrev aid:Nat:=54
abbrev abd:Nat:=56
abbrev abe:Nat:=59
abbrev vk:Nat:=60
abbrev gP:Nat:=62
abbrev kJ:Nat:=63
abbrev aoi:Nat:=64
abbrev aoj:Nat:=65
abbrev ajs:Nat:=66
abbrev anl:Nat:=67
abbrev vH:Nat:=68
abbrev DS:Nat:=69
abbrev ir:Nat:=70
abbrev yF:Nat:=71
abbrev vI:Nat:=72
abbrev cj:Nat:=73
abbrev kK:Nat:=74
abbrev eK:Nat:=75
abbrev aM:Nat:=76
abbrev cO:Nat:=77
abbrev fM:Nat:=79
abbrev nD:Nat:=80
abbrev ajt:Nat:=81
abbrev fX:Nat:=82
abbrev aju:Nat:=83
abbrev agh:Nat:=84
abbrev auy:Nat:=85
abbrev kL:Nat:=86
abbrev aok:Nat:=89
abbrev ajv:Nat:=90
abbrev Ya:Nat:=91
abbrev Uy:Nat:=94
abbrev kM:Nat:=96
abbrev nE:Nat:=97
abbrev gQ:Nat:=98
abbrev gR:Nat:=99
abbrev adB:Nat:=100
abbrev ajw:Nat:=101
abbrev dG:Nat:=102
abbrev lx:Nat:=103
abbrev fG:Nat:=104
abbrev yG:Nat:=105
abbrev kN:Nat:=106
abbrev fB:Nat:=107
abbrev jr:Nat:=108
abbrev js:Nat:=109
abbrev fY:Nat:=110
abbrev pT:Nat:=111
abbrev kO:Nat:=112
abbrev gS:Nat:=113
abbrev cF:Nat:=114
abbrev dH:Nat:=115
abbrev cK:Nat:=116
abbrev jy:Nat:=117
abbrev dR:Nat:=118
abbrev jz:Nat:=119
abbrev dT:Nat:=120
abbrev fQ:Nat:=123
abbrev gT:Nat:=124
abbrev fz:Nat:=125
abbrev pU:Nat:=126
abbrev ajx:Nat:=127
abbrev Xn:Nat:=128
abbrev Xo:Nat:=134
abbrev mC:Nat:=136
abbrev ly:Nat:=137
abbrev abf:Nat:=138
abbrev gU:Nat:=139
abbrev jg:Nat:=140
abbrev lz:Nat:=141
abbrev lA:Nat:=142
abbrev fR:Nat:=143
abbrev eX:Nat:=144
abbrev m4:Nat:=145
abbrev j4:Nat:=146
abbrev lB:Nat:=147
abbrev eY:Nat:=148
abbrev gV:Nat:=149
abbrev avR:Nat:=151
abbrev vJ:Nat:=152
abbrev nF:Nat:=153
abbrev pV:Nat:=154
abbrev nG:Nat:=155
abbrev cP:Nat:=156
abbrev fN:Nat:=157
abbrev Uz:Nat:=158
abbrev Ty:Nat:=159
abbrev as5:Nat:=160
abbrev Xp:Nat:=161
abbrev RZ:Nat:=162
abbrev eL:Nat:=166
abbrev bG:Nat:=167
abbrev eM:Nat:=168
abbrev eO:Nat:=169
abbrev fZ:Nat:=170
abbrev j5:Nat:=171
abbrev gH:Nat:=172
abbrev nH:Nat:=173
abbrev yH:Nat:=174
abbrev abg:Nat:=175
abbrev UA:Nat:=176
abbrev anm:Nat:=177
abbrev ann:Nat:=178
abbrev Xq:Nat:=179
abbrev ano:Nat:=180
abbrev Xr:Nat:=181
abbrev Xs:Nat:=185
abbrev ajy:Nat:=186
abbrev tR:Nat:=187
abbrev OK:Nat:=188
abbrev UB:Nat:=189
abbrev OL:Nat:=190
abbrev RU:Nat:=191
abbrev P6:Nat:=192
abbrev FQ:Nat:=193
abbrev awT:Nat:=194
abbrev Nq:Nat:=195
abbrev Tz:Nat:=196
abbrev aie:Nat:=198
abbrev pW:Nat:=201
end Go.Abs.fn
namespace Go.Abs.P
open CP
theorem ab2{T0:Type}{s:T0→List Value}{n:Nat}{c:ab}{rs:List Ci}{C:Callee}{fl k:Nat}{F:T0→AH→Option (Value×AH)}(e:cp s (ce C fl k c (aE rs))=F)(x0:T0){a:List Value}{h:AH}{r:Option (Value×AH)}(e1:a++List.replicate (n-a.length) undef=s x0)(e2:F x0 h=r):bk C fl k ⟨n,c,rs⟩ a h=r:=by subst e2;subst e;unfold bk;simp only[];rw[e1];rfl
theorem CG{T0 T1:Type}{s:T0→T1→List Value}{n:Nat}{c:ab}{rs:List Ci}{C:Callee}{fl k:Nat}{F:T0→T1→AH→Option (Value×AH)}(e:cp s (ce C fl k c (aE rs))=F)(x0:T0)(x1:T1){a:List Value}{h:AH}{r:Option (Value×AH)}(e1:a++List.replicate (n-a.length) undef=s x0 x1)(e2:F x0 x1 h=r):bk C fl k ⟨n,c,rs⟩ a h=r:=by subst e2;subst e;unfold bk;simp only[];rw[e1];rfl
theorem yI{T0 T1 T2:Type}{s:T0→T1→T2→List Value}{n:Nat}{c:ab}{rs:List Ci}{C:Callee}{fl k:Nat}{F:T0→T1→T2→AH→Option (Value×AH)}(e:cp s (ce C fl k c (aE rs))=F)(x0:T0)(x1:T1)(x2:T2){a:List Value}{h:AH}{r:Option (Value×AH)}(e1:a++List.replicate (n-a.length) undef=s x0 x1 x2)(e2:F x0 x1 x2 h=r):bk C fl k ⟨n,c,rs⟩ a h=r:=by subst e2;subst e;unfold bk;simp only[];rw[e1];rfl
theorem KP{T0 T1 T2 T3:Type}{s:T0→T1→T2→T3→List Value}{n:Nat}{c:ab}{rs:List Ci}{C:Callee}{fl k:Nat}{F:T0→T1→T2→T3→AH→Option (Value×AH)}(e:cp s (ce C fl k c (aE rs))=F)(x0:T0)(x1:T1)(x2:T2)(x3:T3){a:List Value}{h:AH}{r:Option (Value×AH)}(e1:a++List.replicate (n-a.length) undef=s x0 x1 x2 x3)(e2:F x0 x1 x2 x3 h=r):bk C fl k ⟨n,c,rs⟩ a h=r:=by subst e2;subst e;unfold bk;simp only[];rw[e1];rfl
theorem vK{T0 T1 T2 T3 T4:Type}{s:T0→T1→T2→T3→T4→List Value}{n:Nat}{c:ab}{rs:List Ci}{C:Callee}{fl k:Nat}{F:T0→T1→T2→T3→T4→AH→Option (Value×AH)}(e:cp s (ce C fl k c (aE rs))=F)(x0:T0)(x1:T1)(x2:T2)(x3:T3)(x4:T4){a:List Value}{h:AH}{r:Option (Value×AH)}(e1:a++List.replicate (n-a.length) undef=s x0 x1 x2 x3 x4)(e2:F x0 x1 x2 x3 x4 h=r):bk C fl k ⟨n,c,rs⟩ a h=r:=by subst e2;subst e;unfold bk;simp only[];rw[e1];rfl
theorem agi{T0 T1 T2 T3 T4 T5:Type}{s:T0→T1→T2→T3→T4→T5→List Value}{n:Nat}{c:ab}{rs:List Ci}{C:Callee}{fl k:Nat}{F:T0→T1→T2→T3→T4→T5→AH→Option (Value×AH)}(e:cp s (ce C fl k c (aE rs))=F)(x0:T0)(x1:T1)(x2:T2)(x3:T3)(x4:T4)(x5:T5){a:List Value}{h:AH}{r:Option (Value×AH)}(e1:a++List.replicate (n-a.length) undef=s x0 x1 x2 x3 x4 x5)(e2:F x0 x1 x2 x3 x4 x5 h=r):bk C fl k ⟨n,c,rs⟩ a h=r:=by subst e2;subst e;unfold bk;simp only[];rw[e1];rfl
theorem azB{T0 T1 T2 T3 T4 T5 T6:Type}{s:T0→T1→T2→T3→T4→T5→T6→List Value}{n:Nat}{c:ab}{rs:List Ci}{C:Callee}{fl k:Nat}{F:T0→T1→T2→T3→T4→T5→T6→AH→Option (Value×AH)}(e:cp s (ce C fl k c (aE rs))=F)(x0:T0)(x1:T1)(x2:T2)(x3:T3)(x4:T4)(x5:T5)(x6:T6){a:List Value}{h:AH}{r:Option (Value×AH)}(e1:a++List.replicate (n-a.length) undef=s x0 x1 x2 x3 x4 x5 x6)(e2:F x0 x1 x2 x3 x4 x5 x6 h=r):bk C fl k ⟨n,c,rs⟩ a h=r:=by subst e2;subst e;unfold bk;simp only[];rw[e1];rfl
end Go.Abs.P
end
section
namespace Go.Proofs
open Go.RowKit Go.Shelf Go.Maps
def Sq.intOf:Value→Int|.int _ q=>q|_=>0
attribute [local go_sem] Oper.semAt_some
def Sq.upto{α:Type}(f:Nat→α)(k:Nat):List α:=(List.range k).map f
theorem Sq.TA{α:Type}(f:Nat→α)(k:Nat):Sq.upto f (k+1)=Sq.upto f k++[f k]:=by simp[Sq.upto,List.range_succ]
theorem Sq.Yb{α:Type}(f:Nat→α)(k:Nat):(Sq.upto f k).length=k:=by simp[Sq.upto]
theorem Sq.ajz(zs:List Int):Sq.upto (fun j=>zs[j]?.getD 0) zs.length=zs:=by
 apply List.ext_getElem
 ·simp[Sq.upto]
 ·intro i h1 h2
  simp[Sq.upto,h2]
set_option maxRecDepth 100000 in
set_option maxHeartbeats 2000000 in
theorem Sq.ab3(F:Fence)(n:Nat)(h187:F.fn 187)(hro:F.round=none)(hn:1≤n)(l Bs Bo n₀ b off len cap:Nat)(zs:List Int)(hreach:len*8≤140737488351232)(hb:b<n₀)(J Jx:List Int→World→Prop)
 (hY:∀pre x W,J pre W→pre.length<len→YieldAt F (n-1) Tryz.prog l #[.int .i64 x] W fun e W'=>
  (e=.returned (.bool true)∧J (pre++[x]) W'∧Below n₀ W W')∨(e=.returned (.bool false)∧Jx (pre++[x]) W'))
 (W:World) (hBs:W.cell? ⟨Bs,Bo,none⟩=some (.slice (some ⟨b,off,none⟩) len cap)) (hc:∀j,j<len→W.cell? ⟨b,off+j,none⟩=some (.int .i64 (zs[j]?.getD 0))) (h0:J [] W):
 CallsIn F n Tryz.prog 187 #[.func (.yield l) #[] #[],.pointer (some ⟨Bs,Bo,none⟩)] W fun e W'=>(∃v,e=.returned v)∧
  ((∃ys,ys=Sq.upto (fun j=>zs[j]?.getD 0) len∧J ys W')∨(∃pre,(∃k,k≤len∧pre=Sq.upto (fun j=>zs[j]?.getD 0) k)∧Jx pre W')):=by
 refine callsIn_of_wp Tryz.func187 rfl h187 ?_ hro
 simp only[Tryz.ntmps187,List.size_toArray,List.length_cons,List.length_nil,Nat.reduceAdd,Nat.reduceSub,Array.replicate_succ,Array.replicate_zero,List.push_toArray,List.append_toArray,List.nil_append,List.cons_append]
 gi_wp2
 gi_loopw [7] (fun i wr=>∃k:Nat,k≤len∧i=.int .i64 k∧J (Sq.upto (fun j=>zs[j]?.getD 0) k) wr∧Below n₀ W wr)
  (fun i _=>len-(Sq.intOf i).toNat)
 case atStart=>exact⟨0,Nat.zero_le _,rfl,h0,Below.refl _ _⟩
 case round=>
  obtain⟨k,hk,rfl,hJs,hnx⟩:=hrel
  have hcx:k<len→wr.cell? ⟨b,off+k,none⟩=some (.int .i64 (zs[k]?.getD 0)):=fun h=>(hnx.cell (p:=⟨b,off+k,none⟩) hb).trans (hc k h)
  by_cases hlt:k<len
  ·obtain⟨fn,tmps,assign,body,hy,hR⟩:=hY _ (zs[k]?.getD 0) wr hJs (by rw[Sq.Yb];exact hlt)
   have hcx':=hcx hlt
   gi_wp2
   refine hR.mono ?_
   rintro e W3 (⟨rfl,hJ3,hk3⟩|⟨rfl,hJx3⟩)
   ·
     gi_wp2
     go_roundw
     case rel=>exact⟨k+1,by omega,by simp,by rw[Sq.TA];exact hJ3,hnx.trans hk3⟩
     case measure=>simp[Sq.intOf];omega
   ·gi_wp2
    refine bodyPost_ret (results_none rfl _ _ _) rfl ?_
    exact⟨⟨_,rfl⟩,.inr ⟨_,⟨k+1,by omega,(Sq.TA _ _).symm⟩,hJx3⟩⟩
  ·obtain rfl:k=len:=by omega
   gi_wp2
   go_end0
   exact⟨⟨_,rfl⟩,.inl ⟨_,rfl,hJs⟩⟩
theorem Sq.agj(zs:List Int){k:Nat}(hk:k≤zs.length):Sq.upto (fun j=>zs[j]?.getD 0) k=zs.take k:=by
 apply List.ext_getElem
 ·simp[Sq.upto,hk]
 ·intro i h1 h2
  have:i<zs.length:=by simp[Sq.upto] at h1;omega
  simp[Sq.upto,this]
def Sq.agk(n₀:Nat)(W:World)(sv:Value)(zs:List Int):Prop:=
 (sv=.slice none 0 0∧zs=[])∨∃b off cap,sv=.slice (some ⟨b,off,none⟩) zs.length cap∧b<n₀∧∀j,j<zs.length→W.cell? ⟨b,off+j,none⟩=some (.int .i64 (zs[j]?.getD 0))
theorem Sq.agk.below{n₀:Nat}{A B:World}(h:Below n₀ A B){sv:Value}{zs:List Int}:Sq.agk n₀ A sv zs→Sq.agk n₀ B sv zs
 |.inl e=>.inl e
 |.inr ⟨b,off,cap,e,hb,hc⟩=>.inr ⟨b,off,cap,e,hb,fun j hj=>(h.cell (p:=⟨b,off+j,none⟩) hb).trans (hc j hj)⟩
set_option maxRecDepth 100000 in
set_option maxHeartbeats 1000000 in
theorem Sq.P7(F:Fence)(n:Nat)(h187:F.fn 187)(hro:F.round=none)(l Bs Bo:Nat)(J:List Int→World→Prop)(W:World)(hBs:W.cell? ⟨Bs,Bo,none⟩=some (.slice none 0 0))(h0:J [] W):
 CallsIn F n Tryz.prog 187 #[.func (.yield l) #[] #[],.pointer (some ⟨Bs,Bo,none⟩)] W fun e W'=>(∃v,e=.returned v)∧J [] W':=by
 refine callsIn_of_wp Tryz.func187 rfl h187 ?_ hro
 simp only[Tryz.ntmps187,List.size_toArray,List.length_cons,List.length_nil,Nat.reduceAdd,Nat.reduceSub,Array.replicate_succ,Array.replicate_zero,List.push_toArray,List.append_toArray,List.nil_append,List.cons_append]
 gi_wp2
 gi_loopw [7] (fun i wr=>i=.int .i64 0∧J [] wr) (fun _ _=>0)
 case atStart=>exact⟨rfl,h0⟩
 case round=>
  obtain⟨rfl,hJs⟩:=hrel
  gi_wp2
  go_end0
  exact⟨⟨_,rfl⟩,hJs⟩
theorem Sq.UC(F:Fence)(n:Nat)(h187:F.fn 187)(hro:F.round=none)(hn:1≤n)(Bs Bo n₀:Nat)(sv:Value)(zs:List Int)(hreach:zs.length*8≤140737488351232)(w:World)(hBs:Bs<w.heap.size)(hn₀:n₀≤w.heap.size)
 (hc:w.cell? ⟨Bs,Bo,none⟩=some sv) (hI:Sq.agk n₀ w sv zs):
 SeqStopsK F n Tryz.prog 187 #[.pointer (some ⟨Bs,Bo,none⟩)] (fun x:Int=>#[Value.int .i64 x]) (Below n₀) (fun ys=>ys=zs) (fun pre=>pre<+:zs) zs.length w:=fun l J Jx W hW _ _ hY h0=>by
 have hc':=(hW.cell (p:=⟨Bs,Bo,none⟩) hBs).trans hc
 rcases hI.below (hW.mono hn₀) with⟨rfl,rfl⟩|⟨b,off,cap,rfl,hb,hcs⟩
 ·exact(Sq.P7 F n h187 hro l Bs Bo J W hc' h0).mono fun e W' ⟨he,hj⟩=>⟨he,.inl ⟨_,rfl,hj⟩⟩
 ·refine(Sq.ab3 F n h187 hro hn l Bs Bo n₀ b off zs.length cap zs hreach hb J Jx hY W hc' hcs h0).mono ?_
  rintro e W' ⟨he,⟨ys,rfl,hj⟩|⟨pre,⟨k,hk,rfl⟩,hj⟩⟩
  ·exact⟨he,.inl ⟨_,Sq.ajz zs,hj⟩⟩
  ·exact⟨he,.inr ⟨_,by rw[Sq.agj zs hk];exact List.take_prefix _ _,hj⟩⟩
theorem Sq.CH{W:World}{B:Nat}{v:Value}{t:TypeId}(h:W.heap[B]?=some (.cells #[v] t (0,0))):W.cell? ⟨B,0,none⟩=some v∧W.frozen? ⟨B,0,none⟩=false:=by
 constructor<;>simp[World.cell?,World.frozen?,h]
theorem Sq.KQ{W:World}{B:Nat}{v:Value}{t:TypeId}(v':Value)(h:W.heap[B]?=some (.cells #[v] t (0,0))):(W.setCell ⟨B,0,none⟩ v').heap[B]?=some (.cells #[v'] t (0,0)):=by
 obtain⟨hlt,hk⟩:=Array.getElem?_eq_some_iff.1 h
 show(W.heap.modify B _)[B]?=_
 rw[Array.getElem?_eq_getElem (by rw[Array.size_modify];exact hlt),Array.getElem_modify_self,hk]
 rfl
theorem Sq.KR(W:World)(b:Nat)(v:Value):W.grownBy (W.setCell ⟨b,0,none⟩ v) (some b):=
 ⟨rfl,rfl,rfl,(KeepsWalks.setCell W _ v).size,fun k _ hk=>Below.heap_setCell _ _ _ k (fun e=>hk (by rw[e]))⟩
theorem Sq.R0{W:World}{base:Nat}{e:TypeId}{size:Nat}{v:Value}{k:Nat}{xs:List Value}(h:W.ownsRow base e size v k xs):∀(j:Nat) (o:Obj),v.ownBlock=some j→W.heap[j]?=some o→o.isCells=true:=by
 intro j o hj ho
 rcases h.2 with⟨rfl,_⟩|⟨g,cap,cur,rfl,_,hgb,_⟩
 ·simp[Value.ownBlock] at hj
 ·have:g=j:=by simpa [Value.ownBlock] using hj
  subst this;rw[hgb] at ho;cases ho;rfl
theorem Sq.FT{W:World}{base:Nat}{e:TypeId}{size:Nat}{v:Value}{k:Nat}{xs:List Value}(h:W.ownsRow base e size v k xs){j:Nat}{o:Obj}(hj:W.heap[j]?=some o)(ho:∀cur,o≠.cells cur e (0,0)):some j≠v.ownBlock:=by
 rcases h.2 with⟨rfl,_⟩|⟨g,cap,cur,rfl,_,hg,_⟩
 ·simp[Value.ownBlock]
 ·intro e'
  simp[Value.ownBlock] at e'
  subst e'
  rw[hj] at hg
  exact ho _ (Option.some.inj hg)
def Sq.At(w:World)(pre:List Int)(W:World):Prop:=
 (∃v,W.heap[w.heap.size]?=some (.cells #[v] 22 (0,0))∧W.ownsRow w.heap.size 3 1 v pre.length (pre.map (Value.int .i64))∧(v=.slice none 0 0↔pre=[]))∧Below w.heap.size w W
theorem Sq.auz(w:World):OwnFrom (w.heap.size+1) (Sq.At w):=fun s W W' row h hg hr=>by
 obtain⟨⟨v,hv,hrow,hnil⟩,hb⟩:=h
 have hr':∀r,row=some r→∃o:Obj,W.heap[r]?=some o∧o.isCells=false:=fun r e=>(hr r e).2
 refine⟨⟨v,(grownBy_keeps_cells hg hr' hv rfl).trans hv,⟨hrow.1,?_⟩,hnil⟩,hb.grown hg hb.size (fun k e=>by have:=(hr k e).1;omega)⟩
 rcases hrow.2 with h1|⟨g,cap,cur,h1,h2,h3,h4⟩
 ·exact .inl h1
 ·exact .inr ⟨g,cap,cur,h1,h2,(grownBy_keeps_cells hg hr' h3 rfl).trans h3,h4⟩
set_option maxRecDepth 100000 in
set_option maxHeartbeats 2000000 in
theorem Sq.UD(F:Fence)(n:Nat)(h201:F.fn 201)(h187:F.fn 187)(hro:F.round=none)(hn:3≤n)(Bs Bo:Nat)(sv:Value)(zs:List Int)(hlen:zs.length≤maxLen)(hreach:zs.length*8≤140737488351232)(w:World)
 (hBs:Bs<w.heap.size) (hc:w.cell? ⟨Bs,Bo,none⟩=some sv) (hI:Sq.agk w.heap.size w sv zs):
 CallsIn F n Tryz.prog 201 #[.slice none 0 0,.func (.func 187) #[] #[.pointer (some ⟨Bs,Bo,none⟩)]] w fun e W'=>
  ∃v,e=.returned v∧W'.ownsRow w.heap.size 3 1 v zs.length (zs.map (Value.int .i64))∧(v=.slice none 0 0↔zs=[])∧Below w.heap.size w W':=by
 have h1:1≤n:=by omega
 refine callsIn_of_wp_marks Tryz.func201 rfl h201 ?_ hro
 simp only[Tryz.ntmps201,List.size_toArray,List.length_cons,List.length_nil,Nat.reduceAdd,Nat.reduceSub,Array.replicate_succ,Array.replicate_zero,List.push_toArray,List.append_toArray,List.nil_append,List.cons_append]
 gi_wp2
 have bS:=Boxed.new w 22 (.slice none 0 0)
 have hB0:Below w.heap.size w (w.alloc (.cells #[.slice none 0 0] 22)):=(Below.refl _ w).alloc (Nat.le_refl _) _
 refine wpIn_rangeFunc_ownG hro h1 (gf:=187) (lb:=#[.pointer (some ⟨Bs,Bo,none⟩)]) rfl h187 (enters_of Tryz.func187 (by kernel_rfl) rfl)
  (Sq.UC F (n-1) h187 hro (by omega) Bs Bo w.heap.size sv zs hreach (w.alloc (.cells #[.slice none 0 0] 22)) (by simp;omega) (by simp) ((hB0.cell (p:=⟨Bs,Bo,none⟩) hBs).trans hc) (hI.below hB0)) belowK_t (belowK_b (by simp)) (Below.refl _ _) (fun _=>rfl)
  (Sq.At w) (fun _ _ _=>False) (by simpa using Sq.auz w) (fun _ _ _ _ _ hs _ _=>hs)
  ⟨⟨_,World.alloc_heap_new w _,⟨rfl,.inl ⟨rfl,rfl⟩⟩,by simp⟩,hB0⟩
  (fun x=>{tmps:=#[.slice none 0 0,.func (.func 187) #[] #[.pointer (some ⟨Bs,Bo,none⟩)],.pointer (some ⟨w.heap.size,0,none⟩),undef,.slice none 0 0,.int .i64 x,.func (.func 187) #[] #[.pointer (some ⟨Bs,Bo,none⟩)],.int .i64 x,undef,undef,undef,undef,undef],defers:=[]}) ?assign ?body ?done ?stop
 case assign=>
  intro l x W K hK
  gi_wp2
  exact hK
 case body=>
  rintro l pre x W ⟨⟨v,hv,hrow,hnil⟩,hB⟩ hlen'
  obtain⟨hc2,hf2⟩:=Sq.CH hv
  have hBlt:w.heap.size<W.heap.size:=(Array.getElem?_eq_some_iff.1 hv).1
  obtain⟨i0,hi,hz0,hz1,hz2⟩:∃i0,Tryz.prog.info? 3=some i0∧i0.zero=some (.int .i64 0)∧i0.size=1∧i0.bytes=8:=⟨_,rfl,rfl,rfl,rfl⟩
  gi_wp2_with (gi_at_builtin;refine wpListIn_append_own _ rfl _ _ 22 rfl w.heap.size 3 i0 (.int .i64 0) 1 8 rfl hi hz0 hz1 hz2 rfl (by decide) _ _ _ rfl (hrow.alloc _) ⟨W.heap.size,0,none⟩ 1 1 [.int .i64 x] rfl rfl (cell_one_new _ _ _) (by simp[Value.oneCell']) (by omega) (by omega) (by have:=hB.size;simp;omega) ?_;intro v' w3 hown' hg3 hnil3
               have hv3:w3.heap[w.heap.size]?=some (.cells #[v] 22 (0,0)):=(hg3.block w.heap.size (by simp;omega) (Sq.FT hrow hv (fun cur e=>by cases e))).trans ((Below.heap_alloc _ _ w.heap.size hBlt).trans hv)
               obtain⟨hc3,hf3⟩:=Sq.CH hv3
               obtain⟨g',cap',cur',rfl,hr0⟩:∃g' cap' cur',v'=.slice (some ⟨g',0,none⟩) (pre.length+1) cap'∧w3.heap[g']?=some (.cells cur' 3 (0,0)):=by
                rcases hown'.2 with⟨_,h0⟩|⟨g',cap',cur',h5,h6,h7,_⟩
                ·exact absurd h0 (by omega)
                ·exact⟨g',cap',cur',h5,h7⟩)
  have hg3':(W.alloc (.cells #[.int .i64 x] 3)).grownBy w3 v.ownBlock:=hg3
  refine⟨?_,?_,⟨_,Sq.KQ _ hv3,?_,by simp⟩,?_⟩
  ·exact(((KeepsOthers.alloc _ _).trans (KeepsOthers.of_grownBy hg3' (Sq.R0 (hrow.alloc _)))).trans (KeepsOthers.setCell _ _ _)).from _
  ·exact((((Below.refl _ W).alloc (by omega) _).grown hg3' (by simp;omega) (fun k e=>(hrow.lt k e).1))).setCell (p:=⟨w.heap.size,0,none⟩) (Nat.le_refl _) _
  ·have:=hown'.kept (Sq.KR w3 w.heap.size (.slice (some ⟨g',0,none⟩) (pre.length+1) cap')) (.inr (Sq.FT hown' hv3 (fun cur e=>by cases e)).symm)
   simpa using this
  ·exact((hB.alloc hB.size _).grown hg3' (by simp;omega) (fun k e=>(hrow.lt k e).1)).setCell (p:=⟨w.heap.size,0,none⟩) (Nat.le_refl _) _
 case done=>
  rintro D ys W hD rfl ⟨⟨v,hv,hrow,hnil⟩,hB⟩ hK
  obtain⟨hc5,hf5⟩:=Sq.CH hv
  gi_wp2
  refine⟨by simp,.inl ⟨_,_,rfl,run_takeDeferred hK,?_⟩⟩
  refine⟨_,results_tmp rfl _ _ _,v,rfl,hrow.kept (grownBy_putObj' _ D (.deferred none)) (.inr (Sq.FT hrow hK (fun cur e=>by cases e)).symm),hnil,hB.trans (belowK_b (w:=w) (Nat.le_refl _) W D _ _ (by simp at hD;omega) hK rfl rfl)⟩
 case stop=>
  rintro D c pre W _ _ h _
  exact h.elim
end Go.Proofs
end
section
namespace Go.Abs
open Go.RowKit Go.Proofs
def sqE:Callee:=fun _ f args h=>cond (Nat.beq f fn.pW) (match args with
 |[.slice none 0 0,.func (.func g) ⟨[]⟩ ⟨[.pointer (some p)]⟩]=>cond (Nat.beq g fn.tR) (match h.cell p.block p.off with
  |some (.slice a l c)=>cond (and (Nat.ble l 1000000000) (or (Nat.blt 0 c) a.isNone)) (Fg h a l fun xs=>cond (xs.all To) (match xs with
   |[]=>some (.slice none 0 0,h)
   |x::xs=>some (.slice (some ⟨h.next,0,none⟩) l (pB+1),h.alloc (x::xs))) none) none
  |_=>none) none
 |_=>none) none
theorem agl{R:Type}{r:R}{h:AH}{a:Option Addr}{n:Nat}{K:List Value→Option R}(e:Fg h a n K=some r):∃xs,Fg h a n some=some xs∧K xs=some r:=by
 unfold Fg at e ⊢
 split at e
 ·split at e
  ·rename_i hz;exact⟨[],by simp[hz],e⟩
  ·cases e
 ·split at e
  ·rename_i cs hc
   split at e
   ·rename_i hl;exact⟨_,by simp only[if_pos hl],e⟩
   ·cases e
  ·cases e
theorem OM{fl f args h v h1}(e:sqE fl f args h=some (v,h1)):f=fn.pW∧∃p a l c xs,args=[.slice none 0 0,.func (.func fn.tR) ⟨[]⟩ ⟨[.pointer (some p)]⟩]∧h.cell p.block p.off=some (.slice a l c)∧(l≤1000000000∧(0<c∨a=none))∧
 Fg h a l some=some xs∧xs.all To=true∧((xs=[]∧v=.slice none 0 0∧h1=h)∨(xs≠[]∧v=.slice (some ⟨h.next,0,none⟩) l (pB+1)∧h1=h.alloc xs)):=by
 unfold sqE at e
 cases hf:Nat.beq f fn.pW with
 |false=>rw[hf] at e;cases e
 |true=>
  rw[hf] at e
  refine⟨Nat.eq_of_beq_eq_true hf,?_⟩
  simp only[cond_true] at e
  split at e
  ·rename_i g p
   cases hg:Nat.beq g fn.tR with
   |false=>rw[hg] at e;cases e
   |true=>
    rw[hg] at e
    have hg':=Nat.eq_of_beq_eq_true hg
    simp only[cond_true] at e
    split at e
    ·rename_i a l c hc
     cases hl:(and (Nat.ble l 1000000000) (or (Nat.blt 0 c) a.isNone)) with
     |false=>rw[hl] at e;cases e
     |true=>
      rw[hl] at e
      have No:l≤1000000000∧(0<c∨a=none):=by
       simp only[Bool.and_eq_true,Bool.or_eq_true] at hl
       refine⟨Nat.le_of_ble_eq_true hl.1,hl.2.imp (fun h=>?_) (fun h=>?_)⟩
       ·have:Nat.ble 1 c=true:=h
        exact Nat.le_of_ble_eq_true this
       ·cases a with
        |none=>rfl
        |some _=>cases h
      simp only[cond_true] at e
      obtain⟨xs,hx,e⟩:=agl e
      ·cases hi:xs.all To with
       |false=>rw[hi] at e;cases e
       |true=>
        rw[hi] at e
        simp only[cond_true] at e
        refine⟨p,a,l,c,xs,by rw[hg'],hc,No,hx,hi,?_⟩
        split at e
        ·simp only[Option.some.injEq,Prod.mk.injEq] at e;exact .inl ⟨rfl,e.1.symm,e.2.symm⟩
        ·simp only[Option.some.injEq,Prod.mk.injEq] at e;exact .inr ⟨by simp,e.1.symm,e.2.symm⟩
    ·cases e
  ·cases e
theorem TB:fx Tryz.prog sqE where
 step fl f args h v h1 e:=by
  obtain⟨_,p,a,l,c,xs,_,_,_,_,_,h7⟩:=OM e
  rcases h7 with⟨_,_,rfl⟩|⟨_,_,rfl⟩
  ·exact bJ.refl _ _
  ·exact bJ.alloc _ _ _
 fn fl f args h v h1 e:=by
  obtain⟨rfl,_⟩:=OM e
  exact⟨_,Tryz.func201,by kernel_rfl,by kernel_rfl⟩
 sound fl f args h v h1 e base aq μ w args' s hb bL hr ha hf:=by
  obtain⟨rfl,p,a,l,c,xs,rfl,h3,⟨h4,h4c⟩,h5,h6,h7⟩:=OM e
  obtain⟨zs,rfl⟩:=adg h6
  obtain⟨hl,ha⟩:=ha
  match args',hl,ha with
  |[s1,f1],_,ha=>
   have r1:=ha 0 (by simp) (by simp)
   have r2:=ha 1 (by simp) (by simp)
   simp only[List.getElem_cons_zero,List.getElem_cons_succ] at r1 r2
   have e1:s1=.slice none 0 0:=by cases r1;rfl
   subst e1
   obtain⟨f2,g2,rfl,r3,r4⟩:=r2.XG
   obtain⟨l3,_⟩:=r3
   match f2,l3 with
   |[],_=>
    obtain⟨l4,r4⟩:=r4
    match g2,l4,r4 with
    |[q],_,r4=>
     have r5:=r4 0 (by simp) (by simp)
     simp only[List.getElem_cons_zero] at r5
     obtain⟨bp,op,sp⟩:=p
     obtain⟨rb,off,hm,rfl⟩:∃rb off,μ bp=some (rb,off)∧q=.pointer (some ⟨rb,off+op,none⟩):=by cases r5;exact⟨_,_,by assumption,rfl⟩
     clear r5 r4 r2
     unfold AH.cell at h3
     split at h3
     ·rename_i cs hcs
      obtain⟨v',k1,k2⟩:=s.cell _ _ _ _ hcs hm _ _ h3
      have EC:=s.lt _ _ _ hm
      have hlen:zs.length=l:=by
       unfold Fg at h5
       split at h5
       ·split at h5
        ·rename_i hz;simp only[Option.some.injEq] at h5;have:=congrArg List.length h5;simp at this;omega
        ·cases h5
       ·split at h5
        ·split at h5
         ·simp only[Option.some.injEq] at h5;have:=congrArg List.length h5;simp at this;omega
         ·cases h5
        ·cases h5
      have hI:Sq.agk w.heap.size w v' zs:=by
       have cells:∀ad b2 o2,a=some ad→μ ad.block=some (b2,o2)→∀j,j<zs.length→w.cell? ⟨b2,o2+ad.off+j,none⟩=some (.int .i64 (zs[j]?.getD 0)):=by
        intro ad b2 o2 e2 hm2 j hj
        subst e2
        simp only[Fg] at h5
        split at h5
        ·rename_i cs2 avI
         split at h5
         ·rename_i hle
          simp only[Option.some.injEq] at h5
          have h9:cs2[ad.off+j]?=some (.int .i64 (zs[j]?.getD 0)):=by
           have:=congrArg (fun l=>l[j]?) h5
           simp only[List.getElem?_take,List.getElem?_drop,List.getElem?_map] at this
           rw[if_pos (by omega)] at this
           rw[this,List.getElem?_eq_getElem hj];rfl
          obtain⟨v3,k3,k4⟩:=s.cell _ _ _ _ avI hm2 _ _ h9
          cases k4
          rw[Nat.add_assoc];exact k3
         ·cases h5
        ·cases h5
       cases k2 with
       |kZ=>exact .inl ⟨rfl,by cases zs with|nil=>rfl|cons _ _=>simp at hlen⟩
       |slice hm2 hc2 hl2=>exact .inr ⟨_,_,_,by rw[hlen],s.lt _ _ _ hm2,fun j hj=>cells _ _ _ rfl hm2 j hj⟩
       |mq hm2 ho2 hl2 hs2=>
        refine .inr ⟨_,_,_,by rw[hlen],s.lt _ _ _ hm2,fun j hj=>?_⟩
        rcases ho2 with ho2|ho2
        ·omega
        ·rw[ho2];exact cells _ _ _ rfl hm2 j hj
       |S9=>rcases h4c with h|h<;>simp at h
      have call:=Sq.UD Fence.wide 5 trivial trivial rfl (by omega) rb (off+op) v' zs (by rw[hlen];unfold maxLen;omega) (by omega) w EC k1 hI
      refine(callsIn_wide.1 call).mono ?_
      rintro e' W' ⟨v2,rfl,h8,h9,FC⟩
      rcases h7 with⟨rL,rfl,rfl⟩|⟨rL,rfl,rfl⟩
      ·have:zs=[]:=by simpa using rL
       rw[h9.2 this]
       exact⟨_,μ,rfl,bY.below s FC,.kZ⟩
      ·have iH:zs≠[]:=by intro e2;rw[e2] at rL;exact rL rfl
       rcases h8.2 with⟨Tb,_⟩|⟨g,cap,cur,rfl,tN,h14,EB,Kx,HK,OE⟩
       ·exact absurd (h9.1 Tb) iH
       ·refine⟨_,_,rfl,bY.found s FC hr (hf _ (Nat.le_refl _) (Nat.lt_succ_self _)) tN h14 ?_,?_⟩
        ·intro j u hu
         have:cur[j]?=some u:=by
          have HL:=congrArg (fun l=>l[j]?) OE
          simp only[List.getElem?_take] at HL
          have hj:j<zs.length:=by have:=(List.getElem?_eq_some_iff.1 hu).1;simpa using this
          rw[if_pos (by omega),hu] at HL
          simpa using HL
         refine⟨u,this,?_⟩
         rw[List.getElem?_map] at hu
         cases hz:zs[j]? with
         |none=>rw[hz] at hu;cases hu
         |some z=>rw[hz] at hu;simp at hu;rw[←hu];exact .int _ _
        ·rw[←hlen]
         exact .mq (bW _ _ _) (.inr rfl) EB (by rw[fV h14];omega)
     ·cases h3
end Go.Abs
end
section
set_option maxRecDepth 100000
namespace Go.Abs
open Go.Proofs
def oJ'(d:Nat)(o:HO):bD:=⟨some d,o,none,false⟩
def oI'(d:Nat)(o:HO):bD:=⟨some d,o,none,true⟩
def alW:List bD:=[oI' 4 (.mv (.t 0)),oJ' 5 (.load (.one (.int .i64)) (.t 2)),oI' 6 (.mv (.t 0)),oJ' 7 (.load (.one (.int .i64)) (.t 1)),oI' 8 (.mv (.t 0)),oJ' 9 (.load (.one (.int .i64)) (.t 1)),oI' 10 (.di 1 (.t 8) (.t 9)),oJ' 11 (.load (.one .slice) (.t 10)),
 oI' 12 (.mv (.t 0)),oJ' 13 (.load (.one (.int .i64)) (.t 2)),oI' 14 (.di 1 (.t 12) (.t 13)),oJ' 15 (.load (.one .slice) (.t 14)),oI' 16 (.di 1 (.t 4) (.t 5)),⟨none,.store 1 (.t 16) (.t 11),none,true⟩,oI' 17 (.di 1 (.t 6) (.t 7)),⟨none,.store 1 (.t 17) (.t 15),none,true⟩]
def swE:Callee:=fun fl f args h=>cond (Nat.beq f fn.bG) (match args with
 |[.slice (some a) l c,.pointer (some p1),.pointer (some p2)]=>cond (Nat.beq a.block p1.block||Nat.beq a.block p2.block) none
    (pz noE fl alW (args++List.replicate 15 undef) h (fun _ h=>some (.tuple ⟨[]⟩,h)))
 |_=>none) none
theorem UE{fl f args h r}(e:swE fl f args h=some r):f=fn.bG∧∃a l c p1 p2,args=[.slice (some a) l c,.pointer (some p1),.pointer (some p2)]∧a.block≠p1.block∧a.block≠p2.block∧
 pz noE fl alW (args++List.replicate 15 undef) h (fun _ h=>some (.tuple ⟨[]⟩,h))=some r:=by
 unfold swE at e
 cases hf:Nat.beq f fn.bG with
 |false=>rw[hf] at e;cases e
 |true=>
  rw[hf] at e
  refine⟨Nat.eq_of_beq_eq_true hf,?_⟩
  simp only[cond_true] at e
  split at e
  ·rename_i a l c p1 p2
   cases hg:(Nat.beq a.block p1.block||Nat.beq a.block p2.block) with
   |true=>rw[hg] at e;cases e
   |false=>
    rw[hg] at e
    simp only[Bool.or_eq_false_iff] at hg
    refine⟨a,l,c,p1,p2,rfl,fun h=>?_,fun h=>?_,e⟩
    ·rw[h] at hg;simp at hg
    ·rw[h] at hg;simp at hg
  ·cases e
theorem UF{C:Callee}{f t d:Nat}{i:Bool}{s:List Value}{h h1:AH}{v:Value}{q:Addr}(hs:s.getD t undef=.pointer (some q))(e:Ag C f ⟨some d,.load (.one (.int .i64)) (.t t),none,i⟩ s h=some (v,h1)):
 h1=h∧h.cell q.block q.off=some v∧∃n,v=.int .i64 n:=by
 unfold Ag at e
 simp only[cQ,ev,hs,cT,KA] at e
 cases hc:h.cell q.block q.off with
 |none=>rw[hc] at e;cases e
 |some v'=>
  rw[hc] at e
  simp only[nY] at e
  obtain⟨n,rfl,e⟩:=aG e
  simp only[K0,Option.some.injEq,Prod.mk.injEq] at e
  obtain⟨rfl,rfl⟩:=e
  exact⟨rfl,rfl,n,rfl⟩
theorem ON{C:Callee}{f t d:Nat}{i:Bool}{s:List Value}{h:AH}{n:Int}{q:Addr}(hs:s.getD t undef=.pointer (some q))(hc:h.cell q.block q.off=some (.int .i64 n)):Ag C f ⟨some d,.load (.one (.int .i64)) (.t t),none,i⟩ s h=some (.int .i64 n,h):=by
 unfold Ag
 simp only[cQ,ev,hs,cT]
 unfold KA
 rw[hc]
 simp[nY,asInt,K0]
theorem adC{C:Callee}{f t d:Nat}{i:Bool}{s:List Value}{h h1:AH}{v:Value}(e:Ag C f ⟨some d,.load (.one .slice) (.t t),none,i⟩ s h=some (v,h1)):h1=h:=by
 unfold Ag at e
 simp only[cQ] at e
 obtain⟨a,_,e⟩:=dL e
 simp only[KA] at e
 cases hc:h.cell a.block a.off with
 |none=>rw[hc] at e;cases e
 |some v'=>
  rw[hc] at e
  simp only[nY] at e
  obtain⟨sl,_,e⟩:=cA e
  simp only[K0,Option.some.injEq,Prod.mk.injEq] at e
  exact e.2.symm
theorem UG{C:Callee}{f t u d:Nat}{i:Bool}{s:List Value}{h h1:AH}{v:Value}{a:Addr}{l c:Nat}(hs:s.getD t undef=.slice (some a) l c)(e:Ag C f ⟨some d,.di 1 (.t t) (.t u),none,i⟩ s h=some (v,h1)):
 h1=h∧∃q:Addr,v=.pointer (some q)∧q.block=a.block:=by
 unfold Ag at e
 simp only[cQ,ev,hs,bB] at e
 obtain⟨n,_,e⟩:=aG e
 unfold idx at e
 simp only at e
 by_cases c1:0≤n
 ·rw[if_pos c1] at e
  by_cases c2:n<(l:Int)
  ·rw[if_pos c2] at e
   simp only[K0,Option.some.injEq,Prod.mk.injEq] at e
   exact⟨e.2.symm,_,e.1.symm,rfl⟩
  ·rw[if_neg c2] at e;cases e
 ·rw[if_neg c1] at e;cases e
theorem ajA{C:Callee}{f t u:Nat}{i:Bool}{s:List Value}{h h1:AH}{v:Value}{a:Addr}(hs:s.getD t undef=.pointer (some a))(e:Ag C f ⟨none,.store 1 (.t t) (.t u),none,i⟩ s h=some (v,h1)):
 ∀c,c≠a.block→h1.iq c=h.iq c:=by
 unfold Ag at e
 have hs':ev s (.t t)=.pointer (some a):=hs
 simp only[cQ,hs',cT] at e
 have key:∀{xs:List Value} {fl:Nat},st fl h a xs (fun h1=>K0 undef h1)=some (v,h1)→∀c,c≠a.block→h1.iq c=h.iq c:=by
  intro xs fl e
  unfold st at e
  cases hb:h.iq a.block with
  |none=>rw[hb] at e;cases e
  |some cs=>
   rw[hb] at e
   simp only at e
   by_cases q1:fl≤a.block
   ·rw[if_pos q1] at e
    by_cases q2:0<xs.length
    ·rw[if_pos q2] at e
     by_cases q3:a.off+xs.length≤cs.length
     ·rw[if_pos q3] at e
      by_cases q4:xs.all yp=true
      ·rw[if_pos q4] at e
       simp only[K0,Option.some.injEq,Prod.mk.injEq] at e
       obtain⟨_,rfl⟩:=e
       intro c hc
       simp only[AH.put]
       rw[if_neg hc]
      ·rw[if_neg q4] at e;cases e
     ·rw[if_neg q3] at e;cases e
    ·rw[if_neg q2] at e;cases e
   ·rw[if_neg q1] at e;cases e
 by_cases q0:(ev s (.t u)).cells.toList.length=1
 ·rw[if_pos q0] at e;exact key e
 ·rw[if_neg q0] at e;cases e
theorem ajB{C:Callee}{fl:Nat}{a p1 p2:Addr}{l c:Nat}{h:AH}(n1:a.block≠p1.block)(n2:a.block≠p2.block)(S:Nat→List Value)(H:Nat→AH)(V:Nat→Value)
 (s0:S 0=[.slice (some a) l c,.pointer (some p1),.pointer (some p2)]++List.replicate 15 undef) (_h0:H 0=h) (lZ:∀(i:Nat) x,alW[i]?=some x→Ag C fl x (S i) (H i)=some (V i,H (i+1))∧S (i+1)=mY (S i) x.dst (V i)):
 ∀j∈[1,3,5,9],∀x,alW[j]?=some x→H (j+1)=H j∧∀p,p≤alW.length→∀f,Ag C f x (S j) (H p)=some (V j,H p):=by
 have e0:=lZ 0 _ rfl
 have e1:=lZ 1 _ rfl
 have e2:=lZ 2 _ rfl
 have e3:=lZ 3 _ rfl
 have e4:=lZ 4 _ rfl
 have e5:=lZ 5 _ rfl
 have e6:=lZ 6 _ rfl
 have e7:=lZ 7 _ rfl
 have e8:=lZ 8 _ rfl
 have e9:=lZ 9 _ rfl
 have e10:=lZ 10 _ rfl
 have e11:=lZ 11 _ rfl
 have e12:=lZ 12 _ rfl
 have e13:=lZ 13 _ rfl
 have e14:=lZ 14 _ rfl
 have e15:=lZ 15 _ rfl
 have mv:∀{d:Nat} {s:List Value} {h h1:AH} {v:Value},Ag C fl (oI' d (.mv (.t 0))) s h=some (v,h1)→v=s.getD 0 undef∧h1=h:=by
  intro d s h h1 v e
  unfold Ag oI' at e
  simp only[cQ,ev,K0,Option.some.injEq,Prod.mk.injEq] at e
  exact⟨e.1.symm,e.2.symm⟩
 have s1:S 1=[.slice (some a) l c,.pointer (some p1),.pointer (some p2),undef,V 0]++List.replicate 13 undef:=by rw[e0.2,s0];rfl
 have s2:S 2=[.slice (some a) l c,.pointer (some p1),.pointer (some p2),undef,V 0,V 1]++List.replicate 12 undef:=by rw[e1.2,s1];rfl
 have s3:S 3=[.slice (some a) l c,.pointer (some p1),.pointer (some p2),undef,V 0,V 1,V 2]++List.replicate 11 undef:=by rw[e2.2,s2];rfl
 have s4:S 4=[.slice (some a) l c,.pointer (some p1),.pointer (some p2),undef,V 0,V 1,V 2,V 3]++List.replicate 10 undef:=by rw[e3.2,s3];rfl
 have s5:S 5=[.slice (some a) l c,.pointer (some p1),.pointer (some p2),undef,V 0,V 1,V 2,V 3,V 4]++List.replicate 9 undef:=by rw[e4.2,s4];rfl
 have s6:S 6=[.slice (some a) l c,.pointer (some p1),.pointer (some p2),undef,V 0,V 1,V 2,V 3,V 4,V 5]++List.replicate 8 undef:=by rw[e5.2,s5];rfl
 have s7:S 7=[.slice (some a) l c,.pointer (some p1),.pointer (some p2),undef,V 0,V 1,V 2,V 3,V 4,V 5,V 6]++List.replicate 7 undef:=by rw[e6.2,s6];rfl
 have s8:S 8=[.slice (some a) l c,.pointer (some p1),.pointer (some p2),undef,V 0,V 1,V 2,V 3,V 4,V 5,V 6,V 7]++List.replicate 6 undef:=by rw[e7.2,s7];rfl
 have s9:S 9=[.slice (some a) l c,.pointer (some p1),.pointer (some p2),undef,V 0,V 1,V 2,V 3,V 4,V 5,V 6,V 7,V 8]++List.replicate 5 undef:=by rw[e8.2,s8];rfl
 have s10:S 10=[.slice (some a) l c,.pointer (some p1),.pointer (some p2),undef,V 0,V 1,V 2,V 3,V 4,V 5,V 6,V 7,V 8,V 9]++List.replicate 4 undef:=by rw[e9.2,s9];rfl
 have Ks:S 11=[.slice (some a) l c,.pointer (some p1),.pointer (some p2),undef,V 0,V 1,V 2,V 3,V 4,V 5,V 6,V 7,V 8,V 9,V 10]++List.replicate 3 undef:=by rw[e10.2,s10];rfl
 have s12:S 12=[.slice (some a) l c,.pointer (some p1),.pointer (some p2),undef,V 0,V 1,V 2,V 3,V 4,V 5,V 6,V 7,V 8,V 9,V 10,V 11]++List.replicate 2 undef:=by rw[e11.2,Ks];rfl
 have s13:S 13=[.slice (some a) l c,.pointer (some p1),.pointer (some p2),undef,V 0,V 1,V 2,V 3,V 4,V 5,V 6,V 7,V 8,V 9,V 10,V 11,V 12]++List.replicate 1 undef:=by rw[e12.2,s12];rfl
 have Xc:S 14=S 13:=e13.2
 have s15:S 15=[.slice (some a) l c,.pointer (some p1),.pointer (some p2),undef,V 0,V 1,V 2,V 3,V 4,V 5,V 6,V 7,V 8,V 9,V 10,V 11,V 12,V 14]:=by rw[e14.2,Xc,s13];rfl
 obtain⟨v0,h1⟩:=mv e0.1
 obtain⟨h2,c1,m1,w1⟩:=UF (q:=p2) (by rw[s1];rfl) e1.1
 obtain⟨v2,h3⟩:=mv e2.1
 obtain⟨h4,c3,m3,w3⟩:=UF (q:=p1) (by rw[s3];rfl) e3.1
 obtain⟨v4,h5⟩:=mv e4.1
 obtain⟨h6,c5,m5,w5⟩:=UF (q:=p1) (by rw[s5];rfl) e5.1
 have v0':V 0=.slice (some a) l c:=by rw[v0,s0];rfl
 have v2':V 2=.slice (some a) l c:=by rw[v2,s2];rfl
 have v4':V 4=.slice (some a) l c:=by rw[v4,s4];rfl
 obtain⟨h7,_⟩:=UG (a:=a) (l:=l) (c:=c) (by rw[s6,v4'];rfl) e6.1
 have h8:=adC e7.1
 obtain⟨v8,h9⟩:=mv e8.1
 have v8':V 8=.slice (some a) l c:=by rw[v8,s8];rfl
 obtain⟨FC,c9,m9,w9⟩:=UF (q:=p2) (by rw[s9];rfl) e9.1
 obtain⟨rL,_⟩:=UG (a:=a) (l:=l) (c:=c) (by rw[s10,v8'];rfl) e10.1
 have Tb:=adC e11.1
 obtain⟨tN,q12,u12,b12⟩:=UG (a:=a) (l:=l) (c:=c) (by rw[s12,v0'];rfl) e12.1
 have h14:=ajA (a:=q12) (by rw[s13,u12];rfl) e13.1
 obtain⟨EB,q14,u14,Ky⟩:=UG (a:=a) (l:=l) (c:=c) (by rw[Xc,s13,v2'];rfl) e14.1
 have Kx:=ajA (a:=q14) (by rw[s15,u14];rfl) e15.1
 have g2:H 2=H 0:=h2.trans h1
 have g3:H 3=H 0:=h3.trans g2
 have g4:H 4=H 0:=h4.trans g3
 have g5:H 5=H 0:=h5.trans g4
 have g6:H 6=H 0:=h6.trans g5
 have g7:H 7=H 0:=h7.trans g6
 have g8:H 8=H 0:=h8.trans g7
 have g9:H 9=H 0:=h9.trans g8
 have g10:H 10=H 0:=FC.trans g9
 have g11:H 11=H 0:=rL.trans g10
 have g12:H 12=H 0:=Tb.trans g11
 have g13:H 13=H 0:=tN.trans g12
 have k14:∀c,c≠a.block→(H 14).iq c=(H 0).iq c:=fun c hc=>by rw[h14 c (by rw[b12];exact hc),g13]
 have k15:∀c,c≠a.block→(H 15).iq c=(H 0).iq c:=fun c hc=>by rw[EB];exact k14 c hc
 have k16:∀c,c≠a.block→(H 16).iq c=(H 0).iq c:=fun c hc=>by rw[Kx c (by rw[Ky];exact hc)];exact k15 c hc
 have all:∀p,p≤16→∀c,c≠a.block→(H p).iq c=(H 0).iq c:=by
  intro p hp c hc
  have:p=0∨p=1∨p=2∨p=3∨p=4∨p=5∨p=6∨p=7∨p=8∨p=9∨p=10∨p=11∨p=12∨p=13∨p=14∨p=15∨p=16:=by omega
  rcases this with rfl|rfl|rfl|rfl|rfl|rfl|rfl|rfl|rfl|rfl|rfl|rfl|rfl|rfl|rfl|rfl|rfl
  ·rfl
  ·rw[h1]
  ·rw[g2]
  ·rw[g3]
  ·rw[g4]
  ·rw[g5]
  ·rw[g6]
  ·rw[g7]
  ·rw[g8]
  ·rw[g9]
  ·rw[g10]
  ·rw[g11]
  ·rw[g12]
  ·rw[g13]
  ·exact k14 c hc
  ·exact k15 c hc
  ·exact k16 c hc
 have afQ:∀p,p≤16→∀(q:Addr),a.block≠q.block→(H p).cell q.block q.off=(H 0).cell q.block q.off:=fun p hp q hq=>by
  unfold AH.cell;rw[all p hp _ (fun e=>hq e.symm)]
 intro j hj x hx
 simp only[List.mem_cons,List.not_mem_nil,or_false] at hj
 rcases hj with rfl|rfl|rfl|rfl
 ·cases hx
  refine⟨h2,fun p hp f=>?_⟩
  rw[w1] at c1 ⊢
  exact ON (q:=p2) (by rw[s1];rfl) (by rw[afQ p hp p2 n2,←h1];exact c1)
 ·cases hx
  refine⟨h4,fun p hp f=>?_⟩
  rw[w3] at c3 ⊢
  exact ON (q:=p1) (by rw[s3];rfl) (by rw[afQ p hp p1 n1,←g3];exact c3)
 ·cases hx
  refine⟨h6,fun p hp f=>?_⟩
  rw[w5] at c5 ⊢
  exact ON (q:=p1) (by rw[s5];rfl) (by rw[afQ p hp p1 n1,←g5];exact c5)
 ·cases hx
  refine⟨FC,fun p hp f=>?_⟩
  rw[w9] at c9 ⊢
  exact ON (q:=p2) (by rw[s9];rfl) (by rw[afQ p hp p2 n2,←g9];exact c9)
theorem auB:Tryz.prog.follows .mixedOrders=true:=by kernel_rfl
def azC(c:Option Code):Array Oper:=match c with
 |some (.region _ ops true)=>ops
 |_=>#[]
theorem agm:fx Tryz.prog swE where
 step:=fun fl f args h v h1 e=>by
  obtain⟨rfl,a,l,c,p1,p2,rfl,n1,n2,e⟩:=UE e
  have e':FG noE fl alW ([.slice (some a) l c,.pointer (some p1),.pointer (some p2)]++List.replicate 15 undef) h (fun _ h=>some (.tuple ⟨[]⟩,h))=some (v,h1):=e
  obtain⟨s',h',st,hk⟩:=KJ (Tn (P:=Tryz.prog)).toCAbs e'
  simp only[Option.some.injEq,Prod.mk.injEq] at hk
  rw[←hk.2];exact st
 fn:=fun fl f args h v h1 e=>by
  obtain⟨rfl,_⟩:=UE e
  exact⟨_,rfl,by kernel_rfl,by kernel_rfl⟩
 sound:=fun fl f args h v h1 e base aq μ w args' sm hb bL hr ha hf=>by
  obtain⟨rfl,a,l,c,p1,p2,rfl,n1,n2,e⟩:=UE e
  exact abF (P:=Tryz.prog) (C:=noE) Tn auB (fd:=Tryz.f167) (id:=0) (nt:=18) (ops:=azC Tryz.f167.body) (al:=alW) (cl:=[1,3,5,9]) (by kernel_rfl) (by kernel_rfl) (by kernel_rfl) (by kernel_rfl) (by kernel_rfl) (by kernel_rfl) e
   (fun S H V s0 h0 lZ=>ajB n1 n2 S H V s0 h0 lZ) sm hb bL hr ha hf
end Go.Abs
end
