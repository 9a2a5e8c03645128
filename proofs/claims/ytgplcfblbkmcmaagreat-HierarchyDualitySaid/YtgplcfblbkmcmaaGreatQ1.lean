/- Shortened by a program of ours out of readable texts. -/
import Derived.Test.YtgplcfblbkmcmaaGreatQ0
import Derived.Orders
import Derived.IntWalk
import Derived.Deep.Strs
import Derived.ChangeSlices
import Derived.RangeFuncBox
import Derived.RangeFuncLeaves
import Derived.Maps.AppendAt
import Derived.Shelf.Abstract
import Derived.WalkKit
import Derived.OwnWalkIn
import Derived.TacticsInMore
import Derived.LoopNIn
import Derived.LoopIn
import Derived.Test.YtgplcfblbkmcmaaGreatProg
import Derived.KernelRfl
section
namespace Go.Fld
section
variable{p:Nat}[NeZero p]
def sm:Nat→(Nat→Fin p)→Fin p
 |0,_=>0
 |n+1,f=>sm n f+f n
theorem eI{n:Nat}{f g:Nat→Fin p}(h:∀i,i<n→f i=g i):sm n f=sm n g:=by
 induction n with
 |zero=>rfl
 |succ n ih=>simp only[sm];rw[ih fun i hi=>h i (by omega),h n (by omega)]
theorem Aw(n:Nat):sm n (fun _=>(0:Fin p))=0:=by
 induction n with
 |zero=>rfl
 |succ n ih=>simp only[sm,ih];grind
theorem acj(n:Nat)(f g:Nat→Fin p):sm n (fun i=>f i+g i)=sm n f+sm n g:=by
 induction n with
 |zero=>simp only[sm];grind
 |succ n ih=>simp only[sm,ih];grind
theorem ajk(n:Nat)(f g:Nat→Fin p):sm n (fun i=>f i-g i)=sm n f-sm n g:=by
 induction n with
 |zero=>simp only[sm];grind
 |succ n ih=>simp only[sm,ih];grind
theorem Ql(n:Nat)(a:Fin p)(f:Nat→Fin p):sm n (fun i=>a*f i)=a*sm n f:=by
 induction n with
 |zero=>simp only[sm];grind
 |succ n ih=>simp only[sm,ih];grind
theorem adU(n:Nat)(a:Fin p)(f:Nat→Fin p):sm n (fun i=>f i*a)=sm n f*a:=by
 induction n with
 |zero=>simp only[sm];grind
 |succ n ih=>simp only[sm,ih];grind
theorem adV(n m:Nat)(f:Nat→Nat→Fin p):sm n (fun i=>sm m (f i))=sm m (fun j=>sm n (fun i=>f i j)):=by
 induction n with
 |zero=>simp only[sm];exact(Aw m).symm
 |succ n ih=>simp only[sm,ih];rw[←acj]
theorem ack{n k:Nat}(hk:k<n){f:Nat→Fin p}(h:∀i,i<n→i≠k→f i=0):sm n f=f k:=by
 induction n with
 |zero=>omega
 |succ n ih=>
  simp only[sm]
  by_cases e:k=n
  ·subst e
   rw[eI (g:=fun _=>0) fun i hi=>h i (by omega) (by omega),Aw];grind
  ·rw[ih (by omega) fun i hi=>h i (by omega),h n (by omega) (by omega)];grind
variable(m:Nat)(low:Nat→Fin p)
abbrev V(p:Nat):=Nat→Fin p
def XP(m:Nat)(v:V p):Prop:=∀j,m≤j→v j=0
def uW(x y:V p):V p:=fun j=>x j+y j
def aog(x:V p):V p:=fun j=> -x j
def T(v:V p):V p:=fun j=>if j<m then (if j=0 then 0 else v (j-1))-v (m-1)*low j else 0
def tp:Nat→V p→V p
 |0,v=>v
 |n+1,v=>T m low (tp n v)
def lc(n:Nat)(a:Nat→Fin p)(f:Nat→V p):V p:=fun j=>sm n (fun i=>a i*f i j)
def e0:V p:=fun j=>if j=0 then 1 else 0
def ye(x y:V p):V p:=lc m y (fun i=>tp m low i x)
theorem aw5(n:Nat)(a:Nat→Fin p)(f:Nat→V p):T m low (lc n a f)=lc n a (fun i=>T m low (f i)):=by
 funext j
 unfold T lc
 by_cases h:j<m
 ·simp only[if_pos h]
  by_cases h0:j=0
  ·simp only[if_pos h0]
   refine Eq.trans (b:=sm n (fun _=>0)-sm n (fun i=>a i*f i (m-1))*low j) (by rw[Aw]) ?_
   rw[←adU,←ajk]
   exact eI fun i _=>by grind
  ·simp only[if_neg h0]
   rw[←adU,←ajk]
   exact eI fun i _=>by grind
 ·simp only[if_neg h]
  rw[eI (g:=fun _=>0) fun i _=>by grind,Aw]
theorem ajl(k n:Nat)(a:Nat→Fin p)(f:Nat→V p):tp m low k (lc n a f)=lc n a (fun i=>tp m low k (f i)):=by
 induction k with
 |zero=>rfl
 |succ k ih=>simp only[tp];rw[ih,aw5]
theorem Qm(k l:Nat)(x:V p):tp m low (k+l) x=tp m low k (tp m low l x):=by
 induction k with
 |zero=>simp[tp]
 |succ k ih=>rw[Nat.add_right_comm];simp only[tp];rw[ih]
theorem aw6(x:V p):XP m (T m low x):=fun j hj=>by unfold T;rw[if_neg (by omega)]
theorem auh{x:V p}(h:XP m x)(k:Nat):XP m (tp m low k x):=by
 cases k with
 |zero=>exact h
 |succ k=>exact aw6 m low _
theorem aui{n:Nat}{a:Nat→Fin p}{f:Nat→V p}(h:∀i,i<n→XP m (f i)):XP m (lc n a f):=fun j hj=>by
 unfold lc
 rw[eI (g:=fun _=>0) fun i hi=>by rw[h i hi j hj];grind,Aw]
theorem aoh{x:V p}(h:XP m x)(y:V p):XP m (ye m low x y):=aui m fun i _=>auh m low h i
theorem adW(i:Nat)(hi:i<m):tp m low i e0=fun j=>if j=i then 1 else 0:=by
 induction i with
 |zero=>rfl
 |succ i ih=>
  simp only[tp]
  rw[ih (by omega)]
  funext j
  unfold T
  dsimp only
  by_cases h:j<m
  ·rw[if_pos h,if_neg (show ¬m-1=i by omega)]
   by_cases h0:j=0
   ·subst h0;simp;grind
   ·rw[if_neg h0]
    by_cases h1:j=i+1
    ·rw[if_pos (by omega),if_pos h1];grind
    ·rw[if_neg (by omega),if_neg h1];grind
  ·rw[if_neg h,if_neg (by omega)]
theorem ajm{x:V p}(h:XP m x):lc m x (fun i=>tp m low i e0)=x:=by
 funext j
 unfold lc
 by_cases hj:j<m
 ·rw[ack (k:=j) hj]
  ·dsimp only;rw[adW m low j hj];simp;grind
  ·intro i hi fA
   dsimp only
   rw[adW m low i hi]
   simp only
   rw[if_neg (by omega)];grind
 ·rw[h j (by omega),eI (g:=fun _=>0) fun i hi=>by dsimp only;rw[adW m low i hi];dsimp only;rw[if_neg (by omega)];grind,Aw]
theorem U0{x y:V p}(hx:XP m x):ye m low x y=lc m y (fun j=>lc m x (fun i=>tp m low (i+j) e0)):=by
 unfold ye
 congr 1
 funext j
 conv=>lhs;rw[←ajm m low hx]
 rw[ajl]
 congr 1
 funext i
 rw[←Qm,Nat.add_comm]
theorem mul_comm{x y:V p}(hx:XP m x)(hy:XP m y):ye m low x y=ye m low y x:=by
 rw[U0 m low hx,U0 m low hy]
 funext k
 unfold lc
 rw[eI (g:=fun j=>sm m (fun i=>y j*(x i*tp m low (i+j) e0 k))) fun j _=>(Ql _ _ _).symm,adV]
 refine eI fun i _=>?_
 rw[←Ql]
 refine eI fun j _=>?_
 rw[Nat.add_comm];grind
theorem mul_right_comm(x y z:V p):ye m low (ye m low x y) z=ye m low (ye m low x z) y:=by
 unfold ye
 have:∀y z:V p,lc m z (fun i=>tp m low i (lc m y fun i=>tp m low i x))=lc m z (fun i=>lc m y (fun j=>tp m low (i+j) x)):=by
  intro y z
  congr 1
  funext i
  rw[ajl]
  congr 1
  funext j
  rw[←Qm]
 rw[this,this]
 funext k
 unfold lc
 rw[eI (g:=fun j=>sm m (fun i=>z j*(y i*tp m low (j+i) x k))) fun j _=>(Ql _ _ _).symm,adV]
 refine eI fun i _=>?_
 rw[←Ql]
 refine eI fun j _=>?_
 rw[Nat.add_comm];grind
theorem mul_assoc{x y z:V p}(hx:XP m x)(hy:XP m y)(hz:XP m z):ye m low (ye m low x y) z=ye m low x (ye m low y z):=by
 rw[mul_comm m low hx (aoh m low hy z),mul_comm m low hx hy]
 exact mul_right_comm m low y x z
theorem add_mul(x y z:V p):ye m low z (uW x y)=uW (ye m low z x) (ye m low z y):=by
 funext k
 unfold ye uW lc
 rw[←acj]
 exact eI fun i _=>by grind
theorem mul_one(hm:0<m)(x:V p):ye m low x e0=x:=by
 funext k
 unfold ye lc
 rw[ack (k:=0) hm]
 ·simp[e0,tp];grind
 ·intro i hi h0
  unfold e0;rw[if_neg h0];grind
end
end Go.Fld
end
section
namespace Go.Fld
def aN(p:Nat):Nat→Nat→List Nat
 |0,_=>[]
 |m+1,x=>x%p::aN p m (x/p)
def dC(p:Nat):List Nat→Nat
 |[]=>0
 |d::ds=>d+p*dC p ds
def jq(p top b:Nat):List Nat→List Nat→List Nat→List Nat
 |o::os,l::ls,a::aS=>(o+(p-top)*l+b*a)%p::jq p top b os ls aS
 |_,_,_=>[]
def vL:List Nat→Nat
 |[]=>0
 |[x]=>x
 |_::y::l=>vL (y::l)
def T9(p:Nat)(low a:List Nat)(b:Nat)(out:List Nat):List Nat:=jq p (vL out) b (0::out) low a
def fB:Nat→List Nat
 |0=>[]
 |n+1=>0::fB n
def mulL(p:Nat)(low a:List Nat):List Nat→List Nat
 |[]=>fB low.length
 |b::bs=>T9 p low a b (mulL p low a bs)
def tK(p:Nat):List Nat→List Nat→List Nat
 |a::aS,b::bs=>(a+b)%p::tK p aS bs
 |_,_=>[]
def yL(p:Nat):List Nat→List Nat
 |[]=>[]
 |a::aS=>(p-a)%p::yL p aS
def Small(p:Nat)(l:List Nat):Prop:=∀a∈l,a<p
theorem dJ(p m x:Nat):(aN p m x).length=m:=by
 induction m generalizing x with
 |zero=>rfl
 |succ m ih=>simp[aN,ih]
theorem my{p:Nat}(hp:0<p)(m x:Nat):Small p (aN p m x):=by
 induction m generalizing x with
 |zero=>intro a h;cases h
 |succ m ih=>
  intro a h
  rcases List.mem_cons.1 h with rfl|h
  ·exact Nat.mod_lt _ hp
  ·exact ih _ a h
theorem acm{p:Nat}(m x:Nat)(h:x<p^m):dC p (aN p m x)=x:=by
 induction m generalizing x with
 |zero=>simp at h;subst h;rfl
 |succ m ih=>
  rw[Nat.pow_succ] at h
  simp only[aN,dC]
  rw[ih _ (Nat.div_lt_of_lt_mul (by rw[Nat.mul_comm];exact h))]
  exact Nat.mod_add_div x p
theorem acn{p:Nat}(l:List Nat)(h:Small p l):aN p l.length (dC p l)=l:=by
 induction l with
 |nil=>rfl
 |cons a l ih=>
  have ha:a<p:=h a (List.mem_cons_self ..)
  simp only[List.length_cons,aN,dC]
  rw[Nat.add_mul_mod_self_left,Nat.mod_eq_of_lt ha,Nat.add_mul_div_left _ _ (by omega),Nat.div_eq_of_lt ha,Nat.zero_add,ih fun b hb=>h b (List.mem_cons_of_mem _ hb)]
theorem aco{p:Nat}(l:List Nat)(h:Small p l):dC p l<p^l.length:=by
 induction l with
 |nil=>simp[dC]
 |cons a l ih=>
  have ha:a<p:=h a (List.mem_cons_self ..)
  have:=ih fun b hb=>h b (List.mem_cons_of_mem _ hb)
  simp only[dC,List.length_cons,Nat.pow_succ]
  calc a+p*dC p l<p+p*dC p l:=by omega
   _=p*(dC p l+1):=by rw[Nat.mul_add];omega
   _≤p*p^l.length:=Nat.mul_le_mul_left _ this
   _=_:=Nat.mul_comm ..
theorem IA(n:Nat):(fB n).length=n:=by
 induction n with
 |zero=>rfl
 |succ n ih=>simp[fB,ih]
theorem CM{p:Nat}(hp:0<p)(n:Nat):Small p (fB n):=by
 induction n with
 |zero=>intro a h;cases h
 |succ n ih=>
  intro a h
  rcases List.mem_cons.1 h with rfl|h
  ·exact hp
  ·exact ih a h
theorem Mo(p top b:Nat)(os ls aS:List Nat):(jq p top b os ls aS).length=min os.length (min ls.length aS.length):=by
 induction os generalizing ls aS with
 |nil=>simp[jq]
 |cons o os ih=>
  cases ls with
  |nil=>simp[jq]
  |cons l ls=>cases aS with
   |nil=>simp[jq]
   |cons a aS=>simp only[jq,List.length_cons,ih];omega
theorem acp{p:Nat}(hp:0<p)(top b:Nat)(os ls aS:List Nat):Small p (jq p top b os ls aS):=by
 induction os generalizing ls aS with
 |nil=>intro a h;simp[jq] at h
 |cons o os ih=>
  cases ls with
  |nil=>intro a h;simp[jq] at h
  |cons l ls=>cases aS with
   |nil=>intro a h;simp[jq] at h
   |cons a aS=>
    intro c h
    rcases List.mem_cons.1 h with rfl|h
    ·exact Nat.mod_lt _ hp
    ·exact ih _ _ c h
theorem xx{p:Nat}{low a:List Nat}(ha:a.length=low.length)(bs:List Nat):(mulL p low a bs).length=low.length:=by
 induction bs with
 |nil=>exact IA _
 |cons b bs ih=>simp only[mulL,T9,Mo,List.length_cons];omega
theorem vM{p:Nat}(hp:0<p)(low a bs:List Nat):Small p (mulL p low a bs):=by
 cases bs with
 |nil=>exact CM hp _
 |cons b bs=>exact acp hp _ _ _ _ _
theorem Yk(p:Nat)(a b:List Nat):(tK p a b).length=min a.length b.length:=by
 induction a generalizing b with
 |nil=>simp[tK]
 |cons x a ih=>cases b with
  |nil=>simp[tK]
  |cons y b=>simp only[tK,List.length_cons,ih];omega
theorem F3{p:Nat}(hp:0<p)(a b:List Nat):Small p (tK p a b):=by
 induction a generalizing b with
 |nil=>intro c h;simp[tK] at h
 |cons x a ih=>cases b with
  |nil=>intro c h;simp[tK] at h
  |cons y b=>
   intro c h
   rcases List.mem_cons.1 h with rfl|h
   ·exact Nat.mod_lt _ hp
   ·exact ih _ c h
theorem Yl(p:Nat)(a:List Nat):(yL p a).length=a.length:=by
 induction a with
 |nil=>rfl
 |cons x a ih=>simp[yL,ih]
theorem F4{p:Nat}(hp:0<p)(a:List Nat):Small p (yL p a):=by
 induction a with
 |nil=>intro c h;simp[yL] at h
 |cons x a ih=>
  intro c h
  rcases List.mem_cons.1 h with rfl|h
  ·exact Nat.mod_lt _ hp
  ·exact ih c h
theorem Qn(l:List Nat){j:Nat}(h:l.length≤j):l.getD j 0=0:=by rw[List.getD_eq_getElem?_getD,List.getElem?_eq_none h];rfl
theorem lk(l:List Nat){j:Nat}(h:j<l.length):l.getD j 0=l[j]:=by rw[List.getD_eq_getElem?_getD,List.getElem?_eq_getElem h];rfl
section
variable{p:Nat}[NeZero p]
def vec(l:List Nat):V p:=fun j=>Fin.ofNat p (l.getD j 0)
theorem adX(l:List Nat):XP l.length (vec (p:=p) l):=fun j hj=>by unfold vec;rw[Qn _ (by omega)];rfl
theorem aoi{l k:List Nat}(h:l.length=k.length)(hl:Small p l)(hk:Small p k)(e:vec (p:=p) l=vec k):l=k:=by
 apply List.ext_getElem h
 intro i h1 h2
 have:=congrFun e i
 unfold vec at this
 rw[lk _ h1,lk _ h2] at this
 have:=congrArg Fin.val this
 simp only[Fin.ofNat] at this
 rwa[Nat.mod_eq_of_lt (hl _ (List.getElem_mem h1)),Nat.mod_eq_of_lt (hk _ (List.getElem_mem h2))] at this
theorem Qo(n:Nat):Fin.ofNat p (n%p)=Fin.ofNat p n:=by
 apply Fin.ext;simp[Fin.ofNat]
theorem Qp(a b:Nat):Fin.ofNat p (a+b)=Fin.ofNat p a+Fin.ofNat p b:=by
 apply Fin.ext;simp[Fin.ofNat,Fin.val_add]
theorem acq(a b:Nat):Fin.ofNat p (a*b)=Fin.ofNat p a*Fin.ofNat p b:=by
 apply Fin.ext;simp[Fin.ofNat,Fin.val_mul,Nat.mul_mod]
theorem DW:Fin.ofNat p 0=0:=rfl
theorem aoj:Fin.ofNat p p=0:=by apply Fin.ext;simp[Fin.ofNat]
theorem acr{a:Nat}(h:a≤p):Fin.ofNat p (p-a)= -Fin.ofNat p a:=by
 have h1:Fin.ofNat p (p-a)+Fin.ofNat p a=0:=by rw[←Qp,Nat.sub_add_cancel h,aoj]
 grind
theorem K3(n:Nat):vec (p:=p) (fB n)=fun _=>0:=by
 funext j
 unfold vec
 induction n generalizing j with
 |zero=>rfl
 |succ n ih=>cases j with
  |zero=>rfl
  |succ j=>exact ih j
theorem ajn{a b:List Nat}(h:a.length=b.length):vec (p:=p) (tK p a b)=uW (vec a) (vec b):=by
 funext j
 unfold vec uW
 induction a generalizing b j with
 |nil=>cases b with
  |nil=>simp[tK,DW]
  |cons y b=>cases h
 |cons x a ih=>cases b with
  |nil=>cases h
  |cons y b=>cases j with
   |zero=>simp[tK,Qo,Qp]
   |succ j=>simpa [tK] using ih (by simpa using h) j
theorem ajo{a:List Nat}(h:Small p a):vec (p:=p) (yL p a)=aog (vec a):=by
 funext j
 unfold vec aog
 induction a generalizing j with
 |nil=>simp[yL,DW];grind
 |cons x a ih=>cases j with
  |zero=>simp only[yL,List.getD_cons_zero,Qo];exact acr (Nat.le_of_lt (h x (List.mem_cons_self ..)))
  |succ j=>simpa [yL] using ih (fun b hb=>h b (List.mem_cons_of_mem _ hb)) j
theorem DX(l:List Nat):vL l=l.getD (l.length-1) 0:=by
 induction l with
 |nil=>rfl
 |cons x l ih=>cases l with
  |nil=>rfl
  |cons y l=>rw[vL,ih];simp
theorem ajp(top b:Nat)(ht:top≤p)(os ls aS:List Nat)(h1:ls.length≤os.length)(h2:aS.length=ls.length)(j:Nat):
 Fin.ofNat p ((jq p top b os ls aS).getD j 0)=if j<ls.length then Fin.ofNat p (os.getD j 0)-Fin.ofNat p top*Fin.ofNat p (ls.getD j 0)+Fin.ofNat p b*Fin.ofNat p (aS.getD j 0) else 0:=by
 induction ls generalizing os aS j with
 |nil=>
  have:jq p top b os [] aS=[]:=by cases os<;>rfl
  rw[this];simp[DW]
 |cons l ls ih=>
  obtain⟨o,os,rfl⟩:∃o os',os=o::os':=by cases os with|nil=>simp at h1|cons o os=>exact⟨o,os,rfl⟩
  obtain⟨a,aS,rfl⟩:∃o os',aS=o::os':=by cases aS with|nil=>simp at h2|cons o os=>exact⟨o,os,rfl⟩
  cases j with
  |zero=>simp only[jq,List.getD_cons_zero,Qo,Qp,acq,acr ht,List.length_cons];rw[if_pos (by omega)];grind
  |succ j=>
   simp only[jq,List.getD_cons_succ,List.length_cons]
   rw[ih os aS (by simpa using h1) (by simpa using h2)]
   by_cases hj:j<ls.length
   ·rw[if_pos hj,if_pos (by omega)]
   ·rw[if_neg hj,if_neg (by omega)]
theorem ajq{low a out:List Nat}(b:Nat)(ho:out.length=low.length)(ha:a.length=low.length)(hs:Small p out):
 vec (p:=p) (T9 p low a b out)=uW (T low.length (vec low) (vec out)) (fun j=>Fin.ofNat p b*vec a j):=by
 funext j
 unfold T9 uW
 have ht:vL out≤p:=by
  rw[DX]
  by_cases h:out.length-1<out.length
  ·rw[lk _ h];exact Nat.le_of_lt (hs _ (List.getElem_mem h))
  ·rw[Qn _ (by omega)];exact Nat.zero_le _
 unfold vec
 rw[ajp _ _ ht _ _ _ (by simp;omega) ha]
 unfold T
 by_cases hj:j<low.length
 ·rw[if_pos hj,if_pos hj,DX,ho]
  cases j with
  |zero=>simp[DW]
  |succ j=>simp
 ·rw[if_neg hj,if_neg hj];dsimp only;rw[Qn a (by omega),DW];grind
theorem aok(n:Nat)(f:Nat→Fin p):sm (n+1) f=f 0+sm n (fun i=>f (i+1)):=by
 induction n with
 |zero=>simp only[sm];grind
 |succ n ih=>rw[sm,ih];simp only[sm];grind
theorem ajr{low a:List Nat}(bs:List Nat)(ha:a.length=low.length):
 vec (p:=p) (mulL p low a bs)=lc bs.length (vec bs) (fun i=>tp low.length (vec low) i (vec a)):=by
 induction bs with
 |nil=>simp only[mulL,K3];rfl
 |cons b bs ih=>
  simp only[mulL]
  rw[ajq b (xx ha bs) ha (vM (Nat.pos_of_ne_zero (NeZero.ne p)) _ _ _),ih,aw5]
  funext j
  unfold uW lc
  rw[List.length_cons,aok]
  simp only[tp,vec,List.getD_cons_zero,List.getD_cons_succ]
  grind
end
end Go.Fld
end
section
namespace Go.Fld
def agE(p c:Nat):List Nat→List Nat→List Nat
 |r,[]=>r
 |[],_::_=>[]
 |r::rs,l::ls=>(r+(p-c)*l)%p::agE p c rs ls
def ER(p:Nat)(lr:List Nat):Nat→List Nat→List Nat→List Nat×List Nat
 |0,r,qs=>(qs,r)
 |n+1,r,qs=>match r with
  |[]=>(qs,[])
  |c::rest=>ER p lr n (agE p c rest lr) (c::qs)
def rev:List Nat→List Nat→List Nat
 |[],b=>b
 |x::a,b=>rev a (x::b)
def Ym(p:Nat)(low mod:List Nat):List Nat×List Nat:=ER p (rev low []) (mod.length+1-low.length) (1::rev mod []) []
def xh:List Nat→Bool
 |[]=>true
 |a::aS=>Nat.beq a 0&&xh aS
def vN(p:Nat)(low mod:List Nat):Bool:=xh (Ym p low mod).2
def xy(p d:Nat)(mod:List Nat):Nat→Nat→Option (List Nat)
 |0,_=>none
 |n+1,v=>if vN p (aN p d v) mod=true then some (aN p d v) else xy p d mod n (v+1)
def findD(p:Nat)(mod:List Nat):Nat→Nat→Option (List Nat)
 |0,_=>none
 |n+1,d=>match xy p d mod (p^d) 0 with
  |some l=>some l
  |none=>findD p mod n (d+1)
def acs(p:Nat)(mod:List Nat):Bool:=(findD p mod (mod.length/2) 1).isNone
def ajs:Nat→List Nat
 |0=>[]
 |n+1=>1::fB n
def trim:List Nat→List Nat
 |[]=>[]
 |a::aS=>match trim aS with
  |[]=>if a=0 then [] else [a]
  |b::bs=>a::b::bs
def itL(p:Nat)(low x:List Nat):Nat→List Nat→List Nat
 |0,y=>y
 |n+1,y=>itL p low x n (mulL p low y x)
def isP(n:Nat):Nat→Nat→Bool
 |0,_=>true
 |k+1,d=>if n%d=0 then false else isP n k (d+1)
noncomputable section
def lit(n:Nat)(k:Nat→Bool):Bool:=Nat.rec (motive:=fun _=>Bool) (k 0) (fun v _=>k (Nat.succ v)) n
theorem vO(n:Nat)(k:Nat→Bool):lit n k=k n:=by cases n<;>rfl
def Ua(c:Bool)(a b:Bool):Bool:=Bool.rec (motive:=fun _=>Bool) b a c
theorem CN(c a b:Bool):Ua c a b=if c=true then a else b:=by cases c<;>rfl
def auj(p top b:Nat)(os:List Nat):List Nat→List Nat→(List Nat→Bool)→Bool:=
 List.rec (motive:=fun _=>List Nat→List Nat→(List Nat→Bool)→Bool) (fun _ _ k=>k [])
  (fun o _ ih ls aS k=>List.rec (motive:=fun _=>Bool) (k []) (fun l ls _=>List.rec (motive:=fun _=>Bool) (k []) (fun a aS _=>
   lit (Nat.mod (Nat.add (Nat.add o (Nat.mul (Nat.sub p top) l)) (Nat.mul b a)) p) fun v=>ih ls aS fun r=>k (v::r)) aS) ls) os
theorem aom(p top b:Nat)(os ls aS:List Nat)(k:List Nat→Bool):auj p top b os ls aS k=k (jq p top b os ls aS):=by
 induction os generalizing ls aS k with
 |nil=>rfl
 |cons o os ih=>cases ls with
  |nil=>rfl
  |cons l ls=>cases aS with
   |nil=>rfl
   |cons a aS=>exact(vO (Nat.mod (Nat.add (Nat.add o (Nat.mul (Nat.sub p top) l)) (Nat.mul b a)) p) fun v=>auj p top b os ls aS fun r=>k (v::r)).trans (ih _ _ _)
def atb(l:List Nat):Nat:=List.rec (motive:=fun _=>Nat→Nat) (fun x=>x) (fun x _ ih _=>ih x) l 0
theorem ajt(l:List Nat):atb l=vL l:=by
 have:∀(l:List Nat) (x:Nat),List.rec (motive:=fun _=>Nat→Nat) (fun x=>x) (fun x _ ih _=>ih x) l x=vL (x::l):=by
  intro l
  induction l with
  |nil=>intro x;rfl
  |cons y l ih=>intro x;exact ih y
 cases l with
 |nil=>rfl
 |cons x l=>exact this l x
def aon(p:Nat)(low a:List Nat)(bs:List Nat):(List Nat→Bool)→Bool:=
 List.rec (motive:=fun _=>(List Nat→Bool)→Bool) (fun k=>k (fB low.length)) (fun b _ ih k=>ih fun out=>auj p (atb out) b (0::out) low a k) bs
theorem adY(p:Nat)(low a bs:List Nat)(k:List Nat→Bool):aon p low a bs k=k (mulL p low a bs):=by
 induction bs generalizing k with
 |nil=>rfl
 |cons b bs ih=>
  refine(ih _).trans ((aom ..).trans ?_)
  rw[ajt];rfl
def Sz(l:List Nat):List Nat→Bool:=
 List.rec (motive:=fun _=>List Nat→Bool) (fun k=>List.rec (motive:=fun _=>Bool) true (fun _ _ _=>false) k) (fun x _ ih k=>List.rec (motive:=fun _=>Bool) false (fun y k _=>Ua (Nat.beq x y) (ih k) false) k) l
theorem U1(a b:List Nat):Sz a b=true↔a=b:=by
 induction a generalizing b with
 |nil=>cases b<;>simp[Sz]
 |cons x a ih=>cases b with
  |nil=>simp[Sz]
  |cons y b=>
   have:Sz (x::a) (y::b)=Ua (Nat.beq x y) (Sz a b) false:=rfl
   rw[this,CN]
   by_cases e:x=y
   ·subst e;simp[ih]
   ·rw[if_neg (by intro h;exact e (Nat.eq_of_beq_eq_true h))];simp[e]
def U2(p:Nat)(low one x:List Nat)(n:Nat):List Nat→Bool:=
 Nat.rec (motive:=fun _=>List Nat→Bool) (fun y=>Sz y one) (fun _ ih y=>Ua (Sz y one) false (aon p low y x ih)) n
theorem agF(p:Nat)(low one x:List Nat)(n:Nat)(y:List Nat):U2 p low one x n y=true→(∀i,i<n→itL p low x i y≠one)∧itL p low x n y=one:=by
 induction n generalizing y with
 |zero=>intro h;exact⟨fun i hi=>by omega,(U1 ..).1 h⟩
 |succ n ih=>
  intro h
  have e:U2 p low one x (n+1) y=Ua (Sz y one) false (aon p low y x (U2 p low one x n)):=rfl
  rw[e,CN,adY] at h
  by_cases c:Sz y one=true
  ·rw[if_pos c] at h;cases h
  ·rw[if_neg c] at h
   obtain⟨h1,h2⟩:=ih _ h
   refine⟨fun i hi=>?_,h2⟩
   cases i with
   |zero=>intro g;exact c ((U1 ..).2 g)
   |succ i=>exact h1 i (by omega)
def acu(p m:Nat):Nat→(List Nat→Bool)→Bool:=
 Nat.rec (motive:=fun _=>Nat→(List Nat→Bool)→Bool) (fun _ k=>k []) (fun _ ih x k=>lit (Nat.mod x p) fun d=>lit (Nat.div x p) fun y=>ih y fun l=>k (d::l)) m
theorem U3(p m x:Nat)(k:List Nat→Bool):acu p m x k=k (aN p m x):=by
 induction m generalizing x k with
 |zero=>rfl
 |succ m ih=>exact(vO (Nat.mod x p) fun d=>lit (Nat.div x p) fun y=>acu p m y fun l=>k (d::l)).trans ((vO (Nat.div x p) fun y=>acu p m y fun l=>k (x%p::l)).trans (ih _ _))
def atc(l:List Nat):(List Nat→Bool)→Bool:=
 List.rec (motive:=fun _=>(List Nat→Bool)→Bool) (fun k=>k []) (fun a _ ih k=>ih fun t=>List.rec (motive:=fun _=>Bool) (Ua (Nat.beq a 0) (k []) (k [a])) (fun b bs _=>k (a::b::bs)) t) l
theorem aju(l:List Nat)(k:List Nat→Bool):atc l k=k (trim l):=by
 induction l generalizing k with
 |nil=>rfl
 |cons a l ih=>
  refine(ih _).trans ?_
  simp only[trim]
  cases trim l with
  |nil=>
   show Ua (Nat.beq a 0) (k []) (k [a])=_
   rw[CN]
   by_cases e:a=0
   ·subst e;rfl
   ·rw[if_neg (by intro h;exact e (Nat.eq_of_beq_eq_true h))];simp[e]
  |cons b bs=>rfl
def Qq(p:Nat)(low:List Nat)(x:Nat):Bool:=acu p low.length x fun l=>atc l fun t=>lit (p^low.length-2) fun n=>U2 p low (ajs low.length) t n l
def CO(p:Nat)(low:List Nat)(n:Nat):Nat→Bool:=
 Nat.rec (motive:=fun _=>Nat→Bool) (fun _=>false) (fun _ ih x=>Ua (Qq p low x) true (lit (Nat.succ x) ih)) n
def auk(p c:Nat)(l:List Nat):List Nat→(List Nat→Bool)→Bool:=
 List.rec (motive:=fun _=>List Nat→(List Nat→Bool)→Bool) (fun r k=>k r) (fun l _ ih r k=>List.rec (motive:=fun _=>Bool) (k []) (fun r rs _=>
  lit (Nat.mod (Nat.add r (Nat.mul (Nat.sub p c) l)) p) fun v=>ih rs fun t=>k (v::t)) r) l
theorem aoo(p c:Nat)(l r:List Nat)(k:List Nat→Bool):auk p c l r k=k (agE p c r l):=by
 induction l generalizing r k with
 |nil=>cases r<;>rfl
 |cons x l ih=>cases r with
  |nil=>rfl
  |cons y r=>exact(vO (Nat.mod (Nat.add y (Nat.mul (Nat.sub p c) x)) p) fun v=>auk p c l r fun t=>k (v::t)).trans (ih _ _)
def aul(p:Nat)(lr:List Nat)(n:Nat):List Nat→List Nat→(List Nat→List Nat→Bool)→Bool:=
 Nat.rec (motive:=fun _=>List Nat→List Nat→(List Nat→List Nat→Bool)→Bool) (fun r qs k=>k qs r) (fun _ ih r qs k=>List.rec (motive:=fun _=>Bool) (k qs []) (fun c rest _=>
  auk p c lr rest fun r=>ih r (c::qs) k) r) n
theorem aop(p:Nat)(lr:List Nat)(n:Nat)(r qs:List Nat)(k:List Nat→List Nat→Bool):aul p lr n r qs k=k (ER p lr n r qs).1 (ER p lr n r qs).2:=by
 induction n generalizing r qs with
 |zero=>rfl
 |succ n ih=>cases r with
  |nil=>rfl
  |cons c rest=>exact(aoo ..).trans (ih ..)
def agG(l:List Nat):Bool:=List.rec (motive:=fun _=>Bool) true (fun a _ ih=>Ua (Nat.beq a 0) ih false) l
theorem adZ(l:List Nat):agG l=xh l:=by
 induction l with
 |nil=>rfl
 |cons a l ih=>
  show Ua (Nat.beq a 0) (agG l) false=(Nat.beq a 0&&xh l)
  rw[ih];cases Nat.beq a 0<;>rfl
def aoq(a:List Nat):List Nat→(List Nat→Bool)→Bool:=List.rec (motive:=fun _=>List Nat→(List Nat→Bool)→Bool) (fun b k=>k b) (fun x _ ih b k=>ih (x::b) k) a
theorem ad0(a b:List Nat)(k:List Nat→Bool):aoq a b k=k (rev a b):=by
 induction a generalizing b with
 |nil=>rfl
 |cons x a ih=>exact ih _
def fvK(p d:Nat)(mod mr:List Nat)(kn:Bool)(ks:List Nat→List Nat→Bool)(n:Nat):Nat→Bool:=
 Nat.rec (motive:=fun _=>Nat→Bool) (fun _=>kn) (fun _ ih v=>acu p d v fun l=>aoq l [] fun lr=>aul p lr (mod.length+1-d) mr [] fun qs r=>Ua (agG r) (ks l qs) (lit (Nat.succ v) ih)) n
theorem aum(p d:Nat)(mod:List Nat)(kn:Bool)(ks:List Nat→List Nat→Bool)(n v:Nat):fvK p d mod (1::rev mod []) kn ks n v=match xy p d mod n v with
 |none=>kn
 |some l=>ks l (Ym p l mod).1:=by
 induction n generalizing v with
 |zero=>rfl
 |succ n ih=>
  show(acu p d v fun l=>aoq l [] fun lr=>aul p lr (mod.length+1-d) (1::rev mod []) [] fun qs r=>Ua (agG r) (ks l qs) (lit (Nat.succ v) (fvK p d mod (1::rev mod []) kn ks n)))=_
  rw[U3,ad0,aop,CN,vO,ih,adZ]
  simp only[xy]
  have:Ym p (aN p d v) mod=ER p (rev (aN p d v) []) (mod.length+1-d) (1::rev mod []) []:=by unfold Ym;rw[dJ]
  rw[←this,show xh (Ym p (aN p d v) mod).2=vN p (aN p d v) mod from rfl]
  by_cases c:vN p (aN p d v) mod=true
  ·rw[if_pos c,if_pos c]
  ·rw[if_neg c,if_neg c]
def fdK(p:Nat)(mod mr:List Nat)(kn:Bool)(ks:List Nat→List Nat→Bool)(n:Nat):Nat→Bool:=
 Nat.rec (motive:=fun _=>Nat→Bool) (fun _=>kn) (fun _ ih d=>lit (p^d) fun c=>fvK p d mod mr (lit (Nat.succ d) ih) ks c 0) n
theorem aun(p:Nat)(mod:List Nat)(kn:Bool)(ks:List Nat→List Nat→Bool)(n d:Nat):fdK p mod (1::rev mod []) kn ks n d=match findD p mod n d with
 |none=>kn
 |some l=>ks l (Ym p l mod).1:=by
 induction n generalizing d with
 |zero=>rfl
 |succ n ih=>
  show(lit (p^d) fun c=>fvK p d mod (1::rev mod []) (lit (Nat.succ d) (fdK p mod (1::rev mod []) kn ks n)) ks c 0)=_
  rw[vO,aum,vO,ih]
  simp only[findD]
  cases xy p d mod (p^d) 0<;>rfl
def auo(m:Nat)(l:List Nat):List Nat:=l++fB (m-l.length)
def acv(l:List Nat):(List Nat→Bool)→Bool:=List.rec (motive:=fun _=>(List Nat→Bool)→Bool) (fun k=>k []) (fun a _ ih k=>lit a fun a=>ih fun r=>k (a::r)) l
theorem agH(l:List Nat)(k:List Nat→Bool):acv l k=k l:=by
 induction l generalizing k with
 |nil=>rfl
 |cons a l ih=>exact(vO a fun a=>acv l fun r=>k (a::r)).trans (ih _)
def zdK(p:Nat)(mod low b:List Nat):Bool:=
 acv (auo mod.length (low++[1])) fun a=>
 Ua (Nat.beq a.length mod.length) (Ua (Nat.ble b.length mod.length) (Ua (agG a) false (Ua (agG b) false (aon p mod a b fun r=>Sz r (fB mod.length)))) false) false
def chk(p m v:Nat):Bool:=acu p m v fun mod=>aoq mod [] fun mr=>fdK p mod (1::mr) (CO p mod (p^m) 1) (zdK p mod) (m/2) 1
def ajv(f:Nat→Bool)(n:Nat):Bool:=Nat.rec (motive:=fun _=>Bool) true (fun n ih=>Ua (lit n f) ih false) n
def kF(p m:Nat):Bool:=ajv (chk p m) (p^m)
def aw7(p:Nat):Bool:=Ua (Nat.ble 2 p&&isP p (p-2) 2) (CO p [0] p 1) true
end
end Go.Fld
end
section
namespace Go.Fld
set_option maxRecDepth 20000
theorem azH:kF 2 2=true:=by decide+kernel
theorem azI:kF 2 3=true:=by decide+kernel
theorem azJ:kF 2 4=true:=by decide+kernel
theorem azK:kF 2 5=true:=by decide+kernel
theorem azL:kF 2 6=true:=by decide+kernel
theorem azM:kF 2 7=true:=by decide+kernel
theorem azN:kF 2 8=true:=by decide+kernel
theorem azO:kF 3 2=true:=by decide+kernel
theorem azP:kF 3 3=true:=by decide+kernel
theorem azQ:kF 3 4=true:=by decide+kernel
theorem azR:kF 3 5=true:=by decide+kernel
theorem azS:kF 5 2=true:=by decide+kernel
theorem azT:kF 5 3=true:=by decide+kernel
theorem azU:kF 7 2=true:=by decide+kernel
theorem aw8:kF 11 2=true:=by decide+kernel
theorem aw9:kF 13 2=true:=by decide+kernel
theorem c1:ajv aw7 257=true:=by decide+kernel
end Go.Fld
end
section
namespace Go.Fld
structure FD where
 p:Nat
 m:Nat
 low:List Nat
 hp:2≤p
 hm:1≤m
 hl:low.length=m
 hs:Small p low
namespace FD
variable(D:FD)
def q:Nat:=D.p^D.m
def dg(x:Nat):List Nat:=aN D.p D.m x
def mul(x y:Nat):Nat:=dC D.p (mulL D.p D.low (D.dg x) (D.dg y))
def add(x y:Nat):Nat:=dC D.p (tK D.p (D.dg x) (D.dg y))
def neg(x:Nat):Nat:=dC D.p (yL D.p (D.dg x))
def pw(x:Nat):Nat→Nat
 |0=>1
 |n+1=>D.mul (pw x n) x
instance nz:NeZero D.p:=⟨by have:=D.hp;omega⟩
def ph(x:Nat):V D.p:=vec (D.dg x)
theorem pp:0<D.p:=by have:=D.hp;omega
theorem q1:1<D.q:=Nat.one_lt_pow (by have:=D.hm;omega) D.hp
theorem gM(x:Nat):(D.dg x).length=D.m:=dJ ..
theorem mz(x:Nat):Small D.p (D.dg x):=my D.pp _ _
theorem Qr{x:Nat}(h:x<D.q):dC D.p (D.dg x)=x:=acm _ _ h
theorem yf{l:List Nat}(h:l.length=D.m)(hs:Small D.p l):D.dg (dC D.p l)=l:=by unfold dg;rw[←h];exact acn l hs
theorem xz{l:List Nat}(h:l.length=D.m)(hs:Small D.p l):dC D.p l<D.q:=by unfold q;rw[←h];exact aco l hs
theorem CQ(x y:Nat):(mulL D.p D.low (D.dg x) (D.dg y)).length=D.m:=by rw[xx (by rw[gM,D.hl]),D.hl]
theorem IB(x y:Nat):(tK D.p (D.dg x) (D.dg y)).length=D.m:=by rw[Yk,gM,gM];omega
theorem IC(x:Nat):(yL D.p (D.dg x)).length=D.m:=by rw[Yl,gM]
theorem yg(x y:Nat):D.mul x y<D.q:=D.xz (D.CQ x y) (vM D.pp _ _ _)
theorem CR(x y:Nat):D.add x y<D.q:=D.xz (D.IB x y) (F3 D.pp _ _)
theorem ajw(x:Nat):D.neg x<D.q:=D.xz (D.IC x) (F4 D.pp _)
theorem ajx(x y:Nat):D.dg (D.mul x y)=mulL D.p D.low (D.dg x) (D.dg y):=D.yf (D.CQ x y) (vM D.pp _ _ _)
theorem ext{x y:Nat}(hx:x<D.q)(hy:y<D.q)(h:D.ph x=D.ph y):x=y:=by
 rw[←D.Qr hx,←D.Qr hy,aoi (by rw[gM,gM]) (D.mz x) (D.mz y) h]
theorem CS(x:Nat):XP D.m (D.ph x):=by rw[←D.gM x];exact adX _
theorem vP(x y:Nat):D.ph (D.mul x y)=ye D.m (vec D.low) (D.ph x) (D.ph y):=by
 unfold ph
 rw[ajx,ajr _ (by rw[gM,D.hl]),gM,D.hl]
 rfl
theorem yh(x y:Nat):D.ph (D.add x y)=uW (D.ph x) (D.ph y):=by
 unfold ph add
 rw[D.yf (D.IB x y) (F3 D.pp _ _),ajn (by rw[gM,gM])]
theorem aup(x:Nat):D.ph (D.neg x)=aog (D.ph x):=by
 unfold ph neg
 rw[D.yf (D.IC x) (F4 D.pp _),ajo (D.mz x)]
theorem ID:D.dg 0=fB D.m:=by
 unfold dg
 generalize D.m=m
 induction m with
 |zero=>rfl
 |succ m ih=>simp[aN,fB,ih]
theorem acw:D.dg 1=ajs D.m:=by
 unfold dg
 have h1:=D.hm
 have h2:=D.hp
 have h0:=D.ID
 unfold dg at h0
 generalize D.m=m at*
 cases m with
 |zero=>omega
 |succ m=>
  simp only[aN,ajs,fB] at h0 ⊢
  rw[Nat.mod_eq_of_lt (by omega),Nat.div_eq_of_lt (by omega)]
  simp only[Nat.zero_div,List.cons.injEq] at h0
  rw[h0.2]
theorem ad1:D.ph 0=fun _=>0:=by unfold ph;rw[ID,K3]
theorem auq:D.ph 1=e0:=by
 unfold ph
 rw[acw]
 have h1:=D.hm
 generalize D.m=m at*
 cases m with
 |zero=>omega
 |succ m=>
  funext j
  cases j with
  |zero=>
   unfold vec e0
   simp only[ajs,List.getD_cons_zero]
   rfl
  |succ j=>
   have:=congrFun (K3 (p:=D.p) m) j
   unfold vec e0 at*
   simp only[ajs,List.getD_cons_succ]
   rw[this];rfl
theorem mul_comm(x y:Nat):D.mul x y=D.mul y x:=D.ext (D.yg ..) (D.yg ..) (by rw[vP,vP];exact Fld.mul_comm _ _ (D.CS x) (D.CS y))
theorem mul_assoc(x y z:Nat):D.mul (D.mul x y) z=D.mul x (D.mul y z):=D.ext (D.yg ..) (D.yg ..) (by
 rw[vP,vP,vP,vP];exact Fld.mul_assoc _ _ (D.CS x) (D.CS y) (D.CS z))
theorem mul_add(x y z:Nat):D.mul x (D.add y z)=D.add (D.mul x y) (D.mul x z):=D.ext (D.yg ..) (D.CR ..) (by
 rw[vP,yh,yh,vP,vP];exact Fld.add_mul _ _ _ _ _)
theorem mul_one{x:Nat}(h:x<D.q):D.mul x 1=x:=D.ext (D.yg ..) h (by rw[vP,auq];exact Fld.mul_one _ _ D.hm _)
theorem one_mul{x:Nat}(h:x<D.q):D.mul 1 x=x:=by rw[mul_comm,D.mul_one h]
theorem add_comm(x y:Nat):D.add x y=D.add y x:=D.ext (D.CR ..) (D.CR ..) (by rw[yh,yh];funext j;unfold uW;grind)
theorem add_assoc(x y z:Nat):D.add (D.add x y) z=D.add x (D.add y z):=D.ext (D.CR ..) (D.CR ..) (by rw[yh,yh,yh,yh];funext j;unfold uW;grind)
theorem add_zero{x:Nat}(h:x<D.q):D.add x 0=x:=D.ext (D.CR ..) h (by rw[yh,ad1];funext j;unfold uW;grind)
theorem add_neg(x:Nat):D.add x (D.neg x)=0:=D.ext (D.CR ..) (by have:=D.q1;omega) (by rw[yh,aup,ad1];funext j;unfold uW aog;grind)
theorem mul_zero(x:Nat):D.mul x 0=0:=by
 have h0:0<D.q:=by have:=D.q1;omega
 have h1:D.add (D.mul x 0) (D.mul x 0)=D.mul x 0:=by rw[←mul_add,D.add_zero h0]
 have h2:D.add (D.add (D.mul x 0) (D.mul x 0)) (D.neg (D.mul x 0))=D.add (D.mul x 0) (D.neg (D.mul x 0)):=by rw[h1]
 rwa[add_assoc,add_neg,D.add_zero (D.yg ..)] at h2
theorem CT(x n:Nat):D.pw x n<D.q:=by
 cases n with
 |zero=>exact D.q1
 |succ n=>exact D.yg ..
theorem yi(x a b:Nat):D.pw x (a+b)=D.mul (D.pw x a) (D.pw x b):=by
 induction b with
 |zero=>simp only[pw,Nat.add_zero];rw[D.mul_one (D.CT x a)]
 |succ b ih=>rw[←Nat.add_assoc];simp only[pw];rw[ih,mul_assoc]
def aJ(x:Nat):Prop:=x<D.q∧D.pw x (D.q-1)=1∧∀i,0<i→i<D.q-1→D.pw x i≠1
theorem aur{x:Nat}(hx:x<D.q)(i k:Nat):itL D.p D.low (D.dg x) i (D.dg (D.pw x k))=D.dg (D.pw x (k+i)):=by
 induction i generalizing k with
 |zero=>rfl
 |succ i ih=>
  simp only[itL]
  rw[←ajx,show D.mul (D.pw x k) x=D.pw x (k+1) from rfl,ih,Nat.add_right_comm,Nat.add_assoc]
theorem U4{x:Nat}(h:D.aJ x){i j:Nat}(UJ:i<j)(hj:j<D.q-1):D.pw x i≠D.pw x j:=by
 intro e
 refine h.2.2 (j-i) (by omega) (by omega) ?_
 have h1:D.mul (D.pw x j) (D.pw x (D.q-1-i))=1:=by rw[←e,←yi,show i+(D.q-1-i)=D.q-1 by omega];exact h.2.1
 rw[←yi,show j+(D.q-1-i)=(j-i)+(D.q-1) by omega,yi,h.2.1,D.mul_one (D.CT ..)] at h1
 exact h1
theorem r8{x:Nat}(h:D.aJ x)(i:Nat):D.pw x i≠0:=by
 intro e
 have hk:∀k,D.pw x (k*(D.q-1))=1:=by
  intro k
  induction k with
  |zero=>simp[pw]
  |succ k ih=>rw[Nat.succ_mul,yi,ih,h.2.1,D.mul_one D.q1]
 have hq:=D.q1
 have hle:i≤(i+1)*(D.q-1):=by
  have h1:i+1≤(i+1)*(D.q-1):=Nat.le_mul_of_pos_right _ (by omega)
  omega
 have h1:D.pw x ((i+1)*(D.q-1))=D.mul (D.pw x i) (D.pw x ((i+1)*(D.q-1)-i)):=by rw[←yi];congr 1;omega
 rw[hk,e,mul_comm,mul_zero] at h1
 cases h1
theorem Yn:∀(n:Nat) (l:List Nat),l.Nodup→(∀x∈l,x<n)→l.length≤n:=by
 intro n
 induction n with
 |zero=>
  intro l _ h
  cases l with
  |nil=>exact Nat.le_refl _
  |cons x l=>exact absurd (h x (List.mem_cons_self ..)) (Nat.not_lt_zero _)
 |succ n ih=>
  intro l hn h
  by_cases hm:n∈l
  ·have h1:=ih (l.erase n) (hn.erase n) (fun x hx=>by
    obtain⟨h1,h2⟩:=hn.mem_erase_iff.1 hx
    have:=h x h2;omega)
   rw[List.length_erase_of_mem hm] at h1
   omega
  ·have:=ih l hn (fun x hx=>by have h1:=h x hx;have:x≠n:=fun e=>hm (e▸hx);omega)
   omega
theorem ajy{n:Nat}(f:Nat→Nat)(hf:∀i,i<n→f i<n)(hi:∀i j,i<j→j<n→f i≠f j):∀y,y<n→∃i,i<n∧f i=y:=by
 intro y hy
 refine Classical.byContradiction fun hc=>?_
 have hn:((List.range n).map f).Nodup:=by
  unfold List.Nodup
  rw[List.pairwise_map]
  refine List.Pairwise.imp_of_mem (R:=fun i j=>i<j) ?_ List.pairwise_lt_range
  intro i j _ hj UJ
  exact hi i j UJ (List.mem_range.1 hj)
 have hy2:y∉(List.range n).map f:=by
  intro h
  obtain⟨i,h1,h2⟩:=List.mem_map.1 h
  exact hc ⟨i,List.mem_range.1 h1,h2⟩
 have:=Yn n (y::(List.range n).map f) (List.nodup_cons.2 ⟨hy2,hn⟩) (fun x hx=>by
  rcases List.mem_cons.1 hx with rfl|hx
  ·exact hy
  ·obtain⟨i,h1,rfl⟩:=List.mem_map.1 hx
   exact hf i (List.mem_range.1 h1))
 simp at this;omega
theorem yM{x:Nat}(h:D.aJ x){y:Nat}(h0:y≠0)(hy:y<D.q):∃i,i<D.q-1∧D.pw x i=y:=by
 have hq:=D.q1
 obtain⟨i,h1,h2⟩:=ajy (n:=D.q-1) (fun i=>D.pw x i-1) (fun i _=>by have:=D.CT x i;have:=D.r8 h i;omega)
  (fun i j UJ hj e=>D.U4 h UJ hj (by have:=D.r8 h i;have:=D.r8 h j;omega)) (y-1) (by omega)
 exact⟨i,h1,by have:=D.r8 h i;omega⟩
theorem ajz{x:Nat}(h:D.aJ x){a b:Nat}(ha:a<D.q)(hb:b<D.q)(e:D.mul a b=0):a=0∨b=0:=by
 by_cases h1:a=0
 ·exact .inl h1
 ·by_cases h2:b=0
  ·exact .inr h2
  ·obtain⟨i,_,rfl⟩:=D.yM h h1 ha
   obtain⟨j,_,rfl⟩:=D.yM h h2 hb
   rw[←yi] at e
   exact absurd e (D.r8 h _)
end FD
end Go.Fld
end
section
namespace Go.Fld
theorem ajA(l:List Nat):∃k,l=trim l++fB k:=by
 induction l with
 |nil=>exact⟨0,rfl⟩
 |cons a l ih=>
  obtain⟨k,hk⟩:=ih
  simp only[trim]
  cases ht:trim l with
  |nil=>
   rw[ht,List.nil_append] at hk
   by_cases e:a=0
   ·subst e
    exact⟨k+1,by rw[hk];rfl⟩
   ·exact⟨k,by simp[e,hk]⟩
  |cons b bs=>
   rw[ht] at hk
   exact⟨k,by rw[hk];rfl⟩
theorem agI(p:Nat)(low a:List Nat)(ha:a.length=low.length)(n:Nat)(hn:low.length≤n):jq p 0 0 (fB n) low a=fB low.length:=by
 induction low generalizing a n with
 |nil=>cases n<;>rfl
 |cons l low ih=>
  obtain⟨x,a,rfl⟩:∃x a',a=x::a':=by cases a with|nil=>simp at ha|cons x a=>exact⟨x,a,rfl⟩
  obtain⟨n,rfl⟩:∃k,n=k+1:=⟨n-1,by simp at hn;omega⟩
  simp only[fB,jq,List.length_cons]
  rw[ih a (by simpa using ha) n (by simpa using hn)]
  simp
theorem Yo(n:Nat):vL (fB n)=0:=by
 induction n with
 |zero=>rfl
 |succ n ih=>cases n with
  |zero=>rfl
  |succ n=>exact ih
theorem acx(p:Nat)(low a:List Nat)(ha:a.length=low.length)(k:Nat):mulL p low a (fB k)=fB low.length:=by
 induction k with
 |zero=>rfl
 |succ k ih=>
  simp only[fB,mulL,ih,T9,Yo]
  exact agI p low a ha (low.length+1) (by omega)
theorem Yp(p:Nat)(low a:List Nat)(ha:a.length=low.length)(bs:List Nat)(k:Nat):mulL p low a (bs++fB k)=mulL p low a bs:=by
 induction bs with
 |nil=>exact acx p low a ha k
 |cons b bs ih=>simp only[List.cons_append,mulL,ih]
theorem agJ(p:Nat)(low a:List Nat)(ha:a.length=low.length)(bs:List Nat):mulL p low a (trim bs)=mulL p low a bs:=by
 obtain⟨k,hk⟩:=ajA bs
 conv=>rhs;rw[hk]
 rw[Yp p low a ha]
theorem ajB(p:Nat)(low x:List Nat)(n:Nat)(y:List Nat)(hy:y.length=low.length):itL p low (trim x) n y=itL p low x n y:=by
 induction n generalizing y with
 |zero=>rfl
 |succ n ih=>simp only[itL];rw[agJ p low y hy,ih _ (xx hy _)]
namespace FD
variable(D:FD)
theorem ajC(x:Nat):D.dg x=D.dg (dC D.p (D.dg x)):=(D.yf (D.gM x) (D.mz x)).symm
theorem aor{x:Nat}(h:Qq D.p D.low x=true):D.aJ (dC D.p (D.dg x)):=by
 unfold Qq at h
 rw[U3,aju,vO,D.hl] at h
 obtain⟨h1,h2⟩:=agF _ _ _ _ _ _ h
 have hd:aN D.p D.m x=D.dg x:=rfl
 have hq:D.p^D.m=D.q:=rfl
 rw[hd,hq] at h1 h2
 have hlt:=D.xz (D.gM x) (D.mz x)
 have Ak:=D.q1
 have it:∀i,itL D.p D.low (trim (D.dg x)) i (D.dg x)=D.dg (D.pw (dC D.p (D.dg x)) (i+1)):=by
  intro i
  rw[ajB _ _ _ _ _ (by rw[gM,D.hl]),D.ajC x]
  have:=D.aur hlt i 1
  rw[show D.pw (dC D.p (D.dg x)) 1=dC D.p (D.dg x) from D.one_mul hlt,Nat.add_comm 1 i] at this
  rw[this,←D.ajC x]
 refine⟨hlt,?_,?_⟩
 ·rw[it,←D.acw,show D.q-2+1=D.q-1 by omega] at h2
  have:=congrArg (dC D.p) h2
  rwa[D.Qr (D.CT ..),D.Qr Ak] at this
 ·intro i h0 hi e
  have:=h1 (i-1) (by omega)
  rw[it,←D.acw,show i-1+1=i by omega,e] at this
  exact this rfl
theorem Ub{n x:Nat}(h:CO D.p D.low n x=true):∃x,D.aJ x:=by
 induction n generalizing x with
 |zero=>cases h
 |succ n ih=>
  have e:CO D.p D.low (n+1) x=Ua (Qq D.p D.low x) true (lit (Nat.succ x) (CO D.p D.low n)):=rfl
  rw[e,CN,vO] at h
  by_cases c:Qq D.p D.low x=true
  ·exact⟨_,D.aor c⟩
  ·rw[if_neg c] at h;exact ih h
theorem Qs{l:List Nat}:xh l=true↔l=fB l.length:=by
 induction l with
 |nil=>simp[xh,fB]
 |cons a l ih=>
  simp only[xh,Bool.and_eq_true,ih,fB,List.length_cons,List.cons.injEq]
  constructor
  ·rintro⟨h1,h2⟩;exact⟨Nat.eq_of_beq_eq_true h1,h2⟩
  ·rintro⟨h1,h2⟩;exact⟨by rw[h1];rfl,h2⟩
theorem axa{low b:List Nat}(h:zdK D.p D.low low b=true)(DL:Small D.p low)(hb:Small D.p b)(x:Nat):¬D.aJ x:=by
 unfold zdK at h
 rw[agH] at h
 simp only[CN,adZ] at h
 split at h<;>try contradiction
 rename_i h1
 split at h<;>try contradiction
 rename_i h2
 split at h<;>try contradiction
 rename_i h3
 split at h<;>try contradiction
 rename_i h4
 rw[adY,U1] at h
 have h1:=Nat.eq_of_beq_eq_true h1
 have h2:=Nat.le_of_ble_eq_true h2
 rw[D.hl] at h h1 h2 h3
 generalize ha:auo D.m (low++[1])=a at h h1 h3
 have PX:Small D.p a:=by
  intro c hc
  rw[←ha] at hc
  unfold auo at hc
  rcases List.mem_append.1 hc with hc|hc
  ·rcases List.mem_append.1 hc with hc|hc
   ·exact DL c hc
   ·have:=D.hp;simp at hc;omega
  ·exact CM D.pp _ c hc
 intro hx
 have mn:(b++fB (D.m-b.length)).length=D.m:=by rw[List.length_append,IA];omega
 have hbs:Small D.p (b++fB (D.m-b.length)):=by
  intro c hc
  rcases List.mem_append.1 hc with hc|hc
  ·exact hb c hc
  ·exact CM D.pp _ c hc
 have hm:D.mul (dC D.p a) (dC D.p (b++fB (D.m-b.length)))=0:=by
  unfold mul
  rw[D.yf h1 PX,D.yf mn hbs,Yp _ _ _ (by rw[h1,D.hl]),h,←D.ID,D.Qr (by have:=D.q1;omega)]
 rcases D.ajz hx (D.xz h1 PX) (D.xz mn hbs) hm with e|e
 ·have:=D.yf h1 PX
  rw[e,ID] at this
  apply h3
  rw[Qs,h1,this]
 ·have:=D.yf mn hbs
  rw[e,ID] at this
  apply h4
  rw[Qs]
  have h5:b=(fB D.m).take b.length:=by rw[this,List.take_left]
  have h6:∀n k,k≤n→(fB n).take k=fB k:=by
   intro n
   induction n with
   |zero=>intro k hk;obtain rfl:k=0:=by omega
          rfl
   |succ n ih=>
    intro k hk
    cases k with
    |zero=>rfl
    |succ k=>simp[fB,ih k (by omega)]
  rw[h6 _ _ h2] at h5
  exact h5
theorem acy{p:Nat}(hp:0<p)(c:Nat)(r l:List Nat)(hr:Small p r):Small p (agE p c r l):=by
 induction r generalizing l with
 |nil=>cases l with
  |nil=>exact hr
  |cons x l=>intro a h;cases h
 |cons y r ih=>cases l with
  |nil=>exact hr
  |cons x l=>
   intro a h
   rcases List.mem_cons.1 h with rfl|h
   ·exact Nat.mod_lt _ hp
   ·exact ih l (fun b hb=>hr b (List.mem_cons_of_mem _ hb)) a h
theorem acz{p:Nat}(hp:0<p)(lr:List Nat)(n:Nat)(r qs:List Nat)(hr:Small p r)(hq:Small p qs):Small p (ER p lr n r qs).1:=by
 induction n generalizing r qs with
 |zero=>exact hq
 |succ n ih=>cases r with
  |nil=>exact hq
  |cons c rest=>
   refine ih _ _ (acy hp c rest lr fun b hb=>hr b (List.mem_cons_of_mem _ hb)) ?_
   intro a h
   rcases List.mem_cons.1 h with rfl|h
   ·exact hr _ (List.mem_cons_self ..)
   ·exact hq a h
theorem aos(a b:List Nat)(x:Nat):x∈rev a b↔x∈a∨x∈b:=by
 induction a generalizing b with
 |nil=>simp[rev]
 |cons y a ih=>simp only[rev,ih,List.mem_cons];grind
theorem Yq{p d:Nat}(hp:0<p){mod:List Nat}{n v:Nat}{l:List Nat}(h:xy p d mod n v=some l):Small p l:=by
 induction n generalizing v with
 |zero=>cases h
 |succ n ih=>
  simp only[xy] at h
  split at h
  ·cases h;exact my hp _ _
  ·exact ih h
theorem Yr{p d:Nat}(hp:0<p){mod:List Nat}{n:Nat}{l:List Nat}(h:findD p mod n d=some l):Small p l:=by
 induction n generalizing d with
 |zero=>cases h
 |succ n ih=>
  simp only[findD] at h
  split at h
  ·rename_i l' hv;cases h;exact Yq hp hv
  ·exact ih h
theorem aot(h:chk D.p D.m (dC D.p D.low)=true):acs D.p D.low=true↔∃x,D.aJ x:=by
 unfold chk at h
 have hd:aN D.p D.m (dC D.p D.low)=D.low:=D.yf D.hl D.hs
 rw[U3,ad0,aun,hd] at h
 unfold acs
 rw[D.hl]
 cases hf:findD D.p D.low (D.m/2) 1 with
 |none=>
  rw[hf] at h
  simp only[Option.isNone_none,true_iff]
  exact D.Ub h
 |some l=>
  rw[hf] at h
  simp only[Option.isNone_some,Bool.false_eq_true,false_iff,not_exists]
  refine D.axa h (Yr D.pp hf) ?_
  unfold Ym
  refine acz D.pp _ _ _ _ ?_ (by intro a h;cases h)
  intro a ha
  rcases List.mem_cons.1 ha with rfl|ha
  ·have:=D.hp;omega
  ·rcases(aos ..).1 ha with ha|ha
   ·exact D.hs a ha
   ·cases ha
theorem Ys{f:Nat→Bool}{n:Nat}(h:ajv f n=true){i:Nat}(hi:i<n):f i=true:=by
 induction n with
 |zero=>omega
 |succ n ih=>
  have e:ajv f (n+1)=Ua (lit n f) (ajv f n) false:=rfl
  rw[e,CN,vO] at h
  by_cases c:f n=true
  ·rw[if_pos c] at h
   by_cases e:i=n
   ·subst e;exact c
   ·exact ih h (by omega)
  ·rw[if_neg c] at h;cases h
def prB(n:Nat):Bool:=Nat.ble 2 n&&isP n (n-2) 2
def ajD:List (Nat×Nat):=[(2,2),(2,3),(2,4),(2,5),(2,6),(2,7),(2,8),(3,2),(3,3),(3,4),(3,5),(5,2),(5,3),(7,2),(11,2),(13,2)]
theorem aus:∀p<17,∀m<9,prB p=true→2≤m→p^m≤256→kF p m=true:=by
 intro p hp m hm hpr h2 hpm
 have hb:((List.range 17).all fun p=>(List.range 9).all fun m=>!(prB p&&Nat.ble 2 m&&Nat.ble (p^m) 256)||ajD.any fun x=>Nat.beq x.1 p&&Nat.beq x.2 m)=true:=by decide+kernel
 have h1:=List.all_eq_true.1 (List.all_eq_true.1 hb p (List.mem_range.2 hp)) m (List.mem_range.2 hm)
 rw[hpr,Nat.ble_eq_true_of_le h2,Nat.ble_eq_true_of_le hpm] at h1
 simp only[Bool.and_self,Bool.not_true,Bool.false_or] at h1
 obtain⟨⟨a,b⟩,h3,h4⟩:=List.any_eq_true.1 h1
 simp only[Bool.and_eq_true] at h4
 obtain⟨h4,h5⟩:=h4
 have h4:=Nat.eq_of_beq_eq_true h4
 have h5:=Nat.eq_of_beq_eq_true h5
 subst h4 h5
 have St:=h3
 unfold ajD at St
 simp only[List.mem_cons,Prod.mk.injEq,List.not_mem_nil,or_false] at St
 rcases St with⟨rfl,rfl⟩|⟨rfl,rfl⟩|⟨rfl,rfl⟩|⟨rfl,rfl⟩|⟨rfl,rfl⟩|⟨rfl,rfl⟩|⟨rfl,rfl⟩|⟨rfl,rfl⟩|⟨rfl,rfl⟩|⟨rfl,rfl⟩|⟨rfl,rfl⟩|⟨rfl,rfl⟩|⟨rfl,rfl⟩|⟨rfl,rfl⟩|⟨rfl,rfl⟩|⟨rfl,rfl⟩
 ·exact azH
 ·exact azI
 ·exact azJ
 ·exact azK
 ·exact azL
 ·exact azM
 ·exact azN
 ·exact azO
 ·exact azP
 ·exact azQ
 ·exact azR
 ·exact azS
 ·exact azT
 ·exact azU
 ·exact aw8
 ·exact aw9
theorem ad3(hm:2≤D.m)(hq:D.q≤256)(hp:prB D.p=true):acs D.p D.low=true↔∃x,D.aJ x:=by
 refine D.aot ?_
 have h2:=D.hp
 have NQ:D.p<17:=by
  refine Classical.byContradiction fun hc=>?_
  have h1:17^2≤D.p^2:=Nat.pow_le_pow_left (by omega) 2
  have h3:D.p^2≤D.p^D.m:=Nat.pow_le_pow_right (by omega) hm
  unfold q at hq
  omega
 have h9:D.m<9:=by
  refine Classical.byContradiction fun hc=>?_
  have h1:2^9≤D.p^9:=Nat.pow_le_pow_left h2 9
  have h3:D.p^9≤D.p^D.m:=Nat.pow_le_pow_right (by omega) (by omega)
  unfold q at hq
  omega
 exact Ys (aus D.p NQ D.m h9 hp hm hq) (D.xz D.hl D.hs)
theorem acA(hm:D.m=1)(DL:D.low=[0])(hq:D.p≤256)(hp:prB D.p=true):∃x,D.aJ x:=by
 have:=Ys c1 (show D.p<257 by omega)
 unfold aw7 at this
 rw[show(Nat.ble 2 D.p&&isP D.p (D.p-2) 2)=prB D.p from rfl,CN,if_pos hp,←DL] at this
 exact D.Ub this
end FD
end Go.Fld
end
section
namespace Go.Fld
structure Fld(α:Type) where
 zero:α
 one:α
 add:α→α→α
 mul:α→α→α
 neg:α→α
 inv:α→α
 dec:DecidableEq α
 add_comm:∀a b,add a b=add b a
 add_assoc:∀a b c,add (add a b) c=add a (add b c)
 add_zero:∀a,add a zero=a
 add_neg:∀a,add a (neg a)=zero
 mul_comm:∀a b,mul a b=mul b a
 mul_assoc:∀a b c,mul (mul a b) c=mul a (mul b c)
 mul_one:∀a,mul a one=a
 mul_add:∀a b c,mul a (add b c)=add (mul a b) (mul a c)
 uX:∀a,a≠zero→mul a (inv a)=one
 Si:one≠zero
namespace FD
variable(D:FD)
def fi(x:Nat):Nat→Nat→Nat
 |0,_=>0
 |n+1,y=>if D.mul x y=1 then y else fi x n (y+1)
def inv(x:Nat):Nat:=D.fi x (D.q-1) 1
theorem ad4(x:Nat):∀n y,(∃z,y≤z∧z<y+n∧D.mul x z=1)→D.mul x (D.fi x n y)=1∧y≤D.fi x n y∧D.fi x n y<y+n:=by
 intro n
 induction n with
 |zero=>rintro y ⟨z,h1,h2,_⟩;omega
 |succ n ih=>
  rintro y ⟨z,h1,h2,h3⟩
  unfold fi
  by_cases e:D.mul x y=1
  ·rw[if_pos e];exact⟨e,by omega,by omega⟩
  ·rw[if_neg e]
   have hz:z≠y:=fun h=>e (h▸h3)
   obtain⟨a,b,c⟩:=ih (y+1) ⟨z,by omega,by omega,h3⟩
   exact⟨a,by omega,by omega⟩
theorem aou(x:Nat):∀n y,(∀z,y≤z→z<y+n→D.mul x z≠1)→D.fi x n y=0:=by
 intro n
 induction n with
 |zero=>intro y _;rfl
 |succ n ih=>
  intro y h
  unfold fi
  rw[if_neg (h y (by omega) (by omega))]
  exact ih _ fun z h1 h2=>h z (by omega) (by omega)
theorem acB(x:Nat):D.inv x<D.q:=by
 have hq:=D.q1
 by_cases h:∃z,1≤z∧z<1+(D.q-1)∧D.mul x z=1
 ·have:=(D.ad4 x _ _ h).2.2
  unfold inv;omega
 ·unfold inv
  rw[D.aou x _ _ fun z h1 h2 h3=>h ⟨z,h1,h2,h3⟩];omega
variable{D}
theorem Yt{g:Nat}(hg:D.aJ g){i:Nat}(hi:i<D.q-1):D.mul (D.pw g i) (D.pw g ((D.q-1-i)%(D.q-1)))=1:=by
 have h1:=hg.2.1
 by_cases h:i=0
 ·subst h
  rw[Nat.sub_zero,Nat.mod_self]
  exact D.mul_one D.q1
 ·rw[Nat.mod_eq_of_lt (by omega),←yi,show i+(D.q-1-i)=D.q-1 by omega,h1]
theorem uX{g:Nat}(hg:D.aJ g){x:Nat}(h0:x≠0)(hx:x<D.q):D.mul x (D.inv x)=1:=by
 obtain⟨i,hi,rfl⟩:=D.yM hg h0 hx
 refine(D.ad4 _ _ _ ⟨D.pw g ((D.q-1-i)%(D.q-1)),?_,?_,Yt hg hi⟩).1
 ·have:=D.r8 hg ((D.q-1-i)%(D.q-1));omega
 ·have:=D.CT g ((D.q-1-i)%(D.q-1));omega
theorem acC{g:Nat}(hg:D.aJ g){x y:Nat}(hx:x<D.q)(hy:y<D.q)(h:D.mul x y=1):D.inv x=y:=by
 have h0:x≠0:=by
  rintro rfl
  rw[D.mul_comm,D.mul_zero] at h;cases h
 have h1:=uX hg h0 hx
 have:D.mul (D.mul x y) (D.inv x)=D.mul (D.mul x (D.inv x)) y:=by rw[D.mul_assoc,D.mul_comm y,←D.mul_assoc]
 rw[h,h1,D.one_mul (D.acB x),D.one_mul hy] at this
 exact this
def aB{g:Nat}(hg:D.aJ g):Fld (Fin D.q) where
 zero:=⟨0,by have:=D.q1;omega⟩
 one:=⟨1,D.q1⟩
 add a b:=⟨D.add a.1 b.1,D.CR ..⟩
 mul a b:=⟨D.mul a.1 b.1,D.yg ..⟩
 neg a:=⟨D.neg a.1,D.ajw ..⟩
 inv a:=⟨D.inv a.1,D.acB ..⟩
 dec:=inferInstance
 add_comm a b:=Fin.ext (D.add_comm ..)
 add_assoc a b c:=Fin.ext (D.add_assoc ..)
 add_zero a:=Fin.ext (D.add_zero a.2)
 add_neg a:=Fin.ext (D.add_neg ..)
 mul_comm a b:=Fin.ext (D.mul_comm ..)
 mul_assoc a b c:=Fin.ext (D.mul_assoc ..)
 mul_one a:=Fin.ext (D.mul_one a.2)
 mul_add a b c:=Fin.ext (D.mul_add ..)
 uX a h:=Fin.ext (uX hg (fun e=>h (Fin.ext e)) a.2)
 Si e:=by have:=congrArg Fin.val e;cases this
end FD
namespace Fld
variable{α:Type}(F:Fld α)
theorem zero_add(a:α):F.add F.zero a=a:=by rw[F.add_comm,F.add_zero]
theorem one_mul(a:α):F.mul F.one a=a:=by rw[F.mul_comm,F.mul_one]
theorem neg_add(a:α):F.add (F.neg a) a=F.zero:=by rw[F.add_comm,F.add_neg]
theorem add_left_cancel{a b c:α}(h:F.add a b=F.add a c):b=c:=by
 have:=congrArg (F.add (F.neg a)) h
 rwa[←F.add_assoc,←F.add_assoc,F.neg_add,F.zero_add,F.zero_add] at this
theorem mul_zero(a:α):F.mul a F.zero=F.zero:=by
 apply F.add_left_cancel (a:=F.mul a F.zero)
 rw[←F.mul_add,F.add_zero,F.add_zero]
theorem zero_mul(a:α):F.mul F.zero a=F.zero:=by rw[F.mul_comm,F.mul_zero]
theorem add_mul(a b c:α):F.mul (F.add a b) c=F.add (F.mul a c) (F.mul b c):=by rw[F.mul_comm,F.mul_add,F.mul_comm c a,F.mul_comm c b]
theorem vQ{a b:α}(h:F.add a b=F.zero):b=F.neg a:=F.add_left_cancel (h.trans (F.add_neg a).symm)
theorem neg_mul(a b:α):F.mul (F.neg a) b=F.neg (F.mul a b):=F.vQ (by rw[←F.add_mul,F.add_neg,F.zero_mul])
theorem mul_neg(a b:α):F.mul a (F.neg b)=F.neg (F.mul a b):=by rw[F.mul_comm,F.neg_mul,F.mul_comm]
theorem neg_neg(a:α):F.neg (F.neg a)=a:=(F.vQ (F.neg_add a)).symm
theorem neg_zero:F.neg F.zero=F.zero:=(F.vQ (F.add_zero _)).symm
theorem aut{a b:α}(ha:a≠F.zero)(hb:b≠F.zero):F.mul a b≠F.zero:=by
 intro h
 have h1:F.mul (F.mul a b) (F.inv a)=F.mul b (F.mul a (F.inv a)):=by rw[F.mul_comm a b,F.mul_assoc]
 rw[h,F.zero_mul,F.uX a ha,F.mul_one] at h1
 exact hb h1.symm
theorem inv_mul{a:α}(ha:a≠F.zero):F.mul (F.inv a) a=F.one:=by rw[F.mul_comm,F.uX a ha]
theorem U5(a b c d:α):F.add (F.add a b) (F.add c d)=F.add (F.add a c) (F.add b d):=by
 rw[F.add_assoc,F.add_assoc,←F.add_assoc b,F.add_comm b c,F.add_assoc c]
theorem inv_one:F.inv F.one=F.one:=by
 have:=F.uX F.one F.Si
 rwa[F.one_mul] at this
end Fld
end Go.Fld
end
section
namespace Go.Fld
section
variable{p:Nat}[NeZero p]
theorem Pa(n:Nat)(a:Nat→Fin p)(f:Nat→V p):lc (n+1) a f=uW (lc n a f) (fun j=>a n*f n j):=rfl
theorem ajE{n k v:Nat}{c:List Nat}{d:Fin p}(f:Nat→V p)(hk:k<n)(hc:k<c.length)(hv:Fin.ofNat p v=Fin.ofNat p c[k]+d):
 lc n (vec (c.set k v)) f=uW (lc n (vec c) f) (fun j=>d*f k j):=by
 funext j
 unfold lc uW
 have e:∀i,i<n→vec (c.set k v) i*f i j=vec c i*f i j+(if i=k then d*f k j else 0):=by
  intro i _
  unfold vec
  by_cases h:i=k
  ·subst h
   rw[if_pos rfl,List.getD_eq_getElem?_getD,List.getElem?_set_self hc,lk _ hc,Option.getD_some,hv]
   grind
  ·rw[if_neg h,List.getD_eq_getElem?_getD,List.getElem?_set_ne (fun e=>h e.symm),←List.getD_eq_getElem?_getD]
   grind
 rw[eI e,acj]
 congr 1
 rw[ack (k:=k) hk (fun i _ fA=>by rw[if_neg fA]),if_pos rfl]
variable(m:Nat)(low:V p)
def U6(n:Nat)(c:List Nat):V p:=lc n (vec c) (fun k=>tp m low k e0)
theorem azV(hm:0<m):tp m low m e0=lc m (fun j=> -low j) (fun j=>tp m low j e0):=by
 have h1:tp m low m e0=T m low (tp m low (m-1) e0):=by
  conv=>lhs;rw[show m=1+(m-1) by omega,Qm]
  rw[show 1+(m-1)=m by omega];rfl
 rw[h1,adW m low (m-1) (by omega)]
 have hs:XP m (fun j=>if j<m then-low j else 0):=fun j hj=>by dsimp only;rw[if_neg (by omega)]
 have h2:=ajm m low hs
 have h3:lc m (fun j=>if j<m then-low j else 0) (fun i=>tp m low i e0)=lc m (fun j=> -low j) (fun j=>tp m low j e0):=by
  funext k
  unfold lc
  exact eI fun i hi=>by dsimp only;rw[if_pos hi]
 rw[←h3,h2]
 funext j
 unfold T
 dsimp only
 by_cases hj:j<m
 ·rw[if_pos hj,if_pos hj,if_pos rfl]
  by_cases h0:j=0
  ·rw[if_pos h0];grind
  ·rw[if_neg h0,if_neg (by omega)];grind
 ·rw[if_neg hj,if_neg hj]
theorem axb(hm:0<m){i:Nat}(hi:m≤i)(a:Fin p):(fun j=>a*tp m low i e0 j)=lc m (fun j=> -(a*low j)) (fun j=>tp m low (i-m+j) e0):=by
 have h1:tp m low i e0=lc m (fun j=> -low j) (fun j=>tp m low (i-m+j) e0):=by
  conv=>lhs;rw[show i=(i-m)+m by omega,Qm,azV m low hm,ajl]
  congr 1
  funext j
  rw[Qm]
 rw[h1]
 funext k
 unfold lc
 rw[←Ql]
 exact eI fun j _=>by grind
theorem ajF{c:List Nat}(hc:m≤c.length):U6 m low m c=vec (c.take m):=by
 have hs:XP m (vec (p:=p) (c.take m)):=by
  have:=adX (p:=p) (c.take m)
  rwa[List.length_take,Nat.min_eq_left hc] at this
 have:=ajm m low hs
 rw[←this]
 funext k
 unfold U6 lc
 refine eI fun i hi=>?_
 congr 1
 unfold vec
 rw[lk _ (show i<c.length by omega),lk _ (show i<(c.take m).length by simp;omega)]
 simp
end
namespace FD
variable(D:FD)
theorem acD{x y:Nat}{c:List Nat}(hc:D.m≤c.length)(hs:Small D.p c)
 (h:U6 D.m (vec D.low) D.m c=lc D.m (D.ph x) (fun i=>lc D.m (D.ph y) (fun j=>tp D.m (vec D.low) (i+j) e0))):dC D.p (c.take D.m)=D.mul x y:=by
 have hl:(c.take D.m).length=D.m:=by simp;omega
 have hss:Small D.p (c.take D.m):=fun a ha=>hs a (List.mem_of_mem_take ha)
 refine D.ext (D.xz hl hss) (D.yg x y) ?_
 rw[vP,_root_.Go.Fld.mul_comm _ _ (D.CS x) (D.CS y),U0 _ _ (D.CS y)]
 have h1:D.ph (dC D.p (c.take D.m))=vec (c.take D.m):=by unfold ph;rw[D.yf hl hss]
 rw[h1,←ajF _ (vec D.low) hc,h]
 congr 1
 funext i
 congr 1
 funext j
 rw[Nat.add_comm]
end FD
end Go.Fld
end
section
namespace Go.Fld.Fld
variable{α:Type}(F:Fld α)
def bw(v:List α)(a:α)(u:List α):List α:=List.zipWith (fun x y=>F.add x (F.mul a y)) v u
def nB(a:α)(v:List α):List α:=v.map (F.mul a)
theorem bI(v:List α)(a:α)(u:List α)(h:v.length=u.length):(F.bw v a u).length=v.length:=by
 unfold bw;rw[List.length_zipWith];omega
theorem cY(a:α)(v:List α):(F.nB a v).length=v.length:=by simp[nB]
theorem DY(v u:List α)(h:v.length=u.length):F.bw v F.zero u=v:=by
 induction v generalizing u with
 |nil=>rfl
 |cons x v ih=>cases u with
  |nil=>cases h
  |cons y u=>
   show F.add x (F.mul F.zero y)::F.bw v F.zero u=x::v
   rw[F.zero_mul,F.add_zero,ih u (by simpa using h)]
theorem ad5(v:List α):F.nB F.one v=v:=by
 unfold nB
 conv=>rhs;rw[←List.map_id v]
 exact List.map_congr_left fun x _=>F.one_mul x
def jx(rows:List (List α))(k c:Nat):α:=(rows.getD k []).getD c F.zero
def pick(rows:List (List α))(c:Nat):Nat→Nat→Option Nat
 |0,_=>none
 |n+1,k=>match F.dec (F.jx rows k c) F.zero with
  |isTrue _=>pick rows c n (k+1)
  |isFalse _=>some k
def yN(rows:List (List α))(i k:Nat):List (List α):=(rows.set i (rows.getD k [])).set k (rows.getD i [])
def Pb(rows:List (List α))(i c:Nat):List (List α):=rows.mapIdx fun j r=>if j=i then r else F.bw r (F.neg (r.getD c F.zero)) (rows.getD i [])
def norm(rows:List (List α))(i c:Nat):List (List α):=rows.set i (F.nB (F.inv (F.jx rows i c)) (rows.getD i []))
def cW(rows:List (List α))(i k c:Nat):List (List α):=F.Pb (F.norm (yN rows i k) i c) i c
def oe:Nat→Nat→List (List α)→List Nat→List (List α)×List Nat
 |0,_,rows,ps=>(rows,ps)
 |n+1,c,rows,ps=>match F.pick rows c (rows.length-ps.length) ps.length with
  |none=>oe n (c+1) rows ps
  |some k=>oe n (c+1) (F.cW rows ps.length k c) (ps++[c])
def aL(rows:List (List α))(cols:Nat):List (List α)×List Nat:=((F.oe cols 0 rows []).1.take (F.oe cols 0 rows []).2.length,(F.oe cols 0 rows []).2)
theorem vz{rows:List (List α)}{c n k j:Nat}(h:F.pick rows c n k=some j):k≤j∧j<k+n∧F.jx rows j c≠F.zero∧∀i,k≤i→i<j→F.jx rows i c=F.zero:=by
 induction n generalizing k with
 |zero=>cases h
 |succ n ih=>
  unfold pick at h
  split at h
  ·rename_i hz _
   obtain⟨a,b,c',d⟩:=ih h
   refine⟨by omega,by omega,c',fun i h1 h2=>?_⟩
   by_cases e:i=k
   ·subst e;exact hz
   ·exact d i (by omega) h2
  ·rename_i hz _
   cases h
   exact⟨Nat.le_refl _,by omega,hz,fun i h1 h2=>by omega⟩
theorem Uc{rows:List (List α)}{c n k:Nat}(h:F.pick rows c n k=none):∀i,k≤i→i<k+n→F.jx rows i c=F.zero:=by
 induction n generalizing k with
 |zero=>intro i h1 h2;omega
 |succ n ih=>
  unfold pick at h
  split at h
  ·rename_i hz _
   intro i h1 h2
   by_cases e:i=k
   ·subst e;exact hz
   ·exact ih h i (by omega) (by omega)
  ·cases h
theorem jy(rows:List (List α))(i k:Nat):(yN rows i k).length=rows.length:=by simp[yN]
theorem tL(rows:List (List α))(i c:Nat):(F.norm rows i c).length=rows.length:=by simp[norm]
theorem Qt(rows:List (List α))(i c:Nat):(F.Pb rows i c).length=rows.length:=by simp[Pb]
theorem fM(rows:List (List α))(i k c:Nat):(F.cW rows i k c).length=rows.length:=by simp[cW,Qt,tL,jy]
theorem vR(n c:Nat)(rows:List (List α))(ps:List Nat):(F.oe n c rows ps).1.length=rows.length:=by
 induction n generalizing c rows ps with
 |zero=>rfl
 |succ n ih=>
  unfold oe
  split
  ·exact ih ..
  ·rw[ih,fM]
theorem Qu(n c:Nat)(rows:List (List α))(ps:List Nat)(h:rows.length≤ps.length):F.oe n c rows ps=(rows,ps):=by
 induction n generalizing c with
 |zero=>rfl
 |succ n ih=>
  unfold oe
  rw[Nat.sub_eq_zero_of_le h]
  simp only[pick]
  exact ih _
def eG(w:Nat)(rows:List (List α)):Prop:=∀r∈rows,r.length=w
theorem eG.getD{w:Nat}{rows:List (List α)}(h:eG w rows){k:Nat}(hk:k<rows.length):(rows.getD k []).length=w:=by
 rw[List.getD_eq_getElem?_getD,List.getElem?_eq_getElem hk];exact h _ (List.getElem_mem hk)
theorem eG.set{w:Nat}{rows:List (List α)}(h:eG w rows)(i:Nat){r:List α}(hr:r.length=w):eG w (rows.set i r):=by
 intro x hx
 rcases List.mem_or_eq_of_mem_set hx with h1|h1
 ·exact h x h1
 ·rw[h1];exact hr
theorem eG.yN{w:Nat}{rows:List (List α)}(h:eG w rows){i k:Nat}(hi:i<rows.length)(hk:k<rows.length):eG w (yN rows i k):=(h.set i (h.getD hk)).set k (h.getD hi)
theorem eG.norm{w:Nat}{rows:List (List α)}(h:eG w rows){i:Nat}(c:Nat)(hi:i<rows.length):eG w (F.norm rows i c):=h.set i (by rw[cY];exact h.getD hi)
theorem eG.Pb{w:Nat}{rows:List (List α)}(h:eG w rows){i:Nat}(c:Nat)(hi:i<rows.length):eG w (F.Pb rows i c):=by
 intro x hx
 obtain⟨j,hj,rfl⟩:=List.mem_mapIdx.1 hx
 have h1:=h _ (List.getElem_mem hj)
 split
 ·exact h1
 ·rw[F.bI _ _ _ (by rw[h1,h.getD hi]),h1]
theorem eG.step{w:Nat}{rows:List (List α)}(h:eG w rows){i k:Nat}(c:Nat)(hi:i<rows.length)(hk:k<rows.length):eG w (F.cW rows i k c):=by
 have h1:=h.yN hi hk
 have h2:eG w (F.norm (Fld.yN rows i k) i c):=eG.norm F h1 c (by rw[jy];exact hi)
 exact eG.Pb F h2 c (by rw[tL,jy];exact hi)
end Go.Fld.Fld
end
section
namespace Go.Fld.Fld
variable{α:Type}(F:Fld α)
theorem yO{w:Nat}{v u:List α}(a:α)(hv:v.length=w)(hu:u.length=w):(F.bw v a u).length=w:=by rw[F.bI _ _ _ (by omega),hv]
theorem ajG{v u:List α}{a:α}(i:Nat)(h:i<(F.bw v a u).length):(F.bw v a u)[i]=F.add (v[i]'(by unfold bw at h;rw[List.length_zipWith] at h;omega)) (F.mul a (u[i]'(by unfold bw at h;rw[List.length_zipWith] at h;omega))):=by
 simp[bw]
theorem aW{v u:List α}(a:α)(h:v.length=u.length)(c:Nat):(F.bw v a u).getD c F.zero=F.add (v.getD c F.zero) (F.mul a (u.getD c F.zero)):=by
 have hl:=F.bI v a u h
 by_cases hc:c<v.length
 ·rw[List.getD_eq_getElem?_getD,List.getD_eq_getElem?_getD,List.getD_eq_getElem?_getD,List.getElem?_eq_getElem (by omega),List.getElem?_eq_getElem hc,List.getElem?_eq_getElem (by omega)]
  simp only[Option.getD_some]
  exact F.ajG c (by omega)
 ·rw[List.getD_eq_getElem?_getD,List.getD_eq_getElem?_getD,List.getD_eq_getElem?_getD,List.getElem?_eq_none (by omega),List.getElem?_eq_none (by omega),List.getElem?_eq_none (by omega)]
  simp only[Option.getD_none]
  rw[F.mul_zero,F.add_zero]
theorem tM(a:α)(v:List α)(c:Nat):(F.nB a v).getD c F.zero=F.mul a (v.getD c F.zero):=by
 unfold nB
 rw[List.getD_eq_getElem?_getD,List.getD_eq_getElem?_getD,List.getElem?_map]
 cases v[c]? with
 |none=>simp[F.mul_zero]
 |some x=>rfl
theorem eM{v v':List α}(hl:v.length=v'.length)(h:∀c,v.getD c F.zero=v'.getD c F.zero):v=v':=by
 apply List.ext_getElem hl
 intro i h1 h2
 have:=h i
 rw[List.getD_eq_getElem?_getD,List.getD_eq_getElem?_getD,List.getElem?_eq_getElem h1,List.getElem?_eq_getElem h2] at this
 exact this
theorem fC(w c:Nat):(List.replicate w F.zero).getD c F.zero=F.zero:=by
 rw[List.getD_eq_getElem?_getD,List.getElem?_replicate]
 split<;>rfl
inductive Sp (w:Nat) (rows:List (List α)):List α→Prop
 |zero:Sp w rows (List.replicate w F.zero)
 |add {v r:List α} (a:α):Sp w rows v→r∈rows→Sp w rows (F.bw v a r)
variable{w:Nat}{rows kZ:List (List α)}
theorem Sp.len(hw:eG w rows){v:List α}(h:F.Sp w rows v):v.length=w:=by
 induction h with
 |zero=>simp
 |add a _ hr ih=>rw[F.bI _ _ _ (by rw[ih,hw _ hr]),ih]
theorem Sp.bw(hw:eG w rows){u v:List α}(a:α)(hu:F.Sp w rows u)(hv:F.Sp w rows v):F.Sp w rows (F.bw u a v):=by
 have hul:=Sp.len F hw hu
 induction hv with
 |zero=>
  have:F.bw u a (List.replicate w F.zero)=u:=F.eM (F.bI _ _ _ (by simp[hul])) fun c=>by
   rw[F.aW _ (by simp[hul]),F.fC,F.mul_zero,F.add_zero]
  rw[this];exact hu
 |@add v r b hv hr ih=>
  have hvl:=Sp.len F hw hv
  have hrl:=hw _ hr
  have:F.bw u a (F.bw v b r)=F.bw (F.bw u a v) (F.mul a b) r:=by
   have l1:(F.bw v b r).length=w:=by rw[F.bI _ _ _ (by omega),hvl]
   have l2:(F.bw u a v).length=w:=by rw[F.bI _ _ _ (by omega),hul]
   refine F.eM (by rw[F.bI _ _ _ (by omega),F.bI _ _ _ (by omega)];omega) fun c=>?_
   rw[F.aW _ (by omega),F.aW _ (by omega),F.aW _ (by omega),F.aW _ (by omega),F.mul_add,←F.mul_assoc,F.add_assoc]
  rw[this]
  exact ih.add _ hr
theorem Sp.mem(hw:eG w rows){r:List α}(hr:r∈rows):F.Sp w rows r:=by
 have hl:=hw _ hr
 have:F.bw (List.replicate w F.zero) F.one r=r:=by
  refine F.eM (by rw[F.bI _ _ _ (by simp[hl])];simp[hl]) fun c=>?_
  rw[F.aW _ (by simp[hl]),F.fC,F.zero_add,F.one_mul]
 rw[←this]
 exact Sp.zero.add _ hr
theorem Sp.mono(hw':eG w kZ)(h:∀r∈rows,F.Sp w kZ r){v:List α}(hv:F.Sp w rows v):F.Sp w kZ v:=by
 induction hv with
 |zero=>exact .zero
 |add a _ hr ih=>exact Sp.bw F hw' a ih (h _ hr)
theorem Sp.at0(hw:eG w rows){c:Nat}(h:∀r∈rows,r.getD c F.zero=F.zero){v:List α}(hv:F.Sp w rows v):v.getD c F.zero=F.zero:=by
 induction hv with
 |zero=>exact F.fC ..
 |add a h1 hr ih=>rw[F.aW _ (by rw[Sp.len F hw h1,hw _ hr]),ih,h _ hr,F.mul_zero,F.add_zero]
theorem Sp.split(hw:eG w rows){p v:List α}(hp:p.length=w)(hv:F.Sp w (p::rows) v):∃u a,F.Sp w rows u∧v=F.bw u a p:=by
 induction hv with
 |zero=>
  refine⟨_,F.zero,.zero,?_⟩
  rw[F.DY _ _ (by simp[hp])]
 |@add v r b hv hr ih=>
  obtain⟨u,a,h1,rfl⟩:=ih
  have hul:=Sp.len F hw h1
  rcases List.mem_cons.1 hr with rfl|hr
  ·refine⟨u,F.add a b,h1,?_⟩
   have l1:(F.bw u a r).length=w:=by rw[F.bI _ _ _ (by omega),hul]
   refine F.eM ((F.yO _ l1 hp).trans (F.yO _ hul hp).symm) fun c=>?_
   rw[F.aW _ (by omega),F.aW _ (by omega),F.aW _ (by omega),F.add_mul,F.add_assoc]
  ·have hrl:=hw _ hr
   refine⟨F.bw u b r,a,h1.add _ hr,?_⟩
   have l1:(F.bw u a p).length=w:=by rw[F.bI _ _ _ (by omega),hul]
   have l2:(F.bw u b r).length=w:=by rw[F.bI _ _ _ (by omega),hul]
   refine F.eM ((F.yO _ l1 hrl).trans (F.yO _ l2 hp).symm) fun c=>?_
   rw[F.aW _ (by omega),F.aW _ (by omega),F.aW _ (by omega),F.aW _ (by omega),F.add_assoc,F.add_assoc,F.add_comm (F.mul a _)]
theorem Sp.elim(hw:eG w rows)(hw':eG w kZ){p:List α}{c:Nat}(hp:F.Sp w rows p)(hc:p.getD c F.zero≠F.zero)(h1:∀r∈kZ,F.Sp w rows r∧r.getD c F.zero=F.zero)(h2:∀r∈rows,F.Sp w (p::kZ) r)(v:List α):
 F.Sp w kZ v↔F.Sp w rows v∧v.getD c F.zero=F.zero:=by
 have H6:=Sp.len F hw hp
 have hwp:eG w (p::kZ):=fun r hr=>by
  rcases List.mem_cons.1 hr with rfl|hr
  ·exact H6
  ·exact hw' r hr
 constructor
 ·intro h
  exact⟨Sp.mono F hw (fun r hr=>(h1 r hr).1) h,Sp.at0 F hw' (fun r hr=>(h1 r hr).2) h⟩
 ·rintro⟨h,h0⟩
  obtain⟨u,a,g1,rfl⟩:=Sp.split F hw' H6 (Sp.mono F hwp h2 h)
  have hul:=Sp.len F hw' g1
  rw[F.aW _ (by omega),Sp.at0 F hw' (fun r hr=>(h1 r hr).2) g1,F.zero_add] at h0
  have ha:a=F.zero:=by
   cases F.dec a F.zero with
   |isTrue e=>exact e
   |isFalse e=>exact absurd h0 (F.aut e hc)
  rw[ha,F.DY _ _ (by omega)]
  exact g1
def nz(x:α):Bool:=match F.dec x F.zero with
 |isTrue _=>false
 |isFalse _=>true
theorem K4(x:α):F.nz x=true↔x≠F.zero:=by
 unfold nz
 cases F.dec x F.zero with
 |isTrue e=>simp[e]
 |isFalse e=>simp[e]
def wo(rows:List (List α))(i:Nat):List (List α):=
 if h:rows.findIdx (fun r=>F.nz (r.getD i F.zero))<rows.length then
  (rows.eraseIdx (rows.findIdx (fun r=>F.nz (r.getD i F.zero)))).map fun r=>F.bw r (F.neg (F.mul (r.getD i F.zero) (F.inv ((rows[rows.findIdx (fun r=>F.nz (r.getD i F.zero))]).getD i F.zero)))) rows[rows.findIdx (fun r=>F.nz (r.getD i F.zero))]
 else rows
theorem ad6{i:Nat}(h:∀r∈rows,r.getD i F.zero=F.zero):F.wo rows i=rows:=by
 unfold wo
 rw[dif_neg]
 intro hlt
 exact(F.K4 _).1 (List.findIdx_getElem (w:=hlt)) (h _ (List.getElem_mem _))
theorem ad7{i:Nat}{r0:List α}(h0:r0∈rows)(h1:r0.getD i F.zero≠F.zero):∃(k:Nat) (hk:k<rows.length),(rows[k]).getD i F.zero≠F.zero∧
 F.wo rows i=(rows.eraseIdx k).map fun r=>F.bw r (F.neg (F.mul (r.getD i F.zero) (F.inv ((rows[k]).getD i F.zero)))) rows[k]:=by
 have hlt:rows.findIdx (fun r=>F.nz (r.getD i F.zero))<rows.length:=List.findIdx_lt_length_of_exists ⟨r0,h0,(F.K4 _).2 h1⟩
 refine⟨_,hlt,(F.K4 _).1 (List.findIdx_getElem (w:=hlt)),?_⟩
 unfold wo
 rw[dif_pos hlt]
theorem yj(hw:eG w rows)(i:Nat):eG w (F.wo rows i):=by
 unfold wo
 split
 ·intro r hr
  obtain⟨r',hr',rfl⟩:=List.mem_map.1 hr
  have:=hw _ (List.mem_of_mem_eraseIdx hr')
  rw[F.bI _ _ _ (by rw[this,hw _ (List.getElem_mem _)]),this]
 ·exact hw
theorem Mp(hw:eG w rows)(i:Nat)(v:List α):F.Sp w (F.wo rows i) v↔F.Sp w rows v∧v.getD i F.zero=F.zero:=by
 by_cases h:∀r∈rows,r.getD i F.zero=F.zero
 ·rw[F.ad6 h]
  exact⟨fun hv=>⟨hv,Sp.at0 F hw h hv⟩,fun hv=>hv.1⟩
 ·obtain⟨r0,hr0⟩:=Classical.not_forall.1 h
  obtain⟨h0,h1⟩:=Classical.not_imp.1 hr0
  have hww:=F.yj hw i
  obtain⟨k,hk,hz,e⟩:=F.ad7 h0 h1
  rw[e] at hww ⊢
  have H6:=hw _ (List.getElem_mem hk)
  refine Sp.elim F hw hww (Sp.mem F hw (List.getElem_mem hk)) hz ?_ ?_ v
  ·intro r hr
   obtain⟨r',hr',rfl⟩:=List.mem_map.1 hr
   have hrm:=List.mem_of_mem_eraseIdx hr'
   have hrl:=hw _ hrm
   refine⟨Sp.bw F hw _ (Sp.mem F hw hrm) (Sp.mem F hw (List.getElem_mem hk)),?_⟩
   rw[F.aW _ (by omega),F.neg_mul,F.mul_assoc,F.inv_mul hz,F.mul_one,F.add_neg]
  ·intro r hr
   have hwp:eG w (rows[k]::(rows.eraseIdx k).map fun r=>F.bw r (F.neg (F.mul (r.getD i F.zero) (F.inv ((rows[k]).getD i F.zero)))) rows[k]):=fun r hr=>by
    rcases List.mem_cons.1 hr with rfl|hr
    ·exact H6
    ·exact hww r hr
   obtain⟨j,hj,rfl⟩:=List.getElem_of_mem hr
   by_cases ejk:j=k
   ·subst ejk
    exact Sp.mem F hwp (List.mem_cons_self ..)
   ·have hjm:rows[j]∈rows.eraseIdx k:=by
     rw[List.mem_eraseIdx_iff_getElem]
     exact⟨j,hj,ejk,rfl⟩
    have XO:=hw _ (List.getElem_mem hj)
    have m1:=Sp.mem F hwp (List.mem_cons_of_mem _ (List.mem_map_of_mem (f:=fun r=>F.bw r (F.neg (F.mul (r.getD i F.zero) (F.inv ((rows[k]).getD i F.zero)))) rows[k]) hjm))
    have m2:=Sp.bw F hwp (F.mul (rows[j].getD i F.zero) (F.inv ((rows[k]).getD i F.zero))) m1 (Sp.mem F hwp (List.mem_cons_self ..))
    have:F.bw (F.bw rows[j] (F.neg (F.mul (rows[j].getD i F.zero) (F.inv ((rows[k]).getD i F.zero)))) rows[k]) (F.mul (rows[j].getD i F.zero) (F.inv ((rows[k]).getD i F.zero))) rows[k]=rows[j]:=by
     have l1:=F.bI rows[j] (F.neg (F.mul (rows[j].getD i F.zero) (F.inv ((rows[k]).getD i F.zero)))) rows[k] (by omega)
     refine F.eM (by rw[F.bI _ _ _ (by omega),l1]) fun c=>?_
     rw[F.aW _ (by omega),F.aW _ (by omega),F.add_assoc,←F.add_mul,F.neg_add,F.zero_mul,F.add_zero]
    rw[this] at m2
    exact m2
theorem CU(hw:eG w rows){i:Nat}(h:¬∃v,F.Sp w rows v∧v.getD i F.zero≠F.zero):(F.wo rows i).length=rows.length:=by
 rw[F.ad6]
 intro r hr
 cases F.dec (r.getD i F.zero) F.zero with
 |isTrue e=>exact e
 |isFalse e=>exact absurd ⟨r,Sp.mem F hw hr,e⟩ h
theorem tN(hw:eG w rows){i:Nat}(h:∃v,F.Sp w rows v∧v.getD i F.zero≠F.zero):(F.wo rows i).length+1=rows.length:=by
 obtain⟨v,h1,h2⟩:=h
 have:∃r0∈rows,r0.getD i F.zero≠F.zero:=by
  refine Classical.byContradiction fun hn=>h2 (Sp.at0 F hw (fun r hr=>?_) h1)
  cases F.dec (r.getD i F.zero) F.zero with
  |isTrue e=>exact e
  |isFalse e=>exact absurd ⟨r,hr,e⟩ hn
 obtain⟨r0,h0,h3⟩:=this
 obtain⟨k,hk,hz,e⟩:=F.ad7 h0 h3
 rw[e,List.length_map,List.length_eraseIdx_of_lt hk]
 omega
end Go.Fld.Fld
end
section
namespace Go.Fld.Fld
variable{α:Type}(F:Fld α){w:Nat}{rows:List (List α)}
theorem acE{a k c j:Nat}(ha:a<rows.length)(hak:a≤k)(hk:k<rows.length)(haj:a<j)(hj:j<rows.length):
 (F.cW rows a k c)[j]?=some (F.bw (if j=k then rows[a] else rows[j]) (F.neg ((if j=k then rows[a] else rows[j]).getD c F.zero)) (F.nB (F.inv ((rows[k]).getD c F.zero)) rows[k])):=by
 have FV:(yN rows a k).length=rows.length:=jy ..
 have gk:rows.getD k []=rows[k]:=by rw[List.getD_eq_getElem?_getD,List.getElem?_eq_getElem hk];rfl
 have ga:rows.getD a []=rows[a]:=by rw[List.getD_eq_getElem?_getD,List.getElem?_eq_getElem ha];rfl
 have sa:(yN rows a k).getD a []=rows[k]:=by
  unfold yN
  rw[gk,ga,List.getD_eq_getElem?_getD]
  by_cases e:k=a
  ·subst e
   rw[List.set_set,List.getElem?_set_self hk];rfl
  ·rw[List.getElem?_set_ne e,List.getElem?_set_self ha];rfl
 have sj:(yN rows a k)[j]?=some (if j=k then rows[a] else rows[j]):=by
  unfold yN
  rw[gk,ga]
  by_cases e:j=k
  ·subst e
   rw[List.getElem?_set_self (by simpa using hj),if_pos rfl]
  ·rw[List.getElem?_set_ne (fun h=>e h.symm),List.getElem?_set_ne (by omega),List.getElem?_eq_getElem hj,if_neg e]
 have na:(F.norm (yN rows a k) a c).getD a []=F.nB (F.inv ((rows[k]).getD c F.zero)) rows[k]:=by
  unfold norm jx
  rw[sa,List.getD_eq_getElem?_getD,List.getElem?_set_self (by omega)];rfl
 have nj:(F.norm (yN rows a k) a c)[j]?=some (if j=k then rows[a] else rows[j]):=by
  unfold norm
  rw[List.getElem?_set_ne (by omega),sj]
 unfold cW Pb
 rw[List.getElem?_mapIdx,nj,Option.map_some,if_neg (by omega),na]
theorem IE{k c:Nat}(hk:k<rows.length):F.jx rows k c=(rows[k]).getD c F.zero:=by
 unfold jx
 congr 1
 rw[List.getD_eq_getElem?_getD,List.getElem?_eq_getElem hk];rfl
theorem agK(hw:eG w rows){a k c:Nat}(ha:a<rows.length)(hak:a≤k)(hk:k<rows.length)(hz:F.jx rows k c≠F.zero)(v:List α):
 F.Sp w ((F.cW rows a k c).drop (a+1)) v↔F.Sp w (rows.drop a) v∧v.getD c F.zero=F.zero:=by
 have hl:=F.fM rows a k c
 rw[F.IE hk] at hz
 have hwd:eG w (rows.drop a):=fun r hr=>hw _ (List.mem_of_mem_drop hr)
 have hws:eG w (F.cW rows a k c):=eG.step F hw c ha hk
 have hwn:eG w ((F.cW rows a k c).drop (a+1)):=fun r hr=>hws _ (List.mem_of_mem_drop hr)
 have hkl:=hw _ (List.getElem_mem hk)
 have md:∀{j} (hj:j<rows.length),a≤j→rows[j]∈rows.drop a:=by
  intro j hj haj
  have:rows[j]=(rows.drop a)[j-a]'(by simp;omega):=by
   rw[List.getElem_drop];congr 1;omega
  rw[this];exact List.getElem_mem _
 have hpS:F.Sp w (rows.drop a) (F.nB (F.inv ((rows[k]).getD c F.zero)) rows[k]):=by
  have:F.nB (F.inv ((rows[k]).getD c F.zero)) rows[k]=F.bw (List.replicate w F.zero) (F.inv ((rows[k]).getD c F.zero)) rows[k]:=by
   refine F.eM (by rw[F.cY,F.yO _ (by simp) hkl,hkl]) fun i=>?_
   rw[F.tM,F.aW _ (by simp[hkl]),F.fC,F.zero_add]
  rw[this]
  exact Sp.zero.add _ (md hk hak)
 have H6:(F.nB (F.inv ((rows[k]).getD c F.zero)) rows[k]).length=w:=by rw[F.cY,hkl]
 have hpc:(F.nB (F.inv ((rows[k]).getD c F.zero)) rows[k]).getD c F.zero=F.one:=by rw[F.tM,F.inv_mul hz]
 generalize hp:F.nB (F.inv ((rows[k]).getD c F.zero)) rows[k]=p at hpS H6 hpc
 have get:∀{j} (haj:a<j) (hj:j<rows.length),(F.cW rows a k c)[j]'(by omega)=F.bw (if j=k then rows[a] else rows[j]) (F.neg ((if j=k then rows[a] else rows[j]).getD c F.zero)) p:=by
  intro j haj hj
  have:=F.acE (c:=c) ha hak hk haj hj
  rw[hp] at this
  rw[List.getElem?_eq_getElem (by omega)] at this
  exact Option.some.inj this
 refine Sp.elim F hwd hwn (p:=p) (c:=c) hpS (by rw[hpc];exact F.Si) ?_ ?_ v
 ·intro r hr
  obtain⟨j,hj,rfl⟩:=List.getElem_of_mem hr
  rw[List.length_drop] at hj
  have UI:(if a+1+j=k then rows[a] else rows[a+1+j]'(by omega))∈rows.drop a:=by
   split
   ·exact md ha (Nat.le_refl _)
   ·exact md (by omega) (by omega)
  have FV:=hwd _ UI
  rw[List.getElem_drop,get (by omega) (by omega)]
  refine⟨Sp.bw F hwd _ (Sp.mem F hwd UI) hpS,?_⟩
  rw[F.aW _ (by rw[FV,H6]),hpc,F.mul_one,F.add_neg]
 ·intro r hr
  obtain⟨i,hi,rfl⟩:=List.getElem_of_mem hr
  rw[List.length_drop] at hi
  rw[List.getElem_drop]
  have hwp:eG w (p::(F.cW rows a k c).drop (a+1)):=fun r hr=>by
   rcases List.mem_cons.1 hr with rfl|hr
   ·exact H6
   ·exact hwn r hr
  have pk:F.Sp w (p::(F.cW rows a k c).drop (a+1)) rows[k]:=by
   have:rows[k]=F.bw (List.replicate w F.zero) ((rows[k]).getD c F.zero) p:=by
    refine F.eM (by rw[F.yO _ (by simp) H6,hkl]) fun i=>?_
    rw[F.aW _ (by simp[H6]),F.fC,F.zero_add,←hp,F.tM,←F.mul_assoc,F.uX _ hz,F.one_mul]
   rw[this]
   exact Sp.zero.add _ (List.mem_cons_self ..)
  have oth:∀{j} (haj:a<j) (hj:j<rows.length),F.Sp w (p::(F.cW rows a k c).drop (a+1)) (if j=k then rows[a] else rows[j]):=by
   intro j haj hj
   have FV:(if j=k then rows[a] else rows[j]).length=w:=by
    split
    ·exact hw _ (List.getElem_mem _)
    ·exact hw _ (List.getElem_mem _)
   have hm:(F.cW rows a k c)[j]'(by omega)∈p::(F.cW rows a k c).drop (a+1):=by
    refine List.mem_cons_of_mem _ ?_
    have:(F.cW rows a k c)[j]'(by omega)=((F.cW rows a k c).drop (a+1))[j-(a+1)]'(by rw[List.length_drop];omega):=by
     rw[List.getElem_drop];congr 1;omega
    rw[this];exact List.getElem_mem _
   have m2:=Sp.bw F hwp ((if j=k then rows[a] else rows[j]).getD c F.zero) (Sp.mem F hwp hm) (Sp.mem F hwp (List.mem_cons_self ..))
   rw[get haj hj] at m2
   have l1:=F.yO (F.neg ((if j=k then rows[a] else rows[j]).getD c F.zero)) FV H6
   have:F.bw (F.bw (if j=k then rows[a] else rows[j]) (F.neg ((if j=k then rows[a] else rows[j]).getD c F.zero)) p) ((if j=k then rows[a] else rows[j]).getD c F.zero) p=(if j=k then rows[a] else rows[j]):=by
    refine F.eM (by rw[F.yO _ l1 H6,FV]) fun i=>?_
    rw[F.aW _ (by rw[l1,H6]),F.aW _ (by rw[FV,H6]),F.add_assoc,←F.add_mul,F.neg_add,F.zero_mul,F.add_zero]
   rw[this] at m2
   exact m2
  by_cases e1:a+i=k
  ·have:rows[a+i]=rows[k]:=by congr 1
   rw[this];exact pk
  ·by_cases e2:i=0
   ·subst e2
    have:=oth (j:=k) (by omega) hk
    rw[if_pos rfl] at this
    exact this
   ·have:=oth (j:=a+i) (by omega) (by omega)
    rw[if_neg e1] at this
    exact this
def ua(os:List Nat)(v:List α):List α:=os.map fun o=>v.getD o F.zero
theorem ow{os:List Nat}{v:List α}{j:Nat}(hj:j<os.length):(F.ua os v).getD j F.zero=v.getD os[j] F.zero:=by
 unfold ua
 rw[List.getD_eq_getElem?_getD,List.getElem?_map,List.getElem?_eq_getElem hj];rfl
theorem Yu{os:List Nat}{v u:List α}(a:α)(h:v.length=u.length):F.ua os (F.bw v a u)=F.bw (F.ua os v) a (F.ua os u):=by
 refine F.eM (by rw[F.yO (w:=os.length) _ (by simp[ua]) (by simp[ua])];simp[ua]) fun c=>?_
 rw[F.aW _ (by simp[ua])]
 by_cases hc:c<os.length
 ·rw[F.ow hc,F.ow hc,F.ow hc,F.aW _ h]
 ·have h0:∀v:List α,(F.ua os v).getD c F.zero=F.zero:=fun v=>by
   rw[List.getD_eq_getElem?_getD,List.getElem?_eq_none (by simp[ua];omega)];rfl
  rw[h0,h0,h0,F.mul_zero,F.add_zero]
theorem ajH{os:List Nat}(hw:eG w rows)(v':List α):F.Sp os.length (rows.map (F.ua os)) v'↔∃v,F.Sp w rows v∧v'=F.ua os v:=by
 have hwm:eG os.length (rows.map (F.ua os)):=fun r hr=>by
  obtain⟨r',_,rfl⟩:=List.mem_map.1 hr
  simp[ua]
 constructor
 ·intro h
  induction h with
  |zero=>
   refine⟨_,.zero,F.eM (by simp[ua]) fun c=>?_⟩
   rw[F.fC]
   by_cases hc:c<os.length
   ·rw[F.ow hc,F.fC]
   ·rw[List.getD_eq_getElem?_getD,List.getElem?_eq_none (by simp[ua];omega)];rfl
  |add a _ hr ih=>
   obtain⟨v,h1,rfl⟩:=ih
   obtain⟨r,h2,rfl⟩:=List.mem_map.1 hr
   exact⟨_,h1.add a h2,(F.Yu a (by rw[Sp.len F hw h1,hw _ h2])).symm⟩
 ·rintro⟨v,h,rfl⟩
  induction h with
  |zero=>
   have:F.ua os (List.replicate w F.zero)=List.replicate os.length F.zero:=F.eM (by simp[ua]) fun c=>by
    rw[F.fC]
    by_cases hc:c<os.length
    ·rw[F.ow hc,F.fC]
    ·rw[List.getD_eq_getElem?_getD,List.getElem?_eq_none (by simp[ua];omega)];rfl
   rw[this];exact .zero
  |add a h1 hr ih=>
   rw[F.Yu a (by rw[Sp.len F hw h1,hw _ hr])]
   exact ih.add a (List.mem_map_of_mem hr)
theorem auu(os:List Nat):∀(n c:Nat) (G:List (List α)) (ps:List Nat) (W:List (List α)),c+n=os.length→eG os.length G→eG w W→ps.length≤G.length→
 (∀v',F.Sp os.length (G.drop ps.length) v'↔∃v,F.Sp w W v∧v'=F.ua os v)→W.length+ps.length=G.length→
 ((os.drop c).foldl F.wo W).length+(F.oe n c G ps).2.length=G.length:=by
 intro n
 induction n with
 |zero=>
  intro c G ps W hc hG hW hp hs hl
  rw[List.drop_eq_nil_of_le (by omega)]
  exact hl
 |succ n ih=>
  intro c G ps W hc hG hW hp hs hl
  have hco:c<os.length:=by omega
  rw[List.drop_eq_getElem_cons hco,List.foldl_cons]
  have hwd:eG os.length (G.drop ps.length):=fun r hr=>hG _ (List.mem_of_mem_drop hr)
  have hww:=F.yj hW os[c]
  have hsw:=F.Mp hW os[c]
  cases hpk:F.pick G c (G.length-ps.length) ps.length with
  |none=>
   have hgj:F.oe (n+1) c G ps=F.oe n (c+1) G ps:=by conv=>lhs;unfold oe;rw[hpk]
   rw[hgj]
   have hz:=F.Uc hpk
   have h0:∀v',F.Sp os.length (G.drop ps.length) v'→v'.getD c F.zero=F.zero:=by
    intro v' XY
    refine Sp.at0 F hwd (fun r hr=>?_) XY
    obtain⟨i,hi,rfl⟩:=List.getElem_of_mem hr
    rw[List.length_drop] at hi
    rw[List.getElem_drop]
    have:=hz (ps.length+i) (by omega) (by omega)
    rwa[F.IE (by omega)] at this
   have hn:¬∃v,F.Sp w W v∧v.getD os[c] F.zero≠F.zero:=by
    rintro⟨v,h1,h2⟩
    have:=h0 _ ((hs _).2 ⟨v,h1,rfl⟩)
    rw[F.ow hco] at this
    exact h2 this
   have hlw:=F.CU hW hn
   refine ih (c+1) G ps (F.wo W os[c]) (by omega) hG hww hp ?_ (by omega)
   intro v'
   rw[hs]
   constructor
   ·rintro⟨v,h1,h2⟩
    refine⟨v,(hsw v).2 ⟨h1,?_⟩,h2⟩
    cases F.dec (v.getD os[c] F.zero) F.zero with
    |isTrue e=>exact e
    |isFalse e=>exact absurd ⟨v,h1,e⟩ hn
   ·rintro⟨v,h1,h2⟩
    exact⟨v,((hsw v).1 h1).1,h2⟩
  |some k=>
   obtain⟨p1,p2,p3,_⟩:=F.vz hpk
   have hk:k<G.length:=by omega
   have ha:ps.length<G.length:=by omega
   have hgj:F.oe (n+1) c G ps=F.oe n (c+1) (F.cW G ps.length k c) (ps++[c]):=by conv=>lhs;unfold oe;rw[hpk]
   rw[hgj]
   have hst:=F.agK hG ha p1 hk p3
   have FV:=F.fM G ps.length k c
   have hex:∃v,F.Sp w W v∧v.getD os[c] F.zero≠F.zero:=by
    have hm:G[k]∈G.drop ps.length:=by
     have:G[k]=(G.drop ps.length)[k-ps.length]'(by simp;omega):=by rw[List.getElem_drop];congr 1;omega
     rw[this];exact List.getElem_mem _
    obtain⟨v,h1,h2⟩:=(hs _).1 (Sp.mem F hwd hm)
    refine⟨v,h1,fun e=>p3 ?_⟩
    rw[F.IE hk,h2,F.ow hco,e]
   have hlw:=F.tN hW hex
   have hc1:(ps++[c]).length=ps.length+1:=by simp
   have:=ih (c+1) (F.cW G ps.length k c) (ps++[c]) (F.wo W os[c]) (by omega) (eG.step F hG c ha hk) hww (by omega) ?_ (by omega)
   ·omega
   ·intro v'
    rw[hc1,hst]
    constructor
    ·rintro⟨h1,h2⟩
     obtain⟨v,h3,rfl⟩:=(hs _).1 h1
     rw[F.ow hco] at h2
     exact⟨v,(hsw v).2 ⟨h3,h2⟩,rfl⟩
    ·rintro⟨v,h1,rfl⟩
     obtain⟨h2,h3⟩:=(hsw v).1 h1
     exact⟨(hs _).2 ⟨v,h2,rfl⟩,by rw[F.ow hco,h3]⟩
theorem ad8(hw:eG w rows)(os:List Nat):(os.foldl F.wo rows).length+(F.aL (rows.map (F.ua os)) os.length).2.length=rows.length:=by
 have:=F.auu (w:=w) os os.length 0 (rows.map (F.ua os)) [] rows (by omega) (fun r hr=>by
  obtain⟨r',_,rfl⟩:=List.mem_map.1 hr
  simp[ua]) hw (Nat.zero_le _) (F.ajH hw) (by simp)
 rw[List.drop_zero,List.length_map] at this
 exact this
end Go.Fld.Fld
end
section
namespace Go.Fld.Fld
variable{α:Type}(F:Fld α){w:Nat}
def sg:Nat→(Nat→α)→α
 |0,_=>F.zero
 |n+1,f=>F.add (sg n f) (f n)
theorem IF(n:Nat)(f:Nat→α):F.sg (n+1) f=F.add (F.sg n f) (f n):=rfl
theorem kG{n:Nat}{f g:Nat→α}(h:∀i,i<n→f i=g i):F.sg n f=F.sg n g:=by
 induction n with
 |zero=>rfl
 |succ n ih=>show F.add _ _=F.add _ _;rw[ih fun i hi=>h i (by omega),h n (by omega)]
theorem oy{n:Nat}{f:Nat→α}(h:∀i,i<n→f i=F.zero):F.sg n f=F.zero:=by
 induction n with
 |zero=>rfl
 |succ n ih=>show F.add _ _=_;rw[ih fun i hi=>h i (by omega),h n (by omega),F.add_zero]
theorem Qv(n:Nat)(f g:Nat→α):F.sg n (fun i=>F.add (f i) (g i))=F.add (F.sg n f) (F.sg n g):=by
 induction n with
 |zero=>exact(F.add_zero _).symm
 |succ n ih=>show F.add _ _=F.add (F.add _ _) (F.add _ _);rw[ih,F.U5]
theorem Qw(n:Nat)(a:α)(f:Nat→α):F.sg n (fun i=>F.mul a (f i))=F.mul a (F.sg n f):=by
 induction n with
 |zero=>exact(F.mul_zero _).symm
 |succ n ih=>show F.add _ _=F.mul a (F.add _ _);rw[ih,F.mul_add]
theorem ll{n k:Nat}{f:Nat→α}(hk:k<n)(h:∀i,i<n→i≠k→f i=F.zero):F.sg n f=f k:=by
 induction n with
 |zero=>omega
 |succ n ih=>
  show F.add _ _=_
  by_cases e:k=n
  ·subst e
   rw[F.oy fun i hi=>h i (by omega) (by omega),F.zero_add]
  ·rw[ih (by omega) fun i hi fA=>h i (by omega) fA,h n (by omega) (by omega),F.add_zero]
theorem aov(n m:Nat)(f:Nat→Nat→α):F.sg n (fun i=>F.sg m (fun j=>f i j))=F.sg m (fun j=>F.sg n (fun i=>f i j)):=by
 induction n with
 |zero=>exact(F.oy fun _ _=>rfl).symm
 |succ n ih=>show F.add _ _=_;rw[ih,←F.Qv];rfl
structure Can(w:Nat)(R:List (List α))(ps:List Nat):Prop where
 wid:eG w R
 len:ps.length=R.length
 inc:∀i j,i<j→j<ps.length→ps.getD i 0<ps.getD j 0
 lt:∀i,i<ps.length→ps.getD i 0<w
 lead:∀i,i<R.length→∀c,c<ps.getD i 0→F.jx R i c=F.zero
 one:∀i j,i<R.length→j<R.length→F.jx R i (ps.getD j 0)=if i=j then F.one else F.zero
variable{F}{R R' rows:List (List α)}{ps ps':List Nat}
theorem jV(k c:Nat):(R.getD k []).getD c F.zero=F.jx R k c:=rfl
theorem je{k:Nat}(hk:k<R.length):R.getD k []∈R:=by
 rw[List.getD_eq_getElem?_getD,List.getElem?_eq_getElem hk];exact List.getElem_mem hk
theorem Qx{r:List α}(h:r∈R):∃k,k<R.length∧r=R.getD k []:=by
 obtain⟨k,hk,e⟩:=List.getElem_of_mem h
 exact⟨k,hk,by rw[List.getD_eq_getElem?_getD,List.getElem?_eq_getElem hk];exact e.symm⟩
theorem Can.word(h:F.Can w R ps){v:List α}(hv:F.Sp w R v)(c:Nat):v.getD c F.zero=F.sg R.length fun i=>F.mul (v.getD (ps.getD i 0) F.zero) (F.jx R i c):=by
 induction hv with
 |zero=>rw[F.fC,F.oy];intro i _;rw[F.fC,F.zero_mul]
 |@add v r a hv hr ih=>
  obtain⟨k,hk,rfl⟩:=Qx hr
  have hl:v.length=(R.getD k []).length:=by rw[Sp.len F h.wid hv,h.wid _ hr]
  rw[F.aW _ hl,ih]
  have e:∀i,i<R.length→F.mul ((F.bw v a (R.getD k [])).getD (ps.getD i 0) F.zero) (F.jx R i c)=F.add (F.mul (v.getD (ps.getD i 0) F.zero) (F.jx R i c)) (F.mul a (F.mul (F.jx R k (ps.getD i 0)) (F.jx R i c))):=by
   intro i _
   rw[F.aW _ hl,F.add_mul,F.mul_assoc,jV]
  rw[F.kG e,F.Qv,F.Qw,F.ll (k:=k) (f:=fun i=>F.mul (F.jx R k (ps.getD i 0)) (F.jx R i c)) hk]
  ·rw[h.one k k hk hk,if_pos rfl,F.one_mul,jV]
  ·intro i hi fA
   rw[h.one k i hk hi,if_neg (fun e=>fA e.symm),F.zero_mul]
theorem Can.eq(h:F.Can w R ps){u v:List α}(hu:F.Sp w R u)(hv:F.Sp w R v)(e:∀i,i<R.length→u.getD (ps.getD i 0) F.zero=v.getD (ps.getD i 0) F.zero):u=v:=by
 refine F.eM (by rw[Sp.len F h.wid hu,Sp.len F h.wid hv]) fun c=>?_
 rw[h.word hu c,h.word hv c]
 exact F.kG fun i hi=>by rw[e i hi]
theorem Sp.comb(hw:eG w R)(a:Nat→α):∀n,n≤R.length→∃v,F.Sp w R v∧∀c,v.getD c F.zero=F.sg n fun i=>F.mul (a i) (F.jx R i c)
 |0,_=>⟨_,.zero,fun c=>F.fC ..⟩
 |n+1,hn=>by
  obtain⟨v,h1,h2⟩:=Sp.comb hw a n (by omega)
  have hm:=je (R:=R) (k:=n) (by omega)
  refine⟨_,h1.add (a n) hm,fun c=>?_⟩
  rw[F.aW _ (by rw[Sp.len F hw h1,hw _ hm]),h2 c];rfl
theorem Can.aow(h:F.Can w R ps){v:List α}(hl:v.length=w)(e:∀c,v.getD c F.zero=F.sg R.length fun i=>F.mul (v.getD (ps.getD i 0) F.zero) (F.jx R i c)):F.Sp w R v:=by
 obtain⟨u,h1,h2⟩:=Sp.comb (F:=F) h.wid (fun i=>v.getD (ps.getD i 0) F.zero) R.length (Nat.le_refl _)
 have:v=u:=F.eM (by rw[hl,Sp.len F h.wid h1]) fun c=>by rw[e c,h2 c]
 rw[this];exact h1
theorem Can.ajI(h:F.Can w R ps){v:List α}(hv:F.Sp w R v){c:Nat}(h0:v.getD c F.zero≠F.zero)(h1:∀d,d<c→v.getD d F.zero=F.zero):∃i,i<R.length∧ps.getD i 0=c:=by
 apply Classical.byContradiction
 intro hn
 apply h0
 rw[h.word hv c]
 refine F.oy fun i hi=>?_
 have fA:ps.getD i 0≠c:=fun e=>hn ⟨i,hi,e⟩
 by_cases hlt:ps.getD i 0<c
 ·rw[h1 _ hlt,F.zero_mul]
 ·rw[h.lead i hi c (by omega),F.mul_zero]
theorem Can.ajJ(h:F.Can w R ps){i:Nat}(hi:i<R.length):F.Sp w R (R.getD i [])∧(R.getD i []).getD (ps.getD i 0) F.zero≠F.zero∧∀d,d<ps.getD i 0→(R.getD i []).getD d F.zero=F.zero:=by
 refine⟨Sp.mem F h.wid (je hi),?_,fun d hd=>h.lead i hi d hd⟩
 rw[jV,h.one i i hi hi,if_pos rfl];exact F.Si
theorem F5:∀{a b:List Nat},(∀i j,i<j→j<a.length→a.getD i 0<a.getD j 0)→(∀i j,i<j→j<b.length→b.getD i 0<b.getD j 0)→
 (∀c,(∃i,i<a.length∧a.getD i 0=c)↔∃i,i<b.length∧b.getD i 0=c)→a=b
 |[],[],_,_,_=>rfl
 |[],y::b,_,_,h=>by obtain⟨i,hi,_⟩:=(h y).2 ⟨0,by simp,rfl⟩;simp at hi
 |x::a,[],_,_,h=>by obtain⟨i,hi,_⟩:=(h x).1 ⟨0,by simp,rfl⟩;simp at hi
 |x::a,y::b,ha,hb,h=>by
  have tl:∀{z:Nat} {l:List Nat},(∀i j,i<j→j<(z::l).length→(z::l).getD i 0<(z::l).getD j 0)→∀i,i<l.length→z<l.getD i 0:=by
   intro z l hl i hi
   have:=hl 0 (i+1) (by omega) (by simp;omega)
   simpa using this
  have hxy:x=y:=by
   obtain⟨i,hi,e1⟩:=(h x).1 ⟨0,by simp,rfl⟩
   obtain⟨j,hj,e2⟩:=(h y).2 ⟨0,by simp,rfl⟩
   cases i with
   |zero=>simpa using e1.symm
   |succ i=>
    cases j with
    |zero=>simpa using e2
    |succ j=>
     have h3:=tl hb i (by simpa using hi)
     have h4:=tl ha j (by simpa using hj)
     simp only[List.getD_cons_succ] at e1 e2
     omega
  subst hxy
  congr 1
  refine F5 (fun i j UJ hj=>by have:=ha (i+1) (j+1) (by omega) (by simp;omega);simpa using this) (fun i j UJ hj=>by have:=hb (i+1) (j+1) (by omega) (by simp;omega);simpa using this) fun c=>?_
  constructor
  ·rintro⟨i,hi,e⟩
   have h3:=tl ha i hi
   obtain⟨j,hj,e2⟩:=(h c).1 ⟨i+1,by simp;omega,by simpa using e⟩
   cases j with
   |zero=>simp at e2;omega
   |succ j=>exact⟨j,by simpa using hj,by simpa using e2⟩
  ·rintro⟨i,hi,e⟩
   have h3:=tl hb i hi
   obtain⟨j,hj,e2⟩:=(h c).2 ⟨i+1,by simp;omega,by simpa using e⟩
   cases j with
   |zero=>simp at e2;omega
   |succ j=>exact⟨j,by simpa using hj,by simpa using e2⟩
theorem Can.unique(h:F.Can w R ps)(h':F.Can w R' ps')(e:∀v,F.Sp w R v↔F.Sp w R' v):R=R'∧ps=ps':=by
 have hp:ps=ps':=by
  refine F5 h.inc h'.inc fun c=>⟨?_,?_⟩
  ·rintro⟨i,hi,rfl⟩
   obtain⟨a,b,c⟩:=h.ajJ (i:=i) (by rw[←h.len];exact hi)
   obtain⟨j,hj,e'⟩:=h'.ajI ((e _).1 a) b c
   exact⟨j,by rw[h'.len];exact hj,e'⟩
  ·rintro⟨i,hi,rfl⟩
   obtain⟨a,b,c⟩:=h'.ajJ (i:=i) (by rw[←h'.len];exact hi)
   obtain⟨j,hj,e'⟩:=h.ajI ((e _).2 a) b c
   exact⟨j,by rw[h.len];exact hj,e'⟩
 subst hp
 have hl:R.length=R'.length:=by rw[←h.len,h'.len]
 refine⟨List.ext_getElem hl fun i h1 h2=>?_,rfl⟩
 have g:∀{S:List (List α)} (hi:i<S.length),S[i]=S.getD i []:=fun hi=>by rw[List.getD_eq_getElem?_getD,List.getElem?_eq_getElem hi];rfl
 rw[g h1,g h2]
 refine h.eq (Sp.mem F h.wid (je h1)) ((e _).2 (Sp.mem F h'.wid (je h2))) fun j hj=>?_
 rw[jV,jV,h.one i j h1 hj,h'.one i j h2 (by omega)]
theorem ajK(hw:eG w R){r:List α}(hr:F.Sp w R r)(a:α):F.Sp w R (F.nB a r):=by
 have hl:=Sp.len F hw hr
 have:F.nB a r=F.bw (List.replicate w F.zero) a r:=by
  refine F.eM (by rw[F.cY,F.yO _ (by simp) hl,hl]) fun i=>?_
  rw[F.tM,F.aW _ (by simp[hl]),F.fC,F.zero_add]
 rw[this]
 exact Sp.bw F hw a .zero hr
theorem acF{a k c j:Nat}(ha:a<rows.length)(hk:k<rows.length)(hj:j<rows.length):(F.cW rows a k c).getD j []=
 if j=a then F.nB (F.inv (F.jx rows k c)) (rows.getD k []) else F.bw (rows.getD (if j=k then a else j) []) (F.neg ((rows.getD (if j=k then a else j) []).getD c F.zero)) (F.nB (F.inv (F.jx rows k c)) (rows.getD k [])):=by
 have sw:∀i,i<rows.length→(yN rows a k).getD i []=rows.getD (if i=k then a else if i=a then k else i) []:=by
  intro i hi
  unfold yN
  rw[List.getD_eq_getElem?_getD,List.getElem?_set]
  by_cases h1:k=i
  ·subst h1;simp[hk]
  ·rw[if_neg h1,if_neg (fun e=>h1 e.symm),List.getElem?_set]
   by_cases h2:a=i
   ·subst h2;simp[ha]
   ·rw[if_neg h2,if_neg (fun e=>h2 e.symm),List.getD_eq_getElem?_getD]
 have sa:(yN rows a k).getD a []=rows.getD k []:=by rw[sw a ha];by_cases e:a=k<;>simp[e]
 have nm:∀i,i<rows.length→(F.norm (yN rows a k) a c).getD i []=if i=a then F.nB (F.inv (F.jx rows k c)) (rows.getD k []) else rows.getD (if i=k then a else i) []:=by
  intro i hi
  unfold norm
  have e1:F.jx (yN rows a k) a c=F.jx rows k c:=by unfold jx;rw[sa]
  rw[e1,sa,List.getD_eq_getElem?_getD,List.getElem?_set]
  by_cases h1:a=i
  ·subst h1;simp[jy,ha]
  ·rw[if_neg h1,if_neg (fun e=>h1 e.symm),←List.getD_eq_getElem?_getD,sw i hi]
   by_cases h2:i=k
   ·rw[if_pos h2,if_pos h2]
   ·rw[if_neg h2,if_neg h2,if_neg (fun e=>h1 e.symm)]
 unfold cW Pb
 have hj':j<(F.norm (yN rows a k) a c).length:=by rw[tL,jy];exact hj
 have e2:=nm j hj
 rw[List.getD_eq_getElem?_getD,List.getElem?_eq_getElem hj'] at e2
 rw[List.getD_eq_getElem?_getD,List.getElem?_mapIdx,List.getElem?_eq_getElem hj']
 simp only[Option.map_some,Option.getD_some] at e2 ⊢
 rw[nm a ha,if_pos rfl]
 by_cases h1:j=a
 ·rw[if_pos h1,if_pos h1,e2,if_pos h1]
 ·rw[if_neg h1,if_neg h1,e2,if_neg h1]
structure GJI(F:Fld α)(w:Nat)(G0 G:List (List α))(ps:List Nat)(c:Nat):Prop where
 wid:eG w G
 le:ps.length≤G.length
 inc:∀i j,i<j→j<ps.length→ps.getD i 0<ps.getD j 0
 lt:∀i,i<ps.length→ps.getD i 0<c
 lead:∀i,i<ps.length→∀d,d<ps.getD i 0→F.jx G i d=F.zero
 one:∀i j,i<G.length→j<ps.length→F.jx G i (ps.getD j 0)=if i=j then F.one else F.zero
 rest:∀i,ps.length≤i→i<G.length→∀d,d<c→F.jx G i d=F.zero
 sp:∀v,F.Sp w G v↔F.Sp w G0 v
theorem GJI.step{G0 G:List (List α)}{c k:Nat}(h:GJI F w G0 G ps c)(hc:c<w)(h1:ps.length≤k)(h2:k<G.length)(hz:F.jx G k c≠F.zero):GJI F w G0 (F.cW G ps.length k c) (ps++[c]) (c+1):=by
 have ha:ps.length<G.length:=by omega
 have hl:=F.fM G ps.length k c
 have row:=fun {j} (hj:j<G.length)=>acF (F:=F) (c:=c) ha h2 hj
 have hm:∀j,j<G.length→(if j=k then ps.length else j)<G.length:=by intro j hj;split<;>omega
 have lw:∀j,j<G.length→(G.getD j []).length=w:=fun j hj=>h.wid _ (je hj)
 have am7:∀j d,j<G.length→F.jx (F.cW G ps.length k c) j d=if j=ps.length then F.mul (F.inv (F.jx G k c)) (F.jx G k d) else
  F.add (F.jx G (if j=k then ps.length else j) d) (F.mul (F.neg (F.jx G (if j=k then ps.length else j) c)) (F.mul (F.inv (F.jx G k c)) (F.jx G k d))):=by
  intro j d hj
  unfold jx
  rw[row hj]
  by_cases e:j=ps.length
  ·rw[if_pos e,if_pos e,F.tM];rfl
  ·rw[if_neg e,if_neg e,F.aW _ (by rw[F.cY,lw _ (hm j hj),lw _ h2]),F.tM];rfl
 have gp:∀j,j<ps.length→(ps++[c]).getD j 0=ps.getD j 0:=fun j hj=>by simp[List.getD_eq_getElem?_getD,List.getElem?_append_left hj]
 have gl:(ps++[c]).getD ps.length 0=c:=by simp[List.getD_eq_getElem?_getD]
 have hwG:=eG.step F h.wid c ha h2
 refine⟨hwG,by simp;omega,?_,?_,?_,?_,?_,?_⟩
 ·intro i j UJ hj
  simp only[List.length_append,List.length_singleton] at hj
  rw[gp i (by omega)]
  by_cases e:j=ps.length
  ·subst e;rw[gl];exact h.lt i UJ
  ·rw[gp j (by omega)];exact h.inc i j UJ (by omega)
 ·intro i hi
  simp only[List.length_append,List.length_singleton] at hi
  by_cases e:i=ps.length
  ·subst e;rw[gl];omega
  ·rw[gp i (by omega)];have:=h.lt i (by omega);omega
 ·intro i hi d hd
  simp only[List.length_append,List.length_singleton] at hi
  by_cases e:i=ps.length
  ·subst e
   rw[gl] at hd
   rw[am7 _ _ ha,if_pos rfl,h.rest k h1 h2 d hd,F.mul_zero]
  ·have By:i<ps.length:=by omega
   rw[gp i By] at hd
   have hdc:=h.lt i By
   rw[am7 _ _ (by omega),if_neg e,if_neg (by omega),h.rest k h1 h2 d (by omega),F.mul_zero,F.mul_zero,F.add_zero]
   exact h.lead i By d hd
 ·intro i j hi hj
  rw[hl] at hi
  simp only[List.length_append,List.length_singleton] at hj
  by_cases ej:j=ps.length
  ·subst ej
   rw[gl,am7 _ _ hi]
   by_cases ei:i=ps.length
   ·rw[if_pos ei,if_pos ei,F.inv_mul hz]
   ·rw[if_neg ei,if_neg ei,F.inv_mul hz,F.mul_one,F.add_neg]
  ·have hj':j<ps.length:=by omega
   rw[gp j hj',am7 _ _ hi]
   have hkj:F.jx G k (ps.getD j 0)=F.zero:=by rw[h.one k j h2 hj',if_neg (by omega)]
   rw[hkj,F.mul_zero,F.mul_zero,F.add_zero]
   by_cases ei:i=ps.length
   ·rw[if_pos ei,if_neg (by omega)]
   ·rw[if_neg ei]
    by_cases ek:i=k
    ·rw[if_pos ek,h.one _ j ha hj',if_neg (by omega),if_neg (by omega)]
    ·rw[if_neg ek,h.one i j hi hj']
 ·intro i h3 h4 d hd
  simp only[List.length_append,List.length_singleton] at h3
  rw[hl] at h4
  rw[am7 _ _ h4,if_neg (by omega)]
  have hm':=hm i h4
  have hge:ps.length≤(if i=k then ps.length else i):=by split<;>omega
  by_cases e:d=c
  ·subst e
   rw[F.inv_mul hz,F.mul_one,F.add_neg]
  ·rw[h.rest k h1 h2 d (by omega),F.mul_zero,F.mul_zero,F.add_zero,h.rest _ hge hm' d (by omega)]
 ·intro v
  rw[←h.sp v]
  have hs:F.Sp w G (F.nB (F.inv (F.jx G k c)) (G.getD k [])):=ajK h.wid (Sp.mem F h.wid (je h2)) _
  have FV:(F.nB (F.inv (F.jx G k c)) (G.getD k [])).length=w:=by rw[F.cY,lw k h2]
  have hs':F.Sp w (F.cW G ps.length k c) (F.nB (F.inv (F.jx G k c)) (G.getD k [])):=by
   have:=Sp.mem F hwG (je (R:=F.cW G ps.length k c) (k:=ps.length) (by omega))
   rwa[row ha,if_pos rfl] at this
  constructor
  ·refine fun hv=>Sp.mono F h.wid (fun r hr=>?_) hv
   obtain⟨j,hj,rfl⟩:=Qx hr
   rw[hl] at hj
   rw[row hj]
   split
   ·exact hs
   ·exact Sp.bw F h.wid _ (Sp.mem F h.wid (je (hm j hj))) hs
  ·refine fun hv=>Sp.mono F hwG (fun r hr=>?_) hv
   obtain⟨j,hj,rfl⟩:=Qx hr
   have back:∀i,i<G.length→i≠ps.length→F.Sp w (F.cW G ps.length k c) (G.getD (if i=k then ps.length else i) []):=by
    intro i hi fA
    have h5:=Sp.mem F hwG (je (R:=F.cW G ps.length k c) (k:=i) (by omega))
    rw[row hi,if_neg fA] at h5
    have h6:=Sp.bw F hwG ((G.getD (if i=k then ps.length else i) []).getD c F.zero) h5 hs'
    have:F.bw (F.bw (G.getD (if i=k then ps.length else i) []) (F.neg ((G.getD (if i=k then ps.length else i) []).getD c F.zero)) (F.nB (F.inv (F.jx G k c)) (G.getD k []))) ((G.getD (if i=k then ps.length else i) []).getD c F.zero) (F.nB (F.inv (F.jx G k c)) (G.getD k []))=G.getD (if i=k then ps.length else i) []:=by
     have l0:=lw _ (hm i hi)
     have l1:(F.bw (G.getD (if i=k then ps.length else i) []) (F.neg ((G.getD (if i=k then ps.length else i) []).getD c F.zero)) (F.nB (F.inv (F.jx G k c)) (G.getD k []))).length=w:=F.yO _ l0 FV
     refine F.eM (by rw[F.yO _ l1 FV,l0]) fun d=>?_
     rw[F.aW _ (by rw[l1,FV]),F.aW _ (by rw[l0,FV]),F.add_assoc,←F.add_mul,F.neg_add,F.zero_mul,F.add_zero]
    rwa[this] at h6
   by_cases ek:j=k
   ·subst ek
    have h7:=ajK (F:=F) hwG hs' (F.jx G j c)
    have:F.nB (F.jx G j c) (F.nB (F.inv (F.jx G j c)) (G.getD j []))=G.getD j []:=by
     refine F.eM (by rw[F.cY,F.cY]) fun d=>?_
     rw[F.tM,F.tM,←F.mul_assoc,F.uX _ hz,F.one_mul]
    rwa[this] at h7
   ·by_cases ea:j=ps.length
    ·have:=back k h2 (by omega)
     rw[if_pos rfl] at this
     rw[ea];exact this
    ·have:=back j hj ea
     rwa[if_neg ek] at this
theorem GJI.run{G0:List (List α)}:∀(n c:Nat) (G:List (List α)) (ps:List Nat),c+n=w→GJI F w G0 G ps c→GJI F w G0 (F.oe n c G ps).1 (F.oe n c G ps).2 w
 |0,c,G,ps,hc,h=>by obtain rfl:c=w:=by omega
                    exact h
 |n+1,c,G,ps,hc,h=>by
  unfold oe
  cases hp:F.pick G c (G.length-ps.length) ps.length with
  |none=>
   refine GJI.run n (c+1) G ps (by omega) ⟨h.wid,h.le,h.inc,fun i hi=>by have:=h.lt i hi;omega,h.lead,h.one,fun i h1 h2 d hd=>?_,h.sp⟩
   by_cases e:d=c
   ·subst e;exact F.Uc hp i h1 (by have:=h.le;omega)
   ·exact h.rest i h1 h2 d (by omega)
  |some k=>
   obtain⟨a,b,z,_⟩:=F.vz hp
   exact GJI.run n (c+1) _ _ (by omega) (h.step (by omega) a (by have:=h.le;omega) z)
theorem ey(hw:eG w rows):F.Can w (F.aL rows w).1 (F.aL rows w).2∧∀v,F.Sp w (F.aL rows w).1 v↔F.Sp w rows v:=by
 have h:GJI F w rows (F.oe w 0 rows []).1 (F.oe w 0 rows []).2 w:=GJI.run w 0 rows [] (by omega) ⟨hw,by simp,fun i j _ hj=>by simp at hj,fun i hi=>by simp at hi,fun i hi=>by simp at hi,fun i j _ hj=>by simp at hj,fun i _ _ d hd=>by omega,fun v=>Iff.rfl⟩
 unfold aL
 generalize (F.oe w 0 rows []).1=G at h ⊢
 generalize (F.oe w 0 rows []).2=qs at h ⊢
 have tk:∀i,i<qs.length→(G.take qs.length).getD i []=G.getD i []:=fun i hi=>by simp[List.getD_eq_getElem?_getD,List.getElem?_take,hi]
 have hlt:(G.take qs.length).length=qs.length:=by simp[h.le]
 have hwt:eG w (G.take qs.length):=fun r hr=>h.wid _ (List.mem_of_mem_take hr)
 refine⟨⟨hwt,hlt.symm,h.inc,h.lt,fun i hi c hc=>?_,fun i j hi hj=>?_⟩,fun v=>?_⟩
 ·rw[hlt] at hi
  unfold jx;rw[tk i hi];exact h.lead i hi c hc
 ·rw[hlt] at hi hj
  unfold jx;rw[tk i hi];exact h.one i j (by have:=h.le;omega) hj
 ·rw[←h.sp v]
  constructor
  ·exact fun hv=>Sp.mono F h.wid (fun r hr=>Sp.mem F h.wid (List.mem_of_mem_take hr)) hv
  ·refine fun hv=>Sp.mono F hwt (fun r hr=>?_) hv
   obtain⟨j,hj,rfl⟩:=Qx hr
   by_cases e:j<qs.length
   ·rw[←tk j e];exact Sp.mem F hwt (je (by omega))
   ·have hz:G.getD j []=List.replicate w F.zero:=by
     refine F.eM (by rw[h.wid _ hr];simp) fun d=>?_
     rw[F.fC]
     by_cases hd:d<w
     ·exact h.rest j (by omega) hj d hd
     ·rw[List.getD_eq_getElem?_getD,List.getElem?_eq_none (by rw[h.wid _ hr];omega)];rfl
    rw[hz];exact .zero
theorem ajL{kZ:List (List α)}(hw:eG w rows)(hw':eG w kZ)(e:∀v,F.Sp w rows v↔F.Sp w kZ v):F.aL rows w=F.aL kZ w:=by
 obtain⟨a,b⟩:=ey (F:=F) hw
 obtain⟨a',b'⟩:=ey (F:=F) hw'
 obtain⟨h1,h2⟩:=a.unique a' fun v=>by rw[b,b',e]
 exact Prod.ext h1 h2
theorem Can.fix(h:F.Can w R ps):F.aL R w=(R,ps):=by
 obtain⟨a,b⟩:=ey (F:=F) h.wid
 obtain⟨h1,h2⟩:=a.unique h b
 exact Prod.ext h1 h2
end Go.Fld.Fld
end
section
namespace Go.Fld.Fld
variable{α:Type}(F:Fld α){w:Nat}
def dot(w:Nat)(r x:List α):α:=F.sg w fun c=>F.mul (r.getD c F.zero) (x.getD c F.zero)
theorem CV(r x:List α):F.dot w r x=F.dot w x r:=F.kG fun _ _=>F.mul_comm ..
theorem ajM{r v u:List α}(a:α)(h:v.length=u.length):F.dot w r (F.bw v a u)=F.add (F.dot w r v) (F.mul a (F.dot w r u)):=by
 unfold dot
 rw[←F.Qw,←F.Qv]
 refine F.kG fun c _=>?_
 rw[F.aW _ h,F.mul_add]
 congr 1
 rw[←F.mul_assoc,←F.mul_assoc,F.mul_comm a]
theorem aox(r:List α):F.dot w r (List.replicate w F.zero)=F.zero:=F.oy fun c _=>by rw[F.fC,F.mul_zero]
variable{F}{R rows:List (List α)}{ps:List Nat}
theorem Pc(hw:eG w rows){x:List α}(h:∀r∈rows,F.dot w r x=F.zero){v:List α}(hv:F.Sp w rows v):F.dot w v x=F.zero:=by
 rw[F.CV]
 induction hv with
 |zero=>exact F.aox x
 |add a h1 hr ih=>rw[F.ajM a (by rw[Sp.len F hw h1,hw _ hr]),ih,F.CV,h _ hr,F.mul_zero,F.add_zero]
variable(F)
def pR(w:Nat)(R:List (List α))(ps:List Nat)(c:Nat):List α:=(List.range w).map fun d=>F.add (if d=c then F.one else F.zero) (F.sg R.length fun i=>if d=ps.getD i 0 then F.neg (F.jx R i c) else F.zero)
def BB(w:Nat)(R:List (List α))(ps:List Nat):List (List α):=((List.range w).filter fun c=>!ps.contains c).map (F.pR w R ps)
def null(rows:List (List α))(w:Nat):List (List α):=(F.aL (F.BB w (F.aL rows w).1 (F.aL rows w).2) w).1
variable{F}
theorem qf{c d:Nat}(hd:d<w):(F.pR w R ps c).getD d F.zero=F.add (if d=c then F.one else F.zero) (F.sg R.length fun i=>if d=ps.getD i 0 then F.neg (F.jx R i c) else F.zero):=by
 unfold pR
 rw[List.getD_eq_getElem?_getD,List.getElem?_map,List.getElem?_range hd];rfl
theorem vA(c:Nat):(F.pR w R ps c).length=w:=by simp[pR]
theorem gN:eG w (F.BB w R ps):=by
 intro r hr
 unfold BB at hr
 obtain⟨c,_,rfl⟩:=List.mem_map.1 hr
 exact vA c
theorem mV{c:Nat}:ps.contains c=true↔∃i,i<ps.length∧ps.getD i 0=c:=by
 rw[List.contains_iff_mem]
 constructor
 ·intro h
  obtain⟨i,hi,e⟩:=List.getElem_of_mem h
  exact⟨i,hi,by rw[List.getD_eq_getElem?_getD,List.getElem?_eq_getElem hi];exact e⟩
 ·rintro⟨i,hi,rfl⟩
  rw[List.getD_eq_getElem?_getD,List.getElem?_eq_getElem hi];exact List.getElem_mem hi
theorem K5{c:Nat}(hc:c<w)(h:¬∃i,i<ps.length∧ps.getD i 0=c):F.pR w R ps c∈F.BB w R ps:=by
 unfold BB
 refine List.mem_map_of_mem (List.mem_filter.2 ⟨List.mem_range.2 hc,?_⟩)
 cases e:ps.contains c with
 |false=>rfl
 |true=>exact absurd (mV.1 e) h
theorem ajN{r:List α}(hr:r∈F.BB w R ps):∃c,c<w∧(¬∃i,i<ps.length∧ps.getD i 0=c)∧r=F.pR w R ps c:=by
 unfold BB at hr
 obtain⟨c,h,rfl⟩:=List.mem_map.1 hr
 obtain⟨h1,h2⟩:=List.mem_filter.1 h
 refine⟨c,List.mem_range.1 h1,fun h3=>?_,rfl⟩
 rw[mV.2 h3] at h2;cases h2
theorem Ud(h:F.Can w R ps){c:Nat}(hc:c<w)(x:List α):F.dot w (F.pR w R ps c) x=F.add (x.getD c F.zero) (F.sg R.length fun i=>F.mul (F.neg (F.jx R i c)) (x.getD (ps.getD i 0) F.zero)):=by
 unfold dot
 have e:∀d,d<w→F.mul ((F.pR w R ps c).getD d F.zero) (x.getD d F.zero)=F.add (if d=c then x.getD d F.zero else F.zero) (F.sg R.length fun i=>if d=ps.getD i 0 then F.mul (F.neg (F.jx R i c)) (x.getD d F.zero) else F.zero):=by
  intro d hd
  rw[qf hd,F.add_mul]
  congr 1
  ·split
   ·exact F.one_mul _
   ·exact F.zero_mul _
  ·rw[F.mul_comm,←F.Qw]
   refine F.kG fun i _=>?_
   split
   ·exact F.mul_comm ..
   ·exact F.mul_zero _
 rw[F.kG e,F.Qv,F.ll (k:=c) hc (fun i _ fA=>if_neg fA),if_pos rfl,F.aov]
 congr 1
 refine F.kG fun i hi=>?_
 rw[F.ll (k:=ps.getD i 0) (h.lt i (by rw[h.len];exact hi)) (fun d _ fA=>if_neg fA),if_pos rfl]
theorem Qy(h:F.Can w R ps)(x:List α):F.Sp w (F.BB w R ps) x↔x.length=w∧∀r∈R,F.dot w r x=F.zero:=by
 constructor
 ·intro hx
  refine⟨Sp.len F gN hx,fun r hr=>?_⟩
  rw[F.CV]
  refine Pc gN (fun n hn=>?_) hx
  obtain⟨c,hc,hnp,rfl⟩:=ajN hn
  obtain⟨k,hk,rfl⟩:=Qx hr
  rw[Ud h hc,jV,F.ll (k:=k) hk]
  ·rw[jV,h.one k k hk hk,if_pos rfl,F.mul_one,F.add_neg]
  ·intro i hi fA
   rw[jV,h.one k i hk hi,if_neg (fun e=>fA e.symm),F.mul_zero]
 ·rintro⟨hl,ho⟩
  have aBS:∀n,n≤w→∃v,F.Sp w (F.BB w R ps) v∧∀d,v.getD d F.zero=F.sg n fun c=>if ps.contains c=true then F.zero else F.mul (x.getD c F.zero) ((F.pR w R ps c).getD d F.zero):=by
   intro n
   induction n with
   |zero=>exact fun _=>⟨_,.zero,fun d=>F.fC ..⟩
   |succ n ih=>
    intro hn
    obtain⟨v,h1,h2⟩:=ih (by omega)
    by_cases hp:ps.contains n=true
    ·exact⟨v,h1,fun d=>by rw[h2 d,F.IF,if_pos hp,F.add_zero]⟩
    ·have hm:=K5 (F:=F) (R:=R) (ps:=ps) (w:=w) (c:=n) (by omega) (fun e=>hp (mV.2 e))
     refine⟨_,h1.add (x.getD n F.zero) hm,fun d=>?_⟩
     rw[F.aW _ (by rw[Sp.len F gN h1,vA]),h2 d,F.IF,if_neg hp]
  obtain⟨v,h1,h2⟩:=aBS w (Nat.le_refl _)
  have:x=v:=by
   refine F.eM (by rw[hl,Sp.len F gN h1]) fun d=>?_
   by_cases hd:d<w
   ·rw[h2 d]
    by_cases hp:ps.contains d=true
    ·obtain⟨k,hk,rfl⟩:=mV.1 hp
     have hk':k<R.length:=by rw[←h.len];exact hk
     have e:∀c,c<w→(if ps.contains c=true then F.zero else F.mul (x.getD c F.zero) ((F.pR w R ps c).getD (ps.getD k 0) F.zero))=F.mul (F.neg F.one) (if ps.contains c=true then F.zero else F.mul (F.jx R k c) (x.getD c F.zero)):=by
      intro c hc
      by_cases hq:ps.contains c=true
      ·rw[if_pos hq,if_pos hq,F.mul_zero]
      ·rw[if_neg hq,if_neg hq,qf hd,if_neg (fun e=>hq (by rw[←e];exact hp)),F.zero_add,F.ll (k:=k) hk',if_pos rfl,F.mul_neg,F.neg_mul,F.one_mul,F.mul_comm]
       intro i hi fA
       rw[if_neg]
       intro e
       rcases Nat.lt_or_gt_of_ne fA with hh|hh
       ·have:=h.inc i k hh hk;omega
       ·have:=h.inc k i hh (by rw[h.len];exact hi);omega
     rw[F.kG e,F.Qw]
     have hz:=ho _ (je hk')
     have e2:∀c,c<w→F.mul ((R.getD k []).getD c F.zero) (x.getD c F.zero)=F.add (if c=ps.getD k 0 then x.getD c F.zero else F.zero) (if ps.contains c=true then F.zero else F.mul (F.jx R k c) (x.getD c F.zero)):=by
      intro c hc
      by_cases hq:ps.contains c=true
      ·rw[if_pos hq,F.add_zero]
       obtain⟨i,hi,rfl⟩:=mV.1 hq
       rw[jV,h.one k i hk' (by rw[←h.len];exact hi)]
       by_cases e:k=i
       ·subst e;rw[if_pos rfl,if_pos rfl,F.one_mul]
       ·rw[if_neg e,F.zero_mul,if_neg]
        intro e'
        rcases Nat.lt_or_gt_of_ne e with hh|hh
        ·have:=h.inc k i hh hi;omega
        ·have:=h.inc i k hh hk;omega
      ·rw[if_neg hq,if_neg (fun e=>hq (by rw[e];exact hp)),F.zero_add,jV]
     unfold dot at hz
     rw[F.kG e2,F.Qv,F.ll (k:=ps.getD k 0) hd (fun i _ fA=>if_neg fA),if_pos rfl] at hz
     rw[F.vQ hz,F.neg_mul,F.one_mul,F.neg_neg]
    ·rw[F.ll (k:=d) hd]
     ·rw[if_neg hp,qf hd,if_pos rfl,F.oy,F.add_zero,F.mul_one]
      intro i hi
      rw[if_neg]
      intro e
      exact hp (mV.2 ⟨i,by rw[h.len];exact hi,e.symm⟩)
     ·intro c hc fA
      by_cases hq:ps.contains c=true
      ·rw[if_pos hq]
      ·rw[if_neg hq,qf hd,if_neg (fun e=>fA e.symm),F.zero_add,F.oy,F.mul_zero]
       intro i hi
       rw[if_neg]
       intro e
       exact hp (mV.2 ⟨i,by rw[h.len];exact hi,e.symm⟩)
   ·have g:∀{y:List α},y.length=w→y.getD d F.zero=F.zero:=fun hy=>by rw[List.getD_eq_getElem?_getD,List.getElem?_eq_none (by omega)];rfl
    rw[g hl,g (Sp.len F gN h1)]
  rw[this];exact h1
theorem IG(hw:eG w rows):eG w (F.null rows w):=(ey (F:=F) (w:=w) gN).1.wid
theorem Ax(rows:List (List α)):∃ps,F.Can w (F.null rows w) ps:=⟨_,(ey (F:=F) (w:=w) gN).1⟩
theorem IH(hw:eG w rows)(x:List α):F.Sp w (F.null rows w) x↔x.length=w∧∀v,F.Sp w rows v→F.dot w v x=F.zero:=by
 obtain⟨a,b⟩:=ey (F:=F) hw
 unfold null
 rw[(ey (F:=F) (w:=w) gN).2,Qy a]
 refine and_congr_right fun _=>⟨fun h v hv=>Pc a.wid h ((b v).2 hv),fun h r hr=>h r ((b r).1 (Sp.mem F a.wid hr))⟩
theorem II(hw:eG w rows)(x:List α):F.Sp w (F.null rows w) x↔x.length=w∧∀r∈rows,F.dot w r x=F.zero:=by
 rw[IH hw]
 exact and_congr_right fun _=>⟨fun h r hr=>h r (Sp.mem F hw hr),fun h v hv=>Pc hw h hv⟩
theorem agL(hw:eG w rows)(x:List α):F.Sp w (F.null (F.null rows w) w) x↔F.Sp w rows x:=by
 obtain⟨a,b⟩:=ey (F:=F) hw
 rw[IH (IG hw)]
 constructor
 ·rintro⟨hl,h⟩
  rw[←b]
  refine a.aow hl fun c=>?_
  generalize (F.aL rows w).1=R at a b
  generalize hq:(F.aL rows w).2=ps at a
  by_cases hc:c<w
  ·by_cases hp:ps.contains c=true
   ·obtain⟨k,hk,rfl⟩:=mV.1 hp
    have hk':k<R.length:=by rw[←a.len];exact hk
    rw[F.ll (k:=k) hk',a.one k k hk' hk',if_pos rfl,F.mul_one]
    intro i hi fA
    rw[a.one i k hi hk',if_neg fA,F.mul_zero]
   ·have hx:F.Sp w (F.null rows w) (F.pR w R ps c):=by
     rw[IH hw]
     refine⟨vA c,fun v hv=>?_⟩
     have h3:=((Qy a (F.pR w R ps c)).1 (Sp.mem F gN (K5 hc fun e=>hp (mV.2 e)))).2
     exact Pc a.wid h3 ((b v).2 hv)
    have h4:=h _ hx
    rw[Ud a hc] at h4
    have h5:=F.vQ (a:=F.sg R.length fun i=>F.mul (F.neg (F.jx R i c)) (x.getD (ps.getD i 0) F.zero)) (by rw[F.add_comm];exact h4)
    rw[h5,←F.one_mul (F.sg _ _),←F.neg_mul,←F.Qw]
    refine F.kG fun i _=>?_
    rw[F.neg_mul,F.one_mul,F.neg_mul,F.neg_neg,F.mul_comm]
  ·have g:∀{y:List α},y.length=w→y.getD c F.zero=F.zero:=fun hy=>by rw[List.getD_eq_getElem?_getD,List.getElem?_eq_none (by omega)];rfl
   rw[g hl,F.oy]
   intro i hi
   unfold jx
   rw[g (a.wid _ (je hi)),F.mul_zero]
 ·intro hx
  refine⟨Sp.len F hw hx,fun v hv=>?_⟩
  rw[F.CV]
  exact((IH hw v).1 hv).2 x hx
def yP(F:Fld α)(w:Nat)(R:List (List α))(ps:List Nat)(c n:Nat):List α:=(List.range n).foldl (fun x i=>x.set (ps.getD i 0) (F.neg (F.jx R i c))) ((List.replicate w F.zero).set c F.one)
theorem Ay(c n:Nat):yP F w R ps c (n+1)=(yP F w R ps c n).set (ps.getD n 0) (F.neg (F.jx R n c)):=by
 unfold yP;rw[List.range_succ,List.foldl_append];rfl
@[simp] theorem K6(c n:Nat):(yP F w R ps c n).length=w:=by
  induction n with
  |zero=>simp[yP]
  |succ n ih=>rw[Ay,List.length_set,ih]
theorem Ue(h:F.Can w R ps){c:Nat}(hp:¬∃i,i<ps.length∧ps.getD i 0=c){d:Nat}(hd:d<w):∀n,n≤R.length→
 (yP F w R ps c n).getD d F.zero=F.add (if d=c then F.one else F.zero) (F.sg n fun i=>if d=ps.getD i 0 then F.neg (F.jx R i c) else F.zero)
 |0,_=>by
  show((List.replicate w F.zero).set c F.one).getD d F.zero=F.add _ F.zero
  rw[F.add_zero,List.getD_eq_getElem?_getD,List.getElem?_set]
  by_cases e:c=d
  ·subst e;simp[hd]
  ·rw[if_neg e,if_neg (fun e'=>e e'.symm),List.getElem?_replicate,if_pos hd];rfl
 |n+1,hn=>by
  rw[Ay,F.IF,List.getD_eq_getElem?_getD,List.getElem?_set]
  by_cases e:ps.getD n 0=d
  ·subst e
   rw[if_pos rfl,if_pos (by rw[K6];exact hd),if_pos rfl,if_neg (fun e=>hp ⟨n,by rw[h.len];omega,e⟩),F.zero_add,F.oy,F.zero_add]
   ·rfl
   ·intro i hi
    rw[if_neg]
    intro e
    have:=h.inc i n hi (by rw[h.len];omega)
    omega
  ·rw[if_neg e,if_neg (show ¬d=ps.getD n 0 from fun e'=>e e'.symm),F.add_zero,←List.getD_eq_getElem?_getD,Ue h hp hd n (by omega)]
theorem ajO(h:F.Can w R ps){c:Nat}(hp:¬∃i,i<ps.length∧ps.getD i 0=c):yP F w R ps c R.length=F.pR w R ps c:=by
 refine F.eM (by rw[K6,vA]) fun d=>?_
 by_cases hd:d<w
 ·rw[Ue h hp hd _ (Nat.le_refl _),qf hd]
 ·have g:∀{y:List α},y.length=w→y.getD d F.zero=F.zero:=fun hy=>by rw[List.getD_eq_getElem?_getD,List.getElem?_eq_none (by omega)];rfl
  rw[g (K6 ..),g (vA _)]
def IJ(F:Fld α)(w:Nat)(R:List (List α))(ps:List Nat)(c:Nat):List (List α):=((List.range c).filter fun c=>!ps.contains c).map (F.pR w R ps)
theorem acG(c:Nat):IJ F w R ps (c+1)=IJ F w R ps c++if ps.contains c=true then [] else [F.pR w R ps c]:=by
 unfold IJ
 rw[List.range_succ,List.filter_append,List.map_append]
 congr 1
 have:List.filter (fun c=>!ps.contains c) [c]=if ps.contains c=true then [] else [c]:=by rw[List.filter_cons,List.filter_nil];cases ps.contains c<;>rfl
 rw[this]
 split<;>rfl
theorem Uf(c:Nat):(IJ F w R ps c).length≤c:=by
 unfold IJ
 rw[List.length_map]
 have:=List.length_filter_le (fun c=>!ps.contains c) (List.range c)
 simpa using this
variable(F)
variable{F}
end Go.Fld.Fld
end
section
namespace Go.Fld.Fld
variable{α:Type}(F:Fld α){w:Nat}
def qg(w:Nat)(rows:List (List α)):Nat:=(F.aL rows w).2.length
variable{F}{rows kZ:List (List α)}
theorem Qz(hw:eG w rows):(F.aL rows w).1.length=F.qg w rows:=(ey (F:=F) hw).1.len.symm
theorem acH(hw:eG w rows):F.qg w rows≤rows.length:=by
 rw[←Qz hw]
 unfold aL
 rw[List.length_take,F.vR]
 omega
theorem yQ(hw:eG w rows)(hw':eG w kZ)(e:∀v,F.Sp w rows v↔F.Sp w kZ v):F.qg w rows=F.qg w kZ:=by
 unfold qg;rw[ajL hw hw' e]
theorem Yv(hw:eG w rows){i:Nat}(h:¬∃v,F.Sp w rows v∧v.getD i F.zero≠F.zero):F.qg w (F.wo rows i)=F.qg w rows:=by
 refine yQ (F.yj hw i) hw fun v=>?_
 rw[F.Mp hw]
 exact⟨fun h=>h.1,fun hv=>⟨hv,by
  cases F.dec (v.getD i F.zero) F.zero with
  |isTrue e=>exact e
  |isFalse e=>exact absurd ⟨v,hv,e⟩ h⟩⟩
theorem Yw(hw:eG w rows){i:Nat}(h:∃v,F.Sp w rows v∧v.getD i F.zero≠F.zero):F.qg w (F.wo rows i)+1=F.qg w rows:=by
 obtain⟨a,b⟩:=ey (F:=F) hw
 have hww:=F.yj hw i
 have h1:F.qg w (F.wo rows i)+1≤F.qg w rows:=by
  have e:F.qg w (F.wo rows i)=F.qg w (F.wo (F.aL rows w).1 i):=yQ hww (F.yj a.wid i) fun v=>by rw[F.Mp hw,F.Mp a.wid,b]
  obtain⟨v,h1,h2⟩:=h
  have h3:=F.tN a.wid (i:=i) ⟨v,(b v).2 h1,h2⟩
  have h4:=acH (F:=F) (F.yj a.wid i)
  rw[←Qz hw,e];omega
 have h2:F.qg w rows≤F.qg w (F.wo rows i)+1:=by
  obtain⟨a',b'⟩:=ey (F:=F) hww
  obtain⟨v,h1,h2⟩:=h
  have hvl:=Sp.len F hw h1
  have hw1:eG w (v::(F.aL (F.wo rows i) w).1):=by
   intro r hr
   rcases List.mem_cons.1 hr with rfl|hr
   ·exact hvl
   ·exact a'.wid _ hr
  have e:F.qg w rows=F.qg w (v::(F.aL (F.wo rows i) w).1):=by
   refine yQ hw hw1 fun x=>⟨fun hx=>?_,fun hx=>?_⟩
   ·have hxl:=Sp.len F hw hx
    have hy:F.Sp w (F.wo rows i) (F.bw x (F.neg (F.mul (x.getD i F.zero) (F.inv (v.getD i F.zero)))) v):=by
     rw[F.Mp hw]
     refine⟨Sp.bw F hw _ hx h1,?_⟩
     rw[F.aW _ (by rw[hxl,hvl]),F.neg_mul,F.mul_assoc,F.inv_mul h2,F.mul_one,F.add_neg]
    have hyl:=Sp.len F hww hy
    have hz:F.Sp w (v::(F.aL (F.wo rows i) w).1) (F.bw (F.bw x (F.neg (F.mul (x.getD i F.zero) (F.inv (v.getD i F.zero)))) v) (F.mul (x.getD i F.zero) (F.inv (v.getD i F.zero))) v):=
     Sp.bw F hw1 _ (Sp.mono F hw1 (fun r hr=>Sp.mem F hw1 (List.mem_cons_of_mem _ hr)) ((b' _).2 hy)) (Sp.mem F hw1 (List.mem_cons_self ..))
    have:F.bw (F.bw x (F.neg (F.mul (x.getD i F.zero) (F.inv (v.getD i F.zero)))) v) (F.mul (x.getD i F.zero) (F.inv (v.getD i F.zero))) v=x:=by
     refine F.eM (by rw[F.yO _ hyl hvl,hxl]) fun c=>?_
     rw[F.aW _ (by rw[hyl,hvl]),F.aW _ (by rw[hxl,hvl]),F.add_assoc,←F.add_mul,F.neg_add,F.zero_mul,F.add_zero]
    rwa[this] at hz
   ·refine Sp.mono F hw (fun r hr=>?_) hx
    rcases List.mem_cons.1 hr with rfl|hr
    ·exact h1
    ·exact((F.Mp hw i r).1 ((b' r).1 (Sp.mem F a'.wid hr))).1
  rw[e]
  have:=acH (F:=F) hw1
  rw[List.length_cons,Qz hww] at this
  exact this
 omega
def U7(F:Fld α)(w:Nat)(rows:List (List α)):Prop:=eG w rows∧rows.length=F.qg w rows
theorem Can.ind{R:List (List α)}{ps:List Nat}(h:F.Can w R ps):U7 F w R:=⟨h.wid,by unfold qg;rw[h.fix];exact h.len.symm⟩
theorem U7.wo(h:U7 F w rows)(i:Nat):U7 F w (F.wo rows i):=by
 refine⟨F.yj h.1 i,?_⟩
 by_cases e:∃v,F.Sp w rows v∧v.getD i F.zero≠F.zero
 ·have h1:=Yw h.1 e
  have h2:=F.tN h.1 e
  have:=h.2
  omega
 ·rw[Yv h.1 e,F.CU h.1 e];exact h.2
theorem U7.fold:∀(os:List Nat) {rows:List (List α)},U7 F w rows→U7 F w (os.foldl F.wo rows)
 |[],_,h=>h
 |o::os,_,h=>U7.fold os (h.wo o)
theorem Az:∀(os:List Nat) {rows:List (List α)},eG w rows→∀v,F.Sp w (os.foldl F.wo rows) v↔F.Sp w rows v∧∀o∈os,v.getD o F.zero=F.zero
 |[],_,_,v=>by simp
 |o::os,rows,hw,v=>by
  rw[List.foldl_cons,Az os (F.yj hw o),F.Mp hw,and_assoc]
  simp
theorem QA(hw:eG w rows)(h:∀v,F.Sp w rows v→∀c,v.getD c F.zero=F.zero):F.qg w rows=0:=by
 obtain⟨a,b⟩:=ey (F:=F) hw
 rw[←Qz hw]
 apply Classical.byContradiction
 intro hn
 have h0:0<(F.aL rows w).1.length:=by omega
 obtain⟨p1,p2,_⟩:=a.ajJ h0
 exact p2 (h _ ((b _).1 p1) _)
theorem Yx:∀(os:List Nat) {rows:List (List α)},eG w rows→os.Nodup→(∀o∈os,∃v,F.Sp w rows v∧v.getD o F.zero≠F.zero∧∀o'∈os,o'≠o→v.getD o' F.zero=F.zero)→(os.foldl F.wo rows).length+os.length=rows.length
 |[],_,_,_,_=>by simp
 |o::os,rows,hw,hn,h=>by
  obtain⟨n1,n2⟩:=List.nodup_cons.1 hn
  obtain⟨v,h1,h2,_⟩:=h o (List.mem_cons_self ..)
  have h3:=F.tN hw ⟨v,h1,h2⟩
  have ih:=Yx os (F.yj hw o) n2 (fun o' ho'=>by
   obtain⟨v',g1,g2,g3⟩:=h o' (List.mem_cons_of_mem _ ho')
   refine⟨v',(F.Mp hw o v').2 ⟨g1,g3 o (List.mem_cons_self ..) (fun e=>n1 (by rw[e];exact ho'))⟩,g2,fun o2 h4 h5=>g3 o2 (List.mem_cons_of_mem _ h4) h5⟩)
  rw[List.foldl_cons,List.length_cons]
  omega
theorem auv{β:Type}(p:β→Bool):∀l:List β,(l.filter p).length+(l.filter fun c=>!p c).length=l.length
 |[]=>rfl
 |x::l=>by
  have:=auv p l
  rw[List.filter_cons,List.filter_cons]
  cases p x<;>simp<;>omega
theorem Can.count{R:List (List α)}{ps:List Nat}(h:F.Can w R ps):((List.range w).filter fun c=>!ps.contains c).length+ps.length=w:=by
 have e:(List.range w).filter (fun c=>ps.contains c)=ps:=by
  refine F5 (fun i j UJ hj=>?_) h.inc fun c=>?_
  ·have hp:((List.range w).filter fun c=>ps.contains c).Pairwise (·<·):=List.Pairwise.filter _ List.pairwise_lt_range
   rw[List.getD_eq_getElem?_getD,List.getD_eq_getElem?_getD,List.getElem?_eq_getElem (by omega),List.getElem?_eq_getElem hj]
   exact List.pairwise_iff_getElem.1 hp i j _ hj UJ
  ·constructor
   ·rintro⟨i,hi,e⟩
    have hm:=List.getElem_mem hi
    rw[List.getD_eq_getElem?_getD,List.getElem?_eq_getElem hi] at e
    simp only[Option.getD_some] at e
    rw[e] at hm
    exact mV.1 (List.mem_filter.1 hm).2
   ·rintro⟨i,hi,e⟩
    have hm:c∈(List.range w).filter fun c=>ps.contains c:=List.mem_filter.2 ⟨List.mem_range.2 (by rw[←e];exact h.lt i hi),mV.2 ⟨i,hi,e⟩⟩
    obtain⟨j,hj,e2⟩:=List.getElem_of_mem hm
    exact⟨j,hj,by rw[List.getD_eq_getElem?_getD,List.getElem?_eq_getElem hj];exact e2⟩
 have h2:=auv (fun c=>ps.contains c) (List.range w)
 rw[e,List.length_range] at h2
 omega
theorem IK(hw:eG w rows):F.qg w (F.null rows w)+F.qg w rows=w:=by
 obtain⟨a,b⟩:=ey (F:=F) hw
 have hc:=a.count
 obtain⟨qs,hq⟩:=Ax (F:=F) (w:=w) rows
 have hi:=hq.ind
 have hnb:∀c∈(List.range w).filter (fun c=>!(F.aL rows w).2.contains c),c<w∧¬∃i,i<(F.aL rows w).2.length∧(F.aL rows w).2.getD i 0=c:=by
  intro c hc
  obtain⟨h1,h2⟩:=List.mem_filter.1 hc
  refine⟨List.mem_range.1 h1,fun h3=>?_⟩
  rw[mV.2 h3] at h2;cases h2
 have spn:∀v,F.Sp w (F.null rows w) v↔F.Sp w (F.BB w (F.aL rows w).1 (F.aL rows w).2) v:=by
  intro v
  unfold null
  exact(ey (F:=F) (w:=w) gN).2 v
 have h1:=Yx (F:=F) (w:=w) ((List.range w).filter fun c=>!(F.aL rows w).2.contains c) hi.1 (List.Pairwise.filter _ List.nodup_range) (fun c hc=>by
  obtain⟨c1,c2⟩:=hnb c hc
  refine⟨F.pR w (F.aL rows w).1 (F.aL rows w).2 c,(spn _).2 (Sp.mem F gN (K5 c1 c2)),?_,fun c' hc' fA=>?_⟩
  ·rw[qf c1,if_pos rfl,F.oy,F.add_zero]
   ·exact F.Si
   ·intro i hi
    rw[if_neg]
    intro e
    exact c2 ⟨i,by rw[a.len];exact hi,e.symm⟩
  ·obtain⟨d1,d2⟩:=hnb c' hc'
   rw[qf d1,if_neg fA,F.zero_add,F.oy]
   intro i hi
   rw[if_neg]
   intro e
   exact d2 ⟨i,by rw[a.len];exact hi,e.symm⟩)
 have hz:(((List.range w).filter fun c=>!(F.aL rows w).2.contains c).foldl F.wo (F.null rows w)).length=0:=by
  have hf:=U7.fold ((List.range w).filter fun c=>!(F.aL rows w).2.contains c) hi
  rw[hf.2]
  refine QA hf.1 fun v hv c=>?_
  obtain⟨v1,v2⟩:=(Az _ hi.1 v).1 hv
  obtain⟨v3,v4⟩:=(Qy a v).1 ((spn v).1 v1)
  by_cases hcw:c<w
  ·by_cases hp:(F.aL rows w).2.contains c=true
   ·obtain⟨k,hk,rfl⟩:=mV.1 hp
    have hk':k<(F.aL rows w).1.length:=by rw[←a.len];exact hk
    have:=v4 _ (je hk')
    unfold dot at this
    rw[F.ll (k:=(F.aL rows w).2.getD k 0) hcw] at this
    ·rw[jV,a.one k k hk' hk',if_pos rfl,F.one_mul] at this;exact this
    ·intro d hd fA
     by_cases hq:(F.aL rows w).2.contains d=true
     ·obtain⟨j,hj,rfl⟩:=mV.1 hq
      rw[jV,a.one k j hk' (by rw[←a.len];exact hj),if_neg (fun e=>fA (by rw[e])),F.zero_mul]
     ·rw[v2 d (List.mem_filter.2 ⟨List.mem_range.2 hd,by simpa using hq⟩),F.mul_zero]
   ·exact v2 c (List.mem_filter.2 ⟨List.mem_range.2 hcw,by simpa using hp⟩)
  ·rw[List.getD_eq_getElem?_getD,List.getElem?_eq_none (by omega)];rfl
 have h2:=hi.2
 have h3:F.qg w rows=(F.aL rows w).2.length:=rfl
 omega
end Go.Fld.Fld
end
section
namespace Go.Fld.Fld
variable{α:Type}{F:Fld α}{w:Nat}{rows:List (List α)}
def pos(p:Nat→Bool)(n:Nat):List Nat:=(List.range n).filter p
theorem Yy(p:Nat→Bool)(n:Nat):pos p (n+1)=pos p n++if p n=true then [n] else []:=by
 unfold pos
 rw[List.range_succ,List.filter_append]
 congr 1
 rw[List.filter_cons,List.filter_nil]
theorem ajP{p:Nat→Bool}{n c:Nat}(h:c∈pos p n):c<n∧p c=true:=by
 obtain⟨h1,h2⟩:=List.mem_filter.1 h
 exact⟨List.mem_range.1 h1,h2⟩
theorem ad9{p:Nat→Bool}{n c:Nat}(h1:c<n)(h2:p c=true):c∈pos p n:=List.mem_filter.2 ⟨List.mem_range.2 h1,h2⟩
theorem U8(S T:List Nat)(v:List α):F.ua (S++T) v=F.ua S v++F.ua T v:=by unfold ua;rw[List.map_append]
theorem DZ(S:List Nat)(v:List α):(F.ua S v).length=S.length:=by simp[ua]
theorem acI(p:Nat→Bool)(r x:List α):∀n,(∀c,c<n→p c=false→x.getD c F.zero=F.zero)→F.dot (pos p n).length (F.ua (pos p n) r) (F.ua (pos p n) x)=F.sg n fun c=>F.mul (r.getD c F.zero) (x.getD c F.zero)
 |0,_=>rfl
 |n+1,h=>by
  have ih:=acI p r x n fun c hc=>h c (by omega)
  rw[F.IF,←ih,Yy]
  cases hp:p n with
  |false=>
   rw[if_neg (by simp),List.append_nil,h n (by omega) hp,F.mul_zero,F.add_zero]
  |true=>
   rw[if_pos rfl,List.length_append]
   show F.sg ((pos p n).length+1) _=_
   rw[F.IF]
   unfold dot
   congr 1
   ·refine F.kG fun j hj=>?_
    have e:∀v:List α,(F.ua (pos p n++[n]) v).getD j F.zero=(F.ua (pos p n) v).getD j F.zero:=fun v=>by
     rw[U8,List.getD_eq_getElem?_getD,List.getElem?_append_left (by rw[DZ];exact hj),←List.getD_eq_getElem?_getD]
    rw[e,e]
   ·have e:∀v:List α,(F.ua (pos p n++[n]) v).getD (pos p n).length F.zero=v.getD n F.zero:=fun v=>by
     rw[U8,List.getD_eq_getElem?_getD,List.getElem?_append_right (by rw[DZ];exact Nat.le_refl _),DZ,Nat.sub_self];rfl
    rw[e,e]
theorem acJ(p:Nat→Bool):∀(n:Nat) (y:List α),y.length=(pos p n).length→∃x:List α,x.length=n∧F.ua (pos p n) x=y∧∀c,c<n→p c=false→x.getD c F.zero=F.zero
 |0,y,h=>⟨[],rfl,by
  have:y=[]:=List.length_eq_zero_iff.1 h
  rw[this];rfl,fun c hc=>by omega⟩
 |n+1,y,h=>by
  rw[Yy] at h ⊢
  have acK:∀(x:List α) (a:α),x.length=n→F.ua (pos p n) (x++[a])=F.ua (pos p n) x:=by
   intro x a hx
   unfold ua
   refine List.map_congr_left fun c hc=>?_
   rw[List.getD_eq_getElem?_getD,List.getElem?_append_left (by rw[hx];exact(ajP hc).1),←List.getD_eq_getElem?_getD]
  have low:∀(x:List α) (a:α) (c:Nat),x.length=n→c<n→(x++[a]).getD c F.zero=x.getD c F.zero:=by
   intro x a c hx hc
   rw[List.getD_eq_getElem?_getD,List.getElem?_append_left (by omega),←List.getD_eq_getElem?_getD]
  cases hp:p n with
  |false=>
   rw[hp,if_neg (by simp),List.append_nil] at h
   obtain⟨x,h1,h2,h3⟩:=acJ p n y h
   refine⟨x++[F.zero],by simp[h1],by rw[if_neg (by simp),List.append_nil,acK x _ h1];exact h2,fun c hc hpc=>?_⟩
   by_cases e:c=n
   ·subst e;rw[List.getD_eq_getElem?_getD,List.getElem?_append_right (by omega),h1,Nat.sub_self];rfl
   ·rw[low x _ c h1 (by omega)];exact h3 c (by omega) hpc
  |true=>
   rw[hp,if_pos rfl,List.length_append] at h
   have hy:y≠[]:=fun e=>by rw[e] at h;simp at h
   obtain⟨x,h1,h2,h3⟩:=acJ p n y.dropLast (by rw[List.length_dropLast,h];simp)
   refine⟨x++[y.getLast hy],by simp[h1],?_,fun c hc hpc=>?_⟩
   ·rw[if_pos rfl,U8,acK x _ h1,h2]
    have:F.ua [n] (x++[y.getLast hy])=[y.getLast hy]:=by
     show[(x++[y.getLast hy]).getD n F.zero]=_
     rw[List.getD_eq_getElem?_getD,List.getElem?_append_right (by omega),h1,Nat.sub_self];rfl
    rw[this];exact List.dropLast_concat_getLast hy
   ·by_cases e:c=n
    ·subst e;rw[hp] at hpc;cases hpc
    ·rw[low x _ c h1 (by omega)];exact h3 c (by omega) hpc
theorem ajQ{ps:List Nat}(can:F.Can w rows ps)(p:Nat→Bool):
 ((pos p w).foldl F.wo (F.null rows w)).length+(pos p w).length+rows.length=w+((pos (fun c=>!p c) w).foldl F.wo rows).length:=by
 obtain⟨qs,hq⟩:=Ax (F:=F) (w:=w) rows
 have iH:=hq.ind
 have iR:=can.ind
 have iB:=U7.fold (pos (fun c=>!p c) w) iR
 have h1:=F.ad8 iH.1 (pos p w)
 have h2:=IK (F:=F) can.wid
 have hwT:eG (pos p w).length ((F.null rows w).map (F.ua (pos p w))):=by
  intro r hr
  obtain⟨r',_,rfl⟩:=List.mem_map.1 hr
  exact DZ ..
 have h3:=IK (F:=F) hwT
 generalize hB:(pos (fun c=>!p c) w).foldl F.wo rows=B at iB
 have h4:=F.ad8 iB.1 (pos p w)
 have spB:∀x,F.Sp w B x↔F.Sp w rows x∧∀c,c<w→p c=false→x.getD c F.zero=F.zero:=by
  intro x
  rw[←hB,Az _ can.wid]
  refine and_congr_right fun _=>⟨fun h c hc hp=>h c (ad9 hc (by simp[hp])),fun h c hc=>?_⟩
  obtain⟨a,b⟩:=ajP hc
  exact h c a (by simpa using b)
 have h5:((pos p w).foldl F.wo B).length=0:=by
  have hf:=U7.fold (pos p w) iB
  rw[hf.2]
  refine QA hf.1 fun v hv c=>?_
  obtain⟨v1,v2⟩:=(Az _ iB.1 v).1 hv
  obtain⟨v3,v4⟩:=(spB v).1 v1
  by_cases hc:c<w
  ·cases hp:p c with
   |false=>exact v4 c hc hp
   |true=>exact v2 c (ad9 hc hp)
  ·rw[List.getD_eq_getElem?_getD,List.getElem?_eq_none (by rw[Sp.len F can.wid v3];omega)];rfl
 have hwB:eG (pos p w).length (B.map (F.ua (pos p w))):=by
  intro r hr
  obtain⟨r',_,rfl⟩:=List.mem_map.1 hr
  exact DZ ..
 have h6:F.qg (pos p w).length (F.null ((F.null rows w).map (F.ua (pos p w))) (pos p w).length)=F.qg (pos p w).length (B.map (F.ua (pos p w))):=by
  refine yQ (IG hwT) hwB fun y=>?_
  rw[II hwT,F.ajH iB.1]
  constructor
  ·rintro⟨hl,ho⟩
   obtain⟨x,x1,x2,x3⟩:=acJ (F:=F) p w y hl
   refine⟨x,(spB x).2 ⟨?_,x3⟩,x2.symm⟩
   rw[←agL can.wid,II (IG can.wid)]
   refine⟨x1,fun r hr=>?_⟩
   have:=ho _ (List.mem_map_of_mem hr)
   rw[←x2,acI p r x w x3] at this
   exact this
  ·rintro⟨x,x1,rfl⟩
   obtain⟨x2,x3⟩:=(spB x).1 x1
   refine⟨DZ ..,fun r' hr'=>?_⟩
   obtain⟨r,hr,rfl⟩:=List.mem_map.1 hr'
   rw[acI p r x w x3]
   have:=((IH can.wid r).1 (Sp.mem F (IG can.wid) hr)).2 x x2
   rw[F.CV] at this
   exact this
 have h7:=iH.2
 have h8:=iR.2
 have e1:(F.aL ((F.null rows w).map (F.ua (pos p w))) (pos p w).length).2.length=F.qg (pos p w).length ((F.null rows w).map (F.ua (pos p w))):=rfl
 have e2:(F.aL (B.map (F.ua (pos p w))) (pos p w).length).2.length=F.qg (pos p w).length (B.map (F.ua (pos p w))):=rfl
 omega
theorem Ug{os:List Nat}{o:Nat}(hi:U7 F w rows):((os++[o]).foldl F.wo rows).length≤(os.foldl F.wo rows).length∧(os.foldl F.wo rows).length≤((os++[o]).foldl F.wo rows).length+1:=by
 rw[List.foldl_append]
 simp only[List.foldl_cons,List.foldl_nil]
 have h:=(U7.fold os hi).1
 by_cases e:∃v,F.Sp w (os.foldl F.wo rows) v∧v.getD o F.zero≠F.zero
 ·have:=F.tN h e;omega
 ·have:=F.CU h e;omega
theorem yR{os os':List Nat}(hi:U7 F w rows)(e:∀o,o∈os↔o∈os'):(os.foldl F.wo rows).length=(os'.foldl F.wo rows).length:=by
 rw[(U7.fold os hi).2,(U7.fold os' hi).2]
 refine yQ (U7.fold os hi).1 (U7.fold os' hi).1 fun v=>?_
 rw[Az _ hi.1,Az _ hi.1]
 exact and_congr_right fun _=>⟨fun h o ho=>h o ((e o).2 ho),fun h o ho=>h o ((e o).1 ho)⟩
end Go.Fld.Fld
end
section
namespace Go.Abs
structure ai(h h':AH):Prop where
 next:h.next≤h'.next
 gR:∀b,b<h.next→h'.gR b=h.gR b
theorem ai.refl(h:AH):ai h h:=⟨Nat.le_refl _,fun _ _=>rfl⟩
theorem ai.trans{a b c:AH}(p:ai a b)(q:ai b c):ai a c:=⟨Nat.le_trans p.1 q.1,fun x hx=>(q.2 x (Nat.lt_of_lt_of_le hx p.1)).trans (p.2 x hx)⟩
theorem ai.alloc(h:AH)(cs:List Value):ai h (h.alloc cs):=⟨Nat.le_succ _,fun b hb=>by simp[AH.alloc,Nat.ne_of_lt hb]⟩
theorem ai.put{h h':AH}(p:ai h h'){b:Nat}(hb:h.next≤b)(x:Option (List Value)):ai h (h'.put b x):=
 ⟨p.1,fun c hc=>by simp only[AH.put];rw[if_neg (by omega)];exact p.2 c hc⟩
structure SI(h:AH)(s:Sl)(xs:List Int):Prop where
 len:s.l=xs.length
 get:∀(i:Nat) (hi:i<xs.length),∃a,s.a=some a∧a.block<h.next∧h.cell a.block (a.off+i)=some (.int .i64 xs[i])
theorem SI.nil(h:AH):SI h ⟨none,0,0⟩ []:=⟨rfl,fun i hi=>by cases hi⟩
theorem SI.quiet{h h':AH}{s xs}(p:SI h s xs)(q:ai h h'):SI h' s xs:=⟨p.1,fun i hi=>by
 obtain⟨a,h1,h2,h3⟩:=p.2 i hi
 exact⟨a,h1,Nat.lt_of_lt_of_le h2 q.1,by unfold AH.cell at h3 ⊢;rw[q.2 _ h2];exact h3⟩⟩
section
variable{R:Type}
theorem SI.read{h:AH}{s:Sl}{xs:List Int}(p:SI h s xs){i:Int}(h0:0≤i)(hi:i.toNat<xs.length)(K:Int→Option R):
 (idx 1 s i fun q=>aE .i64 h q.block q.off K)=K xs[i.toNat]:=by
 obtain⟨a,h1,_,h3⟩:=p.2 i.toNat hi
 have hl:=p.1
 unfold idx
 rw[h1]
 simp only[if_pos h0]
 rw[if_pos (by omega)]
 unfold aE
 rw[Nat.mul_one,h3]
 simp[asInt]
end
def OI(n0:Nat)(h:AH)(s:Sl)(xs:List Int):Prop:=
 (xs=[]∧s=⟨none,0,0⟩)∨(∃b,n0≤b∧b<h.next∧xs≠[]∧s=⟨some ⟨b,0,none⟩,xs.length,nZ+1⟩∧h.gR b=some (xs.map (Value.int .i64)))
theorem OI.si{n0 h s xs}(p:OI n0 h s xs):SI h s xs:=by
 rcases p with⟨rfl,rfl⟩|⟨b,h1,h2,h3,rfl,h4⟩
 ·exact SI.nil h
 ·exact⟨rfl,fun i hi=>⟨_,rfl,h2,by simp[AH.cell,h4,hi]⟩⟩
section
variable{R:Type}
theorem OI.push{n0 fl:Nat}{h0 h:AH}{s:Sl}{xs:List Int}(p:OI n0 h s xs)(q:ai h0 h)(hn:h0.next=n0)(bN:fl≤n0)(hr:(xs.length+1)*8≤kA)(x:Int)(K:Sl→AH→Option R):
 ∃s' h',(cU h [.int .i64 x] fun b h1=>fW fl 1 8 s ⟨some ⟨b,0,none⟩,1,1⟩ h1 K)=K s' h'∧OI n0 h' s' (xs++[x])∧ai h0 h':=by
 have hb:(h.alloc [Value.int .i64 x]).gR h.next=some [Value.int .i64 x]:=by simp[AH.alloc]
 have rd:∀{R':Type} (F:List Value→Option R'),Cu (h.alloc [Value.int .i64 x]) (some ⟨h.next,0,none⟩) (1*1) F=F [.int .i64 x]:=by
  intro R' F
  simp[Cu,hb]
 rcases p with⟨rfl,rfl⟩|⟨b,h1,h2,h3,rfl,h4⟩
 ·refine⟨⟨some ⟨h.next+1,0,none⟩,1,nZ+1⟩,(h.alloc [.int .i64 x]).alloc [.int .i64 x],?_,.inr ⟨h.next+1,?_,?_,by simp,rfl,?_⟩,(q.trans (ai.alloc _ _)).trans (ai.alloc _ _)⟩
  ·show fW fl 1 8 ⟨none,0,0⟩ ⟨some ⟨h.next,0,none⟩,1,1⟩ (h.alloc [.int .i64 x]) K=_
   unfold fW
   simp only[List.length_nil] at hr
   rw[if_neg (by simp),if_pos (by simpa using hr),rd]
   simp[AH.alloc]
  ·have:=q.1;omega
  ·simp[AH.alloc]
  ·simp[AH.alloc]
 ·have hbn:(h.alloc [Value.int .i64 x]).gR b=some (xs.map (Value.int .i64)):=by simp[AH.alloc,Nat.ne_of_lt h2,h4]
  refine⟨⟨some ⟨h.next+1,0,none⟩,xs.length+1,nZ+1⟩,((h.alloc [.int .i64 x]).put b none).alloc (xs.map (Value.int .i64)++[.int .i64 x]),?_,.inr ⟨h.next+1,?_,?_,by simp,by simp,?_⟩,?_⟩
  ·show fW fl 1 8 ⟨some ⟨b,0,none⟩,xs.length,nZ+1⟩ ⟨some ⟨h.next,0,none⟩,1,1⟩ (h.alloc [.int .i64 x]) K=_
   unfold fW
   rw[if_neg (by simp),if_pos (by simpa using hr),rd]
   have hU:¬(nZ+1<nZ):=by omega
   have hrd:∀{R':Type} (F:List Value→Option R'),Cu (h.alloc [Value.int .i64 x]) (some ⟨b,0,none⟩) (xs.length*1) F=F (xs.map (Value.int .i64)):=by
    intro R' F
    simp[Cu,hbn,←List.map_take]
   simp only[if_neg hU,hrd]
   rw[if_pos ⟨by omega,trivial,rfl⟩]
   rfl
  ·have:=q.1;omega
  ·simp[AH.alloc,AH.put]
  ·simp[AH.alloc,AH.put]
  ·exact((q.trans (ai.alloc _ _)).put (by omega) none).trans (ai.alloc _ _)
end
theorem jf{n:Int}(h1: -9223372036854775808≤n)(h2:n<9223372036854775808):bL n=n:=by
 unfold bL
 rw[IntKind.wrap_i64];omega
end Go.Abs
end
section
namespace Go.Abs
def iv(xs:List Int):List Value:=xs.map (Value.int .i64)
def ints(l:List Nat):List Int:=l.map Int.ofNat
@[simp] theorem agM(xs:List Int):(iv xs).length=xs.length:=by simp[iv]
@[simp] theorem cz(l:List Nat):(ints l).length=l.length:=by simp[ints]
theorem F6(xs:List Int)(i:Nat)(h:i<xs.length):(iv xs)[i]?=some (.int .i64 xs[i]):=by simp[iv,h]
theorem iy(xs:List Int)(i:Nat)(n:Int):(iv xs).set i (.int .i64 n)=iv (xs.set i n):=by simp[iv,List.map_set]
theorem ints_set(l:List Nat)(i n:Nat):(ints l).set i (n:Int)=ints (l.set i n):=by simp[ints,List.map_set]
theorem dm(l:List Nat)(i:Nat)(h:i<(ints l).length):(ints l)[i]=((l[i]'(by simpa using h):Nat):Int):=by simp[ints]
structure OB(h:AH)(b:Nat)(vs:List Value):Prop where
 lt:b<h.next
 gR:h.gR b=some vs
theorem OB.alloc(h:AH)(vs:List Value):OB (h.alloc vs) h.next vs:=⟨Nat.lt_succ_self _,by simp[AH.alloc]⟩
theorem OB.put{h:AH}{b:Nat}{vs:List Value}(p:OB h b vs)(ws:List Value):OB (h.put b (some ws)) b ws:=⟨p.1,by simp[AH.put]⟩
theorem OB.Yz{h:AH}{b c:Nat}{vs:List Value}(p:OB h b vs)(hc:c≠b)(x:Option (List Value)):OB (h.put c x) b vs:=
 ⟨p.1,by simp only[AH.put];rw[if_neg (fun e=>hc e.symm)];exact p.2⟩
theorem OB.quiet{h h':AH}{b:Nat}{vs:List Value}(p:OB h b vs)(q:ai h h'):OB h' b vs:=⟨Nat.lt_of_lt_of_le p.1 q.1,by rw[q.2 b p.1];exact p.2⟩
theorem OB.si{h:AH}{b:Nat}{xs:List Int}(p:OB h b (iv xs))(t:Option Nat)(c:Nat):SI h ⟨some ⟨b,0,none⟩,xs.length,c⟩ xs:=
 ⟨rfl,fun i hi=>⟨_,rfl,p.1,by simp only[AH.cell,p.2,Nat.zero_add];exact F6 xs i hi⟩⟩
section
variable{R:Type}
theorem OB.st{h:AH}{b:Nat}{vs:List Value}(p:OB h b vs){fl o:Nat}{v:Value}(bN:fl≤b)(ho:o<vs.length)(hv:yC v=true)(K:AH→Option R):
 st fl h ⟨b,o,none⟩ [v] K=K (h.put b (some (vs.set o v))):=by
 unfold Abs.st
 simp only[p.2,if_pos bN]
 rw[if_pos (by simp),if_pos (by simp;omega),if_pos (by simp[hv])]
 rfl
theorem auw{s:Sl}{a:Addr}(ha:s.a=some a){i:Int}(h0:0≤i)(hi:i<s.l)(K:Addr→Option R):idx 1 s i K=K ⟨a.block,a.off+i.toNat,none⟩:=by
 unfold idx
 rw[ha]
 simp only
 rw[if_pos h0,if_pos hi,Nat.mul_one]
theorem aT{s:Sl}{a:Addr}(ha:s.a=some a){i:Nat}(hi:i<s.l)(K:Addr→Option R):idx 1 s (i:Int) K=K ⟨a.block,a.off+i,none⟩:=by
 rw[auw ha (by omega) (by omega)];simp
theorem OB.cell{h:AH}{b:Nat}{vs:List Value}(p:OB h b vs){o:Nat}{v:Value}(e:vs[o]?=some v):h.cell b o=some v:=by
 simp only[AH.cell,p.2];exact e
theorem ab{h:AH}{b o:Nat}{n:Int}(e:h.cell b o=some (.int .i64 n))(K:Int→Option R):aE .i64 h b o K=K n:=by
 unfold aE;rw[e];simp[asInt]
theorem auy{h:AH}{b o:Nat}{n:Bool}(e:h.cell b o=some (.bool n))(K:Bool→Option R):ldB h b o K=K n:=by
 unfold ldB;rw[e];rfl
theorem ah{h:AH}{b o:Nat}{s:Sl}(e:h.cell b o=some (.slice s.a s.l s.c))(K:Sl→Option R):bM h b o K=K s:=by
 unfold bM;rw[e];rfl
theorem yl{h:AH}{b o:Nat}{s:Option Addr}(e:h.cell b o=some (.pointer s))(K:Option Addr→Option R):ldN h b o K=K s:=by
 unfold ldN;rw[e];rfl
theorem ag{C:Callee}{fl f:Nat}{args:List Value}{h h1:AH}{v:Value}(e:C fl f args h=some (v,h1))(K:Value→AH→Option R):aC C fl f args h K=K v h1:=by
 unfold aC;rw[e]
theorem ajR{a b:Int}(hb:b≠0)(K:Int→Option R):jd .rem .i64 a b K=K (a.tmod b):=by
 unfold jd Cx;simp only[if_neg hb]
theorem ajS{a b:Int}(hb:b≠0)(K:Int→Option R):jd .quo .i64 a b K=K (bL (a.tdiv b)):=by
 unfold jd Cx;simp only[if_neg hb]
theorem gV{a b:Nat}(hb:0<b)(K:Int→Option R):jd .rem .i64 (a:Int) (b:Int) K=K ((a%b:Nat):Int):=by
 rw[ajR (by omega),Int.ofNat_tmod]
theorem av{n:Int}(m:Nat)(h:n=m)(hm:m<9223372036854775808):bL n=m:=by
 rw[jf (by omega) (by omega)];exact h
theorem D0{a b:Nat}(hb:0<b)(ha:a<9223372036854775808)(K:Int→Option R):jd .quo .i64 (a:Int) (b:Int) K=K ((a/b:Nat):Int):=by
 rw[ajS (by omega),←Int.ofNat_tdiv,av (a/b) rfl (Nat.lt_of_le_of_lt (Nat.div_le_self a b) ha)]
theorem ajT(v:Value)(n:Nat):KT [v] n=List.replicate n v:=by
 unfold KT
 induction n with
 |zero=>rfl
 |succ n ih=>rw[List.replicate_succ,List.flatten_cons,ih];rfl
theorem jg{bytes:Nat}{v:Value}{n:Nat}(hn:n*bytes≤kA)(h:AH)(K:Sl→AH→Option R):
 xg bytes [v] (n:Int) (n:Int) h K=K ⟨some ⟨h.next,0,none⟩,n,n⟩ (h.alloc (List.replicate n v)):=by
 unfold xg
 rw[if_pos ⟨by omega,by omega,by exact_mod_cast hn⟩]
 simp[ajT]
end
theorem oz(n:Nat):List.replicate n (Value.int .i64 0)=iv (ints (List.replicate n 0)):=by simp[iv,ints]
end Go.Abs
end
section
namespace Go.Abs
structure iL(x:Option Addr)(h h':AH):Prop where
 next:h.next≤h'.next
 gR:∀b,b<h.next→(∀a,x=some a→a.block≠b)→h'.gR b=h.gR b
theorem iL.ob{x:Option Addr}{h h':AH}(p:iL x h h'){b:Nat}{vs:List Value}(o:OB h b vs)(hb:∀a,x=some a→a.block≠b):OB h' b vs:=
 ⟨Nat.lt_of_lt_of_le o.1 p.1,by rw[p.2 b o.1 hb];exact o.2⟩
theorem iL.quiet{x:Option Addr}{h0 h h':AH}(p:iL x h h')(q:ai h0 h)(hx:∀a,x=some a→h0.next≤a.block):ai h0 h':=
 ⟨Nat.le_trans q.1 p.1,fun b hb=>by rw[p.2 b (Nat.lt_of_lt_of_le hb q.1) (fun a ha=>by have:=hx a ha;omega)];exact q.2 b hb⟩
theorem iL.put{h:AH}{b o:Nat}{t:Option Nat}(vs:Option (List Value)):iL (some ⟨b,o,t⟩) h (h.put b vs):=
 ⟨Nat.le_refl _,fun c _ hc=>by
  have:=hc _ rfl
  simp only[AH.put];rw[if_neg (fun e=>this e.symm)]⟩
theorem ai.ob{h h':AH}(q:ai h h'){b:Nat}{vs:List Value}(o:OB h b vs):OB h' b vs:=o.quiet q
theorem yS{h:AH}{c:Nat}(vs:List Value)(hc:c<h.next):(h.alloc vs).gR c=h.gR c:=by simp only[AH.alloc];rw[if_neg (by omega)]
theorem U9{h:AH}{b c:Nat}(x:Option (List Value))(hc:b≠c):(h.put b x).gR c=h.gR c:=by simp only[AH.put];rw[if_neg (fun e=>hc e.symm)]
def OV(n0:Nat)(h:AH)(s:Sl)(vs:List Value):Prop:=
 (vs=[]∧s=⟨none,0,0⟩)∨(∃b c,n0≤b∧b<h.next∧vs≠[]∧(c=nZ+1∨c=vs.length∧c<nZ)∧s=⟨some ⟨b,0,none⟩,vs.length,c⟩∧h.gR b=some vs)
theorem OV.nil(n0:Nat)(h:AH):OV n0 h ⟨none,0,0⟩ []:=.inl ⟨rfl,rfl⟩
theorem OV.len{n0 h s vs}(p:OV n0 h s vs):s.l=vs.length:=by
 rcases p with⟨rfl,rfl⟩|⟨b,c,_,_,_,_,rfl,_⟩<;>rfl
theorem OV.ge{n0 h s vs}(p:OV n0 h s vs):∀a,s.a=some a→n0≤a.block:=by
 rcases p with⟨rfl,rfl⟩|⟨b,c,h1,_,_,_,rfl,_⟩
 ·intro a h;cases h
 ·intro a h;cases h;exact h1
theorem OV.si{n0 h s}{xs:List Int}(p:OV n0 h s (iv xs)):SI h s xs:=by
 rcases p with⟨h1,rfl⟩|⟨b,c,h1,h2,h3,h4,rfl,h5⟩
 ·have:xs=[]:=by simpa [iv] using h1
  subst this;exact SI.nil h
 ·refine⟨by simp,fun i hi=>⟨_,rfl,h2,?_⟩⟩
  simp only[AH.cell,h5,Nat.zero_add];exact F6 xs i hi
theorem OV.acK{n0 h h' s vs}(p:OV n0 h s vs)(hn:h.next≤h'.next)(hb:∀a,s.a=some a→h'.gR a.block=h.gR a.block):OV n0 h' s vs:=by
 rcases p with⟨rfl,rfl⟩|⟨b,c,h1,h2,h3,h4,rfl,h5⟩
 ·exact OV.nil n0 h'
 ·exact .inr ⟨b,c,h1,Nat.lt_of_lt_of_le h2 hn,h3,h4,rfl,by rw[hb _ rfl];exact h5⟩
theorem OV.quiet{n0 h h' s vs}(p:OV n0 h s vs)(q:ai h h'):OV n0 h' s vs:=by
 rcases p with⟨rfl,rfl⟩|⟨b,c,h1,h2,h3,h4,rfl,h5⟩
 ·exact OV.nil n0 h'
 ·exact .inr ⟨b,c,h1,Nat.lt_of_lt_of_le h2 q.1,h3,h4,rfl,by rw[q.2 _ h2];exact h5⟩
theorem OV.full{h:AH}{b:Nat}{vs:List Value}{n0:Nat}(o:OB h b vs)(hb:n0≤b)(fA:vs≠[])(hu:vs.length<nZ):OV n0 h ⟨some ⟨b,0,none⟩,vs.length,vs.length⟩ vs:=
 .inr ⟨b,vs.length,hb,o.1,fA,.inr ⟨rfl,hu⟩,rfl,o.2⟩
theorem OV.mono{n0 n1 h s vs}(p:OV n0 h s vs)(hn:n1≤n0):OV n1 h s vs:=by
 rcases p with⟨rfl,rfl⟩|⟨b,c,h1,h2,h3,h4,rfl,h5⟩
 ·exact OV.nil n1 h
 ·exact .inr ⟨b,c,Nat.le_trans hn h1,h2,h3,h4,rfl,h5⟩
section
variable{R:Type}
theorem OV.push{n0 fl bytes:Nat}{h:AH}{s:Sl}{vs:List Value}(p:OV n0 h s vs)(bN:fl≤n0)(hn0:n0≤h.next)(hr:(vs.length+1)*bytes≤kA){x:Value}(hx:yC x=true)(K:Sl→AH→Option R):
 ∃s' h',(cU h [x] fun b h1=>fW fl 1 bytes s ⟨some ⟨b,0,none⟩,1,1⟩ h1 K)=K s' h'∧OV n0 h' s' (vs++[x])∧iL s.a h h'∧(∀a,s'.a=some a→h.next≤a.block):=by
 have hb:(h.alloc [x]).gR h.next=some [x]:=by simp[AH.alloc]
 have rd:∀{R':Type} (F:List Value→Option R'),Cu (h.alloc [x]) (some ⟨h.next,0,none⟩) (1*1) F=F [x]:=by
  intro R' F
  simp[Cu,hb]
 rcases p with⟨rfl,rfl⟩|⟨b,c,h1,h2,h3,h4,rfl,h5⟩
 ·refine⟨⟨some ⟨h.next+1,0,none⟩,1,nZ+1⟩,(h.alloc [x]).alloc [x],?_,.inr ⟨h.next+1,nZ+1,by omega,?_,by simp,.inl rfl,rfl,?_⟩,⟨?_,?_⟩,?_⟩
  ·show fW fl 1 bytes ⟨none,0,0⟩ ⟨some ⟨h.next,0,none⟩,1,1⟩ (h.alloc [x]) K=_
   unfold fW
   simp only[List.length_nil] at hr
   rw[if_neg (by simp),if_pos (by simpa using hr),rd]
   simp[AH.alloc]
  ·simp[AH.alloc]
  ·simp[AH.alloc]
  ·simp only[AH.alloc];omega
  ·intro c hc _;rw[yS _ (by simp only[AH.alloc];omega),yS _ hc]
  ·intro a ha;cases ha;simp
 ·have hbn:(h.alloc [x]).gR b=some vs:=by simp[AH.alloc,Nat.ne_of_lt h2,h5]
  have hrd:∀{R':Type} (F:List Value→Option R'),Cu (h.alloc [x]) (some ⟨b,0,none⟩) (vs.length*1) F=F vs:=by
   intro R' F
   simp[Cu,hbn]
  rcases h4 with rfl|⟨rfl,hu⟩
  ·refine⟨⟨some ⟨h.next+1,0,none⟩,vs.length+1,nZ+1⟩,((h.alloc [x]).put b none).alloc (vs++[x]),?_,.inr ⟨h.next+1,nZ+1,by omega,?_,by simp,.inl rfl,by simp,?_⟩,⟨?_,?_⟩,?_⟩
   ·show fW fl 1 bytes ⟨some ⟨b,0,none⟩,vs.length,nZ+1⟩ ⟨some ⟨h.next,0,none⟩,1,1⟩ (h.alloc [x]) K=_
    unfold fW
    rw[if_neg (by simp),if_pos (by simpa using hr),rd]
    have hU:¬(nZ+1<nZ):=by omega
    simp only[if_neg hU,hrd]
    rw[if_pos ⟨by omega,trivial,by simp[hx]⟩]
    rfl
   ·simp[AH.alloc,AH.put]
   ·simp[AH.alloc,AH.put]
   ·simp only[AH.alloc,AH.put];omega
   ·intro c hc hcb
    have:=hcb _ rfl
    rw[yS _ (by simp only[AH.alloc,AH.put];omega),U9 _ this,yS _ hc]
   ·intro a ha;cases ha;simp
  ·refine⟨⟨some ⟨h.next+1,0,none⟩,vs.length+1,nZ+1⟩,(h.alloc [x]).alloc (vs++[x]),?_,.inr ⟨h.next+1,nZ+1,by omega,?_,by simp,.inl rfl,by simp,?_⟩,⟨?_,?_⟩,?_⟩
   ·show fW fl 1 bytes ⟨some ⟨b,0,none⟩,vs.length,vs.length⟩ ⟨some ⟨h.next,0,none⟩,1,1⟩ (h.alloc [x]) K=_
    unfold fW
    rw[if_neg (by simp),if_pos (by simpa using hr),rd]
    simp only[if_pos hu,hrd]
    rw[if_neg (by omega)]
    rfl
   ·simp[AH.alloc]
   ·simp[AH.alloc]
   ·simp only[AH.alloc];omega
   ·intro c hc _;rw[yS _ (by simp only[AH.alloc];omega),yS _ hc]
   ·intro a ha;cases ha;simp
end
end Go.Abs
namespace Go.Abs
theorem iL.trans{x:Option Addr}{a b c:AH}(p:iL x a b)(q:iL x b c):iL x a c:=
 ⟨Nat.le_trans p.1 q.1,fun d hd hx=>(q.2 d (Nat.lt_of_lt_of_le hd p.1) hx).trans (p.2 d hd hx)⟩
theorem iL.refl(x:Option Addr)(h:AH):iL x h h:=⟨Nat.le_refl _,fun _ _ _=>rfl⟩
theorem iL.QB{x:Option Addr}{h h':AH}(q:ai h h'):iL x h h':=⟨q.1,fun b hb _=>q.2 b hb⟩
theorem SI.AA{x:Option Addr}{h h':AH}{s:Sl}{xs:List Int}(p:SI h s xs)(q:iL x h h')(fA:∀a b,s.a=some a→x=some b→b.block≠a.block):SI h' s xs:=⟨p.1,fun i hi=>by
 obtain⟨a,h1,h2,h3⟩:=p.2 i hi
 exact⟨a,h1,Nat.lt_of_lt_of_le h2 q.1,by unfold AH.cell at h3 ⊢;rw[q.2 _ h2 (fun b hb=>fA a b h1 hb)];exact h3⟩⟩
theorem SI.Cu{R:Type}{h:AH}{s:Sl}{xs:List Int}(p:SI h s xs)(fA:xs≠[])(K:List Value→Option R):Cu h s.a (s.l*1) K=K (iv xs):=by
 have hl:0<xs.length:=List.length_pos_iff.2 fA
 obtain⟨a,h1,h2,h3⟩:=p.2 0 hl
 unfold Abs.Cu
 rw[h1]
 unfold AH.cell at h3
 cases hb:h.gR a.block with
 |none=>rw[hb] at h3;cases h3
 |some cs=>
  simp only
  have kY:∀i (hi:i<xs.length),cs[a.off+i]?=some (.int .i64 xs[i]):=by
   intro i hi
   obtain⟨a',g1,g2,g3⟩:=p.2 i hi
   rw[h1] at g1
   cases g1
   unfold AH.cell at g3
   rw[hb] at g3
   exact g3
  have hlen:a.off+xs.length≤cs.length:=by
   have h4:=kY (xs.length-1) (by omega)
   have h5:a.off+(xs.length-1)<cs.length:=by
    refine Classical.byContradiction fun hc=>?_
    rw[List.getElem?_eq_none (by omega)] at h4
    cases h4
   omega
  simp only[hb]
  rw[p.1,Nat.mul_one,if_pos hlen]
  congr 1
  apply List.ext_getElem?
  intro i
  by_cases hi:i<xs.length
  ·rw[List.getElem?_take,if_pos hi,List.getElem?_drop,kY i hi,F6 xs i hi]
  ·rw[List.getElem?_take,if_neg hi,List.getElem?_eq_none (by simp;omega)]
theorem SI.lt{h:AH}{s:Sl}{xs:List Int}(p:SI h s xs)(fA:xs≠[]):∀a,s.a=some a→a.block<h.next:=by
 obtain⟨a,h1,h2,_⟩:=p.2 0 (List.length_pos_iff.2 fA)
 intro b hb
 rw[h1] at hb;cases hb;exact h2
end Go.Abs
end
section
namespace Go.Abs
open Go.RowKit Go.ChangeShapes Go.WideShapes
def nice(n:Nat):Value→Bool
 |.bool _=>true
 |.int _ _=>true
 |.pointer none=>true
 |.pointer (some a)=>decide (a.block<n)&&a.spot.isNone
 |.slice none l c=>decide (l=0)&&decide (c=0)
 |.slice (some a) l c=>(decide (l=0)&&decide (c=0))||(decide (a.block<n)&&a.spot.isNone&&decide (c<nZ)&&decide (l≤c))
 |_=>false
def img(n:Nat)(v:Value):Value:=if nice n v=true then v else .tuple #[]
def muW(w:World):Mu:=fun b=>if b<w.heap.size then some (b,0) else none
theorem ajU{w:World}{b:Nat}(h:b<w.heap.size):muW w b=some (b,0):=by unfold muW;rw[if_pos h]
theorem YA{w:World}{b rb o:Nat}(h:muW w b=some (rb,o)):rb=b∧o=0∧b<w.heap.size:=by
 unfold muW at h
 split at h
 ·simp only[Option.some.injEq,Prod.mk.injEq] at h;exact⟨h.1.symm,h.2.symm,by assumption⟩
 ·cases h
theorem QC{w:World}{sz:Nat→Nat}{v:Value}(h:nice w.heap.size v=true):cB (muW w) sz v v:=by
 unfold nice at h
 split at h
 ·exact .bool _
 ·exact .int _ _
 ·exact .Mb
 ·rename_i a
  simp only[Bool.and_eq_true,decide_eq_true_eq,Option.isNone_iff_eq_none] at h
  obtain⟨b,o,s⟩:=a
  obtain⟨h1,h2⟩:=h
  simp only at h2;subst h2
  have:=cB.ptr (μ:=muW w) (sz:=sz) (b:=b) (o:=o) (s:=none) (ajU h1)
  rwa[Nat.zero_add] at this
 ·rename_i l c
  simp only[Bool.and_eq_true,decide_eq_true_eq] at h
  obtain⟨rfl,rfl⟩:=h
  exact .kX
 ·rename_i a l c
  simp only[Bool.or_eq_true,Bool.and_eq_true,decide_eq_true_eq,Option.isNone_iff_eq_none] at h
  rcases h with⟨rfl,rfl⟩|⟨⟨⟨h1,h2⟩,h3⟩,h4⟩
  ·exact .TJ
  ·obtain⟨b,o,s⟩:=a
   simp only at h2;subst h2
   have:=cB.slice (μ:=muW w) (sz:=sz) (b:=b) (o:=o) (s:=none) (ajU h1) h3 h4
   rwa[Nat.zero_add] at this
 ·cases h
theorem aoy{w:World}{sz:Nat→Nat}(v:Value):cB (muW w) sz (img w.heap.size v) v:=by
 unfold img
 split
 ·exact QC (by assumption)
 ·exact .uv v
def K7(w:World):AH:=⟨w.heap.size,fun b=>match w.heap[b]? with
 |some (.cells c _ _)=>some (c.toList.map (img w.heap.size))
 |_=>none⟩
theorem YB{w:World}{b:Nat}{cs:List Value}(h:(K7 w).gR b=some cs):∃c t f,w.heap[b]?=some (.cells c t f)∧cs=c.toList.map (img w.heap.size):=by
 unfold K7 at h
 simp only at h
 split at h
 ·rename_i c t f e;injection h with h;exact⟨c,t,f,e,h.symm⟩
 ·cases h
theorem Va{w:World}{b:Nat}{cs:List Value}(h:(K7 w).gR b=some cs):b<w.heap.size:=by
 obtain⟨c,t,f,e,_⟩:=YB h
 exact(Array.getElem?_eq_some_iff.1 e).1
theorem ajV(w:World):yB w.heap.size w.heap.size (muW w) (K7 w) w where
 cell b cs rb o h1 h2 j v hv:=by
  obtain⟨rfl,rfl,_⟩:=YA h2
  obtain⟨c,t,f,e,rfl⟩:=YB h1
  rw[List.getElem?_map] at hv
  cases hc:c.toList[j]? with
  |none=>rw[hc] at hv;cases hv
  |some v'=>
   rw[hc] at hv
   simp only[Option.map_some,Option.some.injEq] at hv
   subst hv
   refine⟨v',?_,aoy v'⟩
   simp only[World.cell?,e,Nat.zero_add]
   simpa using hc
 own b cs rb o h0 h1 _:=by have:=Va h1;omega
 inj b b' cs eC rb o o' h0 h1:=by have:=Va h1;omega
 lt b rb o h:=by obtain⟨rfl,_,h3⟩:=YA h;exact h3
 PS b cs h:=Va h
theorem IL{w:World}{a:Addr}{v:Value}(h:w.cell? a=some v):a.spot=none∧a.block<w.heap.size∧(K7 w).cell a.block a.off=some (img w.heap.size v):=by
 unfold World.cell? at h
 split at h
 ·rename_i c t f e
  split at h
  ·cases h
  ·rename_i hs
   refine⟨by simpa using hs,(Array.getElem?_eq_some_iff.1 e).1,?_⟩
   unfold AH.cell K7
   simp only[e,List.getElem?_map]
   rw[show c.toList[a.off]?=some v by simpa using h]
   rfl
 ·cases h
theorem D3(a:Addr)(n:Nat):(a.add n).block=a.block∧(a.add n).off=a.off+n:=by unfold Addr.add;split<;>simp_all
theorem aoz{P:Program}{C:Callee}(hC:fx P C){f:FuncId}{args args':List Value}{b:Bool}{w:World}{h':AH}(e:C w.heap.size f args (K7 w)=some (.bool b,h'))(ha:bq (muW w) (cX w) args args'):
 Calls P f args'.toArray w fun e w'=>e=.returned (.bool b)∧Below w.heap.size w w':=by
 refine(hC.sound _ _ _ _ _ _ e w.heap.size w.heap.size (muW w) w args' (ajV w) (Nat.le_refl _) (Nat.le_refl _) (Nat.le_refl _) ha ?_).mono ?_
 ·intro c h1 _
  unfold muW
  rw[if_neg (by have:w.heap.size≤c:=h1;omega)]
 ·rintro e' w' ⟨v',μ',rfl,p,hv⟩
  have:=hv.tH
  subst this
  exact⟨rfl,⟨p.os,p.tape,p.output,p.hs,fun rb EO=>p.fr rb EO fun c cs o h1 h2=>by have:c<w.heap.size:=h2;omega⟩⟩
section
variable{H:Type}{enc:TypeId×Value→H}{P:Program}{w:World}{held:Bool}
theorem SI.open{t e:TypeId}{fuel:Nat}{a:Option Addr}{l c:Nat}{x:DataW H×List MemPlace}(ht:P.underlying t=some (.slice e))(he:P.underlying e=some (.int .i64))(hc:P.cellsOf e=1)
 (h:DataW.trod enc P w 0 (fun _=>true) held fuel t [.slice a l c]=some x):∃xs:List Int,SI (K7 w) ⟨a,l,c⟩ xs∧xs.length≤maxLen∧nice w.heap.size (.slice a l c)=true∧∀n∈xs,(Lit.int .i64 n).wf=true:=by
 rcases open_ints ht he hc h with⟨hcs,_⟩|⟨x,l',c',zs,hcs,_,hl,hm,hz,_,kY,hwz⟩
 ·simp only[List.cons.injEq,Value.slice.injEq,and_true] at hcs
  obtain⟨rfl,rfl,rfl⟩:=hcs
  exact⟨[],SI.nil _,by simp,rfl,by simp⟩
 ·simp only[List.cons.injEq,Value.slice.injEq,and_true] at hcs
  obtain⟨rfl,rfl,rfl⟩:=hcs
  simp only[if_true] at hz
  have hlen:(zs.take l).length=l:=by simp;omega
  refine⟨zs.take l,⟨hlen.symm,fun i hi=>?_⟩,by omega,?_,fun n hn=>hwz n (List.mem_of_mem_take hn)⟩
  ·have By:i<zs.length:=by rw[hlen] at hi;omega
   obtain⟨h1,h2,h3⟩:=IL (kY i By)
   rw[(D3 x i).1,(D3 x i).2] at h3
   rw[(D3 x i).1] at h2
   refine⟨x,rfl,h2,?_⟩
   rw[h3]
   simp[img,nice,List.getElem?_eq_getElem By]
  ·by_cases h0:c=0
   ·have:l=0:=by omega
    subst h0;subst this;simp[nice]
   ·have h1:=IL (kY 0 (by omega))
    have e0:x.add 0=x:=by simp[Addr.add]
    rw[e0] at h1
    obtain⟨h1,h2,_⟩:=h1
    simp[nice,h1,h2,hl]
    right
    unfold maxLen at hm;unfold nZ;omega
end
end Go.Abs
end
section
namespace Go.Abs.fn
abbrev fG:Nat:=9
abbrev eE:Nat:=11
abbrev nC:Nat:=12
abbrev dK:Nat:=13
abbrev fe:Nat:=15
abbrev gi:Nat:=17
abbrev aea:Nat:=18
abbrev abP:Nat:=20
abbrev bV:Nat:=23
abbrev aeb:Nat:=25
abbrev aiH:Nat:=28
abbrev qh:Nat:=29
abbrev nD:Nat:=32
abbrev aoA:Nat:=33
abbrev lp:Nat:=34
abbrev axd:Nat:=37
abbrev jh:Nat:=38
abbrev eA:Nat:=39
abbrev cG:Nat:=40
abbrev ji:Nat:=43
abbrev jj:Nat:=44
abbrev gj:Nat:=47
abbrev aec:Nat:=48
abbrev aiI:Nat:=49
abbrev fy:Nat:=54
abbrev abQ:Nat:=56
abbrev abR:Nat:=59
abbrev vB:Nat:=60
abbrev gW:Nat:=62
abbrev kH:Nat:=63
abbrev aoB:Nat:=64
abbrev aoC:Nat:=65
abbrev ajW:Nat:=66
abbrev dF:Nat:=67
abbrev vS:Nat:=68
abbrev D4:Nat:=69
abbrev jZ:Nat:=70
abbrev cF:Nat:=73
abbrev nE:Nat:=74
abbrev ff:Nat:=75
abbrev aM:Nat:=76
abbrev cK:Nat:=77
abbrev fN:Nat:=79
abbrev nF:Nat:=80
abbrev ajX:Nat:=81
abbrev gm:Nat:=82
abbrev ajY:Nat:=83
abbrev agO:Nat:=84
abbrev auA:Nat:=85
abbrev kI:Nat:=86
abbrev lq:Nat:=89
abbrev ajZ:Nat:=90
abbrev YC:Nat:=91
abbrev Vb:Nat:=94
abbrev kJ:Nat:=96
abbrev nG:Nat:=97
abbrev gX:Nat:=98
abbrev gY:Nat:=99
abbrev aed:Nat:=100
abbrev aj0:Nat:=101
abbrev c7:Nat:=102
abbrev gZ:Nat:=103
abbrev eO:Nat:=104
abbrev yT:Nat:=105
abbrev kK:Nat:=106
abbrev kL:Nat:=109
abbrev jk:Nat:=110
abbrev auB:Nat:=111
abbrev kM:Nat:=112
abbrev hJ:Nat:=113
abbrev cC:Nat:=114
abbrev dB:Nat:=115
abbrev cH:Nat:=116
abbrev jz:Nat:=117
abbrev dL:Nat:=118
abbrev jA:Nat:=119
abbrev dM:Nat:=120
abbrev fR:Nat:=123
abbrev hS:Nat:=124
abbrev fz:Nat:=125
abbrev qi:Nat:=126
abbrev aj1:Nat:=127
abbrev XQ:Nat:=128
abbrev XR:Nat:=134
abbrev mA:Nat:=136
abbrev lu:Nat:=137
abbrev abS:Nat:=138
abbrev hX:Nat:=139
abbrev jl:Nat:=140
abbrev lx:Nat:=141
abbrev ly:Nat:=142
abbrev fS:Nat:=143
abbrev eY:Nat:=144
abbrev qj:Nat:=145
abbrev j0:Nat:=146
abbrev lz:Nat:=147
abbrev eZ:Nat:=148
abbrev hZ:Nat:=149
abbrev awa:Nat:=151
abbrev vT:Nat:=152
abbrev nH:Nat:=153
abbrev qk:Nat:=154
abbrev nI:Nat:=155
abbrev cL:Nat:=156
abbrev fO:Nat:=157
abbrev Vc:Nat:=158
abbrev Uh:Nat:=159
abbrev atd:Nat:=160
abbrev XS:Nat:=161
abbrev SA:Nat:=162
abbrev eJ:Nat:=166
abbrev bG:Nat:=167
abbrev eK:Nat:=168
abbrev eL:Nat:=169
abbrev gn:Nat:=170
abbrev j5:Nat:=171
abbrev gO:Nat:=172
abbrev nJ:Nat:=173
abbrev yU:Nat:=174
abbrev abT:Nat:=175
abbrev Vd:Nat:=176
abbrev anA:Nat:=177
abbrev anB:Nat:=178
abbrev XT:Nat:=179
abbrev anC:Nat:=180
abbrev XU:Nat:=181
abbrev XV:Nat:=185
abbrev aj2:Nat:=186
abbrev ub:Nat:=187
abbrev Pd:Nat:=188
abbrev Ve:Nat:=189
abbrev Pe:Nat:=190
abbrev Sv:Nat:=191
abbrev QD:Nat:=192
abbrev F7:Nat:=193
abbrev axe:Nat:=194
abbrev NS:Nat:=195
abbrev Ui:Nat:=196
abbrev aiJ:Nat:=198
abbrev ql:Nat:=201
end Go.Abs.fn
namespace Go.Abs.P
open CP
theorem acL{T0:Type}{s:T0→List Value}{n:Nat}{c:aa}{rs:List Cz}{C:Callee}{fl k:Nat}{F:T0→AH→Option (Value×AH)}(e:cp s (ce C fl k c (aD rs))=F)(x0:T0){a:List Value}{h:AH}{r:Option (Value×AH)}(e1:a++List.replicate (n-a.length) undef=s x0)(e2:F x0 h=r):bl C fl k ⟨n,c,rs⟩ a h=r:=by subst e2;subst e;unfold bl;simp only[];rw[e1];rfl
theorem Ca{T0 T1:Type}{s:T0→T1→List Value}{n:Nat}{c:aa}{rs:List Cz}{C:Callee}{fl k:Nat}{F:T0→T1→AH→Option (Value×AH)}(e:cp s (ce C fl k c (aD rs))=F)(x0:T0)(x1:T1){a:List Value}{h:AH}{r:Option (Value×AH)}(e1:a++List.replicate (n-a.length) undef=s x0 x1)(e2:F x0 x1 h=r):bl C fl k ⟨n,c,rs⟩ a h=r:=by subst e2;subst e;unfold bl;simp only[];rw[e1];rfl
theorem yV{T0 T1 T2:Type}{s:T0→T1→T2→List Value}{n:Nat}{c:aa}{rs:List Cz}{C:Callee}{fl k:Nat}{F:T0→T1→T2→AH→Option (Value×AH)}(e:cp s (ce C fl k c (aD rs))=F)(x0:T0)(x1:T1)(x2:T2){a:List Value}{h:AH}{r:Option (Value×AH)}(e1:a++List.replicate (n-a.length) undef=s x0 x1 x2)(e2:F x0 x1 x2 h=r):bl C fl k ⟨n,c,rs⟩ a h=r:=by subst e2;subst e;unfold bl;simp only[];rw[e1];rfl
theorem NT{T0 T1 T2 T3:Type}{s:T0→T1→T2→T3→List Value}{n:Nat}{c:aa}{rs:List Cz}{C:Callee}{fl k:Nat}{F:T0→T1→T2→T3→AH→Option (Value×AH)}(e:cp s (ce C fl k c (aD rs))=F)(x0:T0)(x1:T1)(x2:T2)(x3:T3){a:List Value}{h:AH}{r:Option (Value×AH)}(e1:a++List.replicate (n-a.length) undef=s x0 x1 x2 x3)(e2:F x0 x1 x2 x3 h=r):bl C fl k ⟨n,c,rs⟩ a h=r:=by subst e2;subst e;unfold bl;simp only[];rw[e1];rfl
theorem vU{T0 T1 T2 T3 T4:Type}{s:T0→T1→T2→T3→T4→List Value}{n:Nat}{c:aa}{rs:List Cz}{C:Callee}{fl k:Nat}{F:T0→T1→T2→T3→T4→AH→Option (Value×AH)}(e:cp s (ce C fl k c (aD rs))=F)(x0:T0)(x1:T1)(x2:T2)(x3:T3)(x4:T4){a:List Value}{h:AH}{r:Option (Value×AH)}(e1:a++List.replicate (n-a.length) undef=s x0 x1 x2 x3 x4)(e2:F x0 x1 x2 x3 x4 h=r):bl C fl k ⟨n,c,rs⟩ a h=r:=by subst e2;subst e;unfold bl;simp only[];rw[e1];rfl
theorem auC{T0 T1 T2 T3 T4 T5:Type}{s:T0→T1→T2→T3→T4→T5→List Value}{n:Nat}{c:aa}{rs:List Cz}{C:Callee}{fl k:Nat}{F:T0→T1→T2→T3→T4→T5→AH→Option (Value×AH)}(e:cp s (ce C fl k c (aD rs))=F)(x0:T0)(x1:T1)(x2:T2)(x3:T3)(x4:T4)(x5:T5){a:List Value}{h:AH}{r:Option (Value×AH)}(e1:a++List.replicate (n-a.length) undef=s x0 x1 x2 x3 x4 x5)(e2:F x0 x1 x2 x3 x4 x5 h=r):bl C fl k ⟨n,c,rs⟩ a h=r:=by subst e2;subst e;unfold bl;simp only[];rw[e1];rfl
theorem azW{T0 T1 T2 T3 T4 T5 T6:Type}{s:T0→T1→T2→T3→T4→T5→T6→List Value}{n:Nat}{c:aa}{rs:List Cz}{C:Callee}{fl k:Nat}{F:T0→T1→T2→T3→T4→T5→T6→AH→Option (Value×AH)}(e:cp s (ce C fl k c (aD rs))=F)(x0:T0)(x1:T1)(x2:T2)(x3:T3)(x4:T4)(x5:T5)(x6:T6){a:List Value}{h:AH}{r:Option (Value×AH)}(e1:a++List.replicate (n-a.length) undef=s x0 x1 x2 x3 x4 x5 x6)(e2:F x0 x1 x2 x3 x4 x5 x6 h=r):bl C fl k ⟨n,c,rs⟩ a h=r:=by subst e2;subst e;unfold bl;simp only[];rw[e1];rfl
end Go.Abs.P
end
section
namespace Go.Proofs
open Go.RowKit Go.Shelf Go.Maps
def Sq.intOf:Value→Int|.int _ q=>q|_=>0
attribute [local go_sem] Oper.semAt_some
def Sq.upto{α:Type}(f:Nat→α)(k:Nat):List α:=(List.range k).map f
theorem Sq.Uj{α:Type}(f:Nat→α)(k:Nat):Sq.upto f (k+1)=Sq.upto f k++[f k]:=by simp[Sq.upto,List.range_succ]
theorem Sq.YD{α:Type}(f:Nat→α)(k:Nat):(Sq.upto f k).length=k:=by simp[Sq.upto]
theorem Sq.aj3(zs:List Int):Sq.upto (fun j=>zs[j]?.getD 0) zs.length=zs:=by
 apply List.ext_getElem
 ·simp[Sq.upto]
 ·intro i h1 h2
  simp[Sq.upto,h2]
set_option maxRecDepth 100000 in
set_option maxHeartbeats 2000000 in
theorem Sq.acM(F:Fence)(n:Nat)(h187:F.fn 187)(hro:F.round=none)(hn:1≤n)(l Bs Bo n₀ b off len cap:Nat)(zs:List Int)(hreach:len*8≤140737488351232)(hb:b<n₀)(J Jx:List Int→World→Prop)
 (hY:∀pre x W,J pre W→pre.length<len→YieldAt F (n-1) Tryz.prog l #[.int .i64 x] W fun e W'=>
  (e=.returned (.bool true)∧J (pre++[x]) W'∧Below n₀ W W')∨(e=.returned (.bool false)∧Jx (pre++[x]) W'))
 (W:World) (hBs:W.cell? ⟨Bs,Bo,none⟩=some (.slice (some ⟨b,off,none⟩) len cap)) (hc:∀j,j<len→W.cell? ⟨b,off+j,none⟩=some (.int .i64 (zs[j]?.getD 0))) (h0:J [] W):
 CallsIn F n Tryz.prog 187 #[.func (.yield l) #[] #[],.pointer (some ⟨Bs,Bo,none⟩)] W fun e W'=>(∃v,e=.returned v)∧
  ((∃ys,ys=Sq.upto (fun j=>zs[j]?.getD 0) len∧J ys W')∨(∃pre,(∃k,k≤len∧pre=Sq.upto (fun j=>zs[j]?.getD 0) k)∧Jx pre W')):=by
 refine callsIn_of_wp Tryz.func187 rfl h187 ?_ hro
 simp only[Tryz.ntmps187,List.size_toArray,List.length_cons,List.length_nil,Nat.reduceAdd,Nat.reduceSub,Array.replicate_succ,Array.replicate_zero,List.push_toArray,List.append_toArray,List.nil_append,List.cons_append]
 gi_wp2
 gi_loopw [7] (fun i wr=>∃k:Nat,k≤len∧i=.int .i64 k∧J (Sq.upto (fun j=>zs[j]?.getD 0) k) wr∧Below n₀ W wr)
  (fun i _=>len-(Sq.intOf i).toNat)
 case atStart=>exact⟨0,Nat.zero_le _,rfl,h0,Below.refl _ _⟩
 case round=>
  obtain⟨k,hk,rfl,hJs,hnx⟩:=hrel
  have hcx:k<len→wr.cell? ⟨b,off+k,none⟩=some (.int .i64 (zs[k]?.getD 0)):=fun h=>(hnx.cell (p:=⟨b,off+k,none⟩) hb).trans (hc k h)
  by_cases hlt:k<len
  ·obtain⟨fn,tmps,assign,body,hy,hR⟩:=hY _ (zs[k]?.getD 0) wr hJs (by rw[Sq.YD];exact hlt)
   have hcx':=hcx hlt
   gi_wp2
   refine hR.mono ?_
   rintro e W3 (⟨rfl,hJ3,hk3⟩|⟨rfl,hJx3⟩)
   ·
     gi_wp2
     go_roundw
     case rel=>exact⟨k+1,by omega,by simp,by rw[Sq.Uj];exact hJ3,hnx.trans hk3⟩
     case measure=>simp[Sq.intOf];omega
   ·gi_wp2
    refine bodyPost_ret (results_none rfl _ _ _) rfl ?_
    exact⟨⟨_,rfl⟩,.inr ⟨_,⟨k+1,by omega,(Sq.Uj _ _).symm⟩,hJx3⟩⟩
  ·obtain rfl:k=len:=by omega
   gi_wp2
   go_end0
   exact⟨⟨_,rfl⟩,.inl ⟨_,rfl,hJs⟩⟩
theorem Sq.agP(zs:List Int){k:Nat}(hk:k≤zs.length):Sq.upto (fun j=>zs[j]?.getD 0) k=zs.take k:=by
 apply List.ext_getElem
 ·simp[Sq.upto,hk]
 ·intro i h1 h2
  have:i<zs.length:=by simp[Sq.upto] at h1;omega
  simp[Sq.upto,this]
def Sq.agQ(n₀:Nat)(W:World)(sv:Value)(zs:List Int):Prop:=
 (sv=.slice none 0 0∧zs=[])∨∃b off cap,sv=.slice (some ⟨b,off,none⟩) zs.length cap∧b<n₀∧∀j,j<zs.length→W.cell? ⟨b,off+j,none⟩=some (.int .i64 (zs[j]?.getD 0))
theorem Sq.agQ.below{n₀:Nat}{A B:World}(h:Below n₀ A B){sv:Value}{zs:List Int}:Sq.agQ n₀ A sv zs→Sq.agQ n₀ B sv zs
 |.inl e=>.inl e
 |.inr ⟨b,off,cap,e,hb,hc⟩=>.inr ⟨b,off,cap,e,hb,fun j hj=>(h.cell (p:=⟨b,off+j,none⟩) hb).trans (hc j hj)⟩
set_option maxRecDepth 100000 in
set_option maxHeartbeats 1000000 in
theorem Sq.QE(F:Fence)(n:Nat)(h187:F.fn 187)(hro:F.round=none)(l Bs Bo:Nat)(J:List Int→World→Prop)(W:World)(hBs:W.cell? ⟨Bs,Bo,none⟩=some (.slice none 0 0))(h0:J [] W):
 CallsIn F n Tryz.prog 187 #[.func (.yield l) #[] #[],.pointer (some ⟨Bs,Bo,none⟩)] W fun e W'=>(∃v,e=.returned v)∧J [] W':=by
 refine callsIn_of_wp Tryz.func187 rfl h187 ?_ hro
 simp only[Tryz.ntmps187,List.size_toArray,List.length_cons,List.length_nil,Nat.reduceAdd,Nat.reduceSub,Array.replicate_succ,Array.replicate_zero,List.push_toArray,List.append_toArray,List.nil_append,List.cons_append]
 gi_wp2
 gi_loopw [7] (fun i wr=>i=.int .i64 0∧J [] wr) (fun _ _=>0)
 case atStart=>exact⟨rfl,h0⟩
 case round=>
  obtain⟨rfl,hJs⟩:=hrel
  gi_wp2
  go_end0
  exact⟨⟨_,rfl⟩,hJs⟩
theorem Sq.Vf(F:Fence)(n:Nat)(h187:F.fn 187)(hro:F.round=none)(hn:1≤n)(Bs Bo n₀:Nat)(sv:Value)(zs:List Int)(hreach:zs.length*8≤140737488351232)(w:World)(hBs:Bs<w.heap.size)(hn₀:n₀≤w.heap.size)
 (hc:w.cell? ⟨Bs,Bo,none⟩=some sv) (hI:Sq.agQ n₀ w sv zs):
 SeqStopsK F n Tryz.prog 187 #[.pointer (some ⟨Bs,Bo,none⟩)] (fun x:Int=>#[Value.int .i64 x]) (Below n₀) (fun ys=>ys=zs) (fun pre=>pre<+:zs) zs.length w:=fun l J Jx W hW _ _ hY h0=>by
 have hc':=(hW.cell (p:=⟨Bs,Bo,none⟩) hBs).trans hc
 rcases hI.below (hW.mono hn₀) with⟨rfl,rfl⟩|⟨b,off,cap,rfl,hb,hcs⟩
 ·exact(Sq.QE F n h187 hro l Bs Bo J W hc' h0).mono fun e W' ⟨he,hj⟩=>⟨he,.inl ⟨_,rfl,hj⟩⟩
 ·refine(Sq.acM F n h187 hro hn l Bs Bo n₀ b off zs.length cap zs hreach hb J Jx hY W hc' hcs h0).mono ?_
  rintro e W' ⟨he,⟨ys,rfl,hj⟩|⟨pre,⟨k,hk,rfl⟩,hj⟩⟩
  ·exact⟨he,.inl ⟨_,Sq.aj3 zs,hj⟩⟩
  ·exact⟨he,.inr ⟨_,by rw[Sq.agP zs hk];exact List.take_prefix _ _,hj⟩⟩
theorem Sq.CW{W:World}{B:Nat}{v:Value}{t:TypeId}(h:W.heap[B]?=some (.cells #[v] t (0,0))):W.cell? ⟨B,0,none⟩=some v∧W.frozen? ⟨B,0,none⟩=false:=by
 constructor<;>simp[World.cell?,World.frozen?,h]
theorem Sq.K8{W:World}{B:Nat}{v:Value}{t:TypeId}(v':Value)(h:W.heap[B]?=some (.cells #[v] t (0,0))):(W.setCell ⟨B,0,none⟩ v').heap[B]?=some (.cells #[v'] t (0,0)):=by
 obtain⟨hlt,hk⟩:=Array.getElem?_eq_some_iff.1 h
 show(W.heap.modify B _)[B]?=_
 rw[Array.getElem?_eq_getElem (by rw[Array.size_modify];exact hlt),Array.getElem_modify_self,hk]
 rfl
theorem Sq.K9(W:World)(b:Nat)(v:Value):W.grownBy (W.setCell ⟨b,0,none⟩ v) (some b):=
 ⟨rfl,rfl,rfl,(KeepsWalks.setCell W _ v).size,fun k _ hk=>Below.heap_setCell _ _ _ k (fun e=>hk (by rw[e]))⟩
theorem Sq.SB{W:World}{base:Nat}{e:TypeId}{size:Nat}{v:Value}{k:Nat}{xs:List Value}(h:W.ownsRow base e size v k xs):∀(j:Nat) (o:Obj),v.ownBlock=some j→W.heap[j]?=some o→o.isCells=true:=by
 intro j o hj ho
 rcases h.2 with⟨rfl,_⟩|⟨g,cap,cur,rfl,_,hgb,_⟩
 ·simp[Value.ownBlock] at hj
 ·have:g=j:=by simpa [Value.ownBlock] using hj
  subst this;rw[hgb] at ho;cases ho;rfl
theorem Sq.F8{W:World}{base:Nat}{e:TypeId}{size:Nat}{v:Value}{k:Nat}{xs:List Value}(h:W.ownsRow base e size v k xs){j:Nat}{o:Obj}(hj:W.heap[j]?=some o)(ho:∀cur,o≠.cells cur e (0,0)):some j≠v.ownBlock:=by
 rcases h.2 with⟨rfl,_⟩|⟨g,cap,cur,rfl,_,hg,_⟩
 ·simp[Value.ownBlock]
 ·intro e'
  simp[Value.ownBlock] at e'
  subst e'
  rw[hj] at hg
  exact ho _ (Option.some.inj hg)
def Sq.At(w:World)(pre:List Int)(W:World):Prop:=
 (∃v,W.heap[w.heap.size]?=some (.cells #[v] 22 (0,0))∧W.ownsRow w.heap.size 3 1 v pre.length (pre.map (Value.int .i64))∧(v=.slice none 0 0↔pre=[]))∧Below w.heap.size w W
theorem Sq.auD(w:World):OwnFrom (w.heap.size+1) (Sq.At w):=fun s W W' row h hg hr=>by
 obtain⟨⟨v,hv,hrow,hnil⟩,hb⟩:=h
 have hr':∀r,row=some r→∃o:Obj,W.heap[r]?=some o∧o.isCells=false:=fun r e=>(hr r e).2
 refine⟨⟨v,(grownBy_keeps_cells hg hr' hv rfl).trans hv,⟨hrow.1,?_⟩,hnil⟩,hb.grown hg hb.size (fun k e=>by have:=(hr k e).1;omega)⟩
 rcases hrow.2 with h1|⟨g,cap,cur,h1,h2,h3,h4⟩
 ·exact .inl h1
 ·exact .inr ⟨g,cap,cur,h1,h2,(grownBy_keeps_cells hg hr' h3 rfl).trans h3,h4⟩
set_option maxRecDepth 100000 in
set_option maxHeartbeats 2000000 in
theorem Sq.Vg(F:Fence)(n:Nat)(h201:F.fn 201)(h187:F.fn 187)(hro:F.round=none)(hn:3≤n)(Bs Bo:Nat)(sv:Value)(zs:List Int)(hlen:zs.length≤maxLen)(hreach:zs.length*8≤140737488351232)(w:World)
 (hBs:Bs<w.heap.size) (hc:w.cell? ⟨Bs,Bo,none⟩=some sv) (hI:Sq.agQ w.heap.size w sv zs):
 CallsIn F n Tryz.prog 201 #[.slice none 0 0,.func (.func 187) #[] #[.pointer (some ⟨Bs,Bo,none⟩)]] w fun e W'=>
  ∃v,e=.returned v∧W'.ownsRow w.heap.size 3 1 v zs.length (zs.map (Value.int .i64))∧(v=.slice none 0 0↔zs=[])∧Below w.heap.size w W':=by
 have h1:1≤n:=by omega
 refine callsIn_of_wp_marks Tryz.func201 rfl h201 ?_ hro
 simp only[Tryz.ntmps201,List.size_toArray,List.length_cons,List.length_nil,Nat.reduceAdd,Nat.reduceSub,Array.replicate_succ,Array.replicate_zero,List.push_toArray,List.append_toArray,List.nil_append,List.cons_append]
 gi_wp2
 have bS:=Boxed.new w 22 (.slice none 0 0)
 have hB0:Below w.heap.size w (w.alloc (.cells #[.slice none 0 0] 22)):=(Below.refl _ w).alloc (Nat.le_refl _) _
 refine wpIn_rangeFunc_ownG hro h1 (gf:=187) (lb:=#[.pointer (some ⟨Bs,Bo,none⟩)]) rfl h187 (enters_of Tryz.func187 (by kernel_rfl) rfl)
  (Sq.Vf F (n-1) h187 hro (by omega) Bs Bo w.heap.size sv zs hreach (w.alloc (.cells #[.slice none 0 0] 22)) (by simp;omega) (by simp) ((hB0.cell (p:=⟨Bs,Bo,none⟩) hBs).trans hc) (hI.below hB0)) belowK_t (belowK_b (by simp)) (Below.refl _ _) (fun _=>rfl)
  (Sq.At w) (fun _ _ _=>False) (by simpa using Sq.auD w) (fun _ _ _ _ _ hs _ _=>hs)
  ⟨⟨_,World.alloc_heap_new w _,⟨rfl,.inl ⟨rfl,rfl⟩⟩,by simp⟩,hB0⟩
  (fun x=>{tmps:=#[.slice none 0 0,.func (.func 187) #[] #[.pointer (some ⟨Bs,Bo,none⟩)],.pointer (some ⟨w.heap.size,0,none⟩),undef,.slice none 0 0,.int .i64 x,.func (.func 187) #[] #[.pointer (some ⟨Bs,Bo,none⟩)],.int .i64 x,undef,undef,undef,undef,undef],defers:=[]}) ?assign ?body ?done ?stop
 case assign=>
  intro l x W K hK
  gi_wp2
  exact hK
 case body=>
  rintro l pre x W ⟨⟨v,hv,hrow,hnil⟩,hB⟩ hlen'
  obtain⟨hc2,hf2⟩:=Sq.CW hv
  have hBlt:w.heap.size<W.heap.size:=(Array.getElem?_eq_some_iff.1 hv).1
  obtain⟨i0,hi,hz0,hz1,hz2⟩:∃i0,Tryz.prog.info? 3=some i0∧i0.zero=some (.int .i64 0)∧i0.size=1∧i0.bytes=8:=⟨_,rfl,rfl,rfl,rfl⟩
  gi_wp2_with (gi_at_builtin;refine wpListIn_append_own _ rfl _ _ 22 rfl w.heap.size 3 i0 (.int .i64 0) 1 8 rfl hi hz0 hz1 hz2 rfl (by decide) _ _ _ rfl (hrow.alloc _) ⟨W.heap.size,0,none⟩ 1 1 [.int .i64 x] rfl rfl (cell_one_new _ _ _) (by simp[Value.oneCell']) (by omega) (by omega) (by have:=hB.size;simp;omega) ?_;intro v' w3 hown' hg3 hnil3
               have hv3:w3.heap[w.heap.size]?=some (.cells #[v] 22 (0,0)):=(hg3.block w.heap.size (by simp;omega) (Sq.F8 hrow hv (fun cur e=>by cases e))).trans ((Below.heap_alloc _ _ w.heap.size hBlt).trans hv)
               obtain⟨hc3,hf3⟩:=Sq.CW hv3
               obtain⟨g',cap',cur',rfl,hr0⟩:∃g' cap' cur',v'=.slice (some ⟨g',0,none⟩) (pre.length+1) cap'∧w3.heap[g']?=some (.cells cur' 3 (0,0)):=by
                rcases hown'.2 with⟨_,h0⟩|⟨g',cap',cur',h5,h6,h7,_⟩
                ·exact absurd h0 (by omega)
                ·exact⟨g',cap',cur',h5,h7⟩)
  have hg3':(W.alloc (.cells #[.int .i64 x] 3)).grownBy w3 v.ownBlock:=hg3
  refine⟨?_,?_,⟨_,Sq.K8 _ hv3,?_,by simp⟩,?_⟩
  ·exact(((KeepsOthers.alloc _ _).trans (KeepsOthers.of_grownBy hg3' (Sq.SB (hrow.alloc _)))).trans (KeepsOthers.setCell _ _ _)).from _
  ·exact((((Below.refl _ W).alloc (by omega) _).grown hg3' (by simp;omega) (fun k e=>(hrow.lt k e).1))).setCell (p:=⟨w.heap.size,0,none⟩) (Nat.le_refl _) _
  ·have:=hown'.kept (Sq.K9 w3 w.heap.size (.slice (some ⟨g',0,none⟩) (pre.length+1) cap')) (.inr (Sq.F8 hown' hv3 (fun cur e=>by cases e)).symm)
   simpa using this
  ·exact((hB.alloc hB.size _).grown hg3' (by simp;omega) (fun k e=>(hrow.lt k e).1)).setCell (p:=⟨w.heap.size,0,none⟩) (Nat.le_refl _) _
 case done=>
  rintro D ys W hD rfl ⟨⟨v,hv,hrow,hnil⟩,hB⟩ hK
  obtain⟨hc5,hf5⟩:=Sq.CW hv
  gi_wp2
  refine⟨by simp,.inl ⟨_,_,rfl,run_takeDeferred hK,?_⟩⟩
  refine⟨_,results_tmp rfl _ _ _,v,rfl,hrow.kept (grownBy_putObj' _ D (.deferred none)) (.inr (Sq.F8 hrow hK (fun cur e=>by cases e)).symm),hnil,hB.trans (belowK_b (w:=w) (Nat.le_refl _) W D _ _ (by simp at hD;omega) hK rfl rfl)⟩
 case stop=>
  rintro D c pre W _ _ h _
  exact h.elim
end Go.Proofs
end
section
namespace Go.Abs
open Go.RowKit Go.Proofs
def sqE:Callee:=fun _ f args h=>cond (Nat.beq f fn.ql) (match args with
 |[.slice none 0 0,.func (.func g) ⟨[]⟩ ⟨[.pointer (some p)]⟩]=>cond (Nat.beq g fn.ub) (match h.cell p.block p.off with
  |some (.slice a l c)=>cond (and (Nat.ble l 1000000000) (or (Nat.blt 0 c) a.isNone)) (Cu h a l fun xs=>cond (xs.all TY) (match xs with
   |[]=>some (.slice none 0 0,h)
   |x::xs=>some (.slice (some ⟨h.next,0,none⟩) l (nZ+1),h.alloc (x::xs))) none) none
  |_=>none) none
 |_=>none) none
theorem agR{R:Type}{r:R}{h:AH}{a:Option Addr}{n:Nat}{K:List Value→Option R}(e:Cu h a n K=some r):∃xs,Cu h a n some=some xs∧K xs=some r:=by
 unfold Cu at e ⊢
 split at e
 ·split at e
  ·rename_i hz;exact⟨[],by simp[hz],e⟩
  ·cases e
 ·split at e
  ·rename_i cs hc
   split at e
   ·rename_i hl;exact⟨_,by simp only[if_pos hl],e⟩
   ·cases e
  ·cases e
theorem Pf{fl f args h v h1}(e:sqE fl f args h=some (v,h1)):f=fn.ql∧∃p a l c xs,args=[.slice none 0 0,.func (.func fn.ub) ⟨[]⟩ ⟨[.pointer (some p)]⟩]∧h.cell p.block p.off=some (.slice a l c)∧(l≤1000000000∧(0<c∨a=none))∧
 Cu h a l some=some xs∧xs.all TY=true∧((xs=[]∧v=.slice none 0 0∧h1=h)∨(xs≠[]∧v=.slice (some ⟨h.next,0,none⟩) l (nZ+1)∧h1=h.alloc xs)):=by
 unfold sqE at e
 cases hf:Nat.beq f fn.ql with
 |false=>rw[hf] at e;cases e
 |true=>
  rw[hf] at e
  refine⟨Nat.eq_of_beq_eq_true hf,?_⟩
  simp only[cond_true] at e
  split at e
  ·rename_i g p
   cases hg:Nat.beq g fn.ub with
   |false=>rw[hg] at e;cases e
   |true=>
    rw[hg] at e
    have hg':=Nat.eq_of_beq_eq_true hg
    simp only[cond_true] at e
    split at e
    ·rename_i a l c hc
     cases hl:(and (Nat.ble l 1000000000) (or (Nat.blt 0 c) a.isNone)) with
     |false=>rw[hl] at e;cases e
     |true=>
      rw[hl] at e
      have NM:l≤1000000000∧(0<c∨a=none):=by
       simp only[Bool.and_eq_true,Bool.or_eq_true] at hl
       refine⟨Nat.le_of_ble_eq_true hl.1,hl.2.imp (fun h=>?_) (fun h=>?_)⟩
       ·have:Nat.ble 1 c=true:=h
        exact Nat.le_of_ble_eq_true this
       ·cases a with
        |none=>rfl
        |some _=>cases h
      simp only[cond_true] at e
      obtain⟨xs,hx,e⟩:=agR e
      ·cases hi:xs.all TY with
       |false=>rw[hi] at e;cases e
       |true=>
        rw[hi] at e
        simp only[cond_true] at e
        refine⟨p,a,l,c,xs,by rw[hg'],hc,NM,hx,hi,?_⟩
        split at e
        ·simp only[Option.some.injEq,Prod.mk.injEq] at e;exact .inl ⟨rfl,e.1.symm,e.2.symm⟩
        ·simp only[Option.some.injEq,Prod.mk.injEq] at e;exact .inr ⟨by simp,e.1.symm,e.2.symm⟩
    ·cases e
  ·cases e
theorem Uk:fx Tryz.prog sqE where
 step fl f args h v h1 e:=by
  obtain⟨_,p,a,l,c,xs,_,_,_,_,_,h7⟩:=Pf e
  rcases h7 with⟨_,_,rfl⟩|⟨_,_,rfl⟩
  ·exact bK.refl _ _
  ·exact bK.alloc _ _ _
 fn fl f args h v h1 e:=by
  obtain⟨rfl,_⟩:=Pf e
  exact⟨_,Tryz.func201,by kernel_rfl,by kernel_rfl⟩
 sound fl f args h v h1 e base an μ w args' s hb bN hr ha hf:=by
  obtain⟨rfl,p,a,l,c,xs,rfl,h3,⟨h4,h4c⟩,h5,h6,h7⟩:=Pf e
  obtain⟨zs,rfl⟩:=adS h6
  obtain⟨hl,ha⟩:=ha
  match args',hl,ha with
  |[s1,f1],_,ha=>
   have r1:=ha 0 (by simp) (by simp)
   have r2:=ha 1 (by simp) (by simp)
   simp only[List.getElem_cons_zero,List.getElem_cons_succ] at r1 r2
   have e1:s1=.slice none 0 0:=by cases r1;rfl
   subst e1
   obtain⟨f2,g2,rfl,r3,r4⟩:=r2.X7
   obtain⟨l3,_⟩:=r3
   match f2,l3 with
   |[],_=>
    obtain⟨l4,r4⟩:=r4
    match g2,l4,r4 with
    |[q],_,r4=>
     have r5:=r4 0 (by simp) (by simp)
     simp only[List.getElem_cons_zero] at r5
     obtain⟨bp,op,sp⟩:=p
     obtain⟨rb,off,hm,rfl⟩:∃rb off,μ bp=some (rb,off)∧q=.pointer (some ⟨rb,off+op,none⟩):=by cases r5;exact⟨_,_,by assumption,rfl⟩
     clear r5 r4 r2
     unfold AH.cell at h3
     split at h3
     ·rename_i cs hcs
      obtain⟨v',k1,k2⟩:=s.cell _ _ _ _ hcs hm _ _ h3
      have EO:=s.lt _ _ _ hm
      have hlen:zs.length=l:=by
       unfold Cu at h5
       split at h5
       ·split at h5
        ·rename_i hz;simp only[Option.some.injEq] at h5;have:=congrArg List.length h5;simp at this;omega
        ·cases h5
       ·split at h5
        ·split at h5
         ·simp only[Option.some.injEq] at h5;have:=congrArg List.length h5;simp at this;omega
         ·cases h5
        ·cases h5
      have hI:Sq.agQ w.heap.size w v' zs:=by
       have cells:∀ad b2 o2,a=some ad→μ ad.block=some (b2,o2)→∀j,j<zs.length→w.cell? ⟨b2,o2+ad.off+j,none⟩=some (.int .i64 (zs[j]?.getD 0)):=by
        intro ad b2 o2 e2 hm2 j hj
        subst e2
        simp only[Cu] at h5
        split at h5
        ·rename_i cs2 avL
         split at h5
         ·rename_i hle
          simp only[Option.some.injEq] at h5
          have h9:cs2[ad.off+j]?=some (.int .i64 (zs[j]?.getD 0)):=by
           have:=congrArg (fun l=>l[j]?) h5
           simp only[List.getElem?_take,List.getElem?_drop,List.getElem?_map] at this
           rw[if_pos (by omega)] at this
           rw[this,List.getElem?_eq_getElem hj];rfl
          obtain⟨v3,k3,k4⟩:=s.cell _ _ _ _ avL hm2 _ _ h9
          cases k4
          rw[Nat.add_assoc];exact k3
         ·cases h5
        ·cases h5
       cases k2 with
       |kX=>exact .inl ⟨rfl,by cases zs with|nil=>rfl|cons _ _=>simp at hlen⟩
       |slice hm2 hc2 hl2=>exact .inr ⟨_,_,_,by rw[hlen],s.lt _ _ _ hm2,fun j hj=>cells _ _ _ rfl hm2 j hj⟩
       |mi hm2 ho2 hl2 hs2=>
        refine .inr ⟨_,_,_,by rw[hlen],s.lt _ _ _ hm2,fun j hj=>?_⟩
        rcases ho2 with ho2|ho2
        ·omega
        ·rw[ho2];exact cells _ _ _ rfl hm2 j hj
       |TJ=>rcases h4c with h|h<;>simp at h
      have call:=Sq.Vg Fence.wide 5 trivial trivial rfl (by omega) rb (off+op) v' zs (by rw[hlen];unfold maxLen;omega) (by omega) w EO k1 hI
      refine(callsIn_wide.1 call).mono ?_
      rintro e' W' ⟨v2,rfl,h8,h9,H7⟩
      rcases h7 with⟨mI,rfl,rfl⟩|⟨mI,rfl,rfl⟩
      ·have:zs=[]:=by simpa using mI
       rw[h9.2 this]
       exact⟨_,μ,rfl,bZ.below s H7,.kX⟩
      ·have fA:zs≠[]:=by intro e2;rw[e2] at mI;exact mI rfl
       rcases h8.2 with⟨H3,_⟩|⟨g,cap,cur,rfl,uV,h14,EP,NQ,Me,O4⟩
       ·exact absurd (h9.1 H3) fA
       ·refine⟨_,_,rfl,bZ.found s H7 hr (hf _ (Nat.le_refl _) (Nat.lt_succ_self _)) uV h14 ?_,?_⟩
        ·intro j u hu
         have:cur[j]?=some u:=by
          have O6:=congrArg (fun l=>l[j]?) O4
          simp only[List.getElem?_take] at O6
          have hj:j<zs.length:=by have:=(List.getElem?_eq_some_iff.1 hu).1;simpa using this
          rw[if_pos (by omega),hu] at O6
          simpa using O6
         refine⟨u,this,?_⟩
         rw[List.getElem?_map] at hu
         cases hz:zs[j]? with
         |none=>rw[hz] at hu;cases hu
         |some z=>rw[hz] at hu;simp at hu;rw[←hu];exact .int _ _
        ·rw[←hlen]
         exact .mi (bX _ _ _) (.inr rfl) EP (by rw[fZ h14];omega)
     ·cases h3
end Go.Abs
end
section
set_option maxRecDepth 100000
namespace Go.Abs
open Go.Proofs
def oJ'(d:Nat)(o:H8):bD:=⟨some d,o,none,false⟩
def oI'(d:Nat)(o:H8):bD:=⟨some d,o,none,true⟩
def alW:List bD:=[oI' 4 (.mv (.t 0)),oJ' 5 (.load (.one (.int .i64)) (.t 2)),oI' 6 (.mv (.t 0)),oJ' 7 (.load (.one (.int .i64)) (.t 1)),oI' 8 (.mv (.t 0)),oJ' 9 (.load (.one (.int .i64)) (.t 1)),oI' 10 (.dx 1 (.t 8) (.t 9)),oJ' 11 (.load (.one .slice) (.t 10)),
 oI' 12 (.mv (.t 0)),oJ' 13 (.load (.one (.int .i64)) (.t 2)),oI' 14 (.dx 1 (.t 12) (.t 13)),oJ' 15 (.load (.one .slice) (.t 14)),oI' 16 (.dx 1 (.t 4) (.t 5)),⟨none,.store 1 (.t 16) (.t 11),none,true⟩,oI' 17 (.dx 1 (.t 6) (.t 7)),⟨none,.store 1 (.t 17) (.t 15),none,true⟩]
def swE:Callee:=fun fl f args h=>cond (Nat.beq f fn.bG) (match args with
 |[.slice (some a) l c,.pointer (some p1),.pointer (some p2)]=>cond (Nat.beq a.block p1.block||Nat.beq a.block p2.block) none
    (pL noE fl alW (args++List.replicate 15 undef) h (fun _ h=>some (.tuple ⟨[]⟩,h)))
 |_=>none) none
theorem Vh{fl f args h r}(e:swE fl f args h=some r):f=fn.bG∧∃a l c p1 p2,args=[.slice (some a) l c,.pointer (some p1),.pointer (some p2)]∧a.block≠p1.block∧a.block≠p2.block∧
 pL noE fl alW (args++List.replicate 15 undef) h (fun _ h=>some (.tuple ⟨[]⟩,h))=some r:=by
 unfold swE at e
 cases hf:Nat.beq f fn.bG with
 |false=>rw[hf] at e;cases e
 |true=>
  rw[hf] at e
  refine⟨Nat.eq_of_beq_eq_true hf,?_⟩
  simp only[cond_true] at e
  split at e
  ·rename_i a l c p1 p2
   cases hg:(Nat.beq a.block p1.block||Nat.beq a.block p2.block) with
   |true=>rw[hg] at e;cases e
   |false=>
    rw[hg] at e
    simp only[Bool.or_eq_false_iff] at hg
    refine⟨a,l,c,p1,p2,rfl,fun h=>?_,fun h=>?_,e⟩
    ·rw[h] at hg;simp at hg
    ·rw[h] at hg;simp at hg
  ·cases e
theorem Vi{C:Callee}{f t d:Nat}{i:Bool}{s:List Value}{h h1:AH}{v:Value}{q:Addr}(hs:s.getD t undef=.pointer (some q))(e:Ap C f ⟨some d,.load (.one (.int .i64)) (.t t),none,i⟩ s h=some (v,h1)):
 h1=h∧h.cell q.block q.off=some v∧∃n,v=.int .i64 n:=by
 unfold Ap at e
 simp only[cM,ev,hs,cQ,KS] at e
 cases hc:h.cell q.block q.off with
 |none=>rw[hc] at e;cases e
 |some v'=>
  rw[hc] at e
  simp only[oi] at e
  obtain⟨n,rfl,e⟩:=aF e
  simp only[K0,Option.some.injEq,Prod.mk.injEq] at e
  obtain⟨rfl,rfl⟩:=e
  exact⟨rfl,rfl,n,rfl⟩
theorem Pg{C:Callee}{f t d:Nat}{i:Bool}{s:List Value}{h:AH}{n:Int}{q:Addr}(hs:s.getD t undef=.pointer (some q))(hc:h.cell q.block q.off=some (.int .i64 n)):Ap C f ⟨some d,.load (.one (.int .i64)) (.t t),none,i⟩ s h=some (.int .i64 n,h):=by
 unfold Ap
 simp only[cM,ev,hs,cQ]
 unfold KS
 rw[hc]
 simp[oi,asInt,K0]
theorem aee{C:Callee}{f t d:Nat}{i:Bool}{s:List Value}{h h1:AH}{v:Value}(e:Ap C f ⟨some d,.load (.one .slice) (.t t),none,i⟩ s h=some (v,h1)):h1=h:=by
 unfold Ap at e
 simp only[cM] at e
 obtain⟨a,_,e⟩:=dG e
 simp only[KS] at e
 cases hc:h.cell a.block a.off with
 |none=>rw[hc] at e;cases e
 |some v'=>
  rw[hc] at e
  simp only[oi] at e
  obtain⟨sl,_,e⟩:=cA e
  simp only[K0,Option.some.injEq,Prod.mk.injEq] at e
  exact e.2.symm
theorem Vj{C:Callee}{f t u d:Nat}{i:Bool}{s:List Value}{h h1:AH}{v:Value}{a:Addr}{l c:Nat}(hs:s.getD t undef=.slice (some a) l c)(e:Ap C f ⟨some d,.dx 1 (.t t) (.t u),none,i⟩ s h=some (v,h1)):
 h1=h∧∃q:Addr,v=.pointer (some q)∧q.block=a.block:=by
 unfold Ap at e
 simp only[cM,ev,hs,bB] at e
 obtain⟨n,_,e⟩:=aF e
 unfold idx at e
 simp only at e
 by_cases c1:0≤n
 ·rw[if_pos c1] at e
  by_cases c2:n<(l:Int)
  ·rw[if_pos c2] at e
   simp only[K0,Option.some.injEq,Prod.mk.injEq] at e
   exact⟨e.2.symm,_,e.1.symm,rfl⟩
  ·rw[if_neg c2] at e;cases e
 ·rw[if_neg c1] at e;cases e
theorem aj4{C:Callee}{f t u:Nat}{i:Bool}{s:List Value}{h h1:AH}{v:Value}{a:Addr}(hs:s.getD t undef=.pointer (some a))(e:Ap C f ⟨none,.store 1 (.t t) (.t u),none,i⟩ s h=some (v,h1)):
 ∀c,c≠a.block→h1.gR c=h.gR c:=by
 unfold Ap at e
 have hs':ev s (.t t)=.pointer (some a):=hs
 simp only[cM,hs',cQ] at e
 have key:∀{xs:List Value} {fl:Nat},st fl h a xs (fun h1=>K0 undef h1)=some (v,h1)→∀c,c≠a.block→h1.gR c=h.gR c:=by
  intro xs fl e
  unfold st at e
  cases hb:h.gR a.block with
  |none=>rw[hb] at e;cases e
  |some cs=>
   rw[hb] at e
   simp only at e
   by_cases q1:fl≤a.block
   ·rw[if_pos q1] at e
    by_cases q2:0<xs.length
    ·rw[if_pos q2] at e
     by_cases q3:a.off+xs.length≤cs.length
     ·rw[if_pos q3] at e
      by_cases q4:xs.all yC=true
      ·rw[if_pos q4] at e
       simp only[K0,Option.some.injEq,Prod.mk.injEq] at e
       obtain⟨_,rfl⟩:=e
       intro c hc
       simp only[AH.put]
       rw[if_neg hc]
      ·rw[if_neg q4] at e;cases e
     ·rw[if_neg q3] at e;cases e
    ·rw[if_neg q2] at e;cases e
   ·rw[if_neg q1] at e;cases e
 by_cases q0:(ev s (.t u)).cells.toList.length=1
 ·rw[if_pos q0] at e;exact key e
 ·rw[if_neg q0] at e;cases e
theorem aj5{C:Callee}{fl:Nat}{a p1 p2:Addr}{l c:Nat}{h:AH}(n1:a.block≠p1.block)(n2:a.block≠p2.block)(S:Nat→List Value)(H:Nat→AH)(V:Nat→Value)
 (s0:S 0=[.slice (some a) l c,.pointer (some p1),.pointer (some p2)]++List.replicate 15 undef) (_h0:H 0=h) (lW:∀(i:Nat) x,alW[i]?=some x→Ap C fl x (S i) (H i)=some (V i,H (i+1))∧S (i+1)=mT (S i) x.dst (V i)):
 ∀j∈[1,3,5,9],∀x,alW[j]?=some x→H (j+1)=H j∧∀p,p≤alW.length→∀f,Ap C f x (S j) (H p)=some (V j,H p):=by
 have e0:=lW 0 _ rfl
 have e1:=lW 1 _ rfl
 have e2:=lW 2 _ rfl
 have e3:=lW 3 _ rfl
 have e4:=lW 4 _ rfl
 have e5:=lW 5 _ rfl
 have e6:=lW 6 _ rfl
 have e7:=lW 7 _ rfl
 have e8:=lW 8 _ rfl
 have e9:=lW 9 _ rfl
 have e10:=lW 10 _ rfl
 have e11:=lW 11 _ rfl
 have e12:=lW 12 _ rfl
 have e13:=lW 13 _ rfl
 have e14:=lW 14 _ rfl
 have e15:=lW 15 _ rfl
 have mv:∀{d:Nat} {s:List Value} {h h1:AH} {v:Value},Ap C fl (oI' d (.mv (.t 0))) s h=some (v,h1)→v=s.getD 0 undef∧h1=h:=by
  intro d s h h1 v e
  unfold Ap oI' at e
  simp only[cM,ev,K0,Option.some.injEq,Prod.mk.injEq] at e
  exact⟨e.1.symm,e.2.symm⟩
 have s1:S 1=[.slice (some a) l c,.pointer (some p1),.pointer (some p2),undef,V 0]++List.replicate 13 undef:=by rw[e0.2,s0];rfl
 have s2:S 2=[.slice (some a) l c,.pointer (some p1),.pointer (some p2),undef,V 0,V 1]++List.replicate 12 undef:=by rw[e1.2,s1];rfl
 have s3:S 3=[.slice (some a) l c,.pointer (some p1),.pointer (some p2),undef,V 0,V 1,V 2]++List.replicate 11 undef:=by rw[e2.2,s2];rfl
 have s4:S 4=[.slice (some a) l c,.pointer (some p1),.pointer (some p2),undef,V 0,V 1,V 2,V 3]++List.replicate 10 undef:=by rw[e3.2,s3];rfl
 have s5:S 5=[.slice (some a) l c,.pointer (some p1),.pointer (some p2),undef,V 0,V 1,V 2,V 3,V 4]++List.replicate 9 undef:=by rw[e4.2,s4];rfl
 have s6:S 6=[.slice (some a) l c,.pointer (some p1),.pointer (some p2),undef,V 0,V 1,V 2,V 3,V 4,V 5]++List.replicate 8 undef:=by rw[e5.2,s5];rfl
 have s7:S 7=[.slice (some a) l c,.pointer (some p1),.pointer (some p2),undef,V 0,V 1,V 2,V 3,V 4,V 5,V 6]++List.replicate 7 undef:=by rw[e6.2,s6];rfl
 have s8:S 8=[.slice (some a) l c,.pointer (some p1),.pointer (some p2),undef,V 0,V 1,V 2,V 3,V 4,V 5,V 6,V 7]++List.replicate 6 undef:=by rw[e7.2,s7];rfl
 have s9:S 9=[.slice (some a) l c,.pointer (some p1),.pointer (some p2),undef,V 0,V 1,V 2,V 3,V 4,V 5,V 6,V 7,V 8]++List.replicate 5 undef:=by rw[e8.2,s8];rfl
 have s10:S 10=[.slice (some a) l c,.pointer (some p1),.pointer (some p2),undef,V 0,V 1,V 2,V 3,V 4,V 5,V 6,V 7,V 8,V 9]++List.replicate 4 undef:=by rw[e9.2,s9];rfl
 have KK:S 11=[.slice (some a) l c,.pointer (some p1),.pointer (some p2),undef,V 0,V 1,V 2,V 3,V 4,V 5,V 6,V 7,V 8,V 9,V 10]++List.replicate 3 undef:=by rw[e10.2,s10];rfl
 have s12:S 12=[.slice (some a) l c,.pointer (some p1),.pointer (some p2),undef,V 0,V 1,V 2,V 3,V 4,V 5,V 6,V 7,V 8,V 9,V 10,V 11]++List.replicate 2 undef:=by rw[e11.2,KK];rfl
 have s13:S 13=[.slice (some a) l c,.pointer (some p1),.pointer (some p2),undef,V 0,V 1,V 2,V 3,V 4,V 5,V 6,V 7,V 8,V 9,V 10,V 11,V 12]++List.replicate 1 undef:=by rw[e12.2,s12];rfl
 have s14:S 14=S 13:=e13.2
 have XX:S 15=[.slice (some a) l c,.pointer (some p1),.pointer (some p2),undef,V 0,V 1,V 2,V 3,V 4,V 5,V 6,V 7,V 8,V 9,V 10,V 11,V 12,V 14]:=by rw[e14.2,s14,s13];rfl
 obtain⟨v0,h1⟩:=mv e0.1
 obtain⟨h2,c1,m1,w1⟩:=Vi (q:=p2) (by rw[s1];rfl) e1.1
 obtain⟨v2,h3⟩:=mv e2.1
 obtain⟨h4,c3,m3,w3⟩:=Vi (q:=p1) (by rw[s3];rfl) e3.1
 obtain⟨v4,h5⟩:=mv e4.1
 obtain⟨h6,c5,m5,w5⟩:=Vi (q:=p1) (by rw[s5];rfl) e5.1
 have v0':V 0=.slice (some a) l c:=by rw[v0,s0];rfl
 have v2':V 2=.slice (some a) l c:=by rw[v2,s2];rfl
 have v4':V 4=.slice (some a) l c:=by rw[v4,s4];rfl
 obtain⟨h7,_⟩:=Vj (a:=a) (l:=l) (c:=c) (by rw[s6,v4'];rfl) e6.1
 have h8:=aee e7.1
 obtain⟨v8,h9⟩:=mv e8.1
 have v8':V 8=.slice (some a) l c:=by rw[v8,s8];rfl
 obtain⟨H7,c9,m9,w9⟩:=Vi (q:=p2) (by rw[s9];rfl) e9.1
 obtain⟨mI,_⟩:=Vj (a:=a) (l:=l) (c:=c) (by rw[s10,v8'];rfl) e10.1
 have H3:=aee e11.1
 obtain⟨uV,TK,u12,b12⟩:=Vj (a:=a) (l:=l) (c:=c) (by rw[s12,v0'];rfl) e12.1
 have h14:=aj4 (a:=TK) (by rw[s13,u12];rfl) e13.1
 obtain⟨EP,q14,u14,KQ⟩:=Vj (a:=a) (l:=l) (c:=c) (by rw[s14,s13,v2'];rfl) e14.1
 have NQ:=aj4 (a:=q14) (by rw[XX,u14];rfl) e15.1
 have g2:H 2=H 0:=h2.trans h1
 have g3:H 3=H 0:=h3.trans g2
 have g4:H 4=H 0:=h4.trans g3
 have g5:H 5=H 0:=h5.trans g4
 have g6:H 6=H 0:=h6.trans g5
 have g7:H 7=H 0:=h7.trans g6
 have g8:H 8=H 0:=h8.trans g7
 have g9:H 9=H 0:=h9.trans g8
 have g10:H 10=H 0:=H7.trans g9
 have g11:H 11=H 0:=mI.trans g10
 have g12:H 12=H 0:=H3.trans g11
 have g13:H 13=H 0:=uV.trans g12
 have k14:∀c,c≠a.block→(H 14).gR c=(H 0).gR c:=fun c hc=>by rw[h14 c (by rw[b12];exact hc),g13]
 have k15:∀c,c≠a.block→(H 15).gR c=(H 0).gR c:=fun c hc=>by rw[EP];exact k14 c hc
 have k16:∀c,c≠a.block→(H 16).gR c=(H 0).gR c:=fun c hc=>by rw[NQ c (by rw[KQ];exact hc)];exact k15 c hc
 have all:∀p,p≤16→∀c,c≠a.block→(H p).gR c=(H 0).gR c:=by
  intro p hp c hc
  have:p=0∨p=1∨p=2∨p=3∨p=4∨p=5∨p=6∨p=7∨p=8∨p=9∨p=10∨p=11∨p=12∨p=13∨p=14∨p=15∨p=16:=by omega
  rcases this with rfl|rfl|rfl|rfl|rfl|rfl|rfl|rfl|rfl|rfl|rfl|rfl|rfl|rfl|rfl|rfl|rfl
  ·rfl
  ·rw[h1]
  ·rw[g2]
  ·rw[g3]
  ·rw[g4]
  ·rw[g5]
  ·rw[g6]
  ·rw[g7]
  ·rw[g8]
  ·rw[g9]
  ·rw[g10]
  ·rw[g11]
  ·rw[g12]
  ·rw[g13]
  ·exact k14 c hc
  ·exact k15 c hc
  ·exact k16 c hc
 have ags:∀p,p≤16→∀(q:Addr),a.block≠q.block→(H p).cell q.block q.off=(H 0).cell q.block q.off:=fun p hp q hq=>by
  unfold AH.cell;rw[all p hp _ (fun e=>hq e.symm)]
 intro j hj x hx
 simp only[List.mem_cons,List.not_mem_nil,or_false] at hj
 rcases hj with rfl|rfl|rfl|rfl
 ·cases hx
  refine⟨h2,fun p hp f=>?_⟩
  rw[w1] at c1 ⊢
  exact Pg (q:=p2) (by rw[s1];rfl) (by rw[ags p hp p2 n2,←h1];exact c1)
 ·cases hx
  refine⟨h4,fun p hp f=>?_⟩
  rw[w3] at c3 ⊢
  exact Pg (q:=p1) (by rw[s3];rfl) (by rw[ags p hp p1 n1,←g3];exact c3)
 ·cases hx
  refine⟨h6,fun p hp f=>?_⟩
  rw[w5] at c5 ⊢
  exact Pg (q:=p1) (by rw[s5];rfl) (by rw[ags p hp p1 n1,←g5];exact c5)
 ·cases hx
  refine⟨H7,fun p hp f=>?_⟩
  rw[w9] at c9 ⊢
  exact Pg (q:=p2) (by rw[s9];rfl) (by rw[ags p hp p2 n2,←g9];exact c9)
theorem auF:Tryz.prog.follows .mixedOrders=true:=by kernel_rfl
def azX(c:Option Code):Array Oper:=match c with
 |some (.region _ ops true)=>ops
 |_=>#[]
theorem agS:fx Tryz.prog swE where
 step:=fun fl f args h v h1 e=>by
  obtain⟨rfl,a,l,c,p1,p2,rfl,n1,n2,e⟩:=Vh e
  have e':FX noE fl alW ([.slice (some a) l c,.pointer (some p1),.pointer (some p2)]++List.replicate 15 undef) h (fun _ h=>some (.tuple ⟨[]⟩,h))=some (v,h1):=e
  obtain⟨s',h',st,hk⟩:=K1 (TX (P:=Tryz.prog)).toCAbs e'
  simp only[Option.some.injEq,Prod.mk.injEq] at hk
  rw[←hk.2];exact st
 fn:=fun fl f args h v h1 e=>by
  obtain⟨rfl,_⟩:=Vh e
  exact⟨_,rfl,by kernel_rfl,by kernel_rfl⟩
 sound:=fun fl f args h v h1 e base an μ w args' sm hb bN hr ha hf=>by
  obtain⟨rfl,a,l,c,p1,p2,rfl,n1,n2,e⟩:=Vh e
  exact ach (P:=Tryz.prog) (C:=noE) TX auF (fd:=Tryz.f167) (id:=0) (nt:=18) (ops:=azX Tryz.f167.body) (al:=alW) (cl:=[1,3,5,9]) (by kernel_rfl) (by kernel_rfl) (by kernel_rfl) (by kernel_rfl) (by kernel_rfl) (by kernel_rfl) e
   (fun S H V s0 h0 lW=>aj5 n1 n2 S H V s0 h0 lW) sm hb bN hr ha hf
end Go.Abs
end
