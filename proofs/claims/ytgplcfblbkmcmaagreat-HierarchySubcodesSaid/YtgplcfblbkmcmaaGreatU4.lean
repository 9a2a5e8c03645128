/- Shortened by a program of ours out of readable texts. -/
import Derived.Test.YtgplcfblbkmcmaaGreatU3
import Derived.KernelRfl
set_option linter.all false
section
namespace Go.Abs.P
open Go.Abs Go.Fld
def uE(D:FD)(x n:Nat):List Nat:=(List.range n).map (D.pw x)
theorem Dp(D:FD)(x n:Nat):uE D x (n+1)=uE D x n++[D.pw x n]:=by simp[uE,List.range_succ]
@[simp] theorem RC(D:FD)(x n:Nat):(uE D x n).length=n:=by simp[uE]
theorem auG{D:FD}{x n v:Nat}(h:v∈uE D x n):v<D.q:=by
 obtain⟨i,_,rfl⟩:=List.mem_map.1 h
 exact D.CA x i
def ju(q:Nat)(l:List Nat):List Value:=(List.range q).map fun v=>Value.bool (decide (v∈l))
theorem Ew{q:Nat}{l:List Nat}{y:Nat}(h:y<q):(ju q l)[y]?=some (.bool (decide (y∈l))):=by simp[ju,h]
theorem TI{q:Nat}{l:List Nat}{y:Nat}:(ju q l).set y (.bool true)=ju q (l++[y]):=by
 apply List.ext_getElem?
 intro i
 by_cases hi:i<q
 ·rw[Ew hi]
  by_cases e:y=i
  ·subst e
   rw[List.getElem?_set_self (by simpa [ju] using hi)];simp
  ·rw[List.getElem?_set_ne e,Ew hi]
   have:¬i=y:=fun h=>e h.symm
   simp[this]
 ·rw[List.getElem?_eq_none (by simp[ju];omega),List.getElem?_eq_none (by simp[ju];omega)]
theorem ahf(q:Nat):List.replicate q (Value.bool false)=ju q []:=by
 apply List.ext_getElem?
 intro i
 by_cases hi:i<q
 ·rw[Ew hi];simp[hi]
 ·rw[List.getElem?_eq_none (by simp;omega),List.getElem?_eq_none (by simp[ju];omega)]
@[simp] theorem arX(q:Nat)(l:List Nat):(ju q l).length=q:=by simp[ju]
theorem ace{D:FD}{x n:Nat}(hn:(uE D x n).Nodup)(h0:0∉uE D x n):n≤D.q-1:=by
 have:=FD.XW D.q (0::uE D x n) (List.nodup_cons.2 ⟨h0,hn⟩) (fun v hv=>by
  rcases List.mem_cons.1 hv with rfl|hv
  ·have:=D.q1;omega
  ·exact auG hv)
 simp at this;omega
structure amd(D:FD)(x N:Nat):Prop where
 pos:0<N
 nodup:(uE D x N).Nodup
 nz:0∉uE D x N
 stop:D.pw x N=0∨D.pw x N∈uE D x N
theorem amd.le{D:FD}{x N:Nat}(p:amd D x N):N≤D.q-1:=ace p.nodup p.nz
theorem aam{R:Type}{D:FD}{fl k:Nat}{h0:AH}{bx sb:Nat}{mod:Sl}{x:Nat}(kn:an R)(f:WQ D)(hx:OB h0 bx [.int .i64 (D.p:Int),.int .i64 (D.m:Int),.slice mod.a mod.l mod.c])(bu:SI h0 mod (ints (jt D)))
 (tP:x<D.q) (hsb:h0.next≤sb) (bL:fl≤h0.next):
 ∀(d n g:Nat) (out:Sl) (h:AH),n+d=D.q→d<g→0<n→(uE D x n).Nodup→0∉uE D x n→OV h0.next h out (iv (ints (uE D x n)))→OB h sb (ju D.q (uE D x n))→(∀a,out.a=some a→a.block≠sb)→aj h0 h→
 ∃(N:Nat) (avE:Sl) (h':AH),qY M fl k kn g (x:Int) ⟨bx,0,none⟩ out ⟨some ⟨sb,0,none⟩,D.q,D.q⟩ ((D.pw x n:Nat):Int) h=kn avE h'∧amd D x N∧OV h0.next h' avE (iv (ints (uE D x N)))∧aj h0 h':=by
 have T7:=f.q
 have z8:=D.q1
 intro d
 induction d with
 |zero=>
  intro n g out h hi hg hn Uc hnz
  have:=ace Uc hnz
  omega
 |succ d ih=>
  intro n g out h hi hg hn Uc hnz ho hs iH hq
  obtain⟨g,rfl⟩:∃j,g=j+1:=⟨g-1,by omega⟩
  have asn:=D.CA x n
  show ∃(N:Nat) (avE:Sl) (h':AH),zz M fl k (qY M fl k kn g) kn _ _ _ _ _ h=_∧_
  unfold zz
  by_cases c:D.pw x n=0
  ·refine⟨n,out,h,?_,⟨hn,Uc,hnz,.inl c⟩,ho,hq⟩
   rw[if_neg (by simp[c])]
  ·rw[if_pos (by simp[c]),aU rfl asn]
   dsimp only
   rw[Nat.zero_add,auv (hs.cell (Ew asn))]
   by_cases c2:D.pw x n∈uE D x n
   ·refine⟨n,out,h,?_,⟨hn,Uc,hnz,.inr c2⟩,ho,hq⟩
    rw[if_neg (by simp[c2])]
   ·rw[if_pos (by simp[c2]),aU rfl asn]
    dsimp only
    rw[Nat.zero_add,hs.st (by omega) (by simpa using asn) rfl,TI,←Dp]
    have Cf:iI (some ⟨sb,0,none⟩) h (h.put sb (some (ju D.q (uE D x (n+1))))):=iI.put _
    have hs1:OB (h.put sb (some (ju D.q (uE D x (n+1))))) sb (ju D.q (uE D x (n+1))):=hs.put _
    have avt:aj h0 (h.put sb (some (ju D.q (uE D x (n+1))))):=hq.put hsb _
    have T9:OV h0.next (h.put sb (some (ju D.q (uE D x (n+1))))) out (iv (ints (uE D x n))):=ho.ajp (Nat.le_refl _) (fun a ha=>P4 _ (fun e=>iH a ha e.symm))
    generalize h.put sb (some (ju D.q (uE D x (n+1))))=h1 at Cf hs1 avt T9 ⊢
    obtain⟨s2,h2,e1,e2,e3,e4⟩:=T9.push (R:=R) (fl:=fl) (bytes:=8) (x:=.int .i64 ((D.pw x n:Nat):Int)) bL avt.1 (by have:=ace Uc hnz;unfold lk;simp;omega) rfl
     (fun s7 h8=>aF .i64 h8 bx 0 fun n9=>aF .i64 h8 bx (0+1) fun tO=>bC h8 bx (0+1+1) fun Ks=>aD M fl fn.eY [.agg ⟨[.int .i64 n9,.int .i64 tO,.slice Ks.a Ks.l Ks.c]⟩,.int .i64 ((D.pw x n:Nat):Int),.int .i64 (x:Int)] h8 fun RS tN=>asInt .i64 RS fun BS=>qY M fl k kn g (x:Int) ⟨bx,0,none⟩ s7 ⟨some ⟨sb,0,none⟩,D.q,D.q⟩ BS tN)
    rw[e1]
    have lY:aj h0 h2:=e3.quiet avt (fun a ha=>T9.ge a ha)
    have Xz:=hx.quiet lY
    rw[ae (Xz.cell rfl),ae (Xz.cell rfl),ai (s:=mod) (Xz.cell rfl)]
    obtain⟨h3,m1,m2⟩:=FB (fl:=fl) f (bu.quiet lY) (D.pw x n) x (by omega) (by omega) (by have:=lY.1;omega)
    rw[ah m1]
    have hs2:OB h2 sb (ju D.q (uE D x (n+1))):=e3.ob hs1 iH
    have aBQ:(uE D x (n+1)).Nodup:=by
     rw[Dp]
     rw[List.nodup_append]
     exact⟨Uc,by simp,fun a ha b hb e=>by simp at hb;subst hb;subst e;exact c2 ha⟩
    have aAM:0∉uE D x (n+1):=by
     rw[Dp]
     intro hm
     rcases List.mem_append.1 hm with hm|hm
     ·exact hnz hm
     ·simp at hm;exact c hm.symm
    have hov:iv (ints (uE D x n))++[Value.int .i64 ((D.pw x n:Nat):Int)]=iv (ints (uE D x (n+1))):=by
     rw[Dp,nW,rG];rfl
    rw[hov] at e2
    have aDz:=hs1.1
    exact ih (n+1) g s2 h3 (by omega) (by omega) (by omega) aBQ aAM (e2.quiet m2) (hs2.quiet m2) (fun a ha=>by have:=e4 a ha;omega) (lY.trans m2)
theorem aan{D:FD}(f:WQ D){fl:Nat}{h:AH}{mod:Sl}(bu:SI h mod (ints (jt D))){x:Nat}(hx:x<D.q)(bL:fl≤h.next):
 ∃(N:Nat) (s':Sl) (h':AH),M fl fn.lB [.agg ⟨[.int .i64 (D.p:Int),.int .i64 (D.m:Int),.slice mod.a mod.l mod.c]⟩,.int .i64 (D.q:Int),.int .i64 (x:Int)] h=some (.slice s'.a s'.l s'.c,h')∧
  amd D x N∧OV h.next h' s' (iv (ints (uE D x N)))∧aj h h':=by
 have T7:=f.q
 have z8:=D.q1
 have du:=OB.alloc h [.int .i64 (D.p:Int),.int .i64 (D.m:Int),.slice mod.a mod.l mod.c]
 have eF:=aj.alloc h [.int .i64 (D.p:Int),.int .i64 (D.m:Int),.slice mod.a mod.l mod.c]
 generalize dB:h.alloc [.int .i64 (D.p:Int),.int .i64 (D.m:Int),.slice mod.a mod.l mod.c]=h1 at du eF
 have T9:=OB.alloc h1 [Value.int .i64 1]
 have hqb:=aj.alloc h1 [Value.int .i64 1]
 generalize OD:h1.alloc [Value.int .i64 1]=h2 at T9 hqb
 have hs2:=OB.alloc h2 (ju D.q [])
 have hqc:=aj.alloc h2 (ju D.q [])
 generalize hh3:h2.alloc (ju D.q [])=h3 at hs2 hqc
 have Tb:h1.next<h2.next:=T9.1
 have hs3:OB (h3.put h2.next (some (ju D.q [1]))) h2.next (ju D.q [1]):=hs2.put _
 have hp1:uE D x 1=[1]:=rfl
 have ho3:OV h1.next (h3.put h2.next (some (ju D.q [1]))) ⟨some ⟨h1.next,0,none⟩,1,1⟩ (iv (ints (uE D x 1))):=
  OV.full (vs:=iv (ints (uE D x 1))) ((T9.quiet hqc).X7 (by omega) _) (Nat.le_refl _) (by simp[hp1,iv,ints]) (by rw[hp1];simp[iv,ints,pB])
 obtain⟨N,s',h',e1,e2,e3,e4⟩:=aam (k:=D.q+1) (fl:=fl) (h0:=h1) (bx:=h.next) (sb:=h2.next) (Ll M fl (D.q+1) (fun(y6:Sl) q=>some (Value.slice y6.a y6.l y6.c,q))) f du (bu.quiet eF) hx (by omega) (by have:=eF.1;omega)
  (D.q-1) 1 (D.q+1) ⟨some ⟨h1.next,0,none⟩,1,1⟩ (h3.put h2.next (some (ju D.q [1]))) (by omega) (by omega) (by omega) (by simp[hp1]) (by simp[hp1]) ho3 (by rw[hp1];exact hs3)
  (fun a ha=>by cases ha;simp only[ne_eq];omega) ((hqb.trans hqc).put (by omega) _)
 refine⟨N,s',h',aR (k:=D.q+1) (by decide) Dj ?_,e2,e3.mono eF.1,eF.trans e4⟩
 rw[zA]
 unfold lB alC Wb cU
 rw[dB]
 dsimp only
 rw[OD,jb (by unfold lk;omega),ahf,hh3]
 have:∀{R':Type} (K:Addr→Option R'),idx 1 (⟨some ⟨h2.next,0,none⟩,D.q,D.q⟩:Sl) 1 K=K ⟨h2.next,1,none⟩:=by
  intro R' K
  exact aU (i:=1) (R:=R') (s:=⟨some ⟨h2.next,0,none⟩,D.q,D.q⟩) rfl z8 K
 rw[this,hs2.st (by have:=eF.1;omega) (by simpa using z8) rfl,TI]
 unfold Wa
 have hpw:D.pw x 1=x:=D.one_mul hx
 rw[hpw] at e1
 exact e1
end Go.Abs.P
end
section
namespace Go.Abs.P
open Go.Abs Go.Fld
theorem Ex{D:FD}{x n i:Nat}(h:i<(uE D x n).length):(uE D x n)[i]=D.pw x i:=by simp[uE]
theorem RD{D:FD}{x N:Nat}(p:amd D x N)(hx:x<D.q):(N=D.q-1∧D.mul (D.pw x (D.q-2)) x=1)↔D.aK x:=by
 have hq:=D.q1
 constructor
 ·rintro⟨rfl,h1⟩
  have h1:D.pw x (D.q-2+1)=1:=h1
  rw[show D.q-2+1=D.q-1 by omega] at h1
  refine⟨hx,h1,fun i h0 hi e=>?_⟩
  have:=List.pairwise_iff_getElem.1 p.nodup 0 i (by simp;omega) (by simp;omega) h0
  rw[Ex,Ex,e] at this
  exact this rfl
 ·intro hp
  have hle:=p.le
  have:N=D.q-1:=by
   rcases p.stop with h|h
   ·exact absurd h (D.rP hp N)
   ·refine Classical.byContradiction fun hc=>?_
    obtain⟨j,h1,h2⟩:=List.mem_map.1 h
    exact D.Us hp (List.mem_range.1 h1) (show N<D.q-1 by omega) h2
  refine⟨this,?_⟩
  have h1:=hp.2.1
  rw[show D.q-1=D.q-2+1 by omega] at h1
  exact h1
theorem RE{R:Type}{D:FD}{fl k:Nat}{h0:AH}{bx:Nat}{mod:Sl}(kn:av R)(kr:an R)(f:WQ D)(hx:OB h0 bx [.int .i64 (D.p:Int),.int .i64 (D.m:Int),.slice mod.a mod.l mod.c])(bu:SI h0 mod (ints (jt D)))(bL:fl≤h0.next):
 ∀(d x g:Nat) (h:AH),x+d=D.q→d<g→aj h0 h→(∀y,y<x→¬D.aK y)→
 ∃h',aj h0 h'∧((∃gen s',jk M fl k kn kr g (D.q:Int) ⟨bx,0,none⟩ (x:Int) h=kr s' h'∧D.aK gen∧OV h0.next h' s' (iv (ints (uE D gen (D.q-1)))))∨
  (jk M fl k kn kr g (D.q:Int) ⟨bx,0,none⟩ (x:Int) h=kn h'∧∀y,¬D.aK y)):=by
 have T7:=f.q
 have z8:=D.q1
 intro d
 induction d with
 |zero=>
  intro x g h hi hg hq hno
  obtain⟨g,rfl⟩:∃j,g=j+1:=⟨g-1,by omega⟩
  refine⟨h,hq,.inr ⟨?_,fun y hy=>hno y (by have:=hy.1;omega) hy⟩⟩
  show qE M fl k _ _ _ _ _ _ h=_
  unfold qE wb
  rw[if_neg (by simp;omega)]
 |succ d ih=>
  intro x g h hi hg hq hno
  obtain⟨g,rfl⟩:∃j,g=j+1:=⟨g-1,by omega⟩
  have tP:=hx.quiet hq
  obtain⟨N,s1,h1,p1,p2,p3,p4⟩:=aan (fl:=fl) f (bu.quiet hq) (show x<D.q by omega) (by have:=hq.1;omega)
  have lY:=hq.trans p4
  have Xz:=hx.quiet lY
  have hlen:=p3.len
  simp only[age,cI,RC] at hlen
  have un:jk M fl k kn kr (g+1) (D.q:Int) ⟨bx,0,none⟩ (x:Int) h=qE M fl k (jk M fl k kn kr g) kn kr (D.q:Int) ⟨bx,0,none⟩ (x:Int) h:=rfl
  rw[un]
  unfold qE wb
  rw[if_pos (by simp;omega)]
  dsimp only
  rw[ae (tP.cell rfl),ae (tP.cell rfl),ai (s:=mod) (tP.cell rfl),ah p1]
  simp only[bB]
  have e1:bM ((D.q:Int)-1)=((D.q-1:Nat):Int):=aw _ (by omega) (by omega)
  have e2:bM ((D.q:Int)-2)=((D.q-2:Nat):Int):=aw _ (by omega) (by omega)
  have next:∀h3,aj h0 h3→¬D.aK x→∃h',aj h0 h'∧((∃gen s',tH M fl k (jk M fl k kn kr g) kn kr (D.q:Int) ⟨bx,0,none⟩ (x:Int) h3=kr s' h'∧D.aK gen∧OV h0.next h' s' (iv (ints (uE D gen (D.q-1)))))∨
   (tH M fl k (jk M fl k kn kr g) kn kr (D.q:Int) ⟨bx,0,none⟩ (x:Int) h3=kn h'∧∀y,¬D.aK y)):=by
   intro h3 Ua hnx
   unfold tH
   rw[aw (x+1) (by push_cast;rfl) (by omega)]
   refine ih (x+1) g h3 (by omega) (by omega) Ua fun y hy=>?_
   by_cases e:y=x
   ·subst e;exact hnx
   ·exact hno y (by omega)
  rw[e1,e2]
  by_cases c:N=D.q-1
  ·rw[if_pos (by rw[hlen,c];simp),ae (Xz.cell rfl),ae (Xz.cell rfl),ai (s:=mod) (Xz.cell rfl),p3.si.read (by omega) (by simp;omega)]
   simp only[Int.toNat_natCast,dC,Ex]
   obtain⟨h3,m1,m2⟩:=FB (fl:=fl) f (bu.quiet lY) (D.pw x (D.q-2)) x (by have:=D.CA x (D.q-2);omega) (by omega) (by have:=lY.1;omega)
   rw[ah m1]
   simp only[asInt,if_true]
   by_cases c2:D.mul (D.pw x (D.q-2)) x=1
   ·have hpx:=(RD p2 (by omega)).1 ⟨c,c2⟩
    refine⟨h3,lY.trans m2,.inl ⟨x,s1,?_,hpx,?_⟩⟩
    ·rw[if_pos (by rw[c2];rfl)]
    ·rw[c] at p3
     exact(p3.quiet m2).mono hq.1
   ·rw[if_neg (by simp;omega)]
    exact next h3 (lY.trans m2) (fun hp=>c2 ((RD p2 (by omega)).2 hp).2)
  ·rw[if_neg (by rw[hlen];simp;omega)]
   exact next h1 lY (fun hp=>c ((RD p2 (by omega)).2 hp).1)
theorem Dq{D:FD}(f:WQ D){fl:Nat}{h:AH}{mod:Sl}(bu:SI h mod (ints (jt D)))(bL:fl≤h.next):
 ∃(s':Sl) (h':AH),M fl fn.cF [.agg ⟨[.int .i64 (D.p:Int),.int .i64 (D.m:Int),.slice mod.a mod.l mod.c]⟩,.int .i64 (D.q:Int)] h=some (.slice s'.a s'.l s'.c,h')∧aj h h'∧
  ((∃gen,D.aK gen∧OV h.next h' s' (iv (ints (uE D gen (D.q-1))))∧s'.a.isNone=false)∨(s'.a.isNone=true∧∀y,¬D.aK y)):=by
 have T7:=f.q
 have z8:=D.q1
 have du:=OB.alloc h [.int .i64 (D.p:Int),.int .i64 (D.m:Int),.slice mod.a mod.l mod.c]
 have eF:=aj.alloc h [.int .i64 (D.p:Int),.int .i64 (D.m:Int),.slice mod.a mod.l mod.c]
 generalize dB:h.alloc [.int .i64 (D.p:Int),.int .i64 (D.m:Int),.slice mod.a mod.l mod.c]=h1 at du eF
 obtain⟨h',e1,e2⟩:=RE (k:=D.q+1) (fl:=fl) (Ef M fl (D.q+1) (fun(y6:Sl) q=>some (Value.slice y6.a y6.l y6.c,q))) (fun(y6:Sl) q=>some (Value.slice y6.a y6.l y6.c,q)) f du (bu.quiet eF) (by have:=eF.1;omega)
  (D.q-1) 1 (D.q+1) h1 (by omega) (by omega) (aj.refl _) (fun y hy hp=>by
    obtain rfl:y=0:=by omega
    refine D.rP hp 1 ?_
    show D.mul 1 0=0
    exact D.mul_zero 1)
 have go:∀{s':Sl} {h':AH},cF M fl (D.q+1) (D.p:Int) (D.m:Int) mod (D.q:Int) h=some (.slice s'.a s'.l s'.c,h')→M fl fn.cF [.agg ⟨[.int .i64 (D.p:Int),.int .i64 (D.m:Int),.slice mod.a mod.l mod.c]⟩,.int .i64 (D.q:Int)] h=some (.slice s'.a s'.l s'.c,h'):=by
  intro s' h' e
  refine aR (k:=D.q+1) (by decide) xU ?_
  rw[uo];exact e
 have un:cF M fl (D.q+1) (D.p:Int) (D.m:Int) mod (D.q:Int) h=jk M fl (D.q+1) (Ef M fl (D.q+1) (fun(y6:Sl) q=>some (Value.slice y6.a y6.l y6.c,q))) (fun(y6:Sl) q=>some (Value.slice y6.a y6.l y6.c,q)) (D.q+1) (D.q:Int) ⟨h.next,0,none⟩ ((1:Nat):Int) h1:=by
  unfold cF akU VE cU
  rw[dB];rfl
 rcases e2 with⟨gen,s',g1,g2,g3⟩|⟨g1,g2⟩
 ·refine⟨s',h',go (un.trans g1),eF.trans e1,.inl ⟨gen,g2,g3.mono eF.1,?_⟩⟩
  rcases g3 with⟨a,_⟩|⟨b,c,_,_,_,_,rfl,_⟩
  ·have:=congrArg List.length a;simp at this;omega
  ·rfl
 ·exact⟨⟨none,0,0⟩,h',go (un.trans g1),eF.trans e1,.inr ⟨rfl,g2⟩⟩
def kY(p m:Int)(xs:List Int):Bool:=decide (Cc p m≠0)&&FD.prB p.toNat&&(if m=1 then xs.isEmpty else decide ((xs.length:Int)=m)&&xs.all (fun c=>decide (0≤c)&&decide (c<p)))
structure Ow(p m:Int)(xs:List Int)(D:FD):Prop where
 ok:WQ D
 hp:p=D.p
 hm:m=D.m
 hx:xs=ints (jt D)
 pr:FD.prB D.p=true
theorem acf{p:Nat}(h:0<p):Small p [0]:=by
 intro c hc
 have h0:c=0:=by simpa using hc
 subst h0;exact h
theorem WR{p m:Int}(h:Cc p m≠0):∃a b:Nat,p=a∧m=b∧2≤a∧1≤b∧a^b≤256∧Cc p m=a^b:=by
 unfold Cc at h ⊢
 by_cases c:p<2∨m<1∨m>8∨p>256
 ·rw[if_pos c] at h;exact absurd rfl h
 ·rw[if_neg c] at h ⊢
  by_cases c2:p.toNat^m.toNat≤256
  ·exact⟨p.toNat,m.toNat,by omega,by omega,by omega,by omega,c2,by rw[if_pos c2]⟩
  ·rw[if_neg c2] at h;exact absurd rfl h
theorem rH(p m:Int)(xs:List Int):kY p m xs=true↔∃D,Ow p m xs D:=by
 constructor
 ·intro h
  unfold kY at h
  simp only[Bool.and_eq_true,decide_eq_true_eq] at h
  obtain⟨⟨h1,h2⟩,h3⟩:=h
  obtain⟨a,b,rfl,rfl,ha,hb,hab,_⟩:=WR h1
  simp only[Int.toNat_natCast] at h2
  by_cases c:(b:Int)=1
  ·rw[if_pos c] at h3
   have hxs:xs=[]:=by simpa using h3
   obtain rfl:b=1:=by omega
   refine⟨⟨a,1,[0],ha,by omega,rfl,acf (by omega)⟩,⟨⟨?_,fun _=>rfl⟩,rfl,rfl,?_,h2⟩⟩
   ·exact hab
   ·rw[hxs];rfl
  ·rw[if_neg c] at h3
   simp only[Bool.and_eq_true,decide_eq_true_eq,List.all_eq_true] at h3
   obtain⟨h3,h4⟩:=h3
   refine⟨⟨a,b,xs.map Int.toNat,ha,hb,by simp;omega,?_⟩,⟨⟨hab,fun e=>absurd (show(b:Int)=1 by have e':b=1:=e;omega) c⟩,rfl,rfl,?_,h2⟩⟩
   ·intro d hd
    obtain⟨e,he,rfl⟩:=List.mem_map.1 hd
    have:=h4 e he
    show e.toNat<a
    omega
   ·have:jt ⟨a,b,xs.map Int.toNat,ha,hb,by simp;omega,by
     intro d hd
     obtain⟨e,he,rfl⟩:=List.mem_map.1 hd
     have:=h4 e he
     show e.toNat<a
     omega⟩=xs.map Int.toNat:=by unfold jt;rw[if_neg (fun e=>c (by have e':b=1:=e;omega))]
    rw[this]
    unfold ints
    rw[List.map_map]
    conv=>lhs;rw[←List.map_id xs]
    refine List.map_congr_left fun e he=>?_
    have:=h4 e he
    simp;omega
 ·rintro⟨D,hD⟩
  obtain⟨f,rfl,rfl,rfl,pr⟩:=hD
  have hp2:=D.hp
  have hm1:=D.hm
  have hp:=f.p
  have hm:=f.m
  have hq:=f.q
  unfold kY
  have ho:Cc (D.p:Int) (D.m:Int)=D.q:=by
   unfold Cc
   rw[if_neg (by omega)]
   simp only[Int.toNat_natCast]
   rw[if_pos (show D.p^D.m≤256 from hq)];rfl
  rw[ho]
  have z8:=D.q1
  simp only[Int.toNat_natCast,pr,Bool.and_true,Bool.and_eq_true,decide_eq_true_eq]
  refine⟨by omega,?_⟩
  by_cases c:D.m=1
  ·rw[if_pos (by omega)];unfold jt;rw[if_pos c];rfl
  ·rw[if_neg (by omega)]
   unfold jt
   rw[if_neg c]
   simp only[Bool.and_eq_true,decide_eq_true_eq,List.all_eq_true]
   refine⟨by simp[D.hl],fun e he=>?_⟩
   obtain⟨d,hd,rfl⟩:=List.mem_map.1 he
   have:=D.hs d hd
   simp;omega
theorem ame{p m:Int}{xs:List Int}{D:FD}(h:Ow p m xs D):Cc p m=D.q:=by
 obtain⟨f,rfl,rfl,rfl,pr⟩:=h
 have hp2:=D.hp
 have hm1:=D.hm
 have hp:=f.p
 have hm:=f.m
 have hq:=f.q
 unfold Cc
 rw[if_neg (by omega)]
 simp only[Int.toNat_natCast]
 rw[if_pos (show D.p^D.m≤256 from hq)];rfl
theorem acg{R:Type}{fl k:Nat}{h:AH}{bx:Nat}{mod:Sl}{xs:List Int}{p:Int}(kn:av R)(kr:au R)(vs:List Value)(hx:OB h bx (.int .i64 p::vs))(bu:SI h mod xs)(hb:xs.length≤po):
 ∀(d i g:Nat),i+d=xs.length→d<g→yZ M fl k kn kr g ⟨bx,0,none⟩ mod (xs.length:Int) (i:Int) h=if (xs.drop i).all (fun c=>decide (0≤c)&&decide (c<p))=true then kn h else kr false h:=by
 intro d
 induction d with
 |zero=>
  intro i g hi hg
  obtain⟨g,rfl⟩:∃j,g=j+1:=⟨g-1,by omega⟩
  show qC M fl k _ _ _ _ _ _ _ h=_
  unfold qC
  rw[if_neg (by simp;omega),List.drop_of_length_le (by omega)]
  rfl
 |succ d ih=>
  intro i g hi hg
  obtain⟨g,rfl⟩:∃j,g=j+1:=⟨g-1,by omega⟩
  show qC M fl k _ _ _ _ _ _ _ h=_
  unfold qC
  rw[if_pos (by simp;omega),bu.read (by omega) (by simp;omega)]
  simp only[Int.toNat_natCast]
  rw[List.drop_eq_getElem_cons (show i<xs.length by omega),List.all_cons]
  by_cases c:xs[i]<0
  ·rw[if_neg (by simp[c]),if_neg (by simp;intro h;omega)]
  ·rw[if_pos (by simp;omega),ae (hx.cell rfl)]
   by_cases c2:xs[i]≥p
   ·rw[if_pos (by simp[c2]),if_neg (by simp;intro h;omega)]
   ·rw[if_neg (by simp;omega),jm (by omega),ih (i+1) g (by omega) (by omega)]
    have:(decide (0≤xs[i])&&decide (xs[i]<p))=true:=by simp;omega
    rw[this,Bool.true_and]
theorem RG{fl:Nat}{h:AH}{mod:Sl}{xs:List Int}(p m:Int)(bu:SI h mod xs)(hb:xs.length≤po):
 ∃h',M fl fn.kO [.agg ⟨[.int .i64 p,.int .i64 m,.slice mod.a mod.l mod.c]⟩] h=some (.bool (kY p m xs),h')∧aj h h':=by
 have du:=OB.alloc h [.int .i64 p,.int .i64 m,.slice mod.a mod.l mod.c]
 have eF:=aj.alloc h [.int .i64 p,.int .i64 m,.slice mod.a mod.l mod.c]
 generalize dB:h.alloc [.int .i64 p,.int .i64 m,.slice mod.a mod.l mod.c]=h1 at du eF
 refine⟨h1,aR (k:=xs.length+1) (by decide) Fx ?_,eF⟩
 rw[BB]
 unfold kO akQ VB cU
 rw[dB]
 dsimp only
 rw[ae (du.cell rfl),ae (du.cell rfl),ah (Bj p m)]
 simp only[asInt,if_true]
 unfold kY
 by_cases c:Cc p m=0
 ·rw[if_neg (by simp[c]),c];rfl
 ·rw[if_pos (by simp;omega)]
  obtain⟨a,b,rfl,rfl,ha,Cf,hab,_⟩:=WR c
  have ha2:a≤256:=by
   have:a^1≤a^b:=Nat.pow_le_pow_right (by omega) Cf
   rw[Nat.pow_one] at this;omega
  rw[ae (du.cell rfl),ah (WN ha2 ha)]
  simp only[asBool,Int.toNat_natCast]
  have e1:decide (Cc (a:Int) (b:Int)≠0)=true:=by simp[c]
  rw[e1,Bool.true_and]
  by_cases c2:FD.prB a=true
  ·rw[if_neg (by simp[c2]),c2,Bool.true_and,ae (du.cell rfl)]
   by_cases c3:(b:Int)=1
   ·rw[if_pos (by simp[c3]),if_pos c3,ai (s:=mod) (du.cell rfl),bu.len]
    cases xs with
    |nil=>rfl
    |cons x xs=>simp;omega
   ·rw[if_neg (by simp;omega),if_neg c3,ai (s:=mod) (du.cell rfl),ae (du.cell rfl),bu.len]
    by_cases c4:(xs.length:Int)=b
    ·rw[if_neg (by simp[c4]),ai (s:=mod) (du.cell rfl),bu.len]
     unfold VA
     have:=acg (fl:=fl) (k:=xs.length+1) (La M fl (xs.length+1) (fun(y6:Bool) q=>some (Value.bool y6,q))) (fun(y6:Bool) q=>some (Value.bool y6,q)) _ du (bu.quiet eF) hb xs.length 0 (xs.length+1) (by omega) (by omega)
     refine Eq.trans this ?_
     simp only[List.drop_zero]
     have e2:decide ((xs.length:Int)=b)=true:=by simp[c4]
     rw[e2,Bool.true_and]
     by_cases c5:xs.all (fun c=>decide (0≤c)&&decide (c<(a:Int)))=true
     ·rw[if_pos c5,c5];rfl
     ·rw[if_neg c5];simp only[Bool.not_eq_true] at c5;rw[c5]
    ·rw[if_pos (by simp;omega)]
     have e2:decide ((xs.length:Int)=b)=false:=by simp[c4]
     rw[e2,Bool.false_and]
  ·simp only[Bool.not_eq_true] at c2
   rw[if_pos (by simp[c2]),c2];rfl
end Go.Abs.P
end
section
namespace Go.Abs.P
open Go.Abs Go.Fld
def lgF(D:FD)(gen v:Nat):Nat→Nat→Nat
 |0,_=>0
 |n+1,i=>if D.pw gen i=v then i else lgF D gen v n (i+1)
def lg(D:FD)(gen v:Nat):Nat:=lgF D gen v (D.q-1) 0
def WS(D:FD)(gen:Nat):List Nat:=(List.range D.q).map (lg D gen)
theorem auH{D:FD}{gen:Nat}(hg:D.aK gen){i:Nat}(hi:i<D.q-1):∀n j,j≤i→i<j+n→j+n≤D.q-1→lgF D gen (D.pw gen i) n j=i:=by
 intro n
 induction n with
 |zero=>intro j h1 h2;omega
 |succ n ih=>
  intro j h1 h2 h3
  unfold lgF
  by_cases e:j=i
  ·subst e;rw[if_pos rfl]
  ·rw[if_neg (D.Us hg (show j<i by omega) hi)]
   exact ih (j+1) (by omega) (by omega) (by omega)
theorem as8{D:FD}{gen:Nat}(hg:D.aK gen){i:Nat}(hi:i<D.q-1):lg D gen (D.pw gen i)=i:=auH hg hi _ 0 (by omega) (by omega) (by omega)
theorem amf{D:FD}{gen:Nat}(hg:D.aK gen){x:Nat}(h0:x≠0)(hx:x<D.q):lg D gen x<D.q-1∧D.pw gen (lg D gen x)=x:=by
 obtain⟨i,hi,rfl⟩:=D.yA hg h0 hx
 rw[as8 hg hi];exact⟨hi,rfl⟩
structure GF(h:AH)(g:Addr)(D:FD)(gen:Nat):Prop where
 ok:WQ D
 RM:D.aK gen
 off:g.off=0
 ex:∃mod e l:Sl,OB h g.block [.int .i64 (D.p:Int),.int .i64 (D.m:Int),.slice mod.a mod.l mod.c,.int .i64 (D.q:Int),.slice e.a e.l e.c,.slice l.a l.l l.c]∧
  SI h mod (ints (jt D))∧SI h e (ints (uE D gen (D.q-1)))∧SI h l (ints (WS D gen))
theorem GF.quiet{h h':AH}{g:Addr}{D:FD}{gen:Nat}(p:GF h g D gen)(q:aj h h'):GF h' g D gen:=by
 obtain⟨m,e,l,h1,h2,h3,h4⟩:=p.ex
 exact⟨p.ok,p.RM,p.off,m,e,l,h1.quiet q,h2.quiet q,h3.quiet q,h4.quiet q⟩
theorem GF.cp{h:AH}{g:Addr}{D:FD}{gen:Nat}(p:GF h g D gen):h.cell g.block g.off=some (.int .i64 (D.p:Int)):=by
 obtain⟨m,e,l,h1,_⟩:=p.ex
 rw[p.off];exact h1.cell rfl
theorem GF.cq{h:AH}{g:Addr}{D:FD}{gen:Nat}(p:GF h g D gen):h.cell g.block (g.off+3)=some (.int .i64 (D.q:Int)):=by
 obtain⟨m,e,l,h1,_⟩:=p.ex
 rw[p.off];exact h1.cell rfl
theorem GF.awU{h:AH}{g:Addr}{D:FD}{gen:Nat}(p:GF h g D gen):∃e l:Sl,h.cell g.block (g.off+4)=some (.slice e.a e.l e.c)∧h.cell g.block (g.off+5)=some (.slice l.a l.l l.c)∧
 SI h e (ints (uE D gen (D.q-1)))∧SI h l (ints (WS D gen)):=by
 obtain⟨m,e,l,h1,_,h3,h4⟩:=p.ex
 refine⟨e,l,?_,?_,h3,h4⟩<;>rw[p.off]<;>exact h1.cell rfl
def Ki(D:FD)(x:Int):Bool:=decide (0≤x)&&decide (x<D.q)
def pq(D:FD)(x:Int):Nat:=if 0≤x∧x<D.q then x.toNat else 0
theorem HF(D:FD)(x:Int):pq D x<D.q:=by
 have:=D.q1
 unfold pq;split<;>omega
theorem Pm{D:FD}{x:Nat}(h:x<D.q):pq D (x:Int)=x:=by
 unfold pq;rw[if_pos (by omega)];rfl
section
variable{fl:Nat}{h:AH}{g:Addr}{D:FD}{gen:Nat}
theorem WT(p:GF h g D gen)(x:Int):M fl fn.js [.pointer (some g),.int .i64 x] h=some (.bool (Ki D x),h):=by
 refine aR (k:=1) (by decide) Fw ?_
 rw[BA]
 unfold js akK Ki
 by_cases c:x≥0
 ·rw[if_pos (by simp;omega)]
  simp only[cT]
  rw[ae p.cq]
  have:decide (0≤x)=true:=by simp;omega
  rw[this,Bool.true_and]
 ·rw[if_neg (by simp;omega)]
  have:decide (0≤x)=false:=by simp;omega
  rw[this,Bool.false_and]
theorem Ey(p:GF h g D gen)(x:Int):M fl fn.eX [.pointer (some g),.int .i64 x] h=some (.int .i64 ((pq D x:Nat):Int),h):=by
 refine aR (k:=1) (by decide) Fz ?_
 rw[BJ]
 unfold eX alw
 rw[ah (WT p x)]
 simp only[asBool]
 unfold Ki pq
 by_cases c:0≤x∧x<D.q
 ·rw[if_pos (by simp;omega),if_pos c]
  congr 2
  rw[Int.toNat_of_nonneg c.1]
 ·rw[if_neg (by simp;omega),if_neg c];rfl
theorem ahg(p d:Nat):dJ p (tB p (aN p d 0) (aN p d 0))=0:=by
 induction d with
 |zero=>rfl
 |succ d ih=>simp[aN,tB,dJ,ih]
theorem ahh(p d:Nat):dJ p (yz p (aN p d 0))=0:=by
 induction d with
 |zero=>rfl
 |succ d ih=>simp[aN,yz,dJ,ih]
theorem wM{p d x:Nat}(h:x<p^(d+1)):x/p<p^d:=by
 rw[Nat.pow_succ] at h
 exact Nat.div_lt_of_lt_mul (by rw[Nat.mul_comm];exact h)
theorem amg{R:Type}{k:Nat}(kn:ag R)(p:GF h g D gen):
 ∀(d i f x y s:Nat),i+d=D.m→d<f→x<D.p^d→y<D.p^d→s<D.p^i→
 rj M fl k kn f (some g) (x:Int) (y:Int) (s:Int) ((D.p^i:Nat):Int) h=kn ((s+D.p^i*dJ D.p (tB D.p (aN D.p d x) (aN D.p d y)):Nat):Int) h:=by
 have hp0:=D.hp
 have hp:=p.ok.p
 have hq:D.p^D.m≤256:=p.ok.q
 have stop:∀(d i f x y s:Nat),x=0→y=0→0<f→rj M fl k kn f (some g) (x:Int) (y:Int) (s:Int) ((D.p^i:Nat):Int) h=kn ((s+D.p^i*dJ D.p (tB D.p (aN D.p d x) (aN D.p d y)):Nat):Int) h:=by
  rintro d i f x y s rfl rfl hf
  obtain⟨f,rfl⟩:∃j,f=j+1:=⟨f-1,by omega⟩
  show rh M fl k _ _ _ _ _ _ _ h=_
  unfold rh wA
  rw[if_pos (by simp),if_neg (by simp),ahg,Nat.mul_zero,Nat.add_zero]
 intro d
 induction d with
 |zero=>
  intro i f x y s hi hf hx hy hs
  exact stop 0 i f x y s (by simpa using hx) (by simpa using hy) hf
 |succ d ih=>
  intro i f x y s hi hf hx hy hs
  by_cases c:x=0∧y=0
  ·exact stop (d+1) i f x y s c.1 c.2 (by omega)
  ·obtain⟨f,rfl⟩:∃j,f=j+1:=⟨f-1,by omega⟩
   have hpi:D.p^(i+1)≤256:=Nat.le_trans (Nat.pow_le_pow_right (by omega) (by omega)) hq
   have hpd:D.p^(d+1)≤256:=Nat.le_trans (Nat.pow_le_pow_right (by omega) (by omega)) hq
   have bu:(x%D.p+y%D.p)%D.p<D.p:=Nat.mod_lt _ (by omega)
   have hx1:x%D.p<D.p:=Nat.mod_lt _ (by omega)
   have hy1:y%D.p<D.p:=Nat.mod_lt _ (by omega)
   have e0:D.p^i*D.p=D.p^(i+1):=(Nat.pow_succ ..).symm
   have hmul:(x%D.p+y%D.p)%D.p*D.p^i+D.p^i≤D.p^(i+1):=by
    rw[←e0,Nat.mul_comm,←Nat.mul_succ]
    exact Nat.mul_le_mul_left _ bu
   have next:xN M fl k (rj M fl k kn f) kn (some g) (x:Int) (y:Int) (s:Int) ((D.p^i:Nat):Int) h=kn ((s+D.p^i*dJ D.p (tB D.p (aN D.p (d+1) x) (aN D.p (d+1) y)):Nat):Int) h:=by
    unfold xN
    simp only[cT]
    rw[ae p.cp,gO (by omega),ae p.cp,gO (by omega),ae p.cp,aw (x%D.p+y%D.p) (by push_cast;rfl) (by omega),gO (by omega),ae p.cp,ae p.cp,DP (by omega) (by omega),
     ae p.cp,DP (by omega) (by omega)]
    have e1:bM ((((x%D.p+y%D.p)%D.p:Nat):Int)*((D.p^i:Nat):Int))=(((x%D.p+y%D.p)%D.p*D.p^i:Nat):Int):=aw _ (by push_cast;rfl) (by omega)
    have e2:bM ((s:Int)+(((x%D.p+y%D.p)%D.p*D.p^i:Nat):Int))=((s+(x%D.p+y%D.p)%D.p*D.p^i:Nat):Int):=aw _ (by push_cast;rfl) (by omega)
    have e3:bM (((D.p^i:Nat):Int)*(D.p:Int))=((D.p^(i+1):Nat):Int):=aw _ (by rw[←e0];push_cast;rfl) (by omega)
    rw[e1,e2,e3,ih (i+1) f (x/D.p) (y/D.p) _ (by omega) (by omega) (wM hx) (wM hy) (by omega)]
    congr 2
    simp only[aN,tB,dJ]
    rw[←e0,Nat.mul_add,Nat.mul_comm ((x%D.p+y%D.p)%D.p),Nat.mul_assoc]
    omega
   show rh M fl k _ _ _ _ _ _ _ h=_
   unfold rh wA
   by_cases c1:x=0
   ·rw[if_pos (by simp;omega),if_pos (by simp;omega)]
    exact next
   ·rw[if_neg (by simp;omega)]
    exact next
theorem arY:∀(m x y:Nat),x<2^m→y<2^m→dJ 2 (tB 2 (aN 2 m x) (aN 2 m y))=x^^^y:=by
 intro m
 induction m with
 |zero=>intro x y hx hy;simp at hx hy;subst hx hy;rfl
 |succ m ih=>
  intro x y hx hy
  simp only[aN,tB,dJ]
  rw[ih _ _ (wM hx) (wM hy),←Nat.xor_div_two]
  have h1:(x%2+y%2)%2=(x^^^y)%2:=by
   have:=Nat.xor_mod_two_pow (a:=x) (b:=y) (n:=1)
   rw[Nat.pow_one] at this
   rw[this]
   have Xz:x%2=0∨x%2=1:=by omega
   have hy2:y%2=0∨y%2=1:=by omega
   rcases Xz with e|e<;>rcases hy2 with e'|e'<;>rw[e,e']<;>rfl
  rw[h1];omega
theorem amh{R:Type}{a b:Nat}(ha:a<256)(hb:b<256)(K:Int→Option R):iZ .xor .i64 (a:Int) (b:Int) K=K ((a^^^b:Nat):Int):=by
 unfold iZ Cg
 simp only
 congr 1
 have hx:a^^^b<2^8:=Nat.xor_lt_two_pow (by omega) (by omega)
 have e:(BitVec.ofInt IntKind.i64.bits (a:Int)^^^BitVec.ofInt IntKind.i64.bits (b:Int)).toNat=a^^^b:=by
  show(BitVec.ofInt 64 (a:Int)^^^BitVec.ofInt 64 (b:Int)).toNat=a^^^b
  rw[BitVec.ofInt_natCast,BitVec.ofInt_natCast,BitVec.toNat_xor,BitVec.toNat_ofNat,BitVec.toNat_ofNat,Nat.mod_eq_of_lt (by omega),Nat.mod_eq_of_lt (by omega)]
 rw[e]
 exact aw (a^^^b) rfl (by omega)
theorem aao(p:GF h g D gen)(x y:Int):M fl fn.gV [.pointer (some g),.int .i64 x,.int .i64 y] h=some (.int .i64 ((D.add (pq D x) (pq D y):Nat):Int),h):=by
 have hp0:=D.hp
 have hq:D.q≤256:=p.ok.q
 have hm:=p.ok.m
 have hx:=HF D x
 have hy:=HF D y
 refine aR (k:=10) (by decide) Dk ?_
 rw[zB]
 unfold gV alG Wf
 rw[ah (Ey p x)]
 simp only[asInt,if_true]
 rw[ah (Ey p y)]
 simp only[asInt,if_true,cT]
 rw[ae p.cp]
 by_cases c:D.p=2
 ·rw[if_pos (by rw[c];rfl),amh (by omega) (by omega)]
  congr 4
  unfold FD.add FD.dg
  unfold FD.q at hx hy
  rw[c] at hx hy ⊢
  exact(arY _ _ _ hx hy).symm
 ·rw[if_neg (by simp;omega)]
  unfold We
  have:=amg (fl:=fl) (k:=10) (Lm M fl 10 (fun(y6:Int) q=>some (Value.int .i64 y6,q))) p D.m 0 10 (pq D x) (pq D y) 0 (by omega) (by omega) hx hy (by simp)
  rw[Nat.pow_zero] at this
  refine Eq.trans this ?_
  rw[Nat.one_mul,Nat.zero_add];rfl
theorem ami{R:Type}{k:Nat}(kn:ag R)(p:GF h g D gen):
 ∀(d i f x s:Nat),i+d=D.m→d<f→x<D.p^d→s<D.p^i→
 vq M fl k kn f (some g) (x:Int) (s:Int) ((D.p^i:Nat):Int) h=kn ((s+D.p^i*dJ D.p (yz D.p (aN D.p d x)):Nat):Int) h:=by
 have hp0:=D.hp
 have hp:=p.ok.p
 have hq:D.p^D.m≤256:=p.ok.q
 have stop:∀(d i f x s:Nat),x=0→0<f→vq M fl k kn f (some g) (x:Int) (s:Int) ((D.p^i:Nat):Int) h=kn ((s+D.p^i*dJ D.p (yz D.p (aN D.p d x)):Nat):Int) h:=by
  rintro d i f x s rfl hf
  obtain⟨f,rfl⟩:∃j,f=j+1:=⟨f-1,by omega⟩
  show qy M fl k _ _ _ _ _ _ h=_
  unfold qy
  rw[if_neg (by simp),ahh,Nat.mul_zero,Nat.add_zero]
 intro d
 induction d with
 |zero=>
  intro i f x s hi hf hx hs
  exact stop 0 i f x s (by simpa using hx) hf
 |succ d ih=>
  intro i f x s hi hf hx hs
  by_cases c:x=0
  ·exact stop (d+1) i f x s c (by omega)
  ·obtain⟨f,rfl⟩:∃j,f=j+1:=⟨f-1,by omega⟩
   have hpi:D.p^(i+1)≤256:=Nat.le_trans (Nat.pow_le_pow_right (by omega) (by omega)) hq
   have hpd:D.p^(d+1)≤256:=Nat.le_trans (Nat.pow_le_pow_right (by omega) (by omega)) hq
   have hx1:x%D.p<D.p:=Nat.mod_lt _ (by omega)
   have bu:(D.p-x%D.p)%D.p<D.p:=Nat.mod_lt _ (by omega)
   have e0:D.p^i*D.p=D.p^(i+1):=(Nat.pow_succ ..).symm
   have hmul:(D.p-x%D.p)%D.p*D.p^i+D.p^i≤D.p^(i+1):=by
    rw[←e0,Nat.mul_comm,←Nat.mul_succ]
    exact Nat.mul_le_mul_left _ bu
   show qy M fl k _ _ _ _ _ _ h=_
   unfold qy
   rw[if_pos (by simp;omega)]
   simp only[cT]
   rw[ae p.cp,ae p.cp,gO (by omega),ae p.cp,aw (D.p-x%D.p) (by omega) (by omega),gO (by omega),ae p.cp,ae p.cp,DP (by omega) (by omega)]
   have e1:bM ((((D.p-x%D.p)%D.p:Nat):Int)*((D.p^i:Nat):Int))=(((D.p-x%D.p)%D.p*D.p^i:Nat):Int):=aw _ (by push_cast;rfl) (by omega)
   have e2:bM ((s:Int)+(((D.p-x%D.p)%D.p*D.p^i:Nat):Int))=((s+(D.p-x%D.p)%D.p*D.p^i:Nat):Int):=aw _ (by push_cast;rfl) (by omega)
   have e3:bM (((D.p^i:Nat):Int)*(D.p:Int))=((D.p^(i+1):Nat):Int):=aw _ (by rw[←e0];push_cast;rfl) (by omega)
   rw[e1,e2,e3]
   refine(ih (i+1) f (x/D.p) _ (by omega) (by omega) (wM hx) (by omega)).trans ?_
   congr 2
   simp only[aN,yz,dJ]
   rw[←e0,Nat.mul_add,Nat.mul_comm ((D.p-x%D.p)%D.p),Nat.mul_assoc]
   omega
theorem aap(p:GF h g D gen)(x:Int):M fl fn.fG [.pointer (some g),.int .i64 x] h=some (.int .i64 ((D.neg (pq D x):Nat):Int),h):=by
 have hm:=p.ok.m
 have hx:=HF D x
 refine aR (k:=10) (by decide) Db ?_
 rw[yW]
 unfold fG akB Vs
 rw[ah (Ey p x)]
 simp only[asInt,if_true]
 unfold Vr
 have:=ami (fl:=fl) (k:=10) (K7 M fl 10 (fun(y6:Int) q=>some (Value.int .i64 y6,q))) p D.m 0 10 (pq D x) 0 (by omega) (by omega) hx (by simp)
 rw[Nat.pow_zero] at this
 refine Eq.trans this ?_
 rw[Nat.one_mul,Nat.zero_add];rfl
theorem amj(p:GF h g D gen)(x y:Int):M fl fn.jz [.pointer (some g),.int .i64 x,.int .i64 y] h=some (.int .i64 ((D.add (pq D x) (D.neg (pq D y)):Nat):Int),h):=by
 refine aR (k:=1) (by decide) Dd ?_
 rw[zf]
 unfold jz ak3
 rw[ah (aap p y)]
 simp only[asInt,if_true]
 rw[ah (aao p x _),Pm (D.ai7 _)]
 rfl
theorem RH{x:Nat}(h:x<(WS D gen).length):(WS D gen)[x]=lg D gen x:=by simp[WS]
@[simp] theorem as9:(WS D gen).length=D.q:=by simp[WS]
theorem auI(hg:D.aK gen)(n:Nat):D.pw gen (n%(D.q-1))=D.pw gen n:=by
 have hk:∀k,D.pw gen ((D.q-1)*k)=1:=by
  intro k
  induction k with
  |zero=>simp[FD.pw]
  |succ k ih=>rw[Nat.mul_succ,D.x9,ih,hg.2.1,D.mul_one D.q1]
 conv=>rhs;rw[←Nat.mod_add_div n (D.q-1),D.x9,hk,D.mul_one (D.CA ..)]
theorem aaq(p:GF h g D gen)(x y:Int):M fl fn.dT [.pointer (some g),.int .i64 x,.int .i64 y] h=some (.int .i64 ((D.mul (pq D x) (pq D y):Nat):Int),h):=by
 have hq:D.q≤256:=p.ok.q
 have z8:=D.q1
 have hx:=HF D x
 have hy:=HF D y
 refine aR (k:=1) (by decide) De ?_
 rw[zg]
 unfold dT ak5
 rw[ah (Ey p x)]
 simp only[asInt,if_true]
 rw[ah (Ey p y)]
 simp only[asInt,if_true,cT]
 generalize pq D x=a at hx ⊢
 generalize pq D y=b at hy ⊢
 by_cases c:a=0
 ·rw[if_neg (by simp[c]),c,D.mul_comm,D.mul_zero];rfl
 ·rw[if_pos (by simp[c])]
  by_cases c2:b=0
  ·rw[if_pos (by simp[c2]),c2,D.mul_zero];rfl
  ·rw[if_neg (by simp[c2])]
   obtain⟨e,l,t1,t2,t3,t4⟩:=p.awU
   obtain⟨ha1,ha2⟩:=amf p.RM c hx
   obtain⟨Cf,mg⟩:=amf p.RM c2 hy
   have e1:bM ((D.q:Int)-1)=((D.q-1:Nat):Int):=aw _ (by omega) (by omega)
   rw[ai t1,ai t2,t4.read (by omega) (by simp;omega)]
   simp only[Int.toNat_natCast,dC,RH]
   rw[ai t2,t4.read (by omega) (by simp;omega)]
   simp only[Int.toNat_natCast,dC,RH]
   have hr:(lg D gen a+lg D gen b)%(D.q-1)<D.q-1:=Nat.mod_lt _ (by omega)
   rw[ae p.cq,e1,aw (lg D gen a+lg D gen b) (by push_cast;rfl) (by omega),gO (by omega),t3.read (by omega) (by rw[cI,RC,Int.toNat_natCast];exact hr)]
   simp only[Int.toNat_natCast,dC,Ex]
   rw[auI p.RM,D.x9,ha2,mg]
theorem aar(p:GF h g D gen)(x:Int)(h0:pq D x≠0):M fl fn.gU [.pointer (some g),.int .i64 x] h=some (.tuple ⟨[.int .i64 ((D.inv (pq D x):Nat):Int),.int .i64 0]⟩,h):=by
 have hq:D.q≤256:=p.ok.q
 have z8:=D.q1
 have hx:=HF D x
 refine aR (k:=1) (by decide) Dg ?_
 rw[zo]
 unfold gU alk
 rw[ah (Ey p x)]
 simp only[asInt,if_true,cT]
 generalize pq D x=a at hx h0 ⊢
 rw[if_neg (by simp[h0])]
 obtain⟨e,l,t1,t2,t3,t4⟩:=p.awU
 obtain⟨ha1,ha2⟩:=amf p.RM h0 hx
 have e1:bM ((D.q:Int)-1)=((D.q-1:Nat):Int):=aw _ (by omega) (by omega)
 rw[ai t1,ae p.cq,ai t2,t4.read (by omega) (by simp;omega)]
 simp only[Int.toNat_natCast,dC,RH]
 have hr:(D.q-1-lg D gen a)%(D.q-1)<D.q-1:=Nat.mod_lt _ (by omega)
 rw[ae p.cq,e1,aw (D.q-1-lg D gen a) (by omega) (by omega),gO (by omega),t3.read (by omega) (by simp;omega)]
 simp only[Int.toNat_natCast,dC,Ex]
 have:=FD.X2 p.RM ha1
 rw[ha2] at this
 rw[FD.abY p.RM hx (D.CA ..) this]
theorem amk(p:GF h g D gen)(x y:Int)(h0:pq D y≠0):M fl fn.jy [.pointer (some g),.int .i64 x,.int .i64 y] h=some (.tuple ⟨[.int .i64 ((D.mul (pq D x) (D.inv (pq D y)):Nat):Int),.int .i64 0]⟩,h):=by
 refine aR (k:=1) (by decide) Dc ?_
 rw[zd]
 unfold jy ak0
 rw[ah (aar p y h0)]
 simp only[bj,aL,ch,asInt,if_true]
 rw[if_neg (by simp),ah (aaq p x _),Pm (D.abX _)]
 rfl
end
end Go.Abs.P
end
section
namespace Go.Abs.P
open Go.Abs Go.Fld
theorem aml{a b:List Nat}(h:ints a=ints b):a=b:=by
 unfold ints at h
 exact(List.map_inj_right (fun x y e=>Int.ofNat.inj e)).1 h
theorem cX{p m:Int}{xs:List Int}{D D':FD}(h:Ow p m xs D)(h':Ow p m xs D'):D=D':=by
 obtain⟨f,rfl,rfl,rfl,_⟩:=h
 obtain⟨f',e1,e2,e3,_⟩:=h'
 have a1:=f.one
 have a2:=f'.one
 obtain⟨p,m,low,hp,hm,hl,hs⟩:=D
 obtain⟨p',m',aAA,hp',hm',No,hs'⟩:=D'
 simp only at e1 e2 a1 a2
 have e1:p=p':=by omega
 have e2:m=m':=by omega
 subst e1 e2
 have:low=aAA:=by
  have e3:=aml e3
  unfold jt at e3
  by_cases c:m=1
  ·rw[a1 c,a2 c]
  ·rwa[if_neg (show ¬m=1 from c),if_neg (show ¬m=1 from c)] at e3
 subst this;rfl
def wN(p m:Int)(xs:List Int):Prop:=∃D gen,Ow p m xs D∧D.aK gen
theorem aas{fl:Nat}{h:AH}{mod:Sl}{xs:List Int}(p m:Int)(bu:SI h mod xs)(hb:xs.length≤po)(bL:fl≤h.next):
 ∃h' e,M fl fn.fM [.agg ⟨[.int .i64 p,.int .i64 m,.slice mod.a mod.l mod.c]⟩] h=some (.int .i64 e,h')∧aj h h'∧((wN p m xs∧e=0)∨(¬wN p m xs∧e=1)):=by
 have du:=OB.alloc h [.int .i64 p,.int .i64 m,.slice mod.a mod.l mod.c]
 have eF:=aj.alloc h [.int .i64 p,.int .i64 m,.slice mod.a mod.l mod.c]
 generalize dB:h.alloc [.int .i64 p,.int .i64 m,.slice mod.a mod.l mod.c]=h1 at du eF
 obtain⟨h2,s1,s2⟩:=RG (fl:=fl) p m (bu.quiet eF) hb
 have go:∀{e:Int} {h':AH},fM M fl 1 p m mod h=some (.int .i64 e,h')→M fl fn.fM [.agg ⟨[.int .i64 p,.int .i64 m,.slice mod.a mod.l mod.c]⟩] h=some (.int .i64 e,h'):=by
  intro e h' he
  refine aR (k:=1) (by decide) Ft ?_
  rw[Bu];exact he
 have lY:=eF.trans s2
 have mg:=du.quiet s2
 have pre:∀r,(if (!kY p m xs)=false then aF .i64 h2 h.next 0 fun n9=>aF .i64 h2 h.next 1 fun tO=>bC h2 h.next 2 fun Ks=>aF .i64 h2 h.next 0 fun ED=>aF .i64 h2 h.next 1 fun DA=>aD M h2.next fn.gS [.int .i64 ED,.int .i64 DA] h2 fun v14 EB=>asInt .i64 v14 fun Kr=>aD M fl fn.cF [.agg ⟨[.int .i64 n9,.int .i64 tO,.slice Ks.a Ks.l Ks.c]⟩,.int .i64 Kr] EB fun v17 OE=>bB v17 fun s19=>if s19.a.isNone=true then some (Value.int .i64 1,OE) else some (Value.int .i64 0,OE) else some (Value.int .i64 1,h2))=r→fM M fl 1 p m mod h=r:=by
  intro r hr
  unfold fM akk cU
  rw[dB]
  dsimp only
  rw[ae (du.cell rfl),ae (du.cell rfl),ai (s:=mod) (du.cell rfl),ah s1]
  simp only[asBool]
  exact hr
 by_cases c:kY p m xs=true
 ·obtain⟨D,hD⟩:=(rH p m xs).1 c
  have ho:=ame hD
  obtain⟨f,rfl,rfl,rfl,pr⟩:=hD
  obtain⟨s',h',g1,g2,g3⟩:=Dq (fl:=fl) f (bu.quiet lY) (by have:=lY.1;omega)
  have run:∀e,(if s'.a.isNone=true then some (Value.int .i64 1,h') else some (Value.int .i64 0,h'))=some (Value.int .i64 e,h')→fM M fl 1 (D.p:Int) (D.m:Int) mod h=some (.int .i64 e,h'):=by
   intro e he
   apply pre
   rw[if_pos (by simp[c]),ae (mg.cell rfl),ae (mg.cell rfl),ai (s:=mod) (mg.cell rfl),ae (mg.cell rfl),ae (mg.cell rfl),ah (Bj _ _),ho]
   simp only[asInt,if_true]
   rw[ah g1]
   exact he
  rcases g3 with⟨gen,p1,_,p3⟩|⟨p1,p2⟩
  ·exact⟨h',0,go (run 0 (by rw[p3];rfl)),lY.trans g2,.inl ⟨⟨D,gen,⟨f,rfl,rfl,rfl,pr⟩,p1⟩,rfl⟩⟩
  ·refine⟨h',1,go (run 1 (by rw[p1];rfl)),lY.trans g2,.inr ⟨?_,rfl⟩⟩
   rintro⟨D',gen,h1,h2⟩
   have:D=D':=cX ⟨f,rfl,rfl,rfl,pr⟩ h1
   subst this
   exact p2 gen h2
 ·refine⟨h2,1,go (pre _ ?_),lY,.inr ⟨?_,rfl⟩⟩
  ·rw[if_neg (by simp[c])]
  ·rintro⟨D',gen,h1,h2⟩
   exact c ((rH p m xs).2 ⟨D',h1⟩)
theorem ach{R:Type}{fl b:Nat}{h:AH}{s:Sl}{xs:List Int}(hb:OB h b [])(hs:SI h s xs)(hr:xs.length*8≤lk)(K:Sl→AH→Option R):
 ∃s' h',iJ fl 1 8 ⟨some ⟨b,0,none⟩,0,0⟩ s h K=K s' h'∧SI h' s' xs∧aj h h':=by
 have hl:=hs.len
 unfold iJ
 cases xs with
 |nil=>
  refine⟨⟨some ⟨b,0,none⟩,0,0⟩,h,?_,⟨rfl,fun i hi=>by cases hi⟩,aj.refl h⟩
  rw[if_pos (by simpa using hl)]
 |cons x xs=>
  refine⟨⟨some ⟨h.next,0,none⟩,s.l,pB+1⟩,h.alloc (iv (x::xs)),?_,?_,aj.alloc ..⟩
  ·rw[if_neg (by rw[hl];simp),if_pos (by rw[hl];simpa using hr),hs.Fg (by simp)]
   simp only
   rw[if_pos (by unfold pB;omega),if_neg (by rw[hl];simp)]
   unfold Fg
   simp only[hb.iq]
   rw[if_pos (by simp)]
   simp
  ·have:=(OB.alloc h (iv (x::xs))).si none (pB+1)
   rw[hl];exact this
def wO(D:FD)(gen n:Nat):List Nat:=(List.range D.q).map fun v=>if v∈uE D gen n then lg D gen v else 0
@[simp] theorem arZ(D:FD)(gen n:Nat):(wO D gen n).length=D.q:=by simp[wO]
theorem ahi{D:FD}{gen n:Nat}(hg:D.aK gen)(hn:n<D.q-1):(wO D gen n).set (D.pw gen n) n=wO D gen (n+1):=by
 apply List.ext_getElem (by simp)
 intro i h1 h2
 rw[List.getElem_set]
 simp only[wO,List.getElem_map,List.getElem_range,Dp,List.mem_append,List.mem_singleton]
 by_cases e:D.pw gen n=i
 ·subst e
  rw[if_pos rfl,if_pos (.inr rfl),as8 hg hn]
 ·rw[if_neg e]
  have:¬i=D.pw gen n:=fun h=>e h.symm
  simp[this]
theorem ahj{D:FD}{gen:Nat}(hg:D.aK gen):wO D gen (D.q-1)=WS D gen:=by
 have hq:=D.q1
 refine List.map_congr_left fun v hv=>?_
 have hv:=List.mem_range.1 hv
 by_cases c:v=0
 ·subst c
  have h1:¬0∈uE D gen (D.q-1):=by
   intro h
   obtain⟨i,_,h2⟩:=List.mem_map.1 h
   exact D.rP hg i h2
  rw[if_neg h1]
  have:∀n i,lgF D gen 0 n i=0:=by
   intro n
   induction n with
   |zero=>intro i;rfl
   |succ n ih=>intro i;unfold lgF;rw[if_neg (D.rP hg i)];exact ih _
  exact(this _ _).symm
 ·obtain⟨i,h1,rfl⟩:=D.yA hg c hv
  have:D.pw gen i∈uE D gen (D.q-1):=List.mem_map.2 ⟨i,List.mem_range.2 h1,rfl⟩
  rw[if_pos this]
theorem amm{R:Type}{D:FD}{fl k:Nat}{h0:AH}{b lb gen:Nat}{mod e:Sl}(kn:xA R)(hg:D.aK gen)(hq:D.q≤256)(hgf:OB h0 b [.int .i64 (D.p:Int),.int .i64 (D.m:Int),.slice mod.a mod.l mod.c,.int .i64 (D.q:Int),.slice e.a e.l e.c,.slice (some ⟨lb,0,none⟩) D.q D.q])
 (iH:lb≠b) (he:SI h0 e (ints (uE D gen (D.q-1)))) (hel:∀a,e.a=some a→lb≠a.block) (bL:fl≤lb):
 ∀(d n g:Nat) (h:AH),n+d=D.q-1→d<g→OB h lb (iv (ints (wO D gen n)))→iI (some ⟨lb,0,none⟩) h0 h→
 ∃h',yP M fl k kn g (some ⟨b,0,none⟩) e ((D.q-1:Nat):Int) (n:Int) h=kn (some ⟨b,0,none⟩) h'∧OB h' lb (iv (ints (WS D gen)))∧iI (some ⟨lb,0,none⟩) h0 h':=by
 intro d
 induction d with
 |zero=>
  intro n g h hi hf ho LP
  obtain⟨g,rfl⟩:∃j,g=j+1:=⟨g-1,by omega⟩
  obtain rfl:n=D.q-1:=by omega
  rw[ahj hg] at ho
  refine⟨h,?_,ho,LP⟩
  show qm M fl k _ _ _ _ _ _ h=_
  unfold qm
  rw[if_neg (by simp)]
 |succ d ih=>
  intro n g h hi hf ho LP
  obtain⟨g,rfl⟩:∃j,g=j+1:=⟨g-1,by omega⟩
  have hlt:=D.CA gen n
  have az4:=LP.ob hgf (fun a ha=>by cases ha;exact iH)
  have hs:(iv (ints (wO D gen n))).set (0+D.pw gen n) (.int .i64 (n:Int))=iv (ints (wO D gen (n+1))):=by
   rw[kI,ints_set,Nat.zero_add,ahi hg (by omega)]
  obtain⟨h',e1,e2,e3⟩:=ih (n+1) g (h.put lb (some (iv (ints (wO D gen (n+1)))))) (by omega) (by omega) (ho.put _) (LP.trans (iI.put _))
  refine⟨h',?_,e2,e3⟩
  show qm M fl k _ _ _ _ _ _ h=_
  unfold qm
  rw[if_pos (by rw[decide_eq_true_eq];omega),(he.Ao LP (fun a b' ha rM=>by cases rM;exact hel a ha)).read (by omega) (by simp;omega)]
  simp only[Int.toNat_natCast,dC,Ex,cT]
  rw[ai (s:=⟨some ⟨lb,0,none⟩,D.q,D.q⟩) (az4.cell rfl),aU rfl hlt]
  dsimp only
  rw[ho.st bL (by simp;omega) rfl,hs,aw (n+1) (by push_cast;rfl) (by omega)]
  exact e1
theorem Kj{fl:Nat}{h:AH}{mod:Sl}{xs:List Int}(p m:Int)(bu:SI h mod xs)(hb:xs.length≤po)(bL:fl≤h.next):
 ∃h',aj h h'∧((¬wN p m xs∧M fl fn.eK [.agg ⟨[.int .i64 p,.int .i64 m,.slice mod.a mod.l mod.c]⟩] h=some (.tuple ⟨[.pointer none,.int .i64 1]⟩,h'))∨
  (∃D gen g,Ow p m xs D∧GF h' g D gen∧h.next≤g.block∧M fl fn.eK [.agg ⟨[.int .i64 p,.int .i64 m,.slice mod.a mod.l mod.c]⟩] h=some (.tuple ⟨[.pointer (some g),.int .i64 0]⟩,h'))):=by
 have du:=OB.alloc h [.int .i64 p,.int .i64 m,.slice mod.a mod.l mod.c]
 have eF:=aj.alloc h [.int .i64 p,.int .i64 m,.slice mod.a mod.l mod.c]
 generalize dB:h.alloc [.int .i64 p,.int .i64 m,.slice mod.a mod.l mod.c]=h1 at du eF
 obtain⟨h2,s1,s2⟩:=RG (fl:=fl) p m (bu.quiet eF) hb
 have go:∀{r},eK M fl 300 p m mod h=some r→M fl fn.eK [.agg ⟨[.int .i64 p,.int .i64 m,.slice mod.a mod.l mod.c]⟩] h=some r:=by
  intro r he
  refine aR (k:=300) (by decide) Nd ?_
  rw[Fi];exact he
 have lY:=eF.trans s2
 have mg:=du.quiet s2
 by_cases c:kY p m xs=true
 ·obtain⟨D,hD⟩:=(rH p m xs).1 c
  have ho:=ame hD
  obtain⟨f,rfl,rfl,rfl,pr⟩:=hD
  have T7:=f.q
  have z8:=D.q1
  obtain⟨s',h3,g1,g2,g3⟩:=Dq (fl:=fl) f (bu.quiet lY) (by have:=lY.1;omega)
  have Ua:=lY.trans g2
  have hb3:=mg.quiet g2
  rcases g3 with⟨gen,p1,p2,p3⟩|⟨p1,p2⟩
  ·have hb4:=OB.alloc h3 []
   have hqb:=aj.alloc h3 []
   generalize hh4:h3.alloc []=h4 at hb4 hqb
   have hb5:=hb3.quiet hqb
   have axM:=bu.quiet (Ua.trans hqb)
   have hml:(jt D).length≤8:=by
    unfold jt
    split
    ·simp
    ·rw[D.hl];exact f.m
   obtain⟨ms,h5,a1,a2,a3⟩:=ach (R:=Value×AH) (fl:=h4.next) hb4 axM (by unfold lk;simp;omega) (fun s31 RV=>wU 8 [.int .i64 0] (D.q:Int) (D.q:Int) RV fun s33 h34=>cU h34 [.int .i64 (D.p:Int),.int .i64 (D.m:Int),.slice s31.a s31.l s31.c,.int .i64 (D.q:Int),.slice s'.a s'.l s'.c,.slice s33.a s33.l s33.c] fun b35 TW=>Ve M fl 300 (fun(y4:OA) (y5:Int) q=>some (Value.tuple ⟨[.pointer y4,.int .i64 y5]⟩,q)) (some ⟨b35,0,none⟩) s' ((s'.l:Nat):Int) 0 TW)
   have hl5:=OB.alloc h5 (iv (ints (wO D gen 0)))
   have hqc:=aj.alloc h5 (iv (ints (wO D gen 0)))
   generalize hh6:h5.alloc (iv (ints (wO D gen 0)))=h6 at hl5 hqc
   have hg6:=OB.alloc h6 [.int .i64 (D.p:Int),.int .i64 (D.m:Int),.slice ms.a ms.l ms.c,.int .i64 (D.q:Int),.slice s'.a s'.l s'.c,.slice (some ⟨h5.next,0,none⟩) D.q D.q]
   have hqd:=aj.alloc h6 [.int .i64 (D.p:Int),.int .i64 (D.m:Int),.slice ms.a ms.l ms.c,.int .i64 (D.q:Int),.slice s'.a s'.l s'.c,.slice (some ⟨h5.next,0,none⟩) D.q D.q]
   generalize hh7:h6.alloc [.int .i64 (D.p:Int),.int .i64 (D.m:Int),.slice ms.a ms.l ms.c,.int .i64 (D.q:Int),.slice s'.a s'.l s'.c,.slice (some ⟨h5.next,0,none⟩) D.q D.q]=h7 at hg6 hqd
   have hse:SI h3 s' (ints (uE D gen (D.q-1))):=p2.si
   have Fe:s'.l=D.q-1:=by rw[hse.len];simp
   have hnil:(ints (uE D gen (D.q-1)))≠[]:=by intro e;have:=congrArg List.length e;simp at this;omega
   have h35:=(hqb.trans a3).1
   have h56:=hl5.1
   have axz:SI h7 s' (ints (uE D gen (D.q-1))):=hse.quiet ((hqb.trans a3).trans (hqc.trans hqd))
   obtain⟨h8,e1,e2,e3⟩:=amm (k:=300) (fl:=fl) (K1 M fl 300 (fun(y4:OA) (y5:Int) q=>some (Value.tuple ⟨[.pointer y4,.int .i64 y5]⟩,q))) p1 T7 hg6 (by omega) axz
    (fun a ha=>by have:=hse.lt hnil a ha;omega) (show fl≤h5.next by have:=Ua.1;omega) (D.q-1) 0 300 h7 (by omega) (by omega) (hl5.quiet hqd) (iI.refl _ _)
   have avH:aj h h5:=(Ua.trans hqb).trans a3
   refine⟨h8,?_,.inr ⟨D,gen,⟨h6.next,0,none⟩,⟨f,rfl,rfl,rfl,pr⟩,⟨f,p1,rfl,ms,s',⟨some ⟨h5.next,0,none⟩,D.q,D.q⟩,?_,?_,?_,?_⟩,?_,go ?_⟩⟩
   ·exact e3.quiet (avH.trans (hqc.trans hqd)) (fun a ha=>by cases ha;have:=avH.1;simpa using this)
   ·exact e3.ob hg6 (fun a ha=>by cases ha;simp;omega)
   ·by_cases hm0:ints (jt D)=[]
    ·have:=a2.len;rw[hm0] at this ⊢;exact⟨this,fun i hi=>by cases hi⟩
    ·exact(a2.quiet (hqc.trans hqd)).Ao e3 (fun a b ha hb=>by cases hb;have:=a2.lt hm0 a ha;simp;omega)
   ·exact axz.Ao e3 (fun a b ha hb=>by cases hb;have:=hse.lt hnil a ha;simp;omega)
   ·have:=e2.si none D.q
    simpa using this
   ·have h1:=avH.1
    show h.next≤h6.next
    omega
   ·unfold eK YG K2 cU
    rw[dB]
    dsimp only
    rw[ae (du.cell rfl),ae (du.cell rfl),ai (s:=mod) (du.cell rfl),ah s1]
    simp only[asBool]
    rw[if_neg (by simp[c]),ae (mg.cell rfl),ae (mg.cell rfl),ah (Bj _ _),ho]
    simp only[asInt,if_true]
    rw[ae (mg.cell rfl),ae (mg.cell rfl),ai (s:=mod) (mg.cell rfl),ah g1]
    simp only[bB]
    rw[if_neg (by simp[p3]),ae (hb3.cell rfl),ae (hb3.cell rfl),hh4,ai (s:=mod) (hb5.cell rfl)]
    refine Eq.trans a1 ?_
    rw[jb (by unfold lk;omega),oi]
    have asC:List.replicate D.q 0=wO D gen 0:=by
     apply List.ext_getElem (by simp)
     intro i h1 h2
     simp[wO,uE]
    rw[asC,hh6]
    unfold cU
    rw[hh7,Fe]
    exact e1
  ·refine⟨h3,Ua,.inl ⟨?_,go ?_⟩⟩
   ·rintro⟨D',gen,h1,h2⟩
    have:D=D':=cX ⟨f,rfl,rfl,rfl,pr⟩ h1
    subst this
    exact p2 gen h2
   ·unfold eK YG K2 cU
    rw[dB]
    dsimp only
    rw[ae (du.cell rfl),ae (du.cell rfl),ai (s:=mod) (du.cell rfl),ah s1]
    simp only[asBool]
    rw[if_neg (by simp[c]),ae (mg.cell rfl),ae (mg.cell rfl),ah (Bj _ _),ho]
    simp only[asInt,if_true]
    rw[ae (mg.cell rfl),ae (mg.cell rfl),ai (s:=mod) (mg.cell rfl),ah g1]
    simp only[bB]
    rw[if_pos p1]
 ·refine⟨h2,lY,.inl ⟨?_,go ?_⟩⟩
  ·rintro⟨D',gen,h1,h2⟩
   exact c ((rH p m xs).2 ⟨D',h1⟩)
  ·unfold eK YG K2 cU
   rw[dB]
   dsimp only
   rw[ae (du.cell rfl),ae (du.cell rfl),ai (s:=mod) (du.cell rfl),ah s1]
   simp only[asBool]
   rw[if_pos (by simp[c])]
end Go.Abs.P
end
section
namespace Go.Abs.P
open Go.Abs Go.Fld
theorem WU{R:Type}{fl k:Nat}(kn:an R){h0:AH}{b p:Nat}(hp:0<p)(bL:fl≤b)(hb:h0.next≤b)(m:Nat)(hm:m<po):
 ∀(d i f x:Nat) (pre:List Nat) (h:AH),i+d=m→d<f→pre.length=i→x<9223372036854775808→OB h b (iv (ints (pre++List.replicate d 0)))→aj h0 h→
 ∃h',zn M fl k kn f (x:Int) (p:Int) (m:Int) ⟨some ⟨b,0,none⟩,m,m⟩ (i:Int) h=kn ⟨some ⟨b,0,none⟩,m,m⟩ h'∧OB h' b (iv (ints (pre++aN p d x)))∧aj h0 h':=by
 intro d
 induction d with
 |zero=>
  intro i f x pre h hi hf Ta hx ho hq
  obtain⟨f,rfl⟩:∃j,f=j+1:=⟨f-1,by omega⟩
  refine⟨h,?_,ho,hq⟩
  show qP M fl k _ _ (x:Int) (p:Int) _ _ (i:Int) h=_
  unfold qP
  rw[if_neg (by simp;omega)]
 |succ d ih=>
  intro i f x pre h hi hf Ta hx ho hq
  obtain⟨f,rfl⟩:∃j,f=j+1:=⟨f-1,by omega⟩
  have hs:(iv (ints (pre++List.replicate (d+1) 0))).set (0+i) (.int .i64 ((x%p:Nat):Int))=iv (ints ((pre++[x%p])++List.replicate d 0)):=by
   rw[kI,ints_set,List.set_append_right _ _ (by omega),show 0+i-pre.length=0 by omega,List.replicate_succ,List.set_cons_zero];simp
  have ho2:OB (h.put b (some (iv (ints ((pre++[x%p])++List.replicate d 0))))) b (iv (ints ((pre++[x%p])++List.replicate d 0))):=ho.put _
  obtain⟨h',e1,e2,e3⟩:=ih (i+1) f (x/p) (pre++[x%p]) _ (by omega) (by omega) (by simp;omega) (Nat.lt_of_le_of_lt (Nat.div_le_self x p) hx) ho2 (hq.put hb _)
  refine⟨h',?_,by simpa [aN] using e2,e3⟩
  show qP M fl k _ _ (x:Int) (p:Int) _ _ (i:Int) h=_
  unfold qP
  rw[if_pos (by simp;omega),gO hp,aU rfl (show i<m by omega),ho.st bL (by simp;omega) rfl,hs,DP hp hx,jm (by omega)]
  exact e1
theorem Kk{fl:Nat}{h:AH}{x p m:Nat}(hp:0<p)(hm:m≤64)(hx:x<9223372036854775808)(bL:fl≤h.next):
 ∃h',M fl fn.ly [.int .i64 (x:Int),.int .i64 (p:Int),.int .i64 (m:Int)] h=some (.slice (some ⟨h.next,0,none⟩) m m,h')∧OB h' h.next (iv (ints (aN p m x)))∧aj h h':=by
 have ho:=OB.alloc h (List.replicate m (Value.int .i64 0))
 rw[oi] at ho
 obtain⟨h',e1,e2,e3⟩:=WU (fl:=fl) (k:=m+1) (Lf M fl (m+1) (fun(y6:Sl) q=>some (Value.slice y6.a y6.l y6.c,q))) hp bL (Nat.le_refl _) m (by unfold po;omega) m 0 (m+1) x [] _ (by omega) (by omega) rfl hx ho (aj.alloc h _)
 refine⟨h',aR (k:=m+1) (by decide) Rz ?_,e2,e3⟩
 rw[Lg]
 unfold ly ali VW
 rw[jb (by unfold lk;omega),oi]
 exact e1
theorem aat{R:Type}{fl k:Nat}(kn:av R)(kr:au R){h:AH}{n:Nat}(hn:n≤256):
 ∀(j d f:Nat),0<d→d+j=n→j<f→yT M fl k kn kr f (n:Int) (d:Int) h=if isP n j d=true then kn h else kr false h:=by
 intro j
 induction j with
 |zero=>
  intro d f h0 hd hf
  obtain⟨f,rfl⟩:∃j,f=j+1:=⟨f-1,by omega⟩
  show qq M fl k _ _ kr (n:Int) _ h=_
  unfold qq
  rw[if_neg (by simp;omega)];rfl
 |succ j ih=>
  intro d f h0 hd hf
  obtain⟨f,rfl⟩:∃j,f=j+1:=⟨f-1,by omega⟩
  show qq M fl k _ _ kr (n:Int) _ h=_
  unfold qq
  unfold isP
  rw[if_pos (by simp;omega),gO h0]
  by_cases c2:n%d=0
  ·rw[if_pos (by simp[c2]),if_pos c2];rfl
  ·rw[if_neg (by simp;omega),if_neg c2,aw (d+1) (by push_cast;rfl) (by omega)]
   exact ih (d+1) f (by omega) (by omega) (by omega)
theorem aau{fl:Nat}{h:AH}{n:Nat}(hn:n≤256)(h2:2≤n):M fl fn.nE [.int .i64 (n:Int)] h=some (.bool (FD.prB n),h):=by
 refine aR (k:=n) (by decide) SR ?_
 rw[NI]
 unfold nE akt Vk Vj
 have:=aat (fl:=fl) (k:=n) (K5 M fl n (fun(y2:Bool) q=>some (Value.bool y2,q))) (fun(y2:Bool) q=>some (Value.bool y2,q)) (h:=h) hn (n-2) 2 n (by omega) (by omega) (by omega)
 refine this.trans ?_
 have e:FD.prB n=isP n (n-2) 2:=by unfold FD.prB;rw[Nat.ble_eq_true_of_le h2,Bool.true_and]
 rw[e]
 by_cases c:isP n (n-2) 2=true
 ·rw[if_pos c,c];rfl
 ·rw[if_neg c];simp only[Bool.not_eq_true] at c;rw[c]
theorem aav{R:Type}{fl k:Nat}{h:AH}{bx:Nat}{vs:List Value}(kn:ag R)(kr:ag R){p m:Nat}(hx:OB h bx (.int .i64 (p:Int)::.int .i64 (m:Int)::vs))(hp:2≤p):
 ∀(j i f:Nat),i+j=m→j<f→p^i≤256→m≤8→yS M fl k kn kr f ⟨bx,0,none⟩ ((p^i:Nat):Int) (i:Int) h=if p^m≤256 then kn ((p^m:Nat):Int) h else kr 0 h:=by
 intro j
 induction j with
 |zero=>
  intro i f hi hf hle hm
  obtain⟨f,rfl⟩:∃j,f=j+1:=⟨f-1,by omega⟩
  obtain rfl:i=m:=by omega
  show qp M fl k _ _ kr _ _ _ h=_
  unfold qp
  rw[ae (hx.cell rfl),if_neg (by simp),if_pos hle]
 |succ j ih=>
  intro i f hi hf hle hm
  obtain⟨f,rfl⟩:∃j,f=j+1:=⟨f-1,by omega⟩
  show qp M fl k _ _ kr _ _ _ h=_
  unfold qp
  have ih:=ih (i+1) f (by omega) (by omega)
  have h3:p^(i+1)≤p^m:=Nat.pow_le_pow_right (by omega) (by omega)
  obtain⟨P,hP⟩:∃P,P=p^(i+1):=⟨_,rfl⟩
  have e:p^i*p=P:=hP.symm
  rw[←hP] at ih h3
  have hdiv:p^i≤256/p↔P≤256:=by rw[Nat.le_div_iff_mul_le (by omega),e]
  rw[ae (hx.cell rfl),if_pos (by simp;omega),ae (hx.cell rfl)]
  have hq:∀K:Int→Option R,iZ .quo .i64 256 (p:Int) K=K ((256/p:Nat):Int):=fun K=>DP (a:=256) (b:=p) (by omega) (by omega) K
  rw[hq]
  generalize hg:256/p=G at hdiv
  by_cases c:P≤256
  ·rw[if_neg (by rw[decide_eq_true_eq];have:=hdiv.2 c;omega),ae (hx.cell rfl),aw P (by rw[←e];push_cast;rfl) (by omega),aw (i+1) (by push_cast;rfl) (by omega)]
   exact ih c hm
  ·rw[if_pos (by rw[decide_eq_true_eq];have:¬p^i≤G:=fun h=>c (hdiv.1 h)
                 omega),if_neg (by omega)]
theorem xV{fl:Nat}{h:AH}(p m:Int)(mod:Sl):∃h',M fl fn.kM [.agg ⟨[.int .i64 p,.int .i64 m,.slice mod.a mod.l mod.c]⟩] h=some (.int .i64 ((Cc p m:Nat):Int),h')∧aj h h':=by
 have du:=OB.alloc h [.int .i64 p,.int .i64 m,.slice mod.a mod.l mod.c]
 have eF:=aj.alloc h [.int .i64 p,.int .i64 m,.slice mod.a mod.l mod.c]
 generalize dB:h.alloc [.int .i64 p,.int .i64 m,.slice mod.a mod.l mod.c]=h1 at du eF
 refine⟨h1,aR (k:=10) (by decide) SQ ?_,eF⟩
 rw[NH]
 unfold kM akr Vh cU
 rw[dB]
 dsimp only
 rw[ae (du.cell rfl)]
 unfold Cc
 by_cases h1:p<2
 ·rw[if_neg (by simp[h1]),if_pos (.inl h1)];rfl
 ·rw[if_pos (by simp;omega),ae (du.cell rfl)]
  by_cases h3:m<1
  ·rw[if_neg (by simp;omega),if_pos (by omega)];rfl
  ·rw[if_pos (by simp;omega),ae (du.cell rfl)]
   by_cases h4:m>8
   ·rw[if_pos (by simp;omega),if_pos (by omega)];rfl
   ·rw[if_neg (by simp;omega)]
    obtain⟨p,rfl⟩:∃n:Nat,p=n:=⟨p.toNat,by omega⟩
    obtain⟨m,rfl⟩:∃n:Nat,m=n:=⟨m.toNat,by omega⟩
    have:=aav (fl:=fl) (k:=10) (K4 M fl 10 (fun(y4:Int) q=>some (Value.int .i64 y4,q))) (fun(y4:Int) q=>some (Value.int .i64 y4,q)) du (by omega) m 0 10 (by omega) (by omega) (by simp) (by omega)
    refine Eq.trans this ?_
    by_cases c:p^m≤256
    ·have hp:p≤256:=by
      have:p^1≤p^m:=Nat.pow_le_pow_right (by omega) (by omega)
      rw[Nat.pow_one] at this;omega
     rw[if_pos c,if_neg (by omega)]
     simp only[Int.toNat_natCast]
     rw[if_pos c];rfl
    ·rw[if_neg c]
     simp only[Int.toNat_natCast]
     rw[if_neg c]
     split<;>rfl
end Go.Abs.P
end
section
namespace Go.Abs.P
open Go.Abs Go.Fld
theorem afH{R:Type}{fl b:Nat}{h:AH}{s:Sl}{xs:List Int}(hb:OB h b [])(hs:SI h s xs)(iH:xs≠[])(hr:xs.length*8≤lk)(K:Sl→AH→Option R):
 ∃s' h',iJ fl 1 8 ⟨some ⟨b,0,none⟩,0,0⟩ s h K=K s' h'∧OV h.next h' s' (iv xs)∧aj h h':=by
 have hl:=hs.len
 have axm:0<xs.length:=List.length_pos_iff.2 iH
 unfold iJ
 refine⟨⟨some ⟨h.next,0,none⟩,s.l,pB+1⟩,h.alloc (iv xs),?_,?_,aj.alloc ..⟩
 ·rw[if_neg (by omega),if_pos (by rw[hl];simpa using hr),hs.Fg iH]
  simp only
  rw[if_pos (by unfold pB;omega),if_neg (by rw[hl];simp;omega)]
  unfold Fg
  simp only[hb.iq]
  rw[if_pos (by simp)]
  simp
 ·rw[hl]
  exact .inr ⟨h.next,pB+1,Nat.le_refl _,Nat.lt_succ_self _,by simpa [iv] using iH,.inl rfl,by simp,by simp[AH.alloc]⟩
def zs(p c:Nat)(Bm low:List Nat):List Nat:=List.zipWith (fun x l=>(x+(p-c)*l)%p) Bm low
theorem ar0(p c:Nat)(s t l:List Nat)(h:s.length=l.length):af6 p c (s++t) l=zs p c s l++t:=by
 induction s generalizing l with
 |nil=>cases l with
  |nil=>cases t<;>rfl
  |cons y l=>cases h
 |cons x s ih=>cases l with
  |nil=>cases h
  |cons y l=>
   have:=ih l (by simpa using h)
   show(x+(p-c)*y)%p::af6 p c (s++t) l=(x+(p-c)*y)%p::(zs p c s l++t)
   rw[this]
theorem TJ{p c:Nat}{s l:List Nat}(h:s.length=l.length):(zs p c s l).length=s.length:=by unfold zs;rw[List.length_zipWith];omega
theorem amn{p c:Nat}(hp:0<p)(s l:List Nat):Small p (zs p c s l):=by
 induction s generalizing l with
 |nil=>intro a h;simp[zs] at h
 |cons x s ih=>cases l with
  |nil=>intro a h;simp[zs] at h
  |cons y l=>
   intro a h
   rcases List.mem_cons.1 (show a∈(x+(p-c)*y)%p::zs p c s l from h) with rfl|h
   ·exact Nat.mod_lt _ hp
   ·exact ih l a h
theorem Nf(a b:List Nat):rev a b=a.reverse++b:=by
 induction a generalizing b with
 |nil=>rfl
 |cons x a ih=>simp[rev,ih]
theorem aci{p c:Nat}{s l:List Nat}(h:s.length=l.length):zs p c s.reverse l.reverse=(zs p c s l).reverse:=by
 unfold zs;rw[List.reverse_zipWith h]
theorem jv{l:List Nat}{i:Nat}(h:i<l.length):(iv (ints l))[i]?=some (.int .i64 ((l[i]:Nat):Int)):=by
 rw[FP _ _ (by simpa using h),dC]
section
variable{fl k:Nat}{h0:AH}{rb p d c0:Nat}{low:List Nat}{tl:Sl}
theorem ahk{R:Type}(kn:de R)(hp:2≤p)(hp2:p≤256)(DD:SI h0 tl (ints low))(hld:low.length=d)(Fe:Small p low)(EC:h0.next≤rb)(bL:fl≤rb)(hd:d≤64)
 (pre Bm post:List Nat) (c L:Nat) (aAr:Bm.length=d) (hss:Small p Bm) (hc:c<p) (Ta:pre.length≤64) (hL:L=pre.length+d+1+post.length):
 ∀(e j g:Nat) (h:AH),j+e=d→e<g→OB h rb (iv (ints (pre++((zs p c Bm low).take j++Bm.drop j)++c::post)))→aj h0 h→
 ∃h',hJ M fl k kn g tl (p:Int) (d:Int) ⟨some ⟨rb,0,none⟩,L,c0⟩ ((pre.length+d:Nat):Int) (c:Int) (j:Int) h=kn tl (p:Int) (d:Int) ⟨some ⟨rb,0,none⟩,L,c0⟩ ((pre.length+d:Nat):Int) h'∧
  OB h' rb (iv (ints (pre++zs p c Bm low++c::post)))∧aj h0 h':=by
 have hzl:(zs p c Bm low).length=d:=by rw[TJ (by omega)];exact aAr
 intro e
 induction e with
 |zero=>
  intro j g h hj hg ho hq
  obtain⟨g,rfl⟩:∃j,g=j+1:=⟨g-1,by omega⟩
  refine⟨h,?_,?_,hq⟩
  ·show ef M fl k _ _ _ _ _ _ _ _ _ h=_
   unfold ef
   rw[if_neg (by simp;omega)]
  ·rw[List.take_of_length_le (by omega),List.drop_of_length_le (by omega),List.append_nil] at ho
   exact ho
 |succ e ih=>
  intro j g h hj hg ho hq
  obtain⟨g,rfl⟩:∃j,g=j+1:=⟨g-1,by omega⟩
  have hlj:low[j]'(by omega)<p:=Fe _ (List.getElem_mem _)
  have hsj:Bm[j]'(by omega)<p:=hss _ (List.getElem_mem _)
  have axW:(p-c)*low[j]'(by omega)≤256*256:=Nat.mul_le_mul (by omega) (by omega)
  have k8:h.cell rb (0+(pre.length+j))=some (.int .i64 ((Bm[j]'(by omega):Nat):Int)):=by
   refine ho.cell ?_
   rw[Nat.zero_add,jv (by simp;omega)]
   congr 3
   rw[List.getElem_append_left (by simp;omega),List.getElem_append_right (by omega)]
   rw[List.getElem_append_right (by simp;omega)]
   simp[show min j (zs p c Bm low).length=j by omega]
  have nu:(iv (ints (pre++((zs p c Bm low).take j++Bm.drop j)++c::post))).set (0+(pre.length+j)) (.int .i64 (((Bm[j]'(by omega)+(p-c)*low[j]'(by omega))%p:Nat):Int))=
   iv (ints (pre++((zs p c Bm low).take (j+1)++Bm.drop (j+1))++c::post)):=by
   rw[kI,ints_set,Nat.zero_add]
   congr 2
   rw[List.set_append_left _ _ (by simp;omega),List.set_append_right _ _ (by omega),show pre.length+j-pre.length=j by omega,List.set_append_right _ _ (by simp;omega)]
   rw[List.drop_eq_getElem_cons (show j<Bm.length by omega),List.take_succ_eq_append_getElem (show j<(zs p c Bm low).length by omega)]
   have:j-((zs p c Bm low).take j).length=0:=by simp;omega
   rw[this,List.set_cons_zero]
   have hz:(zs p c Bm low)[j]'(by omega)=(Bm[j]'(by omega)+(p-c)*low[j]'(by omega))%p:=by simp[zs]
   rw[hz];simp
  obtain⟨h',e1,e2,e3⟩:=ih (j+1) g (h.put rb (some (iv (ints (pre++((zs p c Bm low).take (j+1)++Bm.drop (j+1))++c::post))))) (by omega) (by omega) (ho.put _) (hq.put EC _)
  refine⟨h',?_,e2,e3⟩
  show ef M fl k _ _ _ _ _ _ _ _ _ h=_
  unfold ef
  have e5:bM (bM (((pre.length+d:Nat):Int)-(d:Int))+(j:Int))=((pre.length+j:Nat):Int):=by
   have e6:bM (((pre.length+d:Nat):Int)-(d:Int))=((pre.length:Nat):Int):=aw _ (by omega) (by omega)
   rw[e6,aw (pre.length+j) (by push_cast;rfl) (by omega)]
  rw[if_pos (by simp;omega),e5,aU rfl (show pre.length+j<L by omega)]
  dsimp only
  rw[ae k8,(DD.quiet hq).read (by omega) (by simp;omega)]
  simp only[Int.toNat_natCast,dC]
  have f1:bM ((p:Int)-(c:Int))=((p-c:Nat):Int):=aw _ (by omega) (by omega)
  have f2:bM (((p-c:Nat):Int)*((low[j]'(by omega):Nat):Int))=(((p-c)*low[j]'(by omega):Nat):Int):=aw _ (by push_cast;rfl) (by omega)
  have f3:bM (((Bm[j]'(by omega):Nat):Int)+(((p-c)*low[j]'(by omega):Nat):Int))=((Bm[j]'(by omega)+(p-c)*low[j]'(by omega):Nat):Int):=aw _ (by push_cast;rfl) (by omega)
  rw[f1,f2,f3,gO (by omega),aU rfl (show pre.length+j<L by omega),ho.st bL (by simp;omega) rfl,nu,aw (j+1) (by push_cast;rfl) (by omega)]
  exact e1
theorem ahl{R:Type}(kn:an R)(hp:2≤p)(hp2:p≤256)(DD:SI h0 tl (ints low))(hld:low.length=d)(Fe:Small p low)(EC:h0.next≤rb)(bL:fl≤rb)(hd:d≤64)(hk:64<k):
 ∀(n:Nat) (a post:List Nat) (L g:Nat) (h:AH) (qs:List Nat),a.length=n+d→n≤64→n<g→Small p a→L=a.length+post.length→OB h rb (iv (ints (a++post)))→aj h0 h→
 ∃h' Nn,nQ M fl k kn g tl (p:Int) (d:Int) ⟨some ⟨rb,0,none⟩,L,c0⟩ ((n+d:Nat):Int) h=nQ M fl k kn g tl (p:Int) (d:Int) ⟨some ⟨rb,0,none⟩,L,c0⟩ ((n+d:Nat):Int) h∧
  nQ M fl k kn g tl (p:Int) (d:Int) ⟨some ⟨rb,0,none⟩,L,c0⟩ (((n+d:Nat):Int)-1) h=kn ⟨some ⟨rb,0,none⟩,L,c0⟩ h'∧(wV post=true→wV Nn=true)∧
  OB h' rb (iv (ints ((EE p low.reverse n a.reverse qs).2.reverse++Nn)))∧(EE p low.reverse n a.reverse qs).2.length+Nn.length=L∧aj h0 h':=by
 intro n
 induction n with
 |zero=>
  intro a post L g h qs ha hn hg Pr hL ho hq
  obtain⟨g,rfl⟩:∃j,g=j+1:=⟨g-1,by omega⟩
  refine⟨h,post,rfl,?_,id,by simpa [EE] using ho,by simp[EE];omega,hq⟩
  show qO M fl k _ _ _ _ _ _ _ h=_
  unfold qO wi
  rw[if_neg (by simp;omega)]
 |succ n ih=>
  intro a post L g h qs ha hn hg Pr hL ho hq
  obtain⟨g,rfl⟩:∃j,g=j+1:=⟨g-1,by omega⟩
  obtain⟨c,hc⟩:∃c,c=a[n+d]'(by omega):=⟨_,rfl⟩
  have HJ:a=a.take n++(a.take (n+d)).drop n++[c]:=by
   have h1:a.take (n+d+1)=a.take (n+d)++[a[n+d]'(by omega)]:=List.take_succ_eq_append_getElem (by omega)
   rw[List.take_of_length_le (by omega)] at h1
   have h2:a.take (n+d)=a.take n++(a.take (n+d)).drop n:=by
    have:=(List.take_append_drop n (a.take (n+d))).symm
    rwa[List.take_take,Nat.min_eq_left (by omega)] at this
   conv=>lhs;rw[h1,←hc,h2]
  have Xa:(a.take n).length=n:=by simp;omega
  have asF:((a.take (n+d)).drop n).length=d:=by simp;omega
  generalize a.take n=pre at HJ Xa
  generalize (a.take (n+d)).drop n=Bm at HJ asF
  have hss:Small p Bm:=fun x hx=>Pr x (by rw[HJ];simp[hx])
  have hsp:Small p pre:=fun x hx=>Pr x (by rw[HJ];simp[hx])
  have hcp:c<p:=Pr c (by rw[HJ];simp)
  have hz:zs p c Bm low=zs p c Bm low:=rfl
  have hzl:(zs p c Bm low).length=d:=by rw[TJ (by omega)];exact asF
  have hdiv:EE p low.reverse (n+1) a.reverse qs=EE p low.reverse n (pre++zs p c Bm low).reverse (c::qs):=by
   rw[HJ]
   simp only[List.reverse_append,List.reverse_cons,List.reverse_nil,List.nil_append,List.singleton_append,EE]
   rw[ar0 _ _ _ _ _ (by simp;omega),aci (by omega)]
  have hoc:a++post=pre++((zs p c Bm low).take 0++Bm.drop 0)++c::post:=by rw[HJ];simp
  rw[hoc] at ho
  have k8:h.cell rb (0+(n+d))=some (.int .i64 (c:Int)):=by
   refine ho.cell ?_
   rw[Nat.zero_add,jv (by simp;omega)]
   congr 3
   rw[List.getElem_append_right (by simp;omega)]
   simp[Xa,asF]
  obtain⟨h1,i1,i2,i3⟩:=ahk (k:=k) (c0:=c0) (L:=L) (ko M fl k (mF M fl k (nQ M fl k kn g) kn)) hp hp2 DD hld Fe EC bL hd pre Bm post c asF hss hcp (by omega) (by omega) d 0 k h (by omega) (by omega) ho hq
  have nu:(iv (ints (pre++zs p c Bm low++c::post))).set (0+(n+d)) (.int .i64 0)=iv (ints ((pre++zs p c Bm low)++0::post)):=by
   rw[show(Value.int .i64 0)=Value.int .i64 ((0:Nat):Int) from rfl,kI,ints_set,Nat.zero_add,List.set_append_right _ _ (by simp;omega)]
   have:n+d-(pre++zs p c Bm low).length=0:=by simp;omega
   rw[this,List.set_cons_zero]
  obtain⟨h',Nn,_,e1,e2,e3,e4,e5⟩:=ih (pre++zs p c Bm low) (0::post) L g (h1.put rb (some (iv (ints ((pre++zs p c Bm low)++0::post))))) (c::qs) (by simp;omega) (by omega) (by omega)
   (by intro x hx
       rcases List.mem_append.1 hx with hx|hx
       ·exact hsp x hx
       ·exact amn (by omega) _ _ x hx) (by simp;omega) (i2.put _) (i3.put EC _)
  refine⟨h',Nn,rfl,?_,fun hz=>e2 (by simp[wV,hz]),by rw[hdiv];exact e3,by rw[hdiv];exact e4,e5⟩
  show qO M fl k _ _ _ _ _ _ _ h=_
  unfold qO wi
  have e0:((n+1+d:Nat):Int)-1=((n+d:Nat):Int):=by omega
  rw[e0,if_pos (by rw[decide_eq_true_eq];omega)]
  unfold C3 uT sM oS
  rw[aU rfl (show n+d<L by omega)]
  dsimp only
  rw[ae k8]
  unfold tZ
  rw[Xa] at i1
  refine Eq.trans i1 ?_
  unfold ko
  rw[aU rfl (show n+d<L by omega)]
  dsimp only
  rw[i2.st bL (by simp;omega) rfl,nu]
  unfold mF
  rw[kH (by omega) (by omega)]
  exact e1
theorem amo{R:Type}(kn:av R)(kr:au R){h:AH}{r:List Nat}{s:Sl}(ho:SI h s (ints r))(hb:r.length≤po):
 ∀(e i g:Nat),i+e=r.length→e<g→mE M fl k kn kr g s (i:Int) h=if wV (r.drop i)=true then kn h else kr false h:=by
 intro e
 induction e with
 |zero=>
  intro i g hi hg
  obtain⟨g,rfl⟩:∃j,g=j+1:=⟨g-1,by omega⟩
  show iC M fl k _ _ _ _ _ h=_
  unfold iC
  rw[if_neg (by rw[ho.len];simp;omega),List.drop_of_length_le (by omega)];rfl
 |succ e ih=>
  intro i g hi hg
  obtain⟨g,rfl⟩:∃j,g=j+1:=⟨g-1,by omega⟩
  show iC M fl k _ _ _ _ _ h=_
  unfold iC
  rw[if_pos (by rw[ho.len];simp;omega),ho.read (by omega) (by simp;omega)]
  simp only[Int.toNat_natCast,dC]
  rw[List.drop_eq_getElem_cons (show i<r.length by omega)]
  by_cases c:r[i]=0
  ·rw[if_neg (by simp[c]),jm (by omega),ih (i+1) g (by omega) (by omega)]
   simp[wV,c]
  ·rw[if_pos (by simp[c]),if_neg]
   simp only[wV,Bool.and_eq_true,not_and]
   intro hc;exact absurd (Nat.eq_of_beq_eq_true hc) c
end
theorem Ng(a b:List Nat):wV (a++b)=(wV a&&wV b):=by
 induction a with
 |nil=>rfl
 |cons x a ih=>simp[wV,ih,Bool.and_assoc]
theorem WV(a:List Nat):wV a.reverse=wV a:=by
 induction a with
 |nil=>rfl
 |cons x a ih=>rw[List.reverse_cons,Ng,ih];simp[wV,Bool.and_comm]
theorem WW{fl:Nat}{h:AH}{tl tm:Sl}{low mod:List Nat}{p:Nat}(hp:2≤p)(hp2:p≤256)(DD:SI h tl (ints low))(bu:SI h tm (ints mod))(Fe:Small p low)(hsm:Small p mod)(hld:low.length≤mod.length)(hm:mod.length≤8)(hm0:mod≠[])(bL:fl≤h.next):
 ∃h',M fl fn.mC [.slice tl.a tl.l tl.c,.slice tm.a tm.l tm.c,.int .i64 (p:Int)] h=some (.bool (vB p low mod),h')∧aj h h':=by
 have Cf:=OB.alloc h []
 have z8:=aj.alloc h []
 generalize dB:h.alloc []=h1 at Cf z8
 obtain⟨s2,h2,a1,a2,a3⟩:=afH (R:=Value×AH) (fl:=fl) Cf (bu.quiet z8) (by simpa [ints] using hm0) (by unfold lk;simp;omega) (fun Xg HK=>cU HK [.int .i64 1] fun b18 HL=>iJ fl 1 8 Xg ⟨(some ⟨b18,0,none⟩),1,1⟩ HL fun TZ RX=>AW M fl 100 (fun(y6:Bool) q=>some (Value.bool y6,q)) tl (p:Int) ((tl.l:Nat):Int) TZ (bM (((TZ.l:Nat):Int)-1)) RX)
 have lY:=z8.trans a3
 have hn1:=z8.1
 have hn2:=a3.1
 obtain⟨s3,h3,c1,c2,c3,c4⟩:=a2.push (R:=Value×AH) (fl:=fl) (bytes:=8) (x:=.int .i64 1) (by omega) (by omega) (by unfold lk;simp;omega) rfl (fun TZ RX=>AW M fl 100 (fun(y6:Bool) q=>some (Value.bool y6,q)) tl (p:Int) ((tl.l:Nat):Int) TZ (bM (((TZ.l:Nat):Int)-1)) RX)
 have Ua:aj h1 h3:=c3.quiet a3 (fun a ha=>a2.ge a ha)
 have e1:iv (ints mod)++[Value.int .i64 1]=iv (ints (mod++[1])):=by rw[nW,rG];rfl
 rw[e1] at c2
 rcases c2 with⟨hz,_⟩|⟨rb,cc,g1,g2,g3,g4,rfl,g6⟩
 ·have:=congrArg List.length hz;simp at this
 ·have hob:OB h3 rb (iv (ints ((mod++[1])++[]))):=⟨g2,by simpa using g6⟩
  have hlen:(iv (ints (mod++[1]))).length=mod.length+1:=by simp
  rw[hlen] at c1
  obtain⟨h4,Nn,_,d1,d2,d3,d4,d5⟩:=ahl (fl:=fl) (k:=100) (c0:=cc) (rb:=rb) (Em M fl 100 (fun(y6:Bool) q=>some (Value.bool y6,q))) hp hp2 (DD.quiet z8) rfl Fe (by omega) (by omega) (by omega) (by omega) (mod.length+1-low.length) (mod++[1]) [] (mod.length+1) 100 h3 []
   (by simp;omega) (by omega) (by omega) (by intro x hx;rcases List.mem_append.1 hx with hx|hx
                                             ·exact hsm x hx
                                             ·simp at hx;omega) (by simp) hob Ua
  have hq4:aj h h4:=z8.trans d5
  refine⟨h4,aR (k:=100) (by decide) Oq ?_,hq4⟩
  rw[Jt]
  unfold mC alg VU
  have:(cU h [] fun Ky EB=>iJ fl 1 8 ⟨(some ⟨Ky,0,none⟩),0,0⟩ tm EB fun Xg HK=>cU HK [.int .i64 1] fun b18 HL=>iJ fl 1 8 Xg ⟨(some ⟨b18,0,none⟩),1,1⟩ HL fun TZ RX=>AW M fl 100 (fun(y6:Bool) q=>some (Value.bool y6,q)) tl (p:Int) ((tl.l:Nat):Int) TZ (bM (((TZ.l:Nat):Int)-1)) RX)=iJ fl 1 8 ⟨(some ⟨h.next,0,none⟩),0,0⟩ tm h1 fun Xg HK=>cU HK [.int .i64 1] fun b18 HL=>iJ fl 1 8 Xg ⟨(some ⟨b18,0,none⟩),1,1⟩ HL fun TZ RX=>AW M fl 100 (fun(y6:Bool) q=>some (Value.bool y6,q)) tl (p:Int) ((tl.l:Nat):Int) TZ (bM (((TZ.l:Nat):Int)-1)) RX:=by rw[←dB];rfl
  refine Eq.trans this (Eq.trans a1 (Eq.trans c1 ?_))
  unfold AW
  have e2:bM (((mod.length+1:Nat):Int)-1)=(((mod.length+1-low.length)+low.length:Nat):Int)-1:=by rw[kH (by omega) (by omega)];omega
  have e3:((tl.l:Nat):Int)=(low.length:Int):=by rw[DD.len];simp
  simp only at e2 ⊢
  rw[e2,e3]
  refine Eq.trans d1 ?_
  unfold Em AV C2
  have hrl:((EE p low.reverse (mod.length+1-low.length) (mod++[1]).reverse []).2.reverse++Nn).length=mod.length+1:=by rw[List.length_append,List.length_reverse];exact d4
  have hsr:SI h4 ⟨some ⟨rb,0,none⟩,mod.length+1,cc⟩ (ints ((EE p low.reverse (mod.length+1-low.length) (mod++[1]).reverse []).2.reverse++Nn)):=by
   have:=d3.si none cc
   rwa[cI,hrl] at this
  have:=amo (fl:=fl) (k:=100) (ye M fl 100 (fun(y6:Bool) q=>some (Value.bool y6,q))) (fun(y6:Bool) q=>some (Value.bool y6,q)) hsr (by rw[hrl];unfold po;omega) (mod.length+1) 0 100 (by rw[hrl];omega) (by omega)
  refine Eq.trans this ?_
  rw[List.drop_zero,Ng,d2 rfl,Bool.and_true,WV]
  have e4:vB p low mod=wV (EE p low.reverse (mod.length+1-low.length) (mod++[1]).reverse []).2:=by
   unfold vB XV
   rw[Nf,Nf];simp
  rw[e4]
  split
  ·rename_i hz;rw[hz];rfl
  ·rename_i hz;simp only[Bool.not_eq_true] at hz;rw[hz]
end Go.Abs.P
end
section
namespace Go.Abs.P
open Go.Abs Go.Fld
section
variable{fl k:Nat}{h0:AH}{p:Nat}{mod:List Nat}{tm:Sl}
theorem ahm{R:Type}(kn:cG R)(kr:au R)(hp:2≤p)(hp2:p≤256)(bu:SI h0 tm (ints mod))(hsm:Small p mod)(hm:mod.length≤8)(hm0:mod≠[])(bL:fl≤h0.next)(d c:Nat)(hd:d≤mod.length)(hc:c≤256):
 ∀(n v g:Nat) (h:AH),v+n=c→n<g→aj h0 h→
 ∃h',aj h0 h'∧dZ M fl k kn kr g tm (p:Int) (c:Int) (d:Int) (v:Int) h=if (xn p d mod n v).isNone=true then kn tm (p:Int) (c:Int) (d:Int) h' else kr false h':=by
 intro n
 induction n with
 |zero=>
  intro v g h hv hg hq
  obtain⟨g,rfl⟩:∃j,g=j+1:=⟨g-1,by omega⟩
  refine⟨h,hq,?_⟩
  show dY M fl k _ _ _ _ _ _ _ _ h=_
  unfold dY
  rw[if_neg (by simp;omega)];rfl
 |succ n ih=>
  intro v g h hv hg hq
  obtain⟨g,rfl⟩:∃j,g=j+1:=⟨g-1,by omega⟩
  have hn:=hq.1
  obtain⟨h1,a1,a2,a3⟩:=Kk (fl:=fl) (h:=h) (x:=v) (p:=p) (m:=d) (by omega) (by omega) (by omega) (by omega)
  have z8:=hq.trans a3
  have hsi:SI h1 ⟨some ⟨h.next,0,none⟩,d,d⟩ (ints (aN p d v)):=by
   have:=a2.si none d
   rwa[cI,dO] at this
  obtain⟨h2,b1,b2⟩:=WW (fl:=fl) hp hp2 hsi (bu.quiet z8) (mz (by omega) d v) hsm (by rw[dO];exact hd) hm hm0 (by have:=a3.1;omega)
  have lY:=z8.trans b2
  have un:dZ M fl k kn kr (g+1) tm (p:Int) (c:Int) (d:Int) (v:Int) h=dY M fl k (dZ M fl k kn kr g) kn kr tm (p:Int) (c:Int) (d:Int) (v:Int) h:=rfl
  rw[un]
  unfold dY
  rw[if_pos (by simp;omega),ah a1]
  simp only[bB]
  rw[ah b1]
  simp only[asBool]
  by_cases e:vB p (aN p d v) mod=true
  ·refine⟨h2,lY,?_⟩
   have hf:xn p d mod (n+1) v=some (aN p d v):=by simp only[xn];rw[if_pos e]
   rw[if_pos e,hf];rfl
  ·obtain⟨h',i1,i2⟩:=ih (v+1) g h2 (by omega) (by omega) lY
   refine⟨h',i1,?_⟩
   have hf:xn p d mod (n+1) v=xn p d mod n (v+1):=by simp only[xn];rw[if_neg e]
   rw[if_neg e,hf,aw (v+1) (by push_cast;rfl) (by omega)]
   exact i2
theorem ahn{R:Type}(kn:av R)(kr:au R)(hp:2≤p)(bu:SI h0 tm (ints mod))(hsm:Small p mod)(hm:mod.length≤8)(hm0:mod≠[])(bL:fl≤h0.next)(hpm:p^mod.length≤256)(hk:256<k):
 ∀(n d g:Nat) (h:AH),d+n=mod.length/2+1→0<d→n<g→aj h0 h→
 ∃h',aj h0 h'∧nO M fl k kn kr g tm (p:Int) ((p^(d-1):Nat):Int) (d:Int) h=if (findD p mod n d).isNone=true then kn h' else kr false h':=by
 have hl0:0<mod.length:=List.length_pos_iff.2 hm0
 have hp2:p≤256:=by
  have:p^1≤p^mod.length:=Nat.pow_le_pow_right (by omega) hl0
  rw[Nat.pow_one] at this;omega
 intro n
 induction n with
 |zero=>
  intro d g h hd h0d hg hq
  obtain⟨g,rfl⟩:∃j,g=j+1:=⟨g-1,by omega⟩
  refine⟨h,hq,?_⟩
  show qu M fl k _ _ _ _ _ _ _ h=_
  unfold qu vW
  rw[aw (2*d) (by push_cast;rfl) (by omega),bu.len,if_neg (by rw[decide_eq_true_eq];simp only[cI];omega)];rfl
 |succ n ih=>
  intro d g h hd h0d hg hq
  obtain⟨g,rfl⟩:∃j,g=j+1:=⟨g-1,by omega⟩
  have hpd:p^d≤256:=Nat.le_trans (Nat.pow_le_pow_right (by omega) (by omega)) hpm
  have hpp:p^(d-1)*p=p^d:=by rw[←Nat.pow_succ];congr 1;omega
  obtain⟨h1,a1,a2⟩:=ahm (fl:=fl) (k:=k) (j6 M fl k (nO M fl k kn kr g) kn kr) kr hp hp2 bu hsm hm hm0 bL d (p^d) (by omega) hpd (p^d) 0 k h (by omega) (by omega) hq
  have un:nO M fl k kn kr (g+1) tm (p:Int) ((p^(d-1):Nat):Int) (d:Int) h=dZ M fl k (j6 M fl k (nO M fl k kn kr g) kn kr) kr k tm (p:Int) ((p^d:Nat):Int) (d:Int) ((0:Nat):Int) h:=by
   show qu M fl k _ _ _ _ _ _ _ h=_
   unfold qu vW
   rw[aw (2*d) (by push_cast;rfl) (by omega),bu.len,if_pos (by rw[decide_eq_true_eq];simp only[cI];omega)]
   unfold CX uO sr oB tV
   rw[aw (p^d) (by rw[←hpp];push_cast;rfl) (by omega)];rfl
  rw[un,a2]
  cases hf:xn p d mod (p^d) 0 with
  |some l=>
   have hd:findD p mod (n+1) d=some l:=by simp only[findD];rw[hf]
   rw[hd]
   exact⟨h1,a1,by simp⟩
  |none=>
   have hd':findD p mod (n+1) d=findD p mod n (d+1):=by simp only[findD];rw[hf]
   rw[hd']
   obtain⟨h',i1,i2⟩:=ih (d+1) g h1 (by omega) (by omega) (by omega) a1
   refine⟨h',i1,?_⟩
   simp only[Option.isNone_none,if_true]
   unfold j6
   rw[aw (d+1) (by push_cast;rfl) (by omega)]
   simp only[Nat.add_sub_cancel] at i2
   exact i2
end
theorem LH{fl:Nat}{h:AH}{tm:Sl}{mod:List Nat}{p:Nat}(hp:2≤p)(bu:SI h tm (ints mod))(hsm:Small p mod)(hm:mod.length≤8)(hm0:mod≠[])(hpm:p^mod.length≤256)(bL:fl≤h.next):
 ∃h',M fl fn.gQ [.slice tm.a tm.l tm.c,.int .i64 (p:Int)] h=some (.bool (abP p mod),h')∧aj h h':=by
 have hl0:0<mod.length:=List.length_pos_iff.2 hm0
 obtain⟨h',a1,a2⟩:=ahn (fl:=fl) (k:=300) (K6 M fl 300 (fun(y6:Bool) q=>some (Value.bool y6,q))) (fun(y6:Bool) q=>some (Value.bool y6,q)) hp bu hsm hm hm0 bL hpm (by omega) (mod.length/2) 1 300 h (by omega) (by omega) (by omega) (aj.refl h)
 refine⟨h',aR (k:=300) (by decide) Fa ?_,a1⟩
 rw[BW]
 unfold gQ akv Vm Vl
 simp only[Nat.sub_self,Nat.pow_zero] at a2
 refine Eq.trans a2 ?_
 unfold abP
 split
 ·rename_i hz;rw[hz];rfl
 ·rename_i hz;simp only[Bool.not_eq_true] at hz;rw[hz]
theorem aaw{R:Type}{fl k:Nat}{h:AH}{bx:Nat}{mod:Sl}{xs:List Int}{p m:Int}(kn:xx R)(kr:ag R)(hx:OB h bx [.int .i64 p,.int .i64 m,.slice mod.a mod.l mod.c])(bu:SI h mod xs)(hm:m=xs.length)(hb:xs.length≤po):
 ∀(d i g:Nat),i+d=xs.length→d<g→yO M fl k kn kr g ⟨bx,0,none⟩ (i:Int) h=if (xs.drop i).all (fun c=>decide (0≤c)&&decide (c<p))=true then kn ⟨bx,0,none⟩ h else kr 1 h:=by
 intro d
 induction d with
 |zero=>
  intro i g hi hg
  obtain⟨g,rfl⟩:∃j,g=j+1:=⟨g-1,by omega⟩
  show qj M fl k _ _ _ _ _ h=_
  unfold qj
  dsimp only
  rw[ae (hx.cell rfl),if_neg (by rw[decide_eq_true_eq];omega),List.drop_of_length_le (by omega)]
  rfl
 |succ d ih=>
  intro i g hi hg
  obtain⟨g,rfl⟩:∃j,g=j+1:=⟨g-1,by omega⟩
  show qj M fl k _ _ _ _ _ h=_
  unfold qj
  dsimp only
  rw[ae (hx.cell rfl),if_pos (by rw[decide_eq_true_eq];omega),ai (s:=mod) (hx.cell rfl),bu.read (by omega) (by simp;omega)]
  simp only[Int.toNat_natCast]
  rw[List.drop_eq_getElem_cons (show i<xs.length by omega),List.all_cons]
  by_cases c:xs[i]<0
  ·rw[if_neg (by simp[c]),if_neg (by simp;intro h;omega)]
  ·rw[if_pos (by simp;omega),ai (s:=mod) (hx.cell rfl),bu.read (by omega) (by simp;omega)]
   simp only[Int.toNat_natCast]
   rw[ae (hx.cell rfl)]
   by_cases c2:xs[i]≥p
   ·rw[if_pos (by simp[c2]),if_neg (by simp;intro h;omega)]
   ·rw[if_neg (by simp;omega),jm (by omega),ih (i+1) g (by omega) (by omega)]
    have:(decide (0≤xs[i])&&decide (xs[i]<p))=true:=by simp;omega
    rw[this,Bool.true_and]
theorem LI{p m:Int}{xs:List Int}{D:FD}(h:Ow p m xs D):wN p m xs↔(D.m=1∨abP D.p D.low=true):=by
 have hq:=h.ok.q
 constructor
 ·rintro⟨D',gen,h1,h2⟩
  have:=cX h h1
  subst this
  by_cases c:D.m=1
  ·exact .inl c
  ·exact .inr ((D.adr (by have:=D.hm;omega) hq h.pr).2 ⟨gen,h2⟩)
 ·intro hc
  by_cases c:D.m=1
  ·obtain⟨x,hx⟩:=D.abW c (h.ok.one c) h.ok.p h.pr
   exact⟨D,x,h,hx⟩
  ·obtain⟨x,hx⟩:=(D.adr (by have:=D.hm;omega) hq h.pr).1 (hc.resolve_left c)
   exact⟨D,x,h,hx⟩
theorem tM{p m:Int}{xs:List Int}(h:wN p m xs):kY p m xs=true:=by
 obtain⟨D,gen,h1,_⟩:=h
 exact(rH p m xs).2 ⟨D,h1⟩
theorem Nh{fl:Nat}{h:AH}{mod:Sl}{xs:List Int}(p m:Int)(bu:SI h mod xs)(hb:xs.length≤po)(bL:fl≤h.next):
 ∃h' e,M fl fn.gP [.agg ⟨[.int .i64 p,.int .i64 m,.slice mod.a mod.l mod.c]⟩] h=some (.int .i64 e,h')∧aj h h'∧((wN p m xs∧e=0)∨(¬wN p m xs∧e=1)):=by
 have du:=OB.alloc h [.int .i64 p,.int .i64 m,.slice mod.a mod.l mod.c]
 have eF:=aj.alloc h [.int .i64 p,.int .i64 m,.slice mod.a mod.l mod.c]
 generalize dB:h.alloc [.int .i64 p,.int .i64 m,.slice mod.a mod.l mod.c]=h1 at du eF
 obtain⟨h2,s1,s2⟩:=xV (fl:=fl) (h:=h1) p m mod
 have lY:=eF.trans s2
 have mg:=du.quiet s2
 have atx:=bu.quiet lY
 have go:∀{r},gP M fl (xs.length+1) p m mod h=some r→M fl fn.gP [.agg ⟨[.int .i64 p,.int .i64 m,.slice mod.a mod.l mod.c]⟩] h=some r:=by
  intro r he
  refine aR (k:=xs.length+1) (by decide) SN ?_
  rw[Ny];exact he
 have un:gP M fl (xs.length+1) p m mod h=(if (((Cc p m:Nat):Int)==0)=false then aF .i64 h2 h.next 0 fun W9=>aD M fl fn.nE [.int .i64 W9] h2 fun v23 Ab=>asBool v23 fun b25=>if (!b25)=true then some (Value.int .i64 1,Ab) else aF .i64 Ab h.next 1 fun Kv=>if (Kv==1)=true then bC Ab h.next 2 fun s27=>if (((s27.l:Nat):Int) !=0)=true then some (Value.int .i64 1,Ab) else some (Value.int .i64 0,Ab) else bC Ab h.next 2 fun s28=>aF .i64 Ab h.next 1 fun n29=>if (((s28.l:Nat):Int) !=n29)=true then some (Value.int .i64 1,Ab) else OT M fl (xs.length+1) (fun(y2:Int) q=>some (Value.int .i64 y2,q)) ⟨h.next,0,none⟩ 0 Ab else some (Value.int .i64 1,h2)):=by
  unfold gP aj1 U8 cU
  rw[dB]
  dsimp only
  rw[ae (du.cell rfl),ae (du.cell rfl),ai (s:=mod) (du.cell rfl),ah s1]
  simp only[asInt,if_true]
 by_cases c:Cc p m=0
 ·refine⟨h2,1,go (un.trans ?_),lY,.inr ⟨fun hf=>?_,rfl⟩⟩
  ·rw[if_neg (by simp[c])]
  ·have:=tM hf
   unfold kY at this
   simp[c] at this
 ·obtain⟨a,b,rfl,rfl,ha,Cf,hab,_⟩:=WR c
  have ha2:a≤256:=by
   have:a^1≤a^b:=Nat.pow_le_pow_right (by omega) Cf
   rw[Nat.pow_one] at this;omega
  rw[if_pos (by simp;omega),ae (mg.cell rfl),ah (aau ha2 ha)] at un
  simp only[asBool] at un
  by_cases c2:FD.prB a=true
  ·rw[if_neg (by simp[c2]),ae (mg.cell rfl)] at un
   by_cases c3:(b:Int)=1
   ·rw[if_pos (by simp[c3]),ai (s:=mod) (mg.cell rfl),bu.len] at un
    have TY:kY (a:Int) (b:Int) xs=xs.isEmpty:=by unfold kY;rw[if_pos c3];simp[c,c2]
    by_cases c4:xs=[]
    ·refine⟨h2,0,go (un.trans ?_),lY,.inl ⟨?_,rfl⟩⟩
     ·rw[if_neg (by simp[c4])]
     ·obtain⟨D,hD⟩:=(rH _ _ _).1 (show kY (a:Int) (b:Int) xs=true by rw[TY,c4];rfl)
      exact(LI hD).2 (.inl (by have:=hD.hm;omega))
    ·refine⟨h2,1,go (un.trans ?_),lY,.inr ⟨fun hf=>?_,rfl⟩⟩
     ·rw[if_pos (by simp[c4])]
     ·have:=tM hf
      rw[TY] at this;exact c4 (by simpa using this)
   ·rw[if_neg (by simp;omega),ai (s:=mod) (mg.cell rfl),ae (mg.cell rfl),bu.len] at un
    have TY:kY (a:Int) (b:Int) xs=(decide ((xs.length:Int)=(b:Int))&&xs.all (fun c=>decide (0≤c)&&decide (c<(a:Int)))):=by unfold kY;rw[if_neg c3];simp[c,c2]
    by_cases c4:(xs.length:Int)=b
    ·rw[if_neg (by simp[c4])] at un
     unfold OT at un
     rw[show(0:Int)=((0:Nat):Int) from rfl,aaw (fl:=fl) (k:=xs.length+1) (D2 M fl (xs.length+1) (fun(y6:Int) q=>some (Value.int .i64 y6,q))) (fun(y6:Int) q=>some (Value.int .i64 y6,q)) mg atx c4.symm hb xs.length 0 (xs.length+1) (by omega) (by omega),List.drop_zero] at un
     have e2:decide ((xs.length:Int)=b)=true:=by simp[c4]
     rw[e2,Bool.true_and] at TY
     by_cases c5:xs.all (fun c=>decide (0≤c)&&decide (c<(a:Int)))=true
     ·rw[if_pos c5] at un
      obtain⟨D,hD⟩:=(rH _ _ _).1 (show kY (a:Int) (b:Int) xs=true by rw[TY,c5])
      have hDp:D.p=a:=by have:=hD.hp;omega
      have hDm:D.m=b:=by have:=hD.hm;omega
      have hxs:=hD.hx
      have hmo:jt D=D.low:=by unfold jt;rw[if_neg (by omega)]
      rw[hmo] at hxs
      subst hxs
      obtain⟨h3,i1,i2⟩:=LH (fl:=fl) (p:=D.p) D.hp atx D.hs (by rw[D.hl];exact hD.ok.m) (by intro e;have:=D.hl;rw[e] at this;have:=D.hm;simp at*;omega) (by rw[D.hl];exact hD.ok.q) (by have:=lY.1;omega)
      unfold D2 at un
      dsimp only at un
      rw[ai (s:=mod) (mg.cell rfl),ae (mg.cell rfl),←hDp,ah i1] at un
      simp only[asBool] at un
      by_cases c6:abP D.p D.low=true
      ·refine⟨h3,0,?_,lY.trans i2,.inl ⟨(LI hD).2 (.inr c6),rfl⟩⟩
       rw[←hDp] at go ⊢
       exact go (un.trans (by rw[if_neg (by simp[c6])]))
      ·refine⟨h3,1,?_,lY.trans i2,.inr ⟨fun hf=>?_,rfl⟩⟩
       ·rw[←hDp] at go ⊢
        exact go (un.trans (by rw[if_pos (by simp[c6])]))
       ·rcases(LI hD).1 hf with e|e
        ·omega
        ·exact c6 e
     ·rw[if_neg c5] at un
      refine⟨h2,1,go un,lY,.inr ⟨fun hf=>?_,rfl⟩⟩
      have:=tM hf
      rw[TY] at this;exact c5 this
    ·rw[if_pos (by simp;omega)] at un
     refine⟨h2,1,go un,lY,.inr ⟨fun hf=>?_,rfl⟩⟩
     have:=tM hf
     rw[TY] at this
     simp[c4] at this
  ·rw[if_pos (by simp[c2])] at un
   refine⟨h2,1,go un,lY,.inr ⟨fun hf=>?_,rfl⟩⟩
   have:=tM hf
   unfold kY at this
   simp[c2] at this
end Go.Abs.P
end
section
namespace Go.Abs.P
open Go.Abs Go.Fld
def fa(D:FD)(mod:Sl):Value:=.agg ⟨[.int .i64 (D.p:Int),.int .i64 (D.m:Int),.slice mod.a mod.l mod.c]⟩
structure RF(h:AH)(mod:Sl)(D:FD):Prop where
 ok:WQ D
 si:SI h mod (ints (jt D))
theorem RF.quiet{h h':AH}{mod:Sl}{D:FD}(p:RF h mod D)(q:aj h h'):RF h' mod D:=⟨p.ok,p.si.quiet q⟩
theorem acj{D:FD}(f:WQ D):Cc (D.p:Int) (D.m:Int)=D.q:=by
 have hp2:=D.hp
 have hm1:=D.hm
 have hp:=f.p
 have hm:=f.m
 have hq:=f.q
 unfold Cc
 rw[if_neg (by omega)]
 simp only[Int.toNat_natCast]
 rw[if_pos (show D.p^D.m≤256 from hq)];rfl
section
variable{D:FD}{mod:Sl}{h:AH}{fl:Nat}
theorem rI(h:AH)(D:FD)(mod:Sl):OB (h.alloc [.int .i64 (D.p:Int),.int .i64 (D.m:Int),.slice mod.a mod.l mod.c]) h.next [.int .i64 (D.p:Int),.int .i64 (D.m:Int),.slice mod.a mod.l mod.c]:=OB.alloc ..
theorem aax(r:RF h mod D)(x:Int):∃h',M fl fn.kN [fa D mod,.int .i64 x] h=some (.bool (Ki D x),h')∧aj h h':=by
 have du:=rI h D mod
 have eF:=aj.alloc h [.int .i64 (D.p:Int),.int .i64 (D.m:Int),.slice mod.a mod.l mod.c]
 generalize dB:h.alloc [.int .i64 (D.p:Int),.int .i64 (D.m:Int),.slice mod.a mod.l mod.c]=h1 at du eF
 obtain⟨h2,a1,a2⟩:=xV (fl:=fl) (h:=h1) (D.p:Int) (D.m:Int) mod
 have go:∀{v},kN M fl 1 (D.p:Int) (D.m:Int) mod x h=some v→M fl fn.kN [fa D mod,.int .i64 x] h=some v:=by
  intro v e
  refine aR (k:=1) (by decide) ab5 ?_
  unfold fa
  rw[Vt];exact e
 by_cases c:x≥0
 ·refine⟨h2,go ?_,eF.trans a2⟩
  unfold kN aev cU
  rw[dB]
  dsimp only
  rw[if_pos (by simp;omega),ae (du.cell rfl),ae (du.cell rfl),ai (s:=mod) (du.cell rfl),ah a1,acj r.ok]
  simp only[asInt,if_true]
  unfold Ki
  have:decide (0≤x)=true:=by simp;omega
  rw[this,Bool.true_and]
 ·refine⟨h1,go ?_,eF⟩
  unfold kN aev cU
  rw[dB]
  dsimp only
  rw[if_neg (by simp;omega)]
  unfold Ki
  have:decide (0≤x)=false:=by simp;omega
  rw[this,Bool.false_and]
theorem amp(r:RF h mod D)(x:Int):∃h',M fl fn.yH [fa D mod,.int .i64 x] h=some (.int .i64 ((pq D x:Nat):Int),h')∧aj h h':=by
 have du:=rI h D mod
 have eF:=aj.alloc h [.int .i64 (D.p:Int),.int .i64 (D.m:Int),.slice mod.a mod.l mod.c]
 generalize dB:h.alloc [.int .i64 (D.p:Int),.int .i64 (D.m:Int),.slice mod.a mod.l mod.c]=h1 at du eF
 obtain⟨h2,a1,a2⟩:=aax (fl:=fl) (r.quiet eF) x
 refine⟨h2,aR (k:=1) (by decide) ab6 ?_,eF.trans a2⟩
 unfold fa
 rw[WE]
 unfold yH al9 cU
 rw[dB]
 dsimp only
 rw[ae (du.cell rfl),ae (du.cell rfl),ai (s:=mod) (du.cell rfl),ah (show M fl fn.kN [.agg ⟨[.int .i64 (D.p:Int),.int .i64 (D.m:Int),.slice mod.a mod.l mod.c]⟩,.int .i64 x] h1=_ from a1)]
 simp only[asBool]
 unfold Ki pq
 by_cases c:0≤x∧x<D.q
 ·rw[if_pos (by simp;omega),if_pos c]
  congr 2
  rw[Int.toNat_of_nonneg c.1]
 ·rw[if_neg (by simp;omega),if_neg c];rfl
theorem mI(r:RF h mod D)(x:Int)(bL:fl≤h.next):∃h' b,M fl fn.cP [fa D mod,.int .i64 x] h=some (.slice (some ⟨b,0,none⟩) D.m D.m,h')∧h.next≤b∧OB h' b (iv (ints (D.dg (pq D x))))∧aj h h':=by
 have du:=rI h D mod
 have eF:=aj.alloc h [.int .i64 (D.p:Int),.int .i64 (D.m:Int),.slice mod.a mod.l mod.c]
 generalize dB:h.alloc [.int .i64 (D.p:Int),.int .i64 (D.m:Int),.slice mod.a mod.l mod.c]=h1 at du eF
 obtain⟨h2,a1,a2⟩:=amp (fl:=h1.next) (r.quiet eF) x
 have lY:=eF.trans a2
 have hm:=r.ok.m
 have hq:=r.ok.q
 have hx:=HF D x
 obtain⟨h3,b1,b2,b3⟩:=Kk (fl:=fl) (h:=h2) (x:=pq D x) (p:=D.p) (m:=D.m) D.pp (by omega) (by omega) (by have:=lY.1;omega)
 refine⟨h3,h2.next,aR (k:=1) (by decide) RA ?_,lY.1,b2,lY.trans b3⟩
 unfold fa
 rw[Lr]
 unfold cP alQ cU
 rw[dB]
 dsimp only
 rw[ae (du.cell rfl),ae (du.cell rfl),ai (s:=mod) (du.cell rfl),ah (show M h1.next fn.yH [.agg ⟨[.int .i64 (D.p:Int),.int .i64 (D.m:Int),.slice mod.a mod.l mod.c]⟩,.int .i64 x] h1=_ from a1)]
 simp only[asInt,if_true]
 have mg:=du.quiet a2
 rw[ae (mg.cell rfl),ae (mg.cell rfl),ah b1]
 rfl
theorem aay{R:Type}{k:Nat}(kn:ag R){bx:Nat}{vs:List Value}{s:Sl}{l:List Nat}{p:Nat}(hx:OB h bx (.int .i64 (p:Int)::vs))(hs:SI h s (ints l))(hsm:Small p l)(hb:p^l.length≤9223372036854775808)(hl:l.length≤64):
 ∀(i f:Nat),i≤l.length→i<f→
 zD M fl k kn f s ⟨bx,0,none⟩ ((dJ p (l.drop i):Nat):Int) ((i:Int)-1) h=kn ((dJ p l:Nat):Int) h:=by
 intro i
 induction i with
 |zero=>
  intro f hi hf
  obtain⟨f,rfl⟩:∃j,f=j+1:=⟨f-1,by omega⟩
  show rv M fl k _ _ s _ _ _ h=_
  unfold rv
  rw[if_neg (by simp),List.drop_zero]
 |succ i ih=>
  intro f hi hf
  obtain⟨f,rfl⟩:∃j,f=j+1:=⟨f-1,by omega⟩
  show rv M fl k _ _ s _ _ _ h=_
  unfold rv
  have e1:((i+1:Nat):Int)-1=(i:Int):=by omega
  rw[e1,if_pos (by simp),ae (hx.cell rfl),hs.read (by omega) (by simp;omega)]
  simp only[Int.toNat_natCast,dC]
  have hd:l.drop i=l[i]::l.drop (i+1):=List.drop_eq_getElem_cons (by omega)
  have hlt:dJ p (l.drop i)<9223372036854775808:=by
   have h1:=abL (l.drop i) (fun a ha=>hsm a (List.mem_of_mem_drop ha))
   have h2:p^(l.drop i).length≤p^l.length:=Nat.pow_le_pow_right (by have:=hsm l[i] (List.getElem_mem _);omega) (by simp)
   omega
  have hv:dJ p (l.drop i)=l[i]+p*dJ p (l.drop (i+1)):=by rw[hd];rfl
  have e2:bM (((dJ p (l.drop (i+1)):Nat):Int)*(p:Int))=((p*dJ p (l.drop (i+1)):Nat):Int):=aw _ (by push_cast;rw[Int.mul_comm]) (by omega)
  rw[e2,aw (dJ p (l.drop i)) (by rw[hv];push_cast;omega) hlt,kH (by omega) (by omega)]
  exact ih f (by omega) (by omega)
theorem Dr(r:RF h mod D){s:Sl}{l:List Nat}(hs:SI h s (ints l))(hsm:Small D.p l)(hl:l.length=D.m):
 ∃h',M fl fn.fN [fa D mod,.slice s.a s.l s.c] h=some (.int .i64 ((dJ D.p l:Nat):Int),h')∧aj h h':=by
 have du:=rI h D mod
 have eF:=aj.alloc h [.int .i64 (D.p:Int),.int .i64 (D.m:Int),.slice mod.a mod.l mod.c]
 generalize dB:h.alloc [.int .i64 (D.p:Int),.int .i64 (D.m:Int),.slice mod.a mod.l mod.c]=h1 at du eF
 have hm:=r.ok.m
 have hq:D.p^D.m≤256:=r.ok.q
 refine⟨h1,aR (k:=l.length+1) (by decide) SX ?_,eF⟩
 unfold fa
 rw[Oh]
 unfold fN alS Wr Wq cU
 rw[dB]
 dsimp only
 rw[hs.len,kH (by simp;omega) (by simp;omega)]
 have:=aay (fl:=fl) (k:=l.length+1) (Ls M fl (l.length+1) (fun(y4:Int) q=>some (Value.int .i64 y4,q))) du (hs.quiet eF) hsm (by rw[hl];omega) (by omega) l.length (l.length+1) (by omega) (by omega)
 simp only[List.drop_length] at this
 simp only[cI]
 exact this
theorem aho(r:RF h mod D)(x y:Int)(bL:fl≤h.next):∃h',M fl fn.nH [fa D mod,.int .i64 x,.int .i64 y] h=some (.int .i64 ((D.add (pq D x) (pq D y):Nat):Int),h')∧aj h h':=by
 have du:=rI h D mod
 have eF:=aj.alloc h [.int .i64 (D.p:Int),.int .i64 (D.m:Int),.slice mod.a mod.l mod.c]
 generalize dB:h.alloc [.int .i64 (D.p:Int),.int .i64 (D.m:Int),.slice mod.a mod.l mod.c]=h1 at du eF
 obtain⟨h2,b2,a1,a2,a3,a4⟩:=mI (fl:=fl) (r.quiet eF) x (by have:=eF.1;omega)
 have lY:=eF.trans a4
 obtain⟨h3,b3,c1,c2,c3,c4⟩:=mI (fl:=fl) (r.quiet lY) y (by have:=lY.1;omega)
 have Ua:=lY.trans c4
 have hm:=r.ok.m
 have aFg:=a3.1
 have iH:b3≠b2:=by omega
 have hqc:iI (some ⟨b2,0,none⟩) h3 h3:=iI.refl _ _
 have hsb:SI h3 ⟨some ⟨b3,0,none⟩,D.m,D.m⟩ (ints (D.dg (pq D y))):=by
  have:=c3.si none D.m
  rwa[cI,D.gG] at this
 have loop:∀(d i g:Nat) (pre a:List Nat) (h':AH),i+d=D.m→d<g→pre.length=i→a.length=d→Small D.p a→OB h' b2 (iv (ints (pre++a)))→iI (some ⟨b2,0,none⟩) h3 h'→
  ∃h'',zI M fl 20 (zH M fl 20 (fun(y6:Int) q=>some (Value.int .i64 y6,q))) g ⟨h.next,0,none⟩ ⟨some ⟨b2,0,none⟩,D.m,D.m⟩ ⟨some ⟨b3,0,none⟩,D.m,D.m⟩ (i:Int) h'=zH M fl 20 (fun(y6:Int) q=>some (Value.int .i64 y6,q)) ⟨h.next,0,none⟩ ⟨some ⟨b2,0,none⟩,D.m,D.m⟩ h''∧OB h'' b2 (iv (ints (pre++tB D.p a ((D.dg (pq D y)).drop i))))∧iI (some ⟨b2,0,none⟩) h3 h'':=by
  have ah8:=(du.quiet a4).quiet c4
  have hp:=r.ok.p
  have hp0:=D.pp
  have hlb:=D.gG (pq D y)
  have hsy:=D.mA (pq D y)
  generalize D.dg (pq D y)=b at hsb hlb hsy ⊢
  intro d
  induction d with
  |zero=>
   intro i g pre a h' hi hg Ta ha Pr ho hq
   obtain⟨g,rfl⟩:∃j,g=j+1:=⟨g-1,by omega⟩
   obtain rfl:a=[]:=List.eq_nil_of_length_eq_zero ha
   refine⟨h',?_,by simpa [tB] using ho,hq⟩
   show rE M fl 20 _ _ _ _ _ _ h'=_
   unfold rE
   rw[if_neg (by simp;omega)]
  |succ d ih=>
   intro i g pre a h' hi hg Ta ha Pr ho hq
   obtain⟨g,rfl⟩:∃j,g=j+1:=⟨g-1,by omega⟩
   obtain⟨x,a,rfl⟩:∃x a',a=x::a':=by cases a with|nil=>simp at ha|cons x a=>exact⟨x,a,rfl⟩
   have hxp:x<D.p:=Pr x (List.mem_cons_self ..)
   have hbp:b[i]'(by omega)<D.p:=hsy _ (List.getElem_mem _)
   have hd:b.drop i=b[i]'(by omega)::b.drop (i+1):=List.drop_eq_getElem_cons (by omega)
   have k8:h'.cell b2 (0+i)=some (.int .i64 ((x:Nat):Int)):=by
    refine ho.cell ?_
    rw[Nat.zero_add,jv (by simp;omega)]
    congr 3
    rw[List.getElem_append_right (by omega)]
    simp[Ta]
   have nu:(iv (ints (pre++x::a))).set (0+i) (.int .i64 (((x+b[i]'(by omega))%D.p:Nat):Int))=iv (ints ((pre++[(x+b[i]'(by omega))%D.p])++a)):=by
    rw[kI,ints_set,Nat.zero_add,List.set_append_right _ _ (by omega),show i-pre.length=0 by omega,List.set_cons_zero];simp
   obtain⟨h'',e1,e2,e3⟩:=ih (i+1) g (pre++[(x+b[i]'(by omega))%D.p]) a (h'.put b2 (some (iv (ints ((pre++[(x+b[i]'(by omega))%D.p])++a))))) (by omega) (by omega) (by simp;omega) (by simpa using ha) (fun y hy=>Pr y (List.mem_cons_of_mem _ hy)) (ho.put _) (hq.trans (iI.put _))
   refine⟨h'',?_,?_,e3⟩
   ·show rE M fl 20 _ _ _ _ _ _ h'=_
    unfold rE
    have hbn:h.next<h1.next:=du.1
    rw[if_pos (by simp;omega),aU rfl (show i<D.m by omega)]
    dsimp only
    rw[ae k8,(hsb.Ao hq (fun a b ha hb=>by cases ha;cases hb;simp;omega)).read (by omega) (by simp;omega)]
    simp only[Int.toNat_natCast,dC]
    rw[ae ((hq.ob ah8 (fun a ha=>by cases ha;simp;omega)).cell rfl),aw (x+b[i]'(by omega)) (by push_cast;rfl) (by omega),gO hp0,aU rfl (show i<D.m by omega),ho.st (by have:=eF.1;omega) (by simp;omega) rfl,nu,aw (i+1) (by push_cast;rfl) (by omega)]
    exact e1
   ·rw[hd]
    simpa [tB] using e2
 obtain⟨h4,d1,d2,d3⟩:=loop D.m 0 20 [] (D.dg (pq D x)) h3 (by omega) (by omega) rfl (D.gG _) (D.mA _) (a3.quiet c4) (iI.refl _ _)
 have hq4:aj h h4:=d3.quiet Ua (fun a ha=>by cases ha;have:=eF.1;simp;omega)
 simp only[List.nil_append,List.drop_zero] at d2
 have hs4:SI h4 ⟨some ⟨b2,0,none⟩,D.m,D.m⟩ (ints (tB D.p (D.dg (pq D x)) (D.dg (pq D y)))):=by
  have:=d2.si none D.m
  rwa[cI,D.Ih] at this
 obtain⟨h5,e1,e2⟩:=Dr (fl:=fl) (r.quiet hq4) hs4 (FM D.pp _ _) (D.Ih _ _)
 refine⟨h5,aR (k:=20) (by decide) aak ?_,hq4.trans e2⟩
 unfold fa
 rw[SH]
 unfold nH al7 WD cU
 rw[dB]
 dsimp only
 rw[ae (du.cell rfl),ae (du.cell rfl),ai (s:=mod) (du.cell rfl),ah (show M fl fn.cP [.agg ⟨[.int .i64 (D.p:Int),.int .i64 (D.m:Int),.slice mod.a mod.l mod.c]⟩,.int .i64 x] h1=_ from a1)]
 simp only[bB]
 have mg:=du.quiet a4
 rw[ae (mg.cell rfl),ae (mg.cell rfl),ai (s:=mod) (mg.cell rfl),ah (show M fl fn.cP [.agg ⟨[.int .i64 (D.p:Int),.int .i64 (D.m:Int),.slice mod.a mod.l mod.c]⟩,.int .i64 y] h2=_ from c1)]
 simp only
 unfold WC
 refine Eq.trans d1 ?_
 unfold zH
 have hb4:=d3.ob (mg.quiet c4) (fun a ha=>by cases ha;have:=du.1;simp;omega)
 rw[ae (hb4.cell rfl),ae (hb4.cell rfl),ai (s:=mod) (hb4.cell rfl),ah (show M fl fn.fN [.agg ⟨[.int .i64 (D.p:Int),.int .i64 (D.m:Int),.slice mod.a mod.l mod.c]⟩,.slice (some ⟨b2,0,none⟩) D.m D.m] h4=_ from e1)]
 rfl
end
end Go.Abs.P
end
section
namespace Go.Abs.P
open Go.Abs Go.Fld
section
variable{D:FD}{mod:Sl}{h:AH}{fl:Nat}
theorem ahp(r:RF h mod D)(x:Int)(bL:fl≤h.next):∃h',M fl fn.pU [fa D mod,.int .i64 x] h=some (.int .i64 ((D.neg (pq D x):Nat):Int),h')∧aj h h':=by
 have du:=rI h D mod
 have eF:=aj.alloc h [.int .i64 (D.p:Int),.int .i64 (D.m:Int),.slice mod.a mod.l mod.c]
 generalize dB:h.alloc [.int .i64 (D.p:Int),.int .i64 (D.m:Int),.slice mod.a mod.l mod.c]=h1 at du eF
 obtain⟨h2,b2,a1,a2,a3,a4⟩:=mI (fl:=fl) (r.quiet eF) x (by have:=eF.1;omega)
 have lY:=eF.trans a4
 have hm:=r.ok.m
 have hbn:h.next<h1.next:=du.1
 have aya:=du.quiet a4
 have hp:=r.ok.p
 have hp0:=D.pp
 have loop:∀(d i g:Nat) (pre a:List Nat) (h':AH),i+d=D.m→d<g→pre.length=i→a.length=d→Small D.p a→OB h' b2 (iv (ints (pre++a)))→iI (some ⟨b2,0,none⟩) h2 h'→
  ∃h'',zm M fl 20 (zl M fl 20 (fun(y6:Int) q=>some (Value.int .i64 y6,q))) g ⟨h.next,0,none⟩ ⟨some ⟨b2,0,none⟩,D.m,D.m⟩ (i:Int) h'=zl M fl 20 (fun(y6:Int) q=>some (Value.int .i64 y6,q)) ⟨h.next,0,none⟩ ⟨some ⟨b2,0,none⟩,D.m,D.m⟩ h''∧OB h'' b2 (iv (ints (pre++yz D.p a)))∧iI (some ⟨b2,0,none⟩) h2 h'':=by
  intro d
  induction d with
  |zero=>
   intro i g pre a h' hi hg Ta ha Pr ho hq
   obtain⟨g,rfl⟩:∃j,g=j+1:=⟨g-1,by omega⟩
   obtain rfl:a=[]:=List.eq_nil_of_length_eq_zero ha
   refine⟨h',?_,by simpa [yz] using ho,hq⟩
   show qM M fl 20 _ _ _ _ _ h'=_
   unfold qM
   rw[if_neg (by simp;omega)]
  |succ d ih=>
   intro i g pre a h' hi hg Ta ha Pr ho hq
   obtain⟨g,rfl⟩:∃j,g=j+1:=⟨g-1,by omega⟩
   obtain⟨x,a,rfl⟩:∃x a',a=x::a':=by cases a with|nil=>simp at ha|cons x a=>exact⟨x,a,rfl⟩
   have hxp:x<D.p:=Pr x (List.mem_cons_self ..)
   have k8:h'.cell b2 (0+i)=some (.int .i64 ((x:Nat):Int)):=by
    refine ho.cell ?_
    rw[Nat.zero_add,jv (by simp;omega)]
    congr 3
    rw[List.getElem_append_right (by omega)]
    simp[Ta]
   have nu:(iv (ints (pre++x::a))).set (0+i) (.int .i64 (((D.p-x)%D.p:Nat):Int))=iv (ints ((pre++[(D.p-x)%D.p])++a)):=by
    rw[kI,ints_set,Nat.zero_add,List.set_append_right _ _ (by omega),show i-pre.length=0 by omega,List.set_cons_zero];simp
   obtain⟨h'',e1,e2,e3⟩:=ih (i+1) g (pre++[(D.p-x)%D.p]) a (h'.put b2 (some (iv (ints ((pre++[(D.p-x)%D.p])++a))))) (by omega) (by omega) (by simp;omega) (by simpa using ha) (fun y hy=>Pr y (List.mem_cons_of_mem _ hy)) (ho.put _) (hq.trans (iI.put _))
   have hx':=hq.ob aya (fun a ha=>by cases ha;simp;omega)
   refine⟨h'',?_,by simpa [yz] using e2,e3⟩
   show qM M fl 20 _ _ _ _ _ h'=_
   unfold qM
   rw[if_pos (by simp;omega),ae (hx'.cell rfl),aU rfl (show i<D.m by omega)]
   dsimp only
   rw[ae k8,ae (hx'.cell rfl),aw (D.p-x) (by omega) (by omega),gO hp0,aU rfl (show i<D.m by omega),ho.st (by have:=eF.1;omega) (by simp;omega) rfl,nu,aw (i+1) (by push_cast;rfl) (by omega)]
   exact e1
 obtain⟨h4,d1,d2,d3⟩:=loop D.m 0 20 [] (D.dg (pq D x)) h2 (by omega) (by omega) rfl (D.gG _) (D.mA _) a3 (iI.refl _ _)
 have hq4:aj h h4:=d3.quiet lY (fun a ha=>by cases ha;have:=eF.1;simp;omega)
 simp only[List.nil_append] at d2
 have hs4:SI h4 ⟨some ⟨b2,0,none⟩,D.m,D.m⟩ (ints (yz D.p (D.dg (pq D x)))):=by
  have:=d2.si none D.m
  rwa[cI,D.Ii] at this
 obtain⟨h5,e1,e2⟩:=Dr (fl:=fl) (r.quiet hq4) hs4 (FN D.pp _) (D.Ii _)
 refine⟨h5,aR (k:=20) (by decide) aag ?_,hq4.trans e2⟩
 unfold fa
 rw[Sm]
 unfold pU ale VS cU
 rw[dB]
 dsimp only
 rw[ae (du.cell rfl),ae (du.cell rfl),ai (s:=mod) (du.cell rfl),ah (show M fl fn.cP [.agg ⟨[.int .i64 (D.p:Int),.int .i64 (D.m:Int),.slice mod.a mod.l mod.c]⟩,.int .i64 x] h1=_ from a1)]
 simp only[bB]
 unfold VR
 refine Eq.trans d1 ?_
 unfold zl
 have hb4:=d3.ob aya (fun a ha=>by cases ha;simp;omega)
 rw[ae (hb4.cell rfl),ae (hb4.cell rfl),ai (s:=mod) (hb4.cell rfl),ah (show M fl fn.fN [.agg ⟨[.int .i64 (D.p:Int),.int .i64 (D.m:Int),.slice mod.a mod.l mod.c]⟩,.slice (some ⟨b2,0,none⟩) D.m D.m] h4=_ from e1)]
 rfl
end
end Go.Abs.P
end
section
namespace Go.Abs.P
open Go.Abs Go.Fld
theorem Ni{l:List Nat}{i n:Nat}:(iv (ints l)).set i (.int .i64 (n:Int))=iv (ints (l.set i n)):=by rw[kI,ints_set]
theorem TK{p:Nat}{l:List Nat}(h:Small p l)(i:Nat){v:Nat}(hv:v<p):Small p (l.set i v):=by
 intro a ha
 rcases List.mem_or_eq_of_mem_set ha with h1|h1
 ·exact h a h1
 ·omega
section
variable{D:FD}{fl k:Nat}{h0:AH}{bx cb:Nat}{mod ta tb:Sl}{a b:List Nat}
theorem ar1{R:Type}(kn:aX R)(f:WQ D)(hx:OB h0 bx [.int .i64 (D.p:Int),.int .i64 (D.m:Int),.slice mod.a mod.l mod.c])
 (ha:SI h0 ta (ints a)) (hla:a.length=D.m) (Pr:Small D.p a) (hb:SI h0 tb (ints b)) (hlb:b.length=D.m) (hsb:Small D.p b) (hcb:h0.next≤cb) (bL:fl≤cb) (i:Nat) (hi:i<D.m) (P:V D.p):
 ∀(d j g:Nat) (c:List Nat) (h:AH),j+d=D.m→d<g→c.length=2*D.m-1→Small D.p c→OB h cb (iv (ints c))→aj h0 h→
 Uu D.m (vec D.low) (2*D.m-1) c=uF P (fun k=>vec a i*lc j (vec b) (fun j=>tp D.m (vec D.low) (i+j) e0) k)→
 ∃h' c',jU M fl k kn g ⟨bx,0,none⟩ ta tb ⟨some ⟨cb,0,none⟩,2*D.m-1,2*D.m-1⟩ (i:Int) (j:Int) h=kn ⟨bx,0,none⟩ ta tb ⟨some ⟨cb,0,none⟩,2*D.m-1,2*D.m-1⟩ (i:Int) h'∧
  OB h' cb (iv (ints c'))∧c'.length=2*D.m-1∧Small D.p c'∧aj h0 h'∧Uu D.m (vec D.low) (2*D.m-1) c'=uF P (fun k=>vec a i*lc D.m (vec b) (fun j=>tp D.m (vec D.low) (i+j) e0) k):=by
 have hp:=f.p
 have hm:=f.m
 have hp0:=D.pp
 intro d
 induction d with
 |zero=>
  intro j g c h hj hg hlc Xx ho hq Tc
  obtain⟨g,rfl⟩:∃j,g=j+1:=⟨g-1,by omega⟩
  obtain rfl:j=D.m:=by omega
  refine⟨h,c,?_,ho,hlc,Xx,hq,Tc⟩
  show dz M fl k _ _ _ _ _ _ _ _ h=_
  unfold dz
  dsimp only
  rw[ae ((hx.quiet hq).cell rfl),if_neg (by simp)]
 |succ d ih=>
  intro j g c h hj hg hlc Xx ho hq Tc
  obtain⟨g,rfl⟩:∃j,g=j+1:=⟨g-1,by omega⟩
  have tP:=hx.quiet hq
  have hai:a[i]'(by omega)<D.p:=Pr _ (List.getElem_mem _)
  have hbj:b[j]'(by omega)<D.p:=hsb _ (List.getElem_mem _)
  have aGP:c[i+j]'(by omega)<D.p:=Xx _ (List.getElem_mem _)
  have hab:a[i]'(by omega)*b[j]'(by omega)≤256*256:=Nat.mul_le_mul (by omega) (by omega)
  have k8:h.cell cb (0+(i+j))=some (.int .i64 ((c[i+j]'(by omega):Nat):Int)):=ho.cell (by rw[Nat.zero_add,jv (by omega)])
  obtain⟨h',c',e1,e2⟩:=ih (j+1) g (c.set (i+j) ((c[i+j]'(by omega)+a[i]'(by omega)*b[j]'(by omega))%D.p)) (h.put cb (some (iv (ints (c.set (i+j) ((c[i+j]'(by omega)+a[i]'(by omega)*b[j]'(by omega))%D.p)))))) (by omega) (by omega) (by simpa using hlc) (TK Xx _ (Nat.mod_lt _ hp0)) (ho.put _) (hq.put hcb _) (by
   unfold Uu
   rw[ajf (d:=Fin.ofNat D.p (a[i]'(by omega))*Fin.ofNat D.p (b[j]'(by omega))) _ (show i+j<2*D.m-1 by omega) (by omega) (by rw[PS,PT,abN])]
   unfold Uu at Tc
   rw[Tc,OJ]
   funext k
   have h1:vec (p:=D.p) a i=Fin.ofNat D.p (a[i]'(by omega)):=by unfold vec;rw[lu]
   have h2:vec (p:=D.p) b j=Fin.ofNat D.p (b[j]'(by omega)):=by unfold vec;rw[lu]
   unfold uF
   rw[h1,h2]
   grind)
  refine⟨h',c',?_,e2⟩
  show dz M fl k _ _ _ _ _ _ _ _ h=_
  unfold dz
  dsimp only
  rw[ae (tP.cell rfl),if_pos (by simp;omega),aw (i+j) (by push_cast;rfl) (by omega),aU rfl (show i+j<2*D.m-1 by omega)]
  dsimp only
  rw[ae k8,(ha.quiet hq).read (by omega) (by simp;omega),(hb.quiet hq).read (by omega) (by simp;omega)]
  simp only[Int.toNat_natCast,dC]
  have f1:bM (((a[i]'(by omega):Nat):Int)*((b[j]'(by omega):Nat):Int))=((a[i]'(by omega)*b[j]'(by omega):Nat):Int):=aw _ (by push_cast;rfl) (by omega)
  rw[ae (tP.cell rfl),f1,aw (c[i+j]'(by omega)+a[i]'(by omega)*b[j]'(by omega)) (by push_cast;rfl) (by omega),gO hp0,aU rfl (show i+j<2*D.m-1 by omega),ho.st bL (by simp;omega) rfl,Nat.zero_add,Ni,aw (j+1) (by push_cast;rfl) (by omega)]
  exact e1
theorem amq{R:Type}(kn:bV R)(f:WQ D)(hx:OB h0 bx [.int .i64 (D.p:Int),.int .i64 (D.m:Int),.slice mod.a mod.l mod.c])
 (ha:SI h0 ta (ints a)) (hla:a.length=D.m) (Pr:Small D.p a) (hb:SI h0 tb (ints b)) (hlb:b.length=D.m) (hsb:Small D.p b) (hcb:h0.next≤cb) (bL:fl≤cb) (hk:8<k):
 ∀(d i g:Nat) (c:List Nat) (h:AH),i+d=D.m→d<g→c.length=2*D.m-1→Small D.p c→OB h cb (iv (ints c))→aj h0 h→
 Uu D.m (vec D.low) (2*D.m-1) c=lc (p:=D.p) i (vec a) (fun i=>lc D.m (vec b) (fun j=>tp D.m (vec D.low) (i+j) e0))→
 ∃h' c',vt M fl k kn g ⟨bx,0,none⟩ ta tb ⟨some ⟨cb,0,none⟩,2*D.m-1,2*D.m-1⟩ (i:Int) h=kn ⟨bx,0,none⟩ ⟨some ⟨cb,0,none⟩,2*D.m-1,2*D.m-1⟩ h'∧
  OB h' cb (iv (ints c'))∧c'.length=2*D.m-1∧Small D.p c'∧aj h0 h'∧Uu D.m (vec D.low) (2*D.m-1) c'=lc (p:=D.p) D.m (vec a) (fun i=>lc D.m (vec b) (fun j=>tp D.m (vec D.low) (i+j) e0)):=by
 have hm:=f.m
 intro d
 induction d with
 |zero=>
  intro i g c h hi hg hlc Xx ho hq Tc
  obtain⟨g,rfl⟩:∃j,g=j+1:=⟨g-1,by omega⟩
  obtain rfl:i=D.m:=by omega
  refine⟨h,c,?_,ho,hlc,Xx,hq,Tc⟩
  show rD M fl k _ _ _ _ _ _ _ h=_
  unfold rD wH
  dsimp only
  rw[ae ((hx.quiet hq).cell rfl),if_neg (by simp)]
 |succ d ih=>
  intro i g c h hi hg hlc Xx ho hq Tc
  obtain⟨g,rfl⟩:∃j,g=j+1:=⟨g-1,by omega⟩
  obtain⟨h1,c1,a1,a2,a3,a4,a5,a6⟩:=ar1 (k:=k) (mH M fl k (vt M fl k kn g) kn) f hx ha hla Pr hb hlb hsb hcb bL i (by omega) (lc (p:=D.p) i (vec a) (fun i=>lc D.m (vec b) (fun j=>tp D.m (vec D.low) (i+j) e0))) D.m 0 k c h (by omega) (by omega) hlc Xx ho hq (by
   rw[Tc]
   funext k
   simp only[uF,lc,sm]
   grind)
  obtain⟨h',c',e1,e2⟩:=ih (i+1) g c1 h1 (by omega) (by omega) a3 a4 a2 a5 (by rw[a6,OJ])
  refine⟨h',c',?_,e2⟩
  show rD M fl k _ _ _ _ _ _ _ h=_
  unfold rD wH
  dsimp only
  rw[ae ((hx.quiet hq).cell rfl),if_pos (by simp;omega)]
  unfold C9 u7 tw pj rC
  refine Eq.trans a1 ?_
  unfold mH
  rw[aw (i+1) (by push_cast;rfl) (by omega)]
  exact e1
theorem ar2{R:Type}(kn:cz R)(f:WQ D)(hx:OB h0 bx [.int .i64 (D.p:Int),.int .i64 (D.m:Int),.slice mod.a mod.l mod.c])(bu:SI h0 mod (ints D.low))(hcb:h0.next≤cb)(bL:fl≤cb)(i ci:Nat)(hi:D.m≤i)(hi2:i<2*D.m-1)(P:V D.p):
 ∀(d j g:Nat) (c:List Nat) (h:AH),j+d=D.m→d<g→c.length=2*D.m-1→Small D.p c→c[i]?=some ci→OB h cb (iv (ints c))→aj h0 h→
 Uu D.m (vec D.low) i c=uF P (lc j (fun j=> -(Fin.ofNat D.p ci*vec D.low j)) (fun j=>tp D.m (vec D.low) (i-D.m+j) e0))→
 ∃h' c',gC M fl k kn g ⟨bx,0,none⟩ ⟨some ⟨cb,0,none⟩,2*D.m-1,2*D.m-1⟩ (i:Int) (j:Int) h=kn ⟨bx,0,none⟩ ⟨some ⟨cb,0,none⟩,2*D.m-1,2*D.m-1⟩ (i:Int) h'∧
  OB h' cb (iv (ints c'))∧c'.length=2*D.m-1∧Small D.p c'∧aj h0 h'∧Uu D.m (vec D.low) i c'=uF P (lc D.m (fun j=> -(Fin.ofNat D.p ci*vec D.low j)) (fun j=>tp D.m (vec D.low) (i-D.m+j) e0)):=by
 have hp:=f.p
 have hm:=f.m
 have hp0:=D.pp
 intro d
 induction d with
 |zero=>
  intro j g c h hj hg hlc Xx hci ho hq Tc
  obtain⟨g,rfl⟩:∃j,g=j+1:=⟨g-1,by omega⟩
  obtain rfl:j=D.m:=by omega
  refine⟨h,c,?_,ho,hlc,Xx,hq,Tc⟩
  show cN M fl k _ _ _ _ _ _ h=_
  unfold cN
  dsimp only
  rw[ae ((hx.quiet hq).cell rfl),if_neg (by simp)]
 |succ d ih=>
  intro j g c h hj hg hlc Xx hci ho hq Tc
  obtain⟨g,rfl⟩:∃j,g=j+1:=⟨g-1,by omega⟩
  have tP:=hx.quiet hq
  have hli:i<c.length:=by omega
  have axL:c[i]=ci:=by rw[List.getElem?_eq_getElem hli] at hci;exact Option.some.inj hci
  have aEx:ci<D.p:=by rw[←axL];exact Xx _ (List.getElem_mem _)
  have hlj:D.low[j]'(by rw[D.hl];omega)<D.p:=D.hs _ (List.getElem_mem _)
  have hk:i-D.m+j<c.length:=by omega
  have hcx:c[i-D.m+j]<D.p:=Xx _ (List.getElem_mem _)
  have hmul:(D.p-ci)*D.low[j]'(by rw[D.hl];omega)≤256*256:=Nat.mul_le_mul (by omega) (by omega)
  have k8:h.cell cb (0+(i-D.m+j))=some (.int .i64 ((c[i-D.m+j]:Nat):Int)):=ho.cell (by rw[Nat.zero_add,jv hk])
  have avy:h.cell cb (0+i)=some (.int .i64 ((ci:Nat):Int)):=ho.cell (by rw[Nat.zero_add,jv hli,axL])
  obtain⟨h',c',e1,e2⟩:=ih (j+1) g (c.set (i-D.m+j) ((c[i-D.m+j]+(D.p-ci)*D.low[j]'(by rw[D.hl];omega))%D.p)) (h.put cb (some (iv (ints (c.set (i-D.m+j) ((c[i-D.m+j]+(D.p-ci)*D.low[j]'(by rw[D.hl];omega))%D.p)))))) (by omega) (by omega) (by simpa using hlc) (TK Xx _ (Nat.mod_lt _ hp0)) (by rw[List.getElem?_set_ne (by omega)];exact hci) (ho.put _) (hq.put hcb _) (by
   unfold Uu
   rw[ajf (d:= -(Fin.ofNat D.p ci)*Fin.ofNat D.p (D.low[j]'(by rw[D.hl];omega))) _ (show i-D.m+j<i by omega) hk (by rw[PS,PT,abN,abO (by omega)])]
   unfold Uu at Tc
   rw[Tc,OJ]
   funext k
   have h2:vec (p:=D.p) D.low j=Fin.ofNat D.p (D.low[j]'(by rw[D.hl];omega)):=by unfold vec;rw[lu]
   unfold uF
   rw[h2]
   grind)
  refine⟨h',c',?_,e2⟩
  show cN M fl k _ _ _ _ _ _ h=_
  unfold cN
  dsimp only
  have g1:bM ((i:Int)-(D.m:Int))=((i-D.m:Nat):Int):=aw _ (by omega) (by omega)
  have g2:bM (((i-D.m:Nat):Int)+(j:Int))=((i-D.m+j:Nat):Int):=aw _ (by push_cast;rfl) (by omega)
  rw[ae (tP.cell rfl),if_pos (by simp;omega),ae (tP.cell rfl),ae (tP.cell rfl),g1,g2,aU rfl (show i-D.m+j<2*D.m-1 by omega)]
  dsimp only
  rw[ae k8,ae (tP.cell rfl),aU rfl (show i<2*D.m-1 by omega)]
  dsimp only
  rw[ae avy,ai (s:=mod) (tP.cell rfl),(bu.quiet hq).read (by omega) (by simp[D.hl];omega)]
  simp only[Int.toNat_natCast,dC]
  have f1:bM ((D.p:Int)-(ci:Int))=((D.p-ci:Nat):Int):=aw _ (by omega) (by omega)
  have f2:bM (((D.p-ci:Nat):Int)*((D.low[j]'(by rw[D.hl];omega):Nat):Int))=(((D.p-ci)*D.low[j]'(by rw[D.hl];omega):Nat):Int):=aw _ (by push_cast;rfl) (by omega)
  rw[ae (tP.cell rfl),f1,f2,aw (c[i-D.m+j]+(D.p-ci)*D.low[j]'(by rw[D.hl];omega)) (by push_cast;rfl) (by omega),gO hp0,aU rfl (show i-D.m+j<2*D.m-1 by omega),ho.st bL (by simp;omega) rfl,Nat.zero_add,Ni,aw (j+1) (by push_cast;rfl) (by omega)]
  exact e1
theorem amr{R:Type}(kn:bV R)(f:WQ D)(hx:OB h0 bx [.int .i64 (D.p:Int),.int .i64 (D.m:Int),.slice mod.a mod.l mod.c])(bu:SI h0 mod (ints (jt D)))(hcb:h0.next≤cb)(bL:fl≤cb)(hk:8<k)(P:V D.p):
 ∀(n g:Nat) (c:List Nat) (h:AH),n≤D.m-1→n<g→c.length=2*D.m-1→Small D.p c→OB h cb (iv (ints c))→aj h0 h→Uu D.m (vec D.low) (n+D.m) c=P→
 ∃h' c',j8 M fl k kn g ⟨bx,0,none⟩ ⟨some ⟨cb,0,none⟩,2*D.m-1,2*D.m-1⟩ (((n+D.m:Nat):Int)-1) h=kn ⟨bx,0,none⟩ ⟨some ⟨cb,0,none⟩,2*D.m-1,2*D.m-1⟩ h'∧
  OB h' cb (iv (ints c'))∧c'.length=2*D.m-1∧Small D.p c'∧aj h0 h'∧Uu D.m (vec D.low) D.m c'=P:=by
 have hm:=f.m
 have hm1:=D.hm
 intro n
 induction n with
 |zero=>
  intro g c h hn hg hlc Xx ho hq Tc
  obtain⟨g,rfl⟩:∃j,g=j+1:=⟨g-1,by omega⟩
  refine⟨h,c,?_,ho,hlc,Xx,hq,by simpa using Tc⟩
  show iF M fl k _ _ _ _ _ h=_
  unfold iF kX
  dsimp only
  rw[ae ((hx.quiet hq).cell rfl),if_neg (by rw[decide_eq_true_eq];omega)]
 |succ n ih=>
  intro g c h hn hg hlc Xx ho hq Tc
  obtain⟨g,rfl⟩:∃j,g=j+1:=⟨g-1,by omega⟩
  have hmo:jt D=D.low:=by unfold jt;rw[if_neg (by omega)]
  rw[hmo] at bu
  have hi:n+D.m<c.length:=by omega
  have e0:((n+1+D.m:Nat):Int)-1=((n+D.m:Nat):Int):=by omega
  obtain⟨h1,c1,a1,a2,a3,a4,a5,a6⟩:=ar2 (k:=k) (im M fl k (j8 M fl k kn g) kn) f hx bu hcb bL (n+D.m) (c[n+D.m]) (by omega) (by omega) (Uu D.m (vec D.low) (n+D.m) c) D.m 0 k c h (by omega) (by omega) hlc Xx (List.getElem?_eq_getElem hi) ho hq (by
   funext k
   simp only[uF,lc,sm]
   grind)
  obtain⟨h',c',e1,e2⟩:=ih g c1 h1 (by omega) (by omega) a3 a4 a2 a5 (by
   rw[a6,←Tc,show n+1+D.m=(n+D.m)+1 by omega]
   unfold Uu
   rw[OJ]
   congr 1
   have:=awQ D.m (vec D.low) (by omega) (show D.m≤n+D.m by omega) (Fin.ofNat D.p c[n+D.m])
   rw[←this]
   funext k
   unfold vec
   rw[lu _ hi])
  refine⟨h',c',?_,e2⟩
  rw[e0]
  show iF M fl k _ _ _ _ _ h=_
  unfold iF kX
  dsimp only
  rw[ae ((hx.quiet hq).cell rfl),if_pos (by rw[decide_eq_true_eq];omega)]
  unfold ud lW kv jT mo
  refine Eq.trans a1 ?_
  unfold im
  rw[kH (by omega) (by omega)]
  exact e1
end
section
variable{D:FD}{mod:Sl}{h:AH}{fl:Nat}
theorem TM(r:RF h mod D)(x y:Int)(bL:fl≤h.next):∃h',M fl fn.gH [fa D mod,.int .i64 x,.int .i64 y] h=some (.int .i64 ((D.mul (pq D x) (pq D y):Nat):Int),h')∧aj h h':=by
 have du:=rI h D mod
 have eF:=aj.alloc h [.int .i64 (D.p:Int),.int .i64 (D.m:Int),.slice mod.a mod.l mod.c]
 generalize dB:h.alloc [.int .i64 (D.p:Int),.int .i64 (D.m:Int),.slice mod.a mod.l mod.c]=h1 at du eF
 obtain⟨h2,b2,a1,a2,a3,a4⟩:=mI (fl:=fl) (r.quiet eF) x (by have:=eF.1;omega)
 have lY:=eF.trans a4
 obtain⟨h3,b3,c1,c2,c3,c4⟩:=mI (fl:=fl) (r.quiet lY) y (by have:=lY.1;omega)
 have Ua:=lY.trans c4
 have hm:=r.ok.m
 have hm1:=D.hm
 have hp0:=D.pp
 have mg:=du.quiet a4
 have hb3:=mg.quiet c4
 have sa:SI h3 ⟨some ⟨b2,0,none⟩,D.m,D.m⟩ (ints (D.dg (pq D x))):=by
  have:=(a3.si none D.m).quiet c4
  rwa[cI,D.gG] at this
 have sb:SI h3 ⟨some ⟨b3,0,none⟩,D.m,D.m⟩ (ints (D.dg (pq D y))):=by
  have:=c3.si none D.m
  rwa[cI,D.gG] at this
 have ho:=OB.alloc h3 (List.replicate (2*D.m-1) (Value.int .i64 0))
 rw[oi] at ho
 have hnx:h.next≤h3.next:=Ua.1
 have ez:Uu D.m (vec D.low) (2*D.m-1) (List.replicate (2*D.m-1) 0)=lc (p:=D.p) 0 (vec (D.dg (pq D x))) (fun i=>lc D.m (vec (D.dg (pq D y))) (fun j=>tp D.m (vec D.low) (i+j) e0)):=by
  funext k
  unfold Uu lc
  simp only[sm]
  rw[eJ (g:=fun _=>0),Am]
  intro i hi
  unfold vec
  rw[lu _ (by simpa using hi)]
  simp[DL]
  grind
 obtain⟨h4,cc,d1,d2,d3,d4,d5,d6⟩:=amq (fl:=fl) (k:=30) (cb:=h3.next) (Ev M fl 30 (fun(y6:Int) q=>some (Value.int .i64 y6,q))) r.ok hb3 sa (D.gG _) (D.mA _) sb (D.gG _) (D.mA _) (Nat.le_refl _) (by omega) (by omega) D.m 0 30 (List.replicate (2*D.m-1) 0) _ (by omega) (by omega) (by simp) (by intro c hc;have:=List.eq_of_mem_replicate hc;omega) ho (aj.alloc ..) ez
 obtain⟨h5,cc2,e1,e2,e3,e4,e5,e6⟩:=amr (fl:=fl) (k:=30) (cb:=h3.next) (tv M fl 30 (fun(y6:Int) q=>some (Value.int .i64 y6,q))) r.ok hb3 (r.si.quiet Ua) (Nat.le_refl _) (by omega) (by omega) _ (D.m-1) 30 cc h4 (Nat.le_refl _) (by omega) d3 d4 d2 d5 (by rw[show D.m-1+D.m=2*D.m-1 by omega])
 have hq5:=Ua.trans e5
 have hv:dJ D.p (cc2.take D.m)=D.mul (pq D x) (pq D y):=D.abZ (by omega) e4 (e6.trans d6)
 have hs5:SI h5 ⟨some ⟨h3.next,0,none⟩,D.m,2*D.m-1⟩ (ints (cc2.take D.m)):=by
  refine⟨by simp;omega,fun i hi=>⟨_,rfl,e2.1,?_⟩⟩
  simp only[cI,List.length_take] at hi
  rw[e2.cell (show(iv (ints cc2))[0+i]?=some (.int .i64 ((cc2[i]'(by omega):Nat):Int)) by rw[Nat.zero_add,jv (by omega)])]
  simp[ints]
 obtain⟨h6,g1,g2⟩:=Dr (fl:=fl) (r.quiet hq5) hs5 (fun a ha=>e4 a (List.mem_of_mem_take ha)) (by simp;omega)
 refine⟨h6,aR (k:=30) (by decide) aaj ?_,hq5.trans g2⟩
 unfold fa
 rw[SG]
 unfold gH al5 Wz cU
 rw[dB]
 dsimp only
 rw[ae (du.cell rfl),ae (du.cell rfl),ai (s:=mod) (du.cell rfl),ah (show M fl fn.cP [.agg ⟨[.int .i64 (D.p:Int),.int .i64 (D.m:Int),.slice mod.a mod.l mod.c]⟩,.int .i64 x] h1=_ from a1)]
 simp only[bB]
 rw[ae (mg.cell rfl),ae (mg.cell rfl),ai (s:=mod) (mg.cell rfl),ah (show M fl fn.cP [.agg ⟨[.int .i64 (D.p:Int),.int .i64 (D.m:Int),.slice mod.a mod.l mod.c]⟩,.int .i64 y] h2=_ from c1)]
 simp only
 have k1:bM (2*(D.m:Int))=((2*D.m:Nat):Int):=aw _ (by push_cast;rfl) (by omega)
 have k2:bM (((2*D.m:Nat):Int)-1)=((2*D.m-1:Nat):Int):=aw _ (by omega) (by omega)
 have k3:bM (((2*D.m:Nat):Int)-2)=((D.m-1+D.m:Nat):Int)-1:=by rw[kH (by omega) (by omega)];omega
 rw[ae (hb3.cell rfl),k1,k2,jb (by unfold lk;omega),oi]
 unfold Wy
 refine Eq.trans d1 ?_
 unfold Ev Be C7
 have hb4:=hb3.quiet d5
 dsimp only
 rw[ae (hb4.cell rfl),k1,k3]
 refine Eq.trans e1 ?_
 unfold tv
 have hb5:=hb3.quiet e5
 dsimp only
 rw[ae (hb5.cell rfl),ae (hb5.cell rfl),ai (s:=mod) (hb5.cell rfl),ae (hb5.cell rfl)]
 have axW:∀{R':Type} (K:Sl→Option R'),sub 1 ⟨some ⟨h3.next,0,none⟩,2*D.m-1,2*D.m-1⟩ none (some (D.m:Int)) none K=K ⟨some ⟨h3.next,0,none⟩,D.m,2*D.m-1⟩:=by
  intro R' K
  unfold sub
  rw[if_pos (by unfold pB;simp;omega)]
  simp only[Option.getD_some,Option.getD_none]
  rw[if_pos (by omega)]
  congr 1
  simp
 rw[axW,ah (show M fl fn.fN [.agg ⟨[.int .i64 (D.p:Int),.int .i64 (D.m:Int),.slice mod.a mod.l mod.c]⟩,.slice (some ⟨h3.next,0,none⟩) D.m (2*D.m-1)] h5=_ from g1),hv]
 rfl
theorem ahq{R:Type}{k:Nat}{h0:AH}{bx:Nat}(kn:av R)(kr:ag R)(r:RF h0 mod D)(hx:OB h0 bx [.int .i64 (D.p:Int),.int .i64 (D.m:Int),.slice mod.a mod.l mod.c])(x:Int)(bL:fl≤h0.next):
 ∀(d y g:Nat) (h:AH),y+d=D.q→d<g→0<y→aj h0 h→
 ∃h',aj h0 h'∧rq M fl k kn kr g x ⟨bx,0,none⟩ (y:Int) h=if D.fi (pq D x) d y=0 then kn h' else kr ((D.fi (pq D x) d y:Nat):Int) h':=by
 have T7:=r.ok.q
 intro d
 induction d with
 |zero=>
  intro y g h hy hg h0y hq
  obtain⟨g,rfl⟩:∃j,g=j+1:=⟨g-1,by omega⟩
  have tP:=hx.quiet hq
  obtain⟨h1,a1,a2⟩:=xV (fl:=fl) (h:=h) (D.p:Int) (D.m:Int) mod
  refine⟨h1,hq.trans a2,?_⟩
  show rn M fl k _ _ _ _ _ _ h=_
  unfold rn
  dsimp only
  rw[ae (tP.cell rfl),ae (tP.cell rfl),ai (s:=mod) (tP.cell rfl),ah a1,acj r.ok]
  simp only[asInt,if_true]
  rw[if_neg (by simp;omega)]
  rfl
 |succ d ih=>
  intro y g h hy hg h0y hq
  obtain⟨g,rfl⟩:∃j,g=j+1:=⟨g-1,by omega⟩
  have tP:=hx.quiet hq
  obtain⟨h1,a1,a2⟩:=xV (fl:=fl) (h:=h) (D.p:Int) (D.m:Int) mod
  have z8:=hq.trans a2
  have hx1:=hx.quiet z8
  obtain⟨h2,b1,b2⟩:=TM (fl:=fl) (r.quiet z8) x (y:Int) (by have:=z8.1;omega)
  have lY:=z8.trans b2
  rw[Pm (show y<D.q by omega)] at b1
  have un:rq M fl k kn kr (g+1) x ⟨bx,0,none⟩ (y:Int) h=if D.mul (pq D x) y=1 then kr (y:Int) h2 else rq M fl k kn kr g x ⟨bx,0,none⟩ ((y+1:Nat):Int) h2:=by
   show rn M fl k _ _ _ _ _ _ h=_
   unfold rn
   dsimp only
   rw[ae (tP.cell rfl),ae (tP.cell rfl),ai (s:=mod) (tP.cell rfl),ah a1,acj r.ok]
   simp only[asInt,if_true]
   rw[if_pos (by simp;omega),ae (hx1.cell rfl),ae (hx1.cell rfl),ai (s:=mod) (hx1.cell rfl),ah (show M fl fn.gH [.agg ⟨[.int .i64 (D.p:Int),.int .i64 (D.m:Int),.slice mod.a mod.l mod.c]⟩,.int .i64 x,.int .i64 (y:Int)] h1=_ from b1)]
   simp only[if_true]
   by_cases c:D.mul (pq D x) y=1
   ·rw[if_pos (by rw[c];rfl),if_pos c]
   ·rw[if_neg (by simp;omega),if_neg c,aw (y+1) (by push_cast;rfl) (by omega)]
  by_cases c:D.mul (pq D x) y=1
  ·refine⟨h2,lY,?_⟩
   have:D.fi (pq D x) (d+1) y=y:=by unfold FD.fi;rw[if_pos c]
   rw[un,if_pos c,this,if_neg (by omega)]
  ·obtain⟨h',e1,e2⟩:=ih (y+1) g h2 (by omega) (by omega) (by omega) lY
   refine⟨h',e1,?_⟩
   have:D.fi (pq D x) (d+1) y=D.fi (pq D x) d (y+1):=by conv=>lhs;unfold FD.fi;rw[if_neg c]
   rw[un,if_neg c,this];exact e2
theorem ahr(r:RF h mod D)(x:Int)(bL:fl≤h.next):∃h',M fl fn.pV [fa D mod,.int .i64 x] h=some (.int .i64 ((D.inv (pq D x):Nat):Int),h')∧aj h h':=by
 have du:=rI h D mod
 have eF:=aj.alloc h [.int .i64 (D.p:Int),.int .i64 (D.m:Int),.slice mod.a mod.l mod.c]
 generalize dB:h.alloc [.int .i64 (D.p:Int),.int .i64 (D.m:Int),.slice mod.a mod.l mod.c]=h1 at du eF
 have z8:=D.q1
 obtain⟨h',e1,e2⟩:=ahq (fl:=fl) (k:=D.q+1) (Lp M fl (D.q+1) (fun(y4:Int) q=>some (Value.int .i64 y4,q))) (fun(y4:Int) q=>some (Value.int .i64 y4,q)) (r.quiet eF) du x (by have:=eF.1;omega) (D.q-1) 1 (D.q+1) h1 (by omega) (by omega) (by omega) (aj.refl _)
 refine⟨h',aR (k:=D.q+1) (by decide) aai ?_,eF.trans e1⟩
 unfold fa
 rw[SB]
 unfold pV alM Wn cU
 rw[dB]
 dsimp only
 refine Eq.trans e2 ?_
 unfold FD.inv
 split
 ·rename_i hz;rw[hz];rfl
 ·rfl
end
end Go.Abs.P
end
section
namespace Go.Abs.P
open Go.Abs Go.Fld
abbrev El(D:FD):=Fin D.q
def ve{D:FD}(x:El D):Int:=((x.val:Nat):Int)
def vl{D:FD}(xs:List (El D)):List Int:=xs.map ve
@[simp] theorem cB{D:FD}(xs:List (El D)):(vl xs).length=xs.length:=by simp[vl]
theorem jV{D:FD}(xs:List (El D))(i:Nat)(h:i<(vl xs).length):(vl xs)[i]=ve (xs[i]'(by simpa using h)):=by simp[vl]
theorem ams{D:FD}(xs:List (El D))(i:Nat)(x:El D):(vl xs).set i (ve x)=vl (xs.set i x):=by simp[vl,List.map_set]
theorem zW{D:FD}(a b:List (El D)):vl (a++b)=vl a++vl b:=by simp[vl]
theorem kc{D:FD}(x:El D):pq D (ve x)=x.val:=Pm x.2
theorem ack{D:FD}{x y:El D}(h:ve x=ve y):x=y:=Fin.ext (by unfold ve at h;omega)
theorem eU{D:FD}{gen:Nat}(hg:D.aK gen)(x:El D):ve x=0↔x=(FD.aC hg).zero:=by
 constructor
 ·intro h
  refine Fin.ext ?_
  show x.val=0
  unfold ve at h;omega
 ·rintro rfl;rfl
theorem auJ{D:FD}{a b:List (El D)}(h:vl a=vl b):a=b:=by
 unfold vl at h
 exact(List.map_inj_right (fun x y e=>ack e)).1 h
theorem ata{D:FD}{xs:List Int}(h:∀x∈xs,Ki D x=true):∃l:List (El D),xs=vl l:=by
 induction xs with
 |nil=>exact⟨[],rfl⟩
 |cons x xs ih=>
  obtain⟨l,hl⟩:=ih fun y hy=>h y (List.mem_cons_of_mem _ hy)
  have hx:=h x (List.mem_cons_self ..)
  unfold Ki at hx
  simp only[Bool.and_eq_true,decide_eq_true_eq] at hx
  refine⟨⟨x.toNat,by omega⟩::l,?_⟩
  show x::xs=ve _::vl l
  rw[hl]
  congr 1
  show x=((x.toNat:Nat):Int)
  omega
theorem acm{D:FD}(x:El D):Ki D (ve x)=true:=by
 unfold Ki ve
 have:=x.2
 simp
section
variable{D:FD}{gen:Nat}(hg:D.aK gen){h:AH}{g:Addr}{fl:Nat}
theorem ar3(p:GF h g D gen)(x y:El D):M fl fn.dT [.pointer (some g),.int .i64 (ve x),.int .i64 (ve y)] h=some (.int .i64 (ve ((FD.aC hg).mul x y)),h):=by
 have:=aaq (fl:=fl) p (ve x) (ve y)
 rw[kc,kc] at this
 exact this
theorem azD(p:GF h g D gen)(x y:El D):M fl fn.gV [.pointer (some g),.int .i64 (ve x),.int .i64 (ve y)] h=some (.int .i64 (ve ((FD.aC hg).add x y)),h):=by
 have:=aao (fl:=fl) p (ve x) (ve y)
 rw[kc,kc] at this
 exact this
theorem awV(p:GF h g D gen)(x:El D):M fl fn.fG [.pointer (some g),.int .i64 (ve x)] h=some (.int .i64 (ve ((FD.aC hg).neg x)),h):=by
 have:=aap (fl:=fl) p (ve x)
 rw[kc] at this
 exact this
theorem azE(p:GF h g D gen)(x y:El D):M fl fn.jz [.pointer (some g),.int .i64 (ve x),.int .i64 (ve y)] h=some (.int .i64 (ve ((FD.aC hg).add x ((FD.aC hg).neg y))),h):=by
 have:=amj (fl:=fl) p (ve x) (ve y)
 rw[kc,kc] at this
 exact this
theorem azF(p:GF h g D gen)(x:El D)(h0:x≠(FD.aC hg).zero):M fl fn.gU [.pointer (some g),.int .i64 (ve x)] h=some (.tuple ⟨[.int .i64 (ve ((FD.aC hg).inv x)),.int .i64 0]⟩,h):=by
 have:=aar (fl:=fl) p (ve x) (by rw[kc];exact fun e=>h0 (Fin.ext e))
 rw[kc] at this
 exact this
theorem azG(p:GF h g D gen)(x y:El D)(h0:y≠(FD.aC hg).zero):M fl fn.jy [.pointer (some g),.int .i64 (ve x),.int .i64 (ve y)] h=some (.tuple ⟨[.int .i64 (ve ((FD.aC hg).mul x ((FD.aC hg).inv y))),.int .i64 0]⟩,h):=by
 have:=amk (fl:=fl) p (ve x) (ve y) (by rw[kc];exact fun e=>h0 (Fin.ext e))
 rw[kc,kc] at this
 exact this
theorem acn{R:Type}{k:Nat}(kn:an R){h0:AH}{b:Nat}{s:Sl}{xs:List (El D)}(p:GF h0 g D gen)(a:El D)(hs:SI h0 s (vl xs))(hb:h0.next≤b)(bL:fl≤b)(hm:xs.length<po):
 ∀(d i f:Nat) (h:AH),i+d=xs.length→d<f→OB h b (iv (vl ((FD.aC hg).pQ a (xs.take i))++List.replicate d 0))→aj h0 h→
 ∃h',zp M fl k kn f (some g) (ve a) ⟨some ⟨b,0,none⟩,xs.length,xs.length⟩ s (xs.length:Int) (i:Int) h=kn ⟨some ⟨b,0,none⟩,xs.length,xs.length⟩ h'∧OB h' b (iv (vl ((FD.aC hg).pQ a xs)))∧aj h0 h':=by
 intro d
 induction d with
 |zero=>
  intro i f h hi hf ho hq
  obtain⟨f,rfl⟩:∃j,f=j+1:=⟨f-1,by omega⟩
  rw[List.take_of_length_le (by omega),List.replicate_zero,List.append_nil] at ho
  refine⟨h,?_,ho,hq⟩
  show qQ M fl k _ _ _ _ _ _ _ _ h=_
  unfold qQ
  rw[if_neg (by simp;omega)]
 |succ d ih=>
  intro i f h hi hf ho hq
  obtain⟨f,rfl⟩:∃j,f=j+1:=⟨f-1,by omega⟩
  have mX:i<xs.length:=by omega
  have nu:(iv (vl ((FD.aC hg).pQ a (xs.take i))++List.replicate (d+1) 0)).set (0+i) (.int .i64 (ve ((FD.aC hg).mul a xs[i])))=iv (vl ((FD.aC hg).pQ a (xs.take (i+1)))++List.replicate d 0):=by
   rw[kI,Nat.zero_add,List.set_append_right _ _ (by simp[Fld.dQ];omega)]
   have:i-(vl ((FD.aC hg).pQ a (xs.take i))).length=0:=by simp[Fld.dQ];omega
   have hn:(FD.aC hg).pQ a (xs.take (i+1))=(FD.aC hg).pQ a (xs.take i)++[(FD.aC hg).mul a xs[i]]:=by unfold Fld.pQ;rw[List.take_succ_eq_append_getElem mX,List.map_append];rfl
   rw[this,List.replicate_succ,List.set_cons_zero,hn,zW,List.append_assoc]
   rfl
  obtain⟨h',e1,e2,e3⟩:=ih (i+1) f (h.put b (some (iv (vl ((FD.aC hg).pQ a (xs.take (i+1)))++List.replicate d 0)))) (by omega) (by omega) (ho.put _) (hq.put hb _)
  refine⟨h',?_,e2,e3⟩
  show qQ M fl k _ _ _ _ _ _ _ _ h=_
  unfold qQ
  rw[if_pos (by simp;omega),(hs.quiet hq).read (by omega) (by simp;omega)]
  simp only[Int.toNat_natCast,jV]
  rw[ah (ar3 hg (p.quiet hq) a xs[i])]
  simp only[asInt,if_true]
  rw[aU rfl (show i<xs.length from mX),ho.st bL (by simp[Fld.dQ];omega) rfl,nu,jm (by omega)]
  exact e1
theorem aco(p:GF h g D gen){s:Sl}{xs:List (El D)}(a:El D)(hs:SI h s (vl xs))(hm:xs.length≤65536)(bL:fl≤h.next):
 ∃h',M fl fn.jg [.pointer (some g),.int .i64 (ve a),.slice s.a s.l s.c] h=some (.slice (some ⟨h.next,0,none⟩) xs.length xs.length,h')∧OB h' h.next (iv (vl ((FD.aC hg).pQ a xs)))∧aj h h':=by
 have ho:=OB.alloc h (List.replicate xs.length (Value.int .i64 0))
 rw[show List.replicate xs.length (Value.int .i64 0)=iv (vl ((FD.aC hg).pQ a (xs.take 0))++List.replicate xs.length 0) by simp[iv,vl,Fld.pQ]] at ho
 obtain⟨h',e1,e2,e3⟩:=acn (fl:=fl) (k:=xs.length+1) hg (Lh M fl (xs.length+1) (fun(y6:Sl) q=>some (Value.slice y6.a y6.l y6.c,q))) p a hs (Nat.le_refl _) bL (by unfold po;omega) xs.length 0 (xs.length+1) _ (by omega) (by omega) ho (aj.alloc ..)
 refine⟨h',aR (k:=xs.length+1) (by decide) zQ ?_,e2,e3⟩
 rw[wj]
 unfold jg aln VY
 have hl:s.l=xs.length:=by rw[hs.len];simp
 rw[hl,jb (by unfold lk;omega),show List.replicate xs.length (Value.int .i64 0)=iv (vl ((FD.aC hg).pQ a (xs.take 0))++List.replicate xs.length 0) by simp[iv,vl,Fld.pQ]]
 exact e1
theorem amt{R:Type}{k:Nat}(kn:av R){h0:AH}{b cp:Nat}{tu:Sl}{u:List (El D)}(p:GF h0 g D gen)(a:El D)(hu:SI h0 tu (vl u))(hub:∀q,tu.a=some q→b≠q.block)(hgb:∀{h:AH},iI (some ⟨b,0,none⟩) h0 h→GF h g D gen)(bL:fl≤b)(hm:u.length<po)(v0:List (El D))(hv0:v0.length=u.length):
 ∀(d i f:Nat) (h:AH),i+d=u.length→d<f→OB h b (iv (vl ((FD.aC hg).bF (v0.take i) a (u.take i)++v0.drop i)))→iI (some ⟨b,0,none⟩) h0 h→
 ∃h',vr M fl k kn f (some g) ⟨some ⟨b,0,none⟩,u.length,cp⟩ (ve a) tu (u.length:Int) (i:Int) h=kn h'∧OB h' b (iv (vl ((FD.aC hg).bF v0 a u)))∧iI (some ⟨b,0,none⟩) h0 h':=by
 intro d
 induction d with
 |zero=>
  intro i f h hi hf ho hq
  obtain⟨f,rfl⟩:∃j,f=j+1:=⟨f-1,by omega⟩
  rw[List.take_of_length_le (by omega),List.take_of_length_le (by omega),List.drop_of_length_le (by omega),List.append_nil] at ho
  refine⟨h,?_,ho,hq⟩
  show qW M fl k _ _ _ _ _ _ _ _ h=_
  unfold qW wv
  rw[if_neg (by simp;omega)]
 |succ d ih=>
  intro i f h hi hf ho hq
  obtain⟨f,rfl⟩:∃j,f=j+1:=⟨f-1,by omega⟩
  have hiu:i<u.length:=by omega
  have hiv:i<v0.length:=by omega
  have hax:((FD.aC hg).bF (v0.take i) a (u.take i)).length=i:=by rw[Fld.bH _ _ _ _ (by simp;omega)];simp;omega
  have Nl:(FD.aC hg).bF (v0.take (i+1)) a (u.take (i+1))=(FD.aC hg).bF (v0.take i) a (u.take i)++[(FD.aC hg).add v0[i] ((FD.aC hg).mul a u[i])]:=by
   unfold Fld.bF
   rw[List.take_succ_eq_append_getElem hiv,List.take_succ_eq_append_getElem hiu,List.zipWith_append (by simp;omega)]
   rfl
  have amX:=(hu.Ao hq (fun q q' e1 e2=>by cases e2;exact hub q e1)).read (i:=(i:Int)) (by omega) (by simp;omega) (R:=R)
  have step:u[i]=(FD.aC hg).zero→(FD.aC hg).bF (v0.take i) a (u.take i)++v0.drop i=(FD.aC hg).bF (v0.take (i+1)) a (u.take (i+1))++v0.drop (i+1):=by
   intro hz
   rw[Nl,hz,Fld.mul_zero,(FD.aC hg).add_zero,List.drop_eq_getElem_cons hiv];simp
  have un:vr M fl k kn (f+1) (some g) ⟨some ⟨b,0,none⟩,u.length,cp⟩ (ve a) tu (u.length:Int) (i:Int) h=qW M fl k (vr M fl k kn f) kn (some g) ⟨some ⟨b,0,none⟩,u.length,cp⟩ (ve a) tu (u.length:Int) (i:Int) h:=rfl
  rw[un]
  unfold qW wv
  rw[if_pos (by simp;omega),amX]
  simp only[Int.toNat_natCast,jV]
  by_cases hz:u[i]=(FD.aC hg).zero
  ·obtain⟨h',e1,e2,e3⟩:=ih (i+1) f h (by omega) (by omega) (by rw[←step hz];exact ho) hq
   refine⟨h',?_,e2,e3⟩
   rw[if_neg (by simp[(eU hg _).2 hz])]
   unfold xL
   rw[jm (by omega)]
   exact e1
  ·have k8:h.cell b (0+i)=some (.int .i64 (ve v0[i])):=by
    refine ho.cell ?_
    rw[Nat.zero_add,FP _ _ (by simp;omega),jV]
    congr 3
    rw[List.getElem_append_right (by omega)]
    simp[hax]
   have nu:(iv (vl ((FD.aC hg).bF (v0.take i) a (u.take i)++v0.drop i))).set (0+i) (.int .i64 (ve ((FD.aC hg).add v0[i] ((FD.aC hg).mul a u[i]))))=iv (vl ((FD.aC hg).bF (v0.take (i+1)) a (u.take (i+1))++v0.drop (i+1))):=by
    rw[kI,ams,Nat.zero_add,List.set_append_right _ _ (by omega),hax,Nat.sub_self,List.drop_eq_getElem_cons hiv,List.set_cons_zero,Nl]
    simp
   obtain⟨h',e1,e2,e3⟩:=ih (i+1) f (h.put b (some (iv (vl ((FD.aC hg).bF (v0.take (i+1)) a (u.take (i+1))++v0.drop (i+1)))))) (by omega) (by omega) (ho.put _) (hq.trans (iI.put _))
   refine⟨h',?_,e2,e3⟩
   have hgh:=hgb hq
   rw[if_pos (by simp;exact fun e=>hz ((eU hg _).1 e)),aU rfl (show i<u.length from hiu)]
   dsimp only
   rw[ae k8,ah (ar3 hg hgh a u[i])]
   simp only[asInt,if_true]
   rw[ah (azD hg hgh v0[i] _)]
   simp only[if_true]
   rw[aU rfl (show i<u.length from hiu),ho.st bL (by simp;omega) rfl,nu]
   unfold xL
   rw[jm (by omega)]
   exact e1
theorem TN(p:GF h g D gen){b cp:Nat}{v u:List (El D)}{tu:Sl}(a:El D)(hv:OB h b (iv (vl v)))(hu:SI h tu (vl u))(hl:v.length=u.length)(hub:∀q,tu.a=some q→b≠q.block)(hgb:∀{h':AH},iI (some ⟨b,0,none⟩) h h'→GF h' g D gen)(hm:u.length≤65536)(bL:fl≤b):
 ∃h',M fl fn.m4 [.pointer (some g),.slice (some ⟨b,0,none⟩) u.length cp,.int .i64 (ve a),.slice tu.a tu.l tu.c] h=some (.tuple ⟨[]⟩,h')∧OB h' b (iv (vl ((FD.aC hg).bF v a u)))∧iI (some ⟨b,0,none⟩) h h':=by
 obtain⟨h',e1,e2,e3⟩:=amt (fl:=fl) (k:=u.length+1) (cp:=cp) hg (fun q=>some (Value.tuple ⟨[]⟩,q)) p a hu hub hgb bL (by unfold po;omega) v hl u.length 0 (u.length+1) h (by omega) (by omega) (by simpa [Fld.bF] using hv) (iI.refl _ _)
 refine⟨h',aR (k:=u.length+1) (by decide) Kg ?_,e2,e3⟩
 rw[C5 (p0:=some g) (p1:=⟨some ⟨b,0,none⟩,u.length,cp⟩)]
 unfold m4 aly V6 V5
 have:tu.l=u.length:=by rw[hu.len];simp
 rw[this]
 exact e1
end
theorem HG{fl:Nat}{h:AH}{s:Sl}{xs:List Int}(hs:SI h s xs)(iH:xs≠[])(hr:xs.length≤65536):
 ∃s' h',M fl fn.dR [.slice s.a s.l s.c] h=some (.slice s'.a s'.l s'.c,h')∧OV h.next h' s' (iv xs)∧aj h h':=by
 have hb:=OB.alloc h []
 have hq:=aj.alloc h []
 generalize dB:h.alloc []=h1 at hb hq
 obtain⟨s',h',a1,a2,a3⟩:=afH (R:=Value×AH) (fl:=fl) hb (hs.quiet hq) iH (by unfold lk;omega) (fun y q=>some (Value.slice y.a y.l y.c,q))
 refine⟨s',h',aR (k:=1) (by decide) pn ?_,a2.mono hq.1,hq.trans a3⟩
 rw[lQ]
 unfold dR Ze cU
 have hsn:s.a.isNone=false:=by
  obtain⟨a,h1,_⟩:=hs.2 0 (List.length_pos_iff.2 iH)
  rw[h1];rfl
 rw[if_neg (by simp[hsn]),dB]
 exact a1
end Go.Abs.P
end
section
namespace Go.Abs
structure RR(h:AH)(s:Sl)(rows:List (List Int)):Prop where
 len:s.l=rows.length
 get:∀(i:Nat) (hi:i<rows.length),∃a t,s.a=some a∧a.block<h.next∧h.cell a.block (a.off+i)=some (Sl.v t)∧SI h t rows[i]
theorem RR.quiet{h h':AH}{s:Sl}{rows:List (List Int)}(p:RR h s rows)(q:aj h h'):RR h' s rows:=⟨p.1,fun i hi=>by
 obtain⟨a,t,h1,h2,h3,h4⟩:=p.2 i hi
 exact⟨a,t,h1,Nat.lt_of_lt_of_le h2 q.1,by unfold AH.cell at h3 ⊢;rw[q.2 _ h2];exact h3,h4.quiet q⟩⟩
theorem RR.nil(h:AH):RR h ⟨none,0,0⟩ []:=⟨rfl,fun i hi=>by cases hi⟩
theorem RR.read{h:AH}{s:Sl}{rows:List (List Int)}(p:RR h s rows){i:Nat}(hi:i<rows.length):∃t,SI h t rows[i]∧∀{R:Type} (K:Sl→Option R),(idx 1 s (i:Int) fun q=>bC h q.block q.off K)=K t:=by
 obtain⟨a,t,h1,h2,h3,h4⟩:=p.2 i hi
 refine⟨t,h4,fun K=>?_⟩
 rw[aU h1 (by rw[p.1];exact hi)]
 exact ai h3 K
theorem acp{l:List Nat}(Uc:l.Nodup){i k:Nat}(Bl:i<l.length)(hk':k<l.length):((l.set i l[k]).set k l[i]).Nodup:=by
 have inj:∀a b (ha:a<l.length) (hb:b<l.length),l[a]=l[b]→a=b:=by
  intro a b ha hb e
  rcases Nat.lt_trichotomy a b with h1|h1|h1
  ·exact absurd e (List.pairwise_iff_getElem.1 Uc a b ha hb h1)
  ·exact h1
  ·exact absurd e.symm (List.pairwise_iff_getElem.1 Uc b a hb ha h1)
 unfold List.Nodup
 rw[List.pairwise_iff_getElem]
 intro a b ha hb hab e
 have ha':a<l.length:=by simpa using ha
 have rM:b<l.length:=by simpa using hb
 have ea:((l.set i l[k]).set k l[i])[a]=l[if k=a then i else if i=a then k else a]'(by split<;>(try split)<;>assumption):=by
  rw[List.getElem_set]
  by_cases c1:k=a
  ·simp[c1]
  ·rw[if_neg c1,List.getElem_set]
   by_cases c2:i=a
   ·simp[c1,c2]
   ·simp[c1,c2]
 have eb:((l.set i l[k]).set k l[i])[b]=l[if k=b then i else if i=b then k else b]'(by split<;>(try split)<;>assumption):=by
  rw[List.getElem_set]
  by_cases c1:k=b
  ·simp[c1]
  ·rw[if_neg c1,List.getElem_set]
   by_cases c2:i=b
   ·simp[c1,c2]
   ·simp[c1,c2]
 rw[ea,eb] at e
 have:=inj _ _ _ _ e
 split at this<;>split at this<;>(try split at this)<;>(try split at this)<;>omega
structure RRf(n0:Nat)(h:AH)(s:Sl)(rows:List (List Int)):Prop where
 rr:RR h s rows
 hd:∀a,s.a=some a→n0≤a.block
 row:∀(i:Nat) (_:i<rows.length) (a:Addr) (t:Sl),s.a=some a→h.cell a.block (a.off+i)=some (Sl.v t)→∀q,t.a=some q→n0≤q.block
theorem RRf.Ao{n0 c o:Nat}{t:Option Nat}{h h':AH}{s:Sl}{rows:List (List Int)}(p:RRf n0 h s rows)(q:iI (some ⟨c,o,t⟩) h h')(hc:c<n0):RRf n0 h' s rows:=by
 have key:∀(i:Nat) (hi:i<rows.length) (a:Addr),s.a=some a→a.block<h.next→h'.cell a.block (a.off+i)=h.cell a.block (a.off+i):=by
  intro i hi a ha hlt
  unfold AH.cell
  rw[q.2 _ hlt (fun b hb=>by cases hb;have:=p.hd a ha;simp only[ne_eq];omega)]
 refine⟨⟨p.rr.1,fun i hi=>?_⟩,p.hd,fun i hi a t ha ht=>?_⟩
 ·obtain⟨a,t,h1,h2,h3,h4⟩:=p.rr.2 i hi
  refine⟨a,t,h1,Nat.lt_of_lt_of_le h2 q.1,by rw[key i hi a h1 h2];exact h3,h4.Ao q fun a' b' ha' rM=>?_⟩
  cases rM
  have:=p.row i hi a t h1 h3 a' ha'
  simp only[ne_eq];omega
 ·obtain⟨a',t',h1,h2,_,_⟩:=p.rr.2 i hi
  rw[ha] at h1;cases h1
  rw[key i hi a ha h2] at ht
  exact p.row i hi a t ha ht
theorem RRf.quiet{n0:Nat}{h h':AH}{s:Sl}{rows:List (List Int)}(p:RRf n0 h s rows)(q:aj h h'):RRf n0 h' s rows:=by
 refine⟨p.rr.quiet q,p.hd,fun i hi a t ha ht=>?_⟩
 obtain⟨a',t',h1,h2,_,_⟩:=p.rr.2 i hi
 rw[ha] at h1;cases h1
 unfold AH.cell at ht
 rw[q.2 _ h2] at ht
 exact p.row i hi a t ha ht
theorem RRf.mono{n0 n1:Nat}{h:AH}{s:Sl}{rows:List (List Int)}(p:RRf n0 h s rows)(hn:n1≤n0):RRf n1 h s rows:=
 ⟨p.rr,fun a ha=>Nat.le_trans hn (p.hd a ha),fun i hi a t ha ht q hq=>Nat.le_trans hn (p.row i hi a t ha ht q hq)⟩
def hv(b:Nat×Nat)(r:List Int):Value:=.slice (some ⟨b.1,0,none⟩) r.length b.2
structure Mx(n0:Nat)(h:AH)(hb:Nat)(bs:List (Nat×Nat))(rows:List (List Int))(tail:List Value):Prop where
 len:bs.length=rows.length
 Nk:OB h hb (List.zipWith hv bs rows++tail)
 row:∀(i:Nat) (h1:i<bs.length) (h2:i<rows.length),OB h (bs[i]).1 (iv rows[i])
 gh:n0≤hb
 ge:∀b∈bs,n0≤b.1∧b.1≠hb
 nd:(bs.map Prod.fst).Nodup
section
variable{n0 hb:Nat}{h h':AH}{bs:List (Nat×Nat)}{rows:List (List Int)}{tail:List Value}
theorem Mx.quiet(p:Mx n0 h hb bs rows tail)(q:aj h h'):Mx n0 h' hb bs rows tail:=⟨p.len,p.Nk.quiet q,fun i h1 h2=>(p.row i h1 h2).quiet q,p.gh,p.ge,p.nd⟩
theorem Mx.Ao(p:Mx n0 h hb bs rows tail){c o:Nat}{t:Option Nat}(q:iI (some ⟨c,o,t⟩) h h')(h1:c≠hb)(h2:∀b∈bs,c≠b.1):Mx n0 h' hb bs rows tail:=
 ⟨p.len,q.ob p.Nk (fun a ha=>by cases ha;exact h1),fun i h3 h4=>q.ob (p.row i h3 h4) (fun a ha=>by cases ha;exact h2 _ (List.getElem_mem _)),p.gh,p.ge,p.nd⟩
theorem Mx.cell(p:Mx n0 h hb bs rows tail){i:Nat}(hi:i<rows.length):h.cell hb i=some (hv (bs[i]'(by rw[p.len];exact hi)) rows[i]):=by
 refine p.Nk.cell ?_
 rw[List.getElem?_append_left (by simp[p.len];exact hi),List.getElem?_zipWith,List.getElem?_eq_getElem (by rw[p.len];exact hi),List.getElem?_eq_getElem hi]
theorem Mx.ne(p:Mx n0 h hb bs rows tail){i j:Nat}(hi:i<bs.length)(hj:j<bs.length)(e:i≠j):(bs[i]).1≠(bs[j]).1:=by
 intro h
 have:=p.nd
 have Bl:i<(bs.map Prod.fst).length:=by simpa using hi
 have hj':j<(bs.map Prod.fst).length:=by simpa using hj
 rcases Nat.lt_or_gt_of_ne e with h1|h1
 ·exact List.pairwise_iff_getElem.1 this i j Bl hj' h1 (by simpa using h)
 ·exact List.pairwise_iff_getElem.1 this j i hj' Bl h1 (by simpa using h.symm)
theorem Ds{α β γ:Type}(f:α→β→γ)(a:List α)(b:List β)(i:Nat)(x:α)(y:β):(List.zipWith f a b).set i (f x y)=List.zipWith f (a.set i x) (b.set i y):=by
 induction a generalizing b i with
 |nil=>rfl
 |cons u a ih=>cases b with
  |nil=>cases i<;>rfl
  |cons v b=>cases i with
   |zero=>rfl
   |succ i=>simp[ih]
theorem Mx.setRow(p:Mx n0 h hb bs rows []){i nb cp:Nat}{r:List Int}(hi:i<rows.length)(o:OB h nb (iv r))(hn:n0≤nb)(h1:nb≠hb)(h2:∀b∈bs,nb≠b.1):
 Mx n0 (h.put hb (some ((List.zipWith hv bs rows++[]).set i (hv (nb,cp) r)))) hb (bs.set i (nb,cp)) (rows.set i r) []:=by
 refine⟨by simp[p.len],?_,?_,p.gh,?_,?_⟩
 ·rw[List.append_nil,List.append_nil,Ds]
  exact p.Nk.put _
 ·intro j Aa hj2
  by_cases e:i=j
  ·subst e
   simp only[List.getElem_set_self]
   exact o.X7 (fun e=>h1 e.symm) _
  ·rw[List.getElem_set_ne e,List.getElem_set_ne e]
   have asA:j<bs.length:=by simpa using Aa
   refine(p.row j asA (by simpa using hj2)).X7 (fun e=>(p.ge _ (List.getElem_mem asA)).2 e.symm) _
 ·intro b rM
  rcases List.mem_or_eq_of_mem_set rM with h3|rfl
  ·exact p.ge b h3
  ·exact⟨hn,h1⟩
 ·rw[List.map_set]
  have hnb:nb∉bs.map Prod.fst:=by
   intro hm
   obtain⟨b,Cf,mg⟩:=List.mem_map.1 hm
   exact h2 b Cf mg.symm
  have nu:∀(l:List Nat) (i:Nat),l.Nodup→nb∉l→(l.set i nb).Nodup:=by
   intro l
   induction l with
   |nil=>intro i _ _;simp
   |cons a l ih=>
    intro i Uc hnm
    rw[List.nodup_cons] at Uc
    simp only[List.mem_cons,not_or] at hnm
    cases i with
    |zero=>simp only[List.set_cons_zero,List.nodup_cons];exact⟨hnm.2,Uc.2⟩
    |succ i=>
     simp only[List.set_cons_succ,List.nodup_cons]
     refine⟨fun hm=>?_,ih i Uc.2 hnm.2⟩
     rcases List.mem_or_eq_of_mem_set hm with h3|h3
     ·exact Uc.1 h3
     ·exact hnm.1 h3.symm
  exact nu _ i p.nd hnb
theorem Mx.upd(p:Mx n0 h hb bs rows tail){i:Nat}{r:List Int}(hi:i<rows.length)(hl:r.length=rows[i].length)(o:OB h' (bs[i]'(by rw[p.len];exact hi)).1 (iv r)){oo:Nat}{t:Option Nat}(q:iI (some ⟨(bs[i]'(by rw[p.len];exact hi)).1,oo,t⟩) h h'):
 Mx n0 h' hb bs (rows.set i r) tail:=by
 have RW:i<bs.length:=by rw[p.len];exact hi
 refine⟨by simp[p.len],?_,?_,p.gh,p.ge,p.nd⟩
 ·have e:List.zipWith hv bs (rows.set i r)=List.zipWith hv bs rows:=by
   apply List.ext_getElem (by simp)
   intro j h1 h2
   simp only[List.getElem_zipWith]
   by_cases e:i=j
   ·subst e
    simp only[List.getElem_set_self,hv,hl]
   ·rw[List.getElem_set_ne e]
  rw[e]
  exact q.ob p.Nk (fun a ha=>by cases ha;exact(p.ge _ (List.getElem_mem RW)).2)
 ·intro j Aa hj2
  by_cases e:i=j
  ·subst e
   simp only[List.getElem_set_self]
   exact o
  ·rw[List.getElem_set_ne e]
   exact q.ob (p.row j Aa (by simpa using hj2)) (fun a ha=>by cases ha;exact p.ne RW Aa e)
theorem Mx.swap(p:Mx n0 h hb bs rows []){i k:Nat}(hi:i<rows.length)(hk:k<rows.length):
 Mx n0 ((h.put hb (some ((List.zipWith hv bs rows++[]).set i (hv (bs[k]'(by rw[p.len];exact hk)) rows[k])))).put hb (some (((List.zipWith hv bs rows++[]).set i (hv (bs[k]'(by rw[p.len];exact hk)) rows[k])).set k (hv (bs[i]'(by rw[p.len];exact hi)) rows[i])))) hb
  ((bs.set i (bs[k]'(by rw[p.len];exact hk))).set k (bs[i]'(by rw[p.len];exact hi))) ((rows.set i rows[k]).set k rows[i]) []:=by
 have RW:i<bs.length:=by rw[p.len];exact hi
 have hkb:k<bs.length:=by rw[p.len];exact hk
 refine⟨by simp[p.len],?_,?_,p.gh,?_,?_⟩
 ·rw[List.append_nil,List.append_nil,Ds,Ds]
  exact(p.Nk.put _).put _
 ·intro j Aa hj2
  have asA:j<bs.length:=by simpa using Aa
  have aB7:j<rows.length:=by simpa using hj2
  have fr:∀m (hm:m<bs.length) (hm2:m<rows.length),OB ((h.put hb (some ((List.zipWith hv bs rows++[]).set i (hv bs[k] rows[k])))).put hb (some (((List.zipWith hv bs rows++[]).set i (hv bs[k] rows[k])).set k (hv bs[i] rows[i])))) (bs[m]).1 (iv rows[m]):=by
   intro m hm hm2
   exact((p.row m hm hm2).X7 (fun e=>(p.ge _ (List.getElem_mem hm)).2 e.symm) _).X7 (fun e=>(p.ge _ (List.getElem_mem hm)).2 e.symm) _
  by_cases e:k=j
  ·subst e
   simp only[List.getElem_set_self]
   exact fr i RW hi
  ·simp only[List.getElem_set_ne e]
   by_cases e2:i=j
   ·subst e2
    simp only[List.getElem_set_self]
    exact fr k hkb hk
   ·simp only[List.getElem_set_ne e2]
    exact fr j asA aB7
 ·intro b rM
  rcases List.mem_or_eq_of_mem_set rM with h3|rfl
  ·rcases List.mem_or_eq_of_mem_set h3 with h4|rfl
   ·exact p.ge b h4
   ·exact p.ge _ (List.getElem_mem hkb)
  ·exact p.ge _ (List.getElem_mem RW)
 ·rw[List.map_set,List.map_set]
  have e1:(bs[k]).1=(bs.map Prod.fst)[k]'(by simpa using hkb):=by simp
  have e2:(bs[i]).1=(bs.map Prod.fst)[i]'(by simpa using RW):=by simp
  rw[e1,e2]
  exact acp p.nd (by simpa using RW) (by simpa using hkb)
end
end Go.Abs
namespace Go.Abs.P
open Go.Abs Go.Fld
theorem acq{R:Type}{fl k:Nat}(kn:an R){h0:AH}{hb n0:Nat}{s:Sl}{rows:List (List Int)}(hs:RR h0 s rows)(hn0:h0.next=n0)(hhb:n0≤hb)(bL:fl≤n0)(hw:∀r∈rows,r≠[]∧r.length≤65536)(hm:rows.length<po):
 ∀(d i f:Nat) (bs:List (Nat×Nat)) (h:AH),i+d=rows.length→d<f→Mx n0 h hb bs (rows.take i) (List.replicate d (Value.slice none 0 0))→aj h0 h→
 ∃h' bs',zt M fl k kn f ⟨some ⟨hb,0,none⟩,rows.length,rows.length⟩ s (rows.length:Int) (i:Int) h=kn ⟨some ⟨hb,0,none⟩,rows.length,rows.length⟩ h'∧Mx n0 h' hb bs' rows []∧aj h0 h':=by
 intro d
 induction d with
 |zero=>
  intro i f bs h hi hf ho hq
  obtain⟨f,rfl⟩:∃j,f=j+1:=⟨f-1,by omega⟩
  rw[List.take_of_length_le (by omega)] at ho
  refine⟨h,bs,?_,ho,hq⟩
  show qS M fl k _ _ _ _ _ _ h=_
  unfold qS
  rw[if_neg (by simp;omega)]
 |succ d ih=>
  intro i f bs h hi hf ho hq
  obtain⟨f,rfl⟩:∃j,f=j+1:=⟨f-1,by omega⟩
  have mX:i<rows.length:=by omega
  have hwi:=hw _ (List.getElem_mem mX)
  obtain⟨t,ht1,ht2⟩:=(hs.quiet hq).read mX
  obtain⟨s',h1,c1,c2,c3⟩:=HG (fl:=fl) ht1 hwi.1 hwi.2
  have T9:=ho.quiet c3
  have z8:=hq.trans c3
  have hlen:=ho.len
  simp only[List.length_take,Nat.min_eq_left (show i≤rows.length by omega)] at hlen
  have hn:=hq.1
  rcases c2 with⟨hz,_⟩|⟨b,c,g1,g2,g3,g4,rfl,g6⟩
  ·exact absurd (by simpa [iv] using hz) hwi.1
  ·have hbl:∀b'∈bs,b'.1<h.next:=by
    intro b' rM
    obtain⟨j,hj,rfl⟩:=List.getElem_of_mem rM
    exact(ho.row j hj (by simp;omega)).1
   have hhl:=ho.Nk.1
   have hbh:b≠hb:=by omega
   have nu:(List.zipWith hv bs (rows.take i)++List.replicate (d+1) (Value.slice none 0 0)).set (0+i) (.slice (some ⟨b,0,none⟩) (iv rows[i]).length c)=List.zipWith hv (bs++[(b,c)]) (rows.take (i+1))++List.replicate d (Value.slice none 0 0):=by
    rw[Nat.zero_add,List.set_append_right _ _ (by simp;omega)]
    have:i-(List.zipWith hv bs (rows.take i)).length=0:=by simp;omega
    rw[this,List.replicate_succ,List.set_cons_zero,List.take_succ_eq_append_getElem mX,List.zipWith_append (by simp;omega),List.append_assoc]
    simp[hv]
   have hmx:Mx n0 (h1.put hb (some (List.zipWith hv (bs++[(b,c)]) (rows.take (i+1))++List.replicate d (Value.slice none 0 0)))) hb (bs++[(b,c)]) (rows.take (i+1)) (List.replicate d (Value.slice none 0 0)):=by
    refine⟨by simp;omega,T9.Nk.put _,?_,ho.gh,?_,?_⟩
    ·intro j Aa hj2
     have hj:j≤i:=by simp at hj2;omega
     by_cases e:j=i
     ·subst e
      rw[List.getElem_append_right (by omega)]
      simp only[hlen,Nat.sub_self,List.getElem_cons_zero,List.getElem_take]
      exact OB.X7 ⟨g2,g6⟩ (fun e=>hbh e.symm) _
     ·rw[List.getElem_append_left (by omega)]
      have:=T9.row j (by omega) (by simp;omega)
      simp only[List.getElem_take] at this ⊢
      exact this.X7 (fun e=>(ho.ge _ (List.getElem_mem _)).2 e.symm) _
    ·intro b' rM
     rcases List.mem_append.1 rM with rM|rM
     ·exact ho.ge b' rM
     ·simp only[List.mem_singleton] at rM
      subst rM
      exact⟨by simp only;omega,hbh⟩
    ·rw[List.map_append,List.nodup_append]
     refine⟨ho.nd,by simp,?_⟩
     intro x hx y hy
     simp only[List.map_cons,List.map_nil,List.mem_singleton] at hy
     obtain⟨b',rM,rfl⟩:=List.mem_map.1 hx
     have:=hbl b' rM
     omega
   obtain⟨h',bs',e1,e2,e3⟩:=ih (i+1) f (bs++[(b,c)]) _ (by omega) (by omega) hmx (z8.put (by omega) _)
   refine⟨h',bs',?_,e2,e3⟩
   show qS M fl k _ _ _ _ _ _ h=_
   unfold qS
   rw[if_pos (by simp;omega),ht2,ah c1]
   simp only[bB]
   rw[aU rfl (show i<rows.length from mX),T9.Nk.st (by omega) (by simp;omega) rfl,nu,jm (by omega)]
   exact e1
theorem acr{fl:Nat}{h:AH}{s:Sl}{rows:List (List Int)}(hs:RR h s rows)(bL:fl≤h.next)(hw:∀r∈rows,r≠[]∧r.length≤65536)(hm:rows.length≤65536):
 ∃h' bs,M fl fn.lA [.slice s.a s.l s.c] h=some (.slice (some ⟨h.next,0,none⟩) rows.length rows.length,h')∧Mx h.next h' h.next bs rows []∧aj h h':=by
 have ho:=OB.alloc h (List.replicate rows.length (Value.slice none 0 0))
 obtain⟨h',bs,e1,e2,e3⟩:=acq (fl:=fl) (k:=rows.length+1) (Li M fl (rows.length+1) (fun(y6:Sl) q=>some (Value.slice y6.a y6.l y6.c,q))) hs rfl (Nat.le_refl _) bL hw (by unfold po;omega) rows.length 0 (rows.length+1) [] _ (by omega) (by omega)
  ⟨by simp,by simpa using ho,fun i h1 h2=>absurd h1 (by simp),Nat.le_refl _,fun b hb=>absurd hb (by simp),by simp⟩ (aj.alloc ..)
 refine⟨h',bs,aR (k:=rows.length+1) (by decide) Di ?_,e2,e3⟩
 rw[zu]
 unfold lA alr V3
 rw[hs.len,jb (by unfold lk;omega)]
 exact e1
end Go.Abs.P
end
section
namespace Go.Abs
theorem auK(fl:Nat)(a:Addr)(l c:Nat)(p1 p2:Addr)(h:AH):pz noE fl alW ([.slice (some a) l c,.pointer (some p1),.pointer (some p2)]++List.replicate 15 undef) h (fun _ h=>some (Value.tuple ⟨[]⟩,h))=
 aF .i64 h p2.block p2.off fun n1=>aF .i64 h p1.block p1.off fun n2=>aF .i64 h p1.block p1.off fun n3=>idx 1 ⟨some a,l,c⟩ n3 fun p4=>bC h p4.block p4.off fun s5=>aF .i64 h p2.block p2.off fun n6=>idx 1 ⟨some a,l,c⟩ n6 fun p7=>bC h p7.block p7.off fun s8=>
  idx 1 ⟨some a,l,c⟩ n1 fun p9=>st fl h p9 [.slice s5.a s5.l s5.c] fun FC=>idx 1 ⟨some a,l,c⟩ n2 fun p11=>st fl FC p11 [.slice s8.a s8.l s8.c] fun Tb=>some (Value.tuple ⟨[]⟩,Tb):=by kernel_rfl
end Go.Abs
namespace Go.Abs.P
open Go.Abs Go.Fld
structure ES{D:FD}(h0 h:AH)(g:Addr)(hb:Nat)(bs:List (Nat×Nat))(rows:List (List (El D)))(bg br ba:Nat):Prop where
 q:aj h0 h
 mx:Mx h0.next h hb bs (rows.map vl) []
 og:OB h bg [.pointer (some g)]
 TV:OB h br [.slice (some ⟨hb,0,none⟩) rows.length rows.length]
 oa:OB h ba [.slice none 0 0]
 ng:bg≠hb∧br≠hb∧ba≠hb
 nb:∀b∈bs,bg≠b.1∧br≠b.1∧ba≠b.1
 gb:h0.next≤bg∧h0.next≤br∧h0.next≤ba
section
variable{D:FD}{gen:Nat}(hg:D.aK gen){h0 h h':AH}{g:Addr}{fl hb bg br ba:Nat}{bs:List (Nat×Nat)}{rows:List (List (El D))}
theorem ES.len(p:ES h0 h g hb bs rows bg br ba):bs.length=rows.length:=by have:=p.mx.len;simpa using this
theorem ES.quiet(p:ES h0 h g hb bs rows bg br ba)(q:aj h h'):ES h0 h' g hb bs rows bg br ba:=
 ⟨p.q.trans q,p.mx.quiet q,p.og.quiet q,p.TV.quiet q,p.oa.quiet q,p.ng,p.nb,p.gb⟩
structure For{D:FD}(h0:AH)(hb:Nat)(bs:List (Nat×Nat))(bg br ba c:Nat):Prop where
 n0:h0.next≤c
 hd:c≠hb
 row:∀b∈bs,c≠b.1
 g:c≠bg
 r:c≠br
 a:c≠ba
theorem ES.Ao(p:ES h0 h g hb bs rows bg br ba){c o:Nat}{t:Option Nat}(f:For (D:=D) h0 hb bs bg br ba c)(q:iI (some ⟨c,o,t⟩) h h'):ES h0 h' g hb bs rows bg br ba:=
 ⟨q.quiet p.q (fun a ha=>by cases ha;exact f.n0),p.mx.Ao q f.hd f.row,q.ob p.og (fun a ha=>by cases ha;exact f.g),q.ob p.TV (fun a ha=>by cases ha;exact f.r),q.ob p.oa (fun a ha=>by cases ha;exact f.a),p.ng,p.nb,p.gb⟩
theorem ES.fresh(p:ES h0 h g hb bs rows bg br ba):For (D:=D) h0 hb bs bg br ba h.next:=
 ⟨p.q.1,fun e=>by have:=p.mx.Nk.1;omega,fun b rM e=>by
   obtain⟨j,hj,rfl⟩:=List.getElem_of_mem rM
   have:=(p.mx.row j hj (by rw[←p.mx.len];exact hj)).1;omega,fun e=>by have:=p.og.1;omega,fun e=>by have:=p.TV.1;omega,fun e=>by have:=p.oa.1;omega⟩
theorem ES.cell(p:ES h0 h g hb bs rows bg br ba){i:Nat}(hi:i<rows.length):h.cell hb (0+i)=some (hv (bs[i]'(by rw[p.len];exact hi)) (vl rows[i])):=by
 rw[Nat.zero_add,p.mx.cell (i:=i) (by simpa using hi)];simp
theorem ES.afI(p:ES h0 h g hb bs rows bg br ba){i:Nat}(hi:i<rows.length):OB h (bs[i]'(by rw[p.len];exact hi)).1 (iv (vl rows[i])):=by
 have:=p.mx.row i (by rw[p.len];exact hi) (by simpa using hi)
 simpa using this
def fP(br ba:Nat):Value:=.func (.func fn.eL) ⟨[]⟩ ⟨[.pointer (some ⟨br,0,none⟩),.pointer (some ⟨ba,0,none⟩)]⟩
theorem LJ{R:Type}{n:Nat}{s:Sl}{fid:Nat}{avx:List Value}(o1:OB h br [.slice s.a s.l s.c])(o2:OB h' ba [.slice none 0 0])(hs:M fl fid ([.slice s.a s.l s.c]++avx) h=some (.tuple ⟨[]⟩,h'))(K:Value→AH→Option R):
 kE M fl (fP br ba) [.func (.func fid) ⟨[]⟩ ⟨avx⟩] h K=K (.tuple ⟨[]⟩) h':=by
 have:M fl fn.eL [.func (.func fid) ⟨[]⟩ ⟨avx⟩,.pointer (some ⟨br,0,none⟩),.pointer (some ⟨ba,0,none⟩)] h=some (.tuple ⟨[]⟩,h'):=by
  refine aR (k:=1) (by decide) Dl ?_
  rw[A8]
  unfold eL alU
  dsimp only
  rw[ai (s:=s) (o1.cell rfl)]
  unfold kE
  simp only[List.nil_append]
  rw[hs]
  simp only[bj,ch]
  rw[ai (s:=⟨none,0,0⟩) (o2.cell rfl),if_neg (by simp)]
 unfold kE fP
 simp only[List.nil_append,List.singleton_append]
 rw[this]
theorem ar4(rows:List (List (El D))){i k:Nat}(hi:i<rows.length)(hk:k<rows.length):(Fld.DN rows i k).map vl=((rows.map vl).set i (vl rows[k])).set k (vl rows[i]):=by
 unfold Fld.DN
 rw[List.map_set,List.map_set,List.getD_eq_getElem?_getD,List.getElem?_eq_getElem hk,List.getD_eq_getElem?_getD,List.getElem?_eq_getElem hi]
 rfl
theorem ahs(p:ES h0 h g hb bs rows bg br ba){b1 b2 i k:Nat}(o1:OB h b1 [.int .i64 (i:Int)])(o2:OB h b2 [.int .i64 (k:Int)])(n1:b1≠hb)(n2:b2≠hb)(hi:i<rows.length)(hk:k<rows.length)(bL:fl≤h0.next):
 ∃h' bs',M fl fn.bG [.slice (some ⟨hb,0,none⟩) rows.length rows.length,.pointer (some ⟨b2,0,none⟩),.pointer (some ⟨b1,0,none⟩)] h=some (.tuple ⟨[]⟩,h')∧
  ES h0 h' g hb bs' (Fld.DN rows i k) bg br ba∧iI (some ⟨hb,0,none⟩) h h'∧(∀b∈bs',b∈bs):=by
 have RW:i<bs.length:=by rw[p.len];exact hi
 have hkb:k<bs.length:=by rw[p.len];exact hk
 have hsw:=p.mx.swap (i:=i) (k:=k) (by simpa using hi) (by simpa using hk)
 simp only[List.getElem_map] at hsw
 have hgh:=p.mx.gh
 obtain⟨H1,hH1⟩:∃H1,H1=h.put hb (some ((List.zipWith hv bs (rows.map vl)++[]).set i (hv bs[k] (vl rows[k])))):=⟨_,rfl⟩
 obtain⟨H2,hH2⟩:∃H2,H2=H1.put hb (some (((List.zipWith hv bs (rows.map vl)++[]).set i (hv bs[k] (vl rows[k]))).set k (hv bs[i] (vl rows[i])))):=⟨_,rfl⟩
 rw[←hH1,←hH2] at hsw
 have Cf:iI (some ⟨hb,0,none⟩) h H1:=by rw[hH1];exact iI.put _
 have mg:iI (some ⟨hb,0,none⟩) H1 H2:=by rw[hH2];exact iI.put _
 have LP:=Cf.trans mg
 have aba:∀b∈(bs.set i bs[k]).set k bs[i],b∈bs:=by
  intro b rM
  rcases List.mem_or_eq_of_mem_set rM with h3|rfl
  ·rcases List.mem_or_eq_of_mem_set h3 with h4|rfl
   ·exact h4
   ·exact List.getElem_mem hkb
  ·exact List.getElem_mem RW
 refine⟨H2,(bs.set i bs[k]).set k bs[i],auE ?_,⟨LP.quiet p.q (fun a ha=>by cases ha;exact hgh),by rw[ar4 rows hi hk];exact hsw,LP.ob p.og (fun a ha=>by cases ha;exact p.ng.1.symm),?_,LP.ob p.oa (fun a ha=>by cases ha;exact p.ng.2.2.symm),p.ng,fun b rM=>p.nb b (aba b rM),p.gb⟩,LP,aba⟩
 ·unfold swE
  have e1:Nat.beq fn.bG fn.bG=true:=rfl
  rw[e1]
  simp only[cond_true]
  have e2:(Nat.beq hb b2||Nat.beq hb b1)=false:=by
   have q1:Nat.beq hb b2=false:=by cases hq:Nat.beq hb b2 with|false=>rfl|true=>exact absurd (Nat.eq_of_beq_eq_true hq).symm n2
   have q2:Nat.beq hb b1=false:=by cases hq:Nat.beq hb b1 with|false=>rfl|true=>exact absurd (Nat.eq_of_beq_eq_true hq).symm n1
   rw[q1,q2];rfl
  rw[e2]
  simp only[cond_false]
  refine(auK ..).trans ?_
  have ci:=p.cell hi
  have ck:=p.cell hk
  rw[ae (o1.cell rfl),ae (o2.cell rfl),ae (o2.cell rfl),aU rfl (show k<rows.length from hk)]
  dsimp only
  rw[ai (s:=⟨some ⟨(bs[k]).1,0,none⟩,(vl rows[k]).length,(bs[k]).2⟩) ck,ae (o1.cell rfl),aU rfl (show i<rows.length from hi)]
  dsimp only
  rw[ai (s:=⟨some ⟨(bs[i]).1,0,none⟩,(vl rows[i]).length,(bs[i]).2⟩) ci,aU rfl (show i<rows.length from hi),p.mx.Nk.st (by omega) (by simp[p.len];omega) rfl,aU rfl (show k<rows.length from hk)]
  have e3:(List.zipWith hv bs (rows.map vl)++[]).set (0+i) (.slice (some ⟨(bs[k]).1,0,none⟩) (vl rows[k]).length (bs[k]).2)=(List.zipWith hv bs (rows.map vl)++[]).set i (hv bs[k] (vl rows[k])):=by rw[Nat.zero_add];rfl
  rw[e3,←hH1]
  have T9:OB H1 hb ((List.zipWith hv bs (rows.map vl)++[]).set i (hv bs[k] (vl rows[k]))):=by rw[hH1];exact p.mx.Nk.put _
  rw[T9.st (by omega) (by simp[p.len];omega) rfl]
  have e4:((List.zipWith hv bs (rows.map vl)++[]).set i (hv bs[k] (vl rows[k]))).set (0+k) (.slice (some ⟨(bs[i]).1,0,none⟩) (vl rows[i]).length (bs[i]).2)=((List.zipWith hv bs (rows.map vl)++[]).set i (hv bs[k] (vl rows[k]))).set k (hv bs[i] (vl rows[i])):=by rw[Nat.zero_add];rfl
  rw[e4,←hH2]
 ·have e5:(Fld.DN rows i k).length=rows.length:=Fld.kG ..
  rw[e5]
  exact LP.ob p.TV (fun a ha=>by cases ha;exact p.ng.2.1.symm)
theorem aht(gf:GF h0 g D gen)(p:ES h0 h g hb bs rows bg br ba){b1 b2 i:Nat}(a:El D)(o1:OB h b1 [.int .i64 (i:Int)])(o2:OB h b2 [.int .i64 (ve a)])(hi:i<rows.length)(bL:fl≤h0.next)(hw:rows[i].length≤65536):
 ∃h' bs',M fl fn.eM [.slice (some ⟨hb,0,none⟩) rows.length rows.length,.pointer (some ⟨bg,0,none⟩),.pointer (some ⟨b2,0,none⟩),.pointer (some ⟨b1,0,none⟩)] h=some (.tuple ⟨[]⟩,h')∧
  ES h0 h' g hb bs' (rows.set i ((FD.aC hg).pQ a rows[i])) bg br ba∧iI (some ⟨hb,0,none⟩) h h'∧(∀b∈bs',b∈bs∨h.next≤b.1):=by
 have RW:i<bs.length:=by rw[p.len];exact hi
 have hrow:=p.afI hi
 have hsi:=hrow.si none (bs[i]).2
 obtain⟨h1,s1,s2,s3⟩:=aco (fl:=h.next) hg (gf.quiet p.q) a hsi hw (Nat.le_refl _)
 have p1:=p.quiet s3
 have hf:=p.fresh
 have nu:=p1.mx.setRow (i:=i) (nb:=h.next) (cp:=rows[i].length) (r:=vl ((FD.aC hg).pQ a rows[i])) (by simpa using hi) s2 p.q.1 hf.hd hf.row
 obtain⟨H1,hH1⟩:∃H1,H1=h1.put hb (some ((List.zipWith hv bs (rows.map vl)++[]).set i (hv (h.next,rows[i].length) (vl ((FD.aC hg).pQ a rows[i]))))):=⟨_,rfl⟩
 rw[←hH1] at nu
 have Cf:iI (some ⟨hb,0,none⟩) h H1:=(iI.P5 s3).trans (by rw[hH1];exact iI.put _)
 have aba:∀b∈bs.set i (h.next,rows[i].length),b∈bs∨h.next≤b.1:=by
  intro b rM
  rcases List.mem_or_eq_of_mem_set rM with h3|rfl
  ·exact .inl h3
  ·exact .inr (Nat.le_refl _)
 refine⟨H1,bs.set i (h.next,rows[i].length),aR (k:=1) (by decide) Dm ?_,⟨Cf.quiet p.q (fun a ha=>by cases ha;exact p.mx.gh),?_,Cf.ob p.og (fun a ha=>by cases ha;exact p.ng.1.symm),?_,Cf.ob p.oa (fun a ha=>by cases ha;exact p.ng.2.2.symm),p.ng,?_,p.gb⟩,Cf,aba⟩
 ·rw[A9 (p0:=⟨some ⟨hb,0,none⟩,rows.length,rows.length⟩)]
  unfold eM alX
  dsimp only
  rw[ae (o1.cell rfl),vG (p.og.cell rfl),ae (o2.cell rfl),ae (o1.cell rfl),aU rfl (show i<rows.length from hi)]
  dsimp only
  have e0:(vl rows[i]).length=rows[i].length:=by simp
  rw[ai (s:=⟨some ⟨(bs[i]).1,0,none⟩,(vl rows[i]).length,(bs[i]).2⟩) (p.cell hi),ah s1]
  simp only[bB]
  rw[aU rfl (show i<rows.length from hi),p1.mx.Nk.st (by have:=p.mx.gh;omega) (by simp[p.len];omega) rfl]
  have e3:(List.zipWith hv bs (rows.map vl)++[]).set (0+i) (.slice (some ⟨h.next,0,none⟩) rows[i].length rows[i].length)=(List.zipWith hv bs (rows.map vl)++[]).set i (hv (h.next,rows[i].length) (vl ((FD.aC hg).pQ a rows[i]))):=by
   rw[Nat.zero_add];simp[hv,Fld.dQ]
  rw[e3,←hH1]
 ·rw[List.map_set];exact nu
 ·rw[List.length_set]
  exact Cf.ob p.TV (fun a ha=>by cases ha;exact p.ng.2.1.symm)
 ·intro b rM
  rcases List.mem_or_eq_of_mem_set rM with h3|rfl
  ·exact p.nb b h3
  ·exact⟨fun e=>hf.g e.symm,fun e=>hf.r e.symm,fun e=>hf.a e.symm⟩
theorem ahu(gf:GF h0 g D gen)(p:ES h0 h g hb bs rows bg br ba){b1 b2 b3 i j:Nat}(x:El D)(o1:OB h b1 [.int .i64 (i:Int)])(o2:OB h b2 [.int .i64 (j:Int)])(o3:OB h b3 [.int .i64 (ve x)])(hi:i<rows.length)(hj:j<rows.length)(Xv:j≠i)(bL:fl≤h0.next)
 (hw:rows[i].length≤65536) (hl:rows[j].length=rows[i].length):
 ∃h',M fl fn.eO [.slice (some ⟨hb,0,none⟩) rows.length rows.length,.pointer (some ⟨bg,0,none⟩),.pointer (some ⟨b2,0,none⟩),.pointer (some ⟨b3,0,none⟩),.pointer (some ⟨b1,0,none⟩)] h=some (.tuple ⟨[]⟩,h')∧
  ES h0 h' g hb bs (rows.set j ((FD.aC hg).bF rows[j] ((FD.aC hg).neg x) rows[i])) bg br ba∧iI (some ⟨(bs[j]'(by rw[p.len];exact hj)).1,0,none⟩) h h':=by
 have RW:i<bs.length:=by rw[p.len];exact hi
 have hjb:j<bs.length:=by rw[p.len];exact hj
 have hri:=p.afI hi
 have hrj:=p.afI hj
 have hbj:=p.mx.ge _ (List.getElem_mem hjb)
 have hnj:=p.nb _ (List.getElem_mem hjb)
 have hgh:=gf.quiet p.q
 obtain⟨h',a1,a2,a3⟩:=TN (fl:=fl) (cp:=(bs[j]).2) (tu:=⟨some ⟨(bs[i]).1,0,none⟩,(vl rows[i]).length,(bs[i]).2⟩) hg hgh ((FD.aC hg).neg x) hrj (hri.si none (bs[i]).2) hl (fun q hq=>by cases hq;exact p.mx.ne hjb RW Xv)
  (fun {h''} LP=>gf.quiet (LP.quiet p.q (fun a ha=>by cases ha;exact hbj.1))) hw (by omega)
 have hlen:((FD.aC hg).bF rows[j] ((FD.aC hg).neg x) rows[i]).length=rows[j].length:=Fld.bH _ _ _ _ hl
 refine⟨h',aR (k:=1) (by decide) Dn ?_,⟨a3.quiet p.q (fun a ha=>by cases ha;exact hbj.1),?_,a3.ob p.og (fun a ha=>by cases ha;exact hnj.1.symm),?_,a3.ob p.oa (fun a ha=>by cases ha;exact hnj.2.2.symm),p.ng,p.nb,p.gb⟩,a3⟩
 ·rw[Ba (p0:=⟨some ⟨hb,0,none⟩,rows.length,rows.length⟩)]
  unfold eO alZ
  dsimp only
  rw[vG (p.og.cell rfl),ae (o2.cell rfl),aU rfl (show j<rows.length from hj)]
  dsimp only
  rw[ai (s:=⟨some ⟨(bs[j]).1,0,none⟩,(vl rows[j]).length,(bs[j]).2⟩) (p.cell hj),vG (p.og.cell rfl),ae (o3.cell rfl),ah (awV hg hgh x)]
  simp only[asInt,if_true]
  rw[ae (o1.cell rfl),aU rfl (show i<rows.length from hi)]
  dsimp only
  rw[ai (s:=⟨some ⟨(bs[i]).1,0,none⟩,(vl rows[i]).length,(bs[i]).2⟩) (p.cell hi)]
  have e0:(vl rows[j]).length=rows[i].length:=by simp[hl]
  try dsimp only
  rw[e0,ah a1]
  rfl
 ·rw[List.map_set]
  refine p.mx.upd (i:=j) (by simpa using hj) (by simp[hlen]) a2 a3
 ·rw[List.length_set]
  exact a3.ob p.TV (fun a ha=>by cases ha;exact hnj.2.1.symm)
end
end Go.Abs.P
end
section
namespace Go.Abs
theorem Bk{fl:Nat}{h:AH}(v0 v:Value)(bL:fl≤h.next)(hv:yp v=true):∃h2,(∀{R:Type} (K:Nat→AH→Option R),(cU h [v0] fun b h1=>st fl h1 ⟨b,0,none⟩ [v] fun h2=>K b h2)=K h.next h2)∧OB h2 h.next [v]∧aj h h2:=by
 have o:=OB.alloc h [v0]
 refine⟨(h.alloc [v0]).put h.next (some [v]),fun K=>?_,o.put _,(aj.alloc ..).put (Nat.le_refl _) _⟩
 show st fl (h.alloc [v0]) ⟨h.next,0,none⟩ [v] _=_
 rw[o.st bL (by simp) hv];rfl
end Go.Abs
namespace Go.Fld.Fld
variable{α:Type}(F:Fld α)
def iG(rows:List (List α))(p c i:Nat):List (List α):=rows.mapIdx fun j r=>if j=p∨¬j<i then r else F.bF r (F.neg (r.getD c F.zero)) (rows.getD p [])
theorem Dt(rows:List (List α))(p c i:Nat):(F.iG rows p c i).length=rows.length:=by simp[iG]
theorem TO(rows:List (List α))(p c:Nat):F.iG rows p c 0=rows:=by
 apply List.ext_getElem (by simp[iG])
 intro j h1 h2
 simp[iG]
theorem aaz(rows:List (List α))(p c:Nat):F.iG rows p c rows.length=F.PZ rows p c:=by
 apply List.ext_getElem (by simp[iG,PZ])
 intro j h1 h2
 have hj:j<rows.length:=by simpa [iG] using h1
 have hn:¬rows.length≤j:=by omega
 simp[iG,PZ,hn]
theorem Du(rows:List (List α))(p c i:Nat){j:Nat}(hj:j<rows.length)(h:j=p∨i≤j):(F.iG rows p c i)[j]'(by rw[Dt];exact hj)=rows[j]:=by
 simp only[iG,List.getElem_mapIdx]
 rw[if_pos (by omega)]
theorem Ez(rows:List (List α))(p c i:Nat)(h:i=p∨∃hi:i<rows.length,rows[i].getD c F.zero=F.zero∧(rows[i]).length=(rows.getD p []).length):F.iG rows p c (i+1)=F.iG rows p c i:=by
 apply List.ext_getElem (by simp[iG])
 intro j h1 h2
 simp only[iG,List.getElem_mapIdx]
 by_cases e:j=i
 ·subst e
  rcases h with rfl|⟨hi,hz,hl⟩
  ·simp
  ·by_cases hp:j=p
   ·subst hp;simp
   ·rw[if_neg (by omega),if_pos (by omega),hz,F.neg_zero,F.yB _ _ hl]
 ·by_cases hp:j=p
  ·rw[if_pos (.inl hp),if_pos (.inl hp)]
  ·by_cases hj:j<i
   ·rw[if_neg (by omega),if_neg (by omega)]
   ·rw[if_pos (by omega),if_pos (by omega)]
theorem aaA(rows:List (List α))(p c i:Nat)(hi:i<rows.length)(hp:i≠p):(F.iG rows p c i).set i (F.bF rows[i] (F.neg (rows[i].getD c F.zero)) (rows.getD p []))=F.iG rows p c (i+1):=by
 apply List.ext_getElem (by simp[iG])
 intro j h1 h2
 rw[List.getElem_set]
 by_cases e:i=j
 ·subst e
  rw[if_pos rfl]
  simp only[iG,List.getElem_mapIdx]
  rw[if_neg (by omega)]
 ·rw[if_neg e]
  simp only[iG,List.getElem_mapIdx]
  by_cases hj:j=p
  ·rw[if_pos (.inl hj),if_pos (.inl hj)]
  ·by_cases hlt:j<i
   ·rw[if_neg (by omega),if_neg (by omega)]
   ·rw[if_pos (by omega),if_pos (by omega)]
theorem amu(rows:List (List α)){i:Nat}(hi:i<rows.length):DN rows i i=rows:=by
 unfold DN
 rw[List.set_set,List.getD_eq_getElem?_getD,List.getElem?_eq_getElem hi,Option.getD_some,List.set_getElem_self]
theorem va{rows:List (List α)}{i:Nat}(hi:i<rows.length):rows.getD i []=rows[i]:=by rw[List.getD_eq_getElem?_getD,List.getElem?_eq_getElem hi];rfl
theorem WX{rows:List (List α)}{i c:Nat}(hi:i<rows.length)(hc:c<rows[i].length):F.nX rows i c=rows[i][c]:=by
 unfold nX
 rw[va hi,List.getD_eq_getElem?_getD,List.getElem?_eq_getElem hc];rfl
end Go.Fld.Fld
namespace Go.Abs.P
open Go.Abs Go.Fld
structure PV{D:FD}(h0 h:AH)(hb:Nat)(bs:List (Nat×Nat))(bg br ba:Nat)(s:Sl)(ps:List Nat):Prop where
 ov:OV h0.next h s (iv (ints ps))
 fo:∀a,s.a=some a→For (D:=D) h0 hb bs bg br ba a.block
section
variable{D:FD}{gen:Nat}(hg:D.aK gen){h0 h h':AH}{g:Addr}{fl k hb bg br ba:Nat}{bs bs':List (Nat×Nat)}{rows:List (List (El D))}{pv:Sl}{ps:List Nat}
theorem OV.lt{n0 h s vs}(p:OV n0 h s vs):∀a,s.a=some a→a.block<h.next:=by
 rcases p with⟨rfl,rfl⟩|⟨b,c,_,h2,_,_,rfl,_⟩
 ·intro a h;cases h
 ·intro a h;cases h;exact h2
theorem PV.quiet(p:PV (D:=D) h0 h hb bs bg br ba pv ps)(q:aj h h'):PV (D:=D) h0 h' hb bs bg br ba pv ps:=⟨p.ov.quiet q,p.fo⟩
theorem PV.Ao(p:PV (D:=D) h0 h hb bs bg br ba pv ps){c o:Nat}{t:Option Nat}(q:iI (some ⟨c,o,t⟩) h h')(hc:∀a,pv.a=some a→c≠a.block):PV (D:=D) h0 h' hb bs bg br ba pv ps:=
 ⟨p.ov.ajp q.1 (fun a ha=>q.2 _ (OV.lt p.ov a ha) (fun b rM=>by cases rM;exact hc a ha)),p.fo⟩
theorem For.sub{c N:Nat}(f:For (D:=D) h0 hb bs bg br ba c)(hs:∀b∈bs',b∈bs∨N≤b.1)(hc:c<N):For (D:=D) h0 hb bs' bg br ba c:=
 ⟨f.n0,f.hd,fun b rM=>(hs b rM).elim (f.row b) (fun h=>by omega),f.g,f.r,f.a⟩
theorem PV.sub{N:Nat}(p:PV (D:=D) h0 h hb bs bg br ba pv ps)(hs:∀b∈bs',b∈bs∨N≤b.1)(hN:∀a,pv.a=some a→a.block<N):PV (D:=D) h0 h hb bs' bg br ba pv ps:=
 ⟨p.ov,fun a ha=>(p.fo a ha).sub hs (hN a ha)⟩
theorem ES.RI(p:ES h0 h g hb bs rows bg br ba){R:Type}{i c:Nat}(hi:i<rows.length)(hc:c<rows[i].length)(K:Int→Option R):
 (idx 1 (⟨some ⟨hb,0,none⟩,rows.length,rows.length⟩:Sl) (i:Int) fun q=>bC h q.block q.off fun s2=>idx 1 s2 (c:Int) fun q2=>aF .i64 h q2.block q2.off K)=K (ve rows[i][c]):=by
 rw[aU rfl (show i<rows.length from hi)]
 dsimp only
 rw[ai (s:=⟨some ⟨(bs[i]'(by rw[p.len];exact hi)).1,0,none⟩,(vl rows[i]).length,(bs[i]'(by rw[p.len];exact hi)).2⟩) (p.cell hi),((p.afI hi).si none _).read (by omega) (by simp;exact hc)]
 simp only[Int.toNat_natCast,jV]
theorem amv{R:Type}(kn:bl R)(gf:GF h0 g D gen){w c p b1:Nat}{aT:List (List (El D))}(hw:Fld.fy w aT)(hc:c<w)(Oy:w≤65536)(hp:p<aT.length)(hn:aT.length≤65536)(bL:fl≤h0.next)(cols DB:Int)(hpb:∀a,pv.a=some a→a.block≠b1):
 ∀(d i f:Nat) (h:AH),i+d=aT.length→d<f→ES h0 h g hb bs ((FD.aC hg).iG aT p c i) bg br ba→PV (D:=D) h0 h hb bs bg br ba pv ps→OB h b1 [.int .i64 (p:Int)]→For (D:=D) h0 hb bs bg br ba b1→
 ∃h',aZ M fl k kn f cols ⟨bg,0,none⟩ ⟨br,0,none⟩ DB (fP br ba) pv (c:Int) ⟨b1,0,none⟩ (aT.length:Int) (i:Int) h=kn cols ⟨bg,0,none⟩ ⟨br,0,none⟩ DB (fP br ba) pv (c:Int) h'∧
  ES h0 h' g hb bs ((FD.aC hg).PZ aT p c) bg br ba∧PV (D:=D) h0 h' hb bs bg br ba pv ps∧aj h0 h':=by
 intro d
 induction d with
 |zero=>
  intro i f h hi hf es pvh o1 f1
  obtain⟨f,rfl⟩:∃j,f=j+1:=⟨f-1,by omega⟩
  obtain rfl:i=aT.length:=by omega
  rw[Fld.aaz] at es
  refine⟨h,?_,es,pvh,es.q⟩
  show bQ M fl k _ _ _ _ _ _ _ _ _ _ _ _ h=_
  unfold bQ cW
  rw[if_neg (by simp)]
 |succ d ih=>
  intro i f h hi hf es pvh o1 f1
  obtain⟨f,rfl⟩:∃j,f=j+1:=⟨f-1,by omega⟩
  have mX:i<aT.length:=by omega
  have hlen:((FD.aC hg).iG aT p c i).length=aT.length:=Fld.Dt ..
  have hwi:aT[i].length=w:=hw _ (List.getElem_mem mX)
  have hn0:=es.q.1
  obtain⟨h1,k1,ob1,q1⟩:=Bk (fl:=fl) (h:=h) (.int .i64 0) (.int .i64 (i:Int)) (by omega) rfl
  have es1:=es.quiet q1
  have hci:c<((FD.aC hg).iG aT p c i)[i].length:=by rw[Fld.Du _ _ _ _ _ mX (.inr (Nat.le_refl _))];omega
  have hrow:((FD.aC hg).iG aT p c i)[i]'(by omega)=aT[i]:=Fld.Du _ _ _ _ _ mX (.inr (Nat.le_refl _))
  have aa0:aT[i].getD c (FD.aC hg).zero=aT[i][c]:=by rw[List.getD_eq_getElem?_getD,List.getElem?_eq_getElem (by omega)];rfl
  obtain⟨h2,k2,ob2,q2⟩:=Bk (fl:=fl) (h:=h1) (.int .i64 0) (.int .i64 (ve aT[i][c])) (by have:=q1.1;omega) rfl
  have es2:=es1.quiet q2
  have pv2:=(pvh.quiet q1).quiet q2
  have rK:=(o1.quiet q1).quiet q2
  have axl:=ob1.quiet q2
  have un:aZ M fl k kn (f+1) cols ⟨bg,0,none⟩ ⟨br,0,none⟩ DB (fP br ba) pv (c:Int) ⟨b1,0,none⟩ (aT.length:Int) (i:Int) h=
   (if ((i:Int) !=(p:Int))=true then if (ve aT[i][c] !=0)=true then kE M fl (fP br ba) [.func (.func fn.eO) ⟨[]⟩ ⟨[.pointer (some ⟨bg,0,none⟩),.pointer (some ⟨h.next,0,none⟩),.pointer (some ⟨h1.next,0,none⟩),.pointer (some ⟨b1,0,none⟩)]⟩] h2 fun v20 RX=>bj v20 fun l22=>ch l22 (bn M fl k (aZ M fl k kn f) kn cols ⟨bg,0,none⟩ ⟨br,0,none⟩ DB (fP br ba) pv (c:Int) ⟨b1,0,none⟩ (aT.length:Int) (i:Int) RX)
    else bn M fl k (aZ M fl k kn f) kn cols ⟨bg,0,none⟩ ⟨br,0,none⟩ DB (fP br ba) pv (c:Int) ⟨b1,0,none⟩ (aT.length:Int) (i:Int) h2
    else bn M fl k (aZ M fl k kn f) kn cols ⟨bg,0,none⟩ ⟨br,0,none⟩ DB (fP br ba) pv (c:Int) ⟨b1,0,none⟩ (aT.length:Int) (i:Int) h2):=by
   show bQ M fl k _ _ _ _ _ _ _ _ _ _ _ _ h=_
   unfold bQ cW
   rw[if_pos (by simp;omega),k1]
   dsimp only
   have hr:=es1.RI (R:=R) (i:=i) (c:=c) (by omega) hci
   simp only[hrow] at hr
   rw[ai (s:=⟨some ⟨hb,0,none⟩,((FD.aC hg).iG aT p c i).length,((FD.aC hg).iG aT p c i).length⟩) (es1.TV.cell rfl),ae (ob1.cell rfl),hr,k2,ae (axl.cell rfl),ae (rK.cell rfl),ae (ob2.cell rfl)]
  rw[un]
  have same:∀(aaO:(FD.aC hg).iG aT p c (i+1)=(FD.aC hg).iG aT p c i),∃h',bn M fl k (aZ M fl k kn f) kn cols ⟨bg,0,none⟩ ⟨br,0,none⟩ DB (fP br ba) pv (c:Int) ⟨b1,0,none⟩ (aT.length:Int) (i:Int) h2=kn cols ⟨bg,0,none⟩ ⟨br,0,none⟩ DB (fP br ba) pv (c:Int) h'∧
   ES h0 h' g hb bs ((FD.aC hg).PZ aT p c) bg br ba∧PV (D:=D) h0 h' hb bs bg br ba pv ps∧aj h0 h':=by
   intro aaO
   unfold bn
   rw[aw (i+1) (by push_cast;rfl) (by omega)]
   exact ih (i+1) f h2 (by omega) (by omega) (by rw[aaO];exact es2) pv2 rK f1
  by_cases c1:i=p
  ·rw[if_neg (by simp[c1])]
   exact same (Fld.Ez _ _ _ _ _ (.inl c1))
  ·rw[if_pos (by simp;omega)]
   by_cases c2:aT[i][c]=(FD.aC hg).zero
   ·rw[if_neg (by simp[(eU hg _).2 c2])]
    refine same (Fld.Ez _ _ _ _ _ (.inr ⟨mX,by rw[aa0];exact c2,?_⟩))
    rw[Fld.va hp,hwi,hw _ (List.getElem_mem hp)]
   ·rw[if_pos (by simp;exact fun e=>c2 ((eU hg _).1 e))]
    have hpr:((FD.aC hg).iG aT p c i)[p]'(by omega)=aT[p]:=Fld.Du _ _ _ _ _ hp (.inl rfl)
    have f1b:=f1
    obtain⟨h3,s1,s2,s3⟩:=ahu (fl:=fl) hg gf es2 (i:=p) (j:=i) aT[i][c] rK axl ob2 (by omega) (by omega) c1 bL (by rw[hpr,hw _ (List.getElem_mem hp)];exact Oy) (by rw[hpr,hrow,hwi,hw _ (List.getElem_mem hp)])
    rw[hrow,hpr] at s2
    have e1:((FD.aC hg).iG aT p c i).set i ((FD.aC hg).bF aT[i] ((FD.aC hg).neg aT[i][c]) aT[p])=(FD.aC hg).iG aT p c (i+1):=by
     rw[←Fld.aaA _ _ _ _ _ mX c1,aa0,Fld.va hp]
    rw[e1] at s2
    have hbi:i<bs.length:=by rw[es2.len];omega
    have pv3:=pv2.Ao s3 (fun a ha e=>(pv2.fo a ha).row _ (List.getElem_mem hbi) e.symm)
    have Xk:=s3.ob rK (fun a ha=>by cases ha;exact fun e=>f1.row _ (List.getElem_mem hbi) e.symm)
    obtain⟨h',e1',e2'⟩:=ih (i+1) f h3 (by omega) (by omega) s2 pv3 Xk f1
    refine⟨h',?_,e2'⟩
    have hl2:aT.length=((FD.aC hg).iG aT p c i).length:=hlen.symm
    rw[LJ (s:=⟨some ⟨hb,0,none⟩,((FD.aC hg).iG aT p c i).length,((FD.aC hg).iG aT p c i).length⟩) (n:=0) es2.TV s2.oa s1]
    simp only[bj,ch]
    unfold bn
    rw[aw (i+1) (by push_cast;rfl) (by omega)]
    exact e1'
theorem ahv{R:Type}(kn:sP R){hB:AH}{w c b1 b2:Nat}(hw:Fld.fy w rows)(hc:c<w)(esB:∀{h:AH},iI (some ⟨b2,0,none⟩) hB h→ES h0 h g hb bs rows bg br ba)(bL:fl≤b2)(hn:rows.length≤65536)(cols DB:Int):
 ∀(d i f:Nat) (h:AH),i+d=rows.length→d<f→OB h b2 [.int .i64 (i:Int)]→iI (some ⟨b2,0,none⟩) hB h→
 ∃h',df M fl k kn f cols ⟨bg,0,none⟩ ⟨br,0,none⟩ DB (fP br ba) pv (c:Int) ⟨b1,0,none⟩ ⟨b2,0,none⟩ h=kn cols ⟨bg,0,none⟩ ⟨br,0,none⟩ DB (fP br ba) pv (c:Int) ⟨b1,0,none⟩ ⟨b2,0,none⟩ h'∧
  OB h' b2 [.int .i64 ((((FD.aC hg).pick rows c d i).getD rows.length:Nat):Int)]∧iI (some ⟨b2,0,none⟩) hB h':=by
 intro d
 induction d with
 |zero=>
  intro i f h hi hf ob LP
  obtain⟨f,rfl⟩:∃j,f=j+1:=⟨f-1,by omega⟩
  obtain rfl:i=rows.length:=by omega
  have es:=esB LP
  refine⟨h,?_,ob,LP⟩
  show eo M fl k _ _ _ _ _ _ _ _ _ _ _ h=_
  unfold eo
  dsimp only
  rw[ae (ob.cell rfl),ai (s:=⟨some ⟨hb,0,none⟩,rows.length,rows.length⟩) (es.TV.cell rfl),if_neg (by simp)]
 |succ d ih=>
  intro i f h hi hf ob LP
  obtain⟨f,rfl⟩:∃j,f=j+1:=⟨f-1,by omega⟩
  have es:=esB LP
  have mX:i<rows.length:=by omega
  have hci:c<rows[i].length:=by rw[hw _ (List.getElem_mem mX)];exact hc
  have RP:(FD.aC hg).nX rows i c=rows[i][c]:=Fld.WX _ mX hci
  have hr:=es.RI (R:=R) mX hci
  have un:df M fl k kn (f+1) cols ⟨bg,0,none⟩ ⟨br,0,none⟩ DB (fP br ba) pv (c:Int) ⟨b1,0,none⟩ ⟨b2,0,none⟩ h=
   if (ve rows[i][c]==0)=true then df M fl k kn f cols ⟨bg,0,none⟩ ⟨br,0,none⟩ DB (fP br ba) pv (c:Int) ⟨b1,0,none⟩ ⟨b2,0,none⟩ (h.put b2 (some [.int .i64 ((i+1:Nat):Int)])) else kn cols ⟨bg,0,none⟩ ⟨br,0,none⟩ DB (fP br ba) pv (c:Int) ⟨b1,0,none⟩ ⟨b2,0,none⟩ h:=by
   show eo M fl k _ _ _ _ _ _ _ _ _ _ _ h=_
   unfold eo
   dsimp only
   rw[ae (ob.cell rfl),ai (s:=⟨some ⟨hb,0,none⟩,rows.length,rows.length⟩) (es.TV.cell rfl),if_pos (by simp;omega)]
   rw[ai (s:=⟨some ⟨hb,0,none⟩,rows.length,rows.length⟩) (es.TV.cell rfl),ae (ob.cell rfl)]
   rw[hr,ae (ob.cell rfl),ob.st bL (by simp) rfl,aw (i+1) (by push_cast;rfl) (by omega)]
   rfl
  rw[un]
  by_cases hz:rows[i][c]=(FD.aC hg).zero
  ·have hp:(FD.aC hg).pick rows c (d+1) i=(FD.aC hg).pick rows c d (i+1):=by
    conv=>lhs;unfold Fld.pick
    split
    ·rfl
    ·rename_i iH _;exact absurd (RP.trans hz) iH
   rw[if_pos (by simp[(eU hg _).2 hz]),hp]
   exact ih (i+1) f _ (by omega) (by omega) (ob.put _) (LP.trans (iI.put _))
  ·have hp:(FD.aC hg).pick rows c (d+1) i=some i:=by
    unfold Fld.pick
    split
    ·rename_i he _;exact absurd (RP.symm.trans he) hz
    ·rfl
   rw[if_neg (by simp;exact fun e=>hz ((eU hg _).1 e)),hp]
   exact⟨h,rfl,ob,LP⟩
end
end Go.Abs.P
end
section
namespace Go.Abs.P
open Go.Abs Go.Fld
section
variable{D:FD}{gen:Nat}(hg:D.aK gen){h0 h h':AH}{g:Addr}{fl k hb bg br ba:Nat}{bs bs':List (Nat×Nat)}{rows:List (List (El D))}{pv:Sl}{ps:List Nat}
theorem ES.awW(p:ES h0 h g hb bs rows bg br ba){c:Nat}(hc:h.next≤c):For (D:=D) h0 hb bs bg br ba c:=by
 have h1:=p.q.1
 have h2:=p.mx.Nk.1
 have h3:=p.og.1
 have h4:=p.TV.1
 have h5:=p.oa.1
 refine⟨by omega,by omega,fun b rM e=>?_,by omega,by omega,by omega⟩
 obtain⟨j,hj,rfl⟩:=List.getElem_of_mem rM
 have:=(p.mx.row j hj (by rw[←p.mx.len];exact hj)).1
 omega
theorem ES.azH(p:ES h0 h g hb bs rows bg br ba){x:Option Addr}(q:iI x h h')(f:∀a,x=some a→For (D:=D) h0 hb bs bg br ba a.block):ES h0 h' g hb bs rows bg br ba:=by
 cases x with
 |none=>exact p.quiet ⟨q.1,fun b rM=>q.2 b rM (fun a ha=>by cases ha)⟩
 |some a=>
  obtain⟨b,o,t⟩:=a
  exact p.Ao (f _ rfl) q
theorem amw{R:Type}(kn:bl R)(gf:GF h0 g D gen){w c b1 b2 K:Nat}(hw:Fld.fy w rows)(hc:c<w)(Oy:w≤65536)(hn:rows.length≤65536)(bL:fl≤h0.next)(cols:Int)(DB:El D)
 (es:ES h0 h g hb bs rows bg br ba) (pvh:PV (D:=D) h0 h hb bs bg br ba pv ps) (o1:OB h b1 [.int .i64 (ps.length:Int)]) (f1:For (D:=D) h0 hb bs bg br ba b1) (o2:OB h b2 [.int .i64 (K:Int)]) (f2:For (D:=D) h0 hb bs bg br ba b2)
 (hp:ps.length<rows.length) (hK:ps.length≤K∧K<rows.length) (hz:(FD.aC hg).nX rows K c≠(FD.aC hg).zero) (hpb:∀a,pv.a=some a→a.block<b1) (Xa:ps.length≤65536) (hk:rows.length<k):
 ∃h' bs' BT Dy,eh M fl k kn kn cols ⟨bg,0,none⟩ ⟨br,0,none⟩ (ve DB) (fP br ba) pv (c:Int) ⟨b1,0,none⟩ ⟨b2,0,none⟩ h=kn cols ⟨bg,0,none⟩ ⟨br,0,none⟩ (ve (D:=D) Dy) (fP br ba) BT (c:Int) h'∧
  ES h0 h' g hb bs' ((FD.aC hg).jx rows ps.length K c) bg br ba∧PV (D:=D) h0 h' hb bs' bg br ba BT (ps++[c]):=by
 have n57:((K:Int)==(rows.length:Int))=false:=by simp;omega
 have tail:∀(bI:List (List (El D))) (bs6:List (Nat×Nat)) (h6:AH) (Xh:El D),bI.length=rows.length→Fld.fy w bI→(FD.aC hg).nX bI ps.length c≠(FD.aC hg).zero→ES h0 h6 g hb bs6 bI bg br ba→PV (D:=D) h0 h6 hb bs6 bg br ba pv ps→
  OB h6 b1 [.int .i64 (ps.length:Int)]→For (D:=D) h0 hb bs6 bg br ba b1→
  ∃h' bs' BT Dy,fC M fl k kn kn cols ⟨bg,0,none⟩ ⟨br,0,none⟩ (ve Xh) (fP br ba) pv (c:Int) ⟨b1,0,none⟩ h6=kn cols ⟨bg,0,none⟩ ⟨br,0,none⟩ (ve (D:=D) Dy) (fP br ba) BT (c:Int) h'∧
   ES h0 h' g hb bs' ((FD.aC hg).PZ ((FD.aC hg).norm bI ps.length c) ps.length c) bg br ba∧PV (D:=D) h0 h' hb bs' bg br ba BT (ps++[c]):=by
  intro bI bs6 h6 Xh hl6 hw6 hz6 es6 pv6 o6 f6
  have Xi:ps.length<bI.length:=by omega
  have hc6:c<bI[ps.length].length:=by rw[hw6 _ (List.getElem_mem Xi)];exact hc
  have RP:(FD.aC hg).nX bI ps.length c=bI[ps.length][c]:=Fld.WX _ Xi hc6
  rw[RP] at hz6
  have hg6:=gf.quiet es6.q
  have hr:=@ES.RI D h0 h6 g hb bg br ba bs6 bI es6 R ps.length c Xi hc6
  obtain⟨h7,k7,ob7,q7⟩:=Bk (fl:=fl) (h:=h6) (.int .i64 0) (.int .i64 (ve ((FD.aC hg).inv bI[ps.length][c]))) (by have:=es6.q.1;omega) rfl
  have es7:=es6.quiet q7
  have pv7:=pv6.quiet q7
  have o7:=o6.quiet q7
  have un:fC M fl k kn kn cols ⟨bg,0,none⟩ ⟨br,0,none⟩ (ve Xh) (fP br ba) pv (c:Int) ⟨b1,0,none⟩ h6=
   if (ve ((FD.aC hg).inv bI[ps.length][c]) !=1)=true then kE M fl (fP br ba) [.func (.func fn.eM) ⟨[]⟩ ⟨[.pointer (some ⟨bg,0,none⟩),.pointer (some ⟨h6.next,0,none⟩),.pointer (some ⟨b1,0,none⟩)]⟩] h7 fun v54 h55=>bj v54 fun l56=>ch l56 (dn M fl k kn kn cols ⟨bg,0,none⟩ ⟨br,0,none⟩ (ve ((FD.aC hg).mul Xh bI[ps.length][c])) (fP br ba) pv (c:Int) ⟨b1,0,none⟩ h55)
   else dn M fl k kn kn cols ⟨bg,0,none⟩ ⟨br,0,none⟩ (ve ((FD.aC hg).mul Xh bI[ps.length][c])) (fP br ba) pv (c:Int) ⟨b1,0,none⟩ h7:=by
   unfold fC hZ
   dsimp only
   rw[vG (es6.og.cell rfl),ai (s:=⟨some ⟨hb,0,none⟩,bI.length,bI.length⟩) (es6.TV.cell rfl),ae (o6.cell rfl),hr,ah (ar3 hg hg6 Xh _)]
   simp only[asInt,if_true]
   rw[vG (es6.og.cell rfl),ai (s:=⟨some ⟨hb,0,none⟩,bI.length,bI.length⟩) (es6.TV.cell rfl),ae (o6.cell rfl),hr,ah (azF hg hg6 _ hz6)]
   simp only[bj,aL,ch,asInt,if_true]
   rw[k7,if_pos (by rfl),ae (ob7.cell rfl)]
  have fin:∀(bs8:List (Nat×Nat)) (h8:AH) (d8:El D),ES h0 h8 g hb bs8 ((FD.aC hg).norm bI ps.length c) bg br ba→PV (D:=D) h0 h8 hb bs8 bg br ba pv ps→OB h8 b1 [.int .i64 (ps.length:Int)]→For (D:=D) h0 hb bs8 bg br ba b1→
   ∃h' bs' BT Dy,dn M fl k kn kn cols ⟨bg,0,none⟩ ⟨br,0,none⟩ (ve d8) (fP br ba) pv (c:Int) ⟨b1,0,none⟩ h8=kn cols ⟨bg,0,none⟩ ⟨br,0,none⟩ (ve (D:=D) Dy) (fP br ba) BT (c:Int) h'∧
    ES h0 h' g hb bs' ((FD.aC hg).PZ ((FD.aC hg).norm bI ps.length c) ps.length c) bg br ba∧PV (D:=D) h0 h' hb bs' bg br ba BT (ps++[c]):=by
   intro bs8 h8 d8 es8 pv8 o8 f8
   have hln:((FD.aC hg).norm bI ps.length c).length=rows.length:=by rw[Fld.tC,hl6]
   have hwn:Fld.fy w ((FD.aC hg).norm bI ps.length c):=Fld.fy.norm _ hw6 c Xi
   obtain⟨h9,l1,l2,l3,l4⟩:=amv (fl:=fl) (k:=k) hg (eg M fl k kn kn) gf hwn hc Oy (by omega) (by omega) bL cols (ve d8) (fun a ha e=>by have:=hpb a ha;omega) rows.length 0 k h8 (by omega) hk (by rw[Fld.TO];exact es8) pv8 o8 f8
   rw[hln] at l1
   have hn9:=l4.1
   obtain⟨BT,FC,p1,p2,p3,p4⟩:=l3.ov.push (R:=R) (fl:=fl) (bytes:=8) (x:=.int .i64 (c:Int)) bL hn9 (by unfold lk;simp;omega) rfl (fun s3 h4=>kn cols ⟨bg,0,none⟩ ⟨br,0,none⟩ (ve d8) (fP br ba) s3 (c:Int) h4)
   have e1:iv (ints ps)++[Value.int .i64 (c:Int)]=iv (ints (ps++[c])):=by rw[nW,rG];rfl
   rw[e1] at p2
   refine⟨FC,bs8,BT,d8,?_,l2.azH p3 l3.fo,⟨p2,fun a ha=>l2.awW (p4 a ha)⟩⟩
   unfold dn fL jl
   dsimp only
   rw[ai (s:=⟨some ⟨hb,0,none⟩,((FD.aC hg).norm bI ps.length c).length,((FD.aC hg).norm bI ps.length c).length⟩) (es8.TV.cell rfl),hln]
   refine Eq.trans l1 ?_
   unfold eg
   exact p1
  rw[un]
  have aa4:(FD.aC hg).norm bI ps.length c=bI.set ps.length ((FD.aC hg).pQ ((FD.aC hg).inv bI[ps.length][c]) bI[ps.length]):=by unfold Fld.norm;rw[RP,Fld.va Xi]
  by_cases ci:(FD.aC hg).inv bI[ps.length][c]=(FD.aC hg).one
  ·have e1:(FD.aC hg).norm bI ps.length c=bI:=by rw[aa4,ci,Fld.adt,List.set_getElem_self]
   have e2:ve (FD.aC hg).one=1:=rfl
   rw[if_neg (by rw[ci,e2];simp)]
   exact fin bs6 h7 _ (by rw[e1];exact es7) pv7 o7 f6
  ·rw[if_pos (by
    simp only[bne_iff_ne,ne_eq]
    intro e
    exact ci (ack (e.trans rfl)))]
   obtain⟨h8,bs8,s1,s2,s3,s4⟩:=aht (fl:=fl) hg gf es7 ((FD.aC hg).inv bI[ps.length][c]) o7 ob7 Xi bL (by rw[hw6 _ (List.getElem_mem Xi)];exact Oy)
   rw[←aa4] at s2
   have azN:=o7.1
   have pv8:=(pv7.Ao s3 (fun a ha e=>(pv7.fo a ha).hd e.symm)).sub (bs':=bs8) (N:=h7.next) s4 (fun a ha=>by have:=hpb a ha;omega)
   obtain⟨h',bs',BT,Dy,r1,r2⟩:=fin bs8 h8 ((FD.aC hg).mul Xh bI[ps.length][c]) s2 pv8 (s3.ob o7 (fun a ha=>by cases ha;exact f6.hd.symm)) (f6.sub s4 azN)
   refine⟨h',bs',BT,Dy,?_,r2⟩
   rw[LJ (s:=⟨some ⟨hb,0,none⟩,bI.length,bI.length⟩) (n:=0) es7.TV s2.oa s1]
   simp only[bj,ch]
   exact r1
 unfold eh gi
 dsimp only
 rw[ae (o2.cell rfl),ai (s:=⟨some ⟨hb,0,none⟩,rows.length,rows.length⟩) (es.TV.cell rfl),if_neg (by simp;omega),ae (o2.cell rfl),ae (o1.cell rfl)]
 unfold Fld.jx
 by_cases ck:K=ps.length
 ·rw[if_neg (by simp[ck])]
  have e1:Fld.DN rows ps.length K=rows:=by rw[ck,Fld.amu _ hp]
  rw[e1]
  rw[ck] at hz
  exact tail rows bs h DB rfl hw hz es pvh o1 f1
 ·rw[if_pos (by simp;omega)]
  obtain⟨h6,bs6,s1,s2,s3,s4⟩:=ahs (fl:=fl) es o1 o2 f1.hd f2.hd hp hK.2 bL
  have hz6:(FD.aC hg).nX (Fld.DN rows ps.length K) ps.length c≠(FD.aC hg).zero:=by
   have:(FD.aC hg).nX (Fld.DN rows ps.length K) ps.length c=(FD.aC hg).nX rows K c:=by
    unfold Fld.nX Fld.DN
    congr 1
    rw[List.getD_eq_getElem?_getD,List.getElem?_set_ne (by omega),List.getElem?_set_self hp];rfl
   rw[this];exact hz
  have pv6:=(pvh.Ao s3 (fun a ha e=>(pvh.fo a ha).hd e.symm)).sub (bs':=bs6) (N:=h.next) (fun b rM=>.inl (s4 b rM)) (fun a ha=>OV.lt pvh.ov a ha)
  have hg6:=gf.quiet s2.q
  obtain⟨h',bs',BT,Dy,r1,r2⟩:=tail (Fld.DN rows ps.length K) bs6 h6 ((FD.aC hg).neg DB) (Fld.kG ..) (hw.DN hp hK.2) hz6 s2 pv6 (s3.ob o1 (fun a ha=>by cases ha;exact f1.hd.symm)) (f1.sub (N:=h.next) (fun b rM=>.inl (s4 b rM)) o1.1)
  refine⟨h',bs',BT,Dy,?_,r2⟩
  rw[LJ (s:=⟨some ⟨hb,0,none⟩,rows.length,rows.length⟩) (n:=0) es.TV s2.oa s1]
  simp only[bj,ch]
  rw[vG (s2.og.cell rfl),ah (awV hg hg6 DB)]
  simp only[asInt,if_true]
  exact r1
theorem ahw{R:Type}(kn:xJ R)(gf:GF h0 g D gen){w cols:Nat}(hcw:cols≤w)(Oy:w≤65536)(bL:fl≤h0.next){n:Nat}(hn:n≤65536)(hk:n<k):
 ∀(d c f:Nat) (rows:List (List (El D))) (bs:List (Nat×Nat)) (ps:List Nat) (pv:Sl) (DB:El D) (h:AH),c+d=cols→d<f→rows.length=n→Fld.fy w rows→ES h0 h g hb bs rows bg br ba→PV (D:=D) h0 h hb bs bg br ba pv ps→ps.length≤c→
 ∃h' bs' BT Dy,fS M fl k kn f (cols:Int) ⟨bg,0,none⟩ ⟨br,0,none⟩ (ve DB) (fP br ba) pv (c:Int) h=kn (ve (D:=D) Dy) BT h'∧
  ES h0 h' g hb bs' ((FD.aC hg).rQ d c rows ps).1 bg br ba∧PV (D:=D) h0 h' hb bs' bg br ba BT ((FD.aC hg).rQ d c rows ps).2:=by
 intro d
 induction d with
 |zero=>
  intro c f rows bs ps pv DB h hc hf hl hw es pvh hpc
  obtain⟨f,rfl⟩:∃j,f=j+1:=⟨f-1,by omega⟩
  refine⟨h,bs,pv,DB,?_,es,pvh⟩
  show qV M fl k _ _ _ _ _ _ _ _ _ h=_
  unfold qV wu
  rw[if_neg (by simp;omega)]
 |succ d ih=>
  intro c f rows bs ps pv DB h hc hf hl hw es pvh hpc
  obtain⟨f,rfl⟩:∃j,f=j+1:=⟨f-1,by omega⟩
  have Xa:pv.l=ps.length:=by have:=pvh.ov.len;simpa using this
  have un:fS M fl k kn (f+1) (cols:Int) ⟨bg,0,none⟩ ⟨br,0,none⟩ (ve DB) (fP br ba) pv (c:Int) h=qV M fl k (fS M fl k kn f) kn (cols:Int) ⟨bg,0,none⟩ ⟨br,0,none⟩ (ve DB) (fP br ba) pv (c:Int) h:=rfl
  rw[un]
  unfold qV wu
  dsimp only
  rw[if_pos (by simp;omega),ai (s:=⟨some ⟨hb,0,none⟩,rows.length,rows.length⟩) (es.TV.cell rfl)]
  by_cases cf:ps.length<rows.length
  ·rw[if_pos (by simp;omega)]
   have hn0:=es.q.1
   obtain⟨h1,k1,ob1,q1⟩:=Bk (fl:=fl) (h:=h) (.int .i64 0) (.int .i64 (ps.length:Int)) (by omega) rfl
   have es1:=es.quiet q1
   obtain⟨h2,k2,ob2,q2⟩:=Bk (fl:=fl) (h:=h1) (.int .i64 0) (.int .i64 (ps.length:Int)) (by have:=q1.1;omega) rfl
   have es2:=es1.quiet q2
   have pv2:=(pvh.quiet q1).quiet q2
   have f1:For (D:=D) h0 hb bs bg br ba h.next:=es.fresh
   have f2:For (D:=D) h0 hb bs bg br ba h1.next:=es1.fresh
   have Tb:h.next<h1.next:=ob1.1
   have unf:xK M fl k (fS M fl k kn f) kn (cols:Int) ⟨bg,0,none⟩ ⟨br,0,none⟩ (ve DB) (fP br ba) pv (c:Int) h=df M fl k (eh M fl k (dt M fl k (fS M fl k kn f) kn) (dt M fl k (fS M fl k kn f) kn)) k (cols:Int) ⟨bg,0,none⟩ ⟨br,0,none⟩ (ve DB) (fP br ba) pv (c:Int) ⟨h.next,0,none⟩ ⟨h1.next,0,none⟩ h2:=by
    unfold xK uX sQ oZ uc
    rw[Xa,k1]
    rw[ae (ob1.cell rfl),k2]
   rw[unf]
   obtain⟨h5,a1,a2,a3⟩:=ahv (fl:=fl) (k:=k) (b1:=h.next) (pv:=pv) hg (eh M fl k (dt M fl k (fS M fl k kn f) kn) (dt M fl k (fS M fl k kn f) kn)) (hB:=h2) hw (show c<w by omega) (fun {h'} LP=>es2.Ao f2 LP) (by omega) (by omega) (cols:Int) (ve DB) (rows.length-ps.length) ps.length k h2 (by omega) (by omega) ob2 (iI.refl _ _)
   rw[a1]
   have es5:=es2.Ao f2 a3
   have axq:∀a,pv.a=some a→a.block<h.next:=fun a ha=>OV.lt pvh.ov a ha
   have pv5:=pv2.Ao a3 (fun a ha e=>by have:=axq a ha;omega)
   have o1:OB h5 h.next [.int .i64 (ps.length:Int)]:=a3.ob (ob1.quiet q2) (fun a ha=>by cases ha;show h1.next≠h.next;omega)
   cases hpk:(FD.aC hg).pick rows c (rows.length-ps.length) ps.length with
   |none=>
    rw[hpk] at a2
    have hgj:(FD.aC hg).rQ (d+1) c rows ps=(FD.aC hg).rQ d (c+1) rows ps:=by conv=>lhs;unfold Fld.rQ;rw[hpk]
    rw[hgj]
    obtain⟨h',bs',BT,Dy,r1,r2⟩:=ih (c+1) f rows bs ps pv DB h5 (by omega) (by omega) hl hw es5 pv5 (by omega)
    refine⟨h',bs',BT,Dy,?_,r2⟩
    unfold eh gi
    dsimp only
    rw[ae (a2.cell rfl),ai (s:=⟨some ⟨hb,0,none⟩,rows.length,rows.length⟩) (es5.TV.cell rfl),if_pos (by simp)]
    unfold dt
    rw[aw (c+1) (by push_cast;rfl) (by omega)]
    exact r1
   |some K=>
    rw[hpk] at a2
    have a2:OB h5 h1.next [.int .i64 (K:Int)]:=a2
    obtain⟨p1,p2,p3,_⟩:=Fld.yC _ hpk
    have hgj:(FD.aC hg).rQ (d+1) c rows ps=(FD.aC hg).rQ d (c+1) ((FD.aC hg).jx rows ps.length K c) (ps++[c]):=by conv=>lhs;unfold Fld.rQ;rw[hpk]
    rw[hgj]
    obtain⟨h6,bs6,pv6,Xh,s1,s2,s3⟩:=amw (fl:=fl) (k:=k) hg (dt M fl k (fS M fl k kn f) kn) gf hw (show c<w by omega) Oy (by omega) bL (cols:Int) DB es5 pv5 o1 f1 a2 f2 cf ⟨p1,by omega⟩ p3 axq (by omega) (by omega)
    obtain⟨h',bs',BT,Dy,r1,r2⟩:=ih (c+1) f ((FD.aC hg).jx rows ps.length K c) bs6 (ps++[c]) pv6 Xh h6 (by omega) (by omega) (by rw[Fld.j0];exact hl) (Fld.fy.step _ hw c cf (by omega)) s2 s3 (by simp;omega)
    refine⟨h',bs',BT,Dy,?_,r2⟩
    refine Eq.trans s1 ?_
    unfold dt
    rw[aw (c+1) (by push_cast;rfl) (by omega)]
    exact r1
  ·rw[if_neg (by simp;omega)]
   have hgj:(FD.aC hg).rQ (d+1) c rows ps=(rows,ps):=Fld.P1 _ _ _ _ _ (by omega)
   rw[hgj]
   exact⟨h,bs,pv,DB,rfl,es,pvh⟩
end
end Go.Abs.P
end
section
namespace Go.Fld.Fld
variable{α:Type}(F:Fld α)
theorem amx(n c:Nat)(rows:List (List α))(ps:List Nat)(h:ps.length≤rows.length):(F.rQ n c rows ps).2.length≤rows.length:=by
 induction n generalizing c rows ps with
 |zero=>exact h
 |succ n ih=>
  unfold rQ
  split
  ·exact ih _ _ _ h
  ·rename_i K hK
   have:=F.yC hK
   have h2:=ih (c+1) (F.jx rows ps.length K c) (ps++[c]) (by rw[j0];simp;omega)
   rwa[j0] at h2
theorem afJ{w:Nat}(n c:Nat)(rows:List (List α))(ps:List Nat)(h:fy w rows)(hps:ps.length≤rows.length):fy w (F.rQ n c rows ps).1:=by
 induction n generalizing c rows ps with
 |zero=>exact h
 |succ n ih=>
  unfold rQ
  split
  ·exact ih _ _ _ h hps
  ·rename_i K hK
   have:=F.yC hK
   exact ih _ _ _ (fy.step F h c (by omega) (by omega)) (by rw[j0];simp;omega)
end Go.Fld.Fld
namespace Go.Abs.P
open Go.Abs Go.Fld
section
variable{D:FD}{gen:Nat}(hg:D.aK gen){h0 h:AH}{g:Addr}{fl hb:Nat}{bs:List (Nat×Nat)}{rows:List (List (El D))}
theorem ahx(gf:GF h0 g D gen){w cols:Nat}(hcw:cols≤w)(Oy:w≤65536)(bL:fl≤h0.next)(hn:rows.length≤65536)(hw:Fld.fy w rows)(q:aj h0 h)(mx:Mx h0.next h hb bs (rows.map vl) []):
 ∃h' bs' pv DB,M fl fn.fR [.pointer (some g),.slice (some ⟨hb,0,none⟩) rows.length rows.length,.int .i64 (cols:Int),.slice none 0 0] h=some (.tuple ⟨[.slice pv.a pv.l pv.c,.int .i64 DB]⟩,h')∧
  aj h0 h'∧Mx h0.next h' hb bs' (((FD.aC hg).rQ cols 0 rows []).1.map vl) []∧OV h0.next h' pv (iv (ints ((FD.aC hg).rQ cols 0 rows []).2)):=by
 have hn0:=q.1
 have o1:=OB.alloc h [Value.pointer (some g)]
 have q1:=aj.alloc h [Value.pointer (some g)]
 generalize e1:h.alloc [Value.pointer (some g)]=h1 at o1 q1
 have o2:=OB.alloc h1 [Value.slice (some ⟨hb,0,none⟩) rows.length rows.length]
 have q2:=aj.alloc h1 [Value.slice (some ⟨hb,0,none⟩) rows.length rows.length]
 generalize e2:h1.alloc [Value.slice (some ⟨hb,0,none⟩) rows.length rows.length]=h2 at o2 q2
 have o3:=OB.alloc h2 [Value.slice none 0 0]
 have q3:=aj.alloc h2 [Value.slice none 0 0]
 generalize e3:h2.alloc [Value.slice none 0 0]=h3 at o3 q3
 have l1:=o1.1
 have l2:=o2.1
 have hhl:=mx.Nk.1
 have hbl:∀b∈bs,b.1<h.next:=fun b rM=>by
  obtain⟨j,hj,rfl⟩:=List.getElem_of_mem rM
  exact(mx.row j hj (by rw[←mx.len];exact hj)).1
 have hq:=(q1.trans q2).trans q3
 have es:ES h0 h3 g hb bs rows h.next h1.next h2.next:=⟨q.trans hq,mx.quiet hq,(o1.quiet q2).quiet q3,o2.quiet q3,o3,⟨by omega,by omega,by omega⟩,fun b rM=>by have:=hbl b rM;exact⟨by omega,by omega,by omega⟩,⟨by omega,by omega,by omega⟩⟩
 have pvn:PV (D:=D) h0 h3 hb bs h.next h1.next h2.next ⟨none,0,0⟩ []:=⟨OV.nil _ _,fun a ha=>by cases ha⟩
 obtain⟨h',bs',BT,Dy,r1,r2,r3⟩:=ahw (fl:=fl) (k:=rows.length+cols+1) hg (Lj M fl (rows.length+cols+1) (fun(y8:Sl) (y9:Int) q=>some (Value.tuple ⟨[.slice y8.a y8.l y8.c,.int .i64 y9]⟩,q))) gf hcw Oy bL (n:=rows.length) hn (by omega) cols 0 (rows.length+cols+1) rows bs [] ⟨none,0,0⟩ (FD.aC hg).one h3 (by omega) (by omega) rfl hw es pvn (Nat.zero_le _)
 refine⟨h',bs',BT,ve Dy,aR (k:=rows.length+cols+1) (by decide) wK ?_,r2.q,r2.mx,r3.ov⟩
 rw[tJ (p1:=⟨some ⟨hb,0,none⟩,rows.length,rows.length⟩) (p3:=⟨none,0,0⟩)]
 unfold fR alu V4 cU
 dsimp only
 rw[e1,e2,e3]
 exact r1
theorem awX{n0:Nat}{h':AH}{rs:List (List Int)}(mx:Mx n0 h' hb bs rs []){n c:Nat}(hn:n≤rs.length):RRf n0 h' ⟨some ⟨hb,0,none⟩,n,c⟩ (rs.take n):=by
 refine⟨⟨by simp;omega,fun i hi=>?_⟩,fun a ha=>by cases ha;exact mx.gh,fun i hi a t ha ht q hq=>?_⟩
 ·have Bl:i<rs.length:=by simp at hi;omega
  have RW:i<bs.length:=by rw[mx.len];exact Bl
  refine⟨_,⟨some ⟨(bs[i]).1,0,none⟩,(rs[i]).length,(bs[i]).2⟩,rfl,mx.Nk.1,?_,?_⟩
  ·rw[Nat.zero_add,mx.cell Bl];rfl
  ·have:=(mx.row i RW Bl).si none (bs[i]).2
   simpa using this
 ·cases ha
  have Bl:i<rs.length:=by simp at hi;omega
  have RW:i<bs.length:=by rw[mx.len];exact Bl
  simp only[Nat.zero_add,mx.cell Bl,hv,Sl.v,Option.some.injEq,Value.slice.injEq] at ht
  rw[←ht.1] at hq
  cases hq
  exact(mx.ge _ (List.getElem_mem RW)).1
theorem acs(gf:GF h g D gen){s:Sl}{w:Nat}(hs:RR h s (rows.map vl))(hw1:0<w)(Oy:w≤65536)(bL:fl≤h.next)(hn:rows.length≤65536)(hw:Fld.fy w rows):
 ∃(h':AH) (s' pv:Sl),M fl fn.lx [.pointer (some g),.slice s.a s.l s.c,.int .i64 (w:Int)] h=some (.tuple ⟨[.slice s'.a s'.l s'.c,.slice pv.a pv.l pv.c]⟩,h')∧
  aj h h'∧RRf h.next h' s' (((FD.aC hg).aY rows w).1.map vl)∧OV h.next h' pv (iv (ints ((FD.aC hg).aY rows w).2)):=by
 obtain⟨h1,bs,c1,c2,c3⟩:=acr (fl:=fl) hs bL (fun r hr=>by
  obtain⟨r',hr',rfl⟩:=List.mem_map.1 hr
  have:=hw r' hr'
  refine⟨fun e=>?_,by simp;omega⟩
  have hl:(vl r').length=0:=by rw[e];rfl
  rw[cB] at hl;omega) (by simpa using hn)
 rw[List.length_map] at c1
 obtain⟨h',bs',pv,DB,e1,e2,e3,e4⟩:=ahx (fl:=fl) hg gf (w:=w) (cols:=w) (Nat.le_refl _) Oy bL hn hw c3 c2
 have hps:=(FD.aC hg).amx w 0 rows [] (Nat.zero_le _)
 have hlen:=(FD.aC hg).vE w 0 rows []
 refine⟨h',⟨some ⟨h.next,0,none⟩,((FD.aC hg).rQ w 0 rows []).2.length,((FD.aC hg).rQ w 0 rows []).2.length⟩,pv,aR (k:=1) (by decide) Da ?_,e2,?_,e4⟩
 ·rw[yV]
  unfold lx akz
  rw[ah c1]
  simp only[bB]
  rw[ah e1]
  simp only[bj,aL,ch,bB,asInt,if_true]
  have Xa:pv.l=((FD.aC hg).rQ w 0 rows []).2.length:=by have:=e4.len;simpa using this
  rw[Xa]
  unfold sub
  rw[if_pos (by unfold pB;simp;omega)]
  simp only[Option.getD_none,Option.getD_some]
  rw[if_pos (by omega)]
  by_cases hz:((FD.aC hg).rQ w 0 rows []).2.length=0
  ·rw[hz];simp
  ·rw[if_neg (by omega)];simp
 ·unfold Fld.aY
  rw[List.map_take]
  exact awX e3 (by rw[List.length_map,hlen];exact hps)
theorem WY{R:Type}{k:Nat}(kn:av R)(kr:ag R)(gf:GF h g D gen){s:Sl}{xs:List Int}(hs:SI h s xs)(hm:xs.length≤65536):
 ∀(d i f:Nat),i+d=xs.length→d<f→yY M fl k kn kr f (some g) s (xs.length:Int) (i:Int) h=if (xs.drop i).all (Ki D)=true then kn h else kr 2 h:=by
 intro d
 induction d with
 |zero=>
  intro i f hi hf
  obtain⟨f,rfl⟩:∃j,f=j+1:=⟨f-1,by omega⟩
  show qz M fl k _ _ _ _ _ _ _ h=_
  unfold qz
  rw[if_neg (by simp;omega),List.drop_of_length_le (by omega)];rfl
 |succ d ih=>
  intro i f hi hf
  obtain⟨f,rfl⟩:∃j,f=j+1:=⟨f-1,by omega⟩
  show qz M fl k _ _ _ _ _ _ _ h=_
  unfold qz
  rw[if_pos (by simp;omega),hs.read (by omega) (by simp;omega)]
  simp only[Int.toNat_natCast]
  rw[ah (WT gf _)]
  simp only[asBool]
  rw[List.drop_eq_getElem_cons (show i<xs.length by omega),List.all_cons]
  by_cases c:Ki D xs[i]=true
  ·rw[if_neg (by simp[c]),c,Bool.true_and,aw (i+1) (by push_cast;rfl) (by omega)]
   exact ih (i+1) f (by omega) (by omega)
  ·rw[if_pos (by simp[c]),if_neg (by simp[c])]
theorem Kl(gf:GF h g D gen){s:Sl}{xs:List Int}(hs:SI h s xs)(hm:xs.length≤65536):M fl fn.fY [.pointer (some g),.slice s.a s.l s.c] h=some (.int .i64 (if xs.all (Ki D)=true then 0 else 2),h):=by
 refine aR (k:=xs.length+1) (by decide) zN ?_
 rw[vZ]
 unfold fY akM Vw Vv
 rw[hs.len]
 have:=WY (fl:=fl) (k:=xs.length+1) (K8 M fl (xs.length+1) (fun(y4:Int) q=>some (Value.int .i64 y4,q))) (fun(y4:Int) q=>some (Value.int .i64 y4,q)) gf hs hm xs.length 0 (xs.length+1) (by omega) (by omega)
 refine Eq.trans this ?_
 rw[List.drop_zero]
 split<;>rfl
def eG(D:FD)(cols:Int)(rows:List (List Int)):Int:=
 if cols<0∨cols>256∨rows.length>256 then 3 else if rows.all (fun r=>decide ((r.length:Int)=cols))=true then (if rows.all (fun r=>r.all (Ki D))=true then 0 else 2) else 3
theorem ahy{R:Type}{k:Nat}(kn:JD R)(kr:ag R){bx:Nat}{vs:List Value}{cols:Int}(hx:OB h bx (.int .i64 cols::vs)){s:Sl}{rs:List (List Int)}(hs:RR h s rs)(hm:rs.length≤65536)(go:OA):
 ∀(d i f:Nat),i+d=rs.length→d<f→zq M fl k kn kr f go ⟨bx,0,none⟩ s (rs.length:Int) (i:Int) h=if (rs.drop i).all (fun r=>decide ((r.length:Int)=cols))=true then kn go ⟨bx,0,none⟩ h else kr 3 h:=by
 intro d
 induction d with
 |zero=>
  intro i f hi hf
  obtain⟨f,rfl⟩:∃j,f=j+1:=⟨f-1,by omega⟩
  show qR M fl k _ _ _ _ _ _ _ _ h=_
  unfold qR
  rw[if_neg (by simp;omega),List.drop_of_length_le (by omega)];rfl
 |succ d ih=>
  intro i f hi hf
  obtain⟨f,rfl⟩:∃j,f=j+1:=⟨f-1,by omega⟩
  have mX:i<rs.length:=by omega
  obtain⟨t,ht1,ht2⟩:=hs.read mX
  show qR M fl k _ _ _ _ _ _ _ _ h=_
  unfold qR
  rw[if_pos (by simp;omega),ht2,ae (hx.cell rfl),ht1.len,List.drop_eq_getElem_cons mX,List.all_cons]
  by_cases c:(rs[i].length:Int)=cols
  ·have e:decide ((rs[i].length:Int)=cols)=true:=by simp[c]
   rw[if_neg (by simp[c]),e,Bool.true_and,aw (i+1) (by push_cast;rfl) (by omega)]
   exact ih (i+1) f (by omega) (by omega)
  ·rw[if_pos (by simp[c]),if_neg (by simp[c])]
theorem ahz{R:Type}{k:Nat}(kn:av R)(kr:ag R)(gf:GF h g D gen){s:Sl}{rs:List (List Int)}(hs:RR h s rs)(hm:rs.length≤65536)(hw:∀r∈rs,r.length≤65536):
 ∀(d i f:Nat),i+d=rs.length→d<f→mG M fl k kn kr f (some g) s (rs.length:Int) (i:Int) h=if (rs.drop i).all (fun r=>r.all (Ki D))=true then kn h else kr 2 h:=by
 intro d
 induction d with
 |zero=>
  intro i f hi hf
  obtain⟨f,rfl⟩:∃j,f=j+1:=⟨f-1,by omega⟩
  show iD M fl k _ _ _ _ _ _ _ h=_
  unfold iD
  rw[if_neg (by simp;omega),List.drop_of_length_le (by omega)];rfl
 |succ d ih=>
  intro i f hi hf
  obtain⟨f,rfl⟩:∃j,f=j+1:=⟨f-1,by omega⟩
  have mX:i<rs.length:=by omega
  obtain⟨t,ht1,ht2⟩:=hs.read mX
  show iD M fl k _ _ _ _ _ _ _ h=_
  unfold iD
  rw[if_pos (by simp;omega),ht2,ah (Kl gf ht1 (hw _ (List.getElem_mem mX)))]
  simp only[asInt,if_true]
  rw[List.drop_eq_getElem_cons mX,List.all_cons]
  by_cases c:rs[i].all (Ki D)=true
  ·rw[if_pos c,if_neg (by simp),c,Bool.true_and,aw (i+1) (by push_cast;rfl) (by omega)]
   exact ih (i+1) f (by omega) (by omega)
  ·rw[if_neg c,if_pos (by simp),if_neg (by simp[c])]
theorem aaB(gf:GF h g D gen){s:Sl}{rs:List (List Int)}(cols:Int)(hs:RR h s rs)(hm:rs.length≤65536)(hw:∀r∈rs,r.length≤65536):
 ∃h',M fl fn.lz [.pointer (some g),.agg ⟨[.int .i64 cols,.slice s.a s.l s.c]⟩] h=some (.int .i64 (eG D cols rs),h')∧aj h h':=by
 have du:=OB.alloc h [.int .i64 cols,.slice s.a s.l s.c]
 have eF:=aj.alloc h [.int .i64 cols,.slice s.a s.l s.c]
 generalize dB:h.alloc [.int .i64 cols,.slice s.a s.l s.c]=h1 at du eF
 refine⟨h1,aR (k:=rs.length+1) (by decide) Dh ?_,eF⟩
 rw[zr]
 unfold lz alp V1 cU
 rw[dB]
 dsimp only
 unfold eG
 rw[ae (du.cell rfl)]
 by_cases c1:cols<0
 ·rw[if_neg (by simp[c1]),if_pos (.inl c1)]
 ·rw[if_pos (by simp;omega),ae (du.cell rfl)]
  by_cases c2:cols>256
  ·rw[if_neg (by simp;omega),if_pos (by omega)]
  ·rw[if_pos (by simp;omega),ai (s:=s) (du.cell rfl),hs.len]
   by_cases c3:rs.length>256
   ·rw[if_pos (by simp;omega),if_pos (by omega)]
   ·rw[if_neg (by simp;omega),if_neg (by omega),ai (s:=s) (du.cell rfl),hs.len]
    unfold V0
    have l1:=ahy (fl:=fl) (k:=rs.length+1) (En M fl (rs.length+1) (fun(y4:Int) q=>some (Value.int .i64 y4,q))) (fun(y4:Int) q=>some (Value.int .i64 y4,q)) du (hs.quiet eF) hm (some g) rs.length 0 (rs.length+1) (by omega) (by omega)
    refine Eq.trans l1 ?_
    rw[List.drop_zero]
    split
    ·unfold En AZ C4
     dsimp only
     rw[ai (s:=s) (du.cell rfl),hs.len]
     have l2:=ahz (fl:=fl) (k:=rs.length+1) (yf M fl (rs.length+1) (fun(y4:Int) q=>some (Value.int .i64 y4,q))) (fun(y4:Int) q=>some (Value.int .i64 y4,q)) (gf.quiet eF) (hs.quiet eF) hm hw rs.length 0 (rs.length+1) (by omega) (by omega)
     refine Eq.trans l2 ?_
     rw[List.drop_zero]
     split<;>rfl
    ·rfl
end
end Go.Abs.P
end
section
namespace Go.Abs
theorem OB.zX{R:Type}{h:AH}{b:Nat}{vs xs:List Value}(p:OB h b vs){fl:Nat}(bL:fl≤b)(hl:xs.length=vs.length)(h0:0<xs.length)(hx:xs.all yp=true)(K:AH→Option R):
 Abs.st fl h ⟨b,0,none⟩ xs K=K (h.put b (some xs)):=by
 unfold Abs.st
 simp only[p.iq,if_pos bL]
 rw[if_pos h0,if_pos (by omega),if_pos hx,RB _ _ _ (by omega)]
 simp
theorem Pn{fl:Nat}{h:AH}(v0 v:List Value)(bL:fl≤h.next)(hl:v.length=v0.length)(h0:0<v.length)(hv:v.all yp=true):∃h2,(∀{R:Type} (K:Nat→AH→Option R),(cU h v0 fun b h1=>st fl h1 ⟨b,0,none⟩ v fun h2=>K b h2)=K h.next h2)∧OB h2 h.next v∧aj h h2:=by
 have o:=OB.alloc h v0
 refine⟨(h.alloc v0).put h.next (some v),fun K=>?_,o.put _,(aj.alloc ..).put (Nat.le_refl _) _⟩
 show st fl (h.alloc v0) ⟨h.next,0,none⟩ v _=_
 rw[o.zX bL hl h0 hv]
end Go.Abs
namespace Go.Abs.P
open Go.Abs Go.Fld
theorem xW{D:FD}{cols:Int}{rs:List (List Int)}(h:eG D cols rs=0):0≤cols∧cols≤256∧rs.length≤256∧∃rows:List (List (El D)),rs=rows.map vl∧Fld.fy cols.toNat rows:=by
 unfold eG at h
 split at h
 ·cases h
 ·rename_i c1
  split at h
  ·rename_i c2
   split at h
   ·rename_i c3
    refine⟨by omega,by omega,by omega,?_⟩
    simp only[List.all_eq_true,decide_eq_true_eq] at c2 c3
    have key:∀rs:List (List Int),(∀r∈rs,(r.length:Int)=cols)→(∀r∈rs,∀x∈r,Ki D x=true)→∃rows:List (List (El D)),rs=rows.map vl∧Fld.fy cols.toNat rows:=by
     intro rs
     induction rs with
     |nil=>intro _ _;exact⟨[],rfl,fun r hr=>by cases hr⟩
     |cons r rs ih=>
      intro h1 h2
      obtain⟨rows,e1,e2⟩:=ih (fun x hx=>h1 x (List.mem_cons_of_mem _ hx)) (fun x hx=>h2 x (List.mem_cons_of_mem _ hx))
      obtain⟨l,e3⟩:=ata (h2 r (List.mem_cons_self ..))
      refine⟨l::rows,by rw[List.map_cons,←e1,←e3],fun x hx=>?_⟩
      rcases List.mem_cons.1 hx with rfl|hx
      ·have:=h1 r (List.mem_cons_self ..)
       rw[e3,cB] at this;omega
      ·exact e2 x hx
    exact key rs c2 c3
   ·cases h
  ·cases h
section
variable{fl:Nat}{h:AH}{mod:Sl}{xs:List Int}
theorem RJ(p m:Int)(bu:SI h mod xs)(hb:xs.length≤po)(bL:fl≤h.next){b:Nat}{cols:Int}{s:Sl}{rs:List (List Int)}(ob:OB h b [.int .i64 cols,.slice s.a s.l s.c])(hs:RR h s rs)(hm:rs.length≤65536)(hw:∀r∈rs,r.length≤65536):
 ∃h',aj h h'∧((¬wN p m xs∧M fl fn.dG [.agg ⟨[.int .i64 p,.int .i64 m,.slice mod.a mod.l mod.c]⟩,.slice (some ⟨b,0,none⟩) 1 1] h=some (.tuple ⟨[.pointer none,.int .i64 1]⟩,h'))∨
  (∃D gen g,Ow p m xs D∧GF h' g D gen∧h.next≤g.block∧M fl fn.dG [.agg ⟨[.int .i64 p,.int .i64 m,.slice mod.a mod.l mod.c]⟩,.slice (some ⟨b,0,none⟩) 1 1] h=some (.tuple ⟨[.pointer (if eG D cols rs=0 then some g else none),.int .i64 (eG D cols rs)]⟩,h'))):=by
 have du:=OB.alloc h [.int .i64 p,.int .i64 m,.slice mod.a mod.l mod.c]
 have eF:=aj.alloc h [.int .i64 p,.int .i64 m,.slice mod.a mod.l mod.c]
 generalize dB:h.alloc [.int .i64 p,.int .i64 m,.slice mod.a mod.l mod.c]=h1 at du eF
 have go:∀{r},dG M fl 3 p m mod ⟨some ⟨b,0,none⟩,1,1⟩ h=some r→M fl fn.dG [.agg ⟨[.int .i64 p,.int .i64 m,.slice mod.a mod.l mod.c]⟩,.slice (some ⟨b,0,none⟩) 1 1] h=some r:=by
  intro r he
  refine aR (k:=3) (by decide) Fv ?_
  rw[Bz (p1:=⟨some ⟨b,0,none⟩,1,1⟩)];exact he
 obtain⟨h2,q2,hN⟩:=Kj (fl:=fl) p m (bu.quiet eF) hb (by have:=eF.1;omega)
 have lY:=eF.trans q2
 rcases hN with⟨nf,e⟩|⟨D,gen,g,hF,gf,gb,e⟩
 ·refine⟨h2,lY,.inl ⟨nf,go ?_⟩⟩
  unfold dG aes QL cU
  rw[dB]
  dsimp only
  rw[ae (du.cell rfl),ae (du.cell rfl),ai (s:=mod) (du.cell rfl),ah e]
  simp only[bj,aL,ch,fE,asInt,if_true]
  rw[if_pos (by simp)]
 ·have ob2:=ob.quiet lY
  obtain⟨h3,k3,ob3,q3⟩:=Pn (fl:=fl) (h:=h2) [.int .i64 0,.slice none 0 0] [.int .i64 cols,.slice s.a s.l s.c] (by have:=lY.1;omega) rfl (by simp) rfl
  obtain⟨h4,c1,c2⟩:=aaB (fl:=fl) (gf.quiet q3) cols (hs.quiet (lY.trans q3)) hm hw
  have gf4:=(gf.quiet q3).quiet c2
  have un:dG M fl 3 p m mod ⟨some ⟨b,0,none⟩,1,1⟩ h=if (eG D cols rs !=0)=true then some (.tuple ⟨[.pointer none,.int .i64 (eG D cols rs)]⟩,h4) else some (.tuple ⟨[.pointer (some g),.int .i64 0]⟩,h4):=by
   unfold dG aes QL cU
   rw[dB]
   dsimp only
   rw[ae (du.cell rfl),ae (du.cell rfl),ai (s:=mod) (du.cell rfl),ah e]
   simp only[bj,aL,ch,fE,asInt,if_true]
   rw[if_neg (by simp)]
   unfold Vp
   show qx M fl 3 (vo M fl 3 (Eb M fl 3 _) _ 2) _ _ _ _ _ _ h2=_
   unfold qx
   rw[if_pos (by simp)]
   have au9:∀{R:Type} (K:Addr→Option R),idx 2 (⟨some ⟨b,0,none⟩,1,1⟩:Sl) 0 K=K ⟨b,0,none⟩:=by
    intro R K
    unfold idx
    simp
   rw[au9]
   dsimp only
   rw[ae (ob2.cell rfl),ai (s:=s) (ob2.cell rfl),k3,ae (ob3.cell rfl),ai (s:=s) (ob3.cell rfl),ah c1]
   simp only[asInt,if_true]
   split
   ·rfl
   ·show qx M fl 3 (vo M fl 3 (Eb M fl 3 _) _ 1) _ _ _ _ _ _ h4=_
    unfold qx
    rw[show bM (0+1)=1 from by rw[kH (by omega) (by omega)];rfl,if_neg (by simp)]
    rfl
  refine⟨h4,(lY.trans q3).trans c2,.inr ⟨D,gen,g,hF,gf4,by have:=eF.1;omega,go (un.trans ?_)⟩⟩
  by_cases c:eG D cols rs=0
  ·rw[if_neg (by simp[c]),if_pos c,c]
  ·rw[if_pos (by simp[c]),if_neg c]
inductive azI (h h':AH) (p m:Int) (xs:List Int) (cols:Int) (rs:List (List Int)) (v:Value):Prop where
 |kA (nf:¬wN p m xs) (e:v=.tuple ⟨[.agg ⟨[.int .i64 0,.slice none 0 0]⟩,.slice none 0 0,.int .i64 1]⟩)
 |bad (D:FD) (gen:Nat) (hF:Ow p m xs D) (hg:D.aK gen) (ne:eG D cols rs≠0) (e:v=.tuple ⟨[.agg ⟨[.int .i64 0,.slice none 0 0]⟩,.slice none 0 0,.int .i64 (eG D cols rs)]⟩)
 |ok (D:FD) (gen:Nat) (hF:Ow p m xs D) (hg:D.aK gen) (rows:List (List (El D))) (er:rs=rows.map vl) (wid:Fld.fy cols.toNat rows) (z:eG D cols rs=0) (s' pv:Sl)
  (rr:RRf h.next h' s' (((FD.aC hg).aY rows cols.toNat).1.map vl)) (ov:OV h.next h' pv (iv (ints ((FD.aC hg).aY rows cols.toNat).2))) (e:v=.tuple ⟨[.agg ⟨[.int .i64 cols,.slice s'.a s'.l s'.c]⟩,.slice pv.a pv.l pv.c,.int .i64 0]⟩)
theorem Dv(p m:Int)(bu:SI h mod xs)(hb:xs.length≤po)(bL:fl≤h.next){cols:Int}{s:Sl}{rs:List (List Int)}(hs:RR h s rs)(hm:rs.length≤65536)(hw:∀r∈rs,r.length≤65536)(hc:cols≠0):
 ∃h' v,M fl fn.cj [.agg ⟨[.int .i64 p,.int .i64 m,.slice mod.a mod.l mod.c]⟩,.agg ⟨[.int .i64 cols,.slice s.a s.l s.c]⟩] h=some (v,h')∧aj h h'∧azI h h' p m xs cols rs v:=by
 have o1:=OB.alloc h [.int .i64 p,.int .i64 m,.slice mod.a mod.l mod.c]
 have q1:=aj.alloc h [.int .i64 p,.int .i64 m,.slice mod.a mod.l mod.c]
 generalize dB:h.alloc [.int .i64 p,.int .i64 m,.slice mod.a mod.l mod.c]=h1 at o1 q1
 have o2:=OB.alloc h1 [.int .i64 cols,.slice s.a s.l s.c]
 have q2:=aj.alloc h1 [.int .i64 cols,.slice s.a s.l s.c]
 generalize OD:h1.alloc [.int .i64 cols,.slice s.a s.l s.c]=h2 at o2 q2
 have o3:=OB.alloc h2 [.int .i64 0,.slice none 0 0]
 have q3:=aj.alloc h2 [.int .i64 0,.slice none 0 0]
 generalize hh3:h2.alloc [.int .i64 0,.slice none 0 0]=h3 at o3 q3
 have o4:=OB.alloc h3 [.int .i64 cols,.slice s.a s.l s.c]
 have q4:=aj.alloc h3 [.int .i64 cols,.slice s.a s.l s.c]
 generalize hh4:h3.alloc [.int .i64 cols,.slice s.a s.l s.c]=h4 at o4 q4
 have q14:=((q1.trans q2).trans q3).trans q4
 have l1:=q1.1
 have l2:=q2.1
 have l3:=q3.1
 have l4:=q4.1
 have l3':=o3.1
 obtain⟨h5,q5,hO⟩:=RJ (fl:=fl) p m (bu.quiet q14) hb (by omega) o4 (hs.quiet q14) hm hw
 have go:∀{r},cj M fl 1 p m mod cols s h=some r→M fl fn.cj [.agg ⟨[.int .i64 p,.int .i64 m,.slice mod.a mod.l mod.c]⟩,.agg ⟨[.int .i64 cols,.slice s.a s.l s.c]⟩] h=some r:=by
  intro r he
  refine aR (k:=1) (by decide) wI ?_
  rw[tG];exact he
 have rK:=(((o1.quiet q2).quiet q3))
 have HN:=(o2.quiet q3)
 have o3':=(o3.quiet q4).quiet q5
 have errw:∀(e:Int) (pt:OA),e≠0→M fl fn.dG [.agg ⟨[.int .i64 p,.int .i64 m,.slice mod.a mod.l mod.c]⟩,.slice (some ⟨h3.next,0,none⟩) 1 1] h4=some (.tuple ⟨[.pointer pt,.int .i64 e]⟩,h5)→
  cj M fl 1 p m mod cols s h=some (.tuple ⟨[.agg ⟨[.int .i64 0,.slice none 0 0]⟩,.slice none 0 0,.int .i64 e]⟩,h5.put h2.next (some [.int .i64 0,.slice none 0 0])):=by
  intro e pt he hop
  unfold cj ad8 cU
  rw[dB]
  dsimp only
  rw[OD,hh3,ae (rK.cell rfl),ae (rK.cell rfl),ai (s:=mod) (rK.cell rfl),ae (HN.cell rfl),ai (s:=s) (HN.cell rfl),hh4,ah hop]
  simp only[bj,aL,ch,fE,asInt,if_true]
  rw[if_pos (by simp[he]),o3'.zX (by omega) rfl (by simp) rfl]
  have Nm:OB (h5.put h2.next (some [.int .i64 0,.slice none 0 0])) h2.next [.int .i64 0,.slice none 0 0]:=o3'.put _
  rw[ae (Nm.cell rfl),ai (s:=⟨none,0,0⟩) (Nm.cell rfl)]
 have qe:aj h (h5.put h2.next (some [.int .i64 0,.slice none 0 0])):=(q14.trans q5).put (by omega) _
 rcases hO with⟨nf,e⟩|⟨D,gen,g,hF,gf,gb,e⟩
 ·exact⟨_,_,go (errw 1 none (by omega) e),qe,.kA nf rfl⟩
 ·by_cases c:eG D cols rs=0
  ·rw[if_pos c,c] at e
   obtain⟨c0,c1,c2,rows,er,wid⟩:=xW c
   have ate:=gf.RM
   have hs5:=hs.quiet (q14.trans q5)
   rw[er] at hs5 c2
   obtain⟨h6,s',pv,r1,r2,r3,r4⟩:=acs (fl:=fl) (w:=cols.toNat) ate gf hs5 (by omega) (by omega) (by have:=q5.1;omega) (by simp at c2;omega) wid
   have hct:((cols.toNat:Nat):Int)=cols:=Int.toNat_of_nonneg c0
   rw[hct] at r1
   have Xk:=((rK.quiet q4).quiet q5)
   have ah6:=(HN.quiet q4).quiet q5
   have aw9:=o3'.quiet r2
   have Nm:OB (h6.put h2.next (some [.int .i64 cols,.slice s'.a s'.l s'.c])) h2.next [.int .i64 cols,.slice s'.a s'.l s'.c]:=aw9.put _
   have n5:=q5.1
   have q6:=(q14.trans q5).trans r2
   refine⟨h6.put h2.next (some [.int .i64 cols,.slice s'.a s'.l s'.c]),_,go ?_,q6.put (by omega) _,.ok D gen hF ate rows er wid c s' pv ?_ ?_ rfl⟩
   ·unfold cj ad8 cU
    rw[dB]
    dsimp only
    rw[OD,hh3,ae (rK.cell rfl),ae (rK.cell rfl),ai (s:=mod) (rK.cell rfl),ae (HN.cell rfl),ai (s:=s) (HN.cell rfl),hh4,ah e]
    simp only[bj,aL,ch,fE,asInt,if_true]
    rw[if_neg (by simp),ai (s:=s) (ah6.cell rfl),ae (ah6.cell rfl),ah r1]
    simp only[bj,aL,ch,bB]
    rw[ae ((ah6.quiet r2).cell rfl),aw9.zX (xs:=[.int .i64 cols,.slice s'.a s'.l s'.c]) (by omega) rfl (by simp) rfl,ae (Nm.cell rfl),ai (s:=s') (Nm.cell rfl)]
   ·exact(r3.Ao (iI.put (o:=0) (t:=none) _) (by omega)).mono (by omega)
   ·exact(r4.ajp (h':=h6.put h2.next (some [.int .i64 cols,.slice s'.a s'.l s'.c])) (Nat.le_refl _) (fun a ha=>P4 _ (by have:=r4.ge a ha;omega))).mono (by omega)
  ·rw[if_neg c] at e
   exact⟨_,_,go (errw _ none c e),qe,.bad D gen hF gf.RM c rfl⟩
end
end Go.Abs.P
end
section
namespace Go.Abs
theorem aW{R:Type}{h h1:AH}{cs:List Value}(e:h.alloc cs=h1)(K:Nat→AH→Option R):cU h cs K=K h.next h1:=by subst e;rfl
end Go.Abs
namespace Go.Abs.P
open Go.Abs Go.Fld
section
variable{fl:Nat}{h:AH}
theorem acu{R:Type}{k:Nat}(kn:av R)(kr:au R){s t:Sl}{xs ys:List Int}(hs:SI h s xs)(ht:SI h t ys)(hl:xs.length=ys.length)(hb:xs.length≤po):
 ∀(d i m:Nat),i+d=xs.length→d<m→zi M fl k kn kr m s t (xs.length:Int) (i:Int) h=if xs.drop i=ys.drop i then kn h else kr false h:=by
 intro d
 induction d with
 |zero=>
  intro i m hi hm
  obtain⟨m,rfl⟩:∃j,m=j+1:=⟨m-1,by omega⟩
  show qH M fl k _ _ kr s t _ (i:Int) h=_
  unfold qH
  rw[if_neg (by simp;omega),List.drop_of_length_le (by omega),List.drop_of_length_le (by omega),if_pos rfl]
 |succ d ih=>
  intro i m hi hm
  obtain⟨m,rfl⟩:∃j,m=j+1:=⟨m-1,by omega⟩
  show qH M fl k _ _ kr s t _ (i:Int) h=_
  unfold qH
  rw[if_pos (by simp;omega),hs.read (by omega) (by simp;omega),ht.read (by omega) (by simp;omega)]
  simp only[Int.toNat_natCast]
  rw[List.drop_eq_getElem_cons (show i<xs.length by omega),List.drop_eq_getElem_cons (show i<ys.length by omega),jm (by omega)]
  by_cases e:xs[i]=ys[i]
  ·rw[if_neg (by simp[e]),ih (i+1) m (by omega) (by omega)]
   simp only[List.cons.injEq,e,true_and]
  ·rw[if_pos (by simp[e])]
   simp only[List.cons.injEq,e,false_and,if_false]
theorem acv{s t:Sl}{xs ys:List Int}(hs:SI h s xs)(ht:SI h t ys)(hb:xs.length≤po):M fl fn.gT [.slice s.a s.l s.c,.slice t.a t.l t.c] h=some (.bool (decide (xs=ys)),h):=by
 refine aR (k:=xs.length+1) (by decide) Df ?_
 rw[zj]
 unfold gT ak9 VN
 by_cases hl:xs.length=ys.length
 ·rw[if_neg (by rw[hs.len,ht.len];simp[hl])]
  unfold VM
  rw[hs.len]
  have:=acu (fl:=fl) (k:=xs.length+1) (Ek M fl (xs.length+1) (fun(y4:Bool) q=>some (Value.bool y4,q))) (fun(y4:Bool) q=>some (Value.bool y4,q)) hs ht hl hb xs.length 0 (xs.length+1) (by omega) (by omega)
  refine this.trans ?_
  by_cases e:xs=ys
  ·simp[e,Ek]
  ·simp[e]
 ·have e:xs≠ys:=fun e=>hl (by rw[e])
  rw[if_pos (by rw[hs.len,ht.len];simp;omega)]
  simp[e]
theorem amy{R:Type}{k:Nat}(kn:av R)(kr:au R){s t:Sl}{xs ys:List (List Int)}(hs:RR h s xs)(ht:RR h t ys)(hl:xs.length=ys.length)(hb:xs.length≤po)(hw:∀r∈xs,r.length≤po):
 ∀(d i m:Nat),i+d=xs.length→d<m→zh M fl k kn kr m t (.func (.func fn.gT) ⟨[]⟩ ⟨[]⟩) s (xs.length:Int) (i:Int) h=if xs.drop i=ys.drop i then kn h else kr false h:=by
 intro d
 induction d with
 |zero=>
  intro i m hi hm
  obtain⟨m,rfl⟩:∃j,m=j+1:=⟨m-1,by omega⟩
  show qG M fl k _ _ kr _ _ _ _ (i:Int) h=_
  unfold qG
  rw[if_neg (by simp;omega),List.drop_of_length_le (by omega),List.drop_of_length_le (by omega),if_pos rfl]
 |succ d ih=>
  intro i m hi hm
  obtain⟨m,rfl⟩:∃j,m=j+1:=⟨m-1,by omega⟩
  have hix:i<xs.length:=by omega
  have hiy:i<ys.length:=by omega
  obtain⟨tx,a1,a2⟩:=hs.read hix
  obtain⟨ty,b1,b2⟩:=ht.read hiy
  show qG M fl k _ _ kr _ _ _ _ (i:Int) h=_
  unfold qG
  rw[if_pos (by simp;omega),a2,b2]
  unfold kE
  simp only[List.nil_append,List.append_nil]
  rw[acv a1 b1 (hw _ (List.getElem_mem hix))]
  simp only[asBool]
  rw[List.drop_eq_getElem_cons hix,List.drop_eq_getElem_cons hiy,jm (by omega)]
  by_cases e:xs[i]=ys[i]
  ·rw[if_neg (by simp[e]),ih (i+1) m (by omega) (by omega)]
   simp only[List.cons.injEq,e,true_and]
  ·rw[if_pos (by simp[e])]
   simp only[List.cons.injEq,e,false_and,if_false]
theorem amz{s t:Sl}{xs ys:List (List Int)}(hs:RR h s xs)(ht:RR h t ys)(hb:xs.length≤po)(hw:∀r∈xs,r.length≤po):M fl fn.fQ [.slice s.a s.l s.c,.slice t.a t.l t.c,.func (.func fn.gT) ⟨[]⟩ ⟨[]⟩] h=some (.bool (decide (xs=ys)),h):=by
 refine aR (k:=xs.length+1) (by decide) wJ ?_
 rw[tI]
 unfold fQ ak7 VK
 by_cases hl:xs.length=ys.length
 ·rw[if_neg (by rw[hs.len,ht.len];simp[hl])]
  unfold VJ
  rw[hs.len]
  have:=amy (fl:=fl) (k:=xs.length+1) (Ei M fl (xs.length+1) (fun(y4:Bool) q=>some (Value.bool y4,q))) (fun(y4:Bool) q=>some (Value.bool y4,q)) hs ht hl hb hw xs.length 0 (xs.length+1) (by omega) (by omega)
  refine this.trans ?_
  by_cases e:xs=ys
  ·simp[e,Ei]
  ·simp[e]
 ·have e:xs≠ys:=fun e=>hl (by rw[e])
  rw[if_pos (by rw[hs.len,ht.len];simp;omega)]
  simp[e]
inductive SpE (p m:Int) (xs:List Int) (cols:Int) (rs:List (List Int)) (e:Int):Prop where
 |kA (nf:¬wN p m xs) (he:e=1)
 |bad (D:FD) (gen:Nat) (hF:Ow p m xs D) (hg:D.aK gen) (ne:eG D cols rs≠0) (he:e=eG D cols rs)
 |form (D:FD) (gen:Nat) (hF:Ow p m xs D) (hg:D.aK gen) (rows:List (List (El D))) (er:rs=rows.map vl) (wid:Fld.fy cols.toNat rows) (z:eG D cols rs=0) (ne:((FD.aC hg).aY rows cols.toNat).1≠rows) (he:e=5)
 |ok (D:FD) (gen:Nat) (hF:Ow p m xs D) (hg:D.aK gen) (rows:List (List (El D))) (er:rs=rows.map vl) (wid:Fld.fy cols.toNat rows) (z:eG D cols rs=0) (eq:((FD.aC hg).aY rows cols.toNat).1=rows) (he:e=0)
theorem zY{D:FD}{a b:List (List (El D))}(h:a.map vl=b.map vl):a=b:=(List.map_inj_right (fun x y e=>auJ e)).1 h
theorem SpE.unique{p m:Int}{xs:List Int}{cols:Int}{rs:List (List Int)}{e e':Int}(h:SpE p m xs cols rs e)(h':SpE p m xs cols rs e'):e=e':=by
 have aC:∀{D gen},Ow p m xs D→D.aK gen→wN p m xs:=fun h1 h2=>⟨_,_,h1,h2⟩
 cases h with
 |kA nf he=>cases h' with
  |kA nf' Kw=>omega
  |bad D gen hF hg ne Kw=>exact absurd (aC hF hg) nf
  |form D gen hF hg rows er wid z ne Kw=>exact absurd (aC hF hg) nf
  |ok D gen hF hg rows er wid z eq Kw=>exact absurd (aC hF hg) nf
 |bad D gen hF hg ne he=>cases h' with
  |kA nf' Kw=>exact absurd (aC hF hg) nf'
  |bad D' wR HM hg' ne' Kw=>have:=cX hF HM;subst this;rw[he,Kw]
  |form D' wR HM hg' rows er wid z ne' Kw=>have:=cX hF HM;subst this;exact absurd z ne
  |ok D' wR HM hg' rows er wid z eq Kw=>have:=cX hF HM;subst this;exact absurd z ne
 |form D gen hF hg rows er wid z ne he=>cases h' with
  |kA nf' Kw=>exact absurd (aC hF hg) nf'
  |bad D' wR HM hg' ne' Kw=>have:=cX hF HM;subst this;exact absurd z ne'
  |form D' wR HM hg' rows er wid z ne' Kw=>omega
  |ok D' wR HM hg' lh er' axh z' eq Kw=>
   have:=cX hF HM;subst this
   have:=zY (er.symm.trans er');subst this
   exact absurd eq ne
 |ok D gen hF hg rows er wid z eq he=>cases h' with
  |kA nf' Kw=>exact absurd (aC hF hg) nf'
  |bad D' wR HM hg' ne' Kw=>have:=cX hF HM;subst this;exact absurd z ne'
  |form D' wR HM hg' lh er' axh z' ne Kw=>
   have:=cX hF HM;subst this
   have:=zY (er.symm.trans er');subst this
   exact absurd eq ne
  |ok D' wR HM hg' lh er' axh z' eq' Kw=>omega
variable{mod:Sl}{xs:List Int}
theorem acw(p m:Int)(bu:SI h mod xs)(hb:xs.length≤po)(bL:fl≤h.next){cols:Int}{s:Sl}{rs:List (List Int)}(hs:RR h s rs)(hm:rs.length≤65536)(hw:∀r∈rs,r.length≤65536)(hc:cols≠0):
 ∃(h':AH) (pt:OA) (n:Int) (s1 s2:Sl) (e:Int),M fl fn.fX [.agg ⟨[.int .i64 p,.int .i64 m,.slice mod.a mod.l mod.c]⟩,.agg ⟨[.int .i64 cols,.slice s.a s.l s.c]⟩] h=some (.tuple ⟨[.agg ⟨[.pointer pt,.int .i64 n,.slice s1.a s1.l s1.c,.slice s2.a s2.l s2.c]⟩,.int .i64 e]⟩,h')∧aj h h'∧SpE p m xs cols rs e:=by
 have o1:=OB.alloc h [.int .i64 p,.int .i64 m,.slice mod.a mod.l mod.c]
 have q1:=aj.alloc h [.int .i64 p,.int .i64 m,.slice mod.a mod.l mod.c]
 generalize dB:h.alloc [.int .i64 p,.int .i64 m,.slice mod.a mod.l mod.c]=h1 at o1 q1
 have o2:=OB.alloc h1 [.int .i64 cols,.slice s.a s.l s.c]
 have q2:=aj.alloc h1 [.int .i64 cols,.slice s.a s.l s.c]
 generalize OD:h1.alloc [.int .i64 cols,.slice s.a s.l s.c]=h2 at o2 q2
 have o3:=OB.alloc h2 [.pointer none,.int .i64 0,.slice none 0 0,.slice none 0 0]
 have q3:=aj.alloc h2 [.pointer none,.int .i64 0,.slice none 0 0,.slice none 0 0]
 generalize hh3:h2.alloc [.pointer none,.int .i64 0,.slice none 0 0,.slice none 0 0]=h3 at o3 q3
 have Xu:=(q1.trans q2).trans q3
 have l1:=q1.1
 have l2:=q2.1
 have l3:=o3.1
 have rK:=(o1.quiet q2).quiet q3
 have HN:=o2.quiet q3
 obtain⟨h4,v,c1,c2,c3⟩:=Dv (fl:=fl) p m (bu.quiet Xu) hb (by omega) (hs.quiet Xu) hm hw hc
 have go:∀{r},fX M fl 1 p m mod cols s h=some r→M fl fn.fX [.agg ⟨[.int .i64 p,.int .i64 m,.slice mod.a mod.l mod.c]⟩,.agg ⟨[.int .i64 cols,.slice s.a s.l s.c]⟩] h=some r:=by
  intro r he
  refine aR (k:=1) (by decide) Kd ?_
  rw[CV];exact he
 have l4:=c2.1
 have errw:∀(n:Int) (s1 s2:Sl) (e:Int),e≠0→v=.tuple ⟨[.agg ⟨[.int .i64 n,.slice s1.a s1.l s1.c]⟩,.slice s2.a s2.l s2.c,.int .i64 e]⟩→
  ∃h',fX M fl 1 p m mod cols s h=some (.tuple ⟨[.agg ⟨[.pointer none,.int .i64 0,.slice (none:OA) 0 0,.slice none 0 0]⟩,.int .i64 e]⟩,h')∧aj h h':=by
  intro n s1 s2 e he hv
  obtain⟨h5,k5,o5,q5⟩:=Pn (fl:=fl) (h:=h4) [.int .i64 0,.slice none 0 0] [.int .i64 n,.slice s1.a s1.l s1.c] (by omega) rfl (by simp) rfl
  have o3':=(o3.quiet c2).quiet q5
  have Nm:OB (h5.put h2.next (some [.pointer none,.int .i64 0,.slice none 0 0,.slice none 0 0])) h2.next [.pointer none,.int .i64 0,.slice none 0 0,.slice none 0 0]:=o3'.put _
  refine⟨h5.put h2.next (some [.pointer none,.int .i64 0,.slice none 0 0,.slice none 0 0]),?_,((Xu.trans c2).trans q5).put (by omega) _⟩
  unfold fX aef
  rw[aW dB,aW OD,aW hh3,ae (rK.cell rfl),ae (rK.cell rfl),ai (s:=mod) (rK.cell rfl),ae (HN.cell rfl),ai (s:=s) (HN.cell rfl),ah c1,hv]
  simp only[bj,aL,ch,asAgg,bB,asInt,if_true]
  rw[k5,if_pos (by simp[he]),o3'.zX (xs:=[.pointer none,.int .i64 0,.slice none 0 0,.slice none 0 0]) (by omega) rfl (by simp) rfl,
   vG (s:=none) (Nm.cell rfl),ae (Nm.cell rfl),ai (s:=⟨none,0,0⟩) (Nm.cell rfl),ai (s:=⟨none,0,0⟩) (Nm.cell rfl)]
 cases c3 with
 |kA nf e=>
  obtain⟨h',r1,r2⟩:=errw 0 ⟨none,0,0⟩ ⟨none,0,0⟩ 1 (by omega) e
  exact⟨h',none,0,⟨none,0,0⟩,⟨none,0,0⟩,1,go r1,r2,.kA nf rfl⟩
 |bad D gen hF hg ne e=>
  obtain⟨h',r1,r2⟩:=errw 0 ⟨none,0,0⟩ ⟨none,0,0⟩ _ ne e
  exact⟨h',none,0,⟨none,0,0⟩,⟨none,0,0⟩,_,go r1,r2,.bad D gen hF hg ne rfl⟩
 |ok D gen hF hg rows er wid z s' pv rr ov e=>
  obtain⟨h5,k5,o5,q5⟩:=Pn (fl:=fl) (h:=h4) [.int .i64 0,.slice none 0 0] [.int .i64 cols,.slice s'.a s'.l s'.c] (by omega) rfl (by simp) rfl
  have q15:=(Xu.trans c2).trans q5
  have o3':=(o3.quiet c2).quiet q5
  have ah6:=(HN.quiet c2).quiet q5
  have Xk:=(rK.quiet c2).quiet q5
  have rr5:=(rr.quiet q5).rr
  have hs5:=hs.quiet q15
  obtain⟨c0,cc1,cc2,_⟩:=xW z
  have aDA:((FD.aC hg).aY rows cols.toNat).1.length≤65536:=by
   unfold Fld.aY
   simp only[List.length_take,Fld.vE]
   rw[er,List.length_map] at cc2;omega
  have hcw:∀r∈((FD.aC hg).aY rows cols.toNat).1.map vl,r.length≤po:=by
   intro r hr
   obtain⟨r',hr',rfl⟩:=List.mem_map.1 hr
   have:=Fld.afJ (FD.aC hg) cols.toNat 0 rows [] wid (Nat.zero_le _) r' (List.mem_of_mem_take hr')
   rw[cB,this];unfold po;omega
  have heq:=amz (fl:=fl) rr5 hs5 (by rw[List.length_map];unfold po;omega) hcw
  have pre:∀r,(if (!(decide (((FD.aC hg).aY rows cols.toNat).1.map vl=rs)))=true then st fl h5 ⟨h2.next,0,none⟩ [.pointer none,.int .i64 0,.slice none 0 0,.slice none 0 0] fun h39=>ldN h39 h2.next 0 fun p55=>aF .i64 h39 h2.next (0+1) fun n56=>bC h39 h2.next (0+1+1) fun s57=>bC h39 h2.next (0+1+1+1) fun s58=>some (Value.tuple ⟨[.agg ⟨[.pointer p55,.int .i64 n56,.slice s57.a s57.l s57.c,.slice s58.a s58.l s58.c]⟩,.int .i64 5]⟩,h39)
   else aD M fl fn.eK [.agg ⟨[.int .i64 p,.int .i64 m,.slice mod.a mod.l mod.c]⟩] h5 fun v43 h44=>bj v43 fun l45=>aL l45 fun v46 l47=>fE v46 fun p48=>aL l47 fun v49 l50=>asInt .i64 v49 fun n51=>ch l50 (aF .i64 h44 h1.next 0 fun n52=>bC h44 h1.next 1 fun s53=>st fl h44 ⟨h2.next,0,none⟩ [.pointer p48,.int .i64 n52,.slice s53.a s53.l s53.c,.slice pv.a pv.l pv.c] fun h54=>ldN h54 h2.next 0 fun p55=>aF .i64 h54 h2.next (0+1) fun n56=>bC h54 h2.next (0+1+1) fun s57=>bC h54 h2.next (0+1+1+1) fun s58=>some (Value.tuple ⟨[.agg ⟨[.pointer p55,.int .i64 n56,.slice s57.a s57.l s57.c,.slice s58.a s58.l s58.c]⟩,.int .i64 n51]⟩,h54)))=r→
   fX M fl 1 p m mod cols s h=r:=by
   intro r hr
   unfold fX aef
   rw[aW dB,aW OD,aW hh3,ae (rK.cell rfl),ae (rK.cell rfl),ai (s:=mod) (rK.cell rfl),ae (HN.cell rfl),ai (s:=s) (HN.cell rfl),ah c1,e]
   simp only[bj,aL,ch,asAgg,bB,asInt,if_true]
   rw[k5,if_neg (by simp),ai (s:=s') (o5.cell rfl),ai (s:=s) (ah6.cell rfl),ah heq]
   simp only[asBool]
   rw[ae (Xk.cell rfl),ae (Xk.cell rfl),ai (s:=mod) (Xk.cell rfl)]
   exact hr
  by_cases ceq:((FD.aC hg).aY rows cols.toNat).1=rows
  ·have hd:decide (((FD.aC hg).aY rows cols.toNat).1.map vl=rs)=true:=by rw[ceq,er];simp
   rw[hd] at pre
   obtain⟨h6,q6,hN⟩:=Kj (fl:=fl) p m (bu.quiet q15) hb (by have:=q15.1;omega)
   rcases hN with⟨nf,_⟩|⟨D',wR,g,HM,gf,gb,eN⟩
   ·exact absurd ⟨D,gen,hF,hg⟩ nf
   ·have o3q:=o3'.quiet q6
    have o2q:=ah6.quiet q6
    have Nm:OB (h6.put h2.next (some [.pointer (some g),.int .i64 cols,.slice s.a s.l s.c,.slice pv.a pv.l pv.c])) h2.next [.pointer (some g),.int .i64 cols,.slice s.a s.l s.c,.slice pv.a pv.l pv.c]:=o3q.put _
    refine⟨h6.put h2.next (some [.pointer (some g),.int .i64 cols,.slice s.a s.l s.c,.slice pv.a pv.l pv.c]),some g,cols,s,pv,0,go (pre _ ?_),(q15.trans q6).put (by omega) _,.ok D gen hF hg rows er wid z ceq rfl⟩
    rw[if_neg (by simp),ah eN]
    simp only[bj,aL,ch,fE,asInt,if_true]
    rw[ae (o2q.cell rfl),ai (s:=s) (o2q.cell rfl),o3q.zX (xs:=[.pointer (some g),.int .i64 cols,.slice s.a s.l s.c,.slice pv.a pv.l pv.c]) (by omega) rfl (by simp) rfl,
     vG (s:=some g) (Nm.cell rfl),ae (Nm.cell rfl),ai (s:=s) (Nm.cell rfl),ai (s:=pv) (Nm.cell rfl)]
  ·have hd:decide (((FD.aC hg).aY rows cols.toNat).1.map vl=rs)=false:=by
    rw[er];simp only[decide_eq_false_iff_not];exact fun h=>ceq (zY h)
   rw[hd] at pre
   have Nm:OB (h5.put h2.next (some [.pointer none,.int .i64 0,.slice none 0 0,.slice none 0 0])) h2.next [.pointer none,.int .i64 0,.slice none 0 0,.slice none 0 0]:=o3'.put _
   refine⟨h5.put h2.next (some [.pointer none,.int .i64 0,.slice none 0 0,.slice none 0 0]),none,0,⟨none,0,0⟩,⟨none,0,0⟩,5,go (pre _ ?_),q15.put (by omega) _,.form D gen hF hg rows er wid z ceq rfl⟩
   rw[if_pos (by simp),o3'.zX (xs:=[.pointer none,.int .i64 0,.slice none 0 0,.slice none 0 0]) (by omega) rfl (by simp) rfl,
    vG (s:=none) (Nm.cell rfl),ae (Nm.cell rfl),ai (s:=⟨none,0,0⟩) (Nm.cell rfl),ai (s:=⟨none,0,0⟩) (Nm.cell rfl)]
theorem aaC(p m:Int)(bu:SI h mod xs)(hb:xs.length≤po)(bL:fl≤h.next){cols:Int}{s:Sl}{rs:List (List Int)}(hs:RR h s rs)(hm:rs.length≤65536)(hw:∀r∈rs,r.length≤65536)(hc:cols≠0):
 ∃(h':AH) (e:Int),M fl fn.nD [.agg ⟨[.int .i64 p,.int .i64 m,.slice mod.a mod.l mod.c]⟩,.agg ⟨[.int .i64 cols,.slice s.a s.l s.c]⟩] h=some (.int .i64 e,h')∧aj h h'∧SpE p m xs cols rs e:=by
 have o1:=OB.alloc h [.int .i64 p,.int .i64 m,.slice mod.a mod.l mod.c]
 have q1:=aj.alloc h [.int .i64 p,.int .i64 m,.slice mod.a mod.l mod.c]
 generalize dB:h.alloc [.int .i64 p,.int .i64 m,.slice mod.a mod.l mod.c]=h1 at o1 q1
 have o2:=OB.alloc h1 [.int .i64 cols,.slice s.a s.l s.c]
 have q2:=aj.alloc h1 [.int .i64 cols,.slice s.a s.l s.c]
 generalize OD:h1.alloc [.int .i64 cols,.slice s.a s.l s.c]=h2 at o2 q2
 have q12:=q1.trans q2
 have l1:=q12.1
 have rK:=o1.quiet q2
 obtain⟨h3,pt,n,s1,s2,e,c1,c2,c3⟩:=acw (fl:=fl) p m (bu.quiet q12) hb (by omega) (hs.quiet q12) hm hw hc
 obtain⟨h4,k4,o4,q4⟩:=Pn (fl:=fl) (h:=h3) [.pointer none,.int .i64 0,.slice none 0 0,.slice none 0 0] [.pointer pt,.int .i64 n,.slice s1.a s1.l s1.c,.slice s2.a s2.l s2.c] (by have:=c2.1;omega) rfl (by simp) rfl
 refine⟨h4,e,aR (k:=1) (by decide) Fu ?_,(q12.trans c2).trans q4,c3⟩
 rw[Bv]
 unfold nD akm
 rw[aW dB,aW OD]
 rw[ae (rK.cell rfl),ae (rK.cell rfl),ai (s:=mod) (rK.cell rfl),ae (o2.cell rfl),ai (s:=s) (o2.cell rfl),ah c1]
 simp only[bj,aL,ch,asAgg,bB,fE,asInt,if_true]
 rw[k4]
theorem Dw(n:Int):M fl fn.kK [.int .i64 n] h=some (.int .i64 (if n<1∨n>64 then 4 else 0),h):=by
 refine aR (k:=1) (by decide) Fs ?_
 rw[Br]
 unfold kK akf
 by_cases c1:n<1
 ·rw[if_neg (by simp[c1]),if_pos (.inl c1)]
 ·rw[if_pos (by simp;omega)]
  by_cases c2:n>64
  ·rw[if_pos (by simp;omega),if_pos (.inr c2)]
  ·rw[if_neg (by simp;omega),if_neg (by omega)]
theorem aaD(p m n:Int)(s:Sl)(bL:fl≤h.next):∃h',M fl fn.vH [.agg ⟨[.int .i64 p,.int .i64 m,.slice mod.a mod.l mod.c,.int .i64 n,.slice s.a s.l s.c]⟩] h=some (.agg ⟨[.int .i64 n,.slice s.a s.l s.c]⟩,h')∧aj h h':=by
 have o1:=OB.alloc h [.int .i64 p,.int .i64 m,.slice mod.a mod.l mod.c,.int .i64 n,.slice s.a s.l s.c]
 have q1:=aj.alloc h [.int .i64 p,.int .i64 m,.slice mod.a mod.l mod.c,.int .i64 n,.slice s.a s.l s.c]
 generalize dB:h.alloc [.int .i64 p,.int .i64 m,.slice mod.a mod.l mod.c,.int .i64 n,.slice s.a s.l s.c]=h1 at o1 q1
 have o2:=OB.alloc h1 [.int .i64 0,.slice none 0 0]
 have q2:=aj.alloc h1 [.int .i64 0,.slice none 0 0]
 generalize OD:h1.alloc [.int .i64 0,.slice none 0 0]=h2 at o2 q2
 have l1:=q1.1
 have rK:=o1.quiet q2
 have o2p:OB (h2.put h1.next (some [.int .i64 n,.slice s.a s.l s.c])) h1.next [.int .i64 n,.slice s.a s.l s.c]:=o2.put _
 refine⟨h2.put h1.next (some [.int .i64 n,.slice s.a s.l s.c]),aR (k:=1) (by decide) Rw ?_,(q1.trans q2).put (by omega) _⟩
 rw[IL]
 unfold vH aj4 cU
 rw[dB]
 dsimp only
 rw[OD,ae (rK.cell rfl),ai (s:=s) (rK.cell rfl),o2.zX (xs:=[.int .i64 n,.slice s.a s.l s.c]) (by omega) rfl (by simp) rfl,ae (o2p.cell rfl),ai (s:=s) (o2p.cell rfl)]
inductive Xt (p m:Int) (xs:List Int) (n:Int) (rs:List (List Int)) (e:Int):Prop where
 |kA (nf:¬wN p m xs) (he:e=1)
 |len (f:wN p m xs) (hn:n<1∨n>64) (he:e=4)
 |sp (f:wN p m xs) (hn:¬(n<1∨n>64)) (he:SpE p m xs n rs e)
theorem Xt.unique{p m:Int}{xs:List Int}{n:Int}{rs:List (List Int)}{e e':Int}(h:Xt p m xs n rs e)(h':Xt p m xs n rs e'):e=e':=by
 cases h with
 |kA nf he=>cases h' with
  |kA nf' Kw=>omega
  |len f hn Kw=>exact absurd f nf
  |sp f hn Kw=>exact absurd f nf
 |len f hn he=>cases h' with
  |kA nf' Kw=>exact absurd f nf'
  |len f' hn' Kw=>omega
  |sp f' hn' Kw=>exact absurd hn hn'
 |sp f hn he=>cases h' with
  |kA nf' Kw=>exact absurd f nf'
  |len f' hn' Kw=>exact absurd hn' hn
  |sp f' hn' Kw=>exact he.unique Kw
def ca(p m:Int)(mod:Sl)(n:Int)(s:Sl):Value:=.agg ⟨[.int .i64 p,.int .i64 m,.slice mod.a mod.l mod.c,.int .i64 n,.slice s.a s.l s.c]⟩
theorem Nj(p m:Int)(bu:SI h mod xs)(hb:xs.length≤po)(bL:fl≤h.next){n:Int}{s:Sl}{rs:List (List Int)}(hs:RR h s rs)(hm:rs.length≤65536)(hw:∀r∈rs,r.length≤65536):
 ∃(h':AH) (e:Int),M fl fn.fW [ca p m mod n s] h=some (.int .i64 e,h')∧aj h h'∧Xt p m xs n rs e:=by
 have o1:=OB.alloc h [.int .i64 p,.int .i64 m,.slice mod.a mod.l mod.c,.int .i64 n,.slice s.a s.l s.c]
 have q1:=aj.alloc h [.int .i64 p,.int .i64 m,.slice mod.a mod.l mod.c,.int .i64 n,.slice s.a s.l s.c]
 generalize dB:h.alloc [.int .i64 p,.int .i64 m,.slice mod.a mod.l mod.c,.int .i64 n,.slice s.a s.l s.c]=h1 at o1 q1
 have l1:=q1.1
 obtain⟨h2,e1,c1,c2,c3⟩:=aas (fl:=fl) p m (bu.quiet q1) hb (by omega)
 have q2:=q1.trans c2
 have o2:=o1.quiet c2
 have l2:=q2.1
 have go:∀{r},fW M fl 1 p m mod n s h=some r→M fl fn.fW [ca p m mod n s] h=some r:=by
  intro r he
  refine aR (k:=1) (by decide) Ka ?_
  unfold ca
  rw[CR];exact he
 rcases c3 with⟨f,rfl⟩|⟨nf,rfl⟩
 ·by_cases hn:n<1∨n>64
  ·refine⟨h2,4,go ?_,q2,.len f hn rfl⟩
   unfold fW Yu cU
   rw[dB]
   dsimp only
   rw[ae (o1.cell rfl),ae (o1.cell rfl),ai (s:=mod) (o1.cell rfl),ah c1]
   simp only[asInt,if_true]
   rw[if_neg (by simp),ae (o2.cell rfl),ah (Dw n),if_pos hn]
   simp only[if_true]
   rw[if_pos (by simp)]
  ·obtain⟨h3,g1,g2⟩:=aaD (mod:=mod) (fl:=h2.next) (h:=h2) p m n s (Nat.le_refl _)
   have q3:=q2.trans g2
   obtain⟨h4,e4,s1,s2,s3⟩:=aaC (fl:=fl) p m (bu.quiet q3) hb (by have:=q3.1;omega) (hs.quiet q3) hm hw (cols:=n) (by omega)
   refine⟨h4,e4,go ?_,q3.trans s2,.sp f hn s3⟩
   unfold fW Yu cU
   rw[dB]
   dsimp only
   rw[ae (o1.cell rfl),ae (o1.cell rfl),ai (s:=mod) (o1.cell rfl),ah c1]
   simp only[asInt,if_true]
   rw[if_neg (by simp),ae (o2.cell rfl),ah (Dw n),if_neg hn]
   simp only[if_true]
   rw[if_neg (by simp),ae (o2.cell rfl),ae (o2.cell rfl),ai (s:=mod) (o2.cell rfl),ae (o2.cell rfl),ae (o2.cell rfl),ai (s:=mod) (o2.cell rfl),ae (o2.cell rfl),ai (s:=s) (o2.cell rfl),ah g1]
   simp only[asAgg,aL,ch,bB,asInt,if_true]
   rw[ah s1]
   simp only[if_true]
 ·refine⟨h2,1,go ?_,q2,.kA nf rfl⟩
  unfold fW Yu cU
  rw[dB]
  dsimp only
  rw[ae (o1.cell rfl),ae (o1.cell rfl),ai (s:=mod) (o1.cell rfl),ah c1]
  simp only[asInt,if_true]
  rw[if_pos (by simp)]
end
end Go.Abs.P
end
section
namespace Go.Abs.P
open Go.Abs Go.Fld
section
variable{D:FD}{mod:Sl}{h:AH}{fl:Nat}
theorem ahA{R:Type}{k:Nat}{h0:AH}{bx:Nat}(kn:av R)(kr:ag R)(r:RF h0 mod D)(hx:OB h0 bx [.int .i64 (D.p:Int),.int .i64 (D.m:Int),.slice mod.a mod.l mod.c]){s:Sl}{xs:List Int}(hs:SI h0 s xs)(hm:xs.length≤65536):
 ∀(d i f:Nat) (h:AH),i+d=xs.length→d<f→aj h0 h→∃h',aj h0 h'∧ql M fl k kn kr f s ⟨bx,0,none⟩ (i:Int) h=if (xs.drop i).all (Ki D)=true then kn h' else kr 2 h':=by
 intro d
 induction d with
 |zero=>
  intro i f h hi hf hq
  obtain⟨f,rfl⟩:∃j,f=j+1:=⟨f-1,by omega⟩
  refine⟨h,hq,?_⟩
  show qk M fl k _ _ _ _ _ _ h=_
  unfold qk
  rw[hs.len,if_neg (by simp;omega),List.drop_of_length_le (by omega)];rfl
 |succ d ih=>
  intro i f h hi hf hq
  obtain⟨f,rfl⟩:∃j,f=j+1:=⟨f-1,by omega⟩
  have mX:i<xs.length:=by omega
  have tP:=hx.quiet hq
  obtain⟨h1,a1,a2⟩:=aax (fl:=fl) (r.quiet hq) xs[i]
  have un:ql M fl k kn kr (f+1) s ⟨bx,0,none⟩ (i:Int) h=if (!(Ki D xs[i]))=true then kr 2 h1 else ql M fl k kn kr f s ⟨bx,0,none⟩ ((i+1:Nat):Int) h1:=by
   show qk M fl k _ _ _ _ _ _ h=_
   unfold qk
   dsimp only
   rw[hs.len,if_pos (by simp;omega),ae (tP.cell rfl),ae (tP.cell rfl),ai (s:=mod) (tP.cell rfl),(hs.quiet hq).read (by omega) (by simp;omega)]
   simp only[Int.toNat_natCast]
   rw[ah (show M fl fn.kN [.agg ⟨[.int .i64 (D.p:Int),.int .i64 (D.m:Int),.slice mod.a mod.l mod.c]⟩,.int .i64 xs[i]] h=_ from a1)]
   simp only[asBool]
   rw[aw (i+1) (by push_cast;rfl) (by omega)]
  rw[un,List.drop_eq_getElem_cons mX,List.all_cons]
  by_cases c:Ki D xs[i]=true
  ·obtain⟨h',e1,e2⟩:=ih (i+1) f h1 (by omega) (by omega) (hq.trans a2)
   refine⟨h',e1,?_⟩
   rw[if_neg (by simp[c]),c,Bool.true_and];exact e2
  ·refine⟨h1,hq.trans a2,?_⟩
   rw[if_pos (by simp[c]),if_neg (by simp[c])]
theorem TP(r:RF h mod D){s:Sl}{xs:List Int}(hs:SI h s xs)(hm:xs.length≤65536):∃h',M fl fn.ir [fa D mod,.slice s.a s.l s.c] h=some (.int .i64 (if xs.all (Ki D)=true then 0 else 2),h')∧aj h h':=by
 have du:=rI h D mod
 have eF:=aj.alloc h [.int .i64 (D.p:Int),.int .i64 (D.m:Int),.slice mod.a mod.l mod.c]
 generalize dB:h.alloc [.int .i64 (D.p:Int),.int .i64 (D.m:Int),.slice mod.a mod.l mod.c]=h1 at du eF
 obtain⟨h',e1,e2⟩:=ahA (fl:=fl) (k:=xs.length+1) (KZ M fl (xs.length+1) (fun(y4:Int) q=>some (Value.int .i64 y4,q))) (fun(y4:Int) q=>some (Value.int .i64 y4,q)) (r.quiet eF) du (hs.quiet eF) hm xs.length 0 (xs.length+1) h1 (by omega) (by omega) (aj.refl _)
 refine⟨h',aR (k:=xs.length+1) (by decide) Oo ?_,eF.trans e1⟩
 unfold fa
 rw[IN]
 unfold ir aj8 Va
 rw[aW dB]
 refine Eq.trans e2 ?_
 rw[List.drop_zero]
 split<;>rfl
theorem ahB{R:Type}{k:Nat}{bx by':Nat}{cols:Int}(kn:I3 R)(kr:ag R){s:Sl}(hy:OB h by' [.int .i64 cols,.slice s.a s.l s.c]){rs:List (List Int)}(hs:RR h s rs)(hm:rs.length≤65536):
 ∀(d i f:Nat),i+d=rs.length→d<f→yU M fl k kn kr f ⟨bx,0,none⟩ ⟨by',0,none⟩ (i:Int) h=if (rs.drop i).all (fun r=>decide ((r.length:Int)=cols))=true then kn ⟨bx,0,none⟩ ⟨by',0,none⟩ h else kr 3 h:=by
 intro d
 induction d with
 |zero=>
  intro i f hi hf
  obtain⟨f,rfl⟩:∃j,f=j+1:=⟨f-1,by omega⟩
  show qw M fl k _ _ _ _ _ _ h=_
  unfold qw
  dsimp only
  rw[ai (s:=s) (hy.cell rfl),hs.len,if_neg (by simp;omega),List.drop_of_length_le (by omega)];rfl
 |succ d ih=>
  intro i f hi hf
  obtain⟨f,rfl⟩:∃j,f=j+1:=⟨f-1,by omega⟩
  have mX:i<rs.length:=by omega
  obtain⟨t,ht1,ht2⟩:=hs.read mX
  show qw M fl k _ _ _ _ _ _ h=_
  unfold qw
  dsimp only
  rw[ai (s:=s) (hy.cell rfl),hs.len,if_pos (by simp;omega),ai (s:=s) (hy.cell rfl),ht2,ae (hy.cell rfl),ht1.len,List.drop_eq_getElem_cons mX,List.all_cons]
  by_cases c:(rs[i].length:Int)=cols
  ·have e:decide ((rs[i].length:Int)=cols)=true:=by simp[c]
   rw[if_neg (by simp[c]),e,Bool.true_and,aw (i+1) (by push_cast;rfl) (by omega)]
   exact ih (i+1) f (by omega) (by omega)
  ·rw[if_pos (by simp[c]),if_neg (by simp[c])]
theorem ahC{R:Type}{k:Nat}{h0:AH}{bx by':Nat}{cols:Int}(kn:av R)(kr:ag R)(r:RF h0 mod D)(hx:OB h0 bx [.int .i64 (D.p:Int),.int .i64 (D.m:Int),.slice mod.a mod.l mod.c]){s:Sl}(hy:OB h0 by' [.int .i64 cols,.slice s.a s.l s.c]){rs:List (List Int)}(hs:RR h0 s rs)(hm:rs.length≤65536)(hw:∀r∈rs,r.length≤65536):
 ∀(d i f:Nat) (h:AH),i+d=rs.length→d<f→aj h0 h→∃h',aj h0 h'∧iy M fl k kn kr f ⟨bx,0,none⟩ ⟨by',0,none⟩ (i:Int) h=if (rs.drop i).all (fun r=>r.all (Ki D))=true then kn h' else kr 2 h':=by
 intro d
 induction d with
 |zero=>
  intro i f h hi hf hq
  obtain⟨f,rfl⟩:∃j,f=j+1:=⟨f-1,by omega⟩
  have hyq:=hy.quiet hq
  refine⟨h,hq,?_⟩
  show ix M fl k _ _ _ _ _ _ h=_
  unfold ix
  dsimp only
  rw[ai (s:=s) (hyq.cell rfl),hs.len,if_neg (by simp;omega),List.drop_of_length_le (by omega)];rfl
 |succ d ih=>
  intro i f h hi hf hq
  obtain⟨f,rfl⟩:∃j,f=j+1:=⟨f-1,by omega⟩
  have mX:i<rs.length:=by omega
  have hyq:=hy.quiet hq
  have tP:=hx.quiet hq
  obtain⟨t,ht1,ht2⟩:=(hs.quiet hq).read mX
  obtain⟨h1,a1,a2⟩:=TP (fl:=fl) (r.quiet hq) ht1 (hw _ (List.getElem_mem mX))
  have un:iy M fl k kn kr (f+1) ⟨bx,0,none⟩ ⟨by',0,none⟩ (i:Int) h=if ((if rs[i].all (Ki D)=true then (0:Int) else 2) !=0)=true then kr (if rs[i].all (Ki D)=true then (0:Int) else 2) h1 else iy M fl k kn kr f ⟨bx,0,none⟩ ⟨by',0,none⟩ ((i+1:Nat):Int) h1:=by
   show ix M fl k _ _ _ _ _ _ h=_
   unfold ix
   dsimp only
   rw[ai (s:=s) (hyq.cell rfl),hs.len,if_pos (by simp;omega),ae (tP.cell rfl),ae (tP.cell rfl),ai (s:=mod) (tP.cell rfl),ai (s:=s) (hyq.cell rfl),ht2,
    ah (show M fl fn.ir [.agg ⟨[.int .i64 (D.p:Int),.int .i64 (D.m:Int),.slice mod.a mod.l mod.c]⟩,.slice t.a t.l t.c] h=_ from a1)]
   simp only[asInt,if_true]
   rw[aw (i+1) (by push_cast;rfl) (by omega)]
  rw[un,List.drop_eq_getElem_cons mX,List.all_cons]
  by_cases c:rs[i].all (Ki D)=true
  ·obtain⟨h',e1,e2⟩:=ih (i+1) f h1 (by omega) (by omega) (hq.trans a2)
   refine⟨h',e1,?_⟩
   rw[if_pos c,if_neg (by simp),c,Bool.true_and];exact e2
  ·refine⟨h1,hq.trans a2,?_⟩
   rw[if_neg c,if_pos (by simp),if_neg (by simp[c])]
inductive MaE (p m:Int) (xs:List Int) (cols:Int) (rs:List (List Int)) (e:Int):Prop where
 |kA (nf:¬wN p m xs) (he:e=1)
 |mat (D:FD) (gen:Nat) (hF:Ow p m xs D) (hg:D.aK gen) (he:e=eG D cols rs)
theorem WZ{xs:List Int}(p m:Int)(bu:SI h mod xs)(hb:xs.length≤po)(bL:fl≤h.next){cols:Int}{s:Sl}{rs:List (List Int)}(hs:RR h s rs)(hm:rs.length≤65536)(hw:∀r∈rs,r.length≤65536):
 ∃(h':AH) (e:Int),M fl fn.gR [.agg ⟨[.int .i64 p,.int .i64 m,.slice mod.a mod.l mod.c]⟩,.agg ⟨[.int .i64 cols,.slice s.a s.l s.c]⟩] h=some (.int .i64 e,h')∧aj h h'∧MaE p m xs cols rs e:=by
 have o1:=OB.alloc h [.int .i64 p,.int .i64 m,.slice mod.a mod.l mod.c]
 have q1:=aj.alloc h [.int .i64 p,.int .i64 m,.slice mod.a mod.l mod.c]
 generalize dB:h.alloc [.int .i64 p,.int .i64 m,.slice mod.a mod.l mod.c]=h1 at o1 q1
 have o2:=OB.alloc h1 [.int .i64 cols,.slice s.a s.l s.c]
 have q2:=aj.alloc h1 [.int .i64 cols,.slice s.a s.l s.c]
 generalize OD:h1.alloc [.int .i64 cols,.slice s.a s.l s.c]=h2 at o2 q2
 have q12:=q1.trans q2
 have l1:=q12.1
 have rK:=o1.quiet q2
 obtain⟨h3,e,c1,c2,c3⟩:=Nh (fl:=fl) p m (bu.quiet q12) hb (by omega)
 have q3:=q12.trans c2
 have HN:=o2.quiet c2
 have Xk:=rK.quiet c2
 have go:∀{r},gR M fl (rs.length+1) p m mod cols s h=some r→M fl fn.gR [.agg ⟨[.int .i64 p,.int .i64 m,.slice mod.a mod.l mod.c]⟩,.agg ⟨[.int .i64 cols,.slice s.a s.l s.c]⟩] h=some r:=by
  intro r he
  refine aR (k:=rs.length+1) (by decide) SS ?_
  rw[NN];exact he
 rcases c3 with⟨⟨D,gen,hF,hg⟩,rfl⟩|⟨nf,rfl⟩
 ·have un:∀r,(if decide (cols<0)=false then if decide (cols>256)=false then if decide (((s.l:Nat):Int)>256)=true then some (Value.int .i64 3,h3) else I5 M fl (rs.length+1) (fun(y4:Int) q=>some (Value.int .i64 y4,q)) ⟨h.next,0,none⟩ ⟨h1.next,0,none⟩ 0 h3 else some (Value.int .i64 3,h3) else some (Value.int .i64 3,h3))=r→gR M fl (rs.length+1) p m mod cols s h=r:=by
   intro r hr
   unfold gR aep QI
   rw[aW dB,aW OD,ae (rK.cell rfl),ae (rK.cell rfl),ai (s:=mod) (rK.cell rfl),ah c1]
   simp only[asInt,if_true]
   rw[if_neg (by simp),ae (HN.cell rfl),ae (HN.cell rfl),ai (s:=s) (HN.cell rfl)]
   exact hr
  by_cases c1:cols<0
  ·exact⟨h3,3,go (un _ (by rw[if_neg (by simp[c1])])),q3,.mat D gen hF hg (by unfold eG;rw[if_pos (.inl c1)])⟩
  ·by_cases c2:cols>256
   ·exact⟨h3,3,go (un _ (by rw[if_pos (by simp;omega),if_neg (by simp;omega)])),q3,.mat D gen hF hg (by unfold eG;rw[if_pos (by omega)])⟩
   ·by_cases c3:rs.length>256
    ·exact⟨h3,3,go (un _ (by rw[if_pos (by simp;omega),if_pos (by simp;omega),hs.len,if_pos (by simp;omega)])),q3,.mat D gen hF hg (by unfold eG;rw[if_pos (by omega)])⟩
    ·have hsq:=hs.quiet q3
     have l:=ahB (fl:=fl) (k:=rs.length+1) (bx:=h.next) (D9 M fl (rs.length+1) (fun(y4:Int) q=>some (Value.int .i64 y4,q))) (fun(y4:Int) q=>some (Value.int .i64 y4,q)) HN hsq hm rs.length 0 (rs.length+1) (by omega) (by omega)
     rw[List.drop_zero] at l
     have hme:eG D cols rs=if rs.all (fun r=>decide ((r.length:Int)=cols))=true then (if rs.all (fun r=>r.all (Ki D))=true then 0 else 2) else 3:=by unfold eG;rw[if_neg (by omega)]
     by_cases c4:rs.all (fun r=>decide ((r.length:Int)=cols))=true
     ·rw[if_pos c4] at l hme
      have rf:RF h3 mod D:=⟨hF.ok,by have:=bu.quiet q3;rwa[hF.hx] at this⟩
      have hp:=hF.hp
      have hmm:=hF.hm
      rw[hp,hmm] at Xk
      obtain⟨h4,q4,l2⟩:=ahC (fl:=fl) (k:=rs.length+1) (yb M fl (rs.length+1) (fun(y4:Int) q=>some (Value.int .i64 y4,q))) (fun(y4:Int) q=>some (Value.int .i64 y4,q)) rf Xk HN hsq hm hw rs.length 0 (rs.length+1) h3 (by omega) (by omega) (aj.refl _)
      rw[List.drop_zero] at l2
      refine⟨h4,eG D cols rs,go (un _ ?_),q3.trans q4,.mat D gen hF hg rfl⟩
      rw[if_pos (by simp;omega),if_pos (by simp;omega),hs.len,if_neg (by simp;omega)]
      unfold I5
      refine Eq.trans l ?_
      unfold D9 AK CY
      refine Eq.trans l2 ?_
      rw[hme]
      split<;>rfl
     ·rw[if_neg c4] at l hme
      refine⟨h3,3,go (un _ ?_),q3,.mat D gen hF hg hme.symm⟩
      rw[if_pos (by simp;omega),if_pos (by simp;omega),hs.len,if_neg (by simp;omega)]
      unfold I5
      exact l
 ·refine⟨h3,1,go ?_,q3,.kA nf rfl⟩
  unfold gR aep QI
  rw[aW dB,aW OD,ae (rK.cell rfl),ae (rK.cell rfl),ai (s:=mod) (rK.cell rfl),ah c1]
  simp only[asInt,if_true]
  rw[if_pos (by simp)]
theorem S5{R:Type}{k:Nat}(kn:av R)(kr:au R){s t:Sl}{xs ys:List (List Int)}(hs:RR h s xs)(ht:RR h t ys)(hl:xs.length=ys.length)(hb:xs.length≤po)(hw:∀r∈xs,r.length≤po):
 ∀(d i m:Nat),i+d=xs.length→d<m→yN M fl k kn kr m s t (i:Int) h=if xs.drop i=ys.drop i then kn h else kr false h:=by
 intro d
 induction d with
 |zero=>
  intro i m hi hm
  obtain⟨m,rfl⟩:∃j,m=j+1:=⟨m-1,by omega⟩
  show qg M fl k _ _ kr _ _ (i:Int) h=_
  unfold qg
  rw[hs.len,if_neg (by simp;omega),List.drop_of_length_le (by omega),List.drop_of_length_le (by omega),if_pos rfl]
 |succ d ih=>
  intro i m hi hm
  obtain⟨m,rfl⟩:∃j,m=j+1:=⟨m-1,by omega⟩
  have hix:i<xs.length:=by omega
  have hiy:i<ys.length:=by omega
  obtain⟨tx,a1,a2⟩:=hs.read hix
  obtain⟨ty,b1,b2⟩:=ht.read hiy
  show qg M fl k _ _ kr _ _ (i:Int) h=_
  unfold qg
  rw[hs.len,if_pos (by simp;omega),a2,b2,ah (S3 a1 b1 (hw _ (List.getElem_mem hix)))]
  simp only[asBool]
  rw[List.drop_eq_getElem_cons hix,List.drop_eq_getElem_cons hiy,jm (by omega)]
  by_cases e:xs[i]=ys[i]
  ·rw[if_neg (by simp[e]),ih (i+1) m (by omega) (by omega)]
   simp only[List.cons.injEq,e,true_and]
  ·rw[if_pos (by simp[e])]
   simp only[List.cons.injEq,e,false_and,if_false]
theorem S6{s t:Sl}{xs ys:List (List Int)}(hs:RR h s xs)(ht:RR h t ys)(hb:xs.length≤po)(hw:∀r∈xs,r.length≤po):M fl fn.jd [.slice s.a s.l s.c,.slice t.a t.l t.c] h=some (.bool (decide (xs=ys)),h):=by
 refine aR (k:=xs.length+1) (by decide) zK ?_
 rw[vP]
 unfold jd ajR UZ
 by_cases hl:xs.length=ys.length
 ·rw[if_neg (by rw[hs.len,ht.len];simp[hl])]
  unfold UY
  have:=S5 (fl:=fl) (k:=xs.length+1) (DW M fl (xs.length+1) (fun(y4:Bool) q=>some (Value.bool y4,q))) (fun(y4:Bool) q=>some (Value.bool y4,q)) hs ht hl hb hw xs.length 0 (xs.length+1) (by omega) (by omega)
  refine this.trans ?_
  by_cases e:xs=ys
  ·simp[e,DW]
  ·simp[e]
 ·have e:xs≠ys:=fun e=>hl (by rw[e])
  rw[if_pos (by rw[hs.len,ht.len];simp;omega)]
  simp[e]
end
end Go.Abs.P
end
section
namespace Go.Abs.P
open Go.Abs Go.Fld
section
variable{D:FD}{gen:Nat}(hg:D.aK gen){mod:Sl}{h:AH}{fl:Nat}
theorem atb(r:RF h mod D)(x y:El D)(bL:fl≤h.next):∃h',M fl fn.gH [fa D mod,.int .i64 (ve x),.int .i64 (ve y)] h=some (.int .i64 (ve ((FD.aC hg).mul x y)),h')∧aj h h':=by
 obtain⟨h',e1,e2⟩:=TM (fl:=fl) r (ve x) (ve y) bL
 rw[kc,kc] at e1
 exact⟨h',e1,e2⟩
theorem awY(r:RF h mod D)(x y:El D)(bL:fl≤h.next):∃h',M fl fn.nH [fa D mod,.int .i64 (ve x),.int .i64 (ve y)] h=some (.int .i64 (ve ((FD.aC hg).add x y)),h')∧aj h h':=by
 obtain⟨h',e1,e2⟩:=aho (fl:=fl) r (ve x) (ve y) bL
 rw[kc,kc] at e1
 exact⟨h',e1,e2⟩
theorem awZ(r:RF h mod D)(x:El D)(bL:fl≤h.next):∃h',M fl fn.pU [fa D mod,.int .i64 (ve x)] h=some (.int .i64 (ve ((FD.aC hg).neg x)),h')∧aj h h':=by
 obtain⟨h',e1,e2⟩:=ahp (fl:=fl) r (ve x) bL
 rw[kc] at e1
 exact⟨h',e1,e2⟩
theorem aw0(r:RF h mod D)(x:El D)(bL:fl≤h.next):∃h',M fl fn.pV [fa D mod,.int .i64 (ve x)] h=some (.int .i64 (ve ((FD.aC hg).inv x)),h')∧aj h h':=by
 obtain⟨h',e1,e2⟩:=ahr (fl:=fl) r (ve x) bL
 rw[kc] at e1
 exact⟨h',e1,e2⟩
theorem aaE{R:Type}{k:Nat}{h0:AH}{bx b:Nat}(kn:an R)(r:RF h0 mod D)(hx:OB h0 bx [.int .i64 (D.p:Int),.int .i64 (D.m:Int),.slice mod.a mod.l mod.c]){s:Sl}{xs:List (El D)}(a:El D)(hs:SI h0 s (vl xs))(hb:h0.next≤b)(bL:fl≤h0.next)(hm:xs.length≤65536):
 ∀(d i f:Nat) (h:AH),i+d=xs.length→d<f→OB h b (iv (vl ((FD.aC hg).pQ a (xs.take i))++List.replicate d 0))→aj h0 h→
 ∃h',zC M fl k kn f (ve a) s ⟨bx,0,none⟩ ⟨some ⟨b,0,none⟩,xs.length,xs.length⟩ (i:Int) h=kn ⟨some ⟨b,0,none⟩,xs.length,xs.length⟩ h'∧OB h' b (iv (vl ((FD.aC hg).pQ a xs)))∧aj h0 h':=by
 have Fe:s.l=xs.length:=by rw[hs.len];simp
 intro d
 induction d with
 |zero=>
  intro i f h hi hf ho hq
  obtain⟨f,rfl⟩:∃j,f=j+1:=⟨f-1,by omega⟩
  rw[List.take_of_length_le (by omega),List.replicate_zero,List.append_nil] at ho
  refine⟨h,?_,ho,hq⟩
  show rm M fl k _ _ _ _ _ _ _ h=_
  unfold rm
  rw[Fe,if_neg (by simp;omega)]
 |succ d ih=>
  intro i f h hi hf ho hq
  obtain⟨f,rfl⟩:∃j,f=j+1:=⟨f-1,by omega⟩
  have mX:i<xs.length:=by omega
  have tP:=hx.quiet hq
  obtain⟨h1,m1,m2⟩:=atb (fl:=fl) hg (r.quiet hq) a xs[i] (by have:=hq.1;omega)
  have T9:=ho.quiet m2
  have nu:(iv (vl ((FD.aC hg).pQ a (xs.take i))++List.replicate (d+1) 0)).set (0+i) (.int .i64 (ve ((FD.aC hg).mul a xs[i])))=iv (vl ((FD.aC hg).pQ a (xs.take (i+1)))++List.replicate d 0):=by
   rw[kI,Nat.zero_add,List.set_append_right _ _ (by simp[Fld.dQ];omega)]
   have:i-(vl ((FD.aC hg).pQ a (xs.take i))).length=0:=by simp[Fld.dQ];omega
   have hn:(FD.aC hg).pQ a (xs.take (i+1))=(FD.aC hg).pQ a (xs.take i)++[(FD.aC hg).mul a xs[i]]:=by unfold Fld.pQ;rw[List.take_succ_eq_append_getElem mX,List.map_append];rfl
   rw[this,List.replicate_succ,List.set_cons_zero,hn,zW,List.append_assoc]
   rfl
  obtain⟨h',e1,e2,e3⟩:=ih (i+1) f (h1.put b (some (iv (vl ((FD.aC hg).pQ a (xs.take (i+1)))++List.replicate d 0)))) (by omega) (by omega) (T9.put _) ((hq.trans m2).put hb _)
  refine⟨h',?_,e2,e3⟩
  show rm M fl k _ _ _ _ _ _ _ h=_
  unfold rm
  dsimp only
  rw[Fe,if_pos (by simp;omega),ae (tP.cell rfl),ae (tP.cell rfl),ai (s:=mod) (tP.cell rfl),(hs.quiet hq).read (by omega) (by simp;omega)]
  simp only[Int.toNat_natCast,jV]
  rw[ah (show M fl fn.gH [.agg ⟨[.int .i64 (D.p:Int),.int .i64 (D.m:Int),.slice mod.a mod.l mod.c]⟩,.int .i64 (ve a),.int .i64 (ve xs[i])] h=_ from m1)]
  simp only[asInt,if_true]
  rw[aU rfl (show i<xs.length from mX),T9.st (by omega) (by simp[Fld.dQ];omega) rfl,nu,aw (i+1) (by push_cast;rfl) (by omega)]
  exact e1
theorem aaF(r:RF h mod D){s:Sl}{xs:List (El D)}(a:El D)(hs:SI h s (vl xs))(hm:xs.length≤65536)(bL:fl≤h.next):
 ∃h' b,M fl fn.nF [fa D mod,.int .i64 (ve a),.slice s.a s.l s.c] h=some (.slice (some ⟨b,0,none⟩) xs.length xs.length,h')∧h.next≤b∧OB h' b (iv (vl ((FD.aC hg).pQ a xs)))∧aj h h':=by
 have du:=rI h D mod
 have eF:=aj.alloc h [.int .i64 (D.p:Int),.int .i64 (D.m:Int),.slice mod.a mod.l mod.c]
 generalize dB:h.alloc [.int .i64 (D.p:Int),.int .i64 (D.m:Int),.slice mod.a mod.l mod.c]=h1 at du eF
 have ho:=OB.alloc h1 (List.replicate xs.length (Value.int .i64 0))
 rw[show List.replicate xs.length (Value.int .i64 0)=iv (vl ((FD.aC hg).pQ a (xs.take 0))++List.replicate xs.length 0) by simp[iv,vl,Fld.pQ]] at ho
 obtain⟨h',e1,e2,e3⟩:=aaE (fl:=fl) (k:=xs.length+1) hg (Lo M fl (xs.length+1) (fun(y6:Sl) q=>some (Value.slice y6.a y6.l y6.c,q))) (r.quiet eF) du a (hs.quiet eF) (Nat.le_refl _) (by have:=eF.1;omega) hm xs.length 0 (xs.length+1) _ (by omega) (by omega) ho (aj.alloc ..)
 refine⟨h',h1.next,aR (k:=xs.length+1) (by decide) SV ?_,eF.1,e2,eF.trans e3⟩
 unfold fa
 rw[Oe]
 unfold nF alK Wk
 have hl:s.l=xs.length:=by rw[hs.len];simp
 rw[aW dB,hl,jb (by unfold lk;omega),show List.replicate xs.length (Value.int .i64 0)=iv (vl ((FD.aC hg).pQ a (xs.take 0))++List.replicate xs.length 0) by simp[iv,vl,Fld.pQ]]
 exact e1
theorem aaG{R:Type}{k:Nat}{h0:AH}{bx b:Nat}(kn:an R)(r:RF h0 mod D)(hx:OB h0 bx [.int .i64 (D.p:Int),.int .i64 (D.m:Int),.slice mod.a mod.l mod.c]){s t:Sl}{v u:List (El D)}(a:El D)(hs:SI h0 s (vl v))(ht:SI h0 t (vl u))(hl:v.length=u.length)(hb:h0.next≤b)(bL:fl≤h0.next)(hm:v.length≤65536):
 ∀(d i f:Nat) (h:AH),i+d=v.length→d<f→OB h b (iv (vl ((FD.aC hg).bF (v.take i) a (u.take i))++List.replicate d 0))→aj h0 h→
 ∃h',nU M fl k kn f s (ve a) t ⟨bx,0,none⟩ ⟨some ⟨b,0,none⟩,v.length,v.length⟩ (i:Int) h=kn ⟨some ⟨b,0,none⟩,v.length,v.length⟩ h'∧OB h' b (iv (vl ((FD.aC hg).bF v a u)))∧aj h0 h':=by
 have Fe:s.l=v.length:=by rw[hs.len];simp
 intro d
 induction d with
 |zero=>
  intro i f h hi hf ho hq
  obtain⟨f,rfl⟩:∃j,f=j+1:=⟨f-1,by omega⟩
  rw[List.take_of_length_le (by omega),List.take_of_length_le (by omega),List.replicate_zero,List.append_nil] at ho
  refine⟨h,?_,ho,hq⟩
  show ru M fl k _ _ _ _ _ _ _ _ h=_
  unfold ru wB
  rw[Fe,if_neg (by simp;omega)]
 |succ d ih=>
  intro i f h hi hf ho hq
  obtain⟨f,rfl⟩:∃j,f=j+1:=⟨f-1,by omega⟩
  have hiv:i<v.length:=by omega
  have hiu:i<u.length:=by omega
  have hax:((FD.aC hg).bF (v.take i) a (u.take i)).length=i:=by rw[Fld.bH _ _ _ _ (by simp;omega)];simp;omega
  have Nl:(FD.aC hg).bF (v.take (i+1)) a (u.take (i+1))=(FD.aC hg).bF (v.take i) a (u.take i)++[(FD.aC hg).add v[i] ((FD.aC hg).mul a u[i])]:=by
   unfold Fld.bF
   rw[List.take_succ_eq_append_getElem hiv,List.take_succ_eq_append_getElem hiu,List.zipWith_append (by simp;omega)]
   rfl
  have aBt:∀(y:El D),(iv (vl ((FD.aC hg).bF (v.take i) a (u.take i))++List.replicate (d+1) 0)).set (0+i) (.int .i64 (ve y))=iv (vl ((FD.aC hg).bF (v.take i) a (u.take i)++[y])++List.replicate d 0):=by
   intro y
   rw[kI,Nat.zero_add,List.set_append_right _ _ (by simp;omega)]
   have:i-(vl ((FD.aC hg).bF (v.take i) a (u.take i))).length=0:=by simp;omega
   rw[this,List.replicate_succ,List.set_cons_zero,zW,List.append_assoc]
   rfl
  obtain⟨H1,hH1⟩:∃H1,H1=h.put b (some (iv (vl ((FD.aC hg).bF (v.take i) a (u.take i)++[v[i]])++List.replicate d 0))):=⟨_,rfl⟩
  have T9:OB H1 b (iv (vl ((FD.aC hg).bF (v.take i) a (u.take i)++[v[i]])++List.replicate d 0)):=by rw[hH1];exact ho.put _
  have z8:aj h0 H1:=by rw[hH1];exact hq.put hb _
  have hx1:=hx.quiet z8
  have un:∀r,(if (ve u[i] !=0)=true then aD M H1.next fn.gH [.agg ⟨[.int .i64 (D.p:Int),.int .i64 (D.m:Int),.slice mod.a mod.l mod.c]⟩,.int .i64 (ve a),.int .i64 (ve u[i])] H1 fun v17 OE=>asInt .i64 v17 fun Pq=>aD M fl fn.nH [.agg ⟨[.int .i64 (D.p:Int),.int .i64 (D.m:Int),.slice mod.a mod.l mod.c]⟩,.int .i64 (ve v[i]),.int .i64 Pq] OE fun v20 RX=>asInt .i64 v20 fun W9=>idx 1 (⟨some ⟨b,0,none⟩,v.length,v.length⟩:Sl) (i:Int) fun p23=>st fl RX p23 [.int .i64 W9] fun Ab=>nT M fl k (nU M fl k kn f) kn s (ve a) t ⟨bx,0,none⟩ ⟨some ⟨b,0,none⟩,v.length,v.length⟩ (i:Int) Ab
   else nT M fl k (nU M fl k kn f) kn s (ve a) t ⟨bx,0,none⟩ ⟨some ⟨b,0,none⟩,v.length,v.length⟩ (i:Int) H1)=r→nU M fl k kn (f+1) s (ve a) t ⟨bx,0,none⟩ ⟨some ⟨b,0,none⟩,v.length,v.length⟩ (i:Int) h=r:=by
   intro r hr
   show ru M fl k _ _ _ _ _ _ _ _ h=_
   unfold ru wB
   dsimp only
   rw[Fe,if_pos (by simp;omega),(hs.quiet hq).read (by omega) (by simp;omega)]
   simp only[Int.toNat_natCast,jV]
   rw[aU rfl (show i<v.length from hiv),ho.st (by omega) (by simp;omega) rfl,aBt,←hH1,(ht.quiet z8).read (by omega) (by simp;omega)]
   simp only[Int.toNat_natCast,jV]
   rw[ae (hx1.cell rfl),ae (hx1.cell rfl),ai (s:=mod) (hx1.cell rfl),(hs.quiet z8).read (by omega) (by simp;omega)]
   simp only[Int.toNat_natCast,jV]
   rw[ae (hx1.cell rfl),ae (hx1.cell rfl),ai (s:=mod) (hx1.cell rfl),(ht.quiet z8).read (by omega) (by simp;omega)]
   simp only[Int.toNat_natCast,jV]
   exact hr
  by_cases hz:u[i]=(FD.aC hg).zero
  ·have hy:(FD.aC hg).add v[i] ((FD.aC hg).mul a u[i])=v[i]:=by rw[hz,Fld.mul_zero,(FD.aC hg).add_zero]
   rw[hy] at Nl
   rw[←Nl] at T9
   obtain⟨h',e1,e2,e3⟩:=ih (i+1) f H1 (by omega) (by omega) T9 z8
   refine⟨h',un _ ?_,e2,e3⟩
   rw[if_neg (by simp[(eU hg _).2 hz])]
   unfold nT
   rw[aw (i+1) (by push_cast;rfl) (by omega)]
   exact e1
  ·obtain⟨h2,m1,m2⟩:=atb (fl:=H1.next) hg (r.quiet z8) a u[i] (Nat.le_refl _)
   have lY:=z8.trans m2
   obtain⟨h3,n1,n2⟩:=awY (fl:=fl) hg (r.quiet lY) v[i] ((FD.aC hg).mul a u[i]) (by have:=lY.1;omega)
   have Ua:=lY.trans n2
   have ho3:=(T9.quiet m2).quiet n2
   have axc:(iv (vl ((FD.aC hg).bF (v.take i) a (u.take i)++[v[i]])++List.replicate d 0)).set (0+i) (.int .i64 (ve ((FD.aC hg).add v[i] ((FD.aC hg).mul a u[i]))))=iv (vl ((FD.aC hg).bF (v.take (i+1)) a (u.take (i+1)))++List.replicate d 0):=by
    rw[kI,Nat.zero_add,zW,List.append_assoc,List.set_append_right _ _ (by simp;omega)]
    have:i-(vl ((FD.aC hg).bF (v.take i) a (u.take i))).length=0:=by simp;omega
    rw[this,Nl,zW,List.append_assoc]
    rfl
   obtain⟨h',e1,e2,e3⟩:=ih (i+1) f (h3.put b (some (iv (vl ((FD.aC hg).bF (v.take (i+1)) a (u.take (i+1)))++List.replicate d 0)))) (by omega) (by omega) (ho3.put _) (Ua.put hb _)
   refine⟨h',un _ ?_,e2,e3⟩
   rw[if_pos (by simp;exact fun e=>hz ((eU hg _).1 e)),ah (show M H1.next fn.gH [.agg ⟨[.int .i64 (D.p:Int),.int .i64 (D.m:Int),.slice mod.a mod.l mod.c]⟩,.int .i64 (ve a),.int .i64 (ve u[i])] H1=_ from m1)]
   simp only[asInt,if_true]
   rw[ah (show M fl fn.nH [.agg ⟨[.int .i64 (D.p:Int),.int .i64 (D.m:Int),.slice mod.a mod.l mod.c]⟩,.int .i64 (ve v[i]),.int .i64 (ve ((FD.aC hg).mul a u[i]))] h2=_ from n1)]
   simp only[if_true]
   rw[aU rfl (show i<v.length from hiv),ho3.st (by omega) (by simp;omega) rfl,axc]
   unfold nT
   rw[aw (i+1) (by push_cast;rfl) (by omega)]
   exact e1
theorem aaH(r:RF h mod D){s t:Sl}{v u:List (El D)}(a:El D)(hs:SI h s (vl v))(ht:SI h t (vl u))(hl:v.length=u.length)(hm:v.length≤65536)(bL:fl≤h.next):
 ∃h' b,M fl fn.nG [fa D mod,.slice s.a s.l s.c,.int .i64 (ve a),.slice t.a t.l t.c] h=some (.slice (some ⟨b,0,none⟩) v.length v.length,h')∧h.next≤b∧OB h' b (iv (vl ((FD.aC hg).bF v a u)))∧aj h h':=by
 have du:=rI h D mod
 have eF:=aj.alloc h [.int .i64 (D.p:Int),.int .i64 (D.m:Int),.slice mod.a mod.l mod.c]
 generalize dB:h.alloc [.int .i64 (D.p:Int),.int .i64 (D.m:Int),.slice mod.a mod.l mod.c]=h1 at du eF
 have ho:=OB.alloc h1 (List.replicate v.length (Value.int .i64 0))
 have e0:List.replicate v.length (Value.int .i64 0)=iv (vl ((FD.aC hg).bF (v.take 0) a (u.take 0))++List.replicate v.length 0):=by simp[iv,vl,Fld.bF]
 rw[e0] at ho
 obtain⟨h',e1,e2,e3⟩:=aaG (fl:=fl) (k:=v.length+1) hg (Lq M fl (v.length+1) (fun(y6:Sl) q=>some (Value.slice y6.a y6.l y6.c,q))) (r.quiet eF) du a (hs.quiet eF) (ht.quiet eF) hl (Nat.le_refl _) (by have:=eF.1;omega) hm v.length 0 (v.length+1) _ (by omega) (by omega) ho (aj.alloc ..)
 refine⟨h',h1.next,aR (k:=v.length+1) (by decide) SW ?_,eF.1,e2,eF.trans e3⟩
 unfold fa
 rw[Of]
 unfold nG alO Wo
 have hl:s.l=v.length:=by rw[hs.len];simp
 rw[aW dB,hl,jb (by unfold lk;omega),e0]
 exact e1
end
end Go.Abs.P
end
section
namespace Go.Abs.P
open Go.Abs Go.Fld
structure LB{D:FD}(h0 h:AH)(hb:Nat)(ts:List Sl)(rows:List (List (El D))):Prop where
 q:aj h0 h
 Nk:OB h hb (ts.map Sl.v)
 len:ts.length=rows.length
 row:∀(i:Nat) (h1:i<ts.length) (h2:i<rows.length),SI h ts[i] (vl rows[i])∧(∀q,(ts[i]).a=some q→q.block≠hb)
 gh:h0.next≤hb
section
variable{D:FD}{gen:Nat}(hg:D.aK gen){mod:Sl}{h0 h h':AH}{fl k hb bx cap:Nat}{ts:List Sl}{rows:List (List (El D))}{pv:Sl}{ps:List Nat}
theorem LB.quiet(p:LB h0 h hb ts rows)(q:aj h h'):LB h0 h' hb ts rows:=⟨p.q.trans q,p.Nk.quiet q,p.len,fun i h1 h2=>⟨(p.row i h1 h2).1.quiet q,(p.row i h1 h2).2⟩,p.gh⟩
theorem LB.cell(p:LB h0 h hb ts rows){i:Nat}(hi:i<rows.length):h.cell hb (0+i)=some (Sl.v (ts[i]'(by rw[p.len];exact hi))):=by
 refine p.Nk.cell ?_
 rw[Nat.zero_add,List.getElem?_map,List.getElem?_eq_getElem (by rw[p.len];exact hi)];rfl
theorem LB.RI(p:LB h0 h hb ts rows){R:Type}{n i c:Nat}(hn:n=rows.length)(hi:i<rows.length)(hc:c<rows[i].length)(K:Int→Option R):
 (idx 1 (⟨some ⟨hb,0,none⟩,n,cap⟩:Sl) (i:Int) fun q=>bC h q.block q.off fun s2=>idx 1 s2 (c:Int) fun q2=>aF .i64 h q2.block q2.off K)=K (ve rows[i][c]):=by
 have RW:i<ts.length:=by rw[p.len];exact hi
 rw[aU rfl (show i<n by omega)]
 dsimp only
 rw[ai (s:=ts[i]) (p.cell hi),(p.row i RW hi).1.read (by omega) (by simp;exact hc)]
 simp only[Int.toNat_natCast,jV]
theorem LB.set(p:LB h0 h hb ts rows){i:Nat}{t:Sl}{r:List (El D)}(hi:i<rows.length)(ht:SI h t (vl r))(htb:∀q,t.a=some q→q.block≠hb):LB h0 (h.put hb (some ((ts.map Sl.v).set i (Sl.v t)))) hb (ts.set i t) (rows.set i r):=by
 have LP:iI (some ⟨hb,0,none⟩) h (h.put hb (some ((ts.map Sl.v).set i (Sl.v t)))):=iI.put _
 refine⟨p.q.put p.gh _,by rw[List.map_set];exact p.Nk.put _,by simp[p.len],?_,p.gh⟩
 intro j h1 h2
 by_cases e:i=j
 ·subst e
  simp only[List.getElem_set_self]
  exact⟨ht.Ao LP (fun a b ha rM=>by cases rM;exact(htb a ha).symm),htb⟩
 ·simp only[List.getElem_set_ne e]
  have:=p.row j (by simpa using h1) (by simpa using h2)
  exact⟨this.1.Ao LP (fun a b ha rM=>by cases rM;exact(this.2 a ha).symm),this.2⟩
theorem LB.st{R:Type}(p:LB h0 h hb ts rows){n i:Nat}{t:Sl}(hn:n=rows.length)(hi:i<rows.length)(bL:fl≤h0.next)(K:AH→Option R):
 (idx 1 (⟨some ⟨hb,0,none⟩,n,cap⟩:Sl) (i:Int) fun q=>Abs.st fl h q [.slice t.a t.l t.c] K)=K (h.put hb (some ((ts.map Sl.v).set i (Sl.v t)))):=by
 rw[aU rfl (show i<n by omega),p.Nk.st (by have:=p.gh;omega) (by simp[p.len];omega) rfl,Nat.zero_add]
 rfl
structure QV(h0 h:AH)(hb:Nat)(ts:List Sl)(s:Sl)(ps:List Nat):Prop where
 ov:OV h0.next h s (iv (ints ps))
 ne:∀a,s.a=some a→a.block≠hb
 rw:∀t∈ts,∀q,t.a=some q→∀a,s.a=some a→q.block≠a.block
theorem QV.quiet(p:QV h0 h hb ts pv ps)(q:aj h h'):QV h0 h' hb ts pv ps:=⟨p.ov.quiet q,p.ne,p.rw⟩
theorem QV.put(p:QV h0 h hb ts pv ps)(x:Option (List Value)):QV h0 (h.put hb x) hb ts pv ps:=⟨p.ov.ajp (Nat.le_refl _) (fun a ha=>P4 _ (p.ne a ha).symm),p.ne,p.rw⟩
theorem QV.upd(p:QV h0 h hb ts pv ps)(i:Nat){t:Sl}(ht:∀q,t.a=some q→∀a,pv.a=some a→q.block≠a.block):QV h0 h hb (ts.set i t) pv ps:=
 ⟨p.ov,p.ne,fun t' ht'=>(List.mem_or_eq_of_mem_set ht').elim (p.rw t') (fun e=>by subst e;exact ht)⟩
theorem QV.lt(p:QV h0 h hb ts pv ps):∀a,pv.a=some a→a.block<h.next:=fun a ha=>OV.lt p.ov a ha
theorem acx{R:Type}(kn:eQ R){w c:Nat}(lb:LB h0 h hb ts rows)(hw:Fld.fy w rows)(hc:c<w)(hn:rows.length≤65536)(cols at':Int)(bxa:Addr):
 ∀(d i f:Nat),i+d=rows.length→d<f→
 hG M fl k kn f cols bxa ⟨some ⟨hb,0,none⟩,rows.length,cap⟩ pv at' (c:Int) (i:Int) h=kn cols bxa ⟨some ⟨hb,0,none⟩,rows.length,cap⟩ pv at' (c:Int) ((((FD.aC hg).pick rows c d i).getD rows.length:Nat):Int) h:=by
 intro d
 induction d with
 |zero=>
  intro i f hi hf
  obtain⟨f,rfl⟩:∃j,f=j+1:=⟨f-1,by omega⟩
  obtain rfl:i=rows.length:=by omega
  show ed M fl k _ _ _ _ _ _ _ _ _ h=_
  unfold ed
  rw[if_neg (by simp)];rfl
 |succ d ih=>
  intro i f hi hf
  obtain⟨f,rfl⟩:∃j,f=j+1:=⟨f-1,by omega⟩
  have mX:i<rows.length:=by omega
  have hci:c<rows[i].length:=by rw[hw _ (List.getElem_mem mX)];exact hc
  have RP:(FD.aC hg).nX rows i c=rows[i][c]:=Fld.WX _ mX hci
  show ed M fl k _ _ _ _ _ _ _ _ _ h=_
  unfold ed
  rw[if_pos (by simp;omega),lb.RI rfl mX hci]
  by_cases hz:rows[i][c]=(FD.aC hg).zero
  ·have hp:(FD.aC hg).pick rows c (d+1) i=(FD.aC hg).pick rows c d (i+1):=by
    conv=>lhs;unfold Fld.pick
    split
    ·rfl
    ·rename_i iH _;exact absurd (RP.trans hz) iH
   rw[if_pos (by simp[(eU hg _).2 hz]),hp,aw (i+1) (by push_cast;rfl) (by omega)]
   exact ih (i+1) f (by omega) (by omega)
  ·have hp:(FD.aC hg).pick rows c (d+1) i=some i:=by
    unfold Fld.pick
    split
    ·rename_i he _;exact absurd (RP.symm.trans he) hz
    ·rfl
   rw[if_neg (by simp;exact fun e=>hz ((eU hg _).1 e)),hp];rfl
theorem ahD{R:Type}(kn:bw R)(r:RF h0 mod D)(hx:OB h0 bx [.int .i64 (D.p:Int),.int .i64 (D.m:Int),.slice mod.a mod.l mod.c]){w c p:Nat}{aT:List (List (El D))}(hw:Fld.fy w aT)(hc:c<w)(Oy:w≤65536)(hp:p<aT.length)(hn:aT.length≤65536)(bL:fl≤h0.next)(cols:Int):
 ∀(d i f:Nat) (ts:List Sl) (h:AH),i+d=aT.length→d<f→LB h0 h hb ts ((FD.aC hg).iG aT p c i)→QV h0 h hb ts pv ps→
 ∃h' Ce,bP M fl k kn f cols ⟨bx,0,none⟩ ⟨some ⟨hb,0,none⟩,aT.length,cap⟩ pv (p:Int) (c:Int) (i:Int) h=kn cols ⟨bx,0,none⟩ ⟨some ⟨hb,0,none⟩,aT.length,cap⟩ pv (p:Int) (c:Int) h'∧
  LB h0 h' hb Ce ((FD.aC hg).PZ aT p c)∧QV h0 h' hb Ce pv ps:=by
 intro d
 induction d with
 |zero=>
  intro i f ts h hi hf lb qv
  obtain⟨f,rfl⟩:∃j,f=j+1:=⟨f-1,by omega⟩
  obtain rfl:i=aT.length:=by omega
  rw[Fld.aaz] at lb
  refine⟨h,ts,?_,lb,qv⟩
  show cu M fl k _ _ _ _ _ _ _ _ _ h=_
  unfold cu dr
  rw[if_neg (by simp)]
 |succ d ih=>
  intro i f ts h hi hf lb qv
  obtain⟨f,rfl⟩:∃j,f=j+1:=⟨f-1,by omega⟩
  have mX:i<aT.length:=by omega
  have hlen:((FD.aC hg).iG aT p c i).length=aT.length:=Fld.Dt ..
  have hwi:aT[i].length=w:=hw _ (List.getElem_mem mX)
  have hrow:((FD.aC hg).iG aT p c i)[i]'(by omega)=aT[i]:=Fld.Du _ _ _ _ _ mX (.inr (Nat.le_refl _))
  have hci:c<((FD.aC hg).iG aT p c i)[i].length:=by rw[hrow];omega
  have aa0:aT[i].getD c (FD.aC hg).zero=aT[i][c]:=by rw[List.getD_eq_getElem?_getD,List.getElem?_eq_getElem (by omega)];rfl
  have hpr:((FD.aC hg).iG aT p c i)[p]'(by omega)=aT[p]:=Fld.Du _ _ _ _ _ hp (.inl rfl)
  have un:bP M fl k kn (f+1) cols ⟨bx,0,none⟩ ⟨some ⟨hb,0,none⟩,aT.length,cap⟩ pv (p:Int) (c:Int) (i:Int) h=cu M fl k (bP M fl k kn f) kn cols ⟨bx,0,none⟩ ⟨some ⟨hb,0,none⟩,aT.length,cap⟩ pv (p:Int) (c:Int) (i:Int) h:=rfl
  rw[un]
  unfold cu dr
  rw[if_pos (by simp;omega)]
  have same:∀(aaO:(FD.aC hg).iG aT p c (i+1)=(FD.aC hg).iG aT p c i),∃h' Ce,cV M fl k (bP M fl k kn f) kn cols ⟨bx,0,none⟩ ⟨some ⟨hb,0,none⟩,aT.length,cap⟩ pv (p:Int) (c:Int) (i:Int) h=kn cols ⟨bx,0,none⟩ ⟨some ⟨hb,0,none⟩,aT.length,cap⟩ pv (p:Int) (c:Int) h'∧
   LB h0 h' hb Ce ((FD.aC hg).PZ aT p c)∧QV h0 h' hb Ce pv ps:=by
   intro aaO
   unfold cV
   rw[aw (i+1) (by push_cast;rfl) (by omega)]
   exact ih (i+1) f ts h (by omega) (by omega) (by rw[aaO];exact lb) qv
  by_cases c1:i=p
  ·rw[if_neg (by simp[c1])]
   exact same (Fld.Ez _ _ _ _ _ (.inl c1))
  ·have hr:=LB.RI (cap:=cap) lb (R:=R) (n:=aT.length) (i:=i) (c:=c) hlen.symm (by omega) hci
   simp only[hrow] at hr
   rw[if_pos (by simp;omega),hr]
   by_cases c2:aT[i][c]=(FD.aC hg).zero
   ·rw[if_neg (by simp[(eU hg _).2 c2])]
    refine same (Fld.Ez _ _ _ _ _ (.inr ⟨mX,by rw[aa0];exact c2,?_⟩))
    rw[Fld.va hp,hwi,hw _ (List.getElem_mem hp)]
   ·rw[if_pos (by simp;exact fun e=>c2 ((eU hg _).1 e))]
    have hit:i<ts.length:=by rw[lb.len];omega
    have hpt:p<ts.length:=by rw[lb.len];omega
    have tP:=hx.quiet lb.q
    have hn0:=lb.q.1
    obtain⟨h1,m1,m2⟩:=awZ (fl:=h.next) hg (r.quiet lb.q) aT[i][c] (Nat.le_refl _)
    have lb1:=lb.quiet m2
    have ri:=(lb1.row i hit (by omega)).1
    have rp:=(lb1.row p hpt (by omega)).1
    rw[hrow] at ri
    rw[hpr] at rp
    obtain⟨h2,nb,n1,n2,n3,n4⟩:=aaH (fl:=fl) hg (r.quiet lb1.q) ((FD.aC hg).neg aT[i][c]) ri rp (by rw[hwi,hw _ (List.getElem_mem hp)]) (by omega) (by have:=lb1.q.1;omega)
    have lb2:=lb1.quiet n4
    have hhb:=lb1.Nk.1
    have hsi:SI h2 ⟨some ⟨nb,0,none⟩,aT[i].length,aT[i].length⟩ (vl ((FD.aC hg).bF aT[i] ((FD.aC hg).neg aT[i][c]) aT[p])):=by
     have:=n3.si none aT[i].length
     rwa[cB,Fld.bH _ _ _ _ (by rw[hwi,hw _ (List.getElem_mem hp)])] at this
    have lb3:=lb2.set (i:=i) (by omega) hsi (fun q hq=>by cases hq;simp only[ne_eq];omega)
    have e1:((FD.aC hg).iG aT p c i).set i ((FD.aC hg).bF aT[i] ((FD.aC hg).neg aT[i][c]) aT[p])=(FD.aC hg).iG aT p c (i+1):=by
     rw[←Fld.aaA _ _ _ _ _ mX c1,aa0,Fld.va hp]
    rw[e1] at lb3
    obtain⟨h',Ce,r1,r2⟩:=ih (i+1) f _ _ (by omega) (by omega) lb3 ((((qv.quiet m2).quiet n4).put _).upd i (fun q hq a ha=>by cases hq;have:=qv.lt a ha;have:=m2.1;simp only[ne_eq];omega))
    refine⟨h',Ce,?_,r2⟩
    have hs:=fun(K:AH→Option R)=>LB.st (cap:=cap) (fl:=fl) lb2 (R:=R) (n:=aT.length) (i:=i) (t:=⟨some ⟨nb,0,none⟩,aT[i].length,aT[i].length⟩) hlen.symm (by omega) bL K
    rw[ae (tP.cell rfl),ae (tP.cell rfl),ai (s:=mod) (tP.cell rfl),aU rfl (show i<aT.length from mX)]
    dsimp only
    rw[ai (s:=ts[i]) (lb.cell (by omega)),ae (tP.cell rfl),ae (tP.cell rfl),ai (s:=mod) (tP.cell rfl),hr,ah (show M h.next fn.pU [.agg ⟨[.int .i64 (D.p:Int),.int .i64 (D.m:Int),.slice mod.a mod.l mod.c]⟩,.int .i64 (ve aT[i][c])] h=_ from m1)]
    simp only[asInt,if_true]
    rw[aU rfl (show p<aT.length from hp)]
    dsimp only
    rw[ai (s:=ts[p]) (lb1.cell (by omega)),ah (show M fl fn.nG [.agg ⟨[.int .i64 (D.p:Int),.int .i64 (D.m:Int),.slice mod.a mod.l mod.c]⟩,.slice (ts[i]).a (ts[i]).l (ts[i]).c,.int .i64 (ve ((FD.aC hg).neg aT[i][c])),.slice (ts[p]).a (ts[p]).l (ts[p]).c] h1=_ from n1)]
    simp only[bB]
    rw[hs]
    unfold cV
    rw[aw (i+1) (by push_cast;rfl) (by omega)]
    exact r1
theorem acy{R:Type}(kn:dd R)(r:RF h0 mod D)(hx:OB h0 bx [.int .i64 (D.p:Int),.int .i64 (D.m:Int),.slice mod.a mod.l mod.c]){w cols:Nat}(hcw:cols≤w)(Oy:w≤65536)(bL:fl≤h0.next){n:Nat}(hn:n≤65536)(hk:n<k):
 ∀(d c f:Nat) (rows:List (List (El D))) (ts:List Sl) (ps:List Nat) (pv:Sl) (h:AH),c+d=cols→d<f→rows.length=n→Fld.fy w rows→LB h0 h hb ts rows→QV h0 h hb ts pv ps→ps.length≤c→
 ∃h' Ce BT,gK M fl k kn f (cols:Int) ⟨bx,0,none⟩ ⟨some ⟨hb,0,none⟩,n,cap⟩ pv (ps.length:Int) (c:Int) h=kn ⟨some ⟨hb,0,none⟩,n,cap⟩ BT h'∧
  LB h0 h' hb Ce ((FD.aC hg).rQ d c rows ps).1∧QV h0 h' hb Ce BT ((FD.aC hg).rQ d c rows ps).2:=by
 intro d
 induction d with
 |zero=>
  intro c f rows ts ps pv h hc hf hl hw lb qv hpc
  obtain⟨f,rfl⟩:∃j,f=j+1:=⟨f-1,by omega⟩
  refine⟨h,ts,pv,?_,lb,qv⟩
  show lR M fl k _ _ _ _ _ _ _ _ h=_
  unfold lR qL
  rw[if_neg (by simp;omega)]
 |succ d ih=>
  intro c f rows ts ps pv h hc hf hl hw lb qv hpc
  obtain⟨f,rfl⟩:∃j,f=j+1:=⟨f-1,by omega⟩
  subst hl
  have un:gK M fl k kn (f+1) (cols:Int) ⟨bx,0,none⟩ ⟨some ⟨hb,0,none⟩,rows.length,cap⟩ pv (ps.length:Int) (c:Int) h=lR M fl k (gK M fl k kn f) kn (cols:Int) ⟨bx,0,none⟩ ⟨some ⟨hb,0,none⟩,rows.length,cap⟩ pv (ps.length:Int) (c:Int) h:=rfl
  rw[un]
  unfold lR qL
  rw[if_pos (by simp;omega)]
  by_cases cf:ps.length<rows.length
  ·rw[if_pos (by simp;omega)]
   unfold C1 uR sL oQ tY
   rw[acx (fl:=fl) (k:=k) (cap:=cap) (pv:=pv) hg _ lb hw (show c<w by omega) hn (cols:Int) (ps.length:Int) ⟨bx,0,none⟩ (rows.length-ps.length) ps.length k (by omega) (by omega)]
   unfold oP jN
   cases hpk:(FD.aC hg).pick rows c (rows.length-ps.length) ps.length with
   |none=>
    have hgj:(FD.aC hg).rQ (d+1) c rows ps=(FD.aC hg).rQ d (c+1) rows ps:=by conv=>lhs;unfold Fld.rQ;rw[hpk]
    rw[hgj]
    obtain⟨h',Ce,BT,r1,r2⟩:=ih (c+1) f rows ts ps pv h (by omega) (by omega) rfl hw lb qv (by omega)
    refine⟨h',Ce,BT,?_,r2⟩
    rw[if_pos (by simp)]
    unfold dq
    rw[aw (c+1) (by push_cast;rfl) (by omega)]
    exact r1
   |some K=>
    obtain⟨p1,p2,p3,_⟩:=Fld.yC _ hpk
    have hKr:K<rows.length:=by omega
    have hgj:(FD.aC hg).rQ (d+1) c rows ps=(FD.aC hg).rQ d (c+1) ((FD.aC hg).jx rows ps.length K c) (ps++[c]):=by conv=>lhs;unfold Fld.rQ;rw[hpk]
    rw[hgj]
    simp only[Option.getD_some]
    rw[if_neg (by simp;omega)]
    have hKt:K<ts.length:=by rw[lb.len];exact hKr
    have hat:ps.length<ts.length:=by rw[lb.len];exact cf
    have l1:=lb.set (i:=ps.length) cf (lb.row K hKt hKr).1 (lb.row K hKt hKr).2
    have s1:=fun(K':AH→Option R)=>LB.st (cap:=cap) (fl:=fl) lb (R:=R) (i:=ps.length) (t:=ts[K]) rfl cf bL K'
    have hl1:(rows.set ps.length rows[K]).length=rows.length:=by simp
    have q1:=(qv.put (some ((ts.map Sl.v).set ps.length (Sl.v ts[K])))).upd ps.length (t:=ts[K]) (qv.rw _ (List.getElem_mem hKt))
    have rat:SI (h.put hb (some ((ts.map Sl.v).set ps.length (Sl.v ts[K])))) ts[ps.length] (vl rows[ps.length]):=by
     have LP:iI (some ⟨hb,0,none⟩) h (h.put hb (some ((ts.map Sl.v).set ps.length (Sl.v ts[K])))):=iI.put _
     exact(lb.row _ hat cf).1.Ao LP (fun a b ha rM=>by cases rM;exact((lb.row _ hat cf).2 a ha).symm)
    generalize hG1:h.put hb (some ((ts.map Sl.v).set ps.length (Sl.v ts[K])))=H1 at l1 s1 q1 rat
    have l2:=l1.set (i:=K) (by simpa using hKr) rat (lb.row _ hat cf).2
    have s2:=fun(K':AH→Option R)=>LB.st (cap:=cap) (fl:=fl) l1 (R:=R) (n:=rows.length) (i:=K) (t:=ts[ps.length]) hl1.symm (by simpa using hKr) bL K'
    have q2:=(q1.put (some (((ts.set ps.length ts[K]).map Sl.v).set K (Sl.v ts[ps.length])))).upd K (t:=ts[ps.length]) (qv.rw _ (List.getElem_mem hat))
    generalize hG2:H1.put hb (some (((ts.set ps.length ts[K]).map Sl.v).set K (Sl.v ts[ps.length])))=H2 at l2 s2 q2
    have hsw:(rows.set ps.length rows[K]).set K rows[ps.length]=Fld.DN rows ps.length K:=by unfold Fld.DN;rw[Fld.va hKr,Fld.va cf]
    rw[hsw] at l2
    generalize hT:(ts.set ps.length ts[K]).set K ts[ps.length]=ts2 at l2 q2
    have hl6:(Fld.DN rows ps.length K).length=rows.length:=Fld.kG ..
    have hw6:Fld.fy w (Fld.DN rows ps.length K):=hw.DN cf hKr
    have hz6:(FD.aC hg).nX (Fld.DN rows ps.length K) ps.length c≠(FD.aC hg).zero:=by
     have:(FD.aC hg).nX (Fld.DN rows ps.length K) ps.length c=(FD.aC hg).nX rows K c:=by
      unfold Fld.nX Fld.DN
      congr 1
      by_cases e:K=ps.length
      ·subst e
       rw[List.set_set,List.getD_eq_getElem?_getD,List.getElem?_set_self cf];rfl
      ·rw[List.getD_eq_getElem?_getD,List.getElem?_set_ne (by omega),List.getElem?_set_self cf];rfl
     rw[this];exact p3
    rw[aU rfl (show K<rows.length from hKr)]
    dsimp only
    rw[ai (s:=ts[K]) (lb.cell hKr),aU rfl (show ps.length<rows.length from cf)]
    dsimp only
    rw[ai (s:=ts[ps.length]) (lb.cell cf),s1,s2]
    unfold Fld.jx
    generalize Fld.DN rows ps.length K=bI at l2 hl6 hw6 hz6 ⊢
    have Xi:ps.length<bI.length:=by omega
    have hc6:c<bI[ps.length].length:=by rw[hw6 _ (List.getElem_mem Xi)];omega
    have RP:(FD.aC hg).nX bI ps.length c=bI[ps.length][c]:=Fld.WX _ Xi hc6
    rw[RP] at hz6
    have hr:=LB.RI (cap:=cap) l2 (R:=R) (n:=rows.length) (i:=ps.length) (c:=c) hl6.symm Xi hc6
    rw[hr]
    have aa4:(FD.aC hg).norm bI ps.length c=bI.set ps.length ((FD.aC hg).pQ ((FD.aC hg).inv bI[ps.length][c]) bI[ps.length]):=by unfold Fld.norm;rw[RP,Fld.va Xi]
    have fin:∀(ts8:List Sl) (h8:AH),LB h0 h8 hb ts8 ((FD.aC hg).norm bI ps.length c)→QV h0 h8 hb ts8 pv ps→
     ∃h' Ce BT,iW M fl k (dq M fl k (gK M fl k kn f) kn) (dq M fl k (gK M fl k kn f) kn) (cols:Int) ⟨bx,0,none⟩ ⟨some ⟨hb,0,none⟩,rows.length,cap⟩ pv (ps.length:Int) (c:Int) h8=kn ⟨some ⟨hb,0,none⟩,rows.length,cap⟩ BT h'∧
      LB h0 h' hb Ce ((FD.aC hg).rQ d (c+1) ((FD.aC hg).PZ ((FD.aC hg).norm bI ps.length c) ps.length c) (ps++[c])).1∧QV h0 h' hb Ce BT ((FD.aC hg).rQ d (c+1) ((FD.aC hg).PZ ((FD.aC hg).norm bI ps.length c) ps.length c) (ps++[c])).2:=by
     intro ts8 h8 l8 q8
     have hln:((FD.aC hg).norm bI ps.length c).length=rows.length:=by rw[Fld.tC,hl6]
     have hwn:Fld.fy w ((FD.aC hg).norm bI ps.length c):=Fld.fy.norm _ hw6 c Xi
     obtain⟨h9,ts9,k1,k2,k3⟩:=ahD (fl:=fl) (k:=k) (cap:=cap) (p:=ps.length) (c:=c) hg (fj M fl k (dq M fl k (gK M fl k kn f) kn) (dq M fl k (gK M fl k kn f) kn)) r hx hwn (show c<w by omega) Oy (by omega) (by omega) bL (cols:Int) rows.length 0 k ts8 h8 (by omega) hk (by rw[Fld.TO];exact l8) q8
     rw[hln] at k1
     have hn9:=k2.q.1
     obtain⟨BT,FC,v1,v2,v3,v4⟩:=k3.ov.push (R:=R) (fl:=fl) (bytes:=8) (x:=.int .i64 (c:Int)) bL hn9 (by unfold lk;simp;omega) rfl (fun s3 h4=>dq M fl k (gK M fl k kn f) kn (cols:Int) ⟨bx,0,none⟩ ⟨some ⟨hb,0,none⟩,rows.length,cap⟩ s3 (bM ((ps.length:Int)+1)) (c:Int) h4)
     have e1:iv (ints ps)++[Value.int .i64 (c:Int)]=iv (ints (ps++[c])):=by rw[nW,rG];rfl
     rw[e1] at v2
     have hhb:=k2.Nk.1
     have l10:LB h0 FC hb ts9 ((FD.aC hg).PZ ((FD.aC hg).norm bI ps.length c) ps.length c):=by
      cases hpa:pv.a with
      |none=>
       rw[hpa] at v3
       exact k2.quiet ⟨v3.1,fun b rM=>v3.2 b rM (fun a ha=>by cases ha)⟩
      |some a=>
       rw[hpa] at v3
       have iH:=k3.ne a hpa
       refine⟨v3.quiet k2.q (fun a' ha'=>by cases ha';exact k3.ov.ge _ hpa),v3.ob k2.Nk (fun a' ha'=>by cases ha';exact iH),k2.len,fun j j1 j2=>?_,k2.gh⟩
       exact⟨(k2.row j j1 j2).1.Ao v3 (fun x y hx' hy'=>by
        cases hy'
        exact(k3.rw _ (List.getElem_mem j1) x hx' a hpa).symm),(k2.row j j1 j2).2⟩
     have hwc:Fld.fy w ((FD.aC hg).PZ ((FD.aC hg).norm bI ps.length c) ps.length c):=Fld.fy.PZ _ hwn c (by omega)
     have q10:QV h0 FC hb ts9 BT (ps++[c]):=⟨v2,fun a ha=>by have:=v4 a ha;omega,fun t ht q hq a ha=>by
      obtain⟨j,hj,rfl⟩:=List.getElem_of_mem ht
      have hj2:j<((FD.aC hg).PZ ((FD.aC hg).norm bI ps.length c) ps.length c).length:=by rw[←k2.len];exact hj
      have h1:=(k2.row j hj hj2).1.lt (fun e=>by
       have:=congrArg List.length e
       rw[cB,hwc _ (List.getElem_mem hj2)] at this
       simp at this;omega) q hq
      have h2:=v4 a ha
      omega⟩
     obtain⟨h',Ce,aBp,t1,t2⟩:=ih (c+1) f ((FD.aC hg).PZ ((FD.aC hg).norm bI ps.length c) ps.length c) ts9 (ps++[c]) BT FC (by omega) (by omega) (by rw[Fld.P0,hln]) hwc l10 q10 (by simp;omega)
     refine⟨h',Ce,aBp,?_,t2⟩
     unfold iW gZ j9
     refine Eq.trans k1 ?_
     unfold fj
     refine Eq.trans v1 ?_
     unfold dq
     rw[aw (n:=(c:Int)+1) (c+1) (by push_cast;rfl) (by omega),aw (n:=(ps.length:Int)+1) (ps.length+1) (by push_cast;rfl) (by omega)]
     have:((ps.length+1:Nat):Int)=((ps++[c]).length:Int):=by simp
     rw[this]
     exact t1
    by_cases ci:bI[ps.length][c]=(FD.aC hg).one
    ·have e1:(FD.aC hg).norm bI ps.length c=bI:=by rw[aa4,ci,Fld.inv_one,Fld.adt,List.set_getElem_self]
     have e2:ve (FD.aC hg).one=1:=rfl
     rw[if_neg (by rw[ci,e2];simp)]
     exact fin ts2 H2 (by rw[e1];exact l2) q2
    ·rw[if_pos (by
      simp only[bne_iff_ne,ne_eq]
      intro e
      exact ci (ack (e.trans rfl)))]
     have Xz:=hx.quiet l2.q
     have aBZ:ps.length<ts2.length:=by rw[l2.len];exact Xi
     obtain⟨h3,m1,m2⟩:=aw0 (fl:=H2.next) hg (r.quiet l2.q) bI[ps.length][c] (Nat.le_refl _)
     have l3:=l2.quiet m2
     obtain⟨h4,nb,n1,n2,n3,n4⟩:=aaF (fl:=fl) hg (r.quiet l3.q) ((FD.aC hg).inv bI[ps.length][c]) (l3.row ps.length aBZ Xi).1 (by rw[hw6 _ (List.getElem_mem Xi)];exact Oy) (by have:=l3.q.1;omega)
     have l4:=l3.quiet n4
     have hhb:=l3.Nk.1
     have hsi:SI h4 ⟨some ⟨nb,0,none⟩,bI[ps.length].length,bI[ps.length].length⟩ (vl ((FD.aC hg).pQ ((FD.aC hg).inv bI[ps.length][c]) bI[ps.length])):=by
      have:=n3.si none bI[ps.length].length
      rwa[cB,Fld.dQ] at this
     have l5:=l4.set (i:=ps.length) Xi hsi (fun q hq=>by cases hq;simp only[ne_eq];omega)
     rw[←aa4] at l5
     have s4:=fun(K':AH→Option R)=>LB.st (cap:=cap) (fl:=fl) l4 (R:=R) (i:=ps.length) (n:=rows.length) (t:=⟨some ⟨nb,0,none⟩,bI[ps.length].length,bI[ps.length].length⟩) hl6.symm Xi bL K'
     obtain⟨h',Ce,BT,t1,t2⟩:=fin _ _ l5 ((((q2.quiet m2).quiet n4).put _).upd ps.length (fun q hq a ha=>by cases hq;have:=q2.lt a ha;have:=m2.1;simp only[ne_eq];omega))
     refine⟨h',Ce,BT,?_,t2⟩
     rw[ae (Xz.cell rfl),ae (Xz.cell rfl),ai (s:=mod) (Xz.cell rfl),ae (Xz.cell rfl),ae (Xz.cell rfl),ai (s:=mod) (Xz.cell rfl),hr,ah (show M H2.next fn.pV [.agg ⟨[.int .i64 (D.p:Int),.int .i64 (D.m:Int),.slice mod.a mod.l mod.c]⟩,.int .i64 (ve bI[ps.length][c])] H2=_ from m1)]
     simp only[asInt,if_true]
     rw[aU rfl (show ps.length<rows.length from cf)]
     dsimp only
     rw[ai (s:=ts2[ps.length]) (l3.cell Xi),ah (show M fl fn.nF [.agg ⟨[.int .i64 (D.p:Int),.int .i64 (D.m:Int),.slice mod.a mod.l mod.c]⟩,.int .i64 (ve ((FD.aC hg).inv bI[ps.length][c])),.slice (ts2[ps.length]).a (ts2[ps.length]).l (ts2[ps.length]).c] h3=_ from n1)]
     simp only[bB]
     rw[s4]
     exact t1
  ·rw[if_neg (by simp;omega)]
   have hgj:(FD.aC hg).rQ (d+1) c rows ps=(rows,ps):=Fld.P1 _ _ _ _ _ (by omega)
   rw[hgj]
   exact⟨h,ts,pv,rfl,lb,qv⟩
end
end Go.Abs.P
end
section
namespace Go.Abs.P
open Go.Abs Go.Fld
theorem aaI{R:Type}{fl b:Nat}{h:AH}{s:Sl}{xs:List Int}(hb:OB h b [])(hs:SI h s xs)(hr:xs.length*8≤lk)(K:Sl→AH→Option R):
 ∃s' h',iJ fl 1 8 ⟨some ⟨b,0,none⟩,0,0⟩ s h K=K s' h'∧SI h' s' xs∧aj h h'∧∀a,s'.a=some a→b≤a.block∧a.block<h'.next:=by
 have hl:=hs.len
 have hbl:=hb.1
 unfold iJ
 cases xs with
 |nil=>
  refine⟨⟨some ⟨b,0,none⟩,0,0⟩,h,?_,⟨rfl,fun i hi=>by cases hi⟩,aj.refl h,fun a ha=>by cases ha;exact⟨Nat.le_refl _,hbl⟩⟩
  rw[if_pos (by simpa using hl)]
 |cons x xs=>
  refine⟨⟨some ⟨h.next,0,none⟩,s.l,pB+1⟩,h.alloc (iv (x::xs)),?_,?_,aj.alloc ..,fun a ha=>by cases ha;simp only[AH.alloc];omega⟩
  ·rw[if_neg (by rw[hl];simp),if_pos (by rw[hl];simpa using hr),hs.Fg (by simp)]
   simp only
   rw[if_pos (by unfold pB;omega),if_neg (by rw[hl];simp)]
   unfold Fg
   simp only[hb.iq]
   rw[if_pos (by simp)]
   simp
  ·have:=(OB.alloc h (iv (x::xs))).si none (pB+1)
   rw[hl];exact this
structure CP(h0 h:AH)(t:Sl)(ts:List Sl)(rows:List (List Int)):Prop where
 q:aj h0 h
 ov:OV h0.next h t (ts.map Sl.v)
 row:∀j (h1:j<ts.length) (h2:j<rows.length),SI h ts[j] rows[j]∧∀q,(ts[j]).a=some q→h0.next≤q.block∧q.block<h.next∧∀a,t.a=some a→q.block≠a.block
theorem ahE{R:Type}{fl k:Nat}(kn:an R){h0:AH}{s:Sl}{rows:List (List Int)}(hs:RR h0 s rows)(bL:fl≤h0.next)(hw:∀r∈rows,r.length≤65536)(hm:rows.length≤65536):
 ∀(d i f:Nat) (t:Sl) (ts:List Sl) (h:AH),i+d=rows.length→d<f→ts.length=i→CP h0 h t ts rows→
 ∃h' t' Ce,nS M fl k kn f s t (i:Int) h=kn t' h'∧CP h0 h' t' Ce rows∧Ce.length=rows.length:=by
 intro d
 induction d with
 |zero=>
  intro i f t ts h hi hf hl cp
  obtain⟨f,rfl⟩:∃j,f=j+1:=⟨f-1,by omega⟩
  refine⟨h,t,ts,?_,cp,by omega⟩
  show rl M fl k _ _ _ _ _ h=_
  unfold rl
  rw[if_neg (by simp[hs.len];omega)]
 |succ d ih=>
  intro i f t ts h hi hf hl cp
  obtain⟨f,rfl⟩:∃j,f=j+1:=⟨f-1,by omega⟩
  have mX:i<rows.length:=by omega
  show ∃h' t' Ce,rl M fl k (nS M fl k kn f) kn s t (i:Int) h=_∧_
  unfold rl
  rw[if_pos (by simp[hs.len];omega)]
  have o1:=OB.alloc h []
  have q1:=aj.alloc h []
  generalize dB:h.alloc []=h1 at o1 q1
  rw[aW dB]
  obtain⟨r,r1,r2⟩:=((hs.quiet cp.q).quiet q1).read mX
  rw[r2]
  obtain⟨s5,h2,a1,a2,a3,a4⟩:=aaI (R:=R) (fl:=fl) o1 r1 (by have:=hw _ (List.getElem_mem mX);unfold lk;omega) (fun s5 h6=>cU h6 [.slice s5.a s5.l s5.c] fun b7 h8=>iJ fl 1 24 t ⟨(some ⟨b7,0,none⟩),1,1⟩ h8 fun s9 FC=>nS M fl k kn f s s9 (bM ((i:Int)+1)) FC)
  rw[a1]
  have q2:=q1.trans a3
  have n0:=cp.q.1
  have n2:=q2.1
  obtain⟨s9,FC,v1,v2,v3,v4⟩:=(cp.ov.quiet q2).push (R:=R) (fl:=fl) (bytes:=24) (x:=.slice s5.a s5.l s5.c) bL (by omega) (by unfold lk;simp;omega) rfl (fun s9 FC=>nS M fl k kn f s s9 (bM ((i:Int)+1)) FC)
  rw[v1,aw (i+1) (by push_cast;rfl) (by omega)]
  have htb:∀a,t.a=some a→a.block<h.next:=fun a ha=>OV.lt cp.ov a ha
  refine ih (i+1) f s9 (ts++[s5]) FC (by omega) (by omega) (by simp;omega) ⟨v3.quiet (cp.q.trans q2) (fun a ha=>cp.ov.ge a ha),by rw[List.map_append];exact v2,?_⟩
  intro j h1 h2
  have n3:=v3.1
  by_cases e:j=i
  ·subst e
   have e1:(ts++[s5])[j]=s5:=by rw[List.getElem_append_right (by omega)];simp[hl]
   rw[e1]
   refine⟨a2.Ao v3 (fun a b ha hb=>?_),fun q hq=>?_⟩
   ·have:=a4 a ha;have:=htb b hb;simp only[ne_eq];omega
   ·have:=a4 q hq
    exact⟨by omega,by omega,fun a ha=>by have:=v4 a ha;simp only[ne_eq];omega⟩
  ·have hj:j<ts.length:=by simp at h1;omega
   have e1:(ts++[s5])[j]=ts[j]:=List.getElem_append_left hj
   rw[e1]
   obtain⟨g1,g2⟩:=cp.row j hj h2
   refine⟨(g1.quiet q2).Ao v3 (fun a b ha hb=>fun e=>(g2 a ha).2.2 b hb e.symm),fun q hq=>?_⟩
   obtain⟨k1,k2,_⟩:=g2 q hq
   exact⟨k1,by omega,fun a ha=>by have:=v4 a ha;simp only[ne_eq];omega⟩
theorem ahF{fl:Nat}{h:AH}{s:Sl}{rows:List (List Int)}(hs:RR h s rows)(bL:fl≤h.next)(hw:∀r∈rows,r.length≤65536)(hm:rows.length≤65536):
 ∃h' t ts,M fl fn.vJ [.slice s.a s.l s.c] h=some (.slice t.a t.l t.c,h')∧CP h h' t ts rows∧ts.length=rows.length:=by
 obtain⟨h',t,ts,e1,e2,e3⟩:=ahE (fl:=fl) (k:=rows.length+1) (Ln M fl (rows.length+1) (fun(y:Sl) q=>some (Value.slice y.a y.l y.c,q))) hs bL hw hm rows.length 0 (rows.length+1) ⟨none,0,0⟩ [] h (by omega) (by omega) rfl ⟨aj.refl h,OV.nil _ _,fun j h1=>by cases h1⟩
 refine⟨h',t,ts,aR (k:=rows.length+1) (by decide) WI ?_,e2,e3⟩
 rw[Rf]
 unfold vJ alI Wi
 exact e1
section
variable{D:FD}{gen:Nat}(hg:D.aK gen){mod:Sl}{h:AH}{fl:Nat}
theorem LB.rr{h0 h:AH}{hb n cap:Nat}{ts:List Sl}{rows:List (List (El D))}(lb:LB h0 h hb ts rows)(hn:n≤rows.length):RR h ⟨some ⟨hb,0,none⟩,n,cap⟩ ((rows.take n).map vl):=by
 refine⟨by simp;omega,fun i hi=>?_⟩
 have Bl:i<n:=by simp at hi;omega
 have hir:i<rows.length:=by omega
 have hit:i<ts.length:=by rw[lb.len];exact hir
 refine⟨_,ts[i],rfl,lb.Nk.1,lb.cell hir,?_⟩
 have:=(lb.row i hit hir).1
 simpa using this
theorem ahG(r:RF h mod D){s:Sl}{rows:List (List (El D))}{w cols:Nat}(hs:RR h s (rows.map vl))(hcw:cols≤w)(Oy:w≤65536)(bL:fl≤h.next)(hn:rows.length≤65536)(hw:Fld.fy w rows):
 ∃(h':AH) (s' pv:Sl),M fl fn.fz [fa D mod,.slice s.a s.l s.c,.int .i64 (cols:Int)] h=some (.tuple ⟨[.slice s'.a s'.l s'.c,.slice pv.a pv.l pv.c]⟩,h')∧aj h h'∧OV h.next h' pv (iv (ints ((FD.aC hg).rQ cols 0 rows []).2))∧
  ((rows=[]∧s'=⟨none,0,0⟩)∨∃hb cap ts,(cap=pB+1∨cap=rows.length∧cap<pB)∧s'=⟨some ⟨hb,0,none⟩,rows.length,cap⟩∧LB (h.alloc [.int .i64 (D.p:Int),.int .i64 (D.m:Int),.slice mod.a mod.l mod.c]) h' hb ts ((FD.aC hg).rQ cols 0 rows []).1):=by
 have du:=rI h D mod
 have eF:=aj.alloc h [.int .i64 (D.p:Int),.int .i64 (D.m:Int),.slice mod.a mod.l mod.c]
 generalize dB:h.alloc [.int .i64 (D.p:Int),.int .i64 (D.m:Int),.slice mod.a mod.l mod.c]=h1 at du eF
 have n1:=eF.1
 obtain⟨h2,t,ts,c1,c2,c3⟩:=ahF (fl:=fl) (hs.quiet eF) (by omega) (fun x hx=>by
  obtain⟨y,hy,rfl⟩:=List.mem_map.1 hx
  rw[cB,hw y hy];exact Oy) (by simpa using hn)
 rw[List.length_map] at c3
 have pre:∀{k r},O3 M fl k (fun y6 y7 q=>some (Value.tuple ⟨[.slice y6.a y6.l y6.c,.slice y7.a y7.l y7.c]⟩,q)) (cols:Int) ⟨h.next,0,none⟩ t ⟨none,0,0⟩ 0 0 h2=some r→M fl fn.fz [fa D mod,.slice s.a s.l s.c,.int .i64 (cols:Int)] h=some r:=by
  intro k r he
  refine aR (k:=k) (by decide) Kf ?_
  unfold fa
  rw[ET]
  unfold fz alb VO
  rw[aW dB,ah c1]
  simp only[bB]
  exact he
 rcases c2.ov with⟨z1,z2⟩|⟨b,c,g1,g2,g3,g4,g5,g6⟩
 ·have hz:rows=[]:=List.length_eq_zero_iff.1 (by rw[←c3];simpa using z1)
  subst hz
  have hgj:(FD.aC hg).rQ cols 0 [] []=([],[]):=Fld.P1 _ _ _ _ _ (by simp)
  rw[hgj]
  refine⟨h2,⟨none,0,0⟩,⟨none,0,0⟩,pre (k:=1) ?_,eF.trans c2.q,OV.nil _ _,.inl ⟨rfl,rfl⟩⟩
  subst z2
  unfold O3
  show lR M fl _ _ _ _ _ _ _ _ _ h2=_
  unfold lR qL
  by_cases c0:(0:Int)<cols
  ·rw[if_pos (by simp;omega),if_neg (by simp)];rfl
  ·rw[if_neg (by simp;omega)];rfl
 ·subst g5
  have hl:(ts.map Sl.v).length=rows.length:=by simp[c3]
  rw[hl] at pre g4
  have lb:LB h1 h2 b ts rows:=⟨c2.q,⟨g2,g6⟩,c3,fun i i1 i2=>by
   have:=c2.row i i1 (by simpa using i2)
   simp only[List.getElem_map] at this
   exact⟨this.1,fun q hq=>(this.2 q hq).2.2 _ rfl⟩,g1⟩
  obtain⟨h',Ce,BT,e1,e2,e3⟩:=acy (fl:=fl) (k:=max (cols+1) (rows.length+1)) (cap:=c) hg (Ld M fl (max (cols+1) (rows.length+1)) (fun y6 y7 q=>some (Value.tuple ⟨[.slice y6.a y6.l y6.c,.slice y7.a y7.l y7.c]⟩,q))) (r.quiet eF) du hcw Oy (by omega) hn (by omega) cols 0 (max (cols+1) (rows.length+1)) rows ts [] ⟨none,0,0⟩ h2 (by omega) (by omega) rfl hw lb ⟨OV.nil _ _,fun a ha=>(by cases ha),fun t _ q _ a ha=>(by cases ha)⟩ (Nat.zero_le _)
  exact⟨h',_,BT,pre e1,eF.trans e2.q,e3.ov.mono n1,.inr ⟨b,c,Ce,g4,rfl,e2⟩⟩
theorem acz(r:RF h mod D){s:Sl}{rows:List (List (El D))}{w:Nat}(hs:RR h s (rows.map vl))(Oy:w≤65536)(bL:fl≤h.next)(hn:rows.length≤65536)(hw:Fld.fy w rows):
 ∃(h':AH) (s' pv:Sl),M fl fn.kL [fa D mod,.slice s.a s.l s.c,.int .i64 (w:Int)] h=some (.tuple ⟨[.slice s'.a s'.l s'.c,.slice pv.a pv.l pv.c]⟩,h')∧aj h h'∧RR h' s' (((FD.aC hg).aY rows w).1.map vl)∧OV h.next h' pv (iv (ints ((FD.aC hg).aY rows w).2)):=by
 have du:=rI h D mod
 have eF:=aj.alloc h [.int .i64 (D.p:Int),.int .i64 (D.m:Int),.slice mod.a mod.l mod.c]
 generalize dB:h.alloc [.int .i64 (D.p:Int),.int .i64 (D.m:Int),.slice mod.a mod.l mod.c]=h1 at du eF
 have n1:=eF.1
 obtain⟨h',s',pv,e1,e2,e3,e4⟩:=ahG (fl:=fl) hg (r.quiet eF) (hs.quiet eF) (Nat.le_refl w) Oy (by omega) hn hw
 have hps:=(FD.aC hg).amx w 0 rows [] (Nat.zero_le _)
 have hlen:=(FD.aC hg).vE w 0 rows []
 have Xa:pv.l=((FD.aC hg).rQ w 0 rows []).2.length:=by have:=e3.len;simpa using this
 have go:∀s'',(∀{R:Type} (K:Sl→Option R),sub 1 s' none (some ((pv.l:Nat):Int)) none K=K s'')→RR h' s'' (((FD.aC hg).aY rows w).1.map vl)→
  ∃(h':AH) (s' pv:Sl),M fl fn.kL [fa D mod,.slice s.a s.l s.c,.int .i64 (w:Int)] h=some (.tuple ⟨[.slice s'.a s'.l s'.c,.slice pv.a pv.l pv.c]⟩,h')∧aj h h'∧RR h' s' (((FD.aC hg).aY rows w).1.map vl)∧OV h.next h' pv (iv (ints ((FD.aC hg).aY rows w).2)):=by
  intro s'' hK hrr
  refine⟨h',s'',pv,aR (k:=1) (by decide) SP ?_,eF.trans e2,hrr,e3.mono n1⟩
  unfold fa
  rw[NF]
  unfold kL akp
  rw[aW dB,ae (du.cell rfl),ae (du.cell rfl),ai (s:=mod) (du.cell rfl),ah (show M fl fn.fz [.agg ⟨[.int .i64 (D.p:Int),.int .i64 (D.m:Int),.slice mod.a mod.l mod.c]⟩,.slice s.a s.l s.c,.int .i64 (w:Int)] h1=_ from e1)]
  simp only[bj,aL,ch,bB]
  rw[hK]
 rcases e4 with⟨rfl,rfl⟩|⟨hb,cap,ts,k1,rfl,lb⟩
 ·have hz:((FD.aC hg).rQ w 0 [] []).2.length=0:=by simpa using hps
  refine go ⟨none,0,0⟩ (fun K=>?_) ?_
  ·rw[Xa,hz];unfold sub;simp[pB]
  ·have:((FD.aC hg).aY [] w).1=[]:=by unfold Fld.aY;rw[hz];rfl
   rw[this];exact RR.nil _
 ·have hrr:∀cap',RR h' ⟨some ⟨hb,0,none⟩,((FD.aC hg).rQ w 0 rows []).2.length,cap'⟩ (((FD.aC hg).aY rows w).1.map vl):=fun cap'=>lb.rr (by rw[hlen];exact hps)
  refine go ⟨some ⟨hb,0,none⟩,((FD.aC hg).rQ w 0 rows []).2.length,cap⟩ (fun K=>?_) (hrr cap)
  rw[Xa]
  unfold sub
  dsimp only
  rcases k1 with rfl|⟨rfl,k2⟩
  ·rw[if_neg (by omega),if_pos ⟨rfl,rfl⟩]
   simp only[Option.getD_none,Option.getD_some]
   rw[if_pos (by omega)]
   simp
  ·rw[if_pos k2]
   simp only[Option.getD_none,Option.getD_some]
   rw[if_pos (by omega)]
   by_cases hz:rows.length=0
   ·have h0:((FD.aC hg).rQ w 0 rows []).2.length=0:=by omega
    rw[h0,hz];simp
   ·rw[if_neg (by omega)];simp
end
end Go.Abs.P
end
