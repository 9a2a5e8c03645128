/- Shortened by a program of ours out of readable texts. -/
import Derived.Test.YtgplcfblbkmcmaaGreatQ4
section
namespace Go.Abs.P
open Go.Abs Go.Fld
structure LB{D:FD}(h0 h:AH)(hb:Nat)(ts:List Sl)(rows:List (List (El D))):Prop where
 q:ai h0 h
 NL:OB h hb (ts.map Sl.v)
 len:ts.length=rows.length
 row:∀(i:Nat) (h1:i<ts.length) (h2:i<rows.length),SI h ts[i] (vl rows[i])∧(∀q,(ts[i]).a=some q→q.block≠hb)
 gh:h0.next≤hb
section
variable{D:FD}{gen:Nat}(hg:D.aJ gen){mod:Sl}{h0 h h':AH}{fl k hb bx cap:Nat}{ts:List Sl}{rows:List (List (El D))}{pv:Sl}{ps:List Nat}
theorem LB.quiet(p:LB h0 h hb ts rows)(q:ai h h'):LB h0 h' hb ts rows:=⟨p.q.trans q,p.NL.quiet q,p.len,fun i h1 h2=>⟨(p.row i h1 h2).1.quiet q,(p.row i h1 h2).2⟩,p.gh⟩
theorem LB.cell(p:LB h0 h hb ts rows){i:Nat}(hi:i<rows.length):h.cell hb (0+i)=some (Sl.v (ts[i]'(by rw[p.len];exact hi))):=by
 refine p.NL.cell ?_
 rw[Nat.zero_add,List.getElem?_map,List.getElem?_eq_getElem (by rw[p.len];exact hi)];rfl
theorem LB.Sc(p:LB h0 h hb ts rows){R:Type}{n i c:Nat}(hn:n=rows.length)(hi:i<rows.length)(hc:c<rows[i].length)(K:Int→Option R):
 (idx 1 (⟨some ⟨hb,0,none⟩,n,cap⟩:Sl) (i:Int) fun q=>bM h q.block q.off fun s2=>idx 1 s2 (c:Int) fun q2=>aE .i64 h q2.block q2.off K)=K (ve rows[i][c]):=by
 have Sw:i<ts.length:=by rw[p.len];exact hi
 rw[aT rfl (show i<n by omega)]
 dsimp only
 rw[ah (s:=ts[i]) (p.cell hi),(p.row i Sw hi).1.read (by omega) (by simp;exact hc)]
 simp only[Int.toNat_natCast,kW]
theorem LB.set(p:LB h0 h hb ts rows){i:Nat}{t:Sl}{r:List (El D)}(hi:i<rows.length)(ht:SI h t (vl r))(htb:∀q,t.a=some q→q.block≠hb):LB h0 (h.put hb (some ((ts.map Sl.v).set i (Sl.v t)))) hb (ts.set i t) (rows.set i r):=by
 have Md:iL (some ⟨hb,0,none⟩) h (h.put hb (some ((ts.map Sl.v).set i (Sl.v t)))):=iL.put _
 refine⟨p.q.put p.gh _,by rw[List.map_set];exact p.NL.put _,by simp[p.len],?_,p.gh⟩
 intro j h1 h2
 by_cases e:i=j
 ·subst e
  simp only[List.getElem_set_self]
  exact⟨ht.AA Md (fun a b ha tY=>by cases tY;exact(htb a ha).symm),htb⟩
 ·simp only[List.getElem_set_ne e]
  have:=p.row j (by simpa using h1) (by simpa using h2)
  exact⟨this.1.AA Md (fun a b ha tY=>by cases tY;exact(this.2 a ha).symm),this.2⟩
theorem LB.st{R:Type}(p:LB h0 h hb ts rows){n i:Nat}{t:Sl}(hn:n=rows.length)(hi:i<rows.length)(bN:fl≤h0.next)(K:AH→Option R):
 (idx 1 (⟨some ⟨hb,0,none⟩,n,cap⟩:Sl) (i:Int) fun q=>Abs.st fl h q [.slice t.a t.l t.c] K)=K (h.put hb (some ((ts.map Sl.v).set i (Sl.v t)))):=by
 rw[aT rfl (show i<n by omega),p.NL.st (by have:=p.gh;omega) (by simp[p.len];omega) rfl,Nat.zero_add]
 rfl
structure QV(h0 h:AH)(hb:Nat)(ts:List Sl)(s:Sl)(ps:List Nat):Prop where
 ov:OV h0.next h s (iv (ints ps))
 ne:∀a,s.a=some a→a.block≠hb
 rw:∀t∈ts,∀q,t.a=some q→∀a,s.a=some a→q.block≠a.block
theorem QV.quiet(p:QV h0 h hb ts pv ps)(q:ai h h'):QV h0 h' hb ts pv ps:=⟨p.ov.quiet q,p.ne,p.rw⟩
theorem QV.put(p:QV h0 h hb ts pv ps)(x:Option (List Value)):QV h0 (h.put hb x) hb ts pv ps:=⟨p.ov.acK (Nat.le_refl _) (fun a ha=>U9 _ (p.ne a ha).symm),p.ne,p.rw⟩
theorem QV.upd(p:QV h0 h hb ts pv ps)(i:Nat){t:Sl}(ht:∀q,t.a=some q→∀a,pv.a=some a→q.block≠a.block):QV h0 h hb (ts.set i t) pv ps:=
 ⟨p.ov,p.ne,fun t' ht'=>(List.mem_or_eq_of_mem_set ht').elim (p.rw t') (fun e=>by subst e;exact ht)⟩
theorem QV.lt(p:QV h0 h hb ts pv ps):∀a,pv.a=some a→a.block<h.next:=fun a ha=>OV.lt p.ov a ha
theorem adh{R:Type}(kn:eT R){w c:Nat}(lb:LB h0 h hb ts rows)(hw:Fld.eG w rows)(hc:c<w)(hn:rows.length≤65536)(cols ua:Int)(bxa:Addr):
 ∀(d i f:Nat),i+d=rows.length→d<f→
 ig M fl k kn f cols bxa ⟨some ⟨hb,0,none⟩,rows.length,cap⟩ pv ua (c:Int) (i:Int) h=kn cols bxa ⟨some ⟨hb,0,none⟩,rows.length,cap⟩ pv ua (c:Int) ((((FD.aB hg).pick rows c d i).getD rows.length:Nat):Int) h:=by
 intro d
 induction d with
 |zero=>
  intro i f hi hf
  obtain⟨f,rfl⟩:∃j,f=j+1:=⟨f-1,by omega⟩
  obtain rfl:i=rows.length:=by omega
  show dX M fl k _ _ _ _ _ _ _ _ _ h=_
  unfold dX
  rw[if_neg (by simp)];rfl
 |succ d ih=>
  intro i f hi hf
  obtain⟨f,rfl⟩:∃j,f=j+1:=⟨f-1,by omega⟩
  have nw:i<rows.length:=by omega
  have hci:c<rows[i].length:=by rw[hw _ (List.getElem_mem nw)];exact hc
  have Ss:(FD.aB hg).jx rows i c=rows[i][c]:=Fld.Xy _ nw hci
  show dX M fl k _ _ _ _ _ _ _ _ _ h=_
  unfold dX
  rw[if_pos (by simp;omega),lb.Sc rfl nw hci]
  by_cases hz:rows[i][c]=(FD.aB hg).zero
  ·have hp:(FD.aB hg).pick rows c (d+1) i=(FD.aB hg).pick rows c d (i+1):=by
    conv=>lhs;unfold Fld.pick
    split
    ·rfl
    ·rename_i fA _;exact absurd (Ss.trans hz) fA
   rw[if_pos (by simp[(ix hg _).2 hz]),hp,av (i+1) (by push_cast;rfl) (by omega)]
   exact ih (i+1) f (by omega) (by omega)
  ·have hp:(FD.aB hg).pick rows c (d+1) i=some i:=by
    unfold Fld.pick
    split
    ·rename_i he _;exact absurd (Ss.symm.trans he) hz
    ·rfl
   rw[if_neg (by simp;exact fun e=>hz ((ix hg _).1 e)),hp];rfl
theorem aid{R:Type}(kn:bz R)(r:RF h0 mod D)(hx:OB h0 bx [.int .i64 (D.p:Int),.int .i64 (D.m:Int),.slice mod.a mod.l mod.c]){w c p:Nat}{aU:List (List (El D))}(hw:Fld.eG w aU)(hc:c<w)(Sx:w≤65536)(hp:p<aU.length)(hn:aU.length≤65536)(bN:fl≤h0.next)(cols:Int):
 ∀(d i f:Nat) (ts:List Sl) (h:AH),i+d=aU.length→d<f→LB h0 h hb ts ((FD.aB hg).iK aU p c i)→QV h0 h hb ts pv ps→
 ∃h' B7,bP M fl k kn f cols ⟨bx,0,none⟩ ⟨some ⟨hb,0,none⟩,aU.length,cap⟩ pv (p:Int) (c:Int) (i:Int) h=kn cols ⟨bx,0,none⟩ ⟨some ⟨hb,0,none⟩,aU.length,cap⟩ pv (p:Int) (c:Int) h'∧
  LB h0 h' hb B7 ((FD.aB hg).Pb aU p c)∧QV h0 h' hb B7 pv ps:=by
 intro d
 induction d with
 |zero=>
  intro i f ts h hi hf lb qv
  obtain⟨f,rfl⟩:∃j,f=j+1:=⟨f-1,by omega⟩
  obtain rfl:i=aU.length:=by omega
  rw[Fld.aa6] at lb
  refine⟨h,ts,?_,lb,qv⟩
  show cj M fl k _ _ _ _ _ _ _ _ _ h=_
  unfold cj dq
  rw[if_neg (by simp)]
 |succ d ih=>
  intro i f ts h hi hf lb qv
  obtain⟨f,rfl⟩:∃j,f=j+1:=⟨f-1,by omega⟩
  have nw:i<aU.length:=by omega
  have hlen:((FD.aB hg).iK aU p c i).length=aU.length:=Fld.DG ..
  have hwi:aU[i].length=w:=hw _ (List.getElem_mem nw)
  have hrow:((FD.aB hg).iK aU p c i)[i]'(by omega)=aU[i]:=Fld.DH _ _ _ _ _ nw (.inr (Nat.le_refl _))
  have hci:c<((FD.aB hg).iK aU p c i)[i].length:=by rw[hrow];omega
  have abK:aU[i].getD c (FD.aB hg).zero=aU[i][c]:=by rw[List.getD_eq_getElem?_getD,List.getElem?_eq_getElem (by omega)];rfl
  have hpr:((FD.aB hg).iK aU p c i)[p]'(by omega)=aU[p]:=Fld.DH _ _ _ _ _ hp (.inl rfl)
  have un:bP M fl k kn (f+1) cols ⟨bx,0,none⟩ ⟨some ⟨hb,0,none⟩,aU.length,cap⟩ pv (p:Int) (c:Int) (i:Int) h=cj M fl k (bP M fl k kn f) kn cols ⟨bx,0,none⟩ ⟨some ⟨hb,0,none⟩,aU.length,cap⟩ pv (p:Int) (c:Int) (i:Int) h:=rfl
  rw[un]
  unfold cj dq
  rw[if_pos (by simp;omega)]
  have same:∀(abz:(FD.aB hg).iK aU p c (i+1)=(FD.aB hg).iK aU p c i),∃h' B7,cR M fl k (bP M fl k kn f) kn cols ⟨bx,0,none⟩ ⟨some ⟨hb,0,none⟩,aU.length,cap⟩ pv (p:Int) (c:Int) (i:Int) h=kn cols ⟨bx,0,none⟩ ⟨some ⟨hb,0,none⟩,aU.length,cap⟩ pv (p:Int) (c:Int) h'∧
   LB h0 h' hb B7 ((FD.aB hg).Pb aU p c)∧QV h0 h' hb B7 pv ps:=by
   intro abz
   unfold cR
   rw[av (i+1) (by push_cast;rfl) (by omega)]
   exact ih (i+1) f ts h (by omega) (by omega) (by rw[abz];exact lb) qv
  by_cases c1:i=p
  ·rw[if_neg (by simp[c1])]
   exact same (Fld.EN _ _ _ _ _ (.inl c1))
  ·have hr:=LB.Sc (cap:=cap) lb (R:=R) (n:=aU.length) (i:=i) (c:=c) hlen.symm (by omega) hci
   simp only[hrow] at hr
   rw[if_pos (by simp;omega),hr]
   by_cases c2:aU[i][c]=(FD.aB hg).zero
   ·rw[if_neg (by simp[(ix hg _).2 c2])]
    refine same (Fld.EN _ _ _ _ _ (.inr ⟨nw,by rw[abK];exact c2,?_⟩))
    rw[Fld.vu hp,hwi,hw _ (List.getElem_mem hp)]
   ·rw[if_pos (by simp;exact fun e=>c2 ((ix hg _).1 e))]
    have hit:i<ts.length:=by rw[lb.len];omega
    have hpt:p<ts.length:=by rw[lb.len];omega
    have tZ:=hx.quiet lb.q
    have hn0:=lb.q.1
    obtain⟨h1,m1,m2⟩:=axk (fl:=h.next) hg (r.quiet lb.q) aU[i][c] (Nat.le_refl _)
    have lb1:=lb.quiet m2
    have ri:=(lb1.row i hit (by omega)).1
    have rp:=(lb1.row p hpt (by omega)).1
    rw[hrow] at ri
    rw[hpr] at rp
    obtain⟨h2,nb,n1,n2,n3,n4⟩:=abe (fl:=fl) hg (r.quiet lb1.q) ((FD.aB hg).neg aU[i][c]) ri rp (by rw[hwi,hw _ (List.getElem_mem hp)]) (by omega) (by have:=lb1.q.1;omega)
    have lb2:=lb1.quiet n4
    have hhb:=lb1.NL.1
    have hsi:SI h2 ⟨some ⟨nb,0,none⟩,aU[i].length,aU[i].length⟩ (vl ((FD.aB hg).bw aU[i] ((FD.aB hg).neg aU[i][c]) aU[p])):=by
     have:=n3.si none aU[i].length
     rwa[fU,Fld.bI _ _ _ _ (by rw[hwi,hw _ (List.getElem_mem hp)])] at this
    have lb3:=lb2.set (i:=i) (by omega) hsi (fun q hq=>by cases hq;simp only[ne_eq];omega)
    have e1:((FD.aB hg).iK aU p c i).set i ((FD.aB hg).bw aU[i] ((FD.aB hg).neg aU[i][c]) aU[p])=(FD.aB hg).iK aU p c (i+1):=by
     rw[←Fld.aa7 _ _ _ _ _ nw c1,abK,Fld.vu hp]
    rw[e1] at lb3
    obtain⟨h',B7,r1,r2⟩:=ih (i+1) f _ _ (by omega) (by omega) lb3 ((((qv.quiet m2).quiet n4).put _).upd i (fun q hq a ha=>by cases hq;have:=qv.lt a ha;have:=m2.1;simp only[ne_eq];omega))
    refine⟨h',B7,?_,r2⟩
    have hs:=fun(K:AH→Option R)=>LB.st (cap:=cap) (fl:=fl) lb2 (R:=R) (n:=aU.length) (i:=i) (t:=⟨some ⟨nb,0,none⟩,aU[i].length,aU[i].length⟩) hlen.symm (by omega) bN K
    rw[ab (tZ.cell rfl),ab (tZ.cell rfl),ah (s:=mod) (tZ.cell rfl),aT rfl (show i<aU.length from nw)]
    dsimp only
    rw[ah (s:=ts[i]) (lb.cell (by omega)),ab (tZ.cell rfl),ab (tZ.cell rfl),ah (s:=mod) (tZ.cell rfl),hr,ag (show M h.next fn.qi [.agg ⟨[.int .i64 (D.p:Int),.int .i64 (D.m:Int),.slice mod.a mod.l mod.c]⟩,.int .i64 (ve aU[i][c])] h=_ from m1)]
    simp only[asInt,if_true]
    rw[aT rfl (show p<aU.length from hp)]
    dsimp only
    rw[ah (s:=ts[p]) (lb1.cell (by omega)),ag (show M fl fn.nI [.agg ⟨[.int .i64 (D.p:Int),.int .i64 (D.m:Int),.slice mod.a mod.l mod.c]⟩,.slice (ts[i]).a (ts[i]).l (ts[i]).c,.int .i64 (ve ((FD.aB hg).neg aU[i][c])),.slice (ts[p]).a (ts[p]).l (ts[p]).c] h1=_ from n1)]
    simp only[bB]
    rw[hs]
    unfold cR
    rw[av (i+1) (by push_cast;rfl) (by omega)]
    exact r1
theorem adi{R:Type}(kn:c8 R)(r:RF h0 mod D)(hx:OB h0 bx [.int .i64 (D.p:Int),.int .i64 (D.m:Int),.slice mod.a mod.l mod.c]){w cols:Nat}(hcw:cols≤w)(Sx:w≤65536)(bN:fl≤h0.next){n:Nat}(hn:n≤65536)(hk:n<k):
 ∀(d c f:Nat) (rows:List (List (El D))) (ts:List Sl) (ps:List Nat) (pv:Sl) (h:AH),c+d=cols→d<f→rows.length=n→Fld.eG w rows→LB h0 h hb ts rows→QV h0 h hb ts pv ps→ps.length≤c→
 ∃h' B7 B9,gQ M fl k kn f (cols:Int) ⟨bx,0,none⟩ ⟨some ⟨hb,0,none⟩,n,cap⟩ pv (ps.length:Int) (c:Int) h=kn ⟨some ⟨hb,0,none⟩,n,cap⟩ B9 h'∧
  LB h0 h' hb B7 ((FD.aB hg).oe d c rows ps).1∧QV h0 h' hb B7 B9 ((FD.aB hg).oe d c rows ps).2:=by
 intro d
 induction d with
 |zero=>
  intro c f rows ts ps pv h hc hf hl hw lb qv hpc
  obtain⟨f,rfl⟩:∃j,f=j+1:=⟨f-1,by omega⟩
  refine⟨h,ts,pv,?_,lb,qv⟩
  show lN M fl k _ _ _ _ _ _ _ _ h=_
  unfold lN ra
  rw[if_neg (by simp;omega)]
 |succ d ih=>
  intro c f rows ts ps pv h hc hf hl hw lb qv hpc
  obtain⟨f,rfl⟩:∃j,f=j+1:=⟨f-1,by omega⟩
  subst hl
  have un:gQ M fl k kn (f+1) (cols:Int) ⟨bx,0,none⟩ ⟨some ⟨hb,0,none⟩,rows.length,cap⟩ pv (ps.length:Int) (c:Int) h=lN M fl k (gQ M fl k kn f) kn (cols:Int) ⟨bx,0,none⟩ ⟨some ⟨hb,0,none⟩,rows.length,cap⟩ pv (ps.length:Int) (c:Int) h:=rfl
  rw[un]
  unfold lN ra
  rw[if_pos (by simp;omega)]
  by_cases cf:ps.length<rows.length
  ·rw[if_pos (by simp;omega)]
   unfold Dc vc sT pb uj
   rw[adh (fl:=fl) (k:=k) (cap:=cap) (pv:=pv) hg _ lb hw (show c<w by omega) hn (cols:Int) (ps.length:Int) ⟨bx,0,none⟩ (rows.length-ps.length) ps.length k (by omega) (by omega)]
   unfold pa jL
   cases hpk:(FD.aB hg).pick rows c (rows.length-ps.length) ps.length with
   |none=>
    have hgj:(FD.aB hg).oe (d+1) c rows ps=(FD.aB hg).oe d (c+1) rows ps:=by conv=>lhs;unfold Fld.oe;rw[hpk]
    rw[hgj]
    obtain⟨h',B7,B9,r1,r2⟩:=ih (c+1) f rows ts ps pv h (by omega) (by omega) rfl hw lb qv (by omega)
    refine⟨h',B7,B9,?_,r2⟩
    rw[if_pos (by simp)]
    unfold dp
    rw[av (c+1) (by push_cast;rfl) (by omega)]
    exact r1
   |some K=>
    obtain⟨p1,p2,p3,_⟩:=Fld.vz _ hpk
    have hKr:K<rows.length:=by omega
    have hgj:(FD.aB hg).oe (d+1) c rows ps=(FD.aB hg).oe d (c+1) ((FD.aB hg).cW rows ps.length K c) (ps++[c]):=by conv=>lhs;unfold Fld.oe;rw[hpk]
    rw[hgj]
    simp only[Option.getD_some]
    rw[if_neg (by simp;omega)]
    have hKt:K<ts.length:=by rw[lb.len];exact hKr
    have hat:ps.length<ts.length:=by rw[lb.len];exact cf
    have l1:=lb.set (i:=ps.length) cf (lb.row K hKt hKr).1 (lb.row K hKt hKr).2
    have s1:=fun(K':AH→Option R)=>LB.st (cap:=cap) (fl:=fl) lb (R:=R) (i:=ps.length) (t:=ts[K]) rfl cf bN K'
    have hl1:(rows.set ps.length rows[K]).length=rows.length:=by simp
    have q1:=(qv.put (some ((ts.map Sl.v).set ps.length (Sl.v ts[K])))).upd ps.length (t:=ts[K]) (qv.rw _ (List.getElem_mem hKt))
    have rat:SI (h.put hb (some ((ts.map Sl.v).set ps.length (Sl.v ts[K])))) ts[ps.length] (vl rows[ps.length]):=by
     have Md:iL (some ⟨hb,0,none⟩) h (h.put hb (some ((ts.map Sl.v).set ps.length (Sl.v ts[K])))):=iL.put _
     exact(lb.row _ hat cf).1.AA Md (fun a b ha tY=>by cases tY;exact((lb.row _ hat cf).2 a ha).symm)
    generalize hG1:h.put hb (some ((ts.map Sl.v).set ps.length (Sl.v ts[K])))=H1 at l1 s1 q1 rat
    have l2:=l1.set (i:=K) (by simpa using hKr) rat (lb.row _ hat cf).2
    have s2:=fun(K':AH→Option R)=>LB.st (cap:=cap) (fl:=fl) l1 (R:=R) (n:=rows.length) (i:=K) (t:=ts[ps.length]) hl1.symm (by simpa using hKr) bN K'
    have q2:=(q1.put (some (((ts.set ps.length ts[K]).map Sl.v).set K (Sl.v ts[ps.length])))).upd K (t:=ts[ps.length]) (qv.rw _ (List.getElem_mem hat))
    generalize hG2:H1.put hb (some (((ts.set ps.length ts[K]).map Sl.v).set K (Sl.v ts[ps.length])))=H2 at l2 s2 q2
    have hsw:(rows.set ps.length rows[K]).set K rows[ps.length]=Fld.yN rows ps.length K:=by unfold Fld.yN;rw[Fld.vu hKr,Fld.vu cf]
    rw[hsw] at l2
    generalize hT:(ts.set ps.length ts[K]).set K ts[ps.length]=ts2 at l2 q2
    have hl6:(Fld.yN rows ps.length K).length=rows.length:=Fld.jy ..
    have hw6:Fld.eG w (Fld.yN rows ps.length K):=hw.yN cf hKr
    have hz6:(FD.aB hg).jx (Fld.yN rows ps.length K) ps.length c≠(FD.aB hg).zero:=by
     have:(FD.aB hg).jx (Fld.yN rows ps.length K) ps.length c=(FD.aB hg).jx rows K c:=by
      unfold Fld.jx Fld.yN
      congr 1
      by_cases e:K=ps.length
      ·subst e
       rw[List.set_set,List.getD_eq_getElem?_getD,List.getElem?_set_self cf];rfl
      ·rw[List.getD_eq_getElem?_getD,List.getElem?_set_ne (by omega),List.getElem?_set_self cf];rfl
     rw[this];exact p3
    rw[aT rfl (show K<rows.length from hKr)]
    dsimp only
    rw[ah (s:=ts[K]) (lb.cell hKr),aT rfl (show ps.length<rows.length from cf)]
    dsimp only
    rw[ah (s:=ts[ps.length]) (lb.cell cf),s1,s2]
    unfold Fld.cW
    generalize Fld.yN rows ps.length K=bJ at l2 hl6 hw6 hz6 ⊢
    have XI:ps.length<bJ.length:=by omega
    have hc6:c<bJ[ps.length].length:=by rw[hw6 _ (List.getElem_mem XI)];omega
    have Ss:(FD.aB hg).jx bJ ps.length c=bJ[ps.length][c]:=Fld.Xy _ XI hc6
    rw[Ss] at hz6
    have hr:=LB.Sc (cap:=cap) l2 (R:=R) (n:=rows.length) (i:=ps.length) (c:=c) hl6.symm XI hc6
    rw[hr]
    have abE:(FD.aB hg).norm bJ ps.length c=bJ.set ps.length ((FD.aB hg).nB ((FD.aB hg).inv bJ[ps.length][c]) bJ[ps.length]):=by unfold Fld.norm;rw[Ss,Fld.vu XI]
    have fin:∀(ts8:List Sl) (h8:AH),LB h0 h8 hb ts8 ((FD.aB hg).norm bJ ps.length c)→QV h0 h8 hb ts8 pv ps→
     ∃h' B7 B9,ja M fl k (dp M fl k (gQ M fl k kn f) kn) (dp M fl k (gQ M fl k kn f) kn) (cols:Int) ⟨bx,0,none⟩ ⟨some ⟨hb,0,none⟩,rows.length,cap⟩ pv (ps.length:Int) (c:Int) h8=kn ⟨some ⟨hb,0,none⟩,rows.length,cap⟩ B9 h'∧
      LB h0 h' hb B7 ((FD.aB hg).oe d (c+1) ((FD.aB hg).Pb ((FD.aB hg).norm bJ ps.length c) ps.length c) (ps++[c])).1∧QV h0 h' hb B7 B9 ((FD.aB hg).oe d (c+1) ((FD.aB hg).Pb ((FD.aB hg).norm bJ ps.length c) ps.length c) (ps++[c])).2:=by
     intro ts8 h8 l8 q8
     have hln:((FD.aB hg).norm bJ ps.length c).length=rows.length:=by rw[Fld.tL,hl6]
     have hwn:Fld.eG w ((FD.aB hg).norm bJ ps.length c):=Fld.eG.norm _ hw6 c XI
     obtain⟨h9,ts9,k1,k2,k3⟩:=aid (fl:=fl) (k:=k) (cap:=cap) (p:=ps.length) (c:=c) hg (fk M fl k (dp M fl k (gQ M fl k kn f) kn) (dp M fl k (gQ M fl k kn f) kn)) r hx hwn (show c<w by omega) Sx (by omega) (by omega) bN (cols:Int) rows.length 0 k ts8 h8 (by omega) hk (by rw[Fld.Uv];exact l8) q8
     rw[hln] at k1
     have hn9:=k2.q.1
     obtain⟨B9,H7,v1,v2,v3,v4⟩:=k3.ov.push (R:=R) (fl:=fl) (bytes:=8) (x:=.int .i64 (c:Int)) bN hn9 (by unfold kA;simp;omega) rfl (fun s3 h4=>dp M fl k (gQ M fl k kn f) kn (cols:Int) ⟨bx,0,none⟩ ⟨some ⟨hb,0,none⟩,rows.length,cap⟩ s3 (bL ((ps.length:Int)+1)) (c:Int) h4)
     have e1:iv (ints ps)++[Value.int .i64 (c:Int)]=iv (ints (ps++[c])):=by rw[nX,rV];rfl
     rw[e1] at v2
     have hhb:=k2.NL.1
     have l10:LB h0 H7 hb ts9 ((FD.aB hg).Pb ((FD.aB hg).norm bJ ps.length c) ps.length c):=by
      cases hpa:pv.a with
      |none=>
       rw[hpa] at v3
       exact k2.quiet ⟨v3.1,fun b tY=>v3.2 b tY (fun a ha=>by cases ha)⟩
      |some a=>
       rw[hpa] at v3
       have fA:=k3.ne a hpa
       refine⟨v3.quiet k2.q (fun a' ha'=>by cases ha';exact k3.ov.ge _ hpa),v3.ob k2.NL (fun a' ha'=>by cases ha';exact fA),k2.len,fun j j1 j2=>?_,k2.gh⟩
       exact⟨(k2.row j j1 j2).1.AA v3 (fun x y hx' hy'=>by
        cases hy'
        exact(k3.rw _ (List.getElem_mem j1) x hx' a hpa).symm),(k2.row j j1 j2).2⟩
     have hwc:Fld.eG w ((FD.aB hg).Pb ((FD.aB hg).norm bJ ps.length c) ps.length c):=Fld.eG.Pb _ hwn c (by omega)
     have q10:QV h0 H7 hb ts9 B9 (ps++[c]):=⟨v2,fun a ha=>by have:=v4 a ha;omega,fun t ht q hq a ha=>by
      obtain⟨j,hj,rfl⟩:=List.getElem_of_mem ht
      have hj2:j<((FD.aB hg).Pb ((FD.aB hg).norm bJ ps.length c) ps.length c).length:=by rw[←k2.len];exact hj
      have h1:=(k2.row j hj hj2).1.lt (fun e=>by
       have:=congrArg List.length e
       rw[fU,hwc _ (List.getElem_mem hj2)] at this
       simp at this;omega) q hq
      have h2:=v4 a ha
      omega⟩
     obtain⟨h',B7,aB5,t1,t2⟩:=ih (c+1) f ((FD.aB hg).Pb ((FD.aB hg).norm bJ ps.length c) ps.length c) ts9 (ps++[c]) B9 H7 (by omega) (by omega) (by rw[Fld.Qt,hln]) hwc l10 q10 (by simp;omega)
     refine⟨h',B7,aB5,?_,t2⟩
     unfold ja ie ka
     refine Eq.trans k1 ?_
     unfold fk
     refine Eq.trans v1 ?_
     unfold dp
     rw[av (n:=(c:Int)+1) (c+1) (by push_cast;rfl) (by omega),av (n:=(ps.length:Int)+1) (ps.length+1) (by push_cast;rfl) (by omega)]
     have:((ps.length+1:Nat):Int)=((ps++[c]).length:Int):=by simp
     rw[this]
     exact t1
    by_cases ci:bJ[ps.length][c]=(FD.aB hg).one
    ·have e1:(FD.aB hg).norm bJ ps.length c=bJ:=by rw[abE,ci,Fld.inv_one,Fld.ad5,List.set_getElem_self]
     have e2:ve (FD.aB hg).one=1:=rfl
     rw[if_neg (by rw[ci,e2];simp)]
     exact fin ts2 H2 (by rw[e1];exact l2) q2
    ·rw[if_pos (by
      simp only[bne_iff_ne,ne_eq]
      intro e
      exact ci (ac6 (e.trans rfl)))]
     have X0:=hx.quiet l2.q
     have aCv:ps.length<ts2.length:=by rw[l2.len];exact XI
     obtain⟨h3,m1,m2⟩:=axl (fl:=H2.next) hg (r.quiet l2.q) bJ[ps.length][c] (Nat.le_refl _)
     have l3:=l2.quiet m2
     obtain⟨h4,nb,n1,n2,n3,n4⟩:=abc (fl:=fl) hg (r.quiet l3.q) ((FD.aB hg).inv bJ[ps.length][c]) (l3.row ps.length aCv XI).1 (by rw[hw6 _ (List.getElem_mem XI)];exact Sx) (by have:=l3.q.1;omega)
     have l4:=l3.quiet n4
     have hhb:=l3.NL.1
     have hsi:SI h4 ⟨some ⟨nb,0,none⟩,bJ[ps.length].length,bJ[ps.length].length⟩ (vl ((FD.aB hg).nB ((FD.aB hg).inv bJ[ps.length][c]) bJ[ps.length])):=by
      have:=n3.si none bJ[ps.length].length
      rwa[fU,Fld.cY] at this
     have l5:=l4.set (i:=ps.length) XI hsi (fun q hq=>by cases hq;simp only[ne_eq];omega)
     rw[←abE] at l5
     have s4:=fun(K':AH→Option R)=>LB.st (cap:=cap) (fl:=fl) l4 (R:=R) (i:=ps.length) (n:=rows.length) (t:=⟨some ⟨nb,0,none⟩,bJ[ps.length].length,bJ[ps.length].length⟩) hl6.symm XI bN K'
     obtain⟨h',B7,B9,t1,t2⟩:=fin _ _ l5 ((((q2.quiet m2).quiet n4).put _).upd ps.length (fun q hq a ha=>by cases hq;have:=q2.lt a ha;have:=m2.1;simp only[ne_eq];omega))
     refine⟨h',B7,B9,?_,t2⟩
     rw[ab (X0.cell rfl),ab (X0.cell rfl),ah (s:=mod) (X0.cell rfl),ab (X0.cell rfl),ab (X0.cell rfl),ah (s:=mod) (X0.cell rfl),hr,ag (show M H2.next fn.qk [.agg ⟨[.int .i64 (D.p:Int),.int .i64 (D.m:Int),.slice mod.a mod.l mod.c]⟩,.int .i64 (ve bJ[ps.length][c])] H2=_ from m1)]
     simp only[asInt,if_true]
     rw[aT rfl (show ps.length<rows.length from cf)]
     dsimp only
     rw[ah (s:=ts2[ps.length]) (l3.cell XI),ag (show M fl fn.nH [.agg ⟨[.int .i64 (D.p:Int),.int .i64 (D.m:Int),.slice mod.a mod.l mod.c]⟩,.int .i64 (ve ((FD.aB hg).inv bJ[ps.length][c])),.slice (ts2[ps.length]).a (ts2[ps.length]).l (ts2[ps.length]).c] h3=_ from n1)]
     simp only[bB]
     rw[s4]
     exact t1
  ·rw[if_neg (by simp;omega)]
   have hgj:(FD.aB hg).oe (d+1) c rows ps=(rows,ps):=Fld.Qu _ _ _ _ _ (by omega)
   rw[hgj]
   exact⟨h,ts,pv,rfl,lb,qv⟩
end
end Go.Abs.P
end
section
namespace Go.Abs.P
open Go.Abs Go.Fld
theorem abf{R:Type}{fl b:Nat}{h:AH}{s:Sl}{xs:List Int}(hb:OB h b [])(hs:SI h s xs)(hr:xs.length*8≤kA)(K:Sl→AH→Option R):
 ∃s' h',fW fl 1 8 ⟨some ⟨b,0,none⟩,0,0⟩ s h K=K s' h'∧SI h' s' xs∧ai h h'∧∀a,s'.a=some a→b≤a.block∧a.block<h'.next:=by
 have hl:=hs.len
 have hbl:=hb.1
 unfold fW
 cases xs with
 |nil=>
  refine⟨⟨some ⟨b,0,none⟩,0,0⟩,h,?_,⟨rfl,fun i hi=>by cases hi⟩,ai.refl h,fun a ha=>by cases ha;exact⟨Nat.le_refl _,hbl⟩⟩
  rw[if_pos (by simpa using hl)]
 |cons x xs=>
  refine⟨⟨some ⟨h.next,0,none⟩,s.l,nZ+1⟩,h.alloc (iv (x::xs)),?_,?_,ai.alloc ..,fun a ha=>by cases ha;simp only[AH.alloc];omega⟩
  ·rw[if_neg (by rw[hl];simp),if_pos (by rw[hl];simpa using hr),hs.Cu (by simp)]
   simp only
   rw[if_pos (by unfold nZ;omega),if_neg (by rw[hl];simp)]
   unfold Cu
   simp only[hb.gR]
   rw[if_pos (by simp)]
   simp
  ·have:=(OB.alloc h (iv (x::xs))).si none (nZ+1)
   rw[hl];exact this
structure CP(h0 h:AH)(t:Sl)(ts:List Sl)(rows:List (List Int)):Prop where
 q:ai h0 h
 ov:OV h0.next h t (ts.map Sl.v)
 row:∀j (h1:j<ts.length) (h2:j<rows.length),SI h ts[j] rows[j]∧∀q,(ts[j]).a=some q→h0.next≤q.block∧q.block<h.next∧∀a,t.a=some a→q.block≠a.block
theorem aie{R:Type}{fl k:Nat}(kn:ak R){h0:AH}{s:Sl}{rows:List (List Int)}(hs:RR h0 s rows)(bN:fl≤h0.next)(hw:∀r∈rows,r.length≤65536)(hm:rows.length≤65536):
 ∀(d i f:Nat) (t:Sl) (ts:List Sl) (h:AH),i+d=rows.length→d<f→ts.length=i→CP h0 h t ts rows→
 ∃h' t' B7,nT M fl k kn f s t (i:Int) h=kn t' h'∧CP h0 h' t' B7 rows∧B7.length=rows.length:=by
 intro d
 induction d with
 |zero=>
  intro i f t ts h hi hf hl cp
  obtain⟨f,rfl⟩:∃j,f=j+1:=⟨f-1,by omega⟩
  refine⟨h,t,ts,?_,cp,by omega⟩
  show rI M fl k _ _ _ _ _ h=_
  unfold rI
  rw[if_neg (by simp[hs.len];omega)]
 |succ d ih=>
  intro i f t ts h hi hf hl cp
  obtain⟨f,rfl⟩:∃j,f=j+1:=⟨f-1,by omega⟩
  have nw:i<rows.length:=by omega
  show ∃h' t' B7,rI M fl k (nT M fl k kn f) kn s t (i:Int) h=_∧_
  unfold rI
  rw[if_pos (by simp[hs.len];omega)]
  have o1:=OB.alloc h []
  have q1:=ai.alloc h []
  generalize eB:h.alloc []=h1 at o1 q1
  rw[bu eB]
  obtain⟨r,r1,r2⟩:=((hs.quiet cp.q).quiet q1).read nw
  rw[r2]
  obtain⟨s5,h2,a1,a2,a3,a4⟩:=abf (R:=R) (fl:=fl) o1 r1 (by have:=hw _ (List.getElem_mem nw);unfold kA;omega) (fun s5 h6=>cU h6 [.slice s5.a s5.l s5.c] fun b7 h8=>fW fl 1 24 t ⟨(some ⟨b7,0,none⟩),1,1⟩ h8 fun s9 H7=>nT M fl k kn f s s9 (bL ((i:Int)+1)) H7)
  rw[a1]
  have q2:=q1.trans a3
  have n0:=cp.q.1
  have n2:=q2.1
  obtain⟨s9,H7,v1,v2,v3,v4⟩:=(cp.ov.quiet q2).push (R:=R) (fl:=fl) (bytes:=24) (x:=.slice s5.a s5.l s5.c) bN (by omega) (by unfold kA;simp;omega) rfl (fun s9 H7=>nT M fl k kn f s s9 (bL ((i:Int)+1)) H7)
  rw[v1,av (i+1) (by push_cast;rfl) (by omega)]
  have htb:∀a,t.a=some a→a.block<h.next:=fun a ha=>OV.lt cp.ov a ha
  refine ih (i+1) f s9 (ts++[s5]) H7 (by omega) (by omega) (by simp;omega) ⟨v3.quiet (cp.q.trans q2) (fun a ha=>cp.ov.ge a ha),by rw[List.map_append];exact v2,?_⟩
  intro j h1 h2
  have n3:=v3.1
  by_cases e:j=i
  ·subst e
   have e1:(ts++[s5])[j]=s5:=by rw[List.getElem_append_right (by omega)];simp[hl]
   rw[e1]
   refine⟨a2.AA v3 (fun a b ha hb=>?_),fun q hq=>?_⟩
   ·have:=a4 a ha;have:=htb b hb;simp only[ne_eq];omega
   ·have:=a4 q hq
    exact⟨by omega,by omega,fun a ha=>by have:=v4 a ha;simp only[ne_eq];omega⟩
  ·have hj:j<ts.length:=by simp at h1;omega
   have e1:(ts++[s5])[j]=ts[j]:=List.getElem_append_left hj
   rw[e1]
   obtain⟨g1,g2⟩:=cp.row j hj h2
   refine⟨(g1.quiet q2).AA v3 (fun a b ha hb=>fun e=>(g2 a ha).2.2 b hb e.symm),fun q hq=>?_⟩
   obtain⟨k1,k2,_⟩:=g2 q hq
   exact⟨k1,by omega,fun a ha=>by have:=v4 a ha;simp only[ne_eq];omega⟩
theorem aif{fl:Nat}{h:AH}{s:Sl}{rows:List (List Int)}(hs:RR h s rows)(bN:fl≤h.next)(hw:∀r∈rows,r.length≤65536)(hm:rows.length≤65536):
 ∃h' t ts,M fl fn.vT [.slice s.a s.l s.c] h=some (.slice t.a t.l t.c,h')∧CP h h' t ts rows∧ts.length=rows.length:=by
 obtain⟨h',t,ts,e1,e2,e3⟩:=aie (fl:=fl) (k:=rows.length+1) (LI M fl (rows.length+1) (fun(y:Sl) q=>some (Value.slice y.a y.l y.c,q))) hs bN hw hm rows.length 0 (rows.length+1) ⟨none,0,0⟩ [] h (by omega) (by omega) rfl ⟨ai.refl h,OV.nil _ _,fun j h1=>by cases h1⟩
 refine⟨h',t,ts,aX (k:=rows.length+1) (by decide) Xk ?_,e2,e3⟩
 rw[RK]
 unfold vT al6 WU
 exact e1
section
variable{D:FD}{gen:Nat}(hg:D.aJ gen){mod:Sl}{h:AH}{fl:Nat}
theorem LB.rr{h0 h:AH}{hb n cap:Nat}{ts:List Sl}{rows:List (List (El D))}(lb:LB h0 h hb ts rows)(hn:n≤rows.length):RR h ⟨some ⟨hb,0,none⟩,n,cap⟩ ((rows.take n).map vl):=by
 refine⟨by simp;omega,fun i hi=>?_⟩
 have By:i<n:=by simp at hi;omega
 have hir:i<rows.length:=by omega
 have hit:i<ts.length:=by rw[lb.len];exact hir
 refine⟨_,ts[i],rfl,lb.NL.1,lb.cell hir,?_⟩
 have:=(lb.row i hit hir).1
 simpa using this
theorem aih(r:RF h mod D){s:Sl}{rows:List (List (El D))}{w cols:Nat}(hs:RR h s (rows.map vl))(hcw:cols≤w)(Sx:w≤65536)(bN:fl≤h.next)(hn:rows.length≤65536)(hw:Fld.eG w rows):
 ∃(h':AH) (s' pv:Sl),M fl fn.fz [fa D mod,.slice s.a s.l s.c,.int .i64 (cols:Int)] h=some (.tuple ⟨[.slice s'.a s'.l s'.c,.slice pv.a pv.l pv.c]⟩,h')∧ai h h'∧OV h.next h' pv (iv (ints ((FD.aB hg).oe cols 0 rows []).2))∧
  ((rows=[]∧s'=⟨none,0,0⟩)∨∃hb cap ts,(cap=nZ+1∨cap=rows.length∧cap<nZ)∧s'=⟨some ⟨hb,0,none⟩,rows.length,cap⟩∧LB (h.alloc [.int .i64 (D.p:Int),.int .i64 (D.m:Int),.slice mod.a mod.l mod.c]) h' hb ts ((FD.aB hg).oe cols 0 rows []).1):=by
 have du:=rX h D mod
 have eF:=ai.alloc h [.int .i64 (D.p:Int),.int .i64 (D.m:Int),.slice mod.a mod.l mod.c]
 generalize eB:h.alloc [.int .i64 (D.p:Int),.int .i64 (D.m:Int),.slice mod.a mod.l mod.c]=h1 at du eF
 have n1:=eF.1
 obtain⟨h2,t,ts,c1,c2,c3⟩:=aif (fl:=fl) (hs.quiet eF) (by omega) (fun x hx=>by
  obtain⟨y,hy,rfl⟩:=List.mem_map.1 hx
  rw[fU,hw y hy];exact Sx) (by simpa using hn)
 rw[List.length_map] at c3
 have pre:∀{k r},Pw M fl k (fun y6 y7 q=>some (Value.tuple ⟨[.slice y6.a y6.l y6.c,.slice y7.a y7.l y7.c]⟩,q)) (cols:Int) ⟨h.next,0,none⟩ t ⟨none,0,0⟩ 0 0 h2=some r→M fl fn.fz [fa D mod,.slice s.a s.l s.c,.int .i64 (cols:Int)] h=some r:=by
  intro k r he
  refine aX (k:=k) (by decide) Ky ?_
  unfold fa
  rw[E7]
  unfold fz alB Wo
  rw[bu eB,ag c1]
  simp only[bB]
  exact he
 rcases c2.ov with⟨z1,z2⟩|⟨b,c,g1,g2,g3,g4,g5,g6⟩
 ·have hz:rows=[]:=List.length_eq_zero_iff.1 (by rw[←c3];simpa using z1)
  subst hz
  have hgj:(FD.aB hg).oe cols 0 [] []=([],[]):=Fld.Qu _ _ _ _ _ (by simp)
  rw[hgj]
  refine⟨h2,⟨none,0,0⟩,⟨none,0,0⟩,pre (k:=1) ?_,eF.trans c2.q,OV.nil _ _,.inl ⟨rfl,rfl⟩⟩
  subst z2
  unfold Pw
  show lN M fl _ _ _ _ _ _ _ _ _ h2=_
  unfold lN ra
  by_cases c0:(0:Int)<cols
  ·rw[if_pos (by simp;omega),if_neg (by simp)];rfl
  ·rw[if_neg (by simp;omega)];rfl
 ·subst g5
  have hl:(ts.map Sl.v).length=rows.length:=by simp[c3]
  rw[hl] at pre g4
  have lb:LB h1 h2 b ts rows:=⟨c2.q,⟨g2,g6⟩,c3,fun i i1 i2=>by
   have:=c2.row i i1 (by simpa using i2)
   simp only[List.getElem_map] at this
   exact⟨this.1,fun q hq=>(this.2 q hq).2.2 _ rfl⟩,g1⟩
  obtain⟨h',B7,B9,e1,e2,e3⟩:=adi (fl:=fl) (k:=max (cols+1) (rows.length+1)) (cap:=c) hg (Lw M fl (max (cols+1) (rows.length+1)) (fun y6 y7 q=>some (Value.tuple ⟨[.slice y6.a y6.l y6.c,.slice y7.a y7.l y7.c]⟩,q))) (r.quiet eF) du hcw Sx (by omega) hn (by omega) cols 0 (max (cols+1) (rows.length+1)) rows ts [] ⟨none,0,0⟩ h2 (by omega) (by omega) rfl hw lb ⟨OV.nil _ _,fun a ha=>(by cases ha),fun t _ q _ a ha=>(by cases ha)⟩ (Nat.zero_le _)
  exact⟨h',_,B9,pre e1,eF.trans e2.q,e3.ov.mono n1,.inr ⟨b,c,B7,g4,rfl,e2⟩⟩
theorem adj(r:RF h mod D){s:Sl}{rows:List (List (El D))}{w:Nat}(hs:RR h s (rows.map vl))(Sx:w≤65536)(bN:fl≤h.next)(hn:rows.length≤65536)(hw:Fld.eG w rows):
 ∃(h':AH) (s' pv:Sl),M fl fn.kI [fa D mod,.slice s.a s.l s.c,.int .i64 (w:Int)] h=some (.tuple ⟨[.slice s'.a s'.l s'.c,.slice pv.a pv.l pv.c]⟩,h')∧ai h h'∧RR h' s' (((FD.aB hg).aL rows w).1.map vl)∧OV h.next h' pv (iv (ints ((FD.aB hg).aL rows w).2)):=by
 have du:=rX h D mod
 have eF:=ai.alloc h [.int .i64 (D.p:Int),.int .i64 (D.m:Int),.slice mod.a mod.l mod.c]
 generalize eB:h.alloc [.int .i64 (D.p:Int),.int .i64 (D.m:Int),.slice mod.a mod.l mod.c]=h1 at du eF
 have n1:=eF.1
 obtain⟨h',s',pv,e1,e2,e3,e4⟩:=aih (fl:=fl) hg (r.quiet eF) (hs.quiet eF) (Nat.le_refl w) Sx (by omega) hn hw
 have hps:=(FD.aB hg).amT w 0 rows [] (Nat.zero_le _)
 have hlen:=(FD.aB hg).vR w 0 rows []
 have H6:pv.l=((FD.aB hg).oe w 0 rows []).2.length:=by have:=e3.len;simpa using this
 have go:∀s'',(∀{R:Type} (K:Sl→Option R),sub 1 s' none (some ((pv.l:Nat):Int)) none K=K s'')→RR h' s'' (((FD.aB hg).aL rows w).1.map vl)→
  ∃(h':AH) (s' pv:Sl),M fl fn.kI [fa D mod,.slice s.a s.l s.c,.int .i64 (w:Int)] h=some (.tuple ⟨[.slice s'.a s'.l s'.c,.slice pv.a pv.l pv.c]⟩,h')∧ai h h'∧RR h' s' (((FD.aB hg).aL rows w).1.map vl)∧OV h.next h' pv (iv (ints ((FD.aB hg).aL rows w).2)):=by
  intro s'' hK hrr
  refine⟨h',s'',pv,aX (k:=1) (by decide) Ts ?_,eF.trans e2,hrr,e3.mono n1⟩
  unfold fa
  rw[Oa]
  unfold kI akQ
  rw[bu eB,ab (du.cell rfl),ab (du.cell rfl),ah (s:=mod) (du.cell rfl),ag (show M fl fn.fz [.agg ⟨[.int .i64 (D.p:Int),.int .i64 (D.m:Int),.slice mod.a mod.l mod.c]⟩,.slice s.a s.l s.c,.int .i64 (w:Int)] h1=_ from e1)]
  simp only[bj,aG,ch,bB]
  rw[hK]
 rcases e4 with⟨rfl,rfl⟩|⟨hb,cap,ts,k1,rfl,lb⟩
 ·have hz:((FD.aB hg).oe w 0 [] []).2.length=0:=by simpa using hps
  refine go ⟨none,0,0⟩ (fun K=>?_) ?_
  ·rw[H6,hz];unfold sub;simp[nZ]
  ·have:((FD.aB hg).aL [] w).1=[]:=by unfold Fld.aL;rw[hz];rfl
   rw[this];exact RR.nil _
 ·have hrr:∀cap',RR h' ⟨some ⟨hb,0,none⟩,((FD.aB hg).oe w 0 rows []).2.length,cap'⟩ (((FD.aB hg).aL rows w).1.map vl):=fun cap'=>lb.rr (by rw[hlen];exact hps)
  refine go ⟨some ⟨hb,0,none⟩,((FD.aB hg).oe w 0 rows []).2.length,cap⟩ (fun K=>?_) (hrr cap)
  rw[H6]
  unfold sub
  dsimp only
  rcases k1 with rfl|⟨rfl,k2⟩
  ·rw[if_neg (by omega),if_pos ⟨rfl,rfl⟩]
   simp only[Option.getD_none,Option.getD_some]
   rw[if_pos (by omega)]
   simp
  ·rw[if_pos k2]
   simp only[Option.getD_none,Option.getD_some]
   rw[if_pos (by omega)]
   by_cases hz:rows.length=0
   ·have h0:((FD.aB hg).oe w 0 rows []).2.length=0:=by omega
    rw[h0,hz];simp
   ·rw[if_neg (by omega)];simp
end
end Go.Abs.P
end
section
namespace Go.Abs.P
open Go.Abs Go.Fld
section
variable{h:AH}{fl:Nat}{mod:Sl}{xs:List Int}
theorem XC(p m:Int)(bF:SI h mod xs)(hb:xs.length≤mh)(bN:fl≤h.next){cols:Int}{s:Sl}{rs:List (List Int)}(hs:RR h s rs)(hm:rs.length≤65536)(hw:∀r∈rs,r.length≤65536):
 ∃(h':AH) (e:Int),M fl fn.kH [.agg ⟨[.int .i64 p,.int .i64 m,.slice mod.a mod.l mod.c]⟩,.agg ⟨[.int .i64 cols,.slice s.a s.l s.c]⟩] h=some (.int .i64 e,h')∧ai h h'∧SpE p m xs cols rs e:=by
 have o1:=OB.alloc h [.int .i64 p,.int .i64 m,.slice mod.a mod.l mod.c]
 have q1:=ai.alloc h [.int .i64 p,.int .i64 m,.slice mod.a mod.l mod.c]
 generalize eB:h.alloc [.int .i64 p,.int .i64 m,.slice mod.a mod.l mod.c]=h1 at o1 q1
 have o2:=OB.alloc h1 [.int .i64 cols,.slice s.a s.l s.c]
 have q2:=ai.alloc h1 [.int .i64 cols,.slice s.a s.l s.c]
 generalize Mg:h1.alloc [.int .i64 cols,.slice s.a s.l s.c]=h2 at o2 q2
 have TK:=q1.trans q2
 have l1:=TK.1
 have k9:=o1.quiet q2
 obtain⟨h3,e,c1,c2,c3⟩:=XB (fl:=fl) p m (bF.quiet TK) hb (by omega) (cols:=cols) (hs.quiet TK) hm hw
 have q3:=TK.trans c2
 have go:∀{r},Y4 M fl 1 (fun y4 q=>some (Value.int .i64 y4,q)) p m mod cols s h=some r→M fl fn.kH [.agg ⟨[.int .i64 p,.int .i64 m,.slice mod.a mod.l mod.c]⟩,.agg ⟨[.int .i64 cols,.slice s.a s.l s.c]⟩] h=some r:=by
  intro r he
  refine aX (k:=1) (by decide) Tq ?_
  rw[N3];exact he
 have bad:e≠0→M fl fn.kH [.agg ⟨[.int .i64 p,.int .i64 m,.slice mod.a mod.l mod.c]⟩,.agg ⟨[.int .i64 cols,.slice s.a s.l s.c]⟩] h=some (.int .i64 e,h3):=by
  intro he
  refine go ?_
  unfold Y4
  rw[bu eB,bu Mg,ab (k9.cell rfl),ab (k9.cell rfl),ah (s:=mod) (k9.cell rfl),ab (o2.cell rfl),ah (s:=s) (o2.cell rfl),ag c1]
  simp only[asInt,if_true]
  rw[if_pos (by simp[he])]
 rcases c3 with⟨nf,rfl⟩|⟨D,gen,hF,hg,rfl⟩
 ·exact⟨h3,1,bad (by omega),q3,.jv nf rfl⟩
 ·by_cases z:dt D cols rs=0
  ·obtain⟨z1,z2,z3,rows,z4,z5⟩:=tW z
   obtain⟨f1,f2,f3,f4,f5⟩:=hF
   have hF:PN p m xs D:=⟨f1,f2,f3,f4,f5⟩
   have ec:(cols.toNat:Int)=cols:=by omega
   have hrs:=(hs.quiet TK).quiet c2
   have hmo:SI h3 mod xs:=bF.quiet q3
   have o1q:=k9.quiet c2
   have o2q:=o2.quiet c2
   have l3:=q3.1
   have rf:RF h3 mod D:=⟨f1,by rw[f4] at hmo;exact hmo⟩
   have axQ:=hrs
   rw[z4] at axQ
   obtain⟨h4,s',pv,e1,e2,e3,e4⟩:=adj (fl:=fl) hg rf axQ (w:=cols.toNat) (by omega) (by omega) (by rw[z4,List.length_map] at z3;omega) z5
   have q4:=q3.trans e2
   have hcl:((FD.aB hg).aL rows cols.toNat).1.length≤65536:=by
    unfold Fld.aL
    simp only[List.length_take,Fld.vR]
    rw[z4,List.length_map] at z3;omega
   have hcw:∀r∈((FD.aB hg).aL rows cols.toNat).1.map vl,r.length≤mh:=by
    intro r hr
    obtain⟨r',hr',rfl⟩:=List.mem_map.1 hr
    have:=Fld.agi (FD.aB hg) cols.toNat 0 rows [] z5 (Nat.zero_le _) r' (List.mem_of_mem_take hr')
    rw[fU,this];unfold mh;omega
   have sm:=TD (fl:=fl) e3 (hs.quiet q4) (by rw[List.length_map];unfold mh;omega) hcw
   have run:∀(v:Int),v=(if (!(decide (((FD.aB hg).aL rows cols.toNat).1.map vl=rs)))=true then 5 else 0)→M fl fn.kH [.agg ⟨[.int .i64 p,.int .i64 m,.slice mod.a mod.l mod.c]⟩,.agg ⟨[.int .i64 cols,.slice s.a s.l s.c]⟩] h=some (.int .i64 v,h4):=by
    intro v hv
    refine go ?_
    unfold Y4
    rw[bu eB,bu Mg,ab (k9.cell rfl),ab (k9.cell rfl),ah (s:=mod) (k9.cell rfl),ab (o2.cell rfl),ah (s:=s) (o2.cell rfl),ag c1]
    simp only[asInt,if_true]
    rw[if_neg (by simp[z]),ab (o1q.cell rfl),ab (o1q.cell rfl),ah (s:=mod) (o1q.cell rfl),ah (s:=s) (o2q.cell rfl),ab (o2q.cell rfl)]
    have e1':M fl fn.kI [.agg ⟨[.int .i64 p,.int .i64 m,.slice mod.a mod.l mod.c]⟩,.slice s.a s.l s.c,.int .i64 cols] h3=some (.tuple ⟨[.slice s'.a s'.l s'.c,.slice pv.a pv.l pv.c]⟩,h4):=by
     have:=e1
     unfold fa at this
     rw[ec,←f2,←f3] at this
     exact this
    rw[ag e1']
    simp only[bj,aG,ch,bB]
    rw[ah (s:=s) ((o2q.quiet e2).cell rfl),ag sm]
    simp only[asBool]
    rw[hv]
    split<;>rfl
   by_cases ceq:((FD.aB hg).aL rows cols.toNat).1=rows
   ·exact⟨h4,0,run 0 (by rw[ceq,z4];simp),q4,.ok D gen hF hg rows z4 z5 z ceq rfl⟩
   ·refine⟨h4,5,run 5 ?_,q4,.form D gen hF hg rows z4 z5 z ceq rfl⟩
    rw[if_pos]
    simp only[Bool.not_eq_eq_eq_not,Bool.not_true,decide_eq_false_iff_not]
    rw[z4]
    exact fun e=>ceq (tX e)
  ·exact⟨h3,_,bad z,q3,.bad D gen hF hg z rfl⟩
theorem KD(p m:Int)(bF:SI h mod xs)(hb:xs.length≤mh)(bN:fl≤h.next){n:Int}{s:Sl}{rs:List (List Int)}(hs:RR h s rs)(hm:rs.length≤65536)(hw:∀r∈rs,r.length≤65536):
 ∃(h':AH) (e:Int),M fl fn.nD [ca p m mod n s] h=some (.int .i64 e,h')∧ai h h'∧PR p m xs n rs e:=by
 have o1:=OB.alloc h [.int .i64 p,.int .i64 m,.slice mod.a mod.l mod.c,.int .i64 n,.slice s.a s.l s.c]
 have q1:=ai.alloc h [.int .i64 p,.int .i64 m,.slice mod.a mod.l mod.c,.int .i64 n,.slice s.a s.l s.c]
 generalize eB:h.alloc [.int .i64 p,.int .i64 m,.slice mod.a mod.l mod.c,.int .i64 n,.slice s.a s.l s.c]=h1 at o1 q1
 have l1:=q1.1
 obtain⟨h2,e1,c1,c2,c3⟩:=NH (fl:=fl) p m (bF.quiet q1) hb (by omega)
 have q2:=q1.trans c2
 have o2:=o1.quiet c2
 have l2:=q2.1
 have go:∀{r},QN M fl 1 (fun y2 q=>some (Value.int .i64 y2,q)) p m mod n s h=some r→M fl fn.nD [ca p m mod n s] h=some r:=by
  intro r he
  refine aX (k:=1) (by decide) To ?_
  unfold ca
  rw[NY];exact he
 rcases c3 with⟨f,rfl⟩|⟨nf,rfl⟩
 ·by_cases hn1:n<1
  ·refine⟨h2,4,go ?_,q2,.len f (.inl hn1) rfl⟩
   unfold QN
   rw[bu eB,ab (o1.cell rfl),ab (o1.cell rfl),ah (s:=mod) (o1.cell rfl),ag c1]
   simp only[asInt,if_true]
   rw[if_neg (by simp),ab (o2.cell rfl),if_neg (by simp[hn1])]
  ·by_cases hn2:n>64
   ·refine⟨h2,4,go ?_,q2,.len f (.inr hn2) rfl⟩
    unfold QN
    rw[bu eB,ab (o1.cell rfl),ab (o1.cell rfl),ah (s:=mod) (o1.cell rfl),ag c1]
    simp only[asInt,if_true]
    rw[if_neg (by simp),ab (o2.cell rfl),if_pos (by simp[hn1]),ab (o2.cell rfl),if_pos (by simpa using hn2)]
   ·obtain⟨h4,e4,s1,s2,s3⟩:=XC (fl:=fl) p m (bF.quiet q2) hb (by omega) (hs.quiet q2) hm hw (cols:=n)
    refine⟨h4,e4,go ?_,q2.trans s2,.sp f (by omega) s3⟩
    unfold QN
    rw[bu eB,ab (o1.cell rfl),ab (o1.cell rfl),ah (s:=mod) (o1.cell rfl),ag c1]
    simp only[asInt,if_true]
    rw[if_neg (by simp),ab (o2.cell rfl),if_pos (by simp[hn1]),ab (o2.cell rfl),if_neg (by simpa using hn2),ab (o2.cell rfl),ab (o2.cell rfl),ah (s:=mod) (o2.cell rfl),ab (o2.cell rfl),ah (s:=s) (o2.cell rfl),ag s1]
    simp only[asInt,if_true]
 ·refine⟨h2,1,go ?_,q2,.jv nf rfl⟩
  unfold QN
  rw[bu eB,ab (o1.cell rfl),ab (o1.cell rfl),ah (s:=mod) (o1.cell rfl),ag c1]
  simp only[asInt,if_true]
  rw[if_pos (by simp)]
end
end Go.Abs.P
end
section
namespace Go.Abs.P
open Go.Abs Go.Fld
structure TE(P:Nat→Prop)(h:AH)(s:Sl)(rows:List (List Int)):Prop where
 len:s.l=rows.length
 get:∀(i:Nat) (hi:i<rows.length),∃a t,s.a=some a∧a.block<h.next∧P a.block∧h.cell a.block (a.off+i)=some (Sl.v t)∧SI h t rows[i]∧∀q,t.a=some q→P q.block
section
variable{P:Nat→Prop}{h0 h h':AH}{s t:Sl}{ts:List Sl}{rows:List (List Int)}
theorem TE.rr(p:TE P h s rows):RR h s rows:=⟨p.len,fun i hi=>by
 obtain⟨a,t,h1,h2,h3,h4,h5,h6⟩:=p.get i hi
 exact⟨a,t,h1,h2,h4,h5⟩⟩
theorem TE.quiet(p:TE P h s rows)(q:ai h h'):TE P h' s rows:=⟨p.len,fun i hi=>by
 obtain⟨a,t,h1,h2,h3,h4,h5,h6⟩:=p.get i hi
 exact⟨a,t,h1,Nat.lt_of_lt_of_le h2 q.1,h3,by unfold AH.cell at h4 ⊢;rw[q.2 _ h2];exact h4,h5.quiet q,h6⟩⟩
theorem TE.AA{x:Option Addr}(p:TE P h s rows)(q:iL x h h')(hP:∀b a,P b→x=some a→a.block≠b):TE P h' s rows:=⟨p.len,fun i hi=>by
 obtain⟨a,t,h1,h2,h3,h4,h5,h6⟩:=p.get i hi
 exact⟨a,t,h1,Nat.lt_of_lt_of_le h2 q.1,h3,by unfold AH.cell at h4 ⊢;rw[q.2 _ h2 (fun b hb=>hP _ _ h3 hb)];exact h4,h5.AA q (fun c b hc hb=>hP _ _ (h6 _ hc) hb),h6⟩⟩
theorem TE.imp{Q:Nat→Prop}(p:TE P h s rows)(hPQ:∀b,P b→Q b):TE Q h s rows:=⟨p.len,fun i hi=>by
 obtain⟨a,t,h1,h2,h3,h4,h5,h6⟩:=p.get i hi
 exact⟨a,t,h1,h2,hPQ _ h3,h4,h5,fun q hq=>hPQ _ (h6 q hq)⟩⟩
theorem TE.atj(p:TE P h s rows){i:Nat}(hi:i<rows.length):∃t,SI h t rows[i]∧(∀q,t.a=some q→P q.block)∧∀h',ai h h'→∀{R:Type} (K:Sl→Option R),(idx 1 s (i:Int) fun q=>bM h' q.block q.off K)=K t:=by
 obtain⟨a,t,h1,h2,h3,h4,h5,h6⟩:=p.get i hi
 refine⟨t,h5,h6,fun h' q R K=>?_⟩
 rw[aT h1 (by rw[p.len];exact hi)]
 refine ah ?_ K
 unfold AH.cell at h4 ⊢
 rw[q.2 _ h2];exact h4
structure GL(P:Nat→Prop)(h0 h:AH)(t:Sl)(ts:List Sl)(rows:List (List Int)):Prop where
 q:ai h0 h
 ov:OV h0.next h t (ts.map Sl.v)
 len:ts.length=rows.length
 row:∀j (h1:j<ts.length) (h2:j<rows.length),SI h ts[j] rows[j]∧∀q,(ts[j]).a=some q→q.block<h.next∧P q.block∧∀a,t.a=some a→q.block≠a.block
theorem GL.nil(q:ai h0 h):GL P h0 h ⟨none,0,0⟩ [] []:=⟨q,OV.nil _ _,rfl,fun j h1=>by cases h1⟩
theorem GL.quiet(p:GL P h0 h t ts rows)(q:ai h h'):GL P h0 h' t ts rows:=
 ⟨p.q.trans q,p.ov.quiet q,p.len,fun j h1 h2=>⟨(p.row j h1 h2).1.quiet q,fun x hx=>⟨by have:=((p.row j h1 h2).2 x hx).1;have:=q.1;omega,((p.row j h1 h2).2 x hx).2⟩⟩⟩
theorem GL.push{R:Type}{fl:Nat}{r:List Int}(p:GL P h0 h t ts rows)(bN:fl≤h0.next)(hm:rows.length≤1000000)(hs:SI h s r)(hq:∀q,s.a=some q→q.block<h.next∧P q.block∧∀a,t.a=some a→q.block≠a.block)(K:Sl→AH→Option R):
 ∃t' h',(cU h [.slice s.a s.l s.c] fun b h1=>fW fl 1 24 t ⟨some ⟨b,0,none⟩,1,1⟩ h1 K)=K t' h'∧GL P h0 h' t' (ts++[s]) (rows++[r])∧iL t.a h h'∧(∀a,t'.a=some a→h.next≤a.block):=by
 have n0:=p.q.1
 have hl:=p.len
 obtain⟨t',h',v1,v2,v3,v4⟩:=p.ov.push (R:=R) (fl:=fl) (bytes:=24) (x:=.slice s.a s.l s.c) bN (by omega) (by unfold kA;simp;omega) rfl K
 have n3:=v3.1
 refine⟨t',h',v1,⟨v3.quiet p.q (fun a ha=>p.ov.ge a ha),by rw[List.map_append];exact v2,by simp[hl],?_⟩,v3,v4⟩
 intro j h1 h2
 by_cases e:j=ts.length
 ·subst e
  have e1:(ts++[s])[ts.length]=s:=by rw[List.getElem_append_right (by omega)];simp
  have e2:(rows++[r])[ts.length]=r:=by rw[List.getElem_append_right (by omega)];simp[hl]
  rw[e1,e2]
  refine⟨hs.AA v3 (fun a b ha hb=>fun e=>(hq a ha).2.2 b hb e.symm),fun q hq'=>?_⟩
  have:=(hq q hq').1
  exact⟨by omega,(hq q hq').2.1,fun a ha=>by have:=v4 a ha;simp only[ne_eq];omega⟩
 ·have hj:j<ts.length:=by simp at h1;omega
  have e1:(ts++[s])[j]=ts[j]:=List.getElem_append_left hj
  have e2:(rows++[r])[j]=rows[j]'(by omega):=List.getElem_append_left (by omega)
  rw[e1,e2]
  obtain⟨g1,g2⟩:=p.row j hj (by omega)
  refine⟨g1.AA v3 (fun a b ha hb=>fun e=>(g2 a ha).2.2 b hb e.symm),fun q hq'=>?_⟩
  have:=(g2 q hq').1
  exact⟨by omega,(g2 q hq').2.1,fun a ha=>by have:=v4 a ha;simp only[ne_eq];omega⟩
theorem GL.rrp(p:GL P h0 h t ts rows)(fr:∀b,h0.next≤b→P b):TE P h t rows:=by
 have hl:=p.len
 rcases p.ov with⟨z1,rfl⟩|⟨b,c,g1,g2,g3,g4,rfl,g6⟩
 ·have:rows=[]:=List.length_eq_zero_iff.1 (by rw[←hl];simpa using z1)
  subst this;exact⟨rfl,fun i hi=>by cases hi⟩
 ·refine⟨by simp[hl],fun i hi=>?_⟩
  refine⟨_,ts[i]'(by omega),rfl,g2,fr _ g1,?_,(p.row i (by omega) hi).1,fun q hq=>((p.row i (by omega) hi).2 q hq).2.1⟩
  refine OB.cell ⟨g2,g6⟩ ?_
  rw[Nat.zero_add,List.getElem?_map,List.getElem?_eq_getElem (by omega)];rfl
end
theorem adk{α:Type}(rows:List α){k:Nat}(hk:k<rows.length):(rows.take (k+1)).eraseIdx k=(rows.take k).eraseIdx k:=by
 rw[List.take_succ_eq_append_getElem hk,List.eraseIdx_append_of_length_le (by simp;omega)]
 have:k-(rows.take k).length=0:=by simp;omega
 rw[this,List.eraseIdx_cons_zero,List.append_nil,List.eraseIdx_of_length_le (by simp;omega)]
theorem abg{α:Type}(rows:List α){k l:Nat}(hl:l<rows.length)(h:l≠k):(rows.take (l+1)).eraseIdx k=(rows.take l).eraseIdx k++[rows[l]]:=by
 rw[List.take_succ_eq_append_getElem hl]
 by_cases c:l<k
 ·rw[List.eraseIdx_of_length_le (by simp;omega),List.eraseIdx_of_length_le (by simp;omega)]
 ·rw[List.eraseIdx_append_of_lt_length (by simp;omega)]
section
variable{D:FD}{gen:Nat}(hg:D.aJ gen){h:AH}{g:Addr}{fl:Nat}
theorem aii{R:Type}{k:Nat}(kn:ar R)(kr:ae R){bx i:Nat}{w:Nat}{rows:List (List (El D))}{s:Sl}(hx:OB h bx [.int .i64 (i:Int)])(hs:RR h s (rows.map vl))(hw:Fld.eG w rows)(hi:i<w)(hm:rows.length≤65536):
 ∀(d j m:Nat),j+d=rows.length→d<m→(∀j' (_:j'<j) (hj:j'<rows.length),(FD.aB hg).nz ((rows[j']).getD i (FD.aB hg).zero)=false)→
 zp M fl k kn kr m s (.func (.func fn.cH) ⟨[]⟩ ⟨[.pointer (some ⟨bx,0,none⟩)]⟩) (rows.length:Int) (j:Int) h=
  if rows.findIdx (fun r=>(FD.aB hg).nz (r.getD i (FD.aB hg).zero))<rows.length then kr ((rows.findIdx (fun r=>(FD.aB hg).nz (r.getD i (FD.aB hg).zero)):Nat):Int) h else kn h:=by
 intro d
 induction d with
 |zero=>
  intro j m hj hm' hp
  obtain⟨m,rfl⟩:∃j,m=j+1:=⟨m-1,by omega⟩
  show qW M fl k _ _ kr _ _ _ _ h=_
  unfold qW
  rw[if_neg (by simp;omega),if_neg]
  intro hlt
  have h1:=List.findIdx_getElem (w:=hlt)
  have h2:=hp _ (by omega) hlt
  rw[h2] at h1;cases h1
 |succ d ih=>
  intro j m hj hm' hp
  obtain⟨m,rfl⟩:∃j,m=j+1:=⟨m-1,by omega⟩
  have XO:j<rows.length:=by omega
  obtain⟨t,a1,a2⟩:=hs.read (i:=j) (by simpa using XO)
  simp only[List.getElem_map] at a1
  have nw:i<(rows[j]).length:=by rw[hw _ (List.getElem_mem XO)];exact hi
  show qW M fl k _ _ kr _ _ _ _ h=_
  unfold qW
  rw[if_pos (by simp;omega),a2]
  have hgd:(rows[j]).getD i (FD.aB hg).zero=(rows[j])[i]:=by rw[List.getD_eq_getElem?_getD,List.getElem?_eq_getElem nw];rfl
  have run:M fl fn.cH [.slice t.a t.l t.c,.pointer (some ⟨bx,0,none⟩)] h=some (.bool (ve (rows[j])[i] !=0),h):=by
   refine aX (k:=1) (by decide) qc ?_
   rw[nQ]
   unfold cH aln
   rw[ab (hx.cell rfl),a1.read (by omega) (by simp;exact nw)]
   simp only[Int.toNat_natCast,kW]
  unfold lX
  simp only[List.nil_append]
  rw[show([Value.slice t.a t.l t.c]++[Value.pointer (some ⟨bx,0,none⟩)])=[.slice t.a t.l t.c,.pointer (some ⟨bx,0,none⟩)] from rfl,run]
  simp only[asBool]
  by_cases hz:(rows[j])[i]=(FD.aB hg).zero
  ·rw[if_neg (by simp[(ix hg _).2 hz]),av (j+1) (by push_cast;rfl) (by omega)]
   refine ih (j+1) m (by omega) (by omega) ?_
   intro j' h1 h2
   by_cases e:j'=j
   ·subst e
    rw[hgd,hz]
    cases hh:(FD.aB hg).nz (FD.aB hg).zero with
    |false=>rfl
    |true=>exact absurd rfl (((FD.aB hg).K4 _).1 hh)
   ·exact hp j' (by omega) h2
  ·rw[if_pos (by simp;exact fun e=>hz ((ix hg _).1 e))]
   have hf:rows.findIdx (fun r=>(FD.aB hg).nz (r.getD i (FD.aB hg).zero))=j:=by
    rw[List.findIdx_eq XO]
    exact⟨((FD.aB hg).K4 _).2 (by rw[hgd];exact hz),fun j' h1=>hp j' h1 (by omega)⟩
   rw[hf,if_pos XO]
theorem aij{bx i:Nat}{w:Nat}{rows:List (List (El D))}{s:Sl}(hx:OB h bx [.int .i64 (i:Int)])(hs:RR h s (rows.map vl))(hw:Fld.eG w rows)(hi:i<w)(hm:rows.length≤65536):
 M fl fn.dB [.slice s.a s.l s.c,.func (.func fn.cH) ⟨[]⟩ ⟨[.pointer (some ⟨bx,0,none⟩)]⟩] h=
   some (.int .i64 (if rows.findIdx (fun r=>(FD.aB hg).nz (r.getD i (FD.aB hg).zero))<rows.length then ((rows.findIdx (fun r=>(FD.aB hg).nz (r.getD i (FD.aB hg).zero)):Nat):Int) else-1),h):=by
 have:=aii (fl:=fl) (k:=rows.length+1) hg (Lv M fl (rows.length+1) (fun y4 q=>some (Value.int .i64 y4,q))) (fun y4 q=>some (Value.int .i64 y4,q)) hx hs hw hi hm rows.length 0 (rows.length+1) (by omega) (by omega) (fun j' h1=>by omega)
 refine aX (k:=rows.length+1) (by decide) pF ?_
 rw[mB]
 unfold dB alk Wh Wg
 have hl:s.l=rows.length:=by rw[hs.len];simp
 rw[hl]
 refine Eq.trans this ?_
 split<;>rfl
theorem adl{R:Type}{k:Nat}(kn:xL R){h0:AH}{b cp:Nat}{tu:Sl}{u:List (El D)}(p:GF h0 g D gen)(a:El D)(hu:SI h0 tu (vl u))(hb:h0.next≤b)(bN:fl≤b)(hm:u.length<mh)(v0:List (El D))(hv0:v0.length=u.length)(s1:Sl)(bx:Addr)(kk:Int)(t8 s21:Sl)(Sm l:Int):
 ∀(d i f:Nat) (h:AH),i+d=u.length→d<f→OB h b (iv (vl ((FD.aB hg).bw (v0.take i) ((FD.aB hg).neg a) (u.take i)++v0.drop i)))→ai h0 h→
 ∃h',di M fl k kn f (some g) s1 bx kk t8 ⟨some ⟨b,0,none⟩,u.length,cp⟩ (ve a) s21 Sm l tu (u.length:Int) (i:Int) h=kn (some g) s1 bx kk t8 ⟨some ⟨b,0,none⟩,u.length,cp⟩ s21 Sm l h'∧OB h' b (iv (vl ((FD.aB hg).bw v0 ((FD.aB hg).neg a) u)))∧ai h0 h'∧iL (some ⟨b,0,none⟩) h h':=by
 intro d
 induction d with
 |zero=>
  intro i f h hi hf ho hq
  obtain⟨f,rfl⟩:∃j,f=j+1:=⟨f-1,by omega⟩
  rw[List.take_of_length_le (by omega),List.take_of_length_le (by omega),List.drop_of_length_le (by omega),List.append_nil] at ho
  refine⟨h,?_,ho,hq,iL.refl _ _⟩
  show cI M fl k _ _ _ _ _ _ _ _ _ _ _ _ _ _ _ h=_
  unfold cI
  rw[if_neg (by simp;omega)]
 |succ d ih=>
  intro i f h hi hf ho hq
  obtain⟨f,rfl⟩:∃j,f=j+1:=⟨f-1,by omega⟩
  have hiu:i<u.length:=by omega
  have hiv:i<v0.length:=by omega
  have hax:((FD.aB hg).bw (v0.take i) ((FD.aB hg).neg a) (u.take i)).length=i:=by rw[Fld.bI _ _ _ _ (by simp;omega)];simp;omega
  have NN:(FD.aB hg).bw (v0.take (i+1)) ((FD.aB hg).neg a) (u.take (i+1))=(FD.aB hg).bw (v0.take i) ((FD.aB hg).neg a) (u.take i)++[(FD.aB hg).add v0[i] ((FD.aB hg).neg ((FD.aB hg).mul a u[i]))]:=by
   unfold Fld.bw
   rw[List.take_succ_eq_append_getElem hiv,List.take_succ_eq_append_getElem hiu,List.zipWith_append (by simp;omega),←(FD.aB hg).neg_mul]
   rfl
  have anj:=(hu.quiet hq).read (i:=(i:Int)) (by omega) (by simp;omega) (R:=R)
  have un:di M fl k kn (f+1) (some g) s1 bx kk t8 ⟨some ⟨b,0,none⟩,u.length,cp⟩ (ve a) s21 Sm l tu (u.length:Int) (i:Int) h=cI M fl k (di M fl k kn f) kn (some g) s1 bx kk t8 ⟨some ⟨b,0,none⟩,u.length,cp⟩ (ve a) s21 Sm l tu (u.length:Int) (i:Int) h:=rfl
  rw[un]
  unfold cI
  rw[if_pos (by simp;omega),anj]
  simp only[Int.toNat_natCast,kW]
  have kY:h.cell b (0+i)=some (.int .i64 (ve v0[i])):=by
   refine ho.cell ?_
   rw[Nat.zero_add,F6 _ _ (by simp;omega),kW]
   congr 3
   rw[List.getElem_append_right (by omega)]
   simp[hax]
  have nv:(iv (vl ((FD.aB hg).bw (v0.take i) ((FD.aB hg).neg a) (u.take i)++v0.drop i))).set (0+i) (.int .i64 (ve ((FD.aB hg).add v0[i] ((FD.aB hg).neg ((FD.aB hg).mul a u[i])))))=iv (vl ((FD.aB hg).bw (v0.take (i+1)) ((FD.aB hg).neg a) (u.take (i+1))++v0.drop (i+1))):=by
   rw[iy,L6,Nat.zero_add,List.set_append_right _ _ (by omega),hax,Nat.sub_self,List.drop_eq_getElem_cons hiv,List.set_cons_zero,NN]
   simp
  obtain⟨h',e1,e2,e3,e4⟩:=ih (i+1) f (h.put b (some (iv (vl ((FD.aB hg).bw (v0.take (i+1)) ((FD.aB hg).neg a) (u.take (i+1))++v0.drop (i+1)))))) (by omega) (by omega) (ho.put _) (hq.put hb _)
  refine⟨h',?_,e2,e3,(iL.put _).trans e4⟩
  have hgh:=p.quiet hq
  rw[aT rfl (show i<u.length from hiu)]
  dsimp only
  rw[ab kY,ag (asf hg hgh a u[i])]
  simp only[asInt,if_true]
  rw[ag (azZ hg hgh v0[i] _)]
  simp only[if_true]
  rw[aT rfl (show i<u.length from hiu),ho.st bN (by simp;omega) rfl,nv,av (i+1) (by push_cast;rfl) (by unfold mh at hm;omega)]
  exact e1
end
end Go.Abs.P
end
section
namespace Go.Abs.P
open Go.Abs Go.Fld
section
variable{D:FD}{gen:Nat}(hg:D.aJ gen){h:AH}{g:Addr}{fl:Nat}
def woF(rows:List (List (El D)))(kk i:Nat)(p:List (El D))(r:List (El D)):List (El D):=(FD.aB hg).bw r ((FD.aB hg).neg ((FD.aB hg).mul (r.getD i (FD.aB hg).zero) ((FD.aB hg).inv (p.getD i (FD.aB hg).zero)))) p
theorem ash{R:Type}{k:Nat}(kn:ak R){P:Nat→Prop}{h0:AH}{bx w kk i:Nat}{rows:List (List (El D))}{s:Sl}(gf:GF h0 g D gen)(hx:OB h0 bx [.int .i64 (i:Int)])(hs:TE P h0 s (rows.map vl))(fr:∀b,h0.next≤b→P b)(hw:Fld.eG w rows)(hi:i<w)(Sx:w≤65536)(hm:rows.length≤65536)(hkk:kk<rows.length)(hz:(rows[kk]).getD i (FD.aB hg).zero≠(FD.aB hg).zero)(bN:fl≤h0.next)(hk:w<k):
 ∀(d l f:Nat) (t:Sl) (ts:List Sl) (h:AH),l+d=rows.length→d<f→GL P h0 h t ts ((((rows.take l).eraseIdx kk).map (woF hg rows kk i rows[kk])).map vl)→
 ∃h' t' B7,gP M fl k kn f (some g) s ⟨bx,0,none⟩ (kk:Int) t s (rows.length:Int) (l:Int) h=kn t' h'∧GL P h0 h' t' B7 (((rows.eraseIdx kk).map (woF hg rows kk i rows[kk])).map vl):=by
 intro d
 induction d with
 |zero=>
  intro l f t ts h hl hf gl
  obtain⟨f,rfl⟩:∃j,f=j+1:=⟨f-1,by omega⟩
  rw[List.take_of_length_le (by omega)] at gl
  refine⟨h,t,ts,?_,gl⟩
  show qH M fl k _ _ _ _ _ _ _ _ _ _ h=_
  unfold qH wj
  rw[if_neg (by simp;omega)]
 |succ d ih=>
  intro l f t ts h hl hf gl
  obtain⟨f,rfl⟩:∃j,f=j+1:=⟨f-1,by omega⟩
  have hll:l<rows.length:=by omega
  have hlw:=hw _ (List.getElem_mem hll)
  have hkw:=hw _ (List.getElem_mem hkk)
  have un:gP M fl k kn (f+1) (some g) s ⟨bx,0,none⟩ (kk:Int) t s (rows.length:Int) (l:Int) h=qH M fl k (gP M fl k kn f) kn (some g) s ⟨bx,0,none⟩ (kk:Int) t s (rows.length:Int) (l:Int) h:=rfl
  rw[un]
  unfold qH wj
  rw[if_pos (by simp;omega)]
  unfold C6 u5 sB oL
  have hsq:=hs.quiet gl.q
  obtain⟨r,a0,aP,a2⟩:=hs.atj (i:=l) (by simpa using hll)
  simp only[List.getElem_map] at a0
  have a1:=a0.quiet gl.q
  obtain⟨rk,b1,_,b2⟩:=hs.atj (i:=kk) (by simpa using hkk)
  simp only[List.getElem_map] at b1
  replace b1:=b1.quiet gl.q
  rw[a2 h gl.q]
  by_cases e:l=kk
  ·subst e
   rw[if_pos (by simp)]
   unfold dn
   rw[av (l+1) (by push_cast;rfl) (by omega)]
   exact ih (l+1) f t ts h (by omega) (by omega) (by rw[adk rows hll];exact gl)
  ·rw[if_neg (by simp;omega),ab ((hx.quiet gl.q).cell rfl),a1.read (by omega) (by simp;omega)]
   simp only[Int.toNat_natCast,kW]
   have n0:=gl.q.1
   have nx:(((rows.take (l+1)).eraseIdx kk).map (woF hg rows kk i rows[kk])).map vl=(((rows.take l).eraseIdx kk).map (woF hg rows kk i rows[kk])).map vl++[vl (woF hg rows kk i rows[kk] rows[l])]:=by
    rw[abg rows hll e];simp
   have hlen:((((rows.take l).eraseIdx kk).map (woF hg rows kk i rows[kk])).map vl).length≤1000000:=by
    have:=(List.eraseIdx_sublist (rows.take l) kk).length_le
    simp only[List.length_map]
    rw[List.length_take] at this
    omega
   have hgd:(rows[l]).getD i (FD.aB hg).zero=(rows[l])[i]'(by omega):=by rw[List.getD_eq_getElem?_getD,List.getElem?_eq_getElem (by omega)];rfl
   have hgk:(rows[kk]).getD i (FD.aB hg).zero=(rows[kk])[i]'(by omega):=by rw[List.getD_eq_getElem?_getD,List.getElem?_eq_getElem (by omega)];rfl
   unfold uf lH
   have fin:∀(h2:AH) (s2:Sl),GL P h0 h2 t ts ((((rows.take l).eraseIdx kk).map (woF hg rows kk i rows[kk])).map vl)→SI h2 s2 (vl (woF hg rows kk i rows[kk] rows[l]))→(∀q,s2.a=some q→q.block<h2.next∧P q.block∧∀a,t.a=some a→q.block≠a.block)→
    ∃h' t' B7,fj M fl k (dn M fl k (gP M fl k kn f) kn) (dn M fl k (gP M fl k kn f) kn) (some g) s ⟨bx,0,none⟩ (kk:Int) t s2 s (rows.length:Int) (l:Int) h2=kn t' h'∧GL P h0 h' t' B7 (((rows.eraseIdx kk).map (woF hg rows kk i rows[kk])).map vl):=by
    intro h2 s2 gl2 hs2 lV
    obtain⟨t',h3,p1,p2,_⟩:=gl2.push (R:=R) (fl:=fl) bN hlen hs2 lV (fun s3 h4=>dn M fl k (gP M fl k kn f) kn (some g) s ⟨bx,0,none⟩ (kk:Int) s3 s (rows.length:Int) (l:Int) h4)
    rw[←nx] at p2
    obtain⟨h',t'',B7,r1,r2⟩:=ih (l+1) f t' _ h3 (by omega) (by omega) p2
    refine⟨h',t'',B7,?_,r2⟩
    unfold fj
    refine Eq.trans p1 ?_
    unfold dn
    rw[av (l+1) (by push_cast;rfl) (by omega)]
    exact r1
   have tge:∀a,t.a=some a→h0.next≤a.block∧a.block<h.next:=fun a ha=>⟨gl.ov.ge a ha,OV.lt gl.ov a ha⟩
   have fA:vl rows[l]≠[]:=fun e=>by
    have:(vl rows[l]).length=0:=by rw[e];rfl
    rw[fU] at this;omega
   by_cases hc:(rows[l])[i]'(by omega)=(FD.aB hg).zero
   ·rw[if_neg (by simp[(ix hg _).2 hc])]
    have e0:woF hg rows kk i rows[kk] rows[l]=rows[l]:=by
     unfold woF
     rw[hgd,hc,Fld.zero_mul,Fld.neg_zero,Fld.DY _ _ _ (by omega)]
    refine fin h r gl (by rw[e0];exact a1) (fun q hq=>?_)
    have hlt:=a0.lt fA q hq
    exact⟨by omega,aP q hq,fun a ha=>by have:=tge a ha;simp only[ne_eq];omega⟩
   ·rw[if_pos (by simp;exact fun e=>hc ((ix hg _).1 e))]
    unfold kh jG me
    have gfq:=gf.quiet gl.q
    have tZ:=hx.quiet gl.q
    obtain⟨s',h3,c1,c2,c3⟩:=HZ (fl:=fl) a1 fA (by rw[fU];omega)
    have gl3:=gl.quiet c3
    rcases c2 with⟨z1,_⟩|⟨b,c,g1,g2,g3,g4,g5,g6⟩
    ·exact absurd (by simpa [iv] using z1) fA
    ·subst g5
     have hl3:(iv (vl rows[l])).length=(rows[kk]).length:=by simp[iv];omega
     rw[hl3] at c1
     have n3:=c3.1
     obtain⟨h4,k1,k2,k3,k4⟩:=adl (fl:=fl) (k:=k) (cp:=c) hg (fj M fl k (dn M fl k (gP M fl k kn f) kn) (dn M fl k (gP M fl k kn f) kn)) (h0:=h) gfq ((FD.aB hg).mul ((rows[l])[i]'(by omega)) ((FD.aB hg).inv ((rows[kk])[i]'(by omega)))) b1 g1 (by omega) (by unfold mh;omega) rows[l] (by omega) s ⟨bx,0,none⟩ (kk:Int) t s (rows.length:Int) (l:Int) (rows[kk]).length 0 k h3 (by omega) (by omega) (by simpa [Fld.bw] using (⟨g2,g6⟩:OB h3 b (iv (vl rows[l])))) c3
     have gl4:GL P h0 h4 t ts ((((rows.take l).eraseIdx kk).map (woF hg rows kk i rows[kk])).map vl):=by
      have:ai h h4:=k3
      exact gl.quiet this
     have e0:(FD.aB hg).bw rows[l] ((FD.aB hg).neg ((FD.aB hg).mul ((rows[l])[i]'(by omega)) ((FD.aB hg).inv ((rows[kk])[i]'(by omega))))) rows[kk]=woF hg rows kk i rows[kk] rows[l]:=by
      unfold woF;rw[hgd,hgk]
     rw[e0] at k2
     have hwl:(vl (woF hg rows kk i rows[kk] rows[l])).length=(rows[kk]).length:=by
      rw[fU];unfold woF;rw[Fld.bI _ _ _ _ (by omega)];omega
     have si4:=k2.si none c
     rw[hwl] at si4
     obtain⟨h',t',B7,r1,r2⟩:=fin h4 _ gl4 si4 (fun q hq=>by cases hq;exact⟨k2.1,fr b (by omega),fun a ha=>by have:=tge a ha;simp only[ne_eq];omega⟩)
     refine⟨h',t',B7,?_,r2⟩
     have aAz:(rows[kk])[i]'(by omega)≠(FD.aB hg).zero:=by rw[←hgk];exact hz
     rw[ab (tZ.cell rfl),a1.read (by omega) (by simp;omega)]
     simp only[Int.toNat_natCast,kW]
     rw[b2 h gl.q,ab (tZ.cell rfl),b1.read (by omega) (by simp;omega)]
     simp only[Int.toNat_natCast,kW]
     rw[ag (az1 hg gfq _ _ aAz)]
     simp only[bj,aG,ch,asInt,if_true]
     rw[ag c1]
     simp only[bB]
     rw[b2 h3 (gl.q.trans c3)]
     have hrl:rk.l=(rows[kk]).length:=by rw[b1.len];simp
     rw[hrl]
     refine Eq.trans k1 ?_
     exact r1
theorem XD{P:Nat→Prop}(fr:∀b,h.next≤b→P b){w i:Nat}{rows:List (List (El D))}{s:Sl}(gf:GF h g D gen)(hs:TE P h s (rows.map vl))(hw:Fld.eG w rows)(hi:i<w)(Sx:w≤65536)(hm:rows.length≤65536)(bN:fl≤h.next):
 ∃h' s',M fl fn.cK [.pointer (some g),.slice s.a s.l s.c,.int .i64 (i:Int)] h=some (.slice s'.a s'.l s'.c,h')∧ai h h'∧TE P h' s' (((FD.aB hg).wo rows i).map vl):=by
 have o1:=OB.alloc h [.int .i64 (i:Int)]
 have q1:=ai.alloc h [.int .i64 (i:Int)]
 generalize eB:h.alloc [.int .i64 (i:Int)]=h1 at o1 q1
 have n1:=q1.1
 have hsp:=aij (fl:=fl) hg o1 (hs.quiet q1).rr hw hi hm
 have go:∀{k:Nat} {r},cK M fl k (some g) s (i:Int) h=some r→M fl fn.cK [.pointer (some g),.slice s.a s.l s.c,.int .i64 (i:Int)] h=some r:=by
  intro k r he
  refine aX (k:=k) (by decide) uR ?_
  rw[pV]
  exact he
 by_cases c:rows.findIdx (fun r=>(FD.aB hg).nz (r.getD i (FD.aB hg).zero))<rows.length
 ·rw[if_pos c] at hsp
  have hz:=((FD.aB hg).K4 _).1 (List.findIdx_getElem (w:=c))
  have ew:(FD.aB hg).wo rows i=(rows.eraseIdx (rows.findIdx (fun r=>(FD.aB hg).nz (r.getD i (FD.aB hg).zero)))).map (woF hg rows (rows.findIdx (fun r=>(FD.aB hg).nz (r.getD i (FD.aB hg).zero))) i (rows[rows.findIdx (fun r=>(FD.aB hg).nz (r.getD i (FD.aB hg).zero))])):=by
   unfold Fld.wo
   rw[dif_pos c]
   rfl
  rw[ew]
  generalize rows.findIdx (fun r=>(FD.aB hg).nz (r.getD i (FD.aB hg).zero))=kk at c hsp hz
  obtain⟨h',t',B7,e1,e2⟩:=ash (fl:=fl) (k:=max (w+1) (rows.length+1)) hg (Lm M fl (max (w+1) (rows.length+1)) (fun y6 q=>some (Value.slice y6.a y6.l y6.c,q))) (gf.quiet q1) o1 (hs.quiet q1) (fun b hb=>fr b (by omega)) hw hi Sx hm c hz (by omega) (by omega) rows.length 0 (max (w+1) (rows.length+1)) ⟨none,0,0⟩ [] h1 (by omega) (by omega) (by simpa using GL.nil (ai.refl h1))
  refine⟨h',t',go (k:=max (w+1) (rows.length+1)) ?_,q1.trans e2.q,e2.rrp (fun b hb=>fr b (by omega))⟩
  unfold cK aeK Q3 VO
  rw[bu eB,ag hsp]
  simp only[asInt,if_true]
  have hl:s.l=rows.length:=by rw[hs.len];simp
  rw[if_neg (by simp),hl]
  exact e1
 ·rw[if_neg c] at hsp
  have ew:(FD.aB hg).wo rows i=rows:=by
   unfold Fld.wo
   rw[dif_neg c]
  rw[ew]
  refine⟨h1,s,go (k:=1) ?_,q1,hs.quiet q1⟩
  unfold cK aeK Q3
  rw[bu eB,ag hsp]
  simp only[asInt,if_true]
  rw[if_pos (by simp)]
end
end Go.Abs.P
end
section
namespace Go.Abs
section
variable{R:Type}
theorem agj{n:Nat}(hn:n≤62)(K:Int→Option R):shQ true .i64 1 (n:Int) K=K ((2^n:Nat):Int):=by
 unfold shQ X2
 have h1:(2:Nat)^n≤2^62:=Nat.pow_le_pow_right (by omega) hn
 rw[if_neg (by omega),if_pos rfl]
 have:min (n:Int).toNat IntKind.i64.bits=n:=by
  show min (n:Int).toNat 64=n
  rw[Int.toNat_natCast];omega
 rw[this]
 have e:(1:Int)*2^n=((2^n:Nat):Int):=by push_cast;omega
 rw[e]
 generalize (2:Nat)^n=m at h1
 have hw:IntKind.i64.wrap ((m:Nat):Int)=((m:Nat):Int):=jf (by omega) (by omega)
 show(match some (IntKind.i64.wrap (m:Int)) with|some n=>K n|none=>none)=K (m:Int)
 rw[hw]
theorem XE{a n:Nat}(hn:n≤63)(K:Int→Option R):shQ false .i64 (a:Int) (n:Int) K=K ((a/2^n:Nat):Int):=by
 unfold shQ X2
 rw[if_neg (by omega),if_neg (by simp)]
 have:min (n:Int).toNat IntKind.i64.bits=n:=by
  show min (n:Int).toNat 64=n
  rw[Int.toNat_natCast];omega
 rw[this]
 have e:((2:Int)^n)=((2^n:Nat):Int):=by push_cast;rfl
 rw[e,Int.fdiv_eq_ediv_of_nonneg _ (Int.natCast_nonneg _),←Int.natCast_ediv]
theorem auS{a b:Nat}(ha:a<2^62)(hb:b<2^62)(K:Int→Option R):jd .or .i64 (a:Int) (b:Int) K=K ((a|||b:Nat):Int):=by
 unfold jd Cx
 have e:(BitVec.ofInt IntKind.i64.bits (a:Int)|||BitVec.ofInt IntKind.i64.bits (b:Int)).toNat=a|||b:=by
  show(BitVec.ofInt 64 (a:Int)|||BitVec.ofInt 64 (b:Int)).toNat=a|||b
  rw[BitVec.ofInt_natCast,BitVec.ofInt_natCast,BitVec.toNat_or,BitVec.toNat_ofNat,BitVec.toNat_ofNat,Nat.mod_eq_of_lt (by omega),Nat.mod_eq_of_lt (by omega)]
 have hl:a|||b<2^62:=Nat.or_lt_two_pow ha hb
 simp only[e]
 have hw:IntKind.i64.wrap ((a|||b:Nat):Int)=((a|||b:Nat):Int):=jf (by omega) (by omega)
 rw[hw]
theorem amW{a:Nat}(ha:a<2^62)(K:Int→Option R):jd .and .i64 (a:Int) 1 K=K ((a%2:Nat):Int):=by
 unfold jd Cx
 have e:(BitVec.ofInt IntKind.i64.bits (a:Int)&&&BitVec.ofInt IntKind.i64.bits (1:Int)).toNat=a%2:=by
  show(BitVec.ofInt 64 (a:Int)&&&BitVec.ofInt 64 ((1:Nat):Int)).toNat=a%2
  rw[BitVec.ofInt_natCast,BitVec.ofInt_natCast,BitVec.toNat_and,BitVec.toNat_ofNat,BitVec.toNat_ofNat,Nat.mod_eq_of_lt (by omega),Nat.mod_eq_of_lt (by omega),Nat.and_one_is_mod]
 simp only[e]
 have hw:IntKind.i64.wrap ((a%2:Nat):Int)=((a%2:Nat):Int):=jf (by omega) (by omega)
 rw[hw]
end
end Go.Abs
namespace Go.Fld.Fld
variable{α:Type}(F:Fld α)
def frm:Nat→Nat→List (List α)→Nat→List Nat→List Nat
 |0,_,rows,mask,out=>if rows.length=0 then out else out.set mask rows.length
 |d+1,next,rows,mask,out=>if rows.length=0 then out else frm d (next+1) (F.wo rows next) mask (frm d (next+1) rows (mask|||2^next) out)
theorem w8:∀(d next:Nat) (rows:List (List α)) (mask:Nat) (out:List Nat),(F.frm d next rows mask out).length=out.length
 |0,_,rows,mask,out=>by unfold frm;split<;>simp
 |d+1,next,rows,mask,out=>by
  unfold frm
  split
  ·rfl
  ·rw[w8,w8]
theorem amX(rows:List (List α))(i:Nat):(F.wo rows i).length≤rows.length:=by
 unfold wo
 split
 ·rw[List.length_map]
  exact(List.eraseIdx_sublist _ _).length_le
 ·exact Nat.le_refl _
end Go.Fld.Fld
namespace Go.Abs.P
open Go.Abs Go.Fld
section
variable{D:FD}{gen:Nat}(hg:D.aJ gen){g:Addr}{fl:Nat}
structure FR(gen:Nat)(h0 h:AH)(g:Addr)(ob bc bo bf bg N:Nat)(cs:List Value):Prop where
 bt:iL (some ⟨ob,0,none⟩) h0 h
 c3:cs[3]?=some (.int .i64 (N:Int))
 oc:OB h0 bc cs
 oo:OB h0 bo [.slice (some ⟨ob,0,none⟩) (2^N) (2^N)]
 of:OB h0 bf [.func (.func fn.aM) ⟨[]⟩ ⟨[.pointer (some ⟨bc,0,none⟩),.pointer (some ⟨bo,0,none⟩),.pointer (some ⟨bf,0,none⟩),.pointer (some ⟨bg,0,none⟩)]⟩]
 og:OB h0 bg [.pointer (some g)]
 nc:ob≠bc∧ob≠bo∧ob≠bf∧ob≠bg
 gf:∀h',iL (some ⟨ob,0,none⟩) h0 h'→GF h' g D gen
 fl:fl≤ob
 ol:ob<h0.next
theorem FR.AA{h0 h h':AH}{ob bc bo bf bg N:Nat}{cs:List Value}(p:FR (D:=D) (fl:=fl) gen h0 h g ob bc bo bf bg N cs)(q:iL (some ⟨ob,0,none⟩) h h'):FR (D:=D) (fl:=fl) gen h0 h' g ob bc bo bf bg N cs:=
 ⟨p.bt.trans q,p.c3,p.oc,p.oo,p.of,p.og,p.nc,p.gf,p.fl,p.ol⟩
theorem aik{h0:AH}{ob bc bo bf bg N:Nat}{cs:List Value}(hN:N≤16):
 ∀(d next mask:Nat) (rows:List (List (El D))) (s:Sl) (out:List Nat) (h:AH),next+d=N→mask<2^next→Fld.eG N rows→rows.length≤65536→out.length=2^N→
 FR (D:=D) (fl:=fl) gen h0 h g ob bc bo bf bg N cs→TE (·≠ob) h s (rows.map vl)→OB h ob (iv (ints out))→
 ∃h',M fl fn.aM [.slice s.a s.l s.c,.int .i64 (mask:Int),.int .i64 (next:Int),.pointer (some ⟨bc,0,none⟩),.pointer (some ⟨bo,0,none⟩),.pointer (some ⟨bf,0,none⟩),.pointer (some ⟨bg,0,none⟩)] h=some (.tuple ⟨[]⟩,h')∧
  iL (some ⟨ob,0,none⟩) h h'∧OB h' ob (iv (ints ((FD.aB hg).frm d next rows mask out))):=by
 intro d
 induction d with
 |zero=>
  intro next mask rows s out h hd UL hw hm ho fr hs hob
  have hl:s.l=rows.length:=by rw[hs.len];simp
  have go:∀{r},aM M fl 1 s (mask:Int) (next:Int) ⟨bc,0,none⟩ ⟨bo,0,none⟩ ⟨bf,0,none⟩ ⟨bg,0,none⟩ h=some r→M fl fn.aM [.slice s.a s.l s.c,.int .i64 (mask:Int),.int .i64 (next:Int),.pointer (some ⟨bc,0,none⟩),.pointer (some ⟨bo,0,none⟩),.pointer (some ⟨bf,0,none⟩),.pointer (some ⟨bg,0,none⟩)] h=some r:=by
   intro r he
   refine aX (k:=1) (by decide) nq ?_
   rw[kO];exact he
  unfold Fld.frm
  by_cases c:rows.length=0
  ·rw[if_pos c]
   refine⟨h,go ?_,iL.refl _ _,hob⟩
   unfold aM Uo
   rw[if_pos (by simp[hl,c])]
  ·rw[if_neg c]
   have oc:=fr.bt.ob fr.oc (fun a ha=>by cases ha;exact fr.nc.1)
   have oo:=fr.bt.ob fr.oo (fun a ha=>by cases ha;exact fr.nc.2.1)
   have e0:next=N:=by omega
   subst e0
   refine⟨h.put ob (some (iv (ints (out.set mask rows.length)))),go ?_,iL.put _,hob.put _⟩
   unfold aM Uo
   rw[if_neg (by simp[hl];simpa using c),ab (oc.cell fr.c3),if_pos (by simp),ah (s:=⟨some ⟨ob,0,none⟩,2^next,2^next⟩) (oo.cell rfl),aT rfl (show mask<2^next from UL)]
   rw[hob.st fr.fl (by simp[iv,ints,ho];omega) rfl,hl,Nat.zero_add,iy,ints_set]
 |succ d ih=>
  intro next mask rows s out h hd UL hw hm ho fr hs hob
  have hl:s.l=rows.length:=by rw[hs.len];simp
  have go:∀{r},aM M fl 1 s (mask:Int) (next:Int) ⟨bc,0,none⟩ ⟨bo,0,none⟩ ⟨bf,0,none⟩ ⟨bg,0,none⟩ h=some r→M fl fn.aM [.slice s.a s.l s.c,.int .i64 (mask:Int),.int .i64 (next:Int),.pointer (some ⟨bc,0,none⟩),.pointer (some ⟨bo,0,none⟩),.pointer (some ⟨bf,0,none⟩),.pointer (some ⟨bg,0,none⟩)] h=some r:=by
   intro r he
   refine aX (k:=1) (by decide) nq ?_
   rw[kO];exact he
  unfold Fld.frm
  by_cases c:rows.length=0
  ·rw[if_pos c]
   refine⟨h,go ?_,iL.refl _ _,hob⟩
   unfold aM Uo
   rw[if_pos (by simp[hl,c])]
  ·rw[if_neg c]
   have oc:=fr.bt.ob fr.oc (fun a ha=>by cases ha;exact fr.nc.1)
   have hof:=fr.bt.ob fr.of (fun a ha=>by cases ha;exact fr.nc.2.2.1)
   have p0:(2:Nat)^next≤2^16:=Nat.pow_le_pow_right (by omega) (by omega)
   have p1:(2:Nat)^(next+1)=2^next*2:=Nat.pow_succ ..
   have hor:mask|||2^next<2^(next+1):=Nat.or_lt_two_pow (by omega) (by omega)
   obtain⟨h1,a1,a2,a3⟩:=ih (next+1) (mask|||2^next) rows s out h (by omega) hor hw hm ho fr hs hob
   have fr1:=fr.AA a2
   have hs1:TE (·≠ob) h1 s (rows.map vl):=hs.AA a2 (fun b a hb ha=>by cases ha;exact fun e=>hb e.symm)
   have aBu:=fr1.bt.ob fr.of (fun a ha=>by cases ha;exact fr.nc.2.2.1)
   have aCg:=fr1.bt.ob fr.og (fun a ha=>by cases ha;exact fr.nc.2.2.2)
   have n1:=fr1.bt.1
   have ol:=fr.ol
   obtain⟨h2,s2,b1,b2,b3⟩:=XD (fl:=h1.next) hg (P:=(·≠ob)) (fun b hb=>by omega) (fr1.gf _ fr1.bt) hs1 hw (i:=next) (by omega) (by omega) hm (Nat.le_refl _)
   have ob2:=a3.quiet b2
   obtain⟨h3,d1,d2,d3⟩:=ih (next+1) mask ((FD.aB hg).wo rows next) s2 ((FD.aB hg).frm d (next+1) rows (mask|||2^next) out) h2 (by omega) (by omega) ((FD.aB hg).yj hw next) (by have:=(FD.aB hg).amX rows next;omega) (by rw[Fld.w8];exact ho) (fr1.AA (iL.QB b2)) b3 ob2
   refine⟨h3,go ?_,(a2.trans (iL.QB b2)).trans d2,d3⟩
   unfold aM Uo
   rw[if_neg (by simp[hl];simpa using c),ab (oc.cell fr.c3),if_neg (by simp;omega)]
   have lv:∀{h:AH},OB h bf [.func (.func fn.aM) ⟨[]⟩ ⟨[.pointer (some ⟨bc,0,none⟩),.pointer (some ⟨bo,0,none⟩),.pointer (some ⟨bf,0,none⟩),.pointer (some ⟨bg,0,none⟩)]⟩]→∀{R:Type} (K:Value→Option R),ldV h bf 0 K=K (.func (.func fn.aM) ⟨[]⟩ ⟨[.pointer (some ⟨bc,0,none⟩),.pointer (some ⟨bo,0,none⟩),.pointer (some ⟨bf,0,none⟩),.pointer (some ⟨bg,0,none⟩)]⟩):=by
    intro h o R K
    unfold ldV
    rw[o.cell rfl]
   rw[lv hof,agj (by omega),auS (by omega) (by omega),av (next+1) (by push_cast;rfl) (by omega)]
   have cv:∀(s:Sl) (m n:Int) (h h':AH) (K:Value→AH→Option (Value×AH)),M fl fn.aM [.slice s.a s.l s.c,.int .i64 m,.int .i64 n,.pointer (some ⟨bc,0,none⟩),.pointer (some ⟨bo,0,none⟩),.pointer (some ⟨bf,0,none⟩),.pointer (some ⟨bg,0,none⟩)] h=some (.tuple ⟨[]⟩,h')→
    lX M fl (.func (.func fn.aM) ⟨[]⟩ ⟨[.pointer (some ⟨bc,0,none⟩),.pointer (some ⟨bo,0,none⟩),.pointer (some ⟨bf,0,none⟩),.pointer (some ⟨bg,0,none⟩)]⟩) [.slice s.a s.l s.c,.int .i64 m,.int .i64 n] h K=K (.tuple ⟨[]⟩) h':=by
    intro s m n h h' K e
    unfold lX
    simp only[List.nil_append,List.cons_append]
    rw[e]
   rw[cv _ _ _ _ _ _ a1]
   simp only[bj,ch]
   rw[lv aBu,yl (s:=some g) (aCg.cell rfl),ag b1]
   simp only[bB]
   rw[cv _ _ _ _ _ _ d1]
end
end Go.Abs.P
end
section
namespace Go.Abs.P
open Go.Abs Go.Fld
theorem _root_.Go.Abs.RR.lt{h:AH}{s:Sl}{rows:List (List Int)}(p:RR h s rows)(fA:∀r∈rows,r≠[]):TE (·<h.next) h s rows:=⟨p.len,fun i hi=>by
 obtain⟨a,t,h1,h2,h3,h4⟩:=p.get i hi
 exact⟨a,t,h1,h2,h2,h3,h4,fun q hq=>h4.lt (fA _ (List.getElem_mem hi)) q hq⟩⟩
theorem asi{fl:Nat}{h:AH}(v0:Value)(v:Nat→Value)(bN:fl≤h.next)(hv:yC (v h.next)=true):∃h2,(∀{R:Type} (K:Nat→AH→Option R),(cU h [v0] fun b h1=>st fl h1 ⟨b,0,none⟩ [v b] fun h2=>K b h2)=K h.next h2)∧OB h2 h.next [v h.next]∧ai h h2:=by
 have o:=OB.alloc h [v0]
 refine⟨(h.alloc [v0]).put h.next (some [v h.next]),fun K=>?_,o.put _,(ai.alloc ..).put (Nat.le_refl _) _⟩
 show st fl (h.alloc [v0]) ⟨h.next,0,none⟩ [v h.next] _=_
 rw[o.st bN (by simp) hv];rfl
structure COK(p m:Int)(xs:List Int)(n:Int)(rs:List (List Int))(D:FD)(gen:Nat)(hg:D.aJ gen)(N:Nat)(rows:List (List (El D))):Prop where
 hF:PN p m xs D
 en:n=(N:Int)
 n1:1≤N
 n64:N≤64
 er:rs=rows.map vl
 wid:Fld.eG N rows
 eq:((FD.aB hg).aL rows N).1=rows
 le:rows.length≤256
theorem PR.zero{p m:Int}{xs:List Int}{n:Int}{rs:List (List Int)}(h:PR p m xs n rs 0):∃(D:FD) (gen:Nat) (hg:D.aJ gen) (N:Nat) (rows:List (List (El D))),COK p m xs n rs D gen hg N rows:=by
 cases h with
 |jv nf he=>omega
 |len f hn he=>omega
 |sp f hn he=>cases he with
  |jv nf he=>omega
  |bad D gen hF hg ne he=>exact absurd he.symm ne
  |form D gen hF hg rows er wid z ne he=>omega
  |ok D gen hF hg rows er wid z eq he=>
   obtain⟨z1,z2,z3,_⟩:=tW z
   refine⟨D,gen,hg,n.toNat,rows,hF,by omega,by omega,by omega,er,wid,eq,?_⟩
   rw[er,List.length_map] at z3
   omega
def Ag{D:FD}{gen:Nat}(hg:D.aJ gen)(N:Nat)(rows:List (List (El D))):List Nat:=(FD.aB hg).frm N 0 rows 0 (List.replicate (2^N) 0)
@[simp] theorem asj{D:FD}{gen:Nat}(hg:D.aJ gen)(N:Nat)(rows:List (List (El D))):(Ag hg N rows).length=2^N:=by unfold Ag;rw[Fld.w8];simp
inductive DiR (h':AH) (p m:Int) (xs:List Int) (n:Int) (rs:List (List Int)) (v:Value):Prop where
 |err (e:Int) (ce:PR p m xs n rs e) (ne:e≠0) (hv:v=.tuple ⟨[.slice none 0 0,.int .i64 e]⟩)
 |big (ce:PR p m xs n rs 0) (hn:16<n) (hv:v=.tuple ⟨[.slice none 0 0,.int .i64 8]⟩)
 |ok (D:FD) (gen:Nat) (hg:D.aJ gen) (N:Nat) (rows:List (List (El D))) (ce:PR p m xs n rs 0) (ck:COK p m xs n rs D gen hg N rows) (hN:N≤16) (s:Sl) (si:SI h' s (ints (Ag hg N rows))) (hv:v=.tuple ⟨[.slice s.a s.l s.c,.int .i64 0]⟩)
section
variable{fl:Nat}{h:AH}{mod:Sl}{xs:List Int}
theorem ail(p m:Int)(bF:SI h mod xs)(hb:xs.length≤mh)(bN:fl≤h.next){n:Int}{s:Sl}{rs:List (List Int)}(hs:RR h s rs)(hm:rs.length≤65536)(hw:∀r∈rs,r.length≤65536):
 ∃(h':AH) (v:Value),M fl fn.ji [ca p m mod n s] h=some (v,h')∧ai h h'∧DiR h' p m xs n rs v:=by
 have o1:=OB.alloc h [.int .i64 p,.int .i64 m,.slice mod.a mod.l mod.c,.int .i64 n,.slice s.a s.l s.c]
 have q1:=ai.alloc h [.int .i64 p,.int .i64 m,.slice mod.a mod.l mod.c,.int .i64 n,.slice s.a s.l s.c]
 generalize eB:h.alloc [.int .i64 p,.int .i64 m,.slice mod.a mod.l mod.c,.int .i64 n,.slice s.a s.l s.c]=h1 at o1 q1
 have l1:=q1.1
 have go:∀{r},Un M fl 1 (fun y2 y3 q=>some (Value.tuple ⟨[.slice y2.a y2.l y2.c,.int .i64 y3]⟩,q)) p m mod n s h=some r→M fl fn.ji [ca p m mod n s] h=some r:=by
  intro r he
  refine aX (k:=1) (by decide) zX ?_
  unfold ca
  rw[wb];exact he
 obtain⟨h2,e,c1,c2,c3⟩:=NK (fl:=fl) p m (bF.quiet q1) hb (by omega) (n:=n) (hs.quiet q1) hm hw
 have q2:=q1.trans c2
 have o2:=o1.quiet c2
 have l2:=q2.1
 unfold ca at c1
 by_cases ze:e=0
 ·subst ze
  obtain⟨D,gen,hg,N,rows,ck⟩:=PR.zero c3
  have en:=ck.en
  by_cases big:16<n
  ·refine⟨h2,_,go ?_,q2,.big c3 big rfl⟩
   unfold Un
   rw[bu eB,ab (o1.cell rfl),ab (o1.cell rfl),ah (s:=mod) (o1.cell rfl),ab (o1.cell rfl),ah (s:=s) (o1.cell rfl),ag c1]
   simp only[asInt,if_true]
   rw[if_neg (by simp),ab (o2.cell rfl),if_pos (by simpa using big)]
  ·obtain⟨h3,q3,hN⟩:=Sb (fl:=fl) p m (bF.quiet q2) hb (by omega)
   rcases hN with⟨nf,_⟩|⟨D',Ai,g,NO,gf,gb,eN⟩
   ·exact absurd ⟨D,gen,ck.hF,hg⟩ nf
   ·have eD:D'=D:=cT NO ck.hF
    subst eD
    have q03:=q2.trans q3
    have l3:=q03.1
    obtain⟨h4,k4,o4,q4⟩:=Bx (fl:=fl) (h:=h3) (.pointer none) (.pointer (some g)) (by omega) rfl
    have q04:=q03.trans q4
    have l4:=q04.1
    have o5:=OB.alloc h4 (List.replicate (2^N) (Value.int .i64 0))
    have q5:=ai.alloc h4 (List.replicate (2^N) (Value.int .i64 0))
    have hpw:(2:Nat)^N≤2^16:=Nat.pow_le_pow_right (by omega) (by omega)
    have hmk:=fun(K:Sl→AH→Option (Value×AH))=>jg (bytes:=8) (v:=.int .i64 0) (n:=2^N) (by unfold kA;omega) h4 K
    have n45:(h4.alloc (List.replicate (2^N) (Value.int .i64 0))).next=h4.next+1:=rfl
    generalize h4.alloc (List.replicate (2^N) (Value.int .i64 0))=h5 at o5 q5 hmk n45
    obtain⟨h6,k6,o6,q6⟩:=Bx (fl:=fl) (h:=h5) (.slice none 0 0) (.slice (some ⟨h4.next,0,none⟩) (2^N) (2^N)) (by omega) rfl
    have l6:=q6.1
    have l65:=o6.1
    obtain⟨h7,k7,o7,q7⟩:=asi (fl:=fl) (h:=h6) .nilFunc (fun b=>.func (.func fn.aM) ⟨[]⟩ ⟨[.pointer (some ⟨h.next,0,none⟩),.pointer (some ⟨h5.next,0,none⟩),.pointer (some ⟨b,0,none⟩),.pointer (some ⟨h3.next,0,none⟩)]⟩) (by omega) rfl
    have l7:=q7.1
    have q37:=((q4.trans q5).trans q6).trans q7
    have q07:=q03.trans q37
    have n34:=o4.1
    have ol:=o1.1
    have fr:FR (D:=D') (fl:=fl) Ai h7 h7 g h4.next h.next h5.next h6.next h3.next N [.int .i64 p,.int .i64 m,.slice mod.a mod.l mod.c,.int .i64 n,.slice s.a s.l s.c]:=
     ⟨iL.refl _ _,by rw[en];rfl,o2.quiet (q3.trans q37),o6.quiet q7,o7,o4.quiet ((q5.trans q6).trans q7),⟨by omega,by omega,by omega,by omega⟩,fun h' bt=>gf.quiet (bt.quiet q37 (fun a ha=>by cases ha;simp only;omega)),by omega,by omega⟩
    have hrs:TE (·≠h4.next) h7 s (rows.map vl):=by
     have:=hs.lt (fun r hr=>by
      rw[ck.er] at hr
      obtain⟨r',hr',rfl⟩:=List.mem_map.1 hr
      intro e
      have h1:(vl r').length=0:=by rw[e];rfl
      have h2:=ck.wid r' hr'
      have h3:=ck.n1
      rw[fU] at h1;omega)
     rw[ck.er] at this
     exact(this.imp (fun b hb=>by omega)).quiet q07
    have er:List.replicate (2^N) (Value.int .i64 0)=iv (ints (List.replicate (2^N) 0)):=oz _
    rw[er] at o5
    have lle:=ck.le
    obtain⟨h8,f1,f2,f3⟩:=aik (fl:=fl) (gen:=Ai) (g:=g) (show D'.aJ Ai from gf.O3) (h0:=h7) (by omega) N 0 0 rows s (List.replicate (2^N) 0) h7 (by omega) (by simp) ck.wid (by omega) (by simp) fr hrs ((o5.quiet q6).quiet q7)
    have q08:ai h h8:=f2.quiet q07 (fun a ha=>by cases ha;simp only;omega)
    have f3':OB h8 h4.next (iv (ints (Ag hg N rows))):=f3
    have sir:=f3'.si none (2^N)
    have hlen:(ints (Ag hg N rows)).length=2^N:=by simp[ints]
    rw[hlen] at sir
    refine⟨h8,_,go ?_,q08,.ok D' gen hg N rows c3 ck (by omega) ⟨some ⟨h4.next,0,none⟩,2^N,2^N⟩ sir rfl⟩
    have o18:OB h4 h.next _:=(o2.quiet q3).quiet q4
    have o17:=o2.quiet (q3.trans q37)
    have o68:=f2.ob (o6.quiet q7) (fun a ha=>by cases ha;simp only[ne_eq];omega)
    unfold Un
    rw[bu eB,ab (o1.cell rfl),ab (o1.cell rfl),ah (s:=mod) (o1.cell rfl),ab (o1.cell rfl),ah (s:=s) (o1.cell rfl),ag c1]
    simp only[asInt,if_true]
    rw[if_neg (by simp),ab (o2.cell rfl),if_neg (by simpa using big),ab (o2.cell rfl),ab (o2.cell rfl),ah (s:=mod) (o2.cell rfl),ag eN]
    simp only[bj,aG,ch,fV,asInt,if_true]
    rw[k4,if_neg (by simp),ab (o18.cell rfl),en,agj (by omega),hmk,k6,k7]
    have lv:∀{R:Type} (K:Value→Option R),ldV h7 h6.next 0 K=K (.func (.func fn.aM) ⟨[]⟩ ⟨[.pointer (some ⟨h.next,0,none⟩),.pointer (some ⟨h5.next,0,none⟩),.pointer (some ⟨h6.next,0,none⟩),.pointer (some ⟨h3.next,0,none⟩)]⟩):=by
     intro R K
     unfold ldV
     rw[o7.cell rfl]
    rw[lv,ah (s:=s) (o17.cell rfl)]
    have f1':M fl fn.aM [.slice s.a s.l s.c,.int .i64 0,.int .i64 0,.pointer (some ⟨h.next,0,none⟩),.pointer (some ⟨h5.next,0,none⟩),.pointer (some ⟨h6.next,0,none⟩),.pointer (some ⟨h3.next,0,none⟩)] h7=some (.tuple ⟨[]⟩,h8):=f1
    unfold lX
    simp only[List.nil_append,List.cons_append]
    rw[f1']
    dsimp only
    rw[ah (s:=⟨some ⟨h4.next,0,none⟩,2^N,2^N⟩) (o68.cell rfl)]
 ·refine⟨h2,_,go ?_,q2,.err e c3 ze rfl⟩
  unfold Un
  rw[bu eB,ab (o1.cell rfl),ab (o1.cell rfl),ah (s:=mod) (o1.cell rfl),ab (o1.cell rfl),ah (s:=s) (o1.cell rfl),ag c1]
  simp only[asInt,if_true]
  rw[if_pos (by simpa using ze)]
end
end Go.Abs.P
end
section
namespace Go.Abs.P
open Go.Abs Go.Fld
def dD(N mask:Nat):List Nat:=(List.range N).filter fun i=>decide (mask/2^i%2=1)
theorem rY(i mask:Nat):dD (i+1) mask=dD i mask++if mask/2^i%2=1 then [i] else []:=by
 unfold dD
 rw[List.range_succ,List.filter_append]
 congr 1
 by_cases c:mask/2^i%2=1<;>simp[c]
theorem adm{i mask:Nat}(h:mask/2^i=0):∀d,dD (i+d) mask=dD i mask:=by
 intro d
 induction d with
 |zero=>rfl
 |succ d ih=>
  have hlt:mask<2^i:=by
   rcases Nat.div_eq_zero_iff.1 h with h|h
   ·have:=Nat.two_pow_pos i;omega
   ·exact h
  have h2:mask<2^(i+d):=Nat.lt_of_lt_of_le hlt (Nat.pow_le_pow_right (by omega) (by omega))
  rw[show i+(d+1)=i+d+1 from rfl,rY,ih,Nat.div_eq_of_lt h2];simp
theorem Uw(N mask:Nat):(dD N mask).length≤N:=by
 have:=List.length_filter_le (fun i=>decide (mask/2^i%2=1)) (List.range N)
 rw[List.length_range] at this
 exact this
section
variable{fl:Nat}
theorem aim{R:Type}{k:Nat}(kn:ak R){h0:AH}{N mask:Nat}(hN:N≤60)(UL:mask<2^N)(bN:fl≤h0.next):
 ∀(d i f:Nat) (s:Sl) (h:AH),i+d=N→d<f→OV h0.next h s (iv (ints (dD i mask)))→ai h0 h→
 ∃h' s',nN M fl k kn f (mask:Int) s (i:Int) h=kn s' h'∧OV h0.next h' s' (iv (ints (dD N mask)))∧ai h0 h':=by
 intro d
 induction d with
 |zero=>
  intro i f s h hi hf ho hq
  obtain⟨f,rfl⟩:∃j,f=j+1:=⟨f-1,by omega⟩
  obtain rfl:i=N:=by omega
  refine⟨h,s,?_,ho,hq⟩
  show qy M fl k _ _ _ _ _ h=_
  unfold qy wc
  rw[XE (by omega),Nat.div_eq_of_lt UL,if_neg (by simp)]
 |succ d ih=>
  intro i f s h hi hf ho hq
  obtain⟨f,rfl⟩:∃j,f=j+1:=⟨f-1,by omega⟩
  have un:nN M fl k kn (f+1) (mask:Int) s (i:Int) h=qy M fl k (nN M fl k kn f) kn (mask:Int) s (i:Int) h:=rfl
  rw[un]
  unfold qy wc
  rw[XE (by omega)]
  by_cases c:mask/2^i=0
  ·rw[c,if_neg (by simp)]
   have:=adm c (d+1)
   rw[hi] at this
   exact⟨h,s,rfl,by rw[this];exact ho,hq⟩
  ·have hlt:mask/2^i<2^62:=by
    have h1:(2:Nat)^N≤2^60:=Nat.pow_le_pow_right (by omega) hN
    have h2:=Nat.div_le_self mask (2^i)
    omega
   rw[if_pos (by simp only[decide_eq_true_eq];exact Int.natCast_pos.2 (Nat.pos_of_ne_zero c)),XE (by omega),amW hlt]
   have n0:=hq.1
   by_cases c1:mask/2^i%2=1
   ·rw[if_pos (by simp[c1])]
    have hll:=Uw i mask
    obtain⟨s6,h7,v1,v2,v3,v4⟩:=ho.push (R:=R) (fl:=fl) (bytes:=8) (x:=.int .i64 (i:Int)) bN (by omega) (by unfold kA;simp[iv,ints];omega) rfl (fun s6 h7=>tO M fl k (nN M fl k kn f) kn (mask:Int) s6 (i:Int) h7)
    have e1:iv (ints (dD i mask))++[Value.int .i64 (i:Int)]=iv (ints (dD (i+1) mask)):=by rw[rY,if_pos c1,nX,rV];rfl
    rw[e1] at v2
    obtain⟨h',s',r1,r2,r3⟩:=ih (i+1) f s6 h7 (by omega) (by omega) v2 (v3.quiet hq (fun a ha=>ho.ge a ha))
    refine⟨h',s',?_,r2,r3⟩
    refine Eq.trans v1 ?_
    unfold tO
    rw[av (i+1) (by push_cast;rfl) (by omega)]
    exact r1
   ·rw[if_neg (by simp only[beq_iff_eq];exact fun e=>c1 (by exact_mod_cast e))]
    unfold tO
    rw[av (i+1) (by push_cast;rfl) (by omega)]
    exact ih (i+1) f s h (by omega) (by omega) (by rw[rY,if_neg c1,List.append_nil];exact ho) hq
theorem ain{h:AH}{N mask:Nat}(hN:N≤60)(UL:mask<2^N)(bN:fl≤h.next):
 ∃h' s',M fl fn.jj [.int .i64 (mask:Int)] h=some (.slice s'.a s'.l s'.c,h')∧OV h.next h' s' (iv (ints (dD N mask)))∧ai h h':=by
 obtain⟨h',s',e1,e2,e3⟩:=aim (fl:=fl) (k:=N+1) (Lg M fl (N+1) (fun y2 q=>some (Value.slice y2.a y2.l y2.c,q))) hN UL bN N 0 (N+1) ⟨none,0,0⟩ h (by omega) (by omega) (OV.nil _ _) (ai.refl h)
 refine⟨h',s',aX (k:=N+1) (by decide) zY ?_,e2,e3⟩
 rw[we]
 unfold jj akp VB VA
 exact e1
def fF(N:Nat)(L:List Nat):Nat→List Nat
 |0=>List.replicate (N+1) 0
 |j+1=>(fF N L j).set (dD N j).length (if L.getD j 0>(fF N L j).getD (dD N j).length 0 then L.getD j 0 else (fF N L j).getD (dD N j).length 0)
@[simp] theorem vv(N:Nat)(L:List Nat):∀j,(fF N L j).length=N+1
  |0=>by simp[fF]
  |j+1=>by unfold fF;rw[List.length_set];exact vv N L j
theorem aio{R:Type}{k:Nat}(kn:ak R){h0:AH}{b cp N:Nat}{s:Sl}{L:List Nat}(hs:SI h0 s (ints L))(hL:L.length=2^N)(hN:N≤16)(hb:h0.next≤b)(bN:fl≤h0.next):
 ∀(d j f:Nat) (h:AH),j+d=2^N→d<f→OB h b (iv (ints (fF N L j)))→ai h0 h→
 ∃h',qo M fl k kn f ⟨some ⟨b,0,none⟩,N+1,cp⟩ s ((2^N:Nat):Int) (j:Int) h=kn ⟨some ⟨b,0,none⟩,N+1,cp⟩ h'∧OB h' b (iv (ints (fF N L (2^N))))∧ai h0 h':=by
 have hpw:(2:Nat)^N≤2^16:=Nat.pow_le_pow_right (by omega) (by omega)
 intro d
 induction d with
 |zero=>
  intro j f h hj hf ho hq
  obtain⟨f,rfl⟩:∃j,f=j+1:=⟨f-1,by omega⟩
  obtain rfl:j=2^N:=by omega
  refine⟨h,?_,ho,hq⟩
  show qn M fl k _ _ _ _ _ _ h=_
  unfold qn
  rw[if_neg (by simp)]
 |succ d ih=>
  intro j f h hj hf ho hq
  obtain⟨f,rfl⟩:∃j,f=j+1:=⟨f-1,by omega⟩
  have XO:j<2^N:=by omega
  have un:qo M fl k kn (f+1) ⟨some ⟨b,0,none⟩,N+1,cp⟩ s ((2^N:Nat):Int) (j:Int) h=qn M fl k (qo M fl k kn f) kn ⟨some ⟨b,0,none⟩,N+1,cp⟩ s ((2^N:Nat):Int) (j:Int) h:=rfl
  rw[un]
  unfold qn
  have n0:=hq.1
  rw[if_pos (by simp only[decide_eq_true_eq];exact_mod_cast XO),(hs.quiet hq).read (i:=(j:Int)) (by omega) (by simp[ints,hL];omega)]
  obtain⟨h4,s5,a1,a2,a3⟩:=ain (fl:=fl) (h:=h) (N:=N) (by omega) XO (by omega)
  rw[ag a1]
  simp only[bB,Int.toNat_natCast,dm]
  have FV:s5.l=(dD N j).length:=by rw[a2.len];simp[iv,ints]
  have hcn:=Uw N j
  have ho4:=ho.quiet a3
  have hgl:L.getD j 0=L[j]'(by omega):=by rw[List.getD_eq_getElem?_getD,List.getElem?_eq_getElem (by omega)];rfl
  have hgp:(fF N L j).getD (dD N j).length 0=(fF N L j)[(dD N j).length]'(by rw[vv];omega):=by rw[List.getD_eq_getElem?_getD,List.getElem?_eq_getElem (by rw[vv];omega)];rfl
  rw[FV,aT rfl (show(dD N j).length<N+1 by omega)]
  dsimp only
  rw[ab (n:=((fF N L j).getD (dD N j).length 0:Nat)) (ho4.cell (by
   rw[Nat.zero_add,F6 _ _ (by simp[ints];omega),dm,hgp]))]
  rw[aT rfl (show(dD N j).length<N+1 by omega)]
  have hv:(if ((L[j]'(by omega):Nat):Int)>((fF N L j).getD (dD N j).length 0:Nat) then ((L[j]'(by omega):Nat):Int) else ((fF N L j).getD (dD N j).length 0:Nat))=((if L.getD j 0>(fF N L j).getD (dD N j).length 0 then L.getD j 0 else (fF N L j).getD (dD N j).length 0:Nat):Int):=by
   rw[hgl]
   by_cases c:L[j]'(by omega)>(fF N L j).getD (dD N j).length 0
   ·rw[if_pos c,if_pos (by omega)]
   ·rw[if_neg c,if_neg (by omega)]
  rw[hv,ho4.st (by omega) (by simp[iv,ints];omega) rfl,Nat.zero_add,iy,ints_set,av (j+1) (by push_cast;rfl) (by omega)]
  exact ih (j+1) f _ (by omega) (by omega) (ho4.put _) ((hq.trans a3).put hb _)
inductive PrR (h':AH) (p m:Int) (xs:List Int) (n:Int) (rs:List (List Int)) (f:∀(D:FD) (gen:Nat) (_:D.aJ gen) (N:Nat) (_:List (List (El D))),List Int) (v:Value):Prop where
 |err (e:Int) (ce:PR p m xs n rs e) (ne:e≠0) (hv:v=.tuple ⟨[.slice none 0 0,.int .i64 e]⟩)
 |big (ce:PR p m xs n rs 0) (hn:16<n) (hv:v=.tuple ⟨[.slice none 0 0,.int .i64 8]⟩)
 |ok (D:FD) (gen:Nat) (hg:D.aJ gen) (N:Nat) (rows:List (List (El D))) (ce:PR p m xs n rs 0) (ck:COK p m xs n rs D gen hg N rows) (hN:N≤16) (s:Sl) (si:SI h' s (f D gen hg N rows)) (hv:v=.tuple ⟨[.slice s.a s.l s.c,.int .i64 0]⟩)
def axn(D:FD)(gen:Nat)(hg:D.aJ gen)(N:Nat)(rows:List (List (El D))):List Int:=ints (fF N (Ag hg N rows) (2^N))
variable{h:AH}{mod:Sl}{xs:List Int}
theorem XF(p m:Int)(bF:SI h mod xs)(hb:xs.length≤mh)(bN:fl≤h.next){n:Int}{s:Sl}{rs:List (List Int)}(hs:RR h s rs)(hm:rs.length≤65536)(hw:∀r∈rs,r.length≤65536):
 ∃(h':AH) (v:Value),M fl fn.fe [ca p m mod n s] h=some (v,h')∧ai h h'∧PrR h' p m xs n rs axn v:=by
 have o1:=OB.alloc h [.int .i64 p,.int .i64 m,.slice mod.a mod.l mod.c,.int .i64 n,.slice s.a s.l s.c]
 have q1:=ai.alloc h [.int .i64 p,.int .i64 m,.slice mod.a mod.l mod.c,.int .i64 n,.slice s.a s.l s.c]
 generalize eB:h.alloc [.int .i64 p,.int .i64 m,.slice mod.a mod.l mod.c,.int .i64 n,.slice s.a s.l s.c]=h1 at o1 q1
 have l1:=q1.1
 have go:∀{k r},Um M fl k (fun y2 y3 q=>some (Value.tuple ⟨[.slice y2.a y2.l y2.c,.int .i64 y3]⟩,q)) p m mod n s h=some r→M fl fn.fe [ca p m mod n s] h=some r:=by
  intro k r he
  refine aX (k:=k) (by decide) uP ?_
  unfold ca
  rw[pT];exact he
 obtain⟨h2,v,c1,c2,c3⟩:=ail (fl:=fl) p m (bF.quiet q1) hb (by omega) (n:=n) (hs.quiet q1) hm hw
 have q2:=q1.trans c2
 have o2:=o1.quiet c2
 have l2:=q2.1
 unfold ca at c1
 cases c3 with
 |err e ce ne hv=>
  subst hv
  refine⟨h2,_,go (k:=1) ?_,q2,.err e ce ne rfl⟩
  unfold Um Ld
  rw[bu eB,ab (o1.cell rfl),ab (o1.cell rfl),ah (s:=mod) (o1.cell rfl),ab (o1.cell rfl),ah (s:=s) (o1.cell rfl),ag c1]
  simp only[bj,aG,ch,bB,asInt,if_true]
  rw[if_pos (by simpa using ne)]
 |big ce hn hv=>
  subst hv
  refine⟨h2,_,go (k:=1) ?_,q2,.big ce hn rfl⟩
  unfold Um Ld
  rw[bu eB,ab (o1.cell rfl),ab (o1.cell rfl),ah (s:=mod) (o1.cell rfl),ab (o1.cell rfl),ah (s:=s) (o1.cell rfl),ag c1]
  simp only[bj,aG,ch,bB,asInt,if_true]
  rw[if_pos (by simp)]
 |ok D gen hg N rows ce ck hN t si hv=>
  subst hv
  obtain⟨ta,tl,tc⟩:=t
  have hl:tl=2^N:=by have:=si.len;simpa [ints] using this
  subst hl
  have en:=ck.en
  have o3:=OB.alloc h2 (List.replicate (N+1) (Value.int .i64 0))
  have q3:=ai.alloc h2 (List.replicate (N+1) (Value.int .i64 0))
  have hmk:=fun(K:Sl→AH→Option (Value×AH))=>jg (bytes:=8) (v:=.int .i64 0) (n:=N+1) (by unfold kA;omega) h2 K
  generalize h2.alloc (List.replicate (N+1) (Value.int .i64 0))=h3 at o3 q3 hmk
  rw[oz] at o3
  obtain⟨h4,e1,e2,e3⟩:=aio (fl:=fl) (k:=2^N+1) (cp:=N+1) (Lc M fl (2^N+1) (fun y2 y3 q=>some (Value.tuple ⟨[.slice y2.a y2.l y2.c,.int .i64 y3]⟩,q))) (h0:=h2) (b:=h2.next) si (by simp) hN (Nat.le_refl _) (by omega) (2^N) 0 (2^N+1) h3 (by omega) (by omega) o3 q3
  have sir:=e2.si none (N+1)
  have hlen:(ints (fF N (Ag hg N rows) (2^N))).length=N+1:=by simp[ints]
  rw[hlen] at sir
  refine⟨h4,_,go (k:=2^N+1) ?_,q2.trans e3,.ok D gen hg N rows ce ck hN ⟨some ⟨h2.next,0,none⟩,N+1,N+1⟩ sir rfl⟩
  unfold Um Ld Vn
  rw[bu eB,ab (o1.cell rfl),ab (o1.cell rfl),ah (s:=mod) (o1.cell rfl),ab (o1.cell rfl),ah (s:=s) (o1.cell rfl),ag c1]
  simp only[bj,aG,ch,bB,asInt,if_true]
  rw[if_neg (by simp),ab (o2.cell rfl),en,av (N+1) (by push_cast;rfl) (by omega),hmk]
  exact e1
end
end Go.Abs.P
end
section
namespace Go.Abs.P
open Go.Abs Go.Fld
def abi(P:List Nat)(r:Nat):Int:=if P.findIdx (fun d=>decide (r≤d))<P.length then ((P.findIdx (fun d=>decide (r≤d)):Nat):Int) else-1
def Fp(P:List Nat)(k:Nat):List Int:=(List.range k).map fun r=>abi P (r+1)
theorem aip(P:List Nat)(k:Nat):Fp P (k+1)=Fp P k++[abi P (k+1)]:=by
 unfold Fp;rw[List.range_succ,List.map_append];rfl
section
variable{fl:Nat}{h:AH}
theorem adn{R:Type}{k:Nat}(kn:ar R)(kr:ae R){bx r:Nat}{P:List Nat}{s:Sl}(hx:OB h bx [.int .i64 (r:Int)])(hs:SI h s (ints P))(hm:P.length≤65536):
 ∀(d j m:Nat),j+d=P.length→d<m→(∀j' (_:j'<j) (hj:j'<P.length),decide (r≤P[j'])=false)→
 yY M fl k kn kr m s (.func (.func fn.cG) ⟨[]⟩ ⟨[.pointer (some ⟨bx,0,none⟩)]⟩) (P.length:Int) (j:Int) h=
  if P.findIdx (fun d=>decide (r≤d))<P.length then kr ((P.findIdx (fun d=>decide (r≤d)):Nat):Int) h else kn h:=by
 intro d
 induction d with
 |zero=>
  intro j m hj hm' hp
  obtain⟨m,rfl⟩:∃j,m=j+1:=⟨m-1,by omega⟩
  show qx M fl k _ _ kr _ _ _ _ h=_
  unfold qx
  rw[if_neg (by simp;omega),if_neg]
  intro hlt
  have h1:=List.findIdx_getElem (w:=hlt)
  have h2:=hp _ (by omega) hlt
  rw[h2] at h1;cases h1
 |succ d ih=>
  intro j m hj hm' hp
  obtain⟨m,rfl⟩:∃j,m=j+1:=⟨m-1,by omega⟩
  have XO:j<P.length:=by omega
  show qx M fl k _ _ kr _ _ _ _ h=_
  unfold qx
  rw[if_pos (by simp;omega),hs.read (by omega) (by simp[ints];exact XO)]
  simp only[Int.toNat_natCast,dm]
  have run:M fl fn.cG [.int .i64 (P[j]:Nat),.pointer (some ⟨bx,0,none⟩)] h=some (.bool (decide (r≤P[j])),h):=by
   refine aX (k:=1) (by decide) qb ?_
   rw[nM]
   unfold cG akm
   rw[ab (hx.cell rfl)]
   have:decide (((P[j]:Nat):Int)≥(r:Int))=decide (r≤P[j]):=by
    by_cases c:r≤P[j]
    ·rw[decide_eq_true c,decide_eq_true (by omega)]
    ·rw[decide_eq_false c,decide_eq_false (by omega)]
   rw[this]
  unfold lX
  simp only[List.nil_append]
  rw[show([Value.int .i64 ((P[j]:Nat):Int)]++[Value.pointer (some ⟨bx,0,none⟩)])=[.int .i64 (P[j]:Nat),.pointer (some ⟨bx,0,none⟩)] from rfl,run]
  simp only[asBool]
  by_cases hz:r≤P[j]
  ·rw[if_pos (by simpa using hz)]
   have hf:P.findIdx (fun d=>decide (r≤d))=j:=by
    rw[List.findIdx_eq XO]
    exact⟨by simpa using hz,fun j' h1=>hp j' h1 (by omega)⟩
   rw[hf,if_pos XO]
  ·rw[if_neg (by simpa using hz),av (j+1) (by push_cast;rfl) (by omega)]
   refine ih (j+1) m (by omega) (by omega) ?_
   intro j' h1 h2
   by_cases e:j'=j
   ·subst e;simpa using hz
   ·exact hp j' (by omega) h2
theorem ado{bx r:Nat}{P:List Nat}{s:Sl}(hx:OB h bx [.int .i64 (r:Int)])(hs:SI h s (ints P))(hm:P.length≤65536):
 M fl fn.eA [.slice s.a s.l s.c,.func (.func fn.cG) ⟨[]⟩ ⟨[.pointer (some ⟨bx,0,none⟩)]⟩] h=some (.int .i64 (abi P r),h):=by
 have:=adn (fl:=fl) (k:=P.length+1) (Lf M fl (P.length+1) (fun y4 q=>some (Value.int .i64 y4,q))) (fun y4 q=>some (Value.int .i64 y4,q)) hx hs hm P.length 0 (P.length+1) (by omega) (by omega) (fun j' h1=>by omega)
 refine aX (k:=P.length+1) (by decide) pZ ?_
 rw[nL]
 unfold eA akk Vz Vy
 have hl:s.l=P.length:=by rw[hs.len];simp[ints]
 rw[hl]
 refine Eq.trans this ?_
 unfold abi
 split<;>rfl
theorem amY{R:Type}{k:Nat}(kn:ak R){h0:AH}{bc K:Nat}{cs:List Value}{g s:Sl}{P:List Nat}(hc:OB h0 bc cs)(c4:cs[4]?=some (.slice g.a g.l g.c))(hg:g.l=K)(hK:K≤65536)(hs:SI h0 s (ints P))(hP:P.length≤65536)(bN:fl≤h0.next):
 ∀(d j f:Nat) (t:Sl) (br:Nat) (h:AH),j+d=K→d<f→OV h0.next h t (iv (Fp P j))→ai h0 h→OB h br [.int .i64 ((j+1:Nat):Int)]→(∀a,t.a=some a→a.block≠br)→
 ∃h' t',nK M fl k kn f ⟨bc,0,none⟩ s t ⟨br,0,none⟩ h=kn t' h'∧OV h0.next h' t' (iv (Fp P K))∧ai h0 h':=by
 intro d
 induction d with
 |zero=>
  intro j f t br h hj hf ho hq hb fA
  obtain⟨f,rfl⟩:∃j,f=j+1:=⟨f-1,by omega⟩
  obtain rfl:j=K:=by omega
  refine⟨h,t,?_,ho,hq⟩
  show qm M fl k _ _ _ _ _ _ h=_
  unfold qm
  rw[ab (hb.cell rfl),ah (s:=g) ((hc.quiet hq).cell (by rw[Nat.zero_add];exact c4)),if_neg (by simp;omega)]
 |succ d ih=>
  intro j f t br h hj hf ho hq hb fA
  obtain⟨f,rfl⟩:∃j,f=j+1:=⟨f-1,by omega⟩
  have un:nK M fl k kn (f+1) ⟨bc,0,none⟩ s t ⟨br,0,none⟩ h=qm M fl k (nK M fl k kn f) kn ⟨bc,0,none⟩ s t ⟨br,0,none⟩ h:=rfl
  rw[un]
  unfold qm
  have n0:=hq.1
  rw[ab (hb.cell rfl),ah (s:=g) ((hc.quiet hq).cell (by rw[Nat.zero_add];exact c4)),if_pos (by simp;omega),ag (ado hb (hs.quiet hq) hP)]
  simp only[asInt,if_true]
  obtain⟨t',h9,v1,v2,v3,v4⟩:=ho.push (R:=R) (fl:=fl) (bytes:=8) (x:=.int .i64 (abi P (j+1))) bN (by omega) (by unfold kA;simp[iv,Fp];omega) rfl
   (fun s8 h9=>aE .i64 h9 br 0 fun ux=>cU h9 [.int .i64 0] fun b11 H3=>st fl H3 ⟨b11,0,none⟩ [.int .i64 ux] fun uV=>aE .i64 uV b11 0 fun DM=>st fl uV ⟨b11,0,none⟩ [.int .i64 (bL (DM+1))] fun EP=>nK M fl k kn f ⟨bc,0,none⟩ s s8 ⟨b11,0,none⟩ EP)
  rw[v1]
  have e1:iv (Fp P j)++[Value.int .i64 (abi P (j+1))]=iv (Fp P (j+1)):=by rw[aip,rV];rfl
  rw[e1] at v2
  have hb9:=v3.ob hb (fun a ha=>fA a ha)
  have q9:=v3.quiet hq (fun a ha=>ho.ge a ha)
  have n9:=q9.1
  rw[ab (hb9.cell rfl)]
  obtain⟨uV,k13,o13,q13⟩:=Bx (fl:=fl) (h:=h9) (.int .i64 0) (.int .i64 ((j+1:Nat):Int)) (by omega) rfl
  rw[k13,ab (o13.cell rfl),o13.st (by omega) (by simp) rfl,av (j+2) (by push_cast;omega) (by omega)]
  have q15:ai h9 (uV.put h9.next (some [.int .i64 ((j+2:Nat):Int)])):=q13.put (Nat.le_refl _) _
  exact ih (j+1) f t' h9.next _ (by omega) (by omega) (v2.quiet q15) (q9.trans q15) (o13.put _) (fun a ha=>by have:=OV.lt v2 a ha;simp only[ne_eq];omega)
def Sf(D:FD)(gen:Nat)(hg:D.aJ gen)(N:Nat)(rows:List (List (El D))):List Int:=Fp (fF N (Ag hg N rows) (2^N)) rows.length
variable{mod:Sl}{xs:List Int}
theorem KE(p m:Int)(bF:SI h mod xs)(hb:xs.length≤mh)(bN:fl≤h.next){n:Int}{s:Sl}{rs:List (List Int)}(hs:RR h s rs)(hm:rs.length≤65536)(hw:∀r∈rs,r.length≤65536):
 ∃(h':AH) (v:Value),M fl fn.dK [ca p m mod n s] h=some (v,h')∧ai h h'∧PrR h' p m xs n rs Sf v:=by
 have o1:=OB.alloc h [.int .i64 p,.int .i64 m,.slice mod.a mod.l mod.c,.int .i64 n,.slice s.a s.l s.c]
 have q1:=ai.alloc h [.int .i64 p,.int .i64 m,.slice mod.a mod.l mod.c,.int .i64 n,.slice s.a s.l s.c]
 generalize eB:h.alloc [.int .i64 p,.int .i64 m,.slice mod.a mod.l mod.c,.int .i64 n,.slice s.a s.l s.c]=h1 at o1 q1
 have l1:=q1.1
 have go:∀{k r},Ul M fl k (fun y2 y3 q=>some (Value.tuple ⟨[.slice y2.a y2.l y2.c,.int .i64 y3]⟩,q)) p m mod n s h=some r→M fl fn.dK [ca p m mod n s] h=some r:=by
  intro k r he
  refine aX (k:=k) (by decide) uO ?_
  unfold ca
  rw[pS];exact he
 obtain⟨h2,v,c1,c2,c3⟩:=XF (fl:=fl) p m (bF.quiet q1) hb (by omega) (n:=n) (hs.quiet q1) hm hw
 have q2:=q1.trans c2
 have o2:=o1.quiet c2
 have l2:=q2.1
 unfold ca at c1
 cases c3 with
 |err e ce ne hv=>
  subst hv
  refine⟨h2,_,go (k:=1) ?_,q2,.err e ce ne rfl⟩
  unfold Ul Lb
  rw[bu eB,ab (o1.cell rfl),ab (o1.cell rfl),ah (s:=mod) (o1.cell rfl),ab (o1.cell rfl),ah (s:=s) (o1.cell rfl),ag c1]
  simp only[bj,aG,ch,bB,asInt,if_true]
  rw[if_pos (by simpa using ne)]
 |big ce hn hv=>
  subst hv
  refine⟨h2,_,go (k:=1) ?_,q2,.big ce hn rfl⟩
  unfold Ul Lb
  rw[bu eB,ab (o1.cell rfl),ab (o1.cell rfl),ah (s:=mod) (o1.cell rfl),ab (o1.cell rfl),ah (s:=s) (o1.cell rfl),ag c1]
  simp only[bj,aG,ch,bB,asInt,if_true]
  rw[if_pos (by simp)]
 |ok D gen hg N rows ce ck hN t si hv=>
  subst hv
  have hle:=ck.le
  have FV:s.l=rows.length:=by rw[hs.len,ck.er,List.length_map]
  obtain⟨h3,k3,o3,q3⟩:=Bx (fl:=fl) (h:=h2) (.int .i64 0) (.int .i64 1) (by omega) rfl
  obtain⟨h4,t',e1,e2,e3⟩:=amY (fl:=fl) (k:=rows.length+1) (La M fl (rows.length+1) (fun y2 y3 q=>some (Value.tuple ⟨[.slice y2.a y2.l y2.c,.int .i64 y3]⟩,q))) (h0:=h3) (g:=s) (K:=rows.length) (o2.quiet q3) rfl FV (by omega) (si.quiet q3) (by simp;omega) (by have:=q3.1;omega) rows.length 0 (rows.length+1) ⟨none,0,0⟩ h2.next h3 (by omega) (by omega) (OV.nil _ _) (ai.refl _) o3 (fun a ha=>by cases ha)
  refine⟨h4,_,go (k:=rows.length+1) ?_,(q2.trans q3).trans e3,.ok D gen hg N rows ce ck hN t' e2.si rfl⟩
  unfold Ul Lb Vl
  rw[bu eB,ab (o1.cell rfl),ab (o1.cell rfl),ah (s:=mod) (o1.cell rfl),ab (o1.cell rfl),ah (s:=s) (o1.cell rfl),ag c1]
  simp only[bj,aG,ch,bB,asInt,if_true]
  rw[if_neg (by simp),k3]
  exact e1
end
end Go.Abs.P
end
section
namespace Go.Abs.P
open Go.Abs Go.Fld
def uu(N:Nat)(l:List Nat):List Nat:=(List.range N).filter fun i=>decide (i∉l)
section
variable{D:FD}{gen:Nat}(hg:D.aJ gen){mod:Sl}{h:AH}{fl:Nat}
end
def pM{D:FD}{gen:Nat}(hg:D.aJ gen)(N:Nat)(rows:List (List (El D)))(l:List Nat):Nat:=((uu N l).foldl (FD.aB hg).wo rows).length
section
variable{h:AH}{fl:Nat}{mod:Sl}{xs:List Int}{p m n:Int}{rs:List (List Int)}{s:Sl}{D:FD}{gen:Nat}{hg:D.aJ gen}{N:Nat}{rows:List (List (El D))}
end
end Go.Abs.P
end
section
namespace Go.Abs.P
open Go.Abs Go.Fld
def abj(f:Nat→List (List Nat)):Nat→Nat→List (List Nat)
 |0,_=>[]
 |d+1,i=>(f (i+1)).map (i::·)++abj f d (i+1)
def mH(n:Nat):Nat→Nat→List (List Nat)
 |0,_=>[[]]
 |z+1,lo=>abj (mH n z) (n-lo) lo
section
variable{fl:Nat}
end
end Go.Abs.P
end
section
namespace Go.Abs.P
open Go.Abs Go.Fld
section
variable{fl:Nat}{mod:Sl}{xs:List Int}{p m n:Int}{rs:List (List Int)}{s:Sl}{D:FD}{gen:Nat}{hg:D.aJ gen}{N:Nat}{rows:List (List (El D))}
abbrev pN(p m:Int)(mod:Sl)(n:Int)(s:Sl):List Value:=[.int .i64 p,.int .i64 m,.slice mod.a mod.l mod.c,.int .i64 n,.slice s.a s.l s.c]
end
end Go.Abs.P
end
section
namespace Go.Abs.P
open Go.Abs Go.Fld
section
variable{fl:Nat}{mod:Sl}{xs:List Int}{p m n:Int}{rs:List (List Int)}{s:Sl}{D:FD}{gen:Nat}{hg:D.aJ gen}{N:Nat}{rows:List (List (El D))}
def maxD{D:FD}{gen:Nat}(hg:D.aJ gen)(N:Nat)(rows:List (List (El D)))(L:List (List Nat))(m0:Nat):Nat:=L.foldl (fun m l=>if pM hg N rows l>m then pM hg N rows l else m) m0
end
end Go.Abs.P
end
section
namespace Go.Abs.P
open Go.Abs Go.Fld
section
variable{D:FD}{gen:Nat}(hg:D.aJ gen)
theorem KG:∀(os:List Nat) (rows:List (List (El D))),rows.length=0→(os.foldl (FD.aB hg).wo rows).length=0
 |[],_,h=>h
 |o::os,rows,h=>KG os _ (by have:=(FD.aB hg).amX rows o;omega)
theorem asl{N:Nat}:∀(d next:Nat) (rows:List (List (El D))) (pK:Nat) (out:List Nat),next+d=N→pK<2^next→out.length=2^N→(∀mask,mask<2^N→mask%2^next=pK→out.getD mask 0=0)→
 ∀mask,mask<2^N→((FD.aB hg).frm d next rows pK out).getD mask 0=if mask%2^next=pK then (((List.range' next d).filter fun i=>decide (mask/2^i%2≠1)).foldl (FD.aB hg).wo rows).length else out.getD mask 0:=by
 intro d
 induction d with
 |zero=>
  intro next rows pK out hd h0 hl hz mask hm
  obtain rfl:next=N:=by omega
  unfold Fld.frm
  rw[Nat.mod_eq_of_lt hm]
  by_cases c:rows.length=0
  ·rw[if_pos c]
   by_cases e:mask=pK
   ·rw[if_pos e,hz mask hm (by rw[Nat.mod_eq_of_lt hm];exact e)]
    exact c.symm
   ·rw[if_neg e]
  ·rw[if_neg c]
   by_cases e:mask=pK
   ·subst e
    rw[if_pos rfl,List.getD_eq_getElem?_getD,List.getElem?_set_self (by omega)];rfl
   ·rw[if_neg e,List.getD_eq_getElem?_getD,List.getElem?_set_ne (fun h=>e h.symm),←List.getD_eq_getElem?_getD]
 |succ d ih=>
  intro next rows pK out hd h0 hl hz mask hm
  unfold Fld.frm
  by_cases c:rows.length=0
  ·rw[if_pos c,KG hg _ _ c]
   by_cases e:mask%2^next=pK
   ·rw[if_pos e,hz mask hm e]
   ·rw[if_neg e]
  ·rw[if_neg c]
   have ps:(2:Nat)^(next+1)=2^next*2:=Nat.pow_succ ..
   have hor:pK|||2^next=pK+2^next:=by
    have:=Nat.two_pow_add_eq_or_of_lt h0 1
    rw[Nat.mul_one] at this
    rw[Nat.or_comm,←this,Nat.add_comm]
   have bF:∀x,x%2^(next+1)=x%2^next+2^next*(x/2^next%2):=fun x=>Nat.mod_pow_succ
   have hlt:∀x,x%2^next<2^next:=fun x=>Nat.mod_lt _ (Nat.two_pow_pos _)
   have avT:∀x,x/2^next%2=0∨x/2^next%2=1:=fun x=>by omega
   rw[hor]
   have z1:∀mask,mask<2^N→mask%2^(next+1)=pK+2^next→out.getD mask 0=0:=by
    intro x hx e
    refine hz x hx ?_
    have h1:=bF x
    have h2:=hlt x
    rcases avT x with h3|h3<;>rw[h3] at h1<;>omega
   have g1:=ih (next+1) rows (pK+2^next) out (by omega) (by omega) hl z1
   have z2:∀mask,mask<2^N→mask%2^(next+1)=pK→((FD.aB hg).frm d (next+1) rows (pK+2^next) out).getD mask 0=0:=by
    intro x hx e
    rw[g1 x hx,if_neg (by have:=Nat.two_pow_pos next;omega)]
    refine hz x hx ?_
    have h1:=bF x
    have h2:=hlt x
    rcases avT x with h3|h3<;>rw[h3] at h1<;>omega
   have g2:=ih (next+1) ((FD.aB hg).wo rows next) pK _ (by omega) (by omega) (by rw[Fld.w8];exact hl) z2
   rw[g2 mask hm,g1 mask hm]
   have h1:=bF mask
   have h2:=hlt mask
   rw[List.range'_succ,List.filter_cons]
   rcases avT mask with h3|h3
   ·rw[h3] at h1
    rw[if_pos (show decide (mask/2^next%2≠1)=true by rw[h3];rfl),List.foldl_cons]
    by_cases e:mask%2^next=pK
    ·rw[if_pos (by omega),if_pos e]
    ·rw[if_neg (by omega),if_neg (by omega),if_neg e]
   ·rw[h3] at h1
    rw[if_neg (show ¬decide (mask/2^next%2≠1)=true by rw[h3];simp)]
    rw[if_neg (show ¬mask%2^(next+1)=pK by omega)]
    by_cases e:mask%2^next=pK
    ·rw[if_pos (by omega),if_pos e]
    ·rw[if_neg (by omega),if_neg e]
theorem L8{N mask i:Nat}:i∈dD N mask↔i<N∧mask/2^i%2=1:=by
 unfold dD
 rw[List.mem_filter,List.mem_range]
 simp
theorem Ux{N:Nat}(rows:List (List (El D))){mask:Nat}(hm:mask<2^N):(Ag hg N rows).getD mask 0=pM hg N rows (dD N mask):=by
 unfold Ag pM
 rw[asl hg N 0 rows 0 (List.replicate (2^N) 0) (by omega) (by simp) (by simp) (fun x hx _=>by
  rw[List.getD_eq_getElem?_getD,List.getElem?_replicate,if_pos hx];rfl) mask hm]
 rw[if_pos (by simp[Nat.mod_one])]
 congr 2
 unfold uu
 rw[List.range_eq_range']
 refine List.filter_congr fun i hi=>?_
 have By:i<N:=by simpa [List.mem_range'] using hi
 by_cases c:mask/2^i%2=1
 ·have:i∈dD N mask:=L8.2 ⟨By,c⟩
  simp[c,this]
 ·have:i∉dD N mask:=fun h=>c (L8.1 h).2
  simp[c,this]
end
theorem L9{n:Nat}:∀(z lo:Nat) (l:List Nat),l∈mH n z lo↔l.length=z∧l.Pairwise (·<·)∧∀x∈l,lo≤x∧x<n:=by
 intro z
 induction z with
 |zero=>
  intro lo l
  constructor
  ·intro h
   have:l=[]:=by simpa [mH] using h
   subst this;simp
  ·rintro⟨h,_,_⟩
   rw[List.length_eq_zero_iff.1 h];simp[mH]
 |succ z ih=>
  intro lo l
  have key:∀d i,l∈abj (mH n z) d i↔∃j l',i≤j∧j<i+d∧l=j::l'∧l'∈mH n z (j+1):=by
   intro d
   induction d with
   |zero=>intro i;simp only[abj,List.not_mem_nil,false_iff];rintro⟨j,l',h1,h2,_⟩;omega
   |succ d ihd=>
    intro i
    unfold abj
    rw[List.mem_append,ihd,List.mem_map]
    constructor
    ·rintro(⟨l',h1,rfl⟩|⟨j,l',h1,h2,h3,h4⟩)
     ·exact⟨i,l',Nat.le_refl _,by omega,rfl,h1⟩
     ·exact⟨j,l',by omega,by omega,h3,h4⟩
    ·rintro⟨j,l',h1,h2,h3,h4⟩
     by_cases e:j=i
     ·subst e;exact .inl ⟨l',h4,h3.symm⟩
     ·exact .inr ⟨j,l',by omega,by omega,h3,h4⟩
  unfold mH
  rw[key]
  constructor
  ·rintro⟨j,l',h1,h2,rfl,h4⟩
   obtain⟨g1,g2,g3⟩:=(ih _ _).1 h4
   refine⟨by simp[g1],List.pairwise_cons.2 ⟨fun x hx=>by have:=g3 x hx;omega,g2⟩,fun x hx=>?_⟩
   rcases List.mem_cons.1 hx with rfl|hx
   ·omega
   ·have:=g3 x hx;omega
  ·rintro⟨h1,h2,h3⟩
   cases l with
   |nil=>simp at h1
   |cons j l'=>
    have hj:=h3 j (List.mem_cons_self ..)
    have hp:=List.pairwise_cons.1 h2
    refine⟨j,l',hj.1,by omega,rfl,(ih _ _).2 ⟨by simpa using h1,hp.2,fun x hx=>?_⟩⟩
    have:=hp.1 x hx
    have:=(h3 x (List.mem_cons_of_mem _ hx)).2
    omega
theorem adp(N mask:Nat):dD N mask∈mH N (dD N mask).length 0:=by
 rw[L9]
 refine⟨rfl,?_,fun x hx=>⟨Nat.zero_le _,(L8.1 hx).1⟩⟩
 unfold dD
 exact List.pairwise_lt_range.filter _
theorem aiq{N a:Nat}(ha:a<2^N):dD (N+1) (a+2^N)=dD N a++[N]:=by
 have h1:(a+2^N)/2^N%2=1:=by
  rw[Nat.add_div_right _ (Nat.two_pow_pos _),Nat.div_eq_of_lt ha]
 rw[rY,if_pos h1]
 congr 1
 unfold dD
 refine List.filter_congr fun i hi=>?_
 have By:=List.mem_range.1 hi
 have e:(2:Nat)^N=2^i*(2^(N-i-1)*2):=by
  rw[←Nat.pow_succ,←Nat.pow_add];congr 1;omega
 have:(a+2^N)/2^i%2=a/2^i%2:=by
  rw[e,Nat.add_mul_div_left _ _ (Nat.two_pow_pos _),Nat.add_mul_mod_self_right]
 rw[this]
theorem adq:∀(N:Nat) (l:List Nat),l.Pairwise (·<·)→(∀x∈l,x<N)→∃mask,mask<2^N∧dD N mask=l:=by
 intro N
 induction N with
 |zero=>
  intro l _ h
  have:l=[]:=by
   cases l with
   |nil=>rfl
   |cons x l=>have:=h x (List.mem_cons_self ..);omega
  subst this
  exact⟨0,by simp,rfl⟩
 |succ N ih=>
  intro l hp h
  rcases List.eq_nil_or_concat l with rfl|⟨L,b,rfl⟩
  ·obtain⟨mask,h1,h2⟩:=ih [] List.Pairwise.nil (fun x hx=>by cases hx)
   refine⟨mask,by rw[Nat.pow_succ];omega,?_⟩
   rw[rY,h2,Nat.div_eq_of_lt h1];simp
  ·rw[List.concat_eq_append] at hp h ⊢
   obtain⟨p1,_,p3⟩:=List.pairwise_append.1 hp
   by_cases e:b=N
   ·subst e
    obtain⟨mask,h1,h2⟩:=ih L p1 (fun x hx=>p3 x hx b (List.mem_singleton.2 rfl))
    exact⟨mask+2^b,by rw[Nat.pow_succ];omega,by rw[aiq h1,h2]⟩
   ·have hb:=h b (List.mem_append_right _ (List.mem_singleton.2 rfl))
    obtain⟨mask,h1,h2⟩:=ih (L++[b]) hp (fun x hx=>by
     rcases List.mem_append.1 hx with hx|hx
     ·have:=p3 x hx b (List.mem_singleton.2 rfl);omega
     ·rw[List.mem_singleton.1 hx];omega)
    refine⟨mask,by rw[Nat.pow_succ];omega,?_⟩
    rw[rY,h2,Nat.div_eq_of_lt h1];simp
theorem adr(N:Nat)(L:List Nat)(i:Nat)(hi:i≤N):∀j,(∀mask<j,(dD N mask).length=i→L.getD mask 0≤(fF N L j).getD i 0)∧((fF N L j).getD i 0=0∨∃mask<j,(dD N mask).length=i∧(fF N L j).getD i 0=L.getD mask 0):=by
 intro j
 induction j with
 |zero=>
  refine⟨fun mask h=>by omega,.inl ?_⟩
  unfold fF
  rw[List.getD_eq_getElem?_getD,List.getElem?_replicate,if_pos (by omega)];rfl
 |succ j ih=>
  obtain⟨g1,g2⟩:=ih
  have hlen:=vv N L j
  by_cases e:(dD N j).length=i
  ·have hv:(fF N L (j+1)).getD i 0=if L.getD j 0>(fF N L j).getD i 0 then L.getD j 0 else (fF N L j).getD i 0:=by
    conv=>lhs;unfold fF
    rw[e,List.getD_eq_getElem?_getD,List.getElem?_set_self (by omega)];rfl
   rw[hv]
   by_cases c:L.getD j 0>(fF N L j).getD i 0
   ·rw[if_pos c]
    refine⟨fun mask h1 h2=>?_,.inr ⟨j,by omega,e,rfl⟩⟩
    by_cases e2:mask=j
    ·subst e2;exact Nat.le_refl _
    ·have:=g1 mask (by omega) h2;omega
   ·rw[if_neg c]
    refine⟨fun mask h1 h2=>?_,?_⟩
    ·by_cases e2:mask=j
     ·subst e2;omega
     ·exact g1 mask (by omega) h2
    ·rcases g2 with g2|⟨mask,h1,h2,h3⟩
     ·exact .inl g2
     ·exact .inr ⟨mask,by omega,h2,h3⟩
  ·have hv:(fF N L (j+1)).getD i 0=(fF N L j).getD i 0:=by
    conv=>lhs;unfold fF
    rw[List.getD_eq_getElem?_getD,List.getElem?_set_ne e,←List.getD_eq_getElem?_getD]
   rw[hv]
   refine⟨fun mask h1 h2=>?_,?_⟩
   ·by_cases e2:mask=j
    ·subst e2;exact absurd h2 e
    ·exact g1 mask (by omega) h2
   ·rcases g2 with g2|⟨mask,h1,h2,h3⟩
    ·exact .inl g2
    ·exact .inr ⟨mask,by omega,h2,h3⟩
section
variable{D:FD}{gen:Nat}(hg:D.aJ gen)(N:Nat)(rows:List (List (El D)))
theorem Ma:∀(L:List (List Nat)) (m0:Nat),m0≤maxD hg N rows L m0∧(∀l∈L,pM hg N rows l≤maxD hg N rows L m0)∧(maxD hg N rows L m0=m0∨∃l∈L,maxD hg N rows L m0=pM hg N rows l):=by
 intro L
 induction L with
 |nil=>intro m0;exact⟨Nat.le_refl _,fun l h=>(by cases h),Or.inl rfl⟩
 |cons a L ih=>
  intro m0
  have e:maxD hg N rows (a::L) m0=maxD hg N rows L (if pM hg N rows a>m0 then pM hg N rows a else m0):=rfl
  rw[e]
  by_cases c:pM hg N rows a>m0
  ·rw[if_pos c]
   obtain⟨g1,g2,g3⟩:=ih (pM hg N rows a)
   refine⟨by omega,fun l hl=>?_,.inr ?_⟩
   ·rcases List.mem_cons.1 hl with rfl|hl
    ·exact g1
    ·exact g2 l hl
   ·rcases g3 with g3|⟨l,h1,h2⟩
    ·exact⟨a,List.mem_cons_self ..,g3⟩
    ·exact⟨l,List.mem_cons_of_mem _ h1,h2⟩
  ·rw[if_neg c]
   obtain⟨g1,g2,g3⟩:=ih m0
   refine⟨g1,fun l hl=>?_,?_⟩
   ·rcases List.mem_cons.1 hl with rfl|hl
    ·omega
    ·exact g2 l hl
   ·rcases g3 with g3|⟨l,h1,h2⟩
    ·exact .inl g3
    ·exact .inr ⟨l,List.mem_cons_of_mem _ h1,h2⟩
theorem abk{i:Nat}(hi:i≤N):(fF N (Ag hg N rows) (2^N)).getD i 0=maxD hg N rows (mH N i 0) 0:=by
 obtain⟨g1,g2⟩:=adr N (Ag hg N rows) i hi (2^N)
 obtain⟨_,m2,m3⟩:=Ma hg N rows (mH N i 0) 0
 refine Nat.le_antisymm ?_ ?_
 ·rcases g2 with g2|⟨mask,h1,h2,h3⟩
  ·omega
  ·rw[h3,Ux hg rows h1]
   exact m2 _ (by rw[←h2];exact adp N mask)
 ·rcases m3 with m3|⟨l,h1,h2⟩
  ·omega
  ·obtain⟨s1,s2,s3⟩:=(L9 _ _ _).1 h1
   obtain⟨mask,k1,k2⟩:=adq N l s2 (fun x hx=>(s3 x hx).2)
   have:=g1 mask k1 (by rw[k2];exact s1)
   rw[Ux hg rows k1,k2] at this
   omega
end
end Go.Abs.P
end
section
namespace Go.Abs.P
open Go.Abs Go.Fld
section
variable{fl:Nat}{h:AH}{mod:Sl}{xs:List Int}{p m n:Int}{rs:List (List Int)}{s:Sl}
theorem amZ{R:Type}{k:Nat}(kn:ar R)(kr:au R){bx:Nat}(c:Value)(hx:OB h bx [c,.slice s.a s.l s.c])(hs:RR h s rs)(hm:rs.length≤65536):
 ∀(d i f left:Nat),i+d=rs.length→d<f→left≤65536→
 (lF M fl k kn kr f ⟨bx,0,none⟩ (left:Int) (i:Int) h=kr false h)∨(lF M fl k kn kr f ⟨bx,0,none⟩ (left:Int) (i:Int) h=kn h∧∀r∈rs.drop i,r.length≤left):=by
 intro d
 induction d with
 |zero=>
  intro i f left hi hf hl
  obtain⟨f,rfl⟩:∃j,f=j+1:=⟨f-1,by omega⟩
  refine .inr ⟨?_,by rw[List.drop_eq_nil_of_le (by omega)];intro r hr;cases hr⟩
  show qz M fl k _ _ kr _ _ _ h=_
  unfold qz
  rw[ah (s:=s) (hx.cell rfl),if_neg (by simp[hs.len];omega)]
 |succ d ih=>
  intro i f left hi hf hl
  obtain⟨f,rfl⟩:∃j,f=j+1:=⟨f-1,by omega⟩
  have nw:i<rs.length:=by omega
  obtain⟨t,a1,a2⟩:=hs.read nw
  have un:lF M fl k kn kr (f+1) ⟨bx,0,none⟩ (left:Int) (i:Int) h=qz M fl k (lF M fl k kn kr f) kn kr ⟨bx,0,none⟩ (left:Int) (i:Int) h:=rfl
  rw[un]
  unfold qz
  rw[ah (s:=s) (hx.cell rfl),if_pos (by simp[hs.len];omega),ah (s:=s) (hx.cell rfl),a2]
  by_cases c1:rs[i].length>left
  ·rw[if_pos (by simp[a1.len];omega)]
   exact .inl rfl
  ·rw[if_neg (by simp[a1.len];omega),ah (s:=s) (hx.cell rfl),a2,av (n:=(left:Int)-((t.l:Nat):Int)) (left-rs[i].length) (by rw[a1.len];omega) (by omega),av (i+1) (by push_cast;rfl) (by omega)]
   rcases ih (i+1) f (left-rs[i].length) (by omega) (by omega) (by omega) with g|⟨g1,g2⟩
   ·exact .inl g
   ·refine .inr ⟨g1,fun r hr=>?_⟩
    rw[List.drop_eq_getElem_cons nw] at hr
    rcases List.mem_cons.1 hr with rfl|hr
    ·omega
    ·have:=g2 r hr;omega
theorem air{b:Nat}(hb:b≤65536)(hs:RR h s rs):
 ∃(h':AH) (r:Bool),M fl fn.vB [.agg ⟨[.int .i64 0,.slice s.a s.l s.c]⟩,.int .i64 (b:Int)] h=some (.bool r,h')∧ai h h'∧(r=true→rs.length≤b∧∀x∈rs,x.length≤b):=by
 have o1:=OB.alloc h [.int .i64 0,.slice s.a s.l s.c]
 have q1:=ai.alloc h [.int .i64 0,.slice s.a s.l s.c]
 generalize eB:h.alloc [.int .i64 0,.slice s.a s.l s.c]=h1 at o1 q1
 have go:∀{k r},Y1 M fl k (fun y4 q=>some (Value.bool y4,q)) 0 s (b:Int) h=some r→M fl fn.vB [.agg ⟨[.int .i64 0,.slice s.a s.l s.c]⟩,.int .i64 (b:Int)] h=some r:=by
  intro k r he
  refine aX (k:=k) (by decide) aaL ?_
  rw[SJ];exact he
 by_cases c:rs.length>b
 ·refine⟨h1,false,go (k:=1) ?_,q1,fun e=>by cases e⟩
  unfold Y1 QS
  rw[bu eB,ab (o1.cell rfl),if_pos (by decide),ah (s:=s) (o1.cell rfl),if_pos (by simp[hs.len];omega)]
 ·have pre:∀{k r},lF M fl k (Ec M fl k (fun y4 q=>some (Value.bool y4,q))) (fun y4 q=>some (Value.bool y4,q)) k ⟨h.next,0,none⟩ ((b-rs.length:Nat):Int) ((0:Nat):Int) h1=some r→M fl fn.vB [.agg ⟨[.int .i64 0,.slice s.a s.l s.c]⟩,.int .i64 (b:Int)] h=some r:=by
   intro k r he
   refine go (k:=k) ?_
   unfold Y1 QS VE
   rw[bu eB,ab (o1.cell rfl),if_pos (by decide),ah (s:=s) (o1.cell rfl),if_neg (by simp[hs.len];omega),ah (s:=s) (o1.cell rfl),av (b-rs.length) (by rw[hs.len];omega) (by omega)]
   exact he
  rcases amZ (fl:=fl) (k:=rs.length+1) (Ec M fl (rs.length+1) (fun y4 q=>some (Value.bool y4,q))) (fun y4 q=>some (Value.bool y4,q)) (.int .i64 0) o1 (hs.quiet q1) (by omega) rs.length 0 (rs.length+1) (b-rs.length) (by omega) (by omega) (by omega) with g|⟨g1,g2⟩
  ·exact⟨h1,false,pre g,q1,fun e=>by cases e⟩
  ·exact⟨h1,true,pre g1,q1,fun _=>⟨by omega,fun x hx=>by have:=g2 x (by rw[List.drop_zero];exact hx);omega⟩⟩
theorem ads{b:Nat}(hb:b≤65536)(hs:RR h s rs)(p m n:Int):
 ∃(h':AH) (r:Bool),M fl fn.qh [ca p m mod n s,.int .i64 (b:Int)] h=some (.bool r,h')∧ai h h'∧(r=true→rs.length≤b∧∀x∈rs,x.length≤b):=by
 have o1:=OB.alloc h (pN p m mod n s)
 have q1:=ai.alloc h (pN p m mod n s)
 generalize eB:h.alloc (pN p m mod n s)=h1 at o1 q1
 obtain⟨h2,r,c1,c2,c3⟩:=air (fl:=fl) hb (hs.quiet q1)
 refine⟨h2,r,aX (k:=1) (by decide) aaJ ?_,q1.trans c2,c3⟩
 unfold ca
 rw[SE]
 unfold qh ake
 rw[bu eB,ah (s:=s) (o1.cell rfl),ag c1]
 simp only[asBool]
theorem adt(p m n:Int)(bF:SI h mod xs)(hb:xs.length≤mh)(bN:fl≤h.next)(hs:RR h s rs):
 ∃(h':AH) (r:Bool),M fl fn.nC [ca p m mod n s] h=some (.bool r,h')∧ai h h'∧(r=true→rs.length≤120∧∀x∈rs,x.length≤120):=by
 have o1:=OB.alloc h (pN p m mod n s)
 have q1:=ai.alloc h (pN p m mod n s)
 generalize eB:h.alloc (pN p m mod n s)=h1 at o1 q1
 have l1:=q1.1
 obtain⟨h2,r,c1,c2,c3⟩:=ads (fl:=fl) (b:=120) (mod:=mod) (by omega) (hs.quiet q1) p m n
 have q2:=q1.trans c2
 have o2:=o1.quiet c2
 have l2:=q2.1
 unfold ca at c1
 have go:∀{r},YE M fl 1 (fun y2 q=>some (Value.bool y2,q)) p m mod n s h=some r→M fl fn.nC [ca p m mod n s] h=some r:=by
  intro r he
  refine aX (k:=1) (by decide) Tn ?_
  unfold ca
  rw[NU];exact he
 cases r with
 |false=>
  refine⟨h2,false,go ?_,q2,fun e=>by cases e⟩
  unfold YE
  rw[bu eB,ab (o1.cell rfl),ab (o1.cell rfl),ah (s:=mod) (o1.cell rfl),ab (o1.cell rfl),ah (s:=s) (o1.cell rfl),ag (show M fl fn.qh [.agg ⟨[.int .i64 p,.int .i64 m,.slice mod.a mod.l mod.c,.int .i64 n,.slice s.a s.l s.c]⟩,.int .i64 120] h1=_ from c1)]
  simp only[asBool]
  rw[if_neg (by simp)]
 |true=>
  obtain⟨d1,d2⟩:=c3 rfl
  obtain⟨h3,e,e1,e2,e3⟩:=KD (fl:=fl) p m (bF.quiet q2) hb (by omega) (n:=n) (hs.quiet q2) (by omega) (fun r hr=>by have:=d2 r hr;omega)
  have o3:=o2.quiet e2
  unfold ca at e1
  have fin:∀v,(if (e !=0)=false then if decide (n>16)=false then some (Value.bool (decide (n≤9)),h3) else some (Value.bool true,h3) else some (Value.bool true,h3))=some (Value.bool v,h3)→M fl fn.nC [ca p m mod n s] h=some (.bool v,h3):=by
   intro v hv
   refine go ?_
   unfold YE
   rw[bu eB,ab (o1.cell rfl),ab (o1.cell rfl),ah (s:=mod) (o1.cell rfl),ab (o1.cell rfl),ah (s:=s) (o1.cell rfl),ag (show M fl fn.qh [.agg ⟨[.int .i64 p,.int .i64 m,.slice mod.a mod.l mod.c,.int .i64 n,.slice s.a s.l s.c]⟩,.int .i64 120] h1=_ from c1)]
   simp only[asBool,if_true]
   rw[ab (o2.cell rfl),ab (o2.cell rfl),ah (s:=mod) (o2.cell rfl),ab (o2.cell rfl),ah (s:=s) (o2.cell rfl),ag e1]
   simp only[asInt,if_true]
   rw[ab (n:=n) (o3.cell rfl),ab (n:=n) (o3.cell rfl)]
   exact hv
  by_cases z:(e !=0)=false
  ·by_cases y:decide (n>16)=false
   ·exact⟨h3,_,fin (decide (n≤9)) (by rw[if_pos z,if_pos y]),q2.trans e2,fun _=>⟨d1,d2⟩⟩
   ·exact⟨h3,_,fin true (by rw[if_pos z,if_neg y]),q2.trans e2,fun _=>⟨d1,d2⟩⟩
  ·exact⟨h3,_,fin true (by rw[if_neg z]),q2.trans e2,fun _=>⟨d1,d2⟩⟩
theorem PrR.as4{h1 h2:AH}{f f':∀(D:FD) (gen:Nat) (_:D.aJ gen) (N:Nat) (_:List (List (El D))),List Int}{v v':Value}(a:PrR h1 p m xs n rs f v)(b:PrR h2 p m xs n rs f' v')
 (hf:∀(D:FD) (gen Ai:Nat) (hg:D.aJ gen) (hg':D.aJ Ai) (N:Nat) (rows:List (List (El D))),N≤64→rows.length≤256→f D gen hg N rows=f' D Ai hg' N rows∧(f D gen hg N rows).length≤65536):
 ∃(s s':Sl) (e:Int) (zs:List Int),v=.tuple ⟨[.slice s.a s.l s.c,.int .i64 e]⟩∧v'=.tuple ⟨[.slice s'.a s'.l s'.c,.int .i64 e]⟩∧SI h1 s zs∧SI h2 s' zs∧zs.length≤65536:=by
 cases a with
 |err e ce ne hv=>
  cases b with
  |err e' XK ne' XY=>
   have:=ce.unique XK
   subst this
   exact⟨⟨none,0,0⟩,⟨none,0,0⟩,e,[],hv,XY,SI.nil _,SI.nil _,by simp⟩
  |big XK hn XY=>exact absurd (ce.unique XK) ne
  |ok D gen hg N rows XK ck hN s si XY=>exact absurd (ce.unique XK) ne
 |big ce hn hv=>
  cases b with
  |err e' XK ne' XY=>exact absurd (XK.unique ce) ne'
  |big XK hn XY=>exact⟨⟨none,0,0⟩,⟨none,0,0⟩,8,[],hv,XY,SI.nil _,SI.nil _,by simp⟩
  |ok D gen hg N rows XK ck hN s si XY=>have:=ck.en;omega
 |ok D gen hg N rows ce ck hN s si hv=>
  cases b with
  |err e' XK ne' XY=>exact absurd (XK.unique ce) ne'
  |big XK hn XY=>have:=ck.en;omega
  |ok D' Ai hg' N' kZ XK ck' hN' s' si' XY=>
   have eD:D=D':=cT ck.hF ck'.hF
   subst eD
   have eN:N=N':=by have:=ck.en;have:=ck'.en;omega
   subst eN
   have eR:rows=kZ:=tX (ck.er.symm.trans ck'.er)
   subst eR
   obtain⟨k1,k2⟩:=hf D gen Ai hg hg' N rows ck.n64 ck.le
   exact⟨s,s',0,_,hv,XY,si,by rw[k1];exact si',k2⟩
end
end Go.Abs.P
end
section
namespace Go.Abs.P
open Go.Abs Go.Fld
end Go.Abs.P
end
section
namespace Go.Abs.P
open Go.Abs Go.Fld
section
variable{D:FD}{gen:Nat}(hg:D.aJ gen){h:AH}{g:Addr}{fl:Nat}
theorem az4:ve (FD.aB hg).zero=0:=(ix hg _).2 rfl
theorem Can.ge{w:Nat}{R:List (List (El D))}{ps:List Nat}(can:(FD.aB hg).Can w R ps){i:Nat}(hi:i<R.length):ps[i]'(by rw[can.len];exact hi)<w:=by
 have:=can.lt i (by rw[can.len];exact hi)
 rwa[List.getD_eq_getElem?_getD,List.getElem?_eq_getElem (by rw[can.len];exact hi)] at this
theorem auT{R:Type}{k:Nat}(kn:Po R){h0:AH}{b w c:Nat}{rows:List (List (El D))}{ps:List Nat}{s sp:Sl}(gf:GF h0 g D gen)(hs:RR h0 s (rows.map vl))(hp:SI h0 sp (ints ps))(can:(FD.aB hg).Can w rows ps)(hc:c<w)(hm:rows.length≤65536)(hb:h0.next≤b)(bN:fl≤h0.next)(t3 t4:Addr)(t10:Sl)(t36 t37:Int):
 ∀(d i f:Nat) (h:AH),i+d=rows.length→d<f→OB h b (iv (vl (Fld.yP (FD.aB hg) w rows ps c i)))→ai h0 h→
 ∃h',dQ M fl k kn f t3 t4 (some g) s sp t10 (c:Int) ⟨some ⟨b,0,none⟩,w,w⟩ t36 t37 sp (rows.length:Int) (i:Int) h=kn t3 t4 (some g) s sp t10 ⟨some ⟨b,0,none⟩,w,w⟩ t36 t37 h'∧OB h' b (iv (vl (Fld.yP (FD.aB hg) w rows ps c rows.length)))∧ai h0 h':=by
 intro d
 induction d with
 |zero=>
  intro i f h hi hf ho hq
  obtain⟨f,rfl⟩:∃j,f=j+1:=⟨f-1,by omega⟩
  obtain rfl:i=rows.length:=by omega
  refine⟨h,?_,ho,hq⟩
  show dO M fl k _ _ _ _ _ _ _ _ _ _ _ _ _ _ _ h=_
  unfold dO
  rw[if_neg (by simp)]
 |succ d ih=>
  intro i f h hi hf ho hq
  obtain⟨f,rfl⟩:∃j,f=j+1:=⟨f-1,by omega⟩
  have nw:i<rows.length:=by omega
  have H6:i<ps.length:=by rw[can.len];exact nw
  have hpw:=Can.ge hg can nw
  have un:dQ M fl k kn (f+1) t3 t4 (some g) s sp t10 (c:Int) ⟨some ⟨b,0,none⟩,w,w⟩ t36 t37 sp (rows.length:Int) (i:Int) h=dO M fl k (dQ M fl k kn f) kn t3 t4 (some g) s sp t10 (c:Int) ⟨some ⟨b,0,none⟩,w,w⟩ t36 t37 sp (rows.length:Int) (i:Int) h:=rfl
  rw[un]
  unfold dO
  obtain⟨t,a1,a2⟩:=(hs.quiet hq).read (i:=i) (by simpa using nw)
  simp only[List.getElem_map] at a1
  have hrw:(rows[i]).length=w:=can.wid _ (List.getElem_mem nw)
  rw[if_pos (by simp;omega),(hp.quiet hq).read (by omega) (by simp;omega)]
  simp only[Int.toNat_natCast,dm]
  rw[a2,a1.read (by omega) (by simp;omega)]
  simp only[Int.toNat_natCast,kW]
  rw[ag (auP hg (gf.quiet hq) _)]
  simp only[asInt,if_true]
  rw[aT rfl (show ps[i]<w from hpw),ho.st (by omega) (by simp[iv];omega) rfl,av (i+1) (by push_cast;rfl) (by omega)]
  have e1:(rows[i])[c]'(by omega)=(FD.aB hg).jx rows i c:=by
   rw[(FD.aB hg).IE nw,List.getD_eq_getElem?_getD,List.getElem?_eq_getElem (by omega)];rfl
  have e2:ps[i]=ps.getD i 0:=by rw[List.getD_eq_getElem?_getD,List.getElem?_eq_getElem H6];rfl
  have ho2:OB (h.put b (some ((iv (vl (Fld.yP (FD.aB hg) w rows ps c i))).set (0+ps[i]) (.int .i64 (ve ((FD.aB hg).neg ((rows[i])[c]'(by omega)))))))) b (iv (vl (Fld.yP (FD.aB hg) w rows ps c (i+1)))):=by
   have:=ho.put ((iv (vl (Fld.yP (FD.aB hg) w rows ps c i))).set (0+ps[i]) (.int .i64 (ve ((FD.aB hg).neg ((rows[i])[c]'(by omega))))))
   rw[Nat.zero_add,iy,L6,e1,e2,←Fld.Ay] at this
   rw[Nat.zero_add,iy,L6,e1,e2,←Fld.Ay]
   exact this
  exact ih (i+1) f _ (by omega) (by omega) ho2 (hq.put hb _)
theorem asm{R:Type}{k:Nat}(kn:xG R){h0:AH}{bm w:Nat}{rows:List (List (El D))}{ps:List Nat}{s sp sm:Sl}(gf:GF h0 g D gen)(hs:RR h0 s (rows.map vl))(hp:SI h0 sp (ints ps))(can:(FD.aB hg).Can w rows ps)(hm:rows.length≤65536)(hw:w≤65536)(ob:OB h0 bm [.int .i64 (w:Int),.slice sm.a sm.l sm.c])(bN:fl≤h0.next)(hk:rows.length<k)(t4:Addr):
 ∀(d c f:Nat) (t:Sl) (ts:List Sl) (h:AH),c+d=w→d<f→GL (fun _=>True) h0 h t ts ((Fld.IJ (FD.aB hg) w rows ps c).map vl)→
 ∃h' t' B7,j6 M fl k kn f ⟨bm,0,none⟩ t4 (some g) s sp t (w:Int) (c:Int) h=kn ⟨bm,0,none⟩ t4 (some g) t' h'∧GL (fun _=>True) h0 h' t' B7 ((Fld.IJ (FD.aB hg) w rows ps w).map vl):=by
 intro d
 induction d with
 |zero=>
  intro c f t ts h hc hf gl
  obtain⟨f,rfl⟩:∃j,f=j+1:=⟨f-1,by omega⟩
  obtain rfl:c=w:=by omega
  refine⟨h,t,ts,?_,gl⟩
  show qC M fl k _ _ _ _ _ _ _ _ _ _ h=_
  unfold qC wh
  rw[if_neg (by simp)]
 |succ d ih=>
  intro c f t ts h hc hf gl
  obtain⟨f,rfl⟩:∃j,f=j+1:=⟨f-1,by omega⟩
  have un:j6 M fl k kn (f+1) ⟨bm,0,none⟩ t4 (some g) s sp t (w:Int) (c:Int) h=qC M fl k (j6 M fl k kn f) kn ⟨bm,0,none⟩ t4 (some g) s sp t (w:Int) (c:Int) h:=rfl
  rw[un]
  unfold qC wh
  rw[if_pos (by simp;omega)]
  unfold C4 uZ sy oH
  have hpq:=hp.quiet gl.q
  rw[ag (FO (fl:=fl) (c:Int) hpq (by unfold mh;have:=can.len;simp;omega))]
  simp only[asBool]
  have St:((c:Int)∈ints ps)↔ps.contains c=true:=by
   rw[List.contains_iff_mem]
   unfold ints
   constructor
   ·intro h
    obtain⟨a,ha,e⟩:=List.mem_map.1 h
    have:a=c:=by have:(a:Int)=c:=e
                 omega
    rw[←this];exact ha
   ·exact fun h=>List.mem_map_of_mem h
  have hT:=Fld.acG (F:=FD.aB hg) (w:=w) (R:=rows) (ps:=ps) c
  by_cases hcp:ps.contains c=true
  ·rw[if_pos (by simpa using St.2 hcp)]
   unfold eQ
   rw[av (c+1) (by push_cast;rfl) (by omega)]
   refine ih (c+1) f t ts h (by omega) (by omega) ?_
   rw[hT,if_pos hcp,List.append_nil];exact gl
  ·rw[if_neg (by simpa using fun e=>hcp (St.1 e)),ab ((ob.quiet gl.q).cell rfl),jg (by unfold kA;omega)]
   have o1:=OB.alloc h (List.replicate w (Value.int .i64 0))
   have q1:=ai.alloc h (List.replicate w (Value.int .i64 0))
   generalize h.alloc (List.replicate w (Value.int .i64 0))=h1 at o1 q1
   have n0:=gl.q.1
   have n1:=q1.1
   have r1:List.replicate w (Value.int .i64 0)=iv (vl (List.replicate w (FD.aB hg).zero)):=by
    unfold iv vl;rw[List.map_replicate,List.map_replicate,az4]
   rw[r1] at o1
   rw[aT rfl (show c<w by omega),o1.st (by omega) (by simp[iv];omega) rfl,Nat.zero_add]
   have e1:(1:Int)=ve (FD.aB hg).one:=by
    show(1:Int)=((((FD.aB hg).one:El D).val:Nat):Int)
    rfl
   have o2:OB (h1.put h.next (some ((iv (vl (List.replicate w (FD.aB hg).zero))).set c (.int .i64 1)))) h.next (iv (vl (Fld.yP (FD.aB hg) w rows ps c 0))):=by
    have:=o1.put ((iv (vl (List.replicate w (FD.aB hg).zero))).set c (.int .i64 1))
    rw[e1,iy,L6] at this
    rw[e1,iy,L6]
    exact this
   have q2:ai h (h1.put h.next (some ((iv (vl (List.replicate w (FD.aB hg).zero))).set c (.int .i64 1)))):=q1.put (Nat.le_refl _) _
   have FV:sp.l=rows.length:=by rw[hp.len,cz,can.len]
   rw[FV]
   unfold ud
   obtain⟨h3,c1,c2,c3⟩:=auT (fl:=fl) hg (kg M fl k (eQ M fl k (j6 M fl k kn f) kn) (eQ M fl k (j6 M fl k kn f) kn)) (h0:=h) (gf.quiet gl.q) (hs.quiet gl.q) hpq can (show c<w by omega) hm (Nat.le_refl _) (by omega) ⟨bm,0,none⟩ t4 t (w:Int) (c:Int) rows.length 0 k _ (by omega) (by omega) o2 q2
   refine(?_:_)
   rw[show((0:Nat):Int)=0 from rfl] at c1
   have nc:¬∃i,i<ps.length∧ps.getD i 0=c:=fun e=>hcp (Fld.mV.2 e)
   rw[Fld.ajO can nc] at c2
   have gl3:=gl.quiet c3
   have si:SI h3 ⟨some ⟨h.next,0,none⟩,w,w⟩ (vl ((FD.aB hg).pR w rows ps c)):=by
    have:=c2.si none w
    simpa [Fld.vA] using this
   have tlt:∀a,t.a=some a→a.block<h.next:=fun a ha=>OV.lt gl.ov a ha
   obtain⟨t',h4,p1,p2,_⟩:=gl3.push (R:=R) (fl:=fl) bN (by rw[List.length_map];have:=Fld.Uf (F:=FD.aB hg) (w:=w) (R:=rows) (ps:=ps) c;omega) si (fun q hq=>by
    cases hq
    exact⟨c2.1,trivial,fun a ha=>by have:=tlt a ha;simp only[ne_eq];omega⟩) (fun s3 h4=>eQ M fl k (j6 M fl k kn f) kn ⟨bm,0,none⟩ t4 (some g) s sp s3 (w:Int) (c:Int) h4)
   obtain⟨h',t'',B7,r1,r2⟩:=ih (c+1) f t' _ h4 (by omega) (by omega) (by
    rw[hT,if_neg hcp,List.map_append];exact p2)
   refine⟨h',t'',B7,?_,r2⟩
   refine Eq.trans c1 ?_
   unfold kg
   refine Eq.trans p1 ?_
   unfold eQ
   rw[av (c+1) (by push_cast;rfl) (by omega)]
   exact r1
end
end Go.Abs.P
end
section
namespace Go.Abs.P
open Go.Abs Go.Fld
inductive az5 (h h':AH) (p m:Int) (xs:List Int) (cols:Int) (rs:List (List Int)) (v:Value):Prop where
 |jv (nf:¬uU p m xs) (e:v=.tuple ⟨[.agg ⟨[.int .i64 0,.slice none 0 0]⟩,.int .i64 1]⟩)
 |bad (D:FD) (gen:Nat) (hF:PN p m xs D) (hg:D.aJ gen) (ne:dt D cols rs≠0) (e:v=.tuple ⟨[.agg ⟨[.int .i64 0,.slice none 0 0]⟩,.int .i64 (dt D cols rs)]⟩)
 |ok (D:FD) (gen:Nat) (hF:PN p m xs D) (hg:D.aJ gen) (rows:List (List (El D))) (er:rs=rows.map vl) (wid:Fld.eG cols.toNat rows) (z:dt D cols rs=0) (s':Sl)
  (rr:RRf h.next h' s' (((FD.aB hg).null rows cols.toNat).map vl)) (e:v=.tuple ⟨[.agg ⟨[.int .i64 cols,.slice s'.a s'.l s'.c]⟩,.int .i64 0]⟩)
section
variable{fl:Nat}{h:AH}{mod:Sl}{xs:List Int}
theorem abl(p m:Int)(bF:SI h mod xs)(hb:xs.length≤mh)(bN:fl≤h.next){cols:Int}{s:Sl}{rs:List (List Int)}(hs:RR h s rs)(hm:rs.length≤65536)(hw:∀r∈rs,r.length≤65536)(hc:cols≠0):
 ∃h' v,M fl fn.dF [.agg ⟨[.int .i64 p,.int .i64 m,.slice mod.a mod.l mod.c]⟩,.agg ⟨[.int .i64 cols,.slice s.a s.l s.c]⟩] h=some (v,h')∧ai h h'∧az5 h h' p m xs cols rs v:=by
 have o1:=OB.alloc h [.int .i64 p,.int .i64 m,.slice mod.a mod.l mod.c]
 have q1:=ai.alloc h [.int .i64 p,.int .i64 m,.slice mod.a mod.l mod.c]
 generalize eB:h.alloc [.int .i64 p,.int .i64 m,.slice mod.a mod.l mod.c]=h1 at o1 q1
 have o2:=OB.alloc h1 [.int .i64 cols,.slice s.a s.l s.c]
 have q2:=ai.alloc h1 [.int .i64 cols,.slice s.a s.l s.c]
 generalize Mg:h1.alloc [.int .i64 cols,.slice s.a s.l s.c]=h2 at o2 q2
 have o3:=OB.alloc h2 [.int .i64 0,.slice none 0 0]
 have q3:=ai.alloc h2 [.int .i64 0,.slice none 0 0]
 generalize hh3:h2.alloc [.int .i64 0,.slice none 0 0]=h3 at o3 q3
 have o4:=OB.alloc h3 [.int .i64 cols,.slice s.a s.l s.c]
 have q4:=ai.alloc h3 [.int .i64 cols,.slice s.a s.l s.c]
 generalize hh4:h3.alloc [.int .i64 cols,.slice s.a s.l s.c]=h4 at o4 q4
 have q14:=((q1.trans q2).trans q3).trans q4
 have l1:=q1.1
 have l2:=q2.1
 have l3:=q3.1
 have l4:=q4.1
 have l3':=o3.1
 obtain⟨h5,q5,hO⟩:=Sd (fl:=fl) p m (bF.quiet q14) hb (by omega) o4 (hs.quiet q14) hm hw
 have go:∀{k r},dF M fl k p m mod cols s h=some r→M fl fn.dF [.agg ⟨[.int .i64 p,.int .i64 m,.slice mod.a mod.l mod.c]⟩,.agg ⟨[.int .i64 cols,.slice s.a s.l s.c]⟩] h=some r:=by
  intro k r he
  refine aX (k:=k) (by decide) B3 ?_
  rw[xH];exact he
 have k9:=(((o1.quiet q2).quiet q3))
 have KO:=(o2.quiet q3)
 have o3':=(o3.quiet q4).quiet q5
 have errw:∀(e:Int) (pt:OA),e≠0→M fl fn.c7 [.agg ⟨[.int .i64 p,.int .i64 m,.slice mod.a mod.l mod.c]⟩,.slice (some ⟨h3.next,0,none⟩) 1 1] h4=some (.tuple ⟨[.pointer pt,.int .i64 e]⟩,h5)→
  dF M fl 1 p m mod cols s h=some (.tuple ⟨[.agg ⟨[.int .i64 0,.slice none 0 0]⟩,.int .i64 e]⟩,h5.put h2.next (some [.int .i64 0,.slice none 0 0])):=by
  intro e pt he hop
  unfold dF aeA QY cU
  rw[eB]
  dsimp only
  rw[Mg,hh3,ab (k9.cell rfl),ab (k9.cell rfl),ah (s:=mod) (k9.cell rfl),ab (KO.cell rfl),ah (s:=s) (KO.cell rfl),hh4,ag hop]
  simp only[bj,aG,ch,fV,asInt,if_true]
  rw[if_pos (by simp[he]),o3'.w7 (by omega) rfl (by simp) rfl]
  have FT:OB (h5.put h2.next (some [.int .i64 0,.slice none 0 0])) h2.next [.int .i64 0,.slice none 0 0]:=o3'.put _
  rw[ab (FT.cell rfl),ah (s:=⟨none,0,0⟩) (FT.cell rfl)]
 have qe:ai h (h5.put h2.next (some [.int .i64 0,.slice none 0 0])):=(q14.trans q5).put (by omega) _
 rcases hO with⟨nf,e⟩|⟨D,gen,g,hF,gf,gb,e⟩
 ·exact⟨_,_,go (errw 1 none (by omega) e),qe,.jv nf rfl⟩
 ·by_cases c:dt D cols rs=0
  ·rw[if_pos c,c] at e
   obtain⟨c0,c1,c2,rows,er,wid⟩:=tW c
   have nY:=gf.O3
   have hs5:=hs.quiet (q14.trans q5)
   rw[er] at hs5 c2
   have hct:((cols.toNat:Nat):Int)=cols:=Int.toNat_of_nonneg c0
   have n5:=q5.1
   generalize hN:cols.toNat=N at wid hct
   obtain⟨h6,s1,pv,r1,r2,r3,r4⟩:=H0 (fl:=fl) (w:=N) nY gf hs5 (by omega) (by omega) (by omega) (by simp at c2;omega) wid
   rw[hct] at r1
   obtain⟨can,_⟩:=Fld.ey (F:=FD.aB nY) wid
   have hle:((FD.aB nY).aL rows N).1.length≤65536:=by
    have:=Fld.acH (F:=FD.aB nY) wid
    rw[←Fld.Qz wid] at this
    simp at c2;omega
   have TM:=((k9.quiet q4).quiet q5)
   have Mf:=(KO.quiet q4).quiet q5
   have o2c:OB h6 h1.next [.int .i64 (N:Int),.slice s.a s.l s.c]:=by rw[hct];exact Mf.quiet r2
   have n6:=r2.1
   obtain⟨h7,t7,ts7,k1,k2⟩:=asm (fl:=fl) (k:=max (N+1) (rows.length+((FD.aB nY).aL rows N).1.length+1)) nY (Ef M fl (max (N+1) (rows.length+((FD.aB nY).aL rows N).1.length+1)) (fun y4 y5 q=>aE .i64 q y4.block y4.off fun n=>bM q y4.block (y4.off+1) fun s=>some (Value.tuple ⟨[.agg ⟨[vi n,vs s]⟩,vi y5]⟩,q))) (h0:=h6) (gf.quiet r2) r3.rr r4.si can hle (by omega) o2c (by omega) (by omega) ⟨h2.next,0,none⟩ N 0 (max (N+1) (rows.length+((FD.aB nY).aL rows N).1.length+1)) ⟨none,0,0⟩ [] h6 (by omega) (by omega) (by simpa [Fld.IJ] using GL.nil (ai.refl h6))
   have q7:=k2.q
   have n7:=q7.1
   have rr7:RR h7 t7 (((FD.aB nY).BB N ((FD.aB nY).aL rows N).1 ((FD.aB nY).aL rows N).2).map vl):=(k2.rrp (fun _ _=>trivial)).rr
   obtain⟨h8,s2,pv2,u1,u2,u3,u4⟩:=H0 (fl:=fl) (w:=N) nY ((gf.quiet r2).quiet q7) rr7 (by omega) (by omega) (by omega) (by have:=Fld.Uf (F:=FD.aB nY) (w:=N) (R:=((FD.aB nY).aL rows N).1) (ps:=((FD.aB nY).aL rows N).2) N;unfold Fld.BB;unfold Fld.IJ at this;omega) Fld.gN
   rw[hct] at u1 k1
   have anw:=((o3'.quiet r2).quiet q7).quiet u2
   have FT:OB (h8.put h2.next (some [.int .i64 cols,.slice s2.a s2.l s2.c])) h2.next [.int .i64 cols,.slice s2.a s2.l s2.c]:=anw.put _
   have n8:=u2.1
   have q8:=(((q14.trans q5).trans r2).trans q7).trans u2
   refine⟨h8.put h2.next (some [.int .i64 cols,.slice s2.a s2.l s2.c]),_,go (k:=max (N+1) (rows.length+((FD.aB nY).aL rows N).1.length+1)) ?_,q8.put (by omega) _,.ok D gen hF nY rows er (by rw[hN];exact wid) c s2 ?_ rfl⟩
   ·unfold dF aeA QY cU
    rw[eB]
    dsimp only
    rw[Mg,hh3,ab (k9.cell rfl),ab (k9.cell rfl),ah (s:=mod) (k9.cell rfl),ab (KO.cell rfl),ah (s:=s) (KO.cell rfl),hh4,ag e]
    simp only[bj,aG,ch,fV,asInt,if_true]
    rw[if_neg (by simp),ah (s:=s) (Mf.cell rfl),ab (Mf.cell rfl),ag r1]
    simp only[bj,aG,ch,bB]
    rw[ab ((Mf.quiet r2).cell rfl)]
    unfold VI
    refine Eq.trans k1 ?_
    unfold Ef
    rw[ab (((Mf.quiet r2).quiet q7).cell rfl),ag u1]
    simp only[bj,aG,ch,bB]
    rw[ab ((((Mf.quiet r2).quiet q7).quiet u2).cell rfl),anw.w7 (xs:=[.int .i64 cols,.slice s2.a s2.l s2.c]) (by omega) rfl (by simp) rfl,ab (FT.cell rfl),ah (s:=s2) (FT.cell rfl)]
   ·rw[hN]
    exact(u3.AA (iL.put (o:=0) (t:=none) _) (by omega)).mono (by omega)
  ·rw[if_neg c] at e
   exact⟨_,_,go (errw _ none c e),qe,.bad D gen hF gf.O3 c rfl⟩
end
end Go.Abs.P
end
section
namespace Go.Abs.P
open Go.Abs Go.Fld
section
variable{fl:Nat}{h:AH}
theorem abm{s:Sl}{xs:List Int}(hs:SI h s xs)(hr:xs.length≤65536):
 ∃s' h',M fl fn.dL [.slice s.a s.l s.c] h=some (.slice s'.a s'.l s'.c,h')∧SI h' s' xs∧ai h h'∧∀a,s'.a=some a→h.next≤a.block:=by
 by_cases fA:xs=[]
 ·subst fA
  have hl:s.l=0:=hs.len
  by_cases hn:s.a.isNone=true
  ·refine⟨⟨none,0,0⟩,h,aX (k:=1) (by decide) pG ?_,SI.nil _,ai.refl h,fun a ha=>by cases ha⟩
   rw[lM]
   unfold dL ZK
   rw[if_pos hn]
  ·refine⟨⟨some ⟨h.next,0,none⟩,0,0⟩,h.alloc [],aX (k:=1) (by decide) pG ?_,⟨rfl,fun i hi=>by cases hi⟩,ai.alloc ..,fun a ha=>by cases ha;exact Nat.le_refl _⟩
   rw[lM]
   unfold dL ZK cU
   rw[if_neg hn]
   dsimp only
   unfold fW
   rw[if_pos hl]
 ·obtain⟨s',h',a,b,c⟩:=HZ (fl:=fl) hs fA hr
  exact⟨s',h',a,b.si,c,b.ge⟩
theorem am0{mod:Sl}{xs:List Int}(p m:Int)(bF:SI h mod xs)(hb:xs.length≤65536)(bN:fl≤h.next):
 ∃cN h',M fl fn.yT [.agg ⟨[.int .i64 p,.int .i64 m,.slice mod.a mod.l mod.c]⟩] h=some (.agg ⟨[.int .i64 p,.int .i64 m,.slice cN.a cN.l cN.c]⟩,h')∧SI h' cN xs∧ai h h'∧∀a,cN.a=some a→h.next≤a.block:=by
 have o1:=OB.alloc h [.int .i64 p,.int .i64 m,.slice mod.a mod.l mod.c]
 have q1:=ai.alloc h [.int .i64 p,.int .i64 m,.slice mod.a mod.l mod.c]
 generalize eB:h.alloc [.int .i64 p,.int .i64 m,.slice mod.a mod.l mod.c]=h1 at o1 q1
 have o2:=OB.alloc h1 [.int .i64 0,.int .i64 0,.slice none 0 0]
 have q2:=ai.alloc h1 [.int .i64 0,.int .i64 0,.slice none 0 0]
 generalize Mg:h1.alloc [.int .i64 0,.int .i64 0,.slice none 0 0]=h2 at o2 q2
 have l1:=q1.1
 have l2:=o1.1
 have l3:=o2.1
 have l4:=q2.1
 obtain⟨cN,h3,c1,c2,c3,c4⟩:=abm (fl:=fl) (bF.quiet (q1.trans q2)) hb
 have k9:=(o1.quiet q2).quiet c3
 have KO:=o2.quiet c3
 have o1p:OB (h3.put h.next (some [.int .i64 p,.int .i64 m,.slice cN.a cN.l cN.c])) h.next [.int .i64 p,.int .i64 m,.slice cN.a cN.l cN.c]:=k9.put _
 have o2p:OB (h3.put h.next (some [.int .i64 p,.int .i64 m,.slice cN.a cN.l cN.c])) h1.next [.int .i64 0,.int .i64 0,.slice none 0 0]:=KO.Yz (by omega) _
 have o2q:OB ((h3.put h.next (some [.int .i64 p,.int .i64 m,.slice cN.a cN.l cN.c])).put h1.next (some [.int .i64 p,.int .i64 m,.slice cN.a cN.l cN.c])) h1.next [.int .i64 p,.int .i64 m,.slice cN.a cN.l cN.c]:=o2p.put _
 have qa:ai h ((h3.put h.next (some [.int .i64 p,.int .i64 m,.slice cN.a cN.l cN.c])).put h1.next (some [.int .i64 p,.int .i64 m,.slice cN.a cN.l cN.c])):=(((q1.trans q2).trans c3).put (Nat.le_refl _) _).put (by omega) _
 refine⟨cN,_,aX (k:=1) (by decide) R2 ?_,?_,qa,fun a ha=>by have:=c4 a ha;omega⟩
 ·rw[Jy]
  unfold yT ak6
  rw[bu eB,bu Mg,ah (s:=mod) ((o1.quiet q2).cell rfl),ag c1]
  simp only[bB]
  rw[k9.st (by omega) (by simp) rfl]
  dsimp only[List.set]
  rw[ab (o1p.cell rfl),ab (o1p.cell rfl),ah (s:=cN) (o1p.cell rfl),o2p.w7 (xs:=[.int .i64 p,.int .i64 m,.slice cN.a cN.l cN.c]) (by omega) rfl (by simp) rfl,ab (o2q.cell rfl),ab (o2q.cell rfl),ah (s:=cN) (o2q.cell rfl)]
 ·refine(c2.AA (iL.put (o:=0) (t:=none) _) (fun a b ha hb=>?_)).AA (iL.put (o:=0) (t:=none) _) (fun a b ha hb=>?_)
  ·cases hb;have:=c4 a ha;simp only[ne_eq];omega
  ·cases hb;have:=c4 a ha;simp only[ne_eq];omega
theorem asn{mod:Sl}{xs:List Int}(p m:Int)(bF:SI h mod xs)(hb:xs.length≤65536)(bN:fl≤h.next)(n:Int)(s:Sl):
 ∃cN h',M fl fn.D4 [.agg ⟨[.int .i64 p,.int .i64 m,.slice mod.a mod.l mod.c]⟩,.agg ⟨[.int .i64 n,.slice s.a s.l s.c]⟩,.int .i64 0] h=some (.tuple ⟨[ca p m cN n s,.int .i64 0]⟩,h')∧SI h' cN xs∧ai h h'∧∀a,cN.a=some a→h.next≤a.block:=by
 have o1:=OB.alloc h [.int .i64 p,.int .i64 m,.slice mod.a mod.l mod.c]
 have q1:=ai.alloc h [.int .i64 p,.int .i64 m,.slice mod.a mod.l mod.c]
 generalize eB:h.alloc [.int .i64 p,.int .i64 m,.slice mod.a mod.l mod.c]=h1 at o1 q1
 have o2:=OB.alloc h1 [.int .i64 n,.slice s.a s.l s.c]
 have q2:=ai.alloc h1 [.int .i64 n,.slice s.a s.l s.c]
 generalize Mg:h1.alloc [.int .i64 n,.slice s.a s.l s.c]=h2 at o2 q2
 have o3:=OB.alloc h2 [.int .i64 0,.int .i64 0,.slice none 0 0,.int .i64 0,.slice none 0 0]
 have q3:=ai.alloc h2 [.int .i64 0,.int .i64 0,.slice none 0 0,.int .i64 0,.slice none 0 0]
 generalize hh3:h2.alloc [.int .i64 0,.int .i64 0,.slice none 0 0,.int .i64 0,.slice none 0 0]=h3 at o3 q3
 have l1:=q1.1
 have l2:=q2.1
 have l3:=o3.1
 have q13:=(q1.trans q2).trans q3
 obtain⟨cN,h4,c1,c2,c3,c4⟩:=am0 (fl:=h3.next) p m (bF.quiet q13) hb (Nat.le_refl _)
 have k9:=(o1.quiet q2).quiet q3
 have KO:=(o2.quiet q3).quiet c3
 have o3':=o3.quiet c3
 have FT:OB (h4.put h2.next (some [.int .i64 p,.int .i64 m,.slice cN.a cN.l cN.c,.int .i64 n,.slice s.a s.l s.c])) h2.next [.int .i64 p,.int .i64 m,.slice cN.a cN.l cN.c,.int .i64 n,.slice s.a s.l s.c]:=o3'.put _
 refine⟨cN,h4.put h2.next (some [.int .i64 p,.int .i64 m,.slice cN.a cN.l cN.c,.int .i64 n,.slice s.a s.l s.c]),aX (k:=1) (by decide) Up ?_,?_,(q13.trans c3).put (by omega) _,fun a ha=>by have:=c4 a ha;omega⟩
 ·rw[MH]
  unfold D4 akB
  rw[bu eB,bu Mg,bu hh3,if_neg (by simp),ab (k9.cell rfl),ab (k9.cell rfl),ah (s:=mod) (k9.cell rfl),ag c1]
  simp only[asAgg,aG,ch,asInt,bB,if_true]
  rw[ab (KO.cell rfl),ah (s:=s) (KO.cell rfl),o3'.w7 (xs:=[.int .i64 p,.int .i64 m,.slice cN.a cN.l cN.c,.int .i64 n,.slice s.a s.l s.c]) (by omega) rfl (by simp) rfl,ab (FT.cell rfl),ab (FT.cell rfl),ah (s:=cN) (FT.cell rfl),ab (FT.cell rfl),ah (s:=s) (FT.cell rfl)]
  rfl
 ·refine c2.AA (iL.put (o:=0) (t:=none) _) (fun a b ha hb=>?_)
  cases hb;have:=c4 a ha;simp only[ne_eq];omega
end
inductive DuR (h':AH) (p m:Int) (xs:List Int) (n:Int) (rs:List (List Int)) (v:Value):Prop where
 |err (e:Int) (ce:PR p m xs n rs e) (ne:e≠0) (hv:v=.tuple ⟨[ca 0 0 ⟨none,0,0⟩ 0 ⟨none,0,0⟩,.int .i64 e]⟩)
 |ok (D:FD) (gen:Nat) (hg:D.aJ gen) (N:Nat) (rows:List (List (El D))) (ce:PR p m xs n rs 0) (ck:COK p m xs n rs D gen hg N rows) (cN s':Sl) (si:SI h' cN xs) (rr:RR h' s' (((FD.aB hg).null rows N).map vl)) (hv:v=.tuple ⟨[ca p m cN n s',.int .i64 0]⟩)
section
variable{fl:Nat}{h:AH}{mod:Sl}{xs:List Int}
theorem PN.len{p m:Int}{D:FD}(h:PN p m xs D):xs.length≤65536:=by
 have h1:D.m<2^D.m:=Nat.lt_two_pow_self
 have h2:2^D.m≤D.p^D.m:=Nat.pow_le_pow_left D.hp _
 have h3:=h.ok.q
 unfold FD.q at h3
 rw[h.hx,cz]
 unfold js
 split
 ·simp
 ·rw[D.hl];omega
theorem PR.z{p m n:Int}{rs:List (List Int)}{D:FD}(h:PR p m xs n rs 0)(hF:PN p m xs D):dt D n rs=0:=by
 cases h with
 |jv nf he=>omega
 |len f hn he=>omega
 |sp f hn he=>cases he with
  |jv nf he=>omega
  |bad D' gen NO hg ne he=>exact absurd he.symm ne
  |form D' gen NO hg rows er wid z ne he=>omega
  |ok D' gen NO hg rows er wid z eq he=>
   obtain rfl:D'=D:=cT NO hF
   exact z
theorem ais(p m:Int)(bF:SI h mod xs)(hb:xs.length≤mh)(bN:fl≤h.next){n:Int}{s:Sl}{rs:List (List Int)}(hs:RR h s rs)(hm:rs.length≤65536)(hw:∀r∈rs,r.length≤65536):
 ∃(h':AH) (v:Value),M fl fn.lp [ca p m mod n s] h=some (v,h')∧ai h h'∧DuR h' p m xs n rs v:=by
 have o1:=OB.alloc h (pN p m mod n s)
 have q1:=ai.alloc h (pN p m mod n s)
 generalize eB:h.alloc (pN p m mod n s)=h1 at o1 q1
 have o2:=OB.alloc h1 [.int .i64 0,.int .i64 0,.slice none 0 0,.int .i64 0,.slice none 0 0]
 have q2:=ai.alloc h1 [.int .i64 0,.int .i64 0,.slice none 0 0,.int .i64 0,.slice none 0 0]
 generalize Mg:h1.alloc [.int .i64 0,.int .i64 0,.slice none 0 0,.int .i64 0,.slice none 0 0]=h2 at o2 q2
 have l1:=q1.1
 have l2:=q2.1
 have l2':=o2.1
 have TK:=q1.trans q2
 have k9:=o1.quiet q2
 have go:∀{r},lp M fl 1 p m mod n s h=some r→M fl fn.lp [ca p m mod n s] h=some r:=by
  intro r he
  refine aX (k:=1) (by decide) aaK ?_
  unfold ca
  rw[SF];exact he
 obtain⟨h3,e,c1,c2,c3⟩:=NK (fl:=fl) p m (bF.quiet TK) hb (by omega) (n:=n) (hs.quiet TK) hm hw
 unfold ca at c1
 have o1c:=k9.quiet c2
 have o2c:=o2.quiet c2
 have n3:=c2.1
 by_cases z:e=0
 ·subst z
  obtain⟨D,gen,hg,N,rows,ck⟩:=PR.zero c3
  have en:=ck.en
  have n1:=ck.n1
  obtain⟨h4,g1,g2⟩:=aba (fl:=h3.next) (mod:=mod) p m n s (Nat.le_refl _)
  have n4:=g2.1
  have q4:=(TK.trans c2).trans g2
  obtain⟨h5,v5,k1,k2,k3⟩:=abl (fl:=h4.next) p m (bF.quiet q4) hb (Nat.le_refl _) (cols:=n) (hs.quiet q4) hm hw (by omega)
  have n5:=k2.1
  have q5:=q4.trans k2
  have fin:∀(s':Sl),v5=.tuple ⟨[.agg ⟨[.int .i64 n,.slice s'.a s'.l s'.c]⟩,.int .i64 0]⟩→RRf h4.next h5 s' (((FD.aB hg).null rows N).map vl)→∃(h':AH) (v:Value),M fl fn.lp [ca p m mod n s] h=some (v,h')∧ai h h'∧DuR h' p m xs n rs v:=by
   intro s' hv rr
   have o6:=OB.alloc h5 [.int .i64 0,.slice none 0 0]
   have q6:=ai.alloc h5 [.int .i64 0,.slice none 0 0]
   generalize hh6:h5.alloc [.int .i64 0,.slice none 0 0]=h6 at o6 q6
   have n6:=q6.1
   have o7:OB (h6.put h5.next (some [.int .i64 n,.slice s'.a s'.l s'.c])) h5.next [.int .i64 n,.slice s'.a s'.l s'.c]:=o6.put _
   have q7:ai h5 (h6.put h5.next (some [.int .i64 n,.slice s'.a s'.l s'.c])):=q6.put (Nat.le_refl _) _
   generalize hh7:h6.put h5.next (some [.int .i64 n,.slice s'.a s'.l s'.c])=h7 at o7 q7
   have n7:=q7.1
   obtain⟨cN,h8,u1,u2,u3,u4⟩:=asn (fl:=fl) p m (bF.quiet (q5.trans q7)) (PN.len ck.hF) (by omega) n s'
   have o1d:=((o1c.quiet g2).quiet k2).quiet q7
   have o2d:=(((o2c.quiet g2).quiet k2).quiet q7).quiet u3
   have n8:=u3.1
   have l8:=o2d.1
   have o9:OB (h8.put h1.next (some (pN p m cN n s'))) h1.next (pN p m cN n s'):=o2d.put _
   have rr8:=(rr.quiet q7).quiet u3
   refine⟨h8.put h1.next (some (pN p m cN n s')),_,go ?_,((q5.trans q7).trans u3).put (by omega) _,.ok D gen hg N rows c3 ck cN s' ?_ ?_ rfl⟩
   ·unfold lp aen
    rw[bu eB,bu Mg,ab (k9.cell rfl),ab (k9.cell rfl),ah (s:=mod) (k9.cell rfl),ab (k9.cell rfl),ah (s:=s) (k9.cell rfl),ag c1]
    simp only[asInt,if_true]
    rw[if_neg (by simp),ab (o1c.cell rfl),ab (o1c.cell rfl),ah (s:=mod) (o1c.cell rfl),ab (o1c.cell rfl),ab (o1c.cell rfl),ah (s:=mod) (o1c.cell rfl),ab (o1c.cell rfl),ah (s:=s) (o1c.cell rfl),ag g1]
    simp only[asAgg,aG,ch,asInt,bB,if_true]
    rw[hv] at k1
    rw[ag k1]
    simp only[bj,asAgg,aG,ch,asInt,bB,if_true]
    rw[bu hh6,o6.w7 (xs:=[.int .i64 n,.slice s'.a s'.l s'.c]) (by omega) rfl (by simp) rfl,hh7,ab (o1d.cell rfl),ab (o1d.cell rfl),ah (s:=mod) (o1d.cell rfl),ab (o7.cell rfl),ah (s:=s') (o7.cell rfl),ag u1]
    unfold ca
    simp only[bj,asAgg,aG,ch,asInt,bB,if_true]
    rw[o2d.w7 (xs:=pN p m cN n s') (by omega) rfl (by simp[pN]) rfl,ab (o9.cell rfl),ab (o9.cell rfl),ah (s:=cN) (o9.cell rfl),ab (o9.cell rfl),ah (s:=s') (o9.cell rfl)]
   ·refine u2.AA (iL.put (o:=0) (t:=none) _) (fun a b ha hb=>?_)
    cases hb;have:=u4 a ha;simp only[ne_eq];omega
   ·exact(rr8.AA (iL.put (o:=0) (t:=none) _) (by omega)).rr
  cases k3 with
  |jv nf e=>exact absurd ⟨D,gen,ck.hF,hg⟩ nf
  |bad D' Ai NO hg' ne e=>
   obtain rfl:D'=D:=cT NO ck.hF
   exact absurd (PR.z c3 ck.hF) ne
  |ok D' Ai NO hg' kZ er' avW z' s' rr' e=>
   obtain rfl:D'=D:=cT NO ck.hF
   obtain rfl:kZ=rows:=tX (er'.symm.trans ck.er)
   have hN:n.toNat=N:=by omega
   rw[hN] at rr'
   exact fin s' e rr'
 ·have o2p:OB (h3.put h1.next (some (pN 0 0 ⟨none,0,0⟩ 0 ⟨none,0,0⟩))) h1.next (pN 0 0 ⟨none,0,0⟩ 0 ⟨none,0,0⟩):=o2c.put _
  refine⟨_,_,go ?_,(TK.trans c2).put (b:=h1.next) (by omega) (some (pN 0 0 ⟨none,0,0⟩ 0 ⟨none,0,0⟩)),.err e c3 z rfl⟩
  unfold lp aen
  rw[bu eB,bu Mg,ab (k9.cell rfl),ab (k9.cell rfl),ah (s:=mod) (k9.cell rfl),ab (k9.cell rfl),ah (s:=s) (k9.cell rfl),ag c1]
  simp only[asInt,if_true]
  rw[if_pos (by simpa using z),o2c.w7 (xs:=pN 0 0 ⟨none,0,0⟩ 0 ⟨none,0,0⟩) (by omega) rfl (by simp[pN]) rfl,ab (o2p.cell rfl),ab (o2p.cell rfl),ah (s:=⟨none,0,0⟩) (o2p.cell rfl),ab (o2p.cell rfl),ah (s:=⟨none,0,0⟩) (o2p.cell rfl)]
  rfl
end
end Go.Abs.P
end
section
namespace Go.Abs.P
open Go.Abs Go.Fld
structure Ah(P:List Nat)(N k:Nat):Prop where
 len:P.length=N+1
 zero:P.getD 0 0=0
 top:P.getD N 0=k
 up:∀i,i<N→P.getD i 0≤P.getD (i+1) 0∧P.getD (i+1) 0≤P.getD i 0+1
theorem Ah.mono{P:List Nat}{N k:Nat}(c:Ah P N k){i:Nat}:∀j,i+j≤N→P.getD i 0≤P.getD (i+j) 0
 |0,_=>Nat.le_refl _
 |j+1,h=>Nat.le_trans (c.mono j (by omega)) (c.up (i+j) (by omega)).1
theorem Ah.le{P:List Nat}{N k:Nat}(c:Ah P N k){i j:Nat}(h:i≤j)(hj:j≤N):P.getD i 0≤P.getD j 0:=by
 have:=c.mono (i:=i) (j-i) (by omega)
 rwa[show i+(j-i)=j by omega] at this
theorem Ah.idx{P:List Nat}{N k:Nat}(c:Ah P N k){r:Nat}(h1:1≤r)(h2:r≤k):∃i,1≤i∧i≤N∧abi P r=(i:Int)∧P.getD i 0=r∧P.getD (i-1) 0+1=r:=by
 have gd:∀i (hi:i<P.length),P.getD i 0=P[i]:=fun i hi=>by rw[List.getD_eq_getElem?_getD,List.getElem?_eq_getElem hi];rfl
 have hl:=c.len
 have ht:=c.top
 have hz:=c.zero
 have hlt:P.findIdx (fun d=>decide (r≤d))<P.length:=by
  refine List.findIdx_lt_length_of_exists ⟨P[N]'(by omega),List.getElem_mem _,?_⟩
  rw[←gd N (by omega),ht];simpa using h2
 have e1:=List.findIdx_getElem (w:=hlt)
 simp only[decide_eq_true_eq] at e1
 rw[←gd _ hlt] at e1
 have e2:∀j,j<P.findIdx (fun d=>decide (r≤d))→P.getD j 0<r:=fun j hj=>by
  have:=List.not_of_lt_findIdx hj
  simp only[decide_eq_false_iff_not,Nat.not_le] at this
  rw[gd j (by omega)]
  simpa using this
 have fA:P.findIdx (fun d=>decide (r≤d))≠0:=fun e=>by rw[e] at e1;omega
 refine⟨P.findIdx (fun d=>decide (r≤d)),by omega,by omega,by unfold abi;rw[if_pos hlt],?_⟩
 have e3:=e2 (P.findIdx (fun d=>decide (r≤d))-1) (by omega)
 have e4:=(c.up (P.findIdx (fun d=>decide (r≤d))-1) (by omega)).2
 rw[show P.findIdx (fun d=>decide (r≤d))-1+1=P.findIdx (fun d=>decide (r≤d)) by omega] at e4
 omega
theorem Ah.mem{P:List Nat}{N k:Nat}(c:Ah P N k)(y:Int):y∈Fp P k↔∃i,1≤i∧i≤N∧y=(i:Int)∧P.getD (i-1) 0<P.getD i 0:=by
 unfold Fp
 simp only[List.mem_map,List.mem_range]
 constructor
 ·rintro⟨r,hr,rfl⟩
  obtain⟨i,a,b,e,f,g⟩:=c.idx (r:=r+1) (by omega) (by omega)
  exact⟨i,a,b,e,by omega⟩
 ·rintro⟨i,a,b,rfl,h⟩
  have h1:=c.le (i:=i) (j:=N) b (Nat.le_refl _)
  rw[c.top] at h1
  obtain⟨j,a',b',e,f,g⟩:=c.idx (r:=P.getD i 0) (by omega) h1
  refine⟨P.getD i 0-1,by omega,?_⟩
  rw[show P.getD i 0-1+1=P.getD i 0 by omega,e]
  have:j=i:=by
   rcases Nat.lt_trichotomy j i with hh|hh|hh
   ·have:=c.le (i:=j) (j:=i-1) (by omega) (by omega);omega
   ·exact hh
   ·have:=c.le (i:=i) (j:=j-1) (by omega) (by omega);omega
  rw[this]
theorem Ah.asc{P:List Nat}{N k:Nat}(c:Ah P N k):(Fp P k).Pairwise (·<·):=by
 unfold Fp
 rw[List.pairwise_map]
 refine List.Pairwise.imp_of_mem (fun {a b} ha hb hab=>?_) List.pairwise_lt_range
 obtain⟨i,a1,b1,e1,f1,g1⟩:=c.idx (r:=a+1) (by omega) (by have:=List.mem_range.1 ha;omega)
 obtain⟨j,a2,b2,e2,f2,g2⟩:=c.idx (r:=b+1) (by omega) (by have:=List.mem_range.1 hb;omega)
 rw[e1,e2]
 have:i<j:=by
  apply Classical.byContradiction
  intro hn
  have:=c.le (i:=j) (j:=i) (by omega) b1
  omega
 omega
theorem am1:∀{a b:List Int},a.Pairwise (·<·)→b.Pairwise (·<·)→(∀x,x∈a↔x∈b)→a=b
 |[],[],_,_,_=>rfl
 |[],y::b,_,_,h=>by have:=(h y).2 (List.mem_cons_self ..);cases this
 |x::a,[],_,_,h=>by have:=(h x).1 (List.mem_cons_self ..);cases this
 |x::a,y::b,ha,hb,h=>by
  obtain⟨a1,a2⟩:=List.pairwise_cons.1 ha
  obtain⟨b1,b2⟩:=List.pairwise_cons.1 hb
  have hxy:x=y:=by
   rcases List.mem_cons.1 ((h x).1 (List.mem_cons_self ..)) with e|e
   ·exact e
   ·rcases List.mem_cons.1 ((h y).2 (List.mem_cons_self ..)) with e'|e'
    ·exact e'.symm
    ·have:=b1 x e;have:=a1 y e';omega
  subst hxy
  congr 1
  refine am1 a2 b2 fun z=>⟨fun hz=>?_,fun hz=>?_⟩
  ·rcases List.mem_cons.1 ((h z).1 (List.mem_cons_of_mem _ hz)) with e|e
   ·have:=a1 z hz;omega
   ·exact e
  ·rcases List.mem_cons.1 ((h z).2 (List.mem_cons_of_mem _ hz)) with e|e
   ·have:=b1 z hz;omega
   ·exact e
theorem am2{P Q:List Nat}{N k k':Nat}(c:Ah P N k)(c':Ah Q N k')(h:∀i,i≤N→Q.getD i 0+k=i+P.getD (N-i) 0)(h1:1≤N)(h64:N≤64):uS (Fp P k) (N:Int)=some (Fp Q k'):=by
 unfold uS
 rw[if_neg (by omega),if_pos]
 ·congr 1
  refine am1 (KB (by simp)) c'.asc fun y=>?_
  rw[Bv (by simp),c'.mem]
  constructor
  ·rintro⟨a,b,d⟩
   have hN:((N:Int).toNat:Nat)=N:=by simp
   rw[hN] at a b d
   refine⟨y.toNat,by omega,by omega,by omega,?_⟩
   have e1:=h y.toNat (by omega)
   have e2:=h (y.toNat-1) (by omega)
   have e3:=(c.up (N-y.toNat) (by omega))
   rw[show N-(y.toNat-1)=N-y.toNat+1 by omega] at e2
   have e4:¬P.getD (N-y.toNat) 0<P.getD (N-y.toNat+1) 0:=fun hlt=>d ((c.mem _).2 ⟨N-y.toNat+1,by omega,by omega,by omega,by simpa using hlt⟩)
   omega
  ·rintro⟨i,a,b,rfl,d⟩
   have hN:((N:Int).toNat:Nat)=N:=by simp
   rw[hN]
   refine⟨by omega,by omega,fun hm=>?_⟩
   obtain⟨j,j1,j2,j3,j4⟩:=(c.mem _).1 hm
   have e1:=h i b
   have e2:=h (i-1) (by omega)
   rw[show N-(i-1)=j by omega] at e2
   rw[show N-i=j-1 by omega] at e1
   have:=(c.up (j-1) (by omega)).2
   rw[show j-1+1=j by omega] at this
   omega
 ·refine aaS.2 ⟨fun x hx=>?_,fun q hq=>(by cases hq),c.asc⟩
  obtain⟨i,a,b,rfl,_⟩:=(c.mem x).1 hx
  omega
theorem Uy:∀{a b:List Nat},a.Nodup→b.Nodup→(∀x,x∈a↔x∈b)→a.length=b.length
 |[],b,_,_,h=>by
  cases b with
  |nil=>rfl
  |cons y b=>have:=(h y).2 (List.mem_cons_self ..);cases this
 |x::a,b,ha,hb,h=>by
  obtain⟨a1,a2⟩:=List.nodup_cons.1 ha
  have hx:x∈b:=(h x).1 (List.mem_cons_self ..)
  have ih:=Uy (a:=a) (b:=b.erase x) a2 (hb.erase x) fun z=>by
   rw[hb.mem_erase_iff]
   constructor
   ·exact fun hz=>⟨fun e=>a1 (by rw[←e];exact hz),(h z).1 (List.mem_cons_of_mem _ hz)⟩
   ·rintro⟨h1,h2⟩
    rcases List.mem_cons.1 ((h z).2 h2) with e|e
    ·exact absurd e h1
    ·exact e
  rw[List.length_cons,ih,List.length_erase_of_mem hx]
  have:=List.length_pos_of_mem hx
  omega
theorem rZ{l:List Nat}(h:l.Pairwise (·<·)):l.Nodup:=h.imp fun h=>Nat.ne_of_lt h
theorem lU{N:Nat}{l:List Nat}{x:Nat}:x∈uu N l↔x<N∧x∉l:=by unfold uu;simp
theorem XG(N:Nat)(l:List Nat):(uu N l).Pairwise (·<·):=List.Pairwise.filter _ List.pairwise_lt_range
theorem KH{N:Nat}{l:List Nat}(h1:l.Nodup)(h2:∀x∈l,x<N):(uu N l).length+l.length=N:=by
 have e:=Fld.auv (fun i=>decide (i∉l)) (List.range N)
 have e2:((List.range N).filter fun c=>!decide (c∉l)).length=l.length:=Uy (List.Pairwise.filter _ List.nodup_range) h1 fun x=>by
  simp only[List.mem_filter,List.mem_range]
  constructor
  ·rintro⟨_,h⟩;simpa using h
  ·exact fun h=>⟨h2 x h,by simpa using h⟩
 rw[List.length_range,e2] at e
 exact e
theorem jX{N i:Nat}{l:List Nat}:l∈mH N i 0↔l.length=i∧l.Pairwise (·<·)∧∀x∈l,x<N:=by
 rw[L9]
 simp
theorem Sg{N i:Nat}{l:List Nat}(h:l∈mH N i 0):uu N l∈mH N (N-i) 0:=by
 obtain⟨a,b,c⟩:=jX.1 h
 have:=KH (rZ b) c
 exact jX.2 ⟨by omega,XG N l,fun x hx=>(lU.1 hx).1⟩
theorem ait{N i:Nat}(hi:i≤N):∃l,l∈mH N i 0:=⟨List.range i,jX.2 ⟨by simp,List.pairwise_lt_range,fun x hx=>by have:=List.mem_range.1 hx;omega⟩⟩
section
variable{D:FD}{gen:Nat}{hg:D.aJ gen}{N:Nat}{rows:List (List (El D))}{ps:List Nat}
def PP(hg:D.aJ gen)(N:Nat)(rows:List (List (El D))):List Nat:=fF N (Ag hg N rows) (2^N)
theorem abn{i:Nat}(hi:i≤N){l:List Nat}(hl:l∈mH N i 0):pM hg N rows l≤(PP hg N rows).getD i 0:=by
 unfold PP;rw[abk hg N rows hi];exact(Ma hg N rows _ 0).2.1 l hl
theorem Uz{i:Nat}(hi:i≤N):∃l,l∈mH N i 0∧(PP hg N rows).getD i 0=pM hg N rows l:=by
 obtain⟨l0,h0⟩:=ait (N:=N) hi
 have h1:=abn (hg:=hg) (rows:=rows) hi h0
 have h2:(PP hg N rows).getD i 0=maxD hg N rows (mH N i 0) 0:=abk hg N rows hi
 rcases(Ma hg N rows (mH N i 0) 0).2.2 with h|⟨l,a,b⟩
 ·exact⟨l0,h0,by omega⟩
 ·exact⟨l,a,by rw[h2,b]⟩
theorem abo(can:(FD.aB hg).Can N rows ps):Ah (PP hg N rows) N rows.length:=by
 have hi:=can.ind
 refine⟨by unfold PP;simp,?_,?_,fun i hiN=>?_⟩
 ·obtain⟨l,a,b⟩:=Uz (hg:=hg) (rows:=rows) (Nat.zero_le N)
  rw[b]
  have hl:l=[]:=List.length_eq_zero_iff.1 (jX.1 a).1
  subst hl
  unfold pM
  have hf:=Fld.U7.fold (uu N []) hi
  rw[hf.2]
  refine Fld.QA hf.1 fun v hv c=>?_
  obtain⟨v1,v2⟩:=(Fld.Az _ hi.1 v).1 hv
  by_cases hc:c<N
  ·exact v2 c (lU.2 ⟨hc,by simp⟩)
  ·rw[List.getD_eq_getElem?_getD,List.getElem?_eq_none (by rw[Fld.Sp.len _ hi.1 v1];omega)];rfl
 ·obtain⟨l,a,b⟩:=Uz (hg:=hg) (rows:=rows) (Nat.le_refl N)
  rw[b]
  obtain⟨a1,a2,a3⟩:=jX.1 a
  have:=KH (rZ a2) a3
  have ho:uu N l=[]:=List.length_eq_zero_iff.1 (by omega)
  unfold pM
  rw[ho];rfl
 ·constructor
  ·obtain⟨l,a,b⟩:=Uz (hg:=hg) (rows:=rows) (show i≤N by omega)
   obtain⟨a1,a2,a3⟩:=jX.1 a
   have hlen:=KH (rZ a2) a3
   obtain⟨o,os,ho⟩:∃o os,uu N l=o::os:=by
    cases h:uu N l with
    |nil=>rw[h] at hlen;simp at hlen;omega
    |cons o os=>exact⟨o,os,rfl⟩
   have UK:=rZ (XG N l)
   rw[ho] at UK
   obtain⟨n1,n2⟩:=List.nodup_cons.1 UK
   have hom:o∈uu N l:=by rw[ho];exact List.mem_cons_self ..
   have h2:uu N os∈mH N (i+1) 0:=by
    have hos:os∈mH N (N-(i+1)) 0:=by
     have hp:=XG N l
     rw[ho] at hp
     refine jX.2 ⟨?_,(List.pairwise_cons.1 hp).2,fun x hx=>(lU.1 (by rw[ho];exact List.mem_cons_of_mem _ hx:x∈uu N l)).1⟩
     rw[ho,List.length_cons] at hlen;omega
    have:=Sg hos
    rwa[show N-(N-(i+1))=i+1 by omega] at this
   have h3:=abn (hg:=hg) (rows:=rows) (show i+1≤N by omega) h2
   have h4:pM hg N rows (uu N os)=(os.foldl (FD.aB hg).wo rows).length:=by
    unfold pM
    refine Fld.yR hi fun x=>?_
    rw[lU,lU]
    constructor
    ·rintro⟨hx,h⟩;exact Classical.byContradiction fun hn=>h ⟨hx,hn⟩
    ·intro hx
     have:x∈uu N l:=by rw[ho];exact List.mem_cons_of_mem _ hx
     exact⟨(lU.1 this).1,fun h=>h.2 hx⟩
   have h5:pM hg N rows l=((os++[o]).foldl (FD.aB hg).wo rows).length:=by
    unfold pM
    refine Fld.yR hi fun x=>?_
    rw[ho];simp[or_comm]
   have h6:=(Fld.Ug (os:=os) (o:=o) hi).1
   omega
  ·obtain⟨l,a,b⟩:=Uz (hg:=hg) (rows:=rows) (show i+1≤N by omega)
   obtain⟨a1,a2,a3⟩:=jX.1 a
   cases l with
   |nil=>simp at a1
   |cons o os=>
    have UK:=rZ a2
    obtain⟨n1,n2⟩:=List.nodup_cons.1 UK
    have hos:os∈mH N i 0:=jX.2 ⟨by simpa using a1,(List.pairwise_cons.1 a2).2,fun x hx=>a3 x (List.mem_cons_of_mem _ hx)⟩
    have h3:=abn (hg:=hg) (rows:=rows) (show i≤N by omega) hos
    have h5:pM hg N rows os=((uu N (o::os)++[o]).foldl (FD.aB hg).wo rows).length:=by
     unfold pM
     refine Fld.yR hi fun x=>?_
     rw[lU,List.mem_append,lU]
     simp only[List.mem_cons,List.not_mem_nil,or_false]
     constructor
     ·rintro⟨hx,h⟩
      by_cases e:x=o
      ·exact .inr e
      ·exact .inl ⟨hx,fun hh=>hh.elim e h⟩
     ·rintro(⟨hx,h⟩|rfl)
      ·exact⟨hx,fun hh=>h (.inr hh)⟩
      ·exact⟨a3 x (List.mem_cons_self ..),n1⟩
    have h6:=(Fld.Ug (os:=uu N (o::os)) (o:=o) hi).2
    have h7:pM hg N rows (o::os)=((uu N (o::os)).foldl (FD.aB hg).wo rows).length:=rfl
    omega
theorem UA(can:(FD.aB hg).Can N rows ps)(l:List Nat):pM hg N ((FD.aB hg).null rows N) l+(uu N l).length+rows.length=N+pM hg N rows (uu N l):=by
 have h:=Fld.ajQ can (fun i=>decide (i∉l))
 have e:pM hg N rows (uu N l)=((Fld.pos (fun c=>!decide (c∉l)) N).foldl (FD.aB hg).wo rows).length:=by
  unfold pM
  refine Fld.yR can.ind fun x=>?_
  rw[lU,lU]
  unfold Fld.pos
  simp only[List.mem_filter,List.mem_range]
  constructor
  ·rintro⟨hx,h⟩
   refine⟨hx,?_⟩
   have:x∈l:=Classical.byContradiction fun hn=>h ⟨hx,hn⟩
   simpa using this
  ·rintro⟨hx,h⟩
   exact⟨hx,fun hh=>hh.2 (by simpa using h)⟩
 rw[e];exact h
theorem aso(can:(FD.aB hg).Can N rows ps){i:Nat}(hi:i≤N):(PP hg N ((FD.aB hg).null rows N)).getD i 0+rows.length=i+(PP hg N rows).getD (N-i) 0:=by
 refine Nat.le_antisymm ?_ ?_
 ·obtain⟨l,a,b⟩:=Uz (hg:=hg) (rows:=(FD.aB hg).null rows N) hi
  have h1:=UA can l
  have h2:=abn (hg:=hg) (rows:=rows) (show N-i≤N by omega) (Sg a)
  obtain⟨a1,a2,a3⟩:=jX.1 a
  have h3:=KH (rZ a2) a3
  omega
 ·obtain⟨l,a,b⟩:=Uz (hg:=hg) (rows:=rows) (show N-i≤N by omega)
  obtain⟨a1,a2,a3⟩:=jX.1 a
  have ho:=Sg a
  rw[show N-(N-i)=i by omega] at ho
  have h1:=UA can (uu N l)
  have h2:=abn (hg:=hg) (rows:=(FD.aB hg).null rows N) hi ho
  obtain⟨b1,b2,b3⟩:=jX.1 ho
  have h3:=KH (rZ b2) b3
  have h4:pM hg N rows (uu N (uu N l))=pM hg N rows l:=by
   unfold pM
   refine Fld.yR can.ind fun x=>?_
   rw[lU,lU,lU]
   constructor
   ·rintro⟨hx,h⟩;exact⟨hx,fun hl=>h ⟨hx,fun hh=>hh.2 hl⟩⟩
   ·rintro⟨hx,h⟩;exact⟨hx,fun hh=>hh.2 ⟨hx,h⟩⟩
  omega
theorem wei(can:(FD.aB hg).Can N rows ps)(h1:1≤N)(h64:N≤64):uS (Sf D gen hg N rows) (N:Int)=some (Sf D gen hg N ((FD.aB hg).null rows N))∧rows.length+((FD.aB hg).null rows N).length=N:=by
 obtain⟨qs,hq⟩:=Fld.Ax (F:=FD.aB hg) (w:=N) rows
 refine⟨am2 (abo can) (abo hq) (fun i hi=>aso can hi) h1 h64,?_⟩
 have a:=Fld.IK (F:=FD.aB hg) can.wid
 have b:=hq.ind.2
 have c:=can.ind.2
 omega
end
end Go.Abs.P
end
section
namespace Go.Abs.P
open Go.Abs Go.Fld
theorem aiu{D:FD}{N:Nat}{rows:List (List (El D))}(hN:N≤256)(hl:rows.length≤256)(hw:Fld.eG N rows):dt D (N:Int) (rows.map vl)=0:=by
 unfold dt
 rw[if_neg (by simp;omega),if_pos,if_pos]
 ·rw[List.all_eq_true]
  intro r hr
  obtain⟨r',_,rfl⟩:=List.mem_map.1 hr
  rw[List.all_eq_true]
  intro x hx
  obtain⟨y,_,rfl⟩:=List.mem_map.1 hx
  exact auO y
 ·rw[List.all_eq_true]
  intro r hr
  obtain⟨r',hr',rfl⟩:=List.mem_map.1 hr
  simp[hw _ hr']
theorem PR.auU{p m:Int}{xs:List Int}{D:FD}{gen:Nat}(hg:D.aJ gen)(hF:PN p m xs D){N:Nat}(h1:1≤N)(h64:N≤64){rows:List (List (El D))}{ps:List Nat}(can:(FD.aB hg).Can N rows ps):PR p m xs (N:Int) (rows.map vl) 0:=by
 refine .sp ⟨D,gen,hF,hg⟩ (by omega) ?_
 have hl:rows.length≤N:=by
  have:=Fld.IK (F:=FD.aB hg) can.wid
  have:=can.ind.2
  omega
 refine .ok D gen hF hg rows rfl (by simpa using can.wid) (aiu (by omega) (by omega) can.wid) ?_ rfl
 have:((N:Int).toNat)=N:=by simp
 rw[this,can.fix]
theorem Sh{h:AH}{mod s:Sl}{xs:List Int}{rs:List (List Int)}(p m n:Int)(bF:SI h mod xs)(hb:xs.length≤mh)(hs:RR h s rs):
 ∃h',M h.next fn.fG [ca p m mod n s] h=some (.bool true,h')∧ai h h':=by
 have o1:=OB.alloc h (pN p m mod n s)
 have q1:=ai.alloc h (pN p m mod n s)
 generalize eB:h.alloc (pN p m mod n s)=h1 at o1 q1
 have l1:=q1.1
 have go:∀{r},QF M h.next 1 (fun y2 q=>some (Value.bool y2,q)) p m mod n s h=some r→M h.next fn.fG [ca p m mod n s] h=some r:=by
  intro r he
  refine aX (k:=1) (by decide) yw ?_
  unfold ca
  rw[vV];exact he
 obtain⟨h2,b,c1,c2,c3⟩:=adt (fl:=h.next) (mod:=mod) p m n (bF.quiet q1) hb l1 (hs.quiet q1)
 have q2:=q1.trans c2
 have o2:=o1.quiet c2
 have l2:=q2.1
 unfold ca at c1
 cases b with
 |false=>
  refine⟨h2,go ?_,q2⟩
  unfold QF
  rw[bu eB,ag (Bu _ _)]
  simp only[asBool]
  rw[if_pos (by decide),ab (o1.cell rfl),ab (o1.cell rfl),ah (s:=mod) (o1.cell rfl),ab (o1.cell rfl),ah (s:=s) (o1.cell rfl),ag c1]
  simp only
  rw[if_neg (by decide),ag (Bu _ _)]
 |true=>
  obtain⟨d1,d2⟩:=c3 rfl
  have hm:rs.length≤65536:=by omega
  have hw:∀r∈rs,r.length≤65536:=fun r hr=>by have:=d2 r hr;omega
  obtain⟨h3,e,e1,e2,e3⟩:=KD (fl:=h.next) p m (bF.quiet q2) hb (by omega) (n:=n) (hs.quiet q2) hm hw
  have q3:=q2.trans e2
  have o3:=o2.quiet e2
  have l3:=q3.1
  unfold ca at e1
  by_cases z:e=0
  ·subst z
   by_cases z9:n>9
   ·refine⟨h3,go ?_,q3⟩
    unfold QF
    rw[bu eB,ag (Bu _ _)]
    simp only[asBool]
    rw[if_pos (by decide),ab (o1.cell rfl),ab (o1.cell rfl),ah (s:=mod) (o1.cell rfl),ab (o1.cell rfl),ah (s:=s) (o1.cell rfl),ag c1]
    simp only
    rw[if_pos (by decide),ab (o2.cell rfl),ab (o2.cell rfl),ah (s:=mod) (o2.cell rfl),ab (o2.cell rfl),ah (s:=s) (o2.cell rfl),ag e1]
    simp only[asInt,if_true]
    rw[if_pos (by decide),ab (n:=n) (o3.cell rfl),if_pos (by simpa using z9),ag (Bu _ _)]
   ·obtain⟨h4,v4,f1,f2,f3⟩:=ais (fl:=h.next) p m (bF.quiet q3) hb (by omega) (n:=n) (hs.quiet q3) hm hw
    have q4:=q3.trans f2
    have o4:=o3.quiet f2
    have l4:=q4.1
    cases f3 with
    |err e ce ne hv=>exact absurd (ce.unique e3) ne
    |ok D gen hg N rows ce ck cN s' si rr hv=>
     subst hv
     have en:=ck.en
     have n1:=ck.n1
     obtain⟨au4,_⟩:=Fld.ey (F:=FD.aB hg) ck.wid
     rw[ck.eq] at au4
     generalize (Fld.aL (FD.aB hg) rows N).2=ps at au4
     have can:=au4
     obtain⟨w1,w2⟩:=wei can n1 ck.n64
     obtain⟨qs,hq⟩:=Fld.Ax (F:=FD.aB hg) (w:=N) rows
     have o5:=OB.alloc h4 [.int .i64 0,.int .i64 0,.slice none 0 0,.int .i64 0,.slice none 0 0]
     have q5:=ai.alloc h4 [.int .i64 0,.int .i64 0,.slice none 0 0,.int .i64 0,.slice none 0 0]
     generalize hh5:h4.alloc [.int .i64 0,.int .i64 0,.slice none 0 0,.int .i64 0,.slice none 0 0]=h5 at o5 q5
     have o6:OB (h5.put h4.next (some (pN p m cN n s'))) h4.next (pN p m cN n s'):=o5.put _
     have q6:ai h4 (h5.put h4.next (some (pN p m cN n s'))):=q5.put (Nat.le_refl _) _
     generalize hh6:h5.put h4.next (some (pN p m cN n s'))=h6 at o6 q6
     have q46:=q4.trans q6
     have l6:=q46.1
     have o1w:=o4.quiet q6
     obtain⟨h7,v7,g1,g2,g3⟩:=KE (fl:=h.next) p m (bF.quiet q46) hb (by omega) (n:=n) (hs.quiet q46) hm hw
     have q7:=q46.trans g2
     have l7:=q7.1
     have o1x:=o1w.quiet g2
     have o6x:=o6.quiet g2
     have hwn:∀r∈((FD.aB hg).null rows N).map vl,r.length≤65536:=fun r hr=>by
      obtain⟨r',hr',rfl⟩:=List.mem_map.1 hr
      rw[fU,hq.wid _ hr'];omega
     obtain⟨h8,v8,k1,k2,k3⟩:=KE (fl:=h.next) p m ((si.quiet q6).quiet g2) hb (by omega) (n:=n) ((rr.quiet q6).quiet g2) (by simp;omega) hwn
     have q8:=q7.trans k2
     have l8:=q8.1
     have o1y:=o1x.quiet k2
     cases g3 with
     |err e XK ne _=>exact absurd (XK.unique ce) ne
     |big XK hn _=>omega
     |ok D1 aB9 hg1 N1 B8 ce1 ck1 hN1 s1 si1 hv1=>
      subst hv1
      obtain rfl:D1=D:=cT ck1.hF ck.hF
      obtain rfl:N1=N:=by have:=ck1.en;omega
      obtain rfl:B8=rows:=tX (ck1.er.symm.trans ck.er)
      have ce2:PR p m xs n (((FD.aB hg).null B8 N1).map vl) 0:=by
       rw[en];exact PR.auU hg ck.hF n1 ck.n64 hq
      cases k3 with
      |err e XK ne _=>exact absurd (XK.unique ce2) ne
      |big XK hn _=>omega
      |ok D2 aAW hg2 N2 atz ce3 ck2 hN2 s2 si2 hv2=>
       subst hv2
       obtain rfl:D2=D1:=cT ck2.hF ck.hF
       obtain rfl:N2=N1:=by have:=ck2.en;omega
       have er2:(FD.aB hg).null B8 N2=atz:=tX ck2.er
       have ew1:Sf D2 aB9 hg1 N2 B8=Sf D2 gen hg N2 B8:=rfl
       have ew2:Sf D2 aAW hg2 N2 atz=Sf D2 gen hg N2 ((FD.aB hg).null B8 N2):=by rw[er2];rfl
       rw[ew1] at si1
       rw[ew2] at si2
       have wl:∀(R:List (List (El D2))),(Sf D2 gen hg N2 R).length=R.length:=fun R=>by unfold Sf Fp;simp
       obtain⟨s9,h9,u1,u2,u3⟩:=Xm (fl:=h.next) n (si1.quiet k2) (by rw[wl];unfold mh;omega) (by omega)
       have w1':uS (Sf D2 gen hg N2 B8) n=some (Sf D2 gen hg N2 ((FD.aB hg).null B8 N2)):=by rw[en];exact w1
       rw[w1'] at u1 u2
       simp only[Option.isSome_some,if_true,Option.getD_some] at u1 u2
       have x1:=FN (fl:=h.next) u2.si (si2.quiet u3) (by rw[wl];unfold mh;omega)
       rw[decide_eq_true rfl] at x1
       refine⟨h9,go ?_,q8.trans u3⟩
       have hl1:s1.l=B8.length:=by rw[si1.len,wl]
       have hl2:s2.l=((FD.aB hg).null B8 N2).length:=by rw[si2.len,wl]
       unfold ca at f1 g1 k1
       unfold QF
       rw[bu eB,ag (Bu _ _)]
       simp only[asBool]
       rw[if_pos (by decide),ab (o1.cell rfl),ab (o1.cell rfl),ah (s:=mod) (o1.cell rfl),ab (o1.cell rfl),ah (s:=s) (o1.cell rfl),ag c1]
       simp only
       rw[if_pos (by decide),ab (o2.cell rfl),ab (o2.cell rfl),ah (s:=mod) (o2.cell rfl),ab (o2.cell rfl),ah (s:=s) (o2.cell rfl),ag e1]
       simp only[asInt,if_true]
       rw[if_pos (by decide),ab (n:=n) (o3.cell rfl),if_neg (by simpa using z9),ab (o3.cell rfl),ab (o3.cell rfl),ah (s:=mod) (o3.cell rfl),ab (o3.cell rfl),ah (s:=s) (o3.cell rfl),ag f1]
       simp only[bj,asAgg,aG,ch,asInt,bB,if_true]
       rw[bu hh5,o5.w7 (xs:=pN p m cN n s') (by omega) rfl (by simp[pN]) rfl,hh6,ab (o1w.cell rfl),ab (o1w.cell rfl),ah (s:=mod) (o1w.cell rfl),ab (o1w.cell rfl),ah (s:=s) (o1w.cell rfl),ag g1]
       simp only[bj,aG,ch,asInt,bB,if_true]
       rw[ab (o6x.cell rfl),ab (o6x.cell rfl),ah (s:=cN) (o6x.cell rfl),ab (o6x.cell rfl),ah (s:=s') (o6x.cell rfl),ag k1]
       simp only[if_true]
       rw[ab (n:=n) (o1y.cell rfl),ag u1]
       simp only[bj,aG,ch,asInt,bB,if_true]
       rw[if_pos (by decide),if_pos (by decide),if_pos (by decide),if_pos (by decide),ab (n:=n) ((o1y.quiet u3).cell rfl),av (n:=((s1.l:Nat):Int)+((s2.l:Nat):Int)) (B8.length+((FD.aB hg).null B8 N2).length) (by rw[hl1,hl2];push_cast;rfl) (by omega),if_pos (by rw[w2,en];simp),ag x1]
  ·refine⟨h3,go ?_,q3⟩
   unfold QF
   rw[bu eB,ag (Bu _ _)]
   simp only[asBool]
   rw[if_pos (by decide),ab (o1.cell rfl),ab (o1.cell rfl),ah (s:=mod) (o1.cell rfl),ab (o1.cell rfl),ah (s:=s) (o1.cell rfl),ag c1]
   simp only
   rw[if_pos (by decide),ab (o2.cell rfl),ab (o2.cell rfl),ah (s:=mod) (o2.cell rfl),ab (o2.cell rfl),ah (s:=s) (o2.cell rfl),ag e1]
   simp only[asInt,if_true]
   rw[if_neg (by simpa using z),ag (Bu _ _)]
end Go.Abs.P
end
section
namespace Go.Abs
open Go.RowKit Go.ChangeShapes Go.WideShapes Go.Deep
section
variable{H:Type}{enc:TypeId×Value→H}{P:Program}{w:World}{held:Bool}
theorem DI{t e:TypeId}{fuel:Nat}{cs:List Value}{x:DataW H×List MemPlace}(ht:P.underlying t=some (.slice e))(h:DataW.trod enc P w 0 (fun _=>true) held fuel t cs=some x):∃a l c,cs=[.slice a l c]:=by
 rcases open_slice ht h with⟨hcs,_⟩|⟨a',aFw,cap',m,n,D,Pl,hcs,_⟩
 ·exact⟨_,_,_,hcs⟩
 ·exact⟨_,_,_,hcs⟩
theorem RR.open{t e q:TypeId}{fuel:Nat}{a:Option Addr}{l c:Nat}{x:DataW H×List MemPlace}(ht:P.underlying t=some (.slice e))(he:P.underlying e=some (.slice q))(hq:P.underlying q=some (.int .i64))(ce:P.cellsOf e=1)(cq:P.cellsOf q=1)
 (h:DataW.trod enc P w 0 (fun _=>true) held fuel t [.slice a l c]=some x):∃rs:List (List Int),RR (K7 w) ⟨a,l,c⟩ rs∧rs.length≤maxLen∧nice w.heap.size (.slice a l c)=true∧∀r∈rs,r.length≤maxLen:=by
 rcases open_slice1 ht ce h with⟨hcs,_⟩|⟨x,l',c',m,n,V,D,Pl,hcs,_,hl,hm,hmm,_,hx⟩
 ·simp only[List.cons.injEq,Value.slice.injEq,and_true] at hcs
  obtain⟨rfl,rfl,rfl⟩:=hcs
  exact⟨[],RR.nil _,by simp,rfl,by simp⟩
 ·simp only[List.cons.injEq,Value.slice.injEq,and_true] at hcs
  obtain⟨rfl,rfl,rfl⟩:=hcs
  simp only[if_true] at hmm
  subst hmm
  have each:∀i,i<m→∃y:Sl×List Int,V i=y.1.v∧SI (K7 w) y.1 y.2∧y.2.length≤maxLen∧nice w.heap.size (V i)=true:=by
   intro i hi
   obtain⟨h1,h2⟩:=hx i hi
   obtain⟨a',l',c',e'⟩:=DI he h2
   rw[e'] at h2
   obtain⟨xs,k1,k2,k3,_⟩:=SI.open he hq cq h2
   have ev:V i=.slice a' l' c':=by simpa using e'
   exact⟨(⟨a',l',c'⟩,xs),ev,k1,k2,by rw[ev];exact k3⟩
  haveI:Inhabited (Sl×List Int):=⟨(⟨none,0,0⟩,[])⟩
  obtain⟨y,hy⟩:=choose_lt each
  refine⟨(List.range l).map fun i=>(y i).2,⟨by simp,fun i hi=>?_⟩,by simp;omega,?_,?_⟩
  ·simp only[List.length_map,List.length_range] at hi
   obtain⟨e1,e2,e3,e4⟩:=hy i (by omega)
   obtain⟨h1,h2,h3⟩:=IL (hx i (by omega)).1
   rw[(D3 x i).1,(D3 x i).2] at h3
   rw[(D3 x i).1] at h2
   refine⟨x,(y i).1,rfl,h2,?_,by simpa using e2⟩
   rw[h3]
   unfold img
   rw[if_pos e4,e1]
  ·by_cases h0:m=0
   ·have:l=0:=by omega
    subst h0;subst this;simp[nice]
   ·have h1:=IL (hx 0 (by omega)).1
    have e0:x.add 0=x:=by simp[Addr.add]
    rw[e0] at h1
    obtain⟨h1,h2,_⟩:=h1
    simp[nice,h1,h2,hl]
    right
    unfold maxLen at hm;unfold nZ;omega
  ·intro r hr
   simp only[List.mem_map,List.mem_range] at hr
   obtain⟨i,hi,rfl⟩:=hr
   exact(hy i (by omega)).2.2.1
theorem axo{α:Type}{l:List α}(h:l.length=5):∃a b c d e,l=[a,b,c,d,e]:=by
 match l,h with
 |[a,b,c,d,e],_=>exact⟨a,b,c,d,e,rfl⟩
theorem aiv{t tf ti ts tr:TypeId}{f0 f1 f2 g0 g1 g2:Field}{r:Reach}{b0:Nat}{v:Value}{d:DataW H}{ps:List MemPlace}(ht:P.underlying t=some (.struct #[f0,f1,f2]))(hf:P.underlying tf=some (.struct #[g0,g1,g2]))
 (hi:P.underlying ti=some (.int .i64)) (hs:P.underlying ts=some (.slice ti)) (hr:P.underlying tr=some (.slice ts)) (ct:P.cellsOf t=5) (cf:P.cellsOf tf=3) (ci:P.cellsOf ti=1) (cs:P.cellsOf ts=1) (cr:P.cellsOf tr=1)
 (e:[(f0.type,f0.offset),(f1.type,f1.offset),(f2.type,f2.offset),(g0.type,g0.offset),(g1.type,g1.offset),(g2.type,g2.offset)]=[(tf,0),(ti,3),(tr,4),(ti,0),(ti,1),(ts,2)])
 (asQ:Value.okWide P w r b0 t v) (h:DataW.Trod enc P w 0 (fun _=>true) held t v d ps):
 ∃(p m n:Int) (mod s:Sl) (xs:List Int) (rs:List (List Int)),v=_root_.Go.Abs.P.ca p m mod n s∧SI (K7 w) mod xs∧xs.length≤maxLen∧RR (K7 w) s rs∧rs.length≤maxLen∧(∀r∈rs,r.length≤maxLen)∧∀sz,cB (muW w) sz v v:=by
 simp only[List.cons.injEq,Prod.mk.injEq,and_true] at e
 obtain⟨⟨a1,a2⟩,⟨a3,a4⟩,⟨a5,a6⟩,⟨a7,a8⟩,⟨a9,a10⟩,⟨a11,a12⟩⟩:=e
 obtain⟨cells,rfl,Sr⟩:=okWide_struct ht asQ
 obtain⟨l⟩:=cells
 obtain⟨c0,c1,c2,c3,c4,rfl⟩:=axo (l:=l) (by rw[←ct,←Sr];rfl)
 obtain⟨fuel,hf0⟩:=h
 obtain⟨y0,y1,y2,k,_,_,q0,q1,q2⟩:=trod_struct3 ht hf0
 rw[a1,a2,cf] at q0
 rw[a3,a4,ci] at q1
 rw[a5,a6,cr] at q2
 obtain⟨z0,z1,z2,k',_,_,r0,r1,r2⟩:=trod_struct3 hf q0
 rw[a7,a8,ci] at r0
 rw[a9,a10,ci] at r1
 rw[a11,a12,cs] at r2
 simp only[Value.cells,List.drop_succ_cons,List.drop_zero,List.take_succ_cons,List.take_zero] at q1 q2 r0 r1 r2
 obtain⟨p,e0,_,_⟩:=DataW.trod_int hi r0
 obtain⟨m,e1,_,_⟩:=DataW.trod_int hi r1
 obtain⟨n,e3,_,_⟩:=DataW.trod_int hi q1
 obtain⟨ma,ml,mc,e2⟩:=DI hs r2
 obtain⟨sa,sl,sc,e4⟩:=DI hr q2
 rw[e2] at r2
 rw[e4] at q2
 simp only[List.cons.injEq,and_true] at e0 e1 e2 e3 e4
 subst e0 e1 e2 e3 e4
 obtain⟨xs,x1,x2,x3,_⟩:=SI.open hs hi ci r2
 obtain⟨rs,s1,s2,s3,s4⟩:=RR.open hr hs hi cs ci q2
 refine⟨p,m,n,⟨ma,ml,mc⟩,⟨sa,sl,sc⟩,xs,rs,rfl,x1,x2,s1,s2,s4,fun sz=>?_⟩
 have:=bq.cons (.int .i64 p) (bq.cons (.int .i64 m) (bq.cons (QC (sz:=sz) x3) (bq.cons (.int .i64 n) (bq.cons (QC (sz:=sz) s3) .nil))))
 exact .agg this.1 this.2
end
end Go.Abs
end
