/- Shortened by a program of ours out of readable texts. -/
import Derived.Test.YtgplcfblbkmcmaaGreatU4
set_option linter.all false
section
namespace Go.Abs.P
open Go.Abs Go.Fld
section
variable{h:AH}{fl:Nat}{mod:Sl}{xs:List Int}
theorem W0(p m:Int)(bu:SI h mod xs)(hb:xs.length≤po)(bL:fl≤h.next){cols:Int}{s:Sl}{rs:List (List Int)}(hs:RR h s rs)(hm:rs.length≤65536)(hw:∀r∈rs,r.length≤65536):
 ∃(h':AH) (e:Int),M fl fn.kJ [.agg ⟨[.int .i64 p,.int .i64 m,.slice mod.a mod.l mod.c]⟩,.agg ⟨[.int .i64 cols,.slice s.a s.l s.c]⟩] h=some (.int .i64 e,h')∧aj h h'∧SpE p m xs cols rs e:=by
 have o1:=OB.alloc h [.int .i64 p,.int .i64 m,.slice mod.a mod.l mod.c]
 have q1:=aj.alloc h [.int .i64 p,.int .i64 m,.slice mod.a mod.l mod.c]
 generalize dB:h.alloc [.int .i64 p,.int .i64 m,.slice mod.a mod.l mod.c]=h1 at o1 q1
 have o2:=OB.alloc h1 [.int .i64 cols,.slice s.a s.l s.c]
 have q2:=aj.alloc h1 [.int .i64 cols,.slice s.a s.l s.c]
 generalize OD:h1.alloc [.int .i64 cols,.slice s.a s.l s.c]=h2 at o2 q2
 have q12:=q1.trans q2
 have l1:=q12.1
 have rK:=o1.quiet q2
 obtain⟨h3,e,c1,c2,c3⟩:=WZ (fl:=fl) p m (bu.quiet q12) hb (by omega) (cols:=cols) (hs.quiet q12) hm hw
 have q3:=q12.trans c2
 have go:∀{r},YA M fl 1 (fun y4 q=>some (Value.int .i64 y4,q)) p m mod cols s h=some r→M fl fn.kJ [.agg ⟨[.int .i64 p,.int .i64 m,.slice mod.a mod.l mod.c]⟩,.agg ⟨[.int .i64 cols,.slice s.a s.l s.c]⟩] h=some r:=by
  intro r he
  refine aR (k:=1) (by decide) SO ?_
  rw[Nz];exact he
 have bad:e≠0→M fl fn.kJ [.agg ⟨[.int .i64 p,.int .i64 m,.slice mod.a mod.l mod.c]⟩,.agg ⟨[.int .i64 cols,.slice s.a s.l s.c]⟩] h=some (.int .i64 e,h3):=by
  intro he
  refine go ?_
  unfold YA
  rw[aW dB,aW OD,ae (rK.cell rfl),ae (rK.cell rfl),ai (s:=mod) (rK.cell rfl),ae (o2.cell rfl),ai (s:=s) (o2.cell rfl),ah c1]
  simp only[asInt,if_true]
  rw[if_pos (by simp[he])]
 rcases c3 with⟨nf,rfl⟩|⟨D,gen,hF,hg,rfl⟩
 ·exact⟨h3,1,bad (by omega),q3,.kA nf rfl⟩
 ·by_cases z:eG D cols rs=0
  ·obtain⟨z1,z2,z3,rows,z4,z5⟩:=xW z
   obtain⟨f1,f2,f3,f4,f5⟩:=hF
   have hF:Ow p m xs D:=⟨f1,f2,f3,f4,f5⟩
   have ec:(cols.toNat:Int)=cols:=by omega
   have hrs:=(hs.quiet q12).quiet c2
   have hmo:SI h3 mod xs:=bu.quiet q3
   have o1q:=rK.quiet c2
   have o2q:=o2.quiet c2
   have l3:=q3.1
   have rf:RF h3 mod D:=⟨f1,by rw[f4] at hmo;exact hmo⟩
   have axB:=hrs
   rw[z4] at axB
   obtain⟨h4,s',pv,e1,e2,e3,e4⟩:=acz (fl:=fl) hg rf axB (w:=cols.toNat) (by omega) (by omega) (by rw[z4,List.length_map] at z3;omega) z5
   have q4:=q3.trans e2
   have hcl:((FD.aC hg).aY rows cols.toNat).1.length≤65536:=by
    unfold Fld.aY
    simp only[List.length_take,Fld.vE]
    rw[z4,List.length_map] at z3;omega
   have hcw:∀r∈((FD.aC hg).aY rows cols.toNat).1.map vl,r.length≤po:=by
    intro r hr
    obtain⟨r',hr',rfl⟩:=List.mem_map.1 hr
    have:=Fld.afJ (FD.aC hg) cols.toNat 0 rows [] z5 (Nat.zero_le _) r' (List.mem_of_mem_take hr')
    rw[cB,this];unfold po;omega
   have sm:=S6 (fl:=fl) e3 (hs.quiet q4) (by rw[List.length_map];unfold po;omega) hcw
   have run:∀(v:Int),v=(if (!(decide (((FD.aC hg).aY rows cols.toNat).1.map vl=rs)))=true then 5 else 0)→M fl fn.kJ [.agg ⟨[.int .i64 p,.int .i64 m,.slice mod.a mod.l mod.c]⟩,.agg ⟨[.int .i64 cols,.slice s.a s.l s.c]⟩] h=some (.int .i64 v,h4):=by
    intro v hv
    refine go ?_
    unfold YA
    rw[aW dB,aW OD,ae (rK.cell rfl),ae (rK.cell rfl),ai (s:=mod) (rK.cell rfl),ae (o2.cell rfl),ai (s:=s) (o2.cell rfl),ah c1]
    simp only[asInt,if_true]
    rw[if_neg (by simp[z]),ae (o1q.cell rfl),ae (o1q.cell rfl),ai (s:=mod) (o1q.cell rfl),ai (s:=s) (o2q.cell rfl),ae (o2q.cell rfl)]
    have e1':M fl fn.kL [.agg ⟨[.int .i64 p,.int .i64 m,.slice mod.a mod.l mod.c]⟩,.slice s.a s.l s.c,.int .i64 cols] h3=some (.tuple ⟨[.slice s'.a s'.l s'.c,.slice pv.a pv.l pv.c]⟩,h4):=by
     have:=e1
     unfold fa at this
     rw[ec,←f2,←f3] at this
     exact this
    rw[ah e1']
    simp only[bj,aL,ch,bB]
    rw[ai (s:=s) ((o2q.quiet e2).cell rfl),ah sm]
    simp only[asBool]
    rw[hv]
    split<;>rfl
   by_cases ceq:((FD.aC hg).aY rows cols.toNat).1=rows
   ·exact⟨h4,0,run 0 (by rw[ceq,z4];simp),q4,.ok D gen hF hg rows z4 z5 z ceq rfl⟩
   ·refine⟨h4,5,run 5 ?_,q4,.form D gen hF hg rows z4 z5 z ceq rfl⟩
    rw[if_pos]
    simp only[Bool.not_eq_eq_eq_not,Bool.not_true,decide_eq_false_iff_not]
    rw[z4]
    exact fun e=>ceq (zY e)
  ·exact⟨h3,_,bad z,q3,.bad D gen hF hg z rfl⟩
theorem Km(p m:Int)(bu:SI h mod xs)(hb:xs.length≤po)(bL:fl≤h.next){n:Int}{s:Sl}{rs:List (List Int)}(hs:RR h s rs)(hm:rs.length≤65536)(hw:∀r∈rs,r.length≤65536):
 ∃(h':AH) (e:Int),M fl fn.nC [ca p m mod n s] h=some (.int .i64 e,h')∧aj h h'∧Xt p m xs n rs e:=by
 have o1:=OB.alloc h [.int .i64 p,.int .i64 m,.slice mod.a mod.l mod.c,.int .i64 n,.slice s.a s.l s.c]
 have q1:=aj.alloc h [.int .i64 p,.int .i64 m,.slice mod.a mod.l mod.c,.int .i64 n,.slice s.a s.l s.c]
 generalize dB:h.alloc [.int .i64 p,.int .i64 m,.slice mod.a mod.l mod.c,.int .i64 n,.slice s.a s.l s.c]=h1 at o1 q1
 have l1:=q1.1
 obtain⟨h2,e1,c1,c2,c3⟩:=Nh (fl:=fl) p m (bu.quiet q1) hb (by omega)
 have q2:=q1.trans c2
 have o2:=o1.quiet c2
 have l2:=q2.1
 have go:∀{r},Qf M fl 1 (fun y2 q=>some (Value.int .i64 y2,q)) p m mod n s h=some r→M fl fn.nC [ca p m mod n s] h=some r:=by
  intro r he
  refine aR (k:=1) (by decide) SL ?_
  unfold ca
  rw[Nv];exact he
 rcases c3 with⟨f,rfl⟩|⟨nf,rfl⟩
 ·by_cases hn1:n<1
  ·refine⟨h2,4,go ?_,q2,.len f (.inl hn1) rfl⟩
   unfold Qf
   rw[aW dB,ae (o1.cell rfl),ae (o1.cell rfl),ai (s:=mod) (o1.cell rfl),ah c1]
   simp only[asInt,if_true]
   rw[if_neg (by simp),ae (o2.cell rfl),if_neg (by simp[hn1])]
  ·by_cases hn2:n>64
   ·refine⟨h2,4,go ?_,q2,.len f (.inr hn2) rfl⟩
    unfold Qf
    rw[aW dB,ae (o1.cell rfl),ae (o1.cell rfl),ai (s:=mod) (o1.cell rfl),ah c1]
    simp only[asInt,if_true]
    rw[if_neg (by simp),ae (o2.cell rfl),if_pos (by simp[hn1]),ae (o2.cell rfl),if_pos (by simpa using hn2)]
   ·obtain⟨h4,e4,s1,s2,s3⟩:=W0 (fl:=fl) p m (bu.quiet q2) hb (by omega) (hs.quiet q2) hm hw (cols:=n)
    refine⟨h4,e4,go ?_,q2.trans s2,.sp f (by omega) s3⟩
    unfold Qf
    rw[aW dB,ae (o1.cell rfl),ae (o1.cell rfl),ai (s:=mod) (o1.cell rfl),ah c1]
    simp only[asInt,if_true]
    rw[if_neg (by simp),ae (o2.cell rfl),if_pos (by simp[hn1]),ae (o2.cell rfl),if_neg (by simpa using hn2),ae (o2.cell rfl),ae (o2.cell rfl),ai (s:=mod) (o2.cell rfl),ae (o2.cell rfl),ai (s:=s) (o2.cell rfl),ah s1]
    simp only[asInt,if_true]
 ·refine⟨h2,1,go ?_,q2,.kA nf rfl⟩
  unfold Qf
  rw[aW dB,ae (o1.cell rfl),ae (o1.cell rfl),ai (s:=mod) (o1.cell rfl),ah c1]
  simp only[asInt,if_true]
  rw[if_pos (by simp)]
end
end Go.Abs.P
end
section
namespace Go.Abs.P
open Go.Abs Go.Fld
structure S7(P:Nat→Prop)(h:AH)(s:Sl)(rows:List (List Int)):Prop where
 len:s.l=rows.length
 get:∀(i:Nat) (hi:i<rows.length),∃a t,s.a=some a∧a.block<h.next∧P a.block∧h.cell a.block (a.off+i)=some (Sl.v t)∧SI h t rows[i]∧∀q,t.a=some q→P q.block
section
variable{P:Nat→Prop}{h0 h h':AH}{s t:Sl}{ts:List Sl}{rows:List (List Int)}
theorem S7.rr(p:S7 P h s rows):RR h s rows:=⟨p.len,fun i hi=>by
 obtain⟨a,t,h1,h2,h3,h4,h5,h6⟩:=p.get i hi
 exact⟨a,t,h1,h2,h4,h5⟩⟩
theorem S7.quiet(p:S7 P h s rows)(q:aj h h'):S7 P h' s rows:=⟨p.len,fun i hi=>by
 obtain⟨a,t,h1,h2,h3,h4,h5,h6⟩:=p.get i hi
 exact⟨a,t,h1,Nat.lt_of_lt_of_le h2 q.1,h3,by unfold AH.cell at h4 ⊢;rw[q.2 _ h2];exact h4,h5.quiet q,h6⟩⟩
theorem S7.Ao{x:Option Addr}(p:S7 P h s rows)(q:iI x h h')(hP:∀b a,P b→x=some a→a.block≠b):S7 P h' s rows:=⟨p.len,fun i hi=>by
 obtain⟨a,t,h1,h2,h3,h4,h5,h6⟩:=p.get i hi
 exact⟨a,t,h1,Nat.lt_of_lt_of_le h2 q.1,h3,by unfold AH.cell at h4 ⊢;rw[q.2 _ h2 (fun b hb=>hP _ _ h3 hb)];exact h4,h5.Ao q (fun c b hc hb=>hP _ _ (h6 _ hc) hb),h6⟩⟩
theorem S7.imp{Q:Nat→Prop}(p:S7 P h s rows)(hPQ:∀b,P b→Q b):S7 Q h s rows:=⟨p.len,fun i hi=>by
 obtain⟨a,t,h1,h2,h3,h4,h5,h6⟩:=p.get i hi
 exact⟨a,t,h1,h2,hPQ _ h3,h4,h5,fun q hq=>hPQ _ (h6 q hq)⟩⟩
theorem S7.atc(p:S7 P h s rows){i:Nat}(hi:i<rows.length):∃t,SI h t rows[i]∧(∀q,t.a=some q→P q.block)∧∀h',aj h h'→∀{R:Type} (K:Sl→Option R),(idx 1 s (i:Int) fun q=>bC h' q.block q.off K)=K t:=by
 obtain⟨a,t,h1,h2,h3,h4,h5,h6⟩:=p.get i hi
 refine⟨t,h5,h6,fun h' q R K=>?_⟩
 rw[aU h1 (by rw[p.len];exact hi)]
 refine ai ?_ K
 unfold AH.cell at h4 ⊢
 rw[q.2 _ h2];exact h4
structure GL(P:Nat→Prop)(h0 h:AH)(t:Sl)(ts:List Sl)(rows:List (List Int)):Prop where
 q:aj h0 h
 ov:OV h0.next h t (ts.map Sl.v)
 len:ts.length=rows.length
 row:∀j (h1:j<ts.length) (h2:j<rows.length),SI h ts[j] rows[j]∧∀q,(ts[j]).a=some q→q.block<h.next∧P q.block∧∀a,t.a=some a→q.block≠a.block
theorem GL.nil(q:aj h0 h):GL P h0 h ⟨none,0,0⟩ [] []:=⟨q,OV.nil _ _,rfl,fun j h1=>by cases h1⟩
theorem GL.quiet(p:GL P h0 h t ts rows)(q:aj h h'):GL P h0 h' t ts rows:=
 ⟨p.q.trans q,p.ov.quiet q,p.len,fun j h1 h2=>⟨(p.row j h1 h2).1.quiet q,fun x hx=>⟨by have:=((p.row j h1 h2).2 x hx).1;have:=q.1;omega,((p.row j h1 h2).2 x hx).2⟩⟩⟩
theorem GL.push{R:Type}{fl:Nat}{r:List Int}(p:GL P h0 h t ts rows)(bL:fl≤h0.next)(hm:rows.length≤1000000)(hs:SI h s r)(hq:∀q,s.a=some q→q.block<h.next∧P q.block∧∀a,t.a=some a→q.block≠a.block)(K:Sl→AH→Option R):
 ∃t' h',(cU h [.slice s.a s.l s.c] fun b h1=>iJ fl 1 24 t ⟨some ⟨b,0,none⟩,1,1⟩ h1 K)=K t' h'∧GL P h0 h' t' (ts++[s]) (rows++[r])∧iI t.a h h'∧(∀a,t'.a=some a→h.next≤a.block):=by
 have n0:=p.q.1
 have hl:=p.len
 obtain⟨t',h',v1,v2,v3,v4⟩:=p.ov.push (R:=R) (fl:=fl) (bytes:=24) (x:=.slice s.a s.l s.c) bL (by omega) (by unfold lk;simp;omega) rfl K
 have n3:=v3.1
 refine⟨t',h',v1,⟨v3.quiet p.q (fun a ha=>p.ov.ge a ha),by rw[List.map_append];exact v2,by simp[hl],?_⟩,v3,v4⟩
 intro j h1 h2
 by_cases e:j=ts.length
 ·subst e
  have e1:(ts++[s])[ts.length]=s:=by rw[List.getElem_append_right (by omega)];simp
  have e2:(rows++[r])[ts.length]=r:=by rw[List.getElem_append_right (by omega)];simp[hl]
  rw[e1,e2]
  refine⟨hs.Ao v3 (fun a b ha hb=>fun e=>(hq a ha).2.2 b hb e.symm),fun q hq'=>?_⟩
  have:=(hq q hq').1
  exact⟨by omega,(hq q hq').2.1,fun a ha=>by have:=v4 a ha;simp only[ne_eq];omega⟩
 ·have hj:j<ts.length:=by simp at h1;omega
  have e1:(ts++[s])[j]=ts[j]:=List.getElem_append_left hj
  have e2:(rows++[r])[j]=rows[j]'(by omega):=List.getElem_append_left (by omega)
  rw[e1,e2]
  obtain⟨g1,g2⟩:=p.row j hj (by omega)
  refine⟨g1.Ao v3 (fun a b ha hb=>fun e=>(g2 a ha).2.2 b hb e.symm),fun q hq'=>?_⟩
  have:=(g2 q hq').1
  exact⟨by omega,(g2 q hq').2.1,fun a ha=>by have:=v4 a ha;simp only[ne_eq];omega⟩
theorem GL.rrp(p:GL P h0 h t ts rows)(fr:∀b,h0.next≤b→P b):S7 P h t rows:=by
 have hl:=p.len
 rcases p.ov with⟨z1,rfl⟩|⟨b,c,g1,g2,g3,g4,rfl,g6⟩
 ·have:rows=[]:=List.length_eq_zero_iff.1 (by rw[←hl];simpa using z1)
  subst this;exact⟨rfl,fun i hi=>by cases hi⟩
 ·refine⟨by simp[hl],fun i hi=>?_⟩
  refine⟨_,ts[i]'(by omega),rfl,g2,fr _ g1,?_,(p.row i (by omega) hi).1,fun q hq=>((p.row i (by omega) hi).2 q hq).2.1⟩
  refine OB.cell ⟨g2,g6⟩ ?_
  rw[Nat.zero_add,List.getElem?_map,List.getElem?_eq_getElem (by omega)];rfl
end
theorem acA{α:Type}(rows:List α){k:Nat}(hk:k<rows.length):(rows.take (k+1)).eraseIdx k=(rows.take k).eraseIdx k:=by
 rw[List.take_succ_eq_append_getElem hk,List.eraseIdx_append_of_length_le (by simp;omega)]
 have:k-(rows.take k).length=0:=by simp;omega
 rw[this,List.eraseIdx_cons_zero,List.append_nil,List.eraseIdx_of_length_le (by simp;omega)]
theorem aaJ{α:Type}(rows:List α){k l:Nat}(hl:l<rows.length)(h:l≠k):(rows.take (l+1)).eraseIdx k=(rows.take l).eraseIdx k++[rows[l]]:=by
 rw[List.take_succ_eq_append_getElem hl]
 by_cases c:l<k
 ·rw[List.eraseIdx_of_length_le (by simp;omega),List.eraseIdx_of_length_le (by simp;omega)]
 ·rw[List.eraseIdx_append_of_lt_length (by simp;omega)]
section
variable{D:FD}{gen:Nat}(hg:D.aK gen){h:AH}{g:Addr}{fl:Nat}
theorem ahH{R:Type}{k:Nat}(kn:av R)(kr:ag R){bx i:Nat}{w:Nat}{rows:List (List (El D))}{s:Sl}(hx:OB h bx [.int .i64 (i:Int)])(hs:RR h s (rows.map vl))(hw:Fld.fy w rows)(hi:i<w)(hm:rows.length≤65536):
 ∀(d j m:Nat),j+d=rows.length→d<m→(∀j' (_:j'<j) (hj:j'<rows.length),(FD.aC hg).nz ((rows[j']).getD i (FD.aC hg).zero)=false)→
 zc M fl k kn kr m s (.func (.func fn.cK) ⟨[]⟩ ⟨[.pointer (some ⟨bx,0,none⟩)]⟩) (rows.length:Int) (j:Int) h=
  if rows.findIdx (fun r=>(FD.aC hg).nz (r.getD i (FD.aC hg).zero))<rows.length then kr ((rows.findIdx (fun r=>(FD.aC hg).nz (r.getD i (FD.aC hg).zero)):Nat):Int) h else kn h:=by
 intro d
 induction d with
 |zero=>
  intro j m hj hm' hp
  obtain⟨m,rfl⟩:∃j,m=j+1:=⟨m-1,by omega⟩
  show qF M fl k _ _ kr _ _ _ _ h=_
  unfold qF
  rw[if_neg (by simp;omega),if_neg]
  intro hlt
  have h1:=List.findIdx_getElem (w:=hlt)
  have h2:=hp _ (by omega) hlt
  rw[h2] at h1;cases h1
 |succ d ih=>
  intro j m hj hm' hp
  obtain⟨m,rfl⟩:∃j,m=j+1:=⟨m-1,by omega⟩
  have Oz:j<rows.length:=by omega
  obtain⟨t,a1,a2⟩:=hs.read (i:=j) (by simpa using Oz)
  simp only[List.getElem_map] at a1
  have mX:i<(rows[j]).length:=by rw[hw _ (List.getElem_mem Oz)];exact hi
  show qF M fl k _ _ kr _ _ _ _ h=_
  unfold qF
  rw[if_pos (by simp;omega),a2]
  have hgd:(rows[j]).getD i (FD.aC hg).zero=(rows[j])[i]:=by rw[List.getD_eq_getElem?_getD,List.getElem?_eq_getElem mX];rfl
  have run:M fl fn.cK [.slice t.a t.l t.c,.pointer (some ⟨bx,0,none⟩)] h=some (.bool (ve (rows[j])[i] !=0),h):=by
   refine aR (k:=1) (by decide) pM ?_
   rw[nP]
   unfold cK akY
   rw[ae (hx.cell rfl),a1.read (by omega) (by simp;exact mX)]
   simp only[Int.toNat_natCast,jV]
  unfold kE
  simp only[List.nil_append]
  rw[show([Value.slice t.a t.l t.c]++[Value.pointer (some ⟨bx,0,none⟩)])=[.slice t.a t.l t.c,.pointer (some ⟨bx,0,none⟩)] from rfl,run]
  simp only[asBool]
  by_cases hz:(rows[j])[i]=(FD.aC hg).zero
  ·rw[if_neg (by simp[(eU hg _).2 hz]),aw (j+1) (by push_cast;rfl) (by omega)]
   refine ih (j+1) m (by omega) (by omega) ?_
   intro j' h1 h2
   by_cases e:j'=j
   ·subst e
    rw[hgd,hz]
    cases hh:(FD.aC hg).nz (FD.aC hg).zero with
    |false=>rfl
    |true=>exact absurd rfl (((FD.aC hg).An _).1 hh)
   ·exact hp j' (by omega) h2
  ·rw[if_pos (by simp;exact fun e=>hz ((eU hg _).1 e))]
   have hf:rows.findIdx (fun r=>(FD.aC hg).nz (r.getD i (FD.aC hg).zero))=j:=by
    rw[List.findIdx_eq Oz]
    exact⟨((FD.aC hg).An _).2 (by rw[hgd];exact hz),fun j' h1=>hp j' h1 (by omega)⟩
   rw[hf,if_pos Oz]
theorem ahI{bx i:Nat}{w:Nat}{rows:List (List (El D))}{s:Sl}(hx:OB h bx [.int .i64 (i:Int)])(hs:RR h s (rows.map vl))(hw:Fld.fy w rows)(hi:i<w)(hm:rows.length≤65536):
 M fl fn.dH [.slice s.a s.l s.c,.func (.func fn.cK) ⟨[]⟩ ⟨[.pointer (some ⟨bx,0,none⟩)]⟩] h=
   some (.int .i64 (if rows.findIdx (fun r=>(FD.aC hg).nz (r.getD i (FD.aC hg).zero))<rows.length then ((rows.findIdx (fun r=>(FD.aC hg).nz (r.getD i (FD.aC hg).zero)):Nat):Int) else-1),h):=by
 have:=ahH (fl:=fl) (k:=rows.length+1) hg (Lc M fl (rows.length+1) (fun y4 q=>some (Value.int .i64 y4,q))) (fun y4 q=>some (Value.int .i64 y4,q)) hx hs hw hi hm rows.length 0 (rows.length+1) (by omega) (by omega) (fun j' h1=>by omega)
 refine aR (k:=rows.length+1) (by decide) pk ?_
 rw[mD]
 unfold dH akW VH VG
 have hl:s.l=rows.length:=by rw[hs.len];simp
 rw[hl]
 refine Eq.trans this ?_
 split<;>rfl
theorem acB{R:Type}{k:Nat}(kn:xC R){h0:AH}{b cp:Nat}{tu:Sl}{u:List (El D)}(p:GF h0 g D gen)(a:El D)(hu:SI h0 tu (vl u))(hb:h0.next≤b)(bL:fl≤b)(hm:u.length<po)(v0:List (El D))(hv0:v0.length=u.length)(s1:Sl)(bx:Addr)(kk:Int)(t8 s21:Sl)(W9 l:Int):
 ∀(d i f:Nat) (h:AH),i+d=u.length→d<f→OB h b (iv (vl ((FD.aC hg).bF (v0.take i) ((FD.aC hg).neg a) (u.take i)++v0.drop i)))→aj h0 h→
 ∃h',dm M fl k kn f (some g) s1 bx kk t8 ⟨some ⟨b,0,none⟩,u.length,cp⟩ (ve a) s21 W9 l tu (u.length:Int) (i:Int) h=kn (some g) s1 bx kk t8 ⟨some ⟨b,0,none⟩,u.length,cp⟩ s21 W9 l h'∧OB h' b (iv (vl ((FD.aC hg).bF v0 ((FD.aC hg).neg a) u)))∧aj h0 h'∧iI (some ⟨b,0,none⟩) h h':=by
 intro d
 induction d with
 |zero=>
  intro i f h hi hf ho hq
  obtain⟨f,rfl⟩:∃j,f=j+1:=⟨f-1,by omega⟩
  rw[List.take_of_length_le (by omega),List.take_of_length_le (by omega),List.drop_of_length_le (by omega),List.append_nil] at ho
  refine⟨h,?_,ho,hq,iI.refl _ _⟩
  show cM M fl k _ _ _ _ _ _ _ _ _ _ _ _ _ _ _ h=_
  unfold cM
  rw[if_neg (by simp;omega)]
 |succ d ih=>
  intro i f h hi hf ho hq
  obtain⟨f,rfl⟩:∃j,f=j+1:=⟨f-1,by omega⟩
  have hiu:i<u.length:=by omega
  have hiv:i<v0.length:=by omega
  have hax:((FD.aC hg).bF (v0.take i) ((FD.aC hg).neg a) (u.take i)).length=i:=by rw[Fld.bH _ _ _ _ (by simp;omega)];simp;omega
  have Nl:(FD.aC hg).bF (v0.take (i+1)) ((FD.aC hg).neg a) (u.take (i+1))=(FD.aC hg).bF (v0.take i) ((FD.aC hg).neg a) (u.take i)++[(FD.aC hg).add v0[i] ((FD.aC hg).neg ((FD.aC hg).mul a u[i]))]:=by
   unfold Fld.bF
   rw[List.take_succ_eq_append_getElem hiv,List.take_succ_eq_append_getElem hiu,List.zipWith_append (by simp;omega),←(FD.aC hg).neg_mul]
   rfl
  have amX:=(hu.quiet hq).read (i:=(i:Int)) (by omega) (by simp;omega) (R:=R)
  have un:dm M fl k kn (f+1) (some g) s1 bx kk t8 ⟨some ⟨b,0,none⟩,u.length,cp⟩ (ve a) s21 W9 l tu (u.length:Int) (i:Int) h=cM M fl k (dm M fl k kn f) kn (some g) s1 bx kk t8 ⟨some ⟨b,0,none⟩,u.length,cp⟩ (ve a) s21 W9 l tu (u.length:Int) (i:Int) h:=rfl
  rw[un]
  unfold cM
  rw[if_pos (by simp;omega),amX]
  simp only[Int.toNat_natCast,jV]
  have k8:h.cell b (0+i)=some (.int .i64 (ve v0[i])):=by
   refine ho.cell ?_
   rw[Nat.zero_add,FP _ _ (by simp;omega),jV]
   congr 3
   rw[List.getElem_append_right (by omega)]
   simp[hax]
  have nu:(iv (vl ((FD.aC hg).bF (v0.take i) ((FD.aC hg).neg a) (u.take i)++v0.drop i))).set (0+i) (.int .i64 (ve ((FD.aC hg).add v0[i] ((FD.aC hg).neg ((FD.aC hg).mul a u[i])))))=iv (vl ((FD.aC hg).bF (v0.take (i+1)) ((FD.aC hg).neg a) (u.take (i+1))++v0.drop (i+1))):=by
   rw[kI,ams,Nat.zero_add,List.set_append_right _ _ (by omega),hax,Nat.sub_self,List.drop_eq_getElem_cons hiv,List.set_cons_zero,Nl]
   simp
  obtain⟨h',e1,e2,e3,e4⟩:=ih (i+1) f (h.put b (some (iv (vl ((FD.aC hg).bF (v0.take (i+1)) ((FD.aC hg).neg a) (u.take (i+1))++v0.drop (i+1)))))) (by omega) (by omega) (ho.put _) (hq.put hb _)
  refine⟨h',?_,e2,e3,(iI.put _).trans e4⟩
  have hgh:=p.quiet hq
  rw[aU rfl (show i<u.length from hiu)]
  dsimp only
  rw[ae k8,ah (ar3 hg hgh a u[i])]
  simp only[asInt,if_true]
  rw[ah (azE hg hgh v0[i] _)]
  simp only[if_true]
  rw[aU rfl (show i<u.length from hiu),ho.st bL (by simp;omega) rfl,nu,aw (i+1) (by push_cast;rfl) (by unfold po at hm;omega)]
  exact e1
end
end Go.Abs.P
end
section
namespace Go.Abs.P
open Go.Abs Go.Fld
section
variable{D:FD}{gen:Nat}(hg:D.aK gen){h:AH}{g:Addr}{fl:Nat}
def woF(rows:List (List (El D)))(kk i:Nat)(p:List (El D))(r:List (El D)):List (El D):=(FD.aC hg).bF r ((FD.aC hg).neg ((FD.aC hg).mul (r.getD i (FD.aC hg).zero) ((FD.aC hg).inv (p.getD i (FD.aC hg).zero)))) p
theorem ar5{R:Type}{k:Nat}(kn:an R){P:Nat→Prop}{h0:AH}{bx w kk i:Nat}{rows:List (List (El D))}{s:Sl}(gf:GF h0 g D gen)(hx:OB h0 bx [.int .i64 (i:Int)])(hs:S7 P h0 s (rows.map vl))(fr:∀b,h0.next≤b→P b)(hw:Fld.fy w rows)(hi:i<w)(Oy:w≤65536)(hm:rows.length≤65536)(hkk:kk<rows.length)(hz:(rows[kk]).getD i (FD.aC hg).zero≠(FD.aC hg).zero)(bL:fl≤h0.next)(hk:w<k):
 ∀(d l f:Nat) (t:Sl) (ts:List Sl) (h:AH),l+d=rows.length→d<f→GL P h0 h t ts ((((rows.take l).eraseIdx kk).map (woF hg rows kk i rows[kk])).map vl)→
 ∃h' t' Ce,gJ M fl k kn f (some g) s ⟨bx,0,none⟩ (kk:Int) t s (rows.length:Int) (l:Int) h=kn t' h'∧GL P h0 h' t' Ce (((rows.eraseIdx kk).map (woF hg rows kk i rows[kk])).map vl):=by
 intro d
 induction d with
 |zero=>
  intro l f t ts h hl hf gl
  obtain⟨f,rfl⟩:∃j,f=j+1:=⟨f-1,by omega⟩
  rw[List.take_of_length_le (by omega)] at gl
  refine⟨h,t,ts,?_,gl⟩
  show qo M fl k _ _ _ _ _ _ _ _ _ _ h=_
  unfold qo vU
  rw[if_neg (by simp;omega)]
 |succ d ih=>
  intro l f t ts h hl hf gl
  obtain⟨f,rfl⟩:∃j,f=j+1:=⟨f-1,by omega⟩
  have hll:l<rows.length:=by omega
  have hlw:=hw _ (List.getElem_mem hll)
  have hkw:=hw _ (List.getElem_mem hkk)
  have un:gJ M fl k kn (f+1) (some g) s ⟨bx,0,none⟩ (kk:Int) t s (rows.length:Int) (l:Int) h=qo M fl k (gJ M fl k kn f) kn (some g) s ⟨bx,0,none⟩ (kk:Int) t s (rows.length:Int) (l:Int) h:=rfl
  rw[un]
  unfold qo vU
  rw[if_pos (by simp;omega)]
  unfold CU uL sd oy
  have hsq:=hs.quiet gl.q
  obtain⟨r,a0,aP,a2⟩:=hs.atc (i:=l) (by simpa using hll)
  simp only[List.getElem_map] at a0
  have a1:=a0.quiet gl.q
  obtain⟨rk,b1,_,b2⟩:=hs.atc (i:=kk) (by simpa using hkk)
  simp only[List.getElem_map] at b1
  replace b1:=b1.quiet gl.q
  rw[a2 h gl.q]
  by_cases e:l=kk
  ·subst e
   rw[if_pos (by simp)]
   unfold dp
   rw[aw (l+1) (by push_cast;rfl) (by omega)]
   exact ih (l+1) f t ts h (by omega) (by omega) (by rw[acA rows hll];exact gl)
  ·rw[if_neg (by simp;omega),ae ((hx.quiet gl.q).cell rfl),a1.read (by omega) (by simp;omega)]
   simp only[Int.toNat_natCast,jV]
   have n0:=gl.q.1
   have nx:(((rows.take (l+1)).eraseIdx kk).map (woF hg rows kk i rows[kk])).map vl=(((rows.take l).eraseIdx kk).map (woF hg rows kk i rows[kk])).map vl++[vl (woF hg rows kk i rows[kk] rows[l])]:=by
    rw[aaJ rows hll e];simp
   have hlen:((((rows.take l).eraseIdx kk).map (woF hg rows kk i rows[kk])).map vl).length≤1000000:=by
    have:=(List.eraseIdx_sublist (rows.take l) kk).length_le
    simp only[List.length_map]
    rw[List.length_take] at this
    omega
   have hgd:(rows[l]).getD i (FD.aC hg).zero=(rows[l])[i]'(by omega):=by rw[List.getD_eq_getElem?_getD,List.getElem?_eq_getElem (by omega)];rfl
   have hgk:(rows[kk]).getD i (FD.aC hg).zero=(rows[kk])[i]'(by omega):=by rw[List.getD_eq_getElem?_getD,List.getElem?_eq_getElem (by omega)];rfl
   unfold tU lL
   have fin:∀(h2:AH) (s2:Sl),GL P h0 h2 t ts ((((rows.take l).eraseIdx kk).map (woF hg rows kk i rows[kk])).map vl)→SI h2 s2 (vl (woF hg rows kk i rows[kk] rows[l]))→(∀q,s2.a=some q→q.block<h2.next∧P q.block∧∀a,t.a=some a→q.block≠a.block)→
    ∃h' t' Ce,fh M fl k (dp M fl k (gJ M fl k kn f) kn) (dp M fl k (gJ M fl k kn f) kn) (some g) s ⟨bx,0,none⟩ (kk:Int) t s2 s (rows.length:Int) (l:Int) h2=kn t' h'∧GL P h0 h' t' Ce (((rows.eraseIdx kk).map (woF hg rows kk i rows[kk])).map vl):=by
    intro h2 s2 gl2 hs2 lY
    obtain⟨t',h3,p1,p2,_⟩:=gl2.push (R:=R) (fl:=fl) bL hlen hs2 lY (fun s3 h4=>dp M fl k (gJ M fl k kn f) kn (some g) s ⟨bx,0,none⟩ (kk:Int) s3 s (rows.length:Int) (l:Int) h4)
    rw[←nx] at p2
    obtain⟨h',t'',Ce,r1,r2⟩:=ih (l+1) f t' _ h3 (by omega) (by omega) p2
    refine⟨h',t'',Ce,?_,r2⟩
    unfold fh
    refine Eq.trans p1 ?_
    unfold dp
    rw[aw (l+1) (by push_cast;rfl) (by omega)]
    exact r1
   have tge:∀a,t.a=some a→h0.next≤a.block∧a.block<h.next:=fun a ha=>⟨gl.ov.ge a ha,OV.lt gl.ov a ha⟩
   have iH:vl rows[l]≠[]:=fun e=>by
    have:(vl rows[l]).length=0:=by rw[e];rfl
    rw[cB] at this;omega
   by_cases hc:(rows[l])[i]'(by omega)=(FD.aC hg).zero
   ·rw[if_neg (by simp[(eU hg _).2 hc])]
    have e0:woF hg rows kk i rows[kk] rows[l]=rows[l]:=by
     unfold woF
     rw[hgd,hc,Fld.zero_mul,Fld.neg_zero,Fld.yB _ _ _ (by omega)]
    refine fin h r gl (by rw[e0];exact a1) (fun q hq=>?_)
    have hlt:=a0.lt iH q hq
    exact⟨by omega,aP q hq,fun a ha=>by have:=tge a ha;simp only[ne_eq];omega⟩
   ·rw[if_pos (by simp;exact fun e=>hc ((eU hg _).1 e))]
    unfold kh jI mj
    have gfq:=gf.quiet gl.q
    have tP:=hx.quiet gl.q
    obtain⟨s',h3,c1,c2,c3⟩:=HG (fl:=fl) a1 iH (by rw[cB];omega)
    have gl3:=gl.quiet c3
    rcases c2 with⟨z1,_⟩|⟨b,c,g1,g2,g3,g4,g5,g6⟩
    ·exact absurd (by simpa [iv] using z1) iH
    ·subst g5
     have hl3:(iv (vl rows[l])).length=(rows[kk]).length:=by simp[iv];omega
     rw[hl3] at c1
     have n3:=c3.1
     obtain⟨h4,k1,k2,k3,k4⟩:=acB (fl:=fl) (k:=k) (cp:=c) hg (fh M fl k (dp M fl k (gJ M fl k kn f) kn) (dp M fl k (gJ M fl k kn f) kn)) (h0:=h) gfq ((FD.aC hg).mul ((rows[l])[i]'(by omega)) ((FD.aC hg).inv ((rows[kk])[i]'(by omega)))) b1 g1 (by omega) (by unfold po;omega) rows[l] (by omega) s ⟨bx,0,none⟩ (kk:Int) t s (rows.length:Int) (l:Int) (rows[kk]).length 0 k h3 (by omega) (by omega) (by simpa [Fld.bF] using (⟨g2,g6⟩:OB h3 b (iv (vl rows[l])))) c3
     have gl4:GL P h0 h4 t ts ((((rows.take l).eraseIdx kk).map (woF hg rows kk i rows[kk])).map vl):=by
      have:aj h h4:=k3
      exact gl.quiet this
     have e0:(FD.aC hg).bF rows[l] ((FD.aC hg).neg ((FD.aC hg).mul ((rows[l])[i]'(by omega)) ((FD.aC hg).inv ((rows[kk])[i]'(by omega))))) rows[kk]=woF hg rows kk i rows[kk] rows[l]:=by
      unfold woF;rw[hgd,hgk]
     rw[e0] at k2
     have hwl:(vl (woF hg rows kk i rows[kk] rows[l])).length=(rows[kk]).length:=by
      rw[cB];unfold woF;rw[Fld.bH _ _ _ _ (by omega)];omega
     have si4:=k2.si none c
     rw[hwl] at si4
     obtain⟨h',t',Ce,r1,r2⟩:=fin h4 _ gl4 si4 (fun q hq=>by cases hq;exact⟨k2.1,fr b (by omega),fun a ha=>by have:=tge a ha;simp only[ne_eq];omega⟩)
     refine⟨h',t',Ce,?_,r2⟩
     have aA0:(rows[kk])[i]'(by omega)≠(FD.aC hg).zero:=by rw[←hgk];exact hz
     rw[ae (tP.cell rfl),a1.read (by omega) (by simp;omega)]
     simp only[Int.toNat_natCast,jV]
     rw[b2 h gl.q,ae (tP.cell rfl),b1.read (by omega) (by simp;omega)]
     simp only[Int.toNat_natCast,jV]
     rw[ah (azG hg gfq _ _ aA0)]
     simp only[bj,aL,ch,asInt,if_true]
     rw[ah c1]
     simp only[bB]
     rw[b2 h3 (gl.q.trans c3)]
     have hrl:rk.l=(rows[kk]).length:=by rw[b1.len];simp
     rw[hrl]
     refine Eq.trans k1 ?_
     exact r1
theorem W1{P:Nat→Prop}(fr:∀b,h.next≤b→P b){w i:Nat}{rows:List (List (El D))}{s:Sl}(gf:GF h g D gen)(hs:S7 P h s (rows.map vl))(hw:Fld.fy w rows)(hi:i<w)(Oy:w≤65536)(hm:rows.length≤65536)(bL:fl≤h.next):
 ∃h' s',M fl fn.cO [.pointer (some g),.slice s.a s.l s.c,.int .i64 (i:Int)] h=some (.slice s'.a s'.l s'.c,h')∧aj h h'∧S7 P h' s' (((FD.aC hg).wo rows i).map vl):=by
 have o1:=OB.alloc h [.int .i64 (i:Int)]
 have q1:=aj.alloc h [.int .i64 (i:Int)]
 generalize dB:h.alloc [.int .i64 (i:Int)]=h1 at o1 q1
 have n1:=q1.1
 have hsp:=ahI (fl:=fl) hg o1 (hs.quiet q1).rr hw hi hm
 have go:∀{k:Nat} {r},cO M fl k (some g) s (i:Int) h=some r→M fl fn.cO [.pointer (some g),.slice s.a s.l s.c,.int .i64 (i:Int)] h=some r:=by
  intro k r he
  refine aR (k:=k) (by decide) uD ?_
  rw[pG]
  exact he
 by_cases c:rows.findIdx (fun r=>(FD.aC hg).nz (r.getD i (FD.aC hg).zero))<rows.length
 ·rw[if_pos c] at hsp
  have hz:=((FD.aC hg).An _).1 (List.findIdx_getElem (w:=c))
  have ew:(FD.aC hg).wo rows i=(rows.eraseIdx (rows.findIdx (fun r=>(FD.aC hg).nz (r.getD i (FD.aC hg).zero)))).map (woF hg rows (rows.findIdx (fun r=>(FD.aC hg).nz (r.getD i (FD.aC hg).zero))) i (rows[rows.findIdx (fun r=>(FD.aC hg).nz (r.getD i (FD.aC hg).zero))])):=by
   unfold Fld.wo
   rw[dif_pos c]
   rfl
  rw[ew]
  generalize rows.findIdx (fun r=>(FD.aC hg).nz (r.getD i (FD.aC hg).zero))=kk at c hsp hz
  obtain⟨h',t',Ce,e1,e2⟩:=ar5 (fl:=fl) (k:=max (w+1) (rows.length+1)) hg (K3 M fl (max (w+1) (rows.length+1)) (fun y6 q=>some (Value.slice y6.a y6.l y6.c,q))) (gf.quiet q1) o1 (hs.quiet q1) (fun b hb=>fr b (by omega)) hw hi Oy hm c hz (by omega) (by omega) rows.length 0 (max (w+1) (rows.length+1)) ⟨none,0,0⟩ [] h1 (by omega) (by omega) (by simpa using GL.nil (aj.refl h1))
  refine⟨h',t',go (k:=max (w+1) (rows.length+1)) ?_,q1.trans e2.q,e2.rrp (fun b hb=>fr b (by omega))⟩
  unfold cO aee Qx Vf
  rw[aW dB,ah hsp]
  simp only[asInt,if_true]
  have hl:s.l=rows.length:=by rw[hs.len];simp
  rw[if_neg (by simp),hl]
  exact e1
 ·rw[if_neg c] at hsp
  have ew:(FD.aC hg).wo rows i=rows:=by
   unfold Fld.wo
   rw[dif_neg c]
  rw[ew]
  refine⟨h1,s,go (k:=1) ?_,q1,hs.quiet q1⟩
  unfold cO aee Qx
  rw[aW dB,ah hsp]
  simp only[asInt,if_true]
  rw[if_pos (by simp)]
end
end Go.Abs.P
end
section
namespace Go.Abs
section
variable{R:Type}
theorem afK{n:Nat}(hn:n≤62)(K:Int→Option R):shQ true .i64 1 (n:Int) K=K ((2^n:Nat):Int):=by
 unfold shQ XB
 have h1:(2:Nat)^n≤2^62:=Nat.pow_le_pow_right (by omega) hn
 rw[if_neg (by omega),if_pos rfl]
 have:min (n:Int).toNat IntKind.i64.bits=n:=by
  show min (n:Int).toNat 64=n
  rw[Int.toNat_natCast];omega
 rw[this]
 have e:(1:Int)*2^n=((2^n:Nat):Int):=by push_cast;omega
 rw[e]
 generalize (2:Nat)^n=m at h1
 have hw:IntKind.i64.wrap ((m:Nat):Int)=((m:Nat):Int):=kH (by omega) (by omega)
 show(match some (IntKind.i64.wrap (m:Int)) with|some n=>K n|none=>none)=K (m:Int)
 rw[hw]
theorem W4{a n:Nat}(hn:n≤63)(K:Int→Option R):shQ false .i64 (a:Int) (n:Int) K=K ((a/2^n:Nat):Int):=by
 unfold shQ XB
 rw[if_neg (by omega),if_neg (by simp)]
 have:min (n:Int).toNat IntKind.i64.bits=n:=by
  show min (n:Int).toNat 64=n
  rw[Int.toNat_natCast];omega
 rw[this]
 have e:((2:Int)^n)=((2^n:Nat):Int):=by push_cast;rfl
 rw[e,Int.fdiv_eq_ediv_of_nonneg _ (Int.natCast_nonneg _),←Int.natCast_ediv]
theorem auM{a b:Nat}(ha:a<2^62)(hb:b<2^62)(K:Int→Option R):iZ .or .i64 (a:Int) (b:Int) K=K ((a|||b:Nat):Int):=by
 unfold iZ Cg
 have e:(BitVec.ofInt IntKind.i64.bits (a:Int)|||BitVec.ofInt IntKind.i64.bits (b:Int)).toNat=a|||b:=by
  show(BitVec.ofInt 64 (a:Int)|||BitVec.ofInt 64 (b:Int)).toNat=a|||b
  rw[BitVec.ofInt_natCast,BitVec.ofInt_natCast,BitVec.toNat_or,BitVec.toNat_ofNat,BitVec.toNat_ofNat,Nat.mod_eq_of_lt (by omega),Nat.mod_eq_of_lt (by omega)]
 have hl:a|||b<2^62:=Nat.or_lt_two_pow ha hb
 simp only[e]
 have hw:IntKind.i64.wrap ((a|||b:Nat):Int)=((a|||b:Nat):Int):=kH (by omega) (by omega)
 rw[hw]
theorem amA{a:Nat}(ha:a<2^62)(K:Int→Option R):iZ .and .i64 (a:Int) 1 K=K ((a%2:Nat):Int):=by
 unfold iZ Cg
 have e:(BitVec.ofInt IntKind.i64.bits (a:Int)&&&BitVec.ofInt IntKind.i64.bits (1:Int)).toNat=a%2:=by
  show(BitVec.ofInt 64 (a:Int)&&&BitVec.ofInt 64 ((1:Nat):Int)).toNat=a%2
  rw[BitVec.ofInt_natCast,BitVec.ofInt_natCast,BitVec.toNat_and,BitVec.toNat_ofNat,BitVec.toNat_ofNat,Nat.mod_eq_of_lt (by omega),Nat.mod_eq_of_lt (by omega),Nat.and_one_is_mod]
 simp only[e]
 have hw:IntKind.i64.wrap ((a%2:Nat):Int)=((a%2:Nat):Int):=kH (by omega) (by omega)
 rw[hw]
end
end Go.Abs
namespace Go.Fld.Fld
variable{α:Type}(F:Fld α)
def frm:Nat→Nat→List (List α)→Nat→List Nat→List Nat
 |0,_,rows,mask,out=>if rows.length=0 then out else out.set mask rows.length
 |d+1,next,rows,mask,out=>if rows.length=0 then out else frm d (next+1) (F.wo rows next) mask (frm d (next+1) rows (mask|||2^next) out)
theorem wP:∀(d next:Nat) (rows:List (List α)) (mask:Nat) (out:List Nat),(F.frm d next rows mask out).length=out.length
 |0,_,rows,mask,out=>by unfold frm;split<;>simp
 |d+1,next,rows,mask,out=>by
  unfold frm
  split
  ·rfl
  ·rw[wP,wP]
theorem amB(rows:List (List α))(i:Nat):(F.wo rows i).length≤rows.length:=by
 unfold wo
 split
 ·rw[List.length_map]
  exact(List.eraseIdx_sublist _ _).length_le
 ·exact Nat.le_refl _
end Go.Fld.Fld
namespace Go.Abs.P
open Go.Abs Go.Fld
section
variable{D:FD}{gen:Nat}(hg:D.aK gen){g:Addr}{fl:Nat}
structure FR(gen:Nat)(h0 h:AH)(g:Addr)(ob bc bo bf bg N:Nat)(cs:List Value):Prop where
 bt:iI (some ⟨ob,0,none⟩) h0 h
 c3:cs[3]?=some (.int .i64 (N:Int))
 oc:OB h0 bc cs
 oo:OB h0 bo [.slice (some ⟨ob,0,none⟩) (2^N) (2^N)]
 of:OB h0 bf [.func (.func fn.aM) ⟨[]⟩ ⟨[.pointer (some ⟨bc,0,none⟩),.pointer (some ⟨bo,0,none⟩),.pointer (some ⟨bf,0,none⟩),.pointer (some ⟨bg,0,none⟩)]⟩]
 og:OB h0 bg [.pointer (some g)]
 nc:ob≠bc∧ob≠bo∧ob≠bf∧ob≠bg
 gf:∀h',iI (some ⟨ob,0,none⟩) h0 h'→GF h' g D gen
 fl:fl≤ob
 ol:ob<h0.next
theorem FR.Ao{h0 h h':AH}{ob bc bo bf bg N:Nat}{cs:List Value}(p:FR (D:=D) (fl:=fl) gen h0 h g ob bc bo bf bg N cs)(q:iI (some ⟨ob,0,none⟩) h h'):FR (D:=D) (fl:=fl) gen h0 h' g ob bc bo bf bg N cs:=
 ⟨p.bt.trans q,p.c3,p.oc,p.oo,p.of,p.og,p.nc,p.gf,p.fl,p.ol⟩
theorem ahJ{h0:AH}{ob bc bo bf bg N:Nat}{cs:List Value}(hN:N≤16):
 ∀(d next mask:Nat) (rows:List (List (El D))) (s:Sl) (out:List Nat) (h:AH),next+d=N→mask<2^next→Fld.fy N rows→rows.length≤65536→out.length=2^N→
 FR (D:=D) (fl:=fl) gen h0 h g ob bc bo bf bg N cs→S7 (·≠ob) h s (rows.map vl)→OB h ob (iv (ints out))→
 ∃h',M fl fn.aM [.slice s.a s.l s.c,.int .i64 (mask:Int),.int .i64 (next:Int),.pointer (some ⟨bc,0,none⟩),.pointer (some ⟨bo,0,none⟩),.pointer (some ⟨bf,0,none⟩),.pointer (some ⟨bg,0,none⟩)] h=some (.tuple ⟨[]⟩,h')∧
  iI (some ⟨ob,0,none⟩) h h'∧OB h' ob (iv (ints ((FD.aC hg).frm d next rows mask out))):=by
 intro d
 induction d with
 |zero=>
  intro next mask rows s out h hd T8 hw hm ho fr hs hob
  have hl:s.l=rows.length:=by rw[hs.len];simp
  have go:∀{r},aM M fl 1 s (mask:Int) (next:Int) ⟨bc,0,none⟩ ⟨bo,0,none⟩ ⟨bf,0,none⟩ ⟨bg,0,none⟩ h=some r→M fl fn.aM [.slice s.a s.l s.c,.int .i64 (mask:Int),.int .i64 (next:Int),.pointer (some ⟨bc,0,none⟩),.pointer (some ⟨bo,0,none⟩),.pointer (some ⟨bf,0,none⟩),.pointer (some ⟨bg,0,none⟩)] h=some r:=by
   intro r he
   refine aR (k:=1) (by decide) ns ?_
   rw[kR];exact he
  unfold Fld.frm
  by_cases c:rows.length=0
  ·rw[if_pos c]
   refine⟨h,go ?_,iI.refl _ _,hob⟩
   unfold aM TF
   rw[if_pos (by simp[hl,c])]
  ·rw[if_neg c]
   have oc:=fr.bt.ob fr.oc (fun a ha=>by cases ha;exact fr.nc.1)
   have oo:=fr.bt.ob fr.oo (fun a ha=>by cases ha;exact fr.nc.2.1)
   have e0:next=N:=by omega
   subst e0
   refine⟨h.put ob (some (iv (ints (out.set mask rows.length)))),go ?_,iI.put _,hob.put _⟩
   unfold aM TF
   rw[if_neg (by simp[hl];simpa using c),ae (oc.cell fr.c3),if_pos (by simp),ai (s:=⟨some ⟨ob,0,none⟩,2^next,2^next⟩) (oo.cell rfl),aU rfl (show mask<2^next from T8)]
   rw[hob.st fr.fl (by simp[iv,ints,ho];omega) rfl,hl,Nat.zero_add,kI,ints_set]
 |succ d ih=>
  intro next mask rows s out h hd T8 hw hm ho fr hs hob
  have hl:s.l=rows.length:=by rw[hs.len];simp
  have go:∀{r},aM M fl 1 s (mask:Int) (next:Int) ⟨bc,0,none⟩ ⟨bo,0,none⟩ ⟨bf,0,none⟩ ⟨bg,0,none⟩ h=some r→M fl fn.aM [.slice s.a s.l s.c,.int .i64 (mask:Int),.int .i64 (next:Int),.pointer (some ⟨bc,0,none⟩),.pointer (some ⟨bo,0,none⟩),.pointer (some ⟨bf,0,none⟩),.pointer (some ⟨bg,0,none⟩)] h=some r:=by
   intro r he
   refine aR (k:=1) (by decide) ns ?_
   rw[kR];exact he
  unfold Fld.frm
  by_cases c:rows.length=0
  ·rw[if_pos c]
   refine⟨h,go ?_,iI.refl _ _,hob⟩
   unfold aM TF
   rw[if_pos (by simp[hl,c])]
  ·rw[if_neg c]
   have oc:=fr.bt.ob fr.oc (fun a ha=>by cases ha;exact fr.nc.1)
   have hof:=fr.bt.ob fr.of (fun a ha=>by cases ha;exact fr.nc.2.2.1)
   have p0:(2:Nat)^next≤2^16:=Nat.pow_le_pow_right (by omega) (by omega)
   have p1:(2:Nat)^(next+1)=2^next*2:=Nat.pow_succ ..
   have hor:mask|||2^next<2^(next+1):=Nat.or_lt_two_pow (by omega) (by omega)
   obtain⟨h1,a1,a2,a3⟩:=ih (next+1) (mask|||2^next) rows s out h (by omega) hor hw hm ho fr hs hob
   have fr1:=fr.Ao a2
   have hs1:S7 (·≠ob) h1 s (rows.map vl):=hs.Ao a2 (fun b a hb ha=>by cases ha;exact fun e=>hb e.symm)
   have aAm:=fr1.bt.ob fr.of (fun a ha=>by cases ha;exact fr.nc.2.2.1)
   have az8:=fr1.bt.ob fr.og (fun a ha=>by cases ha;exact fr.nc.2.2.2)
   have n1:=fr1.bt.1
   have ol:=fr.ol
   obtain⟨h2,s2,b1,b2,b3⟩:=W1 (fl:=h1.next) hg (P:=(·≠ob)) (fun b hb=>by omega) (fr1.gf _ fr1.bt) hs1 hw (i:=next) (by omega) (by omega) hm (Nat.le_refl _)
   have ob2:=a3.quiet b2
   obtain⟨h3,d1,d2,d3⟩:=ih (next+1) mask ((FD.aC hg).wo rows next) s2 ((FD.aC hg).frm d (next+1) rows (mask|||2^next) out) h2 (by omega) (by omega) ((FD.aC hg).ya hw next) (by have:=(FD.aC hg).amB rows next;omega) (by rw[Fld.wP];exact ho) (fr1.Ao (iI.P5 b2)) b3 ob2
   refine⟨h3,go ?_,(a2.trans (iI.P5 b2)).trans d2,d3⟩
   unfold aM TF
   rw[if_neg (by simp[hl];simpa using c),ae (oc.cell fr.c3),if_neg (by simp;omega)]
   have lv:∀{h:AH},OB h bf [.func (.func fn.aM) ⟨[]⟩ ⟨[.pointer (some ⟨bc,0,none⟩),.pointer (some ⟨bo,0,none⟩),.pointer (some ⟨bf,0,none⟩),.pointer (some ⟨bg,0,none⟩)]⟩]→∀{R:Type} (K:Value→Option R),ldV h bf 0 K=K (.func (.func fn.aM) ⟨[]⟩ ⟨[.pointer (some ⟨bc,0,none⟩),.pointer (some ⟨bo,0,none⟩),.pointer (some ⟨bf,0,none⟩),.pointer (some ⟨bg,0,none⟩)]⟩):=by
    intro h o R K
    unfold ldV
    rw[o.cell rfl]
   rw[lv hof,afK (by omega),auM (by omega) (by omega),aw (next+1) (by push_cast;rfl) (by omega)]
   have cv:∀(s:Sl) (m n:Int) (h h':AH) (K:Value→AH→Option (Value×AH)),M fl fn.aM [.slice s.a s.l s.c,.int .i64 m,.int .i64 n,.pointer (some ⟨bc,0,none⟩),.pointer (some ⟨bo,0,none⟩),.pointer (some ⟨bf,0,none⟩),.pointer (some ⟨bg,0,none⟩)] h=some (.tuple ⟨[]⟩,h')→
    kE M fl (.func (.func fn.aM) ⟨[]⟩ ⟨[.pointer (some ⟨bc,0,none⟩),.pointer (some ⟨bo,0,none⟩),.pointer (some ⟨bf,0,none⟩),.pointer (some ⟨bg,0,none⟩)]⟩) [.slice s.a s.l s.c,.int .i64 m,.int .i64 n] h K=K (.tuple ⟨[]⟩) h':=by
    intro s m n h h' K e
    unfold kE
    simp only[List.nil_append,List.cons_append]
    rw[e]
   rw[cv _ _ _ _ _ _ a1]
   simp only[bj,ch]
   rw[lv aAm,vG (s:=some g) (az8.cell rfl),ah b1]
   simp only[bB]
   rw[cv _ _ _ _ _ _ d1]
end
end Go.Abs.P
end
section
namespace Go.Abs.P
open Go.Abs Go.Fld
theorem _root_.Go.Abs.RR.lt{h:AH}{s:Sl}{rows:List (List Int)}(p:RR h s rows)(iH:∀r∈rows,r≠[]):S7 (·<h.next) h s rows:=⟨p.len,fun i hi=>by
 obtain⟨a,t,h1,h2,h3,h4⟩:=p.get i hi
 exact⟨a,t,h1,h2,h2,h3,h4,fun q hq=>h4.lt (iH _ (List.getElem_mem hi)) q hq⟩⟩
theorem ar6{fl:Nat}{h:AH}(v0:Value)(v:Nat→Value)(bL:fl≤h.next)(hv:yp (v h.next)=true):∃h2,(∀{R:Type} (K:Nat→AH→Option R),(cU h [v0] fun b h1=>st fl h1 ⟨b,0,none⟩ [v b] fun h2=>K b h2)=K h.next h2)∧OB h2 h.next [v h.next]∧aj h h2:=by
 have o:=OB.alloc h [v0]
 refine⟨(h.alloc [v0]).put h.next (some [v h.next]),fun K=>?_,o.put _,(aj.alloc ..).put (Nat.le_refl _) _⟩
 show st fl (h.alloc [v0]) ⟨h.next,0,none⟩ [v h.next] _=_
 rw[o.st bL (by simp) hv];rfl
structure COK(p m:Int)(xs:List Int)(n:Int)(rs:List (List Int))(D:FD)(gen:Nat)(hg:D.aK gen)(N:Nat)(rows:List (List (El D))):Prop where
 hF:Ow p m xs D
 en:n=(N:Int)
 n1:1≤N
 n64:N≤64
 er:rs=rows.map vl
 wid:Fld.fy N rows
 eq:((FD.aC hg).aY rows N).1=rows
 le:rows.length≤256
theorem Xt.zero{p m:Int}{xs:List Int}{n:Int}{rs:List (List Int)}(h:Xt p m xs n rs 0):∃(D:FD) (gen:Nat) (hg:D.aK gen) (N:Nat) (rows:List (List (El D))),COK p m xs n rs D gen hg N rows:=by
 cases h with
 |kA nf he=>omega
 |len f hn he=>omega
 |sp f hn he=>cases he with
  |kA nf he=>omega
  |bad D gen hF hg ne he=>exact absurd he.symm ne
  |form D gen hF hg rows er wid z ne he=>omega
  |ok D gen hF hg rows er wid z eq he=>
   obtain⟨z1,z2,z3,_⟩:=xW z
   refine⟨D,gen,hg,n.toNat,rows,hF,by omega,by omega,by omega,er,wid,eq,?_⟩
   rw[er,List.length_map] at z3
   omega
def zZ{D:FD}{gen:Nat}(hg:D.aK gen)(N:Nat)(rows:List (List (El D))):List Nat:=(FD.aC hg).frm N 0 rows 0 (List.replicate (2^N) 0)
@[simp] theorem ar7{D:FD}{gen:Nat}(hg:D.aK gen)(N:Nat)(rows:List (List (El D))):(zZ hg N rows).length=2^N:=by unfold zZ;rw[Fld.wP];simp
inductive DiR (h':AH) (p m:Int) (xs:List Int) (n:Int) (rs:List (List Int)) (v:Value):Prop where
 |err (e:Int) (ce:Xt p m xs n rs e) (ne:e≠0) (hv:v=.tuple ⟨[.slice none 0 0,.int .i64 e]⟩)
 |big (ce:Xt p m xs n rs 0) (hn:16<n) (hv:v=.tuple ⟨[.slice none 0 0,.int .i64 8]⟩)
 |ok (D:FD) (gen:Nat) (hg:D.aK gen) (N:Nat) (rows:List (List (El D))) (ce:Xt p m xs n rs 0) (ck:COK p m xs n rs D gen hg N rows) (hN:N≤16) (s:Sl) (si:SI h' s (ints (zZ hg N rows))) (hv:v=.tuple ⟨[.slice s.a s.l s.c,.int .i64 0]⟩)
section
variable{fl:Nat}{h:AH}{mod:Sl}{xs:List Int}
theorem ahK(p m:Int)(bu:SI h mod xs)(hb:xs.length≤po)(bL:fl≤h.next){n:Int}{s:Sl}{rs:List (List Int)}(hs:RR h s rs)(hm:rs.length≤65536)(hw:∀r∈rs,r.length≤65536):
 ∃(h':AH) (v:Value),M fl fn.je [ca p m mod n s] h=some (v,h')∧aj h h'∧DiR h' p m xs n rs v:=by
 have o1:=OB.alloc h [.int .i64 p,.int .i64 m,.slice mod.a mod.l mod.c,.int .i64 n,.slice s.a s.l s.c]
 have q1:=aj.alloc h [.int .i64 p,.int .i64 m,.slice mod.a mod.l mod.c,.int .i64 n,.slice s.a s.l s.c]
 generalize dB:h.alloc [.int .i64 p,.int .i64 m,.slice mod.a mod.l mod.c,.int .i64 n,.slice s.a s.l s.c]=h1 at o1 q1
 have l1:=q1.1
 have go:∀{r},TE M fl 1 (fun y2 y3 q=>some (Value.tuple ⟨[.slice y2.a y2.l y2.c,.int .i64 y3]⟩,q)) p m mod n s h=some r→M fl fn.je [ca p m mod n s] h=some r:=by
  intro r he
  refine aR (k:=1) (by decide) zL ?_
  unfold ca
  rw[vQ];exact he
 obtain⟨h2,e,c1,c2,c3⟩:=Nj (fl:=fl) p m (bu.quiet q1) hb (by omega) (n:=n) (hs.quiet q1) hm hw
 have q2:=q1.trans c2
 have o2:=o1.quiet c2
 have l2:=q2.1
 unfold ca at c1
 by_cases ze:e=0
 ·subst ze
  obtain⟨D,gen,hg,N,rows,ck⟩:=Xt.zero c3
  have en:=ck.en
  by_cases big:16<n
  ·refine⟨h2,_,go ?_,q2,.big c3 big rfl⟩
   unfold TE
   rw[aW dB,ae (o1.cell rfl),ae (o1.cell rfl),ai (s:=mod) (o1.cell rfl),ae (o1.cell rfl),ai (s:=s) (o1.cell rfl),ah c1]
   simp only[asInt,if_true]
   rw[if_neg (by simp),ae (o2.cell rfl),if_pos (by simpa using big)]
  ·obtain⟨h3,q3,hN⟩:=Kj (fl:=fl) p m (bu.quiet q2) hb (by omega)
   rcases hN with⟨nf,_⟩|⟨D',wR,g,HM,gf,gb,eN⟩
   ·exact absurd ⟨D,gen,ck.hF,hg⟩ nf
   ·have eD:D'=D:=cX HM ck.hF
    subst eD
    have q03:=q2.trans q3
    have l3:=q03.1
    obtain⟨h4,k4,o4,q4⟩:=Bk (fl:=fl) (h:=h3) (.pointer none) (.pointer (some g)) (by omega) rfl
    have q04:=q03.trans q4
    have l4:=q04.1
    have o5:=OB.alloc h4 (List.replicate (2^N) (Value.int .i64 0))
    have q5:=aj.alloc h4 (List.replicate (2^N) (Value.int .i64 0))
    have hpw:(2:Nat)^N≤2^16:=Nat.pow_le_pow_right (by omega) (by omega)
    have hmk:=fun(K:Sl→AH→Option (Value×AH))=>jb (bytes:=8) (v:=.int .i64 0) (n:=2^N) (by unfold lk;omega) h4 K
    have n45:(h4.alloc (List.replicate (2^N) (Value.int .i64 0))).next=h4.next+1:=rfl
    generalize h4.alloc (List.replicate (2^N) (Value.int .i64 0))=h5 at o5 q5 hmk n45
    obtain⟨h6,k6,o6,q6⟩:=Bk (fl:=fl) (h:=h5) (.slice none 0 0) (.slice (some ⟨h4.next,0,none⟩) (2^N) (2^N)) (by omega) rfl
    have l6:=q6.1
    have l65:=o6.1
    obtain⟨h7,k7,o7,q7⟩:=ar6 (fl:=fl) (h:=h6) .nilFunc (fun b=>.func (.func fn.aM) ⟨[]⟩ ⟨[.pointer (some ⟨h.next,0,none⟩),.pointer (some ⟨h5.next,0,none⟩),.pointer (some ⟨b,0,none⟩),.pointer (some ⟨h3.next,0,none⟩)]⟩) (by omega) rfl
    have l7:=q7.1
    have q37:=((q4.trans q5).trans q6).trans q7
    have q07:=q03.trans q37
    have n34:=o4.1
    have ol:=o1.1
    have fr:FR (D:=D') (fl:=fl) wR h7 h7 g h4.next h.next h5.next h6.next h3.next N [.int .i64 p,.int .i64 m,.slice mod.a mod.l mod.c,.int .i64 n,.slice s.a s.l s.c]:=
     ⟨iI.refl _ _,by rw[en];rfl,o2.quiet (q3.trans q37),o6.quiet q7,o7,o4.quiet ((q5.trans q6).trans q7),⟨by omega,by omega,by omega,by omega⟩,fun h' bt=>gf.quiet (bt.quiet q37 (fun a ha=>by cases ha;simp only;omega)),by omega,by omega⟩
    have hrs:S7 (·≠h4.next) h7 s (rows.map vl):=by
     have:=hs.lt (fun r hr=>by
      rw[ck.er] at hr
      obtain⟨r',hr',rfl⟩:=List.mem_map.1 hr
      intro e
      have h1:(vl r').length=0:=by rw[e];rfl
      have h2:=ck.wid r' hr'
      have h3:=ck.n1
      rw[cB] at h1;omega)
     rw[ck.er] at this
     exact(this.imp (fun b hb=>by omega)).quiet q07
    have er:List.replicate (2^N) (Value.int .i64 0)=iv (ints (List.replicate (2^N) 0)):=oi _
    rw[er] at o5
    have lle:=ck.le
    obtain⟨h8,f1,f2,f3⟩:=ahJ (fl:=fl) (gen:=wR) (g:=g) (show D'.aK wR from gf.RM) (h0:=h7) (by omega) N 0 0 rows s (List.replicate (2^N) 0) h7 (by omega) (by simp) ck.wid (by omega) (by simp) fr hrs ((o5.quiet q6).quiet q7)
    have q08:aj h h8:=f2.quiet q07 (fun a ha=>by cases ha;simp only;omega)
    have f3':OB h8 h4.next (iv (ints (zZ hg N rows))):=f3
    have sir:=f3'.si none (2^N)
    have hlen:(ints (zZ hg N rows)).length=2^N:=by simp[ints]
    rw[hlen] at sir
    refine⟨h8,_,go ?_,q08,.ok D' gen hg N rows c3 ck (by omega) ⟨some ⟨h4.next,0,none⟩,2^N,2^N⟩ sir rfl⟩
    have o18:OB h4 h.next _:=(o2.quiet q3).quiet q4
    have o17:=o2.quiet (q3.trans q37)
    have o68:=f2.ob (o6.quiet q7) (fun a ha=>by cases ha;simp only[ne_eq];omega)
    unfold TE
    rw[aW dB,ae (o1.cell rfl),ae (o1.cell rfl),ai (s:=mod) (o1.cell rfl),ae (o1.cell rfl),ai (s:=s) (o1.cell rfl),ah c1]
    simp only[asInt,if_true]
    rw[if_neg (by simp),ae (o2.cell rfl),if_neg (by simpa using big),ae (o2.cell rfl),ae (o2.cell rfl),ai (s:=mod) (o2.cell rfl),ah eN]
    simp only[bj,aL,ch,fE,asInt,if_true]
    rw[k4,if_neg (by simp),ae (o18.cell rfl),en,afK (by omega),hmk,k6,k7]
    have lv:∀{R:Type} (K:Value→Option R),ldV h7 h6.next 0 K=K (.func (.func fn.aM) ⟨[]⟩ ⟨[.pointer (some ⟨h.next,0,none⟩),.pointer (some ⟨h5.next,0,none⟩),.pointer (some ⟨h6.next,0,none⟩),.pointer (some ⟨h3.next,0,none⟩)]⟩):=by
     intro R K
     unfold ldV
     rw[o7.cell rfl]
    rw[lv,ai (s:=s) (o17.cell rfl)]
    have f1':M fl fn.aM [.slice s.a s.l s.c,.int .i64 0,.int .i64 0,.pointer (some ⟨h.next,0,none⟩),.pointer (some ⟨h5.next,0,none⟩),.pointer (some ⟨h6.next,0,none⟩),.pointer (some ⟨h3.next,0,none⟩)] h7=some (.tuple ⟨[]⟩,h8):=f1
    unfold kE
    simp only[List.nil_append,List.cons_append]
    rw[f1']
    dsimp only
    rw[ai (s:=⟨some ⟨h4.next,0,none⟩,2^N,2^N⟩) (o68.cell rfl)]
 ·refine⟨h2,_,go ?_,q2,.err e c3 ze rfl⟩
  unfold TE
  rw[aW dB,ae (o1.cell rfl),ae (o1.cell rfl),ai (s:=mod) (o1.cell rfl),ae (o1.cell rfl),ai (s:=s) (o1.cell rfl),ah c1]
  simp only[asInt,if_true]
  rw[if_pos (by simpa using ze)]
end
end Go.Abs.P
end
section
namespace Go.Abs.P
open Go.Abs Go.Fld
def dK(N mask:Nat):List Nat:=(List.range N).filter fun i=>decide (mask/2^i%2=1)
theorem rJ(i mask:Nat):dK (i+1) mask=dK i mask++if mask/2^i%2=1 then [i] else []:=by
 unfold dK
 rw[List.range_succ,List.filter_append]
 congr 1
 by_cases c:mask/2^i%2=1<;>simp[c]
theorem acC{i mask:Nat}(h:mask/2^i=0):∀d,dK (i+d) mask=dK i mask:=by
 intro d
 induction d with
 |zero=>rfl
 |succ d ih=>
  have hlt:mask<2^i:=by
   rcases Nat.div_eq_zero_iff.1 h with h|h
   ·have:=Nat.two_pow_pos i;omega
   ·exact h
  have h2:mask<2^(i+d):=Nat.lt_of_lt_of_le hlt (Nat.pow_le_pow_right (by omega) (by omega))
  rw[show i+(d+1)=i+d+1 from rfl,rJ,ih,Nat.div_eq_of_lt h2];simp
theorem TQ(N mask:Nat):(dK N mask).length≤N:=by
 have:=List.length_filter_le (fun i=>decide (mask/2^i%2=1)) (List.range N)
 rw[List.length_range] at this
 exact this
section
variable{fl:Nat}
theorem ahL{R:Type}{k:Nat}(kn:an R){h0:AH}{N mask:Nat}(hN:N≤60)(T8:mask<2^N)(bL:fl≤h0.next):
 ∀(d i f:Nat) (s:Sl) (h:AH),i+d=N→d<f→OV h0.next h s (iv (ints (dK i mask)))→aj h0 h→
 ∃h' s',nM M fl k kn f (mask:Int) s (i:Int) h=kn s' h'∧OV h0.next h' s' (iv (ints (dK N mask)))∧aj h0 h':=by
 intro d
 induction d with
 |zero=>
  intro i f s h hi hf ho hq
  obtain⟨f,rfl⟩:∃j,f=j+1:=⟨f-1,by omega⟩
  obtain rfl:i=N:=by omega
  refine⟨h,s,?_,ho,hq⟩
  show qh M fl k _ _ _ _ _ h=_
  unfold qh vR
  rw[W4 (by omega),Nat.div_eq_of_lt T8,if_neg (by simp)]
 |succ d ih=>
  intro i f s h hi hf ho hq
  obtain⟨f,rfl⟩:∃j,f=j+1:=⟨f-1,by omega⟩
  have un:nM M fl k kn (f+1) (mask:Int) s (i:Int) h=qh M fl k (nM M fl k kn f) kn (mask:Int) s (i:Int) h:=rfl
  rw[un]
  unfold qh vR
  rw[W4 (by omega)]
  by_cases c:mask/2^i=0
  ·rw[c,if_neg (by simp)]
   have:=acC c (d+1)
   rw[hi] at this
   exact⟨h,s,rfl,by rw[this];exact ho,hq⟩
  ·have hlt:mask/2^i<2^62:=by
    have h1:(2:Nat)^N≤2^60:=Nat.pow_le_pow_right (by omega) hN
    have h2:=Nat.div_le_self mask (2^i)
    omega
   rw[if_pos (by simp only[decide_eq_true_eq];exact Int.natCast_pos.2 (Nat.pos_of_ne_zero c)),W4 (by omega),amA hlt]
   have n0:=hq.1
   by_cases c1:mask/2^i%2=1
   ·rw[if_pos (by simp[c1])]
    have hll:=TQ i mask
    obtain⟨s6,h7,v1,v2,v3,v4⟩:=ho.push (R:=R) (fl:=fl) (bytes:=8) (x:=.int .i64 (i:Int)) bL (by omega) (by unfold lk;simp[iv,ints];omega) rfl (fun s6 h7=>tF M fl k (nM M fl k kn f) kn (mask:Int) s6 (i:Int) h7)
    have e1:iv (ints (dK i mask))++[Value.int .i64 (i:Int)]=iv (ints (dK (i+1) mask)):=by rw[rJ,if_pos c1,nW,rG];rfl
    rw[e1] at v2
    obtain⟨h',s',r1,r2,r3⟩:=ih (i+1) f s6 h7 (by omega) (by omega) v2 (v3.quiet hq (fun a ha=>ho.ge a ha))
    refine⟨h',s',?_,r2,r3⟩
    refine Eq.trans v1 ?_
    unfold tF
    rw[aw (i+1) (by push_cast;rfl) (by omega)]
    exact r1
   ·rw[if_neg (by simp only[beq_iff_eq];exact fun e=>c1 (by exact_mod_cast e))]
    unfold tF
    rw[aw (i+1) (by push_cast;rfl) (by omega)]
    exact ih (i+1) f s h (by omega) (by omega) (by rw[rJ,if_neg c1,List.append_nil];exact ho) hq
theorem ahM{h:AH}{N mask:Nat}(hN:N≤60)(T8:mask<2^N)(bL:fl≤h.next):
 ∃h' s',M fl fn.jf [.int .i64 (mask:Int)] h=some (.slice s'.a s'.l s'.c,h')∧OV h.next h' s' (iv (ints (dK N mask)))∧aj h h':=by
 obtain⟨h',s',e1,e2,e3⟩:=ahL (fl:=fl) (k:=N+1) (KW M fl (N+1) (fun y2 q=>some (Value.slice y2.a y2.l y2.c,q))) hN T8 bL N 0 (N+1) ⟨none,0,0⟩ h (by omega) (by omega) (OV.nil _ _) (aj.refl h)
 refine⟨h',s',aR (k:=N+1) (by decide) zM ?_,e2,e3⟩
 rw[vS]
 unfold jf ajX U3 U2
 exact e1
def fD(N:Nat)(L:List Nat):Nat→List Nat
 |0=>List.replicate (N+1) 0
 |j+1=>(fD N L j).set (dK N j).length (if L.getD j 0>(fD N L j).getD (dK N j).length 0 then L.getD j 0 else (fD N L j).getD (dK N j).length 0)
@[simp] theorem vb(N:Nat)(L:List Nat):∀j,(fD N L j).length=N+1
  |0=>by simp[fD]
  |j+1=>by unfold fD;rw[List.length_set];exact vb N L j
theorem ahN{R:Type}{k:Nat}(kn:an R){h0:AH}{b cp N:Nat}{s:Sl}{L:List Nat}(hs:SI h0 s (ints L))(hL:L.length=2^N)(hN:N≤16)(hb:h0.next≤b)(bL:fl≤h0.next):
 ∀(d j f:Nat) (h:AH),j+d=2^N→d<f→OB h b (iv (ints (fD N L j)))→aj h0 h→
 ∃h',qd M fl k kn f ⟨some ⟨b,0,none⟩,N+1,cp⟩ s ((2^N:Nat):Int) (j:Int) h=kn ⟨some ⟨b,0,none⟩,N+1,cp⟩ h'∧OB h' b (iv (ints (fD N L (2^N))))∧aj h0 h':=by
 have hpw:(2:Nat)^N≤2^16:=Nat.pow_le_pow_right (by omega) (by omega)
 intro d
 induction d with
 |zero=>
  intro j f h hj hf ho hq
  obtain⟨f,rfl⟩:∃j,f=j+1:=⟨f-1,by omega⟩
  obtain rfl:j=2^N:=by omega
  refine⟨h,?_,ho,hq⟩
  show qc M fl k _ _ _ _ _ _ h=_
  unfold qc
  rw[if_neg (by simp)]
 |succ d ih=>
  intro j f h hj hf ho hq
  obtain⟨f,rfl⟩:∃j,f=j+1:=⟨f-1,by omega⟩
  have Oz:j<2^N:=by omega
  have un:qd M fl k kn (f+1) ⟨some ⟨b,0,none⟩,N+1,cp⟩ s ((2^N:Nat):Int) (j:Int) h=qc M fl k (qd M fl k kn f) kn ⟨some ⟨b,0,none⟩,N+1,cp⟩ s ((2^N:Nat):Int) (j:Int) h:=rfl
  rw[un]
  unfold qc
  have n0:=hq.1
  rw[if_pos (by simp only[decide_eq_true_eq];exact_mod_cast Oz),(hs.quiet hq).read (i:=(j:Int)) (by omega) (by simp[ints,hL];omega)]
  obtain⟨h4,s5,a1,a2,a3⟩:=ahM (fl:=fl) (h:=h) (N:=N) (by omega) Oz (by omega)
  rw[ah a1]
  simp only[bB,Int.toNat_natCast,dC]
  have Fe:s5.l=(dK N j).length:=by rw[a2.len];simp[iv,ints]
  have hcn:=TQ N j
  have ho4:=ho.quiet a3
  have hgl:L.getD j 0=L[j]'(by omega):=by rw[List.getD_eq_getElem?_getD,List.getElem?_eq_getElem (by omega)];rfl
  have hgp:(fD N L j).getD (dK N j).length 0=(fD N L j)[(dK N j).length]'(by rw[vb];omega):=by rw[List.getD_eq_getElem?_getD,List.getElem?_eq_getElem (by rw[vb];omega)];rfl
  rw[Fe,aU rfl (show(dK N j).length<N+1 by omega)]
  dsimp only
  rw[ae (n:=((fD N L j).getD (dK N j).length 0:Nat)) (ho4.cell (by
   rw[Nat.zero_add,FP _ _ (by simp[ints];omega),dC,hgp]))]
  rw[aU rfl (show(dK N j).length<N+1 by omega)]
  have hv:(if ((L[j]'(by omega):Nat):Int)>((fD N L j).getD (dK N j).length 0:Nat) then ((L[j]'(by omega):Nat):Int) else ((fD N L j).getD (dK N j).length 0:Nat))=((if L.getD j 0>(fD N L j).getD (dK N j).length 0 then L.getD j 0 else (fD N L j).getD (dK N j).length 0:Nat):Int):=by
   rw[hgl]
   by_cases c:L[j]'(by omega)>(fD N L j).getD (dK N j).length 0
   ·rw[if_pos c,if_pos (by omega)]
   ·rw[if_neg c,if_neg (by omega)]
  rw[hv,ho4.st (by omega) (by simp[iv,ints];omega) rfl,Nat.zero_add,kI,ints_set,aw (j+1) (by push_cast;rfl) (by omega)]
  exact ih (j+1) f _ (by omega) (by omega) (ho4.put _) ((hq.trans a3).put hb _)
inductive PrR (h':AH) (p m:Int) (xs:List Int) (n:Int) (rs:List (List Int)) (f:∀(D:FD) (gen:Nat) (_:D.aK gen) (N:Nat) (_:List (List (El D))),List Int) (v:Value):Prop where
 |err (e:Int) (ce:Xt p m xs n rs e) (ne:e≠0) (hv:v=.tuple ⟨[.slice none 0 0,.int .i64 e]⟩)
 |big (ce:Xt p m xs n rs 0) (hn:16<n) (hv:v=.tuple ⟨[.slice none 0 0,.int .i64 8]⟩)
 |ok (D:FD) (gen:Nat) (hg:D.aK gen) (N:Nat) (rows:List (List (El D))) (ce:Xt p m xs n rs 0) (ck:COK p m xs n rs D gen hg N rows) (hN:N≤16) (s:Sl) (si:SI h' s (f D gen hg N rows)) (hv:v=.tuple ⟨[.slice s.a s.l s.c,.int .i64 0]⟩)
def aw3(D:FD)(gen:Nat)(hg:D.aK gen)(N:Nat)(rows:List (List (El D))):List Int:=ints (fD N (zZ hg N rows) (2^N))
variable{h:AH}{mod:Sl}{xs:List Int}
theorem W5(p m:Int)(bu:SI h mod xs)(hb:xs.length≤po)(bL:fl≤h.next){n:Int}{s:Sl}{rs:List (List Int)}(hs:RR h s rs)(hm:rs.length≤65536)(hw:∀r∈rs,r.length≤65536):
 ∃(h':AH) (v:Value),M fl fn.fe [ca p m mod n s] h=some (v,h')∧aj h h'∧PrR h' p m xs n rs aw3 v:=by
 have o1:=OB.alloc h [.int .i64 p,.int .i64 m,.slice mod.a mod.l mod.c,.int .i64 n,.slice s.a s.l s.c]
 have q1:=aj.alloc h [.int .i64 p,.int .i64 m,.slice mod.a mod.l mod.c,.int .i64 n,.slice s.a s.l s.c]
 generalize dB:h.alloc [.int .i64 p,.int .i64 m,.slice mod.a mod.l mod.c,.int .i64 n,.slice s.a s.l s.c]=h1 at o1 q1
 have l1:=q1.1
 have go:∀{k r},TD M fl k (fun y2 y3 q=>some (Value.tuple ⟨[.slice y2.a y2.l y2.c,.int .i64 y3]⟩,q)) p m mod n s h=some r→M fl fn.fe [ca p m mod n s] h=some r:=by
  intro k r he
  refine aR (k:=k) (by decide) uC ?_
  unfold ca
  rw[pF];exact he
 obtain⟨h2,v,c1,c2,c3⟩:=ahK (fl:=fl) p m (bu.quiet q1) hb (by omega) (n:=n) (hs.quiet q1) hm hw
 have q2:=q1.trans c2
 have o2:=o1.quiet c2
 have l2:=q2.1
 unfold ca at c1
 cases c3 with
 |err e ce ne hv=>
  subst hv
  refine⟨h2,_,go (k:=1) ?_,q2,.err e ce ne rfl⟩
  unfold TD KV
  rw[aW dB,ae (o1.cell rfl),ae (o1.cell rfl),ai (s:=mod) (o1.cell rfl),ae (o1.cell rfl),ai (s:=s) (o1.cell rfl),ah c1]
  simp only[bj,aL,ch,bB,asInt,if_true]
  rw[if_pos (by simpa using ne)]
 |big ce hn hv=>
  subst hv
  refine⟨h2,_,go (k:=1) ?_,q2,.big ce hn rfl⟩
  unfold TD KV
  rw[aW dB,ae (o1.cell rfl),ae (o1.cell rfl),ai (s:=mod) (o1.cell rfl),ae (o1.cell rfl),ai (s:=s) (o1.cell rfl),ah c1]
  simp only[bj,aL,ch,bB,asInt,if_true]
  rw[if_pos (by simp)]
 |ok D gen hg N rows ce ck hN t si hv=>
  subst hv
  obtain⟨ta,tl,tc⟩:=t
  have hl:tl=2^N:=by have:=si.len;simpa [ints] using this
  subst hl
  have en:=ck.en
  have o3:=OB.alloc h2 (List.replicate (N+1) (Value.int .i64 0))
  have q3:=aj.alloc h2 (List.replicate (N+1) (Value.int .i64 0))
  have hmk:=fun(K:Sl→AH→Option (Value×AH))=>jb (bytes:=8) (v:=.int .i64 0) (n:=N+1) (by unfold lk;omega) h2 K
  generalize h2.alloc (List.replicate (N+1) (Value.int .i64 0))=h3 at o3 q3 hmk
  rw[oi] at o3
  obtain⟨h4,e1,e2,e3⟩:=ahN (fl:=fl) (k:=2^N+1) (cp:=N+1) (KU M fl (2^N+1) (fun y2 y3 q=>some (Value.tuple ⟨[.slice y2.a y2.l y2.c,.int .i64 y3]⟩,q))) (h0:=h2) (b:=h2.next) si (by simp) hN (Nat.le_refl _) (by omega) (2^N) 0 (2^N+1) h3 (by omega) (by omega) o3 q3
  have sir:=e2.si none (N+1)
  have hlen:(ints (fD N (zZ hg N rows) (2^N))).length=N+1:=by simp[ints]
  rw[hlen] at sir
  refine⟨h4,_,go (k:=2^N+1) ?_,q2.trans e3,.ok D gen hg N rows ce ck hN ⟨some ⟨h2.next,0,none⟩,N+1,N+1⟩ sir rfl⟩
  unfold TD KV UL
  rw[aW dB,ae (o1.cell rfl),ae (o1.cell rfl),ai (s:=mod) (o1.cell rfl),ae (o1.cell rfl),ai (s:=s) (o1.cell rfl),ah c1]
  simp only[bj,aL,ch,bB,asInt,if_true]
  rw[if_neg (by simp),ae (o2.cell rfl),en,aw (N+1) (by push_cast;rfl) (by omega),hmk]
  exact e1
end
end Go.Abs.P
end
section
namespace Go.Abs.P
open Go.Abs Go.Fld
def RK(P:List Nat)(r:Nat):Int:=if P.findIdx (fun d=>decide (r≤d))<P.length then ((P.findIdx (fun d=>decide (r≤d)):Nat):Int) else-1
def HH(P:List Nat)(k:Nat):List Int:=(List.range k).map fun r=>RK P (r+1)
theorem ahO(P:List Nat)(k:Nat):HH P (k+1)=HH P k++[RK P (k+1)]:=by
 unfold HH;rw[List.range_succ,List.map_append];rfl
section
variable{fl:Nat}{h:AH}
theorem acD{R:Type}{k:Nat}(kn:av R)(kr:ag R){bx r:Nat}{P:List Nat}{s:Sl}(hx:OB h bx [.int .i64 (r:Int)])(hs:SI h s (ints P))(hm:P.length≤65536):
 ∀(d j m:Nat),j+d=P.length→d<m→(∀j' (_:j'<j) (hj:j'<P.length),decide (r≤P[j'])=false)→
 vm M fl k kn kr m s (.func (.func fn.cJ) ⟨[]⟩ ⟨[.pointer (some ⟨bx,0,none⟩)]⟩) (P.length:Int) (j:Int) h=
  if P.findIdx (fun d=>decide (r≤d))<P.length then kr ((P.findIdx (fun d=>decide (r≤d)):Nat):Int) h else kn h:=by
 intro d
 induction d with
 |zero=>
  intro j m hj hm' hp
  obtain⟨m,rfl⟩:∃j,m=j+1:=⟨m-1,by omega⟩
  show ji M fl k _ _ kr _ _ _ _ h=_
  unfold ji
  rw[if_neg (by simp;omega),if_neg]
  intro hlt
  have h1:=List.findIdx_getElem (w:=hlt)
  have h2:=hp _ (by omega) hlt
  rw[h2] at h1;cases h1
 |succ d ih=>
  intro j m hj hm' hp
  obtain⟨m,rfl⟩:∃j,m=j+1:=⟨m-1,by omega⟩
  have Oz:j<P.length:=by omega
  show ji M fl k _ _ kr _ _ _ _ h=_
  unfold ji
  rw[if_pos (by simp;omega),hs.read (by omega) (by simp[ints];exact Oz)]
  simp only[Int.toNat_natCast,dC]
  have run:M fl fn.cJ [.int .i64 (P[j]:Nat),.pointer (some ⟨bx,0,none⟩)] h=some (.bool (decide (r≤P[j])),h):=by
   refine aR (k:=1) (by decide) pL ?_
   rw[nL]
   unfold cJ ajU
   rw[ae (hx.cell rfl)]
   have:decide (((P[j]:Nat):Int)≥(r:Int))=decide (r≤P[j]):=by
    by_cases c:r≤P[j]
    ·rw[decide_eq_true c,decide_eq_true (by omega)]
    ·rw[decide_eq_false c,decide_eq_false (by omega)]
   rw[this]
  unfold kE
  simp only[List.nil_append]
  rw[show([Value.int .i64 ((P[j]:Nat):Int)]++[Value.pointer (some ⟨bx,0,none⟩)])=[.int .i64 (P[j]:Nat),.pointer (some ⟨bx,0,none⟩)] from rfl,run]
  simp only[asBool]
  by_cases hz:r≤P[j]
  ·rw[if_pos (by simpa using hz)]
   have hf:P.findIdx (fun d=>decide (r≤d))=j:=by
    rw[List.findIdx_eq Oz]
    exact⟨by simpa using hz,fun j' h1=>hp j' h1 (by omega)⟩
   rw[hf,if_pos Oz]
  ·rw[if_neg (by simpa using hz),aw (j+1) (by push_cast;rfl) (by omega)]
   refine ih (j+1) m (by omega) (by omega) ?_
   intro j' h1 h2
   by_cases e:j'=j
   ·subst e;simpa using hz
   ·exact hp j' (by omega) h2
theorem acE{bx r:Nat}{P:List Nat}{s:Sl}(hx:OB h bx [.int .i64 (r:Int)])(hs:SI h s (ints P))(hm:P.length≤65536):
 M fl fn.bZ [.slice s.a s.l s.c,.func (.func fn.cJ) ⟨[]⟩ ⟨[.pointer (some ⟨bx,0,none⟩)]⟩] h=some (.int .i64 (RK P r),h):=by
 have:=acD (fl:=fl) (k:=P.length+1) (DY M fl (P.length+1) (fun y4 q=>some (Value.int .i64 y4,q))) (fun y4 q=>some (Value.int .i64 y4,q)) hx hs hm P.length 0 (P.length+1) (by omega) (by omega) (fun j' h1=>by omega)
 refine aR (k:=P.length+1) (by decide) ka ?_
 rw[jj]
 unfold bZ adY Ql OR
 have hl:s.l=P.length:=by rw[hs.len];simp[ints]
 rw[hl]
 refine Eq.trans this ?_
 unfold RK
 split<;>rfl
theorem amC{R:Type}{k:Nat}(kn:an R){h0:AH}{bc K:Nat}{cs:List Value}{g s:Sl}{P:List Nat}(hc:OB h0 bc cs)(c4:cs[4]?=some (.slice g.a g.l g.c))(hg:g.l=K)(hK:K≤65536)(hs:SI h0 s (ints P))(hP:P.length≤65536)(bL:fl≤h0.next):
 ∀(d j f:Nat) (t:Sl) (br:Nat) (h:AH),j+d=K→d<f→OV h0.next h t (iv (HH P j))→aj h0 h→OB h br [.int .i64 ((j+1:Nat):Int)]→(∀a,t.a=some a→a.block≠br)→
 ∃h' t',nK M fl k kn f ⟨bc,0,none⟩ s t ⟨br,0,none⟩ h=kn t' h'∧OV h0.next h' t' (iv (HH P K))∧aj h0 h':=by
 intro d
 induction d with
 |zero=>
  intro j f t br h hj hf ho hq hb iH
  obtain⟨f,rfl⟩:∃j,f=j+1:=⟨f-1,by omega⟩
  obtain rfl:j=K:=by omega
  refine⟨h,t,?_,ho,hq⟩
  show qb M fl k _ _ _ _ _ _ h=_
  unfold qb
  rw[ae (hb.cell rfl),ai (s:=g) ((hc.quiet hq).cell (by rw[Nat.zero_add];exact c4)),if_neg (by simp;omega)]
 |succ d ih=>
  intro j f t br h hj hf ho hq hb iH
  obtain⟨f,rfl⟩:∃j,f=j+1:=⟨f-1,by omega⟩
  have un:nK M fl k kn (f+1) ⟨bc,0,none⟩ s t ⟨br,0,none⟩ h=qb M fl k (nK M fl k kn f) kn ⟨bc,0,none⟩ s t ⟨br,0,none⟩ h:=rfl
  rw[un]
  unfold qb
  have n0:=hq.1
  rw[ae (hb.cell rfl),ai (s:=g) ((hc.quiet hq).cell (by rw[Nat.zero_add];exact c4)),if_pos (by simp;omega),ah (acE hb (hs.quiet hq) hP)]
  simp only[asInt,if_true]
  obtain⟨t',h9,v1,v2,v3,v4⟩:=ho.push (R:=R) (fl:=fl) (bytes:=8) (x:=.int .i64 (RK P (j+1))) bL (by omega) (by unfold lk;simp[iv,HH];omega) rfl
   (fun s8 h9=>aF .i64 h9 br 0 fun tO=>cU h9 [.int .i64 0] fun b11 Tb=>st fl Tb ⟨b11,0,none⟩ [.int .i64 tO] fun tN=>aF .i64 tN b11 0 fun BS=>st fl tN ⟨b11,0,none⟩ [.int .i64 (bM (BS+1))] fun EB=>nK M fl k kn f ⟨bc,0,none⟩ s s8 ⟨b11,0,none⟩ EB)
  rw[v1]
  have e1:iv (HH P j)++[Value.int .i64 (RK P (j+1))]=iv (HH P (j+1)):=by rw[ahO,rG];rfl
  rw[e1] at v2
  have hb9:=v3.ob hb (fun a ha=>iH a ha)
  have q9:=v3.quiet hq (fun a ha=>ho.ge a ha)
  have n9:=q9.1
  rw[ae (hb9.cell rfl)]
  obtain⟨tN,k13,o13,Xu⟩:=Bk (fl:=fl) (h:=h9) (.int .i64 0) (.int .i64 ((j+1:Nat):Int)) (by omega) rfl
  rw[k13,ae (o13.cell rfl),o13.st (by omega) (by simp) rfl,aw (j+2) (by push_cast;omega) (by omega)]
  have q15:aj h9 (tN.put h9.next (some [.int .i64 ((j+2:Nat):Int)])):=Xu.put (Nat.le_refl _) _
  exact ih (j+1) f t' h9.next _ (by omega) (by omega) (v2.quiet q15) (q9.trans q15) (o13.put _) (fun a ha=>by have:=OV.lt v2 a ha;simp only[ne_eq];omega)
def amD(D:FD)(gen:Nat)(hg:D.aK gen)(N:Nat)(rows:List (List (El D))):List Int:=HH (fD N (zZ hg N rows) (2^N)) rows.length
variable{mod:Sl}{xs:List Int}
theorem W6(p m:Int)(bu:SI h mod xs)(hb:xs.length≤po)(bL:fl≤h.next){n:Int}{s:Sl}{rs:List (List Int)}(hs:RR h s rs)(hm:rs.length≤65536)(hw:∀r∈rs,r.length≤65536):
 ∃(h':AH) (v:Value),M fl fn.fc [ca p m mod n s] h=some (v,h')∧aj h h'∧PrR h' p m xs n rs amD v:=by
 have o1:=OB.alloc h [.int .i64 p,.int .i64 m,.slice mod.a mod.l mod.c,.int .i64 n,.slice s.a s.l s.c]
 have q1:=aj.alloc h [.int .i64 p,.int .i64 m,.slice mod.a mod.l mod.c,.int .i64 n,.slice s.a s.l s.c]
 generalize dB:h.alloc [.int .i64 p,.int .i64 m,.slice mod.a mod.l mod.c,.int .i64 n,.slice s.a s.l s.c]=h1 at o1 q1
 have l1:=q1.1
 have go:∀{k r},TC M fl k (fun y2 y3 q=>some (Value.tuple ⟨[.slice y2.a y2.l y2.c,.int .i64 y3]⟩,q)) p m mod n s h=some r→M fl fn.fc [ca p m mod n s] h=some r:=by
  intro k r he
  refine aR (k:=k) (by decide) uB ?_
  unfold ca
  rw[pE];exact he
 obtain⟨h2,v,c1,c2,c3⟩:=W5 (fl:=fl) p m (bu.quiet q1) hb (by omega) (n:=n) (hs.quiet q1) hm hw
 have q2:=q1.trans c2
 have o2:=o1.quiet c2
 have l2:=q2.1
 unfold ca at c1
 cases c3 with
 |err e ce ne hv=>
  subst hv
  refine⟨h2,_,go (k:=1) ?_,q2,.err e ce ne rfl⟩
  unfold TC KT
  rw[aW dB,ae (o1.cell rfl),ae (o1.cell rfl),ai (s:=mod) (o1.cell rfl),ae (o1.cell rfl),ai (s:=s) (o1.cell rfl),ah c1]
  simp only[bj,aL,ch,bB,asInt,if_true]
  rw[if_pos (by simpa using ne)]
 |big ce hn hv=>
  subst hv
  refine⟨h2,_,go (k:=1) ?_,q2,.big ce hn rfl⟩
  unfold TC KT
  rw[aW dB,ae (o1.cell rfl),ae (o1.cell rfl),ai (s:=mod) (o1.cell rfl),ae (o1.cell rfl),ai (s:=s) (o1.cell rfl),ah c1]
  simp only[bj,aL,ch,bB,asInt,if_true]
  rw[if_pos (by simp)]
 |ok D gen hg N rows ce ck hN t si hv=>
  subst hv
  have hle:=ck.le
  have Fe:s.l=rows.length:=by rw[hs.len,ck.er,List.length_map]
  obtain⟨h3,k3,o3,q3⟩:=Bk (fl:=fl) (h:=h2) (.int .i64 0) (.int .i64 1) (by omega) rfl
  obtain⟨h4,t',e1,e2,e3⟩:=amC (fl:=fl) (k:=rows.length+1) (KS M fl (rows.length+1) (fun y2 y3 q=>some (Value.tuple ⟨[.slice y2.a y2.l y2.c,.int .i64 y3]⟩,q))) (h0:=h3) (g:=s) (K:=rows.length) (o2.quiet q3) rfl Fe (by omega) (si.quiet q3) (by simp;omega) (by have:=q3.1;omega) rows.length 0 (rows.length+1) ⟨none,0,0⟩ h2.next h3 (by omega) (by omega) (OV.nil _ _) (aj.refl _) o3 (fun a ha=>by cases ha)
  refine⟨h4,_,go (k:=rows.length+1) ?_,(q2.trans q3).trans e3,.ok D gen hg N rows ce ck hN t' e2.si rfl⟩
  unfold TC KT UJ
  rw[aW dB,ae (o1.cell rfl),ae (o1.cell rfl),ai (s:=mod) (o1.cell rfl),ae (o1.cell rfl),ai (s:=s) (o1.cell rfl),ah c1]
  simp only[bj,aL,ch,bB,asInt,if_true]
  rw[if_neg (by simp),k3]
  exact e1
end
end Go.Abs.P
end
section
namespace Go.Abs.P
open Go.Abs Go.Fld
def z6(N:Nat)(l:List Nat):List Nat:=(List.range N).filter fun i=>decide (i∉l)
section
variable{D:FD}{gen:Nat}(hg:D.aK gen){mod:Sl}{h:AH}{fl:Nat}
end
def wQ{D:FD}{gen:Nat}(hg:D.aK gen)(N:Nat)(rows:List (List (El D)))(l:List Nat):Nat:=((z6 N l).foldl (FD.aC hg).wo rows).length
section
variable{h:AH}{fl:Nat}{mod:Sl}{xs:List Int}{p m n:Int}{rs:List (List Int)}{s:Sl}{D:FD}{gen:Nat}{hg:D.aK gen}{N:Nat}{rows:List (List (El D))}
end
end Go.Abs.P
end
section
namespace Go.Abs.P
open Go.Abs Go.Fld
def aaL(f:Nat→List (List Nat)):Nat→Nat→List (List Nat)
 |0,_=>[]
 |d+1,i=>(f (i+1)).map (i::·)++aaL f d (i+1)
def mf(n:Nat):Nat→Nat→List (List Nat)
 |0,_=>[[]]
 |z+1,lo=>aaL (mf n z) (n-lo) lo
section
variable{fl:Nat}
end
end Go.Abs.P
end
section
namespace Go.Abs.P
open Go.Abs Go.Fld
section
variable{fl:Nat}{mod:Sl}{xs:List Int}{p m n:Int}{rs:List (List Int)}{s:Sl}{D:FD}{gen:Nat}{hg:D.aK gen}{N:Nat}{rows:List (List (El D))}
abbrev vc(p m:Int)(mod:Sl)(n:Int)(s:Sl):List Value:=[.int .i64 p,.int .i64 m,.slice mod.a mod.l mod.c,.int .i64 n,.slice s.a s.l s.c]
end
end Go.Abs.P
end
section
namespace Go.Abs.P
open Go.Abs Go.Fld
section
variable{fl:Nat}{mod:Sl}{xs:List Int}{p m n:Int}{rs:List (List Int)}{s:Sl}{D:FD}{gen:Nat}{hg:D.aK gen}{N:Nat}{rows:List (List (El D))}
def maxD{D:FD}{gen:Nat}(hg:D.aK gen)(N:Nat)(rows:List (List (El D)))(L:List (List Nat))(m0:Nat):Nat:=L.foldl (fun m l=>if wQ hg N rows l>m then wQ hg N rows l else m) m0
end
end Go.Abs.P
end
section
namespace Go.Abs.P
open Go.Abs Go.Fld
section
variable{D:FD}{gen:Nat}(hg:D.aK gen)
theorem Kn:∀(os:List Nat) (rows:List (List (El D))),rows.length=0→(os.foldl (FD.aC hg).wo rows).length=0
 |[],_,h=>h
 |o::os,rows,h=>Kn os _ (by have:=(FD.aC hg).amB rows o;omega)
theorem ar8{N:Nat}:∀(d next:Nat) (rows:List (List (El D))) (px:Nat) (out:List Nat),next+d=N→px<2^next→out.length=2^N→(∀mask,mask<2^N→mask%2^next=px→out.getD mask 0=0)→
 ∀mask,mask<2^N→((FD.aC hg).frm d next rows px out).getD mask 0=if mask%2^next=px then (((List.range' next d).filter fun i=>decide (mask/2^i%2≠1)).foldl (FD.aC hg).wo rows).length else out.getD mask 0:=by
 intro d
 induction d with
 |zero=>
  intro next rows px out hd h0 hl hz mask hm
  obtain rfl:next=N:=by omega
  unfold Fld.frm
  rw[Nat.mod_eq_of_lt hm]
  by_cases c:rows.length=0
  ·rw[if_pos c]
   by_cases e:mask=px
   ·rw[if_pos e,hz mask hm (by rw[Nat.mod_eq_of_lt hm];exact e)]
    exact c.symm
   ·rw[if_neg e]
  ·rw[if_neg c]
   by_cases e:mask=px
   ·subst e
    rw[if_pos rfl,List.getD_eq_getElem?_getD,List.getElem?_set_self (by omega)];rfl
   ·rw[if_neg e,List.getD_eq_getElem?_getD,List.getElem?_set_ne (fun h=>e h.symm),←List.getD_eq_getElem?_getD]
 |succ d ih=>
  intro next rows px out hd h0 hl hz mask hm
  unfold Fld.frm
  by_cases c:rows.length=0
  ·rw[if_pos c,Kn hg _ _ c]
   by_cases e:mask%2^next=px
   ·rw[if_pos e,hz mask hm e]
   ·rw[if_neg e]
  ·rw[if_neg c]
   have ps:(2:Nat)^(next+1)=2^next*2:=Nat.pow_succ ..
   have hor:px|||2^next=px+2^next:=by
    have:=Nat.two_pow_add_eq_or_of_lt h0 1
    rw[Nat.mul_one] at this
    rw[Nat.or_comm,←this,Nat.add_comm]
   have bu:∀x,x%2^(next+1)=x%2^next+2^next*(x/2^next%2):=fun x=>Nat.mod_pow_succ
   have hlt:∀x,x%2^next<2^next:=fun x=>Nat.mod_lt _ (Nat.two_pow_pos _)
   have avc:∀x,x/2^next%2=0∨x/2^next%2=1:=fun x=>by omega
   rw[hor]
   have z1:∀mask,mask<2^N→mask%2^(next+1)=px+2^next→out.getD mask 0=0:=by
    intro x hx e
    refine hz x hx ?_
    have h1:=bu x
    have h2:=hlt x
    rcases avc x with h3|h3<;>rw[h3] at h1<;>omega
   have g1:=ih (next+1) rows (px+2^next) out (by omega) (by omega) hl z1
   have z2:∀mask,mask<2^N→mask%2^(next+1)=px→((FD.aC hg).frm d (next+1) rows (px+2^next) out).getD mask 0=0:=by
    intro x hx e
    rw[g1 x hx,if_neg (by have:=Nat.two_pow_pos next;omega)]
    refine hz x hx ?_
    have h1:=bu x
    have h2:=hlt x
    rcases avc x with h3|h3<;>rw[h3] at h1<;>omega
   have g2:=ih (next+1) ((FD.aC hg).wo rows next) px _ (by omega) (by omega) (by rw[Fld.wP];exact hl) z2
   rw[g2 mask hm,g1 mask hm]
   have h1:=bu mask
   have h2:=hlt mask
   rw[List.range'_succ,List.filter_cons]
   rcases avc mask with h3|h3
   ·rw[h3] at h1
    rw[if_pos (show decide (mask/2^next%2≠1)=true by rw[h3];rfl),List.foldl_cons]
    by_cases e:mask%2^next=px
    ·rw[if_pos (by omega),if_pos e]
    ·rw[if_neg (by omega),if_neg (by omega),if_neg e]
   ·rw[h3] at h1
    rw[if_neg (show ¬decide (mask/2^next%2≠1)=true by rw[h3];simp)]
    rw[if_neg (show ¬mask%2^(next+1)=px by omega)]
    by_cases e:mask%2^next=px
    ·rw[if_pos (by omega),if_pos e]
    ·rw[if_neg (by omega),if_neg e]
theorem LK{N mask i:Nat}:i∈dK N mask↔i<N∧mask/2^i%2=1:=by
 unfold dK
 rw[List.mem_filter,List.mem_range]
 simp
theorem TR{N:Nat}(rows:List (List (El D))){mask:Nat}(hm:mask<2^N):(zZ hg N rows).getD mask 0=wQ hg N rows (dK N mask):=by
 unfold zZ wQ
 rw[ar8 hg N 0 rows 0 (List.replicate (2^N) 0) (by omega) (by simp) (by simp) (fun x hx _=>by
  rw[List.getD_eq_getElem?_getD,List.getElem?_replicate,if_pos hx];rfl) mask hm]
 rw[if_pos (by simp[Nat.mod_one])]
 congr 2
 unfold z6
 rw[List.range_eq_range']
 refine List.filter_congr fun i hi=>?_
 have Bl:i<N:=by simpa [List.mem_range'] using hi
 by_cases c:mask/2^i%2=1
 ·have:i∈dK N mask:=LK.2 ⟨Bl,c⟩
  simp[c,this]
 ·have:i∉dK N mask:=fun h=>c (LK.1 h).2
  simp[c,this]
end
theorem LL{n:Nat}:∀(z lo:Nat) (l:List Nat),l∈mf n z lo↔l.length=z∧l.Pairwise (·<·)∧∀x∈l,lo≤x∧x<n:=by
 intro z
 induction z with
 |zero=>
  intro lo l
  constructor
  ·intro h
   have:l=[]:=by simpa [mf] using h
   subst this;simp
  ·rintro⟨h,_,_⟩
   rw[List.length_eq_zero_iff.1 h];simp[mf]
 |succ z ih=>
  intro lo l
  have key:∀d i,l∈aaL (mf n z) d i↔∃j l',i≤j∧j<i+d∧l=j::l'∧l'∈mf n z (j+1):=by
   intro d
   induction d with
   |zero=>intro i;simp only[aaL,List.not_mem_nil,false_iff];rintro⟨j,l',h1,h2,_⟩;omega
   |succ d ihd=>
    intro i
    unfold aaL
    rw[List.mem_append,ihd,List.mem_map]
    constructor
    ·rintro(⟨l',h1,rfl⟩|⟨j,l',h1,h2,h3,h4⟩)
     ·exact⟨i,l',Nat.le_refl _,by omega,rfl,h1⟩
     ·exact⟨j,l',by omega,by omega,h3,h4⟩
    ·rintro⟨j,l',h1,h2,h3,h4⟩
     by_cases e:j=i
     ·subst e;exact .inl ⟨l',h4,h3.symm⟩
     ·exact .inr ⟨j,l',by omega,by omega,h3,h4⟩
  unfold mf
  rw[key]
  constructor
  ·rintro⟨j,l',h1,h2,rfl,h4⟩
   obtain⟨g1,g2,g3⟩:=(ih _ _).1 h4
   refine⟨by simp[g1],List.pairwise_cons.2 ⟨fun x hx=>by have:=g3 x hx;omega,g2⟩,fun x hx=>?_⟩
   rcases List.mem_cons.1 hx with rfl|hx
   ·omega
   ·have:=g3 x hx;omega
  ·rintro⟨h1,h2,h3⟩
   cases l with
   |nil=>simp at h1
   |cons j l'=>
    have hj:=h3 j (List.mem_cons_self ..)
    have hp:=List.pairwise_cons.1 h2
    refine⟨j,l',hj.1,by omega,rfl,(ih _ _).2 ⟨by simpa using h1,hp.2,fun x hx=>?_⟩⟩
    have:=hp.1 x hx
    have:=(h3 x (List.mem_cons_of_mem _ hx)).2
    omega
theorem acF(N mask:Nat):dK N mask∈mf N (dK N mask).length 0:=by
 rw[LL]
 refine⟨rfl,?_,fun x hx=>⟨Nat.zero_le _,(LK.1 hx).1⟩⟩
 unfold dK
 exact List.pairwise_lt_range.filter _
theorem ahP{N a:Nat}(ha:a<2^N):dK (N+1) (a+2^N)=dK N a++[N]:=by
 have h1:(a+2^N)/2^N%2=1:=by
  rw[Nat.add_div_right _ (Nat.two_pow_pos _),Nat.div_eq_of_lt ha]
 rw[rJ,if_pos h1]
 congr 1
 unfold dK
 refine List.filter_congr fun i hi=>?_
 have Bl:=List.mem_range.1 hi
 have e:(2:Nat)^N=2^i*(2^(N-i-1)*2):=by
  rw[←Nat.pow_succ,←Nat.pow_add];congr 1;omega
 have:(a+2^N)/2^i%2=a/2^i%2:=by
  rw[e,Nat.add_mul_div_left _ _ (Nat.two_pow_pos _),Nat.add_mul_mod_self_right]
 rw[this]
theorem acG:∀(N:Nat) (l:List Nat),l.Pairwise (·<·)→(∀x∈l,x<N)→∃mask,mask<2^N∧dK N mask=l:=by
 intro N
 induction N with
 |zero=>
  intro l _ h
  have:l=[]:=by
   cases l with
   |nil=>rfl
   |cons x l=>have:=h x (List.mem_cons_self ..);omega
  subst this
  exact⟨0,by simp,rfl⟩
 |succ N ih=>
  intro l hp h
  rcases List.eq_nil_or_concat l with rfl|⟨L,b,rfl⟩
  ·obtain⟨mask,h1,h2⟩:=ih [] List.Pairwise.nil (fun x hx=>by cases hx)
   refine⟨mask,by rw[Nat.pow_succ];omega,?_⟩
   rw[rJ,h2,Nat.div_eq_of_lt h1];simp
  ·rw[List.concat_eq_append] at hp h ⊢
   obtain⟨p1,_,p3⟩:=List.pairwise_append.1 hp
   by_cases e:b=N
   ·subst e
    obtain⟨mask,h1,h2⟩:=ih L p1 (fun x hx=>p3 x hx b (List.mem_singleton.2 rfl))
    exact⟨mask+2^b,by rw[Nat.pow_succ];omega,by rw[ahP h1,h2]⟩
   ·have hb:=h b (List.mem_append_right _ (List.mem_singleton.2 rfl))
    obtain⟨mask,h1,h2⟩:=ih (L++[b]) hp (fun x hx=>by
     rcases List.mem_append.1 hx with hx|hx
     ·have:=p3 x hx b (List.mem_singleton.2 rfl);omega
     ·rw[List.mem_singleton.1 hx];omega)
    refine⟨mask,by rw[Nat.pow_succ];omega,?_⟩
    rw[rJ,h2,Nat.div_eq_of_lt h1];simp
theorem acH(N:Nat)(L:List Nat)(i:Nat)(hi:i≤N):∀j,(∀mask<j,(dK N mask).length=i→L.getD mask 0≤(fD N L j).getD i 0)∧((fD N L j).getD i 0=0∨∃mask<j,(dK N mask).length=i∧(fD N L j).getD i 0=L.getD mask 0):=by
 intro j
 induction j with
 |zero=>
  refine⟨fun mask h=>by omega,.inl ?_⟩
  unfold fD
  rw[List.getD_eq_getElem?_getD,List.getElem?_replicate,if_pos (by omega)];rfl
 |succ j ih=>
  obtain⟨g1,g2⟩:=ih
  have hlen:=vb N L j
  by_cases e:(dK N j).length=i
  ·have hv:(fD N L (j+1)).getD i 0=if L.getD j 0>(fD N L j).getD i 0 then L.getD j 0 else (fD N L j).getD i 0:=by
    conv=>lhs;unfold fD
    rw[e,List.getD_eq_getElem?_getD,List.getElem?_set_self (by omega)];rfl
   rw[hv]
   by_cases c:L.getD j 0>(fD N L j).getD i 0
   ·rw[if_pos c]
    refine⟨fun mask h1 h2=>?_,.inr ⟨j,by omega,e,rfl⟩⟩
    by_cases e2:mask=j
    ·subst e2;exact Nat.le_refl _
    ·have:=g1 mask (by omega) h2;omega
   ·rw[if_neg c]
    refine⟨fun mask h1 h2=>?_,?_⟩
    ·by_cases e2:mask=j
     ·subst e2;omega
     ·exact g1 mask (by omega) h2
    ·rcases g2 with g2|⟨mask,h1,h2,h3⟩
     ·exact .inl g2
     ·exact .inr ⟨mask,by omega,h2,h3⟩
  ·have hv:(fD N L (j+1)).getD i 0=(fD N L j).getD i 0:=by
    conv=>lhs;unfold fD
    rw[List.getD_eq_getElem?_getD,List.getElem?_set_ne e,←List.getD_eq_getElem?_getD]
   rw[hv]
   refine⟨fun mask h1 h2=>?_,?_⟩
   ·by_cases e2:mask=j
    ·subst e2;exact absurd h2 e
    ·exact g1 mask (by omega) h2
   ·rcases g2 with g2|⟨mask,h1,h2,h3⟩
    ·exact .inl g2
    ·exact .inr ⟨mask,by omega,h2,h3⟩
section
variable{D:FD}{gen:Nat}(hg:D.aK gen)(N:Nat)(rows:List (List (El D)))
theorem LM:∀(L:List (List Nat)) (m0:Nat),m0≤maxD hg N rows L m0∧(∀l∈L,wQ hg N rows l≤maxD hg N rows L m0)∧(maxD hg N rows L m0=m0∨∃l∈L,maxD hg N rows L m0=wQ hg N rows l):=by
 intro L
 induction L with
 |nil=>intro m0;exact⟨Nat.le_refl _,fun l h=>(by cases h),Or.inl rfl⟩
 |cons a L ih=>
  intro m0
  have e:maxD hg N rows (a::L) m0=maxD hg N rows L (if wQ hg N rows a>m0 then wQ hg N rows a else m0):=rfl
  rw[e]
  by_cases c:wQ hg N rows a>m0
  ·rw[if_pos c]
   obtain⟨g1,g2,g3⟩:=ih (wQ hg N rows a)
   refine⟨by omega,fun l hl=>?_,.inr ?_⟩
   ·rcases List.mem_cons.1 hl with rfl|hl
    ·exact g1
    ·exact g2 l hl
   ·rcases g3 with g3|⟨l,h1,h2⟩
    ·exact⟨a,List.mem_cons_self ..,g3⟩
    ·exact⟨l,List.mem_cons_of_mem _ h1,h2⟩
  ·rw[if_neg c]
   obtain⟨g1,g2,g3⟩:=ih m0
   refine⟨g1,fun l hl=>?_,?_⟩
   ·rcases List.mem_cons.1 hl with rfl|hl
    ·omega
    ·exact g2 l hl
   ·rcases g3 with g3|⟨l,h1,h2⟩
    ·exact .inl g3
    ·exact .inr ⟨l,List.mem_cons_of_mem _ h1,h2⟩
theorem aaM{i:Nat}(hi:i≤N):(fD N (zZ hg N rows) (2^N)).getD i 0=maxD hg N rows (mf N i 0) 0:=by
 obtain⟨g1,g2⟩:=acH N (zZ hg N rows) i hi (2^N)
 obtain⟨_,m2,m3⟩:=LM hg N rows (mf N i 0) 0
 refine Nat.le_antisymm ?_ ?_
 ·rcases g2 with g2|⟨mask,h1,h2,h3⟩
  ·omega
  ·rw[h3,TR hg rows h1]
   exact m2 _ (by rw[←h2];exact acF N mask)
 ·rcases m3 with m3|⟨l,h1,h2⟩
  ·omega
  ·obtain⟨s1,s2,s3⟩:=(LL _ _ _).1 h1
   obtain⟨mask,k1,k2⟩:=acG N l s2 (fun x hx=>(s3 x hx).2)
   have:=g1 mask k1 (by rw[k2];exact s1)
   rw[TR hg rows k1,k2] at this
   omega
end
end Go.Abs.P
end
section
namespace Go.Abs.P
open Go.Abs Go.Fld
section
variable{fl:Nat}{h:AH}{mod:Sl}{xs:List Int}{p m n:Int}{rs:List (List Int)}{s:Sl}
theorem amE{R:Type}{k:Nat}(kn:av R)(kr:au R){bx:Nat}(c:Value)(hx:OB h bx [c,.slice s.a s.l s.c])(hs:RR h s rs)(hm:rs.length≤65536):
 ∀(d i f left:Nat),i+d=rs.length→d<f→left≤65536→
 (lJ M fl k kn kr f ⟨bx,0,none⟩ (left:Int) (i:Int) h=kr false h)∨(lJ M fl k kn kr f ⟨bx,0,none⟩ (left:Int) (i:Int) h=kn h∧∀r∈rs.drop i,r.length≤left):=by
 intro d
 induction d with
 |zero=>
  intro i f left hi hf hl
  obtain⟨f,rfl⟩:∃j,f=j+1:=⟨f-1,by omega⟩
  refine .inr ⟨?_,by rw[List.drop_eq_nil_of_le (by omega)];intro r hr;cases hr⟩
  show qi M fl k _ _ kr _ _ _ h=_
  unfold qi
  rw[ai (s:=s) (hx.cell rfl),if_neg (by simp[hs.len];omega)]
 |succ d ih=>
  intro i f left hi hf hl
  obtain⟨f,rfl⟩:∃j,f=j+1:=⟨f-1,by omega⟩
  have mX:i<rs.length:=by omega
  obtain⟨t,a1,a2⟩:=hs.read mX
  have un:lJ M fl k kn kr (f+1) ⟨bx,0,none⟩ (left:Int) (i:Int) h=qi M fl k (lJ M fl k kn kr f) kn kr ⟨bx,0,none⟩ (left:Int) (i:Int) h:=rfl
  rw[un]
  unfold qi
  rw[ai (s:=s) (hx.cell rfl),if_pos (by simp[hs.len];omega),ai (s:=s) (hx.cell rfl),a2]
  by_cases c1:rs[i].length>left
  ·rw[if_pos (by simp[a1.len];omega)]
   exact .inl rfl
  ·rw[if_neg (by simp[a1.len];omega),ai (s:=s) (hx.cell rfl),a2,aw (n:=(left:Int)-((t.l:Nat):Int)) (left-rs[i].length) (by rw[a1.len];omega) (by omega),aw (i+1) (by push_cast;rfl) (by omega)]
   rcases ih (i+1) f (left-rs[i].length) (by omega) (by omega) (by omega) with g|⟨g1,g2⟩
   ·exact .inl g
   ·refine .inr ⟨g1,fun r hr=>?_⟩
    rw[List.drop_eq_getElem_cons mX] at hr
    rcases List.mem_cons.1 hr with rfl|hr
    ·omega
    ·have:=g2 r hr;omega
theorem ahQ{b:Nat}(hb:b≤65536)(hs:RR h s rs):
 ∃(h':AH) (r:Bool),M fl fn.vk [.agg ⟨[.int .i64 0,.slice s.a s.l s.c]⟩,.int .i64 (b:Int)] h=some (.bool r,h')∧aj h h'∧(r=true→rs.length≤b∧∀x∈rs,x.length≤b):=by
 have o1:=OB.alloc h [.int .i64 0,.slice s.a s.l s.c]
 have q1:=aj.alloc h [.int .i64 0,.slice s.a s.l s.c]
 generalize dB:h.alloc [.int .i64 0,.slice s.a s.l s.c]=h1 at o1 q1
 have go:∀{k r},Yx M fl k (fun y4 q=>some (Value.bool y4,q)) 0 s (b:Int) h=some r→M fl fn.vk [.agg ⟨[.int .i64 0,.slice s.a s.l s.c]⟩,.int .i64 (b:Int)] h=some r:=by
  intro k r he
  refine aR (k:=k) (by decide) aae ?_
  rw[R6];exact he
 by_cases c:rs.length>b
 ·refine⟨h1,false,go (k:=1) ?_,q1,fun e=>by cases e⟩
  unfold Yx Qo
  rw[aW dB,ae (o1.cell rfl),if_pos (by decide),ai (s:=s) (o1.cell rfl),if_pos (by simp[hs.len];omega)]
 ·have pre:∀{k r},lJ M fl k (D0 M fl k (fun y4 q=>some (Value.bool y4,q))) (fun y4 q=>some (Value.bool y4,q)) k ⟨h.next,0,none⟩ ((b-rs.length:Nat):Int) ((0:Nat):Int) h1=some r→M fl fn.vk [.agg ⟨[.int .i64 0,.slice s.a s.l s.c]⟩,.int .i64 (b:Int)] h=some r:=by
   intro k r he
   refine go (k:=k) ?_
   unfold Yx Qo U6
   rw[aW dB,ae (o1.cell rfl),if_pos (by decide),ai (s:=s) (o1.cell rfl),if_neg (by simp[hs.len];omega),ai (s:=s) (o1.cell rfl),aw (b-rs.length) (by rw[hs.len];omega) (by omega)]
   exact he
  rcases amE (fl:=fl) (k:=rs.length+1) (D0 M fl (rs.length+1) (fun y4 q=>some (Value.bool y4,q))) (fun y4 q=>some (Value.bool y4,q)) (.int .i64 0) o1 (hs.quiet q1) (by omega) rs.length 0 (rs.length+1) (b-rs.length) (by omega) (by omega) (by omega) with g|⟨g1,g2⟩
  ·exact⟨h1,false,pre g,q1,fun e=>by cases e⟩
  ·exact⟨h1,true,pre g1,q1,fun _=>⟨by omega,fun x hx=>by have:=g2 x (by rw[List.drop_zero];exact hx);omega⟩⟩
theorem acI{b:Nat}(hb:b≤65536)(hs:RR h s rs)(p m n:Int):
 ∃(h':AH) (r:Bool),M fl fn.pR [ca p m mod n s,.int .i64 (b:Int)] h=some (.bool r,h')∧aj h h'∧(r=true→rs.length≤b∧∀x∈rs,x.length≤b):=by
 have o1:=OB.alloc h (vc p m mod n s)
 have q1:=aj.alloc h (vc p m mod n s)
 generalize dB:h.alloc (vc p m mod n s)=h1 at o1 q1
 obtain⟨h2,r,c1,c2,c3⟩:=ahQ (fl:=fl) hb (hs.quiet q1)
 refine⟨h2,r,aR (k:=1) (by decide) aad ?_,q1.trans c2,c3⟩
 unfold ca
 rw[R2]
 unfold pR ajJ
 rw[aW dB,ai (s:=s) (o1.cell rfl),ah c1]
 simp only[asBool]
theorem acJ(p m n:Int)(bu:SI h mod xs)(hb:xs.length≤po)(bL:fl≤h.next)(hs:RR h s rs):
 ∃(h':AH) (r:Bool),M fl fn.nB [ca p m mod n s] h=some (.bool r,h')∧aj h h'∧(r=true→rs.length≤120∧∀x∈rs,x.length≤120):=by
 have o1:=OB.alloc h (vc p m mod n s)
 have q1:=aj.alloc h (vc p m mod n s)
 generalize dB:h.alloc (vc p m mod n s)=h1 at o1 q1
 have l1:=q1.1
 obtain⟨h2,r,c1,c2,c3⟩:=acI (fl:=fl) (b:=120) (mod:=mod) (by omega) (hs.quiet q1) p m n
 have q2:=q1.trans c2
 have o2:=o1.quiet c2
 have l2:=q2.1
 unfold ca at c1
 have go:∀{r},Yf M fl 1 (fun y2 q=>some (Value.bool y2,q)) p m mod n s h=some r→M fl fn.nB [ca p m mod n s] h=some r:=by
  intro r he
  refine aR (k:=1) (by decide) SK ?_
  unfold ca
  rw[Nu];exact he
 cases r with
 |false=>
  refine⟨h2,false,go ?_,q2,fun e=>by cases e⟩
  unfold Yf
  rw[aW dB,ae (o1.cell rfl),ae (o1.cell rfl),ai (s:=mod) (o1.cell rfl),ae (o1.cell rfl),ai (s:=s) (o1.cell rfl),ah (show M fl fn.pR [.agg ⟨[.int .i64 p,.int .i64 m,.slice mod.a mod.l mod.c,.int .i64 n,.slice s.a s.l s.c]⟩,.int .i64 120] h1=_ from c1)]
  simp only[asBool]
  rw[if_neg (by simp)]
 |true=>
  obtain⟨d1,d2⟩:=c3 rfl
  obtain⟨h3,e,e1,e2,e3⟩:=Km (fl:=fl) p m (bu.quiet q2) hb (by omega) (n:=n) (hs.quiet q2) (by omega) (fun r hr=>by have:=d2 r hr;omega)
  have o3:=o2.quiet e2
  unfold ca at e1
  have fin:∀v,(if (e !=0)=false then if decide (n>16)=false then some (Value.bool (decide (n≤9)),h3) else some (Value.bool true,h3) else some (Value.bool true,h3))=some (Value.bool v,h3)→M fl fn.nB [ca p m mod n s] h=some (.bool v,h3):=by
   intro v hv
   refine go ?_
   unfold Yf
   rw[aW dB,ae (o1.cell rfl),ae (o1.cell rfl),ai (s:=mod) (o1.cell rfl),ae (o1.cell rfl),ai (s:=s) (o1.cell rfl),ah (show M fl fn.pR [.agg ⟨[.int .i64 p,.int .i64 m,.slice mod.a mod.l mod.c,.int .i64 n,.slice s.a s.l s.c]⟩,.int .i64 120] h1=_ from c1)]
   simp only[asBool,if_true]
   rw[ae (o2.cell rfl),ae (o2.cell rfl),ai (s:=mod) (o2.cell rfl),ae (o2.cell rfl),ai (s:=s) (o2.cell rfl),ah e1]
   simp only[asInt,if_true]
   rw[ae (n:=n) (o3.cell rfl),ae (n:=n) (o3.cell rfl)]
   exact hv
  by_cases z:(e !=0)=false
  ·by_cases y:decide (n>16)=false
   ·exact⟨h3,_,fin (decide (n≤9)) (by rw[if_pos z,if_pos y]),q2.trans e2,fun _=>⟨d1,d2⟩⟩
   ·exact⟨h3,_,fin true (by rw[if_pos z,if_neg y]),q2.trans e2,fun _=>⟨d1,d2⟩⟩
  ·exact⟨h3,_,fin true (by rw[if_neg z]),q2.trans e2,fun _=>⟨d1,d2⟩⟩
theorem PrR.asW{h1 h2:AH}{f f':∀(D:FD) (gen:Nat) (_:D.aK gen) (N:Nat) (_:List (List (El D))),List Int}{v v':Value}(a:PrR h1 p m xs n rs f v)(b:PrR h2 p m xs n rs f' v')
 (hf:∀(D:FD) (gen wR:Nat) (hg:D.aK gen) (hg':D.aK wR) (N:Nat) (rows:List (List (El D))),N≤64→rows.length≤256→f D gen hg N rows=f' D wR hg' N rows∧(f D gen hg N rows).length≤65536):
 ∃(s s':Sl) (e:Int) (zs:List Int),v=.tuple ⟨[.slice s.a s.l s.c,.int .i64 e]⟩∧v'=.tuple ⟨[.slice s'.a s'.l s'.c,.int .i64 e]⟩∧SI h1 s zs∧SI h2 s' zs∧zs.length≤65536:=by
 cases a with
 |err e ce ne hv=>
  cases b with
  |err e' ce' ne' hv'=>
   have:=ce.unique ce'
   subst this
   exact⟨⟨none,0,0⟩,⟨none,0,0⟩,e,[],hv,hv',SI.nil _,SI.nil _,by simp⟩
  |big ce' hn hv'=>exact absurd (ce.unique ce') ne
  |ok D gen hg N rows ce' ck hN s si hv'=>exact absurd (ce.unique ce') ne
 |big ce hn hv=>
  cases b with
  |err e' ce' ne' hv'=>exact absurd (ce'.unique ce) ne'
  |big ce' hn hv'=>exact⟨⟨none,0,0⟩,⟨none,0,0⟩,8,[],hv,hv',SI.nil _,SI.nil _,by simp⟩
  |ok D gen hg N rows ce' ck hN s si hv'=>have:=ck.en;omega
 |ok D gen hg N rows ce ck hN s si hv=>
  cases b with
  |err e' ce' ne' hv'=>exact absurd (ce'.unique ce) ne'
  |big ce' hn hv'=>have:=ck.en;omega
  |ok D' wR hg' N' lh ce' ck' hN' s' si' hv'=>
   have eD:D=D':=cX ck.hF ck'.hF
   subst eD
   have eN:N=N':=by have:=ck.en;have:=ck'.en;omega
   subst eN
   have eR:rows=lh:=zY (ck.er.symm.trans ck'.er)
   subst eR
   obtain⟨k1,k2⟩:=hf D gen wR hg hg' N rows ck.n64 ck.le
   exact⟨s,s',0,_,hv,hv',si,by rw[k1];exact si',k2⟩
end
end Go.Abs.P
end
section
namespace Go.Abs.P
open Go.Abs Go.Fld
end Go.Abs.P
end
section
namespace Go.Abs.P
open Go.Abs Go.Fld
section
variable{D:FD}{gen:Nat}(hg:D.aK gen){h:AH}{g:Addr}{fl:Nat}
theorem azJ:ve (FD.aC hg).zero=0:=(eU hg _).2 rfl
end
end Go.Abs.P
end
section
namespace Go.Abs.P
open Go.Abs Go.Fld
section
variable{fl:Nat}{h:AH}{mod:Sl}{xs:List Int}
end
end Go.Abs.P
end
section
namespace Go.Abs.P
open Go.Abs Go.Fld
section
variable{fl:Nat}{h:AH}
theorem aaN{s:Sl}{xs:List Int}(hs:SI h s xs)(hr:xs.length≤65536):
 ∃s' h',M fl fn.dR [.slice s.a s.l s.c] h=some (.slice s'.a s'.l s'.c,h')∧SI h' s' xs∧aj h h'∧∀a,s'.a=some a→h.next≤a.block:=by
 by_cases iH:xs=[]
 ·subst iH
  have hl:s.l=0:=hs.len
  by_cases hn:s.a.isNone=true
  ·refine⟨⟨none,0,0⟩,h,aR (k:=1) (by decide) pn ?_,SI.nil _,aj.refl h,fun a ha=>by cases ha⟩
   rw[lQ]
   unfold dR Ze
   rw[if_pos hn]
  ·refine⟨⟨some ⟨h.next,0,none⟩,0,0⟩,h.alloc [],aR (k:=1) (by decide) pn ?_,⟨rfl,fun i hi=>by cases hi⟩,aj.alloc ..,fun a ha=>by cases ha;exact Nat.le_refl _⟩
   rw[lQ]
   unfold dR Ze cU
   rw[if_neg hn]
   dsimp only
   unfold iJ
   rw[if_pos hl]
 ·obtain⟨s',h',a,b,c⟩:=HG (fl:=fl) hs iH hr
  exact⟨s',h',a,b.si,c,b.ge⟩
theorem amF{mod:Sl}{xs:List Int}(p m:Int)(bu:SI h mod xs)(hb:xs.length≤65536)(bL:fl≤h.next):
 ∃cY h',M fl fn.yG [.agg ⟨[.int .i64 p,.int .i64 m,.slice mod.a mod.l mod.c]⟩] h=some (.agg ⟨[.int .i64 p,.int .i64 m,.slice cY.a cY.l cY.c]⟩,h')∧SI h' cY xs∧aj h h'∧∀a,cY.a=some a→h.next≤a.block:=by
 have o1:=OB.alloc h [.int .i64 p,.int .i64 m,.slice mod.a mod.l mod.c]
 have q1:=aj.alloc h [.int .i64 p,.int .i64 m,.slice mod.a mod.l mod.c]
 generalize dB:h.alloc [.int .i64 p,.int .i64 m,.slice mod.a mod.l mod.c]=h1 at o1 q1
 have o2:=OB.alloc h1 [.int .i64 0,.int .i64 0,.slice none 0 0]
 have q2:=aj.alloc h1 [.int .i64 0,.int .i64 0,.slice none 0 0]
 generalize OD:h1.alloc [.int .i64 0,.int .i64 0,.slice none 0 0]=h2 at o2 q2
 have l1:=q1.1
 have l2:=o1.1
 have l3:=o2.1
 have l4:=q2.1
 obtain⟨cY,h3,c1,c2,c3,c4⟩:=aaN (fl:=fl) (bu.quiet (q1.trans q2)) hb
 have rK:=(o1.quiet q2).quiet c3
 have HN:=o2.quiet c3
 have o1p:OB (h3.put h.next (some [.int .i64 p,.int .i64 m,.slice cY.a cY.l cY.c])) h.next [.int .i64 p,.int .i64 m,.slice cY.a cY.l cY.c]:=rK.put _
 have o2p:OB (h3.put h.next (some [.int .i64 p,.int .i64 m,.slice cY.a cY.l cY.c])) h1.next [.int .i64 0,.int .i64 0,.slice none 0 0]:=HN.X7 (by omega) _
 have o2q:OB ((h3.put h.next (some [.int .i64 p,.int .i64 m,.slice cY.a cY.l cY.c])).put h1.next (some [.int .i64 p,.int .i64 m,.slice cY.a cY.l cY.c])) h1.next [.int .i64 p,.int .i64 m,.slice cY.a cY.l cY.c]:=o2p.put _
 have qa:aj h ((h3.put h.next (some [.int .i64 p,.int .i64 m,.slice cY.a cY.l cY.c])).put h1.next (some [.int .i64 p,.int .i64 m,.slice cY.a cY.l cY.c])):=(((q1.trans q2).trans c3).put (Nat.le_refl _) _).put (by omega) _
 refine⟨cY,_,aR (k:=1) (by decide) Ry ?_,?_,qa,fun a ha=>by have:=c4 a ha;omega⟩
 ·rw[Ja]
  unfold yG akD
  rw[aW dB,aW OD,ai (s:=mod) ((o1.quiet q2).cell rfl),ah c1]
  simp only[bB]
  rw[rK.st (by omega) (by simp) rfl]
  dsimp only[List.set]
  rw[ae (o1p.cell rfl),ae (o1p.cell rfl),ai (s:=cY) (o1p.cell rfl),o2p.zX (xs:=[.int .i64 p,.int .i64 m,.slice cY.a cY.l cY.c]) (by omega) rfl (by simp) rfl,ae (o2q.cell rfl),ae (o2q.cell rfl),ai (s:=cY) (o2q.cell rfl)]
 ·refine(c2.Ao (iI.put (o:=0) (t:=none) _) (fun a b ha hb=>?_)).Ao (iI.put (o:=0) (t:=none) _) (fun a b ha hb=>?_)
  ·cases hb;have:=c4 a ha;simp only[ne_eq];omega
  ·cases hb;have:=c4 a ha;simp only[ne_eq];omega
theorem ar9{mod:Sl}{xs:List Int}(p m:Int)(bu:SI h mod xs)(hb:xs.length≤65536)(bL:fl≤h.next)(n:Int)(s:Sl):
 ∃cY h',M fl fn.DS [.agg ⟨[.int .i64 p,.int .i64 m,.slice mod.a mod.l mod.c]⟩,.agg ⟨[.int .i64 n,.slice s.a s.l s.c]⟩,.int .i64 0] h=some (.tuple ⟨[ca p m cY n s,.int .i64 0]⟩,h')∧SI h' cY xs∧aj h h'∧∀a,cY.a=some a→h.next≤a.block:=by
 have o1:=OB.alloc h [.int .i64 p,.int .i64 m,.slice mod.a mod.l mod.c]
 have q1:=aj.alloc h [.int .i64 p,.int .i64 m,.slice mod.a mod.l mod.c]
 generalize dB:h.alloc [.int .i64 p,.int .i64 m,.slice mod.a mod.l mod.c]=h1 at o1 q1
 have o2:=OB.alloc h1 [.int .i64 n,.slice s.a s.l s.c]
 have q2:=aj.alloc h1 [.int .i64 n,.slice s.a s.l s.c]
 generalize OD:h1.alloc [.int .i64 n,.slice s.a s.l s.c]=h2 at o2 q2
 have o3:=OB.alloc h2 [.int .i64 0,.int .i64 0,.slice none 0 0,.int .i64 0,.slice none 0 0]
 have q3:=aj.alloc h2 [.int .i64 0,.int .i64 0,.slice none 0 0,.int .i64 0,.slice none 0 0]
 generalize hh3:h2.alloc [.int .i64 0,.int .i64 0,.slice none 0 0,.int .i64 0,.slice none 0 0]=h3 at o3 q3
 have l1:=q1.1
 have l2:=q2.1
 have l3:=o3.1
 have Xu:=(q1.trans q2).trans q3
 obtain⟨cY,h4,c1,c2,c3,c4⟩:=amF (fl:=h3.next) p m (bu.quiet Xu) hb (Nat.le_refl _)
 have rK:=(o1.quiet q2).quiet q3
 have HN:=(o2.quiet q3).quiet c3
 have o3':=o3.quiet c3
 have Nm:OB (h4.put h2.next (some [.int .i64 p,.int .i64 m,.slice cY.a cY.l cY.c,.int .i64 n,.slice s.a s.l s.c])) h2.next [.int .i64 p,.int .i64 m,.slice cY.a cY.l cY.c,.int .i64 n,.slice s.a s.l s.c]:=o3'.put _
 refine⟨cY,h4.put h2.next (some [.int .i64 p,.int .i64 m,.slice cY.a cY.l cY.c,.int .i64 n,.slice s.a s.l s.c]),aR (k:=1) (by decide) TG ?_,?_,(Xu.trans c3).put (by omega) _,fun a ha=>by have:=c4 a ha;omega⟩
 ·rw[Mf]
  unfold DS aj6
  rw[aW dB,aW OD,aW hh3,if_neg (by simp),ae (rK.cell rfl),ae (rK.cell rfl),ai (s:=mod) (rK.cell rfl),ah c1]
  simp only[asAgg,aL,ch,asInt,bB,if_true]
  rw[ae (HN.cell rfl),ai (s:=s) (HN.cell rfl),o3'.zX (xs:=[.int .i64 p,.int .i64 m,.slice cY.a cY.l cY.c,.int .i64 n,.slice s.a s.l s.c]) (by omega) rfl (by simp) rfl,ae (Nm.cell rfl),ae (Nm.cell rfl),ai (s:=cY) (Nm.cell rfl),ae (Nm.cell rfl),ai (s:=s) (Nm.cell rfl)]
  rfl
 ·refine c2.Ao (iI.put (o:=0) (t:=none) _) (fun a b ha hb=>?_)
  cases hb;have:=c4 a ha;simp only[ne_eq];omega
end
section
variable{fl:Nat}{h:AH}{mod:Sl}{xs:List Int}
theorem Ow.len{p m:Int}{D:FD}(h:Ow p m xs D):xs.length≤65536:=by
 have h1:D.m<2^D.m:=Nat.lt_two_pow_self
 have h2:2^D.m≤D.p^D.m:=Nat.pow_le_pow_left D.hp _
 have h3:=h.ok.q
 unfold FD.q at h3
 rw[h.hx,cI]
 unfold jt
 split
 ·simp
 ·rw[D.hl];omega
theorem Xt.z{p m n:Int}{rs:List (List Int)}{D:FD}(h:Xt p m xs n rs 0)(hF:Ow p m xs D):eG D n rs=0:=by
 cases h with
 |kA nf he=>omega
 |len f hn he=>omega
 |sp f hn he=>cases he with
  |kA nf he=>omega
  |bad D' gen HM hg ne he=>exact absurd he.symm ne
  |form D' gen HM hg rows er wid z ne he=>omega
  |ok D' gen HM hg rows er wid z eq he=>
   obtain rfl:D'=D:=cX HM hF
   exact z
end
end Go.Abs.P
end
section
namespace Go.Abs.P
open Go.Abs Go.Fld
structure Ko(P:List Nat)(N k:Nat):Prop where
 len:P.length=N+1
 zero:P.getD 0 0=0
 top:P.getD N 0=k
 up:∀i,i<N→P.getD i 0≤P.getD (i+1) 0∧P.getD (i+1) 0≤P.getD i 0+1
theorem Ko.mono{P:List Nat}{N k:Nat}(c:Ko P N k){i:Nat}:∀j,i+j≤N→P.getD i 0≤P.getD (i+j) 0
 |0,_=>Nat.le_refl _
 |j+1,h=>Nat.le_trans (c.mono j (by omega)) (c.up (i+j) (by omega)).1
theorem Ko.le{P:List Nat}{N k:Nat}(c:Ko P N k){i j:Nat}(h:i≤j)(hj:j≤N):P.getD i 0≤P.getD j 0:=by
 have:=c.mono (i:=i) (j-i) (by omega)
 rwa[show i+(j-i)=j by omega] at this
theorem Ko.idx{P:List Nat}{N k:Nat}(c:Ko P N k){r:Nat}(h1:1≤r)(h2:r≤k):∃i,1≤i∧i≤N∧RK P r=(i:Int)∧P.getD i 0=r∧P.getD (i-1) 0+1=r:=by
 have gd:∀i (hi:i<P.length),P.getD i 0=P[i]:=fun i hi=>by rw[List.getD_eq_getElem?_getD,List.getElem?_eq_getElem hi];rfl
 have hl:=c.len
 have ht:=c.top
 have hz:=c.zero
 have hlt:P.findIdx (fun d=>decide (r≤d))<P.length:=by
  refine List.findIdx_lt_length_of_exists ⟨P[N]'(by omega),List.getElem_mem _,?_⟩
  rw[←gd N (by omega),ht];simpa using h2
 have e1:=List.findIdx_getElem (w:=hlt)
 simp only[decide_eq_true_eq] at e1
 rw[←gd _ hlt] at e1
 have e2:∀j,j<P.findIdx (fun d=>decide (r≤d))→P.getD j 0<r:=fun j hj=>by
  have:=List.not_of_lt_findIdx hj
  simp only[decide_eq_false_iff_not,Nat.not_le] at this
  rw[gd j (by omega)]
  simpa using this
 have iH:P.findIdx (fun d=>decide (r≤d))≠0:=fun e=>by rw[e] at e1;omega
 refine⟨P.findIdx (fun d=>decide (r≤d)),by omega,by omega,by unfold RK;rw[if_pos hlt],?_⟩
 have e3:=e2 (P.findIdx (fun d=>decide (r≤d))-1) (by omega)
 have e4:=(c.up (P.findIdx (fun d=>decide (r≤d))-1) (by omega)).2
 rw[show P.findIdx (fun d=>decide (r≤d))-1+1=P.findIdx (fun d=>decide (r≤d)) by omega] at e4
 omega
theorem Ko.mem{P:List Nat}{N k:Nat}(c:Ko P N k)(y:Int):y∈HH P k↔∃i,1≤i∧i≤N∧y=(i:Int)∧P.getD (i-1) 0<P.getD i 0:=by
 unfold HH
 simp only[List.mem_map,List.mem_range]
 constructor
 ·rintro⟨r,hr,rfl⟩
  obtain⟨i,a,b,e,f,g⟩:=c.idx (r:=r+1) (by omega) (by omega)
  exact⟨i,a,b,e,by omega⟩
 ·rintro⟨i,a,b,rfl,h⟩
  have h1:=c.le (i:=i) (j:=N) b (Nat.le_refl _)
  rw[c.top] at h1
  obtain⟨j,a',b',e,f,g⟩:=c.idx (r:=P.getD i 0) (by omega) h1
  refine⟨P.getD i 0-1,by omega,?_⟩
  rw[show P.getD i 0-1+1=P.getD i 0 by omega,e]
  have:j=i:=by
   rcases Nat.lt_trichotomy j i with hh|hh|hh
   ·have:=c.le (i:=j) (j:=i-1) (by omega) (by omega);omega
   ·exact hh
   ·have:=c.le (i:=i) (j:=j-1) (by omega) (by omega);omega
  rw[this]
theorem TS:∀{a b:List Nat},a.Nodup→b.Nodup→(∀x,x∈a↔x∈b)→a.length=b.length
 |[],b,_,_,h=>by
  cases b with
  |nil=>rfl
  |cons y b=>have:=(h y).2 (List.mem_cons_self ..);cases this
 |x::a,b,ha,hb,h=>by
  obtain⟨a1,a2⟩:=List.nodup_cons.1 ha
  have hx:x∈b:=(h x).1 (List.mem_cons_self ..)
  have ih:=TS (a:=a) (b:=b.erase x) a2 (hb.erase x) fun z=>by
   rw[hb.mem_erase_iff]
   constructor
   ·exact fun hz=>⟨fun e=>a1 (by rw[←e];exact hz),(h z).1 (List.mem_cons_of_mem _ hz)⟩
   ·rintro⟨h1,h2⟩
    rcases List.mem_cons.1 ((h z).2 h2) with e|e
    ·exact absurd e h1
    ·exact e
  rw[List.length_cons,ih,List.length_erase_of_mem hx]
  have:=List.length_pos_of_mem hx
  omega
theorem z7{l:List Nat}(h:l.Pairwise (·<·)):l.Nodup:=h.imp fun h=>Nat.ne_of_lt h
theorem vd{N:Nat}{l:List Nat}{x:Nat}:x∈z6 N l↔x<N∧x∉l:=by unfold z6;simp
theorem W7(N:Nat)(l:List Nat):(z6 N l).Pairwise (·<·):=List.Pairwise.filter _ List.pairwise_lt_range
theorem W8{N:Nat}{l:List Nat}(h1:l.Nodup)(h2:∀x∈l,x<N):(z6 N l).length+l.length=N:=by
 have e:=Fld.awS (fun i=>decide (i∉l)) (List.range N)
 have e2:((List.range N).filter fun c=>!decide (c∉l)).length=l.length:=TS (List.Pairwise.filter _ List.nodup_range) h1 fun x=>by
  simp only[List.mem_filter,List.mem_range]
  constructor
  ·rintro⟨_,h⟩;simpa using h
  ·exact fun h=>⟨h2 x h,by simpa using h⟩
 rw[List.length_range,e2] at e
 exact e
theorem mJ{N i:Nat}{l:List Nat}:l∈mf N i 0↔l.length=i∧l.Pairwise (·<·)∧∀x∈l,x<N:=by
 rw[LL]
 simp
theorem amG{N i:Nat}{l:List Nat}(h:l∈mf N i 0):z6 N l∈mf N (N-i) 0:=by
 obtain⟨a,b,c⟩:=mJ.1 h
 have:=W8 (z7 b) c
 exact mJ.2 ⟨by omega,W7 N l,fun x hx=>(vd.1 hx).1⟩
theorem ahR{N i:Nat}(hi:i≤N):∃l,l∈mf N i 0:=⟨List.range i,mJ.2 ⟨by simp,List.pairwise_lt_range,fun x hx=>by have:=List.mem_range.1 hx;omega⟩⟩
section
variable{D:FD}{gen:Nat}{hg:D.aK gen}{N:Nat}{rows:List (List (El D))}{ps:List Nat}
def PP(hg:D.aK gen)(N:Nat)(rows:List (List (El D))):List Nat:=fD N (zZ hg N rows) (2^N)
theorem afM{i:Nat}(hi:i≤N){l:List Nat}(hl:l∈mf N i 0):wQ hg N rows l≤(PP hg N rows).getD i 0:=by
 unfold PP;rw[aaM hg N rows hi];exact(LM hg N rows _ 0).2.1 l hl
theorem afN{i:Nat}(hi:i≤N):∃l,l∈mf N i 0∧(PP hg N rows).getD i 0=wQ hg N rows l:=by
 obtain⟨l0,h0⟩:=ahR (N:=N) hi
 have h1:=afM (hg:=hg) (rows:=rows) hi h0
 have h2:(PP hg N rows).getD i 0=maxD hg N rows (mf N i 0) 0:=aaM hg N rows hi
 rcases(LM hg N rows (mf N i 0) 0).2.2 with h|⟨l,a,b⟩
 ·exact⟨l0,h0,by omega⟩
 ·exact⟨l,a,by rw[h2,b]⟩
theorem amH(can:(FD.aC hg).Can N rows ps):Ko (PP hg N rows) N rows.length:=by
 have hi:=can.ind
 refine⟨by unfold PP;simp,?_,?_,fun i hiN=>?_⟩
 ·obtain⟨l,a,b⟩:=afN (hg:=hg) (rows:=rows) (Nat.zero_le N)
  rw[b]
  have hl:l=[]:=List.length_eq_zero_iff.1 (mJ.1 a).1
  subst hl
  unfold wQ
  have hf:=Fld.X4.fold (z6 N []) hi
  rw[hf.2]
  refine Fld.X5 hf.1 fun v hv c=>?_
  obtain⟨v1,v2⟩:=(Fld.Il _ hi.1 v).1 hv
  by_cases hc:c<N
  ·exact v2 c (vd.2 ⟨hc,by simp⟩)
  ·rw[List.getD_eq_getElem?_getD,List.getElem?_eq_none (by rw[Fld.Sp.len _ hi.1 v1];omega)];rfl
 ·obtain⟨l,a,b⟩:=afN (hg:=hg) (rows:=rows) (Nat.le_refl N)
  rw[b]
  obtain⟨a1,a2,a3⟩:=mJ.1 a
  have:=W8 (z7 a2) a3
  have ho:z6 N l=[]:=List.length_eq_zero_iff.1 (by omega)
  unfold wQ
  rw[ho];rfl
 ·constructor
  ·obtain⟨l,a,b⟩:=afN (hg:=hg) (rows:=rows) (show i≤N by omega)
   obtain⟨a1,a2,a3⟩:=mJ.1 a
   have hlen:=W8 (z7 a2) a3
   obtain⟨o,os,ho⟩:∃o os,z6 N l=o::os:=by
    cases h:z6 N l with
    |nil=>rw[h] at hlen;simp at hlen;omega
    |cons o os=>exact⟨o,os,rfl⟩
   have Uc:=z7 (W7 N l)
   rw[ho] at Uc
   obtain⟨n1,n2⟩:=List.nodup_cons.1 Uc
   have hom:o∈z6 N l:=by rw[ho];exact List.mem_cons_self ..
   have h2:z6 N os∈mf N (i+1) 0:=by
    have hos:os∈mf N (N-(i+1)) 0:=by
     have hp:=W7 N l
     rw[ho] at hp
     refine mJ.2 ⟨?_,(List.pairwise_cons.1 hp).2,fun x hx=>(vd.1 (by rw[ho];exact List.mem_cons_of_mem _ hx:x∈z6 N l)).1⟩
     rw[ho,List.length_cons] at hlen;omega
    have:=amG hos
    rwa[show N-(N-(i+1))=i+1 by omega] at this
   have h3:=afM (hg:=hg) (rows:=rows) (show i+1≤N by omega) h2
   have h4:wQ hg N rows (z6 N os)=(os.foldl (FD.aC hg).wo rows).length:=by
    unfold wQ
    refine Fld.KN hi fun x=>?_
    rw[vd,vd]
    constructor
    ·rintro⟨hx,h⟩;exact Classical.byContradiction fun hn=>h ⟨hx,hn⟩
    ·intro hx
     have:x∈z6 N l:=by rw[ho];exact List.mem_cons_of_mem _ hx
     exact⟨(vd.1 this).1,fun h=>h.2 hx⟩
   have h5:wQ hg N rows l=((os++[o]).foldl (FD.aC hg).wo rows).length:=by
    unfold wQ
    refine Fld.KN hi fun x=>?_
    rw[ho];simp[or_comm]
   have h6:=(Fld.Tw (os:=os) (o:=o) hi).1
   omega
  ·obtain⟨l,a,b⟩:=afN (hg:=hg) (rows:=rows) (show i+1≤N by omega)
   obtain⟨a1,a2,a3⟩:=mJ.1 a
   cases l with
   |nil=>simp at a1
   |cons o os=>
    have Uc:=z7 a2
    obtain⟨n1,n2⟩:=List.nodup_cons.1 Uc
    have hos:os∈mf N i 0:=mJ.2 ⟨by simpa using a1,(List.pairwise_cons.1 a2).2,fun x hx=>a3 x (List.mem_cons_of_mem _ hx)⟩
    have h3:=afM (hg:=hg) (rows:=rows) (show i≤N by omega) hos
    have h5:wQ hg N rows os=((z6 N (o::os)++[o]).foldl (FD.aC hg).wo rows).length:=by
     unfold wQ
     refine Fld.KN hi fun x=>?_
     rw[vd,List.mem_append,vd]
     simp only[List.mem_cons,List.not_mem_nil,or_false]
     constructor
     ·rintro⟨hx,h⟩
      by_cases e:x=o
      ·exact .inr e
      ·exact .inl ⟨hx,fun hh=>hh.elim e h⟩
     ·rintro(⟨hx,h⟩|rfl)
      ·exact⟨hx,fun hh=>h (.inr hh)⟩
      ·exact⟨a3 x (List.mem_cons_self ..),n1⟩
    have h6:=(Fld.Tw (os:=z6 N (o::os)) (o:=o) hi).2
    have h7:wQ hg N rows (o::os)=((z6 N (o::os)).foldl (FD.aC hg).wo rows).length:=rfl
    omega
end
end Go.Abs.P
end
section
namespace Go.Abs.P
open Go.Abs Go.Fld
theorem TT{D:FD}{N:Nat}{rows:List (List (El D))}(hN:N≤256)(hl:rows.length≤256)(hw:Fld.fy N rows):eG D (N:Int) (rows.map vl)=0:=by
 unfold eG
 rw[if_neg (by simp;omega),if_pos,if_pos]
 ·rw[List.all_eq_true]
  intro r hr
  obtain⟨r',_,rfl⟩:=List.mem_map.1 hr
  rw[List.all_eq_true]
  intro x hx
  obtain⟨y,_,rfl⟩:=List.mem_map.1 hx
  exact acm y
 ·rw[List.all_eq_true]
  intro r hr
  obtain⟨r',hr',rfl⟩:=List.mem_map.1 hr
  simp[hw _ hr']
end Go.Abs.P
end
section
namespace Go.Abs.P
open Go.Abs Go.Fld
section
variable{D:FD}{gen:Nat}(hg:D.aK gen){h:AH}{g:Addr}{fl:Nat}
theorem amI{R:Type}{k:Nat}(kn:an R){h0:AH}{b w:Nat}{rows:List (List (El D))}{a:List (El D)}{s sa:Sl}(gf:GF h0 g D gen)(hs:RR h0 s (rows.map vl))(ha:SI h0 sa (vl a))(hl:a.length=rows.length)(hw:Fld.fy w rows)(hw1:0<w)(Oy:w≤65536)(hm:rows.length≤65536)(hb:h0.next≤b)(bL:fl≤h0.next):
 ∀(d i f:Nat) (h:AH),i+d=rows.length→d<f→OB h b (iv (vl ((FD.aC hg).xr w a rows i)))→aj h0 h→
 ∃h',qB M fl k kn f (some g) s ⟨some ⟨b,0,none⟩,w,w⟩ sa (rows.length:Int) (i:Int) h=kn ⟨some ⟨b,0,none⟩,w,w⟩ h'∧OB h' b (iv (vl ((FD.aC hg).xr w a rows rows.length)))∧aj h0 h':=by
 intro d
 induction d with
 |zero=>
  intro i f h hi hf ho hq
  obtain⟨f,rfl⟩:∃j,f=j+1:=⟨f-1,by omega⟩
  obtain rfl:i=rows.length:=by omega
  refine⟨h,?_,ho,hq⟩
  show qA M fl k _ _ _ _ _ _ _ _ h=_
  unfold qA wa
  rw[if_neg (by simp)]
 |succ d ih=>
  intro i f h hi hf ho hq
  obtain⟨f,rfl⟩:∃j,f=j+1:=⟨f-1,by omega⟩
  have mX:i<rows.length:=by omega
  have hia:i<a.length:=by omega
  have un:qB M fl k kn (f+1) (some g) s ⟨some ⟨b,0,none⟩,w,w⟩ sa (rows.length:Int) (i:Int) h=qA M fl k (qB M fl k kn f) kn (some g) s ⟨some ⟨b,0,none⟩,w,w⟩ sa (rows.length:Int) (i:Int) h:=rfl
  rw[un]
  unfold qA wa
  have hrw:(rows[i]).length=w:=hw _ (List.getElem_mem mX)
  have cl:=Fld.Tx (F:=FD.aC hg) hw a (n:=i) (by omega)
  have ga:a.getD i (FD.aC hg).zero=a[i]:=by rw[List.getD_eq_getElem?_getD,List.getElem?_eq_getElem hia];rfl
  have gr:rows.getD i []=rows[i]:=by rw[List.getD_eq_getElem?_getD,List.getElem?_eq_getElem mX];rfl
  rw[if_pos (by simp;omega),(ha.quiet hq).read (by omega) (by simp;omega)]
  simp only[Int.toNat_natCast,jV]
  by_cases c:a[i]=(FD.aC hg).zero
  ·rw[if_neg (by simp[(eU hg _).2 c])]
   unfold xE
   rw[aw (i+1) (by push_cast;rfl) (by omega)]
   refine ih (i+1) f h (by omega) (by omega) ?_ hq
   rw[Fld.FO,ga,gr,c,Fld.yB _ _ _ (by omega)];exact ho
  ·rw[if_pos (by simp;exact fun e=>c ((eU hg _).1 e))]
   obtain⟨t,a1,a2⟩:=(hs.quiet hq).read (i:=i) (by simpa using mX)
   simp only[List.getElem_map] at a1
   rw[a2]
   obtain⟨t0,z1,z2⟩:=hs.read (i:=i) (by simpa using mX)
   simp only[List.getElem_map] at z1
   have et:t=t0:=by
    have:=z2 (R:=Sl) some
    obtain⟨aa,tt,g1,g2,g3,g4⟩:=hs.2 i (by simpa using mX)
    have e1:=a2 (R:=Sl) some
    rw[aU g1 (by rw[hs.1];simpa using mX)] at e1 this
    rw[ai g3] at this
    have g3':h.cell aa.block (aa.off+i)=some (Sl.v tt):=by unfold AH.cell at g3 ⊢;rw[hq.2 _ g2];exact g3
    rw[ai g3'] at e1
    rw[this] at e1
    exact(Option.some.inj e1).symm
   have iH:vl rows[i]≠[]:=fun e=>by
    have:(vl rows[i]).length=0:=by rw[e];rfl
    rw[cB] at this;omega
   obtain⟨h2,c1,c2,c3⟩:=TN (fl:=fl) (cp:=w) hg (gf.quiet hq) (v:=(FD.aC hg).xr w a rows i) a[i] ho a1 (by omega) (fun q hq'=>by
    rw[et] at hq'
    have:=z1.lt iH q hq'
    omega) (fun mg=>gf.quiet (mg.quiet hq (fun x hx=>by cases hx;exact hb))) (by omega) (by omega)
   rw[hrw] at c1
   rw[ah c1]
   simp only[bj,ch]
   unfold xE
   rw[aw (i+1) (by push_cast;rfl) (by omega)]
   refine ih (i+1) f h2 (by omega) (by omega) ?_ (c3.quiet hq (fun x hx=>by cases hx;exact hb))
   rw[Fld.FO,ga,gr];exact c2
theorem amJ{w:Nat}{rows:List (List (El D))}{a:List (El D)}{s sa:Sl}(gf:GF h g D gen)(hs:RR h s (rows.map vl))(ha:SI h sa (vl a))(hl:a.length=rows.length)(hw:Fld.fy w rows)(hw1:0<w)(Oy:w≤65536)(hm:rows.length≤65536)(bL:fl≤h.next):
 ∃h',M fl fn.pT [.pointer (some g),.slice sa.a sa.l sa.c,.slice s.a s.l s.c,.int .i64 (w:Int)] h=some (.slice (some ⟨h.next,0,none⟩) w w,h')∧OB h' h.next (iv (vl ((FD.aC hg).xr w a rows rows.length)))∧aj h h':=by
 have o1:=OB.alloc h (List.replicate w (Value.int .i64 0))
 have q1:=aj.alloc h (List.replicate w (Value.int .i64 0))
 generalize dB:h.alloc (List.replicate w (Value.int .i64 0))=h1 at o1 q1
 have r1:List.replicate w (Value.int .i64 0)=iv (vl (List.replicate w (FD.aC hg).zero)):=by
  unfold iv vl;rw[List.map_replicate,List.map_replicate,azJ]
 rw[r1] at o1
 obtain⟨h2,c1,c2,c3⟩:=amI (fl:=fl) (k:=rows.length+1) hg (K9 M fl (rows.length+1) (fun y8 q=>some (vs y8,q))) gf hs ha hl hw hw1 Oy hm (Nat.le_refl _) bL rows.length 0 (rows.length+1) h1 (by omega) (by omega) o1 q1
 refine⟨h2,aR (k:=rows.length+1) (by decide) Ke ?_,c2,c3⟩
 rw[C0]
 unfold pT akO Vy
 have Fe:sa.l=rows.length:=by rw[ha.len,cB,hl]
 rw[jb (by unfold lk;omega),dB,Fe]
 unfold Vx
 refine Eq.trans c1 ?_
 rfl
end
end Go.Abs.P
end
section
namespace Go.Abs.P
open Go.Abs Go.Fld
section
variable{D:FD}{gen:Nat}(hg:D.aK gen){h:AH}{fl:Nat}
theorem acK{R:Type}{k:Nat}(kn:av R)(kr:ag R){bx:Nat}{g:Addr}{a:List (El D)}{s:Sl}(gf:GF h g D gen)(hx:OB h bx [.pointer (some g)])(hs:SI h s (vl a))(hm:a.length≤65536):
 ∀(d j m:Nat),j+d=a.length→d<m→
 vm M fl k kn kr m s (.func (.func fn.jr) ⟨[]⟩ ⟨[.pointer (some ⟨bx,0,none⟩)]⟩) (a.length:Int) (j:Int) h=kn h:=by
 intro d
 induction d with
 |zero=>
  intro j m hj hm'
  obtain⟨m,rfl⟩:∃j,m=j+1:=⟨m-1,by omega⟩
  show ji M fl k _ _ kr _ _ _ _ h=_
  unfold ji
  rw[if_neg (by simp;omega)]
 |succ d ih=>
  intro j m hj hm'
  obtain⟨m,rfl⟩:∃j,m=j+1:=⟨m-1,by omega⟩
  have Oz:j<a.length:=by omega
  show ji M fl k _ _ kr _ _ _ _ h=_
  unfold ji
  rw[if_pos (by simp;omega),hs.read (by omega) (by simp;exact Oz)]
  simp only[Int.toNat_natCast,jV]
  have run:M fl fn.jr [.int .i64 (ve a[j]),.pointer (some ⟨bx,0,none⟩)] h=some (.bool false,h):=by
   refine aR (k:=1) (by decide) SU ?_
   rw[NQ]
   unfold jr akI
   rw[vG (hx.cell rfl),ah (WT gf _),acm]
   rfl
  unfold kE
  simp only[List.nil_append]
  rw[show([Value.int .i64 (ve a[j])]++[Value.pointer (some ⟨bx,0,none⟩)])=[.int .i64 (ve a[j]),.pointer (some ⟨bx,0,none⟩)] from rfl,run]
  simp only[asBool]
  rw[if_neg (by simp),aw (j+1) (by push_cast;rfl) (by omega)]
  exact ih (j+1) m (by omega) (by omega)
include hg in
theorem asa{p m:Int}{xs:List Int}{mod:Sl}(hF:Ow p m xs D)(bu:SI h mod xs)(hb:xs.length≤po){a:List (El D)}{s:Sl}(hs:SI h s (vl a))(hm:a.length≤65536)(bL:fl≤h.next):
 ∃h',M fl fn.yF [.agg ⟨[.int .i64 p,.int .i64 m,.slice mod.a mod.l mod.c]⟩,.slice s.a s.l s.c,.int .i64 (a.length:Int)] h=some (.int .i64 0,h')∧aj h h':=by
 have o1:=OB.alloc h [.int .i64 p,.int .i64 m,.slice mod.a mod.l mod.c]
 have q1:=aj.alloc h [.int .i64 p,.int .i64 m,.slice mod.a mod.l mod.c]
 generalize dB:h.alloc [.int .i64 p,.int .i64 m,.slice mod.a mod.l mod.c]=h1 at o1 q1
 have l1:=q1.1
 obtain⟨h2,q2,hO⟩:=Kj (fl:=fl) p m (bu.quiet q1) hb (by omega)
 have l2:=q2.1
 rcases hO with⟨nf,_⟩|⟨D',wR,g,HM,gf,gb,e⟩
 ·exact absurd ⟨D,gen,hF,hg⟩ nf
 ·obtain rfl:D'=D:=cX HM hF
  have q3:=aj.alloc h2 [.pointer none]
  have o3:=OB.alloc h2 [.pointer none]
  generalize hh3:h2.alloc [.pointer none]=h3 at o3 q3
  have o4:OB (h3.put h2.next (some [.pointer (some g)])) h2.next [.pointer (some g)]:=o3.put _
  have q4:aj h2 (h3.put h2.next (some [.pointer (some g)])):=q3.put (Nat.le_refl _) _
  generalize hh4:h3.put h2.next (some [.pointer (some g)])=h4 at o4 q4
  have lp:=acK (fl:=fl) (k:=a.length+1) (gen:=wR) (DY M fl (a.length+1) (fun y4 q=>some (Value.int .i64 y4,q))) (fun y4 q=>some (Value.int .i64 y4,q)) (gf.quiet q4) o4 (((hs.quiet q1).quiet q2).quiet q4) hm a.length 0 (a.length+1) (by omega) (by omega)
  have hl:s.l=a.length:=by rw[hs.len];simp
  have idx:M fl fn.bZ [.slice s.a s.l s.c,.func (.func fn.jr) ⟨[]⟩ ⟨[.pointer (some ⟨h2.next,0,none⟩)]⟩] h4=some (.int .i64 (-1),h4):=by
   refine aR (k:=a.length+1) (by decide) ka ?_
   rw[jj]
   unfold bZ adY Ql OR
   rw[hl]
   exact Eq.trans lp rfl
  have cf:M fl fn.fB [.slice s.a s.l s.c,.func (.func fn.jr) ⟨[]⟩ ⟨[.pointer (some ⟨h2.next,0,none⟩)]⟩] h4=some (.bool false,h4):=by
   refine aR (k:=1) (by decide) B9 ?_
   rw[yX]
   unfold fB akG
   rw[ah idx]
   rfl
  refine⟨h4,aR (k:=1) (by decide) aaf ?_,(q1.trans q2).trans q4⟩
  rw[R7]
  unfold yF aka
  rw[aW dB,if_neg (by simp[hl]),ae (o1.cell rfl),ae (o1.cell rfl),ai (s:=mod) (o1.cell rfl),ah e]
  simp only[bj,aL,ch,fE,asInt,if_true]
  rw[aW hh3,o3.st (by omega) (by simp) rfl]
  dsimp only[List.set]
  rw[hh4,if_neg (by simp),ah cf]
  simp only[asBool]
  rw[if_neg (by simp)]
theorem auN{p m:Int}{xs:List Int}{mod:Sl}(hF:Ow p m xs D)(bu:SI h mod xs)(hb:xs.length≤po){N:Nat}{rows:List (List (El D))}{s:Sl}(hs:RR h s (rows.map vl))(hw:Fld.fy N rows)(n1:1≤N)(n2:N≤256)(hm:rows.length≤256)
 {a:List (El D)} {sa:Sl} (ha:SI h sa (vl a)) (hl:a.length=rows.length) (bL:fl≤h.next):
 ∃h' b,M fl fn.vI [.agg ⟨[.int .i64 p,.int .i64 m,.slice mod.a mod.l mod.c]⟩,.slice sa.a sa.l sa.c,.agg ⟨[.int .i64 (N:Int),.slice s.a s.l s.c]⟩] h=some (.tuple ⟨[.slice (some ⟨b,0,none⟩) N N,.int .i64 0]⟩,h')∧h.next≤b∧OB h' b (iv (vl ((FD.aC hg).xr N a rows rows.length)))∧aj h h':=by
 have o1:=OB.alloc h [.int .i64 p,.int .i64 m,.slice mod.a mod.l mod.c]
 have q1:=aj.alloc h [.int .i64 p,.int .i64 m,.slice mod.a mod.l mod.c]
 generalize dB:h.alloc [.int .i64 p,.int .i64 m,.slice mod.a mod.l mod.c]=h1 at o1 q1
 have o2:=OB.alloc h1 [.int .i64 (N:Int),.slice s.a s.l s.c]
 have q2:=aj.alloc h1 [.int .i64 (N:Int),.slice s.a s.l s.c]
 generalize OD:h1.alloc [.int .i64 (N:Int),.slice s.a s.l s.c]=h2 at o2 q2
 have o3:=OB.alloc h2 [.int .i64 (N:Int),.slice s.a s.l s.c]
 have q3:=aj.alloc h2 [.int .i64 (N:Int),.slice s.a s.l s.c]
 generalize hh3:h2.alloc [.int .i64 (N:Int),.slice s.a s.l s.c]=h3 at o3 q3
 have l1:=q1.1
 have l2:=q2.1
 have l3:=q3.1
 have Xu:=(q1.trans q2).trans q3
 obtain⟨h4,q4,hO⟩:=RJ (fl:=fl) p m (bu.quiet Xu) hb (by omega) o3 (hs.quiet Xu) (by simp;omega) (fun r hr=>by
  obtain⟨r',hr',rfl⟩:=List.mem_map.1 hr
  rw[cB,hw _ hr'];omega)
 have l4:=q4.1
 have z:=TT (D:=D) n2 hm hw
 rcases hO with⟨nf,_⟩|⟨D',wR,g,HM,gf,gb,e⟩
 ·exact absurd ⟨D,gen,hF,hg⟩ nf
 ·obtain rfl:D'=D:=cX HM hF
  rw[if_pos z,z] at e
  have q14:=Xu.trans q4
  have HN:=(o2.quiet q3).quiet q4
  have hal:sa.l=rows.length:=by rw[ha.len,cB,hl]
  have Fe:s.l=rows.length:=by rw[hs.len,List.length_map]
  have en:=Kl (fl:=fl) gf (ha.quiet q14) (by rw[cB];omega)
  rw[if_pos (by rw[List.all_eq_true];intro x hx;obtain⟨y,_,rfl⟩:=List.mem_map.1 hx;exact acm y)] at en
  obtain⟨h5,c1,c2,c3⟩:=amJ (fl:=fl) gf.RM gf (hs.quiet q14) (ha.quiet q14) hl hw (by omega) (by omega) (by omega) (by omega)
  refine⟨h5,h4.next,aR (k:=1) (by decide) WG ?_,by omega,c2,q14.trans c3⟩
  rw[Qt]
  unfold vI akc
  rw[aW dB,aW OD,ae ((o1.quiet q2).cell rfl),ae ((o1.quiet q2).cell rfl),ai (s:=mod) ((o1.quiet q2).cell rfl),ae (o2.cell rfl),ai (s:=s) (o2.cell rfl),aW hh3,ah e]
  simp only[bj,aL,ch,fE,asInt,if_true]
  rw[if_neg (by simp),ai (s:=s) (HN.cell rfl),if_neg (by simp[hal,Fe]),ah en]
  simp only[asInt,if_true]
  rw[if_neg (by simp),ai (s:=s) (HN.cell rfl),ae (HN.cell rfl),ah c1]
  simp only[bB]
end
section
variable{fl:Nat}{h:AH}{mod:Sl}{xs:List Int}
theorem ahS(p m:Int)(bu:SI h mod xs)(hb:xs.length≤po)(bL:fl≤h.next){n:Int}{s:Sl}{rs:List (List Int)}{D:FD}{gen:Nat}{hg:D.aK gen}{N:Nat}{rows:List (List (El D))}(hs:RR h s rs)(ce:Xt p m xs n rs 0)(ck:COK p m xs n rs D gen hg N rows)
 {a:List (El D)} {sa:Sl} (ha:SI h sa (vl a)) (hl:a.length=rows.length):
 ∃h' b,M fl fn.tE [ca p m mod n s,.slice sa.a sa.l sa.c] h=some (.tuple ⟨[.slice (some ⟨b,0,none⟩) N N,.int .i64 0]⟩,h')∧h.next≤b∧OB h' b (iv (vl ((FD.aC hg).xr N a rows rows.length)))∧aj h h':=by
 have o1:=OB.alloc h (vc p m mod n s)
 have q1:=aj.alloc h (vc p m mod n s)
 generalize dB:h.alloc (vc p m mod n s)=h1 at o1 q1
 have l1:=q1.1
 have hle:=ck.le
 have en:=ck.en
 have n1:=ck.n1
 have n64:=ck.n64
 have hlr:rs.length=rows.length:=by rw[ck.er,List.length_map]
 have hw:∀r∈rs,r.length≤65536:=fun r hr=>by
  rw[ck.er] at hr
  obtain⟨r',hr',rfl⟩:=List.mem_map.1 hr
  rw[cB,ck.wid _ hr'];omega
 obtain⟨h2,e,c1,c2,c3⟩:=Nj (fl:=fl) p m (bu.quiet q1) hb (by omega) (n:=n) (hs.quiet q1) (by omega) hw
 obtain rfl:e=0:=c3.unique ce
 have q2:=q1.trans c2
 have l2:=q2.1
 obtain⟨h3,d1,d2⟩:=asa (fl:=fl) hg ck.hF (bu.quiet q2) hb (ha.quiet q2) (by omega) (by omega)
 have q3:=q2.trans d2
 have l3:=q3.1
 obtain⟨h4,g1,g2⟩:=aaD (fl:=h3.next) (mod:=mod) p m n s (Nat.le_refl _)
 have q4:=q3.trans g2
 have l4:=q4.1
 have hs4:=hs.quiet q4
 rw[ck.er] at hs4
 obtain⟨h5,b,k1,k2,k3,k4⟩:=auN (fl:=fl) hg ck.hF (bu.quiet q4) hb hs4 ck.wid n1 (by omega) hle (ha.quiet q4) hl (by omega)
 rw[←en] at k1
 refine⟨h5,b,aR (k:=1) (by decide) SM ?_,by omega,k3,q4.trans k4⟩
 have o2:=o1.quiet c2
 have o3:=o2.quiet d2
 have Fe:s.l=a.length:=by rw[hs.len,hlr,hl]
 unfold ca at c1
 unfold ca
 rw[Nx]
 unfold tE ajN US UR
 rw[aW dB,ae (o1.cell rfl),ae (o1.cell rfl),ai (s:=mod) (o1.cell rfl),ae (o1.cell rfl),ai (s:=s) (o1.cell rfl),ah c1]
 simp only[asInt,if_true]
 rw[if_pos (by simp),ae (o2.cell rfl),ae (o2.cell rfl),ai (s:=mod) (o2.cell rfl),ai (s:=s) (o2.cell rfl),Fe,ah d1]
 simp only[asInt,if_true]
 rw[if_neg (by simp),ae (o3.cell rfl),ae (o3.cell rfl),ai (s:=mod) (o3.cell rfl),ae (o3.cell rfl),ae (o3.cell rfl),ai (s:=mod) (o3.cell rfl),ae (o3.cell rfl),ai (s:=s) (o3.cell rfl),ah g1]
 simp only[asAgg,aL,ch,asInt,bB,if_true]
 rw[ah k1]
 simp only[bj,aL,ch,asInt,bB,if_true]
end
end Go.Abs.P
end
section
namespace Go.Abs.P
open Go.Abs Go.Fld
section
variable{D:FD}{gen:Nat}(hg:D.aK gen){h:AH}{fl:Nat}{p m:Int}{xs:List Int}{mod:Sl}
include hg in
theorem asb(hF:Ow p m xs D)(bu:SI h mod xs)(hb:xs.length≤po){N:Nat}{rows:List (List (El D))}{s:Sl}(hs:RR h s (rows.map vl))(hw:Fld.fy N rows)(n1:1≤N)(n64:N≤64)(hm:rows.length≤256)(bL:fl≤h.next):
 ∃cY s' h',M fl fn.yE [.agg ⟨[.int .i64 p,.int .i64 m,.slice mod.a mod.l mod.c]⟩,.agg ⟨[.int .i64 (N:Int),.slice s.a s.l s.c]⟩] h=some (.tuple ⟨[ca p m cY (N:Int) s',.int .i64 0]⟩,h')∧SI h' cY xs∧RR h' s' (((FD.aC hg).aY rows N).1.map vl)∧aj h h':=by
 have o1:=OB.alloc h [.int .i64 p,.int .i64 m,.slice mod.a mod.l mod.c]
 have q1:=aj.alloc h [.int .i64 p,.int .i64 m,.slice mod.a mod.l mod.c]
 generalize dB:h.alloc [.int .i64 p,.int .i64 m,.slice mod.a mod.l mod.c]=h1 at o1 q1
 have o2:=OB.alloc h1 [.int .i64 (N:Int),.slice s.a s.l s.c]
 have q2:=aj.alloc h1 [.int .i64 (N:Int),.slice s.a s.l s.c]
 generalize OD:h1.alloc [.int .i64 (N:Int),.slice s.a s.l s.c]=h2 at o2 q2
 have o3:=OB.alloc h2 [.int .i64 0,.int .i64 0,.slice none 0 0,.int .i64 0,.slice none 0 0]
 have q3:=aj.alloc h2 [.int .i64 0,.int .i64 0,.slice none 0 0,.int .i64 0,.slice none 0 0]
 generalize hh3:h2.alloc [.int .i64 0,.int .i64 0,.slice none 0 0,.int .i64 0,.slice none 0 0]=h3 at o3 q3
 have l1:=q1.1
 have l2:=q2.1
 have l3:=o3.1
 have Xu:=(q1.trans q2).trans q3
 have rK:=(o1.quiet q2).quiet q3
 have HN:=o2.quiet q3
 have hwr:∀r∈rows.map vl,r.length≤65536:=fun r hr=>by
  obtain⟨r',hr',rfl⟩:=List.mem_map.1 hr
  rw[cB,hw _ hr'];omega
 obtain⟨h4,v,c1,c2,c3⟩:=Dv (fl:=fl) p m (bu.quiet Xu) hb (by omega) (cols:=(N:Int)) (hs.quiet Xu) (by simp;omega) hwr (by omega)
 have l4:=c2.1
 have z:=TT (D:=D) (N:=N) (by omega) hm hw
 cases c3 with
 |kA nf e=>exact absurd ⟨D,gen,hF,hg⟩ nf
 |bad D' wR HM hg' ne e=>
  obtain rfl:D'=D:=cX HM hF
  exact absurd z ne
 |ok D' wR HM hg' lh er wid z' s1 pv rr ov e=>
  obtain rfl:D'=D:=cX HM hF
  obtain rfl:lh=rows:=(zY er).symm
  subst e
  have hN:((N:Int).toNat)=N:=by simp
  rw[hN] at rr
  have o5:=OB.alloc h4 [.int .i64 0,.slice none 0 0]
  have q5:=aj.alloc h4 [.int .i64 0,.slice none 0 0]
  generalize hh5:h4.alloc [.int .i64 0,.slice none 0 0]=h5 at o5 q5
  have o6:OB (h5.put h4.next (some [.int .i64 (N:Int),.slice s1.a s1.l s1.c])) h4.next [.int .i64 (N:Int),.slice s1.a s1.l s1.c]:=o5.put _
  have q6:aj h4 (h5.put h4.next (some [.int .i64 (N:Int),.slice s1.a s1.l s1.c])):=q5.put (Nat.le_refl _) _
  generalize hh6:h5.put h4.next (some [.int .i64 (N:Int),.slice s1.a s1.l s1.c])=h6 at o6 q6
  have l6:=q6.1
  obtain⟨cY,h7,u1,u2,u3,u4⟩:=ar9 (fl:=fl) p m (bu.quiet ((Xu.trans c2).trans q6)) (Ow.len hF) (by omega) (N:Int) s1
  have o1d:=(rK.quiet c2).quiet q6
  have o2d:=(HN.quiet c2).quiet q6
  have o3d:=((o3.quiet c2).quiet q6).quiet u3
  have l7:=u3.1
  have l8:=o3d.1
  have o9:OB (h7.put h2.next (some (vc p m cY (N:Int) s1))) h2.next (vc p m cY (N:Int) s1):=o3d.put _
  refine⟨cY,s1,h7.put h2.next (some (vc p m cY (N:Int) s1)),aR (k:=1) (by decide) Rt ?_,?_,?_,(((Xu.trans c2).trans q6).trans u3).put (by omega) _⟩
  ·rw[IB]
   unfold yE ajP UW
   rw[aW dB,aW OD,aW hh3,ae (rK.cell rfl),ae (rK.cell rfl),ai (s:=mod) (rK.cell rfl),ae (HN.cell rfl),ai (s:=s) (HN.cell rfl),ah c1]
   simp only[bj,asAgg,aL,ch,asInt,bB,if_true]
   rw[aW hh5,o5.zX (xs:=[.int .i64 (N:Int),.slice s1.a s1.l s1.c]) (by omega) rfl (by simp) rfl,hh6,if_pos (by simp),ae (o2d.cell rfl),ah (Dw _),if_neg (by omega)]
   simp only[asInt,if_true]
   unfold UU
   rw[ae (o1d.cell rfl),ae (o1d.cell rfl),ai (s:=mod) (o1d.cell rfl),ae (o6.cell rfl),ai (s:=s1) (o6.cell rfl),ah u1]
   unfold ca
   simp only[bj,asAgg,aL,ch,asInt,bB,if_true]
   rw[o3d.zX (xs:=vc p m cY (N:Int) s1) (by omega) rfl (by simp[vc]) rfl,ae (o9.cell rfl),ae (o9.cell rfl),ai (s:=cY) (o9.cell rfl),ae (o9.cell rfl),ai (s:=s1) (o9.cell rfl)]
  ·refine u2.Ao (iI.put (o:=0) (t:=none) _) (fun a b ha hb=>?_)
   cases hb;have:=u4 a ha;simp only[ne_eq];omega
  ·exact(((rr.quiet q6).quiet u3).Ao (iI.put (o:=0) (t:=none) _) (by omega)).rr
theorem acL(hF:Ow p m xs D)(bu:SI h mod xs)(bL:fl≤h.next){ys:List Int}{s:Sl}(hs:SI h s ys)(hm:ys.length≤65536)(k:Nat):
 ∃h' e,M fl fn.pS [.agg ⟨[.int .i64 p,.int .i64 m,.slice mod.a mod.l mod.c]⟩,.slice s.a s.l s.c,.int .i64 (k:Int)] h=some (.int .i64 e,h')∧aj h h'∧(e=0→∃a:List (El D),ys=vl a∧a.length=k):=by
 have o1:=OB.alloc h [.int .i64 p,.int .i64 m,.slice mod.a mod.l mod.c]
 have q1:=aj.alloc h [.int .i64 p,.int .i64 m,.slice mod.a mod.l mod.c]
 generalize dB:h.alloc [.int .i64 p,.int .i64 m,.slice mod.a mod.l mod.c]=h1 at o1 q1
 by_cases c:ys.length=k
 ·have r:RF h1 mod D:=⟨hF.ok,by rw[←hF.hx];exact bu.quiet q1⟩
  obtain⟨h2,e1,e2⟩:=TP (fl:=fl) r (hs.quiet q1) hm
  unfold fa at e1
  rw[←hF.hp,←hF.hm] at e1
  refine⟨h2,(if ys.all (Ki D)=true then 0 else 2),aR (k:=1) (by decide) J9 ?_,q1.trans e2,fun he=>?_⟩
  ·rw[CQ]
   unfold pS adM
   rw[aW dB,if_neg (by simp[hs.len,c]),ae (o1.cell rfl),ae (o1.cell rfl),ai (s:=mod) (o1.cell rfl),ah e1]
   rfl
  ·by_cases ha:ys.all (Ki D)=true
   ·obtain⟨l,hl⟩:=ata (D:=D) (xs:=ys) (fun x hx=>List.all_eq_true.1 ha x hx)
    exact⟨l,hl,by rw[←c,hl,cB]⟩
   ·rw[if_neg ha] at he;omega
 ·refine⟨h1,4,aR (k:=1) (by decide) J9 ?_,q1,fun he=>by omega⟩
  rw[CQ]
  unfold pS adM
  rw[aW dB,if_pos (by simp[hs.len];omega)]
end
end Go.Abs.P
end
section
namespace Go.Abs.P
open Go.Abs Go.Fld
section
variable{D:FD}{gen:Nat}{hg:D.aK gen}{N:Nat}{rows W:List (List (El D))}{ps:List Nat}
def RL(hg:D.aK gen)(N:Nat)(W:List (List (El D))):List Nat:=(List.range N).filter fun i=>W.any fun r=>(FD.aC hg).nz (r.getD i (FD.aC hg).zero)
theorem asc(can:(FD.aC hg).Can N rows ps)(hw:Fld.fy N W)(hs:∀r∈W,(FD.aC hg).Sp N rows r):
 ((FD.aC hg).aY W N).1.length≤rows.length∧(1≤((FD.aC hg).aY W N).1.length→RK (PP hg N rows) ((FD.aC hg).aY W N).1.length≤((RL hg N ((FD.aC hg).aY W N).1).length:Int)):=by
 obtain⟨cw,sw⟩:=Fld.j3 (F:=FD.aC hg) hw
 have hle:((FD.aC hg).aY W N).1.length≤rows.length:=by
  have a:=Fld.adw (F:=FD.aC hg) hw can.wid (fun v hv=>Fld.Sp.mono _ can.wid hs hv)
  have b:=Fld.KM (F:=FD.aC hg) hw
  have c:=can.ind.2
  omega
 refine⟨hle,fun h1=>?_⟩
 generalize hS:((FD.aC hg).aY W N).1=S at cw sw hle h1
 have cl:=amH can
 obtain⟨i,i1,i2,e,f,g⟩:=cl.idx h1 hle
 rw[e]
 have hT:RL hg N S∈mf N (RL hg N S).length 0:=mJ.2 ⟨rfl,List.Pairwise.filter _ List.pairwise_lt_range,fun x hx=>List.mem_range.1 (List.mem_filter.1 hx).1⟩
 have hTN:(RL hg N S).length≤N:=by
  unfold RL
  have:=List.length_filter_le (fun i=>S.any fun r=>(FD.aC hg).nz (r.getD i (FD.aC hg).zero)) (List.range N)
  simpa using this
 have h2:=afM (hg:=hg) (rows:=rows) hTN hT
 have h3:S.length≤wQ hg N rows (RL hg N S):=by
  have iB:=Fld.X4.fold (z6 N (RL hg N S)) can.ind
  have iS:=cw.ind
  unfold wQ
  rw[iS.2,iB.2]
  refine Fld.adw cw.wid iB.1 fun v hv=>?_
  rw[Fld.Il _ can.wid]
  refine⟨Fld.Sp.mono _ can.wid hs ((sw v).1 hv),fun o ho=>?_⟩
  refine Fld.Sp.at0 _ cw.wid (fun r hr=>?_) hv
  obtain⟨o1,o2⟩:=vd.1 ho
  apply Classical.byContradiction
  intro hn
  refine o2 (List.mem_filter.2 ⟨List.mem_range.2 o1,List.any_eq_true.2 ⟨r,hr,((FD.aC hg).An _).2 hn⟩⟩)
 have:i≤(RL hg N S).length:=by
  apply Classical.byContradiction
  intro hn
  have:=cl.le (i:=(RL hg N S).length) (j:=i-1) (by omega) (by omega)
  omega
 omega
end
section
variable{fl:Nat}{D:FD}{gen:Nat}{hg:D.aK gen}{N:Nat}
theorem amK{R:Type}{k:Nat}(kn:da R){h:AH}{S:List (List (El D))}{s:Sl}(hs:RR h s (S.map vl))(hw:Fld.fy N S)(hm:S.length≤65536){i:Nat}(hi:i<N)(t5:Sl)(t12:Addr)(t13:Int)(t110:Int):
 ∀(d j f:Nat),j+d=S.length→d<f→
 dj M fl k kn f t5 t12 t13 (i:Int) t110 (i:Int) s (S.length:Int) (j:Int) h=kn t5 t12 (if ((S.drop j).any fun r=>(FD.aC hg).nz (r.getD i (FD.aC hg).zero))=true then bM (t13+1) else t13) t110 (i:Int) h:=by
 intro d
 induction d with
 |zero=>
  intro j f hj hf
  obtain⟨f,rfl⟩:∃j,f=j+1:=⟨f-1,by omega⟩
  show cL M fl k _ _ _ _ _ _ _ _ _ _ _ h=_
  unfold cL dU
  rw[if_neg (by simp;omega),List.drop_of_length_le (by omega)]
  simp
 |succ d ih=>
  intro j f hj hf
  obtain⟨f,rfl⟩:∃j,f=j+1:=⟨f-1,by omega⟩
  have Oz:j<S.length:=by omega
  have un:dj M fl k kn (f+1) t5 t12 t13 (i:Int) t110 (i:Int) s (S.length:Int) (j:Int) h=cL M fl k (dj M fl k kn f) kn t5 t12 t13 (i:Int) t110 (i:Int) s (S.length:Int) (j:Int) h:=rfl
  rw[un]
  unfold cL dU
  obtain⟨t,a1,a2⟩:=hs.read (i:=j) (by simpa using Oz)
  simp only[List.getElem_map] at a1
  have hrw:(S[j]).length=N:=hw _ (List.getElem_mem Oz)
  have htl:t.l=N:=by rw[a1.len,cB,hrw]
  have gd:(S[j]).getD i (FD.aC hg).zero=(S[j])[i]'(by omega):=by rw[List.getD_eq_getElem?_getD,List.getElem?_eq_getElem (by omega)];rfl
  rw[if_pos (by simp;omega),a2,if_pos (by simp[htl];omega),a1.read (by omega) (by simp;omega)]
  simp only[Int.toNat_natCast,jV]
  rw[List.drop_eq_getElem_cons Oz,List.any_cons,gd]
  by_cases c:(S[j])[i]'(by omega)=(FD.aC hg).zero
  ·have hz:(FD.aC hg).nz ((S[j])[i]'(by omega))=false:=by
    cases e:(FD.aC hg).nz ((S[j])[i]'(by omega)) with
    |false=>rfl
    |true=>exact absurd c (((FD.aC hg).An _).1 e)
   rw[if_neg (by simp[(eU hg _).2 c]),hz,Bool.false_or]
   unfold jh
   rw[aw (j+1) (by push_cast;rfl) (by omega)]
   exact ih (j+1) f (by omega) (by omega)
  ·rw[if_pos (by simp;exact fun e=>c ((eU hg _).1 e)),((FD.aC hg).An _).2 c,Bool.true_or,if_pos rfl]
theorem ahT{R:Type}{k:Nat}(kn:gW R){h:AH}{S:List (List (El D))}{s:Sl}{bs:Nat}{cs:List Value}(hb:OB h bs cs)(c4:cs[4]?=some (.slice s.a s.l s.c))(hs:RR h s (S.map vl))(hw:Fld.fy N S)(hm:S.length≤65536)(hN:N≤64)(hk:S.length<k)(t5:Sl):
 ∀(d i f c:Nat),i+d=N→d<f→c≤i→
 fO M fl k kn f t5 ⟨bs,0,none⟩ (c:Int) (N:Int) (i:Int) h=kn t5 ⟨bs,0,none⟩ ((c+((List.range' i d).filter fun i=>S.any fun r=>(FD.aC hg).nz (r.getD i (FD.aC hg).zero)).length:Nat):Int) h:=by
 intro d
 induction d with
 |zero=>
  intro i f c hi hf hc
  obtain⟨f,rfl⟩:∃j,f=j+1:=⟨f-1,by omega⟩
  show iw M fl k _ _ _ _ _ _ _ h=_
  unfold iw kQ
  rw[if_neg (by simp;omega)]
  simp
 |succ d ih=>
  intro i f c hi hf hc
  obtain⟨f,rfl⟩:∃j,f=j+1:=⟨f-1,by omega⟩
  have un:fO M fl k kn (f+1) t5 ⟨bs,0,none⟩ (c:Int) (N:Int) (i:Int) h=iw M fl k (fO M fl k kn f) kn t5 ⟨bs,0,none⟩ (c:Int) (N:Int) (i:Int) h:=rfl
  rw[un]
  unfold iw kQ
  rw[if_pos (by simp;omega)]
  unfold tS lC kd jC
  have Fe:s.l=S.length:=by rw[hs.len,List.length_map]
  rw[ai (s:=s) (hb.cell (by simpa using c4)),Fe]
  unfold mi
  have:=amK (fl:=fl) (hg:=hg) (k:=k) (gX M fl k (fO M fl k kn f) kn) hs hw hm (show i<N by omega) t5 ⟨bs,0,none⟩ (c:Int) (N:Int) S.length 0 k (by omega) hk
  rw[show((0:Nat):Int)=0 from rfl] at this
  refine Eq.trans this ?_
  unfold gX
  rw[List.drop_zero,aw (n:=(i:Int)+1) (i+1) (by push_cast;rfl) (by omega),List.range'_succ,List.filter_cons]
  by_cases e:(S.any fun r=>(FD.aC hg).nz (r.getD i (FD.aC hg).zero))=true
  ·rw[if_pos e,if_pos e,aw (n:=(c:Int)+1) (c+1) (by push_cast;rfl) (by omega),ih (i+1) f (c+1) (by omega) (by omega) (by omega)]
   congr 1
   simp only[List.length_cons]
   omega
  ·rw[if_neg e,if_neg e,ih (i+1) f c (by omega) (by omega) (by omega)]
end
end Go.Abs.P
end
section
namespace Go.Abs.P
open Go.Abs Go.Fld
section
variable{P:Nat→Prop}{h0 h:AH}{t:Sl}{ts:List Sl}{rs:List (List Int)}
theorem GL.any(p:GL P h0 h t ts rs):GL (fun _=>True) h0 h t ts rs:=⟨p.q,p.ov,p.len,fun j h1 h2=>⟨(p.row j h1 h2).1,fun q hq=>⟨((p.row j h1 h2).2 q hq).1,trivial,((p.row j h1 h2).2 q hq).2.2⟩⟩⟩
theorem GL.azK{bm:Nat}(p:GL (·≠bm) h0 h t ts rs)(hb:h0.next≤bm)(ht:∀a,t.a=some a→a.block≠bm)(x:Option (List Value)):GL (·≠bm) h0 (h.put bm x) t ts rs:=
 ⟨p.q.put hb x,p.ov.ajp (Nat.le_refl _) (fun a ha=>P4 x (fun e=>ht a ha e.symm)),p.len,fun j h1 h2=>by
   obtain⟨g1,g2⟩:=p.row j h1 h2
   exact⟨g1.Ao (iI.put (o:=0) (t:=none) x) (fun a b ha rM=>by cases rM;exact fun e=>(g2 a ha).2.1 e.symm),fun q hq=>g2 q hq⟩⟩
end
section
variable{fl:Nat}{h0:AH}{mod:Sl}{xs:List Int}{p m n:Int}{rs:List (List Int)}{s:Sl}{D:FD}{gen:Nat}{hg:D.aK gen}{N:Nat}{rows:List (List (El D))}
theorem amL{R:Type}{k:Nat}(kn:Iq R)(kr:au R){bc bm:Nat}{sm t5:Sl}{Xd:List (List Int)}(ce:Xt p m xs n rs 0)(ck:COK p m xs n rs D gen hg N rows)(bu:SI h0 mod xs)(hb:xs.length≤po)(hs:RR h0 s rs)(oc:OB h0 bc (vc p m mod n s))(hms:RR h0 sm Xd)(hml:Xd.length≤9)(hbm:h0.next≤bm)(bL:fl≤h0.next):
 ∀(d i f:Nat) (h:AH) (t:Sl) (ts:List Sl) (W:List (List (El D))),i+d=Xd.length→d<f→OB h bm [.int .i64 n,.slice t.a t.l t.c]→GL (·≠bm) h0 h t ts (W.map vl)→(∀a,t.a=some a→a.block≠bm)→Fld.fy N W→(∀r∈W,(FD.aC hg).Sp N rows r)→W.length=i→
 ∃h',(gI M fl k kn kr f ⟨bc,0,none⟩ t5 ⟨bm,0,none⟩ sm (Xd.length:Int) (i:Int) h=kr true h'∧aj h0 h')∨
  ∃t' Ce W',gI M fl k kn kr f ⟨bc,0,none⟩ t5 ⟨bm,0,none⟩ sm (Xd.length:Int) (i:Int) h=kn ⟨bc,0,none⟩ t5 ⟨bm,0,none⟩ h'∧OB h' bm [.int .i64 n,.slice t'.a t'.l t'.c]∧GL (·≠bm) h0 h' t' Ce (W'.map vl)∧Fld.fy N W'∧(∀r∈W',(FD.aC hg).Sp N rows r)∧W'.length≤9:=by
 intro d
 induction d with
 |zero=>
  intro i f h t ts W hi hf ob gl ht hw hsp hl
  obtain⟨f,rfl⟩:∃j,f=j+1:=⟨f-1,by omega⟩
  refine⟨h,.inr ⟨t,ts,W,?_,ob,gl,hw,hsp,by omega⟩⟩
  show pZ M fl k _ kn kr _ _ _ _ _ _ h=_
  unfold pZ
  rw[if_neg (by simp;omega)]
 |succ d ih=>
  intro i f h t ts W hi hf ob gl ht hw hsp hl
  obtain⟨f,rfl⟩:∃j,f=j+1:=⟨f-1,by omega⟩
  have il:i<Xd.length:=by omega
  have un:gI M fl k kn kr (f+1) ⟨bc,0,none⟩ t5 ⟨bm,0,none⟩ sm (Xd.length:Int) (i:Int) h=pZ M fl k (gI M fl k kn kr f) kn kr ⟨bc,0,none⟩ t5 ⟨bm,0,none⟩ sm (Xd.length:Int) (i:Int) h:=rfl
  rw[un]
  unfold pZ
  have q:=gl.q
  have n0:=q.1
  obtain⟨u,a1,a2⟩:=(hms.quiet q).read il
  have och:=oc.quiet q
  rw[if_pos (by simp;omega),a2]
  by_cases c64:Xd[i].length>64
  ·refine⟨h,.inl ⟨?_,q⟩⟩
   rw[if_neg (by simp[a1.len];omega)]
  ·rw[if_pos (by simp[a1.len];omega),ae (och.cell rfl),ae (och.cell rfl),ai (s:=mod) (och.cell rfl),ai (s:=s) (och.cell rfl)]
   obtain⟨h2,e,c1,c2,c3⟩:=acL (fl:=fl) (D:=D) ck.hF (bu.quiet q) (by omega) a1 (by omega) s.l
   rw[ah c1]
   simp only[asInt,if_true]
   have q2:=q.trans c2
   by_cases z:e=0
   ·subst z
    obtain⟨a,ea,la⟩:=c3 rfl
    rw[ea] at a1
    have Fe:s.l=rows.length:=by rw[hs.len,ck.er,List.length_map]
    have oc2:=oc.quiet q2
    have l2:=q2.1
    obtain⟨h3,b,k1,k2,k3,k4⟩:=ahS (fl:=fl) p m (bu.quiet q2) hb (by omega) (hs.quiet q2) ce ck (a1.quiet c2) (by omega)
    have q3:=q2.trans k4
    have l3:=q3.1
    have gl3:=(gl.quiet c2).quiet k4
    have ob3:=(ob.quiet c2).quiet k4
    have n2:=c2.1
    have lbm:=ob.1
    have n3:=k4.1
    have cs:=Fld.P3 (F:=FD.aC hg) ck.wid a rows.length (Nat.le_refl _)
    have cl:=Fld.Tx (F:=FD.aC hg) ck.wid a (Nat.le_refl rows.length)
    have si:SI h3 ⟨some ⟨b,0,none⟩,N,N⟩ (vl ((FD.aC hg).xr N a rows rows.length)):=by
     have:=k3.si none N
     rwa[cB,cl] at this
    have tlt:∀x,t.a=some x→x.block<h.next:=fun x hx=>OV.lt gl.ov x hx
    unfold ca at k1
    rw[if_neg (by simp),ae (oc2.cell rfl),ae (oc2.cell rfl),ai (s:=mod) (oc2.cell rfl),ae (oc2.cell rfl),ai (s:=s) (oc2.cell rfl),ah k1]
    simp only[bj,aL,ch,asInt,bB,if_true]
    rw[if_neg (by simp),ai (s:=t) (ob3.cell rfl)]
    obtain⟨t',h4,p1,p2,p3,p4⟩:=gl3.push (R:=R) (fl:=fl) bL (by rw[List.length_map];omega) si (fun x hx=>by
     cases hx
     exact⟨k3.1,by simp only[ne_eq];omega,fun y hy=>by have:=tlt y hy;simp only[ne_eq];omega⟩) (fun s70 h71=>st fl h71 ⟨bm,1,none⟩ [vs s70] fun h72=>gI M fl k kn kr f ⟨bc,0,none⟩ t5 ⟨bm,0,none⟩ sm (Xd.length:Int) (bM ((i:Int)+1)) h72)
    have ob4:=p3.ob ob3 (fun x hx=>ht x hx)
    have l4:=p3.1
    have ht':∀x,t'.a=some x→x.block≠bm:=fun x hx=>Nat.ne_of_gt (by have:=p4 x hx;omega)
    have e1:W.map vl++[vl ((FD.aC hg).xr N a rows rows.length)]=(W++[(FD.aC hg).xr N a rows rows.length]).map vl:=by simp
    rw[e1] at p2
    have gl5:=p2.azK hbm ht' (some ([.int .i64 n,.slice t.a t.l t.c].set 1 (vs t')))
    have ob5:OB (h4.put bm (some ([.int .i64 n,.slice t.a t.l t.c].set 1 (vs t')))) bm [.int .i64 n,.slice t'.a t'.l t'.c]:=ob4.put _
    obtain⟨h',r⟩:=ih (i+1) f _ t' _ _ (by omega) (by omega) ob5 gl5 ht' (fun r hr=>by
     rcases List.mem_append.1 hr with hr|hr
     ·exact hw r hr
     ·rw[List.mem_singleton.1 hr];exact cl) (fun r hr=>by
     rcases List.mem_append.1 hr with hr|hr
     ·exact hsp r hr
     ·rw[List.mem_singleton.1 hr];exact cs) (by simp[hl])
    refine⟨h',?_⟩
    have step:∀X:Option R,gI M fl k kn kr f ⟨bc,0,none⟩ t5 ⟨bm,0,none⟩ sm (Xd.length:Int) ((i+1:Nat):Int) (h4.put bm (some ([.int .i64 n,.slice t.a t.l t.c].set 1 (vs t'))))=X→
     (cU h3 [vs ⟨some ⟨b,0,none⟩,N,N⟩] fun b68 h69=>iJ fl 1 24 t ⟨some ⟨b68,0,none⟩,1,1⟩ h69 fun s70 h71=>st fl h71 ⟨bm,1,none⟩ [vs s70] fun h72=>gI M fl k kn kr f ⟨bc,0,none⟩ t5 ⟨bm,0,none⟩ sm (Xd.length:Int) (bM ((i:Int)+1)) h72)=X:=by
     intro X hX
     refine Eq.trans p1 ?_
     rw[ob4.st (by omega) (by simp) rfl,aw (n:=(i:Int)+1) (i+1) (by push_cast;rfl) (by omega)]
     exact hX
    rcases r with⟨r1,r2⟩|⟨t2,ts2,W2,r1,r2⟩
    ·exact .inl ⟨step _ r1,r2⟩
    ·exact .inr ⟨t2,ts2,W2,step _ r1,r2⟩
   ·refine⟨h2,.inl ⟨?_,q2⟩⟩
    rw[if_pos (by simpa using z)]
end
end Go.Abs.P
end
section
namespace Go.Abs.P
open Go.Abs Go.Fld
theorem ahU(P:List Nat){k r:Nat}(hr:r<k):(HH P k)[r]'(by unfold HH;simp;exact hr)=RK P (r+1):=by
 unfold HH
 simp
theorem Ox{h:AH}{mod s sm:Sl}{xs:List Int}{rs Xd:List (List Int)}(p m n:Int)(bu:SI h mod xs)(hb:xs.length≤po)(hs:RR h s rs)(hms:RR h sm Xd):
 ∃h',M h.next fn.dD [ca p m mod n s,.slice sm.a sm.l sm.c] h=some (.bool true,h')∧aj h h':=by
 have o1:=OB.alloc h (vc p m mod n s)
 have q1:=aj.alloc h (vc p m mod n s)
 generalize dB:h.alloc (vc p m mod n s)=h1 at o1 q1
 have l1:=q1.1
 have go:∀{k r},L5 M h.next k (fun y2 q=>some (Value.bool y2,q)) p m mod n s sm h=some r→M h.next fn.dD [ca p m mod n s,.slice sm.a sm.l sm.c] h=some r:=by
  intro k r he
  refine aR (k:=k) (by decide) xf ?_
  unfold ca
  rw[uH];exact he
 obtain⟨h2,b,c1,c2,c3⟩:=acJ (fl:=h.next) (mod:=mod) p m n (bu.quiet q1) hb l1 (hs.quiet q1)
 have q2:=q1.trans c2
 have o2:=o1.quiet c2
 have l2:=q2.1
 unfold ca at c1
 cases b with
 |false=>
  refine⟨h2,go (k:=1) ?_,q2⟩
  unfold L5 CJ
  rw[aW dB,ah (u9 _ _)]
  simp only[asBool]
  rw[if_pos (by decide),ae (o1.cell rfl),ae (o1.cell rfl),ai (s:=mod) (o1.cell rfl),ae (o1.cell rfl),ai (s:=s) (o1.cell rfl),ah c1]
  simp only
  rw[if_neg (by decide),ah (u9 _ _)]
 |true=>
  obtain⟨d1,d2⟩:=c3 rfl
  have hm:rs.length≤65536:=by omega
  have hw:∀r∈rs,r.length≤65536:=fun r hr=>by have:=d2 r hr;omega
  by_cases z9:n>9
  ·refine⟨h2,go (k:=1) ?_,q2⟩
   unfold L5 CJ
   rw[aW dB,ah (u9 _ _)]
   simp only[asBool]
   rw[if_pos (by decide),ae (o1.cell rfl),ae (o1.cell rfl),ai (s:=mod) (o1.cell rfl),ae (o1.cell rfl),ai (s:=s) (o1.cell rfl),ah c1]
   simp only
   rw[if_pos (by decide),ae (n:=n) (o2.cell rfl),if_neg (by simp;omega),ah (u9 _ _)]
  ·obtain⟨h3,e,e1,e2,e3⟩:=Km (fl:=h.next) p m (bu.quiet q2) hb (by omega) (n:=n) (hs.quiet q2) hm hw
   have q3:=q2.trans e2
   have o3:=o2.quiet e2
   have l3:=q3.1
   unfold ca at e1
   by_cases z:e=0
   ·subst z
    by_cases m9:Xd.length>9
    ·refine⟨h3,go (k:=1) ?_,q3⟩
     unfold L5 CJ
     rw[aW dB,ah (u9 _ _)]
     simp only[asBool]
     rw[if_pos (by decide),ae (o1.cell rfl),ae (o1.cell rfl),ai (s:=mod) (o1.cell rfl),ae (o1.cell rfl),ai (s:=s) (o1.cell rfl),ah c1]
     simp only
     rw[if_pos (by decide),ae (n:=n) (o2.cell rfl),if_pos (by simp;omega),ae (o2.cell rfl),ae (o2.cell rfl),ai (s:=mod) (o2.cell rfl),ae (o2.cell rfl),ai (s:=s) (o2.cell rfl),ah e1]
     simp only[asInt,if_true]
     rw[if_pos (by decide),if_pos (by simp[hms.len];omega),ah (u9 _ _)]
    ·obtain⟨h4,v4,g1,g2,g3⟩:=W6 (fl:=h.next) p m (bu.quiet q3) hb (by omega) (n:=n) (hs.quiet q3) hm hw
     have q4:=q3.trans g2
     have o4:=o3.quiet g2
     have l4:=q4.1
     cases g3 with
     |err e ce' ne _=>exact absurd (ce'.unique e3) ne
     |big ce' hn _=>omega
     |ok D gen hg N rows ce ck hN s4 si4 hv=>
      subst hv
      have en:=ck.en
      have n1:=ck.n1
      have n64:=ck.n64
      obtain⟨can,_⟩:=Fld.j3 (F:=FD.aC hg) ck.wid
      rw[ck.eq] at can
      generalize (Fld.aY (FD.aC hg) rows N).2=ps at can
      have wl:(amD D gen hg N rows).length=rows.length:=by unfold amD HH;simp
      have hs4:s4.l=rows.length:=by rw[si4.len,wl]
      have Fe:s.l=rows.length:=by rw[hs.len,ck.er,List.length_map]
      have o5:=OB.alloc h4 [.int .i64 0,.slice none 0 0]
      have q5:=aj.alloc h4 [.int .i64 0,.slice none 0 0]
      generalize hh5:h4.alloc [.int .i64 0,.slice none 0 0]=h5 at o5 q5
      have o6:OB (h5.put h4.next (some [.int .i64 n,.slice none 0 0])) h4.next [.int .i64 n,.slice none 0 0]:=o5.put _
      have q6:aj h4 (h5.put h4.next (some [.int .i64 n,.slice none 0 0])):=q5.put (Nat.le_refl _) _
      generalize hh6:h5.put h4.next (some [.int .i64 n,.slice none 0 0])=h6 at o6 q6
      obtain⟨h7,r7⟩:=amL (fl:=h.next) (k:=100) (hg:=hg) (yL M h.next 100 (fun y2 q=>some (Value.bool y2,q))) (fun y2 q=>some (Value.bool y2,q)) (bm:=h4.next) (t5:=s4) ce ck (bu.quiet q4) hb (hs.quiet q4) o4 (hms.quiet q4) (by omega) (Nat.le_refl _) (by omega) Xd.length 0 100 h6 ⟨none,0,0⟩ [] [] (by omega) (by omega) o6 (GL.nil q6) (fun a ha=>by cases ha) (fun r hr=>by cases hr) (fun r hr=>by cases hr) rfl
      have hml:sm.l=Xd.length:=hms.len
      have pre:∀{r},gI M h.next 100 (yL M h.next 100 (fun y2 q=>some (Value.bool y2,q))) (fun y2 q=>some (Value.bool y2,q)) 100 ⟨h.next,0,none⟩ s4 ⟨h4.next,0,none⟩ sm (Xd.length:Int) ((0:Nat):Int) h6=some r→M h.next fn.dD [ca p m mod n s,.slice sm.a sm.l sm.c] h=some r:=by
       intro r he
       refine go (k:=100) ?_
       unfold ca at g1
       unfold L5 CJ
       rw[aW dB,ah (u9 _ _)]
       simp only[asBool]
       rw[if_pos (by decide),ae (o1.cell rfl),ae (o1.cell rfl),ai (s:=mod) (o1.cell rfl),ae (o1.cell rfl),ai (s:=s) (o1.cell rfl),ah c1]
       simp only
       rw[if_pos (by decide),ae (n:=n) (o2.cell rfl),if_pos (by simp;omega),ae (o2.cell rfl),ae (o2.cell rfl),ai (s:=mod) (o2.cell rfl),ae (o2.cell rfl),ai (s:=s) (o2.cell rfl),ah e1]
       simp only[asInt,if_true]
       rw[if_pos (by decide),if_neg (by simp[hms.len];omega),ae (o3.cell rfl),ae (o3.cell rfl),ai (s:=mod) (o3.cell rfl),ae (o3.cell rfl),ai (s:=s) (o3.cell rfl),ah g1]
       simp only[bj,aL,ch,asInt,bB,if_true]
       rw[if_pos (by decide),ai (s:=s) (o4.cell rfl),if_neg (by simp[hs4,Fe]),ae (n:=n) (o4.cell rfl),aW hh5,o5.zX (xs:=[.int .i64 n,.slice none 0 0]) (by omega) rfl (by simp) rfl,hh6,hml]
       unfold UH
       exact he
      rcases r7 with⟨r1,r2⟩|⟨t,ts,W,r1,r2,r3,r4,r5,r6⟩
      ·exact⟨h7,pre r1,q4.trans r2⟩
      ·have q7:=q4.trans r3.q
       have l7:=q7.1
       obtain⟨w1,w2⟩:=asc (hg:=hg) can r4 r5
       obtain⟨cw,_⟩:=Fld.j3 (F:=FD.aC hg) r4
       have rrW:RR h7 t (W.map vl):=(r3.any.rrp (fun _ _=>trivial)).rr
       obtain⟨cY,s',h8,k1,k2,k3,k4⟩:=asb (fl:=h.next) hg ck.hF (bu.quiet q7) hb rrW r4 n1 n64 (by omega) (by omega)
       rw[←en] at k1
       have q8:=q7.trans k4
       have l8:=q8.1
       have o7:=(o4.quiet r3.q).quiet k4
       have o9:=OB.alloc h8 [.int .i64 0,.int .i64 0,.slice none 0 0,.int .i64 0,.slice none 0 0]
       have q9:=aj.alloc h8 [.int .i64 0,.int .i64 0,.slice none 0 0,.int .i64 0,.slice none 0 0]
       generalize hh9:h8.alloc [.int .i64 0,.int .i64 0,.slice none 0 0,.int .i64 0,.slice none 0 0]=h9 at o9 q9
       have oa:OB (h9.put h8.next (some (vc p m cY n s'))) h8.next (vc p m cY n s'):=o9.put _
       have qa:aj h8 (h9.put h8.next (some (vc p m cY n s'))):=q9.put (Nat.le_refl _) _
       generalize hha:h9.put h8.next (some (vc p m cY n s'))=ha at oa qa
       have hSl:((FD.aC hg).aY W N).1.length≤9:=by
        have a:=Fld.ab1 (F:=FD.aC hg) r4
        have b:=Fld.KM (F:=FD.aC hg) r4
        omega
       have sl:=ahT (fl:=h.next) (hg:=hg) (k:=100) (N:=N) (rT M h.next 100 (fun y2 q=>some (Value.bool y2,q))) (S:=((FD.aC hg).aY W N).1) (s:=s') oa rfl (k3.quiet qa) cw.wid (by omega) n64 (by omega) s4 N 0 100 0 (by omega) (by omega) (Nat.le_refl _)
       have es:((List.range' 0 N).filter fun i=>((FD.aC hg).aY W N).1.any fun r=>(FD.aC hg).nz (r.getD i (FD.aC hg).zero))=RL hg N ((FD.aC hg).aY W N).1:=by
        unfold RL;rw[List.range_eq_range']
       rw[es,Nat.zero_add] at sl
       have hs':s'.l=((FD.aC hg).aY W N).1.length:=by rw[k3.len,List.length_map]
       refine⟨ha,pre ?_,q8.trans qa⟩
       refine Eq.trans r1 ?_
       unfold ca at k1
       unfold yL Ar
       rw[ae ((o4.quiet r3.q).cell rfl),ae ((o4.quiet r3.q).cell rfl),ai (s:=mod) ((o4.quiet r3.q).cell rfl),ae (r2.cell rfl),ai (s:=t) (r2.cell rfl),ah k1]
       simp only[bj,asAgg,aL,ch,asInt,bB,if_true]
       rw[aW hh9,o9.zX (xs:=vc p m cY n s') (by omega) rfl (by simp[vc]) rfl,hha,if_pos (by decide),ai (s:=s') (oa.cell rfl),if_neg (by simp[hs',hs4];omega),ae (n:=n) ((o7.quiet qa).cell rfl),en]
       unfold CI
       refine Eq.trans sl ?_
       unfold rT
       rw[ai (s:=s') (oa.cell rfl)]
       by_cases e0:((FD.aC hg).aY W N).1.length=0
       ·rw[if_neg (by simp[hs',e0])]
       ·have e1':1≤((FD.aC hg).aY W N).1.length:=by omega
        have w3:=w2 e1'
        have sia:=si4.quiet ((r3.q.trans k4).trans qa)
        rw[if_pos (beq_eq_false_iff_ne.2 (by rw[hs'];omega)),ai (s:=s') (oa.cell rfl),aw (n:=((s'.l:Nat):Int)-1) (((FD.aC hg).aY W N).1.length-1) (by rw[hs'];omega) (by omega),sia.read (by omega) (by rw[wl];simp;omega)]
        have ev:(amD D gen hg N rows)[(((((FD.aC hg).aY W N).1.length-1:Nat):Int)).toNat]'(by rw[wl];simp;omega)=RK (PP hg N rows) ((FD.aC hg).aY W N).1.length:=by
         simp only[Int.toNat_natCast]
         unfold amD
         rw[ahU _ (by omega),show((FD.aC hg).aY W N).1.length-1+1=((FD.aC hg).aY W N).1.length by omega]
         rfl
        rw[ev,decide_eq_true (by omega)]
   ·refine⟨h3,go (k:=1) ?_,q3⟩
    unfold L5 CJ
    rw[aW dB,ah (u9 _ _)]
    simp only[asBool]
    rw[if_pos (by decide),ae (o1.cell rfl),ae (o1.cell rfl),ai (s:=mod) (o1.cell rfl),ae (o1.cell rfl),ai (s:=s) (o1.cell rfl),ah c1]
    simp only
    rw[if_pos (by decide),ae (n:=n) (o2.cell rfl),if_pos (by simp;omega),ae (o2.cell rfl),ae (o2.cell rfl),ai (s:=mod) (o2.cell rfl),ae (o2.cell rfl),ai (s:=s) (o2.cell rfl),ah e1]
    simp only[asInt,if_true]
    rw[if_neg (by simpa using z),ah (u9 _ _)]
end Go.Abs.P
end
section
namespace Go.Abs
open Go.RowKit Go.ChangeShapes Go.WideShapes Go.Deep
section
variable{H:Type}{enc:TypeId×Value→H}{P:Program}{w:World}{held:Bool}
theorem Dx{t e:TypeId}{fuel:Nat}{cs:List Value}{x:DataW H×List MemPlace}(ht:P.underlying t=some (.slice e))(h:DataW.trod enc P w 0 (fun _=>true) held fuel t cs=some x):∃a l c,cs=[.slice a l c]:=by
 rcases open_slice ht h with⟨hcs,_⟩|⟨a',aFz,cap',m,n,D,Pl,hcs,_⟩
 ·exact⟨_,_,_,hcs⟩
 ·exact⟨_,_,_,hcs⟩
theorem RR.open{t e q:TypeId}{fuel:Nat}{a:Option Addr}{l c:Nat}{x:DataW H×List MemPlace}(ht:P.underlying t=some (.slice e))(he:P.underlying e=some (.slice q))(hq:P.underlying q=some (.int .i64))(ce:P.cellsOf e=1)(cq:P.cellsOf q=1)
 (h:DataW.trod enc P w 0 (fun _=>true) held fuel t [.slice a l c]=some x):∃rs:List (List Int),RR (KO w) ⟨a,l,c⟩ rs∧rs.length≤maxLen∧nice w.heap.size (.slice a l c)=true∧∀r∈rs,r.length≤maxLen:=by
 rcases open_slice1 ht ce h with⟨hcs,_⟩|⟨x,l',c',m,n,V,D,Pl,hcs,_,hl,hm,hmm,_,hx⟩
 ·simp only[List.cons.injEq,Value.slice.injEq,and_true] at hcs
  obtain⟨rfl,rfl,rfl⟩:=hcs
  exact⟨[],RR.nil _,by simp,rfl,by simp⟩
 ·simp only[List.cons.injEq,Value.slice.injEq,and_true] at hcs
  obtain⟨rfl,rfl,rfl⟩:=hcs
  simp only[if_true] at hmm
  subst hmm
  have each:∀i,i<m→∃y:Sl×List Int,V i=y.1.v∧SI (KO w) y.1 y.2∧y.2.length≤maxLen∧nice w.heap.size (V i)=true:=by
   intro i hi
   obtain⟨h1,h2⟩:=hx i hi
   obtain⟨a',l',c',e'⟩:=Dx he h2
   rw[e'] at h2
   obtain⟨xs,k1,k2,k3,_⟩:=SI.open he hq cq h2
   have ev:V i=.slice a' l' c':=by simpa using e'
   exact⟨(⟨a',l',c'⟩,xs),ev,k1,k2,by rw[ev];exact k3⟩
  haveI:Inhabited (Sl×List Int):=⟨(⟨none,0,0⟩,[])⟩
  obtain⟨y,hy⟩:=choose_lt each
  refine⟨(List.range l).map fun i=>(y i).2,⟨by simp,fun i hi=>?_⟩,by simp;omega,?_,?_⟩
  ·simp only[List.length_map,List.length_range] at hi
   obtain⟨e1,e2,e3,e4⟩:=hy i (by omega)
   obtain⟨h1,h2,h3⟩:=Ip (hx i (by omega)).1
   rw[(DQ x i).1,(DQ x i).2] at h3
   rw[(DQ x i).1] at h2
   refine⟨x,(y i).1,rfl,h2,?_,by simpa using e2⟩
   rw[h3]
   unfold img
   rw[if_pos e4,e1]
  ·by_cases h0:m=0
   ·have:l=0:=by omega
    subst h0;subst this;simp[nice]
   ·have h1:=Ip (hx 0 (by omega)).1
    have e0:x.add 0=x:=by simp[Addr.add]
    rw[e0] at h1
    obtain⟨h1,h2,_⟩:=h1
    simp[nice,h1,h2,hl]
    right
    unfold maxLen at hm;unfold pB;omega
  ·intro r hr
   simp only[List.mem_map,List.mem_range] at hr
   obtain⟨i,hi,rfl⟩:=hr
   exact(hy i (by omega)).2.2.1
theorem aw4{α:Type}{l:List α}(h:l.length=5):∃a b c d e,l=[a,b,c,d,e]:=by
 match l,h with
 |[a,b,c,d,e],_=>exact⟨a,b,c,d,e,rfl⟩
theorem ahV{t tf ti ts tr:TypeId}{f0 f1 f2 g0 g1 g2:Field}{r:Reach}{b0:Nat}{v:Value}{d:DataW H}{ps:List MemPlace}(ht:P.underlying t=some (.struct #[f0,f1,f2]))(hf:P.underlying tf=some (.struct #[g0,g1,g2]))
 (hi:P.underlying ti=some (.int .i64)) (hs:P.underlying ts=some (.slice ti)) (hr:P.underlying tr=some (.slice ts)) (ct:P.cellsOf t=5) (cf:P.cellsOf tf=3) (ci:P.cellsOf ti=1) (cs:P.cellsOf ts=1) (cr:P.cellsOf tr=1)
 (e:[(f0.type,f0.offset),(f1.type,f1.offset),(f2.type,f2.offset),(g0.type,g0.offset),(g1.type,g1.offset),(g2.type,g2.offset)]=[(tf,0),(ti,3),(tr,4),(ti,0),(ti,1),(ts,2)])
 (amO:Value.okWide P w r b0 t v) (h:DataW.Trod enc P w 0 (fun _=>true) held t v d ps):
 ∃(p m n:Int) (mod s:Sl) (xs:List Int) (rs:List (List Int)),v=_root_.Go.Abs.P.ca p m mod n s∧SI (KO w) mod xs∧xs.length≤maxLen∧RR (KO w) s rs∧rs.length≤maxLen∧(∀r∈rs,r.length≤maxLen)∧∀sz,cC (muW w) sz v v:=by
 simp only[List.cons.injEq,Prod.mk.injEq,and_true] at e
 obtain⟨⟨a1,a2⟩,⟨a3,a4⟩,⟨a5,a6⟩,⟨a7,a8⟩,⟨a9,a10⟩,⟨a11,a12⟩⟩:=e
 obtain⟨cells,rfl,RO⟩:=okWide_struct ht amO
 obtain⟨l⟩:=cells
 obtain⟨c0,c1,c2,c3,c4,rfl⟩:=aw4 (l:=l) (by rw[←ct,←RO];rfl)
 obtain⟨fuel,hf0⟩:=h
 obtain⟨y0,y1,y2,k,_,_,q0,q1,q2⟩:=trod_struct3 ht hf0
 rw[a1,a2,cf] at q0
 rw[a3,a4,ci] at q1
 rw[a5,a6,cr] at q2
 obtain⟨z0,z1,z2,k',_,_,r0,r1,r2⟩:=trod_struct3 hf q0
 rw[a7,a8,ci] at r0
 rw[a9,a10,ci] at r1
 rw[a11,a12,cs] at r2
 simp only[Value.cells,List.drop_succ_cons,List.drop_zero,List.take_succ_cons,List.take_zero] at q1 q2 r0 r1 r2
 obtain⟨p,e0,_,_⟩:=DataW.trod_int hi r0
 obtain⟨m,e1,_,_⟩:=DataW.trod_int hi r1
 obtain⟨n,e3,_,_⟩:=DataW.trod_int hi q1
 obtain⟨ma,ml,mc,e2⟩:=Dx hs r2
 obtain⟨sa,sl,sc,e4⟩:=Dx hr q2
 rw[e2] at r2
 rw[e4] at q2
 simp only[List.cons.injEq,and_true] at e0 e1 e2 e3 e4
 subst e0 e1 e2 e3 e4
 obtain⟨xs,x1,x2,x3,_⟩:=SI.open hs hi ci r2
 obtain⟨rs,s1,s2,s3,s4⟩:=RR.open hr hs hi cs ci q2
 refine⟨p,m,n,⟨ma,ml,mc⟩,⟨sa,sl,sc⟩,xs,rs,rfl,x1,x2,s1,s2,s4,fun sz=>?_⟩
 have:=bq.cons (.int .i64 p) (bq.cons (.int .i64 m) (bq.cons (Im (sz:=sz) x3) (bq.cons (.int .i64 n) (bq.cons (Im (sz:=sz) s3) .nil))))
 exact .agg this.1 this.2
end
end Go.Abs
end
