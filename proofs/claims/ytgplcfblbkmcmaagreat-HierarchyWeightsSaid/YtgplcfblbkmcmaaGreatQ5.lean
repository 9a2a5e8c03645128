/- Shortened by a program of ours out of readable texts. -/
import Derived.Test.YtgplcfblbkmcmaaGreatQ4
section
namespace Go.Abs
theorem bT{R:Type}{h h1:AH}{cs:List Value}(e:h.alloc cs=h1)(K:Nat→AH→Option R):bJ h cs K=K h.next h1:=by subst e;rfl
end Go.Abs
namespace Go.Abs.P
open Go.Abs Go.Fld
section
variable{fl:Nat}{h:AH}
theorem asp{R:Type}{k:Nat}(kn:au R)(kr:aC R){s t:Sl}{xs ys:List Int}(hs:SI h s xs)(ht:SI h t ys)(hl:xs.length=ys.length)(hb:xs.length≤ow):
 ∀(d i m:Nat),i+d=xs.length→d<m→DY M fl k kn kr m s t (xs.length:Int) (i:Int) h=if xs.drop i=ys.drop i then kn h else kr false h:=by
 intro d
 induction d with
 |zero=>
  intro i m hi hm
  obtain⟨m,rfl⟩:∃j,m=j+1:=⟨m-1,by omega⟩
  show uG M fl k _ _ kr s t _ (i:Int) h=_
  unfold uG
  rw[if_neg (by simp;omega),List.drop_of_length_le (by omega),List.drop_of_length_le (by omega),if_pos rfl]
 |succ d ih=>
  intro i m hi hm
  obtain⟨m,rfl⟩:∃j,m=j+1:=⟨m-1,by omega⟩
  show uG M fl k _ _ kr s t _ (i:Int) h=_
  unfold uG
  rw[if_pos (by simp;omega),hs.read (by omega) (by simp;omega),ht.read (by omega) (by simp;omega)]
  simp only[Int.toNat_natCast]
  rw[List.drop_eq_getElem_cons (show i<xs.length by omega),List.drop_eq_getElem_cons (show i<ys.length by omega),gr (by omega)]
  by_cases e:xs[i]=ys[i]
  ·rw[if_neg (by simp[e]),ih (i+1) m (by omega) (by omega)]
   simp only[List.cons.injEq,e,true_and]
  ·rw[if_pos (by simp[e])]
   simp only[List.cons.injEq,e,false_and,if_false]
theorem asq{s t:Sl}{xs ys:List Int}(hs:SI h s xs)(ht:SI h t ys)(hb:xs.length≤ow):M fl fn.jg [.slice s.a s.l s.c,.slice t.a t.l t.c] h=some (.bool (decide (xs=ys)),h):=by
 refine bF (k:=xs.length+1) (by decide) Jv ?_
 rw[DZ]
 unfold jg aDL ajo
 by_cases hl:xs.length=ys.length
 ·rw[if_neg (by rw[hs.len,ht.len];simp[hl])]
  unfold ajn
  rw[hs.len]
  have:=asp (fl:=fl) (k:=xs.length+1) (KU M fl (xs.length+1) (fun(y4:Bool) q=>some (Value.bool y4,q))) (fun(y4:Bool) q=>some (Value.bool y4,q)) hs ht hl hb xs.length 0 (xs.length+1) (by omega) (by omega)
  refine this.trans ?_
  by_cases e:xs=ys
  ·simp[e,KU]
  ·simp[e]
 ·have e:xs≠ys:=fun e=>hl (by rw[e])
  rw[if_pos (by rw[hs.len,ht.len];simp;omega)]
  simp[e]
theorem aFt{R:Type}{k:Nat}(kn:au R)(kr:aC R){s t:Sl}{xs ys:List (List Int)}(hs:RR h s xs)(ht:RR h t ys)(hl:xs.length=ys.length)(hb:xs.length≤ow)(hw:∀r∈xs,r.length≤ow):
 ∀(d i m:Nat),i+d=xs.length→d<m→DX M fl k kn kr m t (.func (.func fn.jg) ⟨[]⟩ ⟨[]⟩) s (xs.length:Int) (i:Int) h=if xs.drop i=ys.drop i then kn h else kr false h:=by
 intro d
 induction d with
 |zero=>
  intro i m hi hm
  obtain⟨m,rfl⟩:∃j,m=j+1:=⟨m-1,by omega⟩
  show uF M fl k _ _ kr _ _ _ _ (i:Int) h=_
  unfold uF
  rw[if_neg (by simp;omega),List.drop_of_length_le (by omega),List.drop_of_length_le (by omega),if_pos rfl]
 |succ d ih=>
  intro i m hi hm
  obtain⟨m,rfl⟩:∃j,m=j+1:=⟨m-1,by omega⟩
  have hix:i<xs.length:=by omega
  have hiy:i<ys.length:=by omega
  obtain⟨tx,a1,a2⟩:=hs.read hix
  obtain⟨ty,b1,b2⟩:=ht.read hiy
  show uF M fl k _ _ kr _ _ _ _ (i:Int) h=_
  unfold uF
  rw[if_pos (by simp;omega),a2,b2]
  unfold mh
  simp only[List.nil_append,List.append_nil]
  rw[asq a1 b1 (hw _ (List.getElem_mem hix))]
  simp only[asBool]
  rw[List.drop_eq_getElem_cons hix,List.drop_eq_getElem_cons hiy,gr (by omega)]
  by_cases e:xs[i]=ys[i]
  ·rw[if_neg (by simp[e]),ih (i+1) m (by omega) (by omega)]
   simp only[List.cons.injEq,e,true_and]
  ·rw[if_pos (by simp[e])]
   simp only[List.cons.injEq,e,false_and,if_false]
theorem aFu{s t:Sl}{xs ys:List (List Int)}(hs:RR h s xs)(ht:RR h t ys)(hb:xs.length≤ow)(hw:∀r∈xs,r.length≤ow):M fl fn.hX [.slice s.a s.l s.c,.slice t.a t.l t.c,.func (.func fn.jg) ⟨[]⟩ ⟨[]⟩] h=some (.bool (decide (xs=ys)),h):=by
 refine bF (k:=xs.length+1) (by decide) Bi ?_
 rw[xu]
 unfold hX aDJ ajl
 by_cases hl:xs.length=ys.length
 ·rw[if_neg (by rw[hs.len,ht.len];simp[hl])]
  unfold ajk
  rw[hs.len]
  have:=aFt (fl:=fl) (k:=xs.length+1) (KS M fl (xs.length+1) (fun(y4:Bool) q=>some (Value.bool y4,q))) (fun(y4:Bool) q=>some (Value.bool y4,q)) hs ht hl hb hw xs.length 0 (xs.length+1) (by omega) (by omega)
  refine this.trans ?_
  by_cases e:xs=ys
  ·simp[e,KS]
  ·simp[e]
 ·have e:xs≠ys:=fun e=>hl (by rw[e])
  rw[if_pos (by rw[hs.len,ht.len];simp;omega)]
  simp[e]
inductive SpE (p m:Int) (xs:List Int) (cols:Int) (rs:List (List Int)) (e:Int):Prop where
 |oz (nf:¬Bm p m xs) (he:e=1)
 |bad (D:FD) (gen:Nat) (hF:IsF p m xs D) (hg:D.bh gen) (ne:gK D cols rs≠0) (he:e=gK D cols rs)
 |form (D:FD) (gen:Nat) (hF:IsF p m xs D) (hg:D.bh gen) (rows:List (List (El D))) (er:rs=rows.map vl) (wid:Fld.jI cols.toNat rows) (z:gK D cols rs=0) (ne:((FD.aR hg).dU rows cols.toNat).1≠rows) (he:e=5)
 |ok (D:FD) (gen:Nat) (hF:IsF p m xs D) (hg:D.bh gen) (rows:List (List (El D))) (er:rs=rows.map vl) (wid:Fld.jI cols.toNat rows) (z:gK D cols rs=0) (eq:((FD.aR hg).dU rows cols.toNat).1=rows) (he:e=0)
theorem JL{D:FD}{a b:List (List (El D))}(h:a.map vl=b.map vl):a=b:=(List.map_inj_right (fun x y e=>aQk e)).1 h
theorem SpE.unique{p m:Int}{xs:List Int}{cols:Int}{rs:List (List Int)}{e e':Int}(h:SpE p m xs cols rs e)(h':SpE p m xs cols rs e'):e=e':=by
 have aR:∀{D gen},IsF p m xs D→D.bh gen→Bm p m xs:=fun h1 h2=>⟨_,_,h1,h2⟩
 cases h with
 |oz nf he=>cases h' with
  |oz nf' TZ=>omega
  |bad D gen hF hg ne TZ=>exact absurd (aR hF hg) nf
  |form D gen hF hg rows er wid z ne TZ=>exact absurd (aR hF hg) nf
  |ok D gen hF hg rows er wid z eq TZ=>exact absurd (aR hF hg) nf
 |bad D gen hF hg ne he=>cases h' with
  |oz nf' TZ=>exact absurd (aR hF hg) nf'
  |bad D' EH hF' hg' ne' TZ=>have:=gJ hF hF';subst this;rw[he,TZ]
  |form D' EH hF' hg' rows er wid z ne' TZ=>have:=gJ hF hF';subst this;exact absurd z ne
  |ok D' EH hF' hg' rows er wid z eq TZ=>have:=gJ hF hF';subst this;exact absurd z ne
 |form D gen hF hg rows er wid z ne he=>cases h' with
  |oz nf' TZ=>exact absurd (aR hF hg) nf'
  |bad D' EH hF' hg' ne' TZ=>have:=gJ hF hF';subst this;exact absurd z ne'
  |form D' EH hF' hg' rows er wid z ne' TZ=>omega
  |ok D' EH hF' hg' EF er' aV7 z' eq TZ=>
   have:=gJ hF hF';subst this
   have:=JL (er.symm.trans er');subst this
   exact absurd eq ne
 |ok D gen hF hg rows er wid z eq he=>cases h' with
  |oz nf' TZ=>exact absurd (aR hF hg) nf'
  |bad D' EH hF' hg' ne' TZ=>have:=gJ hF hF';subst this;exact absurd z ne'
  |form D' EH hF' hg' EF er' aV7 z' ne TZ=>
   have:=gJ hF hF';subst this
   have:=JL (er.symm.trans er');subst this
   exact absurd eq ne
  |ok D' EH hF' hg' EF er' aV7 z' eq' TZ=>omega
variable{mod:Sl}{xs:List Int}
theorem asr(p m:Int)(bL:SI h mod xs)(hb:xs.length≤ow)(bR:fl≤h.next){cols:Int}{s:Sl}{rs:List (List Int)}(hs:RR h s rs)(hm:rs.length≤65536)(hw:∀r∈rs,r.length≤65536)(hc:cols≠0):
 ∃(h':AH) (pt:OA) (n:Int) (s1 s2:Sl) (e:Int),M fl fn.gH [.agg ⟨[.int .i64 p,.int .i64 m,.slice mod.a mod.l mod.c]⟩,.agg ⟨[.int .i64 cols,.slice s.a s.l s.c]⟩] h=some (.tuple ⟨[.agg ⟨[.pointer pt,.int .i64 n,.slice s1.a s1.l s1.c,.slice s2.a s2.l s2.c]⟩,.int .i64 e]⟩,h')∧an h h'∧SpE p m xs cols rs e:=by
 have o1:=OB.alloc h [.int .i64 p,.int .i64 m,.slice mod.a mod.l mod.c]
 have q1:=an.alloc h [.int .i64 p,.int .i64 m,.slice mod.a mod.l mod.c]
 generalize eK:h.alloc [.int .i64 p,.int .i64 m,.slice mod.a mod.l mod.c]=h1 at o1 q1
 have o2:=OB.alloc h1 [.int .i64 cols,.slice s.a s.l s.c]
 have q2:=an.alloc h1 [.int .i64 cols,.slice s.a s.l s.c]
 generalize hh2:h1.alloc [.int .i64 cols,.slice s.a s.l s.c]=h2 at o2 q2
 have o3:=OB.alloc h2 [.pointer none,.int .i64 0,.slice none 0 0,.slice none 0 0]
 have q3:=an.alloc h2 [.pointer none,.int .i64 0,.slice none 0 0,.slice none 0 0]
 generalize hh3:h2.alloc [.pointer none,.int .i64 0,.slice none 0 0,.slice none 0 0]=h3 at o3 q3
 have q13:=(q1.trans q2).trans q3
 have l1:=q1.1
 have l2:=q2.1
 have l3:=o3.1
 have Db:=(o1.quiet q2).quiet q3
 have o2':=o2.quiet q3
 obtain⟨h4,v,c1,c2,c3⟩:=aeq (fl:=fl) p m (bL.quiet q13) hb (by omega) (hs.quiet q13) hm hw hc
 have go:∀{r},gH M fl 1 p m mod cols s h=some r→M fl fn.gH [.agg ⟨[.int .i64 p,.int .i64 m,.slice mod.a mod.l mod.c]⟩,.agg ⟨[.int .i64 cols,.slice s.a s.l s.c]⟩] h=some r:=by
  intro r he
  refine bF (k:=1) (by decide) TI ?_
  rw[Ja];exact he
 have l4:=c2.1
 have errw:∀(n:Int) (s1 s2:Sl) (e:Int),e≠0→v=.tuple ⟨[.agg ⟨[.int .i64 n,.slice s1.a s1.l s1.c]⟩,.slice s2.a s2.l s2.c,.int .i64 e]⟩→
  ∃h',gH M fl 1 p m mod cols s h=some (.tuple ⟨[.agg ⟨[.pointer none,.int .i64 0,.slice (none:OA) 0 0,.slice none 0 0]⟩,.int .i64 e]⟩,h')∧an h h':=by
  intro n s1 s2 e he hv
  obtain⟨h5,k5,o5,q5⟩:=abl (fl:=fl) (h:=h4) [.int .i64 0,.slice none 0 0] [.int .i64 n,.slice s1.a s1.l s1.c] (by omega) rfl (by simp) rfl
  have o3':=(o3.quiet c2).quiet q5
  have o3p:OB (h5.put h2.next (some [.pointer none,.int .i64 0,.slice none 0 0,.slice none 0 0])) h2.next [.pointer none,.int .i64 0,.slice none 0 0,.slice none 0 0]:=o3'.put _
  refine⟨h5.put h2.next (some [.pointer none,.int .i64 0,.slice none 0 0,.slice none 0 0]),?_,((q13.trans c2).trans q5).put (by omega) _⟩
  unfold gH auQ
  rw[bT eK,bT hh2,bT hh3,ae (Db.cell rfl),ae (Db.cell rfl),aq (s:=mod) (Db.cell rfl),ae (o2'.cell rfl),aq (s:=s) (o2'.cell rfl),ak c1,hv]
  simp only[aE,ar,aM,asAgg,aX,asInt,if_true]
  rw[k5,if_pos (by simp[he]),o3'.aep (xs:=[.pointer none,.int .i64 0,.slice none 0 0,.slice none 0 0]) (by omega) rfl (by simp) rfl,
   CE (s:=none) (o3p.cell rfl),ae (o3p.cell rfl),aq (s:=⟨none,0,0⟩) (o3p.cell rfl),aq (s:=⟨none,0,0⟩) (o3p.cell rfl)]
 cases c3 with
 |oz nf e=>
  obtain⟨h',r1,r2⟩:=errw 0 ⟨none,0,0⟩ ⟨none,0,0⟩ 1 (by omega) e
  exact⟨h',none,0,⟨none,0,0⟩,⟨none,0,0⟩,1,go r1,r2,.oz nf rfl⟩
 |bad D gen hF hg ne e=>
  obtain⟨h',r1,r2⟩:=errw 0 ⟨none,0,0⟩ ⟨none,0,0⟩ _ ne e
  exact⟨h',none,0,⟨none,0,0⟩,⟨none,0,0⟩,_,go r1,r2,.bad D gen hF hg ne rfl⟩
 |ok D gen hF hg rows er wid z s' pv rr ov e=>
  obtain⟨h5,k5,o5,q5⟩:=abl (fl:=fl) (h:=h4) [.int .i64 0,.slice none 0 0] [.int .i64 cols,.slice s'.a s'.l s'.c] (by omega) rfl (by simp) rfl
  have q15:=(q13.trans c2).trans q5
  have o3':=(o3.quiet c2).quiet q5
  have aAe:=(o2'.quiet c2).quiet q5
  have akT:=(Db.quiet c2).quiet q5
  have rr5:=(rr.quiet q5).rr
  have hs5:=hs.quiet q15
  obtain⟨c0,cc1,cc2,_⟩:=Cw z
  have a_d:((FD.aR hg).dU rows cols.toNat).1.length≤65536:=by
   unfold Fld.dU
   simp only[List.length_take,Fld.EY]
   rw[er,List.length_map] at cc2;omega
  have hcw:∀r∈((FD.aR hg).dU rows cols.toNat).1.map vl,r.length≤ow:=by
   intro r hr
   obtain⟨r',hr',rfl⟩:=List.mem_map.1 hr
   have:=Fld.axg (FD.aR hg) cols.toNat 0 rows [] wid (Nat.zero_le _) r' (List.mem_of_mem_take hr')
   rw[iT,this];unfold ow;omega
  have heq:=aFu (fl:=fl) rr5 hs5 (by rw[List.length_map];unfold ow;omega) hcw
  have pre:∀r,(if (!(decide (((FD.aR hg).dU rows cols.toNat).1.map vl=rs)))=true then st fl h5 ⟨h2.next,0,none⟩ [.pointer none,.int .i64 0,.slice none 0 0,.slice none 0 0] fun h39=>ldN h39 h2.next 0 fun p55=>aF .i64 h39 h2.next (0+1) fun n56=>aT h39 h2.next (0+1+1) fun s57=>aT h39 h2.next (0+1+1+1) fun s58=>some (Value.tuple ⟨[.agg ⟨[.pointer p55,.int .i64 n56,.slice s57.a s57.l s57.c,.slice s58.a s58.l s58.c]⟩,.int .i64 5]⟩,h39)
   else aj M fl fn.fB [.agg ⟨[.int .i64 p,.int .i64 m,.slice mod.a mod.l mod.c]⟩] h5 fun v43 h44=>aE v43 fun l45=>ar l45 fun v46 l47=>ek v46 fun p48=>ar l47 fun v49 l50=>asInt .i64 v49 fun n51=>aM l50 (aF .i64 h44 h1.next 0 fun n52=>aT h44 h1.next 1 fun s53=>st fl h44 ⟨h2.next,0,none⟩ [.pointer p48,.int .i64 n52,.slice s53.a s53.l s53.c,.slice pv.a pv.l pv.c] fun h54=>ldN h54 h2.next 0 fun p55=>aF .i64 h54 h2.next (0+1) fun n56=>aT h54 h2.next (0+1+1) fun s57=>aT h54 h2.next (0+1+1+1) fun s58=>some (Value.tuple ⟨[.agg ⟨[.pointer p55,.int .i64 n56,.slice s57.a s57.l s57.c,.slice s58.a s58.l s58.c]⟩,.int .i64 n51]⟩,h54)))=r→
   gH M fl 1 p m mod cols s h=r:=by
   intro r hr
   unfold gH auQ
   rw[bT eK,bT hh2,bT hh3,ae (Db.cell rfl),ae (Db.cell rfl),aq (s:=mod) (Db.cell rfl),ae (o2'.cell rfl),aq (s:=s) (o2'.cell rfl),ak c1,e]
   simp only[aE,ar,aM,asAgg,aX,asInt,if_true]
   rw[k5,if_neg (by simp),aq (s:=s') (o5.cell rfl),aq (s:=s) (aAe.cell rfl),ak heq]
   simp only[asBool]
   rw[ae (akT.cell rfl),ae (akT.cell rfl),aq (s:=mod) (akT.cell rfl)]
   exact hr
  by_cases ceq:((FD.aR hg).dU rows cols.toNat).1=rows
  ·have hd:decide (((FD.aR hg).dU rows cols.toNat).1.map vl=rs)=true:=by rw[ceq,er];simp
   rw[hd] at pre
   obtain⟨h6,q6,hN⟩:=aem (fl:=fl) p m (bL.quiet q15) hb (by have:=q15.1;omega)
   rcases hN with⟨nf,_⟩|⟨D',EH,g,hF',gf,gb,eN⟩
   ·exact absurd ⟨D,gen,hF,hg⟩ nf
   ·have o3q:=o3'.quiet q6
    have o2q:=aAe.quiet q6
    have o3p:OB (h6.put h2.next (some [.pointer (some g),.int .i64 cols,.slice s.a s.l s.c,.slice pv.a pv.l pv.c])) h2.next [.pointer (some g),.int .i64 cols,.slice s.a s.l s.c,.slice pv.a pv.l pv.c]:=o3q.put _
    refine⟨h6.put h2.next (some [.pointer (some g),.int .i64 cols,.slice s.a s.l s.c,.slice pv.a pv.l pv.c]),some g,cols,s,pv,0,go (pre _ ?_),(q15.trans q6).put (by omega) _,.ok D gen hF hg rows er wid z ceq rfl⟩
    rw[if_neg (by simp),ak eN]
    simp only[aE,ar,aM,ek,asInt,if_true]
    rw[ae (o2q.cell rfl),aq (s:=s) (o2q.cell rfl),o3q.aep (xs:=[.pointer (some g),.int .i64 cols,.slice s.a s.l s.c,.slice pv.a pv.l pv.c]) (by omega) rfl (by simp) rfl,
     CE (s:=some g) (o3p.cell rfl),ae (o3p.cell rfl),aq (s:=s) (o3p.cell rfl),aq (s:=pv) (o3p.cell rfl)]
  ·have hd:decide (((FD.aR hg).dU rows cols.toNat).1.map vl=rs)=false:=by
    rw[er];simp only[decide_eq_false_iff_not];exact fun h=>ceq (JL h)
   rw[hd] at pre
   have o3p:OB (h5.put h2.next (some [.pointer none,.int .i64 0,.slice none 0 0,.slice none 0 0])) h2.next [.pointer none,.int .i64 0,.slice none 0 0,.slice none 0 0]:=o3'.put _
   refine⟨h5.put h2.next (some [.pointer none,.int .i64 0,.slice none 0 0,.slice none 0 0]),none,0,⟨none,0,0⟩,⟨none,0,0⟩,5,go (pre _ ?_),q15.put (by omega) _,.form D gen hF hg rows er wid z ceq rfl⟩
   rw[if_pos (by simp),o3'.aep (xs:=[.pointer none,.int .i64 0,.slice none 0 0,.slice none 0 0]) (by omega) rfl (by simp) rfl,
    CE (s:=none) (o3p.cell rfl),ae (o3p.cell rfl),aq (s:=⟨none,0,0⟩) (o3p.cell rfl),aq (s:=⟨none,0,0⟩) (o3p.cell rfl)]
theorem apw(p m:Int)(bL:SI h mod xs)(hb:xs.length≤ow)(bR:fl≤h.next){cols:Int}{s:Sl}{rs:List (List Int)}(hs:RR h s rs)(hm:rs.length≤65536)(hw:∀r∈rs,r.length≤65536)(hc:cols≠0):
 ∃(h':AH) (e:Int),M fl fn.pX [.agg ⟨[.int .i64 p,.int .i64 m,.slice mod.a mod.l mod.c]⟩,.agg ⟨[.int .i64 cols,.slice s.a s.l s.c]⟩] h=some (.int .i64 e,h')∧an h h'∧SpE p m xs cols rs e:=by
 have o1:=OB.alloc h [.int .i64 p,.int .i64 m,.slice mod.a mod.l mod.c]
 have q1:=an.alloc h [.int .i64 p,.int .i64 m,.slice mod.a mod.l mod.c]
 generalize eK:h.alloc [.int .i64 p,.int .i64 m,.slice mod.a mod.l mod.c]=h1 at o1 q1
 have o2:=OB.alloc h1 [.int .i64 cols,.slice s.a s.l s.c]
 have q2:=an.alloc h1 [.int .i64 cols,.slice s.a s.l s.c]
 generalize hh2:h1.alloc [.int .i64 cols,.slice s.a s.l s.c]=h2 at o2 q2
 have q12:=q1.trans q2
 have l1:=q12.1
 have Db:=o1.quiet q2
 obtain⟨h3,pt,n,s1,s2,e,c1,c2,c3⟩:=asr (fl:=fl) p m (bL.quiet q12) hb (by omega) (hs.quiet q12) hm hw hc
 obtain⟨h4,k4,o4,q4⟩:=abl (fl:=fl) (h:=h3) [.pointer none,.int .i64 0,.slice none 0 0,.slice none 0 0] [.pointer pt,.int .i64 n,.slice s1.a s1.l s1.c,.slice s2.a s2.l s2.c] (by have:=c2.1;omega) rfl (by simp) rfl
 refine⟨h4,e,bF (k:=1) (by decide) MI ?_,(q12.trans c2).trans q4,c3⟩
 rw[Hg]
 unfold pX aCS
 rw[bT eK,bT hh2]
 rw[ae (Db.cell rfl),ae (Db.cell rfl),aq (s:=mod) (Db.cell rfl),ae (o2.cell rfl),aq (s:=s) (o2.cell rfl),ak c1]
 simp only[aE,ar,aM,asAgg,aX,ek,asInt,if_true]
 rw[k4]
theorem Yy(n:Int):M fl fn.mo [.int .i64 n] h=some (.int .i64 (if n<1∨n>64 then 4 else 0),h):=by
 refine bF (k:=1) (by decide) MG ?_
 rw[Hd]
 unfold mo aCJ
 by_cases c1:n<1
 ·rw[if_neg (by simp[c1]),if_pos (.inl c1)]
 ·rw[if_pos (by simp;omega)]
  by_cases c2:n>64
  ·rw[if_pos (by simp;omega),if_pos (.inr c2)]
  ·rw[if_neg (by simp;omega),if_neg (by omega)]
theorem aFv(p m n:Int)(s:Sl)(bR:fl≤h.next):∃h',M fl fn.Dr [.agg ⟨[.int .i64 p,.int .i64 m,.slice mod.a mod.l mod.c,.int .i64 n,.slice s.a s.l s.c]⟩] h=some (.agg ⟨[.int .i64 n,.slice s.a s.l s.c]⟩,h')∧an h h':=by
 have o1:=OB.alloc h [.int .i64 p,.int .i64 m,.slice mod.a mod.l mod.c,.int .i64 n,.slice s.a s.l s.c]
 have q1:=an.alloc h [.int .i64 p,.int .i64 m,.slice mod.a mod.l mod.c,.int .i64 n,.slice s.a s.l s.c]
 generalize eK:h.alloc [.int .i64 p,.int .i64 m,.slice mod.a mod.l mod.c,.int .i64 n,.slice s.a s.l s.c]=h1 at o1 q1
 have o2:=OB.alloc h1 [.int .i64 0,.slice none 0 0]
 have q2:=an.alloc h1 [.int .i64 0,.slice none 0 0]
 generalize hh2:h1.alloc [.int .i64 0,.slice none 0 0]=h2 at o2 q2
 have l1:=q1.1
 have Db:=o1.quiet q2
 have o2p:OB (h2.put h1.next (some [.int .i64 n,.slice s.a s.l s.c])) h1.next [.int .i64 n,.slice s.a s.l s.c]:=o2.put _
 refine⟨h2.put h1.next (some [.int .i64 n,.slice s.a s.l s.c]),bF (k:=1) (by decide) aec ?_,(q1.trans q2).put (by omega) _⟩
 rw[RD]
 unfold Dr aCD bJ
 rw[eK]
 dsimp only
 rw[hh2,ae (Db.cell rfl),aq (s:=s) (Db.cell rfl),o2.aep (xs:=[.int .i64 n,.slice s.a s.l s.c]) (by omega) rfl (by simp) rfl,ae (o2p.cell rfl),aq (s:=s) (o2p.cell rfl)]
inductive CoE (p m:Int) (xs:List Int) (n:Int) (rs:List (List Int)) (e:Int):Prop where
 |oz (nf:¬Bm p m xs) (he:e=1)
 |len (f:Bm p m xs) (hn:n<1∨n>64) (he:e=4)
 |sp (f:Bm p m xs) (hn:¬(n<1∨n>64)) (he:SpE p m xs n rs e)
theorem CoE.unique{p m:Int}{xs:List Int}{n:Int}{rs:List (List Int)}{e e':Int}(h:CoE p m xs n rs e)(h':CoE p m xs n rs e'):e=e':=by
 cases h with
 |oz nf he=>cases h' with
  |oz nf' TZ=>omega
  |len f hn TZ=>exact absurd f nf
  |sp f hn TZ=>exact absurd f nf
 |len f hn he=>cases h' with
  |oz nf' TZ=>exact absurd f nf'
  |len f' hn' TZ=>omega
  |sp f' hn' TZ=>exact absurd hn hn'
 |sp f hn he=>cases h' with
  |oz nf' TZ=>exact absurd f nf'
  |len f' hn' TZ=>exact absurd hn' hn
  |sp f' hn' TZ=>exact he.unique TZ
def ca(p m:Int)(mod:Sl)(n:Int)(s:Sl):Value:=.agg ⟨[.int .i64 p,.int .i64 m,.slice mod.a mod.l mod.c,.int .i64 n,.slice s.a s.l s.c]⟩
theorem apy(p m:Int)(bL:SI h mod xs)(hb:xs.length≤ow)(bR:fl≤h.next){n:Int}{s:Sl}{rs:List (List Int)}(hs:RR h s rs)(hm:rs.length≤65536)(hw:∀r∈rs,r.length≤65536):
 ∃(h':AH) (e:Int),M fl fn.ep [ca p m mod n s] h=some (.int .i64 e,h')∧an h h'∧CoE p m xs n rs e:=by
 have o1:=OB.alloc h [.int .i64 p,.int .i64 m,.slice mod.a mod.l mod.c,.int .i64 n,.slice s.a s.l s.c]
 have q1:=an.alloc h [.int .i64 p,.int .i64 m,.slice mod.a mod.l mod.c,.int .i64 n,.slice s.a s.l s.c]
 generalize eK:h.alloc [.int .i64 p,.int .i64 m,.slice mod.a mod.l mod.c,.int .i64 n,.slice s.a s.l s.c]=h1 at o1 q1
 have l1:=q1.1
 obtain⟨h2,e1,c1,c2,c3⟩:=apl (fl:=fl) p m (bL.quiet q1) hb (by omega)
 have q2:=q1.trans c2
 have o2:=o1.quiet c2
 have l2:=q2.1
 have go:∀{r},ep M fl 1 p m mod n s h=some r→M fl fn.ep [ca p m mod n s] h=some r:=by
  intro r he
  refine bF (k:=1) (by decide) TF ?_
  unfold ca
  rw[I5];exact he
 rcases c3 with⟨f,rfl⟩|⟨nf,rfl⟩
 ·by_cases hn:n<1∨n>64
  ·refine⟨h2,4,go ?_,q2,.len f hn rfl⟩
   unfold ep amj bJ
   rw[eK]
   dsimp only
   rw[ae (o1.cell rfl),ae (o1.cell rfl),aq (s:=mod) (o1.cell rfl),ak c1]
   simp only[asInt,if_true]
   rw[if_neg (by simp),ae (o2.cell rfl),ak (Yy n),if_pos hn]
   simp only[if_true]
   rw[if_pos (by simp)]
  ·obtain⟨h3,g1,g2⟩:=aFv (mod:=mod) (fl:=h2.next) (h:=h2) p m n s (Nat.le_refl _)
   have q3:=q2.trans g2
   obtain⟨h4,e4,s1,s2,s3⟩:=apw (fl:=fl) p m (bL.quiet q3) hb (by have:=q3.1;omega) (hs.quiet q3) hm hw (cols:=n) (by omega)
   refine⟨h4,e4,go ?_,q3.trans s2,.sp f hn s3⟩
   unfold ep amj bJ
   rw[eK]
   dsimp only
   rw[ae (o1.cell rfl),ae (o1.cell rfl),aq (s:=mod) (o1.cell rfl),ak c1]
   simp only[asInt,if_true]
   rw[if_neg (by simp),ae (o2.cell rfl),ak (Yy n),if_neg hn]
   simp only[if_true]
   rw[if_neg (by simp),ae (o2.cell rfl),ae (o2.cell rfl),aq (s:=mod) (o2.cell rfl),ae (o2.cell rfl),ae (o2.cell rfl),aq (s:=mod) (o2.cell rfl),ae (o2.cell rfl),aq (s:=s) (o2.cell rfl),ak g1]
   simp only[asAgg,ar,aM,aX,asInt,if_true]
   rw[ak s1]
   simp only[if_true]
 ·refine⟨h2,1,go ?_,q2,.oz nf rfl⟩
  unfold ep amj bJ
  rw[eK]
  dsimp only
  rw[ae (o1.cell rfl),ae (o1.cell rfl),aq (s:=mod) (o1.cell rfl),ak c1]
  simp only[asInt,if_true]
  rw[if_pos (by simp)]
end
end Go.Abs.P
end
section
namespace Go.Abs.P
open Go.Abs Go.Fld
section
variable{D:FD}{mod:Sl}{h:AH}{fl:Nat}
theorem azM{R:Type}{k:Nat}{h0:AH}{bx:Nat}(kn:au R)(kr:ah R)(r:RF h0 mod D)(hx:OB h0 bx [.int .i64 (D.p:Int),.int .i64 (D.m:Int),.slice mod.a mod.l mod.c]){s:Sl}{xs:List Int}(hs:SI h0 s xs)(hm:xs.length≤65536):
 ∀(d i f:Nat) (h:AH),i+d=xs.length→d<f→an h0 h→∃h',an h0 h'∧ue M fl k kn kr f s ⟨bx,0,none⟩ (i:Int) h=if (xs.drop i).all (isI D)=true then kn h' else kr 2 h':=by
 intro d
 induction d with
 |zero=>
  intro i f h hi hf hq
  obtain⟨f,rfl⟩:∃j,f=j+1:=⟨f-1,by omega⟩
  refine⟨h,hq,?_⟩
  show ud M fl k _ _ _ _ _ _ h=_
  unfold ud
  rw[hs.len,if_neg (by simp;omega),List.drop_of_length_le (by omega)];rfl
 |succ d ih=>
  intro i f h hi hf hq
  obtain⟨f,rfl⟩:∃j,f=j+1:=⟨f-1,by omega⟩
  have qC:i<xs.length:=by omega
  have lY:=hx.quiet hq
  obtain⟨h1,a1,a2⟩:=apr (fl:=fl) (r.quiet hq) xs[i]
  have un:ue M fl k kn kr (f+1) s ⟨bx,0,none⟩ (i:Int) h=if (!(isI D xs[i]))=true then kr 2 h1 else ue M fl k kn kr f s ⟨bx,0,none⟩ ((i+1:Nat):Int) h1:=by
   show ud M fl k _ _ _ _ _ _ h=_
   unfold ud
   dsimp only
   rw[hs.len,if_pos (by simp;omega),ae (lY.cell rfl),ae (lY.cell rfl),aq (s:=mod) (lY.cell rfl),(hs.quiet hq).read (by omega) (by simp;omega)]
   simp only[Int.toNat_natCast]
   rw[ak (show M fl fn.my [.agg ⟨[.int .i64 (D.p:Int),.int .i64 (D.m:Int),.slice mod.a mod.l mod.c]⟩,.int .i64 xs[i]] h=_ from a1)]
   simp only[asBool]
   rw[aH (i+1) (by push_cast;rfl) (by omega)]
  rw[un,List.drop_eq_getElem_cons qC,List.all_cons]
  by_cases c:isI D xs[i]=true
  ·obtain⟨h',e1,e2⟩:=ih (i+1) f h1 (by omega) (by omega) (hq.trans a2)
   refine⟨h',e1,?_⟩
   rw[if_neg (by simp[c]),c,Bool.true_and];exact e2
  ·refine⟨h1,hq.trans a2,?_⟩
   rw[if_pos (by simp[c]),if_neg (by simp[c])]
theorem azN(r:RF h mod D){s:Sl}{xs:List Int}(hs:SI h s xs)(hm:xs.length≤65536):∃h',M fl fn.k9 [fa D mod,.slice s.a s.l s.c] h=some (.int .i64 (if xs.all (isI D)=true then 0 else 2),h')∧an h h':=by
 have dF:=sR h D mod
 have eI:=an.alloc h [.int .i64 (D.p:Int),.int .i64 (D.m:Int),.slice mod.a mod.l mod.c]
 generalize eK:h.alloc [.int .i64 (D.p:Int),.int .i64 (D.m:Int),.slice mod.a mod.l mod.c]=h1 at dF eI
 obtain⟨h',e1,e2⟩:=azM (fl:=fl) (k:=xs.length+1) (UU M fl (xs.length+1) (fun(y4:Int) q=>some (Value.int .i64 y4,q))) (fun(y4:Int) q=>some (Value.int .i64 y4,q)) (r.quiet eI) dF (hs.quiet eI) hm xs.length 0 (xs.length+1) h1 (by omega) (by omega) (an.refl _)
 refine⟨h',bF (k:=xs.length+1) (by decide) aaf ?_,eI.trans e1⟩
 unfold fa
 rw[RH]
 unfold k9 aCG aiD
 rw[bT eK]
 refine Eq.trans e2 ?_
 rw[List.drop_zero]
 split<;>rfl
theorem azO{R:Type}{k:Nat}{bx by':Nat}{cols:Int}(kn:dh R)(kr:ah R){s:Sl}(hy:OB h by' [.int .i64 cols,.slice s.a s.l s.c]){rs:List (List Int)}(hs:RR h s rs)(hm:rs.length≤65536):
 ∀(d i f:Nat),i+d=rs.length→d<f→DJ M fl k kn kr f ⟨bx,0,none⟩ ⟨by',0,none⟩ (i:Int) h=if (rs.drop i).all (fun r=>decide ((r.length:Int)=cols))=true then kn ⟨bx,0,none⟩ ⟨by',0,none⟩ h else kr 3 h:=by
 intro d
 induction d with
 |zero=>
  intro i f hi hf
  obtain⟨f,rfl⟩:∃j,f=j+1:=⟨f-1,by omega⟩
  show uu M fl k _ _ _ _ _ _ h=_
  unfold uu
  dsimp only
  rw[aq (s:=s) (hy.cell rfl),hs.len,if_neg (by simp;omega),List.drop_of_length_le (by omega)];rfl
 |succ d ih=>
  intro i f hi hf
  obtain⟨f,rfl⟩:∃j,f=j+1:=⟨f-1,by omega⟩
  have qC:i<rs.length:=by omega
  obtain⟨t,ht1,ht2⟩:=hs.read qC
  show uu M fl k _ _ _ _ _ _ h=_
  unfold uu
  dsimp only
  rw[aq (s:=s) (hy.cell rfl),hs.len,if_pos (by simp;omega),aq (s:=s) (hy.cell rfl),ht2,ae (hy.cell rfl),ht1.len,List.drop_eq_getElem_cons qC,List.all_cons]
  by_cases c:(rs[i].length:Int)=cols
  ·have e:decide ((rs[i].length:Int)=cols)=true:=by simp[c]
   rw[if_neg (by simp[c]),e,Bool.true_and,aH (i+1) (by push_cast;rfl) (by omega)]
   exact ih (i+1) f (by omega) (by omega)
  ·rw[if_pos (by simp[c]),if_neg (by simp[c])]
theorem azP{R:Type}{k:Nat}{h0:AH}{bx by':Nat}{cols:Int}(kn:au R)(kr:ah R)(r:RF h0 mod D)(hx:OB h0 bx [.int .i64 (D.p:Int),.int .i64 (D.m:Int),.slice mod.a mod.l mod.c]){s:Sl}(hy:OB h0 by' [.int .i64 cols,.slice s.a s.l s.c]){rs:List (List Int)}(hs:RR h0 s rs)(hm:rs.length≤65536)(hw:∀r∈rs,r.length≤65536):
 ∀(d i f:Nat) (h:AH),i+d=rs.length→d<f→an h0 h→∃h',an h0 h'∧jz M fl k kn kr f ⟨bx,0,none⟩ ⟨by',0,none⟩ (i:Int) h=if (rs.drop i).all (fun r=>r.all (isI D))=true then kn h' else kr 2 h':=by
 intro d
 induction d with
 |zero=>
  intro i f h hi hf hq
  obtain⟨f,rfl⟩:∃j,f=j+1:=⟨f-1,by omega⟩
  have hyq:=hy.quiet hq
  refine⟨h,hq,?_⟩
  show jy M fl k _ _ _ _ _ _ h=_
  unfold jy
  dsimp only
  rw[aq (s:=s) (hyq.cell rfl),hs.len,if_neg (by simp;omega),List.drop_of_length_le (by omega)];rfl
 |succ d ih=>
  intro i f h hi hf hq
  obtain⟨f,rfl⟩:∃j,f=j+1:=⟨f-1,by omega⟩
  have qC:i<rs.length:=by omega
  have hyq:=hy.quiet hq
  have lY:=hx.quiet hq
  obtain⟨t,ht1,ht2⟩:=(hs.quiet hq).read qC
  obtain⟨h1,a1,a2⟩:=azN (fl:=fl) (r.quiet hq) ht1 (hw _ (List.getElem_mem qC))
  have un:jz M fl k kn kr (f+1) ⟨bx,0,none⟩ ⟨by',0,none⟩ (i:Int) h=if ((if rs[i].all (isI D)=true then (0:Int) else 2) !=0)=true then kr (if rs[i].all (isI D)=true then (0:Int) else 2) h1 else jz M fl k kn kr f ⟨bx,0,none⟩ ⟨by',0,none⟩ ((i+1:Nat):Int) h1:=by
   show jy M fl k _ _ _ _ _ _ h=_
   unfold jy
   dsimp only
   rw[aq (s:=s) (hyq.cell rfl),hs.len,if_pos (by simp;omega),ae (lY.cell rfl),ae (lY.cell rfl),aq (s:=mod) (lY.cell rfl),aq (s:=s) (hyq.cell rfl),ht2,
    ak (show M fl fn.k9 [.agg ⟨[.int .i64 (D.p:Int),.int .i64 (D.m:Int),.slice mod.a mod.l mod.c]⟩,.slice t.a t.l t.c] h=_ from a1)]
   simp only[asInt,if_true]
   rw[aH (i+1) (by push_cast;rfl) (by omega)]
  rw[un,List.drop_eq_getElem_cons qC,List.all_cons]
  by_cases c:rs[i].all (isI D)=true
  ·obtain⟨h',e1,e2⟩:=ih (i+1) f h1 (by omega) (by omega) (hq.trans a2)
   refine⟨h',e1,?_⟩
   rw[if_pos c,if_neg (by simp),c,Bool.true_and];exact e2
  ·refine⟨h1,hq.trans a2,?_⟩
   rw[if_neg c,if_pos (by simp),if_neg (by simp[c])]
inductive MaE (p m:Int) (xs:List Int) (cols:Int) (rs:List (List Int)) (e:Int):Prop where
 |oz (nf:¬Bm p m xs) (he:e=1)
 |mat (D:FD) (gen:Nat) (hF:IsF p m xs D) (hg:D.bh gen) (he:e=gK D cols rs)
theorem akH{xs:List Int}(p m:Int)(bL:SI h mod xs)(hb:xs.length≤ow)(bR:fl≤h.next){cols:Int}{s:Sl}{rs:List (List Int)}(hs:RR h s rs)(hm:rs.length≤65536)(hw:∀r∈rs,r.length≤65536):
 ∃(h':AH) (e:Int),M fl fn.jd [.agg ⟨[.int .i64 p,.int .i64 m,.slice mod.a mod.l mod.c]⟩,.agg ⟨[.int .i64 cols,.slice s.a s.l s.c]⟩] h=some (.int .i64 e,h')∧an h h'∧MaE p m xs cols rs e:=by
 have o1:=OB.alloc h [.int .i64 p,.int .i64 m,.slice mod.a mod.l mod.c]
 have q1:=an.alloc h [.int .i64 p,.int .i64 m,.slice mod.a mod.l mod.c]
 generalize eK:h.alloc [.int .i64 p,.int .i64 m,.slice mod.a mod.l mod.c]=h1 at o1 q1
 have o2:=OB.alloc h1 [.int .i64 cols,.slice s.a s.l s.c]
 have q2:=an.alloc h1 [.int .i64 cols,.slice s.a s.l s.c]
 generalize hh2:h1.alloc [.int .i64 cols,.slice s.a s.l s.c]=h2 at o2 q2
 have q12:=q1.trans q2
 have l1:=q12.1
 have Db:=o1.quiet q2
 obtain⟨h3,e,c1,c2,c3⟩:=Yw (fl:=fl) p m (bL.quiet q12) hb (by omega)
 have q3:=q12.trans c2
 have o2':=o2.quiet c2
 have akT:=Db.quiet c2
 have go:∀{r},jd M fl (rs.length+1) p m mod cols s h=some r→M fl fn.jd [.agg ⟨[.int .i64 p,.int .i64 m,.slice mod.a mod.l mod.c]⟩,.agg ⟨[.int .i64 cols,.slice s.a s.l s.c]⟩] h=some r:=by
  intro r he
  refine bF (k:=rs.length+1) (by decide) af6 ?_
  rw[Zw];exact he
 rcases c3 with⟨⟨D,gen,hF,hg⟩,rfl⟩|⟨nf,rfl⟩
 ·have un:∀r,(if decide (cols<0)=false then if decide (cols>256)=false then if decide (((s.l:Nat):Int)>256)=true then some (Value.int .i64 3,h3) else R7 M fl (rs.length+1) (fun(y4:Int) q=>some (Value.int .i64 y4,q)) ⟨h.next,0,none⟩ ⟨h1.next,0,none⟩ 0 h3 else some (Value.int .i64 3,h3) else some (Value.int .i64 3,h3))=r→jd M fl (rs.length+1) p m mod cols s h=r:=by
   intro r hr
   unfold jd avh ac5
   rw[bT eK,bT hh2,ae (Db.cell rfl),ae (Db.cell rfl),aq (s:=mod) (Db.cell rfl),ak c1]
   simp only[asInt,if_true]
   rw[if_neg (by simp),ae (o2'.cell rfl),ae (o2'.cell rfl),aq (s:=s) (o2'.cell rfl)]
   exact hr
  by_cases c1:cols<0
  ·exact⟨h3,3,go (un _ (by rw[if_neg (by simp[c1])])),q3,.mat D gen hF hg (by unfold gK;rw[if_pos (.inl c1)])⟩
  ·by_cases c2:cols>256
   ·exact⟨h3,3,go (un _ (by rw[if_pos (by simp;omega),if_neg (by simp;omega)])),q3,.mat D gen hF hg (by unfold gK;rw[if_pos (by omega)])⟩
   ·by_cases c3:rs.length>256
    ·exact⟨h3,3,go (un _ (by rw[if_pos (by simp;omega),if_pos (by simp;omega),hs.len,if_pos (by simp;omega)])),q3,.mat D gen hF hg (by unfold gK;rw[if_pos (by omega)])⟩
    ·have hsq:=hs.quiet q3
     have l:=azO (fl:=fl) (k:=rs.length+1) (bx:=h.next) (KE M fl (rs.length+1) (fun(y4:Int) q=>some (Value.int .i64 y4,q))) (fun(y4:Int) q=>some (Value.int .i64 y4,q)) o2' hsq hm rs.length 0 (rs.length+1) (by omega) (by omega)
     rw[List.drop_zero] at l
     have hme:gK D cols rs=if rs.all (fun r=>decide ((r.length:Int)=cols))=true then (if rs.all (fun r=>r.all (isI D))=true then 0 else 2) else 3:=by unfold gK;rw[if_neg (by omega)]
     by_cases c4:rs.all (fun r=>decide ((r.length:Int)=cols))=true
     ·rw[if_pos c4] at l hme
      have rf:RF h3 mod D:=⟨hF.ok,by have:=bL.quiet q3;rwa[hF.hx] at this⟩
      have hp:=hF.hp
      have hmm:=hF.hm
      rw[hp,hmm] at akT
      obtain⟨h4,q4,l2⟩:=azP (fl:=fl) (k:=rs.length+1) (CR M fl (rs.length+1) (fun(y4:Int) q=>some (Value.int .i64 y4,q))) (fun(y4:Int) q=>some (Value.int .i64 y4,q)) rf akT o2' hsq hm hw rs.length 0 (rs.length+1) h3 (by omega) (by omega) (an.refl _)
      rw[List.drop_zero] at l2
      refine⟨h4,gK D cols rs,go (un _ ?_),q3.trans q4,.mat D gen hF hg rfl⟩
      rw[if_pos (by simp;omega),if_pos (by simp;omega),hs.len,if_neg (by simp;omega)]
      unfold R7
      refine Eq.trans l ?_
      unfold KE FT Je
      refine Eq.trans l2 ?_
      rw[hme]
      split<;>rfl
     ·rw[if_neg c4] at l hme
      refine⟨h3,3,go (un _ ?_),q3,.mat D gen hF hg hme.symm⟩
      rw[if_pos (by simp;omega),if_pos (by simp;omega),hs.len,if_neg (by simp;omega)]
      unfold R7
      exact l
 ·refine⟨h3,1,go ?_,q3,.oz nf rfl⟩
  unfold jd avh ac5
  rw[bT eK,bT hh2,ae (Db.cell rfl),ae (Db.cell rfl),aq (s:=mod) (Db.cell rfl),ak c1]
  simp only[asInt,if_true]
  rw[if_pos (by simp)]
theorem agd{R:Type}{k:Nat}(kn:au R)(kr:aC R){s t:Sl}{xs ys:List (List Int)}(hs:RR h s xs)(ht:RR h t ys)(hl:xs.length=ys.length)(hb:xs.length≤ow)(hw:∀r∈xs,r.length≤ow):
 ∀(d i m:Nat),i+d=xs.length→d<m→Dw M fl k kn kr m s t (i:Int) h=if xs.drop i=ys.drop i then kn h else kr false h:=by
 intro d
 induction d with
 |zero=>
  intro i m hi hm
  obtain⟨m,rfl⟩:∃j,m=j+1:=⟨m-1,by omega⟩
  show tQ M fl k _ _ kr _ _ (i:Int) h=_
  unfold tQ
  rw[hs.len,if_neg (by simp;omega),List.drop_of_length_le (by omega),List.drop_of_length_le (by omega),if_pos rfl]
 |succ d ih=>
  intro i m hi hm
  obtain⟨m,rfl⟩:∃j,m=j+1:=⟨m-1,by omega⟩
  have hix:i<xs.length:=by omega
  have hiy:i<ys.length:=by omega
  obtain⟨tx,a1,a2⟩:=hs.read hix
  obtain⟨ty,b1,b2⟩:=ht.read hiy
  show tQ M fl k _ _ kr _ _ (i:Int) h=_
  unfold tQ
  rw[hs.len,if_pos (by simp;omega),a2,b2,ak (C9 a1 b1 (hw _ (List.getElem_mem hix)))]
  simp only[asBool]
  rw[List.drop_eq_getElem_cons hix,List.drop_eq_getElem_cons hiy,gr (by omega)]
  by_cases e:xs[i]=ys[i]
  ·rw[if_neg (by simp[e]),ih (i+1) m (by omega) (by omega)]
   simp only[List.cons.injEq,e,true_and]
  ·rw[if_pos (by simp[e])]
   simp only[List.cons.injEq,e,false_and,if_false]
theorem age{s t:Sl}{xs ys:List (List Int)}(hs:RR h s xs)(ht:RR h t ys)(hb:xs.length≤ow)(hw:∀r∈xs,r.length≤ow):M fl fn.eQ [.slice s.a s.l s.c,.slice t.a t.l t.c] h=some (.bool (decide (xs=ys)),h):=by
 refine bF (k:=xs.length+1) (by decide) Et ?_
 rw[Af]
 unfold eQ aB8 aih
 by_cases hl:xs.length=ys.length
 ·rw[if_neg (by rw[hs.len,ht.len];simp[hl])]
  unfold aif
  have:=agd (fl:=fl) (k:=xs.length+1) (Kf M fl (xs.length+1) (fun(y4:Bool) q=>some (Value.bool y4,q))) (fun(y4:Bool) q=>some (Value.bool y4,q)) hs ht hl hb hw xs.length 0 (xs.length+1) (by omega) (by omega)
  refine this.trans ?_
  by_cases e:xs=ys
  ·simp[e,Kf]
  ·simp[e]
 ·have e:xs≠ys:=fun e=>hl (by rw[e])
  rw[if_pos (by rw[hs.len,ht.len];simp;omega)]
  simp[e]
end
end Go.Abs.P
end
section
namespace Go.Abs.P
open Go.Abs Go.Fld
section
variable{D:FD}{gen:Nat}(hg:D.bh gen){mod:Sl}{h:AH}{fl:Nat}
theorem aOS(r:RF h mod D)(x y:El D)(bR:fl≤h.next):∃h',M fl fn.iQ [fa D mod,.int .i64 (ve x),.int .i64 (ve y)] h=some (.int .i64 (ve ((FD.aR hg).mul x y)),h')∧an h h':=by
 obtain⟨h',e1,e2⟩:=ahi (fl:=fl) r (ve x) (ve y) bR
 rw[lD,lD] at e1
 exact⟨h',e1,e2⟩
theorem aTq(r:RF h mod D)(x y:El D)(bR:fl≤h.next):∃h',M fl fn.qb [fa D mod,.int .i64 (ve x),.int .i64 (ve y)] h=some (.int .i64 (ve ((FD.aR hg).add x y)),h')∧an h h':=by
 obtain⟨h',e1,e2⟩:=azz (fl:=fl) r (ve x) (ve y) bR
 rw[lD,lD] at e1
 exact⟨h',e1,e2⟩
theorem aTr(r:RF h mod D)(x:El D)(bR:fl≤h.next):∃h',M fl fn.tD [fa D mod,.int .i64 (ve x)] h=some (.int .i64 (ve ((FD.aR hg).neg x)),h')∧an h h':=by
 obtain⟨h',e1,e2⟩:=azA (fl:=fl) r (ve x) bR
 rw[lD] at e1
 exact⟨h',e1,e2⟩
theorem aTs(r:RF h mod D)(x:El D)(bR:fl≤h.next):∃h',M fl fn.tE [fa D mod,.int .i64 (ve x)] h=some (.int .i64 (ve ((FD.aR hg).inv x)),h')∧an h h':=by
 obtain⟨h',e1,e2⟩:=azC (fl:=fl) r (ve x) bR
 rw[lD] at e1
 exact⟨h',e1,e2⟩
theorem apz{R:Type}{k:Nat}{h0:AH}{bx b:Nat}(kn:ab R)(r:RF h0 mod D)(hx:OB h0 bx [.int .i64 (D.p:Int),.int .i64 (D.m:Int),.slice mod.a mod.l mod.c]){s:Sl}{xs:List (El D)}(a:El D)(hs:SI h0 s (vl xs))(hb:h0.next≤b)(bR:fl≤h0.next)(hm:xs.length≤65536):
 ∀(d i f:Nat) (h:AH),i+d=xs.length→d<f→OB h b (iv (vl ((FD.aR hg).yN a (xs.take i))++List.replicate d 0))→an h0 h→
 ∃h',Eh M fl k kn f (ve a) s ⟨bx,0,none⟩ ⟨some ⟨b,0,none⟩,xs.length,xs.length⟩ (i:Int) h=kn ⟨some ⟨b,0,none⟩,xs.length,xs.length⟩ h'∧OB h' b (iv (vl ((FD.aR hg).yN a xs)))∧an h0 h':=by
 have T9:s.l=xs.length:=by rw[hs.len];simp
 intro d
 induction d with
 |zero=>
  intro i f h hi hf ho hq
  obtain⟨f,rfl⟩:∃j,f=j+1:=⟨f-1,by omega⟩
  rw[List.take_of_length_le (by omega),List.replicate_zero,List.append_nil] at ho
  refine⟨h,?_,ho,hq⟩
  show u5 M fl k _ _ _ _ _ _ _ h=_
  unfold u5
  rw[T9,if_neg (by simp;omega)]
 |succ d ih=>
  intro i f h hi hf ho hq
  obtain⟨f,rfl⟩:∃j,f=j+1:=⟨f-1,by omega⟩
  have qC:i<xs.length:=by omega
  have lY:=hx.quiet hq
  obtain⟨h1,m1,m2⟩:=aOS (fl:=fl) hg (r.quiet hq) a xs[i] (by have:=hq.1;omega)
  have ho1:=ho.quiet m2
  have nV:(iv (vl ((FD.aR hg).yN a (xs.take i))++List.replicate (d+1) 0)).set (0+i) (.int .i64 (ve ((FD.aR hg).mul a xs[i])))=iv (vl ((FD.aR hg).yN a (xs.take (i+1)))++List.replicate d 0):=by
   rw[lu,Nat.zero_add,List.set_append_right _ _ (by simp[Fld.ig];omega)]
   have:i-(vl ((FD.aR hg).yN a (xs.take i))).length=0:=by simp[Fld.ig];omega
   have hn:(FD.aR hg).yN a (xs.take (i+1))=(FD.aR hg).yN a (xs.take i)++[(FD.aR hg).mul a xs[i]]:=by unfold Fld.yN;rw[List.take_succ_eq_append_getElem qC,List.map_append];rfl
   rw[this,List.replicate_succ,List.set_cons_zero,hn,zM,List.append_assoc]
   rfl
  obtain⟨h',e1,e2,e3⟩:=ih (i+1) f (h1.put b (some (iv (vl ((FD.aR hg).yN a (xs.take (i+1)))++List.replicate d 0)))) (by omega) (by omega) (ho1.put _) ((hq.trans m2).put hb _)
  refine⟨h',?_,e2,e3⟩
  show u5 M fl k _ _ _ _ _ _ _ h=_
  unfold u5
  dsimp only
  rw[T9,if_pos (by simp;omega),ae (lY.cell rfl),ae (lY.cell rfl),aq (s:=mod) (lY.cell rfl),(hs.quiet hq).read (by omega) (by simp;omega)]
  simp only[Int.toNat_natCast,mQ]
  rw[ak (show M fl fn.iQ [.agg ⟨[.int .i64 (D.p:Int),.int .i64 (D.m:Int),.slice mod.a mod.l mod.c]⟩,.int .i64 (ve a),.int .i64 (ve xs[i])] h=_ from m1)]
  simp only[asInt,if_true]
  rw[bC rfl (show i<xs.length from qC),ho1.st (by omega) (by simp[Fld.ig];omega) rfl,nV,aH (i+1) (by push_cast;rfl) (by omega)]
  exact e1
theorem apA(r:RF h mod D){s:Sl}{xs:List (El D)}(a:El D)(hs:SI h s (vl xs))(hm:xs.length≤65536)(bR:fl≤h.next):
 ∃h' b,M fl fn.pZ [fa D mod,.int .i64 (ve a),.slice s.a s.l s.c] h=some (.slice (some ⟨b,0,none⟩) xs.length xs.length,h')∧h.next≤b∧OB h' b (iv (vl ((FD.aR hg).yN a xs)))∧an h h':=by
 have dF:=sR h D mod
 have eI:=an.alloc h [.int .i64 (D.p:Int),.int .i64 (D.m:Int),.slice mod.a mod.l mod.c]
 generalize eK:h.alloc [.int .i64 (D.p:Int),.int .i64 (D.m:Int),.slice mod.a mod.l mod.c]=h1 at dF eI
 have ho:=OB.alloc h1 (List.replicate xs.length (Value.int .i64 0))
 rw[show List.replicate xs.length (Value.int .i64 0)=iv (vl ((FD.aR hg).yN a (xs.take 0))++List.replicate xs.length 0) by simp[iv,vl,Fld.yN]] at ho
 obtain⟨h',e1,e2,e3⟩:=apz (fl:=fl) (k:=xs.length+1) hg (Vs M fl (xs.length+1) (fun(y6:Sl) q=>some (Value.slice y6.a y6.l y6.c,q))) (r.quiet eI) dF a (hs.quiet eI) (Nat.le_refl _) (by have:=eI.1;omega) hm xs.length 0 (xs.length+1) _ (by omega) (by omega) ho (an.alloc ..)
 refine⟨h',h1.next,bF (k:=xs.length+1) (by decide) af7 ?_,eI.1,e2,eI.trans e3⟩
 unfold fa
 rw[ZY]
 unfold pZ aEq ajZ
 have hl:s.l=xs.length:=by rw[hs.len];simp
 rw[bT eK,hl,j7 (by unfold kc;omega),show List.replicate xs.length (Value.int .i64 0)=iv (vl ((FD.aR hg).yN a (xs.take 0))++List.replicate xs.length 0) by simp[iv,vl,Fld.yN]]
 exact e1
theorem apB{R:Type}{k:Nat}{h0:AH}{bx b:Nat}(kn:ab R)(r:RF h0 mod D)(hx:OB h0 bx [.int .i64 (D.p:Int),.int .i64 (D.m:Int),.slice mod.a mod.l mod.c]){s t:Sl}{v u:List (El D)}(a:El D)(hs:SI h0 s (vl v))(ht:SI h0 t (vl u))(hl:v.length=u.length)(hb:h0.next≤b)(bR:fl≤h0.next)(hm:v.length≤65536):
 ∀(d i f:Nat) (h:AH),i+d=v.length→d<f→OB h b (iv (vl ((FD.aR hg).cy (v.take i) a (u.take i))++List.replicate d 0))→an h0 h→
 ∃h',qx M fl k kn f s (ve a) t ⟨bx,0,none⟩ ⟨some ⟨b,0,none⟩,v.length,v.length⟩ (i:Int) h=kn ⟨some ⟨b,0,none⟩,v.length,v.length⟩ h'∧OB h' b (iv (vl ((FD.aR hg).cy v a u)))∧an h0 h':=by
 have T9:s.l=v.length:=by rw[hs.len];simp
 intro d
 induction d with
 |zero=>
  intro i f h hi hf ho hq
  obtain⟨f,rfl⟩:∃j,f=j+1:=⟨f-1,by omega⟩
  rw[List.take_of_length_le (by omega),List.take_of_length_le (by omega),List.replicate_zero,List.append_nil] at ho
  refine⟨h,?_,ho,hq⟩
  show u9 M fl k _ _ _ _ _ _ _ _ h=_
  unfold u9 A4
  rw[T9,if_neg (by simp;omega)]
 |succ d ih=>
  intro i f h hi hf ho hq
  obtain⟨f,rfl⟩:∃j,f=j+1:=⟨f-1,by omega⟩
  have hiv:i<v.length:=by omega
  have hiu:i<u.length:=by omega
  have hax:((FD.aR hg).cy (v.take i) a (u.take i)).length=i:=by rw[Fld.cg _ _ _ _ (by simp;omega)];simp;omega
  have YF:(FD.aR hg).cy (v.take (i+1)) a (u.take (i+1))=(FD.aR hg).cy (v.take i) a (u.take i)++[(FD.aR hg).add v[i] ((FD.aR hg).mul a u[i])]:=by
   unfold Fld.cy
   rw[List.take_succ_eq_append_getElem hiv,List.take_succ_eq_append_getElem hiu,List.zipWith_append (by simp;omega)]
   rfl
  have a7Y:∀(y:El D),(iv (vl ((FD.aR hg).cy (v.take i) a (u.take i))++List.replicate (d+1) 0)).set (0+i) (.int .i64 (ve y))=iv (vl ((FD.aR hg).cy (v.take i) a (u.take i)++[y])++List.replicate d 0):=by
   intro y
   rw[lu,Nat.zero_add,List.set_append_right _ _ (by simp;omega)]
   have:i-(vl ((FD.aR hg).cy (v.take i) a (u.take i))).length=0:=by simp;omega
   rw[this,List.replicate_succ,List.set_cons_zero,zM,List.append_assoc]
   rfl
  obtain⟨H1,hH1⟩:∃H1,H1=h.put b (some (iv (vl ((FD.aR hg).cy (v.take i) a (u.take i)++[v[i]])++List.replicate d 0))):=⟨_,rfl⟩
  have ho1:OB H1 b (iv (vl ((FD.aR hg).cy (v.take i) a (u.take i)++[v[i]])++List.replicate d 0)):=by rw[hH1];exact ho.put _
  have EJ:an h0 H1:=by rw[hH1];exact hq.put hb _
  have hx1:=hx.quiet EJ
  have un:∀r,(if (ve u[i] !=0)=true then aj M H1.next fn.iQ [.agg ⟨[.int .i64 (D.p:Int),.int .i64 (D.m:Int),.slice mod.a mod.l mod.c]⟩,.int .i64 (ve a),.int .i64 (ve u[i])] H1 fun v17 JR=>asInt .i64 v17 fun TX=>aj M fl fn.qb [.agg ⟨[.int .i64 (D.p:Int),.int .i64 (D.m:Int),.slice mod.a mod.l mod.c]⟩,.int .i64 (ve v[i]),.int .i64 TX] JR fun v20 yL=>asInt .i64 v20 fun JU=>idx 1 (⟨some ⟨b,0,none⟩,v.length,v.length⟩:Sl) (i:Int) fun p23=>st fl yL p23 [.int .i64 JU] fun vt=>qw M fl k (qx M fl k kn f) kn s (ve a) t ⟨bx,0,none⟩ ⟨some ⟨b,0,none⟩,v.length,v.length⟩ (i:Int) vt
   else qw M fl k (qx M fl k kn f) kn s (ve a) t ⟨bx,0,none⟩ ⟨some ⟨b,0,none⟩,v.length,v.length⟩ (i:Int) H1)=r→qx M fl k kn (f+1) s (ve a) t ⟨bx,0,none⟩ ⟨some ⟨b,0,none⟩,v.length,v.length⟩ (i:Int) h=r:=by
   intro r hr
   show u9 M fl k _ _ _ _ _ _ _ _ h=_
   unfold u9 A4
   dsimp only
   rw[T9,if_pos (by simp;omega),(hs.quiet hq).read (by omega) (by simp;omega)]
   simp only[Int.toNat_natCast,mQ]
   rw[bC rfl (show i<v.length from hiv),ho.st (by omega) (by simp;omega) rfl,a7Y,←hH1,(ht.quiet EJ).read (by omega) (by simp;omega)]
   simp only[Int.toNat_natCast,mQ]
   rw[ae (hx1.cell rfl),ae (hx1.cell rfl),aq (s:=mod) (hx1.cell rfl),(hs.quiet EJ).read (by omega) (by simp;omega)]
   simp only[Int.toNat_natCast,mQ]
   rw[ae (hx1.cell rfl),ae (hx1.cell rfl),aq (s:=mod) (hx1.cell rfl),(ht.quiet EJ).read (by omega) (by simp;omega)]
   simp only[Int.toNat_natCast,mQ]
   exact hr
  by_cases hz:u[i]=(FD.aR hg).zero
  ·have hy:(FD.aR hg).add v[i] ((FD.aR hg).mul a u[i])=v[i]:=by rw[hz,Fld.mul_zero,(FD.aR hg).add_zero]
   rw[hy] at YF
   rw[←YF] at ho1
   obtain⟨h',e1,e2,e3⟩:=ih (i+1) f H1 (by omega) (by omega) ho1 EJ
   refine⟨h',un _ ?_,e2,e3⟩
   rw[if_neg (by simp[(j0 hg _).2 hz])]
   unfold qw
   rw[aH (i+1) (by push_cast;rfl) (by omega)]
   exact e1
  ·obtain⟨h2,m1,m2⟩:=aOS (fl:=H1.next) hg (r.quiet EJ) a u[i] (Nat.le_refl _)
   have nL:=EJ.trans m2
   obtain⟨h3,n1,n2⟩:=aTq (fl:=fl) hg (r.quiet nL) v[i] ((FD.aR hg).mul a u[i]) (by have:=nL.1;omega)
   have hq3:=nL.trans n2
   have ho3:=(ho1.quiet m2).quiet n2
   have aVZ:(iv (vl ((FD.aR hg).cy (v.take i) a (u.take i)++[v[i]])++List.replicate d 0)).set (0+i) (.int .i64 (ve ((FD.aR hg).add v[i] ((FD.aR hg).mul a u[i]))))=iv (vl ((FD.aR hg).cy (v.take (i+1)) a (u.take (i+1)))++List.replicate d 0):=by
    rw[lu,Nat.zero_add,zM,List.append_assoc,List.set_append_right _ _ (by simp;omega)]
    have:i-(vl ((FD.aR hg).cy (v.take i) a (u.take i))).length=0:=by simp;omega
    rw[this,YF,zM,List.append_assoc]
    rfl
   obtain⟨h',e1,e2,e3⟩:=ih (i+1) f (h3.put b (some (iv (vl ((FD.aR hg).cy (v.take (i+1)) a (u.take (i+1)))++List.replicate d 0)))) (by omega) (by omega) (ho3.put _) (hq3.put hb _)
   refine⟨h',un _ ?_,e2,e3⟩
   rw[if_pos (by simp;exact fun e=>hz ((j0 hg _).1 e)),ak (show M H1.next fn.iQ [.agg ⟨[.int .i64 (D.p:Int),.int .i64 (D.m:Int),.slice mod.a mod.l mod.c]⟩,.int .i64 (ve a),.int .i64 (ve u[i])] H1=_ from m1)]
   simp only[asInt,if_true]
   rw[ak (show M fl fn.qb [.agg ⟨[.int .i64 (D.p:Int),.int .i64 (D.m:Int),.slice mod.a mod.l mod.c]⟩,.int .i64 (ve v[i]),.int .i64 (ve ((FD.aR hg).mul a u[i]))] h2=_ from n1)]
   simp only[if_true]
   rw[bC rfl (show i<v.length from hiv),ho3.st (by omega) (by simp;omega) rfl,aVZ]
   unfold qw
   rw[aH (i+1) (by push_cast;rfl) (by omega)]
   exact e1
theorem apC(r:RF h mod D){s t:Sl}{v u:List (El D)}(a:El D)(hs:SI h s (vl v))(ht:SI h t (vl u))(hl:v.length=u.length)(hm:v.length≤65536)(bR:fl≤h.next):
 ∃h' b,M fl fn.qa [fa D mod,.slice s.a s.l s.c,.int .i64 (ve a),.slice t.a t.l t.c] h=some (.slice (some ⟨b,0,none⟩) v.length v.length,h')∧h.next≤b∧OB h' b (iv (vl ((FD.aR hg).cy v a u)))∧an h h':=by
 have dF:=sR h D mod
 have eI:=an.alloc h [.int .i64 (D.p:Int),.int .i64 (D.m:Int),.slice mod.a mod.l mod.c]
 generalize eK:h.alloc [.int .i64 (D.p:Int),.int .i64 (D.m:Int),.slice mod.a mod.l mod.c]=h1 at dF eI
 have ho:=OB.alloc h1 (List.replicate v.length (Value.int .i64 0))
 have e0:List.replicate v.length (Value.int .i64 0)=iv (vl ((FD.aR hg).cy (v.take 0) a (u.take 0))++List.replicate v.length 0):=by simp[iv,vl,Fld.cy]
 rw[e0] at ho
 obtain⟨h',e1,e2,e3⟩:=apB (fl:=fl) (k:=v.length+1) hg (Vu M fl (v.length+1) (fun(y6:Sl) q=>some (Value.slice y6.a y6.l y6.c,q))) (r.quiet eI) dF a (hs.quiet eI) (ht.quiet eI) hl (Nat.le_refl _) (by have:=eI.1;omega) hm v.length 0 (v.length+1) _ (by omega) (by omega) ho (an.alloc ..)
 refine⟨h',h1.next,bF (k:=v.length+1) (by decide) af8 ?_,eI.1,e2,eI.trans e3⟩
 unfold fa
 rw[ZZ]
 unfold qa aEu aj3
 have hl:s.l=v.length:=by rw[hs.len];simp
 rw[bT eK,hl,j7 (by unfold kc;omega),e0]
 exact e1
end
end Go.Abs.P
end
section
namespace Go.Abs.P
open Go.Abs Go.Fld
structure LB{D:FD}(h0 h:AH)(hb:Nat)(ts:List Sl)(rows:List (List (El D))):Prop where
 q:an h0 h
 YD:OB h hb (ts.map Sl.v)
 len:ts.length=rows.length
 row:∀(i:Nat) (h1:i<ts.length) (h2:i<rows.length),SI h ts[i] (vl rows[i])∧(∀q,(ts[i]).a=some q→q.block≠hb)
 gh:h0.next≤hb
section
variable{D:FD}{gen:Nat}(hg:D.bh gen){mod:Sl}{h0 h h':AH}{fl k hb bx cap:Nat}{ts:List Sl}{rows:List (List (El D))}{pv:Sl}{ps:List Nat}
theorem LB.quiet(p:LB h0 h hb ts rows)(q:an h h'):LB h0 h' hb ts rows:=⟨p.q.trans q,p.YD.quiet q,p.len,fun i h1 h2=>⟨(p.row i h1 h2).1.quiet q,(p.row i h1 h2).2⟩,p.gh⟩
theorem LB.cell(p:LB h0 h hb ts rows){i:Nat}(hi:i<rows.length):h.cell hb (0+i)=some (Sl.v (ts[i]'(by rw[p.len];exact hi))):=by
 refine p.YD.cell ?_
 rw[Nat.zero_add,List.getElem?_map,List.getElem?_eq_getElem (by rw[p.len];exact hi)];rfl
theorem LB.aeo(p:LB h0 h hb ts rows){R:Type}{n i c:Nat}(hn:n=rows.length)(hi:i<rows.length)(hc:c<rows[i].length)(K:Int→Option R):
 (idx 1 (⟨some ⟨hb,0,none⟩,n,cap⟩:Sl) (i:Int) fun q=>aT h q.block q.off fun s2=>idx 1 s2 (c:Int) fun q2=>aF .i64 h q2.block q2.off K)=K (ve rows[i][c]):=by
 have hib:i<ts.length:=by rw[p.len];exact hi
 rw[bC rfl (show i<n by omega)]
 dsimp only
 rw[aq (s:=ts[i]) (p.cell hi),(p.row i hib hi).1.read (by omega) (by simp;exact hc)]
 simp only[Int.toNat_natCast,mQ]
theorem LB.set(p:LB h0 h hb ts rows){i:Nat}{t:Sl}{r:List (El D)}(hi:i<rows.length)(ht:SI h t (vl r))(htb:∀q,t.a=some q→q.block≠hb):LB h0 (h.put hb (some ((ts.map Sl.v).set i (Sl.v t)))) hb (ts.set i t) (rows.set i r):=by
 have V2:kg (some ⟨hb,0,none⟩) h (h.put hb (some ((ts.map Sl.v).set i (Sl.v t)))):=kg.put _
 refine⟨p.q.put p.gh _,by rw[List.map_set];exact p.YD.put _,by simp[p.len],?_,p.gh⟩
 intro j h1 h2
 by_cases e:i=j
 ·subst e
  simp only[List.getElem_set_self]
  exact⟨ht.J6 V2 (fun a b ha xz=>by cases xz;exact(htb a ha).symm),htb⟩
 ·simp only[List.getElem_set_ne e]
  have:=p.row j (by simpa using h1) (by simpa using h2)
  exact⟨this.1.J6 V2 (fun a b ha xz=>by cases xz;exact(this.2 a ha).symm),this.2⟩
theorem LB.st{R:Type}(p:LB h0 h hb ts rows){n i:Nat}{t:Sl}(hn:n=rows.length)(hi:i<rows.length)(bR:fl≤h0.next)(K:AH→Option R):
 (idx 1 (⟨some ⟨hb,0,none⟩,n,cap⟩:Sl) (i:Int) fun q=>Abs.st fl h q [.slice t.a t.l t.c] K)=K (h.put hb (some ((ts.map Sl.v).set i (Sl.v t)))):=by
 rw[bC rfl (show i<n by omega),p.YD.st (by have:=p.gh;omega) (by simp[p.len];omega) rfl,Nat.zero_add]
 rfl
structure QV(h0 h:AH)(hb:Nat)(ts:List Sl)(s:Sl)(ps:List Nat):Prop where
 ov:OV h0.next h s (iv (ints ps))
 ne:∀a,s.a=some a→a.block≠hb
 rw:∀t∈ts,∀q,t.a=some q→∀a,s.a=some a→q.block≠a.block
theorem QV.quiet(p:QV h0 h hb ts pv ps)(q:an h h'):QV h0 h' hb ts pv ps:=⟨p.ov.quiet q,p.ne,p.rw⟩
theorem QV.put(p:QV h0 h hb ts pv ps)(x:Option (List Value)):QV h0 (h.put hb x) hb ts pv ps:=⟨p.ov.aHb (Nat.le_refl _) (fun a ha=>ahS _ (p.ne a ha).symm),p.ne,p.rw⟩
theorem QV.upd(p:QV h0 h hb ts pv ps)(i:Nat){t:Sl}(ht:∀q,t.a=some q→∀a,pv.a=some a→q.block≠a.block):QV h0 h hb (ts.set i t) pv ps:=
 ⟨p.ov,p.ne,fun t' ht'=>(List.mem_or_eq_of_mem_set ht').elim (p.rw t') (fun e=>by subst e;exact ht)⟩
theorem QV.lt(p:QV h0 h hb ts pv ps):∀a,pv.a=some a→a.block<h.next:=fun a ha=>OV.lt p.ov a ha
theorem ass{R:Type}(kn:fX R){w c:Nat}(lb:LB h0 h hb ts rows)(hw:Fld.jI w rows)(hc:c<w)(hn:rows.length≤65536)(cols xC:Int)(bxa:Addr):
 ∀(d i f:Nat),i+d=rows.length→d<f→
 jm M fl k kn f cols bxa ⟨some ⟨hb,0,none⟩,rows.length,cap⟩ pv xC (c:Int) (i:Int) h=kn cols bxa ⟨some ⟨hb,0,none⟩,rows.length,cap⟩ pv xC (c:Int) ((((FD.aR hg).pick rows c d i).getD rows.length:Nat):Int) h:=by
 intro d
 induction d with
 |zero=>
  intro i f hi hf
  obtain⟨f,rfl⟩:∃j,f=j+1:=⟨f-1,by omega⟩
  obtain rfl:i=rows.length:=by omega
  show fh M fl k _ _ _ _ _ _ _ _ _ h=_
  unfold fh
  rw[if_neg (by simp)];rfl
 |succ d ih=>
  intro i f hi hf
  obtain⟨f,rfl⟩:∃j,f=j+1:=⟨f-1,by omega⟩
  have qC:i<rows.length:=by omega
  have hci:c<rows[i].length:=by rw[hw _ (List.getElem_mem qC)];exact hc
  have aew:(FD.aR hg).YL rows i c=rows[i][c]:=Fld.akE _ qC hci
  show fh M fl k _ _ _ _ _ _ _ _ _ h=_
  unfold fh
  rw[if_pos (by simp;omega),lb.aeo rfl qC hci]
  by_cases hz:rows[i][c]=(FD.aR hg).zero
  ·have hp:(FD.aR hg).pick rows c (d+1) i=(FD.aR hg).pick rows c d (i+1):=by
    conv=>lhs;unfold Fld.pick
    split
    ·rfl
    ·rename_i lZ _;exact absurd (aew.trans hz) lZ
   rw[if_pos (by simp[(j0 hg _).2 hz]),hp,aH (i+1) (by push_cast;rfl) (by omega)]
   exact ih (i+1) f (by omega) (by omega)
  ·have hp:(FD.aR hg).pick rows c (d+1) i=some i:=by
    unfold Fld.pick
    split
    ·rename_i he _;exact absurd (aew.symm.trans he) hz
    ·rfl
   rw[if_neg (by simp;exact fun e=>hz ((j0 hg _).1 e)),hp];rfl
theorem azQ{R:Type}(kn:bO R)(r:RF h0 mod D)(hx:OB h0 bx [.int .i64 (D.p:Int),.int .i64 (D.m:Int),.slice mod.a mod.l mod.c]){w c p:Nat}{bB:List (List (El D))}(hw:Fld.jI w bB)(hc:c<w)(hw2:w≤65536)(hp:p<bB.length)(hn:bB.length≤65536)(bR:fl≤h0.next)(cols:Int):
 ∀(d i f:Nat) (ts:List Sl) (h:AH),i+d=bB.length→d<f→LB h0 h hb ts ((FD.aR hg).jG bB p c i)→QV h0 h hb ts pv ps→
 ∃h' Cx,cA M fl k kn f cols ⟨bx,0,none⟩ ⟨some ⟨hb,0,none⟩,bB.length,cap⟩ pv (p:Int) (c:Int) (i:Int) h=kn cols ⟨bx,0,none⟩ ⟨some ⟨hb,0,none⟩,bB.length,cap⟩ pv (p:Int) (c:Int) h'∧
  LB h0 h' hb Cx ((FD.aR hg).clr bB p c)∧QV h0 h' hb Cx pv ps:=by
 intro d
 induction d with
 |zero=>
  intro i f ts h hi hf lb qv
  obtain⟨f,rfl⟩:∃j,f=j+1:=⟨f-1,by omega⟩
  obtain rfl:i=bB.length:=by omega
  rw[Fld.apt] at lb
  refine⟨h,ts,?_,lb,qv⟩
  show cO M fl k _ _ _ _ _ _ _ _ _ h=_
  unfold cO ed
  rw[if_neg (by simp)]
 |succ d ih=>
  intro i f ts h hi hf lb qv
  obtain⟨f,rfl⟩:∃j,f=j+1:=⟨f-1,by omega⟩
  have qC:i<bB.length:=by omega
  have hlen:((FD.aR hg).jG bB p c i).length=bB.length:=Fld.JJ ..
  have hwi:bB[i].length=w:=hw _ (List.getElem_mem qC)
  have hrow:((FD.aR hg).jG bB p c i)[i]'(by omega)=bB[i]:=Fld.JK _ _ _ _ _ qC (.inr (Nat.le_refl _))
  have hci:c<((FD.aR hg).jG bB p c i)[i].length:=by rw[hrow];omega
  have ap6:bB[i].getD c (FD.aR hg).zero=bB[i][c]:=by rw[List.getD_eq_getElem?_getD,List.getElem?_eq_getElem (by omega)];rfl
  have hpr:((FD.aR hg).jG bB p c i)[p]'(by omega)=bB[p]:=Fld.JK _ _ _ _ _ hp (.inl rfl)
  have un:cA M fl k kn (f+1) cols ⟨bx,0,none⟩ ⟨some ⟨hb,0,none⟩,bB.length,cap⟩ pv (p:Int) (c:Int) (i:Int) h=cO M fl k (cA M fl k kn f) kn cols ⟨bx,0,none⟩ ⟨some ⟨hb,0,none⟩,bB.length,cap⟩ pv (p:Int) (c:Int) (i:Int) h:=rfl
  rw[un]
  unfold cO ed
  rw[if_pos (by simp;omega)]
  have same:∀(aqe:(FD.aR hg).jG bB p c (i+1)=(FD.aR hg).jG bB p c i),∃h' Cx,du M fl k (cA M fl k kn f) kn cols ⟨bx,0,none⟩ ⟨some ⟨hb,0,none⟩,bB.length,cap⟩ pv (p:Int) (c:Int) (i:Int) h=kn cols ⟨bx,0,none⟩ ⟨some ⟨hb,0,none⟩,bB.length,cap⟩ pv (p:Int) (c:Int) h'∧
   LB h0 h' hb Cx ((FD.aR hg).clr bB p c)∧QV h0 h' hb Cx pv ps:=by
   intro aqe
   unfold du
   rw[aH (i+1) (by push_cast;rfl) (by omega)]
   exact ih (i+1) f ts h (by omega) (by omega) (by rw[aqe];exact lb) qv
  by_cases c1:i=p
  ·rw[if_neg (by simp[c1])]
   exact same (Fld.Lf _ _ _ _ _ (.inl c1))
  ·have hr:=LB.aeo (cap:=cap) lb (R:=R) (n:=bB.length) (i:=i) (c:=c) hlen.symm (by omega) hci
   simp only[hrow] at hr
   rw[if_pos (by simp;omega),hr]
   by_cases c2:bB[i][c]=(FD.aR hg).zero
   ·rw[if_neg (by simp[(j0 hg _).2 c2])]
    refine same (Fld.Lf _ _ _ _ _ (.inr ⟨qC,by rw[ap6];exact c2,?_⟩))
    rw[Fld.zD hp,hwi,hw _ (List.getElem_mem hp)]
   ·rw[if_pos (by simp;exact fun e=>c2 ((j0 hg _).1 e))]
    have hit:i<ts.length:=by rw[lb.len];omega
    have hpt:p<ts.length:=by rw[lb.len];omega
    have lY:=hx.quiet lb.q
    have hn0:=lb.q.1
    obtain⟨h1,m1,m2⟩:=aTr (fl:=h.next) hg (r.quiet lb.q) bB[i][c] (Nat.le_refl _)
    have lb1:=lb.quiet m2
    have ri:=(lb1.row i hit (by omega)).1
    have rp:=(lb1.row p hpt (by omega)).1
    rw[hrow] at ri
    rw[hpr] at rp
    obtain⟨h2,nb,n1,n2,n3,n4⟩:=apC (fl:=fl) hg (r.quiet lb1.q) ((FD.aR hg).neg bB[i][c]) ri rp (by rw[hwi,hw _ (List.getElem_mem hp)]) (by omega) (by have:=lb1.q.1;omega)
    have lb2:=lb1.quiet n4
    have hhb:=lb1.YD.1
    have hsi:SI h2 ⟨some ⟨nb,0,none⟩,bB[i].length,bB[i].length⟩ (vl ((FD.aR hg).cy bB[i] ((FD.aR hg).neg bB[i][c]) bB[p])):=by
     have:=n3.si none bB[i].length
     rwa[iT,Fld.cg _ _ _ _ (by rw[hwi,hw _ (List.getElem_mem hp)])] at this
    have lb3:=lb2.set (i:=i) (by omega) hsi (fun q hq=>by cases hq;simp only[ne_eq];omega)
    have e1:((FD.aR hg).jG bB p c i).set i ((FD.aR hg).cy bB[i] ((FD.aR hg).neg bB[i][c]) bB[p])=(FD.aR hg).jG bB p c (i+1):=by
     rw[←Fld.apu _ _ _ _ _ qC c1,ap6,Fld.zD hp]
    rw[e1] at lb3
    obtain⟨h',Cx,r1,r2⟩:=ih (i+1) f _ _ (by omega) (by omega) lb3 ((((qv.quiet m2).quiet n4).put _).upd i (fun q hq a ha=>by cases hq;have:=qv.lt a ha;have:=m2.1;simp only[ne_eq];omega))
    refine⟨h',Cx,?_,r2⟩
    have hs:=fun(K:AH→Option R)=>LB.st (cap:=cap) (fl:=fl) lb2 (R:=R) (n:=bB.length) (i:=i) (t:=⟨some ⟨nb,0,none⟩,bB[i].length,bB[i].length⟩) hlen.symm (by omega) bR K
    rw[ae (lY.cell rfl),ae (lY.cell rfl),aq (s:=mod) (lY.cell rfl),bC rfl (show i<bB.length from qC)]
    dsimp only
    rw[aq (s:=ts[i]) (lb.cell (by omega)),ae (lY.cell rfl),ae (lY.cell rfl),aq (s:=mod) (lY.cell rfl),hr,ak (show M h.next fn.tD [.agg ⟨[.int .i64 (D.p:Int),.int .i64 (D.m:Int),.slice mod.a mod.l mod.c]⟩,.int .i64 (ve bB[i][c])] h=_ from m1)]
    simp only[asInt,if_true]
    rw[bC rfl (show p<bB.length from hp)]
    dsimp only
    rw[aq (s:=ts[p]) (lb1.cell (by omega)),ak (show M fl fn.qa [.agg ⟨[.int .i64 (D.p:Int),.int .i64 (D.m:Int),.slice mod.a mod.l mod.c]⟩,.slice (ts[i]).a (ts[i]).l (ts[i]).c,.int .i64 (ve ((FD.aR hg).neg bB[i][c])),.slice (ts[p]).a (ts[p]).l (ts[p]).c] h1=_ from n1)]
    simp only[aX]
    rw[hs]
    unfold du
    rw[aH (i+1) (by push_cast;rfl) (by omega)]
    exact r1
theorem ast{R:Type}(kn:cR R)(r:RF h0 mod D)(hx:OB h0 bx [.int .i64 (D.p:Int),.int .i64 (D.m:Int),.slice mod.a mod.l mod.c]){w cols:Nat}(hcw:cols≤w)(hw2:w≤65536)(bR:fl≤h0.next){n:Nat}(hn:n≤65536)(hk:n<k):
 ∀(d c f:Nat) (rows:List (List (El D))) (ts:List Sl) (ps:List Nat) (pv:Sl) (h:AH),c+d=cols→d<f→rows.length=n→Fld.jI w rows→LB h0 h hb ts rows→QV h0 h hb ts pv ps→ps.length≤c→
 ∃h' Cx HS,iS M fl k kn f (cols:Int) ⟨bx,0,none⟩ ⟨some ⟨hb,0,none⟩,n,cap⟩ pv (ps.length:Int) (c:Int) h=kn ⟨some ⟨hb,0,none⟩,n,cap⟩ HS h'∧
  LB h0 h' hb Cx ((FD.aR hg).vx d c rows ps).1∧QV h0 h' hb Cx HS ((FD.aR hg).vx d c rows ps).2:=by
 intro d
 induction d with
 |zero=>
  intro c f rows ts ps pv h hc hf hl hw lb qv hpc
  obtain⟨f,rfl⟩:∃j,f=j+1:=⟨f-1,by omega⟩
  refine⟨h,ts,pv,?_,lb,qv⟩
  show nD M fl k _ _ _ _ _ _ _ _ h=_
  unfold nD uI
  rw[if_neg (by simp;omega)]
 |succ d ih=>
  intro c f rows ts ps pv h hc hf hl hw lb qv hpc
  obtain⟨f,rfl⟩:∃j,f=j+1:=⟨f-1,by omega⟩
  subst hl
  have un:iS M fl k kn (f+1) (cols:Int) ⟨bx,0,none⟩ ⟨some ⟨hb,0,none⟩,rows.length,cap⟩ pv (ps.length:Int) (c:Int) h=nD M fl k (iS M fl k kn f) kn (cols:Int) ⟨bx,0,none⟩ ⟨some ⟨hb,0,none⟩,rows.length,cap⟩ pv (ps.length:Int) (c:Int) h:=rfl
  rw[un]
  unfold nD uI
  rw[if_pos (by simp;omega)]
  by_cases cf:ps.length<rows.length
  ·rw[if_pos (by simp;omega)]
   unfold Jg zl wH sf xN
   rw[ass (fl:=fl) (k:=k) (cap:=cap) (pv:=pv) hg _ lb hw (show c<w by omega) hn (cols:Int) (ps.length:Int) ⟨bx,0,none⟩ (rows.length-ps.length) ps.length k (by omega) (by omega)]
   unfold se kM
   cases hpk:(FD.aR hg).pick rows c (rows.length-ps.length) ps.length with
   |none=>
    have hgj:(FD.aR hg).vx (d+1) c rows ps=(FD.aR hg).vx d (c+1) rows ps:=by conv=>lhs;unfold Fld.vx;rw[hpk]
    rw[hgj]
    obtain⟨h',Cx,HS,r1,r2⟩:=ih (c+1) f rows ts ps pv h (by omega) (by omega) rfl hw lb qv (by omega)
    refine⟨h',Cx,HS,?_,r2⟩
    rw[if_pos (by simp)]
    unfold dZ
    rw[aH (c+1) (by push_cast;rfl) (by omega)]
    exact r1
   |some K=>
    obtain⟨p1,p2,p3,_⟩:=Fld.Dp _ hpk
    have hKr:K<rows.length:=by omega
    have hgj:(FD.aR hg).vx (d+1) c rows ps=(FD.aR hg).vx d (c+1) ((FD.aR hg).gi rows ps.length K c) (ps++[c]):=by conv=>lhs;unfold Fld.vx;rw[hpk]
    rw[hgj]
    simp only[Option.getD_some]
    rw[if_neg (by simp;omega)]
    have hKt:K<ts.length:=by rw[lb.len];exact hKr
    have hat:ps.length<ts.length:=by rw[lb.len];exact cf
    have l1:=lb.set (i:=ps.length) cf (lb.row K hKt hKr).1 (lb.row K hKt hKr).2
    have s1:=fun(K':AH→Option R)=>LB.st (cap:=cap) (fl:=fl) lb (R:=R) (i:=ps.length) (t:=ts[K]) rfl cf bR K'
    have hl1:(rows.set ps.length rows[K]).length=rows.length:=by simp
    have q1:=(qv.put (some ((ts.map Sl.v).set ps.length (Sl.v ts[K])))).upd ps.length (t:=ts[K]) (qv.rw _ (List.getElem_mem hKt))
    have rat:SI (h.put hb (some ((ts.map Sl.v).set ps.length (Sl.v ts[K])))) ts[ps.length] (vl rows[ps.length]):=by
     have V2:kg (some ⟨hb,0,none⟩) h (h.put hb (some ((ts.map Sl.v).set ps.length (Sl.v ts[K])))):=kg.put _
     exact(lb.row _ hat cf).1.J6 V2 (fun a b ha xz=>by cases xz;exact((lb.row _ hat cf).2 a ha).symm)
    generalize hG1:h.put hb (some ((ts.map Sl.v).set ps.length (Sl.v ts[K])))=H1 at l1 s1 q1 rat
    have l2:=l1.set (i:=K) (by simpa using hKr) rat (lb.row _ hat cf).2
    have s2:=fun(K':AH→Option R)=>LB.st (cap:=cap) (fl:=fl) l1 (R:=R) (n:=rows.length) (i:=K) (t:=ts[ps.length]) hl1.symm (by simpa using hKr) bR K'
    have q2:=(q1.put (some (((ts.set ps.length ts[K]).map Sl.v).set K (Sl.v ts[ps.length])))).upd K (t:=ts[ps.length]) (qv.rw _ (List.getElem_mem hat))
    generalize hG2:H1.put hb (some (((ts.set ps.length ts[K]).map Sl.v).set K (Sl.v ts[ps.length])))=H2 at l2 s2 q2
    have hsw:(rows.set ps.length rows[K]).set K rows[ps.length]=Fld.IS rows ps.length K:=by unfold Fld.IS;rw[Fld.zD hKr,Fld.zD cf]
    rw[hsw] at l2
    generalize hT:(ts.set ps.length ts[K]).set K ts[ps.length]=ts2 at l2 q2
    have hl6:(Fld.IS rows ps.length K).length=rows.length:=Fld.oW ..
    have hw6:Fld.jI w (Fld.IS rows ps.length K):=hw.IS cf hKr
    have hz6:(FD.aR hg).YL (Fld.IS rows ps.length K) ps.length c≠(FD.aR hg).zero:=by
     have:(FD.aR hg).YL (Fld.IS rows ps.length K) ps.length c=(FD.aR hg).YL rows K c:=by
      unfold Fld.YL Fld.IS
      congr 1
      by_cases e:K=ps.length
      ·subst e
       rw[List.set_set,List.getD_eq_getElem?_getD,List.getElem?_set_self cf];rfl
      ·rw[List.getD_eq_getElem?_getD,List.getElem?_set_ne (by omega),List.getElem?_set_self cf];rfl
     rw[this];exact p3
    rw[bC rfl (show K<rows.length from hKr)]
    dsimp only
    rw[aq (s:=ts[K]) (lb.cell hKr),bC rfl (show ps.length<rows.length from cf)]
    dsimp only
    rw[aq (s:=ts[ps.length]) (lb.cell cf),s1,s2]
    unfold Fld.gi
    generalize Fld.IS rows ps.length K=ch at l2 hl6 hw6 hz6 ⊢
    have hp6:ps.length<ch.length:=by omega
    have hc6:c<ch[ps.length].length:=by rw[hw6 _ (List.getElem_mem hp6)];omega
    have aew:(FD.aR hg).YL ch ps.length c=ch[ps.length][c]:=Fld.akE _ hp6 hc6
    rw[aew] at hz6
    have hr:=LB.aeo (cap:=cap) l2 (R:=R) (n:=rows.length) (i:=ps.length) (c:=c) hl6.symm hp6 hc6
    rw[hr]
    have aqw:(FD.aR hg).norm ch ps.length c=ch.set ps.length ((FD.aR hg).yN ((FD.aR hg).inv ch[ps.length][c]) ch[ps.length]):=by unfold Fld.norm;rw[aew,Fld.zD hp6]
    have fin:∀(ts8:List Sl) (h8:AH),LB h0 h8 hb ts8 ((FD.aR hg).norm ch ps.length c)→QV h0 h8 hb ts8 pv ps→
     ∃h' Cx HS,jY M fl k (dZ M fl k (iS M fl k kn f) kn) (dZ M fl k (iS M fl k kn f) kn) (cols:Int) ⟨bx,0,none⟩ ⟨some ⟨hb,0,none⟩,rows.length,cap⟩ pv (ps.length:Int) (c:Int) h8=kn ⟨some ⟨hb,0,none⟩,rows.length,cap⟩ HS h'∧
      LB h0 h' hb Cx ((FD.aR hg).vx d (c+1) ((FD.aR hg).clr ((FD.aR hg).norm ch ps.length c) ps.length c) (ps++[c])).1∧QV h0 h' hb Cx HS ((FD.aR hg).vx d (c+1) ((FD.aR hg).clr ((FD.aR hg).norm ch ps.length c) ps.length c) (ps++[c])).2:=by
     intro ts8 h8 l8 q8
     have hln:((FD.aR hg).norm ch ps.length c).length=rows.length:=by rw[Fld.BT,hl6]
     have hwn:Fld.jI w ((FD.aR hg).norm ch ps.length c):=Fld.jI.norm _ hw6 c hp6
     obtain⟨h9,ts9,k1,k2,k3⟩:=azQ (fl:=fl) (k:=k) (cap:=cap) (p:=ps.length) (c:=c) hg (gz M fl k (dZ M fl k (iS M fl k kn f) kn) (dZ M fl k (iS M fl k kn f) kn)) r hx hwn (show c<w by omega) hw2 (by omega) (by omega) bR (cols:Int) rows.length 0 k ts8 h8 (by omega) hk (by rw[Fld.ahj];exact l8) q8
     rw[hln] at k1
     have hn9:=k2.q.1
     obtain⟨HS,sU,v1,v2,v3,v4⟩:=k3.ov.push (R:=R) (fl:=fl) (bytes:=8) (x:=.int .i64 (c:Int)) bR hn9 (by unfold kc;simp;omega) rfl (fun s3 h4=>dZ M fl k (iS M fl k kn f) kn (cols:Int) ⟨bx,0,none⟩ ⟨some ⟨hb,0,none⟩,rows.length,cap⟩ s3 (av ((ps.length:Int)+1)) (c:Int) h4)
     have e1:iv (ints ps)++[Value.int .i64 (c:Int)]=iv (ints (ps++[c])):=by rw[kh,nK];rfl
     rw[e1] at v2
     have hhb:=k2.YD.1
     have l10:LB h0 sU hb ts9 ((FD.aR hg).clr ((FD.aR hg).norm ch ps.length c) ps.length c):=by
      cases hpa:pv.a with
      |none=>
       rw[hpa] at v3
       exact k2.quiet ⟨v3.1,fun b xz=>v3.2 b xz (fun a ha=>by cases ha)⟩
      |some a=>
       rw[hpa] at v3
       have lZ:=k3.ne a hpa
       refine⟨v3.quiet k2.q (fun a' ha'=>by cases ha';exact k3.ov.ge _ hpa),v3.ob k2.YD (fun a' ha'=>by cases ha';exact lZ),k2.len,fun j j1 j2=>?_,k2.gh⟩
       exact⟨(k2.row j j1 j2).1.J6 v3 (fun x y hx' hy'=>by
        cases hy'
        exact(k3.rw _ (List.getElem_mem j1) x hx' a hpa).symm),(k2.row j j1 j2).2⟩
     have hwc:Fld.jI w ((FD.aR hg).clr ((FD.aR hg).norm ch ps.length c) ps.length c):=Fld.jI.clr _ hwn c (by omega)
     have q10:QV h0 sU hb ts9 HS (ps++[c]):=⟨v2,fun a ha=>by have:=v4 a ha;omega,fun t ht q hq a ha=>by
      obtain⟨j,hj,rfl⟩:=List.getElem_of_mem ht
      have hj2:j<((FD.aR hg).clr ((FD.aR hg).norm ch ps.length c) ps.length c).length:=by rw[←k2.len];exact hj
      have h1:=(k2.row j hj hj2).1.lt (fun e=>by
       have:=congrArg List.length e
       rw[iT,hwc _ (List.getElem_mem hj2)] at this
       simp at this;omega) q hq
      have h2:=v4 a ha
      omega⟩
     obtain⟨h',Cx,aX6,t1,t2⟩:=ih (c+1) f ((FD.aR hg).clr ((FD.aR hg).norm ch ps.length c) ps.length c) ts9 (ps++[c]) HS sU (by omega) (by omega) (by rw[Fld.ab0,hln]) hwc l10 q10 (by simp;omega)
     refine⟨h',Cx,aX6,?_,t2⟩
     unfold jY jl lA
     refine Eq.trans k1 ?_
     unfold gz
     refine Eq.trans v1 ?_
     unfold dZ
     rw[aH (n:=(c:Int)+1) (c+1) (by push_cast;rfl) (by omega),aH (n:=(ps.length:Int)+1) (ps.length+1) (by push_cast;rfl) (by omega)]
     have:((ps.length+1:Nat):Int)=((ps++[c]).length:Int):=by simp
     rw[this]
     exact t1
    by_cases ci:ch[ps.length][c]=(FD.aR hg).one
    ·have e1:(FD.aR hg).norm ch ps.length c=ch:=by rw[aqw,ci,Fld.inv_one,Fld.att,List.set_getElem_self]
     have e2:ve (FD.aR hg).one=1:=rfl
     rw[if_neg (by rw[ci,e2];simp)]
     exact fin ts2 H2 (by rw[e1];exact l2) q2
    ·rw[if_pos (by
      simp only[bne_iff_ne,ne_eq]
      intro e
      exact ci (asg (e.trans rfl)))]
     have hx2:=hx.quiet l2.q
     have a3M:ps.length<ts2.length:=by rw[l2.len];exact hp6
     obtain⟨h3,m1,m2⟩:=aTs (fl:=H2.next) hg (r.quiet l2.q) ch[ps.length][c] (Nat.le_refl _)
     have l3:=l2.quiet m2
     obtain⟨h4,nb,n1,n2,n3,n4⟩:=apA (fl:=fl) hg (r.quiet l3.q) ((FD.aR hg).inv ch[ps.length][c]) (l3.row ps.length a3M hp6).1 (by rw[hw6 _ (List.getElem_mem hp6)];exact hw2) (by have:=l3.q.1;omega)
     have l4:=l3.quiet n4
     have hhb:=l3.YD.1
     have hsi:SI h4 ⟨some ⟨nb,0,none⟩,ch[ps.length].length,ch[ps.length].length⟩ (vl ((FD.aR hg).yN ((FD.aR hg).inv ch[ps.length][c]) ch[ps.length])):=by
      have:=n3.si none ch[ps.length].length
      rwa[iT,Fld.ig] at this
     have l5:=l4.set (i:=ps.length) hp6 hsi (fun q hq=>by cases hq;simp only[ne_eq];omega)
     rw[←aqw] at l5
     have s4:=fun(K':AH→Option R)=>LB.st (cap:=cap) (fl:=fl) l4 (R:=R) (i:=ps.length) (n:=rows.length) (t:=⟨some ⟨nb,0,none⟩,ch[ps.length].length,ch[ps.length].length⟩) hl6.symm hp6 bR K'
     obtain⟨h',Cx,HS,t1,t2⟩:=fin _ _ l5 ((((q2.quiet m2).quiet n4).put _).upd ps.length (fun q hq a ha=>by cases hq;have:=q2.lt a ha;have:=m2.1;simp only[ne_eq];omega))
     refine⟨h',Cx,HS,?_,t2⟩
     rw[ae (hx2.cell rfl),ae (hx2.cell rfl),aq (s:=mod) (hx2.cell rfl),ae (hx2.cell rfl),ae (hx2.cell rfl),aq (s:=mod) (hx2.cell rfl),hr,ak (show M H2.next fn.tE [.agg ⟨[.int .i64 (D.p:Int),.int .i64 (D.m:Int),.slice mod.a mod.l mod.c]⟩,.int .i64 (ve ch[ps.length][c])] H2=_ from m1)]
     simp only[asInt,if_true]
     rw[bC rfl (show ps.length<rows.length from cf)]
     dsimp only
     rw[aq (s:=ts2[ps.length]) (l3.cell hp6),ak (show M fl fn.pZ [.agg ⟨[.int .i64 (D.p:Int),.int .i64 (D.m:Int),.slice mod.a mod.l mod.c]⟩,.int .i64 (ve ((FD.aR hg).inv ch[ps.length][c])),.slice (ts2[ps.length]).a (ts2[ps.length]).l (ts2[ps.length]).c] h3=_ from n1)]
     simp only[aX]
     rw[s4]
     exact t1
  ·rw[if_neg (by simp;omega)]
   have hgj:(FD.aR hg).vx (d+1) c rows ps=(rows,ps):=Fld.ab1 _ _ _ _ _ (by omega)
   rw[hgj]
   exact⟨h,ts,pv,rfl,lb,qv⟩
end
end Go.Abs.P
end
section
namespace Go.Abs.P
open Go.Abs Go.Fld
theorem apD{R:Type}{fl b:Nat}{h:AH}{s:Sl}{xs:List Int}(hb:OB h b [])(hs:SI h s xs)(hr:xs.length*8≤kc)(K:Sl→AH→Option R):
 ∃s' h',dn fl 1 8 ⟨some ⟨b,0,none⟩,0,0⟩ s h K=K s' h'∧SI h' s' xs∧an h h'∧∀a,s'.a=some a→b≤a.block∧a.block<h'.next:=by
 have hl:=hs.len
 have hbl:=hb.1
 unfold dn
 cases xs with
 |nil=>
  refine⟨⟨some ⟨b,0,none⟩,0,0⟩,h,?_,⟨rfl,fun i hi=>by cases hi⟩,an.refl h,fun a ha=>by cases ha;exact⟨Nat.le_refl _,hbl⟩⟩
  rw[if_pos (by simpa using hl)]
 |cons x xs=>
  refine⟨⟨some ⟨h.next,0,none⟩,s.l,oB+1⟩,h.alloc (iv (x::xs)),?_,?_,an.alloc ..,fun a ha=>by cases ha;simp only[AH.alloc];omega⟩
  ·rw[if_neg (by rw[hl];simp),if_pos (by rw[hl];simpa using hr),hs.GO (by simp)]
   simp only
   rw[if_pos (by unfold oB;omega),if_neg (by rw[hl];simp)]
   unfold GO
   simp only[hb.iN]
   rw[if_pos (by simp)]
   simp
  ·have:=(OB.alloc h (iv (x::xs))).si none (oB+1)
   rw[hl];exact this
structure CP(h0 h:AH)(t:Sl)(ts:List Sl)(rows:List (List Int)):Prop where
 q:an h0 h
 ov:OV h0.next h t (ts.map Sl.v)
 row:∀j (h1:j<ts.length) (h2:j<rows.length),SI h ts[j] rows[j]∧∀q,(ts[j]).a=some q→h0.next≤q.block∧q.block<h.next∧∀a,t.a=some a→q.block≠a.block
theorem azR{R:Type}{fl k:Nat}(kn:ab R){h0:AH}{s:Sl}{rows:List (List Int)}(hs:RR h0 s rows)(bR:fl≤h0.next)(hw:∀r∈rows,r.length≤65536)(hm:rows.length≤65536):
 ∀(d i f:Nat) (t:Sl) (ts:List Sl) (h:AH),i+d=rows.length→d<f→ts.length=i→CP h0 h t ts rows→
 ∃h' t' Cx,qu M fl k kn f s t (i:Int) h=kn t' h'∧CP h0 h' t' Cx rows∧Cx.length=rows.length:=by
 intro d
 induction d with
 |zero=>
  intro i f t ts h hi hf hl cp
  obtain⟨f,rfl⟩:∃j,f=j+1:=⟨f-1,by omega⟩
  refine⟨h,t,ts,?_,cp,by omega⟩
  show u4 M fl k _ _ _ _ _ h=_
  unfold u4
  rw[if_neg (by simp[hs.len];omega)]
 |succ d ih=>
  intro i f t ts h hi hf hl cp
  obtain⟨f,rfl⟩:∃j,f=j+1:=⟨f-1,by omega⟩
  have qC:i<rows.length:=by omega
  show ∃h' t' Cx,u4 M fl k (qu M fl k kn f) kn s t (i:Int) h=_∧_
  unfold u4
  rw[if_pos (by simp[hs.len];omega)]
  have o1:=OB.alloc h []
  have q1:=an.alloc h []
  generalize eK:h.alloc []=h1 at o1 q1
  rw[bT eK]
  obtain⟨r,r1,r2⟩:=((hs.quiet cp.q).quiet q1).read qC
  rw[r2]
  obtain⟨s5,h2,a1,a2,a3,a4⟩:=apD (R:=R) (fl:=fl) o1 r1 (by have:=hw _ (List.getElem_mem qC);unfold kc;omega) (fun s5 h6=>bJ h6 [.slice s5.a s5.l s5.c] fun b7 h8=>dn fl 1 24 t ⟨(some ⟨b7,0,none⟩),1,1⟩ h8 fun s9 sU=>qu M fl k kn f s s9 (av ((i:Int)+1)) sU)
  rw[a1]
  have q2:=q1.trans a3
  have n0:=cp.q.1
  have n2:=q2.1
  obtain⟨s9,sU,v1,v2,v3,v4⟩:=(cp.ov.quiet q2).push (R:=R) (fl:=fl) (bytes:=24) (x:=.slice s5.a s5.l s5.c) bR (by omega) (by unfold kc;simp;omega) rfl (fun s9 sU=>qu M fl k kn f s s9 (av ((i:Int)+1)) sU)
  rw[v1,aH (i+1) (by push_cast;rfl) (by omega)]
  have htb:∀a,t.a=some a→a.block<h.next:=fun a ha=>OV.lt cp.ov a ha
  refine ih (i+1) f s9 (ts++[s5]) sU (by omega) (by omega) (by simp;omega) ⟨v3.quiet (cp.q.trans q2) (fun a ha=>cp.ov.ge a ha),by rw[List.map_append];exact v2,?_⟩
  intro j h1 h2
  have n3:=v3.1
  by_cases e:j=i
  ·subst e
   have e1:(ts++[s5])[j]=s5:=by rw[List.getElem_append_right (by omega)];simp[hl]
   rw[e1]
   refine⟨a2.J6 v3 (fun a b ha hb=>?_),fun q hq=>?_⟩
   ·have:=a4 a ha;have:=htb b hb;simp only[ne_eq];omega
   ·have:=a4 q hq
    exact⟨by omega,by omega,fun a ha=>by have:=v4 a ha;simp only[ne_eq];omega⟩
  ·have hj:j<ts.length:=by simp at h1;omega
   have e1:(ts++[s5])[j]=ts[j]:=List.getElem_append_left hj
   rw[e1]
   obtain⟨g1,g2⟩:=cp.row j hj h2
   refine⟨(g1.quiet q2).J6 v3 (fun a b ha hb=>fun e=>(g2 a ha).2.2 b hb e.symm),fun q hq=>?_⟩
   obtain⟨k1,k2,_⟩:=g2 q hq
   exact⟨k1,by omega,fun a ha=>by have:=v4 a ha;simp only[ne_eq];omega⟩
theorem azS{fl:Nat}{h:AH}{s:Sl}{rows:List (List Int)}(hs:RR h s rows)(bR:fl≤h.next)(hw:∀r∈rows,r.length≤65536)(hm:rows.length≤65536):
 ∃h' t ts,M fl fn.zZ [.slice s.a s.l s.c] h=some (.slice t.a t.l t.c,h')∧CP h h' t ts rows∧ts.length=rows.length:=by
 obtain⟨h',t,ts,e1,e2,e3⟩:=azR (fl:=fl) (k:=rows.length+1) (Vr M fl (rows.length+1) (fun(y:Sl) q=>some (Value.slice y.a y.l y.c,q))) hs bR hw hm rows.length 0 (rows.length+1) ⟨none,0,0⟩ [] h (by omega) (by omega) rfl ⟨an.refl h,OV.nil _ _,fun j h1=>by cases h1⟩
 refine⟨h',t,ts,bF (k:=rows.length+1) (by decide) akq ?_,e2,e3⟩
 rw[adK]
 unfold zZ aEo ajX
 exact e1
section
variable{D:FD}{gen:Nat}(hg:D.bh gen){mod:Sl}{h:AH}{fl:Nat}
theorem LB.rr{h0 h:AH}{hb n cap:Nat}{ts:List Sl}{rows:List (List (El D))}(lb:LB h0 h hb ts rows)(hn:n≤rows.length):RR h ⟨some ⟨hb,0,none⟩,n,cap⟩ ((rows.take n).map vl):=by
 refine⟨by simp;omega,fun i hi=>?_⟩
 have JO:i<n:=by simp at hi;omega
 have hir:i<rows.length:=by omega
 have hit:i<ts.length:=by rw[lb.len];exact hir
 refine⟨_,ts[i],rfl,lb.YD.1,lb.cell hir,?_⟩
 have:=(lb.row i hit hir).1
 simpa using this
theorem azT(r:RF h mod D){s:Sl}{rows:List (List (El D))}{w cols:Nat}(hs:RR h s (rows.map vl))(hcw:cols≤w)(hw2:w≤65536)(bR:fl≤h.next)(hn:rows.length≤65536)(hw:Fld.jI w rows):
 ∃(h':AH) (s' pv:Sl),M fl fn.gI [fa D mod,.slice s.a s.l s.c,.int .i64 (cols:Int)] h=some (.tuple ⟨[.slice s'.a s'.l s'.c,.slice pv.a pv.l pv.c]⟩,h')∧an h h'∧OV h.next h' pv (iv (ints ((FD.aR hg).vx cols 0 rows []).2))∧
  ((rows=[]∧s'=⟨none,0,0⟩)∨∃hb cap ts,(cap=oB+1∨cap=rows.length∧cap<oB)∧s'=⟨some ⟨hb,0,none⟩,rows.length,cap⟩∧LB (h.alloc [.int .i64 (D.p:Int),.int .i64 (D.m:Int),.slice mod.a mod.l mod.c]) h' hb ts ((FD.aR hg).vx cols 0 rows []).1):=by
 have dF:=sR h D mod
 have eI:=an.alloc h [.int .i64 (D.p:Int),.int .i64 (D.m:Int),.slice mod.a mod.l mod.c]
 generalize eK:h.alloc [.int .i64 (D.p:Int),.int .i64 (D.m:Int),.slice mod.a mod.l mod.c]=h1 at dF eI
 have n1:=eI.1
 obtain⟨h2,t,ts,c1,c2,c3⟩:=azS (fl:=fl) (hs.quiet eI) (by omega) (fun x hx=>by
  obtain⟨y,hy,rfl⟩:=List.mem_map.1 hx
  rw[iT,hw y hy];exact hw2) (by simpa using hn)
 rw[List.length_map] at c3
 have pre:∀{k r},aaY M fl k (fun y6 y7 q=>some (Value.tuple ⟨[.slice y6.a y6.l y6.c,.slice y7.a y7.l y7.c]⟩,q)) (cols:Int) ⟨h.next,0,none⟩ t ⟨none,0,0⟩ 0 0 h2=some r→M fl fn.gI [fa D mod,.slice s.a s.l s.c,.int .i64 (cols:Int)] h=some r:=by
  intro k r he
  refine bF (k:=k) (by decide) TJ ?_
  unfold fa
  rw[LR]
  unfold gI aDN ajp
  rw[bT eK,ak c1]
  simp only[aX]
  exact he
 rcases c2.ov with⟨z1,z2⟩|⟨b,c,g1,g2,g3,g4,g5,g6⟩
 ·have hz:rows=[]:=List.length_eq_zero_iff.1 (by rw[←c3];simpa using z1)
  subst hz
  have hgj:(FD.aR hg).vx cols 0 [] []=([],[]):=Fld.ab1 _ _ _ _ _ (by simp)
  rw[hgj]
  refine⟨h2,⟨none,0,0⟩,⟨none,0,0⟩,pre (k:=1) ?_,eI.trans c2.q,OV.nil _ _,.inl ⟨rfl,rfl⟩⟩
  subst z2
  unfold aaY
  show nD M fl _ _ _ _ _ _ _ _ _ h2=_
  unfold nD uI
  by_cases c0:(0:Int)<cols
  ·rw[if_pos (by simp;omega),if_neg (by simp)];rfl
  ·rw[if_neg (by simp;omega)];rfl
 ·subst g5
  have hl:(ts.map Sl.v).length=rows.length:=by simp[c3]
  rw[hl] at pre g4
  have lb:LB h1 h2 b ts rows:=⟨c2.q,⟨g2,g6⟩,c3,fun i i1 i2=>by
   have:=c2.row i i1 (by simpa using i2)
   simp only[List.getElem_map] at this
   exact⟨this.1,fun q hq=>(this.2 q hq).2.2 _ rfl⟩,g1⟩
  obtain⟨h',Cx,HS,e1,e2,e3⟩:=ast (fl:=fl) (k:=max (cols+1) (rows.length+1)) (cap:=c) hg (Vg M fl (max (cols+1) (rows.length+1)) (fun y6 y7 q=>some (Value.tuple ⟨[.slice y6.a y6.l y6.c,.slice y7.a y7.l y7.c]⟩,q))) (r.quiet eI) dF hcw hw2 (by omega) hn (by omega) cols 0 (max (cols+1) (rows.length+1)) rows ts [] ⟨none,0,0⟩ h2 (by omega) (by omega) rfl hw lb ⟨OV.nil _ _,fun a ha=>(by cases ha),fun t _ q _ a ha=>(by cases ha)⟩ (Nat.zero_le _)
  exact⟨h',_,HS,pre e1,eI.trans e2.q,e3.ov.mono n1,.inr ⟨b,c,Cx,g4,rfl,e2⟩⟩
theorem aer(r:RF h mod D){s:Sl}{rows:List (List (El D))}{w:Nat}(hs:RR h s (rows.map vl))(hw2:w≤65536)(bR:fl≤h.next)(hn:rows.length≤65536)(hw:Fld.jI w rows):
 ∃(h':AH) (s' pv:Sl),M fl fn.ja [fa D mod,.slice s.a s.l s.c,.int .i64 (w:Int)] h=some (.tuple ⟨[.slice s'.a s'.l s'.c,.slice pv.a pv.l pv.c]⟩,h')∧an h h'∧RR h' s' (((FD.aR hg).dU rows w).1.map vl)∧OV h.next h' pv (iv (ints ((FD.aR hg).dU rows w).2)):=by
 have dF:=sR h D mod
 have eI:=an.alloc h [.int .i64 (D.p:Int),.int .i64 (D.m:Int),.slice mod.a mod.l mod.c]
 generalize eK:h.alloc [.int .i64 (D.p:Int),.int .i64 (D.m:Int),.slice mod.a mod.l mod.c]=h1 at dF eI
 have n1:=eI.1
 obtain⟨h',s',pv,e1,e2,e3,e4⟩:=azT (fl:=fl) hg (r.quiet eI) (hs.quiet eI) (Nat.le_refl w) hw2 (by omega) hn hw
 have hps:=(FD.aR hg).aFs w 0 rows [] (Nat.zero_le _)
 have hlen:=(FD.aR hg).EY w 0 rows []
 have Ql:pv.l=((FD.aR hg).vx w 0 rows []).2.length:=by have:=e3.len;simpa using this
 have go:∀s'',(∀{R:Type} (K:Sl→Option R),sub 1 s' none (some ((pv.l:Nat):Int)) none K=K s'')→RR h' s'' (((FD.aR hg).dU rows w).1.map vl)→
  ∃(h':AH) (s' pv:Sl),M fl fn.ja [fa D mod,.slice s.a s.l s.c,.int .i64 (w:Int)] h=some (.tuple ⟨[.slice s'.a s'.l s'.c,.slice pv.a pv.l pv.c]⟩,h')∧an h h'∧RR h' s' (((FD.aR hg).dU rows w).1.map vl)∧OV h.next h' pv (iv (ints ((FD.aR hg).dU rows w).2)):=by
  intro s'' hK hrr
  refine⟨h',s'',pv,bF (k:=1) (by decide) af3 ?_,eI.trans e2,hrr,e3.mono n1⟩
  unfold fa
  rw[Zo]
  unfold ja aCY
  rw[bT eK,ae (dF.cell rfl),ae (dF.cell rfl),aq (s:=mod) (dF.cell rfl),ak (show M fl fn.gI [.agg ⟨[.int .i64 (D.p:Int),.int .i64 (D.m:Int),.slice mod.a mod.l mod.c]⟩,.slice s.a s.l s.c,.int .i64 (w:Int)] h1=_ from e1)]
  simp only[aE,ar,aM,aX]
  rw[hK]
 rcases e4 with⟨rfl,rfl⟩|⟨hb,cap,ts,k1,rfl,lb⟩
 ·have hz:((FD.aR hg).vx w 0 [] []).2.length=0:=by simpa using hps
  refine go ⟨none,0,0⟩ (fun K=>?_) ?_
  ·rw[Ql,hz];unfold sub;simp[oB]
  ·have:((FD.aR hg).dU [] w).1=[]:=by unfold Fld.dU;rw[hz];rfl
   rw[this];exact RR.nil _
 ·have hrr:∀cap',RR h' ⟨some ⟨hb,0,none⟩,((FD.aR hg).vx w 0 rows []).2.length,cap'⟩ (((FD.aR hg).dU rows w).1.map vl):=fun cap'=>lb.rr (by rw[hlen];exact hps)
  refine go ⟨some ⟨hb,0,none⟩,((FD.aR hg).vx w 0 rows []).2.length,cap⟩ (fun K=>?_) (hrr cap)
  rw[Ql]
  unfold sub
  dsimp only
  rcases k1 with rfl|⟨rfl,k2⟩
  ·rw[if_neg (by omega),if_pos ⟨rfl,rfl⟩]
   simp only[Option.getD_none,Option.getD_some]
   rw[if_pos (by omega)]
   simp
  ·rw[if_pos k2]
   simp only[Option.getD_none,Option.getD_some]
   rw[if_pos (by omega)]
   by_cases hz:rows.length=0
   ·have h0:((FD.aR hg).vx w 0 rows []).2.length=0:=by omega
    rw[h0,hz];simp
   ·rw[if_neg (by omega)];simp
end
end Go.Abs.P
end
section
namespace Go.Abs.P
open Go.Abs Go.Fld
section
variable{h:AH}{fl:Nat}{mod:Sl}{xs:List Int}
theorem akI(p m:Int)(bL:SI h mod xs)(hb:xs.length≤ow)(bR:fl≤h.next){cols:Int}{s:Sl}{rs:List (List Int)}(hs:RR h s rs)(hm:rs.length≤65536)(hw:∀r∈rs,r.length≤65536):
 ∃(h':AH) (e:Int),M fl fn.mn [.agg ⟨[.int .i64 p,.int .i64 m,.slice mod.a mod.l mod.c]⟩,.agg ⟨[.int .i64 cols,.slice s.a s.l s.c]⟩] h=some (.int .i64 e,h')∧an h h'∧SpE p m xs cols rs e:=by
 have o1:=OB.alloc h [.int .i64 p,.int .i64 m,.slice mod.a mod.l mod.c]
 have q1:=an.alloc h [.int .i64 p,.int .i64 m,.slice mod.a mod.l mod.c]
 generalize eK:h.alloc [.int .i64 p,.int .i64 m,.slice mod.a mod.l mod.c]=h1 at o1 q1
 have o2:=OB.alloc h1 [.int .i64 cols,.slice s.a s.l s.c]
 have q2:=an.alloc h1 [.int .i64 cols,.slice s.a s.l s.c]
 generalize hh2:h1.alloc [.int .i64 cols,.slice s.a s.l s.c]=h2 at o2 q2
 have q12:=q1.trans q2
 have l1:=q12.1
 have Db:=o1.quiet q2
 obtain⟨h3,e,c1,c2,c3⟩:=akH (fl:=fl) p m (bL.quiet q12) hb (by omega) (cols:=cols) (hs.quiet q12) hm hw
 have q3:=q12.trans c2
 have go:∀{r},amz M fl 1 (fun y4 q=>some (Value.int .i64 y4,q)) p m mod cols s h=some r→M fl fn.mn [.agg ⟨[.int .i64 p,.int .i64 m,.slice mod.a mod.l mod.c]⟩,.agg ⟨[.int .i64 cols,.slice s.a s.l s.c]⟩] h=some r:=by
  intro r he
  refine bF (k:=1) (by decide) af2 ?_
  rw[Za];exact he
 have bad:e≠0→M fl fn.mn [.agg ⟨[.int .i64 p,.int .i64 m,.slice mod.a mod.l mod.c]⟩,.agg ⟨[.int .i64 cols,.slice s.a s.l s.c]⟩] h=some (.int .i64 e,h3):=by
  intro he
  refine go ?_
  unfold amz
  rw[bT eK,bT hh2,ae (Db.cell rfl),ae (Db.cell rfl),aq (s:=mod) (Db.cell rfl),ae (o2.cell rfl),aq (s:=s) (o2.cell rfl),ak c1]
  simp only[asInt,if_true]
  rw[if_pos (by simp[he])]
 rcases c3 with⟨nf,rfl⟩|⟨D,gen,hF,hg,rfl⟩
 ·exact⟨h3,1,bad (by omega),q3,.oz nf rfl⟩
 ·by_cases z:gK D cols rs=0
  ·obtain⟨z1,z2,z3,rows,z4,z5⟩:=Cw z
   obtain⟨f1,f2,f3,f4,f5⟩:=hF
   have hF:IsF p m xs D:=⟨f1,f2,f3,f4,f5⟩
   have ec:(cols.toNat:Int)=cols:=by omega
   have hrs:=(hs.quiet q12).quiet c2
   have hmo:SI h3 mod xs:=bL.quiet q3
   have o1q:=Db.quiet c2
   have o2q:=o2.quiet c2
   have l3:=q3.1
   have rf:RF h3 mod D:=⟨f1,by rw[f4] at hmo;exact hmo⟩
   have aUj:=hrs
   rw[z4] at aUj
   obtain⟨h4,s',pv,e1,e2,e3,e4⟩:=aer (fl:=fl) hg rf aUj (w:=cols.toNat) (by omega) (by omega) (by rw[z4,List.length_map] at z3;omega) z5
   have q4:=q3.trans e2
   have hcl:((FD.aR hg).dU rows cols.toNat).1.length≤65536:=by
    unfold Fld.dU
    simp only[List.length_take,Fld.EY]
    rw[z4,List.length_map] at z3;omega
   have hcw:∀r∈((FD.aR hg).dU rows cols.toNat).1.map vl,r.length≤ow:=by
    intro r hr
    obtain⟨r',hr',rfl⟩:=List.mem_map.1 hr
    have:=Fld.axg (FD.aR hg) cols.toNat 0 rows [] z5 (Nat.zero_le _) r' (List.mem_of_mem_take hr')
    rw[iT,this];unfold ow;omega
   have sm:=age (fl:=fl) e3 (hs.quiet q4) (by rw[List.length_map];unfold ow;omega) hcw
   have run:∀(v:Int),v=(if (!(decide (((FD.aR hg).dU rows cols.toNat).1.map vl=rs)))=true then 5 else 0)→M fl fn.mn [.agg ⟨[.int .i64 p,.int .i64 m,.slice mod.a mod.l mod.c]⟩,.agg ⟨[.int .i64 cols,.slice s.a s.l s.c]⟩] h=some (.int .i64 v,h4):=by
    intro v hv
    refine go ?_
    unfold amz
    rw[bT eK,bT hh2,ae (Db.cell rfl),ae (Db.cell rfl),aq (s:=mod) (Db.cell rfl),ae (o2.cell rfl),aq (s:=s) (o2.cell rfl),ak c1]
    simp only[asInt,if_true]
    rw[if_neg (by simp[z]),ae (o1q.cell rfl),ae (o1q.cell rfl),aq (s:=mod) (o1q.cell rfl),aq (s:=s) (o2q.cell rfl),ae (o2q.cell rfl)]
    have e1':M fl fn.ja [.agg ⟨[.int .i64 p,.int .i64 m,.slice mod.a mod.l mod.c]⟩,.slice s.a s.l s.c,.int .i64 cols] h3=some (.tuple ⟨[.slice s'.a s'.l s'.c,.slice pv.a pv.l pv.c]⟩,h4):=by
     have:=e1
     unfold fa at this
     rw[ec,←f2,←f3] at this
     exact this
    rw[ak e1']
    simp only[aE,ar,aM,aX]
    rw[aq (s:=s) ((o2q.quiet e2).cell rfl),ak sm]
    simp only[asBool]
    rw[hv]
    split<;>rfl
   by_cases ceq:((FD.aR hg).dU rows cols.toNat).1=rows
   ·exact⟨h4,0,run 0 (by rw[ceq,z4];simp),q4,.ok D gen hF hg rows z4 z5 z ceq rfl⟩
   ·refine⟨h4,5,run 5 ?_,q4,.form D gen hF hg rows z4 z5 z ceq rfl⟩
    rw[if_pos]
    simp only[Bool.not_eq_eq_eq_not,Bool.not_true,decide_eq_false_iff_not]
    rw[z4]
    exact fun e=>ceq (JL e)
  ·exact⟨h3,_,bad z,q3,.bad D gen hF hg z rfl⟩
theorem TN(p m:Int)(bL:SI h mod xs)(hb:xs.length≤ow)(bR:fl≤h.next){n:Int}{s:Sl}{rs:List (List Int)}(hs:RR h s rs)(hm:rs.length≤65536)(hw:∀r∈rs,r.length≤65536):
 ∃(h':AH) (e:Int),M fl fn.pV [ca p m mod n s] h=some (.int .i64 e,h')∧an h h'∧CoE p m xs n rs e:=by
 have o1:=OB.alloc h [.int .i64 p,.int .i64 m,.slice mod.a mod.l mod.c,.int .i64 n,.slice s.a s.l s.c]
 have q1:=an.alloc h [.int .i64 p,.int .i64 m,.slice mod.a mod.l mod.c,.int .i64 n,.slice s.a s.l s.c]
 generalize eK:h.alloc [.int .i64 p,.int .i64 m,.slice mod.a mod.l mod.c,.int .i64 n,.slice s.a s.l s.c]=h1 at o1 q1
 have l1:=q1.1
 obtain⟨h2,e1,c1,c2,c3⟩:=Yw (fl:=fl) p m (bL.quiet q1) hb (by omega)
 have q2:=q1.trans c2
 have o2:=o1.quiet c2
 have l2:=q2.1
 have go:∀{r},acn M fl 1 (fun y2 q=>some (Value.int .i64 y2,q)) p m mod n s h=some r→M fl fn.pV [ca p m mod n s] h=some r:=by
  intro r he
  refine bF (k:=1) (by decide) afZ ?_
  unfold ca
  rw[YV];exact he
 rcases c3 with⟨f,rfl⟩|⟨nf,rfl⟩
 ·by_cases hn1:n<1
  ·refine⟨h2,4,go ?_,q2,.len f (.inl hn1) rfl⟩
   unfold acn
   rw[bT eK,ae (o1.cell rfl),ae (o1.cell rfl),aq (s:=mod) (o1.cell rfl),ak c1]
   simp only[asInt,if_true]
   rw[if_neg (by simp),ae (o2.cell rfl),if_neg (by simp[hn1])]
  ·by_cases hn2:n>64
   ·refine⟨h2,4,go ?_,q2,.len f (.inr hn2) rfl⟩
    unfold acn
    rw[bT eK,ae (o1.cell rfl),ae (o1.cell rfl),aq (s:=mod) (o1.cell rfl),ak c1]
    simp only[asInt,if_true]
    rw[if_neg (by simp),ae (o2.cell rfl),if_pos (by simp[hn1]),ae (o2.cell rfl),if_pos (by simpa using hn2)]
   ·obtain⟨h4,e4,s1,s2,s3⟩:=akI (fl:=fl) p m (bL.quiet q2) hb (by omega) (hs.quiet q2) hm hw (cols:=n)
    refine⟨h4,e4,go ?_,q2.trans s2,.sp f (by omega) s3⟩
    unfold acn
    rw[bT eK,ae (o1.cell rfl),ae (o1.cell rfl),aq (s:=mod) (o1.cell rfl),ak c1]
    simp only[asInt,if_true]
    rw[if_neg (by simp),ae (o2.cell rfl),if_pos (by simp[hn1]),ae (o2.cell rfl),if_neg (by simpa using hn2),ae (o2.cell rfl),ae (o2.cell rfl),aq (s:=mod) (o2.cell rfl),ae (o2.cell rfl),aq (s:=s) (o2.cell rfl),ak s1]
    simp only[asInt,if_true]
 ·refine⟨h2,1,go ?_,q2,.oz nf rfl⟩
  unfold acn
  rw[bT eK,ae (o1.cell rfl),ae (o1.cell rfl),aq (s:=mod) (o1.cell rfl),ak c1]
  simp only[asInt,if_true]
  rw[if_pos (by simp)]
end
end Go.Abs.P
end
section
namespace Go.Abs.P
open Go.Abs Go.Fld
structure Yz(P:Nat→Prop)(h:AH)(s:Sl)(rows:List (List Int)):Prop where
 len:s.l=rows.length
 get:∀(i:Nat) (hi:i<rows.length),∃a t,s.a=some a∧a.block<h.next∧P a.block∧h.cell a.block (a.off+i)=some (Sl.v t)∧SI h t rows[i]∧∀q,t.a=some q→P q.block
section
variable{P:Nat→Prop}{h0 h h':AH}{s t:Sl}{ts:List Sl}{rows:List (List Int)}
theorem Yz.rr(p:Yz P h s rows):RR h s rows:=⟨p.len,fun i hi=>by
 obtain⟨a,t,h1,h2,h3,h4,h5,h6⟩:=p.get i hi
 exact⟨a,t,h1,h2,h4,h5⟩⟩
theorem RR.p(p:RR h s rows):Yz (fun _=>True) h s rows:=⟨p.len,fun i hi=>by
 obtain⟨a,t,h1,h2,h3,h4⟩:=p.get i hi
 exact⟨a,t,h1,h2,trivial,h3,h4,fun _ _=>trivial⟩⟩
theorem Yz.quiet(p:Yz P h s rows)(q:an h h'):Yz P h' s rows:=⟨p.len,fun i hi=>by
 obtain⟨a,t,h1,h2,h3,h4,h5,h6⟩:=p.get i hi
 exact⟨a,t,h1,Nat.lt_of_lt_of_le h2 q.1,h3,by unfold AH.cell at h4 ⊢;rw[q.2 _ h2];exact h4,h5.quiet q,h6⟩⟩
theorem Yz.J6{x:Option Addr}(p:Yz P h s rows)(q:kg x h h')(hP:∀b a,P b→x=some a→a.block≠b):Yz P h' s rows:=⟨p.len,fun i hi=>by
 obtain⟨a,t,h1,h2,h3,h4,h5,h6⟩:=p.get i hi
 exact⟨a,t,h1,Nat.lt_of_lt_of_le h2 q.1,h3,by unfold AH.cell at h4 ⊢;rw[q.2 _ h2 (fun b hb=>hP _ _ h3 hb)];exact h4,h5.J6 q (fun c b hc hb=>hP _ _ (h6 _ hc) hb),h6⟩⟩
theorem Yz.imp{Q:Nat→Prop}(p:Yz P h s rows)(hPQ:∀b,P b→Q b):Yz Q h s rows:=⟨p.len,fun i hi=>by
 obtain⟨a,t,h1,h2,h3,h4,h5,h6⟩:=p.get i hi
 exact⟨a,t,h1,h2,hPQ _ h3,h4,h5,fun q hq=>hPQ _ (h6 q hq)⟩⟩
theorem Yz.apE(p:Yz P h s rows){i:Nat}(hi:i<rows.length):∃t,SI h t rows[i]∧(∀q,t.a=some q→P q.block)∧∀h',an h h'→∀{R:Type} (K:Sl→Option R),(idx 1 s (i:Int) fun q=>aT h' q.block q.off K)=K t:=by
 obtain⟨a,t,h1,h2,h3,h4,h5,h6⟩:=p.get i hi
 refine⟨t,h5,h6,fun h' q R K=>?_⟩
 rw[bC h1 (by rw[p.len];exact hi)]
 refine aq ?_ K
 unfold AH.cell at h4 ⊢
 rw[q.2 _ h2];exact h4
structure GL(P:Nat→Prop)(h0 h:AH)(t:Sl)(ts:List Sl)(rows:List (List Int)):Prop where
 q:an h0 h
 ov:OV h0.next h t (ts.map Sl.v)
 len:ts.length=rows.length
 row:∀j (h1:j<ts.length) (h2:j<rows.length),SI h ts[j] rows[j]∧∀q,(ts[j]).a=some q→q.block<h.next∧P q.block∧∀a,t.a=some a→q.block≠a.block
theorem GL.nil(q:an h0 h):GL P h0 h ⟨none,0,0⟩ [] []:=⟨q,OV.nil _ _,rfl,fun j h1=>by cases h1⟩
theorem GL.quiet(p:GL P h0 h t ts rows)(q:an h h'):GL P h0 h' t ts rows:=
 ⟨p.q.trans q,p.ov.quiet q,p.len,fun j h1 h2=>⟨(p.row j h1 h2).1.quiet q,fun x hx=>⟨by have:=((p.row j h1 h2).2 x hx).1;have:=q.1;omega,((p.row j h1 h2).2 x hx).2⟩⟩⟩
theorem GL.push{R:Type}{fl:Nat}{r:List Int}(p:GL P h0 h t ts rows)(bR:fl≤h0.next)(hm:rows.length≤1000000)(hs:SI h s r)(hq:∀q,s.a=some q→q.block<h.next∧P q.block∧∀a,t.a=some a→q.block≠a.block)(K:Sl→AH→Option R):
 ∃t' h',(bJ h [.slice s.a s.l s.c] fun b h1=>dn fl 1 24 t ⟨some ⟨b,0,none⟩,1,1⟩ h1 K)=K t' h'∧GL P h0 h' t' (ts++[s]) (rows++[r])∧kg t.a h h'∧(∀a,t'.a=some a→h.next≤a.block):=by
 have n0:=p.q.1
 have hl:=p.len
 obtain⟨t',h',v1,v2,v3,v4⟩:=p.ov.push (R:=R) (fl:=fl) (bytes:=24) (x:=.slice s.a s.l s.c) bR (by omega) (by unfold kc;simp;omega) rfl K
 have n3:=v3.1
 refine⟨t',h',v1,⟨v3.quiet p.q (fun a ha=>p.ov.ge a ha),by rw[List.map_append];exact v2,by simp[hl],?_⟩,v3,v4⟩
 intro j h1 h2
 by_cases e:j=ts.length
 ·subst e
  have e1:(ts++[s])[ts.length]=s:=by rw[List.getElem_append_right (by omega)];simp
  have e2:(rows++[r])[ts.length]=r:=by rw[List.getElem_append_right (by omega)];simp[hl]
  rw[e1,e2]
  refine⟨hs.J6 v3 (fun a b ha hb=>fun e=>(hq a ha).2.2 b hb e.symm),fun q hq'=>?_⟩
  have:=(hq q hq').1
  exact⟨by omega,(hq q hq').2.1,fun a ha=>by have:=v4 a ha;simp only[ne_eq];omega⟩
 ·have hj:j<ts.length:=by simp at h1;omega
  have e1:(ts++[s])[j]=ts[j]:=List.getElem_append_left hj
  have e2:(rows++[r])[j]=rows[j]'(by omega):=List.getElem_append_left (by omega)
  rw[e1,e2]
  obtain⟨g1,g2⟩:=p.row j hj (by omega)
  refine⟨g1.J6 v3 (fun a b ha hb=>fun e=>(g2 a ha).2.2 b hb e.symm),fun q hq'=>?_⟩
  have:=(g2 q hq').1
  exact⟨by omega,(g2 q hq').2.1,fun a ha=>by have:=v4 a ha;simp only[ne_eq];omega⟩
theorem GL.rrp(p:GL P h0 h t ts rows)(fr:∀b,h0.next≤b→P b):Yz P h t rows:=by
 have hl:=p.len
 rcases p.ov with⟨z1,rfl⟩|⟨b,c,g1,g2,g3,g4,rfl,g6⟩
 ·have:rows=[]:=List.length_eq_zero_iff.1 (by rw[←hl];simpa using z1)
  subst this;exact⟨rfl,fun i hi=>by cases hi⟩
 ·refine⟨by simp[hl],fun i hi=>?_⟩
  refine⟨_,ts[i]'(by omega),rfl,g2,fr _ g1,?_,(p.row i (by omega) hi).1,fun q hq=>((p.row i (by omega) hi).2 q hq).2.1⟩
  refine OB.cell ⟨g2,g6⟩ ?_
  rw[Nat.zero_add,List.getElem?_map,List.getElem?_eq_getElem (by omega)];rfl
end
theorem asu{α:Type}(rows:List α){k:Nat}(hk:k<rows.length):(rows.take (k+1)).eraseIdx k=(rows.take k).eraseIdx k:=by
 rw[List.take_succ_eq_append_getElem hk,List.eraseIdx_append_of_length_le (by simp;omega)]
 have:k-(rows.take k).length=0:=by simp;omega
 rw[this,List.eraseIdx_cons_zero,List.append_nil,List.eraseIdx_of_length_le (by simp;omega)]
theorem apF{α:Type}(rows:List α){k l:Nat}(hl:l<rows.length)(h:l≠k):(rows.take (l+1)).eraseIdx k=(rows.take l).eraseIdx k++[rows[l]]:=by
 rw[List.take_succ_eq_append_getElem hl]
 by_cases c:l<k
 ·rw[List.eraseIdx_of_length_le (by simp;omega),List.eraseIdx_of_length_le (by simp;omega)]
 ·rw[List.eraseIdx_append_of_lt_length (by simp;omega)]
section
variable{D:FD}{gen:Nat}(hg:D.bh gen){h:AH}{g:Addr}{fl:Nat}
theorem azU{R:Type}{k:Nat}(kn:au R)(kr:ah R){bx i:Nat}{w:Nat}{rows:List (List (El D))}{s:Sl}(hx:OB h bx [.int .i64 (i:Int)])(hs:RR h s (rows.map vl))(hw:Fld.jI w rows)(hi:i<w)(hm:rows.length≤65536):
 ∀(d j m:Nat),j+d=rows.length→d<m→(∀j' (_:j'<j) (hj:j'<rows.length),(FD.aR hg).nz ((rows[j']).getD i (FD.aR hg).zero)=false)→
 DS M fl k kn kr m s (.func (.func fn.c8) ⟨[]⟩ ⟨[.pointer (some ⟨bx,0,none⟩)]⟩) (rows.length:Int) (j:Int) h=
  if rows.findIdx (fun r=>(FD.aR hg).nz (r.getD i (FD.aR hg).zero))<rows.length then kr ((rows.findIdx (fun r=>(FD.aR hg).nz (r.getD i (FD.aR hg).zero)):Nat):Int) h else kn h:=by
 intro d
 induction d with
 |zero=>
  intro j m hj hm' hp
  obtain⟨m,rfl⟩:∃j,m=j+1:=⟨m-1,by omega⟩
  show uD M fl k _ _ kr _ _ _ _ h=_
  unfold uD
  rw[if_neg (by simp;omega),if_neg]
  intro hlt
  have h1:=List.findIdx_getElem (w:=hlt)
  have h2:=hp _ (by omega) hlt
  rw[h2] at h1;cases h1
 |succ d ih=>
  intro j m hj hm' hp
  obtain⟨m,rfl⟩:∃j,m=j+1:=⟨m-1,by omega⟩
  have Qk:j<rows.length:=by omega
  obtain⟨t,a1,a2⟩:=hs.read (i:=j) (by simpa using Qk)
  simp only[List.getElem_map] at a1
  have qC:i<(rows[j]).length:=by rw[hw _ (List.getElem_mem Qk)];exact hi
  show uD M fl k _ _ kr _ _ _ _ h=_
  unfold uD
  rw[if_pos (by simp;omega),a2]
  have hgd:(rows[j]).getD i (FD.aR hg).zero=(rows[j])[i]:=by rw[List.getD_eq_getElem?_getD,List.getElem?_eq_getElem qC];rfl
  have run:M fl fn.c8 [.slice t.a t.l t.c,.pointer (some ⟨bx,0,none⟩)] h=some (.bool (ve (rows[j])[i] !=0),h):=by
   refine bF (k:=1) (by decide) tz ?_
   rw[qo]
   unfold c8 aDx
   rw[ae (hx.cell rfl),a1.read (by omega) (by simp;exact qC)]
   simp only[Int.toNat_natCast,mQ]
  unfold mh
  simp only[List.nil_append]
  rw[show([Value.slice t.a t.l t.c]++[Value.pointer (some ⟨bx,0,none⟩)])=[.slice t.a t.l t.c,.pointer (some ⟨bx,0,none⟩)] from rfl,run]
  simp only[asBool]
  by_cases hz:(rows[j])[i]=(FD.aR hg).zero
  ·rw[if_neg (by simp[(j0 hg _).2 hz]),aH (j+1) (by push_cast;rfl) (by omega)]
   refine ih (j+1) m (by omega) (by omega) ?_
   intro j' h1 h2
   by_cases e:j'=j
   ·subst e
    rw[hgd,hz]
    cases hh:(FD.aR hg).nz (FD.aR hg).zero with
    |false=>rfl
    |true=>exact absurd rfl (((FD.aR hg).Uo _).1 hh)
   ·exact hp j' (by omega) h2
  ·rw[if_pos (by simp;exact fun e=>hz ((j0 hg _).1 e))]
   have hf:rows.findIdx (fun r=>(FD.aR hg).nz (r.getD i (FD.aR hg).zero))=j:=by
    rw[List.findIdx_eq Qk]
    exact⟨((FD.aR hg).Uo _).2 (by rw[hgd];exact hz),fun j' h1=>hp j' h1 (by omega)⟩
   rw[hf,if_pos Qk]
theorem azV{bx i:Nat}{w:Nat}{rows:List (List (El D))}{s:Sl}(hx:OB h bx [.int .i64 (i:Int)])(hs:RR h s (rows.map vl))(hw:Fld.jI w rows)(hi:i<w)(hm:rows.length≤65536):
 M fl fn.eA [.slice s.a s.l s.c,.func (.func fn.c8) ⟨[]⟩ ⟨[.pointer (some ⟨bx,0,none⟩)]⟩] h=
   some (.int .i64 (if rows.findIdx (fun r=>(FD.aR hg).nz (r.getD i (FD.aR hg).zero))<rows.length then ((rows.findIdx (fun r=>(FD.aR hg).nz (r.getD i (FD.aR hg).zero)):Nat):Int) else-1),h):=by
 have:=azU (fl:=fl) (k:=rows.length+1) hg (Ve M fl (rows.length+1) (fun y4 q=>some (Value.int .i64 y4,q))) (fun y4 q=>some (Value.int .i64 y4,q)) hx hs hw hi hm rows.length 0 (rows.length+1) (by omega) (by omega) (fun j' h1=>by omega)
 refine bF (k:=rows.length+1) (by decide) sP ?_
 rw[oj]
 unfold eA aDv ajf aje
 have hl:s.l=rows.length:=by rw[hs.len];simp
 rw[hl]
 refine Eq.trans this ?_
 split<;>rfl
theorem asv{R:Type}{k:Nat}(kn:B5 R){h0:AH}{b cp:Nat}{tu:Sl}{u:List (El D)}(p:GF h0 g D gen)(a:El D)(hu:SI h0 tu (vl u))(hb:h0.next≤b)(bR:fl≤b)(hm:u.length<ow)(v0:List (El D))(hv0:v0.length=u.length)(s1:Sl)(bx:Addr)(kk:Int)(t8 s21:Sl)(JU l:Int):
 ∀(d i f:Nat) (h:AH),i+d=u.length→d<f→OB h b (iv (vl ((FD.aR hg).cy (v0.take i) ((FD.aR hg).neg a) (u.take i)++v0.drop i)))→an h0 h→
 ∃h',dR M fl k kn f (some g) s1 bx kk t8 ⟨some ⟨b,0,none⟩,u.length,cp⟩ (ve a) s21 JU l tu (u.length:Int) (i:Int) h=kn (some g) s1 bx kk t8 ⟨some ⟨b,0,none⟩,u.length,cp⟩ s21 JU l h'∧OB h' b (iv (vl ((FD.aR hg).cy v0 ((FD.aR hg).neg a) u)))∧an h0 h'∧kg (some ⟨b,0,none⟩) h h':=by
 intro d
 induction d with
 |zero=>
  intro i f h hi hf ho hq
  obtain⟨f,rfl⟩:∃j,f=j+1:=⟨f-1,by omega⟩
  rw[List.take_of_length_le (by omega),List.take_of_length_le (by omega),List.drop_of_length_le (by omega),List.append_nil] at ho
  refine⟨h,?_,ho,hq,kg.refl _ _⟩
  show da M fl k _ _ _ _ _ _ _ _ _ _ _ _ _ _ _ h=_
  unfold da
  rw[if_neg (by simp;omega)]
 |succ d ih=>
  intro i f h hi hf ho hq
  obtain⟨f,rfl⟩:∃j,f=j+1:=⟨f-1,by omega⟩
  have hiu:i<u.length:=by omega
  have hiv:i<v0.length:=by omega
  have hax:((FD.aR hg).cy (v0.take i) ((FD.aR hg).neg a) (u.take i)).length=i:=by rw[Fld.cg _ _ _ _ (by simp;omega)];simp;omega
  have YF:(FD.aR hg).cy (v0.take (i+1)) ((FD.aR hg).neg a) (u.take (i+1))=(FD.aR hg).cy (v0.take i) ((FD.aR hg).neg a) (u.take i)++[(FD.aR hg).add v0[i] ((FD.aR hg).neg ((FD.aR hg).mul a u[i]))]:=by
   unfold Fld.cy
   rw[List.take_succ_eq_append_getElem hiv,List.take_succ_eq_append_getElem hiu,List.zipWith_append (by simp;omega),←(FD.aR hg).neg_mul]
   rfl
  have aGj:=(hu.quiet hq).read (i:=(i:Int)) (by omega) (by simp;omega) (R:=R)
  have un:dR M fl k kn (f+1) (some g) s1 bx kk t8 ⟨some ⟨b,0,none⟩,u.length,cp⟩ (ve a) s21 JU l tu (u.length:Int) (i:Int) h=da M fl k (dR M fl k kn f) kn (some g) s1 bx kk t8 ⟨some ⟨b,0,none⟩,u.length,cp⟩ (ve a) s21 JU l tu (u.length:Int) (i:Int) h:=rfl
  rw[un]
  unfold da
  rw[if_pos (by simp;omega),aGj]
  simp only[Int.toNat_natCast,mQ]
  have mS:h.cell b (0+i)=some (.int .i64 (ve v0[i])):=by
   refine ho.cell ?_
   rw[Nat.zero_add,M1 _ _ (by simp;omega),mQ]
   congr 3
   rw[List.getElem_append_right (by omega)]
   simp[hax]
  have nV:(iv (vl ((FD.aR hg).cy (v0.take i) ((FD.aR hg).neg a) (u.take i)++v0.drop i))).set (0+i) (.int .i64 (ve ((FD.aR hg).add v0[i] ((FD.aR hg).neg ((FD.aR hg).mul a u[i])))))=iv (vl ((FD.aR hg).cy (v0.take (i+1)) ((FD.aR hg).neg a) (u.take (i+1))++v0.drop (i+1))):=by
   rw[lu,aFn,Nat.zero_add,List.set_append_right _ _ (by omega),hax,Nat.sub_self,List.drop_eq_getElem_cons hiv,List.set_cons_zero,YF]
   simp
  obtain⟨h',e1,e2,e3,e4⟩:=ih (i+1) f (h.put b (some (iv (vl ((FD.aR hg).cy (v0.take (i+1)) ((FD.aR hg).neg a) (u.take (i+1))++v0.drop (i+1)))))) (by omega) (by omega) (ho.put _) (hq.put hb _)
  refine⟨h',?_,e2,e3,(kg.put _).trans e4⟩
  have hgh:=p.quiet hq
  rw[bC rfl (show i<u.length from hiu)]
  dsimp only
  rw[ae mS,ak (aMO hg hgh a u[i])]
  simp only[asInt,if_true]
  rw[ak (aXY hg hgh v0[i] _)]
  simp only[if_true]
  rw[bC rfl (show i<u.length from hiu),ho.st bR (by simp;omega) rfl,nV,aH (i+1) (by push_cast;rfl) (by unfold ow at hm;omega)]
  exact e1
end
end Go.Abs.P
end
section
namespace Go.Abs.P
open Go.Abs Go.Fld
section
variable{D:FD}{gen:Nat}(hg:D.bh gen){h:AH}{g:Addr}{fl:Nat}
def woF(rows:List (List (El D)))(kk i:Nat)(p:List (El D))(r:List (El D)):List (El D):=(FD.aR hg).cy r ((FD.aR hg).neg ((FD.aR hg).mul (r.getD i (FD.aR hg).zero) ((FD.aR hg).inv (p.getD i (FD.aR hg).zero)))) p
theorem aMQ{R:Type}{k:Nat}(kn:ab R){P:Nat→Prop}{h0:AH}{bx w kk i:Nat}{rows:List (List (El D))}{s:Sl}(gf:GF h0 g D gen)(hx:OB h0 bx [.int .i64 (i:Int)])(hs:Yz P h0 s (rows.map vl))(fr:∀b,h0.next≤b→P b)(hw:Fld.jI w rows)(hi:i<w)(hw2:w≤65536)(hm:rows.length≤65536)(hkk:kk<rows.length)(hz:(rows[kk]).getD i (FD.aR hg).zero≠(FD.aR hg).zero)(bR:fl≤h0.next)(hk:w<k):
 ∀(d l f:Nat) (t:Sl) (ts:List Sl) (h:AH),l+d=rows.length→d<f→GL P h0 h t ts ((((rows.take l).eraseIdx kk).map (woF hg rows kk i rows[kk])).map vl)→
 ∃h' t' Cx,iR M fl k kn f (some g) s ⟨bx,0,none⟩ (kk:Int) t s (rows.length:Int) (l:Int) h=kn t' h'∧GL P h0 h' t' Cx (((rows.eraseIdx kk).map (woF hg rows kk i rows[kk])).map vl):=by
 intro d
 induction d with
 |zero=>
  intro l f t ts h hl hf gl
  obtain⟨f,rfl⟩:∃j,f=j+1:=⟨f-1,by omega⟩
  rw[List.take_of_length_le (by omega)] at gl
  refine⟨h,t,ts,?_,gl⟩
  show uh M fl k _ _ _ _ _ _ _ _ _ _ h=_
  unfold uh Ay
  rw[if_neg (by simp;omega)]
 |succ d ih=>
  intro l f t ts h hl hf gl
  obtain⟨f,rfl⟩:∃j,f=j+1:=⟨f-1,by omega⟩
  have hll:l<rows.length:=by omega
  have hlw:=hw _ (List.getElem_mem hll)
  have hkw:=hw _ (List.getElem_mem hkk)
  have un:iR M fl k kn (f+1) (some g) s ⟨bx,0,none⟩ (kk:Int) t s (rows.length:Int) (l:Int) h=uh M fl k (iR M fl k kn f) kn (some g) s ⟨bx,0,none⟩ (kk:Int) t s (rows.length:Int) (l:Int) h:=rfl
  rw[un]
  unfold uh Ay
  rw[if_pos (by simp;omega)]
  unfold I9 yZ wj rH
  have hsq:=hs.quiet gl.q
  obtain⟨r,a0,aP,a2⟩:=hs.apE (i:=l) (by simpa using hll)
  simp only[List.getElem_map] at a0
  have a1:=a0.quiet gl.q
  obtain⟨rk,b1,_,b2⟩:=hs.apE (i:=kk) (by simpa using hkk)
  simp only[List.getElem_map] at b1
  replace b1:=b1.quiet gl.q
  rw[a2 h gl.q]
  by_cases e:l=kk
  ·subst e
   rw[if_pos (by simp)]
   unfold dY
   rw[aH (l+1) (by push_cast;rfl) (by omega)]
   exact ih (l+1) f t ts h (by omega) (by omega) (by rw[asu rows hll];exact gl)
  ·rw[if_neg (by simp;omega),ae ((hx.quiet gl.q).cell rfl),a1.read (by omega) (by simp;omega)]
   simp only[Int.toNat_natCast,mQ]
   have n0:=gl.q.1
   have nx:(((rows.take (l+1)).eraseIdx kk).map (woF hg rows kk i rows[kk])).map vl=(((rows.take l).eraseIdx kk).map (woF hg rows kk i rows[kk])).map vl++[vl (woF hg rows kk i rows[kk] rows[l])]:=by
    rw[apF rows hll e];simp
   have hlen:((((rows.take l).eraseIdx kk).map (woF hg rows kk i rows[kk])).map vl).length≤1000000:=by
    have:=(List.eraseIdx_sublist (rows.take l) kk).length_le
    simp only[List.length_map]
    rw[List.length_take] at this
    omega
   have hgd:(rows[l]).getD i (FD.aR hg).zero=(rows[l])[i]'(by omega):=by rw[List.getD_eq_getElem?_getD,List.getElem?_eq_getElem (by omega)];rfl
   have hgk:(rows[kk]).getD i (FD.aR hg).zero=(rows[kk])[i]'(by omega):=by rw[List.getD_eq_getElem?_getD,List.getElem?_eq_getElem (by omega)];rfl
   unfold xJ nv
   have fin:∀(h2:AH) (s2:Sl),GL P h0 h2 t ts ((((rows.take l).eraseIdx kk).map (woF hg rows kk i rows[kk])).map vl)→SI h2 s2 (vl (woF hg rows kk i rows[kk] rows[l]))→(∀q,s2.a=some q→q.block<h2.next∧P q.block∧∀a,t.a=some a→q.block≠a.block)→
    ∃h' t' Cx,gy M fl k (dY M fl k (iR M fl k kn f) kn) (dY M fl k (iR M fl k kn f) kn) (some g) s ⟨bx,0,none⟩ (kk:Int) t s2 s (rows.length:Int) (l:Int) h2=kn t' h'∧GL P h0 h' t' Cx (((rows.eraseIdx kk).map (woF hg rows kk i rows[kk])).map vl):=by
    intro h2 s2 gl2 hs2 nL
    obtain⟨t',h3,p1,p2,_⟩:=gl2.push (R:=R) (fl:=fl) bR hlen hs2 nL (fun s3 h4=>dY M fl k (iR M fl k kn f) kn (some g) s ⟨bx,0,none⟩ (kk:Int) s3 s (rows.length:Int) (l:Int) h4)
    rw[←nx] at p2
    obtain⟨h',t'',Cx,r1,r2⟩:=ih (l+1) f t' _ h3 (by omega) (by omega) p2
    refine⟨h',t'',Cx,?_,r2⟩
    unfold gy
    refine Eq.trans p1 ?_
    unfold dY
    rw[aH (l+1) (by push_cast;rfl) (by omega)]
    exact r1
   have tge:∀a,t.a=some a→h0.next≤a.block∧a.block<h.next:=fun a ha=>⟨gl.ov.ge a ha,OV.lt gl.ov a ha⟩
   have lZ:vl rows[l]≠[]:=fun e=>by
    have:(vl rows[l]).length=0:=by rw[e];rfl
    rw[iT] at this;omega
   by_cases hc:(rows[l])[i]'(by omega)=(FD.aR hg).zero
   ·rw[if_neg (by simp[(j0 hg _).2 hc])]
    have e0:woF hg rows kk i rows[kk] rows[l]=rows[l]:=by
     unfold woF
     rw[hgd,hc,Fld.zero_mul,Fld.neg_zero,Fld.J4 _ _ _ (by omega)]
    refine fin h r gl (by rw[e0];exact a1) (fun q hq=>?_)
    have hlt:=a0.lt lZ q hq
    exact⟨by omega,aP q hq,fun a ha=>by have:=tge a ha;simp only[ne_eq];omega⟩
   ·rw[if_pos (by simp;exact fun e=>hc ((j0 hg _).1 e))]
    unfold lQ kD nR
    have gfq:=gf.quiet gl.q
    have lY:=hx.quiet gl.q
    obtain⟨s',h3,c1,c2,c3⟩:=aen (fl:=fl) a1 lZ (by rw[iT];omega)
    have gl3:=gl.quiet c3
    rcases c2 with⟨z1,_⟩|⟨b,c,g1,g2,g3,g4,g5,g6⟩
    ·exact absurd (by simpa [iv] using z1) lZ
    ·subst g5
     have hl3:(iv (vl rows[l])).length=(rows[kk]).length:=by simp[iv];omega
     rw[hl3] at c1
     have n3:=c3.1
     obtain⟨h4,k1,k2,k3,k4⟩:=asv (fl:=fl) (k:=k) (cp:=c) hg (gy M fl k (dY M fl k (iR M fl k kn f) kn) (dY M fl k (iR M fl k kn f) kn)) (h0:=h) gfq ((FD.aR hg).mul ((rows[l])[i]'(by omega)) ((FD.aR hg).inv ((rows[kk])[i]'(by omega)))) b1 g1 (by omega) (by unfold ow;omega) rows[l] (by omega) s ⟨bx,0,none⟩ (kk:Int) t s (rows.length:Int) (l:Int) (rows[kk]).length 0 k h3 (by omega) (by omega) (by simpa [Fld.cy] using (⟨g2,g6⟩:OB h3 b (iv (vl rows[l])))) c3
     have gl4:GL P h0 h4 t ts ((((rows.take l).eraseIdx kk).map (woF hg rows kk i rows[kk])).map vl):=by
      have:an h h4:=k3
      exact gl.quiet this
     have e0:(FD.aR hg).cy rows[l] ((FD.aR hg).neg ((FD.aR hg).mul ((rows[l])[i]'(by omega)) ((FD.aR hg).inv ((rows[kk])[i]'(by omega))))) rows[kk]=woF hg rows kk i rows[kk] rows[l]:=by
      unfold woF;rw[hgd,hgk]
     rw[e0] at k2
     have hwl:(vl (woF hg rows kk i rows[kk] rows[l])).length=(rows[kk]).length:=by
      rw[iT];unfold woF;rw[Fld.cg _ _ _ _ (by omega)];omega
     have si4:=k2.si none c
     rw[hwl] at si4
     obtain⟨h',t',Cx,r1,r2⟩:=fin h4 _ gl4 si4 (fun q hq=>by cases hq;exact⟨k2.1,fr b (by omega),fun a ha=>by have:=tge a ha;simp only[ne_eq];omega⟩)
     refine⟨h',t',Cx,?_,r2⟩
     have a8K:(rows[kk])[i]'(by omega)≠(FD.aR hg).zero:=by rw[←hgk];exact hz
     rw[ae (lY.cell rfl),a1.read (by omega) (by simp;omega)]
     simp only[Int.toNat_natCast,mQ]
     rw[b2 h gl.q,ae (lY.cell rfl),b1.read (by omega) (by simp;omega)]
     simp only[Int.toNat_natCast,mQ]
     rw[ak (aX0 hg gfq _ _ a8K)]
     simp only[aE,ar,aM,asInt,if_true]
     rw[ak c1]
     simp only[aX]
     rw[b2 h3 (gl.q.trans c3)]
     have hrl:rk.l=(rows[kk]).length:=by rw[b1.len];simp
     rw[hrl]
     refine Eq.trans k1 ?_
     exact r1
theorem akJ{P:Nat→Prop}(fr:∀b,h.next≤b→P b){w i:Nat}{rows:List (List (El D))}{s:Sl}(gf:GF h g D gen)(hs:Yz P h s (rows.map vl))(hw:Fld.jI w rows)(hi:i<w)(hw2:w≤65536)(hm:rows.length≤65536)(bR:fl≤h.next):
 ∃h' s',M fl fn.de [.pointer (some g),.slice s.a s.l s.c,.int .i64 (i:Int)] h=some (.slice s'.a s'.l s'.c,h')∧an h h'∧Yz P h' s' (((FD.aR hg).wo rows i).map vl):=by
 have o1:=OB.alloc h [.int .i64 (i:Int)]
 have q1:=an.alloc h [.int .i64 (i:Int)]
 generalize eK:h.alloc [.int .i64 (i:Int)]=h1 at o1 q1
 have n1:=q1.1
 have hsp:=azV (fl:=fl) hg o1 (hs.quiet q1).rr hw hi hm
 have go:∀{k:Nat} {r},de M fl k (some g) s (i:Int) h=some r→M fl fn.de [.pointer (some g),.slice s.a s.l s.c,.int .i64 (i:Int)] h=some r:=by
  intro k r he
  refine bF (k:=k) (by decide) yH ?_
  rw[th]
  exact he
 by_cases c:rows.findIdx (fun r=>(FD.aR hg).nz (r.getD i (FD.aR hg).zero))<rows.length
 ·rw[if_pos c] at hsp
  have hz:=((FD.aR hg).Uo _).1 (List.findIdx_getElem (w:=c))
  have ew:(FD.aR hg).wo rows i=(rows.eraseIdx (rows.findIdx (fun r=>(FD.aR hg).nz (r.getD i (FD.aR hg).zero)))).map (woF hg rows (rows.findIdx (fun r=>(FD.aR hg).nz (r.getD i (FD.aR hg).zero))) i (rows[rows.findIdx (fun r=>(FD.aR hg).nz (r.getD i (FD.aR hg).zero))])):=by
   unfold Fld.wo
   rw[dif_pos c]
   rfl
  rw[ew]
  generalize rows.findIdx (fun r=>(FD.aR hg).nz (r.getD i (FD.aR hg).zero))=kk at c hsp hz
  obtain⟨h',t',Cx,e1,e2⟩:=aMQ (fl:=fl) (k:=max (w+1) (rows.length+1)) hg (UY M fl (max (w+1) (rows.length+1)) (fun y6 q=>some (Value.slice y6.a y6.l y6.c,q))) (gf.quiet q1) o1 (hs.quiet q1) (fun b hb=>fr b (by omega)) hw hi hw2 hm c hz (by omega) (by omega) rows.length 0 (max (w+1) (rows.length+1)) ⟨none,0,0⟩ [] h1 (by omega) (by omega) (by simpa using GL.nil (an.refl h1))
  refine⟨h',t',go (k:=max (w+1) (rows.length+1)) ?_,q1.trans e2.q,e2.rrp (fun b hb=>fr b (by omega))⟩
  unfold de auP acO aiH
  rw[bT eK,ak hsp]
  simp only[asInt,if_true]
  have hl:s.l=rows.length:=by rw[hs.len];simp
  rw[if_neg (by simp),hl]
  exact e1
 ·rw[if_neg c] at hsp
  have ew:(FD.aR hg).wo rows i=rows:=by
   unfold Fld.wo
   rw[dif_neg c]
  rw[ew]
  refine⟨h1,s,go (k:=1) ?_,q1,hs.quiet q1⟩
  unfold de auP acO
  rw[bT eK,ak hsp]
  simp only[asInt,if_true]
  rw[if_pos (by simp)]
end
end Go.Abs.P
end
section
namespace Go.Abs
section
variable{R:Type}
theorem axh{n:Nat}(hn:n≤62)(K:Int→Option R):shQ true .i64 1 (n:Int) K=K ((2^n:Nat):Int):=by
 unfold shQ ak8
 have h1:(2:Nat)^n≤2^62:=Nat.pow_le_pow_right (by omega) hn
 rw[if_neg (by omega),if_pos rfl]
 have:min (n:Int).toNat IntKind.i64.bits=n:=by
  show min (n:Int).toNat 64=n
  rw[Int.toNat_natCast];omega
 rw[this]
 have e:(1:Int)*2^n=((2^n:Nat):Int):=by push_cast;omega
 rw[e]
 generalize (2:Nat)^n=m at h1
 have hw:IntKind.i64.wrap ((m:Nat):Int)=((m:Nat):Int):=mj (by omega) (by omega)
 show(match some (IntKind.i64.wrap (m:Int)) with|some n=>K n|none=>none)=K (m:Int)
 rw[hw]
theorem akK{a n:Nat}(hn:n≤63)(K:Int→Option R):shQ false .i64 (a:Int) (n:Int) K=K ((a/2^n:Nat):Int):=by
 unfold shQ ak8
 rw[if_neg (by omega),if_neg (by simp)]
 have:min (n:Int).toNat IntKind.i64.bits=n:=by
  show min (n:Int).toNat 64=n
  rw[Int.toNat_natCast];omega
 rw[this]
 have e:((2:Int)^n)=((2^n:Nat):Int):=by push_cast;rfl
 rw[e,Int.fdiv_eq_ediv_of_nonneg _ (Int.natCast_nonneg _),←Int.natCast_ediv]
theorem aQn{a b:Nat}(ha:a<2^62)(hb:b<2^62)(K:Int→Option R):j6 .or .i64 (a:Int) (b:Int) K=K ((a|||b:Nat):Int):=by
 unfold j6 Iw
 have e:(BitVec.ofInt IntKind.i64.bits (a:Int)|||BitVec.ofInt IntKind.i64.bits (b:Int)).toNat=a|||b:=by
  show(BitVec.ofInt 64 (a:Int)|||BitVec.ofInt 64 (b:Int)).toNat=a|||b
  rw[BitVec.ofInt_natCast,BitVec.ofInt_natCast,BitVec.toNat_or,BitVec.toNat_ofNat,BitVec.toNat_ofNat,Nat.mod_eq_of_lt (by omega),Nat.mod_eq_of_lt (by omega)]
 have hl:a|||b<2^62:=Nat.or_lt_two_pow ha hb
 simp only[e]
 have hw:IntKind.i64.wrap ((a|||b:Nat):Int)=((a|||b:Nat):Int):=mj (by omega) (by omega)
 rw[hw]
theorem aFw{a:Nat}(ha:a<2^62)(K:Int→Option R):j6 .and .i64 (a:Int) 1 K=K ((a%2:Nat):Int):=by
 unfold j6 Iw
 have e:(BitVec.ofInt IntKind.i64.bits (a:Int)&&&BitVec.ofInt IntKind.i64.bits (1:Int)).toNat=a%2:=by
  show(BitVec.ofInt 64 (a:Int)&&&BitVec.ofInt 64 ((1:Nat):Int)).toNat=a%2
  rw[BitVec.ofInt_natCast,BitVec.ofInt_natCast,BitVec.toNat_and,BitVec.toNat_ofNat,BitVec.toNat_ofNat,Nat.mod_eq_of_lt (by omega),Nat.mod_eq_of_lt (by omega),Nat.and_one_is_mod]
 simp only[e]
 have hw:IntKind.i64.wrap ((a%2:Nat):Int)=((a%2:Nat):Int):=mj (by omega) (by omega)
 rw[hw]
end
end Go.Abs
namespace Go.Fld.Fld
variable{α:Type}(F:Fld α)
def frm:Nat→Nat→List (List α)→Nat→List Nat→List Nat
 |0,_,rows,mask,out=>if rows.length=0 then out else out.set mask rows.length
 |d+1,next,rows,mask,out=>if rows.length=0 then out else frm d (next+1) (F.wo rows next) mask (frm d (next+1) rows (mask|||2^next) out)
theorem Bp:∀(d next:Nat) (rows:List (List α)) (mask:Nat) (out:List Nat),(F.frm d next rows mask out).length=out.length
 |0,_,rows,mask,out=>by unfold frm;split<;>simp
 |d+1,next,rows,mask,out=>by
  unfold frm
  split
  ·rfl
  ·rw[Bp,Bp]
theorem aFx(rows:List (List α))(i:Nat):(F.wo rows i).length≤rows.length:=by
 unfold wo
 split
 ·rw[List.length_map]
  exact(List.eraseIdx_sublist _ _).length_le
 ·exact Nat.le_refl _
end Go.Fld.Fld
namespace Go.Abs.P
open Go.Abs Go.Fld
section
variable{D:FD}{gen:Nat}(hg:D.bh gen){g:Addr}{fl:Nat}
structure FR(gen:Nat)(h0 h:AH)(g:Addr)(ob bc bo bf bg N:Nat)(cs:List Value):Prop where
 bt:kg (some ⟨ob,0,none⟩) h0 h
 c3:cs[3]?=some (.int .i64 (N:Int))
 oc:OB h0 bc cs
 oo:OB h0 bo [.slice (some ⟨ob,0,none⟩) (2^N) (2^N)]
 of:OB h0 bf [.func (.func fn.bm) ⟨[]⟩ ⟨[.pointer (some ⟨bc,0,none⟩),.pointer (some ⟨bo,0,none⟩),.pointer (some ⟨bf,0,none⟩),.pointer (some ⟨bg,0,none⟩)]⟩]
 og:OB h0 bg [.pointer (some g)]
 nc:ob≠bc∧ob≠bo∧ob≠bf∧ob≠bg
 gf:∀h',kg (some ⟨ob,0,none⟩) h0 h'→GF h' g D gen
 fl:fl≤ob
 ol:ob<h0.next
theorem FR.J6{h0 h h':AH}{ob bc bo bf bg N:Nat}{cs:List Value}(p:FR (D:=D) (fl:=fl) gen h0 h g ob bc bo bf bg N cs)(q:kg (some ⟨ob,0,none⟩) h h'):FR (D:=D) (fl:=fl) gen h0 h' g ob bc bo bf bg N cs:=
 ⟨p.bt.trans q,p.c3,p.oc,p.oo,p.of,p.og,p.nc,p.gf,p.fl,p.ol⟩
theorem azW{h0:AH}{ob bc bo bf bg N:Nat}{cs:List Value}(hN:N≤16):
 ∀(d next mask:Nat) (rows:List (List (El D))) (s:Sl) (out:List Nat) (h:AH),next+d=N→mask<2^next→Fld.jI N rows→rows.length≤65536→out.length=2^N→
 FR (D:=D) (fl:=fl) gen h0 h g ob bc bo bf bg N cs→Yz (·≠ob) h s (rows.map vl)→OB h ob (iv (ints out))→
 ∃h',M fl fn.bm [.slice s.a s.l s.c,.int .i64 (mask:Int),.int .i64 (next:Int),.pointer (some ⟨bc,0,none⟩),.pointer (some ⟨bo,0,none⟩),.pointer (some ⟨bf,0,none⟩),.pointer (some ⟨bg,0,none⟩)] h=some (.tuple ⟨[]⟩,h')∧
  kg (some ⟨ob,0,none⟩) h h'∧OB h' ob (iv (ints ((FD.aR hg).frm d next rows mask out))):=by
 intro d
 induction d with
 |zero=>
  intro next mask rows s out h hd ahr hw hm ho fr hs hob
  have hl:s.l=rows.length:=by rw[hs.len];simp
  have go:∀{r},bm M fl 1 s (mask:Int) (next:Int) ⟨bc,0,none⟩ ⟨bo,0,none⟩ ⟨bf,0,none⟩ ⟨bg,0,none⟩ h=some r→M fl fn.bm [.slice s.a s.l s.c,.int .i64 (mask:Int),.int .i64 (next:Int),.pointer (some ⟨bc,0,none⟩),.pointer (some ⟨bo,0,none⟩),.pointer (some ⟨bf,0,none⟩),.pointer (some ⟨bg,0,none⟩)] h=some r:=by
   intro r he
   refine bF (k:=1) (by decide) pR ?_
   rw[mF];exact he
  unfold Fld.frm
  by_cases c:rows.length=0
  ·rw[if_pos c]
   refine⟨h,go ?_,kg.refl _ _,hob⟩
   unfold bm agY
   rw[if_pos (by simp[hl,c])]
  ·rw[if_neg c]
   have oc:=fr.bt.ob fr.oc (fun a ha=>by cases ha;exact fr.nc.1)
   have oo:=fr.bt.ob fr.oo (fun a ha=>by cases ha;exact fr.nc.2.1)
   have e0:next=N:=by omega
   subst e0
   refine⟨h.put ob (some (iv (ints (out.set mask rows.length)))),go ?_,kg.put _,hob.put _⟩
   unfold bm agY
   rw[if_neg (by simp[hl];simpa using c),ae (oc.cell fr.c3),if_pos (by simp),aq (s:=⟨some ⟨ob,0,none⟩,2^next,2^next⟩) (oo.cell rfl),bC rfl (show mask<2^next from ahr)]
   rw[hob.st fr.fl (by simp[iv,ints,ho];omega) rfl,hl,Nat.zero_add,lu,ints_set]
 |succ d ih=>
  intro next mask rows s out h hd ahr hw hm ho fr hs hob
  have hl:s.l=rows.length:=by rw[hs.len];simp
  have go:∀{r},bm M fl 1 s (mask:Int) (next:Int) ⟨bc,0,none⟩ ⟨bo,0,none⟩ ⟨bf,0,none⟩ ⟨bg,0,none⟩ h=some r→M fl fn.bm [.slice s.a s.l s.c,.int .i64 (mask:Int),.int .i64 (next:Int),.pointer (some ⟨bc,0,none⟩),.pointer (some ⟨bo,0,none⟩),.pointer (some ⟨bf,0,none⟩),.pointer (some ⟨bg,0,none⟩)] h=some r:=by
   intro r he
   refine bF (k:=1) (by decide) pR ?_
   rw[mF];exact he
  unfold Fld.frm
  by_cases c:rows.length=0
  ·rw[if_pos c]
   refine⟨h,go ?_,kg.refl _ _,hob⟩
   unfold bm agY
   rw[if_pos (by simp[hl,c])]
  ·rw[if_neg c]
   have oc:=fr.bt.ob fr.oc (fun a ha=>by cases ha;exact fr.nc.1)
   have hof:=fr.bt.ob fr.of (fun a ha=>by cases ha;exact fr.nc.2.2.1)
   have p0:(2:Nat)^next≤2^16:=Nat.pow_le_pow_right (by omega) (by omega)
   have p1:(2:Nat)^(next+1)=2^next*2:=Nat.pow_succ ..
   have hor:mask|||2^next<2^(next+1):=Nat.or_lt_two_pow (by omega) (by omega)
   obtain⟨h1,a1,a2,a3⟩:=ih (next+1) (mask|||2^next) rows s out h (by omega) hor hw hm ho fr hs hob
   have fr1:=fr.J6 a2
   have hs1:Yz (·≠ob) h1 s (rows.map vl):=hs.J6 a2 (fun b a hb ha=>by cases ha;exact fun e=>hb e.symm)
   have a8U:=fr1.bt.ob fr.of (fun a ha=>by cases ha;exact fr.nc.2.2.1)
   have a6L:=fr1.bt.ob fr.og (fun a ha=>by cases ha;exact fr.nc.2.2.2)
   have n1:=fr1.bt.1
   have ol:=fr.ol
   obtain⟨h2,s2,b1,b2,b3⟩:=akJ (fl:=h1.next) hg (P:=(·≠ob)) (fun b hb=>by omega) (fr1.gf _ fr1.bt) hs1 hw (i:=next) (by omega) (by omega) hm (Nat.le_refl _)
   have ob2:=a3.quiet b2
   obtain⟨h3,d1,d2,d3⟩:=ih (next+1) mask ((FD.aR hg).wo rows next) s2 ((FD.aR hg).frm d (next+1) rows (mask|||2^next) out) h2 (by omega) (by omega) ((FD.aR hg).arq hw next) (by have:=(FD.aR hg).aFx rows next;omega) (by rw[Fld.Bp];exact ho) (fr1.J6 (kg.ab4 b2)) b3 ob2
   refine⟨h3,go ?_,(a2.trans (kg.ab4 b2)).trans d2,d3⟩
   unfold bm agY
   rw[if_neg (by simp[hl];simpa using c),ae (oc.cell fr.c3),if_neg (by simp;omega)]
   have lv:∀{h:AH},OB h bf [.func (.func fn.bm) ⟨[]⟩ ⟨[.pointer (some ⟨bc,0,none⟩),.pointer (some ⟨bo,0,none⟩),.pointer (some ⟨bf,0,none⟩),.pointer (some ⟨bg,0,none⟩)]⟩]→∀{R:Type} (K:Value→Option R),ldV h bf 0 K=K (.func (.func fn.bm) ⟨[]⟩ ⟨[.pointer (some ⟨bc,0,none⟩),.pointer (some ⟨bo,0,none⟩),.pointer (some ⟨bf,0,none⟩),.pointer (some ⟨bg,0,none⟩)]⟩):=by
    intro h o R K
    unfold ldV
    rw[o.cell rfl]
   rw[lv hof,axh (by omega),aQn (by omega) (by omega),aH (next+1) (by push_cast;rfl) (by omega)]
   have cv:∀(s:Sl) (m n:Int) (h h':AH) (K:Value→AH→Option (Value×AH)),M fl fn.bm [.slice s.a s.l s.c,.int .i64 m,.int .i64 n,.pointer (some ⟨bc,0,none⟩),.pointer (some ⟨bo,0,none⟩),.pointer (some ⟨bf,0,none⟩),.pointer (some ⟨bg,0,none⟩)] h=some (.tuple ⟨[]⟩,h')→
    mh M fl (.func (.func fn.bm) ⟨[]⟩ ⟨[.pointer (some ⟨bc,0,none⟩),.pointer (some ⟨bo,0,none⟩),.pointer (some ⟨bf,0,none⟩),.pointer (some ⟨bg,0,none⟩)]⟩) [.slice s.a s.l s.c,.int .i64 m,.int .i64 n] h K=K (.tuple ⟨[]⟩) h':=by
    intro s m n h h' K e
    unfold mh
    simp only[List.nil_append,List.cons_append]
    rw[e]
   rw[cv _ _ _ _ _ _ a1]
   simp only[aE,aM]
   rw[lv a8U,CE (s:=some g) (a6L.cell rfl),ak b1]
   simp only[aX]
   rw[cv _ _ _ _ _ _ d1]
end
end Go.Abs.P
end
section
namespace Go.Abs.P
open Go.Abs Go.Fld
theorem _root_.Go.Abs.RR.lt{h:AH}{s:Sl}{rows:List (List Int)}(p:RR h s rows)(lZ:∀r∈rows,r≠[]):Yz (·<h.next) h s rows:=⟨p.len,fun i hi=>by
 obtain⟨a,t,h1,h2,h3,h4⟩:=p.get i hi
 exact⟨a,t,h1,h2,h2,h3,h4,fun q hq=>h4.lt (lZ _ (List.getElem_mem hi)) q hq⟩⟩
theorem aMR{fl:Nat}{h:AH}(v0:Value)(v:Nat→Value)(bR:fl≤h.next)(hv:De (v h.next)=true):∃h2,(∀{R:Type} (K:Nat→AH→Option R),(bJ h [v0] fun b h1=>st fl h1 ⟨b,0,none⟩ [v b] fun h2=>K b h2)=K h.next h2)∧OB h2 h.next [v h.next]∧an h h2:=by
 have o:=OB.alloc h [v0]
 refine⟨(h.alloc [v0]).put h.next (some [v h.next]),fun K=>?_,o.put _,(an.alloc ..).put (Nat.le_refl _) _⟩
 show st fl (h.alloc [v0]) ⟨h.next,0,none⟩ [v h.next] _=_
 rw[o.st bR (by simp) hv];rfl
structure COK(p m:Int)(xs:List Int)(n:Int)(rs:List (List Int))(D:FD)(gen:Nat)(hg:D.bh gen)(N:Nat)(rows:List (List (El D))):Prop where
 hF:IsF p m xs D
 en:n=(N:Int)
 n1:1≤N
 n64:N≤64
 er:rs=rows.map vl
 wid:Fld.jI N rows
 eq:((FD.aR hg).dU rows N).1=rows
 le:rows.length≤256
theorem CoE.zero{p m:Int}{xs:List Int}{n:Int}{rs:List (List Int)}(h:CoE p m xs n rs 0):∃(D:FD) (gen:Nat) (hg:D.bh gen) (N:Nat) (rows:List (List (El D))),COK p m xs n rs D gen hg N rows:=by
 cases h with
 |oz nf he=>omega
 |len f hn he=>omega
 |sp f hn he=>cases he with
  |oz nf he=>omega
  |bad D gen hF hg ne he=>exact absurd he.symm ne
  |form D gen hF hg rows er wid z ne he=>omega
  |ok D gen hF hg rows er wid z eq he=>
   obtain⟨z1,z2,z3,_⟩:=Cw z
   refine⟨D,gen,hg,n.toNat,rows,hF,by omega,by omega,by omega,er,wid,eq,?_⟩
   rw[er,List.length_map] at z3
   omega
def qA{D:FD}{gen:Nat}(hg:D.bh gen)(N:Nat)(rows:List (List (El D))):List Nat:=(FD.aR hg).frm N 0 rows 0 (List.replicate (2^N) 0)
@[simp] theorem aMS{D:FD}{gen:Nat}(hg:D.bh gen)(N:Nat)(rows:List (List (El D))):(qA hg N rows).length=2^N:=by unfold qA;rw[Fld.Bp];simp
inductive DiR (h':AH) (p m:Int) (xs:List Int) (n:Int) (rs:List (List Int)) (v:Value):Prop where
 |err (e:Int) (ce:CoE p m xs n rs e) (ne:e≠0) (hv:v=.tuple ⟨[.slice none 0 0,.int .i64 e]⟩)
 |big (ce:CoE p m xs n rs 0) (hn:16<n) (hv:v=.tuple ⟨[.slice none 0 0,.int .i64 8]⟩)
 |ok (D:FD) (gen:Nat) (hg:D.bh gen) (N:Nat) (rows:List (List (El D))) (ce:CoE p m xs n rs 0) (ck:COK p m xs n rs D gen hg N rows) (hN:N≤16) (s:Sl) (si:SI h' s (ints (qA hg N rows))) (hv:v=.tuple ⟨[.slice s.a s.l s.c,.int .i64 0]⟩)
section
variable{fl:Nat}{h:AH}{mod:Sl}{xs:List Int}
theorem azX(p m:Int)(bL:SI h mod xs)(hb:xs.length≤ow)(bR:fl≤h.next){n:Int}{s:Sl}{rs:List (List Int)}(hs:RR h s rs)(hm:rs.length≤65536)(hw:∀r∈rs,r.length≤65536):
 ∃(h':AH) (v:Value),M fl fn.gj [ca p m mod n s] h=some (v,h')∧an h h'∧DiR h' p m xs n rs v:=by
 have o1:=OB.alloc h [.int .i64 p,.int .i64 m,.slice mod.a mod.l mod.c,.int .i64 n,.slice s.a s.l s.c]
 have q1:=an.alloc h [.int .i64 p,.int .i64 m,.slice mod.a mod.l mod.c,.int .i64 n,.slice s.a s.l s.c]
 generalize eK:h.alloc [.int .i64 p,.int .i64 m,.slice mod.a mod.l mod.c,.int .i64 n,.slice s.a s.l s.c]=h1 at o1 q1
 have l1:=q1.1
 have go:∀{r},agS M fl 1 (fun y2 y3 q=>some (Value.tuple ⟨[.slice y2.a y2.l y2.c,.int .i64 y3]⟩,q)) p m mod n s h=some r→M fl fn.gj [ca p m mod n s] h=some r:=by
  intro r he
  refine bF (k:=1) (by decide) Eu ?_
  unfold ca
  rw[Ai];exact he
 obtain⟨h2,e,c1,c2,c3⟩:=apy (fl:=fl) p m (bL.quiet q1) hb (by omega) (n:=n) (hs.quiet q1) hm hw
 have q2:=q1.trans c2
 have o2:=o1.quiet c2
 have l2:=q2.1
 unfold ca at c1
 by_cases ze:e=0
 ·subst ze
  obtain⟨D,gen,hg,N,rows,ck⟩:=CoE.zero c3
  have en:=ck.en
  by_cases big:16<n
  ·refine⟨h2,_,go ?_,q2,.big c3 big rfl⟩
   unfold agS
   rw[bT eK,ae (o1.cell rfl),ae (o1.cell rfl),aq (s:=mod) (o1.cell rfl),ae (o1.cell rfl),aq (s:=s) (o1.cell rfl),ak c1]
   simp only[asInt,if_true]
   rw[if_neg (by simp),ae (o2.cell rfl),if_pos (by simpa using big)]
  ·obtain⟨h3,q3,hN⟩:=aem (fl:=fl) p m (bL.quiet q2) hb (by omega)
   rcases hN with⟨nf,_⟩|⟨D',EH,g,hF',gf,gb,eN⟩
   ·exact absurd ⟨D,gen,ck.hF,hg⟩ nf
   ·have eD:D'=D:=gJ hF' ck.hF
    subst eD
    have q03:=q2.trans q3
    have l3:=q03.1
    obtain⟨h4,k4,o4,q4⟩:=GI (fl:=fl) (h:=h3) (.pointer none) (.pointer (some g)) (by omega) rfl
    have q04:=q03.trans q4
    have l4:=q04.1
    have o5:=OB.alloc h4 (List.replicate (2^N) (Value.int .i64 0))
    have q5:=an.alloc h4 (List.replicate (2^N) (Value.int .i64 0))
    have hpw:(2:Nat)^N≤2^16:=Nat.pow_le_pow_right (by omega) (by omega)
    have hmk:=fun(K:Sl→AH→Option (Value×AH))=>j7 (bytes:=8) (v:=.int .i64 0) (n:=2^N) (by unfold kc;omega) h4 K
    have n45:(h4.alloc (List.replicate (2^N) (Value.int .i64 0))).next=h4.next+1:=rfl
    generalize h4.alloc (List.replicate (2^N) (Value.int .i64 0))=h5 at o5 q5 hmk n45
    obtain⟨h6,k6,o6,q6⟩:=GI (fl:=fl) (h:=h5) (.slice none 0 0) (.slice (some ⟨h4.next,0,none⟩) (2^N) (2^N)) (by omega) rfl
    have l6:=q6.1
    have l65:=o6.1
    obtain⟨h7,k7,o7,q7⟩:=aMR (fl:=fl) (h:=h6) .nilFunc (fun b=>.func (.func fn.bm) ⟨[]⟩ ⟨[.pointer (some ⟨h.next,0,none⟩),.pointer (some ⟨h5.next,0,none⟩),.pointer (some ⟨b,0,none⟩),.pointer (some ⟨h3.next,0,none⟩)]⟩) (by omega) rfl
    have l7:=q7.1
    have q37:=((q4.trans q5).trans q6).trans q7
    have q07:=q03.trans q37
    have n34:=o4.1
    have ol:=o1.1
    have fr:FR (D:=D') (fl:=fl) EH h7 h7 g h4.next h.next h5.next h6.next h3.next N [.int .i64 p,.int .i64 m,.slice mod.a mod.l mod.c,.int .i64 n,.slice s.a s.l s.c]:=
     ⟨kg.refl _ _,by rw[en];rfl,o2.quiet (q3.trans q37),o6.quiet q7,o7,o4.quiet ((q5.trans q6).trans q7),⟨by omega,by omega,by omega,by omega⟩,fun h' bt=>gf.quiet (bt.quiet q37 (fun a ha=>by cases ha;simp only;omega)),by omega,by omega⟩
    have hrs:Yz (·≠h4.next) h7 s (rows.map vl):=by
     have:=hs.lt (fun r hr=>by
      rw[ck.er] at hr
      obtain⟨r',hr',rfl⟩:=List.mem_map.1 hr
      intro e
      have h1:(vl r').length=0:=by rw[e];rfl
      have h2:=ck.wid r' hr'
      have h3:=ck.n1
      rw[iT] at h1;omega)
     rw[ck.er] at this
     exact(this.imp (fun b hb=>by omega)).quiet q07
    have er:List.replicate (2^N) (Value.int .i64 0)=iv (ints (List.replicate (2^N) 0)):=qM _
    rw[er] at o5
    have lle:=ck.le
    obtain⟨h8,f1,f2,f3⟩:=azW (fl:=fl) (gen:=EH) (g:=g) (show D'.bh EH from gf.agk) (h0:=h7) (by omega) N 0 0 rows s (List.replicate (2^N) 0) h7 (by omega) (by simp) ck.wid (by omega) (by simp) fr hrs ((o5.quiet q6).quiet q7)
    have q08:an h h8:=f2.quiet q07 (fun a ha=>by cases ha;simp only;omega)
    have f3':OB h8 h4.next (iv (ints (qA hg N rows))):=f3
    have sir:=f3'.si none (2^N)
    have hlen:(ints (qA hg N rows)).length=2^N:=by simp[ints]
    rw[hlen] at sir
    refine⟨h8,_,go ?_,q08,.ok D' gen hg N rows c3 ck (by omega) ⟨some ⟨h4.next,0,none⟩,2^N,2^N⟩ sir rfl⟩
    have o18:OB h4 h.next _:=(o2.quiet q3).quiet q4
    have o17:=o2.quiet (q3.trans q37)
    have o68:=f2.ob (o6.quiet q7) (fun a ha=>by cases ha;simp only[ne_eq];omega)
    unfold agS
    rw[bT eK,ae (o1.cell rfl),ae (o1.cell rfl),aq (s:=mod) (o1.cell rfl),ae (o1.cell rfl),aq (s:=s) (o1.cell rfl),ak c1]
    simp only[asInt,if_true]
    rw[if_neg (by simp),ae (o2.cell rfl),if_neg (by simpa using big),ae (o2.cell rfl),ae (o2.cell rfl),aq (s:=mod) (o2.cell rfl),ak eN]
    simp only[aE,ar,aM,ek,asInt,if_true]
    rw[k4,if_neg (by simp),ae (o18.cell rfl),en,axh (by omega),hmk,k6,k7]
    have lv:∀{R:Type} (K:Value→Option R),ldV h7 h6.next 0 K=K (.func (.func fn.bm) ⟨[]⟩ ⟨[.pointer (some ⟨h.next,0,none⟩),.pointer (some ⟨h5.next,0,none⟩),.pointer (some ⟨h6.next,0,none⟩),.pointer (some ⟨h3.next,0,none⟩)]⟩):=by
     intro R K
     unfold ldV
     rw[o7.cell rfl]
    rw[lv,aq (s:=s) (o17.cell rfl)]
    have f1':M fl fn.bm [.slice s.a s.l s.c,.int .i64 0,.int .i64 0,.pointer (some ⟨h.next,0,none⟩),.pointer (some ⟨h5.next,0,none⟩),.pointer (some ⟨h6.next,0,none⟩),.pointer (some ⟨h3.next,0,none⟩)] h7=some (.tuple ⟨[]⟩,h8):=f1
    unfold mh
    simp only[List.nil_append,List.cons_append]
    rw[f1']
    dsimp only
    rw[aq (s:=⟨some ⟨h4.next,0,none⟩,2^N,2^N⟩) (o68.cell rfl)]
 ·refine⟨h2,_,go ?_,q2,.err e c3 ze rfl⟩
  unfold agS
  rw[bT eK,ae (o1.cell rfl),ae (o1.cell rfl),aq (s:=mod) (o1.cell rfl),ae (o1.cell rfl),aq (s:=s) (o1.cell rfl),ak c1]
  simp only[asInt,if_true]
  rw[if_pos (by simpa using ze)]
end
end Go.Abs.P
end
section
namespace Go.Abs.P
open Go.Abs Go.Fld
def eJ(N mask:Nat):List Nat:=(List.range N).filter fun i=>decide (mask/2^i%2=1)
theorem vr(i mask:Nat):eJ (i+1) mask=eJ i mask++if mask/2^i%2=1 then [i] else []:=by
 unfold eJ
 rw[List.range_succ,List.filter_append]
 congr 1
 by_cases c:mask/2^i%2=1<;>simp[c]
theorem asw{i mask:Nat}(h:mask/2^i=0):∀d,eJ (i+d) mask=eJ i mask:=by
 intro d
 induction d with
 |zero=>rfl
 |succ d ih=>
  have hlt:mask<2^i:=by
   rcases Nat.div_eq_zero_iff.1 h with h|h
   ·have:=Nat.two_pow_pos i;omega
   ·exact h
  have h2:mask<2^(i+d):=Nat.lt_of_lt_of_le hlt (Nat.pow_le_pow_right (by omega) (by omega))
  rw[show i+(d+1)=i+d+1 from rfl,vr,ih,Nat.div_eq_of_lt h2];simp
theorem ahk(N mask:Nat):(eJ N mask).length≤N:=by
 have:=List.length_filter_le (fun i=>decide (mask/2^i%2=1)) (List.range N)
 rw[List.length_range] at this
 exact this
section
variable{fl:Nat}
theorem azY{R:Type}{k:Nat}(kn:ab R){h0:AH}{N mask:Nat}(hN:N≤60)(ahr:mask<2^N)(bR:fl≤h0.next):
 ∀(d i f:Nat) (s:Sl) (h:AH),i+d=N→d<f→OV h0.next h s (iv (ints (eJ i mask)))→an h0 h→
 ∃h' s',qh M fl k kn f (mask:Int) s (i:Int) h=kn s' h'∧OV h0.next h' s' (iv (ints (eJ N mask)))∧an h0 h':=by
 intro d
 induction d with
 |zero=>
  intro i f s h hi hf ho hq
  obtain⟨f,rfl⟩:∃j,f=j+1:=⟨f-1,by omega⟩
  obtain rfl:i=N:=by omega
  refine⟨h,s,?_,ho,hq⟩
  show tT M fl k _ _ _ _ _ h=_
  unfold tT Aj
  rw[akK (by omega),Nat.div_eq_of_lt ahr,if_neg (by simp)]
 |succ d ih=>
  intro i f s h hi hf ho hq
  obtain⟨f,rfl⟩:∃j,f=j+1:=⟨f-1,by omega⟩
  have un:qh M fl k kn (f+1) (mask:Int) s (i:Int) h=tT M fl k (qh M fl k kn f) kn (mask:Int) s (i:Int) h:=rfl
  rw[un]
  unfold tT Aj
  rw[akK (by omega)]
  by_cases c:mask/2^i=0
  ·rw[c,if_neg (by simp)]
   have:=asw c (d+1)
   rw[hi] at this
   exact⟨h,s,rfl,by rw[this];exact ho,hq⟩
  ·have hlt:mask/2^i<2^62:=by
    have h1:(2:Nat)^N≤2^60:=Nat.pow_le_pow_right (by omega) hN
    have h2:=Nat.div_le_self mask (2^i)
    omega
   rw[if_pos (by simp only[decide_eq_true_eq];exact Int.natCast_pos.2 (Nat.pos_of_ne_zero c)),akK (by omega),aFw hlt]
   have n0:=hq.1
   by_cases c1:mask/2^i%2=1
   ·rw[if_pos (by simp[c1])]
    have hll:=ahk i mask
    obtain⟨s6,h7,v1,v2,v3,v4⟩:=ho.push (R:=R) (fl:=fl) (bytes:=8) (x:=.int .i64 (i:Int)) bR (by omega) (by unfold kc;simp[iv,ints];omega) rfl (fun s6 h7=>xq M fl k (qh M fl k kn f) kn (mask:Int) s6 (i:Int) h7)
    have e1:iv (ints (eJ i mask))++[Value.int .i64 (i:Int)]=iv (ints (eJ (i+1) mask)):=by rw[vr,if_pos c1,kh,nK];rfl
    rw[e1] at v2
    obtain⟨h',s',r1,r2,r3⟩:=ih (i+1) f s6 h7 (by omega) (by omega) v2 (v3.quiet hq (fun a ha=>ho.ge a ha))
    refine⟨h',s',?_,r2,r3⟩
    refine Eq.trans v1 ?_
    unfold xq
    rw[aH (i+1) (by push_cast;rfl) (by omega)]
    exact r1
   ·rw[if_neg (by simp only[beq_iff_eq];exact fun e=>c1 (by exact_mod_cast e))]
    unfold xq
    rw[aH (i+1) (by push_cast;rfl) (by omega)]
    exact ih (i+1) f s h (by omega) (by omega) (by rw[vr,if_neg c1,List.append_nil];exact ho) hq
theorem azZ{h:AH}{N mask:Nat}(hN:N≤60)(ahr:mask<2^N)(bR:fl≤h.next):
 ∃h' s',M fl fn.ij [.int .i64 (mask:Int)] h=some (.slice s'.a s'.l s'.c,h')∧OV h.next h' s' (iv (ints (eJ N mask)))∧an h h':=by
 obtain⟨h',s',e1,e2,e3⟩:=azY (fl:=fl) (k:=N+1) (UH M fl (N+1) (fun y2 q=>some (Value.slice y2.a y2.l y2.c,q))) hN ahr bR N 0 (N+1) ⟨none,0,0⟩ h (by omega) (by omega) (OV.nil _ _) (an.refl h)
 refine⟨h',s',bF (k:=N+1) (by decide) Ev ?_,e2,e3⟩
 rw[Ak]
 unfold ij aCj air aiq
 exact e1
def fz(N:Nat)(L:List Nat):Nat→List Nat
 |0=>List.replicate (N+1) 0
 |j+1=>(fz N L j).set (eJ N j).length (if L.getD j 0>(fz N L j).getD (eJ N j).length 0 then L.getD j 0 else (fz N L j).getD (eJ N j).length 0)
@[simp] theorem sS(N:Nat)(L:List Nat):∀j,(fz N L j).length=N+1
  |0=>by simp[fz]
  |j+1=>by unfold fz;rw[List.length_set];exact sS N L j
theorem az0{R:Type}{k:Nat}(kn:ab R){h0:AH}{b cp N:Nat}{s:Sl}{L:List Nat}(hs:SI h0 s (ints L))(hL:L.length=2^N)(hN:N≤16)(hb:h0.next≤b)(bR:fl≤h0.next):
 ∀(d j f:Nat) (h:AH),j+d=2^N→d<f→OB h b (iv (ints (fz N L j)))→an h0 h→
 ∃h',tK M fl k kn f ⟨some ⟨b,0,none⟩,N+1,cp⟩ s ((2^N:Nat):Int) (j:Int) h=kn ⟨some ⟨b,0,none⟩,N+1,cp⟩ h'∧OB h' b (iv (ints (fz N L (2^N))))∧an h0 h':=by
 have hpw:(2:Nat)^N≤2^16:=Nat.pow_le_pow_right (by omega) (by omega)
 intro d
 induction d with
 |zero=>
  intro j f h hj hf ho hq
  obtain⟨f,rfl⟩:∃j,f=j+1:=⟨f-1,by omega⟩
  obtain rfl:j=2^N:=by omega
  refine⟨h,?_,ho,hq⟩
  show tJ M fl k _ _ _ _ _ _ h=_
  unfold tJ
  rw[if_neg (by simp)]
 |succ d ih=>
  intro j f h hj hf ho hq
  obtain⟨f,rfl⟩:∃j,f=j+1:=⟨f-1,by omega⟩
  have Qk:j<2^N:=by omega
  have un:tK M fl k kn (f+1) ⟨some ⟨b,0,none⟩,N+1,cp⟩ s ((2^N:Nat):Int) (j:Int) h=tJ M fl k (tK M fl k kn f) kn ⟨some ⟨b,0,none⟩,N+1,cp⟩ s ((2^N:Nat):Int) (j:Int) h:=rfl
  rw[un]
  unfold tJ
  have n0:=hq.1
  rw[if_pos (by simp only[decide_eq_true_eq];exact_mod_cast Qk),(hs.quiet hq).read (i:=(j:Int)) (by omega) (by simp[ints,hL];omega)]
  obtain⟨h4,s5,a1,a2,a3⟩:=azZ (fl:=fl) (h:=h) (N:=N) (by omega) Qk (by omega)
  rw[ak a1]
  simp only[aX,Int.toNat_natCast,dW]
  have T9:s5.l=(eJ N j).length:=by rw[a2.len];simp[iv,ints]
  have hcn:=ahk N j
  have ho4:=ho.quiet a3
  have hgl:L.getD j 0=L[j]'(by omega):=by rw[List.getD_eq_getElem?_getD,List.getElem?_eq_getElem (by omega)];rfl
  have hgp:(fz N L j).getD (eJ N j).length 0=(fz N L j)[(eJ N j).length]'(by rw[sS];omega):=by rw[List.getD_eq_getElem?_getD,List.getElem?_eq_getElem (by rw[sS];omega)];rfl
  rw[T9,bC rfl (show(eJ N j).length<N+1 by omega)]
  dsimp only
  rw[ae (n:=((fz N L j).getD (eJ N j).length 0:Nat)) (ho4.cell (by
   rw[Nat.zero_add,M1 _ _ (by simp[ints];omega),dW,hgp]))]
  rw[bC rfl (show(eJ N j).length<N+1 by omega)]
  have hv:(if ((L[j]'(by omega):Nat):Int)>((fz N L j).getD (eJ N j).length 0:Nat) then ((L[j]'(by omega):Nat):Int) else ((fz N L j).getD (eJ N j).length 0:Nat))=((if L.getD j 0>(fz N L j).getD (eJ N j).length 0 then L.getD j 0 else (fz N L j).getD (eJ N j).length 0:Nat):Int):=by
   rw[hgl]
   by_cases c:L[j]'(by omega)>(fz N L j).getD (eJ N j).length 0
   ·rw[if_pos c,if_pos (by omega)]
   ·rw[if_neg c,if_neg (by omega)]
  rw[hv,ho4.st (by omega) (by simp[iv,ints];omega) rfl,Nat.zero_add,lu,ints_set,aH (j+1) (by push_cast;rfl) (by omega)]
  exact ih (j+1) f _ (by omega) (by omega) (ho4.put _) ((hq.trans a3).put hb _)
inductive PrR (h':AH) (p m:Int) (xs:List Int) (n:Int) (rs:List (List Int)) (f:∀(D:FD) (gen:Nat) (_:D.bh gen) (N:Nat) (_:List (List (El D))),List Int) (v:Value):Prop where
 |err (e:Int) (ce:CoE p m xs n rs e) (ne:e≠0) (hv:v=.tuple ⟨[.slice none 0 0,.int .i64 e]⟩)
 |big (ce:CoE p m xs n rs 0) (hn:16<n) (hv:v=.tuple ⟨[.slice none 0 0,.int .i64 8]⟩)
 |ok (D:FD) (gen:Nat) (hg:D.bh gen) (N:Nat) (rows:List (List (El D))) (ce:CoE p m xs n rs 0) (ck:COK p m xs n rs D gen hg N rows) (hN:N≤16) (s:Sl) (si:SI h' s (f D gen hg N rows)) (hv:v=.tuple ⟨[.slice s.a s.l s.c,.int .i64 0]⟩)
def axj(D:FD)(gen:Nat)(hg:D.bh gen)(N:Nat)(rows:List (List (El D))):List Int:=ints (fz N (qA hg N rows) (2^N))
variable{h:AH}{mod:Sl}{xs:List Int}
theorem TO(p m:Int)(bL:SI h mod xs)(hb:xs.length≤ow)(bR:fl≤h.next){n:Int}{s:Sl}{rs:List (List Int)}(hs:RR h s rs)(hm:rs.length≤65536)(hw:∀r∈rs,r.length≤65536):
 ∃(h':AH) (v:Value),M fl fn.dG [ca p m mod n s] h=some (v,h')∧an h h'∧PrR h' p m xs n rs axj v:=by
 have o1:=OB.alloc h [.int .i64 p,.int .i64 m,.slice mod.a mod.l mod.c,.int .i64 n,.slice s.a s.l s.c]
 have q1:=an.alloc h [.int .i64 p,.int .i64 m,.slice mod.a mod.l mod.c,.int .i64 n,.slice s.a s.l s.c]
 generalize eK:h.alloc [.int .i64 p,.int .i64 m,.slice mod.a mod.l mod.c,.int .i64 n,.slice s.a s.l s.c]=h1 at o1 q1
 have l1:=q1.1
 have go:∀{k r},agO M fl k (fun y2 y3 q=>some (Value.tuple ⟨[.slice y2.a y2.l y2.c,.int .i64 y3]⟩,q)) p m mod n s h=some r→M fl fn.dG [ca p m mod n s] h=some r:=by
  intro k r he
  refine bF (k:=k) (by decide) yG ?_
  unfold ca
  rw[tg];exact he
 obtain⟨h2,v,c1,c2,c3⟩:=azX (fl:=fl) p m (bL.quiet q1) hb (by omega) (n:=n) (hs.quiet q1) hm hw
 have q2:=q1.trans c2
 have o2:=o1.quiet c2
 have l2:=q2.1
 unfold ca at c1
 cases c3 with
 |err e ce ne hv=>
  subst hv
  refine⟨h2,_,go (k:=1) ?_,q2,.err e ce ne rfl⟩
  unfold agO Uy
  rw[bT eK,ae (o1.cell rfl),ae (o1.cell rfl),aq (s:=mod) (o1.cell rfl),ae (o1.cell rfl),aq (s:=s) (o1.cell rfl),ak c1]
  simp only[aE,ar,aM,aX,asInt,if_true]
  rw[if_pos (by simpa using ne)]
 |big ce hn hv=>
  subst hv
  refine⟨h2,_,go (k:=1) ?_,q2,.big ce hn rfl⟩
  unfold agO Uy
  rw[bT eK,ae (o1.cell rfl),ae (o1.cell rfl),aq (s:=mod) (o1.cell rfl),ae (o1.cell rfl),aq (s:=s) (o1.cell rfl),ak c1]
  simp only[aE,ar,aM,aX,asInt,if_true]
  rw[if_pos (by simp)]
 |ok D gen hg N rows ce ck hN t si hv=>
  subst hv
  obtain⟨ta,tl,tc⟩:=t
  have hl:tl=2^N:=by have:=si.len;simpa [ints] using this
  subst hl
  have en:=ck.en
  have o3:=OB.alloc h2 (List.replicate (N+1) (Value.int .i64 0))
  have q3:=an.alloc h2 (List.replicate (N+1) (Value.int .i64 0))
  have hmk:=fun(K:Sl→AH→Option (Value×AH))=>j7 (bytes:=8) (v:=.int .i64 0) (n:=N+1) (by unfold kc;omega) h2 K
  generalize h2.alloc (List.replicate (N+1) (Value.int .i64 0))=h3 at o3 q3 hmk
  rw[qM] at o3
  obtain⟨h4,e1,e2,e3⟩:=az0 (fl:=fl) (k:=2^N+1) (cp:=N+1) (Ux M fl (2^N+1) (fun y2 y3 q=>some (Value.tuple ⟨[.slice y2.a y2.l y2.c,.int .i64 y3]⟩,q))) (h0:=h2) (b:=h2.next) si (by simp) hN (Nat.le_refl _) (by omega) (2^N) 0 (2^N+1) h3 (by omega) (by omega) o3 q3
  have sir:=e2.si none (N+1)
  have hlen:(ints (fz N (qA hg N rows) (2^N))).length=N+1:=by simp[ints]
  rw[hlen] at sir
  refine⟨h4,_,go (k:=2^N+1) ?_,q2.trans e3,.ok D gen hg N rows ce ck hN ⟨some ⟨h2.next,0,none⟩,N+1,N+1⟩ sir rfl⟩
  unfold agO Uy ah4
  rw[bT eK,ae (o1.cell rfl),ae (o1.cell rfl),aq (s:=mod) (o1.cell rfl),ae (o1.cell rfl),aq (s:=s) (o1.cell rfl),ak c1]
  simp only[aE,ar,aM,aX,asInt,if_true]
  rw[if_neg (by simp),ae (o2.cell rfl),en,aH (N+1) (by push_cast;rfl) (by omega),hmk]
  exact e1
end
end Go.Abs.P
end
section
namespace Go.Abs.P
open Go.Abs Go.Fld
def asx(P:List Nat)(r:Nat):Int:=if P.findIdx (fun d=>decide (r≤d))<P.length then ((P.findIdx (fun d=>decide (r≤d)):Nat):Int) else-1
def aes(P:List Nat)(k:Nat):List Int:=(List.range k).map fun r=>asx P (r+1)
theorem az1(P:List Nat)(k:Nat):aes P (k+1)=aes P k++[asx P (k+1)]:=by
 unfold aes;rw[List.range_succ,List.map_append];rfl
section
variable{fl:Nat}{h:AH}
theorem asy{R:Type}{k:Nat}(kn:au R)(kr:ah R){bx r:Nat}{P:List Nat}{s:Sl}(hx:OB h bx [.int .i64 (r:Int)])(hs:SI h s (ints P))(hm:P.length≤65536):
 ∀(d j m:Nat),j+d=P.length→d<m→(∀j' (_:j'<j) (hj:j'<P.length),decide (r≤P[j'])=false)→
 Dx M fl k kn kr m s (.func (.func fn.cZ) ⟨[]⟩ ⟨[.pointer (some ⟨bx,0,none⟩)]⟩) (P.length:Int) (j:Int) h=
  if P.findIdx (fun d=>decide (r≤d))<P.length then kr ((P.findIdx (fun d=>decide (r≤d)):Nat):Int) h else kn h:=by
 intro d
 induction d with
 |zero=>
  intro j m hj hm' hp
  obtain⟨m,rfl⟩:∃j,m=j+1:=⟨m-1,by omega⟩
  show tR M fl k _ _ kr _ _ _ _ h=_
  unfold tR
  rw[if_neg (by simp;omega),if_neg]
  intro hlt
  have h1:=List.findIdx_getElem (w:=hlt)
  have h2:=hp _ (by omega) hlt
  rw[h2] at h1;cases h1
 |succ d ih=>
  intro j m hj hm' hp
  obtain⟨m,rfl⟩:∃j,m=j+1:=⟨m-1,by omega⟩
  have Qk:j<P.length:=by omega
  show tR M fl k _ _ kr _ _ _ _ h=_
  unfold tR
  rw[if_pos (by simp;omega),hs.read (by omega) (by simp[ints];exact Qk)]
  simp only[Int.toNat_natCast,dW]
  have run:M fl fn.cZ [.int .i64 (P[j]:Nat),.pointer (some ⟨bx,0,none⟩)] h=some (.bool (decide (r≤P[j])),h):=by
   refine bF (k:=1) (by decide) tw ?_
   rw[qg]
   unfold cZ aCc
   rw[ae (hx.cell rfl)]
   have:decide (((P[j]:Nat):Int)≥(r:Int))=decide (r≤P[j]):=by
    by_cases c:r≤P[j]
    ·rw[decide_eq_true c,decide_eq_true (by omega)]
    ·rw[decide_eq_false c,decide_eq_false (by omega)]
   rw[this]
  unfold mh
  simp only[List.nil_append]
  rw[show([Value.int .i64 ((P[j]:Nat):Int)]++[Value.pointer (some ⟨bx,0,none⟩)])=[.int .i64 (P[j]:Nat),.pointer (some ⟨bx,0,none⟩)] from rfl,run]
  simp only[asBool]
  by_cases hz:r≤P[j]
  ·rw[if_pos (by simpa using hz)]
   have hf:P.findIdx (fun d=>decide (r≤d))=j:=by
    rw[List.findIdx_eq Qk]
    exact⟨by simpa using hz,fun j' h1=>hp j' h1 (by omega)⟩
   rw[hf,if_pos Qk]
  ·rw[if_neg (by simpa using hz),aH (j+1) (by push_cast;rfl) (by omega)]
   refine ih (j+1) m (by omega) (by omega) ?_
   intro j' h1 h2
   by_cases e:j'=j
   ·subst e;simpa using hz
   ·exact hp j' (by omega) h2
theorem asz{bx r:Nat}{P:List Nat}{s:Sl}(hx:OB h bx [.int .i64 (r:Int)])(hs:SI h s (ints P))(hm:P.length≤65536):
 M fl fn.cY [.slice s.a s.l s.c,.func (.func fn.cZ) ⟨[]⟩ ⟨[.pointer (some ⟨bx,0,none⟩)]⟩] h=some (.int .i64 (asx P r),h):=by
 have:=asy (fl:=fl) (k:=P.length+1) (UF M fl (P.length+1) (fun y4 q=>some (Value.int .i64 y4,q))) (fun y4 q=>some (Value.int .i64 y4,q)) hx hs hm P.length 0 (P.length+1) (by omega) (by omega) (fun j' h1=>by omega)
 refine bF (k:=P.length+1) (by decide) tv ?_
 rw[qf]
 unfold cY aCa aik aij
 have hl:s.l=P.length:=by rw[hs.len];simp[ints]
 rw[hl]
 refine Eq.trans this ?_
 unfold asx
 split<;>rfl
theorem aFz{R:Type}{k:Nat}(kn:ab R){h0:AH}{bc K:Nat}{cs:List Value}{g s:Sl}{P:List Nat}(hc:OB h0 bc cs)(c4:cs[4]?=some (.slice g.a g.l g.c))(hg:g.l=K)(hK:K≤65536)(hs:SI h0 s (ints P))(hP:P.length≤65536)(bR:fl≤h0.next):
 ∀(d j f:Nat) (t:Sl) (br:Nat) (h:AH),j+d=K→d<f→OV h0.next h t (iv (aes P j))→an h0 h→OB h br [.int .i64 ((j+1:Nat):Int)]→(∀a,t.a=some a→a.block≠br)→
 ∃h' t',qc M fl k kn f ⟨bc,0,none⟩ s t ⟨br,0,none⟩ h=kn t' h'∧OV h0.next h' t' (iv (aes P K))∧an h0 h':=by
 intro d
 induction d with
 |zero=>
  intro j f t br h hj hf ho hq hb lZ
  obtain⟨f,rfl⟩:∃j,f=j+1:=⟨f-1,by omega⟩
  obtain rfl:j=K:=by omega
  refine⟨h,t,?_,ho,hq⟩
  show tH M fl k _ _ _ _ _ _ h=_
  unfold tH
  rw[ae (hb.cell rfl),aq (s:=g) ((hc.quiet hq).cell (by rw[Nat.zero_add];exact c4)),if_neg (by simp;omega)]
 |succ d ih=>
  intro j f t br h hj hf ho hq hb lZ
  obtain⟨f,rfl⟩:∃j,f=j+1:=⟨f-1,by omega⟩
  have un:qc M fl k kn (f+1) ⟨bc,0,none⟩ s t ⟨br,0,none⟩ h=tH M fl k (qc M fl k kn f) kn ⟨bc,0,none⟩ s t ⟨br,0,none⟩ h:=rfl
  rw[un]
  unfold tH
  have n0:=hq.1
  rw[ae (hb.cell rfl),aq (s:=g) ((hc.quiet hq).cell (by rw[Nat.zero_add];exact c4)),if_pos (by simp;omega),ak (asz hb (hs.quiet hq) hP)]
  simp only[asInt,if_true]
  obtain⟨t',h9,v1,v2,v3,v4⟩:=ho.push (R:=R) (fl:=fl) (bytes:=8) (x:=.int .i64 (asx P (j+1))) bR (by omega) (by unfold kc;simp[iv,aes];omega) rfl
   (fun s8 h9=>aF .i64 h9 br 0 fun mb=>bJ h9 [.int .i64 0] fun b11 zN=>st fl zN ⟨b11,0,none⟩ [.int .i64 mb] fun qB=>aF .i64 qB b11 0 fun Bv=>st fl qB ⟨b11,0,none⟩ [.int .i64 (av (Bv+1))] fun nX=>qc M fl k kn f ⟨bc,0,none⟩ s s8 ⟨b11,0,none⟩ nX)
  rw[v1]
  have e1:iv (aes P j)++[Value.int .i64 (asx P (j+1))]=iv (aes P (j+1)):=by rw[az1,nK];rfl
  rw[e1] at v2
  have hb9:=v3.ob hb (fun a ha=>lZ a ha)
  have q9:=v3.quiet hq (fun a ha=>ho.ge a ha)
  have n9:=q9.1
  rw[ae (hb9.cell rfl)]
  obtain⟨qB,k13,o13,q13⟩:=GI (fl:=fl) (h:=h9) (.int .i64 0) (.int .i64 ((j+1:Nat):Int)) (by omega) rfl
  rw[k13,ae (o13.cell rfl),o13.st (by omega) (by simp) rfl,aH (j+2) (by push_cast;omega) (by omega)]
  have q15:an h9 (qB.put h9.next (some [.int .i64 ((j+2:Nat):Int)])):=q13.put (Nat.le_refl _) _
  exact ih (j+1) f t' h9.next _ (by omega) (by omega) (v2.quiet q15) (q9.trans q15) (o13.put _) (fun a ha=>by have:=OV.lt v2 a ha;simp only[ne_eq];omega)
def aMT(D:FD)(gen:Nat)(hg:D.bh gen)(N:Nat)(rows:List (List (El D))):List Int:=aes (fz N (qA hg N rows) (2^N)) rows.length
variable{mod:Sl}{xs:List Int}
theorem akL(p m:Int)(bL:SI h mod xs)(hb:xs.length≤ow)(bR:fl≤h.next){n:Int}{s:Sl}{rs:List (List Int)}(hs:RR h s rs)(hm:rs.length≤65536)(hw:∀r∈rs,r.length≤65536):
 ∃(h':AH) (v:Value),M fl fn.eP [ca p m mod n s] h=some (v,h')∧an h h'∧PrR h' p m xs n rs aMT v:=by
 have o1:=OB.alloc h [.int .i64 p,.int .i64 m,.slice mod.a mod.l mod.c,.int .i64 n,.slice s.a s.l s.c]
 have q1:=an.alloc h [.int .i64 p,.int .i64 m,.slice mod.a mod.l mod.c,.int .i64 n,.slice s.a s.l s.c]
 generalize eK:h.alloc [.int .i64 p,.int .i64 m,.slice mod.a mod.l mod.c,.int .i64 n,.slice s.a s.l s.c]=h1 at o1 q1
 have l1:=q1.1
 have go:∀{k r},agN M fl k (fun y2 y3 q=>some (Value.tuple ⟨[.slice y2.a y2.l y2.c,.int .i64 y3]⟩,q)) p m mod n s h=some r→M fl fn.eP [ca p m mod n s] h=some r:=by
  intro k r he
  refine bF (k:=k) (by decide) yF ?_
  unfold ca
  rw[te];exact he
 obtain⟨h2,v,c1,c2,c3⟩:=TO (fl:=fl) p m (bL.quiet q1) hb (by omega) (n:=n) (hs.quiet q1) hm hw
 have q2:=q1.trans c2
 have o2:=o1.quiet c2
 have l2:=q2.1
 unfold ca at c1
 cases c3 with
 |err e ce ne hv=>
  subst hv
  refine⟨h2,_,go (k:=1) ?_,q2,.err e ce ne rfl⟩
  unfold agN Uu
  rw[bT eK,ae (o1.cell rfl),ae (o1.cell rfl),aq (s:=mod) (o1.cell rfl),ae (o1.cell rfl),aq (s:=s) (o1.cell rfl),ak c1]
  simp only[aE,ar,aM,aX,asInt,if_true]
  rw[if_pos (by simpa using ne)]
 |big ce hn hv=>
  subst hv
  refine⟨h2,_,go (k:=1) ?_,q2,.big ce hn rfl⟩
  unfold agN Uu
  rw[bT eK,ae (o1.cell rfl),ae (o1.cell rfl),aq (s:=mod) (o1.cell rfl),ae (o1.cell rfl),aq (s:=s) (o1.cell rfl),ak c1]
  simp only[aE,ar,aM,aX,asInt,if_true]
  rw[if_pos (by simp)]
 |ok D gen hg N rows ce ck hN t si hv=>
  subst hv
  have hle:=ck.le
  have T9:s.l=rows.length:=by rw[hs.len,ck.er,List.length_map]
  obtain⟨h3,k3,o3,q3⟩:=GI (fl:=fl) (h:=h2) (.int .i64 0) (.int .i64 1) (by omega) rfl
  obtain⟨h4,t',e1,e2,e3⟩:=aFz (fl:=fl) (k:=rows.length+1) (Ut M fl (rows.length+1) (fun y2 y3 q=>some (Value.tuple ⟨[.slice y2.a y2.l y2.c,.int .i64 y3]⟩,q))) (h0:=h3) (g:=s) (K:=rows.length) (o2.quiet q3) rfl T9 (by omega) (si.quiet q3) (by simp;omega) (by have:=q3.1;omega) rows.length 0 (rows.length+1) ⟨none,0,0⟩ h2.next h3 (by omega) (by omega) (OV.nil _ _) (an.refl _) o3 (fun a ha=>by cases ha)
  refine⟨h4,_,go (k:=rows.length+1) ?_,(q2.trans q3).trans e3,.ok D gen hg N rows ce ck hN t' e2.si rfl⟩
  unfold agN Uu ah0
  rw[bT eK,ae (o1.cell rfl),ae (o1.cell rfl),aq (s:=mod) (o1.cell rfl),ae (o1.cell rfl),aq (s:=s) (o1.cell rfl),ak c1]
  simp only[aE,ar,aM,aX,asInt,if_true]
  rw[if_neg (by simp),k3]
  exact e1
end
end Go.Abs.P
end
section
namespace Go.Abs.P
open Go.Abs Go.Fld
def agf(N:Nat)(l:List Nat):List Nat:=(List.range N).filter fun i=>decide (i∉l)
theorem agh(l:List Nat):∀d i,kW (ints l) i d=ints ((List.range' i d).filter fun i=>decide (i∉l)):=by
 intro d
 induction d with
 |zero=>intro i;rfl
 |succ d ih=>
  intro i
  unfold kW
  rw[ih,List.range'_succ,List.filter_cons]
  have hm:((i:Int)∈ints l)↔i∈l:=by
   unfold ints
   rw[List.mem_map]
   constructor
   ·rintro⟨a,h1,h2⟩
    have:a=i:=by simp at h2;omega
    exact this▸h1
   ·intro h;exact⟨i,h,rfl⟩
  by_cases c:i∈l
  ·rw[if_pos (hm.2 c),if_neg (by simpa using c)];rfl
  ·rw[if_neg (fun h=>c (hm.1 h)),if_pos (by simpa using c)];rfl
theorem aMU(N:Nat)(l:List Nat):kW (ints l) 0 N=ints (agf N l):=by
 unfold agf
 rw[agh,List.range_eq_range']
theorem aFA(N:Nat)(l:List Nat):(agf N l).length≤N:=by
 have:=List.length_filter_le (fun i=>decide (i∉l)) (List.range N)
 rw[List.length_range] at this
 exact this
theorem aMV{N:Nat}{l:List Nat}{o:Nat}(h:o∈agf N l):o<N:=List.mem_range.1 (List.mem_filter.1 h).1
section
variable{D:FD}{gen:Nat}(hg:D.bh gen){mod:Sl}{h:AH}{fl:Nat}
theorem az2{R:Type}{k:Nat}{h0:AH}{b w:Nat}(kn:ab R){s t:Sl}{r:List (El D)}{os:List Nat}(hs:SI h0 s (vl r))(ht:SI h0 t (ints os))(hr:r.length=w)(hos:∀o∈os,o<w)(hb:h0.next≤b)(bR:fl≤h0.next)(hm:os.length≤65536):
 ∀(d i f:Nat) (h:AH),i+d=os.length→d<f→OB h b (iv (vl ((FD.aR hg).xC (os.take i) r)++List.replicate d 0))→an h0 h→
 ∃h',u3 M fl k kn f s t ⟨some ⟨b,0,none⟩,os.length,os.length⟩ (i:Int) h=kn ⟨some ⟨b,0,none⟩,os.length,os.length⟩ h'∧OB h' b (iv (vl ((FD.aR hg).xC os r)))∧an h0 h':=by
 intro d
 induction d with
 |zero=>
  intro i f h hi hf ho hq
  obtain⟨f,rfl⟩:∃j,f=j+1:=⟨f-1,by omega⟩
  rw[List.take_of_length_le (by omega),List.replicate_zero,List.append_nil] at ho
  refine⟨h,?_,ho,hq⟩
  show u2 M fl k _ _ _ _ _ _ h=_
  unfold u2
  rw[if_neg (by simp[ht.len,ints];omega)]
 |succ d ih=>
  intro i f h hi hf ho hq
  obtain⟨f,rfl⟩:∃j,f=j+1:=⟨f-1,by omega⟩
  have hio:i<os.length:=by omega
  have ho1:os[i]<r.length:=by rw[hr];exact hos _ (List.getElem_mem hio)
  have un:u3 M fl k kn (f+1) s t ⟨some ⟨b,0,none⟩,os.length,os.length⟩ (i:Int) h=u2 M fl k (u3 M fl k kn f) kn s t ⟨some ⟨b,0,none⟩,os.length,os.length⟩ (i:Int) h:=rfl
  rw[un]
  unfold u2
  rw[if_pos (by simp[ht.len,ints];omega),(ht.quiet hq).read (by omega) (by simp[ints];exact hio)]
  simp only[Int.toNat_natCast,dW]
  rw[(hs.quiet hq).read (by omega) (by simp;exact ho1)]
  simp only[Int.toNat_natCast,mQ]
  have hl:(vl ((FD.aR hg).xC (os.take i) r)).length=i:=by simp[vl,Fld.xC];omega
  have nV:(iv (vl ((FD.aR hg).xC (os.take i) r)++List.replicate (d+1) 0)).set i (.int .i64 (ve r[os[i]]))=iv (vl ((FD.aR hg).xC (os.take (i+1)) r)++List.replicate d 0):=by
   rw[lu,List.set_append_right _ _ (by omega),hl,Nat.sub_self,List.replicate_succ,List.set_cons_zero,List.take_succ_eq_append_getElem hio]
   have:(FD.aR hg).xC (os.take i++[os[i]]) r=(FD.aR hg).xC (os.take i) r++[r[os[i]]]:=by
    unfold Fld.xC
    rw[List.map_append,List.map_cons,List.map_nil,List.getD_eq_getElem?_getD,List.getElem?_eq_getElem ho1];rfl
   rw[this,zM];simp[vl]
  rw[bC rfl (show i<os.length from hio),ho.st (by omega) (by simp only[iv,List.length_map,List.length_append,hl,List.length_replicate];omega) rfl,Nat.zero_add,nV,aH (i+1) (by push_cast;rfl) (by omega)]
  exact ih (i+1) f _ (by omega) (by omega) (ho.put _) (hq.put hb _)
theorem az3{w:Nat}{s t:Sl}{r:List (El D)}{os:List Nat}(hs:SI h s (vl r))(ht:SI h t (ints os))(hr:r.length=w)(hos:∀o∈os,o<w)(bR:fl≤h.next)(hm:os.length≤65536):
 ∃h',M fl fn.zY [.slice s.a s.l s.c,.slice t.a t.l t.c] h=some (.slice (some ⟨h.next,0,none⟩) os.length os.length,h')∧OB h' h.next (iv (vl ((FD.aR hg).xC os r)))∧an h h':=by
 have o1:=OB.alloc h (List.replicate os.length (Value.int .i64 0))
 have q1:=an.alloc h (List.replicate os.length (Value.int .i64 0))
 have e0:List.replicate os.length (Value.int .i64 0)=iv (vl ((FD.aR hg).xC (os.take 0) r)++List.replicate os.length 0):=by simp[iv,vl,Fld.xC]
 rw[e0] at o1 q1
 obtain⟨h',e1,e2,e3⟩:=az2 (fl:=fl) (k:=os.length+1) hg (Vq M fl (os.length+1) (fun y4 q=>some (Value.slice y4.a y4.l y4.c,q))) hs ht hr hos (Nat.le_refl _) bR hm os.length 0 (os.length+1) _ (by omega) (by omega) o1 q1
 refine⟨h',bF (k:=os.length+1) (by decide) akp ?_,e2,e3⟩
 rw[adI]
 unfold zY aEl ajU ajT
 have hl:t.l=os.length:=by rw[ht.len];simp[ints]
 rw[hl,j7 (by unfold kc;omega)]
 refine Eq.trans ?_ e1
 rw[e0];rfl
theorem az4{R:Type}{k:Nat}(kn:ab R){h0:AH}{w:Nat}{s t:Sl}{rows:List (List (El D))}{os:List Nat}(hs:RR h0 s (rows.map vl))(ht:SI h0 t (ints os))(hw:Fld.jI w rows)(hos:∀o∈os,o<w)(bR:fl≤h0.next)(hm:os.length≤65536)(hn:rows.length≤65536):
 ∀(d i f:Nat) (u:Sl) (ts:List Sl) (h:AH),i+d=rows.length→d<f→GL (fun _=>True) h0 h u ts ((rows.take i).map fun r=>vl ((FD.aR hg).xC os r))→
 ∃h' u' Cx,qp M fl k kn f s t u (i:Int) h=kn u' h'∧GL (fun _=>True) h0 h' u' Cx (rows.map fun r=>vl ((FD.aR hg).xC os r)):=by
 intro d
 induction d with
 |zero=>
  intro i f u ts h hi hf gl
  obtain⟨f,rfl⟩:∃j,f=j+1:=⟨f-1,by omega⟩
  rw[List.take_of_length_le (by omega)] at gl
  refine⟨h,u,ts,?_,gl⟩
  show uE M fl k _ _ _ _ _ _ h=_
  unfold uE
  rw[if_neg (by simp[hs.len];omega)]
 |succ d ih=>
  intro i f u ts h hi hf gl
  obtain⟨f,rfl⟩:∃j,f=j+1:=⟨f-1,by omega⟩
  have qC:i<rows.length:=by omega
  have n0:=gl.q.1
  have un:qp M fl k kn (f+1) s t u (i:Int) h=uE M fl k (qp M fl k kn f) kn s t u (i:Int) h:=rfl
  rw[un]
  unfold uE
  obtain⟨r,a1,a2⟩:=(hs.quiet gl.q).read (i:=i) (by simpa using qC)
  simp only[List.getElem_map] at a1
  rw[if_pos (by simp[hs.len];omega),a2]
  obtain⟨h4,b1,b2,b3⟩:=az3 (fl:=fl) hg a1 (ht.quiet gl.q) (hw _ (List.getElem_mem qC)) hos (by omega) hm
  rw[ak b1]
  simp only[aX]
  have gl4:=gl.quiet b3
  have si4:=b2.si none os.length
  have hl4:(vl ((FD.aR hg).xC os rows[i])).length=os.length:=by simp[Fld.xC]
  rw[hl4] at si4
  obtain⟨u',h5,p1,p2,_⟩:=gl4.push (R:=R) (fl:=fl) bR (by simp;omega) si4 (fun q hq=>by cases hq;exact⟨b2.1,trivial,fun a ha=>by have:=OV.lt gl.ov a ha;simp only[ne_eq];omega⟩) (fun s8 h9=>qp M fl k kn f s t s8 (av ((i:Int)+1)) h9)
  have e5:(rows.take (i+1)).map (fun r=>vl ((FD.aR hg).xC os r))=(rows.take i).map (fun r=>vl ((FD.aR hg).xC os r))++[vl ((FD.aR hg).xC os rows[i])]:=by
   rw[List.take_succ_eq_append_getElem qC,List.map_append];rfl
  rw[←e5] at p2
  obtain⟨h',u'',Cx,r1,r2⟩:=ih (i+1) f u' _ h5 (by omega) (by omega) p2
  refine⟨h',u'',Cx,?_,r2⟩
  refine Eq.trans p1 ?_
  rw[aH (i+1) (by push_cast;rfl) (by omega)]
  exact r1
theorem az5{w:Nat}{s t:Sl}{rows:List (List (El D))}{os:List Nat}(hs:RR h s (rows.map vl))(ht:SI h t (ints os))(hw:Fld.jI w rows)(hos:∀o∈os,o<w)(bR:fl≤h.next)(hm:os.length≤65536)(hn:rows.length≤65536):
 ∃h' u,M fl fn.zX [.slice s.a s.l s.c,.slice t.a t.l t.c] h=some (.slice u.a u.l u.c,h')∧RR h' u ((rows.map ((FD.aR hg).xC os)).map vl)∧an h h':=by
 obtain⟨h',u,ts,e1,e2⟩:=az4 (fl:=fl) (k:=rows.length+1) hg (Vf M fl (rows.length+1) (fun y4 q=>some (Value.slice y4.a y4.l y4.c,q))) hs ht hw hos bR hm hn rows.length 0 (rows.length+1) ⟨none,0,0⟩ [] h (by omega) (by omega) (GL.nil (an.refl h))
 refine⟨h',u,bF (k:=rows.length+1) (by decide) ako ?_,?_,e2.q⟩
 ·rw[adp]
  unfold zX aDH aji ajh
  exact e1
 ·have:=(e2.rrp (fun _ _=>trivial)).rr
  rw[List.map_map];exact this
theorem aMW(r:RF h mod D){w:Nat}{s t:Sl}{rows:List (List (El D))}{os:List Nat}(hs:RR h s (rows.map vl))(ht:SI h t (ints os))(hw:Fld.jI w rows)(hos:∀o∈os,o<w)(bR:fl≤h.next)(hm:os.length≤65536)(hn:rows.length≤65536):
 ∃h',M fl fn.IT [fa D mod,.slice s.a s.l s.c,.slice t.a t.l t.c] h=some (.int .i64 (((FD.aR hg).dU (rows.map ((FD.aR hg).xC os)) os.length).2.length:Nat),h')∧an h h':=by
 have dF:=sR h D mod
 have eI:=an.alloc h [.int .i64 (D.p:Int),.int .i64 (D.m:Int),.slice mod.a mod.l mod.c]
 generalize eK:h.alloc [.int .i64 (D.p:Int),.int .i64 (D.m:Int),.slice mod.a mod.l mod.c]=h1 at dF eI
 have n1:=eI.1
 obtain⟨h2,u,c1,c2,c3⟩:=az5 (fl:=h1.next) hg (hs.quiet eI) (ht.quiet eI) hw hos (Nat.le_refl _) hm hn
 have n2:=c3.1
 obtain⟨h3,s',pv,e1,e2,_,e4⟩:=aer (fl:=fl) hg (r.quiet (eI.trans c3)) c2 (w:=os.length) hm (by omega) (by simpa using hn) (fun r hr=>by
  obtain⟨r',_,rfl⟩:=List.mem_map.1 hr
  simp[Fld.xC])
 refine⟨h3,bF (k:=1) (by decide) ar0 ?_,(eI.trans c3).trans e2⟩
 unfold fa
 rw[aiI]
 unfold IT aCO
 rw[bT eK,ae (dF.cell rfl),ae (dF.cell rfl),aq (s:=mod) (dF.cell rfl),ak c1]
 simp only[aX]
 have hl:t.l=os.length:=by rw[ht.len];simp[ints]
 rw[hl,ak (show M fl fn.ja [.agg ⟨[.int .i64 (D.p:Int),.int .i64 (D.m:Int),.slice mod.a mod.l mod.c]⟩,.slice u.a u.l u.c,.int .i64 (os.length:Int)] h2=_ from e1)]
 simp only[aE,ar,aM,aX]
 have Ql:pv.l=((FD.aR hg).dU (rows.map ((FD.aR hg).xC os)) os.length).2.length:=by have:=e4.len;simpa using this
 rw[Ql]
end
def sT{D:FD}{gen:Nat}(hg:D.bh gen)(N:Nat)(rows:List (List (El D)))(l:List Nat):Nat:=((agf N l).foldl (FD.aR hg).wo rows).length
section
variable{h:AH}{fl:Nat}{mod:Sl}{xs:List Int}{p m n:Int}{rs:List (List Int)}{s:Sl}{D:FD}{gen:Nat}{hg:D.bh gen}{N:Nat}{rows:List (List (El D))}
theorem az6(ck:COK p m xs n rs D gen hg N rows)(l:List Nat):sT hg N rows l+((FD.aR hg).dU (rows.map ((FD.aR hg).xC (agf N l))) (agf N l).length).2.length=rows.length:=(FD.aR hg).aHa ck.wid _
theorem apH(ck:COK p m xs n rs D gen hg N rows)(bL:SI h mod xs)(hs:RR h s rs){t:Sl}{l:List Nat}(ht:SI h t (ints l))(hl:l.length≤65536)(bR:fl≤h.next):
 ∃h',M fl fn.zG [ca p m mod n s,.slice t.a t.l t.c] h=some (.int .i64 (sT hg N rows l:Nat),h')∧an h h':=by
 have o1:=OB.alloc h [.int .i64 p,.int .i64 m,.slice mod.a mod.l mod.c,.int .i64 n,.slice s.a s.l s.c]
 have q1:=an.alloc h [.int .i64 p,.int .i64 m,.slice mod.a mod.l mod.c,.int .i64 n,.slice s.a s.l s.c]
 generalize eK:h.alloc [.int .i64 p,.int .i64 m,.slice mod.a mod.l mod.c,.int .i64 n,.slice s.a s.l s.c]=h1 at o1 q1
 have en:=ck.en
 have n64:=ck.n64
 have lle:=ck.le
 obtain⟨s',h2,a1,a2,a3⟩:=apd (fl:=h1.next) N (ht.quiet q1) (by unfold ow;simp[ints];omega) (Nat.le_refl _) (by omega)
 have q2:=q1.trans a3
 have sio:=a2.si
 rw[aMU] at sio
 have hmo:=bL.quiet q2
 have f4:=ck.hF.hx
 rw[f4] at hmo
 have rf:RF h2 mod D:=⟨ck.hF.ok,hmo⟩
 have hs2:=hs.quiet q2
 rw[ck.er] at hs2
 have hol:=aFA N l
 obtain⟨h3,b1,b2⟩:=aMW (fl:=h2.next) hg rf hs2 sio ck.wid (fun o ho=>aMV ho) (Nat.le_refl _) (by omega) (by omega)
 refine⟨h3,bF (k:=1) (by decide) ao4 ?_,q2.trans b2⟩
 unfold ca
 rw[aeX]
 unfold zG aCm
 rw[bT eK,aq (s:=s) (o1.cell rfl),ae (o1.cell rfl),ae (o1.cell rfl),aq (s:=mod) (o1.cell rfl),aq (s:=s) (o1.cell rfl),ae (o1.cell rfl),en,ak a1]
 simp only[aX]
 unfold fa at b1
 rw[←ck.hF.hp,←ck.hF.hm] at b1
 rw[ak b1]
 simp only[asInt,if_true]
 have T9:s.l=rows.length:=by rw[hs.len,ck.er,List.length_map]
 have:=az6 ck l
 rw[T9,aH (sT hg N rows l) (by omega) (by omega)]
theorem YA(p m:Int)(bL:SI h mod xs)(hb:xs.length≤ow)(bR:fl≤h.next){n:Int}{s:Sl}{rs:List (List Int)}(hs:RR h s rs)(hm:rs.length≤65536)(hw:∀r∈rs,r.length≤65536):
 ∃(h':AH) (e:Int),M fl fn.mX [ca p m mod n s] h=some (.int .i64 (if e=0∧16<n then 8 else e),h')∧an h h'∧CoE p m xs n rs e:=by
 have o1:=OB.alloc h [.int .i64 p,.int .i64 m,.slice mod.a mod.l mod.c,.int .i64 n,.slice s.a s.l s.c]
 have q1:=an.alloc h [.int .i64 p,.int .i64 m,.slice mod.a mod.l mod.c,.int .i64 n,.slice s.a s.l s.c]
 generalize eK:h.alloc [.int .i64 p,.int .i64 m,.slice mod.a mod.l mod.c,.int .i64 n,.slice s.a s.l s.c]=h1 at o1 q1
 have l1:=q1.1
 obtain⟨h2,e,c1,c2,c3⟩:=TN (fl:=fl) p m (bL.quiet q1) hb (by omega) (n:=n) (hs.quiet q1) hm hw
 have o2:=o1.quiet c2
 refine⟨h2,e,bF (k:=1) (by decide) ad8 ?_,q1.trans c2,c3⟩
 unfold ca at c1 ⊢
 rw[UG]
 unfold mX aCe ain aim
 rw[bT eK,ae (o1.cell rfl),ae (o1.cell rfl),aq (s:=mod) (o1.cell rfl),ae (o1.cell rfl),aq (s:=s) (o1.cell rfl),ak c1]
 simp only[asInt,if_true]
 by_cases z:e=0
 ·rw[if_pos (by simp[z]),ae (o2.cell rfl)]
  by_cases b:16<n
  ·rw[if_pos (by simpa using b),if_pos ⟨z,b⟩]
  ·rw[if_neg (by simpa using b),if_neg (fun hh=>b hh.2)]
 ·rw[if_neg (by simpa using z),if_neg (fun hh=>z hh.1)]
end
end Go.Abs.P
end
section
namespace Go.Abs.P
open Go.Abs Go.Fld
def yJ(f:Nat→List (List Nat)):Nat→Nat→List (List Nat)
 |0,_=>[]
 |d+1,i=>(f (i+1)).map (i::·)++yJ f d (i+1)
def dm(n:Nat):Nat→Nat→List (List Nat)
 |0,_=>[[]]
 |z+1,lo=>yJ (dm n z) (n-lo) lo
theorem Lg(n:Nat):∀z lo,(dm n z lo).length≤2^(n-lo):=by
 intro z
 induction z with
 |zero=>intro lo;show 1≤_;exact Nat.two_pow_pos _
 |succ z ih=>
  intro lo
  have:∀d i,n-i=d→(yJ (dm n z) d i).length+1≤2^d:=by
   intro d
   induction d with
   |zero=>intro i _;simp[yJ]
   |succ d ihd=>
    intro i hd
    have h1:=ihd (i+1) (by omega)
    have h2:=ih (i+1)
    rw[show n-(i+1)=d by omega] at h2
    unfold yJ
    rw[List.length_append,List.length_map,Nat.pow_succ]
    omega
  have:=this (n-lo) lo rfl
  unfold dm
  omega
theorem aFB{R:Type}{fl b:Nat}{h:AH}{x:Int}{s:Sl}{xs:List Int}(hb:OB h b [.int .i64 x])(hs:SI h s xs)(hr:(xs.length+1)*8≤kc)(K:Sl→AH→Option R):
 ∃s' h',dn fl 1 8 ⟨some ⟨b,0,none⟩,1,1⟩ s h K=K s' h'∧SI h' s' (x::xs)∧an h h'∧∀a,s'.a=some a→b≤a.block∧a.block<h'.next:=by
 have hl:=hs.len
 have hbl:=hb.1
 unfold dn
 cases xs with
 |nil=>
  refine⟨⟨some ⟨b,0,none⟩,1,1⟩,h,?_,(show OB h b (iv [x]) from hb).si none 1,an.refl h,fun a ha=>by cases ha;exact⟨Nat.le_refl _,hbl⟩⟩
  rw[if_pos (by simpa using hl)]
 |cons y ys=>
  have o:=OB.alloc h (iv (x::y::ys))
  refine⟨⟨some ⟨h.next,0,none⟩,1+s.l,oB+1⟩,h.alloc (iv (x::y::ys)),?_,?_,an.alloc ..,fun a ha=>by cases ha;simp only[AH.alloc];omega⟩
  ·rw[if_neg (by rw[hl];simp),if_pos (by rw[hl];simp at hr ⊢;omega),hs.GO (by simp)]
   simp only
   rw[if_pos (by unfold oB;omega),if_neg (by rw[hl];simp)]
   unfold GO
   simp only[hb.iN]
   rw[if_pos (by simp)]
   rfl
  ·have:=o.si none (oB+1)
   rw[hl]
   have e:1+(y::ys).length=(x::y::ys).length:=by simp;omega
   rw[e];exact this
theorem GL.aX3{h0 h:AH}{t:Sl}{ts:List Sl}{rows:List (List Int)}(p:GL (h0.next≤·) h0 h t ts rows):Yz (fun b=>h0.next≤b∧b<h.next) h t rows:=by
 have hl:=p.len
 rcases p.ov with⟨z1,rfl⟩|⟨b,c,g1,g2,g3,g4,rfl,g6⟩
 ·have:rows=[]:=List.length_eq_zero_iff.1 (by rw[←hl];simpa using z1)
  subst this;exact⟨rfl,fun i hi=>by cases hi⟩
 ·refine⟨by simp[hl],fun i hi=>?_⟩
  refine⟨_,ts[i]'(by omega),rfl,g2,⟨g1,g2⟩,?_,(p.row i (by omega) hi).1,fun q hq=>?_⟩
  ·refine OB.cell ⟨g2,g6⟩ ?_
   rw[Nat.zero_add,List.getElem?_map,List.getElem?_eq_getElem (by omega)];rfl
  ·have:=(p.row i (by omega) hi).2 q hq
   exact⟨this.2.1,this.1⟩
section
variable{fl:Nat}
theorem aMX{R:Type}{k:Nat}(kn:cu R){h0:AH}{n1 n2 i:Nat}{s:Sl}{rest:List (List Nat)}(n size:Int)(bR:fl≤h0.next)(hr:rest.length≤65536)(hw:∀r∈rest,r.length≤65536)(hn1:h0.next≤n1):
 ∀(d j f:Nat) (t:Sl) (ts:List Sl) (acc:List (List Nat)) (h:AH),j+d=rest.length→d<f→acc.length+d≤65536→GL (h0.next≤·) h0 h t ts (acc.map ints)→Yz (fun b=>n1≤b∧b<n2) h s (rest.map ints)→n2≤h.next→(∀a,t.a=some a→a.block<n1∨n2≤a.block)→
 ∃h' t' Cx,dJ M fl k kn f n size t (i:Int) s (j:Int) h=kn n size t' (i:Int) h'∧GL (h0.next≤·) h0 h' t' Cx ((acc++(rest.drop j).map (i::·)).map ints):=by
 intro d
 induction d with
 |zero=>
  intro j f t ts acc h hj hf ha gl hs hn ht
  obtain⟨f,rfl⟩:∃j,f=j+1:=⟨f-1,by omega⟩
  rw[List.drop_eq_nil_of_le (by omega),List.map_nil,List.append_nil]
  refine⟨h,t,ts,?_,gl⟩
  show eX M fl k _ _ _ _ _ _ _ _ h=_
  unfold eX
  rw[if_neg (by simp[hs.len];omega)]
 |succ d ih=>
  intro j f t ts acc h hj hf ha gl hs hn ht
  obtain⟨f,rfl⟩:∃j,f=j+1:=⟨f-1,by omega⟩
  have Qk:j<rest.length:=by omega
  have un:dJ M fl k kn (f+1) n size t (i:Int) s (j:Int) h=eX M fl k (dJ M fl k kn f) kn n size t (i:Int) s (j:Int) h:=rfl
  rw[un]
  unfold eX
  have n0:=gl.q.1
  have o1:=OB.alloc h [.int .i64 (i:Int)]
  have q1:=an.alloc h [.int .i64 (i:Int)]
  generalize eK:h.alloc [.int .i64 (i:Int)]=h1 at o1 q1
  rw[if_pos (by simp[hs.len];omega),bT eK]
  obtain⟨s4,a1,_,a2⟩:=hs.apE (i:=j) (by simpa using Qk)
  simp only[List.getElem_map] at a1
  rw[a2 h1 q1]
  have hwj:=hw _ (List.getElem_mem Qk)
  obtain⟨s5,h2,b1,b2,b3,b4⟩:=aFB (R:=R) (fl:=fl) o1 (a1.quiet q1) (by unfold kc;simp[ints];omega) (fun s5 h6=>bJ h6 [.slice s5.a s5.l s5.c] fun b7 h8=>dn fl 1 24 t ⟨(some ⟨b7,0,none⟩),1,1⟩ h8 fun s9 sU=>dJ M fl k kn f n size s9 (i:Int) s (av ((j:Int)+1)) sU)
  rw[b1]
  have q2:=q1.trans b3
  have n2':=q2.1
  have gl2:=gl.quiet q2
  obtain⟨t',h3,p1,p2,p3,p4⟩:=gl2.push (R:=R) (fl:=fl) bR (by simp;omega) b2 (fun q hq=>⟨(b4 q hq).2,by have:=(b4 q hq).1;omega,fun a ha=>by have:=(b4 q hq).1;have:=OV.lt gl.ov a ha;simp only[ne_eq];omega⟩) (fun s9 sU=>dJ M fl k kn f n size s9 (i:Int) s (av ((j:Int)+1)) sU)
  rw[p1,aH (j+1) (by push_cast;rfl) (by omega)]
  have e1:acc.map ints++[(i:Int)::ints rest[j]]=(acc++[i::rest[j]]).map ints:=by rw[List.map_append];rfl
  rw[e1] at p2
  have n3:=p3.1
  have:=ih (j+1) f t' _ (acc++[i::rest[j]]) h3 (by omega) (by omega) (by simp;omega) p2 ((hs.quiet q2).J6 p3 (fun b a hb ha'=>by have:=ht a ha';simp only[ne_eq];omega)) (by omega) (fun a ha'=>.inr (by have:=p4 a ha';omega))
  rw[List.drop_eq_getElem_cons Qk,List.map_cons]
  rw[List.append_assoc] at this
  exact this
theorem az7{R:Type}{k:Nat}(kn:ab R){h0:AH}{n z:Nat}(bR:fl≤h0.next)(hn:n≤16)
 (rec:∀(lo:Nat) (h:AH),lo≤n→fl≤h.next→∃h' s',M fl fn.ik [.int .i64 (lo:Int),.int .i64 (n:Int),.int .i64 (z:Int)] h=some (.slice s'.a s'.l s'.c,h')∧an h h'∧Yz (fun b=>h.next≤b∧b<h'.next) h' s' ((dm n z lo).map ints))
 (hzw:∀lo,∀r∈dm n z lo,r.length≤65536) (hz:z+1<1000000) (hk:65536<k):
 ∀(d i f:Nat) (t:Sl) (ts:List Sl) (acc:List (List Nat)) (h:AH),i+d=n→d<f→(acc++yJ (dm n z) d i).length≤65536→GL (h0.next≤·) h0 h t ts (acc.map ints)→
 ∃h' t' Cx,qi M fl k kn f (n:Int) ((z+1:Nat):Int) t (i:Int) h=kn t' h'∧GL (h0.next≤·) h0 h' t' Cx ((acc++yJ (dm n z) d i).map ints):=by
 intro d
 induction d with
 |zero=>
  intro i f t ts acc h hi hf ha gl
  obtain⟨f,rfl⟩:∃j,f=j+1:=⟨f-1,by omega⟩
  refine⟨h,t,ts,?_,by simpa [yJ] using gl⟩
  show tV M fl k _ _ _ _ _ _ h=_
  unfold tV Am
  rw[if_neg (by simp;omega)]
 |succ d ih=>
  intro i f t ts acc h hi hf ha gl
  obtain⟨f,rfl⟩:∃j,f=j+1:=⟨f-1,by omega⟩
  have un:qi M fl k kn (f+1) (n:Int) ((z+1:Nat):Int) t (i:Int) h=tV M fl k (qi M fl k kn f) kn (n:Int) ((z+1:Nat):Int) t (i:Int) h:=rfl
  rw[un]
  have n0:=gl.q.1
  unfold tV Am
  rw[if_pos (by simp;omega)]
  unfold I3 yW vP rl xF
  rw[aH (n:=(i:Int)+1) (i+1) (by push_cast;rfl) (by omega),aH (n:=((z+1:Nat):Int)-1) z (by push_cast;omega) (by omega)]
  obtain⟨h2,s',c1,c2,c3⟩:=rec (i+1) h (by omega) (by omega)
  rw[ak c1]
  simp only[aX]
  have hrl:=Lg n z (i+1)
  have hp:(2:Nat)^(n-(i+1))≤2^16:=Nat.pow_le_pow_right (by omega) (by omega)
  have hal:acc.length+(dm n z (i+1)).length≤65536:=by
   unfold yJ at ha
   simp only[List.length_append,List.length_map] at ha
   omega
  obtain⟨h3,t3,ts3,e1,e2⟩:=aMX (fl:=fl) (k:=k) (oi M fl k (qi M fl k kn f) kn) (h0:=h0) (n1:=h.next) (n2:=h2.next) (i:=i) (n:Int) ((z+1:Nat):Int) bR (by omega) (hzw _) n0 (dm n z (i+1)).length 0 k t ts acc h2 (by omega) (by omega) hal (gl.quiet c2) c3 (Nat.le_refl _) (fun a ha'=>.inl (OV.lt gl.ov a ha'))
  rw[List.drop_zero] at e2
  obtain⟨h',t',Cx,r1,r2⟩:=ih (i+1) f t3 ts3 (acc++(dm n z (i+1)).map (i::·)) h3 (by omega) (by omega) (by unfold yJ at ha;rw[List.append_assoc];exact ha) e2
  rw[List.append_assoc] at r2
  refine⟨h',t',Cx,?_,r2⟩
  refine Eq.trans e1 ?_
  unfold oi
  rw[aH (i+1) (by push_cast;rfl) (by omega)]
  exact r1
theorem abm{n:Nat}:∀z lo,∀r∈dm n z lo,r.length=z:=by
 intro z
 induction z with
 |zero=>
  intro lo r hr
  have:r=[]:=by simpa [dm] using hr
  rw[this];rfl
 |succ z ih=>
  intro lo r hr
  unfold dm at hr
  have:∀d i,r∈yJ (dm n z) d i→r.length=z+1:=by
   intro d
   induction d with
   |zero=>intro i h;simp[yJ] at h
   |succ d ihd=>
    intro i h
    unfold yJ at h
    rcases List.mem_append.1 h with h|h
    ·obtain⟨r',h1,rfl⟩:=List.mem_map.1 h
     simp[ih _ _ h1]
    ·exact ihd _ h
  exact this _ _ hr
theorem ahl{n:Nat}(hn:n≤16):∀(z:Nat),z≤16→∀(lo:Nat) (h:AH),lo≤n→fl≤h.next→∃h' s',M fl fn.ik [.int .i64 (lo:Int),.int .i64 (n:Int),.int .i64 (z:Int)] h=some (.slice s'.a s'.l s'.c,h')∧an h h'∧Yz (fun b=>h.next≤b∧b<h'.next) h' s' ((dm n z lo).map ints):=by
 intro z
 induction z with
 |zero=>
  intro _ lo h hlo bR
  have o:=OB.alloc h [.slice none 0 0]
  refine⟨h.alloc [.slice none 0 0],⟨some ⟨h.next,0,none⟩,1,1⟩,bF (k:=1) (by decide) TE ?_,an.alloc ..,rfl,fun i hi=>?_⟩
  ·rw[I4]
   unfold ik auh acy
   rw[if_pos (by simp)];rfl
  ·have hi0:i=0:=by simp[dm] at hi;omega
   subst hi0
   refine⟨_,⟨none,0,0⟩,rfl,o.1,⟨Nat.le_refl _,o.1⟩,o.cell rfl,SI.nil _,fun q hq=>by cases hq⟩
 |succ z ih=>
  intro hz lo h hlo bR
  have hp:(2:Nat)^(n-lo)≤2^16:=Nat.pow_le_pow_right (by omega) (by omega)
  have hll:=Lg n (z+1) lo
  unfold dm at hll
  obtain⟨h',t,ts,e1,e2⟩:=az7 (fl:=fl) (k:=65537) (UI M fl 65537 (fun y6 q=>some (Value.slice y6.a y6.l y6.c,q))) (h0:=h) bR hn (ih (by omega)) (fun lo r hr=>by rw[abm _ _ r hr];omega) (by omega) (by omega) (n-lo) lo 65537 ⟨none,0,0⟩ [] [] h (by omega) (by omega) (by rw[List.nil_append];omega) (GL.nil (an.refl h))
  rw[List.nil_append] at e2
  refine⟨h',t,bF (k:=65537) (by decide) TE ?_,e2.q,e2.aX3⟩
  rw[I4]
  unfold ik auh acy ais
  rw[if_neg (by simp;omega)]
  exact e1
end
end Go.Abs.P
end
section
namespace Go.Abs.P
open Go.Abs Go.Fld
section
variable{fl:Nat}{mod:Sl}{xs:List Int}{p m n:Int}{rs:List (List Int)}{s:Sl}{D:FD}{gen:Nat}{hg:D.bh gen}{N:Nat}{rows:List (List (El D))}
abbrev Bq(p m:Int)(mod:Sl)(n:Int)(s:Sl):List Value:=[.int .i64 p,.int .i64 m,.slice mod.a mod.l mod.c,.int .i64 n,.slice s.a s.l s.c]
theorem aFC{R:Type}{k:Nat}(kn:bW R)(kr:ab R){h0:AH}{bx r:Nat}(ck:COK p m xs n rs D gen hg N rows)(bL:SI h0 mod xs)(hs:RR h0 s rs)(hx:OB h0 bx (Bq p m mod n s)){t:Sl}{L:List (List Nat)}(ht:RR h0 t (L.map ints))(hL:L.length≤65536)(hw:∀l∈L,l.length≤65536)(bR:fl≤h0.next)(t5:Int):
 ∀(d j f:Nat) (h:AH),j+d=L.length→d<f→an h0 h→
 ∃h',an h0 h'∧match (L.drop j).find? (fun l=>decide (r≤sT hg N rows l)) with
  |some l=>∃s',SI h' s' (ints l)∧cS M fl k kn kr f (r:Int) ⟨bx,0,none⟩ t5 t (j:Int) h=kr s' h'
  |none=>cS M fl k kn kr f (r:Int) ⟨bx,0,none⟩ t5 t (j:Int) h=kn (r:Int) ⟨bx,0,none⟩ t5 h':=by
 intro d
 induction d with
 |zero=>
  intro j f h hj hf hq
  obtain⟨f,rfl⟩:∃j,f=j+1:=⟨f-1,by omega⟩
  rw[List.drop_eq_nil_of_le (by omega)]
  refine⟨h,hq,?_⟩
  show dH M fl k _ _ _ _ _ _ _ _ h=_
  unfold dH
  rw[if_neg (by simp[ht.len];omega)]
 |succ d ih=>
  intro j f h hj hf hq
  obtain⟨f,rfl⟩:∃j,f=j+1:=⟨f-1,by omega⟩
  have Qk:j<L.length:=by omega
  have n0:=hq.1
  have un:cS M fl k kn kr (f+1) (r:Int) ⟨bx,0,none⟩ t5 t (j:Int) h=dH M fl k (cS M fl k kn kr f) kn kr (r:Int) ⟨bx,0,none⟩ t5 t (j:Int) h:=rfl
  rw[un,List.drop_eq_getElem_cons Qk,List.find?_cons]
  obtain⟨t7,a1,_,a2⟩:=(RR.p ht).apE (i:=j) (by simpa using Qk)
  simp only[List.getElem_map] at a1
  have lY:=hx.quiet hq
  obtain⟨h2,b1,b2⟩:=apH (fl:=fl) ck (bL.quiet hq) (hs.quiet hq) (a1.quiet hq) (hw _ (List.getElem_mem Qk)) (by omega)
  have q2:=hq.trans b2
  have run:dH M fl k (cS M fl k kn kr f) kn kr (r:Int) ⟨bx,0,none⟩ t5 t (j:Int) h=if r≤sT hg N rows L[j] then kr t7 h2 else cS M fl k kn kr f (r:Int) ⟨bx,0,none⟩ t5 t ((j+1:Nat):Int) h2:=by
   unfold dH
   unfold ca at b1
   rw[if_pos (by simp[ht.len];omega),ae (lY.cell rfl),ae (lY.cell rfl),aq (s:=mod) (lY.cell rfl),ae (lY.cell rfl),aq (s:=s) (lY.cell rfl),a2 h hq,ak b1]
   simp only[asInt,if_true]
   by_cases c:r≤sT hg N rows L[j]
   ·rw[if_pos c,if_pos (by simpa using c),a2 h2 q2]
   ·rw[if_neg c,if_neg (by simpa using c),aH (j+1) (by push_cast;rfl) (by omega)]
  rw[run]
  by_cases c:r≤sT hg N rows L[j]
  ·simp only[c,decide_true,if_true]
   exact⟨h2,q2,t7,a1.quiet q2,rfl⟩
  ·simp only[c,decide_false,if_false]
   exact ih (j+1) f h2 (by omega) (by omega) q2
theorem asA{R:Type}{k:Nat}(kn:au R)(kr:ab R){h0:AH}{bx r:Nat}(ck:COK p m xs n rs D gen hg N rows)(hN:N≤16)(bL:SI h0 mod xs)(hs:RR h0 s rs)(hx:OB h0 bx (Bq p m mod n s))(bR:fl≤h0.next)(hk:65536<k):
 ∀(d z f:Nat) (h:AH),z+d=N+1→d<f→an h0 h→
 ∃h',an h0 h'∧match ((List.range' z d).flatMap fun z=>dm N z 0).find? (fun l=>decide (r≤sT hg N rows l)) with
  |some l=>∃s',SI h' s' (ints l)∧gx M fl k kn kr f (r:Int) ⟨bx,0,none⟩ (z:Int) h=kr s' h'
  |none=>gx M fl k kn kr f (r:Int) ⟨bx,0,none⟩ (z:Int) h=kn h':=by
 have en:=ck.en
 intro d
 induction d with
 |zero=>
  intro z f h hz hf hq
  obtain⟨f,rfl⟩:∃j,f=j+1:=⟨f-1,by omega⟩
  refine⟨h,hq,?_⟩
  show nm M fl k _ _ _ _ _ _ h=_
  unfold nm Ah
  rw[ae ((hx.quiet hq).cell rfl),if_neg (by simp;omega)]
 |succ d ih=>
  intro z f h hz hf hq
  obtain⟨f,rfl⟩:∃j,f=j+1:=⟨f-1,by omega⟩
  have n0:=hq.1
  have un:gx M fl k kn kr (f+1) (r:Int) ⟨bx,0,none⟩ (z:Int) h=nm M fl k (gx M fl k kn kr f) kn kr (r:Int) ⟨bx,0,none⟩ (z:Int) h:=rfl
  rw[un,List.range'_succ,List.flatMap_cons,List.find?_append]
  obtain⟨h2,s',c1,c2,c3⟩:=ahl (fl:=fl) (n:=N) hN z (by omega) 0 h (by omega) (by omega)
  have q2:=hq.trans c2
  have hp:(2:Nat)^(N-0)≤2^16:=Nat.pow_le_pow_right (by omega) (by omega)
  have hll:=Lg N z 0
  obtain⟨h3,q3,e3⟩:=aFC (fl:=fl) (k:=k) (r:=r) (lk M fl k (gx M fl k kn kr f) kn kr) kr ck (bL.quiet q2) (hs.quiet q2) (hx.quiet q2) c3.rr (by omega) (fun l hl=>by rw[abm _ _ l hl];omega) (by have:=c2.1;omega) (z:Int) (dm N z 0).length 0 k h2 (by omega) (by omega) (an.refl h2)
  rw[List.drop_zero] at e3
  have run:∀{x},cS M fl k (lk M fl k (gx M fl k kn kr f) kn kr) kr k (r:Int) ⟨bx,0,none⟩ (z:Int) s' 0 h2=x→nm M fl k (gx M fl k kn kr f) kn kr (r:Int) ⟨bx,0,none⟩ (z:Int) h=x:=by
   intro x hx'
   unfold nm Ah
   rw[ae ((hx.quiet hq).cell rfl),if_pos (by simp;omega)]
   unfold I2 yU vN rh xE
   have c1':M fl fn.ik [.int .i64 0,.int .i64 n,.int .i64 (z:Int)] h=some (.slice s'.a s'.l s'.c,h2):=by rw[en];exact c1
   rw[ae ((hx.quiet hq).cell rfl),ak c1']
   exact hx'
  cases hf1:(dm N z 0).find? (fun l=>decide (r≤sT hg N rows l)) with
  |some l=>
   rw[hf1] at e3
   obtain⟨s3,k1,k2⟩:=e3
   exact⟨h3,q2.trans q3,s3,k1,run k2⟩
  |none=>
   rw[hf1] at e3
   simp only[Option.none_or]
   obtain⟨h',q',e'⟩:=ih (z+1) f h3 (by omega) (by omega) (q2.trans q3)
   have nx:nm M fl k (gx M fl k kn kr f) kn kr (r:Int) ⟨bx,0,none⟩ (z:Int) h=gx M fl k kn kr f (r:Int) ⟨bx,0,none⟩ ((z+1:Nat):Int) h3:=by
    refine run (Eq.trans e3 ?_)
    unfold lk
    rw[aH (z+1) (by push_cast;rfl) (by omega)]
   rw[nx]
   exact⟨h',q',e'⟩
def Qg{D:FD}{gen:Nat}(hg:D.bh gen)(N:Nat)(rows:List (List (El D)))(r:Nat):List Nat:=(((List.range' 0 (N+1)).flatMap fun z=>dm N z 0).find? (fun l=>decide (r≤sT hg N rows l))).getD []
theorem asB{h:AH}{r:Nat}(ck:COK p m xs n rs D gen hg N rows)(hN:N≤16)(bL:SI h mod xs)(hs:RR h s rs)(bR:fl≤h.next):
 ∃h' s',M fl fn.pW [ca p m mod n s,.int .i64 (r:Int)] h=some (.slice s'.a s'.l s'.c,h')∧SI h' s' (ints (Qg hg N rows r))∧an h h':=by
 have o1:=OB.alloc h (Bq p m mod n s)
 have q1:=an.alloc h (Bq p m mod n s)
 generalize eK:h.alloc (Bq p m mod n s)=h1 at o1 q1
 have l1:=q1.1
 obtain⟨h',q',e'⟩:=asA (fl:=fl) (k:=65537) (r:=r) (Kh M fl 65537 (fun y4 q=>some (Value.slice y4.a y4.l y4.c,q))) (fun y4 q=>some (Value.slice y4.a y4.l y4.c,q)) ck hN (bL.quiet q1) (hs.quiet q1) o1 (by omega) (by omega) (N+1) 0 65537 h1 (by omega) (by omega) (an.refl h1)
 have go:∀{v},gx M fl 65537 (Kh M fl 65537 (fun y4 q=>some (Value.slice y4.a y4.l y4.c,q))) (fun y4 q=>some (Value.slice y4.a y4.l y4.c,q)) 65537 (r:Int) ⟨h.next,0,none⟩ 0 h1=some v→M fl fn.pW [ca p m mod n s,.int .i64 (r:Int)] h=some v:=by
  intro v hv
  refine bF (k:=65537) (by decide) af0 ?_
  unfold ca
  rw[Y0]
  unfold pW aCg aip aio
  rw[bT eK]
  exact hv
 unfold Qg
 cases hf1:((List.range' 0 (N+1)).flatMap fun z=>dm N z 0).find? (fun l=>decide (r≤sT hg N rows l)) with
 |some l=>
  rw[hf1] at e'
  obtain⟨s',k1,k2⟩:=e'
  exact⟨h',s',go k2,k1,q1.trans q'⟩
 |none=>
  rw[hf1] at e'
  exact⟨h',⟨none,0,0⟩,go e',SI.nil _,q1.trans q'⟩
end
end Go.Abs.P
end
section
namespace Go.Abs.P
open Go.Abs Go.Fld
section
variable{fl:Nat}{mod:Sl}{xs:List Int}{p m n:Int}{rs:List (List Int)}{s:Sl}{D:FD}{gen:Nat}{hg:D.bh gen}{N:Nat}{rows:List (List (El D))}
def YB{D:FD}{gen:Nat}(hg:D.bh gen)(N:Nat)(rows:List (List (El D)))(k:Nat):List Nat:=(List.range k).map fun r=>(Qg hg N rows (r+1)).length
theorem az8{R:Type}{k:Nat}(kn:ab R){h0:AH}{bx:Nat}(ck:COK p m xs n rs D gen hg N rows)(hN:N≤16)(bL:SI h0 mod xs)(hs:RR h0 s rs)(hx:OB h0 bx (Bq p m mod n s))(bR:fl≤h0.next):
 ∀(d j f:Nat) (t:Sl) (h:AH),j+d=rows.length→d<f→an h0 h→OV h0.next h t (iv (ints (YB hg N rows j)))→
 ∃h' t',qd M fl k kn f ⟨bx,0,none⟩ t ((j+1:Nat):Int) h=kn t' h'∧OV h0.next h' t' (iv (ints (YB hg N rows rows.length)))∧an h0 h':=by
 have hle:=ck.le
 have T9:s.l=rows.length:=by rw[hs.len,ck.er,List.length_map]
 intro d
 induction d with
 |zero=>
  intro j f t h hj hf hq ho
  obtain⟨f,rfl⟩:∃j,f=j+1:=⟨f-1,by omega⟩
  obtain rfl:j=rows.length:=by omega
  refine⟨h,t,?_,ho,hq⟩
  show tI M fl k _ _ _ _ _ h=_
  unfold tI
  rw[aq (s:=s) ((hx.quiet hq).cell rfl),if_neg (by simp;omega)]
 |succ d ih=>
  intro j f t h hj hf hq ho
  obtain⟨f,rfl⟩:∃j,f=j+1:=⟨f-1,by omega⟩
  have un:qd M fl k kn (f+1) ⟨bx,0,none⟩ t ((j+1:Nat):Int) h=tI M fl k (qd M fl k kn f) kn ⟨bx,0,none⟩ t ((j+1:Nat):Int) h:=rfl
  rw[un]
  unfold tI
  have n0:=hq.1
  have lY:=hx.quiet hq
  obtain⟨h2,s9,a1,a2,a3⟩:=asB (fl:=fl) (r:=j+1) ck hN (bL.quiet hq) (hs.quiet hq) (by omega)
  unfold ca at a1
  rw[aq (s:=s) (lY.cell rfl),if_pos (by simp;omega),ae (lY.cell rfl),ae (lY.cell rfl),aq (s:=mod) (lY.cell rfl),ae (lY.cell rfl),aq (s:=s) (lY.cell rfl),ak a1]
  simp only[aX]
  have q2:=hq.trans a3
  have hl9:s9.l=(Qg hg N rows (j+1)).length:=by rw[a2.len];simp[ints]
  obtain⟨t',h3,v1,v2,v3,v4⟩:=(ho.quiet a3).push (R:=R) (fl:=fl) (bytes:=8) (x:=.int .i64 (((Qg hg N rows (j+1)).length:Nat):Int)) bR (by have:=q2.1;omega) (by unfold kc;simp[iv,ints,YB];omega) rfl (fun T8 qB=>qd M fl k kn f ⟨bx,0,none⟩ T8 (av (((j+1:Nat):Int)+1)) qB)
  have e1:iv (ints (YB hg N rows j))++[Value.int .i64 (((Qg hg N rows (j+1)).length:Nat):Int)]=iv (ints (YB hg N rows (j+1))):=by
   unfold YB
   rw[List.range_succ,List.map_append,kh,nK];rfl
  rw[e1] at v2
  rw[hl9,v1,aH (j+1+1) (by push_cast;rfl) (by omega)]
  exact ih (j+1) f t' h3 (by omega) (by omega) (v3.quiet q2 (fun a ha=>ho.ge a ha)) v2
def aFD(D:FD)(gen:Nat)(hg:D.bh gen)(N:Nat)(rows:List (List (El D))):List Int:=ints (YB hg N rows rows.length)
theorem agi{h:AH}(p m:Int)(bL:SI h mod xs)(hb:xs.length≤ow)(bR:fl≤h.next){n:Int}{s:Sl}{rs:List (List Int)}(hs:RR h s rs)(hm:rs.length≤65536)(hw:∀r∈rs,r.length≤65536):
 ∃(h':AH) (v:Value),M fl fn.kZ [ca p m mod n s] h=some (v,h')∧an h h'∧PrR h' p m xs n rs aFD v:=by
 have o1:=OB.alloc h (Bq p m mod n s)
 have q1:=an.alloc h (Bq p m mod n s)
 generalize eK:h.alloc (Bq p m mod n s)=h1 at o1 q1
 have l1:=q1.1
 have go:∀{k r},alM M fl k (fun y2 y3 q=>some (Value.tuple ⟨[.slice y2.a y2.l y2.c,.int .i64 y3]⟩,q)) p m mod n s h=some r→M fl fn.kZ [ca p m mod n s] h=some r:=by
  intro k r he
  refine bF (k:=k) (by decide) aac ?_
  unfold ca
  rw[QX];exact he
 obtain⟨h2,e,c1,c2,c3⟩:=YA (fl:=fl) p m (bL.quiet q1) hb (by omega) (n:=n) (hs.quiet q1) hm hw
 have q2:=q1.trans c2
 have o2:=o1.quiet c2
 have l2:=q2.1
 unfold ca at c1
 have stop:∀e',e'≠0→(if e=0∧16<n then 8 else e)=e'→M fl fn.kZ [ca p m mod n s] h=some (.tuple ⟨[.slice none 0 0,.int .i64 e']⟩,h2):=by
  intro e' he ee
  rw[ee] at c1
  refine go (k:=1) ?_
  unfold alM acd
  rw[bT eK,ae (o1.cell rfl),ae (o1.cell rfl),aq (s:=mod) (o1.cell rfl),ae (o1.cell rfl),aq (s:=s) (o1.cell rfl),ak c1]
  simp only[asInt,if_true]
  rw[if_pos (by simpa using he)]
 by_cases z:e=0
 ·subst z
  by_cases b:16<n
  ·exact⟨h2,_,stop 8 (by omega) (if_pos ⟨rfl,b⟩),q2,.big c3 b rfl⟩
  ·obtain⟨D,gen,hg,N,rows,ck⟩:=CoE.zero c3
   have en:=ck.en
   obtain⟨h4,t',e1,e2,e3⟩:=az8 (fl:=fl) (k:=rows.length+1) (Uw M fl (rows.length+1) (fun y2 y3 q=>some (Value.tuple ⟨[.slice y2.a y2.l y2.c,.int .i64 y3]⟩,q))) (h0:=h2) ck (by omega) (bL.quiet q2) (hs.quiet q2) o2 (by omega) rows.length 0 (rows.length+1) ⟨none,0,0⟩ h2 (by omega) (by omega) (an.refl h2) (OV.nil _ _)
   refine⟨h4,_,go (k:=rows.length+1) ?_,q2.trans e3,.ok D gen hg N rows c3 ck (by omega) t' e2.si rfl⟩
   rw[if_neg (fun hh=>b hh.2)] at c1
   unfold alM acd ah2
   rw[bT eK,ae (o1.cell rfl),ae (o1.cell rfl),aq (s:=mod) (o1.cell rfl),ae (o1.cell rfl),aq (s:=s) (o1.cell rfl),ak c1]
   simp only[asInt,if_true]
   rw[if_neg (by simp)]
   exact e1
 ·exact⟨h2,_,stop e z (if_neg (fun hh=>z hh.1)),q2,.err e c3 z rfl⟩
def maxD{D:FD}{gen:Nat}(hg:D.bh gen)(N:Nat)(rows:List (List (El D)))(L:List (List Nat))(m0:Nat):Nat:=L.foldl (fun m l=>if sT hg N rows l>m then sT hg N rows l else m) m0
theorem aFE{R:Type}{k:Nat}(kn:bV R){h0:AH}{bx:Nat}(ck:COK p m xs n rs D gen hg N rows)(bL:SI h0 mod xs)(hs:RR h0 s rs)(hx:OB h0 bx (Bq p m mod n s)){t:Sl}{L:List (List Nat)}(ht:RR h0 t (L.map ints))(hL:L.length≤65536)(hw:∀l∈L,l.length≤65536)(bR:fl≤h0.next)(t5:Sl)(t6:Int):
 ∀(d j f mx:Nat) (h:AH),j+d=L.length→d<f→an h0 h→
 ∃h',eU M fl k kn f ⟨bx,0,none⟩ t5 t6 t (mx:Int) (j:Int) h=kn ⟨bx,0,none⟩ t5 t6 ((maxD hg N rows (L.drop j) mx:Nat):Int) h'∧an h0 h':=by
 intro d
 induction d with
 |zero=>
  intro j f mx h hj hf hq
  obtain⟨f,rfl⟩:∃j,f=j+1:=⟨f-1,by omega⟩
  rw[List.drop_eq_nil_of_le (by omega)]
  refine⟨h,?_,hq⟩
  show eT M fl k _ _ _ _ _ _ _ _ h=_
  unfold eT
  rw[if_neg (by simp[ht.len];omega)];rfl
 |succ d ih=>
  intro j f mx h hj hf hq
  obtain⟨f,rfl⟩:∃j,f=j+1:=⟨f-1,by omega⟩
  have Qk:j<L.length:=by omega
  have n0:=hq.1
  have un:eU M fl k kn (f+1) ⟨bx,0,none⟩ t5 t6 t (mx:Int) (j:Int) h=eT M fl k (eU M fl k kn f) kn ⟨bx,0,none⟩ t5 t6 t (mx:Int) (j:Int) h:=rfl
  rw[un,List.drop_eq_getElem_cons Qk]
  obtain⟨t7,a1,_,a2⟩:=(RR.p ht).apE (i:=j) (by simpa using Qk)
  simp only[List.getElem_map] at a1
  have lY:=hx.quiet hq
  obtain⟨h2,b1,b2⟩:=apH (fl:=fl) ck (bL.quiet hq) (hs.quiet hq) (a1.quiet hq) (hw _ (List.getElem_mem Qk)) (by omega)
  unfold eT
  unfold ca at b1
  rw[if_pos (by simp[ht.len];omega),ae (lY.cell rfl),ae (lY.cell rfl),aq (s:=mod) (lY.cell rfl),ae (lY.cell rfl),aq (s:=s) (lY.cell rfl),a2 h hq,ak b1]
  simp only[asInt,if_true]
  have hv:(if ((sT hg N rows L[j]:Nat):Int)>(mx:Int) then ((sT hg N rows L[j]:Nat):Int) else (mx:Int))=((if sT hg N rows L[j]>mx then sT hg N rows L[j] else mx:Nat):Int):=by
   by_cases c:sT hg N rows L[j]>mx
   ·rw[if_pos c,if_pos (by omega)]
   ·rw[if_neg c,if_neg (by omega)]
  rw[hv,aH (j+1) (by push_cast;rfl) (by omega)]
  exact ih (j+1) f _ h2 (by omega) (by omega) (hq.trans b2)
def GJ{D:FD}{gen:Nat}(hg:D.bh gen)(N:Nat)(rows:List (List (El D)))(k:Nat):List Nat:=(List.range k).map fun i=>maxD hg N rows (dm N i 0) 0
theorem asC{R:Type}{k:Nat}(kn:ab R){h0:AH}{bx:Nat}(ck:COK p m xs n rs D gen hg N rows)(hN:N≤16)(bL:SI h0 mod xs)(hs:RR h0 s rs)(hx:OB h0 bx (Bq p m mod n s))(bR:fl≤h0.next)(hk:65536<k):
 ∀(d j f:Nat) (t:Sl) (h:AH),j+d=N+1→d<f→an h0 h→OV h0.next h t (iv (ints (GJ hg N rows j)))→
 ∃h' t',nh M fl k kn f ⟨bx,0,none⟩ t (j:Int) h=kn t' h'∧OV h0.next h' t' (iv (ints (GJ hg N rows (N+1))))∧an h0 h':=by
 have en:=ck.en
 intro d
 induction d with
 |zero=>
  intro j f t h hj hf hq ho
  obtain⟨f,rfl⟩:∃j,f=j+1:=⟨f-1,by omega⟩
  obtain rfl:j=N+1:=by omega
  refine⟨h,t,?_,ho,hq⟩
  show tM M fl k _ _ _ _ _ h=_
  unfold tM z8
  rw[ae ((hx.quiet hq).cell rfl),if_neg (by simp;omega)]
 |succ d ih=>
  intro j f t h hj hf hq ho
  obtain⟨f,rfl⟩:∃j,f=j+1:=⟨f-1,by omega⟩
  have un:nh M fl k kn (f+1) ⟨bx,0,none⟩ t (j:Int) h=tM M fl k (nh M fl k kn f) kn ⟨bx,0,none⟩ t (j:Int) h:=rfl
  rw[un]
  unfold tM z8
  have n0:=hq.1
  have lY:=hx.quiet hq
  obtain⟨h2,s',c1,c2,c3⟩:=ahl (fl:=fl) (n:=N) hN j (by omega) 0 h (by omega) (by omega)
  have q2:=hq.trans c2
  have n2:=c2.1
  have hp:(2:Nat)^(N-0)≤2^16:=Nat.pow_le_pow_right (by omega) (by omega)
  have hll:=Lg N j 0
  obtain⟨h3,d1,d2⟩:=aFE (fl:=fl) (k:=k) (lI M fl k (lh M fl k (nh M fl k kn f) kn)) ck (bL.quiet q2) (hs.quiet q2) (hx.quiet q2) c3.rr (by omega) (fun l hl=>by rw[abm _ _ l hl];omega) (by omega) t (j:Int) (dm N j 0).length 0 k 0 h2 (by omega) (by omega) (an.refl h2)
  rw[List.drop_zero] at d1
  have q3:=q2.trans d2
  obtain⟨t',h4,v1,v2,v3,v4⟩:=(ho.quiet (c2.trans d2)).push (R:=R) (fl:=fl) (bytes:=8) (x:=.int .i64 ((maxD hg N rows (dm N j 0) 0:Nat):Int)) bR (by have:=q3.1;omega) (by unfold kc;simp[iv,ints,GJ];omega) rfl (fun s3 h4=>lh M fl k (nh M fl k kn f) kn ⟨bx,0,none⟩ s3 (j:Int) h4)
  have e1:iv (ints (GJ hg N rows j))++[Value.int .i64 ((maxD hg N rows (dm N j 0) 0:Nat):Int)]=iv (ints (GJ hg N rows (j+1))):=by
   unfold GJ
   rw[List.range_succ,List.map_append,kh,nK];rfl
  rw[e1] at v2
  obtain⟨h',t'',r1,r2,r3⟩:=ih (j+1) f t' h4 (by omega) (by omega) (v3.quiet q3 (fun a ha=>ho.ge a ha)) v2
  refine⟨h',t'',?_,r2,r3⟩
  rw[ae (lY.cell rfl),if_pos (by simp;omega)]
  unfold IY yT vE qU xD
  have c1':M fl fn.ik [.int .i64 0,.int .i64 n,.int .i64 (j:Int)] h=some (.slice s'.a s'.l s'.c,h2):=by rw[en];exact c1
  rw[ae (lY.cell rfl),ak c1']
  simp only[aX]
  refine Eq.trans d1 ?_
  unfold lI
  refine Eq.trans v1 ?_
  unfold lh
  rw[aH (j+1) (by push_cast;rfl) (by omega)]
  exact r1
def asD(D:FD)(gen:Nat)(hg:D.bh gen)(N:Nat)(rows:List (List (El D))):List Int:=ints (GJ hg N rows (N+1))
theorem agj{h:AH}(p m:Int)(bL:SI h mod xs)(hb:xs.length≤ow)(bR:fl≤h.next){n:Int}{s:Sl}{rs:List (List Int)}(hs:RR h s rs)(hm:rs.length≤65536)(hw:∀r∈rs,r.length≤65536):
 ∃(h':AH) (v:Value),M fl fn.k8 [ca p m mod n s] h=some (v,h')∧an h h'∧PrR h' p m xs n rs asD v:=by
 have o1:=OB.alloc h (Bq p m mod n s)
 have q1:=an.alloc h (Bq p m mod n s)
 generalize eK:h.alloc (Bq p m mod n s)=h1 at o1 q1
 have l1:=q1.1
 have go:∀{k r},alS M fl k (fun y2 y3 q=>some (Value.tuple ⟨[.slice y2.a y2.l y2.c,.int .i64 y3]⟩,q)) p m mod n s h=some r→M fl fn.k8 [ca p m mod n s] h=some r:=by
  intro k r he
  refine bF (k:=k) (by decide) aad ?_
  unfold ca
  rw[Q2];exact he
 obtain⟨h2,e,c1,c2,c3⟩:=YA (fl:=fl) p m (bL.quiet q1) hb (by omega) (n:=n) (hs.quiet q1) hm hw
 have q2:=q1.trans c2
 have o2:=o1.quiet c2
 have l2:=q2.1
 unfold ca at c1
 have stop:∀e',e'≠0→(if e=0∧16<n then 8 else e)=e'→M fl fn.k8 [ca p m mod n s] h=some (.tuple ⟨[.slice none 0 0,.int .i64 e']⟩,h2):=by
  intro e' he ee
  rw[ee] at c1
  refine go (k:=1) ?_
  unfold alS acg
  rw[bT eK,ae (o1.cell rfl),ae (o1.cell rfl),aq (s:=mod) (o1.cell rfl),ae (o1.cell rfl),aq (s:=s) (o1.cell rfl),ak c1]
  simp only[asInt,if_true]
  rw[if_pos (by simpa using he)]
 by_cases z:e=0
 ·subst z
  by_cases b:16<n
  ·exact⟨h2,_,stop 8 (by omega) (if_pos ⟨rfl,b⟩),q2,.big c3 b rfl⟩
  ·obtain⟨D,gen,hg,N,rows,ck⟩:=CoE.zero c3
   have en:=ck.en
   obtain⟨h4,t',e1,e2,e3⟩:=asC (fl:=fl) (k:=65537) (UA M fl 65537 (fun y2 y3 q=>some (Value.tuple ⟨[.slice y2.a y2.l y2.c,.int .i64 y3]⟩,q))) (h0:=h2) ck (by omega) (bL.quiet q2) (hs.quiet q2) o2 (by omega) (by omega) (N+1) 0 65537 ⟨none,0,0⟩ h2 (by omega) (by omega) (an.refl h2) (OV.nil _ _)
   refine⟨h4,_,go (k:=65537) ?_,q2.trans e3,.ok D gen hg N rows c3 ck (by omega) t' e2.si rfl⟩
   rw[if_neg (fun hh=>b hh.2)] at c1
   unfold alS acg ah6
   rw[bT eK,ae (o1.cell rfl),ae (o1.cell rfl),aq (s:=mod) (o1.cell rfl),ae (o1.cell rfl),aq (s:=s) (o1.cell rfl),ak c1]
   simp only[asInt,if_true]
   rw[if_neg (by simp)]
   exact e1
 ·exact⟨h2,_,stop e z (if_neg (fun hh=>z hh.1)),q2,.err e c3 z rfl⟩
end
end Go.Abs.P
end
section
namespace Go.Abs.P
open Go.Abs Go.Fld
section
variable{D:FD}{gen:Nat}(hg:D.bh gen)
theorem TP:∀(os:List Nat) (rows:List (List (El D))),rows.length=0→(os.foldl (FD.aR hg).wo rows).length=0
 |[],_,h=>h
 |o::os,rows,h=>TP os _ (by have:=(FD.aR hg).aFx rows o;omega)
theorem aMY{N:Nat}:∀(d next:Nat) (rows:List (List (El D))) (sV:Nat) (out:List Nat),next+d=N→sV<2^next→out.length=2^N→(∀mask,mask<2^N→mask%2^next=sV→out.getD mask 0=0)→
 ∀mask,mask<2^N→((FD.aR hg).frm d next rows sV out).getD mask 0=if mask%2^next=sV then (((List.range' next d).filter fun i=>decide (mask/2^i%2≠1)).foldl (FD.aR hg).wo rows).length else out.getD mask 0:=by
 intro d
 induction d with
 |zero=>
  intro next rows sV out hd h0 hl hz mask hm
  obtain rfl:next=N:=by omega
  unfold Fld.frm
  rw[Nat.mod_eq_of_lt hm]
  by_cases c:rows.length=0
  ·rw[if_pos c]
   by_cases e:mask=sV
   ·rw[if_pos e,hz mask hm (by rw[Nat.mod_eq_of_lt hm];exact e)]
    exact c.symm
   ·rw[if_neg e]
  ·rw[if_neg c]
   by_cases e:mask=sV
   ·subst e
    rw[if_pos rfl,List.getD_eq_getElem?_getD,List.getElem?_set_self (by omega)];rfl
   ·rw[if_neg e,List.getD_eq_getElem?_getD,List.getElem?_set_ne (fun h=>e h.symm),←List.getD_eq_getElem?_getD]
 |succ d ih=>
  intro next rows sV out hd h0 hl hz mask hm
  unfold Fld.frm
  by_cases c:rows.length=0
  ·rw[if_pos c,TP hg _ _ c]
   by_cases e:mask%2^next=sV
   ·rw[if_pos e,hz mask hm e]
   ·rw[if_neg e]
  ·rw[if_neg c]
   have ps:(2:Nat)^(next+1)=2^next*2:=Nat.pow_succ ..
   have hor:sV|||2^next=sV+2^next:=by
    have:=Nat.two_pow_add_eq_or_of_lt h0 1
    rw[Nat.mul_one] at this
    rw[Nat.or_comm,←this,Nat.add_comm]
   have bL:∀x,x%2^(next+1)=x%2^next+2^next*(x/2^next%2):=fun x=>Nat.mod_pow_succ
   have hlt:∀x,x%2^next<2^next:=fun x=>Nat.mod_lt _ (Nat.two_pow_pos _)
   have aRC:∀x,x/2^next%2=0∨x/2^next%2=1:=fun x=>by omega
   rw[hor]
   have z1:∀mask,mask<2^N→mask%2^(next+1)=sV+2^next→out.getD mask 0=0:=by
    intro x hx e
    refine hz x hx ?_
    have h1:=bL x
    have h2:=hlt x
    rcases aRC x with h3|h3<;>rw[h3] at h1<;>omega
   have g1:=ih (next+1) rows (sV+2^next) out (by omega) (by omega) hl z1
   have z2:∀mask,mask<2^N→mask%2^(next+1)=sV→((FD.aR hg).frm d (next+1) rows (sV+2^next) out).getD mask 0=0:=by
    intro x hx e
    rw[g1 x hx,if_neg (by have:=Nat.two_pow_pos next;omega)]
    refine hz x hx ?_
    have h1:=bL x
    have h2:=hlt x
    rcases aRC x with h3|h3<;>rw[h3] at h1<;>omega
   have g2:=ih (next+1) ((FD.aR hg).wo rows next) sV _ (by omega) (by omega) (by rw[Fld.Bp];exact hl) z2
   rw[g2 mask hm,g1 mask hm]
   have h1:=bL mask
   have h2:=hlt mask
   rw[List.range'_succ,List.filter_cons]
   rcases aRC mask with h3|h3
   ·rw[h3] at h1
    rw[if_pos (show decide (mask/2^next%2≠1)=true by rw[h3];rfl),List.foldl_cons]
    by_cases e:mask%2^next=sV
    ·rw[if_pos (by omega),if_pos e]
    ·rw[if_neg (by omega),if_neg (by omega),if_neg e]
   ·rw[h3] at h1
    rw[if_neg (show ¬decide (mask/2^next%2≠1)=true by rw[h3];simp)]
    rw[if_neg (show ¬mask%2^(next+1)=sV by omega)]
    by_cases e:mask%2^next=sV
    ·rw[if_pos (by omega),if_pos e]
    ·rw[if_neg (by omega),if_neg e]
theorem VW{N mask i:Nat}:i∈eJ N mask↔i<N∧mask/2^i%2=1:=by
 unfold eJ
 rw[List.mem_filter,List.mem_range]
 simp
theorem ahm{N:Nat}(rows:List (List (El D))){mask:Nat}(hm:mask<2^N):(qA hg N rows).getD mask 0=sT hg N rows (eJ N mask):=by
 unfold qA sT
 rw[aMY hg N 0 rows 0 (List.replicate (2^N) 0) (by omega) (by simp) (by simp) (fun x hx _=>by
  rw[List.getD_eq_getElem?_getD,List.getElem?_replicate,if_pos hx];rfl) mask hm]
 rw[if_pos (by simp[Nat.mod_one])]
 congr 2
 unfold agf
 rw[List.range_eq_range']
 refine List.filter_congr fun i hi=>?_
 have JO:i<N:=by simpa [List.mem_range'] using hi
 by_cases c:mask/2^i%2=1
 ·have:i∈eJ N mask:=VW.2 ⟨JO,c⟩
  simp[c,this]
 ·have:i∉eJ N mask:=fun h=>c (VW.1 h).2
  simp[c,this]
end
theorem VX{n:Nat}:∀(z lo:Nat) (l:List Nat),l∈dm n z lo↔l.length=z∧l.Pairwise (·<·)∧∀x∈l,lo≤x∧x<n:=by
 intro z
 induction z with
 |zero=>
  intro lo l
  constructor
  ·intro h
   have:l=[]:=by simpa [dm] using h
   subst this;simp
  ·rintro⟨h,_,_⟩
   rw[List.length_eq_zero_iff.1 h];simp[dm]
 |succ z ih=>
  intro lo l
  have key:∀d i,l∈yJ (dm n z) d i↔∃j l',i≤j∧j<i+d∧l=j::l'∧l'∈dm n z (j+1):=by
   intro d
   induction d with
   |zero=>intro i;simp only[yJ,List.not_mem_nil,false_iff];rintro⟨j,l',h1,h2,_⟩;omega
   |succ d ihd=>
    intro i
    unfold yJ
    rw[List.mem_append,ihd,List.mem_map]
    constructor
    ·rintro(⟨l',h1,rfl⟩|⟨j,l',h1,h2,h3,h4⟩)
     ·exact⟨i,l',Nat.le_refl _,by omega,rfl,h1⟩
     ·exact⟨j,l',by omega,by omega,h3,h4⟩
    ·rintro⟨j,l',h1,h2,h3,h4⟩
     by_cases e:j=i
     ·subst e;exact .inl ⟨l',h4,h3.symm⟩
     ·exact .inr ⟨j,l',by omega,by omega,h3,h4⟩
  unfold dm
  rw[key]
  constructor
  ·rintro⟨j,l',h1,h2,rfl,h4⟩
   obtain⟨g1,g2,g3⟩:=(ih _ _).1 h4
   refine⟨by simp[g1],List.pairwise_cons.2 ⟨fun x hx=>by have:=g3 x hx;omega,g2⟩,fun x hx=>?_⟩
   rcases List.mem_cons.1 hx with rfl|hx
   ·omega
   ·have:=g3 x hx;omega
  ·rintro⟨h1,h2,h3⟩
   cases l with
   |nil=>simp at h1
   |cons j l'=>
    have hj:=h3 j (List.mem_cons_self ..)
    have hp:=List.pairwise_cons.1 h2
    refine⟨j,l',hj.1,by omega,rfl,(ih _ _).2 ⟨by simpa using h1,hp.2,fun x hx=>?_⟩⟩
    have:=hp.1 x hx
    have:=(h3 x (List.mem_cons_of_mem _ hx)).2
    omega
theorem asE(N mask:Nat):eJ N mask∈dm N (eJ N mask).length 0:=by
 rw[VX]
 refine⟨rfl,?_,fun x hx=>⟨Nat.zero_le _,(VW.1 hx).1⟩⟩
 unfold eJ
 exact List.pairwise_lt_range.filter _
theorem az9{N a:Nat}(ha:a<2^N):eJ (N+1) (a+2^N)=eJ N a++[N]:=by
 have h1:(a+2^N)/2^N%2=1:=by
  rw[Nat.add_div_right _ (Nat.two_pow_pos _),Nat.div_eq_of_lt ha]
 rw[vr,if_pos h1]
 congr 1
 unfold eJ
 refine List.filter_congr fun i hi=>?_
 have JO:=List.mem_range.1 hi
 have e:(2:Nat)^N=2^i*(2^(N-i-1)*2):=by
  rw[←Nat.pow_succ,←Nat.pow_add];congr 1;omega
 have:(a+2^N)/2^i%2=a/2^i%2:=by
  rw[e,Nat.add_mul_div_left _ _ (Nat.two_pow_pos _),Nat.add_mul_mod_self_right]
 rw[this]
theorem asF:∀(N:Nat) (l:List Nat),l.Pairwise (·<·)→(∀x∈l,x<N)→∃mask,mask<2^N∧eJ N mask=l:=by
 intro N
 induction N with
 |zero=>
  intro l _ h
  have:l=[]:=by
   cases l with
   |nil=>rfl
   |cons x l=>have:=h x (List.mem_cons_self ..);omega
  subst this
  exact⟨0,by simp,rfl⟩
 |succ N ih=>
  intro l hp h
  rcases List.eq_nil_or_concat l with rfl|⟨L,b,rfl⟩
  ·obtain⟨mask,h1,h2⟩:=ih [] List.Pairwise.nil (fun x hx=>by cases hx)
   refine⟨mask,by rw[Nat.pow_succ];omega,?_⟩
   rw[vr,h2,Nat.div_eq_of_lt h1];simp
  ·rw[List.concat_eq_append] at hp h ⊢
   obtain⟨p1,_,p3⟩:=List.pairwise_append.1 hp
   by_cases e:b=N
   ·subst e
    obtain⟨mask,h1,h2⟩:=ih L p1 (fun x hx=>p3 x hx b (List.mem_singleton.2 rfl))
    exact⟨mask+2^b,by rw[Nat.pow_succ];omega,by rw[az9 h1,h2]⟩
   ·have hb:=h b (List.mem_append_right _ (List.mem_singleton.2 rfl))
    obtain⟨mask,h1,h2⟩:=ih (L++[b]) hp (fun x hx=>by
     rcases List.mem_append.1 hx with hx|hx
     ·have:=p3 x hx b (List.mem_singleton.2 rfl);omega
     ·rw[List.mem_singleton.1 hx];omega)
    refine⟨mask,by rw[Nat.pow_succ];omega,?_⟩
    rw[vr,h2,Nat.div_eq_of_lt h1];simp
theorem asH(N:Nat)(L:List Nat)(i:Nat)(hi:i≤N):∀j,(∀mask<j,(eJ N mask).length=i→L.getD mask 0≤(fz N L j).getD i 0)∧((fz N L j).getD i 0=0∨∃mask<j,(eJ N mask).length=i∧(fz N L j).getD i 0=L.getD mask 0):=by
 intro j
 induction j with
 |zero=>
  refine⟨fun mask h=>by omega,.inl ?_⟩
  unfold fz
  rw[List.getD_eq_getElem?_getD,List.getElem?_replicate,if_pos (by omega)];rfl
 |succ j ih=>
  obtain⟨g1,g2⟩:=ih
  have hlen:=sS N L j
  by_cases e:(eJ N j).length=i
  ·have hv:(fz N L (j+1)).getD i 0=if L.getD j 0>(fz N L j).getD i 0 then L.getD j 0 else (fz N L j).getD i 0:=by
    conv=>lhs;unfold fz
    rw[e,List.getD_eq_getElem?_getD,List.getElem?_set_self (by omega)];rfl
   rw[hv]
   by_cases c:L.getD j 0>(fz N L j).getD i 0
   ·rw[if_pos c]
    refine⟨fun mask h1 h2=>?_,.inr ⟨j,by omega,e,rfl⟩⟩
    by_cases e2:mask=j
    ·subst e2;exact Nat.le_refl _
    ·have:=g1 mask (by omega) h2;omega
   ·rw[if_neg c]
    refine⟨fun mask h1 h2=>?_,?_⟩
    ·by_cases e2:mask=j
     ·subst e2;omega
     ·exact g1 mask (by omega) h2
    ·rcases g2 with g2|⟨mask,h1,h2,h3⟩
     ·exact .inl g2
     ·exact .inr ⟨mask,by omega,h2,h3⟩
  ·have hv:(fz N L (j+1)).getD i 0=(fz N L j).getD i 0:=by
    conv=>lhs;unfold fz
    rw[List.getD_eq_getElem?_getD,List.getElem?_set_ne e,←List.getD_eq_getElem?_getD]
   rw[hv]
   refine⟨fun mask h1 h2=>?_,?_⟩
   ·by_cases e2:mask=j
    ·subst e2;exact absurd h2 e
    ·exact g1 mask (by omega) h2
   ·rcases g2 with g2|⟨mask,h1,h2,h3⟩
    ·exact .inl g2
    ·exact .inr ⟨mask,by omega,h2,h3⟩
section
variable{D:FD}{gen:Nat}(hg:D.bh gen)(N:Nat)(rows:List (List (El D)))
theorem ahn:∀(L:List (List Nat)) (m0:Nat),m0≤maxD hg N rows L m0∧(∀l∈L,sT hg N rows l≤maxD hg N rows L m0)∧(maxD hg N rows L m0=m0∨∃l∈L,maxD hg N rows L m0=sT hg N rows l):=by
 intro L
 induction L with
 |nil=>intro m0;exact⟨Nat.le_refl _,fun l h=>(by cases h),Or.inl rfl⟩
 |cons a L ih=>
  intro m0
  have e:maxD hg N rows (a::L) m0=maxD hg N rows L (if sT hg N rows a>m0 then sT hg N rows a else m0):=rfl
  rw[e]
  by_cases c:sT hg N rows a>m0
  ·rw[if_pos c]
   obtain⟨g1,g2,g3⟩:=ih (sT hg N rows a)
   refine⟨by omega,fun l hl=>?_,.inr ?_⟩
   ·rcases List.mem_cons.1 hl with rfl|hl
    ·exact g1
    ·exact g2 l hl
   ·rcases g3 with g3|⟨l,h1,h2⟩
    ·exact⟨a,List.mem_cons_self ..,g3⟩
    ·exact⟨l,List.mem_cons_of_mem _ h1,h2⟩
  ·rw[if_neg c]
   obtain⟨g1,g2,g3⟩:=ih m0
   refine⟨g1,fun l hl=>?_,?_⟩
   ·rcases List.mem_cons.1 hl with rfl|hl
    ·omega
    ·exact g2 l hl
   ·rcases g3 with g3|⟨l,h1,h2⟩
    ·exact .inl g3
    ·exact .inr ⟨l,List.mem_cons_of_mem _ h1,h2⟩
theorem apI{i:Nat}(hi:i≤N):(fz N (qA hg N rows) (2^N)).getD i 0=maxD hg N rows (dm N i 0) 0:=by
 obtain⟨g1,g2⟩:=asH N (qA hg N rows) i hi (2^N)
 obtain⟨_,m2,m3⟩:=ahn hg N rows (dm N i 0) 0
 refine Nat.le_antisymm ?_ ?_
 ·rcases g2 with g2|⟨mask,h1,h2,h3⟩
  ·omega
  ·rw[h3,ahm hg rows h1]
   exact m2 _ (by rw[←h2];exact asE N mask)
 ·rcases m3 with m3|⟨l,h1,h2⟩
  ·omega
  ·obtain⟨s1,s2,s3⟩:=(VX _ _ _).1 h1
   obtain⟨mask,k1,k2⟩:=asF N l s2 (fun x hx=>(s3 x hx).2)
   have:=g1 mask k1 (by rw[k2];exact s1)
   rw[ahm hg rows k1,k2] at this
   omega
theorem aAa:axj D gen hg N rows=asD D gen hg N rows:=by
 unfold axj asD
 congr 1
 apply List.ext_getElem (by simp[GJ])
 intro i h1 h2
 have hi:i≤N:=by simp at h1;omega
 have:=apI hg N rows hi
 rw[List.getD_eq_getElem?_getD,List.getElem?_eq_getElem h1] at this
 simp only[Option.getD_some] at this
 rw[this]
 simp[GJ]
theorem aAb{p:List Nat→Bool}{z0:Nat}:∀(d z:Nat),z≤z0→z0<z+d→(∃l∈dm N z0 0,p l=true)→(∀z',z≤z'→z'<z0→∀l∈dm N z' 0,p l=false)→∃l∈dm N z0 0,((List.range' z d).flatMap fun z=>dm N z 0).find? p=some l:=by
 intro d
 induction d with
 |zero=>intro z h1 h2;omega
 |succ d ih=>
  intro z h1 h2 hex hno
  rw[List.range'_succ,List.flatMap_cons,List.find?_append]
  by_cases e:z=z0
  ·subst e
   cases hf:(dm N z 0).find? p with
   |some l=>exact⟨l,List.mem_of_find?_eq_some hf,rfl⟩
   |none=>
    obtain⟨l,h3,h4⟩:=hex
    have:=List.find?_eq_none.1 hf l h3
    exact absurd h4 this
  ·have hf:(dm N z 0).find? p=none:=List.find?_eq_none.2 fun l hl=>by rw[hno z (Nat.le_refl _) (by omega) l hl];simp
   rw[hf,Option.none_or]
   exact ih (z+1) (by omega) (by omega) hex (fun z' h3 h4=>hno z' (by omega) h4)
theorem aFF:aMT D gen hg N rows=aFD D gen hg N rows:=by
 unfold aMT aFD aes YB ints
 rw[List.map_map]
 refine List.map_congr_left fun r hr=>?_
 have hr:=List.mem_range.1 hr
 simp only[Function.comp]
 have hPl:=sS N (qA hg N rows) (2^N)
 have aQD:∀i,(hi:i<(fz N (qA hg N rows) (2^N)).length)→(fz N (qA hg N rows) (2^N))[i]=maxD hg N rows (dm N i 0) 0:=by
  intro i hi
  have:=apI hg N rows (i:=i) (by omega)
  rw[List.getD_eq_getElem?_getD,List.getElem?_eq_getElem hi] at this
  exact this
 have iff:∀z,r+1≤maxD hg N rows (dm N z 0) 0↔∃l∈dm N z 0,r+1≤sT hg N rows l:=by
  intro z
  obtain⟨_,m2,m3⟩:=ahn hg N rows (dm N z 0) 0
  constructor
  ·intro h
   rcases m3 with m3|⟨l,h1,h2⟩
   ·omega
   ·exact⟨l,h1,by omega⟩
  ·rintro⟨l,h1,h2⟩
   have:=m2 l h1;omega
 have aVj:r+1≤maxD hg N rows (dm N N 0) 0:=by
  rw[iff]
  refine⟨List.range N,(VX _ _ _).2 ⟨by simp,List.pairwise_lt_range,fun x hx=>⟨Nat.zero_le _,List.mem_range.1 hx⟩⟩,?_⟩
  have:agf N (List.range N)=[]:=by
   unfold agf
   rw[List.filter_eq_nil_iff]
   intro i hi
   simp[List.mem_range.1 hi]
  unfold sT
  rw[this];exact hr
 have hlt:(fz N (qA hg N rows) (2^N)).findIdx (fun d=>decide (r+1≤d))<(fz N (qA hg N rows) (2^N)).length:=
  List.findIdx_lt_length_of_exists ⟨_,List.getElem_mem (show N<(fz N (qA hg N rows) (2^N)).length by omega),by rw[aQD];simpa using aVj⟩
 unfold asx
 rw[if_pos hlt]
 have hp:=List.findIdx_getElem (w:=hlt)
 rw[aQD] at hp
 have axw:∀i,i<(fz N (qA hg N rows) (2^N)).findIdx (fun d=>decide (r+1≤d))→¬r+1≤maxD hg N rows (dm N i 0) 0:=by
  intro i hi
  have:=List.not_of_lt_findIdx hi
  rw[aQD] at this
  simpa using this
 generalize (fz N (qA hg N rows) (2^N)).findIdx (fun d=>decide (r+1≤d))=z0 at hlt hp axw
 obtain⟨l,h1,h2⟩:=aAb N (p:=fun l=>decide (r+1≤sT hg N rows l)) (z0:=z0) (N+1) 0 (Nat.zero_le _) (by omega) (by
  obtain⟨l,h1,h2⟩:=(iff z0).1 (of_decide_eq_true hp)
  exact⟨l,h1,by simpa using h2⟩) (fun z' _ h3 l hl=>by
  have:=fun h=>axw z' h3 ((iff z').2 ⟨l,hl,h⟩)
  simpa using this)
 unfold Qg
 rw[h2]
 simp only[Option.getD_some]
 rw[abm _ _ l h1];rfl
end
end Go.Abs.P
end
section
namespace Go.Abs.P
open Go.Abs Go.Fld
section
variable{fl:Nat}{h:AH}{mod:Sl}{xs:List Int}{p m n:Int}{rs:List (List Int)}{s:Sl}
theorem aFG{R:Type}{k:Nat}(kn:au R)(kr:aC R){bx:Nat}(c:Value)(hx:OB h bx [c,.slice s.a s.l s.c])(hs:RR h s rs)(hm:rs.length≤65536):
 ∀(d i f left:Nat),i+d=rs.length→d<f→left≤65536→
 (ns M fl k kn kr f ⟨bx,0,none⟩ (left:Int) (i:Int) h=kr false h)∨(ns M fl k kn kr f ⟨bx,0,none⟩ (left:Int) (i:Int) h=kn h∧∀r∈rs.drop i,r.length≤left):=by
 intro d
 induction d with
 |zero=>
  intro i f left hi hf hl
  obtain⟨f,rfl⟩:∃j,f=j+1:=⟨f-1,by omega⟩
  refine .inr ⟨?_,by rw[List.drop_eq_nil_of_le (by omega)];intro r hr;cases hr⟩
  show tZ M fl k _ _ kr _ _ _ h=_
  unfold tZ
  rw[aq (s:=s) (hx.cell rfl),if_neg (by simp[hs.len];omega)]
 |succ d ih=>
  intro i f left hi hf hl
  obtain⟨f,rfl⟩:∃j,f=j+1:=⟨f-1,by omega⟩
  have qC:i<rs.length:=by omega
  obtain⟨t,a1,a2⟩:=hs.read qC
  have un:ns M fl k kn kr (f+1) ⟨bx,0,none⟩ (left:Int) (i:Int) h=tZ M fl k (ns M fl k kn kr f) kn kr ⟨bx,0,none⟩ (left:Int) (i:Int) h:=rfl
  rw[un]
  unfold tZ
  rw[aq (s:=s) (hx.cell rfl),if_pos (by simp[hs.len];omega),aq (s:=s) (hx.cell rfl),a2]
  by_cases c1:rs[i].length>left
  ·rw[if_pos (by simp[a1.len];omega)]
   exact .inl rfl
  ·rw[if_neg (by simp[a1.len];omega),aq (s:=s) (hx.cell rfl),a2,aH (n:=(left:Int)-((t.l:Nat):Int)) (left-rs[i].length) (by rw[a1.len];omega) (by omega),aH (i+1) (by push_cast;rfl) (by omega)]
   rcases ih (i+1) f (left-rs[i].length) (by omega) (by omega) (by omega) with g|⟨g1,g2⟩
   ·exact .inl g
   ·refine .inr ⟨g1,fun r hr=>?_⟩
    rw[List.drop_eq_getElem_cons qC] at hr
    rcases List.mem_cons.1 hr with rfl|hr
    ·omega
    ·have:=g2 r hr;omega
theorem aAc{b:Nat}(hb:b≤65536)(hs:RR h s rs):
 ∃(h':AH) (r:Bool),M fl fn.zH [.agg ⟨[.int .i64 0,.slice s.a s.l s.c]⟩,.int .i64 (b:Int)] h=some (.bool r,h')∧an h h'∧(r=true→rs.length≤b∧∀x∈rs,x.length≤b):=by
 have o1:=OB.alloc h [.int .i64 0,.slice s.a s.l s.c]
 have q1:=an.alloc h [.int .i64 0,.slice s.a s.l s.c]
 generalize eK:h.alloc [.int .i64 0,.slice s.a s.l s.c]=h1 at o1 q1
 have go:∀{k r},amw M fl k (fun y4 q=>some (Value.bool y4,q)) 0 s (b:Int) h=some r→M fl fn.zH [.agg ⟨[.int .i64 0,.slice s.a s.l s.c]⟩,.int .i64 (b:Int)] h=some r:=by
  intro k r he
  refine bF (k:=k) (by decide) ao5 ?_
  rw[ae4];exact he
 by_cases c:rs.length>b
 ·refine⟨h1,false,go (k:=1) ?_,q1,fun e=>by cases e⟩
  unfold amw acD
  rw[bT eK,ae (o1.cell rfl),if_pos (by decide),aq (s:=s) (o1.cell rfl),if_pos (by simp[hs.len];omega)]
 ·have pre:∀{k r},ns M fl k (Kn M fl k (fun y4 q=>some (Value.bool y4,q))) (fun y4 q=>some (Value.bool y4,q)) k ⟨h.next,0,none⟩ ((b-rs.length:Nat):Int) ((0:Nat):Int) h1=some r→M fl fn.zH [.agg ⟨[.int .i64 0,.slice s.a s.l s.c]⟩,.int .i64 (b:Int)] h=some r:=by
   intro k r he
   refine go (k:=k) ?_
   unfold amw acD aix
   rw[bT eK,ae (o1.cell rfl),if_pos (by decide),aq (s:=s) (o1.cell rfl),if_neg (by simp[hs.len];omega),aq (s:=s) (o1.cell rfl),aH (b-rs.length) (by rw[hs.len];omega) (by omega)]
   exact he
  rcases aFG (fl:=fl) (k:=rs.length+1) (Kn M fl (rs.length+1) (fun y4 q=>some (Value.bool y4,q))) (fun y4 q=>some (Value.bool y4,q)) (.int .i64 0) o1 (hs.quiet q1) (by omega) rs.length 0 (rs.length+1) (b-rs.length) (by omega) (by omega) (by omega) with g|⟨g1,g2⟩
  ·exact⟨h1,false,pre g,q1,fun e=>by cases e⟩
  ·exact⟨h1,true,pre g1,q1,fun _=>⟨by omega,fun x hx=>by have:=g2 x (by rw[List.drop_zero];exact hx);omega⟩⟩
theorem asI{b:Nat}(hb:b≤65536)(hs:RR h s rs)(p m n:Int):
 ∃(h':AH) (r:Bool),M fl fn.tC [ca p m mod n s,.int .i64 (b:Int)] h=some (.bool r,h')∧an h h'∧(r=true→rs.length≤b∧∀x∈rs,x.length≤b):=by
 have o1:=OB.alloc h (Bq p m mod n s)
 have q1:=an.alloc h (Bq p m mod n s)
 generalize eK:h.alloc (Bq p m mod n s)=h1 at o1 q1
 obtain⟨h2,r,c1,c2,c3⟩:=aAc (fl:=fl) hb (hs.quiet q1)
 refine⟨h2,r,bF (k:=1) (by decide) ao3 ?_,q1.trans c2,c3⟩
 unfold ca
 rw[aeQ]
 unfold tC aB3
 rw[bT eK,aq (s:=s) (o1.cell rfl),ak c1]
 simp only[asBool]
theorem asJ(p m n:Int)(bL:SI h mod xs)(hb:xs.length≤ow)(bR:fl≤h.next)(hs:RR h s rs):
 ∃(h':AH) (r:Bool),M fl fn.pU [ca p m mod n s] h=some (.bool r,h')∧an h h'∧(r=true→rs.length≤120∧∀x∈rs,x.length≤120):=by
 have o1:=OB.alloc h (Bq p m mod n s)
 have q1:=an.alloc h (Bq p m mod n s)
 generalize eK:h.alloc (Bq p m mod n s)=h1 at o1 q1
 have l1:=q1.1
 obtain⟨h2,r,c1,c2,c3⟩:=asI (fl:=fl) (b:=120) (mod:=mod) (by omega) (hs.quiet q1) p m n
 have q2:=q1.trans c2
 have o2:=o1.quiet c2
 have l2:=q2.1
 unfold ca at c1
 have go:∀{r},alH M fl 1 (fun y2 q=>some (Value.bool y2,q)) p m mod n s h=some r→M fl fn.pU [ca p m mod n s] h=some r:=by
  intro r he
  refine bF (k:=1) (by decide) afY ?_
  unfold ca
  rw[YN];exact he
 cases r with
 |false=>
  refine⟨h2,false,go ?_,q2,fun e=>by cases e⟩
  unfold alH
  rw[bT eK,ae (o1.cell rfl),ae (o1.cell rfl),aq (s:=mod) (o1.cell rfl),ae (o1.cell rfl),aq (s:=s) (o1.cell rfl),ak (show M fl fn.tC [.agg ⟨[.int .i64 p,.int .i64 m,.slice mod.a mod.l mod.c,.int .i64 n,.slice s.a s.l s.c]⟩,.int .i64 120] h1=_ from c1)]
  simp only[asBool]
  rw[if_neg (by simp)]
 |true=>
  obtain⟨d1,d2⟩:=c3 rfl
  obtain⟨h3,e,e1,e2,e3⟩:=TN (fl:=fl) p m (bL.quiet q2) hb (by omega) (n:=n) (hs.quiet q2) (by omega) (fun r hr=>by have:=d2 r hr;omega)
  have o3:=o2.quiet e2
  unfold ca at e1
  have fin:∀v,(if (e !=0)=false then if decide (n>16)=false then some (Value.bool (decide (n≤9)),h3) else some (Value.bool true,h3) else some (Value.bool true,h3))=some (Value.bool v,h3)→M fl fn.pU [ca p m mod n s] h=some (.bool v,h3):=by
   intro v hv
   refine go ?_
   unfold alH
   rw[bT eK,ae (o1.cell rfl),ae (o1.cell rfl),aq (s:=mod) (o1.cell rfl),ae (o1.cell rfl),aq (s:=s) (o1.cell rfl),ak (show M fl fn.tC [.agg ⟨[.int .i64 p,.int .i64 m,.slice mod.a mod.l mod.c,.int .i64 n,.slice s.a s.l s.c]⟩,.int .i64 120] h1=_ from c1)]
   simp only[asBool,if_true]
   rw[ae (o2.cell rfl),ae (o2.cell rfl),aq (s:=mod) (o2.cell rfl),ae (o2.cell rfl),aq (s:=s) (o2.cell rfl),ak e1]
   simp only[asInt,if_true]
   rw[ae (n:=n) (o3.cell rfl),ae (n:=n) (o3.cell rfl)]
   exact hv
  by_cases z:(e !=0)=false
  ·by_cases y:decide (n>16)=false
   ·exact⟨h3,_,fin (decide (n≤9)) (by rw[if_pos z,if_pos y]),q2.trans e2,fun _=>⟨d1,d2⟩⟩
   ·exact⟨h3,_,fin true (by rw[if_pos z,if_neg y]),q2.trans e2,fun _=>⟨d1,d2⟩⟩
  ·exact⟨h3,_,fin true (by rw[if_neg z]),q2.trans e2,fun _=>⟨d1,d2⟩⟩
theorem PrR.ate{h1 h2:AH}{f f':∀(D:FD) (gen:Nat) (_:D.bh gen) (N:Nat) (_:List (List (El D))),List Int}{v v':Value}(a:PrR h1 p m xs n rs f v)(b:PrR h2 p m xs n rs f' v')
 (hf:∀(D:FD) (gen EH:Nat) (hg:D.bh gen) (hg':D.bh EH) (N:Nat) (rows:List (List (El D))),N≤64→rows.length≤256→f D gen hg N rows=f' D EH hg' N rows∧(f D gen hg N rows).length≤65536):
 ∃(s s':Sl) (e:Int) (zs:List Int),v=.tuple ⟨[.slice s.a s.l s.c,.int .i64 e]⟩∧v'=.tuple ⟨[.slice s'.a s'.l s'.c,.int .i64 e]⟩∧SI h1 s zs∧SI h2 s' zs∧zs.length≤65536:=by
 cases a with
 |err e ce ne hv=>
  cases b with
  |err e' ce' ne' hv'=>
   have:=ce.unique ce'
   subst this
   exact⟨⟨none,0,0⟩,⟨none,0,0⟩,e,[],hv,hv',SI.nil _,SI.nil _,by simp⟩
  |big ce' hn hv'=>exact absurd (ce.unique ce') ne
  |ok D gen hg N rows ce' ck hN s si hv'=>exact absurd (ce.unique ce') ne
 |big ce hn hv=>
  cases b with
  |err e' ce' ne' hv'=>exact absurd (ce'.unique ce) ne'
  |big ce' hn hv'=>exact⟨⟨none,0,0⟩,⟨none,0,0⟩,8,[],hv,hv',SI.nil _,SI.nil _,by simp⟩
  |ok D gen hg N rows ce' ck hN s si hv'=>have:=ck.en;omega
 |ok D gen hg N rows ce ck hN s si hv=>
  cases b with
  |err e' ce' ne' hv'=>exact absurd (ce'.unique ce) ne'
  |big ce' hn hv'=>have:=ck.en;omega
  |ok D' EH hg' N' EF ce' ck' hN' s' si' hv'=>
   have eD:D=D':=gJ ck.hF ck'.hF
   subst eD
   have eN:N=N':=by have:=ck.en;have:=ck'.en;omega
   subst eN
   have eR:rows=EF:=JL (ck.er.symm.trans ck'.er)
   subst eR
   obtain⟨k1,k2⟩:=hf D gen EH hg hg' N rows ck.n64 ck.le
   exact⟨s,s',0,_,hv,hv',si,by rw[k1];exact si',k2⟩
end
end Go.Abs.P
end
section
namespace Go.Abs.P
open Go.Abs Go.Fld
theorem aet{h:AH}{mod s:Sl}{xs:List Int}{rs:List (List Int)}(p m n:Int)(bL:SI h mod xs)(hb:xs.length≤ow)(hs:RR h s rs):
 ∃h',M h.next fn.gO [ca p m mod n s] h=some (.bool true,h')∧an h h':=by
 have o1:=OB.alloc h (Bq p m mod n s)
 have q1:=an.alloc h (Bq p m mod n s)
 generalize eK:h.alloc (Bq p m mod n s)=h1 at o1 q1
 have l1:=q1.1
 have go:∀{r},alG M h.next 1 (fun y2 q=>some (Value.bool y2,q)) p m mod n s h=some r→M h.next fn.gO [ca p m mod n s] h=some r:=by
  intro r he
  refine bF (k:=1) (by decide) C5 ?_
  unfold ca
  rw[z6];exact he
 obtain⟨h2,b,c1,c2,c3⟩:=asJ (fl:=h.next) (mod:=mod) p m n (bL.quiet q1) hb l1 (hs.quiet q1)
 have q2:=q1.trans c2
 have o2:=o1.quiet c2
 have l2:=q2.1
 unfold ca at c1
 cases b with
 |false=>
  refine⟨h2,go ?_,q2⟩
  unfold alG
  rw[bT eK,ak (aks _ _)]
  simp only[asBool]
  rw[if_pos (by decide),ae (o1.cell rfl),ae (o1.cell rfl),aq (s:=mod) (o1.cell rfl),ae (o1.cell rfl),aq (s:=s) (o1.cell rfl),ak c1]
  simp only
  rw[if_pos (by decide),ak (aks _ _)]
 |true=>
  obtain⟨d1,d2⟩:=c3 rfl
  have hm:rs.length≤65536:=by omega
  have hw:∀r∈rs,r.length≤65536:=fun r hr=>by have:=d2 r hr;omega
  obtain⟨h3,v3,e1,e2,e3⟩:=akL (fl:=h.next) p m (bL.quiet q2) hb (by omega) (n:=n) (hs.quiet q2) hm hw
  have q3:=q2.trans e2
  have o3:=o2.quiet e2
  have l3:=q3.1
  obtain⟨h4,v4,f1,f2,f3⟩:=agi (fl:=h.next) p m (bL.quiet q3) hb (by omega) (n:=n) (hs.quiet q3) hm hw
  have q4:=q3.trans f2
  have o4:=o3.quiet f2
  have l4:=q4.1
  obtain⟨h5,v5,g1,g2,g3⟩:=TO (fl:=h.next) p m (bL.quiet q4) hb (by omega) (n:=n) (hs.quiet q4) hm hw
  have q5:=q4.trans g2
  have o5:=o4.quiet g2
  have l5:=q5.1
  obtain⟨h6,v6,k1,k2,k3⟩:=agj (fl:=h.next) p m (bL.quiet q5) hb (by omega) (n:=n) (hs.quiet q5) hm hw
  have q6:=q5.trans k2
  obtain⟨s1,s2,ea,za,rfl,rfl,i1,i2,i3⟩:=e3.ate f3 (fun D gen EH hg hg' N rows hN hr=>⟨aFF hg N rows,by unfold aMT aes;simp;omega⟩)
  obtain⟨s3,s4,eb,zb,rfl,rfl,j1,j2,j3⟩:=g3.ate k3 (fun D gen EH hg hg' N rows hN hr=>⟨aAa hg N rows,by unfold axj;simp[ints];omega⟩)
  have q46:=g2.trans k2
  have w1:=C9 (fl:=h.next) ((i1.quiet f2).quiet q46) (i2.quiet q46) (by unfold ow;omega)
  have w2:=C9 (fl:=h.next) (j1.quiet k2) j2 (by unfold ow;omega)
  rw[decide_eq_true rfl] at w1 w2
  refine⟨h6,go ?_,q6⟩
  unfold ca at e1 f1 g1 k1
  unfold alG
  rw[bT eK,ak (aks _ _)]
  simp only[asBool]
  rw[if_pos (by decide),ae (o1.cell rfl),ae (o1.cell rfl),aq (s:=mod) (o1.cell rfl),ae (o1.cell rfl),aq (s:=s) (o1.cell rfl),ak c1]
  simp only
  rw[if_neg (by decide),ae (o2.cell rfl),ae (o2.cell rfl),aq (s:=mod) (o2.cell rfl),ae (o2.cell rfl),aq (s:=s) (o2.cell rfl),ak e1]
  simp only[aE,ar,aM,aX,asInt,if_true]
  rw[ae (o3.cell rfl),ae (o3.cell rfl),aq (s:=mod) (o3.cell rfl),ae (o3.cell rfl),aq (s:=s) (o3.cell rfl),ak f1]
  simp only[if_true]
  rw[ae (o4.cell rfl),ae (o4.cell rfl),aq (s:=mod) (o4.cell rfl),ae (o4.cell rfl),aq (s:=s) (o4.cell rfl),ak g1]
  simp only[if_true]
  rw[ae (o5.cell rfl),ae (o5.cell rfl),aq (s:=mod) (o5.cell rfl),ae (o5.cell rfl),aq (s:=s) (o5.cell rfl),ak k1]
  simp only[if_true]
  rw[if_pos (by simp),ak w1]
  simp only[if_true]
  rw[if_pos (by simp),ak w2]
end Go.Abs.P
end
section
namespace Go.Abs
open Go.RowKit Go.ChangeShapes Go.WideShapes Go.Deep
section
variable{H:Type}{enc:TypeId×Value→H}{P:Program}{w:World}{held:Bool}
theorem JM{t e:TypeId}{fuel:Nat}{cs:List Value}{x:DataW H×List MemPlace}(ht:P.underlying t=some (.slice e))(h:DataW.trod enc P w 0 (fun _=>true) held fuel t cs=some x):∃a l c,cs=[.slice a l c]:=by
 rcases open_slice ht h with⟨hcs,_⟩|⟨a',a_K,cap',m,n,D,Pl,hcs,_⟩
 ·exact⟨_,_,_,hcs⟩
 ·exact⟨_,_,_,hcs⟩
theorem RR.open{t e q:TypeId}{fuel:Nat}{a:Option Addr}{l c:Nat}{x:DataW H×List MemPlace}(ht:P.underlying t=some (.slice e))(he:P.underlying e=some (.slice q))(hq:P.underlying q=some (.int .i64))(ce:P.cellsOf e=1)(cq:P.cellsOf q=1)
 (h:DataW.trod enc P w 0 (fun _=>true) held fuel t [.slice a l c]=some x):∃rs:List (List Int),RR (Up w) ⟨a,l,c⟩ rs∧rs.length≤maxLen∧nice w.heap.size (.slice a l c)=true∧∀r∈rs,r.length≤maxLen:=by
 rcases open_slice1 ht ce h with⟨hcs,_⟩|⟨x,l',c',m,n,V,D,Pl,hcs,_,hl,hm,hmm,_,hx⟩
 ·simp only[List.cons.injEq,Value.slice.injEq,and_true] at hcs
  obtain⟨rfl,rfl,rfl⟩:=hcs
  exact⟨[],RR.nil _,by simp,rfl,by simp⟩
 ·simp only[List.cons.injEq,Value.slice.injEq,and_true] at hcs
  obtain⟨rfl,rfl,rfl⟩:=hcs
  simp only[if_true] at hmm
  subst hmm
  have each:∀i,i<m→∃y:Sl×List Int,V i=y.1.v∧SI (Up w) y.1 y.2∧y.2.length≤maxLen∧nice w.heap.size (V i)=true:=by
   intro i hi
   obtain⟨h1,h2⟩:=hx i hi
   obtain⟨a',l',c',e'⟩:=JM he h2
   rw[e'] at h2
   obtain⟨xs,k1,k2,k3,_⟩:=SI.open he hq cq h2
   have ev:V i=.slice a' l' c':=by simpa using e'
   exact⟨(⟨a',l',c'⟩,xs),ev,k1,k2,by rw[ev];exact k3⟩
  haveI:Inhabited (Sl×List Int):=⟨(⟨none,0,0⟩,[])⟩
  obtain⟨y,hy⟩:=choose_lt each
  refine⟨(List.range l).map fun i=>(y i).2,⟨by simp,fun i hi=>?_⟩,by simp;omega,?_,?_⟩
  ·simp only[List.length_map,List.length_range] at hi
   obtain⟨e1,e2,e3,e4⟩:=hy i (by omega)
   obtain⟨h1,h2,h3⟩:=QP (hx i (by omega)).1
   rw[(J7 x i).1,(J7 x i).2] at h3
   rw[(J7 x i).1] at h2
   refine⟨x,(y i).1,rfl,h2,?_,by simpa using e2⟩
   rw[h3]
   unfold img
   rw[if_pos e4,e1]
  ·by_cases h0:m=0
   ·have:l=0:=by omega
    subst h0;subst this;simp[nice]
   ·have h1:=QP (hx 0 (by omega)).1
    have e0:x.add 0=x:=by simp[Addr.add]
    rw[e0] at h1
    obtain⟨h1,h2,_⟩:=h1
    simp[nice,h1,h2,hl]
    right
    unfold maxLen at hm;unfold oB;omega
  ·intro r hr
   simp only[List.mem_map,List.mem_range] at hr
   obtain⟨i,hi,rfl⟩:=hr
   exact(hy i (by omega)).2.2.1
theorem aTt{α:Type}{l:List α}(h:l.length=5):∃a b c d e,l=[a,b,c,d,e]:=by
 match l,h with
 |[a,b,c,d,e],_=>exact⟨a,b,c,d,e,rfl⟩
theorem aAd{t tf ti ts tr:TypeId}{f0 f1 f2 g0 g1 g2:Field}{r:Reach}{b0:Nat}{v:Value}{d:DataW H}{ps:List MemPlace}(ht:P.underlying t=some (.struct #[f0,f1,f2]))(hf:P.underlying tf=some (.struct #[g0,g1,g2]))
 (hi:P.underlying ti=some (.int .i64)) (hs:P.underlying ts=some (.slice ti)) (hr:P.underlying tr=some (.slice ts)) (ct:P.cellsOf t=5) (cf:P.cellsOf tf=3) (ci:P.cellsOf ti=1) (cs:P.cellsOf ts=1) (cr:P.cellsOf tr=1)
 (e:[(f0.type,f0.offset),(f1.type,f1.offset),(f2.type,f2.offset),(g0.type,g0.offset),(g1.type,g1.offset),(g2.type,g2.offset)]=[(tf,0),(ti,3),(tr,4),(ti,0),(ti,1),(ts,2)])
 (aNM:Value.okWide P w r b0 t v) (h:DataW.Trod enc P w 0 (fun _=>true) held t v d ps):
 ∃(p m n:Int) (mod s:Sl) (xs:List Int) (rs:List (List Int)),v=_root_.Go.Abs.P.ca p m mod n s∧SI (Up w) mod xs∧xs.length≤maxLen∧RR (Up w) s rs∧rs.length≤maxLen∧(∀r∈rs,r.length≤maxLen)∧∀sz,cU (muW w) sz v v:=by
 simp only[List.cons.injEq,Prod.mk.injEq,and_true] at e
 obtain⟨⟨a1,a2⟩,⟨a3,a4⟩,⟨a5,a6⟩,⟨a7,a8⟩,⟨a9,a10⟩,⟨a11,a12⟩⟩:=e
 obtain⟨cells,rfl,hsz⟩:=okWide_struct ht aNM
 obtain⟨l⟩:=cells
 obtain⟨c0,c1,c2,c3,c4,rfl⟩:=aTt (l:=l) (by rw[←ct,←hsz];rfl)
 obtain⟨fuel,hf0⟩:=h
 obtain⟨y0,y1,y2,k,_,_,q0,q1,q2⟩:=trod_struct3 ht hf0
 rw[a1,a2,cf] at q0
 rw[a3,a4,ci] at q1
 rw[a5,a6,cr] at q2
 obtain⟨z0,z1,z2,k',_,_,r0,r1,r2⟩:=trod_struct3 hf q0
 rw[a7,a8,ci] at r0
 rw[a9,a10,ci] at r1
 rw[a11,a12,cs] at r2
 simp only[Value.cells,List.drop_succ_cons,List.drop_zero,List.take_succ_cons,List.take_zero] at q1 q2 r0 r1 r2
 obtain⟨p,e0,_,_⟩:=DataW.trod_int hi r0
 obtain⟨m,e1,_,_⟩:=DataW.trod_int hi r1
 obtain⟨n,e3,_,_⟩:=DataW.trod_int hi q1
 obtain⟨ma,ml,mc,e2⟩:=JM hs r2
 obtain⟨sa,sl,sc,e4⟩:=JM hr q2
 rw[e2] at r2
 rw[e4] at q2
 simp only[List.cons.injEq,and_true] at e0 e1 e2 e3 e4
 subst e0 e1 e2 e3 e4
 obtain⟨xs,x1,x2,x3,_⟩:=SI.open hs hi ci r2
 obtain⟨rs,s1,s2,s3,s4⟩:=RR.open hr hs hi cs ci q2
 refine⟨p,m,n,⟨ma,ml,mc⟩,⟨sa,sl,sc⟩,xs,rs,rfl,x1,x2,s1,s2,s4,fun sz=>?_⟩
 have:=bN.cons (.int .i64 p) (bN.cons (.int .i64 m) (bN.cons (ab5 (sz:=sz) x3) (bN.cons (.int .i64 n) (bN.cons (ab5 (sz:=sz) s3) .nil))))
 exact .agg this.1 this.2
end
end Go.Abs
end
