/- Shortened by a program of ours out of readable texts. -/
import Derived.Test.YtgplcfblbkmcmaaGreatQ3
import Derived.KernelRfl
section
namespace Go.Abs
theorem R5(cs:List Value)(o:Nat)(xs:List Value)(h:o+xs.length=cs.length):mb cs o xs=cs.take o++xs:=by
 induction xs generalizing cs o with
 |nil=>simp at h;simp[mb,List.take_of_length_le (Nat.le_of_eq h.symm)]
 |cons x xs ih=>
  simp only[mb]
  rw[ih _ _ (by simp at h ⊢;omega),List.take_set,List.take_add_one,List.getElem?_eq_getElem (by simp at h;omega)]
  have:(List.take o cs).length=o:=by simp at h ⊢;omega
  rw[Option.toList_some,List.set_append_right _ _ (by omega),this]
  simp
theorem rV(a b:List Int):iv (a++b)=iv a++iv b:=by simp[iv]
theorem Xr(a:List Int)(n:Nat):(iv a).take n=iv (a.take n):=by simp[iv,List.map_take]
theorem nX(a b:List Nat):ints (a++b)=ints a++ints b:=by simp[ints]
theorem Uq(a:List Nat)(n:Nat):(ints a).take n=ints (a.take n):=by simp[ints,List.map_take]
theorem ar6(a:List Int):(iv a).all yC=true:=by simp[iv,List.all_map];intro x _;rfl
end Go.Abs
namespace Go.Abs.P
open Go.Abs Go.Fld
theorem ahK(p top b:Nat)(os ls az:List Nat)(i:Nat)(h1:i<os.length)(h2:i<ls.length)(h3:i<az.length)(h:i<(jq p top b os ls az).length):
 (jq p top b os ls az)[i]=(os[i]+(p-top)*ls[i]+b*az[i])%p:=by
 induction os generalizing ls az i with
 |nil=>cases h1
 |cons o os ih=>cases ls with
  |nil=>cases h2
  |cons l ls=>cases az with
   |nil=>cases h3
   |cons a az=>cases i with
    |zero=>simp[jq]
    |succ i=>simp only[jq,List.getElem_cons_succ];exact ih ls az i _ _ _ _
theorem ahL(p top b:Nat)(os ls az:List Nat)(n:Nat)(hn:ls.length≤n):jq p top b (os.take n) ls az=jq p top b os ls az:=by
 induction os generalizing ls az n with
 |nil=>simp
 |cons o os ih=>cases ls with
  |nil=>cases n<;>simp[jq]
  |cons l ls=>cases az with
   |nil=>cases n<;>simp[jq]
   |cons a az=>
    obtain⟨n,rfl⟩:∃k,n=k+1:=⟨n-1,by simp at hn;omega⟩
    simp only[List.take_succ_cons,jq]
    rw[ih ls az n (by simpa using hn)]
def js(D:FD):List Nat:=if D.m=1 then [] else D.low
structure Xs(D:FD):Prop where
 q:D.q≤256
 one:D.m=1→D.low=[0]
theorem Xs.p{D:FD}(f:Xs D):D.p≤256:=by
 have h1:=f.q
 have h2:D.p^1≤D.p^D.m:=Nat.pow_le_pow_right (by have:=D.hp;omega) D.hm
 unfold FD.q at h1
 rw[Nat.pow_one] at h2
 omega
theorem Xs.m{D:FD}(f:Xs D):D.m≤8:=by
 have h1:=f.q
 refine Classical.byContradiction fun hc=>?_
 have h3:2^9≤D.p^9:=Nat.pow_le_pow_left D.hp 9
 have h2:D.p^9≤D.p^D.m:=Nat.pow_le_pow_right (by have:=D.hp;omega) (by omega)
 unfold FD.q at h1
 omega
theorem ar7{p top o l b a:Nat}(hp:p≤256)(ht:top≤p)(ho:o<256)(hl:l<256)(hb:b<256)(ha:a<256):
 bL (bL ((o:Int)+(bL (bL ((p:Int)-(top:Int))*(l:Int))))+(bL ((b:Int)*(a:Int))))=((o+(p-top)*l+b*a:Nat):Int):=by
 have h1:(p-top)*l≤256*256:=Nat.mul_le_mul (by omega) (by omega)
 have h2:b*a≤256*256:=Nat.mul_le_mul (by omega) (by omega)
 have e1:bL ((p:Int)-(top:Int))=((p-top:Nat):Int):=av (p-top) (by omega) (by omega)
 have e2:bL (((p-top:Nat):Int)*(l:Int))=(((p-top)*l:Nat):Int):=av _ (by push_cast;rfl) (by omega)
 have e3:bL ((b:Int)*(a:Int))=((b*a:Nat):Int):=av _ (by push_cast;rfl) (by omega)
 have e4:bL ((o:Int)+(((p-top)*l:Nat):Int))=((o+(p-top)*l:Nat):Int):=av _ (by push_cast;rfl) (by omega)
 have e5:bL (((o+(p-top)*l:Nat):Int)+((b*a:Nat):Int))=((o+(p-top)*l+b*a:Nat):Int):=av _ (by push_cast;rfl) (by omega)
 rw[e1,e2,e3,e4,e5]
section
variable{D:FD}{fl k:Nat}{h0:AH}{bx:Nat}{mod ta tb:Sl}{a bs:List Nat}{bo:Nat}
theorem acY{R:Type}(kn:aY R)(f:Xs D)(hx:OB h0 bx [.int .i64 (D.p:Int),.int .i64 (D.m:Int),.slice mod.a mod.l mod.c])(bF:SI h0 mod (ints (js D)))
 (ha:SI h0 ta (ints a)) (hla:a.length=D.m) (PX:Small D.p a) (hb:SI h0 tb (ints bs)) (hlb:bs.length=D.m) (hsb:Small D.p bs) (hbo:h0.next≤bo) (bN:fl≤bo)
 (sh:List Nat) (UH:sh.length=D.m) (hss:Small D.p sh) (top ib:Nat) (ht:top≤D.p) (Sw:ib<bs.length):
 ∀(d i g:Nat) (h:AH),i+d=D.m→d<g→OB h bo (iv (ints ((jq D.p top bs[ib] sh D.low a).take i++sh.drop i)))→ai h0 h→
 ∃h',im M fl k kn g ⟨bx,0,none⟩ ta tb ⟨some ⟨bo,0,none⟩,D.m,D.m⟩ (ib:Int) (top:Int) (D.m:Int) (i:Int) h=kn ⟨bx,0,none⟩ ta tb ⟨some ⟨bo,0,none⟩,D.m,D.m⟩ (ib:Int) h'∧
  OB h' bo (iv (ints (jq D.p top bs[ib] sh D.low a)))∧ai h0 h':=by
 have hp:=f.p
 have hm:=f.m
 have hlen:(jq D.p top bs[ib] sh D.low a).length=D.m:=by rw[Mo,UH,D.hl,hla];simp
 intro d
 induction d with
 |zero=>
  intro i g h hi hg ho hq
  obtain⟨g,rfl⟩:∃j,g=j+1:=⟨g-1,by omega⟩
  refine⟨h,?_,?_,hq⟩
  ·show eg M fl k _ _ _ ta tb _ _ _ _ _ h=_
   unfold eg gw
   rw[if_neg (by simp;omega)]
  ·rw[List.take_of_length_le (by omega),List.drop_of_length_le (by omega),List.append_nil] at ho
   exact ho
 |succ d ih=>
  intro i g h hi hg ho hq
  obtain⟨g,rfl⟩:∃j,g=j+1:=⟨g-1,by omega⟩
  have tZ:=hx.quiet hq
  have nw:i<D.low.length:=by rw[D.hl];omega
  have kY:h.cell bo (0+i)=some (.int .i64 ((sh[i]'(by omega):Nat):Int)):=by
   refine ho.cell ?_
   rw[Nat.zero_add]
   have:i<(iv (ints ((jq D.p top bs[ib] sh D.low a).take i++sh.drop i))).length:=by simp;omega
   rw[List.getElem?_eq_getElem this]
   simp only[iv,ints,List.getElem_map]
   rw[List.getElem_append_right (by simp;omega)]
   simp[Nat.min_eq_left (show i≤(jq D.p top bs[ib] sh D.low a).length by omega)]
  have nv:(iv (ints ((jq D.p top bs[ib] sh D.low a).take i++sh.drop i))).set (0+i) (.int .i64 ((((sh[i]'(by omega))+(D.p-top)*D.low[i]+bs[ib]*a[i]'(by omega))%D.p:Nat):Int))=
   iv (ints ((jq D.p top bs[ib] sh D.low a).take (i+1)++sh.drop (i+1))):=by
   rw[←ahK D.p top bs[ib] sh D.low a i (by omega) nw (by omega) (by omega),iy,ints_set,Nat.zero_add,List.set_append_right _ _ (by simp;omega)]
   congr 2
   rw[List.drop_eq_getElem_cons (show i<sh.length by omega),List.take_succ_eq_append_getElem (show i<(jq D.p top bs[ib] sh D.low a).length by omega)]
   have:i-((jq D.p top bs[ib] sh D.low a).take i).length=0:=by simp;omega
   rw[this,List.set_cons_zero,List.append_assoc]
   rfl
  have DL:D.low[i]<D.p:=D.hs _ (List.getElem_mem _)
  have hai:a[i]'(by omega)<D.p:=PX _ (List.getElem_mem _)
  have hbi:bs[ib]<D.p:=hsb _ (List.getElem_mem _)
  have hsi:sh[i]'(by omega)<D.p:=hss _ (List.getElem_mem _)
  obtain⟨h',e1,e2,e3⟩:=ih (i+1) g (h.put bo (some (iv (ints ((jq D.p top bs[ib] sh D.low a).take (i+1)++sh.drop (i+1)))))) (by omega) (by omega) (ho.put _) (hq.put hbo _)
  refine⟨h',?_,e2,e3⟩
  have tail:∀(n:Int) (hn:n=((D.low[i]:Nat):Int)),
   (idx 1 (⟨some ⟨bo,0,none⟩,D.m,D.m⟩:Sl) (i:Int) fun p9=>aE .i64 h p9.block p9.off fun ux=>aE .i64 h bx 0 fun Cw=>idx 1 tb (ib:Int) fun Mc=>aE .i64 h Mc.block Mc.off fun Fs=>idx 1 ta (i:Int) fun p14=>aE .i64 h p14.block p14.off fun TI=>aE .i64 h bx 0 fun KL=>jd .rem .i64 (bL (bL (ux+(bL (bL (Cw-(top:Int))*n)))+(bL (Fs*TI)))) KL fun Sj=>idx 1 (⟨some ⟨bo,0,none⟩,D.m,D.m⟩:Sl) (i:Int) fun p18=>st fl h p18 [.int .i64 Sj] fun O6=>
    jb M fl k (im M fl k kn g) kn ⟨bx,0,none⟩ ta tb ⟨some ⟨bo,0,none⟩,D.m,D.m⟩ (ib:Int) (top:Int) (D.m:Int) (i:Int) O6)=
    kn ⟨bx,0,none⟩ ta tb ⟨some ⟨bo,0,none⟩,D.m,D.m⟩ (ib:Int) h':=by
   rintro n rfl
   rw[aT rfl (show i<D.m by omega)]
   dsimp only
   rw[ab kY,ab (tZ.cell rfl),(hb.quiet hq).read (by omega) (by simp;omega),(ha.quiet hq).read (by omega) (by simp;omega),ab (tZ.cell rfl)]
   simp only[Int.toNat_natCast,dm]
   rw[ar7 hp ht (by omega) (by omega) (by omega) (by omega),gV (by omega),aT rfl (show i<D.m by omega),ho.st bN (by simp;omega) rfl,nv]
   unfold jb
   rw[av (i+1) (by push_cast;rfl) (by omega)]
   exact e1
  show eg M fl k _ _ _ ta tb _ _ _ _ _ h=_
  unfold eg gw
  rw[if_pos (by simp;omega)]
  dsimp only
  rw[ab (tZ.cell rfl)]
  by_cases c:D.m=1
  ·rw[if_neg (by simp;omega)]
   refine tail 0 ?_
   have h1:=f.one c
   have:D.low[i]=0:=by simp[h1]
   rw[this];rfl
  ·rw[if_pos (by simp;have:=D.hm;omega),ah (s:=mod) (tZ.cell rfl)]
   have hmo:js D=D.low:=by unfold js;rw[if_neg c]
   rw[hmo] at bF
   rw[(bF.quiet hq).read (by omega) (by simp;omega)]
   refine tail _ ?_
   simp only[Int.toNat_natCast,dm]
theorem amy{R:Type}{b m:Nat}(hm:1≤m)(hm2:m≤8)(K:Sl→Option R):sub 1 ⟨some ⟨b,0,none⟩,m,m⟩ (some 1) none none K=K ⟨some ⟨b,if m=1 then 0 else 1,none⟩,m-1,m-1⟩:=by
 unfold sub
 rw[if_pos (by unfold nZ;simp;omega)]
 simp only[Option.getD_some,Option.getD_none]
 rw[if_pos (by omega)]
 congr 1
 by_cases c:m=1
 ·subst c;rfl
 ·rw[if_neg (by omega),if_neg c]
  simp
theorem amz{R:Type}{b m:Nat}(hm:1≤m)(hm2:m≤8)(K:Sl→Option R):sub 1 ⟨some ⟨b,0,none⟩,m,m⟩ none (some ((m-1:Nat):Int)) none K=K ⟨some ⟨b,0,none⟩,m-1,m⟩:=by
 unfold sub
 rw[if_pos (by unfold nZ;simp;omega)]
 simp only[Option.getD_some,Option.getD_none]
 rw[if_pos (by omega)]
 congr 1
 simp
theorem ahM{R:Type}{h:AH}{b m:Nat}{out:List Nat}(bN:fl≤b)(ho:OB h b (iv (ints out)))(hl:out.length=m)(hm:1≤m)(K:Int→AH→Option R):
 ∃ws,cpy fl 1 ⟨some ⟨b,if m=1 then 0 else 1,none⟩,m-1,m-1⟩ ⟨some ⟨b,0,none⟩,m-1,m⟩ h K=K ((m-1:Nat):Int) ws∧OB ws b (iv (ints (out.take 1++out.take (m-1))))∧(ws=h∨ws=h.put b (some (iv (ints (out.take 1++out.take (m-1)))))):=by
 unfold cpy
 by_cases c:m=1
 ·subst c
  refine⟨h,by simp,?_,.inl rfl⟩
  have:out.take 1++out.take (1-1)=out:=by simp;exact List.take_of_length_le (by omega)
  rw[this];exact ho
 ·refine⟨h.put b (some (iv (ints (out.take 1++out.take (m-1))))),?_,ho.put _,.inr rfl⟩
  rw[if_neg (by simp;omega),if_neg c]
  unfold Cu
  simp only[ho.gR]
  rw[if_pos (by simp;omega)]
  simp only[Nat.min_self,List.drop_zero,Nat.mul_one]
  unfold Abs.st
  simp only[ho.gR,if_pos bN]
  rw[if_pos (by simp;omega),if_pos (by simp;omega),if_pos (by rw[Xr];exact ar6 _)]
  rw[R5 _ _ _ (by simp;omega),Xr,Xr,Uq,Uq,←rV,←nX]
theorem acZ{R:Type}(kn:bW R)(f:Xs D)(hx:OB h0 bx [.int .i64 (D.p:Int),.int .i64 (D.m:Int),.slice mod.a mod.l mod.c])(bF:SI h0 mod (ints (js D)))
 (ha:SI h0 ta (ints a)) (hla:a.length=D.m) (PX:Small D.p a) (hb:SI h0 tb (ints bs)) (hlb:bs.length=D.m) (hsb:Small D.p bs) (hbo:h0.next≤bo) (bN:fl≤bo) (hk:8<k):
 ∀(i g:Nat) (h:AH),i≤D.m→i<g→OB h bo (iv (ints (mulL D.p D.low a (bs.drop i))))→ai h0 h→
 ∃h',rF M fl k kn g ⟨bx,0,none⟩ ta tb ⟨some ⟨bo,0,none⟩,D.m,D.m⟩ ((i:Int)-1) h=kn ⟨bx,0,none⟩ ⟨some ⟨bo,0,none⟩,D.m,D.m⟩ h'∧
  OB h' bo (iv (ints (mulL D.p D.low a bs)))∧ai h0 h':=by
 have hp:=f.p
 have hm:=f.m
 have hm1:=D.hm
 intro i
 induction i with
 |zero=>
  intro g h hi hg ho hq
  obtain⟨g,rfl⟩:∃j,g=j+1:=⟨g-1,by omega⟩
  refine⟨h,?_,by simpa using ho,hq⟩
  show rE M fl k _ _ _ ta tb _ _ h=_
  unfold rE wK
  rw[if_neg (by simp)]
 |succ i ih=>
  intro g h hi hg ho hq
  obtain⟨g,rfl⟩:∃j,g=j+1:=⟨g-1,by omega⟩
  obtain⟨out,abp⟩:∃out,out=mulL D.p D.low a (bs.drop (i+1)):=⟨_,rfl⟩
  rw[←abp] at ho
  have hlo:out.length=D.m:=by rw[abp,xx (by rw[hla,D.hl]),D.hl]
  have hso:Small D.p out:=by rw[abp];exact vM D.pp _ _ _
  have Sw:i<bs.length:=by omega
  have atA:mulL D.p D.low a (bs.drop i)=jq D.p (vL out) bs[i] (0::out) D.low a:=by
   rw[List.drop_eq_getElem_cons Sw,mulL,←abp,T9]
  have tZ:=hx.quiet hq
  show ∃h',rE M fl k _ _ _ ta tb _ _ h=_∧_
  unfold rE wK
  have e1:((i+1:Nat):Int)-1=(i:Int):=by omega
  rw[e1,if_pos (by simp)]
  unfold Dh vo tq pz
  dsimp only
  have em:bL ((D.m:Int)-1)=((D.m-1:Nat):Int):=av _ (by omega) (by omega)
  rw[ab (tZ.cell rfl),em,aT rfl (show D.m-1<D.m by omega)]
  dsimp only
  have ayK:h.cell bo (0+(D.m-1))=some (.int .i64 ((vL out:Nat):Int)):=by
   refine ho.cell ?_
   rw[Nat.zero_add,List.getElem?_eq_getElem (by simp;omega)]
   simp only[iv,ints,List.getElem_map]
   rw[DX,lk _ (by omega)]
   simp only[hlo];rfl
  rw[ab ayK,amy hm1 hm,ab (tZ.cell rfl),em,amz hm1 hm]
  obtain⟨ws,c1,c2,c3⟩:=ahM (R:=R) bN ho hlo hm1 (fun n37 h38=>idx 1 ⟨some ⟨bo,0,none⟩,D.m,D.m⟩ 0 fun p39=>st fl h38 p39 [.int .i64 0] fun h40=>mO M fl k (j8 M fl k (rF M fl k kn g) kn) ⟨bx,0,none⟩ ta tb ⟨some ⟨bo,0,none⟩,D.m,D.m⟩ (i:Int) ((vL out:Nat):Int) ((D.m:Nat):Int) 0 h40)
  rw[c1]
  have hqw:ai h0 ws:=by
   rcases c3 with rfl|rfl
   ·exact hq
   ·exact hq.put hbo _
  have au6:∀{R':Type} (K:Addr→Option R'),idx 1 (⟨some ⟨bo,0,none⟩,D.m,D.m⟩:Sl) 0 K=K ⟨bo,0,none⟩:=by
   intro R' K
   have:=aT (R:=R') (s:=⟨some ⟨bo,0,none⟩,D.m,D.m⟩) rfl (i:=0) (show 0<D.m by omega) K
   simpa using this
  rw[au6]
  have UH:(iv (ints (out.take 1++out.take (D.m-1)))).set 0 (.int .i64 0)=iv (ints ((0::out).take D.m)):=by
   obtain⟨m,hm'⟩:∃m,D.m=m+1:=⟨D.m-1,by omega⟩
   rw[hm'] at hlo ⊢
   cases out with
   |nil=>simp at hlo
   |cons x out=>simp[iv,ints]
  rw[c2.st bN (by simp;omega) rfl,UH]
  have hlen:(jq D.p (vL out) bs[i] ((0::out).take D.m) D.low a)=jq D.p (vL out) bs[i] (0::out) D.low a:=ahL _ _ _ _ _ _ _ (by rw[D.hl];omega)
  have hlt:vL out<D.p:=by
   rw[DX,lk _ (by omega)];exact hso _ (List.getElem_mem _)
  obtain⟨h1,d1,d2,d3⟩:=acY (k:=k) (bo:=bo) (j8 M fl k (rF M fl k kn g) kn) f hx bF ha hla PX hb hlb hsb hbo bN ((0::out).take D.m) (by simp;omega)
   (by intro c hc;rcases List.mem_cons.1 (List.mem_of_mem_take hc) with rfl|hc
       ·exact D.pp
       ·exact hso c hc) (vL out) i (by omega) Sw D.m 0 k (ws.put bo (some (iv (ints ((0::out).take D.m))))) (by omega) (by omega)
   (by simpa using c2.put _) (hqw.put hbo _)
  rw[hlen,←atA] at d2
  obtain⟨h',f1,f2,f3⟩:=ih g h1 (by omega) (by omega) d2 d3
  refine⟨h',?_,f2,f3⟩
  unfold mO
  refine Eq.trans d1 ?_
  unfold j8
  rw[jf (by omega) (by omega)]
  exact f1
end
theorem FQ{D:FD}(f:Xs D){fl:Nat}{h:AH}{mod:Sl}(bF:SI h mod (ints (js D)))(x y:Nat)(hx:x<9223372036854775808)(hy:y<9223372036854775808)(bN:fl≤h.next):
 ∃h',M fl fn.eZ [.agg ⟨[.int .i64 (D.p:Int),.int .i64 (D.m:Int),.slice mod.a mod.l mod.c]⟩,.int .i64 (x:Int),.int .i64 (y:Int)] h=some (.int .i64 ((D.mul x y:Nat):Int),h')∧ai h h':=by
 have hp:=f.p
 have hm:=f.m
 have hm1:=D.hm
 have du:=OB.alloc h [.int .i64 (D.p:Int),.int .i64 (D.m:Int),.slice mod.a mod.l mod.c]
 have Ak:=ai.alloc h [.int .i64 (D.p:Int),.int .i64 (D.m:Int),.slice mod.a mod.l mod.c]
 generalize eB:h.alloc [.int .i64 (D.p:Int),.int .i64 (D.m:Int),.slice mod.a mod.l mod.c]=h1 at du Ak
 obtain⟨h2,a1,a2,a3⟩:=FP (fl:=h1.next) (h:=h1) (x:=x) D.pp (show D.m≤64 by omega) hx (Nat.le_refl _)
 have lV:=Ak.trans a3
 obtain⟨h3,b1,b2,b3⟩:=FP (fl:=fl) (h:=h2) (x:=y) D.pp (show D.m≤64 by omega) hy (by have:=lV.1;omega)
 have UF:=lV.trans b3
 have ho:=OB.alloc h3 (List.replicate D.m (Value.int .i64 0))
 rw[oz] at ho
 have asP:List.replicate D.m 0=mulL D.p D.low (aN D.p D.m x) ((aN D.p D.m y).drop D.m):=by
  rw[List.drop_of_length_le (by rw[dJ];omega),mulL,D.hl]
  generalize D.m=m
  induction m with
  |zero=>rfl
  |succ m ih=>rw[List.replicate_succ,fB,ih]
 have aiE:=(du.quiet a3).quiet b3
 have sa:SI h3 ⟨some ⟨h1.next,0,none⟩,D.m,D.m⟩ (ints (aN D.p D.m x)):=by
  have:=(a2.si none D.m).quiet b3
  simpa [dJ] using this
 have sb:SI h3 ⟨some ⟨h2.next,0,none⟩,D.m,D.m⟩ (ints (aN D.p D.m y)):=by
  have:=b2.si none D.m
  simpa [dJ] using this
 rw[asP] at ho
 obtain⟨h4,c1,c2,c3⟩:=acZ (k:=20) (fl:=fl) (EH M fl 20 (fun(y6:Int) q=>some (Value.int .i64 y6,q))) f aiE (bF.quiet UF) sa (dJ ..) (my D.pp _ _) sb (dJ ..) (my D.pp _ _) (Nat.le_refl _) (by have:=UF.1;omega) (by omega) D.m 20 _ (Nat.le_refl _) (by omega) ho (ai.alloc ..)
 refine⟨h4,aX (k:=20) (by decide) Aa ?_,UF.trans c3⟩
 rw[wL]
 unfold eZ al2 WO cU
 rw[eB]
 dsimp only
 rw[ab (du.cell rfl),ab (du.cell rfl),ag a1]
 simp only[bB]
 rw[ab ((du.quiet a3).cell rfl),ab ((du.quiet a3).cell rfl),ag b1]
 simp only
 rw[ab (aiE.cell rfl),jg (by unfold kA;omega),oz,asP]
 rw[ab (((aiE.quiet (ai.alloc h3 _))).cell rfl),jf (by omega) (by omega)]
 unfold WN
 refine Eq.trans c1 ?_
 unfold EH
 dsimp only
 have aB2:=aiE.quiet c3
 rw[ab (aB2.cell rfl)]
 have sv:SI h4 ⟨some ⟨h3.next,0,none⟩,D.m,D.m⟩ (ints (mulL D.p D.low (aN D.p D.m x) (aN D.p D.m y))):=by
  have:=c2.si none D.m
  have e:(ints (mulL D.p D.low (aN D.p D.m x) (aN D.p D.m y))).length=D.m:=by rw[cz];exact D.CQ x y
  rw[e] at this;exact this
 have hv:=Xo (fl:=fl) sv (vM D.pp _ _ _) (by rw[show(mulL D.p D.low (aN D.p D.m x) (aN D.p D.m y)).length=D.m from D.CQ x y];have:=f.q;unfold FD.q at this;omega) (by rw[show(mulL D.p D.low (aN D.p D.m x) (aN D.p D.m y)).length=D.m from D.CQ x y];omega)
 rw[ag hv]
 rfl
end Go.Abs.P
end
section
namespace Go.Abs.P
open Go.Abs Go.Fld
def uT(D:FD)(x n:Nat):List Nat:=(List.range n).map (D.pw x)
theorem DB(D:FD)(x n:Nat):uT D x (n+1)=uT D x n++[D.pw x n]:=by simp[uT,List.range_succ]
@[simp] theorem R6(D:FD)(x n:Nat):(uT D x n).length=n:=by simp[uT]
theorem auK{D:FD}{x n v:Nat}(h:v∈uT D x n):v<D.q:=by
 obtain⟨i,_,rfl⟩:=List.mem_map.1 h
 exact D.CT x i
def jt(q:Nat)(l:List Nat):List Value:=(List.range q).map fun v=>Value.bool (decide (v∈l))
theorem EK{q:Nat}{l:List Nat}{y:Nat}(h:y<q):(jt q l)[y]?=some (.bool (decide (y∈l))):=by simp[jt,h]
theorem Ur{q:Nat}{l:List Nat}{y:Nat}:(jt q l).set y (.bool true)=jt q (l++[y]):=by
 apply List.ext_getElem?
 intro i
 by_cases hi:i<q
 ·rw[EK hi]
  by_cases e:y=i
  ·subst e
   rw[List.getElem?_set_self (by simpa [jt] using hi)];simp
  ·rw[List.getElem?_set_ne e,EK hi]
   have:¬i=y:=fun h=>e h.symm
   simp[this]
 ·rw[List.getElem?_eq_none (by simp[jt];omega),List.getElem?_eq_none (by simp[jt];omega)]
theorem ahN(q:Nat):List.replicate q (Value.bool false)=jt q []:=by
 apply List.ext_getElem?
 intro i
 by_cases hi:i<q
 ·rw[EK hi];simp[hi]
 ·rw[List.getElem?_eq_none (by simp;omega),List.getElem?_eq_none (by simp[jt];omega)]
@[simp] theorem ar8(q:Nat)(l:List Nat):(jt q l).length=q:=by simp[jt]
theorem ac0{D:FD}{x n:Nat}(hn:(uT D x n).Nodup)(h0:0∉uT D x n):n≤D.q-1:=by
 have:=FD.Yn D.q (0::uT D x n) (List.nodup_cons.2 ⟨h0,hn⟩) (fun v hv=>by
  rcases List.mem_cons.1 hv with rfl|hv
  ·have:=D.q1;omega
  ·exact auK hv)
 simp at this;omega
structure amA(D:FD)(x N:Nat):Prop where
 pos:0<N
 nodup:(uT D x N).Nodup
 nz:0∉uT D x N
 stop:D.pw x N=0∨D.pw x N∈uT D x N
theorem amA.le{D:FD}{x N:Nat}(p:amA D x N):N≤D.q-1:=ac0 p.nodup p.nz
theorem aaT{R:Type}{D:FD}{fl k:Nat}{h0:AH}{bx sb:Nat}{mod:Sl}{x:Nat}(kn:ak R)(f:Xs D)(hx:OB h0 bx [.int .i64 (D.p:Int),.int .i64 (D.m:Int),.slice mod.a mod.l mod.c])(bF:SI h0 mod (ints (js D)))
 (tZ:x<D.q) (hsb:h0.next≤sb) (bN:fl≤h0.next):
 ∀(d n g:Nat) (out:Sl) (h:AH),n+d=D.q→d<g→0<n→(uT D x n).Nodup→0∉uT D x n→OV h0.next h out (iv (ints (uT D x n)))→OB h sb (jt D.q (uT D x n))→(∀a,out.a=some a→a.block≠sb)→ai h0 h→
 ∃(N:Nat) (TF:Sl) (h':AH),rC M fl k kn g (x:Int) ⟨bx,0,none⟩ out ⟨some ⟨sb,0,none⟩,D.q,D.q⟩ ((D.pw x n:Nat):Int) h=kn TF h'∧amA D x N∧OV h0.next h' TF (iv (ints (uT D x N)))∧ai h0 h':=by
 have UN:=f.q
 have Ak:=D.q1
 intro d
 induction d with
 |zero=>
  intro n g out h hi hg hn UK hnz
  have:=ac0 UK hnz
  omega
 |succ d ih=>
  intro n g out h hi hg hn UK hnz ho hs fA hq
  obtain⟨g,rfl⟩:∃j,g=j+1:=⟨g-1,by omega⟩
  have asN:=D.CT x n
  show ∃(N:Nat) (TF:Sl) (h':AH),zL M fl k (rC M fl k kn g) kn _ _ _ _ _ h=_∧_
  unfold zL
  by_cases c:D.pw x n=0
  ·refine⟨n,out,h,?_,⟨hn,UK,hnz,.inl c⟩,ho,hq⟩
   rw[if_neg (by simp[c])]
  ·rw[if_pos (by simp[c]),aT rfl asN]
   dsimp only
   rw[Nat.zero_add,auy (hs.cell (EK asN))]
   by_cases c2:D.pw x n∈uT D x n
   ·refine⟨n,out,h,?_,⟨hn,UK,hnz,.inr c2⟩,ho,hq⟩
    rw[if_neg (by simp[c2])]
   ·rw[if_pos (by simp[c2]),aT rfl asN]
    dsimp only
    rw[Nat.zero_add,hs.st (by omega) (by simpa using asN) rfl,Ur,←DB]
    have Cv:iL (some ⟨sb,0,none⟩) h (h.put sb (some (jt D.q (uT D x (n+1))))):=iL.put _
    have hs1:OB (h.put sb (some (jt D.q (uT D x (n+1))))) sb (jt D.q (uT D x (n+1))):=hs.put _
    have avt:ai h0 (h.put sb (some (jt D.q (uT D x (n+1))))):=hq.put hsb _
    have UM:OV h0.next (h.put sb (some (jt D.q (uT D x (n+1))))) out (iv (ints (uT D x n))):=ho.acK (Nat.le_refl _) (fun a ha=>U9 _ (fun e=>fA a ha e.symm))
    generalize h.put sb (some (jt D.q (uT D x (n+1))))=h1 at Cv hs1 avt UM ⊢
    obtain⟨s2,h2,e1,e2,e3,e4⟩:=UM.push (R:=R) (fl:=fl) (bytes:=8) (x:=.int .i64 ((D.pw x n:Nat):Int)) bN avt.1 (by have:=ac0 UK hnz;unfold kA;simp;omega) rfl
     (fun s7 h8=>aE .i64 h8 bx 0 fun n9=>aE .i64 h8 bx (0+1) fun ux=>bM h8 bx (0+1+1) fun KK=>aC M fl fn.eZ [.agg ⟨[.int .i64 n9,.int .i64 ux,.slice KK.a KK.l KK.c]⟩,.int .i64 ((D.pw x n:Nat):Int),.int .i64 (x:Int)] h8 fun v12 uV=>asInt .i64 v12 fun DM=>rC M fl k kn g (x:Int) ⟨bx,0,none⟩ s7 ⟨some ⟨sb,0,none⟩,D.q,D.q⟩ DM uV)
    rw[e1]
    have lV:ai h0 h2:=e3.quiet avt (fun a ha=>UM.ge a ha)
    have X0:=hx.quiet lV
    rw[ab (X0.cell rfl),ab (X0.cell rfl),ah (s:=mod) (X0.cell rfl)]
    obtain⟨h3,m1,m2⟩:=FQ (fl:=fl) f (bF.quiet lV) (D.pw x n) x (by omega) (by omega) (by have:=lV.1;omega)
    rw[ag m1]
    have hs2:OB h2 sb (jt D.q (uT D x (n+1))):=e3.ob hs1 fA
    have aAx:(uT D x (n+1)).Nodup:=by
     rw[DB]
     rw[List.nodup_append]
     exact⟨UK,by simp,fun a ha b hb e=>by simp at hb;subst hb;subst e;exact c2 ha⟩
    have aCy:0∉uT D x (n+1):=by
     rw[DB]
     intro hm
     rcases List.mem_append.1 hm with hm|hm
     ·exact hnz hm
     ·simp at hm;exact c hm.symm
    have hov:iv (ints (uT D x n))++[Value.int .i64 ((D.pw x n:Nat):Int)]=iv (ints (uT D x (n+1))):=by
     rw[DB,nX,rV];rfl
    rw[hov] at e2
    have aDY:=hs1.1
    exact ih (n+1) g s2 h3 (by omega) (by omega) (by omega) aAx aCy (e2.quiet m2) (hs2.quiet m2) (fun a ha=>by have:=e4 a ha;omega) (lV.trans m2)
theorem aaU{D:FD}(f:Xs D){fl:Nat}{h:AH}{mod:Sl}(bF:SI h mod (ints (js D))){x:Nat}(hx:x<D.q)(bN:fl≤h.next):
 ∃(N:Nat) (s':Sl) (h':AH),M fl fn.lz [.agg ⟨[.int .i64 (D.p:Int),.int .i64 (D.m:Int),.slice mod.a mod.l mod.c]⟩,.int .i64 (D.q:Int),.int .i64 (x:Int)] h=some (.slice s'.a s'.l s'.c,h')∧
  amA D x N∧OV h.next h' s' (iv (ints (uT D x N)))∧ai h h':=by
 have UN:=f.q
 have Ak:=D.q1
 have du:=OB.alloc h [.int .i64 (D.p:Int),.int .i64 (D.m:Int),.slice mod.a mod.l mod.c]
 have eF:=ai.alloc h [.int .i64 (D.p:Int),.int .i64 (D.m:Int),.slice mod.a mod.l mod.c]
 generalize eB:h.alloc [.int .i64 (D.p:Int),.int .i64 (D.m:Int),.slice mod.a mod.l mod.c]=h1 at du eF
 have UM:=OB.alloc h1 [Value.int .i64 1]
 have hqb:=ai.alloc h1 [Value.int .i64 1]
 generalize Mg:h1.alloc [Value.int .i64 1]=h2 at UM hqb
 have hs2:=OB.alloc h2 (jt D.q [])
 have hqc:=ai.alloc h2 (jt D.q [])
 generalize hh3:h2.alloc (jt D.q [])=h3 at hs2 hqc
 have H3:h1.next<h2.next:=UM.1
 have hs3:OB (h3.put h2.next (some (jt D.q [1]))) h2.next (jt D.q [1]):=hs2.put _
 have hp1:uT D x 1=[1]:=rfl
 have ho3:OV h1.next (h3.put h2.next (some (jt D.q [1]))) ⟨some ⟨h1.next,0,none⟩,1,1⟩ (iv (ints (uT D x 1))):=
  OV.full (vs:=iv (ints (uT D x 1))) ((UM.quiet hqc).Yz (by omega) _) (Nat.le_refl _) (by simp[hp1,iv,ints]) (by rw[hp1];simp[iv,ints,nZ])
 obtain⟨N,s',h',e1,e2,e3,e4⟩:=aaT (k:=D.q+1) (fl:=fl) (h0:=h1) (bx:=h.next) (sb:=h2.next) (LG M fl (D.q+1) (fun(y6:Sl) q=>some (Value.slice y6.a y6.l y6.c,q))) f du (bF.quiet eF) hx (by omega) (by have:=eF.1;omega)
  (D.q-1) 1 (D.q+1) ⟨some ⟨h1.next,0,none⟩,1,1⟩ (h3.put h2.next (some (jt D.q [1]))) (by omega) (by omega) (by omega) (by simp[hp1]) (by simp[hp1]) ho3 (by rw[hp1];exact hs3)
  (fun a ha=>by cases ha;simp only[ne_eq];omega) ((hqb.trans hqc).put (by omega) _)
 refine⟨N,s',h',aX (k:=D.q+1) (by decide) Dw ?_,e2,e3.mono eF.1,eF.trans e4⟩
 rw[zM]
 unfold lz al0 WM cU
 rw[eB]
 dsimp only
 rw[Mg,jg (by unfold kA;omega),ahN,hh3]
 have:∀{R':Type} (K:Addr→Option R'),idx 1 (⟨some ⟨h2.next,0,none⟩,D.q,D.q⟩:Sl) 1 K=K ⟨h2.next,1,none⟩:=by
  intro R' K
  exact aT (i:=1) (R:=R') (s:=⟨some ⟨h2.next,0,none⟩,D.q,D.q⟩) rfl Ak K
 rw[this,hs2.st (by have:=eF.1;omega) (by simpa using Ak) rfl,Ur]
 unfold WL
 have hpw:D.pw x 1=x:=D.one_mul hx
 rw[hpw] at e1
 exact e1
end Go.Abs.P
end
section
namespace Go.Abs.P
open Go.Abs Go.Fld
theorem EL{D:FD}{x n i:Nat}(h:i<(uT D x n).length):(uT D x n)[i]=D.pw x i:=by simp[uT]
theorem R7{D:FD}{x N:Nat}(p:amA D x N)(hx:x<D.q):(N=D.q-1∧D.mul (D.pw x (D.q-2)) x=1)↔D.aJ x:=by
 have hq:=D.q1
 constructor
 ·rintro⟨rfl,h1⟩
  have h1:D.pw x (D.q-2+1)=1:=h1
  rw[show D.q-2+1=D.q-1 by omega] at h1
  refine⟨hx,h1,fun i h0 hi e=>?_⟩
  have:=List.pairwise_iff_getElem.1 p.nodup 0 i (by simp;omega) (by simp;omega) h0
  rw[EL,EL,e] at this
  exact this rfl
 ·intro hp
  have hle:=p.le
  have:N=D.q-1:=by
   rcases p.stop with h|h
   ·exact absurd h (D.r8 hp N)
   ·refine Classical.byContradiction fun hc=>?_
    obtain⟨j,h1,h2⟩:=List.mem_map.1 h
    exact D.U4 hp (List.mem_range.1 h1) (show N<D.q-1 by omega) h2
  refine⟨this,?_⟩
  have h1:=hp.2.1
  rw[show D.q-1=D.q-2+1 by omega] at h1
  exact h1
theorem R8{R:Type}{D:FD}{fl k:Nat}{h0:AH}{bx:Nat}{mod:Sl}(kn:ar R)(kr:ak R)(f:Xs D)(hx:OB h0 bx [.int .i64 (D.p:Int),.int .i64 (D.m:Int),.slice mod.a mod.l mod.c])(bF:SI h0 mod (ints (js D)))(bN:fl≤h0.next):
 ∀(d x g:Nat) (h:AH),x+d=D.q→d<g→ai h0 h→(∀y,y<x→¬D.aJ y)→
 ∃h',ai h0 h'∧((∃gen s',jm M fl k kn kr g (D.q:Int) ⟨bx,0,none⟩ (x:Int) h=kr s' h'∧D.aJ gen∧OV h0.next h' s' (iv (ints (uT D gen (D.q-1)))))∨
  (jm M fl k kn kr g (D.q:Int) ⟨bx,0,none⟩ (x:Int) h=kn h'∧∀y,¬D.aJ y)):=by
 have UN:=f.q
 have Ak:=D.q1
 intro d
 induction d with
 |zero=>
  intro x g h hi hg hq hno
  obtain⟨g,rfl⟩:∃j,g=j+1:=⟨g-1,by omega⟩
  refine⟨h,hq,.inr ⟨?_,fun y hy=>hno y (by have:=hy.1;omega) hy⟩⟩
  show qV M fl k _ _ _ _ _ _ h=_
  unfold qV wx
  rw[if_neg (by simp;omega)]
 |succ d ih=>
  intro x g h hi hg hq hno
  obtain⟨g,rfl⟩:∃j,g=j+1:=⟨g-1,by omega⟩
  have tZ:=hx.quiet hq
  obtain⟨N,s1,h1,p1,p2,p3,p4⟩:=aaU (fl:=fl) f (bF.quiet hq) (show x<D.q by omega) (by have:=hq.1;omega)
  have lV:=hq.trans p4
  have X0:=hx.quiet lV
  have hlen:=p3.len
  simp only[agM,cz,R6] at hlen
  have un:jm M fl k kn kr (g+1) (D.q:Int) ⟨bx,0,none⟩ (x:Int) h=qV M fl k (jm M fl k kn kr g) kn kr (D.q:Int) ⟨bx,0,none⟩ (x:Int) h:=rfl
  rw[un]
  unfold qV wx
  rw[if_pos (by simp;omega)]
  dsimp only
  rw[ab (tZ.cell rfl),ab (tZ.cell rfl),ah (s:=mod) (tZ.cell rfl),ag p1]
  simp only[bB]
  have e1:bL ((D.q:Int)-1)=((D.q-1:Nat):Int):=av _ (by omega) (by omega)
  have e2:bL ((D.q:Int)-2)=((D.q-2:Nat):Int):=av _ (by omega) (by omega)
  have next:∀h3,ai h0 h3→¬D.aJ x→∃h',ai h0 h'∧((∃gen s',tQ M fl k (jm M fl k kn kr g) kn kr (D.q:Int) ⟨bx,0,none⟩ (x:Int) h3=kr s' h'∧D.aJ gen∧OV h0.next h' s' (iv (ints (uT D gen (D.q-1)))))∨
   (tQ M fl k (jm M fl k kn kr g) kn kr (D.q:Int) ⟨bx,0,none⟩ (x:Int) h3=kn h'∧∀y,¬D.aJ y)):=by
   intro h3 UF hnx
   unfold tQ
   rw[av (x+1) (by push_cast;rfl) (by omega)]
   refine ih (x+1) g h3 (by omega) (by omega) UF fun y hy=>?_
   by_cases e:y=x
   ·subst e;exact hnx
   ·exact hno y (by omega)
  rw[e1,e2]
  by_cases c:N=D.q-1
  ·rw[if_pos (by rw[hlen,c];simp),ab (X0.cell rfl),ab (X0.cell rfl),ah (s:=mod) (X0.cell rfl),p3.si.read (by omega) (by simp;omega)]
   simp only[Int.toNat_natCast,dm,EL]
   obtain⟨h3,m1,m2⟩:=FQ (fl:=fl) f (bF.quiet lV) (D.pw x (D.q-2)) x (by have:=D.CT x (D.q-2);omega) (by omega) (by have:=lV.1;omega)
   rw[ag m1]
   simp only[asInt,if_true]
   by_cases c2:D.mul (D.pw x (D.q-2)) x=1
   ·have hpx:=(R7 p2 (by omega)).1 ⟨c,c2⟩
    refine⟨h3,lV.trans m2,.inl ⟨x,s1,?_,hpx,?_⟩⟩
    ·rw[if_pos (by rw[c2];rfl)]
    ·rw[c] at p3
     exact(p3.quiet m2).mono hq.1
   ·rw[if_neg (by simp;omega)]
    exact next h3 (lV.trans m2) (fun hp=>c2 ((R7 p2 (by omega)).2 hp).2)
  ·rw[if_neg (by rw[hlen];simp;omega)]
   exact next h1 lV (fun hp=>c ((R7 p2 (by omega)).2 hp).1)
theorem DD{D:FD}(f:Xs D){fl:Nat}{h:AH}{mod:Sl}(bF:SI h mod (ints (js D)))(bN:fl≤h.next):
 ∃(s':Sl) (h':AH),M fl fn.cC [.agg ⟨[.int .i64 (D.p:Int),.int .i64 (D.m:Int),.slice mod.a mod.l mod.c]⟩,.int .i64 (D.q:Int)] h=some (.slice s'.a s'.l s'.c,h')∧ai h h'∧
  ((∃gen,D.aJ gen∧OV h.next h' s' (iv (ints (uT D gen (D.q-1))))∧s'.a.isNone=false)∨(s'.a.isNone=true∧∀y,¬D.aJ y)):=by
 have UN:=f.q
 have Ak:=D.q1
 have du:=OB.alloc h [.int .i64 (D.p:Int),.int .i64 (D.m:Int),.slice mod.a mod.l mod.c]
 have eF:=ai.alloc h [.int .i64 (D.p:Int),.int .i64 (D.m:Int),.slice mod.a mod.l mod.c]
 generalize eB:h.alloc [.int .i64 (D.p:Int),.int .i64 (D.m:Int),.slice mod.a mod.l mod.c]=h1 at du eF
 obtain⟨h',e1,e2⟩:=R8 (k:=D.q+1) (fl:=fl) (Ev M fl (D.q+1) (fun(y6:Sl) q=>some (Value.slice y6.a y6.l y6.c,q))) (fun(y6:Sl) q=>some (Value.slice y6.a y6.l y6.c,q)) f du (bF.quiet eF) (by have:=eF.1;omega)
  (D.q-1) 1 (D.q+1) h1 (by omega) (by omega) (ai.refl _) (fun y hy hp=>by
    obtain rfl:y=0:=by omega
    refine D.r8 hp 1 ?_
    show D.mul 1 0=0
    exact D.mul_zero 1)
 have go:∀{s':Sl} {h':AH},cC M fl (D.q+1) (D.p:Int) (D.m:Int) mod (D.q:Int) h=some (.slice s'.a s'.l s'.c,h')→M fl fn.cC [.agg ⟨[.int .i64 (D.p:Int),.int .i64 (D.m:Int),.slice mod.a mod.l mod.c]⟩,.int .i64 (D.q:Int)] h=some (.slice s'.a s'.l s'.c,h'):=by
  intro s' h' e
  refine aX (k:=D.q+1) (by decide) ya ?_
  rw[uE];exact e
 have un:cC M fl (D.q+1) (D.p:Int) (D.m:Int) mod (D.q:Int) h=jm M fl (D.q+1) (Ev M fl (D.q+1) (fun(y6:Sl) q=>some (Value.slice y6.a y6.l y6.c,q))) (fun(y6:Sl) q=>some (Value.slice y6.a y6.l y6.c,q)) (D.q+1) (D.q:Int) ⟨h.next,0,none⟩ ((1:Nat):Int) h1:=by
  unfold cC ali We cU
  rw[eB];rfl
 rcases e2 with⟨gen,s',g1,g2,g3⟩|⟨g1,g2⟩
 ·refine⟨s',h',go (un.trans g1),eF.trans e1,.inl ⟨gen,g2,g3.mono eF.1,?_⟩⟩
  rcases g3 with⟨a,_⟩|⟨b,c,_,_,_,_,rfl,_⟩
  ·have:=congrArg List.length a;simp at this;omega
  ·rfl
 ·exact⟨⟨none,0,0⟩,h',go (un.trans g1),eF.trans e1,.inr ⟨rfl,g2⟩⟩
def kV(p m:Int)(xs:List Int):Bool:=decide (Cr p m≠0)&&FD.prB p.toNat&&(if m=1 then xs.isEmpty else decide ((xs.length:Int)=m)&&xs.all (fun c=>decide (0≤c)&&decide (c<p)))
structure PN(p m:Int)(xs:List Int)(D:FD):Prop where
 ok:Xs D
 hp:p=D.p
 hm:m=D.m
 hx:xs=ints (js D)
 pr:FD.prB D.p=true
theorem ac1{p:Nat}(h:0<p):Small p [0]:=by
 intro c hc
 have h0:c=0:=by simpa using hc
 subst h0;exact h
theorem Xt{p m:Int}(h:Cr p m≠0):∃a b:Nat,p=a∧m=b∧2≤a∧1≤b∧a^b≤256∧Cr p m=a^b:=by
 unfold Cr at h ⊢
 by_cases c:p<2∨m<1∨m>8∨p>256
 ·rw[if_pos c] at h;exact absurd rfl h
 ·rw[if_neg c] at h ⊢
  by_cases c2:p.toNat^m.toNat≤256
  ·exact⟨p.toNat,m.toNat,by omega,by omega,by omega,by omega,c2,by rw[if_pos c2]⟩
  ·rw[if_neg c2] at h;exact absurd rfl h
theorem rW(p m:Int)(xs:List Int):kV p m xs=true↔∃D,PN p m xs D:=by
 constructor
 ·intro h
  unfold kV at h
  simp only[Bool.and_eq_true,decide_eq_true_eq] at h
  obtain⟨⟨h1,h2⟩,h3⟩:=h
  obtain⟨a,b,rfl,rfl,ha,hb,hab,_⟩:=Xt h1
  simp only[Int.toNat_natCast] at h2
  by_cases c:(b:Int)=1
  ·rw[if_pos c] at h3
   have hxs:xs=[]:=by simpa using h3
   obtain rfl:b=1:=by omega
   refine⟨⟨a,1,[0],ha,by omega,rfl,ac1 (by omega)⟩,⟨⟨?_,fun _=>rfl⟩,rfl,rfl,?_,h2⟩⟩
   ·exact hab
   ·rw[hxs];rfl
  ·rw[if_neg c] at h3
   simp only[Bool.and_eq_true,decide_eq_true_eq,List.all_eq_true] at h3
   obtain⟨h3,h4⟩:=h3
   refine⟨⟨a,b,xs.map Int.toNat,ha,hb,by simp;omega,?_⟩,⟨⟨hab,fun e=>absurd (show(b:Int)=1 by have e':b=1:=e;omega) c⟩,rfl,rfl,?_,h2⟩⟩
   ·intro d hd
    obtain⟨e,he,rfl⟩:=List.mem_map.1 hd
    have:=h4 e he
    show e.toNat<a
    omega
   ·have:js ⟨a,b,xs.map Int.toNat,ha,hb,by simp;omega,by
     intro d hd
     obtain⟨e,he,rfl⟩:=List.mem_map.1 hd
     have:=h4 e he
     show e.toNat<a
     omega⟩=xs.map Int.toNat:=by unfold js;rw[if_neg (fun e=>c (by have e':b=1:=e;omega))]
    rw[this]
    unfold ints
    rw[List.map_map]
    conv=>lhs;rw[←List.map_id xs]
    refine List.map_congr_left fun e he=>?_
    have:=h4 e he
    simp;omega
 ·rintro⟨D,hD⟩
  obtain⟨f,rfl,rfl,rfl,pr⟩:=hD
  have hp2:=D.hp
  have hm1:=D.hm
  have hp:=f.p
  have hm:=f.m
  have hq:=f.q
  unfold kV
  have ho:Cr (D.p:Int) (D.m:Int)=D.q:=by
   unfold Cr
   rw[if_neg (by omega)]
   simp only[Int.toNat_natCast]
   rw[if_pos (show D.p^D.m≤256 from hq)];rfl
  rw[ho]
  have Ak:=D.q1
  simp only[Int.toNat_natCast,pr,Bool.and_true,Bool.and_eq_true,decide_eq_true_eq]
  refine⟨by omega,?_⟩
  by_cases c:D.m=1
  ·rw[if_pos (by omega)];unfold js;rw[if_pos c];rfl
  ·rw[if_neg (by omega)]
   unfold js
   rw[if_neg c]
   simp only[Bool.and_eq_true,decide_eq_true_eq,List.all_eq_true]
   refine⟨by simp[D.hl],fun e he=>?_⟩
   obtain⟨d,hd,rfl⟩:=List.mem_map.1 he
   have:=D.hs d hd
   simp;omega
theorem amB{p m:Int}{xs:List Int}{D:FD}(h:PN p m xs D):Cr p m=D.q:=by
 obtain⟨f,rfl,rfl,rfl,pr⟩:=h
 have hp2:=D.hp
 have hm1:=D.hm
 have hp:=f.p
 have hm:=f.m
 have hq:=f.q
 unfold Cr
 rw[if_neg (by omega)]
 simp only[Int.toNat_natCast]
 rw[if_pos (show D.p^D.m≤256 from hq)];rfl
theorem ac2{R:Type}{fl k:Nat}{h:AH}{bx:Nat}{mod:Sl}{xs:List Int}{p:Int}(kn:ar R)(kr:au R)(vs:List Value)(hx:OB h bx (.int .i64 p::vs))(bF:SI h mod xs)(hb:xs.length≤mh):
 ∀(d i g:Nat),i+d=xs.length→d<g→zm M fl k kn kr g ⟨bx,0,none⟩ mod (xs.length:Int) (i:Int) h=if (xs.drop i).all (fun c=>decide (0≤c)&&decide (c<p))=true then kn h else kr false h:=by
 intro d
 induction d with
 |zero=>
  intro i g hi hg
  obtain⟨g,rfl⟩:∃j,g=j+1:=⟨g-1,by omega⟩
  show qT M fl k _ _ _ _ _ _ _ h=_
  unfold qT
  rw[if_neg (by simp;omega),List.drop_of_length_le (by omega)]
  rfl
 |succ d ih=>
  intro i g hi hg
  obtain⟨g,rfl⟩:∃j,g=j+1:=⟨g-1,by omega⟩
  show qT M fl k _ _ _ _ _ _ _ h=_
  unfold qT
  rw[if_pos (by simp;omega),bF.read (by omega) (by simp;omega)]
  simp only[Int.toNat_natCast]
  rw[List.drop_eq_getElem_cons (show i<xs.length by omega),List.all_cons]
  by_cases c:xs[i]<0
  ·rw[if_neg (by simp[c]),if_neg (by simp;intro h;omega)]
  ·rw[if_pos (by simp;omega),ab (hx.cell rfl)]
   by_cases c2:xs[i]≥p
   ·rw[if_pos (by simp[c2]),if_neg (by simp;intro h;omega)]
   ·rw[if_neg (by simp;omega),fE (by omega),ih (i+1) g (by omega) (by omega)]
    have:(decide (0≤xs[i])&&decide (xs[i]<p))=true:=by simp;omega
    rw[this,Bool.true_and]
theorem R9{fl:Nat}{h:AH}{mod:Sl}{xs:List Int}(p m:Int)(bF:SI h mod xs)(hb:xs.length≤mh):
 ∃h',M fl fn.kM [.agg ⟨[.int .i64 p,.int .i64 m,.slice mod.a mod.l mod.c]⟩] h=some (.bool (kV p m xs),h')∧ai h h':=by
 have du:=OB.alloc h [.int .i64 p,.int .i64 m,.slice mod.a mod.l mod.c]
 have eF:=ai.alloc h [.int .i64 p,.int .i64 m,.slice mod.a mod.l mod.c]
 generalize eB:h.alloc [.int .i64 p,.int .i64 m,.slice mod.a mod.l mod.c]=h1 at du eF
 refine⟨h1,aX (k:=xs.length+1) (by decide) FK ?_,eF⟩
 rw[BO]
 unfold kM ale Wb cU
 rw[eB]
 dsimp only
 rw[ab (du.cell rfl),ab (du.cell rfl),ag (Bw p m)]
 simp only[asInt,if_true]
 unfold kV
 by_cases c:Cr p m=0
 ·rw[if_neg (by simp[c]),c];rfl
 ·rw[if_pos (by simp;omega)]
  obtain⟨a,b,rfl,rfl,ha,Cv,hab,_⟩:=Xt c
  have ha2:a≤256:=by
   have:a^1≤a^b:=Nat.pow_le_pow_right (by omega) Cv
   rw[Nat.pow_one] at this;omega
  rw[ab (du.cell rfl),ag (Xq ha2 ha)]
  simp only[asBool,Int.toNat_natCast]
  have e1:decide (Cr (a:Int) (b:Int)≠0)=true:=by simp[c]
  rw[e1,Bool.true_and]
  by_cases c2:FD.prB a=true
  ·rw[if_neg (by simp[c2]),c2,Bool.true_and,ab (du.cell rfl)]
   by_cases c3:(b:Int)=1
   ·rw[if_pos (by simp[c3]),if_pos c3,ah (s:=mod) (du.cell rfl),bF.len]
    cases xs with
    |nil=>rfl
    |cons x xs=>simp;omega
   ·rw[if_neg (by simp;omega),if_neg c3,ah (s:=mod) (du.cell rfl),ab (du.cell rfl),bF.len]
    by_cases c4:(xs.length:Int)=b
    ·rw[if_neg (by simp[c4]),ah (s:=mod) (du.cell rfl),bF.len]
     unfold Wa
     have:=ac2 (fl:=fl) (k:=xs.length+1) (Lt M fl (xs.length+1) (fun(y6:Bool) q=>some (Value.bool y6,q))) (fun(y6:Bool) q=>some (Value.bool y6,q)) _ du (bF.quiet eF) hb xs.length 0 (xs.length+1) (by omega) (by omega)
     refine Eq.trans this ?_
     simp only[List.drop_zero]
     have e2:decide ((xs.length:Int)=b)=true:=by simp[c4]
     rw[e2,Bool.true_and]
     by_cases c5:xs.all (fun c=>decide (0≤c)&&decide (c<(a:Int)))=true
     ·rw[if_pos c5,c5];rfl
     ·rw[if_neg c5];simp only[Bool.not_eq_true] at c5;rw[c5]
    ·rw[if_pos (by simp;omega)]
     have e2:decide ((xs.length:Int)=b)=false:=by simp[c4]
     rw[e2,Bool.false_and]
  ·simp only[Bool.not_eq_true] at c2
   rw[if_pos (by simp[c2]),c2];rfl
end Go.Abs.P
end
section
namespace Go.Abs.P
open Go.Abs Go.Fld
def lgF(D:FD)(gen v:Nat):Nat→Nat→Nat
 |0,_=>0
 |n+1,i=>if D.pw gen i=v then i else lgF D gen v n (i+1)
def lg(D:FD)(gen v:Nat):Nat:=lgF D gen v (D.q-1) 0
def Xu(D:FD)(gen:Nat):List Nat:=(List.range D.q).map (lg D gen)
theorem auL{D:FD}{gen:Nat}(hg:D.aJ gen){i:Nat}(hi:i<D.q-1):∀n j,j≤i→i<j+n→j+n≤D.q-1→lgF D gen (D.pw gen i) n j=i:=by
 intro n
 induction n with
 |zero=>intro j h1 h2;omega
 |succ n ih=>
  intro j h1 h2 h3
  unfold lgF
  by_cases e:j=i
  ·subst e;rw[if_pos rfl]
  ·rw[if_neg (D.U4 hg (show j<i by omega) hi)]
   exact ih (j+1) (by omega) (by omega) (by omega)
theorem atg{D:FD}{gen:Nat}(hg:D.aJ gen){i:Nat}(hi:i<D.q-1):lg D gen (D.pw gen i)=i:=auL hg hi _ 0 (by omega) (by omega) (by omega)
theorem amC{D:FD}{gen:Nat}(hg:D.aJ gen){x:Nat}(h0:x≠0)(hx:x<D.q):lg D gen x<D.q-1∧D.pw gen (lg D gen x)=x:=by
 obtain⟨i,hi,rfl⟩:=D.yM hg h0 hx
 rw[atg hg hi];exact⟨hi,rfl⟩
structure GF(h:AH)(g:Addr)(D:FD)(gen:Nat):Prop where
 ok:Xs D
 O3:D.aJ gen
 off:g.off=0
 ex:∃mod e l:Sl,OB h g.block [.int .i64 (D.p:Int),.int .i64 (D.m:Int),.slice mod.a mod.l mod.c,.int .i64 (D.q:Int),.slice e.a e.l e.c,.slice l.a l.l l.c]∧
  SI h mod (ints (js D))∧SI h e (ints (uT D gen (D.q-1)))∧SI h l (ints (Xu D gen))
theorem GF.quiet{h h':AH}{g:Addr}{D:FD}{gen:Nat}(p:GF h g D gen)(q:ai h h'):GF h' g D gen:=by
 obtain⟨m,e,l,h1,h2,h3,h4⟩:=p.ex
 exact⟨p.ok,p.O3,p.off,m,e,l,h1.quiet q,h2.quiet q,h3.quiet q,h4.quiet q⟩
theorem GF.cp{h:AH}{g:Addr}{D:FD}{gen:Nat}(p:GF h g D gen):h.cell g.block g.off=some (.int .i64 (D.p:Int)):=by
 obtain⟨m,e,l,h1,_⟩:=p.ex
 rw[p.off];exact h1.cell rfl
theorem GF.cq{h:AH}{g:Addr}{D:FD}{gen:Nat}(p:GF h g D gen):h.cell g.block (g.off+3)=some (.int .i64 (D.q:Int)):=by
 obtain⟨m,e,l,h1,_⟩:=p.ex
 rw[p.off];exact h1.cell rfl
theorem GF.axf{h:AH}{g:Addr}{D:FD}{gen:Nat}(p:GF h g D gen):∃e l:Sl,h.cell g.block (g.off+4)=some (.slice e.a e.l e.c)∧h.cell g.block (g.off+5)=some (.slice l.a l.l l.c)∧
 SI h e (ints (uT D gen (D.q-1)))∧SI h l (ints (Xu D gen)):=by
 obtain⟨m,e,l,h1,_,h3,h4⟩:=p.ex
 refine⟨e,l,?_,?_,h3,h4⟩<;>rw[p.off]<;>exact h1.cell rfl
def L3(D:FD)(x:Int):Bool:=decide (0≤x)&&decide (x<D.q)
def pH(D:FD)(x:Int):Nat:=if 0≤x∧x<D.q then x.toNat else 0
theorem HY(D:FD)(x:Int):pH D x<D.q:=by
 have:=D.q1
 unfold pH;split<;>omega
theorem PO{D:FD}{x:Nat}(h:x<D.q):pH D (x:Int)=x:=by
 unfold pH;rw[if_pos (by omega)];rfl
section
variable{fl:Nat}{h:AH}{g:Addr}{D:FD}{gen:Nat}
theorem agd(p:GF h g D gen)(x:Int):M fl fn.kL [.pointer (some g),.int .i64 x] h=some (.bool (L3 D x),h):=by
 refine aX (k:=1) (by decide) FJ ?_
 rw[BN]
 unfold kL ak9 L3
 by_cases c:x≥0
 ·rw[if_pos (by simp;omega)]
  simp only[cQ]
  rw[ab p.cq]
  have:decide (0≤x)=true:=by simp;omega
  rw[this,Bool.true_and]
 ·rw[if_neg (by simp;omega)]
  have:decide (0≤x)=false:=by simp;omega
  rw[this,Bool.false_and]
theorem EM(p:GF h g D gen)(x:Int):M fl fn.eY [.pointer (some g),.int .i64 x] h=some (.int .i64 ((pH D x:Nat):Int),h):=by
 refine aX (k:=1) (by decide) FM ?_
 rw[BW]
 unfold eY alT
 rw[ag (agd p x)]
 simp only[asBool]
 unfold L3 pH
 by_cases c:0≤x∧x<D.q
 ·rw[if_pos (by simp;omega),if_pos c]
  congr 2
  rw[Int.toNat_of_nonneg c.1]
 ·rw[if_neg (by simp;omega),if_neg c];rfl
theorem ahO(p d:Nat):dC p (tK p (aN p d 0) (aN p d 0))=0:=by
 induction d with
 |zero=>rfl
 |succ d ih=>simp[aN,tK,dC,ih]
theorem ahP(p d:Nat):dC p (yL p (aN p d 0))=0:=by
 induction d with
 |zero=>rfl
 |succ d ih=>simp[aN,yL,dC,ih]
theorem wY{p d x:Nat}(h:x<p^(d+1)):x/p<p^d:=by
 rw[Nat.pow_succ] at h
 exact Nat.div_lt_of_lt_mul (by rw[Nat.mul_comm];exact h)
theorem amD{R:Type}{k:Nat}(kn:ae R)(p:GF h g D gen):
 ∀(d i f x y s:Nat),i+d=D.m→d<f→x<D.p^d→y<D.p^d→s<D.p^i→
 rH M fl k kn f (some g) (x:Int) (y:Int) (s:Int) ((D.p^i:Nat):Int) h=kn ((s+D.p^i*dC D.p (tK D.p (aN D.p d x) (aN D.p d y)):Nat):Int) h:=by
 have hp0:=D.hp
 have hp:=p.ok.p
 have hq:D.p^D.m≤256:=p.ok.q
 have stop:∀(d i f x y s:Nat),x=0→y=0→0<f→rH M fl k kn f (some g) (x:Int) (y:Int) (s:Int) ((D.p^i:Nat):Int) h=kn ((s+D.p^i*dC D.p (tK D.p (aN D.p d x) (aN D.p d y)):Nat):Int) h:=by
  rintro d i f x y s rfl rfl hf
  obtain⟨f,rfl⟩:∃j,f=j+1:=⟨f-1,by omega⟩
  show rG M fl k _ _ _ _ _ _ _ h=_
  unfold rG wM
  rw[if_pos (by simp),if_neg (by simp),ahO,Nat.mul_zero,Nat.add_zero]
 intro d
 induction d with
 |zero=>
  intro i f x y s hi hf hx hy hs
  exact stop 0 i f x y s (by simpa using hx) (by simpa using hy) hf
 |succ d ih=>
  intro i f x y s hi hf hx hy hs
  by_cases c:x=0∧y=0
  ·exact stop (d+1) i f x y s c.1 c.2 (by omega)
  ·obtain⟨f,rfl⟩:∃j,f=j+1:=⟨f-1,by omega⟩
   have hpi:D.p^(i+1)≤256:=Nat.le_trans (Nat.pow_le_pow_right (by omega) (by omega)) hq
   have hpd:D.p^(d+1)≤256:=Nat.le_trans (Nat.pow_le_pow_right (by omega) (by omega)) hq
   have bF:(x%D.p+y%D.p)%D.p<D.p:=Nat.mod_lt _ (by omega)
   have hx1:x%D.p<D.p:=Nat.mod_lt _ (by omega)
   have hy1:y%D.p<D.p:=Nat.mod_lt _ (by omega)
   have e0:D.p^i*D.p=D.p^(i+1):=(Nat.pow_succ ..).symm
   have hmul:(x%D.p+y%D.p)%D.p*D.p^i+D.p^i≤D.p^(i+1):=by
    rw[←e0,Nat.mul_comm,←Nat.mul_succ]
    exact Nat.mul_le_mul_left _ bF
   have next:xV M fl k (rH M fl k kn f) kn (some g) (x:Int) (y:Int) (s:Int) ((D.p^i:Nat):Int) h=kn ((s+D.p^i*dC D.p (tK D.p (aN D.p (d+1) x) (aN D.p (d+1) y)):Nat):Int) h:=by
    unfold xV
    simp only[cQ]
    rw[ab p.cp,gV (by omega),ab p.cp,gV (by omega),ab p.cp,av (x%D.p+y%D.p) (by push_cast;rfl) (by omega),gV (by omega),ab p.cp,ab p.cp,D0 (by omega) (by omega),
     ab p.cp,D0 (by omega) (by omega)]
    have e1:bL ((((x%D.p+y%D.p)%D.p:Nat):Int)*((D.p^i:Nat):Int))=(((x%D.p+y%D.p)%D.p*D.p^i:Nat):Int):=av _ (by push_cast;rfl) (by omega)
    have e2:bL ((s:Int)+(((x%D.p+y%D.p)%D.p*D.p^i:Nat):Int))=((s+(x%D.p+y%D.p)%D.p*D.p^i:Nat):Int):=av _ (by push_cast;rfl) (by omega)
    have e3:bL (((D.p^i:Nat):Int)*(D.p:Int))=((D.p^(i+1):Nat):Int):=av _ (by rw[←e0];push_cast;rfl) (by omega)
    rw[e1,e2,e3,ih (i+1) f (x/D.p) (y/D.p) _ (by omega) (by omega) (wY hx) (wY hy) (by omega)]
    congr 2
    simp only[aN,tK,dC]
    rw[←e0,Nat.mul_add,Nat.mul_comm ((x%D.p+y%D.p)%D.p),Nat.mul_assoc]
    omega
   show rG M fl k _ _ _ _ _ _ _ h=_
   unfold rG wM
   by_cases c1:x=0
   ·rw[if_pos (by simp;omega),if_pos (by simp;omega)]
    exact next
   ·rw[if_neg (by simp;omega)]
    exact next
theorem ar9:∀(m x y:Nat),x<2^m→y<2^m→dC 2 (tK 2 (aN 2 m x) (aN 2 m y))=x^^^y:=by
 intro m
 induction m with
 |zero=>intro x y hx hy;simp at hx hy;subst hx hy;rfl
 |succ m ih=>
  intro x y hx hy
  simp only[aN,tK,dC]
  rw[ih _ _ (wY hx) (wY hy),←Nat.xor_div_two]
  have h1:(x%2+y%2)%2=(x^^^y)%2:=by
   have:=Nat.xor_mod_two_pow (a:=x) (b:=y) (n:=1)
   rw[Nat.pow_one] at this
   rw[this]
   have X0:x%2=0∨x%2=1:=by omega
   have hy2:y%2=0∨y%2=1:=by omega
   rcases X0 with e|e<;>rcases hy2 with e'|e'<;>rw[e,e']<;>rfl
  rw[h1];omega
theorem amE{R:Type}{a b:Nat}(ha:a<256)(hb:b<256)(K:Int→Option R):jd .xor .i64 (a:Int) (b:Int) K=K ((a^^^b:Nat):Int):=by
 unfold jd Cx
 simp only
 congr 1
 have hx:a^^^b<2^8:=Nat.xor_lt_two_pow (by omega) (by omega)
 have e:(BitVec.ofInt IntKind.i64.bits (a:Int)^^^BitVec.ofInt IntKind.i64.bits (b:Int)).toNat=a^^^b:=by
  show(BitVec.ofInt 64 (a:Int)^^^BitVec.ofInt 64 (b:Int)).toNat=a^^^b
  rw[BitVec.ofInt_natCast,BitVec.ofInt_natCast,BitVec.toNat_xor,BitVec.toNat_ofNat,BitVec.toNat_ofNat,Nat.mod_eq_of_lt (by omega),Nat.mod_eq_of_lt (by omega)]
 rw[e]
 exact av (a^^^b) rfl (by omega)
theorem aaV(p:GF h g D gen)(x y:Int):M fl fn.hZ [.pointer (some g),.int .i64 x,.int .i64 y] h=some (.int .i64 ((D.add (pH D x) (pH D y):Nat):Int),h):=by
 have hp0:=D.hp
 have hq:D.q≤256:=p.ok.q
 have hm:=p.ok.m
 have hx:=HY D x
 have hy:=HY D y
 refine aX (k:=10) (by decide) Dx ?_
 rw[zN]
 unfold hZ al4 WR
 rw[ag (EM p x)]
 simp only[asInt,if_true]
 rw[ag (EM p y)]
 simp only[asInt,if_true,cQ]
 rw[ab p.cp]
 by_cases c:D.p=2
 ·rw[if_pos (by rw[c];rfl),amE (by omega) (by omega)]
  congr 4
  unfold FD.add FD.dg
  unfold FD.q at hx hy
  rw[c] at hx hy ⊢
  exact(ar9 _ _ _ hx hy).symm
 ·rw[if_neg (by simp;omega)]
  unfold WQ
  have:=amD (fl:=fl) (k:=10) (LH M fl 10 (fun(y6:Int) q=>some (Value.int .i64 y6,q))) p D.m 0 10 (pH D x) (pH D y) 0 (by omega) (by omega) hx hy (by simp)
  rw[Nat.pow_zero] at this
  refine Eq.trans this ?_
  rw[Nat.one_mul,Nat.zero_add];rfl
theorem amF{R:Type}{k:Nat}(kn:ae R)(p:GF h g D gen):
 ∀(d i f x s:Nat),i+d=D.m→d<f→x<D.p^d→s<D.p^i→
 vD M fl k kn f (some g) (x:Int) (s:Int) ((D.p^i:Nat):Int) h=kn ((s+D.p^i*dC D.p (yL D.p (aN D.p d x)):Nat):Int) h:=by
 have hp0:=D.hp
 have hp:=p.ok.p
 have hq:D.p^D.m≤256:=p.ok.q
 have stop:∀(d i f x s:Nat),x=0→0<f→vD M fl k kn f (some g) (x:Int) (s:Int) ((D.p^i:Nat):Int) h=kn ((s+D.p^i*dC D.p (yL D.p (aN D.p d x)):Nat):Int) h:=by
  rintro d i f x s rfl hf
  obtain⟨f,rfl⟩:∃j,f=j+1:=⟨f-1,by omega⟩
  show qR M fl k _ _ _ _ _ _ h=_
  unfold qR
  rw[if_neg (by simp),ahP,Nat.mul_zero,Nat.add_zero]
 intro d
 induction d with
 |zero=>
  intro i f x s hi hf hx hs
  exact stop 0 i f x s (by simpa using hx) hf
 |succ d ih=>
  intro i f x s hi hf hx hs
  by_cases c:x=0
  ·exact stop (d+1) i f x s c (by omega)
  ·obtain⟨f,rfl⟩:∃j,f=j+1:=⟨f-1,by omega⟩
   have hpi:D.p^(i+1)≤256:=Nat.le_trans (Nat.pow_le_pow_right (by omega) (by omega)) hq
   have hpd:D.p^(d+1)≤256:=Nat.le_trans (Nat.pow_le_pow_right (by omega) (by omega)) hq
   have hx1:x%D.p<D.p:=Nat.mod_lt _ (by omega)
   have bF:(D.p-x%D.p)%D.p<D.p:=Nat.mod_lt _ (by omega)
   have e0:D.p^i*D.p=D.p^(i+1):=(Nat.pow_succ ..).symm
   have hmul:(D.p-x%D.p)%D.p*D.p^i+D.p^i≤D.p^(i+1):=by
    rw[←e0,Nat.mul_comm,←Nat.mul_succ]
    exact Nat.mul_le_mul_left _ bF
   show qR M fl k _ _ _ _ _ _ h=_
   unfold qR
   rw[if_pos (by simp;omega)]
   simp only[cQ]
   rw[ab p.cp,ab p.cp,gV (by omega),ab p.cp,av (D.p-x%D.p) (by omega) (by omega),gV (by omega),ab p.cp,ab p.cp,D0 (by omega) (by omega)]
   have e1:bL ((((D.p-x%D.p)%D.p:Nat):Int)*((D.p^i:Nat):Int))=(((D.p-x%D.p)%D.p*D.p^i:Nat):Int):=av _ (by push_cast;rfl) (by omega)
   have e2:bL ((s:Int)+(((D.p-x%D.p)%D.p*D.p^i:Nat):Int))=((s+(D.p-x%D.p)%D.p*D.p^i:Nat):Int):=av _ (by push_cast;rfl) (by omega)
   have e3:bL (((D.p^i:Nat):Int)*(D.p:Int))=((D.p^(i+1):Nat):Int):=av _ (by rw[←e0];push_cast;rfl) (by omega)
   rw[e1,e2,e3]
   refine(ih (i+1) f (x/D.p) _ (by omega) (by omega) (wY hx) (by omega)).trans ?_
   congr 2
   simp only[aN,yL,dC]
   rw[←e0,Nat.mul_add,Nat.mul_comm ((D.p-x%D.p)%D.p),Nat.mul_assoc]
   omega
theorem aaW(p:GF h g D gen)(x:Int):M fl fn.eO [.pointer (some g),.int .i64 x] h=some (.int .i64 ((D.neg (pH D x):Nat):Int),h):=by
 have hm:=p.ok.m
 have hx:=HY D x
 refine aX (k:=10) (by decide) Dn ?_
 rw[zk]
 unfold eO ak4 V4
 rw[ag (EM p x)]
 simp only[asInt,if_true]
 unfold V3
 have:=amF (fl:=fl) (k:=10) (Lr M fl 10 (fun(y6:Int) q=>some (Value.int .i64 y6,q))) p D.m 0 10 (pH D x) 0 (by omega) (by omega) hx (by simp)
 rw[Nat.pow_zero] at this
 refine Eq.trans this ?_
 rw[Nat.one_mul,Nat.zero_add];rfl
theorem amG(p:GF h g D gen)(x y:Int):M fl fn.jA [.pointer (some g),.int .i64 x,.int .i64 y] h=some (.int .i64 ((D.add (pH D x) (D.neg (pH D y)):Nat):Int),h):=by
 refine aX (k:=1) (by decide) Dq ?_
 rw[zr]
 unfold jA als
 rw[ag (aaW p y)]
 simp only[asInt,if_true]
 rw[ag (aaV p x _),PO (D.ajw _)]
 rfl
theorem Sa{x:Nat}(h:x<(Xu D gen).length):(Xu D gen)[x]=lg D gen x:=by simp[Xu]
@[simp] theorem ath:(Xu D gen).length=D.q:=by simp[Xu]
theorem auM(hg:D.aJ gen)(n:Nat):D.pw gen (n%(D.q-1))=D.pw gen n:=by
 have hk:∀k,D.pw gen ((D.q-1)*k)=1:=by
  intro k
  induction k with
  |zero=>simp[FD.pw]
  |succ k ih=>rw[Nat.mul_succ,D.yi,ih,hg.2.1,D.mul_one D.q1]
 conv=>rhs;rw[←Nat.mod_add_div n (D.q-1),D.yi,hk,D.mul_one (D.CT ..)]
theorem aaX(p:GF h g D gen)(x y:Int):M fl fn.dM [.pointer (some g),.int .i64 x,.int .i64 y] h=some (.int .i64 ((D.mul (pH D x) (pH D y):Nat):Int),h):=by
 have hq:D.q≤256:=p.ok.q
 have Ak:=D.q1
 have hx:=HY D x
 have hy:=HY D y
 refine aX (k:=1) (by decide) Dr ?_
 rw[zt]
 unfold dM alv
 rw[ag (EM p x)]
 simp only[asInt,if_true]
 rw[ag (EM p y)]
 simp only[asInt,if_true,cQ]
 generalize pH D x=a at hx ⊢
 generalize pH D y=b at hy ⊢
 by_cases c:a=0
 ·rw[if_neg (by simp[c]),c,D.mul_comm,D.mul_zero];rfl
 ·rw[if_pos (by simp[c])]
  by_cases c2:b=0
  ·rw[if_pos (by simp[c2]),c2,D.mul_zero];rfl
  ·rw[if_neg (by simp[c2])]
   obtain⟨e,l,t1,t2,t3,t4⟩:=p.axf
   obtain⟨ha1,ha2⟩:=amC p.O3 c hx
   obtain⟨Cv,mn⟩:=amC p.O3 c2 hy
   have e1:bL ((D.q:Int)-1)=((D.q-1:Nat):Int):=av _ (by omega) (by omega)
   rw[ah t1,ah t2,t4.read (by omega) (by simp;omega)]
   simp only[Int.toNat_natCast,dm,Sa]
   rw[ah t2,t4.read (by omega) (by simp;omega)]
   simp only[Int.toNat_natCast,dm,Sa]
   have hr:(lg D gen a+lg D gen b)%(D.q-1)<D.q-1:=Nat.mod_lt _ (by omega)
   rw[ab p.cq,e1,av (lg D gen a+lg D gen b) (by push_cast;rfl) (by omega),gV (by omega),t3.read (by omega) (by rw[cz,R6,Int.toNat_natCast];exact hr)]
   simp only[Int.toNat_natCast,dm,EL]
   rw[auM p.O3,D.yi,ha2,mn]
theorem aaY(p:GF h g D gen)(x:Int)(h0:pH D x≠0):M fl fn.hX [.pointer (some g),.int .i64 x] h=some (.tuple ⟨[.int .i64 ((D.inv (pH D x):Nat):Int),.int .i64 0]⟩,h):=by
 have hq:D.q≤256:=p.ok.q
 have Ak:=D.q1
 have hx:=HY D x
 refine aX (k:=1) (by decide) Dt ?_
 rw[zC]
 unfold hX alJ
 rw[ag (EM p x)]
 simp only[asInt,if_true,cQ]
 generalize pH D x=a at hx h0 ⊢
 rw[if_neg (by simp[h0])]
 obtain⟨e,l,t1,t2,t3,t4⟩:=p.axf
 obtain⟨ha1,ha2⟩:=amC p.O3 h0 hx
 have e1:bL ((D.q:Int)-1)=((D.q-1:Nat):Int):=av _ (by omega) (by omega)
 rw[ah t1,ab p.cq,ah t2,t4.read (by omega) (by simp;omega)]
 simp only[Int.toNat_natCast,dm,Sa]
 have hr:(D.q-1-lg D gen a)%(D.q-1)<D.q-1:=Nat.mod_lt _ (by omega)
 rw[ab p.cq,e1,av (D.q-1-lg D gen a) (by omega) (by omega),gV (by omega),t3.read (by omega) (by simp;omega)]
 simp only[Int.toNat_natCast,dm,EL]
 have:=FD.Yt p.O3 ha1
 rw[ha2] at this
 rw[FD.acC p.O3 hx (D.CT ..) this]
theorem amH(p:GF h g D gen)(x y:Int)(h0:pH D y≠0):M fl fn.jz [.pointer (some g),.int .i64 x,.int .i64 y] h=some (.tuple ⟨[.int .i64 ((D.mul (pH D x) (D.inv (pH D y)):Nat):Int),.int .i64 0]⟩,h):=by
 refine aX (k:=1) (by decide) Dp ?_
 rw[zq]
 unfold jz alp
 rw[ag (aaY p y h0)]
 simp only[bj,aG,ch,asInt,if_true]
 rw[if_neg (by simp),ag (aaX p x _),PO (D.acB _)]
 rfl
end
end Go.Abs.P
end
section
namespace Go.Abs.P
open Go.Abs Go.Fld
theorem amI{a b:List Nat}(h:ints a=ints b):a=b:=by
 unfold ints at h
 exact(List.map_inj_right (fun x y e=>Int.ofNat.inj e)).1 h
theorem cT{p m:Int}{xs:List Int}{D D':FD}(h:PN p m xs D)(h':PN p m xs D'):D=D':=by
 obtain⟨f,rfl,rfl,rfl,_⟩:=h
 obtain⟨f',e1,e2,e3,_⟩:=h'
 have a1:=f.one
 have a2:=f'.one
 obtain⟨p,m,low,hp,hm,hl,hs⟩:=D
 obtain⟨p',m',aAG,hp',hm',NM,hs'⟩:=D'
 simp only at e1 e2 a1 a2
 have e1:p=p':=by omega
 have e2:m=m':=by omega
 subst e1 e2
 have:low=aAG:=by
  have e3:=amI e3
  unfold js at e3
  by_cases c:m=1
  ·rw[a1 c,a2 c]
  ·rwa[if_neg (show ¬m=1 from c),if_neg (show ¬m=1 from c)] at e3
 subst this;rfl
def uU(p m:Int)(xs:List Int):Prop:=∃D gen,PN p m xs D∧D.aJ gen
theorem aaZ{fl:Nat}{h:AH}{mod:Sl}{xs:List Int}(p m:Int)(bF:SI h mod xs)(hb:xs.length≤mh)(bN:fl≤h.next):
 ∃h' e,M fl fn.fN [.agg ⟨[.int .i64 p,.int .i64 m,.slice mod.a mod.l mod.c]⟩] h=some (.int .i64 e,h')∧ai h h'∧((uU p m xs∧e=0)∨(¬uU p m xs∧e=1)):=by
 have du:=OB.alloc h [.int .i64 p,.int .i64 m,.slice mod.a mod.l mod.c]
 have eF:=ai.alloc h [.int .i64 p,.int .i64 m,.slice mod.a mod.l mod.c]
 generalize eB:h.alloc [.int .i64 p,.int .i64 m,.slice mod.a mod.l mod.c]=h1 at du eF
 obtain⟨h2,s1,s2⟩:=R9 (fl:=fl) p m (bF.quiet eF) hb
 have go:∀{e:Int} {h':AH},fN M fl 1 p m mod h=some (.int .i64 e,h')→M fl fn.fN [.agg ⟨[.int .i64 p,.int .i64 m,.slice mod.a mod.l mod.c]⟩] h=some (.int .i64 e,h'):=by
  intro e h' he
  refine aX (k:=1) (by decide) FG ?_
  rw[BH];exact he
 have lV:=eF.trans s2
 have mn:=du.quiet s2
 have pre:∀r,(if (!kV p m xs)=false then aE .i64 h2 h.next 0 fun n9=>aE .i64 h2 h.next 1 fun ux=>bM h2 h.next 2 fun KK=>aE .i64 h2 h.next 0 fun Cs=>aE .i64 h2 h.next 1 fun Fs=>aC M h2.next fn.hJ [.int .i64 Cs,.int .i64 Fs] h2 fun v14 EP=>asInt .i64 v14 fun KL=>aC M fl fn.cC [.agg ⟨[.int .i64 n9,.int .i64 ux,.slice KK.a KK.l KK.c]⟩,.int .i64 KL] EP fun v17 O4=>bB v17 fun s19=>if s19.a.isNone=true then some (Value.int .i64 1,O4) else some (Value.int .i64 0,O4) else some (Value.int .i64 1,h2))=r→fN M fl 1 p m mod h=r:=by
  intro r hr
  unfold fN akL cU
  rw[eB]
  dsimp only
  rw[ab (du.cell rfl),ab (du.cell rfl),ah (s:=mod) (du.cell rfl),ag s1]
  simp only[asBool]
  exact hr
 by_cases c:kV p m xs=true
 ·obtain⟨D,hD⟩:=(rW p m xs).1 c
  have ho:=amB hD
  obtain⟨f,rfl,rfl,rfl,pr⟩:=hD
  obtain⟨s',h',g1,g2,g3⟩:=DD (fl:=fl) f (bF.quiet lV) (by have:=lV.1;omega)
  have run:∀e,(if s'.a.isNone=true then some (Value.int .i64 1,h') else some (Value.int .i64 0,h'))=some (Value.int .i64 e,h')→fN M fl 1 (D.p:Int) (D.m:Int) mod h=some (.int .i64 e,h'):=by
   intro e he
   apply pre
   rw[if_pos (by simp[c]),ab (mn.cell rfl),ab (mn.cell rfl),ah (s:=mod) (mn.cell rfl),ab (mn.cell rfl),ab (mn.cell rfl),ag (Bw _ _),ho]
   simp only[asInt,if_true]
   rw[ag g1]
   exact he
  rcases g3 with⟨gen,p1,_,p3⟩|⟨p1,p2⟩
  ·exact⟨h',0,go (run 0 (by rw[p3];rfl)),lV.trans g2,.inl ⟨⟨D,gen,⟨f,rfl,rfl,rfl,pr⟩,p1⟩,rfl⟩⟩
  ·refine⟨h',1,go (run 1 (by rw[p1];rfl)),lV.trans g2,.inr ⟨?_,rfl⟩⟩
   rintro⟨D',gen,h1,h2⟩
   have:D=D':=cT ⟨f,rfl,rfl,rfl,pr⟩ h1
   subst this
   exact p2 gen h2
 ·refine⟨h2,1,go (pre _ ?_),lV,.inr ⟨?_,rfl⟩⟩
  ·rw[if_neg (by simp[c])]
  ·rintro⟨D',gen,h1,h2⟩
   exact c ((rW p m xs).2 ⟨D',h1⟩)
theorem ac3{R:Type}{fl b:Nat}{h:AH}{s:Sl}{xs:List Int}(hb:OB h b [])(hs:SI h s xs)(hr:xs.length*8≤kA)(K:Sl→AH→Option R):
 ∃s' h',fW fl 1 8 ⟨some ⟨b,0,none⟩,0,0⟩ s h K=K s' h'∧SI h' s' xs∧ai h h':=by
 have hl:=hs.len
 unfold fW
 cases xs with
 |nil=>
  refine⟨⟨some ⟨b,0,none⟩,0,0⟩,h,?_,⟨rfl,fun i hi=>by cases hi⟩,ai.refl h⟩
  rw[if_pos (by simpa using hl)]
 |cons x xs=>
  refine⟨⟨some ⟨h.next,0,none⟩,s.l,nZ+1⟩,h.alloc (iv (x::xs)),?_,?_,ai.alloc ..⟩
  ·rw[if_neg (by rw[hl];simp),if_pos (by rw[hl];simpa using hr),hs.Cu (by simp)]
   simp only
   rw[if_pos (by unfold nZ;omega),if_neg (by rw[hl];simp)]
   unfold Cu
   simp only[hb.gR]
   rw[if_pos (by simp)]
   simp
  ·have:=(OB.alloc h (iv (x::xs))).si none (nZ+1)
   rw[hl];exact this
def wZ(D:FD)(gen n:Nat):List Nat:=(List.range D.q).map fun v=>if v∈uT D gen n then lg D gen v else 0
@[simp] theorem asa(D:FD)(gen n:Nat):(wZ D gen n).length=D.q:=by simp[wZ]
theorem ahQ{D:FD}{gen n:Nat}(hg:D.aJ gen)(hn:n<D.q-1):(wZ D gen n).set (D.pw gen n) n=wZ D gen (n+1):=by
 apply List.ext_getElem (by simp)
 intro i h1 h2
 rw[List.getElem_set]
 simp only[wZ,List.getElem_map,List.getElem_range,DB,List.mem_append,List.mem_singleton]
 by_cases e:D.pw gen n=i
 ·subst e
  rw[if_pos rfl,if_pos (.inr rfl),atg hg hn]
 ·rw[if_neg e]
  have:¬i=D.pw gen n:=fun h=>e h.symm
  simp[this]
theorem ahR{D:FD}{gen:Nat}(hg:D.aJ gen):wZ D gen (D.q-1)=Xu D gen:=by
 have hq:=D.q1
 refine List.map_congr_left fun v hv=>?_
 have hv:=List.mem_range.1 hv
 by_cases c:v=0
 ·subst c
  have h1:¬0∈uT D gen (D.q-1):=by
   intro h
   obtain⟨i,_,h2⟩:=List.mem_map.1 h
   exact D.r8 hg i h2
  rw[if_neg h1]
  have:∀n i,lgF D gen 0 n i=0:=by
   intro n
   induction n with
   |zero=>intro i;rfl
   |succ n ih=>intro i;unfold lgF;rw[if_neg (D.r8 hg i)];exact ih _
  exact(this _ _).symm
 ·obtain⟨i,h1,rfl⟩:=D.yM hg c hv
  have:D.pw gen i∈uT D gen (D.q-1):=List.mem_map.2 ⟨i,List.mem_range.2 h1,rfl⟩
  rw[if_pos this]
theorem amJ{R:Type}{D:FD}{fl k:Nat}{h0:AH}{b lb gen:Nat}{mod e:Sl}(kn:xJ R)(hg:D.aJ gen)(hq:D.q≤256)(hgf:OB h0 b [.int .i64 (D.p:Int),.int .i64 (D.m:Int),.slice mod.a mod.l mod.c,.int .i64 (D.q:Int),.slice e.a e.l e.c,.slice (some ⟨lb,0,none⟩) D.q D.q])
 (fA:lb≠b) (he:SI h0 e (ints (uT D gen (D.q-1)))) (hel:∀a,e.a=some a→lb≠a.block) (bN:fl≤lb):
 ∀(d n g:Nat) (h:AH),n+d=D.q-1→d<g→OB h lb (iv (ints (wZ D gen n)))→iL (some ⟨lb,0,none⟩) h0 h→
 ∃h',za M fl k kn g (some ⟨b,0,none⟩) e ((D.q-1:Nat):Int) (n:Int) h=kn (some ⟨b,0,none⟩) h'∧OB h' lb (iv (ints (Xu D gen)))∧iL (some ⟨lb,0,none⟩) h0 h':=by
 intro d
 induction d with
 |zero=>
  intro n g h hi hf ho Md
  obtain⟨g,rfl⟩:∃j,g=j+1:=⟨g-1,by omega⟩
  obtain rfl:n=D.q-1:=by omega
  rw[ahR hg] at ho
  refine⟨h,?_,ho,Md⟩
  show qF M fl k _ _ _ _ _ _ h=_
  unfold qF
  rw[if_neg (by simp)]
 |succ d ih=>
  intro n g h hi hf ho Md
  obtain⟨g,rfl⟩:∃j,g=j+1:=⟨g-1,by omega⟩
  have hlt:=D.CT gen n
  have aAp:=Md.ob hgf (fun a ha=>by cases ha;exact fA)
  have hs:(iv (ints (wZ D gen n))).set (0+D.pw gen n) (.int .i64 (n:Int))=iv (ints (wZ D gen (n+1))):=by
   rw[iy,ints_set,Nat.zero_add,ahQ hg (by omega)]
  obtain⟨h',e1,e2,e3⟩:=ih (n+1) g (h.put lb (some (iv (ints (wZ D gen (n+1)))))) (by omega) (by omega) (ho.put _) (Md.trans (iL.put _))
  refine⟨h',?_,e2,e3⟩
  show qF M fl k _ _ _ _ _ _ h=_
  unfold qF
  rw[if_pos (by rw[decide_eq_true_eq];omega),(he.AA Md (fun a b' ha tY=>by cases tY;exact hel a ha)).read (by omega) (by simp;omega)]
  simp only[Int.toNat_natCast,dm,EL,cQ]
  rw[ah (s:=⟨some ⟨lb,0,none⟩,D.q,D.q⟩) (aAp.cell rfl),aT rfl hlt]
  dsimp only
  rw[ho.st bN (by simp;omega) rfl,hs,av (n+1) (by push_cast;rfl) (by omega)]
  exact e1
theorem Sb{fl:Nat}{h:AH}{mod:Sl}{xs:List Int}(p m:Int)(bF:SI h mod xs)(hb:xs.length≤mh)(bN:fl≤h.next):
 ∃h',ai h h'∧((¬uU p m xs∧M fl fn.ff [.agg ⟨[.int .i64 p,.int .i64 m,.slice mod.a mod.l mod.c]⟩] h=some (.tuple ⟨[.pointer none,.int .i64 1]⟩,h'))∨
  (∃D gen g,PN p m xs D∧GF h' g D gen∧h.next≤g.block∧M fl fn.ff [.agg ⟨[.int .i64 p,.int .i64 m,.slice mod.a mod.l mod.c]⟩] h=some (.tuple ⟨[.pointer (some g),.int .i64 0]⟩,h'))):=by
 have du:=OB.alloc h [.int .i64 p,.int .i64 m,.slice mod.a mod.l mod.c]
 have eF:=ai.alloc h [.int .i64 p,.int .i64 m,.slice mod.a mod.l mod.c]
 generalize eB:h.alloc [.int .i64 p,.int .i64 m,.slice mod.a mod.l mod.c]=h1 at du eF
 obtain⟨h2,s1,s2⟩:=R9 (fl:=fl) p m (bF.quiet eF) hb
 have go:∀{r},ff M fl 300 p m mod h=some r→M fl fn.ff [.agg ⟨[.int .i64 p,.int .i64 m,.slice mod.a mod.l mod.c]⟩] h=some r:=by
  intro r he
  refine aX (k:=300) (by decide) ND ?_
  rw[Fw];exact he
 have lV:=eF.trans s2
 have mn:=du.quiet s2
 by_cases c:kV p m xs=true
 ·obtain⟨D,hD⟩:=(rW p m xs).1 c
  have ho:=amB hD
  obtain⟨f,rfl,rfl,rfl,pr⟩:=hD
  have UN:=f.q
  have Ak:=D.q1
  obtain⟨s',h3,g1,g2,g3⟩:=DD (fl:=fl) f (bF.quiet lV) (by have:=lV.1;omega)
  have UF:=lV.trans g2
  have hb3:=mn.quiet g2
  rcases g3 with⟨gen,p1,p2,p3⟩|⟨p1,p2⟩
  ·have hb4:=OB.alloc h3 []
   have hqb:=ai.alloc h3 []
   generalize hh4:h3.alloc []=h4 at hb4 hqb
   have hb5:=hb3.quiet hqb
   have ayN:=bF.quiet (UF.trans hqb)
   have hml:(js D).length≤8:=by
    unfold js
    split
    ·simp
    ·rw[D.hl];exact f.m
   obtain⟨ms,h5,a1,a2,a3⟩:=ac3 (R:=Value×AH) (fl:=h4.next) hb4 ayN (by unfold kA;simp;omega) (fun s31 PU=>xg 8 [.int .i64 0] (D.q:Int) (D.q:Int) PU fun s33 h34=>cU h34 [.int .i64 (D.p:Int),.int .i64 (D.m:Int),.slice s31.a s31.l s31.c,.int .i64 (D.q:Int),.slice s'.a s'.l s'.c,.slice s33.a s33.l s33.c] fun b35 h36=>VN M fl 300 (fun(y4:OA) (y5:Int) q=>some (Value.tuple ⟨[.pointer y4,.int .i64 y5]⟩,q)) (some ⟨b35,0,none⟩) s' ((s'.l:Nat):Int) 0 h36)
   have hl5:=OB.alloc h5 (iv (ints (wZ D gen 0)))
   have hqc:=ai.alloc h5 (iv (ints (wZ D gen 0)))
   generalize hh6:h5.alloc (iv (ints (wZ D gen 0)))=h6 at hl5 hqc
   have hg6:=OB.alloc h6 [.int .i64 (D.p:Int),.int .i64 (D.m:Int),.slice ms.a ms.l ms.c,.int .i64 (D.q:Int),.slice s'.a s'.l s'.c,.slice (some ⟨h5.next,0,none⟩) D.q D.q]
   have hqd:=ai.alloc h6 [.int .i64 (D.p:Int),.int .i64 (D.m:Int),.slice ms.a ms.l ms.c,.int .i64 (D.q:Int),.slice s'.a s'.l s'.c,.slice (some ⟨h5.next,0,none⟩) D.q D.q]
   generalize hh7:h6.alloc [.int .i64 (D.p:Int),.int .i64 (D.m:Int),.slice ms.a ms.l ms.c,.int .i64 (D.q:Int),.slice s'.a s'.l s'.c,.slice (some ⟨h5.next,0,none⟩) D.q D.q]=h7 at hg6 hqd
   have hse:SI h3 s' (ints (uT D gen (D.q-1))):=p2.si
   have FV:s'.l=D.q-1:=by rw[hse.len];simp
   have hnil:(ints (uT D gen (D.q-1)))≠[]:=by intro e;have:=congrArg List.length e;simp at this;omega
   have h35:=(hqb.trans a3).1
   have h56:=hl5.1
   have ayD:SI h7 s' (ints (uT D gen (D.q-1))):=hse.quiet ((hqb.trans a3).trans (hqc.trans hqd))
   obtain⟨h8,e1,e2,e3⟩:=amJ (k:=300) (fl:=fl) (Lk M fl 300 (fun(y4:OA) (y5:Int) q=>some (Value.tuple ⟨[.pointer y4,.int .i64 y5]⟩,q))) p1 UN hg6 (by omega) ayD
    (fun a ha=>by have:=hse.lt hnil a ha;omega) (show fl≤h5.next by have:=UF.1;omega) (D.q-1) 0 300 h7 (by omega) (by omega) (hl5.quiet hqd) (iL.refl _ _)
   have avS:ai h h5:=(UF.trans hqb).trans a3
   refine⟨h8,?_,.inr ⟨D,gen,⟨h6.next,0,none⟩,⟨f,rfl,rfl,rfl,pr⟩,⟨f,p1,rfl,ms,s',⟨some ⟨h5.next,0,none⟩,D.q,D.q⟩,?_,?_,?_,?_⟩,?_,go ?_⟩⟩
   ·exact e3.quiet (avS.trans (hqc.trans hqd)) (fun a ha=>by cases ha;have:=avS.1;simpa using this)
   ·exact e3.ob hg6 (fun a ha=>by cases ha;simp;omega)
   ·by_cases hm0:ints (js D)=[]
    ·have:=a2.len;rw[hm0] at this ⊢;exact⟨this,fun i hi=>by cases hi⟩
    ·exact(a2.quiet (hqc.trans hqd)).AA e3 (fun a b ha hb=>by cases hb;have:=a2.lt hm0 a ha;simp;omega)
   ·exact ayD.AA e3 (fun a b ha hb=>by cases hb;have:=hse.lt hnil a ha;simp;omega)
   ·have:=e2.si none D.q
    simpa using this
   ·have h1:=avS.1
    show h.next≤h6.next
    omega
   ·unfold ff Zd Ll cU
    rw[eB]
    dsimp only
    rw[ab (du.cell rfl),ab (du.cell rfl),ah (s:=mod) (du.cell rfl),ag s1]
    simp only[asBool]
    rw[if_neg (by simp[c]),ab (mn.cell rfl),ab (mn.cell rfl),ag (Bw _ _),ho]
    simp only[asInt,if_true]
    rw[ab (mn.cell rfl),ab (mn.cell rfl),ah (s:=mod) (mn.cell rfl),ag g1]
    simp only[bB]
    rw[if_neg (by simp[p3]),ab (hb3.cell rfl),ab (hb3.cell rfl),hh4,ah (s:=mod) (hb5.cell rfl)]
    refine Eq.trans a1 ?_
    rw[jg (by unfold kA;omega),oz]
    have asP:List.replicate D.q 0=wZ D gen 0:=by
     apply List.ext_getElem (by simp)
     intro i h1 h2
     simp[wZ,uT]
    rw[asP,hh6]
    unfold cU
    rw[hh7,FV]
    exact e1
  ·refine⟨h3,UF,.inl ⟨?_,go ?_⟩⟩
   ·rintro⟨D',gen,h1,h2⟩
    have:D=D':=cT ⟨f,rfl,rfl,rfl,pr⟩ h1
    subst this
    exact p2 gen h2
   ·unfold ff Zd Ll cU
    rw[eB]
    dsimp only
    rw[ab (du.cell rfl),ab (du.cell rfl),ah (s:=mod) (du.cell rfl),ag s1]
    simp only[asBool]
    rw[if_neg (by simp[c]),ab (mn.cell rfl),ab (mn.cell rfl),ag (Bw _ _),ho]
    simp only[asInt,if_true]
    rw[ab (mn.cell rfl),ab (mn.cell rfl),ah (s:=mod) (mn.cell rfl),ag g1]
    simp only[bB]
    rw[if_pos p1]
 ·refine⟨h2,lV,.inl ⟨?_,go ?_⟩⟩
  ·rintro⟨D',gen,h1,h2⟩
   exact c ((rW p m xs).2 ⟨D',h1⟩)
  ·unfold ff Zd Ll cU
   rw[eB]
   dsimp only
   rw[ab (du.cell rfl),ab (du.cell rfl),ah (s:=mod) (du.cell rfl),ag s1]
   simp only[asBool]
   rw[if_pos (by simp[c])]
end Go.Abs.P
end
section
namespace Go.Abs.P
open Go.Abs Go.Fld
theorem Xv{R:Type}{fl k:Nat}(kn:ak R){h0:AH}{b p:Nat}(hp:0<p)(bN:fl≤b)(hb:h0.next≤b)(m:Nat)(hm:m<mh):
 ∀(d i f x:Nat) (pre:List Nat) (h:AH),i+d=m→d<f→pre.length=i→x<9223372036854775808→OB h b (iv (ints (pre++List.replicate d 0)))→ai h0 h→
 ∃h',zB M fl k kn f (x:Int) (p:Int) (m:Int) ⟨some ⟨b,0,none⟩,m,m⟩ (i:Int) h=kn ⟨some ⟨b,0,none⟩,m,m⟩ h'∧OB h' b (iv (ints (pre++aN p d x)))∧ai h0 h':=by
 intro d
 induction d with
 |zero=>
  intro i f x pre h hi hf TG hx ho hq
  obtain⟨f,rfl⟩:∃j,f=j+1:=⟨f-1,by omega⟩
  refine⟨h,?_,ho,hq⟩
  show rl M fl k _ _ (x:Int) (p:Int) _ _ (i:Int) h=_
  unfold rl
  rw[if_neg (by simp;omega)]
 |succ d ih=>
  intro i f x pre h hi hf TG hx ho hq
  obtain⟨f,rfl⟩:∃j,f=j+1:=⟨f-1,by omega⟩
  have hs:(iv (ints (pre++List.replicate (d+1) 0))).set (0+i) (.int .i64 ((x%p:Nat):Int))=iv (ints ((pre++[x%p])++List.replicate d 0)):=by
   rw[iy,ints_set,List.set_append_right _ _ (by omega),show 0+i-pre.length=0 by omega,List.replicate_succ,List.set_cons_zero];simp
  have ho2:OB (h.put b (some (iv (ints ((pre++[x%p])++List.replicate d 0))))) b (iv (ints ((pre++[x%p])++List.replicate d 0))):=ho.put _
  obtain⟨h',e1,e2,e3⟩:=ih (i+1) f (x/p) (pre++[x%p]) _ (by omega) (by omega) (by simp;omega) (Nat.lt_of_le_of_lt (Nat.div_le_self x p) hx) ho2 (hq.put hb _)
  refine⟨h',?_,by simpa [aN] using e2,e3⟩
  show rl M fl k _ _ (x:Int) (p:Int) _ _ (i:Int) h=_
  unfold rl
  rw[if_pos (by simp;omega),gV hp,aT rfl (show i<m by omega),ho.st bN (by simp;omega) rfl,hs,D0 hp hx,fE (by omega)]
  exact e1
theorem KC{fl:Nat}{h:AH}{x p m:Nat}(hp:0<p)(hm:m≤64)(hx:x<9223372036854775808)(bN:fl≤h.next):
 ∃h',M fl fn.lu [.int .i64 (x:Int),.int .i64 (p:Int),.int .i64 (m:Int)] h=some (.slice (some ⟨h.next,0,none⟩) m m,h')∧OB h' h.next (iv (ints (aN p m x)))∧ai h h':=by
 have ho:=OB.alloc h (List.replicate m (Value.int .i64 0))
 rw[oz] at ho
 obtain⟨h',e1,e2,e3⟩:=Xv (fl:=fl) (k:=m+1) (Ly M fl (m+1) (fun(y6:Sl) q=>some (Value.slice y6.a y6.l y6.c,q))) hp bN (Nat.le_refl _) m (by unfold mh;omega) m 0 (m+1) x [] _ (by omega) (by omega) rfl hx ho (ai.alloc h _)
 refine⟨h',aX (k:=m+1) (by decide) R3 ?_,e2,e3⟩
 rw[Lz]
 unfold lu alH Ww
 rw[jg (by unfold kA;omega),oz]
 exact e1
theorem aa0{R:Type}{fl k:Nat}(kn:ar R)(kr:au R){h:AH}{n:Nat}(hn:n≤256):
 ∀(j d f:Nat),0<d→d+j=n→j<f→zh M fl k kn kr f (n:Int) (d:Int) h=if isP n j d=true then kn h else kr false h:=by
 intro j
 induction j with
 |zero=>
  intro d f h0 hd hf
  obtain⟨f,rfl⟩:∃j,f=j+1:=⟨f-1,by omega⟩
  show qM M fl k _ _ kr (n:Int) _ h=_
  unfold qM
  rw[if_neg (by simp;omega)];rfl
 |succ j ih=>
  intro d f h0 hd hf
  obtain⟨f,rfl⟩:∃j,f=j+1:=⟨f-1,by omega⟩
  show qM M fl k _ _ kr (n:Int) _ h=_
  unfold qM
  unfold isP
  rw[if_pos (by simp;omega),gV h0]
  by_cases c2:n%d=0
  ·rw[if_pos (by simp[c2]),if_pos c2];rfl
  ·rw[if_neg (by simp;omega),if_neg c2,av (d+1) (by push_cast;rfl) (by omega)]
   exact ih (d+1) f (by omega) (by omega) (by omega)
theorem aa1{fl:Nat}{h:AH}{n:Nat}(hn:n≤256)(h2:2≤n):M fl fn.nG [.int .i64 (n:Int)] h=some (.bool (FD.prB n),h):=by
 refine aX (k:=n) (by decide) Tu ?_
 rw[Od]
 unfold nG akW VW VV
 have:=aa0 (fl:=fl) (k:=n) (Lp M fl n (fun(y2:Bool) q=>some (Value.bool y2,q))) (fun(y2:Bool) q=>some (Value.bool y2,q)) (h:=h) hn (n-2) 2 n (by omega) (by omega) (by omega)
 refine this.trans ?_
 have e:FD.prB n=isP n (n-2) 2:=by unfold FD.prB;rw[Nat.ble_eq_true_of_le h2,Bool.true_and]
 rw[e]
 by_cases c:isP n (n-2) 2=true
 ·rw[if_pos c,c];rfl
 ·rw[if_neg c];simp only[Bool.not_eq_true] at c;rw[c]
theorem aa2{R:Type}{fl k:Nat}{h:AH}{bx:Nat}{vs:List Value}(kn:ae R)(kr:ae R){p m:Nat}(hx:OB h bx (.int .i64 (p:Int)::.int .i64 (m:Int)::vs))(hp:2≤p):
 ∀(j i f:Nat),i+j=m→j<f→p^i≤256→m≤8→zg M fl k kn kr f ⟨bx,0,none⟩ ((p^i:Nat):Int) (i:Int) h=if p^m≤256 then kn ((p^m:Nat):Int) h else kr 0 h:=by
 intro j
 induction j with
 |zero=>
  intro i f hi hf hle hm
  obtain⟨f,rfl⟩:∃j,f=j+1:=⟨f-1,by omega⟩
  obtain rfl:i=m:=by omega
  show qL M fl k _ _ kr _ _ _ h=_
  unfold qL
  rw[ab (hx.cell rfl),if_neg (by simp),if_pos hle]
 |succ j ih=>
  intro i f hi hf hle hm
  obtain⟨f,rfl⟩:∃j,f=j+1:=⟨f-1,by omega⟩
  show qL M fl k _ _ kr _ _ _ h=_
  unfold qL
  have ih:=ih (i+1) f (by omega) (by omega)
  have h3:p^(i+1)≤p^m:=Nat.pow_le_pow_right (by omega) (by omega)
  obtain⟨P,hP⟩:∃P,P=p^(i+1):=⟨_,rfl⟩
  have e:p^i*p=P:=hP.symm
  rw[←hP] at ih h3
  have hdiv:p^i≤256/p↔P≤256:=by rw[Nat.le_div_iff_mul_le (by omega),e]
  rw[ab (hx.cell rfl),if_pos (by simp;omega),ab (hx.cell rfl)]
  have hq:∀K:Int→Option R,jd .quo .i64 256 (p:Int) K=K ((256/p:Nat):Int):=fun K=>D0 (a:=256) (b:=p) (by omega) (by omega) K
  rw[hq]
  generalize hg:256/p=G at hdiv
  by_cases c:P≤256
  ·rw[if_neg (by rw[decide_eq_true_eq];have:=hdiv.2 c;omega),ab (hx.cell rfl),av P (by rw[←e];push_cast;rfl) (by omega),av (i+1) (by push_cast;rfl) (by omega)]
   exact ih c hm
  ·rw[if_pos (by rw[decide_eq_true_eq];have:¬p^i≤G:=fun h=>c (hdiv.1 h)
                 omega),if_neg (by omega)]
theorem yb{fl:Nat}{h:AH}(p m:Int)(mod:Sl):∃h',M fl fn.kJ [.agg ⟨[.int .i64 p,.int .i64 m,.slice mod.a mod.l mod.c]⟩] h=some (.int .i64 ((Cr p m:Nat):Int),h')∧ai h h':=by
 have du:=OB.alloc h [.int .i64 p,.int .i64 m,.slice mod.a mod.l mod.c]
 have eF:=ai.alloc h [.int .i64 p,.int .i64 m,.slice mod.a mod.l mod.c]
 generalize eB:h.alloc [.int .i64 p,.int .i64 m,.slice mod.a mod.l mod.c]=h1 at du eF
 refine⟨h1,aX (k:=10) (by decide) Tt ?_,eF⟩
 rw[Oc]
 unfold kJ akU VT cU
 rw[eB]
 dsimp only
 rw[ab (du.cell rfl)]
 unfold Cr
 by_cases h1:p<2
 ·rw[if_neg (by simp[h1]),if_pos (.inl h1)];rfl
 ·rw[if_pos (by simp;omega),ab (du.cell rfl)]
  by_cases h3:m<1
  ·rw[if_neg (by simp;omega),if_pos (by omega)];rfl
  ·rw[if_pos (by simp;omega),ab (du.cell rfl)]
   by_cases h4:m>8
   ·rw[if_pos (by simp;omega),if_pos (by omega)];rfl
   ·rw[if_neg (by simp;omega)]
    obtain⟨p,rfl⟩:∃n:Nat,p=n:=⟨p.toNat,by omega⟩
    obtain⟨m,rfl⟩:∃n:Nat,m=n:=⟨m.toNat,by omega⟩
    have:=aa2 (fl:=fl) (k:=10) (Lo M fl 10 (fun(y4:Int) q=>some (Value.int .i64 y4,q))) (fun(y4:Int) q=>some (Value.int .i64 y4,q)) du (by omega) m 0 10 (by omega) (by omega) (by simp) (by omega)
    refine Eq.trans this ?_
    by_cases c:p^m≤256
    ·have hp:p≤256:=by
      have:p^1≤p^m:=Nat.pow_le_pow_right (by omega) (by omega)
      rw[Nat.pow_one] at this;omega
     rw[if_pos c,if_neg (by omega)]
     simp only[Int.toNat_natCast]
     rw[if_pos c];rfl
    ·rw[if_neg c]
     simp only[Int.toNat_natCast]
     rw[if_neg c]
     split<;>rfl
end Go.Abs.P
end
section
namespace Go.Abs.P
open Go.Abs Go.Fld
theorem age{R:Type}{fl b:Nat}{h:AH}{s:Sl}{xs:List Int}(hb:OB h b [])(hs:SI h s xs)(fA:xs≠[])(hr:xs.length*8≤kA)(K:Sl→AH→Option R):
 ∃s' h',fW fl 1 8 ⟨some ⟨b,0,none⟩,0,0⟩ s h K=K s' h'∧OV h.next h' s' (iv xs)∧ai h h':=by
 have hl:=hs.len
 have axY:0<xs.length:=List.length_pos_iff.2 fA
 unfold fW
 refine⟨⟨some ⟨h.next,0,none⟩,s.l,nZ+1⟩,h.alloc (iv xs),?_,?_,ai.alloc ..⟩
 ·rw[if_neg (by omega),if_pos (by rw[hl];simpa using hr),hs.Cu fA]
  simp only
  rw[if_pos (by unfold nZ;omega),if_neg (by rw[hl];simp;omega)]
  unfold Cu
  simp only[hb.gR]
  rw[if_pos (by simp)]
  simp
 ·rw[hl]
  exact .inr ⟨h.next,nZ+1,Nat.le_refl _,Nat.lt_succ_self _,by simpa [iv] using fA,.inl rfl,by simp,by simp[AH.alloc]⟩
def zs(p c:Nat)(Bz low:List Nat):List Nat:=List.zipWith (fun x l=>(x+(p-c)*l)%p) Bz low
theorem asb(p c:Nat)(s t l:List Nat)(h:s.length=l.length):agE p c (s++t) l=zs p c s l++t:=by
 induction s generalizing l with
 |nil=>cases l with
  |nil=>cases t<;>rfl
  |cons y l=>cases h
 |cons x s ih=>cases l with
  |nil=>cases h
  |cons y l=>
   have:=ih l (by simpa using h)
   show(x+(p-c)*y)%p::agE p c (s++t) l=(x+(p-c)*y)%p::(zs p c s l++t)
   rw[this]
theorem Us{p c:Nat}{s l:List Nat}(h:s.length=l.length):(zs p c s l).length=s.length:=by unfold zs;rw[List.length_zipWith];omega
theorem amK{p c:Nat}(hp:0<p)(s l:List Nat):Small p (zs p c s l):=by
 induction s generalizing l with
 |nil=>intro a h;simp[zs] at h
 |cons x s ih=>cases l with
  |nil=>intro a h;simp[zs] at h
  |cons y l=>
   intro a h
   rcases List.mem_cons.1 (show a∈(x+(p-c)*y)%p::zs p c s l from h) with rfl|h
   ·exact Nat.mod_lt _ hp
   ·exact ih l a h
theorem NF(a b:List Nat):rev a b=a.reverse++b:=by
 induction a generalizing b with
 |nil=>rfl
 |cons x a ih=>simp[rev,ih]
theorem ac4{p c:Nat}{s l:List Nat}(h:s.length=l.length):zs p c s.reverse l.reverse=(zs p c s l).reverse:=by
 unfold zs;rw[List.reverse_zipWith h]
theorem ju{l:List Nat}{i:Nat}(h:i<l.length):(iv (ints l))[i]?=some (.int .i64 ((l[i]:Nat):Int)):=by
 rw[F6 _ _ (by simpa using h),dm]
section
variable{fl k:Nat}{h0:AH}{rb p d c0:Nat}{low:List Nat}{tl:Sl}
theorem ahS{R:Type}(kn:de R)(hp:2≤p)(hp2:p≤256)(DL:SI h0 tl (ints low))(hld:low.length=d)(FV:Small p low)(EO:h0.next≤rb)(bN:fl≤rb)(hd:d≤64)
 (pre Bz post:List Nat) (c L:Nat) (aCd:Bz.length=d) (hss:Small p Bz) (hc:c<p) (TG:pre.length≤64) (hL:L=pre.length+d+1+post.length):
 ∀(e j g:Nat) (h:AH),j+e=d→e<g→OB h rb (iv (ints (pre++((zs p c Bz low).take j++Bz.drop j)++c::post)))→ai h0 h→
 ∃h',ij M fl k kn g tl (p:Int) (d:Int) ⟨some ⟨rb,0,none⟩,L,c0⟩ ((pre.length+d:Nat):Int) (c:Int) (j:Int) h=kn tl (p:Int) (d:Int) ⟨some ⟨rb,0,none⟩,L,c0⟩ ((pre.length+d:Nat):Int) h'∧
  OB h' rb (iv (ints (pre++zs p c Bz low++c::post)))∧ai h0 h':=by
 have hzl:(zs p c Bz low).length=d:=by rw[Us (by omega)];exact aCd
 intro e
 induction e with
 |zero=>
  intro j g h hj hg ho hq
  obtain⟨g,rfl⟩:∃j,g=j+1:=⟨g-1,by omega⟩
  refine⟨h,?_,?_,hq⟩
  ·show dY M fl k _ _ _ _ _ _ _ _ _ h=_
   unfold dY
   rw[if_neg (by simp;omega)]
  ·rw[List.take_of_length_le (by omega),List.drop_of_length_le (by omega),List.append_nil] at ho
   exact ho
 |succ e ih=>
  intro j g h hj hg ho hq
  obtain⟨g,rfl⟩:∃j,g=j+1:=⟨g-1,by omega⟩
  have hlj:low[j]'(by omega)<p:=FV _ (List.getElem_mem _)
  have hsj:Bz[j]'(by omega)<p:=hss _ (List.getElem_mem _)
  have ax5:(p-c)*low[j]'(by omega)≤256*256:=Nat.mul_le_mul (by omega) (by omega)
  have kY:h.cell rb (0+(pre.length+j))=some (.int .i64 ((Bz[j]'(by omega):Nat):Int)):=by
   refine ho.cell ?_
   rw[Nat.zero_add,ju (by simp;omega)]
   congr 3
   rw[List.getElem_append_left (by simp;omega),List.getElem_append_right (by omega)]
   rw[List.getElem_append_right (by simp;omega)]
   simp[show min j (zs p c Bz low).length=j by omega]
  have nv:(iv (ints (pre++((zs p c Bz low).take j++Bz.drop j)++c::post))).set (0+(pre.length+j)) (.int .i64 (((Bz[j]'(by omega)+(p-c)*low[j]'(by omega))%p:Nat):Int))=
   iv (ints (pre++((zs p c Bz low).take (j+1)++Bz.drop (j+1))++c::post)):=by
   rw[iy,ints_set,Nat.zero_add]
   congr 2
   rw[List.set_append_left _ _ (by simp;omega),List.set_append_right _ _ (by omega),show pre.length+j-pre.length=j by omega,List.set_append_right _ _ (by simp;omega)]
   rw[List.drop_eq_getElem_cons (show j<Bz.length by omega),List.take_succ_eq_append_getElem (show j<(zs p c Bz low).length by omega)]
   have:j-((zs p c Bz low).take j).length=0:=by simp;omega
   rw[this,List.set_cons_zero]
   have hz:(zs p c Bz low)[j]'(by omega)=(Bz[j]'(by omega)+(p-c)*low[j]'(by omega))%p:=by simp[zs]
   rw[hz];simp
  obtain⟨h',e1,e2,e3⟩:=ih (j+1) g (h.put rb (some (iv (ints (pre++((zs p c Bz low).take (j+1)++Bz.drop (j+1))++c::post))))) (by omega) (by omega) (ho.put _) (hq.put EO _)
  refine⟨h',?_,e2,e3⟩
  show dY M fl k _ _ _ _ _ _ _ _ _ h=_
  unfold dY
  have e5:bL (bL (((pre.length+d:Nat):Int)-(d:Int))+(j:Int))=((pre.length+j:Nat):Int):=by
   have e6:bL (((pre.length+d:Nat):Int)-(d:Int))=((pre.length:Nat):Int):=av _ (by omega) (by omega)
   rw[e6,av (pre.length+j) (by push_cast;rfl) (by omega)]
  rw[if_pos (by simp;omega),e5,aT rfl (show pre.length+j<L by omega)]
  dsimp only
  rw[ab kY,(DL.quiet hq).read (by omega) (by simp;omega)]
  simp only[Int.toNat_natCast,dm]
  have f1:bL ((p:Int)-(c:Int))=((p-c:Nat):Int):=av _ (by omega) (by omega)
  have f2:bL (((p-c:Nat):Int)*((low[j]'(by omega):Nat):Int))=(((p-c)*low[j]'(by omega):Nat):Int):=av _ (by push_cast;rfl) (by omega)
  have f3:bL (((Bz[j]'(by omega):Nat):Int)+(((p-c)*low[j]'(by omega):Nat):Int))=((Bz[j]'(by omega)+(p-c)*low[j]'(by omega):Nat):Int):=av _ (by push_cast;rfl) (by omega)
  rw[f1,f2,f3,gV (by omega),aT rfl (show pre.length+j<L by omega),ho.st bN (by simp;omega) rfl,nv,av (j+1) (by push_cast;rfl) (by omega)]
  exact e1
theorem ahT{R:Type}(kn:ak R)(hp:2≤p)(hp2:p≤256)(DL:SI h0 tl (ints low))(hld:low.length=d)(FV:Small p low)(EO:h0.next≤rb)(bN:fl≤rb)(hd:d≤64)(hk:64<k):
 ∀(n:Nat) (a post:List Nat) (L g:Nat) (h:AH) (qs:List Nat),a.length=n+d→n≤64→n<g→Small p a→L=a.length+post.length→OB h rb (iv (ints (a++post)))→ai h0 h→
 ∃h' NP,nR M fl k kn g tl (p:Int) (d:Int) ⟨some ⟨rb,0,none⟩,L,c0⟩ ((n+d:Nat):Int) h=nR M fl k kn g tl (p:Int) (d:Int) ⟨some ⟨rb,0,none⟩,L,c0⟩ ((n+d:Nat):Int) h∧
  nR M fl k kn g tl (p:Int) (d:Int) ⟨some ⟨rb,0,none⟩,L,c0⟩ (((n+d:Nat):Int)-1) h=kn ⟨some ⟨rb,0,none⟩,L,c0⟩ h'∧(xh post=true→xh NP=true)∧
  OB h' rb (iv (ints ((ER p low.reverse n a.reverse qs).2.reverse++NP)))∧(ER p low.reverse n a.reverse qs).2.length+NP.length=L∧ai h0 h':=by
 intro n
 induction n with
 |zero=>
  intro a post L g h qs ha hn hg PX hL ho hq
  obtain⟨g,rfl⟩:∃j,g=j+1:=⟨g-1,by omega⟩
  refine⟨h,post,rfl,?_,id,by simpa [ER] using ho,by simp[ER];omega,hq⟩
  show rj M fl k _ _ _ _ _ _ _ h=_
  unfold rj wC
  rw[if_neg (by simp;omega)]
 |succ n ih=>
  intro a post L g h qs ha hn hg PX hL ho hq
  obtain⟨g,rfl⟩:∃j,g=j+1:=⟨g-1,by omega⟩
  obtain⟨c,hc⟩:∃c,c=a[n+d]'(by omega):=⟨_,rfl⟩
  have H5:a=a.take n++(a.take (n+d)).drop n++[c]:=by
   have h1:a.take (n+d+1)=a.take (n+d)++[a[n+d]'(by omega)]:=List.take_succ_eq_append_getElem (by omega)
   rw[List.take_of_length_le (by omega)] at h1
   have h2:a.take (n+d)=a.take n++(a.take (n+d)).drop n:=by
    have:=(List.take_append_drop n (a.take (n+d))).symm
    rwa[List.take_take,Nat.min_eq_left (by omega)] at this
   conv=>lhs;rw[h1,←hc,h2]
  have H6:(a.take n).length=n:=by simp;omega
  have asv:((a.take (n+d)).drop n).length=d:=by simp;omega
  generalize a.take n=pre at H5 H6
  generalize (a.take (n+d)).drop n=Bz at H5 asv
  have hss:Small p Bz:=fun x hx=>PX x (by rw[H5];simp[hx])
  have hsp:Small p pre:=fun x hx=>PX x (by rw[H5];simp[hx])
  have hcp:c<p:=PX c (by rw[H5];simp)
  have hz:zs p c Bz low=zs p c Bz low:=rfl
  have hzl:(zs p c Bz low).length=d:=by rw[Us (by omega)];exact asv
  have hdiv:ER p low.reverse (n+1) a.reverse qs=ER p low.reverse n (pre++zs p c Bz low).reverse (c::qs):=by
   rw[H5]
   simp only[List.reverse_append,List.reverse_cons,List.reverse_nil,List.nil_append,List.singleton_append,ER]
   rw[asb _ _ _ _ _ (by simp;omega),ac4 (by omega)]
  have hoc:a++post=pre++((zs p c Bz low).take 0++Bz.drop 0)++c::post:=by rw[H5];simp
  rw[hoc] at ho
  have kY:h.cell rb (0+(n+d))=some (.int .i64 (c:Int)):=by
   refine ho.cell ?_
   rw[Nat.zero_add,ju (by simp;omega)]
   congr 3
   rw[List.getElem_append_right (by simp;omega)]
   simp[H6,asv]
  obtain⟨h1,i1,i2,i3⟩:=ahS (k:=k) (c0:=c0) (L:=L) (ko M fl k (mD M fl k (nR M fl k kn g) kn)) hp hp2 DL hld FV EO bN hd pre Bz post c asv hss hcp (by omega) (by omega) d 0 k h (by omega) (by omega) ho hq
  have nv:(iv (ints (pre++zs p c Bz low++c::post))).set (0+(n+d)) (.int .i64 0)=iv (ints ((pre++zs p c Bz low)++0::post)):=by
   rw[show(Value.int .i64 0)=Value.int .i64 ((0:Nat):Int) from rfl,iy,ints_set,Nat.zero_add,List.set_append_right _ _ (by simp;omega)]
   have:n+d-(pre++zs p c Bz low).length=0:=by simp;omega
   rw[this,List.set_cons_zero]
  obtain⟨h',NP,_,e1,e2,e3,e4,e5⟩:=ih (pre++zs p c Bz low) (0::post) L g (h1.put rb (some (iv (ints ((pre++zs p c Bz low)++0::post))))) (c::qs) (by simp;omega) (by omega) (by omega)
   (by intro x hx
       rcases List.mem_append.1 hx with hx|hx
       ·exact hsp x hx
       ·exact amK (by omega) _ _ x hx) (by simp;omega) (i2.put _) (i3.put EO _)
  refine⟨h',NP,rfl,?_,fun hz=>e2 (by simp[xh,hz]),by rw[hdiv];exact e3,by rw[hdiv];exact e4,e5⟩
  show rj M fl k _ _ _ _ _ _ _ h=_
  unfold rj wC
  have e0:((n+1+d:Nat):Int)-1=((n+d:Nat):Int):=by omega
  rw[e0,if_pos (by rw[decide_eq_true_eq];omega)]
  unfold De vf sU pd
  rw[aT rfl (show n+d<L by omega)]
  dsimp only
  rw[ab kY]
  unfold uk
  rw[H6] at i1
  refine Eq.trans i1 ?_
  unfold ko
  rw[aT rfl (show n+d<L by omega)]
  dsimp only
  rw[i2.st bN (by simp;omega) rfl,nv]
  unfold mD
  rw[jf (by omega) (by omega)]
  exact e1
theorem amL{R:Type}(kn:ar R)(kr:au R){h:AH}{r:List Nat}{s:Sl}(ho:SI h s (ints r))(hb:r.length≤mh):
 ∀(e i g:Nat),i+e=r.length→e<g→mC M fl k kn kr g s (i:Int) h=if xh (r.drop i)=true then kn h else kr false h:=by
 intro e
 induction e with
 |zero=>
  intro i g hi hg
  obtain⟨g,rfl⟩:∃j,g=j+1:=⟨g-1,by omega⟩
  show iF M fl k _ _ _ _ _ h=_
  unfold iF
  rw[if_neg (by rw[ho.len];simp;omega),List.drop_of_length_le (by omega)];rfl
 |succ e ih=>
  intro i g hi hg
  obtain⟨g,rfl⟩:∃j,g=j+1:=⟨g-1,by omega⟩
  show iF M fl k _ _ _ _ _ h=_
  unfold iF
  rw[if_pos (by rw[ho.len];simp;omega),ho.read (by omega) (by simp;omega)]
  simp only[Int.toNat_natCast,dm]
  rw[List.drop_eq_getElem_cons (show i<r.length by omega)]
  by_cases c:r[i]=0
  ·rw[if_neg (by simp[c]),fE (by omega),ih (i+1) g (by omega) (by omega)]
   simp[xh,c]
  ·rw[if_pos (by simp[c]),if_neg]
   simp only[xh,Bool.and_eq_true,not_and]
   intro hc;exact absurd (Nat.eq_of_beq_eq_true hc) c
end
theorem NG(a b:List Nat):xh (a++b)=(xh a&&xh b):=by
 induction a with
 |nil=>rfl
 |cons x a ih=>simp[xh,ih,Bool.and_assoc]
theorem Xw(a:List Nat):xh a.reverse=xh a:=by
 induction a with
 |nil=>rfl
 |cons x a ih=>rw[List.reverse_cons,NG,ih];simp[xh,Bool.and_comm]
theorem Xx{fl:Nat}{h:AH}{tl tm:Sl}{low mod:List Nat}{p:Nat}(hp:2≤p)(hp2:p≤256)(DL:SI h tl (ints low))(bF:SI h tm (ints mod))(FV:Small p low)(UI:Small p mod)(hld:low.length≤mod.length)(hm:mod.length≤8)(hm0:mod≠[])(bN:fl≤h.next):
 ∃h',M fl fn.mA [.slice tl.a tl.l tl.c,.slice tm.a tm.l tm.c,.int .i64 (p:Int)] h=some (.bool (vN p low mod),h')∧ai h h':=by
 have Cv:=OB.alloc h []
 have Ak:=ai.alloc h []
 generalize eB:h.alloc []=h1 at Cv Ak
 obtain⟨s2,h2,a1,a2,a3⟩:=age (R:=Value×AH) (fl:=fl) Cv (bF.quiet Ak) (by simpa [ints] using hm0) (by unfold kA;simp;omega) (fun Sk Me=>cU Me [.int .i64 1] fun b18 O6=>fW fl 1 8 Sk ⟨(some ⟨b18,0,none⟩),1,1⟩ O6 fun UG Sy=>A5 M fl 100 (fun(y6:Bool) q=>some (Value.bool y6,q)) tl (p:Int) ((tl.l:Nat):Int) UG (bL (((UG.l:Nat):Int)-1)) Sy)
 have lV:=Ak.trans a3
 have hn1:=Ak.1
 have hn2:=a3.1
 obtain⟨s3,h3,c1,c2,c3,c4⟩:=a2.push (R:=Value×AH) (fl:=fl) (bytes:=8) (x:=.int .i64 1) (by omega) (by omega) (by unfold kA;simp;omega) rfl (fun UG Sy=>A5 M fl 100 (fun(y6:Bool) q=>some (Value.bool y6,q)) tl (p:Int) ((tl.l:Nat):Int) UG (bL (((UG.l:Nat):Int)-1)) Sy)
 have UF:ai h1 h3:=c3.quiet a3 (fun a ha=>a2.ge a ha)
 have e1:iv (ints mod)++[Value.int .i64 1]=iv (ints (mod++[1])):=by rw[nX,rV];rfl
 rw[e1] at c2
 rcases c2 with⟨hz,_⟩|⟨rb,cc,g1,g2,g3,g4,rfl,g6⟩
 ·have:=congrArg List.length hz;simp at this
 ·have hob:OB h3 rb (iv (ints ((mod++[1])++[]))):=⟨g2,by simpa using g6⟩
  have hlen:(iv (ints (mod++[1]))).length=mod.length+1:=by simp
  rw[hlen] at c1
  obtain⟨h4,NP,_,d1,d2,d3,d4,d5⟩:=ahT (fl:=fl) (k:=100) (c0:=cc) (rb:=rb) (EB M fl 100 (fun(y6:Bool) q=>some (Value.bool y6,q))) hp hp2 (DL.quiet Ak) rfl FV (by omega) (by omega) (by omega) (by omega) (mod.length+1-low.length) (mod++[1]) [] (mod.length+1) 100 h3 []
   (by simp;omega) (by omega) (by omega) (by intro x hx;rcases List.mem_append.1 hx with hx|hx
                                             ·exact UI x hx
                                             ·simp at hx;omega) (by simp) hob UF
  have hq4:ai h h4:=Ak.trans d5
  refine⟨h4,aX (k:=100) (by decide) OZ ?_,hq4⟩
  rw[JQ]
  unfold mA alF Wu
  have:(cU h [] fun KQ EP=>fW fl 1 8 ⟨(some ⟨KQ,0,none⟩),0,0⟩ tm EP fun Sk Me=>cU Me [.int .i64 1] fun b18 O6=>fW fl 1 8 Sk ⟨(some ⟨b18,0,none⟩),1,1⟩ O6 fun UG Sy=>A5 M fl 100 (fun(y6:Bool) q=>some (Value.bool y6,q)) tl (p:Int) ((tl.l:Nat):Int) UG (bL (((UG.l:Nat):Int)-1)) Sy)=fW fl 1 8 ⟨(some ⟨h.next,0,none⟩),0,0⟩ tm h1 fun Sk Me=>cU Me [.int .i64 1] fun b18 O6=>fW fl 1 8 Sk ⟨(some ⟨b18,0,none⟩),1,1⟩ O6 fun UG Sy=>A5 M fl 100 (fun(y6:Bool) q=>some (Value.bool y6,q)) tl (p:Int) ((tl.l:Nat):Int) UG (bL (((UG.l:Nat):Int)-1)) Sy:=by rw[←eB];rfl
  refine Eq.trans this (Eq.trans a1 (Eq.trans c1 ?_))
  unfold A5
  have e2:bL (((mod.length+1:Nat):Int)-1)=(((mod.length+1-low.length)+low.length:Nat):Int)-1:=by rw[jf (by omega) (by omega)];omega
  have e3:((tl.l:Nat):Int)=(low.length:Int):=by rw[DL.len];simp
  simp only at e2 ⊢
  rw[e2,e3]
  refine Eq.trans d1 ?_
  unfold EB A4 Dd
  have hrl:((ER p low.reverse (mod.length+1-low.length) (mod++[1]).reverse []).2.reverse++NP).length=mod.length+1:=by rw[List.length_append,List.length_reverse];exact d4
  have hsr:SI h4 ⟨some ⟨rb,0,none⟩,mod.length+1,cc⟩ (ints ((ER p low.reverse (mod.length+1-low.length) (mod++[1]).reverse []).2.reverse++NP)):=by
   have:=d3.si none cc
   rwa[cz,hrl] at this
  have:=amL (fl:=fl) (k:=100) (yq M fl 100 (fun(y6:Bool) q=>some (Value.bool y6,q))) (fun(y6:Bool) q=>some (Value.bool y6,q)) hsr (by rw[hrl];unfold mh;omega) (mod.length+1) 0 100 (by rw[hrl];omega) (by omega)
  refine Eq.trans this ?_
  rw[List.drop_zero,NG,d2 rfl,Bool.and_true,Xw]
  have e4:vN p low mod=xh (ER p low.reverse (mod.length+1-low.length) (mod++[1]).reverse []).2:=by
   unfold vN Ym
   rw[NF,NF];simp
  rw[e4]
  split
  ·rename_i hz;rw[hz];rfl
  ·rename_i hz;simp only[Bool.not_eq_true] at hz;rw[hz]
end Go.Abs.P
end
section
namespace Go.Abs.P
open Go.Abs Go.Fld
section
variable{fl k:Nat}{h0:AH}{p:Nat}{mod:List Nat}{tm:Sl}
theorem ahU{R:Type}(kn:bR R)(kr:au R)(hp:2≤p)(hp2:p≤256)(bF:SI h0 tm (ints mod))(UI:Small p mod)(hm:mod.length≤8)(hm0:mod≠[])(bN:fl≤h0.next)(d c:Nat)(hd:d≤mod.length)(hc:c≤256):
 ∀(n v g:Nat) (h:AH),v+n=c→n<g→ai h0 h→
 ∃h',ai h0 h'∧dW M fl k kn kr g tm (p:Int) (c:Int) (d:Int) (v:Int) h=if (xy p d mod n v).isNone=true then kn tm (p:Int) (c:Int) (d:Int) h' else kr false h':=by
 intro n
 induction n with
 |zero=>
  intro v g h hv hg hq
  obtain⟨g,rfl⟩:∃j,g=j+1:=⟨g-1,by omega⟩
  refine⟨h,hq,?_⟩
  show dU M fl k _ _ _ _ _ _ _ _ h=_
  unfold dU
  rw[if_neg (by simp;omega)];rfl
 |succ n ih=>
  intro v g h hv hg hq
  obtain⟨g,rfl⟩:∃j,g=j+1:=⟨g-1,by omega⟩
  have hn:=hq.1
  obtain⟨h1,a1,a2,a3⟩:=KC (fl:=fl) (h:=h) (x:=v) (p:=p) (m:=d) (by omega) (by omega) (by omega) (by omega)
  have Ak:=hq.trans a3
  have hsi:SI h1 ⟨some ⟨h.next,0,none⟩,d,d⟩ (ints (aN p d v)):=by
   have:=a2.si none d
   rwa[cz,dJ] at this
  obtain⟨h2,b1,b2⟩:=Xx (fl:=fl) hp hp2 hsi (bF.quiet Ak) (my (by omega) d v) UI (by rw[dJ];exact hd) hm hm0 (by have:=a3.1;omega)
  have lV:=Ak.trans b2
  have un:dW M fl k kn kr (g+1) tm (p:Int) (c:Int) (d:Int) (v:Int) h=dU M fl k (dW M fl k kn kr g) kn kr tm (p:Int) (c:Int) (d:Int) (v:Int) h:=rfl
  rw[un]
  unfold dU
  rw[if_pos (by simp;omega),ag a1]
  simp only[bB]
  rw[ag b1]
  simp only[asBool]
  by_cases e:vN p (aN p d v) mod=true
  ·refine⟨h2,lV,?_⟩
   have hf:xy p d mod (n+1) v=some (aN p d v):=by simp only[xy];rw[if_pos e]
   rw[if_pos e,hf];rfl
  ·obtain⟨h',i1,i2⟩:=ih (v+1) g h2 (by omega) (by omega) lV
   refine⟨h',i1,?_⟩
   have hf:xy p d mod (n+1) v=xy p d mod n (v+1):=by simp only[xy];rw[if_neg e]
   rw[if_neg e,hf,av (v+1) (by push_cast;rfl) (by omega)]
   exact i2
theorem ahV{R:Type}(kn:ar R)(kr:au R)(hp:2≤p)(bF:SI h0 tm (ints mod))(UI:Small p mod)(hm:mod.length≤8)(hm0:mod≠[])(bN:fl≤h0.next)(hpm:p^mod.length≤256)(hk:256<k):
 ∀(n d g:Nat) (h:AH),d+n=mod.length/2+1→0<d→n<g→ai h0 h→
 ∃h',ai h0 h'∧nP M fl k kn kr g tm (p:Int) ((p^(d-1):Nat):Int) (d:Int) h=if (findD p mod n d).isNone=true then kn h' else kr false h':=by
 have hl0:0<mod.length:=List.length_pos_iff.2 hm0
 have hp2:p≤256:=by
  have:p^1≤p^mod.length:=Nat.pow_le_pow_right (by omega) hl0
  rw[Nat.pow_one] at this;omega
 intro n
 induction n with
 |zero=>
  intro d g h hd h0d hg hq
  obtain⟨g,rfl⟩:∃j,g=j+1:=⟨g-1,by omega⟩
  refine⟨h,hq,?_⟩
  show qO M fl k _ _ _ _ _ _ _ h=_
  unfold qO wm
  rw[av (2*d) (by push_cast;rfl) (by omega),bF.len,if_neg (by rw[decide_eq_true_eq];simp only[cz];omega)];rfl
 |succ n ih=>
  intro d g h hd h0d hg hq
  obtain⟨g,rfl⟩:∃j,g=j+1:=⟨g-1,by omega⟩
  have hpd:p^d≤256:=Nat.le_trans (Nat.pow_le_pow_right (by omega) (by omega)) hpm
  have hpp:p^(d-1)*p=p^d:=by rw[←Nat.pow_succ];congr 1;omega
  obtain⟨h1,a1,a2⟩:=ahU (fl:=fl) (k:=k) (j7 M fl k (nP M fl k kn kr g) kn kr) kr hp hp2 bF UI hm hm0 bN d (p^d) (by omega) hpd (p^d) 0 k h (by omega) (by omega) hq
  have un:nP M fl k kn kr (g+1) tm (p:Int) ((p^(d-1):Nat):Int) (d:Int) h=dW M fl k (j7 M fl k (nP M fl k kn kr g) kn kr) kr k tm (p:Int) ((p^d:Nat):Int) (d:Int) ((0:Nat):Int) h:=by
   show qO M fl k _ _ _ _ _ _ _ h=_
   unfold qO wm
   rw[av (2*d) (by push_cast;rfl) (by omega),bF.len,if_pos (by rw[decide_eq_true_eq];simp only[cz];omega)]
   unfold C9 u9 sL oO ug
   rw[av (p^d) (by rw[←hpp];push_cast;rfl) (by omega)];rfl
  rw[un,a2]
  cases hf:xy p d mod (p^d) 0 with
  |some l=>
   have hd:findD p mod (n+1) d=some l:=by simp only[findD];rw[hf]
   rw[hd]
   exact⟨h1,a1,by simp⟩
  |none=>
   have hd':findD p mod (n+1) d=findD p mod n (d+1):=by simp only[findD];rw[hf]
   rw[hd']
   obtain⟨h',i1,i2⟩:=ih (d+1) g h1 (by omega) (by omega) (by omega) a1
   refine⟨h',i1,?_⟩
   simp only[Option.isNone_none,if_true]
   unfold j7
   rw[av (d+1) (by push_cast;rfl) (by omega)]
   simp only[Nat.add_sub_cancel] at i2
   exact i2
end
theorem L4{fl:Nat}{h:AH}{tm:Sl}{mod:List Nat}{p:Nat}(hp:2≤p)(bF:SI h tm (ints mod))(UI:Small p mod)(hm:mod.length≤8)(hm0:mod≠[])(hpm:p^mod.length≤256)(bN:fl≤h.next):
 ∃h',M fl fn.gX [.slice tm.a tm.l tm.c,.int .i64 (p:Int)] h=some (.bool (acs p mod),h')∧ai h h':=by
 have hl0:0<mod.length:=List.length_pos_iff.2 hm0
 obtain⟨h',a1,a2⟩:=ahV (fl:=fl) (k:=300) (Lq M fl 300 (fun(y6:Bool) q=>some (Value.bool y6,q))) (fun(y6:Bool) q=>some (Value.bool y6,q)) hp bF UI hm hm0 bN hpm (by omega) (mod.length/2) 1 300 h (by omega) (by omega) (by omega) (ai.refl h)
 refine⟨h',aX (k:=300) (by decide) Fm ?_,a1⟩
 rw[Cc]
 unfold gX akY VY VX
 simp only[Nat.sub_self,Nat.pow_zero] at a2
 refine Eq.trans a2 ?_
 unfold acs
 split
 ·rename_i hz;rw[hz];rfl
 ·rename_i hz;simp only[Bool.not_eq_true] at hz;rw[hz]
theorem aa3{R:Type}{fl k:Nat}{h:AH}{bx:Nat}{mod:Sl}{xs:List Int}{p m:Int}(kn:xF R)(kr:ae R)(hx:OB h bx [.int .i64 p,.int .i64 m,.slice mod.a mod.l mod.c])(bF:SI h mod xs)(hm:m=xs.length)(hb:xs.length≤mh):
 ∀(d i g:Nat),i+d=xs.length→d<g→yZ M fl k kn kr g ⟨bx,0,none⟩ (i:Int) h=if (xs.drop i).all (fun c=>decide (0≤c)&&decide (c<p))=true then kn ⟨bx,0,none⟩ h else kr 1 h:=by
 intro d
 induction d with
 |zero=>
  intro i g hi hg
  obtain⟨g,rfl⟩:∃j,g=j+1:=⟨g-1,by omega⟩
  show qA M fl k _ _ _ _ _ h=_
  unfold qA
  dsimp only
  rw[ab (hx.cell rfl),if_neg (by rw[decide_eq_true_eq];omega),List.drop_of_length_le (by omega)]
  rfl
 |succ d ih=>
  intro i g hi hg
  obtain⟨g,rfl⟩:∃j,g=j+1:=⟨g-1,by omega⟩
  show qA M fl k _ _ _ _ _ h=_
  unfold qA
  dsimp only
  rw[ab (hx.cell rfl),if_pos (by rw[decide_eq_true_eq];omega),ah (s:=mod) (hx.cell rfl),bF.read (by omega) (by simp;omega)]
  simp only[Int.toNat_natCast]
  rw[List.drop_eq_getElem_cons (show i<xs.length by omega),List.all_cons]
  by_cases c:xs[i]<0
  ·rw[if_neg (by simp[c]),if_neg (by simp;intro h;omega)]
  ·rw[if_pos (by simp;omega),ah (s:=mod) (hx.cell rfl),bF.read (by omega) (by simp;omega)]
   simp only[Int.toNat_natCast]
   rw[ab (hx.cell rfl)]
   by_cases c2:xs[i]≥p
   ·rw[if_pos (by simp[c2]),if_neg (by simp;intro h;omega)]
   ·rw[if_neg (by simp;omega),fE (by omega),ih (i+1) g (by omega) (by omega)]
    have:(decide (0≤xs[i])&&decide (xs[i]<p))=true:=by simp;omega
    rw[this,Bool.true_and]
theorem L5{p m:Int}{xs:List Int}{D:FD}(h:PN p m xs D):uU p m xs↔(D.m=1∨acs D.p D.low=true):=by
 have hq:=h.ok.q
 constructor
 ·rintro⟨D',gen,h1,h2⟩
  have:=cT h h1
  subst this
  by_cases c:D.m=1
  ·exact .inl c
  ·exact .inr ((D.ad3 (by have:=D.hm;omega) hq h.pr).2 ⟨gen,h2⟩)
 ·intro hc
  by_cases c:D.m=1
  ·obtain⟨x,hx⟩:=D.acA c (h.ok.one c) h.ok.p h.pr
   exact⟨D,x,h,hx⟩
  ·obtain⟨x,hx⟩:=(D.ad3 (by have:=D.hm;omega) hq h.pr).1 (hc.resolve_left c)
   exact⟨D,x,h,hx⟩
theorem tV{p m:Int}{xs:List Int}(h:uU p m xs):kV p m xs=true:=by
 obtain⟨D,gen,h1,_⟩:=h
 exact(rW p m xs).2 ⟨D,h1⟩
theorem NH{fl:Nat}{h:AH}{mod:Sl}{xs:List Int}(p m:Int)(bF:SI h mod xs)(hb:xs.length≤mh)(bN:fl≤h.next):
 ∃h' e,M fl fn.gW [.agg ⟨[.int .i64 p,.int .i64 m,.slice mod.a mod.l mod.c]⟩] h=some (.int .i64 e,h')∧ai h h'∧((uU p m xs∧e=0)∨(¬uU p m xs∧e=1)):=by
 have du:=OB.alloc h [.int .i64 p,.int .i64 m,.slice mod.a mod.l mod.c]
 have eF:=ai.alloc h [.int .i64 p,.int .i64 m,.slice mod.a mod.l mod.c]
 generalize eB:h.alloc [.int .i64 p,.int .i64 m,.slice mod.a mod.l mod.c]=h1 at du eF
 obtain⟨h2,s1,s2⟩:=yb (fl:=fl) (h:=h1) p m mod
 have lV:=eF.trans s2
 have mn:=du.quiet s2
 have atJ:=bF.quiet lV
 have go:∀{r},gW M fl (xs.length+1) p m mod h=some r→M fl fn.gW [.agg ⟨[.int .i64 p,.int .i64 m,.slice mod.a mod.l mod.c]⟩] h=some r:=by
  intro r he
  refine aX (k:=xs.length+1) (by decide) Tp ?_
  rw[N0];exact he
 have un:gW M fl (xs.length+1) p m mod h=(if (((Cr p m:Nat):Int)==0)=false then aE .i64 h2 h.next 0 fun Sm=>aC M fl fn.nG [.int .i64 Sm] h2 fun v23 yc=>asBool v23 fun b25=>if (!b25)=true then some (Value.int .i64 1,yc) else aE .i64 yc h.next 1 fun PW=>if (PW==1)=true then bM yc h.next 2 fun s27=>if (((s27.l:Nat):Int) !=0)=true then some (Value.int .i64 1,yc) else some (Value.int .i64 0,yc) else bM yc h.next 2 fun s28=>aE .i64 yc h.next 1 fun n29=>if (((s28.l:Nat):Int) !=n29)=true then some (Value.int .i64 1,yc) else Pm M fl (xs.length+1) (fun(y2:Int) q=>some (Value.int .i64 y2,q)) ⟨h.next,0,none⟩ 0 yc else some (Value.int .i64 1,h2)):=by
  unfold gW akv VG cU
  rw[eB]
  dsimp only
  rw[ab (du.cell rfl),ab (du.cell rfl),ah (s:=mod) (du.cell rfl),ag s1]
  simp only[asInt,if_true]
 by_cases c:Cr p m=0
 ·refine⟨h2,1,go (un.trans ?_),lV,.inr ⟨fun hf=>?_,rfl⟩⟩
  ·rw[if_neg (by simp[c])]
  ·have:=tV hf
   unfold kV at this
   simp[c] at this
 ·obtain⟨a,b,rfl,rfl,ha,Cv,hab,_⟩:=Xt c
  have ha2:a≤256:=by
   have:a^1≤a^b:=Nat.pow_le_pow_right (by omega) Cv
   rw[Nat.pow_one] at this;omega
  rw[if_pos (by simp;omega),ab (mn.cell rfl),ag (aa1 ha2 ha)] at un
  simp only[asBool] at un
  by_cases c2:FD.prB a=true
  ·rw[if_neg (by simp[c2]),ab (mn.cell rfl)] at un
   by_cases c3:(b:Int)=1
   ·rw[if_pos (by simp[c3]),ah (s:=mod) (mn.cell rfl),bF.len] at un
    have UH:kV (a:Int) (b:Int) xs=xs.isEmpty:=by unfold kV;rw[if_pos c3];simp[c,c2]
    by_cases c4:xs=[]
    ·refine⟨h2,0,go (un.trans ?_),lV,.inl ⟨?_,rfl⟩⟩
     ·rw[if_neg (by simp[c4])]
     ·obtain⟨D,hD⟩:=(rW _ _ _).1 (show kV (a:Int) (b:Int) xs=true by rw[UH,c4];rfl)
      exact(L5 hD).2 (.inl (by have:=hD.hm;omega))
    ·refine⟨h2,1,go (un.trans ?_),lV,.inr ⟨fun hf=>?_,rfl⟩⟩
     ·rw[if_pos (by simp[c4])]
     ·have:=tV hf
      rw[UH] at this;exact c4 (by simpa using this)
   ·rw[if_neg (by simp;omega),ah (s:=mod) (mn.cell rfl),ab (mn.cell rfl),bF.len] at un
    have UH:kV (a:Int) (b:Int) xs=(decide ((xs.length:Int)=(b:Int))&&xs.all (fun c=>decide (0≤c)&&decide (c<(a:Int)))):=by unfold kV;rw[if_neg c3];simp[c,c2]
    by_cases c4:(xs.length:Int)=b
    ·rw[if_neg (by simp[c4])] at un
     unfold Pm at un
     rw[show(0:Int)=((0:Nat):Int) from rfl,aa3 (fl:=fl) (k:=xs.length+1) (Ee M fl (xs.length+1) (fun(y6:Int) q=>some (Value.int .i64 y6,q))) (fun(y6:Int) q=>some (Value.int .i64 y6,q)) mn atJ c4.symm hb xs.length 0 (xs.length+1) (by omega) (by omega),List.drop_zero] at un
     have e2:decide ((xs.length:Int)=b)=true:=by simp[c4]
     rw[e2,Bool.true_and] at UH
     by_cases c5:xs.all (fun c=>decide (0≤c)&&decide (c<(a:Int)))=true
     ·rw[if_pos c5] at un
      obtain⟨D,hD⟩:=(rW _ _ _).1 (show kV (a:Int) (b:Int) xs=true by rw[UH,c5])
      have hDp:D.p=a:=by have:=hD.hp;omega
      have hDm:D.m=b:=by have:=hD.hm;omega
      have hxs:=hD.hx
      have hmo:js D=D.low:=by unfold js;rw[if_neg (by omega)]
      rw[hmo] at hxs
      subst hxs
      obtain⟨h3,i1,i2⟩:=L4 (fl:=fl) (p:=D.p) D.hp atJ D.hs (by rw[D.hl];exact hD.ok.m) (by intro e;have:=D.hl;rw[e] at this;have:=D.hm;simp at*;omega) (by rw[D.hl];exact hD.ok.q) (by have:=lV.1;omega)
      unfold Ee at un
      dsimp only at un
      rw[ah (s:=mod) (mn.cell rfl),ab (mn.cell rfl),←hDp,ag i1] at un
      simp only[asBool] at un
      by_cases c6:acs D.p D.low=true
      ·refine⟨h3,0,?_,lV.trans i2,.inl ⟨(L5 hD).2 (.inr c6),rfl⟩⟩
       rw[←hDp] at go ⊢
       exact go (un.trans (by rw[if_neg (by simp[c6])]))
      ·refine⟨h3,1,?_,lV.trans i2,.inr ⟨fun hf=>?_,rfl⟩⟩
       ·rw[←hDp] at go ⊢
        exact go (un.trans (by rw[if_pos (by simp[c6])]))
       ·rcases(L5 hD).1 hf with e|e
        ·omega
        ·exact c6 e
     ·rw[if_neg c5] at un
      refine⟨h2,1,go un,lV,.inr ⟨fun hf=>?_,rfl⟩⟩
      have:=tV hf
      rw[UH] at this;exact c5 this
    ·rw[if_pos (by simp;omega)] at un
     refine⟨h2,1,go un,lV,.inr ⟨fun hf=>?_,rfl⟩⟩
     have:=tV hf
     rw[UH] at this
     simp[c4] at this
  ·rw[if_pos (by simp[c2])] at un
   refine⟨h2,1,go un,lV,.inr ⟨fun hf=>?_,rfl⟩⟩
   have:=tV hf
   unfold kV at this
   simp[c2] at this
end Go.Abs.P
end
section
namespace Go.Abs.P
open Go.Abs Go.Fld
def fa(D:FD)(mod:Sl):Value:=.agg ⟨[.int .i64 (D.p:Int),.int .i64 (D.m:Int),.slice mod.a mod.l mod.c]⟩
structure RF(h:AH)(mod:Sl)(D:FD):Prop where
 ok:Xs D
 si:SI h mod (ints (js D))
theorem RF.quiet{h h':AH}{mod:Sl}{D:FD}(p:RF h mod D)(q:ai h h'):RF h' mod D:=⟨p.ok,p.si.quiet q⟩
theorem ac5{D:FD}(f:Xs D):Cr (D.p:Int) (D.m:Int)=D.q:=by
 have hp2:=D.hp
 have hm1:=D.hm
 have hp:=f.p
 have hm:=f.m
 have hq:=f.q
 unfold Cr
 rw[if_neg (by omega)]
 simp only[Int.toNat_natCast]
 rw[if_pos (show D.p^D.m≤256 from hq)];rfl
section
variable{D:FD}{mod:Sl}{h:AH}{fl:Nat}
theorem rX(h:AH)(D:FD)(mod:Sl):OB (h.alloc [.int .i64 (D.p:Int),.int .i64 (D.m:Int),.slice mod.a mod.l mod.c]) h.next [.int .i64 (D.p:Int),.int .i64 (D.m:Int),.slice mod.a mod.l mod.c]:=OB.alloc ..
theorem aa4(r:RF h mod D)(x:Int):∃h',M fl fn.kK [fa D mod,.int .i64 x] h=some (.bool (L3 D x),h')∧ai h h':=by
 have du:=rX h D mod
 have eF:=ai.alloc h [.int .i64 (D.p:Int),.int .i64 (D.m:Int),.slice mod.a mod.l mod.c]
 generalize eB:h.alloc [.int .i64 (D.p:Int),.int .i64 (D.m:Int),.slice mod.a mod.l mod.c]=h1 at du eF
 obtain⟨h2,a1,a2⟩:=yb (fl:=fl) (h:=h1) (D.p:Int) (D.m:Int) mod
 have go:∀{v},kK M fl 1 (D.p:Int) (D.m:Int) mod x h=some v→M fl fn.kK [fa D mod,.int .i64 x] h=some v:=by
  intro v e
  refine aX (k:=1) (by decide) acP ?_
  unfold fa
  rw[V5];exact e
 by_cases c:x≥0
 ·refine⟨h2,go ?_,eF.trans a2⟩
  unfold kK ae3 cU
  rw[eB]
  dsimp only
  rw[if_pos (by simp;omega),ab (du.cell rfl),ab (du.cell rfl),ah (s:=mod) (du.cell rfl),ag a1,ac5 r.ok]
  simp only[asInt,if_true]
  unfold L3
  have:decide (0≤x)=true:=by simp;omega
  rw[this,Bool.true_and]
 ·refine⟨h1,go ?_,eF⟩
  unfold kK ae3 cU
  rw[eB]
  dsimp only
  rw[if_neg (by simp;omega)]
  unfold L3
  have:decide (0≤x)=false:=by simp;omega
  rw[this,Bool.false_and]
theorem amM(r:RF h mod D)(x:Int):∃h',M fl fn.yU [fa D mod,.int .i64 x] h=some (.int .i64 ((pH D x:Nat):Int),h')∧ai h h':=by
 have du:=rX h D mod
 have eF:=ai.alloc h [.int .i64 (D.p:Int),.int .i64 (D.m:Int),.slice mod.a mod.l mod.c]
 generalize eB:h.alloc [.int .i64 (D.p:Int),.int .i64 (D.m:Int),.slice mod.a mod.l mod.c]=h1 at du eF
 obtain⟨h2,a1,a2⟩:=aa4 (fl:=fl) (r.quiet eF) x
 refine⟨h2,aX (k:=1) (by decide) acQ ?_,eF.trans a2⟩
 unfold fa
 rw[Xh]
 unfold yU amw cU
 rw[eB]
 dsimp only
 rw[ab (du.cell rfl),ab (du.cell rfl),ah (s:=mod) (du.cell rfl),ag (show M fl fn.kK [.agg ⟨[.int .i64 (D.p:Int),.int .i64 (D.m:Int),.slice mod.a mod.l mod.c]⟩,.int .i64 x] h1=_ from a1)]
 simp only[asBool]
 unfold L3 pH
 by_cases c:0≤x∧x<D.q
 ·rw[if_pos (by simp;omega),if_pos c]
  congr 2
  rw[Int.toNat_of_nonneg c.1]
 ·rw[if_neg (by simp;omega),if_neg c];rfl
theorem mG(r:RF h mod D)(x:Int)(bN:fl≤h.next):∃h' b,M fl fn.cL [fa D mod,.int .i64 x] h=some (.slice (some ⟨b,0,none⟩) D.m D.m,h')∧h.next≤b∧OB h' b (iv (ints (D.dg (pH D x))))∧ai h h':=by
 have du:=rX h D mod
 have eF:=ai.alloc h [.int .i64 (D.p:Int),.int .i64 (D.m:Int),.slice mod.a mod.l mod.c]
 generalize eB:h.alloc [.int .i64 (D.p:Int),.int .i64 (D.m:Int),.slice mod.a mod.l mod.c]=h1 at du eF
 obtain⟨h2,a1,a2⟩:=amM (fl:=h1.next) (r.quiet eF) x
 have lV:=eF.trans a2
 have hm:=r.ok.m
 have hq:=r.ok.q
 have hx:=HY D x
 obtain⟨h3,b1,b2,b3⟩:=KC (fl:=fl) (h:=h2) (x:=pH D x) (p:=D.p) (m:=D.m) D.pp (by omega) (by omega) (by have:=lV.1;omega)
 refine⟨h3,h2.next,aX (k:=1) (by decide) R4 ?_,lV.1,b2,lV.trans b3⟩
 unfold fa
 rw[LM]
 unfold cL ame cU
 rw[eB]
 dsimp only
 rw[ab (du.cell rfl),ab (du.cell rfl),ah (s:=mod) (du.cell rfl),ag (show M h1.next fn.yU [.agg ⟨[.int .i64 (D.p:Int),.int .i64 (D.m:Int),.slice mod.a mod.l mod.c]⟩,.int .i64 x] h1=_ from a1)]
 simp only[asInt,if_true]
 have mn:=du.quiet a2
 rw[ab (mn.cell rfl),ab (mn.cell rfl),ag b1]
 rfl
theorem aa5{R:Type}{k:Nat}(kn:ae R){bx:Nat}{vs:List Value}{s:Sl}{l:List Nat}{p:Nat}(hx:OB h bx (.int .i64 (p:Int)::vs))(hs:SI h s (ints l))(UI:Small p l)(hb:p^l.length≤9223372036854775808)(hl:l.length≤64):
 ∀(i f:Nat),i≤l.length→i<f→
 zP M fl k kn f s ⟨bx,0,none⟩ ((dC p (l.drop i):Nat):Int) ((i:Int)-1) h=kn ((dC p l:Nat):Int) h:=by
 intro i
 induction i with
 |zero=>
  intro f hi hf
  obtain⟨f,rfl⟩:∃j,f=j+1:=⟨f-1,by omega⟩
  show rN M fl k _ _ s _ _ _ h=_
  unfold rN
  rw[if_neg (by simp),List.drop_zero]
 |succ i ih=>
  intro f hi hf
  obtain⟨f,rfl⟩:∃j,f=j+1:=⟨f-1,by omega⟩
  show rN M fl k _ _ s _ _ _ h=_
  unfold rN
  have e1:((i+1:Nat):Int)-1=(i:Int):=by omega
  rw[e1,if_pos (by simp),ab (hx.cell rfl),hs.read (by omega) (by simp;omega)]
  simp only[Int.toNat_natCast,dm]
  have hd:l.drop i=l[i]::l.drop (i+1):=List.drop_eq_getElem_cons (by omega)
  have hlt:dC p (l.drop i)<9223372036854775808:=by
   have h1:=aco (l.drop i) (fun a ha=>UI a (List.mem_of_mem_drop ha))
   have h2:p^(l.drop i).length≤p^l.length:=Nat.pow_le_pow_right (by have:=UI l[i] (List.getElem_mem _);omega) (by simp)
   omega
  have hv:dC p (l.drop i)=l[i]+p*dC p (l.drop (i+1)):=by rw[hd];rfl
  have e2:bL (((dC p (l.drop (i+1)):Nat):Int)*(p:Int))=((p*dC p (l.drop (i+1)):Nat):Int):=av _ (by push_cast;rw[Int.mul_comm]) (by omega)
  rw[e2,av (dC p (l.drop i)) (by rw[hv];push_cast;omega) hlt,jf (by omega) (by omega)]
  exact ih f (by omega) (by omega)
theorem DE(r:RF h mod D){s:Sl}{l:List Nat}(hs:SI h s (ints l))(UI:Small D.p l)(hl:l.length=D.m):
 ∃h',M fl fn.fO [fa D mod,.slice s.a s.l s.c] h=some (.int .i64 ((dC D.p l:Nat):Int),h')∧ai h h':=by
 have du:=rX h D mod
 have eF:=ai.alloc h [.int .i64 (D.p:Int),.int .i64 (D.m:Int),.slice mod.a mod.l mod.c]
 generalize eB:h.alloc [.int .i64 (D.p:Int),.int .i64 (D.m:Int),.slice mod.a mod.l mod.c]=h1 at du eF
 have hm:=r.ok.m
 have hq:D.p^D.m≤256:=r.ok.q
 refine⟨h1,aX (k:=l.length+1) (by decide) Ty ?_,eF⟩
 unfold fa
 rw[OR]
 unfold fO amg W4 W2 cU
 rw[eB]
 dsimp only
 rw[hs.len,jf (by simp;omega) (by simp;omega)]
 have:=aa5 (fl:=fl) (k:=l.length+1) (LN M fl (l.length+1) (fun(y4:Int) q=>some (Value.int .i64 y4,q))) du (hs.quiet eF) UI (by rw[hl];omega) (by omega) l.length (l.length+1) (by omega) (by omega)
 simp only[List.drop_length] at this
 simp only[cz]
 exact this
theorem ahW(r:RF h mod D)(x y:Int)(bN:fl≤h.next):∃h',M fl fn.nJ [fa D mod,.int .i64 x,.int .i64 y] h=some (.int .i64 ((D.add (pH D x) (pH D y):Nat):Int),h')∧ai h h':=by
 have du:=rX h D mod
 have eF:=ai.alloc h [.int .i64 (D.p:Int),.int .i64 (D.m:Int),.slice mod.a mod.l mod.c]
 generalize eB:h.alloc [.int .i64 (D.p:Int),.int .i64 (D.m:Int),.slice mod.a mod.l mod.c]=h1 at du eF
 obtain⟨h2,b2,a1,a2,a3,a4⟩:=mG (fl:=fl) (r.quiet eF) x (by have:=eF.1;omega)
 have lV:=eF.trans a4
 obtain⟨h3,b3,c1,c2,c3,c4⟩:=mG (fl:=fl) (r.quiet lV) y (by have:=lV.1;omega)
 have UF:=lV.trans c4
 have hm:=r.ok.m
 have aEJ:=a3.1
 have fA:b3≠b2:=by omega
 have hqc:iL (some ⟨b2,0,none⟩) h3 h3:=iL.refl _ _
 have hsb:SI h3 ⟨some ⟨b3,0,none⟩,D.m,D.m⟩ (ints (D.dg (pH D y))):=by
  have:=c3.si none D.m
  rwa[cz,D.gM] at this
 have loop:∀(d i g:Nat) (pre a:List Nat) (h':AH),i+d=D.m→d<g→pre.length=i→a.length=d→Small D.p a→OB h' b2 (iv (ints (pre++a)))→iL (some ⟨b2,0,none⟩) h3 h'→
  ∃h'',zU M fl 20 (zT M fl 20 (fun(y6:Int) q=>some (Value.int .i64 y6,q))) g ⟨h.next,0,none⟩ ⟨some ⟨b2,0,none⟩,D.m,D.m⟩ ⟨some ⟨b3,0,none⟩,D.m,D.m⟩ (i:Int) h'=zT M fl 20 (fun(y6:Int) q=>some (Value.int .i64 y6,q)) ⟨h.next,0,none⟩ ⟨some ⟨b2,0,none⟩,D.m,D.m⟩ h''∧OB h'' b2 (iv (ints (pre++tK D.p a ((D.dg (pH D y)).drop i))))∧iL (some ⟨b2,0,none⟩) h3 h'':=by
  have aiE:=(du.quiet a4).quiet c4
  have hp:=r.ok.p
  have hp0:=D.pp
  have hlb:=D.gM (pH D y)
  have hsy:=D.mz (pH D y)
  generalize D.dg (pH D y)=b at hsb hlb hsy ⊢
  intro d
  induction d with
  |zero=>
   intro i g pre a h' hi hg TG ha PX ho hq
   obtain⟨g,rfl⟩:∃j,g=j+1:=⟨g-1,by omega⟩
   obtain rfl:a=[]:=List.eq_nil_of_length_eq_zero ha
   refine⟨h',?_,by simpa [tK] using ho,hq⟩
   show rT M fl 20 _ _ _ _ _ _ h'=_
   unfold rT
   rw[if_neg (by simp;omega)]
  |succ d ih=>
   intro i g pre a h' hi hg TG ha PX ho hq
   obtain⟨g,rfl⟩:∃j,g=j+1:=⟨g-1,by omega⟩
   obtain⟨x,a,rfl⟩:∃x a',a=x::a':=by cases a with|nil=>simp at ha|cons x a=>exact⟨x,a,rfl⟩
   have hxp:x<D.p:=PX x (List.mem_cons_self ..)
   have hbp:b[i]'(by omega)<D.p:=hsy _ (List.getElem_mem _)
   have hd:b.drop i=b[i]'(by omega)::b.drop (i+1):=List.drop_eq_getElem_cons (by omega)
   have kY:h'.cell b2 (0+i)=some (.int .i64 ((x:Nat):Int)):=by
    refine ho.cell ?_
    rw[Nat.zero_add,ju (by simp;omega)]
    congr 3
    rw[List.getElem_append_right (by omega)]
    simp[TG]
   have nv:(iv (ints (pre++x::a))).set (0+i) (.int .i64 (((x+b[i]'(by omega))%D.p:Nat):Int))=iv (ints ((pre++[(x+b[i]'(by omega))%D.p])++a)):=by
    rw[iy,ints_set,Nat.zero_add,List.set_append_right _ _ (by omega),show i-pre.length=0 by omega,List.set_cons_zero];simp
   obtain⟨h'',e1,e2,e3⟩:=ih (i+1) g (pre++[(x+b[i]'(by omega))%D.p]) a (h'.put b2 (some (iv (ints ((pre++[(x+b[i]'(by omega))%D.p])++a))))) (by omega) (by omega) (by simp;omega) (by simpa using ha) (fun y hy=>PX y (List.mem_cons_of_mem _ hy)) (ho.put _) (hq.trans (iL.put _))
   refine⟨h'',?_,?_,e3⟩
   ·show rT M fl 20 _ _ _ _ _ _ h'=_
    unfold rT
    have hbn:h.next<h1.next:=du.1
    rw[if_pos (by simp;omega),aT rfl (show i<D.m by omega)]
    dsimp only
    rw[ab kY,(hsb.AA hq (fun a b ha hb=>by cases ha;cases hb;simp;omega)).read (by omega) (by simp;omega)]
    simp only[Int.toNat_natCast,dm]
    rw[ab ((hq.ob aiE (fun a ha=>by cases ha;simp;omega)).cell rfl),av (x+b[i]'(by omega)) (by push_cast;rfl) (by omega),gV hp0,aT rfl (show i<D.m by omega),ho.st (by have:=eF.1;omega) (by simp;omega) rfl,nv,av (i+1) (by push_cast;rfl) (by omega)]
    exact e1
   ·rw[hd]
    simpa [tK] using e2
 obtain⟨h4,d1,d2,d3⟩:=loop D.m 0 20 [] (D.dg (pH D x)) h3 (by omega) (by omega) rfl (D.gM _) (D.mz _) (a3.quiet c4) (iL.refl _ _)
 have hq4:ai h h4:=d3.quiet UF (fun a ha=>by cases ha;have:=eF.1;simp;omega)
 simp only[List.nil_append,List.drop_zero] at d2
 have hs4:SI h4 ⟨some ⟨b2,0,none⟩,D.m,D.m⟩ (ints (tK D.p (D.dg (pH D x)) (D.dg (pH D y)))):=by
  have:=d2.si none D.m
  rwa[cz,D.IB] at this
 obtain⟨h5,e1,e2⟩:=DE (fl:=fl) (r.quiet hq4) hs4 (F3 D.pp _ _) (D.IB _ _)
 refine⟨h5,aX (k:=20) (by decide) aaQ ?_,hq4.trans e2⟩
 unfold fa
 rw[Tk]
 unfold nJ amu Xg cU
 rw[eB]
 dsimp only
 rw[ab (du.cell rfl),ab (du.cell rfl),ah (s:=mod) (du.cell rfl),ag (show M fl fn.cL [.agg ⟨[.int .i64 (D.p:Int),.int .i64 (D.m:Int),.slice mod.a mod.l mod.c]⟩,.int .i64 x] h1=_ from a1)]
 simp only[bB]
 have mn:=du.quiet a4
 rw[ab (mn.cell rfl),ab (mn.cell rfl),ah (s:=mod) (mn.cell rfl),ag (show M fl fn.cL [.agg ⟨[.int .i64 (D.p:Int),.int .i64 (D.m:Int),.slice mod.a mod.l mod.c]⟩,.int .i64 y] h2=_ from c1)]
 simp only
 unfold Xf
 refine Eq.trans d1 ?_
 unfold zT
 have hb4:=d3.ob (mn.quiet c4) (fun a ha=>by cases ha;have:=du.1;simp;omega)
 rw[ab (hb4.cell rfl),ab (hb4.cell rfl),ah (s:=mod) (hb4.cell rfl),ag (show M fl fn.fO [.agg ⟨[.int .i64 (D.p:Int),.int .i64 (D.m:Int),.slice mod.a mod.l mod.c]⟩,.slice (some ⟨b2,0,none⟩) D.m D.m] h4=_ from e1)]
 rfl
end
end Go.Abs.P
end
section
namespace Go.Abs.P
open Go.Abs Go.Fld
section
variable{D:FD}{mod:Sl}{h:AH}{fl:Nat}
theorem ahX(r:RF h mod D)(x:Int)(bN:fl≤h.next):∃h',M fl fn.qi [fa D mod,.int .i64 x] h=some (.int .i64 ((D.neg (pH D x):Nat):Int),h')∧ai h h':=by
 have du:=rX h D mod
 have eF:=ai.alloc h [.int .i64 (D.p:Int),.int .i64 (D.m:Int),.slice mod.a mod.l mod.c]
 generalize eB:h.alloc [.int .i64 (D.p:Int),.int .i64 (D.m:Int),.slice mod.a mod.l mod.c]=h1 at du eF
 obtain⟨h2,b2,a1,a2,a3,a4⟩:=mG (fl:=fl) (r.quiet eF) x (by have:=eF.1;omega)
 have lV:=eF.trans a4
 have hm:=r.ok.m
 have hbn:h.next<h1.next:=du.1
 have axA:=du.quiet a4
 have hp:=r.ok.p
 have hp0:=D.pp
 have loop:∀(d i g:Nat) (pre a:List Nat) (h':AH),i+d=D.m→d<g→pre.length=i→a.length=d→Small D.p a→OB h' b2 (iv (ints (pre++a)))→iL (some ⟨b2,0,none⟩) h2 h'→
  ∃h'',zA M fl 20 (zz M fl 20 (fun(y6:Int) q=>some (Value.int .i64 y6,q))) g ⟨h.next,0,none⟩ ⟨some ⟨b2,0,none⟩,D.m,D.m⟩ (i:Int) h'=zz M fl 20 (fun(y6:Int) q=>some (Value.int .i64 y6,q)) ⟨h.next,0,none⟩ ⟨some ⟨b2,0,none⟩,D.m,D.m⟩ h''∧OB h'' b2 (iv (ints (pre++yL D.p a)))∧iL (some ⟨b2,0,none⟩) h2 h'':=by
  intro d
  induction d with
  |zero=>
   intro i g pre a h' hi hg TG ha PX ho hq
   obtain⟨g,rfl⟩:∃j,g=j+1:=⟨g-1,by omega⟩
   obtain rfl:a=[]:=List.eq_nil_of_length_eq_zero ha
   refine⟨h',?_,by simpa [yL] using ho,hq⟩
   show re M fl 20 _ _ _ _ _ h'=_
   unfold re
   rw[if_neg (by simp;omega)]
  |succ d ih=>
   intro i g pre a h' hi hg TG ha PX ho hq
   obtain⟨g,rfl⟩:∃j,g=j+1:=⟨g-1,by omega⟩
   obtain⟨x,a,rfl⟩:∃x a',a=x::a':=by cases a with|nil=>simp at ha|cons x a=>exact⟨x,a,rfl⟩
   have hxp:x<D.p:=PX x (List.mem_cons_self ..)
   have kY:h'.cell b2 (0+i)=some (.int .i64 ((x:Nat):Int)):=by
    refine ho.cell ?_
    rw[Nat.zero_add,ju (by simp;omega)]
    congr 3
    rw[List.getElem_append_right (by omega)]
    simp[TG]
   have nv:(iv (ints (pre++x::a))).set (0+i) (.int .i64 (((D.p-x)%D.p:Nat):Int))=iv (ints ((pre++[(D.p-x)%D.p])++a)):=by
    rw[iy,ints_set,Nat.zero_add,List.set_append_right _ _ (by omega),show i-pre.length=0 by omega,List.set_cons_zero];simp
   obtain⟨h'',e1,e2,e3⟩:=ih (i+1) g (pre++[(D.p-x)%D.p]) a (h'.put b2 (some (iv (ints ((pre++[(D.p-x)%D.p])++a))))) (by omega) (by omega) (by simp;omega) (by simpa using ha) (fun y hy=>PX y (List.mem_cons_of_mem _ hy)) (ho.put _) (hq.trans (iL.put _))
   have hx':=hq.ob axA (fun a ha=>by cases ha;simp;omega)
   refine⟨h'',?_,by simpa [yL] using e2,e3⟩
   show re M fl 20 _ _ _ _ _ h'=_
   unfold re
   rw[if_pos (by simp;omega),ab (hx'.cell rfl),aT rfl (show i<D.m by omega)]
   dsimp only
   rw[ab kY,ab (hx'.cell rfl),av (D.p-x) (by omega) (by omega),gV hp0,aT rfl (show i<D.m by omega),ho.st (by have:=eF.1;omega) (by simp;omega) rfl,nv,av (i+1) (by push_cast;rfl) (by omega)]
   exact e1
 obtain⟨h4,d1,d2,d3⟩:=loop D.m 0 20 [] (D.dg (pH D x)) h2 (by omega) (by omega) rfl (D.gM _) (D.mz _) a3 (iL.refl _ _)
 have hq4:ai h h4:=d3.quiet lV (fun a ha=>by cases ha;have:=eF.1;simp;omega)
 simp only[List.nil_append] at d2
 have hs4:SI h4 ⟨some ⟨b2,0,none⟩,D.m,D.m⟩ (ints (yL D.p (D.dg (pH D x)))):=by
  have:=d2.si none D.m
  rwa[cz,D.IC] at this
 obtain⟨h5,e1,e2⟩:=DE (fl:=fl) (r.quiet hq4) hs4 (F4 D.pp _) (D.IC _)
 refine⟨h5,aX (k:=20) (by decide) aaM ?_,hq4.trans e2⟩
 unfold fa
 rw[SY]
 unfold qi alD Ws cU
 rw[eB]
 dsimp only
 rw[ab (du.cell rfl),ab (du.cell rfl),ah (s:=mod) (du.cell rfl),ag (show M fl fn.cL [.agg ⟨[.int .i64 (D.p:Int),.int .i64 (D.m:Int),.slice mod.a mod.l mod.c]⟩,.int .i64 x] h1=_ from a1)]
 simp only[bB]
 unfold Wr
 refine Eq.trans d1 ?_
 unfold zz
 have hb4:=d3.ob axA (fun a ha=>by cases ha;simp;omega)
 rw[ab (hb4.cell rfl),ab (hb4.cell rfl),ah (s:=mod) (hb4.cell rfl),ag (show M fl fn.fO [.agg ⟨[.int .i64 (D.p:Int),.int .i64 (D.m:Int),.slice mod.a mod.l mod.c]⟩,.slice (some ⟨b2,0,none⟩) D.m D.m] h4=_ from e1)]
 rfl
end
end Go.Abs.P
end
section
namespace Go.Abs.P
open Go.Abs Go.Fld
theorem NI{l:List Nat}{i n:Nat}:(iv (ints l)).set i (.int .i64 (n:Int))=iv (ints (l.set i n)):=by rw[iy,ints_set]
theorem Ut{p:Nat}{l:List Nat}(h:Small p l)(i:Nat){v:Nat}(hv:v<p):Small p (l.set i v):=by
 intro a ha
 rcases List.mem_or_eq_of_mem_set ha with h1|h1
 ·exact h a h1
 ·omega
section
variable{D:FD}{fl k:Nat}{h0:AH}{bx cb:Nat}{mod ta tb:Sl}{a b:List Nat}
theorem asd{R:Type}(kn:aY R)(f:Xs D)(hx:OB h0 bx [.int .i64 (D.p:Int),.int .i64 (D.m:Int),.slice mod.a mod.l mod.c])
 (ha:SI h0 ta (ints a)) (hla:a.length=D.m) (PX:Small D.p a) (hb:SI h0 tb (ints b)) (hlb:b.length=D.m) (hsb:Small D.p b) (hcb:h0.next≤cb) (bN:fl≤cb) (i:Nat) (hi:i<D.m) (P:V D.p):
 ∀(d j g:Nat) (c:List Nat) (h:AH),j+d=D.m→d<g→c.length=2*D.m-1→Small D.p c→OB h cb (iv (ints c))→ai h0 h→
 U6 D.m (vec D.low) (2*D.m-1) c=uW P (fun k=>vec a i*lc j (vec b) (fun j=>tp D.m (vec D.low) (i+j) e0) k)→
 ∃h' c',jS M fl k kn g ⟨bx,0,none⟩ ta tb ⟨some ⟨cb,0,none⟩,2*D.m-1,2*D.m-1⟩ (i:Int) (j:Int) h=kn ⟨bx,0,none⟩ ta tb ⟨some ⟨cb,0,none⟩,2*D.m-1,2*D.m-1⟩ (i:Int) h'∧
  OB h' cb (iv (ints c'))∧c'.length=2*D.m-1∧Small D.p c'∧ai h0 h'∧U6 D.m (vec D.low) (2*D.m-1) c'=uW P (fun k=>vec a i*lc D.m (vec b) (fun j=>tp D.m (vec D.low) (i+j) e0) k):=by
 have hp:=f.p
 have hm:=f.m
 have hp0:=D.pp
 intro d
 induction d with
 |zero=>
  intro j g c h hj hg hlc XZ ho hq TN
  obtain⟨g,rfl⟩:∃j,g=j+1:=⟨g-1,by omega⟩
  obtain rfl:j=D.m:=by omega
  refine⟨h,c,?_,ho,hlc,XZ,hq,TN⟩
  show dz M fl k _ _ _ _ _ _ _ _ h=_
  unfold dz
  dsimp only
  rw[ab ((hx.quiet hq).cell rfl),if_neg (by simp)]
 |succ d ih=>
  intro j g c h hj hg hlc XZ ho hq TN
  obtain⟨g,rfl⟩:∃j,g=j+1:=⟨g-1,by omega⟩
  have tZ:=hx.quiet hq
  have hai:a[i]'(by omega)<D.p:=PX _ (List.getElem_mem _)
  have hbj:b[j]'(by omega)<D.p:=hsb _ (List.getElem_mem _)
  have aGv:c[i+j]'(by omega)<D.p:=XZ _ (List.getElem_mem _)
  have hab:a[i]'(by omega)*b[j]'(by omega)≤256*256:=Nat.mul_le_mul (by omega) (by omega)
  have kY:h.cell cb (0+(i+j))=some (.int .i64 ((c[i+j]'(by omega):Nat):Int)):=ho.cell (by rw[Nat.zero_add,ju (by omega)])
  obtain⟨h',c',e1,e2⟩:=ih (j+1) g (c.set (i+j) ((c[i+j]'(by omega)+a[i]'(by omega)*b[j]'(by omega))%D.p)) (h.put cb (some (iv (ints (c.set (i+j) ((c[i+j]'(by omega)+a[i]'(by omega)*b[j]'(by omega))%D.p)))))) (by omega) (by omega) (by simpa using hlc) (Ut XZ _ (Nat.mod_lt _ hp0)) (ho.put _) (hq.put hcb _) (by
   unfold U6
   rw[ajE (d:=Fin.ofNat D.p (a[i]'(by omega))*Fin.ofNat D.p (b[j]'(by omega))) _ (show i+j<2*D.m-1 by omega) (by omega) (by rw[Qo,Qp,acq])]
   unfold U6 at TN
   rw[TN,Pa]
   funext k
   have h1:vec (p:=D.p) a i=Fin.ofNat D.p (a[i]'(by omega)):=by unfold vec;rw[lk]
   have h2:vec (p:=D.p) b j=Fin.ofNat D.p (b[j]'(by omega)):=by unfold vec;rw[lk]
   unfold uW
   rw[h1,h2]
   grind)
  refine⟨h',c',?_,e2⟩
  show dz M fl k _ _ _ _ _ _ _ _ h=_
  unfold dz
  dsimp only
  rw[ab (tZ.cell rfl),if_pos (by simp;omega),av (i+j) (by push_cast;rfl) (by omega),aT rfl (show i+j<2*D.m-1 by omega)]
  dsimp only
  rw[ab kY,(ha.quiet hq).read (by omega) (by simp;omega),(hb.quiet hq).read (by omega) (by simp;omega)]
  simp only[Int.toNat_natCast,dm]
  have f1:bL (((a[i]'(by omega):Nat):Int)*((b[j]'(by omega):Nat):Int))=((a[i]'(by omega)*b[j]'(by omega):Nat):Int):=av _ (by push_cast;rfl) (by omega)
  rw[ab (tZ.cell rfl),f1,av (c[i+j]'(by omega)+a[i]'(by omega)*b[j]'(by omega)) (by push_cast;rfl) (by omega),gV hp0,aT rfl (show i+j<2*D.m-1 by omega),ho.st bN (by simp;omega) rfl,Nat.zero_add,NI,av (j+1) (by push_cast;rfl) (by omega)]
  exact e1
theorem amN{R:Type}(kn:bW R)(f:Xs D)(hx:OB h0 bx [.int .i64 (D.p:Int),.int .i64 (D.m:Int),.slice mod.a mod.l mod.c])
 (ha:SI h0 ta (ints a)) (hla:a.length=D.m) (PX:Small D.p a) (hb:SI h0 tb (ints b)) (hlb:b.length=D.m) (hsb:Small D.p b) (hcb:h0.next≤cb) (bN:fl≤cb) (hk:8<k):
 ∀(d i g:Nat) (c:List Nat) (h:AH),i+d=D.m→d<g→c.length=2*D.m-1→Small D.p c→OB h cb (iv (ints c))→ai h0 h→
 U6 D.m (vec D.low) (2*D.m-1) c=lc (p:=D.p) i (vec a) (fun i=>lc D.m (vec b) (fun j=>tp D.m (vec D.low) (i+j) e0))→
 ∃h' c',vF M fl k kn g ⟨bx,0,none⟩ ta tb ⟨some ⟨cb,0,none⟩,2*D.m-1,2*D.m-1⟩ (i:Int) h=kn ⟨bx,0,none⟩ ⟨some ⟨cb,0,none⟩,2*D.m-1,2*D.m-1⟩ h'∧
  OB h' cb (iv (ints c'))∧c'.length=2*D.m-1∧Small D.p c'∧ai h0 h'∧U6 D.m (vec D.low) (2*D.m-1) c'=lc (p:=D.p) D.m (vec a) (fun i=>lc D.m (vec b) (fun j=>tp D.m (vec D.low) (i+j) e0)):=by
 have hm:=f.m
 intro d
 induction d with
 |zero=>
  intro i g c h hi hg hlc XZ ho hq TN
  obtain⟨g,rfl⟩:∃j,g=j+1:=⟨g-1,by omega⟩
  obtain rfl:i=D.m:=by omega
  refine⟨h,c,?_,ho,hlc,XZ,hq,TN⟩
  show rS M fl k _ _ _ _ _ _ _ h=_
  unfold rS wT
  dsimp only
  rw[ab ((hx.quiet hq).cell rfl),if_neg (by simp)]
 |succ d ih=>
  intro i g c h hi hg hlc XZ ho hq TN
  obtain⟨g,rfl⟩:∃j,g=j+1:=⟨g-1,by omega⟩
  obtain⟨h1,c1,a1,a2,a3,a4,a5,a6⟩:=asd (k:=k) (mF M fl k (vF M fl k kn g) kn) f hx ha hla PX hb hlb hsb hcb bN i (by omega) (lc (p:=D.p) i (vec a) (fun i=>lc D.m (vec b) (fun j=>tp D.m (vec D.low) (i+j) e0))) D.m 0 k c h (by omega) (by omega) hlc XZ ho hq (by
   rw[TN]
   funext k
   simp only[uW,lc,sm]
   grind)
  obtain⟨h',c',e1,e2⟩:=ih (i+1) g c1 h1 (by omega) (by omega) a3 a4 a2 a5 (by rw[a6,Pa])
  refine⟨h',c',?_,e2⟩
  show rS M fl k _ _ _ _ _ _ _ h=_
  unfold rS wT
  dsimp only
  rw[ab ((hx.quiet hq).cell rfl),if_pos (by simp;omega)]
  unfold Dk vt tG pE rR
  refine Eq.trans a1 ?_
  unfold mF
  rw[av (i+1) (by push_cast;rfl) (by omega)]
  exact e1
theorem ase{R:Type}(kn:cw R)(f:Xs D)(hx:OB h0 bx [.int .i64 (D.p:Int),.int .i64 (D.m:Int),.slice mod.a mod.l mod.c])(bF:SI h0 mod (ints D.low))(hcb:h0.next≤cb)(bN:fl≤cb)(i ci:Nat)(hi:D.m≤i)(hi2:i<2*D.m-1)(P:V D.p):
 ∀(d j g:Nat) (c:List Nat) (h:AH),j+d=D.m→d<g→c.length=2*D.m-1→Small D.p c→c[i]?=some ci→OB h cb (iv (ints c))→ai h0 h→
 U6 D.m (vec D.low) i c=uW P (lc j (fun j=> -(Fin.ofNat D.p ci*vec D.low j)) (fun j=>tp D.m (vec D.low) (i-D.m+j) e0))→
 ∃h' c',gI M fl k kn g ⟨bx,0,none⟩ ⟨some ⟨cb,0,none⟩,2*D.m-1,2*D.m-1⟩ (i:Int) (j:Int) h=kn ⟨bx,0,none⟩ ⟨some ⟨cb,0,none⟩,2*D.m-1,2*D.m-1⟩ (i:Int) h'∧
  OB h' cb (iv (ints c'))∧c'.length=2*D.m-1∧Small D.p c'∧ai h0 h'∧U6 D.m (vec D.low) i c'=uW P (lc D.m (fun j=> -(Fin.ofNat D.p ci*vec D.low j)) (fun j=>tp D.m (vec D.low) (i-D.m+j) e0)):=by
 have hp:=f.p
 have hm:=f.m
 have hp0:=D.pp
 intro d
 induction d with
 |zero=>
  intro j g c h hj hg hlc XZ hci ho hq TN
  obtain⟨g,rfl⟩:∃j,g=j+1:=⟨g-1,by omega⟩
  obtain rfl:j=D.m:=by omega
  refine⟨h,c,?_,ho,hlc,XZ,hq,TN⟩
  show cJ M fl k _ _ _ _ _ _ h=_
  unfold cJ
  dsimp only
  rw[ab ((hx.quiet hq).cell rfl),if_neg (by simp)]
 |succ d ih=>
  intro j g c h hj hg hlc XZ hci ho hq TN
  obtain⟨g,rfl⟩:∃j,g=j+1:=⟨g-1,by omega⟩
  have tZ:=hx.quiet hq
  have hli:i<c.length:=by omega
  have ayp:c[i]=ci:=by rw[List.getElem?_eq_getElem hli] at hci;exact Option.some.inj hci
  have aHF:ci<D.p:=by rw[←ayp];exact XZ _ (List.getElem_mem _)
  have hlj:D.low[j]'(by rw[D.hl];omega)<D.p:=D.hs _ (List.getElem_mem _)
  have hk:i-D.m+j<c.length:=by omega
  have hcx:c[i-D.m+j]<D.p:=XZ _ (List.getElem_mem _)
  have hmul:(D.p-ci)*D.low[j]'(by rw[D.hl];omega)≤256*256:=Nat.mul_le_mul (by omega) (by omega)
  have kY:h.cell cb (0+(i-D.m+j))=some (.int .i64 ((c[i-D.m+j]:Nat):Int)):=ho.cell (by rw[Nat.zero_add,ju hk])
  have avR:h.cell cb (0+i)=some (.int .i64 ((ci:Nat):Int)):=ho.cell (by rw[Nat.zero_add,ju hli,ayp])
  obtain⟨h',c',e1,e2⟩:=ih (j+1) g (c.set (i-D.m+j) ((c[i-D.m+j]+(D.p-ci)*D.low[j]'(by rw[D.hl];omega))%D.p)) (h.put cb (some (iv (ints (c.set (i-D.m+j) ((c[i-D.m+j]+(D.p-ci)*D.low[j]'(by rw[D.hl];omega))%D.p)))))) (by omega) (by omega) (by simpa using hlc) (Ut XZ _ (Nat.mod_lt _ hp0)) (by rw[List.getElem?_set_ne (by omega)];exact hci) (ho.put _) (hq.put hcb _) (by
   unfold U6
   rw[ajE (d:= -(Fin.ofNat D.p ci)*Fin.ofNat D.p (D.low[j]'(by rw[D.hl];omega))) _ (show i-D.m+j<i by omega) hk (by rw[Qo,Qp,acq,acr (by omega)])]
   unfold U6 at TN
   rw[TN,Pa]
   funext k
   have h2:vec (p:=D.p) D.low j=Fin.ofNat D.p (D.low[j]'(by rw[D.hl];omega)):=by unfold vec;rw[lk]
   unfold uW
   rw[h2]
   grind)
  refine⟨h',c',?_,e2⟩
  show cJ M fl k _ _ _ _ _ _ h=_
  unfold cJ
  dsimp only
  have g1:bL ((i:Int)-(D.m:Int))=((i-D.m:Nat):Int):=av _ (by omega) (by omega)
  have g2:bL (((i-D.m:Nat):Int)+(j:Int))=((i-D.m+j:Nat):Int):=av _ (by push_cast;rfl) (by omega)
  rw[ab (tZ.cell rfl),if_pos (by simp;omega),ab (tZ.cell rfl),ab (tZ.cell rfl),g1,g2,aT rfl (show i-D.m+j<2*D.m-1 by omega)]
  dsimp only
  rw[ab kY,ab (tZ.cell rfl),aT rfl (show i<2*D.m-1 by omega)]
  dsimp only
  rw[ab avR,ah (s:=mod) (tZ.cell rfl),(bF.quiet hq).read (by omega) (by simp[D.hl];omega)]
  simp only[Int.toNat_natCast,dm]
  have f1:bL ((D.p:Int)-(ci:Int))=((D.p-ci:Nat):Int):=av _ (by omega) (by omega)
  have f2:bL (((D.p-ci:Nat):Int)*((D.low[j]'(by rw[D.hl];omega):Nat):Int))=(((D.p-ci)*D.low[j]'(by rw[D.hl];omega):Nat):Int):=av _ (by push_cast;rfl) (by omega)
  rw[ab (tZ.cell rfl),f1,f2,av (c[i-D.m+j]+(D.p-ci)*D.low[j]'(by rw[D.hl];omega)) (by push_cast;rfl) (by omega),gV hp0,aT rfl (show i-D.m+j<2*D.m-1 by omega),ho.st bN (by simp;omega) rfl,Nat.zero_add,NI,av (j+1) (by push_cast;rfl) (by omega)]
  exact e1
theorem amO{R:Type}(kn:bW R)(f:Xs D)(hx:OB h0 bx [.int .i64 (D.p:Int),.int .i64 (D.m:Int),.slice mod.a mod.l mod.c])(bF:SI h0 mod (ints (js D)))(hcb:h0.next≤cb)(bN:fl≤cb)(hk:8<k)(P:V D.p):
 ∀(n g:Nat) (c:List Nat) (h:AH),n≤D.m-1→n<g→c.length=2*D.m-1→Small D.p c→OB h cb (iv (ints c))→ai h0 h→U6 D.m (vec D.low) (n+D.m) c=P→
 ∃h' c',j9 M fl k kn g ⟨bx,0,none⟩ ⟨some ⟨cb,0,none⟩,2*D.m-1,2*D.m-1⟩ (((n+D.m:Nat):Int)-1) h=kn ⟨bx,0,none⟩ ⟨some ⟨cb,0,none⟩,2*D.m-1,2*D.m-1⟩ h'∧
  OB h' cb (iv (ints c'))∧c'.length=2*D.m-1∧Small D.p c'∧ai h0 h'∧U6 D.m (vec D.low) D.m c'=P:=by
 have hm:=f.m
 have hm1:=D.hm
 intro n
 induction n with
 |zero=>
  intro g c h hn hg hlc XZ ho hq TN
  obtain⟨g,rfl⟩:∃j,g=j+1:=⟨g-1,by omega⟩
  refine⟨h,c,?_,ho,hlc,XZ,hq,by simpa using TN⟩
  show iJ M fl k _ _ _ _ _ h=_
  unfold iJ kU
  dsimp only
  rw[ab ((hx.quiet hq).cell rfl),if_neg (by rw[decide_eq_true_eq];omega)]
 |succ n ih=>
  intro g c h hn hg hlc XZ ho hq TN
  obtain⟨g,rfl⟩:∃j,g=j+1:=⟨g-1,by omega⟩
  have hmo:js D=D.low:=by unfold js;rw[if_neg (by omega)]
  rw[hmo] at bF
  have hi:n+D.m<c.length:=by omega
  have e0:((n+1+D.m:Nat):Int)-1=((n+D.m:Nat):Int):=by omega
  obtain⟨h1,c1,a1,a2,a3,a4,a5,a6⟩:=ase (k:=k) (iw M fl k (j9 M fl k kn g) kn) f hx bF hcb bN (n+D.m) (c[n+D.m]) (by omega) (by omega) (U6 D.m (vec D.low) (n+D.m) c) D.m 0 k c h (by omega) (by omega) hlc XZ (List.getElem?_eq_getElem hi) ho hq (by
   funext k
   simp only[uW,lc,sm]
   grind)
  obtain⟨h',c',e1,e2⟩:=ih g c1 h1 (by omega) (by omega) a3 a4 a2 a5 (by
   rw[a6,←TN,show n+1+D.m=(n+D.m)+1 by omega]
   unfold U6
   rw[Pa]
   congr 1
   have:=axb D.m (vec D.low) (by omega) (show D.m≤n+D.m by omega) (Fin.ofNat D.p c[n+D.m])
   rw[←this]
   funext k
   unfold vec
   rw[lk _ hi])
  refine⟨h',c',?_,e2⟩
  rw[e0]
  show iJ M fl k _ _ _ _ _ h=_
  unfold iJ kU
  dsimp only
  rw[ab ((hx.quiet hq).cell rfl),if_pos (by rw[decide_eq_true_eq];omega)]
  unfold ur lS kv jR mg
  refine Eq.trans a1 ?_
  unfold iw
  rw[jf (by omega) (by omega)]
  exact e1
end
section
variable{D:FD}{mod:Sl}{h:AH}{fl:Nat}
theorem Uu(r:RF h mod D)(x y:Int)(bN:fl≤h.next):∃h',M fl fn.gO [fa D mod,.int .i64 x,.int .i64 y] h=some (.int .i64 ((D.mul (pH D x) (pH D y):Nat):Int),h')∧ai h h':=by
 have du:=rX h D mod
 have eF:=ai.alloc h [.int .i64 (D.p:Int),.int .i64 (D.m:Int),.slice mod.a mod.l mod.c]
 generalize eB:h.alloc [.int .i64 (D.p:Int),.int .i64 (D.m:Int),.slice mod.a mod.l mod.c]=h1 at du eF
 obtain⟨h2,b2,a1,a2,a3,a4⟩:=mG (fl:=fl) (r.quiet eF) x (by have:=eF.1;omega)
 have lV:=eF.trans a4
 obtain⟨h3,b3,c1,c2,c3,c4⟩:=mG (fl:=fl) (r.quiet lV) y (by have:=lV.1;omega)
 have UF:=lV.trans c4
 have hm:=r.ok.m
 have hm1:=D.hm
 have hp0:=D.pp
 have mn:=du.quiet a4
 have hb3:=mn.quiet c4
 have sa:SI h3 ⟨some ⟨b2,0,none⟩,D.m,D.m⟩ (ints (D.dg (pH D x))):=by
  have:=(a3.si none D.m).quiet c4
  rwa[cz,D.gM] at this
 have sb:SI h3 ⟨some ⟨b3,0,none⟩,D.m,D.m⟩ (ints (D.dg (pH D y))):=by
  have:=c3.si none D.m
  rwa[cz,D.gM] at this
 have ho:=OB.alloc h3 (List.replicate (2*D.m-1) (Value.int .i64 0))
 rw[oz] at ho
 have hnx:h.next≤h3.next:=UF.1
 have ez:U6 D.m (vec D.low) (2*D.m-1) (List.replicate (2*D.m-1) 0)=lc (p:=D.p) 0 (vec (D.dg (pH D x))) (fun i=>lc D.m (vec (D.dg (pH D y))) (fun j=>tp D.m (vec D.low) (i+j) e0)):=by
  funext k
  unfold U6 lc
  simp only[sm]
  rw[eI (g:=fun _=>0),Aw]
  intro i hi
  unfold vec
  rw[lk _ (by simpa using hi)]
  simp[DW]
  grind
 obtain⟨h4,cc,d1,d2,d3,d4,d5,d6⟩:=amN (fl:=fl) (k:=30) (cb:=h3.next) (EJ M fl 30 (fun(y6:Int) q=>some (Value.int .i64 y6,q))) r.ok hb3 sa (D.gM _) (D.mz _) sb (D.gM _) (D.mz _) (Nat.le_refl _) (by omega) (by omega) D.m 0 30 (List.replicate (2*D.m-1) 0) _ (by omega) (by omega) (by simp) (by intro c hc;have:=List.eq_of_mem_replicate hc;omega) ho (ai.alloc ..) ez
 obtain⟨h5,cc2,e1,e2,e3,e4,e5,e6⟩:=amO (fl:=fl) (k:=30) (cb:=h3.next) (tF M fl 30 (fun(y6:Int) q=>some (Value.int .i64 y6,q))) r.ok hb3 (r.si.quiet UF) (Nat.le_refl _) (by omega) (by omega) _ (D.m-1) 30 cc h4 (Nat.le_refl _) (by omega) d3 d4 d2 d5 (by rw[show D.m-1+D.m=2*D.m-1 by omega])
 have hq5:=UF.trans e5
 have hv:dC D.p (cc2.take D.m)=D.mul (pH D x) (pH D y):=D.acD (by omega) e4 (e6.trans d6)
 have hs5:SI h5 ⟨some ⟨h3.next,0,none⟩,D.m,2*D.m-1⟩ (ints (cc2.take D.m)):=by
  refine⟨by simp;omega,fun i hi=>⟨_,rfl,e2.1,?_⟩⟩
  simp only[cz,List.length_take] at hi
  rw[e2.cell (show(iv (ints cc2))[0+i]?=some (.int .i64 ((cc2[i]'(by omega):Nat):Int)) by rw[Nat.zero_add,ju (by omega)])]
  simp[ints]
 obtain⟨h6,g1,g2⟩:=DE (fl:=fl) (r.quiet hq5) hs5 (fun a ha=>e4 a (List.mem_of_mem_take ha)) (by simp;omega)
 refine⟨h6,aX (k:=30) (by decide) aaP ?_,hq5.trans g2⟩
 unfold fa
 rw[Tj]
 unfold gO ams Xc cU
 rw[eB]
 dsimp only
 rw[ab (du.cell rfl),ab (du.cell rfl),ah (s:=mod) (du.cell rfl),ag (show M fl fn.cL [.agg ⟨[.int .i64 (D.p:Int),.int .i64 (D.m:Int),.slice mod.a mod.l mod.c]⟩,.int .i64 x] h1=_ from a1)]
 simp only[bB]
 rw[ab (mn.cell rfl),ab (mn.cell rfl),ah (s:=mod) (mn.cell rfl),ag (show M fl fn.cL [.agg ⟨[.int .i64 (D.p:Int),.int .i64 (D.m:Int),.slice mod.a mod.l mod.c]⟩,.int .i64 y] h2=_ from c1)]
 simp only
 have k1:bL (2*(D.m:Int))=((2*D.m:Nat):Int):=av _ (by push_cast;rfl) (by omega)
 have k2:bL (((2*D.m:Nat):Int)-1)=((2*D.m-1:Nat):Int):=av _ (by omega) (by omega)
 have k3:bL (((2*D.m:Nat):Int)-2)=((D.m-1+D.m:Nat):Int)-1:=by rw[jf (by omega) (by omega)];omega
 rw[ab (hb3.cell rfl),k1,k2,jg (by unfold kA;omega),oz]
 unfold Xb
 refine Eq.trans d1 ?_
 unfold EJ Bn Di
 have hb4:=hb3.quiet d5
 dsimp only
 rw[ab (hb4.cell rfl),k1,k3]
 refine Eq.trans e1 ?_
 unfold tF
 have hb5:=hb3.quiet e5
 dsimp only
 rw[ab (hb5.cell rfl),ab (hb5.cell rfl),ah (s:=mod) (hb5.cell rfl),ab (hb5.cell rfl)]
 have ax5:∀{R':Type} (K:Sl→Option R'),sub 1 ⟨some ⟨h3.next,0,none⟩,2*D.m-1,2*D.m-1⟩ none (some (D.m:Int)) none K=K ⟨some ⟨h3.next,0,none⟩,D.m,2*D.m-1⟩:=by
  intro R' K
  unfold sub
  rw[if_pos (by unfold nZ;simp;omega)]
  simp only[Option.getD_some,Option.getD_none]
  rw[if_pos (by omega)]
  congr 1
  simp
 rw[ax5,ag (show M fl fn.fO [.agg ⟨[.int .i64 (D.p:Int),.int .i64 (D.m:Int),.slice mod.a mod.l mod.c]⟩,.slice (some ⟨h3.next,0,none⟩) D.m (2*D.m-1)] h5=_ from g1),hv]
 rfl
theorem ahY{R:Type}{k:Nat}{h0:AH}{bx:Nat}(kn:ar R)(kr:ae R)(r:RF h0 mod D)(hx:OB h0 bx [.int .i64 (D.p:Int),.int .i64 (D.m:Int),.slice mod.a mod.l mod.c])(x:Int)(bN:fl≤h0.next):
 ∀(d y g:Nat) (h:AH),y+d=D.q→d<g→0<y→ai h0 h→
 ∃h',ai h0 h'∧rL M fl k kn kr g x ⟨bx,0,none⟩ (y:Int) h=if D.fi (pH D x) d y=0 then kn h' else kr ((D.fi (pH D x) d y:Nat):Int) h':=by
 have UN:=r.ok.q
 intro d
 induction d with
 |zero=>
  intro y g h hy hg h0y hq
  obtain⟨g,rfl⟩:∃j,g=j+1:=⟨g-1,by omega⟩
  have tZ:=hx.quiet hq
  obtain⟨h1,a1,a2⟩:=yb (fl:=fl) (h:=h) (D.p:Int) (D.m:Int) mod
  refine⟨h1,hq.trans a2,?_⟩
  show rK M fl k _ _ _ _ _ _ h=_
  unfold rK
  dsimp only
  rw[ab (tZ.cell rfl),ab (tZ.cell rfl),ah (s:=mod) (tZ.cell rfl),ag a1,ac5 r.ok]
  simp only[asInt,if_true]
  rw[if_neg (by simp;omega)]
  rfl
 |succ d ih=>
  intro y g h hy hg h0y hq
  obtain⟨g,rfl⟩:∃j,g=j+1:=⟨g-1,by omega⟩
  have tZ:=hx.quiet hq
  obtain⟨h1,a1,a2⟩:=yb (fl:=fl) (h:=h) (D.p:Int) (D.m:Int) mod
  have Ak:=hq.trans a2
  have hx1:=hx.quiet Ak
  obtain⟨h2,b1,b2⟩:=Uu (fl:=fl) (r.quiet Ak) x (y:Int) (by have:=Ak.1;omega)
  have lV:=Ak.trans b2
  rw[PO (show y<D.q by omega)] at b1
  have un:rL M fl k kn kr (g+1) x ⟨bx,0,none⟩ (y:Int) h=if D.mul (pH D x) y=1 then kr (y:Int) h2 else rL M fl k kn kr g x ⟨bx,0,none⟩ ((y+1:Nat):Int) h2:=by
   show rK M fl k _ _ _ _ _ _ h=_
   unfold rK
   dsimp only
   rw[ab (tZ.cell rfl),ab (tZ.cell rfl),ah (s:=mod) (tZ.cell rfl),ag a1,ac5 r.ok]
   simp only[asInt,if_true]
   rw[if_pos (by simp;omega),ab (hx1.cell rfl),ab (hx1.cell rfl),ah (s:=mod) (hx1.cell rfl),ag (show M fl fn.gO [.agg ⟨[.int .i64 (D.p:Int),.int .i64 (D.m:Int),.slice mod.a mod.l mod.c]⟩,.int .i64 x,.int .i64 (y:Int)] h1=_ from b1)]
   simp only[if_true]
   by_cases c:D.mul (pH D x) y=1
   ·rw[if_pos (by rw[c];rfl),if_pos c]
   ·rw[if_neg (by simp;omega),if_neg c,av (y+1) (by push_cast;rfl) (by omega)]
  by_cases c:D.mul (pH D x) y=1
  ·refine⟨h2,lV,?_⟩
   have:D.fi (pH D x) (d+1) y=y:=by unfold FD.fi;rw[if_pos c]
   rw[un,if_pos c,this,if_neg (by omega)]
  ·obtain⟨h',e1,e2⟩:=ih (y+1) g h2 (by omega) (by omega) (by omega) lV
   refine⟨h',e1,?_⟩
   have:D.fi (pH D x) (d+1) y=D.fi (pH D x) d (y+1):=by conv=>lhs;unfold FD.fi;rw[if_neg c]
   rw[un,if_neg c,this];exact e2
theorem ahZ(r:RF h mod D)(x:Int)(bN:fl≤h.next):∃h',M fl fn.qk [fa D mod,.int .i64 x] h=some (.int .i64 ((D.inv (pH D x):Nat):Int),h')∧ai h h':=by
 have du:=rX h D mod
 have eF:=ai.alloc h [.int .i64 (D.p:Int),.int .i64 (D.m:Int),.slice mod.a mod.l mod.c]
 generalize eB:h.alloc [.int .i64 (D.p:Int),.int .i64 (D.m:Int),.slice mod.a mod.l mod.c]=h1 at du eF
 have Ak:=D.q1
 obtain⟨h',e1,e2⟩:=ahY (fl:=fl) (k:=D.q+1) (LK M fl (D.q+1) (fun(y4:Int) q=>some (Value.int .i64 y4,q))) (fun(y4:Int) q=>some (Value.int .i64 y4,q)) (r.quiet eF) du x (by have:=eF.1;omega) (D.q-1) 1 (D.q+1) h1 (by omega) (by omega) (by omega) (ai.refl _)
 refine⟨h',aX (k:=D.q+1) (by decide) aaO ?_,eF.trans e1⟩
 unfold fa
 rw[Te]
 unfold qk ama WZ cU
 rw[eB]
 dsimp only
 refine Eq.trans e2 ?_
 unfold FD.inv
 split
 ·rename_i hz;rw[hz];rfl
 ·rfl
end
end Go.Abs.P
end
section
namespace Go.Abs.P
open Go.Abs Go.Fld
abbrev El(D:FD):=Fin D.q
def ve{D:FD}(x:El D):Int:=((x.val:Nat):Int)
def vl{D:FD}(xs:List (El D)):List Int:=xs.map ve
@[simp] theorem fU{D:FD}(xs:List (El D)):(vl xs).length=xs.length:=by simp[vl]
theorem kW{D:FD}(xs:List (El D))(i:Nat)(h:i<(vl xs).length):(vl xs)[i]=ve (xs[i]'(by simpa using h)):=by simp[vl]
theorem L6{D:FD}(xs:List (El D))(i:Nat)(x:El D):(vl xs).set i (ve x)=vl (xs.set i x):=by simp[vl,List.map_set]
theorem Af{D:FD}(a b:List (El D)):vl (a++b)=vl a++vl b:=by simp[vl]
theorem kc{D:FD}(x:El D):pH D (ve x)=x.val:=PO x.2
theorem ac6{D:FD}{x y:El D}(h:ve x=ve y):x=y:=Fin.ext (by unfold ve at h;omega)
theorem ix{D:FD}{gen:Nat}(hg:D.aJ gen)(x:El D):ve x=0↔x=(FD.aB hg).zero:=by
 constructor
 ·intro h
  refine Fin.ext ?_
  show x.val=0
  unfold ve at h;omega
 ·rintro rfl;rfl
theorem auN{D:FD}{a b:List (El D)}(h:vl a=vl b):a=b:=by
 unfold vl at h
 exact(List.map_inj_right (fun x y e=>ac6 e)).1 h
theorem axg{D:FD}{xs:List Int}(h:∀x∈xs,L3 D x=true):∃l:List (El D),xs=vl l:=by
 induction xs with
 |nil=>exact⟨[],rfl⟩
 |cons x xs ih=>
  obtain⟨l,hl⟩:=ih fun y hy=>h y (List.mem_cons_of_mem _ hy)
  have hx:=h x (List.mem_cons_self ..)
  unfold L3 at hx
  simp only[Bool.and_eq_true,decide_eq_true_eq] at hx
  refine⟨⟨x.toNat,by omega⟩::l,?_⟩
  show x::xs=ve _::vl l
  rw[hl]
  congr 1
  show x=((x.toNat:Nat):Int)
  omega
theorem auO{D:FD}(x:El D):L3 D (ve x)=true:=by
 unfold L3 ve
 have:=x.2
 simp
section
variable{D:FD}{gen:Nat}(hg:D.aJ gen){h:AH}{g:Addr}{fl:Nat}
theorem asf(p:GF h g D gen)(x y:El D):M fl fn.dM [.pointer (some g),.int .i64 (ve x),.int .i64 (ve y)] h=some (.int .i64 (ve ((FD.aB hg).mul x y)),h):=by
 have:=aaX (fl:=fl) p (ve x) (ve y)
 rw[kc,kc] at this
 exact this
theorem azY(p:GF h g D gen)(x y:El D):M fl fn.hZ [.pointer (some g),.int .i64 (ve x),.int .i64 (ve y)] h=some (.int .i64 (ve ((FD.aB hg).add x y)),h):=by
 have:=aaV (fl:=fl) p (ve x) (ve y)
 rw[kc,kc] at this
 exact this
theorem auP(p:GF h g D gen)(x:El D):M fl fn.eO [.pointer (some g),.int .i64 (ve x)] h=some (.int .i64 (ve ((FD.aB hg).neg x)),h):=by
 have:=aaW (fl:=fl) p (ve x)
 rw[kc] at this
 exact this
theorem azZ(p:GF h g D gen)(x y:El D):M fl fn.jA [.pointer (some g),.int .i64 (ve x),.int .i64 (ve y)] h=some (.int .i64 (ve ((FD.aB hg).add x ((FD.aB hg).neg y))),h):=by
 have:=amG (fl:=fl) p (ve x) (ve y)
 rw[kc,kc] at this
 exact this
theorem az0(p:GF h g D gen)(x:El D)(h0:x≠(FD.aB hg).zero):M fl fn.hX [.pointer (some g),.int .i64 (ve x)] h=some (.tuple ⟨[.int .i64 (ve ((FD.aB hg).inv x)),.int .i64 0]⟩,h):=by
 have:=aaY (fl:=fl) p (ve x) (by rw[kc];exact fun e=>h0 (Fin.ext e))
 rw[kc] at this
 exact this
theorem az1(p:GF h g D gen)(x y:El D)(h0:y≠(FD.aB hg).zero):M fl fn.jz [.pointer (some g),.int .i64 (ve x),.int .i64 (ve y)] h=some (.tuple ⟨[.int .i64 (ve ((FD.aB hg).mul x ((FD.aB hg).inv y))),.int .i64 0]⟩,h):=by
 have:=amH (fl:=fl) p (ve x) (ve y) (by rw[kc];exact fun e=>h0 (Fin.ext e))
 rw[kc,kc] at this
 exact this
theorem ac7{R:Type}{k:Nat}(kn:ak R){h0:AH}{b:Nat}{s:Sl}{xs:List (El D)}(p:GF h0 g D gen)(a:El D)(hs:SI h0 s (vl xs))(hb:h0.next≤b)(bN:fl≤b)(hm:xs.length<mh):
 ∀(d i f:Nat) (h:AH),i+d=xs.length→d<f→OB h b (iv (vl ((FD.aB hg).nB a (xs.take i))++List.replicate d 0))→ai h0 h→
 ∃h',zD M fl k kn f (some g) (ve a) ⟨some ⟨b,0,none⟩,xs.length,xs.length⟩ s (xs.length:Int) (i:Int) h=kn ⟨some ⟨b,0,none⟩,xs.length,xs.length⟩ h'∧OB h' b (iv (vl ((FD.aB hg).nB a xs)))∧ai h0 h':=by
 intro d
 induction d with
 |zero=>
  intro i f h hi hf ho hq
  obtain⟨f,rfl⟩:∃j,f=j+1:=⟨f-1,by omega⟩
  rw[List.take_of_length_le (by omega),List.replicate_zero,List.append_nil] at ho
  refine⟨h,?_,ho,hq⟩
  show rm M fl k _ _ _ _ _ _ _ _ h=_
  unfold rm
  rw[if_neg (by simp;omega)]
 |succ d ih=>
  intro i f h hi hf ho hq
  obtain⟨f,rfl⟩:∃j,f=j+1:=⟨f-1,by omega⟩
  have nw:i<xs.length:=by omega
  have nv:(iv (vl ((FD.aB hg).nB a (xs.take i))++List.replicate (d+1) 0)).set (0+i) (.int .i64 (ve ((FD.aB hg).mul a xs[i])))=iv (vl ((FD.aB hg).nB a (xs.take (i+1)))++List.replicate d 0):=by
   rw[iy,Nat.zero_add,List.set_append_right _ _ (by simp[Fld.cY];omega)]
   have:i-(vl ((FD.aB hg).nB a (xs.take i))).length=0:=by simp[Fld.cY];omega
   have hn:(FD.aB hg).nB a (xs.take (i+1))=(FD.aB hg).nB a (xs.take i)++[(FD.aB hg).mul a xs[i]]:=by unfold Fld.nB;rw[List.take_succ_eq_append_getElem nw,List.map_append];rfl
   rw[this,List.replicate_succ,List.set_cons_zero,hn,Af,List.append_assoc]
   rfl
  obtain⟨h',e1,e2,e3⟩:=ih (i+1) f (h.put b (some (iv (vl ((FD.aB hg).nB a (xs.take (i+1)))++List.replicate d 0)))) (by omega) (by omega) (ho.put _) (hq.put hb _)
  refine⟨h',?_,e2,e3⟩
  show rm M fl k _ _ _ _ _ _ _ _ h=_
  unfold rm
  rw[if_pos (by simp;omega),(hs.quiet hq).read (by omega) (by simp;omega)]
  simp only[Int.toNat_natCast,kW]
  rw[ag (asf hg (p.quiet hq) a xs[i])]
  simp only[asInt,if_true]
  rw[aT rfl (show i<xs.length from nw),ho.st bN (by simp[Fld.cY];omega) rfl,nv,fE (by omega)]
  exact e1
theorem ac8(p:GF h g D gen){s:Sl}{xs:List (El D)}(a:El D)(hs:SI h s (vl xs))(hm:xs.length≤65536)(bN:fl≤h.next):
 ∃h',M fl fn.jl [.pointer (some g),.int .i64 (ve a),.slice s.a s.l s.c] h=some (.slice (some ⟨h.next,0,none⟩) xs.length xs.length,h')∧OB h' h.next (iv (vl ((FD.aB hg).nB a xs)))∧ai h h':=by
 have ho:=OB.alloc h (List.replicate xs.length (Value.int .i64 0))
 rw[show List.replicate xs.length (Value.int .i64 0)=iv (vl ((FD.aB hg).nB a (xs.take 0))++List.replicate xs.length 0) by simp[iv,vl,Fld.nB]] at ho
 obtain⟨h',e1,e2,e3⟩:=ac7 (fl:=fl) (k:=xs.length+1) hg (LA M fl (xs.length+1) (fun(y6:Sl) q=>some (Value.slice y6.a y6.l y6.c,q))) p a hs (Nat.le_refl _) bN (by unfold mh;omega) xs.length 0 (xs.length+1) _ (by omega) (by omega) ho (ai.alloc ..)
 refine⟨h',aX (k:=xs.length+1) (by decide) z8 ?_,e2,e3⟩
 rw[wD]
 unfold jl alL Wy
 have hl:s.l=xs.length:=by rw[hs.len];simp
 rw[hl,jg (by unfold kA;omega),show List.replicate xs.length (Value.int .i64 0)=iv (vl ((FD.aB hg).nB a (xs.take 0))++List.replicate xs.length 0) by simp[iv,vl,Fld.nB]]
 exact e1
theorem amP{R:Type}{k:Nat}(kn:ar R){h0:AH}{b cp:Nat}{tu:Sl}{u:List (El D)}(p:GF h0 g D gen)(a:El D)(hu:SI h0 tu (vl u))(hub:∀q,tu.a=some q→b≠q.block)(hgb:∀{h:AH},iL (some ⟨b,0,none⟩) h0 h→GF h g D gen)(bN:fl≤b)(hm:u.length<mh)(v0:List (El D))(hv0:v0.length=u.length):
 ∀(d i f:Nat) (h:AH),i+d=u.length→d<f→OB h b (iv (vl ((FD.aB hg).bw (v0.take i) a (u.take i)++v0.drop i)))→iL (some ⟨b,0,none⟩) h0 h→
 ∃h',vE M fl k kn f (some g) ⟨some ⟨b,0,none⟩,u.length,cp⟩ (ve a) tu (u.length:Int) (i:Int) h=kn h'∧OB h' b (iv (vl ((FD.aB hg).bw v0 a u)))∧iL (some ⟨b,0,none⟩) h0 h':=by
 intro d
 induction d with
 |zero=>
  intro i f h hi hf ho hq
  obtain⟨f,rfl⟩:∃j,f=j+1:=⟨f-1,by omega⟩
  rw[List.take_of_length_le (by omega),List.take_of_length_le (by omega),List.drop_of_length_le (by omega),List.append_nil] at ho
  refine⟨h,?_,ho,hq⟩
  show rA M fl k _ _ _ _ _ _ _ _ h=_
  unfold rA wI
  rw[if_neg (by simp;omega)]
 |succ d ih=>
  intro i f h hi hf ho hq
  obtain⟨f,rfl⟩:∃j,f=j+1:=⟨f-1,by omega⟩
  have hiu:i<u.length:=by omega
  have hiv:i<v0.length:=by omega
  have hax:((FD.aB hg).bw (v0.take i) a (u.take i)).length=i:=by rw[Fld.bI _ _ _ _ (by simp;omega)];simp;omega
  have NN:(FD.aB hg).bw (v0.take (i+1)) a (u.take (i+1))=(FD.aB hg).bw (v0.take i) a (u.take i)++[(FD.aB hg).add v0[i] ((FD.aB hg).mul a u[i])]:=by
   unfold Fld.bw
   rw[List.take_succ_eq_append_getElem hiv,List.take_succ_eq_append_getElem hiu,List.zipWith_append (by simp;omega)]
   rfl
  have anj:=(hu.AA hq (fun q q' e1 e2=>by cases e2;exact hub q e1)).read (i:=(i:Int)) (by omega) (by simp;omega) (R:=R)
  have step:u[i]=(FD.aB hg).zero→(FD.aB hg).bw (v0.take i) a (u.take i)++v0.drop i=(FD.aB hg).bw (v0.take (i+1)) a (u.take (i+1))++v0.drop (i+1):=by
   intro hz
   rw[NN,hz,Fld.mul_zero,(FD.aB hg).add_zero,List.drop_eq_getElem_cons hiv];simp
  have un:vE M fl k kn (f+1) (some g) ⟨some ⟨b,0,none⟩,u.length,cp⟩ (ve a) tu (u.length:Int) (i:Int) h=rA M fl k (vE M fl k kn f) kn (some g) ⟨some ⟨b,0,none⟩,u.length,cp⟩ (ve a) tu (u.length:Int) (i:Int) h:=rfl
  rw[un]
  unfold rA wI
  rw[if_pos (by simp;omega),anj]
  simp only[Int.toNat_natCast,kW]
  by_cases hz:u[i]=(FD.aB hg).zero
  ·obtain⟨h',e1,e2,e3⟩:=ih (i+1) f h (by omega) (by omega) (by rw[←step hz];exact ho) hq
   refine⟨h',?_,e2,e3⟩
   rw[if_neg (by simp[(ix hg _).2 hz])]
   unfold xT
   rw[fE (by omega)]
   exact e1
  ·have kY:h.cell b (0+i)=some (.int .i64 (ve v0[i])):=by
    refine ho.cell ?_
    rw[Nat.zero_add,F6 _ _ (by simp;omega),kW]
    congr 3
    rw[List.getElem_append_right (by omega)]
    simp[hax]
   have nv:(iv (vl ((FD.aB hg).bw (v0.take i) a (u.take i)++v0.drop i))).set (0+i) (.int .i64 (ve ((FD.aB hg).add v0[i] ((FD.aB hg).mul a u[i]))))=iv (vl ((FD.aB hg).bw (v0.take (i+1)) a (u.take (i+1))++v0.drop (i+1))):=by
    rw[iy,L6,Nat.zero_add,List.set_append_right _ _ (by omega),hax,Nat.sub_self,List.drop_eq_getElem_cons hiv,List.set_cons_zero,NN]
    simp
   obtain⟨h',e1,e2,e3⟩:=ih (i+1) f (h.put b (some (iv (vl ((FD.aB hg).bw (v0.take (i+1)) a (u.take (i+1))++v0.drop (i+1)))))) (by omega) (by omega) (ho.put _) (hq.trans (iL.put _))
   refine⟨h',?_,e2,e3⟩
   have hgh:=hgb hq
   rw[if_pos (by simp;exact fun e=>hz ((ix hg _).1 e)),aT rfl (show i<u.length from hiu)]
   dsimp only
   rw[ab kY,ag (asf hg hgh a u[i])]
   simp only[asInt,if_true]
   rw[ag (azY hg hgh v0[i] _)]
   simp only[if_true]
   rw[aT rfl (show i<u.length from hiu),ho.st bN (by simp;omega) rfl,nv]
   unfold xT
   rw[fE (by omega)]
   exact e1
theorem ah0(p:GF h g D gen){b cp:Nat}{v u:List (El D)}{tu:Sl}(a:El D)(hv:OB h b (iv (vl v)))(hu:SI h tu (vl u))(hl:v.length=u.length)(hub:∀q,tu.a=some q→b≠q.block)(hgb:∀{h':AH},iL (some ⟨b,0,none⟩) h h'→GF h' g D gen)(hm:u.length≤65536)(bN:fl≤b):
 ∃h',M fl fn.qj [.pointer (some g),.slice (some ⟨b,0,none⟩) u.length cp,.int .i64 (ve a),.slice tu.a tu.l tu.c] h=some (.tuple ⟨[]⟩,h')∧OB h' b (iv (vl ((FD.aB hg).bw v a u)))∧iL (some ⟨b,0,none⟩) h h':=by
 obtain⟨h',e1,e2,e3⟩:=amP (fl:=fl) (k:=u.length+1) (cp:=cp) hg (fun q=>some (Value.tuple ⟨[]⟩,q)) p a hu hub hgb bN (by unfold mh;omega) v hl u.length 0 (u.length+1) h (by omega) (by omega) (by simpa [Fld.bw] using hv) (iL.refl _ _)
 refine⟨h',aX (k:=u.length+1) (by decide) Kz ?_,e2,e3⟩
 rw[Dg (p0:=some g) (p1:=⟨some ⟨b,0,none⟩,u.length,cp⟩)]
 unfold qj alV WH WG
 have:tu.l=u.length:=by rw[hu.len];simp
 rw[this]
 exact e1
end
theorem HZ{fl:Nat}{h:AH}{s:Sl}{xs:List Int}(hs:SI h s xs)(fA:xs≠[])(hr:xs.length≤65536):
 ∃s' h',M fl fn.dL [.slice s.a s.l s.c] h=some (.slice s'.a s'.l s'.c,h')∧OV h.next h' s' (iv xs)∧ai h h':=by
 have hb:=OB.alloc h []
 have hq:=ai.alloc h []
 generalize eB:h.alloc []=h1 at hb hq
 obtain⟨s',h',a1,a2,a3⟩:=age (R:=Value×AH) (fl:=fl) hb (hs.quiet hq) fA (by unfold kA;omega) (fun y q=>some (Value.slice y.a y.l y.c,q))
 refine⟨s',h',aX (k:=1) (by decide) pG ?_,a2.mono hq.1,hq.trans a3⟩
 rw[lM]
 unfold dL ZK cU
 have hsn:s.a.isNone=false:=by
  obtain⟨a,h1,_⟩:=hs.2 0 (List.length_pos_iff.2 fA)
  rw[h1];rfl
 rw[if_neg (by simp[hsn]),eB]
 exact a1
end Go.Abs.P
end
section
namespace Go.Abs
structure RR(h:AH)(s:Sl)(rows:List (List Int)):Prop where
 len:s.l=rows.length
 get:∀(i:Nat) (hi:i<rows.length),∃a t,s.a=some a∧a.block<h.next∧h.cell a.block (a.off+i)=some (Sl.v t)∧SI h t rows[i]
theorem RR.quiet{h h':AH}{s:Sl}{rows:List (List Int)}(p:RR h s rows)(q:ai h h'):RR h' s rows:=⟨p.1,fun i hi=>by
 obtain⟨a,t,h1,h2,h3,h4⟩:=p.2 i hi
 exact⟨a,t,h1,Nat.lt_of_lt_of_le h2 q.1,by unfold AH.cell at h3 ⊢;rw[q.2 _ h2];exact h3,h4.quiet q⟩⟩
theorem RR.nil(h:AH):RR h ⟨none,0,0⟩ []:=⟨rfl,fun i hi=>by cases hi⟩
theorem RR.read{h:AH}{s:Sl}{rows:List (List Int)}(p:RR h s rows){i:Nat}(hi:i<rows.length):∃t,SI h t rows[i]∧∀{R:Type} (K:Sl→Option R),(idx 1 s (i:Int) fun q=>bM h q.block q.off K)=K t:=by
 obtain⟨a,t,h1,h2,h3,h4⟩:=p.2 i hi
 refine⟨t,h4,fun K=>?_⟩
 rw[aT h1 (by rw[p.1];exact hi)]
 exact ah h3 K
theorem ac9{l:List Nat}(UK:l.Nodup){i k:Nat}(By:i<l.length)(hk':k<l.length):((l.set i l[k]).set k l[i]).Nodup:=by
 have inj:∀a b (ha:a<l.length) (hb:b<l.length),l[a]=l[b]→a=b:=by
  intro a b ha hb e
  rcases Nat.lt_trichotomy a b with h1|h1|h1
  ·exact absurd e (List.pairwise_iff_getElem.1 UK a b ha hb h1)
  ·exact h1
  ·exact absurd e.symm (List.pairwise_iff_getElem.1 UK b a hb ha h1)
 unfold List.Nodup
 rw[List.pairwise_iff_getElem]
 intro a b ha hb hab e
 have ha':a<l.length:=by simpa using ha
 have tY:b<l.length:=by simpa using hb
 have ea:((l.set i l[k]).set k l[i])[a]=l[if k=a then i else if i=a then k else a]'(by split<;>(try split)<;>assumption):=by
  rw[List.getElem_set]
  by_cases c1:k=a
  ·simp[c1]
  ·rw[if_neg c1,List.getElem_set]
   by_cases c2:i=a
   ·simp[c1,c2]
   ·simp[c1,c2]
 have eb:((l.set i l[k]).set k l[i])[b]=l[if k=b then i else if i=b then k else b]'(by split<;>(try split)<;>assumption):=by
  rw[List.getElem_set]
  by_cases c1:k=b
  ·simp[c1]
  ·rw[if_neg c1,List.getElem_set]
   by_cases c2:i=b
   ·simp[c1,c2]
   ·simp[c1,c2]
 rw[ea,eb] at e
 have:=inj _ _ _ _ e
 split at this<;>split at this<;>(try split at this)<;>(try split at this)<;>omega
structure RRf(n0:Nat)(h:AH)(s:Sl)(rows:List (List Int)):Prop where
 rr:RR h s rows
 hd:∀a,s.a=some a→n0≤a.block
 row:∀(i:Nat) (_:i<rows.length) (a:Addr) (t:Sl),s.a=some a→h.cell a.block (a.off+i)=some (Sl.v t)→∀q,t.a=some q→n0≤q.block
theorem RRf.AA{n0 c o:Nat}{t:Option Nat}{h h':AH}{s:Sl}{rows:List (List Int)}(p:RRf n0 h s rows)(q:iL (some ⟨c,o,t⟩) h h')(hc:c<n0):RRf n0 h' s rows:=by
 have key:∀(i:Nat) (hi:i<rows.length) (a:Addr),s.a=some a→a.block<h.next→h'.cell a.block (a.off+i)=h.cell a.block (a.off+i):=by
  intro i hi a ha hlt
  unfold AH.cell
  rw[q.2 _ hlt (fun b hb=>by cases hb;have:=p.hd a ha;simp only[ne_eq];omega)]
 refine⟨⟨p.rr.1,fun i hi=>?_⟩,p.hd,fun i hi a t ha ht=>?_⟩
 ·obtain⟨a,t,h1,h2,h3,h4⟩:=p.rr.2 i hi
  refine⟨a,t,h1,Nat.lt_of_lt_of_le h2 q.1,by rw[key i hi a h1 h2];exact h3,h4.AA q fun a' b' ha' tY=>?_⟩
  cases tY
  have:=p.row i hi a t h1 h3 a' ha'
  simp only[ne_eq];omega
 ·obtain⟨a',t',h1,h2,_,_⟩:=p.rr.2 i hi
  rw[ha] at h1;cases h1
  rw[key i hi a ha h2] at ht
  exact p.row i hi a t ha ht
theorem RRf.quiet{n0:Nat}{h h':AH}{s:Sl}{rows:List (List Int)}(p:RRf n0 h s rows)(q:ai h h'):RRf n0 h' s rows:=by
 refine⟨p.rr.quiet q,p.hd,fun i hi a t ha ht=>?_⟩
 obtain⟨a',t',h1,h2,_,_⟩:=p.rr.2 i hi
 rw[ha] at h1;cases h1
 unfold AH.cell at ht
 rw[q.2 _ h2] at ht
 exact p.row i hi a t ha ht
theorem RRf.mono{n0 n1:Nat}{h:AH}{s:Sl}{rows:List (List Int)}(p:RRf n0 h s rows)(hn:n1≤n0):RRf n1 h s rows:=
 ⟨p.rr,fun a ha=>Nat.le_trans hn (p.hd a ha),fun i hi a t ha ht q hq=>Nat.le_trans hn (p.row i hi a t ha ht q hq)⟩
def hv(b:Nat×Nat)(r:List Int):Value:=.slice (some ⟨b.1,0,none⟩) r.length b.2
structure Mx(n0:Nat)(h:AH)(hb:Nat)(bs:List (Nat×Nat))(rows:List (List Int))(tail:List Value):Prop where
 len:bs.length=rows.length
 NL:OB h hb (List.zipWith hv bs rows++tail)
 row:∀(i:Nat) (h1:i<bs.length) (h2:i<rows.length),OB h (bs[i]).1 (iv rows[i])
 gh:n0≤hb
 ge:∀b∈bs,n0≤b.1∧b.1≠hb
 nd:(bs.map Prod.fst).Nodup
section
variable{n0 hb:Nat}{h h':AH}{bs:List (Nat×Nat)}{rows:List (List Int)}{tail:List Value}
theorem Mx.quiet(p:Mx n0 h hb bs rows tail)(q:ai h h'):Mx n0 h' hb bs rows tail:=⟨p.len,p.NL.quiet q,fun i h1 h2=>(p.row i h1 h2).quiet q,p.gh,p.ge,p.nd⟩
theorem Mx.AA(p:Mx n0 h hb bs rows tail){c o:Nat}{t:Option Nat}(q:iL (some ⟨c,o,t⟩) h h')(h1:c≠hb)(h2:∀b∈bs,c≠b.1):Mx n0 h' hb bs rows tail:=
 ⟨p.len,q.ob p.NL (fun a ha=>by cases ha;exact h1),fun i h3 h4=>q.ob (p.row i h3 h4) (fun a ha=>by cases ha;exact h2 _ (List.getElem_mem _)),p.gh,p.ge,p.nd⟩
theorem Mx.cell(p:Mx n0 h hb bs rows tail){i:Nat}(hi:i<rows.length):h.cell hb i=some (hv (bs[i]'(by rw[p.len];exact hi)) rows[i]):=by
 refine p.NL.cell ?_
 rw[List.getElem?_append_left (by simp[p.len];exact hi),List.getElem?_zipWith,List.getElem?_eq_getElem (by rw[p.len];exact hi),List.getElem?_eq_getElem hi]
theorem Mx.ne(p:Mx n0 h hb bs rows tail){i j:Nat}(hi:i<bs.length)(hj:j<bs.length)(e:i≠j):(bs[i]).1≠(bs[j]).1:=by
 intro h
 have:=p.nd
 have By:i<(bs.map Prod.fst).length:=by simpa using hi
 have hj':j<(bs.map Prod.fst).length:=by simpa using hj
 rcases Nat.lt_or_gt_of_ne e with h1|h1
 ·exact List.pairwise_iff_getElem.1 this i j By hj' h1 (by simpa using h)
 ·exact List.pairwise_iff_getElem.1 this j i hj' By h1 (by simpa using h.symm)
theorem DF{α β γ:Type}(f:α→β→γ)(a:List α)(b:List β)(i:Nat)(x:α)(y:β):(List.zipWith f a b).set i (f x y)=List.zipWith f (a.set i x) (b.set i y):=by
 induction a generalizing b i with
 |nil=>rfl
 |cons u a ih=>cases b with
  |nil=>cases i<;>rfl
  |cons v b=>cases i with
   |zero=>rfl
   |succ i=>simp[ih]
theorem Mx.setRow(p:Mx n0 h hb bs rows []){i nb cp:Nat}{r:List Int}(hi:i<rows.length)(o:OB h nb (iv r))(hn:n0≤nb)(h1:nb≠hb)(h2:∀b∈bs,nb≠b.1):
 Mx n0 (h.put hb (some ((List.zipWith hv bs rows++[]).set i (hv (nb,cp) r)))) hb (bs.set i (nb,cp)) (rows.set i r) []:=by
 refine⟨by simp[p.len],?_,?_,p.gh,?_,?_⟩
 ·rw[List.append_nil,List.append_nil,DF]
  exact p.NL.put _
 ·intro j Aj hj2
  by_cases e:i=j
  ·subst e
   simp only[List.getElem_set_self]
   exact o.Yz (fun e=>h1 e.symm) _
  ·rw[List.getElem_set_ne e,List.getElem_set_ne e]
   have asO:j<bs.length:=by simpa using Aj
   refine(p.row j asO (by simpa using hj2)).Yz (fun e=>(p.ge _ (List.getElem_mem asO)).2 e.symm) _
 ·intro b tY
  rcases List.mem_or_eq_of_mem_set tY with h3|rfl
  ·exact p.ge b h3
  ·exact⟨hn,h1⟩
 ·rw[List.map_set]
  have hnb:nb∉bs.map Prod.fst:=by
   intro hm
   obtain⟨b,Cv,mn⟩:=List.mem_map.1 hm
   exact h2 b Cv mn.symm
  have nv:∀(l:List Nat) (i:Nat),l.Nodup→nb∉l→(l.set i nb).Nodup:=by
   intro l
   induction l with
   |nil=>intro i _ _;simp
   |cons a l ih=>
    intro i UK hnm
    rw[List.nodup_cons] at UK
    simp only[List.mem_cons,not_or] at hnm
    cases i with
    |zero=>simp only[List.set_cons_zero,List.nodup_cons];exact⟨hnm.2,UK.2⟩
    |succ i=>
     simp only[List.set_cons_succ,List.nodup_cons]
     refine⟨fun hm=>?_,ih i UK.2 hnm.2⟩
     rcases List.mem_or_eq_of_mem_set hm with h3|h3
     ·exact UK.1 h3
     ·exact hnm.1 h3.symm
  exact nv _ i p.nd hnb
theorem Mx.upd(p:Mx n0 h hb bs rows tail){i:Nat}{r:List Int}(hi:i<rows.length)(hl:r.length=rows[i].length)(o:OB h' (bs[i]'(by rw[p.len];exact hi)).1 (iv r)){oo:Nat}{t:Option Nat}(q:iL (some ⟨(bs[i]'(by rw[p.len];exact hi)).1,oo,t⟩) h h'):
 Mx n0 h' hb bs (rows.set i r) tail:=by
 have Sw:i<bs.length:=by rw[p.len];exact hi
 refine⟨by simp[p.len],?_,?_,p.gh,p.ge,p.nd⟩
 ·have e:List.zipWith hv bs (rows.set i r)=List.zipWith hv bs rows:=by
   apply List.ext_getElem (by simp)
   intro j h1 h2
   simp only[List.getElem_zipWith]
   by_cases e:i=j
   ·subst e
    simp only[List.getElem_set_self,hv,hl]
   ·rw[List.getElem_set_ne e]
  rw[e]
  exact q.ob p.NL (fun a ha=>by cases ha;exact(p.ge _ (List.getElem_mem Sw)).2)
 ·intro j Aj hj2
  by_cases e:i=j
  ·subst e
   simp only[List.getElem_set_self]
   exact o
  ·rw[List.getElem_set_ne e]
   exact q.ob (p.row j Aj (by simpa using hj2)) (fun a ha=>by cases ha;exact p.ne Sw Aj e)
theorem Mx.swap(p:Mx n0 h hb bs rows []){i k:Nat}(hi:i<rows.length)(hk:k<rows.length):
 Mx n0 ((h.put hb (some ((List.zipWith hv bs rows++[]).set i (hv (bs[k]'(by rw[p.len];exact hk)) rows[k])))).put hb (some (((List.zipWith hv bs rows++[]).set i (hv (bs[k]'(by rw[p.len];exact hk)) rows[k])).set k (hv (bs[i]'(by rw[p.len];exact hi)) rows[i])))) hb
  ((bs.set i (bs[k]'(by rw[p.len];exact hk))).set k (bs[i]'(by rw[p.len];exact hi))) ((rows.set i rows[k]).set k rows[i]) []:=by
 have Sw:i<bs.length:=by rw[p.len];exact hi
 have hkb:k<bs.length:=by rw[p.len];exact hk
 refine⟨by simp[p.len],?_,?_,p.gh,?_,?_⟩
 ·rw[List.append_nil,List.append_nil,DF,DF]
  exact(p.NL.put _).put _
 ·intro j Aj hj2
  have asO:j<bs.length:=by simpa using Aj
  have aAf:j<rows.length:=by simpa using hj2
  have fr:∀m (hm:m<bs.length) (hm2:m<rows.length),OB ((h.put hb (some ((List.zipWith hv bs rows++[]).set i (hv bs[k] rows[k])))).put hb (some (((List.zipWith hv bs rows++[]).set i (hv bs[k] rows[k])).set k (hv bs[i] rows[i])))) (bs[m]).1 (iv rows[m]):=by
   intro m hm hm2
   exact((p.row m hm hm2).Yz (fun e=>(p.ge _ (List.getElem_mem hm)).2 e.symm) _).Yz (fun e=>(p.ge _ (List.getElem_mem hm)).2 e.symm) _
  by_cases e:k=j
  ·subst e
   simp only[List.getElem_set_self]
   exact fr i Sw hi
  ·simp only[List.getElem_set_ne e]
   by_cases e2:i=j
   ·subst e2
    simp only[List.getElem_set_self]
    exact fr k hkb hk
   ·simp only[List.getElem_set_ne e2]
    exact fr j asO aAf
 ·intro b tY
  rcases List.mem_or_eq_of_mem_set tY with h3|rfl
  ·rcases List.mem_or_eq_of_mem_set h3 with h4|rfl
   ·exact p.ge b h4
   ·exact p.ge _ (List.getElem_mem hkb)
  ·exact p.ge _ (List.getElem_mem Sw)
 ·rw[List.map_set,List.map_set]
  have e1:(bs[k]).1=(bs.map Prod.fst)[k]'(by simpa using hkb):=by simp
  have e2:(bs[i]).1=(bs.map Prod.fst)[i]'(by simpa using Sw):=by simp
  rw[e1,e2]
  exact ac9 p.nd (by simpa using Sw) (by simpa using hkb)
end
end Go.Abs
namespace Go.Abs.P
open Go.Abs Go.Fld
theorem ada{R:Type}{fl k:Nat}(kn:ak R){h0:AH}{hb n0:Nat}{s:Sl}{rows:List (List Int)}(hs:RR h0 s rows)(hn0:h0.next=n0)(hhb:n0≤hb)(bN:fl≤n0)(hw:∀r∈rows,r≠[]∧r.length≤65536)(hm:rows.length<mh):
 ∀(d i f:Nat) (bs:List (Nat×Nat)) (h:AH),i+d=rows.length→d<f→Mx n0 h hb bs (rows.take i) (List.replicate d (Value.slice none 0 0))→ai h0 h→
 ∃h' bs',zG M fl k kn f ⟨some ⟨hb,0,none⟩,rows.length,rows.length⟩ s (rows.length:Int) (i:Int) h=kn ⟨some ⟨hb,0,none⟩,rows.length,rows.length⟩ h'∧Mx n0 h' hb bs' rows []∧ai h0 h':=by
 intro d
 induction d with
 |zero=>
  intro i f bs h hi hf ho hq
  obtain⟨f,rfl⟩:∃j,f=j+1:=⟨f-1,by omega⟩
  rw[List.take_of_length_le (by omega)] at ho
  refine⟨h,bs,?_,ho,hq⟩
  show rq M fl k _ _ _ _ _ _ h=_
  unfold rq
  rw[if_neg (by simp;omega)]
 |succ d ih=>
  intro i f bs h hi hf ho hq
  obtain⟨f,rfl⟩:∃j,f=j+1:=⟨f-1,by omega⟩
  have nw:i<rows.length:=by omega
  have hwi:=hw _ (List.getElem_mem nw)
  obtain⟨t,ht1,ht2⟩:=(hs.quiet hq).read nw
  obtain⟨s',h1,c1,c2,c3⟩:=HZ (fl:=fl) ht1 hwi.1 hwi.2
  have UM:=ho.quiet c3
  have Ak:=hq.trans c3
  have hlen:=ho.len
  simp only[List.length_take,Nat.min_eq_left (show i≤rows.length by omega)] at hlen
  have hn:=hq.1
  rcases c2 with⟨hz,_⟩|⟨b,c,g1,g2,g3,g4,rfl,g6⟩
  ·exact absurd (by simpa [iv] using hz) hwi.1
  ·have hbl:∀b'∈bs,b'.1<h.next:=by
    intro b' tY
    obtain⟨j,hj,rfl⟩:=List.getElem_of_mem tY
    exact(ho.row j hj (by simp;omega)).1
   have hhl:=ho.NL.1
   have hbh:b≠hb:=by omega
   have nv:(List.zipWith hv bs (rows.take i)++List.replicate (d+1) (Value.slice none 0 0)).set (0+i) (.slice (some ⟨b,0,none⟩) (iv rows[i]).length c)=List.zipWith hv (bs++[(b,c)]) (rows.take (i+1))++List.replicate d (Value.slice none 0 0):=by
    rw[Nat.zero_add,List.set_append_right _ _ (by simp;omega)]
    have:i-(List.zipWith hv bs (rows.take i)).length=0:=by simp;omega
    rw[this,List.replicate_succ,List.set_cons_zero,List.take_succ_eq_append_getElem nw,List.zipWith_append (by simp;omega),List.append_assoc]
    simp[hv]
   have hmx:Mx n0 (h1.put hb (some (List.zipWith hv (bs++[(b,c)]) (rows.take (i+1))++List.replicate d (Value.slice none 0 0)))) hb (bs++[(b,c)]) (rows.take (i+1)) (List.replicate d (Value.slice none 0 0)):=by
    refine⟨by simp;omega,UM.NL.put _,?_,ho.gh,?_,?_⟩
    ·intro j Aj hj2
     have hj:j≤i:=by simp at hj2;omega
     by_cases e:j=i
     ·subst e
      rw[List.getElem_append_right (by omega)]
      simp only[hlen,Nat.sub_self,List.getElem_cons_zero,List.getElem_take]
      exact OB.Yz ⟨g2,g6⟩ (fun e=>hbh e.symm) _
     ·rw[List.getElem_append_left (by omega)]
      have:=UM.row j (by omega) (by simp;omega)
      simp only[List.getElem_take] at this ⊢
      exact this.Yz (fun e=>(ho.ge _ (List.getElem_mem _)).2 e.symm) _
    ·intro b' tY
     rcases List.mem_append.1 tY with tY|tY
     ·exact ho.ge b' tY
     ·simp only[List.mem_singleton] at tY
      subst tY
      exact⟨by simp only;omega,hbh⟩
    ·rw[List.map_append,List.nodup_append]
     refine⟨ho.nd,by simp,?_⟩
     intro x hx y hy
     simp only[List.map_cons,List.map_nil,List.mem_singleton] at hy
     obtain⟨b',tY,rfl⟩:=List.mem_map.1 hx
     have:=hbl b' tY
     omega
   obtain⟨h',bs',e1,e2,e3⟩:=ih (i+1) f (bs++[(b,c)]) _ (by omega) (by omega) hmx (Ak.put (by omega) _)
   refine⟨h',bs',?_,e2,e3⟩
   show rq M fl k _ _ _ _ _ _ h=_
   unfold rq
   rw[if_pos (by simp;omega),ht2,ag c1]
   simp only[bB]
   rw[aT rfl (show i<rows.length from nw),UM.NL.st (by omega) (by simp;omega) rfl,nv,fE (by omega)]
   exact e1
theorem adb{fl:Nat}{h:AH}{s:Sl}{rows:List (List Int)}(hs:RR h s rows)(bN:fl≤h.next)(hw:∀r∈rows,r≠[]∧r.length≤65536)(hm:rows.length≤65536):
 ∃h' bs,M fl fn.ly [.slice s.a s.l s.c] h=some (.slice (some ⟨h.next,0,none⟩) rows.length rows.length,h')∧Mx h.next h' h.next bs rows []∧ai h h':=by
 have ho:=OB.alloc h (List.replicate rows.length (Value.slice none 0 0))
 obtain⟨h',bs,e1,e2,e3⟩:=ada (fl:=fl) (k:=rows.length+1) (LC M fl (rows.length+1) (fun(y6:Sl) q=>some (Value.slice y6.a y6.l y6.c,q))) hs rfl (Nat.le_refl _) bN hw (by unfold mh;omega) rows.length 0 (rows.length+1) [] _ (by omega) (by omega)
  ⟨by simp,by simpa using ho,fun i h1 h2=>absurd h1 (by simp),Nat.le_refl _,fun b hb=>absurd hb (by simp),by simp⟩ (ai.alloc ..)
 refine⟨h',bs,aX (k:=rows.length+1) (by decide) Dv ?_,e2,e3⟩
 rw[zH]
 unfold ly alP WD
 rw[hs.len,jg (by unfold kA;omega)]
 exact e1
end Go.Abs.P
end
section
namespace Go.Abs
theorem auQ(fl:Nat)(a:Addr)(l c:Nat)(p1 p2:Addr)(h:AH):pL noE fl alW ([.slice (some a) l c,.pointer (some p1),.pointer (some p2)]++List.replicate 15 undef) h (fun _ h=>some (Value.tuple ⟨[]⟩,h))=
 aE .i64 h p2.block p2.off fun n1=>aE .i64 h p1.block p1.off fun n2=>aE .i64 h p1.block p1.off fun n3=>idx 1 ⟨some a,l,c⟩ n3 fun p4=>bM h p4.block p4.off fun s5=>aE .i64 h p2.block p2.off fun n6=>idx 1 ⟨some a,l,c⟩ n6 fun p7=>bM h p7.block p7.off fun s8=>
  idx 1 ⟨some a,l,c⟩ n1 fun p9=>st fl h p9 [.slice s5.a s5.l s5.c] fun H7=>idx 1 ⟨some a,l,c⟩ n2 fun p11=>st fl H7 p11 [.slice s8.a s8.l s8.c] fun H3=>some (Value.tuple ⟨[]⟩,H3):=by kernel_rfl
end Go.Abs
namespace Go.Abs.P
open Go.Abs Go.Fld
structure ES{D:FD}(h0 h:AH)(g:Addr)(hb:Nat)(bs:List (Nat×Nat))(rows:List (List (El D)))(bg br ba:Nat):Prop where
 q:ai h0 h
 mx:Mx h0.next h hb bs (rows.map vl) []
 og:OB h bg [.pointer (some g)]
 UC:OB h br [.slice (some ⟨hb,0,none⟩) rows.length rows.length]
 oa:OB h ba [.slice none 0 0]
 ng:bg≠hb∧br≠hb∧ba≠hb
 nb:∀b∈bs,bg≠b.1∧br≠b.1∧ba≠b.1
 gb:h0.next≤bg∧h0.next≤br∧h0.next≤ba
section
variable{D:FD}{gen:Nat}(hg:D.aJ gen){h0 h h':AH}{g:Addr}{fl hb bg br ba:Nat}{bs:List (Nat×Nat)}{rows:List (List (El D))}
theorem ES.len(p:ES h0 h g hb bs rows bg br ba):bs.length=rows.length:=by have:=p.mx.len;simpa using this
theorem ES.quiet(p:ES h0 h g hb bs rows bg br ba)(q:ai h h'):ES h0 h' g hb bs rows bg br ba:=
 ⟨p.q.trans q,p.mx.quiet q,p.og.quiet q,p.UC.quiet q,p.oa.quiet q,p.ng,p.nb,p.gb⟩
structure For{D:FD}(h0:AH)(hb:Nat)(bs:List (Nat×Nat))(bg br ba c:Nat):Prop where
 n0:h0.next≤c
 hd:c≠hb
 row:∀b∈bs,c≠b.1
 g:c≠bg
 r:c≠br
 a:c≠ba
theorem ES.AA(p:ES h0 h g hb bs rows bg br ba){c o:Nat}{t:Option Nat}(f:For (D:=D) h0 hb bs bg br ba c)(q:iL (some ⟨c,o,t⟩) h h'):ES h0 h' g hb bs rows bg br ba:=
 ⟨q.quiet p.q (fun a ha=>by cases ha;exact f.n0),p.mx.AA q f.hd f.row,q.ob p.og (fun a ha=>by cases ha;exact f.g),q.ob p.UC (fun a ha=>by cases ha;exact f.r),q.ob p.oa (fun a ha=>by cases ha;exact f.a),p.ng,p.nb,p.gb⟩
theorem ES.fresh(p:ES h0 h g hb bs rows bg br ba):For (D:=D) h0 hb bs bg br ba h.next:=
 ⟨p.q.1,fun e=>by have:=p.mx.NL.1;omega,fun b tY e=>by
   obtain⟨j,hj,rfl⟩:=List.getElem_of_mem tY
   have:=(p.mx.row j hj (by rw[←p.mx.len];exact hj)).1;omega,fun e=>by have:=p.og.1;omega,fun e=>by have:=p.UC.1;omega,fun e=>by have:=p.oa.1;omega⟩
theorem ES.cell(p:ES h0 h g hb bs rows bg br ba){i:Nat}(hi:i<rows.length):h.cell hb (0+i)=some (hv (bs[i]'(by rw[p.len];exact hi)) (vl rows[i])):=by
 rw[Nat.zero_add,p.mx.cell (i:=i) (by simpa using hi)];simp
theorem ES.agh(p:ES h0 h g hb bs rows bg br ba){i:Nat}(hi:i<rows.length):OB h (bs[i]'(by rw[p.len];exact hi)).1 (iv (vl rows[i])):=by
 have:=p.mx.row i (by rw[p.len];exact hi) (by simpa using hi)
 simpa using this
def fQ(br ba:Nat):Value:=.func (.func fn.eJ) ⟨[]⟩ ⟨[.pointer (some ⟨br,0,none⟩),.pointer (some ⟨ba,0,none⟩)]⟩
theorem L7{R:Type}{n:Nat}{s:Sl}{fid:Nat}{av4:List Value}(o1:OB h br [.slice s.a s.l s.c])(o2:OB h' ba [.slice none 0 0])(hs:M fl fid ([.slice s.a s.l s.c]++av4) h=some (.tuple ⟨[]⟩,h'))(K:Value→AH→Option R):
 lX M fl (fQ br ba) [.func (.func fid) ⟨[]⟩ ⟨av4⟩] h K=K (.tuple ⟨[]⟩) h':=by
 have:M fl fn.eJ [.func (.func fid) ⟨[]⟩ ⟨av4⟩,.pointer (some ⟨br,0,none⟩),.pointer (some ⟨ba,0,none⟩)] h=some (.tuple ⟨[]⟩,h'):=by
  refine aX (k:=1) (by decide) Dy ?_
  rw[Bh]
  unfold eJ ami
  dsimp only
  rw[ah (s:=s) (o1.cell rfl)]
  unfold lX
  simp only[List.nil_append]
  rw[hs]
  simp only[bj,ch]
  rw[ah (s:=⟨none,0,0⟩) (o2.cell rfl),if_neg (by simp)]
 unfold lX fQ
 simp only[List.nil_append,List.singleton_append]
 rw[this]
theorem asg(rows:List (List (El D))){i k:Nat}(hi:i<rows.length)(hk:k<rows.length):(Fld.yN rows i k).map vl=((rows.map vl).set i (vl rows[k])).set k (vl rows[i]):=by
 unfold Fld.yN
 rw[List.map_set,List.map_set,List.getD_eq_getElem?_getD,List.getElem?_eq_getElem hk,List.getD_eq_getElem?_getD,List.getElem?_eq_getElem hi]
 rfl
theorem ah1(p:ES h0 h g hb bs rows bg br ba){b1 b2 i k:Nat}(o1:OB h b1 [.int .i64 (i:Int)])(o2:OB h b2 [.int .i64 (k:Int)])(n1:b1≠hb)(n2:b2≠hb)(hi:i<rows.length)(hk:k<rows.length)(bN:fl≤h0.next):
 ∃h' bs',M fl fn.bG [.slice (some ⟨hb,0,none⟩) rows.length rows.length,.pointer (some ⟨b2,0,none⟩),.pointer (some ⟨b1,0,none⟩)] h=some (.tuple ⟨[]⟩,h')∧
  ES h0 h' g hb bs' (Fld.yN rows i k) bg br ba∧iL (some ⟨hb,0,none⟩) h h'∧(∀b∈bs',b∈bs):=by
 have Sw:i<bs.length:=by rw[p.len];exact hi
 have hkb:k<bs.length:=by rw[p.len];exact hk
 have hsw:=p.mx.swap (i:=i) (k:=k) (by simpa using hi) (by simpa using hk)
 simp only[List.getElem_map] at hsw
 have hgh:=p.mx.gh
 obtain⟨H1,hH1⟩:∃H1,H1=h.put hb (some ((List.zipWith hv bs (rows.map vl)++[]).set i (hv bs[k] (vl rows[k])))):=⟨_,rfl⟩
 obtain⟨H2,hH2⟩:∃H2,H2=H1.put hb (some (((List.zipWith hv bs (rows.map vl)++[]).set i (hv bs[k] (vl rows[k]))).set k (hv bs[i] (vl rows[i])))):=⟨_,rfl⟩
 rw[←hH1,←hH2] at hsw
 have Cv:iL (some ⟨hb,0,none⟩) h H1:=by rw[hH1];exact iL.put _
 have mn:iL (some ⟨hb,0,none⟩) H1 H2:=by rw[hH2];exact iL.put _
 have Md:=Cv.trans mn
 have St:∀b∈(bs.set i bs[k]).set k bs[i],b∈bs:=by
  intro b tY
  rcases List.mem_or_eq_of_mem_set tY with h3|rfl
  ·rcases List.mem_or_eq_of_mem_set h3 with h4|rfl
   ·exact h4
   ·exact List.getElem_mem hkb
  ·exact List.getElem_mem Sw
 refine⟨H2,(bs.set i bs[k]).set k bs[i],auI ?_,⟨Md.quiet p.q (fun a ha=>by cases ha;exact hgh),by rw[asg rows hi hk];exact hsw,Md.ob p.og (fun a ha=>by cases ha;exact p.ng.1.symm),?_,Md.ob p.oa (fun a ha=>by cases ha;exact p.ng.2.2.symm),p.ng,fun b tY=>p.nb b (St b tY),p.gb⟩,Md,St⟩
 ·unfold swE
  have e1:Nat.beq fn.bG fn.bG=true:=rfl
  rw[e1]
  simp only[cond_true]
  have e2:(Nat.beq hb b2||Nat.beq hb b1)=false:=by
   have q1:Nat.beq hb b2=false:=by cases hq:Nat.beq hb b2 with|false=>rfl|true=>exact absurd (Nat.eq_of_beq_eq_true hq).symm n2
   have q2:Nat.beq hb b1=false:=by cases hq:Nat.beq hb b1 with|false=>rfl|true=>exact absurd (Nat.eq_of_beq_eq_true hq).symm n1
   rw[q1,q2];rfl
  rw[e2]
  simp only[cond_false]
  refine(auQ ..).trans ?_
  have ci:=p.cell hi
  have ck:=p.cell hk
  rw[ab (o1.cell rfl),ab (o2.cell rfl),ab (o2.cell rfl),aT rfl (show k<rows.length from hk)]
  dsimp only
  rw[ah (s:=⟨some ⟨(bs[k]).1,0,none⟩,(vl rows[k]).length,(bs[k]).2⟩) ck,ab (o1.cell rfl),aT rfl (show i<rows.length from hi)]
  dsimp only
  rw[ah (s:=⟨some ⟨(bs[i]).1,0,none⟩,(vl rows[i]).length,(bs[i]).2⟩) ci,aT rfl (show i<rows.length from hi),p.mx.NL.st (by omega) (by simp[p.len];omega) rfl,aT rfl (show k<rows.length from hk)]
  have e3:(List.zipWith hv bs (rows.map vl)++[]).set (0+i) (.slice (some ⟨(bs[k]).1,0,none⟩) (vl rows[k]).length (bs[k]).2)=(List.zipWith hv bs (rows.map vl)++[]).set i (hv bs[k] (vl rows[k])):=by rw[Nat.zero_add];rfl
  rw[e3,←hH1]
  have UM:OB H1 hb ((List.zipWith hv bs (rows.map vl)++[]).set i (hv bs[k] (vl rows[k]))):=by rw[hH1];exact p.mx.NL.put _
  rw[UM.st (by omega) (by simp[p.len];omega) rfl]
  have e4:((List.zipWith hv bs (rows.map vl)++[]).set i (hv bs[k] (vl rows[k]))).set (0+k) (.slice (some ⟨(bs[i]).1,0,none⟩) (vl rows[i]).length (bs[i]).2)=((List.zipWith hv bs (rows.map vl)++[]).set i (hv bs[k] (vl rows[k]))).set k (hv bs[i] (vl rows[i])):=by rw[Nat.zero_add];rfl
  rw[e4,←hH2]
 ·have e5:(Fld.yN rows i k).length=rows.length:=Fld.jy ..
  rw[e5]
  exact Md.ob p.UC (fun a ha=>by cases ha;exact p.ng.2.1.symm)
theorem ah2(gf:GF h0 g D gen)(p:ES h0 h g hb bs rows bg br ba){b1 b2 i:Nat}(a:El D)(o1:OB h b1 [.int .i64 (i:Int)])(o2:OB h b2 [.int .i64 (ve a)])(hi:i<rows.length)(bN:fl≤h0.next)(hw:rows[i].length≤65536):
 ∃h' bs',M fl fn.eK [.slice (some ⟨hb,0,none⟩) rows.length rows.length,.pointer (some ⟨bg,0,none⟩),.pointer (some ⟨b2,0,none⟩),.pointer (some ⟨b1,0,none⟩)] h=some (.tuple ⟨[]⟩,h')∧
  ES h0 h' g hb bs' (rows.set i ((FD.aB hg).nB a rows[i])) bg br ba∧iL (some ⟨hb,0,none⟩) h h'∧(∀b∈bs',b∈bs∨h.next≤b.1):=by
 have Sw:i<bs.length:=by rw[p.len];exact hi
 have hrow:=p.agh hi
 have hsi:=hrow.si none (bs[i]).2
 obtain⟨h1,s1,s2,s3⟩:=ac8 (fl:=h.next) hg (gf.quiet p.q) a hsi hw (Nat.le_refl _)
 have p1:=p.quiet s3
 have hf:=p.fresh
 have nv:=p1.mx.setRow (i:=i) (nb:=h.next) (cp:=rows[i].length) (r:=vl ((FD.aB hg).nB a rows[i])) (by simpa using hi) s2 p.q.1 hf.hd hf.row
 obtain⟨H1,hH1⟩:∃H1,H1=h1.put hb (some ((List.zipWith hv bs (rows.map vl)++[]).set i (hv (h.next,rows[i].length) (vl ((FD.aB hg).nB a rows[i]))))):=⟨_,rfl⟩
 rw[←hH1] at nv
 have Cv:iL (some ⟨hb,0,none⟩) h H1:=(iL.QB s3).trans (by rw[hH1];exact iL.put _)
 have St:∀b∈bs.set i (h.next,rows[i].length),b∈bs∨h.next≤b.1:=by
  intro b tY
  rcases List.mem_or_eq_of_mem_set tY with h3|rfl
  ·exact .inl h3
  ·exact .inr (Nat.le_refl _)
 refine⟨H1,bs.set i (h.next,rows[i].length),aX (k:=1) (by decide) Dz ?_,⟨Cv.quiet p.q (fun a ha=>by cases ha;exact p.mx.gh),?_,Cv.ob p.og (fun a ha=>by cases ha;exact p.ng.1.symm),?_,Cv.ob p.oa (fun a ha=>by cases ha;exact p.ng.2.2.symm),p.ng,?_,p.gb⟩,Cv,St⟩
 ·rw[Bi (p0:=⟨some ⟨hb,0,none⟩,rows.length,rows.length⟩)]
  unfold eK amk
  dsimp only
  rw[ab (o1.cell rfl),yl (p.og.cell rfl),ab (o2.cell rfl),ab (o1.cell rfl),aT rfl (show i<rows.length from hi)]
  dsimp only
  have e0:(vl rows[i]).length=rows[i].length:=by simp
  rw[ah (s:=⟨some ⟨(bs[i]).1,0,none⟩,(vl rows[i]).length,(bs[i]).2⟩) (p.cell hi),ag s1]
  simp only[bB]
  rw[aT rfl (show i<rows.length from hi),p1.mx.NL.st (by have:=p.mx.gh;omega) (by simp[p.len];omega) rfl]
  have e3:(List.zipWith hv bs (rows.map vl)++[]).set (0+i) (.slice (some ⟨h.next,0,none⟩) rows[i].length rows[i].length)=(List.zipWith hv bs (rows.map vl)++[]).set i (hv (h.next,rows[i].length) (vl ((FD.aB hg).nB a rows[i]))):=by
   rw[Nat.zero_add];simp[hv,Fld.cY]
  rw[e3,←hH1]
 ·rw[List.map_set];exact nv
 ·rw[List.length_set]
  exact Cv.ob p.UC (fun a ha=>by cases ha;exact p.ng.2.1.symm)
 ·intro b tY
  rcases List.mem_or_eq_of_mem_set tY with h3|rfl
  ·exact p.nb b h3
  ·exact⟨fun e=>hf.g e.symm,fun e=>hf.r e.symm,fun e=>hf.a e.symm⟩
theorem ah3(gf:GF h0 g D gen)(p:ES h0 h g hb bs rows bg br ba){b1 b2 b3 i j:Nat}(x:El D)(o1:OB h b1 [.int .i64 (i:Int)])(o2:OB h b2 [.int .i64 (j:Int)])(o3:OB h b3 [.int .i64 (ve x)])(hi:i<rows.length)(hj:j<rows.length)(UJ:j≠i)(bN:fl≤h0.next)
 (hw:rows[i].length≤65536) (hl:rows[j].length=rows[i].length):
 ∃h',M fl fn.eL [.slice (some ⟨hb,0,none⟩) rows.length rows.length,.pointer (some ⟨bg,0,none⟩),.pointer (some ⟨b2,0,none⟩),.pointer (some ⟨b3,0,none⟩),.pointer (some ⟨b1,0,none⟩)] h=some (.tuple ⟨[]⟩,h')∧
  ES h0 h' g hb bs (rows.set j ((FD.aB hg).bw rows[j] ((FD.aB hg).neg x) rows[i])) bg br ba∧iL (some ⟨(bs[j]'(by rw[p.len];exact hj)).1,0,none⟩) h h':=by
 have Sw:i<bs.length:=by rw[p.len];exact hi
 have hjb:j<bs.length:=by rw[p.len];exact hj
 have hri:=p.agh hi
 have hrj:=p.agh hj
 have hbj:=p.mx.ge _ (List.getElem_mem hjb)
 have hnj:=p.nb _ (List.getElem_mem hjb)
 have hgh:=gf.quiet p.q
 obtain⟨h',a1,a2,a3⟩:=ah0 (fl:=fl) (cp:=(bs[j]).2) (tu:=⟨some ⟨(bs[i]).1,0,none⟩,(vl rows[i]).length,(bs[i]).2⟩) hg hgh ((FD.aB hg).neg x) hrj (hri.si none (bs[i]).2) hl (fun q hq=>by cases hq;exact p.mx.ne hjb Sw UJ)
  (fun {h''} Md=>gf.quiet (Md.quiet p.q (fun a ha=>by cases ha;exact hbj.1))) hw (by omega)
 have hlen:((FD.aB hg).bw rows[j] ((FD.aB hg).neg x) rows[i]).length=rows[j].length:=Fld.bI _ _ _ _ hl
 refine⟨h',aX (k:=1) (by decide) DA ?_,⟨a3.quiet p.q (fun a ha=>by cases ha;exact hbj.1),?_,a3.ob p.og (fun a ha=>by cases ha;exact hnj.1.symm),?_,a3.ob p.oa (fun a ha=>by cases ha;exact hnj.2.2.symm),p.ng,p.nb,p.gb⟩,a3⟩
 ·rw[Bj (p0:=⟨some ⟨hb,0,none⟩,rows.length,rows.length⟩)]
  unfold eL amm
  dsimp only
  rw[yl (p.og.cell rfl),ab (o2.cell rfl),aT rfl (show j<rows.length from hj)]
  dsimp only
  rw[ah (s:=⟨some ⟨(bs[j]).1,0,none⟩,(vl rows[j]).length,(bs[j]).2⟩) (p.cell hj),yl (p.og.cell rfl),ab (o3.cell rfl),ag (auP hg hgh x)]
  simp only[asInt,if_true]
  rw[ab (o1.cell rfl),aT rfl (show i<rows.length from hi)]
  dsimp only
  rw[ah (s:=⟨some ⟨(bs[i]).1,0,none⟩,(vl rows[i]).length,(bs[i]).2⟩) (p.cell hi)]
  have e0:(vl rows[j]).length=rows[i].length:=by simp[hl]
  try dsimp only
  rw[e0,ag a1]
  rfl
 ·rw[List.map_set]
  refine p.mx.upd (i:=j) (by simpa using hj) (by simp[hlen]) a2 a3
 ·rw[List.length_set]
  exact a3.ob p.UC (fun a ha=>by cases ha;exact hnj.2.1.symm)
end
end Go.Abs.P
end
section
namespace Go.Abs
theorem Bx{fl:Nat}{h:AH}(v0 v:Value)(bN:fl≤h.next)(hv:yC v=true):∃h2,(∀{R:Type} (K:Nat→AH→Option R),(cU h [v0] fun b h1=>st fl h1 ⟨b,0,none⟩ [v] fun h2=>K b h2)=K h.next h2)∧OB h2 h.next [v]∧ai h h2:=by
 have o:=OB.alloc h [v0]
 refine⟨(h.alloc [v0]).put h.next (some [v]),fun K=>?_,o.put _,(ai.alloc ..).put (Nat.le_refl _) _⟩
 show st fl (h.alloc [v0]) ⟨h.next,0,none⟩ [v] _=_
 rw[o.st bN (by simp) hv];rfl
end Go.Abs
namespace Go.Fld.Fld
variable{α:Type}(F:Fld α)
def iK(rows:List (List α))(p c i:Nat):List (List α):=rows.mapIdx fun j r=>if j=p∨¬j<i then r else F.bw r (F.neg (r.getD c F.zero)) (rows.getD p [])
theorem DG(rows:List (List α))(p c i:Nat):(F.iK rows p c i).length=rows.length:=by simp[iK]
theorem Uv(rows:List (List α))(p c:Nat):F.iK rows p c 0=rows:=by
 apply List.ext_getElem (by simp[iK])
 intro j h1 h2
 simp[iK]
theorem aa6(rows:List (List α))(p c:Nat):F.iK rows p c rows.length=F.Pb rows p c:=by
 apply List.ext_getElem (by simp[iK,Pb])
 intro j h1 h2
 have hj:j<rows.length:=by simpa [iK] using h1
 have hn:¬rows.length≤j:=by omega
 simp[iK,Pb,hn]
theorem DH(rows:List (List α))(p c i:Nat){j:Nat}(hj:j<rows.length)(h:j=p∨i≤j):(F.iK rows p c i)[j]'(by rw[DG];exact hj)=rows[j]:=by
 simp only[iK,List.getElem_mapIdx]
 rw[if_pos (by omega)]
theorem EN(rows:List (List α))(p c i:Nat)(h:i=p∨∃hi:i<rows.length,rows[i].getD c F.zero=F.zero∧(rows[i]).length=(rows.getD p []).length):F.iK rows p c (i+1)=F.iK rows p c i:=by
 apply List.ext_getElem (by simp[iK])
 intro j h1 h2
 simp only[iK,List.getElem_mapIdx]
 by_cases e:j=i
 ·subst e
  rcases h with rfl|⟨hi,hz,hl⟩
  ·simp
  ·by_cases hp:j=p
   ·subst hp;simp
   ·rw[if_neg (by omega),if_pos (by omega),hz,F.neg_zero,F.DY _ _ hl]
 ·by_cases hp:j=p
  ·rw[if_pos (.inl hp),if_pos (.inl hp)]
  ·by_cases hj:j<i
   ·rw[if_neg (by omega),if_neg (by omega)]
   ·rw[if_pos (by omega),if_pos (by omega)]
theorem aa7(rows:List (List α))(p c i:Nat)(hi:i<rows.length)(hp:i≠p):(F.iK rows p c i).set i (F.bw rows[i] (F.neg (rows[i].getD c F.zero)) (rows.getD p []))=F.iK rows p c (i+1):=by
 apply List.ext_getElem (by simp[iK])
 intro j h1 h2
 rw[List.getElem_set]
 by_cases e:i=j
 ·subst e
  rw[if_pos rfl]
  simp only[iK,List.getElem_mapIdx]
  rw[if_neg (by omega)]
 ·rw[if_neg e]
  simp only[iK,List.getElem_mapIdx]
  by_cases hj:j=p
  ·rw[if_pos (.inl hj),if_pos (.inl hj)]
  ·by_cases hlt:j<i
   ·rw[if_neg (by omega),if_neg (by omega)]
   ·rw[if_pos (by omega),if_pos (by omega)]
theorem amQ(rows:List (List α)){i:Nat}(hi:i<rows.length):yN rows i i=rows:=by
 unfold yN
 rw[List.set_set,List.getD_eq_getElem?_getD,List.getElem?_eq_getElem hi,Option.getD_some,List.set_getElem_self]
theorem vu{rows:List (List α)}{i:Nat}(hi:i<rows.length):rows.getD i []=rows[i]:=by rw[List.getD_eq_getElem?_getD,List.getElem?_eq_getElem hi];rfl
theorem Xy{rows:List (List α)}{i c:Nat}(hi:i<rows.length)(hc:c<rows[i].length):F.jx rows i c=rows[i][c]:=by
 unfold jx
 rw[vu hi,List.getD_eq_getElem?_getD,List.getElem?_eq_getElem hc];rfl
end Go.Fld.Fld
namespace Go.Abs.P
open Go.Abs Go.Fld
structure PV{D:FD}(h0 h:AH)(hb:Nat)(bs:List (Nat×Nat))(bg br ba:Nat)(s:Sl)(ps:List Nat):Prop where
 ov:OV h0.next h s (iv (ints ps))
 fo:∀a,s.a=some a→For (D:=D) h0 hb bs bg br ba a.block
section
variable{D:FD}{gen:Nat}(hg:D.aJ gen){h0 h h':AH}{g:Addr}{fl k hb bg br ba:Nat}{bs bs':List (Nat×Nat)}{rows:List (List (El D))}{pv:Sl}{ps:List Nat}
theorem OV.lt{n0 h s vs}(p:OV n0 h s vs):∀a,s.a=some a→a.block<h.next:=by
 rcases p with⟨rfl,rfl⟩|⟨b,c,_,h2,_,_,rfl,_⟩
 ·intro a h;cases h
 ·intro a h;cases h;exact h2
theorem PV.quiet(p:PV (D:=D) h0 h hb bs bg br ba pv ps)(q:ai h h'):PV (D:=D) h0 h' hb bs bg br ba pv ps:=⟨p.ov.quiet q,p.fo⟩
theorem PV.AA(p:PV (D:=D) h0 h hb bs bg br ba pv ps){c o:Nat}{t:Option Nat}(q:iL (some ⟨c,o,t⟩) h h')(hc:∀a,pv.a=some a→c≠a.block):PV (D:=D) h0 h' hb bs bg br ba pv ps:=
 ⟨p.ov.acK q.1 (fun a ha=>q.2 _ (OV.lt p.ov a ha) (fun b tY=>by cases tY;exact hc a ha)),p.fo⟩
theorem For.sub{c N:Nat}(f:For (D:=D) h0 hb bs bg br ba c)(hs:∀b∈bs',b∈bs∨N≤b.1)(hc:c<N):For (D:=D) h0 hb bs' bg br ba c:=
 ⟨f.n0,f.hd,fun b tY=>(hs b tY).elim (f.row b) (fun h=>by omega),f.g,f.r,f.a⟩
theorem PV.sub{N:Nat}(p:PV (D:=D) h0 h hb bs bg br ba pv ps)(hs:∀b∈bs',b∈bs∨N≤b.1)(hN:∀a,pv.a=some a→a.block<N):PV (D:=D) h0 h hb bs' bg br ba pv ps:=
 ⟨p.ov,fun a ha=>(p.fo a ha).sub hs (hN a ha)⟩
theorem ES.Sc(p:ES h0 h g hb bs rows bg br ba){R:Type}{i c:Nat}(hi:i<rows.length)(hc:c<rows[i].length)(K:Int→Option R):
 (idx 1 (⟨some ⟨hb,0,none⟩,rows.length,rows.length⟩:Sl) (i:Int) fun q=>bM h q.block q.off fun s2=>idx 1 s2 (c:Int) fun q2=>aE .i64 h q2.block q2.off K)=K (ve rows[i][c]):=by
 rw[aT rfl (show i<rows.length from hi)]
 dsimp only
 rw[ah (s:=⟨some ⟨(bs[i]'(by rw[p.len];exact hi)).1,0,none⟩,(vl rows[i]).length,(bs[i]'(by rw[p.len];exact hi)).2⟩) (p.cell hi),((p.agh hi).si none _).read (by omega) (by simp;exact hc)]
 simp only[Int.toNat_natCast,kW]
theorem amR{R:Type}(kn:bk R)(gf:GF h0 g D gen){w c p b1:Nat}{aU:List (List (El D))}(hw:Fld.eG w aU)(hc:c<w)(Sx:w≤65536)(hp:p<aU.length)(hn:aU.length≤65536)(bN:fl≤h0.next)(cols DN:Int)(hpb:∀a,pv.a=some a→a.block≠b1):
 ∀(d i f:Nat) (h:AH),i+d=aU.length→d<f→ES h0 h g hb bs ((FD.aB hg).iK aU p c i) bg br ba→PV (D:=D) h0 h hb bs bg br ba pv ps→OB h b1 [.int .i64 (p:Int)]→For (D:=D) h0 hb bs bg br ba b1→
 ∃h',aZ M fl k kn f cols ⟨bg,0,none⟩ ⟨br,0,none⟩ DN (fQ br ba) pv (c:Int) ⟨b1,0,none⟩ (aU.length:Int) (i:Int) h=kn cols ⟨bg,0,none⟩ ⟨br,0,none⟩ DN (fQ br ba) pv (c:Int) h'∧
  ES h0 h' g hb bs ((FD.aB hg).Pb aU p c) bg br ba∧PV (D:=D) h0 h' hb bs bg br ba pv ps∧ai h0 h':=by
 intro d
 induction d with
 |zero=>
  intro i f h hi hf es pvh o1 f1
  obtain⟨f,rfl⟩:∃j,f=j+1:=⟨f-1,by omega⟩
  obtain rfl:i=aU.length:=by omega
  rw[Fld.aa6] at es
  refine⟨h,?_,es,pvh,es.q⟩
  show bT M fl k _ _ _ _ _ _ _ _ _ _ _ _ h=_
  unfold bT cS
  rw[if_neg (by simp)]
 |succ d ih=>
  intro i f h hi hf es pvh o1 f1
  obtain⟨f,rfl⟩:∃j,f=j+1:=⟨f-1,by omega⟩
  have nw:i<aU.length:=by omega
  have hlen:((FD.aB hg).iK aU p c i).length=aU.length:=Fld.DG ..
  have hwi:aU[i].length=w:=hw _ (List.getElem_mem nw)
  have hn0:=es.q.1
  obtain⟨h1,k1,ob1,q1⟩:=Bx (fl:=fl) (h:=h) (.int .i64 0) (.int .i64 (i:Int)) (by omega) rfl
  have es1:=es.quiet q1
  have hci:c<((FD.aB hg).iK aU p c i)[i].length:=by rw[Fld.DH _ _ _ _ _ nw (.inr (Nat.le_refl _))];omega
  have hrow:((FD.aB hg).iK aU p c i)[i]'(by omega)=aU[i]:=Fld.DH _ _ _ _ _ nw (.inr (Nat.le_refl _))
  have abK:aU[i].getD c (FD.aB hg).zero=aU[i][c]:=by rw[List.getD_eq_getElem?_getD,List.getElem?_eq_getElem (by omega)];rfl
  obtain⟨h2,k2,ob2,q2⟩:=Bx (fl:=fl) (h:=h1) (.int .i64 0) (.int .i64 (ve aU[i][c])) (by have:=q1.1;omega) rfl
  have es2:=es1.quiet q2
  have pv2:=(pvh.quiet q1).quiet q2
  have k9:=(o1.quiet q1).quiet q2
  have ayz:=ob1.quiet q2
  have un:aZ M fl k kn (f+1) cols ⟨bg,0,none⟩ ⟨br,0,none⟩ DN (fQ br ba) pv (c:Int) ⟨b1,0,none⟩ (aU.length:Int) (i:Int) h=
   (if ((i:Int) !=(p:Int))=true then if (ve aU[i][c] !=0)=true then lX M fl (fQ br ba) [.func (.func fn.eL) ⟨[]⟩ ⟨[.pointer (some ⟨bg,0,none⟩),.pointer (some ⟨h.next,0,none⟩),.pointer (some ⟨h1.next,0,none⟩),.pointer (some ⟨b1,0,none⟩)]⟩] h2 fun v20 Sy=>bj v20 fun l22=>ch l22 (bn M fl k (aZ M fl k kn f) kn cols ⟨bg,0,none⟩ ⟨br,0,none⟩ DN (fQ br ba) pv (c:Int) ⟨b1,0,none⟩ (aU.length:Int) (i:Int) Sy)
    else bn M fl k (aZ M fl k kn f) kn cols ⟨bg,0,none⟩ ⟨br,0,none⟩ DN (fQ br ba) pv (c:Int) ⟨b1,0,none⟩ (aU.length:Int) (i:Int) h2
    else bn M fl k (aZ M fl k kn f) kn cols ⟨bg,0,none⟩ ⟨br,0,none⟩ DN (fQ br ba) pv (c:Int) ⟨b1,0,none⟩ (aU.length:Int) (i:Int) h2):=by
   show bT M fl k _ _ _ _ _ _ _ _ _ _ _ _ h=_
   unfold bT cS
   rw[if_pos (by simp;omega),k1]
   dsimp only
   have hr:=es1.Sc (R:=R) (i:=i) (c:=c) (by omega) hci
   simp only[hrow] at hr
   rw[ah (s:=⟨some ⟨hb,0,none⟩,((FD.aB hg).iK aU p c i).length,((FD.aB hg).iK aU p c i).length⟩) (es1.UC.cell rfl),ab (ob1.cell rfl),hr,k2,ab (ayz.cell rfl),ab (k9.cell rfl),ab (ob2.cell rfl)]
  rw[un]
  have same:∀(abz:(FD.aB hg).iK aU p c (i+1)=(FD.aB hg).iK aU p c i),∃h',bn M fl k (aZ M fl k kn f) kn cols ⟨bg,0,none⟩ ⟨br,0,none⟩ DN (fQ br ba) pv (c:Int) ⟨b1,0,none⟩ (aU.length:Int) (i:Int) h2=kn cols ⟨bg,0,none⟩ ⟨br,0,none⟩ DN (fQ br ba) pv (c:Int) h'∧
   ES h0 h' g hb bs ((FD.aB hg).Pb aU p c) bg br ba∧PV (D:=D) h0 h' hb bs bg br ba pv ps∧ai h0 h':=by
   intro abz
   unfold bn
   rw[av (i+1) (by push_cast;rfl) (by omega)]
   exact ih (i+1) f h2 (by omega) (by omega) (by rw[abz];exact es2) pv2 k9 f1
  by_cases c1:i=p
  ·rw[if_neg (by simp[c1])]
   exact same (Fld.EN _ _ _ _ _ (.inl c1))
  ·rw[if_pos (by simp;omega)]
   by_cases c2:aU[i][c]=(FD.aB hg).zero
   ·rw[if_neg (by simp[(ix hg _).2 c2])]
    refine same (Fld.EN _ _ _ _ _ (.inr ⟨nw,by rw[abK];exact c2,?_⟩))
    rw[Fld.vu hp,hwi,hw _ (List.getElem_mem hp)]
   ·rw[if_pos (by simp;exact fun e=>c2 ((ix hg _).1 e))]
    have hpr:((FD.aB hg).iK aU p c i)[p]'(by omega)=aU[p]:=Fld.DH _ _ _ _ _ hp (.inl rfl)
    have f1b:=f1
    obtain⟨h3,s1,s2,s3⟩:=ah3 (fl:=fl) hg gf es2 (i:=p) (j:=i) aU[i][c] k9 ayz ob2 (by omega) (by omega) c1 bN (by rw[hpr,hw _ (List.getElem_mem hp)];exact Sx) (by rw[hpr,hrow,hwi,hw _ (List.getElem_mem hp)])
    rw[hrow,hpr] at s2
    have e1:((FD.aB hg).iK aU p c i).set i ((FD.aB hg).bw aU[i] ((FD.aB hg).neg aU[i][c]) aU[p])=(FD.aB hg).iK aU p c (i+1):=by
     rw[←Fld.aa7 _ _ _ _ _ nw c1,abK,Fld.vu hp]
    rw[e1] at s2
    have hbi:i<bs.length:=by rw[es2.len];omega
    have pv3:=pv2.AA s3 (fun a ha e=>(pv2.fo a ha).row _ (List.getElem_mem hbi) e.symm)
    have TM:=s3.ob k9 (fun a ha=>by cases ha;exact fun e=>f1.row _ (List.getElem_mem hbi) e.symm)
    obtain⟨h',e1',e2'⟩:=ih (i+1) f h3 (by omega) (by omega) s2 pv3 TM f1
    refine⟨h',?_,e2'⟩
    have hl2:aU.length=((FD.aB hg).iK aU p c i).length:=hlen.symm
    rw[L7 (s:=⟨some ⟨hb,0,none⟩,((FD.aB hg).iK aU p c i).length,((FD.aB hg).iK aU p c i).length⟩) (n:=0) es2.UC s2.oa s1]
    simp only[bj,ch]
    unfold bn
    rw[av (i+1) (by push_cast;rfl) (by omega)]
    exact e1'
theorem ah4{R:Type}(kn:sX R){hB:AH}{w c b1 b2:Nat}(hw:Fld.eG w rows)(hc:c<w)(esB:∀{h:AH},iL (some ⟨b2,0,none⟩) hB h→ES h0 h g hb bs rows bg br ba)(bN:fl≤b2)(hn:rows.length≤65536)(cols DN:Int):
 ∀(d i f:Nat) (h:AH),i+d=rows.length→d<f→OB h b2 [.int .i64 (i:Int)]→iL (some ⟨b2,0,none⟩) hB h→
 ∃h',df M fl k kn f cols ⟨bg,0,none⟩ ⟨br,0,none⟩ DN (fQ br ba) pv (c:Int) ⟨b1,0,none⟩ ⟨b2,0,none⟩ h=kn cols ⟨bg,0,none⟩ ⟨br,0,none⟩ DN (fQ br ba) pv (c:Int) ⟨b1,0,none⟩ ⟨b2,0,none⟩ h'∧
  OB h' b2 [.int .i64 ((((FD.aB hg).pick rows c d i).getD rows.length:Nat):Int)]∧iL (some ⟨b2,0,none⟩) hB h':=by
 intro d
 induction d with
 |zero=>
  intro i f h hi hf ob Md
  obtain⟨f,rfl⟩:∃j,f=j+1:=⟨f-1,by omega⟩
  obtain rfl:i=rows.length:=by omega
  have es:=esB Md
  refine⟨h,?_,ob,Md⟩
  show ef M fl k _ _ _ _ _ _ _ _ _ _ _ h=_
  unfold ef
  dsimp only
  rw[ab (ob.cell rfl),ah (s:=⟨some ⟨hb,0,none⟩,rows.length,rows.length⟩) (es.UC.cell rfl),if_neg (by simp)]
 |succ d ih=>
  intro i f h hi hf ob Md
  obtain⟨f,rfl⟩:∃j,f=j+1:=⟨f-1,by omega⟩
  have es:=esB Md
  have nw:i<rows.length:=by omega
  have hci:c<rows[i].length:=by rw[hw _ (List.getElem_mem nw)];exact hc
  have Ss:(FD.aB hg).jx rows i c=rows[i][c]:=Fld.Xy _ nw hci
  have hr:=es.Sc (R:=R) nw hci
  have un:df M fl k kn (f+1) cols ⟨bg,0,none⟩ ⟨br,0,none⟩ DN (fQ br ba) pv (c:Int) ⟨b1,0,none⟩ ⟨b2,0,none⟩ h=
   if (ve rows[i][c]==0)=true then df M fl k kn f cols ⟨bg,0,none⟩ ⟨br,0,none⟩ DN (fQ br ba) pv (c:Int) ⟨b1,0,none⟩ ⟨b2,0,none⟩ (h.put b2 (some [.int .i64 ((i+1:Nat):Int)])) else kn cols ⟨bg,0,none⟩ ⟨br,0,none⟩ DN (fQ br ba) pv (c:Int) ⟨b1,0,none⟩ ⟨b2,0,none⟩ h:=by
   show ef M fl k _ _ _ _ _ _ _ _ _ _ _ h=_
   unfold ef
   dsimp only
   rw[ab (ob.cell rfl),ah (s:=⟨some ⟨hb,0,none⟩,rows.length,rows.length⟩) (es.UC.cell rfl),if_pos (by simp;omega)]
   rw[ah (s:=⟨some ⟨hb,0,none⟩,rows.length,rows.length⟩) (es.UC.cell rfl),ab (ob.cell rfl)]
   rw[hr,ab (ob.cell rfl),ob.st bN (by simp) rfl,av (i+1) (by push_cast;rfl) (by omega)]
   rfl
  rw[un]
  by_cases hz:rows[i][c]=(FD.aB hg).zero
  ·have hp:(FD.aB hg).pick rows c (d+1) i=(FD.aB hg).pick rows c d (i+1):=by
    conv=>lhs;unfold Fld.pick
    split
    ·rfl
    ·rename_i fA _;exact absurd (Ss.trans hz) fA
   rw[if_pos (by simp[(ix hg _).2 hz]),hp]
   exact ih (i+1) f _ (by omega) (by omega) (ob.put _) (Md.trans (iL.put _))
  ·have hp:(FD.aB hg).pick rows c (d+1) i=some i:=by
    unfold Fld.pick
    split
    ·rename_i he _;exact absurd (Ss.symm.trans he) hz
    ·rfl
   rw[if_neg (by simp;exact fun e=>hz ((ix hg _).1 e)),hp]
   exact⟨h,rfl,ob,Md⟩
end
end Go.Abs.P
end
section
namespace Go.Abs.P
open Go.Abs Go.Fld
section
variable{D:FD}{gen:Nat}(hg:D.aJ gen){h0 h h':AH}{g:Addr}{fl k hb bg br ba:Nat}{bs bs':List (Nat×Nat)}{rows:List (List (El D))}{pv:Sl}{ps:List Nat}
theorem ES.axh(p:ES h0 h g hb bs rows bg br ba){c:Nat}(hc:h.next≤c):For (D:=D) h0 hb bs bg br ba c:=by
 have h1:=p.q.1
 have h2:=p.mx.NL.1
 have h3:=p.og.1
 have h4:=p.UC.1
 have h5:=p.oa.1
 refine⟨by omega,by omega,fun b tY e=>?_,by omega,by omega,by omega⟩
 obtain⟨j,hj,rfl⟩:=List.getElem_of_mem tY
 have:=(p.mx.row j hj (by rw[←p.mx.len];exact hj)).1
 omega
theorem ES.az2(p:ES h0 h g hb bs rows bg br ba){x:Option Addr}(q:iL x h h')(f:∀a,x=some a→For (D:=D) h0 hb bs bg br ba a.block):ES h0 h' g hb bs rows bg br ba:=by
 cases x with
 |none=>exact p.quiet ⟨q.1,fun b tY=>q.2 b tY (fun a ha=>by cases ha)⟩
 |some a=>
  obtain⟨b,o,t⟩:=a
  exact p.AA (f _ rfl) q
theorem amS{R:Type}(kn:bk R)(gf:GF h0 g D gen){w c b1 b2 K:Nat}(hw:Fld.eG w rows)(hc:c<w)(Sx:w≤65536)(hn:rows.length≤65536)(bN:fl≤h0.next)(cols:Int)(DN:El D)
 (es:ES h0 h g hb bs rows bg br ba) (pvh:PV (D:=D) h0 h hb bs bg br ba pv ps) (o1:OB h b1 [.int .i64 (ps.length:Int)]) (f1:For (D:=D) h0 hb bs bg br ba b1) (o2:OB h b2 [.int .i64 (K:Int)]) (f2:For (D:=D) h0 hb bs bg br ba b2)
 (hp:ps.length<rows.length) (hK:ps.length≤K∧K<rows.length) (hz:(FD.aB hg).jx rows K c≠(FD.aB hg).zero) (hpb:∀a,pv.a=some a→a.block<b1) (H6:ps.length≤65536) (hk:rows.length<k):
 ∃h' bs' B9 DJ,ed M fl k kn kn cols ⟨bg,0,none⟩ ⟨br,0,none⟩ (ve DN) (fQ br ba) pv (c:Int) ⟨b1,0,none⟩ ⟨b2,0,none⟩ h=kn cols ⟨bg,0,none⟩ ⟨br,0,none⟩ (ve (D:=D) DJ) (fQ br ba) B9 (c:Int) h'∧
  ES h0 h' g hb bs' ((FD.aB hg).cW rows ps.length K c) bg br ba∧PV (D:=D) h0 h' hb bs' bg br ba B9 (ps++[c]):=by
 have n57:((K:Int)==(rows.length:Int))=false:=by simp;omega
 have tail:∀(bJ:List (List (El D))) (bs6:List (Nat×Nat)) (h6:AH) (XM:El D),bJ.length=rows.length→Fld.eG w bJ→(FD.aB hg).jx bJ ps.length c≠(FD.aB hg).zero→ES h0 h6 g hb bs6 bJ bg br ba→PV (D:=D) h0 h6 hb bs6 bg br ba pv ps→
  OB h6 b1 [.int .i64 (ps.length:Int)]→For (D:=D) h0 hb bs6 bg br ba b1→
  ∃h' bs' B9 DJ,fD M fl k kn kn cols ⟨bg,0,none⟩ ⟨br,0,none⟩ (ve XM) (fQ br ba) pv (c:Int) ⟨b1,0,none⟩ h6=kn cols ⟨bg,0,none⟩ ⟨br,0,none⟩ (ve (D:=D) DJ) (fQ br ba) B9 (c:Int) h'∧
   ES h0 h' g hb bs' ((FD.aB hg).Pb ((FD.aB hg).norm bJ ps.length c) ps.length c) bg br ba∧PV (D:=D) h0 h' hb bs' bg br ba B9 (ps++[c]):=by
  intro bJ bs6 h6 XM hl6 hw6 hz6 es6 pv6 o6 f6
  have XI:ps.length<bJ.length:=by omega
  have hc6:c<bJ[ps.length].length:=by rw[hw6 _ (List.getElem_mem XI)];exact hc
  have Ss:(FD.aB hg).jx bJ ps.length c=bJ[ps.length][c]:=Fld.Xy _ XI hc6
  rw[Ss] at hz6
  have hg6:=gf.quiet es6.q
  have hr:=@ES.Sc D h0 h6 g hb bg br ba bs6 bJ es6 R ps.length c XI hc6
  obtain⟨h7,k7,ob7,q7⟩:=Bx (fl:=fl) (h:=h6) (.int .i64 0) (.int .i64 (ve ((FD.aB hg).inv bJ[ps.length][c]))) (by have:=es6.q.1;omega) rfl
  have es7:=es6.quiet q7
  have pv7:=pv6.quiet q7
  have o7:=o6.quiet q7
  have un:fD M fl k kn kn cols ⟨bg,0,none⟩ ⟨br,0,none⟩ (ve XM) (fQ br ba) pv (c:Int) ⟨b1,0,none⟩ h6=
   if (ve ((FD.aB hg).inv bJ[ps.length][c]) !=1)=true then lX M fl (fQ br ba) [.func (.func fn.eK) ⟨[]⟩ ⟨[.pointer (some ⟨bg,0,none⟩),.pointer (some ⟨h6.next,0,none⟩),.pointer (some ⟨b1,0,none⟩)]⟩] h7 fun v54 h55=>bj v54 fun l56=>ch l56 (dj M fl k kn kn cols ⟨bg,0,none⟩ ⟨br,0,none⟩ (ve ((FD.aB hg).mul XM bJ[ps.length][c])) (fQ br ba) pv (c:Int) ⟨b1,0,none⟩ h55)
   else dj M fl k kn kn cols ⟨bg,0,none⟩ ⟨br,0,none⟩ (ve ((FD.aB hg).mul XM bJ[ps.length][c])) (fQ br ba) pv (c:Int) ⟨b1,0,none⟩ h7:=by
   unfold fD ik
   dsimp only
   rw[yl (es6.og.cell rfl),ah (s:=⟨some ⟨hb,0,none⟩,bJ.length,bJ.length⟩) (es6.UC.cell rfl),ab (o6.cell rfl),hr,ag (asf hg hg6 XM _)]
   simp only[asInt,if_true]
   rw[yl (es6.og.cell rfl),ah (s:=⟨some ⟨hb,0,none⟩,bJ.length,bJ.length⟩) (es6.UC.cell rfl),ab (o6.cell rfl),hr,ag (az0 hg hg6 _ hz6)]
   simp only[bj,aG,ch,asInt,if_true]
   rw[k7,if_pos (by rfl),ab (ob7.cell rfl)]
  have fin:∀(bs8:List (Nat×Nat)) (h8:AH) (d8:El D),ES h0 h8 g hb bs8 ((FD.aB hg).norm bJ ps.length c) bg br ba→PV (D:=D) h0 h8 hb bs8 bg br ba pv ps→OB h8 b1 [.int .i64 (ps.length:Int)]→For (D:=D) h0 hb bs8 bg br ba b1→
   ∃h' bs' B9 DJ,dj M fl k kn kn cols ⟨bg,0,none⟩ ⟨br,0,none⟩ (ve d8) (fQ br ba) pv (c:Int) ⟨b1,0,none⟩ h8=kn cols ⟨bg,0,none⟩ ⟨br,0,none⟩ (ve (D:=D) DJ) (fQ br ba) B9 (c:Int) h'∧
    ES h0 h' g hb bs' ((FD.aB hg).Pb ((FD.aB hg).norm bJ ps.length c) ps.length c) bg br ba∧PV (D:=D) h0 h' hb bs' bg br ba B9 (ps++[c]):=by
   intro bs8 h8 d8 es8 pv8 o8 f8
   have hln:((FD.aB hg).norm bJ ps.length c).length=rows.length:=by rw[Fld.tL,hl6]
   have hwn:Fld.eG w ((FD.aB hg).norm bJ ps.length c):=Fld.eG.norm _ hw6 c XI
   obtain⟨h9,l1,l2,l3,l4⟩:=amR (fl:=fl) (k:=k) hg (dZ M fl k kn kn) gf hwn hc Sx (by omega) (by omega) bN cols (ve d8) (fun a ha e=>by have:=hpb a ha;omega) rows.length 0 k h8 (by omega) hk (by rw[Fld.Uv];exact es8) pv8 o8 f8
   rw[hln] at l1
   have hn9:=l4.1
   obtain⟨B9,H7,p1,p2,p3,p4⟩:=l3.ov.push (R:=R) (fl:=fl) (bytes:=8) (x:=.int .i64 (c:Int)) bN hn9 (by unfold kA;simp;omega) rfl (fun s3 h4=>kn cols ⟨bg,0,none⟩ ⟨br,0,none⟩ (ve d8) (fQ br ba) s3 (c:Int) h4)
   have e1:iv (ints ps)++[Value.int .i64 (c:Int)]=iv (ints (ps++[c])):=by rw[nX,rV];rfl
   rw[e1] at p2
   refine⟨H7,bs8,B9,d8,?_,l2.az2 p3 l3.fo,⟨p2,fun a ha=>l2.axh (p4 a ha)⟩⟩
   unfold dj fL jn
   dsimp only
   rw[ah (s:=⟨some ⟨hb,0,none⟩,((FD.aB hg).norm bJ ps.length c).length,((FD.aB hg).norm bJ ps.length c).length⟩) (es8.UC.cell rfl),hln]
   refine Eq.trans l1 ?_
   unfold dZ
   exact p1
  rw[un]
  have abE:(FD.aB hg).norm bJ ps.length c=bJ.set ps.length ((FD.aB hg).nB ((FD.aB hg).inv bJ[ps.length][c]) bJ[ps.length]):=by unfold Fld.norm;rw[Ss,Fld.vu XI]
  by_cases ci:(FD.aB hg).inv bJ[ps.length][c]=(FD.aB hg).one
  ·have e1:(FD.aB hg).norm bJ ps.length c=bJ:=by rw[abE,ci,Fld.ad5,List.set_getElem_self]
   have e2:ve (FD.aB hg).one=1:=rfl
   rw[if_neg (by rw[ci,e2];simp)]
   exact fin bs6 h7 _ (by rw[e1];exact es7) pv7 o7 f6
  ·rw[if_pos (by
    simp only[bne_iff_ne,ne_eq]
    intro e
    exact ci (ac6 (e.trans rfl)))]
   obtain⟨h8,bs8,s1,s2,s3,s4⟩:=ah2 (fl:=fl) hg gf es7 ((FD.aB hg).inv bJ[ps.length][c]) o7 ob7 XI bN (by rw[hw6 _ (List.getElem_mem XI)];exact Sx)
   rw[←abE] at s2
   have aAT:=o7.1
   have pv8:=(pv7.AA s3 (fun a ha e=>(pv7.fo a ha).hd e.symm)).sub (bs':=bs8) (N:=h7.next) s4 (fun a ha=>by have:=hpb a ha;omega)
   obtain⟨h',bs',B9,DJ,r1,r2⟩:=fin bs8 h8 ((FD.aB hg).mul XM bJ[ps.length][c]) s2 pv8 (s3.ob o7 (fun a ha=>by cases ha;exact f6.hd.symm)) (f6.sub s4 aAT)
   refine⟨h',bs',B9,DJ,?_,r2⟩
   rw[L7 (s:=⟨some ⟨hb,0,none⟩,bJ.length,bJ.length⟩) (n:=0) es7.UC s2.oa s1]
   simp only[bj,ch]
   exact r1
 unfold ed gu
 dsimp only
 rw[ab (o2.cell rfl),ah (s:=⟨some ⟨hb,0,none⟩,rows.length,rows.length⟩) (es.UC.cell rfl),if_neg (by simp;omega),ab (o2.cell rfl),ab (o1.cell rfl)]
 unfold Fld.cW
 by_cases ck:K=ps.length
 ·rw[if_neg (by simp[ck])]
  have e1:Fld.yN rows ps.length K=rows:=by rw[ck,Fld.amQ _ hp]
  rw[e1]
  rw[ck] at hz
  exact tail rows bs h DN rfl hw hz es pvh o1 f1
 ·rw[if_pos (by simp;omega)]
  obtain⟨h6,bs6,s1,s2,s3,s4⟩:=ah1 (fl:=fl) es o1 o2 f1.hd f2.hd hp hK.2 bN
  have hz6:(FD.aB hg).jx (Fld.yN rows ps.length K) ps.length c≠(FD.aB hg).zero:=by
   have:(FD.aB hg).jx (Fld.yN rows ps.length K) ps.length c=(FD.aB hg).jx rows K c:=by
    unfold Fld.jx Fld.yN
    congr 1
    rw[List.getD_eq_getElem?_getD,List.getElem?_set_ne (by omega),List.getElem?_set_self hp];rfl
   rw[this];exact hz
  have pv6:=(pvh.AA s3 (fun a ha e=>(pvh.fo a ha).hd e.symm)).sub (bs':=bs6) (N:=h.next) (fun b tY=>.inl (s4 b tY)) (fun a ha=>OV.lt pvh.ov a ha)
  have hg6:=gf.quiet s2.q
  obtain⟨h',bs',B9,DJ,r1,r2⟩:=tail (Fld.yN rows ps.length K) bs6 h6 ((FD.aB hg).neg DN) (Fld.jy ..) (hw.yN hp hK.2) hz6 s2 pv6 (s3.ob o1 (fun a ha=>by cases ha;exact f1.hd.symm)) (f1.sub (N:=h.next) (fun b tY=>.inl (s4 b tY)) o1.1)
  refine⟨h',bs',B9,DJ,?_,r2⟩
  rw[L7 (s:=⟨some ⟨hb,0,none⟩,rows.length,rows.length⟩) (n:=0) es.UC s2.oa s1]
  simp only[bj,ch]
  rw[yl (s2.og.cell rfl),ag (auP hg hg6 DN)]
  simp only[asInt,if_true]
  exact r1
theorem ah5{R:Type}(kn:xR R)(gf:GF h0 g D gen){w cols:Nat}(hcw:cols≤w)(Sx:w≤65536)(bN:fl≤h0.next){n:Nat}(hn:n≤65536)(hk:n<k):
 ∀(d c f:Nat) (rows:List (List (El D))) (bs:List (Nat×Nat)) (ps:List Nat) (pv:Sl) (DN:El D) (h:AH),c+d=cols→d<f→rows.length=n→Fld.eG w rows→ES h0 h g hb bs rows bg br ba→PV (D:=D) h0 h hb bs bg br ba pv ps→ps.length≤c→
 ∃h' bs' B9 DJ,fT M fl k kn f (cols:Int) ⟨bg,0,none⟩ ⟨br,0,none⟩ (ve DN) (fQ br ba) pv (c:Int) h=kn (ve (D:=D) DJ) B9 h'∧
  ES h0 h' g hb bs' ((FD.aB hg).oe d c rows ps).1 bg br ba∧PV (D:=D) h0 h' hb bs' bg br ba B9 ((FD.aB hg).oe d c rows ps).2:=by
 intro d
 induction d with
 |zero=>
  intro c f rows bs ps pv DN h hc hf hl hw es pvh hpc
  obtain⟨f,rfl⟩:∃j,f=j+1:=⟨f-1,by omega⟩
  refine⟨h,bs,pv,DN,?_,es,pvh⟩
  show rz M fl k _ _ _ _ _ _ _ _ _ h=_
  unfold rz wH
  rw[if_neg (by simp;omega)]
 |succ d ih=>
  intro c f rows bs ps pv DN h hc hf hl hw es pvh hpc
  obtain⟨f,rfl⟩:∃j,f=j+1:=⟨f-1,by omega⟩
  have H6:pv.l=ps.length:=by have:=pvh.ov.len;simpa using this
  have un:fT M fl k kn (f+1) (cols:Int) ⟨bg,0,none⟩ ⟨br,0,none⟩ (ve DN) (fQ br ba) pv (c:Int) h=rz M fl k (fT M fl k kn f) kn (cols:Int) ⟨bg,0,none⟩ ⟨br,0,none⟩ (ve DN) (fQ br ba) pv (c:Int) h:=rfl
  rw[un]
  unfold rz wH
  dsimp only
  rw[if_pos (by simp;omega),ah (s:=⟨some ⟨hb,0,none⟩,rows.length,rows.length⟩) (es.UC.cell rfl)]
  by_cases cf:ps.length<rows.length
  ·rw[if_pos (by simp;omega)]
   have hn0:=es.q.1
   obtain⟨h1,k1,ob1,q1⟩:=Bx (fl:=fl) (h:=h) (.int .i64 0) (.int .i64 (ps.length:Int)) (by omega) rfl
   have es1:=es.quiet q1
   obtain⟨h2,k2,ob2,q2⟩:=Bx (fl:=fl) (h:=h1) (.int .i64 0) (.int .i64 (ps.length:Int)) (by have:=q1.1;omega) rfl
   have es2:=es1.quiet q2
   have pv2:=(pvh.quiet q1).quiet q2
   have f1:For (D:=D) h0 hb bs bg br ba h.next:=es.fresh
   have f2:For (D:=D) h0 hb bs bg br ba h1.next:=es1.fresh
   have H3:h.next<h1.next:=ob1.1
   have unf:xS M fl k (fT M fl k kn f) kn (cols:Int) ⟨bg,0,none⟩ ⟨br,0,none⟩ (ve DN) (fQ br ba) pv (c:Int) h=df M fl k (ed M fl k (dr M fl k (fT M fl k kn f) kn) (dr M fl k (fT M fl k kn f) kn)) k (cols:Int) ⟨bg,0,none⟩ ⟨br,0,none⟩ (ve DN) (fQ br ba) pv (c:Int) ⟨h.next,0,none⟩ ⟨h1.next,0,none⟩ h2:=by
    unfold xS vk sY pq uq
    rw[H6,k1]
    rw[ab (ob1.cell rfl),k2]
   rw[unf]
   obtain⟨h5,a1,a2,a3⟩:=ah4 (fl:=fl) (k:=k) (b1:=h.next) (pv:=pv) hg (ed M fl k (dr M fl k (fT M fl k kn f) kn) (dr M fl k (fT M fl k kn f) kn)) (hB:=h2) hw (show c<w by omega) (fun {h'} Md=>es2.AA f2 Md) (by omega) (by omega) (cols:Int) (ve DN) (rows.length-ps.length) ps.length k h2 (by omega) (by omega) ob2 (iL.refl _ _)
   rw[a1]
   have es5:=es2.AA f2 a3
   have ayi:∀a,pv.a=some a→a.block<h.next:=fun a ha=>OV.lt pvh.ov a ha
   have pv5:=pv2.AA a3 (fun a ha e=>by have:=ayi a ha;omega)
   have o1:OB h5 h.next [.int .i64 (ps.length:Int)]:=a3.ob (ob1.quiet q2) (fun a ha=>by cases ha;show h1.next≠h.next;omega)
   cases hpk:(FD.aB hg).pick rows c (rows.length-ps.length) ps.length with
   |none=>
    rw[hpk] at a2
    have hgj:(FD.aB hg).oe (d+1) c rows ps=(FD.aB hg).oe d (c+1) rows ps:=by conv=>lhs;unfold Fld.oe;rw[hpk]
    rw[hgj]
    obtain⟨h',bs',B9,DJ,r1,r2⟩:=ih (c+1) f rows bs ps pv DN h5 (by omega) (by omega) hl hw es5 pv5 (by omega)
    refine⟨h',bs',B9,DJ,?_,r2⟩
    unfold ed gu
    dsimp only
    rw[ab (a2.cell rfl),ah (s:=⟨some ⟨hb,0,none⟩,rows.length,rows.length⟩) (es5.UC.cell rfl),if_pos (by simp)]
    unfold dr
    rw[av (c+1) (by push_cast;rfl) (by omega)]
    exact r1
   |some K=>
    rw[hpk] at a2
    have a2:OB h5 h1.next [.int .i64 (K:Int)]:=a2
    obtain⟨p1,p2,p3,_⟩:=Fld.vz _ hpk
    have hgj:(FD.aB hg).oe (d+1) c rows ps=(FD.aB hg).oe d (c+1) ((FD.aB hg).cW rows ps.length K c) (ps++[c]):=by conv=>lhs;unfold Fld.oe;rw[hpk]
    rw[hgj]
    obtain⟨h6,bs6,pv6,XM,s1,s2,s3⟩:=amS (fl:=fl) (k:=k) hg (dr M fl k (fT M fl k kn f) kn) gf hw (show c<w by omega) Sx (by omega) bN (cols:Int) DN es5 pv5 o1 f1 a2 f2 cf ⟨p1,by omega⟩ p3 ayi (by omega) (by omega)
    obtain⟨h',bs',B9,DJ,r1,r2⟩:=ih (c+1) f ((FD.aB hg).cW rows ps.length K c) bs6 (ps++[c]) pv6 XM h6 (by omega) (by omega) (by rw[Fld.fM];exact hl) (Fld.eG.step _ hw c cf (by omega)) s2 s3 (by simp;omega)
    refine⟨h',bs',B9,DJ,?_,r2⟩
    refine Eq.trans s1 ?_
    unfold dr
    rw[av (c+1) (by push_cast;rfl) (by omega)]
    exact r1
  ·rw[if_neg (by simp;omega)]
   have hgj:(FD.aB hg).oe (d+1) c rows ps=(rows,ps):=Fld.Qu _ _ _ _ _ (by omega)
   rw[hgj]
   exact⟨h,bs,pv,DN,rfl,es,pvh⟩
end
end Go.Abs.P
end
section
namespace Go.Fld.Fld
variable{α:Type}(F:Fld α)
theorem amT(n c:Nat)(rows:List (List α))(ps:List Nat)(h:ps.length≤rows.length):(F.oe n c rows ps).2.length≤rows.length:=by
 induction n generalizing c rows ps with
 |zero=>exact h
 |succ n ih=>
  unfold oe
  split
  ·exact ih _ _ _ h
  ·rename_i K hK
   have:=F.vz hK
   have h2:=ih (c+1) (F.cW rows ps.length K c) (ps++[c]) (by rw[fM];simp;omega)
   rwa[fM] at h2
theorem agi{w:Nat}(n c:Nat)(rows:List (List α))(ps:List Nat)(h:eG w rows)(hps:ps.length≤rows.length):eG w (F.oe n c rows ps).1:=by
 induction n generalizing c rows ps with
 |zero=>exact h
 |succ n ih=>
  unfold oe
  split
  ·exact ih _ _ _ h hps
  ·rename_i K hK
   have:=F.vz hK
   exact ih _ _ _ (eG.step F h c (by omega) (by omega)) (by rw[fM];simp;omega)
end Go.Fld.Fld
namespace Go.Abs.P
open Go.Abs Go.Fld
section
variable{D:FD}{gen:Nat}(hg:D.aJ gen){h0 h:AH}{g:Addr}{fl hb:Nat}{bs:List (Nat×Nat)}{rows:List (List (El D))}
theorem ah6(gf:GF h0 g D gen){w cols:Nat}(hcw:cols≤w)(Sx:w≤65536)(bN:fl≤h0.next)(hn:rows.length≤65536)(hw:Fld.eG w rows)(q:ai h0 h)(mx:Mx h0.next h hb bs (rows.map vl) []):
 ∃h' bs' pv DN,M fl fn.fS [.pointer (some g),.slice (some ⟨hb,0,none⟩) rows.length rows.length,.int .i64 (cols:Int),.slice none 0 0] h=some (.tuple ⟨[.slice pv.a pv.l pv.c,.int .i64 DN]⟩,h')∧
  ai h0 h'∧Mx h0.next h' hb bs' (((FD.aB hg).oe cols 0 rows []).1.map vl) []∧OV h0.next h' pv (iv (ints ((FD.aB hg).oe cols 0 rows []).2)):=by
 have hn0:=q.1
 have o1:=OB.alloc h [Value.pointer (some g)]
 have q1:=ai.alloc h [Value.pointer (some g)]
 generalize e1:h.alloc [Value.pointer (some g)]=h1 at o1 q1
 have o2:=OB.alloc h1 [Value.slice (some ⟨hb,0,none⟩) rows.length rows.length]
 have q2:=ai.alloc h1 [Value.slice (some ⟨hb,0,none⟩) rows.length rows.length]
 generalize e2:h1.alloc [Value.slice (some ⟨hb,0,none⟩) rows.length rows.length]=h2 at o2 q2
 have o3:=OB.alloc h2 [Value.slice none 0 0]
 have q3:=ai.alloc h2 [Value.slice none 0 0]
 generalize e3:h2.alloc [Value.slice none 0 0]=h3 at o3 q3
 have l1:=o1.1
 have l2:=o2.1
 have hhl:=mx.NL.1
 have hbl:∀b∈bs,b.1<h.next:=fun b tY=>by
  obtain⟨j,hj,rfl⟩:=List.getElem_of_mem tY
  exact(mx.row j hj (by rw[←mx.len];exact hj)).1
 have hq:=(q1.trans q2).trans q3
 have es:ES h0 h3 g hb bs rows h.next h1.next h2.next:=⟨q.trans hq,mx.quiet hq,(o1.quiet q2).quiet q3,o2.quiet q3,o3,⟨by omega,by omega,by omega⟩,fun b tY=>by have:=hbl b tY;exact⟨by omega,by omega,by omega⟩,⟨by omega,by omega,by omega⟩⟩
 have pvn:PV (D:=D) h0 h3 hb bs h.next h1.next h2.next ⟨none,0,0⟩ []:=⟨OV.nil _ _,fun a ha=>by cases ha⟩
 obtain⟨h',bs',B9,DJ,r1,r2,r3⟩:=ah5 (fl:=fl) (k:=rows.length+cols+1) hg (LD M fl (rows.length+cols+1) (fun(y8:Sl) (y9:Int) q=>some (Value.tuple ⟨[.slice y8.a y8.l y8.c,.int .i64 y9]⟩,q))) gf hcw Sx bN (n:=rows.length) hn (by omega) cols 0 (rows.length+cols+1) rows bs [] ⟨none,0,0⟩ (FD.aB hg).one h3 (by omega) (by omega) rfl hw es pvn (Nat.zero_le _)
 refine⟨h',bs',B9,ve DJ,aX (k:=rows.length+cols+1) (by decide) wW ?_,r2.q,r2.mx,r3.ov⟩
 rw[tS (p1:=⟨some ⟨hb,0,none⟩,rows.length,rows.length⟩) (p3:=⟨none,0,0⟩)]
 unfold fS alR WE cU
 dsimp only
 rw[e1,e2,e3]
 exact r1
theorem axi{n0:Nat}{h':AH}{rs:List (List Int)}(mx:Mx n0 h' hb bs rs []){n c:Nat}(hn:n≤rs.length):RRf n0 h' ⟨some ⟨hb,0,none⟩,n,c⟩ (rs.take n):=by
 refine⟨⟨by simp;omega,fun i hi=>?_⟩,fun a ha=>by cases ha;exact mx.gh,fun i hi a t ha ht q hq=>?_⟩
 ·have By:i<rs.length:=by simp at hi;omega
  have Sw:i<bs.length:=by rw[mx.len];exact By
  refine⟨_,⟨some ⟨(bs[i]).1,0,none⟩,(rs[i]).length,(bs[i]).2⟩,rfl,mx.NL.1,?_,?_⟩
  ·rw[Nat.zero_add,mx.cell By];rfl
  ·have:=(mx.row i Sw By).si none (bs[i]).2
   simpa using this
 ·cases ha
  have By:i<rs.length:=by simp at hi;omega
  have Sw:i<bs.length:=by rw[mx.len];exact By
  simp only[Nat.zero_add,mx.cell By,hv,Sl.v,Option.some.injEq,Value.slice.injEq] at ht
  rw[←ht.1] at hq
  cases hq
  exact(mx.ge _ (List.getElem_mem Sw)).1
theorem H0(gf:GF h g D gen){s:Sl}{w:Nat}(hs:RR h s (rows.map vl))(hw1:0<w)(Sx:w≤65536)(bN:fl≤h.next)(hn:rows.length≤65536)(hw:Fld.eG w rows):
 ∃(h':AH) (s' pv:Sl),M fl fn.gZ [.pointer (some g),.slice s.a s.l s.c,.int .i64 (w:Int)] h=some (.tuple ⟨[.slice s'.a s'.l s'.c,.slice pv.a pv.l pv.c]⟩,h')∧
  ai h h'∧RRf h.next h' s' (((FD.aB hg).aL rows w).1.map vl)∧OV h.next h' pv (iv (ints ((FD.aB hg).aL rows w).2)):=by
 obtain⟨h1,bs,c1,c2,c3⟩:=adb (fl:=fl) hs bN (fun r hr=>by
  obtain⟨r',hr',rfl⟩:=List.mem_map.1 hr
  have:=hw r' hr'
  refine⟨fun e=>?_,by simp;omega⟩
  have hl:(vl r').length=0:=by rw[e];rfl
  rw[fU] at hl;omega) (by simpa using hn)
 rw[List.length_map] at c1
 obtain⟨h',bs',pv,DN,e1,e2,e3,e4⟩:=ah6 (fl:=fl) hg gf (w:=w) (cols:=w) (Nat.le_refl _) Sx bN hn hw c3 c2
 have hps:=(FD.aB hg).amT w 0 rows [] (Nat.zero_le _)
 have hlen:=(FD.aB hg).vR w 0 rows []
 refine⟨h',⟨some ⟨h.next,0,none⟩,((FD.aB hg).oe w 0 rows []).2.length,((FD.aB hg).oe w 0 rows []).2.length⟩,pv,aX (k:=1) (by decide) Dm ?_,e2,?_,e4⟩
 ·rw[zj]
  unfold gZ ak2
  rw[ag c1]
  simp only[bB]
  rw[ag e1]
  simp only[bj,aG,ch,bB,asInt,if_true]
  have H6:pv.l=((FD.aB hg).oe w 0 rows []).2.length:=by have:=e4.len;simpa using this
  rw[H6]
  unfold sub
  rw[if_pos (by unfold nZ;simp;omega)]
  simp only[Option.getD_none,Option.getD_some]
  rw[if_pos (by omega)]
  by_cases hz:((FD.aB hg).oe w 0 rows []).2.length=0
  ·rw[hz];simp
  ·rw[if_neg (by omega)];simp
 ·unfold Fld.aL
  rw[List.map_take]
  exact axi e3 (by rw[List.length_map,hlen];exact hps)
theorem Xz{R:Type}{k:Nat}(kn:ar R)(kr:ae R)(gf:GF h g D gen){s:Sl}{xs:List Int}(hs:SI h s xs)(hm:xs.length≤65536):
 ∀(d i f:Nat),i+d=xs.length→d<f→zl M fl k kn kr f (some g) s (xs.length:Int) (i:Int) h=if (xs.drop i).all (L3 D)=true then kn h else kr 2 h:=by
 intro d
 induction d with
 |zero=>
  intro i f hi hf
  obtain⟨f,rfl⟩:∃j,f=j+1:=⟨f-1,by omega⟩
  show qS M fl k _ _ _ _ _ _ _ h=_
  unfold qS
  rw[if_neg (by simp;omega),List.drop_of_length_le (by omega)];rfl
 |succ d ih=>
  intro i f hi hf
  obtain⟨f,rfl⟩:∃j,f=j+1:=⟨f-1,by omega⟩
  show qS M fl k _ _ _ _ _ _ _ h=_
  unfold qS
  rw[if_pos (by simp;omega),hs.read (by omega) (by simp;omega)]
  simp only[Int.toNat_natCast]
  rw[ag (agd gf _)]
  simp only[asBool]
  rw[List.drop_eq_getElem_cons (show i<xs.length by omega),List.all_cons]
  by_cases c:L3 D xs[i]=true
  ·rw[if_neg (by simp[c]),c,Bool.true_and,av (i+1) (by push_cast;rfl) (by omega)]
   exact ih (i+1) f (by omega) (by omega)
  ·rw[if_pos (by simp[c]),if_neg (by simp[c])]
theorem XA(gf:GF h g D gen){s:Sl}{xs:List Int}(hs:SI h s xs)(hm:xs.length≤65536):M fl fn.jk [.pointer (some g),.slice s.a s.l s.c] h=some (.int .i64 (if xs.all (L3 D)=true then 0 else 2),h):=by
 refine aX (k:=xs.length+1) (by decide) zZ ?_
 rw[wv]
 unfold jk alb V8 V7
 rw[hs.len]
 have:=Xz (fl:=fl) (k:=xs.length+1) (Ls M fl (xs.length+1) (fun(y4:Int) q=>some (Value.int .i64 y4,q))) (fun(y4:Int) q=>some (Value.int .i64 y4,q)) gf hs hm xs.length 0 (xs.length+1) (by omega) (by omega)
 refine Eq.trans this ?_
 rw[List.drop_zero]
 split<;>rfl
def dt(D:FD)(cols:Int)(rows:List (List Int)):Int:=
 if cols<0∨cols>256∨rows.length>256 then 3 else if rows.all (fun r=>decide ((r.length:Int)=cols))=true then (if rows.all (fun r=>r.all (L3 D))=true then 0 else 2) else 3
theorem ah7{R:Type}{k:Nat}(kn:JZ R)(kr:ae R){bx:Nat}{vs:List Value}{cols:Int}(hx:OB h bx (.int .i64 cols::vs)){s:Sl}{rs:List (List Int)}(hs:RR h s rs)(hm:rs.length≤65536)(go:OA):
 ∀(d i f:Nat),i+d=rs.length→d<f→zE M fl k kn kr f go ⟨bx,0,none⟩ s (rs.length:Int) (i:Int) h=if (rs.drop i).all (fun r=>decide ((r.length:Int)=cols))=true then kn go ⟨bx,0,none⟩ h else kr 3 h:=by
 intro d
 induction d with
 |zero=>
  intro i f hi hf
  obtain⟨f,rfl⟩:∃j,f=j+1:=⟨f-1,by omega⟩
  show rn M fl k _ _ _ _ _ _ _ _ h=_
  unfold rn
  rw[if_neg (by simp;omega),List.drop_of_length_le (by omega)];rfl
 |succ d ih=>
  intro i f hi hf
  obtain⟨f,rfl⟩:∃j,f=j+1:=⟨f-1,by omega⟩
  have nw:i<rs.length:=by omega
  obtain⟨t,ht1,ht2⟩:=hs.read nw
  show rn M fl k _ _ _ _ _ _ _ _ h=_
  unfold rn
  rw[if_pos (by simp;omega),ht2,ab (hx.cell rfl),ht1.len,List.drop_eq_getElem_cons nw,List.all_cons]
  by_cases c:(rs[i].length:Int)=cols
  ·have e:decide ((rs[i].length:Int)=cols)=true:=by simp[c]
   rw[if_neg (by simp[c]),e,Bool.true_and,av (i+1) (by push_cast;rfl) (by omega)]
   exact ih (i+1) f (by omega) (by omega)
  ·rw[if_pos (by simp[c]),if_neg (by simp[c])]
theorem ah8{R:Type}{k:Nat}(kn:ar R)(kr:ae R)(gf:GF h g D gen){s:Sl}{rs:List (List Int)}(hs:RR h s rs)(hm:rs.length≤65536)(hw:∀r∈rs,r.length≤65536):
 ∀(d i f:Nat),i+d=rs.length→d<f→mE M fl k kn kr f (some g) s (rs.length:Int) (i:Int) h=if (rs.drop i).all (fun r=>r.all (L3 D))=true then kn h else kr 2 h:=by
 intro d
 induction d with
 |zero=>
  intro i f hi hf
  obtain⟨f,rfl⟩:∃j,f=j+1:=⟨f-1,by omega⟩
  show iG M fl k _ _ _ _ _ _ _ h=_
  unfold iG
  rw[if_neg (by simp;omega),List.drop_of_length_le (by omega)];rfl
 |succ d ih=>
  intro i f hi hf
  obtain⟨f,rfl⟩:∃j,f=j+1:=⟨f-1,by omega⟩
  have nw:i<rs.length:=by omega
  obtain⟨t,ht1,ht2⟩:=hs.read nw
  show iG M fl k _ _ _ _ _ _ _ h=_
  unfold iG
  rw[if_pos (by simp;omega),ht2,ag (XA gf ht1 (hw _ (List.getElem_mem nw)))]
  simp only[asInt,if_true]
  rw[List.drop_eq_getElem_cons nw,List.all_cons]
  by_cases c:rs[i].all (L3 D)=true
  ·rw[if_pos c,if_neg (by simp),c,Bool.true_and,av (i+1) (by push_cast;rfl) (by omega)]
   exact ih (i+1) f (by omega) (by omega)
  ·rw[if_neg c,if_pos (by simp),if_neg (by simp[c])]
theorem aa8(gf:GF h g D gen){s:Sl}{rs:List (List Int)}(cols:Int)(hs:RR h s rs)(hm:rs.length≤65536)(hw:∀r∈rs,r.length≤65536):
 ∃h',M fl fn.lx [.pointer (some g),.agg ⟨[.int .i64 cols,.slice s.a s.l s.c]⟩] h=some (.int .i64 (dt D cols rs),h')∧ai h h':=by
 have du:=OB.alloc h [.int .i64 cols,.slice s.a s.l s.c]
 have eF:=ai.alloc h [.int .i64 cols,.slice s.a s.l s.c]
 generalize eB:h.alloc [.int .i64 cols,.slice s.a s.l s.c]=h1 at du eF
 refine⟨h1,aX (k:=rs.length+1) (by decide) Du ?_,eF⟩
 rw[zF]
 unfold lx alN WB cU
 rw[eB]
 dsimp only
 unfold dt
 rw[ab (du.cell rfl)]
 by_cases c1:cols<0
 ·rw[if_neg (by simp[c1]),if_pos (.inl c1)]
 ·rw[if_pos (by simp;omega),ab (du.cell rfl)]
  by_cases c2:cols>256
  ·rw[if_neg (by simp;omega),if_pos (by omega)]
  ·rw[if_pos (by simp;omega),ah (s:=s) (du.cell rfl),hs.len]
   by_cases c3:rs.length>256
   ·rw[if_pos (by simp;omega),if_pos (by omega)]
   ·rw[if_neg (by simp;omega),if_neg (by omega),ah (s:=s) (du.cell rfl),hs.len]
    unfold WA
    have l1:=ah7 (fl:=fl) (k:=rs.length+1) (EC M fl (rs.length+1) (fun(y4:Int) q=>some (Value.int .i64 y4,q))) (fun(y4:Int) q=>some (Value.int .i64 y4,q)) du (hs.quiet eF) hm (some g) rs.length 0 (rs.length+1) (by omega) (by omega)
    refine Eq.trans l1 ?_
    rw[List.drop_zero]
    split
    ·unfold EC A8 Df
     dsimp only
     rw[ah (s:=s) (du.cell rfl),hs.len]
     have l2:=ah8 (fl:=fl) (k:=rs.length+1) (yr M fl (rs.length+1) (fun(y4:Int) q=>some (Value.int .i64 y4,q))) (fun(y4:Int) q=>some (Value.int .i64 y4,q)) (gf.quiet eF) (hs.quiet eF) hm hw rs.length 0 (rs.length+1) (by omega) (by omega)
     refine Eq.trans l2 ?_
     rw[List.drop_zero]
     split<;>rfl
    ·rfl
end
end Go.Abs.P
end
section
namespace Go.Abs
theorem OB.w7{R:Type}{h:AH}{b:Nat}{vs xs:List Value}(p:OB h b vs){fl:Nat}(bN:fl≤b)(hl:xs.length=vs.length)(h0:0<xs.length)(hx:xs.all yC=true)(K:AH→Option R):
 Abs.st fl h ⟨b,0,none⟩ xs K=K (h.put b (some xs)):=by
 unfold Abs.st
 simp only[p.gR,if_pos bN]
 rw[if_pos h0,if_pos (by omega),if_pos hx,R5 _ _ _ (by omega)]
 simp
theorem PQ{fl:Nat}{h:AH}(v0 v:List Value)(bN:fl≤h.next)(hl:v.length=v0.length)(h0:0<v.length)(hv:v.all yC=true):∃h2,(∀{R:Type} (K:Nat→AH→Option R),(cU h v0 fun b h1=>st fl h1 ⟨b,0,none⟩ v fun h2=>K b h2)=K h.next h2)∧OB h2 h.next v∧ai h h2:=by
 have o:=OB.alloc h v0
 refine⟨(h.alloc v0).put h.next (some v),fun K=>?_,o.put _,(ai.alloc ..).put (Nat.le_refl _) _⟩
 show st fl (h.alloc v0) ⟨h.next,0,none⟩ v _=_
 rw[o.w7 bN hl h0 hv]
end Go.Abs
namespace Go.Abs.P
open Go.Abs Go.Fld
theorem tW{D:FD}{cols:Int}{rs:List (List Int)}(h:dt D cols rs=0):0≤cols∧cols≤256∧rs.length≤256∧∃rows:List (List (El D)),rs=rows.map vl∧Fld.eG cols.toNat rows:=by
 unfold dt at h
 split at h
 ·cases h
 ·rename_i c1
  split at h
  ·rename_i c2
   split at h
   ·rename_i c3
    refine⟨by omega,by omega,by omega,?_⟩
    simp only[List.all_eq_true,decide_eq_true_eq] at c2 c3
    have key:∀rs:List (List Int),(∀r∈rs,(r.length:Int)=cols)→(∀r∈rs,∀x∈r,L3 D x=true)→∃rows:List (List (El D)),rs=rows.map vl∧Fld.eG cols.toNat rows:=by
     intro rs
     induction rs with
     |nil=>intro _ _;exact⟨[],rfl,fun r hr=>by cases hr⟩
     |cons r rs ih=>
      intro h1 h2
      obtain⟨rows,e1,e2⟩:=ih (fun x hx=>h1 x (List.mem_cons_of_mem _ hx)) (fun x hx=>h2 x (List.mem_cons_of_mem _ hx))
      obtain⟨l,e3⟩:=axg (h2 r (List.mem_cons_self ..))
      refine⟨l::rows,by rw[List.map_cons,←e1,←e3],fun x hx=>?_⟩
      rcases List.mem_cons.1 hx with rfl|hx
      ·have:=h1 r (List.mem_cons_self ..)
       rw[e3,fU] at this;omega
      ·exact e2 x hx
    exact key rs c2 c3
   ·cases h
  ·cases h
section
variable{fl:Nat}{h:AH}{mod:Sl}{xs:List Int}
theorem Sd(p m:Int)(bF:SI h mod xs)(hb:xs.length≤mh)(bN:fl≤h.next){b:Nat}{cols:Int}{s:Sl}{rs:List (List Int)}(ob:OB h b [.int .i64 cols,.slice s.a s.l s.c])(hs:RR h s rs)(hm:rs.length≤65536)(hw:∀r∈rs,r.length≤65536):
 ∃h',ai h h'∧((¬uU p m xs∧M fl fn.c7 [.agg ⟨[.int .i64 p,.int .i64 m,.slice mod.a mod.l mod.c]⟩,.slice (some ⟨b,0,none⟩) 1 1] h=some (.tuple ⟨[.pointer none,.int .i64 1]⟩,h'))∨
  (∃D gen g,PN p m xs D∧GF h' g D gen∧h.next≤g.block∧M fl fn.c7 [.agg ⟨[.int .i64 p,.int .i64 m,.slice mod.a mod.l mod.c]⟩,.slice (some ⟨b,0,none⟩) 1 1] h=some (.tuple ⟨[.pointer (if dt D cols rs=0 then some g else none),.int .i64 (dt D cols rs)]⟩,h'))):=by
 have du:=OB.alloc h [.int .i64 p,.int .i64 m,.slice mod.a mod.l mod.c]
 have eF:=ai.alloc h [.int .i64 p,.int .i64 m,.slice mod.a mod.l mod.c]
 generalize eB:h.alloc [.int .i64 p,.int .i64 m,.slice mod.a mod.l mod.c]=h1 at du eF
 have go:∀{r},c7 M fl 3 p m mod ⟨some ⟨b,0,none⟩,1,1⟩ h=some r→M fl fn.c7 [.agg ⟨[.int .i64 p,.int .i64 m,.slice mod.a mod.l mod.c]⟩,.slice (some ⟨b,0,none⟩) 1 1] h=some r:=by
  intro r he
  refine aX (k:=3) (by decide) FI ?_
  rw[BM (p1:=⟨some ⟨b,0,none⟩,1,1⟩)];exact he
 obtain⟨h2,q2,hN⟩:=Sb (fl:=fl) p m (bF.quiet eF) hb (by have:=eF.1;omega)
 have lV:=eF.trans q2
 rcases hN with⟨nf,e⟩|⟨D,gen,g,hF,gf,gb,e⟩
 ·refine⟨h2,lV,.inl ⟨nf,go ?_⟩⟩
  unfold c7 ae0 Ri cU
  rw[eB]
  dsimp only
  rw[ab (du.cell rfl),ab (du.cell rfl),ah (s:=mod) (du.cell rfl),ag e]
  simp only[bj,aG,ch,fV,asInt,if_true]
  rw[if_pos (by simp)]
 ·have ob2:=ob.quiet lV
  obtain⟨h3,k3,ob3,q3⟩:=PQ (fl:=fl) (h:=h2) [.int .i64 0,.slice none 0 0] [.int .i64 cols,.slice s.a s.l s.c] (by have:=lV.1;omega) rfl (by simp) rfl
  obtain⟨h4,c1,c2⟩:=aa8 (fl:=fl) (gf.quiet q3) cols (hs.quiet (lV.trans q3)) hm hw
  have gf4:=(gf.quiet q3).quiet c2
  have un:c7 M fl 3 p m mod ⟨some ⟨b,0,none⟩,1,1⟩ h=if (dt D cols rs !=0)=true then some (.tuple ⟨[.pointer none,.int .i64 (dt D cols rs)]⟩,h4) else some (.tuple ⟨[.pointer (some g),.int .i64 0]⟩,h4):=by
   unfold c7 ae0 Ri cU
   rw[eB]
   dsimp only
   rw[ab (du.cell rfl),ab (du.cell rfl),ah (s:=mod) (du.cell rfl),ag e]
   simp only[bj,aG,ch,fV,asInt,if_true]
   rw[if_neg (by simp)]
   unfold V1
   show qQ M fl 3 (vC M fl 3 (Er M fl 3 _) _ 2) _ _ _ _ _ _ h2=_
   unfold qQ
   rw[if_pos (by simp)]
   have au6:∀{R:Type} (K:Addr→Option R),idx 2 (⟨some ⟨b,0,none⟩,1,1⟩:Sl) 0 K=K ⟨b,0,none⟩:=by
    intro R K
    unfold idx
    simp
   rw[au6]
   dsimp only
   rw[ab (ob2.cell rfl),ah (s:=s) (ob2.cell rfl),k3,ab (ob3.cell rfl),ah (s:=s) (ob3.cell rfl),ag c1]
   simp only[asInt,if_true]
   split
   ·rfl
   ·show qQ M fl 3 (vC M fl 3 (Er M fl 3 _) _ 1) _ _ _ _ _ _ h4=_
    unfold qQ
    rw[show bL (0+1)=1 from by rw[jf (by omega) (by omega)];rfl,if_neg (by simp)]
    rfl
  refine⟨h4,(lV.trans q3).trans c2,.inr ⟨D,gen,g,hF,gf4,by have:=eF.1;omega,go (un.trans ?_)⟩⟩
  by_cases c:dt D cols rs=0
  ·rw[if_neg (by simp[c]),if_pos c,c]
  ·rw[if_pos (by simp[c]),if_neg c]
inductive az3 (h h':AH) (p m:Int) (xs:List Int) (cols:Int) (rs:List (List Int)) (v:Value):Prop where
 |jv (nf:¬uU p m xs) (e:v=.tuple ⟨[.agg ⟨[.int .i64 0,.slice none 0 0]⟩,.slice none 0 0,.int .i64 1]⟩)
 |bad (D:FD) (gen:Nat) (hF:PN p m xs D) (hg:D.aJ gen) (ne:dt D cols rs≠0) (e:v=.tuple ⟨[.agg ⟨[.int .i64 0,.slice none 0 0]⟩,.slice none 0 0,.int .i64 (dt D cols rs)]⟩)
 |ok (D:FD) (gen:Nat) (hF:PN p m xs D) (hg:D.aJ gen) (rows:List (List (El D))) (er:rs=rows.map vl) (wid:Fld.eG cols.toNat rows) (z:dt D cols rs=0) (s' pv:Sl)
  (rr:RRf h.next h' s' (((FD.aB hg).aL rows cols.toNat).1.map vl)) (ov:OV h.next h' pv (iv (ints ((FD.aB hg).aL rows cols.toNat).2))) (e:v=.tuple ⟨[.agg ⟨[.int .i64 cols,.slice s'.a s'.l s'.c]⟩,.slice pv.a pv.l pv.c,.int .i64 0]⟩)
theorem Se(p m:Int)(bF:SI h mod xs)(hb:xs.length≤mh)(bN:fl≤h.next){cols:Int}{s:Sl}{rs:List (List Int)}(hs:RR h s rs)(hm:rs.length≤65536)(hw:∀r∈rs,r.length≤65536)(hc:cols≠0):
 ∃h' v,M fl fn.cF [.agg ⟨[.int .i64 p,.int .i64 m,.slice mod.a mod.l mod.c]⟩,.agg ⟨[.int .i64 cols,.slice s.a s.l s.c]⟩] h=some (v,h')∧ai h h'∧az3 h h' p m xs cols rs v:=by
 have o1:=OB.alloc h [.int .i64 p,.int .i64 m,.slice mod.a mod.l mod.c]
 have q1:=ai.alloc h [.int .i64 p,.int .i64 m,.slice mod.a mod.l mod.c]
 generalize eB:h.alloc [.int .i64 p,.int .i64 m,.slice mod.a mod.l mod.c]=h1 at o1 q1
 have o2:=OB.alloc h1 [.int .i64 cols,.slice s.a s.l s.c]
 have q2:=ai.alloc h1 [.int .i64 cols,.slice s.a s.l s.c]
 generalize Mg:h1.alloc [.int .i64 cols,.slice s.a s.l s.c]=h2 at o2 q2
 have o3:=OB.alloc h2 [.int .i64 0,.slice none 0 0]
 have q3:=ai.alloc h2 [.int .i64 0,.slice none 0 0]
 generalize hh3:h2.alloc [.int .i64 0,.slice none 0 0]=h3 at o3 q3
 have o4:=OB.alloc h3 [.int .i64 cols,.slice s.a s.l s.c]
 have q4:=ai.alloc h3 [.int .i64 cols,.slice s.a s.l s.c]
 generalize hh4:h3.alloc [.int .i64 cols,.slice s.a s.l s.c]=h4 at o4 q4
 have q14:=((q1.trans q2).trans q3).trans q4
 have l1:=q1.1
 have l2:=q2.1
 have l3:=q3.1
 have l4:=q4.1
 have l3':=o3.1
 obtain⟨h5,q5,hO⟩:=Sd (fl:=fl) p m (bF.quiet q14) hb (by omega) o4 (hs.quiet q14) hm hw
 have go:∀{r},cF M fl 1 p m mod cols s h=some r→M fl fn.cF [.agg ⟨[.int .i64 p,.int .i64 m,.slice mod.a mod.l mod.c]⟩,.agg ⟨[.int .i64 cols,.slice s.a s.l s.c]⟩] h=some r:=by
  intro r he
  refine aX (k:=1) (by decide) wU ?_
  rw[tP];exact he
 have k9:=(((o1.quiet q2).quiet q3))
 have KO:=(o2.quiet q3)
 have o3':=(o3.quiet q4).quiet q5
 have errw:∀(e:Int) (pt:OA),e≠0→M fl fn.c7 [.agg ⟨[.int .i64 p,.int .i64 m,.slice mod.a mod.l mod.c]⟩,.slice (some ⟨h3.next,0,none⟩) 1 1] h4=some (.tuple ⟨[.pointer pt,.int .i64 e]⟩,h5)→
  cF M fl 1 p m mod cols s h=some (.tuple ⟨[.agg ⟨[.int .i64 0,.slice none 0 0]⟩,.slice none 0 0,.int .i64 e]⟩,h5.put h2.next (some [.int .i64 0,.slice none 0 0])):=by
  intro e pt he hop
  unfold cF aeE cU
  rw[eB]
  dsimp only
  rw[Mg,hh3,ab (k9.cell rfl),ab (k9.cell rfl),ah (s:=mod) (k9.cell rfl),ab (KO.cell rfl),ah (s:=s) (KO.cell rfl),hh4,ag hop]
  simp only[bj,aG,ch,fV,asInt,if_true]
  rw[if_pos (by simp[he]),o3'.w7 (by omega) rfl (by simp) rfl]
  have FT:OB (h5.put h2.next (some [.int .i64 0,.slice none 0 0])) h2.next [.int .i64 0,.slice none 0 0]:=o3'.put _
  rw[ab (FT.cell rfl),ah (s:=⟨none,0,0⟩) (FT.cell rfl)]
 have qe:ai h (h5.put h2.next (some [.int .i64 0,.slice none 0 0])):=(q14.trans q5).put (by omega) _
 rcases hO with⟨nf,e⟩|⟨D,gen,g,hF,gf,gb,e⟩
 ·exact⟨_,_,go (errw 1 none (by omega) e),qe,.jv nf rfl⟩
 ·by_cases c:dt D cols rs=0
  ·rw[if_pos c,c] at e
   obtain⟨c0,c1,c2,rows,er,wid⟩:=tW c
   have nY:=gf.O3
   have hs5:=hs.quiet (q14.trans q5)
   rw[er] at hs5 c2
   obtain⟨h6,s',pv,r1,r2,r3,r4⟩:=H0 (fl:=fl) (w:=cols.toNat) nY gf hs5 (by omega) (by omega) (by have:=q5.1;omega) (by simp at c2;omega) wid
   have hct:((cols.toNat:Nat):Int)=cols:=Int.toNat_of_nonneg c0
   rw[hct] at r1
   have TM:=((k9.quiet q4).quiet q5)
   have Mf:=(KO.quiet q4).quiet q5
   have anw:=o3'.quiet r2
   have FT:OB (h6.put h2.next (some [.int .i64 cols,.slice s'.a s'.l s'.c])) h2.next [.int .i64 cols,.slice s'.a s'.l s'.c]:=anw.put _
   have n5:=q5.1
   have q6:=(q14.trans q5).trans r2
   refine⟨h6.put h2.next (some [.int .i64 cols,.slice s'.a s'.l s'.c]),_,go ?_,q6.put (by omega) _,.ok D gen hF nY rows er wid c s' pv ?_ ?_ rfl⟩
   ·unfold cF aeE cU
    rw[eB]
    dsimp only
    rw[Mg,hh3,ab (k9.cell rfl),ab (k9.cell rfl),ah (s:=mod) (k9.cell rfl),ab (KO.cell rfl),ah (s:=s) (KO.cell rfl),hh4,ag e]
    simp only[bj,aG,ch,fV,asInt,if_true]
    rw[if_neg (by simp),ah (s:=s) (Mf.cell rfl),ab (Mf.cell rfl),ag r1]
    simp only[bj,aG,ch,bB]
    rw[ab ((Mf.quiet r2).cell rfl),anw.w7 (xs:=[.int .i64 cols,.slice s'.a s'.l s'.c]) (by omega) rfl (by simp) rfl,ab (FT.cell rfl),ah (s:=s') (FT.cell rfl)]
   ·exact(r3.AA (iL.put (o:=0) (t:=none) _) (by omega)).mono (by omega)
   ·exact(r4.acK (h':=h6.put h2.next (some [.int .i64 cols,.slice s'.a s'.l s'.c])) (Nat.le_refl _) (fun a ha=>U9 _ (by have:=r4.ge a ha;omega))).mono (by omega)
  ·rw[if_neg c] at e
   exact⟨_,_,go (errw _ none c e),qe,.bad D gen hF gf.O3 c rfl⟩
end
end Go.Abs.P
end
section
namespace Go.Abs
theorem bu{R:Type}{h h1:AH}{cs:List Value}(e:h.alloc cs=h1)(K:Nat→AH→Option R):cU h cs K=K h.next h1:=by subst e;rfl
end Go.Abs
namespace Go.Abs.P
open Go.Abs Go.Fld
section
variable{fl:Nat}{h:AH}
theorem ade{R:Type}{k:Nat}(kn:ar R)(kr:au R){s t:Sl}{xs ys:List Int}(hs:SI h s xs)(ht:SI h t ys)(hl:xs.length=ys.length)(hb:xs.length≤mh):
 ∀(d i m:Nat),i+d=xs.length→d<m→zw M fl k kn kr m s t (xs.length:Int) (i:Int) h=if xs.drop i=ys.drop i then kn h else kr false h:=by
 intro d
 induction d with
 |zero=>
  intro i m hi hm
  obtain⟨m,rfl⟩:∃j,m=j+1:=⟨m-1,by omega⟩
  show qY M fl k _ _ kr s t _ (i:Int) h=_
  unfold qY
  rw[if_neg (by simp;omega),List.drop_of_length_le (by omega),List.drop_of_length_le (by omega),if_pos rfl]
 |succ d ih=>
  intro i m hi hm
  obtain⟨m,rfl⟩:∃j,m=j+1:=⟨m-1,by omega⟩
  show qY M fl k _ _ kr s t _ (i:Int) h=_
  unfold qY
  rw[if_pos (by simp;omega),hs.read (by omega) (by simp;omega),ht.read (by omega) (by simp;omega)]
  simp only[Int.toNat_natCast]
  rw[List.drop_eq_getElem_cons (show i<xs.length by omega),List.drop_eq_getElem_cons (show i<ys.length by omega),fE (by omega)]
  by_cases e:xs[i]=ys[i]
  ·rw[if_neg (by simp[e]),ih (i+1) m (by omega) (by omega)]
   simp only[List.cons.injEq,e,true_and]
  ·rw[if_pos (by simp[e])]
   simp only[List.cons.injEq,e,false_and,if_false]
theorem adf{s t:Sl}{xs ys:List Int}(hs:SI h s xs)(ht:SI h t ys)(hb:xs.length≤mh):M fl fn.hS [.slice s.a s.l s.c,.slice t.a t.l t.c] h=some (.bool (decide (xs=ys)),h):=by
 refine aX (k:=xs.length+1) (by decide) Ds ?_
 rw[zx]
 unfold hS alz Wn
 by_cases hl:xs.length=ys.length
 ·rw[if_neg (by rw[hs.len,ht.len];simp[hl])]
  unfold Wm
  rw[hs.len]
  have:=ade (fl:=fl) (k:=xs.length+1) (EA M fl (xs.length+1) (fun(y4:Bool) q=>some (Value.bool y4,q))) (fun(y4:Bool) q=>some (Value.bool y4,q)) hs ht hl hb xs.length 0 (xs.length+1) (by omega) (by omega)
  refine this.trans ?_
  by_cases e:xs=ys
  ·simp[e,EA]
  ·simp[e]
 ·have e:xs≠ys:=fun e=>hl (by rw[e])
  rw[if_pos (by rw[hs.len,ht.len];simp;omega)]
  simp[e]
theorem amU{R:Type}{k:Nat}(kn:ar R)(kr:au R){s t:Sl}{xs ys:List (List Int)}(hs:RR h s xs)(ht:RR h t ys)(hl:xs.length=ys.length)(hb:xs.length≤mh)(hw:∀r∈xs,r.length≤mh):
 ∀(d i m:Nat),i+d=xs.length→d<m→zu M fl k kn kr m t (.func (.func fn.hS) ⟨[]⟩ ⟨[]⟩) s (xs.length:Int) (i:Int) h=if xs.drop i=ys.drop i then kn h else kr false h:=by
 intro d
 induction d with
 |zero=>
  intro i m hi hm
  obtain⟨m,rfl⟩:∃j,m=j+1:=⟨m-1,by omega⟩
  show qX M fl k _ _ kr _ _ _ _ (i:Int) h=_
  unfold qX
  rw[if_neg (by simp;omega),List.drop_of_length_le (by omega),List.drop_of_length_le (by omega),if_pos rfl]
 |succ d ih=>
  intro i m hi hm
  obtain⟨m,rfl⟩:∃j,m=j+1:=⟨m-1,by omega⟩
  have hix:i<xs.length:=by omega
  have hiy:i<ys.length:=by omega
  obtain⟨tx,a1,a2⟩:=hs.read hix
  obtain⟨ty,b1,b2⟩:=ht.read hiy
  show qX M fl k _ _ kr _ _ _ _ (i:Int) h=_
  unfold qX
  rw[if_pos (by simp;omega),a2,b2]
  unfold lX
  simp only[List.nil_append,List.append_nil]
  rw[adf a1 b1 (hw _ (List.getElem_mem hix))]
  simp only[asBool]
  rw[List.drop_eq_getElem_cons hix,List.drop_eq_getElem_cons hiy,fE (by omega)]
  by_cases e:xs[i]=ys[i]
  ·rw[if_neg (by simp[e]),ih (i+1) m (by omega) (by omega)]
   simp only[List.cons.injEq,e,true_and]
  ·rw[if_pos (by simp[e])]
   simp only[List.cons.injEq,e,false_and,if_false]
theorem amV{s t:Sl}{xs ys:List (List Int)}(hs:RR h s xs)(ht:RR h t ys)(hb:xs.length≤mh)(hw:∀r∈xs,r.length≤mh):M fl fn.fR [.slice s.a s.l s.c,.slice t.a t.l t.c,.func (.func fn.hS) ⟨[]⟩ ⟨[]⟩] h=some (.bool (decide (xs=ys)),h):=by
 refine aX (k:=xs.length+1) (by decide) wV ?_
 rw[tR]
 unfold fR alx Wk
 by_cases hl:xs.length=ys.length
 ·rw[if_neg (by rw[hs.len,ht.len];simp[hl])]
  unfold Wj
  rw[hs.len]
  have:=amU (fl:=fl) (k:=xs.length+1) (Ey M fl (xs.length+1) (fun(y4:Bool) q=>some (Value.bool y4,q))) (fun(y4:Bool) q=>some (Value.bool y4,q)) hs ht hl hb hw xs.length 0 (xs.length+1) (by omega) (by omega)
  refine this.trans ?_
  by_cases e:xs=ys
  ·simp[e,Ey]
  ·simp[e]
 ·have e:xs≠ys:=fun e=>hl (by rw[e])
  rw[if_pos (by rw[hs.len,ht.len];simp;omega)]
  simp[e]
inductive SpE (p m:Int) (xs:List Int) (cols:Int) (rs:List (List Int)) (e:Int):Prop where
 |jv (nf:¬uU p m xs) (he:e=1)
 |bad (D:FD) (gen:Nat) (hF:PN p m xs D) (hg:D.aJ gen) (ne:dt D cols rs≠0) (he:e=dt D cols rs)
 |form (D:FD) (gen:Nat) (hF:PN p m xs D) (hg:D.aJ gen) (rows:List (List (El D))) (er:rs=rows.map vl) (wid:Fld.eG cols.toNat rows) (z:dt D cols rs=0) (ne:((FD.aB hg).aL rows cols.toNat).1≠rows) (he:e=5)
 |ok (D:FD) (gen:Nat) (hF:PN p m xs D) (hg:D.aJ gen) (rows:List (List (El D))) (er:rs=rows.map vl) (wid:Fld.eG cols.toNat rows) (z:dt D cols rs=0) (eq:((FD.aB hg).aL rows cols.toNat).1=rows) (he:e=0)
theorem tX{D:FD}{a b:List (List (El D))}(h:a.map vl=b.map vl):a=b:=(List.map_inj_right (fun x y e=>auN e)).1 h
theorem SpE.unique{p m:Int}{xs:List Int}{cols:Int}{rs:List (List Int)}{e e':Int}(h:SpE p m xs cols rs e)(h':SpE p m xs cols rs e'):e=e':=by
 have aB:∀{D gen},PN p m xs D→D.aJ gen→uU p m xs:=fun h1 h2=>⟨_,_,h1,h2⟩
 cases h with
 |jv nf he=>cases h' with
  |jv nf' KP=>omega
  |bad D gen hF hg ne KP=>exact absurd (aB hF hg) nf
  |form D gen hF hg rows er wid z ne KP=>exact absurd (aB hF hg) nf
  |ok D gen hF hg rows er wid z eq KP=>exact absurd (aB hF hg) nf
 |bad D gen hF hg ne he=>cases h' with
  |jv nf' KP=>exact absurd (aB hF hg) nf'
  |bad D' Ai NO hg' ne' KP=>have:=cT hF NO;subst this;rw[he,KP]
  |form D' Ai NO hg' rows er wid z ne' KP=>have:=cT hF NO;subst this;exact absurd z ne
  |ok D' Ai NO hg' rows er wid z eq KP=>have:=cT hF NO;subst this;exact absurd z ne
 |form D gen hF hg rows er wid z ne he=>cases h' with
  |jv nf' KP=>exact absurd (aB hF hg) nf'
  |bad D' Ai NO hg' ne' KP=>have:=cT hF NO;subst this;exact absurd z ne'
  |form D' Ai NO hg' rows er wid z ne' KP=>omega
  |ok D' Ai NO hg' kZ er' avW z' eq KP=>
   have:=cT hF NO;subst this
   have:=tX (er.symm.trans er');subst this
   exact absurd eq ne
 |ok D gen hF hg rows er wid z eq he=>cases h' with
  |jv nf' KP=>exact absurd (aB hF hg) nf'
  |bad D' Ai NO hg' ne' KP=>have:=cT hF NO;subst this;exact absurd z ne'
  |form D' Ai NO hg' kZ er' avW z' ne KP=>
   have:=cT hF NO;subst this
   have:=tX (er.symm.trans er');subst this
   exact absurd eq ne
  |ok D' Ai NO hg' kZ er' avW z' eq' KP=>omega
variable{mod:Sl}{xs:List Int}
theorem adg(p m:Int)(bF:SI h mod xs)(hb:xs.length≤mh)(bN:fl≤h.next){cols:Int}{s:Sl}{rs:List (List Int)}(hs:RR h s rs)(hm:rs.length≤65536)(hw:∀r∈rs,r.length≤65536)(hc:cols≠0):
 ∃(h':AH) (pt:OA) (n:Int) (s1 s2:Sl) (e:Int),M fl fn.gm [.agg ⟨[.int .i64 p,.int .i64 m,.slice mod.a mod.l mod.c]⟩,.agg ⟨[.int .i64 cols,.slice s.a s.l s.c]⟩] h=some (.tuple ⟨[.agg ⟨[.pointer pt,.int .i64 n,.slice s1.a s1.l s1.c,.slice s2.a s2.l s2.c]⟩,.int .i64 e]⟩,h')∧ai h h'∧SpE p m xs cols rs e:=by
 have o1:=OB.alloc h [.int .i64 p,.int .i64 m,.slice mod.a mod.l mod.c]
 have q1:=ai.alloc h [.int .i64 p,.int .i64 m,.slice mod.a mod.l mod.c]
 generalize eB:h.alloc [.int .i64 p,.int .i64 m,.slice mod.a mod.l mod.c]=h1 at o1 q1
 have o2:=OB.alloc h1 [.int .i64 cols,.slice s.a s.l s.c]
 have q2:=ai.alloc h1 [.int .i64 cols,.slice s.a s.l s.c]
 generalize Mg:h1.alloc [.int .i64 cols,.slice s.a s.l s.c]=h2 at o2 q2
 have o3:=OB.alloc h2 [.pointer none,.int .i64 0,.slice none 0 0,.slice none 0 0]
 have q3:=ai.alloc h2 [.pointer none,.int .i64 0,.slice none 0 0,.slice none 0 0]
 generalize hh3:h2.alloc [.pointer none,.int .i64 0,.slice none 0 0,.slice none 0 0]=h3 at o3 q3
 have q13:=(q1.trans q2).trans q3
 have l1:=q1.1
 have l2:=q2.1
 have l3:=o3.1
 have k9:=(o1.quiet q2).quiet q3
 have KO:=o2.quiet q3
 obtain⟨h4,v,c1,c2,c3⟩:=Se (fl:=fl) p m (bF.quiet q13) hb (by omega) (hs.quiet q13) hm hw hc
 have go:∀{r},gm M fl 1 p m mod cols s h=some r→M fl fn.gm [.agg ⟨[.int .i64 p,.int .i64 m,.slice mod.a mod.l mod.c]⟩,.agg ⟨[.int .i64 cols,.slice s.a s.l s.c]⟩] h=some r:=by
  intro r he
  refine aX (k:=1) (by decide) Kx ?_
  rw[C7];exact he
 have l4:=c2.1
 have errw:∀(n:Int) (s1 s2:Sl) (e:Int),e≠0→v=.tuple ⟨[.agg ⟨[.int .i64 n,.slice s1.a s1.l s1.c]⟩,.slice s2.a s2.l s2.c,.int .i64 e]⟩→
  ∃h',gm M fl 1 p m mod cols s h=some (.tuple ⟨[.agg ⟨[.pointer none,.int .i64 0,.slice (none:OA) 0 0,.slice none 0 0]⟩,.int .i64 e]⟩,h')∧ai h h':=by
  intro n s1 s2 e he hv
  obtain⟨h5,k5,o5,q5⟩:=PQ (fl:=fl) (h:=h4) [.int .i64 0,.slice none 0 0] [.int .i64 n,.slice s1.a s1.l s1.c] (by omega) rfl (by simp) rfl
  have o3':=(o3.quiet c2).quiet q5
  have FT:OB (h5.put h2.next (some [.pointer none,.int .i64 0,.slice none 0 0,.slice none 0 0])) h2.next [.pointer none,.int .i64 0,.slice none 0 0,.slice none 0 0]:=o3'.put _
  refine⟨h5.put h2.next (some [.pointer none,.int .i64 0,.slice none 0 0,.slice none 0 0]),?_,((q13.trans c2).trans q5).put (by omega) _⟩
  unfold gm aeL
  rw[bu eB,bu Mg,bu hh3,ab (k9.cell rfl),ab (k9.cell rfl),ah (s:=mod) (k9.cell rfl),ab (KO.cell rfl),ah (s:=s) (KO.cell rfl),ag c1,hv]
  simp only[bj,aG,ch,asAgg,bB,asInt,if_true]
  rw[k5,if_pos (by simp[he]),o3'.w7 (xs:=[.pointer none,.int .i64 0,.slice none 0 0,.slice none 0 0]) (by omega) rfl (by simp) rfl,
   yl (s:=none) (FT.cell rfl),ab (FT.cell rfl),ah (s:=⟨none,0,0⟩) (FT.cell rfl),ah (s:=⟨none,0,0⟩) (FT.cell rfl)]
 cases c3 with
 |jv nf e=>
  obtain⟨h',r1,r2⟩:=errw 0 ⟨none,0,0⟩ ⟨none,0,0⟩ 1 (by omega) e
  exact⟨h',none,0,⟨none,0,0⟩,⟨none,0,0⟩,1,go r1,r2,.jv nf rfl⟩
 |bad D gen hF hg ne e=>
  obtain⟨h',r1,r2⟩:=errw 0 ⟨none,0,0⟩ ⟨none,0,0⟩ _ ne e
  exact⟨h',none,0,⟨none,0,0⟩,⟨none,0,0⟩,_,go r1,r2,.bad D gen hF hg ne rfl⟩
 |ok D gen hF hg rows er wid z s' pv rr ov e=>
  obtain⟨h5,k5,o5,q5⟩:=PQ (fl:=fl) (h:=h4) [.int .i64 0,.slice none 0 0] [.int .i64 cols,.slice s'.a s'.l s'.c] (by omega) rfl (by simp) rfl
  have q15:=(q13.trans c2).trans q5
  have o3':=(o3.quiet c2).quiet q5
  have Mf:=(KO.quiet c2).quiet q5
  have TM:=(k9.quiet c2).quiet q5
  have rr5:=(rr.quiet q5).rr
  have hs5:=hs.quiet q15
  obtain⟨c0,cc1,cc2,_⟩:=tW z
  have aCY:((FD.aB hg).aL rows cols.toNat).1.length≤65536:=by
   unfold Fld.aL
   simp only[List.length_take,Fld.vR]
   rw[er,List.length_map] at cc2;omega
  have hcw:∀r∈((FD.aB hg).aL rows cols.toNat).1.map vl,r.length≤mh:=by
   intro r hr
   obtain⟨r',hr',rfl⟩:=List.mem_map.1 hr
   have:=Fld.agi (FD.aB hg) cols.toNat 0 rows [] wid (Nat.zero_le _) r' (List.mem_of_mem_take hr')
   rw[fU,this];unfold mh;omega
  have heq:=amV (fl:=fl) rr5 hs5 (by rw[List.length_map];unfold mh;omega) hcw
  have pre:∀r,(if (!(decide (((FD.aB hg).aL rows cols.toNat).1.map vl=rs)))=true then st fl h5 ⟨h2.next,0,none⟩ [.pointer none,.int .i64 0,.slice none 0 0,.slice none 0 0] fun h39=>ldN h39 h2.next 0 fun p55=>aE .i64 h39 h2.next (0+1) fun n56=>bM h39 h2.next (0+1+1) fun s57=>bM h39 h2.next (0+1+1+1) fun s58=>some (Value.tuple ⟨[.agg ⟨[.pointer p55,.int .i64 n56,.slice s57.a s57.l s57.c,.slice s58.a s58.l s58.c]⟩,.int .i64 5]⟩,h39)
   else aC M fl fn.ff [.agg ⟨[.int .i64 p,.int .i64 m,.slice mod.a mod.l mod.c]⟩] h5 fun v43 h44=>bj v43 fun l45=>aG l45 fun v46 l47=>fV v46 fun p48=>aG l47 fun v49 l50=>asInt .i64 v49 fun n51=>ch l50 (aE .i64 h44 h1.next 0 fun n52=>bM h44 h1.next 1 fun s53=>st fl h44 ⟨h2.next,0,none⟩ [.pointer p48,.int .i64 n52,.slice s53.a s53.l s53.c,.slice pv.a pv.l pv.c] fun h54=>ldN h54 h2.next 0 fun p55=>aE .i64 h54 h2.next (0+1) fun n56=>bM h54 h2.next (0+1+1) fun s57=>bM h54 h2.next (0+1+1+1) fun s58=>some (Value.tuple ⟨[.agg ⟨[.pointer p55,.int .i64 n56,.slice s57.a s57.l s57.c,.slice s58.a s58.l s58.c]⟩,.int .i64 n51]⟩,h54)))=r→
   gm M fl 1 p m mod cols s h=r:=by
   intro r hr
   unfold gm aeL
   rw[bu eB,bu Mg,bu hh3,ab (k9.cell rfl),ab (k9.cell rfl),ah (s:=mod) (k9.cell rfl),ab (KO.cell rfl),ah (s:=s) (KO.cell rfl),ag c1,e]
   simp only[bj,aG,ch,asAgg,bB,asInt,if_true]
   rw[k5,if_neg (by simp),ah (s:=s') (o5.cell rfl),ah (s:=s) (Mf.cell rfl),ag heq]
   simp only[asBool]
   rw[ab (TM.cell rfl),ab (TM.cell rfl),ah (s:=mod) (TM.cell rfl)]
   exact hr
  by_cases ceq:((FD.aB hg).aL rows cols.toNat).1=rows
  ·have hd:decide (((FD.aB hg).aL rows cols.toNat).1.map vl=rs)=true:=by rw[ceq,er];simp
   rw[hd] at pre
   obtain⟨h6,q6,hN⟩:=Sb (fl:=fl) p m (bF.quiet q15) hb (by have:=q15.1;omega)
   rcases hN with⟨nf,_⟩|⟨D',Ai,g,NO,gf,gb,eN⟩
   ·exact absurd ⟨D,gen,hF,hg⟩ nf
   ·have o3q:=o3'.quiet q6
    have o2q:=Mf.quiet q6
    have FT:OB (h6.put h2.next (some [.pointer (some g),.int .i64 cols,.slice s.a s.l s.c,.slice pv.a pv.l pv.c])) h2.next [.pointer (some g),.int .i64 cols,.slice s.a s.l s.c,.slice pv.a pv.l pv.c]:=o3q.put _
    refine⟨h6.put h2.next (some [.pointer (some g),.int .i64 cols,.slice s.a s.l s.c,.slice pv.a pv.l pv.c]),some g,cols,s,pv,0,go (pre _ ?_),(q15.trans q6).put (by omega) _,.ok D gen hF hg rows er wid z ceq rfl⟩
    rw[if_neg (by simp),ag eN]
    simp only[bj,aG,ch,fV,asInt,if_true]
    rw[ab (o2q.cell rfl),ah (s:=s) (o2q.cell rfl),o3q.w7 (xs:=[.pointer (some g),.int .i64 cols,.slice s.a s.l s.c,.slice pv.a pv.l pv.c]) (by omega) rfl (by simp) rfl,
     yl (s:=some g) (FT.cell rfl),ab (FT.cell rfl),ah (s:=s) (FT.cell rfl),ah (s:=pv) (FT.cell rfl)]
  ·have hd:decide (((FD.aB hg).aL rows cols.toNat).1.map vl=rs)=false:=by
    rw[er];simp only[decide_eq_false_iff_not];exact fun h=>ceq (tX h)
   rw[hd] at pre
   have FT:OB (h5.put h2.next (some [.pointer none,.int .i64 0,.slice none 0 0,.slice none 0 0])) h2.next [.pointer none,.int .i64 0,.slice none 0 0,.slice none 0 0]:=o3'.put _
   refine⟨h5.put h2.next (some [.pointer none,.int .i64 0,.slice none 0 0,.slice none 0 0]),none,0,⟨none,0,0⟩,⟨none,0,0⟩,5,go (pre _ ?_),q15.put (by omega) _,.form D gen hF hg rows er wid z ceq rfl⟩
   rw[if_pos (by simp),o3'.w7 (xs:=[.pointer none,.int .i64 0,.slice none 0 0,.slice none 0 0]) (by omega) rfl (by simp) rfl,
    yl (s:=none) (FT.cell rfl),ab (FT.cell rfl),ah (s:=⟨none,0,0⟩) (FT.cell rfl),ah (s:=⟨none,0,0⟩) (FT.cell rfl)]
theorem aa9(p m:Int)(bF:SI h mod xs)(hb:xs.length≤mh)(bN:fl≤h.next){cols:Int}{s:Sl}{rs:List (List Int)}(hs:RR h s rs)(hm:rs.length≤65536)(hw:∀r∈rs,r.length≤65536)(hc:cols≠0):
 ∃(h':AH) (e:Int),M fl fn.nF [.agg ⟨[.int .i64 p,.int .i64 m,.slice mod.a mod.l mod.c]⟩,.agg ⟨[.int .i64 cols,.slice s.a s.l s.c]⟩] h=some (.int .i64 e,h')∧ai h h'∧SpE p m xs cols rs e:=by
 have o1:=OB.alloc h [.int .i64 p,.int .i64 m,.slice mod.a mod.l mod.c]
 have q1:=ai.alloc h [.int .i64 p,.int .i64 m,.slice mod.a mod.l mod.c]
 generalize eB:h.alloc [.int .i64 p,.int .i64 m,.slice mod.a mod.l mod.c]=h1 at o1 q1
 have o2:=OB.alloc h1 [.int .i64 cols,.slice s.a s.l s.c]
 have q2:=ai.alloc h1 [.int .i64 cols,.slice s.a s.l s.c]
 generalize Mg:h1.alloc [.int .i64 cols,.slice s.a s.l s.c]=h2 at o2 q2
 have TK:=q1.trans q2
 have l1:=TK.1
 have k9:=o1.quiet q2
 obtain⟨h3,pt,n,s1,s2,e,c1,c2,c3⟩:=adg (fl:=fl) p m (bF.quiet TK) hb (by omega) (hs.quiet TK) hm hw hc
 obtain⟨h4,k4,o4,q4⟩:=PQ (fl:=fl) (h:=h3) [.pointer none,.int .i64 0,.slice none 0 0,.slice none 0 0] [.pointer pt,.int .i64 n,.slice s1.a s1.l s1.c,.slice s2.a s2.l s2.c] (by have:=c2.1;omega) rfl (by simp) rfl
 refine⟨h4,e,aX (k:=1) (by decide) FH ?_,(TK.trans c2).trans q4,c3⟩
 rw[BI]
 unfold nF akN
 rw[bu eB,bu Mg]
 rw[ab (k9.cell rfl),ab (k9.cell rfl),ah (s:=mod) (k9.cell rfl),ab (o2.cell rfl),ah (s:=s) (o2.cell rfl),ag c1]
 simp only[bj,aG,ch,asAgg,bB,fV,asInt,if_true]
 rw[k4]
theorem NJ(n:Int):M fl fn.nE [.int .i64 n] h=some (.int .i64 (if n<1∨n>64 then 4 else 0),h):=by
 refine aX (k:=1) (by decide) FF ?_
 rw[BF]
 unfold nE akG
 by_cases c1:n<1
 ·rw[if_neg (by simp[c1]),if_pos (.inl c1)]
 ·rw[if_pos (by simp;omega)]
  by_cases c2:n>64
  ·rw[if_pos (by simp;omega),if_pos (.inr c2)]
  ·rw[if_neg (by simp;omega),if_neg (by omega)]
theorem aba(p m n:Int)(s:Sl)(bN:fl≤h.next):∃h',M fl fn.vS [.agg ⟨[.int .i64 p,.int .i64 m,.slice mod.a mod.l mod.c,.int .i64 n,.slice s.a s.l s.c]⟩] h=some (.agg ⟨[.int .i64 n,.slice s.a s.l s.c]⟩,h')∧ai h h':=by
 have o1:=OB.alloc h [.int .i64 p,.int .i64 m,.slice mod.a mod.l mod.c,.int .i64 n,.slice s.a s.l s.c]
 have q1:=ai.alloc h [.int .i64 p,.int .i64 m,.slice mod.a mod.l mod.c,.int .i64 n,.slice s.a s.l s.c]
 generalize eB:h.alloc [.int .i64 p,.int .i64 m,.slice mod.a mod.l mod.c,.int .i64 n,.slice s.a s.l s.c]=h1 at o1 q1
 have o2:=OB.alloc h1 [.int .i64 0,.slice none 0 0]
 have q2:=ai.alloc h1 [.int .i64 0,.slice none 0 0]
 generalize Mg:h1.alloc [.int .i64 0,.slice none 0 0]=h2 at o2 q2
 have l1:=q1.1
 have k9:=o1.quiet q2
 have o2p:OB (h2.put h1.next (some [.int .i64 n,.slice s.a s.l s.c])) h1.next [.int .i64 n,.slice s.a s.l s.c]:=o2.put _
 refine⟨h2.put h1.next (some [.int .i64 n,.slice s.a s.l s.c]),aX (k:=1) (by decide) R1 ?_,(q1.trans q2).put (by omega) _⟩
 rw[I8]
 unfold vS akz cU
 rw[eB]
 dsimp only
 rw[Mg,ab (k9.cell rfl),ah (s:=s) (k9.cell rfl),o2.w7 (xs:=[.int .i64 n,.slice s.a s.l s.c]) (by omega) rfl (by simp) rfl,ab (o2p.cell rfl),ah (s:=s) (o2p.cell rfl)]
inductive PR (p m:Int) (xs:List Int) (n:Int) (rs:List (List Int)) (e:Int):Prop where
 |jv (nf:¬uU p m xs) (he:e=1)
 |len (f:uU p m xs) (hn:n<1∨n>64) (he:e=4)
 |sp (f:uU p m xs) (hn:¬(n<1∨n>64)) (he:SpE p m xs n rs e)
theorem PR.unique{p m:Int}{xs:List Int}{n:Int}{rs:List (List Int)}{e e':Int}(h:PR p m xs n rs e)(h':PR p m xs n rs e'):e=e':=by
 cases h with
 |jv nf he=>cases h' with
  |jv nf' KP=>omega
  |len f hn KP=>exact absurd f nf
  |sp f hn KP=>exact absurd f nf
 |len f hn he=>cases h' with
  |jv nf' KP=>exact absurd f nf'
  |len f' hn' KP=>omega
  |sp f' hn' KP=>exact absurd hn hn'
 |sp f hn he=>cases h' with
  |jv nf' KP=>exact absurd f nf'
  |len f' hn' KP=>exact absurd hn' hn
  |sp f' hn' KP=>exact he.unique KP
def ca(p m:Int)(mod:Sl)(n:Int)(s:Sl):Value:=.agg ⟨[.int .i64 p,.int .i64 m,.slice mod.a mod.l mod.c,.int .i64 n,.slice s.a s.l s.c]⟩
theorem NK(p m:Int)(bF:SI h mod xs)(hb:xs.length≤mh)(bN:fl≤h.next){n:Int}{s:Sl}{rs:List (List Int)}(hs:RR h s rs)(hm:rs.length≤65536)(hw:∀r∈rs,r.length≤65536):
 ∃(h':AH) (e:Int),M fl fn.gj [ca p m mod n s] h=some (.int .i64 e,h')∧ai h h'∧PR p m xs n rs e:=by
 have o1:=OB.alloc h [.int .i64 p,.int .i64 m,.slice mod.a mod.l mod.c,.int .i64 n,.slice s.a s.l s.c]
 have q1:=ai.alloc h [.int .i64 p,.int .i64 m,.slice mod.a mod.l mod.c,.int .i64 n,.slice s.a s.l s.c]
 generalize eB:h.alloc [.int .i64 p,.int .i64 m,.slice mod.a mod.l mod.c,.int .i64 n,.slice s.a s.l s.c]=h1 at o1 q1
 have l1:=q1.1
 obtain⟨h2,e1,c1,c2,c3⟩:=aaZ (fl:=fl) p m (bF.quiet q1) hb (by omega)
 have q2:=q1.trans c2
 have o2:=o1.quiet c2
 have l2:=q2.1
 have go:∀{r},gj M fl 1 p m mod n s h=some r→M fl fn.gj [ca p m mod n s] h=some r:=by
  intro r he
  refine aX (k:=1) (by decide) Kv ?_
  unfold ca
  rw[C2];exact he
 rcases c3 with⟨f,rfl⟩|⟨nf,rfl⟩
 ·by_cases hn:n<1∨n>64
  ·refine⟨h2,4,go ?_,q2,.len f hn rfl⟩
   unfold gj YY cU
   rw[eB]
   dsimp only
   rw[ab (o1.cell rfl),ab (o1.cell rfl),ah (s:=mod) (o1.cell rfl),ag c1]
   simp only[asInt,if_true]
   rw[if_neg (by simp),ab (o2.cell rfl),ag (NJ n),if_pos hn]
   simp only[if_true]
   rw[if_pos (by simp)]
  ·obtain⟨h3,g1,g2⟩:=aba (mod:=mod) (fl:=h2.next) (h:=h2) p m n s (Nat.le_refl _)
   have q3:=q2.trans g2
   obtain⟨h4,e4,s1,s2,s3⟩:=aa9 (fl:=fl) p m (bF.quiet q3) hb (by have:=q3.1;omega) (hs.quiet q3) hm hw (cols:=n) (by omega)
   refine⟨h4,e4,go ?_,q3.trans s2,.sp f hn s3⟩
   unfold gj YY cU
   rw[eB]
   dsimp only
   rw[ab (o1.cell rfl),ab (o1.cell rfl),ah (s:=mod) (o1.cell rfl),ag c1]
   simp only[asInt,if_true]
   rw[if_neg (by simp),ab (o2.cell rfl),ag (NJ n),if_neg hn]
   simp only[if_true]
   rw[if_neg (by simp),ab (o2.cell rfl),ab (o2.cell rfl),ah (s:=mod) (o2.cell rfl),ab (o2.cell rfl),ab (o2.cell rfl),ah (s:=mod) (o2.cell rfl),ab (o2.cell rfl),ah (s:=s) (o2.cell rfl),ag g1]
   simp only[asAgg,aG,ch,bB,asInt,if_true]
   rw[ag s1]
   simp only[if_true]
 ·refine⟨h2,1,go ?_,q2,.jv nf rfl⟩
  unfold gj YY cU
  rw[eB]
  dsimp only
  rw[ab (o1.cell rfl),ab (o1.cell rfl),ah (s:=mod) (o1.cell rfl),ag c1]
  simp only[asInt,if_true]
  rw[if_pos (by simp)]
end
end Go.Abs.P
end
section
namespace Go.Abs.P
open Go.Abs Go.Fld
section
variable{D:FD}{mod:Sl}{h:AH}{fl:Nat}
theorem ah9{R:Type}{k:Nat}{h0:AH}{bx:Nat}(kn:ar R)(kr:ae R)(r:RF h0 mod D)(hx:OB h0 bx [.int .i64 (D.p:Int),.int .i64 (D.m:Int),.slice mod.a mod.l mod.c]){s:Sl}{xs:List Int}(hs:SI h0 s xs)(hm:xs.length≤65536):
 ∀(d i f:Nat) (h:AH),i+d=xs.length→d<f→ai h0 h→∃h',ai h0 h'∧qE M fl k kn kr f s ⟨bx,0,none⟩ (i:Int) h=if (xs.drop i).all (L3 D)=true then kn h' else kr 2 h':=by
 intro d
 induction d with
 |zero=>
  intro i f h hi hf hq
  obtain⟨f,rfl⟩:∃j,f=j+1:=⟨f-1,by omega⟩
  refine⟨h,hq,?_⟩
  show qD M fl k _ _ _ _ _ _ h=_
  unfold qD
  rw[hs.len,if_neg (by simp;omega),List.drop_of_length_le (by omega)];rfl
 |succ d ih=>
  intro i f h hi hf hq
  obtain⟨f,rfl⟩:∃j,f=j+1:=⟨f-1,by omega⟩
  have nw:i<xs.length:=by omega
  have tZ:=hx.quiet hq
  obtain⟨h1,a1,a2⟩:=aa4 (fl:=fl) (r.quiet hq) xs[i]
  have un:qE M fl k kn kr (f+1) s ⟨bx,0,none⟩ (i:Int) h=if (!(L3 D xs[i]))=true then kr 2 h1 else qE M fl k kn kr f s ⟨bx,0,none⟩ ((i+1:Nat):Int) h1:=by
   show qD M fl k _ _ _ _ _ _ h=_
   unfold qD
   dsimp only
   rw[hs.len,if_pos (by simp;omega),ab (tZ.cell rfl),ab (tZ.cell rfl),ah (s:=mod) (tZ.cell rfl),(hs.quiet hq).read (by omega) (by simp;omega)]
   simp only[Int.toNat_natCast]
   rw[ag (show M fl fn.kK [.agg ⟨[.int .i64 (D.p:Int),.int .i64 (D.m:Int),.slice mod.a mod.l mod.c]⟩,.int .i64 xs[i]] h=_ from a1)]
   simp only[asBool]
   rw[av (i+1) (by push_cast;rfl) (by omega)]
  rw[un,List.drop_eq_getElem_cons nw,List.all_cons]
  by_cases c:L3 D xs[i]=true
  ·obtain⟨h',e1,e2⟩:=ih (i+1) f h1 (by omega) (by omega) (hq.trans a2)
   refine⟨h',e1,?_⟩
   rw[if_neg (by simp[c]),c,Bool.true_and];exact e2
  ·refine⟨h1,hq.trans a2,?_⟩
   rw[if_pos (by simp[c]),if_neg (by simp[c])]
theorem aia(r:RF h mod D){s:Sl}{xs:List Int}(hs:SI h s xs)(hm:xs.length≤65536):∃h',M fl fn.jZ [fa D mod,.slice s.a s.l s.c] h=some (.int .i64 (if xs.all (L3 D)=true then 0 else 2),h')∧ai h h':=by
 have du:=rX h D mod
 have eF:=ai.alloc h [.int .i64 (D.p:Int),.int .i64 (D.m:Int),.slice mod.a mod.l mod.c]
 generalize eB:h.alloc [.int .i64 (D.p:Int),.int .i64 (D.m:Int),.slice mod.a mod.l mod.c]=h1 at du eF
 obtain⟨h',e1,e2⟩:=ah9 (fl:=fl) (k:=xs.length+1) (Lj M fl (xs.length+1) (fun(y4:Int) q=>some (Value.int .i64 y4,q))) (fun(y4:Int) q=>some (Value.int .i64 y4,q)) (r.quiet eF) du (hs.quiet eF) hm xs.length 0 (xs.length+1) h1 (by omega) (by omega) (ai.refl _)
 refine⟨h',aX (k:=xs.length+1) (by decide) OY ?_,eF.trans e1⟩
 unfold fa
 rw[Jb]
 unfold jZ akD VK
 rw[bu eB]
 refine Eq.trans e2 ?_
 rw[List.drop_zero]
 split<;>rfl
theorem aib{R:Type}{k:Nat}{bx by':Nat}{cols:Int}(kn:Jq R)(kr:ae R){s:Sl}(hy:OB h by' [.int .i64 cols,.slice s.a s.l s.c]){rs:List (List Int)}(hs:RR h s rs)(hm:rs.length≤65536):
 ∀(d i f:Nat),i+d=rs.length→d<f→zi M fl k kn kr f ⟨bx,0,none⟩ ⟨by',0,none⟩ (i:Int) h=if (rs.drop i).all (fun r=>decide ((r.length:Int)=cols))=true then kn ⟨bx,0,none⟩ ⟨by',0,none⟩ h else kr 3 h:=by
 intro d
 induction d with
 |zero=>
  intro i f hi hf
  obtain⟨f,rfl⟩:∃j,f=j+1:=⟨f-1,by omega⟩
  show qP M fl k _ _ _ _ _ _ h=_
  unfold qP
  dsimp only
  rw[ah (s:=s) (hy.cell rfl),hs.len,if_neg (by simp;omega),List.drop_of_length_le (by omega)];rfl
 |succ d ih=>
  intro i f hi hf
  obtain⟨f,rfl⟩:∃j,f=j+1:=⟨f-1,by omega⟩
  have nw:i<rs.length:=by omega
  obtain⟨t,ht1,ht2⟩:=hs.read nw
  show qP M fl k _ _ _ _ _ _ h=_
  unfold qP
  dsimp only
  rw[ah (s:=s) (hy.cell rfl),hs.len,if_pos (by simp;omega),ah (s:=s) (hy.cell rfl),ht2,ab (hy.cell rfl),ht1.len,List.drop_eq_getElem_cons nw,List.all_cons]
  by_cases c:(rs[i].length:Int)=cols
  ·have e:decide ((rs[i].length:Int)=cols)=true:=by simp[c]
   rw[if_neg (by simp[c]),e,Bool.true_and,av (i+1) (by push_cast;rfl) (by omega)]
   exact ih (i+1) f (by omega) (by omega)
  ·rw[if_pos (by simp[c]),if_neg (by simp[c])]
theorem aic{R:Type}{k:Nat}{h0:AH}{bx by':Nat}{cols:Int}(kn:ar R)(kr:ae R)(r:RF h0 mod D)(hx:OB h0 bx [.int .i64 (D.p:Int),.int .i64 (D.m:Int),.slice mod.a mod.l mod.c]){s:Sl}(hy:OB h0 by' [.int .i64 cols,.slice s.a s.l s.c]){rs:List (List Int)}(hs:RR h0 s rs)(hm:rs.length≤65536)(hw:∀r∈rs,r.length≤65536):
 ∀(d i f:Nat) (h:AH),i+d=rs.length→d<f→ai h0 h→∃h',ai h0 h'∧iC M fl k kn kr f ⟨bx,0,none⟩ ⟨by',0,none⟩ (i:Int) h=if (rs.drop i).all (fun r=>r.all (L3 D))=true then kn h' else kr 2 h':=by
 intro d
 induction d with
 |zero=>
  intro i f h hi hf hq
  obtain⟨f,rfl⟩:∃j,f=j+1:=⟨f-1,by omega⟩
  have hyq:=hy.quiet hq
  refine⟨h,hq,?_⟩
  show iA M fl k _ _ _ _ _ _ h=_
  unfold iA
  dsimp only
  rw[ah (s:=s) (hyq.cell rfl),hs.len,if_neg (by simp;omega),List.drop_of_length_le (by omega)];rfl
 |succ d ih=>
  intro i f h hi hf hq
  obtain⟨f,rfl⟩:∃j,f=j+1:=⟨f-1,by omega⟩
  have nw:i<rs.length:=by omega
  have hyq:=hy.quiet hq
  have tZ:=hx.quiet hq
  obtain⟨t,ht1,ht2⟩:=(hs.quiet hq).read nw
  obtain⟨h1,a1,a2⟩:=aia (fl:=fl) (r.quiet hq) ht1 (hw _ (List.getElem_mem nw))
  have un:iC M fl k kn kr (f+1) ⟨bx,0,none⟩ ⟨by',0,none⟩ (i:Int) h=if ((if rs[i].all (L3 D)=true then (0:Int) else 2) !=0)=true then kr (if rs[i].all (L3 D)=true then (0:Int) else 2) h1 else iC M fl k kn kr f ⟨bx,0,none⟩ ⟨by',0,none⟩ ((i+1:Nat):Int) h1:=by
   show iA M fl k _ _ _ _ _ _ h=_
   unfold iA
   dsimp only
   rw[ah (s:=s) (hyq.cell rfl),hs.len,if_pos (by simp;omega),ab (tZ.cell rfl),ab (tZ.cell rfl),ah (s:=mod) (tZ.cell rfl),ah (s:=s) (hyq.cell rfl),ht2,
    ag (show M fl fn.jZ [.agg ⟨[.int .i64 (D.p:Int),.int .i64 (D.m:Int),.slice mod.a mod.l mod.c]⟩,.slice t.a t.l t.c] h=_ from a1)]
   simp only[asInt,if_true]
   rw[av (i+1) (by push_cast;rfl) (by omega)]
  rw[un,List.drop_eq_getElem_cons nw,List.all_cons]
  by_cases c:rs[i].all (L3 D)=true
  ·obtain⟨h',e1,e2⟩:=ih (i+1) f h1 (by omega) (by omega) (hq.trans a2)
   refine⟨h',e1,?_⟩
   rw[if_pos c,if_neg (by simp),c,Bool.true_and];exact e2
  ·refine⟨h1,hq.trans a2,?_⟩
   rw[if_neg c,if_pos (by simp),if_neg (by simp[c])]
inductive MaE (p m:Int) (xs:List Int) (cols:Int) (rs:List (List Int)) (e:Int):Prop where
 |jv (nf:¬uU p m xs) (he:e=1)
 |mat (D:FD) (gen:Nat) (hF:PN p m xs D) (hg:D.aJ gen) (he:e=dt D cols rs)
theorem XB{xs:List Int}(p m:Int)(bF:SI h mod xs)(hb:xs.length≤mh)(bN:fl≤h.next){cols:Int}{s:Sl}{rs:List (List Int)}(hs:RR h s rs)(hm:rs.length≤65536)(hw:∀r∈rs,r.length≤65536):
 ∃(h':AH) (e:Int),M fl fn.gY [.agg ⟨[.int .i64 p,.int .i64 m,.slice mod.a mod.l mod.c]⟩,.agg ⟨[.int .i64 cols,.slice s.a s.l s.c]⟩] h=some (.int .i64 e,h')∧ai h h'∧MaE p m xs cols rs e:=by
 have o1:=OB.alloc h [.int .i64 p,.int .i64 m,.slice mod.a mod.l mod.c]
 have q1:=ai.alloc h [.int .i64 p,.int .i64 m,.slice mod.a mod.l mod.c]
 generalize eB:h.alloc [.int .i64 p,.int .i64 m,.slice mod.a mod.l mod.c]=h1 at o1 q1
 have o2:=OB.alloc h1 [.int .i64 cols,.slice s.a s.l s.c]
 have q2:=ai.alloc h1 [.int .i64 cols,.slice s.a s.l s.c]
 generalize Mg:h1.alloc [.int .i64 cols,.slice s.a s.l s.c]=h2 at o2 q2
 have TK:=q1.trans q2
 have l1:=TK.1
 have k9:=o1.quiet q2
 obtain⟨h3,e,c1,c2,c3⟩:=NH (fl:=fl) p m (bF.quiet TK) hb (by omega)
 have q3:=TK.trans c2
 have KO:=o2.quiet c2
 have TM:=k9.quiet c2
 have go:∀{r},gY M fl (rs.length+1) p m mod cols s h=some r→M fl fn.gY [.agg ⟨[.int .i64 p,.int .i64 m,.slice mod.a mod.l mod.c]⟩,.agg ⟨[.int .i64 cols,.slice s.a s.l s.c]⟩] h=some r:=by
  intro r he
  refine aX (k:=rs.length+1) (by decide) Tv ?_
  rw[Oi];exact he
 rcases c3 with⟨⟨D,gen,hF,hg⟩,rfl⟩|⟨nf,rfl⟩
 ·have un:∀r,(if decide (cols<0)=false then if decide (cols>256)=false then if decide (((s.l:Nat):Int)>256)=true then some (Value.int .i64 3,h3) else Js M fl (rs.length+1) (fun(y4:Int) q=>some (Value.int .i64 y4,q)) ⟨h.next,0,none⟩ ⟨h1.next,0,none⟩ 0 h3 else some (Value.int .i64 3,h3) else some (Value.int .i64 3,h3))=r→gY M fl (rs.length+1) p m mod cols s h=r:=by
   intro r hr
   unfold gY aeX Rf
   rw[bu eB,bu Mg,ab (k9.cell rfl),ab (k9.cell rfl),ah (s:=mod) (k9.cell rfl),ag c1]
   simp only[asInt,if_true]
   rw[if_neg (by simp),ab (KO.cell rfl),ab (KO.cell rfl),ah (s:=s) (KO.cell rfl)]
   exact hr
  by_cases c1:cols<0
  ·exact⟨h3,3,go (un _ (by rw[if_neg (by simp[c1])])),q3,.mat D gen hF hg (by unfold dt;rw[if_pos (.inl c1)])⟩
  ·by_cases c2:cols>256
   ·exact⟨h3,3,go (un _ (by rw[if_pos (by simp;omega),if_neg (by simp;omega)])),q3,.mat D gen hF hg (by unfold dt;rw[if_pos (by omega)])⟩
   ·by_cases c3:rs.length>256
    ·exact⟨h3,3,go (un _ (by rw[if_pos (by simp;omega),if_pos (by simp;omega),hs.len,if_pos (by simp;omega)])),q3,.mat D gen hF hg (by unfold dt;rw[if_pos (by omega)])⟩
    ·have hsq:=hs.quiet q3
     have l:=aib (fl:=fl) (k:=rs.length+1) (bx:=h.next) (Eo M fl (rs.length+1) (fun(y4:Int) q=>some (Value.int .i64 y4,q))) (fun(y4:Int) q=>some (Value.int .i64 y4,q)) KO hsq hm rs.length 0 (rs.length+1) (by omega) (by omega)
     rw[List.drop_zero] at l
     have hme:dt D cols rs=if rs.all (fun r=>decide ((r.length:Int)=cols))=true then (if rs.all (fun r=>r.all (L3 D))=true then 0 else 2) else 3:=by unfold dt;rw[if_neg (by omega)]
     by_cases c4:rs.all (fun r=>decide ((r.length:Int)=cols))=true
     ·rw[if_pos c4] at l hme
      have rf:RF h3 mod D:=⟨hF.ok,by have:=bF.quiet q3;rwa[hF.hx] at this⟩
      have hp:=hF.hp
      have hmm:=hF.hm
      rw[hp,hmm] at TM
      obtain⟨h4,q4,l2⟩:=aic (fl:=fl) (k:=rs.length+1) (yn M fl (rs.length+1) (fun(y4:Int) q=>some (Value.int .i64 y4,q))) (fun(y4:Int) q=>some (Value.int .i64 y4,q)) rf TM KO hsq hm hw rs.length 0 (rs.length+1) h3 (by omega) (by omega) (ai.refl _)
      rw[List.drop_zero] at l2
      refine⟨h4,dt D cols rs,go (un _ ?_),q3.trans q4,.mat D gen hF hg rfl⟩
      rw[if_pos (by simp;omega),if_pos (by simp;omega),hs.len,if_neg (by simp;omega)]
      unfold Js
      refine Eq.trans l ?_
      unfold Eo AV Da
      refine Eq.trans l2 ?_
      rw[hme]
      split<;>rfl
     ·rw[if_neg c4] at l hme
      refine⟨h3,3,go (un _ ?_),q3,.mat D gen hF hg hme.symm⟩
      rw[if_pos (by simp;omega),if_pos (by simp;omega),hs.len,if_neg (by simp;omega)]
      unfold Js
      exact l
 ·refine⟨h3,1,go ?_,q3,.jv nf rfl⟩
  unfold gY aeX Rf
  rw[bu eB,bu Mg,ab (k9.cell rfl),ab (k9.cell rfl),ah (s:=mod) (k9.cell rfl),ag c1]
  simp only[asInt,if_true]
  rw[if_pos (by simp)]
theorem TC{R:Type}{k:Nat}(kn:ar R)(kr:au R){s t:Sl}{xs ys:List (List Int)}(hs:RR h s xs)(ht:RR h t ys)(hl:xs.length=ys.length)(hb:xs.length≤mh)(hw:∀r∈xs,r.length≤mh):
 ∀(d i m:Nat),i+d=xs.length→d<m→yX M fl k kn kr m s t (i:Int) h=if xs.drop i=ys.drop i then kn h else kr false h:=by
 intro d
 induction d with
 |zero=>
  intro i m hi hm
  obtain⟨m,rfl⟩:∃j,m=j+1:=⟨m-1,by omega⟩
  show qw M fl k _ _ kr _ _ (i:Int) h=_
  unfold qw
  rw[hs.len,if_neg (by simp;omega),List.drop_of_length_le (by omega),List.drop_of_length_le (by omega),if_pos rfl]
 |succ d ih=>
  intro i m hi hm
  obtain⟨m,rfl⟩:∃j,m=j+1:=⟨m-1,by omega⟩
  have hix:i<xs.length:=by omega
  have hiy:i<ys.length:=by omega
  obtain⟨tx,a1,a2⟩:=hs.read hix
  obtain⟨ty,b1,b2⟩:=ht.read hiy
  show qw M fl k _ _ kr _ _ (i:Int) h=_
  unfold qw
  rw[hs.len,if_pos (by simp;omega),a2,b2,ag (FN a1 b1 (hw _ (List.getElem_mem hix)))]
  simp only[asBool]
  rw[List.drop_eq_getElem_cons hix,List.drop_eq_getElem_cons hiy,fE (by omega)]
  by_cases e:xs[i]=ys[i]
  ·rw[if_neg (by simp[e]),ih (i+1) m (by omega) (by omega)]
   simp only[List.cons.injEq,e,true_and]
  ·rw[if_pos (by simp[e])]
   simp only[List.cons.injEq,e,false_and,if_false]
theorem TD{s t:Sl}{xs ys:List (List Int)}(hs:RR h s xs)(ht:RR h t ys)(hb:xs.length≤mh)(hw:∀r∈xs,r.length≤mh):M fl fn.jh [.slice s.a s.l s.c,.slice t.a t.l t.c] h=some (.bool (decide (xs=ys)),h):=by
 refine aX (k:=xs.length+1) (by decide) zW ?_
 rw[wa]
 unfold jh aki Vw
 by_cases hl:xs.length=ys.length
 ·rw[if_neg (by rw[hs.len,ht.len];simp[hl])]
  unfold Vv
  have:=TC (fl:=fl) (k:=xs.length+1) (D9 M fl (xs.length+1) (fun(y4:Bool) q=>some (Value.bool y4,q))) (fun(y4:Bool) q=>some (Value.bool y4,q)) hs ht hl hb hw xs.length 0 (xs.length+1) (by omega) (by omega)
  refine this.trans ?_
  by_cases e:xs=ys
  ·simp[e,D9]
  ·simp[e]
 ·have e:xs≠ys:=fun e=>hl (by rw[e])
  rw[if_pos (by rw[hs.len,ht.len];simp;omega)]
  simp[e]
end
end Go.Abs.P
end
section
namespace Go.Abs.P
open Go.Abs Go.Fld
section
variable{D:FD}{gen:Nat}(hg:D.aJ gen){mod:Sl}{h:AH}{fl:Nat}
theorem ati(r:RF h mod D)(x y:El D)(bN:fl≤h.next):∃h',M fl fn.gO [fa D mod,.int .i64 (ve x),.int .i64 (ve y)] h=some (.int .i64 (ve ((FD.aB hg).mul x y)),h')∧ai h h':=by
 obtain⟨h',e1,e2⟩:=Uu (fl:=fl) r (ve x) (ve y) bN
 rw[kc,kc] at e1
 exact⟨h',e1,e2⟩
theorem axj(r:RF h mod D)(x y:El D)(bN:fl≤h.next):∃h',M fl fn.nJ [fa D mod,.int .i64 (ve x),.int .i64 (ve y)] h=some (.int .i64 (ve ((FD.aB hg).add x y)),h')∧ai h h':=by
 obtain⟨h',e1,e2⟩:=ahW (fl:=fl) r (ve x) (ve y) bN
 rw[kc,kc] at e1
 exact⟨h',e1,e2⟩
theorem axk(r:RF h mod D)(x:El D)(bN:fl≤h.next):∃h',M fl fn.qi [fa D mod,.int .i64 (ve x)] h=some (.int .i64 (ve ((FD.aB hg).neg x)),h')∧ai h h':=by
 obtain⟨h',e1,e2⟩:=ahX (fl:=fl) r (ve x) bN
 rw[kc] at e1
 exact⟨h',e1,e2⟩
theorem axl(r:RF h mod D)(x:El D)(bN:fl≤h.next):∃h',M fl fn.qk [fa D mod,.int .i64 (ve x)] h=some (.int .i64 (ve ((FD.aB hg).inv x)),h')∧ai h h':=by
 obtain⟨h',e1,e2⟩:=ahZ (fl:=fl) r (ve x) bN
 rw[kc] at e1
 exact⟨h',e1,e2⟩
theorem abb{R:Type}{k:Nat}{h0:AH}{bx b:Nat}(kn:ak R)(r:RF h0 mod D)(hx:OB h0 bx [.int .i64 (D.p:Int),.int .i64 (D.m:Int),.slice mod.a mod.l mod.c]){s:Sl}{xs:List (El D)}(a:El D)(hs:SI h0 s (vl xs))(hb:h0.next≤b)(bN:fl≤h0.next)(hm:xs.length≤65536):
 ∀(d i f:Nat) (h:AH),i+d=xs.length→d<f→OB h b (iv (vl ((FD.aB hg).nB a (xs.take i))++List.replicate d 0))→ai h0 h→
 ∃h',zO M fl k kn f (ve a) s ⟨bx,0,none⟩ ⟨some ⟨b,0,none⟩,xs.length,xs.length⟩ (i:Int) h=kn ⟨some ⟨b,0,none⟩,xs.length,xs.length⟩ h'∧OB h' b (iv (vl ((FD.aB hg).nB a xs)))∧ai h0 h':=by
 have FV:s.l=xs.length:=by rw[hs.len];simp
 intro d
 induction d with
 |zero=>
  intro i f h hi hf ho hq
  obtain⟨f,rfl⟩:∃j,f=j+1:=⟨f-1,by omega⟩
  rw[List.take_of_length_le (by omega),List.replicate_zero,List.append_nil] at ho
  refine⟨h,?_,ho,hq⟩
  show rJ M fl k _ _ _ _ _ _ _ h=_
  unfold rJ
  rw[FV,if_neg (by simp;omega)]
 |succ d ih=>
  intro i f h hi hf ho hq
  obtain⟨f,rfl⟩:∃j,f=j+1:=⟨f-1,by omega⟩
  have nw:i<xs.length:=by omega
  have tZ:=hx.quiet hq
  obtain⟨h1,m1,m2⟩:=ati (fl:=fl) hg (r.quiet hq) a xs[i] (by have:=hq.1;omega)
  have UM:=ho.quiet m2
  have nv:(iv (vl ((FD.aB hg).nB a (xs.take i))++List.replicate (d+1) 0)).set (0+i) (.int .i64 (ve ((FD.aB hg).mul a xs[i])))=iv (vl ((FD.aB hg).nB a (xs.take (i+1)))++List.replicate d 0):=by
   rw[iy,Nat.zero_add,List.set_append_right _ _ (by simp[Fld.cY];omega)]
   have:i-(vl ((FD.aB hg).nB a (xs.take i))).length=0:=by simp[Fld.cY];omega
   have hn:(FD.aB hg).nB a (xs.take (i+1))=(FD.aB hg).nB a (xs.take i)++[(FD.aB hg).mul a xs[i]]:=by unfold Fld.nB;rw[List.take_succ_eq_append_getElem nw,List.map_append];rfl
   rw[this,List.replicate_succ,List.set_cons_zero,hn,Af,List.append_assoc]
   rfl
  obtain⟨h',e1,e2,e3⟩:=ih (i+1) f (h1.put b (some (iv (vl ((FD.aB hg).nB a (xs.take (i+1)))++List.replicate d 0)))) (by omega) (by omega) (UM.put _) ((hq.trans m2).put hb _)
  refine⟨h',?_,e2,e3⟩
  show rJ M fl k _ _ _ _ _ _ _ h=_
  unfold rJ
  dsimp only
  rw[FV,if_pos (by simp;omega),ab (tZ.cell rfl),ab (tZ.cell rfl),ah (s:=mod) (tZ.cell rfl),(hs.quiet hq).read (by omega) (by simp;omega)]
  simp only[Int.toNat_natCast,kW]
  rw[ag (show M fl fn.gO [.agg ⟨[.int .i64 (D.p:Int),.int .i64 (D.m:Int),.slice mod.a mod.l mod.c]⟩,.int .i64 (ve a),.int .i64 (ve xs[i])] h=_ from m1)]
  simp only[asInt,if_true]
  rw[aT rfl (show i<xs.length from nw),UM.st (by omega) (by simp[Fld.cY];omega) rfl,nv,av (i+1) (by push_cast;rfl) (by omega)]
  exact e1
theorem abc(r:RF h mod D){s:Sl}{xs:List (El D)}(a:El D)(hs:SI h s (vl xs))(hm:xs.length≤65536)(bN:fl≤h.next):
 ∃h' b,M fl fn.nH [fa D mod,.int .i64 (ve a),.slice s.a s.l s.c] h=some (.slice (some ⟨b,0,none⟩) xs.length xs.length,h')∧h.next≤b∧OB h' b (iv (vl ((FD.aB hg).nB a xs)))∧ai h h':=by
 have du:=rX h D mod
 have eF:=ai.alloc h [.int .i64 (D.p:Int),.int .i64 (D.m:Int),.slice mod.a mod.l mod.c]
 generalize eB:h.alloc [.int .i64 (D.p:Int),.int .i64 (D.m:Int),.slice mod.a mod.l mod.c]=h1 at du eF
 have ho:=OB.alloc h1 (List.replicate xs.length (Value.int .i64 0))
 rw[show List.replicate xs.length (Value.int .i64 0)=iv (vl ((FD.aB hg).nB a (xs.take 0))++List.replicate xs.length 0) by simp[iv,vl,Fld.nB]] at ho
 obtain⟨h',e1,e2,e3⟩:=abb (fl:=fl) (k:=xs.length+1) hg (LJ M fl (xs.length+1) (fun(y6:Sl) q=>some (Value.slice y6.a y6.l y6.c,q))) (r.quiet eF) du a (hs.quiet eF) (Nat.le_refl _) (by have:=eF.1;omega) hm xs.length 0 (xs.length+1) _ (by omega) (by omega) ho (ai.alloc ..)
 refine⟨h',h1.next,aX (k:=xs.length+1) (by decide) Tw ?_,eF.1,e2,eF.trans e3⟩
 unfold fa
 rw[OO]
 unfold nH al8 WW
 have hl:s.l=xs.length:=by rw[hs.len];simp
 rw[bu eB,hl,jg (by unfold kA;omega),show List.replicate xs.length (Value.int .i64 0)=iv (vl ((FD.aB hg).nB a (xs.take 0))++List.replicate xs.length 0) by simp[iv,vl,Fld.nB]]
 exact e1
theorem abd{R:Type}{k:Nat}{h0:AH}{bx b:Nat}(kn:ak R)(r:RF h0 mod D)(hx:OB h0 bx [.int .i64 (D.p:Int),.int .i64 (D.m:Int),.slice mod.a mod.l mod.c]){s t:Sl}{v u:List (El D)}(a:El D)(hs:SI h0 s (vl v))(ht:SI h0 t (vl u))(hl:v.length=u.length)(hb:h0.next≤b)(bN:fl≤h0.next)(hm:v.length≤65536):
 ∀(d i f:Nat) (h:AH),i+d=v.length→d<f→OB h b (iv (vl ((FD.aB hg).bw (v.take i) a (u.take i))++List.replicate d 0))→ai h0 h→
 ∃h',nV M fl k kn f s (ve a) t ⟨bx,0,none⟩ ⟨some ⟨b,0,none⟩,v.length,v.length⟩ (i:Int) h=kn ⟨some ⟨b,0,none⟩,v.length,v.length⟩ h'∧OB h' b (iv (vl ((FD.aB hg).bw v a u)))∧ai h0 h':=by
 have FV:s.l=v.length:=by rw[hs.len];simp
 intro d
 induction d with
 |zero=>
  intro i f h hi hf ho hq
  obtain⟨f,rfl⟩:∃j,f=j+1:=⟨f-1,by omega⟩
  rw[List.take_of_length_le (by omega),List.take_of_length_le (by omega),List.replicate_zero,List.append_nil] at ho
  refine⟨h,?_,ho,hq⟩
  show rM M fl k _ _ _ _ _ _ _ _ h=_
  unfold rM wN
  rw[FV,if_neg (by simp;omega)]
 |succ d ih=>
  intro i f h hi hf ho hq
  obtain⟨f,rfl⟩:∃j,f=j+1:=⟨f-1,by omega⟩
  have hiv:i<v.length:=by omega
  have hiu:i<u.length:=by omega
  have hax:((FD.aB hg).bw (v.take i) a (u.take i)).length=i:=by rw[Fld.bI _ _ _ _ (by simp;omega)];simp;omega
  have NN:(FD.aB hg).bw (v.take (i+1)) a (u.take (i+1))=(FD.aB hg).bw (v.take i) a (u.take i)++[(FD.aB hg).add v[i] ((FD.aB hg).mul a u[i])]:=by
   unfold Fld.bw
   rw[List.take_succ_eq_append_getElem hiv,List.take_succ_eq_append_getElem hiu,List.zipWith_append (by simp;omega)]
   rfl
  have aAB:∀(y:El D),(iv (vl ((FD.aB hg).bw (v.take i) a (u.take i))++List.replicate (d+1) 0)).set (0+i) (.int .i64 (ve y))=iv (vl ((FD.aB hg).bw (v.take i) a (u.take i)++[y])++List.replicate d 0):=by
   intro y
   rw[iy,Nat.zero_add,List.set_append_right _ _ (by simp;omega)]
   have:i-(vl ((FD.aB hg).bw (v.take i) a (u.take i))).length=0:=by simp;omega
   rw[this,List.replicate_succ,List.set_cons_zero,Af,List.append_assoc]
   rfl
  obtain⟨H1,hH1⟩:∃H1,H1=h.put b (some (iv (vl ((FD.aB hg).bw (v.take i) a (u.take i)++[v[i]])++List.replicate d 0))):=⟨_,rfl⟩
  have UM:OB H1 b (iv (vl ((FD.aB hg).bw (v.take i) a (u.take i)++[v[i]])++List.replicate d 0)):=by rw[hH1];exact ho.put _
  have Ak:ai h0 H1:=by rw[hH1];exact hq.put hb _
  have hx1:=hx.quiet Ak
  have un:∀r,(if (ve u[i] !=0)=true then aC M H1.next fn.gO [.agg ⟨[.int .i64 (D.p:Int),.int .i64 (D.m:Int),.slice mod.a mod.l mod.c]⟩,.int .i64 (ve a),.int .i64 (ve u[i])] H1 fun v17 O4=>asInt .i64 v17 fun PY=>aC M fl fn.nJ [.agg ⟨[.int .i64 (D.p:Int),.int .i64 (D.m:Int),.slice mod.a mod.l mod.c]⟩,.int .i64 (ve v[i]),.int .i64 PY] O4 fun v20 Sy=>asInt .i64 v20 fun Sm=>idx 1 (⟨some ⟨b,0,none⟩,v.length,v.length⟩:Sl) (i:Int) fun p23=>st fl Sy p23 [.int .i64 Sm] fun yc=>nU M fl k (nV M fl k kn f) kn s (ve a) t ⟨bx,0,none⟩ ⟨some ⟨b,0,none⟩,v.length,v.length⟩ (i:Int) yc
   else nU M fl k (nV M fl k kn f) kn s (ve a) t ⟨bx,0,none⟩ ⟨some ⟨b,0,none⟩,v.length,v.length⟩ (i:Int) H1)=r→nV M fl k kn (f+1) s (ve a) t ⟨bx,0,none⟩ ⟨some ⟨b,0,none⟩,v.length,v.length⟩ (i:Int) h=r:=by
   intro r hr
   show rM M fl k _ _ _ _ _ _ _ _ h=_
   unfold rM wN
   dsimp only
   rw[FV,if_pos (by simp;omega),(hs.quiet hq).read (by omega) (by simp;omega)]
   simp only[Int.toNat_natCast,kW]
   rw[aT rfl (show i<v.length from hiv),ho.st (by omega) (by simp;omega) rfl,aAB,←hH1,(ht.quiet Ak).read (by omega) (by simp;omega)]
   simp only[Int.toNat_natCast,kW]
   rw[ab (hx1.cell rfl),ab (hx1.cell rfl),ah (s:=mod) (hx1.cell rfl),(hs.quiet Ak).read (by omega) (by simp;omega)]
   simp only[Int.toNat_natCast,kW]
   rw[ab (hx1.cell rfl),ab (hx1.cell rfl),ah (s:=mod) (hx1.cell rfl),(ht.quiet Ak).read (by omega) (by simp;omega)]
   simp only[Int.toNat_natCast,kW]
   exact hr
  by_cases hz:u[i]=(FD.aB hg).zero
  ·have hy:(FD.aB hg).add v[i] ((FD.aB hg).mul a u[i])=v[i]:=by rw[hz,Fld.mul_zero,(FD.aB hg).add_zero]
   rw[hy] at NN
   rw[←NN] at UM
   obtain⟨h',e1,e2,e3⟩:=ih (i+1) f H1 (by omega) (by omega) UM Ak
   refine⟨h',un _ ?_,e2,e3⟩
   rw[if_neg (by simp[(ix hg _).2 hz])]
   unfold nU
   rw[av (i+1) (by push_cast;rfl) (by omega)]
   exact e1
  ·obtain⟨h2,m1,m2⟩:=ati (fl:=H1.next) hg (r.quiet Ak) a u[i] (Nat.le_refl _)
   have lV:=Ak.trans m2
   obtain⟨h3,n1,n2⟩:=axj (fl:=fl) hg (r.quiet lV) v[i] ((FD.aB hg).mul a u[i]) (by have:=lV.1;omega)
   have UF:=lV.trans n2
   have ho3:=(UM.quiet m2).quiet n2
   have ayl:(iv (vl ((FD.aB hg).bw (v.take i) a (u.take i)++[v[i]])++List.replicate d 0)).set (0+i) (.int .i64 (ve ((FD.aB hg).add v[i] ((FD.aB hg).mul a u[i]))))=iv (vl ((FD.aB hg).bw (v.take (i+1)) a (u.take (i+1)))++List.replicate d 0):=by
    rw[iy,Nat.zero_add,Af,List.append_assoc,List.set_append_right _ _ (by simp;omega)]
    have:i-(vl ((FD.aB hg).bw (v.take i) a (u.take i))).length=0:=by simp;omega
    rw[this,NN,Af,List.append_assoc]
    rfl
   obtain⟨h',e1,e2,e3⟩:=ih (i+1) f (h3.put b (some (iv (vl ((FD.aB hg).bw (v.take (i+1)) a (u.take (i+1)))++List.replicate d 0)))) (by omega) (by omega) (ho3.put _) (UF.put hb _)
   refine⟨h',un _ ?_,e2,e3⟩
   rw[if_pos (by simp;exact fun e=>hz ((ix hg _).1 e)),ag (show M H1.next fn.gO [.agg ⟨[.int .i64 (D.p:Int),.int .i64 (D.m:Int),.slice mod.a mod.l mod.c]⟩,.int .i64 (ve a),.int .i64 (ve u[i])] H1=_ from m1)]
   simp only[asInt,if_true]
   rw[ag (show M fl fn.nJ [.agg ⟨[.int .i64 (D.p:Int),.int .i64 (D.m:Int),.slice mod.a mod.l mod.c]⟩,.int .i64 (ve v[i]),.int .i64 (ve ((FD.aB hg).mul a u[i]))] h2=_ from n1)]
   simp only[if_true]
   rw[aT rfl (show i<v.length from hiv),ho3.st (by omega) (by simp;omega) rfl,ayl]
   unfold nU
   rw[av (i+1) (by push_cast;rfl) (by omega)]
   exact e1
theorem abe(r:RF h mod D){s t:Sl}{v u:List (El D)}(a:El D)(hs:SI h s (vl v))(ht:SI h t (vl u))(hl:v.length=u.length)(hm:v.length≤65536)(bN:fl≤h.next):
 ∃h' b,M fl fn.nI [fa D mod,.slice s.a s.l s.c,.int .i64 (ve a),.slice t.a t.l t.c] h=some (.slice (some ⟨b,0,none⟩) v.length v.length,h')∧h.next≤b∧OB h' b (iv (vl ((FD.aB hg).bw v a u)))∧ai h h':=by
 have du:=rX h D mod
 have eF:=ai.alloc h [.int .i64 (D.p:Int),.int .i64 (D.m:Int),.slice mod.a mod.l mod.c]
 generalize eB:h.alloc [.int .i64 (D.p:Int),.int .i64 (D.m:Int),.slice mod.a mod.l mod.c]=h1 at du eF
 have ho:=OB.alloc h1 (List.replicate v.length (Value.int .i64 0))
 have e0:List.replicate v.length (Value.int .i64 0)=iv (vl ((FD.aB hg).bw (v.take 0) a (u.take 0))++List.replicate v.length 0):=by simp[iv,vl,Fld.bw]
 rw[e0] at ho
 obtain⟨h',e1,e2,e3⟩:=abd (fl:=fl) (k:=v.length+1) hg (LL M fl (v.length+1) (fun(y6:Sl) q=>some (Value.slice y6.a y6.l y6.c,q))) (r.quiet eF) du a (hs.quiet eF) (ht.quiet eF) hl (Nat.le_refl _) (by have:=eF.1;omega) hm v.length 0 (v.length+1) _ (by omega) (by omega) ho (ai.alloc ..)
 refine⟨h',h1.next,aX (k:=v.length+1) (by decide) Tx ?_,eF.1,e2,eF.trans e3⟩
 unfold fa
 rw[OP]
 unfold nI amc W0
 have hl:s.l=v.length:=by rw[hs.len];simp
 rw[bu eB,hl,jg (by unfold kA;omega),e0]
 exact e1
end
end Go.Abs.P
end
