/- Shortened by a program of ours out of readable texts. -/
import Derived.Test.YtgplcfblbkmcmaaGreatQ1
import Derived.Test.YtgplcfblbkmcmaaGreatProg
import Derived.KernelRfl
set_option maxRecDepth 100000
set_option linter.unusedVariables false
namespace Go.Abs.P
open Go.Abs Go.Abs.CP Go.Abs.C Go.Proofs
variable{R:Type}(C:Callee)(fl k:Nat)(K:KF R)
def aIu(t8:Int):List Value:=un 8 (vi t8::un 15 [])
def aCt:aa:=.seq (.region [oI 4 (.box (.t 0)),oI 7 (.box (.t 3)),mc 8 0] [0,3,8]) (.seq (.region [oI 12 (.load (.agg [.int .i64,.int .i64,.slice,.int .i64,.slice]) (.t 4)),m 13 1,m 14 2,oI 15 (.call (.f 90) [.t 12,.t 13,.t 14] (.ke [.one .l0,.one (.int .i64)])),m 11 15,ex 16 11 0,ex 17 11 1,m 9 16,m 10 17] [1,2,4,11,12,13,14,15,16,17]) (.seq (.region [m 18 10,ck 19 .neq 18 0] [18]) (.seq (.cond (.t 19) (.seq (.region [m 20 10,m 8 20] [7,9,10,19,20]) (.ret)) (kl [10,19])) (.seq (.region [m 21 9,oI 22 (.load (.agg [.slice]) (.t 7)),oI 23 (.call (.f 94) [.t 21,.t 22] (.one (.one (.int .i64)))),m 8 23] [7,9,21,22,23]) (.ret)))))
abbrev aIv(R:Type):=Int→Int→Sl→Int→Sl→Int→Int→Sl→AH→Option R
def aIw(aI aJ:Int)(aL:Sl)(bZ:Int)(bY:Sl)(t1 t2:Int)(aRH:Sl):List Value:=.agg ⟨[vi aI,vi aJ,vs aL,vi bZ,vs bY]⟩::vi t1::vi t2::.agg ⟨[vs aRH]⟩::un 20 []
def iB:aK:=⟨24,aCt,[.tmp 8]⟩
theorem Ft:okF Tryz.prog 59 iB=true:=by kernel_rfl
def aOd{R:Type}(C:Callee)(fl k:Nat)(kr:ah R):aIv R:=fun aI aJ aL bZ bY t1 t2 aRH h=>bJ h [vi aI,vi aJ,vs aL,vi bZ,vs bY] fun b1 h2=>bJ h2 [vs aRH] fun b3 h4=>aF .i64 h4 b1 0 fun n5=>aF .i64 h4 b1 1 fun n6=>aT h4 b1 2 fun s7=>aF .i64 h4 b1 3 fun n8=>aT h4 b1 4 fun s9=>aj C fl fn.mq [.agg ⟨[vi n5,vi n6,vs s7,vi n8,vs s9]⟩,vi t1,vi t2] h4 fun v10 iH=>aE v10 fun l12=>ar l12 fun v13 l14=>ek v13 fun YJ=>ar l14 fun v16 l17=>asInt .i64 v16 fun JT=>aM l17 (if (JT !=0)=true then kr JT iH else aT iH b3 0 fun s19=>aj C fl fn.gP [.pointer YJ,.agg ⟨[vs s19]⟩] iH fun v20 yL=>asInt .i64 v20 fun JU=>kr JU yL)
theorem aIx:(cp aIw (ce C fl k aCt K))=aOd C fl k (cp aIu (K .ret)):=by kernel_rfl
def jL(aw ax:Int)(ay:Sl)(bk:Int)(bj:Sl)(p1 p2:Int)(aF4:Sl)(h:AH):Option (Value×AH):=aOd C fl k (fun y8 q=>some (vi y8,q)) aw ax ay bk bj p1 p2 aF4 h
theorem Dz(aw ax:Int)(ay:Sl)(bk:Int)(bj:Sl)(p1 p2:Int)(aF4:Sl)(h):aV C fl k iB [.agg ⟨[vi aw,vi ax,vs ay,vi bk,vs bj]⟩,vi p1,vi p2,.agg ⟨[vs aF4]⟩] h=jL C fl k aw ax ay bk bj p1 p2 aF4 h:=aXV (aIx C fl k (aG _)) aw ax ay bk bj p1 p2 aF4 (by kernel_rfl) (by kernel_rfl)
def Km(t4:Bool):List Value:=un 4 (.bool t4::un 40 [])
def NL:aa:=.seq (.region [oI 4 (.mv (.c (.bool true)))] []) (.ret)
def aiv:List Value:=un 45 []
abbrev rv(R:Type):=Addr→Int→Int→AH→Option R
def Ru(t2:Addr)(t5 t6:Int):List Value:=un 2 (vp t2::un 2 (vi t5::vi t6::un 38 []))
def NM:aa:=.seq (.region [m 22 6,fa 23 1 2,ls 24 23,ln 25 24,cm 26 .lss 22 25] [22,23,24,25]) (.seq (.cond (.t 26) (kl [26]) (.seq (kl [2,5,6,26]) (.exit 0))) (.seq (.block 1 (.seq (.seq (.region [fa 29 1 2,ls 30 29,m 31 6,ia 32 1 30 31,ls 33 32,ln 34 33,m 35 5,cm 36 .gtr 34 35] [29,30,31,32,33,34,35]) (.cond (.t 36) (.seq (.region [oI 4 (.mv (.c (.bool false)))] [2,5,6,36]) (.ret)) (kl [36]))) (.region [m 37 5,fa 38 1 2,ls 39 38,m 40 6,ia 41 1 39 40,ls 42 41,ln 43 42,bb 44 .sub 37 43,m 5 44] [37,38,39,40,41,42,43,44]))) (.region [m 27 6,bc 28 .add 27 1,m 6 28] [27,28])))
def acC:aa:=.seq (.block 0 (.loop NM)) NL
def aur(cn:aa):aa:=.seq (.seq (.region [oI 2 (.box (.t 0)),oI 4 (.mv (.c (.bool false)))] [0,4]) (.seq (.region [fa 7 0 2,li 8 7,ck 9 .gtr 8 260,m 10 9,.gL 10 false [qI 11 (.cW 1 (.t 2)),qI 12 (.load (.one .slice) (.t 11)),qI 13 (.len (.t 12)),qI 14 (.mv (.t 1)),qI 15 (.cmp .gtr .i64 (.t 13) (.t 14))],oI 16 (.pick (.t 10) (.c (.bool true)) (.t 15))] [7,8,9,10,11,12,13,14,15]) (.seq (.cond (.t 16) (.seq (.region [oI 4 (.mv (.c (.bool false)))] [1,2,16]) (.ret)) (kl [16])) (.seq (.region [m 17 1,fa 18 1 2,ls 19 18,ln 20 19,bb 21 .sub 17 20,m 5 21] [1,17,18,19,20,21]) (.region [mc 6 0] []))))) cn
def aCu:aa:=aur acC
def aus(aI:Int)(aJ:Sl)(t1:Int):List Value:=.agg ⟨[vi aI,vs aJ]⟩::vi t1::un 43 []
def B0:aK:=⟨45,aCu,[.tmp 4]⟩
theorem aiw:okF Tryz.prog 60 B0=true:=by kernel_rfl
def Kn{R:Type}(C:Callee)(fl k:Nat)(kr:aC R):au R:=fun h=>kr true h
theorem amu:(cp aiv (ce C fl k NL K))=Kn C fl k (cp Km (K .ret)):=by kernel_rfl
def tZ{R:Type}(C:Callee)(fl k:Nat)(kn:rv R)(e0:au R)(kr:aC R):rv R:=fun t2 t5 t6 h=>aT h t2.block (t2.off+1) fun s1=>if decide (t6<((s1.l:Nat):Int))=true then aT h t2.block (t2.off+1) fun s2=>idx 1 s2 t6 fun p3=>aT h p3.block p3.off fun s4=>if decide (((s4.l:Nat):Int)>t5)=true then kr false h else aT h t2.block (t2.off+1) fun s5=>idx 1 s5 t6 fun p6=>aT h p6.block p6.off fun s7=>kn t2 (av (t5-((s7.l:Nat):Int))) (av (t6+1)) h else e0 h
theorem amv:(cp Ru (ce C fl k NM K))=tZ C fl k (cp Ru (K .normal)) (cp aiv (K (.exit 0))) (cp Km (K .ret)):=by kernel_rfl
def ns(kn:au R)(kr:aC R):Nat→rv R
 |0=>fun _ _ _ _=>none
 |m+1=>tZ C fl k (ns kn kr m) kn kr
theorem WM:∀m,(cp Ru (aQ m (aW C fl k NM 0 K)))=ns C fl k (cp aiv (K .normal)) (cp Km (K .ret)) m
 |0=>by kernel_rfl
 |m+1=>gu (amv C fl k _) (ag (fun L=>tZ C fl k L _ _) (WM m))
def aix(kr:aC R):rv R:=ns C fl k (Kn C fl k kr) kr k
theorem ayi:(cp Ru (ce C fl k acC K))=aix C fl k (cp Km (K .ret)):=(iP (gv (WM C fl k (bw C fl k NL K)))).trans (ag (fun L=>ns C fl k L _ k) (iL (amu C fl k K)))
def acD{R:Type}(C:Callee)(fl k:Nat)(kx:rv R)(kr:aC R):nq R:=fun aI aJ t1 h=>bJ h [vi aI,vs aJ] fun b8 h9=>aF .i64 h9 b8 0 fun mb=>if decide (mb>260)=false then aT h9 b8 1 fun EG=>if decide (((EG.l:Nat):Int)>t1)=true then kr false h9 else aT h9 b8 1 fun T8=>kx ⟨b8,0,none⟩ (av (t1-((T8.l:Nat):Int))) 0 h9 else kr false h9
def amw(kr:aC R):nq R:=acD C fl k (aix C fl k kr) kr
theorem aIy(cn:aa):(cp aus (ce C fl k (aur cn) K))=acD C fl k (cp Ru (ce C fl k cn K)) (cp Km (K .ret)):=by kernel_rfl
theorem aIz:(cp aus (ce C fl k aCu K))=amw C fl k (cp Km (K .ret)):=(aIy C fl k K acC).trans (ag (fun L0=>acD C fl k L0 _) (ayi C fl k K))
def zH(aw:Int)(ax:Sl)(p1:Int)(h:AH):Option (Value×AH):=amw C fl k (fun y4 q=>some (.bool y4,q)) aw ax p1 h
theorem ae4(aw:Int)(ax:Sl)(p1:Int)(h):aV C fl k B0 [.agg ⟨[vi aw,vs ax]⟩,vi p1] h=zH C fl k aw ax p1 h:=tG (aIz C fl k (aG _)) aw ax p1 (by kernel_rfl) (by kernel_rfl)
def Ko(t2:Int):List Value:=un 2 (vi t2::un 51 [])
def NN:aa:=.seq (.region [fa 48 2 1,ls 49 48,fa 50 0 1,li 51 50,oI 52 (.call (.f 98) [.t 49,.t 51] (.one (.one .bool))),no 53 52] [1,48,49,50,51,52]) (.seq (.cond (.t 53) (.seq (.region [mc 2 1] [53]) (.ret)) (kl [53])) (.seq (.region [mc 2 0] []) (.ret)))
abbrev B1(R:Type):=Addr→AH→Option R
def aiy(t1:Addr):List Value:=un 1 (vp t1::un 52 [])
def Rv(t1:Addr)(t3:Int):List Value:=un 1 (vp t1::un 1 (vi t3::un 50 []))
def NO:aa:=.seq (.region [m 26 3,fa 27 1 1,li 28 27,cm 29 .lss 26 28] [26,27,28]) (.seq (.cond (.t 29) (kl [29]) (.seq (kl [3,29]) (.exit 0))) (.seq (.block 1 (.seq (.region [fa 32 2 1,ls 33 32,m 34 3,ia 35 1 33 34,li 36 35,ck 37 .lss 36 0,m 38 37,.gL 38 false [qI 39 (.cW 2 (.t 1)),qJ 40 (.load (.one .slice) (.t 39)),qI 41 (.mv (.t 3)),qI 42 (.eE 1 (.t 40) (.t 41)),qJ 43 (.load (.one (.int .i64)) (.t 42)),qI 44 (.cW 0 (.t 1)),qJ 45 (.load (.one (.int .i64)) (.t 44)),qI 46 (.cmp .geq .i64 (.t 43) (.t 45))],oI 47 (.pick (.t 38) (.c (.bool true)) (.t 46))] [32,33,34,35,36,37,38,39,40,41,42,43,44,45,46]) (.cond (.t 47) (.seq (.region [mc 2 1] [1,3,47]) (.ret)) (kl [47])))) (.region [m 30 3,bc 31 .add 30 1,m 3 31] [30,31])))
def acE:aa:=.seq (.block 0 (.loop NO)) NN
def aut(cn:aa):aa:=.seq (.seq (.region [oI 1 (.box (.t 0)),mc 2 0] [0,2]) (.seq (.region [oI 4 (.load (.agg [.int .i64,.int .i64,.slice]) (.t 1)),oI 5 (.call (.f 96) [.t 4] (.one (.one (.int .i64)))),ck 6 .eql 5 0,m 7 6,.gL 7 false [qI 8 (.cW 0 (.t 1)),qI 9 (.load (.one (.int .i64)) (.t 8)),qI 10 (.call (.f 97) [.t 9] (.one (.one .bool))),qI 11 (.not (.t 10))],oI 12 (.pick (.t 7) (.c (.bool true)) (.t 11))] [4,5,6,7,8,9,10,11]) (.seq (.cond (.t 12) (.seq (.region [mc 2 1] [1,12]) (.ret)) (kl [12])) (.seq (.region [fa 13 1 1,li 14 13,ck 15 .eql 14 1] [13,14]) (.seq (.cond (.t 15) (.seq (.seq (.region [fa 16 2 1,ls 17 16,ln 18 17,ck 19 .neq 18 0] [1,15,16,17,18]) (.cond (.t 19) (.seq (.region [mc 2 1] [19]) (.ret)) (kl [19]))) (.seq (.region [mc 2 0] []) (.ret))) (kl [15])) (.seq (.region [fa 20 2 1,ls 21 20,ln 22 21,fa 23 1 1,li 24 23,cm 25 .neq 22 24] [20,21,22,23,24]) (.seq (.cond (.t 25) (.seq (.region [mc 2 1] [1,25]) (.ret)) (kl [25])) (.region [mc 3 0] [])))))))) cn
def aCv:aa:=aut acE
abbrev kv(R:Type):=Int→Int→Sl→AH→Option R
def auu(aI aJ:Int)(aL:Sl):List Value:=.agg ⟨[vi aI,vi aJ,vs aL]⟩::un 53 []
def vY:aK:=⟨54,aCv,[.tmp 2]⟩
theorem acF:okF Tryz.prog 62 vY=true:=by kernel_rfl
def Kp{R:Type}(C:Callee)(fl k:Nat)(kr:ah R):B1 R:=fun t1 h=>aT h t1.block (t1.off+2) fun s1=>aF .i64 h t1.block t1.off fun n2=>aj C fl fn.jc [vs s1,vi n2] h fun v3 h4=>asBool v3 fun b5=>if (!b5)=true then kr 1 h4 else kr 0 h4
theorem amx:(cp aiy (ce C fl k NN K))=Kp C fl k (cp Ko (K .ret)):=by kernel_rfl
def ua{R:Type}(C:Callee)(fl k:Nat)(kn:aY R)(e0:B1 R)(kr:ah R):aY R:=fun t1 t3 h=>aF .i64 h t1.block (t1.off+1) fun n6=>if decide (t3<n6)=true then aT h t1.block (t1.off+2) fun s7=>idx 1 s7 t3 fun p8=>aF .i64 h p8.block p8.off fun n9=>if decide (n9<0)=false then aT h t1.block (t1.off+2) fun s10=>idx 1 s10 t3 fun TS=>aF .i64 h TS.block TS.off fun Bu=>aF .i64 h t1.block t1.off fun BL=>if decide (Bu≥BL)=true then kr 1 h else kn t1 (av (t3+1)) h else kr 1 h else e0 t1 h
theorem amy:(cp Rv (ce C fl k NO K))=ua C fl k (cp Rv (K .normal)) (cp aiy (K (.exit 0))) (cp Ko (K .ret)):=by kernel_rfl
def DA(kn:B1 R)(kr:ah R):Nat→aY R
 |0=>fun _ _ _=>none
 |m+1=>ua C fl k (DA kn kr m) kn kr
theorem WN:∀m,(cp Rv (aQ m (aW C fl k NO 0 K)))=DA C fl k (cp aiy (K .normal)) (cp Ko (K .ret)) m
 |0=>by kernel_rfl
 |m+1=>gu (amy C fl k _) (ag (fun L=>ua C fl k L _ _) (WN m))
def aaH(kr:ah R):aY R:=DA C fl k (Kp C fl k kr) kr k
theorem ayj:(cp Rv (ce C fl k acE K))=aaH C fl k (cp Ko (K .ret)):=(iP (gv (WN C fl k (bw C fl k NN K)))).trans (ag (fun L=>DA C fl k L _ k) (iL (amx C fl k K)))
def aiz{R:Type}(C:Callee)(fl k:Nat)(kx:aY R)(kr:ah R):kv R:=fun aI aJ aL h=>bJ h [vi aI,vi aJ,vs aL] fun GM nX=>aF .i64 nX GM 0 fun HT=>aF .i64 nX GM 1 fun Qh=>aT nX GM 2 fun s18=>aj C fl fn.mw [.agg ⟨[vi HT,vi Qh,vs s18]⟩] nX fun v19 Qn=>asInt .i64 v19 fun n21=>if (n21==0)=false then aF .i64 Qn GM 0 fun JU=>aj C fl fn.pY [vi JU] Qn fun v23 vt=>asBool v23 fun b25=>if (!b25)=true then kr 1 vt else aF .i64 vt GM 1 fun EI=>if (EI==1)=true then aT vt GM 2 fun s27=>if (((s27.l:Nat):Int) !=0)=true then kr 1 vt else kr 0 vt else aT vt GM 2 fun s28=>aF .i64 vt GM 1 fun n29=>if (((s28.l:Nat):Int) !=n29)=true then kr 1 vt else kx ⟨GM,0,none⟩ 0 vt else kr 1 Qn
def aCw(kr:ah R):kv R:=aiz C fl k (aaH C fl k kr) kr
theorem aIA(cn:aa):(cp auu (ce C fl k (aut cn) K))=aiz C fl k (cp Rv (ce C fl k cn K)) (cp Ko (K .ret)):=by kernel_rfl
theorem aIB:(cp auu (ce C fl k aCv K))=aCw C fl k (cp Ko (K .ret)):=(aIA C fl k K acE).trans (ag (fun L0=>aiz C fl k L0 _) (ayj C fl k K))
def iZ(aw ax:Int)(ay:Sl)(h:AH):Option (Value×AH):=aCw C fl k (fun y2 q=>some (vi y2,q)) aw ax ay h
theorem Y9(aw ax:Int)(ay:Sl)(h):aV C fl k vY [.agg ⟨[vi aw,vi ax,vs ay]⟩] h=iZ C fl k aw ax ay h:=tG (aIB C fl k (aG _)) aw ax ay (by kernel_rfl) (by kernel_rfl)
def aIC(t4:Int):List Value:=un 4 (vi t4::un 23 [])
def aCx:aa:=.seq (.region [oI 2 (.box (.t 0)),oI 3 (.box (.t 1)),mc 4 0] [0,1,4]) (.seq (.region [oI 8 (.load (.agg [.int .i64,.int .i64,.slice]) (.t 2)),oI 9 (.load (.agg [.int .i64,.slice]) (.t 3)),oI 10 (.call (.f 99) [.t 8,.t 9] (.one (.one (.int .i64)))),m 5 10] [8,9,10]) (.seq (.region [m 11 5,ck 12 .neq 11 0] [11]) (.seq (.cond (.t 12) (.seq (.region [m 13 5,m 4 13] [2,3,5,12,13]) (.ret)) (kl [5,12])) (.seq (.region [oI 15 (.load (.agg [.int .i64,.int .i64,.slice]) (.t 2)),fa 16 1 3,ls 17 16,fa 18 0 3,li 19 18,oI 20 (.call (.f 86) [.t 15,.t 17,.t 19] (.ke [.one .slice,.one .slice])),m 14 20,ex 21 14 0,ex 22 14 1,m 6 21,m 7 22] [2,7,14,15,16,17,18,19,20,21,22]) (.seq (.region [m 23 6,fa 24 1 3,ls 25 24,oI 26 (.call (.f 38) [.t 23,.t 25] (.one (.one .bool))),no 27 26] [3,6,23,24,25,26]) (.seq (.cond (.t 27) (.seq (.region [mc 4 5] [27]) (.ret)) (kl [27])) (.seq (.region [mc 4 0] []) (.ret))))))))
def aID(aI aJ:Int)(aL:Sl)(eu:Int)(fA:Sl):List Value:=.agg ⟨[vi aI,vi aJ,vs aL]⟩::.agg ⟨[vi eu,vs fA]⟩::un 26 []
def vZ:aK:=⟨28,aCx,[.tmp 4]⟩
theorem acG:okF Tryz.prog 63 vZ=true:=by kernel_rfl
def amz{R:Type}(C:Callee)(fl k:Nat)(kr:ah R):bD R:=fun aI aJ aL eu fA h=>bJ h [vi aI,vi aJ,vs aL] fun b1 h2=>bJ h2 [vi eu,vs fA] fun b3 h4=>aF .i64 h4 b1 0 fun n5=>aF .i64 h4 b1 1 fun n6=>aT h4 b1 2 fun s7=>aF .i64 h4 b3 0 fun n8=>aT h4 b3 1 fun s9=>aj C fl fn.jd [.agg ⟨[vi n5,vi n6,vs s7]⟩,.agg ⟨[vi n8,vs s9]⟩] h4 fun v10 iH=>asInt .i64 v10 fun Bu=>if (Bu !=0)=true then kr Bu iH else aF .i64 iH b1 0 fun BL=>aF .i64 iH b1 1 fun Bv=>aT iH b1 2 fun Ua=>aT iH b3 1 fun TR=>aF .i64 iH b3 0 fun Qh=>aj C fl fn.ja [.agg ⟨[vi BL,vi Bv,vs Ua]⟩,vs TR,vi Qh] iH fun v18 Mf=>aE v18 fun l20=>ar l20 fun v21 l22=>aX v21 fun s23=>ar l22 fun v24 l25=>aX v24 fun s26=>aM l25 (aT Mf b3 1 fun s27=>aj C fl fn.eQ [vs s23,vs s27] Mf fun v28 h29=>asBool v28 fun b30=>if (!b30)=true then kr 5 h29 else kr 0 h29)
theorem aIE:(cp aID (ce C fl k aCx K))=amz C fl k (cp aIC (K .ret)):=by kernel_rfl
def mn(aw ax:Int)(ay:Sl)(cz:Int)(cF:Sl)(h:AH):Option (Value×AH):=amz C fl k (fun y4 q=>some (vi y4,q)) aw ax ay cz cF h
theorem Za(aw ax:Int)(ay:Sl)(cz:Int)(cF:Sl)(h):aV C fl k vZ [.agg ⟨[vi aw,vi ax,vs ay]⟩,.agg ⟨[vi cz,vs cF]⟩] h=mn C fl k aw ax ay cz cF h:=oY (aIE C fl k (aG _)) aw ax ay cz cF (by kernel_rfl) (by kernel_rfl)
abbrev di(R:Type):=OA→Int→AH→Option R
def aIF(t2:OA)(t3:Int):List Value:=un 2 (vn t2::vi t3::un 11 [])
def aCy:aa:=.seq (.region [oI 1 (.box (.t 0)),oI 2 (.mv (.c (.pointer none))),mc 3 0] [0,2,3]) (.seq (.region [oI 5 (.load (.agg [.int .i64,.int .i64,.slice,.int .i64,.slice]) (.t 1)),oI 6 (.call (.f 47) [.t 5] (.one (.one (.int .i64)))),m 4 6] [5,6]) (.seq (.region [m 7 4,ck 8 .neq 7 0] [7]) (.seq (.cond (.t 8) (.seq (.region [m 9 4,oI 2 (.mv (.c (.pointer none))),m 3 9] [1,4,8,9]) (.ret)) (kl [4,8])) (.seq (.region [fa 10 0 1,oI 11 (.load (.agg [.int .i64,.int .i64,.slice]) (.t 10)),oI 12 (.call (.f 75) [.t 11] (.ke [.one .l0,.one (.int .i64)])),ex 13 12 0,ex 14 12 1,m 2 13,m 3 14] [1,10,11,12,13,14]) (.ret)))))
def aIG(aI aJ:Int)(aL:Sl)(bZ:Int)(bY:Sl):List Value:=.agg ⟨[vi aI,vi aJ,vs aL,vi bZ,vs bY]⟩::un 14 []
def rz:aK:=⟨15,aCy,[.tmp 2,.tmp 3]⟩
theorem Zb:okF Tryz.prog 64 rz=true:=by kernel_rfl
def aOe{R:Type}(C:Callee)(fl k:Nat)(kr:di R):bD R:=fun aI aJ aL bZ bY h=>bJ h [vi aI,vi aJ,vs aL,vi bZ,vs bY] fun b1 h2=>aF .i64 h2 b1 0 fun n3=>aF .i64 h2 b1 1 fun n4=>aT h2 b1 2 fun s5=>aF .i64 h2 b1 3 fun n6=>aT h2 b1 4 fun s7=>aj C fl fn.ep [.agg ⟨[vi n3,vi n4,vs s5,vi n6,vs s7]⟩] h2 fun v8 h9=>asInt .i64 v8 fun mb=>if (mb !=0)=true then kr none mb h9 else aF .i64 h9 b1 0 fun xA=>aF .i64 h9 b1 1 fun Bu=>aT h9 b1 2 fun VZ=>aj C fl fn.fB [.agg ⟨[vi xA,vi Bu,vs VZ]⟩] h9 fun v14 nX=>aE v14 fun l16=>ar l16 fun v17 l18=>ek v17 fun p19=>ar l18 fun v20 l21=>asInt .i64 v20 fun JU=>aM l21 (kr p19 JU nX)
theorem aIH:(cp aIG (ce C fl k aCy K))=aOe C fl k (cp aIF (K .ret)):=by kernel_rfl
def yP(aw ax:Int)(ay:Sl)(bk:Int)(bj:Sl)(h:AH):Option (Value×AH):=aOe C fl k (fun y2 y3 q=>some (.tuple ⟨[.pointer y2,vi y3]⟩,q)) aw ax ay bk bj h
theorem UN(aw ax:Int)(ay:Sl)(bk:Int)(bj:Sl)(h):aV C fl k rz [.agg ⟨[vi aw,vi ax,vs ay,vi bk,vs bj]⟩] h=yP C fl k aw ax ay bk bj h:=oY (aIH C fl k (aG _)) aw ax ay bk bj (by kernel_rfl) (by kernel_rfl)
def jk(t4:Int):List Value:=un 4 (vi t4::un 40 [])
def NP:aa:=.seq (.region [mc 4 0] []) (.ret)
def Fu:List Value:=un 45 []
def eg(t2:Addr)(t9:Sl)(t10 t11:Int):List Value:=un 2 (vp t2::un 6 (t9.v::vi t10::vi t11::un 33 []))
def rA:aa:=.region [bc 44 .add 11 1,m 11 44] [44]
abbrev wa(R:Type):=Addr→Sl→Sl→Int→Int→Sl→Int→Int→AH→Option R
def wb(t2:Addr)(t6 t9:Sl)(t10 t11:Int)(t15:Sl)(t16 t17:Int):List Value:=un 2 (vp t2::un 3 (t6.v::un 2 (t9.v::vi t10::vi t11::un 3 (t15.v::vi t16::vi t17::un 27 []))))
def mE:aa:=.region [bc 43 .add 17 1,m 17 43] [43]
def yd(cn:aa):aa:=.seq (.seq (.region [cm 18 .lss 17 16] []) (.seq (.cond (.t 18) (kl [18]) (.seq (kl [6,15,16,17,18]) (.exit 2))) (.block 3 (.seq (.region [m 19 17,ia 20 1 15 17,li 21 20,m 7 19,m 8 21] [19,20,21]) (.seq (.region [m 22 8,ck 23 .lss 22 0,m 24 23,.gL 24 false [qI 25 (.mv (.t 8)),qI 26 (.cW 3 (.t 2)),qI 27 (.load (.one (.int .i64)) (.t 26)),qI 28 (.cmp .geq .i64 (.t 25) (.t 27))],oI 29 (.pick (.t 24) (.c (.bool true)) (.t 28)),m 30 29,.gL 30 false [qI 31 (.mv (.t 7)),qI 32 (.cmp .gtr .i64 (.t 31) (ci 0)),qI 33 (.mv (.t 32))],.gL 33 true [qI 34 (.mv (.t 8)),qI 35 (.mv (.t 6)),qI 36 (.mv (.t 7)),qI 37 (.bin .sub .i64 (.t 36) (ci 1)),qI 38 (.eE 1 (.t 35) (.t 37)),qI 39 (.load (.one (.int .i64)) (.t 38)),qI 40 (.cmp .leq .i64 (.t 34) (.t 39))],.gL 30 false [qI 41 (.pick (.t 33) (.t 40) (.c (.bool false)))],oI 42 (.pick (.t 30) (.c (.bool true)) (.t 41))] [7,8,22,23,24,25,26,27,28,29,30,31,32,33,34,35,36,37,38,39,40,41]) (.cond (.t 42) (.seq (.region [mc 4 6] [2,6,9,10,11,15,16,17,42]) (.ret)) (kl [42]))))))) cn
def pj:aa:=yd mE
def ub:aa:=.block 2 (.loop pj)
def G8(cn:aa):aa:=.seq (.seq (.region [ia 13 1 9 11,ls 14 13,m 6 14] [13,14]) (.region [m 15 6,ln 16 15,mc 17 0] [])) cn
def As:aa:=G8 ub
def Mp(cn fJ:aa):aa:=.seq (.block 1 fJ) cn
def Fv:aa:=Mp rA As
def WO(cn:aa):aa:=.seq (.seq (.region [cm 12 .lss 11 10] []) (.cond (.t 12) (kl [12]) (.seq (kl [2,9,10,11,12]) (.exit 0)))) cn
def NQ:aa:=WO Fv
def acH:aa:=.seq (.block 0 (.loop NQ)) NP
def auv(cn:aa):aa:=.seq (.seq (.region [oI 2 (.box (.t 0)),mc 4 0] [0,4]) (.region [m 9 1,ln 10 9,mc 11 0] [1])) cn
def aCz:aa:=auv acH
def auw(aI aJ:Int)(aL:Sl)(bZ:Int)(bY t1:Sl):List Value:=.agg ⟨[vi aI,vi aJ,vs aL,vi bZ,vs bY]⟩::t1.v::un 43 []
def rB:aK:=⟨45,aCz,[.tmp 4]⟩
theorem Zc:okF Tryz.prog 65 rB=true:=by kernel_rfl
def agV{R:Type}(C:Callee)(fl k:Nat)(kr:ah R):au R:=fun h=>kr 0 h
theorem amA:(cp Fu (ce C fl k NP K))=agV C fl k (cp jk (K .ret)):=by kernel_rfl
def CJ{R:Type}(C:Callee)(fl k:Nat)(kn:bV R)(e0:au R)(kr:ah R):bV R:=fun t2 t9 t10 t11 h=>kn t2 t9 t10 (av (t11+1)) h
theorem G9:(cp eg (ce C fl k rA K))=CJ C fl k (cp eg (K .normal)) (cp Fu (K (.exit 0))) (cp jk (K .ret)):=by kernel_rfl
def ye{R:Type}(C:Callee)(fl k:Nat)(kn:wa R)(e2:bV R)(kr:ah R):wa R:=fun t2 t6 t9 t10 t11 t15 t16 t17 h=>kn t2 t6 t9 t10 t11 t15 t16 (av (t17+1)) h
theorem H4:(cp wb (ce C fl k mE K))=ye C fl k (cp wb (K .normal)) (cp eg (K (.exit 2))) (cp jk (K .ret)):=by kernel_rfl
def pn{R:Type}(C:Callee)(fl k:Nat)(kx:wa R)(kn:wa R)(e2:bV R)(kr:ah R):wa R:=fun t2 t6 t9 t10 t11 t15 t16 t17 h=>if decide (t17<t16)=true then idx 1 t15 t17 fun p1=>aF .i64 h p1.block p1.off fun n2=>if decide (n2<0)=false then aF .i64 h t2.block (t2.off+3) fun n3=>if decide (n2≥n3)=false then if decide (t17>0)=true then idx 1 t6 (av (t17-1)) fun p4=>aF .i64 h p4.block p4.off fun n5=>if decide (n2≤n5)=true then kr 6 h else kx t2 t6 t9 t10 t11 t15 t16 t17 h else kx t2 t6 t9 t10 t11 t15 t16 t17 h else kr 6 h else kr 6 h else e2 t2 t9 t10 t11 h
def rC(kn:wa R)(e2:bV R)(kr:ah R):wa R:=pn C fl k (ye C fl k kn e2 kr) kn e2 kr
theorem Lw(cn:aa):(cp wb (ce C fl k (yd cn) K))=pn C fl k (cp wb (ce C fl k cn K)) (cp wb (K .normal)) (cp eg (K (.exit 2))) (cp jk (K .ret)):=by kernel_rfl
theorem Lx:(cp wb (ce C fl k pj K))=rC C fl k (cp wb (K .normal)) (cp eg (K (.exit 2))) (cp jk (K .ret)):=(Lw C fl k K mE).trans (ag (fun L0=>pn C fl k L0 _ _ _) (H4 C fl k K))
def rD(kn:bV R)(kr:ah R):Nat→wa R
 |0=>fun _ _ _ _ _ _ _ _ _=>none
 |m+1=>rC C fl k (rD kn kr m) kn kr
theorem yf:∀m,(cp wb (aQ m (aW C fl k pj 2 K)))=rD C fl k (cp eg (K .normal)) (cp jk (K .ret)) m
 |0=>by kernel_rfl
 |m+1=>gu (Lx C fl k _) (ag (fun L=>rC C fl k L _ _) (yf m))
def Ha(kn:bV R)(kr:ah R):wa R:=rD C fl k kn kr k
theorem Rw:(cp wb (ce C fl k ub K))=Ha C fl k (cp eg (K .normal)) (cp jk (K .ret)):=gv (yf C fl k K)
def Au{R:Type}(C:Callee)(fl k:Nat)(kx:wa R)(kn:bV R)(kr:ah R):bV R:=fun t2 t9 t10 t11 h=>idx 1 t9 t11 fun p6=>aT h p6.block p6.off fun s7=>kx t2 s7 t9 t10 t11 s7 ((s7.l:Nat):Int) 0 h
def CK(kn:bV R)(kr:ah R):bV R:=Au C fl k (Ha C fl k kn kr) kn kr
theorem Zd(cn:aa):(cp eg (ce C fl k (G8 cn) K))=Au C fl k (cp wb (ce C fl k cn K)) (cp eg (K .normal)) (cp jk (K .ret)):=by kernel_rfl
theorem Ze:(cp eg (ce C fl k As K))=CK C fl k (cp eg (K .normal)) (cp jk (K .ret)):=(Zd C fl k K ub).trans (ag (fun L0=>Au C fl k L0 _ _) (Rw C fl k K))
def Fw{R:Type}(C:Callee)(fl k:Nat)(kx:bV R)(u0:bV R)(kn:bV R)(e0:au R)(kr:ah R):bV R:=fun t2 t9 t10 t11 h=>u0 t2 t9 t10 t11 h
def WQ(kn:bV R)(e0:au R)(kr:ah R):bV R:=Fw C fl k (CJ C fl k kn e0 kr) (CK C fl k (CJ C fl k kn e0 kr) kr) kn e0 kr
theorem ae5(cn fJ:aa):(cp eg (ce C fl k (Mp cn fJ) K))=Fw C fl k (cp eg (ce C fl k cn K)) (cp eg (ce C fl k fJ (iK 1 (bw C fl k cn K)))) (cp eg (K .normal)) (cp Fu (K (.exit 0))) (cp jk (K .ret)):=by kernel_rfl
theorem ae6:(cp eg (ce C fl k Fv K))=WQ C fl k (cp eg (K .normal)) (cp Fu (K (.exit 0))) (cp jk (K .ret)):=(ae5 C fl k K rA As).trans (gG (fun L0 L1=>Fw C fl k L0 L1 _ _ _) (G9 C fl k K) ((Ze C fl k (iK 1 (bw C fl k rA K))).trans (ag (fun L0=>CK C fl k L0 _) (bn1 (G9 C fl k K)))))
def NR{R:Type}(C:Callee)(fl k:Nat)(kx:bV R)(kn:bV R)(e0:au R)(kr:ah R):bV R:=fun t2 t9 t10 t11 h=>if decide (t11<t10)=true then kx t2 t9 t10 t11 h else e0 h
def UO(kn:bV R)(e0:au R)(kr:ah R):bV R:=NR C fl k (WQ C fl k kn e0 kr) kn e0 kr
theorem amB(cn:aa):(cp eg (ce C fl k (WO cn) K))=NR C fl k (cp eg (ce C fl k cn K)) (cp eg (K .normal)) (cp Fu (K (.exit 0))) (cp jk (K .ret)):=by kernel_rfl
theorem amC:(cp eg (ce C fl k NQ K))=UO C fl k (cp eg (K .normal)) (cp Fu (K (.exit 0))) (cp jk (K .ret)):=(amB C fl k K Fv).trans (ag (fun L0=>NR C fl k L0 _ _ _) (ae6 C fl k K))
def Kq(kn:au R)(kr:ah R):Nat→bV R
 |0=>fun _ _ _ _ _=>none
 |m+1=>UO C fl k (Kq kn kr m) kn kr
theorem WR:∀m,(cp eg (aQ m (aW C fl k NQ 0 K)))=Kq C fl k (cp Fu (K .normal)) (cp jk (K .ret)) m
 |0=>by kernel_rfl
 |m+1=>gu (amC C fl k _) (ag (fun L=>UO C fl k L _ _) (WR m))
def auy(kr:ah R):bV R:=Kq C fl k (agV C fl k kr) kr k
theorem ayk:(cp eg (ce C fl k acH K))=auy C fl k (cp jk (K .ret)):=(iP (gv (WR C fl k (bw C fl k NP K)))).trans (ag (fun L=>Kq C fl k L _ k) (iL (amA C fl k K)))
def arD{R:Type}(C:Callee)(fl k:Nat)(kx:bV R)(kr:ah R):kq R:=fun aI aJ aL bZ bY t1 h=>bJ h [vi aI,vi aJ,vs aL,vi bZ,vs bY] fun b8 h9=>kx ⟨b8,0,none⟩ t1 ((t1.l:Nat):Int) 0 h9
def aOf(kr:ah R):kq R:=arD C fl k (auy C fl k kr) kr
theorem aII(cn:aa):(cp auw (ce C fl k (auv cn) K))=arD C fl k (cp eg (ce C fl k cn K)) (cp jk (K .ret)):=by kernel_rfl
theorem aIJ:(cp auw (ce C fl k aCz K))=aOf C fl k (cp jk (K .ret)):=(aII C fl k K acH).trans (ag (fun L0=>arD C fl k L0 _) (ayk C fl k K))
def yQ(aw ax:Int)(ay:Sl)(bk:Int)(bj p1:Sl)(h:AH):Option (Value×AH):=aOf C fl k (fun y4 q=>some (vi y4,q)) aw ax ay bk bj p1 h
theorem UP(aw ax:Int)(ay:Sl)(bk:Int)(bj p1:Sl)(h):aV C fl k rB [.agg ⟨[vi aw,vi ax,vs ay,vi bk,vs bj]⟩,vs p1] h=yQ C fl k aw ax ay bk bj p1 h:=Uq (aIJ C fl k (aG _)) aw ax ay bk bj p1 (by kernel_rfl) (by kernel_rfl)
def aaI(t6:Sl):List Value:=un 6 (t6.v::un 24 [])
def NS:aa:=.seq (.region [m 30 8,m 6 30] [8,30]) (.ret)
def Rx(t8:Sl):List Value:=un 8 (t8.v::un 22 [])
abbrev wc(R:Type):=Addr→OA→Sl→Sl→Int→Int→AH→Option R
def we(t4:Addr)(t7:OA)(t8 t14:Sl)(t15 t16:Int):List Value:=un 4 (vp t4::un 2 (vn t7::t8.v::un 5 (t14.v::vi t15::vi t16::un 14 [])))
def Fx:aa:=.region [bc 29 .add 16 1,m 16 29] [29]
def WS(cn:aa):aa:=.seq (.seq (.region [cm 17 .lss 16 15] []) (.seq (.cond (.t 17) (kl [17]) (.seq (kl [4,7,14,15,16,17]) (.exit 0))) (.block 1 (.seq (.region [ia 18 1 14 16,li 19 18,m 10 19] [18,19]) (.seq (.region [m 20 7,oI 21 (.load (.agg [.int .i64,.int .i64,.slice,.int .i64,.slice]) (.t 4)),m 22 10,oI 23 (.call (.f 101) [.t 21,.t 22] (.one (.one .slice))),oI 24 (.call (.f 100) [.t 20,.t 23] (.one (.one .bool)))] [20,21,22,23]) (.cond (.t 24) (.region [m 25 8,m 26 10,oI 27 (.bq 1 [.int .i64 0] [(0,1,.t 26)]),oI 28 (.append 1 8 (.t 25) (.t 27)),m 8 28] [10,24,25,26,27,28]) (kl [10,24]))))))) cn
def NT:aa:=WS Fx
def acI:aa:=.seq (.block 0 (.loop NT)) NS
def auz(cn:aa):aa:=.seq (.seq (.region [oI 4 (.box (.t 1)),oI 6 (.mv (.c (.slice none 0 0)))] [1,6]) (.seq (.region [m 11 0,oI 12 (.build [.pointer none,.slice none 0 0,.slice none 0 0] [(0,1,.t 11)]),oI 13 (.box (.t 12)),m 7 13] [0,11,12,13]) (.seq (.region [oI 8 (.mv (.c (.slice none 0 0)))] []) (.region [m 14 2,ln 15 14,mc 16 0] [2])))) cn
def aCA:aa:=auz acI
abbrev auA(R:Type):=OA→Int→Int→Sl→Int→Sl→Sl→AH→Option R
def auB(t0:OA)(eu fA:Int)(aRM:Sl)(aQq:Int)(aQV t2:Sl):List Value:=vn t0::.agg ⟨[vi eu,vi fA,vs aRM,vi aQq,vs aQV]⟩::t2.v::un 28 []
def nu:aK:=⟨31,aCA,[.tmp 6]⟩
theorem Ry:okF Tryz.prog 66 nu=true:=by kernel_rfl
def agW{R:Type}(C:Callee)(fl k:Nat)(kr:ab R):ab R:=fun t8 h=>kr t8 h
theorem amD:(cp Rx (ce C fl k NS K))=agW C fl k (cp aaI (K .ret)):=by kernel_rfl
def WT{R:Type}(C:Callee)(fl k:Nat)(kn:wc R)(e0:ab R):wc R:=fun t4 t7 t8 t14 t15 t16 h=>kn t4 t7 t8 t14 t15 (av (t16+1)) h
theorem ae7:(cp we (ce C fl k Fx K))=WT C fl k (cp we (K .normal)) (cp Rx (K (.exit 0))):=by kernel_rfl
def NU{R:Type}(C:Callee)(fl k:Nat)(kx:wc R)(kn:wc R)(e0:ab R):wc R:=fun t4 t7 t8 t14 t15 t16 h=>if decide (t16<t15)=true then idx 1 t14 t16 fun p1=>aF .i64 h p1.block p1.off fun n2=>aF .i64 h t4.block t4.off fun n3=>aF .i64 h t4.block (t4.off+1) fun n4=>aT h t4.block (t4.off+1+1) fun s5=>aF .i64 h t4.block (t4.off+1+1+1) fun n6=>aT h t4.block (t4.off+1+1+1+1) fun s7=>aj C fl fn.qQ [.agg ⟨[vi n3,vi n4,vs s5,vi n6,vs s7]⟩,vi n2] h fun v8 h9=>aX v8 fun s10=>aj C fl fn.lH [.pointer t7,vs s10] h9 fun v11 zN=>asBool v11 fun b13=>if b13=true then bJ zN [vi n2] fun GM nX=>dn fl 1 8 t8 ⟨(some ⟨GM,0,none⟩),1,1⟩ nX fun TR yK=>kx t4 t7 TR t14 t15 t16 yK else kx t4 t7 t8 t14 t15 t16 zN else e0 t8 h
def UQ(kn:wc R)(e0:ab R):wc R:=NU C fl k (WT C fl k kn e0) kn e0
theorem amE(cn:aa):(cp we (ce C fl k (WS cn) K))=NU C fl k (cp we (ce C fl k cn K)) (cp we (K .normal)) (cp Rx (K (.exit 0))):=by kernel_rfl
theorem amF:(cp we (ce C fl k NT K))=UQ C fl k (cp we (K .normal)) (cp Rx (K (.exit 0))):=(amE C fl k K Fx).trans (ag (fun L0=>NU C fl k L0 _ _) (ae7 C fl k K))
def Kr(kn:ab R):Nat→wc R
 |0=>fun _ _ _ _ _ _ _=>none
 |m+1=>UQ C fl k (Kr kn m) kn
theorem WU:∀m,(cp we (aQ m (aW C fl k NT 0 K)))=Kr C fl k (cp Rx (K .normal)) m
 |0=>by kernel_rfl
 |m+1=>gu (amF C fl k _) (ag (fun L=>UQ C fl k L _) (WU m))
def auC(kr:ab R):wc R:=Kr C fl k (agW C fl k kr) k
theorem ayl:(cp we (ce C fl k acI K))=auC C fl k (cp aaI (K .ret)):=(iP (gv (WU C fl k (bw C fl k NS K)))).trans (ag (fun L=>Kr C fl k L k) (iL (amD C fl k K)))
def arE{R:Type}(C:Callee)(fl k:Nat)(kx:wc R)(kr:ab R):auA R:=fun t0 eu fA aRM aQq aQV t2 h=>bJ h [vi eu,vi fA,vs aRM,vi aQq,vs aQV] fun b18 Mf=>bJ Mf [.pointer t0,.slice none 0 0,.slice none 0 0] fun b20 yL=>kx ⟨b18,0,none⟩ (some ⟨b20,0,none⟩) ⟨none,0,0⟩ t2 ((t2.l:Nat):Int) 0 yL
def aOg(kr:ab R):auA R:=arE C fl k (auC C fl k kr) kr
theorem aIK(cn:aa):(cp auB (ce C fl k (auz cn) K))=arE C fl k (cp we (ce C fl k cn K)) (cp aaI (K .ret)):=by kernel_rfl
theorem aIL:(cp auB (ce C fl k aCA K))=aOg C fl k (cp aaI (K .ret)):=(aIK C fl k K acI).trans (ag (fun L0=>arE C fl k L0 _) (ayl C fl k K))
def qO(p0:OA)(cz cF:Int)(aGd:Sl)(aFV:Int)(aGn p2:Sl)(h:AH):Option (Value×AH):=aOg C fl k (fun y6 q=>some (vs y6,q)) p0 cz cF aGd aFV aGn p2 h
theorem NV(p0:OA)(cz cF:Int)(aGd:Sl)(aFV:Int)(aGn p2:Sl)(h):aV C fl k nu [.pointer p0,.agg ⟨[vi cz,vi cF,vs aGd,vi aFV,vs aGn]⟩,vs p2] h=qO C fl k p0 cz cF aGd aFV aGn p2 h:=axU (aIL C fl k (aG _)) p0 cz cF aGd aFV aGn p2 (by kernel_rfl) (by kernel_rfl)
def aaJ(t4:Addr)(t5:Int):List Value:=un 4 (vp t4::vi t5::un 80 [])
def NW:aa:=.seq (.region [m 75 6,m 76 10,fa 77 0 3,li 78 77,oI 79 (.call (.f 103) [.t 75,.t 76,.t 78] (.ke [.one .slice,.one .slice])),m 74 79,ex 80 74 0,ex 81 74 1,m 10 80] [6,74,75,76,77,78,79,80,81]) (.seq (.region [fa 82 0 3,li 83 82,m 84 10,oI 85 (.build [.int .i64 0,.slice none 0 0] [(0,1,.t 83),(1,1,.t 84)]),sI 2 4 85,mc 5 0] [3,10,82,83,84,85]) (.ret))
abbrev Fy(R:Type):=Addr→Addr→OA→Sl→AH→Option R
def Fz(t3 t4:Addr)(t6:OA)(t10:Sl):List Value:=un 3 (vp t3::vp t4::un 1 (vn t6::un 3 (t10.v::un 75 [])))
abbrev dK(R:Type):=Addr→Addr→OA→Sl→Sl→Sl→Int→Int→AH→Option R
def dL(t3 t4:Addr)(t6:OA)(t8 t9 t10:Sl)(t36 t37:Int):List Value:=un 3 (vp t3::vp t4::un 1 (vn t6::un 1 (t8.v::t9.v::t10.v::un 25 (vi t36::vi t37::un 48 []))))
def rE:aa:=.region [bc 73 .add 37 1,m 37 73] [73]
def po:aa:=.region [m 69 10,m 70 12,oI 71 (.bq 1 [.slice none 0 0] [(0,1,.t 70)]),oI 72 (.append 1 24 (.t 69) (.t 71)),m 10 72] [12,69,70,71,72]
abbrev aiA(R:Type):=Addr→Addr→OA→Sl→Sl→Sl→Sl→Int→Int→AH→Option R
def aiB(t3 t4:Addr)(t6:OA)(t8 t9 t10 t12:Sl)(t36 t37:Int):List Value:=un 3 (vp t3::vp t4::un 1 (vn t6::un 1 (t8.v::t9.v::t10.v::un 1 (t12.v::un 23 (vi t36::vi t37::un 48 [])))))
abbrev Rz(R:Type):=Addr→Addr→OA→Sl→Sl→Sl→Int→Sl→Int→Int→Sl→Int→Int→AH→Option R
def RA(t3 t4:Addr)(t6:OA)(t8 t9 t10:Sl)(t11:Int)(t12:Sl)(t36 t37:Int)(t49:Sl)(t50 t51:Int):List Value:=un 3 (vp t3::vp t4::un 1 (vn t6::un 1 (t8.v::t9.v::t10.v::vi t11::t12.v::un 23 (vi t36::vi t37::un 11 (t49.v::vi t50::vi t51::un 34 [])))))
def pq:aa:=.seq (.region [cm 52 .lss 51 50] []) (.seq (.cond (.t 52) (kl [52]) (.seq (kl [11,49,50,51,52]) (.exit 2))) (.seq (.block 3 (.seq (.region [m 53 51,ia 54 1 49 51,li 55 54,m 13 53,m 14 55] [53,54,55]) (.region [m 56 12,m 57 14,m 58 6,m 59 8,m 60 13,ia 61 1 59 60,ls 62 61,m 63 11,ia 64 1 62 63,li 65 64,oI 66 (.call (.f 104) [.t 58,.t 65] (.one (.one (.int .i64)))),ia 67 1 56 57,sI 1 67 66] [13,14,56,57,58,59,60,61,62,63,64,65,66,67]))) (.region [bc 68 .add 51 1,m 51 68] [68])))
def uc:aa:=.seq (.block 2 (.loop pq)) po
def Hb(cn:aa):aa:=.seq (.seq (.region [m 39 37,m 11 39] [39]) (.seq (.region [m 40 9,m 41 11,oI 42 (.call (.f 54) [.t 40,.t 41] (.one (.one .bool)))] [40,41]) (.seq (.cond (.t 42) (.seq (kl [11,42]) (.exit 1)) (kl [42])) (.seq (.region [fa 43 0 3,li 44 43,oI 45 (.dj 8 [.int .i64 0] (.t 44) (.t 44)),m 12 45] [43,44,45]) (.seq (.region [m 46 12,m 47 11,ia 48 1 46 47,pI (.store 1 (.t 48) (ci 1))] [46,47,48]) (.region [m 49 9,ln 50 49,mc 51 0] [])))))) cn
def Av:aa:=Hb uc
def Mq(cn fJ:aa):aa:=.seq (.block 1 fJ) cn
def FA:aa:=Mq rE Av
def WV(cn:aa):aa:=.seq (.seq (.region [cm 38 .lss 37 36] []) (.cond (.t 38) (kl [38]) (.seq (kl [8,9,36,37,38]) (.exit 0)))) cn
def NX:aa:=WV FA
def acJ:aa:=.seq (.block 0 (.loop NX)) NW
def auD(cn:aa):aa:=.seq (.seq (.region [oI 2 (.box (.t 0)),oI 3 (.box (.t 1)),oI 4 (.alloc [.int .i64 0,.slice none 0 0]),mc 5 0] [0,1,5]) (.seq (.region [oI 16 (.load (.agg [.int .i64,.int .i64,.slice]) (.t 2)),oI 17 (.load (.agg [.int .i64,.slice]) (.t 3)),oI 18 (.bq 1 [.int .i64 0,.slice none 0 0] [(0,2,.t 17)]),oI 19 (.call (.f 102) [.t 16,.t 18] (.ke [.one .l0,.one (.int .i64)])),m 15 19,ex 20 15 0,ex 21 15 1,m 6 20,m 7 21] [2,15,16,17,18,19,20,21]) (.seq (.region [m 22 7,ck 23 .neq 22 0] [22]) (.seq (.cond (.t 23) (.seq (.region [oI 24 (.build [.int .i64 0,.slice none 0 0] []),m 25 7,sI 2 4 24,m 5 25] [3,6,7,23,24,25]) (.ret)) (kl [7,23])) (.seq (.region [m 27 6,fa 28 1 3,ls 29 28,fa 30 0 3,li 31 30,oI 32 (.call (.f 103) [.t 27,.t 29,.t 31] (.ke [.one .slice,.one .slice])),m 26 32,ex 33 26 0,ex 34 26 1,m 8 33,m 9 34] [26,27,28,29,30,31,32,33,34]) (.seq (.region [oI 10 (.mv (.c (.slice none 0 0)))] []) (.region [fa 35 0 3,li 36 35,mc 37 0] [35]))))))) cn
def aCB:aa:=auD acJ
def auE(aI aJ:Int)(aL:Sl)(eu:Int)(fA:Sl):List Value:=.agg ⟨[vi aI,vi aJ,vs aL]⟩::.agg ⟨[vi eu,vs fA]⟩::un 84 []
def oM:aK:=⟨86,aCB,[.cell 4 (.agg [.int .i64,.slice]),.tmp 5]⟩
theorem UR:okF Tryz.prog 67 oM=true:=by kernel_rfl
def agX{R:Type}(C:Callee)(fl k:Nat)(kr:aY R):Fy R:=fun t3 t4 t6 t10 h=>aF .i64 h t3.block t3.off fun n1=>aj C fl fn.je [.pointer t6,vs t10,vi n1] h fun v2 h3=>aE v2 fun l4=>ar l4 fun v5 l6=>aX v5 fun s7=>ar l6 fun v8 l9=>aX v8 fun s10=>aM l9 (aF .i64 h3 t3.block t3.off fun xA=>st fl h3 t4 [vi xA,vs s7] fun zN=>kr t4 0 zN)
theorem amG:(cp Fz (ce C fl k NW K))=agX C fl k (cp aaJ (K .ret)):=by kernel_rfl
def wg{R:Type}(C:Callee)(fl k:Nat)(kn:dK R)(e0:Fy R):dK R:=fun t3 t4 t6 t8 t9 t10 t36 t37 h=>kn t3 t4 t6 t8 t9 t10 t36 (av (t37+1)) h
theorem xH:(cp dL (ce C fl k rE K))=wg C fl k (cp dL (K .normal)) (cp Fz (K (.exit 0))):=by kernel_rfl
def B2{R:Type}(C:Callee)(fl k:Nat)(kn:dK R)(e1:dK R):aiA R:=fun t3 t4 t6 t8 t9 t10 t12 t36 t37 h=>bJ h [vs t12] fun b13 h14=>dn fl 1 24 t10 ⟨(some ⟨b13,0,none⟩),1,1⟩ h14 fun Ua GN=>kn t3 t4 t6 t8 t9 Ua t36 t37 GN
theorem Ly:(cp aiB (ce C fl k po K))=B2 C fl k (cp dL (K .normal)) (cp dL (K (.exit 1))):=by kernel_rfl
def rF{R:Type}(C:Callee)(fl k:Nat)(kn:Rz R)(e2:aiA R):Rz R:=fun t3 t4 t6 t8 t9 t10 t11 t12 t36 t37 t49 t50 t51 h=>if decide (t51<t50)=true then idx 1 t49 t51 fun p17=>aF .i64 h p17.block p17.off fun JT=>idx 1 t8 t51 fun p19=>aT h p19.block p19.off fun YI=>idx 1 YI t11 fun p21=>aF .i64 h p21.block p21.off fun JU=>aj C fl fn.fR [.pointer t6,vi JU] h fun v23 vt=>asInt .i64 v23 fun HU=>idx 1 t12 JT fun p26=>st fl vt p26 [vi HU] fun h27=>kn t3 t4 t6 t8 t9 t10 t11 t12 t36 t37 t49 t50 (av (t51+1)) h27 else e2 t3 t4 t6 t8 t9 t10 t12 t36 t37 h
theorem Lz:(cp RA (ce C fl k pq K))=rF C fl k (cp RA (K .normal)) (cp aiB (K (.exit 2))):=by kernel_rfl
def lP(kn:aiA R):Nat→Rz R
 |0=>fun _ _ _ _ _ _ _ _ _ _ _ _ _ _=>none
 |m+1=>rF C fl k (lP kn m) kn
theorem yg:∀m,(cp RA (aQ m (aW C fl k pq 2 K)))=lP C fl k (cp aiB (K .normal)) m
 |0=>by kernel_rfl
 |m+1=>gu (Lz C fl k _) (ag (fun L=>rF C fl k L _) (yg m))
def Hc(kn:dK R)(e1:dK R):Rz R:=lP C fl k (B2 C fl k kn e1) k
theorem RB:(cp RA (ce C fl k uc K))=Hc C fl k (cp dL (K .normal)) (cp dL (K (.exit 1))):=(iP (gv (yg C fl k (bw C fl k po K)))).trans (ag (fun L=>lP C fl k L k) (iL (Ly C fl k K)))
def Aw{R:Type}(C:Callee)(fl k:Nat)(kx:Rz R)(kn:dK R)(e1:dK R):dK R:=fun t3 t4 t6 t8 t9 t10 t36 t37 h=>aj C fl fn.cM [vs t9,vi t37] h fun v28 h29=>asBool v28 fun b30=>if b30=true then e1 t3 t4 t6 t8 t9 t10 t36 t37 h29 else aF .i64 h29 t3.block t3.off fun n31=>qF 8 [.int .i64 0] n31 n31 h29 fun s32 h33=>idx 1 s32 t37 fun p34=>st fl h33 p34 [vi 1] fun h35=>kx t3 t4 t6 t8 t9 t10 t37 s32 t36 t37 t9 ((t9.l:Nat):Int) 0 h35
def CL(kn:dK R)(e1:dK R):dK R:=Aw C fl k (Hc C fl k kn e1) kn e1
theorem Zf(cn:aa):(cp dL (ce C fl k (Hb cn) K))=Aw C fl k (cp RA (ce C fl k cn K)) (cp dL (K .normal)) (cp dL (K (.exit 1))):=by kernel_rfl
theorem Zg:(cp dL (ce C fl k Av K))=CL C fl k (cp dL (K .normal)) (cp dL (K (.exit 1))):=(Zf C fl k K uc).trans (ag (fun L0=>Aw C fl k L0 _ _) (RB C fl k K))
def FB{R:Type}(C:Callee)(fl k:Nat)(kx:dK R)(u0:dK R)(kn:dK R)(e0:Fy R):dK R:=fun t3 t4 t6 t8 t9 t10 t36 t37 h=>u0 t3 t4 t6 t8 t9 t10 t36 t37 h
def WW(kn:dK R)(e0:Fy R):dK R:=FB C fl k (wg C fl k kn e0) (CL C fl k (wg C fl k kn e0) (wg C fl k kn e0)) kn e0
theorem ae8(cn fJ:aa):(cp dL (ce C fl k (Mq cn fJ) K))=FB C fl k (cp dL (ce C fl k cn K)) (cp dL (ce C fl k fJ (iK 1 (bw C fl k cn K)))) (cp dL (K .normal)) (cp Fz (K (.exit 0))):=by kernel_rfl
theorem ae9:(cp dL (ce C fl k FA K))=WW C fl k (cp dL (K .normal)) (cp Fz (K (.exit 0))):=(ae8 C fl k K rE Av).trans (gG (fun L0 L1=>FB C fl k L0 L1 _ _) (xH C fl k K) ((Zg C fl k (iK 1 (bw C fl k rE K))).trans (gG (fun L0 L1=>CL C fl k L0 L1) (bn1 (xH C fl k K)) (bx1 (xH C fl k K)))))
def NY{R:Type}(C:Callee)(fl k:Nat)(kx:dK R)(kn:dK R)(e0:Fy R):dK R:=fun t3 t4 t6 t8 t9 t10 t36 t37 h=>if decide (t37<t36)=true then kx t3 t4 t6 t8 t9 t10 t36 t37 h else e0 t3 t4 t6 t10 h
def US(kn:dK R)(e0:Fy R):dK R:=NY C fl k (WW C fl k kn e0) kn e0
theorem amH(cn:aa):(cp dL (ce C fl k (WV cn) K))=NY C fl k (cp dL (ce C fl k cn K)) (cp dL (K .normal)) (cp Fz (K (.exit 0))):=by kernel_rfl
theorem amI:(cp dL (ce C fl k NX K))=US C fl k (cp dL (K .normal)) (cp Fz (K (.exit 0))):=(amH C fl k K FA).trans (ag (fun L0=>NY C fl k L0 _ _) (ae9 C fl k K))
def Ks(kn:Fy R):Nat→dK R
 |0=>fun _ _ _ _ _ _ _ _ _=>none
 |m+1=>US C fl k (Ks kn m) kn
theorem WX:∀m,(cp dL (aQ m (aW C fl k NX 0 K)))=Ks C fl k (cp Fz (K .normal)) m
 |0=>by kernel_rfl
 |m+1=>gu (amI C fl k _) (ag (fun L=>US C fl k L _) (WX m))
def auF(kr:aY R):dK R:=Ks C fl k (agX C fl k kr) k
theorem aym:(cp dL (ce C fl k acJ K))=auF C fl k (cp aaJ (K .ret)):=(iP (gv (WX C fl k (bw C fl k NW K)))).trans (ag (fun L=>Ks C fl k L k) (iL (amG C fl k K)))
def arF{R:Type}(C:Callee)(fl k:Nat)(kx:dK R)(kr:aY R):bD R:=fun aI aJ aL eu fA h=>bJ h [vi aI,vi aJ,vs aL] fun b36 h37=>bJ h37 [vi eu,vs fA] fun b38 h39=>bJ h39 [.int .i64 0,.slice none 0 0] fun b40 h41=>aF .i64 h41 b36 0 fun n42=>aF .i64 h41 b36 1 fun n43=>aT h41 b36 2 fun s44=>aF .i64 h41 b38 0 fun n45=>aT h41 b38 1 fun s46=>bJ h41 [vi n45,vs s46] fun b47 h48=>aj C fl fn.c7 [.agg ⟨[vi n42,vi n43,vs s44]⟩,.slice (some ⟨b47,0,none⟩) 1 1] h48 fun v49 h50=>aE v49 fun l51=>ar l51 fun v52 l53=>ek v52 fun p54=>ar l53 fun v55 l56=>asInt .i64 v55 fun n57=>aM l56 (if (n57 !=0)=true then st fl h50 ⟨b40,0,none⟩ [vi 0,.slice none 0 0] fun h58=>kr ⟨b40,0,none⟩ n57 h58 else aT h50 b38 1 fun s59=>aF .i64 h50 b38 0 fun n60=>aj C fl fn.je [.pointer p54,vs s59,vi n60] h50 fun v61 h62=>aE v61 fun l63=>ar l63 fun v64 l65=>aX v64 fun s66=>ar l65 fun v67 l68=>aX v67 fun s69=>aM l68 (aF .i64 h62 b38 0 fun n70=>kx ⟨b38,0,none⟩ ⟨b40,0,none⟩ p54 s66 s69 ⟨none,0,0⟩ n70 0 h62))
def aOh(kr:aY R):bD R:=arF C fl k (auF C fl k kr) kr
theorem aIM(cn:aa):(cp auE (ce C fl k (auD cn) K))=arF C fl k (cp dL (ce C fl k cn K)) (cp aaJ (K .ret)):=by kernel_rfl
theorem aIN:(cp auE (ce C fl k aCB K))=aOh C fl k (cp aaJ (K .ret)):=(aIM C fl k K acJ).trans (ag (fun L0=>arF C fl k L0 _) (aym C fl k K))
def vy(aw ax:Int)(ay:Sl)(cz:Int)(cF:Sl)(h:AH):Option (Value×AH):=aOh C fl k (fun y4 y5 q=>aF .i64 q y4.block y4.off fun n71=>aT q y4.block (y4.off+1) fun s72=>some (.tuple ⟨[.agg ⟨[vi n71,vs s72]⟩,vi y5]⟩,q)) aw ax ay cz cF h
theorem RC(aw ax:Int)(ay:Sl)(cz:Int)(cF:Sl)(h):aV C fl k oM [.agg ⟨[vi aw,vi ax,vs ay]⟩,.agg ⟨[vi cz,vs cF]⟩] h=vy C fl k aw ax ay cz cF h:=oY (aIN C fl k (aG _)) aw ax ay cz cF (by kernel_rfl) (by kernel_rfl)
def aIO(t2:Addr):List Value:=un 2 (vp t2::un 5 [])
def aCC:aa:=.seq (.region [oI 1 (.box (.t 0)),oI 2 (.alloc [.int .i64 0,.slice none 0 0])] [0]) (.seq (.region [fa 3 3 1,li 4 3,fa 5 4 1,ls 6 5,oI 7 (.build [.int .i64 0,.slice none 0 0] [(0,1,.t 4),(1,1,.t 6)]),sI 2 2 7] [1,3,4,5,6,7]) (.ret))
def aIP(aI aJ:Int)(aL:Sl)(bZ:Int)(bY:Sl):List Value:=.agg ⟨[vi aI,vi aJ,vs aL,vi bZ,vs bY]⟩::un 7 []
def FC:aK:=⟨8,aCC,[.cell 2 (.agg [.int .i64,.slice])]⟩
theorem amJ:okF Tryz.prog 68 FC=true:=by kernel_rfl
def aCD{R:Type}(C:Callee)(fl k:Nat)(kr:B1 R):bD R:=fun aI aJ aL bZ bY h=>bJ h [vi aI,vi aJ,vs aL,vi bZ,vs bY] fun b1 h2=>bJ h2 [.int .i64 0,.slice none 0 0] fun b3 h4=>aF .i64 h4 b1 3 fun n5=>aT h4 b1 4 fun s6=>st fl h4 ⟨b3,0,none⟩ [vi n5,vs s6] fun h7=>kr ⟨b3,0,none⟩ h7
theorem aIQ:(cp aIP (ce C fl k aCC K))=aCD C fl k (cp aIO (K .ret)):=by kernel_rfl
def Dr(aw ax:Int)(ay:Sl)(bk:Int)(bj:Sl)(h:AH):Option (Value×AH):=aCD C fl k (fun y2 q=>aF .i64 q y2.block y2.off fun n8=>aT q y2.block (y2.off+1) fun s9=>some (.agg ⟨[vi n8,vs s9]⟩,q)) aw ax ay bk bj h
theorem RD(aw ax:Int)(ay:Sl)(bk:Int)(bj:Sl)(h):aV C fl k FC [.agg ⟨[vi aw,vi ax,vs ay,vi bk,vs bj]⟩] h=Dr C fl k aw ax ay bk bj h:=oY (aIQ C fl k (aG _)) aw ax ay bk bj (by kernel_rfl) (by kernel_rfl)
def aIR(t6:Addr)(t7:Int):List Value:=un 6 (vp t6::vi t7::un 11 [])
def aCE:aa:=.seq (.region [oI 3 (.box (.t 0)),oI 4 (.box (.t 1)),oI 6 (.alloc [.int .i64 0,.int .i64 0,.slice none 0 0,.int .i64 0,.slice none 0 0]),mc 7 0] [0,1,7]) (.seq (.region [m 8 2,ck 9 .neq 8 0] [8]) (.seq (.cond (.t 9) (.seq (.region [oI 10 (.build [.int .i64 0,.int .i64 0,.slice none 0 0,.int .i64 0,.slice none 0 0] []),m 11 2,sI 5 6 10,m 7 11] [2,3,4,9,10,11]) (.ret)) (kl [2,9])) (.seq (.region [oJ 12 (.load (.agg [.int .i64,.int .i64,.slice]) (.t 3)),oJ 13 (.call (.f 105) [.t 12] (.one (.agg [.int .i64,.int .i64,.slice]))),fa 14 0 4,lj 15 14,fa 16 1 4,lt 17 16,oI 18 (.build [.int .i64 0,.int .i64 0,.slice none 0 0,.int .i64 0,.slice none 0 0] [(0,3,.t 13),(3,1,.t 15),(4,1,.t 17)]),sI 5 6 18,mc 7 0] [3,4,12,13,14,15,16,17,18]) (.ret))))
def aIS(aI aJ:Int)(aL:Sl)(eu:Int)(fA:Sl)(t2:Int):List Value:=.agg ⟨[vi aI,vi aJ,vs aL]⟩::.agg ⟨[vi eu,vs fA]⟩::vi t2::un 16 []
def Kt:aK:=⟨19,aCE,[.cell 6 (.agg [.int .i64,.int .i64,.slice,.int .i64,.slice]),.tmp 7]⟩
theorem arG:okF Tryz.prog 69 Kt=true:=by kernel_rfl
def aOi{R:Type}(C:Callee)(fl k:Nat)(kr:aY R):gS R:=fun aI aJ aL eu fA t2 h=>bJ h [vi aI,vi aJ,vs aL] fun b1 h2=>bJ h2 [vi eu,vs fA] fun b3 h4=>bJ h4 [.int .i64 0,.int .i64 0,.slice none 0 0,.int .i64 0,.slice none 0 0] fun b5 h6=>if (t2 !=0)=true then st fl h6 ⟨b5,0,none⟩ [vi 0,vi 0,.slice none 0 0,vi 0,.slice none 0 0] fun h7=>kr ⟨b5,0,none⟩ t2 h7 else aF .i64 h6 b1 0 fun n8=>aF .i64 h6 b1 1 fun n9=>aT h6 b1 2 fun s10=>aj C h6.next fn.QR [.agg ⟨[vi n8,vi n9,vs s10]⟩] h6 fun v11 zN=>asAgg v11 fun l13=>ar l13 fun v14 l15=>asInt .i64 v14 fun HT=>ar l15 fun v17 l18=>asInt .i64 v17 fun TX=>ar l18 fun v20 l21=>aX v20 fun s22=>aM l21 (aF .i64 zN b3 0 fun n23=>aT zN b3 1 fun s24=>st fl zN ⟨b5,0,none⟩ [vi HT,vi TX,vs s22,vi n23,vs s24] fun h25=>kr ⟨b5,0,none⟩ 0 h25)
theorem aIT:(cp aIS (ce C fl k aCE K))=aOi C fl k (cp aIR (K .ret)):=by kernel_rfl
def aaw(aw ax:Int)(ay:Sl)(cz:Int)(cF:Sl)(p2:Int)(h:AH):Option (Value×AH):=aOi C fl k (fun y6 y7 q=>aF .i64 q y6.block y6.off fun EI=>aF .i64 q y6.block (y6.off+1) fun n27=>aT q y6.block (y6.off+1+1) fun s28=>aF .i64 q y6.block (y6.off+1+1+1) fun n29=>aT q y6.block (y6.off+1+1+1+1) fun s30=>some (.tuple ⟨[.agg ⟨[vi EI,vi n27,vs s28,vi n29,vs s30]⟩,vi y7]⟩,q)) aw ax ay cz cF p2 h
theorem amK(aw ax:Int)(ay:Sl)(cz:Int)(cF:Sl)(p2:Int)(h):aV C fl k Kt [.agg ⟨[vi aw,vi ax,vs ay]⟩,.agg ⟨[vi cz,vs cF]⟩,vi p2] h=aaw C fl k aw ax ay cz cF p2 h:=Uq (aIT C fl k (aG _)) aw ax ay cz cF p2 (by kernel_rfl) (by kernel_rfl)
def Ku(t4:Int):List Value:=un 4 (vi t4::un 14 [])
def NZ:aa:=.seq (.region [mc 4 0] []) (.ret)
def aiC:List Value:=un 19 []
abbrev RE(R:Type):=Sl→Addr→Int→AH→Option R
def RG(t1:Sl)(t2:Addr)(t5:Int):List Value:=un 1 (t1.v::vp t2::un 2 (vi t5::un 13 []))
def N0:aa:=.seq (.region [m 6 5,m 7 1,ln 8 7,cm 9 .lss 6 8] [6,7,8]) (.seq (.cond (.t 9) (kl [9]) (.seq (kl [1,2,5,9]) (.exit 0))) (.seq (.block 1 (.seq (.region [oJ 12 (.load (.agg [.int .i64,.int .i64,.slice]) (.t 2)),m 13 1,m 14 5,ia 15 1 13 14,lj 16 15,oI 17 (.call (.f 106) [.t 12,.t 16] (.one (.one .bool))),no 18 17] [12,13,14,15,16,17]) (.cond (.t 18) (.seq (.region [mc 4 2] [1,2,5,18]) (.ret)) (kl [18])))) (.region [m 10 5,bc 11 .add 10 1,m 5 11] [10,11])))
def acK:aa:=.seq (.block 0 (.loop N0)) NZ
def auG(cn:aa):aa:=.seq (.seq (.region [oI 2 (.box (.t 0)),mc 4 0] [0,4]) (.region [mc 5 0] [])) cn
def aCF:aa:=auG acK
abbrev B3(R:Type):=Int→Int→Sl→Sl→AH→Option R
def auH(aI aJ:Int)(aL t1:Sl):List Value:=.agg ⟨[vi aI,vi aJ,vs aL]⟩::t1.v::un 17 []
def oN:aK:=⟨19,aCF,[.tmp 4]⟩
theorem UT:okF Tryz.prog 70 oN=true:=by kernel_rfl
def UU{R:Type}(C:Callee)(fl k:Nat)(kr:ah R):au R:=fun h=>kr 0 h
theorem amL:(cp aiC (ce C fl k NZ K))=UU C fl k (cp Ku (K .ret)):=by kernel_rfl
def ud{R:Type}(C:Callee)(fl k:Nat)(kn:RE R)(e0:au R)(kr:ah R):RE R:=fun t1 t2 t5 h=>if decide (t5<((t1.l:Nat):Int))=true then aF .i64 h t2.block t2.off fun n1=>aF .i64 h t2.block (t2.off+1) fun n2=>aT h t2.block (t2.off+1+1) fun s3=>idx 1 t1 t5 fun p4=>aF .i64 h p4.block p4.off fun n5=>aj C fl fn.my [.agg ⟨[vi n1,vi n2,vs s3]⟩,vi n5] h fun v6 h7=>asBool v6 fun b8=>if (!b8)=true then kr 2 h7 else kn t1 t2 (av (t5+1)) h7 else e0 h
theorem amM:(cp RG (ce C fl k N0 K))=ud C fl k (cp RG (K .normal)) (cp aiC (K (.exit 0))) (cp Ku (K .ret)):=by kernel_rfl
def ue(kn:au R)(kr:ah R):Nat→RE R
 |0=>fun _ _ _ _=>none
 |m+1=>ud C fl k (ue kn kr m) kn kr
theorem WY:∀m,(cp RG (aQ m (aW C fl k N0 0 K)))=ue C fl k (cp aiC (K .normal)) (cp Ku (K .ret)) m
 |0=>by kernel_rfl
 |m+1=>gu (amM C fl k _) (ag (fun L=>ud C fl k L _ _) (WY m))
def auI(kr:ah R):RE R:=ue C fl k (UU C fl k kr) kr k
theorem ayn:(cp RG (ce C fl k acK K))=auI C fl k (cp Ku (K .ret)):=(iP (gv (WY C fl k (bw C fl k NZ K)))).trans (ag (fun L=>ue C fl k L _ k) (iL (amL C fl k K)))
def aiD{R:Type}(C:Callee)(fl k:Nat)(kx:RE R)(kr:ah R):B3 R:=fun aI aJ aL t1 h=>bJ h [vi aI,vi aJ,vs aL] fun b9 sU=>kx t1 ⟨b9,0,none⟩ 0 sU
def aCG(kr:ah R):B3 R:=aiD C fl k (auI C fl k kr) kr
theorem aIU(cn:aa):(cp auH (ce C fl k (auG cn) K))=aiD C fl k (cp RG (ce C fl k cn K)) (cp Ku (K .ret)):=by kernel_rfl
theorem aIV:(cp auH (ce C fl k aCF K))=aCG C fl k (cp Ku (K .ret)):=(aIU C fl k K acK).trans (ag (fun L0=>aiD C fl k L0 _) (ayn C fl k K))
def k9(aw ax:Int)(ay p1:Sl)(h:AH):Option (Value×AH):=aCG C fl k (fun y4 q=>some (vi y4,q)) aw ax ay p1 h
theorem RH(aw ax:Int)(ay p1:Sl)(h):aV C fl k oN [.agg ⟨[vi aw,vi ax,vs ay]⟩,vs p1] h=k9 C fl k aw ax ay p1 h:=QS (aIV C fl k (aG _)) aw ax ay p1 (by kernel_rfl) (by kernel_rfl)
def aIW(t4:Addr)(t5:Sl)(t6:Int):List Value:=un 4 (vp t4::t5.v::vi t6::un 29 [])
def aCH:aa:=.seq (.region [oI 2 (.box (.t 0)),oI 3 (.box (.t 1)),oI 4 (.alloc [.int .i64 0,.slice none 0 0]),oI 5 (.mv (.c (.slice none 0 0))),mc 6 0] [0,1,5,6]) (.seq (.region [oI 12 (.load (.agg [.int .i64,.int .i64,.slice]) (.t 2)),oI 13 (.load (.agg [.int .i64,.slice]) (.t 3)),oI 14 (.bq 1 [.int .i64 0,.slice none 0 0] [(0,2,.t 13)]),oI 15 (.call (.f 102) [.t 12,.t 14] (.ke [.one .l0,.one (.int .i64)])),m 11 15,ex 16 11 0,ex 17 11 1,m 7 16,m 8 17] [2,11,12,13,14,15,16,17]) (.seq (.region [m 18 8,ck 19 .neq 18 0] [18]) (.seq (.cond (.t 19) (.seq (.region [oI 20 (.build [.int .i64 0,.slice none 0 0] []),m 21 8,sI 2 4 20,oI 5 (.mv (.c (.slice none 0 0))),m 6 21] [3,7,8,19,20,21]) (.ret)) (kl [8,19])) (.seq (.region [m 23 7,fa 24 1 3,ls 25 24,fa 26 0 3,li 27 26,oI 28 (.call (.f 103) [.t 23,.t 25,.t 27] (.ke [.one .slice,.one .slice])),m 22 28,ex 29 22 0,ex 30 22 1,m 9 29,m 10 30] [7,22,23,24,25,26,27,28,29,30]) (.seq (.region [fa 31 0 3,li 32 31,m 33 9,oI 34 (.build [.int .i64 0,.slice none 0 0] [(0,1,.t 32),(1,1,.t 33)]),m 35 10,sI 2 4 34,m 5 35,mc 6 0] [3,9,10,31,32,33,34,35]) (.ret))))))
def aIX(aI aJ:Int)(aL:Sl)(eu:Int)(fA:Sl):List Value:=.agg ⟨[vi aI,vi aJ,vs aL]⟩::.agg ⟨[vi eu,vs fA]⟩::un 34 []
def ky:aK:=⟨36,aCH,[.cell 4 (.agg [.int .i64,.slice]),.tmp 5,.tmp 6]⟩
theorem LA:okF Tryz.prog 73 ky=true:=by kernel_rfl
def auJ{R:Type}(C:Callee)(fl k:Nat)(kr:bl R):bD R:=fun aI aJ aL eu fA h=>bJ h [vi aI,vi aJ,vs aL] fun b1 h2=>bJ h2 [vi eu,vs fA] fun b3 h4=>bJ h4 [.int .i64 0,.slice none 0 0] fun b5 h6=>aF .i64 h6 b1 0 fun n7=>aF .i64 h6 b1 1 fun n8=>aT h6 b1 2 fun s9=>aF .i64 h6 b3 0 fun mb=>aT h6 b3 1 fun EG=>bJ h6 [vi mb,vs EG] fun b12 qB=>aj C fl fn.c7 [.agg ⟨[vi n7,vi n8,vs s9]⟩,.slice (some ⟨b12,0,none⟩) 1 1] qB fun v14 nX=>aE v14 fun l16=>ar l16 fun v17 l18=>ek v17 fun p19=>ar l18 fun v20 l21=>asInt .i64 v20 fun JU=>aM l21 (if (JU !=0)=true then st fl nX ⟨b5,0,none⟩ [vi 0,.slice none 0 0] fun YH=>kr ⟨b5,0,none⟩ ⟨none,0,0⟩ JU YH else aT nX b3 1 fun s24=>aF .i64 nX b3 0 fun HU=>aj C fl fn.je [.pointer p19,vs s24,vi HU] nX fun v26 h27=>aE v26 fun l28=>ar l28 fun v29 l30=>aX v29 fun s31=>ar l30 fun v32 l33=>aX v32 fun s34=>aM l33 (aF .i64 h27 b3 0 fun n35=>st fl h27 ⟨b5,0,none⟩ [vi n35,vs s31] fun Qj=>kr ⟨b5,0,none⟩ s34 0 Qj))
theorem aIY:(cp aIX (ce C fl k aCH K))=auJ C fl k (cp aIW (K .ret)):=by kernel_rfl
def cD(aw ax:Int)(ay:Sl)(cz:Int)(cF:Sl)(h:AH):Option (Value×AH):=auJ C fl k (fun y4 y5 y6 q=>aF .i64 q y4.block y4.off fun n37=>aT q y4.block (y4.off+1) fun s38=>some (.tuple ⟨[.agg ⟨[vi n37,vs s38]⟩,vs y5,vi y6]⟩,q)) aw ax ay cz cF h
theorem xr(aw ax:Int)(ay:Sl)(cz:Int)(cF:Sl)(h):aV C fl k ky [.agg ⟨[vi aw,vi ax,vs ay]⟩,.agg ⟨[vi cz,vs cF]⟩] h=cD C fl k aw ax ay cz cF h:=oY (aIY C fl k (aG _)) aw ax ay cz cF (by kernel_rfl) (by kernel_rfl)
def aIZ(t2:Int):List Value:=un 2 (vi t2::un 6 [])
def aCI:aa:=.seq (.region [mc 2 0] [2]) (.seq (.region [m 3 0,ck 4 .lss 3 1,m 5 4,.gL 5 false [qI 6 (.mv (.t 0)),qI 7 (.cmp .gtr .i64 (.t 6) (ci 64))],oI 8 (.pick (.t 5) (.c (.bool true)) (.t 7))] [0,3,4,5,6,7]) (.seq (.cond (.t 8) (.seq (.region [mc 2 4] [8]) (.ret)) (kl [8])) (.seq (.region [mc 2 0] []) (.ret))))
def aI0(t0:Int):List Value:=vi t0::un 8 []
def wh:aK:=⟨9,aCI,[.tmp 2]⟩
theorem acL:okF Tryz.prog 74 wh=true:=by kernel_rfl
def aCJ{R:Type}(C:Callee)(fl k:Nat)(kr:ah R):ah R:=fun t0 h=>if decide (t0<1)=false then if decide (t0>64)=true then kr 4 h else kr 0 h else kr 4 h
theorem aI1:(cp aI0 (ce C fl k aCI K))=aCJ C fl k (cp aIZ (K .ret)):=by kernel_rfl
def mo(p0:Int)(h:AH):Option (Value×AH):=aCJ C fl k (fun y2 q=>some (vi y2,q)) p0 h
theorem Hd(p0:Int)(h):aV C fl k wh [vi p0] h=mo C fl k p0 h:=IU (aI1 C fl k (aG _)) p0 (by kernel_rfl) (by kernel_rfl)
def aaK(t2:OA)(t3:Int):List Value:=un 2 (vn t2::vi t3::un 49 [])
def N1:aa:=.seq (.region [m 52 6,m 2 52,mc 3 0] [6,52]) (.ret)
abbrev wi(R:Type):=OA→AH→Option R
def aiE(t6:OA):List Value:=un 6 (vn t6::un 46 [])
abbrev eZ(R:Type):=OA→Sl→Int→Int→AH→Option R
def RI(t6:OA)(t37:Sl)(t38 t39:Int):List Value:=un 6 (vn t6::un 30 (t37.v::vi t38::vi t39::un 13 []))
def N2:aa:=.seq (.region [cm 40 .lss 39 38] []) (.seq (.cond (.t 40) (kl [40]) (.seq (kl [37,38,39,40]) (.exit 0))) (.seq (.block 1 (.seq (.region [m 41 39,ia 42 1 37 39,li 43 42,m 7 41,m 8 43] [41,42,43]) (.region [m 44 6,oI 45 (.cQ (.t 44)),fa 46 5 45,ls 47 46,m 48 8,m 49 7,ia 50 1 47 48,sI 1 50 49] [7,8,44,45,46,47,48,49,50]))) (.region [bc 51 .add 39 1,m 39 51] [51])))
def acM:aa:=.seq (.block 0 (.loop N2)) N1
def auK(cn:aa):aa:=.seq (.seq (.region [oI 1 (.box (.t 0)),oI 2 (.mv (.c (.pointer none))),mc 3 0] [0,2,3]) (.seq (.region [oI 9 (.load (.agg [.int .i64,.int .i64,.slice]) (.t 1)),oI 10 (.call (.f 112) [.t 9] (.one (.one .bool))),no 11 10] [9,10]) (.seq (.cond (.t 11) (.seq (.region [oI 2 (.mv (.c (.pointer none))),mc 3 1] [1,11]) (.ret)) (kl [11])) (.seq (.region [fa 12 0 1,li 13 12,fa 14 1 1,li 15 14,oI 16 (.call (.f 113) [.t 13,.t 15] (.one (.one (.int .i64)))),m 4 16] [12,13,14,15,16]) (.seq (.region [oI 17 (.load (.agg [.int .i64,.int .i64,.slice]) (.t 1)),m 18 4,oI 19 (.call (.f 114) [.t 17,.t 18] (.one (.one .slice))),m 5 19] [17,18,19]) (.seq (.region [m 20 5,oI 21 (.TQ false (.t 20))] [20]) (.seq (.cond (.t 21) (.seq (.region [oI 2 (.mv (.c (.pointer none))),mc 3 1] [1,4,5,21]) (.ret)) (kl [21])) (.seq (.region [fa 22 0 1,lj 23 22,fa 24 1 1,lj 25 24,oJ 26 (.bq 0 [] []),fa 27 2 1,lt 28 27,oJ 29 (.append 1 8 (.t 26) (.t 28)),oI 30 (.build [.int .i64 0,.int .i64 0,.slice none 0 0] [(0,1,.t 23),(1,1,.t 25),(2,1,.t 29)]),m 31 4,m 32 5,m 33 4,oJ 34 (.dj 8 [.int .i64 0] (.t 33) (.t 33)),oI 35 (.build [.int .i64 0,.int .i64 0,.slice none 0 0,.int .i64 0,.slice none 0 0,.slice none 0 0] [(0,3,.t 30),(3,1,.t 31),(4,1,.t 32),(5,1,.t 34)]),oI 36 (.box (.t 35)),m 6 36] [1,4,22,23,24,25,26,27,28,29,30,31,32,33,34,35,36]) (.region [m 37 5,ln 38 37,mc 39 0] [5]))))))))) cn
def aCK:aa:=auK acM
def auL(aI aJ:Int)(aL:Sl):List Value:=.agg ⟨[vi aI,vi aJ,vs aL]⟩::un 52 []
def B4:aK:=⟨53,aCK,[.tmp 2,.tmp 3]⟩
theorem aiF:okF Tryz.prog 75 B4=true:=by kernel_rfl
def UW{R:Type}(C:Callee)(fl k:Nat)(kr:di R):wi R:=fun t6 h=>kr t6 0 h
theorem amN:(cp aiE (ce C fl k N1 K))=UW C fl k (cp aaK (K .ret)):=by kernel_rfl
def uf{R:Type}(C:Callee)(fl k:Nat)(kn:eZ R)(e0:wi R):eZ R:=fun t6 t37 t38 t39 h=>if decide (t39<t38)=true then idx 1 t37 t39 fun p1=>aF .i64 h p1.block p1.off fun n2=>bz (.pointer t6) fun p3=>aT h p3.block (p3.off+5) fun s4=>idx 1 s4 n2 fun p5=>st fl h p5 [vi t39] fun h6=>kn t6 t37 t38 (av (t39+1)) h6 else e0 t6 h
theorem amO:(cp RI (ce C fl k N2 K))=uf C fl k (cp RI (K .normal)) (cp aiE (K (.exit 0))):=by kernel_rfl
def DB(kn:wi R):Nat→eZ R
 |0=>fun _ _ _ _ _=>none
 |m+1=>uf C fl k (DB kn m) kn
theorem WZ:∀m,(cp RI (aQ m (aW C fl k N2 0 K)))=DB C fl k (cp aiE (K .normal)) m
 |0=>by kernel_rfl
 |m+1=>gu (amO C fl k _) (ag (fun L=>uf C fl k L _) (WZ m))
def aiG(kr:di R):eZ R:=DB C fl k (UW C fl k kr) k
theorem ayo:(cp RI (ce C fl k acM K))=aiG C fl k (cp aaK (K .ret)):=(iP (gv (WZ C fl k (bw C fl k N1 K)))).trans (ag (fun L=>DB C fl k L k) (iL (amN C fl k K)))
def UX{R:Type}(C:Callee)(fl k:Nat)(kx:eZ R)(kr:di R):kv R:=fun aI aJ aL h=>bJ h [vi aI,vi aJ,vs aL] fun b7 h8=>aF .i64 h8 b7 0 fun n9=>aF .i64 h8 b7 1 fun mb=>aT h8 b7 2 fun EG=>aj C fl fn.mA [.agg ⟨[vi n9,vi mb,vs EG]⟩] h8 fun V3 qB=>asBool V3 fun GM=>if (!GM)=true then kr none 1 qB else aF .i64 qB b7 0 fun qD=>aF .i64 qB b7 1 fun HT=>aj C fl fn.jf [vi qD,vi HT] qB fun v17 JR=>asInt .i64 v17 fun TX=>aF .i64 JR b7 0 fun n20=>aF .i64 JR b7 1 fun n21=>aT JR b7 2 fun s22=>aj C fl fn.cX [.agg ⟨[vi n20,vi n21,vs s22]⟩,vi TX] JR fun v23 vt=>aX v23 fun s25=>if s25.a.isNone=true then kr none 1 vt else aF .i64 vt b7 0 fun EI=>aF .i64 vt b7 1 fun n27=>bJ vt [] fun b28 h29=>aT h29 b7 2 fun s30=>dn h29.next 1 8 ⟨(some ⟨b28,0,none⟩),0,0⟩ s30 h29 fun s31 Qp=>qF 8 [.int .i64 0] TX TX Qp fun s33 h34=>bJ h34 [vi EI,vi n27,vs s31,vi TX,vs s25,vs s33] fun b35 Qj=>kx (some ⟨b35,0,none⟩) s25 ((s25.l:Nat):Int) 0 Qj
def amP(kr:di R):kv R:=UX C fl k (aiG C fl k kr) kr
theorem aI2(cn:aa):(cp auL (ce C fl k (auK cn) K))=UX C fl k (cp RI (ce C fl k cn K)) (cp aaK (K .ret)):=by kernel_rfl
theorem aI3:(cp auL (ce C fl k aCK K))=amP C fl k (cp aaK (K .ret)):=(aI2 C fl k K acM).trans (ag (fun L0=>UX C fl k L0 _) (ayo C fl k K))
def fB(aw ax:Int)(ay:Sl)(h:AH):Option (Value×AH):=amP C fl k (fun y2 y3 q=>some (.tuple ⟨[.pointer y2,vi y3]⟩,q)) aw ax ay h
theorem Mr(aw ax:Int)(ay:Sl)(h):aV C fl k B4 [.agg ⟨[vi aw,vi ax,vs ay]⟩] h=fB C fl k aw ax ay h:=tG (aI3 C fl k (aG _)) aw ax ay (by kernel_rfl) (by kernel_rfl)
def auM:List Value:=un 40 []
def aCL:aa:=.seq (.region [m 10 0,ln 11 10,ck 12 .eql 11 0] [10,11]) (.seq (.cond (.t 12) (.seq (kl [0,1,2,3,4,5,6,12]) .ret) (kl [12])) (.seq (.region [m 13 2,fa 14 3 3,li 15 14,cm 16 .eql 13 15] [3,13,14,15]) (.seq (.cond (.t 16) (.seq (.region [ls 17 4,m 18 1,m 19 0,ln 20 19,ia 21 1 17 18,sI 1 21 20] [0,1,2,4,5,6,16,17,18,19,20,21]) (.ret)) (kl [4,16])) (.seq (.region [oI 22 (.load (.one .any) (.t 5)),m 23 0,m 24 1,m 25 2,oI 26 (.sh true .i64 .i64 (ci 1) (.t 25)),bb 27 .or 24 26,m 28 2,bc 29 .add 28 1,oI 30 (.call (.t 22) [.t 23,.t 27,.t 29] (.ke []))] [22,23,24,25,26,27,28,29,30]) (.region [oJ 31 (.load (.one .any) (.t 5)),oJ 32 (.load (.one .l0) (.t 6)),m 33 0,m 34 2,oJ 35 (.call (.f 77) [.t 32,.t 33,.t 34] (.one (.one .slice))),m 36 1,m 37 2,bc 38 .add 37 1,oI 39 (.call (.t 31) [.t 35,.t 36,.t 38] (.ke []))] [0,1,2,5,6,31,32,33,34,35,36,37,38,39])))))
abbrev aI4(R:Type):=Sl→Int→Int→Addr→Addr→Addr→Addr→AH→Option R
def aI5(t0:Sl)(t1 t2:Int)(t3 t4 t5 t6:Addr):List Value:=t0.v::vi t1::vi t2::vp t3::vp t4::vp t5::vp t6::un 33 []
def kA:aK:=⟨40,aCL,[]⟩
theorem LC:okF Tryz.prog 76 kA=true:=by kernel_rfl
def agY{R:Type}(C:Callee)(fl k:Nat)(kn:au R)(kr:au R):aI4 R:=fun t0 t1 t2 t3 t4 t5 t6 h=>if (((t0.l:Nat):Int)==0)=true then kr h else aF .i64 h t3.block (t3.off+3) fun n1=>if (t2==n1)=true then aT h t4.block t4.off fun s2=>idx 1 s2 t1 fun p3=>st fl h p3 [vi ((t0.l:Nat):Int)] fun h4=>kr h4 else ldV h t5.block t5.off fun v5=>shQ true .i64 1 t2 fun n6=>j6 .or .i64 t1 n6 fun n7=>mh C fl v5 [vs t0,vi n7,vi (av (t2+1))] h fun v8 h9=>aE v8 fun l10=>aM l10 (ldV h9 t5.block t5.off fun v11=>ldN h9 t6.block t6.off fun MR=>aj C h9.next fn.de [.pointer MR,vs t0,vi t2] h9 fun v13 h14=>aX v13 fun Ua=>mh C fl v11 [vs Ua,vi t1,vi (av (t2+1))] h14 fun v16 yK=>aE v16 fun l18=>aM l18 (kn yK))
theorem aI6:(cp aI5 (ce C fl k aCL K))=agY C fl k (cp auM (K .normal)) (cp auM (K .ret)):=by kernel_rfl
def bm(p0:Sl)(p1 p2:Int)(p3 p4 p5 p6:Addr)(h:AH):Option (Value×AH):=agY C fl k (fun q=>some (.tuple ⟨[]⟩,q)) (fun q=>some (.tuple ⟨[]⟩,q)) p0 p1 p2 p3 p4 p5 p6 h
theorem mF(p0:Sl)(p1 p2:Int)(p3 p4 p5 p6:Addr)(h):aV C fl k kA [vs p0,vi p1,vi p2,.pointer (some p3),.pointer (some p4),.pointer (some p5),.pointer (some p6)] h=bm C fl k p0 p1 p2 p3 p4 p5 p6 h:=axU (aI6 C fl k (aG _)) p0 p1 p2 p3 p4 p5 p6 (by kernel_rfl) (by kernel_rfl)
def aaL(t6:Sl):List Value:=un 6 (t6.v::un 77 [])
def N3:aa:=.seq (.region [m 83 8,m 6 83] [8,83]) (.ret)
def FE(t8:Sl):List Value:=un 8 (t8.v::un 75 [])
abbrev dp(R:Type):=OA→Sl→Addr→Int→Sl→Sl→Int→Int→AH→Option R
def dq(t0:OA)(t1:Sl)(t5:Addr)(t7:Int)(t8 t21:Sl)(t22 t23:Int):List Value:=vn t0::t1.v::un 3 (vp t5::un 1 (vi t7::t8.v::un 12 (t21.v::vi t22::vi t23::un 60 [])))
def rG:aa:=.region [bc 82 .add 23 1,m 23 82] [82]
def kB:aa:=.region [m 78 8,m 79 10,oI 80 (.bq 1 [.slice none 0 0] [(0,1,.t 79)]),oI 81 (.append 1 24 (.t 78) (.t 80)),m 8 81] [10,78,79,80,81]
abbrev B5(R:Type):=OA→Sl→Addr→Int→Sl→Sl→Sl→Int→Int→AH→Option R
def FF(t0:OA)(t1:Sl)(t5:Addr)(t7:Int)(t8 t10 t21:Sl)(t22 t23:Int):List Value:=vn t0::t1.v::un 3 (vp t5::un 1 (vi t7::t8.v::un 1 (t10.v::un 10 (t21.v::vi t22::vi t23::un 60 []))))
abbrev RJ(R:Type):=OA→Sl→Addr→Int→Sl→Sl→Int→Sl→Int→Int→Sl→Int→Int→AH→Option R
def RK(t0:OA)(t1:Sl)(t5:Addr)(t7:Int)(t8 t10:Sl)(t11:Int)(t21:Sl)(t22 t23:Int)(t57:Sl)(t58 t59:Int):List Value:=vn t0::t1.v::un 3 (vp t5::un 1 (vi t7::t8.v::un 1 (t10.v::vi t11::un 9 (t21.v::vi t22::vi t23::un 33 (t57.v::vi t58::vi t59::un 24 [])))))
def kC:aa:=.seq (.region [cm 60 .lss 59 58] []) (.seq (.cond (.t 60) (kl [60]) (.seq (kl [11,57,58,59,60]) (.exit 2))) (.seq (.block 3 (.seq (.region [m 61 59,ia 62 1 57 59,li 63 62,m 13 61,m 14 63] [61,62,63]) (.region [m 64 10,m 65 13,m 66 0,m 67 10,m 68 13,ia 69 1 67 68,lj 70 69,m 71 0,m 72 11,m 73 14,oJ 74 (.call (.f 120) [.t 71,.t 72,.t 73] (.one (.one (.int .i64)))),oI 75 (.call (.f 119) [.t 66,.t 70,.t 74] (.one (.one (.int .i64)))),ia 76 1 64 65,sI 1 76 75] [13,14,64,65,66,67,68,69,70,71,72,73,74,75,76]))) (.region [bc 77 .add 59 1,m 59 77] [77])))
def mG:aa:=.block 2 (.loop kC)
def yh(cn:aa):aa:=.seq (.seq (.region [m 37 0,m 38 10,lj 39 5,ia 40 1 38 39,lj 41 40,m 42 1,m 43 7,ia 44 1 42 43,lt 45 44,lj 46 5,ia 47 1 45 46,lj 48 47,oI 49 (.call (.f 117) [.t 37,.t 41,.t 48] (.ke [.one (.int .i64),.one (.int .i64)])),m 36 49,ex 50 36 0,ex 51 36 1,m 11 50,m 12 51] [12,35,36,37,38,39,40,41,42,43,44,45,46,47,48,49,50,51]) (.seq (.region [m 52 10,oI 53 (.call (.f 118) [.t 52] (.one (.one .slice))),m 10 53] [52,53]) (.region [m 54 1,m 55 7,ia 56 1 54 55,ls 57 56,ln 58 57,mc 59 0] [54,55,56]))) cn
def px:aa:=yh mG
abbrev Kv(R:Type):=OA→Sl→Addr→Int→Sl→Sl→Sl→Int→Int→Bool→AH→Option R
def Kw(t0:OA)(t1:Sl)(t5:Addr)(t7:Int)(t8 t10 t21:Sl)(t22 t23:Int)(t35:Bool):List Value:=vn t0::t1.v::un 3 (vp t5::un 1 (vi t7::t8.v::un 1 (t10.v::un 10 (t21.v::vi t22::vi t23::un 11 (.bool t35::un 48 [])))))
def B6(cn fJ:aa):aa:=.seq (.cond (.t 35) fJ (kl [35])) cn
def ug:aa:=B6 kB px
def He(cn:aa):aa:=.seq (.seq (.region [m 25 23,ia 26 1 21 23,ls 27 26,m 9 25,m 10 27] [25,26,27]) (.seq (.region [m 28 9,m 29 7,cm 30 .eql 28 29] [9,28,29]) (.seq (.cond (.t 30) (.seq (kl [10,30]) (.exit 1)) (kl [30])) (.region [m 31 10,li 32 5,ia 33 1 31 32,li 34 33,ck 35 .neq 34 0] [31,32,33,34])))) cn
def Ax:aa:=He ug
def Ms(cn fJ:aa):aa:=.seq (.block 1 fJ) cn
def FG:aa:=Ms rG Ax
def W0(cn:aa):aa:=.seq (.seq (.region [cm 24 .lss 23 22] []) (.cond (.t 24) (kl [24]) (.seq (kl [0,1,5,7,21,22,23,24]) (.exit 0)))) cn
def N4:aa:=W0 FG
def acN:aa:=.seq (.block 0 (.loop N4)) N3
def auN(cn:aa):aa:=.seq (.seq (.region [oI 5 (.box (.t 2)),oI 6 (.mv (.c (.slice none 0 0)))] [2,6]) (.seq (.region [m 15 1,oI 16 (.Da 116 [] [.t 5]),oI 17 (.call (.f 115) [.t 15,.t 16] (.one (.one (.int .i64)))),m 7 17] [15,16,17]) (.seq (.region [m 18 7,ck 19 .lss 18 0] [18]) (.seq (.cond (.t 19) (.seq (.region [m 20 1,m 6 20] [0,1,5,7,19,20]) (.ret)) (kl [19])) (.seq (.region [oI 8 (.mv (.c (.slice none 0 0)))] []) (.region [m 21 1,ln 22 21,mc 23 0] [])))))) cn
def aCM:aa:=auN acN
abbrev FH(R:Type):=OA→Sl→Int→AH→Option R
def auO(t0:OA)(t1:Sl)(t2:Int):List Value:=vn t0::t1.v::vi t2::un 81 []
def jV:aK:=⟨84,aCM,[.tmp 6]⟩
theorem I8:okF Tryz.prog 77 jV=true:=by kernel_rfl
def UY{R:Type}(C:Callee)(fl k:Nat)(kr:ab R):ab R:=fun t8 h=>kr t8 h
theorem amQ:(cp FE (ce C fl k N3 K))=UY C fl k (cp aaL (K .ret)):=by kernel_rfl
def dY{R:Type}(C:Callee)(fl k:Nat)(kn:dp R)(e0:ab R):dp R:=fun t0 t1 t5 t7 t8 t21 t22 t23 h=>kn t0 t1 t5 t7 t8 t21 t22 (av (t23+1)) h
theorem xI:(cp dq (ce C fl k rG K))=dY C fl k (cp dq (K .normal)) (cp FE (K (.exit 0))):=by kernel_rfl
def gy{R:Type}(C:Callee)(fl k:Nat)(kn:dp R)(e1:dp R):B5 R:=fun t0 t1 t5 t7 t8 t10 t21 t22 t23 h=>bJ h [vs t10] fun b1 h2=>dn fl 1 24 t8 ⟨(some ⟨b1,0,none⟩),1,1⟩ h2 fun s3 h4=>kn t0 t1 t5 t7 s3 t21 t22 t23 h4
theorem yi:(cp FF (ce C fl k kB K))=gy C fl k (cp dq (K .normal)) (cp dq (K (.exit 1))):=by kernel_rfl
def da{R:Type}(C:Callee)(fl k:Nat)(kn:RJ R)(e2:B5 R):RJ R:=fun t0 t1 t5 t7 t8 t10 t11 t21 t22 t23 t57 t58 t59 h=>if decide (t59<t58)=true then idx 1 t57 t59 fun p5=>aF .i64 h p5.block p5.off fun n6=>idx 1 t10 t59 fun p7=>aF .i64 h p7.block p7.off fun n8=>aj C h.next fn.dy [.pointer t0,vi t11,vi n6] h fun v9 sU=>asInt .i64 v9 fun xA=>aj C fl fn.gQ [.pointer t0,vi n8,vi xA] sU fun V3 qB=>asInt .i64 V3 fun Bv=>idx 1 t10 t59 fun YJ=>st fl qB YJ [vi Bv] fun GN=>kn t0 t1 t5 t7 t8 t10 t11 t21 t22 t23 t57 t58 (av (t59+1)) GN else e2 t0 t1 t5 t7 t8 t10 t21 t22 t23 h
theorem DD:(cp RK (ce C fl k kC K))=da C fl k (cp RK (K .normal)) (cp FF (K (.exit 2))):=by kernel_rfl
def dR(kn:B5 R):Nat→RJ R
 |0=>fun _ _ _ _ _ _ _ _ _ _ _ _ _ _=>none
 |m+1=>da C fl k (dR kn m) kn
theorem qk:∀m,(cp RK (aQ m (aW C fl k kC 2 K)))=dR C fl k (cp FF (K .normal)) m
 |0=>by kernel_rfl
 |m+1=>gu (DD C fl k _) (ag (fun L=>da C fl k L _) (qk m))
def nR(kn:B5 R):RJ R:=dR C fl k kn k
theorem H5:(cp RK (ce C fl k mG K))=nR C fl k (cp FF (K .normal)):=gv (qk C fl k K)
def kD{R:Type}(C:Callee)(fl k:Nat)(kx:RJ R)(kn:B5 R):Kv R:=fun t0 t1 t5 t7 t8 t10 t21 t22 t23 t35 h=>aF .i64 h t5.block t5.off fun Qh=>idx 1 t10 Qh fun p18=>aF .i64 h p18.block p18.off fun TX=>idx 1 t1 t7 fun p20=>aT h p20.block p20.off fun s21=>aF .i64 h t5.block t5.off fun JU=>idx 1 s21 JU fun p23=>aF .i64 h p23.block p23.off fun n24=>aj C fl fn.ko [.pointer t0,vi TX,vi n24] h fun v25 h26=>aE v25 fun l27=>ar l27 fun v28 l29=>asInt .i64 v28 fun n30=>ar l29 fun v31 l32=>asInt .i64 v31 fun n33=>aM l32 (aj C fl fn.eS [vs t10] h26 fun v34 h35=>aX v34 fun s36=>idx 1 t1 t7 fun p37=>aT h35 p37.block p37.off fun s38=>kx t0 t1 t5 t7 t8 s36 n30 t21 t22 t23 s38 ((s38.l:Nat):Int) 0 h35)
def lQ(kn:B5 R):Kv R:=kD C fl k (nR C fl k kn) kn
theorem LD(cn:aa):(cp Kw (ce C fl k (yh cn) K))=kD C fl k (cp RK (ce C fl k cn K)) (cp FF (K .normal)):=by kernel_rfl
theorem LF:(cp Kw (ce C fl k px K))=lQ C fl k (cp FF (K .normal)):=(LD C fl k K mG).trans (ag (fun L0=>kD C fl k L0 _) (H5 C fl k K))
def nv{R:Type}(C:Callee)(fl k:Nat)(kx:B5 R)(u0:Kv R)(kn:dp R)(e1:dp R):Kv R:=fun t0 t1 t5 t7 t8 t10 t21 t22 t23 t35 h=>if t35=true then u0 t0 t1 t5 t7 t8 t10 t21 t22 t23 t35 h else kx t0 t1 t5 t7 t8 t10 t21 t22 t23 h
def xJ(kn:dp R)(e1:dp R):Kv R:=nv C fl k (gy C fl k kn e1) (lQ C fl k (gy C fl k kn e1)) kn e1
theorem RL(cn fJ:aa):(cp Kw (ce C fl k (B6 cn fJ) K))=nv C fl k (cp FF (ce C fl k cn K)) (cp Kw (ce C fl k fJ (bw C fl k cn K))) (cp dq (K .normal)) (cp dq (K (.exit 1))):=by kernel_rfl
theorem RM:(cp Kw (ce C fl k ug K))=xJ C fl k (cp dq (K .normal)) (cp dq (K (.exit 1))):=(RL C fl k K kB px).trans (gG (fun L0 L1=>nv C fl k L0 L1 _ _) (yi C fl k K) ((LF C fl k (bw C fl k kB K)).trans (ag (fun L0=>lQ C fl k L0) (iL (yi C fl k K)))))
def rH{R:Type}(C:Callee)(fl k:Nat)(kx:Kv R)(kn:dp R)(e1:dp R):dp R:=fun t0 t1 t5 t7 t8 t21 t22 t23 h=>idx 1 t21 t23 fun p39=>aT h p39.block p39.off fun s40=>if (t23==t7)=true then e1 t0 t1 t5 t7 t8 t21 t22 t23 h else aF .i64 h t5.block t5.off fun n41=>idx 1 s40 n41 fun p42=>aF .i64 h p42.block p42.off fun n43=>kx t0 t1 t5 t7 t8 s40 t21 t22 t23 (n43 !=0) h
def wj(kn:dp R)(e1:dp R):dp R:=rH C fl k (xJ C fl k kn e1) kn e1
theorem Zh(cn:aa):(cp dq (ce C fl k (He cn) K))=rH C fl k (cp Kw (ce C fl k cn K)) (cp dq (K .normal)) (cp dq (K (.exit 1))):=by kernel_rfl
theorem Zi:(cp dq (ce C fl k Ax K))=wj C fl k (cp dq (K .normal)) (cp dq (K (.exit 1))):=(Zh C fl k K ug).trans (ag (fun L0=>rH C fl k L0 _ _) (RM C fl k K))
def yZ{R:Type}(C:Callee)(fl k:Nat)(kx:dp R)(u0:dp R)(kn:dp R)(e0:ab R):dp R:=fun t0 t1 t5 t7 t8 t21 t22 t23 h=>u0 t0 t1 t5 t7 t8 t21 t22 t23 h
def I9(kn:dp R)(e0:ab R):dp R:=yZ C fl k (dY C fl k kn e0) (wj C fl k (dY C fl k kn e0) (dY C fl k kn e0)) kn e0
theorem afa(cn fJ:aa):(cp dq (ce C fl k (Ms cn fJ) K))=yZ C fl k (cp dq (ce C fl k cn K)) (cp dq (ce C fl k fJ (iK 1 (bw C fl k cn K)))) (cp dq (K .normal)) (cp FE (K (.exit 0))):=by kernel_rfl
theorem afb:(cp dq (ce C fl k FG K))=I9 C fl k (cp dq (K .normal)) (cp FE (K (.exit 0))):=(afa C fl k K rG Ax).trans (gG (fun L0 L1=>yZ C fl k L0 L1 _ _) (xI C fl k K) ((Zi C fl k (iK 1 (bw C fl k rG K))).trans (gG (fun L0 L1=>wj C fl k L0 L1) (bn1 (xI C fl k K)) (bx1 (xI C fl k K)))))
def Ay{R:Type}(C:Callee)(fl k:Nat)(kx:dp R)(kn:dp R)(e0:ab R):dp R:=fun t0 t1 t5 t7 t8 t21 t22 t23 h=>if decide (t23<t22)=true then kx t0 t1 t5 t7 t8 t21 t22 t23 h else e0 t8 h
def uh(kn:dp R)(e0:ab R):dp R:=Ay C fl k (I9 C fl k kn e0) kn e0
theorem amR(cn:aa):(cp dq (ce C fl k (W0 cn) K))=Ay C fl k (cp dq (ce C fl k cn K)) (cp dq (K .normal)) (cp FE (K (.exit 0))):=by kernel_rfl
theorem amS:(cp dq (ce C fl k N4 K))=uh C fl k (cp dq (K .normal)) (cp FE (K (.exit 0))):=(amR C fl k K FG).trans (ag (fun L0=>Ay C fl k L0 _ _) (afb C fl k K))
def iR(kn:ab R):Nat→dp R
 |0=>fun _ _ _ _ _ _ _ _ _=>none
 |m+1=>uh C fl k (iR kn m) kn
theorem W1:∀m,(cp dq (aQ m (aW C fl k N4 0 K)))=iR C fl k (cp FE (K .normal)) m
 |0=>by kernel_rfl
 |m+1=>gu (amS C fl k _) (ag (fun L=>uh C fl k L _) (W1 m))
def aiH(kr:ab R):dp R:=iR C fl k (UY C fl k kr) k
theorem ayp:(cp dq (ce C fl k acN K))=aiH C fl k (cp aaL (K .ret)):=(iP (gv (W1 C fl k (bw C fl k N3 K)))).trans (ag (fun L=>iR C fl k L k) (iL (amQ C fl k K)))
def acO{R:Type}(C:Callee)(fl k:Nat)(kx:dp R)(kr:ab R):FH R:=fun t0 t1 t2 h=>bJ h [vi t2] fun b44 h45=>aj C fl fn.eA [vs t1,.func (.func fn.c8) ⟨[]⟩ ⟨[.pointer (some ⟨b44,0,none⟩)]⟩] h45 fun v46 h47=>asInt .i64 v46 fun n48=>if decide (n48<0)=true then kr t1 h47 else kx t0 t1 ⟨b44,0,none⟩ n48 ⟨none,0,0⟩ t1 ((t1.l:Nat):Int) 0 h47
def auP(kr:ab R):FH R:=acO C fl k (aiH C fl k kr) kr
theorem aI7(cn:aa):(cp auO (ce C fl k (auN cn) K))=acO C fl k (cp dq (ce C fl k cn K)) (cp aaL (K .ret)):=by kernel_rfl
theorem aI8:(cp auO (ce C fl k aCM K))=auP C fl k (cp aaL (K .ret)):=(aI7 C fl k K acN).trans (ag (fun L0=>acO C fl k L0 _) (ayp C fl k K))
def de(p0:OA)(p1:Sl)(p2:Int)(h:AH):Option (Value×AH):=auP C fl k (fun y6 q=>some (vs y6,q)) p0 p1 p2 h
theorem th(p0:OA)(p1:Sl)(p2:Int)(h):aV C fl k jV [.pointer p0,vs p1,vi p2] h=de C fl k p0 p1 p2 h:=tG (aI8 C fl k (aG _)) p0 p1 p2 (by kernel_rfl) (by kernel_rfl)
def aI9(t6:Int):List Value:=un 6 (vi t6::un 14 [])
def aCN:aa:=.seq (.region [oI 3 (.box (.t 0)),mc 6 0] [0,6]) (.seq (.region [oJ 10 (.load (.agg [.int .i64,.int .i64,.slice]) (.t 3)),m 11 1,m 12 2,oJ 13 (.call (.f 121) [.t 11,.t 12] (.one (.one .slice))),m 14 2,ln 15 14,oI 16 (.call (.f 86) [.t 10,.t 13,.t 15] (.ke [.one .slice,.one .slice])),m 9 16,ex 17 9 0,ex 18 9 1,m 7 17,m 8 18] [1,2,3,7,9,10,11,12,13,14,15,16,17,18]) (.seq (.region [m 19 8,ln 20 19,m 6 20] [8,19,20]) (.ret)))
abbrev aJa(R:Type):=Int→Int→Sl→Sl→Sl→AH→Option R
def aJb(aI aJ:Int)(aL t1 t2:Sl):List Value:=.agg ⟨[vi aI,vi aJ,vs aL]⟩::t1.v::t2.v::un 18 []
def FI:aK:=⟨21,aCN,[.tmp 6]⟩
theorem amT:okF Tryz.prog 78 FI=true:=by kernel_rfl
def aCO{R:Type}(C:Callee)(fl k:Nat)(kr:ah R):aJa R:=fun aI aJ aL t1 t2 h=>bJ h [vi aI,vi aJ,vs aL] fun b1 h2=>aF .i64 h2 b1 0 fun n3=>aF .i64 h2 b1 1 fun n4=>aT h2 b1 2 fun s5=>aj C h2.next fn.zX [vs t1,vs t2] h2 fun v6 h7=>aX v6 fun s8=>aj C fl fn.ja [.agg ⟨[vi n3,vi n4,vs s5]⟩,vs s8,vi ((t2.l:Nat):Int)] h7 fun v9 sU=>aE v9 fun l11=>ar l11 fun V3 l13=>aX V3 fun TT=>ar l13 fun v15 l16=>aX v15 fun s17=>aM l16 (kr ((s17.l:Nat):Int) sU)
theorem aJc:(cp aJb (ce C fl k aCN K))=aCO C fl k (cp aI9 (K .ret)):=by kernel_rfl
def IT(aw ax:Int)(ay p1 p2:Sl)(h:AH):Option (Value×AH):=aCO C fl k (fun y6 q=>some (vi y6,q)) aw ax ay p1 p2 h
theorem aiI(aw ax:Int)(ay p1 p2:Sl)(h):aV C fl k FI [.agg ⟨[vi aw,vi ax,vs ay]⟩,vs p1,vs p2] h=IT C fl k aw ax ay p1 p2 h:=oY (aJc C fl k (aG _)) aw ax ay p1 p2 (by kernel_rfl) (by kernel_rfl)
def aJd(t2:Int):List Value:=un 2 (vi t2::un 13 [])
def aCP:aa:=.seq (.region [oI 1 (.box (.t 0)),mc 2 0] [0,2]) (.seq (.region [oI 3 (.load (.agg [.int .i64,.int .i64,.slice]) (.t 1)),oI 4 (.call (.f 112) [.t 3] (.one (.one .bool))),no 5 4,m 6 5,.gL 6 false [qJ 7 (.load (.agg [.int .i64,.int .i64,.slice]) (.t 1)),qI 8 (.cW 0 (.t 1)),qJ 9 (.load (.one (.int .i64)) (.t 8)),qI 10 (.cW 1 (.t 1)),qJ 11 (.load (.one (.int .i64)) (.t 10)),qJ 12 (.call (.f 113) [.t 9,.t 11] (.one (.one (.int .i64)))),qI 13 (.call (.f 114) [.t 7,.t 12] (.one (.one .slice))),qI 14 (.TQ false (.t 13))],oI 15 (.pick (.t 6) (.c (.bool true)) (.t 14))] [1,3,4,5,6,7,8,9,10,11,12,13,14]) (.seq (.cond (.t 15) (.seq (.region [mc 2 1] [15]) (.ret)) (kl [15])) (.seq (.region [mc 2 0] []) (.ret))))
def aJe(aI aJ:Int)(aL:Sl):List Value:=.agg ⟨[vi aI,vi aJ,vs aL]⟩::un 15 []
def wk:aK:=⟨16,aCP,[.tmp 2]⟩
theorem acP:okF Tryz.prog 79 wk=true:=by kernel_rfl
def aCQ{R:Type}(C:Callee)(fl k:Nat)(kr:ah R):kv R:=fun aI aJ aL h=>bJ h [vi aI,vi aJ,vs aL] fun b1 h2=>aF .i64 h2 b1 0 fun n3=>aF .i64 h2 b1 1 fun n4=>aT h2 b1 2 fun s5=>aj C fl fn.mA [.agg ⟨[vi n3,vi n4,vs s5]⟩] h2 fun v6 h7=>asBool v6 fun b8=>if (!b8)=false then aF .i64 h7 b1 0 fun n9=>aF .i64 h7 b1 1 fun mb=>aT h7 b1 2 fun EG=>aF .i64 h7 b1 0 fun Bu=>aF .i64 h7 b1 1 fun BL=>aj C h7.next fn.jf [vi Bu,vi BL] h7 fun v14 nX=>asInt .i64 v14 fun HT=>aj C fl fn.cX [.agg ⟨[vi n9,vi mb,vs EG]⟩,vi HT] nX fun v17 JR=>aX v17 fun s19=>if s19.a.isNone=true then kr 1 JR else kr 0 JR else kr 1 h7
theorem aJf:(cp aJe (ce C fl k aCP K))=aCQ C fl k (cp aJd (K .ret)):=by kernel_rfl
def gY(aw ax:Int)(ay:Sl)(h:AH):Option (Value×AH):=aCQ C fl k (fun y2 q=>some (vi y2,q)) aw ax ay h
theorem Hf(aw ax:Int)(ay:Sl)(h):aV C fl k wk [.agg ⟨[vi aw,vi ax,vs ay]⟩] h=gY C fl k aw ax ay h:=tG (aJf C fl k (aG _)) aw ax ay (by kernel_rfl) (by kernel_rfl)
def aJg(t4:Int):List Value:=un 4 (vi t4::un 9 [])
def aCR:aa:=.seq (.region [oI 2 (.box (.t 0)),oI 3 (.box (.t 1)),mc 4 0] [0,1,4]) (.seq (.region [oI 8 (.load (.agg [.int .i64,.int .i64,.slice]) (.t 2)),oI 9 (.load (.agg [.int .i64,.slice]) (.t 3)),oI 10 (.call (.f 82) [.t 8,.t 9] (.ke [.agg [.l0,.int .i64,.slice,.slice],.one (.int .i64)])),m 7 10,ex 11 7 0,ex 12 7 1,oI 5 (.alloc [.pointer none,.int .i64 0,.slice none 0 0,.slice none 0 0]),sI 4 5 11,m 6 12] [2,3,5,7,8,9,10,11,12]) (.seq (.region [m 13 6,m 4 13] [6,13]) (.ret)))
def aJh(aI aJ:Int)(aL:Sl)(eu:Int)(fA:Sl):List Value:=.agg ⟨[vi aI,vi aJ,vs aL]⟩::.agg ⟨[vi eu,vs fA]⟩::un 12 []
def wm:aK:=⟨14,aCR,[.tmp 4]⟩
theorem acQ:okF Tryz.prog 80 wm=true:=by kernel_rfl
def aCS{R:Type}(C:Callee)(fl k:Nat)(kr:ah R):bD R:=fun aI aJ aL eu fA h=>bJ h [vi aI,vi aJ,vs aL] fun b1 h2=>bJ h2 [vi eu,vs fA] fun b3 h4=>aF .i64 h4 b1 0 fun n5=>aF .i64 h4 b1 1 fun n6=>aT h4 b1 2 fun s7=>aF .i64 h4 b3 0 fun n8=>aT h4 b3 1 fun s9=>aj C fl fn.gH [.agg ⟨[vi n5,vi n6,vs s7]⟩,.agg ⟨[vi n8,vs s9]⟩] h4 fun v10 iH=>aE v10 fun l12=>ar l12 fun v13 l14=>asAgg v13 fun l15=>ar l15 fun v16 l17=>ek v16 fun p18=>ar l17 fun v19 l20=>asInt .i64 v19 fun n21=>ar l20 fun v22 l23=>aX v22 fun s24=>ar l23 fun v25 l26=>aX v25 fun s27=>aM l26 (ar l14 fun v28 l29=>asInt .i64 v28 fun n30=>aM l29 (bJ iH [.pointer none,.int .i64 0,.slice none 0 0,.slice none 0 0] fun b31 Qp=>st fl Qp ⟨b31,0,none⟩ [.pointer p18,vi n21,vs s24,vs s27] fun h33=>kr n30 h33))
theorem aJi:(cp aJh (ce C fl k aCR K))=aCS C fl k (cp aJg (K .ret)):=by kernel_rfl
def pX(aw ax:Int)(ay:Sl)(cz:Int)(cF:Sl)(h:AH):Option (Value×AH):=aCS C fl k (fun y4 q=>some (vi y4,q)) aw ax ay cz cF h
theorem Hg(aw ax:Int)(ay:Sl)(cz:Int)(cF:Sl)(h):aV C fl k wm [.agg ⟨[vi aw,vi ax,vs ay]⟩,.agg ⟨[vi cz,vs cF]⟩] h=pX C fl k aw ax ay cz cF h:=oY (aJi C fl k (aG _)) aw ax ay cz cF (by kernel_rfl) (by kernel_rfl)
def aJj(t4:Addr)(t5:Int):List Value:=un 4 (vp t4::vi t5::un 32 [])
def aCT:aa:=.seq (.region [oI 2 (.box (.t 0)),oI 3 (.box (.t 1)),oI 4 (.alloc [.pointer none,.int .i64 0,.slice none 0 0,.slice none 0 0]),mc 5 0] [0,1,5]) (.seq (.region [oI 11 (.load (.agg [.int .i64,.int .i64,.slice]) (.t 2)),oI 12 (.load (.agg [.int .i64,.slice]) (.t 3)),oI 13 (.call (.f 73) [.t 11,.t 12] (.ke [.agg [.int .i64,.slice],.one .slice,.one (.int .i64)])),m 10 13,ex 14 10 0,ex 15 10 1,ex 16 10 2,oI 6 (.alloc [.int .i64 0,.slice none 0 0]),sI 2 6 14,m 7 15,m 8 16] [10,11,12,13,14,15,16]) (.seq (.region [m 17 8,ck 18 .neq 17 0] [17]) (.seq (.cond (.t 18) (.seq (.region [oI 19 (.build [.pointer none,.int .i64 0,.slice none 0 0,.slice none 0 0] []),m 20 8,sI 4 4 19,m 5 20] [2,3,6,7,8,18,19,20]) (.ret)) (kl [8,18])) (.seq (.region [fa 21 1 6,ls 22 21,fa 23 1 3,ls 24 23,oI 25 (.call (.f 123) [.t 22,.t 24,.f 124] (.one (.one .bool))),no 26 25] [6,21,22,23,24,25]) (.seq (.cond (.t 26) (.seq (.region [oI 27 (.build [.pointer none,.int .i64 0,.slice none 0 0,.slice none 0 0] []),sI 4 4 27,mc 5 5] [2,3,7,26,27]) (.ret)) (kl [26])) (.seq (.region [oI 29 (.load (.agg [.int .i64,.int .i64,.slice]) (.t 2)),oI 30 (.call (.f 75) [.t 29] (.ke [.one .l0,.one (.int .i64)])),m 28 30,ex 31 28 0,ex 32 28 1,m 9 31,m 8 32] [2,28,29,30,31,32]) (.seq (.region [m 33 9,oI 34 (.load (.agg [.int .i64,.slice]) (.t 3)),m 35 7,oI 36 (.build [.pointer none,.int .i64 0,.slice none 0 0,.slice none 0 0] [(0,1,.t 33),(1,2,.t 34),(3,1,.t 35)]),m 37 8,sI 4 4 36,m 5 37] [3,7,8,9,33,34,35,36,37]) (.ret))))))))
def aJk(aI aJ:Int)(aL:Sl)(eu:Int)(fA:Sl):List Value:=.agg ⟨[vi aI,vi aJ,vs aL]⟩::.agg ⟨[vi eu,vs fA]⟩::un 36 []
def zc:aK:=⟨38,aCT,[.cell 4 (.agg [.l0,.int .i64,.slice,.slice]),.tmp 5]⟩
theorem afc:okF Tryz.prog 82 zc=true:=by kernel_rfl
def auQ{R:Type}(C:Callee)(fl k:Nat)(kr:aY R):bD R:=fun aI aJ aL eu fA h=>bJ h [vi aI,vi aJ,vs aL] fun b1 h2=>bJ h2 [vi eu,vs fA] fun b3 h4=>bJ h4 [.pointer none,.int .i64 0,.slice none 0 0,.slice none 0 0] fun b5 h6=>aF .i64 h6 b1 0 fun n7=>aF .i64 h6 b1 1 fun n8=>aT h6 b1 2 fun s9=>aF .i64 h6 b3 0 fun mb=>aT h6 b3 1 fun EG=>aj C fl fn.cD [.agg ⟨[vi n7,vi n8,vs s9]⟩,.agg ⟨[vi mb,vs EG]⟩] h6 fun V3 qB=>aE V3 fun l14=>ar l14 fun v15 l16=>asAgg v15 fun l17=>ar l17 fun v18 l19=>asInt .i64 v18 fun n20=>ar l19 fun v21 l22=>aX v21 fun s23=>aM l22 (ar l16 fun v24 l25=>aX v24 fun s26=>ar l25 fun v27 l28=>asInt .i64 v27 fun n29=>aM l28 (bJ qB [.int .i64 0,.slice none 0 0] fun b30 h31=>st fl h31 ⟨b30,0,none⟩ [vi n20,vs s23] fun Qp=>if (n29 !=0)=true then st fl Qp ⟨b5,0,none⟩ [.pointer none,vi 0,.slice none 0 0,.slice none 0 0] fun h33=>kr ⟨b5,0,none⟩ n29 h33 else aT Qp b30 1 fun s34=>aT Qp b3 1 fun s35=>aj C fl fn.hX [vs s34,vs s35,.func (.func fn.jg) ⟨[]⟩ ⟨[]⟩] Qp fun v36 h37=>asBool v36 fun b38=>if (!b38)=true then st fl h37 ⟨b5,0,none⟩ [.pointer none,vi 0,.slice none 0 0,.slice none 0 0] fun h39=>kr ⟨b5,0,none⟩ 5 h39 else aF .i64 h37 b1 0 fun n40=>aF .i64 h37 b1 1 fun n41=>aT h37 b1 2 fun s42=>aj C fl fn.fB [.agg ⟨[vi n40,vi n41,vs s42]⟩] h37 fun v43 h44=>aE v43 fun l45=>ar l45 fun v46 l47=>ek v46 fun p48=>ar l47 fun v49 l50=>asInt .i64 v49 fun n51=>aM l50 (aF .i64 h44 b3 0 fun n52=>aT h44 b3 1 fun s53=>st fl h44 ⟨b5,0,none⟩ [.pointer p48,vi n52,vs s53,vs s26] fun h54=>kr ⟨b5,0,none⟩ n51 h54)))
theorem aJl:(cp aJk (ce C fl k aCT K))=auQ C fl k (cp aJj (K .ret)):=by kernel_rfl
def gH(aw ax:Int)(ay:Sl)(cz:Int)(cF:Sl)(h:AH):Option (Value×AH):=auQ C fl k (fun y4 y5 q=>ldN q y4.block y4.off fun p55=>aF .i64 q y4.block (y4.off+1) fun n56=>aT q y4.block (y4.off+1+1) fun s57=>aT q y4.block (y4.off+1+1+1) fun s58=>some (.tuple ⟨[.agg ⟨[.pointer p55,vi n56,vs s57,vs s58]⟩,vi y5]⟩,q)) aw ax ay cz cF h
theorem Ja(aw ax:Int)(ay:Sl)(cz:Int)(cF:Sl)(h):aV C fl k zc [.agg ⟨[vi aw,vi ax,vs ay]⟩,.agg ⟨[vi cz,vs cF]⟩] h=gH C fl k aw ax ay cz cF h:=oY (aJl C fl k (aG _)) aw ax ay cz cF (by kernel_rfl) (by kernel_rfl)
def zd(t6:Addr)(t7:Int):List Value:=un 6 (vp t6::vi t7::un 77 [])
def Az:aa:=.seq (.region [oI 84 (.load (.agg [.int .i64,.slice]) (.t 12)),sI 2 6 84,mc 7 0] [12,84]) (.ret)
def FJ(t6 t12:Addr):List Value:=un 6 (vp t6::un 5 (vp t12::un 72 []))
abbrev dr(R:Type):=Sl→Addr→Addr→Sl→Int→Int→AH→Option R
def fH(t2:Sl)(t6 t12:Addr)(t53:Sl)(t54 t55:Int):List Value:=un 2 (t2.v::un 3 (vp t6::un 5 (vp t12::un 40 (t53.v::vi t54::vi t55::un 29 []))))
def kE:aa:=.region [bc 83 .add 55 1,m 55 83] [83]
def kF:aa:=.region [fa 77 1 12,ls 78 77,m 79 15,oI 80 (.bq 1 [.slice none 0 0] [(0,1,.t 79)]),oI 81 (.append 1 24 (.t 78) (.t 80)),fa 82 1 12,sI 1 82 81] [15,77,78,79,80,81,82]
abbrev aiJ(R:Type):=Sl→Addr→Addr→Sl→Sl→Int→Int→AH→Option R
def aiK(t2:Sl)(t6 t12:Addr)(t15 t53:Sl)(t54 t55:Int):List Value:=un 2 (t2.v::un 3 (vp t6::un 5 (vp t12::un 2 (t15.v::un 37 (t53.v::vi t54::vi t55::un 29 [])))))
abbrev RN(R:Type):=Sl→Addr→Addr→Sl→Sl→Sl→Int→Int→Sl→Int→Int→AH→Option R
def RO(t2:Sl)(t6 t12:Addr)(t14 t15 t53:Sl)(t54 t55:Int)(t62:Sl)(t63 t64:Int):List Value:=un 2 (t2.v::un 3 (vp t6::un 5 (vp t12::un 1 (t14.v::t15.v::un 37 (t53.v::vi t54::vi t55::un 6 (t62.v::vi t63::vi t64::un 20 []))))))
def kG:aa:=.seq (.region [cm 65 .lss 64 63] []) (.seq (.cond (.t 65) (kl [65]) (.seq (kl [14,62,63,64,65]) (.exit 4))) (.seq (.block 5 (.seq (.region [m 66 64,ia 67 1 62 64,li 68 67,m 16 66,m 17 68] [66,67,68]) (.region [m 69 15,m 70 16,m 71 14,m 72 17,ia 73 1 71 72,li 74 73,ia 75 1 69 70,sI 1 75 74] [16,17,69,70,71,72,73,74,75]))) (.region [bc 76 .add 64 1,m 64 76] [76])))
def mH:aa:=.seq (.block 4 (.loop kG)) kF
def yj(cn:aa):aa:=.seq (.seq (.region [ia 57 1 53 55,ls 58 57,m 14 58] [57,58]) (.seq (.region [m 59 2,ln 60 59,oI 61 (.dj 8 [.int .i64 0] (.t 60) (.t 60)),m 15 61] [59,60,61]) (.region [m 62 2,ln 63 62,mc 64 0] []))) cn
def py:aa:=yj mH
def B7(cn fJ:aa):aa:=.seq (.block 3 fJ) cn
def ui:aa:=B7 kE py
def Hh(cn:aa):aa:=.seq (.seq (.region [cm 56 .lss 55 54] []) (.cond (.t 56) (kl [56]) (.seq (kl [2,53,54,55,56]) (.exit 2)))) cn
def AA:aa:=Hh ui
def FK:aa:=.seq (.block 2 (.loop AA)) Az
def W2(cn:aa):aa:=.seq (.seq (.region [m 49 2,ln 50 49,oI 51 (.build [.int .i64 0,.slice none 0 0] [(0,1,.t 50)]),oI 12 (.alloc [.int .i64 0,.slice none 0 0]),sI 2 12 51] [49,50,51]) (.region [fa 52 1 4,ls 53 52,ln 54 53,mc 55 0] [4,52])) cn
def N5:aa:=W2 FK
abbrev aaM(R:Type):=Sl→Addr→Addr→AH→Option R
def aaN(t2:Sl)(t4 t6:Addr):List Value:=un 2 (t2.v::un 1 (vp t4::un 1 (vp t6::un 78 [])))
def RP(t2:Sl)(t4 t6:Addr)(t33:Sl)(t34 t35:Int):List Value:=un 2 (t2.v::un 1 (vp t4::un 1 (vp t6::un 26 (t33.v::vi t34::vi t35::un 49 []))))
def N6:aa:=.seq (.region [cm 36 .lss 35 34] []) (.seq (.cond (.t 36) (kl [36]) (.seq (kl [33,34,35,36]) (.exit 0))) (.seq (.block 1 (.seq (.region [ia 37 1 33 35,li 38 37,m 11 38] [37,38]) (.seq (.region [m 39 11,ck 40 .lss 39 0,m 41 40,.gL 41 false [qI 42 (.mv (.t 11)),qI 43 (.cW 0 (.t 4)),qI 44 (.load (.one (.int .i64)) (.t 43)),qI 45 (.cmp .geq .i64 (.t 42) (.t 44))],oI 46 (.pick (.t 41) (.c (.bool true)) (.t 45))] [11,39,40,41,42,43,44,45]) (.cond (.t 46) (.seq (.region [oI 47 (.build [.int .i64 0,.slice none 0 0] []),sI 2 6 47,mc 7 6] [2,4,33,34,35,46,47]) (.ret)) (kl [46]))))) (.region [bc 48 .add 35 1,m 35 48] [48])))
def acR:aa:=.seq (.block 0 (.loop N6)) N5
def auR(cn:aa):aa:=.seq (.seq (.region [oI 3 (.box (.t 0)),oI 4 (.box (.t 1)),oI 6 (.alloc [.int .i64 0,.slice none 0 0]),mc 7 0] [0,1,7]) (.seq (.region [oI 19 (.load (.agg [.int .i64,.int .i64,.slice]) (.t 3)),oI 20 (.load (.agg [.int .i64,.slice]) (.t 4)),oI 21 (.bq 1 [.int .i64 0,.slice none 0 0] [(0,2,.t 20)]),oI 22 (.call (.f 102) [.t 19,.t 21] (.ke [.one .l0,.one (.int .i64)])),m 18 22,ex 23 18 0,ex 24 18 1,m 8 23,m 9 24] [3,8,18,19,20,21,22,23,24]) (.seq (.region [m 25 9,ck 26 .neq 25 0] [25]) (.seq (.cond (.t 26) (.seq (.region [oI 27 (.build [.int .i64 0,.slice none 0 0] []),m 28 9,sI 2 6 27,m 7 28] [2,4,9,26,27,28]) (.ret)) (kl [9,26])) (.seq (.region [m 29 2,ln 30 29,ck 31 .gtr 30 256] [29,30]) (.seq (.cond (.t 31) (.seq (.region [oI 32 (.build [.int .i64 0,.slice none 0 0] []),sI 2 6 32,mc 7 8] [2,4,31,32]) (.ret)) (kl [31])) (.region [m 33 2,ln 34 33,mc 35 0] []))))))) cn
def aCU:aa:=auR acR
def auS(aI aJ:Int)(aL:Sl)(eu:Int)(fA t2:Sl):List Value:=.agg ⟨[vi aI,vi aJ,vs aL]⟩::.agg ⟨[vi eu,vs fA]⟩::t2.v::un 82 []
def nw:aK:=⟨85,aCU,[.cell 6 (.agg [.int .i64,.slice]),.tmp 7]⟩
theorem RQ:okF Tryz.prog 83 nw=true:=by kernel_rfl
def Mt{R:Type}(C:Callee)(fl k:Nat)(kr:aY R):dh R:=fun t6 t12 h=>aF .i64 h t12.block t12.off fun n1=>aT h t12.block (t12.off+1) fun s2=>st fl h t6 [vi n1,vs s2] fun h3=>kr t6 0 h3
theorem Zj:(cp FJ (ce C fl k Az K))=Mt C fl k (cp zd (K .ret)):=by kernel_rfl
def rI{R:Type}(C:Callee)(fl k:Nat)(kn:dr R)(e2:dh R):dr R:=fun t2 t6 t12 t53 t54 t55 h=>kn t2 t6 t12 t53 t54 (av (t55+1)) h
theorem yl:(cp fH (ce C fl k kE K))=rI C fl k (cp fH (K .normal)) (cp FJ (K (.exit 2))):=by kernel_rfl
def tk{R:Type}(C:Callee)(fl k:Nat)(kn:dr R):aiJ R:=fun t2 t6 t12 t15 t53 t54 t55 h=>aT h t12.block (t12.off+1) fun s4=>bJ h [vs t15] fun b5 h6=>dn fl 1 24 s4 ⟨(some ⟨b5,0,none⟩),1,1⟩ h6 fun s7 h8=>st fl h8 ⟨t12.block,t12.off+1,none⟩ [vs s7] fun h9=>kn t2 t6 t12 t53 t54 t55 h9
theorem DE:(cp aiK (ce C fl k kF K))=tk C fl k (cp fH (K .normal)):=by kernel_rfl
def lx{R:Type}(C:Callee)(fl k:Nat)(kn:RN R)(e4:aiJ R):RN R:=fun t2 t6 t12 t14 t15 t53 t54 t55 t62 t63 t64 h=>if decide (t64<t63)=true then idx 1 t62 t64 fun Qo=>aF .i64 h Qo.block Qo.off fun xA=>idx 1 t14 xA fun MR=>aF .i64 h MR.block MR.off fun BL=>idx 1 t15 t64 fun p14=>st fl h p14 [vi BL] fun nX=>kn t2 t6 t12 t14 t15 t53 t54 t55 t62 t63 (av (t64+1)) nX else e4 t2 t6 t12 t15 t53 t54 t55 h
theorem DF:(cp RO (ce C fl k kG K))=lx C fl k (cp RO (K .normal)) (cp aiK (K (.exit 4))):=by kernel_rfl
def iC(kn:aiJ R):Nat→RN R
 |0=>fun _ _ _ _ _ _ _ _ _ _ _ _=>none
 |m+1=>lx C fl k (iC kn m) kn
theorem ql:∀m,(cp RO (aQ m (aW C fl k kG 4 K)))=iC C fl k (cp aiK (K .normal)) m
 |0=>by kernel_rfl
 |m+1=>gu (DF C fl k _) (ag (fun L=>lx C fl k L _) (ql m))
def ym(kn:dr R):RN R:=iC C fl k (tk C fl k kn) k
theorem H6:(cp RO (ce C fl k mH K))=ym C fl k (cp fH (K .normal)):=(iP (gv (ql C fl k (bw C fl k kF K)))).trans (ag (fun L=>iC C fl k L k) (iL (DE C fl k K)))
def pz{R:Type}(C:Callee)(fl k:Nat)(kx:RN R)(kn:dr R):dr R:=fun t2 t6 t12 t53 t54 t55 h=>idx 1 t53 t55 fun p16=>aT h p16.block p16.off fun s17=>qF 8 [.int .i64 0] ((t2.l:Nat):Int) ((t2.l:Nat):Int) h fun s18 Mf=>kx t2 t6 t12 s17 s18 t53 t54 t55 t2 ((t2.l:Nat):Int) 0 Mf
def rJ(kn:dr R):dr R:=pz C fl k (ym C fl k kn) kn
theorem LG(cn:aa):(cp fH (ce C fl k (yj cn) K))=pz C fl k (cp RO (ce C fl k cn K)) (cp fH (K .normal)):=by kernel_rfl
theorem LH:(cp fH (ce C fl k py K))=rJ C fl k (cp fH (K .normal)):=(LG C fl k K mH).trans (ag (fun L0=>pz C fl k L0 _) (H6 C fl k K))
def uj{R:Type}(C:Callee)(fl k:Nat)(kx:dr R)(u0:dr R)(kn:dr R)(e2:dh R):dr R:=fun t2 t6 t12 t53 t54 t55 h=>u0 t2 t6 t12 t53 t54 t55 h
def Hi(kn:dr R)(e2:dh R):dr R:=uj C fl k (rI C fl k kn e2) (rJ C fl k (rI C fl k kn e2)) kn e2
theorem RS(cn fJ:aa):(cp fH (ce C fl k (B7 cn fJ) K))=uj C fl k (cp fH (ce C fl k cn K)) (cp fH (ce C fl k fJ (iK 3 (bw C fl k cn K)))) (cp fH (K .normal)) (cp FJ (K (.exit 2))):=by kernel_rfl
theorem RT:(cp fH (ce C fl k ui K))=Hi C fl k (cp fH (K .normal)) (cp FJ (K (.exit 2))):=(RS C fl k K kE py).trans (gG (fun L0 L1=>uj C fl k L0 L1 _ _) (yl C fl k K) ((LH C fl k (iK 3 (bw C fl k kE K))).trans (ag (fun L0=>rJ C fl k L0) (bn1 (yl C fl k K)))))
def AB{R:Type}(C:Callee)(fl k:Nat)(kx:dr R)(kn:dr R)(e2:dh R):dr R:=fun t2 t6 t12 t53 t54 t55 h=>if decide (t55<t54)=true then kx t2 t6 t12 t53 t54 t55 h else e2 t6 t12 h
def CM(kn:dr R)(e2:dh R):dr R:=AB C fl k (Hi C fl k kn e2) kn e2
theorem Zk(cn:aa):(cp fH (ce C fl k (Hh cn) K))=AB C fl k (cp fH (ce C fl k cn K)) (cp fH (K .normal)) (cp FJ (K (.exit 2))):=by kernel_rfl
theorem Zl:(cp fH (ce C fl k AA K))=CM C fl k (cp fH (K .normal)) (cp FJ (K (.exit 2))):=(Zk C fl k K ui).trans (ag (fun L0=>AB C fl k L0 _ _) (RT C fl k K))
def wq(kn:dh R):Nat→dr R
 |0=>fun _ _ _ _ _ _ _=>none
 |m+1=>CM C fl k (wq kn m) kn
theorem Hj:∀m,(cp fH (aQ m (aW C fl k AA 2 K)))=wq C fl k (cp FJ (K .normal)) m
 |0=>by kernel_rfl
 |m+1=>gu (Zl C fl k _) (ag (fun L=>CM C fl k L _) (Hj m))
def W4(kr:aY R):dr R:=wq C fl k (Mt C fl k kr) k
theorem afd:(cp fH (ce C fl k FK K))=W4 C fl k (cp zd (K .ret)):=(iP (gv (Hj C fl k (bw C fl k Az K)))).trans (ag (fun L=>wq C fl k L k) (iL (Zj C fl k K)))
def N7{R:Type}(C:Callee)(fl k:Nat)(kx:dr R)(kr:aY R):aaM R:=fun t2 t4 t6 h=>bJ h [.int .i64 0,.slice none 0 0] fun b20 yL=>st fl yL ⟨b20,0,none⟩ [vi ((t2.l:Nat):Int),.slice none 0 0] fun TY=>aT TY t4.block (t4.off+1) fun s23=>kx t2 t6 ⟨b20,0,none⟩ s23 ((s23.l:Nat):Int) 0 TY
def agZ(kr:aY R):aaM R:=N7 C fl k (W4 C fl k kr) kr
theorem amU(cn:aa):(cp aaN (ce C fl k (W2 cn) K))=N7 C fl k (cp fH (ce C fl k cn K)) (cp zd (K .ret)):=by kernel_rfl
theorem amV:(cp aaN (ce C fl k N5 K))=agZ C fl k (cp zd (K .ret)):=(amU C fl k K FK).trans (ag (fun L0=>N7 C fl k L0 _) (afd C fl k K))
def UZ{R:Type}(C:Callee)(fl k:Nat)(kn:dr R)(e0:aaM R)(kr:aY R):dr R:=fun t2 t4 t6 t33 t34 t35 h=>if decide (t35<t34)=true then idx 1 t33 t35 fun p24=>aF .i64 h p24.block p24.off fun HU=>if decide (HU<0)=false then aF .i64 h t4.block t4.off fun EI=>if decide (HU≥EI)=true then st fl h t6 [vi 0,.slice none 0 0] fun h27=>kr t6 6 h27 else kn t2 t4 t6 t33 t34 (av (t35+1)) h else st fl h t6 [vi 0,.slice none 0 0] fun h28=>kr t6 6 h28 else e0 t2 t4 t6 h
theorem amW:(cp RP (ce C fl k N6 K))=UZ C fl k (cp RP (K .normal)) (cp aaN (K (.exit 0))) (cp zd (K .ret)):=by kernel_rfl
def Kx(kn:aaM R)(kr:aY R):Nat→dr R
 |0=>fun _ _ _ _ _ _ _=>none
 |m+1=>UZ C fl k (Kx kn kr m) kn kr
theorem W5:∀m,(cp RP (aQ m (aW C fl k N6 0 K)))=Kx C fl k (cp aaN (K .normal)) (cp zd (K .ret)) m
 |0=>by kernel_rfl
 |m+1=>gu (amW C fl k _) (ag (fun L=>UZ C fl k L _ _) (W5 m))
def auT(kr:aY R):dr R:=Kx C fl k (agZ C fl k kr) kr k
theorem ayq:(cp RP (ce C fl k acR K))=auT C fl k (cp zd (K .ret)):=(iP (gv (W5 C fl k (bw C fl k N5 K)))).trans (ag (fun L=>Kx C fl k L _ k) (iL (amV C fl k K)))
def arH{R:Type}(C:Callee)(fl k:Nat)(kx:dr R)(kr:aY R):kq R:=fun aI aJ aL eu fA t2 h=>bJ h [vi aI,vi aJ,vs aL] fun b29 h30=>bJ h30 [vi eu,vs fA] fun b31 Qp=>bJ Qp [.int .i64 0,.slice none 0 0] fun b33 h34=>aF .i64 h34 b29 0 fun n35=>aF .i64 h34 b29 1 fun n36=>aT h34 b29 2 fun s37=>aF .i64 h34 b31 0 fun n38=>aT h34 b31 1 fun s39=>bJ h34 [vi n38,vs s39] fun b40 h41=>aj C fl fn.c7 [.agg ⟨[vi n35,vi n36,vs s37]⟩,.slice (some ⟨b40,0,none⟩) 1 1] h41 fun v42 h43=>aE v42 fun l44=>ar l44 fun v45 l46=>ek v45 fun p47=>ar l46 fun v48 l49=>asInt .i64 v48 fun n50=>aM l49 (if (n50 !=0)=true then st fl h43 ⟨b33,0,none⟩ [vi 0,.slice none 0 0] fun h51=>kr ⟨b33,0,none⟩ n50 h51 else if decide (((t2.l:Nat):Int)>256)=true then st fl h43 ⟨b33,0,none⟩ [vi 0,.slice none 0 0] fun h52=>kr ⟨b33,0,none⟩ 8 h52 else kx t2 ⟨b31,0,none⟩ ⟨b33,0,none⟩ t2 ((t2.l:Nat):Int) 0 h43)
def aOj(kr:aY R):kq R:=arH C fl k (auT C fl k kr) kr
theorem aJm(cn:aa):(cp auS (ce C fl k (auR cn) K))=arH C fl k (cp RP (ce C fl k cn K)) (cp zd (K .ret)):=by kernel_rfl
theorem aJn:(cp auS (ce C fl k aCU K))=aOj C fl k (cp zd (K .ret)):=(aJm C fl k K acR).trans (ag (fun L0=>arH C fl k L0 _) (ayq C fl k K))
def qP(aw ax:Int)(ay:Sl)(cz:Int)(cF p2:Sl)(h:AH):Option (Value×AH):=aOj C fl k (fun y6 y7 q=>aF .i64 q y6.block y6.off fun n53=>aT q y6.block (y6.off+1) fun s54=>some (.tuple ⟨[.agg ⟨[vi n53,vs s54]⟩,vi y7]⟩,q)) aw ax ay cz cF p2 h
theorem N8(aw ax:Int)(ay:Sl)(cz:Int)(cF p2:Sl)(h):aV C fl k nw [.agg ⟨[vi aw,vi ax,vs ay]⟩,.agg ⟨[vi cz,vs cF]⟩,vs p2] h=qP C fl k aw ax ay cz cF p2 h:=Uq (aJn C fl k (aG _)) aw ax ay cz cF p2 (by kernel_rfl) (by kernel_rfl)
def aaO(t4:Addr)(t5:Int):List Value:=un 4 (vp t4::vi t5::un 60 [])
def N9:aa:=.seq (.region [oI 65 (.load (.agg [.int .i64,.slice]) (.t 8)),sI 2 4 65,mc 5 0] [8,65]) (.ret)
def FL(t4 t8:Addr):List Value:=un 4 (vp t4::un 3 (vp t8::un 57 []))
abbrev fb(R:Type):=Addr→Addr→Addr→Int→Int→AH→Option R
def fc(t3 t4 t8:Addr)(t32 t33:Int):List Value:=un 3 (vp t3::vp t4::un 3 (vp t8::un 23 (vi t32::vi t33::un 32 [])))
def rK:aa:=.region [bc 64 .add 33 1,m 33 64] [64]
abbrev RU(R:Type):=Addr→Addr→Addr→Int→Int→Int→Sl→Int→Int→AH→Option R
def RV(t3 t4 t8:Addr)(t9 t32 t33:Int)(t45:Sl)(t46 t47:Int):List Value:=un 3 (vp t3::vp t4::un 3 (vp t8::vi t9::un 22 (vi t32::vi t33::un 11 (t45.v::vi t46::vi t47::un 18 []))))
def pA:aa:=.seq (.region [cm 48 .lss 47 46] []) (.seq (.cond (.t 48) (kl [48]) (.seq (kl [9,45,46,47,48]) (.exit 2))) (.seq (.block 3 (.seq (.region [m 49 47,ia 50 1 45 47,ls 51 50,m 10 49,m 11 51] [49,50,51]) (.region [fa 52 1 8,lt 53 52,m 54 9,ia 55 1 53 54,lt 56 55,m 57 10,m 58 11,m 59 9,ia 60 1 58 59,lj 61 60,ia 62 1 56 57,sI 1 62 61] [10,11,52,53,54,55,56,57,58,59,60,61,62]))) (.region [bc 63 .add 47 1,m 47 63] [63])))
def uk:aa:=.block 2 (.loop pA)
def Hk(cn:aa):aa:=.seq (.seq (.region [m 35 33,m 9 35] [35]) (.seq (.region [fa 36 1 8,lt 37 36,m 38 9,fa 39 1 3,lt 40 39,ln 41 40,oJ 42 (.dj 8 [.int .i64 0] (.t 41) (.t 41)),ia 43 1 37 38,sI 1 43 42] [36,37,38,39,40,41,42,43]) (.region [fa 44 1 3,ls 45 44,ln 46 45,mc 47 0] [44]))) cn
def AD:aa:=Hk uk
def Mv(cn fJ:aa):aa:=.seq (.block 1 fJ) cn
def FM:aa:=Mv rK AD
def W6(cn:aa):aa:=.seq (.seq (.region [cm 34 .lss 33 32] []) (.cond (.t 34) (kl [34]) (.seq (kl [3,32,33,34]) (.exit 0)))) cn
def Oa:aa:=W6 FM
def acS:aa:=.seq (.block 0 (.loop Oa)) N9
def auU(cn:aa):aa:=.seq (.seq (.region [oI 2 (.box (.t 0)),oI 3 (.box (.t 1)),oI 4 (.alloc [.int .i64 0,.slice none 0 0]),mc 5 0] [0,1,5]) (.seq (.region [oI 13 (.load (.agg [.int .i64,.int .i64,.slice]) (.t 2)),oI 14 (.load (.agg [.int .i64,.slice]) (.t 3)),oI 15 (.bq 1 [.int .i64 0,.slice none 0 0] [(0,2,.t 14)]),oI 16 (.call (.f 102) [.t 13,.t 15] (.ke [.one .l0,.one (.int .i64)])),m 12 16,ex 17 12 0,ex 18 12 1,m 6 17,m 7 18] [2,6,12,13,14,15,16,17,18]) (.seq (.region [m 19 7,ck 20 .neq 19 0] [19]) (.seq (.cond (.t 20) (.seq (.region [oI 21 (.build [.int .i64 0,.slice none 0 0] []),m 22 7,sI 2 4 21,m 5 22] [3,7,20,21,22]) (.ret)) (kl [7,20])) (.seq (.region [fa 23 1 3,lt 24 23,ln 25 24,fa 26 0 3,lj 27 26,oJ 28 (.dj 24 [.slice none 0 0] (.t 27) (.t 27)),oI 29 (.build [.int .i64 0,.slice none 0 0] [(0,1,.t 25),(1,1,.t 28)]),oJ 8 (.alloc [.int .i64 0,.slice none 0 0]),sI 2 8 29] [23,24,25,26,27,28,29]) (.region [fa 30 1 8,ls 31 30,ln 32 31,mc 33 0] [30,31])))))) cn
def aCV:aa:=auU acS
def auV(aI aJ:Int)(aL:Sl)(eu:Int)(fA:Sl):List Value:=.agg ⟨[vi aI,vi aJ,vs aL]⟩::.agg ⟨[vi eu,vs fA]⟩::un 64 []
def kH:aK:=⟨66,aCV,[.cell 4 (.agg [.int .i64,.slice]),.tmp 5]⟩
theorem LI:okF Tryz.prog 84 kH=true:=by kernel_rfl
def ag0{R:Type}(C:Callee)(fl k:Nat)(kr:aY R):dh R:=fun t4 t8 h=>aF .i64 h t8.block t8.off fun n1=>aT h t8.block (t8.off+1) fun s2=>st fl h t4 [vi n1,vs s2] fun h3=>kr t4 0 h3
theorem amX:(cp FL (ce C fl k N9 K))=ag0 C fl k (cp aaO (K .ret)):=by kernel_rfl
def CN{R:Type}(C:Callee)(fl k:Nat)(kn:fb R)(e0:dh R):fb R:=fun t3 t4 t8 t32 t33 h=>kn t3 t4 t8 t32 (av (t33+1)) h
theorem Hl:(cp fc (ce C fl k rK K))=CN C fl k (cp fc (K .normal)) (cp FL (K (.exit 0))):=by kernel_rfl
def rL{R:Type}(C:Callee)(fl k:Nat)(kn:RU R)(e2:fb R):RU R:=fun t3 t4 t8 t9 t32 t33 t45 t46 t47 h=>if decide (t47<t46)=true then idx 1 t45 t47 fun p4=>aT h p4.block p4.off fun s5=>aT h t8.block (t8.off+1) fun s6=>idx 1 s6 t9 fun p7=>aT h p7.block p7.off fun s8=>idx 1 s5 t9 fun p9=>aF .i64 h p9.block p9.off fun mb=>idx 1 s8 t47 fun TS=>st fl h TS [vi mb] fun zN=>kn t3 t4 t8 t9 t32 t33 t45 t46 (av (t47+1)) zN else e2 t3 t4 t8 t32 t33 h
theorem LJ:(cp RV (ce C fl k pA K))=rL C fl k (cp RV (K .normal)) (cp fc (K (.exit 2))):=by kernel_rfl
def rM(kn:fb R):Nat→RU R
 |0=>fun _ _ _ _ _ _ _ _ _ _=>none
 |m+1=>rL C fl k (rM kn m) kn
theorem yn:∀m,(cp RV (aQ m (aW C fl k pA 2 K)))=rM C fl k (cp fc (K .normal)) m
 |0=>by kernel_rfl
 |m+1=>gu (LJ C fl k _) (ag (fun L=>rL C fl k L _) (yn m))
def Hm(kn:fb R):RU R:=rM C fl k kn k
theorem RW:(cp RV (ce C fl k uk K))=Hm C fl k (cp fc (K .normal)):=gv (yn C fl k K)
def AE{R:Type}(C:Callee)(fl k:Nat)(kx:RU R)(kn:fb R):fb R:=fun t3 t4 t8 t32 t33 h=>aT h t8.block (t8.off+1) fun VZ=>aT h t3.block (t3.off+1) fun TT=>qF 8 [.int .i64 0] ((TT.l:Nat):Int) ((TT.l:Nat):Int) h fun Ua GN=>idx 1 VZ t33 fun p17=>st fl GN p17 [vs Ua] fun JR=>aT JR t3.block (t3.off+1) fun s19=>kx t3 t4 t8 t33 t32 t33 s19 ((s19.l:Nat):Int) 0 JR
def CO(kn:fb R):fb R:=AE C fl k (Hm C fl k kn) kn
theorem Zm(cn:aa):(cp fc (ce C fl k (Hk cn) K))=AE C fl k (cp RV (ce C fl k cn K)) (cp fc (K .normal)):=by kernel_rfl
theorem Zn:(cp fc (ce C fl k AD K))=CO C fl k (cp fc (K .normal)):=(Zm C fl k K uk).trans (ag (fun L0=>AE C fl k L0 _) (RW C fl k K))
def FN{R:Type}(C:Callee)(fl k:Nat)(kx:fb R)(u0:fb R)(kn:fb R)(e0:dh R):fb R:=fun t3 t4 t8 t32 t33 h=>u0 t3 t4 t8 t32 t33 h
def W7(kn:fb R)(e0:dh R):fb R:=FN C fl k (CN C fl k kn e0) (CO C fl k (CN C fl k kn e0)) kn e0
theorem afe(cn fJ:aa):(cp fc (ce C fl k (Mv cn fJ) K))=FN C fl k (cp fc (ce C fl k cn K)) (cp fc (ce C fl k fJ (iK 1 (bw C fl k cn K)))) (cp fc (K .normal)) (cp FL (K (.exit 0))):=by kernel_rfl
theorem aff:(cp fc (ce C fl k FM K))=W7 C fl k (cp fc (K .normal)) (cp FL (K (.exit 0))):=(afe C fl k K rK AD).trans (gG (fun L0 L1=>FN C fl k L0 L1 _ _) (Hl C fl k K) ((Zn C fl k (iK 1 (bw C fl k rK K))).trans (ag (fun L0=>CO C fl k L0) (bn1 (Hl C fl k K)))))
def Ob{R:Type}(C:Callee)(fl k:Nat)(kx:fb R)(kn:fb R)(e0:dh R):fb R:=fun t3 t4 t8 t32 t33 h=>if decide (t33<t32)=true then kx t3 t4 t8 t32 t33 h else e0 t4 t8 h
def U0(kn:fb R)(e0:dh R):fb R:=Ob C fl k (W7 C fl k kn e0) kn e0
theorem amY(cn:aa):(cp fc (ce C fl k (W6 cn) K))=Ob C fl k (cp fc (ce C fl k cn K)) (cp fc (K .normal)) (cp FL (K (.exit 0))):=by kernel_rfl
theorem amZ:(cp fc (ce C fl k Oa K))=U0 C fl k (cp fc (K .normal)) (cp FL (K (.exit 0))):=(amY C fl k K FM).trans (ag (fun L0=>Ob C fl k L0 _ _) (aff C fl k K))
def Ky(kn:dh R):Nat→fb R
 |0=>fun _ _ _ _ _ _=>none
 |m+1=>U0 C fl k (Ky kn m) kn
theorem W8:∀m,(cp fc (aQ m (aW C fl k Oa 0 K)))=Ky C fl k (cp FL (K .normal)) m
 |0=>by kernel_rfl
 |m+1=>gu (amZ C fl k _) (ag (fun L=>U0 C fl k L _) (W8 m))
def auW(kr:aY R):fb R:=Ky C fl k (ag0 C fl k kr) k
theorem ayr:(cp fc (ce C fl k acS K))=auW C fl k (cp aaO (K .ret)):=(iP (gv (W8 C fl k (bw C fl k N9 K)))).trans (ag (fun L=>Ky C fl k L k) (iL (amX C fl k K)))
def arI{R:Type}(C:Callee)(fl k:Nat)(kx:fb R)(kr:aY R):bD R:=fun aI aJ aL eu fA h=>bJ h [vi aI,vi aJ,vs aL] fun b20 yL=>bJ yL [vi eu,vs fA] fun b22 YH=>bJ YH [.int .i64 0,.slice none 0 0] fun b24 h25=>aF .i64 h25 b20 0 fun EI=>aF .i64 h25 b20 1 fun n27=>aT h25 b20 2 fun s28=>aF .i64 h25 b22 0 fun n29=>aT h25 b22 1 fun s30=>bJ h25 [vi n29,vs s30] fun b31 Qp=>aj C fl fn.c7 [.agg ⟨[vi EI,vi n27,vs s28]⟩,.slice (some ⟨b31,0,none⟩) 1 1] Qp fun v33 h34=>aE v33 fun l35=>ar l35 fun v36 l37=>ek v36 fun p38=>ar l37 fun v39 l40=>asInt .i64 v39 fun n41=>aM l40 (if (n41 !=0)=true then st fl h34 ⟨b24,0,none⟩ [vi 0,.slice none 0 0] fun h42=>kr ⟨b24,0,none⟩ n41 h42 else aT h34 b22 1 fun s43=>aF .i64 h34 b22 0 fun n44=>qF 24 [.slice none 0 0] n44 n44 h34 fun s45 h46=>bJ h46 [.int .i64 0,.slice none 0 0] fun b47 h48=>st fl h48 ⟨b47,0,none⟩ [vi ((s43.l:Nat):Int),vs s45] fun h49=>aT h49 b47 1 fun s50=>kx ⟨b22,0,none⟩ ⟨b24,0,none⟩ ⟨b47,0,none⟩ ((s50.l:Nat):Int) 0 h49)
def aOk(kr:aY R):bD R:=arI C fl k (auW C fl k kr) kr
theorem aJo(cn:aa):(cp auV (ce C fl k (auU cn) K))=arI C fl k (cp fc (ce C fl k cn K)) (cp aaO (K .ret)):=by kernel_rfl
theorem aJp:(cp auV (ce C fl k aCV K))=aOk C fl k (cp aaO (K .ret)):=(aJo C fl k K acS).trans (ag (fun L0=>arI C fl k L0 _) (ayr C fl k K))
def mY(aw ax:Int)(ay:Sl)(cz:Int)(cF:Sl)(h:AH):Option (Value×AH):=aOk C fl k (fun y4 y5 q=>aF .i64 q y4.block y4.off fun n51=>aT q y4.block (y4.off+1) fun s52=>some (.tuple ⟨[.agg ⟨[vi n51,vs s52]⟩,vi y5]⟩,q)) aw ax ay cz cF h
theorem Jb(aw ax:Int)(ay:Sl)(cz:Int)(cF:Sl)(h):aV C fl k kH [.agg ⟨[vi aw,vi ax,vs ay]⟩,.agg ⟨[vi cz,vs cF]⟩] h=mY C fl k aw ax ay cz cF h:=oY (aJp C fl k (aG _)) aw ax ay cz cF (by kernel_rfl) (by kernel_rfl)
def aaP(t6:Addr)(t7:Int):List Value:=un 6 (vp t6::vi t7::un 48 [])
def Oc:aa:=.seq (.region [oI 55 (.load (.agg [.int .i64,.slice]) (.t 10)),sI 2 6 55,mc 7 0] [10,55]) (.ret)
def aiL(t6 t10:Addr):List Value:=un 6 (vp t6::un 3 (vp t10::un 45 []))
abbrev RX(R:Type):=Addr→Addr→OA→Addr→Sl→Int→Int→AH→Option R
def RY(t5 t6:Addr)(t8:OA)(t10:Addr)(t36:Sl)(t37 t38:Int):List Value:=un 5 (vp t5::vp t6::un 1 (vn t8::un 1 (vp t10::un 25 (t36.v::vi t37::vi t38::un 17 []))))
def Od:aa:=.seq (.region [cm 39 .lss 38 37] []) (.seq (.cond (.t 39) (kl [39]) (.seq (kl [5,8,36,37,38,39]) (.exit 0))) (.seq (.block 1 (.seq (.region [ia 40 1 36 38,ls 41 40,m 12 41] [40,41]) (.region [fa 42 1 10,lt 43 42,m 44 8,m 45 12,fa 46 1 5,lt 47 46,fa 48 0 5,lj 49 48,oJ 50 (.call (.f 111) [.t 44,.t 45,.t 47,.t 49] (.one (.one .slice))),oJ 51 (.bq 1 [.slice none 0 0] [(0,1,.t 50)]),oI 52 (.append 1 24 (.t 43) (.t 51)),fa 53 1 10,sI 1 53 52] [12,42,43,44,45,46,47,48,49,50,51,52,53]))) (.region [bc 54 .add 38 1,m 38 54] [54])))
def acT:aa:=.seq (.block 0 (.loop Od)) Oc
def auX(cn:aa):aa:=.seq (.seq (.region [oI 3 (.box (.t 0)),oI 4 (.box (.t 1)),oI 5 (.box (.t 2)),oI 6 (.alloc [.int .i64 0,.slice none 0 0]),mc 7 0] [0,1,2,7]) (.seq (.region [oI 14 (.load (.agg [.int .i64,.int .i64,.slice]) (.t 3)),oI 15 (.load (.agg [.int .i64,.slice]) (.t 4)),oI 16 (.load (.agg [.int .i64,.slice]) (.t 5)),oI 17 (.bq 2 [.int .i64 0,.slice none 0 0,.int .i64 0,.slice none 0 0] [(0,2,.t 15),(2,2,.t 16)]),oI 18 (.call (.f 102) [.t 14,.t 17] (.ke [.one .l0,.one (.int .i64)])),m 13 18,ex 19 13 0,ex 20 13 1,m 8 19,m 9 20] [3,13,14,15,16,17,18,19,20]) (.seq (.region [m 21 9,ck 22 .neq 21 0] [21]) (.seq (.cond (.t 22) (.seq (.region [oI 23 (.build [.int .i64 0,.slice none 0 0] []),m 24 9,sI 2 6 23,m 7 24] [4,5,8,9,22,23,24]) (.ret)) (kl [9,22])) (.seq (.region [fa 25 0 4,li 26 25,fa 27 1 5,ls 28 27,ln 29 28,cm 30 .neq 26 29] [25,26,27,28,29]) (.seq (.cond (.t 30) (.seq (.region [oI 31 (.build [.int .i64 0,.slice none 0 0] []),sI 2 6 31,mc 7 10] [4,5,8,30,31]) (.ret)) (kl [30])) (.seq (.region [fa 32 0 5,li 33 32,oI 34 (.build [.int .i64 0,.slice none 0 0] [(0,1,.t 33)]),oI 10 (.alloc [.int .i64 0,.slice none 0 0]),sI 2 10 34] [32,33,34]) (.region [fa 35 1 4,ls 36 35,ln 37 36,mc 38 0] [4,35])))))))) cn
def aCW:aa:=auX acT
abbrev auY(R:Type):=Int→Int→Sl→Int→Sl→Int→Sl→AH→Option R
def auZ(aI aJ:Int)(aL:Sl)(eu:Int)(fA:Sl)(aQA:Int)(aRR:Sl):List Value:=.agg ⟨[vi aI,vi aJ,vs aL]⟩::.agg ⟨[vi eu,vs fA]⟩::.agg ⟨[vi aQA,vs aRR]⟩::un 53 []
def zf:aK:=⟨56,aCW,[.cell 6 (.agg [.int .i64,.slice]),.tmp 7]⟩
theorem afg:okF Tryz.prog 85 zf=true:=by kernel_rfl
def ag1{R:Type}(C:Callee)(fl k:Nat)(kr:aY R):dh R:=fun t6 t10 h=>aF .i64 h t10.block t10.off fun n1=>aT h t10.block (t10.off+1) fun s2=>st fl h t6 [vi n1,vs s2] fun h3=>kr t6 0 h3
theorem am0:(cp aiL (ce C fl k Oc K))=ag1 C fl k (cp aaP (K .ret)):=by kernel_rfl
def U1{R:Type}(C:Callee)(fl k:Nat)(kn:RX R)(e0:dh R):RX R:=fun t5 t6 t8 t10 t36 t37 t38 h=>if decide (t38<t37)=true then idx 1 t36 t38 fun p4=>aT h p4.block p4.off fun s5=>aT h t10.block (t10.off+1) fun s6=>aT h t5.block (t5.off+1) fun s7=>aF .i64 h t5.block t5.off fun n8=>aj C h.next fn.E0 [.pointer t8,vs s5,vs s7,vi n8] h fun v9 sU=>aX v9 fun EG=>bJ sU [vs EG] fun b12 qB=>dn fl 1 24 s6 ⟨(some ⟨b12,0,none⟩),1,1⟩ qB fun TT nX=>st fl nX ⟨t10.block,t10.off+1,none⟩ [vs TT] fun GN=>kn t5 t6 t8 t10 t36 t37 (av (t38+1)) GN else e0 t6 t10 h
theorem am1:(cp RY (ce C fl k Od K))=U1 C fl k (cp RY (K .normal)) (cp aiL (K (.exit 0))):=by kernel_rfl
def Kz(kn:dh R):Nat→RX R
 |0=>fun _ _ _ _ _ _ _ _=>none
 |m+1=>U1 C fl k (Kz kn m) kn
theorem W9:∀m,(cp RY (aQ m (aW C fl k Od 0 K)))=Kz C fl k (cp aiL (K .normal)) m
 |0=>by kernel_rfl
 |m+1=>gu (am1 C fl k _) (ag (fun L=>U1 C fl k L _) (W9 m))
def au0(kr:aY R):RX R:=Kz C fl k (ag1 C fl k kr) k
theorem ays:(cp RY (ce C fl k acT K))=au0 C fl k (cp aaP (K .ret)):=(iP (gv (W9 C fl k (bw C fl k Oc K)))).trans (ag (fun L=>Kz C fl k L k) (iL (am0 C fl k K)))
def arJ{R:Type}(C:Callee)(fl k:Nat)(kx:RX R)(kr:aY R):auY R:=fun aI aJ aL eu fA aQA aRR h=>bJ h [vi aI,vi aJ,vs aL] fun b17 JR=>bJ JR [vi eu,vs fA] fun b19 Qn=>bJ Qn [vi aQA,vs aRR] fun b21 TY=>bJ TY [.int .i64 0,.slice none 0 0] fun b23 vt=>aF .i64 vt b17 0 fun HU=>aF .i64 vt b17 1 fun EI=>aT vt b17 2 fun s27=>aF .i64 vt b19 0 fun n28=>aT vt b19 1 fun s29=>aF .i64 vt b21 0 fun n30=>aT vt b21 1 fun s31=>bJ vt [vi n28,vs s29,vi n30,vs s31] fun b32 h33=>aj C fl fn.c7 [.agg ⟨[vi HU,vi EI,vs s27]⟩,.slice (some ⟨b32,0,none⟩) 2 2] h33 fun v34 h35=>aE v34 fun l36=>ar l36 fun v37 l38=>ek v37 fun p39=>ar l38 fun v40 l41=>asInt .i64 v40 fun n42=>aM l41 (if (n42 !=0)=true then st fl h35 ⟨b23,0,none⟩ [vi 0,.slice none 0 0] fun h43=>kr ⟨b23,0,none⟩ n42 h43 else aF .i64 h35 b19 0 fun n44=>aT h35 b21 1 fun s45=>if (n44 !=((s45.l:Nat):Int))=true then st fl h35 ⟨b23,0,none⟩ [vi 0,.slice none 0 0] fun h46=>kr ⟨b23,0,none⟩ 10 h46 else aF .i64 h35 b21 0 fun n47=>bJ h35 [.int .i64 0,.slice none 0 0] fun b48 h49=>st fl h49 ⟨b48,0,none⟩ [vi n47,.slice none 0 0] fun h50=>aT h50 b19 1 fun s51=>kx ⟨b21,0,none⟩ ⟨b23,0,none⟩ p39 ⟨b48,0,none⟩ s51 ((s51.l:Nat):Int) 0 h50)
def aOl(kr:aY R):auY R:=arJ C fl k (au0 C fl k kr) kr
theorem aJq(cn:aa):(cp auZ (ce C fl k (auX cn) K))=arJ C fl k (cp RY (ce C fl k cn K)) (cp aaP (K .ret)):=by kernel_rfl
theorem aJr:(cp auZ (ce C fl k aCW K))=aOl C fl k (cp aaP (K .ret)):=(aJq C fl k K acT).trans (ag (fun L0=>arJ C fl k L0 _) (ays C fl k K))
def EZ(aw ax:Int)(ay:Sl)(cz:Int)(cF:Sl)(aGb:Int)(aFM:Sl)(h:AH):Option (Value×AH):=aOl C fl k (fun y6 y7 q=>aF .i64 q y6.block y6.off fun n52=>aT q y6.block (y6.off+1) fun s53=>some (.tuple ⟨[.agg ⟨[vi n52,vs s53]⟩,vi y7]⟩,q)) aw ax ay cz cF aGb aFM h
theorem acU(aw ax:Int)(ay:Sl)(cz:Int)(cF:Sl)(aGb:Int)(aFM:Sl)(h):aV C fl k zf [.agg ⟨[vi aw,vi ax,vs ay]⟩,.agg ⟨[vi cz,vs cF]⟩,.agg ⟨[vi aGb,vs aFM]⟩] h=EZ C fl k aw ax ay cz cF aGb aFM h:=axU (aJr C fl k (aG _)) aw ax ay cz cF aGb aFM (by kernel_rfl) (by kernel_rfl)
def aJs(t6 t7:Sl):List Value:=un 6 (t6.v::t7.v::un 14 [])
def aCX:aa:=.seq (.region [oI 3 (.box (.t 0)),oI 6 (.mv (.c (.slice none 0 0))),oI 7 (.mv (.c (.slice none 0 0)))] [0,6,7]) (.seq (.region [oI 11 (.load (.agg [.int .i64,.int .i64,.slice]) (.t 3)),m 12 1,m 13 2,oI 14 (.call (.f 125) [.t 11,.t 12,.t 13] (.ke [.one .slice,.one .slice])),m 10 14,ex 15 10 0,ex 16 10 1,m 8 15,m 9 16] [1,2,3,10,11,12,13,14,15,16]) (.seq (.region [m 17 8,m 18 9,ln 19 18,oI 20 (.slice 1 (.t 17) none (some (.t 19)) none),m 21 9,m 6 20,m 7 21] [8,9,17,18,19,20,21]) (.ret)))
abbrev aaQ(R:Type):=Int→Int→Sl→Sl→Int→AH→Option R
def aJt(aI aJ:Int)(aL t1:Sl)(t2:Int):List Value:=.agg ⟨[vi aI,vi aJ,vs aL]⟩::t1.v::vi t2::un 19 []
def wu:aK:=⟨22,aCX,[.tmp 6,.tmp 7]⟩
theorem acV:okF Tryz.prog 86 wu=true:=by kernel_rfl
def aCY{R:Type}(C:Callee)(fl k:Nat)(kr:cR R):aaQ R:=fun aI aJ aL t1 t2 h=>bJ h [vi aI,vi aJ,vs aL] fun b1 h2=>aF .i64 h2 b1 0 fun n3=>aF .i64 h2 b1 1 fun n4=>aT h2 b1 2 fun s5=>aj C fl fn.gI [.agg ⟨[vi n3,vi n4,vs s5]⟩,vs t1,vi t2] h2 fun v6 h7=>aE v6 fun l8=>ar l8 fun v9 l10=>aX v9 fun EG=>ar l10 fun V3 l13=>aX V3 fun TT=>aM l13 (sub 1 EG none (some ((TT.l:Nat):Int)) none fun Ua=>kr Ua TT h7)
theorem aJu:(cp aJt (ce C fl k aCX K))=aCY C fl k (cp aJs (K .ret)):=by kernel_rfl
def ja(aw ax:Int)(ay p1:Sl)(p2:Int)(h:AH):Option (Value×AH):=aCY C fl k (fun y6 y7 q=>some (.tuple ⟨[vs y6,vs y7]⟩,q)) aw ax ay p1 p2 h
theorem Zo(aw ax:Int)(ay p1:Sl)(p2:Int)(h):aV C fl k wu [.agg ⟨[vi aw,vi ax,vs ay]⟩,vs p1,vi p2] h=ja C fl k aw ax ay p1 p2 h:=oY (aJu C fl k (aG _)) aw ax ay p1 p2 (by kernel_rfl) (by kernel_rfl)
def KA(t4:Int):List Value:=un 4 (vi t4::un 14 [])
def Oe:aa:=.seq (.region [oI 4 (.mv (ci (-1)))] []) (.ret)
def aiM:List Value:=un 19 []
abbrev aZ(R:Type):=Sl→Int→Int→Int→AH→Option R
def RZ(t0:Sl)(t1 t7 t8:Int):List Value:=t0.v::vi t1::un 5 (vi t7::vi t8::un 10 [])
def Of:aa:=.seq (.region [cm 9 .lss 8 7] []) (.seq (.cond (.t 9) (kl [9]) (.seq (kl [0,1,7,8,9]) (.exit 0))) (.seq (.block 1 (.seq (.region [m 10 8,m 5 10] [10]) (.seq (.region [m 11 1,m 12 0,m 13 5,ia 14 1 12 13,li 15 14,cm 16 .eql 11 15] [11,12,13,14,15]) (.cond (.t 16) (.seq (.region [m 17 5,m 4 17] [0,1,5,7,8,16,17]) (.ret)) (kl [5,16]))))) (.region [bc 18 .add 8 1,m 8 18] [18])))
def acW:aa:=.seq (.block 0 (.loop Of)) Oe
def au1(cn:aa):aa:=.seq (.seq (.region [mc 4 0] [4]) (.region [m 6 0,ln 7 6,mc 8 0] [6])) cn
def aCZ:aa:=au1 acW
def au2(t0:Sl)(t1:Int):List Value:=t0.v::vi t1::un 17 []
def rN:aK:=⟨19,aCZ,[.tmp 4]⟩
theorem Zp:okF Tryz.prog 89 rN=true:=by kernel_rfl
def ag2{R:Type}(C:Callee)(fl k:Nat)(kr:ah R):au R:=fun h=>kr (-1) h
theorem am2:(cp aiM (ce C fl k Oe K))=ag2 C fl k (cp KA (K .ret)):=by kernel_rfl
def U2{R:Type}(C:Callee)(fl k:Nat)(kn:aZ R)(e0:au R)(kr:ah R):aZ R:=fun t0 t1 t7 t8 h=>if decide (t8<t7)=true then idx 1 t0 t8 fun p1=>aF .i64 h p1.block p1.off fun n2=>if (t1==n2)=true then kr t8 h else kn t0 t1 t7 (av (t8+1)) h else e0 h
theorem am3:(cp RZ (ce C fl k Of K))=U2 C fl k (cp RZ (K .normal)) (cp aiM (K (.exit 0))) (cp KA (K .ret)):=by kernel_rfl
def KB(kn:au R)(kr:ah R):Nat→aZ R
 |0=>fun _ _ _ _ _=>none
 |m+1=>U2 C fl k (KB kn kr m) kn kr
theorem Xa:∀m,(cp RZ (aQ m (aW C fl k Of 0 K)))=KB C fl k (cp aiM (K .normal)) (cp KA (K .ret)) m
 |0=>by kernel_rfl
 |m+1=>gu (am3 C fl k _) (ag (fun L=>U2 C fl k L _ _) (Xa m))
def au3(kr:ah R):aZ R:=KB C fl k (ag2 C fl k kr) kr k
theorem ayt:(cp RZ (ce C fl k acW K))=au3 C fl k (cp KA (K .ret)):=(iP (gv (Xa C fl k (bw C fl k Oe K)))).trans (ag (fun L=>KB C fl k L _ k) (iL (am2 C fl k K)))
def arK{R:Type}(C:Callee)(fl k:Nat)(kx:aZ R)(kr:ah R):aO R:=fun t0 t1 h=>kx t0 t1 ((t0.l:Nat):Int) 0 h
def aOm(kr:ah R):aO R:=arK C fl k (au3 C fl k kr) kr
theorem aJv(cn:aa):(cp au2 (ce C fl k (au1 cn) K))=arK C fl k (cp RZ (ce C fl k cn K)) (cp KA (K .ret)):=by kernel_rfl
theorem aJw:(cp au2 (ce C fl k aCZ K))=aOm C fl k (cp KA (K .ret)):=(aJv C fl k K acW).trans (ag (fun L0=>arK C fl k L0 _) (ayt C fl k K))
def yR(p0:Sl)(p1:Int)(h:AH):Option (Value×AH):=aOm C fl k (fun y4 q=>some (vi y4,q)) p0 p1 h
theorem U3(p0:Sl)(p1:Int)(h):aV C fl k rN [vs p0,vi p1] h=yR C fl k p0 p1 h:=tF (aJw C fl k (aG _)) p0 p1 (by kernel_rfl) (by kernel_rfl)
def aJx(t6:OA)(t7:Int):List Value:=un 6 (vn t6::vi t7::un 35 [])
def aC0:aa:=.seq (.region [oI 3 (.box (.t 0)),oI 6 (.mv (.c (.pointer none))),mc 7 0] [0,6,7]) (.seq (.region [oI 11 (.load (.agg [.int .i64,.int .i64,.slice,.int .i64,.slice]) (.t 3)),m 12 2,oI 13 (.call (.f 127) [.t 11,.t 12] (.ke [.one .l0,.one (.int .i64)])),m 10 13,ex 14 10 0,ex 15 10 1,m 8 14,m 9 15] [10,11,12,13,14,15]) (.seq (.region [m 16 9,ck 17 .neq 16 0] [16]) (.seq (.cond (.t 17) (.seq (.region [m 18 9,oI 6 (.mv (.c (.pointer none))),m 7 18] [1,2,3,8,9,17,18]) (.ret)) (kl [9,17])) (.seq (.region [m 19 1,ck 20 .lss 19 0,m 21 20,.gL 21 false [qI 22 (.mv (.t 1)),qI 23 (.cW 4 (.t 3)),qI 24 (.load (.one .slice) (.t 23)),qI 25 (.len (.t 24)),qI 26 (.cmp .gtr .i64 (.t 22) (.t 25))],oI 27 (.pick (.t 21) (.c (.bool true)) (.t 26)),m 28 27,.gL 28 false [qI 29 (.mv (.t 2)),qI 30 (.cmp .lss .i64 (.t 29) (ci 0))],oI 31 (.pick (.t 28) (.c (.bool true)) (.t 30)),m 32 31,.gL 32 false [qI 33 (.mv (.t 2)),qI 34 (.cW 3 (.t 3)),qI 35 (.load (.one (.int .i64)) (.t 34)),qI 36 (.cmp .gtr .i64 (.t 33) (.t 35))],oI 37 (.pick (.t 32) (.c (.bool true)) (.t 36))] [2,3,19,20,21,22,23,24,25,26,27,28,29,30,31,32,33,34,35,36]) (.seq (.cond (.t 37) (.seq (.region [oI 6 (.mv (.c (.pointer none))),mc 7 6] [1,8,37]) (.ret)) (kl [37])) (.seq (.region [m 38 8,m 39 1,oI 40 (.cQ (.t 38)),fa 41 8 40,sI 1 41 39] [1,38,39,40,41]) (.seq (.region [m 42 8,m 6 42,mc 7 0] [8,42]) (.ret))))))))
def aJy(aI aJ:Int)(aL:Sl)(bZ:Int)(bY:Sl)(t1 t2:Int):List Value:=.agg ⟨[vi aI,vi aJ,vs aL,vi bZ,vs bY]⟩::vi t1::vi t2::un 40 []
def ny:aK:=⟨43,aC0,[.tmp 6,.tmp 7]⟩
theorem R0:okF Tryz.prog 90 ny=true:=by kernel_rfl
def aOn{R:Type}(C:Callee)(fl k:Nat)(kr:di R):aiu R:=fun aI aJ aL bZ bY t1 t2 h=>bJ h [vi aI,vi aJ,vs aL,vi bZ,vs bY] fun b1 h2=>aF .i64 h2 b1 0 fun n3=>aF .i64 h2 b1 1 fun n4=>aT h2 b1 2 fun s5=>aF .i64 h2 b1 3 fun n6=>aT h2 b1 4 fun s7=>aj C fl fn.qR [.agg ⟨[vi n3,vi n4,vs s5,vi n6,vs s7]⟩,vi t2] h2 fun v8 h9=>aE v8 fun l10=>ar l10 fun v11 l12=>ek v11 fun p13=>ar l12 fun v14 l15=>asInt .i64 v14 fun HT=>aM l15 (if (HT !=0)=true then kr none HT h9 else if decide (t1<0)=false then aT h9 b1 4 fun s17=>if decide (t1>((s17.l:Nat):Int))=false then if decide (t2<0)=false then aF .i64 h9 b1 3 fun JT=>if decide (t2>JT)=true then kr none 6 h9 else bz (.pointer p13) fun p19=>st fl h9 ⟨p19.block,p19.off+8,none⟩ [vi t1] fun Qn=>kr p13 0 Qn else kr none 6 h9 else kr none 6 h9 else kr none 6 h9)
theorem aJz:(cp aJy (ce C fl k aC0 K))=aOn C fl k (cp aJx (K .ret)):=by kernel_rfl
def mq(aw ax:Int)(ay:Sl)(bk:Int)(bj:Sl)(p1 p2:Int)(h:AH):Option (Value×AH):=aOn C fl k (fun y6 y7 q=>some (.tuple ⟨[.pointer y6,vi y7]⟩,q)) aw ax ay bk bj p1 p2 h
theorem Og(aw ax:Int)(ay:Sl)(bk:Int)(bj:Sl)(p1 p2:Int)(h):aV C fl k ny [.agg ⟨[vi aw,vi ax,vs ay,vi bk,vs bj]⟩,vi p1,vi p2] h=mq C fl k aw ax ay bk bj p1 p2 h:=axU (aJz C fl k (aG _)) aw ax ay bk bj p1 p2 (by kernel_rfl) (by kernel_rfl)
def aJA(t2:Addr)(t3:Int):List Value:=un 2 (vp t2::vi t3::un 12 [])
def aC1:aa:=.seq (.region [oI 2 (.alloc [.slice none 0 0]),mc 3 0] [3]) (.seq (.region [m 5 0,oI 6 (.call (.f 128) [.t 5,.c (.slice none 0 0),.c (.slice none 0 0)] (.one (.one (.int .i64)))),m 4 6] [5,6]) (.seq (.region [m 7 4,ck 8 .neq 7 0] [7]) (.seq (.cond (.t 8) (.seq (.region [oI 9 (.build [.slice none 0 0] []),m 10 4,sI 1 2 9,m 3 10] [0,4,8,9,10]) (.ret)) (kl [4,8])) (.seq (.region [m 11 0,oI 12 (.cQ (.t 11)),fa 13 10 12,ls 14 13,oI 15 (.build [.slice none 0 0] [(0,1,.t 14)]),sI 1 2 15,mc 3 0] [0,11,12,13,14,15]) (.ret)))))
def aJB(t0:OA):List Value:=vn t0::un 15 []
def gT:aK:=⟨16,aC1,[.cell 2 (.agg [.slice]),.tmp 3]⟩
theorem DG:okF Tryz.prog 91 gT=true:=by kernel_rfl
def aOo{R:Type}(C:Callee)(fl k:Nat)(kr:aY R):wi R:=fun t0 h=>bJ h [.slice none 0 0] fun b1 h2=>aj C fl fn.fL [.pointer t0,.slice none 0 0,.slice none 0 0] h2 fun v3 h4=>asInt .i64 v3 fun n5=>if (n5 !=0)=true then st fl h4 ⟨b1,0,none⟩ [.slice none 0 0] fun h6=>kr ⟨b1,0,none⟩ n5 h6 else bz (.pointer t0) fun p7=>aT h4 p7.block (p7.off+10) fun s8=>st fl h4 ⟨b1,0,none⟩ [vs s8] fun h9=>kr ⟨b1,0,none⟩ 0 h9
theorem aJC:(cp aJB (ce C fl k aC1 K))=aOo C fl k (cp aJA (K .ret)):=by kernel_rfl
def jb(p0:OA)(h:AH):Option (Value×AH):=aOo C fl k (fun y2 y3 q=>aT q y2.block y2.off fun s10=>some (.tuple ⟨[.agg ⟨[vs s10]⟩,vi y3]⟩,q)) p0 h
theorem CQ(p0:OA)(h):aV C fl k gT [.pointer p0] h=jb C fl k p0 h:=IU (aJC C fl k (aG _)) p0 (by kernel_rfl) (by kernel_rfl)
def aiN(t4:Int):List Value:=un 4 (vi t4::un 23 [])
def acX:aa:=.seq (.region [m 27 5,m 4 27] [5,27]) (.ret)
def au4(t5:Int):List Value:=un 5 (vi t5::un 22 [])
def au5(cn:aa):aa:=.seq (.seq (.region [oI 3 (.box (.t 1)),mc 4 0] [1,4]) (.seq (.region [m 6 0,fa 7 0 3,ls 8 7,oI 9 (.cQ (.t 6)),fa 10 10 9,sI 1 10 8] [3,6,7,8,9,10]) (.seq (.region [m 11 0,oI 12 (.call (.f 134) [.t 11,.c (.slice none 0 0),.c (.slice none 0 0)] (.one (.one (.int .i64)))),m 5 12] [11,12]) (.seq (.region [m 13 5,ck 14 .eql 13 0,m 15 14,.gL 15 true [qI 16 (.mv (.t 0)),qI 17 (.cQ (.t 16)),qI 18 (.cW 11 (.t 17)),qJ 19 (.load (.one (.int .i64)) (.t 18)),qI 20 (.mv (.t 0)),qI 21 (.cQ (.t 20)),qI 22 (.cW 10 (.t 21)),qJ 23 (.load (.one .slice) (.t 22)),qI 24 (.len (.t 23)),qI 25 (.cmp .lss .i64 (.t 19) (.t 24))],oI 26 (.pick (.t 15) (.t 25) (.c (.bool false)))] [0,13,14,15,16,17,18,19,20,21,22,23,24,25]) (.cond (.t 26) (.seq (.region [mc 4 13] [5,26]) (.ret)) (kl [26])))))) cn
def aC2:aa:=au5 acX
abbrev eh(R:Type):=OA→Sl→AH→Option R
def au6(t0:OA)(eu:Sl):List Value:=vn t0::.agg ⟨[vs eu]⟩::un 26 []
def fV:aK:=⟨28,aC2,[.tmp 4]⟩
theorem By:okF Tryz.prog 94 fV=true:=by kernel_rfl
def au7{R:Type}(C:Callee)(fl k:Nat)(kr:ah R):ah R:=fun t5 h=>kr t5 h
theorem ayu:(cp au4 (ce C fl k acX K))=au7 C fl k (cp aiN (K .ret)):=by kernel_rfl
def arL{R:Type}(C:Callee)(fl k:Nat)(kx:ah R)(kr:ah R):eh R:=fun t0 eu h=>bJ h [vs eu] fun b1 h2=>aT h2 b1 0 fun s3=>bz (.pointer t0) fun p4=>st fl h2 ⟨p4.block,p4.off+10,none⟩ [vs s3] fun h5=>aj C fl fn.fM [.pointer t0,.slice none 0 0,.slice none 0 0] h5 fun v6 h7=>asInt .i64 v6 fun n8=>if (n8==0)=true then bz (.pointer t0) fun p9=>aF .i64 h7 p9.block (p9.off+11) fun mb=>bz (.pointer t0) fun TS=>aT h7 TS.block (TS.off+10) fun T8=>if decide (mb<((T8.l:Nat):Int))=true then kr 13 h7 else kx n8 h7 else kx n8 h7
def aOp(kr:ah R):eh R:=arL C fl k (au7 C fl k kr) kr
theorem aJD(cn:aa):(cp au6 (ce C fl k (au5 cn) K))=arL C fl k (cp au4 (ce C fl k cn K)) (cp aiN (K .ret)):=by kernel_rfl
theorem aJE:(cp au6 (ce C fl k aC2 K))=aOp C fl k (cp aiN (K .ret)):=(aJD C fl k K acX).trans (ag (fun L0=>arL C fl k L0 _) (ayu C fl k K))
def gP(p0:OA)(cz:Sl)(h:AH):Option (Value×AH):=aOp C fl k (fun y4 q=>some (vi y4,q)) p0 cz h
theorem AF(p0:OA)(cz:Sl)(h):aV C fl k fV [.pointer p0,.agg ⟨[vs cz]⟩] h=gP C fl k p0 cz h:=tF (aJE C fl k (aG _)) p0 cz (by kernel_rfl) (by kernel_rfl)
def KC(t2:Int):List Value:=un 2 (vi t2::un 31 [])
def Oh:aa:=.seq (.region [m 33 3,m 2 33] [3,33]) (.ret)
def aiO(t3:Int):List Value:=un 3 (vi t3::un 30 [])
def R1(t1:Addr)(t3 t4:Int):List Value:=un 1 (vp t1::un 1 (vi t3::vi t4::un 29 []))
def Oi:aa:=.seq (.region [m 18 4,fa 19 1 1,li 20 19,cm 21 .lss 18 20] [18,19,20]) (.seq (.cond (.t 21) (kl [21]) (.seq (kl [1,4,21]) (.exit 0))) (.seq (.block 1 (.seq (.seq (.region [m 24 3,fa 25 0 1,li 26 25,oI 27 (.bin .quo .i64 (ci 256) (.t 26)),cm 28 .gtr 24 27] [24,25,26,27]) (.cond (.t 28) (.seq (.region [mc 2 0] [1,3,4,28]) (.ret)) (kl [28]))) (.region [m 29 3,fa 30 0 1,li 31 30,bb 32 .mul 29 31,m 3 32] [29,30,31,32]))) (.region [m 22 4,bc 23 .add 22 1,m 4 23] [22,23])))
def acY:aa:=.seq (.block 0 (.loop Oi)) Oh
def au8(cn:aa):aa:=.seq (.seq (.region [oI 1 (.box (.t 0)),mc 2 0] [0,2]) (.seq (.region [fa 5 0 1,li 6 5,ck 7 .lss 6 2,m 8 7,.gL 8 false [qI 9 (.cW 1 (.t 1)),qI 10 (.load (.one (.int .i64)) (.t 9)),qI 11 (.cmp .lss .i64 (.t 10) (ci 1))],oI 12 (.pick (.t 8) (.c (.bool true)) (.t 11)),m 13 12,.gL 13 false [qI 14 (.cW 1 (.t 1)),qI 15 (.load (.one (.int .i64)) (.t 14)),qI 16 (.cmp .gtr .i64 (.t 15) (ci 8))],oI 17 (.pick (.t 13) (.c (.bool true)) (.t 16))] [5,6,7,8,9,10,11,12,13,14,15,16]) (.seq (.cond (.t 17) (.seq (.region [mc 2 0] [1,17]) (.ret)) (kl [17])) (.seq (.region [mc 3 1] []) (.region [mc 4 0] []))))) cn
def aC3:aa:=au8 acY
def au9(aI aJ:Int)(aL:Sl):List Value:=.agg ⟨[vi aI,vi aJ,vs aL]⟩::un 33 []
def wv:aK:=⟨34,aC3,[.tmp 2]⟩
theorem acZ:okF Tryz.prog 96 wv=true:=by kernel_rfl
def U4{R:Type}(C:Callee)(fl k:Nat)(kr:ah R):ah R:=fun t3 h=>kr t3 h
theorem am4:(cp aiO (ce C fl k Oh K))=U4 C fl k (cp KC (K .ret)):=by kernel_rfl
def um{R:Type}(C:Callee)(fl k:Nat)(kn:rv R)(e0:ah R)(kr:ah R):rv R:=fun t1 t3 t4 h=>aF .i64 h t1.block (t1.off+1) fun n1=>if decide (t4<n1)=true then aF .i64 h t1.block t1.off fun n2=>j6 .quo .i64 256 n2 fun n3=>if decide (t3>n3)=true then kr 0 h else aF .i64 h t1.block t1.off fun n4=>kn t1 (av (t3*n4)) (av (t4+1)) h else e0 t3 h
theorem am5:(cp R1 (ce C fl k Oi K))=um C fl k (cp R1 (K .normal)) (cp aiO (K (.exit 0))) (cp KC (K .ret)):=by kernel_rfl
def DH(kn:ah R)(kr:ah R):Nat→rv R
 |0=>fun _ _ _ _=>none
 |m+1=>um C fl k (DH kn kr m) kn kr
theorem Xb:∀m,(cp R1 (aQ m (aW C fl k Oi 0 K)))=DH C fl k (cp aiO (K .normal)) (cp KC (K .ret)) m
 |0=>by kernel_rfl
 |m+1=>gu (am5 C fl k _) (ag (fun L=>um C fl k L _ _) (Xb m))
def ava(kr:ah R):rv R:=DH C fl k (U4 C fl k kr) kr k
theorem ayv:(cp R1 (ce C fl k acY K))=ava C fl k (cp KC (K .ret)):=(iP (gv (Xb C fl k (bw C fl k Oh K)))).trans (ag (fun L=>DH C fl k L _ k) (iL (am4 C fl k K)))
def aiP{R:Type}(C:Callee)(fl k:Nat)(kx:rv R)(kr:ah R):kv R:=fun aI aJ aL h=>bJ h [vi aI,vi aJ,vs aL] fun b5 h6=>aF .i64 h6 b5 0 fun n7=>if decide (n7<2)=false then aF .i64 h6 b5 1 fun n8=>if decide (n8<1)=false then aF .i64 h6 b5 1 fun n9=>if decide (n9>8)=true then kr 0 h6 else kx ⟨b5,0,none⟩ 1 0 h6 else kr 0 h6 else kr 0 h6
def aC4(kr:ah R):kv R:=aiP C fl k (ava C fl k kr) kr
theorem aJF(cn:aa):(cp au9 (ce C fl k (au8 cn) K))=aiP C fl k (cp R1 (ce C fl k cn K)) (cp KC (K .ret)):=by kernel_rfl
theorem aJG:(cp au9 (ce C fl k aC3 K))=aC4 C fl k (cp KC (K .ret)):=(aJF C fl k K acY).trans (ag (fun L0=>aiP C fl k L0 _) (ayv C fl k K))
def mw(aw ax:Int)(ay:Sl)(h:AH):Option (Value×AH):=aC4 C fl k (fun y2 q=>some (vi y2,q)) aw ax ay h
theorem Zq(aw ax:Int)(ay:Sl)(h):aV C fl k wv [.agg ⟨[vi aw,vi ax,vs ay]⟩] h=mw C fl k aw ax ay h:=tG (aJG C fl k (aG _)) aw ax ay (by kernel_rfl) (by kernel_rfl)
def KD(t2:Bool):List Value:=un 2 (.bool t2::un 10 [])
def Oj:aa:=.seq (.region [oI 2 (.mv (.c (.bool true)))] []) (.ret)
def aiQ:List Value:=un 13 []
def R2(t0 t3:Int):List Value:=vi t0::un 2 (vi t3::un 9 [])
def Ok:aa:=.seq (.region [m 4 3,m 5 0,cm 6 .lss 4 5] [4,5]) (.seq (.cond (.t 6) (kl [6]) (.seq (kl [0,3,6]) (.exit 0))) (.seq (.block 1 (.seq (.region [m 9 0,m 10 3,bb 11 .rem 9 10,ck 12 .eql 11 0] [9,10,11]) (.cond (.t 12) (.seq (.region [oI 2 (.mv (.c (.bool false)))] [0,3,12]) (.ret)) (kl [12])))) (.region [m 7 3,bc 8 .add 7 1,m 3 8] [7,8])))
def ac0:aa:=.seq (.block 0 (.loop Ok)) Oj
def avb(cn:aa):aa:=.seq (.seq (.region [oI 2 (.mv (.c (.bool false)))] [2]) (.region [mc 3 2] [])) cn
def aC5:aa:=avb ac0
def avc(t0:Int):List Value:=vi t0::un 12 []
def wx:aK:=⟨13,aC5,[.tmp 2]⟩
theorem ac1:okF Tryz.prog 97 wx=true:=by kernel_rfl
def U5{R:Type}(C:Callee)(fl k:Nat)(kr:aC R):au R:=fun h=>kr true h
theorem am6:(cp aiQ (ce C fl k Oj K))=U5 C fl k (cp KD (K .ret)):=by kernel_rfl
def uo{R:Type}(C:Callee)(fl k:Nat)(kn:cL R)(e0:au R)(kr:aC R):cL R:=fun t0 t3 h=>if decide (t3<t0)=true then j6 .rem .i64 t0 t3 fun n1=>if (n1==0)=true then kr false h else kn t0 (av (t3+1)) h else e0 h
theorem am7:(cp R2 (ce C fl k Ok K))=uo C fl k (cp R2 (K .normal)) (cp aiQ (K (.exit 0))) (cp KD (K .ret)):=by kernel_rfl
def DI(kn:au R)(kr:aC R):Nat→cL R
 |0=>fun _ _ _=>none
 |m+1=>uo C fl k (DI kn kr m) kn kr
theorem Xc:∀m,(cp R2 (aQ m (aW C fl k Ok 0 K)))=DI C fl k (cp aiQ (K .normal)) (cp KD (K .ret)) m
 |0=>by kernel_rfl
 |m+1=>gu (am7 C fl k _) (ag (fun L=>uo C fl k L _ _) (Xc m))
def aiR(kr:aC R):cL R:=DI C fl k (U5 C fl k kr) kr k
theorem ayw:(cp R2 (ce C fl k ac0 K))=aiR C fl k (cp KD (K .ret)):=(iP (gv (Xc C fl k (bw C fl k Oj K)))).trans (ag (fun L=>DI C fl k L _ k) (iL (am6 C fl k K)))
def aiS{R:Type}(C:Callee)(fl k:Nat)(kx:cL R)(kr:aC R):ah R:=fun t0 h=>kx t0 2 h
def aC6(kr:aC R):ah R:=aiS C fl k (aiR C fl k kr) kr
theorem aJH(cn:aa):(cp avc (ce C fl k (avb cn) K))=aiS C fl k (cp R2 (ce C fl k cn K)) (cp KD (K .ret)):=by kernel_rfl
theorem aJI:(cp avc (ce C fl k aC5 K))=aC6 C fl k (cp KD (K .ret)):=(aJH C fl k K ac0).trans (ag (fun L0=>aiS C fl k L0 _) (ayw C fl k K))
def pY(p0:Int)(h:AH):Option (Value×AH):=aC6 C fl k (fun y2 q=>some (.bool y2,q)) p0 h
theorem Zr(p0:Int)(h):aV C fl k wx [vi p0] h=pY C fl k p0 h:=IU (aJI C fl k (aG _)) p0 (by kernel_rfl) (by kernel_rfl)
def kI(t4:Bool):List Value:=un 4 (.bool t4::un 25 [])
def Ol:aa:=.seq (.region [oI 4 (.mv (.c (.bool true)))] []) (.ret)
def FO:List Value:=un 30 []
def fe(t0:Sl)(t1 t5 t6:Int):List Value:=t0.v::vi t1::un 3 (vi t5::vi t6::un 23 [])
def rO:aa:=.region [m 13 6,bc 14 .add 13 1,m 6 14] [13,14]
abbrev rP(R:Type):=Sl→Int→Int→Int→Int→AH→Option R
def R3(t0:Sl)(t1 t5 t6 t7:Int):List Value:=t0.v::vi t1::un 3 (vi t5::vi t6::vi t7::un 22 [])
def pB:aa:=.seq (.region [m 18 7,m 19 5,cm 20 .lss 18 19] [18,19]) (.seq (.cond (.t 20) (kl [20]) (.seq (kl [7,20]) (.exit 2))) (.seq (.block 3 (.seq (.region [m 23 7,m 24 1,m 25 6,oI 26 (.call (.f 137) [.t 23,.t 24,.t 25] (.one (.one .slice))),m 27 0,m 28 1,oI 29 (.call (.f 136) [.t 26,.t 27,.t 28] (.one (.one .bool)))] [23,24,25,26,27,28]) (.cond (.t 29) (.seq (.region [oI 4 (.mv (.c (.bool false)))] [0,1,5,6,7,29]) (.ret)) (kl [29])))) (.region [m 21 7,bc 22 .add 21 1,m 7 22] [21,22])))
def uq:aa:=.block 2 (.loop pB)
def Hn(cn:aa):aa:=.seq (.seq (.region [m 15 5,m 16 1,bb 17 .mul 15 16,m 5 17] [15,16,17]) (.region [mc 7 0] [])) cn
def AG:aa:=Hn uq
def Mw(cn fJ:aa):aa:=.seq (.block 1 fJ) cn
def FP:aa:=Mw rO AG
def Xd(cn:aa):aa:=.seq (.seq (.region [m 8 6,oI 9 (.bin .mul .i64 (ci 2) (.t 8)),m 10 0,ln 11 10,cm 12 .leq 9 11] [8,9,10,11]) (.cond (.t 12) (kl [12]) (.seq (kl [0,1,5,6,12]) (.exit 0)))) cn
def Om:aa:=Xd FP
def ac2:aa:=.seq (.block 0 (.loop Om)) Ol
def avd(cn:aa):aa:=.seq (.seq (.region [oI 4 (.mv (.c (.bool false)))] [4]) (.seq (.region [mc 5 1] []) (.region [mc 6 1] []))) cn
def aC7:aa:=avd ac2
def ave(t0:Sl)(t1:Int):List Value:=t0.v::vi t1::un 28 []
def jW:aK:=⟨30,aC7,[.tmp 4]⟩
theorem Jc:okF Tryz.prog 98 jW=true:=by kernel_rfl
def U6{R:Type}(C:Callee)(fl k:Nat)(kr:aC R):au R:=fun h=>kr true h
theorem am8:(cp FO (ce C fl k Ol K))=U6 C fl k (cp kI (K .ret)):=by kernel_rfl
def ll{R:Type}(C:Callee)(fl k:Nat)(kn:aZ R)(e0:au R)(kr:aC R):aZ R:=fun t0 t1 t5 t6 h=>kn t0 t1 t5 (av (t6+1)) h
theorem Ho:(cp fe (ce C fl k rO K))=ll C fl k (cp fe (K .normal)) (cp FO (K (.exit 0))) (cp kI (K .ret)):=by kernel_rfl
def ff{R:Type}(C:Callee)(fl k:Nat)(kn:rP R)(e2:aZ R)(kr:aC R):rP R:=fun t0 t1 t5 t6 t7 h=>if decide (t7<t5)=true then aj C fl fn.mZ [vi t7,vi t1,vi t6] h fun v1 h2=>aX v1 fun s3=>aj C fl fn.oh [vs s3,vs t0,vi t1] h2 fun v4 h5=>asBool v4 fun b6=>if b6=true then kr false h5 else kn t0 t1 t5 t6 (av (t7+1)) h5 else e2 t0 t1 t5 t6 h
theorem LK:(cp R3 (ce C fl k pB K))=ff C fl k (cp R3 (K .normal)) (cp fe (K (.exit 2))) (cp kI (K .ret)):=by kernel_rfl
def fg(kn:aZ R)(kr:aC R):Nat→rP R
 |0=>fun _ _ _ _ _ _=>none
 |m+1=>ff C fl k (fg kn kr m) kn kr
theorem yo:∀m,(cp R3 (aQ m (aW C fl k pB 2 K)))=fg C fl k (cp fe (K .normal)) (cp kI (K .ret)) m
 |0=>by kernel_rfl
 |m+1=>gu (LK C fl k _) (ag (fun L=>ff C fl k L _ _) (yo m))
def xK(kn:aZ R)(kr:aC R):rP R:=fg C fl k kn kr k
theorem R4:(cp R3 (ce C fl k uq K))=xK C fl k (cp fe (K .normal)) (cp kI (K .ret)):=gv (yo C fl k K)
def rQ{R:Type}(C:Callee)(fl k:Nat)(kx:rP R)(kn:aZ R)(kr:aC R):aZ R:=fun t0 t1 t5 t6 h=>kx t0 t1 (av (t5*t1)) t6 0 h
def wy(kn:aZ R)(kr:aC R):aZ R:=rQ C fl k (xK C fl k kn kr) kn kr
theorem Zs(cn:aa):(cp fe (ce C fl k (Hn cn) K))=rQ C fl k (cp R3 (ce C fl k cn K)) (cp fe (K .normal)) (cp kI (K .ret)):=by kernel_rfl
theorem Zt:(cp fe (ce C fl k AG K))=wy C fl k (cp fe (K .normal)) (cp kI (K .ret)):=(Zs C fl k K uq).trans (ag (fun L0=>rQ C fl k L0 _ _) (R4 C fl k K))
def zg{R:Type}(C:Callee)(fl k:Nat)(kx:aZ R)(u0:aZ R)(kn:aZ R)(e0:au R)(kr:aC R):aZ R:=fun t0 t1 t5 t6 h=>u0 t0 t1 t5 t6 h
def Jd(kn:aZ R)(e0:au R)(kr:aC R):aZ R:=zg C fl k (ll C fl k kn e0 kr) (wy C fl k (ll C fl k kn e0 kr) kr) kn e0 kr
theorem afh(cn fJ:aa):(cp fe (ce C fl k (Mw cn fJ) K))=zg C fl k (cp fe (ce C fl k cn K)) (cp fe (ce C fl k fJ (iK 1 (bw C fl k cn K)))) (cp fe (K .normal)) (cp FO (K (.exit 0))) (cp kI (K .ret)):=by kernel_rfl
theorem afi:(cp fe (ce C fl k FP K))=Jd C fl k (cp fe (K .normal)) (cp FO (K (.exit 0))) (cp kI (K .ret)):=(afh C fl k K rO AG).trans (gG (fun L0 L1=>zg C fl k L0 L1 _ _ _) (Ho C fl k K) ((Zt C fl k (iK 1 (bw C fl k rO K))).trans (ag (fun L0=>wy C fl k L0 _) (bn1 (Ho C fl k K)))))
def AI{R:Type}(C:Callee)(fl k:Nat)(kx:aZ R)(kn:aZ R)(e0:au R)(kr:aC R):aZ R:=fun t0 t1 t5 t6 h=>if decide (av (2*t6)≤((t0.l:Nat):Int))=true then kx t0 t1 t5 t6 h else e0 h
def ur(kn:aZ R)(e0:au R)(kr:aC R):aZ R:=AI C fl k (Jd C fl k kn e0 kr) kn e0 kr
theorem am9(cn:aa):(cp fe (ce C fl k (Xd cn) K))=AI C fl k (cp fe (ce C fl k cn K)) (cp fe (K .normal)) (cp FO (K (.exit 0))) (cp kI (K .ret)):=by kernel_rfl
theorem ana:(cp fe (ce C fl k Om K))=ur C fl k (cp fe (K .normal)) (cp FO (K (.exit 0))) (cp kI (K .ret)):=(am9 C fl k K FP).trans (ag (fun L0=>AI C fl k L0 _ _ _) (afi C fl k K))
def qm(kn:au R)(kr:aC R):Nat→aZ R
 |0=>fun _ _ _ _ _=>none
 |m+1=>ur C fl k (qm kn kr m) kn kr
theorem Xe:∀m,(cp fe (aQ m (aW C fl k Om 0 K)))=qm C fl k (cp FO (K .normal)) (cp kI (K .ret)) m
 |0=>by kernel_rfl
 |m+1=>gu (ana C fl k _) (ag (fun L=>ur C fl k L _ _) (Xe m))
def aiT(kr:aC R):aZ R:=qm C fl k (U6 C fl k kr) kr k
theorem ayx:(cp fe (ce C fl k ac2 K))=aiT C fl k (cp kI (K .ret)):=(iP (gv (Xe C fl k (bw C fl k Ol K)))).trans (ag (fun L=>qm C fl k L _ k) (iL (am8 C fl k K)))
def aiU{R:Type}(C:Callee)(fl k:Nat)(kx:aZ R)(kr:aC R):aO R:=fun t0 t1 h=>kx t0 t1 1 1 h
def aC8(kr:aC R):aO R:=aiU C fl k (aiT C fl k kr) kr
theorem aJJ(cn:aa):(cp ave (ce C fl k (avd cn) K))=aiU C fl k (cp fe (ce C fl k cn K)) (cp kI (K .ret)):=by kernel_rfl
theorem aJK:(cp ave (ce C fl k aC7 K))=aC8 C fl k (cp kI (K .ret)):=(aJJ C fl k K ac2).trans (ag (fun L0=>aiU C fl k L0 _) (ayx C fl k K))
def jc(p0:Sl)(p1:Int)(h:AH):Option (Value×AH):=aC8 C fl k (fun y4 q=>some (.bool y4,q)) p0 p1 h
theorem H7(p0:Sl)(p1:Int)(h):aV C fl k jW [vs p0,vi p1] h=jc C fl k p0 p1 h:=tF (aJK C fl k (aG _)) p0 p1 (by kernel_rfl) (by kernel_rfl)
def rR(t4:Int):List Value:=un 4 (vi t4::un 55 [])
def AJ:aa:=.seq (.region [mc 4 0] []) (.ret)
def aiV:List Value:=un 60 []
abbrev rS(R:Type):=Addr→Addr→Int→AH→Option R
def R5(t2 t3:Addr)(t7:Int):List Value:=un 2 (vp t2::vp t3::un 3 (vi t7::un 52 []))
def AK:aa:=.seq (.region [m 43 7,fa 44 1 3,ls 45 44,ln 46 45,cm 47 .lss 43 46] [43,44,45,46]) (.seq (.cond (.t 47) (kl [47]) (.seq (kl [2,3,7,47]) (.exit 2))) (.seq (.block 3 (.seq (.region [oJ 50 (.load (.agg [.int .i64,.int .i64,.slice]) (.t 2)),fa 51 1 3,lt 52 51,m 53 7,ia 54 1 52 53,lt 55 54,oI 56 (.call (.f 70) [.t 50,.t 55] (.one (.one (.int .i64)))),m 5 56] [50,51,52,53,54,55,56]) (.seq (.region [m 57 5,ck 58 .neq 57 0] [57]) (.cond (.t 58) (.seq (.region [m 59 5,m 4 59] [2,3,5,7,58,59]) (.ret)) (kl [5,58]))))) (.region [m 48 7,bc 49 .add 48 1,m 7 49] [48,49])))
def FQ:aa:=.seq (.block 2 (.loop AK)) AJ
def Xf(cn:aa):aa:=.seq (.region [mc 7 0] []) cn
def On:aa:=Xf FQ
def aaR(t2 t3:Addr):List Value:=un 2 (vp t2::vp t3::un 56 [])
def R6(t2 t3:Addr)(t6:Int):List Value:=un 2 (vp t2::vp t3::un 2 (vi t6::un 53 []))
def Oo:aa:=.seq (.region [m 27 6,fa 28 1 3,ls 29 28,ln 30 29,cm 31 .lss 27 30] [27,28,29,30]) (.seq (.cond (.t 31) (kl [31]) (.seq (kl [6,31]) (.exit 0))) (.seq (.block 1 (.seq (.region [fa 34 1 3,lt 35 34,m 36 6,ia 37 1 35 36,lt 38 37,ln 39 38,fa 40 0 3,lj 41 40,cm 42 .neq 39 41] [34,35,36,37,38,39,40,41]) (.cond (.t 42) (.seq (.region [mc 4 3] [2,3,6,42]) (.ret)) (kl [42])))) (.region [m 32 6,bc 33 .add 32 1,m 6 33] [32,33])))
def ac3:aa:=.seq (.block 0 (.loop Oo)) On
def avf(cn:aa):aa:=.seq (.seq (.region [oI 2 (.box (.t 0)),oI 3 (.box (.t 1)),mc 4 0] [0,1,4]) (.seq (.region [oI 8 (.load (.agg [.int .i64,.int .i64,.slice]) (.t 2)),oI 9 (.call (.f 62) [.t 8] (.one (.one (.int .i64)))),m 5 9] [8,9]) (.seq (.region [m 10 5,ck 11 .neq 10 0] [10]) (.seq (.cond (.t 11) (.seq (.region [m 12 5,m 4 12] [2,3,5,11,12]) (.ret)) (kl [5,11])) (.seq (.region [fa 13 0 3,li 14 13,ck 15 .lss 14 0,m 16 15,.gL 16 false [qI 17 (.cW 0 (.t 3)),qI 18 (.load (.one (.int .i64)) (.t 17)),qI 19 (.cmp .gtr .i64 (.t 18) (ci 256))],oI 20 (.pick (.t 16) (.c (.bool true)) (.t 19)),m 21 20,.gL 21 false [qI 22 (.cW 1 (.t 3)),qI 23 (.load (.one .slice) (.t 22)),qI 24 (.len (.t 23)),qI 25 (.cmp .gtr .i64 (.t 24) (ci 256))],oI 26 (.pick (.t 21) (.c (.bool true)) (.t 25))] [13,14,15,16,17,18,19,20,21,22,23,24,25]) (.seq (.cond (.t 26) (.seq (.region [mc 4 3] [2,3,26]) (.ret)) (kl [26])) (.region [mc 6 0] []))))))) cn
def aC9:aa:=avf ac3
def avg(aI aJ:Int)(aL:Sl)(eu:Int)(fA:Sl):List Value:=.agg ⟨[vi aI,vi aJ,vs aL]⟩::.agg ⟨[vi eu,vs fA]⟩::un 58 []
def wz:aK:=⟨60,aC9,[.tmp 4]⟩
theorem ac4:okF Tryz.prog 99 wz=true:=by kernel_rfl
def CR{R:Type}(C:Callee)(fl k:Nat)(kr:ah R):au R:=fun h=>kr 0 h
theorem Zu:(cp aiV (ce C fl k AJ K))=CR C fl k (cp rR (K .ret)):=by kernel_rfl
def jy{R:Type}(C:Callee)(fl k:Nat)(kn:rS R)(e2:au R)(kr:ah R):rS R:=fun t2 t3 t7 h=>aT h t3.block (t3.off+1) fun s1=>if decide (t7<((s1.l:Nat):Int))=true then aF .i64 h t2.block t2.off fun n2=>aF .i64 h t2.block (t2.off+1) fun n3=>aT h t2.block (t2.off+1+1) fun s4=>aT h t3.block (t3.off+1) fun s5=>idx 1 s5 t7 fun p6=>aT h p6.block p6.off fun s7=>aj C fl fn.k9 [.agg ⟨[vi n2,vi n3,vs s4]⟩,vs s7] h fun v8 h9=>asInt .i64 v8 fun mb=>if (mb !=0)=true then kr mb h9 else kn t2 t3 (av (t7+1)) h9 else e2 h
theorem Zv:(cp R5 (ce C fl k AK K))=jy C fl k (cp R5 (K .normal)) (cp aiV (K (.exit 2))) (cp rR (K .ret)):=by kernel_rfl
def jz(kn:au R)(kr:ah R):Nat→rS R
 |0=>fun _ _ _ _=>none
 |m+1=>jy C fl k (jz kn kr m) kn kr
theorem Hp:∀m,(cp R5 (aQ m (aW C fl k AK 2 K)))=jz C fl k (cp aiV (K .normal)) (cp rR (K .ret)) m
 |0=>by kernel_rfl
 |m+1=>gu (Zv C fl k _) (ag (fun L=>jy C fl k L _ _) (Hp m))
def Je(kr:ah R):rS R:=jz C fl k (CR C fl k kr) kr k
theorem afj:(cp R5 (ce C fl k FQ K))=Je C fl k (cp rR (K .ret)):=(iP (gv (Hp C fl k (bw C fl k AJ K)))).trans (ag (fun L=>jz C fl k L _ k) (iL (Zu C fl k K)))
def FT{R:Type}(C:Callee)(fl k:Nat)(kx:rS R)(kr:ah R):dh R:=fun t2 t3 h=>kx t2 t3 0 h
def KE(kr:ah R):dh R:=FT C fl k (Je C fl k kr) kr
theorem anb(cn:aa):(cp aaR (ce C fl k (Xf cn) K))=FT C fl k (cp R5 (ce C fl k cn K)) (cp rR (K .ret)):=by kernel_rfl
theorem anc:(cp aaR (ce C fl k On K))=KE C fl k (cp rR (K .ret)):=(anb C fl k K FQ).trans (ag (fun L0=>FT C fl k L0 _) (afj C fl k K))
def uu{R:Type}(C:Callee)(fl k:Nat)(kn:rS R)(e0:dh R)(kr:ah R):rS R:=fun t2 t3 t6 h=>aT h t3.block (t3.off+1) fun EG=>if decide (t6<((EG.l:Nat):Int))=true then aT h t3.block (t3.off+1) fun T8=>idx 1 T8 t6 fun p13=>aT h p13.block p13.off fun TT=>aF .i64 h t3.block t3.off fun qD=>if (((TT.l:Nat):Int) !=qD)=true then kr 3 h else kn t2 t3 (av (t6+1)) h else e0 t2 t3 h
theorem ane:(cp R6 (ce C fl k Oo K))=uu C fl k (cp R6 (K .normal)) (cp aaR (K (.exit 0))) (cp rR (K .ret)):=by kernel_rfl
def DJ(kn:dh R)(kr:ah R):Nat→rS R
 |0=>fun _ _ _ _=>none
 |m+1=>uu C fl k (DJ kn kr m) kn kr
theorem Xg:∀m,(cp R6 (aQ m (aW C fl k Oo 0 K)))=DJ C fl k (cp aaR (K .normal)) (cp rR (K .ret)) m
 |0=>by kernel_rfl
 |m+1=>gu (ane C fl k _) (ag (fun L=>uu C fl k L _ _) (Xg m))
def R7(kr:ah R):rS R:=DJ C fl k (KE C fl k kr) kr k
theorem ayy:(cp R6 (ce C fl k ac3 K))=R7 C fl k (cp rR (K .ret)):=(iP (gv (Xg C fl k (bw C fl k On K)))).trans (ag (fun L=>DJ C fl k L _ k) (iL (anc C fl k K)))
def ac5{R:Type}(C:Callee)(fl k:Nat)(kx:rS R)(kr:ah R):bD R:=fun aI aJ aL eu fA h=>bJ h [vi aI,vi aJ,vs aL] fun b16 yK=>bJ yK [vi eu,vs fA] fun b18 Mf=>aF .i64 Mf b16 0 fun n20=>aF .i64 Mf b16 1 fun n21=>aT Mf b16 2 fun s22=>aj C fl fn.iZ [.agg ⟨[vi n20,vi n21,vs s22]⟩] Mf fun v23 vt=>asInt .i64 v23 fun HU=>if (HU !=0)=true then kr HU vt else aF .i64 vt b18 0 fun EI=>if decide (EI<0)=false then aF .i64 vt b18 0 fun n27=>if decide (n27>256)=false then aT vt b18 1 fun s28=>if decide (((s28.l:Nat):Int)>256)=true then kr 3 vt else kx ⟨b16,0,none⟩ ⟨b18,0,none⟩ 0 vt else kr 3 vt else kr 3 vt
def avh(kr:ah R):bD R:=ac5 C fl k (R7 C fl k kr) kr
theorem aJL(cn:aa):(cp avg (ce C fl k (avf cn) K))=ac5 C fl k (cp R6 (ce C fl k cn K)) (cp rR (K .ret)):=by kernel_rfl
theorem aJM:(cp avg (ce C fl k aC9 K))=avh C fl k (cp rR (K .ret)):=(aJL C fl k K ac3).trans (ag (fun L0=>ac5 C fl k L0 _) (ayy C fl k K))
def jd(aw ax:Int)(ay:Sl)(cz:Int)(cF:Sl)(h:AH):Option (Value×AH):=avh C fl k (fun y4 q=>some (vi y4,q)) aw ax ay cz cF h
theorem Zw(aw ax:Int)(ay:Sl)(cz:Int)(cF:Sl)(h):aV C fl k wz [.agg ⟨[vi aw,vi ax,vs ay]⟩,.agg ⟨[vi cz,vs cF]⟩] h=jd C fl k aw ax ay cz cF h:=oY (aJM C fl k (aG _)) aw ax ay cz cF (by kernel_rfl) (by kernel_rfl)
def aaS(t4:Bool):List Value:=un 4 (.bool t4::un 100 [])
def Oq:aa:=.seq (.region [m 63 1,oI 64 (.call (.f 39) [.t 63,.f 138] (.one (.one (.int .i64)))),m 10 64] [63,64]) (.seq (.region [m 65 10,ck 66 .lss 65 0] [65]) (.seq (.cond (.t 66) (.seq (.region [oI 4 (.mv (.c (.bool false)))] [0,1,10,66]) (.ret)) (kl [66])) (.seq (.region [m 68 0,oI 69 (.cQ (.t 68)),fa 70 0 69,oJ 71 (.load (.one .l0) (.t 70)),m 72 1,m 73 10,ia 74 1 72 73,lj 75 74,oI 76 (.call (.f 139) [.t 71,.t 75] (.ke [.one (.int .i64),.one (.int .i64)])),m 67 76,ex 77 67 0,ex 78 67 1,m 11 77,m 12 78] [12,67,68,69,70,71,72,73,74,75,76,77,78]) (.seq (.region [m 79 0,m 80 0,oI 81 (.cQ (.t 80)),fa 82 1 81,lt 83 82,m 84 0,oI 85 (.cQ (.t 84)),fa 86 0 85,oJ 87 (.load (.one .l0) (.t 86)),m 88 11,m 89 1,oJ 90 (.call (.f 140) [.t 87,.t 88,.t 89] (.one (.one .slice))),oJ 91 (.bq 1 [.slice none 0 0] [(0,1,.t 90)]),oI 92 (.append 1 24 (.t 83) (.t 91)),oI 93 (.cQ (.t 79)),fa 94 1 93,sI 1 94 92] [1,11,79,80,81,82,83,84,85,86,87,88,89,90,91,92,93,94]) (.seq (.region [m 95 0,m 96 0,oI 97 (.cQ (.t 96)),fa 98 2 97,ls 99 98,m 100 10,oI 101 (.bq 1 [.int .i64 0] [(0,1,.t 100)]),oI 102 (.append 1 8 (.t 99) (.t 101)),oI 103 (.cQ (.t 95)),fa 104 2 103,sI 1 104 102] [0,10,95,96,97,98,99,100,101,102,103,104]) (.seq (.region [oI 4 (.mv (.c (.bool true)))] []) (.ret)))))))
def zh(t0:OA)(t1:Sl):List Value:=vn t0::t1.v::un 103 []
abbrev bA(R:Type):=OA→Sl→Sl→Int→Int→AH→Option R
def dB(t0:OA)(t1 t16:Sl)(t17 t18:Int):List Value:=vn t0::t1.v::un 14 (t16.v::vi t17::vi t18::un 86 [])
def rT:aa:=.region [bc 62 .add 18 1,m 18 62] [62]
abbrev rU(R:Type):=OA→Sl→Int→Sl→Int→Int→Sl→Int→Int→AH→Option R
def R8(t0:OA)(t1:Sl)(t7:Int)(t16:Sl)(t17 t18:Int)(t35:Sl)(t36 t37:Int):List Value:=vn t0::t1.v::un 5 (vi t7::un 8 (t16.v::vi t17::vi t18::un 16 (t35.v::vi t36::vi t37::un 67 [])))
def kJ:aa:=.seq (.region [cm 38 .lss 37 36] []) (.seq (.cond (.t 38) (kl [38]) (.seq (kl [7,35,36,37,38]) (.exit 2))) (.seq (.block 3 (.seq (.region [m 39 37,ia 40 1 35 37,li 41 40,m 8 39,m 9 41] [39,40,41]) (.region [m 42 1,m 43 8,m 44 0,oI 45 (.cQ (.t 44)),fa 46 0 45,oJ 47 (.load (.one .l0) (.t 46)),m 48 1,m 49 8,ia 50 1 48 49,lj 51 50,m 52 0,oI 53 (.cQ (.t 52)),fa 54 0 53,oJ 55 (.load (.one .l0) (.t 54)),m 56 7,m 57 9,oJ 58 (.call (.f 120) [.t 55,.t 56,.t 57] (.one (.one (.int .i64)))),oI 59 (.call (.f 119) [.t 47,.t 51,.t 58] (.one (.one (.int .i64)))),ia 60 1 42 43,sI 1 60 59] [8,9,42,43,44,45,46,47,48,49,50,51,52,53,54,55,56,57,58,59,60]))) (.region [bc 61 .add 37 1,m 37 61] [61])))
def mI:aa:=.block 2 (.loop kJ)
def yp(cn:aa):aa:=.seq (.region [m 35 6,ln 36 35,mc 37 0] [6,34]) cn
def pC:aa:=yp mI
abbrev nA(R:Type):=OA→Sl→Sl→Int→Sl→Int→Int→Bool→AH→Option R
def KG(t0:OA)(t1 t6:Sl)(t7:Int)(t16:Sl)(t17 t18:Int)(t34:Bool):List Value:=vn t0::t1.v::un 4 (t6.v::vi t7::un 8 (t16.v::vi t17::vi t18::un 15 (.bool t34::un 70 [])))
def B8(fJ:aa):aa:=.cond (.t 34) fJ (kl [6,7,34])
def uv:aa:=B8 pC
def Hq(cn:aa):aa:=.seq (.seq (.region [m 20 18,ia 21 1 16 18,ls 22 21,m 5 20,m 6 22] [20,21,22]) (.seq (.region [m 23 1,m 24 0,oI 25 (.cQ (.t 24)),fa 26 2 25,ls 27 26,m 28 5,ia 29 1 27 28,li 30 29,ia 31 1 23 30,li 32 31,m 7 32] [5,23,24,25,26,27,28,29,30,31,32]) (.region [m 33 7,ck 34 .neq 33 0] [33]))) cn
def AL:aa:=Hq uv
def My(cn fJ:aa):aa:=.seq (.block 1 fJ) cn
def FU:aa:=My rT AL
def Xh(cn:aa):aa:=.seq (.seq (.region [cm 19 .lss 18 17] []) (.cond (.t 19) (kl [19]) (.seq (kl [16,17,18,19]) (.exit 0)))) cn
def Ot:aa:=Xh FU
def ac6:aa:=.seq (.block 0 (.loop Ot)) Oq
def avi(cn:aa):aa:=.seq (.seq (.region [oI 4 (.mv (.c (.bool false)))] [4]) (.region [m 13 0,oI 14 (.cQ (.t 13)),fa 15 1 14,ls 16 15,ln 17 16,mc 18 0] [13,14,15])) cn
def aDa:aa:=avi ac6
def jX:aK:=⟨105,aDa,[.tmp 4]⟩
theorem Jf:okF Tryz.prog 100 jX=true:=by kernel_rfl
def ag3{R:Type}(C:Callee)(fl k:Nat)(kr:aC R):eh R:=fun t0 t1 h=>aj C fl fn.cY [vs t1,.func (.func fn.jM) ⟨[]⟩ ⟨[]⟩] h fun v1 h2=>asInt .i64 v1 fun n3=>if decide (n3<0)=true then kr false h2 else bz (.pointer t0) fun p4=>ldN h2 p4.block p4.off fun p5=>idx 1 t1 n3 fun p6=>aF .i64 h2 p6.block p6.off fun n7=>aj C fl fn.fS [.pointer p5,vi n7] h2 fun v8 h9=>aE v8 fun l10=>ar l10 fun v11 l12=>asInt .i64 v11 fun BL=>ar l12 fun v14 l15=>asInt .i64 v14 fun HT=>aM l15 (bz (.pointer t0) fun p17=>aT h9 p17.block (p17.off+1) fun s18=>bz (.pointer t0) fun p19=>ldN h9 p19.block p19.off fun p20=>aj C h9.next fn.gm [.pointer p20,vi BL,vs t1] h9 fun v21 TY=>aX v21 fun s23=>bJ TY [vs s23] fun b24 h25=>dn fl 1 24 s18 ⟨(some ⟨b24,0,none⟩),1,1⟩ h25 fun s26 h27=>bz (.pointer t0) fun p28=>st fl h27 ⟨p28.block,p28.off+1,none⟩ [vs s26] fun h29=>bz (.pointer t0) fun p30=>aT h29 p30.block (p30.off+2) fun s31=>bJ h29 [vi n3] fun b32 h33=>dn fl 1 8 s31 ⟨(some ⟨b32,0,none⟩),1,1⟩ h33 fun s34 h35=>bz (.pointer t0) fun p36=>st fl h35 ⟨p36.block,p36.off+2,none⟩ [vs s34] fun h37=>kr true h37)
theorem anf:(cp zh (ce C fl k Oq K))=ag3 C fl k (cp aaS (K .ret)):=by kernel_rfl
def CS{R:Type}(C:Callee)(fl k:Nat)(kn:bA R)(e0:eh R):bA R:=fun t0 t1 t16 t17 t18 h=>kn t0 t1 t16 t17 (av (t18+1)) h
theorem Hr:(cp dB (ce C fl k rT K))=CS C fl k (cp dB (K .normal)) (cp zh (K (.exit 0))):=by kernel_rfl
def ly{R:Type}(C:Callee)(fl k:Nat)(kn:rU R)(e2:bA R):rU R:=fun t0 t1 t7 t16 t17 t18 t35 t36 t37 h=>if decide (t37<t36)=true then idx 1 t35 t37 fun p38=>aF .i64 h p38.block p38.off fun n39=>bz (.pointer t0) fun p40=>ldN h p40.block p40.off fun p41=>idx 1 t1 t37 fun p42=>aF .i64 h p42.block p42.off fun n43=>bz (.pointer t0) fun p44=>ldN h p44.block p44.off fun p45=>aj C h.next fn.dy [.pointer p45,vi t7,vi n39] h fun v46 h47=>asInt .i64 v46 fun n48=>aj C fl fn.gQ [.pointer p41,vi n43,vi n48] h47 fun v49 h50=>asInt .i64 v49 fun n51=>idx 1 t1 t37 fun p52=>st fl h50 p52 [vi n51] fun h53=>kn t0 t1 t7 t16 t17 t18 t35 t36 (av (t37+1)) h53 else e2 t0 t1 t16 t17 t18 h
theorem DK:(cp R8 (ce C fl k kJ K))=ly C fl k (cp R8 (K .normal)) (cp dB (K (.exit 2))):=by kernel_rfl
def lz(kn:bA R):Nat→rU R
 |0=>fun _ _ _ _ _ _ _ _ _ _=>none
 |m+1=>ly C fl k (lz kn m) kn
theorem qn:∀m,(cp R8 (aQ m (aW C fl k kJ 2 K)))=lz C fl k (cp dB (K .normal)) m
 |0=>by kernel_rfl
 |m+1=>gu (DK C fl k _) (ag (fun L=>ly C fl k L _) (qn m))
def yq(kn:bA R):rU R:=lz C fl k kn k
theorem H8:(cp R8 (ce C fl k mI K))=yq C fl k (cp dB (K .normal)):=gv (qn C fl k K)
def pD{R:Type}(C:Callee)(fl k:Nat)(kx:rU R)(kn:bA R):nA R:=fun t0 t1 t6 t7 t16 t17 t18 t34 h=>kx t0 t1 t7 t16 t17 t18 t6 ((t6.l:Nat):Int) 0 h
def B9(kn:bA R):nA R:=pD C fl k (yq C fl k kn) kn
theorem LL(cn:aa):(cp KG (ce C fl k (yp cn) K))=pD C fl k (cp R8 (ce C fl k cn K)) (cp dB (K .normal)):=by kernel_rfl
theorem LM:(cp KG (ce C fl k pC K))=B9 C fl k (cp dB (K .normal)):=(LL C fl k K mI).trans (ag (fun L0=>pD C fl k L0 _) (H8 C fl k K))
def uw{R:Type}(C:Callee)(fl k:Nat)(u0:nA R)(kn:bA R):nA R:=fun t0 t1 t6 t7 t16 t17 t18 t34 h=>if t34=true then u0 t0 t1 t6 t7 t16 t17 t18 t34 h else kn t0 t1 t16 t17 t18 h
def Hs(kn:bA R):nA R:=uw C fl k (B9 C fl k kn) kn
theorem R9(fJ:aa):(cp KG (ce C fl k (B8 fJ) K))=uw C fl k (cp KG (ce C fl k fJ K)) (cp dB (K .normal)):=by kernel_rfl
theorem Sa:(cp KG (ce C fl k uv K))=Hs C fl k (cp dB (K .normal)):=(R9 C fl k K pC).trans (ag (fun L0=>uw C fl k L0 _) (LM C fl k K))
def AM{R:Type}(C:Callee)(fl k:Nat)(kx:nA R)(kn:bA R):bA R:=fun t0 t1 t16 t17 t18 h=>idx 1 t16 t18 fun p54=>aT h p54.block p54.off fun s55=>bz (.pointer t0) fun p56=>aT h p56.block (p56.off+2) fun s57=>idx 1 s57 t18 fun p58=>aF .i64 h p58.block p58.off fun n59=>idx 1 t1 n59 fun p60=>aF .i64 h p60.block p60.off fun n61=>kx t0 t1 s55 n61 t16 t17 t18 (n61 !=0) h
def CT(kn:bA R):bA R:=AM C fl k (Hs C fl k kn) kn
theorem Zx(cn:aa):(cp dB (ce C fl k (Hq cn) K))=AM C fl k (cp KG (ce C fl k cn K)) (cp dB (K .normal)):=by kernel_rfl
theorem Zy:(cp dB (ce C fl k AL K))=CT C fl k (cp dB (K .normal)):=(Zx C fl k K uv).trans (ag (fun L0=>AM C fl k L0 _) (Sa C fl k K))
def FV{R:Type}(C:Callee)(fl k:Nat)(kx:bA R)(u0:bA R)(kn:bA R)(e0:eh R):bA R:=fun t0 t1 t16 t17 t18 h=>u0 t0 t1 t16 t17 t18 h
def Xi(kn:bA R)(e0:eh R):bA R:=FV C fl k (CS C fl k kn e0) (CT C fl k (CS C fl k kn e0)) kn e0
theorem afk(cn fJ:aa):(cp dB (ce C fl k (My cn fJ) K))=FV C fl k (cp dB (ce C fl k cn K)) (cp dB (ce C fl k fJ (iK 1 (bw C fl k cn K)))) (cp dB (K .normal)) (cp zh (K (.exit 0))):=by kernel_rfl
theorem afl:(cp dB (ce C fl k FU K))=Xi C fl k (cp dB (K .normal)) (cp zh (K (.exit 0))):=(afk C fl k K rT AL).trans (gG (fun L0 L1=>FV C fl k L0 L1 _ _) (Hr C fl k K) ((Zy C fl k (iK 1 (bw C fl k rT K))).trans (ag (fun L0=>CT C fl k L0) (bn1 (Hr C fl k K)))))
def Ou{R:Type}(C:Callee)(fl k:Nat)(kx:bA R)(kn:bA R)(e0:eh R):bA R:=fun t0 t1 t16 t17 t18 h=>if decide (t18<t17)=true then kx t0 t1 t16 t17 t18 h else e0 t0 t1 h
def U7(kn:bA R)(e0:eh R):bA R:=Ou C fl k (Xi C fl k kn e0) kn e0
theorem ang(cn:aa):(cp dB (ce C fl k (Xh cn) K))=Ou C fl k (cp dB (ce C fl k cn K)) (cp dB (K .normal)) (cp zh (K (.exit 0))):=by kernel_rfl
theorem anh:(cp dB (ce C fl k Ot K))=U7 C fl k (cp dB (K .normal)) (cp zh (K (.exit 0))):=(ang C fl k K FU).trans (ag (fun L0=>Ou C fl k L0 _ _) (afl C fl k K))
def KH(kn:eh R):Nat→bA R
 |0=>fun _ _ _ _ _ _=>none
 |m+1=>U7 C fl k (KH kn m) kn
theorem Xj:∀m,(cp dB (aQ m (aW C fl k Ot 0 K)))=KH C fl k (cp zh (K .normal)) m
 |0=>by kernel_rfl
 |m+1=>gu (anh C fl k _) (ag (fun L=>U7 C fl k L _) (Xj m))
def avj(kr:aC R):bA R:=KH C fl k (ag3 C fl k kr) k
theorem ayz:(cp dB (ce C fl k ac6 K))=avj C fl k (cp aaS (K .ret)):=(iP (gv (Xj C fl k (bw C fl k Oq K)))).trans (ag (fun L=>KH C fl k L k) (iL (anf C fl k K)))
def arM{R:Type}(C:Callee)(fl k:Nat)(kx:bA R)(kr:aC R):eh R:=fun t0 t1 h=>bz (.pointer t0) fun p62=>aT h p62.block (p62.off+1) fun s63=>kx t0 t1 s63 ((s63.l:Nat):Int) 0 h
def aOq(kr:aC R):eh R:=arM C fl k (avj C fl k kr) kr
theorem aJN(cn:aa):(cp zh (ce C fl k (avi cn) K))=arM C fl k (cp dB (ce C fl k cn K)) (cp aaS (K .ret)):=by kernel_rfl
theorem aJO:(cp zh (ce C fl k aDa K))=aOq C fl k (cp aaS (K .ret)):=(aJN C fl k K ac6).trans (ag (fun L0=>arM C fl k L0 _) (ayz C fl k K))
def lH(p0:OA)(p1:Sl)(h:AH):Option (Value×AH):=aOq C fl k (fun y4 q=>some (.bool y4,q)) p0 p1 h
theorem H9(p0:OA)(p1:Sl)(h):aV C fl k jX [.pointer p0,vs p1] h=lH C fl k p0 p1 h:=tF (aJO C fl k (aG _)) p0 p1 (by kernel_rfl) (by kernel_rfl)
def aaT(t4:Sl):List Value:=un 4 (t4.v::un 24 [])
def Ov:aa:=.seq (.region [m 28 5,m 4 28] [5,28]) (.ret)
def aiW(t5:Sl):List Value:=un 5 (t5.v::un 23 [])
abbrev rV(R:Type):=Int→Sl→Sl→Int→Int→AH→Option R
def Sb(t1:Int)(t5 t13:Sl)(t14 t15:Int):List Value:=un 1 (vi t1::un 3 (t5.v::un 7 (t13.v::vi t14::vi t15::un 13 [])))
def Ow:aa:=.seq (.region [cm 16 .lss 15 14] []) (.seq (.cond (.t 16) (kl [16]) (.seq (kl [1,13,14,15,16]) (.exit 0))) (.seq (.block 1 (.seq (.region [m 17 15,ia 18 1 13 15,ls 19 18,m 6 17,m 7 19] [17,18,19]) (.region [m 20 5,m 21 6,m 22 7,m 23 1,ia 24 1 22 23,li 25 24,ia 26 1 20 21,sI 1 26 25] [6,7,20,21,22,23,24,25,26]))) (.region [bc 27 .add 15 1,m 15 27] [27])))
def ac7:aa:=.seq (.block 0 (.loop Ow)) Ov
def avk(cn:aa):aa:=.seq (.seq (.region [oI 2 (.box (.t 0)),oI 4 (.mv (.c (.slice none 0 0)))] [0,4]) (.seq (.region [fa 8 4 2,ls 9 8,ln 10 9,oI 11 (.dj 8 [.int .i64 0] (.t 10) (.t 10)),m 5 11] [8,9,10,11]) (.region [fa 12 4 2,ls 13 12,ln 14 13,mc 15 0] [2,12]))) cn
def aDb:aa:=avk ac7
def avl(aI aJ:Int)(aL:Sl)(bZ:Int)(bY:Sl)(t1:Int):List Value:=.agg ⟨[vi aI,vi aJ,vs aL,vi bZ,vs bY]⟩::vi t1::un 27 []
def nB:aK:=⟨29,aDb,[.tmp 4]⟩
theorem Sc:okF Tryz.prog 101 nB=true:=by kernel_rfl
def ag4{R:Type}(C:Callee)(fl k:Nat)(kr:ab R):ab R:=fun t5 h=>kr t5 h
theorem ani:(cp aiW (ce C fl k Ov K))=ag4 C fl k (cp aaT (K .ret)):=by kernel_rfl
def U8{R:Type}(C:Callee)(fl k:Nat)(kn:rV R)(e0:ab R):rV R:=fun t1 t5 t13 t14 t15 h=>if decide (t15<t14)=true then idx 1 t13 t15 fun p1=>aT h p1.block p1.off fun s2=>idx 1 s2 t1 fun p3=>aF .i64 h p3.block p3.off fun n4=>idx 1 t5 t15 fun p5=>st fl h p5 [vi n4] fun h6=>kn t1 t5 t13 t14 (av (t15+1)) h6 else e0 t5 h
theorem anj:(cp Sb (ce C fl k Ow K))=U8 C fl k (cp Sb (K .normal)) (cp aiW (K (.exit 0))):=by kernel_rfl
def KI(kn:ab R):Nat→rV R
 |0=>fun _ _ _ _ _ _=>none
 |m+1=>U8 C fl k (KI kn m) kn
theorem Xk:∀m,(cp Sb (aQ m (aW C fl k Ow 0 K)))=KI C fl k (cp aiW (K .normal)) m
 |0=>by kernel_rfl
 |m+1=>gu (anj C fl k _) (ag (fun L=>U8 C fl k L _) (Xk m))
def avm(kr:ab R):rV R:=KI C fl k (ag4 C fl k kr) k
theorem ayA:(cp Sb (ce C fl k ac7 K))=avm C fl k (cp aaT (K .ret)):=(iP (gv (Xk C fl k (bw C fl k Ov K)))).trans (ag (fun L=>KI C fl k L k) (iL (ani C fl k K)))
def arN{R:Type}(C:Callee)(fl k:Nat)(kx:rV R)(kr:ab R):gS R:=fun aI aJ aL bZ bY t1 h=>bJ h [vi aI,vi aJ,vs aL,vi bZ,vs bY] fun b7 h8=>aT h8 b7 4 fun s9=>qF 8 [.int .i64 0] ((s9.l:Nat):Int) ((s9.l:Nat):Int) h8 fun s10 iH=>aT iH b7 4 fun T8=>kx t1 s10 T8 ((T8.l:Nat):Int) 0 iH
def aOr(kr:ab R):gS R:=arN C fl k (avm C fl k kr) kr
theorem aJP(cn:aa):(cp avl (ce C fl k (avk cn) K))=arN C fl k (cp Sb (ce C fl k cn K)) (cp aaT (K .ret)):=by kernel_rfl
theorem aJQ:(cp avl (ce C fl k aDb K))=aOr C fl k (cp aaT (K .ret)):=(aJP C fl k K ac7).trans (ag (fun L0=>arN C fl k L0 _) (ayA C fl k K))
def qQ(aw ax:Int)(ay:Sl)(bk:Int)(bj:Sl)(p1:Int)(h:AH):Option (Value×AH):=aOr C fl k (fun y4 q=>some (vs y4,q)) aw ax ay bk bj p1 h
theorem Ox(aw ax:Int)(ay:Sl)(bk:Int)(bj:Sl)(p1:Int)(h):aV C fl k nB [.agg ⟨[vi aw,vi ax,vs ay,vi bk,vs bj]⟩,vi p1] h=qQ C fl k aw ax ay bk bj p1 h:=Uq (aJQ C fl k (aG _)) aw ax ay bk bj p1 (by kernel_rfl) (by kernel_rfl)
end Go.Abs.P
