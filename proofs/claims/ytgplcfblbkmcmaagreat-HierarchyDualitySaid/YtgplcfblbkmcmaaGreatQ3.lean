/- Shortened by a program of ours out of readable texts. -/
import Derived.Test.YtgplcfblbkmcmaaGreatQ2
import Derived.Test.YtgplcfblbkmcmaaGreatProg
import Derived.KernelRfl
section
set_option maxRecDepth 100000
set_option linter.unusedVariables false
namespace Go.Abs.P
open Go.Abs Go.Abs.CP Go.Abs.C Go.Proofs
variable{R:Type}(C:Callee)(fl k:Nat)(K:KF R)
def En(t2:Bool):List Value:=un 2 (.bool t2::un 10 [])
def GK:aa:=.seq (.region [oI 2 (.mv (.c (.bool true)))] []) (.ret)
def VU:List Value:=un 13 []
abbrev gF(R:Type):=Int→Int→AH→Option R
def Jl(t0 t3:Int):List Value:=vi t0::un 2 (vi t3::un 9 [])
def GM:aa:=.seq (.region [m 4 3,m 5 0,cm 6 .lss 4 5] [4,5]) (.seq (.cond (.t 6) (kl [6]) (.seq (kl [0,3,6]) (.exit 0))) (.seq (.block 1 (.seq (.region [m 9 0,m 10 3,bb 11 .rem 9 10,ck 12 .eql 11 0] [9,10,11]) (.cond (.t 12) (.seq (.region [oI 2 (.mv (.c (.bool false)))] [0,3,12]) (.ret)) (kl [12])))) (.region [m 7 3,bc 8 .add 7 1,m 3 8] [7,8])))
def Ra:aa:=.seq (.block 0 (.loop GM)) GK
def aeR(cn:aa):aa:=.seq (.seq (.region [oI 2 (.mv (.c (.bool false)))] [2]) (.region [mc 3 2] [])) cn
def akV:aa:=aeR Ra
def aeS(t0:Int):List Value:=vi t0::un 12 []
def sK:ay:=⟨13,akV,[.tmp 2]⟩
theorem Rb:okF Tryz.prog 97 sK=true:=by kernel_rfl
def Lp{R:Type}(C:Callee)(fl k:Nat)(kr:au R):ar R:=fun h=>kr true h
theorem Zl:(cp VU (ce C fl k GK K))=Lp C fl k (cp En (K .ret)):=by kernel_rfl
def qM{R:Type}(C:Callee)(fl k:Nat)(kn:gF R)(e0:ar R)(kr:au R):gF R:=fun t0 t3 h=>if decide (t3<t0)=true then jd .rem .i64 t0 t3 fun n1=>if (n1==0)=true then kr false h else kn t0 (bL (t3+1)) h else e0 h
theorem Zm:(cp Jl (ce C fl k GM K))=qM C fl k (cp Jl (K .normal)) (cp VU (K (.exit 0))) (cp En (K .ret)):=by kernel_rfl
def zh(kn:ar R)(kr:au R):Nat→gF R
 |0=>fun _ _ _=>none
 |m+1=>qM C fl k (zh kn kr m) kn kr
theorem MO:∀m,(cp Jl (aR m (bH C fl k GM 0 K)))=zh C fl k (cp VU (K .normal)) (cp En (K .ret)) m
 |0=>by kernel_rfl
 |m+1=>mq (Zm C fl k _) (aj (fun L=>qM C fl k L _ _) (MO m))
def VV(kr:au R):gF R:=zh C fl k (Lp C fl k kr) kr k
theorem ag8:(cp Jl (ce C fl k Ra K))=VV C fl k (cp En (K .ret)):=(ou (mw (MO C fl k (bU C fl k GK K)))).trans (aj (fun L=>zh C fl k L _ k) (oh (Zl C fl k K)))
def VW{R:Type}(C:Callee)(fl k:Nat)(kx:gF R)(kr:au R):ae R:=fun t0 h=>kx t0 2 h
def akW(kr:au R):ae R:=VW C fl k (VV C fl k kr) kr
theorem ap4(cn:aa):(cp aeS (ce C fl k (aeR cn) K))=VW C fl k (cp Jl (ce C fl k cn K)) (cp En (K .ret)):=by kernel_rfl
theorem ap5:(cp aeS (ce C fl k akV K))=akW C fl k (cp En (K .ret)):=(ap4 C fl k K Ra).trans (aj (fun L0=>VW C fl k L0 _) (ag8 C fl k K))
def nG(p0:Int)(h:AH):Option (Value×AH):=akW C fl k (fun y2 q=>some (.bool y2,q)) p0 h
theorem Od(p0:Int)(h):bl C fl k sK [vi p0] h=nG C fl k p0 h:=acL (ap5 C fl k (aD _)) p0 (by kernel_rfl) (by kernel_rfl)
def jI(t4:Bool):List Value:=un 4 (.bool t4::un 25 [])
def GN:aa:=.seq (.region [oI 4 (.mv (.c (.bool true)))] []) (.ret)
def AS:List Value:=un 30 []
def dT(t0:Sl)(t1 t5 t6:Int):List Value:=t0.v::vi t1::un 3 (vi t5::vi t6::un 23 [])
def oN:aa:=.region [m 13 6,bc 14 .add 13 1,m 6 14] [13,14]
abbrev Jm(R:Type):=Sl→Int→Int→Int→Int→AH→Option R
def Jn(t0:Sl)(t1 t5 t6 t7:Int):List Value:=t0.v::vi t1::un 3 (vi t5::vi t6::vi t7::un 22 [])
def mZ:aa:=.seq (.region [m 18 7,m 19 5,cm 20 .lss 18 19] [18,19]) (.seq (.cond (.t 20) (kl [20]) (.seq (kl [7,20]) (.exit 2))) (.seq (.block 3 (.seq (.region [m 23 7,m 24 1,m 25 6,oI 26 (.call (.f 137) [.t 23,.t 24,.t 25] (.one (.one .slice))),m 27 0,m 28 1,oI 29 (.call (.f 136) [.t 26,.t 27,.t 28] (.one (.one .bool)))] [23,24,25,26,27,28]) (.cond (.t 29) (.seq (.region [oI 4 (.mv (.c (.bool false)))] [0,1,5,6,7,29]) (.ret)) (kl [29])))) (.region [m 21 7,bc 22 .add 21 1,m 7 22] [21,22])))
def qN:aa:=.block 2 (.loop mZ)
def BJ(cn:aa):aa:=.seq (.seq (.region [m 15 5,m 16 1,bb 17 .mul 15 16,m 5 17] [15,16,17]) (.region [mc 7 0] [])) cn
def wk:aa:=BJ qN
def Fy(cn vw:aa):aa:=.seq (.block 1 vw) cn
def AT:aa:=Fy oN wk
def MP(cn:aa):aa:=.seq (.seq (.region [m 8 6,oI 9 (.bin .mul .i64 (ci 2) (.t 8)),m 10 0,ln 11 10,cm 12 .leq 9 11] [8,9,10,11]) (.cond (.t 12) (kl [12]) (.seq (kl [0,1,5,6,12]) (.exit 0)))) cn
def GO:aa:=MP AT
def Rc:aa:=.seq (.block 0 (.loop GO)) GN
def aeT(cn:aa):aa:=.seq (.seq (.region [oI 4 (.mv (.c (.bool false)))] [4]) (.seq (.region [mc 5 1] []) (.region [mc 6 1] []))) cn
def akX:aa:=aeT Rc
def aeU(t0:Sl)(t1:Int):List Value:=t0.v::vi t1::un 28 []
def iX:ay:=⟨30,akX,[.tmp 4]⟩
theorem C8:okF Tryz.prog 98 iX=true:=by kernel_rfl
def Lq{R:Type}(C:Callee)(fl k:Nat)(kr:au R):ar R:=fun h=>kr true h
theorem Zn:(cp AS (ce C fl k GN K))=Lq C fl k (cp jI (K .ret)):=by kernel_rfl
def j7{R:Type}(C:Callee)(fl k:Nat)(kn:bR R)(e0:ar R)(kr:au R):bR R:=fun t0 t1 t5 t6 h=>kn t0 t1 t5 (bL (t6+1)) h
theorem BK:(cp dT (ce C fl k oN K))=j7 C fl k (cp dT (K .normal)) (cp AS (K (.exit 0))) (cp jI (K .ret)):=by kernel_rfl
def dU{R:Type}(C:Callee)(fl k:Nat)(kn:Jm R)(e2:bR R)(kr:au R):Jm R:=fun t0 t1 t5 t6 t7 h=>if decide (t7<t5)=true then aC C fl fn.lu [vi t7,vi t1,vi t6] h fun v1 h2=>bB v1 fun s3=>aC C fl fn.mA [vs s3,vs t0,vi t1] h2 fun v4 h5=>asBool v4 fun b6=>if b6=true then kr false h5 else kn t0 t1 t5 t6 (bL (t7+1)) h5 else e2 t0 t1 t5 t6 h
theorem E0:(cp Jn (ce C fl k mZ K))=dU C fl k (cp Jn (K .normal)) (cp dT (K (.exit 2))) (cp jI (K .ret)):=by kernel_rfl
def dW(kn:bR R)(kr:au R):Nat→Jm R
 |0=>fun _ _ _ _ _ _=>none
 |m+1=>dU C fl k (dW kn kr m) kn kr
theorem uD:∀m,(cp Jn (aR m (bH C fl k mZ 2 K)))=dW C fl k (cp dT (K .normal)) (cp jI (K .ret)) m
 |0=>by kernel_rfl
 |m+1=>mq (E0 C fl k _) (aj (fun L=>dU C fl k L _ _) (uD m))
def ug(kn:bR R)(kr:au R):Jm R:=dW C fl k kn kr k
theorem Jo:(cp Jn (ce C fl k qN K))=ug C fl k (cp dT (K .normal)) (cp jI (K .ret)):=mw (uD C fl k K)
def oO{R:Type}(C:Callee)(fl k:Nat)(kx:Jm R)(kn:bR R)(kr:au R):bR R:=fun t0 t1 t5 t6 h=>kx t0 t1 (bL (t5*t1)) t6 0 h
def sL(kn:bR R)(kr:au R):bR R:=oO C fl k (ug C fl k kn kr) kn kr
theorem Oe(cn:aa):(cp dT (ce C fl k (BJ cn) K))=oO C fl k (cp Jn (ce C fl k cn K)) (cp dT (K .normal)) (cp jI (K .ret)):=by kernel_rfl
theorem Of:(cp dT (ce C fl k wk K))=sL C fl k (cp dT (K .normal)) (cp jI (K .ret)):=(Oe C fl k K qN).trans (aj (fun L0=>oO C fl k L0 _ _) (Jo C fl k K))
def u9{R:Type}(C:Callee)(fl k:Nat)(kx:bR R)(u0:bR R)(kn:bR R)(e0:ar R)(kr:au R):bR R:=fun t0 t1 t5 t6 h=>u0 t0 t1 t5 t6 h
def C9(kn:bR R)(e0:ar R)(kr:au R):bR R:=u9 C fl k (j7 C fl k kn e0 kr) (sL C fl k (j7 C fl k kn e0 kr) kr) kn e0 kr
theorem SQ(cn vw:aa):(cp dT (ce C fl k (Fy cn vw) K))=u9 C fl k (cp dT (ce C fl k cn K)) (cp dT (ce C fl k vw (vJ 1 (bU C fl k cn K)))) (cp dT (K .normal)) (cp AS (K (.exit 0))) (cp jI (K .ret)):=by kernel_rfl
theorem SR:(cp dT (ce C fl k AT K))=C9 C fl k (cp dT (K .normal)) (cp AS (K (.exit 0))) (cp jI (K .ret)):=(SQ C fl k K oN wk).trans (ot (fun L0 L1=>u9 C fl k L0 L1 _ _ _) (BK C fl k K) ((Of C fl k (vJ 1 (bU C fl k oN K))).trans (aj (fun L0=>sL C fl k L0 _) (bn1 (BK C fl k K)))))
def wm{R:Type}(C:Callee)(fl k:Nat)(kx:bR R)(kn:bR R)(e0:ar R)(kr:au R):bR R:=fun t0 t1 t5 t6 h=>if decide (bL (2*t6)≤((t0.l:Nat):Int))=true then kx t0 t1 t5 t6 h else e0 h
def qO(kn:bR R)(e0:ar R)(kr:au R):bR R:=wm C fl k (C9 C fl k kn e0 kr) kn e0 kr
theorem Zo(cn:aa):(cp dT (ce C fl k (MP cn) K))=wm C fl k (cp dT (ce C fl k cn K)) (cp dT (K .normal)) (cp AS (K (.exit 0))) (cp jI (K .ret)):=by kernel_rfl
theorem Zp:(cp dT (ce C fl k GO K))=qO C fl k (cp dT (K .normal)) (cp AS (K (.exit 0))) (cp jI (K .ret)):=(Zo C fl k K AT).trans (aj (fun L0=>wm C fl k L0 _ _ _) (SR C fl k K))
def nP(kn:ar R)(kr:au R):Nat→bR R
 |0=>fun _ _ _ _ _=>none
 |m+1=>qO C fl k (nP kn kr m) kn kr
theorem MQ:∀m,(cp dT (aR m (bH C fl k GO 0 K)))=nP C fl k (cp AS (K .normal)) (cp jI (K .ret)) m
 |0=>by kernel_rfl
 |m+1=>mq (Zp C fl k _) (aj (fun L=>qO C fl k L _ _) (MQ m))
def VX(kr:au R):bR R:=nP C fl k (Lq C fl k kr) kr k
theorem ag9:(cp dT (ce C fl k Rc K))=VX C fl k (cp jI (K .ret)):=(ou (mw (MQ C fl k (bU C fl k GN K)))).trans (aj (fun L=>nP C fl k L _ k) (oh (Zn C fl k K)))
def VY{R:Type}(C:Callee)(fl k:Nat)(kx:bR R)(kr:au R):aO R:=fun t0 t1 h=>kx t0 t1 1 1 h
def akY(kr:au R):aO R:=VY C fl k (VX C fl k kr) kr
theorem ap6(cn:aa):(cp aeU (ce C fl k (aeT cn) K))=VY C fl k (cp dT (ce C fl k cn K)) (cp jI (K .ret)):=by kernel_rfl
theorem ap7:(cp aeU (ce C fl k akX K))=akY C fl k (cp jI (K .ret)):=(ap6 C fl k K Rc).trans (aj (fun L0=>VY C fl k L0 _) (ag9 C fl k K))
def gX(p0:Sl)(p1:Int)(h:AH):Option (Value×AH):=akY C fl k (fun y4 q=>some (.bool y4,q)) p0 p1 h
theorem Cc(p0:Sl)(p1:Int)(h):bl C fl k iX [vs p0,vi p1] h=gX C fl k p0 p1 h:=Ca (ap7 C fl k (aD _)) p0 p1 (by kernel_rfl) (by kernel_rfl)
def oP(t4:Int):List Value:=un 4 (vi t4::un 55 [])
def wq:aa:=.seq (.region [mc 4 0] []) (.ret)
def VZ:List Value:=un 60 []
abbrev oQ(R:Type):=Addr→Addr→Int→AH→Option R
def Jp(t2 t3:Addr)(t7:Int):List Value:=un 2 (vp t2::vp t3::un 3 (vi t7::un 52 []))
def wu:aa:=.seq (.region [m 43 7,fa 44 1 3,ls 45 44,ln 46 45,cm 47 .lss 43 46] [43,44,45,46]) (.seq (.cond (.t 47) (kl [47]) (.seq (kl [2,3,7,47]) (.exit 2))) (.seq (.block 3 (.seq (.region [oJ 50 (.load (.agg [.int .i64,.int .i64,.slice]) (.t 2)),fa 51 1 3,lt 52 51,m 53 7,ia 54 1 52 53,lt 55 54,oI 56 (.call (.f 70) [.t 50,.t 55] (.one (.one (.int .i64)))),m 5 56] [50,51,52,53,54,55,56]) (.seq (.region [m 57 5,ck 58 .neq 57 0] [57]) (.cond (.t 58) (.seq (.region [m 59 5,m 4 59] [2,3,5,7,58,59]) (.ret)) (kl [5,58]))))) (.region [m 48 7,bc 49 .add 48 1,m 7 49] [48,49])))
def AU:aa:=.seq (.block 2 (.loop wu)) wq
def MR(cn:aa):aa:=.seq (.region [mc 7 0] []) cn
def GP:aa:=MR AU
abbrev Jq(R:Type):=Addr→Addr→AH→Option R
def Pt(t2 t3:Addr):List Value:=un 2 (vp t2::vp t3::un 56 [])
def Jr(t2 t3:Addr)(t6:Int):List Value:=un 2 (vp t2::vp t3::un 2 (vi t6::un 53 []))
def GQ:aa:=.seq (.region [m 27 6,fa 28 1 3,ls 29 28,ln 30 29,cm 31 .lss 27 30] [27,28,29,30]) (.seq (.cond (.t 31) (kl [31]) (.seq (kl [6,31]) (.exit 0))) (.seq (.block 1 (.seq (.region [fa 34 1 3,lt 35 34,m 36 6,ia 37 1 35 36,lt 38 37,ln 39 38,fa 40 0 3,lj 41 40,cm 42 .neq 39 41] [34,35,36,37,38,39,40,41]) (.cond (.t 42) (.seq (.region [mc 4 3] [2,3,6,42]) (.ret)) (kl [42])))) (.region [m 32 6,bc 33 .add 32 1,m 6 33] [32,33])))
def Rd:aa:=.seq (.block 0 (.loop GQ)) GP
def aeV(cn:aa):aa:=.seq (.seq (.region [oI 2 (.box (.t 0)),oI 3 (.box (.t 1)),mc 4 0] [0,1,4]) (.seq (.region [oI 8 (.load (.agg [.int .i64,.int .i64,.slice]) (.t 2)),oI 9 (.call (.f 62) [.t 8] (.one (.one (.int .i64)))),m 5 9] [8,9]) (.seq (.region [m 10 5,ck 11 .neq 10 0] [10]) (.seq (.cond (.t 11) (.seq (.region [m 12 5,m 4 12] [2,3,5,11,12]) (.ret)) (kl [5,11])) (.seq (.region [fa 13 0 3,li 14 13,ck 15 .lss 14 0,m 16 15,.fc 16 false [qI 17 (.cu 0 (.t 3)),qI 18 (.load (.one (.int .i64)) (.t 17)),qI 19 (.cmp .gtr .i64 (.t 18) (ci 256))],oI 20 (.pick (.t 16) (.c (.bool true)) (.t 19)),m 21 20,.fc 21 false [qI 22 (.cu 1 (.t 3)),qI 23 (.load (.one .slice) (.t 22)),qI 24 (.len (.t 23)),qI 25 (.cmp .gtr .i64 (.t 24) (ci 256))],oI 26 (.pick (.t 21) (.c (.bool true)) (.t 25))] [13,14,15,16,17,18,19,20,21,22,23,24,25]) (.seq (.cond (.t 26) (.seq (.region [mc 4 3] [2,3,26]) (.ret)) (kl [26])) (.region [mc 6 0] []))))))) cn
def akZ:aa:=aeV Rd
def aeW(aI aH:Int)(aK:Sl)(nu:Int)(ns:Sl):List Value:=.agg ⟨[vi aI,vi aH,vs aK]⟩::.agg ⟨[vi nu,vs ns]⟩::un 58 []
def sM:ay:=⟨60,akZ,[.tmp 4]⟩
theorem Re:okF Tryz.prog 99 sM=true:=by kernel_rfl
def yn{R:Type}(C:Callee)(fl k:Nat)(kr:ae R):ar R:=fun h=>kr 0 h
theorem Og:(cp VZ (ce C fl k wq K))=yn C fl k (cp oP (K .ret)):=by kernel_rfl
def iA{R:Type}(C:Callee)(fl k:Nat)(kn:oQ R)(e2:ar R)(kr:ae R):oQ R:=fun t2 t3 t7 h=>bM h t3.block (t3.off+1) fun s1=>if decide (t7<((s1.l:Nat):Int))=true then aE .i64 h t2.block t2.off fun n2=>aE .i64 h t2.block (t2.off+1) fun n3=>bM h t2.block (t2.off+1+1) fun s4=>bM h t3.block (t3.off+1) fun s5=>idx 1 s5 t7 fun p6=>bM h p6.block p6.off fun s7=>aC C fl fn.jZ [.agg ⟨[vi n2,vi n3,vs s4]⟩,vs s7] h fun v8 h9=>asInt .i64 v8 fun ux=>if (ux !=0)=true then kr ux h9 else kn t2 t3 (bL (t7+1)) h9 else e2 h
theorem Oh:(cp Jp (ce C fl k wu K))=iA C fl k (cp Jp (K .normal)) (cp VZ (K (.exit 2))) (cp oP (K .ret)):=by kernel_rfl
def iC(kn:ar R)(kr:ae R):Nat→oQ R
 |0=>fun _ _ _ _=>none
 |m+1=>iA C fl k (iC kn kr m) kn kr
theorem BL:∀m,(cp Jp (aR m (bH C fl k wu 2 K)))=iC C fl k (cp VZ (K .normal)) (cp oP (K .ret)) m
 |0=>by kernel_rfl
 |m+1=>mq (Oh C fl k _) (aj (fun L=>iA C fl k L _ _) (BL m))
def Da(kr:ae R):oQ R:=iC C fl k (yn C fl k kr) kr k
theorem SS:(cp Jp (ce C fl k AU K))=Da C fl k (cp oP (K .ret)):=(ou (mw (BL C fl k (bU C fl k wq K)))).trans (aj (fun L=>iC C fl k L _ k) (oh (Og C fl k K)))
def AV{R:Type}(C:Callee)(fl k:Nat)(kx:oQ R)(kr:ae R):Jq R:=fun t2 t3 h=>kx t2 t3 0 h
def Eo(kr:ae R):Jq R:=AV C fl k (Da C fl k kr) kr
theorem Zq(cn:aa):(cp Pt (ce C fl k (MR cn) K))=AV C fl k (cp Jp (ce C fl k cn K)) (cp oP (K .ret)):=by kernel_rfl
theorem Zr:(cp Pt (ce C fl k GP K))=Eo C fl k (cp oP (K .ret)):=(Zq C fl k K AU).trans (aj (fun L0=>AV C fl k L0 _) (SS C fl k K))
def qP{R:Type}(C:Callee)(fl k:Nat)(kn:oQ R)(e0:Jq R)(kr:ae R):oQ R:=fun t2 t3 t6 h=>bM h t3.block (t3.off+1) fun KK=>if decide (t6<((KK.l:Nat):Int))=true then bM h t3.block (t3.off+1) fun s12=>idx 1 s12 t6 fun p13=>bM h p13.block p13.off fun s14=>aE .i64 h t3.block t3.off fun TI=>if (((s14.l:Nat):Int) !=TI)=true then kr 3 h else kn t2 t3 (bL (t6+1)) h else e0 t2 t3 h
theorem Zs:(cp Jr (ce C fl k GQ K))=qP C fl k (cp Jr (K .normal)) (cp Pt (K (.exit 0))) (cp oP (K .ret)):=by kernel_rfl
def zi(kn:Jq R)(kr:ae R):Nat→oQ R
 |0=>fun _ _ _ _=>none
 |m+1=>qP C fl k (zi kn kr m) kn kr
theorem MS:∀m,(cp Jr (aR m (bH C fl k GQ 0 K)))=zi C fl k (cp Pt (K .normal)) (cp oP (K .ret)) m
 |0=>by kernel_rfl
 |m+1=>mq (Zs C fl k _) (aj (fun L=>qP C fl k L _ _) (MS m))
def Js(kr:ae R):oQ R:=zi C fl k (Eo C fl k kr) kr k
theorem aha:(cp Jr (ce C fl k Rd K))=Js C fl k (cp oP (K .ret)):=(ou (mw (MS C fl k (bU C fl k GP K)))).trans (aj (fun L=>zi C fl k L _ k) (oh (Zr C fl k K)))
def Rf{R:Type}(C:Callee)(fl k:Nat)(kx:oQ R)(kr:ae R):bQ R:=fun aI aH aK nu ns h=>cU h [vi aI,vi aH,vs aK] fun b16 Me=>cU Me [vi nu,vs ns] fun b18 O6=>aE .i64 O6 b16 0 fun n20=>aE .i64 O6 b16 1 fun n21=>bM O6 b16 2 fun s22=>aC C fl fn.gW [.agg ⟨[vi n20,vi n21,vs s22]⟩] O6 fun v23 yc=>asInt .i64 v23 fun n25=>if (n25 !=0)=true then kr n25 yc else aE .i64 yc b18 0 fun PW=>if decide (PW<0)=false then aE .i64 yc b18 0 fun n27=>if decide (n27>256)=false then bM yc b18 1 fun s28=>if decide (((s28.l:Nat):Int)>256)=true then kr 3 yc else kx ⟨b16,0,none⟩ ⟨b18,0,none⟩ 0 yc else kr 3 yc else kr 3 yc
def aeX(kr:ae R):bQ R:=Rf C fl k (Js C fl k kr) kr
theorem ap8(cn:aa):(cp aeW (ce C fl k (aeV cn) K))=Rf C fl k (cp Jr (ce C fl k cn K)) (cp oP (K .ret)):=by kernel_rfl
theorem ap9:(cp aeW (ce C fl k akZ K))=aeX C fl k (cp oP (K .ret)):=(ap8 C fl k K Rd).trans (aj (fun L0=>Rf C fl k L0 _) (aha C fl k K))
def gY(ax aw:Int)(aA:Sl)(gy:Int)(gz:Sl)(h:AH):Option (Value×AH):=aeX C fl k (fun y4 q=>some (vi y4,q)) ax aw aA gy gz h
theorem Oi(ax aw:Int)(aA:Sl)(gy:Int)(gz:Sl)(h):bl C fl k sM [.agg ⟨[vi ax,vi aw,vs aA]⟩,.agg ⟨[vi gy,vs gz]⟩] h=gY C fl k ax aw aA gy gz h:=vU (ap9 C fl k (aD _)) ax aw aA gy gz (by kernel_rfl) (by kernel_rfl)
def iY:ay:=⟨105,.seq (.region [oI 4 (.mv (.c (.bool false)))] [4]) (.seq (.seq (.region [m 13 0,oI 14 (.cg (.t 13)),fa 15 1 14,ls 16 15,ln 17 16,mc 18 0] [13,14,15]) (.block 0 (.loop (.seq (.region [cm 19 .lss 18 17] []) (.seq (.cond (.t 19) (kl [19]) (.seq (kl [16,17,18,19]) (.exit 0))) (.seq (.block 1 (.seq (.region [m 20 18,ia 21 1 16 18,ls 22 21,m 5 20,m 6 22] [20,21,22]) (.seq (.region [m 23 1,m 24 0,oI 25 (.cg (.t 24)),fa 26 2 25,ls 27 26,m 28 5,ia 29 1 27 28,li 30 29,ia 31 1 23 30,li 32 31,m 7 32] [5,23,24,25,26,27,28,29,30,31,32]) (.seq (.region [m 33 7,ck 34 .neq 33 0] [33]) (.cond (.t 34) (.seq (.region [m 35 6,ln 36 35,mc 37 0] [6,34]) (.block 2 (.loop (.seq (.region [cm 38 .lss 37 36] []) (.seq (.cond (.t 38) (kl [38]) (.seq (kl [7,35,36,37,38]) (.exit 2))) (.seq (.block 3 (.seq (.region [m 39 37,ia 40 1 35 37,li 41 40,m 8 39,m 9 41] [39,40,41]) (.region [m 42 1,m 43 8,m 44 0,oI 45 (.cg (.t 44)),fa 46 0 45,oJ 47 (.load (.one .kB) (.t 46)),m 48 1,m 49 8,ia 50 1 48 49,lj 51 50,m 52 0,oI 53 (.cg (.t 52)),fa 54 0 53,oJ 55 (.load (.one .kB) (.t 54)),m 56 7,m 57 9,oJ 58 (.call (.f 120) [.t 55,.t 56,.t 57] (.one (.one (.int .i64)))),oI 59 (.call (.f 119) [.t 47,.t 51,.t 58] (.one (.one (.int .i64)))),ia 60 1 42 43,sI 1 60 59] [8,9,42,43,44,45,46,47,48,49,50,51,52,53,54,55,56,57,58,59,60]))) (.region [bc 61 .add 37 1,m 37 61] [61]))))))) (kl [6,7,34])))))) (.region [bc 62 .add 18 1,m 18 62] [62]))))))) (.seq (.region [m 63 1,oI 64 (.call (.f 39) [.t 63,.f 138] (.one (.one (.int .i64)))),m 10 64] [63,64]) (.seq (.seq (.region [m 65 10,ck 66 .lss 65 0] [65]) (.cond (.t 66) (.seq (.region [oI 4 (.mv (.c (.bool false)))] [0,1,10,66]) (.ret)) (kl [66]))) (.seq (.region [m 68 0,oI 69 (.cg (.t 68)),fa 70 0 69,oJ 71 (.load (.one .kB) (.t 70)),m 72 1,m 73 10,ia 74 1 72 73,lj 75 74,oI 76 (.call (.f 139) [.t 71,.t 75] (.jo [.one (.int .i64),.one (.int .i64)])),m 67 76,ex 77 67 0,ex 78 67 1,m 11 77,m 12 78] [12,67,68,69,70,71,72,73,74,75,76,77,78]) (.seq (.region [m 79 0,m 80 0,oI 81 (.cg (.t 80)),fa 82 1 81,lt 83 82,m 84 0,oI 85 (.cg (.t 84)),fa 86 0 85,oJ 87 (.load (.one .kB) (.t 86)),m 88 11,m 89 1,oJ 90 (.call (.f 140) [.t 87,.t 88,.t 89] (.one (.one .slice))),oJ 91 (.aQ 1 [.slice none 0 0] [(0,1,.t 90)]),oI 92 (.append 1 24 (.t 83) (.t 91)),oI 93 (.cg (.t 79)),fa 94 1 93,sI 1 94 92] [1,11,79,80,81,82,83,84,85,86,87,88,89,90,91,92,93,94]) (.seq (.region [m 95 0,m 96 0,oI 97 (.cg (.t 96)),fa 98 2 97,ls 99 98,m 100 10,oI 101 (.aQ 1 [.int .i64 0] [(0,1,.t 100)]),oI 102 (.append 1 8 (.t 99) (.t 101)),oI 103 (.cg (.t 95)),fa 104 2 103,sI 1 104 102] [0,10,95,96,97,98,99,100,101,102,103,104]) (.seq (.region [oI 4 (.mv (.c (.bool true)))] []) (.ret)))))))),[.tmp 4]⟩
theorem Db:okF Tryz.prog 100 iY=true:=by kernel_rfl
def lK:ay:=⟨29,.seq (.region [oI 2 (.box (.t 0)),oI 4 (.mv (.c (.slice none 0 0)))] [0,4]) (.seq (.region [fa 8 4 2,ls 9 8,ln 10 9,oI 11 (.cD 8 [.int .i64 0] (.t 10) (.t 10)),m 5 11] [8,9,10,11]) (.seq (.seq (.region [fa 12 4 2,ls 13 12,ln 14 13,mc 15 0] [2,12]) (.block 0 (.loop (.seq (.region [cm 16 .lss 15 14] []) (.seq (.cond (.t 16) (kl [16]) (.seq (kl [1,13,14,15,16]) (.exit 0))) (.seq (.block 1 (.seq (.region [m 17 15,ia 18 1 13 15,ls 19 18,m 6 17,m 7 19] [17,18,19]) (.region [m 20 5,m 21 6,m 22 7,m 23 1,ia 24 1 22 23,li 25 24,ia 26 1 20 21,sI 1 26 25] [6,7,20,21,22,23,24,25,26]))) (.region [bc 27 .add 15 1,m 15 27] [27]))))))) (.seq (.region [m 28 5,m 4 28] [5,28]) (.ret)))),[.tmp 4]⟩
theorem Jt:okF Tryz.prog 101 lK=true:=by kernel_rfl
def Ep(t4:OA)(t5:Int):List Value:=un 4 (vn t4::vi t5::un 26 [])
def GR:aa:=.seq (.region [m 31 6,m 4 31,mc 5 0] [6,31]) (.ret)
def V0(t6:OA):List Value:=un 6 (vn t6::un 25 [])
def Ju(t6:OA)(t18:Sl)(t19 t20:Int):List Value:=un 6 (vn t6::un 11 (t18.v::vi t19::vi t20::un 11 []))
def GS:aa:=.seq (.region [cm 21 .lss 20 19] []) (.seq (.cond (.t 21) (kl [21]) (.seq (kl [18,19,20,21]) (.exit 0))) (.seq (.block 1 (.seq (.region [ia 22 2 18 20,oI 23 (.load (.agg [.int .i64,.slice]) (.t 22)),oI 9 (.alloc [.int .i64 0,.slice none 0 0]),sI 2 9 23] [22,23]) (.seq (.region [m 24 6,oI 25 (.load (.agg [.int .i64,.slice]) (.t 9)),oI 26 (.call (.f 141) [.t 24,.t 25] (.one (.one (.int .i64)))),m 10 26] [9,24,25,26]) (.seq (.region [m 27 10,ck 28 .neq 27 0] [27]) (.cond (.t 28) (.seq (.region [m 29 10,oI 4 (.mv (.c (.pointer none))),m 5 29] [6,10,18,19,20,28,29]) (.ret)) (kl [10,28])))))) (.region [bc 30 .add 20 1,m 20 30] [30])))
def Rg:aa:=.seq (.block 0 (.loop GS)) GR
def aeY(cn:aa):aa:=.seq (.seq (.region [oI 2 (.box (.t 0)),oI 4 (.mv (.c (.pointer none))),mc 5 0] [0,4,5]) (.seq (.region [oI 12 (.load (.agg [.int .i64,.int .i64,.slice]) (.t 2)),oI 13 (.call (.f 75) [.t 12] (.jo [.one .kB,.one (.int .i64)])),m 11 13,ex 14 11 0,ex 15 11 1,m 6 14,m 7 15] [2,11,12,13,14,15]) (.seq (.region [m 16 7,ck 17 .neq 16 0] [7,16]) (.seq (.cond (.t 17) (.seq (.region [oI 4 (.mv (.c (.pointer none))),mc 5 1] [1,6,17]) (.ret)) (kl [17])) (.region [m 18 1,ln 19 18,mc 20 0] [1]))))) cn
def ak0:aa:=aeY Rg
def aeZ(aI aH:Int)(aK t1:Sl):List Value:=.agg ⟨[vi aI,vi aH,vs aK]⟩::t1.v::un 30 []
def sN:ay:=⟨32,ak0,[.tmp 4,.tmp 5]⟩
theorem Rh:okF Tryz.prog 102 sN=true:=by kernel_rfl
def Er{R:Type}(C:Callee)(fl k:Nat)(kr:fh R):xJ R:=fun t6 h=>kr t6 0 h
theorem Zt:(cp V0 (ce C fl k GR K))=Er C fl k (cp Ep (K .ret)):=by kernel_rfl
def qQ{R:Type}(C:Callee)(fl k:Nat)(kn:dR R)(e0:xJ R)(kr:fh R):dR R:=fun t6 t18 t19 t20 h=>if decide (t20<t19)=true then idx 2 t18 t20 fun p1=>aE .i64 h p1.block p1.off fun n2=>bM h p1.block (p1.off+1) fun s3=>cU h [.int .i64 0,.slice none 0 0] fun b4 h5=>st fl h5 ⟨b4,0,none⟩ [vi n2,vs s3] fun h6=>aE .i64 h6 b4 0 fun n7=>bM h6 b4 1 fun s8=>aC C fl fn.lx [.pointer t6,.agg ⟨[vi n7,vs s8]⟩] h6 fun v9 H7=>asInt .i64 v9 fun Cw=>if (Cw !=0)=true then kr none Cw H7 else kn t6 t18 t19 (bL (t20+1)) H7 else e0 t6 h
theorem Zu:(cp Ju (ce C fl k GS K))=qQ C fl k (cp Ju (K .normal)) (cp V0 (K (.exit 0))) (cp Ep (K .ret)):=by kernel_rfl
def vC(kn:xJ R)(kr:fh R):Nat→dR R
 |0=>fun _ _ _ _ _=>none
 |m+1=>qQ C fl k (vC kn kr m) kn kr
theorem MT:∀m,(cp Ju (aR m (bH C fl k GS 0 K)))=vC C fl k (cp V0 (K .normal)) (cp Ep (K .ret)) m
 |0=>by kernel_rfl
 |m+1=>mq (Zu C fl k _) (aj (fun L=>qQ C fl k L _ _) (MT m))
def V1(kr:fh R):dR R:=vC C fl k (Er C fl k kr) kr k
theorem ahb:(cp Ju (ce C fl k Rg K))=V1 C fl k (cp Ep (K .ret)):=(ou (mw (MT C fl k (bU C fl k GR K)))).trans (aj (fun L=>vC C fl k L _ k) (oh (Zt C fl k K)))
def Ri{R:Type}(C:Callee)(fl k:Nat)(kx:dR R)(kr:fh R):xI R:=fun aI aH aK t1 h=>cU h [vi aI,vi aH,vs aK] fun b12 uV=>aE .i64 uV b12 0 fun DM=>aE .i64 uV b12 1 fun TI=>bM uV b12 2 fun Sk=>aC C fl fn.ff [.agg ⟨[vi DM,vi TI,vs Sk]⟩] uV fun v17 O4=>bj v17 fun l19=>aG l19 fun v20 l21=>fV v20 fun p22=>aG l21 fun v23 l24=>asInt .i64 v23 fun n25=>ch l24 (if (n25 !=0)=true then kr none 1 O4 else kx p22 t1 ((t1.l:Nat):Int) 0 O4)
def ae0(kr:fh R):xI R:=Ri C fl k (V1 C fl k kr) kr
theorem aqa(cn:aa):(cp aeZ (ce C fl k (aeY cn) K))=Ri C fl k (cp Ju (ce C fl k cn K)) (cp Ep (K .ret)):=by kernel_rfl
theorem aqb:(cp aeZ (ce C fl k ak0 K))=ae0 C fl k (cp Ep (K .ret)):=(aqa C fl k K Rg).trans (aj (fun L0=>Ri C fl k L0 _) (ahb C fl k K))
def c7(ax aw:Int)(aA p1:Sl)(h:AH):Option (Value×AH):=ae0 C fl k (fun y4 y5 q=>some (.tuple ⟨[.pointer y4,vi y5]⟩,q)) ax aw aA p1 h
theorem BM(ax aw:Int)(aA p1:Sl)(h):bl C fl k sN [.agg ⟨[vi ax,vi aw,vs aA]⟩,vs p1] h=c7 C fl k ax aw aA p1 h:=NT (aqb C fl k (aD _)) ax aw aA p1 (by kernel_rfl) (by kernel_rfl)
def aqc(t6 t7:Sl):List Value:=un 6 (t6.v::t7.v::un 19 [])
def ak1:aa:=.seq (.region [oI 6 (.mv (.c (.slice none 0 0))),oI 7 (.mv (.c (.slice none 0 0)))] [6,7]) (.seq (.region [m 11 1,oI 12 (.call (.f 142) [.t 11] (.one (.one .slice))),m 8 12] [1,11,12]) (.seq (.region [m 14 0,m 15 8,m 16 2,oI 17 (.call (.f 143) [.t 14,.t 15,.t 16,.c (.slice none 0 0)] (.jo [.one .slice,.one (.int .i64)])),m 13 17,ex 18 13 0,ex 19 13 1,m 9 18,m 10 19] [0,2,10,13,14,15,16,17,18,19]) (.seq (.region [m 20 8,m 21 9,ln 22 21,m 23 9,ln 24 23,oI 25 (.slice 1 (.t 20) none (some (.t 22)) (some (.t 24))),m 26 9,m 6 25,m 7 26] [8,9,20,21,22,23,24,25,26]) (.ret))))
def aqd(t0:OA)(t1:Sl)(t2:Int):List Value:=vn t0::t1.v::vi t2::un 24 []
def oR:ay:=⟨27,ak1,[.tmp 6,.tmp 7]⟩
theorem Oj:okF Tryz.prog 103 oR=true:=by kernel_rfl
def ak2{R:Type}(C:Callee)(fl k:Nat)(kr:c8 R):Pr R:=fun t0 t1 t2 h=>aC C fl fn.ly [vs t1] h fun v1 h2=>bB v1 fun s3=>aC C fl fn.fS [.pointer t0,vs s3,vi t2,.slice none 0 0] h2 fun v4 h5=>bj v4 fun l6=>aG l6 fun v7 l8=>bB v7 fun s9=>aG l8 fun v10 l11=>asInt .i64 v10 fun Cs=>ch l11 (sub 1 s3 none (some ((s9.l:Nat):Int)) (some ((s9.l:Nat):Int)) fun s13=>kr s13 s9 h5)
theorem aqe:(cp aqd (ce C fl k ak1 K))=ak2 C fl k (cp aqc (K .ret)):=by kernel_rfl
def gZ(p0:OA)(p1:Sl)(p2:Int)(h:AH):Option (Value×AH):=ak2 C fl k (fun y6 y7 q=>some (.tuple ⟨[vs y6,vs y7]⟩,q)) p0 p1 p2 h
theorem zj(p0:OA)(p1:Sl)(p2:Int)(h):bl C fl k oR [.pointer p0,vs p1,vi p2] h=gZ C fl k p0 p1 p2 h:=yV (aqe C fl k (aD _)) p0 p1 p2 (by kernel_rfl) (by kernel_rfl)
def Pu(t4:Int):List Value:=un 4 (vi t4::un 45 [])
def GU:aa:=.seq (.region [m 49 5,m 4 49] [5,49]) (.ret)
def V2(t5:Int):List Value:=un 5 (vi t5::un 44 [])
abbrev Jv(R:Type):=OA→Int→Int→Int→AH→Option R
def Jw(t0:OA)(t1 t5 t6:Int):List Value:=vn t0::vi t1::un 3 (vi t5::vi t6::un 43 [])
def GV:aa:=.seq (.region [m 10 1,ck 11 .gtr 10 0] [10]) (.seq (.cond (.t 11) (kl [11]) (.seq (kl [0,1,6,11]) (.exit 0))) (.block 1 (.seq (.region [m 12 5,m 13 0,oI 14 (.cg (.t 13)),fa 15 0 14,fa 16 0 15,lj 17 16,m 18 1,m 19 0,oI 20 (.cg (.t 19)),fa 21 0 20,fa 22 0 21,lj 23 22,bb 24 .rem 18 23,bb 25 .sub 17 24,m 26 0,oI 27 (.cg (.t 26)),fa 28 0 27,fa 29 0 28,lj 30 29,bb 31 .rem 25 30,m 32 6,bb 33 .mul 31 32,bb 34 .add 12 33,m 5 34] [12,13,14,15,16,17,18,19,20,21,22,23,24,25,26,27,28,29,30,31,32,33,34]) (.seq (.region [m 35 6,m 36 0,oI 37 (.cg (.t 36)),fa 38 0 37,fa 39 0 38,li 40 39,bb 41 .mul 35 40,m 6 41] [35,36,37,38,39,40,41]) (.region [m 42 1,m 43 0,oI 44 (.cg (.t 43)),fa 45 0 44,fa 46 0 45,li 47 46,bb 48 .quo 42 47,m 1 48] [42,43,44,45,46,47,48])))))
def Rj:aa:=.seq (.block 0 (.loop GV)) GU
def ae1(cn:aa):aa:=.seq (.seq (.region [mc 4 0] [4]) (.seq (.region [m 7 0,m 8 1,oI 9 (.call (.f 144) [.t 7,.t 8] (.one (.one (.int .i64)))),m 1 9] [7,8,9]) (.region [mc 5 0,mc 6 1] []))) cn
def ak3:aa:=ae1 Rj
def ae2(t0:OA)(t1:Int):List Value:=vn t0::vi t1::un 48 []
def oS:ay:=⟨50,ak3,[.tmp 4]⟩
theorem Ok:okF Tryz.prog 104 oS=true:=by kernel_rfl
def Lr{R:Type}(C:Callee)(fl k:Nat)(kr:ae R):ae R:=fun t5 h=>kr t5 h
theorem Zv:(cp V2 (ce C fl k GU K))=Lr C fl k (cp Pu (K .ret)):=by kernel_rfl
def qR{R:Type}(C:Callee)(fl k:Nat)(kn:Jv R)(e0:ae R):Jv R:=fun t0 t1 t5 t6 h=>if decide (t1>0)=true then cQ (.pointer t0) fun p1=>aE .i64 h p1.block p1.off fun n2=>cQ (.pointer t0) fun p3=>aE .i64 h p3.block p3.off fun n4=>jd .rem .i64 t1 n4 fun n5=>cQ (.pointer t0) fun p6=>aE .i64 h p6.block p6.off fun n7=>jd .rem .i64 (bL (n2-n5)) n7 fun n8=>cQ (.pointer t0) fun p9=>aE .i64 h p9.block p9.off fun ux=>cQ (.pointer t0) fun p11=>aE .i64 h p11.block p11.off fun Cs=>jd .quo .i64 t1 Cs fun Fs=>kn t0 Fs (bL (t5+(bL (n8*t6)))) (bL (t6*ux)) h else e0 t5 h
theorem Zw:(cp Jw (ce C fl k GV K))=qR C fl k (cp Jw (K .normal)) (cp V2 (K (.exit 0))):=by kernel_rfl
def vD(kn:ae R):Nat→Jv R
 |0=>fun _ _ _ _ _=>none
 |m+1=>qR C fl k (vD kn m) kn
theorem MU:∀m,(cp Jw (aR m (bH C fl k GV 0 K)))=vD C fl k (cp V2 (K .normal)) m
 |0=>by kernel_rfl
 |m+1=>mq (Zw C fl k _) (aj (fun L=>qR C fl k L _) (MU m))
def V3(kr:ae R):Jv R:=vD C fl k (Lr C fl k kr) k
theorem ahc:(cp Jw (ce C fl k Rj K))=V3 C fl k (cp Pu (K .ret)):=(ou (mw (MU C fl k (bU C fl k GU K)))).trans (aj (fun L=>vD C fl k L k) (oh (Zv C fl k K)))
def V4{R:Type}(C:Callee)(fl k:Nat)(kx:Jv R)(kr:ae R):fh R:=fun t0 t1 h=>aC C fl fn.eY [.pointer t0,vi t1] h fun v14 EP=>asInt .i64 v14 fun KL=>kx t0 KL 0 1 EP
def ak4(kr:ae R):fh R:=V4 C fl k (V3 C fl k kr) kr
theorem aqf(cn:aa):(cp ae2 (ce C fl k (ae1 cn) K))=V4 C fl k (cp Jw (ce C fl k cn K)) (cp Pu (K .ret)):=by kernel_rfl
theorem aqg:(cp ae2 (ce C fl k ak3 K))=ak4 C fl k (cp Pu (K .ret)):=(aqf C fl k K Rj).trans (aj (fun L0=>V4 C fl k L0 _) (ahc C fl k K))
def eO(p0:OA)(p1:Int)(h:AH):Option (Value×AH):=ak4 C fl k (fun y4 q=>some (vi y4,q)) p0 p1 h
theorem zk(p0:OA)(p1:Int)(h):bl C fl k oS [.pointer p0,vi p1] h=eO C fl k p0 p1 h:=Ca (aqg C fl k (aD _)) p0 p1 (by kernel_rfl) (by kernel_rfl)
def aqh(t2:Addr):List Value:=un 2 (vp t2::un 5 [])
def ak5:aa:=.seq (.region [oI 1 (.box (.t 0)),oI 2 (.alloc [.int .i64 0,.int .i64 0,.slice none 0 0])] [0]) (.seq (.region [fa 3 2 1,ls 4 3,oI 5 (.call (.f 118) [.t 4] (.one (.one .slice))),fa 6 2 1,sI 1 6 5] [3,4,5,6]) (.seq (.region [oI 7 (.load (.agg [.int .i64,.int .i64,.slice]) (.t 1)),sI 3 2 7] [1,7]) (.ret)))
def aqi(aI aH:Int)(aK:Sl):List Value:=.agg ⟨[vi aI,vi aH,vs aK]⟩::un 7 []
def AW:ay:=⟨8,ak5,[.cell 2 (.agg [.int .i64,.int .i64,.slice])]⟩
theorem Zx:okF Tryz.prog 105 AW=true:=by kernel_rfl
def ak6{R:Type}(C:Callee)(fl k:Nat)(kr:xF R):jB R:=fun aI aH aK h=>cU h [vi aI,vi aH,vs aK] fun b1 h2=>cU h2 [.int .i64 0,.int .i64 0,.slice none 0 0] fun b3 h4=>bM h4 b1 2 fun s5=>aC C fl fn.dL [vs s5] h4 fun v6 h7=>bB v6 fun s8=>st fl h7 ⟨b1,2,none⟩ [vs s8] fun h9=>aE .i64 h9 b1 0 fun ux=>aE .i64 h9 b1 1 fun Cw=>bM h9 b1 2 fun s12=>st fl h9 ⟨b3,0,none⟩ [vi ux,vi Cw,vs s12] fun uV=>kr ⟨b3,0,none⟩ uV
theorem aqj:(cp aqi (ce C fl k ak5 K))=ak6 C fl k (cp aqh (K .ret)):=by kernel_rfl
def yT(ax aw:Int)(aA:Sl)(h:AH):Option (Value×AH):=ak6 C fl k (fun y2 q=>aE .i64 q y2.block y2.off fun DM=>aE .i64 q y2.block (y2.off+1) fun TI=>bM q y2.block (y2.off+1+1) fun Sk=>some (.agg ⟨[vi DM,vi TI,vs Sk]⟩,q)) ax aw aA h
theorem Jy(ax aw:Int)(aA:Sl)(h):bl C fl k AW [.agg ⟨[vi ax,vi aw,vs aA]⟩] h=yT C fl k ax aw aA h:=yV (aqj C fl k (aD _)) ax aw aA (by kernel_rfl) (by kernel_rfl)
def aqk(t4:Bool):List Value:=un 4 (.bool t4::un 8 [])
def ak7:aa:=.seq (.region [oI 2 (.box (.t 0)),oI 4 (.mv (.c (.bool false)))] [0,4]) (.seq (.region [m 5 1,ck 6 .geq 5 0,m 7 6,.fc 7 true [qI 8 (.mv (.t 1)),qI 9 (.load (.agg [.int .i64,.int .i64,.slice]) (.t 2)),qI 10 (.call (.f 96) [.t 9] (.one (.one (.int .i64)))),qI 11 (.cmp .lss .i64 (.t 8) (.t 10))],oI 12 (.pick (.t 7) (.t 11) (.c (.bool false))),m 4 12] [1,2,5,6,7,8,9,10,11,12]) (.ret))
abbrev ki(R:Type):=Int→Int→Sl→Int→AH→Option R
def aql(aI aH:Int)(aK:Sl)(t1:Int):List Value:=.agg ⟨[vi aI,vi aH,vs aK]⟩::vi t1::un 11 []
def AX:ay:=⟨13,ak7,[.tmp 4]⟩
theorem Zy:okF Tryz.prog 106 AX=true:=by kernel_rfl
def ae3{R:Type}(C:Callee)(fl k:Nat)(kr:au R):ki R:=fun aI aH aK t1 h=>cU h [vi aI,vi aH,vs aK] fun b1 h2=>if decide (t1≥0)=true then aE .i64 h2 b1 0 fun n3=>aE .i64 h2 b1 1 fun n4=>bM h2 b1 2 fun s5=>aC C fl fn.kJ [.agg ⟨[vi n3,vi n4,vs s5]⟩] h2 fun v6 h7=>asInt .i64 v6 fun n8=>kr (decide (t1<n8)) h7 else kr false h2
theorem aqm:(cp aql (ce C fl k ak7 K))=ae3 C fl k (cp aqk (K .ret)):=by kernel_rfl
def kK(ax aw:Int)(aA:Sl)(p1:Int)(h:AH):Option (Value×AH):=ae3 C fl k (fun y4 q=>some (.bool y4,q)) ax aw aA p1 h
theorem V5(ax aw:Int)(aA:Sl)(p1:Int)(h):bl C fl k AX [.agg ⟨[vi ax,vi aw,vs aA]⟩,vi p1] h=kK C fl k ax aw aA p1 h:=NT (aqm C fl k (aD _)) ax aw aA p1 (by kernel_rfl) (by kernel_rfl)
def aqn(t4:Bool):List Value:=un 4 (.bool t4::un 10 [])
def ak8:aa:=.seq (.region [oI 4 (.mv (.c (.bool false)))] [4]) (.seq (.region [m 5 1,ck 6 .geq 5 0,m 7 6,.fc 7 true [qI 8 (.mv (.t 1)),qI 9 (.mv (.t 0)),qI 10 (.cg (.t 9)),qI 11 (.cu 3 (.t 10)),qI 12 (.load (.one (.int .i64)) (.t 11)),qI 13 (.cmp .lss .i64 (.t 8) (.t 12))],oI 14 (.pick (.t 7) (.t 13) (.c (.bool false))),m 4 14] [0,1,5,6,7,8,9,10,11,12,13,14]) (.ret))
def aqo(t0:OA)(t1:Int):List Value:=vn t0::vi t1::un 13 []
def sO:ay:=⟨15,ak8,[.tmp 4]⟩
theorem Rk:okF Tryz.prog 109 sO=true:=by kernel_rfl
def ak9{R:Type}(C:Callee)(fl k:Nat)(kr:au R):fh R:=fun t0 t1 h=>if decide (t1≥0)=true then cQ (.pointer t0) fun p1=>aE .i64 h p1.block (p1.off+3) fun n2=>kr (decide (t1<n2)) h else kr false h
theorem aqp:(cp aqo (ce C fl k ak8 K))=ak9 C fl k (cp aqn (K .ret)):=by kernel_rfl
def kL(p0:OA)(p1:Int)(h:AH):Option (Value×AH):=ak9 C fl k (fun y4 q=>some (.bool y4,q)) p0 p1 h
theorem BN(p0:OA)(p1:Int)(h):bl C fl k sO [.pointer p0,vi p1] h=kL C fl k p0 p1 h:=Ca (aqp C fl k (aD _)) p0 p1 (by kernel_rfl) (by kernel_rfl)
def Es(t4:Int):List Value:=un 4 (vi t4::un 13 [])
def GW:aa:=.seq (.region [mc 4 0] []) (.ret)
def V6:List Value:=un 18 []
def Jz(t0:OA)(t7:Sl)(t8 t9:Int):List Value:=vn t0::un 6 (t7.v::vi t8::vi t9::un 8 [])
def GX:aa:=.seq (.region [cm 10 .lss 9 8] []) (.seq (.cond (.t 10) (kl [10]) (.seq (kl [0,7,8,9,10]) (.exit 0))) (.seq (.block 1 (.seq (.region [ia 11 1 7 9,li 12 11,m 6 12] [11,12]) (.seq (.region [m 13 0,m 14 6,oI 15 (.call (.f 109) [.t 13,.t 14] (.one (.one .bool))),no 16 15] [6,13,14,15]) (.cond (.t 16) (.seq (.region [mc 4 2] [0,7,8,9,16]) (.ret)) (kl [16]))))) (.region [bc 17 .add 9 1,m 9 17] [17])))
def Rl:aa:=.seq (.block 0 (.loop GX)) GW
def ae4(cn:aa):aa:=.seq (.seq (.region [mc 4 0] [4]) (.region [m 7 1,ln 8 7,mc 9 0] [1])) cn
def ala:aa:=ae4 Rl
abbrev ae5(R:Type):=OA→Sl→AH→Option R
def ae6(t0:OA)(t1:Sl):List Value:=vn t0::t1.v::un 16 []
def lL:ay:=⟨18,ala,[.tmp 4]⟩
theorem JA:okF Tryz.prog 110 lL=true:=by kernel_rfl
def Ls{R:Type}(C:Callee)(fl k:Nat)(kr:ae R):ar R:=fun h=>kr 0 h
theorem Zz:(cp V6 (ce C fl k GW K))=Ls C fl k (cp Es (K .ret)):=by kernel_rfl
def qS{R:Type}(C:Callee)(fl k:Nat)(kn:dR R)(e0:ar R)(kr:ae R):dR R:=fun t0 t7 t8 t9 h=>if decide (t9<t8)=true then idx 1 t7 t9 fun p1=>aE .i64 h p1.block p1.off fun n2=>aC C fl fn.kL [.pointer t0,vi n2] h fun v3 h4=>asBool v3 fun b5=>if (!b5)=true then kr 2 h4 else kn t0 t7 t8 (bL (t9+1)) h4 else e0 h
theorem ZA:(cp Jz (ce C fl k GX K))=qS C fl k (cp Jz (K .normal)) (cp V6 (K (.exit 0))) (cp Es (K .ret)):=by kernel_rfl
def zl(kn:ar R)(kr:ae R):Nat→dR R
 |0=>fun _ _ _ _ _=>none
 |m+1=>qS C fl k (zl kn kr m) kn kr
theorem MV:∀m,(cp Jz (aR m (bH C fl k GX 0 K)))=zl C fl k (cp V6 (K .normal)) (cp Es (K .ret)) m
 |0=>by kernel_rfl
 |m+1=>mq (ZA C fl k _) (aj (fun L=>qS C fl k L _ _) (MV m))
def V7(kr:ae R):dR R:=zl C fl k (Ls C fl k kr) kr k
theorem ahd:(cp Jz (ce C fl k Rl K))=V7 C fl k (cp Es (K .ret)):=(ou (mw (MV C fl k (bU C fl k GW K)))).trans (aj (fun L=>zl C fl k L _ k) (oh (Zz C fl k K)))
def V8{R:Type}(C:Callee)(fl k:Nat)(kx:dR R)(kr:ae R):ae5 R:=fun t0 t1 h=>kx t0 t1 ((t1.l:Nat):Int) 0 h
def alb(kr:ae R):ae5 R:=V8 C fl k (V7 C fl k kr) kr
theorem aqq(cn:aa):(cp ae6 (ce C fl k (ae4 cn) K))=V8 C fl k (cp Jz (ce C fl k cn K)) (cp Es (K .ret)):=by kernel_rfl
theorem aqr:(cp ae6 (ce C fl k ala K))=alb C fl k (cp Es (K .ret)):=(aqq C fl k K Rl).trans (aj (fun L0=>V8 C fl k L0 _) (ahd C fl k K))
def jk(p0:OA)(p1:Sl)(h:AH):Option (Value×AH):=alb C fl k (fun y4 q=>some (vi y4,q)) p0 p1 h
theorem wv(p0:OA)(p1:Sl)(h):bl C fl k lL [.pointer p0,vs p1] h=jk C fl k p0 p1 h:=Ca (aqr C fl k (aD _)) p0 p1 (by kernel_rfl) (by kernel_rfl)
def va:ay:=⟨33,.seq (.region [oI 8 (.mv (.c (.slice none 0 0)))] [8]) (.seq (.region [m 12 3,oI 13 (.cD 8 [.int .i64 0] (.t 12) (.t 12)),m 9 13] [3,12,13]) (.seq (.seq (.region [m 14 1,ln 15 14,mc 16 0] [1]) (.block 0 (.loop (.seq (.region [cm 17 .lss 16 15] []) (.seq (.cond (.t 17) (kl [17]) (.seq (kl [0,2,14,15,16,17]) (.exit 0))) (.seq (.block 1 (.seq (.region [m 18 16,ia 19 1 14 16,li 20 19,m 10 18,m 11 20] [18,19,20]) (.seq (.region [m 21 11,ck 22 .neq 21 0] [21]) (.cond (.t 22) (.region [m 23 0,m 24 9,m 25 11,m 26 2,m 27 10,ia 28 1 26 27,ls 29 28,oI 30 (.call (.f 145) [.t 23,.t 24,.t 25,.t 29] (.jo []))] [10,11,22,23,24,25,26,27,28,29,30]) (kl [10,11,22]))))) (.region [bc 31 .add 16 1,m 16 31] [31]))))))) (.seq (.region [m 32 9,m 8 32] [9,32]) (.ret)))),[.tmp 8]⟩
theorem SU:okF Tryz.prog 111 va=true:=by kernel_rfl
def Et(t2:Bool):List Value:=un 2 (.bool t2::un 43 [])
def GY:aa:=.seq (.region [oI 2 (.mv (.c (.bool true)))] []) (.ret)
def V9:List Value:=un 46 []
abbrev oT(R:Type):=Addr→Sl→Int→Int→AH→Option R
def JB(t1:Addr)(t31:Sl)(t32 t33:Int):List Value:=un 1 (vp t1::un 29 (t31.v::vi t32::vi t33::un 12 []))
def GZ:aa:=.seq (.region [cm 34 .lss 33 32] []) (.seq (.cond (.t 34) (kl [34]) (.seq (kl [1,31,32,33,34]) (.exit 0))) (.seq (.block 1 (.seq (.region [ia 35 1 31 33,li 36 35,m 4 36] [35,36]) (.seq (.region [m 37 4,ck 38 .lss 37 0,m 39 38,.fc 39 false [qI 40 (.mv (.t 4)),qI 41 (.cu 0 (.t 1)),qI 42 (.load (.one (.int .i64)) (.t 41)),qI 43 (.cmp .geq .i64 (.t 40) (.t 42))],oI 44 (.pick (.t 39) (.c (.bool true)) (.t 43))] [4,37,38,39,40,41,42,43]) (.cond (.t 44) (.seq (.region [oI 2 (.mv (.c (.bool false)))] [1,31,32,33,44]) (.ret)) (kl [44]))))) (.region [bc 45 .add 33 1,m 33 45] [45])))
def Rm:aa:=.seq (.block 0 (.loop GZ)) GY
def ae7(cn:aa):aa:=.seq (.seq (.region [oI 1 (.box (.t 0)),oI 2 (.mv (.c (.bool false)))] [0,2]) (.seq (.region [fa 5 0 1,li 6 5,fa 7 1 1,li 8 7,oI 9 (.call (.f 113) [.t 6,.t 8] (.one (.one (.int .i64)))),ck 10 .eql 9 0,m 11 10,.fc 11 false [qI 12 (.cu 0 (.t 1)),qI 13 (.load (.one (.int .i64)) (.t 12)),qI 14 (.call (.f 146) [.t 13] (.one (.one .bool))),qI 15 (.not (.t 14))],oI 16 (.pick (.t 11) (.c (.bool true)) (.t 15))] [5,6,7,8,9,10,11,12,13,14,15]) (.seq (.cond (.t 16) (.seq (.region [oI 2 (.mv (.c (.bool false)))] [1,16]) (.ret)) (kl [16])) (.seq (.region [fa 17 1 1,li 18 17,ck 19 .eql 18 1] [17,18]) (.seq (.cond (.t 19) (.seq (.region [fa 20 2 1,ls 21 20,ln 22 21,ck 23 .eql 22 0,m 2 23] [1,19,20,21,22,23]) (.ret)) (kl [19])) (.seq (.region [fa 24 2 1,ls 25 24,ln 26 25,fa 27 1 1,li 28 27,cm 29 .neq 26 28] [24,25,26,27,28]) (.seq (.cond (.t 29) (.seq (.region [oI 2 (.mv (.c (.bool false)))] [1,29]) (.ret)) (kl [29])) (.region [fa 30 2 1,ls 31 30,ln 32 31,mc 33 0] [30])))))))) cn
def ald:aa:=ae7 Rm
def ae8(aI aH:Int)(aK:Sl):List Value:=.agg ⟨[vi aI,vi aH,vs aK]⟩::un 45 []
def sP:ay:=⟨46,ald,[.tmp 2]⟩
theorem Rn:okF Tryz.prog 112 sP=true:=by kernel_rfl
def Lt{R:Type}(C:Callee)(fl k:Nat)(kr:au R):ar R:=fun h=>kr true h
theorem ZB:(cp V9 (ce C fl k GY K))=Lt C fl k (cp Et (K .ret)):=by kernel_rfl
def qT{R:Type}(C:Callee)(fl k:Nat)(kn:oT R)(e0:ar R)(kr:au R):oT R:=fun t1 t31 t32 t33 h=>if decide (t33<t32)=true then idx 1 t31 t33 fun p1=>aE .i64 h p1.block p1.off fun n2=>if decide (n2<0)=false then aE .i64 h t1.block t1.off fun n3=>if decide (n2≥n3)=true then kr false h else kn t1 t31 t32 (bL (t33+1)) h else kr false h else e0 h
theorem ZC:(cp JB (ce C fl k GZ K))=qT C fl k (cp JB (K .normal)) (cp V9 (K (.exit 0))) (cp Et (K .ret)):=by kernel_rfl
def zm(kn:ar R)(kr:au R):Nat→oT R
 |0=>fun _ _ _ _ _=>none
 |m+1=>qT C fl k (zm kn kr m) kn kr
theorem MW:∀m,(cp JB (aR m (bH C fl k GZ 0 K)))=zm C fl k (cp V9 (K .normal)) (cp Et (K .ret)) m
 |0=>by kernel_rfl
 |m+1=>mq (ZC C fl k _) (aj (fun L=>qT C fl k L _ _) (MW m))
def Wa(kr:au R):oT R:=zm C fl k (Lt C fl k kr) kr k
theorem ahe:(cp JB (ce C fl k Rm K))=Wa C fl k (cp Et (K .ret)):=(ou (mw (MW C fl k (bU C fl k GY K)))).trans (aj (fun L=>zm C fl k L _ k) (oh (ZB C fl k K)))
def Wb{R:Type}(C:Callee)(fl k:Nat)(kx:oT R)(kr:au R):jB R:=fun aI aH aK h=>cU h [vi aI,vi aH,vs aK] fun b4 h5=>aE .i64 h5 b4 0 fun n6=>aE .i64 h5 b4 1 fun n7=>aC C fl fn.hJ [vi n6,vi n7] h5 fun v8 h9=>asInt .i64 v8 fun ux=>if (ux==0)=false then aE .i64 h9 b4 0 fun Cw=>aC C fl fn.j0 [vi Cw] h9 fun v12 uV=>asBool v12 fun KQ=>if (!KQ)=true then kr false uV else aE .i64 uV b4 1 fun TI=>if (TI==1)=true then bM uV b4 2 fun Sk=>kr (((Sk.l:Nat):Int)==0) uV else bM uV b4 2 fun s17=>aE .i64 uV b4 1 fun n18=>if (((s17.l:Nat):Int) !=n18)=true then kr false uV else bM uV b4 2 fun s19=>kx ⟨b4,0,none⟩ s19 ((s19.l:Nat):Int) 0 uV else kr false h9
def ale(kr:au R):jB R:=Wb C fl k (Wa C fl k kr) kr
theorem aqs(cn:aa):(cp ae8 (ce C fl k (ae7 cn) K))=Wb C fl k (cp JB (ce C fl k cn K)) (cp Et (K .ret)):=by kernel_rfl
theorem aqt:(cp ae8 (ce C fl k ald K))=ale C fl k (cp Et (K .ret)):=(aqs C fl k K Rm).trans (aj (fun L0=>Wb C fl k L0 _) (ahe C fl k K))
def kM(ax aw:Int)(aA:Sl)(h:AH):Option (Value×AH):=ale C fl k (fun y2 q=>some (.bool y2,q)) ax aw aA h
theorem BO(ax aw:Int)(aA:Sl)(h):bl C fl k sP [.agg ⟨[vi ax,vi aw,vs aA]⟩] h=kM C fl k ax aw aA h:=yV (aqt C fl k (aD _)) ax aw aA (by kernel_rfl) (by kernel_rfl)
def Eu(t4:Int):List Value:=un 4 (vi t4::un 25 [])
def G1:aa:=.seq (.region [m 29 5,m 4 29] [5,29]) (.ret)
def Wc(t5:Int):List Value:=un 5 (vi t5::un 24 [])
abbrev JC(R:Type):=Int→Int→Int→Int→AH→Option R
def JD(t0 t5 t20 t21:Int):List Value:=vi t0::un 4 (vi t5::un 14 (vi t20::vi t21::un 8 []))
def G2:aa:=.seq (.region [cm 22 .lss 21 20] []) (.seq (.cond (.t 22) (kl [22]) (.seq (kl [0,20,21,22]) (.exit 0))) (.seq (.block 1 (.seq (.region [m 23 5,m 24 0,bb 25 .mul 23 24,m 5 25] [23,24,25]) (.seq (.region [m 26 5,ck 27 .gtr 26 256] [26]) (.cond (.t 27) (.seq (.region [mc 4 0] [0,5,20,21,27]) (.ret)) (kl [27]))))) (.region [bc 28 .add 21 1,m 21 28] [28])))
def Ro:aa:=.seq (.block 0 (.loop G2)) G1
def ae9(cn:aa):aa:=.seq (.seq (.region [mc 4 0] [4]) (.seq (.region [m 6 0,ck 7 .lss 6 2,m 8 7,.fc 8 false [qI 9 (.mv (.t 0)),qI 10 (.cmp .gtr .i64 (.t 9) (ci 256))],oI 11 (.pick (.t 8) (.c (.bool true)) (.t 10)),m 12 11,.fc 12 false [qI 13 (.mv (.t 1)),qI 14 (.cmp .lss .i64 (.t 13) (ci 1))],oI 15 (.pick (.t 12) (.c (.bool true)) (.t 14)),m 16 15,.fc 16 false [qI 17 (.mv (.t 1)),qI 18 (.cmp .gtr .i64 (.t 17) (ci 8))],oI 19 (.pick (.t 16) (.c (.bool true)) (.t 18))] [6,7,8,9,10,11,12,13,14,15,16,17,18]) (.seq (.cond (.t 19) (.seq (.region [mc 4 0] [0,1,19]) (.ret)) (kl [19])) (.seq (.region [mc 5 1] []) (.region [m 20 1,mc 21 0] [1]))))) cn
def alf:aa:=ae9 Ro
def afa(t0 t1:Int):List Value:=vi t0::vi t1::un 28 []
def sQ:ay:=⟨30,alf,[.tmp 4]⟩
theorem Rp:okF Tryz.prog 113 sQ=true:=by kernel_rfl
def Lu{R:Type}(C:Callee)(fl k:Nat)(kr:ae R):ae R:=fun t5 h=>kr t5 h
theorem ZD:(cp Wc (ce C fl k G1 K))=Lu C fl k (cp Eu (K .ret)):=by kernel_rfl
def qU{R:Type}(C:Callee)(fl k:Nat)(kn:JC R)(e0:ae R)(kr:ae R):JC R:=fun t0 t5 t20 t21 h=>if decide (t21<t20)=true then if decide (bL (t5*t0)>256)=true then kr 0 h else kn t0 (bL (t5*t0)) t20 (bL (t21+1)) h else e0 t5 h
theorem ZE:(cp JD (ce C fl k G2 K))=qU C fl k (cp JD (K .normal)) (cp Wc (K (.exit 0))) (cp Eu (K .ret)):=by kernel_rfl
def zn(kn:ae R)(kr:ae R):Nat→JC R
 |0=>fun _ _ _ _ _=>none
 |m+1=>qU C fl k (zn kn kr m) kn kr
theorem MX:∀m,(cp JD (aR m (bH C fl k G2 0 K)))=zn C fl k (cp Wc (K .normal)) (cp Eu (K .ret)) m
 |0=>by kernel_rfl
 |m+1=>mq (ZE C fl k _) (aj (fun L=>qU C fl k L _ _) (MX m))
def afb(kr:ae R):JC R:=zn C fl k (Lu C fl k kr) kr k
theorem ahf:(cp JD (ce C fl k Ro K))=afb C fl k (cp Eu (K .ret)):=(ou (mw (MX C fl k (bU C fl k G1 K)))).trans (aj (fun L=>zn C fl k L _ k) (oh (ZD C fl k K)))
def Wd{R:Type}(C:Callee)(fl k:Nat)(kx:JC R)(kr:ae R):gF R:=fun t0 t1 h=>if decide (t0<2)=false then if decide (t0>256)=false then if decide (t1<1)=false then if decide (t1>8)=true then kr 0 h else kx t0 1 t1 0 h else kr 0 h else kr 0 h else kr 0 h
def alg(kr:ae R):gF R:=Wd C fl k (afb C fl k kr) kr
theorem aqu(cn:aa):(cp afa (ce C fl k (ae9 cn) K))=Wd C fl k (cp JD (ce C fl k cn K)) (cp Eu (K .ret)):=by kernel_rfl
theorem aqv:(cp afa (ce C fl k alf K))=alg C fl k (cp Eu (K .ret)):=(aqu C fl k K Ro).trans (aj (fun L0=>Wd C fl k L0 _) (ahf C fl k K))
def hJ(p0 p1:Int)(h:AH):Option (Value×AH):=alg C fl k (fun y4 q=>some (vi y4,q)) p0 p1 h
theorem BP(p0 p1:Int)(h):bl C fl k sQ [vi p0,vi p1] h=hJ C fl k p0 p1 h:=Ca (aqv C fl k (aD _)) p0 p1 (by kernel_rfl) (by kernel_rfl)
def xN(t4:Sl):List Value:=un 4 (t4.v::un 28 [])
def G3:aa:=.seq (.region [oI 4 (.mv (.c (.slice none 0 0)))] []) (.ret)
def JE:List Value:=un 33 []
abbrev iZ(R:Type):=Int→Addr→Int→AH→Option R
def sR(t1:Int)(t2:Addr)(t5:Int):List Value:=un 1 (vi t1::vp t2::un 2 (vi t5::un 27 []))
def AY:aa:=.region [m 10 5,bc 11 .add 10 1,m 5 11] [10,11]
def MY(cn:aa):aa:=.seq (.seq (.region [m 7 5,m 8 1,cm 9 .lss 7 8] [7,8]) (.seq (.cond (.t 9) (kl [9]) (.seq (kl [1,2,5,9]) (.exit 0))) (.block 1 (.seq (.region [oI 12 (.load (.agg [.int .i64,.int .i64,.slice]) (.t 2)),m 13 1,m 14 5,oI 15 (.call (.f 147) [.t 12,.t 13,.t 14] (.one (.one .slice))),m 6 15] [12,13,14,15]) (.seq (.region [m 16 6,ln 17 16,m 18 1,bc 19 .sub 18 1,cm 20 .eql 17 19,m 21 20,.fc 21 true [qJ 22 (.load (.agg [.int .i64,.int .i64,.slice]) (.t 2)),qI 23 (.mv (.t 6)),qI 24 (.mv (.t 1)),qI 25 (.bin .sub .i64 (.t 24) (ci 2)),qI 26 (.dx 1 (.t 23) (.t 25)),qJ 27 (.load (.one (.int .i64)) (.t 26)),qI 28 (.mv (.t 5)),qI 29 (.call (.f 148) [.t 22,.t 27,.t 28] (.one (.one (.int .i64)))),qI 30 (.cmp .eql .i64 (.t 29) (ci 1))],oI 31 (.pick (.t 21) (.t 30) (.c (.bool false)))] [16,17,18,19,20,21,22,23,24,25,26,27,28,29,30]) (.cond (.t 31) (.seq (.region [m 32 6,m 4 32] [1,2,5,6,31,32]) (.ret)) (kl [6,31]))))))) cn
def G4:aa:=MY AY
def Rq:aa:=.seq (.block 0 (.loop G4)) G3
def afc(cn:aa):aa:=.seq (.seq (.region [oI 2 (.box (.t 0)),oI 4 (.mv (.c (.slice none 0 0)))] [0,4]) (.region [mc 5 1] [])) cn
def alh:aa:=afc Rq
def afd(aI aH:Int)(aK:Sl)(t1:Int):List Value:=.agg ⟨[vi aI,vi aH,vs aK]⟩::vi t1::un 31 []
def kj:ay:=⟨33,alh,[.tmp 4]⟩
theorem G5:okF Tryz.prog 114 kj=true:=by kernel_rfl
def Ev{R:Type}(C:Callee)(fl k:Nat)(kr:ak R):ar R:=fun h=>kr ⟨none,0,0⟩ h
theorem ZF:(cp JE (ce C fl k G3 K))=Ev C fl k (cp xN (K .ret)):=by kernel_rfl
def tQ{R:Type}(C:Callee)(fl k:Nat)(kn:iZ R)(e0:ar R)(kr:ak R):iZ R:=fun t1 t2 t5 h=>kn t1 t2 (bL (t5+1)) h
theorem SV:(cp sR (ce C fl k AY K))=tQ C fl k (cp sR (K .normal)) (cp JE (K (.exit 0))) (cp xN (K .ret)):=by kernel_rfl
def wx{R:Type}(C:Callee)(fl k:Nat)(kx:iZ R)(kn:iZ R)(e0:ar R)(kr:ak R):iZ R:=fun t1 t2 t5 h=>if decide (t5<t1)=true then aE .i64 h t2.block t2.off fun n1=>aE .i64 h t2.block (t2.off+1) fun n2=>bM h t2.block (t2.off+1+1) fun s3=>aC C fl fn.lz [.agg ⟨[vi n1,vi n2,vs s3]⟩,vi t1,vi t5] h fun v4 h5=>bB v4 fun s6=>if (((s6.l:Nat):Int)==bL (t1-1))=true then aE .i64 h5 t2.block t2.off fun n7=>aE .i64 h5 t2.block (t2.off+1) fun n8=>bM h5 t2.block (t2.off+1+1) fun s9=>idx 1 s6 (bL (t1-2)) fun TH=>aE .i64 h5 TH.block TH.off fun Cw=>aC C fl fn.eZ [.agg ⟨[vi n7,vi n8,vs s9]⟩,vi Cw,vi t5] h5 fun v12 uV=>asInt .i64 v12 fun DM=>if (DM==1)=true then kr s6 uV else kx t1 t2 t5 uV else kx t1 t2 t5 h5 else e0 h
def qV(kn:iZ R)(e0:ar R)(kr:ak R):iZ R:=wx C fl k (tQ C fl k kn e0 kr) kn e0 kr
theorem ZG(cn:aa):(cp sR (ce C fl k (MY cn) K))=wx C fl k (cp sR (ce C fl k cn K)) (cp sR (K .normal)) (cp JE (K (.exit 0))) (cp xN (K .ret)):=by kernel_rfl
theorem ZH:(cp sR (ce C fl k G4 K))=qV C fl k (cp sR (K .normal)) (cp JE (K (.exit 0))) (cp xN (K .ret)):=(ZG C fl k K AY).trans (aj (fun L0=>wx C fl k L0 _ _ _) (SV C fl k K))
def jm(kn:ar R)(kr:ak R):Nat→iZ R
 |0=>fun _ _ _ _=>none
 |m+1=>qV C fl k (jm kn kr m) kn kr
theorem MZ:∀m,(cp sR (aR m (bH C fl k G4 0 K)))=jm C fl k (cp JE (K .normal)) (cp xN (K .ret)) m
 |0=>by kernel_rfl
 |m+1=>mq (ZH C fl k _) (aj (fun L=>qV C fl k L _ _) (MZ m))
def afe(kr:ak R):iZ R:=jm C fl k (Ev C fl k kr) kr k
theorem ahg:(cp sR (ce C fl k Rq K))=afe C fl k (cp xN (K .ret)):=(ou (mw (MZ C fl k (bU C fl k G3 K)))).trans (aj (fun L=>jm C fl k L _ k) (oh (ZF C fl k K)))
def We{R:Type}(C:Callee)(fl k:Nat)(kx:iZ R)(kr:ak R):ki R:=fun aI aH aK t1 h=>cU h [vi aI,vi aH,vs aK] fun b15 NQ=>kx t1 ⟨b15,0,none⟩ 1 NQ
def ali(kr:ak R):ki R:=We C fl k (afe C fl k kr) kr
theorem aqw(cn:aa):(cp afd (ce C fl k (afc cn) K))=We C fl k (cp sR (ce C fl k cn K)) (cp xN (K .ret)):=by kernel_rfl
theorem aqx:(cp afd (ce C fl k alh K))=ali C fl k (cp xN (K .ret)):=(aqw C fl k K Rq).trans (aj (fun L0=>We C fl k L0 _) (ahg C fl k K))
def cC(ax aw:Int)(aA:Sl)(p1:Int)(h:AH):Option (Value×AH):=ali C fl k (fun y4 q=>some (vs y4,q)) ax aw aA p1 h
theorem uE(ax aw:Int)(aA:Sl)(p1:Int)(h):bl C fl k kj [.agg ⟨[vi ax,vi aw,vs aA]⟩,vi p1] h=cC C fl k ax aw aA p1 h:=NT (aqx C fl k (aD _)) ax aw aA p1 (by kernel_rfl) (by kernel_rfl)
def Ew(t4:Int):List Value:=un 4 (vi t4::un 14 [])
def G6:aa:=.seq (.region [oI 4 (.mv (ci (-1)))] []) (.ret)
def Wf:List Value:=un 19 []
def JF(t0:Sl)(t1:Value)(t7 t8:Int):List Value:=t0.v::t1::un 5 (vi t7::vi t8::un 10 [])
def G7:aa:=.seq (.region [cm 9 .lss 8 7] []) (.seq (.cond (.t 9) (kl [9]) (.seq (kl [0,1,7,8,9]) (.exit 0))) (.seq (.block 1 (.seq (.region [m 10 8,m 5 10] [10]) (.seq (.region [m 11 1,m 12 0,m 13 5,ia 14 1 12 13,ls 15 14,oI 16 (.call (.t 11) [.t 15] (.one (.one .bool)))] [11,12,13,14,15]) (.cond (.t 16) (.seq (.region [m 17 5,m 4 17] [0,1,5,7,8,16,17]) (.ret)) (kl [5,16]))))) (.region [bc 18 .add 8 1,m 8 18] [18])))
def Rr:aa:=.seq (.block 0 (.loop G7)) G6
def aff(cn:aa):aa:=.seq (.seq (.region [mc 4 0] [4]) (.region [m 6 0,ln 7 6,mc 8 0] [6])) cn
def alj:aa:=aff Rr
def afg(t0:Sl)(t1:Value):List Value:=t0.v::t1::un 17 []
def fI:ay:=⟨19,alj,[.tmp 4]⟩
theorem zo:okF Tryz.prog 115 fI=true:=by kernel_rfl
def Lv{R:Type}(C:Callee)(fl k:Nat)(kr:ae R):ar R:=fun h=>kr (-1) h
theorem ZI:(cp Wf (ce C fl k G6 K))=Lv C fl k (cp Ew (K .ret)):=by kernel_rfl
def qW{R:Type}(C:Callee)(fl k:Nat)(kn:oC R)(e0:ar R)(kr:ae R):oC R:=fun t0 t1 t7 t8 h=>if decide (t8<t7)=true then idx 1 t0 t8 fun p1=>bM h p1.block p1.off fun s2=>lX C fl t1 [vs s2] h fun v3 h4=>asBool v3 fun b5=>if b5=true then kr t8 h4 else kn t0 t1 t7 (bL (t8+1)) h4 else e0 h
theorem ZJ:(cp JF (ce C fl k G7 K))=qW C fl k (cp JF (K .normal)) (cp Wf (K (.exit 0))) (cp Ew (K .ret)):=by kernel_rfl
def zp(kn:ar R)(kr:ae R):Nat→oC R
 |0=>fun _ _ _ _ _=>none
 |m+1=>qW C fl k (zp kn kr m) kn kr
theorem M1:∀m,(cp JF (aR m (bH C fl k G7 0 K)))=zp C fl k (cp Wf (K .normal)) (cp Ew (K .ret)) m
 |0=>by kernel_rfl
 |m+1=>mq (ZJ C fl k _) (aj (fun L=>qW C fl k L _ _) (M1 m))
def Wg(kr:ae R):oC R:=zp C fl k (Lv C fl k kr) kr k
theorem ahh:(cp JF (ce C fl k Rr K))=Wg C fl k (cp Ew (K .ret)):=(ou (mw (M1 C fl k (bU C fl k G6 K)))).trans (aj (fun L=>zp C fl k L _ k) (oh (ZI C fl k K)))
def Wh{R:Type}(C:Callee)(fl k:Nat)(kx:oC R)(kr:ae R):IY R:=fun t0 t1 h=>kx t0 t1 ((t0.l:Nat):Int) 0 h
def alk(kr:ae R):IY R:=Wh C fl k (Wg C fl k kr) kr
theorem aqy(cn:aa):(cp afg (ce C fl k (aff cn) K))=Wh C fl k (cp JF (ce C fl k cn K)) (cp Ew (K .ret)):=by kernel_rfl
theorem aqz:(cp afg (ce C fl k alj K))=alk C fl k (cp Ew (K .ret)):=(aqy C fl k K Rr).trans (aj (fun L0=>Wh C fl k L0 _) (ahh C fl k K))
def dB(p0:Sl)(p1:Value)(h:AH):Option (Value×AH):=alk C fl k (fun y4 q=>some (vi y4,q)) p0 p1 h
theorem mB(p0:Sl)(p1:Value)(h):bl C fl k fI [vs p0,p1] h=dB C fl k p0 p1 h:=Ca (aqz C fl k (aD _)) p0 p1 (by kernel_rfl) (by kernel_rfl)
def aqA(t3:Bool):List Value:=un 3 (.bool t3::un 5 [])
def alm:aa:=.seq (.region [oI 3 (.mv (.c (.bool false)))] [3]) (.seq (.region [m 4 0,li 5 1,ia 6 1 4 5,li 7 6,ck 8 .neq 7 0,m 3 8] [0,1,4,5,6,7,8]) (.ret))
abbrev aqB(R:Type):=Sl→Addr→AH→Option R
def aqC(t0:Sl)(t1:Addr):List Value:=t0.v::vp t1::un 7 []
def gG:ay:=⟨9,alm,[.tmp 3]⟩
theorem AZ:okF Tryz.prog 116 gG=true:=by kernel_rfl
def aln{R:Type}(C:Callee)(fl k:Nat)(kr:au R):aqB R:=fun t0 t1 h=>aE .i64 h t1.block t1.off fun n1=>idx 1 t0 n1 fun p2=>aE .i64 h p2.block p2.off fun n3=>kr (n3 !=0) h
theorem aqD:(cp aqC (ce C fl k alm K))=aln C fl k (cp aqA (K .ret)):=by kernel_rfl
def cH(p0:Sl)(p1:Addr)(h:AH):Option (Value×AH):=aln C fl k (fun y3 q=>some (.bool y3,q)) p0 p1 h
theorem nQ(p0:Sl)(p1:Addr)(h):bl C fl k gG [vs p0,.pointer (some p1)] h=cH C fl k p0 p1 h:=Ca (aqD C fl k (aD _)) p0 p1 (by kernel_rfl) (by kernel_rfl)
def aqE(t6 t7:Int):List Value:=un 6 (vi t6::vi t7::un 15 [])
def alo:aa:=.seq (.region [mc 6 0,mc 7 0] [6,7]) (.seq (.region [m 11 0,m 12 2,oI 13 (.call (.f 139) [.t 11,.t 12] (.jo [.one (.int .i64),.one (.int .i64)])),m 10 13,ex 14 10 0,ex 15 10 1,m 8 14,m 9 15] [2,10,11,12,13,14,15]) (.seq (.region [m 16 9,ck 17 .neq 16 0] [16]) (.seq (.cond (.t 17) (.seq (.region [m 18 9,mc 6 0,m 7 18] [0,1,8,9,17,18]) (.ret)) (kl [9,17])) (.seq (.region [m 19 0,m 20 1,m 21 8,oI 22 (.call (.f 120) [.t 19,.t 20,.t 21] (.one (.one (.int .i64)))),m 6 22,mc 7 0] [0,1,8,19,20,21,22]) (.ret)))))
abbrev xO(R:Type):=OA→Int→Int→AH→Option R
def aqF(t0:OA)(t1 t2:Int):List Value:=vn t0::vi t1::vi t2::un 20 []
def oU:ay:=⟨23,alo,[.tmp 6,.tmp 7]⟩
theorem Ol:okF Tryz.prog 117 oU=true:=by kernel_rfl
def alp{R:Type}(C:Callee)(fl k:Nat)(kr:gF R):xO R:=fun t0 t1 t2 h=>aC C fl fn.hX [.pointer t0,vi t2] h fun v1 h2=>bj v1 fun l3=>aG l3 fun v4 l5=>asInt .i64 v4 fun n6=>aG l5 fun v7 l8=>asInt .i64 v7 fun n9=>ch l8 (if (n9 !=0)=true then kr 0 n9 h2 else aC C fl fn.dM [.pointer t0,vi t1,vi n6] h2 fun v10 mI=>asInt .i64 v10 fun Cs=>kr Cs 0 mI)
theorem aqG:(cp aqF (ce C fl k alo K))=alp C fl k (cp aqE (K .ret)):=by kernel_rfl
def jz(p0:OA)(p1 p2:Int)(h:AH):Option (Value×AH):=alp C fl k (fun y6 y7 q=>some (.tuple ⟨[vi y6,vi y7]⟩,q)) p0 p1 p2 h
theorem zq(p0:OA)(p1 p2:Int)(h):bl C fl k oU [.pointer p0,vi p1,vi p2] h=jz C fl k p0 p1 p2 h:=yV (aqG C fl k (aD _)) p0 p1 p2 (by kernel_rfl) (by kernel_rfl)
def aqH(t2:Sl):List Value:=un 2 (t2.v::un 5 [])
def alq:aa:=.seq (.region [oI 2 (.mv (.c (.slice none 0 0)))] [2]) (.seq (.region [m 3 0,oI 4 (.Fq false (.t 3))] [3]) (.seq (.cond (.t 4) (.seq (.region [oI 2 (.mv (.c (.slice none 0 0)))] [0,4]) (.ret)) (kl [4])) (.seq (.region [oI 5 (.aQ 0 [] []),m 6 0,oI 7 (.append 1 8 (.t 5) (.t 6)),m 2 7] [0,5,6,7]) (.ret))))
def aqI(t0:Sl):List Value:=t0.v::un 7 []
def oV:ay:=⟨8,alq,[.tmp 2]⟩
theorem Om:okF Tryz.prog 118 oV=true:=by kernel_rfl
def ZK{R:Type}(C:Callee)(fl k:Nat)(kr:ak R):ak R:=fun t0 h=>if t0.a.isNone=true then kr ⟨none,0,0⟩ h else cU h [] fun b1 h2=>fW fl 1 8 ⟨(some ⟨b1,0,none⟩),0,0⟩ t0 h2 fun s3 h4=>kr s3 h4
theorem aqJ:(cp aqI (ce C fl k alq K))=ZK C fl k (cp aqH (K .ret)):=by kernel_rfl
def dL(p0:Sl)(h:AH):Option (Value×AH):=ZK C fl k (fun y2 q=>some (vs y2,q)) p0 h
theorem lM(p0:Sl)(h):bl C fl k oV [vs p0] h=dL C fl k p0 h:=acL (aqJ C fl k (aD _)) p0 (by kernel_rfl) (by kernel_rfl)
def aqK(t6:Int):List Value:=un 6 (vi t6::un 6 [])
def alr:aa:=.seq (.region [mc 6 0] [6]) (.seq (.region [m 7 0,m 8 1,m 9 0,m 10 2,oI 11 (.call (.f 104) [.t 9,.t 10] (.one (.one (.int .i64)))),oI 12 (.call (.f 149) [.t 7,.t 8,.t 11] (.one (.one (.int .i64)))),m 6 12] [0,1,2,7,8,9,10,11,12]) (.ret))
def aqL(t0:OA)(t1 t2:Int):List Value:=vn t0::vi t1::vi t2::un 10 []
def oW:ay:=⟨13,alr,[.tmp 6]⟩
theorem On:okF Tryz.prog 119 oW=true:=by kernel_rfl
def als{R:Type}(C:Callee)(fl k:Nat)(kr:ae R):xO R:=fun t0 t1 t2 h=>aC C fl fn.eO [.pointer t0,vi t2] h fun v1 h2=>asInt .i64 v1 fun n3=>aC C fl fn.hZ [.pointer t0,vi t1,vi n3] h2 fun v4 h5=>asInt .i64 v4 fun n6=>kr n6 h5
theorem aqM:(cp aqL (ce C fl k alr K))=als C fl k (cp aqK (K .ret)):=by kernel_rfl
def jA(p0:OA)(p1 p2:Int)(h:AH):Option (Value×AH):=als C fl k (fun y6 q=>some (vi y6,q)) p0 p1 p2 h
theorem zr(p0:OA)(p1 p2:Int)(h):bl C fl k oW [.pointer p0,vi p1,vi p2] h=jA C fl k p0 p1 p2 h:=yV (aqM C fl k (aD _)) p0 p1 p2 (by kernel_rfl) (by kernel_rfl)
def aqN(t6:Int):List Value:=un 6 (vi t6::un 39 [])
def alu:aa:=.seq (.region [mc 6 0] [6]) (.seq (.region [m 7 0,m 8 1,oI 9 (.call (.f 144) [.t 7,.t 8] (.one (.one (.int .i64)))),m 10 0,m 11 2,oI 12 (.call (.f 144) [.t 10,.t 11] (.one (.one (.int .i64)))),m 1 9,m 2 12] [7,8,9,10,11,12]) (.seq (.region [m 13 1,ck 14 .eql 13 0,m 15 14,.fc 15 false [qI 16 (.mv (.t 2)),qI 17 (.cmp .eql .i64 (.t 16) (ci 0))],oI 18 (.pick (.t 15) (.c (.bool true)) (.t 17))] [13,14,15,16,17]) (.seq (.cond (.t 18) (.seq (.region [mc 6 0] [0,1,2,18]) (.ret)) (kl [18])) (.seq (.region [m 19 0,oI 20 (.cg (.t 19)),fa 21 4 20,lt 22 21,m 23 0,oI 24 (.cg (.t 23)),fa 25 5 24,lt 26 25,m 27 1,ia 28 1 26 27,lj 29 28,m 30 0,oI 31 (.cg (.t 30)),fa 32 5 31,lt 33 32,m 34 2,ia 35 1 33 34,lj 36 35,bb 37 .add 29 36,m 38 0,oI 39 (.cg (.t 38)),fa 40 3 39,lj 41 40,bc 42 .sub 41 1,bb 43 .rem 37 42,ia 44 1 22 43,li 45 44,m 6 45] [0,1,2,19,20,21,22,23,24,25,26,27,28,29,30,31,32,33,34,35,36,37,38,39,40,41,42,43,44,45]) (.ret)))))
def aqO(t0:OA)(t1 t2:Int):List Value:=vn t0::vi t1::vi t2::un 43 []
def oX:ay:=⟨46,alu,[.tmp 6]⟩
theorem Oo:okF Tryz.prog 120 oX=true:=by kernel_rfl
def alv{R:Type}(C:Callee)(fl k:Nat)(kr:ae R):xO R:=fun t0 t1 t2 h=>aC C fl fn.eY [.pointer t0,vi t1] h fun v1 h2=>asInt .i64 v1 fun n3=>aC C fl fn.eY [.pointer t0,vi t2] h2 fun v4 h5=>asInt .i64 v4 fun n6=>if (n3==0)=false then if (n6==0)=true then kr 0 h5 else cQ (.pointer t0) fun p7=>bM h5 p7.block (p7.off+4) fun s8=>cQ (.pointer t0) fun p9=>bM h5 p9.block (p9.off+5) fun s10=>idx 1 s10 n3 fun p11=>aE .i64 h5 p11.block p11.off fun Cs=>cQ (.pointer t0) fun p13=>bM h5 p13.block (p13.off+5) fun s14=>idx 1 s14 n6 fun XH=>aE .i64 h5 XH.block XH.off fun KL=>cQ (.pointer t0) fun p17=>aE .i64 h5 p17.block (p17.off+3) fun n18=>jd .rem .i64 (bL (Cs+KL)) (bL (n18-1)) fun PY=>idx 1 s8 PY fun p20=>aE .i64 h5 p20.block p20.off fun n21=>kr n21 h5 else kr 0 h5
theorem aqP:(cp aqO (ce C fl k alu K))=alv C fl k (cp aqN (K .ret)):=by kernel_rfl
def dM(p0:OA)(p1 p2:Int)(h:AH):Option (Value×AH):=alv C fl k (fun y6 q=>some (vi y6,q)) p0 p1 p2 h
theorem zt(p0:OA)(p1 p2:Int)(h):bl C fl k oX [.pointer p0,vi p1,vi p2] h=dM C fl k p0 p1 p2 h:=yV (aqP C fl k (aD _)) p0 p1 p2 (by kernel_rfl) (by kernel_rfl)
def Ex(t6:Bool):List Value:=un 6 (.bool t6::un 25 [])
def G8:aa:=.seq (.region [oI 6 (.mv (.c (.bool true)))] []) (.ret)
def Wi:List Value:=un 32 []
abbrev JG(R:Type):=Sl→Value→Sl→Int→Int→AH→Option R
def JH(t1:Sl)(t2:Value)(t15:Sl)(t16 t17:Int):List Value:=un 1 (t1.v::t2::un 12 (t15.v::vi t16::vi t17::un 14 []))
def G9:aa:=.seq (.region [cm 18 .lss 17 16] []) (.seq (.cond (.t 18) (kl [18]) (.seq (kl [1,2,15,16,17,18]) (.exit 0))) (.seq (.block 1 (.seq (.region [m 19 17,ia 20 1 15 17,ls 21 20,m 7 19,m 8 21] [19,20,21]) (.seq (.region [m 22 1,m 23 7,ia 24 1 22 23,ls 25 24,m 9 25] [7,22,23,24,25]) (.seq (.region [m 26 2,m 27 8,m 28 9,oI 29 (.call (.t 26) [.t 27,.t 28] (.one (.one .bool))),no 30 29] [8,9,26,27,28,29]) (.cond (.t 30) (.seq (.region [oI 6 (.mv (.c (.bool false)))] [1,2,15,16,17,30]) (.ret)) (kl [30])))))) (.region [bc 31 .add 17 1,m 17 31] [31])))
def Rs:aa:=.seq (.block 0 (.loop G9)) G8
def afh(cn:aa):aa:=.seq (.seq (.region [oI 6 (.mv (.c (.bool false)))] [6]) (.seq (.region [m 10 0,ln 11 10,m 12 1,ln 13 12,cm 14 .neq 11 13] [10,11,12,13]) (.seq (.cond (.t 14) (.seq (.region [oI 6 (.mv (.c (.bool false)))] [0,1,2,14]) (.ret)) (kl [14])) (.region [m 15 0,ln 16 15,mc 17 0] [0])))) cn
def alw:aa:=afh Rs
abbrev afi(R:Type):=Sl→Sl→Value→AH→Option R
def afj(t0 t1:Sl)(t2:Value):List Value:=t0.v::t1.v::t2::un 29 []
def jJ:ay:=⟨32,alw,[.tmp 6]⟩
theorem E3:okF Tryz.prog 123 jJ=true:=by kernel_rfl
def Ey{R:Type}(C:Callee)(fl k:Nat)(kr:au R):ar R:=fun h=>kr true h
theorem ZL:(cp Wi (ce C fl k G8 K))=Ey C fl k (cp Ex (K .ret)):=by kernel_rfl
def qX{R:Type}(C:Callee)(fl k:Nat)(kn:JG R)(e0:ar R)(kr:au R):JG R:=fun t1 t2 t15 t16 t17 h=>if decide (t17<t16)=true then idx 1 t15 t17 fun p1=>bM h p1.block p1.off fun s2=>idx 1 t1 t17 fun p3=>bM h p3.block p3.off fun s4=>lX C fl t2 [vs s2,vs s4] h fun v5 h6=>asBool v5 fun b7=>if (!b7)=true then kr false h6 else kn t1 t2 t15 t16 (bL (t17+1)) h6 else e0 h
theorem ZM:(cp JH (ce C fl k G9 K))=qX C fl k (cp JH (K .normal)) (cp Wi (K (.exit 0))) (cp Ex (K .ret)):=by kernel_rfl
def zu(kn:ar R)(kr:au R):Nat→JG R
 |0=>fun _ _ _ _ _ _=>none
 |m+1=>qX C fl k (zu kn kr m) kn kr
theorem M3:∀m,(cp JH (aR m (bH C fl k G9 0 K)))=zu C fl k (cp Wi (K .normal)) (cp Ex (K .ret)) m
 |0=>by kernel_rfl
 |m+1=>mq (ZM C fl k _) (aj (fun L=>qX C fl k L _ _) (M3 m))
def Wj(kr:au R):JG R:=zu C fl k (Ey C fl k kr) kr k
theorem ahi:(cp JH (ce C fl k Rs K))=Wj C fl k (cp Ex (K .ret)):=(ou (mw (M3 C fl k (bU C fl k G8 K)))).trans (aj (fun L=>zu C fl k L _ k) (oh (ZL C fl k K)))
def Wk{R:Type}(C:Callee)(fl k:Nat)(kx:JG R)(kr:au R):afi R:=fun t0 t1 t2 h=>if (((t0.l:Nat):Int) !=((t1.l:Nat):Int))=true then kr false h else kx t1 t2 t0 ((t0.l:Nat):Int) 0 h
def alx(kr:au R):afi R:=Wk C fl k (Wj C fl k kr) kr
theorem aqQ(cn:aa):(cp afj (ce C fl k (afh cn) K))=Wk C fl k (cp JH (ce C fl k cn K)) (cp Ex (K .ret)):=by kernel_rfl
theorem aqR:(cp afj (ce C fl k alw K))=alx C fl k (cp Ex (K .ret)):=(aqQ C fl k K Rs).trans (aj (fun L0=>Wk C fl k L0 _) (ahi C fl k K))
def fR(p0 p1:Sl)(p2:Value)(h:AH):Option (Value×AH):=alx C fl k (fun y6 q=>some (.bool y6,q)) p0 p1 p2 h
theorem tR(p0 p1:Sl)(p2:Value)(h):bl C fl k jJ [vs p0,vs p1,p2] h=fR C fl k p0 p1 p2 h:=yV (aqR C fl k (aD _)) p0 p1 p2 (by kernel_rfl) (by kernel_rfl)
def Ez(t4:Bool):List Value:=un 4 (.bool t4::un 21 [])
def Ha:aa:=.seq (.region [oI 4 (.mv (.c (.bool true)))] []) (.ret)
def Wl:List Value:=un 26 []
def JI(t0 t1:Sl)(t12 t13:Int):List Value:=t0.v::t1.v::un 10 (vi t12::vi t13::un 12 [])
def Hb:aa:=.seq (.region [cm 14 .lss 13 12] []) (.seq (.cond (.t 14) (kl [14]) (.seq (kl [0,1,12,13,14]) (.exit 0))) (.seq (.block 1 (.seq (.region [m 15 13,m 5 15] [15]) (.seq (.region [m 16 0,m 17 5,ia 18 1 16 17,lj 19 18,m 20 1,m 21 5,ia 22 1 20 21,lj 23 22,cm 24 .neq 19 23] [5,16,17,18,19,20,21,22,23]) (.cond (.t 24) (.seq (.region [oI 4 (.mv (.c (.bool false)))] [0,1,12,13,24]) (.ret)) (kl [24]))))) (.region [bc 25 .add 13 1,m 13 25] [25])))
def Rt:aa:=.seq (.block 0 (.loop Hb)) Ha
def afk(cn:aa):aa:=.seq (.seq (.region [oI 4 (.mv (.c (.bool false)))] [4]) (.seq (.region [m 6 0,ln 7 6,m 8 1,ln 9 8,cm 10 .neq 7 9] [6,7,8,9]) (.seq (.cond (.t 10) (.seq (.region [oI 4 (.mv (.c (.bool false)))] [0,1,10]) (.ret)) (kl [10])) (.region [m 11 0,ln 12 11,mc 13 0] [11])))) cn
def aly:aa:=afk Rt
def afl(t0 t1:Sl):List Value:=t0.v::t1.v::un 24 []
def oY:ay:=⟨26,aly,[.tmp 4]⟩
theorem Oq:okF Tryz.prog 124 oY=true:=by kernel_rfl
def EA{R:Type}(C:Callee)(fl k:Nat)(kr:au R):ar R:=fun h=>kr true h
theorem ZN:(cp Wl (ce C fl k Ha K))=EA C fl k (cp Ez (K .ret)):=by kernel_rfl
def qY{R:Type}(C:Callee)(fl k:Nat)(kn:ic R)(e0:ar R)(kr:au R):ic R:=fun t0 t1 t12 t13 h=>if decide (t13<t12)=true then idx 1 t0 t13 fun p1=>aE .i64 h p1.block p1.off fun n2=>idx 1 t1 t13 fun p3=>aE .i64 h p3.block p3.off fun n4=>if (n2 !=n4)=true then kr false h else kn t0 t1 t12 (bL (t13+1)) h else e0 h
theorem ZO:(cp JI (ce C fl k Hb K))=qY C fl k (cp JI (K .normal)) (cp Wl (K (.exit 0))) (cp Ez (K .ret)):=by kernel_rfl
def zw(kn:ar R)(kr:au R):Nat→ic R
 |0=>fun _ _ _ _ _=>none
 |m+1=>qY C fl k (zw kn kr m) kn kr
theorem M4:∀m,(cp JI (aR m (bH C fl k Hb 0 K)))=zw C fl k (cp Wl (K .normal)) (cp Ez (K .ret)) m
 |0=>by kernel_rfl
 |m+1=>mq (ZO C fl k _) (aj (fun L=>qY C fl k L _ _) (M4 m))
def Wm(kr:au R):ic R:=zw C fl k (EA C fl k kr) kr k
theorem ahj:(cp JI (ce C fl k Rt K))=Wm C fl k (cp Ez (K .ret)):=(ou (mw (M4 C fl k (bU C fl k Ha K)))).trans (aj (fun L=>zw C fl k L _ k) (oh (ZN C fl k K)))
def Wn{R:Type}(C:Callee)(fl k:Nat)(kx:ic R)(kr:au R):c8 R:=fun t0 t1 h=>if (((t0.l:Nat):Int) !=((t1.l:Nat):Int))=true then kr false h else kx t0 t1 ((t0.l:Nat):Int) 0 h
def alz(kr:au R):c8 R:=Wn C fl k (Wm C fl k kr) kr
theorem aqS(cn:aa):(cp afl (ce C fl k (afk cn) K))=Wn C fl k (cp JI (ce C fl k cn K)) (cp Ez (K .ret)):=by kernel_rfl
theorem aqT:(cp afl (ce C fl k aly K))=alz C fl k (cp Ez (K .ret)):=(aqS C fl k K Rt).trans (aj (fun L0=>Wn C fl k L0 _) (ahj C fl k K))
def hS(p0 p1:Sl)(h:AH):Option (Value×AH):=alz C fl k (fun y4 q=>some (.bool y4,q)) p0 p1 h
theorem zx(p0 p1:Sl)(h):bl C fl k oY [vs p0,vs p1] h=hS C fl k p0 p1 h:=Ca (aqT C fl k (aD _)) p0 p1 (by kernel_rfl) (by kernel_rfl)
def Pv(t6 t7:Sl):List Value:=un 6 (t6.v::t7.v::un 129 [])
def Hc:aa:=.seq (.region [m 135 8,m 136 9,m 6 135,m 7 136] [8,9,135,136]) (.ret)
def A0(t8 t9:Sl):List Value:=un 8 (t8.v::t9.v::un 127 [])
abbrev bz(R:Type):=Int→Addr→Sl→Sl→Int→Int→AH→Option R
def bC(t2:Int)(t3:Addr)(t8 t9:Sl)(t10 t11:Int):List Value:=un 2 (vi t2::vp t3::un 4 (t8.v::t9.v::vi t10::vi t11::un 125 []))
def oZ:aa:=.region [m 25 11,bc 26 .add 25 1,m 11 26] [25,26]
def iD:aa:=.seq (.region [m 129 9,m 130 11,oI 131 (.aQ 1 [.int .i64 0] [(0,1,.t 130)]),oI 132 (.append 1 8 (.t 129) (.t 131)),m 9 132] [129,130,131,132]) (.region [m 133 10,bc 134 .add 133 1,m 10 134] [133,134])
abbrev eT(R:Type):=Int→Addr→Sl→Sl→Int→Int→Int→AH→Option R
def sS(t2:Int)(t3:Addr)(t8 t9:Sl)(t10 t11 t13:Int):List Value:=un 2 (vi t2::vp t3::un 4 (t8.v::t9.v::vi t10::vi t11::un 1 (vi t13::un 123 [])))
def fJ:aa:=.region [m 92 13,bc 93 .add 92 1,m 13 93] [92,93]
def lY(cn:aa):aa:=.seq (.seq (.region [m 88 13,m 89 8,ln 90 89,cm 91 .lss 88 90] [88,89,90]) (.seq (.cond (.t 91) (kl [91]) (.seq (kl [13,91]) (.exit 4))) (.block 5 (.seq (.region [m 94 13,m 95 10,cm 96 .neq 94 95,m 97 96,.fc 97 true [qI 98 (.mv (.t 8)),qI 99 (.mv (.t 13)),qI 100 (.dx 1 (.t 98) (.t 99)),qI 101 (.load (.one .slice) (.t 100)),qI 102 (.mv (.t 11)),qI 103 (.dx 1 (.t 101) (.t 102)),qI 104 (.load (.one (.int .i64)) (.t 103)),qI 105 (.cmp .neq .i64 (.t 104) (ci 0))],oI 106 (.pick (.t 97) (.t 105) (.c (.bool false)))] [94,95,96,97,98,99,100,101,102,103,104,105]) (.cond (.t 106) (.region [m 107 8,m 108 13,oJ 109 (.load (.agg [.int .i64,.int .i64,.slice]) (.t 3)),m 110 8,m 111 13,ia 112 1 110 111,lt 113 112,oJ 114 (.load (.agg [.int .i64,.int .i64,.slice]) (.t 3)),m 115 8,m 116 13,ia 117 1 115 116,lt 118 117,m 119 11,ia 120 1 118 119,lj 121 120,oJ 122 (.call (.f 126) [.t 114,.t 121] (.one (.one (.int .i64)))),m 123 8,m 124 10,ia 125 1 123 124,lt 126 125,oI 127 (.call (.f 155) [.t 109,.t 113,.t 122,.t 126] (.one (.one .slice))),ia 128 1 107 108,sI 1 128 127] [106,107,108,109,110,111,112,113,114,115,116,117,118,119,120,121,122,123,124,125,126,127,128]) (kl [106])))))) cn
def iE:aa:=lY fJ
def jK:aa:=.seq (.block 4 (.loop iE)) iD
def pW(cn:aa):aa:=.seq (.region [mc 13 0] []) cn
def kQ:aa:=pW jK
def uF(cn:aa):aa:=.seq (.seq (.region [m 44 12,m 45 8,ln 46 45,cm 47 .eql 44 46] [44,45,46]) (.seq (.cond (.t 47) (.seq (kl [12,47]) (.exit 1)) (kl [47])) (.seq (.region [m 48 8,m 49 10,m 50 8,m 51 12,m 52 8,m 53 12,ia 54 1 52 53,lt 55 54,m 56 8,m 57 10,ia 58 1 56 57,lt 59 58,ia 60 1 48 49,sI 1 60 55,ia 61 1 50 51,sI 1 61 59] [12,48,49,50,51,52,53,54,55,56,57,58,59,60,61]) (.seq (.region [m 62 8,m 63 10,ia 64 1 62 63,ls 65 64,m 66 11,ia 67 1 65 66,li 68 67,ck 69 .neq 68 1] [62,63,64,65,66,67,68]) (.cond (.t 69) (.region [m 70 8,m 71 10,oJ 72 (.load (.agg [.int .i64,.int .i64,.slice]) (.t 3)),oJ 73 (.load (.agg [.int .i64,.int .i64,.slice]) (.t 3)),m 74 8,m 75 10,ia 76 1 74 75,lt 77 76,m 78 11,ia 79 1 77 78,lj 80 79,oJ 81 (.call (.f 154) [.t 73,.t 80] (.one (.one (.int .i64)))),m 82 8,m 83 10,ia 84 1 82 83,lt 85 84,oI 86 (.call (.f 153) [.t 72,.t 81,.t 85] (.one (.one .slice))),ia 87 1 70 71,sI 1 87 86] [69,70,71,72,73,74,75,76,77,78,79,80,81,82,83,84,85,86,87]) (kl [69])))))) cn
def m4:aa:=uF kQ
def vb(t2:Int)(t3:Addr)(t8 t9:Sl)(t10 t11 t12:Int):List Value:=un 2 (vi t2::vp t3::un 4 (t8.v::t9.v::vi t10::vi t11::vi t12::un 124 []))
def m6:aa:=.seq (.region [m 28 12,m 29 8,ln 30 29,cm 31 .lss 28 30,m 32 31,.fc 32 true [qI 33 (.mv (.t 8)),qI 34 (.mv (.t 12)),qI 35 (.dx 1 (.t 33) (.t 34)),qI 36 (.load (.one .slice) (.t 35)),qI 37 (.mv (.t 11)),qI 38 (.dx 1 (.t 36) (.t 37)),qI 39 (.load (.one (.int .i64)) (.t 38)),qI 40 (.cmp .eql .i64 (.t 39) (ci 0))],oI 41 (.pick (.t 32) (.t 40) (.c (.bool false)))] [28,29,30,31,32,33,34,35,36,37,38,39,40]) (.seq (.cond (.t 41) (kl [41]) (.seq (kl [41]) (.exit 2))) (.block 3 (.region [m 42 12,bc 43 .add 42 1,m 12 43] [42,43])))
def qZ:aa:=.seq (.block 2 (.loop m6)) m4
def BQ(cn:aa):aa:=.seq (.region [m 27 10,m 12 27] [27]) cn
def wy:aa:=BQ qZ
def Fz(cn vw:aa):aa:=.seq (.block 1 vw) cn
def A1:aa:=Fz oZ wy
def M5(cn:aa):aa:=.seq (.seq (.region [m 16 11,m 17 2,cm 18 .lss 16 17,m 19 18,.fc 19 true [qI 20 (.mv (.t 10)),qI 21 (.mv (.t 8)),qI 22 (.len (.t 21)),qI 23 (.cmp .lss .i64 (.t 20) (.t 22))],oI 24 (.pick (.t 19) (.t 23) (.c (.bool false)))] [16,17,18,19,20,21,22,23]) (.cond (.t 24) (kl [24]) (.seq (kl [2,3,10,11,24]) (.exit 0)))) cn
def Hd:aa:=M5 A1
def Ru:aa:=.seq (.block 0 (.loop Hd)) Hc
def afm(cn:aa):aa:=.seq (.seq (.region [oI 3 (.box (.t 0)),oI 6 (.mv (.c (.slice none 0 0))),oI 7 (.mv (.c (.slice none 0 0)))] [0,6,7]) (.seq (.region [m 14 1,oI 15 (.call (.f 152) [.t 14] (.one (.one .slice))),m 8 15] [1,14,15]) (.seq (.region [oI 9 (.mv (.c (.slice none 0 0)))] []) (.seq (.region [mc 10 0] []) (.region [mc 11 0] []))))) cn
def alA:aa:=afm Ru
def afn(aI aH:Int)(aK t1:Sl)(t2:Int):List Value:=.agg ⟨[vi aI,vi aH,vs aK]⟩::t1.v::vi t2::un 134 []
def km:ay:=⟨137,alA,[.tmp 6,.tmp 7]⟩
theorem He:okF Tryz.prog 125 km=true:=by kernel_rfl
def Lw{R:Type}(C:Callee)(fl k:Nat)(kr:c8 R):c8 R:=fun t8 t9 h=>kr t8 t9 h
theorem ZP:(cp A0 (ce C fl k Hc K))=Lw C fl k (cp Pv (K .ret)):=by kernel_rfl
def dp{R:Type}(C:Callee)(fl k:Nat)(kn:bz R)(e0:c8 R):bz R:=fun t2 t3 t8 t9 t10 t11 h=>kn t2 t3 t8 t9 t10 (bL (t11+1)) h
theorem uh:(cp bC (ce C fl k oZ K))=dp C fl k (cp bC (K .normal)) (cp A0 (K (.exit 0))):=by kernel_rfl
def fk{R:Type}(C:Callee)(fl k:Nat)(kn:bz R)(e1:bz R):bz R:=fun t2 t3 t8 t9 t10 t11 h=>cU h [vi t11] fun b1 h2=>fW fl 1 8 t9 ⟨(some ⟨b1,0,none⟩),1,1⟩ h2 fun s3 h4=>kn t2 t3 t8 s3 (bL (t10+1)) t11 h4
theorem xk:(cp bC (ce C fl k iD K))=fk C fl k (cp bC (K .normal)) (cp bC (K (.exit 1))):=by kernel_rfl
def cR{R:Type}(C:Callee)(fl k:Nat)(kn:eT R)(e4:bz R):eT R:=fun t2 t3 t8 t9 t10 t11 t13 h=>kn t2 t3 t8 t9 t10 t11 (bL (t13+1)) h
theorem ui:(cp sS (ce C fl k fJ K))=cR C fl k (cp sS (K .normal)) (cp bC (K (.exit 4))):=by kernel_rfl
def dq{R:Type}(C:Callee)(fl k:Nat)(kx:eT R)(kn:eT R)(e4:bz R):eT R:=fun t2 t3 t8 t9 t10 t11 t13 h=>if decide (t13<((t8.l:Nat):Int))=true then if (t13 !=t10)=true then idx 1 t8 t13 fun p5=>bM h p5.block p5.off fun s6=>idx 1 s6 t11 fun p7=>aE .i64 h p7.block p7.off fun n8=>if (n8 !=0)=true then aE .i64 h t3.block t3.off fun n9=>aE .i64 h t3.block (t3.off+1) fun ux=>bM h t3.block (t3.off+1+1) fun KK=>idx 1 t8 t13 fun Mc=>bM h Mc.block Mc.off fun s13=>aE .i64 h t3.block t3.off fun DM=>aE .i64 h t3.block (t3.off+1) fun TI=>bM h t3.block (t3.off+1+1) fun Sk=>idx 1 t8 t13 fun p17=>bM h p17.block p17.off fun s18=>idx 1 s18 t11 fun p19=>aE .i64 h p19.block p19.off fun n20=>aC C h.next fn.qi [.agg ⟨[vi DM,vi TI,vs Sk]⟩,vi n20] h fun v21 h22=>asInt .i64 v21 fun n23=>idx 1 t8 t10 fun p24=>bM h22 p24.block p24.off fun s25=>aC C fl fn.nI [.agg ⟨[vi n9,vi ux,vs KK]⟩,vs s13,vi n23,vs s25] h22 fun v26 h27=>bB v26 fun s28=>idx 1 t8 t13 fun p29=>st fl h27 p29 [vs s28] fun h30=>kx t2 t3 t8 t9 t10 t11 t13 h30 else kx t2 t3 t8 t9 t10 t11 t13 h else kx t2 t3 t8 t9 t10 t11 t13 h else e4 t2 t3 t8 t9 t10 t11 h
def cj(kn:eT R)(e4:bz R):eT R:=dq C fl k (cR C fl k kn e4) kn e4
theorem xm(cn:aa):(cp sS (ce C fl k (lY cn) K))=dq C fl k (cp sS (ce C fl k cn K)) (cp sS (K .normal)) (cp bC (K (.exit 4))):=by kernel_rfl
theorem xn:(cp sS (ce C fl k iE K))=cj C fl k (cp sS (K .normal)) (cp bC (K (.exit 4))):=(xm C fl k K fJ).trans (aj (fun L0=>dq C fl k L0 _ _) (ui C fl k K))
def bP(kn:bz R):Nat→eT R
 |0=>fun _ _ _ _ _ _ _ _=>none
 |m+1=>cj C fl k (bP kn m) kn
theorem lZ:∀m,(cp sS (aR m (bH C fl k iE 4 K)))=bP C fl k (cp bC (K .normal)) m
 |0=>by kernel_rfl
 |m+1=>mq (xn C fl k _) (aj (fun L=>cj C fl k L _) (lZ m))
def ka(kn:bz R)(e1:bz R):eT R:=bP C fl k (fk C fl k kn e1) k
theorem zy:(cp sS (ce C fl k jK K))=ka C fl k (cp bC (K .normal)) (cp bC (K (.exit 1))):=(ou (mw (lZ C fl k (bU C fl k iD K)))).trans (aj (fun L=>bP C fl k L k) (oh (xk C fl k K)))
def ie{R:Type}(C:Callee)(fl k:Nat)(kx:eT R)(kn:bz R)(e1:bz R):bz R:=fun t2 t3 t8 t9 t10 t11 h=>kx t2 t3 t8 t9 t10 t11 0 h
def ja(kn:bz R)(e1:bz R):bz R:=ie C fl k (ka C fl k kn e1) kn e1
theorem Cd(cn:aa):(cp bC (ce C fl k (pW cn) K))=ie C fl k (cp sS (ce C fl k cn K)) (cp bC (K .normal)) (cp bC (K (.exit 1))):=by kernel_rfl
theorem Ce:(cp bC (ce C fl k kQ K))=ja C fl k (cp bC (K .normal)) (cp bC (K (.exit 1))):=(Cd C fl k K jK).trans (aj (fun L0=>ie C fl k L0 _ _) (zy C fl k K))
def jL{R:Type}(C:Callee)(fl k:Nat)(kx:bz R)(kn:bz R)(e1:bz R):eT R:=fun t2 t3 t8 t9 t10 t11 t12 h=>if (t12==((t8.l:Nat):Int))=true then e1 t2 t3 t8 t9 t10 t11 h else idx 1 t8 t12 fun p31=>bM h p31.block p31.off fun s32=>idx 1 t8 t10 fun p33=>bM h p33.block p33.off fun s34=>idx 1 t8 t10 fun p35=>st fl h p35 [vs s32] fun h36=>idx 1 t8 t12 fun p37=>st fl h36 p37 [vs s34] fun h38=>idx 1 t8 t10 fun p39=>bM h38 p39.block p39.off fun s40=>idx 1 s40 t11 fun p41=>aE .i64 h38 p41.block p41.off fun n42=>if (n42 !=1)=true then aE .i64 h38 t3.block t3.off fun n43=>aE .i64 h38 t3.block (t3.off+1) fun n44=>bM h38 t3.block (t3.off+1+1) fun s45=>aE .i64 h38 t3.block t3.off fun n46=>aE .i64 h38 t3.block (t3.off+1) fun n47=>bM h38 t3.block (t3.off+1+1) fun s48=>idx 1 t8 t10 fun p49=>bM h38 p49.block p49.off fun s50=>idx 1 s50 t11 fun p51=>aE .i64 h38 p51.block p51.off fun n52=>aC C h38.next fn.qk [.agg ⟨[vi n46,vi n47,vs s48]⟩,vi n52] h38 fun v53 h54=>asInt .i64 v53 fun n55=>idx 1 t8 t10 fun p56=>bM h54 p56.block p56.off fun s57=>aC C fl fn.nH [.agg ⟨[vi n43,vi n44,vs s45]⟩,vi n55,vs s57] h54 fun v58 h59=>bB v58 fun s60=>idx 1 t8 t10 fun p61=>st fl h59 p61 [vs s60] fun h62=>kx t2 t3 t8 t9 t10 t11 h62 else kx t2 t3 t8 t9 t10 t11 h38
def pa(kn:bz R)(e1:bz R):eT R:=jL C fl k (ja C fl k kn e1) kn e1
theorem E4(cn:aa):(cp vb (ce C fl k (uF cn) K))=jL C fl k (cp bC (ce C fl k cn K)) (cp bC (K .normal)) (cp bC (K (.exit 1))):=by kernel_rfl
theorem E5:(cp vb (ce C fl k m4 K))=pa C fl k (cp bC (K .normal)) (cp bC (K (.exit 1))):=(E4 C fl k K kQ).trans (aj (fun L0=>jL C fl k L0 _ _) (Ce C fl k K))
def dX{R:Type}(C:Callee)(fl k:Nat)(kn:eT R)(e2:eT R):eT R:=fun t2 t3 t8 t9 t10 t11 t12 h=>if decide (t12<((t8.l:Nat):Int))=true then idx 1 t8 t12 fun p63=>bM h p63.block p63.off fun s64=>idx 1 s64 t11 fun p65=>aE .i64 h p65.block p65.off fun n66=>if (n66==0)=true then kn t2 t3 t8 t9 t10 t11 (bL (t12+1)) h else e2 t2 t3 t8 t9 t10 t11 t12 h else e2 t2 t3 t8 t9 t10 t11 t12 h
theorem E6:(cp vb (ce C fl k m6 K))=dX C fl k (cp vb (K .normal)) (cp vb (K (.exit 2))):=by kernel_rfl
def ig(kn:eT R):Nat→eT R
 |0=>fun _ _ _ _ _ _ _ _=>none
 |m+1=>dX C fl k (ig kn m) kn
theorem uG:∀m,(cp vb (aR m (bH C fl k m6 2 K)))=ig C fl k (cp vb (K .normal)) m
 |0=>by kernel_rfl
 |m+1=>mq (E6 C fl k _) (aj (fun L=>dX C fl k L _) (uG m))
def uj(kn:bz R)(e1:bz R):eT R:=ig C fl k (pa C fl k kn e1) k
theorem JJ:(cp vb (ce C fl k qZ K))=uj C fl k (cp bC (K .normal)) (cp bC (K (.exit 1))):=(ou (mw (uG C fl k (bU C fl k m4 K)))).trans (aj (fun L=>ig C fl k L k) (oh (E5 C fl k K)))
def pb{R:Type}(C:Callee)(fl k:Nat)(kx:eT R)(kn:bz R)(e1:bz R):bz R:=fun t2 t3 t8 t9 t10 t11 h=>kx t2 t3 t8 t9 t10 t11 t10 h
def sT(kn:bz R)(e1:bz R):bz R:=pb C fl k (uj C fl k kn e1) kn e1
theorem Ot(cn:aa):(cp bC (ce C fl k (BQ cn) K))=pb C fl k (cp vb (ce C fl k cn K)) (cp bC (K .normal)) (cp bC (K (.exit 1))):=by kernel_rfl
theorem Ou:(cp bC (ce C fl k wy K))=sT C fl k (cp bC (K .normal)) (cp bC (K (.exit 1))):=(Ot C fl k K qZ).trans (aj (fun L0=>pb C fl k L0 _ _) (JJ C fl k K))
def vc{R:Type}(C:Callee)(fl k:Nat)(kx:bz R)(u0:bz R)(kn:bz R)(e0:c8 R):bz R:=fun t2 t3 t8 t9 t10 t11 h=>u0 t2 t3 t8 t9 t10 t11 h
def Dc(kn:bz R)(e0:c8 R):bz R:=vc C fl k (dp C fl k kn e0) (sT C fl k (dp C fl k kn e0) (dp C fl k kn e0)) kn e0
theorem SW(cn vw:aa):(cp bC (ce C fl k (Fz cn vw) K))=vc C fl k (cp bC (ce C fl k cn K)) (cp bC (ce C fl k vw (vJ 1 (bU C fl k cn K)))) (cp bC (K .normal)) (cp A0 (K (.exit 0))):=by kernel_rfl
theorem SX:(cp bC (ce C fl k A1 K))=Dc C fl k (cp bC (K .normal)) (cp A0 (K (.exit 0))):=(SW C fl k K oZ wy).trans (ot (fun L0 L1=>vc C fl k L0 L1 _ _) (uh C fl k K) ((Ou C fl k (vJ 1 (bU C fl k oZ K))).trans (ot (fun L0 L1=>sT C fl k L0 L1) (bn1 (uh C fl k K)) (bx1 (uh C fl k K)))))
def ra{R:Type}(C:Callee)(fl k:Nat)(kx:bz R)(kn:bz R)(e0:c8 R):bz R:=fun t2 t3 t8 t9 t10 t11 h=>if decide (t11<t2)=true then if decide (t10<((t8.l:Nat):Int))=true then kx t2 t3 t8 t9 t10 t11 h else e0 t8 t9 h else e0 t8 t9 h
def lN(kn:bz R)(e0:c8 R):bz R:=ra C fl k (Dc C fl k kn e0) kn e0
theorem ZQ(cn:aa):(cp bC (ce C fl k (M5 cn) K))=ra C fl k (cp bC (ce C fl k cn K)) (cp bC (K .normal)) (cp A0 (K (.exit 0))):=by kernel_rfl
theorem ZR:(cp bC (ce C fl k Hd K))=lN C fl k (cp bC (K .normal)) (cp A0 (K (.exit 0))):=(ZQ C fl k K A1).trans (aj (fun L0=>ra C fl k L0 _ _) (SX C fl k K))
def gQ(kn:c8 R):Nat→bz R
 |0=>fun _ _ _ _ _ _ _=>none
 |m+1=>lN C fl k (gQ kn m) kn
theorem M6:∀m,(cp bC (aR m (bH C fl k Hd 0 K)))=gQ C fl k (cp A0 (K .normal)) m
 |0=>by kernel_rfl
 |m+1=>mq (ZR C fl k _) (aj (fun L=>lN C fl k L _) (M6 m))
def Pw(kr:c8 R):bz R:=gQ C fl k (Lw C fl k kr) k
theorem ahk:(cp bC (ce C fl k Ru K))=Pw C fl k (cp Pv (K .ret)):=(ou (mw (M6 C fl k (bU C fl k Hc K)))).trans (aj (fun L=>gQ C fl k L k) (oh (ZP C fl k K)))
def Wo{R:Type}(C:Callee)(fl k:Nat)(kx:bz R)(kr:c8 R):Ps R:=fun aI aH aK t1 t2 h=>cU h [vi aI,vi aH,vs aK] fun b67 h68=>aC C fl fn.vT [vs t1] h68 fun v69 h70=>bB v69 fun s71=>kx t2 ⟨b67,0,none⟩ s71 ⟨none,0,0⟩ 0 0 h70
def alB(kr:c8 R):Ps R:=Wo C fl k (Pw C fl k kr) kr
theorem aqU(cn:aa):(cp afn (ce C fl k (afm cn) K))=Wo C fl k (cp bC (ce C fl k cn K)) (cp Pv (K .ret)):=by kernel_rfl
theorem aqV:(cp afn (ce C fl k alA K))=alB C fl k (cp Pv (K .ret)):=(aqU C fl k K Ru).trans (aj (fun L0=>Wo C fl k L0 _) (ahk C fl k K))
def fz(ax aw:Int)(aA p1:Sl)(p2:Int)(h:AH):Option (Value×AH):=alB C fl k (fun y6 y7 q=>some (.tuple ⟨[vs y6,vs y7]⟩,q)) ax aw aA p1 p2 h
theorem E7(ax aw:Int)(aA p1:Sl)(p2:Int)(h):bl C fl k km [.agg ⟨[vi ax,vi aw,vs aA]⟩,vs p1,vi p2] h=fz C fl k ax aw aA p1 p2 h:=vU (aqV C fl k (aD _)) ax aw aA p1 p2 (by kernel_rfl) (by kernel_rfl)
def Px(t4:Int):List Value:=un 4 (vi t4::un 27 [])
def Hf:aa:=.seq (.region [oI 29 (.load (.agg [.int .i64,.int .i64,.slice]) (.t 2)),m 30 5,oI 31 (.call (.f 157) [.t 29,.t 30] (.one (.one (.int .i64)))),m 4 31] [2,5,29,30,31]) (.ret)
abbrev bW(R:Type):=Addr→Sl→AH→Option R
def Wp(t2:Addr)(t5:Sl):List Value:=un 2 (vp t2::un 2 (t5.v::un 26 []))
def JK(t2:Addr)(t5:Sl)(t6:Int):List Value:=un 2 (vp t2::un 2 (t5.v::vi t6::un 25 []))
def Hg:aa:=.seq (.region [m 10 6,m 11 5,ln 12 11,cm 13 .lss 10 12] [10,11,12]) (.seq (.cond (.t 13) (kl [13]) (.seq (kl [6,13]) (.exit 0))) (.seq (.block 1 (.region [m 16 5,m 17 6,fa 18 0 2,lj 19 18,m 20 5,m 21 6,ia 22 1 20 21,lj 23 22,bb 24 .sub 19 23,fa 25 0 2,lj 26 25,bb 27 .rem 24 26,ia 28 1 16 17,sI 1 28 27] [16,17,18,19,20,21,22,23,24,25,26,27,28])) (.region [m 14 6,bc 15 .add 14 1,m 6 15] [14,15])))
def Rv:aa:=.seq (.block 0 (.loop Hg)) Hf
def afo(cn:aa):aa:=.seq (.seq (.region [oI 2 (.box (.t 0)),mc 4 0] [0,4]) (.seq (.region [oI 7 (.load (.agg [.int .i64,.int .i64,.slice]) (.t 2)),m 8 1,oI 9 (.call (.f 156) [.t 7,.t 8] (.one (.one .slice))),m 5 9] [1,7,8,9]) (.region [mc 6 0] []))) cn
def alC:aa:=afo Rv
def afp(aI aH:Int)(aK:Sl)(t1:Int):List Value:=.agg ⟨[vi aI,vi aH,vs aK]⟩::vi t1::un 30 []
def xP:ay:=⟨32,alC,[.tmp 4]⟩
theorem Wq:okF Tryz.prog 126 xP=true:=by kernel_rfl
def zz{R:Type}(C:Callee)(fl k:Nat)(kr:ae R):bW R:=fun t2 t5 h=>aE .i64 h t2.block t2.off fun n1=>aE .i64 h t2.block (t2.off+1) fun n2=>bM h t2.block (t2.off+1+1) fun s3=>aC C fl fn.fO [.agg ⟨[vi n1,vi n2,vs s3]⟩,vs t5] h fun v4 h5=>asInt .i64 v4 fun n6=>kr n6 h5
theorem ZS:(cp Wp (ce C fl k Hf K))=zz C fl k (cp Px (K .ret)):=by kernel_rfl
def re{R:Type}(C:Callee)(fl k:Nat)(kn:cw R)(e0:bW R):cw R:=fun t2 t5 t6 h=>if decide (t6<((t5.l:Nat):Int))=true then aE .i64 h t2.block t2.off fun n7=>idx 1 t5 t6 fun p8=>aE .i64 h p8.block p8.off fun n9=>aE .i64 h t2.block t2.off fun ux=>jd .rem .i64 (bL (n7-n9)) ux fun Cw=>idx 1 t5 t6 fun Mc=>st fl h Mc [vi Cw] fun uV=>kn t2 t5 (bL (t6+1)) uV else e0 t2 t5 h
theorem ZT:(cp JK (ce C fl k Hg K))=re C fl k (cp JK (K .normal)) (cp Wp (K (.exit 0))):=by kernel_rfl
def zA(kn:bW R):Nat→cw R
 |0=>fun _ _ _ _=>none
 |m+1=>re C fl k (zA kn m) kn
theorem M7:∀m,(cp JK (aR m (bH C fl k Hg 0 K)))=zA C fl k (cp Wp (K .normal)) m
 |0=>by kernel_rfl
 |m+1=>mq (ZT C fl k _) (aj (fun L=>re C fl k L _) (M7 m))
def Wr(kr:ae R):cw R:=zA C fl k (zz C fl k kr) k
theorem ahl:(cp JK (ce C fl k Rv K))=Wr C fl k (cp Px (K .ret)):=(ou (mw (M7 C fl k (bU C fl k Hf K)))).trans (aj (fun L=>zA C fl k L k) (oh (ZS C fl k K)))
def Ws{R:Type}(C:Callee)(fl k:Nat)(kx:cw R)(kr:ae R):ki R:=fun aI aH aK t1 h=>cU h [vi aI,vi aH,vs aK] fun KQ EP=>aE .i64 EP KQ 0 fun KL=>aE .i64 EP KQ 1 fun Sj=>bM EP KQ 2 fun s18=>aC C fl fn.cL [.agg ⟨[vi KL,vi Sj,vs s18]⟩,vi t1] EP fun v19 h20=>bB v19 fun s21=>kx ⟨KQ,0,none⟩ s21 0 h20
def alD(kr:ae R):ki R:=Ws C fl k (Wr C fl k kr) kr
theorem aqW(cn:aa):(cp afp (ce C fl k (afo cn) K))=Ws C fl k (cp JK (ce C fl k cn K)) (cp Px (K .ret)):=by kernel_rfl
theorem aqX:(cp afp (ce C fl k alC K))=alD C fl k (cp Px (K .ret)):=(aqW C fl k K Rv).trans (aj (fun L0=>Ws C fl k L0 _) (ahl C fl k K))
def qi(ax aw:Int)(aA:Sl)(p1:Int)(h:AH):Option (Value×AH):=alD C fl k (fun y4 q=>some (vi y4,q)) ax aw aA p1 h
theorem SY(ax aw:Int)(aA:Sl)(p1:Int)(h):bl C fl k xP [.agg ⟨[vi ax,vi aw,vs aA]⟩,vi p1] h=qi C fl k ax aw aA p1 h:=NT (aqX C fl k (aD _)) ax aw aA p1 (by kernel_rfl) (by kernel_rfl)
def lO:ay:=⟨26,.seq (.region [oI 2 (.box (.t 0)),oI 4 (.mv (.c (.pointer none))),mc 5 0] [0,4,5]) (.seq (.seq (.region [oI 9 (.load (.agg [.int .i64,.int .i64,.slice,.int .i64,.slice]) (.t 2)),oI 10 (.call (.f 47) [.t 9] (.one (.one (.int .i64)))),m 6 10] [9,10]) (.seq (.region [m 11 6,ck 12 .neq 11 0] [11]) (.cond (.t 12) (.seq (.region [m 13 6,oI 4 (.mv (.c (.pointer none))),m 5 13] [1,2,6,12,13]) (.ret)) (kl [6,12])))) (.seq (.region [fa 15 0 2,oI 16 (.load (.agg [.int .i64,.int .i64,.slice]) (.t 15)),oI 17 (.call (.f 75) [.t 16] (.jo [.one .kB,.one (.int .i64)])),m 14 17,ex 18 14 0,ex 19 14 1,m 7 18,m 8 19] [14,15,16,17,18,19]) (.seq (.region [m 20 7,oI 21 (.load (.agg [.int .i64,.int .i64,.slice,.int .i64,.slice]) (.t 2)),m 22 1,oI 23 (.build [.pointer none,.int .i64 0,.int .i64 0,.slice none 0 0,.int .i64 0,.slice none 0 0,.slice none 0 0,.bool false,.int .i64 0,.int .i64 0,.slice none 0 0,.int .i64 0] [(0,1,.t 20),(1,5,.t 21),(9,1,.t 22)]),oI 24 (.box (.t 23)),m 25 8,m 4 24,m 5 25] [1,2,7,8,20,21,22,23,24,25]) (.ret)))),[.tmp 4,.tmp 5]⟩
theorem JL:okF Tryz.prog 127 lO=true:=by kernel_rfl
def fm:ay:=⟨59,.seq (.region [mc 6 0] [6]) (.seq (.region [m 9 0,oI 10 (.cg (.t 9)),fa 11 8 10,li 12 11,m 7 12] [9,10,11,12]) (.seq (.seq (.region [m 13 0,oI 14 (.cg (.t 13)),fa 15 7 14,oI 16 (.load (.one .bool) (.t 15))] [13,14,15]) (.cond (.t 16) (.region [m 17 0,oI 18 (.cg (.t 17)),fa 19 1 18,fa 20 3 19,li 21 20,m 7 21] [16,17,18,19,20,21]) (kl [16]))) (.seq (.region [m 22 0,m 23 0,m 24 1,m 25 2,oI 26 (.call (.f 159) [.t 23,.t 24,.t 25] (.one (.one .slice))),m 27 7,oI 28 (.call (.f 158) [.t 22,.t 26,.t 27] (.one (.one .slice))),m 8 28] [7,22,23,24,25,26,27,28]) (.seq (.region [m 29 8,oI 30 (.call (.f 160) [.t 29] (.jo []))] [29,30]) (.seq (.seq (.region [m 31 0,m 32 1,m 33 8,oI 34 (.call (.f 161) [.t 31,.t 32,.t 33] (.one (.one .bool))),no 35 34] [31,32,33,34]) (.cond (.t 35) (.seq (.region [mc 6 11] [0,1,2,8,35]) (.ret)) (kl [35]))) (.seq (.seq (.region [m 36 0,oI 37 (.cg (.t 36)),fa 38 10 37,ls 39 38,ln 40 39,ck 41 .eql 40 65536] [36,37,38,39,40]) (.cond (.t 41) (.seq (.region [mc 6 8] [0,1,2,8,41]) (.ret)) (kl [41]))) (.seq (.region [m 42 0,m 43 0,oI 44 (.cg (.t 43)),fa 45 10 44,ls 46 45,m 47 8,oI 48 (.aQ 1 [.slice none 0 0] [(0,1,.t 47)]),oI 49 (.append 1 24 (.t 46) (.t 48)),oI 50 (.cg (.t 42)),fa 51 10 50,sI 1 51 49] [42,43,44,45,46,47,48,49,50,51]) (.seq (.region [m 52 0,m 53 1,m 54 2,m 55 8,m 56 0,oI 57 (.xd 128 [.t 56] []),oI 58 (.call (.f 162) [.t 52,.t 53,.t 54,.t 55,.t 57] (.one (.one (.int .i64)))),m 6 58] [0,1,2,8,52,53,54,55,56,57,58]) (.ret))))))))),[.tmp 6]⟩
theorem yo:okF Tryz.prog 128 fm=true:=by kernel_rfl
def fp:ay:=⟨57,.seq (.region [mc 6 0] [6]) (.seq (.seq (.region [m 7 0,oI 8 (.cg (.t 7)),fa 9 11 8,lj 10 9,m 11 0,oI 12 (.cg (.t 11)),fa 13 10 12,lt 14 13,ln 15 14,cm 16 .eql 10 15,m 17 16,.fc 17 false [qI 18 (.mv (.t 0)),qI 19 (.mv (.t 1)),qI 20 (.mv (.t 0)),qI 21 (.cg (.t 20)),qI 22 (.cu 10 (.t 21)),qJ 23 (.load (.one .slice) (.t 22)),qI 24 (.mv (.t 0)),qI 25 (.cg (.t 24)),qI 26 (.cu 11 (.t 25)),qJ 27 (.load (.one (.int .i64)) (.t 26)),qI 28 (.dx 1 (.t 23) (.t 27)),qI 29 (.load (.one .slice) (.t 28)),qI 30 (.call (.f 161) [.t 18,.t 19,.t 29] (.one (.one .bool))),qI 31 (.not (.t 30))],oI 32 (.pick (.t 17) (.c (.bool true)) (.t 31))] [7,8,9,10,11,12,13,14,15,16,17,18,19,20,21,22,23,24,25,26,27,28,29,30,31]) (.cond (.t 32) (.seq (.region [mc 6 13] [0,1,2,32]) (.ret)) (kl [32]))) (.seq (.region [m 33 0,oI 34 (.cg (.t 33)),fa 35 11 34,li 36 35,bc 37 .add 36 1,oI 38 (.cg (.t 33)),fa 39 11 38,sI 1 39 37] [33,34,35,36,37,38,39]) (.seq (.region [m 40 0,m 41 1,m 42 2,m 43 0,oI 44 (.cg (.t 43)),fa 45 10 44,lt 46 45,m 47 0,oI 48 (.cg (.t 47)),fa 49 11 48,lj 50 49,bc 51 .sub 50 1,ia 52 1 46 51,ls 53 52,m 54 0,oI 55 (.xd 134 [.t 54] []),oI 56 (.call (.f 162) [.t 40,.t 41,.t 42,.t 53,.t 55] (.one (.one (.int .i64)))),m 6 56] [0,1,2,40,41,42,43,44,45,46,47,48,49,50,51,52,53,54,55,56]) (.ret)))),[.tmp 6]⟩
theorem yp:okF Tryz.prog 134 fp=true:=by kernel_rfl
def vd(t6:Bool):List Value:=un 6 (.bool t6::un 71 [])
def wz:aa:=.seq (.region [oI 6 (.mv (.c (.bool true)))] []) (.ret)
def Wt:List Value:=un 78 []
def JM(t8:Sl)(t12:Int):List Value:=un 8 (t8.v::un 3 (vi t12::un 65 []))
def wA:aa:=.seq (.region [m 67 12,m 68 8,ln 69 68,cm 70 .lss 67 69] [67,68,69]) (.seq (.cond (.t 70) (kl [70]) (.seq (kl [8,12,70]) (.exit 4))) (.seq (.block 5 (.seq (.region [m 73 8,m 74 12,ia 75 1 73 74,li 76 75,ck 77 .neq 76 0] [73,74,75,76]) (.cond (.t 77) (.seq (.region [oI 6 (.mv (.c (.bool false)))] [8,12,77]) (.ret)) (kl [77])))) (.region [m 71 12,bc 72 .add 71 1,m 12 72] [71,72])))
def A2:aa:=.seq (.block 4 (.loop wA)) wz
def M8(cn:aa):aa:=.seq (.region [mc 12 0] []) cn
def Hh:aa:=M8 A2
def xQ(t8:Sl):List Value:=un 8 (t8.v::un 69 [])
abbrev de(R:Type):=Sl→Int→Int→Sl→Int→AH→Option R
def dv(t0:Sl)(t2 t7:Int)(t8:Sl)(t9:Int):List Value:=t0.v::un 1 (vi t2::un 4 (vi t7::t8.v::vi t9::un 68 []))
def pc:aa:=.region [m 27 9,bc 28 .sub 27 1,m 9 28] [27,28]
def m7:aa:=.region [m 64 8,m 65 9,ia 66 1 64 65,pI (.store 1 (.t 66) (ci 0))] [64,65,66]
abbrev JN(R:Type):=Sl→Int→Int→Sl→Int→Int→Int→AH→Option R
def JO(t0:Sl)(t2 t7:Int)(t8:Sl)(t9 t10 t11:Int):List Value:=t0.v::un 1 (vi t2::un 4 (vi t7::t8.v::vi t9::vi t10::vi t11::un 66 []))
def m8:aa:=.seq (.region [m 33 11,m 34 7,cm 35 .lss 33 34] [33,34]) (.seq (.cond (.t 35) (kl [35]) (.seq (kl [10,11,35]) (.exit 2))) (.seq (.block 3 (.region [m 38 8,m 39 9,m 40 7,bb 41 .sub 39 40,m 42 11,bb 43 .add 41 42,m 44 8,m 45 9,m 46 7,bb 47 .sub 45 46,m 48 11,bb 49 .add 47 48,ia 50 1 44 49,lj 51 50,m 52 2,m 53 10,bb 54 .sub 52 53,m 55 0,m 56 11,ia 57 1 55 56,lj 58 57,bb 59 .mul 54 58,bb 60 .add 51 59,m 61 2,bb 62 .rem 60 61,ia 63 1 38 43,sI 1 63 62] [38,39,40,41,42,43,44,45,46,47,48,49,50,51,52,53,54,55,56,57,58,59,60,61,62,63])) (.region [m 36 11,bc 37 .add 36 1,m 11 37] [36,37])))
def rh:aa:=.seq (.block 2 (.loop m8)) m7
def BR(cn:aa):aa:=.seq (.seq (.region [m 29 8,m 30 9,ia 31 1 29 30,li 32 31,m 10 32] [29,30,31,32]) (.region [mc 11 0] [])) cn
def wB:aa:=BR rh
def FA(cn vw:aa):aa:=.seq (.block 1 vw) cn
def A3:aa:=FA pc wB
def M9(cn:aa):aa:=.seq (.seq (.region [m 24 9,m 25 7,cm 26 .geq 24 25] [24,25]) (.cond (.t 26) (kl [26]) (.seq (kl [0,2,7,9,26]) (.exit 0)))) cn
def Hi:aa:=M9 A3
def Rw:aa:=.seq (.block 0 (.loop Hi)) Hh
def afq(cn:aa):aa:=.seq (.seq (.region [oI 6 (.mv (.c (.bool false)))] [6]) (.seq (.region [m 13 0,ln 14 13,m 7 14] [13,14]) (.seq (.region [oI 15 (.aQ 0 [] []),m 16 1,oI 17 (.append 1 8 (.t 15) (.t 16)),m 8 17] [1,15,16,17]) (.seq (.region [m 18 8,oI 19 (.aQ 1 [.int .i64 0] [(0,1,ci 1)]),oI 20 (.append 1 8 (.t 18) (.t 19)),m 8 20] [18,19,20]) (.region [m 21 8,ln 22 21,bc 23 .sub 22 1,m 9 23] [21,22,23]))))) cn
def alE:aa:=afq Rw
def afr(t0 t1:Sl)(t2:Int):List Value:=t0.v::t1.v::vi t2::un 75 []
def mM:ay:=⟨78,alE,[.tmp 6]⟩
theorem Lx:okF Tryz.prog 136 mM=true:=by kernel_rfl
def yq{R:Type}(C:Callee)(fl k:Nat)(kr:au R):ar R:=fun h=>kr true h
theorem Ov:(cp Wt (ce C fl k wz K))=yq C fl k (cp vd (K .ret)):=by kernel_rfl
def iF{R:Type}(C:Callee)(fl k:Nat)(kn:aO R)(e4:ar R)(kr:au R):aO R:=fun t8 t12 h=>if decide (t12<((t8.l:Nat):Int))=true then idx 1 t8 t12 fun p1=>aE .i64 h p1.block p1.off fun n2=>if (n2 !=0)=true then kr false h else kn t8 (bL (t12+1)) h else e4 h
theorem Ow:(cp JM (ce C fl k wA K))=iF C fl k (cp JM (K .normal)) (cp Wt (K (.exit 4))) (cp vd (K .ret)):=by kernel_rfl
def mC(kn:ar R)(kr:au R):Nat→aO R
 |0=>fun _ _ _=>none
 |m+1=>iF C fl k (mC kn kr m) kn kr
theorem BS:∀m,(cp JM (aR m (bH C fl k wA 4 K)))=mC C fl k (cp Wt (K .normal)) (cp vd (K .ret)) m
 |0=>by kernel_rfl
 |m+1=>mq (Ow C fl k _) (aj (fun L=>iF C fl k L _ _) (BS m))
def Dd(kr:au R):aO R:=mC C fl k (yq C fl k kr) kr k
theorem SZ:(cp JM (ce C fl k A2 K))=Dd C fl k (cp vd (K .ret)):=(ou (mw (BS C fl k (bU C fl k wz K)))).trans (aj (fun L=>mC C fl k L _ k) (oh (Ov C fl k K)))
def A4{R:Type}(C:Callee)(fl k:Nat)(kx:aO R)(kr:au R):ak R:=fun t8 h=>kx t8 0 h
def EB(kr:au R):ak R:=A4 C fl k (Dd C fl k kr) kr
theorem ZU(cn:aa):(cp xQ (ce C fl k (M8 cn) K))=A4 C fl k (cp JM (ce C fl k cn K)) (cp vd (K .ret)):=by kernel_rfl
theorem ZV:(cp xQ (ce C fl k Hh K))=EB C fl k (cp vd (K .ret)):=(ZU C fl k K A2).trans (aj (fun L0=>A4 C fl k L0 _) (SZ C fl k K))
def mD{R:Type}(C:Callee)(fl k:Nat)(kn:de R)(e0:ak R):de R:=fun t0 t2 t7 t8 t9 h=>kn t0 t2 t7 t8 (bL (t9-1)) h
theorem BT:(cp dv (ce C fl k pc K))=mD C fl k (cp dv (K .normal)) (cp xQ (K (.exit 0))):=by kernel_rfl
def ko{R:Type}(C:Callee)(fl k:Nat)(kn:de R):de R:=fun t0 t2 t7 t8 t9 h=>idx 1 t8 t9 fun p3=>st fl h p3 [vi 0] fun h4=>kn t0 t2 t7 t8 t9 h4
theorem E8:(cp dv (ce C fl k m7 K))=ko C fl k (cp dv (K .normal)):=by kernel_rfl
def dY{R:Type}(C:Callee)(fl k:Nat)(kn:JN R)(e2:de R):JN R:=fun t0 t2 t7 t8 t9 t10 t11 h=>if decide (t11<t7)=true then idx 1 t8 (bL (bL (t9-t7)+t11)) fun p5=>aE .i64 h p5.block p5.off fun n6=>idx 1 t0 t11 fun p7=>aE .i64 h p7.block p7.off fun n8=>jd .rem .i64 (bL (n6+(bL (bL (t2-t10)*n8)))) t2 fun n9=>idx 1 t8 (bL (bL (t9-t7)+t11)) fun TH=>st fl h TH [vi n9] fun mI=>kn t0 t2 t7 t8 t9 t10 (bL (t11+1)) mI else e2 t0 t2 t7 t8 t9 h
theorem E9:(cp JO (ce C fl k m8 K))=dY C fl k (cp JO (K .normal)) (cp dv (K (.exit 2))):=by kernel_rfl
def ij(kn:de R):Nat→JN R
 |0=>fun _ _ _ _ _ _ _ _=>none
 |m+1=>dY C fl k (ij kn m) kn
theorem uH:∀m,(cp JO (aR m (bH C fl k m8 2 K)))=ij C fl k (cp dv (K .normal)) m
 |0=>by kernel_rfl
 |m+1=>mq (E9 C fl k _) (aj (fun L=>dY C fl k L _) (uH m))
def uk(kn:de R):JN R:=ij C fl k (ko C fl k kn) k
theorem JP:(cp JO (ce C fl k rh K))=uk C fl k (cp dv (K .normal)):=(ou (mw (uH C fl k (bU C fl k m7 K)))).trans (aj (fun L=>ij C fl k L k) (oh (E8 C fl k K)))
def pd{R:Type}(C:Callee)(fl k:Nat)(kx:JN R)(kn:de R):de R:=fun t0 t2 t7 t8 t9 h=>idx 1 t8 t9 fun Mc=>aE .i64 h Mc.block Mc.off fun Fs=>kx t0 t2 t7 t8 t9 Fs 0 h
def sU(kn:de R):de R:=pd C fl k (uk C fl k kn) kn
theorem Ox(cn:aa):(cp dv (ce C fl k (BR cn) K))=pd C fl k (cp JO (ce C fl k cn K)) (cp dv (K .normal)):=by kernel_rfl
theorem Oy:(cp dv (ce C fl k wB K))=sU C fl k (cp dv (K .normal)):=(Ox C fl k K rh).trans (aj (fun L0=>pd C fl k L0 _) (JP C fl k K))
def vf{R:Type}(C:Callee)(fl k:Nat)(kx:de R)(u0:de R)(kn:de R)(e0:ak R):de R:=fun t0 t2 t7 t8 t9 h=>u0 t0 t2 t7 t8 t9 h
def De(kn:de R)(e0:ak R):de R:=vf C fl k (mD C fl k kn e0) (sU C fl k (mD C fl k kn e0)) kn e0
theorem S3(cn vw:aa):(cp dv (ce C fl k (FA cn vw) K))=vf C fl k (cp dv (ce C fl k cn K)) (cp dv (ce C fl k vw (vJ 1 (bU C fl k cn K)))) (cp dv (K .normal)) (cp xQ (K (.exit 0))):=by kernel_rfl
theorem S4:(cp dv (ce C fl k A3 K))=De C fl k (cp dv (K .normal)) (cp xQ (K (.exit 0))):=(S3 C fl k K pc wB).trans (ot (fun L0 L1=>vf C fl k L0 L1 _ _) (BT C fl k K) ((Oy C fl k (vJ 1 (bU C fl k pc K))).trans (aj (fun L0=>sU C fl k L0) (bn1 (BT C fl k K)))))
def wC{R:Type}(C:Callee)(fl k:Nat)(kx:de R)(kn:de R)(e0:ak R):de R:=fun t0 t2 t7 t8 t9 h=>if decide (t9≥t7)=true then kx t0 t2 t7 t8 t9 h else e0 t8 h
def rj(kn:de R)(e0:ak R):de R:=wC C fl k (De C fl k kn e0) kn e0
theorem ZW(cn:aa):(cp dv (ce C fl k (M9 cn) K))=wC C fl k (cp dv (ce C fl k cn K)) (cp dv (K .normal)) (cp xQ (K (.exit 0))):=by kernel_rfl
theorem ZX:(cp dv (ce C fl k Hi K))=rj C fl k (cp dv (K .normal)) (cp xQ (K (.exit 0))):=(ZW C fl k K A3).trans (aj (fun L0=>wC C fl k L0 _ _) (S4 C fl k K))
def nR(kn:ak R):Nat→de R
 |0=>fun _ _ _ _ _ _=>none
 |m+1=>rj C fl k (nR kn m) kn
theorem Na:∀m,(cp dv (aR m (bH C fl k Hi 0 K)))=nR C fl k (cp xQ (K .normal)) m
 |0=>by kernel_rfl
 |m+1=>mq (ZX C fl k _) (aj (fun L=>rj C fl k L _) (Na m))
def A5(kr:au R):de R:=nR C fl k (EB C fl k kr) k
theorem ahm:(cp dv (ce C fl k Rw K))=A5 C fl k (cp vd (K .ret)):=(ou (mw (Na C fl k (bU C fl k Hh K)))).trans (aj (fun L=>nR C fl k L k) (oh (ZV C fl k K)))
def Wu{R:Type}(C:Callee)(fl k:Nat)(kx:de R)(kr:au R):fg R:=fun t0 t1 t2 h=>cU h [] fun KQ EP=>fW fl 1 8 ⟨(some ⟨KQ,0,none⟩),0,0⟩ t1 EP fun Sk Me=>cU Me [vi 1] fun b18 O6=>fW fl 1 8 Sk ⟨(some ⟨b18,0,none⟩),1,1⟩ O6 fun UG Sy=>kx t0 t2 ((t0.l:Nat):Int) UG (bL (((UG.l:Nat):Int)-1)) Sy
def alF(kr:au R):fg R:=Wu C fl k (A5 C fl k kr) kr
theorem aqY(cn:aa):(cp afr (ce C fl k (afq cn) K))=Wu C fl k (cp dv (ce C fl k cn K)) (cp vd (K .ret)):=by kernel_rfl
theorem aqZ:(cp afr (ce C fl k alE K))=alF C fl k (cp vd (K .ret)):=(aqY C fl k K Rw).trans (aj (fun L0=>Wu C fl k L0 _) (ahm C fl k K))
def mA(p0 p1:Sl)(p2:Int)(h:AH):Option (Value×AH):=alF C fl k (fun y6 q=>some (.bool y6,q)) p0 p1 p2 h
theorem JQ(p0 p1:Sl)(p2:Int)(h):bl C fl k mM [vs p0,vs p1,vi p2] h=mA C fl k p0 p1 p2 h:=yV (aqZ C fl k (aD _)) p0 p1 p2 (by kernel_rfl) (by kernel_rfl)
def Py(t6:Sl):List Value:=un 6 (t6.v::un 19 [])
def Hj:aa:=.seq (.region [m 25 7,m 6 25] [7,25]) (.ret)
def Wv(t7:Sl):List Value:=un 7 (t7.v::un 18 [])
abbrev JR(R:Type):=Int→Int→Int→Sl→Int→AH→Option R
def JS(t0 t1 t2:Int)(t7:Sl)(t8:Int):List Value:=vi t0::vi t1::vi t2::un 4 (t7.v::vi t8::un 17 [])
def Hk:aa:=.seq (.region [m 11 8,m 12 2,cm 13 .lss 11 12] [11,12]) (.seq (.cond (.t 13) (kl [13]) (.seq (kl [0,1,2,8,13]) (.exit 0))) (.seq (.block 1 (.seq (.region [m 16 7,m 17 8,m 18 0,m 19 1,bb 20 .rem 18 19,ia 21 1 16 17,sI 1 21 20] [16,17,18,19,20,21]) (.region [m 22 0,m 23 1,bb 24 .quo 22 23,m 0 24] [22,23,24]))) (.region [m 14 8,bc 15 .add 14 1,m 8 15] [14,15])))
def Rx:aa:=.seq (.block 0 (.loop Hk)) Hj
def afs(cn:aa):aa:=.seq (.seq (.region [oI 6 (.mv (.c (.slice none 0 0)))] [6]) (.seq (.region [m 9 2,oI 10 (.cD 8 [.int .i64 0] (.t 9) (.t 9)),m 7 10] [9,10]) (.region [mc 8 0] []))) cn
def alG:aa:=afs Rx
abbrev JT(R:Type):=Int→Int→Int→AH→Option R
def aft(t0 t1 t2:Int):List Value:=vi t0::vi t1::vi t2::un 23 []
def pe:ay:=⟨26,alG,[.tmp 6]⟩
theorem Oz:okF Tryz.prog 137 pe=true:=by kernel_rfl
def Ly{R:Type}(C:Callee)(fl k:Nat)(kr:ak R):ak R:=fun t7 h=>kr t7 h
theorem ZY:(cp Wv (ce C fl k Hj K))=Ly C fl k (cp Py (K .ret)):=by kernel_rfl
def rl{R:Type}(C:Callee)(fl k:Nat)(kn:JR R)(e0:ak R):JR R:=fun t0 t1 t2 t7 t8 h=>if decide (t8<t2)=true then jd .rem .i64 t0 t1 fun n1=>idx 1 t7 t8 fun p2=>st fl h p2 [vi n1] fun h3=>jd .quo .i64 t0 t1 fun n4=>kn n4 t1 t2 t7 (bL (t8+1)) h3 else e0 t7 h
theorem ZZ:(cp JS (ce C fl k Hk K))=rl C fl k (cp JS (K .normal)) (cp Wv (K (.exit 0))):=by kernel_rfl
def zB(kn:ak R):Nat→JR R
 |0=>fun _ _ _ _ _ _=>none
 |m+1=>rl C fl k (zB kn m) kn
theorem Nb:∀m,(cp JS (aR m (bH C fl k Hk 0 K)))=zB C fl k (cp Wv (K .normal)) m
 |0=>by kernel_rfl
 |m+1=>mq (ZZ C fl k _) (aj (fun L=>rl C fl k L _) (Nb m))
def afu(kr:ak R):JR R:=zB C fl k (Ly C fl k kr) k
theorem ahn:(cp JS (ce C fl k Rx K))=afu C fl k (cp Py (K .ret)):=(ou (mw (Nb C fl k (bU C fl k Hj K)))).trans (aj (fun L=>zB C fl k L k) (oh (ZY C fl k K)))
def Ww{R:Type}(C:Callee)(fl k:Nat)(kx:JR R)(kr:ak R):JT R:=fun t0 t1 t2 h=>xg 8 [.int .i64 0] t2 t2 h fun s5 h6=>kx t0 t1 t2 s5 0 h6
def alH(kr:ak R):JT R:=Ww C fl k (afu C fl k kr) kr
theorem aq0(cn:aa):(cp aft (ce C fl k (afs cn) K))=Ww C fl k (cp JS (ce C fl k cn K)) (cp Py (K .ret)):=by kernel_rfl
theorem aq1:(cp aft (ce C fl k alG K))=alH C fl k (cp Py (K .ret)):=(aq0 C fl k K Rx).trans (aj (fun L0=>Ww C fl k L0 _) (ahn C fl k K))
def lu(p0 p1 p2:Int)(h:AH):Option (Value×AH):=alH C fl k (fun y6 q=>some (vs y6,q)) p0 p1 p2 h
theorem Lz(p0 p1 p2:Int)(h):bl C fl k pe [vi p0,vi p1,vi p2] h=lu C fl k p0 p1 p2 h:=yV (aq1 C fl k (aD _)) p0 p1 p2 (by kernel_rfl) (by kernel_rfl)
def gH:ay:=⟨5,.seq (.region [oI 2 (.mv (.c (.bool false)))] [2]) (.seq (.region [m 3 0,ck 4 .neq 3 0,m 2 4] [0,3,4]) (.ret)),[.tmp 2]⟩
theorem A6:okF Tryz.prog 138 gH=true:=by kernel_rfl
def aq2(t4 t5:Int):List Value:=un 4 (vi t4::vi t5::un 30 [])
def alI:aa:=.seq (.region [mc 4 0,mc 5 0] [4,5]) (.seq (.region [m 6 0,m 7 1,oI 8 (.call (.f 144) [.t 6,.t 7] (.one (.one (.int .i64)))),m 1 8] [6,7,8]) (.seq (.region [m 9 1,ck 10 .eql 9 0] [9]) (.seq (.cond (.t 10) (.seq (.region [mc 4 0,mc 5 7] [0,1,10]) (.ret)) (kl [10])) (.seq (.region [m 11 0,oI 12 (.cg (.t 11)),fa 13 4 12,lt 14 13,m 15 0,oI 16 (.cg (.t 15)),fa 17 3 16,lj 18 17,bc 19 .sub 18 1,m 20 0,oI 21 (.cg (.t 20)),fa 22 5 21,lt 23 22,m 24 1,ia 25 1 23 24,lj 26 25,bb 27 .sub 19 26,m 28 0,oI 29 (.cg (.t 28)),fa 30 3 29,lj 31 30,bc 32 .sub 31 1,bb 33 .rem 27 32,ia 34 1 14 33,li 35 34,m 4 35,mc 5 0] [0,1,11,12,13,14,15,16,17,18,19,20,21,22,23,24,25,26,27,28,29,30,31,32,33,34,35]) (.ret)))))
def aq3(t0:OA)(t1:Int):List Value:=vn t0::vi t1::un 34 []
def pf:ay:=⟨36,alI,[.tmp 4,.tmp 5]⟩
theorem OC:okF Tryz.prog 139 pf=true:=by kernel_rfl
def alJ{R:Type}(C:Callee)(fl k:Nat)(kr:gF R):fh R:=fun t0 t1 h=>aC C fl fn.eY [.pointer t0,vi t1] h fun v1 h2=>asInt .i64 v1 fun n3=>if (n3==0)=true then kr 0 7 h2 else cQ (.pointer t0) fun p4=>bM h2 p4.block (p4.off+4) fun s5=>cQ (.pointer t0) fun p6=>aE .i64 h2 p6.block (p6.off+3) fun n7=>cQ (.pointer t0) fun p8=>bM h2 p8.block (p8.off+5) fun s9=>idx 1 s9 n3 fun TH=>aE .i64 h2 TH.block TH.off fun Cw=>cQ (.pointer t0) fun Mc=>aE .i64 h2 Mc.block (Mc.off+3) fun Fs=>jd .rem .i64 (bL (bL (n7-1)-Cw)) (bL (Fs-1)) fun DM=>idx 1 s5 DM fun XH=>aE .i64 h2 XH.block XH.off fun KL=>kr KL 0 h2
theorem aq4:(cp aq3 (ce C fl k alI K))=alJ C fl k (cp aq2 (K .ret)):=by kernel_rfl
def hX(p0:OA)(p1:Int)(h:AH):Option (Value×AH):=alJ C fl k (fun y4 y5 q=>some (.tuple ⟨[vi y4,vi y5]⟩,q)) p0 p1 h
theorem zC(p0:OA)(p1:Int)(h):bl C fl k pf [.pointer p0,vi p1] h=hX C fl k p0 p1 h:=Ca (aq4 C fl k (aD _)) p0 p1 (by kernel_rfl) (by kernel_rfl)
def Pz(t6:Sl):List Value:=un 6 (t6.v::un 22 [])
def Hl:aa:=.seq (.region [m 28 7,m 6 28] [7,28]) (.ret)
def Wx(t7:Sl):List Value:=un 7 (t7.v::un 21 [])
abbrev JU(R:Type):=OA→Int→Sl→Sl→Int→Int→AH→Option R
def JV(t0:OA)(t1:Int)(t7 t13:Sl)(t14 t15:Int):List Value:=vn t0::vi t1::un 5 (t7.v::un 5 (t13.v::vi t14::vi t15::un 13 []))
def Hm:aa:=.seq (.region [cm 16 .lss 15 14] []) (.seq (.cond (.t 16) (kl [16]) (.seq (kl [0,1,13,14,15,16]) (.exit 0))) (.seq (.block 1 (.seq (.region [m 17 15,ia 18 1 13 15,li 19 18,m 8 17,m 9 19] [17,18,19]) (.region [m 20 7,m 21 8,m 22 0,m 23 1,m 24 9,oI 25 (.call (.f 120) [.t 22,.t 23,.t 24] (.one (.one (.int .i64)))),ia 26 1 20 21,sI 1 26 25] [8,9,20,21,22,23,24,25,26]))) (.region [bc 27 .add 15 1,m 15 27] [27])))
def Ry:aa:=.seq (.block 0 (.loop Hm)) Hl
def afv(cn:aa):aa:=.seq (.seq (.region [oI 6 (.mv (.c (.slice none 0 0)))] [6]) (.seq (.region [m 10 2,ln 11 10,oI 12 (.cD 8 [.int .i64 0] (.t 11) (.t 11)),m 7 12] [10,11,12]) (.region [m 13 2,ln 14 13,mc 15 0] [2]))) cn
def alK:aa:=afv Ry
abbrev JW(R:Type):=OA→Int→Sl→AH→Option R
def afw(t0:OA)(t1:Int)(t2:Sl):List Value:=vn t0::vi t1::t2.v::un 26 []
def lP:ay:=⟨29,alK,[.tmp 6]⟩
theorem JX:okF Tryz.prog 140 lP=true:=by kernel_rfl
def LA{R:Type}(C:Callee)(fl k:Nat)(kr:ak R):ak R:=fun t7 h=>kr t7 h
theorem Z0:(cp Wx (ce C fl k Hl K))=LA C fl k (cp Pz (K .ret)):=by kernel_rfl
def rm{R:Type}(C:Callee)(fl k:Nat)(kn:JU R)(e0:ak R):JU R:=fun t0 t1 t7 t13 t14 t15 h=>if decide (t15<t14)=true then idx 1 t13 t15 fun p1=>aE .i64 h p1.block p1.off fun n2=>aC C fl fn.dM [.pointer t0,vi t1,vi n2] h fun v3 h4=>asInt .i64 v3 fun n5=>idx 1 t7 t15 fun p6=>st fl h4 p6 [vi n5] fun h7=>kn t0 t1 t7 t13 t14 (bL (t15+1)) h7 else e0 t7 h
theorem Z1:(cp JV (ce C fl k Hm K))=rm C fl k (cp JV (K .normal)) (cp Wx (K (.exit 0))):=by kernel_rfl
def zD(kn:ak R):Nat→JU R
 |0=>fun _ _ _ _ _ _ _=>none
 |m+1=>rm C fl k (zD kn m) kn
theorem Nc:∀m,(cp JV (aR m (bH C fl k Hm 0 K)))=zD C fl k (cp Wx (K .normal)) m
 |0=>by kernel_rfl
 |m+1=>mq (Z1 C fl k _) (aj (fun L=>rm C fl k L _) (Nc m))
def afx(kr:ak R):JU R:=zD C fl k (LA C fl k kr) k
theorem aho:(cp JV (ce C fl k Ry K))=afx C fl k (cp Pz (K .ret)):=(ou (mw (Nc C fl k (bU C fl k Hl K)))).trans (aj (fun L=>zD C fl k L k) (oh (Z0 C fl k K)))
def Wy{R:Type}(C:Callee)(fl k:Nat)(kx:JU R)(kr:ak R):JW R:=fun t0 t1 t2 h=>xg 8 [.int .i64 0] ((t2.l:Nat):Int) ((t2.l:Nat):Int) h fun s8 h9=>kx t0 t1 s8 t2 ((t2.l:Nat):Int) 0 h9
def alL(kr:ak R):JW R:=Wy C fl k (afx C fl k kr) kr
theorem aq5(cn:aa):(cp afw (ce C fl k (afv cn) K))=Wy C fl k (cp JV (ce C fl k cn K)) (cp Pz (K .ret)):=by kernel_rfl
theorem aq6:(cp afw (ce C fl k alK K))=alL C fl k (cp Pz (K .ret)):=(aq5 C fl k K Ry).trans (aj (fun L0=>Wy C fl k L0 _) (aho C fl k K))
def jl(p0:OA)(p1:Int)(p2:Sl)(h:AH):Option (Value×AH):=alL C fl k (fun y6 q=>some (vs y6,q)) p0 p1 p2 h
theorem wD(p0:OA)(p1:Int)(p2:Sl)(h):bl C fl k lP [.pointer p0,vi p1,vs p2] h=jl C fl k p0 p1 p2 h:=yV (aq6 C fl k (aD _)) p0 p1 p2 (by kernel_rfl) (by kernel_rfl)
def pg(t4:Int):List Value:=un 4 (vi t4::un 46 [])
def wE:aa:=.seq (.region [mc 4 0] []) (.ret)
def Wz:List Value:=un 51 []
def JY(t0:OA)(t38:Sl)(t39 t40:Int):List Value:=vn t0::un 37 (t38.v::vi t39::vi t40::un 10 [])
def wF:aa:=.seq (.region [cm 41 .lss 40 39] []) (.seq (.cond (.t 41) (kl [41]) (.seq (kl [0,38,39,40,41]) (.exit 2))) (.seq (.block 3 (.seq (.region [ia 42 1 38 40,ls 43 42,m 8 43] [42,43]) (.seq (.region [m 44 0,m 45 8,oI 46 (.call (.f 110) [.t 44,.t 45] (.one (.one (.int .i64)))),m 9 46] [8,44,45,46]) (.seq (.region [m 47 9,ck 48 .neq 47 0] [47]) (.cond (.t 48) (.seq (.region [m 49 9,m 4 49] [0,9,38,39,40,48,49]) (.ret)) (kl [9,48])))))) (.region [bc 50 .add 40 1,m 40 50] [50])))
def A7:aa:=.seq (.block 2 (.loop wF)) wE
def Nd(cn:aa):aa:=.seq (.region [fa 37 1 3,ls 38 37,ln 39 38,mc 40 0] [3,37]) cn
def Hn:aa:=Nd A7
abbrev JZ(R:Type):=OA→Addr→AH→Option R
def PA(t0:OA)(t3:Addr):List Value:=vn t0::un 2 (vp t3::un 47 [])
abbrev J0(R:Type):=OA→Addr→Sl→Int→Int→AH→Option R
def J1(t0:OA)(t3:Addr)(t25:Sl)(t26 t27:Int):List Value:=vn t0::un 2 (vp t3::un 21 (t25.v::vi t26::vi t27::un 23 []))
def Ho:aa:=.seq (.region [cm 28 .lss 27 26] []) (.seq (.cond (.t 28) (kl [28]) (.seq (kl [25,26,27,28]) (.exit 0))) (.seq (.block 1 (.seq (.region [ia 29 1 25 27,ls 30 29,m 6 30] [29,30]) (.seq (.region [m 31 6,ln 32 31,fa 33 0 3,li 34 33,cm 35 .neq 32 34] [6,31,32,33,34]) (.cond (.t 35) (.seq (.region [mc 4 3] [0,3,25,26,27,35]) (.ret)) (kl [35]))))) (.region [bc 36 .add 27 1,m 27 36] [36])))
def Rz:aa:=.seq (.block 0 (.loop Ho)) Hn
def afy(cn:aa):aa:=.seq (.seq (.region [oI 3 (.box (.t 1)),mc 4 0] [1,4]) (.seq (.region [fa 10 0 3,li 11 10,ck 12 .lss 11 0,m 13 12,.fc 13 false [qI 14 (.cu 0 (.t 3)),qI 15 (.load (.one (.int .i64)) (.t 14)),qI 16 (.cmp .gtr .i64 (.t 15) (ci 256))],oI 17 (.pick (.t 13) (.c (.bool true)) (.t 16)),m 18 17,.fc 18 false [qI 19 (.cu 1 (.t 3)),qI 20 (.load (.one .slice) (.t 19)),qI 21 (.len (.t 20)),qI 22 (.cmp .gtr .i64 (.t 21) (ci 256))],oI 23 (.pick (.t 18) (.c (.bool true)) (.t 22))] [10,11,12,13,14,15,16,17,18,19,20,21,22]) (.seq (.cond (.t 23) (.seq (.region [mc 4 3] [0,3,23]) (.ret)) (kl [23])) (.region [fa 24 1 3,ls 25 24,ln 26 25,mc 27 0] [24])))) cn
def alM:aa:=afy Rz
def afz(t0:OA)(nu:Int)(ns:Sl):List Value:=vn t0::.agg ⟨[vi nu,vs ns]⟩::un 49 []
def pj:ay:=⟨51,alM,[.tmp 4]⟩
theorem OD:okF Tryz.prog 141 pj=true:=by kernel_rfl
def yr{R:Type}(C:Callee)(fl k:Nat)(kr:ae R):ar R:=fun h=>kr 0 h
theorem OE:(cp Wz (ce C fl k wE K))=yr C fl k (cp pg (K .ret)):=by kernel_rfl
def iG{R:Type}(C:Callee)(fl k:Nat)(kn:dR R)(e2:ar R)(kr:ae R):dR R:=fun t0 t38 t39 t40 h=>if decide (t40<t39)=true then idx 1 t38 t40 fun p1=>bM h p1.block p1.off fun s2=>aC C fl fn.jk [.pointer t0,vs s2] h fun v3 h4=>asInt .i64 v3 fun n5=>if (n5 !=0)=true then kr n5 h4 else kn t0 t38 t39 (bL (t40+1)) h4 else e2 h
theorem OF:(cp JY (ce C fl k wF K))=iG C fl k (cp JY (K .normal)) (cp Wz (K (.exit 2))) (cp pg (K .ret)):=by kernel_rfl
def mE(kn:ar R)(kr:ae R):Nat→dR R
 |0=>fun _ _ _ _ _=>none
 |m+1=>iG C fl k (mE kn kr m) kn kr
theorem BU:∀m,(cp JY (aR m (bH C fl k wF 2 K)))=mE C fl k (cp Wz (K .normal)) (cp pg (K .ret)) m
 |0=>by kernel_rfl
 |m+1=>mq (OF C fl k _) (aj (fun L=>iG C fl k L _ _) (BU m))
def Df(kr:ae R):dR R:=mE C fl k (yr C fl k kr) kr k
theorem S5:(cp JY (ce C fl k A7 K))=Df C fl k (cp pg (K .ret)):=(ou (mw (BU C fl k (bU C fl k wE K)))).trans (aj (fun L=>mE C fl k L _ k) (oh (OE C fl k K)))
def A8{R:Type}(C:Callee)(fl k:Nat)(kx:dR R)(kr:ae R):JZ R:=fun t0 t3 h=>bM h t3.block (t3.off+1) fun s6=>kx t0 s6 ((s6.l:Nat):Int) 0 h
def EC(kr:ae R):JZ R:=A8 C fl k (Df C fl k kr) kr
theorem Z2(cn:aa):(cp PA (ce C fl k (Nd cn) K))=A8 C fl k (cp JY (ce C fl k cn K)) (cp pg (K .ret)):=by kernel_rfl
theorem Z3:(cp PA (ce C fl k Hn K))=EC C fl k (cp pg (K .ret)):=(Z2 C fl k K A7).trans (aj (fun L0=>A8 C fl k L0 _) (S5 C fl k K))
def rn{R:Type}(C:Callee)(fl k:Nat)(kn:J0 R)(e0:JZ R)(kr:ae R):J0 R:=fun t0 t3 t25 t26 t27 h=>if decide (t27<t26)=true then idx 1 t25 t27 fun p7=>bM h p7.block p7.off fun s8=>aE .i64 h t3.block t3.off fun n9=>if (((s8.l:Nat):Int) !=n9)=true then kr 3 h else kn t0 t3 t25 t26 (bL (t27+1)) h else e0 t0 t3 h
theorem Z4:(cp J1 (ce C fl k Ho K))=rn C fl k (cp J1 (K .normal)) (cp PA (K (.exit 0))) (cp pg (K .ret)):=by kernel_rfl
def zE(kn:JZ R)(kr:ae R):Nat→J0 R
 |0=>fun _ _ _ _ _ _=>none
 |m+1=>rn C fl k (zE kn kr m) kn kr
theorem Nf:∀m,(cp J1 (aR m (bH C fl k Ho 0 K)))=zE C fl k (cp PA (K .normal)) (cp pg (K .ret)) m
 |0=>by kernel_rfl
 |m+1=>mq (Z4 C fl k _) (aj (fun L=>rn C fl k L _ _) (Nf m))
def WA(kr:ae R):J0 R:=zE C fl k (EC C fl k kr) kr k
theorem ahp:(cp J1 (ce C fl k Rz K))=WA C fl k (cp pg (K .ret)):=(ou (mw (Nf C fl k (bU C fl k Hn K)))).trans (aj (fun L=>zE C fl k L _ k) (oh (Z3 C fl k K)))
def WB{R:Type}(C:Callee)(fl k:Nat)(kx:J0 R)(kr:ae R):JW R:=fun t0 nu ns h=>cU h [vi nu,vs ns] fun b10 mI=>aE .i64 mI b10 0 fun Cs=>if decide (Cs<0)=false then aE .i64 mI b10 0 fun Fs=>if decide (Fs>256)=false then bM mI b10 1 fun s14=>if decide (((s14.l:Nat):Int)>256)=true then kr 3 mI else bM mI b10 1 fun XX=>kx t0 ⟨b10,0,none⟩ XX ((XX.l:Nat):Int) 0 mI else kr 3 mI else kr 3 mI
def alN(kr:ae R):JW R:=WB C fl k (WA C fl k kr) kr
theorem aq7(cn:aa):(cp afz (ce C fl k (afy cn) K))=WB C fl k (cp J1 (ce C fl k cn K)) (cp pg (K .ret)):=by kernel_rfl
theorem aq8:(cp afz (ce C fl k alM K))=alN C fl k (cp pg (K .ret)):=(aq7 C fl k K Rz).trans (aj (fun L0=>WB C fl k L0 _) (ahp C fl k K))
def lx(p0:OA)(gy:Int)(gz:Sl)(h:AH):Option (Value×AH):=alN C fl k (fun y4 q=>some (vi y4,q)) p0 gy gz h
theorem zF(p0:OA)(gy:Int)(gz:Sl)(h):bl C fl k pj [.pointer p0,.agg ⟨[vi gy,vs gz]⟩] h=lx C fl k p0 gy gz h:=yV (aq8 C fl k (aD _)) p0 gy gz (by kernel_rfl) (by kernel_rfl)
def PB(t2:Sl):List Value:=un 2 (t2.v::un 20 [])
def Hp:aa:=.seq (.region [m 22 3,m 2 22] [3,22]) (.ret)
def WC(t3:Sl):List Value:=un 3 (t3.v::un 19 [])
def J2(t3 t9:Sl)(t10 t11:Int):List Value:=un 3 (t3.v::un 5 (t9.v::vi t10::vi t11::un 11 []))
def Hq:aa:=.seq (.region [cm 12 .lss 11 10] []) (.seq (.cond (.t 12) (kl [12]) (.seq (kl [9,10,11,12]) (.exit 0))) (.seq (.block 1 (.seq (.region [m 13 11,ia 14 1 9 11,ls 15 14,m 4 13,m 5 15] [13,14,15]) (.region [m 16 3,m 17 4,m 18 5,oI 19 (.call (.f 118) [.t 18] (.one (.one .slice))),ia 20 1 16 17,sI 1 20 19] [4,5,16,17,18,19,20]))) (.region [bc 21 .add 11 1,m 11 21] [21])))
def RA:aa:=.seq (.block 0 (.loop Hq)) Hp
def afA(cn:aa):aa:=.seq (.seq (.region [oI 2 (.mv (.c (.slice none 0 0)))] [2]) (.seq (.region [m 6 0,ln 7 6,oI 8 (.cD 24 [.slice none 0 0] (.t 7) (.t 7)),m 3 8] [6,7,8]) (.region [m 9 0,ln 10 9,mc 11 0] [0]))) cn
def alO:aa:=afA RA
def afB(t0:Sl):List Value:=t0.v::un 22 []
def pn:ay:=⟨23,alO,[.tmp 2]⟩
theorem OG:okF Tryz.prog 142 pn=true:=by kernel_rfl
def LC{R:Type}(C:Callee)(fl k:Nat)(kr:ak R):ak R:=fun t3 h=>kr t3 h
theorem Z5:(cp WC (ce C fl k Hp K))=LC C fl k (cp PB (K .ret)):=by kernel_rfl
def rq{R:Type}(C:Callee)(fl k:Nat)(kn:ic R)(e0:ak R):ic R:=fun t3 t9 t10 t11 h=>if decide (t11<t10)=true then idx 1 t9 t11 fun p1=>bM h p1.block p1.off fun s2=>aC C fl fn.dL [vs s2] h fun v3 h4=>bB v3 fun s5=>idx 1 t3 t11 fun p6=>st fl h4 p6 [vs s5] fun h7=>kn t3 t9 t10 (bL (t11+1)) h7 else e0 t3 h
theorem Z6:(cp J2 (ce C fl k Hq K))=rq C fl k (cp J2 (K .normal)) (cp WC (K (.exit 0))):=by kernel_rfl
def zG(kn:ak R):Nat→ic R
 |0=>fun _ _ _ _ _=>none
 |m+1=>rq C fl k (zG kn m) kn
theorem Ng:∀m,(cp J2 (aR m (bH C fl k Hq 0 K)))=zG C fl k (cp WC (K .normal)) m
 |0=>by kernel_rfl
 |m+1=>mq (Z6 C fl k _) (aj (fun L=>rq C fl k L _) (Ng m))
def afC(kr:ak R):ic R:=zG C fl k (LC C fl k kr) k
theorem ahq:(cp J2 (ce C fl k RA K))=afC C fl k (cp PB (K .ret)):=(ou (mw (Ng C fl k (bU C fl k Hp K)))).trans (aj (fun L=>zG C fl k L k) (oh (Z5 C fl k K)))
def WD{R:Type}(C:Callee)(fl k:Nat)(kx:ic R)(kr:ak R):ak R:=fun t0 h=>xg 24 [.slice none 0 0] ((t0.l:Nat):Int) ((t0.l:Nat):Int) h fun s8 h9=>kx s8 t0 ((t0.l:Nat):Int) 0 h9
def alP(kr:ak R):ak R:=WD C fl k (afC C fl k kr) kr
theorem aq9(cn:aa):(cp afB (ce C fl k (afA cn) K))=WD C fl k (cp J2 (ce C fl k cn K)) (cp PB (K .ret)):=by kernel_rfl
theorem ara:(cp afB (ce C fl k alO K))=alP C fl k (cp PB (K .ret)):=(aq9 C fl k K RA).trans (aj (fun L0=>WD C fl k L0 _) (ahq C fl k K))
def ly(p0:Sl)(h:AH):Option (Value×AH):=alP C fl k (fun y2 q=>some (vs y2,q)) p0 h
theorem zH(p0:Sl)(h):bl C fl k pn [vs p0] h=ly C fl k p0 h:=acL (ara C fl k (aD _)) p0 (by kernel_rfl) (by kernel_rfl)
def PC(t8:Sl)(t9:Int):List Value:=un 8 (t8.v::vi t9::un 115 [])
def Hr:aa:=.seq (.region [m 123 12,m 124 10,m 8 123,m 9 124] [10,12,123,124]) (.ret)
abbrev xR(R:Type):=Int→Sl→AH→Option R
def A9(t10:Int)(t12:Sl):List Value:=un 10 (vi t10::un 1 (t12.v::un 112 []))
abbrev bk(R:Type):=Int→Addr→Addr→Int→Value→Sl→Int→AH→Option R
def bA(t2:Int)(t4 t5:Addr)(t10:Int)(t11:Value)(t12:Sl)(t13:Int):List Value:=un 2 (vi t2::un 1 (vp t4::vp t5::un 4 (vi t10::t11::t12.v::vi t13::un 111 [])))
def po:aa:=.region [m 31 13,bc 32 .add 31 1,m 13 32] [31,32]
def fK:aa:=.region [m 119 12,m 120 13,oI 121 (.aQ 1 [.int .i64 0] [(0,1,.t 120)]),oI 122 (.append 1 8 (.t 119) (.t 121)),m 12 122] [119,120,121,122]
abbrev sV(R:Type):=Int→Addr→Addr→Int→Value→Sl→Int→Addr→Int→Int→AH→Option R
def sW(t2:Int)(t4 t5:Addr)(t10:Int)(t11:Value)(t12:Sl)(t13:Int)(t14:Addr)(t97 t98:Int):List Value:=un 2 (vi t2::un 1 (vp t4::vp t5::un 4 (vi t10::t11::t12.v::vi t13::vp t14::un 82 (vi t97::vi t98::un 26 []))))
def fb:aa:=.region [bc 118 .add 98 1,m 98 118] [118]
def kq(cn:aa):aa:=.seq (.seq (.region [cm 99 .lss 98 97] []) (.seq (.cond (.t 99) (kl [99]) (.seq (kl [14,97,98,99]) (.exit 4))) (.block 5 (.seq (.region [m 100 98,oI 18 (.alloc [.int .i64 0]),sI 1 18 100] [100]) (.seq (.region [ls 101 5,li 102 18,ia 103 1 101 102,ls 104 103,m 105 13,ia 106 1 104 105,li 107 106,oI 19 (.alloc [.int .i64 0]),sI 1 19 107] [101,102,103,104,105,106,107]) (.seq (.region [li 108 18,li 109 14,cm 110 .neq 108 109,m 111 110,.fc 111 true [qI 112 (.load (.one (.int .i64)) (.t 19)),qI 113 (.cmp .neq .i64 (.t 112) (ci 0))],oI 114 (.pick (.t 111) (.t 113) (.c (.bool false)))] [108,109,110,111,112,113]) (.cond (.t 114) (.region [m 115 11,oI 116 (.xd 169 [] [.t 4,.t 18,.t 19,.t 14]),oI 117 (.call (.t 115) [.t 116] (.jo []))] [18,19,114,115,116,117]) (kl [18,19,114])))))))) cn
def gq:aa:=kq fb
def iI:aa:=.seq (.block 4 (.loop gq)) fK
def nS(cn:aa):aa:=.seq (.region [ls 96 5,ln 97 96,mc 98 0] [96]) cn
def jM:aa:=nS iI
abbrev ED(R:Type):=Int→Addr→Addr→Int→Value→Sl→Int→Addr→AH→Option R
def EE(t2:Int)(t4 t5:Addr)(t10:Int)(t11:Value)(t12:Sl)(t13:Int)(t14:Addr):List Value:=un 2 (vi t2::un 1 (vp t4::vp t5::un 4 (vi t10::t11::t12.v::vi t13::vp t14::un 110 [])))
def pY(cn:aa):aa:=.seq (.seq (.region [oJ 65 (.load (.one .kB) (.t 4)),m 66 10,lt 67 5,lj 68 14,ia 69 1 67 68,lt 70 69,m 71 13,ia 72 1 70 71,lj 73 72,oI 74 (.call (.f 120) [.t 65,.t 66,.t 73] (.one (.one (.int .i64)))),m 10 74] [65,66,67,68,69,70,71,72,73,74]) (.seq (.region [oJ 76 (.load (.one .kB) (.t 4)),lt 77 5,lj 78 14,ia 79 1 77 78,lt 80 79,m 81 13,ia 82 1 80 81,lj 83 82,oJ 84 (.call (.f 139) [.t 76,.t 83] (.jo [.one (.int .i64),.one (.int .i64)])),m 75 84,ex 85 75 0,ex 86 75 1,oJ 16 (.alloc [.int .i64 0]),sI 1 16 85,m 17 86] [75,76,77,78,79,80,81,82,83,84,85,86]) (.seq (.region [m 87 17,ck 88 .eql 87 0,m 89 88,.fc 89 true [qI 90 (.load (.one (.int .i64)) (.t 16)),qI 91 (.cmp .neq .i64 (.t 90) (ci 1))],oI 92 (.pick (.t 89) (.t 91) (.c (.bool false)))] [17,87,88,89,90,91]) (.cond (.t 92) (.region [m 93 11,oI 94 (.xd 168 [] [.t 4,.t 16,.t 14]),oI 95 (.call (.t 93) [.t 94] (.jo []))] [16,92,93,94,95]) (kl [16,92]))))) cn
def kR:aa:=pY jM
def uI(cn:aa):aa:=.seq (.seq (.region [li 52 15,ls 53 5,ln 54 53,cm 55 .eql 52 54] [52,53,54]) (.seq (.cond (.t 55) (.seq (kl [14,15,55]) (.exit 1)) (kl [55])) (.seq (.region [li 56 15,li 57 14,cm 58 .neq 56 57] [56,57]) (.cond (.t 58) (.seq (.region [m 59 11,oI 60 (.xd 167 [] [.t 15,.t 14]),oI 61 (.call (.t 59) [.t 60] (.jo []))] [15,58,59,60,61]) (.region [oI 62 (.load (.one .kB) (.t 4)),m 63 10,oI 64 (.call (.f 104) [.t 62,.t 63] (.one (.one (.int .i64)))),m 10 64] [62,63,64])) (kl [15,58]))))) cn
def nh:aa:=uI kR
abbrev sX(R:Type):=Int→Addr→Addr→Int→Value→Sl→Int→Addr→Addr→AH→Option R
def vg(t2:Int)(t4 t5:Addr)(t10:Int)(t11:Value)(t12:Sl)(t13:Int)(t14 t15:Addr):List Value:=un 2 (vi t2::un 1 (vp t4::vp t5::un 4 (vi t10::t11::t12.v::vi t13::vp t14::vp t15::un 109 [])))
def ni:aa:=.seq (.region [li 36 15,ls 37 5,ln 38 37,cm 39 .lss 36 38,m 40 39,.fc 40 true [qI 41 (.load (.one .slice) (.t 5)),qI 42 (.load (.one (.int .i64)) (.t 15)),qI 43 (.dx 1 (.t 41) (.t 42)),qI 44 (.load (.one .slice) (.t 43)),qI 45 (.mv (.t 13)),qI 46 (.dx 1 (.t 44) (.t 45)),qI 47 (.load (.one (.int .i64)) (.t 46)),qI 48 (.cmp .eql .i64 (.t 47) (ci 0))],oI 49 (.pick (.t 40) (.t 48) (.c (.bool false)))] [36,37,38,39,40,41,42,43,44,45,46,47,48]) (.seq (.cond (.t 49) (kl [49]) (.seq (kl [49]) (.exit 2))) (.block 3 (.region [li 50 15,bc 51 .add 50 1,sI 1 15 51] [50,51])))
def ru:aa:=.seq (.block 2 (.loop ni)) nh
def BV(cn:aa):aa:=.seq (.seq (.region [m 33 12,ln 34 33,oI 14 (.alloc [.int .i64 0]),sI 1 14 34] [33,34]) (.region [li 35 14,oI 15 (.alloc [.int .i64 0]),sI 1 15 35] [35])) cn
def wG:aa:=BV ru
def FB(cn vw:aa):aa:=.seq (.block 1 vw) cn
def Ba:aa:=FB po wG
def Nh(cn:aa):aa:=.seq (.seq (.region [m 21 13,m 22 2,cm 23 .lss 21 22,m 24 23,.fc 24 true [qI 25 (.mv (.t 12)),qI 26 (.len (.t 25)),qI 27 (.load (.one .slice) (.t 5)),qI 28 (.len (.t 27)),qI 29 (.cmp .lss .i64 (.t 26) (.t 28))],oI 30 (.pick (.t 24) (.t 29) (.c (.bool false)))] [21,22,23,24,25,26,27,28,29]) (.cond (.t 30) (kl [30]) (.seq (kl [2,4,5,11,13,30]) (.exit 0)))) cn
def Hs:aa:=Nh Ba
def RB:aa:=.seq (.block 0 (.loop Hs)) Hr
def afD(cn:aa):aa:=.seq (.seq (.region [oI 4 (.box (.t 0)),oI 5 (.box (.t 1)),oI 7 (.box (.t 3)),oI 8 (.mv (.c (.slice none 0 0))),mc 9 0] [0,1,3,8,9]) (.seq (.region [mc 10 1] []) (.seq (.region [oI 20 (.xd 166 [] [.t 5,.t 7]),m 11 20] [7,20]) (.seq (.region [oI 12 (.mv (.c (.slice none 0 0)))] []) (.region [mc 13 0] []))))) cn
def alQ:aa:=afD RB
abbrev J3(R:Type):=OA→Sl→Int→Sl→AH→Option R
def afE(t0:OA)(t1:Sl)(t2:Int)(t3:Sl):List Value:=vn t0::t1.v::vi t2::t3.v::un 121 []
def jN:ay:=⟨125,alQ,[.tmp 8,.tmp 9]⟩
theorem Fa:okF Tryz.prog 143 jN=true:=by kernel_rfl
def LD{R:Type}(C:Callee)(fl k:Nat)(kr:aO R):xR R:=fun t10 t12 h=>kr t12 t10 h
theorem Z7:(cp A9 (ce C fl k Hr K))=LD C fl k (cp PC (K .ret)):=by kernel_rfl
def dr{R:Type}(C:Callee)(fl k:Nat)(kn:bk R)(e0:xR R):bk R:=fun t2 t4 t5 t10 t11 t12 t13 h=>kn t2 t4 t5 t10 t11 t12 (bL (t13+1)) h
theorem um:(cp bA (ce C fl k po K))=dr C fl k (cp bA (K .normal)) (cp A9 (K (.exit 0))):=by kernel_rfl
def dZ{R:Type}(C:Callee)(fl k:Nat)(kn:bk R)(e1:bk R):bk R:=fun t2 t4 t5 t10 t11 t12 t13 h=>cU h [vi t13] fun b1 h2=>fW fl 1 8 t12 ⟨(some ⟨b1,0,none⟩),1,1⟩ h2 fun s3 h4=>kn t2 t4 t5 t10 t11 s3 t13 h4
theorem uo:(cp bA (ce C fl k fK K))=dZ C fl k (cp bA (K .normal)) (cp bA (K (.exit 1))):=by kernel_rfl
def bn{R:Type}(C:Callee)(fl k:Nat)(kn:sV R)(e4:bk R):sV R:=fun t2 t4 t5 t10 t11 t12 t13 t14 t97 t98 h=>kn t2 t4 t5 t10 t11 t12 t13 t14 t97 (bL (t98+1)) h
theorem rv:(cp sW (ce C fl k fb K))=bn C fl k (cp sW (K .normal)) (cp bA (K (.exit 4))):=by kernel_rfl
def cS{R:Type}(C:Callee)(fl k:Nat)(kx:sV R)(kn:sV R)(e4:bk R):sV R:=fun t2 t4 t5 t10 t11 t12 t13 t14 t97 t98 h=>if decide (t98<t97)=true then cU h [.int .i64 0] fun b5 h6=>st fl h6 ⟨b5,0,none⟩ [vi t98] fun h7=>bM h7 t5.block t5.off fun s8=>aE .i64 h7 b5 0 fun n9=>idx 1 s8 n9 fun TH=>bM h7 TH.block TH.off fun KK=>idx 1 KK t13 fun Mc=>aE .i64 h7 Mc.block Mc.off fun Fs=>cU h7 [.int .i64 0] fun KQ EP=>st fl EP ⟨KQ,0,none⟩ [vi Fs] fun NQ=>aE .i64 NQ b5 0 fun Sj=>aE .i64 NQ t14.block t14.off fun n18=>if (Sj !=n18)=true then aE .i64 NQ KQ 0 fun PY=>if (PY !=0)=true then lX C fl t11 [.func (.func fn.eL) ⟨[]⟩ ⟨[.pointer (some t4),.pointer (some ⟨b5,0,none⟩),.pointer (some ⟨KQ,0,none⟩),.pointer (some t14)]⟩] NQ fun v20 Sy=>bj v20 fun l22=>ch l22 (kx t2 t4 t5 t10 t11 t12 t13 t14 t97 t98 Sy) else kx t2 t4 t5 t10 t11 t12 t13 t14 t97 t98 NQ else kx t2 t4 t5 t10 t11 t12 t13 t14 t97 t98 NQ else e4 t2 t4 t5 t10 t11 t12 t13 h
def bT(kn:sV R)(e4:bk R):sV R:=cS C fl k (bn C fl k kn e4) kn e4
theorem vh(cn:aa):(cp sW (ce C fl k (kq cn) K))=cS C fl k (cp sW (ce C fl k cn K)) (cp sW (K .normal)) (cp bA (K (.exit 4))):=by kernel_rfl
theorem vj:(cp sW (ce C fl k gq K))=bT C fl k (cp sW (K .normal)) (cp bA (K (.exit 4))):=(vh C fl k K fb).trans (aj (fun L0=>cS C fl k L0 _ _) (rv C fl k K))
def aZ(kn:bk R):Nat→sV R
 |0=>fun _ _ _ _ _ _ _ _ _ _ _=>none
 |m+1=>bT C fl k (aZ kn m) kn
theorem ku:∀m,(cp sW (aR m (bH C fl k gq 4 K)))=aZ C fl k (cp bA (K .normal)) m
 |0=>by kernel_rfl
 |m+1=>mq (vj C fl k _) (aj (fun L=>bT C fl k L _) (ku m))
def jn(kn:bk R)(e1:bk R):sV R:=aZ C fl k (dZ C fl k kn e1) k
theorem xo:(cp sW (ce C fl k iI K))=jn C fl k (cp bA (K .normal)) (cp bA (K (.exit 1))):=(ou (mw (ku C fl k (bU C fl k fK K)))).trans (aj (fun L=>aZ C fl k L k) (oh (uo C fl k K)))
def fL{R:Type}(C:Callee)(fl k:Nat)(kx:sV R)(kn:bk R)(e1:bk R):ED R:=fun t2 t4 t5 t10 t11 t12 t13 t14 h=>bM h t5.block t5.off fun s23=>kx t2 t4 t5 t10 t11 t12 t13 t14 ((s23.l:Nat):Int) 0 h
def dj(kn:bk R)(e1:bk R):ED R:=fL C fl k (jn C fl k kn e1) kn e1
theorem zI(cn:aa):(cp EE (ce C fl k (nS cn) K))=fL C fl k (cp sW (ce C fl k cn K)) (cp bA (K .normal)) (cp bA (K (.exit 1))):=by kernel_rfl
theorem zJ:(cp EE (ce C fl k jM K))=dj C fl k (cp bA (K .normal)) (cp bA (K (.exit 1))):=(zI C fl k K iI).trans (aj (fun L0=>fL C fl k L0 _ _) (xo C fl k K))
def ik{R:Type}(C:Callee)(fl k:Nat)(kx:ED R)(kn:bk R)(e1:bk R):ED R:=fun t2 t4 t5 t10 t11 t12 t13 t14 h=>ldN h t4.block t4.off fun p24=>bM h t5.block t5.off fun s25=>aE .i64 h t14.block t14.off fun PW=>idx 1 s25 PW fun p27=>bM h p27.block p27.off fun s28=>idx 1 s28 t13 fun p29=>aE .i64 h p29.block p29.off fun n30=>aC C fl fn.dM [.pointer p24,vi t10,vi n30] h fun v31 PU=>asInt .i64 v31 fun n33=>ldN PU t4.block t4.off fun p34=>bM PU t5.block t5.off fun s35=>aE .i64 PU t14.block t14.off fun n36=>idx 1 s35 n36 fun p37=>bM PU p37.block p37.off fun s38=>idx 1 s38 t13 fun p39=>aE .i64 PU p39.block p39.off fun n40=>aC C PU.next fn.hX [.pointer p34,vi n40] PU fun v41 h42=>bj v41 fun l43=>aG l43 fun v44 l45=>asInt .i64 v44 fun n46=>aG l45 fun v47 l48=>asInt .i64 v47 fun n49=>ch l48 (cU h42 [.int .i64 0] fun b50 h51=>st fl h51 ⟨b50,0,none⟩ [vi n46] fun h52=>if (n49==0)=true then aE .i64 h52 b50 0 fun n53=>if (n53 !=1)=true then lX C fl t11 [.func (.func fn.eK) ⟨[]⟩ ⟨[.pointer (some t4),.pointer (some ⟨b50,0,none⟩),.pointer (some t14)]⟩] h52 fun v54 h55=>bj v54 fun l56=>ch l56 (kx t2 t4 t5 n33 t11 t12 t13 t14 h55) else kx t2 t4 t5 n33 t11 t12 t13 t14 h52 else kx t2 t4 t5 n33 t11 t12 t13 t14 h52)
def fD(kn:bk R)(e1:bk R):ED R:=ik C fl k (dj C fl k kn e1) kn e1
theorem Cf(cn:aa):(cp EE (ce C fl k (pY cn) K))=ik C fl k (cp EE (ce C fl k cn K)) (cp bA (K .normal)) (cp bA (K (.exit 1))):=by kernel_rfl
theorem Cg:(cp EE (ce C fl k kR K))=fD C fl k (cp bA (K .normal)) (cp bA (K (.exit 1))):=(Cf C fl k K jM).trans (aj (fun L0=>ik C fl k L0 _ _) (zJ C fl k K))
def gu{R:Type}(C:Callee)(fl k:Nat)(kx:ED R)(kn:bk R)(e1:bk R):sX R:=fun t2 t4 t5 t10 t11 t12 t13 t14 t15 h=>aE .i64 h t15.block t15.off fun n57=>bM h t5.block t5.off fun s58=>if (n57==((s58.l:Nat):Int))=true then e1 t2 t4 t5 t10 t11 t12 t13 h else aE .i64 h t15.block t15.off fun n59=>aE .i64 h t14.block t14.off fun n60=>if (n59 !=n60)=true then lX C fl t11 [.func (.func fn.bG) ⟨[]⟩ ⟨[.pointer (some t15),.pointer (some t14)]⟩] h fun v61 h62=>bj v61 fun l63=>ch l63 (ldN h62 t4.block t4.off fun p64=>aC C fl fn.eO [.pointer p64,vi t10] h62 fun v65 h66=>asInt .i64 v65 fun n67=>kx t2 t4 t5 n67 t11 t12 t13 t14 h66) else kx t2 t4 t5 t10 t11 t12 t13 t14 h
def ed(kn:bk R)(e1:bk R):sX R:=gu C fl k (fD C fl k kn e1) kn e1
theorem Fb(cn:aa):(cp vg (ce C fl k (uI cn) K))=gu C fl k (cp EE (ce C fl k cn K)) (cp bA (K .normal)) (cp bA (K (.exit 1))):=by kernel_rfl
theorem Fc:(cp vg (ce C fl k nh K))=ed C fl k (cp bA (K .normal)) (cp bA (K (.exit 1))):=(Fb C fl k K kR).trans (aj (fun L0=>gu C fl k L0 _ _) (Cg C fl k K))
def ef{R:Type}(C:Callee)(fl k:Nat)(kn:sX R)(e2:sX R):sX R:=fun t2 t4 t5 t10 t11 t12 t13 t14 t15 h=>aE .i64 h t15.block t15.off fun n68=>bM h t5.block t5.off fun s69=>if decide (n68<((s69.l:Nat):Int))=true then bM h t5.block t5.off fun s70=>aE .i64 h t15.block t15.off fun n71=>idx 1 s70 n71 fun p72=>bM h p72.block p72.off fun s73=>idx 1 s73 t13 fun p74=>aE .i64 h p74.block p74.off fun n75=>if (n75==0)=true then aE .i64 h t15.block t15.off fun n76=>st fl h t15 [vi (bL (n76+1))] fun h77=>kn t2 t4 t5 t10 t11 t12 t13 t14 t15 h77 else e2 t2 t4 t5 t10 t11 t12 t13 t14 t15 h else e2 t2 t4 t5 t10 t11 t12 t13 t14 t15 h
theorem Fe:(cp vg (ce C fl k ni K))=ef C fl k (cp vg (K .normal)) (cp vg (K (.exit 2))):=by kernel_rfl
def df(kn:sX R):Nat→sX R
 |0=>fun _ _ _ _ _ _ _ _ _ _=>none
 |m+1=>ef C fl k (df kn m) kn
theorem uJ:∀m,(cp vg (aR m (bH C fl k ni 2 K)))=df C fl k (cp vg (K .normal)) m
 |0=>by kernel_rfl
 |m+1=>mq (Fe C fl k _) (aj (fun L=>ef C fl k L _) (uJ m))
def uq(kn:bk R)(e1:bk R):sX R:=df C fl k (ed C fl k kn e1) k
theorem J4:(cp vg (ce C fl k ru K))=uq C fl k (cp bA (K .normal)) (cp bA (K (.exit 1))):=(ou (mw (uJ C fl k (bU C fl k nh K)))).trans (aj (fun L=>df C fl k L k) (oh (Fc C fl k K)))
def pq{R:Type}(C:Callee)(fl k:Nat)(kx:sX R)(kn:bk R)(e1:bk R):bk R:=fun t2 t4 t5 t10 t11 t12 t13 h=>cU h [.int .i64 0] fun b78 h79=>st fl h79 ⟨b78,0,none⟩ [vi ((t12.l:Nat):Int)] fun h80=>aE .i64 h80 b78 0 fun n81=>cU h80 [.int .i64 0] fun b82 h83=>st fl h83 ⟨b82,0,none⟩ [vi n81] fun h84=>kx t2 t4 t5 t10 t11 t12 t13 ⟨b78,0,none⟩ ⟨b82,0,none⟩ h84
def sY(kn:bk R)(e1:bk R):bk R:=pq C fl k (uq C fl k kn e1) kn e1
theorem OH(cn:aa):(cp bA (ce C fl k (BV cn) K))=pq C fl k (cp vg (ce C fl k cn K)) (cp bA (K .normal)) (cp bA (K (.exit 1))):=by kernel_rfl
theorem OJ:(cp bA (ce C fl k wG K))=sY C fl k (cp bA (K .normal)) (cp bA (K (.exit 1))):=(OH C fl k K ru).trans (aj (fun L0=>pq C fl k L0 _ _) (J4 C fl k K))
def vk{R:Type}(C:Callee)(fl k:Nat)(kx:bk R)(u0:bk R)(kn:bk R)(e0:xR R):bk R:=fun t2 t4 t5 t10 t11 t12 t13 h=>u0 t2 t4 t5 t10 t11 t12 t13 h
def xS(kn:bk R)(e0:xR R):bk R:=vk C fl k (dr C fl k kn e0) (sY C fl k (dr C fl k kn e0) (dr C fl k kn e0)) kn e0
theorem S6(cn vw:aa):(cp bA (ce C fl k (FB cn vw) K))=vk C fl k (cp bA (ce C fl k cn K)) (cp bA (ce C fl k vw (vJ 1 (bU C fl k cn K)))) (cp bA (K .normal)) (cp A9 (K (.exit 0))):=by kernel_rfl
theorem S7:(cp bA (ce C fl k Ba K))=xS C fl k (cp bA (K .normal)) (cp A9 (K (.exit 0))):=(S6 C fl k K po wG).trans (ot (fun L0 L1=>vk C fl k L0 L1 _ _) (um C fl k K) ((OJ C fl k (vJ 1 (bU C fl k po K))).trans (ot (fun L0 L1=>sY C fl k L0 L1) (bn1 (um C fl k K)) (bx1 (um C fl k K)))))
def wH{R:Type}(C:Callee)(fl k:Nat)(kx:bk R)(kn:bk R)(e0:xR R):bk R:=fun t2 t4 t5 t10 t11 t12 t13 h=>if decide (t13<t2)=true then bM h t5.block t5.off fun s85=>if decide (((t12.l:Nat):Int)<((s85.l:Nat):Int))=true then kx t2 t4 t5 t10 t11 t12 t13 h else e0 t10 t12 h else e0 t10 t12 h
def rz(kn:bk R)(e0:xR R):bk R:=wH C fl k (xS C fl k kn e0) kn e0
theorem Z8(cn:aa):(cp bA (ce C fl k (Nh cn) K))=wH C fl k (cp bA (ce C fl k cn K)) (cp bA (K .normal)) (cp A9 (K (.exit 0))):=by kernel_rfl
theorem Z9:(cp bA (ce C fl k Hs K))=rz C fl k (cp bA (K .normal)) (cp A9 (K (.exit 0))):=(Z8 C fl k K Ba).trans (aj (fun L0=>wH C fl k L0 _ _) (S7 C fl k K))
def fT(kn:xR R):Nat→bk R
 |0=>fun _ _ _ _ _ _ _ _=>none
 |m+1=>rz C fl k (fT kn m) kn
theorem Ni:∀m,(cp bA (aR m (bH C fl k Hs 0 K)))=fT C fl k (cp A9 (K .normal)) m
 |0=>by kernel_rfl
 |m+1=>mq (Z9 C fl k _) (aj (fun L=>rz C fl k L _) (Ni m))
def afF(kr:aO R):bk R:=fT C fl k (LD C fl k kr) k
theorem ahr:(cp bA (ce C fl k RB K))=afF C fl k (cp PC (K .ret)):=(ou (mw (Ni C fl k (bU C fl k Hr K)))).trans (aj (fun L=>fT C fl k L k) (oh (Z7 C fl k K)))
def WE{R:Type}(C:Callee)(fl k:Nat)(kx:bk R)(kr:aO R):J3 R:=fun t0 t1 t2 t3 h=>cU h [.pointer t0] fun b86 h87=>cU h87 [vs t1] fun b88 h89=>cU h89 [vs t3] fun b90 h91=>kx t2 ⟨b86,0,none⟩ ⟨b88,0,none⟩ 1 (.func (.func fn.eJ) ⟨[]⟩ ⟨[.pointer (some ⟨b88,0,none⟩),.pointer (some ⟨b90,0,none⟩)]⟩) ⟨none,0,0⟩ 0 h91
def alR(kr:aO R):J3 R:=WE C fl k (afF C fl k kr) kr
theorem arb(cn:aa):(cp afE (ce C fl k (afD cn) K))=WE C fl k (cp bA (ce C fl k cn K)) (cp PC (K .ret)):=by kernel_rfl
theorem arc:(cp afE (ce C fl k alQ K))=alR C fl k (cp PC (K .ret)):=(arb C fl k K RB).trans (aj (fun L0=>WE C fl k L0 _) (ahr C fl k K))
def fS(p0:OA)(p1:Sl)(p2:Int)(p3:Sl)(h:AH):Option (Value×AH):=alR C fl k (fun y8 y9 q=>some (.tuple ⟨[vs y8,vi y9]⟩,q)) p0 p1 p2 p3 h
theorem tS(p0:OA)(p1:Sl)(p2:Int)(p3:Sl)(h):bl C fl k jN [.pointer p0,vs p1,vi p2,vs p3] h=fS C fl k p0 p1 p2 p3 h:=NT (arc C fl k (aD _)) p0 p1 p2 p3 (by kernel_rfl) (by kernel_rfl)
def ard(t4:Int):List Value:=un 4 (vi t4::un 4 [])
def alS:aa:=.seq (.region [mc 4 0] [4]) (.seq (.region [m 5 0,m 6 1,oI 7 (.call (.f 109) [.t 5,.t 6] (.one (.one .bool)))] [0,5,6]) (.seq (.cond (.t 7) (.seq (.region [m 8 1,m 4 8] [1,7,8]) (.ret)) (kl [1,7])) (.seq (.region [mc 4 0] []) (.ret))))
def are(t0:OA)(t1:Int):List Value:=vn t0::vi t1::un 7 []
def sZ:ay:=⟨9,alS,[.tmp 4]⟩
theorem RC:okF Tryz.prog 144 sZ=true:=by kernel_rfl
def alT{R:Type}(C:Callee)(fl k:Nat)(kr:ae R):fh R:=fun t0 t1 h=>aC C fl fn.kL [.pointer t0,vi t1] h fun v1 h2=>asBool v1 fun b3=>if b3=true then kr t1 h2 else kr 0 h2
theorem arf:(cp are (ce C fl k alS K))=alT C fl k (cp ard (K .ret)):=by kernel_rfl
def eY(p0:OA)(p1:Int)(h:AH):Option (Value×AH):=alT C fl k (fun y4 q=>some (vi y4,q)) p0 p1 h
theorem BW(p0:OA)(p1:Int)(h):bl C fl k sZ [.pointer p0,vi p1] h=eY C fl k p0 p1 h:=Ca (arf C fl k (aD _)) p0 p1 (by kernel_rfl) (by kernel_rfl)
def Bb:List Value:=un 33 []
abbrev te(R:Type):=OA→Sl→Int→Sl→Int→Int→AH→Option R
def tg(t0:OA)(t1:Sl)(t2:Int)(t10:Sl)(t11 t12:Int):List Value:=vn t0::t1.v::vi t2::un 7 (t10.v::vi t11::vi t12::un 20 [])
def Bc:aa:=.region [bc 32 .add 12 1,m 12 32] [32]
def Nj(cn:aa):aa:=.seq (.seq (.region [cm 13 .lss 12 11] []) (.seq (.cond (.t 13) (kl [13]) (.seq (kl [0,1,2,10,11,12,13]) (.exit 0))) (.block 1 (.seq (.region [m 14 12,ia 15 1 10 12,li 16 15,m 8 14,m 9 16] [14,15,16]) (.seq (.region [m 17 9,ck 18 .neq 17 0] [17]) (.cond (.t 18) (.region [m 19 1,m 20 8,m 21 0,m 22 1,m 23 8,ia 24 1 22 23,lj 25 24,m 26 0,m 27 2,m 28 9,oJ 29 (.call (.f 120) [.t 26,.t 27,.t 28] (.one (.one (.int .i64)))),oI 30 (.call (.f 149) [.t 21,.t 25,.t 29] (.one (.one (.int .i64)))),ia 31 1 19 20,sI 1 31 30] [8,9,18,19,20,21,22,23,24,25,26,27,28,29,30,31]) (kl [8,9,18]))))))) cn
def Ht:aa:=Nj Bc
def RD:aa:=.block 0 (.loop Ht)
def afG(cn:aa):aa:=.seq (.region [m 10 3,ln 11 10,mc 12 0] [3]) cn
def alU:aa:=afG RD
def afH(t0:OA)(t1:Sl)(t2:Int)(t3:Sl):List Value:=vn t0::t1.v::vi t2::t3.v::un 29 []
def vm:ay:=⟨33,alU,[]⟩
theorem S8:okF Tryz.prog 145 vm=true:=by kernel_rfl
def xT{R:Type}(C:Callee)(fl k:Nat)(kn:te R)(e0:ar R):te R:=fun t0 t1 t2 t10 t11 t12 h=>kn t0 t1 t2 t10 t11 (bL (t12+1)) h
theorem S9:(cp tg (ce C fl k Bc K))=xT C fl k (cp tg (K .normal)) (cp Bb (K (.exit 0))):=by kernel_rfl
def wI{R:Type}(C:Callee)(fl k:Nat)(kx:te R)(kn:te R)(e0:ar R):te R:=fun t0 t1 t2 t10 t11 t12 h=>if decide (t12<t11)=true then idx 1 t10 t12 fun p1=>aE .i64 h p1.block p1.off fun n2=>if (n2 !=0)=true then idx 1 t1 t12 fun p3=>aE .i64 h p3.block p3.off fun n4=>aC C h.next fn.dM [.pointer t0,vi t2,vi n2] h fun v5 h6=>asInt .i64 v5 fun n7=>aC C fl fn.hZ [.pointer t0,vi n4,vi n7] h6 fun v8 h9=>asInt .i64 v8 fun ux=>idx 1 t1 t12 fun p11=>st fl h9 p11 [vi ux] fun H3=>kx t0 t1 t2 t10 t11 t12 H3 else kx t0 t1 t2 t10 t11 t12 h else e0 h
def rA(kn:te R)(e0:ar R):te R:=wI C fl k (xT C fl k kn e0) kn e0
theorem aaa(cn:aa):(cp tg (ce C fl k (Nj cn) K))=wI C fl k (cp tg (ce C fl k cn K)) (cp tg (K .normal)) (cp Bb (K (.exit 0))):=by kernel_rfl
theorem aab:(cp tg (ce C fl k Ht K))=rA C fl k (cp tg (K .normal)) (cp Bb (K (.exit 0))):=(aaa C fl k K Bc).trans (aj (fun L0=>wI C fl k L0 _ _) (S9 C fl k K))
def vE(kn:ar R):Nat→te R
 |0=>fun _ _ _ _ _ _ _=>none
 |m+1=>rA C fl k (vE kn m) kn
theorem Nk:∀m,(cp tg (aR m (bH C fl k Ht 0 K)))=vE C fl k (cp Bb (K .normal)) m
 |0=>by kernel_rfl
 |m+1=>mq (aab C fl k _) (aj (fun L=>rA C fl k L _) (Nk m))
def WG(kn:ar R):te R:=vE C fl k kn k
theorem ahs:(cp tg (ce C fl k RD K))=WG C fl k (cp Bb (K .normal)):=mw (Nk C fl k K)
def WH{R:Type}(C:Callee)(fl k:Nat)(kx:te R)(kn:ar R):J3 R:=fun t0 t1 t2 t3 h=>kx t0 t1 t2 t3 ((t3.l:Nat):Int) 0 h
def alV(kn:ar R):J3 R:=WH C fl k (WG C fl k kn) kn
theorem arh(cn:aa):(cp afH (ce C fl k (afG cn) K))=WH C fl k (cp tg (ce C fl k cn K)) (cp Bb (K .normal)):=by kernel_rfl
theorem ari:(cp afH (ce C fl k alU K))=alV C fl k (cp Bb (K .normal)):=(arh C fl k K RD).trans (aj (fun L0=>WH C fl k L0 _) (ahs C fl k K))
def qj(p0:OA)(p1:Sl)(p2:Int)(p3:Sl)(h:AH):Option (Value×AH):=alV C fl k (fun q=>some (.tuple ⟨[]⟩,q)) p0 p1 p2 p3 h
theorem Dg(p0:OA)(p1:Sl)(p2:Int)(p3:Sl)(h):bl C fl k vm [.pointer p0,vs p1,vi p2,vs p3] h=qj C fl k p0 p1 p2 p3 h:=NT (ari C fl k (aD _)) p0 p1 p2 p3 (by kernel_rfl) (by kernel_rfl)
def EF(t2:Bool):List Value:=un 2 (.bool t2::un 14 [])
def Hu:aa:=.seq (.region [m 15 0,ck 16 .geq 15 2,m 2 16] [0,15,16]) (.ret)
def J5(t0:Int):List Value:=vi t0::un 16 []
def J6(t0 t3:Int):List Value:=vi t0::un 2 (vi t3::un 13 [])
def Hv:aa:=.seq (.region [m 4 3,m 5 3,bb 6 .mul 4 5,m 7 0,cm 8 .leq 6 7] [4,5,6,7]) (.seq (.cond (.t 8) (kl [8]) (.seq (kl [3,8]) (.exit 0))) (.seq (.block 1 (.seq (.region [m 11 0,m 12 3,bb 13 .rem 11 12,ck 14 .eql 13 0] [11,12,13]) (.cond (.t 14) (.seq (.region [oI 2 (.mv (.c (.bool false)))] [0,3,14]) (.ret)) (kl [14])))) (.region [m 9 3,bc 10 .add 9 1,m 3 10] [9,10])))
def RE:aa:=.seq (.block 0 (.loop Hv)) Hu
def afI(cn:aa):aa:=.seq (.seq (.region [oI 2 (.mv (.c (.bool false)))] [2]) (.region [mc 3 2] [])) cn
def alX:aa:=afI RE
def mN:ay:=⟨17,alX,[.tmp 2]⟩
theorem LF:okF Tryz.prog 146 mN=true:=by kernel_rfl
def EG{R:Type}(C:Callee)(fl k:Nat)(kr:au R):ae R:=fun t0 h=>kr (decide (t0≥2)) h
theorem aac:(cp J5 (ce C fl k Hu K))=EG C fl k (cp EF (K .ret)):=by kernel_rfl
def rB{R:Type}(C:Callee)(fl k:Nat)(kn:gF R)(e0:ae R)(kr:au R):gF R:=fun t0 t3 h=>if decide (bL (t3*t3)≤t0)=true then jd .rem .i64 t0 t3 fun n1=>if (n1==0)=true then kr false h else kn t0 (bL (t3+1)) h else e0 t0 h
theorem aad:(cp J6 (ce C fl k Hv K))=rB C fl k (cp J6 (K .normal)) (cp J5 (K (.exit 0))) (cp EF (K .ret)):=by kernel_rfl
def zK(kn:ae R)(kr:au R):Nat→gF R
 |0=>fun _ _ _=>none
 |m+1=>rB C fl k (zK kn kr m) kn kr
theorem Nl:∀m,(cp J6 (aR m (bH C fl k Hv 0 K)))=zK C fl k (cp J5 (K .normal)) (cp EF (K .ret)) m
 |0=>by kernel_rfl
 |m+1=>mq (aad C fl k _) (aj (fun L=>rB C fl k L _ _) (Nl m))
def WI(kr:au R):gF R:=zK C fl k (EG C fl k kr) kr k
theorem aht:(cp J6 (ce C fl k RE K))=WI C fl k (cp EF (K .ret)):=(ou (mw (Nl C fl k (bU C fl k Hu K)))).trans (aj (fun L=>zK C fl k L _ k) (oh (aac C fl k K)))
def WJ{R:Type}(C:Callee)(fl k:Nat)(kx:gF R)(kr:au R):ae R:=fun t0 h=>kx t0 2 h
def alY(kr:au R):ae R:=WJ C fl k (WI C fl k kr) kr
theorem arj(cn:aa):(cp J5 (ce C fl k (afI cn) K))=WJ C fl k (cp J6 (ce C fl k cn K)) (cp EF (K .ret)):=by kernel_rfl
theorem ark:(cp J5 (ce C fl k alX K))=alY C fl k (cp EF (K .ret)):=(arj C fl k K RE).trans (aj (fun L0=>WJ C fl k L0 _) (aht C fl k K))
def j0(p0:Int)(h:AH):Option (Value×AH):=alY C fl k (fun y2 q=>some (.bool y2,q)) p0 h
theorem xU(p0:Int)(h):bl C fl k mN [vi p0] h=j0 C fl k p0 h:=acL (ark C fl k (aD _)) p0 (by kernel_rfl) (by kernel_rfl)
def PD(t6:Sl):List Value:=un 6 (t6.v::un 30 [])
def Hw:aa:=.seq (.region [m 36 7,m 6 36] [7,36]) (.ret)
def WK(t7:Sl):List Value:=un 7 (t7.v::un 29 [])
abbrev J7(R:Type):=Int→Addr→Sl→Sl→Int→AH→Option R
def J8(t2:Int)(t3:Addr)(t7 t8:Sl)(t9:Int):List Value:=un 2 (vi t2::vp t3::un 3 (t7.v::t8.v::vi t9::un 27 []))
def Hx:aa:=.seq (.region [m 16 9,ck 17 .neq 16 0,m 18 17,.fc 18 true [qI 19 (.mv (.t 8)),qI 20 (.mv (.t 9)),qI 21 (.dx 1 (.t 19) (.t 20)),qI 22 (.load (.one .bool) (.t 21)),qI 23 (.not (.t 22))],oI 24 (.pick (.t 18) (.t 23) (.c (.bool false)))] [16,17,18,19,20,21,22,23]) (.seq (.cond (.t 24) (kl [24]) (.seq (kl [2,3,8,9,24]) (.exit 0))) (.seq (.block 1 (.seq (.region [m 29 8,m 30 9,ia 31 1 29 30,pI (.store 1 (.t 31) (.c (.bool true)))] [29,30,31]) (.region [m 32 7,m 33 9,oI 34 (.aQ 1 [.int .i64 0] [(0,1,.t 33)]),oI 35 (.append 1 8 (.t 32) (.t 34)),m 7 35] [32,33,34,35]))) (.region [oI 25 (.load (.agg [.int .i64,.int .i64,.slice]) (.t 3)),m 26 9,m 27 2,oI 28 (.call (.f 148) [.t 25,.t 26,.t 27] (.one (.one (.int .i64)))),m 9 28] [25,26,27,28])))
def RG:aa:=.seq (.block 0 (.loop Hx)) Hw
def afJ(cn:aa):aa:=.seq (.seq (.region [oI 3 (.box (.t 0)),oI 6 (.mv (.c (.slice none 0 0)))] [0,6]) (.seq (.region [oI 10 (.aQ 1 [.int .i64 0] [(0,1,ci 1)]),m 7 10] [10]) (.seq (.region [m 11 1,oI 12 (.cD 1 [.bool false] (.t 11) (.t 11)),m 8 12] [1,11,12]) (.seq (.region [m 13 8,oI 14 (.dx 1 (.t 13) (ci 1)),pI (.store 1 (.t 14) (.c (.bool true)))] [13,14]) (.region [m 15 2,m 9 15] [15]))))) cn
def alZ:aa:=afJ RG
abbrev il(R:Type):=Int→Int→Sl→Int→Int→AH→Option R
def afK(aI aH:Int)(aK:Sl)(t1 t2:Int):List Value:=.agg ⟨[vi aI,vi aH,vs aK]⟩::vi t1::vi t2::un 34 []
def px:ay:=⟨37,alZ,[.tmp 6]⟩
theorem OK:okF Tryz.prog 147 px=true:=by kernel_rfl
def LG{R:Type}(C:Callee)(fl k:Nat)(kr:ak R):ak R:=fun t7 h=>kr t7 h
theorem aae:(cp WK (ce C fl k Hw K))=LG C fl k (cp PD (K .ret)):=by kernel_rfl
def zL{R:Type}(C:Callee)(fl k:Nat)(kn:J7 R)(e0:ak R):J7 R:=fun t2 t3 t7 t8 t9 h=>if (t9 !=0)=true then idx 1 t8 t9 fun p1=>ldB h p1.block p1.off fun b2=>if (!b2)=true then idx 1 t8 t9 fun p3=>st fl h p3 [.bool true] fun h4=>cU h4 [vi t9] fun b5 h6=>fW fl 1 8 t7 ⟨(some ⟨b5,0,none⟩),1,1⟩ h6 fun s7 h8=>aE .i64 h8 t3.block t3.off fun n9=>aE .i64 h8 t3.block (t3.off+1) fun ux=>bM h8 t3.block (t3.off+1+1) fun KK=>aC C fl fn.eZ [.agg ⟨[vi n9,vi ux,vs KK]⟩,vi t9,vi t2] h8 fun v12 uV=>asInt .i64 v12 fun DM=>kn t2 t3 s7 t8 DM uV else e0 t7 h else e0 t7 h
theorem aaf:(cp J8 (ce C fl k Hx K))=zL C fl k (cp J8 (K .normal)) (cp WK (K (.exit 0))):=by kernel_rfl
def rC(kn:ak R):Nat→J7 R
 |0=>fun _ _ _ _ _ _=>none
 |m+1=>zL C fl k (rC kn m) kn
theorem Nm:∀m,(cp J8 (aR m (bH C fl k Hx 0 K)))=rC C fl k (cp WK (K .normal)) m
 |0=>by kernel_rfl
 |m+1=>mq (aaf C fl k _) (aj (fun L=>zL C fl k L _) (Nm m))
def WL(kr:ak R):J7 R:=rC C fl k (LG C fl k kr) k
theorem ahu:(cp J8 (ce C fl k RG K))=WL C fl k (cp PD (K .ret)):=(ou (mw (Nm C fl k (bU C fl k Hw K)))).trans (aj (fun L=>rC C fl k L k) (oh (aae C fl k K)))
def WM{R:Type}(C:Callee)(fl k:Nat)(kx:J7 R)(kr:ak R):il R:=fun aI aH aK t1 t2 h=>cU h [vi aI,vi aH,vs aK] fun b15 NQ=>cU NQ [vi 1] fun b17 O4=>xg 1 [.bool false] t1 t1 O4 fun s19 h20=>idx 1 s19 1 fun p21=>st fl h20 p21 [.bool true] fun h22=>kx t2 ⟨b15,0,none⟩ ⟨(some ⟨b17,0,none⟩),1,1⟩ s19 t2 h22
def al0(kr:ak R):il R:=WM C fl k (WL C fl k kr) kr
theorem arl(cn:aa):(cp afK (ce C fl k (afJ cn) K))=WM C fl k (cp J8 (ce C fl k cn K)) (cp PD (K .ret)):=by kernel_rfl
theorem arn:(cp afK (ce C fl k alZ K))=al0 C fl k (cp PD (K .ret)):=(arl C fl k K RG).trans (aj (fun L0=>WM C fl k L0 _) (ahu C fl k K))
def lz(ax aw:Int)(aA:Sl)(p1 p2:Int)(h:AH):Option (Value×AH):=al0 C fl k (fun y6 q=>some (vs y6,q)) ax aw aA p1 p2 h
theorem zM(ax aw:Int)(aA:Sl)(p1 p2:Int)(h):bl C fl k px [.agg ⟨[vi ax,vi aw,vs aA]⟩,vi p1,vi p2] h=lz C fl k ax aw aA p1 p2 h:=vU (arn C fl k (aD _)) ax aw aA p1 p2 (by kernel_rfl) (by kernel_rfl)
end Go.Abs.P
end
section
set_option maxRecDepth 100000
set_option linter.unusedVariables false
namespace Go.Abs.P
open Go.Abs Go.Abs.CP Go.Abs.C Go.Proofs
variable{R:Type}(C:Callee)(fl k:Nat)(K:KF R)
def PE(t6:Int):List Value:=un 6 (vi t6::un 90 [])
def Hy:aa:=.seq (.region [m 93 9,fa 94 0 3,li 95 94,oI 96 (.call (.f 171) [.t 93,.t 95] (.one (.one (.int .i64)))),m 6 96] [3,9,93,94,95,96]) (.ret)
def Bd(t3:Addr)(t9:Sl):List Value:=un 3 (vp t3::un 5 (t9.v::un 87 []))
abbrev aY(R:Type):=Addr→Sl→Sl→Sl→Int→AH→Option R
def dw(t3:Addr)(t7 t8 t9:Sl)(t10:Int):List Value:=un 3 (vp t3::un 3 (t7.v::t8.v::t9.v::vi t10::un 86 []))
def py:aa:=.region [m 34 10,bc 35 .sub 34 1,m 10 35] [34,35]
abbrev th(R:Type):=Addr→Sl→Sl→Sl→Int→Int→Int→Int→AH→Option R
def tn(t3:Addr)(t7 t8 t9:Sl)(t10 t11 t53 t54:Int):List Value:=un 3 (vp t3::un 3 (t7.v::t8.v::t9.v::vi t10::vi t11::un 41 (vi t53::vi t54::un 42 [])))
def kS:aa:=.region [bc 92 .add 54 1,m 54 92] [92]
def uK(cn:aa):aa:=.seq (.seq (.region [cm 55 .lss 54 53] []) (.seq (.cond (.t 55) (kl [55]) (.seq (kl [11,53,54,55]) (.exit 2))) (.block 3 (.seq (.region [m 56 54,m 12 56] [56]) (.seq (.region [mc 13 0] []) (.seq (.seq (.region [fa 57 1 3,li 58 57,ck 59 .gtr 58 1] [57,58]) (.cond (.t 59) (.region [fa 60 2 3,ls 61 60,m 62 12,ia 63 1 61 62,li 64 63,m 13 64] [59,60,61,62,63,64]) (kl [59]))) (.region [m 65 9,m 66 12,m 67 9,m 68 12,ia 69 1 67 68,lj 70 69,fa 71 0 3,lj 72 71,m 73 11,bb 74 .sub 72 73,m 75 13,bb 76 .mul 74 75,bb 77 .add 70 76,m 78 8,m 79 10,ia 80 1 78 79,lj 81 80,m 82 7,m 83 12,ia 84 1 82 83,lj 85 84,bb 86 .mul 81 85,bb 87 .add 77 86,fa 88 0 3,lj 89 88,bb 90 .rem 87 89,ia 91 1 65 66,sI 1 91 90] [12,13,65,66,67,68,69,70,71,72,73,74,75,76,77,78,79,80,81,82,83,84,85,86,87,88,89,90,91]))))))) cn
def nk:aa:=uK kS
def rD:aa:=.block 2 (.loop nk)
def BX(cn:aa):aa:=.seq (.seq (.region [m 36 9,fa 37 1 3,li 38 37,bc 39 .sub 38 1,ia 40 1 36 39,li 41 40,m 11 41] [36,37,38,39,40,41]) (.seq (.region [m 42 9,oI 43 (.slice 1 (.t 42) (some (ci 1)) none none),m 44 9,fa 45 1 3,li 46 45,bc 47 .sub 46 1,oI 48 (.slice 1 (.t 44) none (some (.t 47)) none),oI 49 (.copy 1 (.t 43) (.t 48))] [42,43,44,45,46,47,48,49]) (.seq (.region [m 50 9,oI 51 (.dx 1 (.t 50) (ci 0)),pI (.store 1 (.t 51) (ci 0))] [50,51]) (.region [m 52 9,ln 53 52,mc 54 0] [52])))) cn
def wJ:aa:=BX rD
def FC(cn vw:aa):aa:=.seq (.block 1 vw) cn
def Be:aa:=FC py wJ
def Nn(cn:aa):aa:=.seq (.seq (.region [m 32 10,ck 33 .geq 32 0] [32]) (.cond (.t 33) (kl [33]) (.seq (kl [7,8,10,33]) (.exit 0)))) cn
def Hz:aa:=Nn Be
def RH:aa:=.seq (.block 0 (.loop Hz)) Hy
def afL(cn:aa):aa:=.seq (.seq (.region [oI 3 (.box (.t 0)),mc 6 0] [0,6]) (.seq (.region [m 14 1,fa 15 0 3,lj 16 15,fa 17 1 3,lj 18 17,oJ 19 (.call (.f 170) [.t 14,.t 16,.t 18] (.one (.one .slice))),m 20 2,fa 21 0 3,lj 22 21,fa 23 1 3,lj 24 23,oI 25 (.call (.f 170) [.t 20,.t 22,.t 24] (.one (.one .slice))),m 7 19,m 8 25] [1,2,14,15,16,17,18,19,20,21,22,23,24,25]) (.seq (.region [fa 26 1 3,li 27 26,oI 28 (.cD 8 [.int .i64 0] (.t 27) (.t 27)),m 9 28] [26,27,28]) (.region [fa 29 1 3,li 30 29,bc 31 .sub 30 1,m 10 31] [29,30,31])))) cn
def al1:aa:=afL RH
def afM(aI aH:Int)(aK:Sl)(t1 t2:Int):List Value:=.agg ⟨[vi aI,vi aH,vs aK]⟩::vi t1::vi t2::un 94 []
def lQ:ay:=⟨97,al1,[.tmp 6]⟩
theorem J9:okF Tryz.prog 148 lQ=true:=by kernel_rfl
def EH{R:Type}(C:Callee)(fl k:Nat)(kr:ae R):bW R:=fun t3 t9 h=>aE .i64 h t3.block t3.off fun n1=>aC C fl fn.j5 [vs t9,vi n1] h fun v2 h3=>asInt .i64 v2 fun n4=>kr n4 h3
theorem aag:(cp Bd (ce C fl k Hy K))=EH C fl k (cp PE (K .ret)):=by kernel_rfl
def j8{R:Type}(C:Callee)(fl k:Nat)(kn:aY R)(e0:bW R):aY R:=fun t3 t7 t8 t9 t10 h=>kn t3 t7 t8 t9 (bL (t10-1)) h
theorem BY:(cp dw (ce C fl k py K))=j8 C fl k (cp dw (K .normal)) (cp Bd (K (.exit 0))):=by kernel_rfl
def jb{R:Type}(C:Callee)(fl k:Nat)(kn:th R)(e2:aY R):th R:=fun t3 t7 t8 t9 t10 t11 t53 t54 h=>kn t3 t7 t8 t9 t10 t11 t53 (bL (t54+1)) h
theorem Ch:(cp tn (ce C fl k kS K))=jb C fl k (cp tn (K .normal)) (cp dw (K (.exit 2))):=by kernel_rfl
def gw{R:Type}(C:Callee)(fl k:Nat)(kx:th R)(kn:th R)(e2:aY R):th R:=fun t3 t7 t8 t9 t10 t11 t53 t54 h=>if decide (t54<t53)=true then aE .i64 h t3.block (t3.off+1) fun n5=>if decide (n5>1)=true then bM h t3.block (t3.off+2) fun s6=>idx 1 s6 t54 fun p7=>aE .i64 h p7.block p7.off fun n8=>idx 1 t9 t54 fun p9=>aE .i64 h p9.block p9.off fun ux=>aE .i64 h t3.block t3.off fun Cw=>idx 1 t8 t10 fun Mc=>aE .i64 h Mc.block Mc.off fun Fs=>idx 1 t7 t54 fun p14=>aE .i64 h p14.block p14.off fun TI=>aE .i64 h t3.block t3.off fun KL=>jd .rem .i64 (bL (bL (ux+(bL (bL (Cw-t11)*n8)))+(bL (Fs*TI)))) KL fun Sj=>idx 1 t9 t54 fun p18=>st fl h p18 [vi Sj] fun O6=>kx t3 t7 t8 t9 t10 t11 t53 t54 O6 else idx 1 t9 t54 fun p20=>aE .i64 h p20.block p20.off fun n21=>aE .i64 h t3.block t3.off fun Sm=>idx 1 t8 t10 fun p23=>aE .i64 h p23.block p23.off fun n24=>idx 1 t7 t54 fun p25=>aE .i64 h p25.block p25.off fun PW=>aE .i64 h t3.block t3.off fun n27=>jd .rem .i64 (bL (bL (n21+(bL (bL (Sm-t11)*0)))+(bL (n24*PW)))) n27 fun n28=>idx 1 t9 t54 fun p29=>st fl h p29 [vi n28] fun h30=>kx t3 t7 t8 t9 t10 t11 t53 t54 h30 else e2 t3 t7 t8 t9 t10 h
def eg(kn:th R)(e2:aY R):th R:=gw C fl k (jb C fl k kn e2) kn e2
theorem Ff(cn:aa):(cp tn (ce C fl k (uK cn) K))=gw C fl k (cp tn (ce C fl k cn K)) (cp tn (K .normal)) (cp dw (K (.exit 2))):=by kernel_rfl
theorem Fg:(cp tn (ce C fl k nk K))=eg C fl k (cp tn (K .normal)) (cp dw (K (.exit 2))):=(Ff C fl k K kS).trans (aj (fun L0=>gw C fl k L0 _ _) (Ch C fl k K))
def im(kn:aY R):Nat→th R
 |0=>fun _ _ _ _ _ _ _ _ _=>none
 |m+1=>eg C fl k (im kn m) kn
theorem uL:∀m,(cp tn (aR m (bH C fl k nk 2 K)))=im C fl k (cp dw (K .normal)) m
 |0=>by kernel_rfl
 |m+1=>mq (Fg C fl k _) (aj (fun L=>eg C fl k L _) (uL m))
def mO(kn:aY R):th R:=im C fl k kn k
theorem Ka:(cp tn (ce C fl k rD K))=mO C fl k (cp dw (K .normal)):=mw (uL C fl k K)
def pz{R:Type}(C:Callee)(fl k:Nat)(kx:th R)(kn:aY R):aY R:=fun t3 t7 t8 t9 t10 h=>aE .i64 h t3.block (t3.off+1) fun n31=>idx 1 t9 (bL (n31-1)) fun p32=>aE .i64 h p32.block p32.off fun n33=>sub 1 t9 (some 1) none none fun s34=>aE .i64 h t3.block (t3.off+1) fun n35=>sub 1 t9 none (some (bL (n35-1))) none fun s36=>cpy fl 1 s34 s36 h fun n37 h38=>idx 1 t9 0 fun p39=>st fl h38 p39 [vi 0] fun h40=>kx t3 t7 t8 t9 t10 n33 ((t9.l:Nat):Int) 0 h40
def tq(kn:aY R):aY R:=pz C fl k (mO C fl k kn) kn
theorem OL(cn:aa):(cp dw (ce C fl k (BX cn) K))=pz C fl k (cp tn (ce C fl k cn K)) (cp dw (K .normal)):=by kernel_rfl
theorem OM:(cp dw (ce C fl k wJ K))=tq C fl k (cp dw (K .normal)):=(OL C fl k K rD).trans (aj (fun L0=>pz C fl k L0 _) (Ka C fl k K))
def vo{R:Type}(C:Callee)(fl k:Nat)(kx:aY R)(u0:aY R)(kn:aY R)(e0:bW R):aY R:=fun t3 t7 t8 t9 t10 h=>u0 t3 t7 t8 t9 t10 h
def Dh(kn:aY R)(e0:bW R):aY R:=vo C fl k (j8 C fl k kn e0) (tq C fl k (j8 C fl k kn e0)) kn e0
theorem Ta(cn vw:aa):(cp dw (ce C fl k (FC cn vw) K))=vo C fl k (cp dw (ce C fl k cn K)) (cp dw (ce C fl k vw (vJ 1 (bU C fl k cn K)))) (cp dw (K .normal)) (cp Bd (K (.exit 0))):=by kernel_rfl
theorem Tb:(cp dw (ce C fl k Be K))=Dh C fl k (cp dw (K .normal)) (cp Bd (K (.exit 0))):=(Ta C fl k K py wJ).trans (ot (fun L0 L1=>vo C fl k L0 L1 _ _) (BY C fl k K) ((OM C fl k (vJ 1 (bU C fl k py K))).trans (aj (fun L0=>tq C fl k L0) (bn1 (BY C fl k K)))))
def wK{R:Type}(C:Callee)(fl k:Nat)(kx:aY R)(kn:aY R)(e0:bW R):aY R:=fun t3 t7 t8 t9 t10 h=>if decide (t10≥0)=true then kx t3 t7 t8 t9 t10 h else e0 t3 t9 h
def rE(kn:aY R)(e0:bW R):aY R:=wK C fl k (Dh C fl k kn e0) kn e0
theorem aah(cn:aa):(cp dw (ce C fl k (Nn cn) K))=wK C fl k (cp dw (ce C fl k cn K)) (cp dw (K .normal)) (cp Bd (K (.exit 0))):=by kernel_rfl
theorem aai:(cp dw (ce C fl k Hz K))=rE C fl k (cp dw (K .normal)) (cp Bd (K (.exit 0))):=(aah C fl k K Be).trans (aj (fun L0=>wK C fl k L0 _ _) (Tb C fl k K))
def rF(kn:bW R):Nat→aY R
 |0=>fun _ _ _ _ _ _=>none
 |m+1=>rE C fl k (rF kn m) kn
theorem No:∀m,(cp dw (aR m (bH C fl k Hz 0 K)))=rF C fl k (cp Bd (K .normal)) m
 |0=>by kernel_rfl
 |m+1=>mq (aai C fl k _) (aj (fun L=>rE C fl k L _) (No m))
def WN(kr:ae R):aY R:=rF C fl k (EH C fl k kr) k
theorem ahv:(cp dw (ce C fl k RH K))=WN C fl k (cp PE (K .ret)):=(ou (mw (No C fl k (bU C fl k Hy K)))).trans (aj (fun L=>rF C fl k L k) (oh (aag C fl k K)))
def WO{R:Type}(C:Callee)(fl k:Nat)(kx:aY R)(kr:ae R):il R:=fun aI aH aK t1 t2 h=>cU h [vi aI,vi aH,vs aK] fun b41 h42=>aE .i64 h42 b41 0 fun n43=>aE .i64 h42 b41 1 fun n44=>aC C h42.next fn.gn [vi t1,vi n43,vi n44] h42 fun v45 h46=>bB v45 fun s47=>aE .i64 h46 b41 0 fun n48=>aE .i64 h46 b41 1 fun n49=>aC C fl fn.gn [vi t2,vi n48,vi n49] h46 fun v50 h51=>bB v50 fun s52=>aE .i64 h51 b41 1 fun n53=>xg 8 [.int .i64 0] n53 n53 h51 fun s54 h55=>aE .i64 h55 b41 1 fun n56=>kx ⟨b41,0,none⟩ s47 s52 s54 (bL (n56-1)) h55
def al2(kr:ae R):il R:=WO C fl k (WN C fl k kr) kr
theorem aro(cn:aa):(cp afM (ce C fl k (afL cn) K))=WO C fl k (cp dw (ce C fl k cn K)) (cp PE (K .ret)):=by kernel_rfl
theorem arp:(cp afM (ce C fl k al1 K))=al2 C fl k (cp PE (K .ret)):=(aro C fl k K RH).trans (aj (fun L0=>WO C fl k L0 _) (ahv C fl k K))
def eZ(ax aw:Int)(aA:Sl)(p1 p2:Int)(h:AH):Option (Value×AH):=al2 C fl k (fun y6 q=>some (vi y6,q)) ax aw aA p1 p2 h
theorem wL(ax aw:Int)(aA:Sl)(p1 p2:Int)(h):bl C fl k lQ [.agg ⟨[vi ax,vi aw,vs aA]⟩,vi p1,vi p2] h=eZ C fl k ax aw aA p1 p2 h:=vU (arp C fl k (aD _)) ax aw aA p1 p2 (by kernel_rfl) (by kernel_rfl)
def PF(t6:Int):List Value:=un 6 (vi t6::un 70 [])
def HA:aa:=.seq (.region [m 76 7,m 6 76] [7,76]) (.ret)
def Kb(t7:Int):List Value:=un 7 (vi t7::un 69 [])
abbrev tv(R:Type):=OA→Int→Int→Int→Int→AH→Option R
def tw(t0:OA)(t1 t2 t7 t8:Int):List Value:=vn t0::vi t1::vi t2::un 4 (vi t7::vi t8::un 68 [])
def Bf:aa:=.block 1 (.seq (.region [m 30 7,m 31 1,m 32 0,oI 33 (.cg (.t 32)),fa 34 0 33,fa 35 0 34,lj 36 35,bb 37 .rem 31 36,m 38 2,m 39 0,oI 40 (.cg (.t 39)),fa 41 0 40,fa 42 0 41,lj 43 42,bb 44 .rem 38 43,bb 45 .add 37 44,m 46 0,oI 47 (.cg (.t 46)),fa 48 0 47,fa 49 0 48,lj 50 49,bb 51 .rem 45 50,m 52 8,bb 53 .mul 51 52,bb 54 .add 30 53,m 7 54] [30,31,32,33,34,35,36,37,38,39,40,41,42,43,44,45,46,47,48,49,50,51,52,53,54]) (.seq (.region [m 55 8,m 56 0,oI 57 (.cg (.t 56)),fa 58 0 57,fa 59 0 58,li 60 59,bb 61 .mul 55 60,m 8 61] [55,56,57,58,59,60,61]) (.seq (.region [m 62 1,m 63 0,oI 64 (.cg (.t 63)),fa 65 0 64,fa 66 0 65,li 67 66,bb 68 .quo 62 67,m 1 68] [62,63,64,65,66,67,68]) (.region [m 69 2,m 70 0,oI 71 (.cg (.t 70)),fa 72 0 71,fa 73 0 72,li 74 73,bb 75 .quo 69 74,m 2 75] [69,70,71,72,73,74,75]))))
def Np(cn:aa):aa:=.seq (.seq (.region [m 24 1,ck 25 .gtr 24 0,m 26 25,.fc 26 false [qI 27 (.mv (.t 2)),qI 28 (.cmp .gtr .i64 (.t 27) (ci 0))],oI 29 (.pick (.t 26) (.c (.bool true)) (.t 28))] [24,25,26,27,28]) (.cond (.t 29) (kl [29]) (.seq (kl [0,1,2,8,29]) (.exit 0)))) cn
def HB:aa:=Np Bf
def RI:aa:=.seq (.block 0 (.loop HB)) HA
def afN(cn:aa):aa:=.seq (.seq (.region [mc 6 0] [6]) (.seq (.region [m 9 0,m 10 1,oI 11 (.call (.f 144) [.t 9,.t 10] (.one (.one (.int .i64)))),m 12 0,m 13 2,oI 14 (.call (.f 144) [.t 12,.t 13] (.one (.one (.int .i64)))),m 1 11,m 2 14] [9,10,11,12,13,14]) (.seq (.region [m 15 0,oI 16 (.cg (.t 15)),fa 17 0 16,fa 18 0 17,li 19 18,ck 20 .eql 19 2] [15,16,17,18,19]) (.seq (.cond (.t 20) (.seq (.region [m 21 1,m 22 2,bb 23 .xor 21 22,m 6 23] [0,1,2,20,21,22,23]) (.ret)) (kl [20])) (.region [mc 7 0,mc 8 1] []))))) cn
def al3:aa:=afN RI
def afO(t0:OA)(t1 t2:Int):List Value:=vn t0::vi t1::vi t2::un 74 []
def pA:ay:=⟨77,al3,[.tmp 6]⟩
theorem ON:okF Tryz.prog 149 pA=true:=by kernel_rfl
def LH{R:Type}(C:Callee)(fl k:Nat)(kr:ae R):ae R:=fun t7 h=>kr t7 h
theorem aaj:(cp Kb (ce C fl k HA K))=LH C fl k (cp PF (K .ret)):=by kernel_rfl
def xV{R:Type}(C:Callee)(fl k:Nat)(kn:tv R)(e0:ae R):tv R:=fun t0 t1 t2 t7 t8 h=>cQ (.pointer t0) fun p1=>aE .i64 h p1.block p1.off fun n2=>jd .rem .i64 t1 n2 fun n3=>cQ (.pointer t0) fun p4=>aE .i64 h p4.block p4.off fun n5=>jd .rem .i64 t2 n5 fun n6=>cQ (.pointer t0) fun p7=>aE .i64 h p7.block p7.off fun n8=>jd .rem .i64 (bL (n3+n6)) n8 fun n9=>cQ (.pointer t0) fun TH=>aE .i64 h TH.block TH.off fun Cw=>cQ (.pointer t0) fun Mc=>aE .i64 h Mc.block Mc.off fun Fs=>jd .quo .i64 t1 Fs fun DM=>cQ (.pointer t0) fun XH=>aE .i64 h XH.block XH.off fun KL=>jd .quo .i64 t2 KL fun Sj=>kn t0 DM Sj (bL (t7+(bL (n9*t8)))) (bL (t8*Cw)) h
theorem Tc:(cp tw (ce C fl k Bf K))=xV C fl k (cp tw (K .normal)) (cp Kb (K (.exit 0))):=by kernel_rfl
def wM{R:Type}(C:Callee)(fl k:Nat)(kx:tv R)(kn:tv R)(e0:ae R):tv R:=fun t0 t1 t2 t7 t8 h=>if decide (t1>0)=false then if decide (t2>0)=true then kx t0 t1 t2 t7 t8 h else e0 t7 h else kx t0 t1 t2 t7 t8 h
def rG(kn:tv R)(e0:ae R):tv R:=wM C fl k (xV C fl k kn e0) kn e0
theorem aak(cn:aa):(cp tw (ce C fl k (Np cn) K))=wM C fl k (cp tw (ce C fl k cn K)) (cp tw (K .normal)) (cp Kb (K (.exit 0))):=by kernel_rfl
theorem aal:(cp tw (ce C fl k HB K))=rG C fl k (cp tw (K .normal)) (cp Kb (K (.exit 0))):=(aak C fl k K Bf).trans (aj (fun L0=>wM C fl k L0 _ _) (Tc C fl k K))
def rH(kn:ae R):Nat→tv R
 |0=>fun _ _ _ _ _ _=>none
 |m+1=>rG C fl k (rH kn m) kn
theorem Nq:∀m,(cp tw (aR m (bH C fl k HB 0 K)))=rH C fl k (cp Kb (K .normal)) m
 |0=>by kernel_rfl
 |m+1=>mq (aal C fl k _) (aj (fun L=>rG C fl k L _) (Nq m))
def WQ(kr:ae R):tv R:=rH C fl k (LH C fl k kr) k
theorem ahw:(cp tw (ce C fl k RI K))=WQ C fl k (cp PF (K .ret)):=(ou (mw (Nq C fl k (bU C fl k HA K)))).trans (aj (fun L=>rH C fl k L k) (oh (aaj C fl k K)))
def WR{R:Type}(C:Callee)(fl k:Nat)(kx:tv R)(kr:ae R):xO R:=fun t0 t1 t2 h=>aC C fl fn.eY [.pointer t0,vi t1] h fun v18 O6=>asInt .i64 v18 fun n20=>aC C fl fn.eY [.pointer t0,vi t2] O6 fun v21 h22=>asInt .i64 v21 fun n23=>cQ (.pointer t0) fun p24=>aE .i64 h22 p24.block p24.off fun n25=>if (n25==2)=true then jd .xor .i64 n20 n23 fun PW=>kr PW h22 else kx t0 n20 n23 0 1 h22
def al4(kr:ae R):xO R:=WR C fl k (WQ C fl k kr) kr
theorem arq(cn:aa):(cp afO (ce C fl k (afN cn) K))=WR C fl k (cp tw (ce C fl k cn K)) (cp PF (K .ret)):=by kernel_rfl
theorem ars:(cp afO (ce C fl k al3 K))=al4 C fl k (cp PF (K .ret)):=(arq C fl k K RI).trans (aj (fun L0=>WR C fl k L0 _) (ahw C fl k K))
def hZ(p0:OA)(p1 p2:Int)(h:AH):Option (Value×AH):=al4 C fl k (fun y6 q=>some (vi y6,q)) p0 p1 p2 h
theorem zN(p0:OA)(p1 p2:Int)(h):bl C fl k pA [.pointer p0,vi p1,vi p2] h=hZ C fl k p0 p1 p2 h:=yV (ars C fl k (aD _)) p0 p1 p2 (by kernel_rfl) (by kernel_rfl)
def xW:ay:=⟨6,.seq (.region [oI 2 (.mv (.c (.bool false)))] [2]) (.seq (.region [m 3 0,m 4 0,cm 5 .neq 3 4,m 2 5] [0,3,4,5]) (.ret)),[.tmp 2]⟩
theorem WS:okF Tryz.prog 151 xW=true:=by kernel_rfl
def PG(t2:Sl):List Value:=un 2 (t2.v::un 18 [])
def HC:aa:=.seq (.region [m 20 3,m 2 20] [3,20]) (.ret)
def WT(t3:Sl):List Value:=un 3 (t3.v::un 17 [])
def Kc(t0 t3:Sl)(t4:Int):List Value:=t0.v::un 2 (t3.v::vi t4::un 16 [])
def HD:aa:=.seq (.region [m 5 4,m 6 0,ln 7 6,cm 8 .lss 5 7] [5,6,7]) (.seq (.cond (.t 8) (kl [8]) (.seq (kl [0,4,8]) (.exit 0))) (.seq (.block 1 (.region [m 11 3,oI 12 (.aQ 0 [] []),m 13 0,m 14 4,ia 15 1 13 14,ls 16 15,oI 17 (.append 1 8 (.t 12) (.t 16)),oI 18 (.aQ 1 [.slice none 0 0] [(0,1,.t 17)]),oI 19 (.append 1 24 (.t 11) (.t 18)),m 3 19] [11,12,13,14,15,16,17,18,19])) (.region [m 9 4,bc 10 .add 9 1,m 4 10] [9,10])))
def RJ:aa:=.seq (.block 0 (.loop HD)) HC
def afP(cn:aa):aa:=.seq (.seq (.region [oI 2 (.mv (.c (.slice none 0 0)))] [2]) (.seq (.region [oI 3 (.mv (.c (.slice none 0 0)))] []) (.region [mc 4 0] []))) cn
def al5:aa:=afP RJ
def afQ(t0:Sl):List Value:=t0.v::un 20 []
def vq:ay:=⟨21,al5,[.tmp 2]⟩
theorem Td:okF Tryz.prog 152 vq=true:=by kernel_rfl
def LI{R:Type}(C:Callee)(fl k:Nat)(kr:ak R):ak R:=fun t3 h=>kr t3 h
theorem aam:(cp WT (ce C fl k HC K))=LI C fl k (cp PG (K .ret)):=by kernel_rfl
def rI{R:Type}(C:Callee)(fl k:Nat)(kn:fg R)(e0:ak R):fg R:=fun t0 t3 t4 h=>if decide (t4<((t0.l:Nat):Int))=true then cU h [] fun b1 h2=>idx 1 t0 t4 fun p3=>bM h2 p3.block p3.off fun s4=>fW fl 1 8 ⟨(some ⟨b1,0,none⟩),0,0⟩ s4 h2 fun s5 h6=>cU h6 [vs s5] fun b7 h8=>fW fl 1 24 t3 ⟨(some ⟨b7,0,none⟩),1,1⟩ h8 fun s9 H7=>kn t0 s9 (bL (t4+1)) H7 else e0 t3 h
theorem aan:(cp Kc (ce C fl k HD K))=rI C fl k (cp Kc (K .normal)) (cp WT (K (.exit 0))):=by kernel_rfl
def nT(kn:ak R):Nat→fg R
 |0=>fun _ _ _ _=>none
 |m+1=>rI C fl k (nT kn m) kn
theorem Nr:∀m,(cp Kc (aR m (bH C fl k HD 0 K)))=nT C fl k (cp WT (K .normal)) m
 |0=>by kernel_rfl
 |m+1=>mq (aan C fl k _) (aj (fun L=>rI C fl k L _) (Nr m))
def afR(kr:ak R):fg R:=nT C fl k (LI C fl k kr) k
theorem ahx:(cp Kc (ce C fl k RJ K))=afR C fl k (cp PG (K .ret)):=(ou (mw (Nr C fl k (bU C fl k HC K)))).trans (aj (fun L=>nT C fl k L k) (oh (aam C fl k K)))
def WU{R:Type}(C:Callee)(fl k:Nat)(kx:fg R)(kr:ak R):ak R:=fun t0 h=>kx t0 ⟨none,0,0⟩ 0 h
def al6(kr:ak R):ak R:=WU C fl k (afR C fl k kr) kr
theorem art(cn:aa):(cp afQ (ce C fl k (afP cn) K))=WU C fl k (cp Kc (ce C fl k cn K)) (cp PG (K .ret)):=by kernel_rfl
theorem aru:(cp afQ (ce C fl k al5 K))=al6 C fl k (cp PG (K .ret)):=(art C fl k K RJ).trans (aj (fun L0=>WU C fl k L0 _) (ahx C fl k K))
def vT(p0:Sl)(h:AH):Option (Value×AH):=al6 C fl k (fun y2 q=>some (vs y2,q)) p0 h
theorem RK(p0:Sl)(h):bl C fl k vq [vs p0] h=vT C fl k p0 h:=acL (aru C fl k (aD _)) p0 (by kernel_rfl) (by kernel_rfl)
def PH(t6:Sl):List Value:=un 6 (t6.v::un 22 [])
def HE:aa:=.seq (.region [m 28 7,m 6 28] [7,28]) (.ret)
def WV(t7:Sl):List Value:=un 7 (t7.v::un 21 [])
abbrev Kd(R:Type):=Int→Sl→Addr→Sl→Int→AH→Option R
def Ke(t1:Int)(t2:Sl)(t3:Addr)(t7:Sl)(t8:Int):List Value:=un 1 (vi t1::t2.v::vp t3::un 3 (t7.v::vi t8::un 20 []))
def HF:aa:=.seq (.region [m 12 8,m 13 2,ln 14 13,cm 15 .lss 12 14] [12,13,14]) (.seq (.cond (.t 15) (kl [15]) (.seq (kl [1,2,3,8,15]) (.exit 0))) (.seq (.block 1 (.region [m 18 7,m 19 8,oJ 20 (.load (.agg [.int .i64,.int .i64,.slice]) (.t 3)),m 21 1,m 22 2,m 23 8,ia 24 1 22 23,lj 25 24,oI 26 (.call (.f 172) [.t 20,.t 21,.t 25] (.one (.one (.int .i64)))),ia 27 1 18 19,sI 1 27 26] [18,19,20,21,22,23,24,25,26,27])) (.region [m 16 8,bc 17 .add 16 1,m 8 17] [16,17])))
def RL:aa:=.seq (.block 0 (.loop HF)) HE
def afS(cn:aa):aa:=.seq (.seq (.region [oI 3 (.box (.t 0)),oI 6 (.mv (.c (.slice none 0 0)))] [0,6]) (.seq (.region [m 9 2,ln 10 9,oI 11 (.cD 8 [.int .i64 0] (.t 10) (.t 10)),m 7 11] [9,10,11]) (.region [mc 8 0] []))) cn
def al7:aa:=afS RL
def afT(aI aH:Int)(aK:Sl)(t1:Int)(t2:Sl):List Value:=.agg ⟨[vi aI,vi aH,vs aK]⟩::vi t1::t2.v::un 26 []
def tz:ay:=⟨29,al7,[.tmp 6]⟩
theorem RM:okF Tryz.prog 153 tz=true:=by kernel_rfl
def LJ{R:Type}(C:Callee)(fl k:Nat)(kr:ak R):ak R:=fun t7 h=>kr t7 h
theorem aao:(cp WV (ce C fl k HE K))=LJ C fl k (cp PH (K .ret)):=by kernel_rfl
def rJ{R:Type}(C:Callee)(fl k:Nat)(kn:Kd R)(e0:ak R):Kd R:=fun t1 t2 t3 t7 t8 h=>if decide (t8<((t2.l:Nat):Int))=true then aE .i64 h t3.block t3.off fun n1=>aE .i64 h t3.block (t3.off+1) fun n2=>bM h t3.block (t3.off+1+1) fun s3=>idx 1 t2 t8 fun p4=>aE .i64 h p4.block p4.off fun n5=>aC C fl fn.gO [.agg ⟨[vi n1,vi n2,vs s3]⟩,vi t1,vi n5] h fun v6 h7=>asInt .i64 v6 fun n8=>idx 1 t7 t8 fun p9=>st fl h7 p9 [vi n8] fun H7=>kn t1 t2 t3 t7 (bL (t8+1)) H7 else e0 t7 h
theorem aap:(cp Ke (ce C fl k HF K))=rJ C fl k (cp Ke (K .normal)) (cp WV (K (.exit 0))):=by kernel_rfl
def zO(kn:ak R):Nat→Kd R
 |0=>fun _ _ _ _ _ _=>none
 |m+1=>rJ C fl k (zO kn m) kn
theorem Ns:∀m,(cp Ke (aR m (bH C fl k HF 0 K)))=zO C fl k (cp WV (K .normal)) m
 |0=>by kernel_rfl
 |m+1=>mq (aap C fl k _) (aj (fun L=>rJ C fl k L _) (Ns m))
def afU(kr:ak R):Kd R:=zO C fl k (LJ C fl k kr) k
theorem ahy:(cp Ke (ce C fl k RL K))=afU C fl k (cp PH (K .ret)):=(ou (mw (Ns C fl k (bU C fl k HE K)))).trans (aj (fun L=>zO C fl k L k) (oh (aao C fl k K)))
def WW{R:Type}(C:Callee)(fl k:Nat)(kx:Kd R)(kr:ak R):bQ R:=fun aI aH aK t1 t2 h=>cU h [vi aI,vi aH,vs aK] fun b11 H3=>xg 8 [.int .i64 0] ((t2.l:Nat):Int) ((t2.l:Nat):Int) H3 fun s13 h14=>kx t1 t2 ⟨b11,0,none⟩ s13 0 h14
def al8(kr:ak R):bQ R:=WW C fl k (afU C fl k kr) kr
theorem arv(cn:aa):(cp afT (ce C fl k (afS cn) K))=WW C fl k (cp Ke (ce C fl k cn K)) (cp PH (K .ret)):=by kernel_rfl
theorem arw:(cp afT (ce C fl k al7 K))=al8 C fl k (cp PH (K .ret)):=(arv C fl k K RL).trans (aj (fun L0=>WW C fl k L0 _) (ahy C fl k K))
def nH(ax aw:Int)(aA:Sl)(p1:Int)(p2:Sl)(h:AH):Option (Value×AH):=al8 C fl k (fun y6 q=>some (vs y6,q)) ax aw aA p1 p2 h
theorem OO(ax aw:Int)(aA:Sl)(p1:Int)(p2:Sl)(h):bl C fl k tz [.agg ⟨[vi ax,vi aw,vs aA]⟩,vi p1,vs p2] h=nH C fl k ax aw aA p1 p2 h:=vU (arw C fl k (aD _)) ax aw aA p1 p2 (by kernel_rfl) (by kernel_rfl)
def EI(t4:Int):List Value:=un 4 (vi t4::un 13 [])
def HG:aa:=.seq (.region [mc 4 0] []) (.ret)
def WX:List Value:=un 18 []
def Kf(t1:Int)(t2:Addr)(t5:Int):List Value:=un 1 (vi t1::vp t2::un 2 (vi t5::un 12 []))
def HH:aa:=.seq (.region [m 6 5,oI 7 (.load (.agg [.int .i64,.int .i64,.slice]) (.t 2)),oI 8 (.call (.f 96) [.t 7] (.one (.one (.int .i64)))),cm 9 .lss 6 8] [6,7,8]) (.seq (.cond (.t 9) (kl [9]) (.seq (kl [1,2,5,9]) (.exit 0))) (.seq (.block 1 (.seq (.region [oI 12 (.load (.agg [.int .i64,.int .i64,.slice]) (.t 2)),m 13 1,m 14 5,oI 15 (.call (.f 172) [.t 12,.t 13,.t 14] (.one (.one (.int .i64)))),ck 16 .eql 15 1] [12,13,14,15]) (.cond (.t 16) (.seq (.region [m 17 5,m 4 17] [1,2,5,16,17]) (.ret)) (kl [16])))) (.region [m 10 5,bc 11 .add 10 1,m 5 11] [10,11])))
def RN:aa:=.seq (.block 0 (.loop HH)) HG
def afV(cn:aa):aa:=.seq (.seq (.region [oI 2 (.box (.t 0)),mc 4 0] [0,4]) (.region [mc 5 1] [])) cn
def al9:aa:=afV RN
def afW(aI aH:Int)(aK:Sl)(t1:Int):List Value:=.agg ⟨[vi aI,vi aH,vs aK]⟩::vi t1::un 16 []
def xX:ay:=⟨18,al9,[.tmp 4]⟩
theorem WY:okF Tryz.prog 154 xX=true:=by kernel_rfl
def LK{R:Type}(C:Callee)(fl k:Nat)(kr:ae R):ar R:=fun h=>kr 0 h
theorem aaq:(cp WX (ce C fl k HG K))=LK C fl k (cp EI (K .ret)):=by kernel_rfl
def rK{R:Type}(C:Callee)(fl k:Nat)(kn:iZ R)(e0:ar R)(kr:ae R):iZ R:=fun t1 t2 t5 h=>aE .i64 h t2.block t2.off fun n1=>aE .i64 h t2.block (t2.off+1) fun n2=>bM h t2.block (t2.off+1+1) fun s3=>aC C fl fn.kJ [.agg ⟨[vi n1,vi n2,vs s3]⟩] h fun v4 h5=>asInt .i64 v4 fun n6=>if decide (t5<n6)=true then aE .i64 h5 t2.block t2.off fun n7=>aE .i64 h5 t2.block (t2.off+1) fun n8=>bM h5 t2.block (t2.off+1+1) fun s9=>aC C fl fn.gO [.agg ⟨[vi n7,vi n8,vs s9]⟩,vi t1,vi t5] h5 fun v10 mI=>asInt .i64 v10 fun Cs=>if (Cs==1)=true then kr t5 mI else kn t1 t2 (bL (t5+1)) mI else e0 h5
theorem aar:(cp Kf (ce C fl k HH K))=rK C fl k (cp Kf (K .normal)) (cp WX (K (.exit 0))) (cp EI (K .ret)):=by kernel_rfl
def rL(kn:ar R)(kr:ae R):Nat→iZ R
 |0=>fun _ _ _ _=>none
 |m+1=>rK C fl k (rL kn kr m) kn kr
theorem Nt:∀m,(cp Kf (aR m (bH C fl k HH 0 K)))=rL C fl k (cp WX (K .normal)) (cp EI (K .ret)) m
 |0=>by kernel_rfl
 |m+1=>mq (aar C fl k _) (aj (fun L=>rK C fl k L _ _) (Nt m))
def afX(kr:ae R):iZ R:=rL C fl k (LK C fl k kr) kr k
theorem ahz:(cp Kf (ce C fl k RN K))=afX C fl k (cp EI (K .ret)):=(ou (mw (Nt C fl k (bU C fl k HG K)))).trans (aj (fun L=>rL C fl k L _ k) (oh (aaq C fl k K)))
def WZ{R:Type}(C:Callee)(fl k:Nat)(kx:iZ R)(kr:ae R):ki R:=fun aI aH aK t1 h=>cU h [vi aI,vi aH,vs aK] fun b13 h14=>kx t1 ⟨b13,0,none⟩ 1 h14
def ama(kr:ae R):ki R:=WZ C fl k (afX C fl k kr) kr
theorem arx(cn:aa):(cp afW (ce C fl k (afV cn) K))=WZ C fl k (cp Kf (ce C fl k cn K)) (cp EI (K .ret)):=by kernel_rfl
theorem ary:(cp afW (ce C fl k al9 K))=ama C fl k (cp EI (K .ret)):=(arx C fl k K RN).trans (aj (fun L0=>WZ C fl k L0 _) (ahz C fl k K))
def qk(ax aw:Int)(aA:Sl)(p1:Int)(h:AH):Option (Value×AH):=ama C fl k (fun y4 q=>some (vi y4,q)) ax aw aA p1 h
theorem Te(ax aw:Int)(aA:Sl)(p1:Int)(h):bl C fl k xX [.agg ⟨[vi ax,vi aw,vs aA]⟩,vi p1] h=qk C fl k ax aw aA p1 h:=NT (ary C fl k (aD _)) ax aw aA p1 (by kernel_rfl) (by kernel_rfl)
def PI(t8:Sl):List Value:=un 8 (t8.v::un 40 [])
def HI:aa:=.seq (.region [m 48 9,m 8 48] [9,48]) (.ret)
def Kg(t9:Sl):List Value:=un 9 (t9.v::un 39 [])
abbrev tA(R:Type):=Sl→Int→Sl→Addr→Sl→Int→AH→Option R
def tB(t1:Sl)(t2:Int)(t3:Sl)(t4:Addr)(t9:Sl)(t10:Int):List Value:=un 1 (t1.v::vi t2::t3.v::vp t4::un 4 (t9.v::vi t10::un 38 []))
def Bg:aa:=.region [m 18 10,bc 19 .add 18 1,m 10 19] [18,19]
def Nu(cn:aa):aa:=.seq (.seq (.region [m 14 10,m 15 1,ln 16 15,cm 17 .lss 14 16] [14,15,16]) (.seq (.cond (.t 17) (kl [17]) (.seq (kl [1,2,3,4,10,17]) (.exit 0))) (.block 1 (.seq (.region [m 20 9,m 21 10,m 22 1,m 23 10,ia 24 1 22 23,li 25 24,ia 26 1 20 21,sI 1 26 25] [20,21,22,23,24,25,26]) (.seq (.region [m 27 3,m 28 10,ia 29 1 27 28,li 30 29,ck 31 .neq 30 0] [27,28,29,30]) (.cond (.t 31) (.region [m 32 9,m 33 10,oJ 34 (.load (.agg [.int .i64,.int .i64,.slice]) (.t 4)),m 35 1,m 36 10,ia 37 1 35 36,lj 38 37,oJ 39 (.load (.agg [.int .i64,.int .i64,.slice]) (.t 4)),m 40 2,m 41 3,m 42 10,ia 43 1 41 42,lj 44 43,oJ 45 (.call (.f 172) [.t 39,.t 40,.t 44] (.one (.one (.int .i64)))),oI 46 (.call (.f 173) [.t 34,.t 38,.t 45] (.one (.one (.int .i64)))),ia 47 1 32 33,sI 1 47 46] [31,32,33,34,35,36,37,38,39,40,41,42,43,44,45,46,47]) (kl [31]))))))) cn
def HJ:aa:=Nu Bg
def RO:aa:=.seq (.block 0 (.loop HJ)) HI
def afY(cn:aa):aa:=.seq (.seq (.region [oI 4 (.box (.t 0)),oI 8 (.mv (.c (.slice none 0 0)))] [0,8]) (.seq (.region [m 11 1,ln 12 11,oI 13 (.cD 8 [.int .i64 0] (.t 12) (.t 12)),m 9 13] [11,12,13]) (.region [mc 10 0] []))) cn
def amb:aa:=afY RO
abbrev afZ(R:Type):=Int→Int→Sl→Sl→Int→Sl→AH→Option R
def af0(aI aH:Int)(aK t1:Sl)(t2:Int)(t3:Sl):List Value:=.agg ⟨[vi aI,vi aH,vs aK]⟩::t1.v::vi t2::t3.v::un 45 []
def tC:ay:=⟨49,amb,[.tmp 8]⟩
theorem RP:okF Tryz.prog 155 tC=true:=by kernel_rfl
def LL{R:Type}(C:Callee)(fl k:Nat)(kr:ak R):ak R:=fun t9 h=>kr t9 h
theorem aas:(cp Kg (ce C fl k HI K))=LL C fl k (cp PI (K .ret)):=by kernel_rfl
def nU{R:Type}(C:Callee)(fl k:Nat)(kn:tA R)(e0:ak R):tA R:=fun t1 t2 t3 t4 t9 t10 h=>kn t1 t2 t3 t4 t9 (bL (t10+1)) h
theorem Tf:(cp tB (ce C fl k Bg K))=nU C fl k (cp tB (K .normal)) (cp Kg (K (.exit 0))):=by kernel_rfl
def wN{R:Type}(C:Callee)(fl k:Nat)(kx:tA R)(kn:tA R)(e0:ak R):tA R:=fun t1 t2 t3 t4 t9 t10 h=>if decide (t10<((t1.l:Nat):Int))=true then idx 1 t1 t10 fun p1=>aE .i64 h p1.block p1.off fun n2=>idx 1 t9 t10 fun p3=>st fl h p3 [vi n2] fun h4=>idx 1 t3 t10 fun p5=>aE .i64 h4 p5.block p5.off fun n6=>if (n6 !=0)=true then aE .i64 h4 t4.block t4.off fun n7=>aE .i64 h4 t4.block (t4.off+1) fun n8=>bM h4 t4.block (t4.off+1+1) fun s9=>idx 1 t1 t10 fun TH=>aE .i64 h4 TH.block TH.off fun Cw=>aE .i64 h4 t4.block t4.off fun Cs=>aE .i64 h4 t4.block (t4.off+1) fun Fs=>bM h4 t4.block (t4.off+1+1) fun s14=>idx 1 t3 t10 fun XH=>aE .i64 h4 XH.block XH.off fun KL=>aC C h4.next fn.gO [.agg ⟨[vi Cs,vi Fs,vs s14]⟩,vi t2,vi KL] h4 fun v17 O4=>asInt .i64 v17 fun PY=>aC C fl fn.nJ [.agg ⟨[vi n7,vi n8,vs s9]⟩,vi Cw,vi PY] O4 fun v20 Sy=>asInt .i64 v20 fun Sm=>idx 1 t9 t10 fun p23=>st fl Sy p23 [vi Sm] fun yc=>kx t1 t2 t3 t4 t9 t10 yc else kx t1 t2 t3 t4 t9 t10 h4 else e0 t9 h
def rM(kn:tA R)(e0:ak R):tA R:=wN C fl k (nU C fl k kn e0) kn e0
theorem aat(cn:aa):(cp tB (ce C fl k (Nu cn) K))=wN C fl k (cp tB (ce C fl k cn K)) (cp tB (K .normal)) (cp Kg (K (.exit 0))):=by kernel_rfl
theorem aau:(cp tB (ce C fl k HJ K))=rM C fl k (cp tB (K .normal)) (cp Kg (K (.exit 0))):=(aat C fl k K Bg).trans (aj (fun L0=>wN C fl k L0 _ _) (Tf C fl k K))
def nV(kn:ak R):Nat→tA R
 |0=>fun _ _ _ _ _ _ _=>none
 |m+1=>rM C fl k (nV kn m) kn
theorem Nv:∀m,(cp tB (aR m (bH C fl k HJ 0 K)))=nV C fl k (cp Kg (K .normal)) m
 |0=>by kernel_rfl
 |m+1=>mq (aau C fl k _) (aj (fun L=>rM C fl k L _) (Nv m))
def af1(kr:ak R):tA R:=nV C fl k (LL C fl k kr) k
theorem ahA:(cp tB (ce C fl k RO K))=af1 C fl k (cp PI (K .ret)):=(ou (mw (Nv C fl k (bU C fl k HI K)))).trans (aj (fun L=>nV C fl k L k) (oh (aas C fl k K)))
def W0{R:Type}(C:Callee)(fl k:Nat)(kx:tA R)(kr:ak R):afZ R:=fun aI aH aK t1 t2 t3 h=>cU h [vi aI,vi aH,vs aK] fun b25 h26=>xg 8 [.int .i64 0] ((t1.l:Nat):Int) ((t1.l:Nat):Int) h26 fun s27 h28=>kx t1 t2 t3 ⟨b25,0,none⟩ s27 0 h28
def amc(kr:ak R):afZ R:=W0 C fl k (af1 C fl k kr) kr
theorem arz(cn:aa):(cp af0 (ce C fl k (afY cn) K))=W0 C fl k (cp tB (ce C fl k cn K)) (cp PI (K .ret)):=by kernel_rfl
theorem arA:(cp af0 (ce C fl k amb K))=amc C fl k (cp PI (K .ret)):=(arz C fl k K RO).trans (aj (fun L0=>W0 C fl k L0 _) (ahA C fl k K))
def nI(ax aw:Int)(aA p1:Sl)(p2:Int)(p3:Sl)(h:AH):Option (Value×AH):=amc C fl k (fun y8 q=>some (vs y8,q)) ax aw aA p1 p2 p3 h
theorem OP(ax aw:Int)(aA p1:Sl)(p2:Int)(p3:Sl)(h):bl C fl k tC [.agg ⟨[vi ax,vi aw,vs aA]⟩,vs p1,vi p2,vs p3] h=nI C fl k ax aw aA p1 p2 p3 h:=auC (arA C fl k (aD _)) ax aw aA p1 p2 p3 (by kernel_rfl) (by kernel_rfl)
def arB(t4:Sl):List Value:=un 4 (t4.v::un 8 [])
def amd:aa:=.seq (.region [oI 2 (.box (.t 0)),oI 4 (.mv (.c (.slice none 0 0)))] [0,4]) (.seq (.region [oJ 5 (.load (.agg [.int .i64,.int .i64,.slice]) (.t 2)),m 6 1,oJ 7 (.call (.f 174) [.t 5,.t 6] (.one (.one (.int .i64)))),fa 8 0 2,lj 9 8,fa 10 1 2,lj 11 10,oI 12 (.call (.f 137) [.t 7,.t 9,.t 11] (.one (.one .slice))),m 4 12] [1,2,5,6,7,8,9,10,11,12]) (.ret))
def arC(aI aH:Int)(aK:Sl)(t1:Int):List Value:=.agg ⟨[vi aI,vi aH,vs aK]⟩::vi t1::un 11 []
def pB:ay:=⟨13,amd,[.tmp 4]⟩
theorem OQ:okF Tryz.prog 156 pB=true:=by kernel_rfl
def ame{R:Type}(C:Callee)(fl k:Nat)(kr:ak R):ki R:=fun aI aH aK t1 h=>cU h [vi aI,vi aH,vs aK] fun b1 h2=>aE .i64 h2 b1 0 fun n3=>aE .i64 h2 b1 1 fun n4=>bM h2 b1 2 fun s5=>aC C h2.next fn.yU [.agg ⟨[vi n3,vi n4,vs s5]⟩,vi t1] h2 fun v6 h7=>asInt .i64 v6 fun n8=>aE .i64 h7 b1 0 fun n9=>aE .i64 h7 b1 1 fun ux=>aC C fl fn.lu [vi n8,vi n9,vi ux] h7 fun v11 H3=>bB v11 fun s13=>kr s13 H3
theorem arD:(cp arC (ce C fl k amd K))=ame C fl k (cp arB (K .ret)):=by kernel_rfl
def cL(ax aw:Int)(aA:Sl)(p1:Int)(h:AH):Option (Value×AH):=ame C fl k (fun y4 q=>some (vs y4,q)) ax aw aA p1 h
theorem LM(ax aw:Int)(aA:Sl)(p1:Int)(h):bl C fl k pB [.agg ⟨[vi ax,vi aw,vs aA]⟩,vi p1] h=cL C fl k ax aw aA p1 h:=NT (arD C fl k (aD _)) ax aw aA p1 (by kernel_rfl) (by kernel_rfl)
def PJ(t4:Int):List Value:=un 4 (vi t4::un 19 [])
def HK:aa:=.seq (.region [m 23 5,m 4 23] [5,23]) (.ret)
def W1(t5:Int):List Value:=un 5 (vi t5::un 18 [])
abbrev Kh(R:Type):=Sl→Addr→Int→Int→AH→Option R
def Ki(t1:Sl)(t2:Addr)(t5 t6:Int):List Value:=un 1 (t1.v::vp t2::un 2 (vi t5::vi t6::un 17 []))
def HL:aa:=.seq (.region [m 10 6,ck 11 .geq 10 0] [10]) (.seq (.cond (.t 11) (kl [11]) (.seq (kl [1,2,6,11]) (.exit 0))) (.seq (.block 1 (.region [m 14 5,fa 15 0 2,lj 16 15,bb 17 .mul 14 16,m 18 1,m 19 6,ia 20 1 18 19,lj 21 20,bb 22 .add 17 21,m 5 22] [14,15,16,17,18,19,20,21,22])) (.region [m 12 6,bc 13 .sub 12 1,m 6 13] [12,13])))
def RQ:aa:=.seq (.block 0 (.loop HL)) HK
def af2(cn:aa):aa:=.seq (.seq (.region [oI 2 (.box (.t 0)),mc 4 0] [0,4]) (.seq (.region [mc 5 0] []) (.region [m 7 1,ln 8 7,bc 9 .sub 8 1,m 6 9] [7,8,9]))) cn
def amf:aa:=af2 RQ
def af3(aI aH:Int)(aK t1:Sl):List Value:=.agg ⟨[vi aI,vi aH,vs aK]⟩::t1.v::un 22 []
def tD:ay:=⟨24,amf,[.tmp 4]⟩
theorem RS:okF Tryz.prog 157 tD=true:=by kernel_rfl
def LN{R:Type}(C:Callee)(fl k:Nat)(kr:ae R):ae R:=fun t5 h=>kr t5 h
theorem aav:(cp W1 (ce C fl k HK K))=LN C fl k (cp PJ (K .ret)):=by kernel_rfl
def rN{R:Type}(C:Callee)(fl k:Nat)(kn:Kh R)(e0:ae R):Kh R:=fun t1 t2 t5 t6 h=>if decide (t6≥0)=true then aE .i64 h t2.block t2.off fun n1=>idx 1 t1 t6 fun p2=>aE .i64 h p2.block p2.off fun n3=>kn t1 t2 (bL (bL (t5*n1)+n3)) (bL (t6-1)) h else e0 t5 h
theorem aaw:(cp Ki (ce C fl k HL K))=rN C fl k (cp Ki (K .normal)) (cp W1 (K (.exit 0))):=by kernel_rfl
def zP(kn:ae R):Nat→Kh R
 |0=>fun _ _ _ _ _=>none
 |m+1=>rN C fl k (zP kn m) kn
theorem Nw:∀m,(cp Ki (aR m (bH C fl k HL 0 K)))=zP C fl k (cp W1 (K .normal)) m
 |0=>by kernel_rfl
 |m+1=>mq (aaw C fl k _) (aj (fun L=>rN C fl k L _) (Nw m))
def W2(kr:ae R):Kh R:=zP C fl k (LN C fl k kr) k
theorem ahB:(cp Ki (ce C fl k RQ K))=W2 C fl k (cp PJ (K .ret)):=(ou (mw (Nw C fl k (bU C fl k HK K)))).trans (aj (fun L=>zP C fl k L k) (oh (aav C fl k K)))
def W4{R:Type}(C:Callee)(fl k:Nat)(kx:Kh R)(kr:ae R):xI R:=fun aI aH aK t1 h=>cU h [vi aI,vi aH,vs aK] fun b4 h5=>kx t1 ⟨b4,0,none⟩ 0 (bL (((t1.l:Nat):Int)-1)) h5
def amg(kr:ae R):xI R:=W4 C fl k (W2 C fl k kr) kr
theorem arE(cn:aa):(cp af3 (ce C fl k (af2 cn) K))=W4 C fl k (cp Ki (ce C fl k cn K)) (cp PJ (K .ret)):=by kernel_rfl
theorem arF:(cp af3 (ce C fl k amf K))=amg C fl k (cp PJ (K .ret)):=(arE C fl k K RQ).trans (aj (fun L0=>W4 C fl k L0 _) (ahB C fl k K))
def fO(ax aw:Int)(aA p1:Sl)(h:AH):Option (Value×AH):=amg C fl k (fun y4 q=>some (vi y4,q)) ax aw aA p1 h
theorem OR(ax aw:Int)(aA p1:Sl)(h):bl C fl k tD [.agg ⟨[vi ax,vi aw,vs aA]⟩,vs p1] h=fO C fl k ax aw aA p1 h:=NT (arF C fl k (aD _)) ax aw aA p1 (by kernel_rfl) (by kernel_rfl)
def eU:ay:=⟨38,.seq (.region [oI 6 (.mv (.c (.slice none 0 0)))] [6]) (.seq (.region [m 11 0,oI 12 (.cg (.t 11)),fa 13 0 12,oI 14 (.load (.one .kB) (.t 13)),oI 15 (.build [.pointer none,.slice none 0 0,.slice none 0 0] [(0,1,.t 14)]),oI 16 (.box (.t 15)),m 7 16] [11,12,13,14,15,16]) (.seq (.region [oI 8 (.mv (.c (.slice none 0 0)))] []) (.seq (.seq (.region [m 17 1,ln 18 17,mc 19 0] [1]) (.block 0 (.loop (.seq (.region [cm 20 .lss 19 18] []) (.seq (.cond (.t 20) (kl [20]) (.seq (kl [0,2,7,17,18,19,20]) (.exit 0))) (.seq (.block 1 (.seq (.region [ia 21 1 17 19,li 22 21,m 10 22] [21,22]) (.seq (.seq (.region [m 23 8,ln 24 23,m 25 2,cm 26 .eql 24 25] [23,24,25]) (.cond (.t 26) (.seq (kl [0,2,7,10,17,18,19,26]) (.exit 0)) (kl [26]))) (.seq (.region [m 27 7,m 28 0,m 29 10,oI 30 (.call (.f 176) [.t 28,.t 29] (.one (.one .slice))),oI 31 (.call (.f 175) [.t 27,.t 30] (.one (.one .bool)))] [27,28,29,30]) (.cond (.t 31) (.region [m 32 8,m 33 10,oI 34 (.aQ 1 [.int .i64 0] [(0,1,.t 33)]),oI 35 (.append 1 8 (.t 32) (.t 34)),m 8 35] [10,31,32,33,34,35]) (kl [10,31])))))) (.region [bc 36 .add 19 1,m 19 36] [36]))))))) (.seq (.region [m 37 8,m 6 37] [8,37]) (.ret))))),[.tmp 6]⟩
theorem xp:okF Tryz.prog 158 eU=true:=by kernel_rfl
def eH:ay:=⟨36,.seq (.region [oI 6 (.mv (.c (.slice none 0 0)))] [6]) (.seq (.region [m 9 2,oI 10 (.call (.f 178) [.t 9] (.one (.one .any))),oI 11 (.call (.f 177) [.t 10] (.one (.one .slice))),m 7 11] [9,10,11]) (.seq (.seq (.region [m 12 0,oI 13 (.cg (.t 12)),fa 14 1 13,fa 15 3 14,li 16 15,mc 17 0] [0,12,13,14,15]) (.block 0 (.loop (.seq (.region [cm 18 .lss 17 16] []) (.seq (.cond (.t 18) (kl [18]) (.seq (kl [1,2,16,17,18]) (.exit 0))) (.seq (.block 1 (.seq (.region [m 19 17,m 8 19] [19]) (.seq (.region [m 20 1,m 21 8,oI 22 (.call (.f 54) [.t 20,.t 21] (.one (.one .bool))),no 23 22,m 24 23,.fc 24 true [qI 25 (.mv (.t 2)),qI 26 (.mv (.t 8)),qI 27 (.call (.f 54) [.t 25,.t 26] (.one (.one .bool))),qI 28 (.not (.t 27))],oI 29 (.pick (.t 24) (.t 28) (.c (.bool false)))] [20,21,22,23,24,25,26,27,28]) (.cond (.t 29) (.region [m 30 7,m 31 8,oI 32 (.aQ 1 [.int .i64 0] [(0,1,.t 31)]),oI 33 (.append 1 8 (.t 30) (.t 32)),m 7 33] [8,29,30,31,32,33]) (kl [8,29]))))) (.region [bc 34 .add 17 1,m 17 34] [34]))))))) (.seq (.region [m 35 7,m 6 35] [7,35]) (.ret)))),[.tmp 6]⟩
theorem wO:okF Tryz.prog 159 eH=true:=by kernel_rfl
def tE:ay:=⟨11,.seq (.region [m 3 0,ln 4 3,m 2 4] [3,4]) (.region [m 5 0,m 6 2,m 7 2,oI 8 (.conv .i64 .u64 (.t 7)),oI 9 (.call (.f 180) [.t 8] (.one (.one (.int .i64)))),oI 10 (.call (.f 179) [.t 5,ci 0,.t 6,.t 9] (.jo []))] [0,2,5,6,7,8,9,10]),[]⟩
theorem RT:okF Tryz.prog 160 tE=true:=by kernel_rfl
def ft:ay:=⟨95,.seq (.region [oI 6 (.mv (.c (.bool false)))] [6]) (.seq (.seq (.region [m 9 2,ln 10 9,mc 11 0] []) (.block 0 (.loop (.seq (.region [cm 12 .lss 11 10] []) (.seq (.cond (.t 12) (kl [12]) (.seq (kl [9,10,11,12]) (.exit 0))) (.seq (.block 1 (.seq (.region [m 13 11,ia 14 1 9 11,li 15 14,m 7 13,m 8 15] [13,14,15]) (.seq (.region [m 16 8,ck 17 .lss 16 0,m 18 17,.fc 18 false [qI 19 (.mv (.t 8)),qI 20 (.mv (.t 0)),qI 21 (.cg (.t 20)),qI 22 (.cu 1 (.t 21)),qI 23 (.cu 3 (.t 22)),qI 24 (.load (.one (.int .i64)) (.t 23)),qI 25 (.cmp .geq .i64 (.t 19) (.t 24))],oI 26 (.pick (.t 18) (.c (.bool true)) (.t 25)),m 27 26,.fc 27 false [qI 28 (.mv (.t 7)),qI 29 (.cmp .gtr .i64 (.t 28) (ci 0)),qI 30 (.mv (.t 29))],.fc 30 true [qI 31 (.mv (.t 8)),qI 32 (.mv (.t 2)),qI 33 (.mv (.t 7)),qI 34 (.bin .sub .i64 (.t 33) (ci 1)),qI 35 (.dx 1 (.t 32) (.t 34)),qI 36 (.load (.one (.int .i64)) (.t 35)),qI 37 (.cmp .leq .i64 (.t 31) (.t 36))],.fc 27 false [qI 38 (.pick (.t 30) (.t 37) (.c (.bool false)))],oI 39 (.pick (.t 27) (.c (.bool true)) (.t 38)),m 40 39,.fc 40 false [qI 41 (.mv (.t 1)),qI 42 (.mv (.t 8)),qI 43 (.call (.f 54) [.t 41,.t 42] (.one (.one .bool)))],oI 44 (.pick (.t 40) (.c (.bool true)) (.t 43))] [7,8,16,17,18,19,20,21,22,23,24,25,26,27,28,29,30,31,32,33,34,35,36,37,38,39,40,41,42,43]) (.cond (.t 44) (.seq (.region [oI 6 (.mv (.c (.bool false)))] [0,1,2,9,10,11,44]) (.ret)) (kl [44]))))) (.region [bc 45 .add 11 1,m 11 45] [45]))))))) (.seq (.seq (.region [m 46 0,m 47 2,m 48 2,ln 49 48,oI 50 (.call (.f 158) [.t 46,.t 47,.t 49] (.one (.one .slice))),ln 51 50,m 52 2,ln 53 52,cm 54 .neq 51 53] [46,47,48,49,50,51,52,53]) (.cond (.t 54) (.seq (.region [oI 6 (.mv (.c (.bool false)))] [0,1,2,54]) (.ret)) (kl [54]))) (.seq (.seq (.region [m 55 0,oI 56 (.cg (.t 55)),fa 57 7 56,oI 58 (.load (.one .bool) (.t 57)),no 59 58] [55,56,57,58]) (.cond (.t 59) (.seq (.region [m 60 2,ln 61 60,m 62 0,oI 63 (.cg (.t 62)),fa 64 8 63,li 65 64,cm 66 .eql 61 65,m 6 66] [0,1,2,59,60,61,62,63,64,65,66]) (.ret)) (kl [59]))) (.seq (.region [m 67 0,m 68 0,m 69 1,oJ 70 (.call (.f 159) [.t 68,.t 69,.c (.slice none 0 0)] (.one (.one .slice))),m 71 0,oI 72 (.cg (.t 71)),fa 73 1 72,fa 74 3 73,lj 75 74,oI 76 (.call (.f 158) [.t 67,.t 70,.t 75] (.one (.one .slice))),ln 77 76,m 78 2,ln 79 78,cm 80 .eql 77 79,m 81 80,.fc 81 true [qI 82 (.mv (.t 1)),qI 83 (.len (.t 82)),qI 84 (.mv (.t 0)),qI 85 (.mv (.t 1)),qI 86 (.mv (.t 2)),qJ 87 (.call (.f 181) [.t 84,.t 85,.t 86] (.one (.one (.int .i64)))),qI 88 (.bin .add .i64 (.t 83) (.t 87)),qI 89 (.mv (.t 0)),qI 90 (.cg (.t 89)),qI 91 (.cu 9 (.t 90)),qJ 92 (.load (.one (.int .i64)) (.t 91)),qI 93 (.cmp .gtr .i64 (.t 88) (.t 92))],oI 94 (.pick (.t 81) (.t 93) (.c (.bool false))),m 6 94] [0,1,2,67,68,69,70,71,72,73,74,75,76,77,78,79,80,81,82,83,84,85,86,87,88,89,90,91,92,93,94]) (.ret))))),[.tmp 6]⟩
theorem yt:okF Tryz.prog 161 ft=true:=by kernel_rfl
def eh:ay:=⟨49,.seq (.region [mc 10 0] [10]) (.seq (.seq (.region [m 14 1,ln 15 14,m 16 0,oI 17 (.cg (.t 16)),fa 18 9 17,li 19 18,cm 20 .eql 15 19] [0,14,15,16,17,18,19]) (.cond (.t 20) (.seq (.region [mc 10 0] [1,2,3,4,20]) (.ret)) (kl [20]))) (.seq (.region [m 21 2,oI 22 (.call (.f 118) [.t 21] (.one (.one .slice))),m 2 22] [21,22]) (.seq (.seq (.region [m 23 3,ln 24 23,mc 25 0] [3]) (.block 0 (.loop (.seq (.region [cm 26 .lss 25 24] []) (.seq (.cond (.t 26) (kl [26]) (.seq (kl [1,2,4,23,24,25,26]) (.exit 0))) (.seq (.block 1 (.seq (.region [ia 27 1 23 25,li 28 27,m 12 28] [27,28]) (.seq (.seq (.region [m 29 2,m 30 12,oI 31 (.call (.f 54) [.t 29,.t 30] (.one (.one .bool)))] [29,30]) (.cond (.t 31) (.seq (kl [12,31]) (.exit 1)) (kl [31]))) (.seq (.seq (.region [m 32 4,m 33 1,oI 34 (.call (.f 118) [.t 33] (.one (.one .slice))),m 35 12,oI 36 (.aQ 1 [.int .i64 0] [(0,1,.t 35)]),oI 37 (.append 1 8 (.t 34) (.t 36)),m 38 2,oI 39 (.call (.f 118) [.t 38] (.one (.one .slice))),oI 40 (.call (.t 32) [.t 37,.t 39] (.one (.one (.int .i64)))),m 13 40] [32,33,34,35,36,37,38,39,40]) (.seq (.region [m 41 13,ck 42 .neq 41 0] [41]) (.cond (.t 42) (.seq (.region [m 43 13,m 10 43] [1,2,4,12,13,23,24,25,42,43]) (.ret)) (kl [13,42])))) (.region [m 44 2,m 45 12,oI 46 (.aQ 1 [.int .i64 0] [(0,1,.t 45)]),oI 47 (.append 1 8 (.t 44) (.t 46)),m 2 47] [12,44,45,46,47]))))) (.region [bc 48 .add 25 1,m 25 48] [48]))))))) (.seq (.region [mc 10 0] []) (.ret))))),[.tmp 10]⟩
theorem vr:okF Tryz.prog 162 eh=true:=by kernel_rfl
def arG:List Value:=un 13 []
def amh:aa:=.seq (.region [m 4 0,ls 5 1,oI 6 (.call (.t 4) [.t 5] (.jo []))] [1,4,5,6]) (.seq (.region [ls 7 2,ln 8 7,ck 9 .gtr 8 0] [7,8]) (.cond (.t 9) (.region [m 10 0,ls 11 2,oI 12 (.call (.t 10) [.t 11] (.jo []))] [0,2,9,10,11,12]) (kl [0,2,9])))
abbrev arH(R:Type):=Value→Addr→Addr→AH→Option R
def arI(t0:Value)(t1 t2:Addr):List Value:=t0::vp t1::vp t2::un 10 []
def iq:ay:=⟨13,amh,[]⟩
theorem Ci:okF Tryz.prog 166 iq=true:=by kernel_rfl
def ami{R:Type}(C:Callee)(fl k:Nat)(kn:ar R):arH R:=fun t0 t1 t2 h=>bM h t1.block t1.off fun s1=>lX C fl t0 [vs s1] h fun v2 h3=>bj v2 fun l4=>ch l4 (bM h3 t2.block t2.off fun s5=>if decide (((s5.l:Nat):Int)>0)=true then bM h3 t2.block t2.off fun s6=>lX C fl t0 [vs s6] h3 fun v7 h8=>bj v7 fun l9=>ch l9 (kn h8) else kn h3)
theorem arJ:(cp arI (ce C fl k amh K))=ami C fl k (cp arG (K .normal)):=by kernel_rfl
def eJ(p0:Value)(p1 p2:Addr)(h:AH):Option (Value×AH):=ami C fl k (fun q=>some (.tuple ⟨[]⟩,q)) p0 p1 p2 h
theorem Bh(p0:Value)(p1 p2:Addr)(h):bl C fl k iq [p0,.pointer (some p1),.pointer (some p2)] h=eJ C fl k p0 p1 p2 h:=yV (arJ C fl k (aD _)) p0 p1 p2 (by kernel_rfl) (by kernel_rfl)
def arK:List Value:=un 15 []
def amj:aa:=.region [m 5 0,lj 6 3,oJ 7 (.load (.one .kB) (.t 1)),lj 8 2,m 9 0,lj 10 3,ia 11 1 9 10,lt 12 11,oJ 13 (.call (.f 140) [.t 7,.t 8,.t 12] (.one (.one .slice))),ia 14 1 5 6,sI 1 14 13] [0,1,2,3,5,6,7,8,9,10,11,12,13,14]
abbrev arL(R:Type):=Sl→Addr→Addr→Addr→AH→Option R
def arM(t0:Sl)(t1 t2 t3:Addr):List Value:=t0.v::vp t1::vp t2::vp t3::un 11 []
def ir:ay:=⟨15,amj,[]⟩
theorem Cj:okF Tryz.prog 168 ir=true:=by kernel_rfl
def amk{R:Type}(C:Callee)(fl k:Nat)(kn:ar R):arL R:=fun t0 t1 t2 t3 h=>aE .i64 h t3.block t3.off fun n1=>ldN h t1.block t1.off fun p2=>aE .i64 h t2.block t2.off fun n3=>aE .i64 h t3.block t3.off fun n4=>idx 1 t0 n4 fun p5=>bM h p5.block p5.off fun s6=>aC C h.next fn.jl [.pointer p2,vi n3,vs s6] h fun v7 h8=>bB v7 fun s9=>idx 1 t0 n1 fun TH=>st fl h8 TH [vs s9] fun mI=>kn mI
theorem arN:(cp arM (ce C fl k amj K))=amk C fl k (cp arK (K .normal)):=by kernel_rfl
def eK(p0:Sl)(p1 p2 p3:Addr)(h:AH):Option (Value×AH):=amk C fl k (fun q=>some (.tuple ⟨[]⟩,q)) p0 p1 p2 p3 h
theorem Bi(p0:Sl)(p1 p2 p3:Addr)(h):bl C fl k ir [vs p0,.pointer (some p1),.pointer (some p2),.pointer (some p3)] h=eK C fl k p0 p1 p2 p3 h:=NT (arN C fl k (aD _)) p0 p1 p2 p3 (by kernel_rfl) (by kernel_rfl)
def arO:List Value:=un 19 []
def aml:aa:=.region [oJ 6 (.load (.one .kB) (.t 1)),m 7 0,lj 8 2,ia 9 1 7 8,lt 10 9,oJ 11 (.load (.one .kB) (.t 1)),lj 12 3,oJ 13 (.call (.f 104) [.t 11,.t 12] (.one (.one (.int .i64)))),m 14 0,lj 15 4,ia 16 1 14 15,lt 17 16,oI 18 (.call (.f 145) [.t 6,.t 10,.t 13,.t 17] (.jo []))] [0,1,2,3,4,6,7,8,9,10,11,12,13,14,15,16,17,18]
abbrev arP(R:Type):=Sl→Addr→Addr→Addr→Addr→AH→Option R
def arQ(t0:Sl)(t1 t2 t3 t4:Addr):List Value:=t0.v::vp t1::vp t2::vp t3::vp t4::un 14 []
def iu:ay:=⟨19,aml,[]⟩
theorem Ck:okF Tryz.prog 169 iu=true:=by kernel_rfl
def amm{R:Type}(C:Callee)(fl k:Nat)(kn:ar R):arP R:=fun t0 t1 t2 t3 t4 h=>ldN h t1.block t1.off fun p1=>aE .i64 h t2.block t2.off fun n2=>idx 1 t0 n2 fun p3=>bM h p3.block p3.off fun s4=>ldN h t1.block t1.off fun p5=>aE .i64 h t3.block t3.off fun n6=>aC C h.next fn.eO [.pointer p5,vi n6] h fun v7 h8=>asInt .i64 v7 fun n9=>aE .i64 h8 t4.block t4.off fun ux=>idx 1 t0 ux fun p11=>bM h8 p11.block p11.off fun s12=>aC C fl fn.qj [.pointer p1,vs s4,vi n9,vs s12] h8 fun v13 h14=>bj v13 fun l15=>ch l15 (kn h14)
theorem arR:(cp arQ (ce C fl k aml K))=amm C fl k (cp arO (K .normal)):=by kernel_rfl
def eL(p0:Sl)(p1 p2 p3 p4:Addr)(h:AH):Option (Value×AH):=amm C fl k (fun q=>some (.tuple ⟨[]⟩,q)) p0 p1 p2 p3 p4 h
theorem Bj(p0:Sl)(p1 p2 p3 p4:Addr)(h):bl C fl k iu [vs p0,.pointer (some p1),.pointer (some p2),.pointer (some p3),.pointer (some p4)] h=eL C fl k p0 p1 p2 p3 p4 h:=vU (arR C fl k (aD _)) p0 p1 p2 p3 p4 (by kernel_rfl) (by kernel_rfl)
def PK(t6:Sl):List Value:=un 6 (t6.v::un 20 [])
def HM:aa:=.seq (.region [m 26 7,m 6 26] [7,26]) (.ret)
def W5(t7:Sl):List Value:=un 7 (t7.v::un 19 [])
def Kj(t0 t1:Int)(t7:Sl)(t12 t13:Int):List Value:=vi t0::vi t1::un 5 (t7.v::un 4 (vi t12::vi t13::un 13 []))
def HN:aa:=.seq (.region [cm 14 .lss 13 12] []) (.seq (.cond (.t 14) (kl [14]) (.seq (kl [0,1,12,13,14]) (.exit 0))) (.seq (.block 1 (.seq (.region [m 15 13,m 8 15] [15]) (.seq (.region [m 16 7,m 17 8,m 18 0,m 19 1,bb 20 .rem 18 19,ia 21 1 16 17,sI 1 21 20] [8,16,17,18,19,20,21]) (.region [m 22 0,m 23 1,bb 24 .quo 22 23,m 0 24] [22,23,24])))) (.region [bc 25 .add 13 1,m 13 25] [25])))
def RU:aa:=.seq (.block 0 (.loop HN)) HM
def af4(cn:aa):aa:=.seq (.seq (.region [oI 6 (.mv (.c (.slice none 0 0)))] [6]) (.seq (.region [m 9 2,oI 10 (.cD 8 [.int .i64 0] (.t 9) (.t 9)),m 7 10] [2,9,10]) (.region [m 11 7,ln 12 11,mc 13 0] [11]))) cn
def amn:aa:=af4 RU
def af5(t0 t1 t2:Int):List Value:=vi t0::vi t1::vi t2::un 24 []
def lR:ay:=⟨27,amn,[.tmp 6]⟩
theorem Kk:okF Tryz.prog 170 lR=true:=by kernel_rfl
def LO{R:Type}(C:Callee)(fl k:Nat)(kr:ak R):ak R:=fun t7 h=>kr t7 h
theorem aax:(cp W5 (ce C fl k HM K))=LO C fl k (cp PK (K .ret)):=by kernel_rfl
def rO{R:Type}(C:Callee)(fl k:Nat)(kn:il R)(e0:ak R):il R:=fun t0 t1 t7 t12 t13 h=>if decide (t13<t12)=true then jd .rem .i64 t0 t1 fun n1=>idx 1 t7 t13 fun p2=>st fl h p2 [vi n1] fun h3=>jd .quo .i64 t0 t1 fun n4=>kn n4 t1 t7 t12 (bL (t13+1)) h3 else e0 t7 h
theorem aay:(cp Kj (ce C fl k HN K))=rO C fl k (cp Kj (K .normal)) (cp W5 (K (.exit 0))):=by kernel_rfl
def zQ(kn:ak R):Nat→il R
 |0=>fun _ _ _ _ _ _=>none
 |m+1=>rO C fl k (zQ kn m) kn
theorem Nx:∀m,(cp Kj (aR m (bH C fl k HN 0 K)))=zQ C fl k (cp W5 (K .normal)) m
 |0=>by kernel_rfl
 |m+1=>mq (aay C fl k _) (aj (fun L=>rO C fl k L _) (Nx m))
def af6(kr:ak R):il R:=zQ C fl k (LO C fl k kr) k
theorem ahC:(cp Kj (ce C fl k RU K))=af6 C fl k (cp PK (K .ret)):=(ou (mw (Nx C fl k (bU C fl k HM K)))).trans (aj (fun L=>zQ C fl k L k) (oh (aax C fl k K)))
def W6{R:Type}(C:Callee)(fl k:Nat)(kx:il R)(kr:ak R):JT R:=fun t0 t1 t2 h=>xg 8 [.int .i64 0] t2 t2 h fun s5 h6=>kx t0 t1 s5 ((s5.l:Nat):Int) 0 h6
def amo(kr:ak R):JT R:=W6 C fl k (af6 C fl k kr) kr
theorem arS(cn:aa):(cp af5 (ce C fl k (af4 cn) K))=W6 C fl k (cp Kj (ce C fl k cn K)) (cp PK (K .ret)):=by kernel_rfl
theorem arT:(cp af5 (ce C fl k amn K))=amo C fl k (cp PK (K .ret)):=(arS C fl k K RU).trans (aj (fun L0=>W6 C fl k L0 _) (ahC C fl k K))
def gn(p0 p1 p2:Int)(h:AH):Option (Value×AH):=amo C fl k (fun y6 q=>some (vs y6,q)) p0 p1 p2 h
theorem wP(p0 p1 p2:Int)(h):bl C fl k lR [vi p0,vi p1,vi p2] h=gn C fl k p0 p1 p2 h:=yV (arT C fl k (aD _)) p0 p1 p2 (by kernel_rfl) (by kernel_rfl)
def PL(t4:Int):List Value:=un 4 (vi t4::un 18 [])
def HO:aa:=.seq (.region [m 22 5,m 4 22] [5,22]) (.ret)
def W7(t5:Int):List Value:=un 5 (vi t5::un 17 [])
def Kl(t0:Sl)(t1 t5 t6:Int):List Value:=t0.v::vi t1::un 3 (vi t5::vi t6::un 16 [])
def HP:aa:=.seq (.region [m 10 6,ck 11 .geq 10 0] [10]) (.seq (.cond (.t 11) (kl [11]) (.seq (kl [0,1,6,11]) (.exit 0))) (.seq (.block 1 (.region [m 14 5,m 15 1,bb 16 .mul 14 15,m 17 0,m 18 6,ia 19 1 17 18,li 20 19,bb 21 .add 16 20,m 5 21] [14,15,16,17,18,19,20,21])) (.region [m 12 6,bc 13 .sub 12 1,m 6 13] [12,13])))
def RV:aa:=.seq (.block 0 (.loop HP)) HO
def af7(cn:aa):aa:=.seq (.seq (.region [mc 4 0] [4]) (.seq (.region [mc 5 0] []) (.region [m 7 0,ln 8 7,bc 9 .sub 8 1,m 6 9] [7,8,9]))) cn
def amp:aa:=af7 RV
def af8(t0:Sl)(t1:Int):List Value:=t0.v::vi t1::un 21 []
def mP:ay:=⟨23,amp,[.tmp 4]⟩
theorem LP:okF Tryz.prog 171 mP=true:=by kernel_rfl
def LQ{R:Type}(C:Callee)(fl k:Nat)(kr:ae R):ae R:=fun t5 h=>kr t5 h
theorem aaz:(cp W7 (ce C fl k HO K))=LQ C fl k (cp PL (K .ret)):=by kernel_rfl
def rP{R:Type}(C:Callee)(fl k:Nat)(kn:bR R)(e0:ae R):bR R:=fun t0 t1 t5 t6 h=>if decide (t6≥0)=true then idx 1 t0 t6 fun p1=>aE .i64 h p1.block p1.off fun n2=>kn t0 t1 (bL (bL (t5*t1)+n2)) (bL (t6-1)) h else e0 t5 h
theorem aaA:(cp Kl (ce C fl k HP K))=rP C fl k (cp Kl (K .normal)) (cp W7 (K (.exit 0))):=by kernel_rfl
def zR(kn:ae R):Nat→bR R
 |0=>fun _ _ _ _ _=>none
 |m+1=>rP C fl k (zR kn m) kn
theorem Ny:∀m,(cp Kl (aR m (bH C fl k HP 0 K)))=zR C fl k (cp W7 (K .normal)) m
 |0=>by kernel_rfl
 |m+1=>mq (aaA C fl k _) (aj (fun L=>rP C fl k L _) (Ny m))
def W8(kr:ae R):bR R:=zR C fl k (LQ C fl k kr) k
theorem ahD:(cp Kl (ce C fl k RV K))=W8 C fl k (cp PL (K .ret)):=(ou (mw (Ny C fl k (bU C fl k HO K)))).trans (aj (fun L=>zR C fl k L k) (oh (aaz C fl k K)))
def W9{R:Type}(C:Callee)(fl k:Nat)(kx:bR R)(kr:ae R):aO R:=fun t0 t1 h=>kx t0 t1 0 (bL (((t0.l:Nat):Int)-1)) h
def amq(kr:ae R):aO R:=W9 C fl k (W8 C fl k kr) kr
theorem arU(cn:aa):(cp af8 (ce C fl k (af7 cn) K))=W9 C fl k (cp Kl (ce C fl k cn K)) (cp PL (K .ret)):=by kernel_rfl
theorem arV:(cp af8 (ce C fl k amp K))=amq C fl k (cp PL (K .ret)):=(arU C fl k K RV).trans (aj (fun L0=>W9 C fl k L0 _) (ahD C fl k K))
def j5(p0:Sl)(p1:Int)(h:AH):Option (Value×AH):=amq C fl k (fun y4 q=>some (vi y4,q)) p0 p1 h
theorem xY(p0:Sl)(p1:Int)(h):bl C fl k mP [vs p0,vi p1] h=j5 C fl k p0 p1 h:=Ca (arV C fl k (aD _)) p0 p1 (by kernel_rfl) (by kernel_rfl)
def Bk(t6:Int):List Value:=un 6 (vi t6::un 110 [])
def wQ:aa:=.seq (.region [oJ 111 (.load (.agg [.int .i64,.int .i64,.slice]) (.t 3)),m 112 9,fa 113 1 3,lj 114 113,oI 115 (.slice 1 (.t 112) none (some (.t 114)) none),oI 116 (.call (.f 157) [.t 111,.t 115] (.one (.one (.int .i64)))),m 6 116] [3,9,111,112,113,114,115,116]) (.ret)
def jO(t3:Addr)(t9:Sl):List Value:=un 3 (vp t3::un 5 (t9.v::un 107 []))
def eo(t3:Addr)(t9:Sl)(t12:Int):List Value:=un 3 (vp t3::un 5 (t9.v::un 2 (vi t12::un 104 [])))
def jP:aa:=.region [m 69 12,bc 70 .sub 69 1,m 12 70] [69,70]
def Km(t3:Addr)(t9:Sl)(t12 t13:Int):List Value:=un 3 (vp t3::un 5 (t9.v::un 2 (vi t12::vi t13::un 103 [])))
def jQ:aa:=.seq (.region [m 71 13,fa 72 1 3,li 73 72,cm 74 .lss 71 73] [71,72,73]) (.seq (.cond (.t 74) (kl [74]) (.seq (kl [13,74]) (.exit 6))) (.seq (.block 7 (.region [m 77 9,m 78 12,fa 79 1 3,lj 80 79,bb 81 .sub 78 80,m 82 13,bb 83 .add 81 82,m 84 9,m 85 12,fa 86 1 3,lj 87 86,bb 88 .sub 85 87,m 89 13,bb 90 .add 88 89,ia 91 1 84 90,lj 92 91,fa 93 0 3,lj 94 93,m 95 9,m 96 12,ia 97 1 95 96,lj 98 97,bb 99 .sub 94 98,fa 100 2 3,lt 101 100,m 102 13,ia 103 1 101 102,lj 104 103,bb 105 .mul 99 104,bb 106 .add 92 105,fa 107 0 3,lj 108 107,bb 109 .rem 106 108,ia 110 1 77 83,sI 1 110 109] [77,78,79,80,81,82,83,84,85,86,87,88,89,90,91,92,93,94,95,96,97,98,99,100,101,102,103,104,105,106,107,108,109,110])) (.region [m 75 13,bc 76 .add 75 1,m 13 76] [75,76])))
def kT:aa:=.block 6 (.loop jQ)
def uM(cn:aa):aa:=.seq (.region [mc 13 0] []) cn
def np:aa:=uM kT
def xZ(cn vw:aa):aa:=.seq (.block 5 vw) cn
def rQ:aa:=xZ jP np
def BZ(cn:aa):aa:=.seq (.seq (.region [m 65 12,fa 66 1 3,li 67 66,cm 68 .geq 65 67] [65,66,67]) (.cond (.t 68) (kl [68]) (.seq (kl [12,68]) (.exit 4)))) cn
def wR:aa:=BZ rQ
def Bl:aa:=.seq (.block 4 (.loop wR)) wQ
def Nz(cn:aa):aa:=.seq (.region [fa 61 1 3,li 62 61,oI 63 (.bin .mul .i64 (ci 2) (.t 62)),bc 64 .sub 63 2,m 12 64] [61,62,63,64]) cn
def HQ:aa:=Nz Bl
def ep(t3:Addr)(t7 t8 t9:Sl)(t10:Int):List Value:=un 3 (vp t3::un 3 (t7.v::t8.v::t9.v::vi t10::un 106 []))
def pC:aa:=.region [m 29 10,bc 30 .add 29 1,m 10 30] [29,30]
abbrev Kn(R:Type):=Addr→Sl→Sl→Sl→Int→Int→AH→Option R
def Ko(t3:Addr)(t7 t8 t9:Sl)(t10 t11:Int):List Value:=un 3 (vp t3::un 3 (t7.v::t8.v::t9.v::vi t10::vi t11::un 105 []))
def mf:aa:=.seq (.region [m 31 11,fa 32 1 3,li 33 32,cm 34 .lss 31 33] [31,32,33]) (.seq (.cond (.t 34) (kl [34]) (.seq (kl [11,34]) (.exit 2))) (.seq (.block 3 (.region [m 37 9,m 38 10,m 39 11,bb 40 .add 38 39,m 41 9,m 42 10,m 43 11,bb 44 .add 42 43,ia 45 1 41 44,lj 46 45,m 47 7,m 48 10,ia 49 1 47 48,lj 50 49,m 51 8,m 52 11,ia 53 1 51 52,lj 54 53,bb 55 .mul 50 54,bb 56 .add 46 55,fa 57 0 3,lj 58 57,bb 59 .rem 56 58,ia 60 1 37 40,sI 1 60 59] [37,38,39,40,41,42,43,44,45,46,47,48,49,50,51,52,53,54,55,56,57,58,59,60])) (.region [m 35 11,bc 36 .add 35 1,m 11 36] [35,36])))
def pD:aa:=.block 2 (.loop mf)
def B0(cn:aa):aa:=.seq (.region [mc 11 0] []) cn
def wS:aa:=B0 pD
def FE(cn vw:aa):aa:=.seq (.block 1 vw) cn
def Bm:aa:=FE pC wS
def NA(cn:aa):aa:=.seq (.seq (.region [m 25 10,fa 26 1 3,li 27 26,cm 28 .lss 25 27] [25,26,27]) (.cond (.t 28) (kl [28]) (.seq (kl [7,8,10,28]) (.exit 0)))) cn
def HR:aa:=NA Bm
def RW:aa:=.seq (.block 0 (.loop HR)) HQ
def af9(cn:aa):aa:=.seq (.seq (.region [oI 3 (.box (.t 0)),mc 6 0] [0,6]) (.seq (.region [oI 14 (.load (.agg [.int .i64,.int .i64,.slice]) (.t 3)),m 15 1,oI 16 (.call (.f 156) [.t 14,.t 15] (.one (.one .slice))),m 7 16] [1,14,15,16]) (.seq (.region [oI 17 (.load (.agg [.int .i64,.int .i64,.slice]) (.t 3)),m 18 2,oI 19 (.call (.f 156) [.t 17,.t 18] (.one (.one .slice))),m 8 19] [2,17,18,19]) (.seq (.region [fa 20 1 3,li 21 20,oI 22 (.bin .mul .i64 (ci 2) (.t 21)),bc 23 .sub 22 1,oI 24 (.cD 8 [.int .i64 0] (.t 23) (.t 23)),m 9 24] [20,21,22,23,24]) (.region [mc 10 0] []))))) cn
def amr:aa:=af9 RW
def aga(aI aH:Int)(aK:Sl)(t1 t2:Int):List Value:=.agg ⟨[vi aI,vi aH,vs aK]⟩::vi t1::vi t2::un 114 []
def x7:ay:=⟨117,amr,[.tmp 6]⟩
theorem Xa:okF Tryz.prog 172 x7=true:=by kernel_rfl
def tF{R:Type}(C:Callee)(fl k:Nat)(kr:ae R):bW R:=fun t3 t9 h=>aE .i64 h t3.block t3.off fun n1=>aE .i64 h t3.block (t3.off+1) fun n2=>bM h t3.block (t3.off+1+1) fun s3=>aE .i64 h t3.block (t3.off+1) fun n4=>sub 1 t9 none (some n4) none fun s5=>aC C fl fn.fO [.agg ⟨[vi n1,vi n2,vs s3]⟩,vs s5] h fun v6 h7=>asInt .i64 v6 fun n8=>kr n8 h7
theorem OS:(cp jO (ce C fl k wQ K))=tF C fl k (cp Bk (K .ret)):=by kernel_rfl
def iw{R:Type}(C:Callee)(fl k:Nat)(kn:cw R)(e4:bW R):cw R:=fun t3 t9 t12 h=>kn t3 t9 (bL (t12-1)) h
theorem uN:(cp eo (ce C fl k jP K))=iw C fl k (cp eo (K .normal)) (cp jO (K (.exit 4))):=by kernel_rfl
def cJ{R:Type}(C:Callee)(fl k:Nat)(kn:oT R)(e6:cw R):oT R:=fun t3 t9 t12 t13 h=>aE .i64 h t3.block (t3.off+1) fun n9=>if decide (t13<n9)=true then aE .i64 h t3.block (t3.off+1) fun ux=>aE .i64 h t3.block (t3.off+1) fun Cw=>idx 1 t9 (bL (bL (t12-Cw)+t13)) fun Mc=>aE .i64 h Mc.block Mc.off fun Fs=>aE .i64 h t3.block t3.off fun DM=>idx 1 t9 t12 fun XH=>aE .i64 h XH.block XH.off fun KL=>bM h t3.block (t3.off+2) fun s17=>idx 1 s17 t13 fun p18=>aE .i64 h p18.block p18.off fun PY=>aE .i64 h t3.block t3.off fun n20=>jd .rem .i64 (bL (Fs+(bL (bL (DM-KL)*PY)))) n20 fun n21=>idx 1 t9 (bL (bL (t12-ux)+t13)) fun p22=>st fl h p22 [vi n21] fun h23=>kn t3 t9 t12 (bL (t13+1)) h23 else e6 t3 t9 t12 h
theorem zS:(cp Km (ce C fl k jQ K))=cJ C fl k (cp Km (K .normal)) (cp eo (K (.exit 6))):=by kernel_rfl
def gI(kn:cw R):Nat→oT R
 |0=>fun _ _ _ _ _=>none
 |m+1=>cJ C fl k (gI kn m) kn
theorem nW:∀m,(cp Km (aR m (bH C fl k jQ 6 K)))=gI C fl k (cp eo (K .normal)) m
 |0=>by kernel_rfl
 |m+1=>mq (zS C fl k _) (aj (fun L=>cJ C fl k L _) (nW m))
def mg(kn:cw R):oT R:=gI C fl k kn k
theorem Cl:(cp Km (ce C fl k kT K))=mg C fl k (cp eo (K .normal)):=mw (nW C fl k K)
def jR{R:Type}(C:Callee)(fl k:Nat)(kx:oT R)(kn:cw R):cw R:=fun t3 t9 t12 h=>kx t3 t9 t12 0 h
def kv(kn:cw R):cw R:=jR C fl k (mg C fl k kn) kn
theorem Fh(cn:aa):(cp eo (ce C fl k (uM cn) K))=jR C fl k (cp Km (ce C fl k cn K)) (cp eo (K .normal)):=by kernel_rfl
theorem Fi:(cp eo (ce C fl k np K))=kv C fl k (cp eo (K .normal)):=(Fh C fl k K kT).trans (aj (fun L0=>jR C fl k L0 _) (Cl C fl k K))
def lS{R:Type}(C:Callee)(fl k:Nat)(kx:cw R)(u0:cw R)(kn:cw R)(e4:bW R):cw R:=fun t3 t9 t12 h=>u0 t3 t9 t12 h
def ur(kn:cw R)(e4:bW R):cw R:=lS C fl k (iw C fl k kn e4) (kv C fl k (iw C fl k kn e4)) kn e4
theorem Kp(cn vw:aa):(cp eo (ce C fl k (xZ cn vw) K))=lS C fl k (cp eo (ce C fl k cn K)) (cp eo (ce C fl k vw (vJ 5 (bU C fl k cn K)))) (cp eo (K .normal)) (cp jO (K (.exit 4))):=by kernel_rfl
theorem Kq:(cp eo (ce C fl k rQ K))=ur C fl k (cp eo (K .normal)) (cp jO (K (.exit 4))):=(Kp C fl k K jP np).trans (ot (fun L0 L1=>lS C fl k L0 L1 _ _) (uN C fl k K) ((Fi C fl k (vJ 5 (bU C fl k jP K))).trans (aj (fun L0=>kv C fl k L0) (bn1 (uN C fl k K)))))
def kU{R:Type}(C:Callee)(fl k:Nat)(kx:cw R)(kn:cw R)(e4:bW R):cw R:=fun t3 t9 t12 h=>aE .i64 h t3.block (t3.off+1) fun n24=>if decide (t12≥n24)=true then kx t3 t9 t12 h else e4 t3 t9 h
def iJ(kn:cw R)(e4:bW R):cw R:=kU C fl k (ur C fl k kn e4) kn e4
theorem OT(cn:aa):(cp eo (ce C fl k (BZ cn) K))=kU C fl k (cp eo (ce C fl k cn K)) (cp eo (K .normal)) (cp jO (K (.exit 4))):=by kernel_rfl
theorem OU:(cp eo (ce C fl k wR K))=iJ C fl k (cp eo (K .normal)) (cp jO (K (.exit 4))):=(OT C fl k K rQ).trans (aj (fun L0=>kU C fl k L0 _ _) (Kq C fl k K))
def j9(kn:bW R):Nat→cw R
 |0=>fun _ _ _ _=>none
 |m+1=>iJ C fl k (j9 kn m) kn
theorem B1:∀m,(cp eo (aR m (bH C fl k wR 4 K)))=j9 C fl k (cp jO (K .normal)) m
 |0=>by kernel_rfl
 |m+1=>mq (OU C fl k _) (aj (fun L=>iJ C fl k L _) (B1 m))
def Di(kr:ae R):cw R:=j9 C fl k (tF C fl k kr) k
theorem Tg:(cp eo (ce C fl k Bl K))=Di C fl k (cp Bk (K .ret)):=(ou (mw (B1 C fl k (bU C fl k wQ K)))).trans (aj (fun L=>j9 C fl k L k) (oh (OS C fl k K)))
def Bn{R:Type}(C:Callee)(fl k:Nat)(kx:cw R)(kr:ae R):bW R:=fun t3 t9 h=>aE .i64 h t3.block (t3.off+1) fun n25=>kx t3 t9 (bL (bL (2*n25)-2)) h
def EJ(kr:ae R):bW R:=Bn C fl k (Di C fl k kr) kr
theorem aaB(cn:aa):(cp jO (ce C fl k (Nz cn) K))=Bn C fl k (cp eo (ce C fl k cn K)) (cp Bk (K .ret)):=by kernel_rfl
theorem aaC:(cp jO (ce C fl k HQ K))=EJ C fl k (cp Bk (K .ret)):=(aaB C fl k K Bl).trans (aj (fun L0=>Bn C fl k L0 _) (Tg C fl k K))
def mF{R:Type}(C:Callee)(fl k:Nat)(kn:aY R)(e0:bW R):aY R:=fun t3 t7 t8 t9 t10 h=>kn t3 t7 t8 t9 (bL (t10+1)) h
theorem B2:(cp ep (ce C fl k pC K))=mF C fl k (cp ep (K .normal)) (cp jO (K (.exit 0))):=by kernel_rfl
def dz{R:Type}(C:Callee)(fl k:Nat)(kn:Kn R)(e2:aY R):Kn R:=fun t3 t7 t8 t9 t10 t11 h=>aE .i64 h t3.block (t3.off+1) fun PW=>if decide (t11<PW)=true then idx 1 t9 (bL (t10+t11)) fun p27=>aE .i64 h p27.block p27.off fun n28=>idx 1 t7 t10 fun p29=>aE .i64 h p29.block p29.off fun n30=>idx 1 t8 t11 fun p31=>aE .i64 h p31.block p31.off fun n32=>aE .i64 h t3.block t3.off fun n33=>jd .rem .i64 (bL (n28+(bL (n30*n32)))) n33 fun n34=>idx 1 t9 (bL (t10+t11)) fun p35=>st fl h p35 [vi n34] fun h36=>kn t3 t7 t8 t9 t10 (bL (t11+1)) h36 else e2 t3 t7 t8 t9 t10 h
theorem Dj:(cp Ko (ce C fl k mf K))=dz C fl k (cp Ko (K .normal)) (cp ep (K (.exit 2))):=by kernel_rfl
def jS(kn:aY R):Nat→Kn R
 |0=>fun _ _ _ _ _ _ _=>none
 |m+1=>dz C fl k (jS kn m) kn
theorem tT:∀m,(cp Ko (aR m (bH C fl k mf 2 K)))=jS C fl k (cp ep (K .normal)) m
 |0=>by kernel_rfl
 |m+1=>mq (Dj C fl k _) (aj (fun L=>dz C fl k L _) (tT m))
def rR(kn:aY R):Kn R:=jS C fl k kn k
theorem HS:(cp Ko (ce C fl k pD K))=rR C fl k (cp ep (K .normal)):=mw (tT C fl k K)
def pE{R:Type}(C:Callee)(fl k:Nat)(kx:Kn R)(kn:aY R):aY R:=fun t3 t7 t8 t9 t10 h=>kx t3 t7 t8 t9 t10 0 h
def tG(kn:aY R):aY R:=pE C fl k (rR C fl k kn) kn
theorem OW(cn:aa):(cp ep (ce C fl k (B0 cn) K))=pE C fl k (cp Ko (ce C fl k cn K)) (cp ep (K .normal)):=by kernel_rfl
theorem OX:(cp ep (ce C fl k wS K))=tG C fl k (cp ep (K .normal)):=(OW C fl k K pD).trans (aj (fun L0=>pE C fl k L0 _) (HS C fl k K))
def vt{R:Type}(C:Callee)(fl k:Nat)(kx:aY R)(u0:aY R)(kn:aY R)(e0:bW R):aY R:=fun t3 t7 t8 t9 t10 h=>u0 t3 t7 t8 t9 t10 h
def Dk(kn:aY R)(e0:bW R):aY R:=vt C fl k (mF C fl k kn e0) (tG C fl k (mF C fl k kn e0)) kn e0
theorem Th(cn vw:aa):(cp ep (ce C fl k (FE cn vw) K))=vt C fl k (cp ep (ce C fl k cn K)) (cp ep (ce C fl k vw (vJ 1 (bU C fl k cn K)))) (cp ep (K .normal)) (cp jO (K (.exit 0))):=by kernel_rfl
theorem Ti:(cp ep (ce C fl k Bm K))=Dk C fl k (cp ep (K .normal)) (cp jO (K (.exit 0))):=(Th C fl k K pC wS).trans (ot (fun L0 L1=>vt C fl k L0 L1 _ _) (B2 C fl k K) ((OX C fl k (vJ 1 (bU C fl k pC K))).trans (aj (fun L0=>tG C fl k L0) (bn1 (B2 C fl k K)))))
def wT{R:Type}(C:Callee)(fl k:Nat)(kx:aY R)(kn:aY R)(e0:bW R):aY R:=fun t3 t7 t8 t9 t10 h=>aE .i64 h t3.block (t3.off+1) fun n37=>if decide (t10<n37)=true then kx t3 t7 t8 t9 t10 h else e0 t3 t9 h
def rS(kn:aY R)(e0:bW R):aY R:=wT C fl k (Dk C fl k kn e0) kn e0
theorem aaD(cn:aa):(cp ep (ce C fl k (NA cn) K))=wT C fl k (cp ep (ce C fl k cn K)) (cp ep (K .normal)) (cp jO (K (.exit 0))):=by kernel_rfl
theorem aaE:(cp ep (ce C fl k HR K))=rS C fl k (cp ep (K .normal)) (cp jO (K (.exit 0))):=(aaD C fl k K Bm).trans (aj (fun L0=>wT C fl k L0 _ _) (Ti C fl k K))
def vF(kn:bW R):Nat→aY R
 |0=>fun _ _ _ _ _ _=>none
 |m+1=>rS C fl k (vF kn m) kn
theorem NB:∀m,(cp ep (aR m (bH C fl k HR 0 K)))=vF C fl k (cp jO (K .normal)) m
 |0=>by kernel_rfl
 |m+1=>mq (aaE C fl k _) (aj (fun L=>rS C fl k L _) (NB m))
def Xb(kr:ae R):aY R:=vF C fl k (EJ C fl k kr) k
theorem ahE:(cp ep (ce C fl k RW K))=Xb C fl k (cp Bk (K .ret)):=(ou (mw (NB C fl k (bU C fl k HQ K)))).trans (aj (fun L=>vF C fl k L k) (oh (aaC C fl k K)))
def Xc{R:Type}(C:Callee)(fl k:Nat)(kx:aY R)(kr:ae R):il R:=fun aI aH aK t1 t2 h=>cU h [vi aI,vi aH,vs aK] fun b38 h39=>aE .i64 h39 b38 0 fun n40=>aE .i64 h39 b38 1 fun n41=>bM h39 b38 2 fun s42=>aC C fl fn.cL [.agg ⟨[vi n40,vi n41,vs s42]⟩,vi t1] h39 fun v43 h44=>bB v43 fun s45=>aE .i64 h44 b38 0 fun n46=>aE .i64 h44 b38 1 fun n47=>bM h44 b38 2 fun s48=>aC C fl fn.cL [.agg ⟨[vi n46,vi n47,vs s48]⟩,vi t2] h44 fun v49 h50=>bB v49 fun s51=>aE .i64 h50 b38 1 fun n52=>xg 8 [.int .i64 0] (bL (bL (2*n52)-1)) (bL (bL (2*n52)-1)) h50 fun s53 h54=>kx ⟨b38,0,none⟩ s45 s51 s53 0 h54
def ams(kr:ae R):il R:=Xc C fl k (Xb C fl k kr) kr
theorem arW(cn:aa):(cp aga (ce C fl k (af9 cn) K))=Xc C fl k (cp ep (ce C fl k cn K)) (cp Bk (K .ret)):=by kernel_rfl
theorem arX:(cp aga (ce C fl k amr K))=ams C fl k (cp Bk (K .ret)):=(arW C fl k K RW).trans (aj (fun L0=>Xc C fl k L0 _) (ahE C fl k K))
def gO(ax aw:Int)(aA:Sl)(p1 p2:Int)(h:AH):Option (Value×AH):=ams C fl k (fun y6 q=>some (vi y6,q)) ax aw aA p1 p2 h
theorem Tj(ax aw:Int)(aA:Sl)(p1 p2:Int)(h):bl C fl k x7 [.agg ⟨[vi ax,vi aw,vs aA]⟩,vi p1,vi p2] h=gO C fl k ax aw aA p1 p2 h:=vU (arX C fl k (aD _)) ax aw aA p1 p2 (by kernel_rfl) (by kernel_rfl)
def PM(t6:Int):List Value:=un 6 (vi t6::un 33 [])
def HT:aa:=.seq (.region [oI 37 (.load (.agg [.int .i64,.int .i64,.slice]) (.t 3)),m 38 7,oI 39 (.call (.f 157) [.t 37,.t 38] (.one (.one (.int .i64)))),m 6 39] [3,7,37,38,39]) (.ret)
def Xd(t3:Addr)(t7:Sl):List Value:=un 3 (vp t3::un 3 (t7.v::un 32 []))
abbrev Kr(R:Type):=Addr→Sl→Sl→Int→AH→Option R
def Ks(t3:Addr)(t7 t8:Sl)(t9:Int):List Value:=un 3 (vp t3::un 3 (t7.v::t8.v::vi t9::un 30 []))
def HU:aa:=.seq (.region [m 16 9,m 17 7,ln 18 17,cm 19 .lss 16 18] [16,17,18]) (.seq (.cond (.t 19) (kl [19]) (.seq (kl [8,9,19]) (.exit 0))) (.seq (.block 1 (.region [m 22 7,m 23 9,m 24 7,m 25 9,ia 26 1 24 25,lj 27 26,m 28 8,m 29 9,ia 30 1 28 29,lj 31 30,bb 32 .add 27 31,fa 33 0 3,lj 34 33,bb 35 .rem 32 34,ia 36 1 22 23,sI 1 36 35] [22,23,24,25,26,27,28,29,30,31,32,33,34,35,36])) (.region [m 20 9,bc 21 .add 20 1,m 9 21] [20,21])))
def RX:aa:=.seq (.block 0 (.loop HU)) HT
def agb(cn:aa):aa:=.seq (.seq (.region [oI 3 (.box (.t 0)),mc 6 0] [0,6]) (.seq (.region [oI 10 (.load (.agg [.int .i64,.int .i64,.slice]) (.t 3)),m 11 1,oI 12 (.call (.f 156) [.t 10,.t 11] (.one (.one .slice))),m 7 12] [1,10,11,12]) (.seq (.region [oI 13 (.load (.agg [.int .i64,.int .i64,.slice]) (.t 3)),m 14 2,oI 15 (.call (.f 156) [.t 13,.t 14] (.one (.one .slice))),m 8 15] [2,13,14,15]) (.region [mc 9 0] [])))) cn
def amt:aa:=agb RX
def agc(aI aH:Int)(aK:Sl)(t1 t2:Int):List Value:=.agg ⟨[vi aI,vi aH,vs aK]⟩::vi t1::vi t2::un 37 []
def x8:ay:=⟨40,amt,[.tmp 6]⟩
theorem Xe:okF Tryz.prog 173 x8=true:=by kernel_rfl
def zT{R:Type}(C:Callee)(fl k:Nat)(kr:ae R):bW R:=fun t3 t7 h=>aE .i64 h t3.block t3.off fun n1=>aE .i64 h t3.block (t3.off+1) fun n2=>bM h t3.block (t3.off+1+1) fun s3=>aC C fl fn.fO [.agg ⟨[vi n1,vi n2,vs s3]⟩,vs t7] h fun v4 h5=>asInt .i64 v4 fun n6=>kr n6 h5
theorem aaF:(cp Xd (ce C fl k HT K))=zT C fl k (cp PM (K .ret)):=by kernel_rfl
def rT{R:Type}(C:Callee)(fl k:Nat)(kn:Kr R)(e0:bW R):Kr R:=fun t3 t7 t8 t9 h=>if decide (t9<((t7.l:Nat):Int))=true then idx 1 t7 t9 fun p7=>aE .i64 h p7.block p7.off fun n8=>idx 1 t8 t9 fun p9=>aE .i64 h p9.block p9.off fun ux=>aE .i64 h t3.block t3.off fun Cw=>jd .rem .i64 (bL (n8+ux)) Cw fun Cs=>idx 1 t7 t9 fun p13=>st fl h p13 [vi Cs] fun h14=>kn t3 t7 t8 (bL (t9+1)) h14 else e0 t3 t7 h
theorem aaG:(cp Ks (ce C fl k HU K))=rT C fl k (cp Ks (K .normal)) (cp Xd (K (.exit 0))):=by kernel_rfl
def zU(kn:bW R):Nat→Kr R
 |0=>fun _ _ _ _ _=>none
 |m+1=>rT C fl k (zU kn m) kn
theorem NC:∀m,(cp Ks (aR m (bH C fl k HU 0 K)))=zU C fl k (cp Xd (K .normal)) m
 |0=>by kernel_rfl
 |m+1=>mq (aaG C fl k _) (aj (fun L=>rT C fl k L _) (NC m))
def Xf(kr:ae R):Kr R:=zU C fl k (zT C fl k kr) k
theorem ahF:(cp Ks (ce C fl k RX K))=Xf C fl k (cp PM (K .ret)):=(ou (mw (NC C fl k (bU C fl k HT K)))).trans (aj (fun L=>zU C fl k L k) (oh (aaF C fl k K)))
def Xg{R:Type}(C:Callee)(fl k:Nat)(kx:Kr R)(kr:ae R):il R:=fun aI aH aK t1 t2 h=>cU h [vi aI,vi aH,vs aK] fun b15 NQ=>aE .i64 NQ b15 0 fun Sj=>aE .i64 NQ b15 1 fun n18=>bM NQ b15 2 fun s19=>aC C fl fn.cL [.agg ⟨[vi Sj,vi n18,vs s19]⟩,vi t1] NQ fun v20 Sy=>bB v20 fun s22=>aE .i64 Sy b15 0 fun n23=>aE .i64 Sy b15 1 fun n24=>bM Sy b15 2 fun s25=>aC C fl fn.cL [.agg ⟨[vi n23,vi n24,vs s25]⟩,vi t2] Sy fun v26 h27=>bB v26 fun s28=>kx ⟨b15,0,none⟩ s22 s28 0 h27
def amu(kr:ae R):il R:=Xg C fl k (Xf C fl k kr) kr
theorem arY(cn:aa):(cp agc (ce C fl k (agb cn) K))=Xg C fl k (cp Ks (ce C fl k cn K)) (cp PM (K .ret)):=by kernel_rfl
theorem arZ:(cp agc (ce C fl k amt K))=amu C fl k (cp PM (K .ret)):=(arY C fl k K RX).trans (aj (fun L0=>Xg C fl k L0 _) (ahF C fl k K))
def nJ(ax aw:Int)(aA:Sl)(p1 p2:Int)(h:AH):Option (Value×AH):=amu C fl k (fun y6 q=>some (vi y6,q)) ax aw aA p1 p2 h
theorem Tk(ax aw:Int)(aA:Sl)(p1 p2:Int)(h):bl C fl k x8 [.agg ⟨[vi ax,vi aw,vs aA]⟩,vi p1,vi p2] h=nJ C fl k ax aw aA p1 p2 h:=vU (arZ C fl k (aD _)) ax aw aA p1 p2 (by kernel_rfl) (by kernel_rfl)
def ar0(t4:Int):List Value:=un 4 (vi t4::un 4 [])
def amv:aa:=.seq (.region [oI 2 (.box (.t 0)),mc 4 0] [0,4]) (.seq (.region [oI 5 (.load (.agg [.int .i64,.int .i64,.slice]) (.t 2)),m 6 1,oI 7 (.call (.f 106) [.t 5,.t 6] (.one (.one .bool)))] [2,5,6]) (.seq (.cond (.t 7) (.seq (.region [m 8 1,m 4 8] [1,7,8]) (.ret)) (kl [1,7])) (.seq (.region [mc 4 0] []) (.ret))))
def ar1(aI aH:Int)(aK:Sl)(t1:Int):List Value:=.agg ⟨[vi aI,vi aH,vs aK]⟩::vi t1::un 7 []
def Bp:ay:=⟨9,amv,[.tmp 4]⟩
theorem aaH:okF Tryz.prog 174 Bp=true:=by kernel_rfl
def amw{R:Type}(C:Callee)(fl k:Nat)(kr:ae R):ki R:=fun aI aH aK t1 h=>cU h [vi aI,vi aH,vs aK] fun b1 h2=>aE .i64 h2 b1 0 fun n3=>aE .i64 h2 b1 1 fun n4=>bM h2 b1 2 fun s5=>aC C fl fn.kK [.agg ⟨[vi n3,vi n4,vs s5]⟩,vi t1] h2 fun v6 h7=>asBool v6 fun b8=>if b8=true then kr t1 h7 else kr 0 h7
theorem ar2:(cp ar1 (ce C fl k amv K))=amw C fl k (cp ar0 (K .ret)):=by kernel_rfl
def yU(ax aw:Int)(aA:Sl)(p1:Int)(h:AH):Option (Value×AH):=amw C fl k (fun y4 q=>some (vi y4,q)) ax aw aA p1 h
theorem Xh(ax aw:Int)(aA:Sl)(p1:Int)(h):bl C fl k Bp [.agg ⟨[vi ax,vi aw,vs aA]⟩,vi p1] h=yU C fl k ax aw aA p1 h:=NT (ar2 C fl k (aD _)) ax aw aA p1 (by kernel_rfl) (by kernel_rfl)
def gJ:ay:=⟨105,.seq (.region [oI 4 (.mv (.c (.bool false)))] [4]) (.seq (.seq (.region [m 13 0,oI 14 (.cg (.t 13)),fa 15 1 14,ls 16 15,ln 17 16,mc 18 0] [13,14,15]) (.block 0 (.loop (.seq (.region [cm 19 .lss 18 17] []) (.seq (.cond (.t 19) (kl [19]) (.seq (kl [16,17,18,19]) (.exit 0))) (.seq (.block 1 (.seq (.region [m 20 18,ia 21 1 16 18,ls 22 21,m 5 20,m 6 22] [20,21,22]) (.seq (.region [m 23 1,m 24 0,oI 25 (.cg (.t 24)),fa 26 2 25,ls 27 26,m 28 5,ia 29 1 27 28,li 30 29,ia 31 1 23 30,li 32 31,m 7 32] [5,23,24,25,26,27,28,29,30,31,32]) (.seq (.region [m 33 7,ck 34 .neq 33 0] [33]) (.cond (.t 34) (.seq (.region [m 35 6,ln 36 35,mc 37 0] [6,34]) (.block 2 (.loop (.seq (.region [cm 38 .lss 37 36] []) (.seq (.cond (.t 38) (kl [38]) (.seq (kl [7,35,36,37,38]) (.exit 2))) (.seq (.block 3 (.seq (.region [m 39 37,ia 40 1 35 37,li 41 40,m 8 39,m 9 41] [39,40,41]) (.region [m 42 1,m 43 8,m 44 0,oI 45 (.cg (.t 44)),fa 46 0 45,oJ 47 (.load (.one .kB) (.t 46)),m 48 1,m 49 8,ia 50 1 48 49,lj 51 50,m 52 0,oI 53 (.cg (.t 52)),fa 54 0 53,oJ 55 (.load (.one .kB) (.t 54)),m 56 7,m 57 9,oJ 58 (.call (.f 120) [.t 55,.t 56,.t 57] (.one (.one (.int .i64)))),oI 59 (.call (.f 119) [.t 47,.t 51,.t 58] (.one (.one (.int .i64)))),ia 60 1 42 43,sI 1 60 59] [8,9,42,43,44,45,46,47,48,49,50,51,52,53,54,55,56,57,58,59,60]))) (.region [bc 61 .add 37 1,m 37 61] [61]))))))) (kl [6,7,34])))))) (.region [bc 62 .add 18 1,m 18 62] [62]))))))) (.seq (.region [m 63 1,oI 64 (.call (.f 39) [.t 63,.f 185] (.one (.one (.int .i64)))),m 10 64] [63,64]) (.seq (.seq (.region [m 65 10,ck 66 .lss 65 0] [65]) (.cond (.t 66) (.seq (.region [oI 4 (.mv (.c (.bool false)))] [0,1,10,66]) (.ret)) (kl [66]))) (.seq (.region [m 68 0,oI 69 (.cg (.t 68)),fa 70 0 69,oJ 71 (.load (.one .kB) (.t 70)),m 72 1,m 73 10,ia 74 1 72 73,lj 75 74,oI 76 (.call (.f 139) [.t 71,.t 75] (.jo [.one (.int .i64),.one (.int .i64)])),m 67 76,ex 77 67 0,ex 78 67 1,m 11 77,m 12 78] [12,67,68,69,70,71,72,73,74,75,76,77,78]) (.seq (.region [m 79 0,m 80 0,oI 81 (.cg (.t 80)),fa 82 1 81,lt 83 82,m 84 0,oI 85 (.cg (.t 84)),fa 86 0 85,oJ 87 (.load (.one .kB) (.t 86)),m 88 11,m 89 1,oJ 90 (.call (.f 140) [.t 87,.t 88,.t 89] (.one (.one .slice))),oJ 91 (.aQ 1 [.slice none 0 0] [(0,1,.t 90)]),oI 92 (.append 1 24 (.t 83) (.t 91)),oI 93 (.cg (.t 79)),fa 94 1 93,sI 1 94 92] [1,11,79,80,81,82,83,84,85,86,87,88,89,90,91,92,93,94]) (.seq (.region [m 95 0,m 96 0,oI 97 (.cg (.t 96)),fa 98 2 97,ls 99 98,m 100 10,oI 101 (.aQ 1 [.int .i64 0] [(0,1,.t 100)]),oI 102 (.append 1 8 (.t 99) (.t 101)),oI 103 (.cg (.t 95)),fa 104 2 103,sI 1 104 102] [0,10,95,96,97,98,99,100,101,102,103,104]) (.seq (.region [oI 4 (.mv (.c (.bool true)))] []) (.ret)))))))),[.tmp 4]⟩
theorem Bq:okF Tryz.prog 175 gJ=true:=by kernel_rfl
def eV:ay:=⟨35,.seq (.region [oI 4 (.mv (.c (.slice none 0 0)))] [4]) (.seq (.region [m 8 0,oI 9 (.cg (.t 8)),fa 10 1 9,fa 11 4 10,ls 12 11,ln 13 12,oI 14 (.cD 8 [.int .i64 0] (.t 13) (.t 13)),m 5 14] [8,9,10,11,12,13,14]) (.seq (.seq (.region [m 15 0,oI 16 (.cg (.t 15)),fa 17 1 16,fa 18 4 17,ls 19 18,ln 20 19,mc 21 0] [0,15,16,17,18]) (.block 0 (.loop (.seq (.region [cm 22 .lss 21 20] []) (.seq (.cond (.t 22) (kl [22]) (.seq (kl [1,19,20,21,22]) (.exit 0))) (.seq (.block 1 (.seq (.region [m 23 21,ia 24 1 19 21,ls 25 24,m 6 23,m 7 25] [23,24,25]) (.region [m 26 5,m 27 6,m 28 7,m 29 1,ia 30 1 28 29,li 31 30,ia 32 1 26 27,sI 1 32 31] [6,7,26,27,28,29,30,31,32]))) (.region [bc 33 .add 21 1,m 21 33] [33]))))))) (.seq (.region [m 34 5,m 4 34] [5,34]) (.ret)))),[.tmp 4]⟩
theorem xq:okF Tryz.prog 176 eV=true:=by kernel_rfl
def mQ:ay:=⟨9,.seq (.region [oI 2 (.mv (.c (.slice none 0 0)))] [2]) (.seq (.region [m 4 0,oI 5 (.call (.f 186) [.t 4] (.one (.one .slice))),m 3 5] [0,4,5]) (.seq (.region [m 6 3,oI 7 (.call (.f 160) [.t 6] (.jo []))] [6,7]) (.seq (.region [m 8 3,m 2 8] [3,8]) (.ret)))),[.tmp 2]⟩
theorem LR:okF Tryz.prog 177 mQ=true:=by kernel_rfl
def mR:ay:=⟨4,.seq (.region [oI 1 (.box (.t 0)),oI 2 (.mv (.c (.nilFunc)))] [0,2]) (.seq (.region [oI 3 (.xd 187 [] [.t 1]),m 2 3] [1,3]) (.ret)),[.tmp 2]⟩
theorem LS:okF Tryz.prog 178 mR=true:=by kernel_rfl
def fu:ay:=⟨134,.seq (.region [oI 8 (.mv (.c (.bool true)))] []) (.seq (.region [oI 9 (.mv (.c (.bool true)))] []) (.block 0 (.loop (.block 1 (.seq (.region [m 19 2,m 20 1,bb 21 .sub 19 20,m 10 21] [19,20,21]) (.seq (.seq (.region [m 22 10,ck 23 .leq 22 12] [22]) (.cond (.t 23) (.seq (.region [m 24 0,m 25 1,m 26 2,oI 27 (.call (.f 188) [.t 24,.t 25,.t 26] (.jo []))] [0,1,2,3,8,9,10,23,24,25,26,27]) (.ret)) (kl [23]))) (.seq (.seq (.region [m 28 3,ck 29 .eql 28 0] [28]) (.cond (.t 29) (.seq (.region [m 30 0,m 31 1,m 32 2,oI 33 (.call (.f 189) [.t 30,.t 31,.t 32] (.jo []))] [0,1,2,3,8,9,10,29,30,31,32,33]) (.ret)) (kl [29]))) (.seq (.seq (.region [m 34 8,no 35 34] [34]) (.cond (.t 35) (.seq (.region [m 36 0,m 37 1,m 38 2,oI 39 (.call (.f 190) [.t 36,.t 37,.t 38] (.jo []))] [35,36,37,38,39]) (.region [m 40 3,bc 41 .sub 40 1,m 3 41] [40,41])) (kl [35]))) (.seq (.region [m 43 0,m 44 1,m 45 2,oI 46 (.call (.f 191) [.t 43,.t 44,.t 45] (.jo [.one (.int .i64),.one (.int .i64)])),m 42 46,ex 47 42 0,ex 48 42 1,m 11 47,m 12 48] [42,43,44,45,46,47,48]) (.seq (.seq (.region [m 49 12,ck 50 .eql 49 2] [49]) (.cond (.t 50) (.seq (.region [m 51 0,m 52 1,m 53 2,oI 54 (.call (.f 192) [.t 51,.t 52,.t 53] (.jo []))] [12,50,51,52,53,54]) (.seq (.region [m 55 2,bc 56 .sub 55 1,m 57 11,m 58 1,bb 59 .sub 57 58,bb 60 .sub 56 59,m 11 60] [55,56,57,58,59,60]) (.region [mc 12 1] []))) (kl [50]))) (.seq (.seq (.region [m 61 8,m 62 61,.fc 62 true [qI 63 (.mv (.t 9))],oI 64 (.pick (.t 62) (.t 63) (.c (.bool false))),m 65 64,.fc 65 true [qI 66 (.mv (.t 12)),qI 67 (.cmp .eql .i64 (.t 66) (ci 1))],oI 68 (.pick (.t 65) (.t 67) (.c (.bool false)))] [12,61,62,63,64,65,66,67]) (.cond (.t 68) (.seq (.region [m 69 0,m 70 1,m 71 2,oI 72 (.call (.f 193) [.t 69,.t 70,.t 71] (.one (.one .bool)))] [68,69,70,71]) (.cond (.t 72) (.seq (kl [0,1,2,3,8,9,10,11,72]) .ret) (kl [72]))) (kl [68]))) (.seq (.seq (.region [m 73 1,ck 74 .gtr 73 0,m 75 74,.fc 75 true [qI 76 (.mv (.t 0)),qI 77 (.mv (.t 1)),qI 78 (.bin .sub .i64 (.t 77) (ci 1)),qI 79 (.dx 1 (.t 76) (.t 78)),qJ 80 (.load (.one (.int .i64)) (.t 79)),qI 81 (.mv (.t 0)),qI 82 (.mv (.t 11)),qI 83 (.dx 1 (.t 81) (.t 82)),qJ 84 (.load (.one (.int .i64)) (.t 83)),qI 85 (.call (.f 194) [.t 80,.t 84] (.one (.one .bool))),qI 86 (.not (.t 85))],oI 87 (.pick (.t 75) (.t 86) (.c (.bool false)))] [73,74,75,76,77,78,79,80,81,82,83,84,85,86]) (.cond (.t 87) (.seq (.region [m 88 0,m 89 1,m 90 2,m 91 11,oI 92 (.call (.f 195) [.t 88,.t 89,.t 90,.t 91] (.one (.one (.int .i64)))),m 13 92] [1,10,11,87,88,89,90,91,92]) (.seq (.region [m 93 13,m 1 93] [13,93]) (.exit 1))) (kl [8,9,87]))) (.seq (.region [m 95 0,m 96 1,m 97 2,m 98 11,oI 99 (.call (.f 196) [.t 95,.t 96,.t 97,.t 98] (.jo [.one (.int .i64),.one .bool])),m 94 99,ex 100 94 0,ex 101 94 1,m 14 100,m 15 101] [11,94,95,96,97,98,99,100,101]) (.seq (.region [m 102 15,m 9 102] [15,102]) (.seq (.region [m 103 14,m 104 1,bb 105 .sub 103 104,m 106 2,m 107 14,bb 108 .sub 106 107,m 16 105,m 17 108] [103,104,105,106,107,108]) (.seq (.region [m 109 10,bc 110 .quo 109 8,m 18 110] [10,109,110]) (.seq (.region [m 111 16,m 112 17,cm 113 .lss 111 112] [111,112]) (.cond (.t 113) (.seq (.region [m 114 16,m 115 18,cm 116 .geq 114 115,m 8 116] [16,17,18,113,114,115,116]) (.seq (.region [m 117 0,m 118 1,m 119 14,m 120 3,oI 121 (.call (.f 179) [.t 117,.t 118,.t 119,.t 120] (.jo []))] [1,117,118,119,120,121]) (.region [m 122 14,bc 123 .add 122 1,m 1 123] [14,122,123]))) (.seq (.region [m 124 17,m 125 18,cm 126 .geq 124 125,m 8 126] [16,17,18,113,124,125,126]) (.seq (.region [m 127 0,m 128 14,bc 129 .add 128 1,m 130 2,m 131 3,oI 132 (.call (.f 179) [.t 127,.t 129,.t 130,.t 131] (.jo []))] [2,127,128,129,130,131,132]) (.region [m 133 14,m 2 133] [14,133]))))))))))))))))))))),[]⟩
theorem yu:okF Tryz.prog 179 fu=true:=by kernel_rfl
def mS:ay:=⟨8,.seq (.region [mc 2 0] [2]) (.seq (.cond (.c (.bool false)) (.seq (.region [m 3 0,oI 4 (.conv .u64 .u32 (.t 3)),oI 5 (.call (.f 197) [.t 4] (.one (.one (.int .i64)))),m 2 5] [0,3,4,5]) (.ret)) (.skip)) (.seq (.region [m 6 0,oI 7 (.call (.f 198) [.t 6] (.one (.one (.int .i64)))),m 2 7] [0,6,7]) (.ret))),[.tmp 2]⟩
theorem LU:okF Tryz.prog 180 mS=true:=by kernel_rfl
def fv:ay:=⟨5,.seq (.region [oI 2 (.mv (.c (.bool false)))] [2]) (.seq (.region [m 3 0,ck 4 .neq 3 0,m 2 4] [0,3,4]) (.ret)),[.tmp 2]⟩
theorem yv:okF Tryz.prog 185 fv=true:=by kernel_rfl
def lT:ay:=⟨5,.seq (.region [oI 2 (.mv (.c (.slice none 0 0)))] [2]) (.seq (.region [m 3 0,oI 4 (.call (.f 201) [.c (.slice none 0 0),.t 3] (.one (.one .slice))),m 2 4] [0,3,4]) (.ret)),[.tmp 2]⟩
theorem Kt:okF Tryz.prog 186 lT=true:=by kernel_rfl
def dh:ay:=⟨49,.seq (.region [m 8 1,bc 9 .add 8 1,m 6 9] [8,9]) (.block 0 (.loop (.seq (.seq (.region [m 10 6,m 11 2,cm 12 .lss 10 11] [10,11]) (.cond (.t 12) (kl [12]) (.seq (kl [0,1,2,6,12]) (.exit 0)))) (.seq (.block 1 (.seq (.region [m 15 6,m 7 15] [15]) (.block 2 (.loop (.seq (.seq (.region [m 16 7,m 17 1,cm 18 .gtr 16 17,m 19 18,.fc 19 true [qI 20 (.mv (.t 0)),qI 21 (.mv (.t 7)),qI 22 (.dx 1 (.t 20) (.t 21)),qJ 23 (.load (.one (.int .i64)) (.t 22)),qI 24 (.mv (.t 0)),qI 25 (.mv (.t 7)),qI 26 (.bin .sub .i64 (.t 25) (ci 1)),qI 27 (.dx 1 (.t 24) (.t 26)),qJ 28 (.load (.one (.int .i64)) (.t 27)),qI 29 (.call (.f 194) [.t 23,.t 28] (.one (.one .bool)))],oI 30 (.pick (.t 19) (.t 29) (.c (.bool false)))] [16,17,18,19,20,21,22,23,24,25,26,27,28,29]) (.cond (.t 30) (kl [30]) (.seq (kl [7,30]) (.exit 2)))) (.seq (.block 3 (.region [m 33 0,m 34 7,m 35 0,m 36 7,bc 37 .sub 36 1,m 38 0,m 39 7,bc 40 .sub 39 1,ia 41 1 38 40,lj 42 41,m 43 0,m 44 7,ia 45 1 43 44,lj 46 45,ia 47 1 33 34,sI 1 47 42,ia 48 1 35 37,sI 1 48 46] [33,34,35,36,37,38,39,40,41,42,43,44,45,46,47,48])) (.region [m 31 7,bc 32 .sub 31 1,m 7 32] [31,32]))))))) (.region [m 13 6,bc 14 .add 13 1,m 6 14] [13,14]))))),[]⟩
theorem rU:okF Tryz.prog 188 dh=true:=by kernel_rfl
def Br:ay:=⟨17,.seq (.region [oI 4 (.mv (.c (.bool false)))] [4]) (.seq (.region [m 5 0,oI 6 (.call (.f 151) [.t 5] (.one (.one .bool))),m 7 6,.fc 7 true [qI 8 (.mv (.t 1)),qI 9 (.call (.f 151) [.t 8] (.one (.one .bool))),qI 10 (.not (.t 9))],oI 11 (.pick (.t 7) (.t 10) (.c (.bool false))),m 12 11,.fc 12 false [qI 13 (.mv (.t 0)),qI 14 (.mv (.t 1)),qI 15 (.cmp .lss .i64 (.t 13) (.t 14))],oI 16 (.pick (.t 12) (.c (.bool true)) (.t 15)),m 4 16] [0,1,5,6,7,8,9,10,11,12,13,14,15,16]) (.ret)),[.tmp 4]⟩
theorem aaI:okF Tryz.prog 194 Br=true:=by kernel_rfl
def ky:ay:=⟨25,.seq (.region [mc 2 0] []) (.seq (.seq (.region [m 3 0,oI 4 (.cmp .geq .u64 (.t 3) (.c (.int .u64 4294967296)))] [3]) (.cond (.t 4) (.seq (.region [m 5 0,oI 6 (.sh false .u64 .u64 (.t 5) (.c (.int .u64 32))),m 0 6] [2,4,5,6]) (.region [mc 2 32] [])) (kl [4]))) (.seq (.seq (.region [m 7 0,oI 8 (.cmp .geq .u64 (.t 7) (.c (.int .u64 65536)))] [7]) (.cond (.t 8) (.seq (.region [m 9 0,oI 10 (.sh false .u64 .u64 (.t 9) (.c (.int .u64 16))),m 0 10] [8,9,10]) (.region [m 11 2,bc 12 .add 11 16,m 2 12] [11,12])) (kl [8]))) (.seq (.seq (.region [m 13 0,oI 14 (.cmp .geq .u64 (.t 13) (.c (.int .u64 256)))] [13]) (.cond (.t 14) (.seq (.region [m 15 0,oI 16 (.sh false .u64 .u64 (.t 15) (.c (.int .u64 8))),m 0 16] [14,15,16]) (.region [m 17 2,bc 18 .add 17 8,m 2 18] [17,18])) (kl [14]))) (.seq (.region [m 19 2,m 20 0,oI 21 (.conv .u64 .u8 (.t 20)),oI 22 (.KJ .u8 atU (.t 21)),oI 23 (.conv .u8 .i64 (.t 22)),bb 24 .add 19 23,m 2 24] [0,19,20,21,22,23,24]) (.ret))))),[.tmp 2]⟩
theorem HV:okF Tryz.prog 198 ky=true:=by kernel_rfl
end Go.Abs.P
end
section
set_option maxRecDepth 100000
set_option linter.unusedVariables false
namespace Go.Abs.P
open Go.Abs Go.Abs.CP Go.Abs.C Go.Proofs
def tab:List (Nat×ay):=[(9,eP),(11,r9),(12,sd),(13,iN),(15,iP),(17,lA),(18,iQ),(20,gA),(23,iS),(25,iT),(28,kd),(29,xC),(32,sq),(33,oB),(34,xD),(37,AF),(38,lB),(39,gB),(40,gC),(43,lC),(44,lE),(47,uY),(48,iV),(49,ke),(54,kf),(56,gD),(59,gE),(60,xE),(62,su),(63,sx),(64,oE),(65,oF),(66,lG),(67,mK),(68,AO),(69,Eg),(70,mL),(73,jC),(74,sA),(75,xK),(76,jD),(77,iW),(79,sC),(80,sD),(82,u6),(83,lI),(84,jH),(85,u7),(86,sG),(89,oM),(90,lJ),(91,fH),(94,eS),(96,sH),(97,sK),(98,iX),(99,sM),(100,iY),(101,lK),(102,sN),(103,oR),(104,oS),(105,AW),(106,AX),(109,sO),(110,lL),(111,va),(112,sP),(113,sQ),(114,kj),(115,fI),(116,gG),(117,oU),(118,oV),(119,oW),(120,oX),(123,jJ),(124,oY),(125,km),(126,xP),(127,lO),(128,fm),(134,fp),(136,mM),(137,pe),(138,gH),(139,pf),(140,lP),(141,pj),(142,pn),(143,jN),(144,sZ),(145,vm),(146,mN),(147,px),(148,lQ),(149,pA),(151,xW),(152,vq),(153,tz),(154,xX),(155,tC),(156,pB),(157,tD),(158,eU),(159,eH),(160,tE),(161,ft),(162,eh),(166,iq),(168,ir),(169,iu),(170,lR),(171,mP),(172,x7),(173,x8),(174,Bp),(175,gJ),(176,eV),(177,mQ),(178,mR),(179,fu),(180,mS),(185,fv),(186,lT),(188,dh),(194,Br),(198,ky)]
def T:FuncId→Option ay:=fun f=>tab.lookup f
theorem yw:T 9=some eP:=by kernel_rfl
theorem Tm:T 11=some r9:=by kernel_rfl
theorem Tn:T 12=some sd:=by kernel_rfl
theorem uO:T 13=some iN:=by kernel_rfl
theorem uP:T 15=some iP:=by kernel_rfl
theorem zV:T 17=some lA:=by kernel_rfl
theorem Fj:T 18=some iQ:=by kernel_rfl
theorem Cm:T 20=some gA:=by kernel_rfl
theorem uQ:T 23=some iS:=by kernel_rfl
theorem Fk:T 25=some iT:=by kernel_rfl
theorem Ku:T 28=some kd:=by kernel_rfl
theorem aaJ:T 29=some xC:=by kernel_rfl
theorem To:T 32=some sq:=by kernel_rfl
theorem RY:T 33=some oB:=by kernel_rfl
theorem aaK:T 34=some xD:=by kernel_rfl
theorem acO:T 37=some AF:=by kernel_rfl
theorem zW:T 38=some lB:=by kernel_rfl
theorem pZ:T 39=some gB:=by kernel_rfl
theorem qb:T 40=some gC:=by kernel_rfl
theorem zX:T 43=some lC:=by kernel_rfl
theorem zY:T 44=some lE:=by kernel_rfl
theorem Kv:T 47=some uY:=by kernel_rfl
theorem Fl:T 48=some iV:=by kernel_rfl
theorem Kw:T 49=some ke:=by kernel_rfl
theorem x9:T 54=some kf:=by kernel_rfl
theorem Cn:T 56=some gD:=by kernel_rfl
theorem Co:T 59=some gE:=by kernel_rfl
theorem aaL:T 60=some xE:=by kernel_rfl
theorem Tp:T 62=some su:=by kernel_rfl
theorem Tq:T 63=some sx:=by kernel_rfl
theorem RZ:T 64=some oE:=by kernel_rfl
theorem R0:T 65=some oF:=by kernel_rfl
theorem LV:T 66=some lG:=by kernel_rfl
theorem B3:T 67=some mK:=by kernel_rfl
theorem R1:T 68=some AO:=by kernel_rfl
theorem Up:T 69=some Eg:=by kernel_rfl
theorem OY:T 70=some mL:=by kernel_rfl
theorem wU:T 73=some jC:=by kernel_rfl
theorem FF:T 74=some sA:=by kernel_rfl
theorem ND:T 75=some xK:=by kernel_rfl
theorem nq:T 76=some jD:=by kernel_rfl
theorem uR:T 77=some iW:=by kernel_rfl
theorem FG:T 79=some sC:=by kernel_rfl
theorem FH:T 80=some sD:=by kernel_rfl
theorem Kx:T 82=some u6:=by kernel_rfl
theorem LW:T 83=some lI:=by kernel_rfl
theorem HW:T 84=some jH:=by kernel_rfl
theorem Xi:T 85=some u7:=by kernel_rfl
theorem Ts:T 86=some sG:=by kernel_rfl
theorem Dl:T 89=some oM:=by kernel_rfl
theorem LX:T 90=some lJ:=by kernel_rfl
theorem Bt:T 91=some fH:=by kernel_rfl
theorem yx:T 94=some eS:=by kernel_rfl
theorem Tt:T 96=some sH:=by kernel_rfl
theorem Tu:T 97=some sK:=by kernel_rfl
theorem Fm:T 98=some iX:=by kernel_rfl
theorem Tv:T 99=some sM:=by kernel_rfl
theorem Fo:T 100=some iY:=by kernel_rfl
theorem LY:T 101=some lK:=by kernel_rfl
theorem FI:T 102=some sN:=by kernel_rfl
theorem Dm:T 103=some oR:=by kernel_rfl
theorem Dn:T 104=some oS:=by kernel_rfl
theorem R2:T 105=some AW:=by kernel_rfl
theorem acP:T 106=some AX:=by kernel_rfl
theorem FJ:T 109=some sO:=by kernel_rfl
theorem zZ:T 110=some lL:=by kernel_rfl
theorem Xj:T 111=some va:=by kernel_rfl
theorem FK:T 112=some sP:=by kernel_rfl
theorem FL:T 113=some sQ:=by kernel_rfl
theorem ya:T 114=some kj:=by kernel_rfl
theorem pF:T 115=some fI:=by kernel_rfl
theorem qc:T 116=some gG:=by kernel_rfl
theorem Dp:T 117=some oU:=by kernel_rfl
theorem pG:T 118=some oV:=by kernel_rfl
theorem Dq:T 119=some oW:=by kernel_rfl
theorem Dr:T 120=some oX:=by kernel_rfl
theorem wV:T 123=some jJ:=by kernel_rfl
theorem Ds:T 124=some oY:=by kernel_rfl
theorem Ky:T 125=some km:=by kernel_rfl
theorem aaM:T 126=some xP:=by kernel_rfl
theorem LZ:T 127=some lO:=by kernel_rfl
theorem z6:T 128=some fm:=by kernel_rfl
theorem z7:T 134=some fp:=by kernel_rfl
theorem OZ:T 136=some mM:=by kernel_rfl
theorem R3:T 137=some pe:=by kernel_rfl
theorem Cp:T 138=some gH:=by kernel_rfl
theorem Dt:T 139=some pf:=by kernel_rfl
theorem z8:T 140=some lP:=by kernel_rfl
theorem Du:T 141=some pj:=by kernel_rfl
theorem Dv:T 142=some pn:=by kernel_rfl
theorem wW:T 143=some jN:=by kernel_rfl
theorem FM:T 144=some sZ:=by kernel_rfl
theorem Kz:T 145=some vm:=by kernel_rfl
theorem B4:T 146=some mN:=by kernel_rfl
theorem Dw:T 147=some px:=by kernel_rfl
theorem Aa:T 148=some lQ:=by kernel_rfl
theorem Dx:T 149=some pA:=by kernel_rfl
theorem aaN:T 151=some xW:=by kernel_rfl
theorem Xk:T 152=some vq:=by kernel_rfl
theorem Tw:T 153=some tz:=by kernel_rfl
theorem aaO:T 154=some xX:=by kernel_rfl
theorem Tx:T 155=some tC:=by kernel_rfl
theorem R4:T 156=some pB:=by kernel_rfl
theorem Ty:T 157=some tD:=by kernel_rfl
theorem yy:T 158=some eU:=by kernel_rfl
theorem xr:T 159=some eH:=by kernel_rfl
theorem Tz:T 160=some tE:=by kernel_rfl
theorem Ab:T 161=some ft:=by kernel_rfl
theorem wX:T 162=some eh:=by kernel_rfl
theorem Dy:T 166=some iq:=by kernel_rfl
theorem Dz:T 168=some ir:=by kernel_rfl
theorem DA:T 169=some iu:=by kernel_rfl
theorem Ac:T 170=some lR:=by kernel_rfl
theorem B5:T 171=some mP:=by kernel_rfl
theorem aaP:T 172=some x7:=by kernel_rfl
theorem aaQ:T 173=some x8:=by kernel_rfl
theorem acQ:T 174=some Bp:=by kernel_rfl
theorem Cq:T 175=some gJ:=by kernel_rfl
theorem yz:T 176=some eV:=by kernel_rfl
theorem O0:T 177=some mQ:=by kernel_rfl
theorem O1:T 178=some mR:=by kernel_rfl
theorem Ad:T 179=some fu:=by kernel_rfl
theorem O2:T 180=some mS:=by kernel_rfl
theorem Ae:T 185=some fv:=by kernel_rfl
theorem L2:T 186=some lT:=by kernel_rfl
theorem tU:T 188=some dh:=by kernel_rfl
theorem acR:T 194=some Br:=by kernel_rfl
theorem KA:T 198=some ky:=by kernel_rfl
theorem auG:∀p∈tab,okF Tryz.prog p.1 p.2=true:=(List.forall_mem_cons.2 ⟨xi,(List.forall_mem_cons.2 ⟨QG,(List.forall_mem_cons.2 ⟨QH,(List.forall_mem_cons.2 ⟨CX,(List.forall_mem_cons.2 ⟨CY,(List.forall_mem_cons.2 ⟨IS,(List.forall_mem_cons.2 ⟨CZ,(List.forall_mem_cons.2 ⟨AB,(List.forall_mem_cons.2 ⟨C0,(List.forall_mem_cons.2 ⟨C1,(List.forall_mem_cons.2 ⟨Gi,(List.forall_mem_cons.2 ⟨Vs,(List.forall_mem_cons.2 ⟨QM,(List.forall_mem_cons.2 ⟨NZ,(List.forall_mem_cons.2 ⟨Vt,(List.forall_mem_cons.2 ⟨YQ,(List.forall_mem_cons.2 ⟨IW,(List.forall_mem_cons.2 ⟨AG,(List.forall_mem_cons.2 ⟨AI,(List.forall_mem_cons.2 ⟨IZ,(List.forall_mem_cons.2 ⟨I1,(List.forall_mem_cons.2 ⟨SH,(List.forall_mem_cons.2 ⟨C3,(List.forall_mem_cons.2 ⟨Gq,(List.forall_mem_cons.2 ⟨Gr,(List.forall_mem_cons.2 ⟨AK,(List.forall_mem_cons.2 ⟨AL,(List.forall_mem_cons.2 ⟨VD,(List.forall_mem_cons.2 ⟨QU,(List.forall_mem_cons.2 ⟨QW,(List.forall_mem_cons.2 ⟨N4,(List.forall_mem_cons.2 ⟨N5,(List.forall_mem_cons.2 ⟨I4,(List.forall_mem_cons.2 ⟨Lh,(List.forall_mem_cons.2 ⟨Y8,(List.forall_mem_cons.2 ⟨acN,(List.forall_mem_cons.2 ⟨Li,(List.forall_mem_cons.2 ⟨EV,(List.forall_mem_cons.2 ⟨Q0,(List.forall_mem_cons.2 ⟨VM,(List.forall_mem_cons.2 ⟨EW,(List.forall_mem_cons.2 ⟨C5,(List.forall_mem_cons.2 ⟨Q4,(List.forall_mem_cons.2 ⟨Q5,(List.forall_mem_cons.2 ⟨SO,(List.forall_mem_cons.2 ⟨Jh,(List.forall_mem_cons.2 ⟨EZ,(List.forall_mem_cons.2 ⟨SP,(List.forall_mem_cons.2 ⟨Q6,(List.forall_mem_cons.2 ⟨Ob,(List.forall_mem_cons.2 ⟨Jj,(List.forall_mem_cons.2 ⟨zf,(List.forall_mem_cons.2 ⟨xj,(List.forall_mem_cons.2 ⟨Q9,(List.forall_mem_cons.2 ⟨Rb,(List.forall_mem_cons.2 ⟨C8,(List.forall_mem_cons.2 ⟨Re,(List.forall_mem_cons.2 ⟨Db,(List.forall_mem_cons.2 ⟨Jt,(List.forall_mem_cons.2 ⟨Rh,(List.forall_mem_cons.2 ⟨Oj,(List.forall_mem_cons.2 ⟨Ok,(List.forall_mem_cons.2 ⟨Zx,(List.forall_mem_cons.2 ⟨Zy,(List.forall_mem_cons.2 ⟨Rk,(List.forall_mem_cons.2 ⟨JA,(List.forall_mem_cons.2 ⟨SU,(List.forall_mem_cons.2 ⟨Rn,(List.forall_mem_cons.2 ⟨Rp,(List.forall_mem_cons.2 ⟨G5,(List.forall_mem_cons.2 ⟨zo,(List.forall_mem_cons.2 ⟨AZ,(List.forall_mem_cons.2 ⟨Ol,(List.forall_mem_cons.2 ⟨Om,(List.forall_mem_cons.2 ⟨On,(List.forall_mem_cons.2 ⟨Oo,(List.forall_mem_cons.2 ⟨E3,(List.forall_mem_cons.2 ⟨Oq,(List.forall_mem_cons.2 ⟨He,(List.forall_mem_cons.2 ⟨Wq,(List.forall_mem_cons.2 ⟨JL,(List.forall_mem_cons.2 ⟨yo,(List.forall_mem_cons.2 ⟨yp,(List.forall_mem_cons.2 ⟨Lx,(List.forall_mem_cons.2 ⟨Oz,(List.forall_mem_cons.2 ⟨A6,(List.forall_mem_cons.2 ⟨OC,(List.forall_mem_cons.2 ⟨JX,(List.forall_mem_cons.2 ⟨OD,(List.forall_mem_cons.2 ⟨OG,(List.forall_mem_cons.2 ⟨Fa,(List.forall_mem_cons.2 ⟨RC,(List.forall_mem_cons.2 ⟨S8,(List.forall_mem_cons.2 ⟨LF,(List.forall_mem_cons.2 ⟨OK,(List.forall_mem_cons.2 ⟨J9,(List.forall_mem_cons.2 ⟨ON,(List.forall_mem_cons.2 ⟨WS,(List.forall_mem_cons.2 ⟨Td,(List.forall_mem_cons.2 ⟨RM,(List.forall_mem_cons.2 ⟨WY,(List.forall_mem_cons.2 ⟨RP,(List.forall_mem_cons.2 ⟨OQ,(List.forall_mem_cons.2 ⟨RS,(List.forall_mem_cons.2 ⟨xp,(List.forall_mem_cons.2 ⟨wO,(List.forall_mem_cons.2 ⟨RT,(List.forall_mem_cons.2 ⟨yt,(List.forall_mem_cons.2 ⟨vr,(List.forall_mem_cons.2 ⟨Ci,(List.forall_mem_cons.2 ⟨Cj,(List.forall_mem_cons.2 ⟨Ck,(List.forall_mem_cons.2 ⟨Kk,(List.forall_mem_cons.2 ⟨LP,(List.forall_mem_cons.2 ⟨Xa,(List.forall_mem_cons.2 ⟨Xe,(List.forall_mem_cons.2 ⟨aaH,(List.forall_mem_cons.2 ⟨Bq,(List.forall_mem_cons.2 ⟨xq,(List.forall_mem_cons.2 ⟨LR,(List.forall_mem_cons.2 ⟨LS,(List.forall_mem_cons.2 ⟨yu,(List.forall_mem_cons.2 ⟨LU,(List.forall_mem_cons.2 ⟨yv,(List.forall_mem_cons.2 ⟨Kt,(List.forall_mem_cons.2 ⟨rU,(List.forall_mem_cons.2 ⟨aaI,(List.forall_mem_cons.2 ⟨HV,(fun _ h=>by cases h)⟩)⟩)⟩)⟩)⟩)⟩)⟩)⟩)⟩)⟩)⟩)⟩)⟩)⟩)⟩)⟩)⟩)⟩)⟩)⟩)⟩)⟩)⟩)⟩)⟩)⟩)⟩)⟩)⟩)⟩)⟩)⟩)⟩)⟩)⟩)⟩)⟩)⟩)⟩)⟩)⟩)⟩)⟩)⟩)⟩)⟩)⟩)⟩)⟩)⟩)⟩)⟩)⟩)⟩)⟩)⟩)⟩)⟩)⟩)⟩)⟩)⟩)⟩)⟩)⟩)⟩)⟩)⟩)⟩)⟩)⟩)⟩)⟩)⟩)⟩)⟩)⟩)⟩)⟩)⟩)⟩)⟩)⟩)⟩)⟩)⟩)⟩)⟩)⟩)⟩)⟩)⟩)⟩)⟩)⟩)⟩)⟩)⟩)⟩)⟩)⟩)⟩)⟩)⟩)⟩)⟩)⟩)⟩)⟩)⟩)⟩)⟩)⟩)⟩)⟩)⟩)⟩)⟩)⟩)⟩)⟩)⟩)⟩)⟩)⟩)⟩)⟩)⟩)
theorem auH:∀f af,T f=some af→okF Tryz.prog f af=true:=fun f af h=>auG (f,af) (Qh h)
noncomputable def aaR(C E:Callee)(fl k f:Nat)(args:List Value)(h:AH):Option (Value×AH):=cond (Nat.ble f 104) (cond (Nat.ble f 65) (cond (Nat.ble f 38) (cond (Nat.ble f 20) (cond (Nat.ble f 15) (cond (Nat.ble f 11) (cond (Nat.beq f 11) (gg C fl k r9 args h) (E fl f args h)) (cond (Nat.ble f 13) (cond (Nat.beq f 13) ((dA 5 (dI .i64 fun a=>dI .i64 fun b=>dS fun c=>dI .i64 fun d=>dS fun g=>dE (dK C fl k a b c d g h))) args) (E fl f args h)) (cond (Nat.beq f 15) ((dA 5 (dI .i64 fun a=>dI .i64 fun b=>dS fun c=>dI .i64 fun d=>dS fun g=>dE (fe C fl k a b c d g h))) args) (E fl f args h)))) (cond (Nat.ble f 17) (cond (Nat.beq f 17) ((dS fun a=>dS fun b=>dE (gi C fl k a b h)) args) (E fl f args h)) (cond (Nat.ble f 18) (cond (Nat.beq f 18) (gg C fl k iQ args h) (E fl f args h)) (cond (Nat.beq f 20) (gg C fl k gA args h) (E fl f args h))))) (cond (Nat.ble f 28) (cond (Nat.ble f 23) (cond (Nat.beq f 23) ((dS fun a=>dI .i64 fun b=>dE (bV C fl k a b h)) args) (E fl f args h)) (cond (Nat.ble f 25) (cond (Nat.beq f 25) (gg C fl k iT args h) (E fl f args h)) (cond (Nat.beq f 28) (gg C fl k kd args h) (E fl f args h)))) (cond (Nat.ble f 33) (cond (Nat.beq f 33) (gg C fl k oB args h) (E fl f args h)) (cond (Nat.ble f 37) (cond (Nat.beq f 37) (gg C fl k AF args h) (E fl f args h)) (cond (Nat.beq f 38) ((dS fun a=>dS fun b=>dE (jh C fl k a b h)) args) (E fl f args h)))))) (cond (Nat.ble f 48) (cond (Nat.ble f 43) (cond (Nat.ble f 39) (cond (Nat.beq f 39) ((dS fun a=>dV fun b=>dE (eA C fl k a b h)) args) (E fl f args h)) (cond (Nat.ble f 40) (cond (Nat.beq f 40) ((dI .i64 fun a=>dP fun b=>dE (cG C fl k a b h)) args) (E fl f args h)) (cond (Nat.beq f 43) ((dA 5 (dI .i64 fun a=>dI .i64 fun b=>dS fun c=>dI .i64 fun d=>dS fun g=>dE (ji C fl k a b c d g h))) args) (E fl f args h)))) (cond (Nat.ble f 44) (cond (Nat.beq f 44) ((dI .i64 fun a=>dE (jj C fl k a h)) args) (E fl f args h)) (cond (Nat.ble f 47) (cond (Nat.beq f 47) ((dA 5 (dI .i64 fun a=>dI .i64 fun b=>dS fun c=>dI .i64 fun d=>dS fun g=>dE (gj C fl k a b c d g h))) args) (E fl f args h)) (cond (Nat.beq f 48) (gg C fl k iV args h) (E fl f args h))))) (cond (Nat.ble f 56) (cond (Nat.ble f 49) (cond (Nat.beq f 49) (gg C fl k ke args h) (E fl f args h)) (cond (Nat.ble f 54) (cond (Nat.beq f 54) ((dS fun a=>dI .i64 fun b=>dE (fy C fl k a b h)) args) (E fl f args h)) (cond (Nat.beq f 56) (gg C fl k gD args h) (E fl f args h)))) (cond (Nat.ble f 59) (cond (Nat.beq f 59) (gg C fl k gE args h) (E fl f args h)) (cond (Nat.ble f 64) (cond (Nat.beq f 64) (gg C fl k oE args h) (E fl f args h)) (cond (Nat.beq f 65) (gg C fl k oF args h) (E fl f args h))))))) (cond (Nat.ble f 82) (cond (Nat.ble f 74) (cond (Nat.ble f 68) (cond (Nat.ble f 66) (cond (Nat.beq f 66) (gg C fl k lG args h) (E fl f args h)) (cond (Nat.ble f 67) (cond (Nat.beq f 67) ((dA 3 (dI .i64 fun a=>dI .i64 fun b=>dS fun c=>dA 2 (dI .i64 fun d=>dS fun g=>dE (dF C fl k a b c d g h)))) args) (E fl f args h)) (cond (Nat.beq f 68) ((dA 5 (dI .i64 fun a=>dI .i64 fun b=>dS fun c=>dI .i64 fun d=>dS fun g=>dE (vS C fl k a b c d g h))) args) (E fl f args h)))) (cond (Nat.ble f 69) (cond (Nat.beq f 69) ((dA 3 (dI .i64 fun a=>dI .i64 fun b=>dS fun c=>dA 2 (dI .i64 fun d=>dS fun g=>dI .i64 fun i=>dE (D4 C fl k a b c d g i h)))) args) (E fl f args h)) (cond (Nat.ble f 73) (cond (Nat.beq f 73) ((dA 3 (dI .i64 fun a=>dI .i64 fun b=>dS fun c=>dA 2 (dI .i64 fun d=>dS fun g=>dE (cF C fl k a b c d g h)))) args) (E fl f args h)) (cond (Nat.beq f 74) ((dI .i64 fun a=>dE (nE C fl k a h)) args) (E fl f args h))))) (cond (Nat.ble f 77) (cond (Nat.ble f 75) (cond (Nat.beq f 75) ((dA 3 (dI .i64 fun a=>dI .i64 fun b=>dS fun c=>dE (ff C fl k a b c h))) args) (E fl f args h)) (cond (Nat.ble f 76) (cond (Nat.beq f 76) ((dS fun a=>dI .i64 fun b=>dI .i64 fun c=>dP fun d=>dP fun g=>dP fun i=>dP fun j=>dE (aM C fl k a b c d g i j h)) args) (E fl f args h)) (cond (Nat.beq f 77) ((dN fun a=>dS fun b=>dI .i64 fun c=>dE (cK C fl k a b c h)) args) (E fl f args h)))) (cond (Nat.ble f 79) (cond (Nat.beq f 79) ((dA 3 (dI .i64 fun a=>dI .i64 fun b=>dS fun c=>dE (fN C fl k a b c h))) args) (E fl f args h)) (cond (Nat.ble f 80) (cond (Nat.beq f 80) ((dA 3 (dI .i64 fun a=>dI .i64 fun b=>dS fun c=>dA 2 (dI .i64 fun d=>dS fun g=>dE (nF C fl k a b c d g h)))) args) (E fl f args h)) (cond (Nat.beq f 82) ((dA 3 (dI .i64 fun a=>dI .i64 fun b=>dS fun c=>dA 2 (dI .i64 fun d=>dS fun g=>dE (gm C fl k a b c d g h)))) args) (E fl f args h)))))) (cond (Nat.ble f 91) (cond (Nat.ble f 85) (cond (Nat.ble f 83) (cond (Nat.beq f 83) (gg C fl k lI args h) (E fl f args h)) (cond (Nat.ble f 84) (cond (Nat.beq f 84) (gg C fl k jH args h) (E fl f args h)) (cond (Nat.beq f 85) (gg C fl k u7 args h) (E fl f args h)))) (cond (Nat.ble f 89) (cond (Nat.beq f 89) ((dS fun a=>dI .i64 fun b=>dE (lq C fl k a b h)) args) (E fl f args h)) (cond (Nat.ble f 90) (cond (Nat.beq f 90) (gg C fl k lJ args h) (E fl f args h)) (cond (Nat.beq f 91) (gg C fl k fH args h) (E fl f args h))))) (cond (Nat.ble f 101) (cond (Nat.ble f 94) (cond (Nat.beq f 94) (gg C fl k eS args h) (E fl f args h)) (cond (Nat.ble f 100) (cond (Nat.beq f 100) (gg C fl k iY args h) (E fl f args h)) (cond (Nat.beq f 101) (gg C fl k lK args h) (E fl f args h)))) (cond (Nat.ble f 102) (cond (Nat.beq f 102) ((dA 3 (dI .i64 fun a=>dI .i64 fun b=>dS fun c=>dS fun d=>dE (c7 C fl k a b c d h))) args) (E fl f args h)) (cond (Nat.ble f 103) (cond (Nat.beq f 103) ((dN fun a=>dS fun b=>dI .i64 fun c=>dE (gZ C fl k a b c h)) args) (E fl f args h)) (cond (Nat.beq f 104) ((dN fun a=>dI .i64 fun b=>dE (eO C fl k a b h)) args) (E fl f args h)))))))) (cond (Nat.ble f 143) (cond (Nat.ble f 119) (cond (Nat.ble f 113) (cond (Nat.ble f 110) (cond (Nat.ble f 105) (cond (Nat.beq f 105) ((dA 3 (dI .i64 fun a=>dI .i64 fun b=>dS fun c=>dE (yT C fl k a b c h))) args) (E fl f args h)) (cond (Nat.ble f 109) (cond (Nat.beq f 109) ((dN fun a=>dI .i64 fun b=>dE (kL C fl k a b h)) args) (E fl f args h)) (cond (Nat.beq f 110) ((dN fun a=>dS fun b=>dE (jk C fl k a b h)) args) (E fl f args h)))) (cond (Nat.ble f 111) (cond (Nat.beq f 111) (gg C fl k va args h) (E fl f args h)) (cond (Nat.ble f 112) (cond (Nat.beq f 112) ((dA 3 (dI .i64 fun a=>dI .i64 fun b=>dS fun c=>dE (kM C fl k a b c h))) args) (E fl f args h)) (cond (Nat.beq f 113) ((dI .i64 fun a=>dI .i64 fun b=>dE (hJ C fl k a b h)) args) (E fl f args h))))) (cond (Nat.ble f 116) (cond (Nat.ble f 114) (cond (Nat.beq f 114) ((dA 3 (dI .i64 fun a=>dI .i64 fun b=>dS fun c=>dI .i64 fun d=>dE (cC C fl k a b c d h))) args) (E fl f args h)) (cond (Nat.ble f 115) (cond (Nat.beq f 115) ((dS fun a=>dV fun b=>dE (dB C fl k a b h)) args) (E fl f args h)) (cond (Nat.beq f 116) ((dS fun a=>dP fun b=>dE (cH C fl k a b h)) args) (E fl f args h)))) (cond (Nat.ble f 117) (cond (Nat.beq f 117) ((dN fun a=>dI .i64 fun b=>dI .i64 fun c=>dE (jz C fl k a b c h)) args) (E fl f args h)) (cond (Nat.ble f 118) (cond (Nat.beq f 118) ((dS fun a=>dE (dL C fl k a h)) args) (E fl f args h)) (cond (Nat.beq f 119) ((dN fun a=>dI .i64 fun b=>dI .i64 fun c=>dE (jA C fl k a b c h)) args) (E fl f args h)))))) (cond (Nat.ble f 134) (cond (Nat.ble f 124) (cond (Nat.ble f 120) (cond (Nat.beq f 120) ((dN fun a=>dI .i64 fun b=>dI .i64 fun c=>dE (dM C fl k a b c h)) args) (E fl f args h)) (cond (Nat.ble f 123) (cond (Nat.beq f 123) ((dS fun a=>dS fun b=>dV fun c=>dE (fR C fl k a b c h)) args) (E fl f args h)) (cond (Nat.beq f 124) ((dS fun a=>dS fun b=>dE (hS C fl k a b h)) args) (E fl f args h)))) (cond (Nat.ble f 127) (cond (Nat.beq f 127) (gg C fl k lO args h) (E fl f args h)) (cond (Nat.ble f 128) (cond (Nat.beq f 128) (gg C fl k fm args h) (E fl f args h)) (cond (Nat.beq f 134) (gg C fl k fp args h) (E fl f args h))))) (cond (Nat.ble f 140) (cond (Nat.ble f 138) (cond (Nat.beq f 138) (gg C fl k gH args h) (E fl f args h)) (cond (Nat.ble f 139) (cond (Nat.beq f 139) ((dN fun a=>dI .i64 fun b=>dE (hX C fl k a b h)) args) (E fl f args h)) (cond (Nat.beq f 140) ((dN fun a=>dI .i64 fun b=>dS fun c=>dE (jl C fl k a b c h)) args) (E fl f args h)))) (cond (Nat.ble f 141) (cond (Nat.beq f 141) ((dN fun a=>dA 2 (dI .i64 fun b=>dS fun c=>dE (lx C fl k a b c h))) args) (E fl f args h)) (cond (Nat.ble f 142) (cond (Nat.beq f 142) ((dS fun a=>dE (ly C fl k a h)) args) (E fl f args h)) (cond (Nat.beq f 143) ((dN fun a=>dS fun b=>dI .i64 fun c=>dS fun d=>dE (fS C fl k a b c d h)) args) (E fl f args h))))))) (cond (Nat.ble f 162) (cond (Nat.ble f 149) (cond (Nat.ble f 146) (cond (Nat.ble f 144) (cond (Nat.beq f 144) ((dN fun a=>dI .i64 fun b=>dE (eY C fl k a b h)) args) (E fl f args h)) (cond (Nat.ble f 145) (cond (Nat.beq f 145) ((dN fun a=>dS fun b=>dI .i64 fun c=>dS fun d=>dE (qj C fl k a b c d h)) args) (E fl f args h)) (cond (Nat.beq f 146) ((dI .i64 fun a=>dE (j0 C fl k a h)) args) (E fl f args h)))) (cond (Nat.ble f 147) (cond (Nat.beq f 147) ((dA 3 (dI .i64 fun a=>dI .i64 fun b=>dS fun c=>dI .i64 fun d=>dI .i64 fun g=>dE (lz C fl k a b c d g h))) args) (E fl f args h)) (cond (Nat.ble f 148) (cond (Nat.beq f 148) ((dA 3 (dI .i64 fun a=>dI .i64 fun b=>dS fun c=>dI .i64 fun d=>dI .i64 fun g=>dE (eZ C fl k a b c d g h))) args) (E fl f args h)) (cond (Nat.beq f 149) ((dN fun a=>dI .i64 fun b=>dI .i64 fun c=>dE (hZ C fl k a b c h)) args) (E fl f args h))))) (cond (Nat.ble f 159) (cond (Nat.ble f 151) (cond (Nat.beq f 151) (gg C fl k xW args h) (E fl f args h)) (cond (Nat.ble f 158) (cond (Nat.beq f 158) (gg C fl k eU args h) (E fl f args h)) (cond (Nat.beq f 159) (gg C fl k eH args h) (E fl f args h)))) (cond (Nat.ble f 160) (cond (Nat.beq f 160) (gg C fl k tE args h) (E fl f args h)) (cond (Nat.ble f 161) (cond (Nat.beq f 161) (gg C fl k ft args h) (E fl f args h)) (cond (Nat.beq f 162) (gg C fl k eh args h) (E fl f args h)))))) (cond (Nat.ble f 178) (cond (Nat.ble f 175) (cond (Nat.ble f 170) (cond (Nat.beq f 170) ((dI .i64 fun a=>dI .i64 fun b=>dI .i64 fun c=>dE (gn C fl k a b c h)) args) (E fl f args h)) (cond (Nat.ble f 171) (cond (Nat.beq f 171) ((dS fun a=>dI .i64 fun b=>dE (j5 C fl k a b h)) args) (E fl f args h)) (cond (Nat.beq f 175) (gg C fl k gJ args h) (E fl f args h)))) (cond (Nat.ble f 176) (cond (Nat.beq f 176) (gg C fl k eV args h) (E fl f args h)) (cond (Nat.ble f 177) (cond (Nat.beq f 177) (gg C fl k mQ args h) (E fl f args h)) (cond (Nat.beq f 178) (gg C fl k mR args h) (E fl f args h))))) (cond (Nat.ble f 185) (cond (Nat.ble f 179) (cond (Nat.beq f 179) (gg C fl k fu args h) (E fl f args h)) (cond (Nat.ble f 180) (cond (Nat.beq f 180) (gg C fl k mS args h) (E fl f args h)) (cond (Nat.beq f 185) (gg C fl k fv args h) (E fl f args h)))) (cond (Nat.ble f 188) (cond (Nat.ble f 186) (cond (Nat.beq f 186) (gg C fl k lT args h) (E fl f args h)) (cond (Nat.beq f 188) (gg C fl k dh args h) (E fl f args h))) (cond (Nat.ble f 194) (cond (Nat.beq f 194) (gg C fl k Br args h) (E fl f args h)) (cond (Nat.beq f 198) (gg C fl k ky args h) (E fl f args h))))))))
set_option maxHeartbeats 8000000 in
theorem ahG(C E:Callee)(fl k f:Nat)(args:List Value)(h:AH)(r:Value×AH)(e:aaR C E fl k f args h=some r):ajg T C E fl k f args h r:=aq e (fun e=>aq e (fun e=>aq e (fun e=>aq e (fun e=>aq e (fun e=>aq e (fun e=>cZ Tm e) (fun e=>aq e (fun e=>cy uO (O9 5 (iM fun a=>iM fun b=>pP fun c=>iM fun d=>pP fun g=>tJ fun e=>(pS C fl k a b c d g h).trans e)) e) (fun e=>cy uP (O9 5 (iM fun a=>iM fun b=>pP fun c=>iM fun d=>pP fun g=>tJ fun e=>(pT C fl k a b c d g h).trans e)) e))) (fun e=>aq e (fun e=>cy zV (pP fun a=>pP fun b=>tJ fun e=>(vW C fl k a b h).trans e) e) (fun e=>aq e (fun e=>cZ Fj e) (fun e=>cZ Cm e)))) (fun e=>aq e (fun e=>aq e (fun e=>cy uQ (pP fun a=>iM fun b=>tJ fun e=>(pU C fl k a b h).trans e) e) (fun e=>aq e (fun e=>cZ Fk e) (fun e=>cZ Ku e))) (fun e=>aq e (fun e=>cZ RY e) (fun e=>aq e (fun e=>cZ acO e) (fun e=>cy zW (pP fun a=>pP fun b=>tJ fun e=>(wa C fl k a b h).trans e) e))))) (fun e=>aq e (fun e=>aq e (fun e=>aq e (fun e=>cy pZ (pP fun a=>dV_ fun b=>tJ fun e=>(nL C fl k a b h).trans e) e) (fun e=>aq e (fun e=>cy qb (iM fun a=>dP_ fun b=>tJ fun e=>(nM C fl k a b h).trans e) e) (fun e=>cy zX (O9 5 (iM fun a=>iM fun b=>pP fun c=>iM fun d=>pP fun g=>tJ fun e=>(wb C fl k a b c d g h).trans e)) e))) (fun e=>aq e (fun e=>cy zY (iM fun a=>tJ fun e=>(we C fl k a h).trans e) e) (fun e=>aq e (fun e=>cy Kv (O9 5 (iM fun a=>iM fun b=>pP fun c=>iM fun d=>pP fun g=>tJ fun e=>(C2 C fl k a b c d g h).trans e)) e) (fun e=>cZ Fl e)))) (fun e=>aq e (fun e=>aq e (fun e=>cZ Kw e) (fun e=>aq e (fun e=>cy x9 (pP fun a=>iM fun b=>tJ fun e=>(uz C fl k a b h).trans e) e) (fun e=>cZ Cn e))) (fun e=>aq e (fun e=>cZ Co e) (fun e=>aq e (fun e=>cZ RZ e) (fun e=>cZ R0 e)))))) (fun e=>aq e (fun e=>aq e (fun e=>aq e (fun e=>aq e (fun e=>cZ LV e) (fun e=>aq e (fun e=>cy B3 (O9 3 (iM fun a=>iM fun b=>pP fun c=>O9 2 (iM fun d=>pP fun g=>tJ fun e=>(xH C fl k a b c d g h).trans e))) e) (fun e=>cy R1 (O9 5 (iM fun a=>iM fun b=>pP fun c=>iM fun d=>pP fun g=>tJ fun e=>(I8 C fl k a b c d g h).trans e)) e))) (fun e=>aq e (fun e=>cy Up (O9 3 (iM fun a=>iM fun b=>pP fun c=>O9 2 (iM fun d=>pP fun g=>iM fun i=>tJ fun e=>(MH C fl k a b c d g i h).trans e))) e) (fun e=>aq e (fun e=>cy wU (O9 3 (iM fun a=>iM fun b=>pP fun c=>O9 2 (iM fun d=>pP fun g=>tJ fun e=>(tP C fl k a b c d g h).trans e))) e) (fun e=>cy FF (iM fun a=>tJ fun e=>(BF C fl k a h).trans e) e)))) (fun e=>aq e (fun e=>aq e (fun e=>cy ND (O9 3 (iM fun a=>iM fun b=>pP fun c=>tJ fun e=>(Fw C fl k a b c h).trans e)) e) (fun e=>aq e (fun e=>cy nq (pP fun a=>iM fun b=>iM fun c=>dP_ fun d=>dP_ fun g=>dP_ fun i=>dP_ fun j=>tJ fun e=>(kO C fl k a b c d g i j h).trans e) e) (fun e=>cy uR (dN_ fun a=>pP fun b=>iM fun c=>tJ fun e=>(pV C fl k a b c h).trans e) e))) (fun e=>aq e (fun e=>cy FG (O9 3 (iM fun a=>iM fun b=>pP fun c=>tJ fun e=>(BH C fl k a b c h).trans e)) e) (fun e=>aq e (fun e=>cy FH (O9 3 (iM fun a=>iM fun b=>pP fun c=>O9 2 (iM fun d=>pP fun g=>tJ fun e=>(BI C fl k a b c d g h).trans e))) e) (fun e=>cy Kx (O9 3 (iM fun a=>iM fun b=>pP fun c=>O9 2 (iM fun d=>pP fun g=>tJ fun e=>(C7 C fl k a b c d g h).trans e))) e))))) (fun e=>aq e (fun e=>aq e (fun e=>aq e (fun e=>cZ LW e) (fun e=>aq e (fun e=>cZ HW e) (fun e=>cZ Xi e))) (fun e=>aq e (fun e=>cy Dl (pP fun a=>iM fun b=>tJ fun e=>(zd C fl k a b h).trans e) e) (fun e=>aq e (fun e=>cZ LX e) (fun e=>cZ Bt e)))) (fun e=>aq e (fun e=>aq e (fun e=>cZ yx e) (fun e=>aq e (fun e=>cZ Fo e) (fun e=>cZ LY e))) (fun e=>aq e (fun e=>cy FI (O9 3 (iM fun a=>iM fun b=>pP fun c=>pP fun d=>tJ fun e=>(BM C fl k a b c d h).trans e)) e) (fun e=>aq e (fun e=>cy Dm (dN_ fun a=>pP fun b=>iM fun c=>tJ fun e=>(zj C fl k a b c h).trans e) e) (fun e=>cy Dn (dN_ fun a=>iM fun b=>tJ fun e=>(zk C fl k a b h).trans e) e))))))) (fun e=>aq e (fun e=>aq e (fun e=>aq e (fun e=>aq e (fun e=>aq e (fun e=>cy R2 (O9 3 (iM fun a=>iM fun b=>pP fun c=>tJ fun e=>(Jy C fl k a b c h).trans e)) e) (fun e=>aq e (fun e=>cy FJ (dN_ fun a=>iM fun b=>tJ fun e=>(BN C fl k a b h).trans e) e) (fun e=>cy zZ (dN_ fun a=>pP fun b=>tJ fun e=>(wv C fl k a b h).trans e) e))) (fun e=>aq e (fun e=>cZ Xj e) (fun e=>aq e (fun e=>cy FK (O9 3 (iM fun a=>iM fun b=>pP fun c=>tJ fun e=>(BO C fl k a b c h).trans e)) e) (fun e=>cy FL (iM fun a=>iM fun b=>tJ fun e=>(BP C fl k a b h).trans e) e)))) (fun e=>aq e (fun e=>aq e (fun e=>cy ya (O9 3 (iM fun a=>iM fun b=>pP fun c=>iM fun d=>tJ fun e=>(uE C fl k a b c d h).trans e)) e) (fun e=>aq e (fun e=>cy pF (pP fun a=>dV_ fun b=>tJ fun e=>(mB C fl k a b h).trans e) e) (fun e=>cy qc (pP fun a=>dP_ fun b=>tJ fun e=>(nQ C fl k a b h).trans e) e))) (fun e=>aq e (fun e=>cy Dp (dN_ fun a=>iM fun b=>iM fun c=>tJ fun e=>(zq C fl k a b c h).trans e) e) (fun e=>aq e (fun e=>cy pG (pP fun a=>tJ fun e=>(lM C fl k a h).trans e) e) (fun e=>cy Dq (dN_ fun a=>iM fun b=>iM fun c=>tJ fun e=>(zr C fl k a b c h).trans e) e))))) (fun e=>aq e (fun e=>aq e (fun e=>aq e (fun e=>cy Dr (dN_ fun a=>iM fun b=>iM fun c=>tJ fun e=>(zt C fl k a b c h).trans e) e) (fun e=>aq e (fun e=>cy wV (pP fun a=>pP fun b=>dV_ fun c=>tJ fun e=>(tR C fl k a b c h).trans e) e) (fun e=>cy Ds (pP fun a=>pP fun b=>tJ fun e=>(zx C fl k a b h).trans e) e))) (fun e=>aq e (fun e=>cZ LZ e) (fun e=>aq e (fun e=>cZ z6 e) (fun e=>cZ z7 e)))) (fun e=>aq e (fun e=>aq e (fun e=>cZ Cp e) (fun e=>aq e (fun e=>cy Dt (dN_ fun a=>iM fun b=>tJ fun e=>(zC C fl k a b h).trans e) e) (fun e=>cy z8 (dN_ fun a=>iM fun b=>pP fun c=>tJ fun e=>(wD C fl k a b c h).trans e) e))) (fun e=>aq e (fun e=>cy Du (dN_ fun a=>O9 2 (iM fun b=>pP fun c=>tJ fun e=>(zF C fl k a b c h).trans e)) e) (fun e=>aq e (fun e=>cy Dv (pP fun a=>tJ fun e=>(zH C fl k a h).trans e) e) (fun e=>cy wW (dN_ fun a=>pP fun b=>iM fun c=>pP fun d=>tJ fun e=>(tS C fl k a b c d h).trans e) e)))))) (fun e=>aq e (fun e=>aq e (fun e=>aq e (fun e=>aq e (fun e=>cy FM (dN_ fun a=>iM fun b=>tJ fun e=>(BW C fl k a b h).trans e) e) (fun e=>aq e (fun e=>cy Kz (dN_ fun a=>pP fun b=>iM fun c=>pP fun d=>tJ fun e=>(Dg C fl k a b c d h).trans e) e) (fun e=>cy B4 (iM fun a=>tJ fun e=>(xU C fl k a h).trans e) e))) (fun e=>aq e (fun e=>cy Dw (O9 3 (iM fun a=>iM fun b=>pP fun c=>iM fun d=>iM fun g=>tJ fun e=>(zM C fl k a b c d g h).trans e)) e) (fun e=>aq e (fun e=>cy Aa (O9 3 (iM fun a=>iM fun b=>pP fun c=>iM fun d=>iM fun g=>tJ fun e=>(wL C fl k a b c d g h).trans e)) e) (fun e=>cy Dx (dN_ fun a=>iM fun b=>iM fun c=>tJ fun e=>(zN C fl k a b c h).trans e) e)))) (fun e=>aq e (fun e=>aq e (fun e=>cZ aaN e) (fun e=>aq e (fun e=>cZ yy e) (fun e=>cZ xr e))) (fun e=>aq e (fun e=>cZ Tz e) (fun e=>aq e (fun e=>cZ Ab e) (fun e=>cZ wX e))))) (fun e=>aq e (fun e=>aq e (fun e=>aq e (fun e=>cy Ac (iM fun a=>iM fun b=>iM fun c=>tJ fun e=>(wP C fl k a b c h).trans e) e) (fun e=>aq e (fun e=>cy B5 (pP fun a=>iM fun b=>tJ fun e=>(xY C fl k a b h).trans e) e) (fun e=>cZ Cq e))) (fun e=>aq e (fun e=>cZ yz e) (fun e=>aq e (fun e=>cZ O0 e) (fun e=>cZ O1 e)))) (fun e=>aq e (fun e=>aq e (fun e=>cZ Ad e) (fun e=>aq e (fun e=>cZ O2 e) (fun e=>cZ Ae e))) (fun e=>aq e (fun e=>aq e (fun e=>cZ L2 e) (fun e=>cZ tU e)) (fun e=>aq e (fun e=>cZ acR e) (fun e=>cZ KA e)))))))
end Go.Abs.P
end
section
set_option maxRecDepth 100000
namespace Go.Abs.P
open Go.Abs Go.Proofs
def okB(o:Option (Value×AH)):Bool:=match o with
 |some (.bool b,_)=>b
 |_=>false
theorem ar3{o:Option (Value×AH)}(h:okB o=true):∃h1,o=some (.bool true,h1):=by
 unfold okB at h
 split at h
 ·subst h;exact⟨_,rfl⟩
 ·cases h
theorem acS:okB (ajh aaR sqE 60 0 fn.eE [] ⟨0,fun _=>none⟩)=true:=by kernel_rfl
theorem mixed:Tryz.prog.follows .mixedOrders=true:=by kernel_rfl
noncomputable def M0:Callee:=CC (shT Tryz.prog T) sqE
theorem amx:fx Tryz.prog M0:=Yf mixed Uk (ajf auH)
theorem ar4:∀fl f args h r,sqE fl f args h=some r→T f=none:=by
 intro fl f args h r e
 obtain⟨rfl,_⟩:=Pf (v:=r.1) (h1:=r.2) e
 kernel_rfl
def acT:Callee:=Qi fn.eE (.bool true)
theorem Xl:fx Tryz.prog acT:=by
 obtain⟨h1,e⟩:=ar3 acS
 exact UX amx (Yg auH ar4 (fun C=>ahG C sqE) 60 _ _ _ _ _ e)
def Tl:FuncId→Option ay:=fun f=>if f=fn.eE∨f=fn.bG then none else T f
theorem atf:∀f af,Tl f=some af→okF Tryz.prog f af=true:=by
 intro f af h
 unfold Tl at h
 split at h
 ·cases h
 ·exact auH f af h
noncomputable def M:Callee:=CC (shT Tryz.prog Tl) (orE (orE sqE swE) acT)
theorem ar5:fx Tryz.prog M:=Yf mixed (TZ (TZ Uk agS) Xl) (ajf atf)
theorem aX{f:FuncId}{af:ay}(h1:¬(f=fn.eE∨f=fn.bG))(h2:T f=some af){fl k:Nat}{args:List Value}{h:AH}{r:Value×AH}(e:bl M fl k af args h=some r):M fl f args h=some r:=
 adR atf (by unfold Tl;rw[if_neg h1];exact h2) e
theorem Bu(fl:Nat)(h:AH):M fl fn.eE [] h=some (.bool true,h):=by
 refine acb ?_ ?_
 ·unfold shT Tl;rw[if_pos (.inl rfl)];rfl
 ·unfold orE
  have:sqE fl fn.eE [] h=none:=rfl
  rw[this]
  have:swE fl fn.eE [] h=none:=rfl
  rw[this]
  simp[acT,Qi]
theorem auI{fl:Nat}{args:List Value}{h:AH}{r:Value×AH}(e:swE fl fn.bG args h=some r):M fl fn.bG args h=some r:=by
 refine acb ?_ ?_
 ·unfold shT Tl;rw[if_pos (.inr rfl)];rfl
 ·unfold orE
  have:sqE fl fn.bG args h=none:=rfl
  rw[this,e]
end Go.Abs.P
end
section
namespace Go.Abs.P
open Go.Abs
def mh:Nat:=9223372036854775807
theorem fE{i:Nat}(h:i<mh):bL ((i:Int)+1)=((i+1:Nat):Int):=by
 unfold mh at h
 rw[jf (by omega) (by omega)];omega
theorem TA{R:Type}(C:Callee)(fl k:Nat)(kn:ar R)(kr:au R){h:AH}{s t:Sl}{xs ys:List Int}(hs:SI h s xs)(ht:SI h t ys)(hl:xs.length=ys.length)(hb:xs.length≤mh):
 ∀(d i m:Nat),i+d=xs.length→d<m→yW C fl k kn kr m s t (i:Int) h=if xs.drop i=ys.drop i then kn h else kr false h:=by
 intro d
 induction d with
 |zero=>
  intro i m hi hm
  obtain⟨m,rfl⟩:∃j,m=j+1:=⟨m-1,by omega⟩
  show qp C fl k _ _ kr s t (i:Int) h=_
  unfold qp
  rw[if_neg (by rw[hs.len];simp;omega),List.drop_of_length_le (by omega),List.drop_of_length_le (by omega),if_pos rfl]
 |succ d ih=>
  intro i m hi hm
  obtain⟨m,rfl⟩:∃j,m=j+1:=⟨m-1,by omega⟩
  show qp C fl k _ _ kr s t (i:Int) h=_
  unfold qp
  rw[if_pos (by rw[hs.len];simp;omega),hs.read (by omega) (by simp;omega),ht.read (by omega) (by simp;omega)]
  simp only[Int.toNat_natCast]
  rw[List.drop_eq_getElem_cons (show i<xs.length by omega),List.drop_eq_getElem_cons (show i<ys.length by omega),fE (by omega)]
  by_cases e:xs[i]=ys[i]
  ·rw[if_neg (by simp[e]),ih (i+1) m (by omega) (by omega)]
   simp only[List.cons.injEq,e,true_and]
  ·rw[if_pos (by simp[e])]
   simp only[List.cons.injEq,e,false_and,if_false]
theorem FN{fl:Nat}{h:AH}{s t:Sl}{xs ys:List Int}(hs:SI h s xs)(ht:SI h t ys)(hb:xs.length≤mh):M fl fn.gi [.slice s.a s.l s.c,.slice t.a t.l t.c] h=some (.bool (decide (xs=ys)),h):=by
 refine aX (k:=xs.length+1) (by decide) zV ?_
 rw[vW]
 unfold gi akb Vp
 by_cases hl:xs.length=ys.length
 ·rw[if_neg (by rw[hs.len,ht.len];simp[hl])]
  have:=TA M fl (xs.length+1) (D6 M fl (xs.length+1) (fun(y4:Bool) q=>some (Value.bool y4,q))) (fun(y4:Bool) q=>some (Value.bool y4,q)) hs ht hl hb xs.length 0 (xs.length+1) (by omega) (by omega)
  refine this.trans ?_
  by_cases e:xs=ys
  ·simp[e,D6]
  ·simp[e]
 ·have e:xs≠ys:=fun e=>hl (by rw[e])
  rw[if_pos (by rw[hs.len,ht.len];simp;omega)]
  simp[e]
theorem acU{R:Type}(C:Callee)(fl k:Nat)(kn:ar R)(kr:ae R){h:AH}{s:Sl}{xs:List Int}(x:Int)(hs:SI h s xs)(hb:xs.length≤mh):
 ∀(d i m:Nat),i+d=xs.length→d<m→zc C fl k kn kr m s x (xs.length:Int) (i:Int) h=match (xs.drop i).findIdx? (·==x) with|some j=>kr ((i+j:Nat):Int) h|none=>kn h:=by
 intro d
 induction d with
 |zero=>
  intro i m hi hm
  obtain⟨m,rfl⟩:∃j,m=j+1:=⟨m-1,by omega⟩
  show qK C fl k _ _ kr s x (xs.length:Int) (i:Int) h=_
  unfold qK
  rw[if_neg (by simp;omega),List.drop_of_length_le (by omega)]
  rfl
 |succ d ih=>
  intro i m hi hm
  obtain⟨m,rfl⟩:∃j,m=j+1:=⟨m-1,by omega⟩
  show qK C fl k _ _ kr s x (xs.length:Int) (i:Int) h=_
  unfold qK
  rw[if_pos (by simp;omega),hs.read (by omega) (by simp;omega)]
  simp only[Int.toNat_natCast]
  rw[List.drop_eq_getElem_cons (show i<xs.length by omega),fE (by omega),List.findIdx?_cons]
  by_cases e:x=xs[i]
  ·rw[if_pos (by simp[e])]
   simp[e]
  ·rw[if_neg (by simp[e]),ih (i+1) m (by omega) (by omega)]
   have e2:(xs[i]==x)=false:=by simp;exact fun h=>e h.symm
   rw[e2]
   simp only[Bool.false_eq_true,if_false]
   cases (xs.drop (i+1)).findIdx? (·==x) with
   |none=>rfl
   |some j=>simp only[Option.map_some];congr 1;omega
theorem acV{fl:Nat}{h:AH}{s:Sl}{xs:List Int}(x:Int)(hs:SI h s xs)(hb:xs.length≤mh):M fl fn.lq [.slice s.a s.l s.c,.int .i64 x] h=some (.int .i64 (match xs.findIdx? (·==x) with|some j=>(j:Int)|none=> -1),h):=by
 refine aX (k:=xs.length+1) (by decide) Dl ?_
 rw[zd]
 unfold lq akS VR VQ
 rw[hs.len]
 have:=acU M fl (xs.length+1) (Ln M fl (xs.length+1) (fun(y4:Int) q=>some (Value.int .i64 y4,q))) (fun(y4:Int) q=>some (Value.int .i64 y4,q)) x hs hb xs.length 0 (xs.length+1) (by omega) (by omega)
 refine this.trans ?_
 simp only[List.drop_zero]
 cases xs.findIdx? (·==x) with
 |none=>rfl
 |some j=>simp
theorem FO{fl:Nat}{h:AH}{s:Sl}{xs:List Int}(x:Int)(hs:SI h s xs)(hb:xs.length≤mh):M fl fn.fy [.slice s.a s.l s.c,.int .i64 x] h=some (.bool (decide (x∈xs)),h):=by
 refine aX (k:=1) (by decide) x9 ?_
 rw[uz]
 unfold fy aks aC
 rw[acV x hs hb]
 simp only[asInt,if_true]
 cases e:xs.findIdx? (·==x) with
 |none=>
  rw[List.findIdx?_eq_none_iff] at e
  have:x∉xs:=fun hx=>by have:=e x hx;simp at this
  simp[this]
 |some j=>
  have:x∈xs:=by
   obtain⟨hj,h1,_⟩:=List.findIdx?_eq_some_iff_getElem.1 e
   have:=List.getElem_mem hj
   simp at h1;rw[h1] at this;exact this
  simp[this]
end Go.Abs.P
end
section
namespace Go.Abs.P
open Go.Abs
def HX(prev:Option Int)(n:Int):List Int→Bool
 |[]=>true
 |x::xs=>decide (0≤x)&&decide (x<n)&&(match prev with|none=>true|some p=>decide (p<x))&&HX (some x) n xs
end Go.Abs.P
end
section
namespace Go.Abs.P
open Go.Abs
def nr(xs:List Int)(i:Nat):Nat→List Int
 |0=>[]
 |d+1=>(if (i:Int)∈xs then [] else [(i:Int)])++nr xs (i+1) d
end Go.Abs.P
end
section
namespace Go.Abs.P
open Go.Abs
def okW(prev:Option Int)(n:Int):List Int→Bool
 |[]=>true
 |x::xs=>decide (1≤x)&&decide (x≤n)&&(match prev with|none=>true|some p=>decide (p<x))&&okW (some x) n xs
theorem acW{R:Type}(C:Callee)(fl k:Nat)(kn:aO R)(kr:aO R){h:AH}{s:Sl}{xs:List Int}(n:Int)(hs:SI h s xs)(hb:xs.length≤mh):
 ∀(d i m:Nat),i+d=xs.length→d<m→qu C fl k kn kr m s n s (xs.length:Int) (i:Int) h=if okW (if i=0 then none else xs[i-1]?) n (xs.drop i)=true then kn s n h else kr ⟨none,0,0⟩ 6 h:=by
 intro d
 induction d with
 |zero=>
  intro i m hi hm
  obtain⟨m,rfl⟩:∃j,m=j+1:=⟨m-1,by omega⟩
  show qt C fl k _ _ kr s n s (xs.length:Int) (i:Int) h=_
  unfold qt vZ
  rw[if_neg (by simp;omega),List.drop_of_length_le (by omega)]
  simp[okW]
 |succ d ih=>
  intro i m hi hm
  obtain⟨m,rfl⟩:∃j,m=j+1:=⟨m-1,by omega⟩
  show qt C fl k _ _ kr s n s (xs.length:Int) (i:Int) h=_
  unfold qt vZ
  have hlt:i<xs.length:=by omega
  have next:xB C fl k (qu C fl k kn kr m) kn kr s n s (xs.length:Int) (i:Int) h=if okW (some xs[i]) n (xs.drop (i+1))=true then kn s n h else kr ⟨none,0,0⟩ 6 h:=by
   unfold xB
   rw[fE (by omega),ih (i+1) m (by omega) (by omega)]
   simp[List.getElem?_eq_getElem hlt]
  rw[if_pos (by simp;omega)]
  rw[hs.read (by omega) (by simp;omega)]
  simp only[Int.toNat_natCast]
  rw[List.drop_eq_getElem_cons hlt]
  by_cases h1:xs[i]<1
  ·rw[if_neg (by simp[h1])]
   have a:decide ((1:Int)≤xs[i])=false:=decide_eq_false (by omega)
   simp only[okW,a,Bool.false_and,Bool.false_eq_true,if_false]
  ·rw[if_pos (by simp;omega)]
   have a:decide ((1:Int)≤xs[i])=true:=decide_eq_true (by omega)
   by_cases h2:xs[i]>n
   ·rw[if_neg (by simp;omega)]
    have b:decide (xs[i]≤n)=false:=decide_eq_false (by omega)
    simp only[okW,a,b,Bool.and_false,Bool.false_and,Bool.false_eq_true,if_false]
   ·rw[if_pos (by simp;omega)]
    have b:decide (xs[i]≤n)=true:=decide_eq_true (by omega)
    by_cases h3:i=0
    ·subst h3
     rw[if_neg (by simp),next]
     simp only[okW,a,b,Bool.true_and,Bool.and_true,if_true]
    ·rw[if_pos (by simp;omega),show bL ((i:Int)-1)=((i-1:Nat):Int) by rw[jf (by omega) (by unfold mh at hb;omega)];omega,hs.read (by omega) (by simp;omega),next]
     simp only[Int.toNat_natCast]
     rw[if_neg h3,List.getElem?_eq_getElem (show i-1<xs.length by omega)]
     by_cases h4:xs[i]≤xs[i-1]
     ·rw[if_pos (by simp[h4])]
      have c:decide (xs[i-1]<xs[i])=false:=decide_eq_false (by omega)
      simp only[okW,a,b,c,Bool.and_false,Bool.false_and,Bool.false_eq_true,if_false]
     ·rw[if_neg (by simp[h4])]
      have c:decide (xs[i-1]<xs[i])=true:=decide_eq_true (by omega)
      simp only[okW,a,b,c,Bool.true_and]
def gx(xs:List Int)(n:Nat):Nat→List Int
 |0=>[]
 |x+1=>(if ((x+1:Nat):Int)∈xs then [] else [((n-x:Nat):Int)])++gx xs n x
theorem ahH{R:Type}{fl k n0:Nat}(kn:ak R){h0:AH}{s:Sl}{xs:List Int}(n:Nat)(hs:SI h0 s xs)(hb:xs.length<mh)(hn0:h0.next=n0)(bN:fl≤n0)(hn:n≤64):
 ∀(x m:Nat) (out:Sl) (ys:List Int) (h:AH),x≤n→x<m→ys.length+x≤n→OI n0 h out ys→ai h0 h→
 ∃TF h',fP M fl k kn m s (n:Int) out (x:Int) h=kn TF h'∧OI n0 h' TF (ys++gx xs n x)∧ai h0 h':=by
 intro x
 induction x with
 |zero=>
  intro m out ys h hx hm hy ho hq
  obtain⟨m,rfl⟩:∃j,m=j+1:=⟨m-1,by omega⟩
  refine⟨out,h,?_,by simpa [gx] using ho,hq⟩
  show iz M fl k _ _ s (n:Int) out ((0:Nat):Int) h=_
  unfold iz kN
  rw[if_neg (by simp)]
 |succ x ih=>
  intro m out ys h hx hm hy ho hq
  obtain⟨m,rfl⟩:∃j,m=j+1:=⟨m-1,by omega⟩
  have pred:bL (((x+1:Nat):Int)-1)=(x:Int):=by rw[jf (by omega) (by omega)];omega
  have val:bL (bL ((n:Int)+1)-((x+1:Nat):Int))=((n-x:Nat):Int):=by
   rw[fE (by unfold mh;omega),jf (by omega) (by omega)];omega
  have step:fP M fl k kn (m+1) s (n:Int) out ((x+1:Nat):Int) h=iz M fl k (fP M fl k kn m) kn s (n:Int) out ((x+1:Nat):Int) h:=rfl
  rw[step]
  unfold iz kN
  rw[if_pos (by simp;omega)]
  unfold aC
  rw[FO _ (hs.quiet hq) (by omega)]
  simp only[asBool]
  by_cases e:((x+1:Nat):Int)∈xs
  ·rw[decide_eq_true e,if_neg (by decide)]
   unfold jW
   rw[pred]
   obtain⟨TF,h',e1,e2,e3⟩:=ih m out ys h (by omega) (by omega) (by omega) ho hq
   exact⟨TF,h',e1,by simpa only[gx,if_pos e,List.nil_append] using e2,e3⟩
  ·rw[decide_eq_false e,if_pos (by decide),val]
   obtain⟨o2,h2,e1,e2,e3⟩:=ho.push hq hn0 bN (by unfold kA;omega) ((n-x:Nat):Int) (fun s6 h7=>jW M fl k (fP M fl k kn m) kn s (n:Int) s6 ((x+1:Nat):Int) h7)
   rw[e1]
   unfold jW
   rw[pred]
   obtain⟨TF,h',f1,f2,f3⟩:=ih m o2 (ys++[((n-x:Nat):Int)]) h2 (by omega) (by omega) (by simp;omega) e2 e3
   exact⟨TF,h',f1,by simpa only[gx,if_neg e,List.append_assoc] using f2,f3⟩
def uS(xs:List Int)(n:Int):Option (List Int):=if n<1∨n>64 then none else if okW none n xs=true then some (gx xs n.toNat n.toNat) else none
theorem Xm{fl:Nat}{h:AH}{s:Sl}{xs:List Int}(n:Int)(hs:SI h s xs)(hb:xs.length<mh)(bN:fl≤h.next):
 ∃(s':Sl) (h':AH),M fl fn.bV [.slice s.a s.l s.c,.int .i64 n] h=some (.tuple ⟨[.slice s'.a s'.l s'.c,.int .i64 (if (uS xs n).isSome then 0 else 6)]⟩,h')∧OI h.next h' s' ((uS xs n).getD [])∧ai h h':=by
 have go:∀{s':Sl} {h':AH},bV M fl (xs.length+66) s n h=some (.tuple ⟨[.slice s'.a s'.l s'.c,.int .i64 (if (uS xs n).isSome then 0 else 6)]⟩,h')→M fl fn.bV [.slice s.a s.l s.c,.int .i64 n] h=some (.tuple ⟨[.slice s'.a s'.l s'.c,.int .i64 (if (uS xs n).isSome then 0 else 6)]⟩,h'):=by
  intro s' h' e
  refine aX (k:=xs.length+66) (by decide) uQ ?_
  rw[pU];exact e
 have nil:OI h.next h ⟨none,0,0⟩ []:=.inl ⟨rfl,rfl⟩
 by_cases h1:n<1
 ·have e:uS xs n=none:=by unfold uS;rw[if_pos (.inl h1)]
  refine⟨⟨none,0,0⟩,h,go ?_,by rw[e];exact nil,ai.refl h⟩
  unfold bV YP Le
  rw[if_neg (by simp[h1]),e];rfl
 ·by_cases h2:n>64
  ·have e:uS xs n=none:=by unfold uS;rw[if_pos (.inr h2)]
   refine⟨⟨none,0,0⟩,h,go ?_,by rw[e];exact nil,ai.refl h⟩
   unfold bV YP Le
   rw[if_pos (by simp;omega),if_pos (by simp;omega),e];rfl
  ·obtain⟨m,rfl⟩:∃m:Nat,n=m:=⟨n.toNat,by omega⟩
   have hd:uS xs m=if okW none m xs=true then some (gx xs m m) else none:=by unfold uS;rw[if_neg (by omega)];simp
   have chk:=acW (R:=Value×AH) M fl (xs.length+66) (D7 M fl (xs.length+66) (fun(y4:Sl) (y5:Int) q=>some (Value.tuple ⟨[.slice y4.a y4.l y4.c,.int .i64 y5]⟩,q))) (fun(y4:Sl) (y5:Int) q=>some (Value.tuple ⟨[.slice y4.a y4.l y4.c,.int .i64 y5]⟩,q)) (m:Int) hs (by omega) xs.length 0 (xs.length+66) (by omega) (by omega)
   have un:bV M fl (xs.length+66) s (m:Int) h=qu M fl (xs.length+66) (D7 M fl (xs.length+66) (fun(y4:Sl) (y5:Int) q=>some (Value.tuple ⟨[.slice y4.a y4.l y4.c,.int .i64 y5]⟩,q))) (fun(y4:Sl) (y5:Int) q=>some (Value.tuple ⟨[.slice y4.a y4.l y4.c,.int .i64 y5]⟩,q)) (xs.length+66) s (m:Int) s (xs.length:Int) ((0:Nat):Int) h:=by
    unfold bV YP Le
    rw[if_pos (by simp;omega),if_neg (by simp;omega)]
    unfold Vq
    rw[hs.len];rfl
   by_cases h3:okW none m xs=true
   ·have e:uS xs m=some (gx xs m m):=by rw[hd,if_pos h3]
    obtain⟨s',h',e1,e2,e3⟩:=ahH (R:=Value×AH) (fl:=fl) (k:=xs.length+66) (ym M fl (xs.length+66) (fun(y4:Sl) (y5:Int) q=>some (Value.tuple ⟨[.slice y4.a y4.l y4.c,.int .i64 y5]⟩,q))) m hs hb rfl bN (by omega) m (xs.length+66) ⟨none,0,0⟩ [] h (by omega) (by omega) (by simp) nil (ai.refl h)
    refine⟨s',h',go ?_,by rw[e];simpa using e2,e3⟩
    rw[un,chk,e]
    simp only[if_true,List.drop_zero,h3]
    exact e1
   ·have e:uS xs m=none:=by rw[hd,if_neg h3]
    refine⟨⟨none,0,0⟩,h,go ?_,by rw[e];exact nil,ai.refl h⟩
    rw[un,chk,e]
    simp only[if_true,List.drop_zero,h3]
    rfl
end Go.Abs.P
end
section
namespace Go.Abs.P
open Go.Abs
def inW(n:Int)(xs:List Int):Bool:=xs.all fun x=>decide (1≤x)&&decide (x≤n)
end Go.Abs.P
end
section
namespace Go.Abs.P
open Go.Abs
theorem ahI(n:Int):∀(xs:List Int) (p:Option Int),okW p n xs=(inW n xs&&HX (p.map (·-1)) n (xs.map (·-1)))
 |[],_=>rfl
 |x::xs,p=>by
  have ih:=ahI n xs (some x)
  simp only[okW,ih,inW,List.all_cons,List.map_cons,HX,Option.map_some]
  have e1:decide (0≤x-1)=decide (1≤x):=by simp only[decide_eq_decide];omega
  have e2:decide (x-1<n)=decide (x≤n):=by simp only[decide_eq_decide];omega
  rw[e1,e2]
  cases p with
  |none=>cases decide (1≤x)<;>cases decide (x≤n)<;>simp
  |some q=>
   have e3:decide (q-1<x-1)=decide (q<x):=by simp only[decide_eq_decide];omega
   simp only[Option.map_some,e3]
   cases decide (1≤x)<;>cases decide (x≤n)<;>cases decide (q<x)<;>simp
theorem B6(xs:List Int):∀(d i:Nat),nr xs i (d+1)=nr xs i d++(if ((i+d:Nat):Int)∈xs then [] else [((i+d:Nat):Int)])
 |0,i=>by simp[nr]
 |d+1,i=>by
  have:=B6 xs d (i+1)
  rw[nr,this]
  conv=>rhs;rw[nr]
  rw[List.append_assoc,show i+1+d=i+(d+1) by omega]
theorem ahJ(xs:List Int)(n:Nat):∀d,d≤n→gx xs n d=(nr (xs.map (·-1)) 0 d).reverse.map ((n:Int)-·)
 |0,_=>rfl
 |d+1,h=>by
  rw[gx,B6,ahJ xs n d (by omega),List.reverse_append,List.map_append]
  congr 1
  have e:((d+1:Nat):Int)∈xs↔((0+d:Nat):Int)∈xs.map (·-1):=by
   simp only[List.mem_map]
   constructor
   ·intro h;exact⟨_,h,by omega⟩
   ·rintro⟨a,h1,h2⟩
    have:a=((d+1:Nat):Int):=by omega
    rw[←this];exact h1
  by_cases h1:((d+1:Nat):Int)∈xs
  ·rw[if_pos h1,if_pos (e.1 h1)];rfl
  ·rw[if_neg h1,if_neg (fun q=>h1 (e.2 q))]
   simp;omega
theorem aaS{n:Int}:∀{xs:List Int} {p:Option Int},okW p n xs=true↔(∀x∈xs,1≤x∧x≤n)∧(∀q,p=some q→∀x∈xs,q<x)∧xs.Pairwise (·<·)
 |[],p=>by simp[okW]
 |x::xs,p=>by
  have ih:=aaS (n:=n) (xs:=xs) (p:=some x)
  have hp:okW p n (x::xs)=true↔((1≤x∧x≤n)∧∀q,p=some q→q<x)∧okW (some x) n xs=true:=by
   cases p with
   |none=>simp[okW]
   |some q=>simp[okW]
  rw[hp,ih,List.pairwise_cons]
  constructor
  ·rintro⟨⟨⟨h1,h2⟩,h3⟩,h4,h5,h6⟩
   refine⟨fun y hy=>?_,fun q hq y hy=>?_,h5 x rfl,h6⟩
   ·rcases List.mem_cons.1 hy with e|e
    ·subst e;exact⟨h1,h2⟩
    ·exact h4 y e
   ·rcases List.mem_cons.1 hy with e|e
    ·subst e;exact h3 q hq
    ·have:=h5 x rfl y e;have:=h3 q hq;omega
  ·rintro⟨h1,h2,h3,h4⟩
   have:=h1 x List.mem_cons_self
   exact⟨⟨⟨this.1,this.2⟩,fun q hq=>h2 q hq x List.mem_cons_self⟩,fun y hy=>h1 y (List.mem_cons_of_mem _ hy),fun q hq y hy=>by injection hq with hq;subst hq;exact h3 y hy,h4⟩
theorem Bv{xs:List Int}{n:Nat}:∀{d:Nat},d≤n→∀{y:Int},y∈gx xs n d↔((n:Int)-d<y∧y≤n∧((n:Int)+1-y)∉xs)
 |0,_,y=>by simp[gx];omega
 |d+1,h,y=>by
  have ih:=Bv (xs:=xs) (n:=n) (d:=d) (by omega) (y:=y)
  simp only[gx,List.mem_append,ih]
  constructor
  ·rintro(h1|⟨h1,h2,h3⟩)
   ·split at h1
    ·cases h1
    ·rename_i hx
     simp at h1
     subst h1
     refine⟨by omega,by omega,?_⟩
     rw[show(n:Int)+1-((n-d:Nat):Int)=((d+1:Nat):Int) by omega];exact hx
   ·exact⟨by omega,h2,h3⟩
  ·rintro⟨h1,h2,h3⟩
   by_cases e:y=((n-d:Nat):Int)
   ·refine .inl ?_
    subst e
    rw[show(n:Int)+1-((n-d:Nat):Int)=((d+1:Nat):Int) by omega] at h3
    rw[if_neg h3];simp
   ·exact .inr ⟨by omega,h2,h3⟩
theorem KB{xs:List Int}{n:Nat}:∀{d:Nat},d≤n→(gx xs n d).Pairwise (·<·)
 |0,_=>.nil
 |d+1,h=>by
  have ih:=KB (xs:=xs) (n:=n) (d:=d) (by omega)
  rw[gx]
  split
  ·exact ih
  ·rw[List.singleton_append,List.pairwise_cons]
   refine⟨fun y hy=>?_,ih⟩
   have:=(Bv (by omega)).1 hy
   omega
end Go.Abs.P
end
section
namespace Go.Abs.P
open Go.Abs
end Go.Abs.P
end
section
namespace Go.Abs.P
open Go.Abs Go.Fld
theorem TB{R:Type}{fl k:Nat}(kn:ak R){h0:AH}{b p:Nat}(hp:0<p)(bN:fl≤b)(hb:h0.next≤b)(m:Nat)(hm:m<mh):
 ∀(d i f x:Nat) (pre:List Nat) (h:AH),i+d=m→d<f→pre.length=i→x<9223372036854775808→OB h b (iv (ints (pre++List.replicate d 0)))→ai h0 h→
 ∃h',zQ M fl k kn f (x:Int) (p:Int) ⟨some ⟨b,0,none⟩,m,m⟩ (m:Int) (i:Int) h=kn ⟨some ⟨b,0,none⟩,m,m⟩ h'∧OB h' b (iv (ints (pre++aN p d x)))∧ai h0 h':=by
 intro d
 induction d with
 |zero=>
  intro i f x pre h hi hf TG hx ho hq
  obtain⟨f,rfl⟩:∃j,f=j+1:=⟨f-1,by omega⟩
  refine⟨h,?_,ho,hq⟩
  show rO M fl k _ _ (x:Int) (p:Int) _ (m:Int) (i:Int) h=_
  unfold rO
  rw[if_neg (by simp;omega)]
 |succ d ih=>
  intro i f x pre h hi hf TG hx ho hq
  obtain⟨f,rfl⟩:∃j,f=j+1:=⟨f-1,by omega⟩
  have hs:(iv (ints (pre++List.replicate (d+1) 0))).set (0+i) (.int .i64 ((x%p:Nat):Int))=iv (ints ((pre++[x%p])++List.replicate d 0)):=by
   rw[iy,ints_set,List.set_append_right _ _ (by omega),show 0+i-pre.length=0 by omega,List.replicate_succ,List.set_cons_zero];simp
  have ho2:OB (h.put b (some (iv (ints ((pre++[x%p])++List.replicate d 0))))) b (iv (ints ((pre++[x%p])++List.replicate d 0))):=ho.put _
  obtain⟨h',e1,e2,e3⟩:=ih (i+1) f (x/p) (pre++[x%p]) _ (by omega) (by omega) (by simp;omega) (Nat.lt_of_le_of_lt (Nat.div_le_self x p) hx) ho2 (hq.put hb _)
  refine⟨h',?_,by simpa [aN] using e2,e3⟩
  show rO M fl k _ _ (x:Int) (p:Int) _ (m:Int) (i:Int) h=_
  unfold rO
  rw[if_pos (by simp;omega),gV hp,aT rfl (show i<m by omega),ho.st bN (by simp;omega) rfl,hs,D0 hp hx,fE (by omega)]
  exact e1
theorem FP{fl:Nat}{h:AH}{x p m:Nat}(hp:0<p)(hm:m≤64)(hx:x<9223372036854775808)(bN:fl≤h.next):
 ∃h',M fl fn.gn [.int .i64 (x:Int),.int .i64 (p:Int),.int .i64 (m:Int)] h=some (.slice (some ⟨h.next,0,none⟩) m m,h')∧OB h' h.next (iv (ints (aN p m x)))∧ai h h':=by
 have ho:=OB.alloc h (List.replicate m (Value.int .i64 0))
 rw[oz] at ho
 obtain⟨h',e1,e2,e3⟩:=TB (fl:=fl) (k:=m+1) (LO M fl (m+1) (fun(y6:Sl) q=>some (Value.slice y6.a y6.l y6.c,q))) hp bN (Nat.le_refl _) m (by unfold mh;omega) m 0 (m+1) x [] _ (by omega) (by omega) rfl hx ho (ai.alloc h _)
 refine⟨h',aX (k:=m+1) (by decide) Ac ?_,e2,e3⟩
 rw[wP]
 unfold gn amo W6
 rw[jg (by unfold kA;omega),oz]
 exact e1
theorem Xn{R:Type}{fl k:Nat}(kn:ae R){h:AH}{s:Sl}{l:List Nat}{p:Nat}(hs:SI h s (ints l))(UI:Small p l)(hb:p^l.length≤9223372036854775808)(hl:l.length≤64):
 ∀(i f:Nat),i≤l.length→i<f→
 zR M fl k kn f s (p:Int) ((dC p (l.drop i):Nat):Int) ((i:Int)-1) h=kn ((dC p l:Nat):Int) h:=by
 intro i
 induction i with
 |zero=>
  intro f hi hf
  obtain⟨f,rfl⟩:∃j,f=j+1:=⟨f-1,by omega⟩
  show rP M fl k _ _ s (p:Int) _ _ h=_
  unfold rP
  rw[if_neg (by simp),List.drop_zero]
 |succ i ih=>
  intro f hi hf
  obtain⟨f,rfl⟩:∃j,f=j+1:=⟨f-1,by omega⟩
  show rP M fl k _ _ s (p:Int) _ _ h=_
  unfold rP
  have e1:((i+1:Nat):Int)-1=(i:Int):=by omega
  rw[e1,if_pos (by simp),hs.read (by omega) (by simp;omega)]
  simp only[Int.toNat_natCast,dm]
  have hd:l.drop i=l[i]::l.drop (i+1):=List.drop_eq_getElem_cons (by omega)
  have hlt:dC p (l.drop i)<9223372036854775808:=by
   have h1:=aco (l.drop i) (fun a ha=>UI a (List.mem_of_mem_drop ha))
   have h2:p^(l.drop i).length≤p^l.length:=Nat.pow_le_pow_right (by have:=UI l[i] (List.getElem_mem _);omega) (by simp)
   omega
  have hv:dC p (l.drop i)=l[i]+p*dC p (l.drop (i+1)):=by rw[hd];rfl
  have e2:bL (((dC p (l.drop (i+1)):Nat):Int)*(p:Int))=((p*dC p (l.drop (i+1)):Nat):Int):=av _ (by push_cast;rw[Int.mul_comm]) (by omega)
  rw[e2,av (dC p (l.drop i)) (by rw[hv];push_cast;omega) hlt,jf (by omega) (by omega)]
  exact ih f (by omega) (by omega)
theorem Xo{fl:Nat}{h:AH}{s:Sl}{l:List Nat}{p:Nat}(hs:SI h s (ints l))(UI:Small p l)(hb:p^l.length≤9223372036854775808)(hl:l.length≤64):
 M fl fn.j5 [.slice s.a s.l s.c,.int .i64 (p:Int)] h=some (.int .i64 ((dC p l:Nat):Int),h):=by
 refine aX (k:=l.length+1) (by decide) B5 ?_
 rw[xY]
 unfold j5 amq W9 W8
 rw[hs.len,jf (by simp;omega) (by simp;omega)]
 have:=Xn (fl:=fl) (k:=l.length+1) (LQ M fl (l.length+1) (fun(y4:Int) q=>some (Value.int .i64 y4,q))) hs UI hb hl l.length (l.length+1) (by omega) (by omega)
 simp only[List.drop_length] at this
 simp only[cz]
 exact this
def sqP(n:Nat):Nat→Nat→Bool
 |0,_=>true
 |k+1,d=>if d*d≤n then (if n%d=0 then false else sqP n k (d+1)) else true
theorem Xp{R:Type}{fl k:Nat}(kn:ae R)(kr:au R){h:AH}{n:Nat}(hn:n≤256):
 ∀(j d f:Nat),0<d→d+j=18→j<f→zK M fl k kn kr f (n:Int) (d:Int) h=if sqP n j d=true then kn (n:Int) h else kr false h:=by
 intro j
 induction j with
 |zero=>
  intro d f h0 hd hf
  obtain⟨f,rfl⟩:∃j,f=j+1:=⟨f-1,by omega⟩
  obtain rfl:d=18:=by omega
  show rB M fl k _ _ kr (n:Int) _ h=_
  unfold rB
  rw[show bL (((18:Nat):Int)*((18:Nat):Int))=324 from by rw[jf (by omega) (by omega)];rfl,if_neg (by simp;omega)]
  simp[sqP]
 |succ j ih=>
  intro d f h0 hd hf
  obtain⟨f,rfl⟩:∃j,f=j+1:=⟨f-1,by omega⟩
  show rB M fl k _ _ kr (n:Int) _ h=_
  unfold rB
  have hdd:d*d≤18*18:=Nat.mul_le_mul (by omega) (by omega)
  rw[av (d*d) (by push_cast;rfl) (by omega)]
  unfold sqP
  by_cases c:d*d≤n
  ·rw[if_pos (by simp;exact_mod_cast c),gV h0,if_pos c]
   by_cases c2:n%d=0
   ·rw[if_pos (by simp[c2]),if_pos c2];rfl
   ·rw[if_neg (by simp;omega),if_neg c2,av (d+1) (by push_cast;rfl) (by omega)]
    exact ih (d+1) f (by omega) (by omega) (by omega)
  ·rw[if_neg (by simp;exact_mod_cast Nat.lt_of_not_le c),if_neg c];rfl
theorem auJ:∀n<257,2≤n→sqP n 16 2=FD.prB n:=by decide+kernel
theorem Xq{fl:Nat}{h:AH}{n:Nat}(hn:n≤256)(h2:2≤n):M fl fn.j0 [.int .i64 (n:Int)] h=some (.bool (FD.prB n),h):=by
 refine aX (k:=18) (by decide) B4 ?_
 rw[xU]
 unfold j0 alY WJ WI
 have:=Xp (fl:=fl) (k:=18) (EG M fl 18 (fun(y2:Bool) q=>some (Value.bool y2,q))) (fun(y2:Bool) q=>some (Value.bool y2,q)) (h:=h) hn 16 2 18 (by omega) (by omega) (by omega)
 refine this.trans ?_
 rw[←auJ n (by omega) h2]
 by_cases c:sqP n 16 2=true
 ·rw[if_pos c,c]
  unfold EG
  rw[show decide ((n:Int)≥2)=true by simp;omega]
 ·rw[if_neg c];simp only[Bool.not_eq_true] at c;rw[c]
def Cr(p m:Int):Nat:=if p<2∨m<1∨m>8∨p>256 then 0 else if p.toNat^m.toNat≤256 then p.toNat^m.toNat else 0
theorem acX{R:Type}{fl k:Nat}(kn:ae R)(kr:ae R){h:AH}{p m:Nat}(hp:2≤p)(hp2:p≤256):
 ∀(j i f:Nat),i+j=m→j<f→p^i≤256→m≤8→zn M fl k kn kr f (p:Int) ((p^i:Nat):Int) (m:Int) (i:Int) h=if p^m≤256 then kn ((p^m:Nat):Int) h else kr 0 h:=by
 intro j
 induction j with
 |zero=>
  intro i f hi hf hle hm
  obtain⟨f,rfl⟩:∃j,f=j+1:=⟨f-1,by omega⟩
  obtain rfl:i=m:=by omega
  show qU M fl k _ _ kr (p:Int) _ _ _ h=_
  unfold qU
  rw[if_neg (by simp),if_pos hle]
 |succ j ih=>
  intro i f hi hf hle hm
  obtain⟨f,rfl⟩:∃j,f=j+1:=⟨f-1,by omega⟩
  show qU M fl k _ _ kr (p:Int) _ _ _ h=_
  unfold qU
  have h1:p^i*p≤256*256:=Nat.mul_le_mul hle hp2
  have ih:=ih (i+1) f (by omega) (by omega)
  have h3:p^(i+1)≤p^m:=Nat.pow_le_pow_right (by omega) (by omega)
  obtain⟨P,hP⟩:∃P,P=p^(i+1):=⟨_,rfl⟩
  have e:p^i*p=P:=hP.symm
  rw[←hP] at ih h3
  rw[if_pos (by simp;omega),av P (by rw[←e];push_cast;rfl) (by omega),av (i+1) (by push_cast;rfl) (by omega)]
  by_cases c:P≤256
  ·rw[if_neg (by rw[decide_eq_true_eq];omega)]
   exact ih c hm
  ·rw[if_pos (by rw[decide_eq_true_eq];omega),if_neg (by omega)]
theorem Bw{fl:Nat}{h:AH}(p m:Int):M fl fn.hJ [.int .i64 p,.int .i64 m] h=some (.int .i64 ((Cr p m:Nat):Int),h):=by
 refine aX (k:=10) (by decide) FL ?_
 rw[BP]
 unfold hJ alg Wd Cr
 by_cases h1:p<2
 ·rw[if_neg (by simp[h1]),if_pos (.inl h1)];rfl
 ·rw[if_pos (by simp;omega)]
  by_cases h2:p>256
  ·rw[if_neg (by simp;omega),if_pos (by omega)];rfl
  ·rw[if_pos (by simp;omega)]
   by_cases h3:m<1
   ·rw[if_neg (by simp;omega),if_pos (by omega)];rfl
   ·rw[if_pos (by simp;omega)]
    by_cases h4:m>8
    ·rw[if_pos (by simp;omega),if_pos (by omega)];rfl
    ·rw[if_neg (by simp;omega),if_neg (by omega)]
     obtain⟨p,rfl⟩:∃n:Nat,p=n:=⟨p.toNat,by omega⟩
     obtain⟨m,rfl⟩:∃n:Nat,m=n:=⟨m.toNat,by omega⟩
     have:=acX (fl:=fl) (k:=10) (Lu M fl 10 (fun(y4:Int) q=>some (Value.int .i64 y4,q))) (fun(y4:Int) q=>some (Value.int .i64 y4,q)) (h:=h) (p:=p) (m:=m) (by omega) (by omega) m 0 10 (by omega) (by omega) (by simp) (by omega)
     refine Eq.trans this ?_
     simp only[Int.toNat_natCast]
     by_cases c:p^m≤256
     ·rw[if_pos c,if_pos c];rfl
     ·rw[if_neg c,if_neg c];rfl
end Go.Abs.P
end
