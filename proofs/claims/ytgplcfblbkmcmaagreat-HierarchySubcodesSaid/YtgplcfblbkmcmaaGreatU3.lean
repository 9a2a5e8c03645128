/- Shortened by a program of ours out of readable texts. -/
import Derived.Test.YtgplcfblbkmcmaaGreatU2
import Derived.Test.YtgplcfblbkmcmaaGreatProg
import Derived.KernelRfl
set_option linter.all false
section
set_option maxRecDepth 100000
set_option linter.unusedVariables false
namespace Go.Abs.P
open Go.Abs Go.Abs.CP Go.Abs.C Go.Proofs
variable{R:Type}(C:Callee)(fl k:Nat)(K:KF R)
def D7(t2:Int):List Value:=un 2 (vi t2::un 31 [])
def Gl:ab:=.seq (.region [m 33 3,m 2 33] [3,33]) (.ret)
def Vg(t3:Int):List Value:=un 3 (vi t3::un 30 [])
def IX(t1:Addr)(t3 t4:Int):List Value:=un 1 (vp t1::un 1 (vi t3::vi t4::un 29 []))
def Gm:ab:=.seq (.region [m 18 4,fa 19 1 1,li 20 19,cm 21 .lss 18 20] [18,19,20]) (.seq (.cond (.t 21) (kl [21]) (.seq (kl [1,4,21]) (.exit 0))) (.seq (.block 1 (.seq (.seq (.region [m 24 3,fa 25 0 1,li 26 25,oI 27 (.bin .quo .i64 (ci 256) (.t 26)),cm 28 .gtr 24 27] [24,25,26,27]) (.cond (.t 28) (.seq (.region [mc 2 0] [1,3,4,28]) (.ret)) (kl [28]))) (.region [m 29 3,fa 30 0 1,li 31 30,bb 32 .mul 29 31,m 3 32] [29,30,31,32]))) (.region [m 22 4,bc 23 .add 22 1,m 4 23] [22,23])))
def QB:ab:=.seq (.block 0 (.loop Gm)) Gl
def aeg(cn:ab):ab:=.seq (.seq (.region [oI 1 (.box (.t 0)),mc 2 0] [0,2]) (.seq (.region [fa 5 0 1,li 6 5,ck 7 .lss 6 2,m 8 7,.fb 8 false [qI 9 (.bR 1 (.t 1)),qI 10 (.load (.one (.int .i64)) (.t 9)),qI 11 (.cmp .lss .i64 (.t 10) (ci 1))],oI 12 (.pick (.t 8) (.c (.bool true)) (.t 11)),m 13 12,.fb 13 false [qI 14 (.bR 1 (.t 1)),qI 15 (.load (.one (.int .i64)) (.t 14)),qI 16 (.cmp .gtr .i64 (.t 15) (ci 8))],oI 17 (.pick (.t 13) (.c (.bool true)) (.t 16))] [5,6,7,8,9,10,11,12,13,14,15,16]) (.seq (.cond (.t 17) (.seq (.region [mc 2 0] [1,17]) (.ret)) (kl [17])) (.seq (.region [mc 3 1] []) (.region [mc 4 0] []))))) cn
def akq:ab:=aeg QB
def aeh(aI aH:Int)(aJ:Sl):List Value:=.agg ⟨[vi aI,vi aH,vs aJ]⟩::un 33 []
def so:aB:=⟨34,akq,[.tmp 2]⟩
theorem QC:okF Tryz.prog 96 so=true:=by kernel_rfl
def K4{R:Type}(C:Callee)(fl k:Nat)(kr:ag R):ag R:=fun t3 h=>kr t3 h
theorem YK:(cp Vg (ce C fl k Gl K))=K4 C fl k (cp D7 (K .ret)):=by kernel_rfl
def qp{R:Type}(C:Callee)(fl k:Nat)(kn:oq R)(e0:ag R)(kr:ag R):oq R:=fun t1 t3 t4 h=>aF .i64 h t1.block (t1.off+1) fun n1=>if decide (t4<n1)=true then aF .i64 h t1.block t1.off fun n2=>iZ .quo .i64 256 n2 fun n3=>if decide (t3>n3)=true then kr 0 h else aF .i64 h t1.block t1.off fun n4=>kn t1 (bM (t3*n4)) (bM (t4+1)) h else e0 t3 h
theorem YL:(cp IX (ce C fl k Gm K))=qp C fl k (cp IX (K .normal)) (cp Vg (K (.exit 0))) (cp D7 (K .ret)):=by kernel_rfl
def yS(kn:ag R)(kr:ag R):Nat→oq R
 |0=>fun _ _ _ _=>none
 |m+1=>qp C fl k (yS kn kr m) kn kr
theorem Mk:∀m,(cp IX (aQ m (bK C fl k Gm 0 K)))=yS C fl k (cp Vg (K .normal)) (cp D7 (K .ret)) m
 |0=>by kernel_rfl
 |m+1=>mL (YL C fl k _) (ak (fun L=>qp C fl k L _ _) (Mk m))
def aei(kr:ag R):oq R:=yS C fl k (K4 C fl k kr) kr k
theorem agB:(cp IX (ce C fl k QB K))=aei C fl k (cp D7 (K .ret)):=(pA (mM (Mk C fl k (bT C fl k Gl K)))).trans (ak (fun L=>yS C fl k L _ k) (py (YK C fl k K)))
def Vh{R:Type}(C:Callee)(fl k:Nat)(kx:oq R)(kr:ag R):jD R:=fun aI aH aJ h=>cU h [vi aI,vi aH,vs aJ] fun b5 h6=>aF .i64 h6 b5 0 fun n7=>if decide (n7<2)=false then aF .i64 h6 b5 1 fun n8=>if decide (n8<1)=false then aF .i64 h6 b5 1 fun n9=>if decide (n9>8)=true then kr 0 h6 else kx ⟨b5,0,none⟩ 1 0 h6 else kr 0 h6 else kr 0 h6
def akr(kr:ag R):jD R:=Vh C fl k (aei C fl k kr) kr
theorem apJ(cn:ab):(cp aeh (ce C fl k (aeg cn) K))=Vh C fl k (cp IX (ce C fl k cn K)) (cp D7 (K .ret)):=by kernel_rfl
theorem apK:(cp aeh (ce C fl k akq K))=akr C fl k (cp D7 (K .ret)):=(apJ C fl k K QB).trans (ak (fun L0=>Vh C fl k L0 _) (agB C fl k K))
def kM(ax ay:Int)(aA:Sl)(h:AH):Option (Value×AH):=akr C fl k (fun y2 q=>some (vi y2,q)) ax ay aA h
theorem NH(ax ay:Int)(aA:Sl)(h):bk C fl k so [.agg ⟨[vi ax,vi ay,vs aA]⟩] h=kM C fl k ax ay aA h:=yI (apK C fl k (aE _)) ax ay aA (by kernel_rfl) (by kernel_rfl)
def D8(t2:Bool):List Value:=un 2 (.bool t2::un 10 [])
def Gn:ab:=.seq (.region [oI 2 (.mv (.c (.bool true)))] []) (.ret)
def Vi:List Value:=un 13 []
abbrev gy(R:Type):=Int→Int→AH→Option R
def IY(t0 t3:Int):List Value:=vi t0::un 2 (vi t3::un 9 [])
def Gp:ab:=.seq (.region [m 4 3,m 5 0,cm 6 .lss 4 5] [4,5]) (.seq (.cond (.t 6) (kl [6]) (.seq (kl [0,3,6]) (.exit 0))) (.seq (.block 1 (.seq (.region [m 9 0,m 10 3,bb 11 .rem 9 10,ck 12 .eql 11 0] [9,10,11]) (.cond (.t 12) (.seq (.region [oI 2 (.mv (.c (.bool false)))] [0,3,12]) (.ret)) (kl [12])))) (.region [m 7 3,bc 8 .add 7 1,m 3 8] [7,8])))
def QD:ab:=.seq (.block 0 (.loop Gp)) Gn
def aej(cn:ab):ab:=.seq (.seq (.region [oI 2 (.mv (.c (.bool false)))] [2]) (.region [mc 3 2] [])) cn
def aks:ab:=aej QD
def aek(t0:Int):List Value:=vi t0::un 12 []
def sq:aB:=⟨13,aks,[.tmp 2]⟩
theorem QE:okF Tryz.prog 97 sq=true:=by kernel_rfl
def K5{R:Type}(C:Callee)(fl k:Nat)(kr:au R):av R:=fun h=>kr true h
theorem YM:(cp Vi (ce C fl k Gn K))=K5 C fl k (cp D8 (K .ret)):=by kernel_rfl
def qq{R:Type}(C:Callee)(fl k:Nat)(kn:gy R)(e0:av R)(kr:au R):gy R:=fun t0 t3 h=>if decide (t3<t0)=true then iZ .rem .i64 t0 t3 fun n1=>if (n1==0)=true then kr false h else kn t0 (bM (t3+1)) h else e0 h
theorem YN:(cp IY (ce C fl k Gp K))=qq C fl k (cp IY (K .normal)) (cp Vi (K (.exit 0))) (cp D8 (K .ret)):=by kernel_rfl
def yT(kn:av R)(kr:au R):Nat→gy R
 |0=>fun _ _ _=>none
 |m+1=>qq C fl k (yT kn kr m) kn kr
theorem Ml:∀m,(cp IY (aQ m (bK C fl k Gp 0 K)))=yT C fl k (cp Vi (K .normal)) (cp D8 (K .ret)) m
 |0=>by kernel_rfl
 |m+1=>mL (YN C fl k _) (ak (fun L=>qq C fl k L _ _) (Ml m))
def Vj(kr:au R):gy R:=yT C fl k (K5 C fl k kr) kr k
theorem agC:(cp IY (ce C fl k QD K))=Vj C fl k (cp D8 (K .ret)):=(pA (mM (Ml C fl k (bT C fl k Gn K)))).trans (ak (fun L=>yT C fl k L _ k) (py (YM C fl k K)))
def Vk{R:Type}(C:Callee)(fl k:Nat)(kx:gy R)(kr:au R):ag R:=fun t0 h=>kx t0 2 h
def akt(kr:au R):ag R:=Vk C fl k (Vj C fl k kr) kr
theorem apL(cn:ab):(cp aek (ce C fl k (aej cn) K))=Vk C fl k (cp IY (ce C fl k cn K)) (cp D8 (K .ret)):=by kernel_rfl
theorem apM:(cp aek (ce C fl k aks K))=akt C fl k (cp D8 (K .ret)):=(apL C fl k K QD).trans (ak (fun L0=>Vk C fl k L0 _) (agC C fl k K))
def nE(p0:Int)(h:AH):Option (Value×AH):=akt C fl k (fun y2 q=>some (.bool y2,q)) p0 h
theorem NI(p0:Int)(h):bk C fl k sq [vi p0] h=nE C fl k p0 h:=ab2 (apM C fl k (aE _)) p0 (by kernel_rfl) (by kernel_rfl)
def jK(t4:Bool):List Value:=un 4 (.bool t4::un 25 [])
def Gq:ab:=.seq (.region [oI 4 (.mv (.c (.bool true)))] []) (.ret)
def AG:List Value:=un 30 []
abbrev cG(R:Type):=Sl→Int→Int→Int→AH→Option R
def dX(t0:Sl)(t1 t5 t6:Int):List Value:=t0.v::vi t1::un 3 (vi t5::vi t6::un 23 [])
def oA:ab:=.region [m 13 6,bc 14 .add 13 1,m 6 14] [13,14]
abbrev IZ(R:Type):=Sl→Int→Int→Int→Int→AH→Option R
def I0(t0:Sl)(t1 t5 t6 t7:Int):List Value:=t0.v::vi t1::un 3 (vi t5::vi t6::vi t7::un 22 [])
def m8:ab:=.seq (.region [m 18 7,m 19 5,cm 20 .lss 18 19] [18,19]) (.seq (.cond (.t 20) (kl [20]) (.seq (kl [7,20]) (.exit 2))) (.seq (.block 3 (.seq (.region [m 23 7,m 24 1,m 25 6,oI 26 (.call (.f 137) [.t 23,.t 24,.t 25] (.one (.one .slice))),m 27 0,m 28 1,oI 29 (.call (.f 136) [.t 26,.t 27,.t 28] (.one (.one .bool)))] [23,24,25,26,27,28]) (.cond (.t 29) (.seq (.region [oI 4 (.mv (.c (.bool false)))] [0,1,5,6,7,29]) (.ret)) (kl [29])))) (.region [m 21 7,bc 22 .add 21 1,m 7 22] [21,22])))
def qt:ab:=.block 2 (.loop m8)
def Bw(cn:ab):ab:=.seq (.seq (.region [m 15 5,m 16 1,bb 17 .mul 15 16,m 5 17] [15,16,17]) (.region [mc 7 0] [])) cn
def vV:ab:=Bw qt
def Fk(cn vg:ab):ab:=.seq (.block 1 vg) cn
def AI:ab:=Fk oA vV
def Mm(cn:ab):ab:=.seq (.seq (.region [m 8 6,oI 9 (.bin .mul .i64 (ci 2) (.t 8)),m 10 0,ln 11 10,cm 12 .leq 9 11] [8,9,10,11]) (.cond (.t 12) (kl [12]) (.seq (kl [0,1,5,6,12]) (.exit 0)))) cn
def Gr:ab:=Mm AI
def QF:ab:=.seq (.block 0 (.loop Gr)) Gq
def ael(cn:ab):ab:=.seq (.seq (.region [oI 4 (.mv (.c (.bool false)))] [4]) (.seq (.region [mc 5 1] []) (.region [mc 6 1] []))) cn
def aku:ab:=ael QF
def aem(t0:Sl)(t1:Int):List Value:=t0.v::vi t1::un 28 []
def iT:aB:=⟨30,aku,[.tmp 4]⟩
theorem CW:okF Tryz.prog 98 iT=true:=by kernel_rfl
def K6{R:Type}(C:Callee)(fl k:Nat)(kr:au R):av R:=fun h=>kr true h
theorem YO:(cp AG (ce C fl k Gq K))=K6 C fl k (cp jK (K .ret)):=by kernel_rfl
def j6{R:Type}(C:Callee)(fl k:Nat)(kn:cG R)(e0:av R)(kr:au R):cG R:=fun t0 t1 t5 t6 h=>kn t0 t1 t5 (bM (t6+1)) h
theorem Bx:(cp dX (ce C fl k oA K))=j6 C fl k (cp dX (K .normal)) (cp AG (K (.exit 0))) (cp jK (K .ret)):=by kernel_rfl
def dY{R:Type}(C:Callee)(fl k:Nat)(kn:IZ R)(e2:cG R)(kr:au R):IZ R:=fun t0 t1 t5 t6 t7 h=>if decide (t7<t5)=true then aD C fl fn.ly [vi t7,vi t1,vi t6] h fun v1 h2=>bB v1 fun s3=>aD C fl fn.mC [vs s3,vs t0,vi t1] h2 fun v4 h5=>asBool v4 fun b6=>if b6=true then kr false h5 else kn t0 t1 t5 t6 (bM (t7+1)) h5 else e2 t0 t1 t5 t6 h
theorem EM:(cp I0 (ce C fl k m8 K))=dY C fl k (cp I0 (K .normal)) (cp dX (K (.exit 2))) (cp jK (K .ret)):=by kernel_rfl
def dZ(kn:cG R)(kr:au R):Nat→IZ R
 |0=>fun _ _ _ _ _ _=>none
 |m+1=>dY C fl k (dZ kn kr m) kn kr
theorem um:∀m,(cp I0 (aQ m (bK C fl k m8 2 K)))=dZ C fl k (cp dX (K .normal)) (cp jK (K .ret)) m
 |0=>by kernel_rfl
 |m+1=>mL (EM C fl k _) (ak (fun L=>dY C fl k L _ _) (um m))
def tV(kn:cG R)(kr:au R):IZ R:=dZ C fl k kn kr k
theorem I1:(cp I0 (ce C fl k qt K))=tV C fl k (cp dX (K .normal)) (cp jK (K .ret)):=mM (um C fl k K)
def oB{R:Type}(C:Callee)(fl k:Nat)(kx:IZ R)(kn:cG R)(kr:au R):cG R:=fun t0 t1 t5 t6 h=>kx t0 t1 (bM (t5*t1)) t6 0 h
def sr(kn:cG R)(kr:au R):cG R:=oB C fl k (tV C fl k kn kr) kn kr
theorem NJ(cn:ab):(cp dX (ce C fl k (Bw cn) K))=oB C fl k (cp I0 (ce C fl k cn K)) (cp dX (K .normal)) (cp jK (K .ret)):=by kernel_rfl
theorem NK:(cp dX (ce C fl k vV K))=sr C fl k (cp dX (K .normal)) (cp jK (K .ret)):=(NJ C fl k K qt).trans (ak (fun L0=>oB C fl k L0 _ _) (I1 C fl k K))
def uO{R:Type}(C:Callee)(fl k:Nat)(kx:cG R)(u0:cG R)(kn:cG R)(e0:av R)(kr:au R):cG R:=fun t0 t1 t5 t6 h=>u0 t0 t1 t5 t6 h
def CX(kn:cG R)(e0:av R)(kr:au R):cG R:=uO C fl k (j6 C fl k kn e0 kr) (sr C fl k (j6 C fl k kn e0 kr) kr) kn e0 kr
theorem Sd(cn vg:ab):(cp dX (ce C fl k (Fk cn vg) K))=uO C fl k (cp dX (ce C fl k cn K)) (cp dX (ce C fl k vg (vx 1 (bT C fl k cn K)))) (cp dX (K .normal)) (cp AG (K (.exit 0))) (cp jK (K .ret)):=by kernel_rfl
theorem Se:(cp dX (ce C fl k AI K))=CX C fl k (cp dX (K .normal)) (cp AG (K (.exit 0))) (cp jK (K .ret)):=(Sd C fl k K oA vV).trans (pO (fun L0 L1=>uO C fl k L0 L1 _ _ _) (Bx C fl k K) ((NK C fl k (vx 1 (bT C fl k oA K))).trans (ak (fun L0=>sr C fl k L0 _) (bn1 (Bx C fl k K)))))
def vW{R:Type}(C:Callee)(fl k:Nat)(kx:cG R)(kn:cG R)(e0:av R)(kr:au R):cG R:=fun t0 t1 t5 t6 h=>if decide (bM (2*t6)≤((t0.l:Nat):Int))=true then kx t0 t1 t5 t6 h else e0 h
def qu(kn:cG R)(e0:av R)(kr:au R):cG R:=vW C fl k (CX C fl k kn e0 kr) kn e0 kr
theorem YP(cn:ab):(cp dX (ce C fl k (Mm cn) K))=vW C fl k (cp dX (ce C fl k cn K)) (cp dX (K .normal)) (cp AG (K (.exit 0))) (cp jK (K .ret)):=by kernel_rfl
theorem YQ:(cp dX (ce C fl k Gr K))=qu C fl k (cp dX (K .normal)) (cp AG (K (.exit 0))) (cp jK (K .ret)):=(YP C fl k K AI).trans (ak (fun L0=>vW C fl k L0 _ _ _) (Se C fl k K))
def nO(kn:av R)(kr:au R):Nat→cG R
 |0=>fun _ _ _ _ _=>none
 |m+1=>qu C fl k (nO kn kr m) kn kr
theorem Mn:∀m,(cp dX (aQ m (bK C fl k Gr 0 K)))=nO C fl k (cp AG (K .normal)) (cp jK (K .ret)) m
 |0=>by kernel_rfl
 |m+1=>mL (YQ C fl k _) (ak (fun L=>qu C fl k L _ _) (Mn m))
def Vl(kr:au R):cG R:=nO C fl k (K6 C fl k kr) kr k
theorem agD:(cp dX (ce C fl k QF K))=Vl C fl k (cp jK (K .ret)):=(pA (mM (Mn C fl k (bT C fl k Gq K)))).trans (ak (fun L=>nO C fl k L _ k) (py (YO C fl k K)))
def Vm{R:Type}(C:Callee)(fl k:Nat)(kx:cG R)(kr:au R):bU R:=fun t0 t1 h=>kx t0 t1 1 1 h
def akv(kr:au R):bU R:=Vm C fl k (Vl C fl k kr) kr
theorem apN(cn:ab):(cp aem (ce C fl k (ael cn) K))=Vm C fl k (cp dX (ce C fl k cn K)) (cp jK (K .ret)):=by kernel_rfl
theorem apO:(cp aem (ce C fl k aku K))=akv C fl k (cp jK (K .ret)):=(apN C fl k K QF).trans (ak (fun L0=>Vm C fl k L0 _) (agD C fl k K))
def gQ(p0:Sl)(p1:Int)(h:AH):Option (Value×AH):=akv C fl k (fun y4 q=>some (.bool y4,q)) p0 p1 h
theorem BW(p0:Sl)(p1:Int)(h):bk C fl k iT [vs p0,vi p1] h=gQ C fl k p0 p1 h:=CG (apO C fl k (aE _)) p0 p1 (by kernel_rfl) (by kernel_rfl)
def oC(t4:Int):List Value:=un 4 (vi t4::un 55 [])
def vX:ab:=.seq (.region [mc 4 0] []) (.ret)
def Vn:List Value:=un 60 []
abbrev oD(R:Type):=Addr→Addr→Int→AH→Option R
def I2(t2 t3:Addr)(t7:Int):List Value:=un 2 (vp t2::vp t3::un 3 (vi t7::un 52 []))
def vY:ab:=.seq (.region [m 43 7,fa 44 1 3,ls 45 44,ln 46 45,cm 47 .lss 43 46] [43,44,45,46]) (.seq (.cond (.t 47) (kl [47]) (.seq (kl [2,3,7,47]) (.exit 2))) (.seq (.block 3 (.seq (.region [oJ 50 (.load (.agg [.int .i64,.int .i64,.slice]) (.t 2)),fa 51 1 3,lt 52 51,m 53 7,ia 54 1 52 53,lt 55 54,oI 56 (.call (.f 70) [.t 50,.t 55] (.one (.one (.int .i64)))),m 5 56] [50,51,52,53,54,55,56]) (.seq (.region [m 57 5,ck 58 .neq 57 0] [57]) (.cond (.t 58) (.seq (.region [m 59 5,m 4 59] [2,3,5,7,58,59]) (.ret)) (kl [5,58]))))) (.region [m 48 7,bc 49 .add 48 1,m 7 49] [48,49])))
def AJ:ab:=.seq (.block 2 (.loop vY)) vX
def Mo(cn:ab):ab:=.seq (.region [mc 7 0] []) cn
def Gs:ab:=Mo AJ
abbrev I3(R:Type):=Addr→Addr→AH→Option R
def OZ(t2 t3:Addr):List Value:=un 2 (vp t2::vp t3::un 56 [])
def I4(t2 t3:Addr)(t6:Int):List Value:=un 2 (vp t2::vp t3::un 2 (vi t6::un 53 []))
def Gt:ab:=.seq (.region [m 27 6,fa 28 1 3,ls 29 28,ln 30 29,cm 31 .lss 27 30] [27,28,29,30]) (.seq (.cond (.t 31) (kl [31]) (.seq (kl [6,31]) (.exit 0))) (.seq (.block 1 (.seq (.region [fa 34 1 3,lt 35 34,m 36 6,ia 37 1 35 36,lt 38 37,ln 39 38,fa 40 0 3,lj 41 40,cm 42 .neq 39 41] [34,35,36,37,38,39,40,41]) (.cond (.t 42) (.seq (.region [mc 4 3] [2,3,6,42]) (.ret)) (kl [42])))) (.region [m 32 6,bc 33 .add 32 1,m 6 33] [32,33])))
def QG:ab:=.seq (.block 0 (.loop Gt)) Gs
def aen(cn:ab):ab:=.seq (.seq (.region [oI 2 (.box (.t 0)),oI 3 (.box (.t 1)),mc 4 0] [0,1,4]) (.seq (.region [oI 8 (.load (.agg [.int .i64,.int .i64,.slice]) (.t 2)),oI 9 (.call (.f 62) [.t 8] (.one (.one (.int .i64)))),m 5 9] [8,9]) (.seq (.region [m 10 5,ck 11 .neq 10 0] [10]) (.seq (.cond (.t 11) (.seq (.region [m 12 5,m 4 12] [2,3,5,11,12]) (.ret)) (kl [5,11])) (.seq (.region [fa 13 0 3,li 14 13,ck 15 .lss 14 0,m 16 15,.fb 16 false [qI 17 (.bR 0 (.t 3)),qI 18 (.load (.one (.int .i64)) (.t 17)),qI 19 (.cmp .gtr .i64 (.t 18) (ci 256))],oI 20 (.pick (.t 16) (.c (.bool true)) (.t 19)),m 21 20,.fb 21 false [qI 22 (.bR 1 (.t 3)),qI 23 (.load (.one .slice) (.t 22)),qI 24 (.len (.t 23)),qI 25 (.cmp .gtr .i64 (.t 24) (ci 256))],oI 26 (.pick (.t 21) (.c (.bool true)) (.t 25))] [13,14,15,16,17,18,19,20,21,22,23,24,25]) (.seq (.cond (.t 26) (.seq (.region [mc 4 3] [2,3,26]) (.ret)) (kl [26])) (.region [mc 6 0] []))))))) cn
def akw:ab:=aen QG
def aeo(aI aH:Int)(aJ:Sl)(nv:Int)(nw:Sl):List Value:=.agg ⟨[vi aI,vi aH,vs aJ]⟩::.agg ⟨[vi nv,vs nw]⟩::un 58 []
def su:aB:=⟨60,akw,[.tmp 4]⟩
theorem QH:okF Tryz.prog 99 su=true:=by kernel_rfl
def yb{R:Type}(C:Callee)(fl k:Nat)(kr:ag R):av R:=fun h=>kr 0 h
theorem NL:(cp Vn (ce C fl k vX K))=yb C fl k (cp oC (K .ret)):=by kernel_rfl
def ix{R:Type}(C:Callee)(fl k:Nat)(kn:oD R)(e2:av R)(kr:ag R):oD R:=fun t2 t3 t7 h=>bC h t3.block (t3.off+1) fun s1=>if decide (t7<((s1.l:Nat):Int))=true then aF .i64 h t2.block t2.off fun n2=>aF .i64 h t2.block (t2.off+1) fun n3=>bC h t2.block (t2.off+1+1) fun s4=>bC h t3.block (t3.off+1) fun s5=>idx 1 s5 t7 fun p6=>bC h p6.block p6.off fun s7=>aD C fl fn.ir [.agg ⟨[vi n2,vi n3,vs s4]⟩,vs s7] h fun v8 h9=>asInt .i64 v8 fun tO=>if (tO !=0)=true then kr tO h9 else kn t2 t3 (bM (t7+1)) h9 else e2 h
theorem NM:(cp I2 (ce C fl k vY K))=ix C fl k (cp I2 (K .normal)) (cp Vn (K (.exit 2))) (cp oC (K .ret)):=by kernel_rfl
def iy(kn:av R)(kr:ag R):Nat→oD R
 |0=>fun _ _ _ _=>none
 |m+1=>ix C fl k (iy kn kr m) kn kr
theorem By:∀m,(cp I2 (aQ m (bK C fl k vY 2 K)))=iy C fl k (cp Vn (K .normal)) (cp oC (K .ret)) m
 |0=>by kernel_rfl
 |m+1=>mL (NM C fl k _) (ak (fun L=>ix C fl k L _ _) (By m))
def CY(kr:ag R):oD R:=iy C fl k (yb C fl k kr) kr k
theorem Sf:(cp I2 (ce C fl k AJ K))=CY C fl k (cp oC (K .ret)):=(pA (mM (By C fl k (bT C fl k vX K)))).trans (ak (fun L=>iy C fl k L _ k) (py (NL C fl k K)))
def AK{R:Type}(C:Callee)(fl k:Nat)(kx:oD R)(kr:ag R):I3 R:=fun t2 t3 h=>kx t2 t3 0 h
def D9(kr:ag R):I3 R:=AK C fl k (CY C fl k kr) kr
theorem YR(cn:ab):(cp OZ (ce C fl k (Mo cn) K))=AK C fl k (cp I2 (ce C fl k cn K)) (cp oC (K .ret)):=by kernel_rfl
theorem YS:(cp OZ (ce C fl k Gs K))=D9 C fl k (cp oC (K .ret)):=(YR C fl k K AJ).trans (ak (fun L0=>AK C fl k L0 _) (Sf C fl k K))
def qw{R:Type}(C:Callee)(fl k:Nat)(kn:oD R)(e0:I3 R)(kr:ag R):oD R:=fun t2 t3 t6 h=>bC h t3.block (t3.off+1) fun Ks=>if decide (t6<((Ks.l:Nat):Int))=true then bC h t3.block (t3.off+1) fun s12=>idx 1 s12 t6 fun p13=>bC h p13.block p13.off fun Xc=>aF .i64 h t3.block t3.off fun n15=>if (((Xc.l:Nat):Int) !=n15)=true then kr 3 h else kn t2 t3 (bM (t6+1)) h else e0 t2 t3 h
theorem YT:(cp I4 (ce C fl k Gt K))=qw C fl k (cp I4 (K .normal)) (cp OZ (K (.exit 0))) (cp oC (K .ret)):=by kernel_rfl
def yU(kn:I3 R)(kr:ag R):Nat→oD R
 |0=>fun _ _ _ _=>none
 |m+1=>qw C fl k (yU kn kr m) kn kr
theorem Mp:∀m,(cp I4 (aQ m (bK C fl k Gt 0 K)))=yU C fl k (cp OZ (K .normal)) (cp oC (K .ret)) m
 |0=>by kernel_rfl
 |m+1=>mL (YT C fl k _) (ak (fun L=>qw C fl k L _ _) (Mp m))
def I5(kr:ag R):oD R:=yU C fl k (D9 C fl k kr) kr k
theorem agE:(cp I4 (ce C fl k QG K))=I5 C fl k (cp oC (K .ret)):=(pA (mM (Mp C fl k (bT C fl k Gs K)))).trans (ak (fun L=>yU C fl k L _ k) (py (YS C fl k K)))
def QI{R:Type}(C:Callee)(fl k:Nat)(kx:oD R)(kr:ag R):cy R:=fun aI aH aJ nv nw h=>cU h [vi aI,vi aH,vs aJ] fun b16 HK=>cU HK [vi nv,vs nw] fun b18 HL=>aF .i64 HL b16 0 fun n20=>aF .i64 HL b16 1 fun n21=>bC HL b16 2 fun s22=>aD C fl fn.gP [.agg ⟨[vi n20,vi n21,vs s22]⟩] HL fun v23 Ab=>asInt .i64 v23 fun n25=>if (n25 !=0)=true then kr n25 Ab else aF .i64 Ab b18 0 fun Kv=>if decide (Kv<0)=false then aF .i64 Ab b18 0 fun n27=>if decide (n27>256)=false then bC Ab b18 1 fun s28=>if decide (((s28.l:Nat):Int)>256)=true then kr 3 Ab else kx ⟨b16,0,none⟩ ⟨b18,0,none⟩ 0 Ab else kr 3 Ab else kr 3 Ab
def aep(kr:ag R):cy R:=QI C fl k (I5 C fl k kr) kr
theorem apP(cn:ab):(cp aeo (ce C fl k (aen cn) K))=QI C fl k (cp I4 (ce C fl k cn K)) (cp oC (K .ret)):=by kernel_rfl
theorem apQ:(cp aeo (ce C fl k akw K))=aep C fl k (cp oC (K .ret)):=(apP C fl k K QG).trans (ak (fun L0=>QI C fl k L0 _) (agE C fl k K))
def gR(ax ay:Int)(aA:Sl)(gm:Int)(gk:Sl)(h:AH):Option (Value×AH):=aep C fl k (fun y4 q=>some (vi y4,q)) ax ay aA gm gk h
theorem NN(ax ay:Int)(aA:Sl)(gm:Int)(gk:Sl)(h):bk C fl k su [.agg ⟨[vi ax,vi ay,vs aA]⟩,.agg ⟨[vi gm,vs gk]⟩] h=gR C fl k ax ay aA gm gk h:=vK (apQ C fl k (aE _)) ax ay aA gm gk (by kernel_rfl) (by kernel_rfl)
def iU:aB:=⟨105,.seq (.region [oI 4 (.mv (.c (.bool false)))] [4]) (.seq (.seq (.region [m 13 0,oI 14 (.cg (.t 13)),fa 15 1 14,ls 16 15,ln 17 16,mc 18 0] [13,14,15]) (.block 0 (.loop (.seq (.region [cm 19 .lss 18 17] []) (.seq (.cond (.t 19) (kl [19]) (.seq (kl [16,17,18,19]) (.exit 0))) (.seq (.block 1 (.seq (.region [m 20 18,ia 21 1 16 18,ls 22 21,m 5 20,m 6 22] [20,21,22]) (.seq (.region [m 23 1,m 24 0,oI 25 (.cg (.t 24)),fa 26 2 25,ls 27 26,m 28 5,ia 29 1 27 28,li 30 29,ia 31 1 23 30,li 32 31,m 7 32] [5,23,24,25,26,27,28,29,30,31,32]) (.seq (.region [m 33 7,ck 34 .neq 33 0] [33]) (.cond (.t 34) (.seq (.region [m 35 6,ln 36 35,mc 37 0] [6,34]) (.block 2 (.loop (.seq (.region [cm 38 .lss 37 36] []) (.seq (.cond (.t 38) (kl [38]) (.seq (kl [7,35,36,37,38]) (.exit 2))) (.seq (.block 3 (.seq (.region [m 39 37,ia 40 1 35 37,li 41 40,m 8 39,m 9 41] [39,40,41]) (.region [m 42 1,m 43 8,m 44 0,oI 45 (.cg (.t 44)),fa 46 0 45,oJ 47 (.load (.one .jW) (.t 46)),m 48 1,m 49 8,ia 50 1 48 49,lj 51 50,m 52 0,oI 53 (.cg (.t 52)),fa 54 0 53,oJ 55 (.load (.one .jW) (.t 54)),m 56 7,m 57 9,oJ 58 (.call (.f 120) [.t 55,.t 56,.t 57] (.one (.one (.int .i64)))),oI 59 (.call (.f 119) [.t 47,.t 51,.t 58] (.one (.one (.int .i64)))),ia 60 1 42 43,sI 1 60 59] [8,9,42,43,44,45,46,47,48,49,50,51,52,53,54,55,56,57,58,59,60]))) (.region [bc 61 .add 37 1,m 37 61] [61]))))))) (kl [6,7,34])))))) (.region [bc 62 .add 18 1,m 18 62] [62]))))))) (.seq (.region [m 63 1,oI 64 (.call (.f 39) [.t 63,.f 138] (.one (.one (.int .i64)))),m 10 64] [63,64]) (.seq (.seq (.region [m 65 10,ck 66 .lss 65 0] [65]) (.cond (.t 66) (.seq (.region [oI 4 (.mv (.c (.bool false)))] [0,1,10,66]) (.ret)) (kl [66]))) (.seq (.region [m 68 0,oI 69 (.cg (.t 68)),fa 70 0 69,oJ 71 (.load (.one .jW) (.t 70)),m 72 1,m 73 10,ia 74 1 72 73,lj 75 74,oI 76 (.call (.f 139) [.t 71,.t 75] (.jn [.one (.int .i64),.one (.int .i64)])),m 67 76,ex 77 67 0,ex 78 67 1,m 11 77,m 12 78] [12,67,68,69,70,71,72,73,74,75,76,77,78]) (.seq (.region [m 79 0,m 80 0,oI 81 (.cg (.t 80)),fa 82 1 81,lt 83 82,m 84 0,oI 85 (.cg (.t 84)),fa 86 0 85,oJ 87 (.load (.one .jW) (.t 86)),m 88 11,m 89 1,oJ 90 (.call (.f 140) [.t 87,.t 88,.t 89] (.one (.one .slice))),oJ 91 (.aO 1 [.slice none 0 0] [(0,1,.t 90)]),oI 92 (.append 1 24 (.t 83) (.t 91)),oI 93 (.cg (.t 79)),fa 94 1 93,sI 1 94 92] [1,11,79,80,81,82,83,84,85,86,87,88,89,90,91,92,93,94]) (.seq (.region [m 95 0,m 96 0,oI 97 (.cg (.t 96)),fa 98 2 97,ls 99 98,m 100 10,oI 101 (.aO 1 [.int .i64 0] [(0,1,.t 100)]),oI 102 (.append 1 8 (.t 99) (.t 101)),oI 103 (.cg (.t 95)),fa 104 2 103,sI 1 104 102] [0,10,95,96,97,98,99,100,101,102,103,104]) (.seq (.region [oI 4 (.mv (.c (.bool true)))] []) (.ret)))))))),[.tmp 4]⟩
theorem CZ:okF Tryz.prog 100 iU=true:=by kernel_rfl
def lO:aB:=⟨29,.seq (.region [oI 2 (.box (.t 0)),oI 4 (.mv (.c (.slice none 0 0)))] [0,4]) (.seq (.region [fa 8 4 2,ls 9 8,ln 10 9,oI 11 (.cH 8 [.int .i64 0] (.t 10) (.t 10)),m 5 11] [8,9,10,11]) (.seq (.seq (.region [fa 12 4 2,ls 13 12,ln 14 13,mc 15 0] [2,12]) (.block 0 (.loop (.seq (.region [cm 16 .lss 15 14] []) (.seq (.cond (.t 16) (kl [16]) (.seq (kl [1,13,14,15,16]) (.exit 0))) (.seq (.block 1 (.seq (.region [m 17 15,ia 18 1 13 15,ls 19 18,m 6 17,m 7 19] [17,18,19]) (.region [m 20 5,m 21 6,m 22 7,m 23 1,ia 24 1 22 23,li 25 24,ia 26 1 20 21,sI 1 26 25] [6,7,20,21,22,23,24,25,26]))) (.region [bc 27 .add 15 1,m 15 27] [27]))))))) (.seq (.region [m 28 5,m 4 28] [5,28]) (.ret)))),[.tmp 4]⟩
theorem I6:okF Tryz.prog 101 lO=true:=by kernel_rfl
def Ea(t4:OA)(t5:Int):List Value:=un 4 (vn t4::vi t5::un 26 [])
def Gu:ab:=.seq (.region [m 31 6,m 4 31,mc 5 0] [6,31]) (.ret)
def Vo(t6:OA):List Value:=un 6 (vn t6::un 25 [])
def I7(t6:OA)(t18:Sl)(t19 t20:Int):List Value:=un 6 (vn t6::un 11 (t18.v::vi t19::vi t20::un 11 []))
def Gv:ab:=.seq (.region [cm 21 .lss 20 19] []) (.seq (.cond (.t 21) (kl [21]) (.seq (kl [18,19,20,21]) (.exit 0))) (.seq (.block 1 (.seq (.region [ia 22 2 18 20,oI 23 (.load (.agg [.int .i64,.slice]) (.t 22)),oI 9 (.alloc [.int .i64 0,.slice none 0 0]),sI 2 9 23] [22,23]) (.seq (.region [m 24 6,oI 25 (.load (.agg [.int .i64,.slice]) (.t 9)),oI 26 (.call (.f 141) [.t 24,.t 25] (.one (.one (.int .i64)))),m 10 26] [9,24,25,26]) (.seq (.region [m 27 10,ck 28 .neq 27 0] [27]) (.cond (.t 28) (.seq (.region [m 29 10,oI 4 (.mv (.c (.pointer none))),m 5 29] [6,10,18,19,20,28,29]) (.ret)) (kl [10,28])))))) (.region [bc 30 .add 20 1,m 20 30] [30])))
def QJ:ab:=.seq (.block 0 (.loop Gv)) Gu
def aeq(cn:ab):ab:=.seq (.seq (.region [oI 2 (.box (.t 0)),oI 4 (.mv (.c (.pointer none))),mc 5 0] [0,4,5]) (.seq (.region [oI 12 (.load (.agg [.int .i64,.int .i64,.slice]) (.t 2)),oI 13 (.call (.f 75) [.t 12] (.jn [.one .jW,.one (.int .i64)])),m 11 13,ex 14 11 0,ex 15 11 1,m 6 14,m 7 15] [2,11,12,13,14,15]) (.seq (.region [m 16 7,ck 17 .neq 16 0] [7,16]) (.seq (.cond (.t 17) (.seq (.region [oI 4 (.mv (.c (.pointer none))),mc 5 1] [1,6,17]) (.ret)) (kl [17])) (.region [m 18 1,ln 19 18,mc 20 0] [1]))))) cn
def akx:ab:=aeq QJ
def aer(aI aH:Int)(aJ t1:Sl):List Value:=.agg ⟨[vi aI,vi aH,vs aJ]⟩::t1.v::un 30 []
def sx:aB:=⟨32,akx,[.tmp 4,.tmp 5]⟩
theorem QK:okF Tryz.prog 102 sx=true:=by kernel_rfl
def Eb{R:Type}(C:Callee)(fl k:Nat)(kr:fg R):xA R:=fun t6 h=>kr t6 0 h
theorem YU:(cp Vo (ce C fl k Gu K))=Eb C fl k (cp Ea (K .ret)):=by kernel_rfl
def qx{R:Type}(C:Callee)(fl k:Nat)(kn:dW R)(e0:xA R)(kr:fg R):dW R:=fun t6 t18 t19 t20 h=>if decide (t20<t19)=true then idx 2 t18 t20 fun p1=>aF .i64 h p1.block p1.off fun n2=>bC h p1.block (p1.off+1) fun s3=>cU h [.int .i64 0,.slice none 0 0] fun b4 h5=>st fl h5 ⟨b4,0,none⟩ [vi n2,vs s3] fun h6=>aF .i64 h6 b4 0 fun n7=>bC h6 b4 1 fun s8=>aD C fl fn.lz [.pointer t6,.agg ⟨[vi n7,vs s8]⟩] h6 fun v9 FC=>asInt .i64 v9 fun EA=>if (EA !=0)=true then kr none EA FC else kn t6 t18 t19 (bM (t20+1)) FC else e0 t6 h
theorem YV:(cp I7 (ce C fl k Gv K))=qx C fl k (cp I7 (K .normal)) (cp Vo (K (.exit 0))) (cp Ea (K .ret)):=by kernel_rfl
def vo(kn:xA R)(kr:fg R):Nat→dW R
 |0=>fun _ _ _ _ _=>none
 |m+1=>qx C fl k (vo kn kr m) kn kr
theorem Mq:∀m,(cp I7 (aQ m (bK C fl k Gv 0 K)))=vo C fl k (cp Vo (K .normal)) (cp Ea (K .ret)) m
 |0=>by kernel_rfl
 |m+1=>mL (YV C fl k _) (ak (fun L=>qx C fl k L _ _) (Mq m))
def Vp(kr:fg R):dW R:=vo C fl k (Eb C fl k kr) kr k
theorem agF:(cp I7 (ce C fl k QJ K))=Vp C fl k (cp Ea (K .ret)):=(pA (mM (Mq C fl k (bT C fl k Gu K)))).trans (ak (fun L=>vo C fl k L _ k) (py (YU C fl k K)))
def QL{R:Type}(C:Callee)(fl k:Nat)(kx:dW R)(kr:fg R):xy R:=fun aI aH aJ t1 h=>cU h [vi aI,vi aH,vs aJ] fun b12 tN=>aF .i64 tN b12 0 fun BS=>aF .i64 tN b12 1 fun n15=>bC tN b12 2 fun Xg=>aD C fl fn.eK [.agg ⟨[vi BS,vi n15,vs Xg]⟩] tN fun v17 OE=>bj v17 fun l19=>aL l19 fun v20 l21=>fE v20 fun p22=>aL l21 fun v23 l24=>asInt .i64 v23 fun n25=>ch l24 (if (n25 !=0)=true then kr none 1 OE else kx p22 t1 ((t1.l:Nat):Int) 0 OE)
def aes(kr:fg R):xy R:=QL C fl k (Vp C fl k kr) kr
theorem apR(cn:ab):(cp aer (ce C fl k (aeq cn) K))=QL C fl k (cp I7 (ce C fl k cn K)) (cp Ea (K .ret)):=by kernel_rfl
theorem apS:(cp aer (ce C fl k akx K))=aes C fl k (cp Ea (K .ret)):=(apR C fl k K QJ).trans (ak (fun L0=>QL C fl k L0 _) (agF C fl k K))
def dG(ax ay:Int)(aA p1:Sl)(h:AH):Option (Value×AH):=aes C fl k (fun y4 y5 q=>some (.tuple ⟨[.pointer y4,vi y5]⟩,q)) ax ay aA p1 h
theorem Bz(ax ay:Int)(aA p1:Sl)(h):bk C fl k sx [.agg ⟨[vi ax,vi ay,vs aA]⟩,vs p1] h=dG C fl k ax ay aA p1 h:=KP (apS C fl k (aE _)) ax ay aA p1 (by kernel_rfl) (by kernel_rfl)
def apT(t6 t7:Sl):List Value:=un 6 (t6.v::t7.v::un 19 [])
def aky:ab:=.seq (.region [oI 6 (.mv (.c (.slice none 0 0))),oI 7 (.mv (.c (.slice none 0 0)))] [6,7]) (.seq (.region [m 11 1,oI 12 (.call (.f 142) [.t 11] (.one (.one .slice))),m 8 12] [1,11,12]) (.seq (.region [m 14 0,m 15 8,m 16 2,oI 17 (.call (.f 143) [.t 14,.t 15,.t 16,.c (.slice none 0 0)] (.jn [.one .slice,.one (.int .i64)])),m 13 17,ex 18 13 0,ex 19 13 1,m 9 18,m 10 19] [0,2,10,13,14,15,16,17,18,19]) (.seq (.region [m 20 8,m 21 9,ln 22 21,m 23 9,ln 24 23,oI 25 (.slice 1 (.t 20) none (some (.t 22)) (some (.t 24))),m 26 9,m 6 25,m 7 26] [8,9,20,21,22,23,24,25,26]) (.ret))))
def apU(t0:OA)(t1:Sl)(t2:Int):List Value:=vn t0::t1.v::vi t2::un 24 []
def oE:aB:=⟨27,aky,[.tmp 6,.tmp 7]⟩
theorem NO:okF Tryz.prog 103 oE=true:=by kernel_rfl
def akz{R:Type}(C:Callee)(fl k:Nat)(kr:dd R):OY R:=fun t0 t1 t2 h=>aD C fl fn.lA [vs t1] h fun v1 h2=>bB v1 fun s3=>aD C fl fn.fR [.pointer t0,vs s3,vi t2,.slice none 0 0] h2 fun v4 h5=>bj v4 fun l6=>aL l6 fun v7 l8=>bB v7 fun s9=>aL l8 fun v10 l11=>asInt .i64 v10 fun ED=>ch l11 (sub 1 s3 none (some ((s9.l:Nat):Int)) (some ((s9.l:Nat):Int)) fun s13=>kr s13 s9 h5)
theorem apV:(cp apU (ce C fl k aky K))=akz C fl k (cp apT (K .ret)):=by kernel_rfl
def lx(p0:OA)(p1:Sl)(p2:Int)(h:AH):Option (Value×AH):=akz C fl k (fun y6 y7 q=>some (.tuple ⟨[vs y6,vs y7]⟩,q)) p0 p1 p2 h
theorem yV(p0:OA)(p1:Sl)(p2:Int)(h):bk C fl k oE [.pointer p0,vs p1,vi p2] h=lx C fl k p0 p1 p2 h:=yI (apV C fl k (aE _)) p0 p1 p2 (by kernel_rfl) (by kernel_rfl)
def O0(t4:Int):List Value:=un 4 (vi t4::un 45 [])
def Gw:ab:=.seq (.region [m 49 5,m 4 49] [5,49]) (.ret)
def Vq(t5:Int):List Value:=un 5 (vi t5::un 44 [])
abbrev I8(R:Type):=OA→Int→Int→Int→AH→Option R
def I9(t0:OA)(t1 t5 t6:Int):List Value:=vn t0::vi t1::un 3 (vi t5::vi t6::un 43 [])
def Gx:ab:=.seq (.region [m 10 1,ck 11 .gtr 10 0] [10]) (.seq (.cond (.t 11) (kl [11]) (.seq (kl [0,1,6,11]) (.exit 0))) (.block 1 (.seq (.region [m 12 5,m 13 0,oI 14 (.cg (.t 13)),fa 15 0 14,fa 16 0 15,lj 17 16,m 18 1,m 19 0,oI 20 (.cg (.t 19)),fa 21 0 20,fa 22 0 21,lj 23 22,bb 24 .rem 18 23,bb 25 .sub 17 24,m 26 0,oI 27 (.cg (.t 26)),fa 28 0 27,fa 29 0 28,lj 30 29,bb 31 .rem 25 30,m 32 6,bb 33 .mul 31 32,bb 34 .add 12 33,m 5 34] [12,13,14,15,16,17,18,19,20,21,22,23,24,25,26,27,28,29,30,31,32,33,34]) (.seq (.region [m 35 6,m 36 0,oI 37 (.cg (.t 36)),fa 38 0 37,fa 39 0 38,li 40 39,bb 41 .mul 35 40,m 6 41] [35,36,37,38,39,40,41]) (.region [m 42 1,m 43 0,oI 44 (.cg (.t 43)),fa 45 0 44,fa 46 0 45,li 47 46,bb 48 .quo 42 47,m 1 48] [42,43,44,45,46,47,48])))))
def QM:ab:=.seq (.block 0 (.loop Gx)) Gw
def aet(cn:ab):ab:=.seq (.seq (.region [mc 4 0] [4]) (.seq (.region [m 7 0,m 8 1,oI 9 (.call (.f 144) [.t 7,.t 8] (.one (.one (.int .i64)))),m 1 9] [7,8,9]) (.region [mc 5 0,mc 6 1] []))) cn
def akA:ab:=aet QM
def aeu(t0:OA)(t1:Int):List Value:=vn t0::vi t1::un 48 []
def oF:aB:=⟨50,akA,[.tmp 4]⟩
theorem NP:okF Tryz.prog 104 oF=true:=by kernel_rfl
def K7{R:Type}(C:Callee)(fl k:Nat)(kr:ag R):ag R:=fun t5 h=>kr t5 h
theorem YW:(cp Vq (ce C fl k Gw K))=K7 C fl k (cp O0 (K .ret)):=by kernel_rfl
def qy{R:Type}(C:Callee)(fl k:Nat)(kn:I8 R)(e0:ag R):I8 R:=fun t0 t1 t5 t6 h=>if decide (t1>0)=true then cT (.pointer t0) fun p1=>aF .i64 h p1.block p1.off fun n2=>cT (.pointer t0) fun p3=>aF .i64 h p3.block p3.off fun n4=>iZ .rem .i64 t1 n4 fun n5=>cT (.pointer t0) fun p6=>aF .i64 h p6.block p6.off fun n7=>iZ .rem .i64 (bM (n2-n5)) n7 fun n8=>cT (.pointer t0) fun p9=>aF .i64 h p9.block p9.off fun tO=>cT (.pointer t0) fun p11=>aF .i64 h p11.block p11.off fun ED=>iZ .quo .i64 t1 ED fun DA=>kn t0 DA (bM (t5+(bM (n8*t6)))) (bM (t6*tO)) h else e0 t5 h
theorem YX:(cp I9 (ce C fl k Gx K))=qy C fl k (cp I9 (K .normal)) (cp Vq (K (.exit 0))):=by kernel_rfl
def vq(kn:ag R):Nat→I8 R
 |0=>fun _ _ _ _ _=>none
 |m+1=>qy C fl k (vq kn m) kn
theorem Mr:∀m,(cp I9 (aQ m (bK C fl k Gx 0 K)))=vq C fl k (cp Vq (K .normal)) m
 |0=>by kernel_rfl
 |m+1=>mL (YX C fl k _) (ak (fun L=>qy C fl k L _) (Mr m))
def Vr(kr:ag R):I8 R:=vq C fl k (K7 C fl k kr) k
theorem agG:(cp I9 (ce C fl k QM K))=Vr C fl k (cp O0 (K .ret)):=(pA (mM (Mr C fl k (bT C fl k Gw K)))).trans (ak (fun L=>vq C fl k L k) (py (YW C fl k K)))
def Vs{R:Type}(C:Callee)(fl k:Nat)(kx:I8 R)(kr:ag R):fg R:=fun t0 t1 h=>aD C fl fn.eX [.pointer t0,vi t1] h fun v14 EB=>asInt .i64 v14 fun Kr=>kx t0 Kr 0 1 EB
def akB(kr:ag R):fg R:=Vs C fl k (Vr C fl k kr) kr
theorem apW(cn:ab):(cp aeu (ce C fl k (aet cn) K))=Vs C fl k (cp I9 (ce C fl k cn K)) (cp O0 (K .ret)):=by kernel_rfl
theorem apX:(cp aeu (ce C fl k akA K))=akB C fl k (cp O0 (K .ret)):=(apW C fl k K QM).trans (ak (fun L0=>Vs C fl k L0 _) (agG C fl k K))
def fG(p0:OA)(p1:Int)(h:AH):Option (Value×AH):=akB C fl k (fun y4 q=>some (vi y4,q)) p0 p1 h
theorem yW(p0:OA)(p1:Int)(h):bk C fl k oF [.pointer p0,vi p1] h=fG C fl k p0 p1 h:=CG (apX C fl k (aE _)) p0 p1 (by kernel_rfl) (by kernel_rfl)
def apY(t2:Addr):List Value:=un 2 (vp t2::un 5 [])
def akC:ab:=.seq (.region [oI 1 (.box (.t 0)),oI 2 (.alloc [.int .i64 0,.int .i64 0,.slice none 0 0])] [0]) (.seq (.region [fa 3 2 1,ls 4 3,oI 5 (.call (.f 118) [.t 4] (.one (.one .slice))),fa 6 2 1,sI 1 6 5] [3,4,5,6]) (.seq (.region [oI 7 (.load (.agg [.int .i64,.int .i64,.slice]) (.t 1)),sI 3 2 7] [1,7]) (.ret)))
def apZ(aI aH:Int)(aJ:Sl):List Value:=.agg ⟨[vi aI,vi aH,vs aJ]⟩::un 7 []
def AL:aB:=⟨8,akC,[.cell 2 (.agg [.int .i64,.int .i64,.slice])]⟩
theorem YY:okF Tryz.prog 105 AL=true:=by kernel_rfl
def akD{R:Type}(C:Callee)(fl k:Nat)(kr:xx R):jD R:=fun aI aH aJ h=>cU h [vi aI,vi aH,vs aJ] fun b1 h2=>cU h2 [.int .i64 0,.int .i64 0,.slice none 0 0] fun b3 h4=>bC h4 b1 2 fun s5=>aD C fl fn.dR [vs s5] h4 fun v6 h7=>bB v6 fun s8=>st fl h7 ⟨b1,2,none⟩ [vs s8] fun h9=>aF .i64 h9 b1 0 fun tO=>aF .i64 h9 b1 1 fun EA=>bC h9 b1 2 fun s12=>st fl h9 ⟨b3,0,none⟩ [vi tO,vi EA,vs s12] fun tN=>kr ⟨b3,0,none⟩ tN
theorem ap0:(cp apZ (ce C fl k akC K))=akD C fl k (cp apY (K .ret)):=by kernel_rfl
def yG(ax ay:Int)(aA:Sl)(h:AH):Option (Value×AH):=akD C fl k (fun y2 q=>aF .i64 q y2.block y2.off fun BS=>aF .i64 q y2.block (y2.off+1) fun n15=>bC q y2.block (y2.off+1+1) fun Xg=>some (.agg ⟨[vi BS,vi n15,vs Xg]⟩,q)) ax ay aA h
theorem Ja(ax ay:Int)(aA:Sl)(h):bk C fl k AL [.agg ⟨[vi ax,vi ay,vs aA]⟩] h=yG C fl k ax ay aA h:=yI (ap0 C fl k (aE _)) ax ay aA (by kernel_rfl) (by kernel_rfl)
def ap1(t4:Bool):List Value:=un 4 (.bool t4::un 8 [])
def akE:ab:=.seq (.region [oI 2 (.box (.t 0)),oI 4 (.mv (.c (.bool false)))] [0,4]) (.seq (.region [m 5 1,ck 6 .geq 5 0,m 7 6,.fb 7 true [qI 8 (.mv (.t 1)),qI 9 (.load (.agg [.int .i64,.int .i64,.slice]) (.t 2)),qI 10 (.call (.f 96) [.t 9] (.one (.one (.int .i64)))),qI 11 (.cmp .lss .i64 (.t 8) (.t 10))],oI 12 (.pick (.t 7) (.t 11) (.c (.bool false))),m 4 12] [1,2,5,6,7,8,9,10,11,12]) (.ret))
abbrev ki(R:Type):=Int→Int→Sl→Int→AH→Option R
def ap2(aI aH:Int)(aJ:Sl)(t1:Int):List Value:=.agg ⟨[vi aI,vi aH,vs aJ]⟩::vi t1::un 11 []
def AM:aB:=⟨13,akE,[.tmp 4]⟩
theorem YZ:okF Tryz.prog 106 AM=true:=by kernel_rfl
def aev{R:Type}(C:Callee)(fl k:Nat)(kr:au R):ki R:=fun aI aH aJ t1 h=>cU h [vi aI,vi aH,vs aJ] fun b1 h2=>if decide (t1≥0)=true then aF .i64 h2 b1 0 fun n3=>aF .i64 h2 b1 1 fun n4=>bC h2 b1 2 fun s5=>aD C fl fn.kM [.agg ⟨[vi n3,vi n4,vs s5]⟩] h2 fun v6 h7=>asInt .i64 v6 fun n8=>kr (decide (t1<n8)) h7 else kr false h2
theorem ap3:(cp ap2 (ce C fl k akE K))=aev C fl k (cp ap1 (K .ret)):=by kernel_rfl
def kN(ax ay:Int)(aA:Sl)(p1:Int)(h:AH):Option (Value×AH):=aev C fl k (fun y4 q=>some (.bool y4,q)) ax ay aA p1 h
theorem Vt(ax ay:Int)(aA:Sl)(p1:Int)(h):bk C fl k AM [.agg ⟨[vi ax,vi ay,vs aA]⟩,vi p1] h=kN C fl k ax ay aA p1 h:=KP (ap3 C fl k (aE _)) ax ay aA p1 (by kernel_rfl) (by kernel_rfl)
def ap4(t4:Bool):List Value:=un 4 (.bool t4::un 4 [])
def akF:ab:=.seq (.region [oI 4 (.mv (.c (.bool false)))] [4]) (.seq (.region [m 5 0,m 6 1,oI 7 (.call (.f 39) [.t 5,.t 6] (.one (.one (.int .i64)))),ck 8 .geq 7 0,m 4 8] [0,1,5,6,7,8]) (.ret))
def ap5(t0:Sl)(t1:Value):List Value:=t0.v::t1::un 7 []
def gz:aB:=⟨9,akF,[.tmp 4]⟩
theorem AN:okF Tryz.prog 107 gz=true:=by kernel_rfl
def akG{R:Type}(C:Callee)(fl k:Nat)(kr:au R):Av R:=fun t0 t1 h=>aD C fl fn.bZ [vs t0,t1] h fun v1 h2=>asInt .i64 v1 fun n3=>kr (decide (n3≥0)) h2
theorem ap6:(cp ap5 (ce C fl k akF K))=akG C fl k (cp ap4 (K .ret)):=by kernel_rfl
def fB(p0:Sl)(p1:Value)(h:AH):Option (Value×AH):=akG C fl k (fun y4 q=>some (.bool y4,q)) p0 p1 h
theorem yX(p0:Sl)(p1:Value)(h):bk C fl k gz [vs p0,p1] h=fB C fl k p0 p1 h:=CG (ap6 C fl k (aE _)) p0 p1 (by kernel_rfl) (by kernel_rfl)
def ap7(t3:Bool):List Value:=un 3 (.bool t3::un 4 [])
def akH:ab:=.seq (.region [oI 3 (.mv (.c (.bool false)))] [3]) (.seq (.region [oI 4 (.load (.one .jW) (.t 1)),m 5 0,oI 6 (.call (.f 109) [.t 4,.t 5] (.one (.one .bool))),no 7 6,m 3 7] [0,1,4,5,6,7]) (.ret))
def ap8(t0:Int)(t1:Addr):List Value:=vi t0::vp t1::un 6 []
def sy:aB:=⟨8,akH,[.tmp 3]⟩
theorem QN:okF Tryz.prog 108 sy=true:=by kernel_rfl
def akI{R:Type}(C:Callee)(fl k:Nat)(kr:au R):U1 R:=fun t0 t1 h=>ldN h t1.block t1.off fun p1=>aD C fl fn.js [.pointer p1,vi t0] h fun v2 h3=>asBool v2 fun b4=>kr (!b4) h3
theorem ap9:(cp ap8 (ce C fl k akH K))=akI C fl k (cp ap7 (K .ret)):=by kernel_rfl
def jr(p0:Int)(p1:Addr)(h:AH):Option (Value×AH):=akI C fl k (fun y3 q=>some (.bool y3,q)) p0 p1 h
theorem NQ(p0:Int)(p1:Addr)(h):bk C fl k sy [vi p0,.pointer (some p1)] h=jr C fl k p0 p1 h:=CG (ap9 C fl k (aE _)) p0 p1 (by kernel_rfl) (by kernel_rfl)
def aqa(t4:Bool):List Value:=un 4 (.bool t4::un 10 [])
def akJ:ab:=.seq (.region [oI 4 (.mv (.c (.bool false)))] [4]) (.seq (.region [m 5 1,ck 6 .geq 5 0,m 7 6,.fb 7 true [qI 8 (.mv (.t 1)),qI 9 (.mv (.t 0)),qI 10 (.cg (.t 9)),qI 11 (.bR 3 (.t 10)),qI 12 (.load (.one (.int .i64)) (.t 11)),qI 13 (.cmp .lss .i64 (.t 8) (.t 12))],oI 14 (.pick (.t 7) (.t 13) (.c (.bool false))),m 4 14] [0,1,5,6,7,8,9,10,11,12,13,14]) (.ret))
def aqb(t0:OA)(t1:Int):List Value:=vn t0::vi t1::un 13 []
def sA:aB:=⟨15,akJ,[.tmp 4]⟩
theorem QO:okF Tryz.prog 109 sA=true:=by kernel_rfl
def akK{R:Type}(C:Callee)(fl k:Nat)(kr:au R):fg R:=fun t0 t1 h=>if decide (t1≥0)=true then cT (.pointer t0) fun p1=>aF .i64 h p1.block (p1.off+3) fun n2=>kr (decide (t1<n2)) h else kr false h
theorem aqc:(cp aqb (ce C fl k akJ K))=akK C fl k (cp aqa (K .ret)):=by kernel_rfl
def js(p0:OA)(p1:Int)(h:AH):Option (Value×AH):=akK C fl k (fun y4 q=>some (.bool y4,q)) p0 p1 h
theorem BA(p0:OA)(p1:Int)(h):bk C fl k sA [.pointer p0,vi p1] h=js C fl k p0 p1 h:=CG (aqc C fl k (aE _)) p0 p1 (by kernel_rfl) (by kernel_rfl)
def Ec(t4:Int):List Value:=un 4 (vi t4::un 13 [])
def Gy:ab:=.seq (.region [mc 4 0] []) (.ret)
def Vu:List Value:=un 18 []
def Jb(t0:OA)(t7:Sl)(t8 t9:Int):List Value:=vn t0::un 6 (t7.v::vi t8::vi t9::un 8 [])
def Gz:ab:=.seq (.region [cm 10 .lss 9 8] []) (.seq (.cond (.t 10) (kl [10]) (.seq (kl [0,7,8,9,10]) (.exit 0))) (.seq (.block 1 (.seq (.region [ia 11 1 7 9,li 12 11,m 6 12] [11,12]) (.seq (.region [m 13 0,m 14 6,oI 15 (.call (.f 109) [.t 13,.t 14] (.one (.one .bool))),no 16 15] [6,13,14,15]) (.cond (.t 16) (.seq (.region [mc 4 2] [0,7,8,9,16]) (.ret)) (kl [16]))))) (.region [bc 17 .add 9 1,m 9 17] [17])))
def QP:ab:=.seq (.block 0 (.loop Gz)) Gy
def aew(cn:ab):ab:=.seq (.seq (.region [mc 4 0] [4]) (.region [m 7 1,ln 8 7,mc 9 0] [1])) cn
def akL:ab:=aew QP
abbrev aex(R:Type):=OA→Sl→AH→Option R
def aey(t0:OA)(t1:Sl):List Value:=vn t0::t1.v::un 16 []
def lP:aB:=⟨18,akL,[.tmp 4]⟩
theorem Jc:okF Tryz.prog 110 lP=true:=by kernel_rfl
def K8{R:Type}(C:Callee)(fl k:Nat)(kr:ag R):av R:=fun h=>kr 0 h
theorem Y0:(cp Vu (ce C fl k Gy K))=K8 C fl k (cp Ec (K .ret)):=by kernel_rfl
def qz{R:Type}(C:Callee)(fl k:Nat)(kn:dW R)(e0:av R)(kr:ag R):dW R:=fun t0 t7 t8 t9 h=>if decide (t9<t8)=true then idx 1 t7 t9 fun p1=>aF .i64 h p1.block p1.off fun n2=>aD C fl fn.js [.pointer t0,vi n2] h fun v3 h4=>asBool v3 fun b5=>if (!b5)=true then kr 2 h4 else kn t0 t7 t8 (bM (t9+1)) h4 else e0 h
theorem Y1:(cp Jb (ce C fl k Gz K))=qz C fl k (cp Jb (K .normal)) (cp Vu (K (.exit 0))) (cp Ec (K .ret)):=by kernel_rfl
def yY(kn:av R)(kr:ag R):Nat→dW R
 |0=>fun _ _ _ _ _=>none
 |m+1=>qz C fl k (yY kn kr m) kn kr
theorem Ms:∀m,(cp Jb (aQ m (bK C fl k Gz 0 K)))=yY C fl k (cp Vu (K .normal)) (cp Ec (K .ret)) m
 |0=>by kernel_rfl
 |m+1=>mL (Y1 C fl k _) (ak (fun L=>qz C fl k L _ _) (Ms m))
def Vv(kr:ag R):dW R:=yY C fl k (K8 C fl k kr) kr k
theorem agH:(cp Jb (ce C fl k QP K))=Vv C fl k (cp Ec (K .ret)):=(pA (mM (Ms C fl k (bT C fl k Gy K)))).trans (ak (fun L=>yY C fl k L _ k) (py (Y0 C fl k K)))
def Vw{R:Type}(C:Callee)(fl k:Nat)(kx:dW R)(kr:ag R):aex R:=fun t0 t1 h=>kx t0 t1 ((t1.l:Nat):Int) 0 h
def akM(kr:ag R):aex R:=Vw C fl k (Vv C fl k kr) kr
theorem aqd(cn:ab):(cp aey (ce C fl k (aew cn) K))=Vw C fl k (cp Jb (ce C fl k cn K)) (cp Ec (K .ret)):=by kernel_rfl
theorem aqe:(cp aey (ce C fl k akL K))=akM C fl k (cp Ec (K .ret)):=(aqd C fl k K QP).trans (ak (fun L0=>Vw C fl k L0 _) (agH C fl k K))
def fY(p0:OA)(p1:Sl)(h:AH):Option (Value×AH):=akM C fl k (fun y4 q=>some (vi y4,q)) p0 p1 h
theorem vZ(p0:OA)(p1:Sl)(h):bk C fl k lP [.pointer p0,vs p1] h=fY C fl k p0 p1 h:=CG (aqe C fl k (aE _)) p0 p1 (by kernel_rfl) (by kernel_rfl)
def O1(t8:Sl):List Value:=un 8 (t8.v::un 24 [])
def GA:ab:=.seq (.region [m 32 9,m 8 32] [9,32]) (.ret)
def Jd(t9:Sl):List Value:=un 9 (t9.v::un 23 [])
abbrev sB(R:Type):=OA→Sl→Sl→Sl→Int→Int→AH→Option R
def sC(t0:OA)(t2 t9 t14:Sl)(t15 t16:Int):List Value:=vn t0::un 1 (t2.v::un 6 (t9.v::un 4 (t14.v::vi t15::vi t16::un 16 [])))
def AO:ab:=.region [bc 31 .add 16 1,m 16 31] [31]
def Mt(cn:ab):ab:=.seq (.seq (.region [cm 17 .lss 16 15] []) (.seq (.cond (.t 17) (kl [17]) (.seq (kl [0,2,14,15,16,17]) (.exit 0))) (.block 1 (.seq (.region [m 18 16,ia 19 1 14 16,li 20 19,m 10 18,m 11 20] [18,19,20]) (.seq (.region [m 21 11,ck 22 .neq 21 0] [21]) (.cond (.t 22) (.region [m 23 0,m 24 9,m 25 11,m 26 2,m 27 10,ia 28 1 26 27,ls 29 28,oI 30 (.call (.f 145) [.t 23,.t 24,.t 25,.t 29] (.jn []))] [10,11,22,23,24,25,26,27,28,29,30]) (kl [10,11,22]))))))) cn
def GB:ab:=Mt AO
def QQ:ab:=.seq (.block 0 (.loop GB)) GA
def aez(cn:ab):ab:=.seq (.seq (.region [oI 8 (.mv (.c (.slice none 0 0)))] [8]) (.seq (.region [m 12 3,oI 13 (.cH 8 [.int .i64 0] (.t 12) (.t 12)),m 9 13] [3,12,13]) (.region [m 14 1,ln 15 14,mc 16 0] [1]))) cn
def akN:ab:=aez QQ
abbrev aeA(R:Type):=OA→Sl→Sl→Int→AH→Option R
def aeB(t0:OA)(t1 t2:Sl)(t3:Int):List Value:=vn t0::t1.v::t2.v::vi t3::un 29 []
def uP:aB:=⟨33,akN,[.tmp 8]⟩
theorem Sg:okF Tryz.prog 111 uP=true:=by kernel_rfl
def K9{R:Type}(C:Callee)(fl k:Nat)(kr:an R):an R:=fun t9 h=>kr t9 h
theorem Y2:(cp Jd (ce C fl k GA K))=K9 C fl k (cp O1 (K .ret)):=by kernel_rfl
def xE{R:Type}(C:Callee)(fl k:Nat)(kn:sB R)(e0:an R):sB R:=fun t0 t2 t9 t14 t15 t16 h=>kn t0 t2 t9 t14 t15 (bM (t16+1)) h
theorem Sh:(cp sC (ce C fl k AO K))=xE C fl k (cp sC (K .normal)) (cp Jd (K (.exit 0))):=by kernel_rfl
def wa{R:Type}(C:Callee)(fl k:Nat)(kx:sB R)(kn:sB R)(e0:an R):sB R:=fun t0 t2 t9 t14 t15 t16 h=>if decide (t16<t15)=true then idx 1 t14 t16 fun p1=>aF .i64 h p1.block p1.off fun n2=>if (n2 !=0)=true then idx 1 t2 t16 fun p3=>bC h p3.block p3.off fun s4=>aD C fl fn.m4 [.pointer t0,vs t9,vi n2,vs s4] h fun v5 h6=>bj v5 fun l7=>ch l7 (kx t0 t2 t9 t14 t15 t16 h6) else kx t0 t2 t9 t14 t15 t16 h else e0 t9 h
def qA(kn:sB R)(e0:an R):sB R:=wa C fl k (xE C fl k kn e0) kn e0
theorem Y3(cn:ab):(cp sC (ce C fl k (Mt cn) K))=wa C fl k (cp sC (ce C fl k cn K)) (cp sC (K .normal)) (cp Jd (K (.exit 0))):=by kernel_rfl
theorem Y4:(cp sC (ce C fl k GB K))=qA C fl k (cp sC (K .normal)) (cp Jd (K (.exit 0))):=(Y3 C fl k K AO).trans (ak (fun L0=>wa C fl k L0 _ _) (Sh C fl k K))
def qB(kn:an R):Nat→sB R
 |0=>fun _ _ _ _ _ _ _=>none
 |m+1=>qA C fl k (qB kn m) kn
theorem Mv:∀m,(cp sC (aQ m (bK C fl k GB 0 K)))=qB C fl k (cp Jd (K .normal)) m
 |0=>by kernel_rfl
 |m+1=>mL (Y4 C fl k _) (ak (fun L=>qA C fl k L _) (Mv m))
def Vx(kr:an R):sB R:=qB C fl k (K9 C fl k kr) k
theorem agI:(cp sC (ce C fl k QQ K))=Vx C fl k (cp O1 (K .ret)):=(pA (mM (Mv C fl k (bT C fl k GA K)))).trans (ak (fun L=>qB C fl k L k) (py (Y2 C fl k K)))
def Vy{R:Type}(C:Callee)(fl k:Nat)(kx:sB R)(kr:an R):aeA R:=fun t0 t1 t2 t3 h=>wU 8 [.int .i64 0] t3 t3 h fun s8 h9=>kx t0 t2 s8 t1 ((t1.l:Nat):Int) 0 h9
def akO(kr:an R):aeA R:=Vy C fl k (Vx C fl k kr) kr
theorem aqf(cn:ab):(cp aeB (ce C fl k (aez cn) K))=Vy C fl k (cp sC (ce C fl k cn K)) (cp O1 (K .ret)):=by kernel_rfl
theorem aqg:(cp aeB (ce C fl k akN K))=akO C fl k (cp O1 (K .ret)):=(aqf C fl k K QQ).trans (ak (fun L0=>Vy C fl k L0 _) (agI C fl k K))
def pT(p0:OA)(p1 p2:Sl)(p3:Int)(h:AH):Option (Value×AH):=akO C fl k (fun y8 q=>some (vs y8,q)) p0 p1 p2 p3 h
theorem C0(p0:OA)(p1 p2:Sl)(p3:Int)(h):bk C fl k uP [.pointer p0,vs p1,vs p2,vi p3] h=pT C fl k p0 p1 p2 p3 h:=KP (aqg C fl k (aE _)) p0 p1 p2 p3 (by kernel_rfl) (by kernel_rfl)
def Ed(t2:Bool):List Value:=un 2 (.bool t2::un 43 [])
def GC:ab:=.seq (.region [oI 2 (.mv (.c (.bool true)))] []) (.ret)
def Vz:List Value:=un 46 []
abbrev oG(R:Type):=Addr→Sl→Int→Int→AH→Option R
def Je(t1:Addr)(t31:Sl)(t32 t33:Int):List Value:=un 1 (vp t1::un 29 (t31.v::vi t32::vi t33::un 12 []))
def GD:ab:=.seq (.region [cm 34 .lss 33 32] []) (.seq (.cond (.t 34) (kl [34]) (.seq (kl [1,31,32,33,34]) (.exit 0))) (.seq (.block 1 (.seq (.region [ia 35 1 31 33,li 36 35,m 4 36] [35,36]) (.seq (.region [m 37 4,ck 38 .lss 37 0,m 39 38,.fb 39 false [qI 40 (.mv (.t 4)),qI 41 (.bR 0 (.t 1)),qI 42 (.load (.one (.int .i64)) (.t 41)),qI 43 (.cmp .geq .i64 (.t 40) (.t 42))],oI 44 (.pick (.t 39) (.c (.bool true)) (.t 43))] [4,37,38,39,40,41,42,43]) (.cond (.t 44) (.seq (.region [oI 2 (.mv (.c (.bool false)))] [1,31,32,33,44]) (.ret)) (kl [44]))))) (.region [bc 45 .add 33 1,m 33 45] [45])))
def QR:ab:=.seq (.block 0 (.loop GD)) GC
def aeC(cn:ab):ab:=.seq (.seq (.region [oI 1 (.box (.t 0)),oI 2 (.mv (.c (.bool false)))] [0,2]) (.seq (.region [fa 5 0 1,li 6 5,fa 7 1 1,li 8 7,oI 9 (.call (.f 113) [.t 6,.t 8] (.one (.one (.int .i64)))),ck 10 .eql 9 0,m 11 10,.fb 11 false [qI 12 (.bR 0 (.t 1)),qI 13 (.load (.one (.int .i64)) (.t 12)),qI 14 (.call (.f 146) [.t 13] (.one (.one .bool))),qI 15 (.not (.t 14))],oI 16 (.pick (.t 11) (.c (.bool true)) (.t 15))] [5,6,7,8,9,10,11,12,13,14,15]) (.seq (.cond (.t 16) (.seq (.region [oI 2 (.mv (.c (.bool false)))] [1,16]) (.ret)) (kl [16])) (.seq (.region [fa 17 1 1,li 18 17,ck 19 .eql 18 1] [17,18]) (.seq (.cond (.t 19) (.seq (.region [fa 20 2 1,ls 21 20,ln 22 21,ck 23 .eql 22 0,m 2 23] [1,19,20,21,22,23]) (.ret)) (kl [19])) (.seq (.region [fa 24 2 1,ls 25 24,ln 26 25,fa 27 1 1,li 28 27,cm 29 .neq 26 28] [24,25,26,27,28]) (.seq (.cond (.t 29) (.seq (.region [oI 2 (.mv (.c (.bool false)))] [1,29]) (.ret)) (kl [29])) (.region [fa 30 2 1,ls 31 30,ln 32 31,mc 33 0] [30])))))))) cn
def akP:ab:=aeC QR
def aeD(aI aH:Int)(aJ:Sl):List Value:=.agg ⟨[vi aI,vi aH,vs aJ]⟩::un 45 []
def sD:aB:=⟨46,akP,[.tmp 2]⟩
theorem QS:okF Tryz.prog 112 sD=true:=by kernel_rfl
def La{R:Type}(C:Callee)(fl k:Nat)(kr:au R):av R:=fun h=>kr true h
theorem Y5:(cp Vz (ce C fl k GC K))=La C fl k (cp Ed (K .ret)):=by kernel_rfl
def qC{R:Type}(C:Callee)(fl k:Nat)(kn:oG R)(e0:av R)(kr:au R):oG R:=fun t1 t31 t32 t33 h=>if decide (t33<t32)=true then idx 1 t31 t33 fun p1=>aF .i64 h p1.block p1.off fun n2=>if decide (n2<0)=false then aF .i64 h t1.block t1.off fun n3=>if decide (n2≥n3)=true then kr false h else kn t1 t31 t32 (bM (t33+1)) h else kr false h else e0 h
theorem Y6:(cp Je (ce C fl k GD K))=qC C fl k (cp Je (K .normal)) (cp Vz (K (.exit 0))) (cp Ed (K .ret)):=by kernel_rfl
def yZ(kn:av R)(kr:au R):Nat→oG R
 |0=>fun _ _ _ _ _=>none
 |m+1=>qC C fl k (yZ kn kr m) kn kr
theorem Mw:∀m,(cp Je (aQ m (bK C fl k GD 0 K)))=yZ C fl k (cp Vz (K .normal)) (cp Ed (K .ret)) m
 |0=>by kernel_rfl
 |m+1=>mL (Y6 C fl k _) (ak (fun L=>qC C fl k L _ _) (Mw m))
def VA(kr:au R):oG R:=yZ C fl k (La C fl k kr) kr k
theorem agJ:(cp Je (ce C fl k QR K))=VA C fl k (cp Ed (K .ret)):=(pA (mM (Mw C fl k (bT C fl k GC K)))).trans (ak (fun L=>yZ C fl k L _ k) (py (Y5 C fl k K)))
def VB{R:Type}(C:Callee)(fl k:Nat)(kx:oG R)(kr:au R):jD R:=fun aI aH aJ h=>cU h [vi aI,vi aH,vs aJ] fun b4 h5=>aF .i64 h5 b4 0 fun n6=>aF .i64 h5 b4 1 fun n7=>aD C fl fn.gS [vi n6,vi n7] h5 fun v8 h9=>asInt .i64 v8 fun tO=>if (tO==0)=false then aF .i64 h9 b4 0 fun EA=>aD C fl fn.j4 [vi EA] h9 fun RS tN=>asBool RS fun Ky=>if (!Ky)=true then kr false tN else aF .i64 tN b4 1 fun n15=>if (n15==1)=true then bC tN b4 2 fun Xg=>kr (((Xg.l:Nat):Int)==0) tN else bC tN b4 2 fun s17=>aF .i64 tN b4 1 fun n18=>if (((s17.l:Nat):Int) !=n18)=true then kr false tN else bC tN b4 2 fun s19=>kx ⟨b4,0,none⟩ s19 ((s19.l:Nat):Int) 0 tN else kr false h9
def akQ(kr:au R):jD R:=VB C fl k (VA C fl k kr) kr
theorem aqh(cn:ab):(cp aeD (ce C fl k (aeC cn) K))=VB C fl k (cp Je (ce C fl k cn K)) (cp Ed (K .ret)):=by kernel_rfl
theorem aqi:(cp aeD (ce C fl k akP K))=akQ C fl k (cp Ed (K .ret)):=(aqh C fl k K QR).trans (ak (fun L0=>VB C fl k L0 _) (agJ C fl k K))
def kO(ax ay:Int)(aA:Sl)(h:AH):Option (Value×AH):=akQ C fl k (fun y2 q=>some (.bool y2,q)) ax ay aA h
theorem BB(ax ay:Int)(aA:Sl)(h):bk C fl k sD [.agg ⟨[vi ax,vi ay,vs aA]⟩] h=kO C fl k ax ay aA h:=yI (aqi C fl k (aE _)) ax ay aA (by kernel_rfl) (by kernel_rfl)
def Ee(t4:Int):List Value:=un 4 (vi t4::un 25 [])
def GG:ab:=.seq (.region [m 29 5,m 4 29] [5,29]) (.ret)
def VC(t5:Int):List Value:=un 5 (vi t5::un 24 [])
abbrev Jf(R:Type):=Int→Int→Int→Int→AH→Option R
def Jg(t0 t5 t20 t21:Int):List Value:=vi t0::un 4 (vi t5::un 14 (vi t20::vi t21::un 8 []))
def GH:ab:=.seq (.region [cm 22 .lss 21 20] []) (.seq (.cond (.t 22) (kl [22]) (.seq (kl [0,20,21,22]) (.exit 0))) (.seq (.block 1 (.seq (.region [m 23 5,m 24 0,bb 25 .mul 23 24,m 5 25] [23,24,25]) (.seq (.region [m 26 5,ck 27 .gtr 26 256] [26]) (.cond (.t 27) (.seq (.region [mc 4 0] [0,5,20,21,27]) (.ret)) (kl [27]))))) (.region [bc 28 .add 21 1,m 21 28] [28])))
def QT:ab:=.seq (.block 0 (.loop GH)) GG
def aeE(cn:ab):ab:=.seq (.seq (.region [mc 4 0] [4]) (.seq (.region [m 6 0,ck 7 .lss 6 2,m 8 7,.fb 8 false [qI 9 (.mv (.t 0)),qI 10 (.cmp .gtr .i64 (.t 9) (ci 256))],oI 11 (.pick (.t 8) (.c (.bool true)) (.t 10)),m 12 11,.fb 12 false [qI 13 (.mv (.t 1)),qI 14 (.cmp .lss .i64 (.t 13) (ci 1))],oI 15 (.pick (.t 12) (.c (.bool true)) (.t 14)),m 16 15,.fb 16 false [qI 17 (.mv (.t 1)),qI 18 (.cmp .gtr .i64 (.t 17) (ci 8))],oI 19 (.pick (.t 16) (.c (.bool true)) (.t 18))] [6,7,8,9,10,11,12,13,14,15,16,17,18]) (.seq (.cond (.t 19) (.seq (.region [mc 4 0] [0,1,19]) (.ret)) (kl [19])) (.seq (.region [mc 5 1] []) (.region [m 20 1,mc 21 0] [1]))))) cn
def akR:ab:=aeE QT
def aeF(t0 t1:Int):List Value:=vi t0::vi t1::un 28 []
def sG:aB:=⟨30,akR,[.tmp 4]⟩
theorem QU:okF Tryz.prog 113 sG=true:=by kernel_rfl
def Lb{R:Type}(C:Callee)(fl k:Nat)(kr:ag R):ag R:=fun t5 h=>kr t5 h
theorem Y7:(cp VC (ce C fl k GG K))=Lb C fl k (cp Ee (K .ret)):=by kernel_rfl
def qD{R:Type}(C:Callee)(fl k:Nat)(kn:Jf R)(e0:ag R)(kr:ag R):Jf R:=fun t0 t5 t20 t21 h=>if decide (t21<t20)=true then if decide (bM (t5*t0)>256)=true then kr 0 h else kn t0 (bM (t5*t0)) t20 (bM (t21+1)) h else e0 t5 h
theorem Y8:(cp Jg (ce C fl k GH K))=qD C fl k (cp Jg (K .normal)) (cp VC (K (.exit 0))) (cp Ee (K .ret)):=by kernel_rfl
def za(kn:ag R)(kr:ag R):Nat→Jf R
 |0=>fun _ _ _ _ _=>none
 |m+1=>qD C fl k (za kn kr m) kn kr
theorem My:∀m,(cp Jg (aQ m (bK C fl k GH 0 K)))=za C fl k (cp VC (K .normal)) (cp Ee (K .ret)) m
 |0=>by kernel_rfl
 |m+1=>mL (Y8 C fl k _) (ak (fun L=>qD C fl k L _ _) (My m))
def aeG(kr:ag R):Jf R:=za C fl k (Lb C fl k kr) kr k
theorem agK:(cp Jg (ce C fl k QT K))=aeG C fl k (cp Ee (K .ret)):=(pA (mM (My C fl k (bT C fl k GG K)))).trans (ak (fun L=>za C fl k L _ k) (py (Y7 C fl k K)))
def VD{R:Type}(C:Callee)(fl k:Nat)(kx:Jf R)(kr:ag R):gy R:=fun t0 t1 h=>if decide (t0<2)=false then if decide (t0>256)=false then if decide (t1<1)=false then if decide (t1>8)=true then kr 0 h else kx t0 1 t1 0 h else kr 0 h else kr 0 h else kr 0 h
def akS(kr:ag R):gy R:=VD C fl k (aeG C fl k kr) kr
theorem aqj(cn:ab):(cp aeF (ce C fl k (aeE cn) K))=VD C fl k (cp Jg (ce C fl k cn K)) (cp Ee (K .ret)):=by kernel_rfl
theorem aqk:(cp aeF (ce C fl k akR K))=akS C fl k (cp Ee (K .ret)):=(aqj C fl k K QT).trans (ak (fun L0=>VD C fl k L0 _) (agK C fl k K))
def gS(p0 p1:Int)(h:AH):Option (Value×AH):=akS C fl k (fun y4 q=>some (vi y4,q)) p0 p1 h
theorem BC(p0 p1:Int)(h):bk C fl k sG [vi p0,vi p1] h=gS C fl k p0 p1 h:=CG (aqk C fl k (aE _)) p0 p1 (by kernel_rfl) (by kernel_rfl)
def xF(t4:Sl):List Value:=un 4 (t4.v::un 28 [])
def GI:ab:=.seq (.region [oI 4 (.mv (.c (.slice none 0 0)))] []) (.ret)
def Jh:List Value:=un 33 []
abbrev iV(R:Type):=Int→Addr→Int→AH→Option R
def sH(t1:Int)(t2:Addr)(t5:Int):List Value:=un 1 (vi t1::vp t2::un 2 (vi t5::un 27 []))
def AP:ab:=.region [m 10 5,bc 11 .add 10 1,m 5 11] [10,11]
def Mz(cn:ab):ab:=.seq (.seq (.region [m 7 5,m 8 1,cm 9 .lss 7 8] [7,8]) (.seq (.cond (.t 9) (kl [9]) (.seq (kl [1,2,5,9]) (.exit 0))) (.block 1 (.seq (.region [oI 12 (.load (.agg [.int .i64,.int .i64,.slice]) (.t 2)),m 13 1,m 14 5,oI 15 (.call (.f 147) [.t 12,.t 13,.t 14] (.one (.one .slice))),m 6 15] [12,13,14,15]) (.seq (.region [m 16 6,ln 17 16,m 18 1,bc 19 .sub 18 1,cm 20 .eql 17 19,m 21 20,.fb 21 true [qJ 22 (.load (.agg [.int .i64,.int .i64,.slice]) (.t 2)),qI 23 (.mv (.t 6)),qI 24 (.mv (.t 1)),qI 25 (.bin .sub .i64 (.t 24) (ci 2)),qI 26 (.di 1 (.t 23) (.t 25)),qJ 27 (.load (.one (.int .i64)) (.t 26)),qI 28 (.mv (.t 5)),qI 29 (.call (.f 148) [.t 22,.t 27,.t 28] (.one (.one (.int .i64)))),qI 30 (.cmp .eql .i64 (.t 29) (ci 1))],oI 31 (.pick (.t 21) (.t 30) (.c (.bool false)))] [16,17,18,19,20,21,22,23,24,25,26,27,28,29,30]) (.cond (.t 31) (.seq (.region [m 32 6,m 4 32] [1,2,5,6,31,32]) (.ret)) (kl [6,31]))))))) cn
def GJ:ab:=Mz AP
def QW:ab:=.seq (.block 0 (.loop GJ)) GI
def aeH(cn:ab):ab:=.seq (.seq (.region [oI 2 (.box (.t 0)),oI 4 (.mv (.c (.slice none 0 0)))] [0,4]) (.region [mc 5 1] [])) cn
def akT:ab:=aeH QW
def aeI(aI aH:Int)(aJ:Sl)(t1:Int):List Value:=.agg ⟨[vi aI,vi aH,vs aJ]⟩::vi t1::un 31 []
def kj:aB:=⟨33,akT,[.tmp 4]⟩
theorem GK:okF Tryz.prog 114 kj=true:=by kernel_rfl
def Ef{R:Type}(C:Callee)(fl k:Nat)(kr:an R):av R:=fun h=>kr ⟨none,0,0⟩ h
theorem Y9:(cp Jh (ce C fl k GI K))=Ef C fl k (cp xF (K .ret)):=by kernel_rfl
def tH{R:Type}(C:Callee)(fl k:Nat)(kn:iV R)(e0:av R)(kr:an R):iV R:=fun t1 t2 t5 h=>kn t1 t2 (bM (t5+1)) h
theorem Si:(cp sH (ce C fl k AP K))=tH C fl k (cp sH (K .normal)) (cp Jh (K (.exit 0))) (cp xF (K .ret)):=by kernel_rfl
def wb{R:Type}(C:Callee)(fl k:Nat)(kx:iV R)(kn:iV R)(e0:av R)(kr:an R):iV R:=fun t1 t2 t5 h=>if decide (t5<t1)=true then aF .i64 h t2.block t2.off fun n1=>aF .i64 h t2.block (t2.off+1) fun n2=>bC h t2.block (t2.off+1+1) fun s3=>aD C fl fn.lB [.agg ⟨[vi n1,vi n2,vs s3]⟩,vi t1,vi t5] h fun v4 h5=>bB v4 fun s6=>if (((s6.l:Nat):Int)==bM (t1-1))=true then aF .i64 h5 t2.block t2.off fun n7=>aF .i64 h5 t2.block (t2.off+1) fun n8=>bC h5 t2.block (t2.off+1+1) fun s9=>idx 1 s6 (bM (t1-2)) fun Xw=>aF .i64 h5 Xw.block Xw.off fun EA=>aD C fl fn.eY [.agg ⟨[vi n7,vi n8,vs s9]⟩,vi EA,vi t5] h5 fun RS tN=>asInt .i64 RS fun BS=>if (BS==1)=true then kr s6 tN else kx t1 t2 t5 tN else kx t1 t2 t5 h5 else e0 h
def qE(kn:iV R)(e0:av R)(kr:an R):iV R:=wb C fl k (tH C fl k kn e0 kr) kn e0 kr
theorem Za(cn:ab):(cp sH (ce C fl k (Mz cn) K))=wb C fl k (cp sH (ce C fl k cn K)) (cp sH (K .normal)) (cp Jh (K (.exit 0))) (cp xF (K .ret)):=by kernel_rfl
theorem Zb:(cp sH (ce C fl k GJ K))=qE C fl k (cp sH (K .normal)) (cp Jh (K (.exit 0))) (cp xF (K .ret)):=(Za C fl k K AP).trans (ak (fun L0=>wb C fl k L0 _ _ _) (Si C fl k K))
def jk(kn:av R)(kr:an R):Nat→iV R
 |0=>fun _ _ _ _=>none
 |m+1=>qE C fl k (jk kn kr m) kn kr
theorem MA:∀m,(cp sH (aQ m (bK C fl k GJ 0 K)))=jk C fl k (cp Jh (K .normal)) (cp xF (K .ret)) m
 |0=>by kernel_rfl
 |m+1=>mL (Zb C fl k _) (ak (fun L=>qE C fl k L _ _) (MA m))
def aeJ(kr:an R):iV R:=jk C fl k (Ef C fl k kr) kr k
theorem agL:(cp sH (ce C fl k QW K))=aeJ C fl k (cp xF (K .ret)):=(pA (mM (MA C fl k (bT C fl k GI K)))).trans (ak (fun L=>jk C fl k L _ k) (py (Y9 C fl k K)))
def VE{R:Type}(C:Callee)(fl k:Nat)(kx:iV R)(kr:an R):ki R:=fun aI aH aJ t1 h=>cU h [vi aI,vi aH,vs aJ] fun b15 Kx=>kx t1 ⟨b15,0,none⟩ 1 Kx
def akU(kr:an R):ki R:=VE C fl k (aeJ C fl k kr) kr
theorem aql(cn:ab):(cp aeI (ce C fl k (aeH cn) K))=VE C fl k (cp sH (ce C fl k cn K)) (cp xF (K .ret)):=by kernel_rfl
theorem aqm:(cp aeI (ce C fl k akT K))=akU C fl k (cp xF (K .ret)):=(aql C fl k K QW).trans (ak (fun L0=>VE C fl k L0 _) (agL C fl k K))
def cF(ax ay:Int)(aA:Sl)(p1:Int)(h:AH):Option (Value×AH):=akU C fl k (fun y4 q=>some (vs y4,q)) ax ay aA p1 h
theorem uo(ax ay:Int)(aA:Sl)(p1:Int)(h):bk C fl k kj [.agg ⟨[vi ax,vi ay,vs aA]⟩,vi p1] h=cF C fl k ax ay aA p1 h:=KP (aqm C fl k (aE _)) ax ay aA p1 (by kernel_rfl) (by kernel_rfl)
def Eg(t4:Int):List Value:=un 4 (vi t4::un 14 [])
def GM:ab:=.seq (.region [oI 4 (.mv (ci (-1)))] []) (.ret)
def VF:List Value:=un 19 []
def Ji(t0:Sl)(t1:Value)(t7 t8:Int):List Value:=t0.v::t1::un 5 (vi t7::vi t8::un 10 [])
def GN:ab:=.seq (.region [cm 9 .lss 8 7] []) (.seq (.cond (.t 9) (kl [9]) (.seq (kl [0,1,7,8,9]) (.exit 0))) (.seq (.block 1 (.seq (.region [m 10 8,m 5 10] [10]) (.seq (.region [m 11 1,m 12 0,m 13 5,ia 14 1 12 13,ls 15 14,oI 16 (.call (.t 11) [.t 15] (.one (.one .bool)))] [11,12,13,14,15]) (.cond (.t 16) (.seq (.region [m 17 5,m 4 17] [0,1,5,7,8,16,17]) (.ret)) (kl [5,16]))))) (.region [bc 18 .add 8 1,m 8 18] [18])))
def QX:ab:=.seq (.block 0 (.loop GN)) GM
def aeK(cn:ab):ab:=.seq (.seq (.region [mc 4 0] [4]) (.region [m 6 0,ln 7 6,mc 8 0] [6])) cn
def akV:ab:=aeK QX
def aeL(t0:Sl)(t1:Value):List Value:=t0.v::t1::un 17 []
def fI:aB:=⟨19,akV,[.tmp 4]⟩
theorem zb:okF Tryz.prog 115 fI=true:=by kernel_rfl
def Lc{R:Type}(C:Callee)(fl k:Nat)(kr:ag R):av R:=fun h=>kr (-1) h
theorem Zc:(cp VF (ce C fl k GM K))=Lc C fl k (cp Eg (K .ret)):=by kernel_rfl
def qF{R:Type}(C:Callee)(fl k:Nat)(kn:om R)(e0:av R)(kr:ag R):om R:=fun t0 t1 t7 t8 h=>if decide (t8<t7)=true then idx 1 t0 t8 fun p1=>bC h p1.block p1.off fun s2=>kE C fl t1 [vs s2] h fun v3 h4=>asBool v3 fun b5=>if b5=true then kr t8 h4 else kn t0 t1 t7 (bM (t8+1)) h4 else e0 h
theorem Zd:(cp Ji (ce C fl k GN K))=qF C fl k (cp Ji (K .normal)) (cp VF (K (.exit 0))) (cp Eg (K .ret)):=by kernel_rfl
def zc(kn:av R)(kr:ag R):Nat→om R
 |0=>fun _ _ _ _ _=>none
 |m+1=>qF C fl k (zc kn kr m) kn kr
theorem MB:∀m,(cp Ji (aQ m (bK C fl k GN 0 K)))=zc C fl k (cp VF (K .normal)) (cp Eg (K .ret)) m
 |0=>by kernel_rfl
 |m+1=>mL (Zd C fl k _) (ak (fun L=>qF C fl k L _ _) (MB m))
def VG(kr:ag R):om R:=zc C fl k (Lc C fl k kr) kr k
theorem agM:(cp Ji (ce C fl k QX K))=VG C fl k (cp Eg (K .ret)):=(pA (mM (MB C fl k (bT C fl k GM K)))).trans (ak (fun L=>zc C fl k L _ k) (py (Zc C fl k K)))
def VH{R:Type}(C:Callee)(fl k:Nat)(kx:om R)(kr:ag R):Av R:=fun t0 t1 h=>kx t0 t1 ((t0.l:Nat):Int) 0 h
def akW(kr:ag R):Av R:=VH C fl k (VG C fl k kr) kr
theorem aqn(cn:ab):(cp aeL (ce C fl k (aeK cn) K))=VH C fl k (cp Ji (ce C fl k cn K)) (cp Eg (K .ret)):=by kernel_rfl
theorem aqo:(cp aeL (ce C fl k akV K))=akW C fl k (cp Eg (K .ret)):=(aqn C fl k K QX).trans (ak (fun L0=>VH C fl k L0 _) (agM C fl k K))
def dH(p0:Sl)(p1:Value)(h:AH):Option (Value×AH):=akW C fl k (fun y4 q=>some (vi y4,q)) p0 p1 h
theorem mD(p0:Sl)(p1:Value)(h):bk C fl k fI [vs p0,p1] h=dH C fl k p0 p1 h:=CG (aqo C fl k (aE _)) p0 p1 (by kernel_rfl) (by kernel_rfl)
def aqp(t3:Bool):List Value:=un 3 (.bool t3::un 5 [])
def akX:ab:=.seq (.region [oI 3 (.mv (.c (.bool false)))] [3]) (.seq (.region [m 4 0,li 5 1,ia 6 1 4 5,li 7 6,ck 8 .neq 7 0,m 3 8] [0,1,4,5,6,7,8]) (.ret))
abbrev aqq(R:Type):=Sl→Addr→AH→Option R
def aqr(t0:Sl)(t1:Addr):List Value:=t0.v::vp t1::un 7 []
def gA:aB:=⟨9,akX,[.tmp 3]⟩
theorem AQ:okF Tryz.prog 116 gA=true:=by kernel_rfl
def akY{R:Type}(C:Callee)(fl k:Nat)(kr:au R):aqq R:=fun t0 t1 h=>aF .i64 h t1.block t1.off fun n1=>idx 1 t0 n1 fun p2=>aF .i64 h p2.block p2.off fun n3=>kr (n3 !=0) h
theorem aqs:(cp aqr (ce C fl k akX K))=akY C fl k (cp aqp (K .ret)):=by kernel_rfl
def cK(p0:Sl)(p1:Addr)(h:AH):Option (Value×AH):=akY C fl k (fun y3 q=>some (.bool y3,q)) p0 p1 h
theorem nP(p0:Sl)(p1:Addr)(h):bk C fl k gA [vs p0,.pointer (some p1)] h=cK C fl k p0 p1 h:=CG (aqs C fl k (aE _)) p0 p1 (by kernel_rfl) (by kernel_rfl)
def aqt(t6 t7:Int):List Value:=un 6 (vi t6::vi t7::un 15 [])
def akZ:ab:=.seq (.region [mc 6 0,mc 7 0] [6,7]) (.seq (.region [m 11 0,m 12 2,oI 13 (.call (.f 139) [.t 11,.t 12] (.jn [.one (.int .i64),.one (.int .i64)])),m 10 13,ex 14 10 0,ex 15 10 1,m 8 14,m 9 15] [2,10,11,12,13,14,15]) (.seq (.region [m 16 9,ck 17 .neq 16 0] [16]) (.seq (.cond (.t 17) (.seq (.region [m 18 9,mc 6 0,m 7 18] [0,1,8,9,17,18]) (.ret)) (kl [9,17])) (.seq (.region [m 19 0,m 20 1,m 21 8,oI 22 (.call (.f 120) [.t 19,.t 20,.t 21] (.one (.one (.int .i64)))),m 6 22,mc 7 0] [0,1,8,19,20,21,22]) (.ret)))))
abbrev xG(R:Type):=OA→Int→Int→AH→Option R
def aqu(t0:OA)(t1 t2:Int):List Value:=vn t0::vi t1::vi t2::un 20 []
def oH:aB:=⟨23,akZ,[.tmp 6,.tmp 7]⟩
theorem NR:okF Tryz.prog 117 oH=true:=by kernel_rfl
def ak0{R:Type}(C:Callee)(fl k:Nat)(kr:gy R):xG R:=fun t0 t1 t2 h=>aD C fl fn.gU [.pointer t0,vi t2] h fun v1 h2=>bj v1 fun l3=>aL l3 fun v4 l5=>asInt .i64 v4 fun n6=>aL l5 fun v7 l8=>asInt .i64 v7 fun n9=>ch l8 (if (n9 !=0)=true then kr 0 n9 h2 else aD C fl fn.dT [.pointer t0,vi t1,vi n6] h2 fun v10 rL=>asInt .i64 v10 fun ED=>kr ED 0 rL)
theorem aqv:(cp aqu (ce C fl k akZ K))=ak0 C fl k (cp aqt (K .ret)):=by kernel_rfl
def jy(p0:OA)(p1 p2:Int)(h:AH):Option (Value×AH):=ak0 C fl k (fun y6 y7 q=>some (.tuple ⟨[vi y6,vi y7]⟩,q)) p0 p1 p2 h
theorem zd(p0:OA)(p1 p2:Int)(h):bk C fl k oH [.pointer p0,vi p1,vi p2] h=jy C fl k p0 p1 p2 h:=yI (aqv C fl k (aE _)) p0 p1 p2 (by kernel_rfl) (by kernel_rfl)
def aqw(t2:Sl):List Value:=un 2 (t2.v::un 5 [])
def ak1:ab:=.seq (.region [oI 2 (.mv (.c (.slice none 0 0)))] [2]) (.seq (.region [m 3 0,oI 4 (.Fc false (.t 3))] [3]) (.seq (.cond (.t 4) (.seq (.region [oI 2 (.mv (.c (.slice none 0 0)))] [0,4]) (.ret)) (kl [4])) (.seq (.region [oI 5 (.aO 0 [] []),m 6 0,oI 7 (.append 1 8 (.t 5) (.t 6)),m 2 7] [0,5,6,7]) (.ret))))
def aqx(t0:Sl):List Value:=t0.v::un 7 []
def oK:aB:=⟨8,ak1,[.tmp 2]⟩
theorem NS:okF Tryz.prog 118 oK=true:=by kernel_rfl
def Ze{R:Type}(C:Callee)(fl k:Nat)(kr:an R):an R:=fun t0 h=>if t0.a.isNone=true then kr ⟨none,0,0⟩ h else cU h [] fun b1 h2=>iJ fl 1 8 ⟨(some ⟨b1,0,none⟩),0,0⟩ t0 h2 fun s3 h4=>kr s3 h4
theorem aqy:(cp aqx (ce C fl k ak1 K))=Ze C fl k (cp aqw (K .ret)):=by kernel_rfl
def dR(p0:Sl)(h:AH):Option (Value×AH):=Ze C fl k (fun y2 q=>some (vs y2,q)) p0 h
theorem lQ(p0:Sl)(h):bk C fl k oK [vs p0] h=dR C fl k p0 h:=ab2 (aqy C fl k (aE _)) p0 (by kernel_rfl) (by kernel_rfl)
def aqz(t6:Int):List Value:=un 6 (vi t6::un 6 [])
def ak2:ab:=.seq (.region [mc 6 0] [6]) (.seq (.region [m 7 0,m 8 1,m 9 0,m 10 2,oI 11 (.call (.f 104) [.t 9,.t 10] (.one (.one (.int .i64)))),oI 12 (.call (.f 149) [.t 7,.t 8,.t 11] (.one (.one (.int .i64)))),m 6 12] [0,1,2,7,8,9,10,11,12]) (.ret))
def aqA(t0:OA)(t1 t2:Int):List Value:=vn t0::vi t1::vi t2::un 10 []
def oL:aB:=⟨13,ak2,[.tmp 6]⟩
theorem NT:okF Tryz.prog 119 oL=true:=by kernel_rfl
def ak3{R:Type}(C:Callee)(fl k:Nat)(kr:ag R):xG R:=fun t0 t1 t2 h=>aD C fl fn.fG [.pointer t0,vi t2] h fun v1 h2=>asInt .i64 v1 fun n3=>aD C fl fn.gV [.pointer t0,vi t1,vi n3] h2 fun v4 h5=>asInt .i64 v4 fun n6=>kr n6 h5
theorem aqB:(cp aqA (ce C fl k ak2 K))=ak3 C fl k (cp aqz (K .ret)):=by kernel_rfl
def jz(p0:OA)(p1 p2:Int)(h:AH):Option (Value×AH):=ak3 C fl k (fun y6 q=>some (vi y6,q)) p0 p1 p2 h
theorem zf(p0:OA)(p1 p2:Int)(h):bk C fl k oL [.pointer p0,vi p1,vi p2] h=jz C fl k p0 p1 p2 h:=yI (aqB C fl k (aE _)) p0 p1 p2 (by kernel_rfl) (by kernel_rfl)
def aqC(t6:Int):List Value:=un 6 (vi t6::un 39 [])
def ak4:ab:=.seq (.region [mc 6 0] [6]) (.seq (.region [m 7 0,m 8 1,oI 9 (.call (.f 144) [.t 7,.t 8] (.one (.one (.int .i64)))),m 10 0,m 11 2,oI 12 (.call (.f 144) [.t 10,.t 11] (.one (.one (.int .i64)))),m 1 9,m 2 12] [7,8,9,10,11,12]) (.seq (.region [m 13 1,ck 14 .eql 13 0,m 15 14,.fb 15 false [qI 16 (.mv (.t 2)),qI 17 (.cmp .eql .i64 (.t 16) (ci 0))],oI 18 (.pick (.t 15) (.c (.bool true)) (.t 17))] [13,14,15,16,17]) (.seq (.cond (.t 18) (.seq (.region [mc 6 0] [0,1,2,18]) (.ret)) (kl [18])) (.seq (.region [m 19 0,oI 20 (.cg (.t 19)),fa 21 4 20,lt 22 21,m 23 0,oI 24 (.cg (.t 23)),fa 25 5 24,lt 26 25,m 27 1,ia 28 1 26 27,lj 29 28,m 30 0,oI 31 (.cg (.t 30)),fa 32 5 31,lt 33 32,m 34 2,ia 35 1 33 34,lj 36 35,bb 37 .add 29 36,m 38 0,oI 39 (.cg (.t 38)),fa 40 3 39,lj 41 40,bc 42 .sub 41 1,bb 43 .rem 37 42,ia 44 1 22 43,li 45 44,m 6 45] [0,1,2,19,20,21,22,23,24,25,26,27,28,29,30,31,32,33,34,35,36,37,38,39,40,41,42,43,44,45]) (.ret)))))
def aqD(t0:OA)(t1 t2:Int):List Value:=vn t0::vi t1::vi t2::un 43 []
def oM:aB:=⟨46,ak4,[.tmp 6]⟩
theorem NU:okF Tryz.prog 120 oM=true:=by kernel_rfl
def ak5{R:Type}(C:Callee)(fl k:Nat)(kr:ag R):xG R:=fun t0 t1 t2 h=>aD C fl fn.eX [.pointer t0,vi t1] h fun v1 h2=>asInt .i64 v1 fun n3=>aD C fl fn.eX [.pointer t0,vi t2] h2 fun v4 h5=>asInt .i64 v4 fun n6=>if (n3==0)=false then if (n6==0)=true then kr 0 h5 else cT (.pointer t0) fun p7=>bC h5 p7.block (p7.off+4) fun s8=>cT (.pointer t0) fun p9=>bC h5 p9.block (p9.off+5) fun s10=>idx 1 s10 n3 fun p11=>aF .i64 h5 p11.block p11.off fun ED=>cT (.pointer t0) fun p13=>bC h5 p13.block (p13.off+5) fun Xc=>idx 1 Xc n6 fun Xb=>aF .i64 h5 Xb.block Xb.off fun Kr=>cT (.pointer t0) fun p17=>aF .i64 h5 p17.block (p17.off+3) fun n18=>iZ .rem .i64 (bM (ED+Kr)) (bM (n18-1)) fun Pq=>idx 1 s8 Pq fun p20=>aF .i64 h5 p20.block p20.off fun n21=>kr n21 h5 else kr 0 h5
theorem aqE:(cp aqD (ce C fl k ak4 K))=ak5 C fl k (cp aqC (K .ret)):=by kernel_rfl
def dT(p0:OA)(p1 p2:Int)(h:AH):Option (Value×AH):=ak5 C fl k (fun y6 q=>some (vi y6,q)) p0 p1 p2 h
theorem zg(p0:OA)(p1 p2:Int)(h):bk C fl k oM [.pointer p0,vi p1,vi p2] h=dT C fl k p0 p1 p2 h:=yI (aqE C fl k (aE _)) p0 p1 p2 (by kernel_rfl) (by kernel_rfl)
def Eh(t6:Bool):List Value:=un 6 (.bool t6::un 25 [])
def GO:ab:=.seq (.region [oI 6 (.mv (.c (.bool true)))] []) (.ret)
def VI:List Value:=un 32 []
abbrev Jj(R:Type):=Sl→Value→Sl→Int→Int→AH→Option R
def Jk(t1:Sl)(t2:Value)(t15:Sl)(t16 t17:Int):List Value:=un 1 (t1.v::t2::un 12 (t15.v::vi t16::vi t17::un 14 []))
def GP:ab:=.seq (.region [cm 18 .lss 17 16] []) (.seq (.cond (.t 18) (kl [18]) (.seq (kl [1,2,15,16,17,18]) (.exit 0))) (.seq (.block 1 (.seq (.region [m 19 17,ia 20 1 15 17,ls 21 20,m 7 19,m 8 21] [19,20,21]) (.seq (.region [m 22 1,m 23 7,ia 24 1 22 23,ls 25 24,m 9 25] [7,22,23,24,25]) (.seq (.region [m 26 2,m 27 8,m 28 9,oI 29 (.call (.t 26) [.t 27,.t 28] (.one (.one .bool))),no 30 29] [8,9,26,27,28,29]) (.cond (.t 30) (.seq (.region [oI 6 (.mv (.c (.bool false)))] [1,2,15,16,17,30]) (.ret)) (kl [30])))))) (.region [bc 31 .add 17 1,m 17 31] [31])))
def QY:ab:=.seq (.block 0 (.loop GP)) GO
def aeM(cn:ab):ab:=.seq (.seq (.region [oI 6 (.mv (.c (.bool false)))] [6]) (.seq (.region [m 10 0,ln 11 10,m 12 1,ln 13 12,cm 14 .neq 11 13] [10,11,12,13]) (.seq (.cond (.t 14) (.seq (.region [oI 6 (.mv (.c (.bool false)))] [0,1,2,14]) (.ret)) (kl [14])) (.region [m 15 0,ln 16 15,mc 17 0] [0])))) cn
def ak6:ab:=aeM QY
abbrev aeN(R:Type):=Sl→Sl→Value→AH→Option R
def aeO(t0 t1:Sl)(t2:Value):List Value:=t0.v::t1.v::t2::un 29 []
def jL:aB:=⟨32,ak6,[.tmp 6]⟩
theorem EN:okF Tryz.prog 123 jL=true:=by kernel_rfl
def Ei{R:Type}(C:Callee)(fl k:Nat)(kr:au R):av R:=fun h=>kr true h
theorem Zf:(cp VI (ce C fl k GO K))=Ei C fl k (cp Eh (K .ret)):=by kernel_rfl
def qG{R:Type}(C:Callee)(fl k:Nat)(kn:Jj R)(e0:av R)(kr:au R):Jj R:=fun t1 t2 t15 t16 t17 h=>if decide (t17<t16)=true then idx 1 t15 t17 fun p1=>bC h p1.block p1.off fun s2=>idx 1 t1 t17 fun p3=>bC h p3.block p3.off fun s4=>kE C fl t2 [vs s2,vs s4] h fun v5 h6=>asBool v5 fun b7=>if (!b7)=true then kr false h6 else kn t1 t2 t15 t16 (bM (t17+1)) h6 else e0 h
theorem Zg:(cp Jk (ce C fl k GP K))=qG C fl k (cp Jk (K .normal)) (cp VI (K (.exit 0))) (cp Eh (K .ret)):=by kernel_rfl
def zh(kn:av R)(kr:au R):Nat→Jj R
 |0=>fun _ _ _ _ _ _=>none
 |m+1=>qG C fl k (zh kn kr m) kn kr
theorem MC:∀m,(cp Jk (aQ m (bK C fl k GP 0 K)))=zh C fl k (cp VI (K .normal)) (cp Eh (K .ret)) m
 |0=>by kernel_rfl
 |m+1=>mL (Zg C fl k _) (ak (fun L=>qG C fl k L _ _) (MC m))
def VJ(kr:au R):Jj R:=zh C fl k (Ei C fl k kr) kr k
theorem agN:(cp Jk (ce C fl k QY K))=VJ C fl k (cp Eh (K .ret)):=(pA (mM (MC C fl k (bT C fl k GO K)))).trans (ak (fun L=>zh C fl k L _ k) (py (Zf C fl k K)))
def VK{R:Type}(C:Callee)(fl k:Nat)(kx:Jj R)(kr:au R):aeN R:=fun t0 t1 t2 h=>if (((t0.l:Nat):Int) !=((t1.l:Nat):Int))=true then kr false h else kx t1 t2 t0 ((t0.l:Nat):Int) 0 h
def ak7(kr:au R):aeN R:=VK C fl k (VJ C fl k kr) kr
theorem aqF(cn:ab):(cp aeO (ce C fl k (aeM cn) K))=VK C fl k (cp Jk (ce C fl k cn K)) (cp Eh (K .ret)):=by kernel_rfl
theorem aqG:(cp aeO (ce C fl k ak6 K))=ak7 C fl k (cp Eh (K .ret)):=(aqF C fl k K QY).trans (ak (fun L0=>VK C fl k L0 _) (agN C fl k K))
def fQ(p0 p1:Sl)(p2:Value)(h:AH):Option (Value×AH):=ak7 C fl k (fun y6 q=>some (.bool y6,q)) p0 p1 p2 h
theorem tI(p0 p1:Sl)(p2:Value)(h):bk C fl k jL [vs p0,vs p1,p2] h=fQ C fl k p0 p1 p2 h:=yI (aqG C fl k (aE _)) p0 p1 p2 (by kernel_rfl) (by kernel_rfl)
def Ej(t4:Bool):List Value:=un 4 (.bool t4::un 21 [])
def GQ:ab:=.seq (.region [oI 4 (.mv (.c (.bool true)))] []) (.ret)
def VL:List Value:=un 26 []
def Jl(t0 t1:Sl)(t12 t13:Int):List Value:=t0.v::t1.v::un 10 (vi t12::vi t13::un 12 [])
def GR:ab:=.seq (.region [cm 14 .lss 13 12] []) (.seq (.cond (.t 14) (kl [14]) (.seq (kl [0,1,12,13,14]) (.exit 0))) (.seq (.block 1 (.seq (.region [m 15 13,m 5 15] [15]) (.seq (.region [m 16 0,m 17 5,ia 18 1 16 17,lj 19 18,m 20 1,m 21 5,ia 22 1 20 21,lj 23 22,cm 24 .neq 19 23] [5,16,17,18,19,20,21,22,23]) (.cond (.t 24) (.seq (.region [oI 4 (.mv (.c (.bool false)))] [0,1,12,13,24]) (.ret)) (kl [24]))))) (.region [bc 25 .add 13 1,m 13 25] [25])))
def QZ:ab:=.seq (.block 0 (.loop GR)) GQ
def aeP(cn:ab):ab:=.seq (.seq (.region [oI 4 (.mv (.c (.bool false)))] [4]) (.seq (.region [m 6 0,ln 7 6,m 8 1,ln 9 8,cm 10 .neq 7 9] [6,7,8,9]) (.seq (.cond (.t 10) (.seq (.region [oI 4 (.mv (.c (.bool false)))] [0,1,10]) (.ret)) (kl [10])) (.region [m 11 0,ln 12 11,mc 13 0] [11])))) cn
def ak8:ab:=aeP QZ
def aeQ(t0 t1:Sl):List Value:=t0.v::t1.v::un 24 []
def oN:aB:=⟨26,ak8,[.tmp 4]⟩
theorem NV:okF Tryz.prog 124 oN=true:=by kernel_rfl
def Ek{R:Type}(C:Callee)(fl k:Nat)(kr:au R):av R:=fun h=>kr true h
theorem Zh:(cp VL (ce C fl k GQ K))=Ek C fl k (cp Ej (K .ret)):=by kernel_rfl
def qH{R:Type}(C:Callee)(fl k:Nat)(kn:gY R)(e0:av R)(kr:au R):gY R:=fun t0 t1 t12 t13 h=>if decide (t13<t12)=true then idx 1 t0 t13 fun p1=>aF .i64 h p1.block p1.off fun n2=>idx 1 t1 t13 fun p3=>aF .i64 h p3.block p3.off fun n4=>if (n2 !=n4)=true then kr false h else kn t0 t1 t12 (bM (t13+1)) h else e0 h
theorem Zi:(cp Jl (ce C fl k GR K))=qH C fl k (cp Jl (K .normal)) (cp VL (K (.exit 0))) (cp Ej (K .ret)):=by kernel_rfl
def zi(kn:av R)(kr:au R):Nat→gY R
 |0=>fun _ _ _ _ _=>none
 |m+1=>qH C fl k (zi kn kr m) kn kr
theorem MD:∀m,(cp Jl (aQ m (bK C fl k GR 0 K)))=zi C fl k (cp VL (K .normal)) (cp Ej (K .ret)) m
 |0=>by kernel_rfl
 |m+1=>mL (Zi C fl k _) (ak (fun L=>qH C fl k L _ _) (MD m))
def VM(kr:au R):gY R:=zi C fl k (Ek C fl k kr) kr k
theorem agO:(cp Jl (ce C fl k QZ K))=VM C fl k (cp Ej (K .ret)):=(pA (mM (MD C fl k (bT C fl k GQ K)))).trans (ak (fun L=>zi C fl k L _ k) (py (Zh C fl k K)))
def VN{R:Type}(C:Callee)(fl k:Nat)(kx:gY R)(kr:au R):dd R:=fun t0 t1 h=>if (((t0.l:Nat):Int) !=((t1.l:Nat):Int))=true then kr false h else kx t0 t1 ((t0.l:Nat):Int) 0 h
def ak9(kr:au R):dd R:=VN C fl k (VM C fl k kr) kr
theorem aqH(cn:ab):(cp aeQ (ce C fl k (aeP cn) K))=VN C fl k (cp Jl (ce C fl k cn K)) (cp Ej (K .ret)):=by kernel_rfl
theorem aqI:(cp aeQ (ce C fl k ak8 K))=ak9 C fl k (cp Ej (K .ret)):=(aqH C fl k K QZ).trans (ak (fun L0=>VN C fl k L0 _) (agO C fl k K))
def gT(p0 p1:Sl)(h:AH):Option (Value×AH):=ak9 C fl k (fun y4 q=>some (.bool y4,q)) p0 p1 h
theorem zj(p0 p1:Sl)(h):bk C fl k oN [vs p0,vs p1] h=gT C fl k p0 p1 h:=CG (aqI C fl k (aE _)) p0 p1 (by kernel_rfl) (by kernel_rfl)
def O2(t6 t7:Sl):List Value:=un 6 (t6.v::t7.v::un 129 [])
def GS:ab:=.seq (.region [m 135 8,m 136 9,m 6 135,m 7 136] [8,9,135,136]) (.ret)
def AR(t8 t9:Sl):List Value:=un 8 (t8.v::t9.v::un 127 [])
abbrev bw(R:Type):=Int→Addr→Sl→Sl→Int→Int→AH→Option R
def bA(t2:Int)(t3:Addr)(t8 t9:Sl)(t10 t11:Int):List Value:=un 2 (vi t2::vp t3::un 4 (t8.v::t9.v::vi t10::vi t11::un 125 []))
def oO:ab:=.region [m 25 11,bc 26 .add 25 1,m 11 26] [25,26]
def iz:ab:=.seq (.region [m 129 9,m 130 11,oI 131 (.aO 1 [.int .i64 0] [(0,1,.t 130)]),oI 132 (.append 1 8 (.t 129) (.t 131)),m 9 132] [129,130,131,132]) (.region [m 133 10,bc 134 .add 133 1,m 10 134] [133,134])
abbrev eQ(R:Type):=Int→Addr→Sl→Sl→Int→Int→Int→AH→Option R
def sK(t2:Int)(t3:Addr)(t8 t9:Sl)(t10 t11 t13:Int):List Value:=un 2 (vi t2::vp t3::un 4 (t8.v::t9.v::vi t10::vi t11::un 1 (vi t13::un 123 [])))
def fJ:ab:=.region [m 92 13,bc 93 .add 92 1,m 13 93] [92,93]
def mb(cn:ab):ab:=.seq (.seq (.region [m 88 13,m 89 8,ln 90 89,cm 91 .lss 88 90] [88,89,90]) (.seq (.cond (.t 91) (kl [91]) (.seq (kl [13,91]) (.exit 4))) (.block 5 (.seq (.region [m 94 13,m 95 10,cm 96 .neq 94 95,m 97 96,.fb 97 true [qI 98 (.mv (.t 8)),qI 99 (.mv (.t 13)),qI 100 (.di 1 (.t 98) (.t 99)),qI 101 (.load (.one .slice) (.t 100)),qI 102 (.mv (.t 11)),qI 103 (.di 1 (.t 101) (.t 102)),qI 104 (.load (.one (.int .i64)) (.t 103)),qI 105 (.cmp .neq .i64 (.t 104) (ci 0))],oI 106 (.pick (.t 97) (.t 105) (.c (.bool false)))] [94,95,96,97,98,99,100,101,102,103,104,105]) (.cond (.t 106) (.region [m 107 8,m 108 13,oJ 109 (.load (.agg [.int .i64,.int .i64,.slice]) (.t 3)),m 110 8,m 111 13,ia 112 1 110 111,lt 113 112,oJ 114 (.load (.agg [.int .i64,.int .i64,.slice]) (.t 3)),m 115 8,m 116 13,ia 117 1 115 116,lt 118 117,m 119 11,ia 120 1 118 119,lj 121 120,oJ 122 (.call (.f 126) [.t 114,.t 121] (.one (.one (.int .i64)))),m 123 8,m 124 10,ia 125 1 123 124,lt 126 125,oI 127 (.call (.f 155) [.t 109,.t 113,.t 122,.t 126] (.one (.one .slice))),ia 128 1 107 108,sI 1 128 127] [106,107,108,109,110,111,112,113,114,115,116,117,118,119,120,121,122,123,124,125,126,127,128]) (kl [106])))))) cn
def iA:ab:=mb fJ
def jM:ab:=.seq (.block 4 (.loop iA)) iz
def pH(cn:ab):ab:=.seq (.region [mc 13 0] []) cn
def kT:ab:=pH jM
def uq(cn:ab):ab:=.seq (.seq (.region [m 44 12,m 45 8,ln 46 45,cm 47 .eql 44 46] [44,45,46]) (.seq (.cond (.t 47) (.seq (kl [12,47]) (.exit 1)) (kl [47])) (.seq (.region [m 48 8,m 49 10,m 50 8,m 51 12,m 52 8,m 53 12,ia 54 1 52 53,lt 55 54,m 56 8,m 57 10,ia 58 1 56 57,lt 59 58,ia 60 1 48 49,sI 1 60 55,ia 61 1 50 51,sI 1 61 59] [12,48,49,50,51,52,53,54,55,56,57,58,59,60,61]) (.seq (.region [m 62 8,m 63 10,ia 64 1 62 63,ls 65 64,m 66 11,ia 67 1 65 66,li 68 67,ck 69 .neq 68 1] [62,63,64,65,66,67,68]) (.cond (.t 69) (.region [m 70 8,m 71 10,oJ 72 (.load (.agg [.int .i64,.int .i64,.slice]) (.t 3)),oJ 73 (.load (.agg [.int .i64,.int .i64,.slice]) (.t 3)),m 74 8,m 75 10,ia 76 1 74 75,lt 77 76,m 78 11,ia 79 1 77 78,lj 80 79,oJ 81 (.call (.f 154) [.t 73,.t 80] (.one (.one (.int .i64)))),m 82 8,m 83 10,ia 84 1 82 83,lt 85 84,oI 86 (.call (.f 153) [.t 72,.t 81,.t 85] (.one (.one .slice))),ia 87 1 70 71,sI 1 87 86] [69,70,71,72,73,74,75,76,77,78,79,80,81,82,83,84,85,86,87]) (kl [69])))))) cn
def na:ab:=uq kT
def uQ(t2:Int)(t3:Addr)(t8 t9:Sl)(t10 t11 t12:Int):List Value:=un 2 (vi t2::vp t3::un 4 (t8.v::t9.v::vi t10::vi t11::vi t12::un 124 []))
def nh:ab:=.seq (.region [m 28 12,m 29 8,ln 30 29,cm 31 .lss 28 30,m 32 31,.fb 32 true [qI 33 (.mv (.t 8)),qI 34 (.mv (.t 12)),qI 35 (.di 1 (.t 33) (.t 34)),qI 36 (.load (.one .slice) (.t 35)),qI 37 (.mv (.t 11)),qI 38 (.di 1 (.t 36) (.t 37)),qI 39 (.load (.one (.int .i64)) (.t 38)),qI 40 (.cmp .eql .i64 (.t 39) (ci 0))],oI 41 (.pick (.t 32) (.t 40) (.c (.bool false)))] [28,29,30,31,32,33,34,35,36,37,38,39,40]) (.seq (.cond (.t 41) (kl [41]) (.seq (kl [41]) (.exit 2))) (.block 3 (.region [m 42 12,bc 43 .add 42 1,m 12 43] [42,43])))
def qK:ab:=.seq (.block 2 (.loop nh)) na
def BD(cn:ab):ab:=.seq (.region [m 27 10,m 12 27] [27]) cn
def wc:ab:=BD qK
def Fl(cn vg:ab):ab:=.seq (.block 1 vg) cn
def AS:ab:=Fl oO wc
def ME(cn:ab):ab:=.seq (.seq (.region [m 16 11,m 17 2,cm 18 .lss 16 17,m 19 18,.fb 19 true [qI 20 (.mv (.t 10)),qI 21 (.mv (.t 8)),qI 22 (.len (.t 21)),qI 23 (.cmp .lss .i64 (.t 20) (.t 22))],oI 24 (.pick (.t 19) (.t 23) (.c (.bool false)))] [16,17,18,19,20,21,22,23]) (.cond (.t 24) (kl [24]) (.seq (kl [2,3,10,11,24]) (.exit 0)))) cn
def GU:ab:=ME AS
def Q0:ab:=.seq (.block 0 (.loop GU)) GS
def aeR(cn:ab):ab:=.seq (.seq (.region [oI 3 (.box (.t 0)),oI 6 (.mv (.c (.slice none 0 0))),oI 7 (.mv (.c (.slice none 0 0)))] [0,6,7]) (.seq (.region [m 14 1,oI 15 (.call (.f 152) [.t 14] (.one (.one .slice))),m 8 15] [1,14,15]) (.seq (.region [oI 9 (.mv (.c (.slice none 0 0)))] []) (.seq (.region [mc 10 0] []) (.region [mc 11 0] []))))) cn
def ala:ab:=aeR Q0
def aeS(aI aH:Int)(aJ t1:Sl)(t2:Int):List Value:=.agg ⟨[vi aI,vi aH,vs aJ]⟩::t1.v::vi t2::un 134 []
def km:aB:=⟨137,ala,[.tmp 6,.tmp 7]⟩
theorem GV:okF Tryz.prog 125 km=true:=by kernel_rfl
def Ld{R:Type}(C:Callee)(fl k:Nat)(kr:dd R):dd R:=fun t8 t9 h=>kr t8 t9 h
theorem Zj:(cp AR (ce C fl k GS K))=Ld C fl k (cp O2 (K .ret)):=by kernel_rfl
def dq{R:Type}(C:Callee)(fl k:Nat)(kn:bw R)(e0:dd R):bw R:=fun t2 t3 t8 t9 t10 t11 h=>kn t2 t3 t8 t9 t10 (bM (t11+1)) h
theorem tW:(cp bA (ce C fl k oO K))=dq C fl k (cp bA (K .normal)) (cp AR (K (.exit 0))):=by kernel_rfl
def fj{R:Type}(C:Callee)(fl k:Nat)(kn:bw R)(e1:bw R):bw R:=fun t2 t3 t8 t9 t10 t11 h=>cU h [vi t11] fun b1 h2=>iJ fl 1 8 t9 ⟨(some ⟨b1,0,none⟩),1,1⟩ h2 fun s3 h4=>kn t2 t3 t8 s3 (bM (t10+1)) t11 h4
theorem wY:(cp bA (ce C fl k iz K))=fj C fl k (cp bA (K .normal)) (cp bA (K (.exit 1))):=by kernel_rfl
def cV{R:Type}(C:Callee)(fl k:Nat)(kn:eQ R)(e4:bw R):eQ R:=fun t2 t3 t8 t9 t10 t11 t13 h=>kn t2 t3 t8 t9 t10 t11 (bM (t13+1)) h
theorem tX:(cp sK (ce C fl k fJ K))=cV C fl k (cp sK (K .normal)) (cp bA (K (.exit 4))):=by kernel_rfl
def dr{R:Type}(C:Callee)(fl k:Nat)(kx:eQ R)(kn:eQ R)(e4:bw R):eQ R:=fun t2 t3 t8 t9 t10 t11 t13 h=>if decide (t13<((t8.l:Nat):Int))=true then if (t13 !=t10)=true then idx 1 t8 t13 fun p5=>bC h p5.block p5.off fun s6=>idx 1 s6 t11 fun p7=>aF .i64 h p7.block p7.off fun n8=>if (n8 !=0)=true then aF .i64 h t3.block t3.off fun n9=>aF .i64 h t3.block (t3.off+1) fun tO=>bC h t3.block (t3.off+1+1) fun Ks=>idx 1 t8 t13 fun LO=>bC h LO.block LO.off fun s13=>aF .i64 h t3.block t3.off fun BS=>aF .i64 h t3.block (t3.off+1) fun n15=>bC h t3.block (t3.off+1+1) fun Xg=>idx 1 t8 t13 fun p17=>bC h p17.block p17.off fun s18=>idx 1 s18 t11 fun p19=>aF .i64 h p19.block p19.off fun n20=>aD C h.next fn.pU [.agg ⟨[vi BS,vi n15,vs Xg]⟩,vi n20] h fun v21 h22=>asInt .i64 v21 fun n23=>idx 1 t8 t10 fun p24=>bC h22 p24.block p24.off fun s25=>aD C fl fn.nG [.agg ⟨[vi n9,vi tO,vs Ks]⟩,vs s13,vi n23,vs s25] h22 fun v26 h27=>bB v26 fun s28=>idx 1 t8 t13 fun p29=>st fl h27 p29 [vs s28] fun h30=>kx t2 t3 t8 t9 t10 t11 t13 h30 else kx t2 t3 t8 t9 t10 t11 t13 h else kx t2 t3 t8 t9 t10 t11 t13 h else e4 t2 t3 t8 t9 t10 t11 h
def cu(kn:eQ R)(e4:bw R):eQ R:=dr C fl k (cV C fl k kn e4) kn e4
theorem wZ(cn:ab):(cp sK (ce C fl k (mb cn) K))=dr C fl k (cp sK (ce C fl k cn K)) (cp sK (K .normal)) (cp bA (K (.exit 4))):=by kernel_rfl
theorem w7:(cp sK (ce C fl k iA K))=cu C fl k (cp sK (K .normal)) (cp bA (K (.exit 4))):=(wZ C fl k K fJ).trans (ak (fun L0=>dr C fl k L0 _ _) (tX C fl k K))
def bP(kn:bw R):Nat→eQ R
 |0=>fun _ _ _ _ _ _ _ _=>none
 |m+1=>cu C fl k (bP kn m) kn
theorem me:∀m,(cp sK (aQ m (bK C fl k iA 4 K)))=bP C fl k (cp bA (K .normal)) m
 |0=>by kernel_rfl
 |m+1=>mL (w7 C fl k _) (ak (fun L=>cu C fl k L _) (me m))
def j9(kn:bw R)(e1:bw R):eQ R:=bP C fl k (fj C fl k kn e1) k
theorem zk:(cp sK (ce C fl k jM K))=j9 C fl k (cp bA (K .normal)) (cp bA (K (.exit 1))):=(pA (mM (me C fl k (bT C fl k iz K)))).trans (ak (fun L=>bP C fl k L k) (py (wY C fl k K)))
def gZ{R:Type}(C:Callee)(fl k:Nat)(kx:eQ R)(kn:bw R)(e1:bw R):bw R:=fun t2 t3 t8 t9 t10 t11 h=>kx t2 t3 t8 t9 t10 t11 0 h
def iW(kn:bw R)(e1:bw R):bw R:=gZ C fl k (j9 C fl k kn e1) kn e1
theorem BX(cn:ab):(cp bA (ce C fl k (pH cn) K))=gZ C fl k (cp sK (ce C fl k cn K)) (cp bA (K .normal)) (cp bA (K (.exit 1))):=by kernel_rfl
theorem BY:(cp bA (ce C fl k kT K))=iW C fl k (cp bA (K .normal)) (cp bA (K (.exit 1))):=(BX C fl k K jM).trans (ak (fun L0=>gZ C fl k L0 _ _) (zk C fl k K))
def jN{R:Type}(C:Callee)(fl k:Nat)(kx:bw R)(kn:bw R)(e1:bw R):eQ R:=fun t2 t3 t8 t9 t10 t11 t12 h=>if (t12==((t8.l:Nat):Int))=true then e1 t2 t3 t8 t9 t10 t11 h else idx 1 t8 t12 fun p31=>bC h p31.block p31.off fun s32=>idx 1 t8 t10 fun p33=>bC h p33.block p33.off fun s34=>idx 1 t8 t10 fun p35=>st fl h p35 [vs s32] fun TW=>idx 1 t8 t12 fun p37=>st fl TW p37 [vs s34] fun h38=>idx 1 t8 t10 fun p39=>bC h38 p39.block p39.off fun s40=>idx 1 s40 t11 fun p41=>aF .i64 h38 p41.block p41.off fun n42=>if (n42 !=1)=true then aF .i64 h38 t3.block t3.off fun n43=>aF .i64 h38 t3.block (t3.off+1) fun n44=>bC h38 t3.block (t3.off+1+1) fun s45=>aF .i64 h38 t3.block t3.off fun n46=>aF .i64 h38 t3.block (t3.off+1) fun n47=>bC h38 t3.block (t3.off+1+1) fun s48=>idx 1 t8 t10 fun p49=>bC h38 p49.block p49.off fun s50=>idx 1 s50 t11 fun p51=>aF .i64 h38 p51.block p51.off fun n52=>aD C h38.next fn.pV [.agg ⟨[vi n46,vi n47,vs s48]⟩,vi n52] h38 fun v53 h54=>asInt .i64 v53 fun n55=>idx 1 t8 t10 fun p56=>bC h54 p56.block p56.off fun s57=>aD C fl fn.nF [.agg ⟨[vi n43,vi n44,vs s45]⟩,vi n55,vs s57] h54 fun v58 h59=>bB v58 fun s60=>idx 1 t8 t10 fun p61=>st fl h59 p61 [vs s60] fun h62=>kx t2 t3 t8 t9 t10 t11 h62 else kx t2 t3 t8 t9 t10 t11 h38
def oP(kn:bw R)(e1:bw R):eQ R:=jN C fl k (iW C fl k kn e1) kn e1
theorem EO(cn:ab):(cp uQ (ce C fl k (uq cn) K))=jN C fl k (cp bA (ce C fl k cn K)) (cp bA (K .normal)) (cp bA (K (.exit 1))):=by kernel_rfl
theorem EP:(cp uQ (ce C fl k na K))=oP C fl k (cp bA (K .normal)) (cp bA (K (.exit 1))):=(EO C fl k K kT).trans (ak (fun L0=>jN C fl k L0 _ _) (BY C fl k K))
def ed{R:Type}(C:Callee)(fl k:Nat)(kn:eQ R)(e2:eQ R):eQ R:=fun t2 t3 t8 t9 t10 t11 t12 h=>if decide (t12<((t8.l:Nat):Int))=true then idx 1 t8 t12 fun p63=>bC h p63.block p63.off fun s64=>idx 1 s64 t11 fun p65=>aF .i64 h p65.block p65.off fun n66=>if (n66==0)=true then kn t2 t3 t8 t9 t10 t11 (bM (t12+1)) h else e2 t2 t3 t8 t9 t10 t11 t12 h else e2 t2 t3 t8 t9 t10 t11 t12 h
theorem ER:(cp uQ (ce C fl k nh K))=ed C fl k (cp uQ (K .normal)) (cp uQ (K (.exit 2))):=by kernel_rfl
def hG(kn:eQ R):Nat→eQ R
 |0=>fun _ _ _ _ _ _ _ _=>none
 |m+1=>ed C fl k (hG kn m) kn
theorem ur:∀m,(cp uQ (aQ m (bK C fl k nh 2 K)))=hG C fl k (cp uQ (K .normal)) m
 |0=>by kernel_rfl
 |m+1=>mL (ER C fl k _) (ak (fun L=>ed C fl k L _) (ur m))
def tY(kn:bw R)(e1:bw R):eQ R:=hG C fl k (oP C fl k kn e1) k
theorem Jm:(cp uQ (ce C fl k qK K))=tY C fl k (cp bA (K .normal)) (cp bA (K (.exit 1))):=(pA (mM (ur C fl k (bT C fl k na K)))).trans (ak (fun L=>hG C fl k L k) (py (EP C fl k K)))
def oQ{R:Type}(C:Callee)(fl k:Nat)(kx:eQ R)(kn:bw R)(e1:bw R):bw R:=fun t2 t3 t8 t9 t10 t11 h=>kx t2 t3 t8 t9 t10 t11 t10 h
def sL(kn:bw R)(e1:bw R):bw R:=oQ C fl k (tY C fl k kn e1) kn e1
theorem NW(cn:ab):(cp bA (ce C fl k (BD cn) K))=oQ C fl k (cp uQ (ce C fl k cn K)) (cp bA (K .normal)) (cp bA (K (.exit 1))):=by kernel_rfl
theorem NX:(cp bA (ce C fl k wc K))=sL C fl k (cp bA (K .normal)) (cp bA (K (.exit 1))):=(NW C fl k K qK).trans (ak (fun L0=>oQ C fl k L0 _ _) (Jm C fl k K))
def uR{R:Type}(C:Callee)(fl k:Nat)(kx:bw R)(u0:bw R)(kn:bw R)(e0:dd R):bw R:=fun t2 t3 t8 t9 t10 t11 h=>u0 t2 t3 t8 t9 t10 t11 h
def C1(kn:bw R)(e0:dd R):bw R:=uR C fl k (dq C fl k kn e0) (sL C fl k (dq C fl k kn e0) (dq C fl k kn e0)) kn e0
theorem Sj(cn vg:ab):(cp bA (ce C fl k (Fl cn vg) K))=uR C fl k (cp bA (ce C fl k cn K)) (cp bA (ce C fl k vg (vx 1 (bT C fl k cn K)))) (cp bA (K .normal)) (cp AR (K (.exit 0))):=by kernel_rfl
theorem Sk:(cp bA (ce C fl k AS K))=C1 C fl k (cp bA (K .normal)) (cp AR (K (.exit 0))):=(Sj C fl k K oO wc).trans (pO (fun L0 L1=>uR C fl k L0 L1 _ _) (tW C fl k K) ((NX C fl k (vx 1 (bT C fl k oO K))).trans (pO (fun L0 L1=>sL C fl k L0 L1) (bn1 (tW C fl k K)) (bx1 (tW C fl k K)))))
def qL{R:Type}(C:Callee)(fl k:Nat)(kx:bw R)(kn:bw R)(e0:dd R):bw R:=fun t2 t3 t8 t9 t10 t11 h=>if decide (t11<t2)=true then if decide (t10<((t8.l:Nat):Int))=true then kx t2 t3 t8 t9 t10 t11 h else e0 t8 t9 h else e0 t8 t9 h
def lR(kn:bw R)(e0:dd R):bw R:=qL C fl k (C1 C fl k kn e0) kn e0
theorem Zk(cn:ab):(cp bA (ce C fl k (ME cn) K))=qL C fl k (cp bA (ce C fl k cn K)) (cp bA (K .normal)) (cp AR (K (.exit 0))):=by kernel_rfl
theorem Zl:(cp bA (ce C fl k GU K))=lR C fl k (cp bA (K .normal)) (cp AR (K (.exit 0))):=(Zk C fl k K AS).trans (ak (fun L0=>qL C fl k L0 _ _) (Sk C fl k K))
def gK(kn:dd R):Nat→bw R
 |0=>fun _ _ _ _ _ _ _=>none
 |m+1=>lR C fl k (gK kn m) kn
theorem MF:∀m,(cp bA (aQ m (bK C fl k GU 0 K)))=gK C fl k (cp AR (K .normal)) m
 |0=>by kernel_rfl
 |m+1=>mL (Zl C fl k _) (ak (fun L=>lR C fl k L _) (MF m))
def O3(kr:dd R):bw R:=gK C fl k (Ld C fl k kr) k
theorem agP:(cp bA (ce C fl k Q0 K))=O3 C fl k (cp O2 (K .ret)):=(pA (mM (MF C fl k (bT C fl k GS K)))).trans (ak (fun L=>gK C fl k L k) (py (Zj C fl k K)))
def VO{R:Type}(C:Callee)(fl k:Nat)(kx:bw R)(kr:dd R):xv R:=fun aI aH aJ t1 t2 h=>cU h [vi aI,vi aH,vs aJ] fun b67 h68=>aD C fl fn.vJ [vs t1] h68 fun v69 h70=>bB v69 fun s71=>kx t2 ⟨b67,0,none⟩ s71 ⟨none,0,0⟩ 0 0 h70
def alb(kr:dd R):xv R:=VO C fl k (O3 C fl k kr) kr
theorem aqJ(cn:ab):(cp aeS (ce C fl k (aeR cn) K))=VO C fl k (cp bA (ce C fl k cn K)) (cp O2 (K .ret)):=by kernel_rfl
theorem aqK:(cp aeS (ce C fl k ala K))=alb C fl k (cp O2 (K .ret)):=(aqJ C fl k K Q0).trans (ak (fun L0=>VO C fl k L0 _) (agP C fl k K))
def fz(ax ay:Int)(aA p1:Sl)(p2:Int)(h:AH):Option (Value×AH):=alb C fl k (fun y6 y7 q=>some (.tuple ⟨[vs y6,vs y7]⟩,q)) ax ay aA p1 p2 h
theorem ET(ax ay:Int)(aA p1:Sl)(p2:Int)(h):bk C fl k km [.agg ⟨[vi ax,vi ay,vs aA]⟩,vs p1,vi p2] h=fz C fl k ax ay aA p1 p2 h:=vK (aqK C fl k (aE _)) ax ay aA p1 p2 (by kernel_rfl) (by kernel_rfl)
def O4(t4:Int):List Value:=un 4 (vi t4::un 27 [])
def GW:ab:=.seq (.region [oI 29 (.load (.agg [.int .i64,.int .i64,.slice]) (.t 2)),m 30 5,oI 31 (.call (.f 157) [.t 29,.t 30] (.one (.one (.int .i64)))),m 4 31] [2,5,29,30,31]) (.ret)
abbrev bV(R:Type):=Addr→Sl→AH→Option R
def VP(t2:Addr)(t5:Sl):List Value:=un 2 (vp t2::un 2 (t5.v::un 26 []))
def Jn(t2:Addr)(t5:Sl)(t6:Int):List Value:=un 2 (vp t2::un 2 (t5.v::vi t6::un 25 []))
def GX:ab:=.seq (.region [m 10 6,m 11 5,ln 12 11,cm 13 .lss 10 12] [10,11,12]) (.seq (.cond (.t 13) (kl [13]) (.seq (kl [6,13]) (.exit 0))) (.seq (.block 1 (.region [m 16 5,m 17 6,fa 18 0 2,lj 19 18,m 20 5,m 21 6,ia 22 1 20 21,lj 23 22,bb 24 .sub 19 23,fa 25 0 2,lj 26 25,bb 27 .rem 24 26,ia 28 1 16 17,sI 1 28 27] [16,17,18,19,20,21,22,23,24,25,26,27,28])) (.region [m 14 6,bc 15 .add 14 1,m 6 15] [14,15])))
def Q1:ab:=.seq (.block 0 (.loop GX)) GW
def aeT(cn:ab):ab:=.seq (.seq (.region [oI 2 (.box (.t 0)),mc 4 0] [0,4]) (.seq (.region [oI 7 (.load (.agg [.int .i64,.int .i64,.slice]) (.t 2)),m 8 1,oI 9 (.call (.f 156) [.t 7,.t 8] (.one (.one .slice))),m 5 9] [1,7,8,9]) (.region [mc 6 0] []))) cn
def ald:ab:=aeT Q1
def aeU(aI aH:Int)(aJ:Sl)(t1:Int):List Value:=.agg ⟨[vi aI,vi aH,vs aJ]⟩::vi t1::un 30 []
def xH:aB:=⟨32,ald,[.tmp 4]⟩
theorem VQ:okF Tryz.prog 126 xH=true:=by kernel_rfl
def zl{R:Type}(C:Callee)(fl k:Nat)(kr:ag R):bV R:=fun t2 t5 h=>aF .i64 h t2.block t2.off fun n1=>aF .i64 h t2.block (t2.off+1) fun n2=>bC h t2.block (t2.off+1+1) fun s3=>aD C fl fn.fN [.agg ⟨[vi n1,vi n2,vs s3]⟩,vs t5] h fun v4 h5=>asInt .i64 v4 fun n6=>kr n6 h5
theorem Zm:(cp VP (ce C fl k GW K))=zl C fl k (cp O4 (K .ret)):=by kernel_rfl
def qM{R:Type}(C:Callee)(fl k:Nat)(kn:cz R)(e0:bV R):cz R:=fun t2 t5 t6 h=>if decide (t6<((t5.l:Nat):Int))=true then aF .i64 h t2.block t2.off fun n7=>idx 1 t5 t6 fun p8=>aF .i64 h p8.block p8.off fun n9=>aF .i64 h t2.block t2.off fun tO=>iZ .rem .i64 (bM (n7-n9)) tO fun EA=>idx 1 t5 t6 fun LO=>st fl h LO [vi EA] fun tN=>kn t2 t5 (bM (t6+1)) tN else e0 t2 t5 h
theorem Zn:(cp Jn (ce C fl k GX K))=qM C fl k (cp Jn (K .normal)) (cp VP (K (.exit 0))):=by kernel_rfl
def zm(kn:bV R):Nat→cz R
 |0=>fun _ _ _ _=>none
 |m+1=>qM C fl k (zm kn m) kn
theorem MG:∀m,(cp Jn (aQ m (bK C fl k GX 0 K)))=zm C fl k (cp VP (K .normal)) m
 |0=>by kernel_rfl
 |m+1=>mL (Zn C fl k _) (ak (fun L=>qM C fl k L _) (MG m))
def VR(kr:ag R):cz R:=zm C fl k (zl C fl k kr) k
theorem agQ:(cp Jn (ce C fl k Q1 K))=VR C fl k (cp O4 (K .ret)):=(pA (mM (MG C fl k (bT C fl k GW K)))).trans (ak (fun L=>zm C fl k L k) (py (Zm C fl k K)))
def VS{R:Type}(C:Callee)(fl k:Nat)(kx:cz R)(kr:ag R):ki R:=fun aI aH aJ t1 h=>cU h [vi aI,vi aH,vs aJ] fun Ky EB=>aF .i64 EB Ky 0 fun Kr=>aF .i64 EB Ky 1 fun S8=>bC EB Ky 2 fun s18=>aD C fl fn.cP [.agg ⟨[vi Kr,vi S8,vs s18]⟩,vi t1] EB fun v19 h20=>bB v19 fun s21=>kx ⟨Ky,0,none⟩ s21 0 h20
def ale(kr:ag R):ki R:=VS C fl k (VR C fl k kr) kr
theorem aqL(cn:ab):(cp aeU (ce C fl k (aeT cn) K))=VS C fl k (cp Jn (ce C fl k cn K)) (cp O4 (K .ret)):=by kernel_rfl
theorem aqM:(cp aeU (ce C fl k ald K))=ale C fl k (cp O4 (K .ret)):=(aqL C fl k K Q1).trans (ak (fun L0=>VS C fl k L0 _) (agQ C fl k K))
def pU(ax ay:Int)(aA:Sl)(p1:Int)(h:AH):Option (Value×AH):=ale C fl k (fun y4 q=>some (vi y4,q)) ax ay aA p1 h
theorem Sm(ax ay:Int)(aA:Sl)(p1:Int)(h):bk C fl k xH [.agg ⟨[vi ax,vi ay,vs aA]⟩,vi p1] h=pU C fl k ax ay aA p1 h:=KP (aqM C fl k (aE _)) ax ay aA p1 (by kernel_rfl) (by kernel_rfl)
def lS:aB:=⟨26,.seq (.region [oI 2 (.box (.t 0)),oI 4 (.mv (.c (.pointer none))),mc 5 0] [0,4,5]) (.seq (.seq (.region [oI 9 (.load (.agg [.int .i64,.int .i64,.slice,.int .i64,.slice]) (.t 2)),oI 10 (.call (.f 47) [.t 9] (.one (.one (.int .i64)))),m 6 10] [9,10]) (.seq (.region [m 11 6,ck 12 .neq 11 0] [11]) (.cond (.t 12) (.seq (.region [m 13 6,oI 4 (.mv (.c (.pointer none))),m 5 13] [1,2,6,12,13]) (.ret)) (kl [6,12])))) (.seq (.region [fa 15 0 2,oI 16 (.load (.agg [.int .i64,.int .i64,.slice]) (.t 15)),oI 17 (.call (.f 75) [.t 16] (.jn [.one .jW,.one (.int .i64)])),m 14 17,ex 18 14 0,ex 19 14 1,m 7 18,m 8 19] [14,15,16,17,18,19]) (.seq (.region [m 20 7,oI 21 (.load (.agg [.int .i64,.int .i64,.slice,.int .i64,.slice]) (.t 2)),m 22 1,oI 23 (.build [.pointer none,.int .i64 0,.int .i64 0,.slice none 0 0,.int .i64 0,.slice none 0 0,.slice none 0 0,.bool false,.int .i64 0,.int .i64 0,.slice none 0 0,.int .i64 0] [(0,1,.t 20),(1,5,.t 21),(9,1,.t 22)]),oI 24 (.box (.t 23)),m 25 8,m 4 24,m 5 25] [1,2,7,8,20,21,22,23,24,25]) (.ret)))),[.tmp 4,.tmp 5]⟩
theorem Jo:okF Tryz.prog 127 lS=true:=by kernel_rfl
def fk:aB:=⟨59,.seq (.region [mc 6 0] [6]) (.seq (.region [m 9 0,oI 10 (.cg (.t 9)),fa 11 8 10,li 12 11,m 7 12] [9,10,11,12]) (.seq (.seq (.region [m 13 0,oI 14 (.cg (.t 13)),fa 15 7 14,oI 16 (.load (.one .bool) (.t 15))] [13,14,15]) (.cond (.t 16) (.region [m 17 0,oI 18 (.cg (.t 17)),fa 19 1 18,fa 20 3 19,li 21 20,m 7 21] [16,17,18,19,20,21]) (kl [16]))) (.seq (.region [m 22 0,m 23 0,m 24 1,m 25 2,oI 26 (.call (.f 159) [.t 23,.t 24,.t 25] (.one (.one .slice))),m 27 7,oI 28 (.call (.f 158) [.t 22,.t 26,.t 27] (.one (.one .slice))),m 8 28] [7,22,23,24,25,26,27,28]) (.seq (.region [m 29 8,oI 30 (.call (.f 160) [.t 29] (.jn []))] [29,30]) (.seq (.seq (.region [m 31 0,m 32 1,m 33 8,oI 34 (.call (.f 161) [.t 31,.t 32,.t 33] (.one (.one .bool))),no 35 34] [31,32,33,34]) (.cond (.t 35) (.seq (.region [mc 6 11] [0,1,2,8,35]) (.ret)) (kl [35]))) (.seq (.seq (.region [m 36 0,oI 37 (.cg (.t 36)),fa 38 10 37,ls 39 38,ln 40 39,ck 41 .eql 40 65536] [36,37,38,39,40]) (.cond (.t 41) (.seq (.region [mc 6 8] [0,1,2,8,41]) (.ret)) (kl [41]))) (.seq (.region [m 42 0,m 43 0,oI 44 (.cg (.t 43)),fa 45 10 44,ls 46 45,m 47 8,oI 48 (.aO 1 [.slice none 0 0] [(0,1,.t 47)]),oI 49 (.append 1 24 (.t 46) (.t 48)),oI 50 (.cg (.t 42)),fa 51 10 50,sI 1 51 49] [42,43,44,45,46,47,48,49,50,51]) (.seq (.region [m 52 0,m 53 1,m 54 2,m 55 8,m 56 0,oI 57 (.vf 128 [.t 56] []),oI 58 (.call (.f 162) [.t 52,.t 53,.t 54,.t 55,.t 57] (.one (.one (.int .i64)))),m 6 58] [0,1,2,8,52,53,54,55,56,57,58]) (.ret))))))))),[.tmp 6]⟩
theorem yc:okF Tryz.prog 128 fk=true:=by kernel_rfl
def fm:aB:=⟨57,.seq (.region [mc 6 0] [6]) (.seq (.seq (.region [m 7 0,oI 8 (.cg (.t 7)),fa 9 11 8,lj 10 9,m 11 0,oI 12 (.cg (.t 11)),fa 13 10 12,lt 14 13,ln 15 14,cm 16 .eql 10 15,m 17 16,.fb 17 false [qI 18 (.mv (.t 0)),qI 19 (.mv (.t 1)),qI 20 (.mv (.t 0)),qI 21 (.cg (.t 20)),qI 22 (.bR 10 (.t 21)),qJ 23 (.load (.one .slice) (.t 22)),qI 24 (.mv (.t 0)),qI 25 (.cg (.t 24)),qI 26 (.bR 11 (.t 25)),qJ 27 (.load (.one (.int .i64)) (.t 26)),qI 28 (.di 1 (.t 23) (.t 27)),qI 29 (.load (.one .slice) (.t 28)),qI 30 (.call (.f 161) [.t 18,.t 19,.t 29] (.one (.one .bool))),qI 31 (.not (.t 30))],oI 32 (.pick (.t 17) (.c (.bool true)) (.t 31))] [7,8,9,10,11,12,13,14,15,16,17,18,19,20,21,22,23,24,25,26,27,28,29,30,31]) (.cond (.t 32) (.seq (.region [mc 6 13] [0,1,2,32]) (.ret)) (kl [32]))) (.seq (.region [m 33 0,oI 34 (.cg (.t 33)),fa 35 11 34,li 36 35,bc 37 .add 36 1,oI 38 (.cg (.t 33)),fa 39 11 38,sI 1 39 37] [33,34,35,36,37,38,39]) (.seq (.region [m 40 0,m 41 1,m 42 2,m 43 0,oI 44 (.cg (.t 43)),fa 45 10 44,lt 46 45,m 47 0,oI 48 (.cg (.t 47)),fa 49 11 48,lj 50 49,bc 51 .sub 50 1,ia 52 1 46 51,ls 53 52,m 54 0,oI 55 (.vf 134 [.t 54] []),oI 56 (.call (.f 162) [.t 40,.t 41,.t 42,.t 53,.t 55] (.one (.one (.int .i64)))),m 6 56] [0,1,2,40,41,42,43,44,45,46,47,48,49,50,51,52,53,54,55,56]) (.ret)))),[.tmp 6]⟩
theorem yd:okF Tryz.prog 134 fm=true:=by kernel_rfl
def uS(t6:Bool):List Value:=un 6 (.bool t6::un 71 [])
def we:ab:=.seq (.region [oI 6 (.mv (.c (.bool true)))] []) (.ret)
def VT:List Value:=un 78 []
def Jp(t8:Sl)(t12:Int):List Value:=un 8 (t8.v::un 3 (vi t12::un 65 []))
def wg:ab:=.seq (.region [m 67 12,m 68 8,ln 69 68,cm 70 .lss 67 69] [67,68,69]) (.seq (.cond (.t 70) (kl [70]) (.seq (kl [8,12,70]) (.exit 4))) (.seq (.block 5 (.seq (.region [m 73 8,m 74 12,ia 75 1 73 74,li 76 75,ck 77 .neq 76 0] [73,74,75,76]) (.cond (.t 77) (.seq (.region [oI 6 (.mv (.c (.bool false)))] [8,12,77]) (.ret)) (kl [77])))) (.region [m 71 12,bc 72 .add 71 1,m 12 72] [71,72])))
def AT:ab:=.seq (.block 4 (.loop wg)) we
def MH(cn:ab):ab:=.seq (.region [mc 12 0] []) cn
def GY:ab:=MH AT
def xI(t8:Sl):List Value:=un 8 (t8.v::un 69 [])
abbrev de(R:Type):=Sl→Int→Int→Sl→Int→AH→Option R
def dw(t0:Sl)(t2 t7:Int)(t8:Sl)(t9:Int):List Value:=t0.v::un 1 (vi t2::un 4 (vi t7::t8.v::vi t9::un 68 []))
def oR:ab:=.region [m 27 9,bc 28 .sub 27 1,m 9 28] [27,28]
def ni:ab:=.region [m 64 8,m 65 9,ia 66 1 64 65,pI (.store 1 (.t 66) (ci 0))] [64,65,66]
abbrev Jq(R:Type):=Sl→Int→Int→Sl→Int→Int→Int→AH→Option R
def Jr(t0:Sl)(t2 t7:Int)(t8:Sl)(t9 t10 t11:Int):List Value:=t0.v::un 1 (vi t2::un 4 (vi t7::t8.v::vi t9::vi t10::vi t11::un 66 []))
def nj:ab:=.seq (.region [m 33 11,m 34 7,cm 35 .lss 33 34] [33,34]) (.seq (.cond (.t 35) (kl [35]) (.seq (kl [10,11,35]) (.exit 2))) (.seq (.block 3 (.region [m 38 8,m 39 9,m 40 7,bb 41 .sub 39 40,m 42 11,bb 43 .add 41 42,m 44 8,m 45 9,m 46 7,bb 47 .sub 45 46,m 48 11,bb 49 .add 47 48,ia 50 1 44 49,lj 51 50,m 52 2,m 53 10,bb 54 .sub 52 53,m 55 0,m 56 11,ia 57 1 55 56,lj 58 57,bb 59 .mul 54 58,bb 60 .add 51 59,m 61 2,bb 62 .rem 60 61,ia 63 1 38 43,sI 1 63 62] [38,39,40,41,42,43,44,45,46,47,48,49,50,51,52,53,54,55,56,57,58,59,60,61,62,63])) (.region [m 36 11,bc 37 .add 36 1,m 11 37] [36,37])))
def qN:ab:=.seq (.block 2 (.loop nj)) ni
def BE(cn:ab):ab:=.seq (.seq (.region [m 29 8,m 30 9,ia 31 1 29 30,li 32 31,m 10 32] [29,30,31,32]) (.region [mc 11 0] [])) cn
def wh:ab:=BE qN
def Fm(cn vg:ab):ab:=.seq (.block 1 vg) cn
def AU:ab:=Fm oR wh
def MI(cn:ab):ab:=.seq (.seq (.region [m 24 9,m 25 7,cm 26 .geq 24 25] [24,25]) (.cond (.t 26) (kl [26]) (.seq (kl [0,2,7,9,26]) (.exit 0)))) cn
def GZ:ab:=MI AU
def Q2:ab:=.seq (.block 0 (.loop GZ)) GY
def aeV(cn:ab):ab:=.seq (.seq (.region [oI 6 (.mv (.c (.bool false)))] [6]) (.seq (.region [m 13 0,ln 14 13,m 7 14] [13,14]) (.seq (.region [oI 15 (.aO 0 [] []),m 16 1,oI 17 (.append 1 8 (.t 15) (.t 16)),m 8 17] [1,15,16,17]) (.seq (.region [m 18 8,oI 19 (.aO 1 [.int .i64 0] [(0,1,ci 1)]),oI 20 (.append 1 8 (.t 18) (.t 19)),m 8 20] [18,19,20]) (.region [m 21 8,ln 22 21,bc 23 .sub 22 1,m 9 23] [21,22,23]))))) cn
def alf:ab:=aeV Q2
def aeW(t0 t1:Sl)(t2:Int):List Value:=t0.v::t1.v::vi t2::un 75 []
def mQ:aB:=⟨78,alf,[.tmp 6]⟩
theorem Le:okF Tryz.prog 136 mQ=true:=by kernel_rfl
def ye{R:Type}(C:Callee)(fl k:Nat)(kr:au R):av R:=fun h=>kr true h
theorem NY:(cp VT (ce C fl k we K))=ye C fl k (cp uS (K .ret)):=by kernel_rfl
def iC{R:Type}(C:Callee)(fl k:Nat)(kn:bU R)(e4:av R)(kr:au R):bU R:=fun t8 t12 h=>if decide (t12<((t8.l:Nat):Int))=true then idx 1 t8 t12 fun p1=>aF .i64 h p1.block p1.off fun n2=>if (n2 !=0)=true then kr false h else kn t8 (bM (t12+1)) h else e4 h
theorem NZ:(cp Jp (ce C fl k wg K))=iC C fl k (cp Jp (K .normal)) (cp VT (K (.exit 4))) (cp uS (K .ret)):=by kernel_rfl
def mE(kn:av R)(kr:au R):Nat→bU R
 |0=>fun _ _ _=>none
 |m+1=>iC C fl k (mE kn kr m) kn kr
theorem BF:∀m,(cp Jp (aQ m (bK C fl k wg 4 K)))=mE C fl k (cp VT (K .normal)) (cp uS (K .ret)) m
 |0=>by kernel_rfl
 |m+1=>mL (NZ C fl k _) (ak (fun L=>iC C fl k L _ _) (BF m))
def C2(kr:au R):bU R:=mE C fl k (ye C fl k kr) kr k
theorem Sn:(cp Jp (ce C fl k AT K))=C2 C fl k (cp uS (K .ret)):=(pA (mM (BF C fl k (bT C fl k we K)))).trans (ak (fun L=>mE C fl k L _ k) (py (NY C fl k K)))
def AV{R:Type}(C:Callee)(fl k:Nat)(kx:bU R)(kr:au R):an R:=fun t8 h=>kx t8 0 h
def Em(kr:au R):an R:=AV C fl k (C2 C fl k kr) kr
theorem Zo(cn:ab):(cp xI (ce C fl k (MH cn) K))=AV C fl k (cp Jp (ce C fl k cn K)) (cp uS (K .ret)):=by kernel_rfl
theorem Zp:(cp xI (ce C fl k GY K))=Em C fl k (cp uS (K .ret)):=(Zo C fl k K AT).trans (ak (fun L0=>AV C fl k L0 _) (Sn C fl k K))
def mF{R:Type}(C:Callee)(fl k:Nat)(kn:de R)(e0:an R):de R:=fun t0 t2 t7 t8 t9 h=>kn t0 t2 t7 t8 (bM (t9-1)) h
theorem BG:(cp dw (ce C fl k oR K))=mF C fl k (cp dw (K .normal)) (cp xI (K (.exit 0))):=by kernel_rfl
def ko{R:Type}(C:Callee)(fl k:Nat)(kn:de R):de R:=fun t0 t2 t7 t8 t9 h=>idx 1 t8 t9 fun p3=>st fl h p3 [vi 0] fun h4=>kn t0 t2 t7 t8 t9 h4
theorem EU:(cp dw (ce C fl k ni K))=ko C fl k (cp dw (K .normal)):=by kernel_rfl
def ef{R:Type}(C:Callee)(fl k:Nat)(kn:Jq R)(e2:de R):Jq R:=fun t0 t2 t7 t8 t9 t10 t11 h=>if decide (t11<t7)=true then idx 1 t8 (bM (bM (t9-t7)+t11)) fun p5=>aF .i64 h p5.block p5.off fun n6=>idx 1 t0 t11 fun p7=>aF .i64 h p7.block p7.off fun n8=>iZ .rem .i64 (bM (n6+(bM (bM (t2-t10)*n8)))) t2 fun n9=>idx 1 t8 (bM (bM (t9-t7)+t11)) fun Xw=>st fl h Xw [vi n9] fun rL=>kn t0 t2 t7 t8 t9 t10 (bM (t11+1)) rL else e2 t0 t2 t7 t8 t9 h
theorem EV:(cp Jr (ce C fl k nj K))=ef C fl k (cp Jr (K .normal)) (cp dw (K (.exit 2))):=by kernel_rfl
def hJ(kn:de R):Nat→Jq R
 |0=>fun _ _ _ _ _ _ _ _=>none
 |m+1=>ef C fl k (hJ kn m) kn
theorem uu:∀m,(cp Jr (aQ m (bK C fl k nj 2 K)))=hJ C fl k (cp dw (K .normal)) m
 |0=>by kernel_rfl
 |m+1=>mL (EV C fl k _) (ak (fun L=>ef C fl k L _) (uu m))
def tZ(kn:de R):Jq R:=hJ C fl k (ko C fl k kn) k
theorem Js:(cp Jr (ce C fl k qN K))=tZ C fl k (cp dw (K .normal)):=(pA (mM (uu C fl k (bT C fl k ni K)))).trans (ak (fun L=>hJ C fl k L k) (py (EU C fl k K)))
def oS{R:Type}(C:Callee)(fl k:Nat)(kx:Jq R)(kn:de R):de R:=fun t0 t2 t7 t8 t9 h=>idx 1 t8 t9 fun LO=>aF .i64 h LO.block LO.off fun DA=>kx t0 t2 t7 t8 t9 DA 0 h
def sM(kn:de R):de R:=oS C fl k (tZ C fl k kn) kn
theorem N0(cn:ab):(cp dw (ce C fl k (BE cn) K))=oS C fl k (cp Jr (ce C fl k cn K)) (cp dw (K .normal)):=by kernel_rfl
theorem N1:(cp dw (ce C fl k wh K))=sM C fl k (cp dw (K .normal)):=(N0 C fl k K qN).trans (ak (fun L0=>oS C fl k L0 _) (Js C fl k K))
def uT{R:Type}(C:Callee)(fl k:Nat)(kx:de R)(u0:de R)(kn:de R)(e0:an R):de R:=fun t0 t2 t7 t8 t9 h=>u0 t0 t2 t7 t8 t9 h
def C3(kn:de R)(e0:an R):de R:=uT C fl k (mF C fl k kn e0) (sM C fl k (mF C fl k kn e0)) kn e0
theorem So(cn vg:ab):(cp dw (ce C fl k (Fm cn vg) K))=uT C fl k (cp dw (ce C fl k cn K)) (cp dw (ce C fl k vg (vx 1 (bT C fl k cn K)))) (cp dw (K .normal)) (cp xI (K (.exit 0))):=by kernel_rfl
theorem Sr:(cp dw (ce C fl k AU K))=C3 C fl k (cp dw (K .normal)) (cp xI (K (.exit 0))):=(So C fl k K oR wh).trans (pO (fun L0 L1=>uT C fl k L0 L1 _ _) (BG C fl k K) ((N1 C fl k (vx 1 (bT C fl k oR K))).trans (ak (fun L0=>sM C fl k L0) (bn1 (BG C fl k K)))))
def wi{R:Type}(C:Callee)(fl k:Nat)(kx:de R)(kn:de R)(e0:an R):de R:=fun t0 t2 t7 t8 t9 h=>if decide (t9≥t7)=true then kx t0 t2 t7 t8 t9 h else e0 t8 h
def qO(kn:de R)(e0:an R):de R:=wi C fl k (C3 C fl k kn e0) kn e0
theorem Zq(cn:ab):(cp dw (ce C fl k (MI cn) K))=wi C fl k (cp dw (ce C fl k cn K)) (cp dw (K .normal)) (cp xI (K (.exit 0))):=by kernel_rfl
theorem Zr:(cp dw (ce C fl k GZ K))=qO C fl k (cp dw (K .normal)) (cp xI (K (.exit 0))):=(Zq C fl k K AU).trans (ak (fun L0=>wi C fl k L0 _ _) (Sr C fl k K))
def nQ(kn:an R):Nat→de R
 |0=>fun _ _ _ _ _ _=>none
 |m+1=>qO C fl k (nQ kn m) kn
theorem MJ:∀m,(cp dw (aQ m (bK C fl k GZ 0 K)))=nQ C fl k (cp xI (K .normal)) m
 |0=>by kernel_rfl
 |m+1=>mL (Zr C fl k _) (ak (fun L=>qO C fl k L _) (MJ m))
def AW(kr:au R):de R:=nQ C fl k (Em C fl k kr) k
theorem agR:(cp dw (ce C fl k Q2 K))=AW C fl k (cp uS (K .ret)):=(pA (mM (MJ C fl k (bT C fl k GY K)))).trans (ak (fun L=>nQ C fl k L k) (py (Zp C fl k K)))
def VU{R:Type}(C:Callee)(fl k:Nat)(kx:de R)(kr:au R):ff R:=fun t0 t1 t2 h=>cU h [] fun Ky EB=>iJ fl 1 8 ⟨(some ⟨Ky,0,none⟩),0,0⟩ t1 EB fun Xg HK=>cU HK [vi 1] fun b18 HL=>iJ fl 1 8 Xg ⟨(some ⟨b18,0,none⟩),1,1⟩ HL fun TZ RX=>kx t0 t2 ((t0.l:Nat):Int) TZ (bM (((TZ.l:Nat):Int)-1)) RX
def alg(kr:au R):ff R:=VU C fl k (AW C fl k kr) kr
theorem aqN(cn:ab):(cp aeW (ce C fl k (aeV cn) K))=VU C fl k (cp dw (ce C fl k cn K)) (cp uS (K .ret)):=by kernel_rfl
theorem aqO:(cp aeW (ce C fl k alf K))=alg C fl k (cp uS (K .ret)):=(aqN C fl k K Q2).trans (ak (fun L0=>VU C fl k L0 _) (agR C fl k K))
def mC(p0 p1:Sl)(p2:Int)(h:AH):Option (Value×AH):=alg C fl k (fun y6 q=>some (.bool y6,q)) p0 p1 p2 h
theorem Jt(p0 p1:Sl)(p2:Int)(h):bk C fl k mQ [vs p0,vs p1,vi p2] h=mC C fl k p0 p1 p2 h:=yI (aqO C fl k (aE _)) p0 p1 p2 (by kernel_rfl) (by kernel_rfl)
def O5(t6:Sl):List Value:=un 6 (t6.v::un 19 [])
def G1:ab:=.seq (.region [m 25 7,m 6 25] [7,25]) (.ret)
def VV(t7:Sl):List Value:=un 7 (t7.v::un 18 [])
abbrev Ju(R:Type):=Int→Int→Int→Sl→Int→AH→Option R
def Jv(t0 t1 t2:Int)(t7:Sl)(t8:Int):List Value:=vi t0::vi t1::vi t2::un 4 (t7.v::vi t8::un 17 [])
def G2:ab:=.seq (.region [m 11 8,m 12 2,cm 13 .lss 11 12] [11,12]) (.seq (.cond (.t 13) (kl [13]) (.seq (kl [0,1,2,8,13]) (.exit 0))) (.seq (.block 1 (.seq (.region [m 16 7,m 17 8,m 18 0,m 19 1,bb 20 .rem 18 19,ia 21 1 16 17,sI 1 21 20] [16,17,18,19,20,21]) (.region [m 22 0,m 23 1,bb 24 .quo 22 23,m 0 24] [22,23,24]))) (.region [m 14 8,bc 15 .add 14 1,m 8 15] [14,15])))
def Q3:ab:=.seq (.block 0 (.loop G2)) G1
def aeX(cn:ab):ab:=.seq (.seq (.region [oI 6 (.mv (.c (.slice none 0 0)))] [6]) (.seq (.region [m 9 2,oI 10 (.cH 8 [.int .i64 0] (.t 9) (.t 9)),m 7 10] [9,10]) (.region [mc 8 0] []))) cn
def alh:ab:=aeX Q3
abbrev Jw(R:Type):=Int→Int→Int→AH→Option R
def aeY(t0 t1 t2:Int):List Value:=vi t0::vi t1::vi t2::un 23 []
def oT:aB:=⟨26,alh,[.tmp 6]⟩
theorem N2:okF Tryz.prog 137 oT=true:=by kernel_rfl
def Lf{R:Type}(C:Callee)(fl k:Nat)(kr:an R):an R:=fun t7 h=>kr t7 h
theorem Zs:(cp VV (ce C fl k G1 K))=Lf C fl k (cp O5 (K .ret)):=by kernel_rfl
def qP{R:Type}(C:Callee)(fl k:Nat)(kn:Ju R)(e0:an R):Ju R:=fun t0 t1 t2 t7 t8 h=>if decide (t8<t2)=true then iZ .rem .i64 t0 t1 fun n1=>idx 1 t7 t8 fun p2=>st fl h p2 [vi n1] fun h3=>iZ .quo .i64 t0 t1 fun n4=>kn n4 t1 t2 t7 (bM (t8+1)) h3 else e0 t7 h
theorem Zt:(cp Jv (ce C fl k G2 K))=qP C fl k (cp Jv (K .normal)) (cp VV (K (.exit 0))):=by kernel_rfl
def zn(kn:an R):Nat→Ju R
 |0=>fun _ _ _ _ _ _=>none
 |m+1=>qP C fl k (zn kn m) kn
theorem MK:∀m,(cp Jv (aQ m (bK C fl k G2 0 K)))=zn C fl k (cp VV (K .normal)) m
 |0=>by kernel_rfl
 |m+1=>mL (Zt C fl k _) (ak (fun L=>qP C fl k L _) (MK m))
def aeZ(kr:an R):Ju R:=zn C fl k (Lf C fl k kr) k
theorem agS:(cp Jv (ce C fl k Q3 K))=aeZ C fl k (cp O5 (K .ret)):=(pA (mM (MK C fl k (bT C fl k G1 K)))).trans (ak (fun L=>zn C fl k L k) (py (Zs C fl k K)))
def VW{R:Type}(C:Callee)(fl k:Nat)(kx:Ju R)(kr:an R):Jw R:=fun t0 t1 t2 h=>wU 8 [.int .i64 0] t2 t2 h fun s5 h6=>kx t0 t1 t2 s5 0 h6
def ali(kr:an R):Jw R:=VW C fl k (aeZ C fl k kr) kr
theorem aqP(cn:ab):(cp aeY (ce C fl k (aeX cn) K))=VW C fl k (cp Jv (ce C fl k cn K)) (cp O5 (K .ret)):=by kernel_rfl
theorem aqQ:(cp aeY (ce C fl k alh K))=ali C fl k (cp O5 (K .ret)):=(aqP C fl k K Q3).trans (ak (fun L0=>VW C fl k L0 _) (agS C fl k K))
def ly(p0 p1 p2:Int)(h:AH):Option (Value×AH):=ali C fl k (fun y6 q=>some (vs y6,q)) p0 p1 p2 h
theorem Lg(p0 p1 p2:Int)(h):bk C fl k oT [vi p0,vi p1,vi p2] h=ly C fl k p0 p1 p2 h:=yI (aqQ C fl k (aE _)) p0 p1 p2 (by kernel_rfl) (by kernel_rfl)
def gB:aB:=⟨5,.seq (.region [oI 2 (.mv (.c (.bool false)))] [2]) (.seq (.region [m 3 0,ck 4 .neq 3 0,m 2 4] [0,3,4]) (.ret)),[.tmp 2]⟩
theorem AX:okF Tryz.prog 138 gB=true:=by kernel_rfl
def aqR(t4 t5:Int):List Value:=un 4 (vi t4::vi t5::un 30 [])
def alj:ab:=.seq (.region [mc 4 0,mc 5 0] [4,5]) (.seq (.region [m 6 0,m 7 1,oI 8 (.call (.f 144) [.t 6,.t 7] (.one (.one (.int .i64)))),m 1 8] [6,7,8]) (.seq (.region [m 9 1,ck 10 .eql 9 0] [9]) (.seq (.cond (.t 10) (.seq (.region [mc 4 0,mc 5 7] [0,1,10]) (.ret)) (kl [10])) (.seq (.region [m 11 0,oI 12 (.cg (.t 11)),fa 13 4 12,lt 14 13,m 15 0,oI 16 (.cg (.t 15)),fa 17 3 16,lj 18 17,bc 19 .sub 18 1,m 20 0,oI 21 (.cg (.t 20)),fa 22 5 21,lt 23 22,m 24 1,ia 25 1 23 24,lj 26 25,bb 27 .sub 19 26,m 28 0,oI 29 (.cg (.t 28)),fa 30 3 29,lj 31 30,bc 32 .sub 31 1,bb 33 .rem 27 32,ia 34 1 14 33,li 35 34,m 4 35,mc 5 0] [0,1,11,12,13,14,15,16,17,18,19,20,21,22,23,24,25,26,27,28,29,30,31,32,33,34,35]) (.ret)))))
def aqS(t0:OA)(t1:Int):List Value:=vn t0::vi t1::un 34 []
def oU:aB:=⟨36,alj,[.tmp 4,.tmp 5]⟩
theorem N3:okF Tryz.prog 139 oU=true:=by kernel_rfl
def alk{R:Type}(C:Callee)(fl k:Nat)(kr:gy R):fg R:=fun t0 t1 h=>aD C fl fn.eX [.pointer t0,vi t1] h fun v1 h2=>asInt .i64 v1 fun n3=>if (n3==0)=true then kr 0 7 h2 else cT (.pointer t0) fun p4=>bC h2 p4.block (p4.off+4) fun s5=>cT (.pointer t0) fun p6=>aF .i64 h2 p6.block (p6.off+3) fun n7=>cT (.pointer t0) fun p8=>bC h2 p8.block (p8.off+5) fun s9=>idx 1 s9 n3 fun Xw=>aF .i64 h2 Xw.block Xw.off fun EA=>cT (.pointer t0) fun LO=>aF .i64 h2 LO.block (LO.off+3) fun DA=>iZ .rem .i64 (bM (bM (n7-1)-EA)) (bM (DA-1)) fun BS=>idx 1 s5 BS fun Xb=>aF .i64 h2 Xb.block Xb.off fun Kr=>kr Kr 0 h2
theorem aqT:(cp aqS (ce C fl k alj K))=alk C fl k (cp aqR (K .ret)):=by kernel_rfl
def gU(p0:OA)(p1:Int)(h:AH):Option (Value×AH):=alk C fl k (fun y4 y5 q=>some (.tuple ⟨[vi y4,vi y5]⟩,q)) p0 p1 h
theorem zo(p0:OA)(p1:Int)(h):bk C fl k oU [.pointer p0,vi p1] h=gU C fl k p0 p1 h:=CG (aqT C fl k (aE _)) p0 p1 (by kernel_rfl) (by kernel_rfl)
def O6(t6:Sl):List Value:=un 6 (t6.v::un 22 [])
def G3:ab:=.seq (.region [m 28 7,m 6 28] [7,28]) (.ret)
def VX(t7:Sl):List Value:=un 7 (t7.v::un 21 [])
abbrev Jy(R:Type):=OA→Int→Sl→Sl→Int→Int→AH→Option R
def Jz(t0:OA)(t1:Int)(t7 t13:Sl)(t14 t15:Int):List Value:=vn t0::vi t1::un 5 (t7.v::un 5 (t13.v::vi t14::vi t15::un 13 []))
def G4:ab:=.seq (.region [cm 16 .lss 15 14] []) (.seq (.cond (.t 16) (kl [16]) (.seq (kl [0,1,13,14,15,16]) (.exit 0))) (.seq (.block 1 (.seq (.region [m 17 15,ia 18 1 13 15,li 19 18,m 8 17,m 9 19] [17,18,19]) (.region [m 20 7,m 21 8,m 22 0,m 23 1,m 24 9,oI 25 (.call (.f 120) [.t 22,.t 23,.t 24] (.one (.one (.int .i64)))),ia 26 1 20 21,sI 1 26 25] [8,9,20,21,22,23,24,25,26]))) (.region [bc 27 .add 15 1,m 15 27] [27])))
def Q4:ab:=.seq (.block 0 (.loop G4)) G3
def ae0(cn:ab):ab:=.seq (.seq (.region [oI 6 (.mv (.c (.slice none 0 0)))] [6]) (.seq (.region [m 10 2,ln 11 10,oI 12 (.cH 8 [.int .i64 0] (.t 11) (.t 11)),m 7 12] [10,11,12]) (.region [m 13 2,ln 14 13,mc 15 0] [2]))) cn
def alm:ab:=ae0 Q4
abbrev JA(R:Type):=OA→Int→Sl→AH→Option R
def ae1(t0:OA)(t1:Int)(t2:Sl):List Value:=vn t0::vi t1::t2.v::un 26 []
def lT:aB:=⟨29,alm,[.tmp 6]⟩
theorem JB:okF Tryz.prog 140 lT=true:=by kernel_rfl
def Lh{R:Type}(C:Callee)(fl k:Nat)(kr:an R):an R:=fun t7 h=>kr t7 h
theorem Zu:(cp VX (ce C fl k G3 K))=Lh C fl k (cp O6 (K .ret)):=by kernel_rfl
def qQ{R:Type}(C:Callee)(fl k:Nat)(kn:Jy R)(e0:an R):Jy R:=fun t0 t1 t7 t13 t14 t15 h=>if decide (t15<t14)=true then idx 1 t13 t15 fun p1=>aF .i64 h p1.block p1.off fun n2=>aD C fl fn.dT [.pointer t0,vi t1,vi n2] h fun v3 h4=>asInt .i64 v3 fun n5=>idx 1 t7 t15 fun p6=>st fl h4 p6 [vi n5] fun h7=>kn t0 t1 t7 t13 t14 (bM (t15+1)) h7 else e0 t7 h
theorem Zv:(cp Jz (ce C fl k G4 K))=qQ C fl k (cp Jz (K .normal)) (cp VX (K (.exit 0))):=by kernel_rfl
def zp(kn:an R):Nat→Jy R
 |0=>fun _ _ _ _ _ _ _=>none
 |m+1=>qQ C fl k (zp kn m) kn
theorem ML:∀m,(cp Jz (aQ m (bK C fl k G4 0 K)))=zp C fl k (cp VX (K .normal)) m
 |0=>by kernel_rfl
 |m+1=>mL (Zv C fl k _) (ak (fun L=>qQ C fl k L _) (ML m))
def ae2(kr:an R):Jy R:=zp C fl k (Lh C fl k kr) k
theorem agT:(cp Jz (ce C fl k Q4 K))=ae2 C fl k (cp O6 (K .ret)):=(pA (mM (ML C fl k (bT C fl k G3 K)))).trans (ak (fun L=>zp C fl k L k) (py (Zu C fl k K)))
def VY{R:Type}(C:Callee)(fl k:Nat)(kx:Jy R)(kr:an R):JA R:=fun t0 t1 t2 h=>wU 8 [.int .i64 0] ((t2.l:Nat):Int) ((t2.l:Nat):Int) h fun s8 h9=>kx t0 t1 s8 t2 ((t2.l:Nat):Int) 0 h9
def aln(kr:an R):JA R:=VY C fl k (ae2 C fl k kr) kr
theorem aqU(cn:ab):(cp ae1 (ce C fl k (ae0 cn) K))=VY C fl k (cp Jz (ce C fl k cn K)) (cp O6 (K .ret)):=by kernel_rfl
theorem aqV:(cp ae1 (ce C fl k alm K))=aln C fl k (cp O6 (K .ret)):=(aqU C fl k K Q4).trans (ak (fun L0=>VY C fl k L0 _) (agT C fl k K))
def jg(p0:OA)(p1:Int)(p2:Sl)(h:AH):Option (Value×AH):=aln C fl k (fun y6 q=>some (vs y6,q)) p0 p1 p2 h
theorem wj(p0:OA)(p1:Int)(p2:Sl)(h):bk C fl k lT [.pointer p0,vi p1,vs p2] h=jg C fl k p0 p1 p2 h:=yI (aqV C fl k (aE _)) p0 p1 p2 (by kernel_rfl) (by kernel_rfl)
def oV(t4:Int):List Value:=un 4 (vi t4::un 46 [])
def wk:ab:=.seq (.region [mc 4 0] []) (.ret)
def VZ:List Value:=un 51 []
def JC(t0:OA)(t38:Sl)(t39 t40:Int):List Value:=vn t0::un 37 (t38.v::vi t39::vi t40::un 10 [])
def wm:ab:=.seq (.region [cm 41 .lss 40 39] []) (.seq (.cond (.t 41) (kl [41]) (.seq (kl [0,38,39,40,41]) (.exit 2))) (.seq (.block 3 (.seq (.region [ia 42 1 38 40,ls 43 42,m 8 43] [42,43]) (.seq (.region [m 44 0,m 45 8,oI 46 (.call (.f 110) [.t 44,.t 45] (.one (.one (.int .i64)))),m 9 46] [8,44,45,46]) (.seq (.region [m 47 9,ck 48 .neq 47 0] [47]) (.cond (.t 48) (.seq (.region [m 49 9,m 4 49] [0,9,38,39,40,48,49]) (.ret)) (kl [9,48])))))) (.region [bc 50 .add 40 1,m 40 50] [50])))
def AY:ab:=.seq (.block 2 (.loop wm)) wk
def MM(cn:ab):ab:=.seq (.region [fa 37 1 3,ls 38 37,ln 39 38,mc 40 0] [3,37]) cn
def G5:ab:=MM AY
abbrev JD(R:Type):=OA→Addr→AH→Option R
def O7(t0:OA)(t3:Addr):List Value:=vn t0::un 2 (vp t3::un 47 [])
abbrev JE(R:Type):=OA→Addr→Sl→Int→Int→AH→Option R
def JF(t0:OA)(t3:Addr)(t25:Sl)(t26 t27:Int):List Value:=vn t0::un 2 (vp t3::un 21 (t25.v::vi t26::vi t27::un 23 []))
def G6:ab:=.seq (.region [cm 28 .lss 27 26] []) (.seq (.cond (.t 28) (kl [28]) (.seq (kl [25,26,27,28]) (.exit 0))) (.seq (.block 1 (.seq (.region [ia 29 1 25 27,ls 30 29,m 6 30] [29,30]) (.seq (.region [m 31 6,ln 32 31,fa 33 0 3,li 34 33,cm 35 .neq 32 34] [6,31,32,33,34]) (.cond (.t 35) (.seq (.region [mc 4 3] [0,3,25,26,27,35]) (.ret)) (kl [35]))))) (.region [bc 36 .add 27 1,m 27 36] [36])))
def Q5:ab:=.seq (.block 0 (.loop G6)) G5
def ae3(cn:ab):ab:=.seq (.seq (.region [oI 3 (.box (.t 1)),mc 4 0] [1,4]) (.seq (.region [fa 10 0 3,li 11 10,ck 12 .lss 11 0,m 13 12,.fb 13 false [qI 14 (.bR 0 (.t 3)),qI 15 (.load (.one (.int .i64)) (.t 14)),qI 16 (.cmp .gtr .i64 (.t 15) (ci 256))],oI 17 (.pick (.t 13) (.c (.bool true)) (.t 16)),m 18 17,.fb 18 false [qI 19 (.bR 1 (.t 3)),qI 20 (.load (.one .slice) (.t 19)),qI 21 (.len (.t 20)),qI 22 (.cmp .gtr .i64 (.t 21) (ci 256))],oI 23 (.pick (.t 18) (.c (.bool true)) (.t 22))] [10,11,12,13,14,15,16,17,18,19,20,21,22]) (.seq (.cond (.t 23) (.seq (.region [mc 4 3] [0,3,23]) (.ret)) (kl [23])) (.region [fa 24 1 3,ls 25 24,ln 26 25,mc 27 0] [24])))) cn
def alo:ab:=ae3 Q5
def ae4(t0:OA)(nv:Int)(nw:Sl):List Value:=vn t0::.agg ⟨[vi nv,vs nw]⟩::un 49 []
def oW:aB:=⟨51,alo,[.tmp 4]⟩
theorem N4:okF Tryz.prog 141 oW=true:=by kernel_rfl
def yf{R:Type}(C:Callee)(fl k:Nat)(kr:ag R):av R:=fun h=>kr 0 h
theorem N5:(cp VZ (ce C fl k wk K))=yf C fl k (cp oV (K .ret)):=by kernel_rfl
def iD{R:Type}(C:Callee)(fl k:Nat)(kn:dW R)(e2:av R)(kr:ag R):dW R:=fun t0 t38 t39 t40 h=>if decide (t40<t39)=true then idx 1 t38 t40 fun p1=>bC h p1.block p1.off fun s2=>aD C fl fn.fY [.pointer t0,vs s2] h fun v3 h4=>asInt .i64 v3 fun n5=>if (n5 !=0)=true then kr n5 h4 else kn t0 t38 t39 (bM (t40+1)) h4 else e2 h
theorem N6:(cp JC (ce C fl k wm K))=iD C fl k (cp JC (K .normal)) (cp VZ (K (.exit 2))) (cp oV (K .ret)):=by kernel_rfl
def mG(kn:av R)(kr:ag R):Nat→dW R
 |0=>fun _ _ _ _ _=>none
 |m+1=>iD C fl k (mG kn kr m) kn kr
theorem BH:∀m,(cp JC (aQ m (bK C fl k wm 2 K)))=mG C fl k (cp VZ (K .normal)) (cp oV (K .ret)) m
 |0=>by kernel_rfl
 |m+1=>mL (N6 C fl k _) (ak (fun L=>iD C fl k L _ _) (BH m))
def C4(kr:ag R):dW R:=mG C fl k (yf C fl k kr) kr k
theorem Ss:(cp JC (ce C fl k AY K))=C4 C fl k (cp oV (K .ret)):=(pA (mM (BH C fl k (bT C fl k wk K)))).trans (ak (fun L=>mG C fl k L _ k) (py (N5 C fl k K)))
def AZ{R:Type}(C:Callee)(fl k:Nat)(kx:dW R)(kr:ag R):JD R:=fun t0 t3 h=>bC h t3.block (t3.off+1) fun s6=>kx t0 s6 ((s6.l:Nat):Int) 0 h
def En(kr:ag R):JD R:=AZ C fl k (C4 C fl k kr) kr
theorem Zw(cn:ab):(cp O7 (ce C fl k (MM cn) K))=AZ C fl k (cp JC (ce C fl k cn K)) (cp oV (K .ret)):=by kernel_rfl
theorem Zx:(cp O7 (ce C fl k G5 K))=En C fl k (cp oV (K .ret)):=(Zw C fl k K AY).trans (ak (fun L0=>AZ C fl k L0 _) (Ss C fl k K))
def qR{R:Type}(C:Callee)(fl k:Nat)(kn:JE R)(e0:JD R)(kr:ag R):JE R:=fun t0 t3 t25 t26 t27 h=>if decide (t27<t26)=true then idx 1 t25 t27 fun p7=>bC h p7.block p7.off fun s8=>aF .i64 h t3.block t3.off fun n9=>if (((s8.l:Nat):Int) !=n9)=true then kr 3 h else kn t0 t3 t25 t26 (bM (t27+1)) h else e0 t0 t3 h
theorem Zy:(cp JF (ce C fl k G6 K))=qR C fl k (cp JF (K .normal)) (cp O7 (K (.exit 0))) (cp oV (K .ret)):=by kernel_rfl
def zq(kn:JD R)(kr:ag R):Nat→JE R
 |0=>fun _ _ _ _ _ _=>none
 |m+1=>qR C fl k (zq kn kr m) kn kr
theorem MN:∀m,(cp JF (aQ m (bK C fl k G6 0 K)))=zq C fl k (cp O7 (K .normal)) (cp oV (K .ret)) m
 |0=>by kernel_rfl
 |m+1=>mL (Zy C fl k _) (ak (fun L=>qR C fl k L _ _) (MN m))
def V0(kr:ag R):JE R:=zq C fl k (En C fl k kr) kr k
theorem agU:(cp JF (ce C fl k Q5 K))=V0 C fl k (cp oV (K .ret)):=(pA (mM (MN C fl k (bT C fl k G5 K)))).trans (ak (fun L=>zq C fl k L _ k) (py (Zx C fl k K)))
def V1{R:Type}(C:Callee)(fl k:Nat)(kx:JE R)(kr:ag R):JA R:=fun t0 nv nw h=>cU h [vi nv,vs nw] fun b10 rL=>aF .i64 rL b10 0 fun ED=>if decide (ED<0)=false then aF .i64 rL b10 0 fun DA=>if decide (DA>256)=false then bC rL b10 1 fun Xc=>if decide (((Xc.l:Nat):Int)>256)=true then kr 3 rL else bC rL b10 1 fun s15=>kx t0 ⟨b10,0,none⟩ s15 ((s15.l:Nat):Int) 0 rL else kr 3 rL else kr 3 rL
def alp(kr:ag R):JA R:=V1 C fl k (V0 C fl k kr) kr
theorem aqW(cn:ab):(cp ae4 (ce C fl k (ae3 cn) K))=V1 C fl k (cp JF (ce C fl k cn K)) (cp oV (K .ret)):=by kernel_rfl
theorem aqX:(cp ae4 (ce C fl k alo K))=alp C fl k (cp oV (K .ret)):=(aqW C fl k K Q5).trans (ak (fun L0=>V1 C fl k L0 _) (agU C fl k K))
def lz(p0:OA)(gm:Int)(gk:Sl)(h:AH):Option (Value×AH):=alp C fl k (fun y4 q=>some (vi y4,q)) p0 gm gk h
theorem zr(p0:OA)(gm:Int)(gk:Sl)(h):bk C fl k oW [.pointer p0,.agg ⟨[vi gm,vs gk]⟩] h=lz C fl k p0 gm gk h:=yI (aqX C fl k (aE _)) p0 gm gk (by kernel_rfl) (by kernel_rfl)
def O8(t2:Sl):List Value:=un 2 (t2.v::un 20 [])
def G7:ab:=.seq (.region [m 22 3,m 2 22] [3,22]) (.ret)
def V2(t3:Sl):List Value:=un 3 (t3.v::un 19 [])
def JG(t3 t9:Sl)(t10 t11:Int):List Value:=un 3 (t3.v::un 5 (t9.v::vi t10::vi t11::un 11 []))
def G8:ab:=.seq (.region [cm 12 .lss 11 10] []) (.seq (.cond (.t 12) (kl [12]) (.seq (kl [9,10,11,12]) (.exit 0))) (.seq (.block 1 (.seq (.region [m 13 11,ia 14 1 9 11,ls 15 14,m 4 13,m 5 15] [13,14,15]) (.region [m 16 3,m 17 4,m 18 5,oI 19 (.call (.f 118) [.t 18] (.one (.one .slice))),ia 20 1 16 17,sI 1 20 19] [4,5,16,17,18,19,20]))) (.region [bc 21 .add 11 1,m 11 21] [21])))
def Q6:ab:=.seq (.block 0 (.loop G8)) G7
def ae5(cn:ab):ab:=.seq (.seq (.region [oI 2 (.mv (.c (.slice none 0 0)))] [2]) (.seq (.region [m 6 0,ln 7 6,oI 8 (.cH 24 [.slice none 0 0] (.t 7) (.t 7)),m 3 8] [6,7,8]) (.region [m 9 0,ln 10 9,mc 11 0] [0]))) cn
def alq:ab:=ae5 Q6
def ae6(t0:Sl):List Value:=t0.v::un 22 []
def oX:aB:=⟨23,alq,[.tmp 2]⟩
theorem N7:okF Tryz.prog 142 oX=true:=by kernel_rfl
def Li{R:Type}(C:Callee)(fl k:Nat)(kr:an R):an R:=fun t3 h=>kr t3 h
theorem Zz:(cp V2 (ce C fl k G7 K))=Li C fl k (cp O8 (K .ret)):=by kernel_rfl
def qS{R:Type}(C:Callee)(fl k:Nat)(kn:gY R)(e0:an R):gY R:=fun t3 t9 t10 t11 h=>if decide (t11<t10)=true then idx 1 t9 t11 fun p1=>bC h p1.block p1.off fun s2=>aD C fl fn.dR [vs s2] h fun v3 h4=>bB v3 fun s5=>idx 1 t3 t11 fun p6=>st fl h4 p6 [vs s5] fun h7=>kn t3 t9 t10 (bM (t11+1)) h7 else e0 t3 h
theorem ZA:(cp JG (ce C fl k G8 K))=qS C fl k (cp JG (K .normal)) (cp V2 (K (.exit 0))):=by kernel_rfl
def zt(kn:an R):Nat→gY R
 |0=>fun _ _ _ _ _=>none
 |m+1=>qS C fl k (zt kn m) kn
theorem MO:∀m,(cp JG (aQ m (bK C fl k G8 0 K)))=zt C fl k (cp V2 (K .normal)) m
 |0=>by kernel_rfl
 |m+1=>mL (ZA C fl k _) (ak (fun L=>qS C fl k L _) (MO m))
def ae7(kr:an R):gY R:=zt C fl k (Li C fl k kr) k
theorem agV:(cp JG (ce C fl k Q6 K))=ae7 C fl k (cp O8 (K .ret)):=(pA (mM (MO C fl k (bT C fl k G7 K)))).trans (ak (fun L=>zt C fl k L k) (py (Zz C fl k K)))
def V3{R:Type}(C:Callee)(fl k:Nat)(kx:gY R)(kr:an R):an R:=fun t0 h=>wU 24 [.slice none 0 0] ((t0.l:Nat):Int) ((t0.l:Nat):Int) h fun s8 h9=>kx s8 t0 ((t0.l:Nat):Int) 0 h9
def alr(kr:an R):an R:=V3 C fl k (ae7 C fl k kr) kr
theorem aqY(cn:ab):(cp ae6 (ce C fl k (ae5 cn) K))=V3 C fl k (cp JG (ce C fl k cn K)) (cp O8 (K .ret)):=by kernel_rfl
theorem aqZ:(cp ae6 (ce C fl k alq K))=alr C fl k (cp O8 (K .ret)):=(aqY C fl k K Q6).trans (ak (fun L0=>V3 C fl k L0 _) (agV C fl k K))
def lA(p0:Sl)(h:AH):Option (Value×AH):=alr C fl k (fun y2 q=>some (vs y2,q)) p0 h
theorem zu(p0:Sl)(h):bk C fl k oX [vs p0] h=lA C fl k p0 h:=ab2 (aqZ C fl k (aE _)) p0 (by kernel_rfl) (by kernel_rfl)
def O9(t8:Sl)(t9:Int):List Value:=un 8 (t8.v::vi t9::un 115 [])
def G9:ab:=.seq (.region [m 123 12,m 124 10,m 8 123,m 9 124] [10,12,123,124]) (.ret)
abbrev xJ(R:Type):=Int→Sl→AH→Option R
def A0(t10:Int)(t12:Sl):List Value:=un 10 (vi t10::un 1 (t12.v::un 112 []))
abbrev bl(R:Type):=Int→Addr→Addr→Int→Value→Sl→Int→AH→Option R
def bz(t2:Int)(t4 t5:Addr)(t10:Int)(t11:Value)(t12:Sl)(t13:Int):List Value:=un 2 (vi t2::un 1 (vp t4::vp t5::un 4 (vi t10::t11::t12.v::vi t13::un 111 [])))
def oY:ab:=.region [m 31 13,bc 32 .add 31 1,m 13 32] [31,32]
def fK:ab:=.region [m 119 12,m 120 13,oI 121 (.aO 1 [.int .i64 0] [(0,1,.t 120)]),oI 122 (.append 1 8 (.t 119) (.t 121)),m 12 122] [119,120,121,122]
abbrev sN(R:Type):=Int→Addr→Addr→Int→Value→Sl→Int→Addr→Int→Int→AH→Option R
def sO(t2:Int)(t4 t5:Addr)(t10:Int)(t11:Value)(t12:Sl)(t13:Int)(t14:Addr)(t97 t98:Int):List Value:=un 2 (vi t2::un 1 (vp t4::vp t5::un 4 (vi t10::t11::t12.v::vi t13::vp t14::un 82 (vi t97::vi t98::un 26 []))))
def eZ:ab:=.region [bc 118 .add 98 1,m 98 118] [118]
def kq(cn:ab):ab:=.seq (.seq (.region [cm 99 .lss 98 97] []) (.seq (.cond (.t 99) (kl [99]) (.seq (kl [14,97,98,99]) (.exit 4))) (.block 5 (.seq (.region [m 100 98,oI 18 (.alloc [.int .i64 0]),sI 1 18 100] [100]) (.seq (.region [ls 101 5,li 102 18,ia 103 1 101 102,ls 104 103,m 105 13,ia 106 1 104 105,li 107 106,oI 19 (.alloc [.int .i64 0]),sI 1 19 107] [101,102,103,104,105,106,107]) (.seq (.region [li 108 18,li 109 14,cm 110 .neq 108 109,m 111 110,.fb 111 true [qI 112 (.load (.one (.int .i64)) (.t 19)),qI 113 (.cmp .neq .i64 (.t 112) (ci 0))],oI 114 (.pick (.t 111) (.t 113) (.c (.bool false)))] [108,109,110,111,112,113]) (.cond (.t 114) (.region [m 115 11,oI 116 (.vf 169 [] [.t 4,.t 18,.t 19,.t 14]),oI 117 (.call (.t 115) [.t 116] (.jn []))] [18,19,114,115,116,117]) (kl [18,19,114])))))))) cn
def gg:ab:=kq eZ
def iE:ab:=.seq (.block 4 (.loop gg)) fK
def nR(cn:ab):ab:=.seq (.region [ls 96 5,ln 97 96,mc 98 0] [96]) cn
def jO:ab:=nR iE
abbrev Eo(R:Type):=Int→Addr→Addr→Int→Value→Sl→Int→Addr→AH→Option R
def Ep(t2:Int)(t4 t5:Addr)(t10:Int)(t11:Value)(t12:Sl)(t13:Int)(t14:Addr):List Value:=un 2 (vi t2::un 1 (vp t4::vp t5::un 4 (vi t10::t11::t12.v::vi t13::vp t14::un 110 [])))
def pK(cn:ab):ab:=.seq (.seq (.region [oJ 65 (.load (.one .jW) (.t 4)),m 66 10,lt 67 5,lj 68 14,ia 69 1 67 68,lt 70 69,m 71 13,ia 72 1 70 71,lj 73 72,oI 74 (.call (.f 120) [.t 65,.t 66,.t 73] (.one (.one (.int .i64)))),m 10 74] [65,66,67,68,69,70,71,72,73,74]) (.seq (.region [oJ 76 (.load (.one .jW) (.t 4)),lt 77 5,lj 78 14,ia 79 1 77 78,lt 80 79,m 81 13,ia 82 1 80 81,lj 83 82,oJ 84 (.call (.f 139) [.t 76,.t 83] (.jn [.one (.int .i64),.one (.int .i64)])),m 75 84,ex 85 75 0,ex 86 75 1,oJ 16 (.alloc [.int .i64 0]),sI 1 16 85,m 17 86] [75,76,77,78,79,80,81,82,83,84,85,86]) (.seq (.region [m 87 17,ck 88 .eql 87 0,m 89 88,.fb 89 true [qI 90 (.load (.one (.int .i64)) (.t 16)),qI 91 (.cmp .neq .i64 (.t 90) (ci 1))],oI 92 (.pick (.t 89) (.t 91) (.c (.bool false)))] [17,87,88,89,90,91]) (.cond (.t 92) (.region [m 93 11,oI 94 (.vf 168 [] [.t 4,.t 16,.t 14]),oI 95 (.call (.t 93) [.t 94] (.jn []))] [16,92,93,94,95]) (kl [16,92]))))) cn
def kU:ab:=pK jO
def uv(cn:ab):ab:=.seq (.seq (.region [li 52 15,ls 53 5,ln 54 53,cm 55 .eql 52 54] [52,53,54]) (.seq (.cond (.t 55) (.seq (kl [14,15,55]) (.exit 1)) (kl [55])) (.seq (.region [li 56 15,li 57 14,cm 58 .neq 56 57] [56,57]) (.cond (.t 58) (.seq (.region [m 59 11,oI 60 (.vf 167 [] [.t 15,.t 14]),oI 61 (.call (.t 59) [.t 60] (.jn []))] [15,58,59,60,61]) (.region [oI 62 (.load (.one .jW) (.t 4)),m 63 10,oI 64 (.call (.f 104) [.t 62,.t 63] (.one (.one (.int .i64)))),m 10 64] [62,63,64])) (kl [15,58]))))) cn
def nk:ab:=uv kU
abbrev sP(R:Type):=Int→Addr→Addr→Int→Value→Sl→Int→Addr→Addr→AH→Option R
def uU(t2:Int)(t4 t5:Addr)(t10:Int)(t11:Value)(t12:Sl)(t13:Int)(t14 t15:Addr):List Value:=un 2 (vi t2::un 1 (vp t4::vp t5::un 4 (vi t10::t11::t12.v::vi t13::vp t14::vp t15::un 109 [])))
def np:ab:=.seq (.region [li 36 15,ls 37 5,ln 38 37,cm 39 .lss 36 38,m 40 39,.fb 40 true [qI 41 (.load (.one .slice) (.t 5)),qI 42 (.load (.one (.int .i64)) (.t 15)),qI 43 (.di 1 (.t 41) (.t 42)),qI 44 (.load (.one .slice) (.t 43)),qI 45 (.mv (.t 13)),qI 46 (.di 1 (.t 44) (.t 45)),qI 47 (.load (.one (.int .i64)) (.t 46)),qI 48 (.cmp .eql .i64 (.t 47) (ci 0))],oI 49 (.pick (.t 40) (.t 48) (.c (.bool false)))] [36,37,38,39,40,41,42,43,44,45,46,47,48]) (.seq (.cond (.t 49) (kl [49]) (.seq (kl [49]) (.exit 2))) (.block 3 (.region [li 50 15,bc 51 .add 50 1,sI 1 15 51] [50,51])))
def qT:ab:=.seq (.block 2 (.loop np)) nk
def BI(cn:ab):ab:=.seq (.seq (.region [m 33 12,ln 34 33,oI 14 (.alloc [.int .i64 0]),sI 1 14 34] [33,34]) (.region [li 35 14,oI 15 (.alloc [.int .i64 0]),sI 1 15 35] [35])) cn
def wq:ab:=BI qT
def Fo(cn vg:ab):ab:=.seq (.block 1 vg) cn
def A1:ab:=Fo oY wq
def MP(cn:ab):ab:=.seq (.seq (.region [m 21 13,m 22 2,cm 23 .lss 21 22,m 24 23,.fb 24 true [qI 25 (.mv (.t 12)),qI 26 (.len (.t 25)),qI 27 (.load (.one .slice) (.t 5)),qI 28 (.len (.t 27)),qI 29 (.cmp .lss .i64 (.t 26) (.t 28))],oI 30 (.pick (.t 24) (.t 29) (.c (.bool false)))] [21,22,23,24,25,26,27,28,29]) (.cond (.t 30) (kl [30]) (.seq (kl [2,4,5,11,13,30]) (.exit 0)))) cn
def Ha:ab:=MP A1
def Q7:ab:=.seq (.block 0 (.loop Ha)) G9
def ae8(cn:ab):ab:=.seq (.seq (.region [oI 4 (.box (.t 0)),oI 5 (.box (.t 1)),oI 7 (.box (.t 3)),oI 8 (.mv (.c (.slice none 0 0))),mc 9 0] [0,1,3,8,9]) (.seq (.region [mc 10 1] []) (.seq (.region [oI 20 (.vf 166 [] [.t 5,.t 7]),m 11 20] [7,20]) (.seq (.region [oI 12 (.mv (.c (.slice none 0 0)))] []) (.region [mc 13 0] []))))) cn
def als:ab:=ae8 Q7
abbrev JH(R:Type):=OA→Sl→Int→Sl→AH→Option R
def ae9(t0:OA)(t1:Sl)(t2:Int)(t3:Sl):List Value:=vn t0::t1.v::vi t2::t3.v::un 121 []
def jP:aB:=⟨125,als,[.tmp 8,.tmp 9]⟩
theorem EW:okF Tryz.prog 143 jP=true:=by kernel_rfl
def Lj{R:Type}(C:Callee)(fl k:Nat)(kr:bU R):xJ R:=fun t10 t12 h=>kr t12 t10 h
theorem ZB:(cp A0 (ce C fl k G9 K))=Lj C fl k (cp O9 (K .ret)):=by kernel_rfl
def dt{R:Type}(C:Callee)(fl k:Nat)(kn:bl R)(e0:xJ R):bl R:=fun t2 t4 t5 t10 t11 t12 t13 h=>kn t2 t4 t5 t10 t11 t12 (bM (t13+1)) h
theorem ua:(cp bz (ce C fl k oY K))=dt C fl k (cp bz (K .normal)) (cp A0 (K (.exit 0))):=by kernel_rfl
def eg{R:Type}(C:Callee)(fl k:Nat)(kn:bl R)(e1:bl R):bl R:=fun t2 t4 t5 t10 t11 t12 t13 h=>cU h [vi t13] fun b1 h2=>iJ fl 1 8 t12 ⟨(some ⟨b1,0,none⟩),1,1⟩ h2 fun s3 h4=>kn t2 t4 t5 t10 t11 s3 t13 h4
theorem ub:(cp bz (ce C fl k fK K))=eg C fl k (cp bz (K .normal)) (cp bz (K (.exit 1))):=by kernel_rfl
def bn{R:Type}(C:Callee)(fl k:Nat)(kn:sN R)(e4:bl R):sN R:=fun t2 t4 t5 t10 t11 t12 t13 t14 t97 t98 h=>kn t2 t4 t5 t10 t11 t12 t13 t14 t97 (bM (t98+1)) h
theorem qU:(cp sO (ce C fl k eZ K))=bn C fl k (cp sO (K .normal)) (cp bz (K (.exit 4))):=by kernel_rfl
def cW{R:Type}(C:Callee)(fl k:Nat)(kx:sN R)(kn:sN R)(e4:bl R):sN R:=fun t2 t4 t5 t10 t11 t12 t13 t14 t97 t98 h=>if decide (t98<t97)=true then cU h [.int .i64 0] fun b5 h6=>st fl h6 ⟨b5,0,none⟩ [vi t98] fun h7=>bC h7 t5.block t5.off fun s8=>aF .i64 h7 b5 0 fun n9=>idx 1 s8 n9 fun Xw=>bC h7 Xw.block Xw.off fun Ks=>idx 1 Ks t13 fun LO=>aF .i64 h7 LO.block LO.off fun DA=>cU h7 [.int .i64 0] fun Ky EB=>st fl EB ⟨Ky,0,none⟩ [vi DA] fun Kx=>aF .i64 Kx b5 0 fun S8=>aF .i64 Kx t14.block t14.off fun n18=>if (S8 !=n18)=true then aF .i64 Kx Ky 0 fun Pq=>if (Pq !=0)=true then kE C fl t11 [.func (.func fn.eO) ⟨[]⟩ ⟨[.pointer (some t4),.pointer (some ⟨b5,0,none⟩),.pointer (some ⟨Ky,0,none⟩),.pointer (some t14)]⟩] Kx fun v20 RX=>bj v20 fun l22=>ch l22 (kx t2 t4 t5 t10 t11 t12 t13 t14 t97 t98 RX) else kx t2 t4 t5 t10 t11 t12 t13 t14 t97 t98 Kx else kx t2 t4 t5 t10 t11 t12 t13 t14 t97 t98 Kx else e4 t2 t4 t5 t10 t11 t12 t13 h
def bQ(kn:sN R)(e4:bl R):sN R:=cW C fl k (bn C fl k kn e4) kn e4
theorem uV(cn:ab):(cp sO (ce C fl k (kq cn) K))=cW C fl k (cp sO (ce C fl k cn K)) (cp sO (K .normal)) (cp bz (K (.exit 4))):=by kernel_rfl
theorem uW:(cp sO (ce C fl k gg K))=bQ C fl k (cp sO (K .normal)) (cp bz (K (.exit 4))):=(uV C fl k K eZ).trans (ak (fun L0=>cW C fl k L0 _ _) (qU C fl k K))
def aZ(kn:bl R):Nat→sN R
 |0=>fun _ _ _ _ _ _ _ _ _ _ _=>none
 |m+1=>bQ C fl k (aZ kn m) kn
theorem ku:∀m,(cp sO (aQ m (bK C fl k gg 4 K)))=aZ C fl k (cp bz (K .normal)) m
 |0=>by kernel_rfl
 |m+1=>mL (uW C fl k _) (ak (fun L=>bQ C fl k L _) (ku m))
def jl(kn:bl R)(e1:bl R):sN R:=aZ C fl k (eg C fl k kn e1) k
theorem w8:(cp sO (ce C fl k iE K))=jl C fl k (cp bz (K .normal)) (cp bz (K (.exit 1))):=(pA (mM (ku C fl k (bT C fl k fK K)))).trans (ak (fun L=>aZ C fl k L k) (py (ub C fl k K)))
def fL{R:Type}(C:Callee)(fl k:Nat)(kx:sN R)(kn:bl R)(e1:bl R):Eo R:=fun t2 t4 t5 t10 t11 t12 t13 t14 h=>bC h t5.block t5.off fun s23=>kx t2 t4 t5 t10 t11 t12 t13 t14 ((s23.l:Nat):Int) 0 h
def dn(kn:bl R)(e1:bl R):Eo R:=fL C fl k (jl C fl k kn e1) kn e1
theorem zw(cn:ab):(cp Ep (ce C fl k (nR cn) K))=fL C fl k (cp sO (ce C fl k cn K)) (cp bz (K .normal)) (cp bz (K (.exit 1))):=by kernel_rfl
theorem zx:(cp Ep (ce C fl k jO K))=dn C fl k (cp bz (K .normal)) (cp bz (K (.exit 1))):=(zw C fl k K iE).trans (ak (fun L0=>fL C fl k L0 _ _) (w8 C fl k K))
def hZ{R:Type}(C:Callee)(fl k:Nat)(kx:Eo R)(kn:bl R)(e1:bl R):Eo R:=fun t2 t4 t5 t10 t11 t12 t13 t14 h=>ldN h t4.block t4.off fun p24=>bC h t5.block t5.off fun s25=>aF .i64 h t14.block t14.off fun Kv=>idx 1 s25 Kv fun p27=>bC h p27.block p27.off fun s28=>idx 1 s28 t13 fun p29=>aF .i64 h p29.block p29.off fun n30=>aD C fl fn.dT [.pointer p24,vi t10,vi n30] h fun v31 RV=>asInt .i64 v31 fun n33=>ldN RV t4.block t4.off fun p34=>bC RV t5.block t5.off fun s35=>aF .i64 RV t14.block t14.off fun n36=>idx 1 s35 n36 fun p37=>bC RV p37.block p37.off fun s38=>idx 1 s38 t13 fun p39=>aF .i64 RV p39.block p39.off fun n40=>aD C RV.next fn.gU [.pointer p34,vi n40] RV fun v41 h42=>bj v41 fun l43=>aL l43 fun v44 l45=>asInt .i64 v44 fun n46=>aL l45 fun v47 l48=>asInt .i64 v47 fun n49=>ch l48 (cU h42 [.int .i64 0] fun b50 h51=>st fl h51 ⟨b50,0,none⟩ [vi n46] fun h52=>if (n49==0)=true then aF .i64 h52 b50 0 fun n53=>if (n53 !=1)=true then kE C fl t11 [.func (.func fn.eM) ⟨[]⟩ ⟨[.pointer (some t4),.pointer (some ⟨b50,0,none⟩),.pointer (some t14)]⟩] h52 fun v54 h55=>bj v54 fun l56=>ch l56 (kx t2 t4 t5 n33 t11 t12 t13 t14 h55) else kx t2 t4 t5 n33 t11 t12 t13 t14 h52 else kx t2 t4 t5 n33 t11 t12 t13 t14 h52)
def fC(kn:bl R)(e1:bl R):Eo R:=hZ C fl k (dn C fl k kn e1) kn e1
theorem BZ(cn:ab):(cp Ep (ce C fl k (pK cn) K))=hZ C fl k (cp Ep (ce C fl k cn K)) (cp bz (K .normal)) (cp bz (K (.exit 1))):=by kernel_rfl
theorem B0:(cp Ep (ce C fl k kU K))=fC C fl k (cp bz (K .normal)) (cp bz (K (.exit 1))):=(BZ C fl k K jO).trans (ak (fun L0=>hZ C fl k L0 _ _) (zx C fl k K))
def gi{R:Type}(C:Callee)(fl k:Nat)(kx:Eo R)(kn:bl R)(e1:bl R):sP R:=fun t2 t4 t5 t10 t11 t12 t13 t14 t15 h=>aF .i64 h t15.block t15.off fun n57=>bC h t5.block t5.off fun s58=>if (n57==((s58.l:Nat):Int))=true then e1 t2 t4 t5 t10 t11 t12 t13 h else aF .i64 h t15.block t15.off fun n59=>aF .i64 h t14.block t14.off fun n60=>if (n59 !=n60)=true then kE C fl t11 [.func (.func fn.bG) ⟨[]⟩ ⟨[.pointer (some t15),.pointer (some t14)]⟩] h fun v61 h62=>bj v61 fun l63=>ch l63 (ldN h62 t4.block t4.off fun p64=>aD C fl fn.fG [.pointer p64,vi t10] h62 fun v65 h66=>asInt .i64 v65 fun n67=>kx t2 t4 t5 n67 t11 t12 t13 t14 h66) else kx t2 t4 t5 t10 t11 t12 t13 t14 h
def eh(kn:bl R)(e1:bl R):sP R:=gi C fl k (fC C fl k kn e1) kn e1
theorem EX(cn:ab):(cp uU (ce C fl k (uv cn) K))=gi C fl k (cp Ep (ce C fl k cn K)) (cp bz (K .normal)) (cp bz (K (.exit 1))):=by kernel_rfl
theorem EY:(cp uU (ce C fl k nk K))=eh C fl k (cp bz (K .normal)) (cp bz (K (.exit 1))):=(EX C fl k K kU).trans (ak (fun L0=>gi C fl k L0 _ _) (B0 C fl k K))
def eo{R:Type}(C:Callee)(fl k:Nat)(kn:sP R)(e2:sP R):sP R:=fun t2 t4 t5 t10 t11 t12 t13 t14 t15 h=>aF .i64 h t15.block t15.off fun n68=>bC h t5.block t5.off fun s69=>if decide (n68<((s69.l:Nat):Int))=true then bC h t5.block t5.off fun s70=>aF .i64 h t15.block t15.off fun n71=>idx 1 s70 n71 fun p72=>bC h p72.block p72.off fun s73=>idx 1 s73 t13 fun p74=>aF .i64 h p74.block p74.off fun n75=>if (n75==0)=true then aF .i64 h t15.block t15.off fun n76=>st fl h t15 [vi (bM (n76+1))] fun h77=>kn t2 t4 t5 t10 t11 t12 t13 t14 t15 h77 else e2 t2 t4 t5 t10 t11 t12 t13 t14 t15 h else e2 t2 t4 t5 t10 t11 t12 t13 t14 t15 h
theorem EZ:(cp uU (ce C fl k np K))=eo C fl k (cp uU (K .normal)) (cp uU (K (.exit 2))):=by kernel_rfl
def df(kn:sP R):Nat→sP R
 |0=>fun _ _ _ _ _ _ _ _ _ _=>none
 |m+1=>eo C fl k (df kn m) kn
theorem uw:∀m,(cp uU (aQ m (bK C fl k np 2 K)))=df C fl k (cp uU (K .normal)) m
 |0=>by kernel_rfl
 |m+1=>mL (EZ C fl k _) (ak (fun L=>eo C fl k L _) (uw m))
def uc(kn:bl R)(e1:bl R):sP R:=df C fl k (eh C fl k kn e1) k
theorem JI:(cp uU (ce C fl k qT K))=uc C fl k (cp bz (K .normal)) (cp bz (K (.exit 1))):=(pA (mM (uw C fl k (bT C fl k nk K)))).trans (ak (fun L=>df C fl k L k) (py (EY C fl k K)))
def oZ{R:Type}(C:Callee)(fl k:Nat)(kx:sP R)(kn:bl R)(e1:bl R):bl R:=fun t2 t4 t5 t10 t11 t12 t13 h=>cU h [.int .i64 0] fun b78 h79=>st fl h79 ⟨b78,0,none⟩ [vi ((t12.l:Nat):Int)] fun h80=>aF .i64 h80 b78 0 fun n81=>cU h80 [.int .i64 0] fun b82 h83=>st fl h83 ⟨b82,0,none⟩ [vi n81] fun h84=>kx t2 t4 t5 t10 t11 t12 t13 ⟨b78,0,none⟩ ⟨b82,0,none⟩ h84
def sQ(kn:bl R)(e1:bl R):bl R:=oZ C fl k (uc C fl k kn e1) kn e1
theorem N8(cn:ab):(cp bz (ce C fl k (BI cn) K))=oZ C fl k (cp uU (ce C fl k cn K)) (cp bz (K .normal)) (cp bz (K (.exit 1))):=by kernel_rfl
theorem N9:(cp bz (ce C fl k wq K))=sQ C fl k (cp bz (K .normal)) (cp bz (K (.exit 1))):=(N8 C fl k K qT).trans (ak (fun L0=>oZ C fl k L0 _ _) (JI C fl k K))
def uX{R:Type}(C:Callee)(fl k:Nat)(kx:bl R)(u0:bl R)(kn:bl R)(e0:xJ R):bl R:=fun t2 t4 t5 t10 t11 t12 t13 h=>u0 t2 t4 t5 t10 t11 t12 t13 h
def xK(kn:bl R)(e0:xJ R):bl R:=uX C fl k (dt C fl k kn e0) (sQ C fl k (dt C fl k kn e0) (dt C fl k kn e0)) kn e0
theorem St(cn vg:ab):(cp bz (ce C fl k (Fo cn vg) K))=uX C fl k (cp bz (ce C fl k cn K)) (cp bz (ce C fl k vg (vx 1 (bT C fl k cn K)))) (cp bz (K .normal)) (cp A0 (K (.exit 0))):=by kernel_rfl
theorem Su:(cp bz (ce C fl k A1 K))=xK C fl k (cp bz (K .normal)) (cp A0 (K (.exit 0))):=(St C fl k K oY wq).trans (pO (fun L0 L1=>uX C fl k L0 L1 _ _) (ua C fl k K) ((N9 C fl k (vx 1 (bT C fl k oY K))).trans (pO (fun L0 L1=>sQ C fl k L0 L1) (bn1 (ua C fl k K)) (bx1 (ua C fl k K)))))
def wu{R:Type}(C:Callee)(fl k:Nat)(kx:bl R)(kn:bl R)(e0:xJ R):bl R:=fun t2 t4 t5 t10 t11 t12 t13 h=>if decide (t13<t2)=true then bC h t5.block t5.off fun s85=>if decide (((t12.l:Nat):Int)<((s85.l:Nat):Int))=true then kx t2 t4 t5 t10 t11 t12 t13 h else e0 t10 t12 h else e0 t10 t12 h
def qV(kn:bl R)(e0:xJ R):bl R:=wu C fl k (xK C fl k kn e0) kn e0
theorem ZC(cn:ab):(cp bz (ce C fl k (MP cn) K))=wu C fl k (cp bz (ce C fl k cn K)) (cp bz (K .normal)) (cp A0 (K (.exit 0))):=by kernel_rfl
theorem ZD:(cp bz (ce C fl k Ha K))=qV C fl k (cp bz (K .normal)) (cp A0 (K (.exit 0))):=(ZC C fl k K A1).trans (ak (fun L0=>wu C fl k L0 _ _) (Su C fl k K))
def fS(kn:xJ R):Nat→bl R
 |0=>fun _ _ _ _ _ _ _ _=>none
 |m+1=>qV C fl k (fS kn m) kn
theorem MQ:∀m,(cp bz (aQ m (bK C fl k Ha 0 K)))=fS C fl k (cp A0 (K .normal)) m
 |0=>by kernel_rfl
 |m+1=>mL (ZD C fl k _) (ak (fun L=>qV C fl k L _) (MQ m))
def afa(kr:bU R):bl R:=fS C fl k (Lj C fl k kr) k
theorem agW:(cp bz (ce C fl k Q7 K))=afa C fl k (cp O9 (K .ret)):=(pA (mM (MQ C fl k (bT C fl k G9 K)))).trans (ak (fun L=>fS C fl k L k) (py (ZB C fl k K)))
def V4{R:Type}(C:Callee)(fl k:Nat)(kx:bl R)(kr:bU R):JH R:=fun t0 t1 t2 t3 h=>cU h [.pointer t0] fun b86 h87=>cU h87 [vs t1] fun b88 h89=>cU h89 [vs t3] fun b90 h91=>kx t2 ⟨b86,0,none⟩ ⟨b88,0,none⟩ 1 (.func (.func fn.eL) ⟨[]⟩ ⟨[.pointer (some ⟨b88,0,none⟩),.pointer (some ⟨b90,0,none⟩)]⟩) ⟨none,0,0⟩ 0 h91
def alu(kr:bU R):JH R:=V4 C fl k (afa C fl k kr) kr
theorem aq0(cn:ab):(cp ae9 (ce C fl k (ae8 cn) K))=V4 C fl k (cp bz (ce C fl k cn K)) (cp O9 (K .ret)):=by kernel_rfl
theorem aq1:(cp ae9 (ce C fl k als K))=alu C fl k (cp O9 (K .ret)):=(aq0 C fl k K Q7).trans (ak (fun L0=>V4 C fl k L0 _) (agW C fl k K))
def fR(p0:OA)(p1:Sl)(p2:Int)(p3:Sl)(h:AH):Option (Value×AH):=alu C fl k (fun y8 y9 q=>some (.tuple ⟨[vs y8,vi y9]⟩,q)) p0 p1 p2 p3 h
theorem tJ(p0:OA)(p1:Sl)(p2:Int)(p3:Sl)(h):bk C fl k jP [.pointer p0,vs p1,vi p2,vs p3] h=fR C fl k p0 p1 p2 p3 h:=KP (aq1 C fl k (aE _)) p0 p1 p2 p3 (by kernel_rfl) (by kernel_rfl)
def aq2(t4:Int):List Value:=un 4 (vi t4::un 4 [])
def alv:ab:=.seq (.region [mc 4 0] [4]) (.seq (.region [m 5 0,m 6 1,oI 7 (.call (.f 109) [.t 5,.t 6] (.one (.one .bool)))] [0,5,6]) (.seq (.cond (.t 7) (.seq (.region [m 8 1,m 4 8] [1,7,8]) (.ret)) (kl [1,7])) (.seq (.region [mc 4 0] []) (.ret))))
def aq3(t0:OA)(t1:Int):List Value:=vn t0::vi t1::un 7 []
def sR:aB:=⟨9,alv,[.tmp 4]⟩
theorem Q8:okF Tryz.prog 144 sR=true:=by kernel_rfl
def alw{R:Type}(C:Callee)(fl k:Nat)(kr:ag R):fg R:=fun t0 t1 h=>aD C fl fn.js [.pointer t0,vi t1] h fun v1 h2=>asBool v1 fun b3=>if b3=true then kr t1 h2 else kr 0 h2
theorem aq4:(cp aq3 (ce C fl k alv K))=alw C fl k (cp aq2 (K .ret)):=by kernel_rfl
def eX(p0:OA)(p1:Int)(h:AH):Option (Value×AH):=alw C fl k (fun y4 q=>some (vi y4,q)) p0 p1 h
theorem BJ(p0:OA)(p1:Int)(h):bk C fl k sR [.pointer p0,vi p1] h=eX C fl k p0 p1 h:=CG (aq4 C fl k (aE _)) p0 p1 (by kernel_rfl) (by kernel_rfl)
def A2:List Value:=un 33 []
abbrev sS(R:Type):=OA→Sl→Int→Sl→Int→Int→AH→Option R
def sT(t0:OA)(t1:Sl)(t2:Int)(t10:Sl)(t11 t12:Int):List Value:=vn t0::t1.v::vi t2::un 7 (t10.v::vi t11::vi t12::un 20 [])
def A3:ab:=.region [bc 32 .add 12 1,m 12 32] [32]
def MR(cn:ab):ab:=.seq (.seq (.region [cm 13 .lss 12 11] []) (.seq (.cond (.t 13) (kl [13]) (.seq (kl [0,1,2,10,11,12,13]) (.exit 0))) (.block 1 (.seq (.region [m 14 12,ia 15 1 10 12,li 16 15,m 8 14,m 9 16] [14,15,16]) (.seq (.region [m 17 9,ck 18 .neq 17 0] [17]) (.cond (.t 18) (.region [m 19 1,m 20 8,m 21 0,m 22 1,m 23 8,ia 24 1 22 23,lj 25 24,m 26 0,m 27 2,m 28 9,oJ 29 (.call (.f 120) [.t 26,.t 27,.t 28] (.one (.one (.int .i64)))),oI 30 (.call (.f 149) [.t 21,.t 25,.t 29] (.one (.one (.int .i64)))),ia 31 1 19 20,sI 1 31 30] [8,9,18,19,20,21,22,23,24,25,26,27,28,29,30,31]) (kl [8,9,18]))))))) cn
def Hb:ab:=MR A3
def Q9:ab:=.block 0 (.loop Hb)
def afb(cn:ab):ab:=.seq (.region [m 10 3,ln 11 10,mc 12 0] [3]) cn
def alx:ab:=afb Q9
def afc(t0:OA)(t1:Sl)(t2:Int)(t3:Sl):List Value:=vn t0::t1.v::vi t2::t3.v::un 29 []
def uY:aB:=⟨33,alx,[]⟩
theorem Sv:okF Tryz.prog 145 uY=true:=by kernel_rfl
def xL{R:Type}(C:Callee)(fl k:Nat)(kn:sS R)(e0:av R):sS R:=fun t0 t1 t2 t10 t11 t12 h=>kn t0 t1 t2 t10 t11 (bM (t12+1)) h
theorem Sw:(cp sT (ce C fl k A3 K))=xL C fl k (cp sT (K .normal)) (cp A2 (K (.exit 0))):=by kernel_rfl
def wv{R:Type}(C:Callee)(fl k:Nat)(kx:sS R)(kn:sS R)(e0:av R):sS R:=fun t0 t1 t2 t10 t11 t12 h=>if decide (t12<t11)=true then idx 1 t10 t12 fun p1=>aF .i64 h p1.block p1.off fun n2=>if (n2 !=0)=true then idx 1 t1 t12 fun p3=>aF .i64 h p3.block p3.off fun n4=>aD C h.next fn.dT [.pointer t0,vi t2,vi n2] h fun v5 h6=>asInt .i64 v5 fun n7=>aD C fl fn.gV [.pointer t0,vi n4,vi n7] h6 fun v8 h9=>asInt .i64 v8 fun tO=>idx 1 t1 t12 fun p11=>st fl h9 p11 [vi tO] fun Tb=>kx t0 t1 t2 t10 t11 t12 Tb else kx t0 t1 t2 t10 t11 t12 h else e0 h
def qW(kn:sS R)(e0:av R):sS R:=wv C fl k (xL C fl k kn e0) kn e0
theorem ZE(cn:ab):(cp sT (ce C fl k (MR cn) K))=wv C fl k (cp sT (ce C fl k cn K)) (cp sT (K .normal)) (cp A2 (K (.exit 0))):=by kernel_rfl
theorem ZF:(cp sT (ce C fl k Hb K))=qW C fl k (cp sT (K .normal)) (cp A2 (K (.exit 0))):=(ZE C fl k K A3).trans (ak (fun L0=>wv C fl k L0 _ _) (Sw C fl k K))
def vr(kn:av R):Nat→sS R
 |0=>fun _ _ _ _ _ _ _=>none
 |m+1=>qW C fl k (vr kn m) kn
theorem MS:∀m,(cp sT (aQ m (bK C fl k Hb 0 K)))=vr C fl k (cp A2 (K .normal)) m
 |0=>by kernel_rfl
 |m+1=>mL (ZF C fl k _) (ak (fun L=>qW C fl k L _) (MS m))
def V5(kn:av R):sS R:=vr C fl k kn k
theorem agX:(cp sT (ce C fl k Q9 K))=V5 C fl k (cp A2 (K .normal)):=mM (MS C fl k K)
def V6{R:Type}(C:Callee)(fl k:Nat)(kx:sS R)(kn:av R):JH R:=fun t0 t1 t2 t3 h=>kx t0 t1 t2 t3 ((t3.l:Nat):Int) 0 h
def aly(kn:av R):JH R:=V6 C fl k (V5 C fl k kn) kn
theorem aq5(cn:ab):(cp afc (ce C fl k (afb cn) K))=V6 C fl k (cp sT (ce C fl k cn K)) (cp A2 (K .normal)):=by kernel_rfl
theorem aq6:(cp afc (ce C fl k alx K))=aly C fl k (cp A2 (K .normal)):=(aq5 C fl k K Q9).trans (ak (fun L0=>V6 C fl k L0 _) (agX C fl k K))
def m4(p0:OA)(p1:Sl)(p2:Int)(p3:Sl)(h:AH):Option (Value×AH):=aly C fl k (fun q=>some (.tuple ⟨[]⟩,q)) p0 p1 p2 p3 h
theorem C5(p0:OA)(p1:Sl)(p2:Int)(p3:Sl)(h):bk C fl k uY [.pointer p0,vs p1,vi p2,vs p3] h=m4 C fl k p0 p1 p2 p3 h:=KP (aq6 C fl k (aE _)) p0 p1 p2 p3 (by kernel_rfl) (by kernel_rfl)
def Er(t2:Bool):List Value:=un 2 (.bool t2::un 14 [])
def Hc:ab:=.seq (.region [m 15 0,ck 16 .geq 15 2,m 2 16] [0,15,16]) (.ret)
def JJ(t0:Int):List Value:=vi t0::un 16 []
def JK(t0 t3:Int):List Value:=vi t0::un 2 (vi t3::un 13 [])
def Hd:ab:=.seq (.region [m 4 3,m 5 3,bb 6 .mul 4 5,m 7 0,cm 8 .leq 6 7] [4,5,6,7]) (.seq (.cond (.t 8) (kl [8]) (.seq (kl [3,8]) (.exit 0))) (.seq (.block 1 (.seq (.region [m 11 0,m 12 3,bb 13 .rem 11 12,ck 14 .eql 13 0] [11,12,13]) (.cond (.t 14) (.seq (.region [oI 2 (.mv (.c (.bool false)))] [0,3,14]) (.ret)) (kl [14])))) (.region [m 9 3,bc 10 .add 9 1,m 3 10] [9,10])))
def Ra:ab:=.seq (.block 0 (.loop Hd)) Hc
def afd(cn:ab):ab:=.seq (.seq (.region [oI 2 (.mv (.c (.bool false)))] [2]) (.region [mc 3 2] [])) cn
def alz:ab:=afd Ra
def mR:aB:=⟨17,alz,[.tmp 2]⟩
theorem Lk:okF Tryz.prog 146 mR=true:=by kernel_rfl
def Es{R:Type}(C:Callee)(fl k:Nat)(kr:au R):ag R:=fun t0 h=>kr (decide (t0≥2)) h
theorem ZG:(cp JJ (ce C fl k Hc K))=Es C fl k (cp Er (K .ret)):=by kernel_rfl
def qX{R:Type}(C:Callee)(fl k:Nat)(kn:gy R)(e0:ag R)(kr:au R):gy R:=fun t0 t3 h=>if decide (bM (t3*t3)≤t0)=true then iZ .rem .i64 t0 t3 fun n1=>if (n1==0)=true then kr false h else kn t0 (bM (t3+1)) h else e0 t0 h
theorem ZH:(cp JK (ce C fl k Hd K))=qX C fl k (cp JK (K .normal)) (cp JJ (K (.exit 0))) (cp Er (K .ret)):=by kernel_rfl
def zy(kn:ag R)(kr:au R):Nat→gy R
 |0=>fun _ _ _=>none
 |m+1=>qX C fl k (zy kn kr m) kn kr
theorem MT:∀m,(cp JK (aQ m (bK C fl k Hd 0 K)))=zy C fl k (cp JJ (K .normal)) (cp Er (K .ret)) m
 |0=>by kernel_rfl
 |m+1=>mL (ZH C fl k _) (ak (fun L=>qX C fl k L _ _) (MT m))
def V7(kr:au R):gy R:=zy C fl k (Es C fl k kr) kr k
theorem agY:(cp JK (ce C fl k Ra K))=V7 C fl k (cp Er (K .ret)):=(pA (mM (MT C fl k (bT C fl k Hc K)))).trans (ak (fun L=>zy C fl k L _ k) (py (ZG C fl k K)))
def V8{R:Type}(C:Callee)(fl k:Nat)(kx:gy R)(kr:au R):ag R:=fun t0 h=>kx t0 2 h
def alA(kr:au R):ag R:=V8 C fl k (V7 C fl k kr) kr
theorem aq7(cn:ab):(cp JJ (ce C fl k (afd cn) K))=V8 C fl k (cp JK (ce C fl k cn K)) (cp Er (K .ret)):=by kernel_rfl
theorem aq8:(cp JJ (ce C fl k alz K))=alA C fl k (cp Er (K .ret)):=(aq7 C fl k K Ra).trans (ak (fun L0=>V8 C fl k L0 _) (agY C fl k K))
def j4(p0:Int)(h:AH):Option (Value×AH):=alA C fl k (fun y2 q=>some (.bool y2,q)) p0 h
theorem xM(p0:Int)(h):bk C fl k mR [vi p0] h=j4 C fl k p0 h:=ab2 (aq8 C fl k (aE _)) p0 (by kernel_rfl) (by kernel_rfl)
def Pa(t6:Sl):List Value:=un 6 (t6.v::un 30 [])
def He:ab:=.seq (.region [m 36 7,m 6 36] [7,36]) (.ret)
def V9(t7:Sl):List Value:=un 7 (t7.v::un 29 [])
abbrev JL(R:Type):=Int→Addr→Sl→Sl→Int→AH→Option R
def JM(t2:Int)(t3:Addr)(t7 t8:Sl)(t9:Int):List Value:=un 2 (vi t2::vp t3::un 3 (t7.v::t8.v::vi t9::un 27 []))
def Hf:ab:=.seq (.region [m 16 9,ck 17 .neq 16 0,m 18 17,.fb 18 true [qI 19 (.mv (.t 8)),qI 20 (.mv (.t 9)),qI 21 (.di 1 (.t 19) (.t 20)),qI 22 (.load (.one .bool) (.t 21)),qI 23 (.not (.t 22))],oI 24 (.pick (.t 18) (.t 23) (.c (.bool false)))] [16,17,18,19,20,21,22,23]) (.seq (.cond (.t 24) (kl [24]) (.seq (kl [2,3,8,9,24]) (.exit 0))) (.seq (.block 1 (.seq (.region [m 29 8,m 30 9,ia 31 1 29 30,pI (.store 1 (.t 31) (.c (.bool true)))] [29,30,31]) (.region [m 32 7,m 33 9,oI 34 (.aO 1 [.int .i64 0] [(0,1,.t 33)]),oI 35 (.append 1 8 (.t 32) (.t 34)),m 7 35] [32,33,34,35]))) (.region [oI 25 (.load (.agg [.int .i64,.int .i64,.slice]) (.t 3)),m 26 9,m 27 2,oI 28 (.call (.f 148) [.t 25,.t 26,.t 27] (.one (.one (.int .i64)))),m 9 28] [25,26,27,28])))
def Rb:ab:=.seq (.block 0 (.loop Hf)) He
def afe(cn:ab):ab:=.seq (.seq (.region [oI 3 (.box (.t 0)),oI 6 (.mv (.c (.slice none 0 0)))] [0,6]) (.seq (.region [oI 10 (.aO 1 [.int .i64 0] [(0,1,ci 1)]),m 7 10] [10]) (.seq (.region [m 11 1,oI 12 (.cH 1 [.bool false] (.t 11) (.t 11)),m 8 12] [1,11,12]) (.seq (.region [m 13 8,oI 14 (.di 1 (.t 13) (ci 1)),pI (.store 1 (.t 14) (.c (.bool true)))] [13,14]) (.region [m 15 2,m 9 15] [15]))))) cn
def alB:ab:=afe Rb
abbrev ic(R:Type):=Int→Int→Sl→Int→Int→AH→Option R
def aff(aI aH:Int)(aJ:Sl)(t1 t2:Int):List Value:=.agg ⟨[vi aI,vi aH,vs aJ]⟩::vi t1::vi t2::un 34 []
def pa:aB:=⟨37,alB,[.tmp 6]⟩
theorem Oa:okF Tryz.prog 147 pa=true:=by kernel_rfl
def Ll{R:Type}(C:Callee)(fl k:Nat)(kr:an R):an R:=fun t7 h=>kr t7 h
theorem ZI:(cp V9 (ce C fl k He K))=Ll C fl k (cp Pa (K .ret)):=by kernel_rfl
def zz{R:Type}(C:Callee)(fl k:Nat)(kn:JL R)(e0:an R):JL R:=fun t2 t3 t7 t8 t9 h=>if (t9 !=0)=true then idx 1 t8 t9 fun p1=>ldB h p1.block p1.off fun b2=>if (!b2)=true then idx 1 t8 t9 fun p3=>st fl h p3 [.bool true] fun h4=>cU h4 [vi t9] fun b5 h6=>iJ fl 1 8 t7 ⟨(some ⟨b5,0,none⟩),1,1⟩ h6 fun s7 h8=>aF .i64 h8 t3.block t3.off fun n9=>aF .i64 h8 t3.block (t3.off+1) fun tO=>bC h8 t3.block (t3.off+1+1) fun Ks=>aD C fl fn.eY [.agg ⟨[vi n9,vi tO,vs Ks]⟩,vi t9,vi t2] h8 fun RS tN=>asInt .i64 RS fun BS=>kn t2 t3 s7 t8 BS tN else e0 t7 h else e0 t7 h
theorem ZJ:(cp JM (ce C fl k Hf K))=zz C fl k (cp JM (K .normal)) (cp V9 (K (.exit 0))):=by kernel_rfl
def qY(kn:an R):Nat→JL R
 |0=>fun _ _ _ _ _ _=>none
 |m+1=>zz C fl k (qY kn m) kn
theorem MU:∀m,(cp JM (aQ m (bK C fl k Hf 0 K)))=qY C fl k (cp V9 (K .normal)) m
 |0=>by kernel_rfl
 |m+1=>mL (ZJ C fl k _) (ak (fun L=>zz C fl k L _) (MU m))
def Wa(kr:an R):JL R:=qY C fl k (Ll C fl k kr) k
theorem agZ:(cp JM (ce C fl k Rb K))=Wa C fl k (cp Pa (K .ret)):=(pA (mM (MU C fl k (bT C fl k He K)))).trans (ak (fun L=>qY C fl k L k) (py (ZI C fl k K)))
def Wb{R:Type}(C:Callee)(fl k:Nat)(kx:JL R)(kr:an R):ic R:=fun aI aH aJ t1 t2 h=>cU h [vi aI,vi aH,vs aJ] fun b15 Kx=>cU Kx [vi 1] fun b17 OE=>wU 1 [.bool false] t1 t1 OE fun s19 h20=>idx 1 s19 1 fun p21=>st fl h20 p21 [.bool true] fun h22=>kx t2 ⟨b15,0,none⟩ ⟨(some ⟨b17,0,none⟩),1,1⟩ s19 t2 h22
def alC(kr:an R):ic R:=Wb C fl k (Wa C fl k kr) kr
theorem aq9(cn:ab):(cp aff (ce C fl k (afe cn) K))=Wb C fl k (cp JM (ce C fl k cn K)) (cp Pa (K .ret)):=by kernel_rfl
theorem ara:(cp aff (ce C fl k alB K))=alC C fl k (cp Pa (K .ret)):=(aq9 C fl k K Rb).trans (ak (fun L0=>Wb C fl k L0 _) (agZ C fl k K))
def lB(ax ay:Int)(aA:Sl)(p1 p2:Int)(h:AH):Option (Value×AH):=alC C fl k (fun y6 q=>some (vs y6,q)) ax ay aA p1 p2 h
theorem zA(ax ay:Int)(aA:Sl)(p1 p2:Int)(h):bk C fl k pa [.agg ⟨[vi ax,vi ay,vs aA]⟩,vi p1,vi p2] h=lB C fl k ax ay aA p1 p2 h:=vK (ara C fl k (aE _)) ax ay aA p1 p2 (by kernel_rfl) (by kernel_rfl)
end Go.Abs.P
end
section
set_option maxRecDepth 100000
set_option linter.unusedVariables false
namespace Go.Abs.P
open Go.Abs Go.Abs.CP Go.Abs.C Go.Proofs
variable{R:Type}(C:Callee)(fl k:Nat)(K:KF R)
def Pb(t6:Int):List Value:=un 6 (vi t6::un 90 [])
def Hg:ab:=.seq (.region [m 93 9,fa 94 0 3,li 95 94,oI 96 (.call (.f 171) [.t 93,.t 95] (.one (.one (.int .i64)))),m 6 96] [3,9,93,94,95,96]) (.ret)
def A4(t3:Addr)(t9:Sl):List Value:=un 3 (vp t3::un 5 (t9.v::un 87 []))
abbrev aX(R:Type):=Addr→Sl→Sl→Sl→Int→AH→Option R
def dx(t3:Addr)(t7 t8 t9:Sl)(t10:Int):List Value:=un 3 (vp t3::un 3 (t7.v::t8.v::t9.v::vi t10::un 86 []))
def pb:ab:=.region [m 34 10,bc 35 .sub 34 1,m 10 35] [34,35]
abbrev sU(R:Type):=Addr→Sl→Sl→Sl→Int→Int→Int→Int→AH→Option R
def sV(t3:Addr)(t7 t8 t9:Sl)(t10 t11 t53 t54:Int):List Value:=un 3 (vp t3::un 3 (t7.v::t8.v::t9.v::vi t10::vi t11::un 41 (vi t53::vi t54::un 42 [])))
def kV:ab:=.region [bc 92 .add 54 1,m 54 92] [92]
def ux(cn:ab):ab:=.seq (.seq (.region [cm 55 .lss 54 53] []) (.seq (.cond (.t 55) (kl [55]) (.seq (kl [11,53,54,55]) (.exit 2))) (.block 3 (.seq (.region [m 56 54,m 12 56] [56]) (.seq (.region [mc 13 0] []) (.seq (.seq (.region [fa 57 1 3,li 58 57,ck 59 .gtr 58 1] [57,58]) (.cond (.t 59) (.region [fa 60 2 3,ls 61 60,m 62 12,ia 63 1 61 62,li 64 63,m 13 64] [59,60,61,62,63,64]) (kl [59]))) (.region [m 65 9,m 66 12,m 67 9,m 68 12,ia 69 1 67 68,lj 70 69,fa 71 0 3,lj 72 71,m 73 11,bb 74 .sub 72 73,m 75 13,bb 76 .mul 74 75,bb 77 .add 70 76,m 78 8,m 79 10,ia 80 1 78 79,lj 81 80,m 82 7,m 83 12,ia 84 1 82 83,lj 85 84,bb 86 .mul 81 85,bb 87 .add 77 86,fa 88 0 3,lj 89 88,bb 90 .rem 87 89,ia 91 1 65 66,sI 1 91 90] [12,13,65,66,67,68,69,70,71,72,73,74,75,76,77,78,79,80,81,82,83,84,85,86,87,88,89,90,91]))))))) cn
def nq:ab:=ux kV
def qZ:ab:=.block 2 (.loop nq)
def BK(cn:ab):ab:=.seq (.seq (.region [m 36 9,fa 37 1 3,li 38 37,bc 39 .sub 38 1,ia 40 1 36 39,li 41 40,m 11 41] [36,37,38,39,40,41]) (.seq (.region [m 42 9,oI 43 (.slice 1 (.t 42) (some (ci 1)) none none),m 44 9,fa 45 1 3,li 46 45,bc 47 .sub 46 1,oI 48 (.slice 1 (.t 44) none (some (.t 47)) none),oI 49 (.copy 1 (.t 43) (.t 48))] [42,43,44,45,46,47,48,49]) (.seq (.region [m 50 9,oI 51 (.di 1 (.t 50) (ci 0)),pI (.store 1 (.t 51) (ci 0))] [50,51]) (.region [m 52 9,ln 53 52,mc 54 0] [52])))) cn
def wx:ab:=BK qZ
def Fp(cn vg:ab):ab:=.seq (.block 1 vg) cn
def A5:ab:=Fp pb wx
def MV(cn:ab):ab:=.seq (.seq (.region [m 32 10,ck 33 .geq 32 0] [32]) (.cond (.t 33) (kl [33]) (.seq (kl [7,8,10,33]) (.exit 0)))) cn
def Hh:ab:=MV A5
def Rc:ab:=.seq (.block 0 (.loop Hh)) Hg
def afg(cn:ab):ab:=.seq (.seq (.region [oI 3 (.box (.t 0)),mc 6 0] [0,6]) (.seq (.region [m 14 1,fa 15 0 3,lj 16 15,fa 17 1 3,lj 18 17,oJ 19 (.call (.f 170) [.t 14,.t 16,.t 18] (.one (.one .slice))),m 20 2,fa 21 0 3,lj 22 21,fa 23 1 3,lj 24 23,oI 25 (.call (.f 170) [.t 20,.t 22,.t 24] (.one (.one .slice))),m 7 19,m 8 25] [1,2,14,15,16,17,18,19,20,21,22,23,24,25]) (.seq (.region [fa 26 1 3,li 27 26,oI 28 (.cH 8 [.int .i64 0] (.t 27) (.t 27)),m 9 28] [26,27,28]) (.region [fa 29 1 3,li 30 29,bc 31 .sub 30 1,m 10 31] [29,30,31])))) cn
def alD:ab:=afg Rc
def afh(aI aH:Int)(aJ:Sl)(t1 t2:Int):List Value:=.agg ⟨[vi aI,vi aH,vs aJ]⟩::vi t1::vi t2::un 94 []
def lU:aB:=⟨97,alD,[.tmp 6]⟩
theorem JN:okF Tryz.prog 148 lU=true:=by kernel_rfl
def Et{R:Type}(C:Callee)(fl k:Nat)(kr:ag R):bV R:=fun t3 t9 h=>aF .i64 h t3.block t3.off fun n1=>aD C fl fn.j5 [vs t9,vi n1] h fun v2 h3=>asInt .i64 v2 fun n4=>kr n4 h3
theorem ZK:(cp A4 (ce C fl k Hg K))=Et C fl k (cp Pb (K .ret)):=by kernel_rfl
def j7{R:Type}(C:Callee)(fl k:Nat)(kn:aX R)(e0:bV R):aX R:=fun t3 t7 t8 t9 t10 h=>kn t3 t7 t8 t9 (bM (t10-1)) h
theorem BL:(cp dx (ce C fl k pb K))=j7 C fl k (cp dx (K .normal)) (cp A4 (K (.exit 0))):=by kernel_rfl
def iX{R:Type}(C:Callee)(fl k:Nat)(kn:sU R)(e2:aX R):sU R:=fun t3 t7 t8 t9 t10 t11 t53 t54 h=>kn t3 t7 t8 t9 t10 t11 t53 (bM (t54+1)) h
theorem B1:(cp sV (ce C fl k kV K))=iX C fl k (cp sV (K .normal)) (cp dx (K (.exit 2))):=by kernel_rfl
def gj{R:Type}(C:Callee)(fl k:Nat)(kx:sU R)(kn:sU R)(e2:aX R):sU R:=fun t3 t7 t8 t9 t10 t11 t53 t54 h=>if decide (t54<t53)=true then aF .i64 h t3.block (t3.off+1) fun n5=>if decide (n5>1)=true then bC h t3.block (t3.off+2) fun s6=>idx 1 s6 t54 fun p7=>aF .i64 h p7.block p7.off fun n8=>idx 1 t9 t54 fun p9=>aF .i64 h p9.block p9.off fun tO=>aF .i64 h t3.block t3.off fun EA=>idx 1 t8 t10 fun LO=>aF .i64 h LO.block LO.off fun DA=>idx 1 t7 t54 fun p14=>aF .i64 h p14.block p14.off fun n15=>aF .i64 h t3.block t3.off fun Kr=>iZ .rem .i64 (bM (bM (tO+(bM (bM (EA-t11)*n8)))+(bM (DA*n15)))) Kr fun S8=>idx 1 t9 t54 fun p18=>st fl h p18 [vi S8] fun HL=>kx t3 t7 t8 t9 t10 t11 t53 t54 HL else idx 1 t9 t54 fun p20=>aF .i64 h p20.block p20.off fun n21=>aF .i64 h t3.block t3.off fun W9=>idx 1 t8 t10 fun p23=>aF .i64 h p23.block p23.off fun n24=>idx 1 t7 t54 fun p25=>aF .i64 h p25.block p25.off fun Kv=>aF .i64 h t3.block t3.off fun n27=>iZ .rem .i64 (bM (bM (n21+(bM (bM (W9-t11)*0)))+(bM (n24*Kv)))) n27 fun n28=>idx 1 t9 t54 fun p29=>st fl h p29 [vi n28] fun h30=>kx t3 t7 t8 t9 t10 t11 t53 t54 h30 else e2 t3 t7 t8 t9 t10 h
def ep(kn:sU R)(e2:aX R):sU R:=gj C fl k (iX C fl k kn e2) kn e2
theorem E0(cn:ab):(cp sV (ce C fl k (ux cn) K))=gj C fl k (cp sV (ce C fl k cn K)) (cp sV (K .normal)) (cp dx (K (.exit 2))):=by kernel_rfl
theorem E3:(cp sV (ce C fl k nq K))=ep C fl k (cp sV (K .normal)) (cp dx (K (.exit 2))):=(E0 C fl k K kV).trans (ak (fun L0=>gj C fl k L0 _ _) (B1 C fl k K))
def ie(kn:aX R):Nat→sU R
 |0=>fun _ _ _ _ _ _ _ _ _=>none
 |m+1=>ep C fl k (ie kn m) kn
theorem uy:∀m,(cp sV (aQ m (bK C fl k nq 2 K)))=ie C fl k (cp dx (K .normal)) m
 |0=>by kernel_rfl
 |m+1=>mL (E3 C fl k _) (ak (fun L=>ep C fl k L _) (uy m))
def mS(kn:aX R):sU R:=ie C fl k kn k
theorem JO:(cp sV (ce C fl k qZ K))=mS C fl k (cp dx (K .normal)):=mM (uy C fl k K)
def pc{R:Type}(C:Callee)(fl k:Nat)(kx:sU R)(kn:aX R):aX R:=fun t3 t7 t8 t9 t10 h=>aF .i64 h t3.block (t3.off+1) fun n31=>idx 1 t9 (bM (n31-1)) fun p32=>aF .i64 h p32.block p32.off fun n33=>sub 1 t9 (some 1) none none fun s34=>aF .i64 h t3.block (t3.off+1) fun n35=>sub 1 t9 none (some (bM (n35-1))) none fun s36=>cpy fl 1 s34 s36 h fun n37 h38=>idx 1 t9 0 fun p39=>st fl h38 p39 [vi 0] fun h40=>kx t3 t7 t8 t9 t10 n33 ((t9.l:Nat):Int) 0 h40
def sW(kn:aX R):aX R:=pc C fl k (mS C fl k kn) kn
theorem Ob(cn:ab):(cp dx (ce C fl k (BK cn) K))=pc C fl k (cp sV (ce C fl k cn K)) (cp dx (K .normal)):=by kernel_rfl
theorem Oc:(cp dx (ce C fl k wx K))=sW C fl k (cp dx (K .normal)):=(Ob C fl k K qZ).trans (ak (fun L0=>pc C fl k L0 _) (JO C fl k K))
def uZ{R:Type}(C:Callee)(fl k:Nat)(kx:aX R)(u0:aX R)(kn:aX R)(e0:bV R):aX R:=fun t3 t7 t8 t9 t10 h=>u0 t3 t7 t8 t9 t10 h
def C6(kn:aX R)(e0:bV R):aX R:=uZ C fl k (j7 C fl k kn e0) (sW C fl k (j7 C fl k kn e0)) kn e0
theorem Sx(cn vg:ab):(cp dx (ce C fl k (Fp cn vg) K))=uZ C fl k (cp dx (ce C fl k cn K)) (cp dx (ce C fl k vg (vx 1 (bT C fl k cn K)))) (cp dx (K .normal)) (cp A4 (K (.exit 0))):=by kernel_rfl
theorem Sy:(cp dx (ce C fl k A5 K))=C6 C fl k (cp dx (K .normal)) (cp A4 (K (.exit 0))):=(Sx C fl k K pb wx).trans (pO (fun L0 L1=>uZ C fl k L0 L1 _ _) (BL C fl k K) ((Oc C fl k (vx 1 (bT C fl k pb K))).trans (ak (fun L0=>sW C fl k L0) (bn1 (BL C fl k K)))))
def wy{R:Type}(C:Callee)(fl k:Nat)(kx:aX R)(kn:aX R)(e0:bV R):aX R:=fun t3 t7 t8 t9 t10 h=>if decide (t10≥0)=true then kx t3 t7 t8 t9 t10 h else e0 t3 t9 h
def ra(kn:aX R)(e0:bV R):aX R:=wy C fl k (C6 C fl k kn e0) kn e0
theorem ZL(cn:ab):(cp dx (ce C fl k (MV cn) K))=wy C fl k (cp dx (ce C fl k cn K)) (cp dx (K .normal)) (cp A4 (K (.exit 0))):=by kernel_rfl
theorem ZM:(cp dx (ce C fl k Hh K))=ra C fl k (cp dx (K .normal)) (cp A4 (K (.exit 0))):=(ZL C fl k K A5).trans (ak (fun L0=>wy C fl k L0 _ _) (Sy C fl k K))
def re(kn:bV R):Nat→aX R
 |0=>fun _ _ _ _ _ _=>none
 |m+1=>ra C fl k (re kn m) kn
theorem MW:∀m,(cp dx (aQ m (bK C fl k Hh 0 K)))=re C fl k (cp A4 (K .normal)) m
 |0=>by kernel_rfl
 |m+1=>mL (ZM C fl k _) (ak (fun L=>ra C fl k L _) (MW m))
def Wc(kr:ag R):aX R:=re C fl k (Et C fl k kr) k
theorem ag0:(cp dx (ce C fl k Rc K))=Wc C fl k (cp Pb (K .ret)):=(pA (mM (MW C fl k (bT C fl k Hg K)))).trans (ak (fun L=>re C fl k L k) (py (ZK C fl k K)))
def Wd{R:Type}(C:Callee)(fl k:Nat)(kx:aX R)(kr:ag R):ic R:=fun aI aH aJ t1 t2 h=>cU h [vi aI,vi aH,vs aJ] fun b41 h42=>aF .i64 h42 b41 0 fun n43=>aF .i64 h42 b41 1 fun n44=>aD C h42.next fn.fZ [vi t1,vi n43,vi n44] h42 fun v45 h46=>bB v45 fun s47=>aF .i64 h46 b41 0 fun n48=>aF .i64 h46 b41 1 fun n49=>aD C fl fn.fZ [vi t2,vi n48,vi n49] h46 fun v50 h51=>bB v50 fun s52=>aF .i64 h51 b41 1 fun n53=>wU 8 [.int .i64 0] n53 n53 h51 fun s54 h55=>aF .i64 h55 b41 1 fun n56=>kx ⟨b41,0,none⟩ s47 s52 s54 (bM (n56-1)) h55
def alE(kr:ag R):ic R:=Wd C fl k (Wc C fl k kr) kr
theorem arb(cn:ab):(cp afh (ce C fl k (afg cn) K))=Wd C fl k (cp dx (ce C fl k cn K)) (cp Pb (K .ret)):=by kernel_rfl
theorem arc:(cp afh (ce C fl k alD K))=alE C fl k (cp Pb (K .ret)):=(arb C fl k K Rc).trans (ak (fun L0=>Wd C fl k L0 _) (ag0 C fl k K))
def eY(ax ay:Int)(aA:Sl)(p1 p2:Int)(h:AH):Option (Value×AH):=alE C fl k (fun y6 q=>some (vi y6,q)) ax ay aA p1 p2 h
theorem wz(ax ay:Int)(aA:Sl)(p1 p2:Int)(h):bk C fl k lU [.agg ⟨[vi ax,vi ay,vs aA]⟩,vi p1,vi p2] h=eY C fl k ax ay aA p1 p2 h:=vK (arc C fl k (aE _)) ax ay aA p1 p2 (by kernel_rfl) (by kernel_rfl)
def Pc(t6:Int):List Value:=un 6 (vi t6::un 70 [])
def Hi:ab:=.seq (.region [m 76 7,m 6 76] [7,76]) (.ret)
def JP(t7:Int):List Value:=un 7 (vi t7::un 69 [])
abbrev sX(R:Type):=OA→Int→Int→Int→Int→AH→Option R
def sY(t0:OA)(t1 t2 t7 t8:Int):List Value:=vn t0::vi t1::vi t2::un 4 (vi t7::vi t8::un 68 [])
def A6:ab:=.block 1 (.seq (.region [m 30 7,m 31 1,m 32 0,oI 33 (.cg (.t 32)),fa 34 0 33,fa 35 0 34,lj 36 35,bb 37 .rem 31 36,m 38 2,m 39 0,oI 40 (.cg (.t 39)),fa 41 0 40,fa 42 0 41,lj 43 42,bb 44 .rem 38 43,bb 45 .add 37 44,m 46 0,oI 47 (.cg (.t 46)),fa 48 0 47,fa 49 0 48,lj 50 49,bb 51 .rem 45 50,m 52 8,bb 53 .mul 51 52,bb 54 .add 30 53,m 7 54] [30,31,32,33,34,35,36,37,38,39,40,41,42,43,44,45,46,47,48,49,50,51,52,53,54]) (.seq (.region [m 55 8,m 56 0,oI 57 (.cg (.t 56)),fa 58 0 57,fa 59 0 58,li 60 59,bb 61 .mul 55 60,m 8 61] [55,56,57,58,59,60,61]) (.seq (.region [m 62 1,m 63 0,oI 64 (.cg (.t 63)),fa 65 0 64,fa 66 0 65,li 67 66,bb 68 .quo 62 67,m 1 68] [62,63,64,65,66,67,68]) (.region [m 69 2,m 70 0,oI 71 (.cg (.t 70)),fa 72 0 71,fa 73 0 72,li 74 73,bb 75 .quo 69 74,m 2 75] [69,70,71,72,73,74,75]))))
def MX(cn:ab):ab:=.seq (.seq (.region [m 24 1,ck 25 .gtr 24 0,m 26 25,.fb 26 false [qI 27 (.mv (.t 2)),qI 28 (.cmp .gtr .i64 (.t 27) (ci 0))],oI 29 (.pick (.t 26) (.c (.bool true)) (.t 28))] [24,25,26,27,28]) (.cond (.t 29) (kl [29]) (.seq (kl [0,1,2,8,29]) (.exit 0)))) cn
def Hj:ab:=MX A6
def Rd:ab:=.seq (.block 0 (.loop Hj)) Hi
def afi(cn:ab):ab:=.seq (.seq (.region [mc 6 0] [6]) (.seq (.region [m 9 0,m 10 1,oI 11 (.call (.f 144) [.t 9,.t 10] (.one (.one (.int .i64)))),m 12 0,m 13 2,oI 14 (.call (.f 144) [.t 12,.t 13] (.one (.one (.int .i64)))),m 1 11,m 2 14] [9,10,11,12,13,14]) (.seq (.region [m 15 0,oI 16 (.cg (.t 15)),fa 17 0 16,fa 18 0 17,li 19 18,ck 20 .eql 19 2] [15,16,17,18,19]) (.seq (.cond (.t 20) (.seq (.region [m 21 1,m 22 2,bb 23 .xor 21 22,m 6 23] [0,1,2,20,21,22,23]) (.ret)) (kl [20])) (.region [mc 7 0,mc 8 1] []))))) cn
def alF:ab:=afi Rd
def afj(t0:OA)(t1 t2:Int):List Value:=vn t0::vi t1::vi t2::un 74 []
def pd:aB:=⟨77,alF,[.tmp 6]⟩
theorem Od:okF Tryz.prog 149 pd=true:=by kernel_rfl
def Lm{R:Type}(C:Callee)(fl k:Nat)(kr:ag R):ag R:=fun t7 h=>kr t7 h
theorem ZN:(cp JP (ce C fl k Hi K))=Lm C fl k (cp Pc (K .ret)):=by kernel_rfl
def xN{R:Type}(C:Callee)(fl k:Nat)(kn:sX R)(e0:ag R):sX R:=fun t0 t1 t2 t7 t8 h=>cT (.pointer t0) fun p1=>aF .i64 h p1.block p1.off fun n2=>iZ .rem .i64 t1 n2 fun n3=>cT (.pointer t0) fun p4=>aF .i64 h p4.block p4.off fun n5=>iZ .rem .i64 t2 n5 fun n6=>cT (.pointer t0) fun p7=>aF .i64 h p7.block p7.off fun n8=>iZ .rem .i64 (bM (n3+n6)) n8 fun n9=>cT (.pointer t0) fun Xw=>aF .i64 h Xw.block Xw.off fun EA=>cT (.pointer t0) fun LO=>aF .i64 h LO.block LO.off fun DA=>iZ .quo .i64 t1 DA fun BS=>cT (.pointer t0) fun Xb=>aF .i64 h Xb.block Xb.off fun Kr=>iZ .quo .i64 t2 Kr fun S8=>kn t0 BS S8 (bM (t7+(bM (n9*t8)))) (bM (t8*EA)) h
theorem Sz:(cp sY (ce C fl k A6 K))=xN C fl k (cp sY (K .normal)) (cp JP (K (.exit 0))):=by kernel_rfl
def wA{R:Type}(C:Callee)(fl k:Nat)(kx:sX R)(kn:sX R)(e0:ag R):sX R:=fun t0 t1 t2 t7 t8 h=>if decide (t1>0)=false then if decide (t2>0)=true then kx t0 t1 t2 t7 t8 h else e0 t7 h else kx t0 t1 t2 t7 t8 h
def rh(kn:sX R)(e0:ag R):sX R:=wA C fl k (xN C fl k kn e0) kn e0
theorem ZO(cn:ab):(cp sY (ce C fl k (MX cn) K))=wA C fl k (cp sY (ce C fl k cn K)) (cp sY (K .normal)) (cp JP (K (.exit 0))):=by kernel_rfl
theorem ZP:(cp sY (ce C fl k Hj K))=rh C fl k (cp sY (K .normal)) (cp JP (K (.exit 0))):=(ZO C fl k K A6).trans (ak (fun L0=>wA C fl k L0 _ _) (Sz C fl k K))
def rj(kn:ag R):Nat→sX R
 |0=>fun _ _ _ _ _ _=>none
 |m+1=>rh C fl k (rj kn m) kn
theorem MY:∀m,(cp sY (aQ m (bK C fl k Hj 0 K)))=rj C fl k (cp JP (K .normal)) m
 |0=>by kernel_rfl
 |m+1=>mL (ZP C fl k _) (ak (fun L=>rh C fl k L _) (MY m))
def We(kr:ag R):sX R:=rj C fl k (Lm C fl k kr) k
theorem ag1:(cp sY (ce C fl k Rd K))=We C fl k (cp Pc (K .ret)):=(pA (mM (MY C fl k (bT C fl k Hi K)))).trans (ak (fun L=>rj C fl k L k) (py (ZN C fl k K)))
def Wf{R:Type}(C:Callee)(fl k:Nat)(kx:sX R)(kr:ag R):xG R:=fun t0 t1 t2 h=>aD C fl fn.eX [.pointer t0,vi t1] h fun v18 HL=>asInt .i64 v18 fun n20=>aD C fl fn.eX [.pointer t0,vi t2] HL fun v21 h22=>asInt .i64 v21 fun n23=>cT (.pointer t0) fun p24=>aF .i64 h22 p24.block p24.off fun n25=>if (n25==2)=true then iZ .xor .i64 n20 n23 fun Kv=>kr Kv h22 else kx t0 n20 n23 0 1 h22
def alG(kr:ag R):xG R:=Wf C fl k (We C fl k kr) kr
theorem ard(cn:ab):(cp afj (ce C fl k (afi cn) K))=Wf C fl k (cp sY (ce C fl k cn K)) (cp Pc (K .ret)):=by kernel_rfl
theorem are:(cp afj (ce C fl k alF K))=alG C fl k (cp Pc (K .ret)):=(ard C fl k K Rd).trans (ak (fun L0=>Wf C fl k L0 _) (ag1 C fl k K))
def gV(p0:OA)(p1 p2:Int)(h:AH):Option (Value×AH):=alG C fl k (fun y6 q=>some (vi y6,q)) p0 p1 p2 h
theorem zB(p0:OA)(p1 p2:Int)(h):bk C fl k pd [.pointer p0,vi p1,vi p2] h=gV C fl k p0 p1 p2 h:=yI (are C fl k (aE _)) p0 p1 p2 (by kernel_rfl) (by kernel_rfl)
def xO:aB:=⟨6,.seq (.region [oI 2 (.mv (.c (.bool false)))] [2]) (.seq (.region [m 3 0,m 4 0,cm 5 .neq 3 4,m 2 5] [0,3,4,5]) (.ret)),[.tmp 2]⟩
theorem Wg:okF Tryz.prog 151 xO=true:=by kernel_rfl
def Pd(t2:Sl):List Value:=un 2 (t2.v::un 18 [])
def Hk:ab:=.seq (.region [m 20 3,m 2 20] [3,20]) (.ret)
def Wh(t3:Sl):List Value:=un 3 (t3.v::un 17 [])
def JQ(t0 t3:Sl)(t4:Int):List Value:=t0.v::un 2 (t3.v::vi t4::un 16 [])
def Hl:ab:=.seq (.region [m 5 4,m 6 0,ln 7 6,cm 8 .lss 5 7] [5,6,7]) (.seq (.cond (.t 8) (kl [8]) (.seq (kl [0,4,8]) (.exit 0))) (.seq (.block 1 (.region [m 11 3,oI 12 (.aO 0 [] []),m 13 0,m 14 4,ia 15 1 13 14,ls 16 15,oI 17 (.append 1 8 (.t 12) (.t 16)),oI 18 (.aO 1 [.slice none 0 0] [(0,1,.t 17)]),oI 19 (.append 1 24 (.t 11) (.t 18)),m 3 19] [11,12,13,14,15,16,17,18,19])) (.region [m 9 4,bc 10 .add 9 1,m 4 10] [9,10])))
def Re:ab:=.seq (.block 0 (.loop Hl)) Hk
def afk(cn:ab):ab:=.seq (.seq (.region [oI 2 (.mv (.c (.slice none 0 0)))] [2]) (.seq (.region [oI 3 (.mv (.c (.slice none 0 0)))] []) (.region [mc 4 0] []))) cn
def alH:ab:=afk Re
def afl(t0:Sl):List Value:=t0.v::un 20 []
def u5:aB:=⟨21,alH,[.tmp 2]⟩
theorem SA:okF Tryz.prog 152 u5=true:=by kernel_rfl
def Ln{R:Type}(C:Callee)(fl k:Nat)(kr:an R):an R:=fun t3 h=>kr t3 h
theorem ZQ:(cp Wh (ce C fl k Hk K))=Ln C fl k (cp Pd (K .ret)):=by kernel_rfl
def rl{R:Type}(C:Callee)(fl k:Nat)(kn:ff R)(e0:an R):ff R:=fun t0 t3 t4 h=>if decide (t4<((t0.l:Nat):Int))=true then cU h [] fun b1 h2=>idx 1 t0 t4 fun p3=>bC h2 p3.block p3.off fun s4=>iJ fl 1 8 ⟨(some ⟨b1,0,none⟩),0,0⟩ s4 h2 fun s5 h6=>cU h6 [vs s5] fun b7 h8=>iJ fl 1 24 t3 ⟨(some ⟨b7,0,none⟩),1,1⟩ h8 fun s9 FC=>kn t0 s9 (bM (t4+1)) FC else e0 t3 h
theorem ZR:(cp JQ (ce C fl k Hl K))=rl C fl k (cp JQ (K .normal)) (cp Wh (K (.exit 0))):=by kernel_rfl
def nS(kn:an R):Nat→ff R
 |0=>fun _ _ _ _=>none
 |m+1=>rl C fl k (nS kn m) kn
theorem MZ:∀m,(cp JQ (aQ m (bK C fl k Hl 0 K)))=nS C fl k (cp Wh (K .normal)) m
 |0=>by kernel_rfl
 |m+1=>mL (ZR C fl k _) (ak (fun L=>rl C fl k L _) (MZ m))
def afm(kr:an R):ff R:=nS C fl k (Ln C fl k kr) k
theorem ag2:(cp JQ (ce C fl k Re K))=afm C fl k (cp Pd (K .ret)):=(pA (mM (MZ C fl k (bT C fl k Hk K)))).trans (ak (fun L=>nS C fl k L k) (py (ZQ C fl k K)))
def Wi{R:Type}(C:Callee)(fl k:Nat)(kx:ff R)(kr:an R):an R:=fun t0 h=>kx t0 ⟨none,0,0⟩ 0 h
def alI(kr:an R):an R:=Wi C fl k (afm C fl k kr) kr
theorem arf(cn:ab):(cp afl (ce C fl k (afk cn) K))=Wi C fl k (cp JQ (ce C fl k cn K)) (cp Pd (K .ret)):=by kernel_rfl
theorem arh:(cp afl (ce C fl k alH K))=alI C fl k (cp Pd (K .ret)):=(arf C fl k K Re).trans (ak (fun L0=>Wi C fl k L0 _) (ag2 C fl k K))
def vJ(p0:Sl)(h:AH):Option (Value×AH):=alI C fl k (fun y2 q=>some (vs y2,q)) p0 h
theorem Rf(p0:Sl)(h):bk C fl k u5 [vs p0] h=vJ C fl k p0 h:=ab2 (arh C fl k (aE _)) p0 (by kernel_rfl) (by kernel_rfl)
def Pe(t6:Sl):List Value:=un 6 (t6.v::un 22 [])
def Hm:ab:=.seq (.region [m 28 7,m 6 28] [7,28]) (.ret)
def Wj(t7:Sl):List Value:=un 7 (t7.v::un 21 [])
abbrev JR(R:Type):=Int→Sl→Addr→Sl→Int→AH→Option R
def JS(t1:Int)(t2:Sl)(t3:Addr)(t7:Sl)(t8:Int):List Value:=un 1 (vi t1::t2.v::vp t3::un 3 (t7.v::vi t8::un 20 []))
def Hn:ab:=.seq (.region [m 12 8,m 13 2,ln 14 13,cm 15 .lss 12 14] [12,13,14]) (.seq (.cond (.t 15) (kl [15]) (.seq (kl [1,2,3,8,15]) (.exit 0))) (.seq (.block 1 (.region [m 18 7,m 19 8,oJ 20 (.load (.agg [.int .i64,.int .i64,.slice]) (.t 3)),m 21 1,m 22 2,m 23 8,ia 24 1 22 23,lj 25 24,oI 26 (.call (.f 172) [.t 20,.t 21,.t 25] (.one (.one (.int .i64)))),ia 27 1 18 19,sI 1 27 26] [18,19,20,21,22,23,24,25,26,27])) (.region [m 16 8,bc 17 .add 16 1,m 8 17] [16,17])))
def Rg:ab:=.seq (.block 0 (.loop Hn)) Hm
def afn(cn:ab):ab:=.seq (.seq (.region [oI 3 (.box (.t 0)),oI 6 (.mv (.c (.slice none 0 0)))] [0,6]) (.seq (.region [m 9 2,ln 10 9,oI 11 (.cH 8 [.int .i64 0] (.t 10) (.t 10)),m 7 11] [9,10,11]) (.region [mc 8 0] []))) cn
def alJ:ab:=afn Rg
def afo(aI aH:Int)(aJ:Sl)(t1:Int)(t2:Sl):List Value:=.agg ⟨[vi aI,vi aH,vs aJ]⟩::vi t1::t2.v::un 26 []
def sZ:aB:=⟨29,alJ,[.tmp 6]⟩
theorem Rh:okF Tryz.prog 153 sZ=true:=by kernel_rfl
def Lo{R:Type}(C:Callee)(fl k:Nat)(kr:an R):an R:=fun t7 h=>kr t7 h
theorem ZS:(cp Wj (ce C fl k Hm K))=Lo C fl k (cp Pe (K .ret)):=by kernel_rfl
def rm{R:Type}(C:Callee)(fl k:Nat)(kn:JR R)(e0:an R):JR R:=fun t1 t2 t3 t7 t8 h=>if decide (t8<((t2.l:Nat):Int))=true then aF .i64 h t3.block t3.off fun n1=>aF .i64 h t3.block (t3.off+1) fun n2=>bC h t3.block (t3.off+1+1) fun s3=>idx 1 t2 t8 fun p4=>aF .i64 h p4.block p4.off fun n5=>aD C fl fn.gH [.agg ⟨[vi n1,vi n2,vs s3]⟩,vi t1,vi n5] h fun v6 h7=>asInt .i64 v6 fun n8=>idx 1 t7 t8 fun p9=>st fl h7 p9 [vi n8] fun FC=>kn t1 t2 t3 t7 (bM (t8+1)) FC else e0 t7 h
theorem ZT:(cp JS (ce C fl k Hn K))=rm C fl k (cp JS (K .normal)) (cp Wj (K (.exit 0))):=by kernel_rfl
def zC(kn:an R):Nat→JR R
 |0=>fun _ _ _ _ _ _=>none
 |m+1=>rm C fl k (zC kn m) kn
theorem M1:∀m,(cp JS (aQ m (bK C fl k Hn 0 K)))=zC C fl k (cp Wj (K .normal)) m
 |0=>by kernel_rfl
 |m+1=>mL (ZT C fl k _) (ak (fun L=>rm C fl k L _) (M1 m))
def afp(kr:an R):JR R:=zC C fl k (Lo C fl k kr) k
theorem ag3:(cp JS (ce C fl k Rg K))=afp C fl k (cp Pe (K .ret)):=(pA (mM (M1 C fl k (bT C fl k Hm K)))).trans (ak (fun L=>zC C fl k L k) (py (ZS C fl k K)))
def Wk{R:Type}(C:Callee)(fl k:Nat)(kx:JR R)(kr:an R):cy R:=fun aI aH aJ t1 t2 h=>cU h [vi aI,vi aH,vs aJ] fun b11 Tb=>wU 8 [.int .i64 0] ((t2.l:Nat):Int) ((t2.l:Nat):Int) Tb fun s13 h14=>kx t1 t2 ⟨b11,0,none⟩ s13 0 h14
def alK(kr:an R):cy R:=Wk C fl k (afp C fl k kr) kr
theorem ari(cn:ab):(cp afo (ce C fl k (afn cn) K))=Wk C fl k (cp JS (ce C fl k cn K)) (cp Pe (K .ret)):=by kernel_rfl
theorem arj:(cp afo (ce C fl k alJ K))=alK C fl k (cp Pe (K .ret)):=(ari C fl k K Rg).trans (ak (fun L0=>Wk C fl k L0 _) (ag3 C fl k K))
def nF(ax ay:Int)(aA:Sl)(p1:Int)(p2:Sl)(h:AH):Option (Value×AH):=alK C fl k (fun y6 q=>some (vs y6,q)) ax ay aA p1 p2 h
theorem Oe(ax ay:Int)(aA:Sl)(p1:Int)(p2:Sl)(h):bk C fl k sZ [.agg ⟨[vi ax,vi ay,vs aA]⟩,vi p1,vs p2] h=nF C fl k ax ay aA p1 p2 h:=vK (arj C fl k (aE _)) ax ay aA p1 p2 (by kernel_rfl) (by kernel_rfl)
def Eu(t4:Int):List Value:=un 4 (vi t4::un 13 [])
def Ho:ab:=.seq (.region [mc 4 0] []) (.ret)
def Wl:List Value:=un 18 []
def JT(t1:Int)(t2:Addr)(t5:Int):List Value:=un 1 (vi t1::vp t2::un 2 (vi t5::un 12 []))
def Hp:ab:=.seq (.region [m 6 5,oI 7 (.load (.agg [.int .i64,.int .i64,.slice]) (.t 2)),oI 8 (.call (.f 96) [.t 7] (.one (.one (.int .i64)))),cm 9 .lss 6 8] [6,7,8]) (.seq (.cond (.t 9) (kl [9]) (.seq (kl [1,2,5,9]) (.exit 0))) (.seq (.block 1 (.seq (.region [oI 12 (.load (.agg [.int .i64,.int .i64,.slice]) (.t 2)),m 13 1,m 14 5,oI 15 (.call (.f 172) [.t 12,.t 13,.t 14] (.one (.one (.int .i64)))),ck 16 .eql 15 1] [12,13,14,15]) (.cond (.t 16) (.seq (.region [m 17 5,m 4 17] [1,2,5,16,17]) (.ret)) (kl [16])))) (.region [m 10 5,bc 11 .add 10 1,m 5 11] [10,11])))
def Ri:ab:=.seq (.block 0 (.loop Hp)) Ho
def afq(cn:ab):ab:=.seq (.seq (.region [oI 2 (.box (.t 0)),mc 4 0] [0,4]) (.region [mc 5 1] [])) cn
def alL:ab:=afq Ri
def afr(aI aH:Int)(aJ:Sl)(t1:Int):List Value:=.agg ⟨[vi aI,vi aH,vs aJ]⟩::vi t1::un 16 []
def xP:aB:=⟨18,alL,[.tmp 4]⟩
theorem Wm:okF Tryz.prog 154 xP=true:=by kernel_rfl
def Lp{R:Type}(C:Callee)(fl k:Nat)(kr:ag R):av R:=fun h=>kr 0 h
theorem ZU:(cp Wl (ce C fl k Ho K))=Lp C fl k (cp Eu (K .ret)):=by kernel_rfl
def rn{R:Type}(C:Callee)(fl k:Nat)(kn:iV R)(e0:av R)(kr:ag R):iV R:=fun t1 t2 t5 h=>aF .i64 h t2.block t2.off fun n1=>aF .i64 h t2.block (t2.off+1) fun n2=>bC h t2.block (t2.off+1+1) fun s3=>aD C fl fn.kM [.agg ⟨[vi n1,vi n2,vs s3]⟩] h fun v4 h5=>asInt .i64 v4 fun n6=>if decide (t5<n6)=true then aF .i64 h5 t2.block t2.off fun n7=>aF .i64 h5 t2.block (t2.off+1) fun n8=>bC h5 t2.block (t2.off+1+1) fun s9=>aD C fl fn.gH [.agg ⟨[vi n7,vi n8,vs s9]⟩,vi t1,vi t5] h5 fun v10 rL=>asInt .i64 v10 fun ED=>if (ED==1)=true then kr t5 rL else kn t1 t2 (bM (t5+1)) rL else e0 h5
theorem ZV:(cp JT (ce C fl k Hp K))=rn C fl k (cp JT (K .normal)) (cp Wl (K (.exit 0))) (cp Eu (K .ret)):=by kernel_rfl
def rq(kn:av R)(kr:ag R):Nat→iV R
 |0=>fun _ _ _ _=>none
 |m+1=>rn C fl k (rq kn kr m) kn kr
theorem M3:∀m,(cp JT (aQ m (bK C fl k Hp 0 K)))=rq C fl k (cp Wl (K .normal)) (cp Eu (K .ret)) m
 |0=>by kernel_rfl
 |m+1=>mL (ZV C fl k _) (ak (fun L=>rn C fl k L _ _) (M3 m))
def afs(kr:ag R):iV R:=rq C fl k (Lp C fl k kr) kr k
theorem ag4:(cp JT (ce C fl k Ri K))=afs C fl k (cp Eu (K .ret)):=(pA (mM (M3 C fl k (bT C fl k Ho K)))).trans (ak (fun L=>rq C fl k L _ k) (py (ZU C fl k K)))
def Wn{R:Type}(C:Callee)(fl k:Nat)(kx:iV R)(kr:ag R):ki R:=fun aI aH aJ t1 h=>cU h [vi aI,vi aH,vs aJ] fun b13 h14=>kx t1 ⟨b13,0,none⟩ 1 h14
def alM(kr:ag R):ki R:=Wn C fl k (afs C fl k kr) kr
theorem ark(cn:ab):(cp afr (ce C fl k (afq cn) K))=Wn C fl k (cp JT (ce C fl k cn K)) (cp Eu (K .ret)):=by kernel_rfl
theorem arl:(cp afr (ce C fl k alL K))=alM C fl k (cp Eu (K .ret)):=(ark C fl k K Ri).trans (ak (fun L0=>Wn C fl k L0 _) (ag4 C fl k K))
def pV(ax ay:Int)(aA:Sl)(p1:Int)(h:AH):Option (Value×AH):=alM C fl k (fun y4 q=>some (vi y4,q)) ax ay aA p1 h
theorem SB(ax ay:Int)(aA:Sl)(p1:Int)(h):bk C fl k xP [.agg ⟨[vi ax,vi ay,vs aA]⟩,vi p1] h=pV C fl k ax ay aA p1 h:=KP (arl C fl k (aE _)) ax ay aA p1 (by kernel_rfl) (by kernel_rfl)
def Pf(t8:Sl):List Value:=un 8 (t8.v::un 40 [])
def Hq:ab:=.seq (.region [m 48 9,m 8 48] [9,48]) (.ret)
def JU(t9:Sl):List Value:=un 9 (t9.v::un 39 [])
abbrev te(R:Type):=Sl→Int→Sl→Addr→Sl→Int→AH→Option R
def tg(t1:Sl)(t2:Int)(t3:Sl)(t4:Addr)(t9:Sl)(t10:Int):List Value:=un 1 (t1.v::vi t2::t3.v::vp t4::un 4 (t9.v::vi t10::un 38 []))
def A7:ab:=.region [m 18 10,bc 19 .add 18 1,m 10 19] [18,19]
def M4(cn:ab):ab:=.seq (.seq (.region [m 14 10,m 15 1,ln 16 15,cm 17 .lss 14 16] [14,15,16]) (.seq (.cond (.t 17) (kl [17]) (.seq (kl [1,2,3,4,10,17]) (.exit 0))) (.block 1 (.seq (.region [m 20 9,m 21 10,m 22 1,m 23 10,ia 24 1 22 23,li 25 24,ia 26 1 20 21,sI 1 26 25] [20,21,22,23,24,25,26]) (.seq (.region [m 27 3,m 28 10,ia 29 1 27 28,li 30 29,ck 31 .neq 30 0] [27,28,29,30]) (.cond (.t 31) (.region [m 32 9,m 33 10,oJ 34 (.load (.agg [.int .i64,.int .i64,.slice]) (.t 4)),m 35 1,m 36 10,ia 37 1 35 36,lj 38 37,oJ 39 (.load (.agg [.int .i64,.int .i64,.slice]) (.t 4)),m 40 2,m 41 3,m 42 10,ia 43 1 41 42,lj 44 43,oJ 45 (.call (.f 172) [.t 39,.t 40,.t 44] (.one (.one (.int .i64)))),oI 46 (.call (.f 173) [.t 34,.t 38,.t 45] (.one (.one (.int .i64)))),ia 47 1 32 33,sI 1 47 46] [31,32,33,34,35,36,37,38,39,40,41,42,43,44,45,46,47]) (kl [31]))))))) cn
def Hr:ab:=M4 A7
def Rj:ab:=.seq (.block 0 (.loop Hr)) Hq
def aft(cn:ab):ab:=.seq (.seq (.region [oI 4 (.box (.t 0)),oI 8 (.mv (.c (.slice none 0 0)))] [0,8]) (.seq (.region [m 11 1,ln 12 11,oI 13 (.cH 8 [.int .i64 0] (.t 12) (.t 12)),m 9 13] [11,12,13]) (.region [mc 10 0] []))) cn
def alN:ab:=aft Rj
def afu(aI aH:Int)(aJ t1:Sl)(t2:Int)(t3:Sl):List Value:=.agg ⟨[vi aI,vi aH,vs aJ]⟩::t1.v::vi t2::t3.v::un 45 []
def th:aB:=⟨49,alN,[.tmp 8]⟩
theorem Rk:okF Tryz.prog 155 th=true:=by kernel_rfl
def Lq{R:Type}(C:Callee)(fl k:Nat)(kr:an R):an R:=fun t9 h=>kr t9 h
theorem ZW:(cp JU (ce C fl k Hq K))=Lq C fl k (cp Pf (K .ret)):=by kernel_rfl
def nT{R:Type}(C:Callee)(fl k:Nat)(kn:te R)(e0:an R):te R:=fun t1 t2 t3 t4 t9 t10 h=>kn t1 t2 t3 t4 t9 (bM (t10+1)) h
theorem SC:(cp tg (ce C fl k A7 K))=nT C fl k (cp tg (K .normal)) (cp JU (K (.exit 0))):=by kernel_rfl
def wB{R:Type}(C:Callee)(fl k:Nat)(kx:te R)(kn:te R)(e0:an R):te R:=fun t1 t2 t3 t4 t9 t10 h=>if decide (t10<((t1.l:Nat):Int))=true then idx 1 t1 t10 fun p1=>aF .i64 h p1.block p1.off fun n2=>idx 1 t9 t10 fun p3=>st fl h p3 [vi n2] fun h4=>idx 1 t3 t10 fun p5=>aF .i64 h4 p5.block p5.off fun n6=>if (n6 !=0)=true then aF .i64 h4 t4.block t4.off fun n7=>aF .i64 h4 t4.block (t4.off+1) fun n8=>bC h4 t4.block (t4.off+1+1) fun s9=>idx 1 t1 t10 fun Xw=>aF .i64 h4 Xw.block Xw.off fun EA=>aF .i64 h4 t4.block t4.off fun ED=>aF .i64 h4 t4.block (t4.off+1) fun DA=>bC h4 t4.block (t4.off+1+1) fun Xc=>idx 1 t3 t10 fun Xb=>aF .i64 h4 Xb.block Xb.off fun Kr=>aD C h4.next fn.gH [.agg ⟨[vi ED,vi DA,vs Xc]⟩,vi t2,vi Kr] h4 fun v17 OE=>asInt .i64 v17 fun Pq=>aD C fl fn.nH [.agg ⟨[vi n7,vi n8,vs s9]⟩,vi EA,vi Pq] OE fun v20 RX=>asInt .i64 v20 fun W9=>idx 1 t9 t10 fun p23=>st fl RX p23 [vi W9] fun Ab=>kx t1 t2 t3 t4 t9 t10 Ab else kx t1 t2 t3 t4 t9 t10 h4 else e0 t9 h
def ru(kn:te R)(e0:an R):te R:=wB C fl k (nT C fl k kn e0) kn e0
theorem ZX(cn:ab):(cp tg (ce C fl k (M4 cn) K))=wB C fl k (cp tg (ce C fl k cn K)) (cp tg (K .normal)) (cp JU (K (.exit 0))):=by kernel_rfl
theorem ZY:(cp tg (ce C fl k Hr K))=ru C fl k (cp tg (K .normal)) (cp JU (K (.exit 0))):=(ZX C fl k K A7).trans (ak (fun L0=>wB C fl k L0 _ _) (SC C fl k K))
def nU(kn:an R):Nat→te R
 |0=>fun _ _ _ _ _ _ _=>none
 |m+1=>ru C fl k (nU kn m) kn
theorem M5:∀m,(cp tg (aQ m (bK C fl k Hr 0 K)))=nU C fl k (cp JU (K .normal)) m
 |0=>by kernel_rfl
 |m+1=>mL (ZY C fl k _) (ak (fun L=>ru C fl k L _) (M5 m))
def afv(kr:an R):te R:=nU C fl k (Lq C fl k kr) k
theorem ag5:(cp tg (ce C fl k Rj K))=afv C fl k (cp Pf (K .ret)):=(pA (mM (M5 C fl k (bT C fl k Hq K)))).trans (ak (fun L=>nU C fl k L k) (py (ZW C fl k K)))
def Wo{R:Type}(C:Callee)(fl k:Nat)(kx:te R)(kr:an R):OU R:=fun aI aH aJ t1 t2 t3 h=>cU h [vi aI,vi aH,vs aJ] fun b25 h26=>wU 8 [.int .i64 0] ((t1.l:Nat):Int) ((t1.l:Nat):Int) h26 fun s27 h28=>kx t1 t2 t3 ⟨b25,0,none⟩ s27 0 h28
def alO(kr:an R):OU R:=Wo C fl k (afv C fl k kr) kr
theorem arn(cn:ab):(cp afu (ce C fl k (aft cn) K))=Wo C fl k (cp tg (ce C fl k cn K)) (cp Pf (K .ret)):=by kernel_rfl
theorem aro:(cp afu (ce C fl k alN K))=alO C fl k (cp Pf (K .ret)):=(arn C fl k K Rj).trans (ak (fun L0=>Wo C fl k L0 _) (ag5 C fl k K))
def nG(ax ay:Int)(aA p1:Sl)(p2:Int)(p3:Sl)(h:AH):Option (Value×AH):=alO C fl k (fun y8 q=>some (vs y8,q)) ax ay aA p1 p2 p3 h
theorem Of(ax ay:Int)(aA p1:Sl)(p2:Int)(p3:Sl)(h):bk C fl k th [.agg ⟨[vi ax,vi ay,vs aA]⟩,vs p1,vi p2,vs p3] h=nG C fl k ax ay aA p1 p2 p3 h:=agi (aro C fl k (aE _)) ax ay aA p1 p2 p3 (by kernel_rfl) (by kernel_rfl)
def arp(t4:Sl):List Value:=un 4 (t4.v::un 8 [])
def alP:ab:=.seq (.region [oI 2 (.box (.t 0)),oI 4 (.mv (.c (.slice none 0 0)))] [0,4]) (.seq (.region [oJ 5 (.load (.agg [.int .i64,.int .i64,.slice]) (.t 2)),m 6 1,oJ 7 (.call (.f 174) [.t 5,.t 6] (.one (.one (.int .i64)))),fa 8 0 2,lj 9 8,fa 10 1 2,lj 11 10,oI 12 (.call (.f 137) [.t 7,.t 9,.t 11] (.one (.one .slice))),m 4 12] [1,2,5,6,7,8,9,10,11,12]) (.ret))
def arq(aI aH:Int)(aJ:Sl)(t1:Int):List Value:=.agg ⟨[vi aI,vi aH,vs aJ]⟩::vi t1::un 11 []
def pe:aB:=⟨13,alP,[.tmp 4]⟩
theorem Og:okF Tryz.prog 156 pe=true:=by kernel_rfl
def alQ{R:Type}(C:Callee)(fl k:Nat)(kr:an R):ki R:=fun aI aH aJ t1 h=>cU h [vi aI,vi aH,vs aJ] fun b1 h2=>aF .i64 h2 b1 0 fun n3=>aF .i64 h2 b1 1 fun n4=>bC h2 b1 2 fun s5=>aD C h2.next fn.yH [.agg ⟨[vi n3,vi n4,vs s5]⟩,vi t1] h2 fun v6 h7=>asInt .i64 v6 fun n8=>aF .i64 h7 b1 0 fun n9=>aF .i64 h7 b1 1 fun tO=>aD C fl fn.ly [vi n8,vi n9,vi tO] h7 fun v11 Tb=>bB v11 fun s13=>kr s13 Tb
theorem ars:(cp arq (ce C fl k alP K))=alQ C fl k (cp arp (K .ret)):=by kernel_rfl
def cP(ax ay:Int)(aA:Sl)(p1:Int)(h:AH):Option (Value×AH):=alQ C fl k (fun y4 q=>some (vs y4,q)) ax ay aA p1 h
theorem Lr(ax ay:Int)(aA:Sl)(p1:Int)(h):bk C fl k pe [.agg ⟨[vi ax,vi ay,vs aA]⟩,vi p1] h=cP C fl k ax ay aA p1 h:=KP (ars C fl k (aE _)) ax ay aA p1 (by kernel_rfl) (by kernel_rfl)
def Pg(t4:Int):List Value:=un 4 (vi t4::un 19 [])
def Hs:ab:=.seq (.region [m 23 5,m 4 23] [5,23]) (.ret)
def Wp(t5:Int):List Value:=un 5 (vi t5::un 18 [])
abbrev JV(R:Type):=Sl→Addr→Int→Int→AH→Option R
def JW(t1:Sl)(t2:Addr)(t5 t6:Int):List Value:=un 1 (t1.v::vp t2::un 2 (vi t5::vi t6::un 17 []))
def Ht:ab:=.seq (.region [m 10 6,ck 11 .geq 10 0] [10]) (.seq (.cond (.t 11) (kl [11]) (.seq (kl [1,2,6,11]) (.exit 0))) (.seq (.block 1 (.region [m 14 5,fa 15 0 2,lj 16 15,bb 17 .mul 14 16,m 18 1,m 19 6,ia 20 1 18 19,lj 21 20,bb 22 .add 17 21,m 5 22] [14,15,16,17,18,19,20,21,22])) (.region [m 12 6,bc 13 .sub 12 1,m 6 13] [12,13])))
def Rl:ab:=.seq (.block 0 (.loop Ht)) Hs
def afw(cn:ab):ab:=.seq (.seq (.region [oI 2 (.box (.t 0)),mc 4 0] [0,4]) (.seq (.region [mc 5 0] []) (.region [m 7 1,ln 8 7,bc 9 .sub 8 1,m 6 9] [7,8,9]))) cn
def alR:ab:=afw Rl
def afx(aI aH:Int)(aJ t1:Sl):List Value:=.agg ⟨[vi aI,vi aH,vs aJ]⟩::t1.v::un 22 []
def tn:aB:=⟨24,alR,[.tmp 4]⟩
theorem Rm:okF Tryz.prog 157 tn=true:=by kernel_rfl
def Ls{R:Type}(C:Callee)(fl k:Nat)(kr:ag R):ag R:=fun t5 h=>kr t5 h
theorem ZZ:(cp Wp (ce C fl k Hs K))=Ls C fl k (cp Pg (K .ret)):=by kernel_rfl
def rv{R:Type}(C:Callee)(fl k:Nat)(kn:JV R)(e0:ag R):JV R:=fun t1 t2 t5 t6 h=>if decide (t6≥0)=true then aF .i64 h t2.block t2.off fun n1=>idx 1 t1 t6 fun p2=>aF .i64 h p2.block p2.off fun n3=>kn t1 t2 (bM (bM (t5*n1)+n3)) (bM (t6-1)) h else e0 t5 h
theorem Z0:(cp JW (ce C fl k Ht K))=rv C fl k (cp JW (K .normal)) (cp Wp (K (.exit 0))):=by kernel_rfl
def zD(kn:ag R):Nat→JV R
 |0=>fun _ _ _ _ _=>none
 |m+1=>rv C fl k (zD kn m) kn
theorem M6:∀m,(cp JW (aQ m (bK C fl k Ht 0 K)))=zD C fl k (cp Wp (K .normal)) m
 |0=>by kernel_rfl
 |m+1=>mL (Z0 C fl k _) (ak (fun L=>rv C fl k L _) (M6 m))
def Wq(kr:ag R):JV R:=zD C fl k (Ls C fl k kr) k
theorem ag6:(cp JW (ce C fl k Rl K))=Wq C fl k (cp Pg (K .ret)):=(pA (mM (M6 C fl k (bT C fl k Hs K)))).trans (ak (fun L=>zD C fl k L k) (py (ZZ C fl k K)))
def Wr{R:Type}(C:Callee)(fl k:Nat)(kx:JV R)(kr:ag R):xy R:=fun aI aH aJ t1 h=>cU h [vi aI,vi aH,vs aJ] fun b4 h5=>kx t1 ⟨b4,0,none⟩ 0 (bM (((t1.l:Nat):Int)-1)) h5
def alS(kr:ag R):xy R:=Wr C fl k (Wq C fl k kr) kr
theorem art(cn:ab):(cp afx (ce C fl k (afw cn) K))=Wr C fl k (cp JW (ce C fl k cn K)) (cp Pg (K .ret)):=by kernel_rfl
theorem aru:(cp afx (ce C fl k alR K))=alS C fl k (cp Pg (K .ret)):=(art C fl k K Rl).trans (ak (fun L0=>Wr C fl k L0 _) (ag6 C fl k K))
def fN(ax ay:Int)(aA p1:Sl)(h:AH):Option (Value×AH):=alS C fl k (fun y4 q=>some (vi y4,q)) ax ay aA p1 h
theorem Oh(ax ay:Int)(aA p1:Sl)(h):bk C fl k tn [.agg ⟨[vi ax,vi ay,vs aA]⟩,vs p1] h=fN C fl k ax ay aA p1 h:=KP (aru C fl k (aE _)) ax ay aA p1 (by kernel_rfl) (by kernel_rfl)
def eS:aB:=⟨38,.seq (.region [oI 6 (.mv (.c (.slice none 0 0)))] [6]) (.seq (.region [m 11 0,oI 12 (.cg (.t 11)),fa 13 0 12,oI 14 (.load (.one .jW) (.t 13)),oI 15 (.build [.pointer none,.slice none 0 0,.slice none 0 0] [(0,1,.t 14)]),oI 16 (.box (.t 15)),m 7 16] [11,12,13,14,15,16]) (.seq (.region [oI 8 (.mv (.c (.slice none 0 0)))] []) (.seq (.seq (.region [m 17 1,ln 18 17,mc 19 0] [1]) (.block 0 (.loop (.seq (.region [cm 20 .lss 19 18] []) (.seq (.cond (.t 20) (kl [20]) (.seq (kl [0,2,7,17,18,19,20]) (.exit 0))) (.seq (.block 1 (.seq (.region [ia 21 1 17 19,li 22 21,m 10 22] [21,22]) (.seq (.seq (.region [m 23 8,ln 24 23,m 25 2,cm 26 .eql 24 25] [23,24,25]) (.cond (.t 26) (.seq (kl [0,2,7,10,17,18,19,26]) (.exit 0)) (kl [26]))) (.seq (.region [m 27 7,m 28 0,m 29 10,oI 30 (.call (.f 176) [.t 28,.t 29] (.one (.one .slice))),oI 31 (.call (.f 175) [.t 27,.t 30] (.one (.one .bool)))] [27,28,29,30]) (.cond (.t 31) (.region [m 32 8,m 33 10,oI 34 (.aO 1 [.int .i64 0] [(0,1,.t 33)]),oI 35 (.append 1 8 (.t 32) (.t 34)),m 8 35] [10,31,32,33,34,35]) (kl [10,31])))))) (.region [bc 36 .add 19 1,m 19 36] [36]))))))) (.seq (.region [m 37 8,m 6 37] [8,37]) (.ret))))),[.tmp 6]⟩
theorem xd:okF Tryz.prog 158 eS=true:=by kernel_rfl
def eI:aB:=⟨36,.seq (.region [oI 6 (.mv (.c (.slice none 0 0)))] [6]) (.seq (.region [m 9 2,oI 10 (.call (.f 178) [.t 9] (.one (.one .any))),oI 11 (.call (.f 177) [.t 10] (.one (.one .slice))),m 7 11] [9,10,11]) (.seq (.seq (.region [m 12 0,oI 13 (.cg (.t 12)),fa 14 1 13,fa 15 3 14,li 16 15,mc 17 0] [0,12,13,14,15]) (.block 0 (.loop (.seq (.region [cm 18 .lss 17 16] []) (.seq (.cond (.t 18) (kl [18]) (.seq (kl [1,2,16,17,18]) (.exit 0))) (.seq (.block 1 (.seq (.region [m 19 17,m 8 19] [19]) (.seq (.region [m 20 1,m 21 8,oI 22 (.call (.f 54) [.t 20,.t 21] (.one (.one .bool))),no 23 22,m 24 23,.fb 24 true [qI 25 (.mv (.t 2)),qI 26 (.mv (.t 8)),qI 27 (.call (.f 54) [.t 25,.t 26] (.one (.one .bool))),qI 28 (.not (.t 27))],oI 29 (.pick (.t 24) (.t 28) (.c (.bool false)))] [20,21,22,23,24,25,26,27,28]) (.cond (.t 29) (.region [m 30 7,m 31 8,oI 32 (.aO 1 [.int .i64 0] [(0,1,.t 31)]),oI 33 (.append 1 8 (.t 30) (.t 32)),m 7 33] [8,29,30,31,32,33]) (kl [8,29]))))) (.region [bc 34 .add 17 1,m 17 34] [34]))))))) (.seq (.region [m 35 7,m 6 35] [7,35]) (.ret)))),[.tmp 6]⟩
theorem wC:okF Tryz.prog 159 eI=true:=by kernel_rfl
def tq:aB:=⟨11,.seq (.region [m 3 0,ln 4 3,m 2 4] [3,4]) (.region [m 5 0,m 6 2,m 7 2,oI 8 (.conv .i64 .u64 (.t 7)),oI 9 (.call (.f 180) [.t 8] (.one (.one (.int .i64)))),oI 10 (.call (.f 179) [.t 5,ci 0,.t 6,.t 9] (.jn []))] [0,2,5,6,7,8,9,10]),[]⟩
theorem Rn:okF Tryz.prog 160 tq=true:=by kernel_rfl
def fp:aB:=⟨95,.seq (.region [oI 6 (.mv (.c (.bool false)))] [6]) (.seq (.seq (.region [m 9 2,ln 10 9,mc 11 0] []) (.block 0 (.loop (.seq (.region [cm 12 .lss 11 10] []) (.seq (.cond (.t 12) (kl [12]) (.seq (kl [9,10,11,12]) (.exit 0))) (.seq (.block 1 (.seq (.region [m 13 11,ia 14 1 9 11,li 15 14,m 7 13,m 8 15] [13,14,15]) (.seq (.region [m 16 8,ck 17 .lss 16 0,m 18 17,.fb 18 false [qI 19 (.mv (.t 8)),qI 20 (.mv (.t 0)),qI 21 (.cg (.t 20)),qI 22 (.bR 1 (.t 21)),qI 23 (.bR 3 (.t 22)),qI 24 (.load (.one (.int .i64)) (.t 23)),qI 25 (.cmp .geq .i64 (.t 19) (.t 24))],oI 26 (.pick (.t 18) (.c (.bool true)) (.t 25)),m 27 26,.fb 27 false [qI 28 (.mv (.t 7)),qI 29 (.cmp .gtr .i64 (.t 28) (ci 0)),qI 30 (.mv (.t 29))],.fb 30 true [qI 31 (.mv (.t 8)),qI 32 (.mv (.t 2)),qI 33 (.mv (.t 7)),qI 34 (.bin .sub .i64 (.t 33) (ci 1)),qI 35 (.di 1 (.t 32) (.t 34)),qI 36 (.load (.one (.int .i64)) (.t 35)),qI 37 (.cmp .leq .i64 (.t 31) (.t 36))],.fb 27 false [qI 38 (.pick (.t 30) (.t 37) (.c (.bool false)))],oI 39 (.pick (.t 27) (.c (.bool true)) (.t 38)),m 40 39,.fb 40 false [qI 41 (.mv (.t 1)),qI 42 (.mv (.t 8)),qI 43 (.call (.f 54) [.t 41,.t 42] (.one (.one .bool)))],oI 44 (.pick (.t 40) (.c (.bool true)) (.t 43))] [7,8,16,17,18,19,20,21,22,23,24,25,26,27,28,29,30,31,32,33,34,35,36,37,38,39,40,41,42,43]) (.cond (.t 44) (.seq (.region [oI 6 (.mv (.c (.bool false)))] [0,1,2,9,10,11,44]) (.ret)) (kl [44]))))) (.region [bc 45 .add 11 1,m 11 45] [45]))))))) (.seq (.seq (.region [m 46 0,m 47 2,m 48 2,ln 49 48,oI 50 (.call (.f 158) [.t 46,.t 47,.t 49] (.one (.one .slice))),ln 51 50,m 52 2,ln 53 52,cm 54 .neq 51 53] [46,47,48,49,50,51,52,53]) (.cond (.t 54) (.seq (.region [oI 6 (.mv (.c (.bool false)))] [0,1,2,54]) (.ret)) (kl [54]))) (.seq (.seq (.region [m 55 0,oI 56 (.cg (.t 55)),fa 57 7 56,oI 58 (.load (.one .bool) (.t 57)),no 59 58] [55,56,57,58]) (.cond (.t 59) (.seq (.region [m 60 2,ln 61 60,m 62 0,oI 63 (.cg (.t 62)),fa 64 8 63,li 65 64,cm 66 .eql 61 65,m 6 66] [0,1,2,59,60,61,62,63,64,65,66]) (.ret)) (kl [59]))) (.seq (.region [m 67 0,m 68 0,m 69 1,oJ 70 (.call (.f 159) [.t 68,.t 69,.c (.slice none 0 0)] (.one (.one .slice))),m 71 0,oI 72 (.cg (.t 71)),fa 73 1 72,fa 74 3 73,lj 75 74,oI 76 (.call (.f 158) [.t 67,.t 70,.t 75] (.one (.one .slice))),ln 77 76,m 78 2,ln 79 78,cm 80 .eql 77 79,m 81 80,.fb 81 true [qI 82 (.mv (.t 1)),qI 83 (.len (.t 82)),qI 84 (.mv (.t 0)),qI 85 (.mv (.t 1)),qI 86 (.mv (.t 2)),qJ 87 (.call (.f 181) [.t 84,.t 85,.t 86] (.one (.one (.int .i64)))),qI 88 (.bin .add .i64 (.t 83) (.t 87)),qI 89 (.mv (.t 0)),qI 90 (.cg (.t 89)),qI 91 (.bR 9 (.t 90)),qJ 92 (.load (.one (.int .i64)) (.t 91)),qI 93 (.cmp .gtr .i64 (.t 88) (.t 92))],oI 94 (.pick (.t 81) (.t 93) (.c (.bool false))),m 6 94] [0,1,2,67,68,69,70,71,72,73,74,75,76,77,78,79,80,81,82,83,84,85,86,87,88,89,90,91,92,93,94]) (.ret))))),[.tmp 6]⟩
theorem yg:okF Tryz.prog 161 fp=true:=by kernel_rfl
def eu:aB:=⟨49,.seq (.region [mc 10 0] [10]) (.seq (.seq (.region [m 14 1,ln 15 14,m 16 0,oI 17 (.cg (.t 16)),fa 18 9 17,li 19 18,cm 20 .eql 15 19] [0,14,15,16,17,18,19]) (.cond (.t 20) (.seq (.region [mc 10 0] [1,2,3,4,20]) (.ret)) (kl [20]))) (.seq (.region [m 21 2,oI 22 (.call (.f 118) [.t 21] (.one (.one .slice))),m 2 22] [21,22]) (.seq (.seq (.region [m 23 3,ln 24 23,mc 25 0] [3]) (.block 0 (.loop (.seq (.region [cm 26 .lss 25 24] []) (.seq (.cond (.t 26) (kl [26]) (.seq (kl [1,2,4,23,24,25,26]) (.exit 0))) (.seq (.block 1 (.seq (.region [ia 27 1 23 25,li 28 27,m 12 28] [27,28]) (.seq (.seq (.region [m 29 2,m 30 12,oI 31 (.call (.f 54) [.t 29,.t 30] (.one (.one .bool)))] [29,30]) (.cond (.t 31) (.seq (kl [12,31]) (.exit 1)) (kl [31]))) (.seq (.seq (.region [m 32 4,m 33 1,oI 34 (.call (.f 118) [.t 33] (.one (.one .slice))),m 35 12,oI 36 (.aO 1 [.int .i64 0] [(0,1,.t 35)]),oI 37 (.append 1 8 (.t 34) (.t 36)),m 38 2,oI 39 (.call (.f 118) [.t 38] (.one (.one .slice))),oI 40 (.call (.t 32) [.t 37,.t 39] (.one (.one (.int .i64)))),m 13 40] [32,33,34,35,36,37,38,39,40]) (.seq (.region [m 41 13,ck 42 .neq 41 0] [41]) (.cond (.t 42) (.seq (.region [m 43 13,m 10 43] [1,2,4,12,13,23,24,25,42,43]) (.ret)) (kl [13,42])))) (.region [m 44 2,m 45 12,oI 46 (.aO 1 [.int .i64 0] [(0,1,.t 45)]),oI 47 (.append 1 8 (.t 44) (.t 46)),m 2 47] [12,44,45,46,47]))))) (.region [bc 48 .add 25 1,m 25 48] [48]))))))) (.seq (.region [mc 10 0] []) (.ret))))),[.tmp 10]⟩
theorem u6:okF Tryz.prog 162 eu=true:=by kernel_rfl
def arv:List Value:=un 13 []
def alT:ab:=.seq (.region [m 4 0,ls 5 1,oI 6 (.call (.t 4) [.t 5] (.jn []))] [1,4,5,6]) (.seq (.region [ls 7 2,ln 8 7,ck 9 .gtr 8 0] [7,8]) (.cond (.t 9) (.region [m 10 0,ls 11 2,oI 12 (.call (.t 10) [.t 11] (.jn []))] [0,2,9,10,11,12]) (kl [0,2,9])))
abbrev arw(R:Type):=Value→Addr→Addr→AH→Option R
def arx(t0:Value)(t1 t2:Addr):List Value:=t0::vp t1::vp t2::un 10 []
def ig:aB:=⟨13,alT,[]⟩
theorem B2:okF Tryz.prog 166 ig=true:=by kernel_rfl
def alU{R:Type}(C:Callee)(fl k:Nat)(kn:av R):arw R:=fun t0 t1 t2 h=>bC h t1.block t1.off fun s1=>kE C fl t0 [vs s1] h fun v2 h3=>bj v2 fun l4=>ch l4 (bC h3 t2.block t2.off fun s5=>if decide (((s5.l:Nat):Int)>0)=true then bC h3 t2.block t2.off fun s6=>kE C fl t0 [vs s6] h3 fun v7 h8=>bj v7 fun l9=>ch l9 (kn h8) else kn h3)
theorem ary:(cp arx (ce C fl k alT K))=alU C fl k (cp arv (K .normal)):=by kernel_rfl
def eL(p0:Value)(p1 p2:Addr)(h:AH):Option (Value×AH):=alU C fl k (fun q=>some (.tuple ⟨[]⟩,q)) p0 p1 p2 h
theorem A8(p0:Value)(p1 p2:Addr)(h):bk C fl k ig [p0,.pointer (some p1),.pointer (some p2)] h=eL C fl k p0 p1 p2 h:=yI (ary C fl k (aE _)) p0 p1 p2 (by kernel_rfl) (by kernel_rfl)
def arz:List Value:=un 15 []
def alV:ab:=.region [m 5 0,lj 6 3,oJ 7 (.load (.one .jW) (.t 1)),lj 8 2,m 9 0,lj 10 3,ia 11 1 9 10,lt 12 11,oJ 13 (.call (.f 140) [.t 7,.t 8,.t 12] (.one (.one .slice))),ia 14 1 5 6,sI 1 14 13] [0,1,2,3,5,6,7,8,9,10,11,12,13,14]
abbrev arA(R:Type):=Sl→Addr→Addr→Addr→AH→Option R
def arB(t0:Sl)(t1 t2 t3:Addr):List Value:=t0.v::vp t1::vp t2::vp t3::un 11 []
def ij:aB:=⟨15,alV,[]⟩
theorem B3:okF Tryz.prog 168 ij=true:=by kernel_rfl
def alX{R:Type}(C:Callee)(fl k:Nat)(kn:av R):arA R:=fun t0 t1 t2 t3 h=>aF .i64 h t3.block t3.off fun n1=>ldN h t1.block t1.off fun p2=>aF .i64 h t2.block t2.off fun n3=>aF .i64 h t3.block t3.off fun n4=>idx 1 t0 n4 fun p5=>bC h p5.block p5.off fun s6=>aD C h.next fn.jg [.pointer p2,vi n3,vs s6] h fun v7 h8=>bB v7 fun s9=>idx 1 t0 n1 fun Xw=>st fl h8 Xw [vs s9] fun rL=>kn rL
theorem arC:(cp arB (ce C fl k alV K))=alX C fl k (cp arz (K .normal)):=by kernel_rfl
def eM(p0:Sl)(p1 p2 p3:Addr)(h:AH):Option (Value×AH):=alX C fl k (fun q=>some (.tuple ⟨[]⟩,q)) p0 p1 p2 p3 h
theorem A9(p0:Sl)(p1 p2 p3:Addr)(h):bk C fl k ij [vs p0,.pointer (some p1),.pointer (some p2),.pointer (some p3)] h=eM C fl k p0 p1 p2 p3 h:=KP (arC C fl k (aE _)) p0 p1 p2 p3 (by kernel_rfl) (by kernel_rfl)
def arD:List Value:=un 19 []
def alY:ab:=.region [oJ 6 (.load (.one .jW) (.t 1)),m 7 0,lj 8 2,ia 9 1 7 8,lt 10 9,oJ 11 (.load (.one .jW) (.t 1)),lj 12 3,oJ 13 (.call (.f 104) [.t 11,.t 12] (.one (.one (.int .i64)))),m 14 0,lj 15 4,ia 16 1 14 15,lt 17 16,oI 18 (.call (.f 145) [.t 6,.t 10,.t 13,.t 17] (.jn []))] [0,1,2,3,4,6,7,8,9,10,11,12,13,14,15,16,17,18]
abbrev arE(R:Type):=Sl→Addr→Addr→Addr→Addr→AH→Option R
def arF(t0:Sl)(t1 t2 t3 t4:Addr):List Value:=t0.v::vp t1::vp t2::vp t3::vp t4::un 14 []
def ik:aB:=⟨19,alY,[]⟩
theorem B4:okF Tryz.prog 169 ik=true:=by kernel_rfl
def alZ{R:Type}(C:Callee)(fl k:Nat)(kn:av R):arE R:=fun t0 t1 t2 t3 t4 h=>ldN h t1.block t1.off fun p1=>aF .i64 h t2.block t2.off fun n2=>idx 1 t0 n2 fun p3=>bC h p3.block p3.off fun s4=>ldN h t1.block t1.off fun p5=>aF .i64 h t3.block t3.off fun n6=>aD C h.next fn.fG [.pointer p5,vi n6] h fun v7 h8=>asInt .i64 v7 fun n9=>aF .i64 h8 t4.block t4.off fun tO=>idx 1 t0 tO fun p11=>bC h8 p11.block p11.off fun s12=>aD C fl fn.m4 [.pointer p1,vs s4,vi n9,vs s12] h8 fun v13 h14=>bj v13 fun l15=>ch l15 (kn h14)
theorem arG:(cp arF (ce C fl k alY K))=alZ C fl k (cp arD (K .normal)):=by kernel_rfl
def eO(p0:Sl)(p1 p2 p3 p4:Addr)(h:AH):Option (Value×AH):=alZ C fl k (fun q=>some (.tuple ⟨[]⟩,q)) p0 p1 p2 p3 p4 h
theorem Ba(p0:Sl)(p1 p2 p3 p4:Addr)(h):bk C fl k ik [vs p0,.pointer (some p1),.pointer (some p2),.pointer (some p3),.pointer (some p4)] h=eO C fl k p0 p1 p2 p3 p4 h:=vK (arG C fl k (aE _)) p0 p1 p2 p3 p4 (by kernel_rfl) (by kernel_rfl)
def Ph(t6:Sl):List Value:=un 6 (t6.v::un 20 [])
def Hu:ab:=.seq (.region [m 26 7,m 6 26] [7,26]) (.ret)
def Ws(t7:Sl):List Value:=un 7 (t7.v::un 19 [])
def JX(t0 t1:Int)(t7:Sl)(t12 t13:Int):List Value:=vi t0::vi t1::un 5 (t7.v::un 4 (vi t12::vi t13::un 13 []))
def Hv:ab:=.seq (.region [cm 14 .lss 13 12] []) (.seq (.cond (.t 14) (kl [14]) (.seq (kl [0,1,12,13,14]) (.exit 0))) (.seq (.block 1 (.seq (.region [m 15 13,m 8 15] [15]) (.seq (.region [m 16 7,m 17 8,m 18 0,m 19 1,bb 20 .rem 18 19,ia 21 1 16 17,sI 1 21 20] [8,16,17,18,19,20,21]) (.region [m 22 0,m 23 1,bb 24 .quo 22 23,m 0 24] [22,23,24])))) (.region [bc 25 .add 13 1,m 13 25] [25])))
def Ro:ab:=.seq (.block 0 (.loop Hv)) Hu
def afy(cn:ab):ab:=.seq (.seq (.region [oI 6 (.mv (.c (.slice none 0 0)))] [6]) (.seq (.region [m 9 2,oI 10 (.cH 8 [.int .i64 0] (.t 9) (.t 9)),m 7 10] [2,9,10]) (.region [m 11 7,ln 12 11,mc 13 0] [11]))) cn
def al0:ab:=afy Ro
def afz(t0 t1 t2:Int):List Value:=vi t0::vi t1::vi t2::un 24 []
def lV:aB:=⟨27,al0,[.tmp 6]⟩
theorem JY:okF Tryz.prog 170 lV=true:=by kernel_rfl
def Lt{R:Type}(C:Callee)(fl k:Nat)(kr:an R):an R:=fun t7 h=>kr t7 h
theorem Z1:(cp Ws (ce C fl k Hu K))=Lt C fl k (cp Ph (K .ret)):=by kernel_rfl
def rz{R:Type}(C:Callee)(fl k:Nat)(kn:ic R)(e0:an R):ic R:=fun t0 t1 t7 t12 t13 h=>if decide (t13<t12)=true then iZ .rem .i64 t0 t1 fun n1=>idx 1 t7 t13 fun p2=>st fl h p2 [vi n1] fun h3=>iZ .quo .i64 t0 t1 fun n4=>kn n4 t1 t7 t12 (bM (t13+1)) h3 else e0 t7 h
theorem Z2:(cp JX (ce C fl k Hv K))=rz C fl k (cp JX (K .normal)) (cp Ws (K (.exit 0))):=by kernel_rfl
def zE(kn:an R):Nat→ic R
 |0=>fun _ _ _ _ _ _=>none
 |m+1=>rz C fl k (zE kn m) kn
theorem M7:∀m,(cp JX (aQ m (bK C fl k Hv 0 K)))=zE C fl k (cp Ws (K .normal)) m
 |0=>by kernel_rfl
 |m+1=>mL (Z2 C fl k _) (ak (fun L=>rz C fl k L _) (M7 m))
def afA(kr:an R):ic R:=zE C fl k (Lt C fl k kr) k
theorem ag7:(cp JX (ce C fl k Ro K))=afA C fl k (cp Ph (K .ret)):=(pA (mM (M7 C fl k (bT C fl k Hu K)))).trans (ak (fun L=>zE C fl k L k) (py (Z1 C fl k K)))
def Wt{R:Type}(C:Callee)(fl k:Nat)(kx:ic R)(kr:an R):Jw R:=fun t0 t1 t2 h=>wU 8 [.int .i64 0] t2 t2 h fun s5 h6=>kx t0 t1 s5 ((s5.l:Nat):Int) 0 h6
def al1(kr:an R):Jw R:=Wt C fl k (afA C fl k kr) kr
theorem arH(cn:ab):(cp afz (ce C fl k (afy cn) K))=Wt C fl k (cp JX (ce C fl k cn K)) (cp Ph (K .ret)):=by kernel_rfl
theorem arI:(cp afz (ce C fl k al0 K))=al1 C fl k (cp Ph (K .ret)):=(arH C fl k K Ro).trans (ak (fun L0=>Wt C fl k L0 _) (ag7 C fl k K))
def fZ(p0 p1 p2:Int)(h:AH):Option (Value×AH):=al1 C fl k (fun y6 q=>some (vs y6,q)) p0 p1 p2 h
theorem wD(p0 p1 p2:Int)(h):bk C fl k lV [vi p0,vi p1,vi p2] h=fZ C fl k p0 p1 p2 h:=yI (arI C fl k (aE _)) p0 p1 p2 (by kernel_rfl) (by kernel_rfl)
def Pj(t4:Int):List Value:=un 4 (vi t4::un 18 [])
def Hw:ab:=.seq (.region [m 22 5,m 4 22] [5,22]) (.ret)
def Wu(t5:Int):List Value:=un 5 (vi t5::un 17 [])
def JZ(t0:Sl)(t1 t5 t6:Int):List Value:=t0.v::vi t1::un 3 (vi t5::vi t6::un 16 [])
def Hx:ab:=.seq (.region [m 10 6,ck 11 .geq 10 0] [10]) (.seq (.cond (.t 11) (kl [11]) (.seq (kl [0,1,6,11]) (.exit 0))) (.seq (.block 1 (.region [m 14 5,m 15 1,bb 16 .mul 14 15,m 17 0,m 18 6,ia 19 1 17 18,li 20 19,bb 21 .add 16 20,m 5 21] [14,15,16,17,18,19,20,21])) (.region [m 12 6,bc 13 .sub 12 1,m 6 13] [12,13])))
def Rp:ab:=.seq (.block 0 (.loop Hx)) Hw
def afB(cn:ab):ab:=.seq (.seq (.region [mc 4 0] [4]) (.seq (.region [mc 5 0] []) (.region [m 7 0,ln 8 7,bc 9 .sub 8 1,m 6 9] [7,8,9]))) cn
def al2:ab:=afB Rp
def afC(t0:Sl)(t1:Int):List Value:=t0.v::vi t1::un 21 []
def mT:aB:=⟨23,al2,[.tmp 4]⟩
theorem Lu:okF Tryz.prog 171 mT=true:=by kernel_rfl
def Lv{R:Type}(C:Callee)(fl k:Nat)(kr:ag R):ag R:=fun t5 h=>kr t5 h
theorem Z3:(cp Wu (ce C fl k Hw K))=Lv C fl k (cp Pj (K .ret)):=by kernel_rfl
def rA{R:Type}(C:Callee)(fl k:Nat)(kn:cG R)(e0:ag R):cG R:=fun t0 t1 t5 t6 h=>if decide (t6≥0)=true then idx 1 t0 t6 fun p1=>aF .i64 h p1.block p1.off fun n2=>kn t0 t1 (bM (bM (t5*t1)+n2)) (bM (t6-1)) h else e0 t5 h
theorem Z4:(cp JZ (ce C fl k Hx K))=rA C fl k (cp JZ (K .normal)) (cp Wu (K (.exit 0))):=by kernel_rfl
def zF(kn:ag R):Nat→cG R
 |0=>fun _ _ _ _ _=>none
 |m+1=>rA C fl k (zF kn m) kn
theorem M8:∀m,(cp JZ (aQ m (bK C fl k Hx 0 K)))=zF C fl k (cp Wu (K .normal)) m
 |0=>by kernel_rfl
 |m+1=>mL (Z4 C fl k _) (ak (fun L=>rA C fl k L _) (M8 m))
def Wv(kr:ag R):cG R:=zF C fl k (Lv C fl k kr) k
theorem ag8:(cp JZ (ce C fl k Rp K))=Wv C fl k (cp Pj (K .ret)):=(pA (mM (M8 C fl k (bT C fl k Hw K)))).trans (ak (fun L=>zF C fl k L k) (py (Z3 C fl k K)))
def Ww{R:Type}(C:Callee)(fl k:Nat)(kx:cG R)(kr:ag R):bU R:=fun t0 t1 h=>kx t0 t1 0 (bM (((t0.l:Nat):Int)-1)) h
def al3(kr:ag R):bU R:=Ww C fl k (Wv C fl k kr) kr
theorem arJ(cn:ab):(cp afC (ce C fl k (afB cn) K))=Ww C fl k (cp JZ (ce C fl k cn K)) (cp Pj (K .ret)):=by kernel_rfl
theorem arK:(cp afC (ce C fl k al2 K))=al3 C fl k (cp Pj (K .ret)):=(arJ C fl k K Rp).trans (ak (fun L0=>Ww C fl k L0 _) (ag8 C fl k K))
def j5(p0:Sl)(p1:Int)(h:AH):Option (Value×AH):=al3 C fl k (fun y4 q=>some (vi y4,q)) p0 p1 h
theorem xQ(p0:Sl)(p1:Int)(h):bk C fl k mT [vs p0,vi p1] h=j5 C fl k p0 p1 h:=CG (arK C fl k (aE _)) p0 p1 (by kernel_rfl) (by kernel_rfl)
def Bb(t6:Int):List Value:=un 6 (vi t6::un 110 [])
def wE:ab:=.seq (.region [oJ 111 (.load (.agg [.int .i64,.int .i64,.slice]) (.t 3)),m 112 9,fa 113 1 3,lj 114 113,oI 115 (.slice 1 (.t 112) none (some (.t 114)) none),oI 116 (.call (.f 157) [.t 111,.t 115] (.one (.one (.int .i64)))),m 6 116] [3,9,111,112,113,114,115,116]) (.ret)
def jQ(t3:Addr)(t9:Sl):List Value:=un 3 (vp t3::un 5 (t9.v::un 107 []))
def ey(t3:Addr)(t9:Sl)(t12:Int):List Value:=un 3 (vp t3::un 5 (t9.v::un 2 (vi t12::un 104 [])))
def jR:ab:=.region [m 69 12,bc 70 .sub 69 1,m 12 70] [69,70]
def J0(t3:Addr)(t9:Sl)(t12 t13:Int):List Value:=un 3 (vp t3::un 5 (t9.v::un 2 (vi t12::vi t13::un 103 [])))
def jS:ab:=.seq (.region [m 71 13,fa 72 1 3,li 73 72,cm 74 .lss 71 73] [71,72,73]) (.seq (.cond (.t 74) (kl [74]) (.seq (kl [13,74]) (.exit 6))) (.seq (.block 7 (.region [m 77 9,m 78 12,fa 79 1 3,lj 80 79,bb 81 .sub 78 80,m 82 13,bb 83 .add 81 82,m 84 9,m 85 12,fa 86 1 3,lj 87 86,bb 88 .sub 85 87,m 89 13,bb 90 .add 88 89,ia 91 1 84 90,lj 92 91,fa 93 0 3,lj 94 93,m 95 9,m 96 12,ia 97 1 95 96,lj 98 97,bb 99 .sub 94 98,fa 100 2 3,lt 101 100,m 102 13,ia 103 1 101 102,lj 104 103,bb 105 .mul 99 104,bb 106 .add 92 105,fa 107 0 3,lj 108 107,bb 109 .rem 106 108,ia 110 1 77 83,sI 1 110 109] [77,78,79,80,81,82,83,84,85,86,87,88,89,90,91,92,93,94,95,96,97,98,99,100,101,102,103,104,105,106,107,108,109,110])) (.region [m 75 13,bc 76 .add 75 1,m 13 76] [75,76])))
def kW:ab:=.block 6 (.loop jS)
def uz(cn:ab):ab:=.seq (.region [mc 13 0] []) cn
def nr:ab:=uz kW
def xR(cn vg:ab):ab:=.seq (.block 5 vg) cn
def rB:ab:=xR jR nr
def BM(cn:ab):ab:=.seq (.seq (.region [m 65 12,fa 66 1 3,li 67 66,cm 68 .geq 65 67] [65,66,67]) (.cond (.t 68) (kl [68]) (.seq (kl [12,68]) (.exit 4)))) cn
def wF:ab:=BM rB
def Bc:ab:=.seq (.block 4 (.loop wF)) wE
def M9(cn:ab):ab:=.seq (.region [fa 61 1 3,li 62 61,oI 63 (.bin .mul .i64 (ci 2) (.t 62)),bc 64 .sub 63 2,m 12 64] [61,62,63,64]) cn
def Hy:ab:=M9 Bc
def eA(t3:Addr)(t7 t8 t9:Sl)(t10:Int):List Value:=un 3 (vp t3::un 3 (t7.v::t8.v::t9.v::vi t10::un 106 []))
def pf:ab:=.region [m 29 10,bc 30 .add 29 1,m 10 30] [29,30]
abbrev J1(R:Type):=Addr→Sl→Sl→Sl→Int→Int→AH→Option R
def J2(t3:Addr)(t7 t8 t9:Sl)(t10 t11:Int):List Value:=un 3 (vp t3::un 3 (t7.v::t8.v::t9.v::vi t10::vi t11::un 105 []))
def mn:ab:=.seq (.region [m 31 11,fa 32 1 3,li 33 32,cm 34 .lss 31 33] [31,32,33]) (.seq (.cond (.t 34) (kl [34]) (.seq (kl [11,34]) (.exit 2))) (.seq (.block 3 (.region [m 37 9,m 38 10,m 39 11,bb 40 .add 38 39,m 41 9,m 42 10,m 43 11,bb 44 .add 42 43,ia 45 1 41 44,lj 46 45,m 47 7,m 48 10,ia 49 1 47 48,lj 50 49,m 51 8,m 52 11,ia 53 1 51 52,lj 54 53,bb 55 .mul 50 54,bb 56 .add 46 55,fa 57 0 3,lj 58 57,bb 59 .rem 56 58,ia 60 1 37 40,sI 1 60 59] [37,38,39,40,41,42,43,44,45,46,47,48,49,50,51,52,53,54,55,56,57,58,59,60])) (.region [m 35 11,bc 36 .add 35 1,m 11 36] [35,36])))
def pg:ab:=.block 2 (.loop mn)
def BN(cn:ab):ab:=.seq (.region [mc 11 0] []) cn
def wG:ab:=BN pg
def Fq(cn vg:ab):ab:=.seq (.block 1 vg) cn
def Bd:ab:=Fq pf wG
def Na(cn:ab):ab:=.seq (.seq (.region [m 25 10,fa 26 1 3,li 27 26,cm 28 .lss 25 27] [25,26,27]) (.cond (.t 28) (kl [28]) (.seq (kl [7,8,10,28]) (.exit 0)))) cn
def Hz:ab:=Na Bd
def Rq:ab:=.seq (.block 0 (.loop Hz)) Hy
def afD(cn:ab):ab:=.seq (.seq (.region [oI 3 (.box (.t 0)),mc 6 0] [0,6]) (.seq (.region [oI 14 (.load (.agg [.int .i64,.int .i64,.slice]) (.t 3)),m 15 1,oI 16 (.call (.f 156) [.t 14,.t 15] (.one (.one .slice))),m 7 16] [1,14,15,16]) (.seq (.region [oI 17 (.load (.agg [.int .i64,.int .i64,.slice]) (.t 3)),m 18 2,oI 19 (.call (.f 156) [.t 17,.t 18] (.one (.one .slice))),m 8 19] [2,17,18,19]) (.seq (.region [fa 20 1 3,li 21 20,oI 22 (.bin .mul .i64 (ci 2) (.t 21)),bc 23 .sub 22 1,oI 24 (.cH 8 [.int .i64 0] (.t 23) (.t 23)),m 9 24] [20,21,22,23,24]) (.region [mc 10 0] []))))) cn
def al4:ab:=afD Rq
def afE(aI aH:Int)(aJ:Sl)(t1 t2:Int):List Value:=.agg ⟨[vi aI,vi aH,vs aJ]⟩::vi t1::vi t2::un 114 []
def xS:aB:=⟨117,al4,[.tmp 6]⟩
theorem Wx:okF Tryz.prog 172 xS=true:=by kernel_rfl
def tv{R:Type}(C:Callee)(fl k:Nat)(kr:ag R):bV R:=fun t3 t9 h=>aF .i64 h t3.block t3.off fun n1=>aF .i64 h t3.block (t3.off+1) fun n2=>bC h t3.block (t3.off+1+1) fun s3=>aF .i64 h t3.block (t3.off+1) fun n4=>sub 1 t9 none (some n4) none fun s5=>aD C fl fn.fN [.agg ⟨[vi n1,vi n2,vs s3]⟩,vs s5] h fun v6 h7=>asInt .i64 v6 fun n8=>kr n8 h7
theorem Oi:(cp jQ (ce C fl k wE K))=tv C fl k (cp Bb (K .ret)):=by kernel_rfl
def im{R:Type}(C:Callee)(fl k:Nat)(kn:cz R)(e4:bV R):cz R:=fun t3 t9 t12 h=>kn t3 t9 (bM (t12-1)) h
theorem uA:(cp ey (ce C fl k jR K))=im C fl k (cp ey (K .normal)) (cp jQ (K (.exit 4))):=by kernel_rfl
def cN{R:Type}(C:Callee)(fl k:Nat)(kn:oG R)(e6:cz R):oG R:=fun t3 t9 t12 t13 h=>aF .i64 h t3.block (t3.off+1) fun n9=>if decide (t13<n9)=true then aF .i64 h t3.block (t3.off+1) fun tO=>aF .i64 h t3.block (t3.off+1) fun EA=>idx 1 t9 (bM (bM (t12-EA)+t13)) fun LO=>aF .i64 h LO.block LO.off fun DA=>aF .i64 h t3.block t3.off fun BS=>idx 1 t9 t12 fun Xb=>aF .i64 h Xb.block Xb.off fun Kr=>bC h t3.block (t3.off+2) fun s17=>idx 1 s17 t13 fun p18=>aF .i64 h p18.block p18.off fun Pq=>aF .i64 h t3.block t3.off fun n20=>iZ .rem .i64 (bM (DA+(bM (bM (BS-Kr)*Pq)))) n20 fun n21=>idx 1 t9 (bM (bM (t12-tO)+t13)) fun p22=>st fl h p22 [vi n21] fun h23=>kn t3 t9 t12 (bM (t13+1)) h23 else e6 t3 t9 t12 h
theorem zG:(cp J0 (ce C fl k jS K))=cN C fl k (cp J0 (K .normal)) (cp ey (K (.exit 6))):=by kernel_rfl
def gC(kn:cz R):Nat→oG R
 |0=>fun _ _ _ _ _=>none
 |m+1=>cN C fl k (gC kn m) kn
theorem nV:∀m,(cp J0 (aQ m (bK C fl k jS 6 K)))=gC C fl k (cp ey (K .normal)) m
 |0=>by kernel_rfl
 |m+1=>mL (zG C fl k _) (ak (fun L=>cN C fl k L _) (nV m))
def mo(kn:cz R):oG R:=gC C fl k kn k
theorem B5:(cp J0 (ce C fl k kW K))=mo C fl k (cp ey (K .normal)):=mM (nV C fl k K)
def jT{R:Type}(C:Callee)(fl k:Nat)(kx:oG R)(kn:cz R):cz R:=fun t3 t9 t12 h=>kx t3 t9 t12 0 h
def kv(kn:cz R):cz R:=jT C fl k (mo C fl k kn) kn
theorem E4(cn:ab):(cp ey (ce C fl k (uz cn) K))=jT C fl k (cp J0 (ce C fl k cn K)) (cp ey (K .normal)):=by kernel_rfl
theorem E5:(cp ey (ce C fl k nr K))=kv C fl k (cp ey (K .normal)):=(E4 C fl k K kW).trans (ak (fun L0=>jT C fl k L0 _) (B5 C fl k K))
def lW{R:Type}(C:Callee)(fl k:Nat)(kx:cz R)(u0:cz R)(kn:cz R)(e4:bV R):cz R:=fun t3 t9 t12 h=>u0 t3 t9 t12 h
def ud(kn:cz R)(e4:bV R):cz R:=lW C fl k (im C fl k kn e4) (kv C fl k (im C fl k kn e4)) kn e4
theorem J3(cn vg:ab):(cp ey (ce C fl k (xR cn vg) K))=lW C fl k (cp ey (ce C fl k cn K)) (cp ey (ce C fl k vg (vx 5 (bT C fl k cn K)))) (cp ey (K .normal)) (cp jQ (K (.exit 4))):=by kernel_rfl
theorem J4:(cp ey (ce C fl k rB K))=ud C fl k (cp ey (K .normal)) (cp jQ (K (.exit 4))):=(J3 C fl k K jR nr).trans (pO (fun L0 L1=>lW C fl k L0 L1 _ _) (uA C fl k K) ((E5 C fl k (vx 5 (bT C fl k jR K))).trans (ak (fun L0=>kv C fl k L0) (bn1 (uA C fl k K)))))
def kX{R:Type}(C:Callee)(fl k:Nat)(kx:cz R)(kn:cz R)(e4:bV R):cz R:=fun t3 t9 t12 h=>aF .i64 h t3.block (t3.off+1) fun n24=>if decide (t12≥n24)=true then kx t3 t9 t12 h else e4 t3 t9 h
def iF(kn:cz R)(e4:bV R):cz R:=kX C fl k (ud C fl k kn e4) kn e4
theorem Oj(cn:ab):(cp ey (ce C fl k (BM cn) K))=kX C fl k (cp ey (ce C fl k cn K)) (cp ey (K .normal)) (cp jQ (K (.exit 4))):=by kernel_rfl
theorem Ok:(cp ey (ce C fl k wF K))=iF C fl k (cp ey (K .normal)) (cp jQ (K (.exit 4))):=(Oj C fl k K rB).trans (ak (fun L0=>kX C fl k L0 _ _) (J4 C fl k K))
def j8(kn:bV R):Nat→cz R
 |0=>fun _ _ _ _=>none
 |m+1=>iF C fl k (j8 kn m) kn
theorem BO:∀m,(cp ey (aQ m (bK C fl k wF 4 K)))=j8 C fl k (cp jQ (K .normal)) m
 |0=>by kernel_rfl
 |m+1=>mL (Ok C fl k _) (ak (fun L=>iF C fl k L _) (BO m))
def C7(kr:ag R):cz R:=j8 C fl k (tv C fl k kr) k
theorem SD:(cp ey (ce C fl k Bc K))=C7 C fl k (cp Bb (K .ret)):=(pA (mM (BO C fl k (bT C fl k wE K)))).trans (ak (fun L=>j8 C fl k L k) (py (Oi C fl k K)))
def Be{R:Type}(C:Callee)(fl k:Nat)(kx:cz R)(kr:ag R):bV R:=fun t3 t9 h=>aF .i64 h t3.block (t3.off+1) fun n25=>kx t3 t9 (bM (bM (2*n25)-2)) h
def Ev(kr:ag R):bV R:=Be C fl k (C7 C fl k kr) kr
theorem Z5(cn:ab):(cp jQ (ce C fl k (M9 cn) K))=Be C fl k (cp ey (ce C fl k cn K)) (cp Bb (K .ret)):=by kernel_rfl
theorem Z6:(cp jQ (ce C fl k Hy K))=Ev C fl k (cp Bb (K .ret)):=(Z5 C fl k K Bc).trans (ak (fun L0=>Be C fl k L0 _) (SD C fl k K))
def mH{R:Type}(C:Callee)(fl k:Nat)(kn:aX R)(e0:bV R):aX R:=fun t3 t7 t8 t9 t10 h=>kn t3 t7 t8 t9 (bM (t10+1)) h
theorem BP:(cp eA (ce C fl k pf K))=mH C fl k (cp eA (K .normal)) (cp jQ (K (.exit 0))):=by kernel_rfl
def dz{R:Type}(C:Callee)(fl k:Nat)(kn:J1 R)(e2:aX R):J1 R:=fun t3 t7 t8 t9 t10 t11 h=>aF .i64 h t3.block (t3.off+1) fun Kv=>if decide (t11<Kv)=true then idx 1 t9 (bM (t10+t11)) fun p27=>aF .i64 h p27.block p27.off fun n28=>idx 1 t7 t10 fun p29=>aF .i64 h p29.block p29.off fun n30=>idx 1 t8 t11 fun p31=>aF .i64 h p31.block p31.off fun n32=>aF .i64 h t3.block t3.off fun n33=>iZ .rem .i64 (bM (n28+(bM (n30*n32)))) n33 fun n34=>idx 1 t9 (bM (t10+t11)) fun p35=>st fl h p35 [vi n34] fun TW=>kn t3 t7 t8 t9 t10 (bM (t11+1)) TW else e2 t3 t7 t8 t9 t10 h
theorem C8:(cp J2 (ce C fl k mn K))=dz C fl k (cp J2 (K .normal)) (cp eA (K (.exit 2))):=by kernel_rfl
def jU(kn:aX R):Nat→J1 R
 |0=>fun _ _ _ _ _ _ _=>none
 |m+1=>dz C fl k (jU kn m) kn
theorem tK:∀m,(cp J2 (aQ m (bK C fl k mn 2 K)))=jU C fl k (cp eA (K .normal)) m
 |0=>by kernel_rfl
 |m+1=>mL (C8 C fl k _) (ak (fun L=>dz C fl k L _) (tK m))
def rC(kn:aX R):J1 R:=jU C fl k kn k
theorem HA:(cp J2 (ce C fl k pg K))=rC C fl k (cp eA (K .normal)):=mM (tK C fl k K)
def pj{R:Type}(C:Callee)(fl k:Nat)(kx:J1 R)(kn:aX R):aX R:=fun t3 t7 t8 t9 t10 h=>kx t3 t7 t8 t9 t10 0 h
def tw(kn:aX R):aX R:=pj C fl k (rC C fl k kn) kn
theorem Ol(cn:ab):(cp eA (ce C fl k (BN cn) K))=pj C fl k (cp J2 (ce C fl k cn K)) (cp eA (K .normal)):=by kernel_rfl
theorem Om:(cp eA (ce C fl k wG K))=tw C fl k (cp eA (K .normal)):=(Ol C fl k K pg).trans (ak (fun L0=>pj C fl k L0 _) (HA C fl k K))
def u7{R:Type}(C:Callee)(fl k:Nat)(kx:aX R)(u0:aX R)(kn:aX R)(e0:bV R):aX R:=fun t3 t7 t8 t9 t10 h=>u0 t3 t7 t8 t9 t10 h
def C9(kn:aX R)(e0:bV R):aX R:=u7 C fl k (mH C fl k kn e0) (tw C fl k (mH C fl k kn e0)) kn e0
theorem SE(cn vg:ab):(cp eA (ce C fl k (Fq cn vg) K))=u7 C fl k (cp eA (ce C fl k cn K)) (cp eA (ce C fl k vg (vx 1 (bT C fl k cn K)))) (cp eA (K .normal)) (cp jQ (K (.exit 0))):=by kernel_rfl
theorem SF:(cp eA (ce C fl k Bd K))=C9 C fl k (cp eA (K .normal)) (cp jQ (K (.exit 0))):=(SE C fl k K pf wG).trans (pO (fun L0 L1=>u7 C fl k L0 L1 _ _) (BP C fl k K) ((Om C fl k (vx 1 (bT C fl k pf K))).trans (ak (fun L0=>tw C fl k L0) (bn1 (BP C fl k K)))))
def wH{R:Type}(C:Callee)(fl k:Nat)(kx:aX R)(kn:aX R)(e0:bV R):aX R:=fun t3 t7 t8 t9 t10 h=>aF .i64 h t3.block (t3.off+1) fun n37=>if decide (t10<n37)=true then kx t3 t7 t8 t9 t10 h else e0 t3 t9 h
def rD(kn:aX R)(e0:bV R):aX R:=wH C fl k (C9 C fl k kn e0) kn e0
theorem Z7(cn:ab):(cp eA (ce C fl k (Na cn) K))=wH C fl k (cp eA (ce C fl k cn K)) (cp eA (K .normal)) (cp jQ (K (.exit 0))):=by kernel_rfl
theorem Z8:(cp eA (ce C fl k Hz K))=rD C fl k (cp eA (K .normal)) (cp jQ (K (.exit 0))):=(Z7 C fl k K Bd).trans (ak (fun L0=>wH C fl k L0 _ _) (SF C fl k K))
def vt(kn:bV R):Nat→aX R
 |0=>fun _ _ _ _ _ _=>none
 |m+1=>rD C fl k (vt kn m) kn
theorem Nb:∀m,(cp eA (aQ m (bK C fl k Hz 0 K)))=vt C fl k (cp jQ (K .normal)) m
 |0=>by kernel_rfl
 |m+1=>mL (Z8 C fl k _) (ak (fun L=>rD C fl k L _) (Nb m))
def Wy(kr:ag R):aX R:=vt C fl k (Ev C fl k kr) k
theorem ag9:(cp eA (ce C fl k Rq K))=Wy C fl k (cp Bb (K .ret)):=(pA (mM (Nb C fl k (bT C fl k Hy K)))).trans (ak (fun L=>vt C fl k L k) (py (Z6 C fl k K)))
def Wz{R:Type}(C:Callee)(fl k:Nat)(kx:aX R)(kr:ag R):ic R:=fun aI aH aJ t1 t2 h=>cU h [vi aI,vi aH,vs aJ] fun b38 h39=>aF .i64 h39 b38 0 fun n40=>aF .i64 h39 b38 1 fun n41=>bC h39 b38 2 fun s42=>aD C fl fn.cP [.agg ⟨[vi n40,vi n41,vs s42]⟩,vi t1] h39 fun v43 h44=>bB v43 fun s45=>aF .i64 h44 b38 0 fun n46=>aF .i64 h44 b38 1 fun n47=>bC h44 b38 2 fun s48=>aD C fl fn.cP [.agg ⟨[vi n46,vi n47,vs s48]⟩,vi t2] h44 fun v49 h50=>bB v49 fun s51=>aF .i64 h50 b38 1 fun n52=>wU 8 [.int .i64 0] (bM (bM (2*n52)-1)) (bM (bM (2*n52)-1)) h50 fun s53 h54=>kx ⟨b38,0,none⟩ s45 s51 s53 0 h54
def al5(kr:ag R):ic R:=Wz C fl k (Wy C fl k kr) kr
theorem arL(cn:ab):(cp afE (ce C fl k (afD cn) K))=Wz C fl k (cp eA (ce C fl k cn K)) (cp Bb (K .ret)):=by kernel_rfl
theorem arM:(cp afE (ce C fl k al4 K))=al5 C fl k (cp Bb (K .ret)):=(arL C fl k K Rq).trans (ak (fun L0=>Wz C fl k L0 _) (ag9 C fl k K))
def gH(ax ay:Int)(aA:Sl)(p1 p2:Int)(h:AH):Option (Value×AH):=al5 C fl k (fun y6 q=>some (vi y6,q)) ax ay aA p1 p2 h
theorem SG(ax ay:Int)(aA:Sl)(p1 p2:Int)(h):bk C fl k xS [.agg ⟨[vi ax,vi ay,vs aA]⟩,vi p1,vi p2] h=gH C fl k ax ay aA p1 p2 h:=vK (arM C fl k (aE _)) ax ay aA p1 p2 (by kernel_rfl) (by kernel_rfl)
def Pk(t6:Int):List Value:=un 6 (vi t6::un 33 [])
def HB:ab:=.seq (.region [oI 37 (.load (.agg [.int .i64,.int .i64,.slice]) (.t 3)),m 38 7,oI 39 (.call (.f 157) [.t 37,.t 38] (.one (.one (.int .i64)))),m 6 39] [3,7,37,38,39]) (.ret)
def WA(t3:Addr)(t7:Sl):List Value:=un 3 (vp t3::un 3 (t7.v::un 32 []))
abbrev J5(R:Type):=Addr→Sl→Sl→Int→AH→Option R
def J6(t3:Addr)(t7 t8:Sl)(t9:Int):List Value:=un 3 (vp t3::un 3 (t7.v::t8.v::vi t9::un 30 []))
def HC:ab:=.seq (.region [m 16 9,m 17 7,ln 18 17,cm 19 .lss 16 18] [16,17,18]) (.seq (.cond (.t 19) (kl [19]) (.seq (kl [8,9,19]) (.exit 0))) (.seq (.block 1 (.region [m 22 7,m 23 9,m 24 7,m 25 9,ia 26 1 24 25,lj 27 26,m 28 8,m 29 9,ia 30 1 28 29,lj 31 30,bb 32 .add 27 31,fa 33 0 3,lj 34 33,bb 35 .rem 32 34,ia 36 1 22 23,sI 1 36 35] [22,23,24,25,26,27,28,29,30,31,32,33,34,35,36])) (.region [m 20 9,bc 21 .add 20 1,m 9 21] [20,21])))
def Rr:ab:=.seq (.block 0 (.loop HC)) HB
def afF(cn:ab):ab:=.seq (.seq (.region [oI 3 (.box (.t 0)),mc 6 0] [0,6]) (.seq (.region [oI 10 (.load (.agg [.int .i64,.int .i64,.slice]) (.t 3)),m 11 1,oI 12 (.call (.f 156) [.t 10,.t 11] (.one (.one .slice))),m 7 12] [1,10,11,12]) (.seq (.region [oI 13 (.load (.agg [.int .i64,.int .i64,.slice]) (.t 3)),m 14 2,oI 15 (.call (.f 156) [.t 13,.t 14] (.one (.one .slice))),m 8 15] [2,13,14,15]) (.region [mc 9 0] [])))) cn
def al6:ab:=afF Rr
def afG(aI aH:Int)(aJ:Sl)(t1 t2:Int):List Value:=.agg ⟨[vi aI,vi aH,vs aJ]⟩::vi t1::vi t2::un 37 []
def xT:aB:=⟨40,al6,[.tmp 6]⟩
theorem WB:okF Tryz.prog 173 xT=true:=by kernel_rfl
def zH{R:Type}(C:Callee)(fl k:Nat)(kr:ag R):bV R:=fun t3 t7 h=>aF .i64 h t3.block t3.off fun n1=>aF .i64 h t3.block (t3.off+1) fun n2=>bC h t3.block (t3.off+1+1) fun s3=>aD C fl fn.fN [.agg ⟨[vi n1,vi n2,vs s3]⟩,vs t7] h fun v4 h5=>asInt .i64 v4 fun n6=>kr n6 h5
theorem Z9:(cp WA (ce C fl k HB K))=zH C fl k (cp Pk (K .ret)):=by kernel_rfl
def rE{R:Type}(C:Callee)(fl k:Nat)(kn:J5 R)(e0:bV R):J5 R:=fun t3 t7 t8 t9 h=>if decide (t9<((t7.l:Nat):Int))=true then idx 1 t7 t9 fun p7=>aF .i64 h p7.block p7.off fun n8=>idx 1 t8 t9 fun p9=>aF .i64 h p9.block p9.off fun tO=>aF .i64 h t3.block t3.off fun EA=>iZ .rem .i64 (bM (n8+tO)) EA fun ED=>idx 1 t7 t9 fun p13=>st fl h p13 [vi ED] fun h14=>kn t3 t7 t8 (bM (t9+1)) h14 else e0 t3 t7 h
theorem aaa:(cp J6 (ce C fl k HC K))=rE C fl k (cp J6 (K .normal)) (cp WA (K (.exit 0))):=by kernel_rfl
def zI(kn:bV R):Nat→J5 R
 |0=>fun _ _ _ _ _=>none
 |m+1=>rE C fl k (zI kn m) kn
theorem Nc:∀m,(cp J6 (aQ m (bK C fl k HC 0 K)))=zI C fl k (cp WA (K .normal)) m
 |0=>by kernel_rfl
 |m+1=>mL (aaa C fl k _) (ak (fun L=>rE C fl k L _) (Nc m))
def WC(kr:ag R):J5 R:=zI C fl k (zH C fl k kr) k
theorem aha:(cp J6 (ce C fl k Rr K))=WC C fl k (cp Pk (K .ret)):=(pA (mM (Nc C fl k (bT C fl k HB K)))).trans (ak (fun L=>zI C fl k L k) (py (Z9 C fl k K)))
def WD{R:Type}(C:Callee)(fl k:Nat)(kx:J5 R)(kr:ag R):ic R:=fun aI aH aJ t1 t2 h=>cU h [vi aI,vi aH,vs aJ] fun b15 Kx=>aF .i64 Kx b15 0 fun S8=>aF .i64 Kx b15 1 fun n18=>bC Kx b15 2 fun s19=>aD C fl fn.cP [.agg ⟨[vi S8,vi n18,vs s19]⟩,vi t1] Kx fun v20 RX=>bB v20 fun s22=>aF .i64 RX b15 0 fun n23=>aF .i64 RX b15 1 fun n24=>bC RX b15 2 fun s25=>aD C fl fn.cP [.agg ⟨[vi n23,vi n24,vs s25]⟩,vi t2] RX fun v26 h27=>bB v26 fun s28=>kx ⟨b15,0,none⟩ s22 s28 0 h27
def al7(kr:ag R):ic R:=WD C fl k (WC C fl k kr) kr
theorem arN(cn:ab):(cp afG (ce C fl k (afF cn) K))=WD C fl k (cp J6 (ce C fl k cn K)) (cp Pk (K .ret)):=by kernel_rfl
theorem arO:(cp afG (ce C fl k al6 K))=al7 C fl k (cp Pk (K .ret)):=(arN C fl k K Rr).trans (ak (fun L0=>WD C fl k L0 _) (aha C fl k K))
def nH(ax ay:Int)(aA:Sl)(p1 p2:Int)(h:AH):Option (Value×AH):=al7 C fl k (fun y6 q=>some (vi y6,q)) ax ay aA p1 p2 h
theorem SH(ax ay:Int)(aA:Sl)(p1 p2:Int)(h):bk C fl k xT [.agg ⟨[vi ax,vi ay,vs aA]⟩,vi p1,vi p2] h=nH C fl k ax ay aA p1 p2 h:=vK (arO C fl k (aE _)) ax ay aA p1 p2 (by kernel_rfl) (by kernel_rfl)
def arP(t4:Int):List Value:=un 4 (vi t4::un 4 [])
def al8:ab:=.seq (.region [oI 2 (.box (.t 0)),mc 4 0] [0,4]) (.seq (.region [oI 5 (.load (.agg [.int .i64,.int .i64,.slice]) (.t 2)),m 6 1,oI 7 (.call (.f 106) [.t 5,.t 6] (.one (.one .bool)))] [2,5,6]) (.seq (.cond (.t 7) (.seq (.region [m 8 1,m 4 8] [1,7,8]) (.ret)) (kl [1,7])) (.seq (.region [mc 4 0] []) (.ret))))
def arQ(aI aH:Int)(aJ:Sl)(t1:Int):List Value:=.agg ⟨[vi aI,vi aH,vs aJ]⟩::vi t1::un 7 []
def Bf:aB:=⟨9,al8,[.tmp 4]⟩
theorem aab:okF Tryz.prog 174 Bf=true:=by kernel_rfl
def al9{R:Type}(C:Callee)(fl k:Nat)(kr:ag R):ki R:=fun aI aH aJ t1 h=>cU h [vi aI,vi aH,vs aJ] fun b1 h2=>aF .i64 h2 b1 0 fun n3=>aF .i64 h2 b1 1 fun n4=>bC h2 b1 2 fun s5=>aD C fl fn.kN [.agg ⟨[vi n3,vi n4,vs s5]⟩,vi t1] h2 fun v6 h7=>asBool v6 fun b8=>if b8=true then kr t1 h7 else kr 0 h7
theorem arR:(cp arQ (ce C fl k al8 K))=al9 C fl k (cp arP (K .ret)):=by kernel_rfl
def yH(ax ay:Int)(aA:Sl)(p1:Int)(h:AH):Option (Value×AH):=al9 C fl k (fun y4 q=>some (vi y4,q)) ax ay aA p1 h
theorem WE(ax ay:Int)(aA:Sl)(p1:Int)(h):bk C fl k Bf [.agg ⟨[vi ax,vi ay,vs aA]⟩,vi p1] h=yH C fl k ax ay aA p1 h:=KP (arR C fl k (aE _)) ax ay aA p1 (by kernel_rfl) (by kernel_rfl)
def gD:aB:=⟨105,.seq (.region [oI 4 (.mv (.c (.bool false)))] [4]) (.seq (.seq (.region [m 13 0,oI 14 (.cg (.t 13)),fa 15 1 14,ls 16 15,ln 17 16,mc 18 0] [13,14,15]) (.block 0 (.loop (.seq (.region [cm 19 .lss 18 17] []) (.seq (.cond (.t 19) (kl [19]) (.seq (kl [16,17,18,19]) (.exit 0))) (.seq (.block 1 (.seq (.region [m 20 18,ia 21 1 16 18,ls 22 21,m 5 20,m 6 22] [20,21,22]) (.seq (.region [m 23 1,m 24 0,oI 25 (.cg (.t 24)),fa 26 2 25,ls 27 26,m 28 5,ia 29 1 27 28,li 30 29,ia 31 1 23 30,li 32 31,m 7 32] [5,23,24,25,26,27,28,29,30,31,32]) (.seq (.region [m 33 7,ck 34 .neq 33 0] [33]) (.cond (.t 34) (.seq (.region [m 35 6,ln 36 35,mc 37 0] [6,34]) (.block 2 (.loop (.seq (.region [cm 38 .lss 37 36] []) (.seq (.cond (.t 38) (kl [38]) (.seq (kl [7,35,36,37,38]) (.exit 2))) (.seq (.block 3 (.seq (.region [m 39 37,ia 40 1 35 37,li 41 40,m 8 39,m 9 41] [39,40,41]) (.region [m 42 1,m 43 8,m 44 0,oI 45 (.cg (.t 44)),fa 46 0 45,oJ 47 (.load (.one .jW) (.t 46)),m 48 1,m 49 8,ia 50 1 48 49,lj 51 50,m 52 0,oI 53 (.cg (.t 52)),fa 54 0 53,oJ 55 (.load (.one .jW) (.t 54)),m 56 7,m 57 9,oJ 58 (.call (.f 120) [.t 55,.t 56,.t 57] (.one (.one (.int .i64)))),oI 59 (.call (.f 119) [.t 47,.t 51,.t 58] (.one (.one (.int .i64)))),ia 60 1 42 43,sI 1 60 59] [8,9,42,43,44,45,46,47,48,49,50,51,52,53,54,55,56,57,58,59,60]))) (.region [bc 61 .add 37 1,m 37 61] [61]))))))) (kl [6,7,34])))))) (.region [bc 62 .add 18 1,m 18 62] [62]))))))) (.seq (.region [m 63 1,oI 64 (.call (.f 39) [.t 63,.f 185] (.one (.one (.int .i64)))),m 10 64] [63,64]) (.seq (.seq (.region [m 65 10,ck 66 .lss 65 0] [65]) (.cond (.t 66) (.seq (.region [oI 4 (.mv (.c (.bool false)))] [0,1,10,66]) (.ret)) (kl [66]))) (.seq (.region [m 68 0,oI 69 (.cg (.t 68)),fa 70 0 69,oJ 71 (.load (.one .jW) (.t 70)),m 72 1,m 73 10,ia 74 1 72 73,lj 75 74,oI 76 (.call (.f 139) [.t 71,.t 75] (.jn [.one (.int .i64),.one (.int .i64)])),m 67 76,ex 77 67 0,ex 78 67 1,m 11 77,m 12 78] [12,67,68,69,70,71,72,73,74,75,76,77,78]) (.seq (.region [m 79 0,m 80 0,oI 81 (.cg (.t 80)),fa 82 1 81,lt 83 82,m 84 0,oI 85 (.cg (.t 84)),fa 86 0 85,oJ 87 (.load (.one .jW) (.t 86)),m 88 11,m 89 1,oJ 90 (.call (.f 140) [.t 87,.t 88,.t 89] (.one (.one .slice))),oJ 91 (.aO 1 [.slice none 0 0] [(0,1,.t 90)]),oI 92 (.append 1 24 (.t 83) (.t 91)),oI 93 (.cg (.t 79)),fa 94 1 93,sI 1 94 92] [1,11,79,80,81,82,83,84,85,86,87,88,89,90,91,92,93,94]) (.seq (.region [m 95 0,m 96 0,oI 97 (.cg (.t 96)),fa 98 2 97,ls 99 98,m 100 10,oI 101 (.aO 1 [.int .i64 0] [(0,1,.t 100)]),oI 102 (.append 1 8 (.t 99) (.t 101)),oI 103 (.cg (.t 95)),fa 104 2 103,sI 1 104 102] [0,10,95,96,97,98,99,100,101,102,103,104]) (.seq (.region [oI 4 (.mv (.c (.bool true)))] []) (.ret)))))))),[.tmp 4]⟩
theorem Bg:okF Tryz.prog 175 gD=true:=by kernel_rfl
def eT:aB:=⟨35,.seq (.region [oI 4 (.mv (.c (.slice none 0 0)))] [4]) (.seq (.region [m 8 0,oI 9 (.cg (.t 8)),fa 10 1 9,fa 11 4 10,ls 12 11,ln 13 12,oI 14 (.cH 8 [.int .i64 0] (.t 13) (.t 13)),m 5 14] [8,9,10,11,12,13,14]) (.seq (.seq (.region [m 15 0,oI 16 (.cg (.t 15)),fa 17 1 16,fa 18 4 17,ls 19 18,ln 20 19,mc 21 0] [0,15,16,17,18]) (.block 0 (.loop (.seq (.region [cm 22 .lss 21 20] []) (.seq (.cond (.t 22) (kl [22]) (.seq (kl [1,19,20,21,22]) (.exit 0))) (.seq (.block 1 (.seq (.region [m 23 21,ia 24 1 19 21,ls 25 24,m 6 23,m 7 25] [23,24,25]) (.region [m 26 5,m 27 6,m 28 7,m 29 1,ia 30 1 28 29,li 31 30,ia 32 1 26 27,sI 1 32 31] [6,7,26,27,28,29,30,31,32]))) (.region [bc 33 .add 21 1,m 21 33] [33]))))))) (.seq (.region [m 34 5,m 4 34] [5,34]) (.ret)))),[.tmp 4]⟩
theorem xe:okF Tryz.prog 176 eT=true:=by kernel_rfl
def mU:aB:=⟨9,.seq (.region [oI 2 (.mv (.c (.slice none 0 0)))] [2]) (.seq (.region [m 4 0,oI 5 (.call (.f 186) [.t 4] (.one (.one .slice))),m 3 5] [0,4,5]) (.seq (.region [m 6 3,oI 7 (.call (.f 160) [.t 6] (.jn []))] [6,7]) (.seq (.region [m 8 3,m 2 8] [3,8]) (.ret)))),[.tmp 2]⟩
theorem Lw:okF Tryz.prog 177 mU=true:=by kernel_rfl
def mV:aB:=⟨4,.seq (.region [oI 1 (.box (.t 0)),oI 2 (.mv (.c (.nilFunc)))] [0,2]) (.seq (.region [oI 3 (.vf 187 [] [.t 1]),m 2 3] [1,3]) (.ret)),[.tmp 2]⟩
theorem Lx:okF Tryz.prog 178 mV=true:=by kernel_rfl
def ft:aB:=⟨134,.seq (.region [oI 8 (.mv (.c (.bool true)))] []) (.seq (.region [oI 9 (.mv (.c (.bool true)))] []) (.block 0 (.loop (.block 1 (.seq (.region [m 19 2,m 20 1,bb 21 .sub 19 20,m 10 21] [19,20,21]) (.seq (.seq (.region [m 22 10,ck 23 .leq 22 12] [22]) (.cond (.t 23) (.seq (.region [m 24 0,m 25 1,m 26 2,oI 27 (.call (.f 188) [.t 24,.t 25,.t 26] (.jn []))] [0,1,2,3,8,9,10,23,24,25,26,27]) (.ret)) (kl [23]))) (.seq (.seq (.region [m 28 3,ck 29 .eql 28 0] [28]) (.cond (.t 29) (.seq (.region [m 30 0,m 31 1,m 32 2,oI 33 (.call (.f 189) [.t 30,.t 31,.t 32] (.jn []))] [0,1,2,3,8,9,10,29,30,31,32,33]) (.ret)) (kl [29]))) (.seq (.seq (.region [m 34 8,no 35 34] [34]) (.cond (.t 35) (.seq (.region [m 36 0,m 37 1,m 38 2,oI 39 (.call (.f 190) [.t 36,.t 37,.t 38] (.jn []))] [35,36,37,38,39]) (.region [m 40 3,bc 41 .sub 40 1,m 3 41] [40,41])) (kl [35]))) (.seq (.region [m 43 0,m 44 1,m 45 2,oI 46 (.call (.f 191) [.t 43,.t 44,.t 45] (.jn [.one (.int .i64),.one (.int .i64)])),m 42 46,ex 47 42 0,ex 48 42 1,m 11 47,m 12 48] [42,43,44,45,46,47,48]) (.seq (.seq (.region [m 49 12,ck 50 .eql 49 2] [49]) (.cond (.t 50) (.seq (.region [m 51 0,m 52 1,m 53 2,oI 54 (.call (.f 192) [.t 51,.t 52,.t 53] (.jn []))] [12,50,51,52,53,54]) (.seq (.region [m 55 2,bc 56 .sub 55 1,m 57 11,m 58 1,bb 59 .sub 57 58,bb 60 .sub 56 59,m 11 60] [55,56,57,58,59,60]) (.region [mc 12 1] []))) (kl [50]))) (.seq (.seq (.region [m 61 8,m 62 61,.fb 62 true [qI 63 (.mv (.t 9))],oI 64 (.pick (.t 62) (.t 63) (.c (.bool false))),m 65 64,.fb 65 true [qI 66 (.mv (.t 12)),qI 67 (.cmp .eql .i64 (.t 66) (ci 1))],oI 68 (.pick (.t 65) (.t 67) (.c (.bool false)))] [12,61,62,63,64,65,66,67]) (.cond (.t 68) (.seq (.region [m 69 0,m 70 1,m 71 2,oI 72 (.call (.f 193) [.t 69,.t 70,.t 71] (.one (.one .bool)))] [68,69,70,71]) (.cond (.t 72) (.seq (kl [0,1,2,3,8,9,10,11,72]) .ret) (kl [72]))) (kl [68]))) (.seq (.seq (.region [m 73 1,ck 74 .gtr 73 0,m 75 74,.fb 75 true [qI 76 (.mv (.t 0)),qI 77 (.mv (.t 1)),qI 78 (.bin .sub .i64 (.t 77) (ci 1)),qI 79 (.di 1 (.t 76) (.t 78)),qJ 80 (.load (.one (.int .i64)) (.t 79)),qI 81 (.mv (.t 0)),qI 82 (.mv (.t 11)),qI 83 (.di 1 (.t 81) (.t 82)),qJ 84 (.load (.one (.int .i64)) (.t 83)),qI 85 (.call (.f 194) [.t 80,.t 84] (.one (.one .bool))),qI 86 (.not (.t 85))],oI 87 (.pick (.t 75) (.t 86) (.c (.bool false)))] [73,74,75,76,77,78,79,80,81,82,83,84,85,86]) (.cond (.t 87) (.seq (.region [m 88 0,m 89 1,m 90 2,m 91 11,oI 92 (.call (.f 195) [.t 88,.t 89,.t 90,.t 91] (.one (.one (.int .i64)))),m 13 92] [1,10,11,87,88,89,90,91,92]) (.seq (.region [m 93 13,m 1 93] [13,93]) (.exit 1))) (kl [8,9,87]))) (.seq (.region [m 95 0,m 96 1,m 97 2,m 98 11,oI 99 (.call (.f 196) [.t 95,.t 96,.t 97,.t 98] (.jn [.one (.int .i64),.one .bool])),m 94 99,ex 100 94 0,ex 101 94 1,m 14 100,m 15 101] [11,94,95,96,97,98,99,100,101]) (.seq (.region [m 102 15,m 9 102] [15,102]) (.seq (.region [m 103 14,m 104 1,bb 105 .sub 103 104,m 106 2,m 107 14,bb 108 .sub 106 107,m 16 105,m 17 108] [103,104,105,106,107,108]) (.seq (.region [m 109 10,bc 110 .quo 109 8,m 18 110] [10,109,110]) (.seq (.region [m 111 16,m 112 17,cm 113 .lss 111 112] [111,112]) (.cond (.t 113) (.seq (.region [m 114 16,m 115 18,cm 116 .geq 114 115,m 8 116] [16,17,18,113,114,115,116]) (.seq (.region [m 117 0,m 118 1,m 119 14,m 120 3,oI 121 (.call (.f 179) [.t 117,.t 118,.t 119,.t 120] (.jn []))] [1,117,118,119,120,121]) (.region [m 122 14,bc 123 .add 122 1,m 1 123] [14,122,123]))) (.seq (.region [m 124 17,m 125 18,cm 126 .geq 124 125,m 8 126] [16,17,18,113,124,125,126]) (.seq (.region [m 127 0,m 128 14,bc 129 .add 128 1,m 130 2,m 131 3,oI 132 (.call (.f 179) [.t 127,.t 129,.t 130,.t 131] (.jn []))] [2,127,128,129,130,131,132]) (.region [m 133 14,m 2 133] [14,133]))))))))))))))))))))),[]⟩
theorem yh:okF Tryz.prog 179 ft=true:=by kernel_rfl
def mW:aB:=⟨8,.seq (.region [mc 2 0] [2]) (.seq (.cond (.c (.bool false)) (.seq (.region [m 3 0,oI 4 (.conv .u64 .u32 (.t 3)),oI 5 (.call (.f 197) [.t 4] (.one (.one (.int .i64)))),m 2 5] [0,3,4,5]) (.ret)) (.skip)) (.seq (.region [m 6 0,oI 7 (.call (.f 198) [.t 6] (.one (.one (.int .i64)))),m 2 7] [0,6,7]) (.ret))),[.tmp 2]⟩
theorem Ly:okF Tryz.prog 180 mW=true:=by kernel_rfl
def fv:aB:=⟨5,.seq (.region [oI 2 (.mv (.c (.bool false)))] [2]) (.seq (.region [m 3 0,ck 4 .neq 3 0,m 2 4] [0,3,4]) (.ret)),[.tmp 2]⟩
theorem yi:okF Tryz.prog 185 fv=true:=by kernel_rfl
def lX:aB:=⟨5,.seq (.region [oI 2 (.mv (.c (.slice none 0 0)))] [2]) (.seq (.region [m 3 0,oI 4 (.call (.f 201) [.c (.slice none 0 0),.t 3] (.one (.one .slice))),m 2 4] [0,3,4]) (.ret)),[.tmp 2]⟩
theorem J7:okF Tryz.prog 186 lX=true:=by kernel_rfl
def dh:aB:=⟨49,.seq (.region [m 8 1,bc 9 .add 8 1,m 6 9] [8,9]) (.block 0 (.loop (.seq (.seq (.region [m 10 6,m 11 2,cm 12 .lss 10 11] [10,11]) (.cond (.t 12) (kl [12]) (.seq (kl [0,1,2,6,12]) (.exit 0)))) (.seq (.block 1 (.seq (.region [m 15 6,m 7 15] [15]) (.block 2 (.loop (.seq (.seq (.region [m 16 7,m 17 1,cm 18 .gtr 16 17,m 19 18,.fb 19 true [qI 20 (.mv (.t 0)),qI 21 (.mv (.t 7)),qI 22 (.di 1 (.t 20) (.t 21)),qJ 23 (.load (.one (.int .i64)) (.t 22)),qI 24 (.mv (.t 0)),qI 25 (.mv (.t 7)),qI 26 (.bin .sub .i64 (.t 25) (ci 1)),qI 27 (.di 1 (.t 24) (.t 26)),qJ 28 (.load (.one (.int .i64)) (.t 27)),qI 29 (.call (.f 194) [.t 23,.t 28] (.one (.one .bool)))],oI 30 (.pick (.t 19) (.t 29) (.c (.bool false)))] [16,17,18,19,20,21,22,23,24,25,26,27,28,29]) (.cond (.t 30) (kl [30]) (.seq (kl [7,30]) (.exit 2)))) (.seq (.block 3 (.region [m 33 0,m 34 7,m 35 0,m 36 7,bc 37 .sub 36 1,m 38 0,m 39 7,bc 40 .sub 39 1,ia 41 1 38 40,lj 42 41,m 43 0,m 44 7,ia 45 1 43 44,lj 46 45,ia 47 1 33 34,sI 1 47 42,ia 48 1 35 37,sI 1 48 46] [33,34,35,36,37,38,39,40,41,42,43,44,45,46,47,48])) (.region [m 31 7,bc 32 .sub 31 1,m 7 32] [31,32]))))))) (.region [m 13 6,bc 14 .add 13 1,m 6 14] [13,14]))))),[]⟩
theorem rF:okF Tryz.prog 188 dh=true:=by kernel_rfl
def Bh:aB:=⟨17,.seq (.region [oI 4 (.mv (.c (.bool false)))] [4]) (.seq (.region [m 5 0,oI 6 (.call (.f 151) [.t 5] (.one (.one .bool))),m 7 6,.fb 7 true [qI 8 (.mv (.t 1)),qI 9 (.call (.f 151) [.t 8] (.one (.one .bool))),qI 10 (.not (.t 9))],oI 11 (.pick (.t 7) (.t 10) (.c (.bool false))),m 12 11,.fb 12 false [qI 13 (.mv (.t 0)),qI 14 (.mv (.t 1)),qI 15 (.cmp .lss .i64 (.t 13) (.t 14))],oI 16 (.pick (.t 12) (.c (.bool true)) (.t 15)),m 4 16] [0,1,5,6,7,8,9,10,11,12,13,14,15,16]) (.ret)),[.tmp 4]⟩
theorem aac:okF Tryz.prog 194 Bh=true:=by kernel_rfl
def ky:aB:=⟨25,.seq (.region [mc 2 0] []) (.seq (.seq (.region [m 3 0,oI 4 (.cmp .geq .u64 (.t 3) (.c (.int .u64 4294967296)))] [3]) (.cond (.t 4) (.seq (.region [m 5 0,oI 6 (.sh false .u64 .u64 (.t 5) (.c (.int .u64 32))),m 0 6] [2,4,5,6]) (.region [mc 2 32] [])) (kl [4]))) (.seq (.seq (.region [m 7 0,oI 8 (.cmp .geq .u64 (.t 7) (.c (.int .u64 65536)))] [7]) (.cond (.t 8) (.seq (.region [m 9 0,oI 10 (.sh false .u64 .u64 (.t 9) (.c (.int .u64 16))),m 0 10] [8,9,10]) (.region [m 11 2,bc 12 .add 11 16,m 2 12] [11,12])) (kl [8]))) (.seq (.seq (.region [m 13 0,oI 14 (.cmp .geq .u64 (.t 13) (.c (.int .u64 256)))] [13]) (.cond (.t 14) (.seq (.region [m 15 0,oI 16 (.sh false .u64 .u64 (.t 15) (.c (.int .u64 8))),m 0 16] [14,15,16]) (.region [m 17 2,bc 18 .add 17 8,m 2 18] [17,18])) (kl [14]))) (.seq (.region [m 19 2,m 20 0,oI 21 (.conv .u64 .u8 (.t 20)),oI 22 (.Kq .u8 atS (.t 21)),oI 23 (.conv .u8 .i64 (.t 22)),bb 24 .add 19 23,m 2 24] [0,19,20,21,22,23,24]) (.ret))))),[.tmp 2]⟩
theorem HD:okF Tryz.prog 198 ky=true:=by kernel_rfl
end Go.Abs.P
end
section
set_option maxRecDepth 100000
set_option linter.unusedVariables false
namespace Go.Abs.P
open Go.Abs Go.Abs.CP Go.Abs.C Go.Proofs
def tab:List (Nat×aB):=[(10,eH),(11,rU),(12,rV),(13,iK),(15,iL),(17,lD),(18,iM),(20,gn),(23,iN),(25,iP),(28,ke),(29,xu),(32,rW),(33,oj),(35,uI),(36,rX),(37,Au),(38,lF),(39,gq),(40,gu),(43,lG),(44,lI),(47,uJ),(48,iQ),(49,kf),(54,kg),(56,gw),(59,gx),(60,xw),(62,rZ),(63,r8),(64,ot),(65,ou),(66,lK),(67,mO),(68,AB),(69,D3),(70,mP),(71,xz),(72,uK),(73,jE),(74,r9),(75,xB),(76,jF),(77,iR),(79,se),(80,sf),(82,uM),(83,lM),(84,jJ),(85,uN),(86,sn),(89,oz),(90,lN),(91,fH),(94,eP),(96,so),(97,sq),(98,iT),(99,su),(100,iU),(101,lO),(102,sx),(103,oE),(104,oF),(105,AL),(106,AM),(107,gz),(108,sy),(109,sA),(110,lP),(111,uP),(112,sD),(113,sG),(114,kj),(115,fI),(116,gA),(117,oH),(118,oK),(119,oL),(120,oM),(123,jL),(124,oN),(125,km),(126,xH),(127,lS),(128,fk),(134,fm),(136,mQ),(137,oT),(138,gB),(139,oU),(140,lT),(141,oW),(142,oX),(143,jP),(144,sR),(145,uY),(146,mR),(147,pa),(148,lU),(149,pd),(151,xO),(152,u5),(153,sZ),(154,xP),(155,th),(156,pe),(157,tn),(158,eS),(159,eI),(160,tq),(161,fp),(162,eu),(166,ig),(168,ij),(169,ik),(170,lV),(171,mT),(172,xS),(173,xT),(174,Bf),(175,gD),(176,eT),(177,mU),(178,mV),(179,ft),(180,mW),(185,fv),(186,lX),(188,dh),(194,Bh),(198,ky)]
def T:FuncId→Option aB:=fun f=>tab.lookup f
theorem xf:T 10=some eH:=by kernel_rfl
theorem SJ:T 11=some rU:=by kernel_rfl
theorem SK:T 12=some rV:=by kernel_rfl
theorem uB:T 13=some iK:=by kernel_rfl
theorem uC:T 15=some iL:=by kernel_rfl
theorem zJ:T 17=some lD:=by kernel_rfl
theorem E6:T 18=some iM:=by kernel_rfl
theorem B6:T 20=some gn:=by kernel_rfl
theorem E7:T 23=some iN:=by kernel_rfl
theorem E8:T 25=some iP:=by kernel_rfl
theorem J8:T 28=some ke:=by kernel_rfl
theorem aad:T 29=some xu:=by kernel_rfl
theorem SL:T 32=some rW:=by kernel_rfl
theorem Rs:T 33=some oj:=by kernel_rfl
theorem J9:T 35=some uI:=by kernel_rfl
theorem SM:T 36=some rX:=by kernel_rfl
theorem Rt:T 37=some Au:=by kernel_rfl
theorem zK:T 38=some lF:=by kernel_rfl
theorem ka:T 39=some gq:=by kernel_rfl
theorem pL:T 40=some gu:=by kernel_rfl
theorem zL:T 43=some lG:=by kernel_rfl
theorem zM:T 44=some lI:=by kernel_rfl
theorem Ka:T 47=some uJ:=by kernel_rfl
theorem E9:T 48=some iQ:=by kernel_rfl
theorem Kb:T 49=some kf:=by kernel_rfl
theorem Kc:T 54=some kg:=by kernel_rfl
theorem B7:T 56=some gw:=by kernel_rfl
theorem B8:T 59=some gx:=by kernel_rfl
theorem aae:T 60=some xw:=by kernel_rfl
theorem SN:T 62=some rZ:=by kernel_rfl
theorem SO:T 63=some r8:=by kernel_rfl
theorem Ru:T 64=some ot:=by kernel_rfl
theorem Rv:T 65=some ou:=by kernel_rfl
theorem Lz:T 66=some lK:=by kernel_rfl
theorem On:T 67=some mO:=by kernel_rfl
theorem Rw:T 68=some AB:=by kernel_rfl
theorem TG:T 69=some D3:=by kernel_rfl
theorem Oo:T 70=some mP:=by kernel_rfl
theorem aaf:T 71=some xz:=by kernel_rfl
theorem WG:T 72=some uK:=by kernel_rfl
theorem wI:T 73=some jE:=by kernel_rfl
theorem Fs:T 74=some r9:=by kernel_rfl
theorem Nd:T 75=some xB:=by kernel_rfl
theorem ns:T 76=some jF:=by kernel_rfl
theorem uD:T 77=some iR:=by kernel_rfl
theorem Ft:T 79=some se:=by kernel_rfl
theorem Fu:T 80=some sf:=by kernel_rfl
theorem Kd:T 82=some uM:=by kernel_rfl
theorem LA:T 83=some lM:=by kernel_rfl
theorem HE:T 84=some jJ:=by kernel_rfl
theorem WH:T 85=some uN:=by kernel_rfl
theorem SP:T 86=some sn:=by kernel_rfl
theorem Rx:T 89=some oz:=by kernel_rfl
theorem LC:T 90=some lN:=by kernel_rfl
theorem Bi:T 91=some fH:=by kernel_rfl
theorem yj:T 94=some eP:=by kernel_rfl
theorem SQ:T 96=some so:=by kernel_rfl
theorem SR:T 97=some sq:=by kernel_rfl
theorem Fa:T 98=some iT:=by kernel_rfl
theorem SS:T 99=some su:=by kernel_rfl
theorem Fb:T 100=some iU:=by kernel_rfl
theorem LD:T 101=some lO:=by kernel_rfl
theorem Fv:T 102=some sx:=by kernel_rfl
theorem Da:T 103=some oE:=by kernel_rfl
theorem Db:T 104=some oF:=by kernel_rfl
theorem Ry:T 105=some AL:=by kernel_rfl
theorem ab5:T 106=some AM:=by kernel_rfl
theorem B9:T 107=some gz:=by kernel_rfl
theorem SU:T 108=some sy:=by kernel_rfl
theorem Fw:T 109=some sA:=by kernel_rfl
theorem zN:T 110=some lP:=by kernel_rfl
theorem Ke:T 111=some uP:=by kernel_rfl
theorem Fx:T 112=some sD:=by kernel_rfl
theorem Fy:T 113=some sG:=by kernel_rfl
theorem xU:T 114=some kj:=by kernel_rfl
theorem pk:T 115=some fI:=by kernel_rfl
theorem pM:T 116=some gA:=by kernel_rfl
theorem Dc:T 117=some oH:=by kernel_rfl
theorem pn:T 118=some oK:=by kernel_rfl
theorem Dd:T 119=some oL:=by kernel_rfl
theorem De:T 120=some oM:=by kernel_rfl
theorem wJ:T 123=some jL:=by kernel_rfl
theorem Df:T 124=some oN:=by kernel_rfl
theorem Kf:T 125=some km:=by kernel_rfl
theorem aag:T 126=some xH:=by kernel_rfl
theorem LF:T 127=some lS:=by kernel_rfl
theorem zO:T 128=some fk:=by kernel_rfl
theorem zP:T 134=some fm:=by kernel_rfl
theorem Oq:T 136=some mQ:=by kernel_rfl
theorem Rz:T 137=some oT:=by kernel_rfl
theorem Ca:T 138=some gB:=by kernel_rfl
theorem Dg:T 139=some oU:=by kernel_rfl
theorem zQ:T 140=some lT:=by kernel_rfl
theorem Dh:T 141=some oW:=by kernel_rfl
theorem Di:T 142=some oX:=by kernel_rfl
theorem wK:T 143=some jP:=by kernel_rfl
theorem Fz:T 144=some sR:=by kernel_rfl
theorem Kg:T 145=some uY:=by kernel_rfl
theorem BQ:T 146=some mR:=by kernel_rfl
theorem Dj:T 147=some pa:=by kernel_rfl
theorem zR:T 148=some lU:=by kernel_rfl
theorem Dk:T 149=some pd:=by kernel_rfl
theorem aah:T 151=some xO:=by kernel_rfl
theorem WI:T 152=some u5:=by kernel_rfl
theorem SV:T 153=some sZ:=by kernel_rfl
theorem aai:T 154=some xP:=by kernel_rfl
theorem SW:T 155=some th:=by kernel_rfl
theorem RA:T 156=some pe:=by kernel_rfl
theorem SX:T 157=some tn:=by kernel_rfl
theorem yl:T 158=some eS:=by kernel_rfl
theorem xg:T 159=some eI:=by kernel_rfl
theorem SY:T 160=some tq:=by kernel_rfl
theorem zS:T 161=some fp:=by kernel_rfl
theorem wL:T 162=some eu:=by kernel_rfl
theorem Dl:T 166=some ig:=by kernel_rfl
theorem Dm:T 168=some ij:=by kernel_rfl
theorem Dn:T 169=some ik:=by kernel_rfl
theorem zT:T 170=some lV:=by kernel_rfl
theorem BR:T 171=some mT:=by kernel_rfl
theorem aaj:T 172=some xS:=by kernel_rfl
theorem aak:T 173=some xT:=by kernel_rfl
theorem ab6:T 174=some Bf:=by kernel_rfl
theorem Cb:T 175=some gD:=by kernel_rfl
theorem ym:T 176=some eT:=by kernel_rfl
theorem Ot:T 177=some mU:=by kernel_rfl
theorem Ou:T 178=some mV:=by kernel_rfl
theorem zU:T 179=some ft:=by kernel_rfl
theorem Ov:T 180=some mW:=by kernel_rfl
theorem zV:T 185=some fv:=by kernel_rfl
theorem LG:T 186=some lX:=by kernel_rfl
theorem tL:T 188=some dh:=by kernel_rfl
theorem ab7:T 194=some Bh:=by kernel_rfl
theorem Kh:T 198=some ky:=by kernel_rfl
theorem auC:∀p∈tab,okF Tryz.prog p.1 p.2=true:=(List.forall_mem_cons.2 ⟨vN,(List.forall_mem_cons.2 ⟨P9,(List.forall_mem_cons.2 ⟨Qa,(List.forall_mem_cons.2 ⟨CK,(List.forall_mem_cons.2 ⟨CL,(List.forall_mem_cons.2 ⟨IA,(List.forall_mem_cons.2 ⟨CM,(List.forall_mem_cons.2 ⟨As,(List.forall_mem_cons.2 ⟨CN,(List.forall_mem_cons.2 ⟨CO,(List.forall_mem_cons.2 ⟨F2,(List.forall_mem_cons.2 ⟨UP,(List.forall_mem_cons.2 ⟨Qe,(List.forall_mem_cons.2 ⟨Nw,(List.forall_mem_cons.2 ⟨R3,(List.forall_mem_cons.2 ⟨Qh,(List.forall_mem_cons.2 ⟨Ym,(List.forall_mem_cons.2 ⟨ID,(List.forall_mem_cons.2 ⟨Aw,(List.forall_mem_cons.2 ⟨Ax,(List.forall_mem_cons.2 ⟨IF,(List.forall_mem_cons.2 ⟨IH,(List.forall_mem_cons.2 ⟨R5,(List.forall_mem_cons.2 ⟨CS,(List.forall_mem_cons.2 ⟨F9,(List.forall_mem_cons.2 ⟨Ga,(List.forall_mem_cons.2 ⟨Az,(List.forall_mem_cons.2 ⟨AA,(List.forall_mem_cons.2 ⟨U5,(List.forall_mem_cons.2 ⟨Qq,(List.forall_mem_cons.2 ⟨Qr,(List.forall_mem_cons.2 ⟨NA,(List.forall_mem_cons.2 ⟨NB,(List.forall_mem_cons.2 ⟨IK,(List.forall_mem_cons.2 ⟨KX,(List.forall_mem_cons.2 ⟨YB,(List.forall_mem_cons.2 ⟨ab4,(List.forall_mem_cons.2 ⟨KY,(List.forall_mem_cons.2 ⟨Vb,(List.forall_mem_cons.2 ⟨R8,(List.forall_mem_cons.2 ⟨EH,(List.forall_mem_cons.2 ⟨Qu,(List.forall_mem_cons.2 ⟨Vd,(List.forall_mem_cons.2 ⟨EI,(List.forall_mem_cons.2 ⟨CT,(List.forall_mem_cons.2 ⟨Qy,(List.forall_mem_cons.2 ⟨Qz,(List.forall_mem_cons.2 ⟨Sb,(List.forall_mem_cons.2 ⟨IV,(List.forall_mem_cons.2 ⟨EL,(List.forall_mem_cons.2 ⟨Sc,(List.forall_mem_cons.2 ⟨QA,(List.forall_mem_cons.2 ⟨NG,(List.forall_mem_cons.2 ⟨IW,(List.forall_mem_cons.2 ⟨yR,(List.forall_mem_cons.2 ⟨wX,(List.forall_mem_cons.2 ⟨QC,(List.forall_mem_cons.2 ⟨QE,(List.forall_mem_cons.2 ⟨CW,(List.forall_mem_cons.2 ⟨QH,(List.forall_mem_cons.2 ⟨CZ,(List.forall_mem_cons.2 ⟨I6,(List.forall_mem_cons.2 ⟨QK,(List.forall_mem_cons.2 ⟨NO,(List.forall_mem_cons.2 ⟨NP,(List.forall_mem_cons.2 ⟨YY,(List.forall_mem_cons.2 ⟨YZ,(List.forall_mem_cons.2 ⟨AN,(List.forall_mem_cons.2 ⟨QN,(List.forall_mem_cons.2 ⟨QO,(List.forall_mem_cons.2 ⟨Jc,(List.forall_mem_cons.2 ⟨Sg,(List.forall_mem_cons.2 ⟨QS,(List.forall_mem_cons.2 ⟨QU,(List.forall_mem_cons.2 ⟨GK,(List.forall_mem_cons.2 ⟨zb,(List.forall_mem_cons.2 ⟨AQ,(List.forall_mem_cons.2 ⟨NR,(List.forall_mem_cons.2 ⟨NS,(List.forall_mem_cons.2 ⟨NT,(List.forall_mem_cons.2 ⟨NU,(List.forall_mem_cons.2 ⟨EN,(List.forall_mem_cons.2 ⟨NV,(List.forall_mem_cons.2 ⟨GV,(List.forall_mem_cons.2 ⟨VQ,(List.forall_mem_cons.2 ⟨Jo,(List.forall_mem_cons.2 ⟨yc,(List.forall_mem_cons.2 ⟨yd,(List.forall_mem_cons.2 ⟨Le,(List.forall_mem_cons.2 ⟨N2,(List.forall_mem_cons.2 ⟨AX,(List.forall_mem_cons.2 ⟨N3,(List.forall_mem_cons.2 ⟨JB,(List.forall_mem_cons.2 ⟨N4,(List.forall_mem_cons.2 ⟨N7,(List.forall_mem_cons.2 ⟨EW,(List.forall_mem_cons.2 ⟨Q8,(List.forall_mem_cons.2 ⟨Sv,(List.forall_mem_cons.2 ⟨Lk,(List.forall_mem_cons.2 ⟨Oa,(List.forall_mem_cons.2 ⟨JN,(List.forall_mem_cons.2 ⟨Od,(List.forall_mem_cons.2 ⟨Wg,(List.forall_mem_cons.2 ⟨SA,(List.forall_mem_cons.2 ⟨Rh,(List.forall_mem_cons.2 ⟨Wm,(List.forall_mem_cons.2 ⟨Rk,(List.forall_mem_cons.2 ⟨Og,(List.forall_mem_cons.2 ⟨Rm,(List.forall_mem_cons.2 ⟨xd,(List.forall_mem_cons.2 ⟨wC,(List.forall_mem_cons.2 ⟨Rn,(List.forall_mem_cons.2 ⟨yg,(List.forall_mem_cons.2 ⟨u6,(List.forall_mem_cons.2 ⟨B2,(List.forall_mem_cons.2 ⟨B3,(List.forall_mem_cons.2 ⟨B4,(List.forall_mem_cons.2 ⟨JY,(List.forall_mem_cons.2 ⟨Lu,(List.forall_mem_cons.2 ⟨Wx,(List.forall_mem_cons.2 ⟨WB,(List.forall_mem_cons.2 ⟨aab,(List.forall_mem_cons.2 ⟨Bg,(List.forall_mem_cons.2 ⟨xe,(List.forall_mem_cons.2 ⟨Lw,(List.forall_mem_cons.2 ⟨Lx,(List.forall_mem_cons.2 ⟨yh,(List.forall_mem_cons.2 ⟨Ly,(List.forall_mem_cons.2 ⟨yi,(List.forall_mem_cons.2 ⟨J7,(List.forall_mem_cons.2 ⟨rF,(List.forall_mem_cons.2 ⟨aac,(List.forall_mem_cons.2 ⟨HD,(fun _ h=>by cases h)⟩)⟩)⟩)⟩)⟩)⟩)⟩)⟩)⟩)⟩)⟩)⟩)⟩)⟩)⟩)⟩)⟩)⟩)⟩)⟩)⟩)⟩)⟩)⟩)⟩)⟩)⟩)⟩)⟩)⟩)⟩)⟩)⟩)⟩)⟩)⟩)⟩)⟩)⟩)⟩)⟩)⟩)⟩)⟩)⟩)⟩)⟩)⟩)⟩)⟩)⟩)⟩)⟩)⟩)⟩)⟩)⟩)⟩)⟩)⟩)⟩)⟩)⟩)⟩)⟩)⟩)⟩)⟩)⟩)⟩)⟩)⟩)⟩)⟩)⟩)⟩)⟩)⟩)⟩)⟩)⟩)⟩)⟩)⟩)⟩)⟩)⟩)⟩)⟩)⟩)⟩)⟩)⟩)⟩)⟩)⟩)⟩)⟩)⟩)⟩)⟩)⟩)⟩)⟩)⟩)⟩)⟩)⟩)⟩)⟩)⟩)⟩)⟩)⟩)⟩)⟩)⟩)⟩)⟩)⟩)⟩)⟩)⟩)⟩)⟩)⟩)⟩)⟩)⟩)⟩)⟩)⟩)⟩)
theorem auD:∀f af,T f=some af→okF Tryz.prog f af=true:=fun f af h=>auC (f,af) (PK h)
noncomputable def aal(C E:Callee)(fl k f:Nat)(args:List Value)(h:AH):Option (Value×AH):=cond (Nat.ble f 104) (cond (Nat.ble f 65) (cond (Nat.ble f 38) (cond (Nat.ble f 20) (cond (Nat.ble f 15) (cond (Nat.ble f 11) (cond (Nat.beq f 11) (fF C fl k rU args h) (E fl f args h)) (cond (Nat.ble f 13) (cond (Nat.beq f 13) ((dA 5 (dI .i64 fun a=>dI .i64 fun b=>dS fun c=>dI .i64 fun d=>dS fun g=>dE (fc C fl k a b c d g h))) args) (E fl f args h)) (cond (Nat.beq f 15) ((dA 5 (dI .i64 fun a=>dI .i64 fun b=>dS fun c=>dI .i64 fun d=>dS fun g=>dE (fe C fl k a b c d g h))) args) (E fl f args h)))) (cond (Nat.ble f 17) (cond (Nat.beq f 17) ((dS fun a=>dS fun b=>dE (jc C fl k a b h)) args) (E fl f args h)) (cond (Nat.ble f 18) (cond (Nat.beq f 18) (fF C fl k iM args h) (E fl f args h)) (cond (Nat.beq f 20) (fF C fl k gn args h) (E fl f args h))))) (cond (Nat.ble f 28) (cond (Nat.ble f 23) (cond (Nat.beq f 23) (fF C fl k iN args h) (E fl f args h)) (cond (Nat.ble f 25) (cond (Nat.beq f 25) (fF C fl k iP args h) (E fl f args h)) (cond (Nat.beq f 28) (fF C fl k ke args h) (E fl f args h)))) (cond (Nat.ble f 33) (cond (Nat.beq f 33) (fF C fl k oj args h) (E fl f args h)) (cond (Nat.ble f 37) (cond (Nat.beq f 37) ((dA 3 (dI .i64 fun a=>dI .i64 fun b=>dS fun c=>dA 2 (dI .i64 fun d=>dS fun g=>dE (yE C fl k a b c d g h)))) args) (E fl f args h)) (cond (Nat.beq f 38) ((dS fun a=>dS fun b=>dE (jd C fl k a b h)) args) (E fl f args h)))))) (cond (Nat.ble f 48) (cond (Nat.ble f 43) (cond (Nat.ble f 39) (cond (Nat.beq f 39) ((dS fun a=>dV fun b=>dE (bZ C fl k a b h)) args) (E fl f args h)) (cond (Nat.ble f 40) (cond (Nat.beq f 40) ((dI .i64 fun a=>dP fun b=>dE (cJ C fl k a b h)) args) (E fl f args h)) (cond (Nat.beq f 43) ((dA 5 (dI .i64 fun a=>dI .i64 fun b=>dS fun c=>dI .i64 fun d=>dS fun g=>dE (je C fl k a b c d g h))) args) (E fl f args h)))) (cond (Nat.ble f 44) (cond (Nat.beq f 44) ((dI .i64 fun a=>dE (jf C fl k a h)) args) (E fl f args h)) (cond (Nat.ble f 47) (cond (Nat.beq f 47) ((dA 5 (dI .i64 fun a=>dI .i64 fun b=>dS fun c=>dI .i64 fun d=>dS fun g=>dE (fW C fl k a b c d g h))) args) (E fl f args h)) (cond (Nat.beq f 48) (fF C fl k iQ args h) (E fl f args h))))) (cond (Nat.ble f 56) (cond (Nat.ble f 49) (cond (Nat.beq f 49) (fF C fl k kf args h) (E fl f args h)) (cond (Nat.ble f 54) (cond (Nat.beq f 54) (fF C fl k kg args h) (E fl f args h)) (cond (Nat.beq f 56) (fF C fl k gw args h) (E fl f args h)))) (cond (Nat.ble f 59) (cond (Nat.beq f 59) (fF C fl k gx args h) (E fl f args h)) (cond (Nat.ble f 64) (cond (Nat.beq f 64) (fF C fl k ot args h) (E fl f args h)) (cond (Nat.beq f 65) (fF C fl k ou args h) (E fl f args h))))))) (cond (Nat.ble f 82) (cond (Nat.ble f 74) (cond (Nat.ble f 68) (cond (Nat.ble f 66) (cond (Nat.beq f 66) (fF C fl k lK args h) (E fl f args h)) (cond (Nat.ble f 67) (cond (Nat.beq f 67) (fF C fl k mO args h) (E fl f args h)) (cond (Nat.beq f 68) ((dA 5 (dI .i64 fun a=>dI .i64 fun b=>dS fun c=>dI .i64 fun d=>dS fun g=>dE (vH C fl k a b c d g h))) args) (E fl f args h)))) (cond (Nat.ble f 69) (cond (Nat.beq f 69) ((dA 3 (dI .i64 fun a=>dI .i64 fun b=>dS fun c=>dA 2 (dI .i64 fun d=>dS fun g=>dI .i64 fun i=>dE (DS C fl k a b c d g i h)))) args) (E fl f args h)) (cond (Nat.ble f 73) (cond (Nat.beq f 73) ((dA 3 (dI .i64 fun a=>dI .i64 fun b=>dS fun c=>dA 2 (dI .i64 fun d=>dS fun g=>dE (cj C fl k a b c d g h)))) args) (E fl f args h)) (cond (Nat.beq f 74) ((dI .i64 fun a=>dE (kK C fl k a h)) args) (E fl f args h))))) (cond (Nat.ble f 77) (cond (Nat.ble f 75) (cond (Nat.beq f 75) ((dA 3 (dI .i64 fun a=>dI .i64 fun b=>dS fun c=>dE (eK C fl k a b c h))) args) (E fl f args h)) (cond (Nat.ble f 76) (cond (Nat.beq f 76) ((dS fun a=>dI .i64 fun b=>dI .i64 fun c=>dP fun d=>dP fun g=>dP fun i=>dP fun j=>dE (aM C fl k a b c d g i j h)) args) (E fl f args h)) (cond (Nat.beq f 77) ((dN fun a=>dS fun b=>dI .i64 fun c=>dE (cO C fl k a b c h)) args) (E fl f args h)))) (cond (Nat.ble f 79) (cond (Nat.beq f 79) ((dA 3 (dI .i64 fun a=>dI .i64 fun b=>dS fun c=>dE (fM C fl k a b c h))) args) (E fl f args h)) (cond (Nat.ble f 80) (cond (Nat.beq f 80) ((dA 3 (dI .i64 fun a=>dI .i64 fun b=>dS fun c=>dA 2 (dI .i64 fun d=>dS fun g=>dE (nD C fl k a b c d g h)))) args) (E fl f args h)) (cond (Nat.beq f 82) ((dA 3 (dI .i64 fun a=>dI .i64 fun b=>dS fun c=>dA 2 (dI .i64 fun d=>dS fun g=>dE (fX C fl k a b c d g h)))) args) (E fl f args h)))))) (cond (Nat.ble f 91) (cond (Nat.ble f 85) (cond (Nat.ble f 83) (cond (Nat.beq f 83) (fF C fl k lM args h) (E fl f args h)) (cond (Nat.ble f 84) (cond (Nat.beq f 84) (fF C fl k jJ args h) (E fl f args h)) (cond (Nat.beq f 85) (fF C fl k uN args h) (E fl f args h)))) (cond (Nat.ble f 89) (cond (Nat.beq f 89) (fF C fl k oz args h) (E fl f args h)) (cond (Nat.ble f 90) (cond (Nat.beq f 90) (fF C fl k lN args h) (E fl f args h)) (cond (Nat.beq f 91) (fF C fl k fH args h) (E fl f args h))))) (cond (Nat.ble f 101) (cond (Nat.ble f 94) (cond (Nat.beq f 94) (fF C fl k eP args h) (E fl f args h)) (cond (Nat.ble f 100) (cond (Nat.beq f 100) (fF C fl k iU args h) (E fl f args h)) (cond (Nat.beq f 101) (fF C fl k lO args h) (E fl f args h)))) (cond (Nat.ble f 102) (cond (Nat.beq f 102) ((dA 3 (dI .i64 fun a=>dI .i64 fun b=>dS fun c=>dS fun d=>dE (dG C fl k a b c d h))) args) (E fl f args h)) (cond (Nat.ble f 103) (cond (Nat.beq f 103) ((dN fun a=>dS fun b=>dI .i64 fun c=>dE (lx C fl k a b c h)) args) (E fl f args h)) (cond (Nat.beq f 104) ((dN fun a=>dI .i64 fun b=>dE (fG C fl k a b h)) args) (E fl f args h)))))))) (cond (Nat.ble f 143) (cond (Nat.ble f 119) (cond (Nat.ble f 113) (cond (Nat.ble f 110) (cond (Nat.ble f 105) (cond (Nat.beq f 105) ((dA 3 (dI .i64 fun a=>dI .i64 fun b=>dS fun c=>dE (yG C fl k a b c h))) args) (E fl f args h)) (cond (Nat.ble f 109) (cond (Nat.beq f 109) ((dN fun a=>dI .i64 fun b=>dE (js C fl k a b h)) args) (E fl f args h)) (cond (Nat.beq f 110) ((dN fun a=>dS fun b=>dE (fY C fl k a b h)) args) (E fl f args h)))) (cond (Nat.ble f 111) (cond (Nat.beq f 111) ((dN fun a=>dS fun b=>dS fun c=>dI .i64 fun d=>dE (pT C fl k a b c d h)) args) (E fl f args h)) (cond (Nat.ble f 112) (cond (Nat.beq f 112) ((dA 3 (dI .i64 fun a=>dI .i64 fun b=>dS fun c=>dE (kO C fl k a b c h))) args) (E fl f args h)) (cond (Nat.beq f 113) ((dI .i64 fun a=>dI .i64 fun b=>dE (gS C fl k a b h)) args) (E fl f args h))))) (cond (Nat.ble f 116) (cond (Nat.ble f 114) (cond (Nat.beq f 114) ((dA 3 (dI .i64 fun a=>dI .i64 fun b=>dS fun c=>dI .i64 fun d=>dE (cF C fl k a b c d h))) args) (E fl f args h)) (cond (Nat.ble f 115) (cond (Nat.beq f 115) ((dS fun a=>dV fun b=>dE (dH C fl k a b h)) args) (E fl f args h)) (cond (Nat.beq f 116) ((dS fun a=>dP fun b=>dE (cK C fl k a b h)) args) (E fl f args h)))) (cond (Nat.ble f 117) (cond (Nat.beq f 117) ((dN fun a=>dI .i64 fun b=>dI .i64 fun c=>dE (jy C fl k a b c h)) args) (E fl f args h)) (cond (Nat.ble f 118) (cond (Nat.beq f 118) ((dS fun a=>dE (dR C fl k a h)) args) (E fl f args h)) (cond (Nat.beq f 119) ((dN fun a=>dI .i64 fun b=>dI .i64 fun c=>dE (jz C fl k a b c h)) args) (E fl f args h)))))) (cond (Nat.ble f 134) (cond (Nat.ble f 124) (cond (Nat.ble f 120) (cond (Nat.beq f 120) ((dN fun a=>dI .i64 fun b=>dI .i64 fun c=>dE (dT C fl k a b c h)) args) (E fl f args h)) (cond (Nat.ble f 123) (cond (Nat.beq f 123) ((dS fun a=>dS fun b=>dV fun c=>dE (fQ C fl k a b c h)) args) (E fl f args h)) (cond (Nat.beq f 124) ((dS fun a=>dS fun b=>dE (gT C fl k a b h)) args) (E fl f args h)))) (cond (Nat.ble f 127) (cond (Nat.beq f 127) (fF C fl k lS args h) (E fl f args h)) (cond (Nat.ble f 128) (cond (Nat.beq f 128) (fF C fl k fk args h) (E fl f args h)) (cond (Nat.beq f 134) (fF C fl k fm args h) (E fl f args h))))) (cond (Nat.ble f 140) (cond (Nat.ble f 138) (cond (Nat.beq f 138) (fF C fl k gB args h) (E fl f args h)) (cond (Nat.ble f 139) (cond (Nat.beq f 139) ((dN fun a=>dI .i64 fun b=>dE (gU C fl k a b h)) args) (E fl f args h)) (cond (Nat.beq f 140) ((dN fun a=>dI .i64 fun b=>dS fun c=>dE (jg C fl k a b c h)) args) (E fl f args h)))) (cond (Nat.ble f 141) (cond (Nat.beq f 141) ((dN fun a=>dA 2 (dI .i64 fun b=>dS fun c=>dE (lz C fl k a b c h))) args) (E fl f args h)) (cond (Nat.ble f 142) (cond (Nat.beq f 142) ((dS fun a=>dE (lA C fl k a h)) args) (E fl f args h)) (cond (Nat.beq f 143) ((dN fun a=>dS fun b=>dI .i64 fun c=>dS fun d=>dE (fR C fl k a b c d h)) args) (E fl f args h))))))) (cond (Nat.ble f 162) (cond (Nat.ble f 149) (cond (Nat.ble f 146) (cond (Nat.ble f 144) (cond (Nat.beq f 144) ((dN fun a=>dI .i64 fun b=>dE (eX C fl k a b h)) args) (E fl f args h)) (cond (Nat.ble f 145) (cond (Nat.beq f 145) ((dN fun a=>dS fun b=>dI .i64 fun c=>dS fun d=>dE (m4 C fl k a b c d h)) args) (E fl f args h)) (cond (Nat.beq f 146) ((dI .i64 fun a=>dE (j4 C fl k a h)) args) (E fl f args h)))) (cond (Nat.ble f 147) (cond (Nat.beq f 147) ((dA 3 (dI .i64 fun a=>dI .i64 fun b=>dS fun c=>dI .i64 fun d=>dI .i64 fun g=>dE (lB C fl k a b c d g h))) args) (E fl f args h)) (cond (Nat.ble f 148) (cond (Nat.beq f 148) ((dA 3 (dI .i64 fun a=>dI .i64 fun b=>dS fun c=>dI .i64 fun d=>dI .i64 fun g=>dE (eY C fl k a b c d g h))) args) (E fl f args h)) (cond (Nat.beq f 149) ((dN fun a=>dI .i64 fun b=>dI .i64 fun c=>dE (gV C fl k a b c h)) args) (E fl f args h))))) (cond (Nat.ble f 159) (cond (Nat.ble f 151) (cond (Nat.beq f 151) (fF C fl k xO args h) (E fl f args h)) (cond (Nat.ble f 158) (cond (Nat.beq f 158) (fF C fl k eS args h) (E fl f args h)) (cond (Nat.beq f 159) (fF C fl k eI args h) (E fl f args h)))) (cond (Nat.ble f 160) (cond (Nat.beq f 160) (fF C fl k tq args h) (E fl f args h)) (cond (Nat.ble f 161) (cond (Nat.beq f 161) (fF C fl k fp args h) (E fl f args h)) (cond (Nat.beq f 162) (fF C fl k eu args h) (E fl f args h)))))) (cond (Nat.ble f 178) (cond (Nat.ble f 175) (cond (Nat.ble f 170) (cond (Nat.beq f 170) ((dI .i64 fun a=>dI .i64 fun b=>dI .i64 fun c=>dE (fZ C fl k a b c h)) args) (E fl f args h)) (cond (Nat.ble f 171) (cond (Nat.beq f 171) ((dS fun a=>dI .i64 fun b=>dE (j5 C fl k a b h)) args) (E fl f args h)) (cond (Nat.beq f 175) (fF C fl k gD args h) (E fl f args h)))) (cond (Nat.ble f 176) (cond (Nat.beq f 176) (fF C fl k eT args h) (E fl f args h)) (cond (Nat.ble f 177) (cond (Nat.beq f 177) (fF C fl k mU args h) (E fl f args h)) (cond (Nat.beq f 178) (fF C fl k mV args h) (E fl f args h))))) (cond (Nat.ble f 185) (cond (Nat.ble f 179) (cond (Nat.beq f 179) (fF C fl k ft args h) (E fl f args h)) (cond (Nat.ble f 180) (cond (Nat.beq f 180) (fF C fl k mW args h) (E fl f args h)) (cond (Nat.beq f 185) (fF C fl k fv args h) (E fl f args h)))) (cond (Nat.ble f 188) (cond (Nat.ble f 186) (cond (Nat.beq f 186) (fF C fl k lX args h) (E fl f args h)) (cond (Nat.beq f 188) (fF C fl k dh args h) (E fl f args h))) (cond (Nat.ble f 194) (cond (Nat.beq f 194) (fF C fl k Bh args h) (E fl f args h)) (cond (Nat.beq f 198) (fF C fl k ky args h) (E fl f args h))))))))
set_option maxHeartbeats 8000000 in
theorem ahb(C E:Callee)(fl k f:Nat)(args:List Value)(h:AH)(r:Value×AH)(e:aal C E fl k f args h=some r):aiR T C E fl k f args h r:=ar e (fun e=>ar e (fun e=>ar e (fun e=>ar e (fun e=>ar e (fun e=>ar e (fun e=>c7 SJ e) (fun e=>ar e (fun e=>cD uB (OH 5 (ja fun a=>ja fun b=>pP fun c=>ja fun d=>pP fun g=>tQ fun e=>(pE C fl k a b c d g h).trans e)) e) (fun e=>cD uC (OH 5 (ja fun a=>ja fun b=>pP fun c=>ja fun d=>pP fun g=>tQ fun e=>(pF C fl k a b c d g h).trans e)) e))) (fun e=>ar e (fun e=>cD zJ (pP fun a=>pP fun b=>tQ fun e=>(vO C fl k a b h).trans e) e) (fun e=>ar e (fun e=>c7 E6 e) (fun e=>c7 B6 e)))) (fun e=>ar e (fun e=>ar e (fun e=>c7 E7 e) (fun e=>ar e (fun e=>c7 E8 e) (fun e=>c7 J8 e))) (fun e=>ar e (fun e=>c7 Rs e) (fun e=>ar e (fun e=>cD Rt (OH 3 (ja fun a=>ja fun b=>pP fun c=>OH 2 (ja fun d=>pP fun g=>tQ fun e=>(IB C fl k a b c d g h).trans e))) e) (fun e=>cD zK (pP fun a=>pP fun b=>tQ fun e=>(vP C fl k a b h).trans e) e))))) (fun e=>ar e (fun e=>ar e (fun e=>ar e (fun e=>cD ka (pP fun a=>dV_ fun b=>tQ fun e=>(jj C fl k a b h).trans e) e) (fun e=>ar e (fun e=>cD pL (ja fun a=>dP_ fun b=>tQ fun e=>(nL C fl k a b h).trans e) e) (fun e=>cD zL (OH 5 (ja fun a=>ja fun b=>pP fun c=>ja fun d=>pP fun g=>tQ fun e=>(vQ C fl k a b c d g h).trans e)) e))) (fun e=>ar e (fun e=>cD zM (ja fun a=>tQ fun e=>(vS C fl k a h).trans e) e) (fun e=>ar e (fun e=>cD Ka (OH 5 (ja fun a=>ja fun b=>pP fun c=>ja fun d=>pP fun g=>tQ fun e=>(CR C fl k a b c d g h).trans e)) e) (fun e=>c7 E9 e)))) (fun e=>ar e (fun e=>ar e (fun e=>c7 Kb e) (fun e=>ar e (fun e=>c7 Kc e) (fun e=>c7 B7 e))) (fun e=>ar e (fun e=>c7 B8 e) (fun e=>ar e (fun e=>c7 Ru e) (fun e=>c7 Rv e)))))) (fun e=>ar e (fun e=>ar e (fun e=>ar e (fun e=>ar e (fun e=>c7 Lz e) (fun e=>ar e (fun e=>c7 On e) (fun e=>cD Rw (OH 5 (ja fun a=>ja fun b=>pP fun c=>ja fun d=>pP fun g=>tQ fun e=>(IL C fl k a b c d g h).trans e)) e))) (fun e=>ar e (fun e=>cD TG (OH 3 (ja fun a=>ja fun b=>pP fun c=>OH 2 (ja fun d=>pP fun g=>ja fun i=>tQ fun e=>(Mf C fl k a b c d g i h).trans e))) e) (fun e=>ar e (fun e=>cD wI (OH 3 (ja fun a=>ja fun b=>pP fun c=>OH 2 (ja fun d=>pP fun g=>tQ fun e=>(tG C fl k a b c d g h).trans e))) e) (fun e=>cD Fs (ja fun a=>tQ fun e=>(Br C fl k a h).trans e) e)))) (fun e=>ar e (fun e=>ar e (fun e=>cD Nd (OH 3 (ja fun a=>ja fun b=>pP fun c=>tQ fun e=>(Fi C fl k a b c h).trans e)) e) (fun e=>ar e (fun e=>cD ns (pP fun a=>ja fun b=>ja fun c=>dP_ fun d=>dP_ fun g=>dP_ fun i=>dP_ fun j=>tQ fun e=>(kR C fl k a b c d g i j h).trans e) e) (fun e=>cD uD (dN_ fun a=>pP fun b=>ja fun c=>tQ fun e=>(pG C fl k a b c h).trans e) e))) (fun e=>ar e (fun e=>cD Ft (OH 3 (ja fun a=>ja fun b=>pP fun c=>tQ fun e=>(Bu C fl k a b c h).trans e)) e) (fun e=>ar e (fun e=>cD Fu (OH 3 (ja fun a=>ja fun b=>pP fun c=>OH 2 (ja fun d=>pP fun g=>tQ fun e=>(Bv C fl k a b c d g h).trans e))) e) (fun e=>cD Kd (OH 3 (ja fun a=>ja fun b=>pP fun c=>OH 2 (ja fun d=>pP fun g=>tQ fun e=>(CV C fl k a b c d g h).trans e))) e))))) (fun e=>ar e (fun e=>ar e (fun e=>ar e (fun e=>c7 LA e) (fun e=>ar e (fun e=>c7 HE e) (fun e=>c7 WH e))) (fun e=>ar e (fun e=>c7 Rx e) (fun e=>ar e (fun e=>c7 LC e) (fun e=>c7 Bi e)))) (fun e=>ar e (fun e=>ar e (fun e=>c7 yj e) (fun e=>ar e (fun e=>c7 Fb e) (fun e=>c7 LD e))) (fun e=>ar e (fun e=>cD Fv (OH 3 (ja fun a=>ja fun b=>pP fun c=>pP fun d=>tQ fun e=>(Bz C fl k a b c d h).trans e)) e) (fun e=>ar e (fun e=>cD Da (dN_ fun a=>pP fun b=>ja fun c=>tQ fun e=>(yV C fl k a b c h).trans e) e) (fun e=>cD Db (dN_ fun a=>ja fun b=>tQ fun e=>(yW C fl k a b h).trans e) e))))))) (fun e=>ar e (fun e=>ar e (fun e=>ar e (fun e=>ar e (fun e=>ar e (fun e=>cD Ry (OH 3 (ja fun a=>ja fun b=>pP fun c=>tQ fun e=>(Ja C fl k a b c h).trans e)) e) (fun e=>ar e (fun e=>cD Fw (dN_ fun a=>ja fun b=>tQ fun e=>(BA C fl k a b h).trans e) e) (fun e=>cD zN (dN_ fun a=>pP fun b=>tQ fun e=>(vZ C fl k a b h).trans e) e))) (fun e=>ar e (fun e=>cD Ke (dN_ fun a=>pP fun b=>pP fun c=>ja fun d=>tQ fun e=>(C0 C fl k a b c d h).trans e) e) (fun e=>ar e (fun e=>cD Fx (OH 3 (ja fun a=>ja fun b=>pP fun c=>tQ fun e=>(BB C fl k a b c h).trans e)) e) (fun e=>cD Fy (ja fun a=>ja fun b=>tQ fun e=>(BC C fl k a b h).trans e) e)))) (fun e=>ar e (fun e=>ar e (fun e=>cD xU (OH 3 (ja fun a=>ja fun b=>pP fun c=>ja fun d=>tQ fun e=>(uo C fl k a b c d h).trans e)) e) (fun e=>ar e (fun e=>cD pk (pP fun a=>dV_ fun b=>tQ fun e=>(mD C fl k a b h).trans e) e) (fun e=>cD pM (pP fun a=>dP_ fun b=>tQ fun e=>(nP C fl k a b h).trans e) e))) (fun e=>ar e (fun e=>cD Dc (dN_ fun a=>ja fun b=>ja fun c=>tQ fun e=>(zd C fl k a b c h).trans e) e) (fun e=>ar e (fun e=>cD pn (pP fun a=>tQ fun e=>(lQ C fl k a h).trans e) e) (fun e=>cD Dd (dN_ fun a=>ja fun b=>ja fun c=>tQ fun e=>(zf C fl k a b c h).trans e) e))))) (fun e=>ar e (fun e=>ar e (fun e=>ar e (fun e=>cD De (dN_ fun a=>ja fun b=>ja fun c=>tQ fun e=>(zg C fl k a b c h).trans e) e) (fun e=>ar e (fun e=>cD wJ (pP fun a=>pP fun b=>dV_ fun c=>tQ fun e=>(tI C fl k a b c h).trans e) e) (fun e=>cD Df (pP fun a=>pP fun b=>tQ fun e=>(zj C fl k a b h).trans e) e))) (fun e=>ar e (fun e=>c7 LF e) (fun e=>ar e (fun e=>c7 zO e) (fun e=>c7 zP e)))) (fun e=>ar e (fun e=>ar e (fun e=>c7 Ca e) (fun e=>ar e (fun e=>cD Dg (dN_ fun a=>ja fun b=>tQ fun e=>(zo C fl k a b h).trans e) e) (fun e=>cD zQ (dN_ fun a=>ja fun b=>pP fun c=>tQ fun e=>(wj C fl k a b c h).trans e) e))) (fun e=>ar e (fun e=>cD Dh (dN_ fun a=>OH 2 (ja fun b=>pP fun c=>tQ fun e=>(zr C fl k a b c h).trans e)) e) (fun e=>ar e (fun e=>cD Di (pP fun a=>tQ fun e=>(zu C fl k a h).trans e) e) (fun e=>cD wK (dN_ fun a=>pP fun b=>ja fun c=>pP fun d=>tQ fun e=>(tJ C fl k a b c d h).trans e) e)))))) (fun e=>ar e (fun e=>ar e (fun e=>ar e (fun e=>ar e (fun e=>cD Fz (dN_ fun a=>ja fun b=>tQ fun e=>(BJ C fl k a b h).trans e) e) (fun e=>ar e (fun e=>cD Kg (dN_ fun a=>pP fun b=>ja fun c=>pP fun d=>tQ fun e=>(C5 C fl k a b c d h).trans e) e) (fun e=>cD BQ (ja fun a=>tQ fun e=>(xM C fl k a h).trans e) e))) (fun e=>ar e (fun e=>cD Dj (OH 3 (ja fun a=>ja fun b=>pP fun c=>ja fun d=>ja fun g=>tQ fun e=>(zA C fl k a b c d g h).trans e)) e) (fun e=>ar e (fun e=>cD zR (OH 3 (ja fun a=>ja fun b=>pP fun c=>ja fun d=>ja fun g=>tQ fun e=>(wz C fl k a b c d g h).trans e)) e) (fun e=>cD Dk (dN_ fun a=>ja fun b=>ja fun c=>tQ fun e=>(zB C fl k a b c h).trans e) e)))) (fun e=>ar e (fun e=>ar e (fun e=>c7 aah e) (fun e=>ar e (fun e=>c7 yl e) (fun e=>c7 xg e))) (fun e=>ar e (fun e=>c7 SY e) (fun e=>ar e (fun e=>c7 zS e) (fun e=>c7 wL e))))) (fun e=>ar e (fun e=>ar e (fun e=>ar e (fun e=>cD zT (ja fun a=>ja fun b=>ja fun c=>tQ fun e=>(wD C fl k a b c h).trans e) e) (fun e=>ar e (fun e=>cD BR (pP fun a=>ja fun b=>tQ fun e=>(xQ C fl k a b h).trans e) e) (fun e=>c7 Cb e))) (fun e=>ar e (fun e=>c7 ym e) (fun e=>ar e (fun e=>c7 Ot e) (fun e=>c7 Ou e)))) (fun e=>ar e (fun e=>ar e (fun e=>c7 zU e) (fun e=>ar e (fun e=>c7 Ov e) (fun e=>c7 zV e))) (fun e=>ar e (fun e=>ar e (fun e=>c7 LG e) (fun e=>c7 tL e)) (fun e=>ar e (fun e=>c7 ab7 e) (fun e=>c7 Kh e)))))))
end Go.Abs.P
end
section
set_option maxRecDepth 100000
namespace Go.Abs.P
open Go.Abs Go.Proofs
def okB(o:Option (Value×AH)):Bool:=match o with
 |some (.bool b,_)=>b
 |_=>false
theorem arS{o:Option (Value×AH)}(h:okB o=true):∃h1,o=some (.bool true,h1):=by
 unfold okB at h
 split at h
 ·subst h;exact⟨_,rfl⟩
 ·cases h
theorem ab8:okB (aiS aal sqE 60 0 fn.dF [] ⟨0,fun _=>none⟩)=true:=by kernel_rfl
theorem mixed:Tryz.prog.follows .mixedOrders=true:=by kernel_rfl
noncomputable def M0:Callee:=CC (shT Tryz.prog T) sqE
theorem ama:fx Tryz.prog M0:=XO mixed TB (aiQ auD)
theorem arT:∀fl f args h r,sqE fl f args h=some r→T f=none:=by
 intro fl f args h r e
 obtain⟨rfl,_⟩:=OM (v:=r.1) (h1:=r.2) e
 kernel_rfl
def ab9:Callee:=PL fn.dF (.bool true)
theorem WJ:fx Tryz.prog ab9:=by
 obtain⟨h1,e⟩:=arS ab8
 exact Ul ama (XP auD arT (fun C=>ahb C sqE) 60 _ _ _ _ _ e)
def Tl:FuncId→Option aB:=fun f=>if f=fn.dF∨f=fn.bG then none else T f
theorem as7:∀f af,Tl f=some af→okF Tryz.prog f af=true:=by
 intro f af h
 unfold Tl at h
 split at h
 ·cases h
 ·exact auD f af h
noncomputable def M:Callee:=CC (shT Tryz.prog Tl) (orE (orE sqE swE) ab9)
theorem arU:fx Tryz.prog M:=XO mixed (Tp (Tp TB agm) WJ) (aiQ as7)
theorem aR{f:FuncId}{af:aB}(h1:¬(f=fn.dF∨f=fn.bG))(h2:T f=some af){fl k:Nat}{args:List Value}{h:AH}{r:Value×AH}(e:bk M fl k af args h=some r):M fl f args h=some r:=
 adf as7 (by unfold Tl;rw[if_neg h1];exact h2) e
theorem u9(fl:Nat)(h:AH):M fl fn.dF [] h=some (.bool true,h):=by
 refine abB ?_ ?_
 ·unfold shT Tl;rw[if_pos (.inl rfl)];rfl
 ·unfold orE
  have:sqE fl fn.dF [] h=none:=rfl
  rw[this]
  have:swE fl fn.dF [] h=none:=rfl
  rw[this]
  simp[ab9,PL]
theorem auE{fl:Nat}{args:List Value}{h:AH}{r:Value×AH}(e:swE fl fn.bG args h=some r):M fl fn.bG args h=some r:=by
 refine abB ?_ ?_
 ·unfold shT Tl;rw[if_pos (.inr rfl)];rfl
 ·unfold orE
  have:sqE fl fn.bG args h=none:=rfl
  rw[this,e]
end Go.Abs.P
end
section
namespace Go.Abs.P
open Go.Abs
def po:Nat:=9223372036854775807
theorem jm{i:Nat}(h:i<po):bM ((i:Int)+1)=((i+1:Nat):Int):=by
 unfold po at h
 rw[kH (by omega) (by omega)];omega
theorem SZ{R:Type}(C:Callee)(fl k:Nat)(kn:av R)(kr:au R){h:AH}{s t:Sl}{xs ys:List Int}(hs:SI h s xs)(ht:SI h t ys)(hl:xs.length=ys.length)(hb:xs.length≤po):
 ∀(d i m:Nat),i+d=xs.length→d<m→yM C fl k kn kr m s t (i:Int) h=if xs.drop i=ys.drop i then kn h else kr false h:=by
 intro d
 induction d with
 |zero=>
  intro i m hi hm
  obtain⟨m,rfl⟩:∃j,m=j+1:=⟨m-1,by omega⟩
  show qf C fl k _ _ kr s t (i:Int) h=_
  unfold qf
  rw[if_neg (by rw[hs.len];simp;omega),List.drop_of_length_le (by omega),List.drop_of_length_le (by omega),if_pos rfl]
 |succ d ih=>
  intro i m hi hm
  obtain⟨m,rfl⟩:∃j,m=j+1:=⟨m-1,by omega⟩
  show qf C fl k _ _ kr s t (i:Int) h=_
  unfold qf
  rw[if_pos (by rw[hs.len];simp;omega),hs.read (by omega) (by simp;omega),ht.read (by omega) (by simp;omega)]
  simp only[Int.toNat_natCast]
  rw[List.drop_eq_getElem_cons (show i<xs.length by omega),List.drop_eq_getElem_cons (show i<ys.length by omega),jm (by omega)]
  by_cases e:xs[i]=ys[i]
  ·rw[if_neg (by simp[e]),ih (i+1) m (by omega) (by omega)]
   simp only[List.cons.injEq,e,true_and]
  ·rw[if_pos (by simp[e])]
   simp only[List.cons.injEq,e,false_and,if_false]
theorem S3{fl:Nat}{h:AH}{s t:Sl}{xs ys:List Int}(hs:SI h s xs)(ht:SI h t ys)(hb:xs.length≤po):M fl fn.jc [.slice s.a s.l s.c,.slice t.a t.l t.c] h=some (.bool (decide (xs=ys)),h):=by
 refine aR (k:=xs.length+1) (by decide) zJ ?_
 rw[vO]
 unfold jc ajH UN
 by_cases hl:xs.length=ys.length
 ·rw[if_neg (by rw[hs.len,ht.len];simp[hl])]
  have:=SZ M fl (xs.length+1) (DU M fl (xs.length+1) (fun(y4:Bool) q=>some (Value.bool y4,q))) (fun(y4:Bool) q=>some (Value.bool y4,q)) hs ht hl hb xs.length 0 (xs.length+1) (by omega) (by omega)
  refine this.trans ?_
  by_cases e:xs=ys
  ·simp[e,DU]
  ·simp[e]
 ·have e:xs≠ys:=fun e=>hl (by rw[e])
  rw[if_pos (by rw[hs.len,ht.len];simp;omega)]
  simp[e]
end Go.Abs.P
end
section
namespace Go.Abs.P
open Go.Abs
end Go.Abs.P
end
section
namespace Go.Abs.P
open Go.Abs
end Go.Abs.P
end
section
namespace Go.Abs.P
open Go.Abs
end Go.Abs.P
end
section
namespace Go.Abs.P
open Go.Abs
end Go.Abs.P
end
section
namespace Go.Abs.P
open Go.Abs
end Go.Abs.P
end
section
namespace Go.Abs.P
open Go.Abs
end Go.Abs.P
end
section
namespace Go.Abs.P
open Go.Abs Go.Fld
theorem S4{R:Type}{fl k:Nat}(kn:an R){h0:AH}{b p:Nat}(hp:0<p)(bL:fl≤b)(hb:h0.next≤b)(m:Nat)(hm:m<po):
 ∀(d i f x:Nat) (pre:List Nat) (h:AH),i+d=m→d<f→pre.length=i→x<9223372036854775808→OB h b (iv (ints (pre++List.replicate d 0)))→aj h0 h→
 ∃h',zE M fl k kn f (x:Int) (p:Int) ⟨some ⟨b,0,none⟩,m,m⟩ (m:Int) (i:Int) h=kn ⟨some ⟨b,0,none⟩,m,m⟩ h'∧OB h' b (iv (ints (pre++aN p d x)))∧aj h0 h':=by
 intro d
 induction d with
 |zero=>
  intro i f x pre h hi hf Ta hx ho hq
  obtain⟨f,rfl⟩:∃j,f=j+1:=⟨f-1,by omega⟩
  refine⟨h,?_,ho,hq⟩
  show rz M fl k _ _ (x:Int) (p:Int) _ (m:Int) (i:Int) h=_
  unfold rz
  rw[if_neg (by simp;omega)]
 |succ d ih=>
  intro i f x pre h hi hf Ta hx ho hq
  obtain⟨f,rfl⟩:∃j,f=j+1:=⟨f-1,by omega⟩
  have hs:(iv (ints (pre++List.replicate (d+1) 0))).set (0+i) (.int .i64 ((x%p:Nat):Int))=iv (ints ((pre++[x%p])++List.replicate d 0)):=by
   rw[kI,ints_set,List.set_append_right _ _ (by omega),show 0+i-pre.length=0 by omega,List.replicate_succ,List.set_cons_zero];simp
  have ho2:OB (h.put b (some (iv (ints ((pre++[x%p])++List.replicate d 0))))) b (iv (ints ((pre++[x%p])++List.replicate d 0))):=ho.put _
  obtain⟨h',e1,e2,e3⟩:=ih (i+1) f (x/p) (pre++[x%p]) _ (by omega) (by omega) (by simp;omega) (Nat.lt_of_le_of_lt (Nat.div_le_self x p) hx) ho2 (hq.put hb _)
  refine⟨h',?_,by simpa [aN] using e2,e3⟩
  show rz M fl k _ _ (x:Int) (p:Int) _ (m:Int) (i:Int) h=_
  unfold rz
  rw[if_pos (by simp;omega),gO hp,aU rfl (show i<m by omega),ho.st bL (by simp;omega) rfl,hs,DP hp hx,jm (by omega)]
  exact e1
theorem FA{fl:Nat}{h:AH}{x p m:Nat}(hp:0<p)(hm:m≤64)(hx:x<9223372036854775808)(bL:fl≤h.next):
 ∃h',M fl fn.fZ [.int .i64 (x:Int),.int .i64 (p:Int),.int .i64 (m:Int)] h=some (.slice (some ⟨h.next,0,none⟩) m m,h')∧OB h' h.next (iv (ints (aN p m x)))∧aj h h':=by
 have ho:=OB.alloc h (List.replicate m (Value.int .i64 0))
 rw[oi] at ho
 obtain⟨h',e1,e2,e3⟩:=S4 (fl:=fl) (k:=m+1) (Lt M fl (m+1) (fun(y6:Sl) q=>some (Value.slice y6.a y6.l y6.c,q))) hp bL (Nat.le_refl _) m (by unfold po;omega) m 0 (m+1) x [] _ (by omega) (by omega) rfl hx ho (aj.alloc h _)
 refine⟨h',aR (k:=m+1) (by decide) zT ?_,e2,e3⟩
 rw[wD]
 unfold fZ al1 Wt
 rw[jb (by unfold lk;omega),oi]
 exact e1
theorem WK{R:Type}{fl k:Nat}(kn:ag R){h:AH}{s:Sl}{l:List Nat}{p:Nat}(hs:SI h s (ints l))(hsm:Small p l)(hb:p^l.length≤9223372036854775808)(hl:l.length≤64):
 ∀(i f:Nat),i≤l.length→i<f→
 zF M fl k kn f s (p:Int) ((dJ p (l.drop i):Nat):Int) ((i:Int)-1) h=kn ((dJ p l:Nat):Int) h:=by
 intro i
 induction i with
 |zero=>
  intro f hi hf
  obtain⟨f,rfl⟩:∃j,f=j+1:=⟨f-1,by omega⟩
  show rA M fl k _ _ s (p:Int) _ _ h=_
  unfold rA
  rw[if_neg (by simp),List.drop_zero]
 |succ i ih=>
  intro f hi hf
  obtain⟨f,rfl⟩:∃j,f=j+1:=⟨f-1,by omega⟩
  show rA M fl k _ _ s (p:Int) _ _ h=_
  unfold rA
  have e1:((i+1:Nat):Int)-1=(i:Int):=by omega
  rw[e1,if_pos (by simp),hs.read (by omega) (by simp;omega)]
  simp only[Int.toNat_natCast,dC]
  have hd:l.drop i=l[i]::l.drop (i+1):=List.drop_eq_getElem_cons (by omega)
  have hlt:dJ p (l.drop i)<9223372036854775808:=by
   have h1:=abL (l.drop i) (fun a ha=>hsm a (List.mem_of_mem_drop ha))
   have h2:p^(l.drop i).length≤p^l.length:=Nat.pow_le_pow_right (by have:=hsm l[i] (List.getElem_mem _);omega) (by simp)
   omega
  have hv:dJ p (l.drop i)=l[i]+p*dJ p (l.drop (i+1)):=by rw[hd];rfl
  have e2:bM (((dJ p (l.drop (i+1)):Nat):Int)*(p:Int))=((p*dJ p (l.drop (i+1)):Nat):Int):=aw _ (by push_cast;rw[Int.mul_comm]) (by omega)
  rw[e2,aw (dJ p (l.drop i)) (by rw[hv];push_cast;omega) hlt,kH (by omega) (by omega)]
  exact ih f (by omega) (by omega)
theorem WL{fl:Nat}{h:AH}{s:Sl}{l:List Nat}{p:Nat}(hs:SI h s (ints l))(hsm:Small p l)(hb:p^l.length≤9223372036854775808)(hl:l.length≤64):
 M fl fn.j5 [.slice s.a s.l s.c,.int .i64 (p:Int)] h=some (.int .i64 ((dJ p l:Nat):Int),h):=by
 refine aR (k:=l.length+1) (by decide) BR ?_
 rw[xQ]
 unfold j5 al3 Ww Wv
 rw[hs.len,kH (by simp;omega) (by simp;omega)]
 have:=WK (fl:=fl) (k:=l.length+1) (Lv M fl (l.length+1) (fun(y4:Int) q=>some (Value.int .i64 y4,q))) hs hsm hb hl l.length (l.length+1) (by omega) (by omega)
 simp only[List.drop_length] at this
 simp only[cI]
 exact this
def sqP(n:Nat):Nat→Nat→Bool
 |0,_=>true
 |k+1,d=>if d*d≤n then (if n%d=0 then false else sqP n k (d+1)) else true
theorem WM{R:Type}{fl k:Nat}(kn:ag R)(kr:au R){h:AH}{n:Nat}(hn:n≤256):
 ∀(j d f:Nat),0<d→d+j=18→j<f→zy M fl k kn kr f (n:Int) (d:Int) h=if sqP n j d=true then kn (n:Int) h else kr false h:=by
 intro j
 induction j with
 |zero=>
  intro d f h0 hd hf
  obtain⟨f,rfl⟩:∃j,f=j+1:=⟨f-1,by omega⟩
  obtain rfl:d=18:=by omega
  show qX M fl k _ _ kr (n:Int) _ h=_
  unfold qX
  rw[show bM (((18:Nat):Int)*((18:Nat):Int))=324 from by rw[kH (by omega) (by omega)];rfl,if_neg (by simp;omega)]
  simp[sqP]
 |succ j ih=>
  intro d f h0 hd hf
  obtain⟨f,rfl⟩:∃j,f=j+1:=⟨f-1,by omega⟩
  show qX M fl k _ _ kr (n:Int) _ h=_
  unfold qX
  have hdd:d*d≤18*18:=Nat.mul_le_mul (by omega) (by omega)
  rw[aw (d*d) (by push_cast;rfl) (by omega)]
  unfold sqP
  by_cases c:d*d≤n
  ·rw[if_pos (by simp;exact_mod_cast c),gO h0,if_pos c]
   by_cases c2:n%d=0
   ·rw[if_pos (by simp[c2]),if_pos c2];rfl
   ·rw[if_neg (by simp;omega),if_neg c2,aw (d+1) (by push_cast;rfl) (by omega)]
    exact ih (d+1) f (by omega) (by omega) (by omega)
  ·rw[if_neg (by simp;exact_mod_cast Nat.lt_of_not_le c),if_neg c];rfl
theorem auF:∀n<257,2≤n→sqP n 16 2=FD.prB n:=by decide+kernel
theorem WN{fl:Nat}{h:AH}{n:Nat}(hn:n≤256)(h2:2≤n):M fl fn.j4 [.int .i64 (n:Int)] h=some (.bool (FD.prB n),h):=by
 refine aR (k:=18) (by decide) BQ ?_
 rw[xM]
 unfold j4 alA V8 V7
 have:=WM (fl:=fl) (k:=18) (Es M fl 18 (fun(y2:Bool) q=>some (Value.bool y2,q))) (fun(y2:Bool) q=>some (Value.bool y2,q)) (h:=h) hn 16 2 18 (by omega) (by omega) (by omega)
 refine this.trans ?_
 rw[←auF n (by omega) h2]
 by_cases c:sqP n 16 2=true
 ·rw[if_pos c,c]
  unfold Es
  rw[show decide ((n:Int)≥2)=true by simp;omega]
 ·rw[if_neg c];simp only[Bool.not_eq_true] at c;rw[c]
def Cc(p m:Int):Nat:=if p<2∨m<1∨m>8∨p>256 then 0 else if p.toNat^m.toNat≤256 then p.toNat^m.toNat else 0
theorem aca{R:Type}{fl k:Nat}(kn:ag R)(kr:ag R){h:AH}{p m:Nat}(hp:2≤p)(hp2:p≤256):
 ∀(j i f:Nat),i+j=m→j<f→p^i≤256→m≤8→za M fl k kn kr f (p:Int) ((p^i:Nat):Int) (m:Int) (i:Int) h=if p^m≤256 then kn ((p^m:Nat):Int) h else kr 0 h:=by
 intro j
 induction j with
 |zero=>
  intro i f hi hf hle hm
  obtain⟨f,rfl⟩:∃j,f=j+1:=⟨f-1,by omega⟩
  obtain rfl:i=m:=by omega
  show qD M fl k _ _ kr (p:Int) _ _ _ h=_
  unfold qD
  rw[if_neg (by simp),if_pos hle]
 |succ j ih=>
  intro i f hi hf hle hm
  obtain⟨f,rfl⟩:∃j,f=j+1:=⟨f-1,by omega⟩
  show qD M fl k _ _ kr (p:Int) _ _ _ h=_
  unfold qD
  have h1:p^i*p≤256*256:=Nat.mul_le_mul hle hp2
  have ih:=ih (i+1) f (by omega) (by omega)
  have h3:p^(i+1)≤p^m:=Nat.pow_le_pow_right (by omega) (by omega)
  obtain⟨P,hP⟩:∃P,P=p^(i+1):=⟨_,rfl⟩
  have e:p^i*p=P:=hP.symm
  rw[←hP] at ih h3
  rw[if_pos (by simp;omega),aw P (by rw[←e];push_cast;rfl) (by omega),aw (i+1) (by push_cast;rfl) (by omega)]
  by_cases c:P≤256
  ·rw[if_neg (by rw[decide_eq_true_eq];omega)]
   exact ih c hm
  ·rw[if_pos (by rw[decide_eq_true_eq];omega),if_neg (by omega)]
theorem Bj{fl:Nat}{h:AH}(p m:Int):M fl fn.gS [.int .i64 p,.int .i64 m] h=some (.int .i64 ((Cc p m:Nat):Int),h):=by
 refine aR (k:=10) (by decide) Fy ?_
 rw[BC]
 unfold gS akS VD Cc
 by_cases h1:p<2
 ·rw[if_neg (by simp[h1]),if_pos (.inl h1)];rfl
 ·rw[if_pos (by simp;omega)]
  by_cases h2:p>256
  ·rw[if_neg (by simp;omega),if_pos (by omega)];rfl
  ·rw[if_pos (by simp;omega)]
   by_cases h3:m<1
   ·rw[if_neg (by simp;omega),if_pos (by omega)];rfl
   ·rw[if_pos (by simp;omega)]
    by_cases h4:m>8
    ·rw[if_pos (by simp;omega),if_pos (by omega)];rfl
    ·rw[if_neg (by simp;omega),if_neg (by omega)]
     obtain⟨p,rfl⟩:∃n:Nat,p=n:=⟨p.toNat,by omega⟩
     obtain⟨m,rfl⟩:∃n:Nat,m=n:=⟨m.toNat,by omega⟩
     have:=aca (fl:=fl) (k:=10) (Lb M fl 10 (fun(y4:Int) q=>some (Value.int .i64 y4,q))) (fun(y4:Int) q=>some (Value.int .i64 y4,q)) (h:=h) (p:=p) (m:=m) (by omega) (by omega) m 0 10 (by omega) (by omega) (by simp) (by omega)
     refine Eq.trans this ?_
     simp only[Int.toNat_natCast]
     by_cases c:p^m≤256
     ·rw[if_pos c,if_pos c];rfl
     ·rw[if_neg c,if_neg c];rfl
end Go.Abs.P
end
section
namespace Go.Abs
theorem RB(cs:List Value)(o:Nat)(xs:List Value)(h:o+xs.length=cs.length):mh cs o xs=cs.take o++xs:=by
 induction xs generalizing cs o with
 |nil=>simp at h;simp[mh,List.take_of_length_le (Nat.le_of_eq h.symm)]
 |cons x xs ih=>
  simp only[mh]
  rw[ih _ _ (by simp at h ⊢;omega),List.take_set,List.take_add_one,List.getElem?_eq_getElem (by simp at h;omega)]
  have:(List.take o cs).length=o:=by simp at h ⊢;omega
  rw[Option.toList_some,List.set_append_right _ _ (by omega),this]
  simp
theorem rG(a b:List Int):iv (a++b)=iv a++iv b:=by simp[iv]
theorem WO(a:List Int)(n:Nat):(iv a).take n=iv (a.take n):=by simp[iv,List.map_take]
theorem nW(a b:List Nat):ints (a++b)=ints a++ints b:=by simp[ints]
theorem TH(a:List Nat)(n:Nat):(ints a).take n=ints (a.take n):=by simp[ints,List.map_take]
theorem arV(a:List Int):(iv a).all yp=true:=by simp[iv,List.all_map];intro x _;rfl
end Go.Abs
namespace Go.Abs.P
open Go.Abs Go.Fld
theorem ahc(p top b:Nat)(os ls az:List Nat)(i:Nat)(h1:i<os.length)(h2:i<ls.length)(h3:i<az.length)(h:i<(jo p top b os ls az).length):
 (jo p top b os ls az)[i]=(os[i]+(p-top)*ls[i]+b*az[i])%p:=by
 induction os generalizing ls az i with
 |nil=>cases h1
 |cons o os ih=>cases ls with
  |nil=>cases h2
  |cons l ls=>cases az with
   |nil=>cases h3
   |cons a az=>cases i with
    |zero=>simp[jo]
    |succ i=>simp only[jo,List.getElem_cons_succ];exact ih ls az i _ _ _ _
theorem ahd(p top b:Nat)(os ls az:List Nat)(n:Nat)(hn:ls.length≤n):jo p top b (os.take n) ls az=jo p top b os ls az:=by
 induction os generalizing ls az n with
 |nil=>simp
 |cons o os ih=>cases ls with
  |nil=>cases n<;>simp[jo]
  |cons l ls=>cases az with
   |nil=>cases n<;>simp[jo]
   |cons a az=>
    obtain⟨n,rfl⟩:∃k,n=k+1:=⟨n-1,by simp at hn;omega⟩
    simp only[List.take_succ_cons,jo]
    rw[ih ls az n (by simpa using hn)]
def jt(D:FD):List Nat:=if D.m=1 then [] else D.low
structure WQ(D:FD):Prop where
 q:D.q≤256
 one:D.m=1→D.low=[0]
theorem WQ.p{D:FD}(f:WQ D):D.p≤256:=by
 have h1:=f.q
 have h2:D.p^1≤D.p^D.m:=Nat.pow_le_pow_right (by have:=D.hp;omega) D.hm
 unfold FD.q at h1
 rw[Nat.pow_one] at h2
 omega
theorem WQ.m{D:FD}(f:WQ D):D.m≤8:=by
 have h1:=f.q
 refine Classical.byContradiction fun hc=>?_
 have h3:2^9≤D.p^9:=Nat.pow_le_pow_left D.hp 9
 have h2:D.p^9≤D.p^D.m:=Nat.pow_le_pow_right (by have:=D.hp;omega) (by omega)
 unfold FD.q at h1
 omega
theorem arW{p top o l b a:Nat}(hp:p≤256)(ht:top≤p)(ho:o<256)(hl:l<256)(hb:b<256)(ha:a<256):
 bM (bM ((o:Int)+(bM (bM ((p:Int)-(top:Int))*(l:Int))))+(bM ((b:Int)*(a:Int))))=((o+(p-top)*l+b*a:Nat):Int):=by
 have h1:(p-top)*l≤256*256:=Nat.mul_le_mul (by omega) (by omega)
 have h2:b*a≤256*256:=Nat.mul_le_mul (by omega) (by omega)
 have e1:bM ((p:Int)-(top:Int))=((p-top:Nat):Int):=aw (p-top) (by omega) (by omega)
 have e2:bM (((p-top:Nat):Int)*(l:Int))=(((p-top)*l:Nat):Int):=aw _ (by push_cast;rfl) (by omega)
 have e3:bM ((b:Int)*(a:Int))=((b*a:Nat):Int):=aw _ (by push_cast;rfl) (by omega)
 have e4:bM ((o:Int)+(((p-top)*l:Nat):Int))=((o+(p-top)*l:Nat):Int):=aw _ (by push_cast;rfl) (by omega)
 have e5:bM (((o+(p-top)*l:Nat):Int)+((b*a:Nat):Int))=((o+(p-top)*l+b*a:Nat):Int):=aw _ (by push_cast;rfl) (by omega)
 rw[e1,e2,e3,e4,e5]
section
variable{D:FD}{fl k:Nat}{h0:AH}{bx:Nat}{mod ta tb:Sl}{a bs:List Nat}{bo:Nat}
theorem acb{R:Type}(kn:aX R)(f:WQ D)(hx:OB h0 bx [.int .i64 (D.p:Int),.int .i64 (D.m:Int),.slice mod.a mod.l mod.c])(bu:SI h0 mod (ints (jt D)))
 (ha:SI h0 ta (ints a)) (hla:a.length=D.m) (Pr:Small D.p a) (hb:SI h0 tb (ints bs)) (hlb:bs.length=D.m) (hsb:Small D.p bs) (hbo:h0.next≤bo) (bL:fl≤bo)
 (sh:List Nat) (TY:sh.length=D.m) (hss:Small D.p sh) (top ib:Nat) (ht:top≤D.p) (RW:ib<bs.length):
 ∀(d i g:Nat) (h:AH),i+d=D.m→d<g→OB h bo (iv (ints ((jo D.p top bs[ib] sh D.low a).take i++sh.drop i)))→aj h0 h→
 ∃h',ie M fl k kn g ⟨bx,0,none⟩ ta tb ⟨some ⟨bo,0,none⟩,D.m,D.m⟩ (ib:Int) (top:Int) (D.m:Int) (i:Int) h=kn ⟨bx,0,none⟩ ta tb ⟨some ⟨bo,0,none⟩,D.m,D.m⟩ (ib:Int) h'∧
  OB h' bo (iv (ints (jo D.p top bs[ib] sh D.low a)))∧aj h0 h':=by
 have hp:=f.p
 have hm:=f.m
 have hlen:(jo D.p top bs[ib] sh D.low a).length=D.m:=by rw[LY,TY,D.hl,hla];simp
 intro d
 induction d with
 |zero=>
  intro i g h hi hg ho hq
  obtain⟨g,rfl⟩:∃j,g=j+1:=⟨g-1,by omega⟩
  refine⟨h,?_,?_,hq⟩
  ·show ep M fl k _ _ _ ta tb _ _ _ _ _ h=_
   unfold ep gj
   rw[if_neg (by simp;omega)]
  ·rw[List.take_of_length_le (by omega),List.drop_of_length_le (by omega),List.append_nil] at ho
   exact ho
 |succ d ih=>
  intro i g h hi hg ho hq
  obtain⟨g,rfl⟩:∃j,g=j+1:=⟨g-1,by omega⟩
  have tP:=hx.quiet hq
  have mX:i<D.low.length:=by rw[D.hl];omega
  have k8:h.cell bo (0+i)=some (.int .i64 ((sh[i]'(by omega):Nat):Int)):=by
   refine ho.cell ?_
   rw[Nat.zero_add]
   have:i<(iv (ints ((jo D.p top bs[ib] sh D.low a).take i++sh.drop i))).length:=by simp;omega
   rw[List.getElem?_eq_getElem this]
   simp only[iv,ints,List.getElem_map]
   rw[List.getElem_append_right (by simp;omega)]
   simp[Nat.min_eq_left (show i≤(jo D.p top bs[ib] sh D.low a).length by omega)]
  have nu:(iv (ints ((jo D.p top bs[ib] sh D.low a).take i++sh.drop i))).set (0+i) (.int .i64 ((((sh[i]'(by omega))+(D.p-top)*D.low[i]+bs[ib]*a[i]'(by omega))%D.p:Nat):Int))=
   iv (ints ((jo D.p top bs[ib] sh D.low a).take (i+1)++sh.drop (i+1))):=by
   rw[←ahc D.p top bs[ib] sh D.low a i (by omega) mX (by omega) (by omega),kI,ints_set,Nat.zero_add,List.set_append_right _ _ (by simp;omega)]
   congr 2
   rw[List.drop_eq_getElem_cons (show i<sh.length by omega),List.take_succ_eq_append_getElem (show i<(jo D.p top bs[ib] sh D.low a).length by omega)]
   have:i-((jo D.p top bs[ib] sh D.low a).take i).length=0:=by simp;omega
   rw[this,List.set_cons_zero,List.append_assoc]
   rfl
  have DD:D.low[i]<D.p:=D.hs _ (List.getElem_mem _)
  have hai:a[i]'(by omega)<D.p:=Pr _ (List.getElem_mem _)
  have hbi:bs[ib]<D.p:=hsb _ (List.getElem_mem _)
  have hsi:sh[i]'(by omega)<D.p:=hss _ (List.getElem_mem _)
  obtain⟨h',e1,e2,e3⟩:=ih (i+1) g (h.put bo (some (iv (ints ((jo D.p top bs[ib] sh D.low a).take (i+1)++sh.drop (i+1)))))) (by omega) (by omega) (ho.put _) (hq.put hbo _)
  refine⟨h',?_,e2,e3⟩
  have tail:∀(n:Int) (hn:n=((D.low[i]:Nat):Int)),
   (idx 1 (⟨some ⟨bo,0,none⟩,D.m,D.m⟩:Sl) (i:Int) fun p9=>aF .i64 h p9.block p9.off fun tO=>aF .i64 h bx 0 fun EA=>idx 1 tb (ib:Int) fun LO=>aF .i64 h LO.block LO.off fun DA=>idx 1 ta (i:Int) fun p14=>aF .i64 h p14.block p14.off fun n15=>aF .i64 h bx 0 fun Kr=>iZ .rem .i64 (bM (bM (tO+(bM (bM (EA-(top:Int))*n)))+(bM (DA*n15)))) Kr fun S8=>idx 1 (⟨some ⟨bo,0,none⟩,D.m,D.m⟩:Sl) (i:Int) fun p18=>st fl h p18 [.int .i64 S8] fun HL=>
    iX M fl k (ie M fl k kn g) kn ⟨bx,0,none⟩ ta tb ⟨some ⟨bo,0,none⟩,D.m,D.m⟩ (ib:Int) (top:Int) (D.m:Int) (i:Int) HL)=
    kn ⟨bx,0,none⟩ ta tb ⟨some ⟨bo,0,none⟩,D.m,D.m⟩ (ib:Int) h':=by
   rintro n rfl
   rw[aU rfl (show i<D.m by omega)]
   dsimp only
   rw[ae k8,ae (tP.cell rfl),(hb.quiet hq).read (by omega) (by simp;omega),(ha.quiet hq).read (by omega) (by simp;omega),ae (tP.cell rfl)]
   simp only[Int.toNat_natCast,dC]
   rw[arW hp ht (by omega) (by omega) (by omega) (by omega),gO (by omega),aU rfl (show i<D.m by omega),ho.st bL (by simp;omega) rfl,nu]
   unfold iX
   rw[aw (i+1) (by push_cast;rfl) (by omega)]
   exact e1
  show ep M fl k _ _ _ ta tb _ _ _ _ _ h=_
  unfold ep gj
  rw[if_pos (by simp;omega)]
  dsimp only
  rw[ae (tP.cell rfl)]
  by_cases c:D.m=1
  ·rw[if_neg (by simp;omega)]
   refine tail 0 ?_
   have h1:=f.one c
   have:D.low[i]=0:=by simp[h1]
   rw[this];rfl
  ·rw[if_pos (by simp;have:=D.hm;omega),ai (s:=mod) (tP.cell rfl)]
   have hmo:jt D=D.low:=by unfold jt;rw[if_neg c]
   rw[hmo] at bu
   rw[(bu.quiet hq).read (by omega) (by simp;omega)]
   refine tail _ ?_
   simp only[Int.toNat_natCast,dC]
theorem amb{R:Type}{b m:Nat}(hm:1≤m)(hm2:m≤8)(K:Sl→Option R):sub 1 ⟨some ⟨b,0,none⟩,m,m⟩ (some 1) none none K=K ⟨some ⟨b,if m=1 then 0 else 1,none⟩,m-1,m-1⟩:=by
 unfold sub
 rw[if_pos (by unfold pB;simp;omega)]
 simp only[Option.getD_some,Option.getD_none]
 rw[if_pos (by omega)]
 congr 1
 by_cases c:m=1
 ·subst c;rfl
 ·rw[if_neg (by omega),if_neg c]
  simp
theorem amc{R:Type}{b m:Nat}(hm:1≤m)(hm2:m≤8)(K:Sl→Option R):sub 1 ⟨some ⟨b,0,none⟩,m,m⟩ none (some ((m-1:Nat):Int)) none K=K ⟨some ⟨b,0,none⟩,m-1,m⟩:=by
 unfold sub
 rw[if_pos (by unfold pB;simp;omega)]
 simp only[Option.getD_some,Option.getD_none]
 rw[if_pos (by omega)]
 congr 1
 simp
theorem ahe{R:Type}{h:AH}{b m:Nat}{out:List Nat}(bL:fl≤b)(ho:OB h b (iv (ints out)))(hl:out.length=m)(hm:1≤m)(K:Int→AH→Option R):
 ∃ws,cpy fl 1 ⟨some ⟨b,if m=1 then 0 else 1,none⟩,m-1,m-1⟩ ⟨some ⟨b,0,none⟩,m-1,m⟩ h K=K ((m-1:Nat):Int) ws∧OB ws b (iv (ints (out.take 1++out.take (m-1))))∧(ws=h∨ws=h.put b (some (iv (ints (out.take 1++out.take (m-1)))))):=by
 unfold cpy
 by_cases c:m=1
 ·subst c
  refine⟨h,by simp,?_,.inl rfl⟩
  have:out.take 1++out.take (1-1)=out:=by simp;exact List.take_of_length_le (by omega)
  rw[this];exact ho
 ·refine⟨h.put b (some (iv (ints (out.take 1++out.take (m-1))))),?_,ho.put _,.inr rfl⟩
  rw[if_neg (by simp;omega),if_neg c]
  unfold Fg
  simp only[ho.iq]
  rw[if_pos (by simp;omega)]
  simp only[Nat.min_self,List.drop_zero,Nat.mul_one]
  unfold Abs.st
  simp only[ho.iq,if_pos bL]
  rw[if_pos (by simp;omega),if_pos (by simp;omega),if_pos (by rw[WO];exact arV _)]
  rw[RB _ _ _ (by simp;omega),WO,WO,TH,TH,←rG,←nW]
theorem acd{R:Type}(kn:bV R)(f:WQ D)(hx:OB h0 bx [.int .i64 (D.p:Int),.int .i64 (D.m:Int),.slice mod.a mod.l mod.c])(bu:SI h0 mod (ints (jt D)))
 (ha:SI h0 ta (ints a)) (hla:a.length=D.m) (Pr:Small D.p a) (hb:SI h0 tb (ints bs)) (hlb:bs.length=D.m) (hsb:Small D.p bs) (hbo:h0.next≤bo) (bL:fl≤bo) (hk:8<k):
 ∀(i g:Nat) (h:AH),i≤D.m→i<g→OB h bo (iv (ints (mulL D.p D.low a (bs.drop i))))→aj h0 h→
 ∃h',re M fl k kn g ⟨bx,0,none⟩ ta tb ⟨some ⟨bo,0,none⟩,D.m,D.m⟩ ((i:Int)-1) h=kn ⟨bx,0,none⟩ ⟨some ⟨bo,0,none⟩,D.m,D.m⟩ h'∧
  OB h' bo (iv (ints (mulL D.p D.low a bs)))∧aj h0 h':=by
 have hp:=f.p
 have hm:=f.m
 have hm1:=D.hm
 intro i
 induction i with
 |zero=>
  intro g h hi hg ho hq
  obtain⟨g,rfl⟩:∃j,g=j+1:=⟨g-1,by omega⟩
  refine⟨h,?_,by simpa using ho,hq⟩
  show ra M fl k _ _ _ ta tb _ _ h=_
  unfold ra wy
  rw[if_neg (by simp)]
 |succ i ih=>
  intro g h hi hg ho hq
  obtain⟨g,rfl⟩:∃j,g=j+1:=⟨g-1,by omega⟩
  obtain⟨out,aaU⟩:∃out,out=mulL D.p D.low a (bs.drop (i+1)):=⟨_,rfl⟩
  rw[←aaU] at ho
  have hlo:out.length=D.m:=by rw[aaU,xm (by rw[hla,D.hl]),D.hl]
  have hso:Small D.p out:=by rw[aaU];exact vA D.pp _ _ _
  have RW:i<bs.length:=by omega
  have atI:mulL D.p D.low a (bs.drop i)=jo D.p (vz out) bs[i] (0::out) D.low a:=by
   rw[List.drop_eq_getElem_cons RW,mulL,←aaU,Tt]
  have tP:=hx.quiet hq
  show ∃h',ra M fl k _ _ _ ta tb _ _ h=_∧_
  unfold ra wy
  have e1:((i+1:Nat):Int)-1=(i:Int):=by omega
  rw[e1,if_pos (by simp)]
  unfold C6 uZ sW pc
  dsimp only
  have em:bM ((D.m:Int)-1)=((D.m-1:Nat):Int):=aw _ (by omega) (by omega)
  rw[ae (tP.cell rfl),em,aU rfl (show D.m-1<D.m by omega)]
  dsimp only
  have axD:h.cell bo (0+(D.m-1))=some (.int .i64 ((vz out:Nat):Int)):=by
   refine ho.cell ?_
   rw[Nat.zero_add,List.getElem?_eq_getElem (by simp;omega)]
   simp only[iv,ints,List.getElem_map]
   rw[DM,lu _ (by omega)]
   simp only[hlo];rfl
  rw[ae axD,amb hm1 hm,ae (tP.cell rfl),em,amc hm1 hm]
  obtain⟨ws,c1,c2,c3⟩:=ahe (R:=R) bL ho hlo hm1 (fun n37 h38=>idx 1 ⟨some ⟨bo,0,none⟩,D.m,D.m⟩ 0 fun p39=>st fl h38 p39 [.int .i64 0] fun h40=>mS M fl k (j7 M fl k (re M fl k kn g) kn) ⟨bx,0,none⟩ ta tb ⟨some ⟨bo,0,none⟩,D.m,D.m⟩ (i:Int) ((vz out:Nat):Int) ((D.m:Nat):Int) 0 h40)
  rw[c1]
  have hqw:aj h0 ws:=by
   rcases c3 with rfl|rfl
   ·exact hq
   ·exact hq.put hbo _
  have au9:∀{R':Type} (K:Addr→Option R'),idx 1 (⟨some ⟨bo,0,none⟩,D.m,D.m⟩:Sl) 0 K=K ⟨bo,0,none⟩:=by
   intro R' K
   have:=aU (R:=R') (s:=⟨some ⟨bo,0,none⟩,D.m,D.m⟩) rfl (i:=0) (show 0<D.m by omega) K
   simpa using this
  rw[au9]
  have TY:(iv (ints (out.take 1++out.take (D.m-1)))).set 0 (.int .i64 0)=iv (ints ((0::out).take D.m)):=by
   obtain⟨m,hm'⟩:∃m,D.m=m+1:=⟨D.m-1,by omega⟩
   rw[hm'] at hlo ⊢
   cases out with
   |nil=>simp at hlo
   |cons x out=>simp[iv,ints]
  rw[c2.st bL (by simp;omega) rfl,TY]
  have hlen:(jo D.p (vz out) bs[i] ((0::out).take D.m) D.low a)=jo D.p (vz out) bs[i] (0::out) D.low a:=ahd _ _ _ _ _ _ _ (by rw[D.hl];omega)
  have hlt:vz out<D.p:=by
   rw[DM,lu _ (by omega)];exact hso _ (List.getElem_mem _)
  obtain⟨h1,d1,d2,d3⟩:=acb (k:=k) (bo:=bo) (j7 M fl k (re M fl k kn g) kn) f hx bu ha hla Pr hb hlb hsb hbo bL ((0::out).take D.m) (by simp;omega)
   (by intro c hc;rcases List.mem_cons.1 (List.mem_of_mem_take hc) with rfl|hc
       ·exact D.pp
       ·exact hso c hc) (vz out) i (by omega) RW D.m 0 k (ws.put bo (some (iv (ints ((0::out).take D.m))))) (by omega) (by omega)
   (by simpa using c2.put _) (hqw.put hbo _)
  rw[hlen,←atI] at d2
  obtain⟨h',f1,f2,f3⟩:=ih g h1 (by omega) (by omega) d2 d3
  refine⟨h',?_,f2,f3⟩
  unfold mS
  refine Eq.trans d1 ?_
  unfold j7
  rw[kH (by omega) (by omega)]
  exact f1
end
theorem FB{D:FD}(f:WQ D){fl:Nat}{h:AH}{mod:Sl}(bu:SI h mod (ints (jt D)))(x y:Nat)(hx:x<9223372036854775808)(hy:y<9223372036854775808)(bL:fl≤h.next):
 ∃h',M fl fn.eY [.agg ⟨[.int .i64 (D.p:Int),.int .i64 (D.m:Int),.slice mod.a mod.l mod.c]⟩,.int .i64 (x:Int),.int .i64 (y:Int)] h=some (.int .i64 ((D.mul x y:Nat):Int),h')∧aj h h':=by
 have hp:=f.p
 have hm:=f.m
 have hm1:=D.hm
 have du:=OB.alloc h [.int .i64 (D.p:Int),.int .i64 (D.m:Int),.slice mod.a mod.l mod.c]
 have z8:=aj.alloc h [.int .i64 (D.p:Int),.int .i64 (D.m:Int),.slice mod.a mod.l mod.c]
 generalize dB:h.alloc [.int .i64 (D.p:Int),.int .i64 (D.m:Int),.slice mod.a mod.l mod.c]=h1 at du z8
 obtain⟨h2,a1,a2,a3⟩:=FA (fl:=h1.next) (h:=h1) (x:=x) D.pp (show D.m≤64 by omega) hx (Nat.le_refl _)
 have lY:=z8.trans a3
 obtain⟨h3,b1,b2,b3⟩:=FA (fl:=fl) (h:=h2) (x:=y) D.pp (show D.m≤64 by omega) hy (by have:=lY.1;omega)
 have Ua:=lY.trans b3
 have ho:=OB.alloc h3 (List.replicate D.m (Value.int .i64 0))
 rw[oi] at ho
 have asC:List.replicate D.m 0=mulL D.p D.low (aN D.p D.m x) ((aN D.p D.m y).drop D.m):=by
  rw[List.drop_of_length_le (by rw[dO];omega),mulL,D.hl]
  generalize D.m=m
  induction m with
  |zero=>rfl
  |succ m ih=>rw[List.replicate_succ,fA,ih]
 have ah8:=(du.quiet a3).quiet b3
 have sa:SI h3 ⟨some ⟨h1.next,0,none⟩,D.m,D.m⟩ (ints (aN D.p D.m x)):=by
  have:=(a2.si none D.m).quiet b3
  simpa [dO] using this
 have sb:SI h3 ⟨some ⟨h2.next,0,none⟩,D.m,D.m⟩ (ints (aN D.p D.m y)):=by
  have:=b2.si none D.m
  simpa [dO] using this
 rw[asC] at ho
 obtain⟨h4,c1,c2,c3⟩:=acd (k:=20) (fl:=fl) (Et M fl 20 (fun(y6:Int) q=>some (Value.int .i64 y6,q))) f ah8 (bu.quiet Ua) sa (dO ..) (mz D.pp _ _) sb (dO ..) (mz D.pp _ _) (Nat.le_refl _) (by have:=Ua.1;omega) (by omega) D.m 20 _ (Nat.le_refl _) (by omega) ho (aj.alloc ..)
 refine⟨h4,aR (k:=20) (by decide) zR ?_,Ua.trans c3⟩
 rw[wz]
 unfold eY alE Wd cU
 rw[dB]
 dsimp only
 rw[ae (du.cell rfl),ae (du.cell rfl),ah a1]
 simp only[bB]
 rw[ae ((du.quiet a3).cell rfl),ae ((du.quiet a3).cell rfl),ah b1]
 simp only
 rw[ae (ah8.cell rfl),jb (by unfold lk;omega),oi,asC]
 rw[ae (((ah8.quiet (aj.alloc h3 _))).cell rfl),kH (by omega) (by omega)]
 unfold Wc
 refine Eq.trans c1 ?_
 unfold Et
 dsimp only
 have aBk:=ah8.quiet c3
 rw[ae (aBk.cell rfl)]
 have sv:SI h4 ⟨some ⟨h3.next,0,none⟩,D.m,D.m⟩ (ints (mulL D.p D.low (aN D.p D.m x) (aN D.p D.m y))):=by
  have:=c2.si none D.m
  have e:(ints (mulL D.p D.low (aN D.p D.m x) (aN D.p D.m y))).length=D.m:=by rw[cI];exact D.Cx x y
  rw[e] at this;exact this
 have hv:=WL (fl:=fl) sv (vA D.pp _ _ _) (by rw[show(mulL D.p D.low (aN D.p D.m x) (aN D.p D.m y)).length=D.m from D.Cx x y];have:=f.q;unfold FD.q at this;omega) (by rw[show(mulL D.p D.low (aN D.p D.m x) (aN D.p D.m y)).length=D.m from D.Cx x y];omega)
 rw[ah hv]
 rfl
end Go.Abs.P
end
