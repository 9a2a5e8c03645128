/- Shortened by a program of ours out of readable texts. -/
import Derived.Test.YtgplcfblbkmcmaaGreatQ2
import Derived.Test.YtgplcfblbkmcmaaGreatProg
import Derived.KernelRfl
section
set_option maxRecDepth 100000
set_option linter.unusedVariables false
namespace Go.Abs.P
open Go.Abs Go.Abs.CP Go.Abs.C Go.Proofs
variable{R:Type}(C:Callee)(fl k:Nat)(K:KF R)
def KJ(t4:OA)(t5:Int):List Value:=un 4 (vn t4::vi t5::un 26 [])
def Oy:aa:=.seq (.region [m 31 6,m 4 31,mc 5 0] [6,31]) (.ret)
def aiX(t6:OA):List Value:=un 6 (vn t6::un 25 [])
def Sd(t6:OA)(t18:Sl)(t19 t20:Int):List Value:=un 6 (vn t6::un 11 (t18.v::vi t19::vi t20::un 11 []))
def Oz:aa:=.seq (.region [cm 21 .lss 20 19] []) (.seq (.cond (.t 21) (kl [21]) (.seq (kl [18,19,20,21]) (.exit 0))) (.seq (.block 1 (.seq (.region [ia 22 2 18 20,oI 23 (.load (.agg [.int .i64,.slice]) (.t 22)),oI 9 (.alloc [.int .i64 0,.slice none 0 0]),sI 2 9 23] [22,23]) (.seq (.region [m 24 6,oI 25 (.load (.agg [.int .i64,.slice]) (.t 9)),oI 26 (.call (.f 141) [.t 24,.t 25] (.one (.one (.int .i64)))),m 10 26] [9,24,25,26]) (.seq (.region [m 27 10,ck 28 .neq 27 0] [27]) (.cond (.t 28) (.seq (.region [m 29 10,oI 4 (.mv (.c (.pointer none))),m 5 29] [6,10,18,19,20,28,29]) (.ret)) (kl [10,28])))))) (.region [bc 30 .add 20 1,m 20 30] [30])))
def ac8:aa:=.seq (.block 0 (.loop Oz)) Oy
def avn(cn:aa):aa:=.seq (.seq (.region [oI 2 (.box (.t 0)),oI 4 (.mv (.c (.pointer none))),mc 5 0] [0,4,5]) (.seq (.region [oI 12 (.load (.agg [.int .i64,.int .i64,.slice]) (.t 2)),oI 13 (.call (.f 75) [.t 12] (.ke [.one .l0,.one (.int .i64)])),m 11 13,ex 14 11 0,ex 15 11 1,m 6 14,m 7 15] [2,11,12,13,14,15]) (.seq (.region [m 16 7,ck 17 .neq 16 0] [7,16]) (.seq (.cond (.t 17) (.seq (.region [oI 4 (.mv (.c (.pointer none))),mc 5 1] [1,6,17]) (.ret)) (kl [17])) (.region [m 18 1,ln 19 18,mc 20 0] [1]))))) cn
def aDc:aa:=avn ac8
def avo(aI aJ:Int)(aL t1:Sl):List Value:=.agg ⟨[vi aI,vi aJ,vs aL]⟩::t1.v::un 30 []
def wA:aK:=⟨32,aDc,[.tmp 4,.tmp 5]⟩
theorem ac9:okF Tryz.prog 102 wA=true:=by kernel_rfl
def KK{R:Type}(C:Callee)(fl k:Nat)(kr:di R):wi R:=fun t6 h=>kr t6 0 h
theorem ank:(cp aiX (ce C fl k Oy K))=KK C fl k (cp KJ (K .ret)):=by kernel_rfl
def ux{R:Type}(C:Callee)(fl k:Nat)(kn:eZ R)(e0:wi R)(kr:di R):eZ R:=fun t6 t18 t19 t20 h=>if decide (t20<t19)=true then idx 2 t18 t20 fun p1=>aF .i64 h p1.block p1.off fun n2=>aT h p1.block (p1.off+1) fun s3=>bJ h [.int .i64 0,.slice none 0 0] fun b4 h5=>st fl h5 ⟨b4,0,none⟩ [vi n2,vs s3] fun h6=>aF .i64 h6 b4 0 fun n7=>aT h6 b4 1 fun s8=>aj C fl fn.m4 [.pointer t6,.agg ⟨[vi n7,vs s8]⟩] h6 fun v9 sU=>asInt .i64 v9 fun xA=>if (xA !=0)=true then kr none xA sU else kn t6 t18 t19 (av (t20+1)) sU else e0 t6 h
theorem anl:(cp Sd (ce C fl k Oz K))=ux C fl k (cp Sd (K .normal)) (cp aiX (K (.exit 0))) (cp KJ (K .ret)):=by kernel_rfl
def zI(kn:wi R)(kr:di R):Nat→eZ R
 |0=>fun _ _ _ _ _=>none
 |m+1=>ux C fl k (zI kn kr m) kn kr
theorem Xl:∀m,(cp Sd (aQ m (aW C fl k Oz 0 K)))=zI C fl k (cp aiX (K .normal)) (cp KJ (K .ret)) m
 |0=>by kernel_rfl
 |m+1=>gu (anl C fl k _) (ag (fun L=>ux C fl k L _ _) (Xl m))
def aiY(kr:di R):eZ R:=zI C fl k (KK C fl k kr) kr k
theorem ayB:(cp Sd (ce C fl k ac8 K))=aiY C fl k (cp KJ (K .ret)):=(iP (gv (Xl C fl k (bw C fl k Oy K)))).trans (ag (fun L=>zI C fl k L _ k) (iL (ank C fl k K)))
def ada{R:Type}(C:Callee)(fl k:Nat)(kx:eZ R)(kr:di R):B3 R:=fun aI aJ aL t1 h=>bJ h [vi aI,vi aJ,vs aL] fun b12 qB=>aF .i64 qB b12 0 fun Bv=>aF .i64 qB b12 1 fun qD=>aT qB b12 2 fun TR=>aj C fl fn.fB [.agg ⟨[vi Bv,vi qD,vs TR]⟩] qB fun v17 JR=>aE v17 fun l19=>ar l19 fun v20 l21=>ek v20 fun p22=>ar l21 fun v23 l24=>asInt .i64 v23 fun HU=>aM l24 (if (HU !=0)=true then kr none 1 JR else kx p22 t1 ((t1.l:Nat):Int) 0 JR)
def avp(kr:di R):B3 R:=ada C fl k (aiY C fl k kr) kr
theorem aJR(cn:aa):(cp avo (ce C fl k (avn cn) K))=ada C fl k (cp Sd (ce C fl k cn K)) (cp KJ (K .ret)):=by kernel_rfl
theorem aJS:(cp avo (ce C fl k aDc K))=avp C fl k (cp KJ (K .ret)):=(aJR C fl k K ac8).trans (ag (fun L0=>ada C fl k L0 _) (ayB C fl k K))
def c7(aw ax:Int)(ay p1:Sl)(h:AH):Option (Value×AH):=avp C fl k (fun y4 y5 q=>some (.tuple ⟨[.pointer y4,vi y5]⟩,q)) aw ax ay p1 h
theorem Ht(aw ax:Int)(ay p1:Sl)(h):aV C fl k wA [.agg ⟨[vi aw,vi ax,vs ay]⟩,vs p1] h=c7 C fl k aw ax ay p1 h:=QS (aJS C fl k (aG _)) aw ax ay p1 (by kernel_rfl) (by kernel_rfl)
def aJT(t6 t7:Sl):List Value:=un 6 (t6.v::t7.v::un 19 [])
def aDd:aa:=.seq (.region [oI 6 (.mv (.c (.slice none 0 0))),oI 7 (.mv (.c (.slice none 0 0)))] [6,7]) (.seq (.region [m 11 1,oI 12 (.call (.f 142) [.t 11] (.one (.one .slice))),m 8 12] [1,11,12]) (.seq (.region [m 14 0,m 15 8,m 16 2,oI 17 (.call (.f 143) [.t 14,.t 15,.t 16,.c (.slice none 0 0)] (.ke [.one .slice,.one (.int .i64)])),m 13 17,ex 18 13 0,ex 19 13 1,m 9 18,m 10 19] [0,2,10,13,14,15,16,17,18,19]) (.seq (.region [m 20 8,m 21 9,ln 22 21,m 23 9,ln 24 23,oI 25 (.slice 1 (.t 20) none (some (.t 22)) (some (.t 24))),m 26 9,m 6 25,m 7 26] [8,9,20,21,22,23,24,25,26]) (.ret))))
def aJU(t0:OA)(t1:Sl)(t2:Int):List Value:=vn t0::t1.v::vi t2::un 24 []
def rW:aK:=⟨27,aDd,[.tmp 6,.tmp 7]⟩
theorem Zz:okF Tryz.prog 103 rW=true:=by kernel_rfl
def aDe{R:Type}(C:Callee)(fl k:Nat)(kr:cR R):FH R:=fun t0 t1 t2 h=>aj C fl fn.m6 [vs t1] h fun v1 h2=>aX v1 fun s3=>aj C fl fn.hZ [.pointer t0,vs s3,vi t2,.slice none 0 0] h2 fun v4 h5=>aE v4 fun l6=>ar l6 fun v7 l8=>aX v7 fun s9=>ar l8 fun v10 l11=>asInt .i64 v10 fun Bu=>aM l11 (sub 1 s3 none (some ((s9.l:Nat):Int)) (some ((s9.l:Nat):Int)) fun VZ=>kr VZ s9 h5)
theorem aJV:(cp aJU (ce C fl k aDd K))=aDe C fl k (cp aJT (K .ret)):=by kernel_rfl
def je(p0:OA)(p1:Sl)(p2:Int)(h:AH):Option (Value×AH):=aDe C fl k (fun y6 y7 q=>some (.tuple ⟨[vs y6,vs y7]⟩,q)) p0 p1 p2 h
theorem DL(p0:OA)(p1:Sl)(p2:Int)(h):aV C fl k rW [.pointer p0,vs p1,vi p2] h=je C fl k p0 p1 p2 h:=tG (aJV C fl k (aG _)) p0 p1 p2 (by kernel_rfl) (by kernel_rfl)
def aaU(t4:Int):List Value:=un 4 (vi t4::un 45 [])
def OC:aa:=.seq (.region [m 49 5,m 4 49] [5,49]) (.ret)
def aiZ(t5:Int):List Value:=un 5 (vi t5::un 44 [])
abbrev Se(R:Type):=OA→Int→Int→Int→AH→Option R
def Sf(t0:OA)(t1 t5 t6:Int):List Value:=vn t0::vi t1::un 3 (vi t5::vi t6::un 43 [])
def OD:aa:=.seq (.region [m 10 1,ck 11 .gtr 10 0] [10]) (.seq (.cond (.t 11) (kl [11]) (.seq (kl [0,1,6,11]) (.exit 0))) (.block 1 (.seq (.region [m 12 5,m 13 0,oI 14 (.cQ (.t 13)),fa 15 0 14,fa 16 0 15,lj 17 16,m 18 1,m 19 0,oI 20 (.cQ (.t 19)),fa 21 0 20,fa 22 0 21,lj 23 22,bb 24 .rem 18 23,bb 25 .sub 17 24,m 26 0,oI 27 (.cQ (.t 26)),fa 28 0 27,fa 29 0 28,lj 30 29,bb 31 .rem 25 30,m 32 6,bb 33 .mul 31 32,bb 34 .add 12 33,m 5 34] [12,13,14,15,16,17,18,19,20,21,22,23,24,25,26,27,28,29,30,31,32,33,34]) (.seq (.region [m 35 6,m 36 0,oI 37 (.cQ (.t 36)),fa 38 0 37,fa 39 0 38,li 40 39,bb 41 .mul 35 40,m 6 41] [35,36,37,38,39,40,41]) (.region [m 42 1,m 43 0,oI 44 (.cQ (.t 43)),fa 45 0 44,fa 46 0 45,li 47 46,bb 48 .quo 42 47,m 1 48] [42,43,44,45,46,47,48])))))
def adb:aa:=.seq (.block 0 (.loop OD)) OC
def avq(cn:aa):aa:=.seq (.seq (.region [mc 4 0] [4]) (.seq (.region [m 7 0,m 8 1,oI 9 (.call (.f 144) [.t 7,.t 8] (.one (.one (.int .i64)))),m 1 9] [7,8,9]) (.region [mc 5 0,mc 6 1] []))) cn
def aDf:aa:=avq adb
def avr(t0:OA)(t1:Int):List Value:=vn t0::vi t1::un 48 []
def rX:aK:=⟨50,aDf,[.tmp 4]⟩
theorem ZA:okF Tryz.prog 104 rX=true:=by kernel_rfl
def U9{R:Type}(C:Callee)(fl k:Nat)(kr:ah R):ah R:=fun t5 h=>kr t5 h
theorem anm:(cp aiZ (ce C fl k OC K))=U9 C fl k (cp aaU (K .ret)):=by kernel_rfl
def uy{R:Type}(C:Callee)(fl k:Nat)(kn:Se R)(e0:ah R):Se R:=fun t0 t1 t5 t6 h=>if decide (t1>0)=true then bz (.pointer t0) fun p1=>aF .i64 h p1.block p1.off fun n2=>bz (.pointer t0) fun p3=>aF .i64 h p3.block p3.off fun n4=>j6 .rem .i64 t1 n4 fun n5=>bz (.pointer t0) fun p6=>aF .i64 h p6.block p6.off fun n7=>j6 .rem .i64 (av (n2-n5)) n7 fun n8=>bz (.pointer t0) fun p9=>aF .i64 h p9.block p9.off fun mb=>bz (.pointer t0) fun TS=>aF .i64 h TS.block TS.off fun Bu=>j6 .quo .i64 t1 Bu fun BL=>kn t0 BL (av (t5+(av (n8*t6)))) (av (t6*mb)) h else e0 t5 h
theorem ann:(cp Sf (ce C fl k OD K))=uy C fl k (cp Sf (K .normal)) (cp aiZ (K (.exit 0))):=by kernel_rfl
def zJ(kn:ah R):Nat→Se R
 |0=>fun _ _ _ _ _=>none
 |m+1=>uy C fl k (zJ kn m) kn
theorem Xm:∀m,(cp Sf (aQ m (aW C fl k OD 0 K)))=zJ C fl k (cp aiZ (K .normal)) m
 |0=>by kernel_rfl
 |m+1=>gu (ann C fl k _) (ag (fun L=>uy C fl k L _) (Xm m))
def ai0(kr:ah R):Se R:=zJ C fl k (U9 C fl k kr) k
theorem ayC:(cp Sf (ce C fl k adb K))=ai0 C fl k (cp aaU (K .ret)):=(iP (gv (Xm C fl k (bw C fl k OC K)))).trans (ag (fun L=>zJ C fl k L k) (iL (anm C fl k K)))
def ai1{R:Type}(C:Callee)(fl k:Nat)(kx:Se R)(kr:ah R):di R:=fun t0 t1 h=>aj C fl fn.gn [.pointer t0,vi t1] h fun v14 nX=>asInt .i64 v14 fun HT=>kx t0 HT 0 1 nX
def aDg(kr:ah R):di R:=ai1 C fl k (ai0 C fl k kr) kr
theorem aJW(cn:aa):(cp avr (ce C fl k (avq cn) K))=ai1 C fl k (cp Sf (ce C fl k cn K)) (cp aaU (K .ret)):=by kernel_rfl
theorem aJX:(cp avr (ce C fl k aDf K))=aDg C fl k (cp aaU (K .ret)):=(aJW C fl k K adb).trans (ag (fun L0=>ai1 C fl k L0 _) (ayC C fl k K))
def fR(p0:OA)(p1:Int)(h:AH):Option (Value×AH):=aDg C fl k (fun y4 q=>some (vi y4,q)) p0 p1 h
theorem DM(p0:OA)(p1:Int)(h):aV C fl k rX [.pointer p0,vi p1] h=fR C fl k p0 p1 h:=tF (aJX C fl k (aG _)) p0 p1 (by kernel_rfl) (by kernel_rfl)
def aJY(t2:Addr):List Value:=un 2 (vp t2::un 5 [])
def aDh:aa:=.seq (.region [oI 1 (.box (.t 0)),oI 2 (.alloc [.int .i64 0,.int .i64 0,.slice none 0 0])] [0]) (.seq (.region [fa 3 2 1,ls 4 3,oI 5 (.call (.f 118) [.t 4] (.one (.one .slice))),fa 6 2 1,sI 1 6 5] [3,4,5,6]) (.seq (.region [oI 7 (.load (.agg [.int .i64,.int .i64,.slice]) (.t 1)),sI 3 2 7] [1,7]) (.ret)))
def aJZ(aI aJ:Int)(aL:Sl):List Value:=.agg ⟨[vi aI,vi aJ,vs aL]⟩::un 7 []
def FW:aK:=⟨8,aDh,[.cell 2 (.agg [.int .i64,.int .i64,.slice])]⟩
theorem ano:okF Tryz.prog 105 FW=true:=by kernel_rfl
def aOs{R:Type}(C:Callee)(fl k:Nat)(kr:B1 R):kv R:=fun aI aJ aL h=>bJ h [vi aI,vi aJ,vs aL] fun b1 h2=>bJ h2 [.int .i64 0,.int .i64 0,.slice none 0 0] fun b3 h4=>aT h4 b1 2 fun s5=>aj C fl fn.eS [vs s5] h4 fun v6 h7=>aX v6 fun s8=>st fl h7 ⟨b1,2,none⟩ [vs s8] fun h9=>aF .i64 h9 b1 0 fun mb=>aF .i64 h9 b1 1 fun xA=>aT h9 b1 2 fun T8=>st fl h9 ⟨b3,0,none⟩ [vi mb,vi xA,vs T8] fun qB=>kr ⟨b3,0,none⟩ qB
theorem aJ0:(cp aJZ (ce C fl k aDh K))=aOs C fl k (cp aJY (K .ret)):=by kernel_rfl
def QR(aw ax:Int)(ay:Sl)(h:AH):Option (Value×AH):=aOs C fl k (fun y2 q=>aF .i64 q y2.block y2.off fun Bv=>aF .i64 q y2.block (y2.off+1) fun qD=>aT q y2.block (y2.off+1+1) fun TR=>some (.agg ⟨[vi Bv,vi qD,vs TR]⟩,q)) aw ax ay h
theorem ai2(aw ax:Int)(ay:Sl)(h):aV C fl k FW [.agg ⟨[vi aw,vi ax,vs ay]⟩] h=QR C fl k aw ax ay h:=tG (aJ0 C fl k (aG _)) aw ax ay (by kernel_rfl) (by kernel_rfl)
def aJ1(t4:Bool):List Value:=un 4 (.bool t4::un 8 [])
def aDi:aa:=.seq (.region [oI 2 (.box (.t 0)),oI 4 (.mv (.c (.bool false)))] [0,4]) (.seq (.region [m 5 1,ck 6 .geq 5 0,m 7 6,.gL 7 true [qI 8 (.mv (.t 1)),qI 9 (.load (.agg [.int .i64,.int .i64,.slice]) (.t 2)),qI 10 (.call (.f 96) [.t 9] (.one (.one (.int .i64)))),qI 11 (.cmp .lss .i64 (.t 8) (.t 10))],oI 12 (.pick (.t 7) (.t 11) (.c (.bool false))),m 4 12] [1,2,5,6,7,8,9,10,11,12]) (.ret))
def aJ2(aI aJ:Int)(aL:Sl)(t1:Int):List Value:=.agg ⟨[vi aI,vi aJ,vs aL]⟩::vi t1::un 11 []
def FX:aK:=⟨13,aDi,[.tmp 4]⟩
theorem anp:okF Tryz.prog 106 FX=true:=by kernel_rfl
def avs{R:Type}(C:Callee)(fl k:Nat)(kr:aC R):cu R:=fun aI aJ aL t1 h=>bJ h [vi aI,vi aJ,vs aL] fun b1 h2=>if decide (t1≥0)=true then aF .i64 h2 b1 0 fun n3=>aF .i64 h2 b1 1 fun n4=>aT h2 b1 2 fun s5=>aj C fl fn.mw [.agg ⟨[vi n3,vi n4,vs s5]⟩] h2 fun v6 h7=>asInt .i64 v6 fun n8=>kr (decide (t1<n8)) h7 else kr false h2
theorem aJ3:(cp aJ2 (ce C fl k aDi K))=avs C fl k (cp aJ1 (K .ret)):=by kernel_rfl
def my(aw ax:Int)(ay:Sl)(p1:Int)(h:AH):Option (Value×AH):=avs C fl k (fun y4 q=>some (.bool y4,q)) aw ax ay p1 h
theorem ai3(aw ax:Int)(ay:Sl)(p1:Int)(h):aV C fl k FX [.agg ⟨[vi aw,vi ax,vs ay]⟩,vi p1] h=my C fl k aw ax ay p1 h:=QS (aJ3 C fl k (aG _)) aw ax ay p1 (by kernel_rfl) (by kernel_rfl)
def aJ4(t4:Bool):List Value:=un 4 (.bool t4::un 10 [])
def aDj:aa:=.seq (.region [oI 4 (.mv (.c (.bool false)))] [4]) (.seq (.region [m 5 1,ck 6 .geq 5 0,m 7 6,.gL 7 true [qI 8 (.mv (.t 1)),qI 9 (.mv (.t 0)),qI 10 (.cQ (.t 9)),qI 11 (.cW 3 (.t 10)),qI 12 (.load (.one (.int .i64)) (.t 11)),qI 13 (.cmp .lss .i64 (.t 8) (.t 12))],oI 14 (.pick (.t 7) (.t 13) (.c (.bool false))),m 4 14] [0,1,5,6,7,8,9,10,11,12,13,14]) (.ret))
def aJ5(t0:OA)(t1:Int):List Value:=vn t0::vi t1::un 13 []
def wB:aK:=⟨15,aDj,[.tmp 4]⟩
theorem ade:okF Tryz.prog 109 wB=true:=by kernel_rfl
def aDk{R:Type}(C:Callee)(fl k:Nat)(kr:aC R):di R:=fun t0 t1 h=>if decide (t1≥0)=true then bz (.pointer t0) fun p1=>aF .i64 h p1.block (p1.off+3) fun n2=>kr (decide (t1<n2)) h else kr false h
theorem aJ6:(cp aJ5 (ce C fl k aDj K))=aDk C fl k (cp aJ4 (K .ret)):=by kernel_rfl
def mz(p0:OA)(p1:Int)(h:AH):Option (Value×AH):=aDk C fl k (fun y4 q=>some (.bool y4,q)) p0 p1 h
theorem Hu(p0:OA)(p1:Int)(h):aV C fl k wB [.pointer p0,vi p1] h=mz C fl k p0 p1 h:=tF (aJ6 C fl k (aG _)) p0 p1 (by kernel_rfl) (by kernel_rfl)
def KL(t4:Int):List Value:=un 4 (vi t4::un 13 [])
def OE:aa:=.seq (.region [mc 4 0] []) (.ret)
def ai4:List Value:=un 18 []
def Sg(t0:OA)(t7:Sl)(t8 t9:Int):List Value:=vn t0::un 6 (t7.v::vi t8::vi t9::un 8 [])
def OF:aa:=.seq (.region [cm 10 .lss 9 8] []) (.seq (.cond (.t 10) (kl [10]) (.seq (kl [0,7,8,9,10]) (.exit 0))) (.seq (.block 1 (.seq (.region [ia 11 1 7 9,li 12 11,m 6 12] [11,12]) (.seq (.region [m 13 0,m 14 6,oI 15 (.call (.f 109) [.t 13,.t 14] (.one (.one .bool))),no 16 15] [6,13,14,15]) (.cond (.t 16) (.seq (.region [mc 4 2] [0,7,8,9,16]) (.ret)) (kl [16]))))) (.region [bc 17 .add 9 1,m 9 17] [17])))
def adf:aa:=.seq (.block 0 (.loop OF)) OE
def avt(cn:aa):aa:=.seq (.seq (.region [mc 4 0] [4]) (.region [m 7 1,ln 8 7,mc 9 0] [1])) cn
def aDl:aa:=avt adf
def avu(t0:OA)(t1:Sl):List Value:=vn t0::t1.v::un 16 []
def nC:aK:=⟨18,aDl,[.tmp 4]⟩
theorem Sh:okF Tryz.prog 110 nC=true:=by kernel_rfl
def Va{R:Type}(C:Callee)(fl k:Nat)(kr:ah R):au R:=fun h=>kr 0 h
theorem anq:(cp ai4 (ce C fl k OE K))=Va C fl k (cp KL (K .ret)):=by kernel_rfl
def uz{R:Type}(C:Callee)(fl k:Nat)(kn:eZ R)(e0:au R)(kr:ah R):eZ R:=fun t0 t7 t8 t9 h=>if decide (t9<t8)=true then idx 1 t7 t9 fun p1=>aF .i64 h p1.block p1.off fun n2=>aj C fl fn.mz [.pointer t0,vi n2] h fun v3 h4=>asBool v3 fun b5=>if (!b5)=true then kr 2 h4 else kn t0 t7 t8 (av (t9+1)) h4 else e0 h
theorem anr:(cp Sg (ce C fl k OF K))=uz C fl k (cp Sg (K .normal)) (cp ai4 (K (.exit 0))) (cp KL (K .ret)):=by kernel_rfl
def DN(kn:au R)(kr:ah R):Nat→eZ R
 |0=>fun _ _ _ _ _=>none
 |m+1=>uz C fl k (DN kn kr m) kn kr
theorem Xn:∀m,(cp Sg (aQ m (aW C fl k OF 0 K)))=DN C fl k (cp ai4 (K .normal)) (cp KL (K .ret)) m
 |0=>by kernel_rfl
 |m+1=>gu (anr C fl k _) (ag (fun L=>uz C fl k L _ _) (Xn m))
def ai5(kr:ah R):eZ R:=DN C fl k (Va C fl k kr) kr k
theorem ayD:(cp Sg (ce C fl k adf K))=ai5 C fl k (cp KL (K .ret)):=(iP (gv (Xn C fl k (bw C fl k OE K)))).trans (ag (fun L=>DN C fl k L _ k) (iL (anq C fl k K)))
def ai6{R:Type}(C:Callee)(fl k:Nat)(kx:eZ R)(kr:ah R):eh R:=fun t0 t1 h=>kx t0 t1 ((t1.l:Nat):Int) 0 h
def aDm(kr:ah R):eh R:=ai6 C fl k (ai5 C fl k kr) kr
theorem aJ7(cn:aa):(cp avu (ce C fl k (avt cn) K))=ai6 C fl k (cp Sg (ce C fl k cn K)) (cp KL (K .ret)):=by kernel_rfl
theorem aJ8:(cp avu (ce C fl k aDl K))=aDm C fl k (cp KL (K .ret)):=(aJ7 C fl k K adf).trans (ag (fun L0=>ai6 C fl k L0 _) (ayD C fl k K))
def j8(p0:OA)(p1:Sl)(h:AH):Option (Value×AH):=aDm C fl k (fun y4 q=>some (vi y4,q)) p0 p1 h
theorem AN(p0:OA)(p1:Sl)(h):aV C fl k nC [.pointer p0,vs p1] h=j8 C fl k p0 p1 h:=tF (aJ8 C fl k (aG _)) p0 p1 (by kernel_rfl) (by kernel_rfl)
def aaV(t8:Sl):List Value:=un 8 (t8.v::un 24 [])
def OG:aa:=.seq (.region [m 32 9,m 8 32] [9,32]) (.ret)
def Si(t9:Sl):List Value:=un 9 (t9.v::un 23 [])
abbrev fW(R:Type):=OA→Sl→Sl→Sl→Int→Int→AH→Option R
def wC(t0:OA)(t2 t9 t14:Sl)(t15 t16:Int):List Value:=vn t0::un 1 (t2.v::un 6 (t9.v::un 4 (t14.v::vi t15::vi t16::un 16 [])))
def FY:aa:=.region [bc 31 .add 16 1,m 16 31] [31]
def Xo(cn:aa):aa:=.seq (.seq (.region [cm 17 .lss 16 15] []) (.seq (.cond (.t 17) (kl [17]) (.seq (kl [0,2,14,15,16,17]) (.exit 0))) (.block 1 (.seq (.region [m 18 16,ia 19 1 14 16,li 20 19,m 10 18,m 11 20] [18,19,20]) (.seq (.region [m 21 11,ck 22 .neq 21 0] [21]) (.cond (.t 22) (.region [m 23 0,m 24 9,m 25 11,m 26 2,m 27 10,ia 28 1 26 27,ls 29 28,oI 30 (.call (.f 145) [.t 23,.t 24,.t 25,.t 29] (.ke []))] [10,11,22,23,24,25,26,27,28,29,30]) (kl [10,11,22]))))))) cn
def OH:aa:=Xo FY
def adg:aa:=.seq (.block 0 (.loop OH)) OG
def avv(cn:aa):aa:=.seq (.seq (.region [oI 8 (.mv (.c (.slice none 0 0)))] [8]) (.seq (.region [m 12 3,oI 13 (.dj 8 [.int .i64 0] (.t 12) (.t 12)),m 9 13] [3,12,13]) (.region [m 14 1,ln 15 14,mc 16 0] [1]))) cn
def aDn:aa:=avv adg
abbrev Sj(R:Type):=OA→Sl→Sl→Int→AH→Option R
def avw(t0:OA)(t1 t2:Sl)(t3:Int):List Value:=vn t0::t1.v::t2.v::vi t3::un 29 []
def zi:aK:=⟨33,aDn,[.tmp 8]⟩
theorem afm:okF Tryz.prog 111 zi=true:=by kernel_rfl
def ag5{R:Type}(C:Callee)(fl k:Nat)(kr:ab R):ab R:=fun t9 h=>kr t9 h
theorem ans:(cp Si (ce C fl k OG K))=ag5 C fl k (cp aaV (K .ret)):=by kernel_rfl
def Xp{R:Type}(C:Callee)(fl k:Nat)(kn:fW R)(e0:ab R):fW R:=fun t0 t2 t9 t14 t15 t16 h=>kn t0 t2 t9 t14 t15 (av (t16+1)) h
theorem afn:(cp wC (ce C fl k FY K))=Xp C fl k (cp wC (K .normal)) (cp Si (K (.exit 0))):=by kernel_rfl
def OJ{R:Type}(C:Callee)(fl k:Nat)(kx:fW R)(kn:fW R)(e0:ab R):fW R:=fun t0 t2 t9 t14 t15 t16 h=>if decide (t16<t15)=true then idx 1 t14 t16 fun p1=>aF .i64 h p1.block p1.off fun n2=>if (n2 !=0)=true then idx 1 t2 t16 fun p3=>aT h p3.block p3.off fun s4=>aj C fl fn.oX [.pointer t0,vs t9,vi n2,vs s4] h fun v5 h6=>aE v5 fun l7=>aM l7 (kx t0 t2 t9 t14 t15 t16 h6) else kx t0 t2 t9 t14 t15 t16 h else e0 t9 h
def Vb(kn:fW R)(e0:ab R):fW R:=OJ C fl k (Xp C fl k kn e0) kn e0
theorem ant(cn:aa):(cp wC (ce C fl k (Xo cn) K))=OJ C fl k (cp wC (ce C fl k cn K)) (cp wC (K .normal)) (cp Si (K (.exit 0))):=by kernel_rfl
theorem anu:(cp wC (ce C fl k OH K))=Vb C fl k (cp wC (K .normal)) (cp Si (K (.exit 0))):=(ant C fl k K FY).trans (ag (fun L0=>OJ C fl k L0 _ _) (afn C fl k K))
def KM(kn:ab R):Nat→fW R
 |0=>fun _ _ _ _ _ _ _=>none
 |m+1=>Vb C fl k (KM kn m) kn
theorem Xq:∀m,(cp wC (aQ m (aW C fl k OH 0 K)))=KM C fl k (cp Si (K .normal)) m
 |0=>by kernel_rfl
 |m+1=>gu (anu C fl k _) (ag (fun L=>Vb C fl k L _) (Xq m))
def avx(kr:ab R):fW R:=KM C fl k (ag5 C fl k kr) k
theorem ayE:(cp wC (ce C fl k adg K))=avx C fl k (cp aaV (K .ret)):=(iP (gv (Xq C fl k (bw C fl k OG K)))).trans (ag (fun L=>KM C fl k L k) (iL (ans C fl k K)))
def arO{R:Type}(C:Callee)(fl k:Nat)(kx:fW R)(kr:ab R):Sj R:=fun t0 t1 t2 t3 h=>qF 8 [.int .i64 0] t3 t3 h fun s8 h9=>kx t0 t2 s8 t1 ((t1.l:Nat):Int) 0 h9
def aOt(kr:ab R):Sj R:=arO C fl k (avx C fl k kr) kr
theorem aJ9(cn:aa):(cp avw (ce C fl k (avv cn) K))=arO C fl k (cp wC (ce C fl k cn K)) (cp aaV (K .ret)):=by kernel_rfl
theorem aKa:(cp avw (ce C fl k aDn K))=aOt C fl k (cp aaV (K .ret)):=(aJ9 C fl k K adg).trans (ag (fun L0=>arO C fl k L0 _) (ayE C fl k K))
def E0(p0:OA)(p1 p2:Sl)(p3:Int)(h:AH):Option (Value×AH):=aOt C fl k (fun y8 q=>some (vs y8,q)) p0 p1 p2 p3 h
theorem adh(p0:OA)(p1 p2:Sl)(p3:Int)(h):aV C fl k zi [.pointer p0,vs p1,vs p2,vi p3] h=E0 C fl k p0 p1 p2 p3 h:=QS (aKa C fl k (aG _)) p0 p1 p2 p3 (by kernel_rfl) (by kernel_rfl)
def KN(t2:Bool):List Value:=un 2 (.bool t2::un 43 [])
def OK:aa:=.seq (.region [oI 2 (.mv (.c (.bool true)))] []) (.ret)
def ai7:List Value:=un 46 []
def Sk(t1:Addr)(t31:Sl)(t32 t33:Int):List Value:=un 1 (vp t1::un 29 (t31.v::vi t32::vi t33::un 12 []))
def OL:aa:=.seq (.region [cm 34 .lss 33 32] []) (.seq (.cond (.t 34) (kl [34]) (.seq (kl [1,31,32,33,34]) (.exit 0))) (.seq (.block 1 (.seq (.region [ia 35 1 31 33,li 36 35,m 4 36] [35,36]) (.seq (.region [m 37 4,ck 38 .lss 37 0,m 39 38,.gL 39 false [qI 40 (.mv (.t 4)),qI 41 (.cW 0 (.t 1)),qI 42 (.load (.one (.int .i64)) (.t 41)),qI 43 (.cmp .geq .i64 (.t 40) (.t 42))],oI 44 (.pick (.t 39) (.c (.bool true)) (.t 43))] [4,37,38,39,40,41,42,43]) (.cond (.t 44) (.seq (.region [oI 2 (.mv (.c (.bool false)))] [1,31,32,33,44]) (.ret)) (kl [44]))))) (.region [bc 45 .add 33 1,m 33 45] [45])))
def adi:aa:=.seq (.block 0 (.loop OL)) OK
def avy(cn:aa):aa:=.seq (.seq (.region [oI 1 (.box (.t 0)),oI 2 (.mv (.c (.bool false)))] [0,2]) (.seq (.region [fa 5 0 1,li 6 5,fa 7 1 1,li 8 7,oI 9 (.call (.f 113) [.t 6,.t 8] (.one (.one (.int .i64)))),ck 10 .eql 9 0,m 11 10,.gL 11 false [qI 12 (.cW 0 (.t 1)),qI 13 (.load (.one (.int .i64)) (.t 12)),qI 14 (.call (.f 146) [.t 13] (.one (.one .bool))),qI 15 (.not (.t 14))],oI 16 (.pick (.t 11) (.c (.bool true)) (.t 15))] [5,6,7,8,9,10,11,12,13,14,15]) (.seq (.cond (.t 16) (.seq (.region [oI 2 (.mv (.c (.bool false)))] [1,16]) (.ret)) (kl [16])) (.seq (.region [fa 17 1 1,li 18 17,ck 19 .eql 18 1] [17,18]) (.seq (.cond (.t 19) (.seq (.region [fa 20 2 1,ls 21 20,ln 22 21,ck 23 .eql 22 0,m 2 23] [1,19,20,21,22,23]) (.ret)) (kl [19])) (.seq (.region [fa 24 2 1,ls 25 24,ln 26 25,fa 27 1 1,li 28 27,cm 29 .neq 26 28] [24,25,26,27,28]) (.seq (.cond (.t 29) (.seq (.region [oI 2 (.mv (.c (.bool false)))] [1,29]) (.ret)) (kl [29])) (.region [fa 30 2 1,ls 31 30,ln 32 31,mc 33 0] [30])))))))) cn
def aDo:aa:=avy adi
def avz(aI aJ:Int)(aL:Sl):List Value:=.agg ⟨[vi aI,vi aJ,vs aL]⟩::un 45 []
def wD:aK:=⟨46,aDo,[.tmp 2]⟩
theorem adj:okF Tryz.prog 112 wD=true:=by kernel_rfl
def Vc{R:Type}(C:Callee)(fl k:Nat)(kr:aC R):au R:=fun h=>kr true h
theorem anv:(cp ai7 (ce C fl k OK K))=Vc C fl k (cp KN (K .ret)):=by kernel_rfl
def uA{R:Type}(C:Callee)(fl k:Nat)(kn:bV R)(e0:au R)(kr:aC R):bV R:=fun t1 t31 t32 t33 h=>if decide (t33<t32)=true then idx 1 t31 t33 fun p1=>aF .i64 h p1.block p1.off fun n2=>if decide (n2<0)=false then aF .i64 h t1.block t1.off fun n3=>if decide (n2≥n3)=true then kr false h else kn t1 t31 t32 (av (t33+1)) h else kr false h else e0 h
theorem anw:(cp Sk (ce C fl k OL K))=uA C fl k (cp Sk (K .normal)) (cp ai7 (K (.exit 0))) (cp KN (K .ret)):=by kernel_rfl
def DO(kn:au R)(kr:aC R):Nat→bV R
 |0=>fun _ _ _ _ _=>none
 |m+1=>uA C fl k (DO kn kr m) kn kr
theorem Xr:∀m,(cp Sk (aQ m (aW C fl k OL 0 K)))=DO C fl k (cp ai7 (K .normal)) (cp KN (K .ret)) m
 |0=>by kernel_rfl
 |m+1=>gu (anw C fl k _) (ag (fun L=>uA C fl k L _ _) (Xr m))
def ai8(kr:aC R):bV R:=DO C fl k (Vc C fl k kr) kr k
theorem ayF:(cp Sk (ce C fl k adi K))=ai8 C fl k (cp KN (K .ret)):=(iP (gv (Xr C fl k (bw C fl k OK K)))).trans (ag (fun L=>DO C fl k L _ k) (iL (anv C fl k K)))
def ai9{R:Type}(C:Callee)(fl k:Nat)(kx:bV R)(kr:aC R):kv R:=fun aI aJ aL h=>bJ h [vi aI,vi aJ,vs aL] fun b4 h5=>aF .i64 h5 b4 0 fun n6=>aF .i64 h5 b4 1 fun n7=>aj C fl fn.jf [vi n6,vi n7] h5 fun v8 h9=>asInt .i64 v8 fun mb=>if (mb==0)=false then aF .i64 h9 b4 0 fun xA=>aj C fl fn.la [vi xA] h9 fun V3 qB=>asBool V3 fun GM=>if (!GM)=true then kr false qB else aF .i64 qB b4 1 fun qD=>if (qD==1)=true then aT qB b4 2 fun TR=>kr (((TR.l:Nat):Int)==0) qB else aT qB b4 2 fun s17=>aF .i64 qB b4 1 fun JT=>if (((s17.l:Nat):Int) !=JT)=true then kr false qB else aT qB b4 2 fun s19=>kx ⟨b4,0,none⟩ s19 ((s19.l:Nat):Int) 0 qB else kr false h9
def aDp(kr:aC R):kv R:=ai9 C fl k (ai8 C fl k kr) kr
theorem aKb(cn:aa):(cp avz (ce C fl k (avy cn) K))=ai9 C fl k (cp Sk (ce C fl k cn K)) (cp KN (K .ret)):=by kernel_rfl
theorem aKc:(cp avz (ce C fl k aDo K))=aDp C fl k (cp KN (K .ret)):=(aKb C fl k K adi).trans (ag (fun L0=>ai9 C fl k L0 _) (ayF C fl k K))
def mA(aw ax:Int)(ay:Sl)(h:AH):Option (Value×AH):=aDp C fl k (fun y2 q=>some (.bool y2,q)) aw ax ay h
theorem Hv(aw ax:Int)(ay:Sl)(h):aV C fl k wD [.agg ⟨[vi aw,vi ax,vs ay]⟩] h=mA C fl k aw ax ay h:=tG (aKc C fl k (aG _)) aw ax ay (by kernel_rfl) (by kernel_rfl)
def KO(t4:Int):List Value:=un 4 (vi t4::un 25 [])
def OM:aa:=.seq (.region [m 29 5,m 4 29] [5,29]) (.ret)
def aja(t5:Int):List Value:=un 5 (vi t5::un 24 [])
abbrev Sm(R:Type):=Int→Int→Int→Int→AH→Option R
def Sn(t0 t5 t20 t21:Int):List Value:=vi t0::un 4 (vi t5::un 14 (vi t20::vi t21::un 8 []))
def ON:aa:=.seq (.region [cm 22 .lss 21 20] []) (.seq (.cond (.t 22) (kl [22]) (.seq (kl [0,20,21,22]) (.exit 0))) (.seq (.block 1 (.seq (.region [m 23 5,m 24 0,bb 25 .mul 23 24,m 5 25] [23,24,25]) (.seq (.region [m 26 5,ck 27 .gtr 26 256] [26]) (.cond (.t 27) (.seq (.region [mc 4 0] [0,5,20,21,27]) (.ret)) (kl [27]))))) (.region [bc 28 .add 21 1,m 21 28] [28])))
def adk:aa:=.seq (.block 0 (.loop ON)) OM
def avA(cn:aa):aa:=.seq (.seq (.region [mc 4 0] [4]) (.seq (.region [m 6 0,ck 7 .lss 6 2,m 8 7,.gL 8 false [qI 9 (.mv (.t 0)),qI 10 (.cmp .gtr .i64 (.t 9) (ci 256))],oI 11 (.pick (.t 8) (.c (.bool true)) (.t 10)),m 12 11,.gL 12 false [qI 13 (.mv (.t 1)),qI 14 (.cmp .lss .i64 (.t 13) (ci 1))],oI 15 (.pick (.t 12) (.c (.bool true)) (.t 14)),m 16 15,.gL 16 false [qI 17 (.mv (.t 1)),qI 18 (.cmp .gtr .i64 (.t 17) (ci 8))],oI 19 (.pick (.t 16) (.c (.bool true)) (.t 18))] [6,7,8,9,10,11,12,13,14,15,16,17,18]) (.seq (.cond (.t 19) (.seq (.region [mc 4 0] [0,1,19]) (.ret)) (kl [19])) (.seq (.region [mc 5 1] []) (.region [m 20 1,mc 21 0] [1]))))) cn
def aDq:aa:=avA adk
def avB(t0 t1:Int):List Value:=vi t0::vi t1::un 28 []
def wE:aK:=⟨30,aDq,[.tmp 4]⟩
theorem adl:okF Tryz.prog 113 wE=true:=by kernel_rfl
def Vd{R:Type}(C:Callee)(fl k:Nat)(kr:ah R):ah R:=fun t5 h=>kr t5 h
theorem anx:(cp aja (ce C fl k OM K))=Vd C fl k (cp KO (K .ret)):=by kernel_rfl
def uB{R:Type}(C:Callee)(fl k:Nat)(kn:Sm R)(e0:ah R)(kr:ah R):Sm R:=fun t0 t5 t20 t21 h=>if decide (t21<t20)=true then if decide (av (t5*t0)>256)=true then kr 0 h else kn t0 (av (t5*t0)) t20 (av (t21+1)) h else e0 t5 h
theorem anz:(cp Sn (ce C fl k ON K))=uB C fl k (cp Sn (K .normal)) (cp aja (K (.exit 0))) (cp KO (K .ret)):=by kernel_rfl
def DP(kn:ah R)(kr:ah R):Nat→Sm R
 |0=>fun _ _ _ _ _=>none
 |m+1=>uB C fl k (DP kn kr m) kn kr
theorem Xs:∀m,(cp Sn (aQ m (aW C fl k ON 0 K)))=DP C fl k (cp aja (K .normal)) (cp KO (K .ret)) m
 |0=>by kernel_rfl
 |m+1=>gu (anz C fl k _) (ag (fun L=>uB C fl k L _ _) (Xs m))
def avC(kr:ah R):Sm R:=DP C fl k (Vd C fl k kr) kr k
theorem ayG:(cp Sn (ce C fl k adk K))=avC C fl k (cp KO (K .ret)):=(iP (gv (Xs C fl k (bw C fl k OM K)))).trans (ag (fun L=>DP C fl k L _ k) (iL (anx C fl k K)))
def ajb{R:Type}(C:Callee)(fl k:Nat)(kx:Sm R)(kr:ah R):cL R:=fun t0 t1 h=>if decide (t0<2)=false then if decide (t0>256)=false then if decide (t1<1)=false then if decide (t1>8)=true then kr 0 h else kx t0 1 t1 0 h else kr 0 h else kr 0 h else kr 0 h
def aDr(kr:ah R):cL R:=ajb C fl k (avC C fl k kr) kr
theorem aKd(cn:aa):(cp avB (ce C fl k (avA cn) K))=ajb C fl k (cp Sn (ce C fl k cn K)) (cp KO (K .ret)):=by kernel_rfl
theorem aKe:(cp avB (ce C fl k aDq K))=aDr C fl k (cp KO (K .ret)):=(aKd C fl k K adk).trans (ag (fun L0=>ajb C fl k L0 _) (ayG C fl k K))
def jf(p0 p1:Int)(h:AH):Option (Value×AH):=aDr C fl k (fun y4 q=>some (vi y4,q)) p0 p1 h
theorem Hw(p0 p1:Int)(h):aV C fl k wE [vi p0,vi p1] h=jf C fl k p0 p1 h:=tF (aKe C fl k (aG _)) p0 p1 (by kernel_rfl) (by kernel_rfl)
def Ca(t4:Sl):List Value:=un 4 (t4.v::un 28 [])
def OO:aa:=.seq (.region [oI 4 (.mv (.c (.slice none 0 0)))] []) (.ret)
def So:List Value:=un 33 []
def wF(t1:Int)(t2:Addr)(t5:Int):List Value:=un 1 (vi t1::vp t2::un 2 (vi t5::un 27 []))
def FZ:aa:=.region [m 10 5,bc 11 .add 10 1,m 5 11] [10,11]
def Xt(cn:aa):aa:=.seq (.seq (.region [m 7 5,m 8 1,cm 9 .lss 7 8] [7,8]) (.seq (.cond (.t 9) (kl [9]) (.seq (kl [1,2,5,9]) (.exit 0))) (.block 1 (.seq (.region [oI 12 (.load (.agg [.int .i64,.int .i64,.slice]) (.t 2)),m 13 1,m 14 5,oI 15 (.call (.f 147) [.t 12,.t 13,.t 14] (.one (.one .slice))),m 6 15] [12,13,14,15]) (.seq (.region [m 16 6,ln 17 16,m 18 1,bc 19 .sub 18 1,cm 20 .eql 17 19,m 21 20,.gL 21 true [qJ 22 (.load (.agg [.int .i64,.int .i64,.slice]) (.t 2)),qI 23 (.mv (.t 6)),qI 24 (.mv (.t 1)),qI 25 (.bin .sub .i64 (.t 24) (ci 2)),qI 26 (.eE 1 (.t 23) (.t 25)),qJ 27 (.load (.one (.int .i64)) (.t 26)),qI 28 (.mv (.t 5)),qI 29 (.call (.f 148) [.t 22,.t 27,.t 28] (.one (.one (.int .i64)))),qI 30 (.cmp .eql .i64 (.t 29) (ci 1))],oI 31 (.pick (.t 21) (.t 30) (.c (.bool false)))] [16,17,18,19,20,21,22,23,24,25,26,27,28,29,30]) (.cond (.t 31) (.seq (.region [m 32 6,m 4 32] [1,2,5,6,31,32]) (.ret)) (kl [6,31]))))))) cn
def OP:aa:=Xt FZ
def adm:aa:=.seq (.block 0 (.loop OP)) OO
def avD(cn:aa):aa:=.seq (.seq (.region [oI 2 (.box (.t 0)),oI 4 (.mv (.c (.slice none 0 0)))] [0,4]) (.region [mc 5 1] [])) cn
def aDs:aa:=avD adm
def avE(aI aJ:Int)(aL:Sl)(t1:Int):List Value:=.agg ⟨[vi aI,vi aJ,vs aL]⟩::vi t1::un 31 []
def lR:aK:=⟨33,aDs,[.tmp 4]⟩
theorem OQ:okF Tryz.prog 114 lR=true:=by kernel_rfl
def KP{R:Type}(C:Callee)(fl k:Nat)(kr:ab R):au R:=fun h=>kr ⟨none,0,0⟩ h
theorem anA:(cp So (ce C fl k OO K))=KP C fl k (cp Ca (K .ret)):=by kernel_rfl
def xt{R:Type}(C:Callee)(fl k:Nat)(kn:bW R)(e0:au R)(kr:ab R):bW R:=fun t1 t2 t5 h=>kn t1 t2 (av (t5+1)) h
theorem afo:(cp wF (ce C fl k FZ K))=xt C fl k (cp wF (K .normal)) (cp So (K (.exit 0))) (cp Ca (K .ret)):=by kernel_rfl
def AO{R:Type}(C:Callee)(fl k:Nat)(kx:bW R)(kn:bW R)(e0:au R)(kr:ab R):bW R:=fun t1 t2 t5 h=>if decide (t5<t1)=true then aF .i64 h t2.block t2.off fun n1=>aF .i64 h t2.block (t2.off+1) fun n2=>aT h t2.block (t2.off+1+1) fun s3=>aj C fl fn.m7 [.agg ⟨[vi n1,vi n2,vs s3]⟩,vi t1,vi t5] h fun v4 h5=>aX v4 fun s6=>if (((s6.l:Nat):Int)==av (t1-1))=true then aF .i64 h5 t2.block t2.off fun n7=>aF .i64 h5 t2.block (t2.off+1) fun n8=>aT h5 t2.block (t2.off+1+1) fun s9=>idx 1 s6 (av (t1-2)) fun Qo=>aF .i64 h5 Qo.block Qo.off fun xA=>aj C fl fn.gp [.agg ⟨[vi n7,vi n8,vs s9]⟩,vi xA,vi t5] h5 fun V3 qB=>asInt .i64 V3 fun Bv=>if (Bv==1)=true then kr s6 qB else kx t1 t2 t5 qB else kx t1 t2 t5 h5 else e0 h
def uC(kn:bW R)(e0:au R)(kr:ab R):bW R:=AO C fl k (xt C fl k kn e0 kr) kn e0 kr
theorem anB(cn:aa):(cp wF (ce C fl k (Xt cn) K))=AO C fl k (cp wF (ce C fl k cn K)) (cp wF (K .normal)) (cp So (K (.exit 0))) (cp Ca (K .ret)):=by kernel_rfl
theorem anC:(cp wF (ce C fl k OP K))=uC C fl k (cp wF (K .normal)) (cp So (K (.exit 0))) (cp Ca (K .ret)):=(anB C fl k K FZ).trans (ag (fun L0=>AO C fl k L0 _ _ _) (afo C fl k K))
def j9(kn:au R)(kr:ab R):Nat→bW R
 |0=>fun _ _ _ _=>none
 |m+1=>uC C fl k (j9 kn kr m) kn kr
theorem Xu:∀m,(cp wF (aQ m (aW C fl k OP 0 K)))=j9 C fl k (cp So (K .normal)) (cp Ca (K .ret)) m
 |0=>by kernel_rfl
 |m+1=>gu (anC C fl k _) (ag (fun L=>uC C fl k L _ _) (Xu m))
def avF(kr:ab R):bW R:=j9 C fl k (KP C fl k kr) kr k
theorem ayH:(cp wF (ce C fl k adm K))=avF C fl k (cp Ca (K .ret)):=(iP (gv (Xu C fl k (bw C fl k OO K)))).trans (ag (fun L=>j9 C fl k L _ k) (iL (anA C fl k K)))
def ajc{R:Type}(C:Callee)(fl k:Nat)(kx:bW R)(kr:ab R):cu R:=fun aI aJ aL t1 h=>bJ h [vi aI,vi aJ,vs aL] fun b15 GN=>kx t1 ⟨b15,0,none⟩ 1 GN
def aDt(kr:ab R):cu R:=ajc C fl k (avF C fl k kr) kr
theorem aKf(cn:aa):(cp avE (ce C fl k (avD cn) K))=ajc C fl k (cp wF (ce C fl k cn K)) (cp Ca (K .ret)):=by kernel_rfl
theorem aKg:(cp avE (ce C fl k aDs K))=aDt C fl k (cp Ca (K .ret)):=(aKf C fl k K adm).trans (ag (fun L0=>ajc C fl k L0 _) (ayH C fl k K))
def cX(aw ax:Int)(ay:Sl)(p1:Int)(h:AH):Option (Value×AH):=aDt C fl k (fun y4 q=>some (vs y4,q)) aw ax ay p1 h
theorem yr(aw ax:Int)(ay:Sl)(p1:Int)(h):aV C fl k lR [.agg ⟨[vi aw,vi ax,vs ay]⟩,vi p1] h=cX C fl k aw ax ay p1 h:=QS (aKg C fl k (aG _)) aw ax ay p1 (by kernel_rfl) (by kernel_rfl)
def KQ(t4:Int):List Value:=un 4 (vi t4::un 14 [])
def OR:aa:=.seq (.region [oI 4 (.mv (ci (-1)))] []) (.ret)
def ajd:List Value:=un 19 []
def Sr(t0:Sl)(t1:Value)(t7 t8:Int):List Value:=t0.v::t1::un 5 (vi t7::vi t8::un 10 [])
def OS:aa:=.seq (.region [cm 9 .lss 8 7] []) (.seq (.cond (.t 9) (kl [9]) (.seq (kl [0,1,7,8,9]) (.exit 0))) (.seq (.block 1 (.seq (.region [m 10 8,m 5 10] [10]) (.seq (.region [m 11 1,m 12 0,m 13 5,ia 14 1 12 13,ls 15 14,oI 16 (.call (.t 11) [.t 15] (.one (.one .bool)))] [11,12,13,14,15]) (.cond (.t 16) (.seq (.region [m 17 5,m 4 17] [0,1,5,7,8,16,17]) (.ret)) (kl [5,16]))))) (.region [bc 18 .add 8 1,m 8 18] [18])))
def adn:aa:=.seq (.block 0 (.loop OS)) OR
def avG(cn:aa):aa:=.seq (.seq (.region [mc 4 0] [4]) (.region [m 6 0,ln 7 6,mc 8 0] [6])) cn
def aDu:aa:=avG adn
def avH(t0:Sl)(t1:Value):List Value:=t0.v::t1::un 17 []
def gU:aK:=⟨19,aDu,[.tmp 4]⟩
theorem DQ:okF Tryz.prog 115 gU=true:=by kernel_rfl
def Ve{R:Type}(C:Callee)(fl k:Nat)(kr:ah R):au R:=fun h=>kr (-1) h
theorem anD:(cp ajd (ce C fl k OR K))=Ve C fl k (cp KQ (K .ret)):=by kernel_rfl
def uD{R:Type}(C:Callee)(fl k:Nat)(kn:qZ R)(e0:au R)(kr:ah R):qZ R:=fun t0 t1 t7 t8 h=>if decide (t8<t7)=true then idx 1 t0 t8 fun p1=>aT h p1.block p1.off fun s2=>mh C fl t1 [vs s2] h fun v3 h4=>asBool v3 fun b5=>if b5=true then kr t8 h4 else kn t0 t1 t7 (av (t8+1)) h4 else e0 h
theorem anE:(cp Sr (ce C fl k OS K))=uD C fl k (cp Sr (K .normal)) (cp ajd (K (.exit 0))) (cp KQ (K .ret)):=by kernel_rfl
def DS(kn:au R)(kr:ah R):Nat→qZ R
 |0=>fun _ _ _ _ _=>none
 |m+1=>uD C fl k (DS kn kr m) kn kr
theorem Xv:∀m,(cp Sr (aQ m (aW C fl k OS 0 K)))=DS C fl k (cp ajd (K .normal)) (cp KQ (K .ret)) m
 |0=>by kernel_rfl
 |m+1=>gu (anE C fl k _) (ag (fun L=>uD C fl k L _ _) (Xv m))
def aje(kr:ah R):qZ R:=DS C fl k (Ve C fl k kr) kr k
theorem ayI:(cp Sr (ce C fl k adn K))=aje C fl k (cp KQ (K .ret)):=(iP (gv (Xv C fl k (bw C fl k OR K)))).trans (ag (fun L=>DS C fl k L _ k) (iL (anD C fl k K)))
def ajf{R:Type}(C:Callee)(fl k:Nat)(kx:qZ R)(kr:ah R):Rf R:=fun t0 t1 h=>kx t0 t1 ((t0.l:Nat):Int) 0 h
def aDv(kr:ah R):Rf R:=ajf C fl k (aje C fl k kr) kr
theorem aKh(cn:aa):(cp avH (ce C fl k (avG cn) K))=ajf C fl k (cp Sr (ce C fl k cn K)) (cp KQ (K .ret)):=by kernel_rfl
theorem aKi:(cp avH (ce C fl k aDu K))=aDv C fl k (cp KQ (K .ret)):=(aKh C fl k K adn).trans (ag (fun L0=>ajf C fl k L0 _) (ayI C fl k K))
def eA(p0:Sl)(p1:Value)(h:AH):Option (Value×AH):=aDv C fl k (fun y4 q=>some (vi y4,q)) p0 p1 h
theorem oj(p0:Sl)(p1:Value)(h):aV C fl k gU [vs p0,p1] h=eA C fl k p0 p1 h:=tF (aKi C fl k (aG _)) p0 p1 (by kernel_rfl) (by kernel_rfl)
def aKj(t3:Bool):List Value:=un 3 (.bool t3::un 5 [])
def aDw:aa:=.seq (.region [oI 3 (.mv (.c (.bool false)))] [3]) (.seq (.region [m 4 0,li 5 1,ia 6 1 4 5,li 7 6,ck 8 .neq 7 0,m 3 8] [0,1,4,5,6,7,8]) (.ret))
abbrev aKk(R:Type):=Sl→Addr→AH→Option R
def aKl(t0:Sl)(t1:Addr):List Value:=t0.v::vp t1::un 7 []
def iD:aK:=⟨9,aDw,[.tmp 3]⟩
theorem F0:okF Tryz.prog 116 iD=true:=by kernel_rfl
def aDx{R:Type}(C:Callee)(fl k:Nat)(kr:aC R):aKk R:=fun t0 t1 h=>aF .i64 h t1.block t1.off fun n1=>idx 1 t0 n1 fun p2=>aF .i64 h p2.block p2.off fun n3=>kr (n3 !=0) h
theorem aKm:(cp aKl (ce C fl k aDw K))=aDx C fl k (cp aKj (K .ret)):=by kernel_rfl
def c8(p0:Sl)(p1:Addr)(h:AH):Option (Value×AH):=aDx C fl k (fun y3 q=>some (.bool y3,q)) p0 p1 h
theorem qo(p0:Sl)(p1:Addr)(h):aV C fl k iD [vs p0,.pointer (some p1)] h=c8 C fl k p0 p1 h:=tF (aKm C fl k (aG _)) p0 p1 (by kernel_rfl) (by kernel_rfl)
def aKn(t6 t7:Int):List Value:=un 6 (vi t6::vi t7::un 15 [])
def aDy:aa:=.seq (.region [mc 6 0,mc 7 0] [6,7]) (.seq (.region [m 11 0,m 12 2,oI 13 (.call (.f 139) [.t 11,.t 12] (.ke [.one (.int .i64),.one (.int .i64)])),m 10 13,ex 14 10 0,ex 15 10 1,m 8 14,m 9 15] [2,10,11,12,13,14,15]) (.seq (.region [m 16 9,ck 17 .neq 16 0] [16]) (.seq (.cond (.t 17) (.seq (.region [m 18 9,mc 6 0,m 7 18] [0,1,8,9,17,18]) (.ret)) (kl [9,17])) (.seq (.region [m 19 0,m 20 1,m 21 8,oI 22 (.call (.f 120) [.t 19,.t 20,.t 21] (.one (.one (.int .i64)))),m 6 22,mc 7 0] [0,1,8,19,20,21,22]) (.ret)))))
abbrev Cb(R:Type):=OA→Int→Int→AH→Option R
def aKo(t0:OA)(t1 t2:Int):List Value:=vn t0::vi t1::vi t2::un 20 []
def rY:aK:=⟨23,aDy,[.tmp 6,.tmp 7]⟩
theorem ZB:okF Tryz.prog 117 rY=true:=by kernel_rfl
def aDz{R:Type}(C:Callee)(fl k:Nat)(kr:cL R):Cb R:=fun t0 t1 t2 h=>aj C fl fn.fS [.pointer t0,vi t2] h fun v1 h2=>aE v1 fun l3=>ar l3 fun v4 l5=>asInt .i64 v4 fun n6=>ar l5 fun v7 l8=>asInt .i64 v7 fun n9=>aM l8 (if (n9 !=0)=true then kr 0 n9 h2 else aj C fl fn.dy [.pointer t0,vi t1,vi n6] h2 fun v10 iH=>asInt .i64 v10 fun Bu=>kr Bu 0 iH)
theorem aKp:(cp aKo (ce C fl k aDy K))=aDz C fl k (cp aKn (K .ret)):=by kernel_rfl
def ko(p0:OA)(p1 p2:Int)(h:AH):Option (Value×AH):=aDz C fl k (fun y6 y7 q=>some (.tuple ⟨[vi y6,vi y7]⟩,q)) p0 p1 p2 h
theorem DT(p0:OA)(p1 p2:Int)(h):aV C fl k rY [.pointer p0,vi p1,vi p2] h=ko C fl k p0 p1 p2 h:=tG (aKp C fl k (aG _)) p0 p1 p2 (by kernel_rfl) (by kernel_rfl)
def aKq(t2:Sl):List Value:=un 2 (t2.v::un 5 [])
def aDA:aa:=.seq (.region [oI 2 (.mv (.c (.slice none 0 0)))] [2]) (.seq (.region [m 3 0,oI 4 (.TQ false (.t 3))] [3]) (.seq (.cond (.t 4) (.seq (.region [oI 2 (.mv (.c (.slice none 0 0)))] [0,4]) (.ret)) (kl [4])) (.seq (.region [oI 5 (.bq 0 [] []),m 6 0,oI 7 (.append 1 8 (.t 5) (.t 6)),m 2 7] [0,5,6,7]) (.ret))))
def aKr(t0:Sl):List Value:=t0.v::un 7 []
def rZ:aK:=⟨8,aDA,[.tmp 2]⟩
theorem ZC:okF Tryz.prog 118 rZ=true:=by kernel_rfl
def aDB{R:Type}(C:Callee)(fl k:Nat)(kr:ab R):ab R:=fun t0 h=>if t0.a.isNone=true then kr ⟨none,0,0⟩ h else bJ h [] fun b1 h2=>dn fl 1 8 ⟨(some ⟨b1,0,none⟩),0,0⟩ t0 h2 fun s3 h4=>kr s3 h4
theorem aKs:(cp aKr (ce C fl k aDA K))=aDB C fl k (cp aKq (K .ret)):=by kernel_rfl
def eS(p0:Sl)(h:AH):Option (Value×AH):=aDB C fl k (fun y2 q=>some (vs y2,q)) p0 h
theorem DU(p0:Sl)(h):aV C fl k rZ [vs p0] h=eS C fl k p0 h:=IU (aKs C fl k (aG _)) p0 (by kernel_rfl) (by kernel_rfl)
def aKt(t6:Int):List Value:=un 6 (vi t6::un 6 [])
def aDC:aa:=.seq (.region [mc 6 0] [6]) (.seq (.region [m 7 0,m 8 1,m 9 0,m 10 2,oI 11 (.call (.f 104) [.t 9,.t 10] (.one (.one (.int .i64)))),oI 12 (.call (.f 149) [.t 7,.t 8,.t 11] (.one (.one (.int .i64)))),m 6 12] [0,1,2,7,8,9,10,11,12]) (.ret))
def aKu(t0:OA)(t1 t2:Int):List Value:=vn t0::vi t1::vi t2::un 10 []
def r6:aK:=⟨13,aDC,[.tmp 6]⟩
theorem ZD:okF Tryz.prog 119 r6=true:=by kernel_rfl
def aDD{R:Type}(C:Callee)(fl k:Nat)(kr:ah R):Cb R:=fun t0 t1 t2 h=>aj C fl fn.fR [.pointer t0,vi t2] h fun v1 h2=>asInt .i64 v1 fun n3=>aj C fl fn.jh [.pointer t0,vi t1,vi n3] h2 fun v4 h5=>asInt .i64 v4 fun n6=>kr n6 h5
theorem aKv:(cp aKu (ce C fl k aDC K))=aDD C fl k (cp aKt (K .ret)):=by kernel_rfl
def gQ(p0:OA)(p1 p2:Int)(h:AH):Option (Value×AH):=aDD C fl k (fun y6 q=>some (vi y6,q)) p0 p1 p2 h
theorem DV(p0:OA)(p1 p2:Int)(h):aV C fl k r6 [.pointer p0,vi p1,vi p2] h=gQ C fl k p0 p1 p2 h:=tG (aKv C fl k (aG _)) p0 p1 p2 (by kernel_rfl) (by kernel_rfl)
def aKw(t6:Int):List Value:=un 6 (vi t6::un 39 [])
def aDE:aa:=.seq (.region [mc 6 0] [6]) (.seq (.region [m 7 0,m 8 1,oI 9 (.call (.f 144) [.t 7,.t 8] (.one (.one (.int .i64)))),m 10 0,m 11 2,oI 12 (.call (.f 144) [.t 10,.t 11] (.one (.one (.int .i64)))),m 1 9,m 2 12] [7,8,9,10,11,12]) (.seq (.region [m 13 1,ck 14 .eql 13 0,m 15 14,.gL 15 false [qI 16 (.mv (.t 2)),qI 17 (.cmp .eql .i64 (.t 16) (ci 0))],oI 18 (.pick (.t 15) (.c (.bool true)) (.t 17))] [13,14,15,16,17]) (.seq (.cond (.t 18) (.seq (.region [mc 6 0] [0,1,2,18]) (.ret)) (kl [18])) (.seq (.region [m 19 0,oI 20 (.cQ (.t 19)),fa 21 4 20,lt 22 21,m 23 0,oI 24 (.cQ (.t 23)),fa 25 5 24,lt 26 25,m 27 1,ia 28 1 26 27,lj 29 28,m 30 0,oI 31 (.cQ (.t 30)),fa 32 5 31,lt 33 32,m 34 2,ia 35 1 33 34,lj 36 35,bb 37 .add 29 36,m 38 0,oI 39 (.cQ (.t 38)),fa 40 3 39,lj 41 40,bc 42 .sub 41 1,bb 43 .rem 37 42,ia 44 1 22 43,li 45 44,m 6 45] [0,1,2,19,20,21,22,23,24,25,26,27,28,29,30,31,32,33,34,35,36,37,38,39,40,41,42,43,44,45]) (.ret)))))
def aKx(t0:OA)(t1 t2:Int):List Value:=vn t0::vi t1::vi t2::un 43 []
def r7:aK:=⟨46,aDE,[.tmp 6]⟩
theorem ZE:okF Tryz.prog 120 r7=true:=by kernel_rfl
def aDF{R:Type}(C:Callee)(fl k:Nat)(kr:ah R):Cb R:=fun t0 t1 t2 h=>aj C fl fn.gn [.pointer t0,vi t1] h fun v1 h2=>asInt .i64 v1 fun n3=>aj C fl fn.gn [.pointer t0,vi t2] h2 fun v4 h5=>asInt .i64 v4 fun n6=>if (n3==0)=false then if (n6==0)=true then kr 0 h5 else bz (.pointer t0) fun p7=>aT h5 p7.block (p7.off+4) fun s8=>bz (.pointer t0) fun p9=>aT h5 p9.block (p9.off+5) fun s10=>idx 1 s10 n3 fun TS=>aF .i64 h5 TS.block TS.off fun Bu=>bz (.pointer t0) fun p13=>aT h5 p13.block (p13.off+5) fun TT=>idx 1 TT n6 fun YJ=>aF .i64 h5 YJ.block YJ.off fun HT=>bz (.pointer t0) fun p17=>aF .i64 h5 p17.block (p17.off+3) fun JT=>j6 .rem .i64 (av (Bu+HT)) (av (JT-1)) fun TX=>idx 1 s8 TX fun p20=>aF .i64 h5 p20.block p20.off fun n21=>kr n21 h5 else kr 0 h5
theorem aKy:(cp aKx (ce C fl k aDE K))=aDF C fl k (cp aKw (K .ret)):=by kernel_rfl
def dy(p0:OA)(p1 p2:Int)(h:AH):Option (Value×AH):=aDF C fl k (fun y6 q=>some (vi y6,q)) p0 p1 p2 h
theorem DW(p0:OA)(p1 p2:Int)(h):aV C fl k r7 [.pointer p0,vi p1,vi p2] h=dy C fl k p0 p1 p2 h:=tG (aKy C fl k (aG _)) p0 p1 p2 (by kernel_rfl) (by kernel_rfl)
def aaW(t4:Sl):List Value:=un 4 (t4.v::un 18 [])
def OT:aa:=.seq (.region [m 22 5,m 4 22] [5,22]) (.ret)
def ajg(t5:Sl):List Value:=un 5 (t5.v::un 17 [])
abbrev r8(R:Type):=Sl→Sl→Sl→Int→AH→Option R
def Ss(t0 t1 t5:Sl)(t6:Int):List Value:=t0.v::t1.v::un 3 (t5.v::vi t6::un 16 [])
def OU:aa:=.seq (.region [m 7 6,m 8 0,ln 9 8,cm 10 .lss 7 9] [7,8,9]) (.seq (.cond (.t 10) (kl [10]) (.seq (kl [0,1,6,10]) (.exit 0))) (.seq (.block 1 (.region [m 13 5,m 14 0,m 15 6,ia 16 1 14 15,ls 17 16,m 18 1,oI 19 (.call (.f 150) [.t 17,.t 18] (.one (.one .slice))),oI 20 (.bq 1 [.slice none 0 0] [(0,1,.t 19)]),oI 21 (.append 1 24 (.t 13) (.t 20)),m 5 21] [13,14,15,16,17,18,19,20,21])) (.region [m 11 6,bc 12 .add 11 1,m 6 12] [11,12])))
def ado:aa:=.seq (.block 0 (.loop OU)) OT
def avI(cn:aa):aa:=.seq (.seq (.region [oI 4 (.mv (.c (.slice none 0 0)))] [4]) (.seq (.region [oI 5 (.mv (.c (.slice none 0 0)))] []) (.region [mc 6 0] []))) cn
def aDG:aa:=avI ado
def avJ(t0 t1:Sl):List Value:=t0.v::t1.v::un 21 []
def zj:aK:=⟨23,aDG,[.tmp 4]⟩
theorem afp:okF Tryz.prog 121 zj=true:=by kernel_rfl
def Vf{R:Type}(C:Callee)(fl k:Nat)(kr:ab R):ab R:=fun t5 h=>kr t5 h
theorem anF:(cp ajg (ce C fl k OT K))=Vf C fl k (cp aaW (K .ret)):=by kernel_rfl
def uE{R:Type}(C:Callee)(fl k:Nat)(kn:r8 R)(e0:ab R):r8 R:=fun t0 t1 t5 t6 h=>if decide (t6<((t0.l:Nat):Int))=true then idx 1 t0 t6 fun p1=>aT h p1.block p1.off fun s2=>aj C fl fn.zY [vs s2,vs t1] h fun v3 h4=>aX v3 fun s5=>bJ h4 [vs s5] fun b6 h7=>dn fl 1 24 t5 ⟨(some ⟨b6,0,none⟩),1,1⟩ h7 fun s8 h9=>kn t0 t1 s8 (av (t6+1)) h9 else e0 t5 h
theorem anG:(cp Ss (ce C fl k OU K))=uE C fl k (cp Ss (K .normal)) (cp ajg (K (.exit 0))):=by kernel_rfl
def qp(kn:ab R):Nat→r8 R
 |0=>fun _ _ _ _ _=>none
 |m+1=>uE C fl k (qp kn m) kn
theorem Xw:∀m,(cp Ss (aQ m (aW C fl k OU 0 K)))=qp C fl k (cp ajg (K .normal)) m
 |0=>by kernel_rfl
 |m+1=>gu (anG C fl k _) (ag (fun L=>uE C fl k L _) (Xw m))
def ajh(kr:ab R):r8 R:=qp C fl k (Vf C fl k kr) k
theorem ayJ:(cp Ss (ce C fl k ado K))=ajh C fl k (cp aaW (K .ret)):=(iP (gv (Xw C fl k (bw C fl k OT K)))).trans (ag (fun L=>qp C fl k L k) (iL (anF C fl k K)))
def aji{R:Type}(C:Callee)(fl k:Nat)(kx:r8 R)(kr:ab R):cR R:=fun t0 t1 h=>kx t0 t1 ⟨none,0,0⟩ 0 h
def aDH(kr:ab R):cR R:=aji C fl k (ajh C fl k kr) kr
theorem aKz(cn:aa):(cp avJ (ce C fl k (avI cn) K))=aji C fl k (cp Ss (ce C fl k cn K)) (cp aaW (K .ret)):=by kernel_rfl
theorem aKA:(cp avJ (ce C fl k aDG K))=aDH C fl k (cp aaW (K .ret)):=(aKz C fl k K ado).trans (ag (fun L0=>aji C fl k L0 _) (ayJ C fl k K))
def zX(p0 p1:Sl)(h:AH):Option (Value×AH):=aDH C fl k (fun y4 q=>some (vs y4,q)) p0 p1 h
theorem adp(p0 p1:Sl)(h):aV C fl k zj [vs p0,vs p1] h=zX C fl k p0 p1 h:=tF (aKA C fl k (aG _)) p0 p1 (by kernel_rfl) (by kernel_rfl)
def KR(t6:Bool):List Value:=un 6 (.bool t6::un 25 [])
def OW:aa:=.seq (.region [oI 6 (.mv (.c (.bool true)))] []) (.ret)
def ajj:List Value:=un 32 []
abbrev St(R:Type):=Sl→Value→Sl→Int→Int→AH→Option R
def Su(t1:Sl)(t2:Value)(t15:Sl)(t16 t17:Int):List Value:=un 1 (t1.v::t2::un 12 (t15.v::vi t16::vi t17::un 14 []))
def OX:aa:=.seq (.region [cm 18 .lss 17 16] []) (.seq (.cond (.t 18) (kl [18]) (.seq (kl [1,2,15,16,17,18]) (.exit 0))) (.seq (.block 1 (.seq (.region [m 19 17,ia 20 1 15 17,ls 21 20,m 7 19,m 8 21] [19,20,21]) (.seq (.region [m 22 1,m 23 7,ia 24 1 22 23,ls 25 24,m 9 25] [7,22,23,24,25]) (.seq (.region [m 26 2,m 27 8,m 28 9,oI 29 (.call (.t 26) [.t 27,.t 28] (.one (.one .bool))),no 30 29] [8,9,26,27,28,29]) (.cond (.t 30) (.seq (.region [oI 6 (.mv (.c (.bool false)))] [1,2,15,16,17,30]) (.ret)) (kl [30])))))) (.region [bc 31 .add 17 1,m 17 31] [31])))
def adq:aa:=.seq (.block 0 (.loop OX)) OW
def avK(cn:aa):aa:=.seq (.seq (.region [oI 6 (.mv (.c (.bool false)))] [6]) (.seq (.region [m 10 0,ln 11 10,m 12 1,ln 13 12,cm 14 .neq 11 13] [10,11,12,13]) (.seq (.cond (.t 14) (.seq (.region [oI 6 (.mv (.c (.bool false)))] [0,1,2,14]) (.ret)) (kl [14])) (.region [m 15 0,ln 16 15,mc 17 0] [0])))) cn
def aDI:aa:=avK adq
abbrev avL(R:Type):=Sl→Sl→Value→AH→Option R
def avM(t0 t1:Sl)(t2:Value):List Value:=t0.v::t1.v::t2::un 29 []
def kK:aK:=⟨32,aDI,[.tmp 6]⟩
theorem LN:okF Tryz.prog 123 kK=true:=by kernel_rfl
def KS{R:Type}(C:Callee)(fl k:Nat)(kr:aC R):au R:=fun h=>kr true h
theorem anH:(cp ajj (ce C fl k OW K))=KS C fl k (cp KR (K .ret)):=by kernel_rfl
def uF{R:Type}(C:Callee)(fl k:Nat)(kn:St R)(e0:au R)(kr:aC R):St R:=fun t1 t2 t15 t16 t17 h=>if decide (t17<t16)=true then idx 1 t15 t17 fun p1=>aT h p1.block p1.off fun s2=>idx 1 t1 t17 fun p3=>aT h p3.block p3.off fun s4=>mh C fl t2 [vs s2,vs s4] h fun v5 h6=>asBool v5 fun b7=>if (!b7)=true then kr false h6 else kn t1 t2 t15 t16 (av (t17+1)) h6 else e0 h
theorem anI:(cp Su (ce C fl k OX K))=uF C fl k (cp Su (K .normal)) (cp ajj (K (.exit 0))) (cp KR (K .ret)):=by kernel_rfl
def DX(kn:au R)(kr:aC R):Nat→St R
 |0=>fun _ _ _ _ _ _=>none
 |m+1=>uF C fl k (DX kn kr m) kn kr
theorem Xx:∀m,(cp Su (aQ m (aW C fl k OX 0 K)))=DX C fl k (cp ajj (K .normal)) (cp KR (K .ret)) m
 |0=>by kernel_rfl
 |m+1=>gu (anI C fl k _) (ag (fun L=>uF C fl k L _ _) (Xx m))
def ajk(kr:aC R):St R:=DX C fl k (KS C fl k kr) kr k
theorem ayK:(cp Su (ce C fl k adq K))=ajk C fl k (cp KR (K .ret)):=(iP (gv (Xx C fl k (bw C fl k OW K)))).trans (ag (fun L=>DX C fl k L _ k) (iL (anH C fl k K)))
def ajl{R:Type}(C:Callee)(fl k:Nat)(kx:St R)(kr:aC R):avL R:=fun t0 t1 t2 h=>if (((t0.l:Nat):Int) !=((t1.l:Nat):Int))=true then kr false h else kx t1 t2 t0 ((t0.l:Nat):Int) 0 h
def aDJ(kr:aC R):avL R:=ajl C fl k (ajk C fl k kr) kr
theorem aKB(cn:aa):(cp avM (ce C fl k (avK cn) K))=ajl C fl k (cp Su (ce C fl k cn K)) (cp KR (K .ret)):=by kernel_rfl
theorem aKC:(cp avM (ce C fl k aDI K))=aDJ C fl k (cp KR (K .ret)):=(aKB C fl k K adq).trans (ag (fun L0=>ajl C fl k L0 _) (ayK C fl k K))
def hX(p0 p1:Sl)(p2:Value)(h:AH):Option (Value×AH):=aDJ C fl k (fun y6 q=>some (.bool y6,q)) p0 p1 p2 h
theorem xu(p0 p1:Sl)(p2:Value)(h):aV C fl k kK [vs p0,vs p1,p2] h=hX C fl k p0 p1 p2 h:=tG (aKC C fl k (aG _)) p0 p1 p2 (by kernel_rfl) (by kernel_rfl)
def KT(t4:Bool):List Value:=un 4 (.bool t4::un 21 [])
def OY:aa:=.seq (.region [oI 4 (.mv (.c (.bool true)))] []) (.ret)
def ajm:List Value:=un 26 []
def Sv(t0 t1:Sl)(t12 t13:Int):List Value:=t0.v::t1.v::un 10 (vi t12::vi t13::un 12 [])
def OZ:aa:=.seq (.region [cm 14 .lss 13 12] []) (.seq (.cond (.t 14) (kl [14]) (.seq (kl [0,1,12,13,14]) (.exit 0))) (.seq (.block 1 (.seq (.region [m 15 13,m 5 15] [15]) (.seq (.region [m 16 0,m 17 5,ia 18 1 16 17,lj 19 18,m 20 1,m 21 5,ia 22 1 20 21,lj 23 22,cm 24 .neq 19 23] [5,16,17,18,19,20,21,22,23]) (.cond (.t 24) (.seq (.region [oI 4 (.mv (.c (.bool false)))] [0,1,12,13,24]) (.ret)) (kl [24]))))) (.region [bc 25 .add 13 1,m 13 25] [25])))
def adr:aa:=.seq (.block 0 (.loop OZ)) OY
def avN(cn:aa):aa:=.seq (.seq (.region [oI 4 (.mv (.c (.bool false)))] [4]) (.seq (.region [m 6 0,ln 7 6,m 8 1,ln 9 8,cm 10 .neq 7 9] [6,7,8,9]) (.seq (.cond (.t 10) (.seq (.region [oI 4 (.mv (.c (.bool false)))] [0,1,10]) (.ret)) (kl [10])) (.region [m 11 0,ln 12 11,mc 13 0] [11])))) cn
def aDK:aa:=avN adr
def avO(t0 t1:Sl):List Value:=t0.v::t1.v::un 24 []
def r9:aK:=⟨26,aDK,[.tmp 4]⟩
theorem ZF:okF Tryz.prog 124 r9=true:=by kernel_rfl
def KU{R:Type}(C:Callee)(fl k:Nat)(kr:aC R):au R:=fun h=>kr true h
theorem anJ:(cp ajm (ce C fl k OY K))=KU C fl k (cp KT (K .ret)):=by kernel_rfl
def uG{R:Type}(C:Callee)(fl k:Nat)(kn:ji R)(e0:au R)(kr:aC R):ji R:=fun t0 t1 t12 t13 h=>if decide (t13<t12)=true then idx 1 t0 t13 fun p1=>aF .i64 h p1.block p1.off fun n2=>idx 1 t1 t13 fun p3=>aF .i64 h p3.block p3.off fun n4=>if (n2 !=n4)=true then kr false h else kn t0 t1 t12 (av (t13+1)) h else e0 h
theorem anK:(cp Sv (ce C fl k OZ K))=uG C fl k (cp Sv (K .normal)) (cp ajm (K (.exit 0))) (cp KT (K .ret)):=by kernel_rfl
def DY(kn:au R)(kr:aC R):Nat→ji R
 |0=>fun _ _ _ _ _=>none
 |m+1=>uG C fl k (DY kn kr m) kn kr
theorem Xy:∀m,(cp Sv (aQ m (aW C fl k OZ 0 K)))=DY C fl k (cp ajm (K .normal)) (cp KT (K .ret)) m
 |0=>by kernel_rfl
 |m+1=>gu (anK C fl k _) (ag (fun L=>uG C fl k L _ _) (Xy m))
def ajn(kr:aC R):ji R:=DY C fl k (KU C fl k kr) kr k
theorem ayL:(cp Sv (ce C fl k adr K))=ajn C fl k (cp KT (K .ret)):=(iP (gv (Xy C fl k (bw C fl k OY K)))).trans (ag (fun L=>DY C fl k L _ k) (iL (anJ C fl k K)))
def ajo{R:Type}(C:Callee)(fl k:Nat)(kx:ji R)(kr:aC R):cR R:=fun t0 t1 h=>if (((t0.l:Nat):Int) !=((t1.l:Nat):Int))=true then kr false h else kx t0 t1 ((t0.l:Nat):Int) 0 h
def aDL(kr:aC R):cR R:=ajo C fl k (ajn C fl k kr) kr
theorem aKD(cn:aa):(cp avO (ce C fl k (avN cn) K))=ajo C fl k (cp Sv (ce C fl k cn K)) (cp KT (K .ret)):=by kernel_rfl
theorem aKE:(cp avO (ce C fl k aDK K))=aDL C fl k (cp KT (K .ret)):=(aKD C fl k K adr).trans (ag (fun L0=>ajo C fl k L0 _) (ayL C fl k K))
def jg(p0 p1:Sl)(h:AH):Option (Value×AH):=aDL C fl k (fun y4 q=>some (.bool y4,q)) p0 p1 h
theorem DZ(p0 p1:Sl)(h):aV C fl k r9 [vs p0,vs p1] h=jg C fl k p0 p1 h:=tF (aKE C fl k (aG _)) p0 p1 (by kernel_rfl) (by kernel_rfl)
def aaX(t6 t7:Sl):List Value:=un 6 (t6.v::t7.v::un 129 [])
def O0:aa:=.seq (.region [m 135 8,m 136 9,m 6 135,m 7 136] [8,9,135,136]) (.ret)
def F1(t8 t9:Sl):List Value:=un 8 (t8.v::t9.v::un 127 [])
abbrev bO(R:Type):=Int→Addr→Sl→Sl→Int→Int→AH→Option R
def bQ(t2:Int)(t3:Addr)(t8 t9:Sl)(t10 t11:Int):List Value:=un 2 (vi t2::vp t3::un 4 (t8.v::t9.v::vi t10::vi t11::un 125 []))
def sd:aa:=.region [m 25 11,bc 26 .add 25 1,m 11 26] [25,26]
def jA:aa:=.seq (.region [m 129 9,m 130 11,oI 131 (.bq 1 [.int .i64 0] [(0,1,.t 130)]),oI 132 (.append 1 8 (.t 129) (.t 131)),m 9 132] [129,130,131,132]) (.region [m 133 10,bc 134 .add 133 1,m 10 134] [133,134])
abbrev fX(R:Type):=Int→Addr→Sl→Sl→Int→Int→Int→AH→Option R
def wG(t2:Int)(t3:Addr)(t8 t9:Sl)(t10 t11 t13:Int):List Value:=un 2 (vi t2::vp t3::un 4 (t8.v::t9.v::vi t10::vi t11::un 1 (vi t13::un 123 [])))
def gV:aa:=.region [m 92 13,bc 93 .add 92 1,m 13 93] [92,93]
def nO(cn:aa):aa:=.seq (.seq (.region [m 88 13,m 89 8,ln 90 89,cm 91 .lss 88 90] [88,89,90]) (.seq (.cond (.t 91) (kl [91]) (.seq (kl [13,91]) (.exit 4))) (.block 5 (.seq (.region [m 94 13,m 95 10,cm 96 .neq 94 95,m 97 96,.gL 97 true [qI 98 (.mv (.t 8)),qI 99 (.mv (.t 13)),qI 100 (.eE 1 (.t 98) (.t 99)),qI 101 (.load (.one .slice) (.t 100)),qI 102 (.mv (.t 11)),qI 103 (.eE 1 (.t 101) (.t 102)),qI 104 (.load (.one (.int .i64)) (.t 103)),qI 105 (.cmp .neq .i64 (.t 104) (ci 0))],oI 106 (.pick (.t 97) (.t 105) (.c (.bool false)))] [94,95,96,97,98,99,100,101,102,103,104,105]) (.cond (.t 106) (.region [m 107 8,m 108 13,oJ 109 (.load (.agg [.int .i64,.int .i64,.slice]) (.t 3)),m 110 8,m 111 13,ia 112 1 110 111,lt 113 112,oJ 114 (.load (.agg [.int .i64,.int .i64,.slice]) (.t 3)),m 115 8,m 116 13,ia 117 1 115 116,lt 118 117,m 119 11,ia 120 1 118 119,lj 121 120,oJ 122 (.call (.f 126) [.t 114,.t 121] (.one (.one (.int .i64)))),m 123 8,m 124 10,ia 125 1 123 124,lt 126 125,oI 127 (.call (.f 155) [.t 109,.t 113,.t 122,.t 126] (.one (.one .slice))),ia 128 1 107 108,sI 1 128 127] [106,107,108,109,110,111,112,113,114,115,116,117,118,119,120,121,122,123,124,125,126,127,128]) (kl [106])))))) cn
def jB:aa:=nO gV
def kL:aa:=.seq (.block 4 (.loop jB)) jA
def tn(cn:aa):aa:=.seq (.region [mc 13 0] []) cn
def mJ:aa:=tn kL
def yt(cn:aa):aa:=.seq (.seq (.region [m 44 12,m 45 8,ln 46 45,cm 47 .eql 44 46] [44,45,46]) (.seq (.cond (.t 47) (.seq (kl [12,47]) (.exit 1)) (kl [47])) (.seq (.region [m 48 8,m 49 10,m 50 8,m 51 12,m 52 8,m 53 12,ia 54 1 52 53,lt 55 54,m 56 8,m 57 10,ia 58 1 56 57,lt 59 58,ia 60 1 48 49,sI 1 60 55,ia 61 1 50 51,sI 1 61 59] [12,48,49,50,51,52,53,54,55,56,57,58,59,60,61]) (.seq (.region [m 62 8,m 63 10,ia 64 1 62 63,ls 65 64,m 66 11,ia 67 1 65 66,li 68 67,ck 69 .neq 68 1] [62,63,64,65,66,67,68]) (.cond (.t 69) (.region [m 70 8,m 71 10,oJ 72 (.load (.agg [.int .i64,.int .i64,.slice]) (.t 3)),oJ 73 (.load (.agg [.int .i64,.int .i64,.slice]) (.t 3)),m 74 8,m 75 10,ia 76 1 74 75,lt 77 76,m 78 11,ia 79 1 77 78,lj 80 79,oJ 81 (.call (.f 154) [.t 73,.t 80] (.one (.one (.int .i64)))),m 82 8,m 83 10,ia 84 1 82 83,lt 85 84,oI 86 (.call (.f 153) [.t 72,.t 81,.t 85] (.one (.one .slice))),ia 87 1 70 71,sI 1 87 86] [69,70,71,72,73,74,75,76,77,78,79,80,81,82,83,84,85,86,87]) (kl [69])))))) cn
def pE:aa:=yt mJ
def zk(t2:Int)(t3:Addr)(t8 t9:Sl)(t10 t11 t12:Int):List Value:=un 2 (vi t2::vp t3::un 4 (t8.v::t9.v::vi t10::vi t11::vi t12::un 124 []))
def pF:aa:=.seq (.region [m 28 12,m 29 8,ln 30 29,cm 31 .lss 28 30,m 32 31,.gL 32 true [qI 33 (.mv (.t 8)),qI 34 (.mv (.t 12)),qI 35 (.eE 1 (.t 33) (.t 34)),qI 36 (.load (.one .slice) (.t 35)),qI 37 (.mv (.t 11)),qI 38 (.eE 1 (.t 36) (.t 37)),qI 39 (.load (.one (.int .i64)) (.t 38)),qI 40 (.cmp .eql .i64 (.t 39) (ci 0))],oI 41 (.pick (.t 32) (.t 40) (.c (.bool false)))] [28,29,30,31,32,33,34,35,36,37,38,39,40]) (.seq (.cond (.t 41) (kl [41]) (.seq (kl [41]) (.exit 2))) (.block 3 (.region [m 42 12,bc 43 .add 42 1,m 12 43] [42,43])))
def uH:aa:=.seq (.block 2 (.loop pF)) pE
def Hx(cn:aa):aa:=.seq (.region [m 27 10,m 12 27] [27]) cn
def AP:aa:=Hx uH
def Mz(cn fJ:aa):aa:=.seq (.block 1 fJ) cn
def F2:aa:=Mz sd AP
def Xz(cn:aa):aa:=.seq (.seq (.region [m 16 11,m 17 2,cm 18 .lss 16 17,m 19 18,.gL 19 true [qI 20 (.mv (.t 10)),qI 21 (.mv (.t 8)),qI 22 (.len (.t 21)),qI 23 (.cmp .lss .i64 (.t 20) (.t 22))],oI 24 (.pick (.t 19) (.t 23) (.c (.bool false)))] [16,17,18,19,20,21,22,23]) (.cond (.t 24) (kl [24]) (.seq (kl [2,3,10,11,24]) (.exit 0)))) cn
def O1:aa:=Xz F2
def ads:aa:=.seq (.block 0 (.loop O1)) O0
def avP(cn:aa):aa:=.seq (.seq (.region [oI 3 (.box (.t 0)),oI 6 (.mv (.c (.slice none 0 0))),oI 7 (.mv (.c (.slice none 0 0)))] [0,6,7]) (.seq (.region [m 14 1,oI 15 (.call (.f 152) [.t 14] (.one (.one .slice))),m 8 15] [1,14,15]) (.seq (.region [oI 9 (.mv (.c (.slice none 0 0)))] []) (.seq (.region [mc 10 0] []) (.region [mc 11 0] []))))) cn
def aDM:aa:=avP ads
def avQ(aI aJ:Int)(aL t1:Sl)(t2:Int):List Value:=.agg ⟨[vi aI,vi aJ,vs aL]⟩::t1.v::vi t2::un 134 []
def lS:aK:=⟨137,aDM,[.tmp 6,.tmp 7]⟩
theorem O2:okF Tryz.prog 125 lS=true:=by kernel_rfl
def Vg{R:Type}(C:Callee)(fl k:Nat)(kr:cR R):cR R:=fun t8 t9 h=>kr t8 t9 h
theorem anL:(cp F1 (ce C fl k O0 K))=Vg C fl k (cp aaX (K .ret)):=by kernel_rfl
def dZ{R:Type}(C:Callee)(fl k:Nat)(kn:bO R)(e0:cR R):bO R:=fun t2 t3 t8 t9 t10 t11 h=>kn t2 t3 t8 t9 t10 (av (t11+1)) h
theorem xL:(cp bQ (ce C fl k sd K))=dZ C fl k (cp bQ (K .normal)) (cp F1 (K (.exit 0))):=by kernel_rfl
def gz{R:Type}(C:Callee)(fl k:Nat)(kn:bO R)(e1:bO R):bO R:=fun t2 t3 t8 t9 t10 t11 h=>bJ h [vi t11] fun b1 h2=>dn fl 1 8 t9 ⟨(some ⟨b1,0,none⟩),1,1⟩ h2 fun s3 h4=>kn t2 t3 t8 s3 (av (t10+1)) t11 h4
theorem Bz:(cp bQ (ce C fl k jA K))=gz C fl k (cp bQ (K .normal)) (cp bQ (K (.exit 1))):=by kernel_rfl
def du{R:Type}(C:Callee)(fl k:Nat)(kn:fX R)(e4:bO R):fX R:=fun t2 t3 t8 t9 t10 t11 t13 h=>kn t2 t3 t8 t9 t10 t11 (av (t13+1)) h
theorem xM:(cp wG (ce C fl k gV K))=du C fl k (cp wG (K .normal)) (cp bQ (K (.exit 4))):=by kernel_rfl
def ed{R:Type}(C:Callee)(fl k:Nat)(kx:fX R)(kn:fX R)(e4:bO R):fX R:=fun t2 t3 t8 t9 t10 t11 t13 h=>if decide (t13<((t8.l:Nat):Int))=true then if (t13 !=t10)=true then idx 1 t8 t13 fun p5=>aT h p5.block p5.off fun s6=>idx 1 s6 t11 fun p7=>aF .i64 h p7.block p7.off fun n8=>if (n8 !=0)=true then aF .i64 h t3.block t3.off fun n9=>aF .i64 h t3.block (t3.off+1) fun mb=>aT h t3.block (t3.off+1+1) fun EG=>idx 1 t8 t13 fun MR=>aT h MR.block MR.off fun VZ=>aF .i64 h t3.block t3.off fun Bv=>aF .i64 h t3.block (t3.off+1) fun qD=>aT h t3.block (t3.off+1+1) fun TR=>idx 1 t8 t13 fun p17=>aT h p17.block p17.off fun s18=>idx 1 s18 t11 fun p19=>aF .i64 h p19.block p19.off fun n20=>aj C h.next fn.tD [.agg ⟨[vi Bv,vi qD,vs TR]⟩,vi n20] h fun v21 TY=>asInt .i64 v21 fun n23=>idx 1 t8 t10 fun p24=>aT TY p24.block p24.off fun s25=>aj C fl fn.qa [.agg ⟨[vi n9,vi mb,vs EG]⟩,vs VZ,vi n23,vs s25] TY fun v26 h27=>aX v26 fun s28=>idx 1 t8 t13 fun p29=>st fl h27 p29 [vs s28] fun h30=>kx t2 t3 t8 t9 t10 t11 t13 h30 else kx t2 t3 t8 t9 t10 t11 t13 h else kx t2 t3 t8 t9 t10 t11 t13 h else e4 t2 t3 t8 t9 t10 t11 h
def cO(kn:fX R)(e4:bO R):fX R:=ed C fl k (du C fl k kn e4) kn e4
theorem BA(cn:aa):(cp wG (ce C fl k (nO cn) K))=ed C fl k (cp wG (ce C fl k cn K)) (cp wG (K .normal)) (cp bQ (K (.exit 4))):=by kernel_rfl
theorem BB:(cp wG (ce C fl k jB K))=cO C fl k (cp wG (K .normal)) (cp bQ (K (.exit 4))):=(BA C fl k K gV).trans (ag (fun L0=>ed C fl k L0 _ _) (xM C fl k K))
def cA(kn:bO R):Nat→fX R
 |0=>fun _ _ _ _ _ _ _ _=>none
 |m+1=>cO C fl k (cA kn m) kn
theorem nP:∀m,(cp wG (aQ m (aW C fl k jB 4 K)))=cA C fl k (cp bQ (K .normal)) m
 |0=>by kernel_rfl
 |m+1=>gu (BB C fl k _) (ag (fun L=>cO C fl k L _) (nP m))
def lA(kn:bO R)(e1:bO R):fX R:=cA C fl k (gz C fl k kn e1) k
theorem D0:(cp wG (ce C fl k kL K))=lA C fl k (cp bQ (K .normal)) (cp bQ (K (.exit 1))):=(iP (gv (nP C fl k (bw C fl k jA K)))).trans (ag (fun L=>cA C fl k L k) (iL (Bz C fl k K)))
def jl{R:Type}(C:Callee)(fl k:Nat)(kx:fX R)(kn:bO R)(e1:bO R):bO R:=fun t2 t3 t8 t9 t10 t11 h=>kx t2 t3 t8 t9 t10 t11 0 h
def jY(kn:bO R)(e1:bO R):bO R:=jl C fl k (lA C fl k kn e1) kn e1
theorem Ia(cn:aa):(cp bQ (ce C fl k (tn cn) K))=jl C fl k (cp wG (ce C fl k cn K)) (cp bQ (K .normal)) (cp bQ (K (.exit 1))):=by kernel_rfl
theorem Ib:(cp bQ (ce C fl k mJ K))=jY C fl k (cp bQ (K .normal)) (cp bQ (K (.exit 1))):=(Ia C fl k K kL).trans (ag (fun L0=>jl C fl k L0 _ _) (D0 C fl k K))
def kM{R:Type}(C:Callee)(fl k:Nat)(kx:bO R)(kn:bO R)(e1:bO R):fX R:=fun t2 t3 t8 t9 t10 t11 t12 h=>if (t12==((t8.l:Nat):Int))=true then e1 t2 t3 t8 t9 t10 t11 h else idx 1 t8 t12 fun p31=>aT h p31.block p31.off fun s32=>idx 1 t8 t10 fun p33=>aT h p33.block p33.off fun s34=>idx 1 t8 t10 fun p35=>st fl h p35 [vs s32] fun Qj=>idx 1 t8 t12 fun p37=>st fl Qj p37 [vs s34] fun h38=>idx 1 t8 t10 fun p39=>aT h38 p39.block p39.off fun s40=>idx 1 s40 t11 fun p41=>aF .i64 h38 p41.block p41.off fun n42=>if (n42 !=1)=true then aF .i64 h38 t3.block t3.off fun n43=>aF .i64 h38 t3.block (t3.off+1) fun n44=>aT h38 t3.block (t3.off+1+1) fun s45=>aF .i64 h38 t3.block t3.off fun n46=>aF .i64 h38 t3.block (t3.off+1) fun n47=>aT h38 t3.block (t3.off+1+1) fun s48=>idx 1 t8 t10 fun p49=>aT h38 p49.block p49.off fun s50=>idx 1 s50 t11 fun p51=>aF .i64 h38 p51.block p51.off fun n52=>aj C h38.next fn.tE [.agg ⟨[vi n46,vi n47,vs s48]⟩,vi n52] h38 fun v53 h54=>asInt .i64 v53 fun n55=>idx 1 t8 t10 fun p56=>aT h54 p56.block p56.off fun s57=>aj C fl fn.pZ [.agg ⟨[vi n43,vi n44,vs s45]⟩,vi n55,vs s57] h54 fun v58 h59=>aX v58 fun s60=>idx 1 t8 t10 fun p61=>st fl h59 p61 [vs s60] fun h62=>kx t2 t3 t8 t9 t10 t11 h62 else kx t2 t3 t8 t9 t10 t11 h38
def se(kn:bO R)(e1:bO R):fX R:=kM C fl k (jY C fl k kn e1) kn e1
theorem LO(cn:aa):(cp zk (ce C fl k (yt cn) K))=kM C fl k (cp bQ (ce C fl k cn K)) (cp bQ (K .normal)) (cp bQ (K (.exit 1))):=by kernel_rfl
theorem LP:(cp zk (ce C fl k pE K))=se C fl k (cp bQ (K .normal)) (cp bQ (K (.exit 1))):=(LO C fl k K mJ).trans (ag (fun L0=>kM C fl k L0 _ _) (Ib C fl k K))
def fh{R:Type}(C:Callee)(fl k:Nat)(kn:fX R)(e2:fX R):fX R:=fun t2 t3 t8 t9 t10 t11 t12 h=>if decide (t12<((t8.l:Nat):Int))=true then idx 1 t8 t12 fun p63=>aT h p63.block p63.off fun s64=>idx 1 s64 t11 fun p65=>aF .i64 h p65.block p65.off fun n66=>if (n66==0)=true then kn t2 t3 t8 t9 t10 t11 (av (t12+1)) h else e2 t2 t3 t8 t9 t10 t11 t12 h else e2 t2 t3 t8 t9 t10 t11 t12 h
theorem LQ:(cp zk (ce C fl k pF K))=fh C fl k (cp zk (K .normal)) (cp zk (K (.exit 2))):=by kernel_rfl
def jm(kn:fX R):Nat→fX R
 |0=>fun _ _ _ _ _ _ _ _=>none
 |m+1=>fh C fl k (jm kn m) kn
theorem yu:∀m,(cp zk (aQ m (aW C fl k pF 2 K)))=jm C fl k (cp zk (K .normal)) m
 |0=>by kernel_rfl
 |m+1=>gu (LQ C fl k _) (ag (fun L=>fh C fl k L _) (yu m))
def xN(kn:bO R)(e1:bO R):fX R:=jm C fl k (se C fl k kn e1) k
theorem Sw:(cp zk (ce C fl k uH K))=xN C fl k (cp bQ (K .normal)) (cp bQ (K (.exit 1))):=(iP (gv (yu C fl k (bw C fl k pE K)))).trans (ag (fun L=>jm C fl k L k) (iL (LP C fl k K)))
def sf{R:Type}(C:Callee)(fl k:Nat)(kx:fX R)(kn:bO R)(e1:bO R):bO R:=fun t2 t3 t8 t9 t10 t11 h=>kx t2 t3 t8 t9 t10 t11 t10 h
def wH(kn:bO R)(e1:bO R):bO R:=sf C fl k (xN C fl k kn e1) kn e1
theorem ZG(cn:aa):(cp bQ (ce C fl k (Hx cn) K))=sf C fl k (cp zk (ce C fl k cn K)) (cp bQ (K .normal)) (cp bQ (K (.exit 1))):=by kernel_rfl
theorem ZH:(cp bQ (ce C fl k AP K))=wH C fl k (cp bQ (K .normal)) (cp bQ (K (.exit 1))):=(ZG C fl k K uH).trans (ag (fun L0=>sf C fl k L0 _ _) (Sw C fl k K))
def zl{R:Type}(C:Callee)(fl k:Nat)(kx:bO R)(u0:bO R)(kn:bO R)(e0:cR R):bO R:=fun t2 t3 t8 t9 t10 t11 h=>u0 t2 t3 t8 t9 t10 t11 h
def Jg(kn:bO R)(e0:cR R):bO R:=zl C fl k (dZ C fl k kn e0) (wH C fl k (dZ C fl k kn e0) (dZ C fl k kn e0)) kn e0
theorem afq(cn fJ:aa):(cp bQ (ce C fl k (Mz cn fJ) K))=zl C fl k (cp bQ (ce C fl k cn K)) (cp bQ (ce C fl k fJ (iK 1 (bw C fl k cn K)))) (cp bQ (K .normal)) (cp F1 (K (.exit 0))):=by kernel_rfl
theorem afr:(cp bQ (ce C fl k F2 K))=Jg C fl k (cp bQ (K .normal)) (cp F1 (K (.exit 0))):=(afq C fl k K sd AP).trans (gG (fun L0 L1=>zl C fl k L0 L1 _ _) (xL C fl k K) ((ZH C fl k (iK 1 (bw C fl k sd K))).trans (gG (fun L0 L1=>wH C fl k L0 L1) (bn1 (xL C fl k K)) (bx1 (xL C fl k K)))))
def uI{R:Type}(C:Callee)(fl k:Nat)(kx:bO R)(kn:bO R)(e0:cR R):bO R:=fun t2 t3 t8 t9 t10 t11 h=>if decide (t11<t2)=true then if decide (t10<((t8.l:Nat):Int))=true then kx t2 t3 t8 t9 t10 t11 h else e0 t8 t9 h else e0 t8 t9 h
def nD(kn:bO R)(e0:cR R):bO R:=uI C fl k (Jg C fl k kn e0) kn e0
theorem anM(cn:aa):(cp bQ (ce C fl k (Xz cn) K))=uI C fl k (cp bQ (ce C fl k cn K)) (cp bQ (K .normal)) (cp F1 (K (.exit 0))):=by kernel_rfl
theorem anN:(cp bQ (ce C fl k O1 K))=nD C fl k (cp bQ (K .normal)) (cp F1 (K (.exit 0))):=(anM C fl k K F2).trans (ag (fun L0=>uI C fl k L0 _ _) (afr C fl k K))
def iS(kn:cR R):Nat→bO R
 |0=>fun _ _ _ _ _ _ _=>none
 |m+1=>nD C fl k (iS kn m) kn
theorem XA:∀m,(cp bQ (aQ m (aW C fl k O1 0 K)))=iS C fl k (cp F1 (K .normal)) m
 |0=>by kernel_rfl
 |m+1=>gu (anN C fl k _) (ag (fun L=>nD C fl k L _) (XA m))
def aaY(kr:cR R):bO R:=iS C fl k (Vg C fl k kr) k
theorem ayM:(cp bQ (ce C fl k ads K))=aaY C fl k (cp aaX (K .ret)):=(iP (gv (XA C fl k (bw C fl k O0 K)))).trans (ag (fun L=>iS C fl k L k) (iL (anL C fl k K)))
def ajp{R:Type}(C:Callee)(fl k:Nat)(kx:bO R)(kr:cR R):aaQ R:=fun aI aJ aL t1 t2 h=>bJ h [vi aI,vi aJ,vs aL] fun b67 h68=>aj C fl fn.zZ [vs t1] h68 fun v69 h70=>aX v69 fun s71=>kx t2 ⟨b67,0,none⟩ s71 ⟨none,0,0⟩ 0 0 h70
def aDN(kr:cR R):aaQ R:=ajp C fl k (aaY C fl k kr) kr
theorem aKF(cn:aa):(cp avQ (ce C fl k (avP cn) K))=ajp C fl k (cp bQ (ce C fl k cn K)) (cp aaX (K .ret)):=by kernel_rfl
theorem aKG:(cp avQ (ce C fl k aDM K))=aDN C fl k (cp aaX (K .ret)):=(aKF C fl k K ads).trans (ag (fun L0=>ajp C fl k L0 _) (ayM C fl k K))
def gI(aw ax:Int)(ay p1:Sl)(p2:Int)(h:AH):Option (Value×AH):=aDN C fl k (fun y6 y7 q=>some (.tuple ⟨[vs y6,vs y7]⟩,q)) aw ax ay p1 p2 h
theorem LR(aw ax:Int)(ay p1:Sl)(p2:Int)(h):aV C fl k lS [.agg ⟨[vi aw,vi ax,vs ay]⟩,vs p1,vi p2] h=gI C fl k aw ax ay p1 p2 h:=oY (aKG C fl k (aG _)) aw ax ay p1 p2 (by kernel_rfl) (by kernel_rfl)
def aaZ(t4:Int):List Value:=un 4 (vi t4::un 27 [])
def O3:aa:=.seq (.region [oI 29 (.load (.agg [.int .i64,.int .i64,.slice]) (.t 2)),m 30 5,oI 31 (.call (.f 157) [.t 29,.t 30] (.one (.one (.int .i64)))),m 4 31] [2,5,29,30,31]) (.ret)
abbrev cG(R:Type):=Addr→Sl→AH→Option R
def ajq(t2:Addr)(t5:Sl):List Value:=un 2 (vp t2::un 2 (t5.v::un 26 []))
def Sx(t2:Addr)(t5:Sl)(t6:Int):List Value:=un 2 (vp t2::un 2 (t5.v::vi t6::un 25 []))
def O4:aa:=.seq (.region [m 10 6,m 11 5,ln 12 11,cm 13 .lss 10 12] [10,11,12]) (.seq (.cond (.t 13) (kl [13]) (.seq (kl [6,13]) (.exit 0))) (.seq (.block 1 (.region [m 16 5,m 17 6,fa 18 0 2,lj 19 18,m 20 5,m 21 6,ia 22 1 20 21,lj 23 22,bb 24 .sub 19 23,fa 25 0 2,lj 26 25,bb 27 .rem 24 26,ia 28 1 16 17,sI 1 28 27] [16,17,18,19,20,21,22,23,24,25,26,27,28])) (.region [m 14 6,bc 15 .add 14 1,m 6 15] [14,15])))
def adt:aa:=.seq (.block 0 (.loop O4)) O3
def avR(cn:aa):aa:=.seq (.seq (.region [oI 2 (.box (.t 0)),mc 4 0] [0,4]) (.seq (.region [oI 7 (.load (.agg [.int .i64,.int .i64,.slice]) (.t 2)),m 8 1,oI 9 (.call (.f 156) [.t 7,.t 8] (.one (.one .slice))),m 5 9] [1,7,8,9]) (.region [mc 6 0] []))) cn
def aDO:aa:=avR adt
def avS(aI aJ:Int)(aL:Sl)(t1:Int):List Value:=.agg ⟨[vi aI,vi aJ,vs aL]⟩::vi t1::un 30 []
def Cc:aK:=⟨32,aDO,[.tmp 4]⟩
theorem ajr:okF Tryz.prog 126 Cc=true:=by kernel_rfl
def D1{R:Type}(C:Callee)(fl k:Nat)(kr:ah R):cG R:=fun t2 t5 h=>aF .i64 h t2.block t2.off fun n1=>aF .i64 h t2.block (t2.off+1) fun n2=>aT h t2.block (t2.off+1+1) fun s3=>aj C fl fn.gZ [.agg ⟨[vi n1,vi n2,vs s3]⟩,vs t5] h fun v4 h5=>asInt .i64 v4 fun n6=>kr n6 h5
theorem anO:(cp ajq (ce C fl k O3 K))=D1 C fl k (cp aaZ (K .ret)):=by kernel_rfl
def uJ{R:Type}(C:Callee)(fl k:Nat)(kn:bl R)(e0:cG R):bl R:=fun t2 t5 t6 h=>if decide (t6<((t5.l:Nat):Int))=true then aF .i64 h t2.block t2.off fun n7=>idx 1 t5 t6 fun p8=>aF .i64 h p8.block p8.off fun n9=>aF .i64 h t2.block t2.off fun mb=>j6 .rem .i64 (av (n7-n9)) mb fun xA=>idx 1 t5 t6 fun MR=>st fl h MR [vi xA] fun qB=>kn t2 t5 (av (t6+1)) qB else e0 t2 t5 h
theorem anP:(cp Sx (ce C fl k O4 K))=uJ C fl k (cp Sx (K .normal)) (cp ajq (K (.exit 0))):=by kernel_rfl
def D2(kn:cG R):Nat→bl R
 |0=>fun _ _ _ _=>none
 |m+1=>uJ C fl k (D2 kn m) kn
theorem XB:∀m,(cp Sx (aQ m (aW C fl k O4 0 K)))=D2 C fl k (cp ajq (K .normal)) m
 |0=>by kernel_rfl
 |m+1=>gu (anP C fl k _) (ag (fun L=>uJ C fl k L _) (XB m))
def ajs(kr:ah R):bl R:=D2 C fl k (D1 C fl k kr) k
theorem ayN:(cp Sx (ce C fl k adt K))=ajs C fl k (cp aaZ (K .ret)):=(iP (gv (XB C fl k (bw C fl k O3 K)))).trans (ag (fun L=>D2 C fl k L k) (iL (anO C fl k K)))
def ajt{R:Type}(C:Callee)(fl k:Nat)(kx:bl R)(kr:ah R):cu R:=fun aI aJ aL t1 h=>bJ h [vi aI,vi aJ,vs aL] fun GM nX=>aF .i64 nX GM 0 fun HT=>aF .i64 nX GM 1 fun Qh=>aT nX GM 2 fun s18=>aj C fl fn.df [.agg ⟨[vi HT,vi Qh,vs s18]⟩,vi t1] nX fun v19 Qn=>aX v19 fun s21=>kx ⟨GM,0,none⟩ s21 0 Qn
def aDP(kr:ah R):cu R:=ajt C fl k (ajs C fl k kr) kr
theorem aKH(cn:aa):(cp avS (ce C fl k (avR cn) K))=ajt C fl k (cp Sx (ce C fl k cn K)) (cp aaZ (K .ret)):=by kernel_rfl
theorem aKI:(cp avS (ce C fl k aDO K))=aDP C fl k (cp aaZ (K .ret)):=(aKH C fl k K adt).trans (ag (fun L0=>ajt C fl k L0 _) (ayN C fl k K))
def tD(aw ax:Int)(ay:Sl)(p1:Int)(h:AH):Option (Value×AH):=aDP C fl k (fun y4 q=>some (vi y4,q)) aw ax ay p1 h
theorem afs(aw ax:Int)(ay:Sl)(p1:Int)(h):aV C fl k Cc [.agg ⟨[vi aw,vi ax,vs ay]⟩,vi p1] h=tD C fl k aw ax ay p1 h:=QS (aKI C fl k (aG _)) aw ax ay p1 (by kernel_rfl) (by kernel_rfl)
def aKJ(t4:OA)(t5:Int):List Value:=un 4 (vn t4::vi t5::un 20 [])
def aDQ:aa:=.seq (.region [oI 2 (.box (.t 0)),oI 4 (.mv (.c (.pointer none))),mc 5 0] [0,4,5]) (.seq (.region [oI 9 (.load (.agg [.int .i64,.int .i64,.slice,.int .i64,.slice]) (.t 2)),oI 10 (.call (.f 47) [.t 9] (.one (.one (.int .i64)))),m 6 10] [9,10]) (.seq (.region [m 11 6,ck 12 .neq 11 0] [11]) (.seq (.cond (.t 12) (.seq (.region [m 13 6,oI 4 (.mv (.c (.pointer none))),m 5 13] [1,2,6,12,13]) (.ret)) (kl [6,12])) (.seq (.region [fa 15 0 2,oI 16 (.load (.agg [.int .i64,.int .i64,.slice]) (.t 15)),oI 17 (.call (.f 75) [.t 16] (.ke [.one .l0,.one (.int .i64)])),m 14 17,ex 18 14 0,ex 19 14 1,m 7 18,m 8 19] [14,15,16,17,18,19]) (.seq (.region [m 20 7,oI 21 (.load (.agg [.int .i64,.int .i64,.slice,.int .i64,.slice]) (.t 2)),m 22 1,oI 23 (.build [.pointer none,.int .i64 0,.int .i64 0,.slice none 0 0,.int .i64 0,.slice none 0 0,.slice none 0 0,.bool false,.int .i64 0,.int .i64 0,.slice none 0 0,.int .i64 0] [(0,1,.t 20),(1,5,.t 21),(9,1,.t 22)]),oI 24 (.box (.t 23)),m 25 8,m 4 24,m 5 25] [1,2,7,8,20,21,22,23,24,25]) (.ret))))))
def aKK(aI aJ:Int)(aL:Sl)(bZ:Int)(bY:Sl)(t1:Int):List Value:=.agg ⟨[vi aI,vi aJ,vs aL,vi bZ,vs bY]⟩::vi t1::un 24 []
def nE:aK:=⟨26,aDQ,[.tmp 4,.tmp 5]⟩
theorem Sy:okF Tryz.prog 127 nE=true:=by kernel_rfl
def aOu{R:Type}(C:Callee)(fl k:Nat)(kr:di R):gS R:=fun aI aJ aL bZ bY t1 h=>bJ h [vi aI,vi aJ,vs aL,vi bZ,vs bY] fun b1 h2=>aF .i64 h2 b1 0 fun n3=>aF .i64 h2 b1 1 fun n4=>aT h2 b1 2 fun s5=>aF .i64 h2 b1 3 fun n6=>aT h2 b1 4 fun s7=>aj C fl fn.ep [.agg ⟨[vi n3,vi n4,vs s5,vi n6,vs s7]⟩] h2 fun v8 h9=>asInt .i64 v8 fun mb=>if (mb !=0)=true then kr none mb h9 else aF .i64 h9 b1 0 fun xA=>aF .i64 h9 b1 1 fun Bu=>aT h9 b1 2 fun VZ=>aj C fl fn.fB [.agg ⟨[vi xA,vi Bu,vs VZ]⟩] h9 fun v14 nX=>aE v14 fun l16=>ar l16 fun v17 l18=>ek v17 fun p19=>ar l18 fun v20 l21=>asInt .i64 v20 fun JU=>aM l21 (aF .i64 nX b1 0 fun n23=>aF .i64 nX b1 1 fun n24=>aT nX b1 2 fun s25=>aF .i64 nX b1 3 fun EI=>aT nX b1 4 fun s27=>bJ nX [.pointer p19,vi n23,vi n24,vs s25,vi EI,vs s27,.slice none 0 0,.bool false,vi 0,vi t1,.slice none 0 0,vi 0] fun b28 h29=>kr (some ⟨b28,0,none⟩) JU h29)
theorem aKL:(cp aKK (ce C fl k aDQ K))=aOu C fl k (cp aKJ (K .ret)):=by kernel_rfl
def qR(aw ax:Int)(ay:Sl)(bk:Int)(bj:Sl)(p1:Int)(h:AH):Option (Value×AH):=aOu C fl k (fun y4 y5 q=>some (.tuple ⟨[.pointer y4,vi y5]⟩,q)) aw ax ay bk bj p1 h
theorem O5(aw ax:Int)(ay:Sl)(bk:Int)(bj:Sl)(p1:Int)(h):aV C fl k nE [.agg ⟨[vi aw,vi ax,vs ay,vi bk,vs bj]⟩,vi p1] h=qR C fl k aw ax ay bk bj p1 h:=Uq (aKL C fl k (aG _)) aw ax ay bk bj p1 (by kernel_rfl) (by kernel_rfl)
def aju(t6:Int):List Value:=un 6 (vi t6::un 52 [])
def adu:aa:=.seq (.region [m 22 0,m 23 0,m 24 1,m 25 2,oI 26 (.call (.f 159) [.t 23,.t 24,.t 25] (.one (.one .slice))),m 27 7,oI 28 (.call (.f 158) [.t 22,.t 26,.t 27] (.one (.one .slice))),m 8 28] [7,22,23,24,25,26,27,28]) (.seq (.region [m 29 8,oI 30 (.call (.f 160) [.t 29] (.ke []))] [29,30]) (.seq (.region [m 31 0,m 32 1,m 33 8,oI 34 (.call (.f 161) [.t 31,.t 32,.t 33] (.one (.one .bool))),no 35 34] [31,32,33,34]) (.seq (.cond (.t 35) (.seq (.region [mc 6 11] [0,1,2,8,35]) (.ret)) (kl [35])) (.seq (.region [m 36 0,oI 37 (.cQ (.t 36)),fa 38 10 37,ls 39 38,ln 40 39,ck 41 .eql 40 65536] [36,37,38,39,40]) (.seq (.cond (.t 41) (.seq (.region [mc 6 8] [0,1,2,8,41]) (.ret)) (kl [41])) (.seq (.region [m 42 0,m 43 0,oI 44 (.cQ (.t 43)),fa 45 10 44,ls 46 45,m 47 8,oI 48 (.bq 1 [.slice none 0 0] [(0,1,.t 47)]),oI 49 (.append 1 24 (.t 46) (.t 48)),oI 50 (.cQ (.t 42)),fa 51 10 50,sI 1 51 49] [42,43,44,45,46,47,48,49,50,51]) (.seq (.region [m 52 0,m 53 1,m 54 2,m 55 8,m 56 0,oI 57 (.Da 128 [.t 56] []),oI 58 (.call (.f 162) [.t 52,.t 53,.t 54,.t 55,.t 57] (.one (.one (.int .i64)))),m 6 58] [0,1,2,8,52,53,54,55,56,57,58]) (.ret))))))))
def avT(t0:OA)(t1 t2:Sl)(t7:Int):List Value:=vn t0::t1.v::t2.v::un 4 (vi t7::un 51 [])
def avU(cn:aa):aa:=.seq (.seq (.region [mc 6 0] [6]) (.seq (.region [m 9 0,oI 10 (.cQ (.t 9)),fa 11 8 10,li 12 11,m 7 12] [9,10,11,12]) (.seq (.region [m 13 0,oI 14 (.cQ (.t 13)),fa 15 7 14,oI 16 (.load (.one .bool) (.t 15))] [13,14,15]) (.cond (.t 16) (.region [m 17 0,oI 18 (.cQ (.t 17)),fa 19 1 18,fa 20 3 19,li 21 20,m 7 21] [16,17,18,19,20,21]) (kl [16]))))) cn
def aDR:aa:=avU adu
abbrev kN(R:Type):=OA→Sl→Sl→AH→Option R
def avV(t0:OA)(t1 t2:Sl):List Value:=vn t0::t1.v::t2.v::un 56 []
def gA:aK:=⟨59,aDR,[.tmp 6]⟩
theorem CU:okF Tryz.prog 128 gA=true:=by kernel_rfl
def avW{R:Type}(C:Callee)(fl k:Nat)(kr:ah R):Sj R:=fun t0 t1 t2 t7 h=>aj C fl fn.eB [.pointer t0,vs t1,vs t2] h fun v1 h2=>aX v1 fun s3=>aj C fl fn.dz [.pointer t0,vs s3,vi t7] h2 fun v4 h5=>aX v4 fun s6=>aj C fl fn.xp [vs s6] h5 fun v7 h8=>aE v7 fun l9=>aM l9 (aj C fl fn.fN [.pointer t0,vs t1,vs s6] h8 fun v10 iH=>asBool v10 fun b12=>if (!b12)=true then kr 11 iH else bz (.pointer t0) fun p13=>aT iH p13.block (p13.off+10) fun TT=>if (((TT.l:Nat):Int)==65536)=true then kr 8 iH else bz (.pointer t0) fun YJ=>aT iH YJ.block (YJ.off+10) fun TR=>bJ iH [vs s6] fun b17 JR=>dn fl 1 24 TR ⟨(some ⟨b17,0,none⟩),1,1⟩ JR fun s19 Qn=>bz (.pointer t0) fun p21=>st fl Qn ⟨p21.block,p21.off+10,none⟩ [vs s19] fun TY=>aj C fl fn.dX [.pointer t0,vs t1,vs t2,vs s6,.func (.func fn.fL) ⟨[.pointer t0]⟩ ⟨[]⟩] TY fun v23 vt=>asInt .i64 v23 fun HU=>kr HU vt)
theorem ayO:(cp avT (ce C fl k adu K))=avW C fl k (cp aju (K .ret)):=by kernel_rfl
def arP{R:Type}(C:Callee)(fl k:Nat)(kx:Sj R)(kr:ah R):kN R:=fun t0 t1 t2 h=>bz (.pointer t0) fun p26=>aF .i64 h p26.block (p26.off+8) fun n27=>bz (.pointer t0) fun p28=>ldB h p28.block (p28.off+7) fun b29=>if b29=true then bz (.pointer t0) fun p30=>aF .i64 h p30.block (p30.off+1+3) fun n31=>kx t0 t1 t2 n31 h else kx t0 t1 t2 n27 h
def aOv(kr:ah R):kN R:=arP C fl k (avW C fl k kr) kr
theorem aKM(cn:aa):(cp avV (ce C fl k (avU cn) K))=arP C fl k (cp avT (ce C fl k cn K)) (cp aju (K .ret)):=by kernel_rfl
theorem aKN:(cp avV (ce C fl k aDR K))=aOv C fl k (cp aju (K .ret)):=(aKM C fl k K adu).trans (ag (fun L0=>arP C fl k L0 _) (ayO C fl k K))
def fL(p0:OA)(p1 p2:Sl)(h:AH):Option (Value×AH):=aOv C fl k (fun y6 q=>some (vi y6,q)) p0 p1 p2 h
theorem BC(p0:OA)(p1 p2:Sl)(h):aV C fl k gA [.pointer p0,vs p1,vs p2] h=fL C fl k p0 p1 p2 h:=tG (aKN C fl k (aG _)) p0 p1 p2 (by kernel_rfl) (by kernel_rfl)
def aKO(t6:Int):List Value:=un 6 (vi t6::un 50 [])
def aDS:aa:=.seq (.region [mc 6 0] [6]) (.seq (.region [m 7 0,oI 8 (.cQ (.t 7)),fa 9 11 8,lj 10 9,m 11 0,oI 12 (.cQ (.t 11)),fa 13 10 12,lt 14 13,ln 15 14,cm 16 .eql 10 15,m 17 16,.gL 17 false [qI 18 (.mv (.t 0)),qI 19 (.mv (.t 1)),qI 20 (.mv (.t 0)),qI 21 (.cQ (.t 20)),qI 22 (.cW 10 (.t 21)),qJ 23 (.load (.one .slice) (.t 22)),qI 24 (.mv (.t 0)),qI 25 (.cQ (.t 24)),qI 26 (.cW 11 (.t 25)),qJ 27 (.load (.one (.int .i64)) (.t 26)),qI 28 (.eE 1 (.t 23) (.t 27)),qI 29 (.load (.one .slice) (.t 28)),qI 30 (.call (.f 161) [.t 18,.t 19,.t 29] (.one (.one .bool))),qI 31 (.not (.t 30))],oI 32 (.pick (.t 17) (.c (.bool true)) (.t 31))] [7,8,9,10,11,12,13,14,15,16,17,18,19,20,21,22,23,24,25,26,27,28,29,30,31]) (.seq (.cond (.t 32) (.seq (.region [mc 6 13] [0,1,2,32]) (.ret)) (kl [32])) (.seq (.region [m 33 0,oI 34 (.cQ (.t 33)),fa 35 11 34,li 36 35,bc 37 .add 36 1,oI 38 (.cQ (.t 33)),fa 39 11 38,sI 1 39 37] [33,34,35,36,37,38,39]) (.seq (.region [m 40 0,m 41 1,m 42 2,m 43 0,oI 44 (.cQ (.t 43)),fa 45 10 44,lt 46 45,m 47 0,oI 48 (.cQ (.t 47)),fa 49 11 48,lj 50 49,bc 51 .sub 50 1,ia 52 1 46 51,ls 53 52,m 54 0,oI 55 (.Da 134 [.t 54] []),oI 56 (.call (.f 162) [.t 40,.t 41,.t 42,.t 53,.t 55] (.one (.one (.int .i64)))),m 6 56] [0,1,2,40,41,42,43,44,45,46,47,48,49,50,51,52,53,54,55,56]) (.ret)))))
def aKP(t0:OA)(t1 t2:Sl):List Value:=vn t0::t1.v::t2.v::un 54 []
def gB:aK:=⟨57,aDS,[.tmp 6]⟩
theorem CV:okF Tryz.prog 134 gB=true:=by kernel_rfl
def aOw{R:Type}(C:Callee)(fl k:Nat)(kr:ah R):kN R:=fun t0 t1 t2 h=>bz (.pointer t0) fun p1=>aF .i64 h p1.block (p1.off+11) fun n2=>bz (.pointer t0) fun p3=>aT h p3.block (p3.off+10) fun s4=>if (n2==((s4.l:Nat):Int))=false then bz (.pointer t0) fun p5=>aT h p5.block (p5.off+10) fun s6=>bz (.pointer t0) fun p7=>aF .i64 h p7.block (p7.off+11) fun n8=>idx 1 s6 n8 fun p9=>aT h p9.block p9.off fun s10=>aj C fl fn.fN [.pointer t0,vs t1,vs s10] h fun v11 zN=>asBool v11 fun b13=>if (!b13)=true then kr 13 zN else bz (.pointer t0) fun p14=>aF .i64 zN p14.block (p14.off+11) fun qD=>bz (.pointer t0) fun p16=>st fl zN ⟨p16.block,p16.off+11,none⟩ [vi (av (qD+1))] fun yK=>bz (.pointer t0) fun p18=>aT yK p18.block (p18.off+10) fun s19=>bz (.pointer t0) fun p20=>aF .i64 yK p20.block (p20.off+11) fun n21=>idx 1 s19 (av (n21-1)) fun p22=>aT yK p22.block p22.off fun s23=>aj C fl fn.dX [.pointer t0,vs t1,vs t2,vs s23,.func (.func fn.fM) ⟨[.pointer t0]⟩ ⟨[]⟩] yK fun v24 h25=>asInt .i64 v24 fun EI=>kr EI h25 else kr 13 h
theorem aKQ:(cp aKP (ce C fl k aDS K))=aOw C fl k (cp aKO (K .ret)):=by kernel_rfl
def fM(p0:OA)(p1 p2:Sl)(h:AH):Option (Value×AH):=aOw C fl k (fun y6 q=>some (vi y6,q)) p0 p1 p2 h
theorem BD(p0:OA)(p1 p2:Sl)(h):aV C fl k gB [.pointer p0,vs p1,vs p2] h=fM C fl k p0 p1 p2 h:=tG (aKQ C fl k (aG _)) p0 p1 p2 (by kernel_rfl) (by kernel_rfl)
def zm(t6:Bool):List Value:=un 6 (.bool t6::un 71 [])
def AQ:aa:=.seq (.region [oI 6 (.mv (.c (.bool true)))] []) (.ret)
def ajv:List Value:=un 78 []
def Sz(t8:Sl)(t12:Int):List Value:=un 8 (t8.v::un 3 (vi t12::un 65 []))
def AR:aa:=.seq (.region [m 67 12,m 68 8,ln 69 68,cm 70 .lss 67 69] [67,68,69]) (.seq (.cond (.t 70) (kl [70]) (.seq (kl [8,12,70]) (.exit 4))) (.seq (.block 5 (.seq (.region [m 73 8,m 74 12,ia 75 1 73 74,li 76 75,ck 77 .neq 76 0] [73,74,75,76]) (.cond (.t 77) (.seq (.region [oI 6 (.mv (.c (.bool false)))] [8,12,77]) (.ret)) (kl [77])))) (.region [m 71 12,bc 72 .add 71 1,m 12 72] [71,72])))
def F3:aa:=.seq (.block 4 (.loop AR)) AQ
def XC(cn:aa):aa:=.seq (.region [mc 12 0] []) cn
def O6:aa:=XC F3
def Cd(t8:Sl):List Value:=un 8 (t8.v::un 69 [])
abbrev dM(R:Type):=Sl→Int→Int→Sl→Int→AH→Option R
def ei(t0:Sl)(t2 t7:Int)(t8:Sl)(t9:Int):List Value:=t0.v::un 1 (vi t2::un 4 (vi t7::t8.v::vi t9::un 68 []))
def sg:aa:=.region [m 27 9,bc 28 .sub 27 1,m 9 28] [27,28]
def pG:aa:=.region [m 64 8,m 65 9,ia 66 1 64 65,pI (.store 1 (.t 66) (ci 0))] [64,65,66]
abbrev SA(R:Type):=Sl→Int→Int→Sl→Int→Int→Int→AH→Option R
def SB(t0:Sl)(t2 t7:Int)(t8:Sl)(t9 t10 t11:Int):List Value:=t0.v::un 1 (vi t2::un 4 (vi t7::t8.v::vi t9::vi t10::vi t11::un 66 []))
def pH:aa:=.seq (.region [m 33 11,m 34 7,cm 35 .lss 33 34] [33,34]) (.seq (.cond (.t 35) (kl [35]) (.seq (kl [10,11,35]) (.exit 2))) (.seq (.block 3 (.region [m 38 8,m 39 9,m 40 7,bb 41 .sub 39 40,m 42 11,bb 43 .add 41 42,m 44 8,m 45 9,m 46 7,bb 47 .sub 45 46,m 48 11,bb 49 .add 47 48,ia 50 1 44 49,lj 51 50,m 52 2,m 53 10,bb 54 .sub 52 53,m 55 0,m 56 11,ia 57 1 55 56,lj 58 57,bb 59 .mul 54 58,bb 60 .add 51 59,m 61 2,bb 62 .rem 60 61,ia 63 1 38 43,sI 1 63 62] [38,39,40,41,42,43,44,45,46,47,48,49,50,51,52,53,54,55,56,57,58,59,60,61,62,63])) (.region [m 36 11,bc 37 .add 36 1,m 11 37] [36,37])))
def uK:aa:=.seq (.block 2 (.loop pH)) pG
def Hy(cn:aa):aa:=.seq (.seq (.region [m 29 8,m 30 9,ia 31 1 29 30,li 32 31,m 10 32] [29,30,31,32]) (.region [mc 11 0] [])) cn
def AS:aa:=Hy uK
def MA(cn fJ:aa):aa:=.seq (.block 1 fJ) cn
def F4:aa:=MA sg AS
def XD(cn:aa):aa:=.seq (.seq (.region [m 24 9,m 25 7,cm 26 .geq 24 25] [24,25]) (.cond (.t 26) (kl [26]) (.seq (kl [0,2,7,9,26]) (.exit 0)))) cn
def O7:aa:=XD F4
def adv:aa:=.seq (.block 0 (.loop O7)) O6
def avX(cn:aa):aa:=.seq (.seq (.region [oI 6 (.mv (.c (.bool false)))] [6]) (.seq (.region [m 13 0,ln 14 13,m 7 14] [13,14]) (.seq (.region [oI 15 (.bq 0 [] []),m 16 1,oI 17 (.append 1 8 (.t 15) (.t 16)),m 8 17] [1,15,16,17]) (.seq (.region [m 18 8,oI 19 (.bq 1 [.int .i64 0] [(0,1,ci 1)]),oI 20 (.append 1 8 (.t 18) (.t 19)),m 8 20] [18,19,20]) (.region [m 21 8,ln 22 21,bc 23 .sub 22 1,m 9 23] [21,22,23]))))) cn
def aDT:aa:=avX adv
def avY(t0 t1:Sl)(t2:Int):List Value:=t0.v::t1.v::vi t2::un 75 []
def oO:aK:=⟨78,aDT,[.tmp 6]⟩
theorem Vh:okF Tryz.prog 136 oO=true:=by kernel_rfl
def CW{R:Type}(C:Callee)(fl k:Nat)(kr:aC R):au R:=fun h=>kr true h
theorem ZI:(cp ajv (ce C fl k AQ K))=CW C fl k (cp zm (K .ret)):=by kernel_rfl
def jC{R:Type}(C:Callee)(fl k:Nat)(kn:aO R)(e4:au R)(kr:aC R):aO R:=fun t8 t12 h=>if decide (t12<((t8.l:Nat):Int))=true then idx 1 t8 t12 fun p1=>aF .i64 h p1.block p1.off fun n2=>if (n2 !=0)=true then kr false h else kn t8 (av (t12+1)) h else e4 h
theorem ZJ:(cp Sz (ce C fl k AR K))=jC C fl k (cp Sz (K .normal)) (cp ajv (K (.exit 4))) (cp zm (K .ret)):=by kernel_rfl
def om(kn:au R)(kr:aC R):Nat→aO R
 |0=>fun _ _ _=>none
 |m+1=>jC C fl k (om kn kr m) kn kr
theorem Hz:∀m,(cp Sz (aQ m (aW C fl k AR 4 K)))=om C fl k (cp ajv (K .normal)) (cp zm (K .ret)) m
 |0=>by kernel_rfl
 |m+1=>gu (ZJ C fl k _) (ag (fun L=>jC C fl k L _ _) (Hz m))
def Jh(kr:aC R):aO R:=om C fl k (CW C fl k kr) kr k
theorem aft:(cp Sz (ce C fl k F3 K))=Jh C fl k (cp zm (K .ret)):=(iP (gv (Hz C fl k (bw C fl k AQ K)))).trans (ag (fun L=>om C fl k L _ k) (iL (ZI C fl k K)))
def F5{R:Type}(C:Callee)(fl k:Nat)(kx:aO R)(kr:aC R):ab R:=fun t8 h=>kx t8 0 h
def KV(kr:aC R):ab R:=F5 C fl k (Jh C fl k kr) kr
theorem anQ(cn:aa):(cp Cd (ce C fl k (XC cn) K))=F5 C fl k (cp Sz (ce C fl k cn K)) (cp zm (K .ret)):=by kernel_rfl
theorem anR:(cp Cd (ce C fl k O6 K))=KV C fl k (cp zm (K .ret)):=(anQ C fl k K F3).trans (ag (fun L0=>F5 C fl k L0 _) (aft C fl k K))
def oq{R:Type}(C:Callee)(fl k:Nat)(kn:dM R)(e0:ab R):dM R:=fun t0 t2 t7 t8 t9 h=>kn t0 t2 t7 t8 (av (t9-1)) h
theorem HA:(cp ei (ce C fl k sg K))=oq C fl k (cp ei (K .normal)) (cp Cd (K (.exit 0))):=by kernel_rfl
def lT{R:Type}(C:Callee)(fl k:Nat)(kn:dM R):dM R:=fun t0 t2 t7 t8 t9 h=>idx 1 t8 t9 fun p3=>st fl h p3 [vi 0] fun h4=>kn t0 t2 t7 t8 t9 h4
theorem LS:(cp ei (ce C fl k pG K))=lT C fl k (cp ei (K .normal)):=by kernel_rfl
def fj{R:Type}(C:Callee)(fl k:Nat)(kn:SA R)(e2:dM R):SA R:=fun t0 t2 t7 t8 t9 t10 t11 h=>if decide (t11<t7)=true then idx 1 t8 (av (av (t9-t7)+t11)) fun p5=>aF .i64 h p5.block p5.off fun n6=>idx 1 t0 t11 fun p7=>aF .i64 h p7.block p7.off fun n8=>j6 .rem .i64 (av (n6+(av (av (t2-t10)*n8)))) t2 fun n9=>idx 1 t8 (av (av (t9-t7)+t11)) fun Qo=>st fl h Qo [vi n9] fun iH=>kn t0 t2 t7 t8 t9 t10 (av (t11+1)) iH else e2 t0 t2 t7 t8 t9 h
theorem LU:(cp SB (ce C fl k pH K))=fj C fl k (cp SB (K .normal)) (cp ei (K (.exit 2))):=by kernel_rfl
def jn(kn:dM R):Nat→SA R
 |0=>fun _ _ _ _ _ _ _ _=>none
 |m+1=>fj C fl k (jn kn m) kn
theorem yv:∀m,(cp SB (aQ m (aW C fl k pH 2 K)))=jn C fl k (cp ei (K .normal)) m
 |0=>by kernel_rfl
 |m+1=>gu (LU C fl k _) (ag (fun L=>fj C fl k L _) (yv m))
def xO(kn:dM R):SA R:=jn C fl k (lT C fl k kn) k
theorem SC:(cp SB (ce C fl k uK K))=xO C fl k (cp ei (K .normal)):=(iP (gv (yv C fl k (bw C fl k pG K)))).trans (ag (fun L=>jn C fl k L k) (iL (LS C fl k K)))
def sn{R:Type}(C:Callee)(fl k:Nat)(kx:SA R)(kn:dM R):dM R:=fun t0 t2 t7 t8 t9 h=>idx 1 t8 t9 fun MR=>aF .i64 h MR.block MR.off fun BL=>kx t0 t2 t7 t8 t9 BL 0 h
def wI(kn:dM R):dM R:=sn C fl k (xO C fl k kn) kn
theorem ZK(cn:aa):(cp ei (ce C fl k (Hy cn) K))=sn C fl k (cp SB (ce C fl k cn K)) (cp ei (K .normal)):=by kernel_rfl
theorem ZL:(cp ei (ce C fl k AS K))=wI C fl k (cp ei (K .normal)):=(ZK C fl k K uK).trans (ag (fun L0=>sn C fl k L0 _) (SC C fl k K))
def zn{R:Type}(C:Callee)(fl k:Nat)(kx:dM R)(u0:dM R)(kn:dM R)(e0:ab R):dM R:=fun t0 t2 t7 t8 t9 h=>u0 t0 t2 t7 t8 t9 h
def Ji(kn:dM R)(e0:ab R):dM R:=zn C fl k (oq C fl k kn e0) (wI C fl k (oq C fl k kn e0)) kn e0
theorem afu(cn fJ:aa):(cp ei (ce C fl k (MA cn fJ) K))=zn C fl k (cp ei (ce C fl k cn K)) (cp ei (ce C fl k fJ (iK 1 (bw C fl k cn K)))) (cp ei (K .normal)) (cp Cd (K (.exit 0))):=by kernel_rfl
theorem afv:(cp ei (ce C fl k F4 K))=Ji C fl k (cp ei (K .normal)) (cp Cd (K (.exit 0))):=(afu C fl k K sg AS).trans (gG (fun L0 L1=>zn C fl k L0 L1 _ _) (HA C fl k K) ((ZL C fl k (iK 1 (bw C fl k sg K))).trans (ag (fun L0=>wI C fl k L0) (bn1 (HA C fl k K)))))
def AT{R:Type}(C:Callee)(fl k:Nat)(kx:dM R)(kn:dM R)(e0:ab R):dM R:=fun t0 t2 t7 t8 t9 h=>if decide (t9≥t7)=true then kx t0 t2 t7 t8 t9 h else e0 t8 h
def uL(kn:dM R)(e0:ab R):dM R:=AT C fl k (Ji C fl k kn e0) kn e0
theorem anS(cn:aa):(cp ei (ce C fl k (XD cn) K))=AT C fl k (cp ei (ce C fl k cn K)) (cp ei (K .normal)) (cp Cd (K (.exit 0))):=by kernel_rfl
theorem anT:(cp ei (ce C fl k O7 K))=uL C fl k (cp ei (K .normal)) (cp Cd (K (.exit 0))):=(anS C fl k K F4).trans (ag (fun L0=>AT C fl k L0 _ _) (afv C fl k K))
def qq(kn:ab R):Nat→dM R
 |0=>fun _ _ _ _ _ _=>none
 |m+1=>uL C fl k (qq kn m) kn
theorem XE:∀m,(cp ei (aQ m (aW C fl k O7 0 K)))=qq C fl k (cp Cd (K .normal)) m
 |0=>by kernel_rfl
 |m+1=>gu (anT C fl k _) (ag (fun L=>uL C fl k L _) (XE m))
def F6(kr:aC R):dM R:=qq C fl k (KV C fl k kr) k
theorem ayP:(cp ei (ce C fl k adv K))=F6 C fl k (cp zm (K .ret)):=(iP (gv (XE C fl k (bw C fl k O6 K)))).trans (ag (fun L=>qq C fl k L k) (iL (anR C fl k K)))
def ajw{R:Type}(C:Callee)(fl k:Nat)(kx:dM R)(kr:aC R):gw R:=fun t0 t1 t2 h=>bJ h [] fun GM nX=>dn fl 1 8 ⟨(some ⟨GM,0,none⟩),0,0⟩ t1 nX fun TR yK=>bJ yK [vi 1] fun b18 Mf=>dn fl 1 8 TR ⟨(some ⟨b18,0,none⟩),1,1⟩ Mf fun YI yL=>kx t0 t2 ((t0.l:Nat):Int) YI (av (((YI.l:Nat):Int)-1)) yL
def aDU(kr:aC R):gw R:=ajw C fl k (F6 C fl k kr) kr
theorem aKR(cn:aa):(cp avY (ce C fl k (avX cn) K))=ajw C fl k (cp ei (ce C fl k cn K)) (cp zm (K .ret)):=by kernel_rfl
theorem aKS:(cp avY (ce C fl k aDT K))=aDU C fl k (cp zm (K .ret)):=(aKR C fl k K adv).trans (ag (fun L0=>ajw C fl k L0 _) (ayP C fl k K))
def oh(p0 p1:Sl)(p2:Int)(h:AH):Option (Value×AH):=aDU C fl k (fun y6 q=>some (.bool y6,q)) p0 p1 p2 h
theorem SD(p0 p1:Sl)(p2:Int)(h):aV C fl k oO [vs p0,vs p1,vi p2] h=oh C fl k p0 p1 p2 h:=tG (aKS C fl k (aG _)) p0 p1 p2 (by kernel_rfl) (by kernel_rfl)
def aa0(t6:Sl):List Value:=un 6 (t6.v::un 19 [])
def O8:aa:=.seq (.region [m 25 7,m 6 25] [7,25]) (.ret)
def ajx(t7:Sl):List Value:=un 7 (t7.v::un 18 [])
abbrev SE(R:Type):=Int→Int→Int→Sl→Int→AH→Option R
def SF(t0 t1 t2:Int)(t7:Sl)(t8:Int):List Value:=vi t0::vi t1::vi t2::un 4 (t7.v::vi t8::un 17 [])
def O9:aa:=.seq (.region [m 11 8,m 12 2,cm 13 .lss 11 12] [11,12]) (.seq (.cond (.t 13) (kl [13]) (.seq (kl [0,1,2,8,13]) (.exit 0))) (.seq (.block 1 (.seq (.region [m 16 7,m 17 8,m 18 0,m 19 1,bb 20 .rem 18 19,ia 21 1 16 17,sI 1 21 20] [16,17,18,19,20,21]) (.region [m 22 0,m 23 1,bb 24 .quo 22 23,m 0 24] [22,23,24]))) (.region [m 14 8,bc 15 .add 14 1,m 8 15] [14,15])))
def adw:aa:=.seq (.block 0 (.loop O9)) O8
def avZ(cn:aa):aa:=.seq (.seq (.region [oI 6 (.mv (.c (.slice none 0 0)))] [6]) (.seq (.region [m 9 2,oI 10 (.dj 8 [.int .i64 0] (.t 9) (.t 9)),m 7 10] [9,10]) (.region [mc 8 0] []))) cn
def aDV:aa:=avZ adw
def av0(t0 t1 t2:Int):List Value:=vi t0::vi t1::vi t2::un 23 []
def so:aK:=⟨26,aDV,[.tmp 6]⟩
theorem ZM:okF Tryz.prog 137 so=true:=by kernel_rfl
def Vi{R:Type}(C:Callee)(fl k:Nat)(kr:ab R):ab R:=fun t7 h=>kr t7 h
theorem anU:(cp ajx (ce C fl k O8 K))=Vi C fl k (cp aa0 (K .ret)):=by kernel_rfl
def uM{R:Type}(C:Callee)(fl k:Nat)(kn:SE R)(e0:ab R):SE R:=fun t0 t1 t2 t7 t8 h=>if decide (t8<t2)=true then j6 .rem .i64 t0 t1 fun n1=>idx 1 t7 t8 fun p2=>st fl h p2 [vi n1] fun h3=>j6 .quo .i64 t0 t1 fun n4=>kn n4 t1 t2 t7 (av (t8+1)) h3 else e0 t7 h
theorem anV:(cp SF (ce C fl k O9 K))=uM C fl k (cp SF (K .normal)) (cp ajx (K (.exit 0))):=by kernel_rfl
def D3(kn:ab R):Nat→SE R
 |0=>fun _ _ _ _ _ _=>none
 |m+1=>uM C fl k (D3 kn m) kn
theorem XF:∀m,(cp SF (aQ m (aW C fl k O9 0 K)))=D3 C fl k (cp ajx (K .normal)) m
 |0=>by kernel_rfl
 |m+1=>gu (anV C fl k _) (ag (fun L=>uM C fl k L _) (XF m))
def av1(kr:ab R):SE R:=D3 C fl k (Vi C fl k kr) k
theorem ayQ:(cp SF (ce C fl k adw K))=av1 C fl k (cp aa0 (K .ret)):=(iP (gv (XF C fl k (bw C fl k O8 K)))).trans (ag (fun L=>D3 C fl k L k) (iL (anU C fl k K)))
def ajy{R:Type}(C:Callee)(fl k:Nat)(kx:SE R)(kr:ab R):BX R:=fun t0 t1 t2 h=>qF 8 [.int .i64 0] t2 t2 h fun s5 h6=>kx t0 t1 t2 s5 0 h6
def aDW(kr:ab R):BX R:=ajy C fl k (av1 C fl k kr) kr
theorem aKT(cn:aa):(cp av0 (ce C fl k (avZ cn) K))=ajy C fl k (cp SF (ce C fl k cn K)) (cp aa0 (K .ret)):=by kernel_rfl
theorem aKU:(cp av0 (ce C fl k aDV K))=aDW C fl k (cp aa0 (K .ret)):=(aKT C fl k K adw).trans (ag (fun L0=>ajy C fl k L0 _) (ayQ C fl k K))
def mZ(p0 p1 p2:Int)(h:AH):Option (Value×AH):=aDW C fl k (fun y6 q=>some (vs y6,q)) p0 p1 p2 h
theorem Vj(p0 p1 p2:Int)(h):aV C fl k so [vi p0,vi p1,vi p2] h=mZ C fl k p0 p1 p2 h:=tG (aKU C fl k (aG _)) p0 p1 p2 (by kernel_rfl) (by kernel_rfl)
def aKV(t2:Bool):List Value:=un 2 (.bool t2::un 2 [])
def aDX:aa:=.seq (.region [oI 2 (.mv (.c (.bool false)))] [2]) (.seq (.region [m 3 0,ck 4 .neq 3 0,m 2 4] [0,3,4]) (.ret))
def aKW(t0:Int):List Value:=vi t0::un 4 []
def iE:aK:=⟨5,aDX,[.tmp 2]⟩
theorem F7:okF Tryz.prog 138 iE=true:=by kernel_rfl
def aOx{R:Type}(C:Callee)(fl k:Nat)(kr:aC R):ah R:=fun t0 h=>kr (t0 !=0) h
theorem aKX:(cp aKW (ce C fl k aDX K))=aOx C fl k (cp aKV (K .ret)):=by kernel_rfl
def jM(p0:Int)(h:AH):Option (Value×AH):=aOx C fl k (fun y2 q=>some (.bool y2,q)) p0 h
theorem D4(p0:Int)(h):aV C fl k iE [vi p0] h=jM C fl k p0 h:=IU (aKX C fl k (aG _)) p0 (by kernel_rfl) (by kernel_rfl)
def aKY(t4 t5:Int):List Value:=un 4 (vi t4::vi t5::un 30 [])
def aDY:aa:=.seq (.region [mc 4 0,mc 5 0] [4,5]) (.seq (.region [m 6 0,m 7 1,oI 8 (.call (.f 144) [.t 6,.t 7] (.one (.one (.int .i64)))),m 1 8] [6,7,8]) (.seq (.region [m 9 1,ck 10 .eql 9 0] [9]) (.seq (.cond (.t 10) (.seq (.region [mc 4 0,mc 5 7] [0,1,10]) (.ret)) (kl [10])) (.seq (.region [m 11 0,oI 12 (.cQ (.t 11)),fa 13 4 12,lt 14 13,m 15 0,oI 16 (.cQ (.t 15)),fa 17 3 16,lj 18 17,bc 19 .sub 18 1,m 20 0,oI 21 (.cQ (.t 20)),fa 22 5 21,lt 23 22,m 24 1,ia 25 1 23 24,lj 26 25,bb 27 .sub 19 26,m 28 0,oI 29 (.cQ (.t 28)),fa 30 3 29,lj 31 30,bc 32 .sub 31 1,bb 33 .rem 27 32,ia 34 1 14 33,li 35 34,m 4 35,mc 5 0] [0,1,11,12,13,14,15,16,17,18,19,20,21,22,23,24,25,26,27,28,29,30,31,32,33,34,35]) (.ret)))))
def aKZ(t0:OA)(t1:Int):List Value:=vn t0::vi t1::un 34 []
def sq:aK:=⟨36,aDY,[.tmp 4,.tmp 5]⟩
theorem ZN:okF Tryz.prog 139 sq=true:=by kernel_rfl
def aDZ{R:Type}(C:Callee)(fl k:Nat)(kr:cL R):di R:=fun t0 t1 h=>aj C fl fn.gn [.pointer t0,vi t1] h fun v1 h2=>asInt .i64 v1 fun n3=>if (n3==0)=true then kr 0 7 h2 else bz (.pointer t0) fun p4=>aT h2 p4.block (p4.off+4) fun s5=>bz (.pointer t0) fun p6=>aF .i64 h2 p6.block (p6.off+3) fun n7=>bz (.pointer t0) fun p8=>aT h2 p8.block (p8.off+5) fun s9=>idx 1 s9 n3 fun Qo=>aF .i64 h2 Qo.block Qo.off fun xA=>bz (.pointer t0) fun MR=>aF .i64 h2 MR.block (MR.off+3) fun BL=>j6 .rem .i64 (av (av (n7-1)-xA)) (av (BL-1)) fun Bv=>idx 1 s5 Bv fun YJ=>aF .i64 h2 YJ.block YJ.off fun HT=>kr HT 0 h2
theorem aK0:(cp aKZ (ce C fl k aDY K))=aDZ C fl k (cp aKY (K .ret)):=by kernel_rfl
def fS(p0:OA)(p1:Int)(h:AH):Option (Value×AH):=aDZ C fl k (fun y4 y5 q=>some (.tuple ⟨[vi y4,vi y5]⟩,q)) p0 p1 h
theorem D5(p0:OA)(p1:Int)(h):aV C fl k sq [.pointer p0,vi p1] h=fS C fl k p0 p1 h:=tF (aK0 C fl k (aG _)) p0 p1 (by kernel_rfl) (by kernel_rfl)
def aa1(t6:Sl):List Value:=un 6 (t6.v::un 22 [])
def Pa:aa:=.seq (.region [m 28 7,m 6 28] [7,28]) (.ret)
def ajz(t7:Sl):List Value:=un 7 (t7.v::un 21 [])
abbrev SG(R:Type):=OA→Int→Sl→Sl→Int→Int→AH→Option R
def SH(t0:OA)(t1:Int)(t7 t13:Sl)(t14 t15:Int):List Value:=vn t0::vi t1::un 5 (t7.v::un 5 (t13.v::vi t14::vi t15::un 13 []))
def Pb:aa:=.seq (.region [cm 16 .lss 15 14] []) (.seq (.cond (.t 16) (kl [16]) (.seq (kl [0,1,13,14,15,16]) (.exit 0))) (.seq (.block 1 (.seq (.region [m 17 15,ia 18 1 13 15,li 19 18,m 8 17,m 9 19] [17,18,19]) (.region [m 20 7,m 21 8,m 22 0,m 23 1,m 24 9,oI 25 (.call (.f 120) [.t 22,.t 23,.t 24] (.one (.one (.int .i64)))),ia 26 1 20 21,sI 1 26 25] [8,9,20,21,22,23,24,25,26]))) (.region [bc 27 .add 15 1,m 15 27] [27])))
def adx:aa:=.seq (.block 0 (.loop Pb)) Pa
def av2(cn:aa):aa:=.seq (.seq (.region [oI 6 (.mv (.c (.slice none 0 0)))] [6]) (.seq (.region [m 10 2,ln 11 10,oI 12 (.dj 8 [.int .i64 0] (.t 11) (.t 11)),m 7 12] [10,11,12]) (.region [m 13 2,ln 14 13,mc 15 0] [2]))) cn
def aD0:aa:=av2 adx
abbrev SJ(R:Type):=OA→Int→Sl→AH→Option R
def av3(t0:OA)(t1:Int)(t2:Sl):List Value:=vn t0::vi t1::t2.v::un 26 []
def nF:aK:=⟨29,aD0,[.tmp 6]⟩
theorem SK:okF Tryz.prog 140 nF=true:=by kernel_rfl
def Vk{R:Type}(C:Callee)(fl k:Nat)(kr:ab R):ab R:=fun t7 h=>kr t7 h
theorem anW:(cp ajz (ce C fl k Pa K))=Vk C fl k (cp aa1 (K .ret)):=by kernel_rfl
def uN{R:Type}(C:Callee)(fl k:Nat)(kn:SG R)(e0:ab R):SG R:=fun t0 t1 t7 t13 t14 t15 h=>if decide (t15<t14)=true then idx 1 t13 t15 fun p1=>aF .i64 h p1.block p1.off fun n2=>aj C fl fn.dy [.pointer t0,vi t1,vi n2] h fun v3 h4=>asInt .i64 v3 fun n5=>idx 1 t7 t15 fun p6=>st fl h4 p6 [vi n5] fun h7=>kn t0 t1 t7 t13 t14 (av (t15+1)) h7 else e0 t7 h
theorem anX:(cp SH (ce C fl k Pb K))=uN C fl k (cp SH (K .normal)) (cp ajz (K (.exit 0))):=by kernel_rfl
def D6(kn:ab R):Nat→SG R
 |0=>fun _ _ _ _ _ _ _=>none
 |m+1=>uN C fl k (D6 kn m) kn
theorem XG:∀m,(cp SH (aQ m (aW C fl k Pb 0 K)))=D6 C fl k (cp ajz (K .normal)) m
 |0=>by kernel_rfl
 |m+1=>gu (anX C fl k _) (ag (fun L=>uN C fl k L _) (XG m))
def av4(kr:ab R):SG R:=D6 C fl k (Vk C fl k kr) k
theorem ayR:(cp SH (ce C fl k adx K))=av4 C fl k (cp aa1 (K .ret)):=(iP (gv (XG C fl k (bw C fl k Pa K)))).trans (ag (fun L=>D6 C fl k L k) (iL (anW C fl k K)))
def ajA{R:Type}(C:Callee)(fl k:Nat)(kx:SG R)(kr:ab R):SJ R:=fun t0 t1 t2 h=>qF 8 [.int .i64 0] ((t2.l:Nat):Int) ((t2.l:Nat):Int) h fun s8 h9=>kx t0 t1 s8 t2 ((t2.l:Nat):Int) 0 h9
def aD1(kr:ab R):SJ R:=ajA C fl k (av4 C fl k kr) kr
theorem aK1(cn:aa):(cp av3 (ce C fl k (av2 cn) K))=ajA C fl k (cp SH (ce C fl k cn K)) (cp aa1 (K .ret)):=by kernel_rfl
theorem aK2:(cp av3 (ce C fl k aD0 K))=aD1 C fl k (cp aa1 (K .ret)):=(aK1 C fl k K adx).trans (ag (fun L0=>ajA C fl k L0 _) (ayR C fl k K))
def gm(p0:OA)(p1:Int)(p2:Sl)(h:AH):Option (Value×AH):=aD1 C fl k (fun y6 q=>some (vs y6,q)) p0 p1 p2 h
theorem AU(p0:OA)(p1:Int)(p2:Sl)(h):aV C fl k nF [.pointer p0,vi p1,vs p2] h=gm C fl k p0 p1 p2 h:=tG (aK2 C fl k (aG _)) p0 p1 p2 (by kernel_rfl) (by kernel_rfl)
def sr(t4:Int):List Value:=un 4 (vi t4::un 46 [])
def AV:aa:=.seq (.region [mc 4 0] []) (.ret)
def ajB:List Value:=un 51 []
def SL(t0:OA)(t38:Sl)(t39 t40:Int):List Value:=vn t0::un 37 (t38.v::vi t39::vi t40::un 10 [])
def AW:aa:=.seq (.region [cm 41 .lss 40 39] []) (.seq (.cond (.t 41) (kl [41]) (.seq (kl [0,38,39,40,41]) (.exit 2))) (.seq (.block 3 (.seq (.region [ia 42 1 38 40,ls 43 42,m 8 43] [42,43]) (.seq (.region [m 44 0,m 45 8,oI 46 (.call (.f 110) [.t 44,.t 45] (.one (.one (.int .i64)))),m 9 46] [8,44,45,46]) (.seq (.region [m 47 9,ck 48 .neq 47 0] [47]) (.cond (.t 48) (.seq (.region [m 49 9,m 4 49] [0,9,38,39,40,48,49]) (.ret)) (kl [9,48])))))) (.region [bc 50 .add 40 1,m 40 50] [50])))
def F8:aa:=.seq (.block 2 (.loop AW)) AV
def XH(cn:aa):aa:=.seq (.region [fa 37 1 3,ls 38 37,ln 39 38,mc 40 0] [3,37]) cn
def Pc:aa:=XH F8
abbrev SM(R:Type):=OA→Addr→AH→Option R
def aa2(t0:OA)(t3:Addr):List Value:=vn t0::un 2 (vp t3::un 47 [])
abbrev SN(R:Type):=OA→Addr→Sl→Int→Int→AH→Option R
def SO(t0:OA)(t3:Addr)(t25:Sl)(t26 t27:Int):List Value:=vn t0::un 2 (vp t3::un 21 (t25.v::vi t26::vi t27::un 23 []))
def Pd:aa:=.seq (.region [cm 28 .lss 27 26] []) (.seq (.cond (.t 28) (kl [28]) (.seq (kl [25,26,27,28]) (.exit 0))) (.seq (.block 1 (.seq (.region [ia 29 1 25 27,ls 30 29,m 6 30] [29,30]) (.seq (.region [m 31 6,ln 32 31,fa 33 0 3,li 34 33,cm 35 .neq 32 34] [6,31,32,33,34]) (.cond (.t 35) (.seq (.region [mc 4 3] [0,3,25,26,27,35]) (.ret)) (kl [35]))))) (.region [bc 36 .add 27 1,m 27 36] [36])))
def ady:aa:=.seq (.block 0 (.loop Pd)) Pc
def av5(cn:aa):aa:=.seq (.seq (.region [oI 3 (.box (.t 1)),mc 4 0] [1,4]) (.seq (.region [fa 10 0 3,li 11 10,ck 12 .lss 11 0,m 13 12,.gL 13 false [qI 14 (.cW 0 (.t 3)),qI 15 (.load (.one (.int .i64)) (.t 14)),qI 16 (.cmp .gtr .i64 (.t 15) (ci 256))],oI 17 (.pick (.t 13) (.c (.bool true)) (.t 16)),m 18 17,.gL 18 false [qI 19 (.cW 1 (.t 3)),qI 20 (.load (.one .slice) (.t 19)),qI 21 (.len (.t 20)),qI 22 (.cmp .gtr .i64 (.t 21) (ci 256))],oI 23 (.pick (.t 18) (.c (.bool true)) (.t 22))] [10,11,12,13,14,15,16,17,18,19,20,21,22]) (.seq (.cond (.t 23) (.seq (.region [mc 4 3] [0,3,23]) (.ret)) (kl [23])) (.region [fa 24 1 3,ls 25 24,ln 26 25,mc 27 0] [24])))) cn
def aD2:aa:=av5 ady
def av6(t0:OA)(eu:Int)(fA:Sl):List Value:=vn t0::.agg ⟨[vi eu,vs fA]⟩::un 49 []
def su:aK:=⟨51,aD2,[.tmp 4]⟩
theorem ZO:okF Tryz.prog 141 su=true:=by kernel_rfl
def CX{R:Type}(C:Callee)(fl k:Nat)(kr:ah R):au R:=fun h=>kr 0 h
theorem ZP:(cp ajB (ce C fl k AV K))=CX C fl k (cp sr (K .ret)):=by kernel_rfl
def jD{R:Type}(C:Callee)(fl k:Nat)(kn:eZ R)(e2:au R)(kr:ah R):eZ R:=fun t0 t38 t39 t40 h=>if decide (t40<t39)=true then idx 1 t38 t40 fun p1=>aT h p1.block p1.off fun s2=>aj C fl fn.j8 [.pointer t0,vs s2] h fun v3 h4=>asInt .i64 v3 fun n5=>if (n5 !=0)=true then kr n5 h4 else kn t0 t38 t39 (av (t40+1)) h4 else e2 h
theorem ZQ:(cp SL (ce C fl k AW K))=jD C fl k (cp SL (K .normal)) (cp ajB (K (.exit 2))) (cp sr (K .ret)):=by kernel_rfl
def ot(kn:au R)(kr:ah R):Nat→eZ R
 |0=>fun _ _ _ _ _=>none
 |m+1=>jD C fl k (ot kn kr m) kn kr
theorem HB:∀m,(cp SL (aQ m (aW C fl k AW 2 K)))=ot C fl k (cp ajB (K .normal)) (cp sr (K .ret)) m
 |0=>by kernel_rfl
 |m+1=>gu (ZQ C fl k _) (ag (fun L=>jD C fl k L _ _) (HB m))
def Jj(kr:ah R):eZ R:=ot C fl k (CX C fl k kr) kr k
theorem afw:(cp SL (ce C fl k F8 K))=Jj C fl k (cp sr (K .ret)):=(iP (gv (HB C fl k (bw C fl k AV K)))).trans (ag (fun L=>ot C fl k L _ k) (iL (ZP C fl k K)))
def F9{R:Type}(C:Callee)(fl k:Nat)(kx:eZ R)(kr:ah R):SM R:=fun t0 t3 h=>aT h t3.block (t3.off+1) fun s6=>kx t0 s6 ((s6.l:Nat):Int) 0 h
def KW(kr:ah R):SM R:=F9 C fl k (Jj C fl k kr) kr
theorem anY(cn:aa):(cp aa2 (ce C fl k (XH cn) K))=F9 C fl k (cp SL (ce C fl k cn K)) (cp sr (K .ret)):=by kernel_rfl
theorem anZ:(cp aa2 (ce C fl k Pc K))=KW C fl k (cp sr (K .ret)):=(anY C fl k K F8).trans (ag (fun L0=>F9 C fl k L0 _) (afw C fl k K))
def uO{R:Type}(C:Callee)(fl k:Nat)(kn:SN R)(e0:SM R)(kr:ah R):SN R:=fun t0 t3 t25 t26 t27 h=>if decide (t27<t26)=true then idx 1 t25 t27 fun p7=>aT h p7.block p7.off fun s8=>aF .i64 h t3.block t3.off fun n9=>if (((s8.l:Nat):Int) !=n9)=true then kr 3 h else kn t0 t3 t25 t26 (av (t27+1)) h else e0 t0 t3 h
theorem an0:(cp SO (ce C fl k Pd K))=uO C fl k (cp SO (K .normal)) (cp aa2 (K (.exit 0))) (cp sr (K .ret)):=by kernel_rfl
def D7(kn:SM R)(kr:ah R):Nat→SN R
 |0=>fun _ _ _ _ _ _=>none
 |m+1=>uO C fl k (D7 kn kr m) kn kr
theorem XI:∀m,(cp SO (aQ m (aW C fl k Pd 0 K)))=D7 C fl k (cp aa2 (K .normal)) (cp sr (K .ret)) m
 |0=>by kernel_rfl
 |m+1=>gu (an0 C fl k _) (ag (fun L=>uO C fl k L _ _) (XI m))
def ajC(kr:ah R):SN R:=D7 C fl k (KW C fl k kr) kr k
theorem ayS:(cp SO (ce C fl k ady K))=ajC C fl k (cp sr (K .ret)):=(iP (gv (XI C fl k (bw C fl k Pc K)))).trans (ag (fun L=>D7 C fl k L _ k) (iL (anZ C fl k K)))
def ajD{R:Type}(C:Callee)(fl k:Nat)(kx:SN R)(kr:ah R):SJ R:=fun t0 eu fA h=>bJ h [vi eu,vs fA] fun b10 iH=>aF .i64 iH b10 0 fun Bu=>if decide (Bu<0)=false then aF .i64 iH b10 0 fun BL=>if decide (BL>256)=false then aT iH b10 1 fun TT=>if decide (((TT.l:Nat):Int)>256)=true then kr 3 iH else aT iH b10 1 fun Ua=>kx t0 ⟨b10,0,none⟩ Ua ((Ua.l:Nat):Int) 0 iH else kr 3 iH else kr 3 iH
def aD3(kr:ah R):SJ R:=ajD C fl k (ajC C fl k kr) kr
theorem aK3(cn:aa):(cp av6 (ce C fl k (av5 cn) K))=ajD C fl k (cp SO (ce C fl k cn K)) (cp sr (K .ret)):=by kernel_rfl
theorem aK4:(cp av6 (ce C fl k aD2 K))=aD3 C fl k (cp sr (K .ret)):=(aK3 C fl k K ady).trans (ag (fun L0=>ajD C fl k L0 _) (ayS C fl k K))
def m4(p0:OA)(cz:Int)(cF:Sl)(h:AH):Option (Value×AH):=aD3 C fl k (fun y4 q=>some (vi y4,q)) p0 cz cF h
theorem D8(p0:OA)(cz:Int)(cF:Sl)(h):aV C fl k su [.pointer p0,.agg ⟨[vi cz,vs cF]⟩] h=m4 C fl k p0 cz cF h:=tG (aK4 C fl k (aG _)) p0 cz cF (by kernel_rfl) (by kernel_rfl)
def aa3(t2:Sl):List Value:=un 2 (t2.v::un 20 [])
def Pe:aa:=.seq (.region [m 22 3,m 2 22] [3,22]) (.ret)
def ajE(t3:Sl):List Value:=un 3 (t3.v::un 19 [])
def SP(t3 t9:Sl)(t10 t11:Int):List Value:=un 3 (t3.v::un 5 (t9.v::vi t10::vi t11::un 11 []))
def Pf:aa:=.seq (.region [cm 12 .lss 11 10] []) (.seq (.cond (.t 12) (kl [12]) (.seq (kl [9,10,11,12]) (.exit 0))) (.seq (.block 1 (.seq (.region [m 13 11,ia 14 1 9 11,ls 15 14,m 4 13,m 5 15] [13,14,15]) (.region [m 16 3,m 17 4,m 18 5,oI 19 (.call (.f 118) [.t 18] (.one (.one .slice))),ia 20 1 16 17,sI 1 20 19] [4,5,16,17,18,19,20]))) (.region [bc 21 .add 11 1,m 11 21] [21])))
def adz:aa:=.seq (.block 0 (.loop Pf)) Pe
def av7(cn:aa):aa:=.seq (.seq (.region [oI 2 (.mv (.c (.slice none 0 0)))] [2]) (.seq (.region [m 6 0,ln 7 6,oI 8 (.dj 24 [.slice none 0 0] (.t 7) (.t 7)),m 3 8] [6,7,8]) (.region [m 9 0,ln 10 9,mc 11 0] [0]))) cn
def aD4:aa:=av7 adz
def av8(t0:Sl):List Value:=t0.v::un 22 []
def sw:aK:=⟨23,aD4,[.tmp 2]⟩
theorem ZR:okF Tryz.prog 142 sw=true:=by kernel_rfl
def Vl{R:Type}(C:Callee)(fl k:Nat)(kr:ab R):ab R:=fun t3 h=>kr t3 h
theorem an1:(cp ajE (ce C fl k Pe K))=Vl C fl k (cp aa3 (K .ret)):=by kernel_rfl
def uP{R:Type}(C:Callee)(fl k:Nat)(kn:ji R)(e0:ab R):ji R:=fun t3 t9 t10 t11 h=>if decide (t11<t10)=true then idx 1 t9 t11 fun p1=>aT h p1.block p1.off fun s2=>aj C fl fn.eS [vs s2] h fun v3 h4=>aX v3 fun s5=>idx 1 t3 t11 fun p6=>st fl h4 p6 [vs s5] fun h7=>kn t3 t9 t10 (av (t11+1)) h7 else e0 t3 h
theorem an2:(cp SP (ce C fl k Pf K))=uP C fl k (cp SP (K .normal)) (cp ajE (K (.exit 0))):=by kernel_rfl
def D9(kn:ab R):Nat→ji R
 |0=>fun _ _ _ _ _=>none
 |m+1=>uP C fl k (D9 kn m) kn
theorem XJ:∀m,(cp SP (aQ m (aW C fl k Pf 0 K)))=D9 C fl k (cp ajE (K .normal)) m
 |0=>by kernel_rfl
 |m+1=>gu (an2 C fl k _) (ag (fun L=>uP C fl k L _) (XJ m))
def av9(kr:ab R):ji R:=D9 C fl k (Vl C fl k kr) k
theorem ayT:(cp SP (ce C fl k adz K))=av9 C fl k (cp aa3 (K .ret)):=(iP (gv (XJ C fl k (bw C fl k Pe K)))).trans (ag (fun L=>D9 C fl k L k) (iL (an1 C fl k K)))
def ajF{R:Type}(C:Callee)(fl k:Nat)(kx:ji R)(kr:ab R):ab R:=fun t0 h=>qF 24 [.slice none 0 0] ((t0.l:Nat):Int) ((t0.l:Nat):Int) h fun s8 h9=>kx s8 t0 ((t0.l:Nat):Int) 0 h9
def aD5(kr:ab R):ab R:=ajF C fl k (av9 C fl k kr) kr
theorem aK5(cn:aa):(cp av8 (ce C fl k (av7 cn) K))=ajF C fl k (cp SP (ce C fl k cn K)) (cp aa3 (K .ret)):=by kernel_rfl
theorem aK6:(cp av8 (ce C fl k aD4 K))=aD5 C fl k (cp aa3 (K .ret)):=(aK5 C fl k K adz).trans (ag (fun L0=>ajF C fl k L0 _) (ayT C fl k K))
def m6(p0:Sl)(h:AH):Option (Value×AH):=aD5 C fl k (fun y2 q=>some (vs y2,q)) p0 h
theorem Ea(p0:Sl)(h):aV C fl k sw [vs p0] h=m6 C fl k p0 h:=IU (aK6 C fl k (aG _)) p0 (by kernel_rfl) (by kernel_rfl)
def aa4(t8:Sl)(t9:Int):List Value:=un 8 (t8.v::vi t9::un 115 [])
def Pg:aa:=.seq (.region [m 123 12,m 124 10,m 8 123,m 9 124] [10,12,123,124]) (.ret)
abbrev Ce(R:Type):=Int→Sl→AH→Option R
def Ga(t10:Int)(t12:Sl):List Value:=un 10 (vi t10::un 1 (t12.v::un 112 []))
abbrev bK(R:Type):=Int→Addr→Addr→Int→Value→Sl→Int→AH→Option R
def bP(t2:Int)(t4 t5:Addr)(t10:Int)(t11:Value)(t12:Sl)(t13:Int):List Value:=un 2 (vi t2::un 1 (vp t4::vp t5::un 4 (vi t10::t11::t12.v::vi t13::un 111 [])))
def sx:aa:=.region [m 31 13,bc 32 .add 31 1,m 13 32] [31,32]
def gW:aa:=.region [m 119 12,m 120 13,oI 121 (.bq 1 [.int .i64 0] [(0,1,.t 120)]),oI 122 (.append 1 8 (.t 119) (.t 121)),m 12 122] [119,120,121,122]
abbrev wJ(R:Type):=Int→Addr→Addr→Int→Value→Sl→Int→Addr→Int→Int→AH→Option R
def wK(t2:Int)(t4 t5:Addr)(t10:Int)(t11:Value)(t12:Sl)(t13:Int)(t14:Addr)(t97 t98:Int):List Value:=un 2 (vi t2::un 1 (vp t4::vp t5::un 4 (vi t10::t11::t12.v::vi t13::vp t14::un 82 (vi t97::vi t98::un 26 []))))
def gq:aa:=.region [bc 118 .add 98 1,m 98 118] [118]
def lU(cn:aa):aa:=.seq (.seq (.region [cm 99 .lss 98 97] []) (.seq (.cond (.t 99) (kl [99]) (.seq (kl [14,97,98,99]) (.exit 4))) (.block 5 (.seq (.region [m 100 98,oI 18 (.alloc [.int .i64 0]),sI 1 18 100] [100]) (.seq (.region [ls 101 5,li 102 18,ia 103 1 101 102,ls 104 103,m 105 13,ia 106 1 104 105,li 107 106,oI 19 (.alloc [.int .i64 0]),sI 1 19 107] [101,102,103,104,105,106,107]) (.seq (.region [li 108 18,li 109 14,cm 110 .neq 108 109,m 111 110,.gL 111 true [qI 112 (.load (.one (.int .i64)) (.t 19)),qI 113 (.cmp .neq .i64 (.t 112) (ci 0))],oI 114 (.pick (.t 111) (.t 113) (.c (.bool false)))] [108,109,110,111,112,113]) (.cond (.t 114) (.region [m 115 11,oI 116 (.Da 169 [] [.t 4,.t 18,.t 19,.t 14]),oI 117 (.call (.t 115) [.t 116] (.ke []))] [18,19,114,115,116,117]) (kl [18,19,114])))))))) cn
def iq:aa:=lU gq
def jE:aa:=.seq (.block 4 (.loop iq)) gW
def qt(cn:aa):aa:=.seq (.region [ls 96 5,ln 97 96,mc 98 0] [96]) cn
def kO:aa:=qt jE
abbrev KX(R:Type):=Int→Addr→Addr→Int→Value→Sl→Int→Addr→AH→Option R
def KY(t2:Int)(t4 t5:Addr)(t10:Int)(t11:Value)(t12:Sl)(t13:Int)(t14:Addr):List Value:=un 2 (vi t2::un 1 (vp t4::vp t5::un 4 (vi t10::t11::t12.v::vi t13::vp t14::un 110 [])))
def tq(cn:aa):aa:=.seq (.seq (.region [oJ 65 (.load (.one .l0) (.t 4)),m 66 10,lt 67 5,lj 68 14,ia 69 1 67 68,lt 70 69,m 71 13,ia 72 1 70 71,lj 73 72,oI 74 (.call (.f 120) [.t 65,.t 66,.t 73] (.one (.one (.int .i64)))),m 10 74] [65,66,67,68,69,70,71,72,73,74]) (.seq (.region [oJ 76 (.load (.one .l0) (.t 4)),lt 77 5,lj 78 14,ia 79 1 77 78,lt 80 79,m 81 13,ia 82 1 80 81,lj 83 82,oJ 84 (.call (.f 139) [.t 76,.t 83] (.ke [.one (.int .i64),.one (.int .i64)])),m 75 84,ex 85 75 0,ex 86 75 1,oJ 16 (.alloc [.int .i64 0]),sI 1 16 85,m 17 86] [75,76,77,78,79,80,81,82,83,84,85,86]) (.seq (.region [m 87 17,ck 88 .eql 87 0,m 89 88,.gL 89 true [qI 90 (.load (.one (.int .i64)) (.t 16)),qI 91 (.cmp .neq .i64 (.t 90) (ci 1))],oI 92 (.pick (.t 89) (.t 91) (.c (.bool false)))] [17,87,88,89,90,91]) (.cond (.t 92) (.region [m 93 11,oI 94 (.Da 168 [] [.t 4,.t 16,.t 14]),oI 95 (.call (.t 93) [.t 94] (.ke []))] [16,92,93,94,95]) (kl [16,92]))))) cn
def mK:aa:=tq kO
def yw(cn:aa):aa:=.seq (.seq (.region [li 52 15,ls 53 5,ln 54 53,cm 55 .eql 52 54] [52,53,54]) (.seq (.cond (.t 55) (.seq (kl [14,15,55]) (.exit 1)) (kl [55])) (.seq (.region [li 56 15,li 57 14,cm 58 .neq 56 57] [56,57]) (.cond (.t 58) (.seq (.region [m 59 11,oI 60 (.Da 167 [] [.t 15,.t 14]),oI 61 (.call (.t 59) [.t 60] (.ke []))] [15,58,59,60,61]) (.region [oI 62 (.load (.one .l0) (.t 4)),m 63 10,oI 64 (.call (.f 104) [.t 62,.t 63] (.one (.one (.int .i64)))),m 10 64] [62,63,64])) (kl [15,58]))))) cn
def pK:aa:=yw mK
abbrev wL(R:Type):=Int→Addr→Addr→Int→Value→Sl→Int→Addr→Addr→AH→Option R
def zo(t2:Int)(t4 t5:Addr)(t10:Int)(t11:Value)(t12:Sl)(t13:Int)(t14 t15:Addr):List Value:=un 2 (vi t2::un 1 (vp t4::vp t5::un 4 (vi t10::t11::t12.v::vi t13::vp t14::vp t15::un 109 [])))
def pL:aa:=.seq (.region [li 36 15,ls 37 5,ln 38 37,cm 39 .lss 36 38,m 40 39,.gL 40 true [qI 41 (.load (.one .slice) (.t 5)),qI 42 (.load (.one (.int .i64)) (.t 15)),qI 43 (.eE 1 (.t 41) (.t 42)),qI 44 (.load (.one .slice) (.t 43)),qI 45 (.mv (.t 13)),qI 46 (.eE 1 (.t 44) (.t 45)),qI 47 (.load (.one (.int .i64)) (.t 46)),qI 48 (.cmp .eql .i64 (.t 47) (ci 0))],oI 49 (.pick (.t 40) (.t 48) (.c (.bool false)))] [36,37,38,39,40,41,42,43,44,45,46,47,48]) (.seq (.cond (.t 49) (kl [49]) (.seq (kl [49]) (.exit 2))) (.block 3 (.region [li 50 15,bc 51 .add 50 1,sI 1 15 51] [50,51])))
def uQ:aa:=.seq (.block 2 (.loop pL)) pK
def HC(cn:aa):aa:=.seq (.seq (.region [m 33 12,ln 34 33,oI 14 (.alloc [.int .i64 0]),sI 1 14 34] [33,34]) (.region [li 35 14,oI 15 (.alloc [.int .i64 0]),sI 1 15 35] [35])) cn
def AX:aa:=HC uQ
def MB(cn fJ:aa):aa:=.seq (.block 1 fJ) cn
def Gb:aa:=MB sx AX
def XK(cn:aa):aa:=.seq (.seq (.region [m 21 13,m 22 2,cm 23 .lss 21 22,m 24 23,.gL 24 true [qI 25 (.mv (.t 12)),qI 26 (.len (.t 25)),qI 27 (.load (.one .slice) (.t 5)),qI 28 (.len (.t 27)),qI 29 (.cmp .lss .i64 (.t 26) (.t 28))],oI 30 (.pick (.t 24) (.t 29) (.c (.bool false)))] [21,22,23,24,25,26,27,28,29]) (.cond (.t 30) (kl [30]) (.seq (kl [2,4,5,11,13,30]) (.exit 0)))) cn
def Ph:aa:=XK Gb
def adA:aa:=.seq (.block 0 (.loop Ph)) Pg
def awa(cn:aa):aa:=.seq (.seq (.region [oI 4 (.box (.t 0)),oI 5 (.box (.t 1)),oI 7 (.box (.t 3)),oI 8 (.mv (.c (.slice none 0 0))),mc 9 0] [0,1,3,8,9]) (.seq (.region [mc 10 1] []) (.seq (.region [oI 20 (.Da 166 [] [.t 5,.t 7]),m 11 20] [7,20]) (.seq (.region [oI 12 (.mv (.c (.slice none 0 0)))] []) (.region [mc 13 0] []))))) cn
def aD6:aa:=awa adA
abbrev SQ(R:Type):=OA→Sl→Int→Sl→AH→Option R
def awb(t0:OA)(t1:Sl)(t2:Int)(t3:Sl):List Value:=vn t0::t1.v::vi t2::t3.v::un 121 []
def kP:aK:=⟨125,aD6,[.tmp 8,.tmp 9]⟩
theorem LV:okF Tryz.prog 143 kP=true:=by kernel_rfl
def Vm{R:Type}(C:Callee)(fl k:Nat)(kr:aO R):Ce R:=fun t10 t12 h=>kr t12 t10 h
theorem an3:(cp Ga (ce C fl k Pg K))=Vm C fl k (cp aa4 (K .ret)):=by kernel_rfl
def ef{R:Type}(C:Callee)(fl k:Nat)(kn:bK R)(e0:Ce R):bK R:=fun t2 t4 t5 t10 t11 t12 t13 h=>kn t2 t4 t5 t10 t11 t12 (av (t13+1)) h
theorem xP:(cp bP (ce C fl k sx K))=ef C fl k (cp bP (K .normal)) (cp Ga (K (.exit 0))):=by kernel_rfl
def fk{R:Type}(C:Callee)(fl k:Nat)(kn:bK R)(e1:bK R):bK R:=fun t2 t4 t5 t10 t11 t12 t13 h=>bJ h [vi t13] fun b1 h2=>dn fl 1 8 t12 ⟨(some ⟨b1,0,none⟩),1,1⟩ h2 fun s3 h4=>kn t2 t4 t5 t10 t11 s3 t13 h4
theorem xQ:(cp bP (ce C fl k gW K))=fk C fl k (cp bP (K .normal)) (cp bP (K (.exit 1))):=by kernel_rfl
def bM{R:Type}(C:Callee)(fl k:Nat)(kn:wJ R)(e4:bK R):wJ R:=fun t2 t4 t5 t10 t11 t12 t13 t14 t97 t98 h=>kn t2 t4 t5 t10 t11 t12 t13 t14 t97 (av (t98+1)) h
theorem uR:(cp wK (ce C fl k gq K))=bM C fl k (cp wK (K .normal)) (cp bP (K (.exit 4))):=by kernel_rfl
def dv{R:Type}(C:Callee)(fl k:Nat)(kx:wJ R)(kn:wJ R)(e4:bK R):wJ R:=fun t2 t4 t5 t10 t11 t12 t13 t14 t97 t98 h=>if decide (t98<t97)=true then bJ h [.int .i64 0] fun b5 h6=>st fl h6 ⟨b5,0,none⟩ [vi t98] fun h7=>aT h7 t5.block t5.off fun s8=>aF .i64 h7 b5 0 fun n9=>idx 1 s8 n9 fun Qo=>aT h7 Qo.block Qo.off fun EG=>idx 1 EG t13 fun MR=>aF .i64 h7 MR.block MR.off fun BL=>bJ h7 [.int .i64 0] fun GM nX=>st fl nX ⟨GM,0,none⟩ [vi BL] fun GN=>aF .i64 GN b5 0 fun Qh=>aF .i64 GN t14.block t14.off fun JT=>if (Qh !=JT)=true then aF .i64 GN GM 0 fun TX=>if (TX !=0)=true then mh C fl t11 [.func (.func fn.fQ) ⟨[]⟩ ⟨[.pointer (some t4),.pointer (some ⟨b5,0,none⟩),.pointer (some ⟨GM,0,none⟩),.pointer (some t14)]⟩] GN fun v20 yL=>aE v20 fun l22=>aM l22 (kx t2 t4 t5 t10 t11 t12 t13 t14 t97 t98 yL) else kx t2 t4 t5 t10 t11 t12 t13 t14 t97 t98 GN else kx t2 t4 t5 t10 t11 t12 t13 t14 t97 t98 GN else e4 t2 t4 t5 t10 t11 t12 t13 h
def cB(kn:wJ R)(e4:bK R):wJ R:=dv C fl k (bM C fl k kn e4) kn e4
theorem zp(cn:aa):(cp wK (ce C fl k (lU cn) K))=dv C fl k (cp wK (ce C fl k cn K)) (cp wK (K .normal)) (cp bP (K (.exit 4))):=by kernel_rfl
theorem zq:(cp wK (ce C fl k iq K))=cB C fl k (cp wK (K .normal)) (cp bP (K (.exit 4))):=(zp C fl k K gq).trans (ag (fun L0=>dv C fl k L0 _ _) (uR C fl k K))
def bH(kn:bK R):Nat→wJ R
 |0=>fun _ _ _ _ _ _ _ _ _ _ _=>none
 |m+1=>cB C fl k (bH kn m) kn
theorem lV:∀m,(cp wK (aQ m (aW C fl k iq 4 K)))=bH C fl k (cp bP (K .normal)) m
 |0=>by kernel_rfl
 |m+1=>gu (zq C fl k _) (ag (fun L=>cB C fl k L _) (lV m))
def ka(kn:bK R)(e1:bK R):wJ R:=bH C fl k (fk C fl k kn e1) k
theorem BE:(cp wK (ce C fl k jE K))=ka C fl k (cp bP (K .normal)) (cp bP (K (.exit 1))):=(iP (gv (lV C fl k (bw C fl k gW K)))).trans (ag (fun L=>bH C fl k L k) (iL (xQ C fl k K)))
def gX{R:Type}(C:Callee)(fl k:Nat)(kx:wJ R)(kn:bK R)(e1:bK R):KX R:=fun t2 t4 t5 t10 t11 t12 t13 t14 h=>aT h t5.block t5.off fun s23=>kx t2 t4 t5 t10 t11 t12 t13 t14 ((s23.l:Nat):Int) 0 h
def dT(kn:bK R)(e1:bK R):KX R:=gX C fl k (ka C fl k kn e1) kn e1
theorem Eb(cn:aa):(cp KY (ce C fl k (qt cn) K))=gX C fl k (cp wK (ce C fl k cn K)) (cp bP (K .normal)) (cp bP (K (.exit 1))):=by kernel_rfl
theorem Ec:(cp KY (ce C fl k kO K))=dT C fl k (cp bP (K .normal)) (cp bP (K (.exit 1))):=(Eb C fl k K jE).trans (ag (fun L0=>gX C fl k L0 _ _) (BE C fl k K))
def jo{R:Type}(C:Callee)(fl k:Nat)(kx:KX R)(kn:bK R)(e1:bK R):KX R:=fun t2 t4 t5 t10 t11 t12 t13 t14 h=>ldN h t4.block t4.off fun p24=>aT h t5.block t5.off fun s25=>aF .i64 h t14.block t14.off fun EI=>idx 1 s25 EI fun p27=>aT h p27.block p27.off fun s28=>idx 1 s28 t13 fun p29=>aF .i64 h p29.block p29.off fun n30=>aj C fl fn.dy [.pointer p24,vi t10,vi n30] h fun v31 Qp=>asInt .i64 v31 fun n33=>ldN Qp t4.block t4.off fun p34=>aT Qp t5.block t5.off fun s35=>aF .i64 Qp t14.block t14.off fun n36=>idx 1 s35 n36 fun p37=>aT Qp p37.block p37.off fun s38=>idx 1 s38 t13 fun p39=>aF .i64 Qp p39.block p39.off fun n40=>aj C Qp.next fn.fS [.pointer p34,vi n40] Qp fun v41 h42=>aE v41 fun l43=>ar l43 fun v44 l45=>asInt .i64 v44 fun n46=>ar l45 fun v47 l48=>asInt .i64 v47 fun n49=>aM l48 (bJ h42 [.int .i64 0] fun b50 h51=>st fl h51 ⟨b50,0,none⟩ [vi n46] fun h52=>if (n49==0)=true then aF .i64 h52 b50 0 fun n53=>if (n53 !=1)=true then mh C fl t11 [.func (.func fn.fP) ⟨[]⟩ ⟨[.pointer (some t4),.pointer (some ⟨b50,0,none⟩),.pointer (some t14)]⟩] h52 fun v54 h55=>aE v54 fun l56=>aM l56 (kx t2 t4 t5 n33 t11 t12 t13 t14 h55) else kx t2 t4 t5 n33 t11 t12 t13 t14 h52 else kx t2 t4 t5 n33 t11 t12 t13 t14 h52)
def gN(kn:bK R)(e1:bK R):KX R:=jo C fl k (dT C fl k kn e1) kn e1
theorem Ic(cn:aa):(cp KY (ce C fl k (tq cn) K))=jo C fl k (cp KY (ce C fl k cn K)) (cp bP (K .normal)) (cp bP (K (.exit 1))):=by kernel_rfl
theorem Ie:(cp KY (ce C fl k mK K))=gN C fl k (cp bP (K .normal)) (cp bP (K (.exit 1))):=(Ic C fl k K kO).trans (ag (fun L0=>jo C fl k L0 _ _) (Ec C fl k K))
def ir{R:Type}(C:Callee)(fl k:Nat)(kx:KX R)(kn:bK R)(e1:bK R):wL R:=fun t2 t4 t5 t10 t11 t12 t13 t14 t15 h=>aF .i64 h t15.block t15.off fun n57=>aT h t5.block t5.off fun s58=>if (n57==((s58.l:Nat):Int))=true then e1 t2 t4 t5 t10 t11 t12 t13 h else aF .i64 h t15.block t15.off fun n59=>aF .i64 h t14.block t14.off fun n60=>if (n59 !=n60)=true then mh C fl t11 [.func (.func fn.bX) ⟨[]⟩ ⟨[.pointer (some t15),.pointer (some t14)]⟩] h fun v61 h62=>aE v61 fun l63=>aM l63 (ldN h62 t4.block t4.off fun p64=>aj C fl fn.fR [.pointer p64,vi t10] h62 fun v65 h66=>asInt .i64 v65 fun n67=>kx t2 t4 t5 n67 t11 t12 t13 t14 h66) else kx t2 t4 t5 t10 t11 t12 t13 t14 h
def fm(kn:bK R)(e1:bK R):wL R:=ir C fl k (gN C fl k kn e1) kn e1
theorem LW(cn:aa):(cp zo (ce C fl k (yw cn) K))=ir C fl k (cp KY (ce C fl k cn K)) (cp bP (K .normal)) (cp bP (K (.exit 1))):=by kernel_rfl
theorem LX:(cp zo (ce C fl k pK K))=fm C fl k (cp bP (K .normal)) (cp bP (K (.exit 1))):=(LW C fl k K mK).trans (ag (fun L0=>ir C fl k L0 _ _) (Ie C fl k K))
def fp{R:Type}(C:Callee)(fl k:Nat)(kn:wL R)(e2:wL R):wL R:=fun t2 t4 t5 t10 t11 t12 t13 t14 t15 h=>aF .i64 h t15.block t15.off fun n68=>aT h t5.block t5.off fun s69=>if decide (n68<((s69.l:Nat):Int))=true then aT h t5.block t5.off fun s70=>aF .i64 h t15.block t15.off fun n71=>idx 1 s70 n71 fun p72=>aT h p72.block p72.off fun s73=>idx 1 s73 t13 fun p74=>aF .i64 h p74.block p74.off fun n75=>if (n75==0)=true then aF .i64 h t15.block t15.off fun n76=>st fl h t15 [vi (av (n76+1))] fun h77=>kn t2 t4 t5 t10 t11 t12 t13 t14 t15 h77 else e2 t2 t4 t5 t10 t11 t12 t13 t14 t15 h else e2 t2 t4 t5 t10 t11 t12 t13 t14 t15 h
theorem LY:(cp zo (ce C fl k pL K))=fp C fl k (cp zo (K .normal)) (cp zo (K (.exit 2))):=by kernel_rfl
def dO(kn:wL R):Nat→wL R
 |0=>fun _ _ _ _ _ _ _ _ _ _=>none
 |m+1=>fp C fl k (dO kn m) kn
theorem yx:∀m,(cp zo (aQ m (aW C fl k pL 2 K)))=dO C fl k (cp zo (K .normal)) m
 |0=>by kernel_rfl
 |m+1=>gu (LY C fl k _) (ag (fun L=>fp C fl k L _) (yx m))
def xR(kn:bK R)(e1:bK R):wL R:=dO C fl k (fm C fl k kn e1) k
theorem SR:(cp zo (ce C fl k uQ K))=xR C fl k (cp bP (K .normal)) (cp bP (K (.exit 1))):=(iP (gv (yx C fl k (bw C fl k pK K)))).trans (ag (fun L=>dO C fl k L k) (iL (LX C fl k K)))
def sy{R:Type}(C:Callee)(fl k:Nat)(kx:wL R)(kn:bK R)(e1:bK R):bK R:=fun t2 t4 t5 t10 t11 t12 t13 h=>bJ h [.int .i64 0] fun b78 h79=>st fl h79 ⟨b78,0,none⟩ [vi ((t12.l:Nat):Int)] fun h80=>aF .i64 h80 b78 0 fun n81=>bJ h80 [.int .i64 0] fun b82 h83=>st fl h83 ⟨b82,0,none⟩ [vi n81] fun h84=>kx t2 t4 t5 t10 t11 t12 t13 ⟨b78,0,none⟩ ⟨b82,0,none⟩ h84
def wM(kn:bK R)(e1:bK R):bK R:=sy C fl k (xR C fl k kn e1) kn e1
theorem ZS(cn:aa):(cp bP (ce C fl k (HC cn) K))=sy C fl k (cp zo (ce C fl k cn K)) (cp bP (K .normal)) (cp bP (K (.exit 1))):=by kernel_rfl
theorem ZT:(cp bP (ce C fl k AX K))=wM C fl k (cp bP (K .normal)) (cp bP (K (.exit 1))):=(ZS C fl k K uQ).trans (ag (fun L0=>sy C fl k L0 _ _) (SR C fl k K))
def zr{R:Type}(C:Callee)(fl k:Nat)(kx:bK R)(u0:bK R)(kn:bK R)(e0:Ce R):bK R:=fun t2 t4 t5 t10 t11 t12 t13 h=>u0 t2 t4 t5 t10 t11 t12 t13 h
def Cf(kn:bK R)(e0:Ce R):bK R:=zr C fl k (ef C fl k kn e0) (wM C fl k (ef C fl k kn e0) (ef C fl k kn e0)) kn e0
theorem afx(cn fJ:aa):(cp bP (ce C fl k (MB cn fJ) K))=zr C fl k (cp bP (ce C fl k cn K)) (cp bP (ce C fl k fJ (iK 1 (bw C fl k cn K)))) (cp bP (K .normal)) (cp Ga (K (.exit 0))):=by kernel_rfl
theorem afy:(cp bP (ce C fl k Gb K))=Cf C fl k (cp bP (K .normal)) (cp Ga (K (.exit 0))):=(afx C fl k K sx AX).trans (gG (fun L0 L1=>zr C fl k L0 L1 _ _) (xP C fl k K) ((ZT C fl k (iK 1 (bw C fl k sx K))).trans (gG (fun L0 L1=>wM C fl k L0 L1) (bn1 (xP C fl k K)) (bx1 (xP C fl k K)))))
def AY{R:Type}(C:Callee)(fl k:Nat)(kx:bK R)(kn:bK R)(e0:Ce R):bK R:=fun t2 t4 t5 t10 t11 t12 t13 h=>if decide (t13<t2)=true then aT h t5.block t5.off fun s85=>if decide (((t12.l:Nat):Int)<((s85.l:Nat):Int))=true then kx t2 t4 t5 t10 t11 t12 t13 h else e0 t10 t12 h else e0 t10 t12 h
def uS(kn:bK R)(e0:Ce R):bK R:=AY C fl k (Cf C fl k kn e0) kn e0
theorem an4(cn:aa):(cp bP (ce C fl k (XK cn) K))=AY C fl k (cp bP (ce C fl k cn K)) (cp bP (K .normal)) (cp Ga (K (.exit 0))):=by kernel_rfl
theorem an5:(cp bP (ce C fl k Ph K))=uS C fl k (cp bP (K .normal)) (cp Ga (K (.exit 0))):=(an4 C fl k K Gb).trans (ag (fun L0=>AY C fl k L0 _ _) (afy C fl k K))
def ic(kn:Ce R):Nat→bK R
 |0=>fun _ _ _ _ _ _ _ _=>none
 |m+1=>uS C fl k (ic kn m) kn
theorem XL:∀m,(cp bP (aQ m (aW C fl k Ph 0 K)))=ic C fl k (cp Ga (K .normal)) m
 |0=>by kernel_rfl
 |m+1=>gu (an5 C fl k _) (ag (fun L=>uS C fl k L _) (XL m))
def awc(kr:aO R):bK R:=ic C fl k (Vm C fl k kr) k
theorem ayU:(cp bP (ce C fl k adA K))=awc C fl k (cp aa4 (K .ret)):=(iP (gv (XL C fl k (bw C fl k Pg K)))).trans (ag (fun L=>ic C fl k L k) (iL (an3 C fl k K)))
def ajG{R:Type}(C:Callee)(fl k:Nat)(kx:bK R)(kr:aO R):SQ R:=fun t0 t1 t2 t3 h=>bJ h [.pointer t0] fun b86 h87=>bJ h87 [vs t1] fun b88 h89=>bJ h89 [vs t3] fun b90 h91=>kx t2 ⟨b86,0,none⟩ ⟨b88,0,none⟩ 1 (.func (.func fn.fO) ⟨[]⟩ ⟨[.pointer (some ⟨b88,0,none⟩),.pointer (some ⟨b90,0,none⟩)]⟩) ⟨none,0,0⟩ 0 h91
def aD7(kr:aO R):SQ R:=ajG C fl k (awc C fl k kr) kr
theorem aK7(cn:aa):(cp awb (ce C fl k (awa cn) K))=ajG C fl k (cp bP (ce C fl k cn K)) (cp aa4 (K .ret)):=by kernel_rfl
theorem aK8:(cp awb (ce C fl k aD6 K))=aD7 C fl k (cp aa4 (K .ret)):=(aK7 C fl k K adA).trans (ag (fun L0=>ajG C fl k L0 _) (ayU C fl k K))
def hZ(p0:OA)(p1:Sl)(p2:Int)(p3:Sl)(h:AH):Option (Value×AH):=aD7 C fl k (fun y8 y9 q=>some (.tuple ⟨[vs y8,vi y9]⟩,q)) p0 p1 p2 p3 h
theorem xv(p0:OA)(p1:Sl)(p2:Int)(p3:Sl)(h):aV C fl k kP [.pointer p0,vs p1,vi p2,vs p3] h=hZ C fl k p0 p1 p2 p3 h:=QS (aK8 C fl k (aG _)) p0 p1 p2 p3 (by kernel_rfl) (by kernel_rfl)
def aK9(t4:Int):List Value:=un 4 (vi t4::un 4 [])
def aD8:aa:=.seq (.region [mc 4 0] [4]) (.seq (.region [m 5 0,m 6 1,oI 7 (.call (.f 109) [.t 5,.t 6] (.one (.one .bool)))] [0,5,6]) (.seq (.cond (.t 7) (.seq (.region [m 8 1,m 4 8] [1,7,8]) (.ret)) (kl [1,7])) (.seq (.region [mc 4 0] []) (.ret))))
def aLa(t0:OA)(t1:Int):List Value:=vn t0::vi t1::un 7 []
def wN:aK:=⟨9,aD8,[.tmp 4]⟩
theorem adB:okF Tryz.prog 144 wN=true:=by kernel_rfl
def aD9{R:Type}(C:Callee)(fl k:Nat)(kr:ah R):di R:=fun t0 t1 h=>aj C fl fn.mz [.pointer t0,vi t1] h fun v1 h2=>asBool v1 fun b3=>if b3=true then kr t1 h2 else kr 0 h2
theorem aLb:(cp aLa (ce C fl k aD8 K))=aD9 C fl k (cp aK9 (K .ret)):=by kernel_rfl
def gn(p0:OA)(p1:Int)(h:AH):Option (Value×AH):=aD9 C fl k (fun y4 q=>some (vi y4,q)) p0 p1 h
theorem HD(p0:OA)(p1:Int)(h):aV C fl k wN [.pointer p0,vi p1] h=gn C fl k p0 p1 h:=tF (aLb C fl k (aG _)) p0 p1 (by kernel_rfl) (by kernel_rfl)
def Gc:List Value:=un 33 []
abbrev wO(R:Type):=OA→Sl→Int→Sl→Int→Int→AH→Option R
def wP(t0:OA)(t1:Sl)(t2:Int)(t10:Sl)(t11 t12:Int):List Value:=vn t0::t1.v::vi t2::un 7 (t10.v::vi t11::vi t12::un 20 [])
def Gd:aa:=.region [bc 32 .add 12 1,m 12 32] [32]
def XM(cn:aa):aa:=.seq (.seq (.region [cm 13 .lss 12 11] []) (.seq (.cond (.t 13) (kl [13]) (.seq (kl [0,1,2,10,11,12,13]) (.exit 0))) (.block 1 (.seq (.region [m 14 12,ia 15 1 10 12,li 16 15,m 8 14,m 9 16] [14,15,16]) (.seq (.region [m 17 9,ck 18 .neq 17 0] [17]) (.cond (.t 18) (.region [m 19 1,m 20 8,m 21 0,m 22 1,m 23 8,ia 24 1 22 23,lj 25 24,m 26 0,m 27 2,m 28 9,oJ 29 (.call (.f 120) [.t 26,.t 27,.t 28] (.one (.one (.int .i64)))),oI 30 (.call (.f 149) [.t 21,.t 25,.t 29] (.one (.one (.int .i64)))),ia 31 1 19 20,sI 1 31 30] [8,9,18,19,20,21,22,23,24,25,26,27,28,29,30,31]) (kl [8,9,18]))))))) cn
def Pj:aa:=XM Gd
def adC:aa:=.block 0 (.loop Pj)
def awd(cn:aa):aa:=.seq (.region [m 10 3,ln 11 10,mc 12 0] [3]) cn
def aEa:aa:=awd adC
def awe(t0:OA)(t1:Sl)(t2:Int)(t3:Sl):List Value:=vn t0::t1.v::vi t2::t3.v::un 29 []
def zt:aK:=⟨33,aEa,[]⟩
theorem afz:okF Tryz.prog 145 zt=true:=by kernel_rfl
def Cg{R:Type}(C:Callee)(fl k:Nat)(kn:wO R)(e0:au R):wO R:=fun t0 t1 t2 t10 t11 t12 h=>kn t0 t1 t2 t10 t11 (av (t12+1)) h
theorem afA:(cp wP (ce C fl k Gd K))=Cg C fl k (cp wP (K .normal)) (cp Gc (K (.exit 0))):=by kernel_rfl
def AZ{R:Type}(C:Callee)(fl k:Nat)(kx:wO R)(kn:wO R)(e0:au R):wO R:=fun t0 t1 t2 t10 t11 t12 h=>if decide (t12<t11)=true then idx 1 t10 t12 fun p1=>aF .i64 h p1.block p1.off fun n2=>if (n2 !=0)=true then idx 1 t1 t12 fun p3=>aF .i64 h p3.block p3.off fun n4=>aj C h.next fn.dy [.pointer t0,vi t2,vi n2] h fun v5 h6=>asInt .i64 v5 fun n7=>aj C fl fn.jh [.pointer t0,vi n4,vi n7] h6 fun v8 h9=>asInt .i64 v8 fun mb=>idx 1 t1 t12 fun TS=>st fl h9 TS [vi mb] fun zN=>kx t0 t1 t2 t10 t11 t12 zN else kx t0 t1 t2 t10 t11 t12 h else e0 h
def uT(kn:wO R)(e0:au R):wO R:=AZ C fl k (Cg C fl k kn e0) kn e0
theorem an6(cn:aa):(cp wP (ce C fl k (XM cn) K))=AZ C fl k (cp wP (ce C fl k cn K)) (cp wP (K .normal)) (cp Gc (K (.exit 0))):=by kernel_rfl
theorem an7:(cp wP (ce C fl k Pj K))=uT C fl k (cp wP (K .normal)) (cp Gc (K (.exit 0))):=(an6 C fl k K Gd).trans (ag (fun L0=>AZ C fl k L0 _ _) (afA C fl k K))
def zK(kn:au R):Nat→wO R
 |0=>fun _ _ _ _ _ _ _=>none
 |m+1=>uT C fl k (zK kn m) kn
theorem XN:∀m,(cp wP (aQ m (aW C fl k Pj 0 K)))=zK C fl k (cp Gc (K .normal)) m
 |0=>by kernel_rfl
 |m+1=>gu (an7 C fl k _) (ag (fun L=>uT C fl k L _) (XN m))
def ajH(kn:au R):wO R:=zK C fl k kn k
theorem ayV:(cp wP (ce C fl k adC K))=ajH C fl k (cp Gc (K .normal)):=gv (XN C fl k K)
def ajI{R:Type}(C:Callee)(fl k:Nat)(kx:wO R)(kn:au R):SQ R:=fun t0 t1 t2 t3 h=>kx t0 t1 t2 t3 ((t3.l:Nat):Int) 0 h
def aEb(kn:au R):SQ R:=ajI C fl k (ajH C fl k kn) kn
theorem aLc(cn:aa):(cp awe (ce C fl k (awd cn) K))=ajI C fl k (cp wP (ce C fl k cn K)) (cp Gc (K .normal)):=by kernel_rfl
theorem aLd:(cp awe (ce C fl k aEa K))=aEb C fl k (cp Gc (K .normal)):=(aLc C fl k K adC).trans (ag (fun L0=>ajI C fl k L0 _) (ayV C fl k K))
def oX(p0:OA)(p1:Sl)(p2:Int)(p3:Sl)(h:AH):Option (Value×AH):=aEb C fl k (fun q=>some (.tuple ⟨[]⟩,q)) p0 p1 p2 p3 h
theorem Jk(p0:OA)(p1:Sl)(p2:Int)(p3:Sl)(h):aV C fl k zt [.pointer p0,vs p1,vi p2,vs p3] h=oX C fl k p0 p1 p2 p3 h:=QS (aLd C fl k (aG _)) p0 p1 p2 p3 (by kernel_rfl) (by kernel_rfl)
def KZ(t2:Bool):List Value:=un 2 (.bool t2::un 14 [])
def Pk:aa:=.seq (.region [m 15 0,ck 16 .geq 15 2,m 2 16] [0,15,16]) (.ret)
def SS(t0:Int):List Value:=vi t0::un 16 []
def SU(t0 t3:Int):List Value:=vi t0::un 2 (vi t3::un 13 [])
def Pm:aa:=.seq (.region [m 4 3,m 5 3,bb 6 .mul 4 5,m 7 0,cm 8 .leq 6 7] [4,5,6,7]) (.seq (.cond (.t 8) (kl [8]) (.seq (kl [3,8]) (.exit 0))) (.seq (.block 1 (.seq (.region [m 11 0,m 12 3,bb 13 .rem 11 12,ck 14 .eql 13 0] [11,12,13]) (.cond (.t 14) (.seq (.region [oI 2 (.mv (.c (.bool false)))] [0,3,14]) (.ret)) (kl [14])))) (.region [m 9 3,bc 10 .add 9 1,m 3 10] [9,10])))
def adD:aa:=.seq (.block 0 (.loop Pm)) Pk
def awf(cn:aa):aa:=.seq (.seq (.region [oI 2 (.mv (.c (.bool false)))] [2]) (.region [mc 3 2] [])) cn
def aEc:aa:=awf adD
def oP:aK:=⟨17,aEc,[.tmp 2]⟩
theorem Vn:okF Tryz.prog 146 oP=true:=by kernel_rfl
def K1{R:Type}(C:Callee)(fl k:Nat)(kr:aC R):ah R:=fun t0 h=>kr (decide (t0≥2)) h
theorem an8:(cp SS (ce C fl k Pk K))=K1 C fl k (cp KZ (K .ret)):=by kernel_rfl
def uU{R:Type}(C:Callee)(fl k:Nat)(kn:cL R)(e0:ah R)(kr:aC R):cL R:=fun t0 t3 h=>if decide (av (t3*t3)≤t0)=true then j6 .rem .i64 t0 t3 fun n1=>if (n1==0)=true then kr false h else kn t0 (av (t3+1)) h else e0 t0 h
theorem an9:(cp SU (ce C fl k Pm K))=uU C fl k (cp SU (K .normal)) (cp SS (K (.exit 0))) (cp KZ (K .ret)):=by kernel_rfl
def Ed(kn:ah R)(kr:aC R):Nat→cL R
 |0=>fun _ _ _=>none
 |m+1=>uU C fl k (Ed kn kr m) kn kr
theorem XO:∀m,(cp SU (aQ m (aW C fl k Pm 0 K)))=Ed C fl k (cp SS (K .normal)) (cp KZ (K .ret)) m
 |0=>by kernel_rfl
 |m+1=>gu (an9 C fl k _) (ag (fun L=>uU C fl k L _ _) (XO m))
def ajJ(kr:aC R):cL R:=Ed C fl k (K1 C fl k kr) kr k
theorem ayW:(cp SU (ce C fl k adD K))=ajJ C fl k (cp KZ (K .ret)):=(iP (gv (XO C fl k (bw C fl k Pk K)))).trans (ag (fun L=>Ed C fl k L _ k) (iL (an8 C fl k K)))
def ajK{R:Type}(C:Callee)(fl k:Nat)(kx:cL R)(kr:aC R):ah R:=fun t0 h=>kx t0 2 h
def aEd(kr:aC R):ah R:=ajK C fl k (ajJ C fl k kr) kr
theorem aLe(cn:aa):(cp SS (ce C fl k (awf cn) K))=ajK C fl k (cp SU (ce C fl k cn K)) (cp KZ (K .ret)):=by kernel_rfl
theorem aLf:(cp SS (ce C fl k aEc K))=aEd C fl k (cp KZ (K .ret)):=(aLe C fl k K adD).trans (ag (fun L0=>ajK C fl k L0 _) (ayW C fl k K))
def la(p0:Int)(h:AH):Option (Value×AH):=aEd C fl k (fun y2 q=>some (.bool y2,q)) p0 h
theorem Ch(p0:Int)(h):aV C fl k oP [vi p0] h=la C fl k p0 h:=IU (aLf C fl k (aG _)) p0 (by kernel_rfl) (by kernel_rfl)
def aa5(t6:Sl):List Value:=un 6 (t6.v::un 30 [])
def Pn:aa:=.seq (.region [m 36 7,m 6 36] [7,36]) (.ret)
def ajL(t7:Sl):List Value:=un 7 (t7.v::un 29 [])
abbrev SV(R:Type):=Int→Addr→Sl→Sl→Int→AH→Option R
def SW(t2:Int)(t3:Addr)(t7 t8:Sl)(t9:Int):List Value:=un 2 (vi t2::vp t3::un 3 (t7.v::t8.v::vi t9::un 27 []))
def Po:aa:=.seq (.region [m 16 9,ck 17 .neq 16 0,m 18 17,.gL 18 true [qI 19 (.mv (.t 8)),qI 20 (.mv (.t 9)),qI 21 (.eE 1 (.t 19) (.t 20)),qI 22 (.load (.one .bool) (.t 21)),qI 23 (.not (.t 22))],oI 24 (.pick (.t 18) (.t 23) (.c (.bool false)))] [16,17,18,19,20,21,22,23]) (.seq (.cond (.t 24) (kl [24]) (.seq (kl [2,3,8,9,24]) (.exit 0))) (.seq (.block 1 (.seq (.region [m 29 8,m 30 9,ia 31 1 29 30,pI (.store 1 (.t 31) (.c (.bool true)))] [29,30,31]) (.region [m 32 7,m 33 9,oI 34 (.bq 1 [.int .i64 0] [(0,1,.t 33)]),oI 35 (.append 1 8 (.t 32) (.t 34)),m 7 35] [32,33,34,35]))) (.region [oI 25 (.load (.agg [.int .i64,.int .i64,.slice]) (.t 3)),m 26 9,m 27 2,oI 28 (.call (.f 148) [.t 25,.t 26,.t 27] (.one (.one (.int .i64)))),m 9 28] [25,26,27,28])))
def adE:aa:=.seq (.block 0 (.loop Po)) Pn
def awg(cn:aa):aa:=.seq (.seq (.region [oI 3 (.box (.t 0)),oI 6 (.mv (.c (.slice none 0 0)))] [0,6]) (.seq (.region [oI 10 (.bq 1 [.int .i64 0] [(0,1,ci 1)]),m 7 10] [10]) (.seq (.region [m 11 1,oI 12 (.dj 1 [.bool false] (.t 11) (.t 11)),m 8 12] [1,11,12]) (.seq (.region [m 13 8,oI 14 (.eE 1 (.t 13) (ci 1)),pI (.store 1 (.t 14) (.c (.bool true)))] [13,14]) (.region [m 15 2,m 9 15] [15]))))) cn
def aEe:aa:=awg adE
abbrev jq(R:Type):=Int→Int→Sl→Int→Int→AH→Option R
def awh(aI aJ:Int)(aL:Sl)(t1 t2:Int):List Value:=.agg ⟨[vi aI,vi aJ,vs aL]⟩::vi t1::vi t2::un 34 []
def sA:aK:=⟨37,aEe,[.tmp 6]⟩
theorem ZU:okF Tryz.prog 147 sA=true:=by kernel_rfl
def Vo{R:Type}(C:Callee)(fl k:Nat)(kr:ab R):ab R:=fun t7 h=>kr t7 h
theorem aoa:(cp ajL (ce C fl k Pn K))=Vo C fl k (cp aa5 (K .ret)):=by kernel_rfl
def Ee{R:Type}(C:Callee)(fl k:Nat)(kn:SV R)(e0:ab R):SV R:=fun t2 t3 t7 t8 t9 h=>if (t9 !=0)=true then idx 1 t8 t9 fun p1=>ldB h p1.block p1.off fun b2=>if (!b2)=true then idx 1 t8 t9 fun p3=>st fl h p3 [.bool true] fun h4=>bJ h4 [vi t9] fun b5 h6=>dn fl 1 8 t7 ⟨(some ⟨b5,0,none⟩),1,1⟩ h6 fun s7 h8=>aF .i64 h8 t3.block t3.off fun n9=>aF .i64 h8 t3.block (t3.off+1) fun mb=>aT h8 t3.block (t3.off+1+1) fun EG=>aj C fl fn.gp [.agg ⟨[vi n9,vi mb,vs EG]⟩,vi t9,vi t2] h8 fun V3 qB=>asInt .i64 V3 fun Bv=>kn t2 t3 s7 t8 Bv qB else e0 t7 h else e0 t7 h
theorem aob:(cp SW (ce C fl k Po K))=Ee C fl k (cp SW (K .normal)) (cp ajL (K (.exit 0))):=by kernel_rfl
def uV(kn:ab R):Nat→SV R
 |0=>fun _ _ _ _ _ _=>none
 |m+1=>Ee C fl k (uV kn m) kn
theorem XP:∀m,(cp SW (aQ m (aW C fl k Po 0 K)))=uV C fl k (cp ajL (K .normal)) m
 |0=>by kernel_rfl
 |m+1=>gu (aob C fl k _) (ag (fun L=>Ee C fl k L _) (XP m))
def ajM(kr:ab R):SV R:=uV C fl k (Vo C fl k kr) k
theorem ayX:(cp SW (ce C fl k adE K))=ajM C fl k (cp aa5 (K .ret)):=(iP (gv (XP C fl k (bw C fl k Pn K)))).trans (ag (fun L=>uV C fl k L k) (iL (aoa C fl k K)))
def ajN{R:Type}(C:Callee)(fl k:Nat)(kx:SV R)(kr:ab R):jq R:=fun aI aJ aL t1 t2 h=>bJ h [vi aI,vi aJ,vs aL] fun b15 GN=>bJ GN [vi 1] fun b17 JR=>qF 1 [.bool false] t1 t1 JR fun s19 Qn=>idx 1 s19 1 fun p21=>st fl Qn p21 [.bool true] fun TY=>kx t2 ⟨b15,0,none⟩ ⟨(some ⟨b17,0,none⟩),1,1⟩ s19 t2 TY
def aEf(kr:ab R):jq R:=ajN C fl k (ajM C fl k kr) kr
theorem aLg(cn:aa):(cp awh (ce C fl k (awg cn) K))=ajN C fl k (cp SW (ce C fl k cn K)) (cp aa5 (K .ret)):=by kernel_rfl
theorem aLh:(cp awh (ce C fl k aEe K))=aEf C fl k (cp aa5 (K .ret)):=(aLg C fl k K adE).trans (ag (fun L0=>ajN C fl k L0 _) (ayX C fl k K))
def m7(aw ax:Int)(ay:Sl)(p1 p2:Int)(h:AH):Option (Value×AH):=aEf C fl k (fun y6 q=>some (vs y6,q)) aw ax ay p1 p2 h
theorem Ef(aw ax:Int)(ay:Sl)(p1 p2:Int)(h):aV C fl k sA [.agg ⟨[vi aw,vi ax,vs ay]⟩,vi p1,vi p2] h=m7 C fl k aw ax ay p1 p2 h:=oY (aLh C fl k (aG _)) aw ax ay p1 p2 (by kernel_rfl) (by kernel_rfl)
def aa6(t6:Int):List Value:=un 6 (vi t6::un 90 [])
def Pp:aa:=.seq (.region [m 93 9,fa 94 0 3,li 95 94,oI 96 (.call (.f 171) [.t 93,.t 95] (.one (.one (.int .i64)))),m 6 96] [3,9,93,94,95,96]) (.ret)
def Ge(t3:Addr)(t9:Sl):List Value:=un 3 (vp t3::un 5 (t9.v::un 87 []))
abbrev bG(R:Type):=Addr→Sl→Sl→Sl→Int→AH→Option R
def ej(t3:Addr)(t7 t8 t9:Sl)(t10:Int):List Value:=un 3 (vp t3::un 3 (t7.v::t8.v::t9.v::vi t10::un 86 []))
def sB:aa:=.region [m 34 10,bc 35 .sub 34 1,m 10 35] [34,35]
abbrev wQ(R:Type):=Addr→Sl→Sl→Sl→Int→Int→Int→Int→AH→Option R
def wR(t3:Addr)(t7 t8 t9:Sl)(t10 t11 t53 t54:Int):List Value:=un 3 (vp t3::un 3 (t7.v::t8.v::t9.v::vi t10::vi t11::un 41 (vi t53::vi t54::un 42 [])))
def mL:aa:=.region [bc 92 .add 54 1,m 54 92] [92]
def yy(cn:aa):aa:=.seq (.seq (.region [cm 55 .lss 54 53] []) (.seq (.cond (.t 55) (kl [55]) (.seq (kl [11,53,54,55]) (.exit 2))) (.block 3 (.seq (.region [m 56 54,m 12 56] [56]) (.seq (.region [mc 13 0] []) (.seq (.seq (.region [fa 57 1 3,li 58 57,ck 59 .gtr 58 1] [57,58]) (.cond (.t 59) (.region [fa 60 2 3,ls 61 60,m 62 12,ia 63 1 61 62,li 64 63,m 13 64] [59,60,61,62,63,64]) (kl [59]))) (.region [m 65 9,m 66 12,m 67 9,m 68 12,ia 69 1 67 68,lj 70 69,fa 71 0 3,lj 72 71,m 73 11,bb 74 .sub 72 73,m 75 13,bb 76 .mul 74 75,bb 77 .add 70 76,m 78 8,m 79 10,ia 80 1 78 79,lj 81 80,m 82 7,m 83 12,ia 84 1 82 83,lj 85 84,bb 86 .mul 81 85,bb 87 .add 77 86,fa 88 0 3,lj 89 88,bb 90 .rem 87 89,ia 91 1 65 66,sI 1 91 90] [12,13,65,66,67,68,69,70,71,72,73,74,75,76,77,78,79,80,81,82,83,84,85,86,87,88,89,90,91]))))))) cn
def pM:aa:=yy mL
def uW:aa:=.block 2 (.loop pM)
def HE(cn:aa):aa:=.seq (.seq (.region [m 36 9,fa 37 1 3,li 38 37,bc 39 .sub 38 1,ia 40 1 36 39,li 41 40,m 11 41] [36,37,38,39,40,41]) (.seq (.region [m 42 9,oI 43 (.slice 1 (.t 42) (some (ci 1)) none none),m 44 9,fa 45 1 3,li 46 45,bc 47 .sub 46 1,oI 48 (.slice 1 (.t 44) none (some (.t 47)) none),oI 49 (.copy 1 (.t 43) (.t 48))] [42,43,44,45,46,47,48,49]) (.seq (.region [m 50 9,oI 51 (.eE 1 (.t 50) (ci 0)),pI (.store 1 (.t 51) (ci 0))] [50,51]) (.region [m 52 9,ln 53 52,mc 54 0] [52])))) cn
def A0:aa:=HE uW
def MC(cn fJ:aa):aa:=.seq (.block 1 fJ) cn
def Gf:aa:=MC sB A0
def XQ(cn:aa):aa:=.seq (.seq (.region [m 32 10,ck 33 .geq 32 0] [32]) (.cond (.t 33) (kl [33]) (.seq (kl [7,8,10,33]) (.exit 0)))) cn
def Pq:aa:=XQ Gf
def adF:aa:=.seq (.block 0 (.loop Pq)) Pp
def awi(cn:aa):aa:=.seq (.seq (.region [oI 3 (.box (.t 0)),mc 6 0] [0,6]) (.seq (.region [m 14 1,fa 15 0 3,lj 16 15,fa 17 1 3,lj 18 17,oJ 19 (.call (.f 170) [.t 14,.t 16,.t 18] (.one (.one .slice))),m 20 2,fa 21 0 3,lj 22 21,fa 23 1 3,lj 24 23,oI 25 (.call (.f 170) [.t 20,.t 22,.t 24] (.one (.one .slice))),m 7 19,m 8 25] [1,2,14,15,16,17,18,19,20,21,22,23,24,25]) (.seq (.region [fa 26 1 3,li 27 26,oI 28 (.dj 8 [.int .i64 0] (.t 27) (.t 27)),m 9 28] [26,27,28]) (.region [fa 29 1 3,li 30 29,bc 31 .sub 30 1,m 10 31] [29,30,31])))) cn
def aEg:aa:=awi adF
def awj(aI aJ:Int)(aL:Sl)(t1 t2:Int):List Value:=.agg ⟨[vi aI,vi aJ,vs aL]⟩::vi t1::vi t2::un 94 []
def nG:aK:=⟨97,aEg,[.tmp 6]⟩
theorem SX:okF Tryz.prog 148 nG=true:=by kernel_rfl
def K2{R:Type}(C:Callee)(fl k:Nat)(kr:ah R):cG R:=fun t3 t9 h=>aF .i64 h t3.block t3.off fun n1=>aj C fl fn.lf [vs t9,vi n1] h fun v2 h3=>asInt .i64 v2 fun n4=>kr n4 h3
theorem aoc:(cp Ge (ce C fl k Pp K))=K2 C fl k (cp aa6 (K .ret)):=by kernel_rfl
def lp{R:Type}(C:Callee)(fl k:Nat)(kn:bG R)(e0:cG R):bG R:=fun t3 t7 t8 t9 t10 h=>kn t3 t7 t8 t9 (av (t10-1)) h
theorem HF:(cp ej (ce C fl k sB K))=lp C fl k (cp ej (K .normal)) (cp Ge (K (.exit 0))):=by kernel_rfl
def jZ{R:Type}(C:Callee)(fl k:Nat)(kn:wQ R)(e2:bG R):wQ R:=fun t3 t7 t8 t9 t10 t11 t53 t54 h=>kn t3 t7 t8 t9 t10 t11 t53 (av (t54+1)) h
theorem Ig:(cp wR (ce C fl k mL K))=jZ C fl k (cp wR (K .normal)) (cp ej (K (.exit 2))):=by kernel_rfl
def iu{R:Type}(C:Callee)(fl k:Nat)(kx:wQ R)(kn:wQ R)(e2:bG R):wQ R:=fun t3 t7 t8 t9 t10 t11 t53 t54 h=>if decide (t54<t53)=true then aF .i64 h t3.block (t3.off+1) fun n5=>if decide (n5>1)=true then aT h t3.block (t3.off+2) fun s6=>idx 1 s6 t54 fun p7=>aF .i64 h p7.block p7.off fun n8=>idx 1 t9 t54 fun p9=>aF .i64 h p9.block p9.off fun mb=>aF .i64 h t3.block t3.off fun xA=>idx 1 t8 t10 fun MR=>aF .i64 h MR.block MR.off fun BL=>idx 1 t7 t54 fun p14=>aF .i64 h p14.block p14.off fun qD=>aF .i64 h t3.block t3.off fun HT=>j6 .rem .i64 (av (av (mb+(av (av (xA-t11)*n8)))+(av (BL*qD)))) HT fun Qh=>idx 1 t9 t54 fun p18=>st fl h p18 [vi Qh] fun Mf=>kx t3 t7 t8 t9 t10 t11 t53 t54 Mf else idx 1 t9 t54 fun p20=>aF .i64 h p20.block p20.off fun n21=>aF .i64 h t3.block t3.off fun JU=>idx 1 t8 t10 fun p23=>aF .i64 h p23.block p23.off fun n24=>idx 1 t7 t54 fun p25=>aF .i64 h p25.block p25.off fun EI=>aF .i64 h t3.block t3.off fun n27=>j6 .rem .i64 (av (av (n21+(av (av (JU-t11)*0)))+(av (n24*EI)))) n27 fun n28=>idx 1 t9 t54 fun p29=>st fl h p29 [vi n28] fun h30=>kx t3 t7 t8 t9 t10 t11 t53 t54 h30 else e2 t3 t7 t8 t9 t10 h
def ft(kn:wQ R)(e2:bG R):wQ R:=iu C fl k (jZ C fl k kn e2) kn e2
theorem LZ(cn:aa):(cp wR (ce C fl k (yy cn) K))=iu C fl k (cp wR (ce C fl k cn K)) (cp wR (K .normal)) (cp ej (K (.exit 2))):=by kernel_rfl
theorem L2:(cp wR (ce C fl k pM K))=ft C fl k (cp wR (K .normal)) (cp ej (K (.exit 2))):=(LZ C fl k K mL).trans (ag (fun L0=>iu C fl k L0 _ _) (Ig C fl k K))
def jr(kn:bG R):Nat→wQ R
 |0=>fun _ _ _ _ _ _ _ _ _=>none
 |m+1=>ft C fl k (jr kn m) kn
theorem yz:∀m,(cp wR (aQ m (aW C fl k pM 2 K)))=jr C fl k (cp ej (K .normal)) m
 |0=>by kernel_rfl
 |m+1=>gu (L2 C fl k _) (ag (fun L=>ft C fl k L _) (yz m))
def oQ(kn:bG R):wQ R:=jr C fl k kn k
theorem SY:(cp wR (ce C fl k uW K))=oQ C fl k (cp ej (K .normal)):=gv (yz C fl k K)
def sC{R:Type}(C:Callee)(fl k:Nat)(kx:wQ R)(kn:bG R):bG R:=fun t3 t7 t8 t9 t10 h=>aF .i64 h t3.block (t3.off+1) fun n31=>idx 1 t9 (av (n31-1)) fun p32=>aF .i64 h p32.block p32.off fun n33=>sub 1 t9 (some 1) none none fun s34=>aF .i64 h t3.block (t3.off+1) fun n35=>sub 1 t9 none (some (av (n35-1))) none fun s36=>cpy fl 1 s34 s36 h fun n37 h38=>idx 1 t9 0 fun p39=>st fl h38 p39 [vi 0] fun h40=>kx t3 t7 t8 t9 t10 n33 ((t9.l:Nat):Int) 0 h40
def wS(kn:bG R):bG R:=sC C fl k (oQ C fl k kn) kn
theorem ZV(cn:aa):(cp ej (ce C fl k (HE cn) K))=sC C fl k (cp wR (ce C fl k cn K)) (cp ej (K .normal)):=by kernel_rfl
theorem ZW:(cp ej (ce C fl k A0 K))=wS C fl k (cp ej (K .normal)):=(ZV C fl k K uW).trans (ag (fun L0=>sC C fl k L0 _) (SY C fl k K))
def zu{R:Type}(C:Callee)(fl k:Nat)(kx:bG R)(u0:bG R)(kn:bG R)(e0:cG R):bG R:=fun t3 t7 t8 t9 t10 h=>u0 t3 t7 t8 t9 t10 h
def Jl(kn:bG R)(e0:cG R):bG R:=zu C fl k (lp C fl k kn e0) (wS C fl k (lp C fl k kn e0)) kn e0
theorem afB(cn fJ:aa):(cp ej (ce C fl k (MC cn fJ) K))=zu C fl k (cp ej (ce C fl k cn K)) (cp ej (ce C fl k fJ (iK 1 (bw C fl k cn K)))) (cp ej (K .normal)) (cp Ge (K (.exit 0))):=by kernel_rfl
theorem afC:(cp ej (ce C fl k Gf K))=Jl C fl k (cp ej (K .normal)) (cp Ge (K (.exit 0))):=(afB C fl k K sB A0).trans (gG (fun L0 L1=>zu C fl k L0 L1 _ _) (HF C fl k K) ((ZW C fl k (iK 1 (bw C fl k sB K))).trans (ag (fun L0=>wS C fl k L0) (bn1 (HF C fl k K)))))
def A1{R:Type}(C:Callee)(fl k:Nat)(kx:bG R)(kn:bG R)(e0:cG R):bG R:=fun t3 t7 t8 t9 t10 h=>if decide (t10≥0)=true then kx t3 t7 t8 t9 t10 h else e0 t3 t9 h
def uX(kn:bG R)(e0:cG R):bG R:=A1 C fl k (Jl C fl k kn e0) kn e0
theorem aod(cn:aa):(cp ej (ce C fl k (XQ cn) K))=A1 C fl k (cp ej (ce C fl k cn K)) (cp ej (K .normal)) (cp Ge (K (.exit 0))):=by kernel_rfl
theorem aoe:(cp ej (ce C fl k Pq K))=uX C fl k (cp ej (K .normal)) (cp Ge (K (.exit 0))):=(aod C fl k K Gf).trans (ag (fun L0=>A1 C fl k L0 _ _) (afC C fl k K))
def uY(kn:cG R):Nat→bG R
 |0=>fun _ _ _ _ _ _=>none
 |m+1=>uX C fl k (uY kn m) kn
theorem XR:∀m,(cp ej (aQ m (aW C fl k Pq 0 K)))=uY C fl k (cp Ge (K .normal)) m
 |0=>by kernel_rfl
 |m+1=>gu (aoe C fl k _) (ag (fun L=>uX C fl k L _) (XR m))
def ajO(kr:ah R):bG R:=uY C fl k (K2 C fl k kr) k
theorem ayY:(cp ej (ce C fl k adF K))=ajO C fl k (cp aa6 (K .ret)):=(iP (gv (XR C fl k (bw C fl k Pp K)))).trans (ag (fun L=>uY C fl k L k) (iL (aoc C fl k K)))
def ajP{R:Type}(C:Callee)(fl k:Nat)(kx:bG R)(kr:ah R):jq R:=fun aI aJ aL t1 t2 h=>bJ h [vi aI,vi aJ,vs aL] fun b41 h42=>aF .i64 h42 b41 0 fun n43=>aF .i64 h42 b41 1 fun n44=>aj C h42.next fn.il [vi t1,vi n43,vi n44] h42 fun v45 h46=>aX v45 fun s47=>aF .i64 h46 b41 0 fun n48=>aF .i64 h46 b41 1 fun n49=>aj C fl fn.il [vi t2,vi n48,vi n49] h46 fun v50 h51=>aX v50 fun s52=>aF .i64 h51 b41 1 fun n53=>qF 8 [.int .i64 0] n53 n53 h51 fun s54 h55=>aF .i64 h55 b41 1 fun n56=>kx ⟨b41,0,none⟩ s47 s52 s54 (av (n56-1)) h55
def aEh(kr:ah R):jq R:=ajP C fl k (ajO C fl k kr) kr
theorem aLi(cn:aa):(cp awj (ce C fl k (awi cn) K))=ajP C fl k (cp ej (ce C fl k cn K)) (cp aa6 (K .ret)):=by kernel_rfl
theorem aLj:(cp awj (ce C fl k aEg K))=aEh C fl k (cp aa6 (K .ret)):=(aLi C fl k K adF).trans (ag (fun L0=>ajP C fl k L0 _) (ayY C fl k K))
def gp(aw ax:Int)(ay:Sl)(p1 p2:Int)(h:AH):Option (Value×AH):=aEh C fl k (fun y6 q=>some (vi y6,q)) aw ax ay p1 p2 h
theorem A2(aw ax:Int)(ay:Sl)(p1 p2:Int)(h):aV C fl k nG [.agg ⟨[vi aw,vi ax,vs ay]⟩,vi p1,vi p2] h=gp C fl k aw ax ay p1 p2 h:=oY (aLj C fl k (aG _)) aw ax ay p1 p2 (by kernel_rfl) (by kernel_rfl)
def aa7(t6:Int):List Value:=un 6 (vi t6::un 70 [])
def Pr:aa:=.seq (.region [m 76 7,m 6 76] [7,76]) (.ret)
def SZ(t7:Int):List Value:=un 7 (vi t7::un 69 [])
abbrev wT(R:Type):=OA→Int→Int→Int→Int→AH→Option R
def wU(t0:OA)(t1 t2 t7 t8:Int):List Value:=vn t0::vi t1::vi t2::un 4 (vi t7::vi t8::un 68 [])
def Gg:aa:=.block 1 (.seq (.region [m 30 7,m 31 1,m 32 0,oI 33 (.cQ (.t 32)),fa 34 0 33,fa 35 0 34,lj 36 35,bb 37 .rem 31 36,m 38 2,m 39 0,oI 40 (.cQ (.t 39)),fa 41 0 40,fa 42 0 41,lj 43 42,bb 44 .rem 38 43,bb 45 .add 37 44,m 46 0,oI 47 (.cQ (.t 46)),fa 48 0 47,fa 49 0 48,lj 50 49,bb 51 .rem 45 50,m 52 8,bb 53 .mul 51 52,bb 54 .add 30 53,m 7 54] [30,31,32,33,34,35,36,37,38,39,40,41,42,43,44,45,46,47,48,49,50,51,52,53,54]) (.seq (.region [m 55 8,m 56 0,oI 57 (.cQ (.t 56)),fa 58 0 57,fa 59 0 58,li 60 59,bb 61 .mul 55 60,m 8 61] [55,56,57,58,59,60,61]) (.seq (.region [m 62 1,m 63 0,oI 64 (.cQ (.t 63)),fa 65 0 64,fa 66 0 65,li 67 66,bb 68 .quo 62 67,m 1 68] [62,63,64,65,66,67,68]) (.region [m 69 2,m 70 0,oI 71 (.cQ (.t 70)),fa 72 0 71,fa 73 0 72,li 74 73,bb 75 .quo 69 74,m 2 75] [69,70,71,72,73,74,75]))))
def XS(cn:aa):aa:=.seq (.seq (.region [m 24 1,ck 25 .gtr 24 0,m 26 25,.gL 26 false [qI 27 (.mv (.t 2)),qI 28 (.cmp .gtr .i64 (.t 27) (ci 0))],oI 29 (.pick (.t 26) (.c (.bool true)) (.t 28))] [24,25,26,27,28]) (.cond (.t 29) (kl [29]) (.seq (kl [0,1,2,8,29]) (.exit 0)))) cn
def Ps:aa:=XS Gg
def adG:aa:=.seq (.block 0 (.loop Ps)) Pr
def awk(cn:aa):aa:=.seq (.seq (.region [mc 6 0] [6]) (.seq (.region [m 9 0,m 10 1,oI 11 (.call (.f 144) [.t 9,.t 10] (.one (.one (.int .i64)))),m 12 0,m 13 2,oI 14 (.call (.f 144) [.t 12,.t 13] (.one (.one (.int .i64)))),m 1 11,m 2 14] [9,10,11,12,13,14]) (.seq (.region [m 15 0,oI 16 (.cQ (.t 15)),fa 17 0 16,fa 18 0 17,li 19 18,ck 20 .eql 19 2] [15,16,17,18,19]) (.seq (.cond (.t 20) (.seq (.region [m 21 1,m 22 2,bb 23 .xor 21 22,m 6 23] [0,1,2,20,21,22,23]) (.ret)) (kl [20])) (.region [mc 7 0,mc 8 1] []))))) cn
def aEi:aa:=awk adG
def awl(t0:OA)(t1 t2:Int):List Value:=vn t0::vi t1::vi t2::un 74 []
def sD:aK:=⟨77,aEi,[.tmp 6]⟩
theorem ZX:okF Tryz.prog 149 sD=true:=by kernel_rfl
def Vp{R:Type}(C:Callee)(fl k:Nat)(kr:ah R):ah R:=fun t7 h=>kr t7 h
theorem aof:(cp SZ (ce C fl k Pr K))=Vp C fl k (cp aa7 (K .ret)):=by kernel_rfl
def Ci{R:Type}(C:Callee)(fl k:Nat)(kn:wT R)(e0:ah R):wT R:=fun t0 t1 t2 t7 t8 h=>bz (.pointer t0) fun p1=>aF .i64 h p1.block p1.off fun n2=>j6 .rem .i64 t1 n2 fun n3=>bz (.pointer t0) fun p4=>aF .i64 h p4.block p4.off fun n5=>j6 .rem .i64 t2 n5 fun n6=>bz (.pointer t0) fun p7=>aF .i64 h p7.block p7.off fun n8=>j6 .rem .i64 (av (n3+n6)) n8 fun n9=>bz (.pointer t0) fun Qo=>aF .i64 h Qo.block Qo.off fun xA=>bz (.pointer t0) fun MR=>aF .i64 h MR.block MR.off fun BL=>j6 .quo .i64 t1 BL fun Bv=>bz (.pointer t0) fun YJ=>aF .i64 h YJ.block YJ.off fun HT=>j6 .quo .i64 t2 HT fun Qh=>kn t0 Bv Qh (av (t7+(av (n9*t8)))) (av (t8*xA)) h
theorem afD:(cp wU (ce C fl k Gg K))=Ci C fl k (cp wU (K .normal)) (cp SZ (K (.exit 0))):=by kernel_rfl
def A3{R:Type}(C:Callee)(fl k:Nat)(kx:wT R)(kn:wT R)(e0:ah R):wT R:=fun t0 t1 t2 t7 t8 h=>if decide (t1>0)=false then if decide (t2>0)=true then kx t0 t1 t2 t7 t8 h else e0 t7 h else kx t0 t1 t2 t7 t8 h
def uZ(kn:wT R)(e0:ah R):wT R:=A3 C fl k (Ci C fl k kn e0) kn e0
theorem aog(cn:aa):(cp wU (ce C fl k (XS cn) K))=A3 C fl k (cp wU (ce C fl k cn K)) (cp wU (K .normal)) (cp SZ (K (.exit 0))):=by kernel_rfl
theorem aoh:(cp wU (ce C fl k Ps K))=uZ C fl k (cp wU (K .normal)) (cp SZ (K (.exit 0))):=(aog C fl k K Gg).trans (ag (fun L0=>A3 C fl k L0 _ _) (afD C fl k K))
def u1(kn:ah R):Nat→wT R
 |0=>fun _ _ _ _ _ _=>none
 |m+1=>uZ C fl k (u1 kn m) kn
theorem XT:∀m,(cp wU (aQ m (aW C fl k Ps 0 K)))=u1 C fl k (cp SZ (K .normal)) m
 |0=>by kernel_rfl
 |m+1=>gu (aoh C fl k _) (ag (fun L=>uZ C fl k L _) (XT m))
def ajQ(kr:ah R):wT R:=u1 C fl k (Vp C fl k kr) k
theorem ayZ:(cp wU (ce C fl k adG K))=ajQ C fl k (cp aa7 (K .ret)):=(iP (gv (XT C fl k (bw C fl k Pr K)))).trans (ag (fun L=>u1 C fl k L k) (iL (aof C fl k K)))
def ajR{R:Type}(C:Callee)(fl k:Nat)(kx:wT R)(kr:ah R):Cb R:=fun t0 t1 t2 h=>aj C fl fn.gn [.pointer t0,vi t1] h fun v18 Mf=>asInt .i64 v18 fun n20=>aj C fl fn.gn [.pointer t0,vi t2] Mf fun v21 TY=>asInt .i64 v21 fun n23=>bz (.pointer t0) fun p24=>aF .i64 TY p24.block p24.off fun HU=>if (HU==2)=true then j6 .xor .i64 n20 n23 fun EI=>kr EI TY else kx t0 n20 n23 0 1 TY
def aEj(kr:ah R):Cb R:=ajR C fl k (ajQ C fl k kr) kr
theorem aLk(cn:aa):(cp awl (ce C fl k (awk cn) K))=ajR C fl k (cp wU (ce C fl k cn K)) (cp aa7 (K .ret)):=by kernel_rfl
theorem aLl:(cp awl (ce C fl k aEi K))=aEj C fl k (cp aa7 (K .ret)):=(aLk C fl k K adG).trans (ag (fun L0=>ajR C fl k L0 _) (ayZ C fl k K))
def jh(p0:OA)(p1 p2:Int)(h:AH):Option (Value×AH):=aEj C fl k (fun y6 q=>some (vi y6,q)) p0 p1 p2 h
theorem Eg(p0:OA)(p1 p2:Int)(h):aV C fl k sD [.pointer p0,vi p1,vi p2] h=jh C fl k p0 p1 p2 h:=tG (aLl C fl k (aG _)) p0 p1 p2 (by kernel_rfl) (by kernel_rfl)
end Go.Abs.P
end
section
set_option maxRecDepth 100000
set_option linter.unusedVariables false
namespace Go.Abs.P
open Go.Abs Go.Abs.CP Go.Abs.C Go.Proofs
variable{R:Type}(C:Callee)(fl k:Nat)(K:KF R)
def aa8(t4:Sl):List Value:=un 4 (t4.v::un 22 [])
def Pt:aa:=.seq (.region [m 26 5,m 4 26] [5,26]) (.ret)
def ajS(t5:Sl):List Value:=un 5 (t5.v::un 21 [])
def S3(t0 t1 t5:Sl)(t6:Int):List Value:=t0.v::t1.v::un 3 (t5.v::vi t6::un 20 [])
def Pu:aa:=.seq (.region [m 10 6,m 11 1,ln 12 11,cm 13 .lss 10 12] [10,11,12]) (.seq (.cond (.t 13) (kl [13]) (.seq (kl [0,1,6,13]) (.exit 0))) (.seq (.block 1 (.region [m 16 5,m 17 6,m 18 0,m 19 1,m 20 6,ia 21 1 19 20,li 22 21,ia 23 1 18 22,li 24 23,ia 25 1 16 17,sI 1 25 24] [16,17,18,19,20,21,22,23,24,25])) (.region [m 14 6,bc 15 .add 14 1,m 6 15] [14,15])))
def adH:aa:=.seq (.block 0 (.loop Pu)) Pt
def awm(cn:aa):aa:=.seq (.seq (.region [oI 4 (.mv (.c (.slice none 0 0)))] [4]) (.seq (.region [m 7 1,ln 8 7,oI 9 (.dj 8 [.int .i64 0] (.t 8) (.t 8)),m 5 9] [7,8,9]) (.region [mc 6 0] []))) cn
def aEk:aa:=awm adH
def awn(t0 t1:Sl):List Value:=t0.v::t1.v::un 25 []
def zw:aK:=⟨27,aEk,[.tmp 4]⟩
theorem afE:okF Tryz.prog 150 zw=true:=by kernel_rfl
def Vq{R:Type}(C:Callee)(fl k:Nat)(kr:ab R):ab R:=fun t5 h=>kr t5 h
theorem aoi:(cp ajS (ce C fl k Pt K))=Vq C fl k (cp aa8 (K .ret)):=by kernel_rfl
def u2{R:Type}(C:Callee)(fl k:Nat)(kn:r8 R)(e0:ab R):r8 R:=fun t0 t1 t5 t6 h=>if decide (t6<((t1.l:Nat):Int))=true then idx 1 t1 t6 fun p1=>aF .i64 h p1.block p1.off fun n2=>idx 1 t0 n2 fun p3=>aF .i64 h p3.block p3.off fun n4=>idx 1 t5 t6 fun p5=>st fl h p5 [vi n4] fun h6=>kn t0 t1 t5 (av (t6+1)) h6 else e0 t5 h
theorem aoj:(cp S3 (ce C fl k Pu K))=u2 C fl k (cp S3 (K .normal)) (cp ajS (K (.exit 0))):=by kernel_rfl
def u3(kn:ab R):Nat→r8 R
 |0=>fun _ _ _ _ _=>none
 |m+1=>u2 C fl k (u3 kn m) kn
theorem XU:∀m,(cp S3 (aQ m (aW C fl k Pu 0 K)))=u3 C fl k (cp ajS (K .normal)) m
 |0=>by kernel_rfl
 |m+1=>gu (aoj C fl k _) (ag (fun L=>u2 C fl k L _) (XU m))
def ajT(kr:ab R):r8 R:=u3 C fl k (Vq C fl k kr) k
theorem ay0:(cp S3 (ce C fl k adH K))=ajT C fl k (cp aa8 (K .ret)):=(iP (gv (XU C fl k (bw C fl k Pt K)))).trans (ag (fun L=>u3 C fl k L k) (iL (aoi C fl k K)))
def ajU{R:Type}(C:Callee)(fl k:Nat)(kx:r8 R)(kr:ab R):cR R:=fun t0 t1 h=>qF 8 [.int .i64 0] ((t1.l:Nat):Int) ((t1.l:Nat):Int) h fun s7 h8=>kx t0 t1 s7 0 h8
def aEl(kr:ab R):cR R:=ajU C fl k (ajT C fl k kr) kr
theorem aLm(cn:aa):(cp awn (ce C fl k (awm cn) K))=ajU C fl k (cp S3 (ce C fl k cn K)) (cp aa8 (K .ret)):=by kernel_rfl
theorem aLn:(cp awn (ce C fl k aEk K))=aEl C fl k (cp aa8 (K .ret)):=(aLm C fl k K adH).trans (ag (fun L0=>ajU C fl k L0 _) (ay0 C fl k K))
def zY(p0 p1:Sl)(h:AH):Option (Value×AH):=aEl C fl k (fun y4 q=>some (vs y4,q)) p0 p1 h
theorem adI(p0 p1:Sl)(h):aV C fl k zw [vs p0,vs p1] h=zY C fl k p0 p1 h:=tF (aLn C fl k (aG _)) p0 p1 (by kernel_rfl) (by kernel_rfl)
def aLo(t2:Bool):List Value:=un 2 (.bool t2::un 3 [])
def aEm:aa:=.seq (.region [oI 2 (.mv (.c (.bool false)))] [2]) (.seq (.region [m 3 0,m 4 0,cm 5 .neq 3 4,m 2 5] [0,3,4,5]) (.ret))
def aLp(t0:Int):List Value:=vi t0::un 5 []
def Cj:aK:=⟨6,aEm,[.tmp 2]⟩
theorem ajV:okF Tryz.prog 151 Cj=true:=by kernel_rfl
def aOy{R:Type}(C:Callee)(fl k:Nat)(kr:aC R):ah R:=fun t0 h=>kr (t0 !=t0) h
theorem aLq:(cp aLp (ce C fl k aEm K))=aOy C fl k (cp aLo (K .ret)):=by kernel_rfl
def Ds(p0:Int)(h:AH):Option (Value×AH):=aOy C fl k (fun y2 q=>some (.bool y2,q)) p0 h
theorem afF(p0:Int)(h):aV C fl k Cj [vi p0] h=Ds C fl k p0 h:=IU (aLq C fl k (aG _)) p0 (by kernel_rfl) (by kernel_rfl)
def aa9(t2:Sl):List Value:=un 2 (t2.v::un 18 [])
def Pv:aa:=.seq (.region [m 20 3,m 2 20] [3,20]) (.ret)
def ajW(t3:Sl):List Value:=un 3 (t3.v::un 17 [])
def S4(t0 t3:Sl)(t4:Int):List Value:=t0.v::un 2 (t3.v::vi t4::un 16 [])
def Pw:aa:=.seq (.region [m 5 4,m 6 0,ln 7 6,cm 8 .lss 5 7] [5,6,7]) (.seq (.cond (.t 8) (kl [8]) (.seq (kl [0,4,8]) (.exit 0))) (.seq (.block 1 (.region [m 11 3,oI 12 (.bq 0 [] []),m 13 0,m 14 4,ia 15 1 13 14,ls 16 15,oI 17 (.append 1 8 (.t 12) (.t 16)),oI 18 (.bq 1 [.slice none 0 0] [(0,1,.t 17)]),oI 19 (.append 1 24 (.t 11) (.t 18)),m 3 19] [11,12,13,14,15,16,17,18,19])) (.region [m 9 4,bc 10 .add 9 1,m 4 10] [9,10])))
def adJ:aa:=.seq (.block 0 (.loop Pw)) Pv
def awo(cn:aa):aa:=.seq (.seq (.region [oI 2 (.mv (.c (.slice none 0 0)))] [2]) (.seq (.region [oI 3 (.mv (.c (.slice none 0 0)))] []) (.region [mc 4 0] []))) cn
def aEn:aa:=awo adJ
def awp(t0:Sl):List Value:=t0.v::un 20 []
def zx:aK:=⟨21,aEn,[.tmp 2]⟩
theorem afG:okF Tryz.prog 152 zx=true:=by kernel_rfl
def Vr{R:Type}(C:Callee)(fl k:Nat)(kr:ab R):ab R:=fun t3 h=>kr t3 h
theorem aok:(cp ajW (ce C fl k Pv K))=Vr C fl k (cp aa9 (K .ret)):=by kernel_rfl
def u4{R:Type}(C:Callee)(fl k:Nat)(kn:gw R)(e0:ab R):gw R:=fun t0 t3 t4 h=>if decide (t4<((t0.l:Nat):Int))=true then bJ h [] fun b1 h2=>idx 1 t0 t4 fun p3=>aT h2 p3.block p3.off fun s4=>dn fl 1 8 ⟨(some ⟨b1,0,none⟩),0,0⟩ s4 h2 fun s5 h6=>bJ h6 [vs s5] fun b7 h8=>dn fl 1 24 t3 ⟨(some ⟨b7,0,none⟩),1,1⟩ h8 fun s9 sU=>kn t0 s9 (av (t4+1)) sU else e0 t3 h
theorem aol:(cp S4 (ce C fl k Pw K))=u4 C fl k (cp S4 (K .normal)) (cp ajW (K (.exit 0))):=by kernel_rfl
def qu(kn:ab R):Nat→gw R
 |0=>fun _ _ _ _=>none
 |m+1=>u4 C fl k (qu kn m) kn
theorem XV:∀m,(cp S4 (aQ m (aW C fl k Pw 0 K)))=qu C fl k (cp ajW (K .normal)) m
 |0=>by kernel_rfl
 |m+1=>gu (aol C fl k _) (ag (fun L=>u4 C fl k L _) (XV m))
def awq(kr:ab R):gw R:=qu C fl k (Vr C fl k kr) k
theorem ay1:(cp S4 (ce C fl k adJ K))=awq C fl k (cp aa9 (K .ret)):=(iP (gv (XV C fl k (bw C fl k Pv K)))).trans (ag (fun L=>qu C fl k L k) (iL (aok C fl k K)))
def ajX{R:Type}(C:Callee)(fl k:Nat)(kx:gw R)(kr:ab R):ab R:=fun t0 h=>kx t0 ⟨none,0,0⟩ 0 h
def aEo(kr:ab R):ab R:=ajX C fl k (awq C fl k kr) kr
theorem aLr(cn:aa):(cp awp (ce C fl k (awo cn) K))=ajX C fl k (cp S4 (ce C fl k cn K)) (cp aa9 (K .ret)):=by kernel_rfl
theorem aLs:(cp awp (ce C fl k aEn K))=aEo C fl k (cp aa9 (K .ret)):=(aLr C fl k K adJ).trans (ag (fun L0=>ajX C fl k L0 _) (ay1 C fl k K))
def zZ(p0:Sl)(h:AH):Option (Value×AH):=aEo C fl k (fun y2 q=>some (vs y2,q)) p0 h
theorem adK(p0:Sl)(h):aV C fl k zx [vs p0] h=zZ C fl k p0 h:=IU (aLs C fl k (aG _)) p0 (by kernel_rfl) (by kernel_rfl)
def aba(t6:Sl):List Value:=un 6 (t6.v::un 22 [])
def Px:aa:=.seq (.region [m 28 7,m 6 28] [7,28]) (.ret)
def ajY(t7:Sl):List Value:=un 7 (t7.v::un 21 [])
abbrev S5(R:Type):=Int→Sl→Addr→Sl→Int→AH→Option R
def S6(t1:Int)(t2:Sl)(t3:Addr)(t7:Sl)(t8:Int):List Value:=un 1 (vi t1::t2.v::vp t3::un 3 (t7.v::vi t8::un 20 []))
def Py:aa:=.seq (.region [m 12 8,m 13 2,ln 14 13,cm 15 .lss 12 14] [12,13,14]) (.seq (.cond (.t 15) (kl [15]) (.seq (kl [1,2,3,8,15]) (.exit 0))) (.seq (.block 1 (.region [m 18 7,m 19 8,oJ 20 (.load (.agg [.int .i64,.int .i64,.slice]) (.t 3)),m 21 1,m 22 2,m 23 8,ia 24 1 22 23,lj 25 24,oI 26 (.call (.f 172) [.t 20,.t 21,.t 25] (.one (.one (.int .i64)))),ia 27 1 18 19,sI 1 27 26] [18,19,20,21,22,23,24,25,26,27])) (.region [m 16 8,bc 17 .add 16 1,m 8 17] [16,17])))
def adL:aa:=.seq (.block 0 (.loop Py)) Px
def awr(cn:aa):aa:=.seq (.seq (.region [oI 3 (.box (.t 0)),oI 6 (.mv (.c (.slice none 0 0)))] [0,6]) (.seq (.region [m 9 2,ln 10 9,oI 11 (.dj 8 [.int .i64 0] (.t 10) (.t 10)),m 7 11] [9,10,11]) (.region [mc 8 0] []))) cn
def aEp:aa:=awr adL
def aws(aI aJ:Int)(aL:Sl)(t1:Int)(t2:Sl):List Value:=.agg ⟨[vi aI,vi aJ,vs aL]⟩::vi t1::t2.v::un 26 []
def wV:aK:=⟨29,aEp,[.tmp 6]⟩
theorem adM:okF Tryz.prog 153 wV=true:=by kernel_rfl
def Vs{R:Type}(C:Callee)(fl k:Nat)(kr:ab R):ab R:=fun t7 h=>kr t7 h
theorem aom:(cp ajY (ce C fl k Px K))=Vs C fl k (cp aba (K .ret)):=by kernel_rfl
def u5{R:Type}(C:Callee)(fl k:Nat)(kn:S5 R)(e0:ab R):S5 R:=fun t1 t2 t3 t7 t8 h=>if decide (t8<((t2.l:Nat):Int))=true then aF .i64 h t3.block t3.off fun n1=>aF .i64 h t3.block (t3.off+1) fun n2=>aT h t3.block (t3.off+1+1) fun s3=>idx 1 t2 t8 fun p4=>aF .i64 h p4.block p4.off fun n5=>aj C fl fn.iQ [.agg ⟨[vi n1,vi n2,vs s3]⟩,vi t1,vi n5] h fun v6 h7=>asInt .i64 v6 fun n8=>idx 1 t7 t8 fun p9=>st fl h7 p9 [vi n8] fun sU=>kn t1 t2 t3 t7 (av (t8+1)) sU else e0 t7 h
theorem aon:(cp S6 (ce C fl k Py K))=u5 C fl k (cp S6 (K .normal)) (cp ajY (K (.exit 0))):=by kernel_rfl
def Eh(kn:ab R):Nat→S5 R
 |0=>fun _ _ _ _ _ _=>none
 |m+1=>u5 C fl k (Eh kn m) kn
theorem XW:∀m,(cp S6 (aQ m (aW C fl k Py 0 K)))=Eh C fl k (cp ajY (K .normal)) m
 |0=>by kernel_rfl
 |m+1=>gu (aon C fl k _) (ag (fun L=>u5 C fl k L _) (XW m))
def awt(kr:ab R):S5 R:=Eh C fl k (Vs C fl k kr) k
theorem ay2:(cp S6 (ce C fl k adL K))=awt C fl k (cp aba (K .ret)):=(iP (gv (XW C fl k (bw C fl k Px K)))).trans (ag (fun L=>Eh C fl k L k) (iL (aom C fl k K)))
def ajZ{R:Type}(C:Callee)(fl k:Nat)(kx:S5 R)(kr:ab R):bD R:=fun aI aJ aL t1 t2 h=>bJ h [vi aI,vi aJ,vs aL] fun b11 zN=>qF 8 [.int .i64 0] ((t2.l:Nat):Int) ((t2.l:Nat):Int) zN fun VZ h14=>kx t1 t2 ⟨b11,0,none⟩ VZ 0 h14
def aEq(kr:ab R):bD R:=ajZ C fl k (awt C fl k kr) kr
theorem aLt(cn:aa):(cp aws (ce C fl k (awr cn) K))=ajZ C fl k (cp S6 (ce C fl k cn K)) (cp aba (K .ret)):=by kernel_rfl
theorem aLu:(cp aws (ce C fl k aEp K))=aEq C fl k (cp aba (K .ret)):=(aLt C fl k K adL).trans (ag (fun L0=>ajZ C fl k L0 _) (ay2 C fl k K))
def pZ(aw ax:Int)(ay:Sl)(p1:Int)(p2:Sl)(h:AH):Option (Value×AH):=aEq C fl k (fun y6 q=>some (vs y6,q)) aw ax ay p1 p2 h
theorem ZY(aw ax:Int)(ay:Sl)(p1:Int)(p2:Sl)(h):aV C fl k wV [.agg ⟨[vi aw,vi ax,vs ay]⟩,vi p1,vs p2] h=pZ C fl k aw ax ay p1 p2 h:=oY (aLu C fl k (aG _)) aw ax ay p1 p2 (by kernel_rfl) (by kernel_rfl)
def K3(t4:Int):List Value:=un 4 (vi t4::un 13 [])
def Pz:aa:=.seq (.region [mc 4 0] []) (.ret)
def aj0:List Value:=un 18 []
def S7(t1:Int)(t2:Addr)(t5:Int):List Value:=un 1 (vi t1::vp t2::un 2 (vi t5::un 12 []))
def PA:aa:=.seq (.region [m 6 5,oI 7 (.load (.agg [.int .i64,.int .i64,.slice]) (.t 2)),oI 8 (.call (.f 96) [.t 7] (.one (.one (.int .i64)))),cm 9 .lss 6 8] [6,7,8]) (.seq (.cond (.t 9) (kl [9]) (.seq (kl [1,2,5,9]) (.exit 0))) (.seq (.block 1 (.seq (.region [oI 12 (.load (.agg [.int .i64,.int .i64,.slice]) (.t 2)),m 13 1,m 14 5,oI 15 (.call (.f 172) [.t 12,.t 13,.t 14] (.one (.one (.int .i64)))),ck 16 .eql 15 1] [12,13,14,15]) (.cond (.t 16) (.seq (.region [m 17 5,m 4 17] [1,2,5,16,17]) (.ret)) (kl [16])))) (.region [m 10 5,bc 11 .add 10 1,m 5 11] [10,11])))
def adN:aa:=.seq (.block 0 (.loop PA)) Pz
def awu(cn:aa):aa:=.seq (.seq (.region [oI 2 (.box (.t 0)),mc 4 0] [0,4]) (.region [mc 5 1] [])) cn
def aEr:aa:=awu adN
def awv(aI aJ:Int)(aL:Sl)(t1:Int):List Value:=.agg ⟨[vi aI,vi aJ,vs aL]⟩::vi t1::un 16 []
def Ck:aK:=⟨18,aEr,[.tmp 4]⟩
theorem aj1:okF Tryz.prog 154 Ck=true:=by kernel_rfl
def Vt{R:Type}(C:Callee)(fl k:Nat)(kr:ah R):au R:=fun h=>kr 0 h
theorem aoo:(cp aj0 (ce C fl k Pz K))=Vt C fl k (cp K3 (K .ret)):=by kernel_rfl
def u6{R:Type}(C:Callee)(fl k:Nat)(kn:bW R)(e0:au R)(kr:ah R):bW R:=fun t1 t2 t5 h=>aF .i64 h t2.block t2.off fun n1=>aF .i64 h t2.block (t2.off+1) fun n2=>aT h t2.block (t2.off+1+1) fun s3=>aj C fl fn.mw [.agg ⟨[vi n1,vi n2,vs s3]⟩] h fun v4 h5=>asInt .i64 v4 fun n6=>if decide (t5<n6)=true then aF .i64 h5 t2.block t2.off fun n7=>aF .i64 h5 t2.block (t2.off+1) fun n8=>aT h5 t2.block (t2.off+1+1) fun s9=>aj C fl fn.iQ [.agg ⟨[vi n7,vi n8,vs s9]⟩,vi t1,vi t5] h5 fun v10 iH=>asInt .i64 v10 fun Bu=>if (Bu==1)=true then kr t5 iH else kn t1 t2 (av (t5+1)) iH else e0 h5
theorem aop:(cp S7 (ce C fl k PA K))=u6 C fl k (cp S7 (K .normal)) (cp aj0 (K (.exit 0))) (cp K3 (K .ret)):=by kernel_rfl
def u7(kn:au R)(kr:ah R):Nat→bW R
 |0=>fun _ _ _ _=>none
 |m+1=>u6 C fl k (u7 kn kr m) kn kr
theorem XX:∀m,(cp S7 (aQ m (aW C fl k PA 0 K)))=u7 C fl k (cp aj0 (K .normal)) (cp K3 (K .ret)) m
 |0=>by kernel_rfl
 |m+1=>gu (aop C fl k _) (ag (fun L=>u6 C fl k L _ _) (XX m))
def aww(kr:ah R):bW R:=u7 C fl k (Vt C fl k kr) kr k
theorem ay3:(cp S7 (ce C fl k adN K))=aww C fl k (cp K3 (K .ret)):=(iP (gv (XX C fl k (bw C fl k Pz K)))).trans (ag (fun L=>u7 C fl k L _ k) (iL (aoo C fl k K)))
def aj2{R:Type}(C:Callee)(fl k:Nat)(kx:bW R)(kr:ah R):cu R:=fun aI aJ aL t1 h=>bJ h [vi aI,vi aJ,vs aL] fun b13 h14=>kx t1 ⟨b13,0,none⟩ 1 h14
def aEs(kr:ah R):cu R:=aj2 C fl k (aww C fl k kr) kr
theorem aLv(cn:aa):(cp awv (ce C fl k (awu cn) K))=aj2 C fl k (cp S7 (ce C fl k cn K)) (cp K3 (K .ret)):=by kernel_rfl
theorem aLw:(cp awv (ce C fl k aEr K))=aEs C fl k (cp K3 (K .ret)):=(aLv C fl k K adN).trans (ag (fun L0=>aj2 C fl k L0 _) (ay3 C fl k K))
def tE(aw ax:Int)(ay:Sl)(p1:Int)(h:AH):Option (Value×AH):=aEs C fl k (fun y4 q=>some (vi y4,q)) aw ax ay p1 h
theorem afH(aw ax:Int)(ay:Sl)(p1:Int)(h):aV C fl k Ck [.agg ⟨[vi aw,vi ax,vs ay]⟩,vi p1] h=tE C fl k aw ax ay p1 h:=QS (aLw C fl k (aG _)) aw ax ay p1 (by kernel_rfl) (by kernel_rfl)
def abb(t8:Sl):List Value:=un 8 (t8.v::un 40 [])
def PB:aa:=.seq (.region [m 48 9,m 8 48] [9,48]) (.ret)
def S8(t9:Sl):List Value:=un 9 (t9.v::un 39 [])
abbrev wW(R:Type):=Sl→Int→Sl→Addr→Sl→Int→AH→Option R
def wX(t1:Sl)(t2:Int)(t3:Sl)(t4:Addr)(t9:Sl)(t10:Int):List Value:=un 1 (t1.v::vi t2::t3.v::vp t4::un 4 (t9.v::vi t10::un 38 []))
def Gh:aa:=.region [m 18 10,bc 19 .add 18 1,m 10 19] [18,19]
def XY(cn:aa):aa:=.seq (.seq (.region [m 14 10,m 15 1,ln 16 15,cm 17 .lss 14 16] [14,15,16]) (.seq (.cond (.t 17) (kl [17]) (.seq (kl [1,2,3,4,10,17]) (.exit 0))) (.block 1 (.seq (.region [m 20 9,m 21 10,m 22 1,m 23 10,ia 24 1 22 23,li 25 24,ia 26 1 20 21,sI 1 26 25] [20,21,22,23,24,25,26]) (.seq (.region [m 27 3,m 28 10,ia 29 1 27 28,li 30 29,ck 31 .neq 30 0] [27,28,29,30]) (.cond (.t 31) (.region [m 32 9,m 33 10,oJ 34 (.load (.agg [.int .i64,.int .i64,.slice]) (.t 4)),m 35 1,m 36 10,ia 37 1 35 36,lj 38 37,oJ 39 (.load (.agg [.int .i64,.int .i64,.slice]) (.t 4)),m 40 2,m 41 3,m 42 10,ia 43 1 41 42,lj 44 43,oJ 45 (.call (.f 172) [.t 39,.t 40,.t 44] (.one (.one (.int .i64)))),oI 46 (.call (.f 173) [.t 34,.t 38,.t 45] (.one (.one (.int .i64)))),ia 47 1 32 33,sI 1 47 46] [31,32,33,34,35,36,37,38,39,40,41,42,43,44,45,46,47]) (kl [31]))))))) cn
def PC:aa:=XY Gh
def adO:aa:=.seq (.block 0 (.loop PC)) PB
def awx(cn:aa):aa:=.seq (.seq (.region [oI 4 (.box (.t 0)),oI 8 (.mv (.c (.slice none 0 0)))] [0,8]) (.seq (.region [m 11 1,ln 12 11,oI 13 (.dj 8 [.int .i64 0] (.t 12) (.t 12)),m 9 13] [11,12,13]) (.region [mc 10 0] []))) cn
def aEt:aa:=awx adO
abbrev awy(R:Type):=Int→Int→Sl→Sl→Int→Sl→AH→Option R
def awz(aI aJ:Int)(aL t1:Sl)(t2:Int)(t3:Sl):List Value:=.agg ⟨[vi aI,vi aJ,vs aL]⟩::t1.v::vi t2::t3.v::un 45 []
def wY:aK:=⟨49,aEt,[.tmp 8]⟩
theorem adP:okF Tryz.prog 155 wY=true:=by kernel_rfl
def Vu{R:Type}(C:Callee)(fl k:Nat)(kr:ab R):ab R:=fun t9 h=>kr t9 h
theorem aoq:(cp S8 (ce C fl k PB K))=Vu C fl k (cp abb (K .ret)):=by kernel_rfl
def qw{R:Type}(C:Callee)(fl k:Nat)(kn:wW R)(e0:ab R):wW R:=fun t1 t2 t3 t4 t9 t10 h=>kn t1 t2 t3 t4 t9 (av (t10+1)) h
theorem afI:(cp wX (ce C fl k Gh K))=qw C fl k (cp wX (K .normal)) (cp S8 (K (.exit 0))):=by kernel_rfl
def A4{R:Type}(C:Callee)(fl k:Nat)(kx:wW R)(kn:wW R)(e0:ab R):wW R:=fun t1 t2 t3 t4 t9 t10 h=>if decide (t10<((t1.l:Nat):Int))=true then idx 1 t1 t10 fun p1=>aF .i64 h p1.block p1.off fun n2=>idx 1 t9 t10 fun p3=>st fl h p3 [vi n2] fun h4=>idx 1 t3 t10 fun p5=>aF .i64 h4 p5.block p5.off fun n6=>if (n6 !=0)=true then aF .i64 h4 t4.block t4.off fun n7=>aF .i64 h4 t4.block (t4.off+1) fun n8=>aT h4 t4.block (t4.off+1+1) fun s9=>idx 1 t1 t10 fun Qo=>aF .i64 h4 Qo.block Qo.off fun xA=>aF .i64 h4 t4.block t4.off fun Bu=>aF .i64 h4 t4.block (t4.off+1) fun BL=>aT h4 t4.block (t4.off+1+1) fun TT=>idx 1 t3 t10 fun YJ=>aF .i64 h4 YJ.block YJ.off fun HT=>aj C h4.next fn.iQ [.agg ⟨[vi Bu,vi BL,vs TT]⟩,vi t2,vi HT] h4 fun v17 JR=>asInt .i64 v17 fun TX=>aj C fl fn.qb [.agg ⟨[vi n7,vi n8,vs s9]⟩,vi xA,vi TX] JR fun v20 yL=>asInt .i64 v20 fun JU=>idx 1 t9 t10 fun p23=>st fl yL p23 [vi JU] fun vt=>kx t1 t2 t3 t4 t9 t10 vt else kx t1 t2 t3 t4 t9 t10 h4 else e0 t9 h
def u9(kn:wW R)(e0:ab R):wW R:=A4 C fl k (qw C fl k kn e0) kn e0
theorem aor(cn:aa):(cp wX (ce C fl k (XY cn) K))=A4 C fl k (cp wX (ce C fl k cn K)) (cp wX (K .normal)) (cp S8 (K (.exit 0))):=by kernel_rfl
theorem aos:(cp wX (ce C fl k PC K))=u9 C fl k (cp wX (K .normal)) (cp S8 (K (.exit 0))):=(aor C fl k K Gh).trans (ag (fun L0=>A4 C fl k L0 _ _) (afI C fl k K))
def qx(kn:ab R):Nat→wW R
 |0=>fun _ _ _ _ _ _ _=>none
 |m+1=>u9 C fl k (qx kn m) kn
theorem XZ:∀m,(cp wX (aQ m (aW C fl k PC 0 K)))=qx C fl k (cp S8 (K .normal)) m
 |0=>by kernel_rfl
 |m+1=>gu (aos C fl k _) (ag (fun L=>u9 C fl k L _) (XZ m))
def awA(kr:ab R):wW R:=qx C fl k (Vu C fl k kr) k
theorem ay4:(cp wX (ce C fl k adO K))=awA C fl k (cp abb (K .ret)):=(iP (gv (XZ C fl k (bw C fl k PB K)))).trans (ag (fun L=>qx C fl k L k) (iL (aoq C fl k K)))
def aj3{R:Type}(C:Callee)(fl k:Nat)(kx:wW R)(kr:ab R):awy R:=fun aI aJ aL t1 t2 t3 h=>bJ h [vi aI,vi aJ,vs aL] fun b25 h26=>qF 8 [.int .i64 0] ((t1.l:Nat):Int) ((t1.l:Nat):Int) h26 fun s27 h28=>kx t1 t2 t3 ⟨b25,0,none⟩ s27 0 h28
def aEu(kr:ab R):awy R:=aj3 C fl k (awA C fl k kr) kr
theorem aLx(cn:aa):(cp awz (ce C fl k (awx cn) K))=aj3 C fl k (cp wX (ce C fl k cn K)) (cp abb (K .ret)):=by kernel_rfl
theorem aLy:(cp awz (ce C fl k aEt K))=aEu C fl k (cp abb (K .ret)):=(aLx C fl k K adO).trans (ag (fun L0=>aj3 C fl k L0 _) (ay4 C fl k K))
def qa(aw ax:Int)(ay p1:Sl)(p2:Int)(p3:Sl)(h:AH):Option (Value×AH):=aEu C fl k (fun y8 q=>some (vs y8,q)) aw ax ay p1 p2 p3 h
theorem ZZ(aw ax:Int)(ay p1:Sl)(p2:Int)(p3:Sl)(h):aV C fl k wY [.agg ⟨[vi aw,vi ax,vs ay]⟩,vs p1,vi p2,vs p3] h=qa C fl k aw ax ay p1 p2 p3 h:=Uq (aLy C fl k (aG _)) aw ax ay p1 p2 p3 (by kernel_rfl) (by kernel_rfl)
def aLz(t4:Sl):List Value:=un 4 (t4.v::un 8 [])
def aEv:aa:=.seq (.region [oI 2 (.box (.t 0)),oI 4 (.mv (.c (.slice none 0 0)))] [0,4]) (.seq (.region [oJ 5 (.load (.agg [.int .i64,.int .i64,.slice]) (.t 2)),m 6 1,oJ 7 (.call (.f 174) [.t 5,.t 6] (.one (.one (.int .i64)))),fa 8 0 2,lj 9 8,fa 10 1 2,lj 11 10,oI 12 (.call (.f 137) [.t 7,.t 9,.t 11] (.one (.one .slice))),m 4 12] [1,2,5,6,7,8,9,10,11,12]) (.ret))
def aLA(aI aJ:Int)(aL:Sl)(t1:Int):List Value:=.agg ⟨[vi aI,vi aJ,vs aL]⟩::vi t1::un 11 []
def sF:aK:=⟨13,aEv,[.tmp 4]⟩
theorem Z0:okF Tryz.prog 156 sF=true:=by kernel_rfl
def aEw{R:Type}(C:Callee)(fl k:Nat)(kr:ab R):cu R:=fun aI aJ aL t1 h=>bJ h [vi aI,vi aJ,vs aL] fun b1 h2=>aF .i64 h2 b1 0 fun n3=>aF .i64 h2 b1 1 fun n4=>aT h2 b1 2 fun s5=>aj C h2.next fn.Dt [.agg ⟨[vi n3,vi n4,vs s5]⟩,vi t1] h2 fun v6 h7=>asInt .i64 v6 fun n8=>aF .i64 h7 b1 0 fun n9=>aF .i64 h7 b1 1 fun mb=>aj C fl fn.mZ [vi n8,vi n9,vi mb] h7 fun v11 zN=>aX v11 fun VZ=>kr VZ zN
theorem aLB:(cp aLA (ce C fl k aEv K))=aEw C fl k (cp aLz (K .ret)):=by kernel_rfl
def df(aw ax:Int)(ay:Sl)(p1:Int)(h:AH):Option (Value×AH):=aEw C fl k (fun y4 q=>some (vs y4,q)) aw ax ay p1 h
theorem Vv(aw ax:Int)(ay:Sl)(p1:Int)(h):aV C fl k sF [.agg ⟨[vi aw,vi ax,vs ay]⟩,vi p1] h=df C fl k aw ax ay p1 h:=QS (aLB C fl k (aG _)) aw ax ay p1 (by kernel_rfl) (by kernel_rfl)
def abc(t4:Int):List Value:=un 4 (vi t4::un 19 [])
def PD:aa:=.seq (.region [m 23 5,m 4 23] [5,23]) (.ret)
def aj4(t5:Int):List Value:=un 5 (vi t5::un 18 [])
abbrev S9(R:Type):=Sl→Addr→Int→Int→AH→Option R
def Ta(t1:Sl)(t2:Addr)(t5 t6:Int):List Value:=un 1 (t1.v::vp t2::un 2 (vi t5::vi t6::un 17 []))
def PE:aa:=.seq (.region [m 10 6,ck 11 .geq 10 0] [10]) (.seq (.cond (.t 11) (kl [11]) (.seq (kl [1,2,6,11]) (.exit 0))) (.seq (.block 1 (.region [m 14 5,fa 15 0 2,lj 16 15,bb 17 .mul 14 16,m 18 1,m 19 6,ia 20 1 18 19,lj 21 20,bb 22 .add 17 21,m 5 22] [14,15,16,17,18,19,20,21,22])) (.region [m 12 6,bc 13 .sub 12 1,m 6 13] [12,13])))
def adQ:aa:=.seq (.block 0 (.loop PE)) PD
def awB(cn:aa):aa:=.seq (.seq (.region [oI 2 (.box (.t 0)),mc 4 0] [0,4]) (.seq (.region [mc 5 0] []) (.region [m 7 1,ln 8 7,bc 9 .sub 8 1,m 6 9] [7,8,9]))) cn
def aEx:aa:=awB adQ
def awC(aI aJ:Int)(aL t1:Sl):List Value:=.agg ⟨[vi aI,vi aJ,vs aL]⟩::t1.v::un 22 []
def wZ:aK:=⟨24,aEx,[.tmp 4]⟩
theorem adR:okF Tryz.prog 157 wZ=true:=by kernel_rfl
def Vw{R:Type}(C:Callee)(fl k:Nat)(kr:ah R):ah R:=fun t5 h=>kr t5 h
theorem aot:(cp aj4 (ce C fl k PD K))=Vw C fl k (cp abc (K .ret)):=by kernel_rfl
def va{R:Type}(C:Callee)(fl k:Nat)(kn:S9 R)(e0:ah R):S9 R:=fun t1 t2 t5 t6 h=>if decide (t6≥0)=true then aF .i64 h t2.block t2.off fun n1=>idx 1 t1 t6 fun p2=>aF .i64 h p2.block p2.off fun n3=>kn t1 t2 (av (av (t5*n1)+n3)) (av (t6-1)) h else e0 t5 h
theorem aou:(cp Ta (ce C fl k PE K))=va C fl k (cp Ta (K .normal)) (cp aj4 (K (.exit 0))):=by kernel_rfl
def Ei(kn:ah R):Nat→S9 R
 |0=>fun _ _ _ _ _=>none
 |m+1=>va C fl k (Ei kn m) kn
theorem X0:∀m,(cp Ta (aQ m (aW C fl k PE 0 K)))=Ei C fl k (cp aj4 (K .normal)) m
 |0=>by kernel_rfl
 |m+1=>gu (aou C fl k _) (ag (fun L=>va C fl k L _) (X0 m))
def aj5(kr:ah R):S9 R:=Ei C fl k (Vw C fl k kr) k
theorem ay5:(cp Ta (ce C fl k adQ K))=aj5 C fl k (cp abc (K .ret)):=(iP (gv (X0 C fl k (bw C fl k PD K)))).trans (ag (fun L=>Ei C fl k L k) (iL (aot C fl k K)))
def aj6{R:Type}(C:Callee)(fl k:Nat)(kx:S9 R)(kr:ah R):B3 R:=fun aI aJ aL t1 h=>bJ h [vi aI,vi aJ,vs aL] fun b4 h5=>kx t1 ⟨b4,0,none⟩ 0 (av (((t1.l:Nat):Int)-1)) h5
def aEy(kr:ah R):B3 R:=aj6 C fl k (aj5 C fl k kr) kr
theorem aLC(cn:aa):(cp awC (ce C fl k (awB cn) K))=aj6 C fl k (cp Ta (ce C fl k cn K)) (cp abc (K .ret)):=by kernel_rfl
theorem aLD:(cp awC (ce C fl k aEx K))=aEy C fl k (cp abc (K .ret)):=(aLC C fl k K adQ).trans (ag (fun L0=>aj6 C fl k L0 _) (ay5 C fl k K))
def gZ(aw ax:Int)(ay p1:Sl)(h:AH):Option (Value×AH):=aEy C fl k (fun y4 q=>some (vi y4,q)) aw ax ay p1 h
theorem Z1(aw ax:Int)(ay p1:Sl)(h):aV C fl k wZ [.agg ⟨[vi aw,vi ax,vs ay]⟩,vs p1] h=gZ C fl k aw ax ay p1 h:=QS (aLD C fl k (aG _)) aw ax ay p1 (by kernel_rfl) (by kernel_rfl)
def abd(t6:Sl):List Value:=un 6 (t6.v::un 31 [])
def PF:aa:=.seq (.region [m 37 8,m 6 37] [8,37]) (.ret)
def Tb(t8:Sl):List Value:=un 8 (t8.v::un 29 [])
abbrev w7(R:Type):=OA→Int→OA→Sl→Sl→Int→Int→AH→Option R
def w8(t0:OA)(t2:Int)(t7:OA)(t8 t17:Sl)(t18 t19:Int):List Value:=vn t0::un 1 (vi t2::un 4 (vn t7::t8.v::un 8 (t17.v::vi t18::vi t19::un 18 [])))
def Gi:aa:=.region [bc 36 .add 19 1,m 19 36] [36]
def X1(cn:aa):aa:=.seq (.seq (.region [cm 20 .lss 19 18] []) (.seq (.cond (.t 20) (kl [20]) (.seq (kl [0,2,7,17,18,19,20]) (.exit 0))) (.block 1 (.seq (.region [ia 21 1 17 19,li 22 21,m 10 22] [21,22]) (.seq (.seq (.region [m 23 8,ln 24 23,m 25 2,cm 26 .eql 24 25] [23,24,25]) (.cond (.t 26) (.seq (kl [0,2,7,10,17,18,19,26]) (.exit 0)) (kl [26]))) (.seq (.region [m 27 7,m 28 0,m 29 10,oI 30 (.call (.f 176) [.t 28,.t 29] (.one (.one .slice))),oI 31 (.call (.f 175) [.t 27,.t 30] (.one (.one .bool)))] [27,28,29,30]) (.cond (.t 31) (.region [m 32 8,m 33 10,oI 34 (.bq 1 [.int .i64 0] [(0,1,.t 33)]),oI 35 (.append 1 8 (.t 32) (.t 34)),m 8 35] [10,31,32,33,34,35]) (kl [10,31])))))))) cn
def PG:aa:=X1 Gi
def adS:aa:=.seq (.block 0 (.loop PG)) PF
def awD(cn:aa):aa:=.seq (.seq (.region [oI 6 (.mv (.c (.slice none 0 0)))] [6]) (.seq (.region [m 11 0,oI 12 (.cQ (.t 11)),fa 13 0 12,oI 14 (.load (.one .l0) (.t 13)),oI 15 (.build [.pointer none,.slice none 0 0,.slice none 0 0] [(0,1,.t 14)]),oI 16 (.box (.t 15)),m 7 16] [11,12,13,14,15,16]) (.seq (.region [oI 8 (.mv (.c (.slice none 0 0)))] []) (.region [m 17 1,ln 18 17,mc 19 0] [1])))) cn
def aEz:aa:=awD adS
def awE(t0:OA)(t1:Sl)(t2:Int):List Value:=vn t0::t1.v::vi t2::un 35 []
def fY:aK:=⟨38,aEz,[.tmp 6]⟩
theorem BF:okF Tryz.prog 158 fY=true:=by kernel_rfl
def ag6{R:Type}(C:Callee)(fl k:Nat)(kr:ab R):ab R:=fun t8 h=>kr t8 h
theorem aov:(cp Tb (ce C fl k PF K))=ag6 C fl k (cp abd (K .ret)):=by kernel_rfl
def X2{R:Type}(C:Callee)(fl k:Nat)(kn:w7 R)(e0:ab R):w7 R:=fun t0 t2 t7 t8 t17 t18 t19 h=>kn t0 t2 t7 t8 t17 t18 (av (t19+1)) h
theorem afJ:(cp w8 (ce C fl k Gi K))=X2 C fl k (cp w8 (K .normal)) (cp Tb (K (.exit 0))):=by kernel_rfl
def PH{R:Type}(C:Callee)(fl k:Nat)(kx:w7 R)(kn:w7 R)(e0:ab R):w7 R:=fun t0 t2 t7 t8 t17 t18 t19 h=>if decide (t19<t18)=true then idx 1 t17 t19 fun p1=>aF .i64 h p1.block p1.off fun n2=>if (((t8.l:Nat):Int)==t2)=true then e0 t8 h else aj C fl fn.gR [.pointer t0,vi n2] h fun v3 h4=>aX v3 fun s5=>aj C fl fn.jN [.pointer t7,vs s5] h4 fun v6 h7=>asBool v6 fun b8=>if b8=true then bJ h7 [vi n2] fun b9 sU=>dn fl 1 8 t8 ⟨(some ⟨b9,0,none⟩),1,1⟩ sU fun EG zN=>kx t0 t2 t7 EG t17 t18 t19 zN else kx t0 t2 t7 t8 t17 t18 t19 h7 else e0 t8 h
def Vx(kn:w7 R)(e0:ab R):w7 R:=PH C fl k (X2 C fl k kn e0) kn e0
theorem aow(cn:aa):(cp w8 (ce C fl k (X1 cn) K))=PH C fl k (cp w8 (ce C fl k cn K)) (cp w8 (K .normal)) (cp Tb (K (.exit 0))):=by kernel_rfl
theorem aox:(cp w8 (ce C fl k PG K))=Vx C fl k (cp w8 (K .normal)) (cp Tb (K (.exit 0))):=(aow C fl k K Gi).trans (ag (fun L0=>PH C fl k L0 _ _) (afJ C fl k K))
def K4(kn:ab R):Nat→w7 R
 |0=>fun _ _ _ _ _ _ _ _=>none
 |m+1=>Vx C fl k (K4 kn m) kn
theorem X3:∀m,(cp w8 (aQ m (aW C fl k PG 0 K)))=K4 C fl k (cp Tb (K .normal)) m
 |0=>by kernel_rfl
 |m+1=>gu (aox C fl k _) (ag (fun L=>Vx C fl k L _) (X3 m))
def awF(kr:ab R):w7 R:=K4 C fl k (ag6 C fl k kr) k
theorem ay6:(cp w8 (ce C fl k adS K))=awF C fl k (cp abd (K .ret)):=(iP (gv (X3 C fl k (bw C fl k PF K)))).trans (ag (fun L=>K4 C fl k L k) (iL (aov C fl k K)))
def arQ{R:Type}(C:Callee)(fl k:Nat)(kx:w7 R)(kr:ab R):FH R:=fun t0 t1 t2 h=>bz (.pointer t0) fun p13=>ldN h p13.block p13.off fun p14=>bJ h [.pointer p14,.slice none 0 0,.slice none 0 0] fun b15 GN=>kx t0 t2 (some ⟨b15,0,none⟩) ⟨none,0,0⟩ t1 ((t1.l:Nat):Int) 0 GN
def aOz(kr:ab R):FH R:=arQ C fl k (awF C fl k kr) kr
theorem aLE(cn:aa):(cp awE (ce C fl k (awD cn) K))=arQ C fl k (cp w8 (ce C fl k cn K)) (cp abd (K .ret)):=by kernel_rfl
theorem aLF:(cp awE (ce C fl k aEz K))=aOz C fl k (cp abd (K .ret)):=(aLE C fl k K adS).trans (ag (fun L0=>arQ C fl k L0 _) (ay6 C fl k K))
def dz(p0:OA)(p1:Sl)(p2:Int)(h:AH):Option (Value×AH):=aOz C fl k (fun y6 q=>some (vs y6,q)) p0 p1 p2 h
theorem A5(p0:OA)(p1:Sl)(p2:Int)(h):aV C fl k fY [.pointer p0,vs p1,vi p2] h=dz C fl k p0 p1 p2 h:=tG (aLF C fl k (aG _)) p0 p1 p2 (by kernel_rfl) (by kernel_rfl)
def abe(t6:Sl):List Value:=un 6 (t6.v::un 29 [])
def PI:aa:=.seq (.region [m 35 7,m 6 35] [7,35]) (.ret)
def Tc(t7:Sl):List Value:=un 7 (t7.v::un 28 [])
abbrev xd(R:Type):=Sl→Sl→Sl→Int→Int→AH→Option R
def xe(t1 t2 t7:Sl)(t16 t17:Int):List Value:=un 1 (t1.v::t2.v::un 4 (t7.v::un 8 (vi t16::vi t17::un 18 [])))
def Gj:aa:=.region [bc 34 .add 17 1,m 17 34] [34]
def X4(cn:aa):aa:=.seq (.seq (.region [cm 18 .lss 17 16] []) (.seq (.cond (.t 18) (kl [18]) (.seq (kl [1,2,16,17,18]) (.exit 0))) (.block 1 (.seq (.region [m 19 17,m 8 19] [19]) (.seq (.region [m 20 1,m 21 8,oI 22 (.call (.f 54) [.t 20,.t 21] (.one (.one .bool))),no 23 22,m 24 23,.gL 24 true [qI 25 (.mv (.t 2)),qI 26 (.mv (.t 8)),qI 27 (.call (.f 54) [.t 25,.t 26] (.one (.one .bool))),qI 28 (.not (.t 27))],oI 29 (.pick (.t 24) (.t 28) (.c (.bool false)))] [20,21,22,23,24,25,26,27,28]) (.cond (.t 29) (.region [m 30 7,m 31 8,oI 32 (.bq 1 [.int .i64 0] [(0,1,.t 31)]),oI 33 (.append 1 8 (.t 30) (.t 32)),m 7 33] [8,29,30,31,32,33]) (kl [8,29]))))))) cn
def PJ:aa:=X4 Gj
def adT:aa:=.seq (.block 0 (.loop PJ)) PI
def awG(cn:aa):aa:=.seq (.seq (.region [oI 6 (.mv (.c (.slice none 0 0)))] [6]) (.seq (.region [m 9 2,oI 10 (.call (.f 178) [.t 9] (.one (.one .any))),oI 11 (.call (.f 177) [.t 10] (.one (.one .slice))),m 7 11] [9,10,11]) (.region [m 12 0,oI 13 (.cQ (.t 12)),fa 14 1 13,fa 15 3 14,li 16 15,mc 17 0] [0,12,13,14,15]))) cn
def aEA:aa:=awG adT
def awH(t0:OA)(t1 t2:Sl):List Value:=vn t0::t1.v::t2.v::un 33 []
def fI:aK:=⟨36,aEA,[.tmp 6]⟩
theorem A6:okF Tryz.prog 159 fI=true:=by kernel_rfl
def ag7{R:Type}(C:Callee)(fl k:Nat)(kr:ab R):ab R:=fun t7 h=>kr t7 h
theorem aoy:(cp Tc (ce C fl k PI K))=ag7 C fl k (cp abe (K .ret)):=by kernel_rfl
def X5{R:Type}(C:Callee)(fl k:Nat)(kn:xd R)(e0:ab R):xd R:=fun t1 t2 t7 t16 t17 h=>kn t1 t2 t7 t16 (av (t17+1)) h
theorem afK:(cp xe (ce C fl k Gj K))=X5 C fl k (cp xe (K .normal)) (cp Tc (K (.exit 0))):=by kernel_rfl
def PK{R:Type}(C:Callee)(fl k:Nat)(kx:xd R)(kn:xd R)(e0:ab R):xd R:=fun t1 t2 t7 t16 t17 h=>if decide (t17<t16)=true then aj C fl fn.cM [vs t1,vi t17] h fun v1 h2=>asBool v1 fun b3=>if (!b3)=true then aj C fl fn.cM [vs t2,vi t17] h2 fun v4 h5=>asBool v4 fun b6=>if (!b6)=true then bJ h5 [vi t17] fun b7 h8=>dn fl 1 8 t7 ⟨(some ⟨b7,0,none⟩),1,1⟩ h8 fun s9 sU=>kx t1 t2 s9 t16 t17 sU else kx t1 t2 t7 t16 t17 h5 else kx t1 t2 t7 t16 t17 h2 else e0 t7 h
def Vy(kn:xd R)(e0:ab R):xd R:=PK C fl k (X5 C fl k kn e0) kn e0
theorem aoz(cn:aa):(cp xe (ce C fl k (X4 cn) K))=PK C fl k (cp xe (ce C fl k cn K)) (cp xe (K .normal)) (cp Tc (K (.exit 0))):=by kernel_rfl
theorem aoA:(cp xe (ce C fl k PJ K))=Vy C fl k (cp xe (K .normal)) (cp Tc (K (.exit 0))):=(aoz C fl k K Gj).trans (ag (fun L0=>PK C fl k L0 _ _) (afK C fl k K))
def K5(kn:ab R):Nat→xd R
 |0=>fun _ _ _ _ _ _=>none
 |m+1=>Vy C fl k (K5 kn m) kn
theorem X6:∀m,(cp xe (aQ m (aW C fl k PJ 0 K)))=K5 C fl k (cp Tc (K .normal)) m
 |0=>by kernel_rfl
 |m+1=>gu (aoA C fl k _) (ag (fun L=>Vy C fl k L _) (X6 m))
def awI(kr:ab R):xd R:=K5 C fl k (ag7 C fl k kr) k
theorem ay7:(cp xe (ce C fl k adT K))=awI C fl k (cp abe (K .ret)):=(iP (gv (X6 C fl k (bw C fl k PI K)))).trans (ag (fun L=>K5 C fl k L k) (iL (aoy C fl k K)))
def arR{R:Type}(C:Callee)(fl k:Nat)(kx:xd R)(kr:ab R):kN R:=fun t0 t1 t2 h=>aj C fl fn.vA [vs t2] h fun v11 zN=>aj C fl fn.vz [v11] zN fun v13 h14=>aX v13 fun Ua=>bz (.pointer t0) fun p16=>aF .i64 h14 p16.block (p16.off+1+3) fun Qh=>kx t1 t2 Ua Qh 0 h14
def aOA(kr:ab R):kN R:=arR C fl k (awI C fl k kr) kr
theorem aLG(cn:aa):(cp awH (ce C fl k (awG cn) K))=arR C fl k (cp xe (ce C fl k cn K)) (cp abe (K .ret)):=by kernel_rfl
theorem aLH:(cp awH (ce C fl k aEA K))=aOA C fl k (cp abe (K .ret)):=(aLG C fl k K adT).trans (ag (fun L0=>arR C fl k L0 _) (ay7 C fl k K))
def eB(p0:OA)(p1 p2:Sl)(h:AH):Option (Value×AH):=aOA C fl k (fun y6 q=>some (vs y6,q)) p0 p1 p2 h
theorem zy(p0:OA)(p1 p2:Sl)(h):aV C fl k fI [.pointer p0,vs p1,vs p2] h=eB C fl k p0 p1 p2 h:=tG (aLH C fl k (aG _)) p0 p1 p2 (by kernel_rfl) (by kernel_rfl)
def aLI:List Value:=un 11 []
def aEB:aa:=.seq (.region [m 3 0,ln 4 3,m 2 4] [3,4]) (.region [m 5 0,m 6 2,m 7 2,oI 8 (.conv .i64 .u64 (.t 7)),oI 9 (.call (.f 180) [.t 8] (.one (.one (.int .i64)))),oI 10 (.call (.f 179) [.t 5,ci 0,.t 6,.t 9] (.ke []))] [0,2,5,6,7,8,9,10])
def aLJ(t0:Sl):List Value:=t0.v::un 10 []
def xf:aK:=⟨11,aEB,[]⟩
theorem adU:okF Tryz.prog 160 xf=true:=by kernel_rfl
def aOB{R:Type}(C:Callee)(fl k:Nat)(kn:au R):ab R:=fun t0 h=>aj C fl fn.vB [.int .u64 (IntKind.wrap .u64 ((t0.l:Nat):Int))] h fun v1 h2=>asInt .i64 v1 fun n3=>aj C fl fn.ai [vs t0,vi 0,vi ((t0.l:Nat):Int),vi n3] h2 fun v4 h5=>aE v4 fun l6=>aM l6 (kn h5)
theorem aLK:(cp aLJ (ce C fl k aEB K))=aOB C fl k (cp aLI (K .normal)):=by kernel_rfl
def xp(p0:Sl)(h:AH):Option (Value×AH):=aOB C fl k (fun q=>some (.tuple ⟨[]⟩,q)) p0 h
theorem Z2(p0:Sl)(h):aV C fl k xf [vs p0] h=xp C fl k p0 h:=IU (aLK C fl k (aG _)) p0 (by kernel_rfl) (by kernel_rfl)
def Cl(t6:Bool):List Value:=un 6 (.bool t6::un 88 [])
def PL:aa:=.seq (.region [m 46 0,m 47 2,m 48 2,ln 49 48,oI 50 (.call (.f 158) [.t 46,.t 47,.t 49] (.one (.one .slice))),ln 51 50,m 52 2,ln 53 52,cm 54 .neq 51 53] [46,47,48,49,50,51,52,53]) (.seq (.cond (.t 54) (.seq (.region [oI 6 (.mv (.c (.bool false)))] [0,1,2,54]) (.ret)) (kl [54])) (.seq (.region [m 55 0,oI 56 (.cQ (.t 55)),fa 57 7 56,oI 58 (.load (.one .bool) (.t 57)),no 59 58] [55,56,57,58]) (.seq (.cond (.t 59) (.seq (.region [m 60 2,ln 61 60,m 62 0,oI 63 (.cQ (.t 62)),fa 64 8 63,li 65 64,cm 66 .eql 61 65,m 6 66] [0,1,2,59,60,61,62,63,64,65,66]) (.ret)) (kl [59])) (.seq (.region [m 67 0,m 68 0,m 69 1,oJ 70 (.call (.f 159) [.t 68,.t 69,.c (.slice none 0 0)] (.one (.one .slice))),m 71 0,oI 72 (.cQ (.t 71)),fa 73 1 72,fa 74 3 73,lj 75 74,oI 76 (.call (.f 158) [.t 67,.t 70,.t 75] (.one (.one .slice))),ln 77 76,m 78 2,ln 79 78,cm 80 .eql 77 79,m 81 80,.gL 81 true [qI 82 (.mv (.t 1)),qI 83 (.len (.t 82)),qI 84 (.mv (.t 0)),qI 85 (.mv (.t 1)),qI 86 (.mv (.t 2)),qJ 87 (.call (.f 181) [.t 84,.t 85,.t 86] (.one (.one (.int .i64)))),qI 88 (.bin .add .i64 (.t 83) (.t 87)),qI 89 (.mv (.t 0)),qI 90 (.cQ (.t 89)),qI 91 (.cW 9 (.t 90)),qJ 92 (.load (.one (.int .i64)) (.t 91)),qI 93 (.cmp .gtr .i64 (.t 88) (.t 92))],oI 94 (.pick (.t 81) (.t 93) (.c (.bool false))),m 6 94] [0,1,2,67,68,69,70,71,72,73,74,75,76,77,78,79,80,81,82,83,84,85,86,87,88,89,90,91,92,93,94]) (.ret)))))
def Gk(t0:OA)(t1 t2:Sl):List Value:=vn t0::t1.v::t2.v::un 92 []
def xg(t0:OA)(t1 t2 t9:Sl)(t10 t11:Int):List Value:=vn t0::t1.v::t2.v::un 6 (t9.v::vi t10::vi t11::un 83 [])
def Gl:aa:=.region [bc 45 .add 11 1,m 11 45] [45]
def X7(cn:aa):aa:=.seq (.seq (.region [cm 12 .lss 11 10] []) (.seq (.cond (.t 12) (kl [12]) (.seq (kl [9,10,11,12]) (.exit 0))) (.block 1 (.seq (.region [m 13 11,ia 14 1 9 11,li 15 14,m 7 13,m 8 15] [13,14,15]) (.seq (.region [m 16 8,ck 17 .lss 16 0,m 18 17,.gL 18 false [qI 19 (.mv (.t 8)),qI 20 (.mv (.t 0)),qI 21 (.cQ (.t 20)),qI 22 (.cW 1 (.t 21)),qI 23 (.cW 3 (.t 22)),qI 24 (.load (.one (.int .i64)) (.t 23)),qI 25 (.cmp .geq .i64 (.t 19) (.t 24))],oI 26 (.pick (.t 18) (.c (.bool true)) (.t 25)),m 27 26,.gL 27 false [qI 28 (.mv (.t 7)),qI 29 (.cmp .gtr .i64 (.t 28) (ci 0)),qI 30 (.mv (.t 29))],.gL 30 true [qI 31 (.mv (.t 8)),qI 32 (.mv (.t 2)),qI 33 (.mv (.t 7)),qI 34 (.bin .sub .i64 (.t 33) (ci 1)),qI 35 (.eE 1 (.t 32) (.t 34)),qI 36 (.load (.one (.int .i64)) (.t 35)),qI 37 (.cmp .leq .i64 (.t 31) (.t 36))],.gL 27 false [qI 38 (.pick (.t 30) (.t 37) (.c (.bool false)))],oI 39 (.pick (.t 27) (.c (.bool true)) (.t 38)),m 40 39,.gL 40 false [qI 41 (.mv (.t 1)),qI 42 (.mv (.t 8)),qI 43 (.call (.f 54) [.t 41,.t 42] (.one (.one .bool)))],oI 44 (.pick (.t 40) (.c (.bool true)) (.t 43))] [7,8,16,17,18,19,20,21,22,23,24,25,26,27,28,29,30,31,32,33,34,35,36,37,38,39,40,41,42,43]) (.cond (.t 44) (.seq (.region [oI 6 (.mv (.c (.bool false)))] [0,1,2,9,10,11,44]) (.ret)) (kl [44]))))))) cn
def PM:aa:=X7 Gl
def adV:aa:=.seq (.block 0 (.loop PM)) PL
def awJ(cn:aa):aa:=.seq (.seq (.region [oI 6 (.mv (.c (.bool false)))] [6]) (.region [m 9 2,ln 10 9,mc 11 0] [])) cn
def aEC:aa:=awJ adV
def gC:aK:=⟨95,aEC,[.tmp 6]⟩
theorem CY:okF Tryz.prog 161 gC=true:=by kernel_rfl
def ag8{R:Type}(C:Callee)(fl k:Nat)(kr:aC R):kN R:=fun t0 t1 t2 h=>aj C fl fn.dz [.pointer t0,vs t2,vi ((t2.l:Nat):Int)] h fun v1 h2=>aX v1 fun s3=>if (((s3.l:Nat):Int) !=((t2.l:Nat):Int))=true then kr false h2 else bz (.pointer t0) fun p4=>ldB h2 p4.block (p4.off+7) fun b5=>if (!b5)=true then bz (.pointer t0) fun p6=>aF .i64 h2 p6.block (p6.off+8) fun n7=>kr (((t2.l:Nat):Int)==n7) h2 else aj C h2.next fn.eB [.pointer t0,vs t1,.slice none 0 0] h2 fun v8 h9=>aX v8 fun s10=>bz (.pointer t0) fun TS=>aF .i64 h9 TS.block (TS.off+1+3) fun Bu=>aj C fl fn.dz [.pointer t0,vs s10,vi Bu] h9 fun v13 h14=>aX v13 fun Ua=>if (((Ua.l:Nat):Int)==((t2.l:Nat):Int))=true then aj C h14.next fn.HV [.pointer t0,vs t1,vs t2] h14 fun v16 yK=>asInt .i64 v16 fun JT=>bz (.pointer t0) fun p19=>aF .i64 yK p19.block (p19.off+9) fun n20=>kr (decide (av (((t1.l:Nat):Int)+JT)>n20)) yK else kr false h14
theorem aoB:(cp Gk (ce C fl k PL K))=ag8 C fl k (cp Cl (K .ret)):=by kernel_rfl
def X8{R:Type}(C:Callee)(fl k:Nat)(kn:fW R)(e0:kN R)(kr:aC R):fW R:=fun t0 t1 t2 t9 t10 t11 h=>kn t0 t1 t2 t9 t10 (av (t11+1)) h
theorem afL:(cp xg (ce C fl k Gl K))=X8 C fl k (cp xg (K .normal)) (cp Gk (K (.exit 0))) (cp Cl (K .ret)):=by kernel_rfl
def PN{R:Type}(C:Callee)(fl k:Nat)(kx:fW R)(kn:fW R)(e0:kN R)(kr:aC R):fW R:=fun t0 t1 t2 t9 t10 t11 h=>if decide (t11<t10)=true then idx 1 t9 t11 fun p21=>aF .i64 h p21.block p21.off fun JU=>if decide (JU<0)=false then bz (.pointer t0) fun p23=>aF .i64 h p23.block (p23.off+1+3) fun n24=>if decide (JU≥n24)=false then if decide (t11>0)=true then idx 1 t2 (av (t11-1)) fun p25=>aF .i64 h p25.block p25.off fun EI=>if decide (JU≤EI)=false then aj C fl fn.cM [vs t1,vi JU] h fun v27 h28=>asBool v27 fun b29=>if b29=true then kr false h28 else kx t0 t1 t2 t9 t10 t11 h28 else kr false h else aj C fl fn.cM [vs t1,vi JU] h fun v30 h31=>asBool v30 fun b32=>if b32=true then kr false h31 else kx t0 t1 t2 t9 t10 t11 h31 else kr false h else kr false h else e0 t0 t1 t2 h
def Vz(kn:fW R)(e0:kN R)(kr:aC R):fW R:=PN C fl k (X8 C fl k kn e0 kr) kn e0 kr
theorem aoC(cn:aa):(cp xg (ce C fl k (X7 cn) K))=PN C fl k (cp xg (ce C fl k cn K)) (cp xg (K .normal)) (cp Gk (K (.exit 0))) (cp Cl (K .ret)):=by kernel_rfl
theorem aoD:(cp xg (ce C fl k PM K))=Vz C fl k (cp xg (K .normal)) (cp Gk (K (.exit 0))) (cp Cl (K .ret)):=(aoC C fl k K Gl).trans (ag (fun L0=>PN C fl k L0 _ _ _) (afL C fl k K))
def K6(kn:kN R)(kr:aC R):Nat→fW R
 |0=>fun _ _ _ _ _ _ _=>none
 |m+1=>Vz C fl k (K6 kn kr m) kn kr
theorem X9:∀m,(cp xg (aQ m (aW C fl k PM 0 K)))=K6 C fl k (cp Gk (K .normal)) (cp Cl (K .ret)) m
 |0=>by kernel_rfl
 |m+1=>gu (aoD C fl k _) (ag (fun L=>Vz C fl k L _ _) (X9 m))
def awK(kr:aC R):fW R:=K6 C fl k (ag8 C fl k kr) kr k
theorem ay8:(cp xg (ce C fl k adV K))=awK C fl k (cp Cl (K .ret)):=(iP (gv (X9 C fl k (bw C fl k PL K)))).trans (ag (fun L=>K6 C fl k L _ k) (iL (aoB C fl k K)))
def arS{R:Type}(C:Callee)(fl k:Nat)(kx:fW R)(kr:aC R):kN R:=fun t0 t1 t2 h=>kx t0 t1 t2 t2 ((t2.l:Nat):Int) 0 h
def aOC(kr:aC R):kN R:=arS C fl k (awK C fl k kr) kr
theorem aLL(cn:aa):(cp Gk (ce C fl k (awJ cn) K))=arS C fl k (cp xg (ce C fl k cn K)) (cp Cl (K .ret)):=by kernel_rfl
theorem aLM:(cp Gk (ce C fl k aEC K))=aOC C fl k (cp Cl (K .ret)):=(aLL C fl k K adV).trans (ag (fun L0=>arS C fl k L0 _) (ay8 C fl k K))
def fN(p0:OA)(p1 p2:Sl)(h:AH):Option (Value×AH):=aOC C fl k (fun y6 q=>some (.bool y6,q)) p0 p1 p2 h
theorem BG(p0:OA)(p1 p2:Sl)(h):aV C fl k gC [.pointer p0,vs p1,vs p2] h=fN C fl k p0 p1 p2 h:=tG (aLM C fl k (aG _)) p0 p1 p2 (by kernel_rfl) (by kernel_rfl)
def Cm(t10:Int):List Value:=un 10 (vi t10::un 38 [])
def PO:aa:=.seq (.region [mc 10 0] []) (.ret)
def Td:List Value:=un 49 []
abbrev xh(R:Type):=Sl→Sl→Value→Sl→Int→Int→AH→Option R
def xi(t1 t2:Sl)(t4:Value)(t23:Sl)(t24 t25:Int):List Value:=un 1 (t1.v::t2.v::un 1 (t4::un 18 (t23.v::vi t24::vi t25::un 23 [])))
def Gm:aa:=.region [bc 48 .add 25 1,m 25 48] [48]
def Ya(cn:aa):aa:=.seq (.seq (.region [cm 26 .lss 25 24] []) (.seq (.cond (.t 26) (kl [26]) (.seq (kl [1,2,4,23,24,25,26]) (.exit 0))) (.block 1 (.seq (.region [ia 27 1 23 25,li 28 27,m 12 28] [27,28]) (.seq (.seq (.region [m 29 2,m 30 12,oI 31 (.call (.f 54) [.t 29,.t 30] (.one (.one .bool)))] [29,30]) (.cond (.t 31) (.seq (kl [12,31]) (.exit 1)) (kl [31]))) (.seq (.seq (.region [m 32 4,m 33 1,oI 34 (.call (.f 118) [.t 33] (.one (.one .slice))),m 35 12,oI 36 (.bq 1 [.int .i64 0] [(0,1,.t 35)]),oI 37 (.append 1 8 (.t 34) (.t 36)),m 38 2,oI 39 (.call (.f 118) [.t 38] (.one (.one .slice))),oI 40 (.call (.t 32) [.t 37,.t 39] (.one (.one (.int .i64)))),m 13 40] [32,33,34,35,36,37,38,39,40]) (.seq (.region [m 41 13,ck 42 .neq 41 0] [41]) (.cond (.t 42) (.seq (.region [m 43 13,m 10 43] [1,2,4,12,13,23,24,25,42,43]) (.ret)) (kl [13,42])))) (.region [m 44 2,m 45 12,oI 46 (.bq 1 [.int .i64 0] [(0,1,.t 45)]),oI 47 (.append 1 8 (.t 44) (.t 46)),m 2 47] [12,44,45,46,47]))))))) cn
def PQ:aa:=Ya Gm
def adW:aa:=.seq (.block 0 (.loop PQ)) PO
def awL(cn:aa):aa:=.seq (.seq (.region [mc 10 0] [10]) (.seq (.region [m 14 1,ln 15 14,m 16 0,oI 17 (.cQ (.t 16)),fa 18 9 17,li 19 18,cm 20 .eql 15 19] [0,14,15,16,17,18,19]) (.seq (.cond (.t 20) (.seq (.region [mc 10 0] [1,2,3,4,20]) (.ret)) (kl [20])) (.seq (.region [m 21 2,oI 22 (.call (.f 118) [.t 21] (.one (.one .slice))),m 2 22] [21,22]) (.region [m 23 3,ln 24 23,mc 25 0] [3]))))) cn
def aED:aa:=awL adW
abbrev awM(R:Type):=OA→Sl→Sl→Sl→Value→AH→Option R
def awN(t0:OA)(t1 t2 t3:Sl)(t4:Value):List Value:=vn t0::t1.v::t2.v::t3.v::t4::un 44 []
def fu:aK:=⟨49,aED,[.tmp 10]⟩
theorem zz:okF Tryz.prog 162 fu=true:=by kernel_rfl
def ag9{R:Type}(C:Callee)(fl k:Nat)(kr:ah R):au R:=fun h=>kr 0 h
theorem aoE:(cp Td (ce C fl k PO K))=ag9 C fl k (cp Cm (K .ret)):=by kernel_rfl
def Yb{R:Type}(C:Callee)(fl k:Nat)(kn:xh R)(e0:au R)(kr:ah R):xh R:=fun t1 t2 t4 t23 t24 t25 h=>kn t1 t2 t4 t23 t24 (av (t25+1)) h
theorem afM:(cp xi (ce C fl k Gm K))=Yb C fl k (cp xi (K .normal)) (cp Td (K (.exit 0))) (cp Cm (K .ret)):=by kernel_rfl
def PR{R:Type}(C:Callee)(fl k:Nat)(kx:xh R)(kn:xh R)(e0:au R)(kr:ah R):xh R:=fun t1 t2 t4 t23 t24 t25 h=>if decide (t25<t24)=true then idx 1 t23 t25 fun p1=>aF .i64 h p1.block p1.off fun n2=>aj C fl fn.cM [vs t2,vi n2] h fun v3 h4=>asBool v3 fun b5=>if b5=true then kx t1 t2 t4 t23 t24 t25 h4 else aj C fl fn.eS [vs t1] h4 fun v6 h7=>aX v6 fun s8=>bJ h7 [vi n2] fun b9 sU=>dn fl 1 8 s8 ⟨(some ⟨b9,0,none⟩),1,1⟩ sU fun EG zN=>aj C fl fn.eS [vs t2] zN fun v13 h14=>aX v13 fun Ua=>mh C fl t4 [vs EG,vs Ua] h14 fun v16 yK=>asInt .i64 v16 fun JT=>if (JT !=0)=true then kr JT yK else bJ yK [vi n2] fun b19 Qn=>dn fl 1 8 t2 ⟨(some ⟨b19,0,none⟩),1,1⟩ Qn fun s21 TY=>kx t1 s21 t4 t23 t24 t25 TY else e0 h
def VA(kn:xh R)(e0:au R)(kr:ah R):xh R:=PR C fl k (Yb C fl k kn e0 kr) kn e0 kr
theorem aoF(cn:aa):(cp xi (ce C fl k (Ya cn) K))=PR C fl k (cp xi (ce C fl k cn K)) (cp xi (K .normal)) (cp Td (K (.exit 0))) (cp Cm (K .ret)):=by kernel_rfl
theorem aoG:(cp xi (ce C fl k PQ K))=VA C fl k (cp xi (K .normal)) (cp Td (K (.exit 0))) (cp Cm (K .ret)):=(aoF C fl k K Gm).trans (ag (fun L0=>PR C fl k L0 _ _ _) (afM C fl k K))
def K7(kn:au R)(kr:ah R):Nat→xh R
 |0=>fun _ _ _ _ _ _ _=>none
 |m+1=>VA C fl k (K7 kn kr m) kn kr
theorem Yc:∀m,(cp xi (aQ m (aW C fl k PQ 0 K)))=K7 C fl k (cp Td (K .normal)) (cp Cm (K .ret)) m
 |0=>by kernel_rfl
 |m+1=>gu (aoG C fl k _) (ag (fun L=>VA C fl k L _ _) (Yc m))
def awO(kr:ah R):xh R:=K7 C fl k (ag9 C fl k kr) kr k
theorem ay9:(cp xi (ce C fl k adW K))=awO C fl k (cp Cm (K .ret)):=(iP (gv (Yc C fl k (bw C fl k PO K)))).trans (ag (fun L=>K7 C fl k L _ k) (iL (aoE C fl k K)))
def arT{R:Type}(C:Callee)(fl k:Nat)(kx:xh R)(kr:ah R):awM R:=fun t0 t1 t2 t3 t4 h=>bz (.pointer t0) fun p23=>aF .i64 h p23.block (p23.off+9) fun n24=>if (((t1.l:Nat):Int)==n24)=true then kr 0 h else aj C fl fn.eS [vs t2] h fun v25 h26=>aX v25 fun s27=>kx t1 s27 t4 t3 ((t3.l:Nat):Int) 0 h26
def aOD(kr:ah R):awM R:=arT C fl k (awO C fl k kr) kr
theorem aLN(cn:aa):(cp awN (ce C fl k (awL cn) K))=arT C fl k (cp xi (ce C fl k cn K)) (cp Cm (K .ret)):=by kernel_rfl
theorem aLO:(cp awN (ce C fl k aED K))=aOD C fl k (cp Cm (K .ret)):=(aLN C fl k K adW).trans (ag (fun L0=>arT C fl k L0 _) (ay9 C fl k K))
def dX(p0:OA)(p1 p2 p3:Sl)(p4:Value)(h:AH):Option (Value×AH):=aOD C fl k (fun y10 q=>some (vi y10,q)) p0 p1 p2 p3 p4 h
theorem xS(p0:OA)(p1 p2 p3:Sl)(p4:Value)(h):aV C fl k fu [.pointer p0,vs p1,vs p2,vs p3,p4] h=dX C fl k p0 p1 p2 p3 p4 h:=oY (aLO C fl k (aG _)) p0 p1 p2 p3 p4 (by kernel_rfl) (by kernel_rfl)
def aLP:List Value:=un 13 []
def aEE:aa:=.seq (.region [m 4 0,ls 5 1,oI 6 (.call (.t 4) [.t 5] (.ke []))] [1,4,5,6]) (.seq (.region [ls 7 2,ln 8 7,ck 9 .gtr 8 0] [7,8]) (.cond (.t 9) (.region [m 10 0,ls 11 2,oI 12 (.call (.t 10) [.t 11] (.ke []))] [0,2,9,10,11,12]) (kl [0,2,9])))
abbrev aLQ(R:Type):=Value→Addr→Addr→AH→Option R
def aLR(t0:Value)(t1 t2:Addr):List Value:=t0::vp t1::vp t2::un 10 []
def js:aK:=⟨13,aEE,[]⟩
theorem Ih:okF Tryz.prog 166 js=true:=by kernel_rfl
def aEF{R:Type}(C:Callee)(fl k:Nat)(kn:au R):aLQ R:=fun t0 t1 t2 h=>aT h t1.block t1.off fun s1=>mh C fl t0 [vs s1] h fun v2 h3=>aE v2 fun l4=>aM l4 (aT h3 t2.block t2.off fun s5=>if decide (((s5.l:Nat):Int)>0)=true then aT h3 t2.block t2.off fun s6=>mh C fl t0 [vs s6] h3 fun v7 h8=>aE v7 fun l9=>aM l9 (kn h8) else kn h3)
theorem aLS:(cp aLR (ce C fl k aEE K))=aEF C fl k (cp aLP (K .normal)):=by kernel_rfl
def fO(p0:Value)(p1 p2:Addr)(h:AH):Option (Value×AH):=aEF C fl k (fun q=>some (.tuple ⟨[]⟩,q)) p0 p1 p2 h
theorem Gn(p0:Value)(p1 p2:Addr)(h):aV C fl k js [p0,.pointer (some p1),.pointer (some p2)] h=fO C fl k p0 p1 p2 h:=tG (aLS C fl k (aG _)) p0 p1 p2 (by kernel_rfl) (by kernel_rfl)
def aLT:List Value:=un 15 []
def aEG:aa:=.region [m 5 0,lj 6 3,oJ 7 (.load (.one .l0) (.t 1)),lj 8 2,m 9 0,lj 10 3,ia 11 1 9 10,lt 12 11,oJ 13 (.call (.f 140) [.t 7,.t 8,.t 12] (.one (.one .slice))),ia 14 1 5 6,sI 1 14 13] [0,1,2,3,5,6,7,8,9,10,11,12,13,14]
def aLU(t0:Sl)(t1 t2 t3:Addr):List Value:=t0.v::vp t1::vp t2::vp t3::un 11 []
def jt:aK:=⟨15,aEG,[]⟩
theorem Ii:okF Tryz.prog 168 jt=true:=by kernel_rfl
def aEH{R:Type}(C:Callee)(fl k:Nat)(kn:au R):BZ R:=fun t0 t1 t2 t3 h=>aF .i64 h t3.block t3.off fun n1=>ldN h t1.block t1.off fun p2=>aF .i64 h t2.block t2.off fun n3=>aF .i64 h t3.block t3.off fun n4=>idx 1 t0 n4 fun p5=>aT h p5.block p5.off fun s6=>aj C h.next fn.gm [.pointer p2,vi n3,vs s6] h fun v7 h8=>aX v7 fun s9=>idx 1 t0 n1 fun Qo=>st fl h8 Qo [vs s9] fun iH=>kn iH
theorem aLV:(cp aLU (ce C fl k aEG K))=aEH C fl k (cp aLT (K .normal)):=by kernel_rfl
def fP(p0:Sl)(p1 p2 p3:Addr)(h:AH):Option (Value×AH):=aEH C fl k (fun q=>some (.tuple ⟨[]⟩,q)) p0 p1 p2 p3 h
theorem Gp(p0:Sl)(p1 p2 p3:Addr)(h):aV C fl k jt [vs p0,.pointer (some p1),.pointer (some p2),.pointer (some p3)] h=fP C fl k p0 p1 p2 p3 h:=QS (aLV C fl k (aG _)) p0 p1 p2 p3 (by kernel_rfl) (by kernel_rfl)
def aLW:List Value:=un 19 []
def aEI:aa:=.region [oJ 6 (.load (.one .l0) (.t 1)),m 7 0,lj 8 2,ia 9 1 7 8,lt 10 9,oJ 11 (.load (.one .l0) (.t 1)),lj 12 3,oJ 13 (.call (.f 104) [.t 11,.t 12] (.one (.one (.int .i64)))),m 14 0,lj 15 4,ia 16 1 14 15,lt 17 16,oI 18 (.call (.f 145) [.t 6,.t 10,.t 13,.t 17] (.ke []))] [0,1,2,3,4,6,7,8,9,10,11,12,13,14,15,16,17,18]
abbrev aLX(R:Type):=Sl→Addr→Addr→Addr→Addr→AH→Option R
def aLY(t0:Sl)(t1 t2 t3 t4:Addr):List Value:=t0.v::vp t1::vp t2::vp t3::vp t4::un 14 []
def ju:aK:=⟨19,aEI,[]⟩
theorem Ij:okF Tryz.prog 169 ju=true:=by kernel_rfl
def aEJ{R:Type}(C:Callee)(fl k:Nat)(kn:au R):aLX R:=fun t0 t1 t2 t3 t4 h=>ldN h t1.block t1.off fun p1=>aF .i64 h t2.block t2.off fun n2=>idx 1 t0 n2 fun p3=>aT h p3.block p3.off fun s4=>ldN h t1.block t1.off fun p5=>aF .i64 h t3.block t3.off fun n6=>aj C h.next fn.fR [.pointer p5,vi n6] h fun v7 h8=>asInt .i64 v7 fun n9=>aF .i64 h8 t4.block t4.off fun mb=>idx 1 t0 mb fun TS=>aT h8 TS.block TS.off fun T8=>aj C fl fn.oX [.pointer p1,vs s4,vi n9,vs T8] h8 fun v13 h14=>aE v13 fun l15=>aM l15 (kn h14)
theorem aLZ:(cp aLY (ce C fl k aEI K))=aEJ C fl k (cp aLW (K .normal)):=by kernel_rfl
def fQ(p0:Sl)(p1 p2 p3 p4:Addr)(h:AH):Option (Value×AH):=aEJ C fl k (fun q=>some (.tuple ⟨[]⟩,q)) p0 p1 p2 p3 p4 h
theorem Gq(p0:Sl)(p1 p2 p3 p4:Addr)(h):aV C fl k ju [vs p0,.pointer (some p1),.pointer (some p2),.pointer (some p3),.pointer (some p4)] h=fQ C fl k p0 p1 p2 p3 p4 h:=oY (aLZ C fl k (aG _)) p0 p1 p2 p3 p4 (by kernel_rfl) (by kernel_rfl)
def abf(t6:Sl):List Value:=un 6 (t6.v::un 20 [])
def PS:aa:=.seq (.region [m 26 7,m 6 26] [7,26]) (.ret)
def aj7(t7:Sl):List Value:=un 7 (t7.v::un 19 [])
def Te(t0 t1:Int)(t7:Sl)(t12 t13:Int):List Value:=vi t0::vi t1::un 5 (t7.v::un 4 (vi t12::vi t13::un 13 []))
def PT:aa:=.seq (.region [cm 14 .lss 13 12] []) (.seq (.cond (.t 14) (kl [14]) (.seq (kl [0,1,12,13,14]) (.exit 0))) (.seq (.block 1 (.seq (.region [m 15 13,m 8 15] [15]) (.seq (.region [m 16 7,m 17 8,m 18 0,m 19 1,bb 20 .rem 18 19,ia 21 1 16 17,sI 1 21 20] [8,16,17,18,19,20,21]) (.region [m 22 0,m 23 1,bb 24 .quo 22 23,m 0 24] [22,23,24])))) (.region [bc 25 .add 13 1,m 13 25] [25])))
def adX:aa:=.seq (.block 0 (.loop PT)) PS
def awP(cn:aa):aa:=.seq (.seq (.region [oI 6 (.mv (.c (.slice none 0 0)))] [6]) (.seq (.region [m 9 2,oI 10 (.dj 8 [.int .i64 0] (.t 9) (.t 9)),m 7 10] [2,9,10]) (.region [m 11 7,ln 12 11,mc 13 0] [11]))) cn
def aEK:aa:=awP adX
def awQ(t0 t1 t2:Int):List Value:=vi t0::vi t1::vi t2::un 24 []
def nH:aK:=⟨27,aEK,[.tmp 6]⟩
theorem Tf:okF Tryz.prog 170 nH=true:=by kernel_rfl
def VB{R:Type}(C:Callee)(fl k:Nat)(kr:ab R):ab R:=fun t7 h=>kr t7 h
theorem aoH:(cp aj7 (ce C fl k PS K))=VB C fl k (cp abf (K .ret)):=by kernel_rfl
def vb{R:Type}(C:Callee)(fl k:Nat)(kn:jq R)(e0:ab R):jq R:=fun t0 t1 t7 t12 t13 h=>if decide (t13<t12)=true then j6 .rem .i64 t0 t1 fun n1=>idx 1 t7 t13 fun p2=>st fl h p2 [vi n1] fun h3=>j6 .quo .i64 t0 t1 fun n4=>kn n4 t1 t7 t12 (av (t13+1)) h3 else e0 t7 h
theorem aoI:(cp Te (ce C fl k PT K))=vb C fl k (cp Te (K .normal)) (cp aj7 (K (.exit 0))):=by kernel_rfl
def Ej(kn:ab R):Nat→jq R
 |0=>fun _ _ _ _ _ _=>none
 |m+1=>vb C fl k (Ej kn m) kn
theorem Yd:∀m,(cp Te (aQ m (aW C fl k PT 0 K)))=Ej C fl k (cp aj7 (K .normal)) m
 |0=>by kernel_rfl
 |m+1=>gu (aoI C fl k _) (ag (fun L=>vb C fl k L _) (Yd m))
def awR(kr:ab R):jq R:=Ej C fl k (VB C fl k kr) k
theorem aza:(cp Te (ce C fl k adX K))=awR C fl k (cp abf (K .ret)):=(iP (gv (Yd C fl k (bw C fl k PS K)))).trans (ag (fun L=>Ej C fl k L k) (iL (aoH C fl k K)))
def aj8{R:Type}(C:Callee)(fl k:Nat)(kx:jq R)(kr:ab R):BX R:=fun t0 t1 t2 h=>qF 8 [.int .i64 0] t2 t2 h fun s5 h6=>kx t0 t1 s5 ((s5.l:Nat):Int) 0 h6
def aEL(kr:ab R):BX R:=aj8 C fl k (awR C fl k kr) kr
theorem aL0(cn:aa):(cp awQ (ce C fl k (awP cn) K))=aj8 C fl k (cp Te (ce C fl k cn K)) (cp abf (K .ret)):=by kernel_rfl
theorem aL1:(cp awQ (ce C fl k aEK K))=aEL C fl k (cp abf (K .ret)):=(aL0 C fl k K adX).trans (ag (fun L0=>aj8 C fl k L0 _) (aza C fl k K))
def il(p0 p1 p2:Int)(h:AH):Option (Value×AH):=aEL C fl k (fun y6 q=>some (vs y6,q)) p0 p1 p2 h
theorem A7(p0 p1 p2:Int)(h):aV C fl k nH [vi p0,vi p1,vi p2] h=il C fl k p0 p1 p2 h:=tG (aL1 C fl k (aG _)) p0 p1 p2 (by kernel_rfl) (by kernel_rfl)
def abg(t4:Int):List Value:=un 4 (vi t4::un 18 [])
def PU:aa:=.seq (.region [m 22 5,m 4 22] [5,22]) (.ret)
def aj9(t5:Int):List Value:=un 5 (vi t5::un 17 [])
def Tg(t0:Sl)(t1 t5 t6:Int):List Value:=t0.v::vi t1::un 3 (vi t5::vi t6::un 16 [])
def PW:aa:=.seq (.region [m 10 6,ck 11 .geq 10 0] [10]) (.seq (.cond (.t 11) (kl [11]) (.seq (kl [0,1,6,11]) (.exit 0))) (.seq (.block 1 (.region [m 14 5,m 15 1,bb 16 .mul 14 15,m 17 0,m 18 6,ia 19 1 17 18,li 20 19,bb 21 .add 16 20,m 5 21] [14,15,16,17,18,19,20,21])) (.region [m 12 6,bc 13 .sub 12 1,m 6 13] [12,13])))
def adY:aa:=.seq (.block 0 (.loop PW)) PU
def awS(cn:aa):aa:=.seq (.seq (.region [mc 4 0] [4]) (.seq (.region [mc 5 0] []) (.region [m 7 0,ln 8 7,bc 9 .sub 8 1,m 6 9] [7,8,9]))) cn
def aEM:aa:=awS adY
def awT(t0:Sl)(t1:Int):List Value:=t0.v::vi t1::un 21 []
def oR:aK:=⟨23,aEM,[.tmp 4]⟩
theorem VC:okF Tryz.prog 171 oR=true:=by kernel_rfl
def VD{R:Type}(C:Callee)(fl k:Nat)(kr:ah R):ah R:=fun t5 h=>kr t5 h
theorem aoJ:(cp aj9 (ce C fl k PU K))=VD C fl k (cp abg (K .ret)):=by kernel_rfl
def vc{R:Type}(C:Callee)(fl k:Nat)(kn:aZ R)(e0:ah R):aZ R:=fun t0 t1 t5 t6 h=>if decide (t6≥0)=true then idx 1 t0 t6 fun p1=>aF .i64 h p1.block p1.off fun n2=>kn t0 t1 (av (av (t5*t1)+n2)) (av (t6-1)) h else e0 t5 h
theorem aoK:(cp Tg (ce C fl k PW K))=vc C fl k (cp Tg (K .normal)) (cp aj9 (K (.exit 0))):=by kernel_rfl
def Ek(kn:ah R):Nat→aZ R
 |0=>fun _ _ _ _ _=>none
 |m+1=>vc C fl k (Ek kn m) kn
theorem Ye:∀m,(cp Tg (aQ m (aW C fl k PW 0 K)))=Ek C fl k (cp aj9 (K .normal)) m
 |0=>by kernel_rfl
 |m+1=>gu (aoK C fl k _) (ag (fun L=>vc C fl k L _) (Ye m))
def aka(kr:ah R):aZ R:=Ek C fl k (VD C fl k kr) k
theorem azb:(cp Tg (ce C fl k adY K))=aka C fl k (cp abg (K .ret)):=(iP (gv (Ye C fl k (bw C fl k PU K)))).trans (ag (fun L=>Ek C fl k L k) (iL (aoJ C fl k K)))
def akb{R:Type}(C:Callee)(fl k:Nat)(kx:aZ R)(kr:ah R):aO R:=fun t0 t1 h=>kx t0 t1 0 (av (((t0.l:Nat):Int)-1)) h
def aEN(kr:ah R):aO R:=akb C fl k (aka C fl k kr) kr
theorem aL2(cn:aa):(cp awT (ce C fl k (awS cn) K))=akb C fl k (cp Tg (ce C fl k cn K)) (cp abg (K .ret)):=by kernel_rfl
theorem aL3:(cp awT (ce C fl k aEM K))=aEN C fl k (cp abg (K .ret)):=(aL2 C fl k K adY).trans (ag (fun L0=>akb C fl k L0 _) (azb C fl k K))
def lf(p0:Sl)(p1:Int)(h:AH):Option (Value×AH):=aEN C fl k (fun y4 q=>some (vi y4,q)) p0 p1 h
theorem Cn(p0:Sl)(p1:Int)(h):aV C fl k oR [vs p0,vi p1] h=lf C fl k p0 p1 h:=tF (aL3 C fl k (aG _)) p0 p1 (by kernel_rfl) (by kernel_rfl)
def Gr(t6:Int):List Value:=un 6 (vi t6::un 110 [])
def A8:aa:=.seq (.region [oJ 111 (.load (.agg [.int .i64,.int .i64,.slice]) (.t 3)),m 112 9,fa 113 1 3,lj 114 113,oI 115 (.slice 1 (.t 112) none (some (.t 114)) none),oI 116 (.call (.f 157) [.t 111,.t 115] (.one (.one (.int .i64)))),m 6 116] [3,9,111,112,113,114,115,116]) (.ret)
def kQ(t3:Addr)(t9:Sl):List Value:=un 3 (vp t3::un 5 (t9.v::un 107 []))
def fv(t3:Addr)(t9:Sl)(t12:Int):List Value:=un 3 (vp t3::un 5 (t9.v::un 2 (vi t12::un 104 [])))
def kR:aa:=.region [m 69 12,bc 70 .sub 69 1,m 12 70] [69,70]
def Th(t3:Addr)(t9:Sl)(t12 t13:Int):List Value:=un 3 (vp t3::un 5 (t9.v::un 2 (vi t12::vi t13::un 103 [])))
def kS:aa:=.seq (.region [m 71 13,fa 72 1 3,li 73 72,cm 74 .lss 71 73] [71,72,73]) (.seq (.cond (.t 74) (kl [74]) (.seq (kl [13,74]) (.exit 6))) (.seq (.block 7 (.region [m 77 9,m 78 12,fa 79 1 3,lj 80 79,bb 81 .sub 78 80,m 82 13,bb 83 .add 81 82,m 84 9,m 85 12,fa 86 1 3,lj 87 86,bb 88 .sub 85 87,m 89 13,bb 90 .add 88 89,ia 91 1 84 90,lj 92 91,fa 93 0 3,lj 94 93,m 95 9,m 96 12,ia 97 1 95 96,lj 98 97,bb 99 .sub 94 98,fa 100 2 3,lt 101 100,m 102 13,ia 103 1 101 102,lj 104 103,bb 105 .mul 99 104,bb 106 .add 92 105,fa 107 0 3,lj 108 107,bb 109 .rem 106 108,ia 110 1 77 83,sI 1 110 109] [77,78,79,80,81,82,83,84,85,86,87,88,89,90,91,92,93,94,95,96,97,98,99,100,101,102,103,104,105,106,107,108,109,110])) (.region [m 75 13,bc 76 .add 75 1,m 13 76] [75,76])))
def mM:aa:=.block 6 (.loop kS)
def yA(cn:aa):aa:=.seq (.region [mc 13 0] []) cn
def pN:aa:=yA mM
def Co(cn fJ:aa):aa:=.seq (.block 5 fJ) cn
def vd:aa:=Co kR pN
def HG(cn:aa):aa:=.seq (.seq (.region [m 65 12,fa 66 1 3,li 67 66,cm 68 .geq 65 67] [65,66,67]) (.cond (.t 68) (kl [68]) (.seq (kl [12,68]) (.exit 4)))) cn
def A9:aa:=HG vd
def Gs:aa:=.seq (.block 4 (.loop A9)) A8
def Yf(cn:aa):aa:=.seq (.region [fa 61 1 3,li 62 61,oI 63 (.bin .mul .i64 (ci 2) (.t 62)),bc 64 .sub 63 2,m 12 64] [61,62,63,64]) cn
def PX:aa:=Yf Gs
def fx(t3:Addr)(t7 t8 t9:Sl)(t10:Int):List Value:=un 3 (vp t3::un 3 (t7.v::t8.v::t9.v::vi t10::un 106 []))
def sG:aa:=.region [m 29 10,bc 30 .add 29 1,m 10 30] [29,30]
abbrev Ti(R:Type):=Addr→Sl→Sl→Sl→Int→Int→AH→Option R
def Tj(t3:Addr)(t7 t8 t9:Sl)(t10 t11:Int):List Value:=un 3 (vp t3::un 3 (t7.v::t8.v::t9.v::vi t10::vi t11::un 105 []))
def nS:aa:=.seq (.region [m 31 11,fa 32 1 3,li 33 32,cm 34 .lss 31 33] [31,32,33]) (.seq (.cond (.t 34) (kl [34]) (.seq (kl [11,34]) (.exit 2))) (.seq (.block 3 (.region [m 37 9,m 38 10,m 39 11,bb 40 .add 38 39,m 41 9,m 42 10,m 43 11,bb 44 .add 42 43,ia 45 1 41 44,lj 46 45,m 47 7,m 48 10,ia 49 1 47 48,lj 50 49,m 51 8,m 52 11,ia 53 1 51 52,lj 54 53,bb 55 .mul 50 54,bb 56 .add 46 55,fa 57 0 3,lj 58 57,bb 59 .rem 56 58,ia 60 1 37 40,sI 1 60 59] [37,38,39,40,41,42,43,44,45,46,47,48,49,50,51,52,53,54,55,56,57,58,59,60])) (.region [m 35 11,bc 36 .add 35 1,m 11 36] [35,36])))
def sH:aa:=.block 2 (.loop nS)
def HH(cn:aa):aa:=.seq (.region [mc 11 0] []) cn
def Ba:aa:=HH sH
def MD(cn fJ:aa):aa:=.seq (.block 1 fJ) cn
def Gt:aa:=MD sG Ba
def Yg(cn:aa):aa:=.seq (.seq (.region [m 25 10,fa 26 1 3,li 27 26,cm 28 .lss 25 27] [25,26,27]) (.cond (.t 28) (kl [28]) (.seq (kl [7,8,10,28]) (.exit 0)))) cn
def PY:aa:=Yg Gt
def adZ:aa:=.seq (.block 0 (.loop PY)) PX
def awU(cn:aa):aa:=.seq (.seq (.region [oI 3 (.box (.t 0)),mc 6 0] [0,6]) (.seq (.region [oI 14 (.load (.agg [.int .i64,.int .i64,.slice]) (.t 3)),m 15 1,oI 16 (.call (.f 156) [.t 14,.t 15] (.one (.one .slice))),m 7 16] [1,14,15,16]) (.seq (.region [oI 17 (.load (.agg [.int .i64,.int .i64,.slice]) (.t 3)),m 18 2,oI 19 (.call (.f 156) [.t 17,.t 18] (.one (.one .slice))),m 8 19] [2,17,18,19]) (.seq (.region [fa 20 1 3,li 21 20,oI 22 (.bin .mul .i64 (ci 2) (.t 21)),bc 23 .sub 22 1,oI 24 (.dj 8 [.int .i64 0] (.t 23) (.t 23)),m 9 24] [20,21,22,23,24]) (.region [mc 10 0] []))))) cn
def aEO:aa:=awU adZ
def awV(aI aJ:Int)(aL:Sl)(t1 t2:Int):List Value:=.agg ⟨[vi aI,vi aJ,vs aL]⟩::vi t1::vi t2::un 114 []
def Cp:aK:=⟨117,aEO,[.tmp 6]⟩
theorem akc:okF Tryz.prog 172 Cp=true:=by kernel_rfl
def xj{R:Type}(C:Callee)(fl k:Nat)(kr:ah R):cG R:=fun t3 t9 h=>aF .i64 h t3.block t3.off fun n1=>aF .i64 h t3.block (t3.off+1) fun n2=>aT h t3.block (t3.off+1+1) fun s3=>aF .i64 h t3.block (t3.off+1) fun n4=>sub 1 t9 none (some n4) none fun s5=>aj C fl fn.gZ [.agg ⟨[vi n1,vi n2,vs s3]⟩,vs s5] h fun v6 h7=>asInt .i64 v6 fun n8=>kr n8 h7
theorem Z3:(cp kQ (ce C fl k A8 K))=xj C fl k (cp Gr (K .ret)):=by kernel_rfl
def jv{R:Type}(C:Callee)(fl k:Nat)(kn:bl R)(e4:cG R):bl R:=fun t3 t9 t12 h=>kn t3 t9 (av (t12-1)) h
theorem yB:(cp fv (ce C fl k kR K))=jv C fl k (cp fv (K .normal)) (cp kQ (K (.exit 4))):=by kernel_rfl
def dd{R:Type}(C:Callee)(fl k:Nat)(kn:bV R)(e6:bl R):bV R:=fun t3 t9 t12 t13 h=>aF .i64 h t3.block (t3.off+1) fun n9=>if decide (t13<n9)=true then aF .i64 h t3.block (t3.off+1) fun mb=>aF .i64 h t3.block (t3.off+1) fun xA=>idx 1 t9 (av (av (t12-xA)+t13)) fun MR=>aF .i64 h MR.block MR.off fun BL=>aF .i64 h t3.block t3.off fun Bv=>idx 1 t9 t12 fun YJ=>aF .i64 h YJ.block YJ.off fun HT=>aT h t3.block (t3.off+2) fun s17=>idx 1 s17 t13 fun p18=>aF .i64 h p18.block p18.off fun TX=>aF .i64 h t3.block t3.off fun n20=>j6 .rem .i64 (av (BL+(av (av (Bv-HT)*TX)))) n20 fun n21=>idx 1 t9 (av (av (t12-mb)+t13)) fun p22=>st fl h p22 [vi n21] fun YH=>kn t3 t9 t12 (av (t13+1)) YH else e6 t3 t9 t12 h
theorem Em:(cp Th (ce C fl k kS K))=dd C fl k (cp Th (K .normal)) (cp fv (K (.exit 6))):=by kernel_rfl
def iF(kn:bl R):Nat→bV R
 |0=>fun _ _ _ _ _=>none
 |m+1=>dd C fl k (iF kn m) kn
theorem qy:∀m,(cp Th (aQ m (aW C fl k kS 6 K)))=iF C fl k (cp fv (K .normal)) m
 |0=>by kernel_rfl
 |m+1=>gu (Em C fl k _) (ag (fun L=>dd C fl k L _) (qy m))
def nT(kn:bl R):bV R:=iF C fl k kn k
theorem Ik:(cp Th (ce C fl k mM K))=nT C fl k (cp fv (K .normal)):=gv (qy C fl k K)
def kT{R:Type}(C:Callee)(fl k:Nat)(kx:bV R)(kn:bl R):bl R:=fun t3 t9 t12 h=>kx t3 t9 t12 0 h
def lW(kn:bl R):bl R:=kT C fl k (nT C fl k kn) kn
theorem L3(cn:aa):(cp fv (ce C fl k (yA cn) K))=kT C fl k (cp Th (ce C fl k cn K)) (cp fv (K .normal)):=by kernel_rfl
theorem L4:(cp fv (ce C fl k pN K))=lW C fl k (cp fv (K .normal)):=(L3 C fl k K mM).trans (ag (fun L0=>kT C fl k L0 _) (Ik C fl k K))
def nI{R:Type}(C:Callee)(fl k:Nat)(kx:bl R)(u0:bl R)(kn:bl R)(e4:cG R):bl R:=fun t3 t9 t12 h=>u0 t3 t9 t12 h
def xT(kn:bl R)(e4:cG R):bl R:=nI C fl k (jv C fl k kn e4) (lW C fl k (jv C fl k kn e4)) kn e4
theorem Tk(cn fJ:aa):(cp fv (ce C fl k (Co cn fJ) K))=nI C fl k (cp fv (ce C fl k cn K)) (cp fv (ce C fl k fJ (iK 5 (bw C fl k cn K)))) (cp fv (K .normal)) (cp kQ (K (.exit 4))):=by kernel_rfl
theorem Tm:(cp fv (ce C fl k vd K))=xT C fl k (cp fv (K .normal)) (cp kQ (K (.exit 4))):=(Tk C fl k K kR pN).trans (gG (fun L0 L1=>nI C fl k L0 L1 _ _) (yB C fl k K) ((L4 C fl k (iK 5 (bw C fl k kR K))).trans (ag (fun L0=>lW C fl k L0) (bn1 (yB C fl k K)))))
def mN{R:Type}(C:Callee)(fl k:Nat)(kx:bl R)(kn:bl R)(e4:cG R):bl R:=fun t3 t9 t12 h=>aF .i64 h t3.block (t3.off+1) fun n24=>if decide (t12≥n24)=true then kx t3 t9 t12 h else e4 t3 t9 h
def jF(kn:bl R)(e4:cG R):bl R:=mN C fl k (xT C fl k kn e4) kn e4
theorem Z4(cn:aa):(cp fv (ce C fl k (HG cn) K))=mN C fl k (cp fv (ce C fl k cn K)) (cp fv (K .normal)) (cp kQ (K (.exit 4))):=by kernel_rfl
theorem Z5:(cp fv (ce C fl k A9 K))=jF C fl k (cp fv (K .normal)) (cp kQ (K (.exit 4))):=(Z4 C fl k K vd).trans (ag (fun L0=>mN C fl k L0 _ _) (Tm C fl k K))
def lq(kn:cG R):Nat→bl R
 |0=>fun _ _ _ _=>none
 |m+1=>jF C fl k (lq kn m) kn
theorem HI:∀m,(cp fv (aQ m (aW C fl k A9 4 K)))=lq C fl k (cp kQ (K .normal)) m
 |0=>by kernel_rfl
 |m+1=>gu (Z5 C fl k _) (ag (fun L=>jF C fl k L _) (HI m))
def Jm(kr:ah R):bl R:=lq C fl k (xj C fl k kr) k
theorem afN:(cp fv (ce C fl k Gs K))=Jm C fl k (cp Gr (K .ret)):=(iP (gv (HI C fl k (bw C fl k A8 K)))).trans (ag (fun L=>lq C fl k L k) (iL (Z3 C fl k K)))
def Gu{R:Type}(C:Callee)(fl k:Nat)(kx:bl R)(kr:ah R):cG R:=fun t3 t9 h=>aF .i64 h t3.block (t3.off+1) fun HU=>kx t3 t9 (av (av (2*HU)-2)) h
def K8(kr:ah R):cG R:=Gu C fl k (Jm C fl k kr) kr
theorem aoL(cn:aa):(cp kQ (ce C fl k (Yf cn) K))=Gu C fl k (cp fv (ce C fl k cn K)) (cp Gr (K .ret)):=by kernel_rfl
theorem aoM:(cp kQ (ce C fl k PX K))=K8 C fl k (cp Gr (K .ret)):=(aoL C fl k K Gs).trans (ag (fun L0=>Gu C fl k L0 _) (afN C fl k K))
def ou{R:Type}(C:Callee)(fl k:Nat)(kn:bG R)(e0:cG R):bG R:=fun t3 t7 t8 t9 t10 h=>kn t3 t7 t8 t9 (av (t10+1)) h
theorem HJ:(cp fx (ce C fl k sG K))=ou C fl k (cp fx (K .normal)) (cp kQ (K (.exit 0))):=by kernel_rfl
def et{R:Type}(C:Callee)(fl k:Nat)(kn:Ti R)(e2:bG R):Ti R:=fun t3 t7 t8 t9 t10 t11 h=>aF .i64 h t3.block (t3.off+1) fun EI=>if decide (t11<EI)=true then idx 1 t9 (av (t10+t11)) fun p27=>aF .i64 h p27.block p27.off fun n28=>idx 1 t7 t10 fun p29=>aF .i64 h p29.block p29.off fun n30=>idx 1 t8 t11 fun p31=>aF .i64 h p31.block p31.off fun n32=>aF .i64 h t3.block t3.off fun n33=>j6 .rem .i64 (av (n28+(av (n30*n32)))) n33 fun n34=>idx 1 t9 (av (t10+t11)) fun p35=>st fl h p35 [vi n34] fun Qj=>kn t3 t7 t8 t9 t10 (av (t11+1)) Qj else e2 t3 t7 t8 t9 t10 h
theorem Jn:(cp Tj (ce C fl k nS K))=et C fl k (cp Tj (K .normal)) (cp fx (K (.exit 2))):=by kernel_rfl
def kU(kn:bG R):Nat→Ti R
 |0=>fun _ _ _ _ _ _ _=>none
 |m+1=>et C fl k (kU kn m) kn
theorem xw:∀m,(cp Tj (aQ m (aW C fl k nS 2 K)))=kU C fl k (cp fx (K .normal)) m
 |0=>by kernel_rfl
 |m+1=>gu (Jn C fl k _) (ag (fun L=>et C fl k L _) (xw m))
def vf(kn:bG R):Ti R:=kU C fl k kn k
theorem PZ:(cp Tj (ce C fl k sH K))=vf C fl k (cp fx (K .normal)):=gv (xw C fl k K)
def sK{R:Type}(C:Callee)(fl k:Nat)(kx:Ti R)(kn:bG R):bG R:=fun t3 t7 t8 t9 t10 h=>kx t3 t7 t8 t9 t10 0 h
def xk(kn:bG R):bG R:=sK C fl k (vf C fl k kn) kn
theorem Z6(cn:aa):(cp fx (ce C fl k (HH cn) K))=sK C fl k (cp Tj (ce C fl k cn K)) (cp fx (K .normal)):=by kernel_rfl
theorem Z7:(cp fx (ce C fl k Ba K))=xk C fl k (cp fx (K .normal)):=(Z6 C fl k K sH).trans (ag (fun L0=>sK C fl k L0 _) (PZ C fl k K))
def zA{R:Type}(C:Callee)(fl k:Nat)(kx:bG R)(u0:bG R)(kn:bG R)(e0:cG R):bG R:=fun t3 t7 t8 t9 t10 h=>u0 t3 t7 t8 t9 t10 h
def Jo(kn:bG R)(e0:cG R):bG R:=zA C fl k (ou C fl k kn e0) (xk C fl k (ou C fl k kn e0)) kn e0
theorem afO(cn fJ:aa):(cp fx (ce C fl k (MD cn fJ) K))=zA C fl k (cp fx (ce C fl k cn K)) (cp fx (ce C fl k fJ (iK 1 (bw C fl k cn K)))) (cp fx (K .normal)) (cp kQ (K (.exit 0))):=by kernel_rfl
theorem afP:(cp fx (ce C fl k Gt K))=Jo C fl k (cp fx (K .normal)) (cp kQ (K (.exit 0))):=(afO C fl k K sG Ba).trans (gG (fun L0 L1=>zA C fl k L0 L1 _ _) (HJ C fl k K) ((Z7 C fl k (iK 1 (bw C fl k sG K))).trans (ag (fun L0=>xk C fl k L0) (bn1 (HJ C fl k K)))))
def Bb{R:Type}(C:Callee)(fl k:Nat)(kx:bG R)(kn:bG R)(e0:cG R):bG R:=fun t3 t7 t8 t9 t10 h=>aF .i64 h t3.block (t3.off+1) fun n37=>if decide (t10<n37)=true then kx t3 t7 t8 t9 t10 h else e0 t3 t9 h
def vg(kn:bG R)(e0:cG R):bG R:=Bb C fl k (Jo C fl k kn e0) kn e0
theorem aoN(cn:aa):(cp fx (ce C fl k (Yg cn) K))=Bb C fl k (cp fx (ce C fl k cn K)) (cp fx (K .normal)) (cp kQ (K (.exit 0))):=by kernel_rfl
theorem aoO:(cp fx (ce C fl k PY K))=vg C fl k (cp fx (K .normal)) (cp kQ (K (.exit 0))):=(aoN C fl k K Gt).trans (ag (fun L0=>Bb C fl k L0 _ _) (afP C fl k K))
def zL(kn:cG R):Nat→bG R
 |0=>fun _ _ _ _ _ _=>none
 |m+1=>vg C fl k (zL kn m) kn
theorem Yh:∀m,(cp fx (aQ m (aW C fl k PY 0 K)))=zL C fl k (cp kQ (K .normal)) m
 |0=>by kernel_rfl
 |m+1=>gu (aoO C fl k _) (ag (fun L=>vg C fl k L _) (Yh m))
def akd(kr:ah R):bG R:=zL C fl k (K8 C fl k kr) k
theorem azc:(cp fx (ce C fl k adZ K))=akd C fl k (cp Gr (K .ret)):=(iP (gv (Yh C fl k (bw C fl k PX K)))).trans (ag (fun L=>zL C fl k L k) (iL (aoM C fl k K)))
def ake{R:Type}(C:Callee)(fl k:Nat)(kx:bG R)(kr:ah R):jq R:=fun aI aJ aL t1 t2 h=>bJ h [vi aI,vi aJ,vs aL] fun b38 h39=>aF .i64 h39 b38 0 fun n40=>aF .i64 h39 b38 1 fun n41=>aT h39 b38 2 fun s42=>aj C fl fn.df [.agg ⟨[vi n40,vi n41,vs s42]⟩,vi t1] h39 fun v43 h44=>aX v43 fun s45=>aF .i64 h44 b38 0 fun n46=>aF .i64 h44 b38 1 fun n47=>aT h44 b38 2 fun s48=>aj C fl fn.df [.agg ⟨[vi n46,vi n47,vs s48]⟩,vi t2] h44 fun v49 h50=>aX v49 fun s51=>aF .i64 h50 b38 1 fun n52=>qF 8 [.int .i64 0] (av (av (2*n52)-1)) (av (av (2*n52)-1)) h50 fun s53 h54=>kx ⟨b38,0,none⟩ s45 s51 s53 0 h54
def aEP(kr:ah R):jq R:=ake C fl k (akd C fl k kr) kr
theorem aL4(cn:aa):(cp awV (ce C fl k (awU cn) K))=ake C fl k (cp fx (ce C fl k cn K)) (cp Gr (K .ret)):=by kernel_rfl
theorem aL5:(cp awV (ce C fl k aEO K))=aEP C fl k (cp Gr (K .ret)):=(aL4 C fl k K adZ).trans (ag (fun L0=>ake C fl k L0 _) (azc C fl k K))
def iQ(aw ax:Int)(ay:Sl)(p1 p2:Int)(h:AH):Option (Value×AH):=aEP C fl k (fun y6 q=>some (vi y6,q)) aw ax ay p1 p2 h
theorem afQ(aw ax:Int)(ay:Sl)(p1 p2:Int)(h):aV C fl k Cp [.agg ⟨[vi aw,vi ax,vs ay]⟩,vi p1,vi p2] h=iQ C fl k aw ax ay p1 p2 h:=oY (aL5 C fl k (aG _)) aw ax ay p1 p2 (by kernel_rfl) (by kernel_rfl)
def abh(t6:Int):List Value:=un 6 (vi t6::un 33 [])
def P0:aa:=.seq (.region [oI 37 (.load (.agg [.int .i64,.int .i64,.slice]) (.t 3)),m 38 7,oI 39 (.call (.f 157) [.t 37,.t 38] (.one (.one (.int .i64)))),m 6 39] [3,7,37,38,39]) (.ret)
def akf(t3:Addr)(t7:Sl):List Value:=un 3 (vp t3::un 3 (t7.v::un 32 []))
abbrev Tn(R:Type):=Addr→Sl→Sl→Int→AH→Option R
def To(t3:Addr)(t7 t8:Sl)(t9:Int):List Value:=un 3 (vp t3::un 3 (t7.v::t8.v::vi t9::un 30 []))
def P1:aa:=.seq (.region [m 16 9,m 17 7,ln 18 17,cm 19 .lss 16 18] [16,17,18]) (.seq (.cond (.t 19) (kl [19]) (.seq (kl [8,9,19]) (.exit 0))) (.seq (.block 1 (.region [m 22 7,m 23 9,m 24 7,m 25 9,ia 26 1 24 25,lj 27 26,m 28 8,m 29 9,ia 30 1 28 29,lj 31 30,bb 32 .add 27 31,fa 33 0 3,lj 34 33,bb 35 .rem 32 34,ia 36 1 22 23,sI 1 36 35] [22,23,24,25,26,27,28,29,30,31,32,33,34,35,36])) (.region [m 20 9,bc 21 .add 20 1,m 9 21] [20,21])))
def ad0:aa:=.seq (.block 0 (.loop P1)) P0
def awW(cn:aa):aa:=.seq (.seq (.region [oI 3 (.box (.t 0)),mc 6 0] [0,6]) (.seq (.region [oI 10 (.load (.agg [.int .i64,.int .i64,.slice]) (.t 3)),m 11 1,oI 12 (.call (.f 156) [.t 10,.t 11] (.one (.one .slice))),m 7 12] [1,10,11,12]) (.seq (.region [oI 13 (.load (.agg [.int .i64,.int .i64,.slice]) (.t 3)),m 14 2,oI 15 (.call (.f 156) [.t 13,.t 14] (.one (.one .slice))),m 8 15] [2,13,14,15]) (.region [mc 9 0] [])))) cn
def aEQ:aa:=awW ad0
def awX(aI aJ:Int)(aL:Sl)(t1 t2:Int):List Value:=.agg ⟨[vi aI,vi aJ,vs aL]⟩::vi t1::vi t2::un 37 []
def Cq:aK:=⟨40,aEQ,[.tmp 6]⟩
theorem akg:okF Tryz.prog 173 Cq=true:=by kernel_rfl
def En{R:Type}(C:Callee)(fl k:Nat)(kr:ah R):cG R:=fun t3 t7 h=>aF .i64 h t3.block t3.off fun n1=>aF .i64 h t3.block (t3.off+1) fun n2=>aT h t3.block (t3.off+1+1) fun s3=>aj C fl fn.gZ [.agg ⟨[vi n1,vi n2,vs s3]⟩,vs t7] h fun v4 h5=>asInt .i64 v4 fun n6=>kr n6 h5
theorem aoP:(cp akf (ce C fl k P0 K))=En C fl k (cp abh (K .ret)):=by kernel_rfl
def vh{R:Type}(C:Callee)(fl k:Nat)(kn:Tn R)(e0:cG R):Tn R:=fun t3 t7 t8 t9 h=>if decide (t9<((t7.l:Nat):Int))=true then idx 1 t7 t9 fun p7=>aF .i64 h p7.block p7.off fun n8=>idx 1 t8 t9 fun p9=>aF .i64 h p9.block p9.off fun mb=>aF .i64 h t3.block t3.off fun xA=>j6 .rem .i64 (av (n8+mb)) xA fun Bu=>idx 1 t7 t9 fun p13=>st fl h p13 [vi Bu] fun h14=>kn t3 t7 t8 (av (t9+1)) h14 else e0 t3 t7 h
theorem aoQ:(cp To (ce C fl k P1 K))=vh C fl k (cp To (K .normal)) (cp akf (K (.exit 0))):=by kernel_rfl
def Eo(kn:cG R):Nat→Tn R
 |0=>fun _ _ _ _ _=>none
 |m+1=>vh C fl k (Eo kn m) kn
theorem Yi:∀m,(cp To (aQ m (aW C fl k P1 0 K)))=Eo C fl k (cp akf (K .normal)) m
 |0=>by kernel_rfl
 |m+1=>gu (aoQ C fl k _) (ag (fun L=>vh C fl k L _) (Yi m))
def akh(kr:ah R):Tn R:=Eo C fl k (En C fl k kr) k
theorem azd:(cp To (ce C fl k ad0 K))=akh C fl k (cp abh (K .ret)):=(iP (gv (Yi C fl k (bw C fl k P0 K)))).trans (ag (fun L=>Eo C fl k L k) (iL (aoP C fl k K)))
def aki{R:Type}(C:Callee)(fl k:Nat)(kx:Tn R)(kr:ah R):jq R:=fun aI aJ aL t1 t2 h=>bJ h [vi aI,vi aJ,vs aL] fun b15 GN=>aF .i64 GN b15 0 fun Qh=>aF .i64 GN b15 1 fun JT=>aT GN b15 2 fun s19=>aj C fl fn.df [.agg ⟨[vi Qh,vi JT,vs s19]⟩,vi t1] GN fun v20 yL=>aX v20 fun s22=>aF .i64 yL b15 0 fun n23=>aF .i64 yL b15 1 fun n24=>aT yL b15 2 fun s25=>aj C fl fn.df [.agg ⟨[vi n23,vi n24,vs s25]⟩,vi t2] yL fun v26 h27=>aX v26 fun s28=>kx ⟨b15,0,none⟩ s22 s28 0 h27
def aER(kr:ah R):jq R:=aki C fl k (akh C fl k kr) kr
theorem aL6(cn:aa):(cp awX (ce C fl k (awW cn) K))=aki C fl k (cp To (ce C fl k cn K)) (cp abh (K .ret)):=by kernel_rfl
theorem aL7:(cp awX (ce C fl k aEQ K))=aER C fl k (cp abh (K .ret)):=(aL6 C fl k K ad0).trans (ag (fun L0=>aki C fl k L0 _) (azd C fl k K))
def qb(aw ax:Int)(ay:Sl)(p1 p2:Int)(h:AH):Option (Value×AH):=aER C fl k (fun y6 q=>some (vi y6,q)) aw ax ay p1 p2 h
theorem afR(aw ax:Int)(ay:Sl)(p1 p2:Int)(h):aV C fl k Cq [.agg ⟨[vi aw,vi ax,vs ay]⟩,vi p1,vi p2] h=qb C fl k aw ax ay p1 p2 h:=oY (aL7 C fl k (aG _)) aw ax ay p1 p2 (by kernel_rfl) (by kernel_rfl)
def aL8(t4:Int):List Value:=un 4 (vi t4::un 4 [])
def aES:aa:=.seq (.region [oI 2 (.box (.t 0)),mc 4 0] [0,4]) (.seq (.region [oI 5 (.load (.agg [.int .i64,.int .i64,.slice]) (.t 2)),m 6 1,oI 7 (.call (.f 106) [.t 5,.t 6] (.one (.one .bool)))] [2,5,6]) (.seq (.cond (.t 7) (.seq (.region [m 8 1,m 4 8] [1,7,8]) (.ret)) (kl [1,7])) (.seq (.region [mc 4 0] []) (.ret))))
def aL9(aI aJ:Int)(aL:Sl)(t1:Int):List Value:=.agg ⟨[vi aI,vi aJ,vs aL]⟩::vi t1::un 7 []
def Gv:aK:=⟨9,aES,[.tmp 4]⟩
theorem aoR:okF Tryz.prog 174 Gv=true:=by kernel_rfl
def aET{R:Type}(C:Callee)(fl k:Nat)(kr:ah R):cu R:=fun aI aJ aL t1 h=>bJ h [vi aI,vi aJ,vs aL] fun b1 h2=>aF .i64 h2 b1 0 fun n3=>aF .i64 h2 b1 1 fun n4=>aT h2 b1 2 fun s5=>aj C fl fn.my [.agg ⟨[vi n3,vi n4,vs s5]⟩,vi t1] h2 fun v6 h7=>asBool v6 fun b8=>if b8=true then kr t1 h7 else kr 0 h7
theorem aMa:(cp aL9 (ce C fl k aES K))=aET C fl k (cp aL8 (K .ret)):=by kernel_rfl
def Dt(aw ax:Int)(ay:Sl)(p1:Int)(h:AH):Option (Value×AH):=aET C fl k (fun y4 q=>some (vi y4,q)) aw ax ay p1 h
theorem akj(aw ax:Int)(ay:Sl)(p1:Int)(h):aV C fl k Gv [.agg ⟨[vi aw,vi ax,vs ay]⟩,vi p1] h=Dt C fl k aw ax ay p1 h:=QS (aMa C fl k (aG _)) aw ax ay p1 (by kernel_rfl) (by kernel_rfl)
def abi(t4:Bool):List Value:=un 4 (.bool t4::un 100 [])
def P2:aa:=.seq (.region [m 63 1,oI 64 (.call (.f 39) [.t 63,.f 185] (.one (.one (.int .i64)))),m 10 64] [63,64]) (.seq (.region [m 65 10,ck 66 .lss 65 0] [65]) (.seq (.cond (.t 66) (.seq (.region [oI 4 (.mv (.c (.bool false)))] [0,1,10,66]) (.ret)) (kl [66])) (.seq (.region [m 68 0,oI 69 (.cQ (.t 68)),fa 70 0 69,oJ 71 (.load (.one .l0) (.t 70)),m 72 1,m 73 10,ia 74 1 72 73,lj 75 74,oI 76 (.call (.f 139) [.t 71,.t 75] (.ke [.one (.int .i64),.one (.int .i64)])),m 67 76,ex 77 67 0,ex 78 67 1,m 11 77,m 12 78] [12,67,68,69,70,71,72,73,74,75,76,77,78]) (.seq (.region [m 79 0,m 80 0,oI 81 (.cQ (.t 80)),fa 82 1 81,lt 83 82,m 84 0,oI 85 (.cQ (.t 84)),fa 86 0 85,oJ 87 (.load (.one .l0) (.t 86)),m 88 11,m 89 1,oJ 90 (.call (.f 140) [.t 87,.t 88,.t 89] (.one (.one .slice))),oJ 91 (.bq 1 [.slice none 0 0] [(0,1,.t 90)]),oI 92 (.append 1 24 (.t 83) (.t 91)),oI 93 (.cQ (.t 79)),fa 94 1 93,sI 1 94 92] [1,11,79,80,81,82,83,84,85,86,87,88,89,90,91,92,93,94]) (.seq (.region [m 95 0,m 96 0,oI 97 (.cQ (.t 96)),fa 98 2 97,ls 99 98,m 100 10,oI 101 (.bq 1 [.int .i64 0] [(0,1,.t 100)]),oI 102 (.append 1 8 (.t 99) (.t 101)),oI 103 (.cQ (.t 95)),fa 104 2 103,sI 1 104 102] [0,10,95,96,97,98,99,100,101,102,103,104]) (.seq (.region [oI 4 (.mv (.c (.bool true)))] []) (.ret)))))))
def zB(t0:OA)(t1:Sl):List Value:=vn t0::t1.v::un 103 []
def dC(t0:OA)(t1 t16:Sl)(t17 t18:Int):List Value:=vn t0::t1.v::un 14 (t16.v::vi t17::vi t18::un 86 [])
def sL:aa:=.region [bc 62 .add 18 1,m 18 62] [62]
def Tp(t0:OA)(t1:Sl)(t7:Int)(t16:Sl)(t17 t18:Int)(t35:Sl)(t36 t37:Int):List Value:=vn t0::t1.v::un 5 (vi t7::un 8 (t16.v::vi t17::vi t18::un 16 (t35.v::vi t36::vi t37::un 67 [])))
def kV:aa:=.seq (.region [cm 38 .lss 37 36] []) (.seq (.cond (.t 38) (kl [38]) (.seq (kl [7,35,36,37,38]) (.exit 2))) (.seq (.block 3 (.seq (.region [m 39 37,ia 40 1 35 37,li 41 40,m 8 39,m 9 41] [39,40,41]) (.region [m 42 1,m 43 8,m 44 0,oI 45 (.cQ (.t 44)),fa 46 0 45,oJ 47 (.load (.one .l0) (.t 46)),m 48 1,m 49 8,ia 50 1 48 49,lj 51 50,m 52 0,oI 53 (.cQ (.t 52)),fa 54 0 53,oJ 55 (.load (.one .l0) (.t 54)),m 56 7,m 57 9,oJ 58 (.call (.f 120) [.t 55,.t 56,.t 57] (.one (.one (.int .i64)))),oI 59 (.call (.f 119) [.t 47,.t 51,.t 58] (.one (.one (.int .i64)))),ia 60 1 42 43,sI 1 60 59] [8,9,42,43,44,45,46,47,48,49,50,51,52,53,54,55,56,57,58,59,60]))) (.region [bc 61 .add 37 1,m 37 61] [61])))
def mO:aa:=.block 2 (.loop kV)
def yC(cn:aa):aa:=.seq (.region [m 35 6,ln 36 35,mc 37 0] [6,34]) cn
def pO:aa:=yC mO
def K9(t0:OA)(t1 t6:Sl)(t7:Int)(t16:Sl)(t17 t18:Int)(t34:Bool):List Value:=vn t0::t1.v::un 4 (t6.v::vi t7::un 8 (t16.v::vi t17::vi t18::un 15 (.bool t34::un 70 [])))
def Cr(fJ:aa):aa:=.cond (.t 34) fJ (kl [6,7,34])
def vj:aa:=Cr pO
def HK(cn:aa):aa:=.seq (.seq (.region [m 20 18,ia 21 1 16 18,ls 22 21,m 5 20,m 6 22] [20,21,22]) (.seq (.region [m 23 1,m 24 0,oI 25 (.cQ (.t 24)),fa 26 2 25,ls 27 26,m 28 5,ia 29 1 27 28,li 30 29,ia 31 1 23 30,li 32 31,m 7 32] [5,23,24,25,26,27,28,29,30,31,32]) (.region [m 33 7,ck 34 .neq 33 0] [33]))) cn
def Bc:aa:=HK vj
def ME(cn fJ:aa):aa:=.seq (.block 1 fJ) cn
def Gw:aa:=ME sL Bc
def Yj(cn:aa):aa:=.seq (.seq (.region [cm 19 .lss 18 17] []) (.cond (.t 19) (kl [19]) (.seq (kl [16,17,18,19]) (.exit 0)))) cn
def P3:aa:=Yj Gw
def ad1:aa:=.seq (.block 0 (.loop P3)) P2
def awY(cn:aa):aa:=.seq (.seq (.region [oI 4 (.mv (.c (.bool false)))] [4]) (.region [m 13 0,oI 14 (.cQ (.t 13)),fa 15 1 14,ls 16 15,ln 17 16,mc 18 0] [13,14,15])) cn
def aEU:aa:=awY ad1
def iG:aK:=⟨105,aEU,[.tmp 4]⟩
theorem Gx:okF Tryz.prog 175 iG=true:=by kernel_rfl
def aha{R:Type}(C:Callee)(fl k:Nat)(kr:aC R):eh R:=fun t0 t1 h=>aj C fl fn.cY [vs t1,.func (.func fn.iw) ⟨[]⟩ ⟨[]⟩] h fun v1 h2=>asInt .i64 v1 fun n3=>if decide (n3<0)=true then kr false h2 else bz (.pointer t0) fun p4=>ldN h2 p4.block p4.off fun p5=>idx 1 t1 n3 fun p6=>aF .i64 h2 p6.block p6.off fun n7=>aj C fl fn.fS [.pointer p5,vi n7] h2 fun v8 h9=>aE v8 fun l10=>ar l10 fun v11 l12=>asInt .i64 v11 fun BL=>ar l12 fun v14 l15=>asInt .i64 v14 fun HT=>aM l15 (bz (.pointer t0) fun p17=>aT h9 p17.block (p17.off+1) fun s18=>bz (.pointer t0) fun p19=>ldN h9 p19.block p19.off fun p20=>aj C h9.next fn.gm [.pointer p20,vi BL,vs t1] h9 fun v21 TY=>aX v21 fun s23=>bJ TY [vs s23] fun b24 h25=>dn fl 1 24 s18 ⟨(some ⟨b24,0,none⟩),1,1⟩ h25 fun s26 h27=>bz (.pointer t0) fun p28=>st fl h27 ⟨p28.block,p28.off+1,none⟩ [vs s26] fun h29=>bz (.pointer t0) fun p30=>aT h29 p30.block (p30.off+2) fun s31=>bJ h29 [vi n3] fun b32 h33=>dn fl 1 8 s31 ⟨(some ⟨b32,0,none⟩),1,1⟩ h33 fun s34 h35=>bz (.pointer t0) fun p36=>st fl h35 ⟨p36.block,p36.off+2,none⟩ [vs s34] fun h37=>kr true h37)
theorem aoS:(cp zB (ce C fl k P2 K))=aha C fl k (cp abi (K .ret)):=by kernel_rfl
def CZ{R:Type}(C:Callee)(fl k:Nat)(kn:bA R)(e0:eh R):bA R:=fun t0 t1 t16 t17 t18 h=>kn t0 t1 t16 t17 (av (t18+1)) h
theorem HL:(cp dC (ce C fl k sL K))=CZ C fl k (cp dC (K .normal)) (cp zB (K (.exit 0))):=by kernel_rfl
def lB{R:Type}(C:Callee)(fl k:Nat)(kn:rU R)(e2:bA R):rU R:=fun t0 t1 t7 t16 t17 t18 t35 t36 t37 h=>if decide (t37<t36)=true then idx 1 t35 t37 fun p38=>aF .i64 h p38.block p38.off fun n39=>bz (.pointer t0) fun p40=>ldN h p40.block p40.off fun p41=>idx 1 t1 t37 fun p42=>aF .i64 h p42.block p42.off fun n43=>bz (.pointer t0) fun p44=>ldN h p44.block p44.off fun p45=>aj C h.next fn.dy [.pointer p45,vi t7,vi n39] h fun v46 h47=>asInt .i64 v46 fun n48=>aj C fl fn.gQ [.pointer p41,vi n43,vi n48] h47 fun v49 h50=>asInt .i64 v49 fun n51=>idx 1 t1 t37 fun p52=>st fl h50 p52 [vi n51] fun h53=>kn t0 t1 t7 t16 t17 t18 t35 t36 (av (t37+1)) h53 else e2 t0 t1 t16 t17 t18 h
theorem Ep:(cp Tp (ce C fl k kV K))=lB C fl k (cp Tp (K .normal)) (cp dC (K (.exit 2))):=by kernel_rfl
def lC(kn:bA R):Nat→rU R
 |0=>fun _ _ _ _ _ _ _ _ _ _=>none
 |m+1=>lB C fl k (lC kn m) kn
theorem qz:∀m,(cp Tp (aQ m (aW C fl k kV 2 K)))=lC C fl k (cp dC (K .normal)) m
 |0=>by kernel_rfl
 |m+1=>gu (Ep C fl k _) (ag (fun L=>lB C fl k L _) (qz m))
def yD(kn:bA R):rU R:=lC C fl k kn k
theorem Il:(cp Tp (ce C fl k mO K))=yD C fl k (cp dC (K .normal)):=gv (qz C fl k K)
def pP{R:Type}(C:Callee)(fl k:Nat)(kx:rU R)(kn:bA R):nA R:=fun t0 t1 t6 t7 t16 t17 t18 t34 h=>kx t0 t1 t7 t16 t17 t18 t6 ((t6.l:Nat):Int) 0 h
def Cs(kn:bA R):nA R:=pP C fl k (yD C fl k kn) kn
theorem L5(cn:aa):(cp K9 (ce C fl k (yC cn) K))=pP C fl k (cp Tp (ce C fl k cn K)) (cp dC (K .normal)):=by kernel_rfl
theorem L6:(cp K9 (ce C fl k pO K))=Cs C fl k (cp dC (K .normal)):=(L5 C fl k K mO).trans (ag (fun L0=>pP C fl k L0 _) (Il C fl k K))
def vk{R:Type}(C:Callee)(fl k:Nat)(u0:nA R)(kn:bA R):nA R:=fun t0 t1 t6 t7 t16 t17 t18 t34 h=>if t34=true then u0 t0 t1 t6 t7 t16 t17 t18 t34 h else kn t0 t1 t16 t17 t18 h
def HM(kn:bA R):nA R:=vk C fl k (Cs C fl k kn) kn
theorem Tq(fJ:aa):(cp K9 (ce C fl k (Cr fJ) K))=vk C fl k (cp K9 (ce C fl k fJ K)) (cp dC (K .normal)):=by kernel_rfl
theorem Tr:(cp K9 (ce C fl k vj K))=HM C fl k (cp dC (K .normal)):=(Tq C fl k K pO).trans (ag (fun L0=>vk C fl k L0 _) (L6 C fl k K))
def Bd{R:Type}(C:Callee)(fl k:Nat)(kx:nA R)(kn:bA R):bA R:=fun t0 t1 t16 t17 t18 h=>idx 1 t16 t18 fun p54=>aT h p54.block p54.off fun s55=>bz (.pointer t0) fun p56=>aT h p56.block (p56.off+2) fun s57=>idx 1 s57 t18 fun p58=>aF .i64 h p58.block p58.off fun n59=>idx 1 t1 n59 fun p60=>aF .i64 h p60.block p60.off fun n61=>kx t0 t1 s55 n61 t16 t17 t18 (n61 !=0) h
def C0(kn:bA R):bA R:=Bd C fl k (HM C fl k kn) kn
theorem Z8(cn:aa):(cp dC (ce C fl k (HK cn) K))=Bd C fl k (cp K9 (ce C fl k cn K)) (cp dC (K .normal)):=by kernel_rfl
theorem Z9:(cp dC (ce C fl k Bc K))=C0 C fl k (cp dC (K .normal)):=(Z8 C fl k K vj).trans (ag (fun L0=>Bd C fl k L0 _) (Tr C fl k K))
def Gy{R:Type}(C:Callee)(fl k:Nat)(kx:bA R)(u0:bA R)(kn:bA R)(e0:eh R):bA R:=fun t0 t1 t16 t17 t18 h=>u0 t0 t1 t16 t17 t18 h
def Yk(kn:bA R)(e0:eh R):bA R:=Gy C fl k (CZ C fl k kn e0) (C0 C fl k (CZ C fl k kn e0)) kn e0
theorem afS(cn fJ:aa):(cp dC (ce C fl k (ME cn fJ) K))=Gy C fl k (cp dC (ce C fl k cn K)) (cp dC (ce C fl k fJ (iK 1 (bw C fl k cn K)))) (cp dC (K .normal)) (cp zB (K (.exit 0))):=by kernel_rfl
theorem afT:(cp dC (ce C fl k Gw K))=Yk C fl k (cp dC (K .normal)) (cp zB (K (.exit 0))):=(afS C fl k K sL Bc).trans (gG (fun L0 L1=>Gy C fl k L0 L1 _ _) (HL C fl k K) ((Z9 C fl k (iK 1 (bw C fl k sL K))).trans (ag (fun L0=>C0 C fl k L0) (bn1 (HL C fl k K)))))
def P4{R:Type}(C:Callee)(fl k:Nat)(kx:bA R)(kn:bA R)(e0:eh R):bA R:=fun t0 t1 t16 t17 t18 h=>if decide (t18<t17)=true then kx t0 t1 t16 t17 t18 h else e0 t0 t1 h
def VE(kn:bA R)(e0:eh R):bA R:=P4 C fl k (Yk C fl k kn e0) kn e0
theorem aoT(cn:aa):(cp dC (ce C fl k (Yj cn) K))=P4 C fl k (cp dC (ce C fl k cn K)) (cp dC (K .normal)) (cp zB (K (.exit 0))):=by kernel_rfl
theorem aoU:(cp dC (ce C fl k P3 K))=VE C fl k (cp dC (K .normal)) (cp zB (K (.exit 0))):=(aoT C fl k K Gw).trans (ag (fun L0=>P4 C fl k L0 _ _) (afT C fl k K))
def La(kn:eh R):Nat→bA R
 |0=>fun _ _ _ _ _ _=>none
 |m+1=>VE C fl k (La kn m) kn
theorem Yl:∀m,(cp dC (aQ m (aW C fl k P3 0 K)))=La C fl k (cp zB (K .normal)) m
 |0=>by kernel_rfl
 |m+1=>gu (aoU C fl k _) (ag (fun L=>VE C fl k L _) (Yl m))
def awZ(kr:aC R):bA R:=La C fl k (aha C fl k kr) k
theorem aze:(cp dC (ce C fl k ad1 K))=awZ C fl k (cp abi (K .ret)):=(iP (gv (Yl C fl k (bw C fl k P2 K)))).trans (ag (fun L=>La C fl k L k) (iL (aoS C fl k K)))
def arU{R:Type}(C:Callee)(fl k:Nat)(kx:bA R)(kr:aC R):eh R:=fun t0 t1 h=>bz (.pointer t0) fun p62=>aT h p62.block (p62.off+1) fun s63=>kx t0 t1 s63 ((s63.l:Nat):Int) 0 h
def aOE(kr:aC R):eh R:=arU C fl k (awZ C fl k kr) kr
theorem aMb(cn:aa):(cp zB (ce C fl k (awY cn) K))=arU C fl k (cp dC (ce C fl k cn K)) (cp abi (K .ret)):=by kernel_rfl
theorem aMc:(cp zB (ce C fl k aEU K))=aOE C fl k (cp abi (K .ret)):=(aMb C fl k K ad1).trans (ag (fun L0=>arU C fl k L0 _) (aze C fl k K))
def jN(p0:OA)(p1:Sl)(h:AH):Option (Value×AH):=aOE C fl k (fun y4 q=>some (.bool y4,q)) p0 p1 h
theorem Er(p0:OA)(p1:Sl)(h):aV C fl k iG [.pointer p0,vs p1] h=jN C fl k p0 p1 h:=tF (aMc C fl k (aG _)) p0 p1 (by kernel_rfl) (by kernel_rfl)
def abj(t4:Sl):List Value:=un 4 (t4.v::un 30 [])
def P5:aa:=.seq (.region [m 34 5,m 4 34] [5,34]) (.ret)
def akk(t5:Sl):List Value:=un 5 (t5.v::un 29 [])
def Ts(t1:Int)(t5 t19:Sl)(t20 t21:Int):List Value:=un 1 (vi t1::un 3 (t5.v::un 13 (t19.v::vi t20::vi t21::un 13 [])))
def P6:aa:=.seq (.region [cm 22 .lss 21 20] []) (.seq (.cond (.t 22) (kl [22]) (.seq (kl [1,19,20,21,22]) (.exit 0))) (.seq (.block 1 (.seq (.region [m 23 21,ia 24 1 19 21,ls 25 24,m 6 23,m 7 25] [23,24,25]) (.region [m 26 5,m 27 6,m 28 7,m 29 1,ia 30 1 28 29,li 31 30,ia 32 1 26 27,sI 1 32 31] [6,7,26,27,28,29,30,31,32]))) (.region [bc 33 .add 21 1,m 21 33] [33])))
def ad2:aa:=.seq (.block 0 (.loop P6)) P5
def aw0(cn:aa):aa:=.seq (.seq (.region [oI 4 (.mv (.c (.slice none 0 0)))] [4]) (.seq (.region [m 8 0,oI 9 (.cQ (.t 8)),fa 10 1 9,fa 11 4 10,ls 12 11,ln 13 12,oI 14 (.dj 8 [.int .i64 0] (.t 13) (.t 13)),m 5 14] [8,9,10,11,12,13,14]) (.region [m 15 0,oI 16 (.cQ (.t 15)),fa 17 1 16,fa 18 4 17,ls 19 18,ln 20 19,mc 21 0] [0,15,16,17,18]))) cn
def aEV:aa:=aw0 ad2
def aw1(t0:OA)(t1:Int):List Value:=vn t0::vi t1::un 33 []
def fZ:aK:=⟨35,aEV,[.tmp 4]⟩
theorem BH:okF Tryz.prog 176 fZ=true:=by kernel_rfl
def ahb{R:Type}(C:Callee)(fl k:Nat)(kr:ab R):ab R:=fun t5 h=>kr t5 h
theorem aoV:(cp akk (ce C fl k P5 K))=ahb C fl k (cp abj (K .ret)):=by kernel_rfl
def VF{R:Type}(C:Callee)(fl k:Nat)(kn:rV R)(e0:ab R):rV R:=fun t1 t5 t19 t20 t21 h=>if decide (t21<t20)=true then idx 1 t19 t21 fun p1=>aT h p1.block p1.off fun s2=>idx 1 s2 t1 fun p3=>aF .i64 h p3.block p3.off fun n4=>idx 1 t5 t21 fun p5=>st fl h p5 [vi n4] fun h6=>kn t1 t5 t19 t20 (av (t21+1)) h6 else e0 t5 h
theorem aoW:(cp Ts (ce C fl k P6 K))=VF C fl k (cp Ts (K .normal)) (cp akk (K (.exit 0))):=by kernel_rfl
def Lb(kn:ab R):Nat→rV R
 |0=>fun _ _ _ _ _ _=>none
 |m+1=>VF C fl k (Lb kn m) kn
theorem Ym:∀m,(cp Ts (aQ m (aW C fl k P6 0 K)))=Lb C fl k (cp akk (K .normal)) m
 |0=>by kernel_rfl
 |m+1=>gu (aoW C fl k _) (ag (fun L=>VF C fl k L _) (Ym m))
def aw2(kr:ab R):rV R:=Lb C fl k (ahb C fl k kr) k
theorem azf:(cp Ts (ce C fl k ad2 K))=aw2 C fl k (cp abj (K .ret)):=(iP (gv (Ym C fl k (bw C fl k P5 K)))).trans (ag (fun L=>Lb C fl k L k) (iL (aoV C fl k K)))
def arV{R:Type}(C:Callee)(fl k:Nat)(kx:rV R)(kr:ab R):di R:=fun t0 t1 h=>bz (.pointer t0) fun p7=>aT h p7.block (p7.off+1+4) fun s8=>qF 8 [.int .i64 0] ((s8.l:Nat):Int) ((s8.l:Nat):Int) h fun s9 sU=>bz (.pointer t0) fun TS=>aT sU TS.block (TS.off+1+4) fun T8=>kx t1 s9 T8 ((T8.l:Nat):Int) 0 sU
def aOF(kr:ab R):di R:=arV C fl k (aw2 C fl k kr) kr
theorem aMd(cn:aa):(cp aw1 (ce C fl k (aw0 cn) K))=arV C fl k (cp Ts (ce C fl k cn K)) (cp abj (K .ret)):=by kernel_rfl
theorem aMe:(cp aw1 (ce C fl k aEV K))=aOF C fl k (cp abj (K .ret)):=(aMd C fl k K ad2).trans (ag (fun L0=>arV C fl k L0 _) (azf C fl k K))
def gR(p0:OA)(p1:Int)(h:AH):Option (Value×AH):=aOF C fl k (fun y4 q=>some (vs y4,q)) p0 p1 h
theorem Be(p0:OA)(p1:Int)(h):aV C fl k fZ [.pointer p0,vi p1] h=gR C fl k p0 p1 h:=tF (aMe C fl k (aG _)) p0 p1 (by kernel_rfl) (by kernel_rfl)
def aMf(t2:Sl):List Value:=un 2 (t2.v::un 6 [])
def aEW:aa:=.seq (.region [oI 2 (.mv (.c (.slice none 0 0)))] [2]) (.seq (.region [m 4 0,oI 5 (.call (.f 186) [.t 4] (.one (.one .slice))),m 3 5] [0,4,5]) (.seq (.region [m 6 3,oI 7 (.call (.f 160) [.t 6] (.ke []))] [6,7]) (.seq (.region [m 8 3,m 2 8] [3,8]) (.ret))))
abbrev Tt(R:Type):=Value→AH→Option R
def aMg(t0:Value):List Value:=t0::un 8 []
def oS:aK:=⟨9,aEW,[.tmp 2]⟩
theorem VG:okF Tryz.prog 177 oS=true:=by kernel_rfl
def aOG{R:Type}(C:Callee)(fl k:Nat)(kr:ab R):Tt R:=fun t0 h=>aj C fl fn.qS [t0] h fun v1 h2=>aX v1 fun s3=>aj C fl fn.xp [vs s3] h2 fun v4 h5=>aE v4 fun l6=>aM l6 (kr s3 h5)
theorem aMh:(cp aMg (ce C fl k aEW K))=aOG C fl k (cp aMf (K .ret)):=by kernel_rfl
def vz(p0:Value)(h:AH):Option (Value×AH):=aOG C fl k (fun y2 q=>some (vs y2,q)) p0 h
theorem Tu(p0:Value)(h):aV C fl k oS [p0] h=vz C fl k p0 h:=IU (aMh C fl k (aG _)) p0 (by kernel_rfl) (by kernel_rfl)
def aMi(t2:Value):List Value:=un 2 (t2::un 1 [])
def aEX:aa:=.seq (.region [oI 1 (.box (.t 0)),oI 2 (.mv (.c (.nilFunc)))] [0,2]) (.seq (.region [oI 3 (.Da 187 [] [.t 1]),m 2 3] [1,3]) (.ret))
def aMj(t0:Sl):List Value:=t0.v::un 3 []
def oT:aK:=⟨4,aEX,[.tmp 2]⟩
theorem VH:okF Tryz.prog 178 oT=true:=by kernel_rfl
def aOH{R:Type}(C:Callee)(fl k:Nat)(kr:Tt R):ab R:=fun t0 h=>bJ h [vs t0] fun b1 h2=>kr (.func (.func fn.oG) ⟨[]⟩ ⟨[.pointer (some ⟨b1,0,none⟩)]⟩) h2
theorem aMk:(cp aMj (ce C fl k aEX K))=aOH C fl k (cp aMi (K .ret)):=by kernel_rfl
def vA(p0:Sl)(h:AH):Option (Value×AH):=aOH C fl k (fun y2 q=>some (y2,q)) p0 h
theorem Tv(p0:Sl)(h):aV C fl k oT [vs p0] h=vA C fl k p0 h:=IU (aMk C fl k (aG _)) p0 (by kernel_rfl) (by kernel_rfl)
def Tw:List Value:=un 134 []
abbrev Tx(R:Type):=Sl→Int→Int→Int→Bool→Bool→AH→Option R
def Ty(t0:Sl)(t1 t2 t3:Int)(t8 t9:Bool):List Value:=t0.v::vi t1::vi t2::vi t3::un 4 (.bool t8::.bool t9::un 124 [])
def P7:aa:=.block 1 (.seq (.region [m 19 2,m 20 1,bb 21 .sub 19 20,m 10 21] [19,20,21]) (.seq (.seq (.region [m 22 10,ck 23 .leq 22 12] [22]) (.cond (.t 23) (.seq (.region [m 24 0,m 25 1,m 26 2,oI 27 (.call (.f 188) [.t 24,.t 25,.t 26] (.ke []))] [0,1,2,3,8,9,10,23,24,25,26,27]) (.ret)) (kl [23]))) (.seq (.seq (.region [m 28 3,ck 29 .eql 28 0] [28]) (.cond (.t 29) (.seq (.region [m 30 0,m 31 1,m 32 2,oI 33 (.call (.f 189) [.t 30,.t 31,.t 32] (.ke []))] [0,1,2,3,8,9,10,29,30,31,32,33]) (.ret)) (kl [29]))) (.seq (.seq (.region [m 34 8,no 35 34] [34]) (.cond (.t 35) (.seq (.region [m 36 0,m 37 1,m 38 2,oI 39 (.call (.f 190) [.t 36,.t 37,.t 38] (.ke []))] [35,36,37,38,39]) (.region [m 40 3,bc 41 .sub 40 1,m 3 41] [40,41])) (kl [35]))) (.seq (.region [m 43 0,m 44 1,m 45 2,oI 46 (.call (.f 191) [.t 43,.t 44,.t 45] (.ke [.one (.int .i64),.one (.int .i64)])),m 42 46,ex 47 42 0,ex 48 42 1,m 11 47,m 12 48] [42,43,44,45,46,47,48]) (.seq (.seq (.region [m 49 12,ck 50 .eql 49 2] [49]) (.cond (.t 50) (.seq (.region [m 51 0,m 52 1,m 53 2,oI 54 (.call (.f 192) [.t 51,.t 52,.t 53] (.ke []))] [12,50,51,52,53,54]) (.seq (.region [m 55 2,bc 56 .sub 55 1,m 57 11,m 58 1,bb 59 .sub 57 58,bb 60 .sub 56 59,m 11 60] [55,56,57,58,59,60]) (.region [mc 12 1] []))) (kl [50]))) (.seq (.seq (.region [m 61 8,m 62 61,.gL 62 true [qI 63 (.mv (.t 9))],oI 64 (.pick (.t 62) (.t 63) (.c (.bool false))),m 65 64,.gL 65 true [qI 66 (.mv (.t 12)),qI 67 (.cmp .eql .i64 (.t 66) (ci 1))],oI 68 (.pick (.t 65) (.t 67) (.c (.bool false)))] [12,61,62,63,64,65,66,67]) (.cond (.t 68) (.seq (.region [m 69 0,m 70 1,m 71 2,oI 72 (.call (.f 193) [.t 69,.t 70,.t 71] (.one (.one .bool)))] [68,69,70,71]) (.cond (.t 72) (.seq (kl [0,1,2,3,8,9,10,11,72]) .ret) (kl [72]))) (kl [68]))) (.seq (.seq (.region [m 73 1,ck 74 .gtr 73 0,m 75 74,.gL 75 true [qI 76 (.mv (.t 0)),qI 77 (.mv (.t 1)),qI 78 (.bin .sub .i64 (.t 77) (ci 1)),qI 79 (.eE 1 (.t 76) (.t 78)),qJ 80 (.load (.one (.int .i64)) (.t 79)),qI 81 (.mv (.t 0)),qI 82 (.mv (.t 11)),qI 83 (.eE 1 (.t 81) (.t 82)),qJ 84 (.load (.one (.int .i64)) (.t 83)),qI 85 (.call (.f 194) [.t 80,.t 84] (.one (.one .bool))),qI 86 (.not (.t 85))],oI 87 (.pick (.t 75) (.t 86) (.c (.bool false)))] [73,74,75,76,77,78,79,80,81,82,83,84,85,86]) (.cond (.t 87) (.seq (.region [m 88 0,m 89 1,m 90 2,m 91 11,oI 92 (.call (.f 195) [.t 88,.t 89,.t 90,.t 91] (.one (.one (.int .i64)))),m 13 92] [1,10,11,87,88,89,90,91,92]) (.seq (.region [m 93 13,m 1 93] [13,93]) (.exit 1))) (kl [8,9,87]))) (.seq (.region [m 95 0,m 96 1,m 97 2,m 98 11,oI 99 (.call (.f 196) [.t 95,.t 96,.t 97,.t 98] (.ke [.one (.int .i64),.one .bool])),m 94 99,ex 100 94 0,ex 101 94 1,m 14 100,m 15 101] [11,94,95,96,97,98,99,100,101]) (.seq (.region [m 102 15,m 9 102] [15,102]) (.seq (.region [m 103 14,m 104 1,bb 105 .sub 103 104,m 106 2,m 107 14,bb 108 .sub 106 107,m 16 105,m 17 108] [103,104,105,106,107,108]) (.seq (.region [m 109 10,bc 110 .quo 109 8,m 18 110] [10,109,110]) (.seq (.region [m 111 16,m 112 17,cm 113 .lss 111 112] [111,112]) (.cond (.t 113) (.seq (.region [m 114 16,m 115 18,cm 116 .geq 114 115,m 8 116] [16,17,18,113,114,115,116]) (.seq (.region [m 117 0,m 118 1,m 119 14,m 120 3,oI 121 (.call (.f 179) [.t 117,.t 118,.t 119,.t 120] (.ke []))] [1,117,118,119,120,121]) (.region [m 122 14,bc 123 .add 122 1,m 1 123] [14,122,123]))) (.seq (.region [m 124 17,m 125 18,cm 126 .geq 124 125,m 8 126] [16,17,18,113,124,125,126]) (.seq (.region [m 127 0,m 128 14,bc 129 .add 128 1,m 130 2,m 131 3,oI 132 (.call (.f 179) [.t 127,.t 129,.t 130,.t 131] (.ke []))] [2,127,128,129,130,131,132]) (.region [m 133 14,m 2 133] [14,133])))))))))))))))))
def ad3:aa:=.block 0 (.loop P7)
def aw3(cn:aa):aa:=.seq (.seq (.region [oI 8 (.mv (.c (.bool true)))] []) (.region [oI 9 (.mv (.c (.bool true)))] [])) cn
def aEY:aa:=aw3 ad3
def aw4(t0:Sl)(t1 t2 t3:Int):List Value:=t0.v::vi t1::vi t2::vi t3::un 130 []
def gD:aK:=⟨134,aEY,[]⟩
theorem C1:okF Tryz.prog 179 gD=true:=by kernel_rfl
def VI{R:Type}(C:Callee)(fl k:Nat)(kn:Tx R)(kr:au R):Tx R:=fun t0 t1 t2 t3 t8 t9 h=>if decide (av (t2-t1)≤12)=true then aj C fl fn.eG [vs t0,vi t1,vi t2] h fun v1 h2=>aE v1 fun l3=>aM l3 (kr h2) else if (t3==0)=true then aj C fl fn.E3 [vs t0,vi t1,vi t2] h fun v4 h5=>aE v4 fun l6=>aM l6 (kr h5) else if (!t8)=true then aj C fl fn.yS [vs t0,vi t1,vi t2] h fun v7 h8=>aE v7 fun l9=>aM l9 (aj C fl fn.nN [vs t0,vi t1,vi t2] h8 fun v10 iH=>aE v10 fun l12=>ar l12 fun v13 l14=>asInt .i64 v13 fun qD=>ar l14 fun v16 l17=>asInt .i64 v16 fun JT=>aM l17 (if (JT==2)=true then aj C fl fn.mB [vs t0,vi t1,vi t2] iH fun v19 Qn=>aE v19 fun l21=>aM l21 (if t8=true then if t9=true then if (1==1)=true then aj C fl fn.cV [vs t0,vi t1,vi t2] Qn fun v22 YH=>asBool v22 fun b24=>if b24=true then kr YH else if decide (t1>0)=true then idx 1 t0 (av (t1-1)) fun p25=>aF .i64 YH p25.block p25.off fun EI=>idx 1 t0 (av (av (t2-1)-(av (qD-t1)))) fun p27=>aF .i64 YH p27.block p27.off fun n28=>aj C fl fn.eC [vi EI,vi n28] YH fun v29 h30=>asBool v29 fun b31=>if (!b31)=true then aj C fl fn.aN [vs t0,vi t1,vi t2,vi (av (av (t2-1)-(av (qD-t1))))] h30 fun v32 h33=>asInt .i64 v32 fun n34=>kn t0 n34 t2 (av (t3-1)) t8 t9 h33 else aj C fl fn.aB [vs t0,vi t1,vi t2,vi (av (av (t2-1)-(av (qD-t1))))] h30 fun v35 Qj=>aE v35 fun l37=>ar l37 fun v38 l39=>asInt .i64 v38 fun n40=>ar l39 fun v41 l42=>asBool v41 fun b43=>aM l42 (if decide (av (n40-t1)<av (t2-n40))=true then aj C fl fn.ai [vs t0,vi t1,vi n40,vi (av (t3-1))] Qj fun v44 h45=>aE v44 fun l46=>aM l46 (kn t0 (av (n40+1)) t2 (av (t3-1)) (decide (av (n40-t1)≥av ((av (t2-t1)).tdiv 8))) b43 h45) else aj C fl fn.ai [vs t0,vi (av (n40+1)),vi t2,vi (av (t3-1))] Qj fun v47 h48=>aE v47 fun l49=>aM l49 (kn t0 t1 n40 (av (t3-1)) (decide (av (t2-n40)≥av ((av (t2-t1)).tdiv 8))) b43 h48)) else aj C fl fn.aB [vs t0,vi t1,vi t2,vi (av (av (t2-1)-(av (qD-t1))))] YH fun v50 h51=>aE v50 fun l52=>ar l52 fun v53 l54=>asInt .i64 v53 fun n55=>ar l54 fun v56 l57=>asBool v56 fun b58=>aM l57 (if decide (av (n55-t1)<av (t2-n55))=true then aj C fl fn.ai [vs t0,vi t1,vi n55,vi (av (t3-1))] h51 fun v59 h60=>aE v59 fun l61=>aM l61 (kn t0 (av (n55+1)) t2 (av (t3-1)) (decide (av (n55-t1)≥av ((av (t2-t1)).tdiv 8))) b58 h60) else aj C fl fn.ai [vs t0,vi (av (n55+1)),vi t2,vi (av (t3-1))] h51 fun v62 h63=>aE v62 fun l64=>aM l64 (kn t0 t1 n55 (av (t3-1)) (decide (av (t2-n55)≥av ((av (t2-t1)).tdiv 8))) b58 h63)) else if decide (t1>0)=true then idx 1 t0 (av (t1-1)) fun p65=>aF .i64 Qn p65.block p65.off fun n66=>idx 1 t0 (av (av (t2-1)-(av (qD-t1)))) fun p67=>aF .i64 Qn p67.block p67.off fun n68=>aj C fl fn.eC [vi n66,vi n68] Qn fun v69 h70=>asBool v69 fun b71=>if (!b71)=true then aj C fl fn.aN [vs t0,vi t1,vi t2,vi (av (av (t2-1)-(av (qD-t1))))] h70 fun v72 h73=>asInt .i64 v72 fun n74=>kn t0 n74 t2 (av (t3-1)) t8 t9 h73 else aj C fl fn.aB [vs t0,vi t1,vi t2,vi (av (av (t2-1)-(av (qD-t1))))] h70 fun v75 h76=>aE v75 fun l77=>ar l77 fun v78 l79=>asInt .i64 v78 fun n80=>ar l79 fun v81 l82=>asBool v81 fun b83=>aM l82 (if decide (av (n80-t1)<av (t2-n80))=true then aj C fl fn.ai [vs t0,vi t1,vi n80,vi (av (t3-1))] h76 fun v84 h85=>aE v84 fun l86=>aM l86 (kn t0 (av (n80+1)) t2 (av (t3-1)) (decide (av (n80-t1)≥av ((av (t2-t1)).tdiv 8))) b83 h85) else aj C fl fn.ai [vs t0,vi (av (n80+1)),vi t2,vi (av (t3-1))] h76 fun v87 h88=>aE v87 fun l89=>aM l89 (kn t0 t1 n80 (av (t3-1)) (decide (av (t2-n80)≥av ((av (t2-t1)).tdiv 8))) b83 h88)) else aj C fl fn.aB [vs t0,vi t1,vi t2,vi (av (av (t2-1)-(av (qD-t1))))] Qn fun v90 h91=>aE v90 fun l92=>ar l92 fun v93 l94=>asInt .i64 v93 fun n95=>ar l94 fun v96 l97=>asBool v96 fun b98=>aM l97 (if decide (av (n95-t1)<av (t2-n95))=true then aj C fl fn.ai [vs t0,vi t1,vi n95,vi (av (t3-1))] h91 fun v99 a1u=>aE v99 fun a8W=>aM a8W (kn t0 (av (n95+1)) t2 (av (t3-1)) (decide (av (n95-t1)≥av ((av (t2-t1)).tdiv 8))) b98 a1u) else aj C fl fn.ai [vs t0,vi (av (n95+1)),vi t2,vi (av (t3-1))] h91 fun aQW aSa=>aE aQW fun aQu=>aM aQu (kn t0 t1 n95 (av (t3-1)) (decide (av (t2-n95)≥av ((av (t2-t1)).tdiv 8))) b98 aSa)) else if decide (t1>0)=true then idx 1 t0 (av (t1-1)) fun aWI=>aF .i64 Qn aWI.block aWI.off fun a0i=>idx 1 t0 (av (av (t2-1)-(av (qD-t1)))) fun aWU=>aF .i64 Qn aWU.block aWU.off fun a2z=>aj C fl fn.eC [vi a0i,vi a2z] Qn fun aQy aVy=>asBool aQy fun a2I=>if (!a2I)=true then aj C fl fn.aN [vs t0,vi t1,vi t2,vi (av (av (t2-1)-(av (qD-t1))))] aVy fun aRy a8r=>asInt .i64 aRy fun a8J=>kn t0 a8J t2 (av (t3-1)) t8 t9 a8r else aj C fl fn.aB [vs t0,vi t1,vi t2,vi (av (av (t2-1)-(av (qD-t1))))] aVy fun aR5 aV0=>aE aR5 fun aZt=>ar aZt fun aRX aRV=>asInt .i64 aRX fun aas=>ar aRV fun a0o a6V=>asBool a0o fun aUf=>aM a6V (if decide (av (aas-t1)<av (t2-aas))=true then aj C fl fn.ai [vs t0,vi t1,vi aas,vi (av (t3-1))] aV0 fun a5o aZd=>aE a5o fun a0m=>aM a0m (kn t0 (av (aas+1)) t2 (av (t3-1)) (decide (av (aas-t1)≥av ((av (t2-t1)).tdiv 8))) aUf aZd) else aj C fl fn.ai [vs t0,vi (av (aas+1)),vi t2,vi (av (t3-1))] aV0 fun aGc V1=>aE aGc fun aQ1=>aM aQ1 (kn t0 t1 aas (av (t3-1)) (decide (av (t2-aas)≥av ((av (t2-t1)).tdiv 8))) aUf V1)) else aj C fl fn.aB [vs t0,vi t1,vi t2,vi (av (av (t2-1)-(av (qD-t1))))] Qn fun aRn aNo=>aE aRn fun a2T=>ar a2T fun aQX aQR=>asInt .i64 aQX fun ags=>ar aQR fun a4i a8Z=>asBool a4i fun aUv=>aM a8Z (if decide (av (ags-t1)<av (t2-ags))=true then aj C fl fn.ai [vs t0,vi t1,vi ags,vi (av (t3-1))] aNo fun a7y aRT=>aE a7y fun a3g=>aM a3g (kn t0 (av (ags+1)) t2 (av (t3-1)) (decide (av (ags-t1)≥av ((av (t2-t1)).tdiv 8))) aUv aRT) else aj C fl fn.ai [vs t0,vi (av (ags+1)),vi t2,vi (av (t3-1))] aNo fun aYS a5m=>aE aYS fun aYa=>aM aYa (kn t0 t1 ags (av (t3-1)) (decide (av (t2-ags)≥av ((av (t2-t1)).tdiv 8))) aUv a5m)) else if decide (t1>0)=true then idx 1 t0 (av (t1-1)) fun aVL=>aF .i64 Qn aVL.block aVL.off fun a7u=>idx 1 t0 (av (av (t2-1)-(av (qD-t1)))) fun aV9=>aF .i64 Qn aV9.block aV9.off fun a8q=>aj C fl fn.eC [vi a7u,vi a8q] Qn fun a4m aVC=>asBool a4m fun aQE=>if (!aQE)=true then aj C fl fn.aN [vs t0,vi t1,vi t2,vi (av (av (t2-1)-(av (qD-t1))))] aVC fun a9d a3O=>asInt .i64 a9d fun a8X=>kn t0 a8X t2 (av (t3-1)) t8 t9 a3O else aj C fl fn.aB [vs t0,vi t1,vi t2,vi (av (av (t2-1)-(av (qD-t1))))] aVC fun a51 aWt=>aE a51 fun a2s=>ar a2s fun a3n aQU=>asInt .i64 a3n fun aqi=>ar aQU fun aQ3 a31=>asBool aQ3 fun aNe=>aM a31 (if decide (av (aqi-t1)<av (t2-aqi))=true then aj C fl fn.ai [vs t0,vi t1,vi aqi,vi (av (t3-1))] aWt fun aZw aQP=>aE aZw fun aZn=>aM aZn (kn t0 (av (aqi+1)) t2 (av (t3-1)) (decide (av (aqi-t1)≥av ((av (t2-t1)).tdiv 8))) aNe aQP) else aj C fl fn.ai [vs t0,vi (av (aqi+1)),vi t2,vi (av (t3-1))] aWt fun aYq a8a=>aE aYq fun a0G=>aM a0G (kn t0 t1 aqi (av (t3-1)) (decide (av (t2-aqi)≥av ((av (t2-t1)).tdiv 8))) aNe a8a)) else aj C fl fn.aB [vs t0,vi t1,vi t2,vi (av (av (t2-1)-(av (qD-t1))))] Qn fun a8R aUD=>aE a8R fun a6a=>ar a6a fun a7Q a6D=>asInt .i64 a7Q fun aqk=>ar a6D fun a6Y a2x=>asBool a6Y fun aUo=>aM a2x (if decide (av (aqk-t1)<av (t2-aqk))=true then aj C fl fn.ai [vs t0,vi t1,vi aqk,vi (av (t3-1))] aUD fun a3c aRQ=>aE a3c fun a7T=>aM a7T (kn t0 (av (aqk+1)) t2 (av (t3-1)) (decide (av (aqk-t1)≥av ((av (t2-t1)).tdiv 8))) aUo aRQ) else aj C fl fn.ai [vs t0,vi (av (aqk+1)),vi t2,vi (av (t3-1))] aUD fun aYz a63=>aE aYz fun a3v=>aM a3v (kn t0 t1 aqk (av (t3-1)) (decide (av (t2-aqk)≥av ((av (t2-t1)).tdiv 8))) aUo a63))) else if t8=true then if t9=true then if (JT==1)=true then aj C fl fn.cV [vs t0,vi t1,vi t2] iH fun a5n aFU=>asBool a5n fun aQI=>if aQI=true then kr aFU else if decide (t1>0)=true then idx 1 t0 (av (t1-1)) fun aUO=>aF .i64 aFU aUO.block aUO.off fun aYT=>idx 1 t0 qD fun aWs=>aF .i64 aFU aWs.block aWs.off fun a5e=>aj C fl fn.eC [vi aYT,vi a5e] aFU fun aYg aWi=>asBool aYg fun a6F=>if (!a6F)=true then aj C fl fn.aN [vs t0,vi t1,vi t2,vi qD] aWi fun a2i aRk=>asInt .i64 a2i fun aYc=>kn t0 aYc t2 (av (t3-1)) t8 t9 aRk else aj C fl fn.aB [vs t0,vi t1,vi t2,vi qD] aWi fun a2Z aUK=>aE a2Z fun aZs=>ar aZs fun a5x a0J=>asInt .i64 a5x fun ap0=>ar a0J fun a50 a24=>asBool a50 fun aWe=>aM a24 (if decide (av (ap0-t1)<av (t2-ap0))=true then aj C fl fn.ai [vs t0,vi t1,vi ap0,vi (av (t3-1))] aUK fun a6N aYx=>aE a6N fun a4o=>aM a4o (kn t0 (av (ap0+1)) t2 (av (t3-1)) (decide (av (ap0-t1)≥av ((av (t2-t1)).tdiv 8))) aWe aYx) else aj C fl fn.ai [vs t0,vi (av (ap0+1)),vi t2,vi (av (t3-1))] aUK fun aYK a3A=>aE aYK fun a3a=>aM a3a (kn t0 t1 ap0 (av (t3-1)) (decide (av (t2-ap0)≥av ((av (t2-t1)).tdiv 8))) aWe a3A)) else aj C fl fn.aB [vs t0,vi t1,vi t2,vi qD] aFU fun a4Y aTK=>aE a4Y fun a1D=>ar a1D fun a1a a5F=>asInt .i64 a1a fun ap4=>ar a5F fun a2e a0x=>asBool a2e fun aU7=>aM a0x (if decide (av (ap4-t1)<av (t2-ap4))=true then aj C fl fn.ai [vs t0,vi t1,vi ap4,vi (av (t3-1))] aTK fun a2P a1m=>aE a2P fun a0O=>aM a0O (kn t0 (av (ap4+1)) t2 (av (t3-1)) (decide (av (ap4-t1)≥av ((av (t2-t1)).tdiv 8))) aU7 a1m) else aj C fl fn.ai [vs t0,vi (av (ap4+1)),vi t2,vi (av (t3-1))] aTK fun a19 a3K=>aE a19 fun a2D=>aM a2D (kn t0 t1 ap4 (av (t3-1)) (decide (av (t2-ap4)≥av ((av (t2-t1)).tdiv 8))) aU7 a3K)) else if decide (t1>0)=true then idx 1 t0 (av (t1-1)) fun aU2=>aF .i64 iH aU2.block aU2.off fun a8e=>idx 1 t0 qD fun aWE=>aF .i64 iH aWE.block aWE.off fun aZY=>aj C fl fn.eC [vi a8e,vi aZY] iH fun a6v aT4=>asBool a6v fun a0a=>if (!a0a)=true then aj C fl fn.aN [vs t0,vi t1,vi t2,vi qD] aT4 fun aY7 a6R=>asInt .i64 aY7 fun a4x=>kn t0 a4x t2 (av (t3-1)) t8 t9 a6R else aj C fl fn.aB [vs t0,vi t1,vi t2,vi qD] aT4 fun a7h aUi=>aE a7h fun aYd=>ar aYd fun aYE a5k=>asInt .i64 aYE fun apQ=>ar a5k fun a0g a14=>asBool a0g fun aU4=>aM a14 (if decide (av (apQ-t1)<av (t2-apQ))=true then aj C fl fn.ai [vs t0,vi t1,vi apQ,vi (av (t3-1))] aUi fun a46 a3h=>aE a46 fun a0C=>aM a0C (kn t0 (av (apQ+1)) t2 (av (t3-1)) (decide (av (apQ-t1)≥av ((av (t2-t1)).tdiv 8))) aU4 a3h) else aj C fl fn.ai [vs t0,vi (av (apQ+1)),vi t2,vi (av (t3-1))] aUi fun a3m a8B=>aE a3m fun aYk=>aM aYk (kn t0 t1 apQ (av (t3-1)) (decide (av (t2-apQ)≥av ((av (t2-t1)).tdiv 8))) aU4 a8B)) else aj C fl fn.aB [vs t0,vi t1,vi t2,vi qD] iH fun a0Q aWa=>aE a0Q fun aYh=>ar aYh fun a5u a0c=>asInt .i64 a5u fun aqu=>ar a0c fun a21 a5Q=>asBool a21 fun aVA=>aM a5Q (if decide (av (aqu-t1)<av (t2-aqu))=true then aj C fl fn.ai [vs t0,vi t1,vi aqu,vi (av (t3-1))] aWa fun a4y a5i=>aE a4y fun a3F=>aM a3F (kn t0 (av (aqu+1)) t2 (av (t3-1)) (decide (av (aqu-t1)≥av ((av (t2-t1)).tdiv 8))) aVA a5i) else aj C fl fn.ai [vs t0,vi (av (aqu+1)),vi t2,vi (av (t3-1))] aWa fun a6B a09=>aE a6B fun a7D=>aM a7D (kn t0 t1 aqu (av (t3-1)) (decide (av (t2-aqu)≥av ((av (t2-t1)).tdiv 8))) aVA a09)) else if decide (t1>0)=true then idx 1 t0 (av (t1-1)) fun aTx=>aF .i64 iH aTx.block aTx.off fun aZH=>idx 1 t0 qD fun aV6=>aF .i64 iH aV6.block aV6.off fun a6I=>aj C fl fn.eC [vi aZH,vi a6I] iH fun a88 aTJ=>asBool a88 fun a2a=>if (!a2a)=true then aj C fl fn.aN [vs t0,vi t1,vi t2,vi qD] aTJ fun a4I a6h=>asInt .i64 a4I fun a37=>kn t0 a37 t2 (av (t3-1)) t8 t9 a6h else aj C fl fn.aB [vs t0,vi t1,vi t2,vi qD] aTJ fun aY8 aWo=>aE aY8 fun aZS=>ar aZS fun a38 aYw=>asInt .i64 a38 fun ap8=>ar aYw fun a4A aY1=>asBool a4A fun aU1=>aM aY1 (if decide (av (ap8-t1)<av (t2-ap8))=true then aj C fl fn.ai [vs t0,vi t1,vi ap8,vi (av (t3-1))] aWo fun aZg aYy=>aE aZg fun a6P=>aM a6P (kn t0 (av (ap8+1)) t2 (av (t3-1)) (decide (av (ap8-t1)≥av ((av (t2-t1)).tdiv 8))) aU1 aYy) else aj C fl fn.ai [vs t0,vi (av (ap8+1)),vi t2,vi (av (t3-1))] aWo fun a2m a08=>aE a2m fun a25=>aM a25 (kn t0 t1 ap8 (av (t3-1)) (decide (av (t2-ap8)≥av ((av (t2-t1)).tdiv 8))) aU1 a08)) else aj C fl fn.aB [vs t0,vi t1,vi t2,vi qD] iH fun a2r aWv=>aE a2r fun a00=>ar a00 fun aZb aYR=>asInt .i64 aZb fun ap3=>ar aYR fun a4M a78=>asBool a4M fun aVh=>aM a78 (if decide (av (ap3-t1)<av (t2-ap3))=true then aj C fl fn.ai [vs t0,vi t1,vi ap3,vi (av (t3-1))] aWv fun a4t a01=>aE a4t fun a0r=>aM a0r (kn t0 (av (ap3+1)) t2 (av (t3-1)) (decide (av (ap3-t1)≥av ((av (t2-t1)).tdiv 8))) aVh a01) else aj C fl fn.ai [vs t0,vi (av (ap3+1)),vi t2,vi (av (t3-1))] aWv fun a04 a9f=>aE a04 fun a1O=>aM a1O (kn t0 t1 ap3 (av (t3-1)) (decide (av (t2-ap3)≥av ((av (t2-t1)).tdiv 8))) aVh a9f)) else if decide (t1>0)=true then idx 1 t0 (av (t1-1)) fun aUs=>aF .i64 iH aUs.block aUs.off fun a5S=>idx 1 t0 qD fun aWl=>aF .i64 iH aWl.block aWl.off fun a9b=>aj C fl fn.eC [vi a5S,vi a9b] iH fun a75 aUk=>asBool a75 fun a4s=>if (!a4s)=true then aj C fl fn.aN [vs t0,vi t1,vi t2,vi qD] aUk fun a2c a5g=>asInt .i64 a2c fun a3r=>kn t0 a3r t2 (av (t3-1)) t8 t9 a5g else aj C fl fn.aB [vs t0,vi t1,vi t2,vi qD] aUk fun a6Q aUt=>aE a6Q fun aYQ=>ar aYQ fun a1Q a1I=>asInt .i64 a1Q fun aqg=>ar a1I fun a5X a8u=>asBool a5X fun aUY=>aM a8u (if decide (av (aqg-t1)<av (t2-aqg))=true then aj C fl fn.ai [vs t0,vi t1,vi aqg,vi (av (t3-1))] aUt fun a2X a1t=>aE a2X fun a4c=>aM a4c (kn t0 (av (aqg+1)) t2 (av (t3-1)) (decide (av (aqg-t1)≥av ((av (t2-t1)).tdiv 8))) aUY a1t) else aj C fl fn.ai [vs t0,vi (av (aqg+1)),vi t2,vi (av (t3-1))] aUt fun a4S a1H=>aE a4S fun a3D=>aM a3D (kn t0 t1 aqg (av (t3-1)) (decide (av (t2-aqg)≥av ((av (t2-t1)).tdiv 8))) aUY a1H)) else aj C fl fn.aB [vs t0,vi t1,vi t2,vi qD] iH fun a3b aWq=>aE a3b fun aZi=>ar aZi fun a5T a0V=>asInt .i64 a5T fun aqx=>ar a0V fun a6J a0w=>asBool a6J fun aT1=>aM a0w (if decide (av (aqx-t1)<av (t2-aqx))=true then aj C fl fn.ai [vs t0,vi t1,vi aqx,vi (av (t3-1))] aWq fun a5b a1E=>aE a5b fun a8F=>aM a8F (kn t0 (av (aqx+1)) t2 (av (t3-1)) (decide (av (aqx-t1)≥av ((av (t2-t1)).tdiv 8))) aT1 a1E) else aj C fl fn.ai [vs t0,vi (av (aqx+1)),vi t2,vi (av (t3-1))] aWq fun a4O a6E=>aE a4O fun a0e=>aM a0e (kn t0 t1 aqx (av (t3-1)) (decide (av (t2-aqx)≥av ((av (t2-t1)).tdiv 8))) aT1 a6E)))) else aj C fl fn.nN [vs t0,vi t1,vi t2] h fun a72 TV=>aE a72 fun a6H=>ar a6H fun a52 a4p=>asInt .i64 a52 fun oA=>ar a4p fun a7W a4W=>asInt .i64 a7W fun aTw=>aM a4W (if (aTw==2)=true then aj C fl fn.mB [vs t0,vi t1,vi t2] TV fun aZM V0=>aE aZM fun a2Y=>aM a2Y (if t8=true then if t9=true then if (1==1)=true then aj C fl fn.cV [vs t0,vi t1,vi t2] V0 fun a3Z aF0=>asBool a3Z fun a4K=>if a4K=true then kr aF0 else if decide (t1>0)=true then idx 1 t0 (av (t1-1)) fun aVr=>aF .i64 aF0 aVr.block aVr.off fun a1X=>idx 1 t0 (av (av (t2-1)-(av (oA-t1)))) fun aVG=>aF .i64 aF0 aVG.block aVG.off fun a4n=>aj C fl fn.eC [vi a1X,vi a4n] aF0 fun a2t aTH=>asBool a2t fun aYv=>if (!aYv)=true then aj C fl fn.aN [vs t0,vi t1,vi t2,vi (av (av (t2-1)-(av (oA-t1))))] aTH fun aYZ a58=>asInt .i64 aYZ fun a2V=>kn t0 a2V t2 t3 t8 t9 a58 else aj C fl fn.aB [vs t0,vi t1,vi t2,vi (av (av (t2-1)-(av (oA-t1))))] aTH fun a6G aVo=>aE a6G fun a1z=>ar a1z fun a4u a3o=>asInt .i64 a4u fun aqj=>ar a3o fun a7R a60=>asBool a7R fun aWQ=>aM a60 (if decide (av (aqj-t1)<av (t2-aqj))=true then aj C fl fn.ai [vs t0,vi t1,vi aqj,vi t3] aVo fun a0T a8i=>aE a0T fun aZZ=>aM aZZ (kn t0 (av (aqj+1)) t2 t3 (decide (av (aqj-t1)≥av ((av (t2-t1)).tdiv 8))) aWQ a8i) else aj C fl fn.ai [vs t0,vi (av (aqj+1)),vi t2,vi t3] aVo fun a4E a7L=>aE a4E fun a2N=>aM a2N (kn t0 t1 aqj t3 (decide (av (t2-aqj)≥av ((av (t2-t1)).tdiv 8))) aWQ a7L)) else aj C fl fn.aB [vs t0,vi t1,vi t2,vi (av (av (t2-1)-(av (oA-t1))))] aF0 fun a65 aWD=>aE a65 fun a62=>ar a62 fun a29 a28=>asInt .i64 a29 fun aqt=>ar a28 fun a1c a0b=>asBool a1c fun aVY=>aM a0b (if decide (av (aqt-t1)<av (t2-aqt))=true then aj C fl fn.ai [vs t0,vi t1,vi aqt,vi t3] aWD fun a0h a7n=>aE a0h fun a2B=>aM a2B (kn t0 (av (aqt+1)) t2 t3 (decide (av (aqt-t1)≥av ((av (t2-t1)).tdiv 8))) aVY a7n) else aj C fl fn.ai [vs t0,vi (av (aqt+1)),vi t2,vi t3] aWD fun a3f aZI=>aE a3f fun a7r=>aM a7r (kn t0 t1 aqt t3 (decide (av (t2-aqt)≥av ((av (t2-t1)).tdiv 8))) aVY aZI)) else if decide (t1>0)=true then idx 1 t0 (av (t1-1)) fun aWL=>aF .i64 V0 aWL.block aWL.off fun aYX=>idx 1 t0 (av (av (t2-1)-(av (oA-t1)))) fun aUu=>aF .i64 V0 aUu.block aUu.off fun a7G=>aj C fl fn.eC [vi aYX,vi a7G] V0 fun a2K aT0=>asBool a2K fun a2C=>if (!a2C)=true then aj C fl fn.aN [vs t0,vi t1,vi t2,vi (av (av (t2-1)-(av (oA-t1))))] aT0 fun a8f a1W=>asInt .i64 a8f fun a1h=>kn t0 a1h t2 t3 t8 t9 a1W else aj C fl fn.aB [vs t0,vi t1,vi t2,vi (av (av (t2-1)-(av (oA-t1))))] aT0 fun aZv aVp=>aE aZv fun aYb=>ar aYb fun a5Z a4G=>asInt .i64 a5Z fun ap9=>ar a4G fun aYB a7P=>asBool aYB fun aWF=>aM a7P (if decide (av (ap9-t1)<av (t2-ap9))=true then aj C fl fn.ai [vs t0,vi t1,vi ap9,vi t3] aVp fun aZq a8y=>aE aZq fun a6f=>aM a6f (kn t0 (av (ap9+1)) t2 t3 (decide (av (ap9-t1)≥av ((av (t2-t1)).tdiv 8))) aWF a8y) else aj C fl fn.ai [vs t0,vi (av (ap9+1)),vi t2,vi t3] aVp fun a6j aZz=>aE a6j fun aYf=>aM aYf (kn t0 t1 ap9 t3 (decide (av (t2-ap9)≥av ((av (t2-t1)).tdiv 8))) aWF aZz)) else aj C fl fn.aB [vs t0,vi t1,vi t2,vi (av (av (t2-1)-(av (oA-t1))))] V0 fun a4H aVH=>aE a4H fun a35=>ar a35 fun a70 a6u=>asInt .i64 a70 fun aqv=>ar a6u fun a8m a7c=>asBool a8m fun aUm=>aM a7c (if decide (av (aqv-t1)<av (t2-aqv))=true then aj C fl fn.ai [vs t0,vi t1,vi aqv,vi t3] aVH fun a84 aZK=>aE a84 fun a7B=>aM a7B (kn t0 (av (aqv+1)) t2 t3 (decide (av (aqv-t1)≥av ((av (t2-t1)).tdiv 8))) aUm aZK) else aj C fl fn.ai [vs t0,vi (av (aqv+1)),vi t2,vi t3] aVH fun a2k a1g=>aE a2k fun a6z=>aM a6z (kn t0 t1 aqv t3 (decide (av (t2-aqv)≥av ((av (t2-t1)).tdiv 8))) aUm a1g)) else if decide (t1>0)=true then idx 1 t0 (av (t1-1)) fun aVT=>aF .i64 V0 aVT.block aVT.off fun a03=>idx 1 t0 (av (av (t2-1)-(av (oA-t1)))) fun aUG=>aF .i64 V0 aUG.block aUG.off fun a64=>aj C fl fn.eC [vi a03,vi a64] V0 fun a1v aVf=>asBool a1v fun a8H=>if (!a8H)=true then aj C fl fn.aN [vs t0,vi t1,vi t2,vi (av (av (t2-1)-(av (oA-t1))))] aVf fun a3Q a7b=>asInt .i64 a3Q fun a6m=>kn t0 a6m t2 t3 t8 t9 a7b else aj C fl fn.aB [vs t0,vi t1,vi t2,vi (av (av (t2-1)-(av (oA-t1))))] aVf fun a26 aT5=>aE a26 fun a2v=>ar a2v fun a1A aYJ=>asInt .i64 a1A fun ap7=>ar aYJ fun a1q a6b=>asBool a1q fun aVq=>aM a6b (if decide (av (ap7-t1)<av (t2-ap7))=true then aj C fl fn.ai [vs t0,vi t1,vi ap7,vi t3] aT5 fun a3w a5I=>aE a3w fun a9i=>aM a9i (kn t0 (av (ap7+1)) t2 t3 (decide (av (ap7-t1)≥av ((av (t2-t1)).tdiv 8))) aVq a5I) else aj C fl fn.ai [vs t0,vi (av (ap7+1)),vi t2,vi t3] aT5 fun a0q a3l=>aE a0q fun a4R=>aM a4R (kn t0 t1 ap7 t3 (decide (av (t2-ap7)≥av ((av (t2-t1)).tdiv 8))) aVq a3l)) else aj C fl fn.aB [vs t0,vi t1,vi t2,vi (av (av (t2-1)-(av (oA-t1))))] V0 fun a3e aV2=>aE a3e fun aYD=>ar aYD fun a6W a5q=>asInt .i64 a6W fun aqp=>ar a5q fun aZu a1B=>asBool aZu fun aWO=>aM a1B (if decide (av (aqp-t1)<av (t2-aqp))=true then aj C fl fn.ai [vs t0,vi t1,vi aqp,vi t3] aV2 fun a7d a5a=>aE a7d fun a1b=>aM a1b (kn t0 (av (aqp+1)) t2 t3 (decide (av (aqp-t1)≥av ((av (t2-t1)).tdiv 8))) aWO a5a) else aj C fl fn.ai [vs t0,vi (av (aqp+1)),vi t2,vi t3] aV2 fun aY6 a22=>aE aY6 fun aZX=>aM aZX (kn t0 t1 aqp t3 (decide (av (t2-aqp)≥av ((av (t2-t1)).tdiv 8))) aWO a22)) else if decide (t1>0)=true then idx 1 t0 (av (t1-1)) fun aUA=>aF .i64 V0 aUA.block aUA.off fun a16=>idx 1 t0 (av (av (t2-1)-(av (oA-t1)))) fun aVV=>aF .i64 V0 aVV.block aVV.off fun a71=>aj C fl fn.eC [vi a16,vi a71] V0 fun a7O aUp=>asBool a7O fun aYu=>if (!aYu)=true then aj C fl fn.aN [vs t0,vi t1,vi t2,vi (av (av (t2-1)-(av (oA-t1))))] aUp fun a4F aZc=>asInt .i64 a4F fun aYp=>kn t0 aYp t2 t3 t8 t9 aZc else aj C fl fn.aB [vs t0,vi t1,vi t2,vi (av (av (t2-1)-(av (oA-t1))))] aUp fun a30 aTG=>aE a30 fun a8T=>ar a8T fun a0W a1i=>asInt .i64 a0W fun aqf=>ar a1i fun a4N a68=>asBool a4N fun aVs=>aM a68 (if decide (av (aqf-t1)<av (t2-aqf))=true then aj C fl fn.ai [vs t0,vi t1,vi aqf,vi t3] aTG fun a39 a5r=>aE a39 fun a15=>aM a15 (kn t0 (av (aqf+1)) t2 t3 (decide (av (aqf-t1)≥av ((av (t2-t1)).tdiv 8))) aVs a5r) else aj C fl fn.ai [vs t0,vi (av (aqf+1)),vi t2,vi t3] aTG fun a45 a0v=>aE a45 fun a20=>aM a20 (kn t0 t1 aqf t3 (decide (av (t2-aqf)≥av ((av (t2-t1)).tdiv 8))) aVs a0v)) else aj C fl fn.aB [vs t0,vi t1,vi t2,vi (av (av (t2-1)-(av (oA-t1))))] V0 fun a8I aWT=>aE a8I fun a7A=>ar a7A fun a81 a0E=>asInt .i64 a81 fun apL=>ar a0E fun a0d a2H=>asBool a0d fun aUN=>aM a2H (if decide (av (apL-t1)<av (t2-apL))=true then aj C fl fn.ai [vs t0,vi t1,vi apL,vi t3] aWT fun a7q aZf=>aE a7q fun a8s=>aM a8s (kn t0 (av (apL+1)) t2 t3 (decide (av (apL-t1)≥av ((av (t2-t1)).tdiv 8))) aUN aZf) else aj C fl fn.ai [vs t0,vi (av (apL+1)),vi t2,vi t3] aWT fun a0t a2S=>aE a0t fun a87=>aM a87 (kn t0 t1 apL t3 (decide (av (t2-apL)≥av ((av (t2-t1)).tdiv 8))) aUN a2S))) else if t8=true then if t9=true then if (aTw==1)=true then aj C fl fn.cV [vs t0,vi t1,vi t2] TV fun a2l aFR=>asBool a2l fun a3G=>if a3G=true then kr aFR else if decide (t1>0)=true then idx 1 t0 (av (t1-1)) fun aUH=>aF .i64 aFR aUH.block aUH.off fun a6y=>idx 1 t0 oA fun aTW=>aF .i64 aFR aTW.block aTW.off fun aZO=>aj C fl fn.eC [vi a6y,vi aZO] aFR fun a7g aVF=>asBool a7g fun aYW=>if (!aYW)=true then aj C fl fn.aN [vs t0,vi t1,vi t2,vi oA] aVF fun a7l a2L=>asInt .i64 a7l fun aZ8=>kn t0 aZ8 t2 t3 t8 t9 a2L else aj C fl fn.aB [vs t0,vi t1,vi t2,vi oA] aVF fun a2G aTY=>aE a2G fun aZR=>ar aZR fun a02 a5C=>asInt .i64 a02 fun apP=>ar a5C fun a23 a3L=>asBool a23 fun aVu=>aM a3L (if decide (av (apP-t1)<av (t2-apP))=true then aj C fl fn.ai [vs t0,vi t1,vi apP,vi t3] aTY fun a8C a0k=>aE a8C fun a3S=>aM a3S (kn t0 (av (apP+1)) t2 t3 (decide (av (apP-t1)≥av ((av (t2-t1)).tdiv 8))) aVu a0k) else aj C fl fn.ai [vs t0,vi (av (apP+1)),vi t2,vi t3] aTY fun aYm a1S=>aE aYm fun a1p=>aM a1p (kn t0 t1 apP t3 (decide (av (t2-apP)≥av ((av (t2-t1)).tdiv 8))) aVu a1S)) else aj C fl fn.aB [vs t0,vi t1,vi t2,vi oA] aFR fun a0A aWG=>aE a0A fun a5h=>ar a5h fun a5W a5D=>asInt .i64 a5W fun apV=>ar a5D fun aZ3 a36=>asBool aZ3 fun aVb=>aM a36 (if decide (av (apV-t1)<av (t2-apV))=true then aj C fl fn.ai [vs t0,vi t1,vi apV,vi t3] aWG fun a3y a1d=>aE a3y fun a6k=>aM a6k (kn t0 (av (apV+1)) t2 t3 (decide (av (apV-t1)≥av ((av (t2-t1)).tdiv 8))) aVb a1d) else aj C fl fn.ai [vs t0,vi (av (apV+1)),vi t2,vi t3] aWG fun a7a a1M=>aE a7a fun a3W=>aM a3W (kn t0 t1 apV t3 (decide (av (t2-apV)≥av ((av (t2-t1)).tdiv 8))) aVb a1M)) else if decide (t1>0)=true then idx 1 t0 (av (t1-1)) fun aT2=>aF .i64 TV aT2.block aT2.off fun a5R=>idx 1 t0 oA fun aUE=>aF .i64 TV aUE.block aUE.off fun a3p=>aj C fl fn.eC [vi a5R,vi a3p] TV fun a6s aVR=>asBool a6s fun a6q=>if (!a6q)=true then aj C fl fn.aN [vs t0,vi t1,vi t2,vi oA] aVR fun a7o a6C=>asInt .i64 a7o fun a0j=>kn t0 a0j t2 t3 t8 t9 a6C else aj C fl fn.aB [vs t0,vi t1,vi t2,vi oA] aVR fun a1K aUQ=>aE a1K fun a1P=>ar a1P fun a6Z a0p=>asInt .i64 a6Z fun apJ=>ar a0p fun a2u a3t=>asBool a2u fun aV4=>aM a3t (if decide (av (apJ-t1)<av (t2-apJ))=true then aj C fl fn.ai [vs t0,vi t1,vi apJ,vi t3] aUQ fun a13 a5H=>aE a13 fun a3C=>aM a3C (kn t0 (av (apJ+1)) t2 t3 (decide (av (apJ-t1)≥av ((av (t2-t1)).tdiv 8))) aV4 a5H) else aj C fl fn.ai [vs t0,vi (av (apJ+1)),vi t2,vi t3] aUQ fun aYn a5J=>aE aYn fun aZN=>aM aZN (kn t0 t1 apJ t3 (decide (av (t2-apJ)≥av ((av (t2-t1)).tdiv 8))) aV4 a5J)) else aj C fl fn.aB [vs t0,vi t1,vi t2,vi oA] TV fun a5P aWN=>aE a5P fun a4B=>ar a4B fun a1f a8V=>asInt .i64 a1f fun aqd=>ar a8V fun a77 a1G=>asBool a77 fun aVD=>aM a1G (if decide (av (aqd-t1)<av (t2-aqd))=true then aj C fl fn.ai [vs t0,vi t1,vi aqd,vi t3] aWN fun a2n aZ9=>aE a2n fun a5O=>aM a5O (kn t0 (av (aqd+1)) t2 t3 (decide (av (aqd-t1)≥av ((av (t2-t1)).tdiv 8))) aVD aZ9) else aj C fl fn.ai [vs t0,vi (av (aqd+1)),vi t2,vi t3] aWN fun a2Q a2h=>aE a2Q fun a74=>aM a74 (kn t0 t1 aqd t3 (decide (av (t2-aqd)≥av ((av (t2-t1)).tdiv 8))) aVD a2h)) else if decide (t1>0)=true then idx 1 t0 (av (t1-1)) fun aUx=>aF .i64 TV aUx.block aUx.off fun a1L=>idx 1 t0 oA fun aVd=>aF .i64 TV aVd.block aVd.off fun a8n=>aj C fl fn.eC [vi a1L,vi a8n] TV fun a3J aWB=>asBool a3J fun a5U=>if (!a5U)=true then aj C fl fn.aN [vs t0,vi t1,vi t2,vi oA] aWB fun a3N a6t=>asInt .i64 a3N fun a2p=>kn t0 a2p t2 t3 t8 t9 a6t else aj C fl fn.aB [vs t0,vi t1,vi t2,vi oA] aWB fun a0Z aVn=>aE a0Z fun a8N=>ar a8N fun a4r a6w=>asInt .i64 a4r fun aqs=>ar a6w fun a6S a7m=>asBool a6S fun aU0=>aM a7m (if decide (av (aqs-t1)<av (t2-aqs))=true then aj C fl fn.ai [vs t0,vi t1,vi aqs,vi t3] aVn fun a1n aX8=>aE a1n fun a9e=>aM a9e (kn t0 (av (aqs+1)) t2 t3 (decide (av (aqs-t1)≥av ((av (t2-t1)).tdiv 8))) aU0 aX8) else aj C fl fn.ai [vs t0,vi (av (aqs+1)),vi t2,vi t3] aVn fun a7w a7F=>aE a7w fun a4Q=>aM a4Q (kn t0 t1 aqs t3 (decide (av (t2-aqs)≥av ((av (t2-t1)).tdiv 8))) aU0 a7F)) else aj C fl fn.aB [vs t0,vi t1,vi t2,vi oA] TV fun a2f aWd=>aE a2f fun a3P=>ar a3P fun a4e a5f=>asInt .i64 a4e fun apS=>ar a5f fun aYI a0X=>asBool aYI fun aWj=>aM a0X (if decide (av (apS-t1)<av (t2-apS))=true then aj C fl fn.ai [vs t0,vi t1,vi apS,vi t3] aWd fun a6e aYY=>aE a6e fun a5y=>aM a5y (kn t0 (av (apS+1)) t2 t3 (decide (av (apS-t1)≥av ((av (t2-t1)).tdiv 8))) aWj aYY) else aj C fl fn.ai [vs t0,vi (av (apS+1)),vi t2,vi t3] aWd fun a6g aZj=>aE a6g fun a1w=>aM a1w (kn t0 t1 apS t3 (decide (av (t2-apS)≥av ((av (t2-t1)).tdiv 8))) aWj aZj)) else if decide (t1>0)=true then idx 1 t0 (av (t1-1)) fun aVm=>aF .i64 TV aVm.block aVm.off fun aYF=>idx 1 t0 oA fun aTF=>aF .i64 TV aTF.block aTF.off fun a8A=>aj C fl fn.eC [vi aYF,vi a8A] TV fun a2U aTM=>asBool a2U fun aZJ=>if (!aZJ)=true then aj C fl fn.aN [vs t0,vi t1,vi t2,vi oA] aTM fun aZT a0y=>asInt .i64 aZT fun aZ2=>kn t0 aZ2 t2 t3 t8 t9 a0y else aj C fl fn.aB [vs t0,vi t1,vi t2,vi oA] aTM fun a0I aT8=>aE a0I fun a3X=>ar a3X fun a0L a8E=>asInt .i64 a0L fun aqm=>ar a8E fun a8d a42=>asBool a8d fun aVO=>aM a42 (if decide (av (aqm-t1)<av (t2-aqm))=true then aj C fl fn.ai [vs t0,vi t1,vi aqm,vi t3] aT8 fun a1r a5L=>aE a1r fun a6x=>aM a6x (kn t0 (av (aqm+1)) t2 t3 (decide (av (aqm-t1)≥av ((av (t2-t1)).tdiv 8))) aVO a5L) else aj C fl fn.ai [vs t0,vi (av (aqm+1)),vi t2,vi t3] aT8 fun a1T a47=>aE a1T fun a6M=>aM a6M (kn t0 t1 aqm t3 (decide (av (t2-aqm)≥av ((av (t2-t1)).tdiv 8))) aVO a47)) else aj C fl fn.aB [vs t0,vi t1,vi t2,vi oA] TV fun a1Y aTX=>aE a1Y fun aZa=>ar aZa fun a7N a4z=>asInt .i64 a7N fun aqy=>ar a4z fun a7I aYA=>asBool a7I fun aWC=>aM aYA (if decide (av (aqy-t1)<av (t2-aqy))=true then aj C fl fn.ai [vs t0,vi t1,vi aqy,vi t3] aTX fun a8p a3k=>aE a8p fun a8g=>aM a8g (kn t0 (av (aqy+1)) t2 t3 (decide (av (aqy-t1)≥av ((av (t2-t1)).tdiv 8))) aWC a3k) else aj C fl fn.ai [vs t0,vi (av (aqy+1)),vi t2,vi t3] aTX fun a3j a5M=>aE a3j fun a0l=>aM a0l (kn t0 t1 aqy t3 (decide (av (t2-aqy)≥av ((av (t2-t1)).tdiv 8))) aWC a5M)))
theorem aoX:(cp Ty (ce C fl k P7 K))=VI C fl k (cp Ty (K .normal)) (cp Tw (K .ret)):=by kernel_rfl
def VJ(kr:au R):Nat→Tx R
 |0=>fun _ _ _ _ _ _ _=>none
 |m+1=>VI C fl k (VJ kr m) kr
theorem Yn:∀m,(cp Ty (aQ m (aW C fl k P7 0 K)))=VJ C fl k (cp Tw (K .ret)) m
 |0=>by kernel_rfl
 |m+1=>gu (aoX C fl k _) (ag (fun L=>VI C fl k L _) (Yn m))
def aw5(kr:au R):Tx R:=VJ C fl k kr k
theorem azg:(cp Ty (ce C fl k ad3 K))=aw5 C fl k (cp Tw (K .ret)):=gv (Yn C fl k K)
def arW{R:Type}(C:Callee)(fl k:Nat)(kx:Tx R)(kr:au R):aZ R:=fun t0 t1 t2 t3 h=>kx t0 t1 t2 t3 true true h
def aOI(kr:au R):aZ R:=arW C fl k (aw5 C fl k kr) kr
theorem aMl(cn:aa):(cp aw4 (ce C fl k (aw3 cn) K))=arW C fl k (cp Ty (ce C fl k cn K)) (cp Tw (K .ret)):=by kernel_rfl
theorem aMm:(cp aw4 (ce C fl k aEY K))=aOI C fl k (cp Tw (K .ret)):=(aMl C fl k K ad3).trans (ag (fun L0=>arW C fl k L0 _) (azg C fl k K))
def ai(p0:Sl)(p1 p2 p3:Int)(h:AH):Option (Value×AH):=aOI C fl k (fun q=>some (.tuple ⟨[]⟩,q)) p0 p1 p2 p3 h
theorem BI(p0:Sl)(p1 p2 p3:Int)(h):aV C fl k gD [vs p0,vi p1,vi p2,vi p3] h=ai C fl k p0 p1 p2 p3 h:=QS (aMm C fl k (aG _)) p0 p1 p2 p3 (by kernel_rfl) (by kernel_rfl)
def aMn(t2:Int):List Value:=un 2 (vi t2::un 5 [])
def aEZ:aa:=.seq (.region [mc 2 0] [2]) (.seq (.cond (.c (.bool false)) (.seq (.region [m 3 0,oI 4 (.conv .u64 .u32 (.t 3)),oI 5 (.call (.f 197) [.t 4] (.one (.one (.int .i64)))),m 2 5] [0,3,4,5]) (.ret)) (.skip)) (.seq (.region [m 6 0,oI 7 (.call (.f 198) [.t 6] (.one (.one (.int .i64)))),m 2 7] [0,6,7]) (.ret)))
def aMo(t0:Int):List Value:=.int .u64 t0::un 7 []
def oU:aK:=⟨8,aEZ,[.tmp 2]⟩
theorem VK:okF Tryz.prog 180 oU=true:=by kernel_rfl
def aOJ{R:Type}(C:Callee)(fl k:Nat)(kr:ah R):ah R:=fun t0 h=>aj C fl fn.oH [.int .u64 t0] h fun v1 h2=>asInt .i64 v1 fun n3=>kr n3 h2
theorem aMp:(cp aMo (ce C fl k aEZ K))=aOJ C fl k (cp aMn (K .ret)):=by kernel_rfl
def vB(p0:Int)(h:AH):Option (Value×AH):=aOJ C fl k (fun y2 q=>some (vi y2,q)) p0 h
theorem Tz(p0:Int)(h):aV C fl k oU [.int .u64 p0] h=vB C fl k p0 h:=IU (aMp C fl k (aG _)) p0 (by kernel_rfl) (by kernel_rfl)
def aMq(t2:Bool):List Value:=un 2 (.bool t2::un 2 [])
def aE0:aa:=.seq (.region [oI 2 (.mv (.c (.bool false)))] [2]) (.seq (.region [m 3 0,ck 4 .neq 3 0,m 2 4] [0,3,4]) (.ret))
def aMr(t0:Int):List Value:=vi t0::un 4 []
def gE:aK:=⟨5,aE0,[.tmp 2]⟩
theorem C2:okF Tryz.prog 185 gE=true:=by kernel_rfl
def aOK{R:Type}(C:Callee)(fl k:Nat)(kr:aC R):ah R:=fun t0 h=>kr (t0 !=0) h
theorem aMs:(cp aMr (ce C fl k aE0 K))=aOK C fl k (cp aMq (K .ret)):=by kernel_rfl
def iw(p0:Int)(h:AH):Option (Value×AH):=aOK C fl k (fun y2 q=>some (.bool y2,q)) p0 h
theorem BJ(p0:Int)(h):aV C fl k gE [vi p0] h=iw C fl k p0 h:=IU (aMs C fl k (aG _)) p0 (by kernel_rfl) (by kernel_rfl)
def aMt(t2:Sl):List Value:=un 2 (t2.v::un 2 [])
def aE1:aa:=.seq (.region [oI 2 (.mv (.c (.slice none 0 0)))] [2]) (.seq (.region [m 3 0,oI 4 (.call (.f 201) [.c (.slice none 0 0),.t 3] (.one (.one .slice))),m 2 4] [0,3,4]) (.ret))
def aMu(t0:Value):List Value:=t0::un 4 []
def nJ:aK:=⟨5,aE1,[.tmp 2]⟩
theorem TA:okF Tryz.prog 186 nJ=true:=by kernel_rfl
def aOL{R:Type}(C:Callee)(fl k:Nat)(kr:ab R):Tt R:=fun t0 h=>aj C fl fn.m8 [.slice none 0 0,t0] h fun v1 h2=>aX v1 fun s3=>kr s3 h2
theorem aMv:(cp aMu (ce C fl k aE1 K))=aOL C fl k (cp aMt (K .ret)):=by kernel_rfl
def qS(p0:Value)(h:AH):Option (Value×AH):=aOL C fl k (fun y2 q=>some (vs y2,q)) p0 h
theorem P8(p0:Value)(h):aV C fl k nJ [p0] h=qS C fl k p0 h:=IU (aMv C fl k (aG _)) p0 (by kernel_rfl) (by kernel_rfl)
def zC:List Value:=un 49 []
def fy(t0:Sl)(t1 t2 t6:Int):List Value:=t0.v::vi t1::vi t2::un 3 (vi t6::un 42 [])
def sM:aa:=.region [m 13 6,bc 14 .add 13 1,m 6 14] [13,14]
def TB(t0:Sl)(t1 t2 t6 t7:Int):List Value:=t0.v::vi t1::vi t2::un 3 (vi t6::vi t7::un 41 [])
def pQ:aa:=.seq (.region [m 16 7,m 17 1,cm 18 .gtr 16 17,m 19 18,.gL 19 true [qI 20 (.mv (.t 0)),qI 21 (.mv (.t 7)),qI 22 (.eE 1 (.t 20) (.t 21)),qJ 23 (.load (.one (.int .i64)) (.t 22)),qI 24 (.mv (.t 0)),qI 25 (.mv (.t 7)),qI 26 (.bin .sub .i64 (.t 25) (ci 1)),qI 27 (.eE 1 (.t 24) (.t 26)),qJ 28 (.load (.one (.int .i64)) (.t 27)),qI 29 (.call (.f 194) [.t 23,.t 28] (.one (.one .bool)))],oI 30 (.pick (.t 19) (.t 29) (.c (.bool false)))] [16,17,18,19,20,21,22,23,24,25,26,27,28,29]) (.seq (.cond (.t 30) (kl [30]) (.seq (kl [7,30]) (.exit 2))) (.seq (.block 3 (.region [m 33 0,m 34 7,m 35 0,m 36 7,bc 37 .sub 36 1,m 38 0,m 39 7,bc 40 .sub 39 1,ia 41 1 38 40,lj 42 41,m 43 0,m 44 7,ia 45 1 43 44,lj 46 45,ia 47 1 33 34,sI 1 47 42,ia 48 1 35 37,sI 1 48 46] [33,34,35,36,37,38,39,40,41,42,43,44,45,46,47,48])) (.region [m 31 7,bc 32 .sub 31 1,m 7 32] [31,32])))
def vm:aa:=.block 2 (.loop pQ)
def HN(cn:aa):aa:=.seq (.region [m 15 6,m 7 15] [15]) cn
def Bf:aa:=HN vm
def MF(cn fJ:aa):aa:=.seq (.block 1 fJ) cn
def Gz:aa:=MF sM Bf
def Yo(cn:aa):aa:=.seq (.seq (.region [m 10 6,m 11 2,cm 12 .lss 10 11] [10,11]) (.cond (.t 12) (kl [12]) (.seq (kl [0,1,2,6,12]) (.exit 0)))) cn
def P9:aa:=Yo Gz
def ad4:aa:=.block 0 (.loop P9)
def aw6(cn:aa):aa:=.seq (.region [m 8 1,bc 9 .add 8 1,m 6 9] [8,9]) cn
def aE2:aa:=aw6 ad4
abbrev aw7(R:Type):=Sl→Int→Int→AH→Option R
def aw8(t0:Sl)(t1 t2:Int):List Value:=t0.v::vi t1::vi t2::un 46 []
def dQ:aK:=⟨49,aE2,[]⟩
theorem vo:okF Tryz.prog 188 dQ=true:=by kernel_rfl
def C3{R:Type}(C:Callee)(fl k:Nat)(kn:aZ R)(e0:au R):aZ R:=fun t0 t1 t2 t6 h=>kn t0 t1 t2 (av (t6+1)) h
theorem HO:(cp fy (ce C fl k sM K))=C3 C fl k (cp fy (K .normal)) (cp zC (K (.exit 0))):=by kernel_rfl
def sN{R:Type}(C:Callee)(fl k:Nat)(kn:rP R)(e2:aZ R):rP R:=fun t0 t1 t2 t6 t7 h=>if decide (t7>t1)=true then idx 1 t0 t7 fun p1=>aF .i64 h p1.block p1.off fun n2=>idx 1 t0 (av (t7-1)) fun p3=>aF .i64 h p3.block p3.off fun n4=>aj C fl fn.eC [vi n2,vi n4] h fun v5 h6=>asBool v5 fun b7=>if b7=true then idx 1 t0 (av (t7-1)) fun p8=>aF .i64 h6 p8.block p8.off fun n9=>idx 1 t0 t7 fun Qo=>aF .i64 h6 Qo.block Qo.off fun xA=>idx 1 t0 t7 fun MR=>st fl h6 MR [vi n9] fun qB=>idx 1 t0 (av (t7-1)) fun p14=>st fl qB p14 [vi xA] fun nX=>kn t0 t1 t2 t6 (av (t7-1)) nX else e2 t0 t1 t2 t6 h6 else e2 t0 t1 t2 t6 h
theorem L7:(cp TB (ce C fl k pQ K))=sN C fl k (cp TB (K .normal)) (cp fy (K (.exit 2))):=by kernel_rfl
def sO(kn:aZ R):Nat→rP R
 |0=>fun _ _ _ _ _ _=>none
 |m+1=>sN C fl k (sO kn m) kn
theorem yE:∀m,(cp TB (aQ m (aW C fl k pQ 2 K)))=sO C fl k (cp fy (K .normal)) m
 |0=>by kernel_rfl
 |m+1=>gu (L7 C fl k _) (ag (fun L=>sN C fl k L _) (yE m))
def HP(kn:aZ R):rP R:=sO C fl k kn k
theorem TC:(cp TB (ce C fl k vm K))=HP C fl k (cp fy (K .normal)):=gv (yE C fl k K)
def Bg{R:Type}(C:Callee)(fl k:Nat)(kx:rP R)(kn:aZ R):aZ R:=fun t0 t1 t2 t6 h=>kx t0 t1 t2 t6 t6 h
def C4(kn:aZ R):aZ R:=Bg C fl k (HP C fl k kn) kn
theorem aaa(cn:aa):(cp fy (ce C fl k (HN cn) K))=Bg C fl k (cp TB (ce C fl k cn K)) (cp fy (K .normal)):=by kernel_rfl
theorem aab:(cp fy (ce C fl k Bf K))=C4 C fl k (cp fy (K .normal)):=(aaa C fl k K vm).trans (ag (fun L0=>Bg C fl k L0 _) (TC C fl k K))
def GA{R:Type}(C:Callee)(fl k:Nat)(kx:aZ R)(u0:aZ R)(kn:aZ R)(e0:au R):aZ R:=fun t0 t1 t2 t6 h=>u0 t0 t1 t2 t6 h
def Yp(kn:aZ R)(e0:au R):aZ R:=GA C fl k (C3 C fl k kn e0) (C4 C fl k (C3 C fl k kn e0)) kn e0
theorem afU(cn fJ:aa):(cp fy (ce C fl k (MF cn fJ) K))=GA C fl k (cp fy (ce C fl k cn K)) (cp fy (ce C fl k fJ (iK 1 (bw C fl k cn K)))) (cp fy (K .normal)) (cp zC (K (.exit 0))):=by kernel_rfl
theorem afV:(cp fy (ce C fl k Gz K))=Yp C fl k (cp fy (K .normal)) (cp zC (K (.exit 0))):=(afU C fl k K sM Bf).trans (gG (fun L0 L1=>GA C fl k L0 L1 _ _) (HO C fl k K) ((aab C fl k (iK 1 (bw C fl k sM K))).trans (ag (fun L0=>C4 C fl k L0) (bn1 (HO C fl k K)))))
def Qa{R:Type}(C:Callee)(fl k:Nat)(kx:aZ R)(kn:aZ R)(e0:au R):aZ R:=fun t0 t1 t2 t6 h=>if decide (t6<t2)=true then kx t0 t1 t2 t6 h else e0 h
def VL(kn:aZ R)(e0:au R):aZ R:=Qa C fl k (Yp C fl k kn e0) kn e0
theorem aoY(cn:aa):(cp fy (ce C fl k (Yo cn) K))=Qa C fl k (cp fy (ce C fl k cn K)) (cp fy (K .normal)) (cp zC (K (.exit 0))):=by kernel_rfl
theorem aoZ:(cp fy (ce C fl k P9 K))=VL C fl k (cp fy (K .normal)) (cp zC (K (.exit 0))):=(aoY C fl k K Gz).trans (ag (fun L0=>Qa C fl k L0 _ _) (afV C fl k K))
def VM(kn:au R):Nat→aZ R
 |0=>fun _ _ _ _ _=>none
 |m+1=>VL C fl k (VM kn m) kn
theorem Yq:∀m,(cp fy (aQ m (aW C fl k P9 0 K)))=VM C fl k (cp zC (K .normal)) m
 |0=>by kernel_rfl
 |m+1=>gu (aoZ C fl k _) (ag (fun L=>VL C fl k L _) (Yq m))
def aw9(kn:au R):aZ R:=VM C fl k kn k
theorem azh:(cp fy (ce C fl k ad4 K))=aw9 C fl k (cp zC (K .normal)):=gv (Yq C fl k K)
def arX{R:Type}(C:Callee)(fl k:Nat)(kx:aZ R)(kn:au R):aw7 R:=fun t0 t1 t2 h=>kx t0 t1 t2 (av (t1+1)) h
def aOM(kn:au R):aw7 R:=arX C fl k (aw9 C fl k kn) kn
theorem aMw(cn:aa):(cp aw8 (ce C fl k (aw6 cn) K))=arX C fl k (cp fy (ce C fl k cn K)) (cp zC (K .normal)):=by kernel_rfl
theorem aMx:(cp aw8 (ce C fl k aE2 K))=aOM C fl k (cp zC (K .normal)):=(aMw C fl k K ad4).trans (ag (fun L0=>arX C fl k L0 _) (azh C fl k K))
def eG(p0:Sl)(p1 p2:Int)(h:AH):Option (Value×AH):=aOM C fl k (fun q=>some (.tuple ⟨[]⟩,q)) p0 p1 p2 h
theorem sY(p0:Sl)(p1 p2:Int)(h):aV C fl k dQ [vs p0,vi p1,vi p2] h=eG C fl k p0 p1 p2 h:=tG (aMx C fl k (aG _)) p0 p1 p2 (by kernel_rfl) (by kernel_rfl)
def aMy(t4:Bool):List Value:=un 4 (.bool t4::un 12 [])
def aE3:aa:=.seq (.region [oI 4 (.mv (.c (.bool false)))] [4]) (.seq (.region [m 5 0,oI 6 (.call (.f 151) [.t 5] (.one (.one .bool))),m 7 6,.gL 7 true [qI 8 (.mv (.t 1)),qI 9 (.call (.f 151) [.t 8] (.one (.one .bool))),qI 10 (.not (.t 9))],oI 11 (.pick (.t 7) (.t 10) (.c (.bool false))),m 12 11,.gL 12 false [qI 13 (.mv (.t 0)),qI 14 (.mv (.t 1)),qI 15 (.cmp .lss .i64 (.t 13) (.t 14))],oI 16 (.pick (.t 12) (.c (.bool true)) (.t 15)),m 4 16] [0,1,5,6,7,8,9,10,11,12,13,14,15,16]) (.ret))
def aMz(t0 t1:Int):List Value:=vi t0::vi t1::un 15 []
def GB:aK:=⟨17,aE3,[.tmp 4]⟩
theorem ao0:okF Tryz.prog 194 GB=true:=by kernel_rfl
def aON{R:Type}(C:Callee)(fl k:Nat)(kr:aC R):cL R:=fun t0 t1 h=>aj C fl fn.Ds [vi t0] h fun v1 h2=>asBool v1 fun b3=>if b3=true then aj C fl fn.Ds [vi t1] h2 fun v4 h5=>asBool v4 fun b6=>if (!b6)=false then kr (decide (t0<t1)) h5 else kr true h5 else kr (decide (t0<t1)) h2
theorem aMA:(cp aMz (ce C fl k aE3 K))=aON C fl k (cp aMy (K .ret)):=by kernel_rfl
def eC(p0 p1:Int)(h:AH):Option (Value×AH):=aON C fl k (fun y4 q=>some (.bool y4,q)) p0 p1 h
theorem akl(p0 p1:Int)(h):aV C fl k GB [vi p0,vi p1] h=eC C fl k p0 p1 h:=tF (aMA C fl k (aG _)) p0 p1 (by kernel_rfl) (by kernel_rfl)
def GC(t2:Int):List Value:=un 2 (vi t2::un 22 [])
def GD:aa:=.seq (.region [m 19 2,m 20 0,oI 21 (.conv .u64 .u8 (.t 20)),oI 22 (.aam .u8 aA1 (.t 21)),oI 23 (.conv .u8 .i64 (.t 22)),bb 24 .add 19 23,m 2 24] [0,19,20,21,22,23,24]) (.ret)
def Ct(t0 t2:Int):List Value:=.int .u64 t0::un 1 (vi t2::un 22 [])
def Yr(cn:aa):aa:=.seq (.seq (.region [m 13 0,oI 14 (.cmp .geq .u64 (.t 13) (.c (.int .u64 256)))] [13]) (.cond (.t 14) (.seq (.region [m 15 0,oI 16 (.sh false .u64 .u64 (.t 15) (.c (.int .u64 8))),m 0 16] [14,15,16]) (.region [m 17 2,bc 18 .add 17 8,m 2 18] [17,18])) (kl [14]))) cn
def Qb:aa:=Yr GD
def ahc(cn:aa):aa:=.seq (.seq (.region [m 7 0,oI 8 (.cmp .geq .u64 (.t 7) (.c (.int .u64 65536)))] [7]) (.cond (.t 8) (.seq (.region [m 9 0,oI 10 (.sh false .u64 .u64 (.t 9) (.c (.int .u64 16))),m 0 10] [8,9,10]) (.region [m 11 2,bc 12 .add 11 16,m 2 12] [11,12])) (kl [8]))) cn
def ad5:aa:=ahc Qb
def axa(cn:aa):aa:=.seq (.seq (.region [mc 2 0] []) (.seq (.region [m 3 0,oI 4 (.cmp .geq .u64 (.t 3) (.c (.int .u64 4294967296)))] [3]) (.cond (.t 4) (.seq (.region [m 5 0,oI 6 (.sh false .u64 .u64 (.t 5) (.c (.int .u64 32))),m 0 6] [2,4,5,6]) (.region [mc 2 32] [])) (kl [4])))) cn
def aE4:aa:=axa ad5
def axb(t0:Int):List Value:=.int .u64 t0::un 24 []
def lX:aK:=⟨25,aE4,[.tmp 2]⟩
theorem Qc:okF Tryz.prog 198 lX=true:=by kernel_rfl
def Ys{R:Type}(C:Callee)(fl k:Nat)(kr:ah R):cL R:=fun t0 t2 h=>atQ aA1 (IntKind.wrap .u8 t0) fun n1=>kr (av (t2+(IntKind.wrap .i64 n1))) h
theorem afW:(cp Ct (ce C fl k GD K))=Ys C fl k (cp GC (K .ret)):=by kernel_rfl
def Qd{R:Type}(C:Callee)(fl k:Nat)(kx:cL R)(kr:ah R):cL R:=fun t0 t2 h=>if decide (t0≥256)=true then shQ false .u64 t0 8 fun n2=>kx n2 (av (t2+8)) h else kx t0 t2 h
def ahd(kr:ah R):cL R:=Qd C fl k (Ys C fl k kr) kr
theorem ao1(cn:aa):(cp Ct (ce C fl k (Yr cn) K))=Qd C fl k (cp Ct (ce C fl k cn K)) (cp GC (K .ret)):=by kernel_rfl
theorem ao2:(cp Ct (ce C fl k Qb K))=ahd C fl k (cp GC (K .ret)):=(ao1 C fl k K GD).trans (ag (fun L0=>Qd C fl k L0 _) (afW C fl k K))
def ad6{R:Type}(C:Callee)(fl k:Nat)(kx:cL R)(kr:ah R):cL R:=fun t0 t2 h=>if decide (t0≥65536)=true then shQ false .u64 t0 16 fun n3=>kx n3 (av (t2+16)) h else kx t0 t2 h
def axc(kr:ah R):cL R:=ad6 C fl k (ahd C fl k kr) kr
theorem azi(cn:aa):(cp Ct (ce C fl k (ahc cn) K))=ad6 C fl k (cp Ct (ce C fl k cn K)) (cp GC (K .ret)):=by kernel_rfl
theorem azj:(cp Ct (ce C fl k ad5 K))=axc C fl k (cp GC (K .ret)):=(azi C fl k K Qb).trans (ag (fun L0=>ad6 C fl k L0 _) (ao2 C fl k K))
def arY{R:Type}(C:Callee)(fl k:Nat)(kx:cL R)(kr:ah R):ah R:=fun t0 h=>if decide (t0≥4294967296)=true then shQ false .u64 t0 32 fun n4=>kx n4 32 h else kx t0 0 h
def aOO(kr:ah R):ah R:=arY C fl k (axc C fl k kr) kr
theorem aMB(cn:aa):(cp axb (ce C fl k (axa cn) K))=arY C fl k (cp Ct (ce C fl k cn K)) (cp GC (K .ret)):=by kernel_rfl
theorem aMC:(cp axb (ce C fl k aE4 K))=aOO C fl k (cp GC (K .ret)):=(aMB C fl k K ad5).trans (ag (fun L0=>arY C fl k L0 _) (azj C fl k K))
def oH(p0:Int)(h:AH):Option (Value×AH):=aOO C fl k (fun y2 q=>some (vi y2,q)) p0 h
theorem L8(p0:Int)(h):aV C fl k lX [.int .u64 p0] h=oH C fl k p0 h:=IU (aMC C fl k (aG _)) p0 (by kernel_rfl) (by kernel_rfl)
end Go.Abs.P
end
