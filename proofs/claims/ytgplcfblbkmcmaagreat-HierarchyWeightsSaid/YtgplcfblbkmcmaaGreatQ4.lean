/- Shortened by a program of ours out of readable texts. -/
import Derived.Test.YtgplcfblbkmcmaaGreatQ3
import Derived.KernelRfl
section
set_option maxRecDepth 100000
set_option linter.unusedVariables false
namespace Go.Abs.P
open Go.Abs Go.Abs.CP Go.Abs.C Go.Proofs
def tab:List (Nat×aK):=[(3,fT),(11,vC),(12,vD),(13,jO),(14,oK),(15,jP),(16,oL),(17,ni),(18,jQ),(20,ix),(23,jR),(25,jS),(28,lK),(29,BW),(32,vL),(33,qY),(37,Fc),(38,nk),(39,iy),(40,iz),(41,ra),(42,vM),(43,np),(44,nr),(45,yV),(46,BY),(47,yX),(48,jT),(49,lM),(54,lN),(55,rq),(56,iA),(59,iB),(60,B0),(62,vY),(63,vZ),(64,rz),(65,rB),(66,nu),(67,oM),(68,FC),(69,Kt),(70,oN),(73,ky),(74,wh),(75,B4),(76,kA),(77,jV),(78,FI),(79,wk),(80,wm),(82,zc),(83,nw),(84,kH),(85,zf),(86,wu),(89,rN),(90,ny),(91,gT),(94,fV),(96,wv),(97,wx),(98,jW),(99,wz),(100,jX),(101,nB),(102,wA),(103,rW),(104,rX),(105,FW),(106,FX),(109,wB),(110,nC),(111,zi),(112,wD),(113,wE),(114,lR),(115,gU),(116,iD),(117,rY),(118,rZ),(119,r6),(120,r7),(121,zj),(123,kK),(124,r9),(125,lS),(126,Cc),(127,nE),(128,gA),(134,gB),(136,oO),(137,so),(138,iE),(139,sq),(140,nF),(141,su),(142,sw),(143,kP),(144,wN),(145,zt),(146,oP),(147,sA),(148,nG),(149,sD),(150,zw),(151,Cj),(152,zx),(153,wV),(154,Ck),(155,wY),(156,sF),(157,wZ),(158,fY),(159,fI),(160,xf),(161,gC),(162,fu),(166,js),(168,jt),(169,ju),(170,nH),(171,oR),(172,Cp),(173,Cq),(174,Gv),(175,iG),(176,fZ),(177,oS),(178,oT),(179,gD),(180,oU),(185,gE),(186,nJ),(188,dQ),(194,GB),(198,lX)]
def T:FuncId→Option aK:=fun f=>tab.lookup f
theorem C5:T 3=some fT:=by kernel_rfl
theorem afX:T 11=some vC:=by kernel_rfl
theorem afY:T 12=some vD:=by kernel_rfl
theorem yF:T 13=some jO:=by kernel_rfl
theorem aac:T 14=some oK:=by kernel_rfl
theorem yG:T 15=some jP:=by kernel_rfl
theorem aad:T 16=some oL:=by kernel_rfl
theorem Es:T 17=some ni:=by kernel_rfl
theorem L9:T 18=some jQ:=by kernel_rfl
theorem Im:T 20=some ix:=by kernel_rfl
theorem Ma:T 23=some jR:=by kernel_rfl
theorem Mb:T 25=some jS:=by kernel_rfl
theorem TD:T 28=some lK:=by kernel_rfl
theorem ao3:T 29=some BW:=by kernel_rfl
theorem afZ:T 32=some vL:=by kernel_rfl
theorem ad7:T 33=some qY:=by kernel_rfl
theorem arZ:T 37=some Fc:=by kernel_rfl
theorem Et:T 38=some nk:=by kernel_rfl
theorem tv:T 39=some iy:=by kernel_rfl
theorem tw:T 40=some iz:=by kernel_rfl
theorem ad8:T 41=some ra:=by kernel_rfl
theorem af0:T 42=some vM:=by kernel_rfl
theorem Eu:T 43=some np:=by kernel_rfl
theorem Ev:T 44=some nr:=by kernel_rfl
theorem TE:T 45=some yV:=by kernel_rfl
theorem ao4:T 46=some BY:=by kernel_rfl
theorem TF:T 47=some yX:=by kernel_rfl
theorem Mc:T 48=some jT:=by kernel_rfl
theorem TG:T 49=some lM:=by kernel_rfl
theorem TH:T 54=some lN:=by kernel_rfl
theorem ad9:T 55=some rq:=by kernel_rfl
theorem Ip:T 56=some iA:=by kernel_rfl
theorem Iq:T 59=some iB:=by kernel_rfl
theorem ao5:T 60=some B0:=by kernel_rfl
theorem af1:T 62=some vY:=by kernel_rfl
theorem af2:T 63=some vZ:=by kernel_rfl
theorem aea:T 64=some rz:=by kernel_rfl
theorem aeb:T 65=some rB:=by kernel_rfl
theorem VN:T 66=some nu:=by kernel_rfl
theorem aae:T 67=some oM:=by kernel_rfl
theorem aec:T 68=some FC:=by kernel_rfl
theorem azk:T 69=some Kt:=by kernel_rfl
theorem aaf:T 70=some oN:=by kernel_rfl
theorem Bh:T 73=some ky:=by kernel_rfl
theorem MG:T 74=some wh:=by kernel_rfl
theorem Yt:T 75=some B4:=by kernel_rfl
theorem pR:T 76=some kA:=by kernel_rfl
theorem yH:T 77=some jV:=by kernel_rfl
theorem ar0:T 78=some FI:=by kernel_rfl
theorem MH:T 79=some wk:=by kernel_rfl
theorem MI:T 80=some wm:=by kernel_rfl
theorem TI:T 82=some zc:=by kernel_rfl
theorem VO:T 83=some nw:=by kernel_rfl
theorem Qe:T 84=some kH:=by kernel_rfl
theorem akm:T 85=some zf:=by kernel_rfl
theorem af3:T 86=some wu:=by kernel_rfl
theorem aed:T 89=some rN:=by kernel_rfl
theorem VP:T 90=some ny:=by kernel_rfl
theorem GG:T 91=some gT:=by kernel_rfl
theorem C6:T 94=some fV:=by kernel_rfl
theorem af4:T 96=some wv:=by kernel_rfl
theorem af5:T 97=some wx:=by kernel_rfl
theorem Md:T 98=some jW:=by kernel_rfl
theorem af6:T 99=some wz:=by kernel_rfl
theorem Me:T 100=some jX:=by kernel_rfl
theorem VQ:T 101=some nB:=by kernel_rfl
theorem MJ:T 102=some wA:=by kernel_rfl
theorem Jp:T 103=some rW:=by kernel_rfl
theorem Jq:T 104=some rX:=by kernel_rfl
theorem ar1:T 105=some FW:=by kernel_rfl
theorem ar2:T 106=some FX:=by kernel_rfl
theorem MK:T 109=some wB:=by kernel_rfl
theorem Ew:T 110=some nC:=by kernel_rfl
theorem akn:T 111=some zi:=by kernel_rfl
theorem ML:T 112=some wD:=by kernel_rfl
theorem MM:T 113=some wE:=by kernel_rfl
theorem Cu:T 114=some lR:=by kernel_rfl
theorem sP:T 115=some gU:=by kernel_rfl
theorem tz:T 116=some iD:=by kernel_rfl
theorem Jr:T 117=some rY:=by kernel_rfl
theorem Js:T 118=some rZ:=by kernel_rfl
theorem Jt:T 119=some r6:=by kernel_rfl
theorem Ju:T 120=some r7:=by kernel_rfl
theorem ako:T 121=some zj:=by kernel_rfl
theorem Bi:T 123=some kK:=by kernel_rfl
theorem Jv:T 124=some r9:=by kernel_rfl
theorem TJ:T 125=some lS:=by kernel_rfl
theorem ao6:T 126=some Cc:=by kernel_rfl
theorem VR:T 127=some nE:=by kernel_rfl
theorem Ex:T 128=some gA:=by kernel_rfl
theorem Ey:T 134=some gB:=by kernel_rfl
theorem aag:T 136=some oO:=by kernel_rfl
theorem aee:T 137=some so:=by kernel_rfl
theorem Ir:T 138=some iE:=by kernel_rfl
theorem Jw:T 139=some sq:=by kernel_rfl
theorem Ez:T 140=some nF:=by kernel_rfl
theorem Jy:T 141=some su:=by kernel_rfl
theorem Jz:T 142=some sw:=by kernel_rfl
theorem Bj:T 143=some kP:=by kernel_rfl
theorem MN:T 144=some wN:=by kernel_rfl
theorem TK:T 145=some zt:=by kernel_rfl
theorem HQ:T 146=some oP:=by kernel_rfl
theorem JA:T 147=some sA:=by kernel_rfl
theorem EA:T 148=some nG:=by kernel_rfl
theorem JB:T 149=some sD:=by kernel_rfl
theorem akp:T 150=some zw:=by kernel_rfl
theorem ao7:T 151=some Cj:=by kernel_rfl
theorem akq:T 152=some zx:=by kernel_rfl
theorem af7:T 153=some wV:=by kernel_rfl
theorem ao8:T 154=some Ck:=by kernel_rfl
theorem af8:T 155=some wY:=by kernel_rfl
theorem aef:T 156=some sF:=by kernel_rfl
theorem af9:T 157=some wZ:=by kernel_rfl
theorem C7:T 158=some fY:=by kernel_rfl
theorem BK:T 159=some fI:=by kernel_rfl
theorem aga:T 160=some xf:=by kernel_rfl
theorem EB:T 161=some gC:=by kernel_rfl
theorem Bk:T 162=some fu:=by kernel_rfl
theorem JC:T 166=some js:=by kernel_rfl
theorem JD:T 168=some jt:=by kernel_rfl
theorem JE:T 169=some ju:=by kernel_rfl
theorem EC:T 170=some nH:=by kernel_rfl
theorem HR:T 171=some oR:=by kernel_rfl
theorem ao9:T 172=some Cp:=by kernel_rfl
theorem apa:T 173=some Cq:=by kernel_rfl
theorem ar3:T 174=some Gv:=by kernel_rfl
theorem Is:T 175=some iG:=by kernel_rfl
theorem C8:T 176=some fZ:=by kernel_rfl
theorem aah:T 177=some oS:=by kernel_rfl
theorem aai:T 178=some oT:=by kernel_rfl
theorem ED:T 179=some gD:=by kernel_rfl
theorem aaj:T 180=some oU:=by kernel_rfl
theorem EE:T 185=some gE:=by kernel_rfl
theorem VS:T 186=some nJ:=by kernel_rfl
theorem xx:T 188=some dQ:=by kernel_rfl
theorem ar4:T 194=some GB:=by kernel_rfl
theorem TL:T 198=some lX:=by kernel_rfl
theorem aQd:∀p∈tab,okF Tryz.prog p.1 p.2=true:=(List.forall_mem_cons.2 ⟨Bx,(List.forall_mem_cons.2 ⟨ab8,(List.forall_mem_cons.2 ⟨ab9,(List.forall_mem_cons.2 ⟨IW,(List.forall_mem_cons.2 ⟨Uv,(List.forall_mem_cons.2 ⟨IX,(List.forall_mem_cons.2 ⟨Uz,(List.forall_mem_cons.2 ⟨Q4,(List.forall_mem_cons.2 ⟨IZ,(List.forall_mem_cons.2 ⟨E6,(List.forall_mem_cons.2 ⟨I0,(List.forall_mem_cons.2 ⟨I1,(List.forall_mem_cons.2 ⟨Nn,(List.forall_mem_cons.2 ⟨aia,(List.forall_mem_cons.2 ⟨acm,(List.forall_mem_cons.2 ⟨YW,(List.forall_mem_cons.2 ⟨al5,(List.forall_mem_cons.2 ⟨Rd,(List.forall_mem_cons.2 ⟨Fe,(List.forall_mem_cons.2 ⟨Ff,(List.forall_mem_cons.2 ⟨YX,(List.forall_mem_cons.2 ⟨acv,(List.forall_mem_cons.2 ⟨Rj,(List.forall_mem_cons.2 ⟨Rl,(List.forall_mem_cons.2 ⟨aeU,(List.forall_mem_cons.2 ⟨ait,(List.forall_mem_cons.2 ⟨aeY,(List.forall_mem_cons.2 ⟨I6,(List.forall_mem_cons.2 ⟨NF,(List.forall_mem_cons.2 ⟨NI,(List.forall_mem_cons.2 ⟨Y6,(List.forall_mem_cons.2 ⟨Fs,(List.forall_mem_cons.2 ⟨Ft,(List.forall_mem_cons.2 ⟨aiw,(List.forall_mem_cons.2 ⟨acF,(List.forall_mem_cons.2 ⟨acG,(List.forall_mem_cons.2 ⟨Zb,(List.forall_mem_cons.2 ⟨Zc,(List.forall_mem_cons.2 ⟨Ry,(List.forall_mem_cons.2 ⟨UR,(List.forall_mem_cons.2 ⟨amJ,(List.forall_mem_cons.2 ⟨arG,(List.forall_mem_cons.2 ⟨UT,(List.forall_mem_cons.2 ⟨LA,(List.forall_mem_cons.2 ⟨acL,(List.forall_mem_cons.2 ⟨aiF,(List.forall_mem_cons.2 ⟨LC,(List.forall_mem_cons.2 ⟨I8,(List.forall_mem_cons.2 ⟨amT,(List.forall_mem_cons.2 ⟨acP,(List.forall_mem_cons.2 ⟨acQ,(List.forall_mem_cons.2 ⟨afc,(List.forall_mem_cons.2 ⟨RQ,(List.forall_mem_cons.2 ⟨LI,(List.forall_mem_cons.2 ⟨afg,(List.forall_mem_cons.2 ⟨acV,(List.forall_mem_cons.2 ⟨Zp,(List.forall_mem_cons.2 ⟨R0,(List.forall_mem_cons.2 ⟨DG,(List.forall_mem_cons.2 ⟨By,(List.forall_mem_cons.2 ⟨acZ,(List.forall_mem_cons.2 ⟨ac1,(List.forall_mem_cons.2 ⟨Jc,(List.forall_mem_cons.2 ⟨ac4,(List.forall_mem_cons.2 ⟨Jf,(List.forall_mem_cons.2 ⟨Sc,(List.forall_mem_cons.2 ⟨ac9,(List.forall_mem_cons.2 ⟨Zz,(List.forall_mem_cons.2 ⟨ZA,(List.forall_mem_cons.2 ⟨ano,(List.forall_mem_cons.2 ⟨anp,(List.forall_mem_cons.2 ⟨ade,(List.forall_mem_cons.2 ⟨Sh,(List.forall_mem_cons.2 ⟨afm,(List.forall_mem_cons.2 ⟨adj,(List.forall_mem_cons.2 ⟨adl,(List.forall_mem_cons.2 ⟨OQ,(List.forall_mem_cons.2 ⟨DQ,(List.forall_mem_cons.2 ⟨F0,(List.forall_mem_cons.2 ⟨ZB,(List.forall_mem_cons.2 ⟨ZC,(List.forall_mem_cons.2 ⟨ZD,(List.forall_mem_cons.2 ⟨ZE,(List.forall_mem_cons.2 ⟨afp,(List.forall_mem_cons.2 ⟨LN,(List.forall_mem_cons.2 ⟨ZF,(List.forall_mem_cons.2 ⟨O2,(List.forall_mem_cons.2 ⟨ajr,(List.forall_mem_cons.2 ⟨Sy,(List.forall_mem_cons.2 ⟨CU,(List.forall_mem_cons.2 ⟨CV,(List.forall_mem_cons.2 ⟨Vh,(List.forall_mem_cons.2 ⟨ZM,(List.forall_mem_cons.2 ⟨F7,(List.forall_mem_cons.2 ⟨ZN,(List.forall_mem_cons.2 ⟨SK,(List.forall_mem_cons.2 ⟨ZO,(List.forall_mem_cons.2 ⟨ZR,(List.forall_mem_cons.2 ⟨LV,(List.forall_mem_cons.2 ⟨adB,(List.forall_mem_cons.2 ⟨afz,(List.forall_mem_cons.2 ⟨Vn,(List.forall_mem_cons.2 ⟨ZU,(List.forall_mem_cons.2 ⟨SX,(List.forall_mem_cons.2 ⟨ZX,(List.forall_mem_cons.2 ⟨afE,(List.forall_mem_cons.2 ⟨ajV,(List.forall_mem_cons.2 ⟨afG,(List.forall_mem_cons.2 ⟨adM,(List.forall_mem_cons.2 ⟨aj1,(List.forall_mem_cons.2 ⟨adP,(List.forall_mem_cons.2 ⟨Z0,(List.forall_mem_cons.2 ⟨adR,(List.forall_mem_cons.2 ⟨BF,(List.forall_mem_cons.2 ⟨A6,(List.forall_mem_cons.2 ⟨adU,(List.forall_mem_cons.2 ⟨CY,(List.forall_mem_cons.2 ⟨zz,(List.forall_mem_cons.2 ⟨Ih,(List.forall_mem_cons.2 ⟨Ii,(List.forall_mem_cons.2 ⟨Ij,(List.forall_mem_cons.2 ⟨Tf,(List.forall_mem_cons.2 ⟨VC,(List.forall_mem_cons.2 ⟨akc,(List.forall_mem_cons.2 ⟨akg,(List.forall_mem_cons.2 ⟨aoR,(List.forall_mem_cons.2 ⟨Gx,(List.forall_mem_cons.2 ⟨BH,(List.forall_mem_cons.2 ⟨VG,(List.forall_mem_cons.2 ⟨VH,(List.forall_mem_cons.2 ⟨C1,(List.forall_mem_cons.2 ⟨VK,(List.forall_mem_cons.2 ⟨C2,(List.forall_mem_cons.2 ⟨TA,(List.forall_mem_cons.2 ⟨vo,(List.forall_mem_cons.2 ⟨ao0,(List.forall_mem_cons.2 ⟨Qc,(fun _ h=>by cases h)⟩)⟩)⟩)⟩)⟩)⟩)⟩)⟩)⟩)⟩)⟩)⟩)⟩)⟩)⟩)⟩)⟩)⟩)⟩)⟩)⟩)⟩)⟩)⟩)⟩)⟩)⟩)⟩)⟩)⟩)⟩)⟩)⟩)⟩)⟩)⟩)⟩)⟩)⟩)⟩)⟩)⟩)⟩)⟩)⟩)⟩)⟩)⟩)⟩)⟩)⟩)⟩)⟩)⟩)⟩)⟩)⟩)⟩)⟩)⟩)⟩)⟩)⟩)⟩)⟩)⟩)⟩)⟩)⟩)⟩)⟩)⟩)⟩)⟩)⟩)⟩)⟩)⟩)⟩)⟩)⟩)⟩)⟩)⟩)⟩)⟩)⟩)⟩)⟩)⟩)⟩)⟩)⟩)⟩)⟩)⟩)⟩)⟩)⟩)⟩)⟩)⟩)⟩)⟩)⟩)⟩)⟩)⟩)⟩)⟩)⟩)⟩)⟩)⟩)⟩)⟩)⟩)⟩)⟩)⟩)⟩)⟩)⟩)⟩)⟩)⟩)⟩)⟩)⟩)⟩)⟩)⟩)⟩)⟩)⟩)⟩)⟩)
theorem aQe:∀f af,T f=some af→okF Tryz.prog f af=true:=fun f af h=>aQd (f,af) (abO h)
def apb(C E:Callee)(fl k f:Nat)(args:List Value)(h:AH):Option (Value×AH):=cond (Nat.ble f 104) (cond (Nat.ble f 65) (cond (Nat.ble f 38) (cond (Nat.ble f 20) (cond (Nat.ble f 15) (cond (Nat.ble f 11) (cond (Nat.beq f 11) ((dE (ey C fl k h)) args) (E fl f args h)) (cond (Nat.ble f 13) (cond (Nat.beq f 13) ((dA 5 (dI .i64 fun a=>dI .i64 fun b=>dS fun c=>dI .i64 fun d=>dS fun g=>dE (eP C fl k a b c d g h))) args) (E fl f args h)) (cond (Nat.beq f 15) ((dA 5 (dI .i64 fun a=>dI .i64 fun b=>dS fun c=>dI .i64 fun d=>dS fun g=>dE (dG C fl k a b c d g h))) args) (E fl f args h)))) (cond (Nat.ble f 17) (cond (Nat.beq f 17) ((dS fun a=>dS fun b=>dE (cN C fl k a b h)) args) (E fl f args h)) (cond (Nat.ble f 18) (cond (Nat.beq f 18) ((dA 5 (dI .i64 fun a=>dI .i64 fun b=>dS fun c=>dI .i64 fun d=>dS fun g=>dI .i64 fun i=>dE (lE C fl k a b c d g i h))) args) (E fl f args h)) (cond (Nat.beq f 20) ((dA 5 (dI .i64 fun a=>dI .i64 fun b=>dS fun c=>dI .i64 fun d=>dS fun g=>dS fun i=>dE (jJ C fl k a b c d g i h))) args) (E fl f args h))))) (cond (Nat.ble f 28) (cond (Nat.ble f 23) (cond (Nat.beq f 23) ((dS fun a=>dI .i64 fun b=>dE (lF C fl k a b h)) args) (E fl f args h)) (cond (Nat.ble f 25) (cond (Nat.beq f 25) ((dA 5 (dI .i64 fun a=>dI .i64 fun b=>dS fun c=>dI .i64 fun d=>dS fun g=>dE (lG C fl k a b c d g h))) args) (E fl f args h)) (cond (Nat.beq f 28) ((dA 5 (dI .i64 fun a=>dI .i64 fun b=>dS fun c=>dI .i64 fun d=>dS fun g=>dA 2 (dS fun i=>dS fun j=>dE (oE C fl k a b c d g i j h)))) args) (E fl f args h)))) (cond (Nat.ble f 33) (cond (Nat.beq f 33) ((dA 5 (dI .i64 fun a=>dI .i64 fun b=>dS fun c=>dI .i64 fun d=>dS fun g=>dS fun i=>dE (qN C fl k a b c d g i h))) args) (E fl f args h)) (cond (Nat.ble f 37) (cond (Nat.beq f 37) ((dA 3 (dI .i64 fun a=>dI .i64 fun b=>dS fun c=>dA 2 (dI .i64 fun d=>dS fun g=>dE (QQ C fl k a b c d g h)))) args) (E fl f args h)) (cond (Nat.beq f 38) ((dS fun a=>dS fun b=>dE (eQ C fl k a b h)) args) (E fl f args h)))))) (cond (Nat.ble f 48) (cond (Nat.ble f 43) (cond (Nat.ble f 39) (cond (Nat.beq f 39) ((dS fun a=>dV fun b=>dE (cY C fl k a b h)) args) (E fl f args h)) (cond (Nat.ble f 40) (cond (Nat.beq f 40) ((dI .i64 fun a=>dP fun b=>dE (cZ C fl k a b h)) args) (E fl f args h)) (cond (Nat.beq f 43) ((dA 5 (dI .i64 fun a=>dI .i64 fun b=>dS fun c=>dI .i64 fun d=>dS fun g=>dE (gj C fl k a b c d g h))) args) (E fl f args h)))) (cond (Nat.ble f 44) (cond (Nat.beq f 44) ((dI .i64 fun a=>dE (ij C fl k a h)) args) (E fl f args h)) (cond (Nat.ble f 47) (cond (Nat.beq f 47) ((dA 5 (dI .i64 fun a=>dI .i64 fun b=>dS fun c=>dI .i64 fun d=>dS fun g=>dE (ep C fl k a b c d g h))) args) (E fl f args h)) (cond (Nat.beq f 48) ((dS fun a=>dI .i64 fun b=>dE (iY C fl k a b h)) args) (E fl f args h))))) (cond (Nat.ble f 56) (cond (Nat.ble f 49) (cond (Nat.beq f 49) ((dA 3 (dI .i64 fun a=>dI .i64 fun b=>dS fun c=>dA 2 (dI .i64 fun d=>dS fun g=>dS fun i=>dE (oF C fl k a b c d g i h)))) args) (E fl f args h)) (cond (Nat.ble f 54) (cond (Nat.beq f 54) ((dS fun a=>dI .i64 fun b=>dE (cM C fl k a b h)) args) (E fl f args h)) (cond (Nat.beq f 56) ((dA 5 (dI .i64 fun a=>dI .i64 fun b=>dS fun c=>dI .i64 fun d=>dS fun g=>dI .i64 fun i=>dI .i64 fun j=>dE (jK C fl k a b c d g i j h))) args) (E fl f args h)))) (cond (Nat.ble f 59) (cond (Nat.beq f 59) ((dA 5 (dI .i64 fun a=>dI .i64 fun b=>dS fun c=>dI .i64 fun d=>dS fun g=>dI .i64 fun i=>dI .i64 fun j=>dA 1 (dS fun m=>dE (jL C fl k a b c d g i j m h)))) args) (E fl f args h)) (cond (Nat.ble f 64) (cond (Nat.beq f 64) ((dA 5 (dI .i64 fun a=>dI .i64 fun b=>dS fun c=>dI .i64 fun d=>dS fun g=>dE (yP C fl k a b c d g h))) args) (E fl f args h)) (cond (Nat.beq f 65) ((dA 5 (dI .i64 fun a=>dI .i64 fun b=>dS fun c=>dI .i64 fun d=>dS fun g=>dS fun i=>dE (yQ C fl k a b c d g i h))) args) (E fl f args h))))))) (cond (Nat.ble f 82) (cond (Nat.ble f 74) (cond (Nat.ble f 68) (cond (Nat.ble f 66) (cond (Nat.beq f 66) ((dN fun a=>dA 5 (dI .i64 fun b=>dI .i64 fun c=>dS fun d=>dI .i64 fun g=>dS fun i=>dS fun j=>dE (qO C fl k a b c d g i j h))) args) (E fl f args h)) (cond (Nat.ble f 67) (cond (Nat.beq f 67) ((dA 3 (dI .i64 fun a=>dI .i64 fun b=>dS fun c=>dA 2 (dI .i64 fun d=>dS fun g=>dE (vy C fl k a b c d g h)))) args) (E fl f args h)) (cond (Nat.beq f 68) ((dA 5 (dI .i64 fun a=>dI .i64 fun b=>dS fun c=>dI .i64 fun d=>dS fun g=>dE (Dr C fl k a b c d g h))) args) (E fl f args h)))) (cond (Nat.ble f 69) (cond (Nat.beq f 69) ((dA 3 (dI .i64 fun a=>dI .i64 fun b=>dS fun c=>dA 2 (dI .i64 fun d=>dS fun g=>dI .i64 fun i=>dE (aaw C fl k a b c d g i h)))) args) (E fl f args h)) (cond (Nat.ble f 73) (cond (Nat.beq f 73) ((dA 3 (dI .i64 fun a=>dI .i64 fun b=>dS fun c=>dA 2 (dI .i64 fun d=>dS fun g=>dE (cD C fl k a b c d g h)))) args) (E fl f args h)) (cond (Nat.beq f 74) ((dI .i64 fun a=>dE (mo C fl k a h)) args) (E fl f args h))))) (cond (Nat.ble f 77) (cond (Nat.ble f 75) (cond (Nat.beq f 75) ((dA 3 (dI .i64 fun a=>dI .i64 fun b=>dS fun c=>dE (fB C fl k a b c h))) args) (E fl f args h)) (cond (Nat.ble f 76) (cond (Nat.beq f 76) ((dS fun a=>dI .i64 fun b=>dI .i64 fun c=>dP fun d=>dP fun g=>dP fun i=>dP fun j=>dE (bm C fl k a b c d g i j h)) args) (E fl f args h)) (cond (Nat.beq f 77) ((dN fun a=>dS fun b=>dI .i64 fun c=>dE (de C fl k a b c h)) args) (E fl f args h)))) (cond (Nat.ble f 79) (cond (Nat.beq f 79) ((dA 3 (dI .i64 fun a=>dI .i64 fun b=>dS fun c=>dE (gY C fl k a b c h))) args) (E fl f args h)) (cond (Nat.ble f 80) (cond (Nat.beq f 80) ((dA 3 (dI .i64 fun a=>dI .i64 fun b=>dS fun c=>dA 2 (dI .i64 fun d=>dS fun g=>dE (pX C fl k a b c d g h)))) args) (E fl f args h)) (cond (Nat.beq f 82) ((dA 3 (dI .i64 fun a=>dI .i64 fun b=>dS fun c=>dA 2 (dI .i64 fun d=>dS fun g=>dE (gH C fl k a b c d g h)))) args) (E fl f args h)))))) (cond (Nat.ble f 91) (cond (Nat.ble f 85) (cond (Nat.ble f 83) (cond (Nat.beq f 83) ((dA 3 (dI .i64 fun a=>dI .i64 fun b=>dS fun c=>dA 2 (dI .i64 fun d=>dS fun g=>dS fun i=>dE (qP C fl k a b c d g i h)))) args) (E fl f args h)) (cond (Nat.ble f 84) (cond (Nat.beq f 84) ((dA 3 (dI .i64 fun a=>dI .i64 fun b=>dS fun c=>dA 2 (dI .i64 fun d=>dS fun g=>dE (mY C fl k a b c d g h)))) args) (E fl f args h)) (cond (Nat.beq f 85) ((dA 3 (dI .i64 fun a=>dI .i64 fun b=>dS fun c=>dA 2 (dI .i64 fun d=>dS fun g=>dA 2 (dI .i64 fun i=>dS fun j=>dE (EZ C fl k a b c d g i j h))))) args) (E fl f args h)))) (cond (Nat.ble f 89) (cond (Nat.beq f 89) ((dS fun a=>dI .i64 fun b=>dE (yR C fl k a b h)) args) (E fl f args h)) (cond (Nat.ble f 90) (cond (Nat.beq f 90) ((dA 5 (dI .i64 fun a=>dI .i64 fun b=>dS fun c=>dI .i64 fun d=>dS fun g=>dI .i64 fun i=>dI .i64 fun j=>dE (mq C fl k a b c d g i j h))) args) (E fl f args h)) (cond (Nat.beq f 91) ((dN fun a=>dE (jb C fl k a h)) args) (E fl f args h))))) (cond (Nat.ble f 101) (cond (Nat.ble f 94) (cond (Nat.beq f 94) ((dN fun a=>dA 1 (dS fun b=>dE (gP C fl k a b h))) args) (E fl f args h)) (cond (Nat.ble f 100) (cond (Nat.beq f 100) ((dN fun a=>dS fun b=>dE (lH C fl k a b h)) args) (E fl f args h)) (cond (Nat.beq f 101) ((dA 5 (dI .i64 fun a=>dI .i64 fun b=>dS fun c=>dI .i64 fun d=>dS fun g=>dI .i64 fun i=>dE (qQ C fl k a b c d g i h))) args) (E fl f args h)))) (cond (Nat.ble f 102) (cond (Nat.beq f 102) ((dA 3 (dI .i64 fun a=>dI .i64 fun b=>dS fun c=>dS fun d=>dE (c7 C fl k a b c d h))) args) (E fl f args h)) (cond (Nat.ble f 103) (cond (Nat.beq f 103) ((dN fun a=>dS fun b=>dI .i64 fun c=>dE (je C fl k a b c h)) args) (E fl f args h)) (cond (Nat.beq f 104) ((dN fun a=>dI .i64 fun b=>dE (fR C fl k a b h)) args) (E fl f args h)))))))) (cond (Nat.ble f 143) (cond (Nat.ble f 119) (cond (Nat.ble f 113) (cond (Nat.ble f 110) (cond (Nat.ble f 105) (cond (Nat.beq f 105) ((dA 3 (dI .i64 fun a=>dI .i64 fun b=>dS fun c=>dE (QR C fl k a b c h))) args) (E fl f args h)) (cond (Nat.ble f 109) (cond (Nat.beq f 109) ((dN fun a=>dI .i64 fun b=>dE (mz C fl k a b h)) args) (E fl f args h)) (cond (Nat.beq f 110) ((dN fun a=>dS fun b=>dE (j8 C fl k a b h)) args) (E fl f args h)))) (cond (Nat.ble f 111) (cond (Nat.beq f 111) ((dN fun a=>dS fun b=>dS fun c=>dI .i64 fun d=>dE (E0 C fl k a b c d h)) args) (E fl f args h)) (cond (Nat.ble f 112) (cond (Nat.beq f 112) ((dA 3 (dI .i64 fun a=>dI .i64 fun b=>dS fun c=>dE (mA C fl k a b c h))) args) (E fl f args h)) (cond (Nat.beq f 113) ((dI .i64 fun a=>dI .i64 fun b=>dE (jf C fl k a b h)) args) (E fl f args h))))) (cond (Nat.ble f 116) (cond (Nat.ble f 114) (cond (Nat.beq f 114) ((dA 3 (dI .i64 fun a=>dI .i64 fun b=>dS fun c=>dI .i64 fun d=>dE (cX C fl k a b c d h))) args) (E fl f args h)) (cond (Nat.ble f 115) (cond (Nat.beq f 115) ((dS fun a=>dV fun b=>dE (eA C fl k a b h)) args) (E fl f args h)) (cond (Nat.beq f 116) ((dS fun a=>dP fun b=>dE (c8 C fl k a b h)) args) (E fl f args h)))) (cond (Nat.ble f 117) (cond (Nat.beq f 117) ((dN fun a=>dI .i64 fun b=>dI .i64 fun c=>dE (ko C fl k a b c h)) args) (E fl f args h)) (cond (Nat.ble f 118) (cond (Nat.beq f 118) ((dS fun a=>dE (eS C fl k a h)) args) (E fl f args h)) (cond (Nat.beq f 119) ((dN fun a=>dI .i64 fun b=>dI .i64 fun c=>dE (gQ C fl k a b c h)) args) (E fl f args h)))))) (cond (Nat.ble f 134) (cond (Nat.ble f 124) (cond (Nat.ble f 120) (cond (Nat.beq f 120) ((dN fun a=>dI .i64 fun b=>dI .i64 fun c=>dE (dy C fl k a b c h)) args) (E fl f args h)) (cond (Nat.ble f 123) (cond (Nat.beq f 123) ((dS fun a=>dS fun b=>dV fun c=>dE (hX C fl k a b c h)) args) (E fl f args h)) (cond (Nat.beq f 124) ((dS fun a=>dS fun b=>dE (jg C fl k a b h)) args) (E fl f args h)))) (cond (Nat.ble f 127) (cond (Nat.beq f 127) ((dA 5 (dI .i64 fun a=>dI .i64 fun b=>dS fun c=>dI .i64 fun d=>dS fun g=>dI .i64 fun i=>dE (qR C fl k a b c d g i h))) args) (E fl f args h)) (cond (Nat.ble f 128) (cond (Nat.beq f 128) ((dN fun a=>dS fun b=>dS fun c=>dE (fL C fl k a b c h)) args) (E fl f args h)) (cond (Nat.beq f 134) ((dN fun a=>dS fun b=>dS fun c=>dE (fM C fl k a b c h)) args) (E fl f args h))))) (cond (Nat.ble f 140) (cond (Nat.ble f 138) (cond (Nat.beq f 138) ((dI .i64 fun a=>dE (jM C fl k a h)) args) (E fl f args h)) (cond (Nat.ble f 139) (cond (Nat.beq f 139) ((dN fun a=>dI .i64 fun b=>dE (fS C fl k a b h)) args) (E fl f args h)) (cond (Nat.beq f 140) ((dN fun a=>dI .i64 fun b=>dS fun c=>dE (gm C fl k a b c h)) args) (E fl f args h)))) (cond (Nat.ble f 141) (cond (Nat.beq f 141) ((dN fun a=>dA 2 (dI .i64 fun b=>dS fun c=>dE (m4 C fl k a b c h))) args) (E fl f args h)) (cond (Nat.ble f 142) (cond (Nat.beq f 142) ((dS fun a=>dE (m6 C fl k a h)) args) (E fl f args h)) (cond (Nat.beq f 143) ((dN fun a=>dS fun b=>dI .i64 fun c=>dS fun d=>dE (hZ C fl k a b c d h)) args) (E fl f args h))))))) (cond (Nat.ble f 162) (cond (Nat.ble f 149) (cond (Nat.ble f 146) (cond (Nat.ble f 144) (cond (Nat.beq f 144) ((dN fun a=>dI .i64 fun b=>dE (gn C fl k a b h)) args) (E fl f args h)) (cond (Nat.ble f 145) (cond (Nat.beq f 145) ((dN fun a=>dS fun b=>dI .i64 fun c=>dS fun d=>dE (oX C fl k a b c d h)) args) (E fl f args h)) (cond (Nat.beq f 146) ((dI .i64 fun a=>dE (la C fl k a h)) args) (E fl f args h)))) (cond (Nat.ble f 147) (cond (Nat.beq f 147) ((dA 3 (dI .i64 fun a=>dI .i64 fun b=>dS fun c=>dI .i64 fun d=>dI .i64 fun g=>dE (m7 C fl k a b c d g h))) args) (E fl f args h)) (cond (Nat.ble f 148) (cond (Nat.beq f 148) ((dA 3 (dI .i64 fun a=>dI .i64 fun b=>dS fun c=>dI .i64 fun d=>dI .i64 fun g=>dE (gp C fl k a b c d g h))) args) (E fl f args h)) (cond (Nat.beq f 149) ((dN fun a=>dI .i64 fun b=>dI .i64 fun c=>dE (jh C fl k a b c h)) args) (E fl f args h))))) (cond (Nat.ble f 159) (cond (Nat.ble f 151) (cond (Nat.beq f 151) ((dI .i64 fun a=>dE (Ds C fl k a h)) args) (E fl f args h)) (cond (Nat.ble f 158) (cond (Nat.beq f 158) ((dN fun a=>dS fun b=>dI .i64 fun c=>dE (dz C fl k a b c h)) args) (E fl f args h)) (cond (Nat.beq f 159) ((dN fun a=>dS fun b=>dS fun c=>dE (eB C fl k a b c h)) args) (E fl f args h)))) (cond (Nat.ble f 160) (cond (Nat.beq f 160) ((dS fun a=>dE (xp C fl k a h)) args) (E fl f args h)) (cond (Nat.ble f 161) (cond (Nat.beq f 161) ((dN fun a=>dS fun b=>dS fun c=>dE (fN C fl k a b c h)) args) (E fl f args h)) (cond (Nat.beq f 162) ((dN fun a=>dS fun b=>dS fun c=>dS fun d=>dV fun g=>dE (dX C fl k a b c d g h)) args) (E fl f args h)))))) (cond (Nat.ble f 178) (cond (Nat.ble f 175) (cond (Nat.ble f 170) (cond (Nat.beq f 170) ((dI .i64 fun a=>dI .i64 fun b=>dI .i64 fun c=>dE (il C fl k a b c h)) args) (E fl f args h)) (cond (Nat.ble f 171) (cond (Nat.beq f 171) ((dS fun a=>dI .i64 fun b=>dE (lf C fl k a b h)) args) (E fl f args h)) (cond (Nat.beq f 175) ((dN fun a=>dS fun b=>dE (jN C fl k a b h)) args) (E fl f args h)))) (cond (Nat.ble f 176) (cond (Nat.beq f 176) ((dN fun a=>dI .i64 fun b=>dE (gR C fl k a b h)) args) (E fl f args h)) (cond (Nat.ble f 177) (cond (Nat.beq f 177) ((dV fun a=>dE (vz C fl k a h)) args) (E fl f args h)) (cond (Nat.beq f 178) ((dS fun a=>dE (vA C fl k a h)) args) (E fl f args h))))) (cond (Nat.ble f 185) (cond (Nat.ble f 179) (cond (Nat.beq f 179) ((dS fun a=>dI .i64 fun b=>dI .i64 fun c=>dI .i64 fun d=>dE (ai C fl k a b c d h)) args) (E fl f args h)) (cond (Nat.ble f 180) (cond (Nat.beq f 180) ((dI .u64 fun a=>dE (vB C fl k a h)) args) (E fl f args h)) (cond (Nat.beq f 185) ((dI .i64 fun a=>dE (iw C fl k a h)) args) (E fl f args h)))) (cond (Nat.ble f 188) (cond (Nat.ble f 186) (cond (Nat.beq f 186) ((dV fun a=>dE (qS C fl k a h)) args) (E fl f args h)) (cond (Nat.beq f 188) ((dS fun a=>dI .i64 fun b=>dI .i64 fun c=>dE (eG C fl k a b c h)) args) (E fl f args h))) (cond (Nat.ble f 194) (cond (Nat.beq f 194) ((dI .i64 fun a=>dI .i64 fun b=>dE (eC C fl k a b h)) args) (E fl f args h)) (cond (Nat.beq f 198) ((dI .u64 fun a=>dE (oH C fl k a h)) args) (E fl f args h))))))))
set_option maxHeartbeats 8000000 in
theorem azl(C E:Callee)(fl k f:Nat)(args:List Value)(h:AH)(r:Value×AH)(e:apb C E fl k f args h=some r):aGU T C E fl k f args h r:=aD e (fun e=>aD e (fun e=>aD e (fun e=>aD e (fun e=>aD e (fun e=>aD e (fun e=>bu afX (hS fun e=>(YM C fl k h).trans e) e) (fun e=>aD e (fun e=>bu yF (xB 5 (cP fun a=>cP fun b=>eF fun c=>cP fun d=>eF fun g=>hS fun e=>(te C fl k a b c d g h).trans e)) e) (fun e=>bu yG (xB 5 (cP fun a=>cP fun b=>eF fun c=>cP fun d=>eF fun g=>hS fun e=>(tg C fl k a b c d g h).trans e)) e))) (fun e=>aD e (fun e=>bu Es (eF fun a=>eF fun b=>hS fun e=>(z9 C fl k a b h).trans e) e) (fun e=>aD e (fun e=>bu L9 (xB 5 (cP fun a=>cP fun b=>eF fun c=>cP fun d=>eF fun g=>cP fun i=>hS fun e=>(HW C fl k a b c d g i h).trans e)) e) (fun e=>bu Im (xB 5 (cP fun a=>cP fun b=>eF fun c=>cP fun d=>eF fun g=>eF fun i=>hS fun e=>(Dv C fl k a b c d g i h).trans e)) e)))) (fun e=>aD e (fun e=>aD e (fun e=>bu Ma (eF fun a=>cP fun b=>hS fun e=>(HX C fl k a b h).trans e) e) (fun e=>aD e (fun e=>bu Mb (xB 5 (cP fun a=>cP fun b=>eF fun c=>cP fun d=>eF fun g=>hS fun e=>(HY C fl k a b c d g h).trans e)) e) (fun e=>bu TD (xB 5 (cP fun a=>cP fun b=>eF fun c=>cP fun d=>eF fun g=>xB 2 (eF fun i=>eF fun j=>hS fun e=>(Lo C fl k a b c d g i j h).trans e))) e))) (fun e=>aD e (fun e=>bu ad7 (xB 5 (cP fun a=>cP fun b=>eF fun c=>cP fun d=>eF fun g=>eF fun i=>hS fun e=>(UE C fl k a b c d g i h).trans e)) e) (fun e=>aD e (fun e=>bu arZ (xB 3 (cP fun a=>cP fun b=>eF fun c=>xB 2 (cP fun d=>eF fun g=>hS fun e=>(aid C fl k a b c d g h).trans e))) e) (fun e=>bu Et (eF fun a=>eF fun b=>hS fun e=>(Af C fl k a b h).trans e) e))))) (fun e=>aD e (fun e=>aD e (fun e=>aD e (fun e=>bu tv (eF fun a=>dV_ fun b=>hS fun e=>(qf C fl k a b h).trans e) e) (fun e=>aD e (fun e=>bu tw (cP fun a=>dP_ fun b=>hS fun e=>(qg C fl k a b h).trans e) e) (fun e=>bu Eu (xB 5 (cP fun a=>cP fun b=>eF fun c=>cP fun d=>eF fun g=>hS fun e=>(Ai C fl k a b c d g h).trans e)) e))) (fun e=>aD e (fun e=>bu Ev (cP fun a=>hS fun e=>(Ak C fl k a h).trans e) e) (fun e=>aD e (fun e=>bu TF (xB 5 (cP fun a=>cP fun b=>eF fun c=>cP fun d=>eF fun g=>hS fun e=>(I5 C fl k a b c d g h).trans e)) e) (fun e=>bu Mc (eF fun a=>cP fun b=>hS fun e=>(H0 C fl k a b h).trans e) e)))) (fun e=>aD e (fun e=>aD e (fun e=>bu TG (xB 3 (cP fun a=>cP fun b=>eF fun c=>xB 2 (cP fun d=>eF fun g=>eF fun i=>hS fun e=>(Lr C fl k a b c d g i h).trans e))) e) (fun e=>aD e (fun e=>bu TH (eF fun a=>cP fun b=>hS fun e=>(Ls C fl k a b h).trans e) e) (fun e=>bu Ip (xB 5 (cP fun a=>cP fun b=>eF fun c=>cP fun d=>eF fun g=>cP fun i=>cP fun j=>hS fun e=>(Dy C fl k a b c d g i j h).trans e)) e))) (fun e=>aD e (fun e=>bu Iq (xB 5 (cP fun a=>cP fun b=>eF fun c=>cP fun d=>eF fun g=>cP fun i=>cP fun j=>xB 1 (eF fun m=>hS fun e=>(Dz C fl k a b c d g i j m h).trans e))) e) (fun e=>aD e (fun e=>bu aea (xB 5 (cP fun a=>cP fun b=>eF fun c=>cP fun d=>eF fun g=>hS fun e=>(UN C fl k a b c d g h).trans e)) e) (fun e=>bu aeb (xB 5 (cP fun a=>cP fun b=>eF fun c=>cP fun d=>eF fun g=>eF fun i=>hS fun e=>(UP C fl k a b c d g i h).trans e)) e)))))) (fun e=>aD e (fun e=>aD e (fun e=>aD e (fun e=>aD e (fun e=>bu VN (TW fun a=>xB 5 (cP fun b=>cP fun c=>eF fun d=>cP fun g=>eF fun i=>eF fun j=>hS fun e=>(NV C fl k a b c d g i j h).trans e)) e) (fun e=>aD e (fun e=>bu aae (xB 3 (cP fun a=>cP fun b=>eF fun c=>xB 2 (cP fun d=>eF fun g=>hS fun e=>(RC C fl k a b c d g h).trans e))) e) (fun e=>bu aec (xB 5 (cP fun a=>cP fun b=>eF fun c=>cP fun d=>eF fun g=>hS fun e=>(RD C fl k a b c d g h).trans e)) e))) (fun e=>aD e (fun e=>bu azk (xB 3 (cP fun a=>cP fun b=>eF fun c=>xB 2 (cP fun d=>eF fun g=>cP fun i=>hS fun e=>(amK C fl k a b c d g i h).trans e))) e) (fun e=>aD e (fun e=>bu Bh (xB 3 (cP fun a=>cP fun b=>eF fun c=>xB 2 (cP fun d=>eF fun g=>hS fun e=>(xr C fl k a b c d g h).trans e))) e) (fun e=>bu MG (cP fun a=>hS fun e=>(Hd C fl k a h).trans e) e)))) (fun e=>aD e (fun e=>aD e (fun e=>bu Yt (xB 3 (cP fun a=>cP fun b=>eF fun c=>hS fun e=>(Mr C fl k a b c h).trans e)) e) (fun e=>aD e (fun e=>bu pR (eF fun a=>cP fun b=>cP fun c=>dP_ fun d=>dP_ fun g=>dP_ fun i=>dP_ fun j=>hS fun e=>(mF C fl k a b c d g i j h).trans e) e) (fun e=>bu yH (TW fun a=>eF fun b=>cP fun c=>hS fun e=>(th C fl k a b c h).trans e) e))) (fun e=>aD e (fun e=>bu MH (xB 3 (cP fun a=>cP fun b=>eF fun c=>hS fun e=>(Hf C fl k a b c h).trans e)) e) (fun e=>aD e (fun e=>bu MI (xB 3 (cP fun a=>cP fun b=>eF fun c=>xB 2 (cP fun d=>eF fun g=>hS fun e=>(Hg C fl k a b c d g h).trans e))) e) (fun e=>bu TI (xB 3 (cP fun a=>cP fun b=>eF fun c=>xB 2 (cP fun d=>eF fun g=>hS fun e=>(Ja C fl k a b c d g h).trans e))) e))))) (fun e=>aD e (fun e=>aD e (fun e=>aD e (fun e=>bu VO (xB 3 (cP fun a=>cP fun b=>eF fun c=>xB 2 (cP fun d=>eF fun g=>eF fun i=>hS fun e=>(N8 C fl k a b c d g i h).trans e))) e) (fun e=>aD e (fun e=>bu Qe (xB 3 (cP fun a=>cP fun b=>eF fun c=>xB 2 (cP fun d=>eF fun g=>hS fun e=>(Jb C fl k a b c d g h).trans e))) e) (fun e=>bu akm (xB 3 (cP fun a=>cP fun b=>eF fun c=>xB 2 (cP fun d=>eF fun g=>xB 2 (cP fun i=>eF fun j=>hS fun e=>(acU C fl k a b c d g i j h).trans e)))) e))) (fun e=>aD e (fun e=>bu aed (eF fun a=>cP fun b=>hS fun e=>(U3 C fl k a b h).trans e) e) (fun e=>aD e (fun e=>bu VP (xB 5 (cP fun a=>cP fun b=>eF fun c=>cP fun d=>eF fun g=>cP fun i=>cP fun j=>hS fun e=>(Og C fl k a b c d g i j h).trans e)) e) (fun e=>bu GG (TW fun a=>hS fun e=>(CQ C fl k a h).trans e) e)))) (fun e=>aD e (fun e=>aD e (fun e=>bu C6 (TW fun a=>xB 1 (eF fun b=>hS fun e=>(AF C fl k a b h).trans e)) e) (fun e=>aD e (fun e=>bu Me (TW fun a=>eF fun b=>hS fun e=>(H9 C fl k a b h).trans e) e) (fun e=>bu VQ (xB 5 (cP fun a=>cP fun b=>eF fun c=>cP fun d=>eF fun g=>cP fun i=>hS fun e=>(Ox C fl k a b c d g i h).trans e)) e))) (fun e=>aD e (fun e=>bu MJ (xB 3 (cP fun a=>cP fun b=>eF fun c=>eF fun d=>hS fun e=>(Ht C fl k a b c d h).trans e)) e) (fun e=>aD e (fun e=>bu Jp (TW fun a=>eF fun b=>cP fun c=>hS fun e=>(DL C fl k a b c h).trans e) e) (fun e=>bu Jq (TW fun a=>cP fun b=>hS fun e=>(DM C fl k a b h).trans e) e))))))) (fun e=>aD e (fun e=>aD e (fun e=>aD e (fun e=>aD e (fun e=>aD e (fun e=>bu ar1 (xB 3 (cP fun a=>cP fun b=>eF fun c=>hS fun e=>(ai2 C fl k a b c h).trans e)) e) (fun e=>aD e (fun e=>bu MK (TW fun a=>cP fun b=>hS fun e=>(Hu C fl k a b h).trans e) e) (fun e=>bu Ew (TW fun a=>eF fun b=>hS fun e=>(AN C fl k a b h).trans e) e))) (fun e=>aD e (fun e=>bu akn (TW fun a=>eF fun b=>eF fun c=>cP fun d=>hS fun e=>(adh C fl k a b c d h).trans e) e) (fun e=>aD e (fun e=>bu ML (xB 3 (cP fun a=>cP fun b=>eF fun c=>hS fun e=>(Hv C fl k a b c h).trans e)) e) (fun e=>bu MM (cP fun a=>cP fun b=>hS fun e=>(Hw C fl k a b h).trans e) e)))) (fun e=>aD e (fun e=>aD e (fun e=>bu Cu (xB 3 (cP fun a=>cP fun b=>eF fun c=>cP fun d=>hS fun e=>(yr C fl k a b c d h).trans e)) e) (fun e=>aD e (fun e=>bu sP (eF fun a=>dV_ fun b=>hS fun e=>(oj C fl k a b h).trans e) e) (fun e=>bu tz (eF fun a=>dP_ fun b=>hS fun e=>(qo C fl k a b h).trans e) e))) (fun e=>aD e (fun e=>bu Jr (TW fun a=>cP fun b=>cP fun c=>hS fun e=>(DT C fl k a b c h).trans e) e) (fun e=>aD e (fun e=>bu Js (eF fun a=>hS fun e=>(DU C fl k a h).trans e) e) (fun e=>bu Jt (TW fun a=>cP fun b=>cP fun c=>hS fun e=>(DV C fl k a b c h).trans e) e))))) (fun e=>aD e (fun e=>aD e (fun e=>aD e (fun e=>bu Ju (TW fun a=>cP fun b=>cP fun c=>hS fun e=>(DW C fl k a b c h).trans e) e) (fun e=>aD e (fun e=>bu Bi (eF fun a=>eF fun b=>dV_ fun c=>hS fun e=>(xu C fl k a b c h).trans e) e) (fun e=>bu Jv (eF fun a=>eF fun b=>hS fun e=>(DZ C fl k a b h).trans e) e))) (fun e=>aD e (fun e=>bu VR (xB 5 (cP fun a=>cP fun b=>eF fun c=>cP fun d=>eF fun g=>cP fun i=>hS fun e=>(O5 C fl k a b c d g i h).trans e)) e) (fun e=>aD e (fun e=>bu Ex (TW fun a=>eF fun b=>eF fun c=>hS fun e=>(BC C fl k a b c h).trans e) e) (fun e=>bu Ey (TW fun a=>eF fun b=>eF fun c=>hS fun e=>(BD C fl k a b c h).trans e) e)))) (fun e=>aD e (fun e=>aD e (fun e=>bu Ir (cP fun a=>hS fun e=>(D4 C fl k a h).trans e) e) (fun e=>aD e (fun e=>bu Jw (TW fun a=>cP fun b=>hS fun e=>(D5 C fl k a b h).trans e) e) (fun e=>bu Ez (TW fun a=>cP fun b=>eF fun c=>hS fun e=>(AU C fl k a b c h).trans e) e))) (fun e=>aD e (fun e=>bu Jy (TW fun a=>xB 2 (cP fun b=>eF fun c=>hS fun e=>(D8 C fl k a b c h).trans e)) e) (fun e=>aD e (fun e=>bu Jz (eF fun a=>hS fun e=>(Ea C fl k a h).trans e) e) (fun e=>bu Bj (TW fun a=>eF fun b=>cP fun c=>eF fun d=>hS fun e=>(xv C fl k a b c d h).trans e) e)))))) (fun e=>aD e (fun e=>aD e (fun e=>aD e (fun e=>aD e (fun e=>bu MN (TW fun a=>cP fun b=>hS fun e=>(HD C fl k a b h).trans e) e) (fun e=>aD e (fun e=>bu TK (TW fun a=>eF fun b=>cP fun c=>eF fun d=>hS fun e=>(Jk C fl k a b c d h).trans e) e) (fun e=>bu HQ (cP fun a=>hS fun e=>(Ch C fl k a h).trans e) e))) (fun e=>aD e (fun e=>bu JA (xB 3 (cP fun a=>cP fun b=>eF fun c=>cP fun d=>cP fun g=>hS fun e=>(Ef C fl k a b c d g h).trans e)) e) (fun e=>aD e (fun e=>bu EA (xB 3 (cP fun a=>cP fun b=>eF fun c=>cP fun d=>cP fun g=>hS fun e=>(A2 C fl k a b c d g h).trans e)) e) (fun e=>bu JB (TW fun a=>cP fun b=>cP fun c=>hS fun e=>(Eg C fl k a b c h).trans e) e)))) (fun e=>aD e (fun e=>aD e (fun e=>bu ao7 (cP fun a=>hS fun e=>(afF C fl k a h).trans e) e) (fun e=>aD e (fun e=>bu C7 (TW fun a=>eF fun b=>cP fun c=>hS fun e=>(A5 C fl k a b c h).trans e) e) (fun e=>bu BK (TW fun a=>eF fun b=>eF fun c=>hS fun e=>(zy C fl k a b c h).trans e) e))) (fun e=>aD e (fun e=>bu aga (eF fun a=>hS fun e=>(Z2 C fl k a h).trans e) e) (fun e=>aD e (fun e=>bu EB (TW fun a=>eF fun b=>eF fun c=>hS fun e=>(BG C fl k a b c h).trans e) e) (fun e=>bu Bk (TW fun a=>eF fun b=>eF fun c=>eF fun d=>dV_ fun g=>hS fun e=>(xS C fl k a b c d g h).trans e) e))))) (fun e=>aD e (fun e=>aD e (fun e=>aD e (fun e=>bu EC (cP fun a=>cP fun b=>cP fun c=>hS fun e=>(A7 C fl k a b c h).trans e) e) (fun e=>aD e (fun e=>bu HR (eF fun a=>cP fun b=>hS fun e=>(Cn C fl k a b h).trans e) e) (fun e=>bu Is (TW fun a=>eF fun b=>hS fun e=>(Er C fl k a b h).trans e) e))) (fun e=>aD e (fun e=>bu C8 (TW fun a=>cP fun b=>hS fun e=>(Be C fl k a b h).trans e) e) (fun e=>aD e (fun e=>bu aah (dV_ fun a=>hS fun e=>(Tu C fl k a h).trans e) e) (fun e=>bu aai (eF fun a=>hS fun e=>(Tv C fl k a h).trans e) e)))) (fun e=>aD e (fun e=>aD e (fun e=>bu ED (eF fun a=>cP fun b=>cP fun c=>cP fun d=>hS fun e=>(BI C fl k a b c d h).trans e) e) (fun e=>aD e (fun e=>bu aaj (cP fun a=>hS fun e=>(Tz C fl k a h).trans e) e) (fun e=>bu EE (cP fun a=>hS fun e=>(BJ C fl k a h).trans e) e))) (fun e=>aD e (fun e=>aD e (fun e=>bu VS (dV_ fun a=>hS fun e=>(P8 C fl k a h).trans e) e) (fun e=>bu xx (eF fun a=>cP fun b=>cP fun c=>hS fun e=>(sY C fl k a b c h).trans e) e)) (fun e=>aD e (fun e=>bu ar4 (cP fun a=>cP fun b=>hS fun e=>(akl C fl k a b h).trans e) e) (fun e=>bu TL (cP fun a=>hS fun e=>(L8 C fl k a h).trans e) e)))))))
end Go.Abs.P
end
section
set_option maxRecDepth 100000
namespace Go.Abs.P
open Go.Abs Go.Proofs
def okB(o:Option (Value×AH)):Bool:=match o with
 |some (.bool b,_)=>b
 |_=>false
theorem aMD{o:Option (Value×AH)}(h:okB o=true):∃h1,o=some (.bool true,h1):=by
 unfold okB at h
 split at h
 ·subst h;exact⟨_,rfl⟩
 ·cases h
theorem ar5:okB (aBi apb sqE 60 0 fn.ey [] ⟨0,fun _=>none⟩)=true:=by kernel_rfl
theorem mixed:Tryz.prog.follows .mixedOrders=true:=by kernel_rfl
noncomputable def M0:Callee:=CC (shT Tryz.prog T) sqE
theorem aE5:gF Tryz.prog M0:=aln mixed agM (aBh aQe)
theorem aME:∀fl f args h r,sqE fl f args h=some r→T f=none:=by
 intro fl f args h r e
 obtain⟨rfl,_⟩:=aax (v:=r.1) (h1:=r.2) e
 kernel_rfl
def ar6:Callee:=abP fn.ey (.bool true)
theorem akr:gF Tryz.prog ar6:=by
 obtain⟨h1,e⟩:=aMD ar5
 exact ahJ aE5 (alo aQe aME (fun C=>azl C sqE) 60 _ _ _ _ _ e)
def Tl:FuncId→Option aK:=fun f=>if f=fn.ey∨f=fn.bX then none else T f
theorem aOP:∀f af,Tl f=some af→okF Tryz.prog f af=true:=by
 intro f af h
 unfold Tl at h
 split at h
 ·cases h
 ·exact aQe f af h
noncomputable def M:Callee:=CC (shT Tryz.prog Tl) (orE (orE sqE swE) ar6)
theorem aMF:gF Tryz.prog M:=aln mixed (agH (agH agM axY) akr) (aBh aOP)
theorem bF{f:FuncId}{af:aK}(h1:¬(f=fn.ey∨f=fn.bX))(h2:T f=some af){fl k:Nat}{args:List Value}{h:AH}{r:Value×AH}(e:aV M fl k af args h=some r):M fl f args h=some r:=
 atg aOP (by unfold Tl;rw[if_neg h1];exact h2) e
theorem aks(fl:Nat)(h:AH):M fl fn.ey [] h=some (.bool true,h):=by
 refine aq0 ?_ ?_
 ·unfold shT Tl;rw[if_pos (.inl rfl)];rfl
 ·unfold orE
  have:sqE fl fn.ey [] h=none:=rfl
  rw[this]
  have:swE fl fn.ey [] h=none:=rfl
  rw[this]
  simp[ar6,abP]
theorem aQf{fl:Nat}{args:List Value}{h:AH}{r:Value×AH}(e:swE fl fn.bX args h=some r):M fl fn.bX args h=some r:=by
 refine aq0 ?_ ?_
 ·unfold shT Tl;rw[if_pos (.inr rfl)];rfl
 ·unfold orE
  have:sqE fl fn.bX args h=none:=rfl
  rw[this,e]
end Go.Abs.P
end
section
namespace Go.Abs.P
open Go.Abs
def ow:Nat:=9223372036854775807
theorem gr{i:Nat}(h:i<ow):av ((i:Int)+1)=((i+1:Nat):Int):=by
 unfold ow at h
 rw[mj (by omega) (by omega)];omega
theorem agb{R:Type}(C:Callee)(fl k:Nat)(kn:au R)(kr:aC R){h:AH}{s t:Sl}{xs ys:List Int}(hs:SI h s xs)(ht:SI h t ys)(hl:xs.length=ys.length)(hb:xs.length≤ow):
 ∀(d i m:Nat),i+d=xs.length→d<m→Du C fl k kn kr m s t (i:Int) h=if xs.drop i=ys.drop i then kn h else kr false h:=by
 intro d
 induction d with
 |zero=>
  intro i m hi hm
  obtain⟨m,rfl⟩:∃j,m=j+1:=⟨m-1,by omega⟩
  show tN C fl k _ _ kr s t (i:Int) h=_
  unfold tN
  rw[if_neg (by rw[hs.len];simp;omega),List.drop_of_length_le (by omega),List.drop_of_length_le (by omega),if_pos rfl]
 |succ d ih=>
  intro i m hi hm
  obtain⟨m,rfl⟩:∃j,m=j+1:=⟨m-1,by omega⟩
  show tN C fl k _ _ kr s t (i:Int) h=_
  unfold tN
  rw[if_pos (by rw[hs.len];simp;omega),hs.read (by omega) (by simp;omega),ht.read (by omega) (by simp;omega)]
  simp only[Int.toNat_natCast]
  rw[List.drop_eq_getElem_cons (show i<xs.length by omega),List.drop_eq_getElem_cons (show i<ys.length by omega),gr (by omega)]
  by_cases e:xs[i]=ys[i]
  ·rw[if_neg (by simp[e]),ih (i+1) m (by omega) (by omega)]
   simp only[List.cons.injEq,e,true_and]
  ·rw[if_pos (by simp[e])]
   simp only[List.cons.injEq,e,false_and,if_false]
theorem C9{fl:Nat}{h:AH}{s t:Sl}{xs ys:List Int}(hs:SI h s xs)(ht:SI h t ys)(hb:xs.length≤ow):M fl fn.cN [.slice s.a s.l s.c,.slice t.a t.l t.c] h=some (.bool (decide (xs=ys)),h):=by
 refine bF (k:=xs.length+1) (by decide) Es ?_
 rw[z9]
 unfold cN aBW ah8
 by_cases hl:xs.length=ys.length
 ·rw[if_neg (by rw[hs.len,ht.len];simp[hl])]
  have:=agb M fl (xs.length+1) (J9 M fl (xs.length+1) (fun(y4:Bool) q=>some (Value.bool y4,q))) (fun(y4:Bool) q=>some (Value.bool y4,q)) hs ht hl hb xs.length 0 (xs.length+1) (by omega) (by omega)
  refine this.trans ?_
  by_cases e:xs=ys
  ·simp[e,J9]
  ·simp[e]
 ·have e:xs≠ys:=fun e=>hl (by rw[e])
  rw[if_pos (by rw[hs.len,ht.len];simp;omega)]
  simp[e]
end Go.Abs.P
end
section
namespace Go.Abs.P
open Go.Abs
end Go.Abs.P
end
section
namespace Go.Abs.P
open Go.Abs
def kW(xs:List Int)(i:Nat):Nat→List Int
 |0=>[]
 |d+1=>(if (i:Int)∈xs then [] else [(i:Int)])++kW xs (i+1) d
theorem azm{R:Type}(C:Callee)(fl k:Nat)(kn:Kl R){h:AH}{s:Sl}{xs:List Int}(n:Int)(out:Sl)(x:Int)(hs:SI h s xs)(hb:xs.length≤ow):
 ∀(d i m:Nat) (b:Bool),i+d=xs.length→d<m→jj C fl k kn m s n out x b (i:Int) h=kn s n out x (b||decide (x∈xs.drop i)) h:=by
 intro d
 induction d with
 |zero=>
  intro i m b hi hm
  obtain⟨m,rfl⟩:∃j,m=j+1:=⟨m-1,by omega⟩
  show eY C fl k _ _ s n out x b (i:Int) h=_
  unfold eY im
  rw[if_neg (by rw[hs.len];simp;omega),List.drop_of_length_le (by omega)]
  simp
 |succ d ih=>
  intro i m b hi hm
  obtain⟨m,rfl⟩:∃j,m=j+1:=⟨m-1,by omega⟩
  show eY C fl k _ _ s n out x b (i:Int) h=_
  unfold eY im
  have hlt:i<xs.length:=by omega
  rw[if_pos (by rw[hs.len];simp;omega),List.drop_eq_getElem_cons hlt]
  cases b with
  |false=>
   rw[if_pos rfl,hs.read (by omega) (by simp;omega)]
   simp only[Int.toNat_natCast]
   unfold jU
   rw[gr (by omega),ih (i+1) m _ (by omega) (by omega)]
   congr 1
   by_cases e:xs[i]=x
   ·simp[e]
   ·have e2:¬x=xs[i]:=fun h=>e h.symm
    have e3:(xs[i]==x)=false:=by simp[e]
    simp only[e3,Bool.false_or,List.mem_cons,e2,false_or]
  |true=>
   rw[if_neg (by simp)]
   unfold jU
   rw[gr (by omega),ih (i+1) m _ (by omega) (by omega)]
   simp
theorem apc{R:Type}(C:Callee){fl k n0:Nat}(kn:ab R){h0:AH}{s:Sl}{xs:List Int}(n:Nat)(hs:SI h0 s xs)(hb:xs.length<ow)(hn0:h0.next=n0)(bR:fl≤n0)(hn:n≤1000000000)(hk:xs.length<k):
 ∀(d i m:Nat) (out:Sl) (ys:List Int) (h:AH),i+d=n→d<m→ys.length≤i→OI n0 h out ys→an h0 h→
 ∃agp h',qj C fl k kn m s (n:Int) out (i:Int) h=kn agp h'∧OI n0 h' agp (ys++kW xs i d)∧an h0 h':=by
 intro d
 induction d with
 |zero=>
  intro i m out ys h hi hm hy ho hq
  obtain⟨m,rfl⟩:∃j,m=j+1:=⟨m-1,by omega⟩
  refine⟨out,h,?_,by simpa [kW] using ho,hq⟩
  show tY C fl k _ _ s (n:Int) out (i:Int) h=_
  unfold tY Ar
  rw[if_neg (by simp;omega)]
 |succ d ih=>
  intro i m out ys h hi hm hy ho hq
  obtain⟨m,rfl⟩:∃j,m=j+1:=⟨m-1,by omega⟩
  have step:qj C fl k kn (m+1) s (n:Int) out (i:Int) h=lO C fl k (jx C fl k (qj C fl k kn m) kn) s (n:Int) out (i:Int) (false||decide ((i:Int)∈xs.drop 0)) h:=by
   show tY C fl k _ _ s (n:Int) out (i:Int) h=_
   unfold tY Ar
   rw[if_pos (by simp;omega)]
   unfold I7 yY vX ru xG
   exact azm C fl k _ (n:Int) out (i:Int) (hs.quiet hq) (by omega) xs.length 0 k false (by omega) (by omega)
  rw[step]
  simp only[List.drop_zero,Bool.false_or]
  unfold lO
  by_cases e:(i:Int)∈xs
  ·rw[if_neg (by simp[e])]
   unfold jx
   rw[gr (by unfold ow;omega)]
   obtain⟨agp,h',e1,e2,e3⟩:=ih (i+1) m out ys h (by omega) (by omega) (by omega) ho hq
   exact⟨agp,h',e1,by simpa [kW,e] using e2,e3⟩
  ·rw[if_pos (by simp[e])]
   obtain⟨o2,h2,e1,e2,e3⟩:=ho.push hq hn0 bR (by unfold kc;omega) (i:Int) (fun s3 h4=>jx C fl k (qj C fl k kn m) kn s (n:Int) s3 (i:Int) h4)
   rw[e1]
   unfold jx
   rw[gr (by unfold ow;omega)]
   obtain⟨agp,h',f1,f2,f3⟩:=ih (i+1) m o2 (ys++[(i:Int)]) h2 (by omega) (by omega) (by simp;omega) e2 e3
   exact⟨agp,h',f1,by simpa [kW,e] using f2,f3⟩
theorem apd{fl:Nat}{h:AH}{s:Sl}{xs:List Int}(n:Nat)(hs:SI h s xs)(hb:xs.length<ow)(bR:fl≤h.next)(hn:n≤1000000000):
 ∃(s':Sl) (h':AH),M fl fn.yO [.slice s.a s.l s.c,.int .i64 n] h=some (.slice s'.a s'.l s'.c,h')∧OI h.next h' s' (kW xs 0 n)∧an h h':=by
 obtain⟨s',h',e1,e2,e3⟩:=apc (R:=Value×AH) M (fl:=fl) (k:=xs.length+n+1) (UL M fl (xs.length+n+1) (fun(y4:Sl) q=>some (Value.slice y4.a y4.l y4.c,q))) n hs hb rfl bR hn (by omega) n 0 (xs.length+n+1) ⟨none,0,0⟩ [] h (by omega) (by omega) (by simp) (.inl ⟨rfl,rfl⟩) (an.refl h)
 refine⟨s',h',?_,by simpa using e2,e3⟩
 refine bF (k:=xs.length+n+1) (by decide) ad9 ?_
 rw[UM]
 exact e1
end Go.Abs.P
end
section
namespace Go.Abs.P
open Go.Abs
end Go.Abs.P
end
section
namespace Go.Abs.P
open Go.Abs
end Go.Abs.P
end
section
namespace Go.Abs.P
open Go.Abs
end Go.Abs.P
end
section
namespace Go.Abs.P
open Go.Abs
end Go.Abs.P
end
section
namespace Go.Abs.P
open Go.Abs Go.Fld
theorem agc{R:Type}{fl k:Nat}(kn:ab R){h0:AH}{b p:Nat}(hp:0<p)(bR:fl≤b)(hb:h0.next≤b)(m:Nat)(hm:m<ow):
 ∀(d i f x:Nat) (pre:List Nat) (h:AH),i+d=m→d<f→pre.length=i→x<9223372036854775808→OB h b (iv (ints (pre++List.replicate d 0)))→an h0 h→
 ∃h',Ej M fl k kn f (x:Int) (p:Int) ⟨some ⟨b,0,none⟩,m,m⟩ (m:Int) (i:Int) h=kn ⟨some ⟨b,0,none⟩,m,m⟩ h'∧OB h' b (iv (ints (pre++bn p d x)))∧an h0 h':=by
 intro d
 induction d with
 |zero=>
  intro i f x pre h hi hf agu hx ho hq
  obtain⟨f,rfl⟩:∃j,f=j+1:=⟨f-1,by omega⟩
  refine⟨h,?_,ho,hq⟩
  show vb M fl k _ _ (x:Int) (p:Int) _ (m:Int) (i:Int) h=_
  unfold vb
  rw[if_neg (by simp;omega)]
 |succ d ih=>
  intro i f x pre h hi hf agu hx ho hq
  obtain⟨f,rfl⟩:∃j,f=j+1:=⟨f-1,by omega⟩
  have hs:(iv (ints (pre++List.replicate (d+1) 0))).set (0+i) (.int .i64 ((x%p:Nat):Int))=iv (ints ((pre++[x%p])++List.replicate d 0)):=by
   rw[lu,ints_set,List.set_append_right _ _ (by omega),show 0+i-pre.length=0 by omega,List.replicate_succ,List.set_cons_zero];simp
  have ho2:OB (h.put b (some (iv (ints ((pre++[x%p])++List.replicate d 0))))) b (iv (ints ((pre++[x%p])++List.replicate d 0))):=ho.put _
  obtain⟨h',e1,e2,e3⟩:=ih (i+1) f (x/p) (pre++[x%p]) _ (by omega) (by omega) (by simp;omega) (Nat.lt_of_le_of_lt (Nat.div_le_self x p) hx) ho2 (hq.put hb _)
  refine⟨h',?_,by simpa [bn] using e2,e3⟩
  show vb M fl k _ _ (x:Int) (p:Int) _ (m:Int) (i:Int) h=_
  unfold vb
  rw[if_pos (by simp;omega),iX hp,bC rfl (show i<m by omega),ho.st bR (by simp;omega) rfl,hs,J5 hp hx,gr (by omega)]
  exact e1
theorem MO{fl:Nat}{h:AH}{x p m:Nat}(hp:0<p)(hm:m≤64)(hx:x<9223372036854775808)(bR:fl≤h.next):
 ∃h',M fl fn.il [.int .i64 (x:Int),.int .i64 (p:Int),.int .i64 (m:Int)] h=some (.slice (some ⟨h.next,0,none⟩) m m,h')∧OB h' h.next (iv (ints (bn p m x)))∧an h h':=by
 have ho:=OB.alloc h (List.replicate m (Value.int .i64 0))
 rw[qM] at ho
 obtain⟨h',e1,e2,e3⟩:=agc (fl:=fl) (k:=m+1) (VB M fl (m+1) (fun(y6:Sl) q=>some (Value.slice y6.a y6.l y6.c,q))) hp bR (Nat.le_refl _) m (by unfold ow;omega) m 0 (m+1) x [] _ (by omega) (by omega) rfl hx ho (an.alloc h _)
 refine⟨h',bF (k:=m+1) (by decide) EC ?_,e2,e3⟩
 rw[A7]
 unfold il aEL aj8
 rw[j7 (by unfold kc;omega),qM]
 exact e1
theorem akt{R:Type}{fl k:Nat}(kn:ah R){h:AH}{s:Sl}{l:List Nat}{p:Nat}(hs:SI h s (ints l))(hsm:Small p l)(hb:p^l.length≤9223372036854775808)(hl:l.length≤64):
 ∀(i f:Nat),i≤l.length→i<f→
 Ek M fl k kn f s (p:Int) ((eH p (l.drop i):Nat):Int) ((i:Int)-1) h=kn ((eH p l:Nat):Int) h:=by
 intro i
 induction i with
 |zero=>
  intro f hi hf
  obtain⟨f,rfl⟩:∃j,f=j+1:=⟨f-1,by omega⟩
  show vc M fl k _ _ s (p:Int) _ _ h=_
  unfold vc
  rw[if_neg (by simp),List.drop_zero]
 |succ i ih=>
  intro f hi hf
  obtain⟨f,rfl⟩:∃j,f=j+1:=⟨f-1,by omega⟩
  show vc M fl k _ _ s (p:Int) _ _ h=_
  unfold vc
  have e1:((i+1:Nat):Int)-1=(i:Int):=by omega
  rw[e1,if_pos (by simp),hs.read (by omega) (by simp;omega)]
  simp only[Int.toNat_natCast,dW]
  have hd:l.drop i=l[i]::l.drop (i+1):=List.drop_eq_getElem_cons (by omega)
  have hlt:eH p (l.drop i)<9223372036854775808:=by
   have h1:=aq9 (l.drop i) (fun a ha=>hsm a (List.mem_of_mem_drop ha))
   have h2:p^(l.drop i).length≤p^l.length:=Nat.pow_le_pow_right (by have:=hsm l[i] (List.getElem_mem _);omega) (by simp)
   omega
  have hv:eH p (l.drop i)=l[i]+p*eH p (l.drop (i+1)):=by rw[hd];rfl
  have e2:av (((eH p (l.drop (i+1)):Nat):Int)*(p:Int))=((p*eH p (l.drop (i+1)):Nat):Int):=aH _ (by push_cast;rw[Int.mul_comm]) (by omega)
  rw[e2,aH (eH p (l.drop i)) (by rw[hv];push_cast;omega) hlt,mj (by omega) (by omega)]
  exact ih f (by omega) (by omega)
theorem aku{fl:Nat}{h:AH}{s:Sl}{l:List Nat}{p:Nat}(hs:SI h s (ints l))(hsm:Small p l)(hb:p^l.length≤9223372036854775808)(hl:l.length≤64):
 M fl fn.lf [.slice s.a s.l s.c,.int .i64 (p:Int)] h=some (.int .i64 ((eH p l:Nat):Int),h):=by
 refine bF (k:=l.length+1) (by decide) HR ?_
 rw[Cn]
 unfold lf aEN akb aka
 rw[hs.len,mj (by simp;omega) (by simp;omega)]
 have:=akt (fl:=fl) (k:=l.length+1) (VD M fl (l.length+1) (fun(y4:Int) q=>some (Value.int .i64 y4,q))) hs hsm hb hl l.length (l.length+1) (by omega) (by omega)
 simp only[List.drop_length] at this
 simp only[dt]
 exact this
def sqP(n:Nat):Nat→Nat→Bool
 |0,_=>true
 |k+1,d=>if d*d≤n then (if n%d=0 then false else sqP n k (d+1)) else true
theorem akv{R:Type}{fl k:Nat}(kn:ah R)(kr:aC R){h:AH}{n:Nat}(hn:n≤256):
 ∀(j d f:Nat),0<d→d+j=18→j<f→Ed M fl k kn kr f (n:Int) (d:Int) h=if sqP n j d=true then kn (n:Int) h else kr false h:=by
 intro j
 induction j with
 |zero=>
  intro d f h0 hd hf
  obtain⟨f,rfl⟩:∃j,f=j+1:=⟨f-1,by omega⟩
  obtain rfl:d=18:=by omega
  show uU M fl k _ _ kr (n:Int) _ h=_
  unfold uU
  rw[show av (((18:Nat):Int)*((18:Nat):Int))=324 from by rw[mj (by omega) (by omega)];rfl,if_neg (by simp;omega)]
  simp[sqP]
 |succ j ih=>
  intro d f h0 hd hf
  obtain⟨f,rfl⟩:∃j,f=j+1:=⟨f-1,by omega⟩
  show uU M fl k _ _ kr (n:Int) _ h=_
  unfold uU
  have hdd:d*d≤18*18:=Nat.mul_le_mul (by omega) (by omega)
  rw[aH (d*d) (by push_cast;rfl) (by omega)]
  unfold sqP
  by_cases c:d*d≤n
  ·rw[if_pos (by simp;exact_mod_cast c),iX h0,if_pos c]
   by_cases c2:n%d=0
   ·rw[if_pos (by simp[c2]),if_pos c2];rfl
   ·rw[if_neg (by simp;omega),if_neg c2,aH (d+1) (by push_cast;rfl) (by omega)]
    exact ih (d+1) f (by omega) (by omega) (by omega)
  ·rw[if_neg (by simp;exact_mod_cast Nat.lt_of_not_le c),if_neg c];rfl
theorem aQg:∀n<257,2≤n→sqP n 16 2=FD.prB n:=by decide+kernel
theorem akw{fl:Nat}{h:AH}{n:Nat}(hn:n≤256)(h2:2≤n):M fl fn.la [.int .i64 (n:Int)] h=some (.bool (FD.prB n),h):=by
 refine bF (k:=18) (by decide) HQ ?_
 rw[Ch]
 unfold la aEd ajK ajJ
 have:=akv (fl:=fl) (k:=18) (K1 M fl 18 (fun(y2:Bool) q=>some (Value.bool y2,q))) (fun(y2:Bool) q=>some (Value.bool y2,q)) (h:=h) hn 16 2 18 (by omega) (by omega) (by omega)
 refine this.trans ?_
 rw[←aQg n (by omega) h2]
 by_cases c:sqP n 16 2=true
 ·rw[if_pos c,c]
  unfold K1
  rw[show decide ((n:Int)≥2)=true by simp;omega]
 ·rw[if_neg c];simp only[Bool.not_eq_true] at c;rw[c]
def It(p m:Int):Nat:=if p<2∨m<1∨m>8∨p>256 then 0 else if p.toNat^m.toNat≤256 then p.toNat^m.toNat else 0
theorem ar7{R:Type}{fl k:Nat}(kn:ah R)(kr:ah R){h:AH}{p m:Nat}(hp:2≤p)(hp2:p≤256):
 ∀(j i f:Nat),i+j=m→j<f→p^i≤256→m≤8→DP M fl k kn kr f (p:Int) ((p^i:Nat):Int) (m:Int) (i:Int) h=if p^m≤256 then kn ((p^m:Nat):Int) h else kr 0 h:=by
 intro j
 induction j with
 |zero=>
  intro i f hi hf hle hm
  obtain⟨f,rfl⟩:∃j,f=j+1:=⟨f-1,by omega⟩
  obtain rfl:i=m:=by omega
  show uB M fl k _ _ kr (p:Int) _ _ _ h=_
  unfold uB
  rw[if_neg (by simp),if_pos hle]
 |succ j ih=>
  intro i f hi hf hle hm
  obtain⟨f,rfl⟩:∃j,f=j+1:=⟨f-1,by omega⟩
  show uB M fl k _ _ kr (p:Int) _ _ _ h=_
  unfold uB
  have h1:p^i*p≤256*256:=Nat.mul_le_mul hle hp2
  have ih:=ih (i+1) f (by omega) (by omega)
  have h3:p^(i+1)≤p^m:=Nat.pow_le_pow_right (by omega) (by omega)
  obtain⟨P,hP⟩:∃P,P=p^(i+1):=⟨_,rfl⟩
  have e:p^i*p=P:=hP.symm
  rw[←hP] at ih h3
  rw[if_pos (by simp;omega),aH P (by rw[←e];push_cast;rfl) (by omega),aH (i+1) (by push_cast;rfl) (by omega)]
  by_cases c:P≤256
  ·rw[if_neg (by rw[decide_eq_true_eq];omega)]
   exact ih c hm
  ·rw[if_pos (by rw[decide_eq_true_eq];omega),if_neg (by omega)]
theorem GH{fl:Nat}{h:AH}(p m:Int):M fl fn.jf [.int .i64 p,.int .i64 m] h=some (.int .i64 ((It p m:Nat):Int),h):=by
 refine bF (k:=10) (by decide) MM ?_
 rw[Hw]
 unfold jf aDr ajb It
 by_cases h1:p<2
 ·rw[if_neg (by simp[h1]),if_pos (.inl h1)];rfl
 ·rw[if_pos (by simp;omega)]
  by_cases h2:p>256
  ·rw[if_neg (by simp;omega),if_pos (by omega)];rfl
  ·rw[if_pos (by simp;omega)]
   by_cases h3:m<1
   ·rw[if_neg (by simp;omega),if_pos (by omega)];rfl
   ·rw[if_pos (by simp;omega)]
    by_cases h4:m>8
    ·rw[if_pos (by simp;omega),if_pos (by omega)];rfl
    ·rw[if_neg (by simp;omega),if_neg (by omega)]
     obtain⟨p,rfl⟩:∃n:Nat,p=n:=⟨p.toNat,by omega⟩
     obtain⟨m,rfl⟩:∃n:Nat,m=n:=⟨m.toNat,by omega⟩
     have:=ar7 (fl:=fl) (k:=10) (Vd M fl 10 (fun(y4:Int) q=>some (Value.int .i64 y4,q))) (fun(y4:Int) q=>some (Value.int .i64 y4,q)) (h:=h) (p:=p) (m:=m) (by omega) (by omega) m 0 10 (by omega) (by omega) (by simp) (by omega)
     refine Eq.trans this ?_
     simp only[Int.toNat_natCast]
     by_cases c:p^m≤256
     ·rw[if_pos c,if_pos c];rfl
     ·rw[if_neg c,if_neg c];rfl
end Go.Abs.P
end
section
namespace Go.Abs
theorem aeg(cs:List Value)(o:Nat)(xs:List Value)(h:o+xs.length=cs.length):nQ cs o xs=cs.take o++xs:=by
 induction xs generalizing cs o with
 |nil=>simp at h;simp[nQ,List.take_of_length_le (Nat.le_of_eq h.symm)]
 |cons x xs ih=>
  simp only[nQ]
  rw[ih _ _ (by simp at h ⊢;omega),List.take_set,List.take_add_one,List.getElem?_eq_getElem (by simp at h;omega)]
  have:(List.take o cs).length=o:=by simp at h ⊢;omega
  rw[Option.toList_some,List.set_append_right _ _ (by omega),this]
  simp
theorem nK(a b:List Int):iv (a++b)=iv a++iv b:=by simp[iv]
theorem akx(a:List Int)(n:Nat):(iv a).take n=iv (a.take n):=by simp[iv,List.map_take]
theorem kh(a b:List Nat):ints (a++b)=ints a++ints b:=by simp[ints]
theorem ahe(a:List Nat)(n:Nat):(ints a).take n=ints (a.take n):=by simp[ints,List.map_take]
theorem aMG(a:List Int):(iv a).all De=true:=by simp[iv,List.all_map];intro x _;rfl
end Go.Abs
namespace Go.Abs.P
open Go.Abs Go.Fld
theorem azn(p top b:Nat)(os ls az:List Nat)(i:Nat)(h1:i<os.length)(h2:i<ls.length)(h3:i<az.length)(h:i<(kd p top b os ls az).length):
 (kd p top b os ls az)[i]=(os[i]+(p-top)*ls[i]+b*az[i])%p:=by
 induction os generalizing ls az i with
 |nil=>cases h1
 |cons o os ih=>cases ls with
  |nil=>cases h2
  |cons l ls=>cases az with
   |nil=>cases h3
   |cons a az=>cases i with
    |zero=>simp[kd]
    |succ i=>simp only[kd,List.getElem_cons_succ];exact ih ls az i _ _ _ _
theorem azo(p top b:Nat)(os ls az:List Nat)(n:Nat)(hn:ls.length≤n):kd p top b (os.take n) ls az=kd p top b os ls az:=by
 induction os generalizing ls az n with
 |nil=>simp
 |cons o os ih=>cases ls with
  |nil=>cases n<;>simp[kd]
  |cons l ls=>cases az with
   |nil=>cases n<;>simp[kd]
   |cons a az=>
    obtain⟨n,rfl⟩:∃k,n=k+1:=⟨n-1,by simp at hn;omega⟩
    simp only[List.take_succ_cons,kd]
    rw[ih ls az n (by simpa using hn)]
def kX(D:FD):List Nat:=if D.m=1 then [] else D.low
structure FOK(D:FD):Prop where
 q:D.q≤256
 one:D.m=1→D.low=[0]
theorem FOK.p{D:FD}(f:FOK D):D.p≤256:=by
 have h1:=f.q
 have h2:D.p^1≤D.p^D.m:=Nat.pow_le_pow_right (by have:=D.hp;omega) D.hm
 unfold FD.q at h1
 rw[Nat.pow_one] at h2
 omega
theorem FOK.m{D:FD}(f:FOK D):D.m≤8:=by
 have h1:=f.q
 refine Classical.byContradiction fun hc=>?_
 have h3:2^9≤D.p^9:=Nat.pow_le_pow_left D.hp 9
 have h2:D.p^9≤D.p^D.m:=Nat.pow_le_pow_right (by have:=D.hp;omega) (by omega)
 unfold FD.q at h1
 omega
theorem aMH{p top o l b a:Nat}(hp:p≤256)(ht:top≤p)(ho:o<256)(hl:l<256)(hb:b<256)(ha:a<256):
 av (av ((o:Int)+(av (av ((p:Int)-(top:Int))*(l:Int))))+(av ((b:Int)*(a:Int))))=((o+(p-top)*l+b*a:Nat):Int):=by
 have h1:(p-top)*l≤256*256:=Nat.mul_le_mul (by omega) (by omega)
 have h2:b*a≤256*256:=Nat.mul_le_mul (by omega) (by omega)
 have e1:av ((p:Int)-(top:Int))=((p-top:Nat):Int):=aH (p-top) (by omega) (by omega)
 have e2:av (((p-top:Nat):Int)*(l:Int))=(((p-top)*l:Nat):Int):=aH _ (by push_cast;rfl) (by omega)
 have e3:av ((b:Int)*(a:Int))=((b*a:Nat):Int):=aH _ (by push_cast;rfl) (by omega)
 have e4:av ((o:Int)+(((p-top)*l:Nat):Int))=((o+(p-top)*l:Nat):Int):=aH _ (by push_cast;rfl) (by omega)
 have e5:av (((o+(p-top)*l:Nat):Int)+((b*a:Nat):Int))=((o+(p-top)*l+b*a:Nat):Int):=aH _ (by push_cast;rfl) (by omega)
 rw[e1,e2,e3,e4,e5]
section
variable{D:FD}{fl k:Nat}{h0:AH}{bx:Nat}{mod ta tb:Sl}{a bs:List Nat}{bo:Nat}
theorem ar8{R:Type}(kn:bG R)(f:FOK D)(hx:OB h0 bx [.int .i64 (D.p:Int),.int .i64 (D.m:Int),.slice mod.a mod.l mod.c])(bL:SI h0 mod (ints (kX D)))
 (ha:SI h0 ta (ints a)) (hla:a.length=D.m) (hsa:Small D.p a) (hb:SI h0 tb (ints bs)) (hlb:bs.length=D.m) (hsb:Small D.p bs) (hbo:h0.next≤bo) (bR:fl≤bo)
 (sh:List Nat) (hsh:sh.length=D.m) (hss:Small D.p sh) (top ib:Nat) (ht:top≤D.p) (hib:ib<bs.length):
 ∀(d i g:Nat) (h:AH),i+d=D.m→d<g→OB h bo (iv (ints ((kd D.p top bs[ib] sh D.low a).take i++sh.drop i)))→an h0 h→
 ∃h',jr M fl k kn g ⟨bx,0,none⟩ ta tb ⟨some ⟨bo,0,none⟩,D.m,D.m⟩ (ib:Int) (top:Int) (D.m:Int) (i:Int) h=kn ⟨bx,0,none⟩ ta tb ⟨some ⟨bo,0,none⟩,D.m,D.m⟩ (ib:Int) h'∧
  OB h' bo (iv (ints (kd D.p top bs[ib] sh D.low a)))∧an h0 h':=by
 have hp:=f.p
 have hm:=f.m
 have hlen:(kd D.p top bs[ib] sh D.low a).length=D.m:=by rw[Wd,hsh,D.hl,hla];simp
 intro d
 induction d with
 |zero=>
  intro i g h hi hg ho hq
  obtain⟨g,rfl⟩:∃j,g=j+1:=⟨g-1,by omega⟩
  refine⟨h,?_,?_,hq⟩
  ·show ft M fl k _ _ _ ta tb _ _ _ _ _ h=_
   unfold ft iu
   rw[if_neg (by simp;omega)]
  ·rw[List.take_of_length_le (by omega),List.drop_of_length_le (by omega),List.append_nil] at ho
   exact ho
 |succ d ih=>
  intro i g h hi hg ho hq
  obtain⟨g,rfl⟩:∃j,g=j+1:=⟨g-1,by omega⟩
  have lY:=hx.quiet hq
  have qC:i<D.low.length:=by rw[D.hl];omega
  have mS:h.cell bo (0+i)=some (.int .i64 ((sh[i]'(by omega):Nat):Int)):=by
   refine ho.cell ?_
   rw[Nat.zero_add]
   have:i<(iv (ints ((kd D.p top bs[ib] sh D.low a).take i++sh.drop i))).length:=by simp;omega
   rw[List.getElem?_eq_getElem this]
   simp only[iv,ints,List.getElem_map]
   rw[List.getElem_append_right (by simp;omega)]
   simp[Nat.min_eq_left (show i≤(kd D.p top bs[ib] sh D.low a).length by omega)]
  have nV:(iv (ints ((kd D.p top bs[ib] sh D.low a).take i++sh.drop i))).set (0+i) (.int .i64 ((((sh[i]'(by omega))+(D.p-top)*D.low[i]+bs[ib]*a[i]'(by omega))%D.p:Nat):Int))=
   iv (ints ((kd D.p top bs[ib] sh D.low a).take (i+1)++sh.drop (i+1))):=by
   rw[←azn D.p top bs[ib] sh D.low a i (by omega) qC (by omega) (by omega),lu,ints_set,Nat.zero_add,List.set_append_right _ _ (by simp;omega)]
   congr 2
   rw[List.drop_eq_getElem_cons (show i<sh.length by omega),List.take_succ_eq_append_getElem (show i<(kd D.p top bs[ib] sh D.low a).length by omega)]
   have:i-((kd D.p top bs[ib] sh D.low a).take i).length=0:=by simp;omega
   rw[this,List.set_cons_zero,List.append_assoc]
   rfl
  have JP:D.low[i]<D.p:=D.hs _ (List.getElem_mem _)
  have hai:a[i]'(by omega)<D.p:=hsa _ (List.getElem_mem _)
  have hbi:bs[ib]<D.p:=hsb _ (List.getElem_mem _)
  have hsi:sh[i]'(by omega)<D.p:=hss _ (List.getElem_mem _)
  obtain⟨h',e1,e2,e3⟩:=ih (i+1) g (h.put bo (some (iv (ints ((kd D.p top bs[ib] sh D.low a).take (i+1)++sh.drop (i+1)))))) (by omega) (by omega) (ho.put _) (hq.put hbo _)
  refine⟨h',?_,e2,e3⟩
  have tail:∀(n:Int) (hn:n=((D.low[i]:Nat):Int)),
   (idx 1 (⟨some ⟨bo,0,none⟩,D.m,D.m⟩:Sl) (i:Int) fun p9=>aF .i64 h p9.block p9.off fun mb=>aF .i64 h bx 0 fun xA=>idx 1 tb (ib:Int) fun MR=>aF .i64 h MR.block MR.off fun BL=>idx 1 ta (i:Int) fun p14=>aF .i64 h p14.block p14.off fun qD=>aF .i64 h bx 0 fun HT=>j6 .rem .i64 (av (av (mb+(av (av (xA-(top:Int))*n)))+(av (BL*qD)))) HT fun Qh=>idx 1 (⟨some ⟨bo,0,none⟩,D.m,D.m⟩:Sl) (i:Int) fun p18=>st fl h p18 [.int .i64 Qh] fun Mf=>
    jZ M fl k (jr M fl k kn g) kn ⟨bx,0,none⟩ ta tb ⟨some ⟨bo,0,none⟩,D.m,D.m⟩ (ib:Int) (top:Int) (D.m:Int) (i:Int) Mf)=
    kn ⟨bx,0,none⟩ ta tb ⟨some ⟨bo,0,none⟩,D.m,D.m⟩ (ib:Int) h':=by
   rintro n rfl
   rw[bC rfl (show i<D.m by omega)]
   dsimp only
   rw[ae mS,ae (lY.cell rfl),(hb.quiet hq).read (by omega) (by simp;omega),(ha.quiet hq).read (by omega) (by simp;omega),ae (lY.cell rfl)]
   simp only[Int.toNat_natCast,dW]
   rw[aMH hp ht (by omega) (by omega) (by omega) (by omega),iX (by omega),bC rfl (show i<D.m by omega),ho.st bR (by simp;omega) rfl,nV]
   unfold jZ
   rw[aH (i+1) (by push_cast;rfl) (by omega)]
   exact e1
  show ft M fl k _ _ _ ta tb _ _ _ _ _ h=_
  unfold ft iu
  rw[if_pos (by simp;omega)]
  dsimp only
  rw[ae (lY.cell rfl)]
  by_cases c:D.m=1
  ·rw[if_neg (by simp;omega)]
   refine tail 0 ?_
   have h1:=f.one c
   have:D.low[i]=0:=by simp[h1]
   rw[this];rfl
  ·rw[if_pos (by simp;have:=D.hm;omega),aq (s:=mod) (lY.cell rfl)]
   have hmo:kX D=D.low:=by unfold kX;rw[if_neg c]
   rw[hmo] at bL
   rw[(bL.quiet hq).read (by omega) (by simp;omega)]
   refine tail _ ?_
   simp only[Int.toNat_natCast,dW]
theorem aE6{R:Type}{b m:Nat}(hm:1≤m)(hm2:m≤8)(K:Sl→Option R):sub 1 ⟨some ⟨b,0,none⟩,m,m⟩ (some 1) none none K=K ⟨some ⟨b,if m=1 then 0 else 1,none⟩,m-1,m-1⟩:=by
 unfold sub
 rw[if_pos (by unfold oB;simp;omega)]
 simp only[Option.getD_some,Option.getD_none]
 rw[if_pos (by omega)]
 congr 1
 by_cases c:m=1
 ·subst c;rfl
 ·rw[if_neg (by omega),if_neg c]
  simp
theorem aE7{R:Type}{b m:Nat}(hm:1≤m)(hm2:m≤8)(K:Sl→Option R):sub 1 ⟨some ⟨b,0,none⟩,m,m⟩ none (some ((m-1:Nat):Int)) none K=K ⟨some ⟨b,0,none⟩,m-1,m⟩:=by
 unfold sub
 rw[if_pos (by unfold oB;simp;omega)]
 simp only[Option.getD_some,Option.getD_none]
 rw[if_pos (by omega)]
 congr 1
 simp
theorem azp{R:Type}{h:AH}{b m:Nat}{out:List Nat}(bR:fl≤b)(ho:OB h b (iv (ints out)))(hl:out.length=m)(hm:1≤m)(K:Int→AH→Option R):
 ∃ws,cpy fl 1 ⟨some ⟨b,if m=1 then 0 else 1,none⟩,m-1,m-1⟩ ⟨some ⟨b,0,none⟩,m-1,m⟩ h K=K ((m-1:Nat):Int) ws∧OB ws b (iv (ints (out.take 1++out.take (m-1))))∧(ws=h∨ws=h.put b (some (iv (ints (out.take 1++out.take (m-1)))))):=by
 unfold cpy
 by_cases c:m=1
 ·subst c
  refine⟨h,by simp,?_,.inl rfl⟩
  have:out.take 1++out.take (1-1)=out:=by simp;exact List.take_of_length_le (by omega)
  rw[this];exact ho
 ·refine⟨h.put b (some (iv (ints (out.take 1++out.take (m-1))))),?_,ho.put _,.inr rfl⟩
  rw[if_neg (by simp;omega),if_neg c]
  unfold GO
  simp only[ho.iN]
  rw[if_pos (by simp;omega)]
  simp only[Nat.min_self,List.drop_zero,Nat.mul_one]
  unfold Abs.st
  simp only[ho.iN,if_pos bR]
  rw[if_pos (by simp;omega),if_pos (by simp;omega),if_pos (by rw[akx];exact aMG _)]
  rw[aeg _ _ _ (by simp;omega),akx,akx,ahe,ahe,←nK,←kh]
theorem ar9{R:Type}(kn:cG R)(f:FOK D)(hx:OB h0 bx [.int .i64 (D.p:Int),.int .i64 (D.m:Int),.slice mod.a mod.l mod.c])(bL:SI h0 mod (ints (kX D)))
 (ha:SI h0 ta (ints a)) (hla:a.length=D.m) (hsa:Small D.p a) (hb:SI h0 tb (ints bs)) (hlb:bs.length=D.m) (hsb:Small D.p bs) (hbo:h0.next≤bo) (bR:fl≤bo) (hk:8<k):
 ∀(i g:Nat) (h:AH),i≤D.m→i<g→OB h bo (iv (ints (mulL D.p D.low a (bs.drop i))))→an h0 h→
 ∃h',uY M fl k kn g ⟨bx,0,none⟩ ta tb ⟨some ⟨bo,0,none⟩,D.m,D.m⟩ ((i:Int)-1) h=kn ⟨bx,0,none⟩ ⟨some ⟨bo,0,none⟩,D.m,D.m⟩ h'∧
  OB h' bo (iv (ints (mulL D.p D.low a bs)))∧an h0 h':=by
 have hp:=f.p
 have hm:=f.m
 have hm1:=D.hm
 intro i
 induction i with
 |zero=>
  intro g h hi hg ho hq
  obtain⟨g,rfl⟩:∃j,g=j+1:=⟨g-1,by omega⟩
  refine⟨h,?_,by simpa using ho,hq⟩
  show uX M fl k _ _ _ ta tb _ _ h=_
  unfold uX A1
  rw[if_neg (by simp)]
 |succ i ih=>
  intro g h hi hg ho hq
  obtain⟨g,rfl⟩:∃j,g=j+1:=⟨g-1,by omega⟩
  obtain⟨out,aqc⟩:∃out,out=mulL D.p D.low a (bs.drop (i+1)):=⟨_,rfl⟩
  rw[←aqc] at ho
  have hlo:out.length=D.m:=by rw[aqc,BP (by rw[hla,D.hl]),D.hl]
  have hso:Small D.p out:=by rw[aqc];exact zT D.pp _ _ _
  have hib:i<bs.length:=by omega
  have aPv:mulL D.p D.low a (bs.drop i)=kd D.p (zS out) bs[i] (0::out) D.low a:=by
   rw[List.drop_eq_getElem_cons hib,mulL,←aqc,agI]
  have lY:=hx.quiet hq
  show ∃h',uX M fl k _ _ _ ta tb _ _ h=_∧_
  unfold uX A1
  have e1:((i+1:Nat):Int)-1=(i:Int):=by omega
  rw[e1,if_pos (by simp)]
  unfold Jl zu wS sC
  dsimp only
  have em:av ((D.m:Int)-1)=((D.m-1:Nat):Int):=aH _ (by omega) (by omega)
  rw[ae (lY.cell rfl),em,bC rfl (show D.m-1<D.m by omega)]
  dsimp only
  have aWw:h.cell bo (0+(D.m-1))=some (.int .i64 ((zS out:Nat):Int)):=by
   refine ho.cell ?_
   rw[Nat.zero_add,List.getElem?_eq_getElem (by simp;omega)]
   simp only[iv,ints,List.getElem_map]
   rw[J3,mW _ (by omega)]
   simp only[hlo];rfl
  rw[ae aWw,aE6 hm1 hm,ae (lY.cell rfl),em,aE7 hm1 hm]
  obtain⟨ws,c1,c2,c3⟩:=azp (R:=R) bR ho hlo hm1 (fun n37 h38=>idx 1 ⟨some ⟨bo,0,none⟩,D.m,D.m⟩ 0 fun p39=>st fl h38 p39 [.int .i64 0] fun h40=>oQ M fl k (lp M fl k (uY M fl k kn g) kn) ⟨bx,0,none⟩ ta tb ⟨some ⟨bo,0,none⟩,D.m,D.m⟩ (i:Int) ((zS out:Nat):Int) ((D.m:Nat):Int) 0 h40)
  rw[c1]
  have hqw:an h0 ws:=by
   rcases c3 with rfl|rfl
   ·exact hq
   ·exact hq.put hbo _
  have aQ4:∀{R':Type} (K:Addr→Option R'),idx 1 (⟨some ⟨bo,0,none⟩,D.m,D.m⟩:Sl) 0 K=K ⟨bo,0,none⟩:=by
   intro R' K
   have:=bC (R:=R') (s:=⟨some ⟨bo,0,none⟩,D.m,D.m⟩) rfl (i:=0) (show 0<D.m by omega) K
   simpa using this
  rw[aQ4]
  have hsh:(iv (ints (out.take 1++out.take (D.m-1)))).set 0 (.int .i64 0)=iv (ints ((0::out).take D.m)):=by
   obtain⟨m,hm'⟩:∃m,D.m=m+1:=⟨D.m-1,by omega⟩
   rw[hm'] at hlo ⊢
   cases out with
   |nil=>simp at hlo
   |cons x out=>simp[iv,ints]
  rw[c2.st bR (by simp;omega) rfl,hsh]
  have hlen:(kd D.p (zS out) bs[i] ((0::out).take D.m) D.low a)=kd D.p (zS out) bs[i] (0::out) D.low a:=azo _ _ _ _ _ _ _ (by rw[D.hl];omega)
  have hlt:zS out<D.p:=by
   rw[J3,mW _ (by omega)];exact hso _ (List.getElem_mem _)
  obtain⟨h1,d1,d2,d3⟩:=ar8 (k:=k) (bo:=bo) (lp M fl k (uY M fl k kn g) kn) f hx bL ha hla hsa hb hlb hsb hbo bR ((0::out).take D.m) (by simp;omega)
   (by intro c hc;rcases List.mem_cons.1 (List.mem_of_mem_take hc) with rfl|hc
       ·exact D.pp
       ·exact hso c hc) (zS out) i (by omega) hib D.m 0 k (ws.put bo (some (iv (ints ((0::out).take D.m))))) (by omega) (by omega)
   (by simpa using c2.put _) (hqw.put hbo _)
  rw[hlen,←aPv] at d2
  obtain⟨h',f1,f2,f3⟩:=ih g h1 (by omega) (by omega) d2 d3
  refine⟨h',?_,f2,f3⟩
  unfold oQ
  refine Eq.trans d1 ?_
  unfold lp
  rw[mj (by omega) (by omega)]
  exact f1
end
theorem MP{D:FD}(f:FOK D){fl:Nat}{h:AH}{mod:Sl}(bL:SI h mod (ints (kX D)))(x y:Nat)(hx:x<9223372036854775808)(hy:y<9223372036854775808)(bR:fl≤h.next):
 ∃h',M fl fn.gp [.agg ⟨[.int .i64 (D.p:Int),.int .i64 (D.m:Int),.slice mod.a mod.l mod.c]⟩,.int .i64 (x:Int),.int .i64 (y:Int)] h=some (.int .i64 ((D.mul x y:Nat):Int),h')∧an h h':=by
 have hp:=f.p
 have hm:=f.m
 have hm1:=D.hm
 have dF:=OB.alloc h [.int .i64 (D.p:Int),.int .i64 (D.m:Int),.slice mod.a mod.l mod.c]
 have EJ:=an.alloc h [.int .i64 (D.p:Int),.int .i64 (D.m:Int),.slice mod.a mod.l mod.c]
 generalize eK:h.alloc [.int .i64 (D.p:Int),.int .i64 (D.m:Int),.slice mod.a mod.l mod.c]=h1 at dF EJ
 obtain⟨h2,a1,a2,a3⟩:=MO (fl:=h1.next) (h:=h1) (x:=x) D.pp (show D.m≤64 by omega) hx (Nat.le_refl _)
 have nL:=EJ.trans a3
 obtain⟨h3,b1,b2,b3⟩:=MO (fl:=fl) (h:=h2) (x:=y) D.pp (show D.m≤64 by omega) hy (by have:=nL.1;omega)
 have hq3:=nL.trans b3
 have ho:=OB.alloc h3 (List.replicate D.m (Value.int .i64 0))
 rw[qM] at ho
 have aM2:List.replicate D.m 0=mulL D.p D.low (bn D.p D.m x) ((bn D.p D.m y).drop D.m):=by
  rw[List.drop_of_length_le (by rw[eO];omega),mulL,D.hl]
  generalize D.m=m
  induction m with
  |zero=>rfl
  |succ m ih=>rw[List.replicate_succ,gM,ih]
 have aAy:=(dF.quiet a3).quiet b3
 have sa:SI h3 ⟨some ⟨h1.next,0,none⟩,D.m,D.m⟩ (ints (bn D.p D.m x)):=by
  have:=(a2.si none D.m).quiet b3
  simpa [eO] using this
 have sb:SI h3 ⟨some ⟨h2.next,0,none⟩,D.m,D.m⟩ (ints (bn D.p D.m y)):=by
  have:=b2.si none D.m
  simpa [eO] using this
 rw[aM2] at ho
 obtain⟨h4,c1,c2,c3⟩:=ar9 (k:=20) (fl:=fl) (K2 M fl 20 (fun(y6:Int) q=>some (Value.int .i64 y6,q))) f aAy (bL.quiet hq3) sa (eO ..) (nZ D.pp _ _) sb (eO ..) (nZ D.pp _ _) (Nat.le_refl _) (by have:=hq3.1;omega) (by omega) D.m 20 _ (Nat.le_refl _) (by omega) ho (an.alloc ..)
 refine⟨h4,bF (k:=20) (by decide) EA ?_,hq3.trans c3⟩
 rw[A2]
 unfold gp aEh ajP bJ
 rw[eK]
 dsimp only
 rw[ae (dF.cell rfl),ae (dF.cell rfl),ak a1]
 simp only[aX]
 rw[ae ((dF.quiet a3).cell rfl),ae ((dF.quiet a3).cell rfl),ak b1]
 simp only
 rw[ae (aAy.cell rfl),j7 (by unfold kc;omega),qM,aM2]
 rw[ae (((aAy.quiet (an.alloc h3 _))).cell rfl),mj (by omega) (by omega)]
 unfold ajO
 refine Eq.trans c1 ?_
 unfold K2
 dsimp only
 have a6i:=aAy.quiet c3
 rw[ae (a6i.cell rfl)]
 have sv:SI h4 ⟨some ⟨h3.next,0,none⟩,D.m,D.m⟩ (ints (mulL D.p D.low (bn D.p D.m x) (bn D.p D.m y))):=by
  have:=c2.si none D.m
  have e:(ints (mulL D.p D.low (bn D.p D.m x) (bn D.p D.m y))).length=D.m:=by rw[dt];exact D.IM x y
  rw[e] at this;exact this
 have hv:=aku (fl:=fl) sv (zT D.pp _ _ _) (by rw[show(mulL D.p D.low (bn D.p D.m x) (bn D.p D.m y)).length=D.m from D.IM x y];have:=f.q;unfold FD.q at this;omega) (by rw[show(mulL D.p D.low (bn D.p D.m x) (bn D.p D.m y)).length=D.m from D.IM x y];omega)
 rw[ak hv]
 rfl
end Go.Abs.P
end
section
namespace Go.Abs.P
open Go.Abs Go.Fld
def yI(D:FD)(x n:Nat):List Nat:=(List.range n).map (D.pw x)
theorem JF(D:FD)(x n:Nat):yI D x (n+1)=yI D x n++[D.pw x n]:=by simp[yI,List.range_succ]
@[simp] theorem aeh(D:FD)(x n:Nat):(yI D x n).length=n:=by simp[yI]
theorem aQh{D:FD}{x n v:Nat}(h:v∈yI D x n):v<D.q:=by
 obtain⟨i,_,rfl⟩:=List.mem_map.1 h
 exact D.IQ x i
def ki(q:Nat)(l:List Nat):List Value:=(List.range q).map fun v=>Value.bool (decide (v∈l))
theorem Lc{q:Nat}{l:List Nat}{y:Nat}(h:y<q):(ki q l)[y]?=some (.bool (decide (y∈l))):=by simp[ki,h]
theorem ahf{q:Nat}{l:List Nat}{y:Nat}:(ki q l).set y (.bool true)=ki q (l++[y]):=by
 apply List.ext_getElem?
 intro i
 by_cases hi:i<q
 ·rw[Lc hi]
  by_cases e:y=i
  ·subst e
   rw[List.getElem?_set_self (by simpa [ki] using hi)];simp
  ·rw[List.getElem?_set_ne e,Lc hi]
   have:¬i=y:=fun h=>e h.symm
   simp[this]
 ·rw[List.getElem?_eq_none (by simp[ki];omega),List.getElem?_eq_none (by simp[ki];omega)]
theorem azq(q:Nat):List.replicate q (Value.bool false)=ki q []:=by
 apply List.ext_getElem?
 intro i
 by_cases hi:i<q
 ·rw[Lc hi];simp[hi]
 ·rw[List.getElem?_eq_none (by simp;omega),List.getElem?_eq_none (by simp[ki];omega)]
@[simp] theorem aMI(q:Nat)(l:List Nat):(ki q l).length=q:=by simp[ki]
theorem asa{D:FD}{x n:Nat}(hn:(yI D x n).Nodup)(h0:0∉yI D x n):n≤D.q-1:=by
 have:=FD.als D.q (0::yI D x n) (List.nodup_cons.2 ⟨h0,hn⟩) (fun v hv=>by
  rcases List.mem_cons.1 hv with rfl|hv
  ·have:=D.q1;omega
  ·exact aQh hv)
 simp at this;omega
structure aE8(D:FD)(x N:Nat):Prop where
 pos:0<N
 nodup:(yI D x N).Nodup
 nz:0∉yI D x N
 stop:D.pw x N=0∨D.pw x N∈yI D x N
theorem aE8.le{D:FD}{x N:Nat}(p:aE8 D x N):N≤D.q-1:=asa p.nodup p.nz
theorem ape{R:Type}{D:FD}{fl k:Nat}{h0:AH}{bx sb:Nat}{mod:Sl}{x:Nat}(kn:ab R)(f:FOK D)(hx:OB h0 bx [.int .i64 (D.p:Int),.int .i64 (D.m:Int),.slice mod.a mod.l mod.c])(bL:SI h0 mod (ints (kX D)))
 (lY:x<D.q) (hsb:h0.next≤sb) (bR:fl≤h0.next):
 ∀(d n g:Nat) (out:Sl) (h:AH),n+d=D.q→d<g→0<n→(yI D x n).Nodup→0∉yI D x n→OV h0.next h out (iv (ints (yI D x n)))→OB h sb (ki D.q (yI D x n))→(∀a,out.a=some a→a.block≠sb)→an h0 h→
 ∃(N:Nat) (agp:Sl) (h':AH),uV M fl k kn g (x:Int) ⟨bx,0,none⟩ out ⟨some ⟨sb,0,none⟩,D.q,D.q⟩ ((D.pw x n:Nat):Int) h=kn agp h'∧aE8 D x N∧OV h0.next h' agp (iv (ints (yI D x N)))∧an h0 h':=by
 have ahA:=f.q
 have EJ:=D.q1
 intro d
 induction d with
 |zero=>
  intro n g out h hi hg hn hnd hnz
  have:=asa hnd hnz
  omega
 |succ d ih=>
  intro n g out h hi hg hn hnd hnz ho hs lZ hq
  obtain⟨g,rfl⟩:∃j,g=j+1:=⟨g-1,by omega⟩
  have aM7:=D.IQ x n
  show ∃(N:Nat) (agp:Sl) (h':AH),Ee M fl k (uV M fl k kn g) kn _ _ _ _ _ h=_∧_
  unfold Ee
  by_cases c:D.pw x n=0
  ·refine⟨n,out,h,?_,⟨hn,hnd,hnz,.inl c⟩,ho,hq⟩
   rw[if_neg (by simp[c])]
  ·rw[if_pos (by simp[c]),bC rfl aM7]
   dsimp only
   rw[Nat.zero_add,aP8 (hs.cell (Lc aM7))]
   by_cases c2:D.pw x n∈yI D x n
   ·refine⟨n,out,h,?_,⟨hn,hnd,hnz,.inr c2⟩,ho,hq⟩
    rw[if_neg (by simp[c2])]
   ·rw[if_pos (by simp[c2]),bC rfl aM7]
    dsimp only
    rw[Nat.zero_add,hs.st (by omega) (by simpa using aM7) rfl,ahf,←JF]
    have Iv:kg (some ⟨sb,0,none⟩) h (h.put sb (some (ki D.q (yI D x (n+1))))):=kg.put _
    have hs1:OB (h.put sb (some (ki D.q (yI D x (n+1))))) sb (ki D.q (yI D x (n+1))):=hs.put _
    have aRs:an h0 (h.put sb (some (ki D.q (yI D x (n+1))))):=hq.put hsb _
    have ho1:OV h0.next (h.put sb (some (ki D.q (yI D x (n+1))))) out (iv (ints (yI D x n))):=ho.aHb (Nat.le_refl _) (fun a ha=>ahS _ (fun e=>lZ a ha e.symm))
    generalize h.put sb (some (ki D.q (yI D x (n+1))))=h1 at Iv hs1 aRs ho1 ⊢
    obtain⟨s2,h2,e1,e2,e3,e4⟩:=ho1.push (R:=R) (fl:=fl) (bytes:=8) (x:=.int .i64 ((D.pw x n:Nat):Int)) bR aRs.1 (by have:=asa hnd hnz;unfold kc;simp;omega) rfl
     (fun s7 h8=>aF .i64 h8 bx 0 fun n9=>aF .i64 h8 bx (0+1) fun mb=>aT h8 bx (0+1+1) fun EG=>aj M fl fn.gp [.agg ⟨[.int .i64 n9,.int .i64 mb,.slice EG.a EG.l EG.c]⟩,.int .i64 ((D.pw x n:Nat):Int),.int .i64 (x:Int)] h8 fun V3 qB=>asInt .i64 V3 fun Bv=>uV M fl k kn g (x:Int) ⟨bx,0,none⟩ s7 ⟨some ⟨sb,0,none⟩,D.q,D.q⟩ Bv qB)
    rw[e1]
    have nL:an h0 h2:=e3.quiet aRs (fun a ha=>ho1.ge a ha)
    have hx2:=hx.quiet nL
    rw[ae (hx2.cell rfl),ae (hx2.cell rfl),aq (s:=mod) (hx2.cell rfl)]
    obtain⟨h3,m1,m2⟩:=MP (fl:=fl) f (bL.quiet nL) (D.pw x n) x (by omega) (by omega) (by have:=nL.1;omega)
    rw[ak m1]
    have hs2:OB h2 sb (ki D.q (yI D x (n+1))):=e3.ob hs1 lZ
    have a34:(yI D x (n+1)).Nodup:=by
     rw[JF]
     rw[List.nodup_append]
     exact⟨hnd,by simp,fun a ha b hb e=>by simp at hb;subst hb;subst e;exact c2 ha⟩
    have aYs:0∉yI D x (n+1):=by
     rw[JF]
     intro hm
     rcases List.mem_append.1 hm with hm|hm
     ·exact hnz hm
     ·simp at hm;exact c hm.symm
    have hov:iv (ints (yI D x n))++[Value.int .i64 ((D.pw x n:Nat):Int)]=iv (ints (yI D x (n+1))):=by
     rw[JF,kh,nK];rfl
    rw[hov] at e2
    have a9r:=hs1.1
    exact ih (n+1) g s2 h3 (by omega) (by omega) (by omega) a34 aYs (e2.quiet m2) (hs2.quiet m2) (fun a ha=>by have:=e4 a ha;omega) (nL.trans m2)
theorem apf{D:FD}(f:FOK D){fl:Nat}{h:AH}{mod:Sl}(bL:SI h mod (ints (kX D))){x:Nat}(hx:x<D.q)(bR:fl≤h.next):
 ∃(N:Nat) (s':Sl) (h':AH),M fl fn.m7 [.agg ⟨[.int .i64 (D.p:Int),.int .i64 (D.m:Int),.slice mod.a mod.l mod.c]⟩,.int .i64 (D.q:Int),.int .i64 (x:Int)] h=some (.slice s'.a s'.l s'.c,h')∧
  aE8 D x N∧OV h.next h' s' (iv (ints (yI D x N)))∧an h h':=by
 have ahA:=f.q
 have EJ:=D.q1
 have dF:=OB.alloc h [.int .i64 (D.p:Int),.int .i64 (D.m:Int),.slice mod.a mod.l mod.c]
 have eI:=an.alloc h [.int .i64 (D.p:Int),.int .i64 (D.m:Int),.slice mod.a mod.l mod.c]
 generalize eK:h.alloc [.int .i64 (D.p:Int),.int .i64 (D.m:Int),.slice mod.a mod.l mod.c]=h1 at dF eI
 have ho1:=OB.alloc h1 [Value.int .i64 1]
 have hqb:=an.alloc h1 [Value.int .i64 1]
 generalize hh2:h1.alloc [Value.int .i64 1]=h2 at ho1 hqb
 have hs2:=OB.alloc h2 (ki D.q [])
 have hqc:=an.alloc h2 (ki D.q [])
 generalize hh3:h2.alloc (ki D.q [])=h3 at hs2 hqc
 have zN:h1.next<h2.next:=ho1.1
 have hs3:OB (h3.put h2.next (some (ki D.q [1]))) h2.next (ki D.q [1]):=hs2.put _
 have hp1:yI D x 1=[1]:=rfl
 have ho3:OV h1.next (h3.put h2.next (some (ki D.q [1]))) ⟨some ⟨h1.next,0,none⟩,1,1⟩ (iv (ints (yI D x 1))):=
  OV.full (vs:=iv (ints (yI D x 1))) ((ho1.quiet hqc).art (by omega) _) (Nat.le_refl _) (by simp[hp1,iv,ints]) (by rw[hp1];simp[iv,ints,oB])
 obtain⟨N,s',h',e1,e2,e3,e4⟩:=ape (k:=D.q+1) (fl:=fl) (h0:=h1) (bx:=h.next) (sb:=h2.next) (Vo M fl (D.q+1) (fun(y6:Sl) q=>some (Value.slice y6.a y6.l y6.c,q))) f dF (bL.quiet eI) hx (by omega) (by have:=eI.1;omega)
  (D.q-1) 1 (D.q+1) ⟨some ⟨h1.next,0,none⟩,1,1⟩ (h3.put h2.next (some (ki D.q [1]))) (by omega) (by omega) (by omega) (by simp[hp1]) (by simp[hp1]) ho3 (by rw[hp1];exact hs3)
  (fun a ha=>by cases ha;simp only[ne_eq];omega) ((hqb.trans hqc).put (by omega) _)
 refine⟨N,s',h',bF (k:=D.q+1) (by decide) JA ?_,e2,e3.mono eI.1,eI.trans e4⟩
 rw[Ef]
 unfold m7 aEf ajN bJ
 rw[eK]
 dsimp only
 rw[hh2,j7 (by unfold kc;omega),azq,hh3]
 have:∀{R':Type} (K:Addr→Option R'),idx 1 (⟨some ⟨h2.next,0,none⟩,D.q,D.q⟩:Sl) 1 K=K ⟨h2.next,1,none⟩:=by
  intro R' K
  exact bC (i:=1) (R:=R') (s:=⟨some ⟨h2.next,0,none⟩,D.q,D.q⟩) rfl EJ K
 rw[this,hs2.st (by have:=eI.1;omega) (by simpa using EJ) rfl,ahf]
 unfold ajM
 have hpw:D.pw x 1=x:=D.one_mul hx
 rw[hpw] at e1
 exact e1
end Go.Abs.P
end
section
namespace Go.Abs.P
open Go.Abs Go.Fld
theorem Ld{D:FD}{x n i:Nat}(h:i<(yI D x n).length):(yI D x n)[i]=D.pw x i:=by simp[yI]
theorem aei{D:FD}{x N:Nat}(p:aE8 D x N)(hx:x<D.q):(N=D.q-1∧D.mul (D.pw x (D.q-2)) x=1)↔D.bh x:=by
 have hq:=D.q1
 constructor
 ·rintro⟨rfl,h1⟩
  have h1:D.pw x (D.q-2+1)=1:=h1
  rw[show D.q-2+1=D.q-1 by omega] at h1
  refine⟨hx,h1,fun i h0 hi e=>?_⟩
  have:=List.pairwise_iff_getElem.1 p.nodup 0 i (by simp;omega) (by simp;omega) h0
  rw[Ld,Ld,e] at this
  exact this rfl
 ·intro hp
  have hle:=p.le
  have:N=D.q-1:=by
   rcases p.stop with h|h
   ·exact absurd h (D.vw hp N)
   ·refine Classical.byContradiction fun hc=>?_
    obtain⟨j,h1,h2⟩:=List.mem_map.1 h
    exact D.ahQ hp (List.mem_range.1 h1) (show N<D.q-1 by omega) h2
  refine⟨this,?_⟩
  have h1:=hp.2.1
  rw[show D.q-1=D.q-2+1 by omega] at h1
  exact h1
theorem aej{R:Type}{D:FD}{fl k:Nat}{h0:AH}{bx:Nat}{mod:Sl}(kn:au R)(kr:ab R)(f:FOK D)(hx:OB h0 bx [.int .i64 (D.p:Int),.int .i64 (D.m:Int),.slice mod.a mod.l mod.c])(bL:SI h0 mod (ints (kX D)))(bR:fl≤h0.next):
 ∀(d x g:Nat) (h:AH),x+d=D.q→d<g→an h0 h→(∀y,y<x→¬D.bh y)→
 ∃h',an h0 h'∧((∃gen s',j9 M fl k kn kr g (D.q:Int) ⟨bx,0,none⟩ (x:Int) h=kr s' h'∧D.bh gen∧OV h0.next h' s' (iv (ints (yI D gen (D.q-1)))))∨
  (j9 M fl k kn kr g (D.q:Int) ⟨bx,0,none⟩ (x:Int) h=kn h'∧∀y,¬D.bh y)):=by
 have ahA:=f.q
 have EJ:=D.q1
 intro d
 induction d with
 |zero=>
  intro x g h hi hg hq hno
  obtain⟨g,rfl⟩:∃j,g=j+1:=⟨g-1,by omega⟩
  refine⟨h,hq,.inr ⟨?_,fun y hy=>hno y (by have:=hy.1;omega) hy⟩⟩
  show uC M fl k _ _ _ _ _ _ h=_
  unfold uC AO
  rw[if_neg (by simp;omega)]
 |succ d ih=>
  intro x g h hi hg hq hno
  obtain⟨g,rfl⟩:∃j,g=j+1:=⟨g-1,by omega⟩
  have lY:=hx.quiet hq
  obtain⟨N,s1,h1,p1,p2,p3,p4⟩:=apf (fl:=fl) f (bL.quiet hq) (show x<D.q by omega) (by have:=hq.1;omega)
  have nL:=hq.trans p4
  have hx2:=hx.quiet nL
  have hlen:=p3.len
  simp only[axS,dt,aeh] at hlen
  have un:j9 M fl k kn kr (g+1) (D.q:Int) ⟨bx,0,none⟩ (x:Int) h=uC M fl k (j9 M fl k kn kr g) kn kr (D.q:Int) ⟨bx,0,none⟩ (x:Int) h:=rfl
  rw[un]
  unfold uC AO
  rw[if_pos (by simp;omega)]
  dsimp only
  rw[ae (lY.cell rfl),ae (lY.cell rfl),aq (s:=mod) (lY.cell rfl),ak p1]
  simp only[aX]
  have e1:av ((D.q:Int)-1)=((D.q-1:Nat):Int):=aH _ (by omega) (by omega)
  have e2:av ((D.q:Int)-2)=((D.q-2:Nat):Int):=aH _ (by omega) (by omega)
  have next:∀h3,an h0 h3→¬D.bh x→∃h',an h0 h'∧((∃gen s',xt M fl k (j9 M fl k kn kr g) kn kr (D.q:Int) ⟨bx,0,none⟩ (x:Int) h3=kr s' h'∧D.bh gen∧OV h0.next h' s' (iv (ints (yI D gen (D.q-1)))))∨
   (xt M fl k (j9 M fl k kn kr g) kn kr (D.q:Int) ⟨bx,0,none⟩ (x:Int) h3=kn h'∧∀y,¬D.bh y)):=by
   intro h3 hq3 hnx
   unfold xt
   rw[aH (x+1) (by push_cast;rfl) (by omega)]
   refine ih (x+1) g h3 (by omega) (by omega) hq3 fun y hy=>?_
   by_cases e:y=x
   ·subst e;exact hnx
   ·exact hno y (by omega)
  rw[e1,e2]
  by_cases c:N=D.q-1
  ·rw[if_pos (by rw[hlen,c];simp),ae (hx2.cell rfl),ae (hx2.cell rfl),aq (s:=mod) (hx2.cell rfl),p3.si.read (by omega) (by simp;omega)]
   simp only[Int.toNat_natCast,dW,Ld]
   obtain⟨h3,m1,m2⟩:=MP (fl:=fl) f (bL.quiet nL) (D.pw x (D.q-2)) x (by have:=D.IQ x (D.q-2);omega) (by omega) (by have:=nL.1;omega)
   rw[ak m1]
   simp only[asInt,if_true]
   by_cases c2:D.mul (D.pw x (D.q-2)) x=1
   ·have hpx:=(aei p2 (by omega)).1 ⟨c,c2⟩
    refine⟨h3,nL.trans m2,.inl ⟨x,s1,?_,hpx,?_⟩⟩
    ·rw[if_pos (by rw[c2];rfl)]
    ·rw[c] at p3
     exact(p3.quiet m2).mono hq.1
   ·rw[if_neg (by simp;omega)]
    exact next h3 (nL.trans m2) (fun hp=>c2 ((aei p2 (by omega)).2 hp).2)
  ·rw[if_neg (by rw[hlen];simp;omega)]
   exact next h1 nL (fun hp=>c ((aei p2 (by omega)).2 hp).1)
theorem JG{D:FD}(f:FOK D){fl:Nat}{h:AH}{mod:Sl}(bL:SI h mod (ints (kX D)))(bR:fl≤h.next):
 ∃(s':Sl) (h':AH),M fl fn.cX [.agg ⟨[.int .i64 (D.p:Int),.int .i64 (D.m:Int),.slice mod.a mod.l mod.c]⟩,.int .i64 (D.q:Int)] h=some (.slice s'.a s'.l s'.c,h')∧an h h'∧
  ((∃gen,D.bh gen∧OV h.next h' s' (iv (ints (yI D gen (D.q-1))))∧s'.a.isNone=false)∨(s'.a.isNone=true∧∀y,¬D.bh y)):=by
 have ahA:=f.q
 have EJ:=D.q1
 have dF:=OB.alloc h [.int .i64 (D.p:Int),.int .i64 (D.m:Int),.slice mod.a mod.l mod.c]
 have eI:=an.alloc h [.int .i64 (D.p:Int),.int .i64 (D.m:Int),.slice mod.a mod.l mod.c]
 generalize eK:h.alloc [.int .i64 (D.p:Int),.int .i64 (D.m:Int),.slice mod.a mod.l mod.c]=h1 at dF eI
 obtain⟨h',e1,e2⟩:=aej (k:=D.q+1) (fl:=fl) (KP M fl (D.q+1) (fun(y6:Sl) q=>some (Value.slice y6.a y6.l y6.c,q))) (fun(y6:Sl) q=>some (Value.slice y6.a y6.l y6.c,q)) f dF (bL.quiet eI) (by have:=eI.1;omega)
  (D.q-1) 1 (D.q+1) h1 (by omega) (by omega) (an.refl _) (fun y hy hp=>by
    obtain rfl:y=0:=by omega
    refine D.vw hp 1 ?_
    show D.mul 1 0=0
    exact D.mul_zero 1)
 have go:∀{s':Sl} {h':AH},cX M fl (D.q+1) (D.p:Int) (D.m:Int) mod (D.q:Int) h=some (.slice s'.a s'.l s'.c,h')→M fl fn.cX [.agg ⟨[.int .i64 (D.p:Int),.int .i64 (D.m:Int),.slice mod.a mod.l mod.c]⟩,.int .i64 (D.q:Int)] h=some (.slice s'.a s'.l s'.c,h'):=by
  intro s' h' e
  refine bF (k:=D.q+1) (by decide) Cu ?_
  rw[yr];exact e
 have un:cX M fl (D.q+1) (D.p:Int) (D.m:Int) mod (D.q:Int) h=j9 M fl (D.q+1) (KP M fl (D.q+1) (fun(y6:Sl) q=>some (Value.slice y6.a y6.l y6.c,q))) (fun(y6:Sl) q=>some (Value.slice y6.a y6.l y6.c,q)) (D.q+1) (D.q:Int) ⟨h.next,0,none⟩ ((1:Nat):Int) h1:=by
  unfold cX aDt ajc bJ
  rw[eK];rfl
 rcases e2 with⟨gen,s',g1,g2,g3⟩|⟨g1,g2⟩
 ·refine⟨s',h',go (un.trans g1),eI.trans e1,.inl ⟨gen,g2,g3.mono eI.1,?_⟩⟩
  rcases g3 with⟨a,_⟩|⟨b,c,_,_,_,_,rfl,_⟩
  ·have:=congrArg List.length a;simp at this;omega
  ·rfl
 ·exact⟨⟨none,0,0⟩,h',go (un.trans g1),eI.trans e1,.inr ⟨rfl,g2⟩⟩
def mP(p m:Int)(xs:List Int):Bool:=decide (It p m≠0)&&FD.prB p.toNat&&(if m=1 then xs.isEmpty else decide ((xs.length:Int)=m)&&xs.all (fun c=>decide (0≤c)&&decide (c<p)))
structure IsF(p m:Int)(xs:List Int)(D:FD):Prop where
 ok:FOK D
 hp:p=D.p
 hm:m=D.m
 hx:xs=ints (kX D)
 pr:FD.prB D.p=true
theorem asb{p:Nat}(h:0<p):Small p [0]:=by
 intro c hc
 have h0:c=0:=by simpa using hc
 subst h0;exact h
theorem akz{p m:Int}(h:It p m≠0):∃a b:Nat,p=a∧m=b∧2≤a∧1≤b∧a^b≤256∧It p m=a^b:=by
 unfold It at h ⊢
 by_cases c:p<2∨m<1∨m>8∨p>256
 ·rw[if_pos c] at h;exact absurd rfl h
 ·rw[if_neg c] at h ⊢
  by_cases c2:p.toNat^m.toNat≤256
  ·exact⟨p.toNat,m.toNat,by omega,by omega,by omega,by omega,c2,by rw[if_pos c2]⟩
  ·rw[if_neg c2] at h;exact absurd rfl h
theorem vq(p m:Int)(xs:List Int):mP p m xs=true↔∃D,IsF p m xs D:=by
 constructor
 ·intro h
  unfold mP at h
  simp only[Bool.and_eq_true,decide_eq_true_eq] at h
  obtain⟨⟨h1,h2⟩,h3⟩:=h
  obtain⟨a,b,rfl,rfl,ha,hb,hab,_⟩:=akz h1
  simp only[Int.toNat_natCast] at h2
  by_cases c:(b:Int)=1
  ·rw[if_pos c] at h3
   have hxs:xs=[]:=by simpa using h3
   obtain rfl:b=1:=by omega
   refine⟨⟨a,1,[0],ha,by omega,rfl,asb (by omega)⟩,⟨⟨?_,fun _=>rfl⟩,rfl,rfl,?_,h2⟩⟩
   ·exact hab
   ·rw[hxs];rfl
  ·rw[if_neg c] at h3
   simp only[Bool.and_eq_true,decide_eq_true_eq,List.all_eq_true] at h3
   obtain⟨h3,h4⟩:=h3
   refine⟨⟨a,b,xs.map Int.toNat,ha,hb,by simp;omega,?_⟩,⟨⟨hab,fun e=>absurd (show(b:Int)=1 by have e':b=1:=e;omega) c⟩,rfl,rfl,?_,h2⟩⟩
   ·intro d hd
    obtain⟨e,he,rfl⟩:=List.mem_map.1 hd
    have:=h4 e he
    show e.toNat<a
    omega
   ·have:kX ⟨a,b,xs.map Int.toNat,ha,hb,by simp;omega,by
     intro d hd
     obtain⟨e,he,rfl⟩:=List.mem_map.1 hd
     have:=h4 e he
     show e.toNat<a
     omega⟩=xs.map Int.toNat:=by unfold kX;rw[if_neg (fun e=>c (by have e':b=1:=e;omega))]
    rw[this]
    unfold ints
    rw[List.map_map]
    conv=>lhs;rw[←List.map_id xs]
    refine List.map_congr_left fun e he=>?_
    have:=h4 e he
    simp;omega
 ·rintro⟨D,hD⟩
  obtain⟨f,rfl,rfl,rfl,pr⟩:=hD
  have hp2:=D.hp
  have hm1:=D.hm
  have hp:=f.p
  have hm:=f.m
  have hq:=f.q
  unfold mP
  have ho:It (D.p:Int) (D.m:Int)=D.q:=by
   unfold It
   rw[if_neg (by omega)]
   simp only[Int.toNat_natCast]
   rw[if_pos (show D.p^D.m≤256 from hq)];rfl
  rw[ho]
  have EJ:=D.q1
  simp only[Int.toNat_natCast,pr,Bool.and_true,Bool.and_eq_true,decide_eq_true_eq]
  refine⟨by omega,?_⟩
  by_cases c:D.m=1
  ·rw[if_pos (by omega)];unfold kX;rw[if_pos c];rfl
  ·rw[if_neg (by omega)]
   unfold kX
   rw[if_neg c]
   simp only[Bool.and_eq_true,decide_eq_true_eq,List.all_eq_true]
   refine⟨by simp[D.hl],fun e he=>?_⟩
   obtain⟨d,hd,rfl⟩:=List.mem_map.1 he
   have:=D.hs d hd
   simp;omega
theorem aE9{p m:Int}{xs:List Int}{D:FD}(h:IsF p m xs D):It p m=D.q:=by
 obtain⟨f,rfl,rfl,rfl,pr⟩:=h
 have hp2:=D.hp
 have hm1:=D.hm
 have hp:=f.p
 have hm:=f.m
 have hq:=f.q
 unfold It
 rw[if_neg (by omega)]
 simp only[Int.toNat_natCast]
 rw[if_pos (show D.p^D.m≤256 from hq)];rfl
theorem asc{R:Type}{fl k:Nat}{h:AH}{bx:Nat}{mod:Sl}{xs:List Int}{p:Int}(kn:au R)(kr:aC R)(vs:List Value)(hx:OB h bx (.int .i64 p::vs))(bL:SI h mod xs)(hb:xs.length≤ow):
 ∀(d i g:Nat),i+d=xs.length→d<g→DO M fl k kn kr g ⟨bx,0,none⟩ mod (xs.length:Int) (i:Int) h=if (xs.drop i).all (fun c=>decide (0≤c)&&decide (c<p))=true then kn h else kr false h:=by
 intro d
 induction d with
 |zero=>
  intro i g hi hg
  obtain⟨g,rfl⟩:∃j,g=j+1:=⟨g-1,by omega⟩
  show uA M fl k _ _ _ _ _ _ _ h=_
  unfold uA
  rw[if_neg (by simp;omega),List.drop_of_length_le (by omega)]
  rfl
 |succ d ih=>
  intro i g hi hg
  obtain⟨g,rfl⟩:∃j,g=j+1:=⟨g-1,by omega⟩
  show uA M fl k _ _ _ _ _ _ _ h=_
  unfold uA
  rw[if_pos (by simp;omega),bL.read (by omega) (by simp;omega)]
  simp only[Int.toNat_natCast]
  rw[List.drop_eq_getElem_cons (show i<xs.length by omega),List.all_cons]
  by_cases c:xs[i]<0
  ·rw[if_neg (by simp[c]),if_neg (by simp;intro h;omega)]
  ·rw[if_pos (by simp;omega),ae (hx.cell rfl)]
   by_cases c2:xs[i]≥p
   ·rw[if_pos (by simp[c2]),if_neg (by simp;intro h;omega)]
   ·rw[if_neg (by simp;omega),gr (by omega),ih (i+1) g (by omega) (by omega)]
    have:(decide (0≤xs[i])&&decide (xs[i]<p))=true:=by simp;omega
    rw[this,Bool.true_and]
theorem aek{fl:Nat}{h:AH}{mod:Sl}{xs:List Int}(p m:Int)(bL:SI h mod xs)(hb:xs.length≤ow):
 ∃h',M fl fn.mA [.agg ⟨[.int .i64 p,.int .i64 m,.slice mod.a mod.l mod.c]⟩] h=some (.bool (mP p m xs),h')∧an h h':=by
 have dF:=OB.alloc h [.int .i64 p,.int .i64 m,.slice mod.a mod.l mod.c]
 have eI:=an.alloc h [.int .i64 p,.int .i64 m,.slice mod.a mod.l mod.c]
 generalize eK:h.alloc [.int .i64 p,.int .i64 m,.slice mod.a mod.l mod.c]=h1 at dF eI
 refine⟨h1,bF (k:=xs.length+1) (by decide) ML ?_,eI⟩
 rw[Hv]
 unfold mA aDp ai9 bJ
 rw[eK]
 dsimp only
 rw[ae (dF.cell rfl),ae (dF.cell rfl),ak (GH p m)]
 simp only[asInt,if_true]
 unfold mP
 by_cases c:It p m=0
 ·rw[if_neg (by simp[c]),c];rfl
 ·rw[if_pos (by simp;omega)]
  obtain⟨a,b,rfl,rfl,ha,Iv,hab,_⟩:=akz c
  have ha2:a≤256:=by
   have:a^1≤a^b:=Nat.pow_le_pow_right (by omega) Iv
   rw[Nat.pow_one] at this;omega
  rw[ae (dF.cell rfl),ak (akw ha2 ha)]
  simp only[asBool,Int.toNat_natCast]
  have e1:decide (It (a:Int) (b:Int)≠0)=true:=by simp[c]
  rw[e1,Bool.true_and]
  by_cases c2:FD.prB a=true
  ·rw[if_neg (by simp[c2]),c2,Bool.true_and,ae (dF.cell rfl)]
   by_cases c3:(b:Int)=1
   ·rw[if_pos (by simp[c3]),if_pos c3,aq (s:=mod) (dF.cell rfl),bL.len]
    cases xs with
    |nil=>rfl
    |cons x xs=>simp;omega
   ·rw[if_neg (by simp;omega),if_neg c3,aq (s:=mod) (dF.cell rfl),ae (dF.cell rfl),bL.len]
    by_cases c4:(xs.length:Int)=b
    ·rw[if_neg (by simp[c4]),aq (s:=mod) (dF.cell rfl),bL.len]
     unfold ai8
     have:=asc (fl:=fl) (k:=xs.length+1) (Vc M fl (xs.length+1) (fun(y6:Bool) q=>some (Value.bool y6,q))) (fun(y6:Bool) q=>some (Value.bool y6,q)) _ dF (bL.quiet eI) hb xs.length 0 (xs.length+1) (by omega) (by omega)
     refine Eq.trans this ?_
     simp only[List.drop_zero]
     have e2:decide ((xs.length:Int)=b)=true:=by simp[c4]
     rw[e2,Bool.true_and]
     by_cases c5:xs.all (fun c=>decide (0≤c)&&decide (c<(a:Int)))=true
     ·rw[if_pos c5,c5];rfl
     ·rw[if_neg c5];simp only[Bool.not_eq_true] at c5;rw[c5]
    ·rw[if_pos (by simp;omega)]
     have e2:decide ((xs.length:Int)=b)=false:=by simp[c4]
     rw[e2,Bool.false_and]
  ·simp only[Bool.not_eq_true] at c2
   rw[if_pos (by simp[c2]),c2];rfl
end Go.Abs.P
end
section
namespace Go.Abs.P
open Go.Abs Go.Fld
def lgF(D:FD)(gen v:Nat):Nat→Nat→Nat
 |0,_=>0
 |n+1,i=>if D.pw gen i=v then i else lgF D gen v n (i+1)
def lg(D:FD)(gen v:Nat):Nat:=lgF D gen v (D.q-1) 0
def akA(D:FD)(gen:Nat):List Nat:=(List.range D.q).map (lg D gen)
theorem aQi{D:FD}{gen:Nat}(hg:D.bh gen){i:Nat}(hi:i<D.q-1):∀n j,j≤i→i<j+n→j+n≤D.q-1→lgF D gen (D.pw gen i) n j=i:=by
 intro n
 induction n with
 |zero=>intro j h1 h2;omega
 |succ n ih=>
  intro j h1 h2 h3
  unfold lgF
  by_cases e:j=i
  ·subst e;rw[if_pos rfl]
  ·rw[if_neg (D.ahQ hg (show j<i by omega) hi)]
   exact ih (j+1) (by omega) (by omega) (by omega)
theorem aOQ{D:FD}{gen:Nat}(hg:D.bh gen){i:Nat}(hi:i<D.q-1):lg D gen (D.pw gen i)=i:=aQi hg hi _ 0 (by omega) (by omega) (by omega)
theorem aFa{D:FD}{gen:Nat}(hg:D.bh gen){x:Nat}(h0:x≠0)(hx:x<D.q):lg D gen x<D.q-1∧D.pw gen (lg D gen x)=x:=by
 obtain⟨i,hi,rfl⟩:=D.Dn hg h0 hx
 rw[aOQ hg hi];exact⟨hi,rfl⟩
structure GF(h:AH)(g:Addr)(D:FD)(gen:Nat):Prop where
 ok:FOK D
 agk:D.bh gen
 off:g.off=0
 ex:∃mod e l:Sl,OB h g.block [.int .i64 (D.p:Int),.int .i64 (D.m:Int),.slice mod.a mod.l mod.c,.int .i64 (D.q:Int),.slice e.a e.l e.c,.slice l.a l.l l.c]∧
  SI h mod (ints (kX D))∧SI h e (ints (yI D gen (D.q-1)))∧SI h l (ints (akA D gen))
theorem GF.quiet{h h':AH}{g:Addr}{D:FD}{gen:Nat}(p:GF h g D gen)(q:an h h'):GF h' g D gen:=by
 obtain⟨m,e,l,h1,h2,h3,h4⟩:=p.ex
 exact⟨p.ok,p.agk,p.off,m,e,l,h1.quiet q,h2.quiet q,h3.quiet q,h4.quiet q⟩
theorem GF.cp{h:AH}{g:Addr}{D:FD}{gen:Nat}(p:GF h g D gen):h.cell g.block g.off=some (.int .i64 (D.p:Int)):=by
 obtain⟨m,e,l,h1,_⟩:=p.ex
 rw[p.off];exact h1.cell rfl
theorem GF.cq{h:AH}{g:Addr}{D:FD}{gen:Nat}(p:GF h g D gen):h.cell g.block (g.off+3)=some (.int .i64 (D.q:Int)):=by
 obtain⟨m,e,l,h1,_⟩:=p.ex
 rw[p.off];exact h1.cell rfl
theorem GF.aTl{h:AH}{g:Addr}{D:FD}{gen:Nat}(p:GF h g D gen):∃e l:Sl,h.cell g.block (g.off+4)=some (.slice e.a e.l e.c)∧h.cell g.block (g.off+5)=some (.slice l.a l.l l.c)∧
 SI h e (ints (yI D gen (D.q-1)))∧SI h l (ints (akA D gen)):=by
 obtain⟨m,e,l,h1,_,h3,h4⟩:=p.ex
 refine⟨e,l,?_,?_,h3,h4⟩<;>rw[p.off]<;>exact h1.cell rfl
def isI(D:FD)(x:Int):Bool:=decide (0≤x)&&decide (x<D.q)
def sQ(D:FD)(x:Int):Nat:=if 0≤x∧x<D.q then x.toNat else 0
theorem Qf(D:FD)(x:Int):sQ D x<D.q:=by
 have:=D.q1
 unfold sQ;split<;>omega
theorem abk{D:FD}{x:Nat}(h:x<D.q):sQ D (x:Int)=x:=by
 unfold sQ;rw[if_pos (by omega)];rfl
section
variable{fl:Nat}{h:AH}{g:Addr}{D:FD}{gen:Nat}
theorem axd(p:GF h g D gen)(x:Int):M fl fn.mz [.pointer (some g),.int .i64 x] h=some (.bool (isI D x),h):=by
 refine bF (k:=1) (by decide) MK ?_
 rw[Hu]
 unfold mz aDk isI
 by_cases c:x≥0
 ·rw[if_pos (by simp;omega)]
  simp only[bz]
  rw[ae p.cq]
  have:decide (0≤x)=true:=by simp;omega
  rw[this,Bool.true_and]
 ·rw[if_neg (by simp;omega)]
  have:decide (0≤x)=false:=by simp;omega
  rw[this,Bool.false_and]
theorem Le(p:GF h g D gen)(x:Int):M fl fn.gn [.pointer (some g),.int .i64 x] h=some (.int .i64 ((sQ D x:Nat):Int),h):=by
 refine bF (k:=1) (by decide) MN ?_
 rw[HD]
 unfold gn aD9
 rw[ak (axd p x)]
 simp only[asBool]
 unfold isI sQ
 by_cases c:0≤x∧x<D.q
 ·rw[if_pos (by simp;omega),if_pos c]
  congr 2
  rw[Int.toNat_of_nonneg c.1]
 ·rw[if_neg (by simp;omega),if_neg c];rfl
theorem azr(p d:Nat):eH p (xo p (bn p d 0) (bn p d 0))=0:=by
 induction d with
 |zero=>rfl
 |succ d ih=>simp[bn,xo,eH,ih]
theorem azs(p d:Nat):eH p (Dm p (bn p d 0))=0:=by
 induction d with
 |zero=>rfl
 |succ d ih=>simp[bn,Dm,eH,ih]
theorem Bl{p d x:Nat}(h:x<p^(d+1)):x/p<p^d:=by
 rw[Nat.pow_succ] at h
 exact Nat.div_lt_of_lt_mul (by rw[Nat.mul_comm];exact h)
theorem aFb{R:Type}{k:Nat}(kn:ah R)(p:GF h g D gen):
 ∀(d i f x y s:Nat),i+d=D.m→d<f→x<D.p^d→y<D.p^d→s<D.p^i→
 u1 M fl k kn f (some g) (x:Int) (y:Int) (s:Int) ((D.p^i:Nat):Int) h=kn ((s+D.p^i*eH D.p (xo D.p (bn D.p d x) (bn D.p d y)):Nat):Int) h:=by
 have hp0:=D.hp
 have hp:=p.ok.p
 have hq:D.p^D.m≤256:=p.ok.q
 have stop:∀(d i f x y s:Nat),x=0→y=0→0<f→u1 M fl k kn f (some g) (x:Int) (y:Int) (s:Int) ((D.p^i:Nat):Int) h=kn ((s+D.p^i*eH D.p (xo D.p (bn D.p d x) (bn D.p d y)):Nat):Int) h:=by
  rintro d i f x y s rfl rfl hf
  obtain⟨f,rfl⟩:∃j,f=j+1:=⟨f-1,by omega⟩
  show uZ M fl k _ _ _ _ _ _ _ h=_
  unfold uZ A3
  rw[if_pos (by simp),if_neg (by simp),azr,Nat.mul_zero,Nat.add_zero]
 intro d
 induction d with
 |zero=>
  intro i f x y s hi hf hx hy hs
  exact stop 0 i f x y s (by simpa using hx) (by simpa using hy) hf
 |succ d ih=>
  intro i f x y s hi hf hx hy hs
  by_cases c:x=0∧y=0
  ·exact stop (d+1) i f x y s c.1 c.2 (by omega)
  ·obtain⟨f,rfl⟩:∃j,f=j+1:=⟨f-1,by omega⟩
   have hpi:D.p^(i+1)≤256:=Nat.le_trans (Nat.pow_le_pow_right (by omega) (by omega)) hq
   have hpd:D.p^(d+1)≤256:=Nat.le_trans (Nat.pow_le_pow_right (by omega) (by omega)) hq
   have bL:(x%D.p+y%D.p)%D.p<D.p:=Nat.mod_lt _ (by omega)
   have hx1:x%D.p<D.p:=Nat.mod_lt _ (by omega)
   have hy1:y%D.p<D.p:=Nat.mod_lt _ (by omega)
   have e0:D.p^i*D.p=D.p^(i+1):=(Nat.pow_succ ..).symm
   have hmul:(x%D.p+y%D.p)%D.p*D.p^i+D.p^i≤D.p^(i+1):=by
    rw[←e0,Nat.mul_comm,←Nat.mul_succ]
    exact Nat.mul_le_mul_left _ bL
   have next:Ci M fl k (u1 M fl k kn f) kn (some g) (x:Int) (y:Int) (s:Int) ((D.p^i:Nat):Int) h=kn ((s+D.p^i*eH D.p (xo D.p (bn D.p (d+1) x) (bn D.p (d+1) y)):Nat):Int) h:=by
    unfold Ci
    simp only[bz]
    rw[ae p.cp,iX (by omega),ae p.cp,iX (by omega),ae p.cp,aH (x%D.p+y%D.p) (by push_cast;rfl) (by omega),iX (by omega),ae p.cp,ae p.cp,J5 (by omega) (by omega),
     ae p.cp,J5 (by omega) (by omega)]
    have e1:av ((((x%D.p+y%D.p)%D.p:Nat):Int)*((D.p^i:Nat):Int))=(((x%D.p+y%D.p)%D.p*D.p^i:Nat):Int):=aH _ (by push_cast;rfl) (by omega)
    have e2:av ((s:Int)+(((x%D.p+y%D.p)%D.p*D.p^i:Nat):Int))=((s+(x%D.p+y%D.p)%D.p*D.p^i:Nat):Int):=aH _ (by push_cast;rfl) (by omega)
    have e3:av (((D.p^i:Nat):Int)*(D.p:Int))=((D.p^(i+1):Nat):Int):=aH _ (by rw[←e0];push_cast;rfl) (by omega)
    rw[e1,e2,e3,ih (i+1) f (x/D.p) (y/D.p) _ (by omega) (by omega) (Bl hx) (Bl hy) (by omega)]
    congr 2
    simp only[bn,xo,eH]
    rw[←e0,Nat.mul_add,Nat.mul_comm ((x%D.p+y%D.p)%D.p),Nat.mul_assoc]
    omega
   show uZ M fl k _ _ _ _ _ _ _ h=_
   unfold uZ A3
   by_cases c1:x=0
   ·rw[if_pos (by simp;omega),if_pos (by simp;omega)]
    exact next
   ·rw[if_neg (by simp;omega)]
    exact next
theorem aMJ:∀(m x y:Nat),x<2^m→y<2^m→eH 2 (xo 2 (bn 2 m x) (bn 2 m y))=x^^^y:=by
 intro m
 induction m with
 |zero=>intro x y hx hy;simp at hx hy;subst hx hy;rfl
 |succ m ih=>
  intro x y hx hy
  simp only[bn,xo,eH]
  rw[ih _ _ (Bl hx) (Bl hy),←Nat.xor_div_two]
  have h1:(x%2+y%2)%2=(x^^^y)%2:=by
   have:=Nat.xor_mod_two_pow (a:=x) (b:=y) (n:=1)
   rw[Nat.pow_one] at this
   rw[this]
   have hx2:x%2=0∨x%2=1:=by omega
   have hy2:y%2=0∨y%2=1:=by omega
   rcases hx2 with e|e<;>rcases hy2 with e'|e'<;>rw[e,e']<;>rfl
  rw[h1];omega
theorem aFc{R:Type}{a b:Nat}(ha:a<256)(hb:b<256)(K:Int→Option R):j6 .xor .i64 (a:Int) (b:Int) K=K ((a^^^b:Nat):Int):=by
 unfold j6 Iw
 simp only
 congr 1
 have hx:a^^^b<2^8:=Nat.xor_lt_two_pow (by omega) (by omega)
 have e:(BitVec.ofInt IntKind.i64.bits (a:Int)^^^BitVec.ofInt IntKind.i64.bits (b:Int)).toNat=a^^^b:=by
  show(BitVec.ofInt 64 (a:Int)^^^BitVec.ofInt 64 (b:Int)).toNat=a^^^b
  rw[BitVec.ofInt_natCast,BitVec.ofInt_natCast,BitVec.toNat_xor,BitVec.toNat_ofNat,BitVec.toNat_ofNat,Nat.mod_eq_of_lt (by omega),Nat.mod_eq_of_lt (by omega)]
 rw[e]
 exact aH (a^^^b) rfl (by omega)
theorem aph(p:GF h g D gen)(x y:Int):M fl fn.jh [.pointer (some g),.int .i64 x,.int .i64 y] h=some (.int .i64 ((D.add (sQ D x) (sQ D y):Nat):Int),h):=by
 have hp0:=D.hp
 have hq:D.q≤256:=p.ok.q
 have hm:=p.ok.m
 have hx:=Qf D x
 have hy:=Qf D y
 refine bF (k:=10) (by decide) JB ?_
 rw[Eg]
 unfold jh aEj ajR
 rw[ak (Le p x)]
 simp only[asInt,if_true]
 rw[ak (Le p y)]
 simp only[asInt,if_true,bz]
 rw[ae p.cp]
 by_cases c:D.p=2
 ·rw[if_pos (by rw[c];rfl),aFc (by omega) (by omega)]
  congr 4
  unfold FD.add FD.dg
  unfold FD.q at hx hy
  rw[c] at hx hy ⊢
  exact(aMJ _ _ _ hx hy).symm
 ·rw[if_neg (by simp;omega)]
  unfold ajQ
  have:=aFb (fl:=fl) (k:=10) (Vp M fl 10 (fun(y6:Int) q=>some (Value.int .i64 y6,q))) p D.m 0 10 (sQ D x) (sQ D y) 0 (by omega) (by omega) hx hy (by simp)
  rw[Nat.pow_zero] at this
  refine Eq.trans this ?_
  rw[Nat.one_mul,Nat.zero_add];rfl
theorem aFd{R:Type}{k:Nat}(kn:ah R)(p:GF h g D gen):
 ∀(d i f x s:Nat),i+d=D.m→d<f→x<D.p^d→s<D.p^i→
 zJ M fl k kn f (some g) (x:Int) (s:Int) ((D.p^i:Nat):Int) h=kn ((s+D.p^i*eH D.p (Dm D.p (bn D.p d x)):Nat):Int) h:=by
 have hp0:=D.hp
 have hp:=p.ok.p
 have hq:D.p^D.m≤256:=p.ok.q
 have stop:∀(d i f x s:Nat),x=0→0<f→zJ M fl k kn f (some g) (x:Int) (s:Int) ((D.p^i:Nat):Int) h=kn ((s+D.p^i*eH D.p (Dm D.p (bn D.p d x)):Nat):Int) h:=by
  rintro d i f x s rfl hf
  obtain⟨f,rfl⟩:∃j,f=j+1:=⟨f-1,by omega⟩
  show uy M fl k _ _ _ _ _ _ h=_
  unfold uy
  rw[if_neg (by simp),azs,Nat.mul_zero,Nat.add_zero]
 intro d
 induction d with
 |zero=>
  intro i f x s hi hf hx hs
  exact stop 0 i f x s (by simpa using hx) hf
 |succ d ih=>
  intro i f x s hi hf hx hs
  by_cases c:x=0
  ·exact stop (d+1) i f x s c (by omega)
  ·obtain⟨f,rfl⟩:∃j,f=j+1:=⟨f-1,by omega⟩
   have hpi:D.p^(i+1)≤256:=Nat.le_trans (Nat.pow_le_pow_right (by omega) (by omega)) hq
   have hpd:D.p^(d+1)≤256:=Nat.le_trans (Nat.pow_le_pow_right (by omega) (by omega)) hq
   have hx1:x%D.p<D.p:=Nat.mod_lt _ (by omega)
   have bL:(D.p-x%D.p)%D.p<D.p:=Nat.mod_lt _ (by omega)
   have e0:D.p^i*D.p=D.p^(i+1):=(Nat.pow_succ ..).symm
   have hmul:(D.p-x%D.p)%D.p*D.p^i+D.p^i≤D.p^(i+1):=by
    rw[←e0,Nat.mul_comm,←Nat.mul_succ]
    exact Nat.mul_le_mul_left _ bL
   show uy M fl k _ _ _ _ _ _ h=_
   unfold uy
   rw[if_pos (by simp;omega)]
   simp only[bz]
   rw[ae p.cp,ae p.cp,iX (by omega),ae p.cp,aH (D.p-x%D.p) (by omega) (by omega),iX (by omega),ae p.cp,ae p.cp,J5 (by omega) (by omega)]
   have e1:av ((((D.p-x%D.p)%D.p:Nat):Int)*((D.p^i:Nat):Int))=(((D.p-x%D.p)%D.p*D.p^i:Nat):Int):=aH _ (by push_cast;rfl) (by omega)
   have e2:av ((s:Int)+(((D.p-x%D.p)%D.p*D.p^i:Nat):Int))=((s+(D.p-x%D.p)%D.p*D.p^i:Nat):Int):=aH _ (by push_cast;rfl) (by omega)
   have e3:av (((D.p^i:Nat):Int)*(D.p:Int))=((D.p^(i+1):Nat):Int):=aH _ (by rw[←e0];push_cast;rfl) (by omega)
   rw[e1,e2,e3]
   refine(ih (i+1) f (x/D.p) _ (by omega) (by omega) (Bl hx) (by omega)).trans ?_
   congr 2
   simp only[bn,Dm,eH]
   rw[←e0,Nat.mul_add,Nat.mul_comm ((D.p-x%D.p)%D.p),Nat.mul_assoc]
   omega
theorem api(p:GF h g D gen)(x:Int):M fl fn.fR [.pointer (some g),.int .i64 x] h=some (.int .i64 ((D.neg (sQ D x):Nat):Int),h):=by
 have hm:=p.ok.m
 have hx:=Qf D x
 refine bF (k:=10) (by decide) Jq ?_
 rw[DM]
 unfold fR aDg ai1
 rw[ak (Le p x)]
 simp only[asInt,if_true]
 unfold ai0
 have:=aFd (fl:=fl) (k:=10) (U9 M fl 10 (fun(y6:Int) q=>some (Value.int .i64 y6,q))) p D.m 0 10 (sQ D x) 0 (by omega) (by omega) hx (by simp)
 rw[Nat.pow_zero] at this
 refine Eq.trans this ?_
 rw[Nat.one_mul,Nat.zero_add];rfl
theorem aFe(p:GF h g D gen)(x y:Int):M fl fn.gQ [.pointer (some g),.int .i64 x,.int .i64 y] h=some (.int .i64 ((D.add (sQ D x) (D.neg (sQ D y)):Nat):Int),h):=by
 refine bF (k:=1) (by decide) Jt ?_
 rw[DV]
 unfold gQ aDD
 rw[ak (api p y)]
 simp only[asInt,if_true]
 rw[ak (aph p x _),abk (D.aBv _)]
 rfl
theorem ael{x:Nat}(h:x<(akA D gen).length):(akA D gen)[x]=lg D gen x:=by simp[akA]
@[simp] theorem aOR:(akA D gen).length=D.q:=by simp[akA]
theorem aQj(hg:D.bh gen)(n:Nat):D.pw gen (n%(D.q-1))=D.pw gen n:=by
 have hk:∀k,D.pw gen ((D.q-1)*k)=1:=by
  intro k
  induction k with
  |zero=>simp[FD.pw]
  |succ k ih=>rw[Nat.mul_succ,D.CD,ih,hg.2.1,D.mul_one D.q1]
 conv=>rhs;rw[←Nat.mod_add_div n (D.q-1),D.CD,hk,D.mul_one (D.IQ ..)]
theorem apj(p:GF h g D gen)(x y:Int):M fl fn.dy [.pointer (some g),.int .i64 x,.int .i64 y] h=some (.int .i64 ((D.mul (sQ D x) (sQ D y):Nat):Int),h):=by
 have hq:D.q≤256:=p.ok.q
 have EJ:=D.q1
 have hx:=Qf D x
 have hy:=Qf D y
 refine bF (k:=1) (by decide) Ju ?_
 rw[DW]
 unfold dy aDF
 rw[ak (Le p x)]
 simp only[asInt,if_true]
 rw[ak (Le p y)]
 simp only[asInt,if_true,bz]
 generalize sQ D x=a at hx ⊢
 generalize sQ D y=b at hy ⊢
 by_cases c:a=0
 ·rw[if_neg (by simp[c]),c,D.mul_comm,D.mul_zero];rfl
 ·rw[if_pos (by simp[c])]
  by_cases c2:b=0
  ·rw[if_pos (by simp[c2]),c2,D.mul_zero];rfl
  ·rw[if_neg (by simp[c2])]
   obtain⟨e,l,t1,t2,t3,t4⟩:=p.aTl
   obtain⟨ha1,ha2⟩:=aFa p.agk c hx
   obtain⟨Iv,nY⟩:=aFa p.agk c2 hy
   have e1:av ((D.q:Int)-1)=((D.q-1:Nat):Int):=aH _ (by omega) (by omega)
   rw[aq t1,aq t2,t4.read (by omega) (by simp;omega)]
   simp only[Int.toNat_natCast,dW,ael]
   rw[aq t2,t4.read (by omega) (by simp;omega)]
   simp only[Int.toNat_natCast,dW,ael]
   have hr:(lg D gen a+lg D gen b)%(D.q-1)<D.q-1:=Nat.mod_lt _ (by omega)
   rw[ae p.cq,e1,aH (lg D gen a+lg D gen b) (by push_cast;rfl) (by omega),iX (by omega),t3.read (by omega) (by rw[dt,aeh,Int.toNat_natCast];exact hr)]
   simp only[Int.toNat_natCast,dW,Ld]
   rw[aQj p.agk,D.CD,ha2,nY]
theorem apk(p:GF h g D gen)(x:Int)(h0:sQ D x≠0):M fl fn.fS [.pointer (some g),.int .i64 x] h=some (.tuple ⟨[.int .i64 ((D.inv (sQ D x):Nat):Int),.int .i64 0]⟩,h):=by
 have hq:D.q≤256:=p.ok.q
 have EJ:=D.q1
 have hx:=Qf D x
 refine bF (k:=1) (by decide) Jw ?_
 rw[D5]
 unfold fS aDZ
 rw[ak (Le p x)]
 simp only[asInt,if_true,bz]
 generalize sQ D x=a at hx h0 ⊢
 rw[if_neg (by simp[h0])]
 obtain⟨e,l,t1,t2,t3,t4⟩:=p.aTl
 obtain⟨ha1,ha2⟩:=aFa p.agk h0 hx
 have e1:av ((D.q:Int)-1)=((D.q-1:Nat):Int):=aH _ (by omega) (by omega)
 rw[aq t1,ae p.cq,aq t2,t4.read (by omega) (by simp;omega)]
 simp only[Int.toNat_natCast,dW,ael]
 have hr:(D.q-1-lg D gen a)%(D.q-1)<D.q-1:=Nat.mod_lt _ (by omega)
 rw[ae p.cq,e1,aH (D.q-1-lg D gen a) (by omega) (by omega),iX (by omega),t3.read (by omega) (by simp;omega)]
 simp only[Int.toNat_natCast,dW,Ld]
 have:=FD.alz p.agk ha1
 rw[ha2] at this
 rw[FD.aro p.agk hx (D.IQ ..) this]
theorem aFf(p:GF h g D gen)(x y:Int)(h0:sQ D y≠0):M fl fn.ko [.pointer (some g),.int .i64 x,.int .i64 y] h=some (.tuple ⟨[.int .i64 ((D.mul (sQ D x) (D.inv (sQ D y)):Nat):Int),.int .i64 0]⟩,h):=by
 refine bF (k:=1) (by decide) Jr ?_
 rw[DT]
 unfold ko aDz
 rw[ak (apk p y h0)]
 simp only[aE,ar,aM,asInt,if_true]
 rw[if_neg (by simp),ak (apj p x _),abk (D.arn _)]
 rfl
end
end Go.Abs.P
end
section
namespace Go.Abs.P
open Go.Abs Go.Fld
theorem aFg{a b:List Nat}(h:ints a=ints b):a=b:=by
 unfold ints at h
 exact(List.map_inj_right (fun x y e=>Int.ofNat.inj e)).1 h
theorem gJ{p m:Int}{xs:List Int}{D D':FD}(h:IsF p m xs D)(h':IsF p m xs D'):D=D':=by
 obtain⟨f,rfl,rfl,rfl,_⟩:=h
 obtain⟨f',e1,e2,e3,_⟩:=h'
 have a1:=f.one
 have a2:=f'.one
 obtain⟨p,m,low,hp,hm,hl,hs⟩:=D
 obtain⟨p',m',aZr,hp',hm',YE,hs'⟩:=D'
 simp only at e1 e2 a1 a2
 have e1:p=p':=by omega
 have e2:m=m':=by omega
 subst e1 e2
 have:low=aZr:=by
  have e3:=aFg e3
  unfold kX at e3
  by_cases c:m=1
  ·rw[a1 c,a2 c]
  ·rwa[if_neg (show ¬m=1 from c),if_neg (show ¬m=1 from c)] at e3
 subst this;rfl
def Bm(p m:Int)(xs:List Int):Prop:=∃D gen,IsF p m xs D∧D.bh gen
theorem apl{fl:Nat}{h:AH}{mod:Sl}{xs:List Int}(p m:Int)(bL:SI h mod xs)(hb:xs.length≤ow)(bR:fl≤h.next):
 ∃h' e,M fl fn.gY [.agg ⟨[.int .i64 p,.int .i64 m,.slice mod.a mod.l mod.c]⟩] h=some (.int .i64 e,h')∧an h h'∧((Bm p m xs∧e=0)∨(¬Bm p m xs∧e=1)):=by
 have dF:=OB.alloc h [.int .i64 p,.int .i64 m,.slice mod.a mod.l mod.c]
 have eI:=an.alloc h [.int .i64 p,.int .i64 m,.slice mod.a mod.l mod.c]
 generalize eK:h.alloc [.int .i64 p,.int .i64 m,.slice mod.a mod.l mod.c]=h1 at dF eI
 obtain⟨h2,s1,s2⟩:=aek (fl:=fl) p m (bL.quiet eI) hb
 have go:∀{e:Int} {h':AH},gY M fl 1 p m mod h=some (.int .i64 e,h')→M fl fn.gY [.agg ⟨[.int .i64 p,.int .i64 m,.slice mod.a mod.l mod.c]⟩] h=some (.int .i64 e,h'):=by
  intro e h' he
  refine bF (k:=1) (by decide) MH ?_
  rw[Hf];exact he
 have nL:=eI.trans s2
 have nY:=dF.quiet s2
 have pre:∀r,(if (!mP p m xs)=false then aF .i64 h2 h.next 0 fun n9=>aF .i64 h2 h.next 1 fun mb=>aT h2 h.next 2 fun EG=>aF .i64 h2 h.next 0 fun Bu=>aF .i64 h2 h.next 1 fun BL=>aj M h2.next fn.jf [.int .i64 Bu,.int .i64 BL] h2 fun v14 nX=>asInt .i64 v14 fun HT=>aj M fl fn.cX [.agg ⟨[.int .i64 n9,.int .i64 mb,.slice EG.a EG.l EG.c]⟩,.int .i64 HT] nX fun v17 JR=>aX v17 fun s19=>if s19.a.isNone=true then some (Value.int .i64 1,JR) else some (Value.int .i64 0,JR) else some (Value.int .i64 1,h2))=r→gY M fl 1 p m mod h=r:=by
  intro r hr
  unfold gY aCQ bJ
  rw[eK]
  dsimp only
  rw[ae (dF.cell rfl),ae (dF.cell rfl),aq (s:=mod) (dF.cell rfl),ak s1]
  simp only[asBool]
  exact hr
 by_cases c:mP p m xs=true
 ·obtain⟨D,hD⟩:=(vq p m xs).1 c
  have ho:=aE9 hD
  obtain⟨f,rfl,rfl,rfl,pr⟩:=hD
  obtain⟨s',h',g1,g2,g3⟩:=JG (fl:=fl) f (bL.quiet nL) (by have:=nL.1;omega)
  have run:∀e,(if s'.a.isNone=true then some (Value.int .i64 1,h') else some (Value.int .i64 0,h'))=some (Value.int .i64 e,h')→gY M fl 1 (D.p:Int) (D.m:Int) mod h=some (.int .i64 e,h'):=by
   intro e he
   apply pre
   rw[if_pos (by simp[c]),ae (nY.cell rfl),ae (nY.cell rfl),aq (s:=mod) (nY.cell rfl),ae (nY.cell rfl),ae (nY.cell rfl),ak (GH _ _),ho]
   simp only[asInt,if_true]
   rw[ak g1]
   exact he
  rcases g3 with⟨gen,p1,_,p3⟩|⟨p1,p2⟩
  ·exact⟨h',0,go (run 0 (by rw[p3];rfl)),nL.trans g2,.inl ⟨⟨D,gen,⟨f,rfl,rfl,rfl,pr⟩,p1⟩,rfl⟩⟩
  ·refine⟨h',1,go (run 1 (by rw[p1];rfl)),nL.trans g2,.inr ⟨?_,rfl⟩⟩
   rintro⟨D',gen,h1,h2⟩
   have:D=D':=gJ ⟨f,rfl,rfl,rfl,pr⟩ h1
   subst this
   exact p2 gen h2
 ·refine⟨h2,1,go (pre _ ?_),nL,.inr ⟨?_,rfl⟩⟩
  ·rw[if_neg (by simp[c])]
  ·rintro⟨D',gen,h1,h2⟩
   exact c ((vq p m xs).2 ⟨D',h1⟩)
theorem asd{R:Type}{fl b:Nat}{h:AH}{s:Sl}{xs:List Int}(hb:OB h b [])(hs:SI h s xs)(hr:xs.length*8≤kc)(K:Sl→AH→Option R):
 ∃s' h',dn fl 1 8 ⟨some ⟨b,0,none⟩,0,0⟩ s h K=K s' h'∧SI h' s' xs∧an h h':=by
 have hl:=hs.len
 unfold dn
 cases xs with
 |nil=>
  refine⟨⟨some ⟨b,0,none⟩,0,0⟩,h,?_,⟨rfl,fun i hi=>by cases hi⟩,an.refl h⟩
  rw[if_pos (by simpa using hl)]
 |cons x xs=>
  refine⟨⟨some ⟨h.next,0,none⟩,s.l,oB+1⟩,h.alloc (iv (x::xs)),?_,?_,an.alloc ..⟩
  ·rw[if_neg (by rw[hl];simp),if_pos (by rw[hl];simpa using hr),hs.GO (by simp)]
   simp only
   rw[if_pos (by unfold oB;omega),if_neg (by rw[hl];simp)]
   unfold GO
   simp only[hb.iN]
   rw[if_pos (by simp)]
   simp
  ·have:=(OB.alloc h (iv (x::xs))).si none (oB+1)
   rw[hl];exact this
def Bn(D:FD)(gen n:Nat):List Nat:=(List.range D.q).map fun v=>if v∈yI D gen n then lg D gen v else 0
@[simp] theorem aMK(D:FD)(gen n:Nat):(Bn D gen n).length=D.q:=by simp[Bn]
theorem azt{D:FD}{gen n:Nat}(hg:D.bh gen)(hn:n<D.q-1):(Bn D gen n).set (D.pw gen n) n=Bn D gen (n+1):=by
 apply List.ext_getElem (by simp)
 intro i h1 h2
 rw[List.getElem_set]
 simp only[Bn,List.getElem_map,List.getElem_range,JF,List.mem_append,List.mem_singleton]
 by_cases e:D.pw gen n=i
 ·subst e
  rw[if_pos rfl,if_pos (.inr rfl),aOQ hg hn]
 ·rw[if_neg e]
  have:¬i=D.pw gen n:=fun h=>e h.symm
  simp[this]
theorem azu{D:FD}{gen:Nat}(hg:D.bh gen):Bn D gen (D.q-1)=akA D gen:=by
 have hq:=D.q1
 refine List.map_congr_left fun v hv=>?_
 have hv:=List.mem_range.1 hv
 by_cases c:v=0
 ·subst c
  have h1:¬0∈yI D gen (D.q-1):=by
   intro h
   obtain⟨i,_,h2⟩:=List.mem_map.1 h
   exact D.vw hg i h2
  rw[if_neg h1]
  have:∀n i,lgF D gen 0 n i=0:=by
   intro n
   induction n with
   |zero=>intro i;rfl
   |succ n ih=>intro i;unfold lgF;rw[if_neg (D.vw hg i)];exact ih _
  exact(this _ _).symm
 ·obtain⟨i,h1,rfl⟩:=D.Dn hg c hv
  have:D.pw gen i∈yI D gen (D.q-1):=List.mem_map.2 ⟨i,List.mem_range.2 h1,rfl⟩
  rw[if_pos this]
theorem aFh{R:Type}{D:FD}{fl k:Nat}{h0:AH}{b lb gen:Nat}{mod e:Sl}(kn:wi R)(hg:D.bh gen)(hq:D.q≤256)(hgf:OB h0 b [.int .i64 (D.p:Int),.int .i64 (D.m:Int),.slice mod.a mod.l mod.c,.int .i64 (D.q:Int),.slice e.a e.l e.c,.slice (some ⟨lb,0,none⟩) D.q D.q])
 (lZ:lb≠b) (he:SI h0 e (ints (yI D gen (D.q-1)))) (hel:∀a,e.a=some a→lb≠a.block) (bR:fl≤lb):
 ∀(d n g:Nat) (h:AH),n+d=D.q-1→d<g→OB h lb (iv (ints (Bn D gen n)))→kg (some ⟨lb,0,none⟩) h0 h→
 ∃h',DB M fl k kn g (some ⟨b,0,none⟩) e ((D.q-1:Nat):Int) (n:Int) h=kn (some ⟨b,0,none⟩) h'∧OB h' lb (iv (ints (akA D gen)))∧kg (some ⟨lb,0,none⟩) h0 h':=by
 intro d
 induction d with
 |zero=>
  intro n g h hi hf ho V2
  obtain⟨g,rfl⟩:∃j,g=j+1:=⟨g-1,by omega⟩
  obtain rfl:n=D.q-1:=by omega
  rw[azu hg] at ho
  refine⟨h,?_,ho,V2⟩
  show uf M fl k _ _ _ _ _ _ h=_
  unfold uf
  rw[if_neg (by simp)]
 |succ d ih=>
  intro n g h hi hf ho V2
  obtain⟨g,rfl⟩:∃j,g=j+1:=⟨g-1,by omega⟩
  have hlt:=D.IQ gen n
  have a2O:=V2.ob hgf (fun a ha=>by cases ha;exact lZ)
  have hs:(iv (ints (Bn D gen n))).set (0+D.pw gen n) (.int .i64 (n:Int))=iv (ints (Bn D gen (n+1))):=by
   rw[lu,ints_set,Nat.zero_add,azt hg (by omega)]
  obtain⟨h',e1,e2,e3⟩:=ih (n+1) g (h.put lb (some (iv (ints (Bn D gen (n+1)))))) (by omega) (by omega) (ho.put _) (V2.trans (kg.put _))
  refine⟨h',?_,e2,e3⟩
  show uf M fl k _ _ _ _ _ _ h=_
  unfold uf
  rw[if_pos (by rw[decide_eq_true_eq];omega),(he.J6 V2 (fun a b' ha xz=>by cases xz;exact hel a ha)).read (by omega) (by simp;omega)]
  simp only[Int.toNat_natCast,dW,Ld,bz]
  rw[aq (s:=⟨some ⟨lb,0,none⟩,D.q,D.q⟩) (a2O.cell rfl),bC rfl hlt]
  dsimp only
  rw[ho.st bR (by simp;omega) rfl,hs,aH (n+1) (by push_cast;rfl) (by omega)]
  exact e1
theorem aem{fl:Nat}{h:AH}{mod:Sl}{xs:List Int}(p m:Int)(bL:SI h mod xs)(hb:xs.length≤ow)(bR:fl≤h.next):
 ∃h',an h h'∧((¬Bm p m xs∧M fl fn.fB [.agg ⟨[.int .i64 p,.int .i64 m,.slice mod.a mod.l mod.c]⟩] h=some (.tuple ⟨[.pointer none,.int .i64 1]⟩,h'))∨
  (∃D gen g,IsF p m xs D∧GF h' g D gen∧h.next≤g.block∧M fl fn.fB [.agg ⟨[.int .i64 p,.int .i64 m,.slice mod.a mod.l mod.c]⟩] h=some (.tuple ⟨[.pointer (some g),.int .i64 0]⟩,h'))):=by
 have dF:=OB.alloc h [.int .i64 p,.int .i64 m,.slice mod.a mod.l mod.c]
 have eI:=an.alloc h [.int .i64 p,.int .i64 m,.slice mod.a mod.l mod.c]
 generalize eK:h.alloc [.int .i64 p,.int .i64 m,.slice mod.a mod.l mod.c]=h1 at dF eI
 obtain⟨h2,s1,s2⟩:=aek (fl:=fl) p m (bL.quiet eI) hb
 have go:∀{r},fB M fl 300 p m mod h=some r→M fl fn.fB [.agg ⟨[.int .i64 p,.int .i64 m,.slice mod.a mod.l mod.c]⟩] h=some r:=by
  intro r he
  refine bF (k:=300) (by decide) Yt ?_
  rw[Mr];exact he
 have nL:=eI.trans s2
 have nY:=dF.quiet s2
 by_cases c:mP p m xs=true
 ·obtain⟨D,hD⟩:=(vq p m xs).1 c
  have ho:=aE9 hD
  obtain⟨f,rfl,rfl,rfl,pr⟩:=hD
  have ahA:=f.q
  have EJ:=D.q1
  obtain⟨s',h3,g1,g2,g3⟩:=JG (fl:=fl) f (bL.quiet nL) (by have:=nL.1;omega)
  have hq3:=nL.trans g2
  have hb3:=nY.quiet g2
  rcases g3 with⟨gen,p1,p2,p3⟩|⟨p1,p2⟩
  ·have hb4:=OB.alloc h3 []
   have hqb:=an.alloc h3 []
   generalize hh4:h3.alloc []=h4 at hb4 hqb
   have hb5:=hb3.quiet hqb
   have aUz:=bL.quiet (hq3.trans hqb)
   have hml:(kX D).length≤8:=by
    unfold kX
    split
    ·simp
    ·rw[D.hl];exact f.m
   obtain⟨ms,h5,a1,a2,a3⟩:=asd (R:=Value×AH) (fl:=h4.next) hb4 aUz (by unfold kc;simp;omega) (fun s31 Qp=>qF 8 [.int .i64 0] (D.q:Int) (D.q:Int) Qp fun s33 h34=>bJ h34 [.int .i64 (D.p:Int),.int .i64 (D.m:Int),.slice s31.a s31.l s31.c,.int .i64 (D.q:Int),.slice s'.a s'.l s'.c,.slice s33.a s33.l s33.c] fun b35 Qj=>aiG M fl 300 (fun(y4:OA) (y5:Int) q=>some (Value.tuple ⟨[.pointer y4,.int .i64 y5]⟩,q)) (some ⟨b35,0,none⟩) s' ((s'.l:Nat):Int) 0 Qj)
   have hl5:=OB.alloc h5 (iv (ints (Bn D gen 0)))
   have hqc:=an.alloc h5 (iv (ints (Bn D gen 0)))
   generalize hh6:h5.alloc (iv (ints (Bn D gen 0)))=h6 at hl5 hqc
   have hg6:=OB.alloc h6 [.int .i64 (D.p:Int),.int .i64 (D.m:Int),.slice ms.a ms.l ms.c,.int .i64 (D.q:Int),.slice s'.a s'.l s'.c,.slice (some ⟨h5.next,0,none⟩) D.q D.q]
   have hqd:=an.alloc h6 [.int .i64 (D.p:Int),.int .i64 (D.m:Int),.slice ms.a ms.l ms.c,.int .i64 (D.q:Int),.slice s'.a s'.l s'.c,.slice (some ⟨h5.next,0,none⟩) D.q D.q]
   generalize hh7:h6.alloc [.int .i64 (D.p:Int),.int .i64 (D.m:Int),.slice ms.a ms.l ms.c,.int .i64 (D.q:Int),.slice s'.a s'.l s'.c,.slice (some ⟨h5.next,0,none⟩) D.q D.q]=h7 at hg6 hqd
   have hse:SI h3 s' (ints (yI D gen (D.q-1))):=p2.si
   have T9:s'.l=D.q-1:=by rw[hse.len];simp
   have hnil:(ints (yI D gen (D.q-1)))≠[]:=by intro e;have:=congrArg List.length e;simp at this;omega
   have h35:=(hqb.trans a3).1
   have h56:=hl5.1
   have aUy:SI h7 s' (ints (yI D gen (D.q-1))):=hse.quiet ((hqb.trans a3).trans (hqc.trans hqd))
   obtain⟨h8,e1,e2,e3⟩:=aFh (k:=300) (fl:=fl) (UW M fl 300 (fun(y4:OA) (y5:Int) q=>some (Value.tuple ⟨[.pointer y4,.int .i64 y5]⟩,q))) p1 ahA hg6 (by omega) aUy
    (fun a ha=>by have:=hse.lt hnil a ha;omega) (show fl≤h5.next by have:=hq3.1;omega) (D.q-1) 0 300 h7 (by omega) (by omega) (hl5.quiet hqd) (kg.refl _ _)
   have aRf:an h h5:=(hq3.trans hqb).trans a3
   refine⟨h8,?_,.inr ⟨D,gen,⟨h6.next,0,none⟩,⟨f,rfl,rfl,rfl,pr⟩,⟨f,p1,rfl,ms,s',⟨some ⟨h5.next,0,none⟩,D.q,D.q⟩,?_,?_,?_,?_⟩,?_,go ?_⟩⟩
   ·exact e3.quiet (aRf.trans (hqc.trans hqd)) (fun a ha=>by cases ha;have:=aRf.1;simpa using this)
   ·exact e3.ob hg6 (fun a ha=>by cases ha;simp;omega)
   ·by_cases hm0:ints (kX D)=[]
    ·have:=a2.len;rw[hm0] at this ⊢;exact⟨this,fun i hi=>by cases hi⟩
    ·exact(a2.quiet (hqc.trans hqd)).J6 e3 (fun a b ha hb=>by cases hb;have:=a2.lt hm0 a ha;simp;omega)
   ·exact aUy.J6 e3 (fun a b ha hb=>by cases hb;have:=hse.lt hnil a ha;simp;omega)
   ·have:=e2.si none D.q
    simpa using this
   ·have h1:=aRf.1
    show h.next≤h6.next
    omega
   ·unfold fB amP UX bJ
    rw[eK]
    dsimp only
    rw[ae (dF.cell rfl),ae (dF.cell rfl),aq (s:=mod) (dF.cell rfl),ak s1]
    simp only[asBool]
    rw[if_neg (by simp[c]),ae (nY.cell rfl),ae (nY.cell rfl),ak (GH _ _),ho]
    simp only[asInt,if_true]
    rw[ae (nY.cell rfl),ae (nY.cell rfl),aq (s:=mod) (nY.cell rfl),ak g1]
    simp only[aX]
    rw[if_neg (by simp[p3]),ae (hb3.cell rfl),ae (hb3.cell rfl),hh4,aq (s:=mod) (hb5.cell rfl)]
    refine Eq.trans a1 ?_
    rw[j7 (by unfold kc;omega),qM]
    have aM2:List.replicate D.q 0=Bn D gen 0:=by
     apply List.ext_getElem (by simp)
     intro i h1 h2
     simp[Bn,yI]
    rw[aM2,hh6]
    unfold bJ
    rw[hh7,T9]
    exact e1
  ·refine⟨h3,hq3,.inl ⟨?_,go ?_⟩⟩
   ·rintro⟨D',gen,h1,h2⟩
    have:D=D':=gJ ⟨f,rfl,rfl,rfl,pr⟩ h1
    subst this
    exact p2 gen h2
   ·unfold fB amP UX bJ
    rw[eK]
    dsimp only
    rw[ae (dF.cell rfl),ae (dF.cell rfl),aq (s:=mod) (dF.cell rfl),ak s1]
    simp only[asBool]
    rw[if_neg (by simp[c]),ae (nY.cell rfl),ae (nY.cell rfl),ak (GH _ _),ho]
    simp only[asInt,if_true]
    rw[ae (nY.cell rfl),ae (nY.cell rfl),aq (s:=mod) (nY.cell rfl),ak g1]
    simp only[aX]
    rw[if_pos p1]
 ·refine⟨h2,nL,.inl ⟨?_,go ?_⟩⟩
  ·rintro⟨D',gen,h1,h2⟩
   exact c ((vq p m xs).2 ⟨D',h1⟩)
  ·unfold fB amP UX bJ
   rw[eK]
   dsimp only
   rw[ae (dF.cell rfl),ae (dF.cell rfl),aq (s:=mod) (dF.cell rfl),ak s1]
   simp only[asBool]
   rw[if_pos (by simp[c])]
end Go.Abs.P
end
section
namespace Go.Abs.P
open Go.Abs Go.Fld
theorem akB{R:Type}{fl k:Nat}(kn:ab R){h0:AH}{b p:Nat}(hp:0<p)(bR:fl≤b)(hb:h0.next≤b)(m:Nat)(hm:m<ow):
 ∀(d i f x:Nat) (pre:List Nat) (h:AH),i+d=m→d<f→pre.length=i→x<9223372036854775808→OB h b (iv (ints (pre++List.replicate d 0)))→an h0 h→
 ∃h',D3 M fl k kn f (x:Int) (p:Int) (m:Int) ⟨some ⟨b,0,none⟩,m,m⟩ (i:Int) h=kn ⟨some ⟨b,0,none⟩,m,m⟩ h'∧OB h' b (iv (ints (pre++bn p d x)))∧an h0 h':=by
 intro d
 induction d with
 |zero=>
  intro i f x pre h hi hf agu hx ho hq
  obtain⟨f,rfl⟩:∃j,f=j+1:=⟨f-1,by omega⟩
  refine⟨h,?_,ho,hq⟩
  show uM M fl k _ _ (x:Int) (p:Int) _ _ (i:Int) h=_
  unfold uM
  rw[if_neg (by simp;omega)]
 |succ d ih=>
  intro i f x pre h hi hf agu hx ho hq
  obtain⟨f,rfl⟩:∃j,f=j+1:=⟨f-1,by omega⟩
  have hs:(iv (ints (pre++List.replicate (d+1) 0))).set (0+i) (.int .i64 ((x%p:Nat):Int))=iv (ints ((pre++[x%p])++List.replicate d 0)):=by
   rw[lu,ints_set,List.set_append_right _ _ (by omega),show 0+i-pre.length=0 by omega,List.replicate_succ,List.set_cons_zero];simp
  have ho2:OB (h.put b (some (iv (ints ((pre++[x%p])++List.replicate d 0))))) b (iv (ints ((pre++[x%p])++List.replicate d 0))):=ho.put _
  obtain⟨h',e1,e2,e3⟩:=ih (i+1) f (x/p) (pre++[x%p]) _ (by omega) (by omega) (by simp;omega) (Nat.lt_of_le_of_lt (Nat.div_le_self x p) hx) ho2 (hq.put hb _)
  refine⟨h',?_,by simpa [bn] using e2,e3⟩
  show uM M fl k _ _ (x:Int) (p:Int) _ _ (i:Int) h=_
  unfold uM
  rw[if_pos (by simp;omega),iX hp,bC rfl (show i<m by omega),ho.st bR (by simp;omega) rfl,hs,J5 hp hx,gr (by omega)]
  exact e1
theorem TM{fl:Nat}{h:AH}{x p m:Nat}(hp:0<p)(hm:m≤64)(hx:x<9223372036854775808)(bR:fl≤h.next):
 ∃h',M fl fn.mZ [.int .i64 (x:Int),.int .i64 (p:Int),.int .i64 (m:Int)] h=some (.slice (some ⟨h.next,0,none⟩) m m,h')∧OB h' h.next (iv (ints (bn p m x)))∧an h h':=by
 have ho:=OB.alloc h (List.replicate m (Value.int .i64 0))
 rw[qM] at ho
 obtain⟨h',e1,e2,e3⟩:=akB (fl:=fl) (k:=m+1) (Vi M fl (m+1) (fun(y6:Sl) q=>some (Value.slice y6.a y6.l y6.c,q))) hp bR (Nat.le_refl _) m (by unfold ow;omega) m 0 (m+1) x [] _ (by omega) (by omega) rfl hx ho (an.alloc h _)
 refine⟨h',bF (k:=m+1) (by decide) aee ?_,e2,e3⟩
 rw[Vj]
 unfold mZ aDW ajy
 rw[j7 (by unfold kc;omega),qM]
 exact e1
theorem apm{R:Type}{fl k:Nat}(kn:au R)(kr:aC R){h:AH}{n:Nat}(hn:n≤256):
 ∀(j d f:Nat),0<d→d+j=n→j<f→DI M fl k kn kr f (n:Int) (d:Int) h=if isP n j d=true then kn h else kr false h:=by
 intro j
 induction j with
 |zero=>
  intro d f h0 hd hf
  obtain⟨f,rfl⟩:∃j,f=j+1:=⟨f-1,by omega⟩
  show uo M fl k _ _ kr (n:Int) _ h=_
  unfold uo
  rw[if_neg (by simp;omega)];rfl
 |succ j ih=>
  intro d f h0 hd hf
  obtain⟨f,rfl⟩:∃j,f=j+1:=⟨f-1,by omega⟩
  show uo M fl k _ _ kr (n:Int) _ h=_
  unfold uo
  unfold isP
  rw[if_pos (by simp;omega),iX h0]
  by_cases c2:n%d=0
  ·rw[if_pos (by simp[c2]),if_pos c2];rfl
  ·rw[if_neg (by simp;omega),if_neg c2,aH (d+1) (by push_cast;rfl) (by omega)]
   exact ih (d+1) f (by omega) (by omega) (by omega)
theorem apn{fl:Nat}{h:AH}{n:Nat}(hn:n≤256)(h2:2≤n):M fl fn.pY [.int .i64 (n:Int)] h=some (.bool (FD.prB n),h):=by
 refine bF (k:=n) (by decide) af5 ?_
 rw[Zr]
 unfold pY aC6 aiS aiR
 have:=apm (fl:=fl) (k:=n) (U5 M fl n (fun(y2:Bool) q=>some (Value.bool y2,q))) (fun(y2:Bool) q=>some (Value.bool y2,q)) (h:=h) hn (n-2) 2 n (by omega) (by omega) (by omega)
 refine this.trans ?_
 have e:FD.prB n=isP n (n-2) 2:=by unfold FD.prB;rw[Nat.ble_eq_true_of_le h2,Bool.true_and]
 rw[e]
 by_cases c:isP n (n-2) 2=true
 ·rw[if_pos c,c];rfl
 ·rw[if_neg c];simp only[Bool.not_eq_true] at c;rw[c]
theorem apo{R:Type}{fl k:Nat}{h:AH}{bx:Nat}{vs:List Value}(kn:ah R)(kr:ah R){p m:Nat}(hx:OB h bx (.int .i64 (p:Int)::.int .i64 (m:Int)::vs))(hp:2≤p):
 ∀(j i f:Nat),i+j=m→j<f→p^i≤256→m≤8→DH M fl k kn kr f ⟨bx,0,none⟩ ((p^i:Nat):Int) (i:Int) h=if p^m≤256 then kn ((p^m:Nat):Int) h else kr 0 h:=by
 intro j
 induction j with
 |zero=>
  intro i f hi hf hle hm
  obtain⟨f,rfl⟩:∃j,f=j+1:=⟨f-1,by omega⟩
  obtain rfl:i=m:=by omega
  show um M fl k _ _ kr _ _ _ h=_
  unfold um
  rw[ae (hx.cell rfl),if_neg (by simp),if_pos hle]
 |succ j ih=>
  intro i f hi hf hle hm
  obtain⟨f,rfl⟩:∃j,f=j+1:=⟨f-1,by omega⟩
  show um M fl k _ _ kr _ _ _ h=_
  unfold um
  have ih:=ih (i+1) f (by omega) (by omega)
  have h3:p^(i+1)≤p^m:=Nat.pow_le_pow_right (by omega) (by omega)
  obtain⟨P,hP⟩:∃P,P=p^(i+1):=⟨_,rfl⟩
  have e:p^i*p=P:=hP.symm
  rw[←hP] at ih h3
  have hdiv:p^i≤256/p↔P≤256:=by rw[Nat.le_div_iff_mul_le (by omega),e]
  rw[ae (hx.cell rfl),if_pos (by simp;omega),ae (hx.cell rfl)]
  have hq:∀K:Int→Option R,j6 .quo .i64 256 (p:Int) K=K ((256/p:Nat):Int):=fun K=>J5 (a:=256) (b:=p) (by omega) (by omega) K
  rw[hq]
  generalize hg:256/p=G at hdiv
  by_cases c:P≤256
  ·rw[if_neg (by rw[decide_eq_true_eq];have:=hdiv.2 c;omega),ae (hx.cell rfl),aH P (by rw[←e];push_cast;rfl) (by omega),aH (i+1) (by push_cast;rfl) (by omega)]
   exact ih c hm
  ·rw[if_pos (by rw[decide_eq_true_eq];have:¬p^i≤G:=fun h=>c (hdiv.1 h)
                 omega),if_neg (by omega)]
theorem Cv{fl:Nat}{h:AH}(p m:Int)(mod:Sl):∃h',M fl fn.mw [.agg ⟨[.int .i64 p,.int .i64 m,.slice mod.a mod.l mod.c]⟩] h=some (.int .i64 ((It p m:Nat):Int),h')∧an h h':=by
 have dF:=OB.alloc h [.int .i64 p,.int .i64 m,.slice mod.a mod.l mod.c]
 have eI:=an.alloc h [.int .i64 p,.int .i64 m,.slice mod.a mod.l mod.c]
 generalize eK:h.alloc [.int .i64 p,.int .i64 m,.slice mod.a mod.l mod.c]=h1 at dF eI
 refine⟨h1,bF (k:=10) (by decide) af4 ?_,eI⟩
 rw[Zq]
 unfold mw aC4 aiP bJ
 rw[eK]
 dsimp only
 rw[ae (dF.cell rfl)]
 unfold It
 by_cases h1:p<2
 ·rw[if_neg (by simp[h1]),if_pos (.inl h1)];rfl
 ·rw[if_pos (by simp;omega),ae (dF.cell rfl)]
  by_cases h3:m<1
  ·rw[if_neg (by simp;omega),if_pos (by omega)];rfl
  ·rw[if_pos (by simp;omega),ae (dF.cell rfl)]
   by_cases h4:m>8
   ·rw[if_pos (by simp;omega),if_pos (by omega)];rfl
   ·rw[if_neg (by simp;omega)]
    obtain⟨p,rfl⟩:∃n:Nat,p=n:=⟨p.toNat,by omega⟩
    obtain⟨m,rfl⟩:∃n:Nat,m=n:=⟨m.toNat,by omega⟩
    have:=apo (fl:=fl) (k:=10) (U4 M fl 10 (fun(y4:Int) q=>some (Value.int .i64 y4,q))) (fun(y4:Int) q=>some (Value.int .i64 y4,q)) dF (by omega) m 0 10 (by omega) (by omega) (by simp) (by omega)
    refine Eq.trans this ?_
    by_cases c:p^m≤256
    ·have hp:p≤256:=by
      have:p^1≤p^m:=Nat.pow_le_pow_right (by omega) (by omega)
      rw[Nat.pow_one] at this;omega
     rw[if_pos c,if_neg (by omega)]
     simp only[Int.toNat_natCast]
     rw[if_pos c];rfl
    ·rw[if_neg c]
     simp only[Int.toNat_natCast]
     rw[if_neg c]
     split<;>rfl
end Go.Abs.P
end
section
namespace Go.Abs.P
open Go.Abs Go.Fld
theorem axe{R:Type}{fl b:Nat}{h:AH}{s:Sl}{xs:List Int}(hb:OB h b [])(hs:SI h s xs)(lZ:xs≠[])(hr:xs.length*8≤kc)(K:Sl→AH→Option R):
 ∃s' h',dn fl 1 8 ⟨some ⟨b,0,none⟩,0,0⟩ s h K=K s' h'∧OV h.next h' s' (iv xs)∧an h h':=by
 have hl:=hs.len
 have aUh:0<xs.length:=List.length_pos_iff.2 lZ
 unfold dn
 refine⟨⟨some ⟨h.next,0,none⟩,s.l,oB+1⟩,h.alloc (iv xs),?_,?_,an.alloc ..⟩
 ·rw[if_neg (by omega),if_pos (by rw[hl];simpa using hr),hs.GO lZ]
  simp only
  rw[if_pos (by unfold oB;omega),if_neg (by rw[hl];simp;omega)]
  unfold GO
  simp only[hb.iN]
  rw[if_pos (by simp)]
  simp
 ·rw[hl]
  exact .inr ⟨h.next,oB+1,Nat.le_refl _,Nat.lt_succ_self _,by simpa [iv] using lZ,.inl rfl,by simp,by simp[AH.alloc]⟩
def zs(p c:Nat)(GK low:List Nat):List Nat:=List.zipWith (fun x l=>(x+(p-c)*l)%p) GK low
theorem aML(p c:Nat)(s t l:List Nat)(h:s.length=l.length):axK p c (s++t) l=zs p c s l++t:=by
 induction s generalizing l with
 |nil=>cases l with
  |nil=>cases t<;>rfl
  |cons y l=>cases h
 |cons x s ih=>cases l with
  |nil=>cases h
  |cons y l=>
   have:=ih l (by simpa using h)
   show(x+(p-c)*y)%p::axK p c (s++t) l=(x+(p-c)*y)%p::(zs p c s l++t)
   rw[this]
theorem ahg{p c:Nat}{s l:List Nat}(h:s.length=l.length):(zs p c s l).length=s.length:=by unfold zs;rw[List.length_zipWith];omega
theorem aFi{p c:Nat}(hp:0<p)(s l:List Nat):Small p (zs p c s l):=by
 induction s generalizing l with
 |nil=>intro a h;simp[zs] at h
 |cons x s ih=>cases l with
  |nil=>intro a h;simp[zs] at h
  |cons y l=>
   intro a h
   rcases List.mem_cons.1 (show a∈(x+(p-c)*y)%p::zs p c s l from h) with rfl|h
   ·exact Nat.mod_lt _ hp
   ·exact ih l a h
theorem Yu(a b:List Nat):rev a b=a.reverse++b:=by
 induction a generalizing b with
 |nil=>rfl
 |cons x a ih=>simp[rev,ih]
theorem ase{p c:Nat}{s l:List Nat}(h:s.length=l.length):zs p c s.reverse l.reverse=(zs p c s l).reverse:=by
 unfold zs;rw[List.reverse_zipWith h]
theorem kj{l:List Nat}{i:Nat}(h:i<l.length):(iv (ints l))[i]?=some (.int .i64 ((l[i]:Nat):Int)):=by
 rw[M1 _ _ (by simpa using h),dW]
section
variable{fl k:Nat}{h0:AH}{rb p d c0:Nat}{low:List Nat}{tl:Sl}
theorem azv{R:Type}(kn:dM R)(hp:2≤p)(hp2:p≤256)(JP:SI h0 tl (ints low))(hld:low.length=d)(T9:Small p low)(Lh:h0.next≤rb)(bR:fl≤rb)(hd:d≤64)
 (pre GK post:List Nat) (c L:Nat) (a89:GK.length=d) (hss:Small p GK) (hc:c<p) (agu:pre.length≤64) (hL:L=pre.length+d+1+post.length):
 ∀(e j g:Nat) (h:AH),j+e=d→e<g→OB h rb (iv (ints (pre++((zs p c GK low).take j++GK.drop j)++c::post)))→an h0 h→
 ∃h',jn M fl k kn g tl (p:Int) (d:Int) ⟨some ⟨rb,0,none⟩,L,c0⟩ ((pre.length+d:Nat):Int) (c:Int) (j:Int) h=kn tl (p:Int) (d:Int) ⟨some ⟨rb,0,none⟩,L,c0⟩ ((pre.length+d:Nat):Int) h'∧
  OB h' rb (iv (ints (pre++zs p c GK low++c::post)))∧an h0 h':=by
 have hzl:(zs p c GK low).length=d:=by rw[ahg (by omega)];exact a89
 intro e
 induction e with
 |zero=>
  intro j g h hj hg ho hq
  obtain⟨g,rfl⟩:∃j,g=j+1:=⟨g-1,by omega⟩
  refine⟨h,?_,?_,hq⟩
  ·show fj M fl k _ _ _ _ _ _ _ _ _ h=_
   unfold fj
   rw[if_neg (by simp;omega)]
  ·rw[List.take_of_length_le (by omega),List.drop_of_length_le (by omega),List.append_nil] at ho
   exact ho
 |succ e ih=>
  intro j g h hj hg ho hq
  obtain⟨g,rfl⟩:∃j,g=j+1:=⟨g-1,by omega⟩
  have hlj:low[j]'(by omega)<p:=T9 _ (List.getElem_mem _)
  have hsj:GK[j]'(by omega)<p:=hss _ (List.getElem_mem _)
  have aUq:(p-c)*low[j]'(by omega)≤256*256:=Nat.mul_le_mul (by omega) (by omega)
  have mS:h.cell rb (0+(pre.length+j))=some (.int .i64 ((GK[j]'(by omega):Nat):Int)):=by
   refine ho.cell ?_
   rw[Nat.zero_add,kj (by simp;omega)]
   congr 3
   rw[List.getElem_append_left (by simp;omega),List.getElem_append_right (by omega)]
   rw[List.getElem_append_right (by simp;omega)]
   simp[show min j (zs p c GK low).length=j by omega]
  have nV:(iv (ints (pre++((zs p c GK low).take j++GK.drop j)++c::post))).set (0+(pre.length+j)) (.int .i64 (((GK[j]'(by omega)+(p-c)*low[j]'(by omega))%p:Nat):Int))=
   iv (ints (pre++((zs p c GK low).take (j+1)++GK.drop (j+1))++c::post)):=by
   rw[lu,ints_set,Nat.zero_add]
   congr 2
   rw[List.set_append_left _ _ (by simp;omega),List.set_append_right _ _ (by omega),show pre.length+j-pre.length=j by omega,List.set_append_right _ _ (by simp;omega)]
   rw[List.drop_eq_getElem_cons (show j<GK.length by omega),List.take_succ_eq_append_getElem (show j<(zs p c GK low).length by omega)]
   have:j-((zs p c GK low).take j).length=0:=by simp;omega
   rw[this,List.set_cons_zero]
   have hz:(zs p c GK low)[j]'(by omega)=(GK[j]'(by omega)+(p-c)*low[j]'(by omega))%p:=by simp[zs]
   rw[hz];simp
  obtain⟨h',e1,e2,e3⟩:=ih (j+1) g (h.put rb (some (iv (ints (pre++((zs p c GK low).take (j+1)++GK.drop (j+1))++c::post))))) (by omega) (by omega) (ho.put _) (hq.put Lh _)
  refine⟨h',?_,e2,e3⟩
  show fj M fl k _ _ _ _ _ _ _ _ _ h=_
  unfold fj
  have e5:av (av (((pre.length+d:Nat):Int)-(d:Int))+(j:Int))=((pre.length+j:Nat):Int):=by
   have e6:av (((pre.length+d:Nat):Int)-(d:Int))=((pre.length:Nat):Int):=aH _ (by omega) (by omega)
   rw[e6,aH (pre.length+j) (by push_cast;rfl) (by omega)]
  rw[if_pos (by simp;omega),e5,bC rfl (show pre.length+j<L by omega)]
  dsimp only
  rw[ae mS,(JP.quiet hq).read (by omega) (by simp;omega)]
  simp only[Int.toNat_natCast,dW]
  have f1:av ((p:Int)-(c:Int))=((p-c:Nat):Int):=aH _ (by omega) (by omega)
  have f2:av (((p-c:Nat):Int)*((low[j]'(by omega):Nat):Int))=(((p-c)*low[j]'(by omega):Nat):Int):=aH _ (by push_cast;rfl) (by omega)
  have f3:av (((GK[j]'(by omega):Nat):Int)+(((p-c)*low[j]'(by omega):Nat):Int))=((GK[j]'(by omega)+(p-c)*low[j]'(by omega):Nat):Int):=aH _ (by push_cast;rfl) (by omega)
  rw[f1,f2,f3,iX (by omega),bC rfl (show pre.length+j<L by omega),ho.st bR (by simp;omega) rfl,nV,aH (j+1) (by push_cast;rfl) (by omega)]
  exact e1
theorem azw{R:Type}(kn:ab R)(hp:2≤p)(hp2:p≤256)(JP:SI h0 tl (ints low))(hld:low.length=d)(T9:Small p low)(Lh:h0.next≤rb)(bR:fl≤rb)(hd:d≤64)(hk:64<k):
 ∀(n:Nat) (a post:List Nat) (L g:Nat) (h:AH) (qs:List Nat),a.length=n+d→n≤64→n<g→Small p a→L=a.length+post.length→OB h rb (iv (ints (a++post)))→an h0 h→
 ∃h' YG,qq M fl k kn g tl (p:Int) (d:Int) ⟨some ⟨rb,0,none⟩,L,c0⟩ ((n+d:Nat):Int) h=qq M fl k kn g tl (p:Int) (d:Int) ⟨some ⟨rb,0,none⟩,L,c0⟩ ((n+d:Nat):Int) h∧
  qq M fl k kn g tl (p:Int) (d:Int) ⟨some ⟨rb,0,none⟩,L,c0⟩ (((n+d:Nat):Int)-1) h=kn ⟨some ⟨rb,0,none⟩,L,c0⟩ h'∧(Bw post=true→Bw YG=true)∧
  OB h' rb (iv (ints ((Li p low.reverse n a.reverse qs).2.reverse++YG)))∧(Li p low.reverse n a.reverse qs).2.length+YG.length=L∧an h0 h':=by
 intro n
 induction n with
 |zero=>
  intro a post L g h qs ha hn hg hsa hL ho hq
  obtain⟨g,rfl⟩:∃j,g=j+1:=⟨g-1,by omega⟩
  refine⟨h,post,rfl,?_,id,by simpa [Li] using ho,by simp[Li];omega,hq⟩
  show uL M fl k _ _ _ _ _ _ _ h=_
  unfold uL AT
  rw[if_neg (by simp;omega)]
 |succ n ih=>
  intro a post L g h qs ha hn hg hsa hL ho hq
  obtain⟨g,rfl⟩:∃j,g=j+1:=⟨g-1,by omega⟩
  obtain⟨c,hc⟩:∃c,c=a[n+d]'(by omega):=⟨_,rfl⟩
  have Qm:a=a.take n++(a.take (n+d)).drop n++[c]:=by
   have h1:a.take (n+d+1)=a.take (n+d)++[a[n+d]'(by omega)]:=List.take_succ_eq_append_getElem (by omega)
   rw[List.take_of_length_le (by omega)] at h1
   have h2:a.take (n+d)=a.take n++(a.take (n+d)).drop n:=by
    have:=(List.take_append_drop n (a.take (n+d))).symm
    rwa[List.take_take,Nat.min_eq_left (by omega)] at this
   conv=>lhs;rw[h1,←hc,h2]
  have Ql:(a.take n).length=n:=by simp;omega
  have aNq:((a.take (n+d)).drop n).length=d:=by simp;omega
  generalize a.take n=pre at Qm Ql
  generalize (a.take (n+d)).drop n=GK at Qm aNq
  have hss:Small p GK:=fun x hx=>hsa x (by rw[Qm];simp[hx])
  have hsp:Small p pre:=fun x hx=>hsa x (by rw[Qm];simp[hx])
  have hcp:c<p:=hsa c (by rw[Qm];simp)
  have hz:zs p c GK low=zs p c GK low:=rfl
  have hzl:(zs p c GK low).length=d:=by rw[ahg (by omega)];exact aNq
  have hdiv:Li p low.reverse (n+1) a.reverse qs=Li p low.reverse n (pre++zs p c GK low).reverse (c::qs):=by
   rw[Qm]
   simp only[List.reverse_append,List.reverse_cons,List.reverse_nil,List.nil_append,List.singleton_append,Li]
   rw[aML _ _ _ _ _ (by simp;omega),ase (by omega)]
  have hoc:a++post=pre++((zs p c GK low).take 0++GK.drop 0)++c::post:=by rw[Qm];simp
  rw[hoc] at ho
  have mS:h.cell rb (0+(n+d))=some (.int .i64 (c:Int)):=by
   refine ho.cell ?_
   rw[Nat.zero_add,kj (by simp;omega)]
   congr 3
   rw[List.getElem_append_right (by simp;omega)]
   simp[Ql,aNq]
  obtain⟨h1,i1,i2,i3⟩:=azv (k:=k) (c0:=c0) (L:=L) (lT M fl k (oq M fl k (qq M fl k kn g) kn)) hp hp2 JP hld T9 Lh bR hd pre GK post c aNq hss hcp (by omega) (by omega) d 0 k h (by omega) (by omega) ho hq
  have nV:(iv (ints (pre++zs p c GK low++c::post))).set (0+(n+d)) (.int .i64 0)=iv (ints ((pre++zs p c GK low)++0::post)):=by
   rw[show(Value.int .i64 0)=Value.int .i64 ((0:Nat):Int) from rfl,lu,ints_set,Nat.zero_add,List.set_append_right _ _ (by simp;omega)]
   have:n+d-(pre++zs p c GK low).length=0:=by simp;omega
   rw[this,List.set_cons_zero]
  obtain⟨h',YG,_,e1,e2,e3,e4,e5⟩:=ih (pre++zs p c GK low) (0::post) L g (h1.put rb (some (iv (ints ((pre++zs p c GK low)++0::post))))) (c::qs) (by simp;omega) (by omega) (by omega)
   (by intro x hx
       rcases List.mem_append.1 hx with hx|hx
       ·exact hsp x hx
       ·exact aFi (by omega) _ _ x hx) (by simp;omega) (i2.put _) (i3.put Lh _)
  refine⟨h',YG,rfl,?_,fun hz=>e2 (by simp[Bw,hz]),by rw[hdiv];exact e3,by rw[hdiv];exact e4,e5⟩
  show uL M fl k _ _ _ _ _ _ _ h=_
  unfold uL AT
  have e0:((n+1+d:Nat):Int)-1=((n+d:Nat):Int):=by omega
  rw[e0,if_pos (by rw[decide_eq_true_eq];omega)]
  unfold Ji zn wI sn
  rw[bC rfl (show n+d<L by omega)]
  dsimp only
  rw[ae mS]
  unfold xO
  rw[Ql] at i1
  refine Eq.trans i1 ?_
  unfold lT
  rw[bC rfl (show n+d<L by omega)]
  dsimp only
  rw[i2.st bR (by simp;omega) rfl,nV]
  unfold oq
  rw[mj (by omega) (by omega)]
  exact e1
theorem aFj{R:Type}(kn:au R)(kr:aC R){h:AH}{r:List Nat}{s:Sl}(ho:SI h s (ints r))(hb:r.length≤ow):
 ∀(e i g:Nat),i+e=r.length→e<g→om M fl k kn kr g s (i:Int) h=if Bw (r.drop i)=true then kn h else kr false h:=by
 intro e
 induction e with
 |zero=>
  intro i g hi hg
  obtain⟨g,rfl⟩:∃j,g=j+1:=⟨g-1,by omega⟩
  show jC M fl k _ _ _ _ _ h=_
  unfold jC
  rw[if_neg (by rw[ho.len];simp;omega),List.drop_of_length_le (by omega)];rfl
 |succ e ih=>
  intro i g hi hg
  obtain⟨g,rfl⟩:∃j,g=j+1:=⟨g-1,by omega⟩
  show jC M fl k _ _ _ _ _ h=_
  unfold jC
  rw[if_pos (by rw[ho.len];simp;omega),ho.read (by omega) (by simp;omega)]
  simp only[Int.toNat_natCast,dW]
  rw[List.drop_eq_getElem_cons (show i<r.length by omega)]
  by_cases c:r[i]=0
  ·rw[if_neg (by simp[c]),gr (by omega),ih (i+1) g (by omega) (by omega)]
   simp[Bw,c]
  ·rw[if_pos (by simp[c]),if_neg]
   simp only[Bw,Bool.and_eq_true,not_and]
   intro hc;exact absurd (Nat.eq_of_beq_eq_true hc) c
end
theorem Yv(a b:List Nat):Bw (a++b)=(Bw a&&Bw b):=by
 induction a with
 |nil=>rfl
 |cons x a ih=>simp[Bw,ih,Bool.and_assoc]
theorem akC(a:List Nat):Bw a.reverse=Bw a:=by
 induction a with
 |nil=>rfl
 |cons x a ih=>rw[List.reverse_cons,Yv,ih];simp[Bw,Bool.and_comm]
theorem akD{fl:Nat}{h:AH}{tl tm:Sl}{low mod:List Nat}{p:Nat}(hp:2≤p)(hp2:p≤256)(JP:SI h tl (ints low))(bL:SI h tm (ints mod))(T9:Small p low)(hsm:Small p mod)(hld:low.length≤mod.length)(hm:mod.length≤8)(hm0:mod≠[])(bR:fl≤h.next):
 ∃h',M fl fn.oh [.slice tl.a tl.l tl.c,.slice tm.a tm.l tm.c,.int .i64 (p:Int)] h=some (.bool (zU p low mod),h')∧an h h':=by
 have Iv:=OB.alloc h []
 have EJ:=an.alloc h []
 generalize eK:h.alloc []=h1 at Iv EJ
 obtain⟨s2,h2,a1,a2,a3⟩:=axe (R:=Value×AH) (fl:=fl) Iv (bL.quiet EJ) (by simpa [ints] using hm0) (by unfold kc;simp;omega) (fun TR yK=>bJ yK [.int .i64 1] fun b18 Mf=>dn fl 1 8 TR ⟨(some ⟨b18,0,none⟩),1,1⟩ Mf fun YI yL=>F6 M fl 100 (fun(y6:Bool) q=>some (Value.bool y6,q)) tl (p:Int) ((tl.l:Nat):Int) YI (av (((YI.l:Nat):Int)-1)) yL)
 have nL:=EJ.trans a3
 have hn1:=EJ.1
 have hn2:=a3.1
 obtain⟨s3,h3,c1,c2,c3,c4⟩:=a2.push (R:=Value×AH) (fl:=fl) (bytes:=8) (x:=.int .i64 1) (by omega) (by omega) (by unfold kc;simp;omega) rfl (fun YI yL=>F6 M fl 100 (fun(y6:Bool) q=>some (Value.bool y6,q)) tl (p:Int) ((tl.l:Nat):Int) YI (av (((YI.l:Nat):Int)-1)) yL)
 have hq3:an h1 h3:=c3.quiet a3 (fun a ha=>a2.ge a ha)
 have e1:iv (ints mod)++[Value.int .i64 1]=iv (ints (mod++[1])):=by rw[kh,nK];rfl
 rw[e1] at c2
 rcases c2 with⟨hz,_⟩|⟨rb,cc,g1,g2,g3,g4,rfl,g6⟩
 ·have:=congrArg List.length hz;simp at this
 ·have hob:OB h3 rb (iv (ints ((mod++[1])++[]))):=⟨g2,by simpa using g6⟩
  have hlen:(iv (ints (mod++[1]))).length=mod.length+1:=by simp
  rw[hlen] at c1
  obtain⟨h4,YG,_,d1,d2,d3,d4,d5⟩:=azw (fl:=fl) (k:=100) (c0:=cc) (rb:=rb) (KV M fl 100 (fun(y6:Bool) q=>some (Value.bool y6,q))) hp hp2 (JP.quiet EJ) rfl T9 (by omega) (by omega) (by omega) (by omega) (mod.length+1-low.length) (mod++[1]) [] (mod.length+1) 100 h3 []
   (by simp;omega) (by omega) (by omega) (by intro x hx;rcases List.mem_append.1 hx with hx|hx
                                             ·exact hsm x hx
                                             ·simp at hx;omega) (by simp) hob hq3
  have hq4:an h h4:=EJ.trans d5
  refine⟨h4,bF (k:=100) (by decide) aag ?_,hq4⟩
  rw[SD]
  unfold oh aDU ajw
  have:(bJ h [] fun GM nX=>dn fl 1 8 ⟨(some ⟨GM,0,none⟩),0,0⟩ tm nX fun TR yK=>bJ yK [.int .i64 1] fun b18 Mf=>dn fl 1 8 TR ⟨(some ⟨b18,0,none⟩),1,1⟩ Mf fun YI yL=>F6 M fl 100 (fun(y6:Bool) q=>some (Value.bool y6,q)) tl (p:Int) ((tl.l:Nat):Int) YI (av (((YI.l:Nat):Int)-1)) yL)=dn fl 1 8 ⟨(some ⟨h.next,0,none⟩),0,0⟩ tm h1 fun TR yK=>bJ yK [.int .i64 1] fun b18 Mf=>dn fl 1 8 TR ⟨(some ⟨b18,0,none⟩),1,1⟩ Mf fun YI yL=>F6 M fl 100 (fun(y6:Bool) q=>some (Value.bool y6,q)) tl (p:Int) ((tl.l:Nat):Int) YI (av (((YI.l:Nat):Int)-1)) yL:=by rw[←eK];rfl
  refine Eq.trans this (Eq.trans a1 (Eq.trans c1 ?_))
  unfold F6
  have e2:av (((mod.length+1:Nat):Int)-1)=(((mod.length+1-low.length)+low.length:Nat):Int)-1:=by rw[mj (by omega) (by omega)];omega
  have e3:((tl.l:Nat):Int)=(low.length:Int):=by rw[JP.len];simp
  simp only at e2 ⊢
  rw[e2,e3]
  refine Eq.trans d1 ?_
  unfold KV F5 Jh
  have hrl:((Li p low.reverse (mod.length+1-low.length) (mod++[1]).reverse []).2.reverse++YG).length=mod.length+1:=by rw[List.length_append,List.length_reverse];exact d4
  have hsr:SI h4 ⟨some ⟨rb,0,none⟩,mod.length+1,cc⟩ (ints ((Li p low.reverse (mod.length+1-low.length) (mod++[1]).reverse []).2.reverse++YG)):=by
   have:=d3.si none cc
   rwa[dt,hrl] at this
  have:=aFj (fl:=fl) (k:=100) (CW M fl 100 (fun(y6:Bool) q=>some (Value.bool y6,q))) (fun(y6:Bool) q=>some (Value.bool y6,q)) hsr (by rw[hrl];unfold ow;omega) (mod.length+1) 0 100 (by rw[hrl];omega) (by omega)
  refine Eq.trans this ?_
  rw[List.drop_zero,Yv,d2 rfl,Bool.and_true,akC]
  have e4:zU p low mod=Bw (Li p low.reverse (mod.length+1-low.length) (mod++[1]).reverse []).2:=by
   unfold zU alr
   rw[Yu,Yu];simp
  rw[e4]
  split
  ·rename_i hz;rw[hz];rfl
  ·rename_i hz;simp only[Bool.not_eq_true] at hz;rw[hz]
end Go.Abs.P
end
section
namespace Go.Abs.P
open Go.Abs Go.Fld
section
variable{fl k:Nat}{h0:AH}{p:Nat}{mod:List Nat}{tm:Sl}
theorem azx{R:Type}(kn:aZ R)(kr:aC R)(hp:2≤p)(hp2:p≤256)(bL:SI h0 tm (ints mod))(hsm:Small p mod)(hm:mod.length≤8)(hm0:mod≠[])(bR:fl≤h0.next)(d c:Nat)(hd:d≤mod.length)(hc:c≤256):
 ∀(n v g:Nat) (h:AH),v+n=c→n<g→an h0 h→
 ∃h',an h0 h'∧fg M fl k kn kr g tm (p:Int) (c:Int) (d:Int) (v:Int) h=if (BQ p d mod n v).isNone=true then kn tm (p:Int) (c:Int) (d:Int) h' else kr false h':=by
 intro n
 induction n with
 |zero=>
  intro v g h hv hg hq
  obtain⟨g,rfl⟩:∃j,g=j+1:=⟨g-1,by omega⟩
  refine⟨h,hq,?_⟩
  show ff M fl k _ _ _ _ _ _ _ _ h=_
  unfold ff
  rw[if_neg (by simp;omega)];rfl
 |succ n ih=>
  intro v g h hv hg hq
  obtain⟨g,rfl⟩:∃j,g=j+1:=⟨g-1,by omega⟩
  have hn:=hq.1
  obtain⟨h1,a1,a2,a3⟩:=TM (fl:=fl) (h:=h) (x:=v) (p:=p) (m:=d) (by omega) (by omega) (by omega) (by omega)
  have EJ:=hq.trans a3
  have hsi:SI h1 ⟨some ⟨h.next,0,none⟩,d,d⟩ (ints (bn p d v)):=by
   have:=a2.si none d
   rwa[dt,eO] at this
  obtain⟨h2,b1,b2⟩:=akD (fl:=fl) hp hp2 hsi (bL.quiet EJ) (nZ (by omega) d v) hsm (by rw[eO];exact hd) hm hm0 (by have:=a3.1;omega)
  have nL:=EJ.trans b2
  have un:fg M fl k kn kr (g+1) tm (p:Int) (c:Int) (d:Int) (v:Int) h=ff M fl k (fg M fl k kn kr g) kn kr tm (p:Int) (c:Int) (d:Int) (v:Int) h:=rfl
  rw[un]
  unfold ff
  rw[if_pos (by simp;omega),ak a1]
  simp only[aX]
  rw[ak b1]
  simp only[asBool]
  by_cases e:zU p (bn p d v) mod=true
  ·refine⟨h2,nL,?_⟩
   have hf:BQ p d mod (n+1) v=some (bn p d v):=by simp only[BQ];rw[if_pos e]
   rw[if_pos e,hf];rfl
  ·obtain⟨h',i1,i2⟩:=ih (v+1) g h2 (by omega) (by omega) nL
   refine⟨h',i1,?_⟩
   have hf:BQ p d mod (n+1) v=BQ p d mod n (v+1):=by simp only[BQ];rw[if_neg e]
   rw[if_neg e,hf,aH (v+1) (by push_cast;rfl) (by omega)]
   exact i2
theorem azy{R:Type}(kn:au R)(kr:aC R)(hp:2≤p)(bL:SI h0 tm (ints mod))(hsm:Small p mod)(hm:mod.length≤8)(hm0:mod≠[])(bR:fl≤h0.next)(hpm:p^mod.length≤256)(hk:256<k):
 ∀(n d g:Nat) (h:AH),d+n=mod.length/2+1→0<d→n<g→an h0 h→
 ∃h',an h0 h'∧qm M fl k kn kr g tm (p:Int) ((p^(d-1):Nat):Int) (d:Int) h=if (findD p mod n d).isNone=true then kn h' else kr false h':=by
 have hl0:0<mod.length:=List.length_pos_iff.2 hm0
 have hp2:p≤256:=by
  have:p^1≤p^mod.length:=Nat.pow_le_pow_right (by omega) hl0
  rw[Nat.pow_one] at this;omega
 intro n
 induction n with
 |zero=>
  intro d g h hd h0d hg hq
  obtain⟨g,rfl⟩:∃j,g=j+1:=⟨g-1,by omega⟩
  refine⟨h,hq,?_⟩
  show ur M fl k _ _ _ _ _ _ _ h=_
  unfold ur AI
  rw[aH (2*d) (by push_cast;rfl) (by omega),bL.len,if_neg (by rw[decide_eq_true_eq];simp only[dt];omega)];rfl
 |succ n ih=>
  intro d g h hd h0d hg hq
  obtain⟨g,rfl⟩:∃j,g=j+1:=⟨g-1,by omega⟩
  have hpd:p^d≤256:=Nat.le_trans (Nat.pow_le_pow_right (by omega) (by omega)) hpm
  have hpp:p^(d-1)*p=p^d:=by rw[←Nat.pow_succ];congr 1;omega
  obtain⟨h1,a1,a2⟩:=azx (fl:=fl) (k:=k) (ll M fl k (qm M fl k kn kr g) kn kr) kr hp hp2 bL hsm hm hm0 bR d (p^d) (by omega) hpd (p^d) 0 k h (by omega) (by omega) hq
  have un:qm M fl k kn kr (g+1) tm (p:Int) ((p^(d-1):Nat):Int) (d:Int) h=fg M fl k (ll M fl k (qm M fl k kn kr g) kn kr) kr k tm (p:Int) ((p^d:Nat):Int) (d:Int) ((0:Nat):Int) h:=by
   show ur M fl k _ _ _ _ _ _ _ h=_
   unfold ur AI
   rw[aH (2*d) (by push_cast;rfl) (by omega),bL.len,if_pos (by rw[decide_eq_true_eq];simp only[dt];omega)]
   unfold Jd zg wy rQ xK
   rw[aH (p^d) (by rw[←hpp];push_cast;rfl) (by omega)];rfl
  rw[un,a2]
  cases hf:BQ p d mod (p^d) 0 with
  |some l=>
   have hd:findD p mod (n+1) d=some l:=by simp only[findD];rw[hf]
   rw[hd]
   exact⟨h1,a1,by simp⟩
  |none=>
   have hd':findD p mod (n+1) d=findD p mod n (d+1):=by simp only[findD];rw[hf]
   rw[hd']
   obtain⟨h',i1,i2⟩:=ih (d+1) g h1 (by omega) (by omega) (by omega) a1
   refine⟨h',i1,?_⟩
   simp only[Option.isNone_none,if_true]
   unfold ll
   rw[aH (d+1) (by push_cast;rfl) (by omega)]
   simp only[Nat.add_sub_cancel] at i2
   exact i2
end
theorem VT{fl:Nat}{h:AH}{tm:Sl}{mod:List Nat}{p:Nat}(hp:2≤p)(bL:SI h tm (ints mod))(hsm:Small p mod)(hm:mod.length≤8)(hm0:mod≠[])(hpm:p^mod.length≤256)(bR:fl≤h.next):
 ∃h',M fl fn.jc [.slice tm.a tm.l tm.c,.int .i64 (p:Int)] h=some (.bool (ard p mod),h')∧an h h':=by
 have hl0:0<mod.length:=List.length_pos_iff.2 hm0
 obtain⟨h',a1,a2⟩:=azy (fl:=fl) (k:=300) (U6 M fl 300 (fun(y6:Bool) q=>some (Value.bool y6,q))) (fun(y6:Bool) q=>some (Value.bool y6,q)) hp bL hsm hm hm0 bR hpm (by omega) (mod.length/2) 1 300 h (by omega) (by omega) (by omega) (an.refl h)
 refine⟨h',bF (k:=300) (by decide) Md ?_,a1⟩
 rw[H7]
 unfold jc aC8 aiU aiT
 simp only[Nat.sub_self,Nat.pow_zero] at a2
 refine Eq.trans a2 ?_
 unfold ard
 split
 ·rename_i hz;rw[hz];rfl
 ·rename_i hz;simp only[Bool.not_eq_true] at hz;rw[hz]
theorem apq{R:Type}{fl k:Nat}{h:AH}{bx:Nat}{mod:Sl}{xs:List Int}{p m:Int}(kn:B1 R)(kr:ah R)(hx:OB h bx [.int .i64 p,.int .i64 m,.slice mod.a mod.l mod.c])(bL:SI h mod xs)(hm:m=xs.length)(hb:xs.length≤ow):
 ∀(d i g:Nat),i+d=xs.length→d<g→DA M fl k kn kr g ⟨bx,0,none⟩ (i:Int) h=if (xs.drop i).all (fun c=>decide (0≤c)&&decide (c<p))=true then kn ⟨bx,0,none⟩ h else kr 1 h:=by
 intro d
 induction d with
 |zero=>
  intro i g hi hg
  obtain⟨g,rfl⟩:∃j,g=j+1:=⟨g-1,by omega⟩
  show ua M fl k _ _ _ _ _ h=_
  unfold ua
  dsimp only
  rw[ae (hx.cell rfl),if_neg (by rw[decide_eq_true_eq];omega),List.drop_of_length_le (by omega)]
  rfl
 |succ d ih=>
  intro i g hi hg
  obtain⟨g,rfl⟩:∃j,g=j+1:=⟨g-1,by omega⟩
  show ua M fl k _ _ _ _ _ h=_
  unfold ua
  dsimp only
  rw[ae (hx.cell rfl),if_pos (by rw[decide_eq_true_eq];omega),aq (s:=mod) (hx.cell rfl),bL.read (by omega) (by simp;omega)]
  simp only[Int.toNat_natCast]
  rw[List.drop_eq_getElem_cons (show i<xs.length by omega),List.all_cons]
  by_cases c:xs[i]<0
  ·rw[if_neg (by simp[c]),if_neg (by simp;intro h;omega)]
  ·rw[if_pos (by simp;omega),aq (s:=mod) (hx.cell rfl),bL.read (by omega) (by simp;omega)]
   simp only[Int.toNat_natCast]
   rw[ae (hx.cell rfl)]
   by_cases c2:xs[i]≥p
   ·rw[if_pos (by simp[c2]),if_neg (by simp;intro h;omega)]
   ·rw[if_neg (by simp;omega),gr (by omega),ih (i+1) g (by omega) (by omega)]
    have:(decide (0≤xs[i])&&decide (xs[i]<p))=true:=by simp;omega
    rw[this,Bool.true_and]
theorem VU{p m:Int}{xs:List Int}{D:FD}(h:IsF p m xs D):Bm p m xs↔(D.m=1∨ard D.p D.low=true):=by
 have hq:=h.ok.q
 constructor
 ·rintro⟨D',gen,h1,h2⟩
  have:=gJ h h1
  subst this
  by_cases c:D.m=1
  ·exact .inl c
  ·exact .inr ((D.atr (by have:=D.hm;omega) hq h.pr).2 ⟨gen,h2⟩)
 ·intro hc
  by_cases c:D.m=1
  ·obtain⟨x,hx⟩:=D.arl c (h.ok.one c) h.ok.p h.pr
   exact⟨D,x,h,hx⟩
  ·obtain⟨x,hx⟩:=(D.atr (by have:=D.hm;omega) hq h.pr).1 (hc.resolve_left c)
   exact⟨D,x,h,hx⟩
theorem xy{p m:Int}{xs:List Int}(h:Bm p m xs):mP p m xs=true:=by
 obtain⟨D,gen,h1,_⟩:=h
 exact(vq p m xs).2 ⟨D,h1⟩
theorem Yw{fl:Nat}{h:AH}{mod:Sl}{xs:List Int}(p m:Int)(bL:SI h mod xs)(hb:xs.length≤ow)(bR:fl≤h.next):
 ∃h' e,M fl fn.iZ [.agg ⟨[.int .i64 p,.int .i64 m,.slice mod.a mod.l mod.c]⟩] h=some (.int .i64 e,h')∧an h h'∧((Bm p m xs∧e=0)∨(¬Bm p m xs∧e=1)):=by
 have dF:=OB.alloc h [.int .i64 p,.int .i64 m,.slice mod.a mod.l mod.c]
 have eI:=an.alloc h [.int .i64 p,.int .i64 m,.slice mod.a mod.l mod.c]
 generalize eK:h.alloc [.int .i64 p,.int .i64 m,.slice mod.a mod.l mod.c]=h1 at dF eI
 obtain⟨h2,s1,s2⟩:=Cv (fl:=fl) (h:=h1) p m mod
 have nL:=eI.trans s2
 have nY:=dF.quiet s2
 have aPm:=bL.quiet nL
 have go:∀{r},iZ M fl (xs.length+1) p m mod h=some r→M fl fn.iZ [.agg ⟨[.int .i64 p,.int .i64 m,.slice mod.a mod.l mod.c]⟩] h=some r:=by
  intro r he
  refine bF (k:=xs.length+1) (by decide) af1 ?_
  rw[Y9];exact he
 have un:iZ M fl (xs.length+1) p m mod h=(if (((It p m:Nat):Int)==0)=false then aF .i64 h2 h.next 0 fun JU=>aj M fl fn.pY [.int .i64 JU] h2 fun v23 vt=>asBool v23 fun b25=>if (!b25)=true then some (Value.int .i64 1,vt) else aF .i64 vt h.next 1 fun EI=>if (EI==1)=true then aT vt h.next 2 fun s27=>if (((s27.l:Nat):Int) !=0)=true then some (Value.int .i64 1,vt) else some (Value.int .i64 0,vt) else aT vt h.next 2 fun s28=>aF .i64 vt h.next 1 fun n29=>if (((s28.l:Nat):Int) !=n29)=true then some (Value.int .i64 1,vt) else aaH M fl (xs.length+1) (fun(y2:Int) q=>some (Value.int .i64 y2,q)) ⟨h.next,0,none⟩ 0 vt else some (Value.int .i64 1,h2)):=by
  unfold iZ aCw aiz bJ
  rw[eK]
  dsimp only
  rw[ae (dF.cell rfl),ae (dF.cell rfl),aq (s:=mod) (dF.cell rfl),ak s1]
  simp only[asInt,if_true]
 by_cases c:It p m=0
 ·refine⟨h2,1,go (un.trans ?_),nL,.inr ⟨fun hf=>?_,rfl⟩⟩
  ·rw[if_neg (by simp[c])]
  ·have:=xy hf
   unfold mP at this
   simp[c] at this
 ·obtain⟨a,b,rfl,rfl,ha,Iv,hab,_⟩:=akz c
  have ha2:a≤256:=by
   have:a^1≤a^b:=Nat.pow_le_pow_right (by omega) Iv
   rw[Nat.pow_one] at this;omega
  rw[if_pos (by simp;omega),ae (nY.cell rfl),ak (apn ha2 ha)] at un
  simp only[asBool] at un
  by_cases c2:FD.prB a=true
  ·rw[if_neg (by simp[c2]),ae (nY.cell rfl)] at un
   by_cases c3:(b:Int)=1
   ·rw[if_pos (by simp[c3]),aq (s:=mod) (nY.cell rfl),bL.len] at un
    have hsh:mP (a:Int) (b:Int) xs=xs.isEmpty:=by unfold mP;rw[if_pos c3];simp[c,c2]
    by_cases c4:xs=[]
    ·refine⟨h2,0,go (un.trans ?_),nL,.inl ⟨?_,rfl⟩⟩
     ·rw[if_neg (by simp[c4])]
     ·obtain⟨D,hD⟩:=(vq _ _ _).1 (show mP (a:Int) (b:Int) xs=true by rw[hsh,c4];rfl)
      exact(VU hD).2 (.inl (by have:=hD.hm;omega))
    ·refine⟨h2,1,go (un.trans ?_),nL,.inr ⟨fun hf=>?_,rfl⟩⟩
     ·rw[if_pos (by simp[c4])]
     ·have:=xy hf
      rw[hsh] at this;exact c4 (by simpa using this)
   ·rw[if_neg (by simp;omega),aq (s:=mod) (nY.cell rfl),ae (nY.cell rfl),bL.len] at un
    have hsh:mP (a:Int) (b:Int) xs=(decide ((xs.length:Int)=(b:Int))&&xs.all (fun c=>decide (0≤c)&&decide (c<(a:Int)))):=by unfold mP;rw[if_neg c3];simp[c,c2]
    by_cases c4:(xs.length:Int)=b
    ·rw[if_neg (by simp[c4])] at un
     unfold aaH at un
     rw[show(0:Int)=((0:Nat):Int) from rfl,apq (fl:=fl) (k:=xs.length+1) (Kp M fl (xs.length+1) (fun(y6:Int) q=>some (Value.int .i64 y6,q))) (fun(y6:Int) q=>some (Value.int .i64 y6,q)) nY aPm c4.symm hb xs.length 0 (xs.length+1) (by omega) (by omega),List.drop_zero] at un
     have e2:decide ((xs.length:Int)=b)=true:=by simp[c4]
     rw[e2,Bool.true_and] at hsh
     by_cases c5:xs.all (fun c=>decide (0≤c)&&decide (c<(a:Int)))=true
     ·rw[if_pos c5] at un
      obtain⟨D,hD⟩:=(vq _ _ _).1 (show mP (a:Int) (b:Int) xs=true by rw[hsh,c5])
      have hDp:D.p=a:=by have:=hD.hp;omega
      have hDm:D.m=b:=by have:=hD.hm;omega
      have hxs:=hD.hx
      have hmo:kX D=D.low:=by unfold kX;rw[if_neg (by omega)]
      rw[hmo] at hxs
      subst hxs
      obtain⟨h3,i1,i2⟩:=VT (fl:=fl) (p:=D.p) D.hp aPm D.hs (by rw[D.hl];exact hD.ok.m) (by intro e;have:=D.hl;rw[e] at this;have:=D.hm;simp at*;omega) (by rw[D.hl];exact hD.ok.q) (by have:=nL.1;omega)
      unfold Kp at un
      dsimp only at un
      rw[aq (s:=mod) (nY.cell rfl),ae (nY.cell rfl),←hDp,ak i1] at un
      simp only[asBool] at un
      by_cases c6:ard D.p D.low=true
      ·refine⟨h3,0,?_,nL.trans i2,.inl ⟨(VU hD).2 (.inr c6),rfl⟩⟩
       rw[←hDp] at go ⊢
       exact go (un.trans (by rw[if_neg (by simp[c6])]))
      ·refine⟨h3,1,?_,nL.trans i2,.inr ⟨fun hf=>?_,rfl⟩⟩
       ·rw[←hDp] at go ⊢
        exact go (un.trans (by rw[if_pos (by simp[c6])]))
       ·rcases(VU hD).1 hf with e|e
        ·omega
        ·exact c6 e
     ·rw[if_neg c5] at un
      refine⟨h2,1,go un,nL,.inr ⟨fun hf=>?_,rfl⟩⟩
      have:=xy hf
      rw[hsh] at this;exact c5 this
    ·rw[if_pos (by simp;omega)] at un
     refine⟨h2,1,go un,nL,.inr ⟨fun hf=>?_,rfl⟩⟩
     have:=xy hf
     rw[hsh] at this
     simp[c4] at this
  ·rw[if_pos (by simp[c2])] at un
   refine⟨h2,1,go un,nL,.inr ⟨fun hf=>?_,rfl⟩⟩
   have:=xy hf
   unfold mP at this
   simp[c2] at this
end Go.Abs.P
end
section
namespace Go.Abs.P
open Go.Abs Go.Fld
def fa(D:FD)(mod:Sl):Value:=.agg ⟨[.int .i64 (D.p:Int),.int .i64 (D.m:Int),.slice mod.a mod.l mod.c]⟩
structure RF(h:AH)(mod:Sl)(D:FD):Prop where
 ok:FOK D
 si:SI h mod (ints (kX D))
theorem RF.quiet{h h':AH}{mod:Sl}{D:FD}(p:RF h mod D)(q:an h h'):RF h' mod D:=⟨p.ok,p.si.quiet q⟩
theorem asf{D:FD}(f:FOK D):It (D.p:Int) (D.m:Int)=D.q:=by
 have hp2:=D.hp
 have hm1:=D.hm
 have hp:=f.p
 have hm:=f.m
 have hq:=f.q
 unfold It
 rw[if_neg (by omega)]
 simp only[Int.toNat_natCast]
 rw[if_pos (show D.p^D.m≤256 from hq)];rfl
section
variable{D:FD}{mod:Sl}{h:AH}{fl:Nat}
theorem sR(h:AH)(D:FD)(mod:Sl):OB (h.alloc [.int .i64 (D.p:Int),.int .i64 (D.m:Int),.slice mod.a mod.l mod.c]) h.next [.int .i64 (D.p:Int),.int .i64 (D.m:Int),.slice mod.a mod.l mod.c]:=OB.alloc ..
theorem apr(r:RF h mod D)(x:Int):∃h',M fl fn.my [fa D mod,.int .i64 x] h=some (.bool (isI D x),h')∧an h h':=by
 have dF:=sR h D mod
 have eI:=an.alloc h [.int .i64 (D.p:Int),.int .i64 (D.m:Int),.slice mod.a mod.l mod.c]
 generalize eK:h.alloc [.int .i64 (D.p:Int),.int .i64 (D.m:Int),.slice mod.a mod.l mod.c]=h1 at dF eI
 obtain⟨h2,a1,a2⟩:=Cv (fl:=fl) (h:=h1) (D.p:Int) (D.m:Int) mod
 have go:∀{v},my M fl 1 (D.p:Int) (D.m:Int) mod x h=some v→M fl fn.my [fa D mod,.int .i64 x] h=some v:=by
  intro v e
  refine bF (k:=1) (by decide) ar2 ?_
  unfold fa
  rw[ai3];exact e
 by_cases c:x≥0
 ·refine⟨h2,go ?_,eI.trans a2⟩
  unfold my avs bJ
  rw[eK]
  dsimp only
  rw[if_pos (by simp;omega),ae (dF.cell rfl),ae (dF.cell rfl),aq (s:=mod) (dF.cell rfl),ak a1,asf r.ok]
  simp only[asInt,if_true]
  unfold isI
  have:decide (0≤x)=true:=by simp;omega
  rw[this,Bool.true_and]
 ·refine⟨h1,go ?_,eI⟩
  unfold my avs bJ
  rw[eK]
  dsimp only
  rw[if_neg (by simp;omega)]
  unfold isI
  have:decide (0≤x)=false:=by simp;omega
  rw[this,Bool.false_and]
theorem aFk(r:RF h mod D)(x:Int):∃h',M fl fn.Dt [fa D mod,.int .i64 x] h=some (.int .i64 ((sQ D x:Nat):Int),h')∧an h h':=by
 have dF:=sR h D mod
 have eI:=an.alloc h [.int .i64 (D.p:Int),.int .i64 (D.m:Int),.slice mod.a mod.l mod.c]
 generalize eK:h.alloc [.int .i64 (D.p:Int),.int .i64 (D.m:Int),.slice mod.a mod.l mod.c]=h1 at dF eI
 obtain⟨h2,a1,a2⟩:=apr (fl:=fl) (r.quiet eI) x
 refine⟨h2,bF (k:=1) (by decide) ar3 ?_,eI.trans a2⟩
 unfold fa
 rw[akj]
 unfold Dt aET bJ
 rw[eK]
 dsimp only
 rw[ae (dF.cell rfl),ae (dF.cell rfl),aq (s:=mod) (dF.cell rfl),ak (show M fl fn.my [.agg ⟨[.int .i64 (D.p:Int),.int .i64 (D.m:Int),.slice mod.a mod.l mod.c]⟩,.int .i64 x] h1=_ from a1)]
 simp only[asBool]
 unfold isI sQ
 by_cases c:0≤x∧x<D.q
 ·rw[if_pos (by simp;omega),if_pos c]
  congr 2
  rw[Int.toNat_of_nonneg c.1]
 ·rw[if_neg (by simp;omega),if_neg c];rfl
theorem oy(r:RF h mod D)(x:Int)(bR:fl≤h.next):∃h' b,M fl fn.df [fa D mod,.int .i64 x] h=some (.slice (some ⟨b,0,none⟩) D.m D.m,h')∧h.next≤b∧OB h' b (iv (ints (D.dg (sQ D x))))∧an h h':=by
 have dF:=sR h D mod
 have eI:=an.alloc h [.int .i64 (D.p:Int),.int .i64 (D.m:Int),.slice mod.a mod.l mod.c]
 generalize eK:h.alloc [.int .i64 (D.p:Int),.int .i64 (D.m:Int),.slice mod.a mod.l mod.c]=h1 at dF eI
 obtain⟨h2,a1,a2⟩:=aFk (fl:=h1.next) (r.quiet eI) x
 have nL:=eI.trans a2
 have hm:=r.ok.m
 have hq:=r.ok.q
 have hx:=Qf D x
 obtain⟨h3,b1,b2,b3⟩:=TM (fl:=fl) (h:=h2) (x:=sQ D x) (p:=D.p) (m:=D.m) D.pp (by omega) (by omega) (by have:=nL.1;omega)
 refine⟨h3,h2.next,bF (k:=1) (by decide) aef ?_,nL.1,b2,nL.trans b3⟩
 unfold fa
 rw[Vv]
 unfold df aEw bJ
 rw[eK]
 dsimp only
 rw[ae (dF.cell rfl),ae (dF.cell rfl),aq (s:=mod) (dF.cell rfl),ak (show M h1.next fn.Dt [.agg ⟨[.int .i64 (D.p:Int),.int .i64 (D.m:Int),.slice mod.a mod.l mod.c]⟩,.int .i64 x] h1=_ from a1)]
 simp only[asInt,if_true]
 have nY:=dF.quiet a2
 rw[ae (nY.cell rfl),ae (nY.cell rfl),ak b1]
 rfl
theorem aps{R:Type}{k:Nat}(kn:ah R){bx:Nat}{vs:List Value}{s:Sl}{l:List Nat}{p:Nat}(hx:OB h bx (.int .i64 (p:Int)::vs))(hs:SI h s (ints l))(hsm:Small p l)(hb:p^l.length≤9223372036854775808)(hl:l.length≤64):
 ∀(i f:Nat),i≤l.length→i<f→
 Ei M fl k kn f s ⟨bx,0,none⟩ ((eH p (l.drop i):Nat):Int) ((i:Int)-1) h=kn ((eH p l:Nat):Int) h:=by
 intro i
 induction i with
 |zero=>
  intro f hi hf
  obtain⟨f,rfl⟩:∃j,f=j+1:=⟨f-1,by omega⟩
  show va M fl k _ _ s _ _ _ h=_
  unfold va
  rw[if_neg (by simp),List.drop_zero]
 |succ i ih=>
  intro f hi hf
  obtain⟨f,rfl⟩:∃j,f=j+1:=⟨f-1,by omega⟩
  show va M fl k _ _ s _ _ _ h=_
  unfold va
  have e1:((i+1:Nat):Int)-1=(i:Int):=by omega
  rw[e1,if_pos (by simp),ae (hx.cell rfl),hs.read (by omega) (by simp;omega)]
  simp only[Int.toNat_natCast,dW]
  have hd:l.drop i=l[i]::l.drop (i+1):=List.drop_eq_getElem_cons (by omega)
  have hlt:eH p (l.drop i)<9223372036854775808:=by
   have h1:=aq9 (l.drop i) (fun a ha=>hsm a (List.mem_of_mem_drop ha))
   have h2:p^(l.drop i).length≤p^l.length:=Nat.pow_le_pow_right (by have:=hsm l[i] (List.getElem_mem _);omega) (by simp)
   omega
  have hv:eH p (l.drop i)=l[i]+p*eH p (l.drop (i+1)):=by rw[hd];rfl
  have e2:av (((eH p (l.drop (i+1)):Nat):Int)*(p:Int))=((p*eH p (l.drop (i+1)):Nat):Int):=aH _ (by push_cast;rw[Int.mul_comm]) (by omega)
  rw[e2,aH (eH p (l.drop i)) (by rw[hv];push_cast;omega) hlt,mj (by omega) (by omega)]
  exact ih f (by omega) (by omega)
theorem JH(r:RF h mod D){s:Sl}{l:List Nat}(hs:SI h s (ints l))(hsm:Small D.p l)(hl:l.length=D.m):
 ∃h',M fl fn.gZ [fa D mod,.slice s.a s.l s.c] h=some (.int .i64 ((eH D.p l:Nat):Int),h')∧an h h':=by
 have dF:=sR h D mod
 have eI:=an.alloc h [.int .i64 (D.p:Int),.int .i64 (D.m:Int),.slice mod.a mod.l mod.c]
 generalize eK:h.alloc [.int .i64 (D.p:Int),.int .i64 (D.m:Int),.slice mod.a mod.l mod.c]=h1 at dF eI
 have hm:=r.ok.m
 have hq:D.p^D.m≤256:=r.ok.q
 refine⟨h1,bF (k:=l.length+1) (by decide) af9 ?_,eI⟩
 unfold fa
 rw[Z1]
 unfold gZ aEy aj6 aj5 bJ
 rw[eK]
 dsimp only
 rw[hs.len,mj (by simp;omega) (by simp;omega)]
 have:=aps (fl:=fl) (k:=l.length+1) (Vw M fl (l.length+1) (fun(y4:Int) q=>some (Value.int .i64 y4,q))) dF (hs.quiet eI) hsm (by rw[hl];omega) (by omega) l.length (l.length+1) (by omega) (by omega)
 simp only[List.drop_length] at this
 simp only[dt]
 exact this
theorem azz(r:RF h mod D)(x y:Int)(bR:fl≤h.next):∃h',M fl fn.qb [fa D mod,.int .i64 x,.int .i64 y] h=some (.int .i64 ((D.add (sQ D x) (sQ D y):Nat):Int),h')∧an h h':=by
 have dF:=sR h D mod
 have eI:=an.alloc h [.int .i64 (D.p:Int),.int .i64 (D.m:Int),.slice mod.a mod.l mod.c]
 generalize eK:h.alloc [.int .i64 (D.p:Int),.int .i64 (D.m:Int),.slice mod.a mod.l mod.c]=h1 at dF eI
 obtain⟨h2,b2,a1,a2,a3,a4⟩:=oy (fl:=fl) (r.quiet eI) x (by have:=eI.1;omega)
 have nL:=eI.trans a4
 obtain⟨h3,b3,c1,c2,c3,c4⟩:=oy (fl:=fl) (r.quiet nL) y (by have:=nL.1;omega)
 have hq3:=nL.trans c4
 have hm:=r.ok.m
 have bax:=a3.1
 have lZ:b3≠b2:=by omega
 have hqc:kg (some ⟨b2,0,none⟩) h3 h3:=kg.refl _ _
 have hsb:SI h3 ⟨some ⟨b3,0,none⟩,D.m,D.m⟩ (ints (D.dg (sQ D y))):=by
  have:=c3.si none D.m
  rwa[dt,D.iM] at this
 have loop:∀(d i g:Nat) (pre a:List Nat) (h':AH),i+d=D.m→d<g→pre.length=i→a.length=d→Small D.p a→OB h' b2 (iv (ints (pre++a)))→kg (some ⟨b2,0,none⟩) h3 h'→
  ∃h'',Eo M fl 20 (En M fl 20 (fun(y6:Int) q=>some (Value.int .i64 y6,q))) g ⟨h.next,0,none⟩ ⟨some ⟨b2,0,none⟩,D.m,D.m⟩ ⟨some ⟨b3,0,none⟩,D.m,D.m⟩ (i:Int) h'=En M fl 20 (fun(y6:Int) q=>some (Value.int .i64 y6,q)) ⟨h.next,0,none⟩ ⟨some ⟨b2,0,none⟩,D.m,D.m⟩ h''∧OB h'' b2 (iv (ints (pre++xo D.p a ((D.dg (sQ D y)).drop i))))∧kg (some ⟨b2,0,none⟩) h3 h'':=by
  have aAy:=(dF.quiet a4).quiet c4
  have hp:=r.ok.p
  have hp0:=D.pp
  have hlb:=D.iM (sQ D y)
  have hsy:=D.oe (sQ D y)
  generalize D.dg (sQ D y)=b at hsb hlb hsy ⊢
  intro d
  induction d with
  |zero=>
   intro i g pre a h' hi hg agu ha hsa ho hq
   obtain⟨g,rfl⟩:∃j,g=j+1:=⟨g-1,by omega⟩
   obtain rfl:a=[]:=List.eq_nil_of_length_eq_zero ha
   refine⟨h',?_,by simpa [xo] using ho,hq⟩
   show vh M fl 20 _ _ _ _ _ _ h'=_
   unfold vh
   rw[if_neg (by simp;omega)]
  |succ d ih=>
   intro i g pre a h' hi hg agu ha hsa ho hq
   obtain⟨g,rfl⟩:∃j,g=j+1:=⟨g-1,by omega⟩
   obtain⟨x,a,rfl⟩:∃x a',a=x::a':=by cases a with|nil=>simp at ha|cons x a=>exact⟨x,a,rfl⟩
   have hxp:x<D.p:=hsa x (List.mem_cons_self ..)
   have hbp:b[i]'(by omega)<D.p:=hsy _ (List.getElem_mem _)
   have hd:b.drop i=b[i]'(by omega)::b.drop (i+1):=List.drop_eq_getElem_cons (by omega)
   have mS:h'.cell b2 (0+i)=some (.int .i64 ((x:Nat):Int)):=by
    refine ho.cell ?_
    rw[Nat.zero_add,kj (by simp;omega)]
    congr 3
    rw[List.getElem_append_right (by omega)]
    simp[agu]
   have nV:(iv (ints (pre++x::a))).set (0+i) (.int .i64 (((x+b[i]'(by omega))%D.p:Nat):Int))=iv (ints ((pre++[(x+b[i]'(by omega))%D.p])++a)):=by
    rw[lu,ints_set,Nat.zero_add,List.set_append_right _ _ (by omega),show i-pre.length=0 by omega,List.set_cons_zero];simp
   obtain⟨h'',e1,e2,e3⟩:=ih (i+1) g (pre++[(x+b[i]'(by omega))%D.p]) a (h'.put b2 (some (iv (ints ((pre++[(x+b[i]'(by omega))%D.p])++a))))) (by omega) (by omega) (by simp;omega) (by simpa using ha) (fun y hy=>hsa y (List.mem_cons_of_mem _ hy)) (ho.put _) (hq.trans (kg.put _))
   refine⟨h'',?_,?_,e3⟩
   ·show vh M fl 20 _ _ _ _ _ _ h'=_
    unfold vh
    have hbn:h.next<h1.next:=dF.1
    rw[if_pos (by simp;omega),bC rfl (show i<D.m by omega)]
    dsimp only
    rw[ae mS,(hsb.J6 hq (fun a b ha hb=>by cases ha;cases hb;simp;omega)).read (by omega) (by simp;omega)]
    simp only[Int.toNat_natCast,dW]
    rw[ae ((hq.ob aAy (fun a ha=>by cases ha;simp;omega)).cell rfl),aH (x+b[i]'(by omega)) (by push_cast;rfl) (by omega),iX hp0,bC rfl (show i<D.m by omega),ho.st (by have:=eI.1;omega) (by simp;omega) rfl,nV,aH (i+1) (by push_cast;rfl) (by omega)]
    exact e1
   ·rw[hd]
    simpa [xo] using e2
 obtain⟨h4,d1,d2,d3⟩:=loop D.m 0 20 [] (D.dg (sQ D x)) h3 (by omega) (by omega) rfl (D.iM _) (D.oe _) (a3.quiet c4) (kg.refl _ _)
 have hq4:an h h4:=d3.quiet hq3 (fun a ha=>by cases ha;have:=eI.1;simp;omega)
 simp only[List.nil_append,List.drop_zero] at d2
 have hs4:SI h4 ⟨some ⟨b2,0,none⟩,D.m,D.m⟩ (ints (xo D.p (D.dg (sQ D x)) (D.dg (sQ D y)))):=by
  have:=d2.si none D.m
  rwa[dt,D.QL] at this
 obtain⟨h5,e1,e2⟩:=JH (fl:=fl) (r.quiet hq4) hs4 (MY D.pp _ _) (D.QL _ _)
 refine⟨h5,bF (k:=20) (by decide) apa ?_,hq4.trans e2⟩
 unfold fa
 rw[afR]
 unfold qb aER aki bJ
 rw[eK]
 dsimp only
 rw[ae (dF.cell rfl),ae (dF.cell rfl),aq (s:=mod) (dF.cell rfl),ak (show M fl fn.df [.agg ⟨[.int .i64 (D.p:Int),.int .i64 (D.m:Int),.slice mod.a mod.l mod.c]⟩,.int .i64 x] h1=_ from a1)]
 simp only[aX]
 have nY:=dF.quiet a4
 rw[ae (nY.cell rfl),ae (nY.cell rfl),aq (s:=mod) (nY.cell rfl),ak (show M fl fn.df [.agg ⟨[.int .i64 (D.p:Int),.int .i64 (D.m:Int),.slice mod.a mod.l mod.c]⟩,.int .i64 y] h2=_ from c1)]
 simp only
 unfold akh
 refine Eq.trans d1 ?_
 unfold En
 have hb4:=d3.ob (nY.quiet c4) (fun a ha=>by cases ha;have:=dF.1;simp;omega)
 rw[ae (hb4.cell rfl),ae (hb4.cell rfl),aq (s:=mod) (hb4.cell rfl),ak (show M fl fn.gZ [.agg ⟨[.int .i64 (D.p:Int),.int .i64 (D.m:Int),.slice mod.a mod.l mod.c]⟩,.slice (some ⟨b2,0,none⟩) D.m D.m] h4=_ from e1)]
 rfl
end
end Go.Abs.P
end
section
namespace Go.Abs.P
open Go.Abs Go.Fld
section
variable{D:FD}{mod:Sl}{h:AH}{fl:Nat}
theorem azA(r:RF h mod D)(x:Int)(bR:fl≤h.next):∃h',M fl fn.tD [fa D mod,.int .i64 x] h=some (.int .i64 ((D.neg (sQ D x):Nat):Int),h')∧an h h':=by
 have dF:=sR h D mod
 have eI:=an.alloc h [.int .i64 (D.p:Int),.int .i64 (D.m:Int),.slice mod.a mod.l mod.c]
 generalize eK:h.alloc [.int .i64 (D.p:Int),.int .i64 (D.m:Int),.slice mod.a mod.l mod.c]=h1 at dF eI
 obtain⟨h2,b2,a1,a2,a3,a4⟩:=oy (fl:=fl) (r.quiet eI) x (by have:=eI.1;omega)
 have nL:=eI.trans a4
 have hm:=r.ok.m
 have hbn:h.next<h1.next:=dF.1
 have aWf:=dF.quiet a4
 have hp:=r.ok.p
 have hp0:=D.pp
 have loop:∀(d i g:Nat) (pre a:List Nat) (h':AH),i+d=D.m→d<g→pre.length=i→a.length=d→Small D.p a→OB h' b2 (iv (ints (pre++a)))→kg (some ⟨b2,0,none⟩) h2 h'→
  ∃h'',D2 M fl 20 (D1 M fl 20 (fun(y6:Int) q=>some (Value.int .i64 y6,q))) g ⟨h.next,0,none⟩ ⟨some ⟨b2,0,none⟩,D.m,D.m⟩ (i:Int) h'=D1 M fl 20 (fun(y6:Int) q=>some (Value.int .i64 y6,q)) ⟨h.next,0,none⟩ ⟨some ⟨b2,0,none⟩,D.m,D.m⟩ h''∧OB h'' b2 (iv (ints (pre++Dm D.p a)))∧kg (some ⟨b2,0,none⟩) h2 h'':=by
  intro d
  induction d with
  |zero=>
   intro i g pre a h' hi hg agu ha hsa ho hq
   obtain⟨g,rfl⟩:∃j,g=j+1:=⟨g-1,by omega⟩
   obtain rfl:a=[]:=List.eq_nil_of_length_eq_zero ha
   refine⟨h',?_,by simpa [Dm] using ho,hq⟩
   show uJ M fl 20 _ _ _ _ _ h'=_
   unfold uJ
   rw[if_neg (by simp;omega)]
  |succ d ih=>
   intro i g pre a h' hi hg agu ha hsa ho hq
   obtain⟨g,rfl⟩:∃j,g=j+1:=⟨g-1,by omega⟩
   obtain⟨x,a,rfl⟩:∃x a',a=x::a':=by cases a with|nil=>simp at ha|cons x a=>exact⟨x,a,rfl⟩
   have hxp:x<D.p:=hsa x (List.mem_cons_self ..)
   have mS:h'.cell b2 (0+i)=some (.int .i64 ((x:Nat):Int)):=by
    refine ho.cell ?_
    rw[Nat.zero_add,kj (by simp;omega)]
    congr 3
    rw[List.getElem_append_right (by omega)]
    simp[agu]
   have nV:(iv (ints (pre++x::a))).set (0+i) (.int .i64 (((D.p-x)%D.p:Nat):Int))=iv (ints ((pre++[(D.p-x)%D.p])++a)):=by
    rw[lu,ints_set,Nat.zero_add,List.set_append_right _ _ (by omega),show i-pre.length=0 by omega,List.set_cons_zero];simp
   obtain⟨h'',e1,e2,e3⟩:=ih (i+1) g (pre++[(D.p-x)%D.p]) a (h'.put b2 (some (iv (ints ((pre++[(D.p-x)%D.p])++a))))) (by omega) (by omega) (by simp;omega) (by simpa using ha) (fun y hy=>hsa y (List.mem_cons_of_mem _ hy)) (ho.put _) (hq.trans (kg.put _))
   have hx':=hq.ob aWf (fun a ha=>by cases ha;simp;omega)
   refine⟨h'',?_,by simpa [Dm] using e2,e3⟩
   show uJ M fl 20 _ _ _ _ _ h'=_
   unfold uJ
   rw[if_pos (by simp;omega),ae (hx'.cell rfl),bC rfl (show i<D.m by omega)]
   dsimp only
   rw[ae mS,ae (hx'.cell rfl),aH (D.p-x) (by omega) (by omega),iX hp0,bC rfl (show i<D.m by omega),ho.st (by have:=eI.1;omega) (by simp;omega) rfl,nV,aH (i+1) (by push_cast;rfl) (by omega)]
   exact e1
 obtain⟨h4,d1,d2,d3⟩:=loop D.m 0 20 [] (D.dg (sQ D x)) h2 (by omega) (by omega) rfl (D.iM _) (D.oe _) a3 (kg.refl _ _)
 have hq4:an h h4:=d3.quiet nL (fun a ha=>by cases ha;have:=eI.1;simp;omega)
 simp only[List.nil_append] at d2
 have hs4:SI h4 ⟨some ⟨b2,0,none⟩,D.m,D.m⟩ (ints (Dm D.p (D.dg (sQ D x)))):=by
  have:=d2.si none D.m
  rwa[dt,D.QM] at this
 obtain⟨h5,e1,e2⟩:=JH (fl:=fl) (r.quiet hq4) hs4 (MZ D.pp _) (D.QM _)
 refine⟨h5,bF (k:=20) (by decide) ao6 ?_,hq4.trans e2⟩
 unfold fa
 rw[afs]
 unfold tD aDP ajt bJ
 rw[eK]
 dsimp only
 rw[ae (dF.cell rfl),ae (dF.cell rfl),aq (s:=mod) (dF.cell rfl),ak (show M fl fn.df [.agg ⟨[.int .i64 (D.p:Int),.int .i64 (D.m:Int),.slice mod.a mod.l mod.c]⟩,.int .i64 x] h1=_ from a1)]
 simp only[aX]
 unfold ajs
 refine Eq.trans d1 ?_
 unfold D1
 have hb4:=d3.ob aWf (fun a ha=>by cases ha;simp;omega)
 rw[ae (hb4.cell rfl),ae (hb4.cell rfl),aq (s:=mod) (hb4.cell rfl),ak (show M fl fn.gZ [.agg ⟨[.int .i64 (D.p:Int),.int .i64 (D.m:Int),.slice mod.a mod.l mod.c]⟩,.slice (some ⟨b2,0,none⟩) D.m D.m] h4=_ from e1)]
 rfl
end
end Go.Abs.P
end
section
namespace Go.Abs.P
open Go.Abs Go.Fld
theorem Yx{l:List Nat}{i n:Nat}:(iv (ints l)).set i (.int .i64 (n:Int))=iv (ints (l.set i n)):=by rw[lu,ints_set]
theorem ahh{p:Nat}{l:List Nat}(h:Small p l)(i:Nat){v:Nat}(hv:v<p):Small p (l.set i v):=by
 intro a ha
 rcases List.mem_or_eq_of_mem_set ha with h1|h1
 ·exact h a h1
 ·omega
section
variable{D:FD}{fl k:Nat}{h0:AH}{bx cb:Nat}{mod ta tb:Sl}{a b:List Nat}
theorem aMM{R:Type}(kn:bG R)(f:FOK D)(hx:OB h0 bx [.int .i64 (D.p:Int),.int .i64 (D.m:Int),.slice mod.a mod.l mod.c])
 (ha:SI h0 ta (ints a)) (hla:a.length=D.m) (hsa:Small D.p a) (hb:SI h0 tb (ints b)) (hlb:b.length=D.m) (hsb:Small D.p b) (hcb:h0.next≤cb) (bR:fl≤cb) (i:Nat) (hi:i<D.m) (P:V D.p):
 ∀(d j g:Nat) (c:List Nat) (h:AH),j+d=D.m→d<g→c.length=2*D.m-1→Small D.p c→OB h cb (iv (ints c))→an h0 h→
 evp D.m (vec D.low) (2*D.m-1) c=yM P (fun k=>vec a i*lc j (vec b) (fun j=>tp D.m (vec D.low) (i+j) e0) k)→
 ∃h' c',kU M fl k kn g ⟨bx,0,none⟩ ta tb ⟨some ⟨cb,0,none⟩,2*D.m-1,2*D.m-1⟩ (i:Int) (j:Int) h=kn ⟨bx,0,none⟩ ta tb ⟨some ⟨cb,0,none⟩,2*D.m-1,2*D.m-1⟩ (i:Int) h'∧
  OB h' cb (iv (ints c'))∧c'.length=2*D.m-1∧Small D.p c'∧an h0 h'∧evp D.m (vec D.low) (2*D.m-1) c'=yM P (fun k=>vec a i*lc D.m (vec b) (fun j=>tp D.m (vec D.low) (i+j) e0) k):=by
 have hp:=f.p
 have hm:=f.m
 have hp0:=D.pp
 intro d
 induction d with
 |zero=>
  intro j g c h hj hg hlc hsc ho hq hev
  obtain⟨g,rfl⟩:∃j,g=j+1:=⟨g-1,by omega⟩
  obtain rfl:j=D.m:=by omega
  refine⟨h,c,?_,ho,hlc,hsc,hq,hev⟩
  show et M fl k _ _ _ _ _ _ _ _ h=_
  unfold et
  dsimp only
  rw[ae ((hx.quiet hq).cell rfl),if_neg (by simp)]
 |succ d ih=>
  intro j g c h hj hg hlc hsc ho hq hev
  obtain⟨g,rfl⟩:∃j,g=j+1:=⟨g-1,by omega⟩
  have lY:=hx.quiet hq
  have hai:a[i]'(by omega)<D.p:=hsa _ (List.getElem_mem _)
  have hbj:b[j]'(by omega)<D.p:=hsb _ (List.getElem_mem _)
  have bcu:c[i+j]'(by omega)<D.p:=hsc _ (List.getElem_mem _)
  have hab:a[i]'(by omega)*b[j]'(by omega)≤256*256:=Nat.mul_le_mul (by omega) (by omega)
  have mS:h.cell cb (0+(i+j))=some (.int .i64 ((c[i+j]'(by omega):Nat):Int)):=ho.cell (by rw[Nat.zero_add,kj (by omega)])
  obtain⟨h',c',e1,e2⟩:=ih (j+1) g (c.set (i+j) ((c[i+j]'(by omega)+a[i]'(by omega)*b[j]'(by omega))%D.p)) (h.put cb (some (iv (ints (c.set (i+j) ((c[i+j]'(by omega)+a[i]'(by omega)*b[j]'(by omega))%D.p)))))) (by omega) (by omega) (by simpa using hlc) (ahh hsc _ (Nat.mod_lt _ hp0)) (ho.put _) (hq.put hcb _) (by
   unfold evp
   rw[aBD (d:=Fin.ofNat D.p (a[i]'(by omega))*Fin.ofNat D.p (b[j]'(by omega))) _ (show i+j<2*D.m-1 by omega) (by omega) (by rw[abT,abU,arb])]
   unfold evp at hev
   rw[hev,aav]
   funext k
   have h1:vec (p:=D.p) a i=Fin.ofNat D.p (a[i]'(by omega)):=by unfold vec;rw[mW]
   have h2:vec (p:=D.p) b j=Fin.ofNat D.p (b[j]'(by omega)):=by unfold vec;rw[mW]
   unfold yM
   rw[h1,h2]
   grind)
  refine⟨h',c',?_,e2⟩
  show et M fl k _ _ _ _ _ _ _ _ h=_
  unfold et
  dsimp only
  rw[ae (lY.cell rfl),if_pos (by simp;omega),aH (i+j) (by push_cast;rfl) (by omega),bC rfl (show i+j<2*D.m-1 by omega)]
  dsimp only
  rw[ae mS,(ha.quiet hq).read (by omega) (by simp;omega),(hb.quiet hq).read (by omega) (by simp;omega)]
  simp only[Int.toNat_natCast,dW]
  have f1:av (((a[i]'(by omega):Nat):Int)*((b[j]'(by omega):Nat):Int))=((a[i]'(by omega)*b[j]'(by omega):Nat):Int):=aH _ (by push_cast;rfl) (by omega)
  rw[ae (lY.cell rfl),f1,aH (c[i+j]'(by omega)+a[i]'(by omega)*b[j]'(by omega)) (by push_cast;rfl) (by omega),iX hp0,bC rfl (show i+j<2*D.m-1 by omega),ho.st bR (by simp;omega) rfl,Nat.zero_add,Yx,aH (j+1) (by push_cast;rfl) (by omega)]
  exact e1
theorem aFl{R:Type}(kn:cG R)(f:FOK D)(hx:OB h0 bx [.int .i64 (D.p:Int),.int .i64 (D.m:Int),.slice mod.a mod.l mod.c])
 (ha:SI h0 ta (ints a)) (hla:a.length=D.m) (hsa:Small D.p a) (hb:SI h0 tb (ints b)) (hlb:b.length=D.m) (hsb:Small D.p b) (hcb:h0.next≤cb) (bR:fl≤cb) (hk:8<k):
 ∀(d i g:Nat) (c:List Nat) (h:AH),i+d=D.m→d<g→c.length=2*D.m-1→Small D.p c→OB h cb (iv (ints c))→an h0 h→
 evp D.m (vec D.low) (2*D.m-1) c=lc (p:=D.p) i (vec a) (fun i=>lc D.m (vec b) (fun j=>tp D.m (vec D.low) (i+j) e0))→
 ∃h' c',zL M fl k kn g ⟨bx,0,none⟩ ta tb ⟨some ⟨cb,0,none⟩,2*D.m-1,2*D.m-1⟩ (i:Int) h=kn ⟨bx,0,none⟩ ⟨some ⟨cb,0,none⟩,2*D.m-1,2*D.m-1⟩ h'∧
  OB h' cb (iv (ints c'))∧c'.length=2*D.m-1∧Small D.p c'∧an h0 h'∧evp D.m (vec D.low) (2*D.m-1) c'=lc (p:=D.p) D.m (vec a) (fun i=>lc D.m (vec b) (fun j=>tp D.m (vec D.low) (i+j) e0)):=by
 have hm:=f.m
 intro d
 induction d with
 |zero=>
  intro i g c h hi hg hlc hsc ho hq hev
  obtain⟨g,rfl⟩:∃j,g=j+1:=⟨g-1,by omega⟩
  obtain rfl:i=D.m:=by omega
  refine⟨h,c,?_,ho,hlc,hsc,hq,hev⟩
  show vg M fl k _ _ _ _ _ _ _ h=_
  unfold vg Bb
  dsimp only
  rw[ae ((hx.quiet hq).cell rfl),if_neg (by simp)]
 |succ d ih=>
  intro i g c h hi hg hlc hsc ho hq hev
  obtain⟨g,rfl⟩:∃j,g=j+1:=⟨g-1,by omega⟩
  obtain⟨h1,c1,a1,a2,a3,a4,a5,a6⟩:=aMM (k:=k) (ou M fl k (zL M fl k kn g) kn) f hx ha hla hsa hb hlb hsb hcb bR i (by omega) (lc (p:=D.p) i (vec a) (fun i=>lc D.m (vec b) (fun j=>tp D.m (vec D.low) (i+j) e0))) D.m 0 k c h (by omega) (by omega) hlc hsc ho hq (by
   rw[hev]
   funext k
   simp only[yM,lc,sm]
   grind)
  obtain⟨h',c',e1,e2⟩:=ih (i+1) g c1 h1 (by omega) (by omega) a3 a4 a2 a5 (by rw[a6,aav])
  refine⟨h',c',?_,e2⟩
  show vg M fl k _ _ _ _ _ _ _ h=_
  unfold vg Bb
  dsimp only
  rw[ae ((hx.quiet hq).cell rfl),if_pos (by simp;omega)]
  unfold Jo zA xk sK vf
  refine Eq.trans a1 ?_
  unfold ou
  rw[aH (i+1) (by push_cast;rfl) (by omega)]
  exact e1
theorem aMN{R:Type}(kn:bl R)(f:FOK D)(hx:OB h0 bx [.int .i64 (D.p:Int),.int .i64 (D.m:Int),.slice mod.a mod.l mod.c])(bL:SI h0 mod (ints D.low))(hcb:h0.next≤cb)(bR:fl≤cb)(i ci:Nat)(hi:D.m≤i)(hi2:i<2*D.m-1)(P:V D.p):
 ∀(d j g:Nat) (c:List Nat) (h:AH),j+d=D.m→d<g→c.length=2*D.m-1→Small D.p c→c[i]?=some ci→OB h cb (iv (ints c))→an h0 h→
 evp D.m (vec D.low) i c=yM P (lc j (fun j=> -(Fin.ofNat D.p ci*vec D.low j)) (fun j=>tp D.m (vec D.low) (i-D.m+j) e0))→
 ∃h' c',iF M fl k kn g ⟨bx,0,none⟩ ⟨some ⟨cb,0,none⟩,2*D.m-1,2*D.m-1⟩ (i:Int) (j:Int) h=kn ⟨bx,0,none⟩ ⟨some ⟨cb,0,none⟩,2*D.m-1,2*D.m-1⟩ (i:Int) h'∧
  OB h' cb (iv (ints c'))∧c'.length=2*D.m-1∧Small D.p c'∧an h0 h'∧evp D.m (vec D.low) i c'=yM P (lc D.m (fun j=> -(Fin.ofNat D.p ci*vec D.low j)) (fun j=>tp D.m (vec D.low) (i-D.m+j) e0)):=by
 have hp:=f.p
 have hm:=f.m
 have hp0:=D.pp
 intro d
 induction d with
 |zero=>
  intro j g c h hj hg hlc hsc hci ho hq hev
  obtain⟨g,rfl⟩:∃j,g=j+1:=⟨g-1,by omega⟩
  obtain rfl:j=D.m:=by omega
  refine⟨h,c,?_,ho,hlc,hsc,hq,hev⟩
  show dd M fl k _ _ _ _ _ _ h=_
  unfold dd
  dsimp only
  rw[ae ((hx.quiet hq).cell rfl),if_neg (by simp)]
 |succ d ih=>
  intro j g c h hj hg hlc hsc hci ho hq hev
  obtain⟨g,rfl⟩:∃j,g=j+1:=⟨g-1,by omega⟩
  have lY:=hx.quiet hq
  have hli:i<c.length:=by omega
  have aWz:c[i]=ci:=by rw[List.getElem?_eq_getElem hli] at hci;exact Option.some.inj hci
  have bcK:ci<D.p:=by rw[←aWz];exact hsc _ (List.getElem_mem _)
  have hlj:D.low[j]'(by rw[D.hl];omega)<D.p:=D.hs _ (List.getElem_mem _)
  have hk:i-D.m+j<c.length:=by omega
  have hcx:c[i-D.m+j]<D.p:=hsc _ (List.getElem_mem _)
  have hmul:(D.p-ci)*D.low[j]'(by rw[D.hl];omega)≤256*256:=Nat.mul_le_mul (by omega) (by omega)
  have mS:h.cell cb (0+(i-D.m+j))=some (.int .i64 ((c[i-D.m+j]:Nat):Int)):=ho.cell (by rw[Nat.zero_add,kj hk])
  have aR2:h.cell cb (0+i)=some (.int .i64 ((ci:Nat):Int)):=ho.cell (by rw[Nat.zero_add,kj hli,aWz])
  obtain⟨h',c',e1,e2⟩:=ih (j+1) g (c.set (i-D.m+j) ((c[i-D.m+j]+(D.p-ci)*D.low[j]'(by rw[D.hl];omega))%D.p)) (h.put cb (some (iv (ints (c.set (i-D.m+j) ((c[i-D.m+j]+(D.p-ci)*D.low[j]'(by rw[D.hl];omega))%D.p)))))) (by omega) (by omega) (by simpa using hlc) (ahh hsc _ (Nat.mod_lt _ hp0)) (by rw[List.getElem?_set_ne (by omega)];exact hci) (ho.put _) (hq.put hcb _) (by
   unfold evp
   rw[aBD (d:= -(Fin.ofNat D.p ci)*Fin.ofNat D.p (D.low[j]'(by rw[D.hl];omega))) _ (show i-D.m+j<i by omega) hk (by rw[abT,abU,arb,arc (by omega)])]
   unfold evp at hev
   rw[hev,aav]
   funext k
   have h2:vec (p:=D.p) D.low j=Fin.ofNat D.p (D.low[j]'(by rw[D.hl];omega)):=by unfold vec;rw[mW]
   unfold yM
   rw[h2]
   grind)
  refine⟨h',c',?_,e2⟩
  show dd M fl k _ _ _ _ _ _ h=_
  unfold dd
  dsimp only
  have g1:av ((i:Int)-(D.m:Int))=((i-D.m:Nat):Int):=aH _ (by omega) (by omega)
  have g2:av (((i-D.m:Nat):Int)+(j:Int))=((i-D.m+j:Nat):Int):=aH _ (by push_cast;rfl) (by omega)
  rw[ae (lY.cell rfl),if_pos (by simp;omega),ae (lY.cell rfl),ae (lY.cell rfl),g1,g2,bC rfl (show i-D.m+j<2*D.m-1 by omega)]
  dsimp only
  rw[ae mS,ae (lY.cell rfl),bC rfl (show i<2*D.m-1 by omega)]
  dsimp only
  rw[ae aR2,aq (s:=mod) (lY.cell rfl),(bL.quiet hq).read (by omega) (by simp[D.hl];omega)]
  simp only[Int.toNat_natCast,dW]
  have f1:av ((D.p:Int)-(ci:Int))=((D.p-ci:Nat):Int):=aH _ (by omega) (by omega)
  have f2:av (((D.p-ci:Nat):Int)*((D.low[j]'(by rw[D.hl];omega):Nat):Int))=(((D.p-ci)*D.low[j]'(by rw[D.hl];omega):Nat):Int):=aH _ (by push_cast;rfl) (by omega)
  rw[ae (lY.cell rfl),f1,f2,aH (c[i-D.m+j]+(D.p-ci)*D.low[j]'(by rw[D.hl];omega)) (by push_cast;rfl) (by omega),iX hp0,bC rfl (show i-D.m+j<2*D.m-1 by omega),ho.st bR (by simp;omega) rfl,Nat.zero_add,Yx,aH (j+1) (by push_cast;rfl) (by omega)]
  exact e1
theorem aFm{R:Type}(kn:cG R)(f:FOK D)(hx:OB h0 bx [.int .i64 (D.p:Int),.int .i64 (D.m:Int),.slice mod.a mod.l mod.c])(bL:SI h0 mod (ints (kX D)))(hcb:h0.next≤cb)(bR:fl≤cb)(hk:8<k)(P:V D.p):
 ∀(n g:Nat) (c:List Nat) (h:AH),n≤D.m-1→n<g→c.length=2*D.m-1→Small D.p c→OB h cb (iv (ints c))→an h0 h→evp D.m (vec D.low) (n+D.m) c=P→
 ∃h' c',lq M fl k kn g ⟨bx,0,none⟩ ⟨some ⟨cb,0,none⟩,2*D.m-1,2*D.m-1⟩ (((n+D.m:Nat):Int)-1) h=kn ⟨bx,0,none⟩ ⟨some ⟨cb,0,none⟩,2*D.m-1,2*D.m-1⟩ h'∧
  OB h' cb (iv (ints c'))∧c'.length=2*D.m-1∧Small D.p c'∧an h0 h'∧evp D.m (vec D.low) D.m c'=P:=by
 have hm:=f.m
 have hm1:=D.hm
 intro n
 induction n with
 |zero=>
  intro g c h hn hg hlc hsc ho hq hev
  obtain⟨g,rfl⟩:∃j,g=j+1:=⟨g-1,by omega⟩
  refine⟨h,c,?_,ho,hlc,hsc,hq,by simpa using hev⟩
  show jF M fl k _ _ _ _ _ h=_
  unfold jF mN
  dsimp only
  rw[ae ((hx.quiet hq).cell rfl),if_neg (by rw[decide_eq_true_eq];omega)]
 |succ n ih=>
  intro g c h hn hg hlc hsc ho hq hev
  obtain⟨g,rfl⟩:∃j,g=j+1:=⟨g-1,by omega⟩
  have hmo:kX D=D.low:=by unfold kX;rw[if_neg (by omega)]
  rw[hmo] at bL
  have hi:n+D.m<c.length:=by omega
  have e0:((n+1+D.m:Nat):Int)-1=((n+D.m:Nat):Int):=by omega
  obtain⟨h1,c1,a1,a2,a3,a4,a5,a6⟩:=aMN (k:=k) (jv M fl k (lq M fl k kn g) kn) f hx bL hcb bR (n+D.m) (c[n+D.m]) (by omega) (by omega) (evp D.m (vec D.low) (n+D.m) c) D.m 0 k c h (by omega) (by omega) hlc hsc (List.getElem?_eq_getElem hi) ho hq (by
   funext k
   simp only[yM,lc,sm]
   grind)
  obtain⟨h',c',e1,e2⟩:=ih g c1 h1 (by omega) (by omega) a3 a4 a2 a5 (by
   rw[a6,←hev,show n+1+D.m=(n+D.m)+1 by omega]
   unfold evp
   rw[aav]
   congr 1
   have:=aTi D.m (vec D.low) (by omega) (show D.m≤n+D.m by omega) (Fin.ofNat D.p c[n+D.m])
   rw[←this]
   funext k
   unfold vec
   rw[mW _ hi])
  refine⟨h',c',?_,e2⟩
  rw[e0]
  show jF M fl k _ _ _ _ _ h=_
  unfold jF mN
  dsimp only
  rw[ae ((hx.quiet hq).cell rfl),if_pos (by rw[decide_eq_true_eq];omega)]
  unfold xT nI lW kT nT
  refine Eq.trans a1 ?_
  unfold jv
  rw[mj (by omega) (by omega)]
  exact e1
end
section
variable{D:FD}{mod:Sl}{h:AH}{fl:Nat}
theorem ahi(r:RF h mod D)(x y:Int)(bR:fl≤h.next):∃h',M fl fn.iQ [fa D mod,.int .i64 x,.int .i64 y] h=some (.int .i64 ((D.mul (sQ D x) (sQ D y):Nat):Int),h')∧an h h':=by
 have dF:=sR h D mod
 have eI:=an.alloc h [.int .i64 (D.p:Int),.int .i64 (D.m:Int),.slice mod.a mod.l mod.c]
 generalize eK:h.alloc [.int .i64 (D.p:Int),.int .i64 (D.m:Int),.slice mod.a mod.l mod.c]=h1 at dF eI
 obtain⟨h2,b2,a1,a2,a3,a4⟩:=oy (fl:=fl) (r.quiet eI) x (by have:=eI.1;omega)
 have nL:=eI.trans a4
 obtain⟨h3,b3,c1,c2,c3,c4⟩:=oy (fl:=fl) (r.quiet nL) y (by have:=nL.1;omega)
 have hq3:=nL.trans c4
 have hm:=r.ok.m
 have hm1:=D.hm
 have hp0:=D.pp
 have nY:=dF.quiet a4
 have hb3:=nY.quiet c4
 have sa:SI h3 ⟨some ⟨b2,0,none⟩,D.m,D.m⟩ (ints (D.dg (sQ D x))):=by
  have:=(a3.si none D.m).quiet c4
  rwa[dt,D.iM] at this
 have sb:SI h3 ⟨some ⟨b3,0,none⟩,D.m,D.m⟩ (ints (D.dg (sQ D y))):=by
  have:=c3.si none D.m
  rwa[dt,D.iM] at this
 have ho:=OB.alloc h3 (List.replicate (2*D.m-1) (Value.int .i64 0))
 rw[qM] at ho
 have hnx:h.next≤h3.next:=hq3.1
 have ez:evp D.m (vec D.low) (2*D.m-1) (List.replicate (2*D.m-1) 0)=lc (p:=D.p) 0 (vec (D.dg (sQ D x))) (fun i=>lc D.m (vec (D.dg (sQ D y))) (fun j=>tp D.m (vec D.low) (i+j) e0)):=by
  funext k
  unfold evp lc
  simp only[sm]
  rw[fK (g:=fun _=>0),EX]
  intro i hi
  unfold vec
  rw[mW _ (by simpa using hi)]
  simp[J2]
  grind
 obtain⟨h4,cc,d1,d2,d3,d4,d5,d6⟩:=aFl (fl:=fl) (k:=30) (cb:=h3.next) (K8 M fl 30 (fun(y6:Int) q=>some (Value.int .i64 y6,q))) r.ok hb3 sa (D.iM _) (D.oe _) sb (D.iM _) (D.oe _) (Nat.le_refl _) (by omega) (by omega) D.m 0 30 (List.replicate (2*D.m-1) 0) _ (by omega) (by omega) (by simp) (by intro c hc;have:=List.eq_of_mem_replicate hc;omega) ho (an.alloc ..) ez
 obtain⟨h5,cc2,e1,e2,e3,e4,e5,e6⟩:=aFm (fl:=fl) (k:=30) (cb:=h3.next) (xj M fl 30 (fun(y6:Int) q=>some (Value.int .i64 y6,q))) r.ok hb3 (r.si.quiet hq3) (Nat.le_refl _) (by omega) (by omega) _ (D.m-1) 30 cc h4 (Nat.le_refl _) (by omega) d3 d4 d2 d5 (by rw[show D.m-1+D.m=2*D.m-1 by omega])
 have hq5:=hq3.trans e5
 have hv:eH D.p (cc2.take D.m)=D.mul (sQ D x) (sQ D y):=D.arp (by omega) e4 (e6.trans d6)
 have hs5:SI h5 ⟨some ⟨h3.next,0,none⟩,D.m,2*D.m-1⟩ (ints (cc2.take D.m)):=by
  refine⟨by simp;omega,fun i hi=>⟨_,rfl,e2.1,?_⟩⟩
  simp only[dt,List.length_take] at hi
  rw[e2.cell (show(iv (ints cc2))[0+i]?=some (.int .i64 ((cc2[i]'(by omega):Nat):Int)) by rw[Nat.zero_add,kj (by omega)])]
  simp[ints]
 obtain⟨h6,g1,g2⟩:=JH (fl:=fl) (r.quiet hq5) hs5 (fun a ha=>e4 a (List.mem_of_mem_take ha)) (by simp;omega)
 refine⟨h6,bF (k:=30) (by decide) ao9 ?_,hq5.trans g2⟩
 unfold fa
 rw[afQ]
 unfold iQ aEP ake bJ
 rw[eK]
 dsimp only
 rw[ae (dF.cell rfl),ae (dF.cell rfl),aq (s:=mod) (dF.cell rfl),ak (show M fl fn.df [.agg ⟨[.int .i64 (D.p:Int),.int .i64 (D.m:Int),.slice mod.a mod.l mod.c]⟩,.int .i64 x] h1=_ from a1)]
 simp only[aX]
 rw[ae (nY.cell rfl),ae (nY.cell rfl),aq (s:=mod) (nY.cell rfl),ak (show M fl fn.df [.agg ⟨[.int .i64 (D.p:Int),.int .i64 (D.m:Int),.slice mod.a mod.l mod.c]⟩,.int .i64 y] h2=_ from c1)]
 simp only
 have k1:av (2*(D.m:Int))=((2*D.m:Nat):Int):=aH _ (by push_cast;rfl) (by omega)
 have k2:av (((2*D.m:Nat):Int)-1)=((2*D.m-1:Nat):Int):=aH _ (by omega) (by omega)
 have k3:av (((2*D.m:Nat):Int)-2)=((D.m-1+D.m:Nat):Int)-1:=by rw[mj (by omega) (by omega)];omega
 rw[ae (hb3.cell rfl),k1,k2,j7 (by unfold kc;omega),qM]
 unfold akd
 refine Eq.trans d1 ?_
 unfold K8 Gu Jm
 have hb4:=hb3.quiet d5
 dsimp only
 rw[ae (hb4.cell rfl),k1,k3]
 refine Eq.trans e1 ?_
 unfold xj
 have hb5:=hb3.quiet e5
 dsimp only
 rw[ae (hb5.cell rfl),ae (hb5.cell rfl),aq (s:=mod) (hb5.cell rfl),ae (hb5.cell rfl)]
 have aUq:∀{R':Type} (K:Sl→Option R'),sub 1 ⟨some ⟨h3.next,0,none⟩,2*D.m-1,2*D.m-1⟩ none (some (D.m:Int)) none K=K ⟨some ⟨h3.next,0,none⟩,D.m,2*D.m-1⟩:=by
  intro R' K
  unfold sub
  rw[if_pos (by unfold oB;simp;omega)]
  simp only[Option.getD_some,Option.getD_none]
  rw[if_pos (by omega)]
  congr 1
  simp
 rw[aUq,ak (show M fl fn.gZ [.agg ⟨[.int .i64 (D.p:Int),.int .i64 (D.m:Int),.slice mod.a mod.l mod.c]⟩,.slice (some ⟨h3.next,0,none⟩) D.m (2*D.m-1)] h5=_ from g1),hv]
 rfl
theorem azB{R:Type}{k:Nat}{h0:AH}{bx:Nat}(kn:au R)(kr:ah R)(r:RF h0 mod D)(hx:OB h0 bx [.int .i64 (D.p:Int),.int .i64 (D.m:Int),.slice mod.a mod.l mod.c])(x:Int)(bR:fl≤h0.next):
 ∀(d y g:Nat) (h:AH),y+d=D.q→d<g→0<y→an h0 h→
 ∃h',an h0 h'∧u7 M fl k kn kr g x ⟨bx,0,none⟩ (y:Int) h=if D.fi (sQ D x) d y=0 then kn h' else kr ((D.fi (sQ D x) d y:Nat):Int) h':=by
 have ahA:=r.ok.q
 intro d
 induction d with
 |zero=>
  intro y g h hy hg h0y hq
  obtain⟨g,rfl⟩:∃j,g=j+1:=⟨g-1,by omega⟩
  have lY:=hx.quiet hq
  obtain⟨h1,a1,a2⟩:=Cv (fl:=fl) (h:=h) (D.p:Int) (D.m:Int) mod
  refine⟨h1,hq.trans a2,?_⟩
  show u6 M fl k _ _ _ _ _ _ h=_
  unfold u6
  dsimp only
  rw[ae (lY.cell rfl),ae (lY.cell rfl),aq (s:=mod) (lY.cell rfl),ak a1,asf r.ok]
  simp only[asInt,if_true]
  rw[if_neg (by simp;omega)]
  rfl
 |succ d ih=>
  intro y g h hy hg h0y hq
  obtain⟨g,rfl⟩:∃j,g=j+1:=⟨g-1,by omega⟩
  have lY:=hx.quiet hq
  obtain⟨h1,a1,a2⟩:=Cv (fl:=fl) (h:=h) (D.p:Int) (D.m:Int) mod
  have EJ:=hq.trans a2
  have hx1:=hx.quiet EJ
  obtain⟨h2,b1,b2⟩:=ahi (fl:=fl) (r.quiet EJ) x (y:Int) (by have:=EJ.1;omega)
  have nL:=EJ.trans b2
  rw[abk (show y<D.q by omega)] at b1
  have un:u7 M fl k kn kr (g+1) x ⟨bx,0,none⟩ (y:Int) h=if D.mul (sQ D x) y=1 then kr (y:Int) h2 else u7 M fl k kn kr g x ⟨bx,0,none⟩ ((y+1:Nat):Int) h2:=by
   show u6 M fl k _ _ _ _ _ _ h=_
   unfold u6
   dsimp only
   rw[ae (lY.cell rfl),ae (lY.cell rfl),aq (s:=mod) (lY.cell rfl),ak a1,asf r.ok]
   simp only[asInt,if_true]
   rw[if_pos (by simp;omega),ae (hx1.cell rfl),ae (hx1.cell rfl),aq (s:=mod) (hx1.cell rfl),ak (show M fl fn.iQ [.agg ⟨[.int .i64 (D.p:Int),.int .i64 (D.m:Int),.slice mod.a mod.l mod.c]⟩,.int .i64 x,.int .i64 (y:Int)] h1=_ from b1)]
   simp only[if_true]
   by_cases c:D.mul (sQ D x) y=1
   ·rw[if_pos (by rw[c];rfl),if_pos c]
   ·rw[if_neg (by simp;omega),if_neg c,aH (y+1) (by push_cast;rfl) (by omega)]
  by_cases c:D.mul (sQ D x) y=1
  ·refine⟨h2,nL,?_⟩
   have:D.fi (sQ D x) (d+1) y=y:=by unfold FD.fi;rw[if_pos c]
   rw[un,if_pos c,this,if_neg (by omega)]
  ·obtain⟨h',e1,e2⟩:=ih (y+1) g h2 (by omega) (by omega) (by omega) nL
   refine⟨h',e1,?_⟩
   have:D.fi (sQ D x) (d+1) y=D.fi (sQ D x) d (y+1):=by conv=>lhs;unfold FD.fi;rw[if_neg c]
   rw[un,if_neg c,this];exact e2
theorem azC(r:RF h mod D)(x:Int)(bR:fl≤h.next):∃h',M fl fn.tE [fa D mod,.int .i64 x] h=some (.int .i64 ((D.inv (sQ D x):Nat):Int),h')∧an h h':=by
 have dF:=sR h D mod
 have eI:=an.alloc h [.int .i64 (D.p:Int),.int .i64 (D.m:Int),.slice mod.a mod.l mod.c]
 generalize eK:h.alloc [.int .i64 (D.p:Int),.int .i64 (D.m:Int),.slice mod.a mod.l mod.c]=h1 at dF eI
 have EJ:=D.q1
 obtain⟨h',e1,e2⟩:=azB (fl:=fl) (k:=D.q+1) (Vt M fl (D.q+1) (fun(y4:Int) q=>some (Value.int .i64 y4,q))) (fun(y4:Int) q=>some (Value.int .i64 y4,q)) (r.quiet eI) dF x (by have:=eI.1;omega) (D.q-1) 1 (D.q+1) h1 (by omega) (by omega) (by omega) (an.refl _)
 refine⟨h',bF (k:=D.q+1) (by decide) ao8 ?_,eI.trans e1⟩
 unfold fa
 rw[afH]
 unfold tE aEs aj2 bJ
 rw[eK]
 dsimp only
 refine Eq.trans e2 ?_
 unfold FD.inv
 split
 ·rename_i hz;rw[hz];rfl
 ·rfl
end
end Go.Abs.P
end
section
namespace Go.Abs.P
open Go.Abs Go.Fld
abbrev El(D:FD):=Fin D.q
def ve{D:FD}(x:El D):Int:=((x.val:Nat):Int)
def vl{D:FD}(xs:List (El D)):List Int:=xs.map ve
@[simp] theorem iT{D:FD}(xs:List (El D)):(vl xs).length=xs.length:=by simp[vl]
theorem mQ{D:FD}(xs:List (El D))(i:Nat)(h:i<(vl xs).length):(vl xs)[i]=ve (xs[i]'(by simpa using h)):=by simp[vl]
theorem aFn{D:FD}(xs:List (El D))(i:Nat)(x:El D):(vl xs).set i (ve x)=vl (xs.set i x):=by simp[vl,List.map_set]
theorem zM{D:FD}(a b:List (El D)):vl (a++b)=vl a++vl b:=by simp[vl]
theorem lD{D:FD}(x:El D):sQ D (ve x)=x.val:=abk x.2
theorem asg{D:FD}{x y:El D}(h:ve x=ve y):x=y:=Fin.ext (by unfold ve at h;omega)
theorem j0{D:FD}{gen:Nat}(hg:D.bh gen)(x:El D):ve x=0↔x=(FD.aR hg).zero:=by
 constructor
 ·intro h
  refine Fin.ext ?_
  show x.val=0
  unfold ve at h;omega
 ·rintro rfl;rfl
theorem aQk{D:FD}{a b:List (El D)}(h:vl a=vl b):a=b:=by
 unfold vl at h
 exact(List.map_inj_right (fun x y e=>asg e)).1 h
theorem aTm{D:FD}{xs:List Int}(h:∀x∈xs,isI D x=true):∃l:List (El D),xs=vl l:=by
 induction xs with
 |nil=>exact⟨[],rfl⟩
 |cons x xs ih=>
  obtain⟨l,hl⟩:=ih fun y hy=>h y (List.mem_cons_of_mem _ hy)
  have hx:=h x (List.mem_cons_self ..)
  unfold isI at hx
  simp only[Bool.and_eq_true,decide_eq_true_eq] at hx
  refine⟨⟨x.toNat,by omega⟩::l,?_⟩
  show x::xs=ve _::vl l
  rw[hl]
  congr 1
  show x=((x.toNat:Nat):Int)
  omega
section
variable{D:FD}{gen:Nat}(hg:D.bh gen){h:AH}{g:Addr}{fl:Nat}
theorem aMO(p:GF h g D gen)(x y:El D):M fl fn.dy [.pointer (some g),.int .i64 (ve x),.int .i64 (ve y)] h=some (.int .i64 (ve ((FD.aR hg).mul x y)),h):=by
 have:=apj (fl:=fl) p (ve x) (ve y)
 rw[lD,lD] at this
 exact this
theorem aXX(p:GF h g D gen)(x y:El D):M fl fn.jh [.pointer (some g),.int .i64 (ve x),.int .i64 (ve y)] h=some (.int .i64 (ve ((FD.aR hg).add x y)),h):=by
 have:=aph (fl:=fl) p (ve x) (ve y)
 rw[lD,lD] at this
 exact this
theorem aTn(p:GF h g D gen)(x:El D):M fl fn.fR [.pointer (some g),.int .i64 (ve x)] h=some (.int .i64 (ve ((FD.aR hg).neg x)),h):=by
 have:=api (fl:=fl) p (ve x)
 rw[lD] at this
 exact this
theorem aXY(p:GF h g D gen)(x y:El D):M fl fn.gQ [.pointer (some g),.int .i64 (ve x),.int .i64 (ve y)] h=some (.int .i64 (ve ((FD.aR hg).add x ((FD.aR hg).neg y))),h):=by
 have:=aFe (fl:=fl) p (ve x) (ve y)
 rw[lD,lD] at this
 exact this
theorem aXZ(p:GF h g D gen)(x:El D)(h0:x≠(FD.aR hg).zero):M fl fn.fS [.pointer (some g),.int .i64 (ve x)] h=some (.tuple ⟨[.int .i64 (ve ((FD.aR hg).inv x)),.int .i64 0]⟩,h):=by
 have:=apk (fl:=fl) p (ve x) (by rw[lD];exact fun e=>h0 (Fin.ext e))
 rw[lD] at this
 exact this
theorem aX0(p:GF h g D gen)(x y:El D)(h0:y≠(FD.aR hg).zero):M fl fn.ko [.pointer (some g),.int .i64 (ve x),.int .i64 (ve y)] h=some (.tuple ⟨[.int .i64 (ve ((FD.aR hg).mul x ((FD.aR hg).inv y))),.int .i64 0]⟩,h):=by
 have:=aFf (fl:=fl) p (ve x) (ve y) (by rw[lD];exact fun e=>h0 (Fin.ext e))
 rw[lD,lD] at this
 exact this
theorem ash{R:Type}{k:Nat}(kn:ab R){h0:AH}{b:Nat}{s:Sl}{xs:List (El D)}(p:GF h0 g D gen)(a:El D)(hs:SI h0 s (vl xs))(hb:h0.next≤b)(bR:fl≤b)(hm:xs.length<ow):
 ∀(d i f:Nat) (h:AH),i+d=xs.length→d<f→OB h b (iv (vl ((FD.aR hg).yN a (xs.take i))++List.replicate d 0))→an h0 h→
 ∃h',D6 M fl k kn f (some g) (ve a) ⟨some ⟨b,0,none⟩,xs.length,xs.length⟩ s (xs.length:Int) (i:Int) h=kn ⟨some ⟨b,0,none⟩,xs.length,xs.length⟩ h'∧OB h' b (iv (vl ((FD.aR hg).yN a xs)))∧an h0 h':=by
 intro d
 induction d with
 |zero=>
  intro i f h hi hf ho hq
  obtain⟨f,rfl⟩:∃j,f=j+1:=⟨f-1,by omega⟩
  rw[List.take_of_length_le (by omega),List.replicate_zero,List.append_nil] at ho
  refine⟨h,?_,ho,hq⟩
  show uN M fl k _ _ _ _ _ _ _ _ h=_
  unfold uN
  rw[if_neg (by simp;omega)]
 |succ d ih=>
  intro i f h hi hf ho hq
  obtain⟨f,rfl⟩:∃j,f=j+1:=⟨f-1,by omega⟩
  have qC:i<xs.length:=by omega
  have nV:(iv (vl ((FD.aR hg).yN a (xs.take i))++List.replicate (d+1) 0)).set (0+i) (.int .i64 (ve ((FD.aR hg).mul a xs[i])))=iv (vl ((FD.aR hg).yN a (xs.take (i+1)))++List.replicate d 0):=by
   rw[lu,Nat.zero_add,List.set_append_right _ _ (by simp[Fld.ig];omega)]
   have:i-(vl ((FD.aR hg).yN a (xs.take i))).length=0:=by simp[Fld.ig];omega
   have hn:(FD.aR hg).yN a (xs.take (i+1))=(FD.aR hg).yN a (xs.take i)++[(FD.aR hg).mul a xs[i]]:=by unfold Fld.yN;rw[List.take_succ_eq_append_getElem qC,List.map_append];rfl
   rw[this,List.replicate_succ,List.set_cons_zero,hn,zM,List.append_assoc]
   rfl
  obtain⟨h',e1,e2,e3⟩:=ih (i+1) f (h.put b (some (iv (vl ((FD.aR hg).yN a (xs.take (i+1)))++List.replicate d 0)))) (by omega) (by omega) (ho.put _) (hq.put hb _)
  refine⟨h',?_,e2,e3⟩
  show uN M fl k _ _ _ _ _ _ _ _ h=_
  unfold uN
  rw[if_pos (by simp;omega),(hs.quiet hq).read (by omega) (by simp;omega)]
  simp only[Int.toNat_natCast,mQ]
  rw[ak (aMO hg (p.quiet hq) a xs[i])]
  simp only[asInt,if_true]
  rw[bC rfl (show i<xs.length from qC),ho.st bR (by simp[Fld.ig];omega) rfl,nV,gr (by omega)]
  exact e1
theorem asi(p:GF h g D gen){s:Sl}{xs:List (El D)}(a:El D)(hs:SI h s (vl xs))(hm:xs.length≤65536)(bR:fl≤h.next):
 ∃h',M fl fn.gm [.pointer (some g),.int .i64 (ve a),.slice s.a s.l s.c] h=some (.slice (some ⟨h.next,0,none⟩) xs.length xs.length,h')∧OB h' h.next (iv (vl ((FD.aR hg).yN a xs)))∧an h h':=by
 have ho:=OB.alloc h (List.replicate xs.length (Value.int .i64 0))
 rw[show List.replicate xs.length (Value.int .i64 0)=iv (vl ((FD.aR hg).yN a (xs.take 0))++List.replicate xs.length 0) by simp[iv,vl,Fld.yN]] at ho
 obtain⟨h',e1,e2,e3⟩:=ash (fl:=fl) (k:=xs.length+1) hg (Vk M fl (xs.length+1) (fun(y6:Sl) q=>some (Value.slice y6.a y6.l y6.c,q))) p a hs (Nat.le_refl _) bR (by unfold ow;omega) xs.length 0 (xs.length+1) _ (by omega) (by omega) ho (an.alloc ..)
 refine⟨h',bF (k:=xs.length+1) (by decide) Ez ?_,e2,e3⟩
 rw[AU]
 unfold gm aD1 ajA
 have hl:s.l=xs.length:=by rw[hs.len];simp
 rw[hl,j7 (by unfold kc;omega),show List.replicate xs.length (Value.int .i64 0)=iv (vl ((FD.aR hg).yN a (xs.take 0))++List.replicate xs.length 0) by simp[iv,vl,Fld.yN]]
 exact e1
theorem aFo{R:Type}{k:Nat}(kn:au R){h0:AH}{b cp:Nat}{tu:Sl}{u:List (El D)}(p:GF h0 g D gen)(a:El D)(hu:SI h0 tu (vl u))(hub:∀q,tu.a=some q→b≠q.block)(hgb:∀{h:AH},kg (some ⟨b,0,none⟩) h0 h→GF h g D gen)(bR:fl≤b)(hm:u.length<ow)(v0:List (El D))(hv0:v0.length=u.length):
 ∀(d i f:Nat) (h:AH),i+d=u.length→d<f→OB h b (iv (vl ((FD.aR hg).cy (v0.take i) a (u.take i)++v0.drop i)))→kg (some ⟨b,0,none⟩) h0 h→
 ∃h',zK M fl k kn f (some g) ⟨some ⟨b,0,none⟩,u.length,cp⟩ (ve a) tu (u.length:Int) (i:Int) h=kn h'∧OB h' b (iv (vl ((FD.aR hg).cy v0 a u)))∧kg (some ⟨b,0,none⟩) h0 h':=by
 intro d
 induction d with
 |zero=>
  intro i f h hi hf ho hq
  obtain⟨f,rfl⟩:∃j,f=j+1:=⟨f-1,by omega⟩
  rw[List.take_of_length_le (by omega),List.take_of_length_le (by omega),List.drop_of_length_le (by omega),List.append_nil] at ho
  refine⟨h,?_,ho,hq⟩
  show uT M fl k _ _ _ _ _ _ _ _ h=_
  unfold uT AZ
  rw[if_neg (by simp;omega)]
 |succ d ih=>
  intro i f h hi hf ho hq
  obtain⟨f,rfl⟩:∃j,f=j+1:=⟨f-1,by omega⟩
  have hiu:i<u.length:=by omega
  have hiv:i<v0.length:=by omega
  have hax:((FD.aR hg).cy (v0.take i) a (u.take i)).length=i:=by rw[Fld.cg _ _ _ _ (by simp;omega)];simp;omega
  have YF:(FD.aR hg).cy (v0.take (i+1)) a (u.take (i+1))=(FD.aR hg).cy (v0.take i) a (u.take i)++[(FD.aR hg).add v0[i] ((FD.aR hg).mul a u[i])]:=by
   unfold Fld.cy
   rw[List.take_succ_eq_append_getElem hiv,List.take_succ_eq_append_getElem hiu,List.zipWith_append (by simp;omega)]
   rfl
  have aGj:=(hu.J6 hq (fun q q' e1 e2=>by cases e2;exact hub q e1)).read (i:=(i:Int)) (by omega) (by simp;omega) (R:=R)
  have step:u[i]=(FD.aR hg).zero→(FD.aR hg).cy (v0.take i) a (u.take i)++v0.drop i=(FD.aR hg).cy (v0.take (i+1)) a (u.take (i+1))++v0.drop (i+1):=by
   intro hz
   rw[YF,hz,Fld.mul_zero,(FD.aR hg).add_zero,List.drop_eq_getElem_cons hiv];simp
  have un:zK M fl k kn (f+1) (some g) ⟨some ⟨b,0,none⟩,u.length,cp⟩ (ve a) tu (u.length:Int) (i:Int) h=uT M fl k (zK M fl k kn f) kn (some g) ⟨some ⟨b,0,none⟩,u.length,cp⟩ (ve a) tu (u.length:Int) (i:Int) h:=rfl
  rw[un]
  unfold uT AZ
  rw[if_pos (by simp;omega),aGj]
  simp only[Int.toNat_natCast,mQ]
  by_cases hz:u[i]=(FD.aR hg).zero
  ·obtain⟨h',e1,e2,e3⟩:=ih (i+1) f h (by omega) (by omega) (by rw[←step hz];exact ho) hq
   refine⟨h',?_,e2,e3⟩
   rw[if_neg (by simp[(j0 hg _).2 hz])]
   unfold Cg
   rw[gr (by omega)]
   exact e1
  ·have mS:h.cell b (0+i)=some (.int .i64 (ve v0[i])):=by
    refine ho.cell ?_
    rw[Nat.zero_add,M1 _ _ (by simp;omega),mQ]
    congr 3
    rw[List.getElem_append_right (by omega)]
    simp[hax]
   have nV:(iv (vl ((FD.aR hg).cy (v0.take i) a (u.take i)++v0.drop i))).set (0+i) (.int .i64 (ve ((FD.aR hg).add v0[i] ((FD.aR hg).mul a u[i]))))=iv (vl ((FD.aR hg).cy (v0.take (i+1)) a (u.take (i+1))++v0.drop (i+1))):=by
    rw[lu,aFn,Nat.zero_add,List.set_append_right _ _ (by omega),hax,Nat.sub_self,List.drop_eq_getElem_cons hiv,List.set_cons_zero,YF]
    simp
   obtain⟨h',e1,e2,e3⟩:=ih (i+1) f (h.put b (some (iv (vl ((FD.aR hg).cy (v0.take (i+1)) a (u.take (i+1))++v0.drop (i+1)))))) (by omega) (by omega) (ho.put _) (hq.trans (kg.put _))
   refine⟨h',?_,e2,e3⟩
   have hgh:=hgb hq
   rw[if_pos (by simp;exact fun e=>hz ((j0 hg _).1 e)),bC rfl (show i<u.length from hiu)]
   dsimp only
   rw[ae mS,ak (aMO hg hgh a u[i])]
   simp only[asInt,if_true]
   rw[ak (aXX hg hgh v0[i] _)]
   simp only[if_true]
   rw[bC rfl (show i<u.length from hiu),ho.st bR (by simp;omega) rfl,nV]
   unfold Cg
   rw[gr (by omega)]
   exact e1
theorem azD(p:GF h g D gen){b cp:Nat}{v u:List (El D)}{tu:Sl}(a:El D)(hv:OB h b (iv (vl v)))(hu:SI h tu (vl u))(hl:v.length=u.length)(hub:∀q,tu.a=some q→b≠q.block)(hgb:∀{h':AH},kg (some ⟨b,0,none⟩) h h'→GF h' g D gen)(hm:u.length≤65536)(bR:fl≤b):
 ∃h',M fl fn.oX [.pointer (some g),.slice (some ⟨b,0,none⟩) u.length cp,.int .i64 (ve a),.slice tu.a tu.l tu.c] h=some (.tuple ⟨[]⟩,h')∧OB h' b (iv (vl ((FD.aR hg).cy v a u)))∧kg (some ⟨b,0,none⟩) h h':=by
 obtain⟨h',e1,e2,e3⟩:=aFo (fl:=fl) (k:=u.length+1) (cp:=cp) hg (fun q=>some (Value.tuple ⟨[]⟩,q)) p a hu hub hgb bR (by unfold ow;omega) v hl u.length 0 (u.length+1) h (by omega) (by omega) (by simpa [Fld.cy] using hv) (kg.refl _ _)
 refine⟨h',bF (k:=u.length+1) (by decide) TK ?_,e2,e3⟩
 rw[Jk (p0:=some g) (p1:=⟨some ⟨b,0,none⟩,u.length,cp⟩)]
 unfold oX aEb ajI ajH
 have:tu.l=u.length:=by rw[hu.len];simp
 rw[this]
 exact e1
end
theorem aen{fl:Nat}{h:AH}{s:Sl}{xs:List Int}(hs:SI h s xs)(lZ:xs≠[])(hr:xs.length≤65536):
 ∃s' h',M fl fn.eS [.slice s.a s.l s.c] h=some (.slice s'.a s'.l s'.c,h')∧OV h.next h' s' (iv xs)∧an h h':=by
 have hb:=OB.alloc h []
 have hq:=an.alloc h []
 generalize eK:h.alloc []=h1 at hb hq
 obtain⟨s',h',a1,a2,a3⟩:=axe (R:=Value×AH) (fl:=fl) hb (hs.quiet hq) lZ (by unfold kc;omega) (fun y q=>some (Value.slice y.a y.l y.c,q))
 refine⟨s',h',bF (k:=1) (by decide) Js ?_,a2.mono hq.1,hq.trans a3⟩
 rw[DU]
 unfold eS aDB bJ
 have hsn:s.a.isNone=false:=by
  obtain⟨a,h1,_⟩:=hs.2 0 (List.length_pos_iff.2 lZ)
  rw[h1];rfl
 rw[if_neg (by simp[hsn]),eK]
 exact a1
end Go.Abs.P
end
section
namespace Go.Abs
structure RR(h:AH)(s:Sl)(rows:List (List Int)):Prop where
 len:s.l=rows.length
 get:∀(i:Nat) (hi:i<rows.length),∃a t,s.a=some a∧a.block<h.next∧h.cell a.block (a.off+i)=some (Sl.v t)∧SI h t rows[i]
theorem RR.quiet{h h':AH}{s:Sl}{rows:List (List Int)}(p:RR h s rows)(q:an h h'):RR h' s rows:=⟨p.1,fun i hi=>by
 obtain⟨a,t,h1,h2,h3,h4⟩:=p.2 i hi
 exact⟨a,t,h1,Nat.lt_of_lt_of_le h2 q.1,by unfold AH.cell at h3 ⊢;rw[q.2 _ h2];exact h3,h4.quiet q⟩⟩
theorem RR.nil(h:AH):RR h ⟨none,0,0⟩ []:=⟨rfl,fun i hi=>by cases hi⟩
theorem RR.read{h:AH}{s:Sl}{rows:List (List Int)}(p:RR h s rows){i:Nat}(hi:i<rows.length):∃t,SI h t rows[i]∧∀{R:Type} (K:Sl→Option R),(idx 1 s (i:Int) fun q=>aT h q.block q.off K)=K t:=by
 obtain⟨a,t,h1,h2,h3,h4⟩:=p.2 i hi
 refine⟨t,h4,fun K=>?_⟩
 rw[bC h1 (by rw[p.1];exact hi)]
 exact aq h3 K
theorem asj{l:List Nat}(hnd:l.Nodup){i k:Nat}(JO:i<l.length)(hk':k<l.length):((l.set i l[k]).set k l[i]).Nodup:=by
 have inj:∀a b (ha:a<l.length) (hb:b<l.length),l[a]=l[b]→a=b:=by
  intro a b ha hb e
  rcases Nat.lt_trichotomy a b with h1|h1|h1
  ·exact absurd e (List.pairwise_iff_getElem.1 hnd a b ha hb h1)
  ·exact h1
  ·exact absurd e.symm (List.pairwise_iff_getElem.1 hnd b a hb ha h1)
 unfold List.Nodup
 rw[List.pairwise_iff_getElem]
 intro a b ha hb hab e
 have ha':a<l.length:=by simpa using ha
 have xz:b<l.length:=by simpa using hb
 have ea:((l.set i l[k]).set k l[i])[a]=l[if k=a then i else if i=a then k else a]'(by split<;>(try split)<;>assumption):=by
  rw[List.getElem_set]
  by_cases c1:k=a
  ·simp[c1]
  ·rw[if_neg c1,List.getElem_set]
   by_cases c2:i=a
   ·simp[c1,c2]
   ·simp[c1,c2]
 have eb:((l.set i l[k]).set k l[i])[b]=l[if k=b then i else if i=b then k else b]'(by split<;>(try split)<;>assumption):=by
  rw[List.getElem_set]
  by_cases c1:k=b
  ·simp[c1]
  ·rw[if_neg c1,List.getElem_set]
   by_cases c2:i=b
   ·simp[c1,c2]
   ·simp[c1,c2]
 rw[ea,eb] at e
 have:=inj _ _ _ _ e
 split at this<;>split at this<;>(try split at this)<;>(try split at this)<;>omega
structure RRf(n0:Nat)(h:AH)(s:Sl)(rows:List (List Int)):Prop where
 rr:RR h s rows
 hd:∀a,s.a=some a→n0≤a.block
 row:∀(i:Nat) (_:i<rows.length) (a:Addr) (t:Sl),s.a=some a→h.cell a.block (a.off+i)=some (Sl.v t)→∀q,t.a=some q→n0≤q.block
theorem RRf.J6{n0 c o:Nat}{t:Option Nat}{h h':AH}{s:Sl}{rows:List (List Int)}(p:RRf n0 h s rows)(q:kg (some ⟨c,o,t⟩) h h')(hc:c<n0):RRf n0 h' s rows:=by
 have key:∀(i:Nat) (hi:i<rows.length) (a:Addr),s.a=some a→a.block<h.next→h'.cell a.block (a.off+i)=h.cell a.block (a.off+i):=by
  intro i hi a ha hlt
  unfold AH.cell
  rw[q.2 _ hlt (fun b hb=>by cases hb;have:=p.hd a ha;simp only[ne_eq];omega)]
 refine⟨⟨p.rr.1,fun i hi=>?_⟩,p.hd,fun i hi a t ha ht=>?_⟩
 ·obtain⟨a,t,h1,h2,h3,h4⟩:=p.rr.2 i hi
  refine⟨a,t,h1,Nat.lt_of_lt_of_le h2 q.1,by rw[key i hi a h1 h2];exact h3,h4.J6 q fun a' b' ha' xz=>?_⟩
  cases xz
  have:=p.row i hi a t h1 h3 a' ha'
  simp only[ne_eq];omega
 ·obtain⟨a',t',h1,h2,_,_⟩:=p.rr.2 i hi
  rw[ha] at h1;cases h1
  rw[key i hi a ha h2] at ht
  exact p.row i hi a t ha ht
theorem RRf.quiet{n0:Nat}{h h':AH}{s:Sl}{rows:List (List Int)}(p:RRf n0 h s rows)(q:an h h'):RRf n0 h' s rows:=by
 refine⟨p.rr.quiet q,p.hd,fun i hi a t ha ht=>?_⟩
 obtain⟨a',t',h1,h2,_,_⟩:=p.rr.2 i hi
 rw[ha] at h1;cases h1
 unfold AH.cell at ht
 rw[q.2 _ h2] at ht
 exact p.row i hi a t ha ht
theorem RRf.mono{n0 n1:Nat}{h:AH}{s:Sl}{rows:List (List Int)}(p:RRf n0 h s rows)(hn:n1≤n0):RRf n1 h s rows:=
 ⟨p.rr,fun a ha=>Nat.le_trans hn (p.hd a ha),fun i hi a t ha ht q hq=>Nat.le_trans hn (p.row i hi a t ha ht q hq)⟩
def hv(b:Nat×Nat)(r:List Int):Value:=.slice (some ⟨b.1,0,none⟩) r.length b.2
structure Mx(n0:Nat)(h:AH)(hb:Nat)(bs:List (Nat×Nat))(rows:List (List Int))(tail:List Value):Prop where
 len:bs.length=rows.length
 YD:OB h hb (List.zipWith hv bs rows++tail)
 row:∀(i:Nat) (h1:i<bs.length) (h2:i<rows.length),OB h (bs[i]).1 (iv rows[i])
 gh:n0≤hb
 ge:∀b∈bs,n0≤b.1∧b.1≠hb
 nd:(bs.map Prod.fst).Nodup
section
variable{n0 hb:Nat}{h h':AH}{bs:List (Nat×Nat)}{rows:List (List Int)}{tail:List Value}
theorem Mx.quiet(p:Mx n0 h hb bs rows tail)(q:an h h'):Mx n0 h' hb bs rows tail:=⟨p.len,p.YD.quiet q,fun i h1 h2=>(p.row i h1 h2).quiet q,p.gh,p.ge,p.nd⟩
theorem Mx.J6(p:Mx n0 h hb bs rows tail){c o:Nat}{t:Option Nat}(q:kg (some ⟨c,o,t⟩) h h')(h1:c≠hb)(h2:∀b∈bs,c≠b.1):Mx n0 h' hb bs rows tail:=
 ⟨p.len,q.ob p.YD (fun a ha=>by cases ha;exact h1),fun i h3 h4=>q.ob (p.row i h3 h4) (fun a ha=>by cases ha;exact h2 _ (List.getElem_mem _)),p.gh,p.ge,p.nd⟩
theorem Mx.cell(p:Mx n0 h hb bs rows tail){i:Nat}(hi:i<rows.length):h.cell hb i=some (hv (bs[i]'(by rw[p.len];exact hi)) rows[i]):=by
 refine p.YD.cell ?_
 rw[List.getElem?_append_left (by simp[p.len];exact hi),List.getElem?_zipWith,List.getElem?_eq_getElem (by rw[p.len];exact hi),List.getElem?_eq_getElem hi]
theorem Mx.ne(p:Mx n0 h hb bs rows tail){i j:Nat}(hi:i<bs.length)(hj:j<bs.length)(e:i≠j):(bs[i]).1≠(bs[j]).1:=by
 intro h
 have:=p.nd
 have JO:i<(bs.map Prod.fst).length:=by simpa using hi
 have hj':j<(bs.map Prod.fst).length:=by simpa using hj
 rcases Nat.lt_or_gt_of_ne e with h1|h1
 ·exact List.pairwise_iff_getElem.1 this i j JO hj' h1 (by simpa using h)
 ·exact List.pairwise_iff_getElem.1 this j i hj' JO h1 (by simpa using h.symm)
theorem JI{α β γ:Type}(f:α→β→γ)(a:List α)(b:List β)(i:Nat)(x:α)(y:β):(List.zipWith f a b).set i (f x y)=List.zipWith f (a.set i x) (b.set i y):=by
 induction a generalizing b i with
 |nil=>rfl
 |cons u a ih=>cases b with
  |nil=>cases i<;>rfl
  |cons v b=>cases i with
   |zero=>rfl
   |succ i=>simp[ih]
theorem Mx.setRow(p:Mx n0 h hb bs rows []){i nb cp:Nat}{r:List Int}(hi:i<rows.length)(o:OB h nb (iv r))(hn:n0≤nb)(h1:nb≠hb)(h2:∀b∈bs,nb≠b.1):
 Mx n0 (h.put hb (some ((List.zipWith hv bs rows++[]).set i (hv (nb,cp) r)))) hb (bs.set i (nb,cp)) (rows.set i r) []:=by
 refine⟨by simp[p.len],?_,?_,p.gh,?_,?_⟩
 ·rw[List.append_nil,List.append_nil,JI]
  exact p.YD.put _
 ·intro j hj1 hj2
  by_cases e:i=j
  ·subst e
   simp only[List.getElem_set_self]
   exact o.art (fun e=>h1 e.symm) _
  ·rw[List.getElem_set_ne e,List.getElem_set_ne e]
   have aNw:j<bs.length:=by simpa using hj1
   refine(p.row j aNw (by simpa using hj2)).art (fun e=>(p.ge _ (List.getElem_mem aNw)).2 e.symm) _
 ·intro b xz
  rcases List.mem_or_eq_of_mem_set xz with h3|rfl
  ·exact p.ge b h3
  ·exact⟨hn,h1⟩
 ·rw[List.map_set]
  have hnb:nb∉bs.map Prod.fst:=by
   intro hm
   obtain⟨b,Iv,nY⟩:=List.mem_map.1 hm
   exact h2 b Iv nY.symm
  have nV:∀(l:List Nat) (i:Nat),l.Nodup→nb∉l→(l.set i nb).Nodup:=by
   intro l
   induction l with
   |nil=>intro i _ _;simp
   |cons a l ih=>
    intro i hnd hnm
    rw[List.nodup_cons] at hnd
    simp only[List.mem_cons,not_or] at hnm
    cases i with
    |zero=>simp only[List.set_cons_zero,List.nodup_cons];exact⟨hnm.2,hnd.2⟩
    |succ i=>
     simp only[List.set_cons_succ,List.nodup_cons]
     refine⟨fun hm=>?_,ih i hnd.2 hnm.2⟩
     rcases List.mem_or_eq_of_mem_set hm with h3|h3
     ·exact hnd.1 h3
     ·exact hnm.1 h3.symm
  exact nV _ i p.nd hnb
theorem Mx.upd(p:Mx n0 h hb bs rows tail){i:Nat}{r:List Int}(hi:i<rows.length)(hl:r.length=rows[i].length)(o:OB h' (bs[i]'(by rw[p.len];exact hi)).1 (iv r)){oo:Nat}{t:Option Nat}(q:kg (some ⟨(bs[i]'(by rw[p.len];exact hi)).1,oo,t⟩) h h'):
 Mx n0 h' hb bs (rows.set i r) tail:=by
 have hib:i<bs.length:=by rw[p.len];exact hi
 refine⟨by simp[p.len],?_,?_,p.gh,p.ge,p.nd⟩
 ·have e:List.zipWith hv bs (rows.set i r)=List.zipWith hv bs rows:=by
   apply List.ext_getElem (by simp)
   intro j h1 h2
   simp only[List.getElem_zipWith]
   by_cases e:i=j
   ·subst e
    simp only[List.getElem_set_self,hv,hl]
   ·rw[List.getElem_set_ne e]
  rw[e]
  exact q.ob p.YD (fun a ha=>by cases ha;exact(p.ge _ (List.getElem_mem hib)).2)
 ·intro j hj1 hj2
  by_cases e:i=j
  ·subst e
   simp only[List.getElem_set_self]
   exact o
  ·rw[List.getElem_set_ne e]
   exact q.ob (p.row j hj1 (by simpa using hj2)) (fun a ha=>by cases ha;exact p.ne hib hj1 e)
theorem Mx.swap(p:Mx n0 h hb bs rows []){i k:Nat}(hi:i<rows.length)(hk:k<rows.length):
 Mx n0 ((h.put hb (some ((List.zipWith hv bs rows++[]).set i (hv (bs[k]'(by rw[p.len];exact hk)) rows[k])))).put hb (some (((List.zipWith hv bs rows++[]).set i (hv (bs[k]'(by rw[p.len];exact hk)) rows[k])).set k (hv (bs[i]'(by rw[p.len];exact hi)) rows[i])))) hb
  ((bs.set i (bs[k]'(by rw[p.len];exact hk))).set k (bs[i]'(by rw[p.len];exact hi))) ((rows.set i rows[k]).set k rows[i]) []:=by
 have hib:i<bs.length:=by rw[p.len];exact hi
 have hkb:k<bs.length:=by rw[p.len];exact hk
 refine⟨by simp[p.len],?_,?_,p.gh,?_,?_⟩
 ·rw[List.append_nil,List.append_nil,JI,JI]
  exact(p.YD.put _).put _
 ·intro j hj1 hj2
  have aNw:j<bs.length:=by simpa using hj1
  have a5p:j<rows.length:=by simpa using hj2
  have fr:∀m (hm:m<bs.length) (hm2:m<rows.length),OB ((h.put hb (some ((List.zipWith hv bs rows++[]).set i (hv bs[k] rows[k])))).put hb (some (((List.zipWith hv bs rows++[]).set i (hv bs[k] rows[k])).set k (hv bs[i] rows[i])))) (bs[m]).1 (iv rows[m]):=by
   intro m hm hm2
   exact((p.row m hm hm2).art (fun e=>(p.ge _ (List.getElem_mem hm)).2 e.symm) _).art (fun e=>(p.ge _ (List.getElem_mem hm)).2 e.symm) _
  by_cases e:k=j
  ·subst e
   simp only[List.getElem_set_self]
   exact fr i hib hi
  ·simp only[List.getElem_set_ne e]
   by_cases e2:i=j
   ·subst e2
    simp only[List.getElem_set_self]
    exact fr k hkb hk
   ·simp only[List.getElem_set_ne e2]
    exact fr j aNw a5p
 ·intro b xz
  rcases List.mem_or_eq_of_mem_set xz with h3|rfl
  ·rcases List.mem_or_eq_of_mem_set h3 with h4|rfl
   ·exact p.ge b h4
   ·exact p.ge _ (List.getElem_mem hkb)
  ·exact p.ge _ (List.getElem_mem hib)
 ·rw[List.map_set,List.map_set]
  have e1:(bs[k]).1=(bs.map Prod.fst)[k]'(by simpa using hkb):=by simp
  have e2:(bs[i]).1=(bs.map Prod.fst)[i]'(by simpa using hib):=by simp
  rw[e1,e2]
  exact asj p.nd (by simpa using hib) (by simpa using hkb)
end
end Go.Abs
namespace Go.Abs.P
open Go.Abs Go.Fld
theorem asl{R:Type}{fl k:Nat}(kn:ab R){h0:AH}{hb n0:Nat}{s:Sl}{rows:List (List Int)}(hs:RR h0 s rows)(hn0:h0.next=n0)(hhb:n0≤hb)(bR:fl≤n0)(hw:∀r∈rows,r≠[]∧r.length≤65536)(hm:rows.length<ow):
 ∀(d i f:Nat) (bs:List (Nat×Nat)) (h:AH),i+d=rows.length→d<f→Mx n0 h hb bs (rows.take i) (List.replicate d (Value.slice none 0 0))→an h0 h→
 ∃h' bs',D9 M fl k kn f ⟨some ⟨hb,0,none⟩,rows.length,rows.length⟩ s (rows.length:Int) (i:Int) h=kn ⟨some ⟨hb,0,none⟩,rows.length,rows.length⟩ h'∧Mx n0 h' hb bs' rows []∧an h0 h':=by
 intro d
 induction d with
 |zero=>
  intro i f bs h hi hf ho hq
  obtain⟨f,rfl⟩:∃j,f=j+1:=⟨f-1,by omega⟩
  rw[List.take_of_length_le (by omega)] at ho
  refine⟨h,bs,?_,ho,hq⟩
  show uP M fl k _ _ _ _ _ _ h=_
  unfold uP
  rw[if_neg (by simp;omega)]
 |succ d ih=>
  intro i f bs h hi hf ho hq
  obtain⟨f,rfl⟩:∃j,f=j+1:=⟨f-1,by omega⟩
  have qC:i<rows.length:=by omega
  have hwi:=hw _ (List.getElem_mem qC)
  obtain⟨t,ht1,ht2⟩:=(hs.quiet hq).read qC
  obtain⟨s',h1,c1,c2,c3⟩:=aen (fl:=fl) ht1 hwi.1 hwi.2
  have ho1:=ho.quiet c3
  have EJ:=hq.trans c3
  have hlen:=ho.len
  simp only[List.length_take,Nat.min_eq_left (show i≤rows.length by omega)] at hlen
  have hn:=hq.1
  rcases c2 with⟨hz,_⟩|⟨b,c,g1,g2,g3,g4,rfl,g6⟩
  ·exact absurd (by simpa [iv] using hz) hwi.1
  ·have hbl:∀b'∈bs,b'.1<h.next:=by
    intro b' xz
    obtain⟨j,hj,rfl⟩:=List.getElem_of_mem xz
    exact(ho.row j hj (by simp;omega)).1
   have hhl:=ho.YD.1
   have hbh:b≠hb:=by omega
   have nV:(List.zipWith hv bs (rows.take i)++List.replicate (d+1) (Value.slice none 0 0)).set (0+i) (.slice (some ⟨b,0,none⟩) (iv rows[i]).length c)=List.zipWith hv (bs++[(b,c)]) (rows.take (i+1))++List.replicate d (Value.slice none 0 0):=by
    rw[Nat.zero_add,List.set_append_right _ _ (by simp;omega)]
    have:i-(List.zipWith hv bs (rows.take i)).length=0:=by simp;omega
    rw[this,List.replicate_succ,List.set_cons_zero,List.take_succ_eq_append_getElem qC,List.zipWith_append (by simp;omega),List.append_assoc]
    simp[hv]
   have hmx:Mx n0 (h1.put hb (some (List.zipWith hv (bs++[(b,c)]) (rows.take (i+1))++List.replicate d (Value.slice none 0 0)))) hb (bs++[(b,c)]) (rows.take (i+1)) (List.replicate d (Value.slice none 0 0)):=by
    refine⟨by simp;omega,ho1.YD.put _,?_,ho.gh,?_,?_⟩
    ·intro j hj1 hj2
     have hj:j≤i:=by simp at hj2;omega
     by_cases e:j=i
     ·subst e
      rw[List.getElem_append_right (by omega)]
      simp only[hlen,Nat.sub_self,List.getElem_cons_zero,List.getElem_take]
      exact OB.art ⟨g2,g6⟩ (fun e=>hbh e.symm) _
     ·rw[List.getElem_append_left (by omega)]
      have:=ho1.row j (by omega) (by simp;omega)
      simp only[List.getElem_take] at this ⊢
      exact this.art (fun e=>(ho.ge _ (List.getElem_mem _)).2 e.symm) _
    ·intro b' xz
     rcases List.mem_append.1 xz with xz|xz
     ·exact ho.ge b' xz
     ·simp only[List.mem_singleton] at xz
      subst xz
      exact⟨by simp only;omega,hbh⟩
    ·rw[List.map_append,List.nodup_append]
     refine⟨ho.nd,by simp,?_⟩
     intro x hx y hy
     simp only[List.map_cons,List.map_nil,List.mem_singleton] at hy
     obtain⟨b',xz,rfl⟩:=List.mem_map.1 hx
     have:=hbl b' xz
     omega
   obtain⟨h',bs',e1,e2,e3⟩:=ih (i+1) f (bs++[(b,c)]) _ (by omega) (by omega) hmx (EJ.put (by omega) _)
   refine⟨h',bs',?_,e2,e3⟩
   show uP M fl k _ _ _ _ _ _ h=_
   unfold uP
   rw[if_pos (by simp;omega),ht2,ak c1]
   simp only[aX]
   rw[bC rfl (show i<rows.length from qC),ho1.YD.st (by omega) (by simp;omega) rfl,nV,gr (by omega)]
   exact e1
theorem asm{fl:Nat}{h:AH}{s:Sl}{rows:List (List Int)}(hs:RR h s rows)(bR:fl≤h.next)(hw:∀r∈rows,r≠[]∧r.length≤65536)(hm:rows.length≤65536):
 ∃h' bs,M fl fn.m6 [.slice s.a s.l s.c] h=some (.slice (some ⟨h.next,0,none⟩) rows.length rows.length,h')∧Mx h.next h' h.next bs rows []∧an h h':=by
 have ho:=OB.alloc h (List.replicate rows.length (Value.slice none 0 0))
 obtain⟨h',bs,e1,e2,e3⟩:=asl (fl:=fl) (k:=rows.length+1) (Vl M fl (rows.length+1) (fun(y6:Sl) q=>some (Value.slice y6.a y6.l y6.c,q))) hs rfl (Nat.le_refl _) bR hw (by unfold ow;omega) rows.length 0 (rows.length+1) [] _ (by omega) (by omega)
  ⟨by simp,by simpa using ho,fun i h1 h2=>absurd h1 (by simp),Nat.le_refl _,fun b hb=>absurd hb (by simp),by simp⟩ (an.alloc ..)
 refine⟨h',bs,bF (k:=rows.length+1) (by decide) Jz ?_,e2,e3⟩
 rw[Ea]
 unfold m6 aD5 ajF
 rw[hs.len,j7 (by unfold kc;omega)]
 exact e1
end Go.Abs.P
end
section
namespace Go.Abs
theorem aQl(fl:Nat)(a:Addr)(l c:Nat)(p1 p2:Addr)(h:AH):sX noE fl alW ([.slice (some a) l c,.pointer (some p1),.pointer (some p2)]++List.replicate 15 undef) h (fun _ h=>some (Value.tuple ⟨[]⟩,h))=
 aF .i64 h p2.block p2.off fun n1=>aF .i64 h p1.block p1.off fun n2=>aF .i64 h p1.block p1.off fun n3=>idx 1 ⟨some a,l,c⟩ n3 fun p4=>aT h p4.block p4.off fun s5=>aF .i64 h p2.block p2.off fun n6=>idx 1 ⟨some a,l,c⟩ n6 fun p7=>aT h p7.block p7.off fun s8=>
  idx 1 ⟨some a,l,c⟩ n1 fun p9=>st fl h p9 [.slice s5.a s5.l s5.c] fun sU=>idx 1 ⟨some a,l,c⟩ n2 fun TS=>st fl sU TS [.slice s8.a s8.l s8.c] fun zN=>some (Value.tuple ⟨[]⟩,zN):=by kernel_rfl
end Go.Abs
namespace Go.Abs.P
open Go.Abs Go.Fld
structure ES{D:FD}(h0 h:AH)(g:Addr)(hb:Nat)(bs:List (Nat×Nat))(rows:List (List (El D)))(bg br ba:Nat):Prop where
 q:an h0 h
 mx:Mx h0.next h hb bs (rows.map vl) []
 og:OB h bg [.pointer (some g)]
 orr:OB h br [.slice (some ⟨hb,0,none⟩) rows.length rows.length]
 oa:OB h ba [.slice none 0 0]
 ng:bg≠hb∧br≠hb∧ba≠hb
 nb:∀b∈bs,bg≠b.1∧br≠b.1∧ba≠b.1
 gb:h0.next≤bg∧h0.next≤br∧h0.next≤ba
section
variable{D:FD}{gen:Nat}(hg:D.bh gen){h0 h h':AH}{g:Addr}{fl hb bg br ba:Nat}{bs:List (Nat×Nat)}{rows:List (List (El D))}
theorem ES.len(p:ES h0 h g hb bs rows bg br ba):bs.length=rows.length:=by have:=p.mx.len;simpa using this
theorem ES.quiet(p:ES h0 h g hb bs rows bg br ba)(q:an h h'):ES h0 h' g hb bs rows bg br ba:=
 ⟨p.q.trans q,p.mx.quiet q,p.og.quiet q,p.orr.quiet q,p.oa.quiet q,p.ng,p.nb,p.gb⟩
structure For{D:FD}(h0:AH)(hb:Nat)(bs:List (Nat×Nat))(bg br ba c:Nat):Prop where
 n0:h0.next≤c
 hd:c≠hb
 row:∀b∈bs,c≠b.1
 g:c≠bg
 r:c≠br
 a:c≠ba
theorem ES.J6(p:ES h0 h g hb bs rows bg br ba){c o:Nat}{t:Option Nat}(f:For (D:=D) h0 hb bs bg br ba c)(q:kg (some ⟨c,o,t⟩) h h'):ES h0 h' g hb bs rows bg br ba:=
 ⟨q.quiet p.q (fun a ha=>by cases ha;exact f.n0),p.mx.J6 q f.hd f.row,q.ob p.og (fun a ha=>by cases ha;exact f.g),q.ob p.orr (fun a ha=>by cases ha;exact f.r),q.ob p.oa (fun a ha=>by cases ha;exact f.a),p.ng,p.nb,p.gb⟩
theorem ES.fresh(p:ES h0 h g hb bs rows bg br ba):For (D:=D) h0 hb bs bg br ba h.next:=
 ⟨p.q.1,fun e=>by have:=p.mx.YD.1;omega,fun b xz e=>by
   obtain⟨j,hj,rfl⟩:=List.getElem_of_mem xz
   have:=(p.mx.row j hj (by rw[←p.mx.len];exact hj)).1;omega,fun e=>by have:=p.og.1;omega,fun e=>by have:=p.orr.1;omega,fun e=>by have:=p.oa.1;omega⟩
theorem ES.cell(p:ES h0 h g hb bs rows bg br ba){i:Nat}(hi:i<rows.length):h.cell hb (0+i)=some (hv (bs[i]'(by rw[p.len];exact hi)) (vl rows[i])):=by
 rw[Nat.zero_add,p.mx.cell (i:=i) (by simpa using hi)];simp
theorem ES.axf(p:ES h0 h g hb bs rows bg br ba){i:Nat}(hi:i<rows.length):OB h (bs[i]'(by rw[p.len];exact hi)).1 (iv (vl rows[i])):=by
 have:=p.mx.row i (by rw[p.len];exact hi) (by simpa using hi)
 simpa using this
def hJ(br ba:Nat):Value:=.func (.func fn.fO) ⟨[]⟩ ⟨[.pointer (some ⟨br,0,none⟩),.pointer (some ⟨ba,0,none⟩)]⟩
theorem VV{R:Type}{n:Nat}{s:Sl}{fid:Nat}{aQO:List Value}(o1:OB h br [.slice s.a s.l s.c])(o2:OB h' ba [.slice none 0 0])(hs:M fl fid ([.slice s.a s.l s.c]++aQO) h=some (.tuple ⟨[]⟩,h'))(K:Value→AH→Option R):
 mh M fl (hJ br ba) [.func (.func fid) ⟨[]⟩ ⟨aQO⟩] h K=K (.tuple ⟨[]⟩) h':=by
 have:M fl fn.fO [.func (.func fid) ⟨[]⟩ ⟨aQO⟩,.pointer (some ⟨br,0,none⟩),.pointer (some ⟨ba,0,none⟩)] h=some (.tuple ⟨[]⟩,h'):=by
  refine bF (k:=1) (by decide) JC ?_
  rw[Gn]
  unfold fO aEF
  dsimp only
  rw[aq (s:=s) (o1.cell rfl)]
  unfold mh
  simp only[List.nil_append]
  rw[hs]
  simp only[aE,aM]
  rw[aq (s:=⟨none,0,0⟩) (o2.cell rfl),if_neg (by simp)]
 unfold mh hJ
 simp only[List.nil_append,List.singleton_append]
 rw[this]
theorem aMP(rows:List (List (El D))){i k:Nat}(hi:i<rows.length)(hk:k<rows.length):(Fld.IS rows i k).map vl=((rows.map vl).set i (vl rows[k])).set k (vl rows[i]):=by
 unfold Fld.IS
 rw[List.map_set,List.map_set,List.getD_eq_getElem?_getD,List.getElem?_eq_getElem hk,List.getD_eq_getElem?_getD,List.getElem?_eq_getElem hi]
 rfl
theorem azE(p:ES h0 h g hb bs rows bg br ba){b1 b2 i k:Nat}(o1:OB h b1 [.int .i64 (i:Int)])(o2:OB h b2 [.int .i64 (k:Int)])(n1:b1≠hb)(n2:b2≠hb)(hi:i<rows.length)(hk:k<rows.length)(bR:fl≤h0.next):
 ∃h' bs',M fl fn.bX [.slice (some ⟨hb,0,none⟩) rows.length rows.length,.pointer (some ⟨b2,0,none⟩),.pointer (some ⟨b1,0,none⟩)] h=some (.tuple ⟨[]⟩,h')∧
  ES h0 h' g hb bs' (Fld.IS rows i k) bg br ba∧kg (some ⟨hb,0,none⟩) h h'∧(∀b∈bs',b∈bs):=by
 have hib:i<bs.length:=by rw[p.len];exact hi
 have hkb:k<bs.length:=by rw[p.len];exact hk
 have hsw:=p.mx.swap (i:=i) (k:=k) (by simpa using hi) (by simpa using hk)
 simp only[List.getElem_map] at hsw
 have hgh:=p.mx.gh
 obtain⟨H1,hH1⟩:∃H1,H1=h.put hb (some ((List.zipWith hv bs (rows.map vl)++[]).set i (hv bs[k] (vl rows[k])))):=⟨_,rfl⟩
 obtain⟨H2,hH2⟩:∃H2,H2=H1.put hb (some (((List.zipWith hv bs (rows.map vl)++[]).set i (hv bs[k] (vl rows[k]))).set k (hv bs[i] (vl rows[i])))):=⟨_,rfl⟩
 rw[←hH1,←hH2] at hsw
 have Iv:kg (some ⟨hb,0,none⟩) h H1:=by rw[hH1];exact kg.put _
 have nY:kg (some ⟨hb,0,none⟩) H1 H2:=by rw[hH2];exact kg.put _
 have V2:=Iv.trans nY
 have apU:∀b∈(bs.set i bs[k]).set k bs[i],b∈bs:=by
  intro b xz
  rcases List.mem_or_eq_of_mem_set xz with h3|rfl
  ·rcases List.mem_or_eq_of_mem_set h3 with h4|rfl
   ·exact h4
   ·exact List.getElem_mem hkb
  ·exact List.getElem_mem hib
 refine⟨H2,(bs.set i bs[k]).set k bs[i],aQf ?_,⟨V2.quiet p.q (fun a ha=>by cases ha;exact hgh),by rw[aMP rows hi hk];exact hsw,V2.ob p.og (fun a ha=>by cases ha;exact p.ng.1.symm),?_,V2.ob p.oa (fun a ha=>by cases ha;exact p.ng.2.2.symm),p.ng,fun b xz=>p.nb b (apU b xz),p.gb⟩,V2,apU⟩
 ·unfold swE
  have e1:Nat.beq fn.bX fn.bX=true:=rfl
  rw[e1]
  simp only[cond_true]
  have e2:(Nat.beq hb b2||Nat.beq hb b1)=false:=by
   have q1:Nat.beq hb b2=false:=by cases hq:Nat.beq hb b2 with|false=>rfl|true=>exact absurd (Nat.eq_of_beq_eq_true hq).symm n2
   have q2:Nat.beq hb b1=false:=by cases hq:Nat.beq hb b1 with|false=>rfl|true=>exact absurd (Nat.eq_of_beq_eq_true hq).symm n1
   rw[q1,q2];rfl
  rw[e2]
  simp only[cond_false]
  refine(aQl ..).trans ?_
  have ci:=p.cell hi
  have ck:=p.cell hk
  rw[ae (o1.cell rfl),ae (o2.cell rfl),ae (o2.cell rfl),bC rfl (show k<rows.length from hk)]
  dsimp only
  rw[aq (s:=⟨some ⟨(bs[k]).1,0,none⟩,(vl rows[k]).length,(bs[k]).2⟩) ck,ae (o1.cell rfl),bC rfl (show i<rows.length from hi)]
  dsimp only
  rw[aq (s:=⟨some ⟨(bs[i]).1,0,none⟩,(vl rows[i]).length,(bs[i]).2⟩) ci,bC rfl (show i<rows.length from hi),p.mx.YD.st (by omega) (by simp[p.len];omega) rfl,bC rfl (show k<rows.length from hk)]
  have e3:(List.zipWith hv bs (rows.map vl)++[]).set (0+i) (.slice (some ⟨(bs[k]).1,0,none⟩) (vl rows[k]).length (bs[k]).2)=(List.zipWith hv bs (rows.map vl)++[]).set i (hv bs[k] (vl rows[k])):=by rw[Nat.zero_add];rfl
  rw[e3,←hH1]
  have ho1:OB H1 hb ((List.zipWith hv bs (rows.map vl)++[]).set i (hv bs[k] (vl rows[k]))):=by rw[hH1];exact p.mx.YD.put _
  rw[ho1.st (by omega) (by simp[p.len];omega) rfl]
  have e4:((List.zipWith hv bs (rows.map vl)++[]).set i (hv bs[k] (vl rows[k]))).set (0+k) (.slice (some ⟨(bs[i]).1,0,none⟩) (vl rows[i]).length (bs[i]).2)=((List.zipWith hv bs (rows.map vl)++[]).set i (hv bs[k] (vl rows[k]))).set k (hv bs[i] (vl rows[i])):=by rw[Nat.zero_add];rfl
  rw[e4,←hH2]
 ·have e5:(Fld.IS rows i k).length=rows.length:=Fld.oW ..
  rw[e5]
  exact V2.ob p.orr (fun a ha=>by cases ha;exact p.ng.2.1.symm)
theorem azF(gf:GF h0 g D gen)(p:ES h0 h g hb bs rows bg br ba){b1 b2 i:Nat}(a:El D)(o1:OB h b1 [.int .i64 (i:Int)])(o2:OB h b2 [.int .i64 (ve a)])(hi:i<rows.length)(bR:fl≤h0.next)(hw:rows[i].length≤65536):
 ∃h' bs',M fl fn.fP [.slice (some ⟨hb,0,none⟩) rows.length rows.length,.pointer (some ⟨bg,0,none⟩),.pointer (some ⟨b2,0,none⟩),.pointer (some ⟨b1,0,none⟩)] h=some (.tuple ⟨[]⟩,h')∧
  ES h0 h' g hb bs' (rows.set i ((FD.aR hg).yN a rows[i])) bg br ba∧kg (some ⟨hb,0,none⟩) h h'∧(∀b∈bs',b∈bs∨h.next≤b.1):=by
 have hib:i<bs.length:=by rw[p.len];exact hi
 have hrow:=p.axf hi
 have hsi:=hrow.si none (bs[i]).2
 obtain⟨h1,s1,s2,s3⟩:=asi (fl:=h.next) hg (gf.quiet p.q) a hsi hw (Nat.le_refl _)
 have p1:=p.quiet s3
 have hf:=p.fresh
 have nV:=p1.mx.setRow (i:=i) (nb:=h.next) (cp:=rows[i].length) (r:=vl ((FD.aR hg).yN a rows[i])) (by simpa using hi) s2 p.q.1 hf.hd hf.row
 obtain⟨H1,hH1⟩:∃H1,H1=h1.put hb (some ((List.zipWith hv bs (rows.map vl)++[]).set i (hv (h.next,rows[i].length) (vl ((FD.aR hg).yN a rows[i]))))):=⟨_,rfl⟩
 rw[←hH1] at nV
 have Iv:kg (some ⟨hb,0,none⟩) h H1:=(kg.ab4 s3).trans (by rw[hH1];exact kg.put _)
 have apU:∀b∈bs.set i (h.next,rows[i].length),b∈bs∨h.next≤b.1:=by
  intro b xz
  rcases List.mem_or_eq_of_mem_set xz with h3|rfl
  ·exact .inl h3
  ·exact .inr (Nat.le_refl _)
 refine⟨H1,bs.set i (h.next,rows[i].length),bF (k:=1) (by decide) JD ?_,⟨Iv.quiet p.q (fun a ha=>by cases ha;exact p.mx.gh),?_,Iv.ob p.og (fun a ha=>by cases ha;exact p.ng.1.symm),?_,Iv.ob p.oa (fun a ha=>by cases ha;exact p.ng.2.2.symm),p.ng,?_,p.gb⟩,Iv,apU⟩
 ·rw[Gp (p0:=⟨some ⟨hb,0,none⟩,rows.length,rows.length⟩)]
  unfold fP aEH
  dsimp only
  rw[ae (o1.cell rfl),CE (p.og.cell rfl),ae (o2.cell rfl),ae (o1.cell rfl),bC rfl (show i<rows.length from hi)]
  dsimp only
  have e0:(vl rows[i]).length=rows[i].length:=by simp
  rw[aq (s:=⟨some ⟨(bs[i]).1,0,none⟩,(vl rows[i]).length,(bs[i]).2⟩) (p.cell hi),ak s1]
  simp only[aX]
  rw[bC rfl (show i<rows.length from hi),p1.mx.YD.st (by have:=p.mx.gh;omega) (by simp[p.len];omega) rfl]
  have e3:(List.zipWith hv bs (rows.map vl)++[]).set (0+i) (.slice (some ⟨h.next,0,none⟩) rows[i].length rows[i].length)=(List.zipWith hv bs (rows.map vl)++[]).set i (hv (h.next,rows[i].length) (vl ((FD.aR hg).yN a rows[i]))):=by
   rw[Nat.zero_add];simp[hv,Fld.ig]
  rw[e3,←hH1]
 ·rw[List.map_set];exact nV
 ·rw[List.length_set]
  exact Iv.ob p.orr (fun a ha=>by cases ha;exact p.ng.2.1.symm)
 ·intro b xz
  rcases List.mem_or_eq_of_mem_set xz with h3|rfl
  ·exact p.nb b h3
  ·exact⟨fun e=>hf.g e.symm,fun e=>hf.r e.symm,fun e=>hf.a e.symm⟩
theorem azG(gf:GF h0 g D gen)(p:ES h0 h g hb bs rows bg br ba){b1 b2 b3 i j:Nat}(x:El D)(o1:OB h b1 [.int .i64 (i:Int)])(o2:OB h b2 [.int .i64 (j:Int)])(o3:OB h b3 [.int .i64 (ve x)])(hi:i<rows.length)(hj:j<rows.length)(hij:j≠i)(bR:fl≤h0.next)
 (hw:rows[i].length≤65536) (hl:rows[j].length=rows[i].length):
 ∃h',M fl fn.fQ [.slice (some ⟨hb,0,none⟩) rows.length rows.length,.pointer (some ⟨bg,0,none⟩),.pointer (some ⟨b2,0,none⟩),.pointer (some ⟨b3,0,none⟩),.pointer (some ⟨b1,0,none⟩)] h=some (.tuple ⟨[]⟩,h')∧
  ES h0 h' g hb bs (rows.set j ((FD.aR hg).cy rows[j] ((FD.aR hg).neg x) rows[i])) bg br ba∧kg (some ⟨(bs[j]'(by rw[p.len];exact hj)).1,0,none⟩) h h':=by
 have hib:i<bs.length:=by rw[p.len];exact hi
 have hjb:j<bs.length:=by rw[p.len];exact hj
 have hri:=p.axf hi
 have hrj:=p.axf hj
 have hbj:=p.mx.ge _ (List.getElem_mem hjb)
 have hnj:=p.nb _ (List.getElem_mem hjb)
 have hgh:=gf.quiet p.q
 obtain⟨h',a1,a2,a3⟩:=azD (fl:=fl) (cp:=(bs[j]).2) (tu:=⟨some ⟨(bs[i]).1,0,none⟩,(vl rows[i]).length,(bs[i]).2⟩) hg hgh ((FD.aR hg).neg x) hrj (hri.si none (bs[i]).2) hl (fun q hq=>by cases hq;exact p.mx.ne hjb hib hij)
  (fun {h''} V2=>gf.quiet (V2.quiet p.q (fun a ha=>by cases ha;exact hbj.1))) hw (by omega)
 have hlen:((FD.aR hg).cy rows[j] ((FD.aR hg).neg x) rows[i]).length=rows[j].length:=Fld.cg _ _ _ _ hl
 refine⟨h',bF (k:=1) (by decide) JE ?_,⟨a3.quiet p.q (fun a ha=>by cases ha;exact hbj.1),?_,a3.ob p.og (fun a ha=>by cases ha;exact hnj.1.symm),?_,a3.ob p.oa (fun a ha=>by cases ha;exact hnj.2.2.symm),p.ng,p.nb,p.gb⟩,a3⟩
 ·rw[Gq (p0:=⟨some ⟨hb,0,none⟩,rows.length,rows.length⟩)]
  unfold fQ aEJ
  dsimp only
  rw[CE (p.og.cell rfl),ae (o2.cell rfl),bC rfl (show j<rows.length from hj)]
  dsimp only
  rw[aq (s:=⟨some ⟨(bs[j]).1,0,none⟩,(vl rows[j]).length,(bs[j]).2⟩) (p.cell hj),CE (p.og.cell rfl),ae (o3.cell rfl),ak (aTn hg hgh x)]
  simp only[asInt,if_true]
  rw[ae (o1.cell rfl),bC rfl (show i<rows.length from hi)]
  dsimp only
  rw[aq (s:=⟨some ⟨(bs[i]).1,0,none⟩,(vl rows[i]).length,(bs[i]).2⟩) (p.cell hi)]
  have e0:(vl rows[j]).length=rows[i].length:=by simp[hl]
  try dsimp only
  rw[e0,ak a1]
  rfl
 ·rw[List.map_set]
  refine p.mx.upd (i:=j) (by simpa using hj) (by simp[hlen]) a2 a3
 ·rw[List.length_set]
  exact a3.ob p.orr (fun a ha=>by cases ha;exact hnj.2.1.symm)
end
end Go.Abs.P
end
section
namespace Go.Abs
theorem GI{fl:Nat}{h:AH}(v0 v:Value)(bR:fl≤h.next)(hv:De v=true):∃h2,(∀{R:Type} (K:Nat→AH→Option R),(bJ h [v0] fun b h1=>st fl h1 ⟨b,0,none⟩ [v] fun h2=>K b h2)=K h.next h2)∧OB h2 h.next [v]∧an h h2:=by
 have o:=OB.alloc h [v0]
 refine⟨(h.alloc [v0]).put h.next (some [v]),fun K=>?_,o.put _,(an.alloc ..).put (Nat.le_refl _) _⟩
 show st fl (h.alloc [v0]) ⟨h.next,0,none⟩ [v] _=_
 rw[o.st bR (by simp) hv];rfl
end Go.Abs
namespace Go.Fld.Fld
variable{α:Type}(F:Fld α)
def jG(rows:List (List α))(p c i:Nat):List (List α):=rows.mapIdx fun j r=>if j=p∨¬j<i then r else F.cy r (F.neg (r.getD c F.zero)) (rows.getD p [])
theorem JJ(rows:List (List α))(p c i:Nat):(F.jG rows p c i).length=rows.length:=by simp[jG]
theorem ahj(rows:List (List α))(p c:Nat):F.jG rows p c 0=rows:=by
 apply List.ext_getElem (by simp[jG])
 intro j h1 h2
 simp[jG]
theorem apt(rows:List (List α))(p c:Nat):F.jG rows p c rows.length=F.clr rows p c:=by
 apply List.ext_getElem (by simp[jG,clr])
 intro j h1 h2
 have hj:j<rows.length:=by simpa [jG] using h1
 have hn:¬rows.length≤j:=by omega
 simp[jG,clr,hn]
theorem JK(rows:List (List α))(p c i:Nat){j:Nat}(hj:j<rows.length)(h:j=p∨i≤j):(F.jG rows p c i)[j]'(by rw[JJ];exact hj)=rows[j]:=by
 simp only[jG,List.getElem_mapIdx]
 rw[if_pos (by omega)]
theorem Lf(rows:List (List α))(p c i:Nat)(h:i=p∨∃hi:i<rows.length,rows[i].getD c F.zero=F.zero∧(rows[i]).length=(rows.getD p []).length):F.jG rows p c (i+1)=F.jG rows p c i:=by
 apply List.ext_getElem (by simp[jG])
 intro j h1 h2
 simp only[jG,List.getElem_mapIdx]
 by_cases e:j=i
 ·subst e
  rcases h with rfl|⟨hi,hz,hl⟩
  ·simp
  ·by_cases hp:j=p
   ·subst hp;simp
   ·rw[if_neg (by omega),if_pos (by omega),hz,F.neg_zero,F.J4 _ _ hl]
 ·by_cases hp:j=p
  ·rw[if_pos (.inl hp),if_pos (.inl hp)]
  ·by_cases hj:j<i
   ·rw[if_neg (by omega),if_neg (by omega)]
   ·rw[if_pos (by omega),if_pos (by omega)]
theorem apu(rows:List (List α))(p c i:Nat)(hi:i<rows.length)(hp:i≠p):(F.jG rows p c i).set i (F.cy rows[i] (F.neg (rows[i].getD c F.zero)) (rows.getD p []))=F.jG rows p c (i+1):=by
 apply List.ext_getElem (by simp[jG])
 intro j h1 h2
 rw[List.getElem_set]
 by_cases e:i=j
 ·subst e
  rw[if_pos rfl]
  simp only[jG,List.getElem_mapIdx]
  rw[if_neg (by omega)]
 ·rw[if_neg e]
  simp only[jG,List.getElem_mapIdx]
  by_cases hj:j=p
  ·rw[if_pos (.inl hj),if_pos (.inl hj)]
  ·by_cases hlt:j<i
   ·rw[if_neg (by omega),if_neg (by omega)]
   ·rw[if_pos (by omega),if_pos (by omega)]
theorem aFp(rows:List (List α)){i:Nat}(hi:i<rows.length):IS rows i i=rows:=by
 unfold IS
 rw[List.set_set,List.getD_eq_getElem?_getD,List.getElem?_eq_getElem hi,Option.getD_some,List.set_getElem_self]
theorem zD{rows:List (List α)}{i:Nat}(hi:i<rows.length):rows.getD i []=rows[i]:=by rw[List.getD_eq_getElem?_getD,List.getElem?_eq_getElem hi];rfl
theorem akE{rows:List (List α)}{i c:Nat}(hi:i<rows.length)(hc:c<rows[i].length):F.YL rows i c=rows[i][c]:=by
 unfold YL
 rw[zD hi,List.getD_eq_getElem?_getD,List.getElem?_eq_getElem hc];rfl
end Go.Fld.Fld
namespace Go.Abs.P
open Go.Abs Go.Fld
structure PV{D:FD}(h0 h:AH)(hb:Nat)(bs:List (Nat×Nat))(bg br ba:Nat)(s:Sl)(ps:List Nat):Prop where
 ov:OV h0.next h s (iv (ints ps))
 fo:∀a,s.a=some a→For (D:=D) h0 hb bs bg br ba a.block
section
variable{D:FD}{gen:Nat}(hg:D.bh gen){h0 h h':AH}{g:Addr}{fl k hb bg br ba:Nat}{bs bs':List (Nat×Nat)}{rows:List (List (El D))}{pv:Sl}{ps:List Nat}
theorem OV.lt{n0 h s vs}(p:OV n0 h s vs):∀a,s.a=some a→a.block<h.next:=by
 rcases p with⟨rfl,rfl⟩|⟨b,c,_,h2,_,_,rfl,_⟩
 ·intro a h;cases h
 ·intro a h;cases h;exact h2
theorem PV.quiet(p:PV (D:=D) h0 h hb bs bg br ba pv ps)(q:an h h'):PV (D:=D) h0 h' hb bs bg br ba pv ps:=⟨p.ov.quiet q,p.fo⟩
theorem PV.J6(p:PV (D:=D) h0 h hb bs bg br ba pv ps){c o:Nat}{t:Option Nat}(q:kg (some ⟨c,o,t⟩) h h')(hc:∀a,pv.a=some a→c≠a.block):PV (D:=D) h0 h' hb bs bg br ba pv ps:=
 ⟨p.ov.aHb q.1 (fun a ha=>q.2 _ (OV.lt p.ov a ha) (fun b xz=>by cases xz;exact hc a ha)),p.fo⟩
theorem For.sub{c N:Nat}(f:For (D:=D) h0 hb bs bg br ba c)(hs:∀b∈bs',b∈bs∨N≤b.1)(hc:c<N):For (D:=D) h0 hb bs' bg br ba c:=
 ⟨f.n0,f.hd,fun b xz=>(hs b xz).elim (f.row b) (fun h=>by omega),f.g,f.r,f.a⟩
theorem PV.sub{N:Nat}(p:PV (D:=D) h0 h hb bs bg br ba pv ps)(hs:∀b∈bs',b∈bs∨N≤b.1)(hN:∀a,pv.a=some a→a.block<N):PV (D:=D) h0 h hb bs' bg br ba pv ps:=
 ⟨p.ov,fun a ha=>(p.fo a ha).sub hs (hN a ha)⟩
theorem ES.aeo(p:ES h0 h g hb bs rows bg br ba){R:Type}{i c:Nat}(hi:i<rows.length)(hc:c<rows[i].length)(K:Int→Option R):
 (idx 1 (⟨some ⟨hb,0,none⟩,rows.length,rows.length⟩:Sl) (i:Int) fun q=>aT h q.block q.off fun s2=>idx 1 s2 (c:Int) fun q2=>aF .i64 h q2.block q2.off K)=K (ve rows[i][c]):=by
 rw[bC rfl (show i<rows.length from hi)]
 dsimp only
 rw[aq (s:=⟨some ⟨(bs[i]'(by rw[p.len];exact hi)).1,0,none⟩,(vl rows[i]).length,(bs[i]'(by rw[p.len];exact hi)).2⟩) (p.cell hi),((p.axf hi).si none _).read (by omega) (by simp;exact hc)]
 simp only[Int.toNat_natCast,mQ]
theorem aFq{R:Type}(kn:bK R)(gf:GF h0 g D gen){w c p b1:Nat}{bB:List (List (El D))}(hw:Fld.jI w bB)(hc:c<w)(hw2:w≤65536)(hp:p<bB.length)(hn:bB.length≤65536)(bR:fl≤h0.next)(cols JN:Int)(hpb:∀a,pv.a=some a→a.block≠b1):
 ∀(d i f:Nat) (h:AH),i+d=bB.length→d<f→ES h0 h g hb bs ((FD.aR hg).jG bB p c i) bg br ba→PV (D:=D) h0 h hb bs bg br ba pv ps→OB h b1 [.int .i64 (p:Int)]→For (D:=D) h0 hb bs bg br ba b1→
 ∃h',bH M fl k kn f cols ⟨bg,0,none⟩ ⟨br,0,none⟩ JN (hJ br ba) pv (c:Int) ⟨b1,0,none⟩ (bB.length:Int) (i:Int) h=kn cols ⟨bg,0,none⟩ ⟨br,0,none⟩ JN (hJ br ba) pv (c:Int) h'∧
  ES h0 h' g hb bs ((FD.aR hg).clr bB p c) bg br ba∧PV (D:=D) h0 h' hb bs bg br ba pv ps∧an h0 h':=by
 intro d
 induction d with
 |zero=>
  intro i f h hi hf es pvh o1 f1
  obtain⟨f,rfl⟩:∃j,f=j+1:=⟨f-1,by omega⟩
  obtain rfl:i=bB.length:=by omega
  rw[Fld.apt] at es
  refine⟨h,?_,es,pvh,es.q⟩
  show cB M fl k _ _ _ _ _ _ _ _ _ _ _ _ h=_
  unfold cB dv
  rw[if_neg (by simp)]
 |succ d ih=>
  intro i f h hi hf es pvh o1 f1
  obtain⟨f,rfl⟩:∃j,f=j+1:=⟨f-1,by omega⟩
  have qC:i<bB.length:=by omega
  have hlen:((FD.aR hg).jG bB p c i).length=bB.length:=Fld.JJ ..
  have hwi:bB[i].length=w:=hw _ (List.getElem_mem qC)
  have hn0:=es.q.1
  obtain⟨h1,k1,ob1,q1⟩:=GI (fl:=fl) (h:=h) (.int .i64 0) (.int .i64 (i:Int)) (by omega) rfl
  have es1:=es.quiet q1
  have hci:c<((FD.aR hg).jG bB p c i)[i].length:=by rw[Fld.JK _ _ _ _ _ qC (.inr (Nat.le_refl _))];omega
  have hrow:((FD.aR hg).jG bB p c i)[i]'(by omega)=bB[i]:=Fld.JK _ _ _ _ _ qC (.inr (Nat.le_refl _))
  have ap6:bB[i].getD c (FD.aR hg).zero=bB[i][c]:=by rw[List.getD_eq_getElem?_getD,List.getElem?_eq_getElem (by omega)];rfl
  obtain⟨h2,k2,ob2,q2⟩:=GI (fl:=fl) (h:=h1) (.int .i64 0) (.int .i64 (ve bB[i][c])) (by have:=q1.1;omega) rfl
  have es2:=es1.quiet q2
  have pv2:=(pvh.quiet q1).quiet q2
  have Db:=(o1.quiet q1).quiet q2
  have aVe:=ob1.quiet q2
  have un:bH M fl k kn (f+1) cols ⟨bg,0,none⟩ ⟨br,0,none⟩ JN (hJ br ba) pv (c:Int) ⟨b1,0,none⟩ (bB.length:Int) (i:Int) h=
   (if ((i:Int) !=(p:Int))=true then if (ve bB[i][c] !=0)=true then mh M fl (hJ br ba) [.func (.func fn.fQ) ⟨[]⟩ ⟨[.pointer (some ⟨bg,0,none⟩),.pointer (some ⟨h.next,0,none⟩),.pointer (some ⟨h1.next,0,none⟩),.pointer (some ⟨b1,0,none⟩)]⟩] h2 fun v20 yL=>aE v20 fun l22=>aM l22 (bM M fl k (bH M fl k kn f) kn cols ⟨bg,0,none⟩ ⟨br,0,none⟩ JN (hJ br ba) pv (c:Int) ⟨b1,0,none⟩ (bB.length:Int) (i:Int) yL)
    else bM M fl k (bH M fl k kn f) kn cols ⟨bg,0,none⟩ ⟨br,0,none⟩ JN (hJ br ba) pv (c:Int) ⟨b1,0,none⟩ (bB.length:Int) (i:Int) h2
    else bM M fl k (bH M fl k kn f) kn cols ⟨bg,0,none⟩ ⟨br,0,none⟩ JN (hJ br ba) pv (c:Int) ⟨b1,0,none⟩ (bB.length:Int) (i:Int) h2):=by
   show cB M fl k _ _ _ _ _ _ _ _ _ _ _ _ h=_
   unfold cB dv
   rw[if_pos (by simp;omega),k1]
   dsimp only
   have hr:=es1.aeo (R:=R) (i:=i) (c:=c) (by omega) hci
   simp only[hrow] at hr
   rw[aq (s:=⟨some ⟨hb,0,none⟩,((FD.aR hg).jG bB p c i).length,((FD.aR hg).jG bB p c i).length⟩) (es1.orr.cell rfl),ae (ob1.cell rfl),hr,k2,ae (aVe.cell rfl),ae (Db.cell rfl),ae (ob2.cell rfl)]
  rw[un]
  have same:∀(aqe:(FD.aR hg).jG bB p c (i+1)=(FD.aR hg).jG bB p c i),∃h',bM M fl k (bH M fl k kn f) kn cols ⟨bg,0,none⟩ ⟨br,0,none⟩ JN (hJ br ba) pv (c:Int) ⟨b1,0,none⟩ (bB.length:Int) (i:Int) h2=kn cols ⟨bg,0,none⟩ ⟨br,0,none⟩ JN (hJ br ba) pv (c:Int) h'∧
   ES h0 h' g hb bs ((FD.aR hg).clr bB p c) bg br ba∧PV (D:=D) h0 h' hb bs bg br ba pv ps∧an h0 h':=by
   intro aqe
   unfold bM
   rw[aH (i+1) (by push_cast;rfl) (by omega)]
   exact ih (i+1) f h2 (by omega) (by omega) (by rw[aqe];exact es2) pv2 Db f1
  by_cases c1:i=p
  ·rw[if_neg (by simp[c1])]
   exact same (Fld.Lf _ _ _ _ _ (.inl c1))
  ·rw[if_pos (by simp;omega)]
   by_cases c2:bB[i][c]=(FD.aR hg).zero
   ·rw[if_neg (by simp[(j0 hg _).2 c2])]
    refine same (Fld.Lf _ _ _ _ _ (.inr ⟨qC,by rw[ap6];exact c2,?_⟩))
    rw[Fld.zD hp,hwi,hw _ (List.getElem_mem hp)]
   ·rw[if_pos (by simp;exact fun e=>c2 ((j0 hg _).1 e))]
    have hpr:((FD.aR hg).jG bB p c i)[p]'(by omega)=bB[p]:=Fld.JK _ _ _ _ _ hp (.inl rfl)
    have f1b:=f1
    obtain⟨h3,s1,s2,s3⟩:=azG (fl:=fl) hg gf es2 (i:=p) (j:=i) bB[i][c] Db aVe ob2 (by omega) (by omega) c1 bR (by rw[hpr,hw _ (List.getElem_mem hp)];exact hw2) (by rw[hpr,hrow,hwi,hw _ (List.getElem_mem hp)])
    rw[hrow,hpr] at s2
    have e1:((FD.aR hg).jG bB p c i).set i ((FD.aR hg).cy bB[i] ((FD.aR hg).neg bB[i][c]) bB[p])=(FD.aR hg).jG bB p c (i+1):=by
     rw[←Fld.apu _ _ _ _ _ qC c1,ap6,Fld.zD hp]
    rw[e1] at s2
    have hbi:i<bs.length:=by rw[es2.len];omega
    have pv3:=pv2.J6 s3 (fun a ha e=>(pv2.fo a ha).row _ (List.getElem_mem hbi) e.symm)
    have akT:=s3.ob Db (fun a ha=>by cases ha;exact fun e=>f1.row _ (List.getElem_mem hbi) e.symm)
    obtain⟨h',e1',e2'⟩:=ih (i+1) f h3 (by omega) (by omega) s2 pv3 akT f1
    refine⟨h',?_,e2'⟩
    have hl2:bB.length=((FD.aR hg).jG bB p c i).length:=hlen.symm
    rw[VV (s:=⟨some ⟨hb,0,none⟩,((FD.aR hg).jG bB p c i).length,((FD.aR hg).jG bB p c i).length⟩) (n:=0) es2.orr s2.oa s1]
    simp only[aE,aM]
    unfold bM
    rw[aH (i+1) (by push_cast;rfl) (by omega)]
    exact e1'
theorem azH{R:Type}(kn:wL R){hB:AH}{w c b1 b2:Nat}(hw:Fld.jI w rows)(hc:c<w)(esB:∀{h:AH},kg (some ⟨b2,0,none⟩) hB h→ES h0 h g hb bs rows bg br ba)(bR:fl≤b2)(hn:rows.length≤65536)(cols JN:Int):
 ∀(d i f:Nat) (h:AH),i+d=rows.length→d<f→OB h b2 [.int .i64 (i:Int)]→kg (some ⟨b2,0,none⟩) hB h→
 ∃h',dO M fl k kn f cols ⟨bg,0,none⟩ ⟨br,0,none⟩ JN (hJ br ba) pv (c:Int) ⟨b1,0,none⟩ ⟨b2,0,none⟩ h=kn cols ⟨bg,0,none⟩ ⟨br,0,none⟩ JN (hJ br ba) pv (c:Int) ⟨b1,0,none⟩ ⟨b2,0,none⟩ h'∧
  OB h' b2 [.int .i64 ((((FD.aR hg).pick rows c d i).getD rows.length:Nat):Int)]∧kg (some ⟨b2,0,none⟩) hB h':=by
 intro d
 induction d with
 |zero=>
  intro i f h hi hf ob V2
  obtain⟨f,rfl⟩:∃j,f=j+1:=⟨f-1,by omega⟩
  obtain rfl:i=rows.length:=by omega
  have es:=esB V2
  refine⟨h,?_,ob,V2⟩
  show fp M fl k _ _ _ _ _ _ _ _ _ _ _ h=_
  unfold fp
  dsimp only
  rw[ae (ob.cell rfl),aq (s:=⟨some ⟨hb,0,none⟩,rows.length,rows.length⟩) (es.orr.cell rfl),if_neg (by simp)]
 |succ d ih=>
  intro i f h hi hf ob V2
  obtain⟨f,rfl⟩:∃j,f=j+1:=⟨f-1,by omega⟩
  have es:=esB V2
  have qC:i<rows.length:=by omega
  have hci:c<rows[i].length:=by rw[hw _ (List.getElem_mem qC)];exact hc
  have aew:(FD.aR hg).YL rows i c=rows[i][c]:=Fld.akE _ qC hci
  have hr:=es.aeo (R:=R) qC hci
  have un:dO M fl k kn (f+1) cols ⟨bg,0,none⟩ ⟨br,0,none⟩ JN (hJ br ba) pv (c:Int) ⟨b1,0,none⟩ ⟨b2,0,none⟩ h=
   if (ve rows[i][c]==0)=true then dO M fl k kn f cols ⟨bg,0,none⟩ ⟨br,0,none⟩ JN (hJ br ba) pv (c:Int) ⟨b1,0,none⟩ ⟨b2,0,none⟩ (h.put b2 (some [.int .i64 ((i+1:Nat):Int)])) else kn cols ⟨bg,0,none⟩ ⟨br,0,none⟩ JN (hJ br ba) pv (c:Int) ⟨b1,0,none⟩ ⟨b2,0,none⟩ h:=by
   show fp M fl k _ _ _ _ _ _ _ _ _ _ _ h=_
   unfold fp
   dsimp only
   rw[ae (ob.cell rfl),aq (s:=⟨some ⟨hb,0,none⟩,rows.length,rows.length⟩) (es.orr.cell rfl),if_pos (by simp;omega)]
   rw[aq (s:=⟨some ⟨hb,0,none⟩,rows.length,rows.length⟩) (es.orr.cell rfl),ae (ob.cell rfl)]
   rw[hr,ae (ob.cell rfl),ob.st bR (by simp) rfl,aH (i+1) (by push_cast;rfl) (by omega)]
   rfl
  rw[un]
  by_cases hz:rows[i][c]=(FD.aR hg).zero
  ·have hp:(FD.aR hg).pick rows c (d+1) i=(FD.aR hg).pick rows c d (i+1):=by
    conv=>lhs;unfold Fld.pick
    split
    ·rfl
    ·rename_i lZ _;exact absurd (aew.trans hz) lZ
   rw[if_pos (by simp[(j0 hg _).2 hz]),hp]
   exact ih (i+1) f _ (by omega) (by omega) (ob.put _) (V2.trans (kg.put _))
  ·have hp:(FD.aR hg).pick rows c (d+1) i=some i:=by
    unfold Fld.pick
    split
    ·rename_i he _;exact absurd (aew.symm.trans he) hz
    ·rfl
   rw[if_neg (by simp;exact fun e=>hz ((j0 hg _).1 e)),hp]
   exact⟨h,rfl,ob,V2⟩
end
end Go.Abs.P
end
section
namespace Go.Abs.P
open Go.Abs Go.Fld
section
variable{D:FD}{gen:Nat}(hg:D.bh gen){h0 h h':AH}{g:Addr}{fl k hb bg br ba:Nat}{bs bs':List (Nat×Nat)}{rows:List (List (El D))}{pv:Sl}{ps:List Nat}
theorem ES.aTo(p:ES h0 h g hb bs rows bg br ba){c:Nat}(hc:h.next≤c):For (D:=D) h0 hb bs bg br ba c:=by
 have h1:=p.q.1
 have h2:=p.mx.YD.1
 have h3:=p.og.1
 have h4:=p.orr.1
 have h5:=p.oa.1
 refine⟨by omega,by omega,fun b xz e=>?_,by omega,by omega,by omega⟩
 obtain⟨j,hj,rfl⟩:=List.getElem_of_mem xz
 have:=(p.mx.row j hj (by rw[←p.mx.len];exact hj)).1
 omega
theorem ES.aX1(p:ES h0 h g hb bs rows bg br ba){x:Option Addr}(q:kg x h h')(f:∀a,x=some a→For (D:=D) h0 hb bs bg br ba a.block):ES h0 h' g hb bs rows bg br ba:=by
 cases x with
 |none=>exact p.quiet ⟨q.1,fun b xz=>q.2 b xz (fun a ha=>by cases ha)⟩
 |some a=>
  obtain⟨b,o,t⟩:=a
  exact p.J6 (f _ rfl) q
theorem aFr{R:Type}(kn:bK R)(gf:GF h0 g D gen){w c b1 b2 K:Nat}(hw:Fld.jI w rows)(hc:c<w)(hw2:w≤65536)(hn:rows.length≤65536)(bR:fl≤h0.next)(cols:Int)(JN:El D)
 (es:ES h0 h g hb bs rows bg br ba) (pvh:PV (D:=D) h0 h hb bs bg br ba pv ps) (o1:OB h b1 [.int .i64 (ps.length:Int)]) (f1:For (D:=D) h0 hb bs bg br ba b1) (o2:OB h b2 [.int .i64 (K:Int)]) (f2:For (D:=D) h0 hb bs bg br ba b2)
 (hp:ps.length<rows.length) (hK:ps.length≤K∧K<rows.length) (hz:(FD.aR hg).YL rows K c≠(FD.aR hg).zero) (hpb:∀a,pv.a=some a→a.block<b1) (Ql:ps.length≤65536) (hk:rows.length<k):
 ∃h' bs' HS JS,fm M fl k kn kn cols ⟨bg,0,none⟩ ⟨br,0,none⟩ (ve JN) (hJ br ba) pv (c:Int) ⟨b1,0,none⟩ ⟨b2,0,none⟩ h=kn cols ⟨bg,0,none⟩ ⟨br,0,none⟩ (ve (D:=D) JS) (hJ br ba) HS (c:Int) h'∧
  ES h0 h' g hb bs' ((FD.aR hg).gi rows ps.length K c) bg br ba∧PV (D:=D) h0 h' hb bs' bg br ba HS (ps++[c]):=by
 have n57:((K:Int)==(rows.length:Int))=false:=by simp;omega
 have tail:∀(ch:List (List (El D))) (bs6:List (Nat×Nat)) (h6:AH) (akM:El D),ch.length=rows.length→Fld.jI w ch→(FD.aR hg).YL ch ps.length c≠(FD.aR hg).zero→ES h0 h6 g hb bs6 ch bg br ba→PV (D:=D) h0 h6 hb bs6 bg br ba pv ps→
  OB h6 b1 [.int .i64 (ps.length:Int)]→For (D:=D) h0 hb bs6 bg br ba b1→
  ∃h' bs' HS JS,gN M fl k kn kn cols ⟨bg,0,none⟩ ⟨br,0,none⟩ (ve akM) (hJ br ba) pv (c:Int) ⟨b1,0,none⟩ h6=kn cols ⟨bg,0,none⟩ ⟨br,0,none⟩ (ve (D:=D) JS) (hJ br ba) HS (c:Int) h'∧
   ES h0 h' g hb bs' ((FD.aR hg).clr ((FD.aR hg).norm ch ps.length c) ps.length c) bg br ba∧PV (D:=D) h0 h' hb bs' bg br ba HS (ps++[c]):=by
  intro ch bs6 h6 akM hl6 hw6 hz6 es6 pv6 o6 f6
  have hp6:ps.length<ch.length:=by omega
  have hc6:c<ch[ps.length].length:=by rw[hw6 _ (List.getElem_mem hp6)];exact hc
  have aew:(FD.aR hg).YL ch ps.length c=ch[ps.length][c]:=Fld.akE _ hp6 hc6
  rw[aew] at hz6
  have hg6:=gf.quiet es6.q
  have hr:=@ES.aeo D h0 h6 g hb bg br ba bs6 ch es6 R ps.length c hp6 hc6
  obtain⟨h7,k7,ob7,q7⟩:=GI (fl:=fl) (h:=h6) (.int .i64 0) (.int .i64 (ve ((FD.aR hg).inv ch[ps.length][c]))) (by have:=es6.q.1;omega) rfl
  have es7:=es6.quiet q7
  have pv7:=pv6.quiet q7
  have o7:=o6.quiet q7
  have un:gN M fl k kn kn cols ⟨bg,0,none⟩ ⟨br,0,none⟩ (ve akM) (hJ br ba) pv (c:Int) ⟨b1,0,none⟩ h6=
   if (ve ((FD.aR hg).inv ch[ps.length][c]) !=1)=true then mh M fl (hJ br ba) [.func (.func fn.fP) ⟨[]⟩ ⟨[.pointer (some ⟨bg,0,none⟩),.pointer (some ⟨h6.next,0,none⟩),.pointer (some ⟨b1,0,none⟩)]⟩] h7 fun v54 h55=>aE v54 fun l56=>aM l56 (dT M fl k kn kn cols ⟨bg,0,none⟩ ⟨br,0,none⟩ (ve ((FD.aR hg).mul akM ch[ps.length][c])) (hJ br ba) pv (c:Int) ⟨b1,0,none⟩ h55)
   else dT M fl k kn kn cols ⟨bg,0,none⟩ ⟨br,0,none⟩ (ve ((FD.aR hg).mul akM ch[ps.length][c])) (hJ br ba) pv (c:Int) ⟨b1,0,none⟩ h7:=by
   unfold gN jo
   dsimp only
   rw[CE (es6.og.cell rfl),aq (s:=⟨some ⟨hb,0,none⟩,ch.length,ch.length⟩) (es6.orr.cell rfl),ae (o6.cell rfl),hr,ak (aMO hg hg6 akM _)]
   simp only[asInt,if_true]
   rw[CE (es6.og.cell rfl),aq (s:=⟨some ⟨hb,0,none⟩,ch.length,ch.length⟩) (es6.orr.cell rfl),ae (o6.cell rfl),hr,ak (aXZ hg hg6 _ hz6)]
   simp only[aE,ar,aM,asInt,if_true]
   rw[k7,if_pos (by rfl),ae (ob7.cell rfl)]
  have fin:∀(bs8:List (Nat×Nat)) (h8:AH) (d8:El D),ES h0 h8 g hb bs8 ((FD.aR hg).norm ch ps.length c) bg br ba→PV (D:=D) h0 h8 hb bs8 bg br ba pv ps→OB h8 b1 [.int .i64 (ps.length:Int)]→For (D:=D) h0 hb bs8 bg br ba b1→
   ∃h' bs' HS JS,dT M fl k kn kn cols ⟨bg,0,none⟩ ⟨br,0,none⟩ (ve d8) (hJ br ba) pv (c:Int) ⟨b1,0,none⟩ h8=kn cols ⟨bg,0,none⟩ ⟨br,0,none⟩ (ve (D:=D) JS) (hJ br ba) HS (c:Int) h'∧
    ES h0 h' g hb bs' ((FD.aR hg).clr ((FD.aR hg).norm ch ps.length c) ps.length c) bg br ba∧PV (D:=D) h0 h' hb bs' bg br ba HS (ps++[c]):=by
   intro bs8 h8 d8 es8 pv8 o8 f8
   have hln:((FD.aR hg).norm ch ps.length c).length=rows.length:=by rw[Fld.BT,hl6]
   have hwn:Fld.jI w ((FD.aR hg).norm ch ps.length c):=Fld.jI.norm _ hw6 c hp6
   obtain⟨h9,l1,l2,l3,l4⟩:=aFq (fl:=fl) (k:=k) hg (fk M fl k kn kn) gf hwn hc hw2 (by omega) (by omega) bR cols (ve d8) (fun a ha e=>by have:=hpb a ha;omega) rows.length 0 k h8 (by omega) hk (by rw[Fld.ahj];exact es8) pv8 o8 f8
   rw[hln] at l1
   have hn9:=l4.1
   obtain⟨HS,sU,p1,p2,p3,p4⟩:=l3.ov.push (R:=R) (fl:=fl) (bytes:=8) (x:=.int .i64 (c:Int)) bR hn9 (by unfold kc;simp;omega) rfl (fun s3 h4=>kn cols ⟨bg,0,none⟩ ⟨br,0,none⟩ (ve d8) (hJ br ba) s3 (c:Int) h4)
   have e1:iv (ints ps)++[Value.int .i64 (c:Int)]=iv (ints (ps++[c])):=by rw[kh,nK];rfl
   rw[e1] at p2
   refine⟨sU,bs8,HS,d8,?_,l2.aX1 p3 l3.fo,⟨p2,fun a ha=>l2.aTo (p4 a ha)⟩⟩
   unfold dT gX ka
   dsimp only
   rw[aq (s:=⟨some ⟨hb,0,none⟩,((FD.aR hg).norm ch ps.length c).length,((FD.aR hg).norm ch ps.length c).length⟩) (es8.orr.cell rfl),hln]
   refine Eq.trans l1 ?_
   unfold fk
   exact p1
  rw[un]
  have aqw:(FD.aR hg).norm ch ps.length c=ch.set ps.length ((FD.aR hg).yN ((FD.aR hg).inv ch[ps.length][c]) ch[ps.length]):=by unfold Fld.norm;rw[aew,Fld.zD hp6]
  by_cases ci:(FD.aR hg).inv ch[ps.length][c]=(FD.aR hg).one
  ·have e1:(FD.aR hg).norm ch ps.length c=ch:=by rw[aqw,ci,Fld.att,List.set_getElem_self]
   have e2:ve (FD.aR hg).one=1:=rfl
   rw[if_neg (by rw[ci,e2];simp)]
   exact fin bs6 h7 _ (by rw[e1];exact es7) pv7 o7 f6
  ·rw[if_pos (by
    simp only[bne_iff_ne,ne_eq]
    intro e
    exact ci (asg (e.trans rfl)))]
   obtain⟨h8,bs8,s1,s2,s3,s4⟩:=azF (fl:=fl) hg gf es7 ((FD.aR hg).inv ch[ps.length][c]) o7 ob7 hp6 bR (by rw[hw6 _ (List.getElem_mem hp6)];exact hw2)
   rw[←aqw] at s2
   have a3z:=o7.1
   have pv8:=(pv7.J6 s3 (fun a ha e=>(pv7.fo a ha).hd e.symm)).sub (bs':=bs8) (N:=h7.next) s4 (fun a ha=>by have:=hpb a ha;omega)
   obtain⟨h',bs',HS,JS,r1,r2⟩:=fin bs8 h8 ((FD.aR hg).mul akM ch[ps.length][c]) s2 pv8 (s3.ob o7 (fun a ha=>by cases ha;exact f6.hd.symm)) (f6.sub s4 a3z)
   refine⟨h',bs',HS,JS,?_,r2⟩
   rw[VV (s:=⟨some ⟨hb,0,none⟩,ch.length,ch.length⟩) (n:=0) es7.orr s2.oa s1]
   simp only[aE,aM]
   exact r1
 unfold fm ir
 dsimp only
 rw[ae (o2.cell rfl),aq (s:=⟨some ⟨hb,0,none⟩,rows.length,rows.length⟩) (es.orr.cell rfl),if_neg (by simp;omega),ae (o2.cell rfl),ae (o1.cell rfl)]
 unfold Fld.gi
 by_cases ck:K=ps.length
 ·rw[if_neg (by simp[ck])]
  have e1:Fld.IS rows ps.length K=rows:=by rw[ck,Fld.aFp _ hp]
  rw[e1]
  rw[ck] at hz
  exact tail rows bs h JN rfl hw hz es pvh o1 f1
 ·rw[if_pos (by simp;omega)]
  obtain⟨h6,bs6,s1,s2,s3,s4⟩:=azE (fl:=fl) es o1 o2 f1.hd f2.hd hp hK.2 bR
  have hz6:(FD.aR hg).YL (Fld.IS rows ps.length K) ps.length c≠(FD.aR hg).zero:=by
   have:(FD.aR hg).YL (Fld.IS rows ps.length K) ps.length c=(FD.aR hg).YL rows K c:=by
    unfold Fld.YL Fld.IS
    congr 1
    rw[List.getD_eq_getElem?_getD,List.getElem?_set_ne (by omega),List.getElem?_set_self hp];rfl
   rw[this];exact hz
  have pv6:=(pvh.J6 s3 (fun a ha e=>(pvh.fo a ha).hd e.symm)).sub (bs':=bs6) (N:=h.next) (fun b xz=>.inl (s4 b xz)) (fun a ha=>OV.lt pvh.ov a ha)
  have hg6:=gf.quiet s2.q
  obtain⟨h',bs',HS,JS,r1,r2⟩:=tail (Fld.IS rows ps.length K) bs6 h6 ((FD.aR hg).neg JN) (Fld.oW ..) (hw.IS hp hK.2) hz6 s2 pv6 (s3.ob o1 (fun a ha=>by cases ha;exact f1.hd.symm)) (f1.sub (N:=h.next) (fun b xz=>.inl (s4 b xz)) o1.1)
  refine⟨h',bs',HS,JS,?_,r2⟩
  rw[VV (s:=⟨some ⟨hb,0,none⟩,rows.length,rows.length⟩) (n:=0) es.orr s2.oa s1]
  simp only[aE,aM]
  rw[CE (s2.og.cell rfl),ak (aTn hg hg6 JN)]
  simp only[asInt,if_true]
  exact r1
theorem azI{R:Type}(kn:Ce R)(gf:GF h0 g D gen){w cols:Nat}(hcw:cols≤w)(hw2:w≤65536)(bR:fl≤h0.next){n:Nat}(hn:n≤65536)(hk:n<k):
 ∀(d c f:Nat) (rows:List (List (El D))) (bs:List (Nat×Nat)) (ps:List Nat) (pv:Sl) (JN:El D) (h:AH),c+d=cols→d<f→rows.length=n→Fld.jI w rows→ES h0 h g hb bs rows bg br ba→PV (D:=D) h0 h hb bs bg br ba pv ps→ps.length≤c→
 ∃h' bs' HS JS,ic M fl k kn f (cols:Int) ⟨bg,0,none⟩ ⟨br,0,none⟩ (ve JN) (hJ br ba) pv (c:Int) h=kn (ve (D:=D) JS) HS h'∧
  ES h0 h' g hb bs' ((FD.aR hg).vx d c rows ps).1 bg br ba∧PV (D:=D) h0 h' hb bs' bg br ba HS ((FD.aR hg).vx d c rows ps).2:=by
 intro d
 induction d with
 |zero=>
  intro c f rows bs ps pv JN h hc hf hl hw es pvh hpc
  obtain⟨f,rfl⟩:∃j,f=j+1:=⟨f-1,by omega⟩
  refine⟨h,bs,pv,JN,?_,es,pvh⟩
  show uS M fl k _ _ _ _ _ _ _ _ _ h=_
  unfold uS AY
  rw[if_neg (by simp;omega)]
 |succ d ih=>
  intro c f rows bs ps pv JN h hc hf hl hw es pvh hpc
  obtain⟨f,rfl⟩:∃j,f=j+1:=⟨f-1,by omega⟩
  have Ql:pv.l=ps.length:=by have:=pvh.ov.len;simpa using this
  have un:ic M fl k kn (f+1) (cols:Int) ⟨bg,0,none⟩ ⟨br,0,none⟩ (ve JN) (hJ br ba) pv (c:Int) h=uS M fl k (ic M fl k kn f) kn (cols:Int) ⟨bg,0,none⟩ ⟨br,0,none⟩ (ve JN) (hJ br ba) pv (c:Int) h:=rfl
  rw[un]
  unfold uS AY
  dsimp only
  rw[if_pos (by simp;omega),aq (s:=⟨some ⟨hb,0,none⟩,rows.length,rows.length⟩) (es.orr.cell rfl)]
  by_cases cf:ps.length<rows.length
  ·rw[if_pos (by simp;omega)]
   have hn0:=es.q.1
   obtain⟨h1,k1,ob1,q1⟩:=GI (fl:=fl) (h:=h) (.int .i64 0) (.int .i64 (ps.length:Int)) (by omega) rfl
   have es1:=es.quiet q1
   obtain⟨h2,k2,ob2,q2⟩:=GI (fl:=fl) (h:=h1) (.int .i64 0) (.int .i64 (ps.length:Int)) (by have:=q1.1;omega) rfl
   have es2:=es1.quiet q2
   have pv2:=(pvh.quiet q1).quiet q2
   have f1:For (D:=D) h0 hb bs bg br ba h.next:=es.fresh
   have f2:For (D:=D) h0 hb bs bg br ba h1.next:=es1.fresh
   have zN:h.next<h1.next:=ob1.1
   have unf:Cf M fl k (ic M fl k kn f) kn (cols:Int) ⟨bg,0,none⟩ ⟨br,0,none⟩ (ve JN) (hJ br ba) pv (c:Int) h=dO M fl k (fm M fl k (ef M fl k (ic M fl k kn f) kn) (ef M fl k (ic M fl k kn f) kn)) k (cols:Int) ⟨bg,0,none⟩ ⟨br,0,none⟩ (ve JN) (hJ br ba) pv (c:Int) ⟨h.next,0,none⟩ ⟨h1.next,0,none⟩ h2:=by
    unfold Cf zr wM sy xR
    rw[Ql,k1]
    rw[ae (ob1.cell rfl),k2]
   rw[unf]
   obtain⟨h5,a1,a2,a3⟩:=azH (fl:=fl) (k:=k) (b1:=h.next) (pv:=pv) hg (fm M fl k (ef M fl k (ic M fl k kn f) kn) (ef M fl k (ic M fl k kn f) kn)) (hB:=h2) hw (show c<w by omega) (fun {h'} V2=>es2.J6 f2 V2) (by omega) (by omega) (cols:Int) (ve JN) (rows.length-ps.length) ps.length k h2 (by omega) (by omega) ob2 (kg.refl _ _)
   rw[a1]
   have es5:=es2.J6 f2 a3
   have aVz:∀a,pv.a=some a→a.block<h.next:=fun a ha=>OV.lt pvh.ov a ha
   have pv5:=pv2.J6 a3 (fun a ha e=>by have:=aVz a ha;omega)
   have o1:OB h5 h.next [.int .i64 (ps.length:Int)]:=a3.ob (ob1.quiet q2) (fun a ha=>by cases ha;show h1.next≠h.next;omega)
   cases hpk:(FD.aR hg).pick rows c (rows.length-ps.length) ps.length with
   |none=>
    rw[hpk] at a2
    have hgj:(FD.aR hg).vx (d+1) c rows ps=(FD.aR hg).vx d (c+1) rows ps:=by conv=>lhs;unfold Fld.vx;rw[hpk]
    rw[hgj]
    obtain⟨h',bs',HS,JS,r1,r2⟩:=ih (c+1) f rows bs ps pv JN h5 (by omega) (by omega) hl hw es5 pv5 (by omega)
    refine⟨h',bs',HS,JS,?_,r2⟩
    unfold fm ir
    dsimp only
    rw[ae (a2.cell rfl),aq (s:=⟨some ⟨hb,0,none⟩,rows.length,rows.length⟩) (es5.orr.cell rfl),if_pos (by simp)]
    unfold ef
    rw[aH (c+1) (by push_cast;rfl) (by omega)]
    exact r1
   |some K=>
    rw[hpk] at a2
    have a2:OB h5 h1.next [.int .i64 (K:Int)]:=a2
    obtain⟨p1,p2,p3,_⟩:=Fld.Dp _ hpk
    have hgj:(FD.aR hg).vx (d+1) c rows ps=(FD.aR hg).vx d (c+1) ((FD.aR hg).gi rows ps.length K c) (ps++[c]):=by conv=>lhs;unfold Fld.vx;rw[hpk]
    rw[hgj]
    obtain⟨h6,bs6,pv6,akM,s1,s2,s3⟩:=aFr (fl:=fl) (k:=k) hg (ef M fl k (ic M fl k kn f) kn) gf hw (show c<w by omega) hw2 (by omega) bR (cols:Int) JN es5 pv5 o1 f1 a2 f2 cf ⟨p1,by omega⟩ p3 aVz (by omega) (by omega)
    obtain⟨h',bs',HS,JS,r1,r2⟩:=ih (c+1) f ((FD.aR hg).gi rows ps.length K c) bs6 (ps++[c]) pv6 akM h6 (by omega) (by omega) (by rw[Fld.jw];exact hl) (Fld.jI.step _ hw c cf (by omega)) s2 s3 (by simp;omega)
    refine⟨h',bs',HS,JS,?_,r2⟩
    refine Eq.trans s1 ?_
    unfold ef
    rw[aH (c+1) (by push_cast;rfl) (by omega)]
    exact r1
  ·rw[if_neg (by simp;omega)]
   have hgj:(FD.aR hg).vx (d+1) c rows ps=(rows,ps):=Fld.ab1 _ _ _ _ _ (by omega)
   rw[hgj]
   exact⟨h,bs,pv,JN,rfl,es,pvh⟩
end
end Go.Abs.P
end
section
namespace Go.Fld.Fld
variable{α:Type}(F:Fld α)
theorem aFs(n c:Nat)(rows:List (List α))(ps:List Nat)(h:ps.length≤rows.length):(F.vx n c rows ps).2.length≤rows.length:=by
 induction n generalizing c rows ps with
 |zero=>exact h
 |succ n ih=>
  unfold vx
  split
  ·exact ih _ _ _ h
  ·rename_i K hK
   have:=F.Dp hK
   have h2:=ih (c+1) (F.gi rows ps.length K c) (ps++[c]) (by rw[jw];simp;omega)
   rwa[jw] at h2
theorem axg{w:Nat}(n c:Nat)(rows:List (List α))(ps:List Nat)(h:jI w rows)(hps:ps.length≤rows.length):jI w (F.vx n c rows ps).1:=by
 induction n generalizing c rows ps with
 |zero=>exact h
 |succ n ih=>
  unfold vx
  split
  ·exact ih _ _ _ h hps
  ·rename_i K hK
   have:=F.Dp hK
   exact ih _ _ _ (jI.step F h c (by omega) (by omega)) (by rw[jw];simp;omega)
end Go.Fld.Fld
namespace Go.Abs.P
open Go.Abs Go.Fld
section
variable{D:FD}{gen:Nat}(hg:D.bh gen){h0 h:AH}{g:Addr}{fl hb:Nat}{bs:List (Nat×Nat)}{rows:List (List (El D))}
theorem azJ(gf:GF h0 g D gen){w cols:Nat}(hcw:cols≤w)(hw2:w≤65536)(bR:fl≤h0.next)(hn:rows.length≤65536)(hw:Fld.jI w rows)(q:an h0 h)(mx:Mx h0.next h hb bs (rows.map vl) []):
 ∃h' bs' pv JN,M fl fn.hZ [.pointer (some g),.slice (some ⟨hb,0,none⟩) rows.length rows.length,.int .i64 (cols:Int),.slice none 0 0] h=some (.tuple ⟨[.slice pv.a pv.l pv.c,.int .i64 JN]⟩,h')∧
  an h0 h'∧Mx h0.next h' hb bs' (((FD.aR hg).vx cols 0 rows []).1.map vl) []∧OV h0.next h' pv (iv (ints ((FD.aR hg).vx cols 0 rows []).2)):=by
 have hn0:=q.1
 have o1:=OB.alloc h [Value.pointer (some g)]
 have q1:=an.alloc h [Value.pointer (some g)]
 generalize e1:h.alloc [Value.pointer (some g)]=h1 at o1 q1
 have o2:=OB.alloc h1 [Value.slice (some ⟨hb,0,none⟩) rows.length rows.length]
 have q2:=an.alloc h1 [Value.slice (some ⟨hb,0,none⟩) rows.length rows.length]
 generalize e2:h1.alloc [Value.slice (some ⟨hb,0,none⟩) rows.length rows.length]=h2 at o2 q2
 have o3:=OB.alloc h2 [Value.slice none 0 0]
 have q3:=an.alloc h2 [Value.slice none 0 0]
 generalize e3:h2.alloc [Value.slice none 0 0]=h3 at o3 q3
 have l1:=o1.1
 have l2:=o2.1
 have hhl:=mx.YD.1
 have hbl:∀b∈bs,b.1<h.next:=fun b xz=>by
  obtain⟨j,hj,rfl⟩:=List.getElem_of_mem xz
  exact(mx.row j hj (by rw[←mx.len];exact hj)).1
 have hq:=(q1.trans q2).trans q3
 have es:ES h0 h3 g hb bs rows h.next h1.next h2.next:=⟨q.trans hq,mx.quiet hq,(o1.quiet q2).quiet q3,o2.quiet q3,o3,⟨by omega,by omega,by omega⟩,fun b xz=>by have:=hbl b xz;exact⟨by omega,by omega,by omega⟩,⟨by omega,by omega,by omega⟩⟩
 have pvn:PV (D:=D) h0 h3 hb bs h.next h1.next h2.next ⟨none,0,0⟩ []:=⟨OV.nil _ _,fun a ha=>by cases ha⟩
 obtain⟨h',bs',HS,JS,r1,r2,r3⟩:=azI (fl:=fl) (k:=rows.length+cols+1) hg (Vm M fl (rows.length+cols+1) (fun(y8:Sl) (y9:Int) q=>some (Value.tuple ⟨[.slice y8.a y8.l y8.c,.int .i64 y9]⟩,q))) gf hcw hw2 bR (n:=rows.length) hn (by omega) cols 0 (rows.length+cols+1) rows bs [] ⟨none,0,0⟩ (FD.aR hg).one h3 (by omega) (by omega) rfl hw es pvn (Nat.zero_le _)
 refine⟨h',bs',HS,ve JS,bF (k:=rows.length+cols+1) (by decide) Bj ?_,r2.q,r2.mx,r3.ov⟩
 rw[xv (p1:=⟨some ⟨hb,0,none⟩,rows.length,rows.length⟩) (p3:=⟨none,0,0⟩)]
 unfold hZ aD7 ajG bJ
 dsimp only
 rw[e1,e2,e3]
 exact r1
theorem aTp{n0:Nat}{h':AH}{rs:List (List Int)}(mx:Mx n0 h' hb bs rs []){n c:Nat}(hn:n≤rs.length):RRf n0 h' ⟨some ⟨hb,0,none⟩,n,c⟩ (rs.take n):=by
 refine⟨⟨by simp;omega,fun i hi=>?_⟩,fun a ha=>by cases ha;exact mx.gh,fun i hi a t ha ht q hq=>?_⟩
 ·have JO:i<rs.length:=by simp at hi;omega
  have hib:i<bs.length:=by rw[mx.len];exact JO
  refine⟨_,⟨some ⟨(bs[i]).1,0,none⟩,(rs[i]).length,(bs[i]).2⟩,rfl,mx.YD.1,?_,?_⟩
  ·rw[Nat.zero_add,mx.cell JO];rfl
  ·have:=(mx.row i hib JO).si none (bs[i]).2
   simpa using this
 ·cases ha
  have JO:i<rs.length:=by simp at hi;omega
  have hib:i<bs.length:=by rw[mx.len];exact JO
  simp only[Nat.zero_add,mx.cell JO,hv,Sl.v,Option.some.injEq,Value.slice.injEq] at ht
  rw[←ht.1] at hq
  cases hq
  exact(mx.ge _ (List.getElem_mem hib)).1
theorem asn(gf:GF h g D gen){s:Sl}{w:Nat}(hs:RR h s (rows.map vl))(hw1:0<w)(hw2:w≤65536)(bR:fl≤h.next)(hn:rows.length≤65536)(hw:Fld.jI w rows):
 ∃(h':AH) (s' pv:Sl),M fl fn.je [.pointer (some g),.slice s.a s.l s.c,.int .i64 (w:Int)] h=some (.tuple ⟨[.slice s'.a s'.l s'.c,.slice pv.a pv.l pv.c]⟩,h')∧
  an h h'∧RRf h.next h' s' (((FD.aR hg).dU rows w).1.map vl)∧OV h.next h' pv (iv (ints ((FD.aR hg).dU rows w).2)):=by
 obtain⟨h1,bs,c1,c2,c3⟩:=asm (fl:=fl) hs bR (fun r hr=>by
  obtain⟨r',hr',rfl⟩:=List.mem_map.1 hr
  have:=hw r' hr'
  refine⟨fun e=>?_,by simp;omega⟩
  have hl:(vl r').length=0:=by rw[e];rfl
  rw[iT] at hl;omega) (by simpa using hn)
 rw[List.length_map] at c1
 obtain⟨h',bs',pv,JN,e1,e2,e3,e4⟩:=azJ (fl:=fl) hg gf (w:=w) (cols:=w) (Nat.le_refl _) hw2 bR hn hw c3 c2
 have hps:=(FD.aR hg).aFs w 0 rows [] (Nat.zero_le _)
 have hlen:=(FD.aR hg).EY w 0 rows []
 refine⟨h',⟨some ⟨h.next,0,none⟩,((FD.aR hg).vx w 0 rows []).2.length,((FD.aR hg).vx w 0 rows []).2.length⟩,pv,bF (k:=1) (by decide) Jp ?_,e2,?_,e4⟩
 ·rw[DL]
  unfold je aDe
  rw[ak c1]
  simp only[aX]
  rw[ak e1]
  simp only[aE,ar,aM,aX,asInt,if_true]
  have Ql:pv.l=((FD.aR hg).vx w 0 rows []).2.length:=by have:=e4.len;simpa using this
  rw[Ql]
  unfold sub
  rw[if_pos (by unfold oB;simp;omega)]
  simp only[Option.getD_none,Option.getD_some]
  rw[if_pos (by omega)]
  by_cases hz:((FD.aR hg).vx w 0 rows []).2.length=0
  ·rw[hz];simp
  ·rw[if_neg (by omega)];simp
 ·unfold Fld.dU
  rw[List.map_take]
  exact aTp e3 (by rw[List.length_map,hlen];exact hps)
theorem akF{R:Type}{k:Nat}(kn:au R)(kr:ah R)(gf:GF h g D gen){s:Sl}{xs:List Int}(hs:SI h s xs)(hm:xs.length≤65536):
 ∀(d i f:Nat),i+d=xs.length→d<f→DN M fl k kn kr f (some g) s (xs.length:Int) (i:Int) h=if (xs.drop i).all (isI D)=true then kn h else kr 2 h:=by
 intro d
 induction d with
 |zero=>
  intro i f hi hf
  obtain⟨f,rfl⟩:∃j,f=j+1:=⟨f-1,by omega⟩
  show uz M fl k _ _ _ _ _ _ _ h=_
  unfold uz
  rw[if_neg (by simp;omega),List.drop_of_length_le (by omega)];rfl
 |succ d ih=>
  intro i f hi hf
  obtain⟨f,rfl⟩:∃j,f=j+1:=⟨f-1,by omega⟩
  show uz M fl k _ _ _ _ _ _ _ h=_
  unfold uz
  rw[if_pos (by simp;omega),hs.read (by omega) (by simp;omega)]
  simp only[Int.toNat_natCast]
  rw[ak (axd gf _)]
  simp only[asBool]
  rw[List.drop_eq_getElem_cons (show i<xs.length by omega),List.all_cons]
  by_cases c:isI D xs[i]=true
  ·rw[if_neg (by simp[c]),c,Bool.true_and,aH (i+1) (by push_cast;rfl) (by omega)]
   exact ih (i+1) f (by omega) (by omega)
  ·rw[if_pos (by simp[c]),if_neg (by simp[c])]
theorem akG(gf:GF h g D gen){s:Sl}{xs:List Int}(hs:SI h s xs)(hm:xs.length≤65536):M fl fn.j8 [.pointer (some g),.slice s.a s.l s.c] h=some (.int .i64 (if xs.all (isI D)=true then 0 else 2),h):=by
 refine bF (k:=xs.length+1) (by decide) Ew ?_
 rw[AN]
 unfold j8 aDm ai6 ai5
 rw[hs.len]
 have:=akF (fl:=fl) (k:=xs.length+1) (Va M fl (xs.length+1) (fun(y4:Int) q=>some (Value.int .i64 y4,q))) (fun(y4:Int) q=>some (Value.int .i64 y4,q)) gf hs hm xs.length 0 (xs.length+1) (by omega) (by omega)
 refine Eq.trans this ?_
 rw[List.drop_zero]
 split<;>rfl
def gK(D:FD)(cols:Int)(rows:List (List Int)):Int:=
 if cols<0∨cols>256∨rows.length>256 then 3 else if rows.all (fun r=>decide ((r.length:Int)=cols))=true then (if rows.all (fun r=>r.all (isI D))=true then 0 else 2) else 3
theorem azK{R:Type}{k:Nat}(kn:SM R)(kr:ah R){bx:Nat}{vs:List Value}{cols:Int}(hx:OB h bx (.int .i64 cols::vs)){s:Sl}{rs:List (List Int)}(hs:RR h s rs)(hm:rs.length≤65536)(go:OA):
 ∀(d i f:Nat),i+d=rs.length→d<f→D7 M fl k kn kr f go ⟨bx,0,none⟩ s (rs.length:Int) (i:Int) h=if (rs.drop i).all (fun r=>decide ((r.length:Int)=cols))=true then kn go ⟨bx,0,none⟩ h else kr 3 h:=by
 intro d
 induction d with
 |zero=>
  intro i f hi hf
  obtain⟨f,rfl⟩:∃j,f=j+1:=⟨f-1,by omega⟩
  show uO M fl k _ _ _ _ _ _ _ _ h=_
  unfold uO
  rw[if_neg (by simp;omega),List.drop_of_length_le (by omega)];rfl
 |succ d ih=>
  intro i f hi hf
  obtain⟨f,rfl⟩:∃j,f=j+1:=⟨f-1,by omega⟩
  have qC:i<rs.length:=by omega
  obtain⟨t,ht1,ht2⟩:=hs.read qC
  show uO M fl k _ _ _ _ _ _ _ _ h=_
  unfold uO
  rw[if_pos (by simp;omega),ht2,ae (hx.cell rfl),ht1.len,List.drop_eq_getElem_cons qC,List.all_cons]
  by_cases c:(rs[i].length:Int)=cols
  ·have e:decide ((rs[i].length:Int)=cols)=true:=by simp[c]
   rw[if_neg (by simp[c]),e,Bool.true_and,aH (i+1) (by push_cast;rfl) (by omega)]
   exact ih (i+1) f (by omega) (by omega)
  ·rw[if_pos (by simp[c]),if_neg (by simp[c])]
theorem azL{R:Type}{k:Nat}(kn:au R)(kr:ah R)(gf:GF h g D gen){s:Sl}{rs:List (List Int)}(hs:RR h s rs)(hm:rs.length≤65536)(hw:∀r∈rs,r.length≤65536):
 ∀(d i f:Nat),i+d=rs.length→d<f→ot M fl k kn kr f (some g) s (rs.length:Int) (i:Int) h=if (rs.drop i).all (fun r=>r.all (isI D))=true then kn h else kr 2 h:=by
 intro d
 induction d with
 |zero=>
  intro i f hi hf
  obtain⟨f,rfl⟩:∃j,f=j+1:=⟨f-1,by omega⟩
  show jD M fl k _ _ _ _ _ _ _ h=_
  unfold jD
  rw[if_neg (by simp;omega),List.drop_of_length_le (by omega)];rfl
 |succ d ih=>
  intro i f hi hf
  obtain⟨f,rfl⟩:∃j,f=j+1:=⟨f-1,by omega⟩
  have qC:i<rs.length:=by omega
  obtain⟨t,ht1,ht2⟩:=hs.read qC
  show jD M fl k _ _ _ _ _ _ _ h=_
  unfold jD
  rw[if_pos (by simp;omega),ht2,ak (akG gf ht1 (hw _ (List.getElem_mem qC)))]
  simp only[asInt,if_true]
  rw[List.drop_eq_getElem_cons qC,List.all_cons]
  by_cases c:rs[i].all (isI D)=true
  ·rw[if_pos c,if_neg (by simp),c,Bool.true_and,aH (i+1) (by push_cast;rfl) (by omega)]
   exact ih (i+1) f (by omega) (by omega)
  ·rw[if_neg c,if_pos (by simp),if_neg (by simp[c])]
theorem apv(gf:GF h g D gen){s:Sl}{rs:List (List Int)}(cols:Int)(hs:RR h s rs)(hm:rs.length≤65536)(hw:∀r∈rs,r.length≤65536):
 ∃h',M fl fn.m4 [.pointer (some g),.agg ⟨[.int .i64 cols,.slice s.a s.l s.c]⟩] h=some (.int .i64 (gK D cols rs),h')∧an h h':=by
 have dF:=OB.alloc h [.int .i64 cols,.slice s.a s.l s.c]
 have eI:=an.alloc h [.int .i64 cols,.slice s.a s.l s.c]
 generalize eK:h.alloc [.int .i64 cols,.slice s.a s.l s.c]=h1 at dF eI
 refine⟨h1,bF (k:=rs.length+1) (by decide) Jy ?_,eI⟩
 rw[D8]
 unfold m4 aD3 ajD bJ
 rw[eK]
 dsimp only
 unfold gK
 rw[ae (dF.cell rfl)]
 by_cases c1:cols<0
 ·rw[if_neg (by simp[c1]),if_pos (.inl c1)]
 ·rw[if_pos (by simp;omega),ae (dF.cell rfl)]
  by_cases c2:cols>256
  ·rw[if_neg (by simp;omega),if_pos (by omega)]
  ·rw[if_pos (by simp;omega),aq (s:=s) (dF.cell rfl),hs.len]
   by_cases c3:rs.length>256
   ·rw[if_pos (by simp;omega),if_pos (by omega)]
   ·rw[if_neg (by simp;omega),if_neg (by omega),aq (s:=s) (dF.cell rfl),hs.len]
    unfold ajC
    have l1:=azK (fl:=fl) (k:=rs.length+1) (KW M fl (rs.length+1) (fun(y4:Int) q=>some (Value.int .i64 y4,q))) (fun(y4:Int) q=>some (Value.int .i64 y4,q)) dF (hs.quiet eI) hm (some g) rs.length 0 (rs.length+1) (by omega) (by omega)
    refine Eq.trans l1 ?_
    rw[List.drop_zero]
    split
    ·unfold KW F9 Jj
     dsimp only
     rw[aq (s:=s) (dF.cell rfl),hs.len]
     have l2:=azL (fl:=fl) (k:=rs.length+1) (CX M fl (rs.length+1) (fun(y4:Int) q=>some (Value.int .i64 y4,q))) (fun(y4:Int) q=>some (Value.int .i64 y4,q)) (gf.quiet eI) (hs.quiet eI) hm hw rs.length 0 (rs.length+1) (by omega) (by omega)
     refine Eq.trans l2 ?_
     rw[List.drop_zero]
     split<;>rfl
    ·rfl
end
end Go.Abs.P
end
section
namespace Go.Abs
theorem OB.aep{R:Type}{h:AH}{b:Nat}{vs xs:List Value}(p:OB h b vs){fl:Nat}(bR:fl≤b)(hl:xs.length=vs.length)(h0:0<xs.length)(hx:xs.all De=true)(K:AH→Option R):
 Abs.st fl h ⟨b,0,none⟩ xs K=K (h.put b (some xs)):=by
 unfold Abs.st
 simp only[p.iN,if_pos bR]
 rw[if_pos h0,if_pos (by omega),if_pos hx,aeg _ _ _ (by omega)]
 simp
theorem abl{fl:Nat}{h:AH}(v0 v:List Value)(bR:fl≤h.next)(hl:v.length=v0.length)(h0:0<v.length)(hv:v.all De=true):∃h2,(∀{R:Type} (K:Nat→AH→Option R),(bJ h v0 fun b h1=>st fl h1 ⟨b,0,none⟩ v fun h2=>K b h2)=K h.next h2)∧OB h2 h.next v∧an h h2:=by
 have o:=OB.alloc h v0
 refine⟨(h.alloc v0).put h.next (some v),fun K=>?_,o.put _,(an.alloc ..).put (Nat.le_refl _) _⟩
 show st fl (h.alloc v0) ⟨h.next,0,none⟩ v _=_
 rw[o.aep bR hl h0 hv]
end Go.Abs
namespace Go.Abs.P
open Go.Abs Go.Fld
theorem Cw{D:FD}{cols:Int}{rs:List (List Int)}(h:gK D cols rs=0):0≤cols∧cols≤256∧rs.length≤256∧∃rows:List (List (El D)),rs=rows.map vl∧Fld.jI cols.toNat rows:=by
 unfold gK at h
 split at h
 ·cases h
 ·rename_i c1
  split at h
  ·rename_i c2
   split at h
   ·rename_i c3
    refine⟨by omega,by omega,by omega,?_⟩
    simp only[List.all_eq_true,decide_eq_true_eq] at c2 c3
    have key:∀rs:List (List Int),(∀r∈rs,(r.length:Int)=cols)→(∀r∈rs,∀x∈r,isI D x=true)→∃rows:List (List (El D)),rs=rows.map vl∧Fld.jI cols.toNat rows:=by
     intro rs
     induction rs with
     |nil=>intro _ _;exact⟨[],rfl,fun r hr=>by cases hr⟩
     |cons r rs ih=>
      intro h1 h2
      obtain⟨rows,e1,e2⟩:=ih (fun x hx=>h1 x (List.mem_cons_of_mem _ hx)) (fun x hx=>h2 x (List.mem_cons_of_mem _ hx))
      obtain⟨l,e3⟩:=aTm (h2 r (List.mem_cons_self ..))
      refine⟨l::rows,by rw[List.map_cons,←e1,←e3],fun x hx=>?_⟩
      rcases List.mem_cons.1 hx with rfl|hx
      ·have:=h1 r (List.mem_cons_self ..)
       rw[e3,iT] at this;omega
      ·exact e2 x hx
    exact key rs c2 c3
   ·cases h
  ·cases h
section
variable{fl:Nat}{h:AH}{mod:Sl}{xs:List Int}
theorem aso(p m:Int)(bL:SI h mod xs)(hb:xs.length≤ow)(bR:fl≤h.next){b:Nat}{cols:Int}{s:Sl}{rs:List (List Int)}(ob:OB h b [.int .i64 cols,.slice s.a s.l s.c])(hs:RR h s rs)(hm:rs.length≤65536)(hw:∀r∈rs,r.length≤65536):
 ∃h',an h h'∧((¬Bm p m xs∧M fl fn.c7 [.agg ⟨[.int .i64 p,.int .i64 m,.slice mod.a mod.l mod.c]⟩,.slice (some ⟨b,0,none⟩) 1 1] h=some (.tuple ⟨[.pointer none,.int .i64 1]⟩,h'))∨
  (∃D gen g,IsF p m xs D∧GF h' g D gen∧h.next≤g.block∧M fl fn.c7 [.agg ⟨[.int .i64 p,.int .i64 m,.slice mod.a mod.l mod.c]⟩,.slice (some ⟨b,0,none⟩) 1 1] h=some (.tuple ⟨[.pointer (if gK D cols rs=0 then some g else none),.int .i64 (gK D cols rs)]⟩,h'))):=by
 have dF:=OB.alloc h [.int .i64 p,.int .i64 m,.slice mod.a mod.l mod.c]
 have eI:=an.alloc h [.int .i64 p,.int .i64 m,.slice mod.a mod.l mod.c]
 generalize eK:h.alloc [.int .i64 p,.int .i64 m,.slice mod.a mod.l mod.c]=h1 at dF eI
 have go:∀{r},c7 M fl 3 p m mod ⟨some ⟨b,0,none⟩,1,1⟩ h=some r→M fl fn.c7 [.agg ⟨[.int .i64 p,.int .i64 m,.slice mod.a mod.l mod.c]⟩,.slice (some ⟨b,0,none⟩) 1 1] h=some r:=by
  intro r he
  refine bF (k:=3) (by decide) MJ ?_
  rw[Ht (p1:=⟨some ⟨b,0,none⟩,1,1⟩)];exact he
 obtain⟨h2,q2,hN⟩:=aem (fl:=fl) p m (bL.quiet eI) hb (by have:=eI.1;omega)
 have nL:=eI.trans q2
 rcases hN with⟨nf,e⟩|⟨D,gen,g,hF,gf,gb,e⟩
 ·refine⟨h2,nL,.inl ⟨nf,go ?_⟩⟩
  unfold c7 avp ada bJ
  rw[eK]
  dsimp only
  rw[ae (dF.cell rfl),ae (dF.cell rfl),aq (s:=mod) (dF.cell rfl),ak e]
  simp only[aE,ar,aM,ek,asInt,if_true]
  rw[if_pos (by simp)]
 ·have ob2:=ob.quiet nL
  obtain⟨h3,k3,ob3,q3⟩:=abl (fl:=fl) (h:=h2) [.int .i64 0,.slice none 0 0] [.int .i64 cols,.slice s.a s.l s.c] (by have:=nL.1;omega) rfl (by simp) rfl
  obtain⟨h4,c1,c2⟩:=apv (fl:=fl) (gf.quiet q3) cols (hs.quiet (nL.trans q3)) hm hw
  have gf4:=(gf.quiet q3).quiet c2
  have un:c7 M fl 3 p m mod ⟨some ⟨b,0,none⟩,1,1⟩ h=if (gK D cols rs !=0)=true then some (.tuple ⟨[.pointer none,.int .i64 (gK D cols rs)]⟩,h4) else some (.tuple ⟨[.pointer (some g),.int .i64 0]⟩,h4):=by
   unfold c7 avp ada bJ
   rw[eK]
   dsimp only
   rw[ae (dF.cell rfl),ae (dF.cell rfl),aq (s:=mod) (dF.cell rfl),ak e]
   simp only[aE,ar,aM,ek,asInt,if_true]
   rw[if_neg (by simp)]
   unfold aiY
   show ux M fl 3 (zI M fl 3 (KK M fl 3 _) _ 2) _ _ _ _ _ _ h2=_
   unfold ux
   rw[if_pos (by simp)]
   have aQ4:∀{R:Type} (K:Addr→Option R),idx 2 (⟨some ⟨b,0,none⟩,1,1⟩:Sl) 0 K=K ⟨b,0,none⟩:=by
    intro R K
    unfold idx
    simp
   rw[aQ4]
   dsimp only
   rw[ae (ob2.cell rfl),aq (s:=s) (ob2.cell rfl),k3,ae (ob3.cell rfl),aq (s:=s) (ob3.cell rfl),ak c1]
   simp only[asInt,if_true]
   split
   ·rfl
   ·show ux M fl 3 (zI M fl 3 (KK M fl 3 _) _ 1) _ _ _ _ _ _ h4=_
    unfold ux
    rw[show av (0+1)=1 from by rw[mj (by omega) (by omega)];rfl,if_neg (by simp)]
    rfl
  refine⟨h4,(nL.trans q3).trans c2,.inr ⟨D,gen,g,hF,gf4,by have:=eI.1;omega,go (un.trans ?_)⟩⟩
  by_cases c:gK D cols rs=0
  ·rw[if_neg (by simp[c]),if_pos c,c]
  ·rw[if_pos (by simp[c]),if_neg c]
inductive aX2 (h h':AH) (p m:Int) (xs:List Int) (cols:Int) (rs:List (List Int)) (v:Value):Prop where
 |oz (nf:¬Bm p m xs) (e:v=.tuple ⟨[.agg ⟨[.int .i64 0,.slice none 0 0]⟩,.slice none 0 0,.int .i64 1]⟩)
 |bad (D:FD) (gen:Nat) (hF:IsF p m xs D) (hg:D.bh gen) (ne:gK D cols rs≠0) (e:v=.tuple ⟨[.agg ⟨[.int .i64 0,.slice none 0 0]⟩,.slice none 0 0,.int .i64 (gK D cols rs)]⟩)
 |ok (D:FD) (gen:Nat) (hF:IsF p m xs D) (hg:D.bh gen) (rows:List (List (El D))) (er:rs=rows.map vl) (wid:Fld.jI cols.toNat rows) (z:gK D cols rs=0) (s' pv:Sl)
  (rr:RRf h.next h' s' (((FD.aR hg).dU rows cols.toNat).1.map vl)) (ov:OV h.next h' pv (iv (ints ((FD.aR hg).dU rows cols.toNat).2))) (e:v=.tuple ⟨[.agg ⟨[.int .i64 cols,.slice s'.a s'.l s'.c]⟩,.slice pv.a pv.l pv.c,.int .i64 0]⟩)
theorem aeq(p m:Int)(bL:SI h mod xs)(hb:xs.length≤ow)(bR:fl≤h.next){cols:Int}{s:Sl}{rs:List (List Int)}(hs:RR h s rs)(hm:rs.length≤65536)(hw:∀r∈rs,r.length≤65536)(hc:cols≠0):
 ∃h' v,M fl fn.cD [.agg ⟨[.int .i64 p,.int .i64 m,.slice mod.a mod.l mod.c]⟩,.agg ⟨[.int .i64 cols,.slice s.a s.l s.c]⟩] h=some (v,h')∧an h h'∧aX2 h h' p m xs cols rs v:=by
 have o1:=OB.alloc h [.int .i64 p,.int .i64 m,.slice mod.a mod.l mod.c]
 have q1:=an.alloc h [.int .i64 p,.int .i64 m,.slice mod.a mod.l mod.c]
 generalize eK:h.alloc [.int .i64 p,.int .i64 m,.slice mod.a mod.l mod.c]=h1 at o1 q1
 have o2:=OB.alloc h1 [.int .i64 cols,.slice s.a s.l s.c]
 have q2:=an.alloc h1 [.int .i64 cols,.slice s.a s.l s.c]
 generalize hh2:h1.alloc [.int .i64 cols,.slice s.a s.l s.c]=h2 at o2 q2
 have o3:=OB.alloc h2 [.int .i64 0,.slice none 0 0]
 have q3:=an.alloc h2 [.int .i64 0,.slice none 0 0]
 generalize hh3:h2.alloc [.int .i64 0,.slice none 0 0]=h3 at o3 q3
 have o4:=OB.alloc h3 [.int .i64 cols,.slice s.a s.l s.c]
 have q4:=an.alloc h3 [.int .i64 cols,.slice s.a s.l s.c]
 generalize hh4:h3.alloc [.int .i64 cols,.slice s.a s.l s.c]=h4 at o4 q4
 have q14:=((q1.trans q2).trans q3).trans q4
 have l1:=q1.1
 have l2:=q2.1
 have l3:=q3.1
 have l4:=q4.1
 have l3':=o3.1
 obtain⟨h5,q5,hO⟩:=aso (fl:=fl) p m (bL.quiet q14) hb (by omega) o4 (hs.quiet q14) hm hw
 have go:∀{r},cD M fl 1 p m mod cols s h=some r→M fl fn.cD [.agg ⟨[.int .i64 p,.int .i64 m,.slice mod.a mod.l mod.c]⟩,.agg ⟨[.int .i64 cols,.slice s.a s.l s.c]⟩] h=some r:=by
  intro r he
  refine bF (k:=1) (by decide) Bh ?_
  rw[xr];exact he
 have Db:=(((o1.quiet q2).quiet q3))
 have o2':=(o2.quiet q3)
 have o3':=(o3.quiet q4).quiet q5
 have errw:∀(e:Int) (pt:OA),e≠0→M fl fn.c7 [.agg ⟨[.int .i64 p,.int .i64 m,.slice mod.a mod.l mod.c]⟩,.slice (some ⟨h3.next,0,none⟩) 1 1] h4=some (.tuple ⟨[.pointer pt,.int .i64 e]⟩,h5)→
  cD M fl 1 p m mod cols s h=some (.tuple ⟨[.agg ⟨[.int .i64 0,.slice none 0 0]⟩,.slice none 0 0,.int .i64 e]⟩,h5.put h2.next (some [.int .i64 0,.slice none 0 0])):=by
  intro e pt he hop
  unfold cD auJ bJ
  rw[eK]
  dsimp only
  rw[hh2,hh3,ae (Db.cell rfl),ae (Db.cell rfl),aq (s:=mod) (Db.cell rfl),ae (o2'.cell rfl),aq (s:=s) (o2'.cell rfl),hh4,ak hop]
  simp only[aE,ar,aM,ek,asInt,if_true]
  rw[if_pos (by simp[he]),o3'.aep (by omega) rfl (by simp) rfl]
  have o3p:OB (h5.put h2.next (some [.int .i64 0,.slice none 0 0])) h2.next [.int .i64 0,.slice none 0 0]:=o3'.put _
  rw[ae (o3p.cell rfl),aq (s:=⟨none,0,0⟩) (o3p.cell rfl)]
 have qe:an h (h5.put h2.next (some [.int .i64 0,.slice none 0 0])):=(q14.trans q5).put (by omega) _
 rcases hO with⟨nf,e⟩|⟨D,gen,g,hF,gf,gb,e⟩
 ·exact⟨_,_,go (errw 1 none (by omega) e),qe,.oz nf rfl⟩
 ·by_cases c:gK D cols rs=0
  ·rw[if_pos c,c] at e
   obtain⟨c0,c1,c2,rows,er,wid⟩:=Cw c
   have aO6:=gf.agk
   have hs5:=hs.quiet (q14.trans q5)
   rw[er] at hs5 c2
   obtain⟨h6,s',pv,r1,r2,r3,r4⟩:=asn (fl:=fl) (w:=cols.toNat) aO6 gf hs5 (by omega) (by omega) (by have:=q5.1;omega) (by simp at c2;omega) wid
   have hct:((cols.toNat:Nat):Int)=cols:=Int.toNat_of_nonneg c0
   rw[hct] at r1
   have akT:=((Db.quiet q4).quiet q5)
   have aAe:=(o2'.quiet q4).quiet q5
   have aVU:=o3'.quiet r2
   have o3p:OB (h6.put h2.next (some [.int .i64 cols,.slice s'.a s'.l s'.c])) h2.next [.int .i64 cols,.slice s'.a s'.l s'.c]:=aVU.put _
   have n5:=q5.1
   have q6:=(q14.trans q5).trans r2
   refine⟨h6.put h2.next (some [.int .i64 cols,.slice s'.a s'.l s'.c]),_,go ?_,q6.put (by omega) _,.ok D gen hF aO6 rows er wid c s' pv ?_ ?_ rfl⟩
   ·unfold cD auJ bJ
    rw[eK]
    dsimp only
    rw[hh2,hh3,ae (Db.cell rfl),ae (Db.cell rfl),aq (s:=mod) (Db.cell rfl),ae (o2'.cell rfl),aq (s:=s) (o2'.cell rfl),hh4,ak e]
    simp only[aE,ar,aM,ek,asInt,if_true]
    rw[if_neg (by simp),aq (s:=s) (aAe.cell rfl),ae (aAe.cell rfl),ak r1]
    simp only[aE,ar,aM,aX]
    rw[ae ((aAe.quiet r2).cell rfl),aVU.aep (xs:=[.int .i64 cols,.slice s'.a s'.l s'.c]) (by omega) rfl (by simp) rfl,ae (o3p.cell rfl),aq (s:=s') (o3p.cell rfl)]
   ·exact(r3.J6 (kg.put (o:=0) (t:=none) _) (by omega)).mono (by omega)
   ·exact(r4.aHb (h':=h6.put h2.next (some [.int .i64 cols,.slice s'.a s'.l s'.c])) (Nat.le_refl _) (fun a ha=>ahS _ (by have:=r4.ge a ha;omega))).mono (by omega)
  ·rw[if_neg c] at e
   exact⟨_,_,go (errw _ none c e),qe,.bad D gen hF gf.agk c rfl⟩
end
end Go.Abs.P
end
