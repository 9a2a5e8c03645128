/- Shortened by a program of ours out of readable texts. -/
import Derived.Test.YtgplcfblbkmcmaaGreatQ1
import Derived.Test.YtgplcfblbkmcmaaGreatProg
import Derived.KernelRfl
set_option maxRecDepth 100000
set_option linter.unusedVariables false
namespace Go.Abs.P
open Go.Abs Go.Abs.CP Go.Abs.C Go.Proofs
variable{R:Type}(C:Callee)(fl k:Nat)(K:KF R)
abbrev au(R:Type):=Bool→AH→Option R
def aoD(t2:Bool):List Value:=un 2 (.bool t2::un 77 [])
def aj6:aa:=.seq (.region [oI 1 (.box (.t 0)),oI 2 (.mv (.c (.bool false)))] [0,2]) (.seq (.region [oI 11 (.call (.f 11) [] (.one (.one .bool))),no 12 11,m 13 12,.fc 13 false [qI 14 (.load (.agg [.int .i64,.int .i64,.slice,.int .i64,.slice]) (.t 1)),qI 15 (.call (.f 12) [.t 14] (.one (.one .bool))),qI 16 (.not (.t 15))],oI 17 (.pick (.t 13) (.c (.bool true)) (.t 16)),m 18 17,.fc 18 false [qI 19 (.load (.agg [.int .i64,.int .i64,.slice,.int .i64,.slice]) (.t 1)),qI 20 (.call (.f 32) [.t 19] (.one (.one (.int .i64)))),qI 21 (.cmp .neq .i64 (.t 20) (ci 0))],oI 22 (.pick (.t 18) (.c (.bool true)) (.t 21)),m 23 22,.fc 23 false [qI 24 (.cu 3 (.t 1)),qI 25 (.load (.one (.int .i64)) (.t 24)),qI 26 (.cmp .gtr .i64 (.t 25) (ci 9))],oI 27 (.pick (.t 23) (.c (.bool true)) (.t 26))] [11,12,13,14,15,16,17,18,19,20,21,22,23,24,25,26]) (.seq (.cond (.t 27) (.seq (.region [oI 28 (.call (.f 11) [] (.one (.one .bool))),m 2 28] [1,27,28]) (.ret)) (kl [27])) (.seq (.region [oI 30 (.load (.agg [.int .i64,.int .i64,.slice,.int .i64,.slice]) (.t 1)),oI 31 (.call (.f 34) [.t 30] (.jo [.agg [.int .i64,.int .i64,.slice,.int .i64,.slice],.one (.int .i64)])),m 29 31,ex 32 29 0,ex 33 29 1,oI 3 (.alloc [.int .i64 0,.int .i64 0,.slice none 0 0,.int .i64 0,.slice none 0 0]),sI 5 3 32,m 4 33] [29,30,31,32,33]) (.seq (.region [oI 35 (.load (.agg [.int .i64,.int .i64,.slice,.int .i64,.slice]) (.t 1)),oI 36 (.call (.f 13) [.t 35] (.jo [.one .slice,.one (.int .i64)])),m 34 36,ex 37 34 0,ex 38 34 1,m 5 37,m 6 38] [34,35,36,37,38]) (.seq (.region [oI 40 (.load (.agg [.int .i64,.int .i64,.slice,.int .i64,.slice]) (.t 3)),oI 41 (.call (.f 13) [.t 40] (.jo [.one .slice,.one (.int .i64)])),m 39 41,ex 42 39 0,ex 43 39 1,m 7 42,m 8 43] [3,39,40,41,42,43]) (.seq (.region [m 45 5,fa 46 3 1,li 47 46,oI 48 (.call (.f 23) [.t 45,.t 47] (.jo [.one .slice,.one (.int .i64)])),m 44 48,ex 49 44 0,ex 50 44 1,m 9 49,m 10 50] [44,45,46,47,48,49,50]) (.seq (.region [m 51 4,ck 52 .eql 51 0,m 53 52,.fc 53 true [qI 54 (.mv (.t 6)),qI 55 (.cmp .eql .i64 (.t 54) (ci 0))],oI 56 (.pick (.t 53) (.t 55) (.c (.bool false))),m 57 56,.fc 57 true [qI 58 (.mv (.t 8)),qI 59 (.cmp .eql .i64 (.t 58) (ci 0))],oI 60 (.pick (.t 57) (.t 59) (.c (.bool false))),m 61 60,.fc 61 true [qI 62 (.mv (.t 10)),qI 63 (.cmp .eql .i64 (.t 62) (ci 0))],oI 64 (.pick (.t 61) (.t 63) (.c (.bool false))),m 65 64,.fc 65 true [qI 66 (.mv (.t 5)),qI 67 (.len (.t 66)),qI 68 (.mv (.t 7)),qI 69 (.len (.t 68)),qI 70 (.bin .add .i64 (.t 67) (.t 69)),qI 71 (.cu 3 (.t 1)),qI 72 (.load (.one (.int .i64)) (.t 71)),qI 73 (.cmp .eql .i64 (.t 70) (.t 72))],oI 74 (.pick (.t 65) (.t 73) (.c (.bool false))),m 75 74,.fc 75 true [qI 76 (.mv (.t 9)),qI 77 (.mv (.t 7)),qI 78 (.call (.f 17) [.t 76,.t 77] (.one (.one .bool)))],oI 79 (.pick (.t 75) (.t 78) (.c (.bool false))),m 2 79] [1,4,5,6,7,8,9,10,51,52,53,54,55,56,57,58,59,60,61,62,63,64,65,66,67,68,69,70,71,72,73,74,75,76,77,78,79]) (.ret))))))))
abbrev bQ(R:Type):=Int→Int→Sl→Int→Sl→AH→Option R
def aoE(aI aH:Int)(aK:Sl)(jT:Int)(jU:Sl):List Value:=.agg ⟨[vi aI,vi aH,vs aK,vi jT,vs jU]⟩::un 79 []
def eP:ay:=⟨80,aj6,[.tmp 2]⟩
theorem xi:okF Tryz.prog 9 eP=true:=by kernel_rfl
def QF{R:Type}(C:Callee)(fl k:Nat)(kr:au R):bQ R:=fun aI aH aK jT jU h=>cU h [vi aI,vi aH,vs aK,vi jT,vs jU] fun b1 h2=>aC C fl fn.eE [] h2 fun v3 h4=>asBool v3 fun b5=>if (!b5)=false then aE .i64 h4 b1 0 fun n6=>aE .i64 h4 b1 1 fun n7=>bM h4 b1 2 fun s8=>aE .i64 h4 b1 3 fun n9=>bM h4 b1 4 fun s10=>aC C fl fn.nC [.agg ⟨[vi n6,vi n7,vs s8,vi n9,vs s10]⟩] h4 fun v11 H3=>asBool v11 fun b13=>if (!b13)=false then aE .i64 H3 b1 0 fun DM=>aE .i64 H3 b1 1 fun TI=>bM H3 b1 2 fun Sk=>aE .i64 H3 b1 3 fun Sj=>bM H3 b1 4 fun s18=>aC C fl fn.nD [.agg ⟨[vi DM,vi TI,vs Sk,vi Sj,vs s18]⟩] H3 fun v19 h20=>asInt .i64 v19 fun n21=>if (n21 !=0)=false then aE .i64 h20 b1 3 fun Sm=>if decide (Sm>9)=true then aC C fl fn.eE [] h20 fun v23 yc=>asBool v23 fun b25=>kr b25 yc else aE .i64 h20 b1 0 fun PW=>aE .i64 h20 b1 1 fun n27=>bM h20 b1 2 fun s28=>aE .i64 h20 b1 3 fun n29=>bM h20 b1 4 fun s30=>aC C fl fn.lp [.agg ⟨[vi PW,vi n27,vs s28,vi n29,vs s30]⟩] h20 fun v31 PU=>bj v31 fun l33=>aG l33 fun v34 l35=>asAgg v34 fun l36=>aG l36 fun v37 l38=>asInt .i64 v37 fun n39=>aG l38 fun v40 l41=>asInt .i64 v40 fun n42=>aG l41 fun v43 l44=>bB v43 fun s45=>aG l44 fun v46 l47=>asInt .i64 v46 fun n48=>aG l47 fun v49 l50=>bB v49 fun s51=>ch l50 (aG l35 fun v52 l53=>asInt .i64 v52 fun n54=>ch l53 (cU PU [.int .i64 0,.int .i64 0,.slice none 0 0,.int .i64 0,.slice none 0 0] fun b55 h56=>st fl h56 ⟨b55,0,none⟩ [vi n39,vi n42,vs s45,vi n48,vs s51] fun h57=>aE .i64 h57 b1 0 fun n58=>aE .i64 h57 b1 1 fun n59=>bM h57 b1 2 fun s60=>aE .i64 h57 b1 3 fun n61=>bM h57 b1 4 fun s62=>aC C fl fn.dK [.agg ⟨[vi n58,vi n59,vs s60,vi n61,vs s62]⟩] h57 fun v63 h64=>bj v63 fun l65=>aG l65 fun v66 l67=>bB v66 fun s68=>aG l67 fun v69 l70=>asInt .i64 v69 fun n71=>ch l70 (aE .i64 h64 b55 0 fun n72=>aE .i64 h64 b55 1 fun n73=>bM h64 b55 2 fun s74=>aE .i64 h64 b55 3 fun n75=>bM h64 b55 4 fun s76=>aC C fl fn.dK [.agg ⟨[vi n72,vi n73,vs s74,vi n75,vs s76]⟩] h64 fun v77 h78=>bj v77 fun l79=>aG l79 fun v80 l81=>bB v80 fun s82=>aG l81 fun v83 l84=>asInt .i64 v83 fun n85=>ch l84 (aE .i64 h78 b1 3 fun n86=>aC C fl fn.bV [vs s68,vi n86] h78 fun v87 h88=>bj v87 fun l89=>aG l89 fun v90 l91=>bB v90 fun s92=>aG l91 fun v93 l94=>asInt .i64 v93 fun n95=>ch l94 (if (n54==0)=true then if (n71==0)=true then if (n85==0)=true then if (n95==0)=true then aE .i64 h88 b1 3 fun n96=>if (bL (((s68.l:Nat):Int)+((s82.l:Nat):Int))==n96)=true then aC C fl fn.gi [vs s92,vs s82] h88 fun v97 h98=>asBool v97 fun b99=>kr b99 h98 else kr false h88 else kr false h88 else kr false h88 else kr false h88 else kr false h88))))) else aC C fl fn.eE [] h20 fun aBb aBi=>asBool aBb fun aB4=>kr aB4 aBi else aC C fl fn.eE [] H3 fun aAc aAu=>asBool aAc fun aAY=>kr aAY aAu else aC C fl fn.eE [] h4 fun aBY aBP=>asBool aBY fun aAN=>kr aAN aBP
theorem aoF:(cp aoE (ce C fl k aj6 K))=QF C fl k (cp aoD (K .ret)):=by kernel_rfl
def fG(ax aw:Int)(aA:Sl)(eu:Int)(et:Sl)(h:AH):Option (Value×AH):=QF C fl k (fun y2 q=>some (.bool y2,q)) ax aw aA eu et h
theorem vV(ax aw:Int)(aA:Sl)(eu:Int)(et:Sl)(h):bl C fl k eP [.agg ⟨[vi ax,vi aw,vs aA,vi eu,vs et]⟩] h=fG C fl k ax aw aA eu et h:=vU (aoF C fl k (aD _)) ax aw aA eu et (by kernel_rfl) (by kernel_rfl)
def r9:ay:=⟨150,.seq (.region [oI 0 (.mv (.c (.bool false)))] [0]) (.seq (.region [oI 17 (.build [.int .i64 0,.int .i64 0,.slice none 0 0] [(0,1,ci 2),(1,1,ci 1)]),oI 18 (.aQ 4 [.int .i64 0,.int .i64 0,.int .i64 0,.int .i64 0] [(0,1,ci 1),(1,1,ci 0),(2,1,ci 1),(3,1,ci 0)]),oI 19 (.aQ 4 [.int .i64 0,.int .i64 0,.int .i64 0,.int .i64 0] [(0,1,ci 0),(1,1,ci 1),(2,1,ci 1),(3,1,ci 1)]),oI 20 (.aQ 2 [.slice none 0 0,.slice none 0 0] [(0,1,.t 18),(1,1,.t 19)]),oI 21 (.build [.int .i64 0,.int .i64 0,.slice none 0 0,.int .i64 0,.slice none 0 0] [(0,3,.t 17),(3,1,ci 4),(4,1,.t 20)]),oI 1 (.alloc [.int .i64 0,.int .i64 0,.slice none 0 0,.int .i64 0,.slice none 0 0]),sI 5 1 21] [17,18,19,20,21]) (.seq (.region [oI 23 (.load (.agg [.int .i64,.int .i64,.slice,.int .i64,.slice]) (.t 1)),oI 24 (.call (.f 18) [.t 23,ci 1] (.jo [.one .slice,.one (.int .i64)])),m 22 24,ex 25 22 0,ex 26 22 1,m 2 25,m 3 26] [22,23,24,25,26]) (.seq (.region [oI 28 (.load (.agg [.int .i64,.int .i64,.slice,.int .i64,.slice]) (.t 1)),oI 29 (.call (.f 13) [.t 28] (.jo [.one .slice,.one (.int .i64)])),m 27 29,ex 30 27 0,ex 31 27 1,m 4 30,m 5 31] [27,28,29,30,31]) (.seq (.region [oI 33 (.load (.agg [.int .i64,.int .i64,.slice,.int .i64,.slice]) (.t 1)),oI 34 (.call (.f 15) [.t 33] (.jo [.one .slice,.one (.int .i64)])),m 32 34,ex 35 32 0,ex 36 32 1,m 6 35,m 7 36] [32,33,34,35,36]) (.seq (.region [oI 38 (.aQ 2 [.int .i64 0,.int .i64 0] [(0,1,ci 2),(1,1,ci 4)]),oI 39 (.call (.f 23) [.t 38,ci 4] (.jo [.one .slice,.one (.int .i64)])),m 37 39,ex 40 37 0,ex 41 37 1,m 8 40,m 9 41] [37,38,39,40,41]) (.seq (.region [oI 43 (.load (.agg [.int .i64,.int .i64,.slice,.int .i64,.slice]) (.t 1)),oI 44 (.aQ 3 [.int .i64 0,.int .i64 0,.int .i64 0] [(0,1,ci 0),(1,1,ci 2),(2,1,ci 3)]),oI 45 (.call (.f 20) [.t 43,.t 44] (.jo [.agg [.int .i64,.int .i64,.slice,.int .i64,.slice],.one (.int .i64)])),m 42 45,ex 46 42 0,ex 47 42 1,oI 10 (.alloc [.int .i64 0,.int .i64 0,.slice none 0 0,.int .i64 0,.slice none 0 0]),sI 5 10 46,m 11 47] [42,43,44,45,46,47]) (.seq (.region [oI 49 (.load (.agg [.int .i64,.int .i64,.slice,.int .i64,.slice]) (.t 1)),oI 50 (.call (.f 25) [.t 49] (.jo [.agg [.slice,.slice],.one (.int .i64)])),m 48 50,ex 51 48 0,ex 52 48 1,oI 12 (.alloc [.slice none 0 0,.slice none 0 0]),sI 2 12 51,m 13 52] [48,49,50,51,52]) (.seq (.region [oI 54 (.load (.agg [.int .i64,.int .i64,.slice,.int .i64,.slice]) (.t 1)),oI 55 (.load (.agg [.slice,.slice]) (.t 12)),oI 56 (.call (.f 28) [.t 54,.t 55] (.jo [.one .slice,.one (.int .i64)])),m 53 56,ex 57 53 0,ex 58 53 1,m 14 57,m 15 58] [1,53,54,55,56,57,58]) (.seq (.region [m 59 3,ck 60 .eql 59 0,m 61 60,.fc 61 true [qI 62 (.mv (.t 5)),qI 63 (.cmp .eql .i64 (.t 62) (ci 0))],oI 64 (.pick (.t 61) (.t 63) (.c (.bool false))),m 65 64,.fc 65 true [qI 66 (.mv (.t 7)),qI 67 (.cmp .eql .i64 (.t 66) (ci 0))],oI 68 (.pick (.t 65) (.t 67) (.c (.bool false))),m 69 68,.fc 69 true [qI 70 (.mv (.t 9)),qI 71 (.cmp .eql .i64 (.t 70) (ci 0))],oI 72 (.pick (.t 69) (.t 71) (.c (.bool false))),m 73 72,.fc 73 true [qI 74 (.mv (.t 11)),qI 75 (.cmp .eql .i64 (.t 74) (ci 0))],oI 76 (.pick (.t 73) (.t 75) (.c (.bool false))),m 77 76,.fc 77 true [qI 78 (.mv (.t 13)),qI 79 (.cmp .eql .i64 (.t 78) (ci 0))],oI 80 (.pick (.t 77) (.t 79) (.c (.bool false))),m 81 80,.fc 81 true [qI 82 (.mv (.t 15)),qI 83 (.cmp .eql .i64 (.t 82) (ci 0))],oI 84 (.pick (.t 81) (.t 83) (.c (.bool false))),m 16 84] [3,5,7,9,11,13,15,59,60,61,62,63,64,65,66,67,68,69,70,71,72,73,74,75,76,77,78,79,80,81,82,83,84]) (.seq (.region [m 85 16,m 86 85,.fc 86 true [qI 87 (.mv (.t 2)),qI 88 (.aQ 2 [.int .i64 0,.int .i64 0] [(0,1,ci 0),(1,1,ci 2)]),qI 89 (.call (.f 17) [.t 87,.t 88] (.one (.one .bool)))],oI 90 (.pick (.t 86) (.t 89) (.c (.bool false))),m 91 90,.fc 91 true [qI 92 (.mv (.t 4)),qI 93 (.aQ 2 [.int .i64 0,.int .i64 0] [(0,1,ci 2),(1,1,ci 4)]),qI 94 (.call (.f 17) [.t 92,.t 93] (.one (.one .bool)))],oI 95 (.pick (.t 91) (.t 94) (.c (.bool false))),m 96 95,.fc 96 true [qI 97 (.mv (.t 6)),qI 98 (.aQ 5 [.int .i64 0,.int .i64 0,.int .i64 0,.int .i64 0,.int .i64 0] [(0,1,ci 0),(1,1,ci 0),(2,1,ci 1),(3,1,ci 1),(4,1,ci 2)]),qI 99 (.call (.f 17) [.t 97,.t 98] (.one (.one .bool)))],oI 100 (.pick (.t 96) (.t 99) (.c (.bool false))),m 101 100,.fc 101 true [qI 102 (.mv (.t 8)),qI 103 (.aQ 2 [.int .i64 0,.int .i64 0] [(0,1,ci 2),(1,1,ci 4)]),qI 104 (.call (.f 17) [.t 102,.t 103] (.one (.one .bool)))],oI 105 (.pick (.t 101) (.t 104) (.c (.bool false))),m 106 105,.fc 106 true [qI 107 (.cu 4 (.t 10)),qI 108 (.load (.one .slice) (.t 107)),qI 109 (.aQ 4 [.int .i64 0,.int .i64 0,.int .i64 0,.int .i64 0] [(0,1,ci 1),(1,1,ci 0),(2,1,ci 1),(3,1,ci 0)]),qI 110 (.aQ 1 [.slice none 0 0] [(0,1,.t 109)]),qI 111 (.call (.f 38) [.t 108,.t 110] (.one (.one .bool)))],oI 112 (.pick (.t 106) (.t 111) (.c (.bool false))),m 113 112,.fc 113 true [qI 114 (.mv (.t 14)),qI 115 (.aQ 2 [.int .i64 0,.int .i64 0] [(0,1,ci 2),(1,1,ci 4)]),qI 116 (.call (.f 17) [.t 114,.t 115] (.one (.one .bool)))],oI 117 (.pick (.t 113) (.t 116) (.c (.bool false))),m 16 117] [2,4,6,8,10,14,85,86,87,88,89,90,91,92,93,94,95,96,97,98,99,100,101,102,103,104,105,106,107,108,109,110,111,112,113,114,115,116,117]) (.seq (.region [m 118 16,m 119 118,.fc 119 true [qI 120 (.cu 1 (.t 12)),qI 121 (.load (.one .slice) (.t 120)),qI 122 (.len (.t 121)),qI 123 (.cmp .eql .i64 (.t 122) (ci 2))],oI 124 (.pick (.t 119) (.t 123) (.c (.bool false))),m 125 124,.fc 125 true [qI 126 (.cu 1 (.t 12)),qI 127 (.load (.one .slice) (.t 126)),qI 128 (.dx 1 (.t 127) (ci 0)),qI 129 (.cu 0 (.t 128)),qI 130 (.load (.one .slice) (.t 129)),qI 131 (.aQ 2 [.int .i64 0,.int .i64 0] [(0,1,ci 0),(1,1,ci 1)]),qI 132 (.aQ 2 [.int .i64 0,.int .i64 0] [(0,1,ci 1),(1,1,ci 2)]),qI 133 (.aQ 2 [.int .i64 0,.int .i64 0] [(0,1,ci 0),(1,1,ci 2)]),qI 134 (.aQ 3 [.slice none 0 0,.slice none 0 0,.slice none 0 0] [(0,1,.t 131),(1,1,.t 132),(2,1,.t 133)]),qI 135 (.call (.f 38) [.t 130,.t 134] (.one (.one .bool)))],oI 136 (.pick (.t 125) (.t 135) (.c (.bool false))),m 137 136,.fc 137 true [qI 138 (.cu 1 (.t 12)),qI 139 (.load (.one .slice) (.t 138)),qI 140 (.dx 1 (.t 139) (ci 1)),qI 141 (.cu 0 (.t 140)),qI 142 (.load (.one .slice) (.t 141)),qI 143 (.aQ 1 [.int .i64 0] [(0,1,ci 0)]),qI 144 (.aQ 1 [.int .i64 0] [(0,1,ci 1)]),qI 145 (.aQ 1 [.int .i64 0] [(0,1,ci 2)]),qI 146 (.aQ 1 [.int .i64 0] [(0,1,ci 3)]),qI 147 (.aQ 4 [.slice none 0 0,.slice none 0 0,.slice none 0 0,.slice none 0 0] [(0,1,.t 143),(1,1,.t 144),(2,1,.t 145),(3,1,.t 146)]),qI 148 (.call (.f 38) [.t 142,.t 147] (.one (.one .bool)))],oI 149 (.pick (.t 137) (.t 148) (.c (.bool false))),m 0 149] [12,16,118,119,120,121,122,123,124,125,126,127,128,129,130,131,132,133,134,135,136,137,138,139,140,141,142,143,144,145,146,147,148,149]) (.ret)))))))))))),[.tmp 0]⟩
theorem QG:okF Tryz.prog 11 r9=true:=by kernel_rfl
def aoG(t2:Bool):List Value:=un 2 (.bool t2::un 17 [])
def aj7:aa:=.seq (.region [oI 1 (.box (.t 0)),oI 2 (.mv (.c (.bool false)))] [0,2]) (.seq (.region [oI 3 (.load (.agg [.int .i64,.int .i64,.slice,.int .i64,.slice]) (.t 1)),oI 4 (.call (.f 29) [.t 3,ci 120] (.one (.one .bool))),m 5 4,.fc 5 true [qI 6 (.load (.agg [.int .i64,.int .i64,.slice,.int .i64,.slice]) (.t 1)),qI 7 (.call (.f 32) [.t 6] (.one (.one (.int .i64)))),qI 8 (.cmp .neq .i64 (.t 7) (ci 0)),qI 9 (.mv (.t 8))],.fc 9 false [qI 10 (.cu 3 (.t 1)),qI 11 (.load (.one (.int .i64)) (.t 10)),qI 12 (.cmp .gtr .i64 (.t 11) (ci 16))],.fc 5 true [qI 13 (.pick (.t 9) (.c (.bool true)) (.t 12)),qI 14 (.mv (.t 13))],.fc 14 false [qI 15 (.cu 3 (.t 1)),qI 16 (.load (.one (.int .i64)) (.t 15)),qI 17 (.cmp .leq .i64 (.t 16) (ci 9))],.fc 5 true [qI 18 (.pick (.t 14) (.c (.bool true)) (.t 17))],oI 19 (.pick (.t 5) (.t 18) (.c (.bool false))),m 2 19] [1,3,4,5,6,7,8,9,10,11,12,13,14,15,16,17,18,19]) (.ret))
def aoH(aI aH:Int)(aK:Sl)(jT:Int)(jU:Sl):List Value:=.agg ⟨[vi aI,vi aH,vs aK,vi jT,vs jU]⟩::un 19 []
def sd:ay:=⟨20,aj7,[.tmp 2]⟩
theorem QH:okF Tryz.prog 12 sd=true:=by kernel_rfl
def YE{R:Type}(C:Callee)(fl k:Nat)(kr:au R):bQ R:=fun aI aH aK jT jU h=>cU h [vi aI,vi aH,vs aK,vi jT,vs jU] fun b1 h2=>aE .i64 h2 b1 0 fun n3=>aE .i64 h2 b1 1 fun n4=>bM h2 b1 2 fun s5=>aE .i64 h2 b1 3 fun n6=>bM h2 b1 4 fun s7=>aC C fl fn.qh [.agg ⟨[vi n3,vi n4,vs s5,vi n6,vs s7]⟩,vi 120] h2 fun v8 h9=>asBool v8 fun b10=>if b10=true then aE .i64 h9 b1 0 fun Cw=>aE .i64 h9 b1 1 fun Cs=>bM h9 b1 2 fun s13=>aE .i64 h9 b1 3 fun DM=>bM h9 b1 4 fun XX=>aC C fl fn.nD [.agg ⟨[vi Cw,vi Cs,vs s13,vi DM,vs XX]⟩] h9 fun v16 Me=>asInt .i64 v16 fun n18=>if (n18 !=0)=false then aE .i64 Me b1 3 fun PY=>if decide (PY>16)=false then aE .i64 Me b1 3 fun n20=>kr (decide (n20≤9)) Me else kr true Me else kr true Me else kr false h9
theorem aoI:(cp aoH (ce C fl k aj7 K))=YE C fl k (cp aoG (K .ret)):=by kernel_rfl
def nC(ax aw:Int)(aA:Sl)(eu:Int)(et:Sl)(h:AH):Option (Value×AH):=YE C fl k (fun y2 q=>some (.bool y2,q)) ax aw aA eu et h
theorem NU(ax aw:Int)(aA:Sl)(eu:Int)(et:Sl)(h):bl C fl k sd [.agg ⟨[vi ax,vi aw,vs aA,vi eu,vs et]⟩] h=nC C fl k ax aw aA eu et h:=vU (aoI C fl k (aD _)) ax aw aA eu et (by kernel_rfl) (by kernel_rfl)
abbrev aO(R:Type):=Sl→Int→AH→Option R
def Ph(t2:Sl)(t3:Int):List Value:=un 2 (t2.v::vi t3::un 27 [])
def F9:aa:=.seq (.region [m 30 6,m 2 30,mc 3 0] [6,30]) (.ret)
abbrev ak(R:Type):=Sl→AH→Option R
def Vk(t6:Sl):List Value:=un 6 (t6.v::un 24 [])
abbrev IM(R:Type):=Addr→Sl→Sl→Addr→AH→Option R
def IN(t1:Addr)(t4 t6:Sl)(t7:Addr):List Value:=un 1 (vp t1::un 2 (t4.v::un 1 (t6.v::vp t7::un 23 [])))
def Ga:aa:=.seq (.region [li 16 7,fa 17 4 1,ls 18 17,ln 19 18,cm 20 .leq 16 19] [16,17,18,19]) (.seq (.cond (.t 20) (kl [20]) (.seq (kl [1,4,7,20]) (.exit 0))) (.seq (.block 1 (.region [m 23 6,m 24 4,oI 25 (.xd 40 [] [.t 7]),oI 26 (.call (.f 39) [.t 24,.t 25] (.one (.one (.int .i64)))),oI 27 (.aQ 1 [.int .i64 0] [(0,1,.t 26)]),oI 28 (.append 1 8 (.t 23) (.t 27)),m 6 28] [23,24,25,26,27,28])) (.seq (.region [li 29 7] [7]) (.seq (.region [oI 7 (.alloc [.int .i64 0]),sI 1 7 29] [29]) (.region [li 21 7,bc 22 .add 21 1,sI 1 7 22] [21,22])))))
def QI:aa:=.seq (.block 0 (.loop Ga)) F9
def aef(cn:aa):aa:=.seq (.seq (.region [oI 1 (.box (.t 0)),oI 2 (.mv (.c (.slice none 0 0))),mc 3 0] [0,2,3]) (.seq (.region [oI 9 (.load (.agg [.int .i64,.int .i64,.slice,.int .i64,.slice]) (.t 1)),oI 10 (.call (.f 15) [.t 9] (.jo [.one .slice,.one (.int .i64)])),m 8 10,ex 11 8 0,ex 12 8 1,m 4 11,m 5 12] [8,9,10,11,12]) (.seq (.region [m 13 5,ck 14 .neq 13 0] [13]) (.seq (.cond (.t 14) (.seq (.region [m 15 5,oI 2 (.mv (.c (.slice none 0 0))),m 3 15] [1,4,5,14,15]) (.ret)) (kl [5,14])) (.seq (.region [oI 6 (.mv (.c (.slice none 0 0)))] []) (.region [oI 7 (.alloc [.int .i64 0]),pI (.store 1 (.t 7) (ci 1))] [])))))) cn
def aj8:aa:=aef QI
def aeg(aI aH:Int)(aK:Sl)(jT:Int)(jU:Sl):List Value:=.agg ⟨[vi aI,vi aH,vs aK,vi jT,vs jU]⟩::un 30 []
def iN:ay:=⟨31,aj8,[.tmp 2,.tmp 3]⟩
theorem CX:okF Tryz.prog 13 iN=true:=by kernel_rfl
def La{R:Type}(C:Callee)(fl k:Nat)(kr:aO R):ak R:=fun t6 h=>kr t6 0 h
theorem YF:(cp Vk (ce C fl k F9 K))=La C fl k (cp Ph (K .ret)):=by kernel_rfl
def qm{R:Type}(C:Callee)(fl k:Nat)(kn:IM R)(e0:ak R):IM R:=fun t1 t4 t6 t7 h=>aE .i64 h t7.block t7.off fun n1=>bM h t1.block (t1.off+4) fun s2=>if decide (n1≤((s2.l:Nat):Int))=true then aC C fl fn.eA [vs t4,.func (.func fn.cG) ⟨[]⟩ ⟨[.pointer (some t7)]⟩] h fun v3 h4=>asInt .i64 v3 fun n5=>cU h4 [vi n5] fun b6 h7=>fW fl 1 8 t6 ⟨(some ⟨b6,0,none⟩),1,1⟩ h7 fun s8 h9=>aE .i64 h9 t7.block t7.off fun ux=>cU h9 [.int .i64 0] fun b11 H3=>st fl H3 ⟨b11,0,none⟩ [vi ux] fun uV=>aE .i64 uV b11 0 fun DM=>st fl uV ⟨b11,0,none⟩ [vi (bL (DM+1))] fun EP=>kn t1 t4 s8 ⟨b11,0,none⟩ EP else e0 t6 h
theorem YG:(cp IN (ce C fl k Ga K))=qm C fl k (cp IN (K .normal)) (cp Vk (K (.exit 0))):=by kernel_rfl
def nK(kn:ak R):Nat→IM R
 |0=>fun _ _ _ _ _=>none
 |m+1=>qm C fl k (nK kn m) kn
theorem Mq:∀m,(cp IN (aR m (bH C fl k Ga 0 K)))=nK C fl k (cp Vk (K .normal)) m
 |0=>by kernel_rfl
 |m+1=>mq (YG C fl k _) (aj (fun L=>qm C fl k L _) (Mq m))
def Vl(kr:aO R):IM R:=nK C fl k (La C fl k kr) k
theorem agT:(cp IN (ce C fl k QI K))=Vl C fl k (cp Ph (K .ret)):=(ou (mw (Mq C fl k (bU C fl k F9 K)))).trans (aj (fun L=>nK C fl k L k) (oh (YF C fl k K)))
def Lb{R:Type}(C:Callee)(fl k:Nat)(kx:IM R)(kr:aO R):bQ R:=fun aI aH aK jT jU h=>cU h [vi aI,vi aH,vs aK,vi jT,vs jU] fun b16 Me=>aE .i64 Me b16 0 fun n18=>aE .i64 Me b16 1 fun PY=>bM Me b16 2 fun UG=>aE .i64 Me b16 3 fun n21=>bM Me b16 4 fun s22=>aC C fl fn.fe [.agg ⟨[vi n18,vi PY,vs UG,vi n21,vs s22]⟩] Me fun v23 yc=>bj v23 fun l25=>aG l25 fun v26 l27=>bB v26 fun s28=>aG l27 fun v29 l30=>asInt .i64 v29 fun n31=>ch l30 (if (n31 !=0)=true then kr ⟨none,0,0⟩ n31 yc else cU yc [.int .i64 0] fun b32 h33=>st fl h33 ⟨b32,0,none⟩ [vi 1] fun h34=>kx ⟨b16,0,none⟩ s28 ⟨none,0,0⟩ ⟨b32,0,none⟩ h34)
def Ul(kr:aO R):bQ R:=Lb C fl k (Vl C fl k kr) kr
theorem aoJ(cn:aa):(cp aeg (ce C fl k (aef cn) K))=Lb C fl k (cp IN (ce C fl k cn K)) (cp Ph (K .ret)):=by kernel_rfl
theorem aoK:(cp aeg (ce C fl k aj8 K))=Ul C fl k (cp Ph (K .ret)):=(aoJ C fl k K QI).trans (aj (fun L0=>Lb C fl k L0 _) (agT C fl k K))
def dK(ax aw:Int)(aA:Sl)(eu:Int)(et:Sl)(h:AH):Option (Value×AH):=Ul C fl k (fun y2 y3 q=>some (.tuple ⟨[vs y2,vi y3]⟩,q)) ax aw aA eu et h
theorem pS(ax aw:Int)(aA:Sl)(eu:Int)(et:Sl)(h):bl C fl k iN [.agg ⟨[vi ax,vi aw,vs aA,vi eu,vs et]⟩] h=dK C fl k ax aw aA eu et h:=vU (aoK C fl k (aD _)) ax aw aA eu et (by kernel_rfl) (by kernel_rfl)
def Pj(t2:Sl)(t3:Int):List Value:=un 2 (t2.v::vi t3::un 39 [])
def Gb:aa:=.seq (.region [m 42 6,m 2 42,mc 3 0] [6,42]) (.ret)
def Vm(t6:Sl):List Value:=un 6 (t6.v::un 36 [])
abbrev ic(R:Type):=Sl→Sl→Int→Int→AH→Option R
def IP(t6 t22:Sl)(t23 t24:Int):List Value:=un 6 (t6.v::un 15 (t22.v::vi t23::vi t24::un 18 []))
def Gc:aa:=.seq (.region [cm 25 .lss 24 23] []) (.seq (.cond (.t 25) (kl [25]) (.seq (kl [22,23,24,25]) (.exit 0))) (.seq (.block 1 (.seq (.region [m 26 24,ia 27 1 22 24,li 28 27,m 7 26,m 8 28] [26,27,28]) (.seq (.region [m 29 7,oI 30 (.call (.f 44) [.t 29] (.one (.one .slice))),ln 31 30,m 9 31] [7,29,30,31]) (.region [m 32 6,m 33 9,m 34 6,m 35 9,ia 36 1 34 35,li 37 36,m 38 8,oI 39 (.mm true (.t 37) (.t 38)),ia 40 1 32 33,sI 1 40 39] [8,9,32,33,34,35,36,37,38,39,40])))) (.region [bc 41 .add 24 1,m 24 41] [41])))
def QJ:aa:=.seq (.block 0 (.loop Gc)) Gb
def aeh(cn:aa):aa:=.seq (.seq (.region [oI 1 (.box (.t 0)),oI 2 (.mv (.c (.slice none 0 0))),mc 3 0] [0,2,3]) (.seq (.region [oI 11 (.load (.agg [.int .i64,.int .i64,.slice,.int .i64,.slice]) (.t 1)),oI 12 (.call (.f 43) [.t 11] (.jo [.one .slice,.one (.int .i64)])),m 10 12,ex 13 10 0,ex 14 10 1,m 4 13,m 5 14] [10,11,12,13,14]) (.seq (.region [m 15 5,ck 16 .neq 15 0] [15]) (.seq (.cond (.t 16) (.seq (.region [m 17 5,oI 2 (.mv (.c (.slice none 0 0))),m 3 17] [1,4,5,16,17]) (.ret)) (kl [5,16])) (.seq (.region [fa 18 3 1,li 19 18,bc 20 .add 19 1,oI 21 (.cD 8 [.int .i64 0] (.t 20) (.t 20)),m 6 21] [1,18,19,20,21]) (.region [m 22 4,ln 23 22,mc 24 0] [4])))))) cn
def aj9:aa:=aeh QJ
def aei(aI aH:Int)(aK:Sl)(jT:Int)(jU:Sl):List Value:=.agg ⟨[vi aI,vi aH,vs aK,vi jT,vs jU]⟩::un 42 []
def iP:ay:=⟨43,aj9,[.tmp 2,.tmp 3]⟩
theorem CY:okF Tryz.prog 15 iP=true:=by kernel_rfl
def Lc{R:Type}(C:Callee)(fl k:Nat)(kr:aO R):ak R:=fun t6 h=>kr t6 0 h
theorem YH:(cp Vm (ce C fl k Gb K))=Lc C fl k (cp Pj (K .ret)):=by kernel_rfl
def qn{R:Type}(C:Callee)(fl k:Nat)(kn:ic R)(e0:ak R):ic R:=fun t6 t22 t23 t24 h=>if decide (t24<t23)=true then idx 1 t22 t24 fun p1=>aE .i64 h p1.block p1.off fun n2=>aC C fl fn.jj [vi t24] h fun v3 h4=>bB v3 fun s5=>idx 1 t6 ((s5.l:Nat):Int) fun p6=>aE .i64 h4 p6.block p6.off fun n7=>idx 1 t6 ((s5.l:Nat):Int) fun p8=>st fl h4 p8 [vi (if n2>n7 then n2 else n7)] fun h9=>kn t6 t22 t23 (bL (t24+1)) h9 else e0 t6 h
theorem YI:(cp IP (ce C fl k Gc K))=qn C fl k (cp IP (K .normal)) (cp Vm (K (.exit 0))):=by kernel_rfl
def qo(kn:ak R):Nat→ic R
 |0=>fun _ _ _ _ _=>none
 |m+1=>qn C fl k (qo kn m) kn
theorem Mr:∀m,(cp IP (aR m (bH C fl k Gc 0 K)))=qo C fl k (cp Vm (K .normal)) m
 |0=>by kernel_rfl
 |m+1=>mq (YI C fl k _) (aj (fun L=>qn C fl k L _) (Mr m))
def Vn(kr:aO R):ic R:=qo C fl k (Lc C fl k kr) k
theorem agU:(cp IP (ce C fl k QJ K))=Vn C fl k (cp Pj (K .ret)):=(ou (mw (Mr C fl k (bU C fl k Gb K)))).trans (aj (fun L=>qo C fl k L k) (oh (YH C fl k K)))
def Ld{R:Type}(C:Callee)(fl k:Nat)(kx:ic R)(kr:aO R):bQ R:=fun aI aH aK jT jU h=>cU h [vi aI,vi aH,vs aK,vi jT,vs jU] fun b10 mI=>aE .i64 mI b10 0 fun Cs=>aE .i64 mI b10 1 fun Fs=>bM mI b10 2 fun s14=>aE .i64 mI b10 3 fun TI=>bM mI b10 4 fun Sk=>aC C fl fn.ji [.agg ⟨[vi Cs,vi Fs,vs s14,vi TI,vs Sk]⟩] mI fun v17 O4=>bj v17 fun l19=>aG l19 fun v20 l21=>bB v20 fun s22=>aG l21 fun v23 l24=>asInt .i64 v23 fun n25=>ch l24 (if (n25 !=0)=true then kr ⟨none,0,0⟩ n25 O4 else aE .i64 O4 b10 3 fun PW=>xg 8 [.int .i64 0] (bL (PW+1)) (bL (PW+1)) O4 fun s27 h28=>kx s27 s22 ((s22.l:Nat):Int) 0 h28)
def Um(kr:aO R):bQ R:=Ld C fl k (Vn C fl k kr) kr
theorem aoL(cn:aa):(cp aei (ce C fl k (aeh cn) K))=Ld C fl k (cp IP (ce C fl k cn K)) (cp Pj (K .ret)):=by kernel_rfl
theorem aoM:(cp aei (ce C fl k aj9 K))=Um C fl k (cp Pj (K .ret)):=(aoL C fl k K QJ).trans (aj (fun L0=>Ld C fl k L0 _) (agU C fl k K))
def fe(ax aw:Int)(aA:Sl)(eu:Int)(et:Sl)(h:AH):Option (Value×AH):=Um C fl k (fun y2 y3 q=>some (.tuple ⟨[vs y2,vi y3]⟩,q)) ax aw aA eu et h
theorem pT(ax aw:Int)(aA:Sl)(eu:Int)(et:Sl)(h):bl C fl k iP [.agg ⟨[vi ax,vi aw,vs aA,vi eu,vs et]⟩] h=fe C fl k ax aw aA eu et h:=vU (aoM C fl k (aD _)) ax aw aA eu et (by kernel_rfl) (by kernel_rfl)
def D5(t4:Bool):List Value:=un 4 (.bool t4::un 21 [])
def Gd:aa:=.seq (.region [oI 4 (.mv (.c (.bool true)))] []) (.ret)
abbrev ar(R:Type):=AH→Option R
def Vo:List Value:=un 26 []
abbrev fg(R:Type):=Sl→Sl→Int→AH→Option R
def IQ(t0 t1:Sl)(t5:Int):List Value:=t0.v::t1.v::un 3 (vi t5::un 20 [])
def Ge:aa:=.seq (.region [m 11 5,m 12 0,ln 13 12,cm 14 .lss 11 13] [11,12,13]) (.seq (.cond (.t 14) (kl [14]) (.seq (kl [0,1,5,14]) (.exit 0))) (.seq (.block 1 (.seq (.region [m 17 0,m 18 5,ia 19 1 17 18,lj 20 19,m 21 1,m 22 5,ia 23 1 21 22,lj 24 23,cm 25 .neq 20 24] [17,18,19,20,21,22,23,24]) (.cond (.t 25) (.seq (.region [oI 4 (.mv (.c (.bool false)))] [0,1,5,25]) (.ret)) (kl [25])))) (.region [m 15 5,bc 16 .add 15 1,m 5 16] [15,16])))
def QK:aa:=.seq (.block 0 (.loop Ge)) Gd
def aej(cn:aa):aa:=.seq (.seq (.region [oI 4 (.mv (.c (.bool false)))] [4]) (.seq (.region [m 6 0,ln 7 6,m 8 1,ln 9 8,cm 10 .neq 7 9] [6,7,8,9]) (.seq (.cond (.t 10) (.seq (.region [oI 4 (.mv (.c (.bool false)))] [0,1,10]) (.ret)) (kl [10])) (.region [mc 5 0] [])))) cn
def aka:aa:=aej QK
abbrev c8(R:Type):=Sl→Sl→AH→Option R
def aek(t0 t1:Sl):List Value:=t0.v::t1.v::un 24 []
def lA:ay:=⟨26,aka,[.tmp 4]⟩
theorem IS:okF Tryz.prog 17 lA=true:=by kernel_rfl
def D6{R:Type}(C:Callee)(fl k:Nat)(kr:au R):ar R:=fun h=>kr true h
theorem YJ:(cp Vo (ce C fl k Gd K))=D6 C fl k (cp D5 (K .ret)):=by kernel_rfl
def qp{R:Type}(C:Callee)(fl k:Nat)(kn:fg R)(e0:ar R)(kr:au R):fg R:=fun t0 t1 t5 h=>if decide (t5<((t0.l:Nat):Int))=true then idx 1 t0 t5 fun p1=>aE .i64 h p1.block p1.off fun n2=>idx 1 t1 t5 fun p3=>aE .i64 h p3.block p3.off fun n4=>if (n2 !=n4)=true then kr false h else kn t0 t1 (bL (t5+1)) h else e0 h
theorem YK:(cp IQ (ce C fl k Ge K))=qp C fl k (cp IQ (K .normal)) (cp Vo (K (.exit 0))) (cp D5 (K .ret)):=by kernel_rfl
def yW(kn:ar R)(kr:au R):Nat→fg R
 |0=>fun _ _ _ _=>none
 |m+1=>qp C fl k (yW kn kr m) kn kr
theorem Ms:∀m,(cp IQ (aR m (bH C fl k Ge 0 K)))=yW C fl k (cp Vo (K .normal)) (cp D5 (K .ret)) m
 |0=>by kernel_rfl
 |m+1=>mq (YK C fl k _) (aj (fun L=>qp C fl k L _ _) (Ms m))
def ael(kr:au R):fg R:=yW C fl k (D6 C fl k kr) kr k
theorem agV:(cp IQ (ce C fl k QK K))=ael C fl k (cp D5 (K .ret)):=(ou (mw (Ms C fl k (bU C fl k Gd K)))).trans (aj (fun L=>yW C fl k L _ k) (oh (YJ C fl k K)))
def Vp{R:Type}(C:Callee)(fl k:Nat)(kx:fg R)(kr:au R):c8 R:=fun t0 t1 h=>if (((t0.l:Nat):Int) !=((t1.l:Nat):Int))=true then kr false h else kx t0 t1 0 h
def akb(kr:au R):c8 R:=Vp C fl k (ael C fl k kr) kr
theorem aoN(cn:aa):(cp aek (ce C fl k (aej cn) K))=Vp C fl k (cp IQ (ce C fl k cn K)) (cp D5 (K .ret)):=by kernel_rfl
theorem aoO:(cp aek (ce C fl k aka K))=akb C fl k (cp D5 (K .ret)):=(aoN C fl k K QK).trans (aj (fun L0=>Vp C fl k L0 _) (agV C fl k K))
def gi(p0 p1:Sl)(h:AH):Option (Value×AH):=akb C fl k (fun y4 q=>some (.bool y4,q)) p0 p1 h
theorem vW(p0 p1:Sl)(h):bl C fl k lA [vs p0,vs p1] h=gi C fl k p0 p1 h:=Ca (aoO C fl k (aD _)) p0 p1 (by kernel_rfl) (by kernel_rfl)
def iQ:ay:=⟨34,.seq (.region [oI 2 (.box (.t 0)),oI 4 (.mv (.c (.slice none 0 0))),mc 5 0] [0,4,5]) (.seq (.seq (.region [oI 9 (.load (.agg [.int .i64,.int .i64,.slice,.int .i64,.slice]) (.t 2)),oI 10 (.call (.f 47) [.t 9] (.one (.one (.int .i64)))),m 6 10] [9,10]) (.seq (.region [m 11 6,ck 12 .neq 11 0] [11]) (.cond (.t 12) (.seq (.region [m 13 6,oI 4 (.mv (.c (.slice none 0 0))),m 5 13] [1,2,6,12,13]) (.ret)) (kl [6,12])))) (.seq (.seq (.region [m 14 1,ck 15 .lss 14 1,m 16 15,.fc 16 false [qI 17 (.mv (.t 1)),qI 18 (.cu 4 (.t 2)),qI 19 (.load (.one .slice) (.t 18)),qI 20 (.len (.t 19)),qI 21 (.cmp .gtr .i64 (.t 17) (.t 20))],oI 22 (.pick (.t 16) (.c (.bool true)) (.t 21))] [14,15,16,17,18,19,20,21]) (.cond (.t 22) (.seq (.region [oI 4 (.mv (.c (.slice none 0 0))),mc 5 6] [1,2,22]) (.ret)) (kl [22]))) (.seq (.region [oI 24 (.load (.agg [.int .i64,.int .i64,.slice,.int .i64,.slice]) (.t 2)),oI 25 (.call (.f 43) [.t 24] (.jo [.one .slice,.one (.int .i64)])),m 23 25,ex 26 23 0,ex 27 23 1,m 7 26,m 8 27] [2,23,24,25,26,27]) (.seq (.seq (.region [m 28 8,ck 29 .neq 28 0] [28]) (.cond (.t 29) (.seq (.region [m 30 8,oI 4 (.mv (.c (.slice none 0 0))),m 5 30] [1,7,8,29,30]) (.ret)) (kl [8,29]))) (.seq (.region [m 31 7,m 32 1,oI 33 (.call (.f 48) [.t 31,.t 32] (.one (.one .slice))),m 4 33,mc 5 0] [1,7,31,32,33]) (.ret)))))),[.tmp 4,.tmp 5]⟩
theorem CZ:okF Tryz.prog 18 iQ=true:=by kernel_rfl
def gA:ay:=⟨37,.seq (.region [oI 2 (.box (.t 0)),oI 4 (.alloc [.int .i64 0,.int .i64 0,.slice none 0 0,.int .i64 0,.slice none 0 0]),mc 5 0] [0,5]) (.seq (.seq (.region [oI 9 (.load (.agg [.int .i64,.int .i64,.slice,.int .i64,.slice]) (.t 2)),oI 10 (.call (.f 47) [.t 9] (.one (.one (.int .i64)))),m 6 10] [9,10]) (.seq (.region [m 11 6,ck 12 .neq 11 0] [11]) (.cond (.t 12) (.seq (.region [oI 13 (.build [.int .i64 0,.int .i64 0,.slice none 0 0,.int .i64 0,.slice none 0 0] []),m 14 6,sI 5 4 13,m 5 14] [1,2,6,12,13,14]) (.ret)) (kl [6,12])))) (.seq (.region [fa 16 0 2,oI 17 (.load (.agg [.int .i64,.int .i64,.slice]) (.t 16)),fa 18 3 2,li 19 18,fa 20 4 2,ls 21 20,oI 22 (.build [.int .i64 0,.slice none 0 0] [(0,1,.t 19),(1,1,.t 21)]),m 23 1,oI 24 (.call (.f 49) [.t 17,.t 22,.t 23] (.jo [.agg [.int .i64,.slice],.one (.int .i64)])),m 15 24,ex 25 15 0,ex 26 15 1,oI 7 (.alloc [.int .i64 0,.slice none 0 0]),sI 2 7 25,m 8 26] [1,15,16,17,18,19,20,21,22,23,24,25,26]) (.seq (.seq (.region [m 27 8,ck 28 .neq 27 0] [27]) (.cond (.t 28) (.seq (.region [oI 29 (.build [.int .i64 0,.int .i64 0,.slice none 0 0,.int .i64 0,.slice none 0 0] []),m 30 8,sI 5 4 29,m 5 30] [2,7,8,28,29,30]) (.ret)) (kl [8,28]))) (.seq (.region [fa 31 0 2,oI 32 (.load (.agg [.int .i64,.int .i64,.slice]) (.t 31)),oI 33 (.load (.agg [.int .i64,.slice]) (.t 7)),oI 34 (.call (.f 37) [.t 32,.t 33] (.jo [.agg [.int .i64,.int .i64,.slice,.int .i64,.slice],.one (.int .i64)])),ex 35 34 0,ex 36 34 1,sI 5 4 35,m 5 36] [2,7,31,32,33,34,35,36]) (.ret))))),[.cell 4 (.agg [.int .i64,.int .i64,.slice,.int .i64,.slice]),.tmp 5]⟩
theorem AB:okF Tryz.prog 20 gA=true:=by kernel_rfl
def oA(t4:Sl)(t5:Int):List Value:=un 4 (t4.v::vi t5::un 55 [])
def vX:aa:=.seq (.region [m 60 8,m 4 60,mc 5 0] [8,60]) (.ret)
def IT(t8:Sl):List Value:=un 8 (t8.v::un 52 [])
abbrev se(R:Type):=Sl→Int→Sl→Int→AH→Option R
def sf(t0:Sl)(t1:Int)(t8:Sl)(t9:Int):List Value:=t0.v::vi t1::un 6 (t8.v::vi t9::un 51 [])
def qq:aa:=.region [m 47 9,bc 48 .sub 47 1,m 9 48] [47,48]
def BC(cn:aa):aa:=.seq (.seq (.region [m 45 9,ck 46 .geq 45 1] [45]) (.seq (.cond (.t 46) (kl [46]) (.seq (kl [0,1,9,46]) (.exit 2))) (.block 3 (.seq (.region [m 49 0,m 50 9,oI 51 (.call (.f 54) [.t 49,.t 50] (.one (.one .bool))),no 52 51] [49,50,51]) (.cond (.t 52) (.region [m 53 8,m 54 1,bc 55 .add 54 1,m 56 9,bb 57 .sub 55 56,oI 58 (.aQ 1 [.int .i64 0] [(0,1,.t 57)]),oI 59 (.append 1 8 (.t 53) (.t 58)),m 8 59] [52,53,54,55,56,57,58,59]) (kl [52])))))) cn
def vY:aa:=BC qq
def AD:aa:=.seq (.block 2 (.loop vY)) vX
def Mt(cn:aa):aa:=.seq (.seq (.region [oI 8 (.mv (.c (.slice none 0 0)))] []) (.region [m 44 1,m 9 44] [44])) cn
def Gf:aa:=Mt AD
def xA(t0:Sl)(t1:Int):List Value:=t0.v::vi t1::un 59 []
abbrev sn(R:Type):=Sl→Int→Sl→Int→Int→AH→Option R
def so(t0:Sl)(t1:Int)(t16:Sl)(t17 t18:Int):List Value:=t0.v::vi t1::un 14 (t16.v::vi t17::vi t18::un 42 [])
def AE:aa:=.region [bc 43 .add 18 1,m 18 43] [43]
def Mv(cn:aa):aa:=.seq (.seq (.region [cm 19 .lss 18 17] []) (.seq (.cond (.t 19) (kl [19]) (.seq (kl [16,17,18,19]) (.exit 0))) (.block 1 (.seq (.region [m 20 18,ia 21 1 16 18,li 22 21,m 6 20,m 7 22] [20,21,22]) (.seq (.region [m 23 7,ck 24 .lss 23 1,m 25 24,.fc 25 false [qI 26 (.mv (.t 7)),qI 27 (.mv (.t 1)),qI 28 (.cmp .gtr .i64 (.t 26) (.t 27))],oI 29 (.pick (.t 25) (.c (.bool true)) (.t 28)),m 30 29,.fc 30 false [qI 31 (.mv (.t 6)),qI 32 (.cmp .gtr .i64 (.t 31) (ci 0)),qI 33 (.mv (.t 32))],.fc 33 true [qI 34 (.mv (.t 7)),qI 35 (.mv (.t 0)),qI 36 (.mv (.t 6)),qI 37 (.bin .sub .i64 (.t 36) (ci 1)),qI 38 (.dx 1 (.t 35) (.t 37)),qI 39 (.load (.one (.int .i64)) (.t 38)),qI 40 (.cmp .leq .i64 (.t 34) (.t 39))],.fc 30 false [qI 41 (.pick (.t 33) (.t 40) (.c (.bool false)))],oI 42 (.pick (.t 30) (.c (.bool true)) (.t 41))] [6,7,23,24,25,26,27,28,29,30,31,32,33,34,35,36,37,38,39,40,41]) (.cond (.t 42) (.seq (.region [oI 4 (.mv (.c (.slice none 0 0))),mc 5 6] [0,1,16,17,18,42]) (.ret)) (kl [42]))))))) cn
def Gg:aa:=Mv AE
def QL:aa:=.seq (.block 0 (.loop Gg)) Gf
def aem(cn:aa):aa:=.seq (.seq (.region [oI 4 (.mv (.c (.slice none 0 0))),mc 5 0] [4,5]) (.seq (.region [m 10 1,ck 11 .lss 10 1,m 12 11,.fc 12 false [qI 13 (.mv (.t 1)),qI 14 (.cmp .gtr .i64 (.t 13) (ci 64))],oI 15 (.pick (.t 12) (.c (.bool true)) (.t 14))] [10,11,12,13,14]) (.seq (.cond (.t 15) (.seq (.region [oI 4 (.mv (.c (.slice none 0 0))),mc 5 6] [0,1,15]) (.ret)) (kl [15])) (.region [m 16 0,ln 17 16,mc 18 0] [])))) cn
def akc:aa:=aem QL
def iS:ay:=⟨61,akc,[.tmp 4,.tmp 5]⟩
theorem C0:okF Tryz.prog 23 iS=true:=by kernel_rfl
def ym{R:Type}(C:Callee)(fl k:Nat)(kr:aO R):ak R:=fun t8 h=>kr t8 0 h
theorem NV:(cp IT (ce C fl k vX K))=ym C fl k (cp oA (K .ret)):=by kernel_rfl
def jW{R:Type}(C:Callee)(fl k:Nat)(kn:se R)(e2:ak R):se R:=fun t0 t1 t8 t9 h=>kn t0 t1 t8 (bL (t9-1)) h
theorem IU:(cp sf (ce C fl k qq K))=jW C fl k (cp sf (K .normal)) (cp IT (K (.exit 2))):=by kernel_rfl
def kN{R:Type}(C:Callee)(fl k:Nat)(kx:se R)(kn:se R)(e2:ak R):se R:=fun t0 t1 t8 t9 h=>if decide (t9≥1)=true then aC C fl fn.fy [vs t0,vi t9] h fun v1 h2=>asBool v1 fun b3=>if (!b3)=true then cU h2 [vi (bL (bL (t1+1)-t9))] fun b4 h5=>fW fl 1 8 t8 ⟨(some ⟨b4,0,none⟩),1,1⟩ h5 fun s6 h7=>kx t0 t1 s6 t9 h7 else kx t0 t1 t8 t9 h2 else e2 t8 h
def iz(kn:se R)(e2:ak R):se R:=kN C fl k (jW C fl k kn e2) kn e2
theorem NW(cn:aa):(cp sf (ce C fl k (BC cn) K))=kN C fl k (cp sf (ce C fl k cn K)) (cp sf (K .normal)) (cp IT (K (.exit 2))):=by kernel_rfl
theorem NX:(cp sf (ce C fl k vY K))=iz C fl k (cp sf (K .normal)) (cp IT (K (.exit 2))):=(NW C fl k K qq).trans (aj (fun L0=>kN C fl k L0 _ _) (IU C fl k K))
def fP(kn:ak R):Nat→se R
 |0=>fun _ _ _ _ _=>none
 |m+1=>iz C fl k (fP kn m) kn
theorem BD:∀m,(cp sf (aR m (bH C fl k vY 2 K)))=fP C fl k (cp IT (K .normal)) m
 |0=>by kernel_rfl
 |m+1=>mq (NX C fl k _) (aj (fun L=>iz C fl k L _) (BD m))
def Mw(kr:aO R):se R:=fP C fl k (ym C fl k kr) k
theorem SC:(cp sf (ce C fl k AD K))=Mw C fl k (cp oA (K .ret)):=(ou (mw (BD C fl k (bU C fl k vX K)))).trans (aj (fun L=>fP C fl k L k) (oh (NV C fl k K)))
def Gh{R:Type}(C:Callee)(fl k:Nat)(kx:se R)(kr:aO R):aO R:=fun t0 t1 h=>kx t0 t1 ⟨none,0,0⟩ t1 h
def D7(kr:aO R):aO R:=Gh C fl k (Mw C fl k kr) kr
theorem YL(cn:aa):(cp xA (ce C fl k (Mt cn) K))=Gh C fl k (cp sf (ce C fl k cn K)) (cp oA (K .ret)):=by kernel_rfl
theorem YM:(cp xA (ce C fl k Gf K))=D7 C fl k (cp oA (K .ret)):=(YL C fl k K AD).trans (aj (fun L0=>Gh C fl k L0 _) (SC C fl k K))
def xB{R:Type}(C:Callee)(fl k:Nat)(kn:sn R)(e0:aO R)(kr:aO R):sn R:=fun t0 t1 t16 t17 t18 h=>kn t0 t1 t16 t17 (bL (t18+1)) h
theorem SD:(cp so (ce C fl k AE K))=xB C fl k (cp so (K .normal)) (cp xA (K (.exit 0))) (cp oA (K .ret)):=by kernel_rfl
def vZ{R:Type}(C:Callee)(fl k:Nat)(kx:sn R)(kn:sn R)(e0:aO R)(kr:aO R):sn R:=fun t0 t1 t16 t17 t18 h=>if decide (t18<t17)=true then idx 1 t16 t18 fun p8=>aE .i64 h p8.block p8.off fun n9=>if decide (n9<1)=false then if decide (n9>t1)=false then if decide (t18>0)=true then idx 1 t0 (bL (t18-1)) fun TH=>aE .i64 h TH.block TH.off fun Cw=>if decide (n9≤Cw)=true then kr ⟨none,0,0⟩ 6 h else kx t0 t1 t16 t17 t18 h else kx t0 t1 t16 t17 t18 h else kr ⟨none,0,0⟩ 6 h else kr ⟨none,0,0⟩ 6 h else e0 t0 t1 h
def qt(kn:sn R)(e0:aO R)(kr:aO R):sn R:=vZ C fl k (xB C fl k kn e0 kr) kn e0 kr
theorem YN(cn:aa):(cp so (ce C fl k (Mv cn) K))=vZ C fl k (cp so (ce C fl k cn K)) (cp so (K .normal)) (cp xA (K (.exit 0))) (cp oA (K .ret)):=by kernel_rfl
theorem YO:(cp so (ce C fl k Gg K))=qt C fl k (cp so (K .normal)) (cp xA (K (.exit 0))) (cp oA (K .ret)):=(YN C fl k K AE).trans (aj (fun L0=>vZ C fl k L0 _ _ _) (SD C fl k K))
def qu(kn:aO R)(kr:aO R):Nat→sn R
 |0=>fun _ _ _ _ _ _=>none
 |m+1=>qt C fl k (qu kn kr m) kn kr
theorem My:∀m,(cp so (aR m (bH C fl k Gg 0 K)))=qu C fl k (cp xA (K .normal)) (cp oA (K .ret)) m
 |0=>by kernel_rfl
 |m+1=>mq (YO C fl k _) (aj (fun L=>qt C fl k L _ _) (My m))
def Vq(kr:aO R):sn R:=qu C fl k (D7 C fl k kr) kr k
theorem agW:(cp so (ce C fl k QL K))=Vq C fl k (cp oA (K .ret)):=(ou (mw (My C fl k (bU C fl k Gf K)))).trans (aj (fun L=>qu C fl k L _ k) (oh (YM C fl k K)))
def Le{R:Type}(C:Callee)(fl k:Nat)(kx:sn R)(kr:aO R):aO R:=fun t0 t1 h=>if decide (t1<1)=false then if decide (t1>64)=true then kr ⟨none,0,0⟩ 6 h else kx t0 t1 t0 ((t0.l:Nat):Int) 0 h else kr ⟨none,0,0⟩ 6 h
def YP(kr:aO R):aO R:=Le C fl k (Vq C fl k kr) kr
theorem aoP(cn:aa):(cp xA (ce C fl k (aem cn) K))=Le C fl k (cp so (ce C fl k cn K)) (cp oA (K .ret)):=by kernel_rfl
theorem aoQ:(cp xA (ce C fl k akc K))=YP C fl k (cp oA (K .ret)):=(aoP C fl k K QL).trans (aj (fun L0=>Le C fl k L0 _) (agW C fl k K))
def bV(p0:Sl)(p1:Int)(h:AH):Option (Value×AH):=YP C fl k (fun y4 y5 q=>some (.tuple ⟨[vs y4,vi y5]⟩,q)) p0 p1 h
theorem pU(p0:Sl)(p1:Int)(h):bl C fl k iS [vs p0,vi p1] h=bV C fl k p0 p1 h:=Ca (aoQ C fl k (aD _)) p0 p1 (by kernel_rfl) (by kernel_rfl)
def iT:ay:=⟨61,.seq (.region [oI 1 (.box (.t 0)),oI 2 (.alloc [.slice none 0 0,.slice none 0 0]),mc 3 0] [0,3]) (.seq (.region [oI 12 (.load (.agg [.int .i64,.int .i64,.slice,.int .i64,.slice]) (.t 1)),oI 13 (.call (.f 43) [.t 12] (.jo [.one .slice,.one (.int .i64)])),m 11 13,ex 14 11 0,ex 15 11 1,m 4 14,m 5 15] [11,12,13,14,15]) (.seq (.seq (.region [m 16 5,ck 17 .neq 16 0] [16]) (.cond (.t 17) (.seq (.region [oI 18 (.build [.slice none 0 0,.slice none 0 0] []),m 19 5,sI 2 2 18,m 3 19] [1,4,5,17,18,19]) (.ret)) (kl [5,17]))) (.seq (.region [oI 6 (.alloc [.slice none 0 0,.slice none 0 0])] []) (.seq (.seq (.region [mc 7 1] []) (.block 0 (.loop (.seq (.seq (.region [m 20 7,fa 21 4 1,ls 22 21,ln 23 22,cm 24 .leq 20 23] [20,21,22,23]) (.cond (.t 24) (kl [24]) (.seq (kl [1,4,7,24]) (.exit 0)))) (.seq (.block 1 (.seq (.region [m 27 4,m 28 7,oI 29 (.call (.f 48) [.t 27,.t 28] (.one (.one .slice))),m 8 29] [27,28,29]) (.seq (.region [oI 31 (.load (.agg [.int .i64,.int .i64,.slice,.int .i64,.slice]) (.t 1)),fa 32 4 1,ls 33 32,ln 34 33,m 35 7,bb 36 .sub 34 35,bc 37 .add 36 1,m 38 8,ln 39 38,bc 40 .sub 39 1,oI 41 (.call (.f 56) [.t 31,.t 37,.t 40] (.jo [.agg [.slice],.one (.int .i64)])),m 30 41,ex 42 30 0,ex 43 30 1,oI 9 (.alloc [.slice none 0 0]),sI 1 9 42,m 10 43] [30,31,32,33,34,35,36,37,38,39,40,41,42,43]) (.seq (.seq (.region [m 44 10,ck 45 .neq 44 0] [44]) (.cond (.t 45) (.seq (.region [oI 46 (.build [.slice none 0 0,.slice none 0 0] []),m 47 10,sI 2 2 46,m 3 47] [1,4,6,7,8,9,10,45,46,47]) (.ret)) (kl [10,45]))) (.seq (.region [fa 48 0 6,ls 49 48,m 50 8,oI 51 (.aQ 1 [.slice none 0 0] [(0,1,.t 50)]),oI 52 (.append 1 24 (.t 49) (.t 51)),fa 53 0 6,sI 1 53 52] [8,48,49,50,51,52,53]) (.region [fa 54 1 6,ls 55 54,oI 56 (.load (.agg [.slice]) (.t 9)),oI 57 (.aQ 1 [.slice none 0 0] [(0,1,.t 56)]),oI 58 (.append 1 24 (.t 55) (.t 57)),fa 59 1 6,sI 1 59 58] [9,54,55,56,57,58,59])))))) (.region [m 25 7,bc 26 .add 25 1,m 7 26] [25,26])))))) (.seq (.region [oI 60 (.load (.agg [.slice,.slice]) (.t 6)),sI 2 2 60,mc 3 0] [6,60]) (.ret)))))),[.cell 2 (.agg [.slice,.slice]),.tmp 3]⟩
theorem C1:okF Tryz.prog 25 iT=true:=by kernel_rfl
def kd:ay:=⟨109,.seq (.region [oI 2 (.box (.t 0)),oI 3 (.box (.t 1)),oI 4 (.mv (.c (.slice none 0 0))),mc 5 0] [0,1,4,5]) (.seq (.seq (.region [oI 17 (.load (.agg [.int .i64,.int .i64,.slice,.int .i64,.slice]) (.t 2)),oI 18 (.call (.f 47) [.t 17] (.one (.one (.int .i64)))),m 6 18] [17,18]) (.seq (.region [m 19 6,ck 20 .neq 19 0] [19]) (.cond (.t 20) (.seq (.region [m 21 6,oI 4 (.mv (.c (.slice none 0 0))),m 5 21] [2,3,6,20,21]) (.ret)) (kl [6,20])))) (.seq (.region [fa 22 4 2,ls 23 22,ln 24 23,m 7 24] [22,23,24]) (.seq (.seq (.region [fa 25 0 3,ls 26 25,ln 27 26,m 28 7,cm 29 .neq 27 28,m 30 29,.fc 30 false [qI 31 (.cu 1 (.t 3)),qI 32 (.load (.one .slice) (.t 31)),qI 33 (.len (.t 32)),qI 34 (.mv (.t 7)),qI 35 (.cmp .neq .i64 (.t 33) (.t 34))],oI 36 (.pick (.t 30) (.c (.bool true)) (.t 35))] [25,26,27,28,29,30,31,32,33,34,35]) (.cond (.t 36) (.seq (.region [oI 4 (.mv (.c (.slice none 0 0))),mc 5 13] [2,3,7,36]) (.ret)) (kl [36]))) (.seq (.region [oI 8 (.mv (.c (.slice none 0 0)))] []) (.seq (.seq (.region [mc 9 1] []) (.block 0 (.loop (.seq (.seq (.region [m 37 9,m 38 7,cm 39 .leq 37 38] [37,38]) (.cond (.t 39) (kl [39]) (.seq (kl [2,3,7,9,39]) (.exit 0)))) (.seq (.block 1 (.seq (.region [fa 42 0 3,ls 43 42,m 44 9,bc 45 .sub 44 1,ia 46 1 43 45,ls 47 46,m 10 47] [42,43,44,45,46,47]) (.seq (.region [oI 11 (.mv (.c (.slice none 0 0)))] []) (.seq (.seq (.region [fa 48 3 2,li 49 48,mc 50 0] [48]) (.block 2 (.loop (.seq (.region [cm 51 .lss 50 49] []) (.seq (.cond (.t 51) (kl [51]) (.seq (kl [49,50,51]) (.exit 2))) (.seq (.block 3 (.seq (.region [m 52 50,m 12 52] [52]) (.seq (.region [m 53 10,m 54 12,oI 55 (.call (.f 54) [.t 53,.t 54] (.one (.one .bool))),no 56 55] [53,54,55]) (.cond (.t 56) (.region [m 57 11,m 58 12,oI 59 (.aQ 1 [.int .i64 0] [(0,1,.t 58)]),oI 60 (.append 1 8 (.t 57) (.t 59)),m 11 60] [12,56,57,58,59,60]) (kl [12,56]))))) (.region [bc 61 .add 50 1,m 50 61] [61]))))))) (.seq (.seq (.region [oI 63 (.load (.agg [.int .i64,.int .i64,.slice,.int .i64,.slice]) (.t 2)),m 64 10,oI 65 (.call (.f 33) [.t 63,.t 64] (.jo [.one (.int .i64),.one (.int .i64)])),m 62 65,ex 66 62 0,ex 67 62 1,m 13 66,m 14 67] [13,62,63,64,65,66,67]) (.seq (.region [m 68 14,ck 69 .neq 68 0] [14,68]) (.cond (.t 69) (.seq (.region [oI 4 (.mv (.c (.slice none 0 0))),mc 5 13] [2,3,7,8,9,10,11,69]) (.ret)) (kl [69])))) (.seq (.region [oI 71 (.load (.agg [.int .i64,.int .i64,.slice,.int .i64,.slice]) (.t 2)),m 72 11,oI 73 (.call (.f 33) [.t 71,.t 72] (.jo [.one (.int .i64),.one (.int .i64)])),m 70 73,ex 74 70 0,ex 75 70 1,m 15 74,m 16 75] [11,70,71,72,73,74,75]) (.seq (.seq (.region [m 76 16,ck 77 .neq 76 0,m 78 77,.fc 78 false [qI 79 (.mv (.t 7)),qI 80 (.mv (.t 15)),qI 81 (.bin .sub .i64 (.t 79) (.t 80)),qI 82 (.mv (.t 9)),qI 83 (.cmp .lss .i64 (.t 81) (.t 82))],oI 84 (.pick (.t 78) (.c (.bool true)) (.t 83)),m 85 84,.fc 85 false [qJ 86 (.load (.agg [.int .i64,.int .i64,.slice,.int .i64,.slice]) (.t 2)),qI 87 (.mv (.t 7)),qI 88 (.mv (.t 9)),qI 89 (.bin .sub .i64 (.t 87) (.t 88)),qI 90 (.bin .add .i64 (.t 89) (ci 1)),qI 91 (.mv (.t 10)),qI 92 (.len (.t 91)),qI 93 (.bin .sub .i64 (.t 92) (ci 1)),qI 94 (.cu 1 (.t 3)),qJ 95 (.load (.one .slice) (.t 94)),qI 96 (.mv (.t 9)),qI 97 (.bin .sub .i64 (.t 96) (ci 1)),qI 98 (.dx 1 (.t 95) (.t 97)),qJ 99 (.load (.agg [.slice]) (.t 98)),qI 100 (.call (.f 59) [.t 86,.t 90,.t 93,.t 99] (.one (.one (.int .i64)))),qI 101 (.cmp .neq .i64 (.t 100) (ci 0))],oI 102 (.pick (.t 85) (.c (.bool true)) (.t 101))] [15,16,76,77,78,79,80,81,82,83,84,85,86,87,88,89,90,91,92,93,94,95,96,97,98,99,100,101]) (.cond (.t 102) (.seq (.region [oI 4 (.mv (.c (.slice none 0 0))),mc 5 13] [2,3,7,8,9,10,102]) (.ret)) (kl [102]))) (.region [m 103 8,m 104 10,ln 105 104,oI 106 (.aQ 1 [.int .i64 0] [(0,1,.t 105)]),oI 107 (.append 1 8 (.t 103) (.t 106)),m 8 107] [10,103,104,105,106,107])))))))) (.region [m 40 9,bc 41 .add 40 1,m 9 41] [40,41])))))) (.seq (.region [m 108 8,m 4 108,mc 5 0] [8,108]) (.ret))))))),[.tmp 4,.tmp 5]⟩
theorem Gi:okF Tryz.prog 28 kd=true:=by kernel_rfl
def aoR(t4:Bool):List Value:=un 4 (.bool t4::un 5 [])
def akd:aa:=.seq (.region [oI 2 (.box (.t 0)),oI 4 (.mv (.c (.bool false)))] [0,4]) (.seq (.region [fa 5 4 2,ls 6 5,oI 7 (.build [.int .i64 0,.slice none 0 0] [(1,1,.t 6)]),m 8 1,oI 9 (.call (.f 60) [.t 7,.t 8] (.one (.one .bool))),m 4 9] [1,2,5,6,7,8,9]) (.ret))
abbrev Vr(R:Type):=Int→Int→Sl→Int→Sl→Int→AH→Option R
def aoS(aI aH:Int)(aK:Sl)(jT:Int)(jU:Sl)(t1:Int):List Value:=.agg ⟨[vi aI,vi aH,vs aK,vi jT,vs jU]⟩::vi t1::un 8 []
def xC:ay:=⟨10,akd,[.tmp 4]⟩
theorem Vs:okF Tryz.prog 29 xC=true:=by kernel_rfl
def ake{R:Type}(C:Callee)(fl k:Nat)(kr:au R):Vr R:=fun aI aH aK jT jU t1 h=>cU h [vi aI,vi aH,vs aK,vi jT,vs jU] fun b1 h2=>bM h2 b1 4 fun s3=>aC C fl fn.vB [.agg ⟨[vi 0,vs s3]⟩,vi t1] h2 fun v4 h5=>asBool v4 fun b6=>kr b6 h5
theorem aoT:(cp aoS (ce C fl k akd K))=ake C fl k (cp aoR (K .ret)):=by kernel_rfl
def qh(ax aw:Int)(aA:Sl)(eu:Int)(et:Sl)(p1:Int)(h:AH):Option (Value×AH):=ake C fl k (fun y4 q=>some (.bool y4,q)) ax aw aA eu et p1 h
theorem SE(ax aw:Int)(aA:Sl)(eu:Int)(et:Sl)(p1:Int)(h):bl C fl k xC [.agg ⟨[vi ax,vi aw,vs aA,vi eu,vs et]⟩,vi p1] h=qh C fl k ax aw aA eu et p1 h:=auC (aoT C fl k (aD _)) ax aw aA eu et p1 (by kernel_rfl) (by kernel_rfl)
abbrev ae(R:Type):=Int→AH→Option R
def aoU(t2:Int):List Value:=un 2 (vi t2::un 23 [])
def akf:aa:=.seq (.region [oI 1 (.box (.t 0)),mc 2 0] [0,2]) (.seq (.region [fa 4 0 1,oI 5 (.load (.agg [.int .i64,.int .i64,.slice]) (.t 4)),oI 6 (.call (.f 62) [.t 5] (.one (.one (.int .i64)))),m 3 6] [4,5,6]) (.seq (.region [m 7 3,ck 8 .neq 7 0] [7]) (.seq (.cond (.t 8) (.seq (.region [m 9 3,m 2 9] [1,3,8,9]) (.ret)) (kl [3,8])) (.seq (.region [fa 10 3 1,li 11 10,ck 12 .lss 11 1,m 13 12,.fc 13 false [qI 14 (.cu 3 (.t 1)),qI 15 (.load (.one (.int .i64)) (.t 14)),qI 16 (.cmp .gtr .i64 (.t 15) (ci 64))],oI 17 (.pick (.t 13) (.c (.bool true)) (.t 16))] [10,11,12,13,14,15,16]) (.seq (.cond (.t 17) (.seq (.region [mc 2 4] [1,17]) (.ret)) (kl [17])) (.seq (.region [fa 18 0 1,oI 19 (.load (.agg [.int .i64,.int .i64,.slice]) (.t 18)),fa 20 3 1,li 21 20,fa 22 4 1,ls 23 22,oI 24 (.build [.int .i64 0,.slice none 0 0] [(0,1,.t 21),(1,1,.t 23)]),oI 25 (.call (.f 63) [.t 19,.t 24] (.one (.one (.int .i64)))),m 2 25] [1,18,19,20,21,22,23,24,25]) (.ret)))))))
def aoV(aI aH:Int)(aK:Sl)(jT:Int)(jU:Sl):List Value:=.agg ⟨[vi aI,vi aH,vs aK,vi jT,vs jU]⟩::un 25 []
def sq:ay:=⟨26,akf,[.tmp 2]⟩
theorem QM:okF Tryz.prog 32 sq=true:=by kernel_rfl
def QN{R:Type}(C:Callee)(fl k:Nat)(kr:ae R):bQ R:=fun aI aH aK jT jU h=>cU h [vi aI,vi aH,vs aK,vi jT,vs jU] fun b1 h2=>aE .i64 h2 b1 0 fun n3=>aE .i64 h2 b1 1 fun n4=>bM h2 b1 2 fun s5=>aC C fl fn.gW [.agg ⟨[vi n3,vi n4,vs s5]⟩] h2 fun v6 h7=>asInt .i64 v6 fun n8=>if (n8 !=0)=true then kr n8 h7 else aE .i64 h7 b1 3 fun n9=>if decide (n9<1)=false then aE .i64 h7 b1 3 fun ux=>if decide (ux>64)=true then kr 4 h7 else aE .i64 h7 b1 0 fun Cw=>aE .i64 h7 b1 1 fun Cs=>bM h7 b1 2 fun s13=>aE .i64 h7 b1 3 fun DM=>bM h7 b1 4 fun XX=>aC C fl fn.kH [.agg ⟨[vi Cw,vi Cs,vs s13]⟩,.agg ⟨[vi DM,vs XX]⟩] h7 fun v16 Me=>asInt .i64 v16 fun n18=>kr n18 Me else kr 4 h7
theorem aoW:(cp aoV (ce C fl k akf K))=QN C fl k (cp aoU (K .ret)):=by kernel_rfl
def nD(ax aw:Int)(aA:Sl)(eu:Int)(et:Sl)(h:AH):Option (Value×AH):=QN C fl k (fun y2 q=>some (vi y2,q)) ax aw aA eu et h
theorem NY(ax aw:Int)(aA:Sl)(eu:Int)(et:Sl)(h):bl C fl k sq [.agg ⟨[vi ax,vi aw,vs aA,vi eu,vs et]⟩] h=nD C fl k ax aw aA eu et h:=vU (aoW C fl k (aD _)) ax aw aA eu et (by kernel_rfl) (by kernel_rfl)
def oB:ay:=⟨27,.seq (.region [oI 2 (.box (.t 0)),mc 4 0,mc 5 0] [0,4,5]) (.seq (.region [oI 9 (.load (.agg [.int .i64,.int .i64,.slice,.int .i64,.slice]) (.t 2)),oI 10 (.call (.f 64) [.t 9] (.jo [.one .kB,.one (.int .i64)])),m 8 10,ex 11 8 0,ex 12 8 1,m 6 11,m 7 12] [8,9,10,11,12]) (.seq (.seq (.region [m 13 7,ck 14 .eql 13 0] [13]) (.cond (.t 14) (.region [oI 15 (.load (.agg [.int .i64,.int .i64,.slice,.int .i64,.slice]) (.t 2)),m 16 1,oI 17 (.aQ 1 [.slice none 0 0] [(0,1,.t 16)]),oI 18 (.call (.f 65) [.t 15,.t 17] (.one (.one (.int .i64)))),m 7 18] [14,15,16,17,18]) (kl [14]))) (.seq (.seq (.region [m 19 7,ck 20 .neq 19 0] [19]) (.cond (.t 20) (.seq (.region [m 21 7,mc 4 0,m 5 21] [1,2,6,7,20,21]) (.ret)) (kl [7,20]))) (.seq (.region [m 22 6,oI 23 (.load (.agg [.int .i64,.int .i64,.slice,.int .i64,.slice]) (.t 2)),m 24 1,oI 25 (.call (.f 66) [.t 22,.t 23,.t 24] (.one (.one .slice))),ln 26 25,m 4 26,mc 5 0] [1,2,6,22,23,24,25,26]) (.ret))))),[.tmp 4,.tmp 5]⟩
theorem NZ:okF Tryz.prog 33 oB=true:=by kernel_rfl
abbrev iU(R:Type):=Addr→Int→AH→Option R
def aoX(t2:Addr)(t3:Int):List Value:=un 2 (vp t2::vi t3::un 24 [])
def akg:aa:=.seq (.region [oI 1 (.box (.t 0)),oI 2 (.alloc [.int .i64 0,.int .i64 0,.slice none 0 0,.int .i64 0,.slice none 0 0]),mc 3 0] [0,3]) (.seq (.region [oI 7 (.load (.agg [.int .i64,.int .i64,.slice,.int .i64,.slice]) (.t 1)),oI 8 (.call (.f 47) [.t 7] (.one (.one (.int .i64)))),m 4 8] [7,8]) (.seq (.region [m 9 4,ck 10 .neq 9 0] [9]) (.seq (.cond (.t 10) (.seq (.region [oI 11 (.build [.int .i64 0,.int .i64 0,.slice none 0 0,.int .i64 0,.slice none 0 0] []),m 12 4,sI 5 2 11,m 3 12] [1,4,10,11,12]) (.ret)) (kl [4,10])) (.seq (.region [fa 14 0 1,oJ 15 (.load (.agg [.int .i64,.int .i64,.slice]) (.t 14)),oJ 16 (.load (.agg [.int .i64,.int .i64,.slice,.int .i64,.slice]) (.t 1)),oJ 17 (.call (.f 68) [.t 16] (.one (.agg [.int .i64,.slice]))),oJ 18 (.call (.f 67) [.t 15,.t 17] (.jo [.agg [.int .i64,.slice],.one (.int .i64)])),m 13 18,ex 19 13 0,ex 20 13 1,oJ 5 (.alloc [.int .i64 0,.slice none 0 0]),sI 2 5 19,m 6 20] [13,14,15,16,17,18,19,20]) (.seq (.region [fa 21 0 1,oI 22 (.load (.agg [.int .i64,.int .i64,.slice]) (.t 21)),oI 23 (.load (.agg [.int .i64,.slice]) (.t 5)),m 24 6,oI 25 (.call (.f 69) [.t 22,.t 23,.t 24] (.jo [.agg [.int .i64,.int .i64,.slice,.int .i64,.slice],.one (.int .i64)])),ex 26 25 0,ex 27 25 1,sI 5 2 26,m 3 27] [1,5,6,21,22,23,24,25,26,27]) (.ret))))))
def aoY(aI aH:Int)(aK:Sl)(jT:Int)(jU:Sl):List Value:=.agg ⟨[vi aI,vi aH,vs aK,vi jT,vs jU]⟩::un 27 []
def xD:ay:=⟨28,akg,[.cell 2 (.agg [.int .i64,.int .i64,.slice,.int .i64,.slice]),.tmp 3]⟩
theorem Vt:okF Tryz.prog 34 xD=true:=by kernel_rfl
def aen{R:Type}(C:Callee)(fl k:Nat)(kr:iU R):bQ R:=fun aI aH aK jT jU h=>cU h [vi aI,vi aH,vs aK,vi jT,vs jU] fun b1 h2=>cU h2 [.int .i64 0,.int .i64 0,.slice none 0 0,.int .i64 0,.slice none 0 0] fun b3 h4=>aE .i64 h4 b1 0 fun n5=>aE .i64 h4 b1 1 fun n6=>bM h4 b1 2 fun s7=>aE .i64 h4 b1 3 fun n8=>bM h4 b1 4 fun s9=>aC C fl fn.gj [.agg ⟨[vi n5,vi n6,vs s7,vi n8,vs s9]⟩] h4 fun v10 mI=>asInt .i64 v10 fun Cs=>if (Cs !=0)=true then st fl mI ⟨b3,0,none⟩ [vi 0,vi 0,.slice none 0 0,vi 0,.slice none 0 0] fun uV=>kr ⟨b3,0,none⟩ Cs uV else aE .i64 mI b1 0 fun DM=>aE .i64 mI b1 1 fun TI=>bM mI b1 2 fun Sk=>aE .i64 mI b1 0 fun Sj=>aE .i64 mI b1 1 fun n18=>bM mI b1 2 fun s19=>aE .i64 mI b1 3 fun n20=>bM mI b1 4 fun s21=>aC C mI.next fn.vS [.agg ⟨[vi Sj,vi n18,vs s19,vi n20,vs s21]⟩] mI fun v22 h23=>asAgg v22 fun l24=>aG l24 fun v25 l26=>asInt .i64 v25 fun n27=>aG l26 fun v28 l29=>bB v28 fun s30=>ch l29 (aC C h23.next fn.dF [.agg ⟨[vi DM,vi TI,vs Sk]⟩,.agg ⟨[vi n27,vs s30]⟩] h23 fun v31 PU=>bj v31 fun l33=>aG l33 fun v34 l35=>asAgg v34 fun l36=>aG l36 fun v37 l38=>asInt .i64 v37 fun n39=>aG l38 fun v40 l41=>bB v40 fun s42=>ch l41 (aG l35 fun v43 l44=>asInt .i64 v43 fun n45=>ch l44 (cU PU [.int .i64 0,.slice none 0 0] fun b46 h47=>st fl h47 ⟨b46,0,none⟩ [vi n39,vs s42] fun h48=>aE .i64 h48 b1 0 fun n49=>aE .i64 h48 b1 1 fun n50=>bM h48 b1 2 fun s51=>aE .i64 h48 b46 0 fun n52=>bM h48 b46 1 fun s53=>aC C fl fn.D4 [.agg ⟨[vi n49,vi n50,vs s51]⟩,.agg ⟨[vi n52,vs s53]⟩,vi n45] h48 fun v54 h55=>bj v54 fun l56=>aG l56 fun v57 l58=>asAgg v57 fun l59=>aG l59 fun v60 l61=>asInt .i64 v60 fun n62=>aG l61 fun v63 l64=>asInt .i64 v63 fun n65=>aG l64 fun v66 l67=>bB v66 fun s68=>aG l67 fun v69 l70=>asInt .i64 v69 fun n71=>aG l70 fun v72 l73=>bB v72 fun s74=>ch l73 (aG l58 fun v75 l76=>asInt .i64 v75 fun n77=>ch l76 (st fl h55 ⟨b3,0,none⟩ [vi n62,vi n65,vs s68,vi n71,vs s74] fun h78=>kr ⟨b3,0,none⟩ n77 h78)))))
theorem aoZ:(cp aoY (ce C fl k akg K))=aen C fl k (cp aoX (K .ret)):=by kernel_rfl
def lp(ax aw:Int)(aA:Sl)(eu:Int)(et:Sl)(h:AH):Option (Value×AH):=aen C fl k (fun y2 y3 q=>aE .i64 q y2.block y2.off fun n79=>aE .i64 q y2.block (y2.off+1) fun n80=>bM q y2.block (y2.off+1+1) fun s81=>aE .i64 q y2.block (y2.off+1+1+1) fun n82=>bM q y2.block (y2.off+1+1+1+1) fun s83=>some (.tuple ⟨[.agg ⟨[vi n79,vi n80,vs s81,vi n82,vs s83]⟩,vi y3]⟩,q)) ax aw aA eu et h
theorem SF(ax aw:Int)(aA:Sl)(eu:Int)(et:Sl)(h):bl C fl k xD [.agg ⟨[vi ax,vi aw,vs aA,vi eu,vs et]⟩] h=lp C fl k ax aw aA eu et h:=vU (aoZ C fl k (aD _)) ax aw aA eu et (by kernel_rfl) (by kernel_rfl)
def AF:ay:=⟨27,.seq (.region [oI 2 (.box (.t 0)),oI 3 (.box (.t 1)),oI 4 (.alloc [.int .i64 0,.int .i64 0,.slice none 0 0,.int .i64 0,.slice none 0 0]),mc 5 0] [0,1,5]) (.seq (.region [oI 10 (.load (.agg [.int .i64,.int .i64,.slice]) (.t 2)),oI 11 (.load (.agg [.int .i64,.slice]) (.t 3)),oI 12 (.call (.f 73) [.t 10,.t 11] (.jo [.agg [.int .i64,.slice],.one .slice,.one (.int .i64)])),m 9 12,ex 13 9 0,ex 14 9 1,ex 15 9 2,oI 6 (.alloc [.int .i64 0,.slice none 0 0]),sI 2 6 13,m 7 14,m 8 15] [7,9,10,11,12,13,14,15]) (.seq (.seq (.region [m 16 8,ck 17 .eql 16 0] [16]) (.cond (.t 17) (.region [fa 18 0 3,li 19 18,oI 20 (.call (.f 74) [.t 19] (.one (.one (.int .i64)))),m 8 20] [3,17,18,19,20]) (kl [3,17]))) (.seq (.region [oI 21 (.load (.agg [.int .i64,.int .i64,.slice]) (.t 2)),oI 22 (.load (.agg [.int .i64,.slice]) (.t 6)),m 23 8,oI 24 (.call (.f 69) [.t 21,.t 22,.t 23] (.jo [.agg [.int .i64,.int .i64,.slice,.int .i64,.slice],.one (.int .i64)])),ex 25 24 0,ex 26 24 1,sI 5 4 25,m 5 26] [2,6,8,21,22,23,24,25,26]) (.ret)))),[.cell 4 (.agg [.int .i64,.int .i64,.slice,.int .i64,.slice]),.tmp 5]⟩
theorem YQ:okF Tryz.prog 37 AF=true:=by kernel_rfl
def D8(t4:Bool):List Value:=un 4 (.bool t4::un 22 [])
def Gj:aa:=.seq (.region [oI 4 (.mv (.c (.bool true)))] []) (.ret)
def Vu:List Value:=un 27 []
def IV(t0 t1:Sl)(t5:Int):List Value:=t0.v::t1.v::un 3 (vi t5::un 21 [])
def Gk:aa:=.seq (.region [m 11 5,m 12 0,ln 13 12,cm 14 .lss 11 13] [11,12,13]) (.seq (.cond (.t 14) (kl [14]) (.seq (kl [0,1,5,14]) (.exit 0))) (.seq (.block 1 (.seq (.region [m 17 0,m 18 5,ia 19 1 17 18,lt 20 19,m 21 1,m 22 5,ia 23 1 21 22,lt 24 23,oI 25 (.call (.f 17) [.t 20,.t 24] (.one (.one .bool))),no 26 25] [17,18,19,20,21,22,23,24,25]) (.cond (.t 26) (.seq (.region [oI 4 (.mv (.c (.bool false)))] [0,1,5,26]) (.ret)) (kl [26])))) (.region [m 15 5,bc 16 .add 15 1,m 5 16] [15,16])))
def QO:aa:=.seq (.block 0 (.loop Gk)) Gj
def aeo(cn:aa):aa:=.seq (.seq (.region [oI 4 (.mv (.c (.bool false)))] [4]) (.seq (.region [m 6 0,ln 7 6,m 8 1,ln 9 8,cm 10 .neq 7 9] [6,7,8,9]) (.seq (.cond (.t 10) (.seq (.region [oI 4 (.mv (.c (.bool false)))] [0,1,10]) (.ret)) (kl [10])) (.region [mc 5 0] [])))) cn
def akh:aa:=aeo QO
def aep(t0 t1:Sl):List Value:=t0.v::t1.v::un 25 []
def lB:ay:=⟨27,akh,[.tmp 4]⟩
theorem IW:okF Tryz.prog 38 lB=true:=by kernel_rfl
def D9{R:Type}(C:Callee)(fl k:Nat)(kr:au R):ar R:=fun h=>kr true h
theorem YR:(cp Vu (ce C fl k Gj K))=D9 C fl k (cp D8 (K .ret)):=by kernel_rfl
def qw{R:Type}(C:Callee)(fl k:Nat)(kn:fg R)(e0:ar R)(kr:au R):fg R:=fun t0 t1 t5 h=>if decide (t5<((t0.l:Nat):Int))=true then idx 1 t0 t5 fun p1=>bM h p1.block p1.off fun s2=>idx 1 t1 t5 fun p3=>bM h p3.block p3.off fun s4=>aC C fl fn.gi [vs s2,vs s4] h fun v5 h6=>asBool v5 fun b7=>if (!b7)=true then kr false h6 else kn t0 t1 (bL (t5+1)) h6 else e0 h
theorem YS:(cp IV (ce C fl k Gk K))=qw C fl k (cp IV (K .normal)) (cp Vu (K (.exit 0))) (cp D8 (K .ret)):=by kernel_rfl
def yX(kn:ar R)(kr:au R):Nat→fg R
 |0=>fun _ _ _ _=>none
 |m+1=>qw C fl k (yX kn kr m) kn kr
theorem Mz:∀m,(cp IV (aR m (bH C fl k Gk 0 K)))=yX C fl k (cp Vu (K .normal)) (cp D8 (K .ret)) m
 |0=>by kernel_rfl
 |m+1=>mq (YS C fl k _) (aj (fun L=>qw C fl k L _ _) (Mz m))
def Vv(kr:au R):fg R:=yX C fl k (D9 C fl k kr) kr k
theorem agX:(cp IV (ce C fl k QO K))=Vv C fl k (cp D8 (K .ret)):=(ou (mw (Mz C fl k (bU C fl k Gj K)))).trans (aj (fun L=>yX C fl k L _ k) (oh (YR C fl k K)))
def Vw{R:Type}(C:Callee)(fl k:Nat)(kx:fg R)(kr:au R):c8 R:=fun t0 t1 h=>if (((t0.l:Nat):Int) !=((t1.l:Nat):Int))=true then kr false h else kx t0 t1 0 h
def aki(kr:au R):c8 R:=Vw C fl k (Vv C fl k kr) kr
theorem ao0(cn:aa):(cp aep (ce C fl k (aeo cn) K))=Vw C fl k (cp IV (ce C fl k cn K)) (cp D8 (K .ret)):=by kernel_rfl
theorem ao1:(cp aep (ce C fl k akh K))=aki C fl k (cp D8 (K .ret)):=(ao0 C fl k K QO).trans (aj (fun L0=>Vw C fl k L0 _) (agX C fl k K))
def jh(p0 p1:Sl)(h:AH):Option (Value×AH):=aki C fl k (fun y4 q=>some (.bool y4,q)) p0 p1 h
theorem wa(p0 p1:Sl)(h):bl C fl k lB [vs p0,vs p1] h=jh C fl k p0 p1 h:=Ca (ao1 C fl k (aD _)) p0 p1 (by kernel_rfl) (by kernel_rfl)
def Ea(t4:Int):List Value:=un 4 (vi t4::un 14 [])
def Gl:aa:=.seq (.region [oI 4 (.mv (ci (-1)))] []) (.ret)
def Vx:List Value:=un 19 []
abbrev oC(R:Type):=Sl→Value→Int→Int→AH→Option R
def IX(t0:Sl)(t1:Value)(t7 t8:Int):List Value:=t0.v::t1::un 5 (vi t7::vi t8::un 10 [])
def Gm:aa:=.seq (.region [cm 9 .lss 8 7] []) (.seq (.cond (.t 9) (kl [9]) (.seq (kl [0,1,7,8,9]) (.exit 0))) (.seq (.block 1 (.seq (.region [m 10 8,m 5 10] [10]) (.seq (.region [m 11 1,m 12 0,m 13 5,ia 14 1 12 13,li 15 14,oI 16 (.call (.t 11) [.t 15] (.one (.one .bool)))] [11,12,13,14,15]) (.cond (.t 16) (.seq (.region [m 17 5,m 4 17] [0,1,5,7,8,16,17]) (.ret)) (kl [5,16]))))) (.region [bc 18 .add 8 1,m 8 18] [18])))
def QP:aa:=.seq (.block 0 (.loop Gm)) Gl
def aeq(cn:aa):aa:=.seq (.seq (.region [mc 4 0] [4]) (.region [m 6 0,ln 7 6,mc 8 0] [6])) cn
def akj:aa:=aeq QP
abbrev IY(R:Type):=Sl→Value→AH→Option R
def aer(t0:Sl)(t1:Value):List Value:=t0.v::t1::un 17 []
def gB:ay:=⟨19,akj,[.tmp 4]⟩
theorem AG:okF Tryz.prog 39 gB=true:=by kernel_rfl
def Lf{R:Type}(C:Callee)(fl k:Nat)(kr:ae R):ar R:=fun h=>kr (-1) h
theorem YT:(cp Vx (ce C fl k Gl K))=Lf C fl k (cp Ea (K .ret)):=by kernel_rfl
def qx{R:Type}(C:Callee)(fl k:Nat)(kn:oC R)(e0:ar R)(kr:ae R):oC R:=fun t0 t1 t7 t8 h=>if decide (t8<t7)=true then idx 1 t0 t8 fun p1=>aE .i64 h p1.block p1.off fun n2=>lX C fl t1 [vi n2] h fun v3 h4=>asBool v3 fun b5=>if b5=true then kr t8 h4 else kn t0 t1 t7 (bL (t8+1)) h4 else e0 h
theorem YU:(cp IX (ce C fl k Gm K))=qx C fl k (cp IX (K .normal)) (cp Vx (K (.exit 0))) (cp Ea (K .ret)):=by kernel_rfl
def yY(kn:ar R)(kr:ae R):Nat→oC R
 |0=>fun _ _ _ _ _=>none
 |m+1=>qx C fl k (yY kn kr m) kn kr
theorem MA:∀m,(cp IX (aR m (bH C fl k Gm 0 K)))=yY C fl k (cp Vx (K .normal)) (cp Ea (K .ret)) m
 |0=>by kernel_rfl
 |m+1=>mq (YU C fl k _) (aj (fun L=>qx C fl k L _ _) (MA m))
def Vy(kr:ae R):oC R:=yY C fl k (Lf C fl k kr) kr k
theorem agY:(cp IX (ce C fl k QP K))=Vy C fl k (cp Ea (K .ret)):=(ou (mw (MA C fl k (bU C fl k Gl K)))).trans (aj (fun L=>yY C fl k L _ k) (oh (YT C fl k K)))
def Vz{R:Type}(C:Callee)(fl k:Nat)(kx:oC R)(kr:ae R):IY R:=fun t0 t1 h=>kx t0 t1 ((t0.l:Nat):Int) 0 h
def akk(kr:ae R):IY R:=Vz C fl k (Vy C fl k kr) kr
theorem ao2(cn:aa):(cp aer (ce C fl k (aeq cn) K))=Vz C fl k (cp IX (ce C fl k cn K)) (cp Ea (K .ret)):=by kernel_rfl
theorem ao3:(cp aer (ce C fl k akj K))=akk C fl k (cp Ea (K .ret)):=(ao2 C fl k K QP).trans (aj (fun L0=>Vz C fl k L0 _) (agY C fl k K))
def eA(p0:Sl)(p1:Value)(h:AH):Option (Value×AH):=akk C fl k (fun y4 q=>some (vi y4,q)) p0 p1 h
theorem nL(p0:Sl)(p1:Value)(h):bl C fl k gB [vs p0,p1] h=eA C fl k p0 p1 h:=Ca (ao3 C fl k (aD _)) p0 p1 (by kernel_rfl) (by kernel_rfl)
def ao4(t3:Bool):List Value:=un 3 (.bool t3::un 3 [])
def akl:aa:=.seq (.region [oI 3 (.mv (.c (.bool false)))] [3]) (.seq (.region [m 4 0,li 5 1,cm 6 .geq 4 5,m 3 6] [0,1,4,5,6]) (.ret))
abbrev ao5(R:Type):=Int→Addr→AH→Option R
def ao6(t0:Int)(t1:Addr):List Value:=vi t0::vp t1::un 5 []
def gC:ay:=⟨7,akl,[.tmp 3]⟩
theorem AI:okF Tryz.prog 40 gC=true:=by kernel_rfl
def akm{R:Type}(C:Callee)(fl k:Nat)(kr:au R):ao5 R:=fun t0 t1 h=>aE .i64 h t1.block t1.off fun n1=>kr (decide (t0≥n1)) h
theorem ao7:(cp ao6 (ce C fl k akl K))=akm C fl k (cp ao4 (K .ret)):=by kernel_rfl
def cG(p0:Int)(p1:Addr)(h:AH):Option (Value×AH):=akm C fl k (fun y3 q=>some (.bool y3,q)) p0 p1 h
theorem nM(p0:Int)(p1:Addr)(h):bl C fl k gC [vi p0,.pointer (some p1)] h=cG C fl k p0 p1 h:=Ca (ao7 C fl k (aD _)) p0 p1 (by kernel_rfl) (by kernel_rfl)
def ao8(t2:Sl)(t3:Int):List Value:=un 2 (t2.v::vi t3::un 32 [])
def akn:aa:=.seq (.region [oI 1 (.box (.t 0)),oI 2 (.mv (.c (.slice none 0 0))),mc 3 0] [0,2,3]) (.seq (.region [oI 9 (.load (.agg [.int .i64,.int .i64,.slice,.int .i64,.slice]) (.t 1)),oI 10 (.call (.f 47) [.t 9] (.one (.one (.int .i64)))),m 4 10] [9,10]) (.seq (.region [m 11 4,ck 12 .neq 11 0] [11]) (.seq (.cond (.t 12) (.seq (.region [m 13 4,oI 2 (.mv (.c (.slice none 0 0))),m 3 13] [1,4,12,13]) (.ret)) (kl [4,12])) (.seq (.region [fa 14 3 1,li 15 14,ck 16 .gtr 15 16] [14,15]) (.seq (.cond (.t 16) (.seq (.region [oI 2 (.mv (.c (.slice none 0 0))),mc 3 8] [1,16]) (.ret)) (kl [16])) (.seq (.region [fa 18 0 1,oI 19 (.load (.agg [.int .i64,.int .i64,.slice]) (.t 18)),oI 20 (.call (.f 75) [.t 19] (.jo [.one .kB,.one (.int .i64)])),m 17 20,ex 21 17 0,ex 22 17 1,oI 5 (.alloc [.pointer none]),sI 1 5 21,m 6 22] [17,18,19,20,21,22]) (.seq (.region [m 23 6,ck 24 .neq 23 0] [23]) (.seq (.cond (.t 24) (.seq (.region [m 25 6,oI 2 (.mv (.c (.slice none 0 0))),m 3 25] [1,5,6,24,25]) (.ret)) (kl [6,24])) (.seq (.region [fa 26 3 1,li 27 26,oI 28 (.sh true .i64 .i64 (ci 1) (.t 27)),oI 29 (.cD 8 [.int .i64 0] (.t 28) (.t 28)),oI 7 (.alloc [.slice none 0 0]),sI 1 7 29] [26,27,28,29]) (.seq (.region [oI 8 (.alloc [.nilFunc])] []) (.seq (.region [oI 30 (.xd 76 [] [.t 1,.t 7,.t 8,.t 5]),sI 1 8 30] [5,30]) (.seq (.region [oI 31 (.load (.one .any) (.t 8)),fa 32 4 1,ls 33 32,oI 34 (.call (.t 31) [.t 33,ci 0,ci 0] (.jo []))] [1,8,31,32,33,34]) (.seq (.region [ls 35 7,m 2 35,mc 3 0] [7,35]) (.ret))))))))))))))
def ao9(aI aH:Int)(aK:Sl)(jT:Int)(jU:Sl):List Value:=.agg ⟨[vi aI,vi aH,vs aK,vi jT,vs jU]⟩::un 35 []
def lC:ay:=⟨36,akn,[.tmp 2,.tmp 3]⟩
theorem IZ:okF Tryz.prog 43 lC=true:=by kernel_rfl
def Un{R:Type}(C:Callee)(fl k:Nat)(kr:aO R):bQ R:=fun aI aH aK jT jU h=>cU h [vi aI,vi aH,vs aK,vi jT,vs jU] fun b1 h2=>aE .i64 h2 b1 0 fun n3=>aE .i64 h2 b1 1 fun n4=>bM h2 b1 2 fun s5=>aE .i64 h2 b1 3 fun n6=>bM h2 b1 4 fun s7=>aC C fl fn.gj [.agg ⟨[vi n3,vi n4,vs s5,vi n6,vs s7]⟩] h2 fun v8 h9=>asInt .i64 v8 fun ux=>if (ux !=0)=true then kr ⟨none,0,0⟩ ux h9 else aE .i64 h9 b1 3 fun Cw=>if decide (Cw>16)=true then kr ⟨none,0,0⟩ 8 h9 else aE .i64 h9 b1 0 fun Cs=>aE .i64 h9 b1 1 fun Fs=>bM h9 b1 2 fun s14=>aC C fl fn.ff [.agg ⟨[vi Cs,vi Fs,vs s14]⟩] h9 fun v15 NQ=>bj v15 fun l17=>aG l17 fun v18 l19=>fV v18 fun p20=>aG l19 fun v21 l22=>asInt .i64 v21 fun n23=>ch l22 (cU NQ [.pointer none] fun b24 h25=>st fl h25 ⟨b24,0,none⟩ [.pointer p20] fun h26=>if (n23 !=0)=true then kr ⟨none,0,0⟩ n23 h26 else aE .i64 h26 b1 3 fun n27=>shQ true .i64 1 n27 fun n28=>xg 8 [.int .i64 0] n28 n28 h26 fun s29 h30=>cU h30 [.slice none 0 0] fun b31 PU=>st fl PU ⟨b31,0,none⟩ [vs s29] fun h33=>cU h33 [.nilFunc] fun b34 h35=>st fl h35 ⟨b34,0,none⟩ [.func (.func fn.aM) ⟨[]⟩ ⟨[.pointer (some ⟨b1,0,none⟩),.pointer (some ⟨b31,0,none⟩),.pointer (some ⟨b34,0,none⟩),.pointer (some ⟨b24,0,none⟩)]⟩] fun h36=>ldV h36 b34 0 fun v37=>bM h36 b1 4 fun s38=>lX C fl v37 [vs s38,vi 0,vi 0] h36 fun v39 h40=>bj v39 fun l41=>ch l41 (bM h40 b31 0 fun s42=>kr s42 0 h40))
theorem apa:(cp ao9 (ce C fl k akn K))=Un C fl k (cp ao8 (K .ret)):=by kernel_rfl
def ji(ax aw:Int)(aA:Sl)(eu:Int)(et:Sl)(h:AH):Option (Value×AH):=Un C fl k (fun y2 y3 q=>some (.tuple ⟨[vs y2,vi y3]⟩,q)) ax aw aA eu et h
theorem wb(ax aw:Int)(aA:Sl)(eu:Int)(et:Sl)(h):bl C fl k lC [.agg ⟨[vi ax,vi aw,vs aA,vi eu,vs et]⟩] h=ji C fl k ax aw aA eu et h:=vU (apa C fl k (aD _)) ax aw aA eu et (by kernel_rfl) (by kernel_rfl)
def Pk(t2:Sl):List Value:=un 2 (t2.v::un 18 [])
def Gn:aa:=.seq (.region [m 20 3,m 2 20] [3,20]) (.ret)
def I0(t3:Sl):List Value:=un 3 (t3.v::un 17 [])
abbrev lD(R:Type):=Int→Sl→Int→AH→Option R
def sr(t0:Int)(t3:Sl)(t4:Int):List Value:=vi t0::un 2 (t3.v::vi t4::un 16 [])
def AJ:aa:=.region [m 9 4,bc 10 .add 9 1,m 4 10] [9,10]
def MB(cn:aa):aa:=.seq (.seq (.region [m 5 0,m 6 4,oI 7 (.sh false .i64 .i64 (.t 5) (.t 6)),ck 8 .gtr 7 0] [5,6,7]) (.seq (.cond (.t 8) (kl [8]) (.seq (kl [0,4,8]) (.exit 0))) (.block 1 (.seq (.region [m 11 0,m 12 4,oI 13 (.sh false .i64 .i64 (.t 11) (.t 12)),bc 14 .and 13 1,ck 15 .eql 14 1] [11,12,13,14]) (.cond (.t 15) (.region [m 16 3,m 17 4,oI 18 (.aQ 1 [.int .i64 0] [(0,1,.t 17)]),oI 19 (.append 1 8 (.t 16) (.t 18)),m 3 19] [15,16,17,18,19]) (kl [15])))))) cn
def Gp:aa:=MB AJ
def QQ:aa:=.seq (.block 0 (.loop Gp)) Gn
def aes(cn:aa):aa:=.seq (.seq (.region [oI 2 (.mv (.c (.slice none 0 0)))] [2]) (.seq (.region [oI 3 (.mv (.c (.slice none 0 0)))] []) (.region [mc 4 0] []))) cn
def ako:aa:=aes QQ
def aet(t0:Int):List Value:=vi t0::un 20 []
def lE:ay:=⟨21,ako,[.tmp 2]⟩
theorem I1:okF Tryz.prog 44 lE=true:=by kernel_rfl
def Lg{R:Type}(C:Callee)(fl k:Nat)(kr:ak R):ak R:=fun t3 h=>kr t3 h
theorem YV:(cp I0 (ce C fl k Gn K))=Lg C fl k (cp Pk (K .ret)):=by kernel_rfl
def tO{R:Type}(C:Callee)(fl k:Nat)(kn:lD R)(e0:ak R):lD R:=fun t0 t3 t4 h=>kn t0 t3 (bL (t4+1)) h
theorem SG:(cp sr (ce C fl k AJ K))=tO C fl k (cp sr (K .normal)) (cp I0 (K (.exit 0))):=by kernel_rfl
def wc{R:Type}(C:Callee)(fl k:Nat)(kx:lD R)(kn:lD R)(e0:ak R):lD R:=fun t0 t3 t4 h=>shQ false .i64 t0 t4 fun n1=>if decide (n1>0)=true then shQ false .i64 t0 t4 fun n2=>jd .and .i64 n2 1 fun n3=>if (n3==1)=true then cU h [vi t4] fun b4 h5=>fW fl 1 8 t3 ⟨(some ⟨b4,0,none⟩),1,1⟩ h5 fun s6 h7=>kx t0 s6 t4 h7 else kx t0 t3 t4 h else e0 t3 h
def qy(kn:lD R)(e0:ak R):lD R:=wc C fl k (tO C fl k kn e0) kn e0
theorem YW(cn:aa):(cp sr (ce C fl k (MB cn) K))=wc C fl k (cp sr (ce C fl k cn K)) (cp sr (K .normal)) (cp I0 (K (.exit 0))):=by kernel_rfl
theorem YX:(cp sr (ce C fl k Gp K))=qy C fl k (cp sr (K .normal)) (cp I0 (K (.exit 0))):=(YW C fl k K AJ).trans (aj (fun L0=>wc C fl k L0 _ _) (SG C fl k K))
def nN(kn:ak R):Nat→lD R
 |0=>fun _ _ _ _=>none
 |m+1=>qy C fl k (nN kn m) kn
theorem MC:∀m,(cp sr (aR m (bH C fl k Gp 0 K)))=nN C fl k (cp I0 (K .normal)) m
 |0=>by kernel_rfl
 |m+1=>mq (YX C fl k _) (aj (fun L=>qy C fl k L _) (MC m))
def VA(kr:ak R):lD R:=nN C fl k (Lg C fl k kr) k
theorem agZ:(cp sr (ce C fl k QQ K))=VA C fl k (cp Pk (K .ret)):=(ou (mw (MC C fl k (bU C fl k Gn K)))).trans (aj (fun L=>nN C fl k L k) (oh (YV C fl k K)))
def VB{R:Type}(C:Callee)(fl k:Nat)(kx:lD R)(kr:ak R):ae R:=fun t0 h=>kx t0 ⟨none,0,0⟩ 0 h
def akp(kr:ak R):ae R:=VB C fl k (VA C fl k kr) kr
theorem apb(cn:aa):(cp aet (ce C fl k (aes cn) K))=VB C fl k (cp sr (ce C fl k cn K)) (cp Pk (K .ret)):=by kernel_rfl
theorem apc:(cp aet (ce C fl k ako K))=akp C fl k (cp Pk (K .ret)):=(apb C fl k K QQ).trans (aj (fun L0=>VB C fl k L0 _) (agZ C fl k K))
def jj(p0:Int)(h:AH):Option (Value×AH):=akp C fl k (fun y2 q=>some (vs y2,q)) p0 h
theorem we(p0:Int)(h):bl C fl k lE [vi p0] h=jj C fl k p0 h:=acL (apc C fl k (aD _)) p0 (by kernel_rfl) (by kernel_rfl)
def apd(t2:Int):List Value:=un 2 (vi t2::un 16 [])
def akq:aa:=.seq (.region [oI 1 (.box (.t 0)),mc 2 0] [0,2]) (.seq (.region [fa 4 0 1,oI 5 (.load (.agg [.int .i64,.int .i64,.slice]) (.t 4)),oI 6 (.call (.f 79) [.t 5] (.one (.one (.int .i64)))),ck 7 .neq 6 0] [4,5,6]) (.seq (.cond (.t 7) (.seq (.region [mc 2 1] [1,7]) (.ret)) (kl [7])) (.seq (.region [fa 8 3 1,li 9 8,oI 10 (.call (.f 74) [.t 9] (.one (.one (.int .i64)))),m 3 10] [8,9,10]) (.seq (.region [m 11 3,ck 12 .neq 11 0] [11]) (.seq (.cond (.t 12) (.seq (.region [m 13 3,m 2 13] [1,3,12,13]) (.ret)) (kl [3,12])) (.seq (.region [fa 14 0 1,oJ 15 (.load (.agg [.int .i64,.int .i64,.slice]) (.t 14)),oJ 16 (.load (.agg [.int .i64,.int .i64,.slice,.int .i64,.slice]) (.t 1)),oJ 17 (.call (.f 68) [.t 16] (.one (.agg [.int .i64,.slice]))),oI 18 (.call (.f 80) [.t 15,.t 17] (.one (.one (.int .i64)))),m 2 18] [1,14,15,16,17,18]) (.ret)))))))
def ape(aI aH:Int)(aK:Sl)(jT:Int)(jU:Sl):List Value:=.agg ⟨[vi aI,vi aH,vs aK,vi jT,vs jU]⟩::un 18 []
def uY:ay:=⟨19,akq,[.tmp 2]⟩
theorem SH:okF Tryz.prog 47 uY=true:=by kernel_rfl
def YY{R:Type}(C:Callee)(fl k:Nat)(kr:ae R):bQ R:=fun aI aH aK jT jU h=>cU h [vi aI,vi aH,vs aK,vi jT,vs jU] fun b1 h2=>aE .i64 h2 b1 0 fun n3=>aE .i64 h2 b1 1 fun n4=>bM h2 b1 2 fun s5=>aC C fl fn.fN [.agg ⟨[vi n3,vi n4,vs s5]⟩] h2 fun v6 h7=>asInt .i64 v6 fun n8=>if (n8 !=0)=true then kr 1 h7 else aE .i64 h7 b1 3 fun n9=>aC C fl fn.nE [vi n9] h7 fun v10 mI=>asInt .i64 v10 fun Cs=>if (Cs !=0)=true then kr Cs mI else aE .i64 mI b1 0 fun Fs=>aE .i64 mI b1 1 fun DM=>bM mI b1 2 fun XX=>aE .i64 mI b1 0 fun KL=>aE .i64 mI b1 1 fun Sj=>bM mI b1 2 fun s18=>aE .i64 mI b1 3 fun PY=>bM mI b1 4 fun UG=>aC C mI.next fn.vS [.agg ⟨[vi KL,vi Sj,vs s18,vi PY,vs UG]⟩] mI fun v21 h22=>asAgg v21 fun l23=>aG l23 fun v24 l25=>asInt .i64 v24 fun PW=>aG l25 fun v27 l28=>bB v27 fun s29=>ch l28 (aC C fl fn.nF [.agg ⟨[vi Fs,vi DM,vs XX]⟩,.agg ⟨[vi PW,vs s29]⟩] h22 fun v30 h31=>asInt .i64 v30 fun n32=>kr n32 h31)
theorem apf:(cp ape (ce C fl k akq K))=YY C fl k (cp apd (K .ret)):=by kernel_rfl
def gj(ax aw:Int)(aA:Sl)(eu:Int)(et:Sl)(h:AH):Option (Value×AH):=YY C fl k (fun y2 q=>some (vi y2,q)) ax aw aA eu et h
theorem C2(ax aw:Int)(aA:Sl)(eu:Int)(et:Sl)(h):bl C fl k uY [.agg ⟨[vi ax,vi aw,vs aA,vi eu,vs et]⟩] h=gj C fl k ax aw aA eu et h:=vU (apf C fl k (aD _)) ax aw aA eu et (by kernel_rfl) (by kernel_rfl)
def iV:ay:=⟨47,.seq (.region [oI 4 (.mv (.c (.slice none 0 0)))] [4]) (.seq (.region [oI 5 (.mv (.c (.slice none 0 0)))] []) (.seq (.region [oI 6 (.mv (.c (.bool false)))] []) (.seq (.seq (.region [m 10 0,ln 11 10,mc 12 0] [0]) (.block 0 (.loop (.seq (.region [cm 13 .lss 12 11] []) (.seq (.cond (.t 13) (kl [13]) (.seq (kl [1,6,10,11,12,13]) (.exit 0))) (.seq (.block 1 (.seq (.region [m 14 12,ia 15 1 10 12,li 16 15,m 7 14,m 8 16] [14,15,16]) (.seq (.seq (.region [m 17 8,m 18 1,cm 19 .lss 17 18] [8,17,18]) (.cond (.t 19) (.seq (kl [7,19]) (.exit 1)) (kl [19]))) (.seq (.region [m 20 7,oI 21 (.call (.f 44) [.t 20] (.one (.one .slice))),m 9 21] [7,20,21]) (.seq (.region [m 22 6,no 23 22,m 24 23,.fc 24 false [qI 25 (.mv (.t 9)),qI 26 (.len (.t 25)),qI 27 (.mv (.t 5)),qI 28 (.len (.t 27)),qI 29 (.cmp .lss .i64 (.t 26) (.t 28))],oI 30 (.pick (.t 24) (.c (.bool true)) (.t 29)),m 31 30,.fc 31 false [qI 32 (.mv (.t 9)),qI 33 (.len (.t 32)),qI 34 (.mv (.t 5)),qI 35 (.len (.t 34)),qI 36 (.cmp .eql .i64 (.t 33) (.t 35)),qI 37 (.mv (.t 36))],.fc 37 true [qI 38 (.mv (.t 9)),qI 39 (.mv (.t 5)),qI 40 (.call (.f 81) [.t 38,.t 39] (.one (.one (.int .i64)))),qI 41 (.cmp .lss .i64 (.t 40) (ci 0))],.fc 31 false [qI 42 (.pick (.t 37) (.t 41) (.c (.bool false)))],oI 43 (.pick (.t 31) (.c (.bool true)) (.t 42))] [22,23,24,25,26,27,28,29,30,31,32,33,34,35,36,37,38,39,40,41,42]) (.cond (.t 43) (.region [m 44 9,m 5 44,oI 6 (.mv (.c (.bool true)))] [9,43,44]) (kl [9,43]))))))) (.region [bc 45 .add 12 1,m 12 45] [45]))))))) (.seq (.region [m 46 5,m 4 46] [5,46]) (.ret))))),[.tmp 4]⟩
theorem C3:okF Tryz.prog 48 iV=true:=by kernel_rfl
def ke:ay:=⟨125,.seq (.region [oI 3 (.box (.t 0)),oI 4 (.box (.t 1)),oI 6 (.alloc [.int .i64 0,.slice none 0 0]),mc 7 0] [0,1,7]) (.seq (.seq (.region [oI 21 (.load (.agg [.int .i64,.int .i64,.slice]) (.t 3)),oI 22 (.load (.agg [.int .i64,.slice]) (.t 4)),oI 23 (.call (.f 82) [.t 21,.t 22] (.jo [.agg [.kB,.int .i64,.slice,.slice],.one (.int .i64)])),m 20 23,ex 24 20 0,ex 25 20 1,oI 8 (.alloc [.pointer none,.int .i64 0,.slice none 0 0,.slice none 0 0]),sI 4 8 24,m 9 25] [8,20,21,22,23,24,25]) (.seq (.region [m 26 9,ck 27 .neq 26 0] [26]) (.cond (.t 27) (.seq (.region [oI 28 (.build [.int .i64 0,.slice none 0 0] []),m 29 9,sI 2 6 28,m 7 29] [2,3,4,9,27,28,29]) (.ret)) (kl [9,27])))) (.seq (.seq (.region [m 30 2,ln 31 30,mc 32 0] []) (.block 0 (.loop (.seq (.region [cm 33 .lss 32 31] []) (.seq (.cond (.t 33) (kl [33]) (.seq (kl [30,31,32,33]) (.exit 0))) (.seq (.block 1 (.seq (.region [m 34 32,ia 35 1 30 32,li 36 35,m 10 34,m 11 36] [34,35,36]) (.seq (.region [m 37 11,ck 38 .lss 37 0,m 39 38,.fc 39 false [qI 40 (.mv (.t 11)),qI 41 (.cu 0 (.t 4)),qI 42 (.load (.one (.int .i64)) (.t 41)),qI 43 (.cmp .geq .i64 (.t 40) (.t 42))],oI 44 (.pick (.t 39) (.c (.bool true)) (.t 43)),m 45 44,.fc 45 false [qI 46 (.mv (.t 10)),qI 47 (.cmp .gtr .i64 (.t 46) (ci 0)),qI 48 (.mv (.t 47))],.fc 48 true [qI 49 (.mv (.t 11)),qI 50 (.mv (.t 2)),qI 51 (.mv (.t 10)),qI 52 (.bin .sub .i64 (.t 51) (ci 1)),qI 53 (.dx 1 (.t 50) (.t 52)),qI 54 (.load (.one (.int .i64)) (.t 53)),qI 55 (.cmp .leq .i64 (.t 49) (.t 54))],.fc 45 false [qI 56 (.pick (.t 48) (.t 55) (.c (.bool false)))],oI 57 (.pick (.t 45) (.c (.bool true)) (.t 56))] [10,11,37,38,39,40,41,42,43,44,45,46,47,48,49,50,51,52,53,54,55,56]) (.cond (.t 57) (.seq (.region [oI 58 (.build [.int .i64 0,.slice none 0 0] []),sI 2 6 58,mc 7 6] [2,3,4,30,31,32,57,58]) (.ret)) (kl [57]))))) (.region [bc 59 .add 32 1,m 32 59] [59]))))))) (.seq (.region [oI 12 (.mv (.c (.slice none 0 0)))] []) (.seq (.seq (.region [fa 60 0 4,li 61 60,mc 62 0] [60]) (.block 2 (.loop (.seq (.region [cm 63 .lss 62 61] []) (.seq (.cond (.t 63) (kl [63]) (.seq (kl [2,61,62,63]) (.exit 2))) (.seq (.block 3 (.seq (.region [m 64 62,m 13 64] [64]) (.seq (.region [m 65 2,m 66 13,oI 67 (.call (.f 54) [.t 65,.t 66] (.one (.one .bool))),no 68 67] [65,66,67]) (.cond (.t 68) (.region [m 69 12,m 70 13,oI 71 (.aQ 1 [.int .i64 0] [(0,1,.t 70)]),oI 72 (.append 1 8 (.t 69) (.t 71)),m 12 72] [13,68,69,70,71,72]) (kl [13,68]))))) (.region [bc 73 .add 62 1,m 62 73] [73]))))))) (.seq (.region [oI 75 (.load (.agg [.int .i64,.int .i64,.slice]) (.t 3)),oI 76 (.load (.agg [.int .i64,.slice]) (.t 4)),m 77 12,oI 78 (.call (.f 83) [.t 75,.t 76,.t 77] (.jo [.agg [.int .i64,.slice],.one (.int .i64)])),m 74 78,ex 79 74 0,ex 80 74 1,oI 14 (.alloc [.int .i64 0,.slice none 0 0]),sI 2 14 79,m 15 80] [12,74,75,76,77,78,79,80]) (.seq (.seq (.region [m 81 15,ck 82 .neq 81 0] [81]) (.cond (.t 82) (.seq (.region [oI 83 (.build [.int .i64 0,.slice none 0 0] []),m 84 15,sI 2 6 83,m 7 84] [3,4,14,15,82,83,84]) (.ret)) (kl [15,82]))) (.seq (.region [oI 86 (.load (.agg [.int .i64,.int .i64,.slice]) (.t 3)),oI 87 (.load (.agg [.int .i64,.slice]) (.t 14)),oI 88 (.call (.f 84) [.t 86,.t 87] (.jo [.agg [.int .i64,.slice],.one (.int .i64)])),m 85 88,ex 89 85 0,ex 90 85 1,sI 2 14 89] [85,86,87,88,89,90]) (.seq (.region [fa 91 1 4,ls 92 91,ln 93 92,fa 94 0 14,sI 1 94 93] [91,92,93,94]) (.seq (.region [oI 96 (.load (.agg [.int .i64,.int .i64,.slice]) (.t 3)),oI 97 (.load (.agg [.int .i64,.slice]) (.t 14)),oI 98 (.call (.f 67) [.t 96,.t 97] (.jo [.agg [.int .i64,.slice],.one (.int .i64)])),m 95 98,ex 99 95 0,ex 100 95 1,oI 16 (.alloc [.int .i64 0,.slice none 0 0]),sI 2 16 99,m 15 100] [14,95,96,97,98,99,100]) (.seq (.seq (.region [m 101 15,ck 102 .neq 101 0] [101]) (.cond (.t 102) (.seq (.region [oI 103 (.build [.int .i64 0,.slice none 0 0] []),m 104 15,sI 2 6 103,m 7 104] [3,4,15,16,102,103,104]) (.ret)) (kl [15,102]))) (.seq (.region [oI 106 (.load (.agg [.int .i64,.int .i64,.slice]) (.t 3)),oI 107 (.load (.agg [.int .i64,.slice]) (.t 16)),oI 108 (.load (.agg [.int .i64,.slice]) (.t 4)),oI 109 (.call (.f 85) [.t 106,.t 107,.t 108] (.jo [.agg [.int .i64,.slice],.one (.int .i64)])),m 105 109,ex 110 105 0,ex 111 105 1,oI 17 (.alloc [.int .i64 0,.slice none 0 0]),sI 2 17 110,m 15 111] [4,16,105,106,107,108,109,110,111]) (.seq (.seq (.region [m 112 15,ck 113 .neq 112 0] [112]) (.cond (.t 113) (.seq (.region [oI 114 (.build [.int .i64 0,.slice none 0 0] []),m 115 15,sI 2 6 114,m 7 115] [3,15,17,113,114,115]) (.ret)) (kl [15,113]))) (.seq (.region [oI 117 (.load (.agg [.int .i64,.int .i64,.slice]) (.t 3)),oI 118 (.load (.agg [.int .i64,.slice]) (.t 17)),oI 119 (.call (.f 73) [.t 117,.t 118] (.jo [.agg [.int .i64,.slice],.one .slice,.one (.int .i64)])),m 116 119,ex 120 116 0,ex 121 116 1,ex 122 116 2,oI 18 (.alloc [.int .i64 0,.slice none 0 0]),sI 2 18 120,m 19 121,m 15 122] [3,17,19,116,117,118,119,120,121,122]) (.seq (.region [oI 123 (.load (.agg [.int .i64,.slice]) (.t 18)),m 124 15,sI 2 6 123,m 7 124] [15,18,123,124]) (.ret))))))))))))))),[.cell 6 (.agg [.int .i64,.slice]),.tmp 7]⟩
theorem Gq:okF Tryz.prog 49 ke=true:=by kernel_rfl
def apg(t4:Bool):List Value:=un 4 (.bool t4::un 4 [])
def akr:aa:=.seq (.region [oI 4 (.mv (.c (.bool false)))] [4]) (.seq (.region [m 5 0,m 6 1,oI 7 (.call (.f 89) [.t 5,.t 6] (.one (.one (.int .i64)))),ck 8 .geq 7 0,m 4 8] [0,1,5,6,7,8]) (.ret))
def aph(t0:Sl)(t1:Int):List Value:=t0.v::vi t1::un 7 []
def kf:ay:=⟨9,akr,[.tmp 4]⟩
theorem Gr:okF Tryz.prog 54 kf=true:=by kernel_rfl
def aks{R:Type}(C:Callee)(fl k:Nat)(kr:au R):aO R:=fun t0 t1 h=>aC C fl fn.lq [vs t0,vi t1] h fun v1 h2=>asInt .i64 v1 fun n3=>kr (decide (n3≥0)) h2
theorem api:(cp aph (ce C fl k akr K))=aks C fl k (cp apg (K .ret)):=by kernel_rfl
def fy(p0:Sl)(p1:Int)(h:AH):Option (Value×AH):=aks C fl k (fun y4 q=>some (.bool y4,q)) p0 p1 h
theorem uz(p0:Sl)(p1:Int)(h):bl C fl k kf [vs p0,vi p1] h=fy C fl k p0 p1 h:=Ca (api C fl k (aD _)) p0 p1 (by kernel_rfl) (by kernel_rfl)
def gD:ay:=⟨25,.seq (.region [oI 3 (.box (.t 0)),oI 6 (.alloc [.slice none 0 0]),mc 7 0] [0,7]) (.seq (.region [oI 11 (.load (.agg [.int .i64,.int .i64,.slice,.int .i64,.slice]) (.t 3)),m 12 1,m 13 2,oI 14 (.call (.f 90) [.t 11,.t 12,.t 13] (.jo [.one .kB,.one (.int .i64)])),m 10 14,ex 15 10 0,ex 16 10 1,m 8 15,m 9 16] [1,2,3,10,11,12,13,14,15,16]) (.seq (.seq (.region [m 17 9,ck 18 .neq 17 0] [17]) (.cond (.t 18) (.seq (.region [oI 19 (.build [.slice none 0 0] []),m 20 9,sI 1 6 19,m 7 20] [8,9,18,19,20]) (.ret)) (kl [9,18]))) (.seq (.region [m 21 8,oI 22 (.call (.f 91) [.t 21] (.jo [.agg [.slice],.one (.int .i64)])),ex 23 22 0,ex 24 22 1,sI 1 6 23,m 7 24] [8,21,22,23,24]) (.ret)))),[.cell 6 (.agg [.slice]),.tmp 7]⟩
theorem AK:okF Tryz.prog 56 gD=true:=by kernel_rfl
def gE:ay:=⟨24,.seq (.region [oI 4 (.box (.t 0)),oI 7 (.box (.t 3)),mc 8 0] [0,3,8]) (.seq (.region [oI 12 (.load (.agg [.int .i64,.int .i64,.slice,.int .i64,.slice]) (.t 4)),m 13 1,m 14 2,oI 15 (.call (.f 90) [.t 12,.t 13,.t 14] (.jo [.one .kB,.one (.int .i64)])),m 11 15,ex 16 11 0,ex 17 11 1,m 9 16,m 10 17] [1,2,4,11,12,13,14,15,16,17]) (.seq (.seq (.region [m 18 10,ck 19 .neq 18 0] [18]) (.cond (.t 19) (.seq (.region [m 20 10,m 8 20] [7,9,10,19,20]) (.ret)) (kl [10,19]))) (.seq (.region [m 21 9,oI 22 (.load (.agg [.slice]) (.t 7)),oI 23 (.call (.f 94) [.t 21,.t 22] (.one (.one (.int .i64)))),m 8 23] [7,9,21,22,23]) (.ret)))),[.tmp 8]⟩
theorem AL:okF Tryz.prog 59 gE=true:=by kernel_rfl
def Eb(t4:Bool):List Value:=un 4 (.bool t4::un 40 [])
def Gs:aa:=.seq (.region [oI 4 (.mv (.c (.bool true)))] []) (.ret)
def VC:List Value:=un 45 []
abbrev oD(R:Type):=Addr→Int→Int→AH→Option R
def I2(t2:Addr)(t5 t6:Int):List Value:=un 2 (vp t2::un 2 (vi t5::vi t6::un 38 []))
def Gt:aa:=.seq (.region [m 22 6,fa 23 1 2,ls 24 23,ln 25 24,cm 26 .lss 22 25] [22,23,24,25]) (.seq (.cond (.t 26) (kl [26]) (.seq (kl [2,5,6,26]) (.exit 0))) (.seq (.block 1 (.seq (.seq (.region [fa 29 1 2,ls 30 29,m 31 6,ia 32 1 30 31,ls 33 32,ln 34 33,m 35 5,cm 36 .gtr 34 35] [29,30,31,32,33,34,35]) (.cond (.t 36) (.seq (.region [oI 4 (.mv (.c (.bool false)))] [2,5,6,36]) (.ret)) (kl [36]))) (.region [m 37 5,fa 38 1 2,ls 39 38,m 40 6,ia 41 1 39 40,ls 42 41,ln 43 42,bb 44 .sub 37 43,m 5 44] [37,38,39,40,41,42,43,44]))) (.region [m 27 6,bc 28 .add 27 1,m 6 28] [27,28])))
def QR:aa:=.seq (.block 0 (.loop Gt)) Gs
def aeu(cn:aa):aa:=.seq (.seq (.region [oI 2 (.box (.t 0)),oI 4 (.mv (.c (.bool false)))] [0,4]) (.seq (.region [fa 7 0 2,li 8 7,ck 9 .gtr 8 260,m 10 9,.fc 10 false [qI 11 (.cu 1 (.t 2)),qI 12 (.load (.one .slice) (.t 11)),qI 13 (.len (.t 12)),qI 14 (.mv (.t 1)),qI 15 (.cmp .gtr .i64 (.t 13) (.t 14))],oI 16 (.pick (.t 10) (.c (.bool true)) (.t 15))] [7,8,9,10,11,12,13,14,15]) (.seq (.cond (.t 16) (.seq (.region [oI 4 (.mv (.c (.bool false)))] [1,2,16]) (.ret)) (kl [16])) (.seq (.region [m 17 1,fa 18 1 2,ls 19 18,ln 20 19,bb 21 .sub 17 20,m 5 21] [1,17,18,19,20,21]) (.region [mc 6 0] []))))) cn
def akt:aa:=aeu QR
def aev(aI:Int)(aH:Sl)(t1:Int):List Value:=.agg ⟨[vi aI,vs aH]⟩::vi t1::un 43 []
def xE:ay:=⟨45,akt,[.tmp 4]⟩
theorem VD:okF Tryz.prog 60 xE=true:=by kernel_rfl
def Ec{R:Type}(C:Callee)(fl k:Nat)(kr:au R):ar R:=fun h=>kr true h
theorem YZ:(cp VC (ce C fl k Gs K))=Ec C fl k (cp Eb (K .ret)):=by kernel_rfl
def qz{R:Type}(C:Callee)(fl k:Nat)(kn:oD R)(e0:ar R)(kr:au R):oD R:=fun t2 t5 t6 h=>bM h t2.block (t2.off+1) fun s1=>if decide (t6<((s1.l:Nat):Int))=true then bM h t2.block (t2.off+1) fun s2=>idx 1 s2 t6 fun p3=>bM h p3.block p3.off fun s4=>if decide (((s4.l:Nat):Int)>t5)=true then kr false h else bM h t2.block (t2.off+1) fun s5=>idx 1 s5 t6 fun p6=>bM h p6.block p6.off fun s7=>kn t2 (bL (t5-((s7.l:Nat):Int))) (bL (t6+1)) h else e0 h
theorem Y0:(cp I2 (ce C fl k Gt K))=qz C fl k (cp I2 (K .normal)) (cp VC (K (.exit 0))) (cp Eb (K .ret)):=by kernel_rfl
def lF(kn:ar R)(kr:au R):Nat→oD R
 |0=>fun _ _ _ _=>none
 |m+1=>qz C fl k (lF kn kr m) kn kr
theorem MD:∀m,(cp I2 (aR m (bH C fl k Gt 0 K)))=lF C fl k (cp VC (K .normal)) (cp Eb (K .ret)) m
 |0=>by kernel_rfl
 |m+1=>mq (Y0 C fl k _) (aj (fun L=>qz C fl k L _ _) (MD m))
def VE(kr:au R):oD R:=lF C fl k (Ec C fl k kr) kr k
theorem ag0:(cp I2 (ce C fl k QR K))=VE C fl k (cp Eb (K .ret)):=(ou (mw (MD C fl k (bU C fl k Gs K)))).trans (aj (fun L=>lF C fl k L _ k) (oh (YZ C fl k K)))
def QS{R:Type}(C:Callee)(fl k:Nat)(kx:oD R)(kr:au R):lD R:=fun aI aH t1 h=>cU h [vi aI,vs aH] fun b8 h9=>aE .i64 h9 b8 0 fun ux=>if decide (ux>260)=false then bM h9 b8 1 fun KK=>if decide (((KK.l:Nat):Int)>t1)=true then kr false h9 else bM h9 b8 1 fun s12=>kx ⟨b8,0,none⟩ (bL (t1-((s12.l:Nat):Int))) 0 h9 else kr false h9
def Y1(kr:au R):lD R:=QS C fl k (VE C fl k kr) kr
theorem apj(cn:aa):(cp aev (ce C fl k (aeu cn) K))=QS C fl k (cp I2 (ce C fl k cn K)) (cp Eb (K .ret)):=by kernel_rfl
theorem apk:(cp aev (ce C fl k akt K))=Y1 C fl k (cp Eb (K .ret)):=(apj C fl k K QR).trans (aj (fun L0=>QS C fl k L0 _) (ag0 C fl k K))
def vB(ax:Int)(aw:Sl)(p1:Int)(h:AH):Option (Value×AH):=Y1 C fl k (fun y4 q=>some (.bool y4,q)) ax aw p1 h
theorem SJ(ax:Int)(aw:Sl)(p1:Int)(h):bl C fl k xE [.agg ⟨[vi ax,vs aw]⟩,vi p1] h=vB C fl k ax aw p1 h:=yV (apk C fl k (aD _)) ax aw p1 (by kernel_rfl) (by kernel_rfl)
def Ed(t2:Int):List Value:=un 2 (vi t2::un 51 [])
def Gu:aa:=.seq (.region [fa 48 2 1,ls 49 48,fa 50 0 1,li 51 50,oI 52 (.call (.f 98) [.t 49,.t 51] (.one (.one .bool))),no 53 52] [1,48,49,50,51,52]) (.seq (.cond (.t 53) (.seq (.region [mc 2 1] [53]) (.ret)) (kl [53])) (.seq (.region [mc 2 0] []) (.ret)))
abbrev xF(R:Type):=Addr→AH→Option R
def VF(t1:Addr):List Value:=un 1 (vp t1::un 52 [])
def I3(t1:Addr)(t3:Int):List Value:=un 1 (vp t1::un 1 (vi t3::un 50 []))
def Gv:aa:=.seq (.region [m 26 3,fa 27 1 1,li 28 27,cm 29 .lss 26 28] [26,27,28]) (.seq (.cond (.t 29) (kl [29]) (.seq (kl [3,29]) (.exit 0))) (.seq (.block 1 (.seq (.region [fa 32 2 1,ls 33 32,m 34 3,ia 35 1 33 34,li 36 35,ck 37 .lss 36 0,m 38 37,.fc 38 false [qI 39 (.cu 2 (.t 1)),qJ 40 (.load (.one .slice) (.t 39)),qI 41 (.mv (.t 3)),qI 42 (.dx 1 (.t 40) (.t 41)),qJ 43 (.load (.one (.int .i64)) (.t 42)),qI 44 (.cu 0 (.t 1)),qJ 45 (.load (.one (.int .i64)) (.t 44)),qI 46 (.cmp .geq .i64 (.t 43) (.t 45))],oI 47 (.pick (.t 38) (.c (.bool true)) (.t 46))] [32,33,34,35,36,37,38,39,40,41,42,43,44,45,46]) (.cond (.t 47) (.seq (.region [mc 2 1] [1,3,47]) (.ret)) (kl [47])))) (.region [m 30 3,bc 31 .add 30 1,m 3 31] [30,31])))
def QT:aa:=.seq (.block 0 (.loop Gv)) Gu
def aew(cn:aa):aa:=.seq (.seq (.region [oI 1 (.box (.t 0)),mc 2 0] [0,2]) (.seq (.region [oI 4 (.load (.agg [.int .i64,.int .i64,.slice]) (.t 1)),oI 5 (.call (.f 96) [.t 4] (.one (.one (.int .i64)))),ck 6 .eql 5 0,m 7 6,.fc 7 false [qI 8 (.cu 0 (.t 1)),qI 9 (.load (.one (.int .i64)) (.t 8)),qI 10 (.call (.f 97) [.t 9] (.one (.one .bool))),qI 11 (.not (.t 10))],oI 12 (.pick (.t 7) (.c (.bool true)) (.t 11))] [4,5,6,7,8,9,10,11]) (.seq (.cond (.t 12) (.seq (.region [mc 2 1] [1,12]) (.ret)) (kl [12])) (.seq (.region [fa 13 1 1,li 14 13,ck 15 .eql 14 1] [13,14]) (.seq (.cond (.t 15) (.seq (.seq (.region [fa 16 2 1,ls 17 16,ln 18 17,ck 19 .neq 18 0] [1,15,16,17,18]) (.cond (.t 19) (.seq (.region [mc 2 1] [19]) (.ret)) (kl [19]))) (.seq (.region [mc 2 0] []) (.ret))) (kl [15])) (.seq (.region [fa 20 2 1,ls 21 20,ln 22 21,fa 23 1 1,li 24 23,cm 25 .neq 22 24] [20,21,22,23,24]) (.seq (.cond (.t 25) (.seq (.region [mc 2 1] [1,25]) (.ret)) (kl [25])) (.region [mc 3 0] [])))))))) cn
def aku:aa:=aew QT
abbrev jB(R:Type):=Int→Int→Sl→AH→Option R
def aex(aI aH:Int)(aK:Sl):List Value:=.agg ⟨[vi aI,vi aH,vs aK]⟩::un 53 []
def su:ay:=⟨54,aku,[.tmp 2]⟩
theorem QU:okF Tryz.prog 62 su=true:=by kernel_rfl
def Ee{R:Type}(C:Callee)(fl k:Nat)(kr:ae R):xF R:=fun t1 h=>bM h t1.block (t1.off+2) fun s1=>aE .i64 h t1.block t1.off fun n2=>aC C fl fn.gX [vs s1,vi n2] h fun v3 h4=>asBool v3 fun b5=>if (!b5)=true then kr 1 h4 else kr 0 h4
theorem Y2:(cp VF (ce C fl k Gu K))=Ee C fl k (cp Ed (K .ret)):=by kernel_rfl
def qA{R:Type}(C:Callee)(fl k:Nat)(kn:iU R)(e0:xF R)(kr:ae R):iU R:=fun t1 t3 h=>aE .i64 h t1.block (t1.off+1) fun n6=>if decide (t3<n6)=true then bM h t1.block (t1.off+2) fun s7=>idx 1 s7 t3 fun p8=>aE .i64 h p8.block p8.off fun n9=>if decide (n9<0)=false then bM h t1.block (t1.off+2) fun s10=>idx 1 s10 t3 fun p11=>aE .i64 h p11.block p11.off fun Cs=>aE .i64 h t1.block t1.off fun Fs=>if decide (Cs≥Fs)=true then kr 1 h else kn t1 (bL (t3+1)) h else kr 1 h else e0 t1 h
theorem Y3:(cp I3 (ce C fl k Gv K))=qA C fl k (cp I3 (K .normal)) (cp VF (K (.exit 0))) (cp Ed (K .ret)):=by kernel_rfl
def yZ(kn:xF R)(kr:ae R):Nat→iU R
 |0=>fun _ _ _=>none
 |m+1=>qA C fl k (yZ kn kr m) kn kr
theorem ME:∀m,(cp I3 (aR m (bH C fl k Gv 0 K)))=yZ C fl k (cp VF (K .normal)) (cp Ed (K .ret)) m
 |0=>by kernel_rfl
 |m+1=>mq (Y3 C fl k _) (aj (fun L=>qA C fl k L _ _) (ME m))
def Pm(kr:ae R):iU R:=yZ C fl k (Ee C fl k kr) kr k
theorem ag1:(cp I3 (ce C fl k QT K))=Pm C fl k (cp Ed (K .ret)):=(ou (mw (ME C fl k (bU C fl k Gu K)))).trans (aj (fun L=>yZ C fl k L _ k) (oh (Y2 C fl k K)))
def VG{R:Type}(C:Callee)(fl k:Nat)(kx:iU R)(kr:ae R):jB R:=fun aI aH aK h=>cU h [vi aI,vi aH,vs aK] fun KQ EP=>aE .i64 EP KQ 0 fun KL=>aE .i64 EP KQ 1 fun Sj=>bM EP KQ 2 fun s18=>aC C fl fn.kJ [.agg ⟨[vi KL,vi Sj,vs s18]⟩] EP fun v19 h20=>asInt .i64 v19 fun n21=>if (n21==0)=false then aE .i64 h20 KQ 0 fun Sm=>aC C fl fn.nG [vi Sm] h20 fun v23 yc=>asBool v23 fun b25=>if (!b25)=true then kr 1 yc else aE .i64 yc KQ 1 fun PW=>if (PW==1)=true then bM yc KQ 2 fun s27=>if (((s27.l:Nat):Int) !=0)=true then kr 1 yc else kr 0 yc else bM yc KQ 2 fun s28=>aE .i64 yc KQ 1 fun n29=>if (((s28.l:Nat):Int) !=n29)=true then kr 1 yc else kx ⟨KQ,0,none⟩ 0 yc else kr 1 h20
def akv(kr:ae R):jB R:=VG C fl k (Pm C fl k kr) kr
theorem apl(cn:aa):(cp aex (ce C fl k (aew cn) K))=VG C fl k (cp I3 (ce C fl k cn K)) (cp Ed (K .ret)):=by kernel_rfl
theorem apm:(cp aex (ce C fl k aku K))=akv C fl k (cp Ed (K .ret)):=(apl C fl k K QT).trans (aj (fun L0=>VG C fl k L0 _) (ag1 C fl k K))
def gW(ax aw:Int)(aA:Sl)(h:AH):Option (Value×AH):=akv C fl k (fun y2 q=>some (vi y2,q)) ax aw aA h
theorem N0(ax aw:Int)(aA:Sl)(h):bl C fl k su [.agg ⟨[vi ax,vi aw,vs aA]⟩] h=gW C fl k ax aw aA h:=yV (apm C fl k (aD _)) ax aw aA (by kernel_rfl) (by kernel_rfl)
def apn(t4:Int):List Value:=un 4 (vi t4::un 23 [])
def akw:aa:=.seq (.region [oI 2 (.box (.t 0)),oI 3 (.box (.t 1)),mc 4 0] [0,1,4]) (.seq (.region [oI 8 (.load (.agg [.int .i64,.int .i64,.slice]) (.t 2)),oI 9 (.load (.agg [.int .i64,.slice]) (.t 3)),oI 10 (.call (.f 99) [.t 8,.t 9] (.one (.one (.int .i64)))),m 5 10] [8,9,10]) (.seq (.region [m 11 5,ck 12 .neq 11 0] [11]) (.seq (.cond (.t 12) (.seq (.region [m 13 5,m 4 13] [2,3,5,12,13]) (.ret)) (kl [5,12])) (.seq (.region [oI 15 (.load (.agg [.int .i64,.int .i64,.slice]) (.t 2)),fa 16 1 3,ls 17 16,fa 18 0 3,li 19 18,oI 20 (.call (.f 86) [.t 15,.t 17,.t 19] (.jo [.one .slice,.one .slice])),m 14 20,ex 21 14 0,ex 22 14 1,m 6 21,m 7 22] [2,7,14,15,16,17,18,19,20,21,22]) (.seq (.region [m 23 6,fa 24 1 3,ls 25 24,oI 26 (.call (.f 38) [.t 23,.t 25] (.one (.one .bool))),no 27 26] [3,6,23,24,25,26]) (.seq (.cond (.t 27) (.seq (.region [mc 4 5] [27]) (.ret)) (kl [27])) (.seq (.region [mc 4 0] []) (.ret))))))))
def apo(aI aH:Int)(aK:Sl)(nu:Int)(ns:Sl):List Value:=.agg ⟨[vi aI,vi aH,vs aK]⟩::.agg ⟨[vi nu,vs ns]⟩::un 26 []
def sx:ay:=⟨28,akw,[.tmp 4]⟩
theorem QW:okF Tryz.prog 63 sx=true:=by kernel_rfl
def Y4{R:Type}(C:Callee)(fl k:Nat)(kr:ae R):bQ R:=fun aI aH aK nu ns h=>cU h [vi aI,vi aH,vs aK] fun b1 h2=>cU h2 [vi nu,vs ns] fun b3 h4=>aE .i64 h4 b1 0 fun n5=>aE .i64 h4 b1 1 fun n6=>bM h4 b1 2 fun s7=>aE .i64 h4 b3 0 fun n8=>bM h4 b3 1 fun s9=>aC C fl fn.gY [.agg ⟨[vi n5,vi n6,vs s7]⟩,.agg ⟨[vi n8,vs s9]⟩] h4 fun v10 mI=>asInt .i64 v10 fun Cs=>if (Cs !=0)=true then kr Cs mI else aE .i64 mI b1 0 fun Fs=>aE .i64 mI b1 1 fun DM=>bM mI b1 2 fun XX=>bM mI b3 1 fun Sk=>aE .i64 mI b3 0 fun Sj=>aC C fl fn.kI [.agg ⟨[vi Fs,vi DM,vs XX]⟩,vs Sk,vi Sj] mI fun v18 O6=>bj v18 fun l20=>aG l20 fun v21 l22=>bB v21 fun s23=>aG l22 fun v24 l25=>bB v24 fun s26=>ch l25 (bM O6 b3 1 fun s27=>aC C fl fn.jh [vs s23,vs s27] O6 fun v28 h29=>asBool v28 fun b30=>if (!b30)=true then kr 5 h29 else kr 0 h29)
theorem apq:(cp apo (ce C fl k akw K))=Y4 C fl k (cp apn (K .ret)):=by kernel_rfl
def kH(ax aw:Int)(aA:Sl)(gy:Int)(gz:Sl)(h:AH):Option (Value×AH):=Y4 C fl k (fun y4 q=>some (vi y4,q)) ax aw aA gy gz h
theorem N3(ax aw:Int)(aA:Sl)(gy:Int)(gz:Sl)(h):bl C fl k sx [.agg ⟨[vi ax,vi aw,vs aA]⟩,.agg ⟨[vi gy,vs gz]⟩] h=kH C fl k ax aw aA gy gz h:=vU (apq C fl k (aD _)) ax aw aA gy gz (by kernel_rfl) (by kernel_rfl)
def oE:ay:=⟨15,.seq (.region [oI 1 (.box (.t 0)),oI 2 (.mv (.c (.pointer none))),mc 3 0] [0,2,3]) (.seq (.seq (.region [oI 5 (.load (.agg [.int .i64,.int .i64,.slice,.int .i64,.slice]) (.t 1)),oI 6 (.call (.f 47) [.t 5] (.one (.one (.int .i64)))),m 4 6] [5,6]) (.seq (.region [m 7 4,ck 8 .neq 7 0] [7]) (.cond (.t 8) (.seq (.region [m 9 4,oI 2 (.mv (.c (.pointer none))),m 3 9] [1,4,8,9]) (.ret)) (kl [4,8])))) (.seq (.region [fa 10 0 1,oI 11 (.load (.agg [.int .i64,.int .i64,.slice]) (.t 10)),oI 12 (.call (.f 75) [.t 11] (.jo [.one .kB,.one (.int .i64)])),ex 13 12 0,ex 14 12 1,m 2 13,m 3 14] [1,10,11,12,13,14]) (.ret))),[.tmp 2,.tmp 3]⟩
theorem N4:okF Tryz.prog 64 oE=true:=by kernel_rfl
def oF:ay:=⟨45,.seq (.region [oI 2 (.box (.t 0)),mc 4 0] [0,4]) (.seq (.seq (.region [m 9 1,ln 10 9,mc 11 0] [1]) (.block 0 (.loop (.seq (.region [cm 12 .lss 11 10] []) (.seq (.cond (.t 12) (kl [12]) (.seq (kl [2,9,10,11,12]) (.exit 0))) (.seq (.block 1 (.seq (.region [ia 13 1 9 11,ls 14 13,m 6 14] [13,14]) (.seq (.region [m 15 6,ln 16 15,mc 17 0] []) (.block 2 (.loop (.seq (.region [cm 18 .lss 17 16] []) (.seq (.cond (.t 18) (kl [18]) (.seq (kl [6,15,16,17,18]) (.exit 2))) (.seq (.block 3 (.seq (.region [m 19 17,ia 20 1 15 17,li 21 20,m 7 19,m 8 21] [19,20,21]) (.seq (.region [m 22 8,ck 23 .lss 22 0,m 24 23,.fc 24 false [qI 25 (.mv (.t 8)),qI 26 (.cu 3 (.t 2)),qI 27 (.load (.one (.int .i64)) (.t 26)),qI 28 (.cmp .geq .i64 (.t 25) (.t 27))],oI 29 (.pick (.t 24) (.c (.bool true)) (.t 28)),m 30 29,.fc 30 false [qI 31 (.mv (.t 7)),qI 32 (.cmp .gtr .i64 (.t 31) (ci 0)),qI 33 (.mv (.t 32))],.fc 33 true [qI 34 (.mv (.t 8)),qI 35 (.mv (.t 6)),qI 36 (.mv (.t 7)),qI 37 (.bin .sub .i64 (.t 36) (ci 1)),qI 38 (.dx 1 (.t 35) (.t 37)),qI 39 (.load (.one (.int .i64)) (.t 38)),qI 40 (.cmp .leq .i64 (.t 34) (.t 39))],.fc 30 false [qI 41 (.pick (.t 33) (.t 40) (.c (.bool false)))],oI 42 (.pick (.t 30) (.c (.bool true)) (.t 41))] [7,8,22,23,24,25,26,27,28,29,30,31,32,33,34,35,36,37,38,39,40,41]) (.cond (.t 42) (.seq (.region [mc 4 6] [2,6,9,10,11,15,16,17,42]) (.ret)) (kl [42]))))) (.region [bc 43 .add 17 1,m 17 43] [43]))))))))) (.region [bc 44 .add 11 1,m 11 44] [44]))))))) (.seq (.region [mc 4 0] []) (.ret))),[.tmp 4]⟩
theorem N5:okF Tryz.prog 65 oF=true:=by kernel_rfl
def lG:ay:=⟨31,.seq (.region [oI 4 (.box (.t 1)),oI 6 (.mv (.c (.slice none 0 0)))] [1,6]) (.seq (.region [m 11 0,oI 12 (.build [.pointer none,.slice none 0 0,.slice none 0 0] [(0,1,.t 11)]),oI 13 (.box (.t 12)),m 7 13] [0,11,12,13]) (.seq (.region [oI 8 (.mv (.c (.slice none 0 0)))] []) (.seq (.seq (.region [m 14 2,ln 15 14,mc 16 0] [2]) (.block 0 (.loop (.seq (.region [cm 17 .lss 16 15] []) (.seq (.cond (.t 17) (kl [17]) (.seq (kl [4,7,14,15,16,17]) (.exit 0))) (.seq (.block 1 (.seq (.region [ia 18 1 14 16,li 19 18,m 10 19] [18,19]) (.seq (.region [m 20 7,oI 21 (.load (.agg [.int .i64,.int .i64,.slice,.int .i64,.slice]) (.t 4)),m 22 10,oI 23 (.call (.f 101) [.t 21,.t 22] (.one (.one .slice))),oI 24 (.call (.f 100) [.t 20,.t 23] (.one (.one .bool)))] [20,21,22,23]) (.cond (.t 24) (.region [m 25 8,m 26 10,oI 27 (.aQ 1 [.int .i64 0] [(0,1,.t 26)]),oI 28 (.append 1 8 (.t 25) (.t 27)),m 8 28] [10,24,25,26,27,28]) (kl [10,24]))))) (.region [bc 29 .add 16 1,m 16 29] [29]))))))) (.seq (.region [m 30 8,m 6 30] [8,30]) (.ret))))),[.tmp 6]⟩
theorem I4:okF Tryz.prog 66 lG=true:=by kernel_rfl
def Pn(t4:Addr)(t5:Int):List Value:=un 4 (vp t4::vi t5::un 80 [])
def Gw:aa:=.seq (.region [m 75 6,m 76 10,fa 77 0 3,li 78 77,oI 79 (.call (.f 103) [.t 75,.t 76,.t 78] (.jo [.one .slice,.one .slice])),m 74 79,ex 80 74 0,ex 81 74 1,m 10 80] [6,74,75,76,77,78,79,80,81]) (.seq (.region [fa 82 0 3,li 83 82,m 84 10,oI 85 (.build [.int .i64 0,.slice none 0 0] [(0,1,.t 83),(1,1,.t 84)]),sI 2 4 85,mc 5 0] [3,10,82,83,84,85]) (.ret))
abbrev xG(R:Type):=Addr→Addr→OA→Sl→AH→Option R
def AM(t3 t4:Addr)(t6:OA)(t10:Sl):List Value:=un 3 (vp t3::vp t4::un 1 (vn t6::un 3 (t10.v::un 75 [])))
abbrev da(R:Type):=Addr→Addr→OA→Sl→Sl→Sl→Int→Int→AH→Option R
def dd(t3 t4:Addr)(t6:OA)(t8 t9 t10:Sl)(t36 t37:Int):List Value:=un 3 (vp t3::vp t4::un 1 (vn t6::un 1 (t8.v::t9.v::t10.v::un 25 (vi t36::vi t37::un 48 []))))
def oG:aa:=.region [bc 73 .add 37 1,m 37 73] [73]
def mW:aa:=.region [m 69 10,m 70 12,oI 71 (.aQ 1 [.slice none 0 0] [(0,1,.t 70)]),oI 72 (.append 1 24 (.t 69) (.t 71)),m 10 72] [12,69,70,71,72]
abbrev Po(R:Type):=Addr→Addr→OA→Sl→Sl→Sl→Sl→Int→Int→AH→Option R
def VH(t3 t4:Addr)(t6:OA)(t8 t9 t10 t12:Sl)(t36 t37:Int):List Value:=un 3 (vp t3::vp t4::un 1 (vn t6::un 1 (t8.v::t9.v::t10.v::un 1 (t12.v::un 23 (vi t36::vi t37::un 48 [])))))
abbrev I5(R:Type):=Addr→Addr→OA→Sl→Sl→Sl→Int→Sl→Int→Int→Sl→Int→Int→AH→Option R
def I6(t3 t4:Addr)(t6:OA)(t8 t9 t10:Sl)(t11:Int)(t12:Sl)(t36 t37:Int)(t49:Sl)(t50 t51:Int):List Value:=un 3 (vp t3::vp t4::un 1 (vn t6::un 1 (t8.v::t9.v::t10.v::vi t11::t12.v::un 23 (vi t36::vi t37::un 11 (t49.v::vi t50::vi t51::un 34 [])))))
def mX:aa:=.seq (.region [cm 52 .lss 51 50] []) (.seq (.cond (.t 52) (kl [52]) (.seq (kl [11,49,50,51,52]) (.exit 2))) (.seq (.block 3 (.seq (.region [m 53 51,ia 54 1 49 51,li 55 54,m 13 53,m 14 55] [53,54,55]) (.region [m 56 12,m 57 14,m 58 6,m 59 8,m 60 13,ia 61 1 59 60,ls 62 61,m 63 11,ia 64 1 62 63,li 65 64,oI 66 (.call (.f 104) [.t 58,.t 65] (.one (.one (.int .i64)))),ia 67 1 56 57,sI 1 67 66] [13,14,56,57,58,59,60,61,62,63,64,65,66,67]))) (.region [bc 68 .add 51 1,m 51 68] [68])))
def qB:aa:=.seq (.block 2 (.loop mX)) mW
def BE(cn:aa):aa:=.seq (.seq (.region [m 39 37,m 11 39] [39]) (.seq (.region [m 40 9,m 41 11,oI 42 (.call (.f 54) [.t 40,.t 41] (.one (.one .bool)))] [40,41]) (.seq (.cond (.t 42) (.seq (kl [11,42]) (.exit 1)) (kl [42])) (.seq (.region [fa 43 0 3,li 44 43,oI 45 (.cD 8 [.int .i64 0] (.t 44) (.t 44)),m 12 45] [43,44,45]) (.seq (.region [m 46 12,m 47 11,ia 48 1 46 47,pI (.store 1 (.t 48) (ci 1))] [46,47,48]) (.region [m 49 9,ln 50 49,mc 51 0] [])))))) cn
def wg:aa:=BE qB
def Fv(cn vw:aa):aa:=.seq (.block 1 vw) cn
def AN:aa:=Fv oG wg
def MF(cn:aa):aa:=.seq (.seq (.region [cm 38 .lss 37 36] []) (.cond (.t 38) (kl [38]) (.seq (kl [8,9,36,37,38]) (.exit 0)))) cn
def Gx:aa:=MF AN
def QX:aa:=.seq (.block 0 (.loop Gx)) Gw
def aey(cn:aa):aa:=.seq (.seq (.region [oI 2 (.box (.t 0)),oI 3 (.box (.t 1)),oI 4 (.alloc [.int .i64 0,.slice none 0 0]),mc 5 0] [0,1,5]) (.seq (.region [oI 16 (.load (.agg [.int .i64,.int .i64,.slice]) (.t 2)),oI 17 (.load (.agg [.int .i64,.slice]) (.t 3)),oI 18 (.aQ 1 [.int .i64 0,.slice none 0 0] [(0,2,.t 17)]),oI 19 (.call (.f 102) [.t 16,.t 18] (.jo [.one .kB,.one (.int .i64)])),m 15 19,ex 20 15 0,ex 21 15 1,m 6 20,m 7 21] [2,15,16,17,18,19,20,21]) (.seq (.region [m 22 7,ck 23 .neq 22 0] [22]) (.seq (.cond (.t 23) (.seq (.region [oI 24 (.build [.int .i64 0,.slice none 0 0] []),m 25 7,sI 2 4 24,m 5 25] [3,6,7,23,24,25]) (.ret)) (kl [7,23])) (.seq (.region [m 27 6,fa 28 1 3,ls 29 28,fa 30 0 3,li 31 30,oI 32 (.call (.f 103) [.t 27,.t 29,.t 31] (.jo [.one .slice,.one .slice])),m 26 32,ex 33 26 0,ex 34 26 1,m 8 33,m 9 34] [26,27,28,29,30,31,32,33,34]) (.seq (.region [oI 10 (.mv (.c (.slice none 0 0)))] []) (.region [fa 35 0 3,li 36 35,mc 37 0] [35]))))))) cn
def akx:aa:=aey QX
def aez(aI aH:Int)(aK:Sl)(nu:Int)(ns:Sl):List Value:=.agg ⟨[vi aI,vi aH,vs aK]⟩::.agg ⟨[vi nu,vs ns]⟩::un 84 []
def mK:ay:=⟨86,akx,[.cell 4 (.agg [.int .i64,.slice]),.tmp 5]⟩
theorem Lh:okF Tryz.prog 67 mK=true:=by kernel_rfl
def Ef{R:Type}(C:Callee)(fl k:Nat)(kr:iU R):xG R:=fun t3 t4 t6 t10 h=>aE .i64 h t3.block t3.off fun n1=>aC C fl fn.gZ [.pointer t6,vs t10,vi n1] h fun v2 h3=>bj v2 fun l4=>aG l4 fun v5 l6=>bB v5 fun s7=>aG l6 fun v8 l9=>bB v8 fun s10=>ch l9 (aE .i64 h3 t3.block t3.off fun Cw=>st fl h3 t4 [vi Cw,vs s7] fun H3=>kr t4 0 H3)
theorem Y5:(cp AM (ce C fl k Gw K))=Ef C fl k (cp Pn (K .ret)):=by kernel_rfl
def eQ{R:Type}(C:Callee)(fl k:Nat)(kn:da R)(e0:xG R):da R:=fun t3 t4 t6 t8 t9 t10 t36 t37 h=>kn t3 t4 t6 t8 t9 t10 t36 (bL (t37+1)) h
theorem uc:(cp dd (ce C fl k oG K))=eQ C fl k (cp dd (K .normal)) (cp AM (K (.exit 0))):=by kernel_rfl
def kg{R:Type}(C:Callee)(fl k:Nat)(kn:da R)(e1:da R):Po R:=fun t3 t4 t6 t8 t9 t10 t12 t36 t37 h=>cU h [vs t12] fun b13 h14=>fW fl 1 24 t10 ⟨(some ⟨b13,0,none⟩),1,1⟩ h14 fun XX NQ=>kn t3 t4 t6 t8 t9 XX t36 t37 NQ
theorem ET:(cp VH (ce C fl k mW K))=kg C fl k (cp dd (K .normal)) (cp dd (K (.exit 1))):=by kernel_rfl
def dO{R:Type}(C:Callee)(fl k:Nat)(kn:I5 R)(e2:Po R):I5 R:=fun t3 t4 t6 t8 t9 t10 t11 t12 t36 t37 t49 t50 t51 h=>if decide (t51<t50)=true then idx 1 t49 t51 fun p17=>aE .i64 h p17.block p17.off fun n18=>idx 1 t8 t51 fun p19=>bM h p19.block p19.off fun UG=>idx 1 UG t11 fun p21=>aE .i64 h p21.block p21.off fun Sm=>aC C fl fn.eO [.pointer t6,vi Sm] h fun v23 yc=>asInt .i64 v23 fun n25=>idx 1 t12 n18 fun p26=>st fl yc p26 [vi n25] fun h27=>kn t3 t4 t6 t8 t9 t10 t11 t12 t36 t37 t49 t50 (bL (t51+1)) h27 else e2 t3 t4 t6 t8 t9 t10 t12 t36 t37 h
theorem EU:(cp I6 (ce C fl k mX K))=dO C fl k (cp I6 (K .normal)) (cp VH (K (.exit 2))):=by kernel_rfl
def dQ(kn:Po R):Nat→I5 R
 |0=>fun _ _ _ _ _ _ _ _ _ _ _ _ _ _=>none
 |m+1=>dO C fl k (dQ kn m) kn
theorem uA:∀m,(cp I6 (aR m (bH C fl k mX 2 K)))=dQ C fl k (cp VH (K .normal)) m
 |0=>by kernel_rfl
 |m+1=>mq (EU C fl k _) (aj (fun L=>dO C fl k L _) (uA m))
def ud(kn:da R)(e1:da R):I5 R:=dQ C fl k (kg C fl k kn e1) k
theorem I7:(cp I6 (ce C fl k qB K))=ud C fl k (cp dd (K .normal)) (cp dd (K (.exit 1))):=(ou (mw (uA C fl k (bU C fl k mW K)))).trans (aj (fun L=>dQ C fl k L k) (oh (ET C fl k K)))
def oH{R:Type}(C:Callee)(fl k:Nat)(kx:I5 R)(kn:da R)(e1:da R):da R:=fun t3 t4 t6 t8 t9 t10 t36 t37 h=>aC C fl fn.fy [vs t9,vi t37] h fun v28 h29=>asBool v28 fun b30=>if b30=true then e1 t3 t4 t6 t8 t9 t10 t36 t37 h29 else aE .i64 h29 t3.block t3.off fun n31=>xg 8 [.int .i64 0] n31 n31 h29 fun s32 h33=>idx 1 s32 t37 fun p34=>st fl h33 p34 [vi 1] fun h35=>kx t3 t4 t6 t8 t9 t10 t37 s32 t36 t37 t9 ((t9.l:Nat):Int) 0 h35
def sy(kn:da R)(e1:da R):da R:=oH C fl k (ud C fl k kn e1) kn e1
theorem N6(cn:aa):(cp dd (ce C fl k (BE cn) K))=oH C fl k (cp I6 (ce C fl k cn K)) (cp dd (K .normal)) (cp dd (K (.exit 1))):=by kernel_rfl
theorem N7:(cp dd (ce C fl k wg K))=sy C fl k (cp dd (K .normal)) (cp dd (K (.exit 1))):=(N6 C fl k K qB).trans (aj (fun L0=>oH C fl k L0 _ _) (I7 C fl k K))
def uZ{R:Type}(C:Callee)(fl k:Nat)(kx:da R)(u0:da R)(kn:da R)(e0:xG R):da R:=fun t3 t4 t6 t8 t9 t10 t36 t37 h=>u0 t3 t4 t6 t8 t9 t10 t36 t37 h
def C4(kn:da R)(e0:xG R):da R:=uZ C fl k (eQ C fl k kn e0) (sy C fl k (eQ C fl k kn e0) (eQ C fl k kn e0)) kn e0
theorem SK(cn vw:aa):(cp dd (ce C fl k (Fv cn vw) K))=uZ C fl k (cp dd (ce C fl k cn K)) (cp dd (ce C fl k vw (vJ 1 (bU C fl k cn K)))) (cp dd (K .normal)) (cp AM (K (.exit 0))):=by kernel_rfl
theorem SL:(cp dd (ce C fl k AN K))=C4 C fl k (cp dd (K .normal)) (cp AM (K (.exit 0))):=(SK C fl k K oG wg).trans (ot (fun L0 L1=>uZ C fl k L0 L1 _ _) (uc C fl k K) ((N7 C fl k (vJ 1 (bU C fl k oG K))).trans (ot (fun L0 L1=>sy C fl k L0 L1) (bn1 (uc C fl k K)) (bx1 (uc C fl k K)))))
def wh{R:Type}(C:Callee)(fl k:Nat)(kx:da R)(kn:da R)(e0:xG R):da R:=fun t3 t4 t6 t8 t9 t10 t36 t37 h=>if decide (t37<t36)=true then kx t3 t4 t6 t8 t9 t10 t36 t37 h else e0 t3 t4 t6 t10 h
def qC(kn:da R)(e0:xG R):da R:=wh C fl k (C4 C fl k kn e0) kn e0
theorem Y6(cn:aa):(cp dd (ce C fl k (MF cn) K))=wh C fl k (cp dd (ce C fl k cn K)) (cp dd (K .normal)) (cp AM (K (.exit 0))):=by kernel_rfl
theorem Y7:(cp dd (ce C fl k Gx K))=qC C fl k (cp dd (K .normal)) (cp AM (K (.exit 0))):=(Y6 C fl k K AN).trans (aj (fun L0=>wh C fl k L0 _ _) (SL C fl k K))
def j6(kn:xG R):Nat→da R
 |0=>fun _ _ _ _ _ _ _ _ _=>none
 |m+1=>qC C fl k (j6 kn m) kn
theorem MG:∀m,(cp dd (aR m (bH C fl k Gx 0 K)))=j6 C fl k (cp AM (K .normal)) m
 |0=>by kernel_rfl
 |m+1=>mq (Y7 C fl k _) (aj (fun L=>qC C fl k L _) (MG m))
def VI(kr:iU R):da R:=j6 C fl k (Ef C fl k kr) k
theorem ag2:(cp dd (ce C fl k QX K))=VI C fl k (cp Pn (K .ret)):=(ou (mw (MG C fl k (bU C fl k Gw K)))).trans (aj (fun L=>j6 C fl k L k) (oh (Y5 C fl k K)))
def QY{R:Type}(C:Callee)(fl k:Nat)(kx:da R)(kr:iU R):bQ R:=fun aI aH aK nu ns h=>cU h [vi aI,vi aH,vs aK] fun b36 h37=>cU h37 [vi nu,vs ns] fun b38 h39=>cU h39 [.int .i64 0,.slice none 0 0] fun b40 h41=>aE .i64 h41 b36 0 fun n42=>aE .i64 h41 b36 1 fun n43=>bM h41 b36 2 fun s44=>aE .i64 h41 b38 0 fun n45=>bM h41 b38 1 fun s46=>cU h41 [vi n45,vs s46] fun b47 h48=>aC C fl fn.c7 [.agg ⟨[vi n42,vi n43,vs s44]⟩,.slice (some ⟨b47,0,none⟩) 1 1] h48 fun v49 h50=>bj v49 fun l51=>aG l51 fun v52 l53=>fV v52 fun p54=>aG l53 fun v55 l56=>asInt .i64 v55 fun n57=>ch l56 (if (n57 !=0)=true then st fl h50 ⟨b40,0,none⟩ [vi 0,.slice none 0 0] fun h58=>kr ⟨b40,0,none⟩ n57 h58 else bM h50 b38 1 fun s59=>aE .i64 h50 b38 0 fun n60=>aC C fl fn.gZ [.pointer p54,vs s59,vi n60] h50 fun v61 h62=>bj v61 fun l63=>aG l63 fun v64 l65=>bB v64 fun s66=>aG l65 fun v67 l68=>bB v67 fun s69=>ch l68 (aE .i64 h62 b38 0 fun n70=>kx ⟨b38,0,none⟩ ⟨b40,0,none⟩ p54 s66 s69 ⟨none,0,0⟩ n70 0 h62))
def aeA(kr:iU R):bQ R:=QY C fl k (VI C fl k kr) kr
theorem apr(cn:aa):(cp aez (ce C fl k (aey cn) K))=QY C fl k (cp dd (ce C fl k cn K)) (cp Pn (K .ret)):=by kernel_rfl
theorem aps:(cp aez (ce C fl k akx K))=aeA C fl k (cp Pn (K .ret)):=(apr C fl k K QX).trans (aj (fun L0=>QY C fl k L0 _) (ag2 C fl k K))
def dF(ax aw:Int)(aA:Sl)(gy:Int)(gz:Sl)(h:AH):Option (Value×AH):=aeA C fl k (fun y4 y5 q=>aE .i64 q y4.block y4.off fun n71=>bM q y4.block (y4.off+1) fun s72=>some (.tuple ⟨[.agg ⟨[vi n71,vs s72]⟩,vi y5]⟩,q)) ax aw aA gy gz h
theorem xH(ax aw:Int)(aA:Sl)(gy:Int)(gz:Sl)(h):bl C fl k mK [.agg ⟨[vi ax,vi aw,vs aA]⟩,.agg ⟨[vi gy,vs gz]⟩] h=dF C fl k ax aw aA gy gz h:=vU (aps C fl k (aD _)) ax aw aA gy gz (by kernel_rfl) (by kernel_rfl)
def apt(t2:Addr):List Value:=un 2 (vp t2::un 5 [])
def aky:aa:=.seq (.region [oI 1 (.box (.t 0)),oI 2 (.alloc [.int .i64 0,.slice none 0 0])] [0]) (.seq (.region [fa 3 3 1,li 4 3,fa 5 4 1,ls 6 5,oI 7 (.build [.int .i64 0,.slice none 0 0] [(0,1,.t 4),(1,1,.t 6)]),sI 2 2 7] [1,3,4,5,6,7]) (.ret))
def apu(aI aH:Int)(aK:Sl)(jT:Int)(jU:Sl):List Value:=.agg ⟨[vi aI,vi aH,vs aK,vi jT,vs jU]⟩::un 7 []
def AO:ay:=⟨8,aky,[.cell 2 (.agg [.int .i64,.slice])]⟩
theorem Y8:okF Tryz.prog 68 AO=true:=by kernel_rfl
def akz{R:Type}(C:Callee)(fl k:Nat)(kr:xF R):bQ R:=fun aI aH aK jT jU h=>cU h [vi aI,vi aH,vs aK,vi jT,vs jU] fun b1 h2=>cU h2 [.int .i64 0,.slice none 0 0] fun b3 h4=>aE .i64 h4 b1 3 fun n5=>bM h4 b1 4 fun s6=>st fl h4 ⟨b3,0,none⟩ [vi n5,vs s6] fun h7=>kr ⟨b3,0,none⟩ h7
theorem apv:(cp apu (ce C fl k aky K))=akz C fl k (cp apt (K .ret)):=by kernel_rfl
def vS(ax aw:Int)(aA:Sl)(eu:Int)(et:Sl)(h:AH):Option (Value×AH):=akz C fl k (fun y2 q=>aE .i64 q y2.block y2.off fun n8=>bM q y2.block (y2.off+1) fun s9=>some (.agg ⟨[vi n8,vs s9]⟩,q)) ax aw aA eu et h
theorem I8(ax aw:Int)(aA:Sl)(eu:Int)(et:Sl)(h):bl C fl k AO [.agg ⟨[vi ax,vi aw,vs aA,vi eu,vs et]⟩] h=vS C fl k ax aw aA eu et h:=vU (apv C fl k (aD _)) ax aw aA eu et (by kernel_rfl) (by kernel_rfl)
def apw(t6:Addr)(t7:Int):List Value:=un 6 (vp t6::vi t7::un 11 [])
def akA:aa:=.seq (.region [oI 3 (.box (.t 0)),oI 4 (.box (.t 1)),oI 6 (.alloc [.int .i64 0,.int .i64 0,.slice none 0 0,.int .i64 0,.slice none 0 0]),mc 7 0] [0,1,7]) (.seq (.region [m 8 2,ck 9 .neq 8 0] [8]) (.seq (.cond (.t 9) (.seq (.region [oI 10 (.build [.int .i64 0,.int .i64 0,.slice none 0 0,.int .i64 0,.slice none 0 0] []),m 11 2,sI 5 6 10,m 7 11] [2,3,4,9,10,11]) (.ret)) (kl [2,9])) (.seq (.region [oJ 12 (.load (.agg [.int .i64,.int .i64,.slice]) (.t 3)),oJ 13 (.call (.f 105) [.t 12] (.one (.agg [.int .i64,.int .i64,.slice]))),fa 14 0 4,lj 15 14,fa 16 1 4,lt 17 16,oI 18 (.build [.int .i64 0,.int .i64 0,.slice none 0 0,.int .i64 0,.slice none 0 0] [(0,3,.t 13),(3,1,.t 15),(4,1,.t 17)]),sI 5 6 18,mc 7 0] [3,4,12,13,14,15,16,17,18]) (.ret))))
def apx(aI aH:Int)(aK:Sl)(nu:Int)(ns:Sl)(t2:Int):List Value:=.agg ⟨[vi aI,vi aH,vs aK]⟩::.agg ⟨[vi nu,vs ns]⟩::vi t2::un 16 []
def Eg:ay:=⟨19,akA,[.cell 6 (.agg [.int .i64,.int .i64,.slice,.int .i64,.slice]),.tmp 7]⟩
theorem acN:okF Tryz.prog 69 Eg=true:=by kernel_rfl
def akB{R:Type}(C:Callee)(fl k:Nat)(kr:iU R):Vr R:=fun aI aH aK nu ns t2 h=>cU h [vi aI,vi aH,vs aK] fun b1 h2=>cU h2 [vi nu,vs ns] fun b3 h4=>cU h4 [.int .i64 0,.int .i64 0,.slice none 0 0,.int .i64 0,.slice none 0 0] fun b5 h6=>if (t2 !=0)=true then st fl h6 ⟨b5,0,none⟩ [vi 0,vi 0,.slice none 0 0,vi 0,.slice none 0 0] fun h7=>kr ⟨b5,0,none⟩ t2 h7 else aE .i64 h6 b1 0 fun n8=>aE .i64 h6 b1 1 fun n9=>bM h6 b1 2 fun s10=>aC C h6.next fn.yT [.agg ⟨[vi n8,vi n9,vs s10]⟩] h6 fun v11 H3=>asAgg v11 fun l13=>aG l13 fun v14 l15=>asInt .i64 v14 fun KL=>aG l15 fun v17 l18=>asInt .i64 v17 fun PY=>aG l18 fun v20 l21=>bB v20 fun s22=>ch l21 (aE .i64 H3 b3 0 fun n23=>bM H3 b3 1 fun s24=>st fl H3 ⟨b5,0,none⟩ [vi KL,vi PY,vs s22,vi n23,vs s24] fun h25=>kr ⟨b5,0,none⟩ 0 h25)
theorem apy:(cp apx (ce C fl k akA K))=akB C fl k (cp apw (K .ret)):=by kernel_rfl
def D4(ax aw:Int)(aA:Sl)(gy:Int)(gz:Sl)(p2:Int)(h:AH):Option (Value×AH):=akB C fl k (fun y6 y7 q=>aE .i64 q y6.block y6.off fun PW=>aE .i64 q y6.block (y6.off+1) fun n27=>bM q y6.block (y6.off+1+1) fun s28=>aE .i64 q y6.block (y6.off+1+1+1) fun n29=>bM q y6.block (y6.off+1+1+1+1) fun s30=>some (.tuple ⟨[.agg ⟨[vi PW,vi n27,vs s28,vi n29,vs s30]⟩,vi y7]⟩,q)) ax aw aA gy gz p2 h
theorem MH(ax aw:Int)(aA:Sl)(gy:Int)(gz:Sl)(p2:Int)(h):bl C fl k Eg [.agg ⟨[vi ax,vi aw,vs aA]⟩,.agg ⟨[vi gy,vs gz]⟩,vi p2] h=D4 C fl k ax aw aA gy gz p2 h:=auC (apy C fl k (aD _)) ax aw aA gy gz p2 (by kernel_rfl) (by kernel_rfl)
def Eh(t4:Int):List Value:=un 4 (vi t4::un 14 [])
def Gy:aa:=.seq (.region [mc 4 0] []) (.ret)
def VJ:List Value:=un 19 []
abbrev I9(R:Type):=Sl→Addr→Int→AH→Option R
def Ja(t1:Sl)(t2:Addr)(t5:Int):List Value:=un 1 (t1.v::vp t2::un 2 (vi t5::un 13 []))
def Gz:aa:=.seq (.region [m 6 5,m 7 1,ln 8 7,cm 9 .lss 6 8] [6,7,8]) (.seq (.cond (.t 9) (kl [9]) (.seq (kl [1,2,5,9]) (.exit 0))) (.seq (.block 1 (.seq (.region [oJ 12 (.load (.agg [.int .i64,.int .i64,.slice]) (.t 2)),m 13 1,m 14 5,ia 15 1 13 14,lj 16 15,oI 17 (.call (.f 106) [.t 12,.t 16] (.one (.one .bool))),no 18 17] [12,13,14,15,16,17]) (.cond (.t 18) (.seq (.region [mc 4 2] [1,2,5,18]) (.ret)) (kl [18])))) (.region [m 10 5,bc 11 .add 10 1,m 5 11] [10,11])))
def QZ:aa:=.seq (.block 0 (.loop Gz)) Gy
def aeB(cn:aa):aa:=.seq (.seq (.region [oI 2 (.box (.t 0)),mc 4 0] [0,4]) (.region [mc 5 0] [])) cn
def akC:aa:=aeB QZ
abbrev xI(R:Type):=Int→Int→Sl→Sl→AH→Option R
def aeC(aI aH:Int)(aK t1:Sl):List Value:=.agg ⟨[vi aI,vi aH,vs aK]⟩::t1.v::un 17 []
def mL:ay:=⟨19,akC,[.tmp 4]⟩
theorem Li:okF Tryz.prog 70 mL=true:=by kernel_rfl
def Lj{R:Type}(C:Callee)(fl k:Nat)(kr:ae R):ar R:=fun h=>kr 0 h
theorem Y9:(cp VJ (ce C fl k Gy K))=Lj C fl k (cp Eh (K .ret)):=by kernel_rfl
def qD{R:Type}(C:Callee)(fl k:Nat)(kn:I9 R)(e0:ar R)(kr:ae R):I9 R:=fun t1 t2 t5 h=>if decide (t5<((t1.l:Nat):Int))=true then aE .i64 h t2.block t2.off fun n1=>aE .i64 h t2.block (t2.off+1) fun n2=>bM h t2.block (t2.off+1+1) fun s3=>idx 1 t1 t5 fun p4=>aE .i64 h p4.block p4.off fun n5=>aC C fl fn.kK [.agg ⟨[vi n1,vi n2,vs s3]⟩,vi n5] h fun v6 h7=>asBool v6 fun b8=>if (!b8)=true then kr 2 h7 else kn t1 t2 (bL (t5+1)) h7 else e0 h
theorem Za:(cp Ja (ce C fl k Gz K))=qD C fl k (cp Ja (K .normal)) (cp VJ (K (.exit 0))) (cp Eh (K .ret)):=by kernel_rfl
def qE(kn:ar R)(kr:ae R):Nat→I9 R
 |0=>fun _ _ _ _=>none
 |m+1=>qD C fl k (qE kn kr m) kn kr
theorem MI:∀m,(cp Ja (aR m (bH C fl k Gz 0 K)))=qE C fl k (cp VJ (K .normal)) (cp Eh (K .ret)) m
 |0=>by kernel_rfl
 |m+1=>mq (Za C fl k _) (aj (fun L=>qD C fl k L _ _) (MI m))
def aeD(kr:ae R):I9 R:=qE C fl k (Lj C fl k kr) kr k
theorem ag3:(cp Ja (ce C fl k QZ K))=aeD C fl k (cp Eh (K .ret)):=(ou (mw (MI C fl k (bU C fl k Gy K)))).trans (aj (fun L=>qE C fl k L _ k) (oh (Y9 C fl k K)))
def VK{R:Type}(C:Callee)(fl k:Nat)(kx:I9 R)(kr:ae R):xI R:=fun aI aH aK t1 h=>cU h [vi aI,vi aH,vs aK] fun b9 H7=>kx t1 ⟨b9,0,none⟩ 0 H7
def akD(kr:ae R):xI R:=VK C fl k (aeD C fl k kr) kr
theorem apz(cn:aa):(cp aeC (ce C fl k (aeB cn) K))=VK C fl k (cp Ja (ce C fl k cn K)) (cp Eh (K .ret)):=by kernel_rfl
theorem apA:(cp aeC (ce C fl k akC K))=akD C fl k (cp Eh (K .ret)):=(apz C fl k K QZ).trans (aj (fun L0=>VK C fl k L0 _) (ag3 C fl k K))
def jZ(ax aw:Int)(aA p1:Sl)(h:AH):Option (Value×AH):=akD C fl k (fun y4 q=>some (vi y4,q)) ax aw aA p1 h
theorem Jb(ax aw:Int)(aA p1:Sl)(h):bl C fl k mL [.agg ⟨[vi ax,vi aw,vs aA]⟩,vs p1] h=jZ C fl k ax aw aA p1 h:=NT (apA C fl k (aD _)) ax aw aA p1 (by kernel_rfl) (by kernel_rfl)
abbrev cw(R:Type):=Addr→Sl→Int→AH→Option R
def apB(t4:Addr)(t5:Sl)(t6:Int):List Value:=un 4 (vp t4::t5.v::vi t6::un 29 [])
def akE:aa:=.seq (.region [oI 2 (.box (.t 0)),oI 3 (.box (.t 1)),oI 4 (.alloc [.int .i64 0,.slice none 0 0]),oI 5 (.mv (.c (.slice none 0 0))),mc 6 0] [0,1,5,6]) (.seq (.region [oI 12 (.load (.agg [.int .i64,.int .i64,.slice]) (.t 2)),oI 13 (.load (.agg [.int .i64,.slice]) (.t 3)),oI 14 (.aQ 1 [.int .i64 0,.slice none 0 0] [(0,2,.t 13)]),oI 15 (.call (.f 102) [.t 12,.t 14] (.jo [.one .kB,.one (.int .i64)])),m 11 15,ex 16 11 0,ex 17 11 1,m 7 16,m 8 17] [2,11,12,13,14,15,16,17]) (.seq (.region [m 18 8,ck 19 .neq 18 0] [18]) (.seq (.cond (.t 19) (.seq (.region [oI 20 (.build [.int .i64 0,.slice none 0 0] []),m 21 8,sI 2 4 20,oI 5 (.mv (.c (.slice none 0 0))),m 6 21] [3,7,8,19,20,21]) (.ret)) (kl [8,19])) (.seq (.region [m 23 7,fa 24 1 3,ls 25 24,fa 26 0 3,li 27 26,oI 28 (.call (.f 103) [.t 23,.t 25,.t 27] (.jo [.one .slice,.one .slice])),m 22 28,ex 29 22 0,ex 30 22 1,m 9 29,m 10 30] [7,22,23,24,25,26,27,28,29,30]) (.seq (.region [fa 31 0 3,li 32 31,m 33 9,oI 34 (.build [.int .i64 0,.slice none 0 0] [(0,1,.t 32),(1,1,.t 33)]),m 35 10,sI 2 4 34,m 5 35,mc 6 0] [3,9,10,31,32,33,34,35]) (.ret))))))
def apC(aI aH:Int)(aK:Sl)(nu:Int)(ns:Sl):List Value:=.agg ⟨[vi aI,vi aH,vs aK]⟩::.agg ⟨[vi nu,vs ns]⟩::un 34 []
def jC:ay:=⟨36,akE,[.cell 4 (.agg [.int .i64,.slice]),.tmp 5,.tmp 6]⟩
theorem EV:okF Tryz.prog 73 jC=true:=by kernel_rfl
def aeE{R:Type}(C:Callee)(fl k:Nat)(kr:cw R):bQ R:=fun aI aH aK nu ns h=>cU h [vi aI,vi aH,vs aK] fun b1 h2=>cU h2 [vi nu,vs ns] fun b3 h4=>cU h4 [.int .i64 0,.slice none 0 0] fun b5 h6=>aE .i64 h6 b1 0 fun n7=>aE .i64 h6 b1 1 fun n8=>bM h6 b1 2 fun s9=>aE .i64 h6 b3 0 fun ux=>bM h6 b3 1 fun KK=>cU h6 [vi ux,vs KK] fun b12 uV=>aC C fl fn.c7 [.agg ⟨[vi n7,vi n8,vs s9]⟩,.slice (some ⟨b12,0,none⟩) 1 1] uV fun v14 EP=>bj v14 fun l16=>aG l16 fun v17 l18=>fV v17 fun p19=>aG l18 fun v20 l21=>asInt .i64 v20 fun Sm=>ch l21 (if (Sm !=0)=true then st fl EP ⟨b5,0,none⟩ [vi 0,.slice none 0 0] fun h23=>kr ⟨b5,0,none⟩ ⟨none,0,0⟩ Sm h23 else bM EP b3 1 fun s24=>aE .i64 EP b3 0 fun n25=>aC C fl fn.gZ [.pointer p19,vs s24,vi n25] EP fun v26 h27=>bj v26 fun l28=>aG l28 fun v29 l30=>bB v29 fun s31=>aG l30 fun v32 l33=>bB v32 fun s34=>ch l33 (aE .i64 h27 b3 0 fun n35=>st fl h27 ⟨b5,0,none⟩ [vi n35,vs s31] fun h36=>kr ⟨b5,0,none⟩ s34 0 h36))
theorem apD:(cp apC (ce C fl k akE K))=aeE C fl k (cp apB (K .ret)):=by kernel_rfl
def cF(ax aw:Int)(aA:Sl)(gy:Int)(gz:Sl)(h:AH):Option (Value×AH):=aeE C fl k (fun y4 y5 y6 q=>aE .i64 q y4.block y4.off fun n37=>bM q y4.block (y4.off+1) fun s38=>some (.tuple ⟨[.agg ⟨[vi n37,vs s38]⟩,vs y5,vi y6]⟩,q)) ax aw aA gy gz h
theorem tP(ax aw:Int)(aA:Sl)(gy:Int)(gz:Sl)(h):bl C fl k jC [.agg ⟨[vi ax,vi aw,vs aA]⟩,.agg ⟨[vi gy,vs gz]⟩] h=cF C fl k ax aw aA gy gz h:=vU (apD C fl k (aD _)) ax aw aA gy gz (by kernel_rfl) (by kernel_rfl)
def apE(t2:Int):List Value:=un 2 (vi t2::un 6 [])
def akF:aa:=.seq (.region [mc 2 0] [2]) (.seq (.region [m 3 0,ck 4 .lss 3 1,m 5 4,.fc 5 false [qI 6 (.mv (.t 0)),qI 7 (.cmp .gtr .i64 (.t 6) (ci 64))],oI 8 (.pick (.t 5) (.c (.bool true)) (.t 7))] [0,3,4,5,6,7]) (.seq (.cond (.t 8) (.seq (.region [mc 2 4] [8]) (.ret)) (kl [8])) (.seq (.region [mc 2 0] []) (.ret))))
def apF(t0:Int):List Value:=vi t0::un 8 []
def sA:ay:=⟨9,akF,[.tmp 2]⟩
theorem Q0:okF Tryz.prog 74 sA=true:=by kernel_rfl
def akG{R:Type}(C:Callee)(fl k:Nat)(kr:ae R):ae R:=fun t0 h=>if decide (t0<1)=false then if decide (t0>64)=true then kr 4 h else kr 0 h else kr 4 h
theorem apG:(cp apF (ce C fl k akF K))=akG C fl k (cp apE (K .ret)):=by kernel_rfl
def nE(p0:Int)(h:AH):Option (Value×AH):=akG C fl k (fun y2 q=>some (vi y2,q)) p0 h
theorem BF(p0:Int)(h):bl C fl k sA [vi p0] h=nE C fl k p0 h:=acL (apG C fl k (aD _)) p0 (by kernel_rfl) (by kernel_rfl)
abbrev fh(R:Type):=OA→Int→AH→Option R
def Pp(t2:OA)(t3:Int):List Value:=un 2 (vn t2::vi t3::un 49 [])
def GA:aa:=.seq (.region [m 52 6,m 2 52,mc 3 0] [6,52]) (.ret)
abbrev xJ(R:Type):=OA→AH→Option R
def VL(t6:OA):List Value:=un 6 (vn t6::un 46 [])
abbrev dR(R:Type):=OA→Sl→Int→Int→AH→Option R
def Jc(t6:OA)(t37:Sl)(t38 t39:Int):List Value:=un 6 (vn t6::un 30 (t37.v::vi t38::vi t39::un 13 []))
def GB:aa:=.seq (.region [cm 40 .lss 39 38] []) (.seq (.cond (.t 40) (kl [40]) (.seq (kl [37,38,39,40]) (.exit 0))) (.seq (.block 1 (.seq (.region [m 41 39,ia 42 1 37 39,li 43 42,m 7 41,m 8 43] [41,42,43]) (.region [m 44 6,oI 45 (.cg (.t 44)),fa 46 5 45,ls 47 46,m 48 8,m 49 7,ia 50 1 47 48,sI 1 50 49] [7,8,44,45,46,47,48,49,50]))) (.region [bc 51 .add 39 1,m 39 51] [51])))
def Q1:aa:=.seq (.block 0 (.loop GB)) GA
def aeF(cn:aa):aa:=.seq (.seq (.region [oI 1 (.box (.t 0)),oI 2 (.mv (.c (.pointer none))),mc 3 0] [0,2,3]) (.seq (.region [oI 9 (.load (.agg [.int .i64,.int .i64,.slice]) (.t 1)),oI 10 (.call (.f 112) [.t 9] (.one (.one .bool))),no 11 10] [9,10]) (.seq (.cond (.t 11) (.seq (.region [oI 2 (.mv (.c (.pointer none))),mc 3 1] [1,11]) (.ret)) (kl [11])) (.seq (.region [fa 12 0 1,li 13 12,fa 14 1 1,li 15 14,oI 16 (.call (.f 113) [.t 13,.t 15] (.one (.one (.int .i64)))),m 4 16] [12,13,14,15,16]) (.seq (.region [oI 17 (.load (.agg [.int .i64,.int .i64,.slice]) (.t 1)),m 18 4,oI 19 (.call (.f 114) [.t 17,.t 18] (.one (.one .slice))),m 5 19] [17,18,19]) (.seq (.region [m 20 5,oI 21 (.Fq false (.t 20))] [20]) (.seq (.cond (.t 21) (.seq (.region [oI 2 (.mv (.c (.pointer none))),mc 3 1] [1,4,5,21]) (.ret)) (kl [21])) (.seq (.region [fa 22 0 1,lj 23 22,fa 24 1 1,lj 25 24,oJ 26 (.aQ 0 [] []),fa 27 2 1,lt 28 27,oJ 29 (.append 1 8 (.t 26) (.t 28)),oI 30 (.build [.int .i64 0,.int .i64 0,.slice none 0 0] [(0,1,.t 23),(1,1,.t 25),(2,1,.t 29)]),m 31 4,m 32 5,m 33 4,oJ 34 (.cD 8 [.int .i64 0] (.t 33) (.t 33)),oI 35 (.build [.int .i64 0,.int .i64 0,.slice none 0 0,.int .i64 0,.slice none 0 0,.slice none 0 0] [(0,3,.t 30),(3,1,.t 31),(4,1,.t 32),(5,1,.t 34)]),oI 36 (.box (.t 35)),m 6 36] [1,4,22,23,24,25,26,27,28,29,30,31,32,33,34,35,36]) (.region [m 37 5,ln 38 37,mc 39 0] [5]))))))))) cn
def akH:aa:=aeF Q1
def aeG(aI aH:Int)(aK:Sl):List Value:=.agg ⟨[vi aI,vi aH,vs aK]⟩::un 52 []
def xK:ay:=⟨53,akH,[.tmp 2,.tmp 3]⟩
theorem VM:okF Tryz.prog 75 xK=true:=by kernel_rfl
def Lk{R:Type}(C:Callee)(fl k:Nat)(kr:fh R):xJ R:=fun t6 h=>kr t6 0 h
theorem Zb:(cp VL (ce C fl k GA K))=Lk C fl k (cp Pp (K .ret)):=by kernel_rfl
def qF{R:Type}(C:Callee)(fl k:Nat)(kn:dR R)(e0:xJ R):dR R:=fun t6 t37 t38 t39 h=>if decide (t39<t38)=true then idx 1 t37 t39 fun p1=>aE .i64 h p1.block p1.off fun n2=>cQ (.pointer t6) fun p3=>bM h p3.block (p3.off+5) fun s4=>idx 1 s4 n2 fun p5=>st fl h p5 [vi t39] fun h6=>kn t6 t37 t38 (bL (t39+1)) h6 else e0 t6 h
theorem Zc:(cp Jc (ce C fl k GB K))=qF C fl k (cp Jc (K .normal)) (cp VL (K (.exit 0))):=by kernel_rfl
def za(kn:xJ R):Nat→dR R
 |0=>fun _ _ _ _ _=>none
 |m+1=>qF C fl k (za kn m) kn
theorem MJ:∀m,(cp Jc (aR m (bH C fl k GB 0 K)))=za C fl k (cp VL (K .normal)) m
 |0=>by kernel_rfl
 |m+1=>mq (Zc C fl k _) (aj (fun L=>qF C fl k L _) (MJ m))
def VN(kr:fh R):dR R:=za C fl k (Lk C fl k kr) k
theorem ag4:(cp Jc (ce C fl k Q1 K))=VN C fl k (cp Pp (K .ret)):=(ou (mw (MJ C fl k (bU C fl k GA K)))).trans (aj (fun L=>za C fl k L k) (oh (Zb C fl k K)))
def Ll{R:Type}(C:Callee)(fl k:Nat)(kx:dR R)(kr:fh R):jB R:=fun aI aH aK h=>cU h [vi aI,vi aH,vs aK] fun b7 h8=>aE .i64 h8 b7 0 fun n9=>aE .i64 h8 b7 1 fun ux=>bM h8 b7 2 fun KK=>aC C fl fn.kM [.agg ⟨[vi n9,vi ux,vs KK]⟩] h8 fun v12 uV=>asBool v12 fun KQ=>if (!KQ)=true then kr none 1 uV else aE .i64 uV b7 0 fun TI=>aE .i64 uV b7 1 fun KL=>aC C fl fn.hJ [vi TI,vi KL] uV fun v17 O4=>asInt .i64 v17 fun PY=>aE .i64 O4 b7 0 fun n20=>aE .i64 O4 b7 1 fun n21=>bM O4 b7 2 fun s22=>aC C fl fn.cC [.agg ⟨[vi n20,vi n21,vs s22]⟩,vi PY] O4 fun v23 yc=>bB v23 fun s25=>if s25.a.isNone=true then kr none 1 yc else aE .i64 yc b7 0 fun PW=>aE .i64 yc b7 1 fun n27=>cU yc [] fun b28 h29=>bM h29 b7 2 fun s30=>fW h29.next 1 8 ⟨(some ⟨b28,0,none⟩),0,0⟩ s30 h29 fun s31 PU=>xg 8 [.int .i64 0] PY PY PU fun s33 h34=>cU h34 [vi PW,vi n27,vs s31,vi PY,vs s25,vs s33] fun b35 h36=>kx (some ⟨b35,0,none⟩) s25 ((s25.l:Nat):Int) 0 h36
def Zd(kr:fh R):jB R:=Ll C fl k (VN C fl k kr) kr
theorem apH(cn:aa):(cp aeG (ce C fl k (aeF cn) K))=Ll C fl k (cp Jc (ce C fl k cn K)) (cp Pp (K .ret)):=by kernel_rfl
theorem apI:(cp aeG (ce C fl k akH K))=Zd C fl k (cp Pp (K .ret)):=(apH C fl k K Q1).trans (aj (fun L0=>Ll C fl k L0 _) (ag4 C fl k K))
def ff(ax aw:Int)(aA:Sl)(h:AH):Option (Value×AH):=Zd C fl k (fun y2 y3 q=>some (.tuple ⟨[.pointer y2,vi y3]⟩,q)) ax aw aA h
theorem Fw(ax aw:Int)(aA:Sl)(h):bl C fl k xK [.agg ⟨[vi ax,vi aw,vs aA]⟩] h=ff C fl k ax aw aA h:=yV (apI C fl k (aD _)) ax aw aA (by kernel_rfl) (by kernel_rfl)
def aeH:List Value:=un 40 []
def akI:aa:=.seq (.region [m 10 0,ln 11 10,ck 12 .eql 11 0] [10,11]) (.seq (.cond (.t 12) (.seq (kl [0,1,2,3,4,5,6,12]) .ret) (kl [12])) (.seq (.region [m 13 2,fa 14 3 3,li 15 14,cm 16 .eql 13 15] [3,13,14,15]) (.seq (.cond (.t 16) (.seq (.region [ls 17 4,m 18 1,m 19 0,ln 20 19,ia 21 1 17 18,sI 1 21 20] [0,1,2,4,5,6,16,17,18,19,20,21]) (.ret)) (kl [4,16])) (.seq (.region [oI 22 (.load (.one .any) (.t 5)),m 23 0,m 24 1,m 25 2,oI 26 (.sh true .i64 .i64 (ci 1) (.t 25)),bb 27 .or 24 26,m 28 2,bc 29 .add 28 1,oI 30 (.call (.t 22) [.t 23,.t 27,.t 29] (.jo []))] [22,23,24,25,26,27,28,29,30]) (.region [oJ 31 (.load (.one .any) (.t 5)),oJ 32 (.load (.one .kB) (.t 6)),m 33 0,m 34 2,oJ 35 (.call (.f 77) [.t 32,.t 33,.t 34] (.one (.one .slice))),m 36 1,m 37 2,bc 38 .add 37 1,oI 39 (.call (.t 31) [.t 35,.t 36,.t 38] (.jo []))] [0,1,2,5,6,31,32,33,34,35,36,37,38,39])))))
abbrev apJ(R:Type):=Sl→Int→Int→Addr→Addr→Addr→Addr→AH→Option R
def apK(t0:Sl)(t1 t2:Int)(t3 t4 t5 t6:Addr):List Value:=t0.v::vi t1::vi t2::vp t3::vp t4::vp t5::vp t6::un 33 []
def jD:ay:=⟨40,akI,[]⟩
theorem EW:okF Tryz.prog 76 jD=true:=by kernel_rfl
def Uo{R:Type}(C:Callee)(fl k:Nat)(kn:ar R)(kr:ar R):apJ R:=fun t0 t1 t2 t3 t4 t5 t6 h=>if (((t0.l:Nat):Int)==0)=true then kr h else aE .i64 h t3.block (t3.off+3) fun n1=>if (t2==n1)=true then bM h t4.block t4.off fun s2=>idx 1 s2 t1 fun p3=>st fl h p3 [vi ((t0.l:Nat):Int)] fun h4=>kr h4 else ldV h t5.block t5.off fun v5=>shQ true .i64 1 t2 fun n6=>jd .or .i64 t1 n6 fun n7=>lX C fl v5 [vs t0,vi n7,vi (bL (t2+1))] h fun v8 h9=>bj v8 fun l10=>ch l10 (ldV h9 t5.block t5.off fun v11=>ldN h9 t6.block t6.off fun Mc=>aC C h9.next fn.cK [.pointer Mc,vs t0,vi t2] h9 fun v13 h14=>bB v13 fun XX=>lX C fl v11 [vs XX,vi t1,vi (bL (t2+1))] h14 fun v16 Me=>bj v16 fun l18=>ch l18 (kn Me))
theorem apL:(cp apK (ce C fl k akI K))=Uo C fl k (cp aeH (K .normal)) (cp aeH (K .ret)):=by kernel_rfl
def aM(p0:Sl)(p1 p2:Int)(p3 p4 p5 p6:Addr)(h:AH):Option (Value×AH):=Uo C fl k (fun q=>some (.tuple ⟨[]⟩,q)) (fun q=>some (.tuple ⟨[]⟩,q)) p0 p1 p2 p3 p4 p5 p6 h
theorem kO(p0:Sl)(p1 p2:Int)(p3 p4 p5 p6:Addr)(h):bl C fl k jD [vs p0,vi p1,vi p2,.pointer (some p3),.pointer (some p4),.pointer (some p5),.pointer (some p6)] h=aM C fl k p0 p1 p2 p3 p4 p5 p6 h:=azW (apL C fl k (aD _)) p0 p1 p2 p3 p4 p5 p6 (by kernel_rfl) (by kernel_rfl)
def Pq(t6:Sl):List Value:=un 6 (t6.v::un 77 [])
def GC:aa:=.seq (.region [m 83 8,m 6 83] [8,83]) (.ret)
def AP(t8:Sl):List Value:=un 8 (t8.v::un 75 [])
abbrev cO(R:Type):=OA→Sl→Addr→Int→Sl→Sl→Int→Int→AH→Option R
def cP(t0:OA)(t1:Sl)(t5:Addr)(t7:Int)(t8 t21:Sl)(t22 t23:Int):List Value:=vn t0::t1.v::un 3 (vp t5::un 1 (vi t7::t8.v::un 12 (t21.v::vi t22::vi t23::un 60 [])))
def oK:aa:=.region [bc 82 .add 23 1,m 23 82] [82]
def jE:aa:=.region [m 78 8,m 79 10,oI 80 (.aQ 1 [.slice none 0 0] [(0,1,.t 79)]),oI 81 (.append 1 24 (.t 78) (.t 80)),m 8 81] [10,78,79,80,81]
abbrev xL(R:Type):=OA→Sl→Addr→Int→Sl→Sl→Sl→Int→Int→AH→Option R
def AQ(t0:OA)(t1:Sl)(t5:Addr)(t7:Int)(t8 t10 t21:Sl)(t22 t23:Int):List Value:=vn t0::t1.v::un 3 (vp t5::un 1 (vi t7::t8.v::un 1 (t10.v::un 10 (t21.v::vi t22::vi t23::un 60 []))))
abbrev Jd(R:Type):=OA→Sl→Addr→Int→Sl→Sl→Int→Sl→Int→Int→Sl→Int→Int→AH→Option R
def Je(t0:OA)(t1:Sl)(t5:Addr)(t7:Int)(t8 t10:Sl)(t11:Int)(t21:Sl)(t22 t23:Int)(t57:Sl)(t58 t59:Int):List Value:=vn t0::t1.v::un 3 (vp t5::un 1 (vi t7::t8.v::un 1 (t10.v::vi t11::un 9 (t21.v::vi t22::vi t23::un 33 (t57.v::vi t58::vi t59::un 24 [])))))
def jF:aa:=.seq (.region [cm 60 .lss 59 58] []) (.seq (.cond (.t 60) (kl [60]) (.seq (kl [11,57,58,59,60]) (.exit 2))) (.seq (.block 3 (.seq (.region [m 61 59,ia 62 1 57 59,li 63 62,m 13 61,m 14 63] [61,62,63]) (.region [m 64 10,m 65 13,m 66 0,m 67 10,m 68 13,ia 69 1 67 68,lj 70 69,m 71 0,m 72 11,m 73 14,oJ 74 (.call (.f 120) [.t 71,.t 72,.t 73] (.one (.one (.int .i64)))),oI 75 (.call (.f 119) [.t 66,.t 70,.t 74] (.one (.one (.int .i64)))),ia 76 1 64 65,sI 1 76 75] [13,14,64,65,66,67,68,69,70,71,72,73,74,75,76]))) (.region [bc 77 .add 59 1,m 59 77] [77])))
def kP:aa:=.block 2 (.loop jF)
def uB(cn:aa):aa:=.seq (.seq (.region [m 37 0,m 38 10,lj 39 5,ia 40 1 38 39,lj 41 40,m 42 1,m 43 7,ia 44 1 42 43,lt 45 44,lj 46 5,ia 47 1 45 46,lj 48 47,oI 49 (.call (.f 117) [.t 37,.t 41,.t 48] (.jo [.one (.int .i64),.one (.int .i64)])),m 36 49,ex 50 36 0,ex 51 36 1,m 11 50,m 12 51] [12,35,36,37,38,39,40,41,42,43,44,45,46,47,48,49,50,51]) (.seq (.region [m 52 10,oI 53 (.call (.f 118) [.t 52] (.one (.one .slice))),m 10 53] [52,53]) (.region [m 54 1,m 55 7,ia 56 1 54 55,ls 57 56,ln 58 57,mc 59 0] [54,55,56]))) cn
def mY:aa:=uB kP
abbrev Ei(R:Type):=OA→Sl→Addr→Int→Sl→Sl→Sl→Int→Int→Bool→AH→Option R
def Ej(t0:OA)(t1:Sl)(t5:Addr)(t7:Int)(t8 t10 t21:Sl)(t22 t23:Int)(t35:Bool):List Value:=vn t0::t1.v::un 3 (vp t5::un 1 (vi t7::t8.v::un 1 (t10.v::un 10 (t21.v::vi t22::vi t23::un 11 (.bool t35::un 48 [])))))
def xM(cn vw:aa):aa:=.seq (.cond (.t 35) vw (kl [35])) cn
def qG:aa:=xM jE mY
def BG(cn:aa):aa:=.seq (.seq (.region [m 25 23,ia 26 1 21 23,ls 27 26,m 9 25,m 10 27] [25,26,27]) (.seq (.region [m 28 9,m 29 7,cm 30 .eql 28 29] [9,28,29]) (.seq (.cond (.t 30) (.seq (kl [10,30]) (.exit 1)) (kl [30])) (.region [m 31 10,li 32 5,ia 33 1 31 32,li 34 33,ck 35 .neq 34 0] [31,32,33,34])))) cn
def wi:aa:=BG qG
def Fx(cn vw:aa):aa:=.seq (.block 1 vw) cn
def AR:aa:=Fx oK wi
def MK(cn:aa):aa:=.seq (.seq (.region [cm 24 .lss 23 22] []) (.cond (.t 24) (kl [24]) (.seq (kl [0,1,5,7,21,22,23,24]) (.exit 0)))) cn
def GD:aa:=MK AR
def Q2:aa:=.seq (.block 0 (.loop GD)) GC
def aeI(cn:aa):aa:=.seq (.seq (.region [oI 5 (.box (.t 2)),oI 6 (.mv (.c (.slice none 0 0)))] [2,6]) (.seq (.region [m 15 1,oI 16 (.xd 116 [] [.t 5]),oI 17 (.call (.f 115) [.t 15,.t 16] (.one (.one (.int .i64)))),m 7 17] [15,16,17]) (.seq (.region [m 18 7,ck 19 .lss 18 0] [18]) (.seq (.cond (.t 19) (.seq (.region [m 20 1,m 6 20] [0,1,5,7,19,20]) (.ret)) (kl [19])) (.seq (.region [oI 8 (.mv (.c (.slice none 0 0)))] []) (.region [m 21 1,ln 22 21,mc 23 0] [])))))) cn
def akJ:aa:=aeI Q2
abbrev Pr(R:Type):=OA→Sl→Int→AH→Option R
def aeJ(t0:OA)(t1:Sl)(t2:Int):List Value:=vn t0::t1.v::vi t2::un 81 []
def iW:ay:=⟨84,akJ,[.tmp 6]⟩
theorem C5:okF Tryz.prog 77 iW=true:=by kernel_rfl
def Lm{R:Type}(C:Callee)(fl k:Nat)(kr:ak R):ak R:=fun t8 h=>kr t8 h
theorem Ze:(cp AP (ce C fl k GC K))=Lm C fl k (cp Pq (K .ret)):=by kernel_rfl
def dn{R:Type}(C:Callee)(fl k:Nat)(kn:cO R)(e0:ak R):cO R:=fun t0 t1 t5 t7 t8 t21 t22 t23 h=>kn t0 t1 t5 t7 t8 t21 t22 (bL (t23+1)) h
theorem ue:(cp cP (ce C fl k oK K))=dn C fl k (cp cP (K .normal)) (cp AP (K (.exit 0))):=by kernel_rfl
def fj{R:Type}(C:Callee)(fl k:Nat)(kn:cO R)(e1:cO R):xL R:=fun t0 t1 t5 t7 t8 t10 t21 t22 t23 h=>cU h [vs t10] fun b1 h2=>fW fl 1 24 t8 ⟨(some ⟨b1,0,none⟩),1,1⟩ h2 fun s3 h4=>kn t0 t1 t5 t7 s3 t21 t22 t23 h4
theorem uC:(cp AQ (ce C fl k jE K))=fj C fl k (cp cP (K .normal)) (cp cP (K (.exit 1))):=by kernel_rfl
def cI{R:Type}(C:Callee)(fl k:Nat)(kn:Jd R)(e2:xL R):Jd R:=fun t0 t1 t5 t7 t8 t10 t11 t21 t22 t23 t57 t58 t59 h=>if decide (t59<t58)=true then idx 1 t57 t59 fun p5=>aE .i64 h p5.block p5.off fun n6=>idx 1 t10 t59 fun p7=>aE .i64 h p7.block p7.off fun n8=>aC C h.next fn.dM [.pointer t0,vi t11,vi n6] h fun v9 H7=>asInt .i64 v9 fun Cw=>aC C fl fn.jA [.pointer t0,vi n8,vi Cw] H7 fun v12 uV=>asInt .i64 v12 fun DM=>idx 1 t10 t59 fun XH=>st fl uV XH [vi DM] fun NQ=>kn t0 t1 t5 t7 t8 t10 t11 t21 t22 t23 t57 t58 (bL (t59+1)) NQ else e2 t0 t1 t5 t7 t8 t10 t21 t22 t23 h
theorem zb:(cp Je (ce C fl k jF K))=cI C fl k (cp Je (K .normal)) (cp AQ (K (.exit 2))):=by kernel_rfl
def di(kn:xL R):Nat→Jd R
 |0=>fun _ _ _ _ _ _ _ _ _ _ _ _ _ _=>none
 |m+1=>cI C fl k (di kn m) kn
theorem nO:∀m,(cp Je (aR m (bH C fl k jF 2 K)))=di C fl k (cp AQ (K .normal)) m
 |0=>by kernel_rfl
 |m+1=>mq (zb C fl k _) (aj (fun L=>cI C fl k L _) (nO m))
def me(kn:xL R):Jd R:=di C fl k kn k
theorem Cb:(cp Je (ce C fl k kP K))=me C fl k (cp AQ (K .normal)):=mw (nO C fl k K)
def jG{R:Type}(C:Callee)(fl k:Nat)(kx:Jd R)(kn:xL R):Ei R:=fun t0 t1 t5 t7 t8 t10 t21 t22 t23 t35 h=>aE .i64 h t5.block t5.off fun Sj=>idx 1 t10 Sj fun p18=>aE .i64 h p18.block p18.off fun PY=>idx 1 t1 t7 fun p20=>bM h p20.block p20.off fun s21=>aE .i64 h t5.block t5.off fun Sm=>idx 1 s21 Sm fun p23=>aE .i64 h p23.block p23.off fun n24=>aC C fl fn.jz [.pointer t0,vi PY,vi n24] h fun v25 h26=>bj v25 fun l27=>aG l27 fun v28 l29=>asInt .i64 v28 fun n30=>aG l29 fun v31 l32=>asInt .i64 v31 fun n33=>ch l32 (aC C fl fn.dL [vs t10] h26 fun v34 h35=>bB v34 fun s36=>idx 1 t1 t7 fun p37=>bM h35 p37.block p37.off fun s38=>kx t0 t1 t5 t7 t8 s36 n30 t21 t22 t23 s38 ((s38.l:Nat):Int) 0 h35)
def kh(kn:xL R):Ei R:=jG C fl k (me C fl k kn) kn
theorem EX(cn:aa):(cp Ej (ce C fl k (uB cn) K))=jG C fl k (cp Je (ce C fl k cn K)) (cp AQ (K .normal)):=by kernel_rfl
theorem EY:(cp Ej (ce C fl k mY K))=kh C fl k (cp AQ (K .normal)):=(EX C fl k K kP).trans (aj (fun L0=>jG C fl k L0 _) (Cb C fl k K))
def lH{R:Type}(C:Callee)(fl k:Nat)(kx:xL R)(u0:Ei R)(kn:cO R)(e1:cO R):Ei R:=fun t0 t1 t5 t7 t8 t10 t21 t22 t23 t35 h=>if t35=true then u0 t0 t1 t5 t7 t8 t10 t21 t22 t23 t35 h else kx t0 t1 t5 t7 t8 t10 t21 t22 t23 h
def uf(kn:cO R)(e1:cO R):Ei R:=lH C fl k (fj C fl k kn e1) (kh C fl k (fj C fl k kn e1)) kn e1
theorem Jf(cn vw:aa):(cp Ej (ce C fl k (xM cn vw) K))=lH C fl k (cp AQ (ce C fl k cn K)) (cp Ej (ce C fl k vw (bU C fl k cn K))) (cp cP (K .normal)) (cp cP (K (.exit 1))):=by kernel_rfl
theorem Jg:(cp Ej (ce C fl k qG K))=uf C fl k (cp cP (K .normal)) (cp cP (K (.exit 1))):=(Jf C fl k K jE mY).trans (ot (fun L0 L1=>lH C fl k L0 L1 _ _) (uC C fl k K) ((EY C fl k (bU C fl k jE K)).trans (aj (fun L0=>kh C fl k L0) (oh (uC C fl k K)))))
def oL{R:Type}(C:Callee)(fl k:Nat)(kx:Ei R)(kn:cO R)(e1:cO R):cO R:=fun t0 t1 t5 t7 t8 t21 t22 t23 h=>idx 1 t21 t23 fun p39=>bM h p39.block p39.off fun s40=>if (t23==t7)=true then e1 t0 t1 t5 t7 t8 t21 t22 t23 h else aE .i64 h t5.block t5.off fun n41=>idx 1 s40 n41 fun p42=>aE .i64 h p42.block p42.off fun n43=>kx t0 t1 t5 t7 t8 s40 t21 t22 t23 (n43 !=0) h
def sB(kn:cO R)(e1:cO R):cO R:=oL C fl k (uf C fl k kn e1) kn e1
theorem N8(cn:aa):(cp cP (ce C fl k (BG cn) K))=oL C fl k (cp Ej (ce C fl k cn K)) (cp cP (K .normal)) (cp cP (K (.exit 1))):=by kernel_rfl
theorem N9:(cp cP (ce C fl k wi K))=sB C fl k (cp cP (K .normal)) (cp cP (K (.exit 1))):=(N8 C fl k K qG).trans (aj (fun L0=>oL C fl k L0 _ _) (Jg C fl k K))
def u5{R:Type}(C:Callee)(fl k:Nat)(kx:cO R)(u0:cO R)(kn:cO R)(e0:ak R):cO R:=fun t0 t1 t5 t7 t8 t21 t22 t23 h=>u0 t0 t1 t5 t7 t8 t21 t22 t23 h
def C6(kn:cO R)(e0:ak R):cO R:=u5 C fl k (dn C fl k kn e0) (sB C fl k (dn C fl k kn e0) (dn C fl k kn e0)) kn e0
theorem SM(cn vw:aa):(cp cP (ce C fl k (Fx cn vw) K))=u5 C fl k (cp cP (ce C fl k cn K)) (cp cP (ce C fl k vw (vJ 1 (bU C fl k cn K)))) (cp cP (K .normal)) (cp AP (K (.exit 0))):=by kernel_rfl
theorem SN:(cp cP (ce C fl k AR K))=C6 C fl k (cp cP (K .normal)) (cp AP (K (.exit 0))):=(SM C fl k K oK wi).trans (ot (fun L0 L1=>u5 C fl k L0 L1 _ _) (ue C fl k K) ((N9 C fl k (vJ 1 (bU C fl k oK K))).trans (ot (fun L0 L1=>sB C fl k L0 L1) (bn1 (ue C fl k K)) (bx1 (ue C fl k K)))))
def wj{R:Type}(C:Callee)(fl k:Nat)(kx:cO R)(kn:cO R)(e0:ak R):cO R:=fun t0 t1 t5 t7 t8 t21 t22 t23 h=>if decide (t23<t22)=true then kx t0 t1 t5 t7 t8 t21 t22 t23 h else e0 t8 h
def qH(kn:cO R)(e0:ak R):cO R:=wj C fl k (C6 C fl k kn e0) kn e0
theorem Zf(cn:aa):(cp cP (ce C fl k (MK cn) K))=wj C fl k (cp cP (ce C fl k cn K)) (cp cP (K .normal)) (cp AP (K (.exit 0))):=by kernel_rfl
theorem Zg:(cp cP (ce C fl k GD K))=qH C fl k (cp cP (K .normal)) (cp AP (K (.exit 0))):=(Zf C fl k K AR).trans (aj (fun L0=>wj C fl k L0 _ _) (SN C fl k K))
def gP(kn:ak R):Nat→cO R
 |0=>fun _ _ _ _ _ _ _ _ _=>none
 |m+1=>qH C fl k (gP kn m) kn
theorem ML:∀m,(cp cP (aR m (bH C fl k GD 0 K)))=gP C fl k (cp AP (K .normal)) m
 |0=>by kernel_rfl
 |m+1=>mq (Zg C fl k _) (aj (fun L=>qH C fl k L _) (ML m))
def VO(kr:ak R):cO R:=gP C fl k (Lm C fl k kr) k
theorem ag5:(cp cP (ce C fl k Q2 K))=VO C fl k (cp Pq (K .ret)):=(ou (mw (ML C fl k (bU C fl k GC K)))).trans (aj (fun L=>gP C fl k L k) (oh (Ze C fl k K)))
def Q3{R:Type}(C:Callee)(fl k:Nat)(kx:cO R)(kr:ak R):Pr R:=fun t0 t1 t2 h=>cU h [vi t2] fun b44 h45=>aC C fl fn.dB [vs t1,.func (.func fn.cH) ⟨[]⟩ ⟨[.pointer (some ⟨b44,0,none⟩)]⟩] h45 fun v46 h47=>asInt .i64 v46 fun n48=>if decide (n48<0)=true then kr t1 h47 else kx t0 t1 ⟨b44,0,none⟩ n48 ⟨none,0,0⟩ t1 ((t1.l:Nat):Int) 0 h47
def aeK(kr:ak R):Pr R:=Q3 C fl k (VO C fl k kr) kr
theorem apM(cn:aa):(cp aeJ (ce C fl k (aeI cn) K))=Q3 C fl k (cp cP (ce C fl k cn K)) (cp Pq (K .ret)):=by kernel_rfl
theorem apN:(cp aeJ (ce C fl k akJ K))=aeK C fl k (cp Pq (K .ret)):=(apM C fl k K Q2).trans (aj (fun L0=>Q3 C fl k L0 _) (ag5 C fl k K))
def cK(p0:OA)(p1:Sl)(p2:Int)(h:AH):Option (Value×AH):=aeK C fl k (fun y6 q=>some (vs y6,q)) p0 p1 p2 h
theorem pV(p0:OA)(p1:Sl)(p2:Int)(h):bl C fl k iW [.pointer p0,vs p1,vi p2] h=cK C fl k p0 p1 p2 h:=yV (apN C fl k (aD _)) p0 p1 p2 (by kernel_rfl) (by kernel_rfl)
def apO(t2:Int):List Value:=un 2 (vi t2::un 13 [])
def akK:aa:=.seq (.region [oI 1 (.box (.t 0)),mc 2 0] [0,2]) (.seq (.region [oI 3 (.load (.agg [.int .i64,.int .i64,.slice]) (.t 1)),oI 4 (.call (.f 112) [.t 3] (.one (.one .bool))),no 5 4,m 6 5,.fc 6 false [qJ 7 (.load (.agg [.int .i64,.int .i64,.slice]) (.t 1)),qI 8 (.cu 0 (.t 1)),qJ 9 (.load (.one (.int .i64)) (.t 8)),qI 10 (.cu 1 (.t 1)),qJ 11 (.load (.one (.int .i64)) (.t 10)),qJ 12 (.call (.f 113) [.t 9,.t 11] (.one (.one (.int .i64)))),qI 13 (.call (.f 114) [.t 7,.t 12] (.one (.one .slice))),qI 14 (.Fq false (.t 13))],oI 15 (.pick (.t 6) (.c (.bool true)) (.t 14))] [1,3,4,5,6,7,8,9,10,11,12,13,14]) (.seq (.cond (.t 15) (.seq (.region [mc 2 1] [15]) (.ret)) (kl [15])) (.seq (.region [mc 2 0] []) (.ret))))
def apP(aI aH:Int)(aK:Sl):List Value:=.agg ⟨[vi aI,vi aH,vs aK]⟩::un 15 []
def sC:ay:=⟨16,akK,[.tmp 2]⟩
theorem Q4:okF Tryz.prog 79 sC=true:=by kernel_rfl
def akL{R:Type}(C:Callee)(fl k:Nat)(kr:ae R):jB R:=fun aI aH aK h=>cU h [vi aI,vi aH,vs aK] fun b1 h2=>aE .i64 h2 b1 0 fun n3=>aE .i64 h2 b1 1 fun n4=>bM h2 b1 2 fun s5=>aC C fl fn.kM [.agg ⟨[vi n3,vi n4,vs s5]⟩] h2 fun v6 h7=>asBool v6 fun b8=>if (!b8)=false then aE .i64 h7 b1 0 fun n9=>aE .i64 h7 b1 1 fun ux=>bM h7 b1 2 fun KK=>aE .i64 h7 b1 0 fun Cs=>aE .i64 h7 b1 1 fun Fs=>aC C h7.next fn.hJ [vi Cs,vi Fs] h7 fun v14 EP=>asInt .i64 v14 fun KL=>aC C fl fn.cC [.agg ⟨[vi n9,vi ux,vs KK]⟩,vi KL] EP fun v17 O4=>bB v17 fun s19=>if s19.a.isNone=true then kr 1 O4 else kr 0 O4 else kr 1 h7
theorem apQ:(cp apP (ce C fl k akK K))=akL C fl k (cp apO (K .ret)):=by kernel_rfl
def fN(ax aw:Int)(aA:Sl)(h:AH):Option (Value×AH):=akL C fl k (fun y2 q=>some (vi y2,q)) ax aw aA h
theorem BH(ax aw:Int)(aA:Sl)(h):bl C fl k sC [.agg ⟨[vi ax,vi aw,vs aA]⟩] h=fN C fl k ax aw aA h:=yV (apQ C fl k (aD _)) ax aw aA (by kernel_rfl) (by kernel_rfl)
def apR(t4:Int):List Value:=un 4 (vi t4::un 9 [])
def akM:aa:=.seq (.region [oI 2 (.box (.t 0)),oI 3 (.box (.t 1)),mc 4 0] [0,1,4]) (.seq (.region [oI 8 (.load (.agg [.int .i64,.int .i64,.slice]) (.t 2)),oI 9 (.load (.agg [.int .i64,.slice]) (.t 3)),oI 10 (.call (.f 82) [.t 8,.t 9] (.jo [.agg [.kB,.int .i64,.slice,.slice],.one (.int .i64)])),m 7 10,ex 11 7 0,ex 12 7 1,oI 5 (.alloc [.pointer none,.int .i64 0,.slice none 0 0,.slice none 0 0]),sI 4 5 11,m 6 12] [2,3,5,7,8,9,10,11,12]) (.seq (.region [m 13 6,m 4 13] [6,13]) (.ret)))
def apS(aI aH:Int)(aK:Sl)(nu:Int)(ns:Sl):List Value:=.agg ⟨[vi aI,vi aH,vs aK]⟩::.agg ⟨[vi nu,vs ns]⟩::un 12 []
def sD:ay:=⟨14,akM,[.tmp 4]⟩
theorem Q5:okF Tryz.prog 80 sD=true:=by kernel_rfl
def akN{R:Type}(C:Callee)(fl k:Nat)(kr:ae R):bQ R:=fun aI aH aK nu ns h=>cU h [vi aI,vi aH,vs aK] fun b1 h2=>cU h2 [vi nu,vs ns] fun b3 h4=>aE .i64 h4 b1 0 fun n5=>aE .i64 h4 b1 1 fun n6=>bM h4 b1 2 fun s7=>aE .i64 h4 b3 0 fun n8=>bM h4 b3 1 fun s9=>aC C fl fn.gm [.agg ⟨[vi n5,vi n6,vs s7]⟩,.agg ⟨[vi n8,vs s9]⟩] h4 fun v10 mI=>bj v10 fun l12=>aG l12 fun v13 l14=>asAgg v13 fun l15=>aG l15 fun v16 l17=>fV v16 fun p18=>aG l17 fun v19 l20=>asInt .i64 v19 fun n21=>aG l20 fun v22 l23=>bB v22 fun s24=>aG l23 fun v25 l26=>bB v25 fun s27=>ch l26 (aG l14 fun v28 l29=>asInt .i64 v28 fun n30=>ch l29 (cU mI [.pointer none,.int .i64 0,.slice none 0 0,.slice none 0 0] fun b31 PU=>st fl PU ⟨b31,0,none⟩ [.pointer p18,vi n21,vs s24,vs s27] fun h33=>kr n30 h33))
theorem apT:(cp apS (ce C fl k akM K))=akN C fl k (cp apR (K .ret)):=by kernel_rfl
def nF(ax aw:Int)(aA:Sl)(gy:Int)(gz:Sl)(h:AH):Option (Value×AH):=akN C fl k (fun y4 q=>some (vi y4,q)) ax aw aA gy gz h
theorem BI(ax aw:Int)(aA:Sl)(gy:Int)(gz:Sl)(h):bl C fl k sD [.agg ⟨[vi ax,vi aw,vs aA]⟩,.agg ⟨[vi gy,vs gz]⟩] h=nF C fl k ax aw aA gy gz h:=vU (apT C fl k (aD _)) ax aw aA gy gz (by kernel_rfl) (by kernel_rfl)
def apU(t4:Addr)(t5:Int):List Value:=un 4 (vp t4::vi t5::un 32 [])
def akO:aa:=.seq (.region [oI 2 (.box (.t 0)),oI 3 (.box (.t 1)),oI 4 (.alloc [.pointer none,.int .i64 0,.slice none 0 0,.slice none 0 0]),mc 5 0] [0,1,5]) (.seq (.region [oI 11 (.load (.agg [.int .i64,.int .i64,.slice]) (.t 2)),oI 12 (.load (.agg [.int .i64,.slice]) (.t 3)),oI 13 (.call (.f 73) [.t 11,.t 12] (.jo [.agg [.int .i64,.slice],.one .slice,.one (.int .i64)])),m 10 13,ex 14 10 0,ex 15 10 1,ex 16 10 2,oI 6 (.alloc [.int .i64 0,.slice none 0 0]),sI 2 6 14,m 7 15,m 8 16] [10,11,12,13,14,15,16]) (.seq (.region [m 17 8,ck 18 .neq 17 0] [17]) (.seq (.cond (.t 18) (.seq (.region [oI 19 (.build [.pointer none,.int .i64 0,.slice none 0 0,.slice none 0 0] []),m 20 8,sI 4 4 19,m 5 20] [2,3,6,7,8,18,19,20]) (.ret)) (kl [8,18])) (.seq (.region [fa 21 1 6,ls 22 21,fa 23 1 3,ls 24 23,oI 25 (.call (.f 123) [.t 22,.t 24,.f 124] (.one (.one .bool))),no 26 25] [6,21,22,23,24,25]) (.seq (.cond (.t 26) (.seq (.region [oI 27 (.build [.pointer none,.int .i64 0,.slice none 0 0,.slice none 0 0] []),sI 4 4 27,mc 5 5] [2,3,7,26,27]) (.ret)) (kl [26])) (.seq (.region [oI 29 (.load (.agg [.int .i64,.int .i64,.slice]) (.t 2)),oI 30 (.call (.f 75) [.t 29] (.jo [.one .kB,.one (.int .i64)])),m 28 30,ex 31 28 0,ex 32 28 1,m 9 31,m 8 32] [2,28,29,30,31,32]) (.seq (.region [m 33 9,oI 34 (.load (.agg [.int .i64,.slice]) (.t 3)),m 35 7,oI 36 (.build [.pointer none,.int .i64 0,.slice none 0 0,.slice none 0 0] [(0,1,.t 33),(1,2,.t 34),(3,1,.t 35)]),m 37 8,sI 4 4 36,m 5 37] [3,7,8,9,33,34,35,36,37]) (.ret))))))))
def apV(aI aH:Int)(aK:Sl)(nu:Int)(ns:Sl):List Value:=.agg ⟨[vi aI,vi aH,vs aK]⟩::.agg ⟨[vi nu,vs ns]⟩::un 36 []
def u6:ay:=⟨38,akO,[.cell 4 (.agg [.kB,.int .i64,.slice,.slice]),.tmp 5]⟩
theorem SO:okF Tryz.prog 82 u6=true:=by kernel_rfl
def aeL{R:Type}(C:Callee)(fl k:Nat)(kr:iU R):bQ R:=fun aI aH aK nu ns h=>cU h [vi aI,vi aH,vs aK] fun b1 h2=>cU h2 [vi nu,vs ns] fun b3 h4=>cU h4 [.pointer none,.int .i64 0,.slice none 0 0,.slice none 0 0] fun b5 h6=>aE .i64 h6 b1 0 fun n7=>aE .i64 h6 b1 1 fun n8=>bM h6 b1 2 fun s9=>aE .i64 h6 b3 0 fun ux=>bM h6 b3 1 fun KK=>aC C fl fn.cF [.agg ⟨[vi n7,vi n8,vs s9]⟩,.agg ⟨[vi ux,vs KK]⟩] h6 fun v12 uV=>bj v12 fun l14=>aG l14 fun v15 l16=>asAgg v15 fun l17=>aG l17 fun v18 l19=>asInt .i64 v18 fun n20=>aG l19 fun v21 l22=>bB v21 fun s23=>ch l22 (aG l16 fun v24 l25=>bB v24 fun s26=>aG l25 fun v27 l28=>asInt .i64 v27 fun n29=>ch l28 (cU uV [.int .i64 0,.slice none 0 0] fun b30 h31=>st fl h31 ⟨b30,0,none⟩ [vi n20,vs s23] fun PU=>if (n29 !=0)=true then st fl PU ⟨b5,0,none⟩ [.pointer none,vi 0,.slice none 0 0,.slice none 0 0] fun h33=>kr ⟨b5,0,none⟩ n29 h33 else bM PU b30 1 fun s34=>bM PU b3 1 fun s35=>aC C fl fn.fR [vs s34,vs s35,.func (.func fn.hS) ⟨[]⟩ ⟨[]⟩] PU fun v36 h37=>asBool v36 fun b38=>if (!b38)=true then st fl h37 ⟨b5,0,none⟩ [.pointer none,vi 0,.slice none 0 0,.slice none 0 0] fun h39=>kr ⟨b5,0,none⟩ 5 h39 else aE .i64 h37 b1 0 fun n40=>aE .i64 h37 b1 1 fun n41=>bM h37 b1 2 fun s42=>aC C fl fn.ff [.agg ⟨[vi n40,vi n41,vs s42]⟩] h37 fun v43 h44=>bj v43 fun l45=>aG l45 fun v46 l47=>fV v46 fun p48=>aG l47 fun v49 l50=>asInt .i64 v49 fun n51=>ch l50 (aE .i64 h44 b3 0 fun n52=>bM h44 b3 1 fun s53=>st fl h44 ⟨b5,0,none⟩ [.pointer p48,vi n52,vs s53,vs s26] fun h54=>kr ⟨b5,0,none⟩ n51 h54)))
theorem apW:(cp apV (ce C fl k akO K))=aeL C fl k (cp apU (K .ret)):=by kernel_rfl
def gm(ax aw:Int)(aA:Sl)(gy:Int)(gz:Sl)(h:AH):Option (Value×AH):=aeL C fl k (fun y4 y5 q=>ldN q y4.block y4.off fun p55=>aE .i64 q y4.block (y4.off+1) fun n56=>bM q y4.block (y4.off+1+1) fun s57=>bM q y4.block (y4.off+1+1+1) fun s58=>some (.tuple ⟨[.agg ⟨[.pointer p55,vi n56,vs s57,vs s58]⟩,vi y5]⟩,q)) ax aw aA gy gz h
theorem C7(ax aw:Int)(aA:Sl)(gy:Int)(gz:Sl)(h):bl C fl k u6 [.agg ⟨[vi ax,vi aw,vs aA]⟩,.agg ⟨[vi gy,vs gz]⟩] h=gm C fl k ax aw aA gy gz h:=vU (apW C fl k (aD _)) ax aw aA gy gz (by kernel_rfl) (by kernel_rfl)
def lI:ay:=⟨85,.seq (.region [oI 3 (.box (.t 0)),oI 4 (.box (.t 1)),oI 6 (.alloc [.int .i64 0,.slice none 0 0]),mc 7 0] [0,1,7]) (.seq (.seq (.region [oI 19 (.load (.agg [.int .i64,.int .i64,.slice]) (.t 3)),oI 20 (.load (.agg [.int .i64,.slice]) (.t 4)),oI 21 (.aQ 1 [.int .i64 0,.slice none 0 0] [(0,2,.t 20)]),oI 22 (.call (.f 102) [.t 19,.t 21] (.jo [.one .kB,.one (.int .i64)])),m 18 22,ex 23 18 0,ex 24 18 1,m 8 23,m 9 24] [3,8,18,19,20,21,22,23,24]) (.seq (.region [m 25 9,ck 26 .neq 25 0] [25]) (.cond (.t 26) (.seq (.region [oI 27 (.build [.int .i64 0,.slice none 0 0] []),m 28 9,sI 2 6 27,m 7 28] [2,4,9,26,27,28]) (.ret)) (kl [9,26])))) (.seq (.seq (.region [m 29 2,ln 30 29,ck 31 .gtr 30 256] [29,30]) (.cond (.t 31) (.seq (.region [oI 32 (.build [.int .i64 0,.slice none 0 0] []),sI 2 6 32,mc 7 8] [2,4,31,32]) (.ret)) (kl [31]))) (.seq (.seq (.region [m 33 2,ln 34 33,mc 35 0] []) (.block 0 (.loop (.seq (.region [cm 36 .lss 35 34] []) (.seq (.cond (.t 36) (kl [36]) (.seq (kl [33,34,35,36]) (.exit 0))) (.seq (.block 1 (.seq (.region [ia 37 1 33 35,li 38 37,m 11 38] [37,38]) (.seq (.region [m 39 11,ck 40 .lss 39 0,m 41 40,.fc 41 false [qI 42 (.mv (.t 11)),qI 43 (.cu 0 (.t 4)),qI 44 (.load (.one (.int .i64)) (.t 43)),qI 45 (.cmp .geq .i64 (.t 42) (.t 44))],oI 46 (.pick (.t 41) (.c (.bool true)) (.t 45))] [11,39,40,41,42,43,44,45]) (.cond (.t 46) (.seq (.region [oI 47 (.build [.int .i64 0,.slice none 0 0] []),sI 2 6 47,mc 7 6] [2,4,33,34,35,46,47]) (.ret)) (kl [46]))))) (.region [bc 48 .add 35 1,m 35 48] [48]))))))) (.seq (.region [m 49 2,ln 50 49,oI 51 (.build [.int .i64 0,.slice none 0 0] [(0,1,.t 50)]),oI 12 (.alloc [.int .i64 0,.slice none 0 0]),sI 2 12 51] [49,50,51]) (.seq (.seq (.region [fa 52 1 4,ls 53 52,ln 54 53,mc 55 0] [4,52]) (.block 2 (.loop (.seq (.region [cm 56 .lss 55 54] []) (.seq (.cond (.t 56) (kl [56]) (.seq (kl [2,53,54,55,56]) (.exit 2))) (.seq (.block 3 (.seq (.region [ia 57 1 53 55,ls 58 57,m 14 58] [57,58]) (.seq (.region [m 59 2,ln 60 59,oI 61 (.cD 8 [.int .i64 0] (.t 60) (.t 60)),m 15 61] [59,60,61]) (.seq (.seq (.region [m 62 2,ln 63 62,mc 64 0] []) (.block 4 (.loop (.seq (.region [cm 65 .lss 64 63] []) (.seq (.cond (.t 65) (kl [65]) (.seq (kl [14,62,63,64,65]) (.exit 4))) (.seq (.block 5 (.seq (.region [m 66 64,ia 67 1 62 64,li 68 67,m 16 66,m 17 68] [66,67,68]) (.region [m 69 15,m 70 16,m 71 14,m 72 17,ia 73 1 71 72,li 74 73,ia 75 1 69 70,sI 1 75 74] [16,17,69,70,71,72,73,74,75]))) (.region [bc 76 .add 64 1,m 64 76] [76]))))))) (.region [fa 77 1 12,ls 78 77,m 79 15,oI 80 (.aQ 1 [.slice none 0 0] [(0,1,.t 79)]),oI 81 (.append 1 24 (.t 78) (.t 80)),fa 82 1 12,sI 1 82 81] [15,77,78,79,80,81,82]))))) (.region [bc 83 .add 55 1,m 55 83] [83]))))))) (.seq (.region [oI 84 (.load (.agg [.int .i64,.slice]) (.t 12)),sI 2 6 84,mc 7 0] [12,84]) (.ret))))))),[.cell 6 (.agg [.int .i64,.slice]),.tmp 7]⟩
theorem Jh:okF Tryz.prog 83 lI=true:=by kernel_rfl
def jH:ay:=⟨66,.seq (.region [oI 2 (.box (.t 0)),oI 3 (.box (.t 1)),oI 4 (.alloc [.int .i64 0,.slice none 0 0]),mc 5 0] [0,1,5]) (.seq (.seq (.region [oI 13 (.load (.agg [.int .i64,.int .i64,.slice]) (.t 2)),oI 14 (.load (.agg [.int .i64,.slice]) (.t 3)),oI 15 (.aQ 1 [.int .i64 0,.slice none 0 0] [(0,2,.t 14)]),oI 16 (.call (.f 102) [.t 13,.t 15] (.jo [.one .kB,.one (.int .i64)])),m 12 16,ex 17 12 0,ex 18 12 1,m 6 17,m 7 18] [2,6,12,13,14,15,16,17,18]) (.seq (.region [m 19 7,ck 20 .neq 19 0] [19]) (.cond (.t 20) (.seq (.region [oI 21 (.build [.int .i64 0,.slice none 0 0] []),m 22 7,sI 2 4 21,m 5 22] [3,7,20,21,22]) (.ret)) (kl [7,20])))) (.seq (.region [fa 23 1 3,lt 24 23,ln 25 24,fa 26 0 3,lj 27 26,oJ 28 (.cD 24 [.slice none 0 0] (.t 27) (.t 27)),oI 29 (.build [.int .i64 0,.slice none 0 0] [(0,1,.t 25),(1,1,.t 28)]),oJ 8 (.alloc [.int .i64 0,.slice none 0 0]),sI 2 8 29] [23,24,25,26,27,28,29]) (.seq (.seq (.region [fa 30 1 8,ls 31 30,ln 32 31,mc 33 0] [30,31]) (.block 0 (.loop (.seq (.region [cm 34 .lss 33 32] []) (.seq (.cond (.t 34) (kl [34]) (.seq (kl [3,32,33,34]) (.exit 0))) (.seq (.block 1 (.seq (.region [m 35 33,m 9 35] [35]) (.seq (.region [fa 36 1 8,lt 37 36,m 38 9,fa 39 1 3,lt 40 39,ln 41 40,oJ 42 (.cD 8 [.int .i64 0] (.t 41) (.t 41)),ia 43 1 37 38,sI 1 43 42] [36,37,38,39,40,41,42,43]) (.seq (.region [fa 44 1 3,ls 45 44,ln 46 45,mc 47 0] [44]) (.block 2 (.loop (.seq (.region [cm 48 .lss 47 46] []) (.seq (.cond (.t 48) (kl [48]) (.seq (kl [9,45,46,47,48]) (.exit 2))) (.seq (.block 3 (.seq (.region [m 49 47,ia 50 1 45 47,ls 51 50,m 10 49,m 11 51] [49,50,51]) (.region [fa 52 1 8,lt 53 52,m 54 9,ia 55 1 53 54,lt 56 55,m 57 10,m 58 11,m 59 9,ia 60 1 58 59,lj 61 60,ia 62 1 56 57,sI 1 62 61] [10,11,52,53,54,55,56,57,58,59,60,61,62]))) (.region [bc 63 .add 47 1,m 47 63] [63])))))))))) (.region [bc 64 .add 33 1,m 33 64] [64]))))))) (.seq (.region [oI 65 (.load (.agg [.int .i64,.slice]) (.t 8)),sI 2 4 65,mc 5 0] [8,65]) (.ret))))),[.cell 4 (.agg [.int .i64,.slice]),.tmp 5]⟩
theorem EZ:okF Tryz.prog 84 jH=true:=by kernel_rfl
def u7:ay:=⟨56,.seq (.region [oI 3 (.box (.t 0)),oI 4 (.box (.t 1)),oI 5 (.box (.t 2)),oI 6 (.alloc [.int .i64 0,.slice none 0 0]),mc 7 0] [0,1,2,7]) (.seq (.region [oI 14 (.load (.agg [.int .i64,.int .i64,.slice]) (.t 3)),oI 15 (.load (.agg [.int .i64,.slice]) (.t 4)),oI 16 (.load (.agg [.int .i64,.slice]) (.t 5)),oI 17 (.aQ 2 [.int .i64 0,.slice none 0 0,.int .i64 0,.slice none 0 0] [(0,2,.t 15),(2,2,.t 16)]),oI 18 (.call (.f 102) [.t 14,.t 17] (.jo [.one .kB,.one (.int .i64)])),m 13 18,ex 19 13 0,ex 20 13 1,m 8 19,m 9 20] [3,13,14,15,16,17,18,19,20]) (.seq (.seq (.region [m 21 9,ck 22 .neq 21 0] [21]) (.cond (.t 22) (.seq (.region [oI 23 (.build [.int .i64 0,.slice none 0 0] []),m 24 9,sI 2 6 23,m 7 24] [4,5,8,9,22,23,24]) (.ret)) (kl [9,22]))) (.seq (.seq (.region [fa 25 0 4,li 26 25,fa 27 1 5,ls 28 27,ln 29 28,cm 30 .neq 26 29] [25,26,27,28,29]) (.cond (.t 30) (.seq (.region [oI 31 (.build [.int .i64 0,.slice none 0 0] []),sI 2 6 31,mc 7 10] [4,5,8,30,31]) (.ret)) (kl [30]))) (.seq (.region [fa 32 0 5,li 33 32,oI 34 (.build [.int .i64 0,.slice none 0 0] [(0,1,.t 33)]),oI 10 (.alloc [.int .i64 0,.slice none 0 0]),sI 2 10 34] [32,33,34]) (.seq (.seq (.region [fa 35 1 4,ls 36 35,ln 37 36,mc 38 0] [4,35]) (.block 0 (.loop (.seq (.region [cm 39 .lss 38 37] []) (.seq (.cond (.t 39) (kl [39]) (.seq (kl [5,8,36,37,38,39]) (.exit 0))) (.seq (.block 1 (.seq (.region [ia 40 1 36 38,ls 41 40,m 12 41] [40,41]) (.region [fa 42 1 10,lt 43 42,m 44 8,m 45 12,fa 46 1 5,lt 47 46,fa 48 0 5,lj 49 48,oJ 50 (.call (.f 111) [.t 44,.t 45,.t 47,.t 49] (.one (.one .slice))),oJ 51 (.aQ 1 [.slice none 0 0] [(0,1,.t 50)]),oI 52 (.append 1 24 (.t 43) (.t 51)),fa 53 1 10,sI 1 53 52] [12,42,43,44,45,46,47,48,49,50,51,52,53]))) (.region [bc 54 .add 38 1,m 38 54] [54]))))))) (.seq (.region [oI 55 (.load (.agg [.int .i64,.slice]) (.t 10)),sI 2 6 55,mc 7 0] [10,55]) (.ret))))))),[.cell 6 (.agg [.int .i64,.slice]),.tmp 7]⟩
theorem SP:okF Tryz.prog 85 u7=true:=by kernel_rfl
def apX(t6 t7:Sl):List Value:=un 6 (t6.v::t7.v::un 14 [])
def akP:aa:=.seq (.region [oI 3 (.box (.t 0)),oI 6 (.mv (.c (.slice none 0 0))),oI 7 (.mv (.c (.slice none 0 0)))] [0,6,7]) (.seq (.region [oI 11 (.load (.agg [.int .i64,.int .i64,.slice]) (.t 3)),m 12 1,m 13 2,oI 14 (.call (.f 125) [.t 11,.t 12,.t 13] (.jo [.one .slice,.one .slice])),m 10 14,ex 15 10 0,ex 16 10 1,m 8 15,m 9 16] [1,2,3,10,11,12,13,14,15,16]) (.seq (.region [m 17 8,m 18 9,ln 19 18,oI 20 (.slice 1 (.t 17) none (some (.t 19)) none),m 21 9,m 6 20,m 7 21] [8,9,17,18,19,20,21]) (.ret)))
abbrev Ps(R:Type):=Int→Int→Sl→Sl→Int→AH→Option R
def apY(aI aH:Int)(aK t1:Sl)(t2:Int):List Value:=.agg ⟨[vi aI,vi aH,vs aK]⟩::t1.v::vi t2::un 19 []
def sG:ay:=⟨22,akP,[.tmp 6,.tmp 7]⟩
theorem Q6:okF Tryz.prog 86 sG=true:=by kernel_rfl
def akQ{R:Type}(C:Callee)(fl k:Nat)(kr:c8 R):Ps R:=fun aI aH aK t1 t2 h=>cU h [vi aI,vi aH,vs aK] fun b1 h2=>aE .i64 h2 b1 0 fun n3=>aE .i64 h2 b1 1 fun n4=>bM h2 b1 2 fun s5=>aC C fl fn.fz [.agg ⟨[vi n3,vi n4,vs s5]⟩,vs t1,vi t2] h2 fun v6 h7=>bj v6 fun l8=>aG l8 fun v9 l10=>bB v9 fun KK=>aG l10 fun v12 l13=>bB v12 fun s14=>ch l13 (sub 1 KK none (some ((s14.l:Nat):Int)) none fun XX=>kr XX s14 h7)
theorem apZ:(cp apY (ce C fl k akP K))=akQ C fl k (cp apX (K .ret)):=by kernel_rfl
def kI(ax aw:Int)(aA p1:Sl)(p2:Int)(h:AH):Option (Value×AH):=akQ C fl k (fun y6 y7 q=>some (.tuple ⟨[vs y6,vs y7]⟩,q)) ax aw aA p1 p2 h
theorem Oa(ax aw:Int)(aA p1:Sl)(p2:Int)(h):bl C fl k sG [.agg ⟨[vi ax,vi aw,vs aA]⟩,vs p1,vi p2] h=kI C fl k ax aw aA p1 p2 h:=vU (apZ C fl k (aD _)) ax aw aA p1 p2 (by kernel_rfl) (by kernel_rfl)
def Ek(t4:Int):List Value:=un 4 (vi t4::un 14 [])
def GG:aa:=.seq (.region [oI 4 (.mv (ci (-1)))] []) (.ret)
def VP:List Value:=un 19 []
abbrev bR(R:Type):=Sl→Int→Int→Int→AH→Option R
def Ji(t0:Sl)(t1 t7 t8:Int):List Value:=t0.v::vi t1::un 5 (vi t7::vi t8::un 10 [])
def GH:aa:=.seq (.region [cm 9 .lss 8 7] []) (.seq (.cond (.t 9) (kl [9]) (.seq (kl [0,1,7,8,9]) (.exit 0))) (.seq (.block 1 (.seq (.region [m 10 8,m 5 10] [10]) (.seq (.region [m 11 1,m 12 0,m 13 5,ia 14 1 12 13,li 15 14,cm 16 .eql 11 15] [11,12,13,14,15]) (.cond (.t 16) (.seq (.region [m 17 5,m 4 17] [0,1,5,7,8,16,17]) (.ret)) (kl [5,16]))))) (.region [bc 18 .add 8 1,m 8 18] [18])))
def Q7:aa:=.seq (.block 0 (.loop GH)) GG
def aeM(cn:aa):aa:=.seq (.seq (.region [mc 4 0] [4]) (.region [m 6 0,ln 7 6,mc 8 0] [6])) cn
def akR:aa:=aeM Q7
def aeN(t0:Sl)(t1:Int):List Value:=t0.v::vi t1::un 17 []
def oM:ay:=⟨19,akR,[.tmp 4]⟩
theorem Ob:okF Tryz.prog 89 oM=true:=by kernel_rfl
def Ln{R:Type}(C:Callee)(fl k:Nat)(kr:ae R):ar R:=fun h=>kr (-1) h
theorem Zh:(cp VP (ce C fl k GG K))=Ln C fl k (cp Ek (K .ret)):=by kernel_rfl
def qK{R:Type}(C:Callee)(fl k:Nat)(kn:bR R)(e0:ar R)(kr:ae R):bR R:=fun t0 t1 t7 t8 h=>if decide (t8<t7)=true then idx 1 t0 t8 fun p1=>aE .i64 h p1.block p1.off fun n2=>if (t1==n2)=true then kr t8 h else kn t0 t1 t7 (bL (t8+1)) h else e0 h
theorem Zi:(cp Ji (ce C fl k GH K))=qK C fl k (cp Ji (K .normal)) (cp VP (K (.exit 0))) (cp Ek (K .ret)):=by kernel_rfl
def zc(kn:ar R)(kr:ae R):Nat→bR R
 |0=>fun _ _ _ _ _=>none
 |m+1=>qK C fl k (zc kn kr m) kn kr
theorem MM:∀m,(cp Ji (aR m (bH C fl k GH 0 K)))=zc C fl k (cp VP (K .normal)) (cp Ek (K .ret)) m
 |0=>by kernel_rfl
 |m+1=>mq (Zi C fl k _) (aj (fun L=>qK C fl k L _ _) (MM m))
def VQ(kr:ae R):bR R:=zc C fl k (Ln C fl k kr) kr k
theorem ag6:(cp Ji (ce C fl k Q7 K))=VQ C fl k (cp Ek (K .ret)):=(ou (mw (MM C fl k (bU C fl k GG K)))).trans (aj (fun L=>zc C fl k L _ k) (oh (Zh C fl k K)))
def VR{R:Type}(C:Callee)(fl k:Nat)(kx:bR R)(kr:ae R):aO R:=fun t0 t1 h=>kx t0 t1 ((t0.l:Nat):Int) 0 h
def akS(kr:ae R):aO R:=VR C fl k (VQ C fl k kr) kr
theorem ap0(cn:aa):(cp aeN (ce C fl k (aeM cn) K))=VR C fl k (cp Ji (ce C fl k cn K)) (cp Ek (K .ret)):=by kernel_rfl
theorem ap1:(cp aeN (ce C fl k akR K))=akS C fl k (cp Ek (K .ret)):=(ap0 C fl k K Q7).trans (aj (fun L0=>VR C fl k L0 _) (ag6 C fl k K))
def lq(p0:Sl)(p1:Int)(h:AH):Option (Value×AH):=akS C fl k (fun y4 q=>some (vi y4,q)) p0 p1 h
theorem zd(p0:Sl)(p1:Int)(h):bl C fl k oM [vs p0,vi p1] h=lq C fl k p0 p1 h:=Ca (ap1 C fl k (aD _)) p0 p1 (by kernel_rfl) (by kernel_rfl)
def lJ:ay:=⟨43,.seq (.region [oI 3 (.box (.t 0)),oI 6 (.mv (.c (.pointer none))),mc 7 0] [0,6,7]) (.seq (.region [oI 11 (.load (.agg [.int .i64,.int .i64,.slice,.int .i64,.slice]) (.t 3)),m 12 2,oI 13 (.call (.f 127) [.t 11,.t 12] (.jo [.one .kB,.one (.int .i64)])),m 10 13,ex 14 10 0,ex 15 10 1,m 8 14,m 9 15] [10,11,12,13,14,15]) (.seq (.seq (.region [m 16 9,ck 17 .neq 16 0] [16]) (.cond (.t 17) (.seq (.region [m 18 9,oI 6 (.mv (.c (.pointer none))),m 7 18] [1,2,3,8,9,17,18]) (.ret)) (kl [9,17]))) (.seq (.seq (.region [m 19 1,ck 20 .lss 19 0,m 21 20,.fc 21 false [qI 22 (.mv (.t 1)),qI 23 (.cu 4 (.t 3)),qI 24 (.load (.one .slice) (.t 23)),qI 25 (.len (.t 24)),qI 26 (.cmp .gtr .i64 (.t 22) (.t 25))],oI 27 (.pick (.t 21) (.c (.bool true)) (.t 26)),m 28 27,.fc 28 false [qI 29 (.mv (.t 2)),qI 30 (.cmp .lss .i64 (.t 29) (ci 0))],oI 31 (.pick (.t 28) (.c (.bool true)) (.t 30)),m 32 31,.fc 32 false [qI 33 (.mv (.t 2)),qI 34 (.cu 3 (.t 3)),qI 35 (.load (.one (.int .i64)) (.t 34)),qI 36 (.cmp .gtr .i64 (.t 33) (.t 35))],oI 37 (.pick (.t 32) (.c (.bool true)) (.t 36))] [2,3,19,20,21,22,23,24,25,26,27,28,29,30,31,32,33,34,35,36]) (.cond (.t 37) (.seq (.region [oI 6 (.mv (.c (.pointer none))),mc 7 6] [1,8,37]) (.ret)) (kl [37]))) (.seq (.region [m 38 8,m 39 1,oI 40 (.cg (.t 38)),fa 41 8 40,sI 1 41 39] [1,38,39,40,41]) (.seq (.region [m 42 8,m 6 42,mc 7 0] [8,42]) (.ret)))))),[.tmp 6,.tmp 7]⟩
theorem Jj:okF Tryz.prog 90 lJ=true:=by kernel_rfl
def fH:ay:=⟨16,.seq (.region [oI 2 (.alloc [.slice none 0 0]),mc 3 0] [3]) (.seq (.seq (.region [m 5 0,oI 6 (.call (.f 128) [.t 5,.c (.slice none 0 0),.c (.slice none 0 0)] (.one (.one (.int .i64)))),m 4 6] [5,6]) (.seq (.region [m 7 4,ck 8 .neq 7 0] [7]) (.cond (.t 8) (.seq (.region [oI 9 (.build [.slice none 0 0] []),m 10 4,sI 1 2 9,m 3 10] [0,4,8,9,10]) (.ret)) (kl [4,8])))) (.seq (.region [m 11 0,oI 12 (.cg (.t 11)),fa 13 10 12,ls 14 13,oI 15 (.build [.slice none 0 0] [(0,1,.t 14)]),sI 1 2 15,mc 3 0] [0,11,12,13,14,15]) (.ret))),[.cell 2 (.agg [.slice]),.tmp 3]⟩
theorem zf:okF Tryz.prog 91 fH=true:=by kernel_rfl
def eS:ay:=⟨28,.seq (.region [oI 3 (.box (.t 1)),mc 4 0] [1,4]) (.seq (.region [m 6 0,fa 7 0 3,ls 8 7,oI 9 (.cg (.t 6)),fa 10 10 9,sI 1 10 8] [3,6,7,8,9,10]) (.seq (.region [m 11 0,oI 12 (.call (.f 134) [.t 11,.c (.slice none 0 0),.c (.slice none 0 0)] (.one (.one (.int .i64)))),m 5 12] [11,12]) (.seq (.seq (.region [m 13 5,ck 14 .eql 13 0,m 15 14,.fc 15 true [qI 16 (.mv (.t 0)),qI 17 (.cg (.t 16)),qI 18 (.cu 11 (.t 17)),qJ 19 (.load (.one (.int .i64)) (.t 18)),qI 20 (.mv (.t 0)),qI 21 (.cg (.t 20)),qI 22 (.cu 10 (.t 21)),qJ 23 (.load (.one .slice) (.t 22)),qI 24 (.len (.t 23)),qI 25 (.cmp .lss .i64 (.t 19) (.t 24))],oI 26 (.pick (.t 15) (.t 25) (.c (.bool false)))] [0,13,14,15,16,17,18,19,20,21,22,23,24,25]) (.cond (.t 26) (.seq (.region [mc 4 13] [5,26]) (.ret)) (kl [26]))) (.seq (.region [m 27 5,m 4 27] [5,27]) (.ret))))),[.tmp 4]⟩
theorem xj:okF Tryz.prog 94 eS=true:=by kernel_rfl
def Em(t2:Int):List Value:=un 2 (vi t2::un 31 [])
def GI:aa:=.seq (.region [m 33 3,m 2 33] [3,33]) (.ret)
def VS(t3:Int):List Value:=un 3 (vi t3::un 30 [])
def Jk(t1:Addr)(t3 t4:Int):List Value:=un 1 (vp t1::un 1 (vi t3::vi t4::un 29 []))
def GJ:aa:=.seq (.region [m 18 4,fa 19 1 1,li 20 19,cm 21 .lss 18 20] [18,19,20]) (.seq (.cond (.t 21) (kl [21]) (.seq (kl [1,4,21]) (.exit 0))) (.seq (.block 1 (.seq (.seq (.region [m 24 3,fa 25 0 1,li 26 25,oI 27 (.bin .quo .i64 (ci 256) (.t 26)),cm 28 .gtr 24 27] [24,25,26,27]) (.cond (.t 28) (.seq (.region [mc 2 0] [1,3,4,28]) (.ret)) (kl [28]))) (.region [m 29 3,fa 30 0 1,li 31 30,bb 32 .mul 29 31,m 3 32] [29,30,31,32]))) (.region [m 22 4,bc 23 .add 22 1,m 4 23] [22,23])))
def Q8:aa:=.seq (.block 0 (.loop GJ)) GI
def aeO(cn:aa):aa:=.seq (.seq (.region [oI 1 (.box (.t 0)),mc 2 0] [0,2]) (.seq (.region [fa 5 0 1,li 6 5,ck 7 .lss 6 2,m 8 7,.fc 8 false [qI 9 (.cu 1 (.t 1)),qI 10 (.load (.one (.int .i64)) (.t 9)),qI 11 (.cmp .lss .i64 (.t 10) (ci 1))],oI 12 (.pick (.t 8) (.c (.bool true)) (.t 11)),m 13 12,.fc 13 false [qI 14 (.cu 1 (.t 1)),qI 15 (.load (.one (.int .i64)) (.t 14)),qI 16 (.cmp .gtr .i64 (.t 15) (ci 8))],oI 17 (.pick (.t 13) (.c (.bool true)) (.t 16))] [5,6,7,8,9,10,11,12,13,14,15,16]) (.seq (.cond (.t 17) (.seq (.region [mc 2 0] [1,17]) (.ret)) (kl [17])) (.seq (.region [mc 3 1] []) (.region [mc 4 0] []))))) cn
def akT:aa:=aeO Q8
def aeP(aI aH:Int)(aK:Sl):List Value:=.agg ⟨[vi aI,vi aH,vs aK]⟩::un 33 []
def sH:ay:=⟨34,akT,[.tmp 2]⟩
theorem Q9:okF Tryz.prog 96 sH=true:=by kernel_rfl
def Lo{R:Type}(C:Callee)(fl k:Nat)(kr:ae R):ae R:=fun t3 h=>kr t3 h
theorem Zj:(cp VS (ce C fl k GI K))=Lo C fl k (cp Em (K .ret)):=by kernel_rfl
def qL{R:Type}(C:Callee)(fl k:Nat)(kn:oD R)(e0:ae R)(kr:ae R):oD R:=fun t1 t3 t4 h=>aE .i64 h t1.block (t1.off+1) fun n1=>if decide (t4<n1)=true then aE .i64 h t1.block t1.off fun n2=>jd .quo .i64 256 n2 fun n3=>if decide (t3>n3)=true then kr 0 h else aE .i64 h t1.block t1.off fun n4=>kn t1 (bL (t3*n4)) (bL (t4+1)) h else e0 t3 h
theorem Zk:(cp Jk (ce C fl k GJ K))=qL C fl k (cp Jk (K .normal)) (cp VS (K (.exit 0))) (cp Em (K .ret)):=by kernel_rfl
def zg(kn:ae R)(kr:ae R):Nat→oD R
 |0=>fun _ _ _ _=>none
 |m+1=>qL C fl k (zg kn kr m) kn kr
theorem MN:∀m,(cp Jk (aR m (bH C fl k GJ 0 K)))=zg C fl k (cp VS (K .normal)) (cp Em (K .ret)) m
 |0=>by kernel_rfl
 |m+1=>mq (Zk C fl k _) (aj (fun L=>qL C fl k L _ _) (MN m))
def aeQ(kr:ae R):oD R:=zg C fl k (Lo C fl k kr) kr k
theorem ag7:(cp Jk (ce C fl k Q8 K))=aeQ C fl k (cp Em (K .ret)):=(ou (mw (MN C fl k (bU C fl k GI K)))).trans (aj (fun L=>zg C fl k L _ k) (oh (Zj C fl k K)))
def VT{R:Type}(C:Callee)(fl k:Nat)(kx:oD R)(kr:ae R):jB R:=fun aI aH aK h=>cU h [vi aI,vi aH,vs aK] fun b5 h6=>aE .i64 h6 b5 0 fun n7=>if decide (n7<2)=false then aE .i64 h6 b5 1 fun n8=>if decide (n8<1)=false then aE .i64 h6 b5 1 fun n9=>if decide (n9>8)=true then kr 0 h6 else kx ⟨b5,0,none⟩ 1 0 h6 else kr 0 h6 else kr 0 h6
def akU(kr:ae R):jB R:=VT C fl k (aeQ C fl k kr) kr
theorem ap2(cn:aa):(cp aeP (ce C fl k (aeO cn) K))=VT C fl k (cp Jk (ce C fl k cn K)) (cp Em (K .ret)):=by kernel_rfl
theorem ap3:(cp aeP (ce C fl k akT K))=akU C fl k (cp Em (K .ret)):=(ap2 C fl k K Q8).trans (aj (fun L0=>VT C fl k L0 _) (ag7 C fl k K))
def kJ(ax aw:Int)(aA:Sl)(h:AH):Option (Value×AH):=akU C fl k (fun y2 q=>some (vi y2,q)) ax aw aA h
theorem Oc(ax aw:Int)(aA:Sl)(h):bl C fl k sH [.agg ⟨[vi ax,vi aw,vs aA]⟩] h=kJ C fl k ax aw aA h:=yV (ap3 C fl k (aD _)) ax aw aA (by kernel_rfl) (by kernel_rfl)
end Go.Abs.P
