/- HierarchySubcodes answers true for every code and all messages, and leaves them as they were. No condition. -/
import Derived.Test.YtgplcfblbkmcmaaGreatU5
import Derived.Test.YtgplcfblbkmcmaaGreatRows
import Derived.WalkKit
import Derived.ProofKit
import Derived.OpenShut
import Derived.ChangeOld
import Derived.Below
import Derived.Carry
set_option linter.all false
namespace Go.Proofs.YtgplcfblbkmcmaaGreat.hierarchySubcodes
open Go.ChangeShapes Go.WideShapes Go.ChangeAt Go.RowKit
set_option linter.unusedVariables false
theorem own:ownKnob Tryz.prog.godebug=none:=by kernel_rfl
theorem laidOut:laidOutB Tryz.prog=true:=by kernel_rfl
set_option maxRecDepth 100000 in
theorem lifted(os:Os)(started:os.Started)(H:Type)(enc:TypeId×Value→H):
 ReturnsInHanded {} Tryz.checked os 10 .any (Rows.hierarchySubcodesSpec.pre6 enc Tryz.prog Tryz.f10 Rows.hierarchySubcodesRow.domain false) (Rows.hierarchySubcodesSpec.post enc Tryz.prog Tryz.f10 false true false false):=by
 refine returnsInHanded_of_change (C:=Tryz.checked) own started (by kernel_rfl) Tryz.func10
  (ChangeSpec.witness6 (enc:=enc) (C:=Tryz.checked) false ⟨#[],#[.agg #[.int .i64 0,.int .i64 0,.slice none 0 0,.int .i64 0,.slice none 0 0],.slice none 0 0],[]⟩ 8 (by kernel_rfl) (by kernel_rfl) (by kernel_rfl) (by kernel_rfl)) ?_
 intro W base args ds gs before atC hW aDY _
 have amO:∀(j:Nat) t v,Tryz.f10.params[j]?=some t→args[j]?=some v→Value.okWide Tryz.prog W .any base t v:=atC
 have hW':=hW
 obtain⟨p,q,hA0,hV,rfl,hfz,Uc⟩:=hW
 have hA:DataW.TrodAll enc Tryz.prog W 0 (fun _=>true) true Tryz.f10.params.toList args.toList ds p:=hA0
 rw[Tryz.params10] at hA amO
 obtain⟨v0,vs0,d0,ds0,p0,q0,atK,rfl,rfl,h0,r0⟩:=trodAll_cons hA
 obtain⟨v1,vs1,d1,ds1,p1,q1,rfl,rfl,rfl,h1,r1⟩:=trodAll_cons r0
 obtain⟨rfl,rfl,rfl⟩:=trodAll_nil r1
 obtain rfl:args=#[v0,v1]:=by cases args;simp_all
 obtain⟨rfl,rfl⟩:=trodVars_none hV
 have k0:=h0
 have lt0:∀x∈p0,x.block<W.heap.size:=by obtain⟨m,hm⟩:=k0;exact DataW.trod_lt m _ _ _ hm
 have k1:=h1
 have lt1:∀x∈p1,x.block<W.heap.size:=by obtain⟨m,hm⟩:=k1;exact DataW.trod_lt m _ _ _ hm
 obtain⟨a1,axv,axE,rfl⟩:=okWide_slice Tryz.underlying25 (amO 1 25 v1 rfl rfl)
 obtain⟨fu,hfu⟩:=h1
 obtain⟨Xd,y1,_,y3,_⟩:=Go.Abs.RR.open Tryz.underlying25 Tryz.underlying22 Tryz.underlying3 (by kernel_rfl) (by kernel_rfl) hfu
 obtain⟨pp,mm,nn,mod,s,xs,rs,rfl,w1,w2,w3,w4,w5,w6⟩:=Go.Abs.ahV Tryz.underlying27 Tryz.underlying24 Tryz.underlying3 Tryz.underlying22 Tryz.underlying25 (by kernel_rfl) (by kernel_rfl) (by kernel_rfl) (by kernel_rfl) (by kernel_rfl) rfl (amO 0 27 v0 rfl rfl) h0
 clear hA0 atC
 obtain⟨h',e,_⟩:=Go.Abs.P.Ox (h:=Go.Abs.KO W) (sm:=⟨a1,axv,axE⟩) pp mm nn w1 w2 w3 y1
 have run:=Go.Abs.aog (args':=[Go.Abs.P.ca pp mm mod nn s,.slice a1 axv axE]) Go.Abs.P.arU e (.cons (w6 _) (.cons (Go.Abs.Im y3) .nil))
 refine run.mono fun e W' ⟨he,bel⟩=>?_
 subst he
 exact⟨_,rfl,_,_,_,[],_,[],hW',trodAll_mk1 (shut_bool Tryz.underlying4 _),(trodAll_cons_mk (Below.trod laidOut (by kernel_rfl) (of_decide_eq_true (by kernel_rfl)) k0 bel lt0) (trodAll_cons_mk (Below.trod laidOut (by kernel_rfl) (of_decide_eq_true (by kernel_rfl)) k1 bel lt1) trodAll_mk0)),rfl,bel.frame _,fun h=>by cases h⟩
theorem azL:Rows.hierarchySubcodesRow.holds Tryz.pinned (OpenSpec.ofChange Rows.hierarchySubcodesSpec):=
 OpenClaim.holds_of_wide 10 Tryz.f10 rfl rfl rfl rfl rfl rfl rfl ⟨rfl,rfl,rfl,rfl,rfl⟩ rfl rfl rfl rfl rfl (by kernel_rfl) Tryz.func10 (by kernel_rfl)
  (of_decide_eq_true (by kernel_rfl)) (by unfold Func.isWrapper;first|(rw[if_pos (by decide+kernel)];kernel_rfl)|(rw[if_neg (by decide+kernel)];exact⟨rfl,rfl⟩))
  (fun os started H enc _=>lifted os started H enc)
theorem proved:Rows.HierarchySubcodesSaid:=azL
#print axioms proved
end Go.Proofs.YtgplcfblbkmcmaaGreat.hierarchySubcodes
namespace Go.Proofs.YtgplcfblbkmcmaaGreat
theorem hierarchySubcodes_holds:Rows.HierarchySubcodesSaid:=hierarchySubcodes.proved
end Go.Proofs.YtgplcfblbkmcmaaGreat
