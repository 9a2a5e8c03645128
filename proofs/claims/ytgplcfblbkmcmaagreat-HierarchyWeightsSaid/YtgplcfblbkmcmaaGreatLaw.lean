/- HierarchyWeights answers true for every code, and leaves it as it was. No condition. -/
import Derived.Test.YtgplcfblbkmcmaaGreatQ5
import Derived.Test.YtgplcfblbkmcmaaGreatRows
import Derived.WalkKit
import Derived.ProofKit
import Derived.OpenShut
import Derived.ChangeOld
import Derived.Below
import Derived.Carry
namespace Go.Proofs.YtgplcfblbkmcmaaGreat.hierarchyWeights
open Go.ChangeShapes Go.WideShapes Go.ChangeAt Go.RowKit
set_option linter.unusedVariables false
theorem own:ownKnob Tryz.prog.godebug=none:=by kernel_rfl
theorem laidOut:laidOutB Tryz.prog=true:=by kernel_rfl
set_option maxRecDepth 100000 in
theorem lifted(os:Os)(started:os.Started)(H:Type)(enc:TypeId×Value→H):
 ReturnsInHanded {} Tryz.checked os 3 .any (Rows.hierarchyWeightsSpec.pre6 enc Tryz.prog Tryz.f3 Rows.hierarchyWeightsRow.domain false) (Rows.hierarchyWeightsSpec.post enc Tryz.prog Tryz.f3 false true false false):=by
 refine returnsInHanded_of_change (C:=Tryz.checked) own started (by kernel_rfl) Tryz.func3
  (ChangeSpec.witness6 (enc:=enc) (C:=Tryz.checked) false ⟨#[],#[.agg #[.int .i64 0,.int .i64 0,.slice none 0 0,.int .i64 0,.slice none 0 0]],[]⟩ 8 (by kernel_rfl) (by kernel_rfl) (by kernel_rfl) (by kernel_rfl)) ?_
 intro W base args ds gs before aO5 hW bbo _
 have aNM:∀(j:Nat) t v,Tryz.f3.params[j]?=some t→args[j]?=some v→Value.okWide Tryz.prog W .any base t v:=aO5
 have hW':=hW
 obtain⟨p,q,hA0,hV,rfl,hfz,hnd⟩:=hW
 have hA:DataW.TrodAll enc Tryz.prog W 0 (fun _=>true) true Tryz.f3.params.toList args.toList ds p:=hA0
 rw[Tryz.params3] at hA aNM
 obtain⟨v0,vs0,d0,ds0,p0,q0,aPt,rfl,rfl,h0,r0⟩:=trodAll_cons hA
 obtain⟨rfl,rfl,rfl⟩:=trodAll_nil r0
 obtain rfl:args=#[v0]:=by cases args;simp_all
 obtain⟨rfl,rfl⟩:=trodVars_none hV
 have k0:=h0
 have lt0:∀x∈p0,x.block<W.heap.size:=by obtain⟨m,hm⟩:=k0;exact DataW.trod_lt m _ _ _ hm
 obtain⟨pp,mm,nn,mod,s,xs,rs,rfl,w1,w2,w3,w4,w5,w6⟩:=Go.Abs.aAd Tryz.underlying27 Tryz.underlying24 Tryz.underlying3 Tryz.underlying22 Tryz.underlying25 (by kernel_rfl) (by kernel_rfl) (by kernel_rfl) (by kernel_rfl) (by kernel_rfl) rfl (aNM 0 27 v0 rfl rfl) h0
 clear hA0 aO5
 obtain⟨h',e,_⟩:=Go.Abs.P.aet (h:=Go.Abs.Up W) pp mm nn w1 w2 w3
 have run:=Go.Abs.aHd (args':=[Go.Abs.P.ca pp mm mod nn s]) Go.Abs.P.aMF e (.cons (w6 _) .nil)
 refine run.mono fun e W' ⟨he,bel⟩=>?_
 subst he
 exact⟨_,rfl,_,_,_,[],_,[],hW',trodAll_mk1 (shut_bool Tryz.underlying4 _),(trodAll_cons_mk (Below.trod laidOut (by kernel_rfl) (of_decide_eq_true (by kernel_rfl)) k0 bel lt0) trodAll_mk0),rfl,bel.frame _,fun h=>by cases h⟩
theorem aX4:Rows.hierarchyWeightsRow.holds Tryz.pinned (OpenSpec.ofChange Rows.hierarchyWeightsSpec):=
 OpenClaim.holds_of_wide 3 Tryz.f3 rfl rfl rfl rfl rfl rfl rfl ⟨rfl,rfl,rfl,rfl,rfl⟩ rfl rfl rfl rfl rfl (by kernel_rfl) Tryz.func3 (by kernel_rfl)
  (of_decide_eq_true (by kernel_rfl)) (by unfold Func.isWrapper;first|(rw[if_pos (by decide+kernel)];kernel_rfl)|(rw[if_neg (by decide+kernel)];exact⟨rfl,rfl⟩))
  (fun os started H enc _=>lifted os started H enc)
theorem proved:Rows.HierarchyWeightsSaid:=aX4
#print axioms proved
end Go.Proofs.YtgplcfblbkmcmaaGreat.hierarchyWeights
namespace Go.Proofs.YtgplcfblbkmcmaaGreat
theorem hierarchyWeights_holds:Rows.HierarchyWeightsSaid:=hierarchyWeights.proved
end Go.Proofs.YtgplcfblbkmcmaaGreat
