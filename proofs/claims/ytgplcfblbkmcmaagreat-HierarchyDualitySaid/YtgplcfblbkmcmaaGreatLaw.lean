/- HierarchyDuality answers true for every code, and leaves it as it was. No condition. -/
import Derived.Test.YtgplcfblbkmcmaaGreatQ5
import Derived.Test.YtgplcfblbkmcmaaGreatRows
import Derived.WalkKit
import Derived.ProofKit
import Derived.OpenShut
import Derived.ChangeOld
import Derived.Below
import Derived.Carry
namespace Go.Proofs.YtgplcfblbkmcmaaGreat.hierarchyDuality
open Go.ChangeShapes Go.WideShapes Go.ChangeAt Go.RowKit
set_option linter.unusedVariables false
theorem own:ownKnob Tryz.prog.godebug=none:=by kernel_rfl
theorem laidOut:laidOutB Tryz.prog=true:=by kernel_rfl
set_option maxRecDepth 100000 in
theorem lifted(os:Os)(started:os.Started)(H:Type)(enc:TypeId×Value→H):
 ReturnsInHanded {} Tryz.checked os 9 .any (Rows.hierarchyDualitySpec.pre6 enc Tryz.prog Tryz.f9 Rows.hierarchyDualityRow.domain false) (Rows.hierarchyDualitySpec.post enc Tryz.prog Tryz.f9 false true false false):=by
 refine returnsInHanded_of_change (C:=Tryz.checked) own started (by kernel_rfl) Tryz.func9
  (ChangeSpec.witness6 (enc:=enc) (C:=Tryz.checked) false ⟨#[],#[.agg #[.int .i64 0,.int .i64 0,.slice none 0 0,.int .i64 0,.slice none 0 0]],[]⟩ 8 (by kernel_rfl) (by kernel_rfl) (by kernel_rfl) (by kernel_rfl)) ?_
 intro W base args ds gs before atw hW aFz _
 have asQ:∀(j:Nat) t v,Tryz.f9.params[j]?=some t→args[j]?=some v→Value.okWide Tryz.prog W .any base t v:=atw
 have hW':=hW
 obtain⟨p,q,hA0,hV,rfl,hfz,UK⟩:=hW
 have hA:DataW.TrodAll enc Tryz.prog W 0 (fun _=>true) true Tryz.f9.params.toList args.toList ds p:=hA0
 rw[Tryz.params9] at hA asQ
 obtain⟨v0,vs0,d0,ds0,p0,q0,atK,rfl,rfl,h0,r0⟩:=trodAll_cons hA
 obtain⟨rfl,rfl,rfl⟩:=trodAll_nil r0
 obtain rfl:args=#[v0]:=by cases args;simp_all
 obtain⟨rfl,rfl⟩:=trodVars_none hV
 have k0:=h0
 have lt0:∀x∈p0,x.block<W.heap.size:=by obtain⟨m,hm⟩:=k0;exact DataW.trod_lt m _ _ _ hm
 obtain⟨pp,mm,nn,mod,s,xs,rs,rfl,w1,w2,w3,w4,w5,w6⟩:=Go.Abs.aiv Tryz.underlying27 Tryz.underlying24 Tryz.underlying3 Tryz.underlying22 Tryz.underlying25 (by kernel_rfl) (by kernel_rfl) (by kernel_rfl) (by kernel_rfl) (by kernel_rfl) rfl (asQ 0 27 v0 rfl rfl) h0
 clear hA0 atw
 obtain⟨h',e,_⟩:=Go.Abs.P.Sh (h:=Go.Abs.K7 W) pp mm nn w1 w2 w3
 have run:=Go.Abs.aoz (args':=[Go.Abs.P.ca pp mm mod nn s]) Go.Abs.P.ar5 e (.cons (w6 _) .nil)
 refine run.mono fun e W' ⟨he,bel⟩=>?_
 subst he
 exact⟨_,rfl,_,_,_,[],_,[],hW',trodAll_mk1 (shut_bool Tryz.underlying4 _),(trodAll_cons_mk (Below.trod laidOut (by kernel_rfl) (of_decide_eq_true (by kernel_rfl)) k0 bel lt0) trodAll_mk0),rfl,bel.frame _,fun h=>by cases h⟩
theorem az6:Rows.hierarchyDualityRow.holds Tryz.pinned (OpenSpec.ofChange Rows.hierarchyDualitySpec):=
 OpenClaim.holds_of_wide 9 Tryz.f9 rfl rfl rfl rfl rfl rfl rfl ⟨rfl,rfl,rfl,rfl,rfl⟩ rfl rfl rfl rfl rfl (by kernel_rfl) Tryz.func9 (by kernel_rfl)
  (of_decide_eq_true (by kernel_rfl)) (by unfold Func.isWrapper;first|(rw[if_pos (by decide+kernel)];kernel_rfl)|(rw[if_neg (by decide+kernel)];exact⟨rfl,rfl⟩))
  (fun os started H enc _=>lifted os started H enc)
theorem proved:Rows.HierarchyDualitySaid:=az6
#print axioms proved
end Go.Proofs.YtgplcfblbkmcmaaGreat.hierarchyDuality
namespace Go.Proofs.YtgplcfblbkmcmaaGreat
theorem hierarchyDuality_holds:Rows.HierarchyDualitySaid:=hierarchyDuality.proved
end Go.Proofs.YtgplcfblbkmcmaaGreat
