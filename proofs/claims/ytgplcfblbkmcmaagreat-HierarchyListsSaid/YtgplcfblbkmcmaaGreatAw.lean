/- The examples of the chapter, evaluated; the callee of the laws. -/
import Derived.Test.YtgplcfblbkmcmaaGreatTab
import Derived.Test.YtgplcfblbkmcmaaGreatSqE
import Derived.KernelRfl
set_option maxRecDepth 100000
namespace Go.Abs.P
open Go.Abs Go.Proofs

def okB (o : Option (Value × AH)) : Bool := match o with
  | some (.bool b, _) => b
  | _ => false
theorem okB_inv {o : Option (Value × AH)} (h : okB o = true) : ∃ h1, o = some (.bool true, h1) := by
  unfold okB at h
  split at h
  · subst h; exact ⟨_, rfl⟩
  · cases h

theorem awake_eval : okB (byNum disp sqE 60 0 fn.law29_awake [] ⟨0, fun _ => none⟩) = true := by kernel_rfl

theorem mixed : Tryz.prog.follows .mixedOrders = true := by kernel_rfl

noncomputable def M0 : Callee := CC (shT Tryz.prog T) sqE
theorem M0_sound : CSound Tryz.prog M0 := CC_sound mixed sqE_sound (shT_ok T_ok)

theorem sqE_out : ∀ fl f args h r, sqE fl f args h = some r → T f = none := by
  intro fl f args h r e
  obtain ⟨rfl, _⟩ := sqE_inv (v := r.1) (h1 := r.2) e
  kernel_rfl

def awakeE : Callee := constE fn.law29_awake (.bool true)
theorem awakeE_sound : CSound Tryz.prog awakeE := by
  obtain ⟨h1, e⟩ := okB_inv awake_eval
  exact constE_sound M0_sound (byNum_CC T_ok sqE_out (fun C => disp_says C sqE) 60 _ _ _ _ _ e)

/-- The table of a law: awake stands outside. -/
def Tl : FuncId → Option AFunc := fun f => if f = fn.law29_awake then none else T f
theorem Tl_ok : ∀ f af, Tl f = some af → okF Tryz.prog f af = true := by
  intro f af h
  unfold Tl at h
  split at h
  · cases h
  · exact T_ok f af h
noncomputable def M : Callee := CC (shT Tryz.prog Tl) (orE sqE awakeE)
theorem M_sound : CSound Tryz.prog M := CC_sound mixed (orE_sound sqE_sound awakeE_sound) (shT_ok Tl_ok)
theorem M_run {f : FuncId} {af : AFunc} (h1 : f ≠ fn.law29_awake) (h2 : T f = some af) {fl k : Nat} {args : List Value} {h : AH} {r : Value × AH} (e : runF M fl k af args h = some r) : M fl f args h = some r :=
  shT_run Tl_ok (by unfold Tl; rw [if_neg h1]; exact h2) e
theorem M_awake (fl : Nat) (h : AH) : M fl fn.law29_awake [] h = some (.bool true, h) := by
  refine CC_ext ?_ ?_
  · unfold shT Tl; rw [if_pos rfl]; rfl
  · unfold orE
    have : sqE fl fn.law29_awake [] h = none := rfl
    rw [this]
    simp [awakeE, constE]
end Go.Abs.P
