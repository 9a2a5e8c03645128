/- Code whose rows are associated otherwise than the program's. -/
import Derived.Test.YtgplcfblbkmcmaaGreatGoAbsA18
namespace Go.Abs

def flatA : ACode → List ACode
  | .seq a b => flatA a ++ flatA b
  | a => [a]

/-- As much of the row as the code takes, in the code's own shape. -/
def takeA : Code → List ACode → Option (ACode × List ACode)
  | .seq x y, l => match takeA x l with
    | some (a, l1) => match takeA y l1 with
      | some (b, l2) => some (.seq a b, l2)
      | none => none
    | none => none
  | .cond _ x y, .cond c a b :: l => match takeA x (flatA a) with
    | some (a', []) => match takeA y (flatA b) with
      | some (b', []) => some (.cond c a' b', l)
      | _ => none
    | _ => none
  | .block _ x, .block id a :: l => match takeA x (flatA a) with
    | some (a', []) => some (.block id a', l)
    | _ => none
  | .loop x, .loop a :: l => match takeA x (flatA a) with
    | some (a', []) => some (.loop a', l)
    | _ => none
  | .exit _, .region [] kl :: .exit i :: l => some (.seq (.region [] kl) (.exit i), l)
  | .ret, .region [] kl :: .ret :: l => some (.seq (.region [] kl) .ret, l)
  | .exit _, a :: l => some (a, l)
  | .ret, a :: l => some (a, l)
  | .skip, a :: l => some (a, l)
  | .region _ _ _, a :: l => some (a, l)
  | _, _ => none

def mkA : List ACode → ACode
  | [] => .skip
  | a :: l => .seq a (mkA l)

/-- Two codes that come to the same. -/
structure Eqv (a b : ACode) : Prop where
  eq : ∀ (R : Type) (C : Callee) (fl k : Nat) (s : List Value) (h : AH) (K : Flow → List Value → AH → Option R), cexec C fl k a s h K = cexec C fl k b s h K

theorem Eqv.refl (a : ACode) : Eqv a a := ⟨fun _ _ _ _ _ _ _ => rfl⟩
theorem Eqv.symm {a b : ACode} (h : Eqv a b) : Eqv b a := ⟨fun _ C fl k s q K => (h.1 _ C fl k s q K).symm⟩
theorem Eqv.trans {a b c : ACode} (h : Eqv a b) (g : Eqv b c) : Eqv a c := ⟨fun _ C fl k s q K => (h.1 _ C fl k s q K).trans (g.1 _ C fl k s q K)⟩
theorem Eqv.seq {a b c d : ACode} (h : Eqv a b) (g : Eqv c d) : Eqv (.seq a c) (.seq b d) := ⟨fun _ C fl k s q K => by
  rw [cexec_seq, cexec_seq, h.1]
  have : kseq C fl k c K = kseq C fl k d K := by
    funext f s q
    cases f with
    | normal => exact g.1 _ C fl k s q K
    | exit i => rfl
    | ret => rfl
  rw [this]⟩
theorem Eqv.cond {c : Opd} {a b a' b' : ACode} (h : Eqv a a') (g : Eqv b b') : Eqv (.cond c a b) (.cond c a' b') := ⟨fun _ C fl k s q K => by
  simp only [cexec]
  congr 1
  funext t
  rw [h.1, g.1]⟩
theorem Eqv.block {id : Nat} {a b : ACode} (h : Eqv a b) : Eqv (.block id a) (.block id b) := ⟨fun _ C fl k s q K => by
  simp only [cexec]; rw [h.1]⟩
theorem Eqv.loop {a b : ACode} (h : Eqv a b) : Eqv (.loop a) (.loop b) := ⟨fun _ C fl k s q K => by
  simp only [cexec]
  simp only [h.1]⟩
theorem Eqv.assoc {a b c : ACode} : Eqv (.seq (.seq a b) c) (.seq a (.seq b c)) := ⟨fun _ C fl k s q K => by
  have : kseq C fl k b (kseq C fl k c K) = kseq C fl k (.seq b c) K := by
    funext f s q
    cases f <;> rfl
  rw [cexec_seq, cexec_seq, cexec_seq, this]⟩
theorem Eqv.unit {a : ACode} : Eqv (.seq a .skip) a := ⟨fun _ C fl k s q K => by
  rw [cexec_seq]
  congr 1
  funext f s q
  cases f <;> rfl⟩
theorem Eqv.skip {a : ACode} : Eqv (.seq .skip a) a := ⟨fun _ _ _ _ _ _ _ => rfl⟩

theorem mkA_append (l m : List ACode) : Eqv (mkA (l ++ m)) (.seq (mkA l) (mkA m)) := by
  induction l with
  | nil => exact Eqv.skip.symm
  | cons a l ih => exact (Eqv.seq (.refl _) ih).trans Eqv.assoc.symm
theorem flatA_eqv : ∀ (a : ACode), Eqv a (mkA (flatA a))
  | .seq a b => ((flatA_eqv a).seq (flatA_eqv b)).trans (mkA_append _ _).symm
  | .skip => Eqv.unit.symm
  | .cond _ _ _ => Eqv.unit.symm
  | .block _ _ => Eqv.unit.symm
  | .loop _ => Eqv.unit.symm
  | .exit _ => Eqv.unit.symm
  | .ret => Eqv.unit.symm
  | .region _ _ => Eqv.unit.symm

theorem takeA_eqv (g : Code) (l : List ACode) : ∀ {b : ACode} {m : List ACode}, takeA g l = some (b, m) → Eqv (mkA l) (.seq b (mkA m)) := by
  have one : ∀ {a b : ACode} {l m : List ACode}, some (a, l) = some (b, m) → Eqv (mkA (a :: l)) (.seq b (mkA m)) := by
    intro a b l m h
    injection h with h; injection h with h1 h2; subst h1; subst h2; exact .refl _
  have nil : ∀ {a b : ACode}, Eqv (mkA (flatA a)) (.seq b (mkA [])) → Eqv a b := fun h => (flatA_eqv _).trans (h.trans Eqv.unit)
  fun_induction takeA g l with
  | case1 l x y a l1 h1 b l2 h2 hx hy =>
    intro c m h
    injection h with h; injection h with h3 h4; subst h3; subst h4
    exact (hx h1).trans ((Eqv.seq (.refl _) (hy h2)).trans Eqv.assoc.symm)
  | case4 o x y c a b l a' h1 b' h2 hx hy =>
    intro d m h
    injection h with h; injection h with h3 h4; subst h3; subst h4
    exact Eqv.seq (Eqv.cond (nil (hx h1)) (nil (hy h2))) (.refl _)
  | case7 _ x id a l b' h1 hx =>
    intro d m h
    injection h with h; injection h with h3 h4; subst h3; subst h4
    exact Eqv.seq (Eqv.block (nil (hx h1))) (.refl _)
  | case9 x a l b' h1 hx =>
    intro d m h
    injection h with h; injection h with h3 h4; subst h3; subst h4
    exact Eqv.seq (Eqv.loop (nil (hx h1))) (.refl _)
  | case11 | case12 =>
    intro d m h
    injection h with h; injection h with h3 h4; subst h3; subst h4
    exact Eqv.assoc.symm
  | case13 | case14 | case15 | case16 => intro d m h; exact one h
  | _ => intro d m h; cases h

/-- The code in the shape of the program's. -/
def shapeA (P : Program) (f : FuncId) (af : AFunc) : Option AFunc := match P.funcs[f]? with
  | some fd => match fd.body with
    | some c => match takeA c (flatA af.body) with
      | some (b, []) => some ⟨af.ntmps, b, af.results⟩
      | _ => none
    | none => none
  | none => none
def okF (P : Program) (f : FuncId) (af : AFunc) : Bool := match shapeA P f af with
  | some a => okFunc P f a
  | none => false

theorem shapeA_run {P : Program} {f : FuncId} {af a : AFunc} (h : shapeA P f af = some a) {C : Callee} {fl k : Nat} {args : List Value} {q : AH} : runF C fl k a args q = runF C fl k af args q := by
  unfold shapeA at h
  split at h
  · split at h
    · split at h
      · rename_i b hb
        injection h with h; subst h
        have := (flatA_eqv af.body).trans ((takeA_eqv _ _ hb).trans Eqv.unit)
        exact (this.1 _ C fl k _ q _).symm
      · cases h
    · cases h
  · cases h

/-- A table of functions, each in the shape of the program's. -/
def shT (P : Program) (T : FuncId → Option AFunc) : FuncId → Option AFunc := fun f => (T f).bind fun af => shapeA P f af

theorem shT_ok {P : Program} {T : FuncId → Option AFunc} (h : ∀ f af, T f = some af → okF P f af = true) : ∀ f af, shT P T f = some af → okFunc P f af = true := by
  intro f a ha
  unfold shT at ha
  cases hf : T f with
  | none => rw [hf] at ha; cases ha
  | some af =>
    rw [hf] at ha
    have hk := h f af hf
    unfold okF at hk
    simp only [Option.bind_some] at ha
    rw [ha] at hk
    exact hk
theorem shT_run {P : Program} {T : FuncId → Option AFunc} {E : Callee} (h : ∀ f af, T f = some af → okF P f af = true) {f : FuncId} {af : AFunc} (hf : T f = some af) {fl k : Nat} {args : List Value} {q : AH} {r : Value × AH}
    (e : runF (CC (shT P T) E) fl k af args q = some r) : CC (shT P T) E fl f args q = some r := by
  have hk := h f af hf
  unfold okF at hk
  split at hk
  · rename_i a ha
    refine CC_run (af := a) (k := k) ?_ ?_
    · unfold shT; rw [hf]; exact ha
    · rw [shapeA_run ha]; exact e
  · cases hk
end Go.Abs
