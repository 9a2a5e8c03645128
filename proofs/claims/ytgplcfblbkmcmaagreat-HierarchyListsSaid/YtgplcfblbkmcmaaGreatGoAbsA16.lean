/- Functions; calls to any depth; the machine's own answer. -/
import Derived.Test.YtgplcfblbkmcmaaGreatGoAbsA15
namespace Go.Abs

def okResults (P : Program) : List ResultVar → List ARes → Bool
  | [], [] => true
  | .tmp t :: rs, .tmp t' :: ts => t == t' && okResults P rs ts
  | .cell t ty :: rs, .cell t' sh :: ts => t == t' && okResults P rs ts && (match P.underlying ty with
      | some (.struct _) => (match sh with | .agg l => okSize P ty l.length | _ => false)
      | some (.array _ _) => false
      | some _ => (match sh with | .one _ => true | _ => false)
      | none => false)
  | _, _ => false
def okFunc (P : Program) (f : FuncId) (af : AFunc) : Bool := match P.funcs[f]? with
  | some fd => !(fd.name == "runtime.NumGoroutine") && (match fd.body with | some c => okCode P c af.body | none => false) && fd.ntmps == af.ntmps && okResults P fd.results.toList af.results
  | none => false

/-- What the results read as. -/
theorem resK_sound {R : Type} {r : R} {P : Program} {base rbase : Nat} {μ : Mu} {h : AH} {w : World} (sm : Sim base rbase μ h w) {s : List Value} {tmps : Array Value} (t : LRel μ (szOf w) s tmps.toList) (g : ResultVar → Sem Value)
    (hg1 : ∀ t, g (.tmp t) = Pure.pure (tmps.getD t undef)) (hg2 : ∀ a ty, g (.cell a ty) = (do loadVar ty (← asAddr (tmps.getD a undef)))) :
    ∀ (rs : List ResultVar) (ts : List ARes) (K : List Value → Option R), okResults P rs ts = true → resK ts s h K = some r →
      ∃ vs vs' : List Value, K vs = some r ∧ (List.mapM g rs).run P w = .ok vs' w ∧ LRel μ (szOf w) vs vs'
  | [], [], K, _, e => ⟨[], [], e, by simp, LRel.nil⟩
  | .tmp x :: rs, .tmp y :: ts, K, ok, e => by
    simp only [okResults, Bool.and_eq_true, beq_iff_eq] at ok
    obtain ⟨rfl, ok⟩ := ok
    simp only [resK] at e
    obtain ⟨vs, vs', h1, h2, h3⟩ := resK_sound sm t g hg1 hg2 rs ts _ ok e
    refine ⟨s.getD x undef :: vs, tmps.getD x undef :: vs', h1, ?_, LRel.cons ?_ h3⟩
    · simp only [List.mapM_cons, hg1, Sem.run_bind, Sem.run_pure, Result.andThen_ok, h2]
    · have := getD_rel t x
      simpa [Array.getD_eq_getD_getElem?, List.getD_eq_getElem?_getD] using this
  | .cell x ty :: rs, .cell y sh :: ts, K, ok, e => by
    simp only [okResults, Bool.and_eq_true, beq_iff_eq] at ok
    obtain ⟨⟨rfl, ok⟩, k2⟩ := ok
    simp only [resK] at e
    obtain ⟨p, hp, e⟩ := asPtr_some e
    have rr : VRel μ (szOf w) (s.getD x undef) (tmps.getD x undef) := by
      have := getD_rel t x
      simpa [Array.getD_eq_getD_getElem?, List.getD_eq_getElem?_getD] using this
    rw [hp] at rr
    obtain ⟨rb, ob, m1, m2⟩ := rr.ptr_inv
    split at k2
    · rename_i fs hu
      split at k2
      · rename_i l
        obtain ⟨i, hi, hsz⟩ := size_i k2
        obtain ⟨cs, l1, l2, l3⟩ := ldsK0_some e
        obtain ⟨cs', g1, g2⟩ := sm.loads m1 cs p.off l2
        obtain ⟨vs, vs', h1, h2, h3⟩ := resK_sound sm t g hg1 hg2 rs ts _ ok l3
        have hl : (loadCells ⟨rb, ob + p.off, none⟩ i.size).run P w = .ok cs'.toArray w := by
          rw [hsz, ← l1, g1.1]
          exact run_loadCells_list w _ cs' fun j u hu => by rw [add_none]; exact g2 j u hu
        refine ⟨.agg ⟨cs⟩ :: vs, .agg cs'.toArray :: vs', h1, ?_, LRel.cons (.agg g1.1 g1.2) h3⟩
        simp only [List.mapM_cons, hg2, m2, asAddr, loadVar, isAgg, Sem.run_bind, Sem.run_pure, Result.andThen_ok, run_underlying hu, if_true, run_sizeOf' hi, hl, h2]
      · cases k2
    · cases k2
    · rename_i d hn1 hn2 hu
      split at k2
      · rename_i s0
        obtain ⟨u, g1, g2⟩ := ldK0_some e
        obtain ⟨u', q1, q2⟩ := sm.load g1 m1
        obtain ⟨vs, vs', h1, h2, h3⟩ := resK_sound sm t g hg1 hg2 rs ts _ ok g2
        have hd : ((match d with | .struct _ => Pure.pure true | .array _ _ => Pure.pure true | _ => Pure.pure false) : Sem Bool) = Pure.pure false := by
          cases d <;> first | rfl | (exact absurd rfl (hn1 _)) | (exact absurd rfl (hn2 _ _))
        refine ⟨u :: vs, u' :: vs', h1, ?_, LRel.cons q2 h3⟩
        simp only [List.mapM_cons, hg2, m2, asAddr, loadVar, isAgg, Sem.run_bind, Sem.run_pure, Result.andThen_ok, run_underlying hu, hd, Bool.false_eq_true, if_false, run_load, q1, h2]
      · cases k2
    · cases k2
  | [], _ :: _, _, ok, _ => by simp [okResults] at ok
  | .tmp _ :: _, [], _, ok, _ => by simp [okResults] at ok
  | .cell _ _ :: _, [], _, ok, _ => by simp [okResults] at ok
  | .tmp _ :: _, .cell _ _ :: _, _, ok, _ => by simp [okResults] at ok
  | .cell _ _ :: _, .tmp _ :: _, _, ok, _ => by simp [okResults] at ok

theorem resK_any {R : Type} {r : R} : ∀ (ts : List ARes) {s : List Value} {h : AH} {K : List Value → Option R}, resK ts s h K = some r → ∃ vs, K vs = some r
  | [], _, _, _, e => ⟨_, e⟩
  | .tmp x :: ts, s, h, K, e => by
    simp only [resK] at e
    obtain ⟨vs, hv⟩ := resK_any ts e
    exact ⟨_, hv⟩
  | .cell x sh :: ts, s, h, K, e => by
    simp only [resK] at e
    obtain ⟨p, _, e⟩ := asPtr_some e
    cases sh with
    | one s0 =>
      obtain ⟨u, _, e⟩ := ldK0_some e
      obtain ⟨vs, hv⟩ := resK_any ts e
      exact ⟨_, hv⟩
    | agg l =>
      obtain ⟨cs, _, _, e⟩ := ldsK0_some e
      obtain ⟨vs, hv⟩ := resK_any ts e
      exact ⟨_, hv⟩

theorem tupV_rel {μ sz} {xs ys : List Value} (h : LRel μ sz xs ys) : VRel μ sz (tupV xs) (if h : (⟨ys⟩ : Array Value).size = 1 then (⟨ys⟩ : Array Value)[0] else .tuple ⟨ys⟩) := by
  cases xs with
  | nil =>
    cases ys with
    | nil => exact .poison _
    | cons y ys => have := h.1; simp at this
  | cons x xs =>
    cases ys with
    | nil => have := h.1; simp at this
    | cons y ys =>
      cases xs with
      | nil =>
        cases ys with
        | nil => exact h.2 0 (by simp) (by simp)
        | cons y' ys => have := h.1; simp at this
      | cons x' xs =>
        cases ys with
        | nil => have := h.1; simp at this
        | cons y' ys =>
          rw [dif_neg (by simp)]
          exact .tuple h.1 h.2

section
variable {P : Program} {T : FuncId → Option AFunc} {E : Callee}

theorem runF_sound {C : Callee} (hC : CSound P C) (hm : P.follows .mixedOrders = true) {f : FuncId} {af : AFunc} (ok : okFunc P f af = true) {fl k : Nat} {args : List Value} {h h1 : AH} {v : Value}
    (e : runF C fl k af args h = some (v, h1)) {base rbase : Nat} {μ : Mu} {w : World} {args' : List Value} (sm : Sim base rbase μ h w) (hb : base ≤ fl) (hfl : fl ≤ h.next) (hr : rbase ≤ w.heap.size)
    (ha : LRel μ (szOf w) args args') (hf : Fresh μ h.next h1.next) :
    Calls P f args'.toArray w fun e w' => ∃ v' μ', e = .returned v' ∧ Post fl base rbase μ h w μ' h1 w' ∧ VRel μ' (szOf w') v v' := by
  unfold okFunc at ok
  split at ok
  · rename_i fd hfd
    simp only [Bool.and_eq_true, beq_iff_eq] at ok
    obtain ⟨⟨⟨_, k1⟩, k2⟩, k3⟩ := ok
    split at k1
    · rename_i c hc
      refine calls_of_wp hfd hc ?_
      unfold runF at e
      have ht : LRel μ (szOf w) (args ++ List.replicate (af.ntmps - args.length) undef) (args'.toArray ++ Array.replicate (fd.ntmps - args'.toArray.size) undef).toList := by
        simp only [Array.toList_append, Array.toList_replicate, List.size_toArray]
        rw [k2, ← ha.1]
        refine ha.append ⟨by simp, fun i h1 h2 => ?_⟩
        rw [List.getElem_replicate]
        exact .poison _
      have g : Good fl base rbase h1.next μ h w μ h w (args ++ List.replicate (af.ntmps - args.length) undef) { tmps := args'.toArray ++ Array.replicate (fd.ntmps - args'.toArray.size) undef, defers := [] } :=
        ⟨Post.refl sm, ⟨sm, hb, hfl, hr, ht⟩, rfl, hf⟩
      have fin : ∀ {s' : List Value} {h' : AH} {a' : Act} {w' : World} {μ' : Mu}, resK af.results s' h' (fun vs => some (tupV vs, h')) = some (v, h1) → Good fl base rbase h1.next μ h w μ' h' w' s' a' →
          ∃ v', (results fd a'.tmps).run P w' = .ok v' w' ∧ ∃ v'' μ'', Ending.returned v' = .returned v'' ∧ Post fl base rbase μ h w μ'' h1 w' ∧ VRel μ'' (szOf w') v v'' := by
        intro s' h' a' w' μ' he g'
        unfold results
        have key : ∀ (g : ResultVar → Sem Value), (∀ t, g (.tmp t) = Pure.pure (a'.tmps.getD t undef)) → (∀ x ty, g (.cell x ty) = (do loadVar ty (← asAddr (a'.tmps.getD x undef)))) →
            ∃ v', (do let vs ← fd.results.mapM g; Pure.pure (if h : vs.size = 1 then vs[0] else Value.tuple vs) : Sem Value).run P w' = .ok v' w' ∧ Post fl base rbase μ h w μ' h1 w' ∧ VRel μ' (szOf w') v v' := by
          intro g hg1 hg2
          obtain ⟨vs, vs', q1, q2, q3⟩ := resK_sound g'.ctx.sim g'.ctx.t g hg1 hg2 fd.results.toList af.results _ k3 he
          simp only [Option.some.injEq, Prod.mk.injEq] at q1
          obtain ⟨rfl, rfl⟩ := q1
          refine ⟨_, ?_, g'.post, tupV_rel q3⟩
          rw [Array.mapM_eq_mapM_toList]
          simp only [Sem.run_bind, Sem.run_map, q2, Result.andThen_ok, Sem.run_pure, List.toArray]
        obtain ⟨v', p1, p2, p3⟩ := key (fun x => match x with | .tmp t => Pure.pure (a'.tmps.getD t undef) | .cell a t => do loadVar t (← asAddr (a'.tmps.getD a undef))) (fun t => rfl) (fun x ty => rfl)
        exact ⟨v', p1, v', μ', rfl, p2, p3⟩
      have finN : ∀ {s' : List Value} {h' : AH}, resK af.results s' h' (fun vs => some (tupV vs, h')) = some (v, h1) → h'.next ≤ h1.next := by
        intro s' h' he
        obtain ⟨vs, hvs⟩ := resK_any af.results he
        simp only [Option.some.injEq, Prod.mk.injEq] at hvs
        rw [hvs.2]; exact Nat.le_refl _
      refine code_sound (r := (v, h1)) hC hm c af.body k1 (K := finalK af.results) ?_ _ h _ w μ e g ?_
      · intro f s' h' he
        cases f with
        | normal => exact finN he
        | ret => exact finN he
        | exit i => cases he
      · intro f s' h' a' w' μ' he g'
        cases f with
        | normal =>
          obtain ⟨v', p1, v'', μ'', p2⟩ := fin he g'
          exact ⟨g'.dfr, v', p1, v'', μ'', p2⟩
        | ret =>
          obtain ⟨v', p1, v'', μ'', p2⟩ := fin he g'
          exact ⟨g'.dfr, v', p1, v'', μ'', p2⟩
        | exit i => cases he
    · cases k1
  · cases ok

theorem cexec_astep {R : Type} {r : R} {C : Callee} (hC : CAbs C) {fl k : Nat} : ∀ (ac : ACode) {s : List Value} {h : AH} {K : Flow → List Value → AH → Option R}, cexec C fl k ac s h K = some r → ∃ f s' h', AStep fl h h' ∧ K f s' h' = some r
  | .skip, s, h, K, e => ⟨.normal, s, h, AStep.refl _ _, e⟩
  | .exit id, s, h, K, e => ⟨.exit id, s, h, AStep.refl _ _, e⟩
  | .ret, s, h, K, e => ⟨.ret, s, h, AStep.refl _ _, e⟩
  | .seq x y, s, h, K, e => by
    simp only [cexec] at e
    obtain ⟨f, s', h', h1, e⟩ := cexec_astep hC x e
    cases f with
    | normal =>
      obtain ⟨f2, s2, h2, h3, e2⟩ := cexec_astep hC y e
      exact ⟨f2, s2, h2, h1.trans h3 (Nat.le_refl _), e2⟩
    | exit i => exact ⟨_, s', h', h1, e⟩
    | ret => exact ⟨_, s', h', h1, e⟩
  | .cond c x y, s, h, K, e => by
    simp only [cexec] at e
    obtain ⟨t, _, e⟩ := asBool_some e
    split at e
    · exact cexec_astep hC x e
    · exact cexec_astep hC y e
  | .block id x, s, h, K, e => by
    simp only [cexec] at e
    obtain ⟨f, s', h', h1, e⟩ := cexec_astep hC x e
    cases f with
    | normal => exact ⟨_, s', h', h1, e⟩
    | exit i =>
      simp only at e
      split at e
      · exact ⟨_, s', h', h1, e⟩
      · exact ⟨_, s', h', h1, e⟩
    | ret => exact ⟨_, s', h', h1, e⟩
  | .loop x, s, h, K, e => by
    simp only [cexec] at e
    have key : ∀ (n : Nat) (s : List Value) (h : AH), loopK n (fun s h next => cexec C fl k x s h fun f s h => match f with
        | .normal => next s h
        | .exit i => K (.exit i) s h
        | .ret => K .ret s h) s h = some r → ∃ f s' h', AStep fl h h' ∧ K f s' h' = some r := by
      intro n
      induction n with
      | zero => intro s h e; simp [loopK] at e
      | succ n ih =>
        intro s h e
        simp only [loopK] at e
        obtain ⟨f, s', h', h1, e⟩ := cexec_astep hC x e
        cases f with
        | normal =>
          obtain ⟨f2, s2, h2, h3, e2⟩ := ih s' h' e
          exact ⟨f2, s2, h2, h1.trans h3 (Nat.le_refl _), e2⟩
        | exit i => exact ⟨_, s', h', h1, e⟩
        | ret => exact ⟨_, s', h', h1, e⟩
    exact key k s h e
  | .region al kill, s, h, K, e => by
    simp only [cexec] at e
    obtain ⟨s', h', q1, q2⟩ := regG_next (K := fun s h => K .normal (killT kill s) h) hC e
    exact ⟨.normal, _, h', q1, q2⟩

/-- What stands behind the functions without code. -/
theorem acall_sound (hm : P.follows .mixedOrders = true) (hE : CSound P E) (hT : ∀ f af, T f = some af → okFunc P f af = true) : ∀ k, CSound P (acall T E k)
  | 0 => { step := fun fl f args h v h1 e => by simp [acall] at e, fn := fun fl f args h v h1 e => by simp [acall] at e, sound := fun fl f args h v h1 e => by simp [acall] at e }
  | k + 1 => by
    have ih := acall_sound hm hE hT k
    refine { step := ?_, fn := ?_, sound := ?_ }
    · intro fl f args h v h1 e
      simp only [acall] at e
      split at e
      · rename_i af haf
        unfold runF at e
        obtain ⟨fw, s', h', a1, e2⟩ := cexec_astep ih.toCAbs _ e
        cases fw with
        | normal => obtain ⟨vs, e3⟩ := resK_any _ e2; simp only [Option.some.injEq, Prod.mk.injEq] at e3; rw [← e3.2]; exact a1
        | ret => obtain ⟨vs, e3⟩ := resK_any _ e2; simp only [Option.some.injEq, Prod.mk.injEq] at e3; rw [← e3.2]; exact a1
        | exit i => cases e2
      · exact hE.step _ _ _ _ _ _ e
    · intro fl f args h v h1 e
      simp only [acall] at e
      split at e
      · rename_i af haf
        have ok := hT f af haf
        unfold okFunc at ok
        split at ok
        · rename_i fd hfd
          simp only [Bool.and_eq_true, Bool.not_eq_true', beq_iff_eq] at ok
          refine ⟨fd, hfd, ok.1.1.1, ?_⟩
          have := ok.1.1.2
          split at this
          · rename_i c hc; rw [hc]; rfl
          · cases this
        · cases ok
      · exact hE.fn _ _ _ _ _ _ e
    · intro fl f args h v h1 e base rbase μ w args' sm hb hfl hr ha hf
      simp only [acall] at e
      split at e
      · rename_i af haf
        exact runF_sound ih hm (hT f af haf) e sm hb hfl hr ha hf
      · exact hE.sound _ _ _ _ _ _ e base rbase μ w args' sm hb hfl hr ha hf

/-- No function without code answers. -/
def noE : Callee := fun _ _ _ _ => none
theorem noE_sound : CSound P noE := { step := fun fl f args h v h1 e => (by simp [noE] at e), fn := fun fl f args h v h1 e => (by simp [noE] at e), sound := fun fl f args h v h1 e => (by simp [noE] at e) }
end
end Go.Abs
