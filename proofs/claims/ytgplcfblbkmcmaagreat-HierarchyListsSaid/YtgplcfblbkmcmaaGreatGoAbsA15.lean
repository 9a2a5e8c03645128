/- Code of the abstract machine is the machine's own; functions; calls. -/
import Derived.Test.YtgplcfblbkmcmaaGreatGoAbsA14
import Derived.LoopN
namespace Go.Abs

def okCode (P : Program) : Code → ACode → Bool
  | .skip, .skip => true
  | .seq a b, .seq x y => okCode P a x && okCode P b y
  | .cond c a b, .cond c' x y => okOpd c c' && (okCode P a x && okCode P b y)
  | .block i a, .block j x => i == j && okCode P a x
  | .loop a, .loop x => okCode P a x
  | .exit i, .exit j => i == j
  | .exit i, .seq (.region [] _) (.exit j) => i == j
  | .ret, .ret => true
  | .ret, .seq (.region [] _) .ret => true
  | .skip, .region [] _ => true
  | .region _ ops draw, .region al _ => al.all okItem && (okOpers P ops ops.toList (flat al) && (!draw || okDraw ops (flat al)))
  | _, _ => false

def toExit : Flow → Exit
  | .normal => .normal
  | .exit i => .exit i
  | .ret => .ret

section
variable {P : Program} {C : Callee} {fl base rbase : Nat}

theorem okOpers_len {ops : Array Oper} : ∀ {l : List Oper} {al : List AOper}, okOpers P ops l al = true → al.length = l.length
  | [], [], _ => rfl
  | o :: os, x :: xs, h => by
    simp only [okOpers, Bool.and_eq_true] at h
    simp [okOpers_len h.2]
  | [], _ :: _, h => by simp [okOpers] at h
  | _ :: _, [], h => by simp [okOpers] at h
theorem okOpers_at {ops : Array Oper} : ∀ {l : List Oper} {al : List AOper}, okOpers P ops l al = true → ∀ (i : Nat) o x, l[i]? = some o → al[i]? = some x → okA P ops o x = true
  | [], [], _, i, o, x, h, _ => by simp at h
  | o :: os, x :: xs, h, i, o', x', ho, hx => by
    simp only [okOpers, Bool.and_eq_true] at h
    cases i with
    | zero => simp at ho hx; subst ho; subst hx; exact h.1
    | succ i => exact okOpers_at h.2 i o' x' (by simpa using ho) (by simpa using hx)
  | [], _ :: _, h, _, _, _, _, _ => by simp [okOpers] at h
  | _ :: _, [], h, _, _, _, _, _ => by simp [okOpers] at h

/-- The machine's state at a place of the code. -/
structure Good (fl base rbase hend : Nat) (μ0 : Mu) (h0 : AH) (w0 : World) (μ : Mu) (h : AH) (w : World) (s : List Value) (a : Act) : Prop where
  post : Post fl base rbase μ0 h0 w0 μ h w
  ctx : Ctx fl base rbase μ h w s a
  dfr : a.defers = []
  fresh : Fresh μ h.next hend

variable {hend : Nat} {μ0 : Mu} {h0 : AH} {w0 : World}

theorem Good.next {R : Type} {r : R} {μ μ' h h' w w' s s'} {a a' : Act} (g : Good fl base rbase hend μ0 h0 w0 μ h w s a) (p : Post fl base rbase μ h w μ' h' w') (t : LRel μ' (szOf w') s' a'.tmps.toList) (hd : a'.defers = a.defers) : Good fl base rbase hend μ0 h0 w0 μ' h' w' s' a' :=
  ⟨g.post.trans p (Nat.le_refl _), ⟨p.sim, g.ctx.hb, Nat.le_trans g.ctx.hfl p.nx, Nat.le_trans g.ctx.hr p.hs, t⟩, by rw [hd, g.dfr], p.fresh g.fresh⟩

theorem kill_rel {μ sz} : ∀ (ts : List Nat) {s l : List Value}, LRel μ sz s l → LRel μ sz (killT ts s) l
  | [], _, _, h => h
  | t :: ts, s, l, h => by
    refine kill_rel ts ?_
    refine LRel.of_get (by simp [h.1]) fun i v hv => ?_
    rw [List.getElem?_set] at hv
    by_cases e : t = i
    · simp only [e, if_true] at hv
      split at hv
      · rename_i hlt
        injection hv with hv; subst hv
        exact ⟨l[i]'(by have := h.1; omega), List.getElem?_eq_getElem _, .poison _⟩
      · cases hv
    · simp only [e, if_false] at hv
      exact h.get hv

theorem draw_region {R : Type} {r : R} (hC : CSound P C) (hm : P.follows .mixedOrders = true) {id : Nat} {ops : Array Oper} {al : List AOper} (ok1 : okOpers P ops ops.toList al = true) (ok2 : okDraw ops al = true)
    {K : List Value → AH → Option R} (hK : ∀ s h, K s h = some r → h.next ≤ hend) {s : List Value} {h : AH} {a : Act} {w : World} {μ : Mu} {Q : Exit → Act → World → Prop} (e : regK C fl al s h K = some r)
    (g : Good fl base rbase hend μ0 h0 w0 μ h w s a) (hQ : ∀ s' h' a' w' μ', K s' h' = some r → Good fl base rbase hend μ0 h0 w0 μ' h' w' s' a' → Q .normal a' w') : (Code.region id ops true).wp P Q a w := by
  obtain ⟨S, H, V, s0, e0, hrun, hk⟩ := reg_run e
  unfold okDraw at ok2
  simp only [Bool.and_eq_true] at ok2
  have hl := okOpers_len ok1
  have hlen : al.length = ops.size := by rw [hl]; simp
  have d : DR P C fl base rbase ops al S H V := {
    hC := hC, len := hlen
    ok := fun i o x ho hx => okOpers_at ok1 i o x (by simpa using ho) hx
    edge := fun i o ho e he hb => by
      have := edgesOk_spec ok2.1 i o (by simpa using ho) e he hb
      omega
    ord := fun E hE i j x y hij hx hy hmo hEj => by
      have h1 := pairsOk_spec ok2.2 i j x y hij hx hy hmo
      rw [Nat.zero_add] at h1
      refine befs_spec (E := E) ops.toList [] (fun j i hb => by simp at hb) (fun j o ho hj => ?_) j i h1 hEj
      exact hE j o (by simpa using ho) (by simpa using hj)
    run := hrun
    fl0 := by rw [e0]; exact g.ctx.hfl
    wf0 := by rw [e0]; exact g.ctx.sim.bnd
    hb := g.ctx.hb }
  refine wp_region_any hm ?_
  have p1 : Post fl base rbase μ h w μ h { w with drawn := w.drawn + 1 } := Post.heap g.ctx.sim rfl rfl rfl rfl
  obtain ⟨p, q1, q2, q3, q4⟩ := next_iso al al.length 0 (by omega)
  have hq := d.quiet (i := 0) q1 q2 fun k y k1 k2 hy => q4 k y k1 k2 hy
  have hnend : (H al.length).next ≤ hend := hK _ _ hk
  have hfr : Fresh μ (H 0).next hend := by rw [e0]; exact g.fresh
  have hsim0 : Sim base rbase μ (H 0) { w with drawn := w.drawn + 1 } := by rw [e0]; exact p1.sim
  have hg : Post fl base rbase μ (H 0) { w with drawn := w.drawn + 1 } μ (H p) { w with drawn := w.drawn + 1 } :=
    Post.garbage hsim0 hq (d.wf q2) (hfr.sub (Nat.le_refl _) (Nat.le_trans (d.mono (i := p) (j := al.length) q2 (Nat.le_refl _)) hnend))
  have p1' : Post fl base rbase μ (H 0) w μ (H 0) { w with drawn := w.drawn + 1 } := by rw [e0]; exact p1
  have hL : ∀ i, ¬ (Array.replicate ops.size false).getD i false = true := by
    intro i
    rw [Array.getD_eq_getD_getElem?, Array.getElem?_replicate]
    split <;> simp
  have v : DInv d μ w a hend (Array.replicate ops.size false) a { w with drawn := w.drawn + 1 } μ s p := {
    size := by simp
    dc := fun k o _ hk => absurd hk (hL k)
    dfr := rfl
    t := p1.lrel g.ctx.sim (fun b h1 h2 => by omega) g.ctx.t
    cut := fun t => ⟨0, Nat.zero_le _, fun i x _ _ hi => absurd hi (hL i), fun i x _ _ _ => Nat.zero_le _, by rw [s0]⟩
    ple := q2
    pat := fun x hx => ⟨q3 x hx, hL p⟩
    plt := fun i x hi hx hiso => absurd hiso (q4 i x (Nat.zero_le _) hi hx)
    post := p1'.trans hg (Nat.le_refl _)
    fresh := fun i hi _ => hfr.sub (d.mono (i := 0) (j := i) (Nat.zero_le _) (by omega)) (Nat.le_trans (d.mono (i := i + 1) (j := al.length) (by omega) (Nat.le_refl _)) hnend)
    frend := hfr.sub (d.mono (i := 0) (j := al.length) (Nat.zero_le _) (Nat.le_refl _)) (Nat.le_refl _)
    hr := g.ctx.hr }
  refine draw_any (d := d) (μ0 := μ) (w0 := w) (a0 := a) (hend := hend) (fun a' w' μ' ht hd hp => ?_) ops.size _ a _ μ s p v (by rw [s0]) ?_
  · rw [e0] at hp
    exact hQ _ _ a' w' μ' hk (g.next (r := r) hp ht hd)
  · unfold left
    exact Nat.le_trans List.countP_le_length (by simp)

/-! ### code -/
theorem AStep.any {fl : Nat} {h h1 : AH} (a : AStep h.next h h1) : AStep fl h h1 := ⟨a.1, fun b hb _ => a.2.1 b hb hb, a.2.2⟩
theorem opK_step {C : Callee} (hC : CAbs C) {fl} {o : AOper} {s h v h1} (e : opK C (if o.iso = true then fl else h.next) s h o.op K0 = some (v, h1)) : AStep fl h h1 := by
  have := op_astep hC e
  split at this
  · exact this
  · exact this.any
theorem regN_next {R : Type} {r : R} {C : Callee} (hC : CAbs C) {fl : Nat} : ∀ {os : List AOper} {s h} {K : List Value → AH → Option R}, regN C fl os s h K = some r → ∃ s' h', AStep fl h h' ∧ K s' h' = some r
  | [], s, h, K, e => ⟨s, h, AStep.refl _ _, e⟩
  | o :: os, s, h, K, e => by
    simp only [regN] at e
    obtain ⟨v, h1, g1, g2⟩ := opK_split e
    obtain ⟨s', h', a2, g3⟩ := regN_next hC g2
    exact ⟨s', h', (opK_step hC g1).trans a2 (Nat.le_refl _), g3⟩
theorem regG_next {R : Type} {r : R} {C : Callee} (hC : CAbs C) {fl : Nat} : ∀ {is : List AItem} {s h} {K : List Value → AH → Option R}, regG C fl is s h K = some r → ∃ s' h', AStep fl h h' ∧ K s' h' = some r
  | [], s, h, K, e => ⟨s, h, AStep.refl _ _, e⟩
  | .op o :: is, s, h, K, e => by
    simp only [regG] at e
    obtain ⟨v, h1, g1, g2⟩ := opK_split e
    obtain ⟨s', h', a2, g3⟩ := regG_next hC g2
    exact ⟨s', h', (opK_step hC g1).trans a2 (Nat.le_refl _), g3⟩
  | .grp g want os :: is, s, h, K, e => by
    simp only [regG] at e
    rcases asG_some e with ⟨b, hb, e⟩ | ⟨x, y, hb, e⟩
    case inr => exact regG_next hC e
    split at e
    · obtain ⟨s1, h1, a1, e⟩ := regN_next hC e
      obtain ⟨s', h', a2, g3⟩ := regG_next hC e
      exact ⟨s', h', a1.trans a2 (Nat.le_refl _), g3⟩
    · exact regG_next hC e

theorem cexec_next {R : Type} {r : R} (hC : CAbs C) {k : Nat} : ∀ (ac : ACode) {s : List Value} {h : AH} {K : Flow → List Value → AH → Option R}, cexec C fl k ac s h K = some r → ∃ f s' h', h.next ≤ h'.next ∧ K f s' h' = some r
  | .skip, s, h, K, e => ⟨.normal, s, h, Nat.le_refl _, e⟩
  | .exit id, s, h, K, e => ⟨.exit id, s, h, Nat.le_refl _, e⟩
  | .ret, s, h, K, e => ⟨.ret, s, h, Nat.le_refl _, e⟩
  | .seq x y, s, h, K, e => by
    simp only [cexec] at e
    obtain ⟨f, s', h', h1, e⟩ := cexec_next hC x e
    cases f with
    | normal =>
      obtain ⟨f2, s2, h2, h3, e2⟩ := cexec_next hC y e
      exact ⟨f2, s2, h2, Nat.le_trans h1 h3, e2⟩
    | exit i => exact ⟨_, s', h', h1, e⟩
    | ret => exact ⟨_, s', h', h1, e⟩
  | .cond c x y, s, h, K, e => by
    simp only [cexec] at e
    obtain ⟨t, _, e⟩ := asBool_some e
    split at e
    · exact cexec_next hC x e
    · exact cexec_next hC y e
  | .block id x, s, h, K, e => by
    simp only [cexec] at e
    obtain ⟨f, s', h', h1, e⟩ := cexec_next hC x e
    cases f with
    | normal => exact ⟨_, s', h', h1, e⟩
    | exit i =>
      simp only at e
      split at e
      · exact ⟨_, s', h', h1, e⟩
      · exact ⟨_, s', h', h1, e⟩
    | ret => exact ⟨_, s', h', h1, e⟩
  | .loop x, s, h, K, e => by
    simp only [cexec] at e
    have key : ∀ (n : Nat) (s : List Value) (h : AH), loopK n (fun s h next => cexec C fl k x s h fun f s h => match f with
        | .normal => next s h
        | .exit i => K (.exit i) s h
        | .ret => K .ret s h) s h = some r → ∃ f s' h', h.next ≤ h'.next ∧ K f s' h' = some r := by
      intro n
      induction n with
      | zero => intro s h e; simp [loopK] at e
      | succ n ih =>
        intro s h e
        simp only [loopK] at e
        obtain ⟨f, s', h', h1, e⟩ := cexec_next hC x e
        cases f with
        | normal =>
          obtain ⟨f2, s2, h2, h3, e2⟩ := ih s' h' e
          exact ⟨f2, s2, h2, Nat.le_trans h1 h3, e2⟩
        | exit i => exact ⟨_, s', h', h1, e⟩
        | ret => exact ⟨_, s', h', h1, e⟩
    exact key k s h e
  | .region al kill, s, h, K, e => by
    simp only [cexec] at e
    obtain ⟨s', h', q1, q2⟩ := regG_next hC e
    exact ⟨.normal, _, h', q1.1, q2⟩

theorem code_sound {R : Type} {r : R} (hC : CSound P C) (hm : P.follows .mixedOrders = true) {k : Nat} : ∀ (code : Code) (ac : ACode), okCode P code ac = true →
    ∀ {K : Flow → List Value → AH → Option R} {Q : Exit → Act → World → Prop}, (∀ f s h, K f s h = some r → h.next ≤ hend) →
    ∀ (s : List Value) (h : AH) (a : Act) (w : World) (μ : Mu), cexec C fl k ac s h K = some r → Good fl base rbase hend μ0 h0 w0 μ h w s a →
    (∀ f s' h' a' w' μ', K f s' h' = some r → Good fl base rbase hend μ0 h0 w0 μ' h' w' s' a' → Q (toExit f) a' w') → code.wp P Q a w := by
  intro code
  induction code with
  | skip =>
    intro ac ok K Q hK s h a w μ e g hQ
    cases ac <;> try (simp only [okCode, Bool.false_eq_true] at ok; done)
    · exact wp_skip (hQ .normal s h a w μ e g)
    · rename_i al kill
      cases al with
      | nil => exact wp_skip (hQ .normal _ h a w μ e ⟨g.post, ⟨g.ctx.sim, g.ctx.hb, g.ctx.hfl, g.ctx.hr, kill_rel kill g.ctx.t⟩, g.dfr, g.fresh⟩)
      | cons x xs => simp [okCode] at ok
  | exit id =>
    intro ac ok K Q hK s h a w μ e g hQ
    unfold okCode at ok
    split at ok
    all_goals try (rename_i h1; cases h1; done)
    · rename_i i j h1; cases h1
      simp only [beq_iff_eq] at ok
      subst ok
      exact wp_exit (hQ (.exit _) s h a w μ e g)
    · rename_i i kill j h1; cases h1
      simp only [beq_iff_eq] at ok
      subst ok
      exact wp_exit (hQ (.exit _) _ h a w μ e ⟨g.post, ⟨g.ctx.sim, g.ctx.hb, g.ctx.hfl, g.ctx.hr, kill_rel kill g.ctx.t⟩, g.dfr, g.fresh⟩)
    · cases ok
  | ret =>
    intro ac ok K Q hK s h a w μ e g hQ
    unfold okCode at ok
    split at ok
    all_goals try (rename_i h1; cases h1; done)
    · exact wp_ret (hQ .ret s h a w μ e g)
    · exact wp_ret (hQ .ret _ h a w μ e ⟨g.post, ⟨g.ctx.sim, g.ctx.hb, g.ctx.hfl, g.ctx.hr, kill_rel _ g.ctx.t⟩, g.dfr, g.fresh⟩)
    · cases ok
  | seq x y ihx ihy =>
    intro ac ok K Q hK s h a w μ e g hQ
    cases ac <;> simp only [okCode, Bool.false_eq_true, Bool.and_eq_true] at ok
    rename_i x' y'
    simp only [cexec] at e
    refine wp_seq (ihx x' ok.1 ?_ s h a w μ e g ?_)
    · intro f s h e
      cases f with
      | normal =>
        obtain ⟨f2, s2, h2, h3, e2⟩ := cexec_next hC.toCAbs y' e
        exact Nat.le_trans h3 (hK _ _ _ e2)
      | exit i => exact hK _ _ _ e
      | ret => exact hK _ _ _ e
    · intro f s' h' a' w' μ' e g'
      cases f with
      | normal => exact ihy y' ok.2 hK s' h' a' w' μ' e g' hQ
      | exit i => exact hQ _ _ _ _ _ _ e g'
      | ret => exact hQ _ _ _ _ _ _ e g'
  | cond c x y ihx ihy =>
    intro ac ok K Q hK s h a w μ e g hQ
    cases ac <;> simp only [okCode, Bool.false_eq_true, Bool.and_eq_true] at ok
    rename_i c' x' y'
    simp only [cexec] at e
    obtain ⟨t, ht, e⟩ := asBool_some e
    have rr := opd_rel g.ctx.t ok.1
    rw [ht] at rr
    refine wp_cond (t := t) rr.bool_inv ?_
    cases t with
    | true => exact ihx x' ok.2.1 hK s h a w μ (by simpa using e) g hQ
    | false => exact ihy y' ok.2.2 hK s h a w μ (by simpa using e) g hQ
  | block id x ihx =>
    intro ac ok K Q hK s h a w μ e g hQ
    cases ac <;> simp only [okCode, Bool.false_eq_true, Bool.and_eq_true, beq_iff_eq] at ok
    rename_i id' x'
    obtain ⟨rfl, ok⟩ := ok
    simp only [cexec] at e
    refine wp_block (ihx x' ok ?_ s h a w μ e g ?_)
    · intro f s h e
      cases f with
      | normal => exact hK _ _ _ e
      | exit i =>
        simp only at e
        split at e <;> exact hK _ _ _ e
      | ret => exact hK _ _ _ e
    · intro f s' h' a' w' μ' e g'
      cases f with
      | normal => exact hQ _ _ _ _ _ _ e g'
      | exit i =>
        simp only [toExit, Exit.inBlock]
        simp only at e
        split at e
        · rename_i hi; rw [if_pos hi]; exact hQ _ _ _ _ _ _ e g'
        · rename_i hi; rw [if_neg hi]; exact hQ _ _ _ _ _ _ e g'
      | ret => exact hQ _ _ _ _ _ _ e g'
  | loop x ihx =>
    intro ac ok K Q hK s h a w μ e g hQ
    cases ac <;> simp only [okCode, Bool.false_eq_true] at ok
    rename_i x'
    simp only [cexec] at e
    have hnx : ∀ (n : Nat) (s : List Value) (h : AH), loopK n (fun s h next => cexec C fl k x' s h fun f s h => match f with
        | .normal => next s h
        | .exit i => K (.exit i) s h
        | .ret => K .ret s h) s h = some r → h.next ≤ hend := by
      intro n
      induction n with
      | zero => intro s h e; simp [loopK] at e
      | succ n ih =>
        intro s h e
        simp only [loopK] at e
        obtain ⟨f, s', h', h1, e⟩ := cexec_next hC.toCAbs x' e
        cases f with
        | normal => exact Nat.le_trans h1 (ih s' h' e)
        | exit i => exact Nat.le_trans h1 (hK _ _ _ e)
        | ret => exact Nat.le_trans h1 (hK _ _ _ e)
    have key : ∀ (n : Nat) (s : List Value) (h : AH) (a : Act) (w : World) (μ : Mu), loopK n (fun s h next => cexec C fl k x' s h fun f s h => match f with
        | .normal => next s h
        | .exit i => K (.exit i) s h
        | .ret => K .ret s h) s h = some r → Good fl base rbase hend μ0 h0 w0 μ h w s a → Code.rounds P x Q n a w := by
      intro n
      induction n with
      | zero => intro s h a w μ e; simp [loopK] at e
      | succ n ih =>
        intro s h a w μ e g
        simp only [loopK] at e
        rw [rounds_succ]
        refine ihx x' ok ?_ s h a w μ e g ?_
        · intro f s h e
          cases f with
          | normal => exact hnx n s h e
          | exit i => exact hK _ _ _ e
          | ret => exact hK _ _ _ e
        · intro f s' h' a' w' μ' e g'
          cases f with
          | normal => exact ih s' h' a' w' μ' e g'
          | exit i => exact hQ _ _ _ _ _ _ e g'
          | ret => exact hQ _ _ _ _ _ _ e g'
    exact wp_loop_rounds k (key k s h a w μ e g)
  | region id ops draw =>
    intro ac ok K Q hK s h a w μ e g hQ
    cases ac <;> simp only [okCode, Bool.false_eq_true, Bool.and_eq_true, Bool.or_eq_true, Bool.not_eq_true'] at ok
    rename_i al kill
    obtain ⟨okI, ok⟩ := ok
    simp only [cexec] at e
    have e := regK_of_regG okI e
    have hK' : ∀ s h, K .normal (killT kill s) h = some r → h.next ≤ hend := fun s h => hK _ _ _
    have hkill : ∀ {μ' h' w' s'} {a' : Act}, Good fl base rbase hend μ0 h0 w0 μ' h' w' s' a' → Good fl base rbase hend μ0 h0 w0 μ' h' w' (killT kill s') a' := fun g =>
      ⟨g.post, ⟨g.ctx.sim, g.ctx.hb, g.ctx.hfl, g.ctx.hr, kill_rel kill g.ctx.t⟩, g.dfr, g.fresh⟩
    cases draw with
    | true =>
      rcases ok.2 with h1 | h1
      · cases h1
      · exact draw_region hC hm ok.1 h1 hK' e g fun s' h' a' w' μ' hk g' => hQ .normal _ _ _ _ _ hk (hkill g')
    | false =>
      refine wp_region ?_
      have hr := reg_sound hC hK' (Q := Q) ops.toList (flat al) 0 (by simp) ok.1 s h a w μ e g.ctx g.fresh fun s' h' a' w' μ' hk hp ht hd => hQ .normal _ _ _ _ _ hk (hkill (g.next (r := r) hp ht hd))
      rw [List.range_eq_range']
      simpa using hr
  | rangeFunc f ps x y => intro ac ok; cases ac <;> simp [okCode] at ok
  | scope x => intro ac ok; cases ac <;> simp [okCode] at ok
  | label l => intro ac ok; cases ac <;> simp [okCode] at ok
  | goto l => intro ac ok; cases ac <;> simp [okCode] at ok
  | refuse w => intro ac ok; cases ac <;> simp [okCode] at ok
end
end Go.Abs
