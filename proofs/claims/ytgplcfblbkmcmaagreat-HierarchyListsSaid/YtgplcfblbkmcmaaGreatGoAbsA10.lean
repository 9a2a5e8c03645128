/- Regions in the order of their text. -/
import Derived.Test.YtgplcfblbkmcmaaGreatGoAbsA9
namespace Go.Abs

/-- One operation with its guard: its value, and the heap behind it. -/
def opV (C : Callee) (fl : Nat) (o : AOper) (s : List Value) (h : AH) : Option (Value × AH) := match o.guard with
  | none => opK C (if o.iso = true then fl else h.next) s h o.op K0
  | some (g, want) => asG (s.getD g undef) (fun b =>
    if b = want then opK C (if o.iso = true then fl else h.next) s h o.op K0 else some (skipv, h)) (some (skipv, h))

theorem regK_cons {R : Type} {r : R} {C fl o os s h} {K : List Value → AH → Option R} (e : regK C fl (o :: os) s h K = some r) :
    ∃ v h1, opV C fl o s h = some (v, h1) ∧ regK C fl os (putT s o.dst v) h1 K = some r := by
  simp only [regK] at e
  unfold opV
  split at e
  · rename_i hg
    obtain ⟨v, h1, g1, g2⟩ := opK_split e
    exact ⟨v, h1, by simp only [hg]; exact g1, g2⟩
  · rename_i g want hg
    rcases asG_some e with ⟨b, hb, e⟩ | ⟨x, y, hb, e⟩
    · simp only [hg, hb, asG]
      split at e
      · rename_i hw
        obtain ⟨v, h1, g1, g2⟩ := opK_split e
        exact ⟨v, h1, by rw [if_pos hw]; exact g1, g2⟩
      · rename_i hw
        exact ⟨skipv, h, by rw [if_neg hw], e⟩
    · simp only [hg, hb, asG]
      exact ⟨skipv, h, rfl, e⟩

/-! ### rows of operations under one guard -/
def okItem : AItem → Bool
  | .op _ => true
  | .grp g _ os => os.all fun o => decide (o.dst ≠ some g)

theorem set_same {s : List Value} {g : Nat} {b : Bool} (h : s.getD g undef = .bool b) : s.set g (.bool b) = s := by
  have hg : s[g]? = some (.bool b) := by
    rw [List.getD_eq_getElem?_getD] at h
    cases hq : s[g]? with
    | none => rw [hq] at h; cases h
    | some u => rw [hq] at h; simp at h; rw [h]
  apply List.ext_getElem?
  intro i
  rw [List.getElem?_set]
  by_cases e : g = i
  · subst e
    obtain ⟨hl, _⟩ := List.getElem?_eq_some_iff.1 hg
    rw [if_pos rfl, if_pos hl, hg]
  · rw [if_neg e]

theorem getD_putT {s : List Value} {g : Nat} {d : Option Nat} {v : Value} (h : d ≠ some g) : (putT s d v).getD g undef = s.getD g undef := by
  cases d with
  | none => rfl
  | some d =>
    have : d ≠ g := fun e => h (by rw [e])
    simp only [putT, List.getD_eq_getElem?_getD]
    rw [List.getElem?_set_ne this]

theorem regK_grp {R : Type} {r : R} {C fl} {g : Nat} {want : Bool} {rest : List AOper} {K : List Value → AH → Option R} : ∀ (os : List AOper) {s h}, (os.all fun o => decide (o.dst ≠ some g)) = true → s.getD g undef = .bool want →
    regN C fl os s h (fun s h => regK C fl rest s h K) = some r → regK C fl (withG g want os ++ rest) s h K = some r
  | [], s, h, _, _, e => e
  | o :: os, s, h, ok, hg, e => by
    simp only [List.all_cons, Bool.and_eq_true, decide_eq_true_eq] at ok
    simp only [regN] at e
    obtain ⟨v, h1, g1, g2⟩ := opK_split e
    simp only [withG, List.cons_append, regK, hg, asG, if_true]
    exact opK_join g1 (regK_grp os ok.2 (by rw [getD_putT ok.1]; exact hg) g2)
theorem regK_skips {R : Type} {r : R} {C fl} {g : Nat} {want b : Bool} (hb : b ≠ want) {rest : List AOper} {K : List Value → AH → Option R} : ∀ (os : List AOper) {s h}, (os.all fun o => decide (o.dst ≠ some g)) = true → s.getD g undef = .bool b →
    regK C fl rest (skips os s) h K = some r → regK C fl (withG g want os ++ rest) s h K = some r
  | [], s, h, _, _, e => e
  | o :: os, s, h, ok, hg, e => by
    simp only [List.all_cons, Bool.and_eq_true, decide_eq_true_eq] at ok
    simp only [skips] at e
    simp only [withG, List.cons_append, regK, hg, asG, if_neg hb]
    exact regK_skips hb os ok.2 (by rw [getD_putT ok.1]; exact hg) e
theorem regK_skips0 {R : Type} {r : R} {C fl} {g : Nat} {want : Bool} {x y} {rest : List AOper} {K : List Value → AH → Option R} : ∀ (os : List AOper) {s h}, (os.all fun o => decide (o.dst ≠ some g)) = true → s.getD g undef = .complex .f32 x y →
    regK C fl rest (skips os s) h K = some r → regK C fl (withG g want os ++ rest) s h K = some r
  | [], s, h, _, _, e => e
  | o :: os, s, h, ok, hg, e => by
    simp only [List.all_cons, Bool.and_eq_true, decide_eq_true_eq] at ok
    simp only [skips] at e
    simp only [withG, List.cons_append, regK, hg, asG]
    exact regK_skips0 os ok.2 (by rw [getD_putT ok.1]; exact hg) e
theorem regK_of_regG {R : Type} {r : R} {C fl} : ∀ {is : List AItem} {s h} {K : List Value → AH → Option R}, (is.all okItem) = true → regG C fl is s h K = some r → regK C fl (flat is) s h K = some r
  | [], s, h, K, _, e => e
  | .op o :: is, s, h, K, ok, e => by
    simp only [List.all_cons, Bool.and_eq_true] at ok
    simp only [regG] at e
    obtain ⟨v, h1, g1, g2⟩ := opK_split e
    simp only [flat, regK]
    exact opK_join g1 (regK_of_regG ok.2 g2)
  | .grp g want os :: is, s, h, K, ok, e => by
    simp only [List.all_cons, Bool.and_eq_true, okItem] at ok
    simp only [regG] at e
    simp only [flat]
    rcases asG_some e with ⟨b, hb, e⟩ | ⟨x, y, hb, e⟩
    case inr => exact regK_skips0 os ok.1 hb (regK_of_regG ok.2 e)
    split at e
    · rename_i hw
      subst hw
      rw [set_same hb] at e
      refine regK_grp os ok.1 hb ?_
      -- what follows the row
      have : ∀ (os : List AOper) {s h}, regN C fl os s h (fun s h => regG C fl is s h K) = some r → regN C fl os s h (fun s h => regK C fl (flat is) s h K) = some r := by
        intro os
        induction os with
        | nil => intro s h e; exact regK_of_regG ok.2 e
        | cons o os ih =>
          intro s h e
          simp only [regN] at e ⊢
          obtain ⟨v, h1, g1, g2⟩ := opK_split e
          exact opK_join g1 (ih g2)
      exact this os e
    · rename_i hw
      have hnb : (!want) = b := by cases b <;> cases want <;> simp at hw ⊢
      rw [hnb, set_same hb] at e
      exact regK_skips hw os ok.1 hb (regK_of_regG ok.2 e)

/-! The other way: what the operations come to one by one. -/
theorem regN_of_regK {R : Type} {r : R} {C fl} {g : Nat} {want : Bool} {rest : List AOper} {K : List Value → AH → Option R} : ∀ (os : List AOper) {s h}, (os.all fun o => decide (o.dst ≠ some g)) = true → s.getD g undef = .bool want →
    regK C fl (withG g want os ++ rest) s h K = some r → regN C fl os s h (fun s h => regK C fl rest s h K) = some r
  | [], s, h, _, _, e => e
  | o :: os, s, h, ok, hg, e => by
    simp only [List.all_cons, Bool.and_eq_true, decide_eq_true_eq] at ok
    simp only [withG, List.cons_append, regK, hg, asG, if_true] at e
    obtain ⟨v, h1, g1, g2⟩ := opK_split e
    simp only [regN]
    exact opK_join g1 (regN_of_regK os ok.2 (by rw [getD_putT ok.1]; exact hg) g2)
theorem skips_of_regK {R : Type} {r : R} {C fl} {g : Nat} {want b : Bool} (hb : b ≠ want) {rest : List AOper} {K : List Value → AH → Option R} : ∀ (os : List AOper) {s h}, (os.all fun o => decide (o.dst ≠ some g)) = true → s.getD g undef = .bool b →
    regK C fl (withG g want os ++ rest) s h K = some r → regK C fl rest (skips os s) h K = some r
  | [], s, h, _, _, e => e
  | o :: os, s, h, ok, hg, e => by
    simp only [List.all_cons, Bool.and_eq_true, decide_eq_true_eq] at ok
    simp only [withG, List.cons_append, regK, hg, asG, if_neg hb] at e
    simp only [skips]
    exact skips_of_regK hb os ok.2 (by rw [getD_putT ok.1]; exact hg) e

def floorOf (o : AOper) (fl : Nat) (h : AH) : Nat := if o.iso = true then fl else h.next
theorem floorOf_ge {o fl} {h : AH} (hf : fl ≤ h.next) : fl ≤ floorOf o fl h := by unfold floorOf; split <;> omega
theorem floorOf_le {o fl} {h : AH} (hf : fl ≤ h.next) : floorOf o fl h ≤ h.next := by unfold floorOf; split <;> omega

theorem opV_astep {C : Callee} (hC : CAbs C) {fl o s h v h1} (e : opV C fl o s h = some (v, h1)) : AStep (floorOf o fl h) h h1 := by
  unfold opV at e
  split at e
  · exact op_astep hC e
  · rcases asG_some e with ⟨b, _, e⟩ | ⟨x, y, _, e⟩
    · split at e
      · exact op_astep hC e
      · simp only [Option.some.injEq, Prod.mk.injEq] at e
        rw [← e.2]; exact AStep.refl _ _
    · simp only [Option.some.injEq, Prod.mk.injEq] at e
      rw [← e.2]; exact AStep.refl _ _

/-- The check of an operation with its guard, in its region. -/
def okA (P : Program) (ops : Array Oper) (o : Oper) (ao : AOper) : Bool :=
  decide (o.dst = ao.dst) && okOp' P o.op ao.op && (match o.guard, ao.guard with
    | none, none => true
    | some (j, want), some (t, want') => (want == want') && decide ((ops[j]?).bind (·.dst) = some t)
    | _, _ => false)

section
variable {P : Program} {C : Callee} {fl base rbase : Nat} {μ : Mu} {h h1 : AH} {w : World} {s : List Value} {a : Act} {v : Value} {o : Oper} {ao : AOper} {ops : Array Oper}

theorem wpOp_sound (hC : CSound P C) {i : Nat} (hi : ops[i]? = some o) (ok : okA P ops o ao = true) (c : Ctx (floorOf ao fl h) base rbase μ h w s a) (e : opV C fl ao s h = some (v, h1)) (hf : Fresh μ h.next h1.next)
    {K : Act → World → Prop} {Q : Exit → Act → World → Prop} (hn : ∀ v' μ' w', Post (floorOf ao fl h) base rbase μ h w μ' h1 w' → VRel μ' (szOf w') v v' → K (a.put o.dst v') w') : wpOp P ops Q i K a w := by
  unfold okA at ok
  simp only [Bool.and_eq_true, decide_eq_true_eq] at ok
  obtain ⟨⟨k1, k2⟩, k3⟩ := ok
  unfold wpOp
  simp only [hi]
  unfold opV at e
  split at e
  · rename_i hg
    split at k3
    · rename_i hog _
      have hw : Region.wanted o (yielded ops a.tmps) = true := by simp [Region.wanted, hog]
      rw [if_pos hw]
      exact .inl (op_wp hC c hf k2 e hn)
    · rename_i h2; rw [hg] at h2; cases h2
    · cases k3
  · rename_i g want hg
    split at k3
    · rename_i h2; rw [hg] at h2; cases h2
    · rename_i j want1 t want2 hog h2
      rw [hg] at h2
      injection h2 with h2; injection h2 with h3 h4
      subst h3; subst h4
      simp only [Bool.and_eq_true, beq_iff_eq, decide_eq_true_eq] at k3
      obtain ⟨rfl, k4⟩ := k3
      rcases asG_some e with ⟨b, hb, e⟩ | ⟨x, y, hb, e⟩
      case inr =>
        have hy : yielded ops a.tmps j = none := by
          unfold yielded
          rw [k4]
          have hsg : s[g]? = some (.complex .f32 x y) := by
            rw [List.getD_eq_getElem?_getD] at hb
            cases hq : s[g]? with
            | none => rw [hq] at hb; cases hb
            | some u => rw [hq] at hb; simp at hb; rw [hb]
          obtain ⟨u', q1, q2⟩ := c.t.get hsg
          have q3 : u' = .tuple #[] := by cases q2; rfl
          subst q3
          have : a.tmps[g]? = some (.tuple #[]) := by simpa using q1
          simp [this]
        have hw' : ¬ Region.wanted o (yielded ops a.tmps) = true := by simp [Region.wanted, hog, hy]
        rw [if_neg hw']
        simp only [Option.some.injEq, Prod.mk.injEq] at e
        obtain ⟨rfl, rfl⟩ := e
        exact hn undef μ w (Post.refl c.sim) .skip
      have hy : yielded ops a.tmps j = some b := by
        unfold yielded
        rw [k4]
        have hsg : s[g]? = some (.bool b) := by
          rw [List.getD_eq_getElem?_getD] at hb
          cases hq : s[g]? with
          | none => rw [hq] at hb; cases hb
          | some u => rw [hq] at hb; simp at hb; rw [hb]
        obtain ⟨u', q1, q2⟩ := c.t.get hsg
        have q3 := q2.bool_inv
        subst q3
        have : a.tmps[g]? = some (.bool b) := by simpa using q1
        simp [this]
      split at e
      · rename_i hw
        have hw' : Region.wanted o (yielded ops a.tmps) = true := by simp [Region.wanted, hog, hy, hw]
        rw [if_pos hw']
        exact .inl (op_wp hC c hf k2 e hn)
      · rename_i hw
        have hw' : ¬ Region.wanted o (yielded ops a.tmps) = true := by simp [Region.wanted, hog, hy, hw]
        rw [if_neg hw']
        simp only [Option.some.injEq, Prod.mk.injEq] at e
        obtain ⟨rfl, rfl⟩ := e
        exact hn undef μ w (Post.refl c.sim) .skip
    · cases k3

theorem put_rel {μ sz s} {a : Act} (t : LRel μ sz s a.tmps.toList) {v v'} (hv : VRel μ sz v v') (d : Option Nat) : LRel μ sz (putT s d v) (a.put d v').tmps.toList := by
  cases d with
  | none => exact t
  | some d =>
    simp only [putT, Act.put, Array.toList_setIfInBounds]
    refine LRel.of_get (by simp [t.1]) fun i u hu => ?_
    rw [List.getElem?_set] at hu ⊢
    have hl := t.1
    by_cases e : d = i
    · simp only [e, if_true] at hu ⊢
      split at hu
      · rename_i hlt
        injection hu with hu; subst hu
        rw [if_pos (by omega)]; exact ⟨v', rfl, hv⟩
      · cases hu
    · simp only [e, if_false] at hu ⊢
      exact t.get hu

theorem put_defers (a : Act) (d : Option Nat) (v : Value) : (a.put d v).defers = a.defers := by cases d <;> rfl

theorem regK_astep {R : Type} {r : R} (hC : CAbs C) : ∀ {os : List AOper} {s h} {K : List Value → AH → Option R}, regK C fl os s h K = some r → fl ≤ h.next → ∃ s' h', AStep fl h h' ∧ K s' h' = some r
  | [], s, h, K, e, _ => ⟨s, h, AStep.refl _ _, e⟩
  | o :: os, s, h, K, e, hfl => by
    obtain ⟨v, h1, g1, g2⟩ := regK_cons e
    have a1 := (opV_astep hC g1).floor (floorOf_ge (o := o) hfl)
    obtain ⟨s', h', a2, g3⟩ := regK_astep hC g2 (Nat.le_trans hfl a1.1)
    exact ⟨s', h', a1.trans a2 (Nat.le_refl _), g3⟩

def okOpers (P : Program) (ops : Array Oper) : List Oper → List AOper → Bool
  | [], [] => true
  | o :: os, x :: xs => okA P ops o x && okOpers P ops os xs
  | _, _ => false

theorem reg_sound {R : Type} {r : R} (hC : CSound P C) {hend : Nat} {Q : Exit → Act → World → Prop} {K : List Value → AH → Option R} (hK : ∀ s h, K s h = some r → h.next ≤ hend) :
    ∀ (rest : List Oper) (al : List AOper) (i : Nat), ops.toList.drop i = rest → okOpers P ops rest al = true →
    ∀ (s : List Value) (h : AH) (a : Act) (w : World) (μ : Mu), regK C fl al s h K = some r → Ctx fl base rbase μ h w s a → Fresh μ h.next hend →
    (∀ s' h' a' w' μ', K s' h' = some r → Post fl base rbase μ h w μ' h' w' → LRel μ' (szOf w') s' a'.tmps.toList → a'.defers = a.defers → Q .normal a' w') →
    wpOps P ops Q (List.range' i rest.length) a w
  | [], [], i, _, _, s, h, a, w, μ, e, c, hf, hQ => by
    simp only [List.length_nil, List.range'_zero, wpOps]
    exact hQ s h a w μ e (Post.refl c.sim) c.t rfl
  | o :: os, x :: xs, i, hd, ok, s, h, a, w, μ, e, c, hf, hQ => by
    simp only [okOpers, Bool.and_eq_true] at ok
    obtain ⟨v, h1, g1, g2⟩ := regK_cons e
    have hi : ops[i]? = some o := by
      have : (ops.toList.drop i)[0]? = some o := by rw [hd]; rfl
      rw [List.getElem?_drop] at this
      simpa using this
    have a1 := opV_astep hC.toCAbs g1
    have hfl1 : fl ≤ h1.next := Nat.le_trans c.hfl a1.1
    obtain ⟨s2, h2, a2, g3⟩ := regK_astep hC.toCAbs g2 hfl1
    have hend1 : h1.next ≤ hend := Nat.le_trans a2.1 (hK _ _ g3)
    have hf1 : Fresh μ h.next h1.next := hf.sub (Nat.le_refl _) hend1
    rw [List.length_cons, List.range'_succ, wpOps_cons]
    have c' : Ctx (floorOf x fl h) base rbase μ h w s a := ⟨c.sim, Nat.le_trans c.hb (floorOf_ge c.hfl), floorOf_le c.hfl, c.hr, c.t⟩
    refine wpOp_sound hC hi ok.1 c' g1 hf1 fun v' μ' w' hp hv => ?_
    have hp' := hp.floor (floorOf_ge (o := x) c.hfl)
    have hdst : o.dst = x.dst := by
      have := ok.1
      unfold okA at this
      simp only [Bool.and_eq_true, decide_eq_true_eq] at this
      exact this.1.1
    refine reg_sound hC hK os xs (i + 1) (by rw [← List.tail_drop, hd]; rfl) ok.2 (putT s x.dst v) h1 (a.put o.dst v') w' μ' g2 ⟨hp'.sim, c.hb, hfl1, Nat.le_trans c.hr hp'.hs, ?_⟩ (hp'.fresh hf) ?_
    · rw [← hdst]
      exact put_rel (hp'.lrel c.sim hf1 c.t) hv _
    · intro s' h' a' w2 μ2 hk hp2 ht hd2
      have hh' := hK _ _ hk
      exact hQ s' h' a' w2 μ2 hk (hp'.trans hp2 (Nat.le_refl _)) ht (by rw [hd2, put_defers])
  | [], _ :: _, _, _, ok, _, _, _, _, _, _, _, _, _ => by simp [okOpers] at ok
  | _ :: _, [], _, _, ok, _, _, _, _, _, _, _, _, _ => by simp [okOpers] at ok
end
end Go.Abs
