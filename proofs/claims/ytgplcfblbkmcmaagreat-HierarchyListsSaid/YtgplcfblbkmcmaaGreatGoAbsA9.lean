/- Operations taken apart from what follows them; what they leave of old blocks; calls. -/
import Derived.Test.YtgplcfblbkmcmaaGreatGoAbsA8
namespace Go.Abs

/-! ### an operation, then what follows -/
section
variable {R S : Type} (g : R → Option S)
theorem asInt_bind (k v) (F : Int → Option R) : asInt k v (fun n => (F n).bind g) = (asInt k v F).bind g := by
  unfold asInt; split
  · split <;> rfl
  · rfl
theorem asBool_bind (v) (F : Bool → Option R) : asBool v (fun n => (F n).bind g) = (asBool v F).bind g := by
  unfold asBool; split <;> rfl
theorem asSl_bind (v) (F : Sl → Option R) : asSl v (fun n => (F n).bind g) = (asSl v F).bind g := by
  unfold asSl; split <;> rfl
theorem asPtr_bind (v) (F : Addr → Option R) : asPtr v (fun n => (F n).bind g) = (asPtr v F).bind g := by
  unfold asPtr; split <;> rfl
theorem asNptr_bind (v) (F : Option Addr → Option R) : asNptr v (fun n => (F n).bind g) = (asNptr v F).bind g := by
  unfold asNptr; split <;> rfl
theorem asAgg_bind (v) (F : List Value → Option R) : asAgg v (fun n => (F n).bind g) = (asAgg v F).bind g := by
  unfold asAgg; split <;> rfl
theorem asTup_bind (v) (F : List Value → Option R) : asTup v (fun n => (F n).bind g) = (asTup v F).bind g := by
  unfold asTup; split <;> rfl
theorem castK0_bind (s v) (F : Value → Option R) : castK0 s v (fun n => (F n).bind g) = (castK0 s v F).bind g := by
  cases s with
  | any => rfl
  | int k => exact asInt_bind g k v fun n => F (.int k n)
  | bool => exact asBool_bind g v fun n => F (.bool n)
  | slice => exact asSl_bind g v fun s => F (.slice s.a s.l s.c)
  | ptr => exact asPtr_bind g v fun a => F (.pointer (some a))
  | nptr => exact asNptr_bind g v fun a => F (.pointer a)
theorem castsK0_bind : ∀ (ss vs) (F : List Value → Option R), castsK0 ss vs (fun n => (F n).bind g) = (castsK0 ss vs F).bind g
  | [], [], _ => rfl
  | [], _ :: _, _ => rfl
  | _ :: _, [], _ => rfl
  | s :: ss, v :: vs, F => by
    simp only [castsK0]
    rw [← castK0_bind]
    congr 1; funext v'
    exact castsK0_bind ss vs fun vs' => F (v' :: vs')
theorem castK1_bind (s v) (F : Value → Option R) : castK1 s v (fun n => (F n).bind g) = (castK1 s v F).bind g := by
  cases s with
  | one s => exact castK0_bind g s v F
  | agg l =>
    simp only [castK1]
    rw [← asAgg_bind]
    congr 1; funext cs
    exact castsK0_bind g l cs fun cs' => F (.agg ⟨cs'⟩)
theorem castsK1_bind : ∀ (ss vs) (F : List Value → Option R), castsK1 ss vs (fun n => (F n).bind g) = (castsK1 ss vs F).bind g
  | [], [], _ => rfl
  | [], _ :: _, _ => rfl
  | _ :: _, [], _ => rfl
  | s :: ss, v :: vs, F => by
    simp only [castsK1]
    rw [← castK1_bind]
    congr 1; funext v'
    exact castsK1_bind ss vs fun vs' => F (v' :: vs')
theorem castK2_bind (s v) (F : Value → Option R) : castK2 s v (fun n => (F n).bind g) = (castK2 s v F).bind g := by
  cases s with
  | one s => exact castK1_bind g s v F
  | tup l =>
    simp only [castK2]
    rw [← asTup_bind]
    congr 1; funext cs
    exact castsK1_bind g l cs fun cs' => F (.tuple ⟨cs'⟩)
theorem ldK0_bind (s h b o) (F : Value → Option R) : ldK0 s h b o (fun n => (F n).bind g) = (ldK0 s h b o F).bind g := by
  unfold ldK0; split
  · exact castK0_bind g s _ F
  · rfl
theorem ldsK0_bind : ∀ (ss h b o) (F : List Value → Option R), ldsK0 ss h b o (fun n => (F n).bind g) = (ldsK0 ss h b o F).bind g
  | [], _, _, _, _ => rfl
  | s :: ss, h, b, o, F => by
    simp only [ldsK0]
    rw [← ldK0_bind]
    congr 1; funext v'
    exact ldsK0_bind ss h b (o + 1) fun vs' => F (v' :: vs')
theorem st_bind (fl h a xs) (F : AH → Option R) : st fl h a xs (fun n => (F n).bind g) = (st fl h a xs F).bind g := by
  unfold st; (repeat' split) <;> rfl
theorem rdN_bind (h a n) (F : List Value → Option R) : rdN h a n (fun n => (F n).bind g) = (rdN h a n F).bind g := by
  unfold rdN; (repeat' split) <;> rfl
theorem apnd_bind (fl esz bytes s x h) (F : Sl → AH → Option R) : apnd fl esz bytes s x h (fun n m => (F n m).bind g) = (apnd fl esz bytes s x h F).bind g := by
  unfold apnd
  split
  · rfl
  · split
    · rw [← rdN_bind]
      congr 1; funext xs
      split
      · split <;> rfl
      · split
        · split
          · exact st_bind g _ _ _ _ _
          · exact rdN_bind g _ _ _ _
        · split
          · exact rdN_bind g _ _ _ _
          · rfl
    · rfl
theorem mkSl_bind (bytes z l c h) (F : Sl → AH → Option R) : mkSl bytes z l c h (fun n m => (F n m).bind g) = (mkSl bytes z l c h F).bind g := by
  unfold mkSl; split <;> rfl
theorem sub_bind (esz s lo hi mx) (F : Sl → Option R) : sub esz s lo hi mx (fun n => (F n).bind g) = (sub esz s lo hi mx F).bind g := by
  unfold sub; (repeat' split) <;> rfl
theorem idx_bind (esz s i) (F : Addr → Option R) : idx esz s i (fun n => (F n).bind g) = (idx esz s i F).bind g := by
  unfold idx; (repeat' split) <;> rfl
theorem cpy_bind (fl esz d s h) (F : Int → AH → Option R) : cpy fl esz d s h (fun n m => (F n m).bind g) = (cpy fl esz d s h F).bind g := by
  unfold cpy
  split
  · rfl
  · rw [← rdN_bind]
    congr 1; funext xs
    split
    · exact st_bind g _ _ _ _ _
    · rfl
theorem callK_bind (C fl f args sh h) (F : Value → AH → Option R) : callK C fl f args sh h (fun n m => (F n m).bind g) = (callK C fl f args sh h F).bind g := by
  unfold callK
  split
  · split
    · exact castK2_bind g sh _ _
    · rfl
  · rfl
theorem optInt_bind (st o) (F : Option Int → Option R) : optInt st o (fun n => (F n).bind g) = (optInt st o F).bind g := by
  unfold optInt; (repeat' split) <;> rfl

theorem opK_bind' (C : Callee) (fl : Nat) (s : List Value) (h : AH) (o : AOp) (F : Value → AH → Option R) :
    opK C fl s h o (fun v h => (F v h).bind g) = (opK C fl s h o F).bind g := by
  cases o with
  | mv x => rfl
  | pick c a b => simp only [opK]; rw [← asBool_bind]; congr 1; funext t; split <;> rfl
  | box x => simp only [opK]; split <;> rfl
  | alloc z => rfl
  | build z ps => simp only [opK]; split <;> rfl
  | bslice len z ps => simp only [opK]; split <;> rfl
  | load sh a =>
    simp only [opK]; rw [← asPtr_bind]; congr 1; funext a
    cases sh with
    | one s0 => exact ldK0_bind g s0 h _ _ fun v => F v h
    | agg l => exact ldsK0_bind g l h _ _ fun vs => F (.agg ⟨vs⟩) h
  | store n a x =>
    simp only [opK]; rw [← asPtr_bind]; congr 1; funext a
    split
    · exact st_bind g _ _ _ _ fun h1 => F undef h1
    · rfl
  | nilc x => simp only [opK]; rw [← asPtr_bind]
  | bin op k x y =>
    simp only [opK]; rw [← asInt_bind]; congr 1; funext a; rw [← asInt_bind]; congr 1; funext b; split <;> rfl
  | sh l k yk x y =>
    simp only [opK]; rw [← asInt_bind]; congr 1; funext a; rw [← asInt_bind]; congr 1; funext b; split <;> rfl
  | cmp op k x y =>
    simp only [opK]; rw [← asInt_bind]; congr 1; funext a; rw [← asInt_bind]; congr 1; funext b; split <;> rfl
  | beq neg x y => simp only [opK]; rw [← asBool_bind]; congr 1; funext a; rw [← asBool_bind]
  | snil neg x => simp only [opK]; rw [← asSl_bind]
  | not x => simp only [opK]; rw [← asBool_bind]
  | neg k x => simp only [opK]; rw [← asInt_bind]
  | conv a b x => simp only [opK]; rw [← asInt_bind]
  | mkfn f a b => rfl
  | mkslice bytes z l c =>
    simp only [opK]; rw [← asInt_bind]; congr 1; funext a; rw [← asInt_bind]; congr 1; funext b
    exact mkSl_bind g _ _ _ _ _ fun v h1 => F (.slice v.a v.l v.c) h1
  | slice esz x lo hi mx =>
    simp only [opK]; rw [← asSl_bind]; congr 1; funext v; rw [← optInt_bind]; congr 1; funext lo; rw [← optInt_bind]; congr 1; funext hi; rw [← optInt_bind]; congr 1; funext mx
    exact sub_bind g _ _ _ _ _ fun v => F (.slice v.a v.l v.c) h
  | faddr off x => simp only [opK]; rw [← asPtr_bind]
  | iaddr esz x i =>
    simp only [opK]; rw [← asSl_bind]; congr 1; funext v; rw [← asInt_bind]; congr 1; funext i
    exact idx_bind g _ _ _ fun a => F (.pointer (some a)) h
  | extr x i => simp only [opK]; rw [← asTup_bind]; congr 1; funext vs; split <;> rfl
  | call f args sh => exact callK_bind g C fl _ _ sh h F
  | len x => simp only [opK]; rw [← asSl_bind]
  | append esz bytes a x =>
    simp only [opK]; rw [← asSl_bind]; congr 1; funext a; rw [← asSl_bind]; congr 1; funext x
    exact apnd_bind g _ _ _ _ _ _ fun v h1 => F (.slice v.a v.l v.c) h1
  | copy esz d x =>
    simp only [opK]; rw [← asSl_bind]; congr 1; funext a; rw [← asSl_bind]; congr 1; funext x
    exact cpy_bind g _ _ _ _ _ fun n h1 => F (.int .i64 n) h1
  | mm m x y => simp only [opK]; rw [← asInt_bind]; congr 1; funext a; rw [← asInt_bind]
  | sidx k bs i =>
    simp only [opK]; rw [← asInt_bind]; congr 1; funext n
    split
    · split <;> rfl
    · rfl
end

theorem opK_split {R : Type} {r : R} {C : Callee} {fl : Nat} {s : List Value} {h : AH} {o : AOp} {K : Value → AH → Option R} (e : opK C fl s h o K = some r) :
    ∃ v h1, opK C fl s h o K0 = some (v, h1) ∧ K v h1 = some r := by
  have := opK_bind' (fun p : Value × AH => K p.1 p.2) C fl s h o K0
  have h2 : (opK C fl s h o fun v h => (K0 v h).bind fun p : Value × AH => K p.1 p.2) = opK C fl s h o K := rfl
  rw [h2, e] at this
  cases hq : opK C fl s h o K0 with
  | none => rw [hq] at this; cases this
  | some p => rw [hq] at this; exact ⟨p.1, p.2, rfl, this.symm⟩

theorem opK_join {R : Type} {r : R} {C : Callee} {fl : Nat} {s : List Value} {h h1 : AH} {v : Value} {o : AOp} {K : Value → AH → Option R} (e : opK C fl s h o K0 = some (v, h1)) (e2 : K v h1 = some r) :
    opK C fl s h o K = some r := by
  have := opK_bind' (fun p : Value × AH => K p.1 p.2) C fl s h o K0
  have h2 : (opK C fl s h o fun v h => (K0 v h).bind fun p : Value × AH => K p.1 p.2) = opK C fl s h o K := rfl
  rw [h2, e] at this
  rw [this]; exact e2

/-! ### what the abstract machine leaves alone -/
def AStep (fl : Nat) (h h1 : AH) : Prop :=
  h.next ≤ h1.next ∧ (∀ b, b < h.next → b < fl → h1.blk b = h.blk b) ∧ (∀ b cs, b < h.next ∨ h1.next ≤ b → h1.blk b = some cs → ∃ cs', h.blk b = some cs')
theorem AStep.refl (fl h) : AStep fl h h := ⟨Nat.le_refl _, fun _ _ _ => rfl, fun _ cs _ e => ⟨cs, e⟩⟩
theorem AStep.trans {fl fl' h h1 h2} (p : AStep fl h h1) (q : AStep fl' h1 h2) (hf : fl ≤ fl') : AStep fl h h2 :=
  ⟨Nat.le_trans p.1 q.1, fun b hb hbf => by rw [q.2.1 b (Nat.lt_of_lt_of_le hb p.1) (Nat.lt_of_lt_of_le hbf hf), p.2.1 b hb hbf],
   fun b cs hb e => by
    have h1 := p.1
    have h2 := q.1
    obtain ⟨cs', e'⟩ := q.2.2 b cs (by omega) e
    exact p.2.2 b cs' (by omega) e'⟩
theorem AStep.alloc (fl h cs) : AStep fl h (h.alloc cs) :=
  ⟨Nat.le_succ _, fun b hb _ => by simp [AH.alloc, Nat.ne_of_lt hb], fun b cs' hb e => ⟨cs', by
    have hne : b ≠ h.next := by
      rcases hb with hb | hb
      · omega
      · have : h.next + 1 ≤ b := hb
        omega
    simpa [AH.alloc, hne] using e⟩⟩
theorem AStep.put {fl h b cs cs'} (hb : fl ≤ b) (hk : h.blk b = some cs) : AStep fl h (h.put b (some cs')) :=
  ⟨Nat.le_refl _, fun c _ hc => by
    have : c ≠ b := by omega
    simp [AH.put, this],
   fun c cs2 _ e => by
    by_cases hcb : c = b
    · subst hcb; exact ⟨cs, hk⟩
    · exact ⟨cs2, by simpa [AH.put, hcb] using e⟩⟩
theorem AStep.kill {fl h b} (hb : fl ≤ b) : AStep fl h (h.put b none) :=
  ⟨Nat.le_refl _, fun c _ hc => by
    have : c ≠ b := by omega
    simp [AH.put, this],
   fun c cs2 _ e => by
    by_cases hcb : c = b
    · subst hcb; simp [AH.put] at e
    · exact ⟨cs2, by simpa [AH.put, hcb] using e⟩⟩
theorem AStep.floor {fl fl' h h1} (p : AStep fl' h h1) (hf : fl ≤ fl') : AStep fl h h1 := ⟨p.1, fun b hb hbf => p.2.1 b hb (Nat.lt_of_lt_of_le hbf hf), p.2.2⟩

theorem st_astep {R : Type} {r : R} {fl h a xs} {K : AH → Option R} (e : st fl h a xs K = some r) : ∃ h1, AStep fl h h1 ∧ K h1 = some r := by
  unfold st at e
  split at e
  · rename_i cs hcs
    split at e
    · rename_i hfl
      split at e
      · split at e
        · split at e
          · exact ⟨_, AStep.put hfl hcs, e⟩
          · cases e
        · cases e
      · cases e
    · cases e
  · cases e
theorem rdN_any {R : Type} {r : R} {h : AH} {a n} {K : List Value → Option R} (e : rdN h a n K = some r) : ∃ xs, K xs = some r := by
  unfold rdN at e
  (repeat' split at e) <;> first | exact ⟨_, e⟩ | cases e
theorem apnd_astep {R : Type} {r : R} {fl esz bytes s x h} {K : Sl → AH → Option R} (e : apnd fl esz bytes s x h K = some r) : ∃ v h1, AStep fl h h1 ∧ K v h1 = some r := by
  unfold apnd at e
  split at e
  · exact ⟨_, _, AStep.refl _ _, e⟩
  · split at e
    · obtain ⟨xs, e⟩ := rdN_any e
      split at e
      · split at e
        · exact ⟨_, _, AStep.alloc _ _ _, e⟩
        · cases e
      · split at e
        · split at e
          · obtain ⟨h1, g1, g2⟩ := st_astep e; exact ⟨_, h1, g1, g2⟩
          · obtain ⟨ys, e⟩ := rdN_any e; exact ⟨_, _, AStep.alloc _ _ _, e⟩
        · split at e
          · rename_i hk
            obtain ⟨ys, e⟩ := rdN_any e; exact ⟨_, _, (AStep.kill hk.1).trans (AStep.alloc _ _ _) (Nat.le_refl _), e⟩
          · cases e
    · cases e

structure CAbs (C : Callee) : Prop where
  step : ∀ fl f args h v h1, C fl f args h = some (v, h1) → AStep fl h h1

theorem optInt_any {R : Type} {r : R} {s : List Value} {o} {K : Option Int → Option R} (e : optInt s o K = some r) : ∃ x, K x = some r := by
  unfold optInt at e
  (repeat' split at e) <;> first | exact ⟨_, e⟩ | cases e

theorem op_astep {C : Callee} (hC : CAbs C) {fl s h o v h1} (e : opK C fl s h o K0 = some (v, h1)) : AStep fl h h1 := by
  have triv : ∀ {v' : Value}, K0 v' h = some (v, h1) → AStep fl h h1 := fun e => by
    simp only [K0, Option.some.injEq, Prod.mk.injEq] at e
    rw [← e.2]; exact AStep.refl _ _
  have same : ∀ {v' : Value} {h' : AH}, AStep fl h h' → K0 v' h' = some (v, h1) → AStep fl h h1 := fun a e => by
    simp only [K0, Option.some.injEq, Prod.mk.injEq] at e
    rw [← e.2]; exact a
  cases o <;> simp only [opK] at e
  case mv => exact triv e
  case pick => obtain ⟨t, _, e⟩ := asBool_some e; split at e <;> exact triv e
  case box => split at e <;> first | exact same (AStep.alloc _ _ _) e | cases e
  case alloc => exact same (AStep.alloc _ _ _) e
  case build => split at e <;> first | exact triv e | cases e
  case bslice => split at e <;> first | exact same (AStep.alloc _ _ _) e | cases e
  case load sh a =>
    obtain ⟨a, _, e⟩ := asPtr_some e
    cases sh with
    | one s0 => obtain ⟨u, _, e⟩ := ldK0_some (K := fun v => K0 v h) e; exact triv e
    | agg l => obtain ⟨u, _, _, e⟩ := ldsK0_some (K := fun vs => K0 (.agg ⟨vs⟩) h) e; exact triv e
  case store =>
    obtain ⟨a, _, e⟩ := asPtr_some e
    split at e
    · obtain ⟨h2, g1, g2⟩ := st_astep e; exact same g1 g2
    · cases e
  case nilc => obtain ⟨a, _, e⟩ := asPtr_some e; exact triv e
  case bin => obtain ⟨a, _, e⟩ := asInt_some e; obtain ⟨b, _, e⟩ := asInt_some e; split at e <;> first | exact triv e | cases e
  case sh => obtain ⟨a, _, e⟩ := asInt_some e; obtain ⟨b, _, e⟩ := asInt_some e; split at e <;> first | exact triv e | cases e
  case cmp => obtain ⟨a, _, e⟩ := asInt_some e; obtain ⟨b, _, e⟩ := asInt_some e; split at e <;> first | exact triv e | cases e
  case beq => obtain ⟨a, _, e⟩ := asBool_some e; obtain ⟨b, _, e⟩ := asBool_some e; exact triv e
  case snil => obtain ⟨a, _, e⟩ := asSl_some e; exact triv e
  case not => obtain ⟨a, _, e⟩ := asBool_some e; exact triv e
  case neg => obtain ⟨a, _, e⟩ := asInt_some e; exact triv e
  case conv => obtain ⟨a, _, e⟩ := asInt_some e; exact triv e
  case mkfn => exact triv e
  case mkslice =>
    obtain ⟨a, _, e⟩ := asInt_some e; obtain ⟨b, _, e⟩ := asInt_some e
    unfold mkSl at e
    split at e <;> first | exact same (AStep.alloc _ _ _) e | cases e
  case slice =>
    obtain ⟨a, _, e⟩ := asSl_some e; obtain ⟨_, e⟩ := optInt_any e; obtain ⟨_, e⟩ := optInt_any e; obtain ⟨_, e⟩ := optInt_any e
    unfold sub at e
    (repeat' split at e) <;> first | exact triv e | cases e
  case faddr => obtain ⟨a, _, e⟩ := asPtr_some e; exact triv e
  case iaddr =>
    obtain ⟨a, _, e⟩ := asSl_some e; obtain ⟨b, _, e⟩ := asInt_some e
    unfold idx at e
    (repeat' split at e) <;> first | exact triv e | cases e
  case extr => obtain ⟨a, _, e⟩ := asTup_some e; split at e <;> first | exact triv e | cases e
  case call f args sh =>
    unfold callK at e
    split at e
    · split at e
      · rename_i v' h' hc
        exact same (hC.step _ _ _ _ _ _ hc) (castK2_some (K := fun v' => K0 v' h') e)
      · cases e
    · cases e
  case len => obtain ⟨a, _, e⟩ := asSl_some e; exact triv e
  case append =>
    obtain ⟨a, _, e⟩ := asSl_some e; obtain ⟨b, _, e⟩ := asSl_some e
    obtain ⟨u, h2, g1, g2⟩ := apnd_astep e; exact same g1 g2
  case copy =>
    obtain ⟨a, _, e⟩ := asSl_some e; obtain ⟨b, _, e⟩ := asSl_some e
    unfold cpy at e
    split at e
    · exact triv e
    · obtain ⟨xs, e⟩ := rdN_any e
      split at e
      · obtain ⟨h2, g1, g2⟩ := st_astep e; exact same g1 g2
      · cases e
  case mm => obtain ⟨a, _, e⟩ := asInt_some e; obtain ⟨b, _, e⟩ := asInt_some e; exact triv e
  case sidx => obtain ⟨a, _, e⟩ := asInt_some e; (repeat' split at e) <;> first | exact triv e | cases e

theorem VRel.func_inv {μ sz g} {d1 d2 : List Value} {v} (h : VRel μ sz (.func (.func g) ⟨d1⟩ ⟨d2⟩) v) : ∃ f2 g2 : List Value, v = .func (.func g) ⟨f2⟩ ⟨g2⟩ ∧ LRel μ sz d1 f2 ∧ LRel μ sz d2 g2 := by
  generalize hq : Value.func (.func g) ⟨d1⟩ ⟨d2⟩ = q at h
  cases h with
  | func l1 l2 l3 l4 =>
    injection hq with h1 h2 h3
    injection h1 with h1; injection h2 with h2; injection h3 with h3
    subst h1 h2 h3
    exact ⟨_, _, rfl, ⟨l1, l2⟩, ⟨l3, l4⟩⟩
  | _ => cases hq

/-! ### calls -/
structure CSound (P : Program) (C : Callee) : Prop extends CAbs C where
  fn : ∀ fl f args h v h1, C fl f args h = some (v, h1) → ∃ fd, P.funcs[f]? = some fd ∧ (fd.name == "runtime.NumGoroutine") = false ∧ fd.body.isNone = false
  sound : ∀ fl f args h v h1, C fl f args h = some (v, h1) → ∀ base rbase μ w args', Sim base rbase μ h w → base ≤ fl → fl ≤ h.next → rbase ≤ w.heap.size → LRel μ (szOf w) args args' → Fresh μ h.next h1.next →
    Calls P f args'.toArray w fun e w' => ∃ v' μ', e = .returned v' ∧ Post fl base rbase μ h w μ' h1 w' ∧ VRel μ' (szOf w') v v'

/-- The check of an operation, calls too. -/
def okOp' (P : Program) (op : Op) : AOp → Bool
  | .call f args _ => match op with
    | .call { callee := .value f', args := args', .. } => okOpd f' f && okOpds args'.toList args
    | _ => false
  | x => okOp P op x

section
variable {P : Program} {C : Callee} {fl base rbase : Nat} {μ : Mu} {h h1 : AH} {w : World} {s : List Value} {a : Act} {v : Value} {o : Oper}

theorem op_post {ao : AOp} (hnc : ∀ f args sh, ao ≠ .call f args sh) (c : Ctx fl base rbase μ h w s a) (hf : h.next < h1.next → μ h.next = none) (ok : okOp P o.op ao = true) (e : opK C fl s h ao K0 = some (v, h1)) :
    OpPost fl base rbase μ h w v h1 ((execOp a.eval o).run P w) := by
  cases ao with
  | mv => exact s_mv c ok e
  | pick => exact s_pick c ok e
  | box => exact s_box c hf ok e
  | alloc => exact s_alloc c hf ok e
  | build => exact s_build c ok e
  | bslice => exact s_bslice c hf ok e
  | load => exact s_load c ok e
  | store => exact s_store c ok e
  | nilc => exact s_nilc c ok e
  | bin => exact s_bin c ok e
  | sh => exact s_sh c ok e
  | cmp => exact s_cmp c ok e
  | beq => exact s_beq c ok e
  | snil => exact s_snil c ok e
  | not => exact s_not c ok e
  | neg => exact s_neg c ok e
  | conv => exact s_conv c ok e
  | mkfn => exact s_mkfn c ok e
  | mkslice => exact s_mkslice c hf ok e
  | slice => exact s_slice c ok e
  | faddr => exact s_faddr c ok e
  | iaddr => exact s_iaddr c ok e
  | extr => exact s_extr c ok e
  | call f args sh => exact absurd rfl (hnc f args sh)
  | len => exact s_len c ok e
  | append => exact s_append c hf ok e
  | copy => exact s_copy c ok e
  | mm => exact s_mm c ok e
  | sidx => exact s_sidx c ok e

theorem op_wp (hC : CSound P C) {ao : AOp} (c : Ctx fl base rbase μ h w s a) (hf : Fresh μ h.next h1.next) (ok : okOp' P o.op ao = true) (e : opK C fl s h ao K0 = some (v, h1))
    {next : Act → World → Prop} {Q : Exit → Act → World → Prop} (hn : ∀ v' μ' w', Post fl base rbase μ h w μ' h1 w' → VRel μ' (szOf w') v v' → next (a.put o.dst v') w') : o.wp P a w next Q := by
  by_cases hcall : ∃ f args sh, ao = .call f args sh
  · obtain ⟨f, args, sh, rfl⟩ := hcall
    simp only [okOp'] at ok
    simp only [opK, callK] at e
    unfold Oper.wp execOp
    split at ok
    · rename_i f' args' tys ho
      rw [ho]
      simp only [Bool.and_eq_true] at ok
      obtain ⟨k1, k2⟩ := ok
      have r1 := opd_rel c.t k1
      have r2 := opds_rel c.t k2
      split at e
      · rename_i g c1 c2 hg
        rw [hg] at r1
        split at e
        · rename_i v0 h0 hc
          have e2 := castK2_some (K := fun v' => K0 v' h0) e
          simp only [K0, Option.some.injEq, Prod.mk.injEq] at e2
          obtain ⟨rfl, rfl⟩ := e2
          obtain ⟨d1⟩ := c1; obtain ⟨d2⟩ := c2
          obtain ⟨f2, g2, hq, l12, l34⟩ := r1.func_inv
          have hargs : LRel μ (szOf w) (d1 ++ args.map (ev s) ++ d2) (f2 ++ args'.toList.map a.eval ++ g2) := (LRel.append l12 r2).append l34
          obtain ⟨fd, q1, q2, q3⟩ := hC.fn _ _ _ _ _ _ hc
          have hcs := hC.sound _ _ _ _ _ _ hc base rbase μ w _ c.sim c.hb c.hfl c.hr hargs hf
          have e1 : (Array.map a.eval args') = ⟨args'.toList.map a.eval⟩ := by apply Array.ext'; simp
          have hr : (callFunc g ((⟨f2⟩ ++ Array.map a.eval args' : Array Value) ++ ⟨g2⟩)).run P w = .ok (.enter g (f2 ++ args'.toList.map a.eval ++ g2).toArray) w := by
            unfold callFunc
            simp only [Sem.run_bind, Go.program, Sem.run, Result.andThen_ok, q1, q2, q3, Bool.false_eq_true, if_false, Sem.run_pure]
            congr 2
            rw [e1]; simp
          simp only [resolve, hq, Deferred.ofValue, Sem.run_bind, Sem.run_pure, Result.andThen_ok, invoke, hr]
          rw [Oper.upon_enter]
          refine hcs.mono fun e w' ⟨v', μ', he, hp, hv⟩ => ?_
          subst he
          exact hn v' μ' w' hp hv
        · cases e
      · cases e
    · cases ok
  · have hnc : ∀ f args sh, ao ≠ .call f args sh := fun f args sh hh => hcall ⟨f, args, sh, hh⟩
    have ok' : okOp P o.op ao = true := by
      cases ao <;> first | exact ok | exact absurd rfl (hnc _ _ _)
    obtain ⟨v', μ', w', hr, hp, hv⟩ := op_post hnc c (fun hlt => hf _ (Nat.le_refl _) hlt) ok' e
    unfold Oper.wp
    rcases hr with hr | ⟨hr, hu⟩
    · rw [hr, Oper.upon_value]; exact hn v' μ' w' hp hv
    · rw [hr, Oper.upon_skip]; subst hu; exact hn undef μ' w' hp hv
end
end Go.Abs
