/- A region that draws its order: whatever the order, it comes to what the order of the text comes to. -/
import Derived.Test.YtgplcfblbkmcmaaGreatGoAbsA11
namespace Go.Abs

/-- What is closed under the operations that must come ahead. -/
def DC (ops : Array Oper) (E : Nat → Prop) : Prop := ∀ k o, ops[k]? = some o → E k → ∀ e ∈ o.after.toList, Region.binds .any e = true → E e.on

theorem maskOf_spec {E : Nat → Prop} (acc : List Nat) (ha : ∀ j i, (acc.getD j 0).testBit i = true → E j → E i) (o : Oper) (ho : ∀ e ∈ o.after.toList, Region.binds .any e = true → E e.on) :
    ∀ i, (maskOf o acc).testBit i = true → E i := by
  unfold maskOf
  have key : ∀ (l : List Edge) (s : Nat), (∀ e ∈ l, Region.binds .any e = true → E e.on) → (∀ i, s.testBit i = true → E i) →
      ∀ i, (l.foldl (fun s e => if Region.binds .any e = true then s ||| 2 ^ e.on ||| acc.getD e.on 0 else s) s).testBit i = true → E i := by
    intro l
    induction l with
    | nil => intro s _ hs i hi; exact hs i hi
    | cons e l ih =>
      intro s hl hs i hi
      rw [List.foldl_cons] at hi
      refine ih _ (fun e' he' => hl e' (List.mem_cons_of_mem _ he')) ?_ i hi
      intro i hi
      split at hi
      · rename_i hb
        have he := hl e List.mem_cons_self hb
        simp only [Nat.testBit_or, Bool.or_eq_true] at hi
        rcases hi with (hi | hi) | hi
        · exact hs i hi
        · rw [Nat.testBit_two_pow] at hi
          have : e.on = i := by simpa using hi
          rw [← this]; exact he
        · exact ha _ _ hi he
      · exact hs i hi
  exact key _ 0 ho (fun i hi => by simp at hi)

theorem befs_spec {E : Nat → Prop} : ∀ (os : List Oper) (acc : List Nat), (∀ j i, (acc.getD j 0).testBit i = true → E j → E i) →
    (∀ j o, os[j]? = some o → E (acc.length + j) → ∀ e ∈ o.after.toList, Region.binds .any e = true → E e.on) → ∀ j i, ((befs os acc).getD j 0).testBit i = true → E j → E i
  | [], acc, ha, _, j, i, hb, hj => ha j i hb hj
  | o :: os, acc, ha, ho, j, i, hb, hj => by
    refine befs_spec os (acc ++ [maskOf o acc]) ?_ ?_ j i hb hj
    · intro j i hb hj
      rcases Nat.lt_trichotomy j acc.length with hl | hl | hl
      · rw [List.getD_eq_getElem?_getD, List.getElem?_append_left hl, ← List.getD_eq_getElem?_getD] at hb
        exact ha j i hb hj
      · subst hl
        rw [List.getD_eq_getElem?_getD, List.getElem?_append_right (Nat.le_refl _), Nat.sub_self] at hb
        exact maskOf_spec acc ha o (ho 0 o rfl hj) i (by simpa using hb)
      · rw [List.getD_eq_getElem?_getD, List.getElem?_eq_none (by simp; omega)] at hb
        simp at hb
    · intro j o' ho' hj
      refine ho (j + 1) o' (by simpa using ho') ?_
      simpa [Nat.add_assoc, Nat.add_comm 1 j] using hj

theorem pairsAt_spec {x : AOper} {i : Nat} : ∀ {ys : List AOper} {ms : List Nat}, pairsAt x i ys ms = true → ∀ (j : Nat) y, ys[j]? = some y → mustOrder x y = true → (ms.getD j 0).testBit i = true
  | [], _, _, j, y, hy, _ => by simp at hy
  | _ :: _, [], h, _, _, _, _ => by simp [pairsAt] at h
  | y0 :: ys, m :: ms, h, j, y, hy, hm => by
    simp only [pairsAt, Bool.and_eq_true, Bool.or_eq_true, Bool.not_eq_true'] at h
    cases j with
    | zero =>
      simp at hy; subst hy
      rcases h.1 with h1 | h1
      · rw [hm] at h1; cases h1
      · exact h1
    | succ j => exact pairsAt_spec h.2 j y (by simpa using hy) hm
theorem pairsOk_spec : ∀ {xs : List AOper} {ms : List Nat} {i0 : Nat}, pairsOk i0 xs ms = true → ∀ (i j : Nat) x y, i < j → xs[i]? = some x → xs[j]? = some y → mustOrder x y = true → (ms.getD j 0).testBit (i0 + i) = true
  | [], _, _, _, i, j, x, y, _, hx, _, _ => by simp at hx
  | _ :: _, [], _, h, _, _, _, _, _, _, _, _ => by simp [pairsOk] at h
  | x0 :: xs, m :: ms, i0, h, i, j, x, y, hij, hx, hy, hm => by
    simp only [pairsOk, Bool.and_eq_true] at h
    obtain ⟨j, rfl⟩ : ∃ k, j = k + 1 := ⟨j - 1, by omega⟩
    cases i with
    | zero =>
      simp at hx; subst hx
      exact pairsAt_spec h.1 j y (by simpa using hy) hm
    | succ i =>
      have := pairsOk_spec h.2 i j x y (by omega) (by simpa using hx) (by simpa using hy) hm
      rw [show i0 + (i + 1) = i0 + 1 + i by omega]
      exact this
theorem edgesOk_spec : ∀ {os : List Oper} {i0 : Nat}, edgesOk i0 os = true → ∀ (i : Nat) o, os[i]? = some o → ∀ e ∈ o.after.toList, Region.binds .any e = true → e.on < i0 + i
  | [], _, _, i, o, ho => by simp at ho
  | o0 :: os, i0, h, i, o, ho => by
    simp only [edgesOk, Bool.and_eq_true, List.all_eq_true, Bool.or_eq_true, Bool.not_eq_true', decide_eq_true_eq] at h
    cases i with
    | zero =>
      simp at ho; subst ho
      intro e he hb
      rcases h.1 e he with h1 | h1
      · rw [hb] at h1; cases h1
      · exact h1
    | succ i =>
      intro e he hb
      have := edgesOk_spec h.2 i o (by simpa using ho) e he hb
      omega

/-- The run in the order of the text. -/
theorem reg_run {R : Type} {r : R} {C : Callee} {fl : Nat} : ∀ {al : List AOper} {s : List Value} {h : AH} {K : List Value → AH → Option R}, regK C fl al s h K = some r →
    ∃ (S : Nat → List Value) (H : Nat → AH) (V : Nat → Value), S 0 = s ∧ H 0 = h ∧ (∀ (i : Nat) x, al[i]? = some x → opV C fl x (S i) (H i) = some (V i, H (i + 1)) ∧ S (i + 1) = putT (S i) x.dst (V i)) ∧ K (S al.length) (H al.length) = some r
  | [], s, h, K, e => ⟨fun _ => s, fun _ => h, fun _ => undef, rfl, rfl, fun i x hx => by simp at hx, e⟩
  | o :: os, s, h, K, e => by
    obtain ⟨v, h1, g1, g2⟩ := regK_cons e
    obtain ⟨S, H, V, s0, h0, hs, hk⟩ := reg_run g2
    refine ⟨fun i => match i with | 0 => s | i + 1 => S i, fun i => match i with | 0 => h | i + 1 => H i, fun i => match i with | 0 => v | i + 1 => V i, rfl, rfl, ?_, hk⟩
    intro i x hx
    cases i with
    | zero =>
      simp at hx; subst hx
      exact ⟨by simp only [h0]; exact g1, s0⟩
    | succ i => exact hs i x (by simpa using hx)

def WF (h : AH) : Prop := ∀ b cs, h.blk b = some cs → b < h.next
theorem WF.step {fl h h1} (hw : WF h) (p : AStep fl h h1) : WF h1 := by
  intro b cs hb
  rcases Nat.lt_or_ge b h1.next with h2 | h2
  · exact h2
  · obtain ⟨cs', h3⟩ := p.2.2 b cs (.inr h2) hb
    have := hw b cs' h3
    have := p.1
    omega

section
variable {fl base rbase : Nat} {μ μ' μ0 : Mu} {h hj hj1 hp : AH} {w w' w0 : World}

theorem Sim.earlier (s : Sim base rbase μ hp w) (st : AStep hj.next hj hp) (wf : WF hj) : Sim base rbase μ hj w := by
  have hb : ∀ b cs, hj.blk b = some cs → hp.blk b = some cs := fun b cs hb => by
    have := wf b cs hb
    rw [st.2.1 b this this]; exact hb
  exact { cell := fun b cs rb o h1 => s.cell b cs rb o (hb _ _ h1), own := fun b cs rb o h0 h1 => s.own b cs rb o h0 (hb _ _ h1), inj := fun b b' cs cs' rb o o' h0 h1 h2 => s.inj b b' cs cs' rb o o' h0 (hb _ _ h1) (hb _ _ h2), lt := s.lt, bnd := wf }

/-- Blocks that are not mapped make no difference. -/
theorem Post.garbage (s : Sim base rbase μ hj w) (st : AStep hj.next hj hp) (wf : WF hp) (hf : Fresh μ hj.next hp.next) : Post fl base rbase μ hj w μ hp w := by
  have hlt : ∀ b cs x, hp.blk b = some cs → μ b = some x → b < hj.next ∧ hj.blk b = some cs := fun b cs x hb hm => by
    have h1 := wf b cs hb
    have h2 : b < hj.next := by
      rcases Nat.lt_or_ge b hj.next with h2 | h2
      · exact h2
      · rw [hf b h2 h1] at hm; cases hm
    exact ⟨h2, by rw [← st.2.1 b h2 h2]; exact hb⟩
  refine { sim := { cell := fun b cs rb o h1 hm => s.cell b cs rb o (hlt b cs _ h1 hm).2 hm, own := fun b cs rb o h0 h1 hm => s.own b cs rb o h0 (hlt b cs _ h1 hm).2 hm, inj := fun b b' cs cs' rb o o' h0 h1 h2 m1 m2 => s.inj b b' cs cs' rb o o' h0 (hlt _ _ _ h1 m1).2 (hlt _ _ _ h2 m2).2 m1 m2, lt := s.lt, bnd := wf }, mu := fun _ _ => rfl, nx := st.1, old := fun b hb _ => st.2.1 b hb hb, dead := fun b cs hb hc => st.2.2 b cs (.inl hb) hc, fr := fun _ _ _ => rfl, sz := fun _ _ => rfl, hs := Nat.le_refl _, os := rfl, tape := rfl, output := rfl, new := ?_ }
  intro b cs rb o h1 _ hm hb
  exact absurd (hlt b cs _ hb hm).1 (by omega)

/-- A quiet operation that comes late: what has been carried out meanwhile stays. -/
theorem Post.merge (p : Post fl base rbase μ0 h w0 μ hp w) (q : Post hj.next base rbase μ hj w μ' hj1 w') (sj : Sim base rbase μ hj w) (fq : Fresh μ hj.next hj1.next)
    (st : AStep hj1.next hj1 hp) (stj : AStep hj.next hj hp) (h0 : h.next ≤ hj.next) : Post fl base rbase μ0 h w0 μ' hp w' := by
  have wf : WF hp := p.sim.bnd
  have hq : ∀ rb, rb < w.heap.size → w'.heap[rb]? = w.heap[rb]? := fun rb hrb => q.fr rb hrb fun b cs o h1 h2 => by omega
  have hlow : ∀ b cs, b < hj1.next → hp.blk b = some cs → hj1.blk b = some cs := fun b cs hb hc => by rw [← st.2.1 b hb hb]; exact hc
  have hmu : ∀ b, hj1.next ≤ b → μ' b = μ b := fun b hb => q.mu b (by omega)
  have hnew : ∀ b cs rb o, hj.next ≤ b → b < hj1.next → μ' b = some (rb, o) → hp.blk b = some cs → w.heap.size ≤ rb := fun b cs rb o h1 h2 hm hc => by
    rcases q.new b cs rb o h1 h2 hm (hlow b cs h2 hc) with h3 | ⟨b0, _, _, h4, h5, _⟩
    · exact h3
    · omega
  have hvm : ∀ {v v'}, VRel μ (szOf w) v v' → VRel μ' (szOf w') v v' := fun hv => q.vrel sj fq hv
  refine { sim := { cell := ?_, own := ?_, inj := ?_, lt := q.sim.lt, bnd := wf }, mu := ?_, nx := p.nx, old := p.old, dead := p.dead, fr := ?_, sz := ?_, hs := Nat.le_trans p.hs q.hs, os := q.os.trans p.os, tape := q.tape.trans p.tape, output := q.output.trans p.output, new := ?_ }
  · intro b cs rb o hb hm j v hv
    rcases Nat.lt_or_ge b hj1.next with hl | hl
    · exact q.sim.cell b cs rb o (hlow b cs hl hb) hm j v hv
    · rw [hmu b hl] at hm
      obtain ⟨v', h1, h2⟩ := p.sim.cell b cs rb o hb hm j v hv
      exact ⟨v', by rw [cell_eq (hq rb (p.sim.lt b rb o hm))]; exact h1, hvm h2⟩
  · intro b cs rb o hbb hb hm
    rcases Nat.lt_or_ge b hj1.next with hl | hl
    · exact q.sim.own b cs rb o hbb (hlow b cs hl hb) hm
    · rw [hmu b hl] at hm
      rw [hq rb (p.sim.lt b rb o hm)]
      exact p.sim.own b cs rb o hbb hb hm
  · have mixed : ∀ b b' cs cs' rb o o', b < hj1.next → hj1.next ≤ b' → hp.blk b = some cs → hp.blk b' = some cs' → μ' b = some (rb, o) → μ b' = some (rb, o') → b < hj.next ∧ μ b = some (rb, o) := by
      intro b b' cs cs' rb o o' h1 h2 h3 h4 m1 m2
      rcases Nat.lt_or_ge b hj.next with hl | hl
      · exact ⟨hl, by rw [← q.mu b (by omega)]; exact m1⟩
      · have := hnew b cs rb o hl h1 m1 h3
        have := p.sim.lt b' rb o' m2
        omega
    intro b b' cs cs' rb o o' hbb h1 h2 m1 m2
    rcases Nat.lt_or_ge b hj1.next with hl | hl
    · rcases Nat.lt_or_ge b' hj1.next with hl' | hl'
      · exact q.sim.inj b b' cs cs' rb o o' hbb (hlow _ _ hl h1) (hlow _ _ hl' h2) m1 m2
      · rw [hmu b' hl'] at m2
        obtain ⟨_, m1'⟩ := mixed b b' cs cs' rb o o' hl hl' h1 h2 m1 m2
        exact p.sim.inj b b' cs cs' rb o o' hbb h1 h2 m1' m2
    · rw [hmu b hl] at m1
      rcases Nat.lt_or_ge b' hj1.next with hl' | hl'
      · obtain ⟨_, m2'⟩ := mixed b' b cs' cs rb o' o hl' hl h2 h1 m2 m1
        exact p.sim.inj b b' cs cs' rb o o' hbb h1 h2 m1 m2'
      · rw [hmu b' hl'] at m2
        exact p.sim.inj b b' cs cs' rb o o' hbb h1 h2 m1 m2
  · intro b hb
    have h1 := st.1
    have h2 := q.nx
    rw [q.mu b (by omega), p.mu b hb]
  · intro rb hrb hno
    rw [hq rb (Nat.lt_of_lt_of_le hrb p.hs)]
    exact p.fr rb hrb hno
  · intro rb hrb
    rw [q.sz rb (Nat.lt_of_lt_of_le hrb p.hs), p.sz rb hrb]
  · intro b cs rb o h1 h2 hm hc
    by_cases hin : hj.next ≤ b ∧ b < hj1.next
    · exact .inl (Nat.le_trans p.hs (hnew b cs rb o hin.1 hin.2 hm hc))
    · rw [q.mu b hin] at hm
      exact p.new b cs rb o h1 h2 hm hc
end

/-- An operation that changes what was there before it. -/
def isoH (x : AOper) : Prop := x.op.pure = false ∧ x.iso = true

section
variable {P : Program} {C : Callee} {fl base rbase : Nat} {ops : Array Oper} {al : List AOper} {S : Nat → List Value} {H : Nat → AH} {V : Nat → Value}

theorem next_iso (al : List AOper) : ∀ d j, j + d = al.length → ∃ p, j ≤ p ∧ p ≤ al.length ∧ (∀ x, al[p]? = some x → isoH x) ∧ (∀ (i : Nat) x, j ≤ i → i < p → al[i]? = some x → ¬ isoH x)
  | 0, j, hj => ⟨j, Nat.le_refl _, by omega, fun x hx => (by rw [List.getElem?_eq_none (by omega)] at hx; cases hx), fun i x h1 h2 => by omega⟩
  | d + 1, j, hj => by
    by_cases hx : ∃ x, al[j]? = some x ∧ isoH x
    · obtain ⟨x, h1, h2⟩ := hx
      exact ⟨j, Nat.le_refl _, by omega, fun y hy => (by rw [h1] at hy; injection hy with hy; subst hy; exact h2), fun i x h1 h2 => by omega⟩
    · obtain ⟨p, h1, h2, h3, h4⟩ := next_iso al d (j + 1) (by omega)
      refine ⟨p, by omega, h2, h3, fun i x hi1 hi2 hix hiso => ?_⟩
      by_cases hij : i = j
      · subst hij; exact hx ⟨x, hix, hiso⟩
      · exact h4 i x (by omega) hi2 hix hiso
end
end Go.Abs
