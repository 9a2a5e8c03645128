/- The relation of the abstract heap to the machine's memory, and what a step of both leaves of it. -/
import Derived.Test.YtgplcfblbkmcmaaGreatGoAbsA0
import Derived.Below
namespace Go.Abs

def szOf (w : World) (rb : Nat) : Nat := match w.heap[rb]? with
  | some (.cells c _ _) => c.size
  | _ => 0

abbrev Mu := Nat → Option (Nat × Nat)

inductive VRel (μ : Mu) (sz : Nat → Nat) : Value → Value → Prop
  | poison (v) : VRel μ sz (.tuple #[]) v
  | skip : VRel μ sz skipv (.tuple #[])
  | bool (b) : VRel μ sz (.bool b) (.bool b)
  | int (k n) : VRel μ sz (.int k n) (.int k n)
  | nilPtr : VRel μ sz (.pointer none) (.pointer none)
  | ptr {b o s rb off} : μ b = some (rb, off) → VRel μ sz (.pointer (some ⟨b, o, s⟩)) (.pointer (some ⟨rb, off + o, none⟩))
  | nilSlice : VRel μ sz (.slice none 0 0) (.slice none 0 0)
  | slice {b o s rb off l c} : μ b = some (rb, off) → c < UNK → l ≤ c → VRel μ sz (.slice (some ⟨b, o, s⟩) l c) (.slice (some ⟨rb, off + o, none⟩) l c)
  | sliceU {b o s rb off o' l c es} : μ b = some (rb, off) → (l = 0 ∨ o' = off + o) → l ≤ c → o' + c * es ≤ sz rb →
      VRel μ sz (.slice (some ⟨b, o, s⟩) l (UNK + es)) (.slice (some ⟨rb, o', none⟩) l c)
  | nilFunc : VRel μ sz .nilFunc .nilFunc
  | func {f} {f1 f2 c1 c2 : List Value} : f1.length = f2.length → (∀ (i : Nat) (h1 : i < f1.length) (h2 : i < f2.length), VRel μ sz f1[i] f2[i]) →
      c1.length = c2.length → (∀ (i : Nat) (h1 : i < c1.length) (h2 : i < c2.length), VRel μ sz c1[i] c2[i]) →
      VRel μ sz (.func (.func f) ⟨f1⟩ ⟨c1⟩) (.func (.func f) ⟨f2⟩ ⟨c2⟩)
  | agg {f1 f2 : List Value} : f1.length = f2.length → (∀ (i : Nat) (h1 : i < f1.length) (h2 : i < f2.length), VRel μ sz f1[i] f2[i]) → VRel μ sz (.agg ⟨f1⟩) (.agg ⟨f2⟩)
  | tuple {f1 f2 : List Value} : f1.length = f2.length → (∀ (i : Nat) (h1 : i < f1.length) (h2 : i < f2.length), VRel μ sz f1[i] f2[i]) → VRel μ sz (.tuple ⟨f1⟩) (.tuple ⟨f2⟩)

/-- Lists of values, one by one. -/
def LRel (μ : Mu) (sz : Nat → Nat) (xs ys : List Value) : Prop :=
  xs.length = ys.length ∧ ∀ (i : Nat) (h1 : i < xs.length) (h2 : i < ys.length), VRel μ sz xs[i] ys[i]

theorem LRel.nil {μ sz} : LRel μ sz [] [] := ⟨rfl, fun i h1 => by simp at h1⟩
theorem LRel.cons {μ sz x y xs ys} (h : VRel μ sz x y) (t : LRel μ sz xs ys) : LRel μ sz (x :: xs) (y :: ys) :=
  ⟨by simp [t.1], fun i h1 h2 => by
    cases i with
    | zero => exact h
    | succ i => exact t.2 i (by simpa using h1) (by simpa using h2)⟩
theorem LRel.append {μ sz xs ys xs' ys'} (h : LRel μ sz xs ys) (t : LRel μ sz xs' ys') : LRel μ sz (xs ++ xs') (ys ++ ys') := by
  refine ⟨by simp [h.1, t.1], fun i h1 h2 => ?_⟩
  by_cases hi : i < xs.length
  · rw [List.getElem_append_left hi, List.getElem_append_left (h.1 ▸ hi)]; exact h.2 i hi _
  · have h3 : ¬ i < ys.length := h.1 ▸ hi
    rw [List.getElem_append_right (by omega), List.getElem_append_right (by omega)]
    have := t.2 (i - xs.length) (by simp at h1; omega) (by simp at h2; have := h.1; omega)
    simp only [h.1] at this ⊢
    exact this
theorem LRel.get {μ sz xs ys} (h : LRel μ sz xs ys) {i : Nat} {v} (hv : xs[i]? = some v) : ∃ v', ys[i]? = some v' ∧ VRel μ sz v v' := by
  obtain ⟨hi, rfl⟩ := List.getElem?_eq_some_iff.1 hv
  have hi' : i < ys.length := h.1 ▸ hi
  exact ⟨ys[i], List.getElem?_eq_getElem hi', h.2 i hi hi'⟩
theorem LRel.of_get {μ sz xs ys} (hl : xs.length = ys.length) (h : ∀ (i : Nat) v, xs[i]? = some v → ∃ v', ys[i]? = some v' ∧ VRel μ sz v v') : LRel μ sz xs ys :=
  ⟨hl, fun i h1 h2 => by
    obtain ⟨v', hv', hr⟩ := h i _ (List.getElem?_eq_getElem h1)
    rw [List.getElem?_eq_getElem h2] at hv'
    injection hv' with hv'
    subst hv'; exact hr⟩

theorem VRel.mono {μ μ' : Mu} {sz sz' : Nat → Nat} {v v' : Value} (h : VRel μ sz v v') (hm : ∀ b x, μ b = some x → μ' b = some x)
    (hs : ∀ b rb o, μ b = some (rb, o) → sz rb ≤ sz' rb) : VRel μ' sz' v v' := by
  induction h with
  | poison v => exact .poison v
  | skip => exact .skip
  | bool b => exact .bool b
  | int k n => exact .int k n
  | nilPtr => exact .nilPtr
  | ptr h => exact .ptr (hm _ _ h)
  | nilSlice => exact .nilSlice
  | slice h hc h1 => exact .slice (hm _ _ h) hc h1
  | sliceU h h1 h2 h3 => exact .sliceU (hm _ _ h) h1 h2 (Nat.le_trans h3 (hs _ _ _ h))
  | nilFunc => exact .nilFunc
  | func l1 _ l2 _ ih1 ih2 => exact .func l1 ih1 l2 ih2
  | agg l _ ih => exact .agg l ih
  | tuple l _ ih => exact .tuple l ih

theorem LRel.mono {μ μ' : Mu} {sz sz' : Nat → Nat} {v v' : List Value} (h : LRel μ sz v v') (hm : ∀ b x, μ b = some x → μ' b = some x)
    (hs : ∀ b rb o, μ b = some (rb, o) → sz rb ≤ sz' rb) : LRel μ' sz' v v' := ⟨h.1, fun i h1 h2 => (h.2 i h1 h2).mono hm hs⟩

structure Sim (base rbase : Nat) (μ : Mu) (h : AH) (w : World) : Prop where
  cell : ∀ b cs rb o, h.blk b = some cs → μ b = some (rb, o) → ∀ (j : Nat) v, cs[j]? = some v → ∃ v', w.cell? ⟨rb, o + j, none⟩ = some v' ∧ VRel μ (szOf w) v v'
  own : ∀ b cs rb o, base ≤ b → h.blk b = some cs → μ b = some (rb, o) → rbase ≤ rb ∧ ∃ c t, w.heap[rb]? = some (.cells c t (0, 0))
  inj : ∀ b b' cs cs' rb o o', base ≤ b → h.blk b = some cs → h.blk b' = some cs' → μ b = some (rb, o) → μ b' = some (rb, o') → b = b'
  lt : ∀ b rb o, μ b = some (rb, o) → rb < w.heap.size
  bnd : ∀ b cs, h.blk b = some cs → b < h.next

structure Post (fl base rbase : Nat) (μ : Mu) (h : AH) (w : World) (μ' : Mu) (h' : AH) (w' : World) : Prop where
  sim : Sim base rbase μ' h' w'
  mu : ∀ b, ¬ (h.next ≤ b ∧ b < h'.next) → μ' b = μ b
  nx : h.next ≤ h'.next
  old : ∀ b, b < h.next → b < fl → h'.blk b = h.blk b
  dead : ∀ b cs, b < h.next → h'.blk b = some cs → ∃ cs', h.blk b = some cs'
  fr : ∀ rb, rb < w.heap.size → (∀ b cs o, fl ≤ b → b < h.next → h.blk b = some cs → μ b ≠ some (rb, o)) → w'.heap[rb]? = w.heap[rb]?
  sz : ∀ rb, rb < w.heap.size → szOf w' rb = szOf w rb
  hs : w.heap.size ≤ w'.heap.size
  os : w'.os = w.os
  tape : w'.tape = w.tape
  output : w'.output = w.output
  new : ∀ b cs rb o, h.next ≤ b → b < h'.next → μ' b = some (rb, o) → h'.blk b = some cs →
    w.heap.size ≤ rb ∨ ∃ b0 cs0 o0, fl ≤ b0 ∧ b0 < h.next ∧ h.blk b0 = some cs0 ∧ μ b0 = some (rb, o0)

/-- No number from here to there is mapped. -/
def Fresh (μ : Mu) (lo hi : Nat) : Prop := ∀ b, lo ≤ b → b < hi → μ b = none

theorem Post.refl {fl base rbase μ h w} (hs : Sim base rbase μ h w) : Post fl base rbase μ h w μ h w where
  sim := hs
  mu _ _ := rfl
  nx := Nat.le_refl _
  old _ _ _ := rfl
  dead _ cs _ h := ⟨cs, h⟩
  fr _ _ _ := rfl
  sz _ _ := rfl
  hs := Nat.le_refl _
  os := rfl
  tape := rfl
  output := rfl
  new b _ _ _ h1 h2 := by omega

theorem Post.muLe {fl base rbase μ h w μ' h' w'} (p : Post fl base rbase μ h w μ' h' w') (hf : Fresh μ h.next h'.next) : ∀ b x, μ b = some x → μ' b = some x := by
  intro b x hb
  rw [p.mu b, hb]
  rintro ⟨h1, h2⟩
  rw [hf b h1 h2] at hb; cases hb

theorem Post.vrel {fl base rbase μ h w μ' h' w'} (p : Post fl base rbase μ h w μ' h' w') (s : Sim base rbase μ h w) (hf : Fresh μ h.next h'.next) {v v'} (hv : VRel μ (szOf w) v v') : VRel μ' (szOf w') v v' :=
  hv.mono (p.muLe hf) fun b rb o hb => by rw [p.sz rb (s.lt b rb o hb)]; exact Nat.le_refl _

theorem Post.lrel {fl base rbase μ h w μ' h' w'} (p : Post fl base rbase μ h w μ' h' w') (s : Sim base rbase μ h w) (hf : Fresh μ h.next h'.next) {v v'} (hv : LRel μ (szOf w) v v') : LRel μ' (szOf w') v v' :=
  ⟨hv.1, fun i h1 h2 => p.vrel s hf (hv.2 i h1 h2)⟩

theorem Post.fresh {fl base rbase μ h w μ' h' w'} (p : Post fl base rbase μ h w μ' h' w') {hi} (hf : Fresh μ h.next hi) : Fresh μ' h'.next hi := by
  intro b h1 h2
  rw [p.mu b (by omega)]
  exact hf b (Nat.le_trans p.nx h1) h2

theorem Fresh.sub {μ lo hi lo' hi'} (h : Fresh μ lo hi) (h1 : lo ≤ lo') (h2 : hi' ≤ hi) : Fresh μ lo' hi' := fun b a c => h b (Nat.le_trans h1 a) (Nat.lt_of_lt_of_le c h2)

theorem Post.trans {fl fl' base rbase μ h w μ1 h1 w1 μ2 h2 w2} (p : Post fl base rbase μ h w μ1 h1 w1) (q : Post fl' base rbase μ1 h1 w1 μ2 h2 w2) (hfl : fl ≤ fl')
     : Post fl base rbase μ h w μ2 h2 w2 where
  sim := q.sim
  mu b hb := by
    have := p.nx; have := q.nx
    rw [q.mu b (by omega), p.mu b (by omega)]
  nx := Nat.le_trans p.nx q.nx
  old b hb hbf := by rw [q.old b (Nat.lt_of_lt_of_le hb p.nx) (Nat.lt_of_lt_of_le hbf hfl), p.old b hb hbf]
  dead b cs hb hc := by
    obtain ⟨cs', h'⟩ := q.dead b cs (Nat.lt_of_lt_of_le hb p.nx) hc
    exact p.dead b cs' hb h'
  fr rb hrb hno := by
    have e1 := p.fr rb hrb hno
    rw [← e1]
    refine q.fr rb (Nat.lt_of_lt_of_le hrb p.hs) ?_
    intro b cs o hb1 hb2 hbk hmu
    by_cases hb : b < h.next
    · obtain ⟨cs', hc'⟩ := p.dead b cs hb hbk
      rw [p.mu b (by omega)] at hmu
      exact hno b cs' o (Nat.le_trans hfl hb1) hb hc' hmu
    · rcases p.new b cs rb o (by omega) hb2 hmu hbk with hh | ⟨b0, cs0, o0, a1, a2, a3, a4⟩
      · omega
      · exact hno b0 cs0 o0 a1 a2 a3 a4
  sz rb hrb := by rw [q.sz rb (Nat.lt_of_lt_of_le hrb p.hs), p.sz rb hrb]
  hs := Nat.le_trans p.hs q.hs
  os := q.os.trans p.os
  tape := q.tape.trans p.tape
  output := q.output.trans p.output
  new b cs rb o hb1 hb2 hmu hbk := by
    by_cases hb : b < h1.next
    · obtain ⟨cs', hc'⟩ := q.dead b cs hb hbk
      rw [q.mu b (by omega)] at hmu
      exact p.new b cs' rb o hb1 hb hmu hc'
    · rcases q.new b cs rb o (by omega) hb2 hmu hbk with hh | ⟨b0, cs0, o0, a1, a2, a3, a4⟩
      · exact .inl (Nat.le_trans p.hs hh)
      · by_cases hb0 : b0 < h.next
        · obtain ⟨cs', hc'⟩ := p.dead b0 cs0 hb0 a3
          rw [p.mu b0 (by omega)] at a4
          exact .inr ⟨b0, cs', o0, Nat.le_trans hfl a1, hb0, hc', a4⟩
        · exact p.new b0 cs0 rb o0 (by omega) a2 a4 a3

/-- A lower floor forbids less. -/
theorem Post.floor {fl fl' base rbase μ h w μ' h' w'} (p : Post fl' base rbase μ h w μ' h' w') (hfl : fl ≤ fl') : Post fl base rbase μ h w μ' h' w' where
  sim := p.sim
  mu := p.mu
  nx := p.nx
  old b hb hbf := p.old b hb (Nat.lt_of_lt_of_le hbf hfl)
  dead := p.dead
  fr rb hrb hno := p.fr rb hrb fun b cs o h1 => hno b cs o (Nat.le_trans hfl h1)
  sz := p.sz
  hs := p.hs
  os := p.os
  tape := p.tape
  output := p.output
  new b cs rb o h1 h2 h3 h4 := (p.new b cs rb o h1 h2 h3 h4).imp id fun ⟨b0, cs0, o0, a1, a2⟩ => ⟨b0, cs0, o0, Nat.le_trans hfl a1, a2⟩

end Go.Abs
