/- A region that draws its order: the walk over every order. -/
import Derived.Test.YtgplcfblbkmcmaaGreatGoAbsA12
namespace Go.Abs

/-- What holds of a region that draws, and of its run in the order of the text. -/
structure DR (P : Program) (C : Callee) (fl base rbase : Nat) (ops : Array Oper) (al : List AOper) (S : Nat → List Value) (H : Nat → AH) (V : Nat → Value) : Prop where
  hC : CSound P C
  len : al.length = ops.size
  ok : ∀ (i : Nat) o x, ops[i]? = some o → al[i]? = some x → okA P ops o x = true
  edge : ∀ (i : Nat) o, ops[i]? = some o → ∀ e ∈ o.after.toList, Region.binds .any e = true → e.on < i
  ord : ∀ E, DC ops E → ∀ (i j : Nat) x y, i < j → al[i]? = some x → al[j]? = some y → mustOrder x y = true → E j → E i
  run : ∀ (i : Nat) x, al[i]? = some x → opV C fl x (S i) (H i) = some (V i, H (i + 1)) ∧ S (i + 1) = putT (S i) x.dst (V i)
  fl0 : fl ≤ (H 0).next
  wf0 : WF (H 0)
  hb : base ≤ fl

namespace DR
variable {P : Program} {C : Callee} {fl base rbase : Nat} {ops : Array Oper} {al : List AOper} {S : Nat → List Value} {H : Nat → AH} {V : Nat → Value}

theorem steps (d : DR P C fl base rbase ops al S H V) : ∀ i, i ≤ al.length → AStep fl (H 0) (H i)
  | 0, _ => AStep.refl _ _
  | i + 1, hi => by
    have ih := d.steps i (by omega)
    obtain ⟨x, hx⟩ : ∃ x, al[i]? = some x := ⟨al[i], List.getElem?_eq_getElem (by omega)⟩
    have hfl : fl ≤ (H i).next := Nat.le_trans d.fl0 ih.1
    exact ih.trans ((opV_astep d.hC.toCAbs (d.run i x hx).1).floor (floorOf_ge hfl)) (Nat.le_refl _)
theorem flH (d : DR P C fl base rbase ops al S H V) {i} (hi : i ≤ al.length) : fl ≤ (H i).next := Nat.le_trans d.fl0 (d.steps i hi).1
theorem step1 (d : DR P C fl base rbase ops al S H V) {i x} (hx : al[i]? = some x) : AStep (floorOf x fl (H i)) (H i) (H (i + 1)) := opV_astep d.hC.toCAbs (d.run i x hx).1
theorem lt (d : DR P C fl base rbase ops al S H V) {i : Nat} {x} (hx : al[i]? = some x) : i < al.length := (List.getElem?_eq_some_iff.1 hx).1
theorem mono (d : DR P C fl base rbase ops al S H V) : ∀ {j i}, i ≤ j → j ≤ al.length → (H i).next ≤ (H j).next
  | 0, i, h1, _ => by have : i = 0 := by omega
                      subst this; exact Nat.le_refl _
  | j + 1, i, h1, h2 => by
    by_cases h : i = j + 1
    · subst h; exact Nat.le_refl _
    · obtain ⟨x, hx⟩ : ∃ x, al[j]? = some x := ⟨al[j], List.getElem?_eq_getElem (by omega)⟩
      exact Nat.le_trans (d.mono (by omega) (by omega)) (d.step1 hx).1
theorem wf (d : DR P C fl base rbase ops al S H V) : ∀ {i}, i ≤ al.length → WF (H i)
  | 0, _ => d.wf0
  | i + 1, hi => by
    obtain ⟨x, hx⟩ : ∃ x, al[i]? = some x := ⟨al[i], List.getElem?_eq_getElem (by omega)⟩
    exact (d.wf (i := i) (by omega)).step (d.step1 hx)
theorem pureH (d : DR P C fl base rbase ops al S H V) {i x} (hx : al[i]? = some x) (hp : x.op.pure = true) : H (i + 1) = H i := (pure_opV hp (d.run i x hx).1).1
/-- Where nothing but quiet operations stands between. -/
theorem quiet (d : DR P C fl base rbase ops al S H V) : ∀ {j i}, i ≤ j → j ≤ al.length → (∀ (k : Nat) x, i ≤ k → k < j → al[k]? = some x → ¬ isoH x) → AStep (H i).next (H i) (H j)
  | 0, i, h1, _, _ => by have : i = 0 := by omega
                         subst this; exact AStep.refl _ _
  | j + 1, i, h1, h2, hq => by
    by_cases h : i = j + 1
    · subst h; exact AStep.refl _ _
    · obtain ⟨x, hx⟩ : ∃ x, al[j]? = some x := ⟨al[j], List.getElem?_eq_getElem (by omega)⟩
      have ih := d.quiet (j := j) (i := i) (by omega) (by omega) (fun k y a b => hq k y a (by omega))
      have hm := d.mono (i := i) (j := j) (by omega) (by omega)
      by_cases hp : x.op.pure = true
      · rw [d.pureH hx hp]; exact ih
      · have hiso : x.iso = false := by
          have := hq j x (by omega) (by omega) hx
          unfold isoH at this
          cases hxi : x.iso with
          | true => exact absurd ⟨by simpa using hp, hxi⟩ this
          | false => rfl
        have := d.step1 hx
        unfold floorOf at this
        rw [hiso] at this
        exact ih.trans this hm
theorem freshRange (d : DR P C fl base rbase ops al S H V) {μ : Mu} : ∀ {j i}, i ≤ j → j ≤ al.length → (∀ k, i ≤ k → k < j → Fresh μ (H k).next (H (k + 1)).next) → Fresh μ (H i).next (H j).next
  | 0, i, h1, _, _ => by
    have : i = 0 := by omega
    subst this
    intro b hb1 hb2; omega
  | j + 1, i, h1, h2, hq => by
    by_cases h : i = j + 1
    · subst h; intro b hb1 hb2; omega
    · have ih := d.freshRange (j := j) (i := i) (by omega) (by omega) (fun k a b => hq k a (by omega))
      intro b hb1 hb2
      rcases Nat.lt_or_ge b (H j).next with hl | hl
      · exact ih b hb1 hl
      · exact hq j (by omega) (by omega) b hl hb2
end DR

/-- What has been carried out is 'L'; all that is known of the state. -/
structure DInv {P : Program} {C : Callee} {fl base rbase : Nat} {ops : Array Oper} {al : List AOper} {S : Nat → List Value} {H : Nat → AH} {V : Nat → Value} (_d : DR P C fl base rbase ops al S H V)
    (μ0 : Mu) (w0 : World) (a0 : Act) (hend : Nat) (L : Array Bool) (a : Act) (w : World) (μ : Mu) (sE : List Value) (p : Nat) : Prop where
  size : L.size = ops.size
  dc : DC ops fun i => L.getD i false = true
  dfr : a.defers = a0.defers
  t : LRel μ (szOf w) sE a.tmps.toList
  cut : ∀ t, ∃ m, m ≤ al.length ∧ (∀ (i : Nat) x, al[i]? = some x → x.dst = some t → L.getD i false = true → i < m) ∧ (∀ (i : Nat) x, al[i]? = some x → x.dst = some t → ¬ L.getD i false = true → m ≤ i) ∧ sE[t]? = (S m)[t]?
  ple : p ≤ al.length
  pat : ∀ x, al[p]? = some x → isoH x ∧ ¬ L.getD p false = true
  plt : ∀ (i : Nat) x, i < p → al[i]? = some x → isoH x → L.getD i false = true
  post : Post fl base rbase μ0 (H 0) w0 μ (H p) w
  fresh : ∀ i, i < al.length → ¬ L.getD i false = true → Fresh μ (H i).next (H (i + 1)).next
  frend : Fresh μ (H al.length).next hend
  hr : rbase ≤ w.heap.size

section
variable {P : Program} {C : Callee} {fl base rbase : Nat} {ops : Array Oper} {al : List AOper} {S : Nat → List Value} {H : Nat → AH} {V : Nat → Value} {d : DR P C fl base rbase ops al S H V}
variable {μ0 : Mu} {w0 : World} {a0 : Act} {hend : Nat} {L : Array Bool} {a : Act} {w : World} {μ : Mu} {sE : List Value} {p : Nat}

theorem setGet (L : Array Bool) (j i : Nat) (hj : j < L.size) : ((L.setIfInBounds j true).getD i false = true) ↔ (i = j ∨ L.getD i false = true) := by
  simp only [Array.getD_eq_getD_getElem?, Array.getElem?_setIfInBounds]
  by_cases e : j = i
  · subst e; simp [hj]
  · simp [e, Ne.symm e]

/-- No writer of a temporary between two cuts: the temporary is the same. -/
theorem cut_same (d : DR P C fl base rbase ops al S H V) (t : Nat) : ∀ {n m}, m ≤ n → n ≤ al.length → (∀ (i : Nat) x, m ≤ i → i < n → al[i]? = some x → x.dst ≠ some t) → (S m)[t]? = (S n)[t]?
  | 0, m, h1, _, _ => by have : m = 0 := by omega
                         subst this; rfl
  | n + 1, m, h1, h2, hq => by
    by_cases h : m = n + 1
    · subst h; rfl
    · obtain ⟨x, hx⟩ : ∃ x, al[n]? = some x := ⟨al[n], List.getElem?_eq_getElem (by omega)⟩
      rw [cut_same d t (n := n) (m := m) (by omega) (by omega) (fun i y a b => hq i y a (by omega)), (d.run n x hx).2]
      have hne := hq n x (by omega) (by omega) hx
      cases hd : x.dst with
      | none => rfl
      | some q =>
        have : q ≠ t := fun e => hne (by rw [hd, e])
        simp only [putT]
        rw [List.getElem?_set_ne this]

theorem mustOrder_tw {x y : AOper} {t} (hx : x.dst = some t) (hy : t ∈ y.reads ∨ y.dst = some t) : mustOrder x y = true := by
  unfold mustOrder
  rw [hx]
  rcases hy with hy | hy
  · simp [hy]
  · simp [hy]
theorem mustOrder_wt {x y : AOper} {t} (hy : y.dst = some t) (hx : t ∈ x.reads) : mustOrder x y = true := by
  unfold mustOrder
  rw [hy]
  simp [hx]
theorem mustOrder_iso {x y : AOper} (hx : x.op.pure = false) (hy : y.op.pure = false) (h : x.iso = true ∨ y.iso = true) : mustOrder x y = true := by
  unfold mustOrder
  simp only [hx, hy, Bool.not_false, Bool.true_and, Bool.or_eq_true]
  right; exact h

/-- What the next operation reads is what it read in the order of the text. -/
theorem DInv.agree (v : DInv d μ0 w0 a0 hend L a w μ sE p) {j : Nat} {x : AOper} (hx : al[j]? = some x) (hj : ¬ L.getD j false = true)
    (hdc : DC ops fun i => i = j ∨ L.getD i false = true) : Agree x.reads sE (S j) := by
  intro t ht
  obtain ⟨m, hm1, hm2, hm3, hm4⟩ := v.cut t
  have hjl := d.lt hx
  -- a writer ahead of j is carried out, one behind it is not
  have w1 : ∀ (i : Nat) y, i < j → al[i]? = some y → y.dst = some t → L.getD i false = true := fun i y hi hy hd => by
    have := d.ord _ hdc i j y x hi hy hx (mustOrder_tw hd (.inl ht)) (.inl rfl)
    rcases this with h | h
    · omega
    · exact h
  have w2 : ∀ (i : Nat) y, j < i → al[i]? = some y → y.dst = some t → ¬ L.getD i false = true := fun i y hi hy hd hL =>
    hj (d.ord _ v.dc j i x y hi hx hy (mustOrder_wt hd ht) hL)
  have hs : (S m)[t]? = (S j)[t]? := by
    rcases Nat.le_total m j with h | h
    · refine cut_same d t h (by omega) fun i y h1 h2 hy hd => ?_
      have := hm2 i y hy hd (w1 i y h2 hy hd); omega
    · refine (cut_same d t h hm1 fun i y h1 h2 hy hd => ?_).symm
      by_cases e : i = j
      · subst e
        by_cases hL : L.getD i false = true
        · exact hj hL
        · have := hm3 i y hy hd hL; omega
      · have hnL := w2 i y (by omega) hy hd
        have := hm3 i y hy hd hnL; omega
  rw [List.getD_eq_getElem?_getD, List.getD_eq_getElem?_getD, hm4, hs]

theorem DInv.sE_len (v : DInv d μ0 w0 a0 hend L a w μ sE p) : ∀ m, m ≤ al.length → (S m).length = (S 0).length
  | 0, _ => rfl
  | m + 1, hm => by
    obtain ⟨x, hx⟩ : ∃ x, al[m]? = some x := ⟨al[m], List.getElem?_eq_getElem (by omega)⟩
    rw [(d.run m x hx).2, ← DInv.sE_len v m (by omega)]
    cases x.dst <;> simp [putT]

/-- The cuts behind an operation. -/
theorem DInv.cuts (v : DInv d μ0 w0 a0 hend L a w μ sE p) {j : Nat} {x : AOper} (hx : al[j]? = some x) (hj : ¬ L.getD j false = true) (hlen : sE.length = (S 0).length)
    (hdc : DC ops fun i => i = j ∨ L.getD i false = true) (t : Nat) :
    ∃ m, m ≤ al.length ∧ (∀ (i : Nat) y, al[i]? = some y → y.dst = some t → (i = j ∨ L.getD i false = true) → i < m) ∧ (∀ (i : Nat) y, al[i]? = some y → y.dst = some t → ¬ (i = j ∨ L.getD i false = true) → m ≤ i) ∧ (putT sE x.dst (V j))[t]? = (S m)[t]? := by
  have hjl := d.lt hx
  by_cases hd : x.dst = some t
  · refine ⟨j + 1, by omega, fun i y hy hyd hi => ?_, fun i y hy hyd hi => ?_, ?_⟩
    · rcases hi with rfl | hi
      · omega
      · rcases Nat.lt_or_ge j i with hlt | hge
        · exact absurd (d.ord _ v.dc j i x y hlt hx hy (mustOrder_tw hd (.inr hyd)) hi) hj
        · omega
    · rcases Nat.lt_or_ge i (j + 1) with hlt | hge
      · exfalso
        by_cases e : i = j
        · exact hi (.inl e)
        · exact hi (d.ord _ hdc i j y x (by omega) hy hx (mustOrder_tw hyd (.inr hd)) (.inl rfl))
      · exact hge
    · rw [(d.run j x hx).2, hd]
      simp only [putT, List.getElem?_set]
      rw [hlen, v.sE_len j (by omega)]
      simp
  · obtain ⟨m, hm1, hm2, hm3, hm4⟩ := v.cut t
    refine ⟨m, hm1, fun i y hy hyd hi => ?_, fun i y hy hyd hi => hm3 i y hy hyd fun h => hi (.inr h), ?_⟩
    · rcases hi with rfl | hi
      · rw [hx] at hy; injection hy with hy; subst hy; exact absurd hyd hd
      · exact hm2 i y hy hyd hi
    · cases hq : x.dst with
      | none => exact hm4
      | some q =>
        have : q ≠ t := fun e => hd (by rw [hq, e])
        simp only [putT]
        rw [List.getElem?_set_ne this]; exact hm4
end
end Go.Abs
