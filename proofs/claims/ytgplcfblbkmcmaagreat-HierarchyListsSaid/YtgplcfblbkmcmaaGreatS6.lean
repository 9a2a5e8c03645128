/- The dual list of weights, in plain Lean: both answers are one; taken twice it gives the list back. -/
import Derived.Test.YtgplcfblbkmcmaaGreatS5
namespace Go.Abs.P
open Go.Abs

theorem okW_split (n : Int) : ∀ (xs : List Int) (p : Option Int), okW p n xs = (inW n xs && risingFrom (p.map (· - 1)) n (xs.map (· - 1)))
  | [], _ => rfl
  | x :: xs, p => by
    have ih := okW_split n xs (some x)
    simp only [okW, ih, inW, List.all_cons, List.map_cons, risingFrom, Option.map_some]
    have e1 : decide (0 ≤ x - 1) = decide (1 ≤ x) := by simp only [decide_eq_decide]; omega
    have e2 : decide (x - 1 < n) = decide (x ≤ n) := by simp only [decide_eq_decide]; omega
    rw [e1, e2]
    cases p with
    | none => cases decide (1 ≤ x) <;> cases decide (x ≤ n) <;> simp
    | some q =>
      have e3 : decide (q - 1 < x - 1) = decide (q < x) := by simp only [decide_eq_decide]; omega
      simp only [Option.map_some, e3]
      cases decide (1 ≤ x) <;> cases decide (x ≤ n) <;> cases decide (q < x) <;> simp

theorem othersFrom_snoc (xs : List Int) : ∀ (d i : Nat), othersFrom xs i (d + 1) = othersFrom xs i d ++ (if ((i + d : Nat) : Int) ∈ xs then [] else [((i + d : Nat) : Int)])
  | 0, i => by simp [othersFrom]
  | d + 1, i => by
    have := othersFrom_snoc xs d (i + 1)
    rw [othersFrom, this]
    conv => rhs; rw [othersFrom]
    rw [List.append_assoc, show i + 1 + d = i + (d + 1) by omega]

theorem dual_same (xs : List Int) (n : Nat) : ∀ d, d ≤ n → dualFrom xs n d = (othersFrom (xs.map (· - 1)) 0 d).reverse.map ((n : Int) - ·)
  | 0, _ => rfl
  | d + 1, h => by
    rw [dualFrom, othersFrom_snoc, dual_same xs n d (by omega), List.reverse_append, List.map_append]
    congr 1
    have e : ((d + 1 : Nat) : Int) ∈ xs ↔ ((0 + d : Nat) : Int) ∈ xs.map (· - 1) := by
      simp only [List.mem_map]
      constructor
      · intro h; exact ⟨_, h, by omega⟩
      · rintro ⟨a, h1, h2⟩
        have : a = ((d + 1 : Nat) : Int) := by omega
        rw [← this]; exact h1
    by_cases h1 : ((d + 1 : Nat) : Int) ∈ xs
    · rw [if_pos h1, if_pos (e.1 h1)]; rfl
    · rw [if_neg h1, if_neg (fun q => h1 (e.2 q))]
      simp; omega

theorem dualW_eq (xs : List Int) (n : Int) : dualW xs n = dualR xs n := by
  unfold dualW dualR
  split
  · rfl
  · rename_i h
    rw [okW_split]
    simp only [Option.map_none]
    cases inW n xs with
    | false => simp
    | true =>
      simp only [Bool.true_and, if_true]
      rw [dual_same xs n.toNat n.toNat (Nat.le_refl _), show ((n.toNat : Nat) : Int) = n by omega]

/-- Strictly ascending. -/
theorem asc_ext : ∀ {xs ys : List Int}, xs.Pairwise (· < ·) → ys.Pairwise (· < ·) → (∀ z, z ∈ xs ↔ z ∈ ys) → xs = ys
  | [], [], _, _, _ => rfl
  | [], y :: ys, _, _, h => by have := (h y).2 List.mem_cons_self; cases this
  | x :: xs, [], _, _, h => by have := (h x).1 List.mem_cons_self; cases this
  | x :: xs, y :: ys, h1, h2, h => by
    rw [List.pairwise_cons] at h1 h2
    have e : x = y := by
      have a := (h x).1 List.mem_cons_self
      have b := (h y).2 List.mem_cons_self
      rw [List.mem_cons] at a b
      rcases a with a | a
      · exact a
      · rcases b with b | b
        · exact b.symm
        · have := h2.1 _ a; have := h1.1 _ b; omega
    subst e
    refine congrArg _ (asc_ext h1.2 h2.2 fun z => ?_)
    have hz := h z
    rw [List.mem_cons, List.mem_cons] at hz
    constructor
    · intro hm
      rcases hz.1 (.inr hm) with q | q
      · have := h1.1 _ hm; omega
      · exact q
    · intro hm
      rcases hz.2 (.inr hm) with q | q
      · have := h2.1 _ hm; omega
      · exact q

theorem okW_spec {n : Int} : ∀ {xs : List Int} {p : Option Int}, okW p n xs = true ↔ (∀ x ∈ xs, 1 ≤ x ∧ x ≤ n) ∧ (∀ q, p = some q → ∀ x ∈ xs, q < x) ∧ xs.Pairwise (· < ·)
  | [], p => by simp [okW]
  | x :: xs, p => by
    have ih := okW_spec (n := n) (xs := xs) (p := some x)
    have hp : okW p n (x :: xs) = true ↔ ((1 ≤ x ∧ x ≤ n) ∧ ∀ q, p = some q → q < x) ∧ okW (some x) n xs = true := by
      cases p with
      | none => simp [okW]
      | some q => simp [okW]
    rw [hp, ih, List.pairwise_cons]
    constructor
    · rintro ⟨⟨⟨h1, h2⟩, h3⟩, h4, h5, h6⟩
      refine ⟨fun y hy => ?_, fun q hq y hy => ?_, h5 x rfl, h6⟩
      · rcases List.mem_cons.1 hy with e | e
        · subst e; exact ⟨h1, h2⟩
        · exact h4 y e
      · rcases List.mem_cons.1 hy with e | e
        · subst e; exact h3 q hq
        · have := h5 x rfl y e; have := h3 q hq; omega
    · rintro ⟨h1, h2, h3, h4⟩
      have := h1 x List.mem_cons_self
      exact ⟨⟨⟨this.1, this.2⟩, fun q hq => h2 q hq x List.mem_cons_self⟩, fun y hy => h1 y (List.mem_cons_of_mem _ hy), fun q hq y hy => by injection hq with hq; subst hq; exact h3 y hy, h4⟩

theorem dualFrom_mem {xs : List Int} {n : Nat} : ∀ {d : Nat}, d ≤ n → ∀ {y : Int}, y ∈ dualFrom xs n d ↔ ((n : Int) - d < y ∧ y ≤ n ∧ ((n : Int) + 1 - y) ∉ xs)
  | 0, _, y => by simp [dualFrom]; omega
  | d + 1, h, y => by
    have ih := dualFrom_mem (xs := xs) (n := n) (d := d) (by omega) (y := y)
    simp only [dualFrom, List.mem_append, ih]
    constructor
    · rintro (h1 | ⟨h1, h2, h3⟩)
      · split at h1
        · cases h1
        · rename_i hx
          simp at h1
          subst h1
          refine ⟨by omega, by omega, ?_⟩
          rw [show (n : Int) + 1 - ((n - d : Nat) : Int) = ((d + 1 : Nat) : Int) by omega]; exact hx
      · exact ⟨by omega, h2, h3⟩
    · rintro ⟨h1, h2, h3⟩
      by_cases e : y = ((n - d : Nat) : Int)
      · refine .inl ?_
        subst e
        rw [show (n : Int) + 1 - ((n - d : Nat) : Int) = ((d + 1 : Nat) : Int) by omega] at h3
        rw [if_neg h3]; simp
      · exact .inr ⟨by omega, h2, h3⟩
theorem dualFrom_asc {xs : List Int} {n : Nat} : ∀ {d : Nat}, d ≤ n → (dualFrom xs n d).Pairwise (· < ·)
  | 0, _ => .nil
  | d + 1, h => by
    have ih := dualFrom_asc (xs := xs) (n := n) (d := d) (by omega)
    rw [dualFrom]
    split
    · exact ih
    · rw [List.singleton_append, List.pairwise_cons]
      refine ⟨fun y hy => ?_, ih⟩
      have := (dualFrom_mem (by omega)).1 hy
      omega

theorem dual_twice {xs ys : List Int} {n : Int} (h : dualW xs n = some ys) : dualW ys n = some xs := by
  unfold dualW at h ⊢
  split at h
  · cases h
  · rename_i hn
    rw [if_neg hn]
    split at h
    · rename_i hk
      injection h with h
      obtain ⟨m, rfl⟩ : ∃ m : Nat, n = m := ⟨n.toNat, by omega⟩
      simp only [Int.toNat_natCast] at h ⊢
      subst h
      have hx := okW_spec.1 hk
      have h2 : okW none m (dualFrom xs m m) = true := okW_spec.2 ⟨fun y hy => by have := (dualFrom_mem (Nat.le_refl _)).1 hy; omega, fun q hq => (by cases hq), dualFrom_asc (Nat.le_refl _)⟩
      rw [if_pos h2]
      congr 1
      refine asc_ext (dualFrom_asc (Nat.le_refl _)) hx.2.2 fun z => ?_
      rw [dualFrom_mem (Nat.le_refl _), dualFrom_mem (Nat.le_refl _)]
      constructor
      · rintro ⟨h3, h4, h5⟩
        by_cases e : z ∈ xs
        · exact e
        · exfalso
          refine h5 ⟨by omega, by omega, ?_⟩
          rw [show (m : Int) + 1 - ((m : Int) + 1 - z) = z by omega]; exact e
      · intro hz
        have := hx.1 z hz
        refine ⟨by omega, by omega, ?_⟩
        rintro ⟨_, _, h5⟩
        rw [show (m : Int) + 1 - ((m : Int) + 1 - z) = z by omega] at h5
        exact h5 hz
    · cases h
end Go.Abs.P
