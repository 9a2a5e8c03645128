/- Ascending lists, what they leave out; the dual list of weights. -/
import Derived.Test.YtgplcfblbkmcmaaGreatS1
namespace Go.Abs.P
open Go.Abs

/-- Strictly ascending numbers from 0 to n-1. -/
def risingFrom (prev : Option Int) (n : Int) : List Int → Bool
  | [] => true
  | x :: xs => decide (0 ≤ x) && decide (x < n) && (match prev with | none => true | some p => decide (p < x)) && risingFrom (some x) n xs

theorem Rising_loop {R : Type} (C : Callee) (fl k : Nat) (kn : ulhyst1 R) (kr : ulhyst0 R) {h : AH} {s : Sl} {xs : List Int} (n : Int) (hs : SI h s xs) (hb : xs.length ≤ BIG) :
    ∀ (d i m : Nat), i + d = xs.length → d < m → ulhys_1_l C fl k kn kr m s n (i : Int) h = if risingFrom (if i = 0 then none else xs[i - 1]?) n (xs.drop i) = true then kn h else kr false h := by
  intro d
  induction d with
  | zero =>
    intro i m hi hm
    obtain ⟨m, rfl⟩ : ∃ j, m = j + 1 := ⟨m - 1, by omega⟩
    show ulhys_1_b C fl k _ _ kr s n (i : Int) h = _
    unfold ulhys_1_b ulhys_1_bF
    rw [if_neg (by rw [hs.len]; simp; omega), List.drop_of_length_le (by omega)]
    simp [risingFrom]
  | succ d ih =>
    intro i m hi hm
    obtain ⟨m, rfl⟩ : ∃ j, m = j + 1 := ⟨m - 1, by omega⟩
    show ulhys_1_b C fl k _ _ kr s n (i : Int) h = _
    unfold ulhys_1_b ulhys_1_bF
    have hlt : i < xs.length := by omega
    have next : ulhys_1_b_3 C fl k (ulhys_1_l C fl k kn kr m) kn kr s n (i : Int) h = if risingFrom (some xs[i]) n (xs.drop (i + 1)) = true then kn h else kr false h := by
      unfold ulhys_1_b_3
      rw [w64_succ (by omega), ih (i + 1) m (by omega) (by omega)]
      simp [List.getElem?_eq_getElem hlt]
    rw [if_pos (by rw [hs.len]; simp; omega)]
    rw [hs.read (by omega) (by simp; omega)]
    simp only [Int.toNat_natCast]
    rw [List.drop_eq_getElem_cons hlt]
    by_cases h1 : xs[i] < 0
    · rw [if_neg (by simp [h1])]
      simp [risingFrom, show ¬ (0 ≤ xs[i]) by omega]
    · rw [if_pos (by simp; omega), hs.read (by omega) (by simp; omega)]
      simp only [Int.toNat_natCast]
      by_cases h2 : xs[i] ≥ n
      · rw [if_neg (by simp; omega)]
        simp [risingFrom, show ¬ (xs[i] < n) by omega]
      · rw [if_pos (by simp; omega)]
        by_cases h3 : i = 0
        · subst h3
          rw [if_neg (by simp), next]
          have a : decide ((0 : Int) ≤ xs[0]) = true := decide_eq_true (by omega)
          have b : decide (xs[0] < n) = true := decide_eq_true (by omega)
          simp only [risingFrom, a, b, Bool.true_and, Bool.and_true, if_true]
        · rw [if_pos (by simp; omega), hs.read (by omega) (by simp; omega), show w64 ((i : Int) - 1) = ((i - 1 : Nat) : Int) by rw [w64_id (by omega) (by unfold BIG at hb; omega)]; omega, hs.read (by omega) (by simp; omega), next]
          simp only [Int.toNat_natCast]
          rw [if_neg h3, List.getElem?_eq_getElem (show i - 1 < xs.length by omega)]
          by_cases h4 : xs[i] ≤ xs[i - 1]
          · rw [if_pos (by simp [h4])]
            simp [risingFrom, show ¬ (xs[i - 1] < xs[i]) by omega]
          · rw [if_neg (by simp [h4])]
            have a : decide ((0 : Int) ≤ xs[i]) = true := decide_eq_true (by omega)
            have b : decide (xs[i] < n) = true := decide_eq_true (by omega)
            have c : decide (xs[i - 1] < xs[i]) = true := decide_eq_true (by omega)
            simp only [risingFrom, a, b, c, Bool.true_and]

theorem Rising_spec {fl : Nat} {h : AH} {s : Sl} {xs : List Int} (n : Int) (hs : SI h s xs) (hb : xs.length ≤ BIG) : M fl fn.ref10_Rising [.slice s.a s.l s.c, .int .i64 n] h = some (.bool (risingFrom none n xs), h) := by
  refine M_run (k := xs.length + 1) (by decide) T_ref10_Rising ?_
  rw [ref10_Rising_run]
  unfold ref10_Rising ulhys ulhysF ulhys_1
  have := Rising_loop M fl (xs.length + 1) (ulhys_1_2 M fl (xs.length + 1) (fun (y4 : Bool) q => some (Value.bool y4, q))) (fun (y4 : Bool) q => some (Value.bool y4, q)) n hs hb xs.length 0 (xs.length + 1) (by omega) (by omega)
  refine this.trans ?_
  simp only [if_true, List.drop_zero]
  cases risingFrom none n xs with
  | true => rfl
  | false => rfl
end Go.Abs.P
