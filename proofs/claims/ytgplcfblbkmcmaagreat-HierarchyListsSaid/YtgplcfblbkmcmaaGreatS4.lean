/- The dual list of weights: the program's. -/
import Derived.Test.YtgplcfblbkmcmaaGreatS3
namespace Go.Abs.P
open Go.Abs

/-- Ascending numbers from 1 to n. -/
def okW (prev : Option Int) (n : Int) : List Int → Bool
  | [] => true
  | x :: xs => decide (1 ≤ x) && decide (x ≤ n) && (match prev with | none => true | some p => decide (p < x)) && okW (some x) n xs

theorem Dual_check {R : Type} (C : Callee) (fl k : Nat) (kn : u37uut3 R) (kr : u37uut0 R) {h : AH} {s : Sl} {xs : List Int} (n : Int) (hs : SI h s xs) (hb : xs.length ≤ BIG) :
    ∀ (d i m : Nat), i + d = xs.length → d < m → u37uu_1_l C fl k kn kr m s n s (xs.length : Int) (i : Int) h = if okW (if i = 0 then none else xs[i - 1]?) n (xs.drop i) = true then kn s n h else kr ⟨none, 0, 0⟩ 6 h := by
  intro d
  induction d with
  | zero =>
    intro i m hi hm
    obtain ⟨m, rfl⟩ : ∃ j, m = j + 1 := ⟨m - 1, by omega⟩
    show u37uu_1_b C fl k _ _ kr s n s (xs.length : Int) (i : Int) h = _
    unfold u37uu_1_b u37uu_1_bF
    rw [if_neg (by simp; omega), List.drop_of_length_le (by omega)]
    simp [okW]
  | succ d ih =>
    intro i m hi hm
    obtain ⟨m, rfl⟩ : ∃ j, m = j + 1 := ⟨m - 1, by omega⟩
    show u37uu_1_b C fl k _ _ kr s n s (xs.length : Int) (i : Int) h = _
    unfold u37uu_1_b u37uu_1_bF
    have hlt : i < xs.length := by omega
    have next : u37uu_1_b_6 C fl k (u37uu_1_l C fl k kn kr m) kn kr s n s (xs.length : Int) (i : Int) h = if okW (some xs[i]) n (xs.drop (i + 1)) = true then kn s n h else kr ⟨none, 0, 0⟩ 6 h := by
      unfold u37uu_1_b_6
      rw [w64_succ (by omega), ih (i + 1) m (by omega) (by omega)]
      simp [List.getElem?_eq_getElem hlt]
    rw [if_pos (by simp; omega)]
    rw [hs.read (by omega) (by simp; omega)]
    simp only [Int.toNat_natCast]
    rw [List.drop_eq_getElem_cons hlt]
    by_cases h1 : xs[i] < 1
    · rw [if_neg (by simp [h1])]
      have a : decide ((1 : Int) ≤ xs[i]) = false := decide_eq_false (by omega)
      simp only [okW, a, Bool.false_and, Bool.false_eq_true, if_false]
    · rw [if_pos (by simp; omega)]
      have a : decide ((1 : Int) ≤ xs[i]) = true := decide_eq_true (by omega)
      by_cases h2 : xs[i] > n
      · rw [if_neg (by simp; omega)]
        have b : decide (xs[i] ≤ n) = false := decide_eq_false (by omega)
        simp only [okW, a, b, Bool.and_false, Bool.false_and, Bool.false_eq_true, if_false]
      · rw [if_pos (by simp; omega)]
        have b : decide (xs[i] ≤ n) = true := decide_eq_true (by omega)
        by_cases h3 : i = 0
        · subst h3
          rw [if_neg (by simp), next]
          simp only [okW, a, b, Bool.true_and, Bool.and_true, if_true]
        · rw [if_pos (by simp; omega), show w64 ((i : Int) - 1) = ((i - 1 : Nat) : Int) by rw [w64_id (by omega) (by unfold BIG at hb; omega)]; omega, hs.read (by omega) (by simp; omega), next]
          simp only [Int.toNat_natCast]
          rw [if_neg h3, List.getElem?_eq_getElem (show i - 1 < xs.length by omega)]
          by_cases h4 : xs[i] ≤ xs[i - 1]
          · rw [if_pos (by simp [h4])]
            have c : decide (xs[i - 1] < xs[i]) = false := decide_eq_false (by omega)
            simp only [okW, a, b, c, Bool.and_false, Bool.false_and, Bool.false_eq_true, if_false]
          · rw [if_neg (by simp [h4])]
            have c : decide (xs[i - 1] < xs[i]) = true := decide_eq_true (by omega)
            simp only [okW, a, b, c, Bool.true_and]

/-- The numbers x, x-1, .., 1 that are not in the list, each as n+1-x. -/
def dualFrom (xs : List Int) (n : Nat) : Nat → List Int
  | 0 => []
  | x + 1 => (if ((x + 1 : Nat) : Int) ∈ xs then [] else [((n - x : Nat) : Int)]) ++ dualFrom xs n x

theorem Dual_loop {R : Type} {fl k n0 : Nat} (kn : u37uut1 R) {h0 : AH} {s : Sl} {xs : List Int} (n : Nat) (hs : SI h0 s xs) (hb : xs.length < BIG) (hn0 : h0.next = n0) (hfl : fl ≤ n0) (hn : n ≤ 64) :
    ∀ (x m : Nat) (out : Sl) (ys : List Int) (h : AH), x ≤ n → x < m → ys.length + x ≤ n → OI n0 h out ys → Quiet h0 h →
    ∃ out' h', u37uu_1_2_3_l M fl k kn m s (n : Int) out (x : Int) h = kn out' h' ∧ OI n0 h' out' (ys ++ dualFrom xs n x) ∧ Quiet h0 h' := by
  intro x
  induction x with
  | zero =>
    intro m out ys h hx hm hy ho hq
    obtain ⟨m, rfl⟩ : ∃ j, m = j + 1 := ⟨m - 1, by omega⟩
    refine ⟨out, h, ?_, by simpa [dualFrom] using ho, hq⟩
    show u37uu_1_2_3_b M fl k _ _ s (n : Int) out ((0 : Nat) : Int) h = _
    unfold u37uu_1_2_3_b u37uu_1_2_3_bF
    rw [if_neg (by simp)]
  | succ x ih =>
    intro m out ys h hx hm hy ho hq
    obtain ⟨m, rfl⟩ : ∃ j, m = j + 1 := ⟨m - 1, by omega⟩
    have pred : w64 (((x + 1 : Nat) : Int) - 1) = (x : Int) := by rw [w64_id (by omega) (by omega)]; omega
    have val : w64 (w64 ((n : Int) + 1) - ((x + 1 : Nat) : Int)) = ((n - x : Nat) : Int) := by
      rw [w64_succ (by unfold BIG; omega), w64_id (by omega) (by omega)]; omega
    have step : u37uu_1_2_3_l M fl k kn (m + 1) s (n : Int) out ((x + 1 : Nat) : Int) h = u37uu_1_2_3_b M fl k (u37uu_1_2_3_l M fl k kn m) kn s (n : Int) out ((x + 1 : Nat) : Int) h := rfl
    rw [step]
    unfold u37uu_1_2_3_b u37uu_1_2_3_bF
    rw [if_pos (by simp; omega)]
    unfold callF
    rw [Contains_spec _ (hs.quiet hq) (by omega)]
    simp only [asBool]
    by_cases e : ((x + 1 : Nat) : Int) ∈ xs
    · rw [decide_eq_true e, if_neg (by decide)]
      unfold u37uu_1_2_3_b_5
      rw [pred]
      obtain ⟨out', h', e1, e2, e3⟩ := ih m out ys h (by omega) (by omega) (by omega) ho hq
      exact ⟨out', h', e1, by simpa only [dualFrom, if_pos e, List.nil_append] using e2, e3⟩
    · rw [decide_eq_false e, if_pos (by decide), val]
      obtain ⟨o2, h2, e1, e2, e3⟩ := ho.push hq hn0 hfl (by unfold ROOM; omega) ((n - x : Nat) : Int) (fun s6 h7 => u37uu_1_2_3_b_5 M fl k (u37uu_1_2_3_l M fl k kn m) kn s (n : Int) s6 ((x + 1 : Nat) : Int) h7)
      rw [e1]
      unfold u37uu_1_2_3_b_5
      rw [pred]
      obtain ⟨out', h', f1, f2, f3⟩ := ih m o2 (ys ++ [((n - x : Nat) : Int)]) h2 (by omega) (by omega) (by simp; omega) e2 e3
      exact ⟨out', h', f1, by simpa only [dualFrom, if_neg e, List.append_assoc] using f2, f3⟩

/-- What Duality hands back. -/
def dualW (xs : List Int) (n : Int) : Option (List Int) := if n < 1 ∨ n > 64 then none else if okW none n xs = true then some (dualFrom xs n.toNat n.toNat) else none

theorem Duality_spec {fl : Nat} {h : AH} {s : Sl} {xs : List Int} (n : Int) (hs : SI h s xs) (hb : xs.length < BIG) (hfl : fl ≤ h.next) :
    ∃ (s' : Sl) (h' : AH), M fl fn.hierarchy_Duality [.slice s.a s.l s.c, .int .i64 n] h = some (.tuple ⟨[.slice s'.a s'.l s'.c, .int .i64 (if (dualW xs n).isSome then 0 else 6)]⟩, h') ∧ OI h.next h' s' ((dualW xs n).getD []) ∧ Quiet h h' := by
  have go : ∀ {s' : Sl} {h' : AH}, hierarchy_Duality M fl (xs.length + 66) s n h = some (.tuple ⟨[.slice s'.a s'.l s'.c, .int .i64 (if (dualW xs n).isSome then 0 else 6)]⟩, h') → M fl fn.hierarchy_Duality [.slice s.a s.l s.c, .int .i64 n] h = some (.tuple ⟨[.slice s'.a s'.l s'.c, .int .i64 (if (dualW xs n).isSome then 0 else 6)]⟩, h') := by
    intro s' h' e
    refine M_run (k := xs.length + 66) (by decide) T_hierarchy_Duality ?_
    rw [hierarchy_Duality_run]; exact e
  have nil : OI h.next h ⟨none, 0, 0⟩ [] := .inl ⟨rfl, rfl⟩
  by_cases h1 : n < 1
  · have e : dualW xs n = none := by unfold dualW; rw [if_pos (.inl h1)]
    refine ⟨⟨none, 0, 0⟩, h, go ?_, by rw [e]; exact nil, Quiet.refl h⟩
    unfold hierarchy_Duality u37uu u37uuF
    rw [if_neg (by simp [h1]), e]; rfl
  · by_cases h2 : n > 64
    · have e : dualW xs n = none := by unfold dualW; rw [if_pos (.inr h2)]
      refine ⟨⟨none, 0, 0⟩, h, go ?_, by rw [e]; exact nil, Quiet.refl h⟩
      unfold hierarchy_Duality u37uu u37uuF
      rw [if_pos (by simp; omega), if_pos (by simp; omega), e]; rfl
    · obtain ⟨m, rfl⟩ : ∃ m : Nat, n = m := ⟨n.toNat, by omega⟩
      have hd : dualW xs m = if okW none m xs = true then some (dualFrom xs m m) else none := by unfold dualW; rw [if_neg (by omega)]; simp
      have chk := Dual_check (R := Value × AH) M fl (xs.length + 66) (u37uu_1_2 M fl (xs.length + 66) (fun (y4 : Sl) (y5 : Int) q => some (Value.tuple ⟨[.slice y4.a y4.l y4.c, .int .i64 y5]⟩, q))) (fun (y4 : Sl) (y5 : Int) q => some (Value.tuple ⟨[.slice y4.a y4.l y4.c, .int .i64 y5]⟩, q)) (m : Int) hs (by omega) xs.length 0 (xs.length + 66) (by omega) (by omega)
      have un : hierarchy_Duality M fl (xs.length + 66) s (m : Int) h = u37uu_1_l M fl (xs.length + 66) (u37uu_1_2 M fl (xs.length + 66) (fun (y4 : Sl) (y5 : Int) q => some (Value.tuple ⟨[.slice y4.a y4.l y4.c, .int .i64 y5]⟩, q))) (fun (y4 : Sl) (y5 : Int) q => some (Value.tuple ⟨[.slice y4.a y4.l y4.c, .int .i64 y5]⟩, q)) (xs.length + 66) s (m : Int) s (xs.length : Int) ((0 : Nat) : Int) h := by
        unfold hierarchy_Duality u37uu u37uuF
        rw [if_pos (by simp; omega), if_neg (by simp; omega)]
        unfold u37uu_1
        rw [hs.len]; rfl
      by_cases h3 : okW none m xs = true
      · have e : dualW xs m = some (dualFrom xs m m) := by rw [hd, if_pos h3]
        obtain ⟨s', h', e1, e2, e3⟩ := Dual_loop (R := Value × AH) (fl := fl) (k := xs.length + 66) (u37uu_1_2_3_4 M fl (xs.length + 66) (fun (y4 : Sl) (y5 : Int) q => some (Value.tuple ⟨[.slice y4.a y4.l y4.c, .int .i64 y5]⟩, q))) m hs hb rfl hfl (by omega) m (xs.length + 66) ⟨none, 0, 0⟩ [] h (by omega) (by omega) (by simp) nil (Quiet.refl h)
        refine ⟨s', h', go ?_, by rw [e]; simpa using e2, e3⟩
        rw [un, chk, e]
        simp only [if_true, List.drop_zero, h3]
        exact e1
      · have e : dualW xs m = none := by rw [hd, if_neg h3]
        refine ⟨⟨none, 0, 0⟩, h, go ?_, by rw [e]; exact nil, Quiet.refl h⟩
        rw [un, chk, e]
        simp only [if_true, List.drop_zero, h3]
        rfl
end Go.Abs.P
