/- The dual list of weights: the specification's. -/
import Derived.Test.YtgplcfblbkmcmaaGreatS4
namespace Go.Abs.P
open Go.Abs

def inW (n : Int) (xs : List Int) : Bool := xs.all fun x => decide (1 ≤ x) && decide (x ≤ n)

theorem R_loop1 {R : Type} (C : Callee) {fl k n0 : Nat} (kn : upowjt3 R) (kr : upowjt0 R) {h0 : AH} {s : Sl} {xs : List Int} (n : Int) (hs : SI h0 s xs) (hb : xs.length ≤ 1000000000) (hn0 : h0.next = n0) (hfl : fl ≤ n0) (hn : n ≤ 64) :
    ∀ (d i m : Nat) (low : Sl) (ys : List Int) (h : AH), i + d = xs.length → d < m → ys.length = i → OI n0 h low ys → Quiet h0 h →
    ∃ (low' : Sl) (h' : AH), upowj_1_l C fl k kn kr m s n low (i : Int) h = (if inW n (xs.drop i) = true then kn n low' h' else kr ⟨none, 0, 0⟩ 6 h') ∧ Quiet h0 h' ∧ (inW n (xs.drop i) = true → OI n0 h' low' (ys ++ (xs.drop i).map (· - 1))) := by
  intro d
  induction d with
  | zero =>
    intro i m low ys h hi hm hy ho hq
    obtain ⟨m, rfl⟩ : ∃ j, m = j + 1 := ⟨m - 1, by omega⟩
    refine ⟨low, h, ?_, hq, fun _ => by rw [List.drop_of_length_le (by omega)]; simpa using ho⟩
    show upowj_1_b C fl k _ _ kr s n low (i : Int) h = _
    unfold upowj_1_b
    rw [if_neg (by rw [hs.len]; simp; omega), List.drop_of_length_le (by omega)]
    rfl
  | succ d ih =>
    intro i m low ys h hi hm hy ho hq
    obtain ⟨m, rfl⟩ : ∃ j, m = j + 1 := ⟨m - 1, by omega⟩
    have hlt : i < xs.length := by omega
    have hs' := hs.quiet hq
    have step : upowj_1_l C fl k kn kr (m + 1) s n low (i : Int) h = upowj_1_b C fl k (upowj_1_l C fl k kn kr m) kn kr s n low (i : Int) h := rfl
    rw [step]
    unfold upowj_1_b
    rw [if_pos (by rw [hs.len]; simp; omega), hs'.read (by omega) (by simp; omega), hs'.read (by omega) (by simp; omega)]
    simp only [Int.toNat_natCast]
    rw [List.drop_eq_getElem_cons hlt]
    by_cases h1 : xs[i] < 1
    · refine ⟨low, h, ?_, hq, fun e => ?_⟩
      · have a : decide ((1 : Int) ≤ xs[i]) = false := decide_eq_false (by omega)
        rw [if_neg (by simp [h1])]
        simp only [inW, List.all_cons, a, Bool.false_and, Bool.false_eq_true, if_false]
      · have a : decide ((1 : Int) ≤ xs[i]) = false := decide_eq_false (by omega)
        simp only [inW, List.all_cons, a, Bool.false_and, Bool.false_eq_true] at e
    · have a : decide ((1 : Int) ≤ xs[i]) = true := decide_eq_true (by omega)
      rw [if_pos (by simp; omega)]
      by_cases h2 : xs[i] > n
      · have b : decide (xs[i] ≤ n) = false := decide_eq_false (by omega)
        refine ⟨low, h, ?_, hq, fun e => ?_⟩
        · rw [if_pos (by simp [h2])]
          simp only [inW, List.all_cons, a, b, Bool.and_false, Bool.false_and, Bool.false_eq_true, if_false]
        · simp only [inW, List.all_cons, a, b, Bool.and_false, Bool.false_and, Bool.false_eq_true] at e
      · have b : decide (xs[i] ≤ n) = true := decide_eq_true (by omega)
        rw [if_neg (by simp; omega), hs'.read (by omega) (by simp; omega)]
        simp only [Int.toNat_natCast]
        rw [show w64 (xs[i] - 1) = xs[i] - 1 from w64_id (by omega) (by omega)]
        obtain ⟨o2, h2', e1, e2, e3⟩ := ho.push hq hn0 hfl (by unfold ROOM; omega) (xs[i] - 1) (fun s21 h22 => upowj_1_l C fl k kn kr m s n s21 (w64 ((i : Int) + 1)) h22)
        obtain ⟨low', h', f1, f2, f3⟩ := ih (i + 1) m o2 (ys ++ [xs[i] - 1]) h2' (by omega) (by omega) (by simp; omega) e2 e3
        have ei : inW n (xs[i] :: xs.drop (i + 1)) = inW n (xs.drop (i + 1)) := by simp only [inW, List.all_cons, a, b, Bool.true_and]
        rw [ei]
        refine ⟨low', h', ?_, f2, fun e => ?_⟩
        · rw [e1, w64_succ (by unfold BIG; omega), f1]
        · have := f3 e
          simpa only [List.map_cons, List.append_assoc, List.cons_append, List.nil_append] using this

theorem R_loop2 {R : Type} (C : Callee) {fl k n0 : Nat} (kn : upowjt1 R) {h0 : AH} {s : Sl} {xs : List Int} (n : Int) (hs : SI h0 s xs) (hb : xs.length ≤ 1000000000) (hn0 : h0.next = n0) (hfl : fl ≤ n0) (hx : ∀ x ∈ xs, 0 ≤ x ∧ x < n) (hn : n ≤ 64) :
    ∀ (d m : Nat) (out : Sl) (ys : List Int) (h : AH), d ≤ xs.length → d < m → ys.length + d = xs.length → OI n0 h out ys → Quiet h0 h →
    ∃ (out' : Sl) (h' : AH), upowj_1_2_3_l C fl k kn m n s out ((d : Int) - 1) h = kn out' h' ∧ OI n0 h' out' (ys ++ (xs.take d).reverse.map (n - ·)) ∧ Quiet h0 h' := by
  intro d
  induction d with
  | zero =>
    intro m out ys h hd hm hy ho hq
    obtain ⟨m, rfl⟩ : ∃ j, m = j + 1 := ⟨m - 1, by omega⟩
    refine ⟨out, h, ?_, by simpa using ho, hq⟩
    show upowj_1_2_3_b C fl k _ _ n s out (((0 : Nat) : Int) - 1) h = _
    unfold upowj_1_2_3_b
    rw [if_neg (by simp)]
  | succ d ih =>
    intro m out ys h hd hm hy ho hq
    obtain ⟨m, rfl⟩ : ∃ j, m = j + 1 := ⟨m - 1, by omega⟩
    have hs' := hs.quiet hq
    have hlt : d < xs.length := by omega
    have e0 : (((d + 1 : Nat) : Int) - 1) = (d : Int) := by omega
    have step : upowj_1_2_3_l C fl k kn (m + 1) n s out (((d + 1 : Nat) : Int) - 1) h = upowj_1_2_3_b C fl k (upowj_1_2_3_l C fl k kn m) kn n s out (d : Int) h := by rw [e0]; rfl
    rw [step]
    unfold upowj_1_2_3_b
    rw [if_pos (by simp), hs'.read (by omega) (by simp; omega)]
    simp only [Int.toNat_natCast]
    have hxd := hx _ (List.getElem_mem hlt)
    rw [show w64 (n - xs[d]) = n - xs[d] from w64_id (by omega) (by omega)]
    obtain ⟨o2, h2', e1, e2, e3⟩ := ho.push hq hn0 hfl (by unfold ROOM; omega) (n - xs[d]) (fun s5 h6 => upowj_1_2_3_l C fl k kn m n s s5 (w64 ((d : Int) - 1)) h6)
    obtain ⟨out', h', f1, f2, f3⟩ := ih m o2 (ys ++ [n - xs[d]]) h2' (by omega) (by omega) (by simp; omega) e2 e3
    refine ⟨out', h', ?_, ?_, f3⟩
    · rw [e1, show w64 ((d : Int) - 1) = (d : Int) - 1 from w64_id (by omega) (by omega)]; exact f1
    · rw [List.take_succ_eq_append_getElem hlt, List.reverse_append]
      simpa using f2

theorem othersFrom_mem {xs : List Int} : ∀ {d i : Nat} {y : Int}, y ∈ othersFrom xs i d → (i : Int) ≤ y ∧ y < ((i + d : Nat) : Int)
  | 0, _, _, h => by cases h
  | d + 1, i, y, h => by
    simp only [othersFrom, List.mem_append] at h
    rcases h with h | h
    · split at h
      · cases h
      · simp at h; subst h; omega
    · have := othersFrom_mem h; omega
theorem othersFrom_len {xs : List Int} : ∀ {d i : Nat}, (othersFrom xs i d).length ≤ d
  | 0, _ => Nat.le_refl _
  | d + 1, i => by
    simp only [othersFrom, List.length_append]
    have := othersFrom_len (xs := xs) (d := d) (i := i + 1)
    split <;> simp <;> omega

def dualR (xs : List Int) (n : Int) : Option (List Int) := if n < 1 ∨ n > 64 then none else if inW n xs = true then (if risingFrom none n (xs.map (· - 1)) = true then some ((othersFrom (xs.map (· - 1)) 0 n.toNat).reverse.map (n - ·)) else none) else none

theorem DualityR_spec {fl : Nat} {h : AH} {s : Sl} {xs : List Int} (n : Int) (hs : SI h s xs) (hb : xs.length ≤ 1000000000) (hfl : fl ≤ h.next) :
    ∃ (s' : Sl) (h' : AH), M fl fn.ref29_Duality [.slice s.a s.l s.c, .int .i64 n] h = some (.tuple ⟨[.slice s'.a s'.l s'.c, .int .i64 (if (dualR xs n).isSome then 0 else 6)]⟩, h') ∧ OI h.next h' s' ((dualR xs n).getD []) ∧ Quiet h h' := by
  have go : ∀ {s' : Sl} {h' : AH}, ref29_Duality M fl (xs.length + 66) s n h = some (.tuple ⟨[.slice s'.a s'.l s'.c, .int .i64 (if (dualR xs n).isSome then 0 else 6)]⟩, h') → M fl fn.ref29_Duality [.slice s.a s.l s.c, .int .i64 n] h = some (.tuple ⟨[.slice s'.a s'.l s'.c, .int .i64 (if (dualR xs n).isSome then 0 else 6)]⟩, h') := by
    intro s' h' e
    refine M_run (k := xs.length + 66) (by decide) T_ref29_Duality ?_
    rw [ref29_Duality_run]; exact e
  have nil : ∀ {q : AH}, OI h.next q ⟨none, 0, 0⟩ [] := .inl ⟨rfl, rfl⟩
  by_cases h1 : n < 1
  · have e : dualR xs n = none := by unfold dualR; rw [if_pos (.inl h1)]
    refine ⟨⟨none, 0, 0⟩, h, go ?_, by rw [e]; exact nil, Quiet.refl h⟩
    unfold ref29_Duality upowj upowjF
    rw [if_neg (by simp [h1]), e]; rfl
  · by_cases h2 : n > 64
    · have e : dualR xs n = none := by unfold dualR; rw [if_pos (.inr h2)]
      refine ⟨⟨none, 0, 0⟩, h, go ?_, by rw [e]; exact nil, Quiet.refl h⟩
      unfold ref29_Duality upowj upowjF
      rw [if_pos (by simp; omega), if_pos (by simp; omega), e]; rfl
    · obtain ⟨m, rfl⟩ : ∃ m : Nat, n = m := ⟨n.toNat, by omega⟩
      have hd : dualR xs m = if inW m xs = true then (if risingFrom none m (xs.map (· - 1)) = true then some ((othersFrom (xs.map (· - 1)) 0 m).reverse.map ((m : Int) - ·)) else none) else none := by unfold dualR; rw [if_neg (by omega)]; simp
      obtain ⟨low, h2', e1, e2, e3⟩ := R_loop1 (R := Value × AH) M (fl := fl) (k := xs.length + 66) (upowj_1_2 M fl (xs.length + 66) (fun (y4 : Sl) (y5 : Int) q => some (Value.tuple ⟨[.slice y4.a y4.l y4.c, .int .i64 y5]⟩, q))) (fun (y4 : Sl) (y5 : Int) q => some (Value.tuple ⟨[.slice y4.a y4.l y4.c, .int .i64 y5]⟩, q)) (m : Int) hs hb rfl hfl (by omega) xs.length 0 (xs.length + 66) ⟨none, 0, 0⟩ [] h (by omega) (by omega) rfl nil (Quiet.refl h)
      have un : ref29_Duality M fl (xs.length + 66) s (m : Int) h = upowj_1_l M fl (xs.length + 66) (upowj_1_2 M fl (xs.length + 66) (fun (y4 : Sl) (y5 : Int) q => some (Value.tuple ⟨[.slice y4.a y4.l y4.c, .int .i64 y5]⟩, q))) (fun (y4 : Sl) (y5 : Int) q => some (Value.tuple ⟨[.slice y4.a y4.l y4.c, .int .i64 y5]⟩, q)) (xs.length + 66) s (m : Int) ⟨none, 0, 0⟩ ((0 : Nat) : Int) h := by
        unfold ref29_Duality upowj upowjF
        rw [if_pos (by simp; omega), if_neg (by simp; omega)]
        rfl
      simp only [List.drop_zero] at e1 e3
      by_cases h3 : inW m xs = true
      · rw [if_pos h3] at e1
        have ho := e3 h3
        simp only [List.nil_append] at ho
        have hfl2 : fl ≤ h2'.next := Nat.le_trans hfl e2.next
        have ris : M fl fn.ref10_Rising [.slice low.a low.l low.c, .int .i64 m] h2' = some (.bool (risingFrom none m (xs.map (· - 1))), h2') := Rising_spec (m : Int) ho.si (by simp; unfold BIG; omega)
        by_cases h4 : risingFrom none m (xs.map (· - 1)) = true
        · have e : dualR xs m = some ((othersFrom (xs.map (· - 1)) 0 m).reverse.map ((m : Int) - ·)) := by rw [hd, if_pos h3, if_pos h4]
          obtain ⟨rest, h5, f1, f2, f3⟩ := Others_spec (fl := fl) m ho.si (by simp; unfold BIG; omega) hfl2 (by omega)
          have hlen := othersFrom_len (xs := xs.map (· - 1)) (d := m) (i := 0)
          obtain ⟨out, h6, g1, g2, g3⟩ := R_loop2 (R := Value × AH) M (fl := fl) (k := xs.length + 66) (upowj_1_2_3_4 M fl (xs.length + 66) (fun (y4 : Sl) (y5 : Int) q => some (Value.tuple ⟨[.slice y4.a y4.l y4.c, .int .i64 y5]⟩, q))) (m : Int) f2.si (by omega) rfl (Nat.le_trans hfl2 f3.next) (fun x hx => by have := othersFrom_mem hx; omega) (by omega) (othersFrom (xs.map (· - 1)) 0 m).length (xs.length + 66) ⟨none, 0, 0⟩ [] h5 (Nat.le_refl _) (by omega) (by simp) (.inl ⟨rfl, rfl⟩) (Quiet.refl h5)
          refine ⟨out, h6, go ?_, ?_, e2.trans (f3.trans g3)⟩
          · rw [un, e1, e]
            unfold upowj_1_2 upowj_1_2F callF
            rw [ris]
            simp only [asBool, h4]
            rw [if_neg (by decide), f1]
            simp only [asSl]
            have hl : w64 ((rest.l : Int) - 1) = ((othersFrom (xs.map (· - 1)) 0 m).length : Int) - 1 := by rw [f2.si.len]; exact w64_id (by omega) (by omega)
            show upowj_1_2_3 M fl (xs.length + 66) _ (m : Int) rest ⟨none, 0, 0⟩ (w64 ((rest.l : Int) - 1)) h5 = _
            rw [hl]
            exact g1
          · rw [e]
            simp only [List.nil_append, List.take_length] at g2
            simp only [Option.getD_some]
            have hnx : h.next ≤ h5.next := Nat.le_trans e2.next f3.next
            rcases g2 with ⟨q1, q2⟩ | ⟨b, q1, q2, q3, q4, q5⟩
            · exact .inl ⟨q1, q2⟩
            · exact .inr ⟨b, by omega, q2, q3, q4, q5⟩
        · have e : dualR xs m = none := by rw [hd, if_pos h3, if_neg h4]
          refine ⟨⟨none, 0, 0⟩, h2', go ?_, by rw [e]; exact nil, e2⟩
          rw [un, e1, e]
          unfold upowj_1_2 upowj_1_2F callF
          rw [ris]
          simp only [asBool, h4]
          rw [if_pos (by decide)]
          rfl
      · have e : dualR xs m = none := by rw [hd, if_neg h3]
        rw [if_neg h3] at e1
        refine ⟨⟨none, 0, 0⟩, h2', go ?_, by rw [e]; exact nil, e2⟩
        rw [un, e1, e]; rfl
end Go.Abs.P
