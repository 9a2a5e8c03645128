/- The positions that a list does not name. -/
import Derived.Test.YtgplcfblbkmcmaaGreatS2
namespace Go.Abs.P
open Go.Abs

def othersFrom (xs : List Int) (i : Nat) : Nat → List Int
  | 0 => []
  | d + 1 => (if (i : Int) ∈ xs then [] else [(i : Int)]) ++ othersFrom xs (i + 1) d

theorem Others_in {R : Type} (C : Callee) (fl k : Nat) (kn : uro2gt3 R) {h : AH} {s : Sl} {xs : List Int} (n : Int) (out : Sl) (x : Int) (hs : SI h s xs) (hb : xs.length ≤ BIG) :
    ∀ (d i m : Nat) (b : Bool), i + d = xs.length → d < m → uro2g_1_b_3_u_5_l C fl k kn m s n out x b (i : Int) h = kn s n out x (b || decide (x ∈ xs.drop i)) h := by
  intro d
  induction d with
  | zero =>
    intro i m b hi hm
    obtain ⟨m, rfl⟩ : ∃ j, m = j + 1 := ⟨m - 1, by omega⟩
    show uro2g_1_b_3_u_5_b C fl k _ _ s n out x b (i : Int) h = _
    unfold uro2g_1_b_3_u_5_b uro2g_1_b_3_u_5_bF
    rw [if_neg (by rw [hs.len]; simp; omega), List.drop_of_length_le (by omega)]
    simp
  | succ d ih =>
    intro i m b hi hm
    obtain ⟨m, rfl⟩ : ∃ j, m = j + 1 := ⟨m - 1, by omega⟩
    show uro2g_1_b_3_u_5_b C fl k _ _ s n out x b (i : Int) h = _
    unfold uro2g_1_b_3_u_5_b uro2g_1_b_3_u_5_bF
    have hlt : i < xs.length := by omega
    rw [if_pos (by rw [hs.len]; simp; omega), List.drop_eq_getElem_cons hlt]
    cases b with
    | false =>
      rw [if_pos rfl, hs.read (by omega) (by simp; omega)]
      simp only [Int.toNat_natCast]
      unfold uro2g_1_b_3_u_5_b_7
      rw [w64_succ (by omega), ih (i + 1) m _ (by omega) (by omega)]
      congr 1
      by_cases e : xs[i] = x
      · simp [e]
      · have e2 : ¬ x = xs[i] := fun h => e h.symm
        have e3 : (xs[i] == x) = false := by simp [e]
        simp only [e3, Bool.false_or, List.mem_cons, e2, false_or]
    | true =>
      rw [if_neg (by simp)]
      unfold uro2g_1_b_3_u_5_b_7
      rw [w64_succ (by omega), ih (i + 1) m _ (by omega) (by omega)]
      simp

theorem Others_loop {R : Type} (C : Callee) {fl k n0 : Nat} (kn : uro2gt1 R) {h0 : AH} {s : Sl} {xs : List Int} (n : Nat) (hs : SI h0 s xs) (hb : xs.length < BIG) (hn0 : h0.next = n0) (hfl : fl ≤ n0) (hn : n ≤ 1000000000) (hk : xs.length < k) :
    ∀ (d i m : Nat) (out : Sl) (ys : List Int) (h : AH), i + d = n → d < m → ys.length ≤ i → OI n0 h out ys → Quiet h0 h →
    ∃ out' h', uro2g_1_l C fl k kn m s (n : Int) out (i : Int) h = kn out' h' ∧ OI n0 h' out' (ys ++ othersFrom xs i d) ∧ Quiet h0 h' := by
  intro d
  induction d with
  | zero =>
    intro i m out ys h hi hm hy ho hq
    obtain ⟨m, rfl⟩ : ∃ j, m = j + 1 := ⟨m - 1, by omega⟩
    refine ⟨out, h, ?_, by simpa [othersFrom] using ho, hq⟩
    show uro2g_1_b C fl k _ _ s (n : Int) out (i : Int) h = _
    unfold uro2g_1_b uro2g_1_bF
    rw [if_neg (by simp; omega)]
  | succ d ih =>
    intro i m out ys h hi hm hy ho hq
    obtain ⟨m, rfl⟩ : ∃ j, m = j + 1 := ⟨m - 1, by omega⟩
    have step : uro2g_1_l C fl k kn (m + 1) s (n : Int) out (i : Int) h = uro2g_1_b_3_u_5_6 C fl k (uro2g_1_b_3_4 C fl k (uro2g_1_l C fl k kn m) kn) s (n : Int) out (i : Int) (false || decide ((i : Int) ∈ xs.drop 0)) h := by
      show uro2g_1_b C fl k _ _ s (n : Int) out (i : Int) h = _
      unfold uro2g_1_b uro2g_1_bF
      rw [if_pos (by simp; omega)]
      unfold uro2g_1_b_3 uro2g_1_b_3F uro2g_1_b_3_u uro2g_1_b_3_uF uro2g_1_b_3_u_5
      exact Others_in C fl k _ (n : Int) out (i : Int) (hs.quiet hq) (by omega) xs.length 0 k false (by omega) (by omega)
    rw [step]
    simp only [List.drop_zero, Bool.false_or]
    unfold uro2g_1_b_3_u_5_6
    by_cases e : (i : Int) ∈ xs
    · rw [if_neg (by simp [e])]
      unfold uro2g_1_b_3_4
      rw [w64_succ (by unfold BIG; omega)]
      obtain ⟨out', h', e1, e2, e3⟩ := ih (i + 1) m out ys h (by omega) (by omega) (by omega) ho hq
      exact ⟨out', h', e1, by simpa [othersFrom, e] using e2, e3⟩
    · rw [if_pos (by simp [e])]
      obtain ⟨o2, h2, e1, e2, e3⟩ := ho.push hq hn0 hfl (by unfold ROOM; omega) (i : Int) (fun s3 h4 => uro2g_1_b_3_4 C fl k (uro2g_1_l C fl k kn m) kn s (n : Int) s3 (i : Int) h4)
      rw [e1]
      unfold uro2g_1_b_3_4
      rw [w64_succ (by unfold BIG; omega)]
      obtain ⟨out', h', f1, f2, f3⟩ := ih (i + 1) m o2 (ys ++ [(i : Int)]) h2 (by omega) (by omega) (by simp; omega) e2 e3
      exact ⟨out', h', f1, by simpa [othersFrom, e] using f2, f3⟩

theorem Others_spec {fl : Nat} {h : AH} {s : Sl} {xs : List Int} (n : Nat) (hs : SI h s xs) (hb : xs.length < BIG) (hfl : fl ≤ h.next) (hn : n ≤ 1000000000) :
    ∃ (s' : Sl) (h' : AH), M fl fn.ref10_Others [.slice s.a s.l s.c, .int .i64 n] h = some (.slice s'.a s'.l s'.c, h') ∧ OI h.next h' s' (othersFrom xs 0 n) ∧ Quiet h h' := by
  obtain ⟨s', h', e1, e2, e3⟩ := Others_loop (R := Value × AH) M (fl := fl) (k := xs.length + n + 1) (uro2g_1_2 M fl (xs.length + n + 1) (fun (y4 : Sl) q => some (Value.slice y4.a y4.l y4.c, q))) n hs hb rfl hfl hn (by omega) n 0 (xs.length + n + 1) ⟨none, 0, 0⟩ [] h (by omega) (by omega) (by simp) (.inl ⟨rfl, rfl⟩) (Quiet.refl h)
  refine ⟨s', h', ?_, by simpa using e2, e3⟩
  refine M_run (k := xs.length + n + 1) (by decide) T_ref10_Others ?_
  rw [ref10_Others_run]
  exact e1
end Go.Abs.P
