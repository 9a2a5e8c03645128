/- Lists compared; a number looked for. -/
import Derived.Test.YtgplcfblbkmcmaaGreatAw
import Derived.Test.YtgplcfblbkmcmaaGreatGoAbsB0
namespace Go.Abs.P
open Go.Abs

def BIG : Nat := 4611686018427387904

theorem w64_succ {i : Nat} (h : i < BIG) : w64 ((i : Int) + 1) = ((i + 1 : Nat) : Int) := by
  unfold BIG at h
  rw [w64_id (by omega) (by omega)]; omega

theorem SameInts_loop {R : Type} (C : Callee) (fl k : Nat) (kn : ul5gnt1 R) (kr : ul5gnt0 R) {h : AH} {s t : Sl} {xs ys : List Int} (hs : SI h s xs) (ht : SI h t ys) (hl : xs.length = ys.length) (hb : xs.length ≤ BIG) :
    ∀ (d i m : Nat), i + d = xs.length → d < m → ul5gn_1_l C fl k kn kr m s t (i : Int) h = if xs.drop i = ys.drop i then kn h else kr false h := by
  intro d
  induction d with
  | zero =>
    intro i m hi hm
    obtain ⟨m, rfl⟩ : ∃ j, m = j + 1 := ⟨m - 1, by omega⟩
    show ul5gn_1_b C fl k _ _ kr s t (i : Int) h = _
    unfold ul5gn_1_b
    rw [if_neg (by rw [hs.len]; simp; omega), List.drop_of_length_le (by omega), List.drop_of_length_le (by omega), if_pos rfl]
  | succ d ih =>
    intro i m hi hm
    obtain ⟨m, rfl⟩ : ∃ j, m = j + 1 := ⟨m - 1, by omega⟩
    show ul5gn_1_b C fl k _ _ kr s t (i : Int) h = _
    unfold ul5gn_1_b
    rw [if_pos (by rw [hs.len]; simp; omega), hs.read (by omega) (by simp; omega), ht.read (by omega) (by simp; omega)]
    simp only [Int.toNat_natCast]
    rw [List.drop_eq_getElem_cons (show i < xs.length by omega), List.drop_eq_getElem_cons (show i < ys.length by omega), w64_succ (by omega)]
    by_cases e : xs[i] = ys[i]
    · rw [if_neg (by simp [e]), ih (i + 1) m (by omega) (by omega)]
      simp only [List.cons.injEq, e, true_and]
    · rw [if_pos (by simp [e])]
      simp only [List.cons.injEq, e, false_and, if_false]

theorem SameInts_spec {fl : Nat} {h : AH} {s t : Sl} {xs ys : List Int} (hs : SI h s xs) (ht : SI h t ys) (hb : xs.length ≤ BIG) : M fl fn.ref09_SameInts [.slice s.a s.l s.c, .slice t.a t.l t.c] h = some (.bool (decide (xs = ys)), h) := by
  refine M_run (k := xs.length + 1) (by decide) T_ref09_SameInts ?_
  rw [ref09_SameInts_run]
  unfold ref09_SameInts ul5gn ul5gnF
  by_cases hl : xs.length = ys.length
  · rw [if_neg (by rw [hs.len, ht.len]; simp [hl])]
    have := SameInts_loop M fl (xs.length + 1) (ul5gn_1_2 M fl (xs.length + 1) (fun (y4 : Bool) q => some (Value.bool y4, q))) (fun (y4 : Bool) q => some (Value.bool y4, q)) hs ht hl hb xs.length 0 (xs.length + 1) (by omega) (by omega)
    refine this.trans ?_
    by_cases e : xs = ys
    · simp [e, ul5gn_1_2]
    · simp [e]
  · have e : xs ≠ ys := fun e => hl (by rw [e])
    rw [if_pos (by rw [hs.len, ht.len]; simp; omega)]
    simp [e]

theorem Index_loop {R : Type} (C : Callee) (fl k : Nat) (kn : ukzdot1 R) (kr : ukzdot0 R) {h : AH} {s : Sl} {xs : List Int} (x : Int) (hs : SI h s xs) (hb : xs.length ≤ BIG) :
    ∀ (d i m : Nat), i + d = xs.length → d < m → ukzdo_1_l C fl k kn kr m s x (xs.length : Int) (i : Int) h = match (xs.drop i).findIdx? (· == x) with | some j => kr ((i + j : Nat) : Int) h | none => kn h := by
  intro d
  induction d with
  | zero =>
    intro i m hi hm
    obtain ⟨m, rfl⟩ : ∃ j, m = j + 1 := ⟨m - 1, by omega⟩
    show ukzdo_1_b C fl k _ _ kr s x (xs.length : Int) (i : Int) h = _
    unfold ukzdo_1_b
    rw [if_neg (by simp; omega), List.drop_of_length_le (by omega)]
    rfl
  | succ d ih =>
    intro i m hi hm
    obtain ⟨m, rfl⟩ : ∃ j, m = j + 1 := ⟨m - 1, by omega⟩
    show ukzdo_1_b C fl k _ _ kr s x (xs.length : Int) (i : Int) h = _
    unfold ukzdo_1_b
    rw [if_pos (by simp; omega), hs.read (by omega) (by simp; omega)]
    simp only [Int.toNat_natCast]
    rw [List.drop_eq_getElem_cons (show i < xs.length by omega), w64_succ (by omega), List.findIdx?_cons]
    by_cases e : x = xs[i]
    · rw [if_pos (by simp [e])]
      simp [e]
    · rw [if_neg (by simp [e]), ih (i + 1) m (by omega) (by omega)]
      have e2 : (xs[i] == x) = false := by simp; exact fun h => e h.symm
      rw [e2]
      simp only [Bool.false_eq_true, if_false]
      cases (xs.drop (i + 1)).findIdx? (· == x) with
      | none => rfl
      | some j => simp only [Option.map_some]; congr 1; omega

theorem Index_spec {fl : Nat} {h : AH} {s : Sl} {xs : List Int} (x : Int) (hs : SI h s xs) (hb : xs.length ≤ BIG) : M fl fn.slices_Index [.slice s.a s.l s.c, .int .i64 x] h = some (.int .i64 (match xs.findIdx? (· == x) with | some j => (j : Int) | none => -1), h) := by
  refine M_run (k := xs.length + 1) (by decide) T_slices_Index ?_
  rw [slices_Index_run]
  unfold slices_Index ukzdo ukzdoF ukzdo_1
  rw [hs.len]
  have := Index_loop M fl (xs.length + 1) (ukzdo_1_2 M fl (xs.length + 1) (fun (y4 : Int) q => some (Value.int .i64 y4, q))) (fun (y4 : Int) q => some (Value.int .i64 y4, q)) x hs hb xs.length 0 (xs.length + 1) (by omega) (by omega)
  refine this.trans ?_
  simp only [List.drop_zero]
  cases xs.findIdx? (· == x) with
  | none => rfl
  | some j => simp

theorem Contains_spec {fl : Nat} {h : AH} {s : Sl} {xs : List Int} (x : Int) (hs : SI h s xs) (hb : xs.length ≤ BIG) : M fl fn.slices_Contains [.slice s.a s.l s.c, .int .i64 x] h = some (.bool (decide (x ∈ xs)), h) := by
  refine M_run (k := 1) (by decide) T_slices_Contains ?_
  rw [slices_Contains_run]
  unfold slices_Contains u93en callF
  rw [Index_spec x hs hb]
  simp only [asInt, if_true]
  cases e : xs.findIdx? (· == x) with
  | none =>
    rw [List.findIdx?_eq_none_iff] at e
    have : x ∉ xs := fun hx => by have := e x hx; simp at this
    simp [this]
  | some j =>
    have : x ∈ xs := by
      obtain ⟨hj, h1, _⟩ := List.findIdx?_eq_some_iff_getElem.1 e
      have := List.getElem_mem hj
      simp at h1; rw [h1] at this; exact this
    simp [this]
end Go.Abs.P
