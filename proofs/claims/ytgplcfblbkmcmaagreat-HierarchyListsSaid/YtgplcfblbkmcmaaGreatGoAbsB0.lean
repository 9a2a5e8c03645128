/- Lists in the abstract heap. -/
import Derived.Test.YtgplcfblbkmcmaaGreatGoAbsA21
import Derived.IntWalk
namespace Go.Abs

/-- Nothing that lay there has turned. -/
structure Quiet (h h' : AH) : Prop where
  next : h.next ≤ h'.next
  blk : ∀ b, b < h.next → h'.blk b = h.blk b
theorem Quiet.refl (h : AH) : Quiet h h := ⟨Nat.le_refl _, fun _ _ => rfl⟩
theorem Quiet.trans {a b c : AH} (p : Quiet a b) (q : Quiet b c) : Quiet a c := ⟨Nat.le_trans p.1 q.1, fun x hx => (q.2 x (Nat.lt_of_lt_of_le hx p.1)).trans (p.2 x hx)⟩
theorem Quiet.alloc (h : AH) (cs : List Value) : Quiet h (h.alloc cs) := ⟨Nat.le_succ _, fun b hb => by simp [AH.alloc, Nat.ne_of_lt hb]⟩
theorem Quiet.put {h h' : AH} (p : Quiet h h') {b : Nat} (hb : h.next ≤ b) (x : Option (List Value)) : Quiet h (h'.put b x) :=
  ⟨p.1, fun c hc => by simp only [AH.put]; rw [if_neg (by omega)]; exact p.2 c hc⟩

/-- A slice that holds ints. -/
structure SI (h : AH) (s : Sl) (xs : List Int) : Prop where
  len : s.l = xs.length
  get : ∀ (i : Nat) (hi : i < xs.length), ∃ a, s.a = some a ∧ a.block < h.next ∧ h.cell a.block (a.off + i) = some (.int .i64 xs[i])

theorem SI.nil (h : AH) : SI h ⟨none, 0, 0⟩ [] := ⟨rfl, fun i hi => by cases hi⟩
theorem SI.quiet {h h' : AH} {s xs} (p : SI h s xs) (q : Quiet h h') : SI h' s xs := ⟨p.1, fun i hi => by
  obtain ⟨a, h1, h2, h3⟩ := p.2 i hi
  exact ⟨a, h1, Nat.lt_of_lt_of_le h2 q.1, by unfold AH.cell at h3 ⊢; rw [q.2 _ h2]; exact h3⟩⟩

section
variable {R : Type}
theorem SI.read {h : AH} {s : Sl} {xs : List Int} (p : SI h s xs) {i : Int} (h0 : 0 ≤ i) (hi : i.toNat < xs.length) (K : Int → Option R) :
    (idx 1 s i fun q => ldI .i64 h q.block q.off K) = K xs[i.toNat] := by
  obtain ⟨a, h1, _, h3⟩ := p.2 i.toNat hi
  have hl := p.1
  unfold idx
  rw [h1]
  simp only [if_pos h0]
  rw [if_pos (by omega)]
  unfold ldI
  rw [Nat.mul_one, h3]
  simp [asInt]
end

/-- A list that is being built: nil, or a block of its own. -/
def OI (n0 : Nat) (h : AH) (s : Sl) (xs : List Int) : Prop :=
  (xs = [] ∧ s = ⟨none, 0, 0⟩) ∨ (∃ b, n0 ≤ b ∧ b < h.next ∧ xs ≠ [] ∧ s = ⟨some ⟨b, 0, none⟩, xs.length, UNK + 1⟩ ∧ h.blk b = some (xs.map (Value.int .i64)))

theorem OI.si {n0 h s xs} (p : OI n0 h s xs) : SI h s xs := by
  rcases p with ⟨rfl, rfl⟩ | ⟨b, h1, h2, h3, rfl, h4⟩
  · exact SI.nil h
  · exact ⟨rfl, fun i hi => ⟨_, rfl, h2, by simp [AH.cell, h4, hi]⟩⟩

section
variable {R : Type}
/-- One more int, out of a new block. -/
theorem OI.push {n0 fl : Nat} {h0 h : AH} {s : Sl} {xs : List Int} (p : OI n0 h s xs) (q : Quiet h0 h) (hn : h0.next = n0) (hfl : fl ≤ n0) (hr : (xs.length + 1) * 8 ≤ ROOM) (x : Int) (K : Sl → AH → Option R) :
    ∃ s' h', (alc h [.int .i64 x] fun b h1 => apnd fl 1 8 s ⟨some ⟨b, 0, none⟩, 1, 1⟩ h1 K) = K s' h' ∧ OI n0 h' s' (xs ++ [x]) ∧ Quiet h0 h' := by
  have hb : (h.alloc [Value.int .i64 x]).blk h.next = some [Value.int .i64 x] := by simp [AH.alloc]
  have rd : ∀ {R' : Type} (F : List Value → Option R'), rdN (h.alloc [Value.int .i64 x]) (some ⟨h.next, 0, none⟩) (1 * 1) F = F [.int .i64 x] := by
    intro R' F
    simp [rdN, hb]
  rcases p with ⟨rfl, rfl⟩ | ⟨b, h1, h2, h3, rfl, h4⟩
  · refine ⟨⟨some ⟨h.next + 1, 0, none⟩, 1, UNK + 1⟩, (h.alloc [.int .i64 x]).alloc [.int .i64 x], ?_, .inr ⟨h.next + 1, ?_, ?_, by simp, rfl, ?_⟩, (q.trans (Quiet.alloc _ _)).trans (Quiet.alloc _ _)⟩
    · show apnd fl 1 8 ⟨none, 0, 0⟩ ⟨some ⟨h.next, 0, none⟩, 1, 1⟩ (h.alloc [.int .i64 x]) K = _
      unfold apnd
      simp only [List.length_nil] at hr
      rw [if_neg (by simp), if_pos (by simpa using hr), rd]
      simp [AH.alloc]
    · have := q.1; omega
    · simp [AH.alloc]
    · simp [AH.alloc]
  · have hbn : (h.alloc [Value.int .i64 x]).blk b = some (xs.map (Value.int .i64)) := by simp [AH.alloc, Nat.ne_of_lt h2, h4]
    refine ⟨⟨some ⟨h.next + 1, 0, none⟩, xs.length + 1, UNK + 1⟩, ((h.alloc [.int .i64 x]).put b none).alloc (xs.map (Value.int .i64) ++ [.int .i64 x]), ?_, .inr ⟨h.next + 1, ?_, ?_, by simp, by simp, ?_⟩, ?_⟩
    · show apnd fl 1 8 ⟨some ⟨b, 0, none⟩, xs.length, UNK + 1⟩ ⟨some ⟨h.next, 0, none⟩, 1, 1⟩ (h.alloc [.int .i64 x]) K = _
      unfold apnd
      rw [if_neg (by simp), if_pos (by simpa using hr), rd]
      have hU : ¬ (UNK + 1 < UNK) := by omega
      have hrd : ∀ {R' : Type} (F : List Value → Option R'), rdN (h.alloc [Value.int .i64 x]) (some ⟨b, 0, none⟩) (xs.length * 1) F = F (xs.map (Value.int .i64)) := by
        intro R' F
        simp [rdN, hbn, ← List.map_take]
      simp only [if_neg hU, hrd]
      rw [if_pos ⟨by omega, trivial, rfl⟩]
      rfl
    · have := q.1; omega
    · simp [AH.alloc, AH.put]
    · simp [AH.alloc, AH.put]
    · exact ((q.trans (Quiet.alloc _ _)).put (by omega) none).trans (Quiet.alloc _ _)
end

/-- No wrap within 64 bits. -/
theorem w64_id {n : Int} (h1 : -9223372036854775808 ≤ n) (h2 : n < 9223372036854775808) : w64 n = n := by
  unfold w64
  rw [IntKind.wrap_i64]; omega
end Go.Abs
