/- What stands outside: calls that leave the old blocks as they were, and hand back something new. -/
import Derived.Test.YtgplcfblbkmcmaaGreatGoAbsA19
namespace Go.Abs
open Go.RowKit

theorem Sim.below {base rbase μ h w w'} (s : Sim base rbase μ h w) (b : Below w.heap.size w w') : Sim base rbase μ h w' where
  cell bb cs rb o h1 h2 j v hv := by
    obtain ⟨v', a, c⟩ := s.cell bb cs rb o h1 h2 j v hv
    have hl := s.lt _ _ _ h2
    exact ⟨v', by rw [cell_eq (b.block rb hl)]; exact a, c.mono (fun _ _ h => h) fun _ _ _ hm => by rw [szOf_eq (b.block _ (s.lt _ _ _ hm))]; exact Nat.le_refl _⟩
  own bb cs rb o h0 h1 h2 := by rw [b.block rb (s.lt _ _ _ h2)]; exact s.own bb cs rb o h0 h1 h2
  inj := s.inj
  lt bb rb o hb := Nat.lt_of_lt_of_le (s.lt bb rb o hb) b.size
  bnd := s.bnd

theorem Post.below {fl base rbase μ h w w'} (s : Sim base rbase μ h w) (b : Below w.heap.size w w') : Post fl base rbase μ h w μ h w' where
  sim := s.below b
  mu _ _ := rfl
  nx := Nat.le_refl _
  old _ _ _ := rfl
  dead _ cs _ h := ⟨cs, h⟩
  fr rb h _ := b.block rb h
  sz rb h := szOf_eq (b.block rb h)
  hs := b.size
  os := b.os
  tape := b.tape
  output := b.output
  new b _ _ _ h1 h2 := by omega

/-- A block that has come meanwhile is laid beside a new abstract block. -/
theorem Post.found {fl base rbase μ h w w'} (s : Sim base rbase μ h w) (b : Below w.heap.size w w') (hr : rbase ≤ w.heap.size) (hf : μ h.next = none) {g : Nat} (hg : w.heap.size ≤ g) {cs : List Value} {c : Array Value} {t : TypeId}
    (hgb : w'.heap[g]? = some (.cells c t (0, 0))) (hc : ∀ (j : Nat) v, cs[j]? = some v → ∃ v', c[j]? = some v' ∧ VRel μ (szOf w) v v') :
    Post fl base rbase μ h w (ext μ h.next (g, 0)) (h.alloc cs) w' := by
  have ho := b.block
  have hgl : g < w'.heap.size := (Array.getElem?_eq_some_iff.1 hgb).1
  have hle := ext_le (x := (g, 0)) hf
  have hszle : ∀ b rb o, μ b = some (rb, o) → szOf w rb ≤ szOf w' rb := fun b rb o hb => by rw [szOf_eq (ho rb (s.lt b rb o hb))]; exact Nat.le_refl _
  have hblk : ∀ b cs', (h.alloc cs).blk b = some cs' → (b = h.next ∧ cs' = cs) ∨ (b ≠ h.next ∧ h.blk b = some cs') := by
    intro b cs' hb
    by_cases e : b = h.next
    · simp [AH.alloc, e] at hb; exact .inl ⟨e, hb.symm⟩
    · simp [AH.alloc, e] at hb; exact .inr ⟨e, hb⟩
  refine { sim := { cell := ?_, own := ?_, inj := ?_, lt := ?_, bnd := ?_ }, mu := ?_, nx := ?_, old := ?_, dead := ?_, fr := ?_, sz := ?_, hs := b.size, os := b.os, tape := b.tape, output := b.output, new := ?_ }
  · intro b cs' rb o hbk hmu j v hv
    rcases hblk b cs' hbk with ⟨rfl, rfl⟩ | ⟨hne, hbk'⟩
    · rw [ext_same] at hmu; injection hmu with hmu; injection hmu with e1 e2; subst e1; subst e2
      obtain ⟨v', h1, h2⟩ := hc j v hv
      exact ⟨v', by rw [cell_cells hgb, Nat.zero_add]; exact h1, h2.mono hle hszle⟩
    · rw [ext_ne hne] at hmu
      obtain ⟨v', h1, h2⟩ := s.cell b cs' rb o hbk' hmu j v hv
      exact ⟨v', by rw [cell_eq (ho rb (s.lt b rb o hmu))]; exact h1, h2.mono hle hszle⟩
  · intro b cs' rb o hbb hbk hmu
    rcases hblk b cs' hbk with ⟨rfl, rfl⟩ | ⟨hne, hbk'⟩
    · rw [ext_same] at hmu; injection hmu with hmu; injection hmu with e1 e2; subst e1
      exact ⟨Nat.le_trans hr hg, c, t, hgb⟩
    · rw [ext_ne hne] at hmu
      rw [ho rb (s.lt b rb o hmu)]
      exact s.own b cs' rb o hbb hbk' hmu
  · intro b b' cs1 cs2 rb o o' hbb h1 h2 m1 m2
    rcases hblk b cs1 h1 with ⟨rfl, rfl⟩ | ⟨hne, h1'⟩
    · rcases hblk b' cs2 h2 with ⟨rfl, rfl⟩ | ⟨hne', h2'⟩
      · rfl
      · rw [ext_same] at m1; injection m1 with m1; injection m1 with e1 e2; subst e1
        rw [ext_ne hne'] at m2
        exact absurd (s.lt b' _ _ m2) (by omega)
    · rw [ext_ne hne] at m1
      rcases hblk b' cs2 h2 with ⟨rfl, rfl⟩ | ⟨hne', h2'⟩
      · rw [ext_same] at m2; injection m2 with m2; injection m2 with e1 e2; subst e1
        exact absurd (s.lt b _ _ m1) (by omega)
      · rw [ext_ne hne'] at m2
        exact s.inj b b' cs1 cs2 rb o o' hbb h1' h2' m1 m2
  · intro bb rb o hmu
    by_cases e : bb = h.next
    · subst e; rw [ext_same] at hmu; injection hmu with hmu; injection hmu with e1 e2; omega
    · rw [ext_ne e] at hmu; have := s.lt bb rb o hmu; have := b.size; omega
  · intro b cs' hbk
    show b < h.next + 1
    rcases hblk b cs' hbk with ⟨rfl, rfl⟩ | ⟨hne, hbk'⟩
    · omega
    · have := s.bnd b cs' hbk'; omega
  · intro b hb
    refine ext_ne ?_
    rintro rfl
    exact hb ⟨Nat.le_refl _, Nat.lt_succ_self _⟩
  · exact Nat.le_succ _
  · intro b hb _
    simp [AH.alloc, Nat.ne_of_lt hb]
  · intro b cs' hb hbk
    rcases hblk b cs' hbk with ⟨rfl, rfl⟩ | ⟨hne, hbk'⟩
    · omega
    · exact ⟨_, hbk'⟩
  · intro rb hrb _; exact ho rb hrb
  · intro rb hrb; exact szOf_eq (ho rb hrb)
  · intro b cs' rb o h1 h2 hmu _
    have : b = h.next := by have : b < h.next + 1 := h2; omega
    subst this
    rw [ext_same] at hmu; injection hmu with hmu; injection hmu with e1 e2; exact .inl (by omega)

/-! ### a slice of ints, handed to a contract -/
def isI64 : Value → Bool
  | .int .i64 _ => true
  | _ => false
theorem isI64_inv {v : Value} (h : isI64 v = true) : ∃ n, v = .int .i64 n := by
  unfold isI64 at h
  split at h
  · exact ⟨_, rfl⟩
  · cases h
theorem ints_of : ∀ {xs : List Value}, xs.all isI64 = true → ∃ zs : List Int, xs = zs.map (Value.int .i64)
  | [], _ => ⟨[], rfl⟩
  | x :: xs, h => by
    simp only [List.all_cons, Bool.and_eq_true] at h
    obtain ⟨zs, e⟩ := ints_of h.2
    obtain ⟨n, e1⟩ := isI64_inv h.1
    exact ⟨n :: zs, by simp [e, e1]⟩
end Go.Abs
