/- slices.AppendSeq over slices.Values, as the abstract machine has it. -/
import Derived.Test.YtgplcfblbkmcmaaGreatGoAbsA20
import Derived.Test.YtgplcfblbkmcmaaGreatSq
import Derived.Test.YtgplcfblbkmcmaaGreatN
namespace Go.Abs
open Go.RowKit Go.Proofs

def sqE : Callee := fun _ f args h => cond (Nat.beq f fn.slices_AppendSeq) (match args with
  | [.slice none 0 0, .func (.func g) ⟨[]⟩ ⟨[.pointer (some p)]⟩] => cond (Nat.beq g fn.slices_Values_1) (match h.cell p.block p.off with
    | some (.slice a l _) => cond (Nat.ble l 1000000000) (rdN h a l fun xs => cond (xs.all isI64) (match xs with
      | [] => some (.slice none 0 0, h)
      | x :: xs => some (.slice (some ⟨h.next, 0, none⟩) l (UNK + 1), h.alloc (x :: xs))) none) none
    | _ => none) none
  | _ => none) none

theorem rdN_split {R : Type} {r : R} {h : AH} {a : Option Addr} {n : Nat} {K : List Value → Option R} (e : rdN h a n K = some r) : ∃ xs, rdN h a n some = some xs ∧ K xs = some r := by
  unfold rdN at e ⊢
  split at e
  · split at e
    · rename_i hz; exact ⟨[], by simp [hz], e⟩
    · cases e
  · split at e
    · rename_i cs hc
      split at e
      · rename_i hl; exact ⟨_, by simp only [if_pos hl], e⟩
      · cases e
    · cases e

theorem sqE_inv {fl f args h v h1} (e : sqE fl f args h = some (v, h1)) : f = fn.slices_AppendSeq ∧ ∃ p a l c xs, args = [.slice none 0 0, .func (.func fn.slices_Values_1) ⟨[]⟩ ⟨[.pointer (some p)]⟩] ∧ h.cell p.block p.off = some (.slice a l c) ∧ l ≤ 1000000000 ∧
    rdN h a l some = some xs ∧ xs.all isI64 = true ∧ ((xs = [] ∧ v = .slice none 0 0 ∧ h1 = h) ∨ (xs ≠ [] ∧ v = .slice (some ⟨h.next, 0, none⟩) l (UNK + 1) ∧ h1 = h.alloc xs)) := by
  unfold sqE at e
  cases hf : Nat.beq f fn.slices_AppendSeq with
  | false => rw [hf] at e; cases e
  | true =>
    rw [hf] at e
    refine ⟨Nat.eq_of_beq_eq_true hf, ?_⟩
    simp only [cond_true] at e
    split at e
    · rename_i g p
      cases hg : Nat.beq g fn.slices_Values_1 with
      | false => rw [hg] at e; cases e
      | true =>
        rw [hg] at e
        have hg' := Nat.eq_of_beq_eq_true hg
        simp only [cond_true] at e
        split at e
        · rename_i a l c hc
          cases hl : Nat.ble l 1000000000 with
          | false => rw [hl] at e; cases e
          | true =>
            rw [hl] at e
            have hl' := Nat.le_of_ble_eq_true hl
            simp only [cond_true] at e
            obtain ⟨xs, hx, e⟩ := rdN_split e
            · cases hi : xs.all isI64 with
              | false => rw [hi] at e; cases e
              | true =>
                rw [hi] at e
                simp only [cond_true] at e
                refine ⟨p, a, l, c, xs, by rw [hg'], hc, hl', hx, hi, ?_⟩
                split at e
                · simp only [Option.some.injEq, Prod.mk.injEq] at e; exact .inl ⟨rfl, e.1.symm, e.2.symm⟩
                · simp only [Option.some.injEq, Prod.mk.injEq] at e; exact .inr ⟨by simp, e.1.symm, e.2.symm⟩
        · cases e
    · cases e

theorem sqE_sound : CSound Tryz.prog sqE where
  step fl f args h v h1 e := by
    obtain ⟨_, p, a, l, c, xs, _, _, _, _, _, h7⟩ := sqE_inv e
    rcases h7 with ⟨_, _, rfl⟩ | ⟨_, _, rfl⟩
    · exact AStep.refl _ _
    · exact AStep.alloc _ _ _
  fn fl f args h v h1 e := by
    obtain ⟨rfl, _⟩ := sqE_inv e
    exact ⟨_, Tryz.func201, by kernel_rfl, by kernel_rfl⟩
  sound fl f args h v h1 e base rbase μ w args' s hb hfl hr ha hf := by
    obtain ⟨rfl, p, a, l, c, xs, rfl, h3, h4, h5, h6, h7⟩ := sqE_inv e
    obtain ⟨zs, rfl⟩ := ints_of h6
    -- the arguments
    obtain ⟨hl, ha⟩ := ha
    match args', hl, ha with
    | [s1, f1], _, ha =>
      have r1 := ha 0 (by simp) (by simp)
      have r2 := ha 1 (by simp) (by simp)
      simp only [List.getElem_cons_zero, List.getElem_cons_succ] at r1 r2
      have e1 : s1 = .slice none 0 0 := by cases r1; rfl
      subst e1
      obtain ⟨f2, g2, rfl, r3, r4⟩ := r2.func_inv
      obtain ⟨l3, _⟩ := r3
      match f2, l3 with
      | [], _ =>
        obtain ⟨l4, r4⟩ := r4
        match g2, l4, r4 with
        | [q], _, r4 =>
          have r5 := r4 0 (by simp) (by simp)
          simp only [List.getElem_cons_zero] at r5
          obtain ⟨bp, op, sp⟩ := p
          obtain ⟨rb, off, hm, rfl⟩ : ∃ rb off, μ bp = some (rb, off) ∧ q = .pointer (some ⟨rb, off + op, none⟩) := by cases r5; exact ⟨_, _, by assumption, rfl⟩
          clear r5 r4 r2
          -- the box
          unfold AH.cell at h3
          split at h3
          · rename_i cs hcs
            obtain ⟨v', k1, k2⟩ := s.cell _ _ _ _ hcs hm _ _ h3
            have hrb := s.lt _ _ _ hm
            have hlen : zs.length = l := by
              unfold rdN at h5
              split at h5
              · split at h5
                · rename_i hz; simp only [Option.some.injEq] at h5; have := congrArg List.length h5; simp at this; omega
                · cases h5
              · split at h5
                · split at h5
                  · simp only [Option.some.injEq] at h5; have := congrArg List.length h5; simp at this; omega
                  · cases h5
                · cases h5
            have hI : Sq.Ints w.heap.size w v' zs := by
              have cells : ∀ ad b2 o2, a = some ad → μ ad.block = some (b2, o2) → ∀ j, j < zs.length → w.cell? ⟨b2, o2 + ad.off + j, none⟩ = some (.int .i64 (zs[j]?.getD 0)) := by
                intro ad b2 o2 e2 hm2 j hj
                subst e2
                simp only [rdN] at h5
                split at h5
                · rename_i cs2 hcs2
                  split at h5
                  · rename_i hle
                    simp only [Option.some.injEq] at h5
                    have h9 : cs2[ad.off + j]? = some (.int .i64 (zs[j]?.getD 0)) := by
                      have := congrArg (fun l => l[j]?) h5
                      simp only [List.getElem?_take, List.getElem?_drop, List.getElem?_map] at this
                      rw [if_pos (by omega)] at this
                      rw [this, List.getElem?_eq_getElem hj]; rfl
                    obtain ⟨v3, k3, k4⟩ := s.cell _ _ _ _ hcs2 hm2 _ _ h9
                    cases k4
                    rw [Nat.add_assoc]; exact k3
                  · cases h5
                · cases h5
              cases k2 with
              | nilSlice => exact .inl ⟨rfl, by cases zs with | nil => rfl | cons _ _ => simp at hlen⟩
              | slice hm2 hc2 hl2 => exact .inr ⟨_, _, _, by rw [hlen], s.lt _ _ _ hm2, fun j hj => cells _ _ _ rfl hm2 j hj⟩
              | sliceU hm2 ho2 hl2 hs2 =>
                refine .inr ⟨_, _, _, by rw [hlen], s.lt _ _ _ hm2, fun j hj => ?_⟩
                rcases ho2 with ho2 | ho2
                · omega
                · rw [ho2]; exact cells _ _ _ rfl hm2 j hj
            have call := Sq.appendSeq_in Fence.wide 5 trivial trivial rfl (by omega) rb (off + op) v' zs (by rw [hlen]; unfold maxLen; omega) (by omega) w hrb k1 hI
            refine (callsIn_wide.1 call).mono ?_
            rintro e' W' ⟨v2, rfl, h8, h9, h10⟩
            rcases h7 with ⟨h11, rfl, rfl⟩ | ⟨h11, rfl, rfl⟩
            · have : zs = [] := by simpa using h11
              rw [h9.2 this]
              exact ⟨_, μ, rfl, Post.below s h10, .nilSlice⟩
            · have hne : zs ≠ [] := by intro e2; rw [e2] at h11; exact h11 rfl
              rcases h8.2 with ⟨h12, _⟩ | ⟨g, cap, cur, rfl, h13, h14, h15, h16, h17, h18⟩
              · exact absurd (h9.1 h12) hne
              · refine ⟨_, _, rfl, Post.found s h10 hr (hf _ (Nat.le_refl _) (Nat.lt_succ_self _)) h13 h14 ?_, ?_⟩
                · intro j u hu
                  have : cur[j]? = some u := by
                    have h19 := congrArg (fun l => l[j]?) h18
                    simp only [List.getElem?_take] at h19
                    have hj : j < zs.length := by have := (List.getElem?_eq_some_iff.1 hu).1; simpa using this
                    rw [if_pos (by omega), hu] at h19
                    simpa using h19
                  refine ⟨u, this, ?_⟩
                  rw [List.getElem?_map] at hu
                  cases hz : zs[j]? with
                  | none => rw [hz] at hu; cases hu
                  | some z => rw [hz] at hu; simp at hu; rw [← hu]; exact .int _ _
                · rw [← hlen]
                  exact .sliceU (ext_same _ _ _) (.inr rfl) h15 (by rw [szOf_cells h14]; omega)
          · cases h3
end Go.Abs
