/- HierarchyLists answers true. -/
import Derived.Test.YtgplcfblbkmcmaaGreatS6
namespace Go.Abs.P
open Go.Abs

theorem Lists_run {h : AH} {s : Sl} {xs : List Int} (n : Int) (hs : SI h s xs) : ∃ h', M h.next fn.law29_HierarchyLists [.slice s.a s.l s.c, .int .i64 n] h = some (.bool true, h') ∧ Quiet h h' := by
  have go : ∀ {h' : AH}, law29_HierarchyLists M h.next 1 s n h = some (.bool true, h') → M h.next fn.law29_HierarchyLists [.slice s.a s.l s.c, .int .i64 n] h = some (.bool true, h') := by
    intro h' e
    refine M_run (k := 1) (by decide) T_law29_HierarchyLists ?_
    rw [law29_HierarchyLists_run]; exact e
  by_cases hl : xs.length > 100
  · refine ⟨h, go ?_, Quiet.refl h⟩
    unfold law29_HierarchyLists uba2w callF
    rw [M_awake]
    simp only [asBool]
    rw [if_pos (by decide), if_pos (by rw [hs.len]; simp; omega), M_awake]
  · obtain ⟨s1, h1, a1, a2, a3⟩ := Duality_spec (fl := h.next) n hs (by unfold BIG; omega) (Nat.le_refl _)
    obtain ⟨s2, h2, b1, b2, b3⟩ := DualityR_spec (fl := h.next) n (hs.quiet a3) (by omega) a3.next
    have a2' := a2.si.quiet b3
    have hlen : ∀ ys, dualW xs n = some ys → ys.length ≤ 64 := by
      intro ys e
      rw [dualW_eq] at e
      unfold dualR at e
      split at e
      · cases e
      · split at e
        · split at e
          · injection e with e
            subst e
            have := othersFrom_len (xs := xs.map (· - 1)) (d := n.toNat) (i := 0)
            simp; omega
          · cases e
        · cases e
    have hlen' : ((dualW xs n).getD []).length ≤ 64 := by
      cases e : dualW xs n with
      | none => simp
      | some ys => exact hlen ys e
    have same : M h.next fn.ref09_SameInts [.slice s1.a s1.l s1.c, .slice s2.a s2.l s2.c] h2 = some (.bool true, h2) := by
      rw [SameInts_spec a2' b2.si (by unfold BIG; omega), dualW_eq]; simp
    cases e : dualW xs n with
    | none =>
      have e2 : dualR xs n = none := by rw [← dualW_eq]; exact e
      refine ⟨h2, go ?_, a3.trans b3⟩
      rw [e] at a1; rw [e2] at b1
      unfold law29_HierarchyLists uba2w callF
      rw [M_awake]
      simp only [asBool]
      rw [if_pos (by decide), if_neg (by rw [hs.len]; simp; omega), a1]
      simp only [asTup, ucons, unil, asSl, asInt, if_true, Option.isSome_none, Bool.false_eq_true, if_false]
      rw [b1]
      simp only [asTup, ucons, unil, asSl, asInt, if_true, Option.isSome_none, Bool.false_eq_true, if_false]
      rw [if_pos (by decide), same]
      simp only [asBool]
      rw [if_neg (by decide), if_pos (by decide)]
    | some ys =>
      have e2 : dualR xs n = some ys := by rw [← dualW_eq]; exact e
      rw [e] at a1 a2'; rw [e2] at b1
      simp only [Option.getD_some] at a2'
      obtain ⟨s3, h3, c1, c2, c3⟩ := Duality_spec (fl := h.next) n a2' (by have := hlen ys e; unfold BIG; omega) (Nat.le_trans a3.next b3.next)
      have e3 := dual_twice e
      have q03 := (a3.trans b3).trans c3
      have same2 : M h.next fn.ref09_SameInts [.slice s3.a s3.l s3.c, .slice s.a s.l s.c] h3 = some (.bool true, h3) := by
        rw [e3] at c2
        rw [SameInts_spec c2.si (hs.quiet q03) (by simp; unfold BIG; omega)]; simp
      refine ⟨h3, go ?_, q03⟩
      unfold law29_HierarchyLists uba2w callF
      rw [M_awake]
      simp only [asBool]
      rw [if_pos (by decide), if_neg (by rw [hs.len]; simp; omega), a1]
      simp only [asTup, ucons, unil, asSl, asInt, if_true, Option.isSome_some]
      rw [b1]
      simp only [asTup, ucons, unil, asSl, asInt, if_true, Option.isSome_some]
      rw [if_pos (by decide), same]
      simp only [asBool]
      rw [if_neg (by decide), if_neg (by decide), c1]
      rw [e3]
      simp only [asTup, ucons, unil, asSl, asInt, if_true, Option.isSome_some]
      rw [if_pos (by decide), same2]
end Go.Abs.P
