/-
  HierarchyLists answers true for every list and number, and leaves its arguments as they were. No condition.
-/
import Derived.Test.YtgplcfblbkmcmaaGreatRows
import Derived.WalkKit
import Derived.ProofKit
import Derived.OpenShut
import Derived.ShutString
import Derived.ChangeOld
import Derived.Below
import Derived.Test.YtgplcfblbkmcmaaGreatS7
namespace Go.Proofs.YtgplcfblbkmcmaaGreat.hierarchyLists
open Go.ChangeShapes Go.WideShapes Go.ChangeAt Go.RowKit
open Go.ChangeMaps (open_string shut_string)
set_option linter.unusedVariables false

theorem own : ownKnob Tryz.prog.godebug = none := by kernel_rfl
theorem laidOut : laidOutB Tryz.prog = true := by kernel_rfl

/-- WHAT THE WALK IS TOLD OF A SLICE OF INTEGERS THAT CAME IN: it is nil; or it leads to a row of 'cap' cells, the numbers 'zs' (the first 'len' are its elements, the rest its spare room), each fitting its kind. -/
def IsRow (k : IntKind) (w : World) (a : Option Addr) (len cap : Nat) (zs : List Int) : Prop :=
  (a = none ∧ len = 0 ∧ cap = 0 ∧ zs = []) ∨
  ∃ x, a = some x ∧ len ≤ cap ∧ cap ≤ maxLen ∧ zs.length = cap ∧ (∀ i, i < zs.length → w.cell? (x.add i) = some (.int k (zs.getD i 0))) ∧ ∀ n ∈ zs, (Lit.int k n).wf = true

open Go.Abs Go.Abs.P in
theorem walk (a0 : Option Addr) (len0 cap0 : Nat) (z0 : List Int) (a1 : Int) (w : World) (w0 : IsRow .i64 w a0 len0 cap0 z0) (w0' : ∀ x, a0 = some x → x.spot = none ∧ x.block < w.heap.size) (w1 : (Lit.int .i64 a1).wf = true) :
    Calls Tryz.prog 5 #[.slice a0 len0 cap0, .int .i64 a1] w fun e w' => e = .returned (.bool true) ∧ Below w.heap.size w w' := by
  have fin : ∀ (h : AH) (s : Sl) (xs : List Int) (μ : Mu), h.next = 1 → SI h s xs → Sim 1 w.heap.size μ h w → VRel μ (szOf w) (.slice s.a s.l s.c) (.slice a0 len0 cap0) → (∀ b, 1 ≤ b → μ b = none) →
      Calls Tryz.prog 5 #[.slice a0 len0 cap0, .int .i64 a1] w fun e w' => e = .returned (.bool true) ∧ Below w.heap.size w w' := by
    intro h s xs μ hn hs sm hv hm
    obtain ⟨h', e, q⟩ := Lists_run a1 hs
    have := M_sound.sound _ _ _ _ _ _ e 1 w.heap.size μ w [.slice a0 len0 cap0, .int .i64 a1] sm (by omega) (Nat.le_refl _) (Nat.le_refl _) (.cons hv (.cons (.int _ _) .nil)) (fun b h1 _ => hm b (by omega))
    refine this.mono ?_
    rintro e' w' ⟨v', μ', rfl, p, hv'⟩
    have := hv'.bool_inv
    subst this
    exact ⟨rfl, ⟨p.os, p.tape, p.output, p.hs, fun rb hrb => p.fr rb hrb fun b cs o h1 h2 => by omega⟩⟩
  rcases w0 with ⟨rfl, rfl, rfl, rfl⟩ | ⟨x, rfl, hl, hm, hz, hc, _⟩
  · refine fin ⟨1, fun _ => none⟩ ⟨none, 0, 0⟩ [] (fun _ => none) rfl (SI.nil _) ?_ .nilSlice (fun _ _ => rfl)
    exact { cell := fun b cs rb o h => (by cases h), own := fun b cs rb o _ h => (by cases h), inj := fun b b' cs cs' rb o o' _ h => (by cases h), lt := fun b rb o h => (by cases h), bnd := fun b cs h => (by cases h) }
  · obtain ⟨h1, h2⟩ := w0' x rfl
    obtain ⟨xb, xo, xs⟩ := x
    simp only at h1 h2
    subst h1
    refine fin ⟨1, fun b => if b = 0 then some (z0.map (Value.int .i64)) else none⟩ ⟨some ⟨0, 0, none⟩, len0, cap0⟩ (z0.take len0) (fun b => if b = 0 then some (xb, xo) else none) rfl ?_ ?_ ?_ ?_
    · refine ⟨by simp; omega, fun i hi => ⟨_, rfl, Nat.zero_lt_one, ?_⟩⟩
      simp only [List.length_take] at hi
      simp [AH.cell, List.getElem?_eq_getElem (show i < z0.length by omega)]
    · refine { cell := ?_, own := ?_, inj := ?_, lt := ?_, bnd := ?_ }
      · intro b cs rb o hb hmu j v hv
        by_cases e : b = 0
        · subst e
          simp only [if_true, Option.some.injEq, Prod.mk.injEq] at hb hmu
          obtain ⟨rfl, rfl⟩ := hmu
          subst hb
          rw [List.getElem?_map] at hv
          cases hz2 : z0[j]? with
          | none => rw [hz2] at hv; cases hv
          | some z =>
            rw [hz2] at hv
            simp at hv
            subst hv
            have hj := (List.getElem?_eq_some_iff.1 hz2).1
            have h7 : w.cell? ⟨xb, xo + j, none⟩ = some (Value.int .i64 (z0.getD j 0)) := by
              have h8 := hc j hj
              have e9 : (⟨xb, xo, none⟩ : Addr).add j = ⟨xb, xo + j, none⟩ := by unfold Addr.add; split <;> simp_all
              rw [e9] at h8; exact h8
            rw [List.getD_eq_getElem?_getD, hz2] at h7
            exact ⟨Value.int .i64 z, h7, .int _ _⟩
        · simp only [if_neg e] at hb; cases hb
      · intro b cs rb o hb h3; simp only [if_neg (show b ≠ 0 by omega)] at h3; cases h3
      · intro b b' cs cs' rb o o' hb h3; simp only [if_neg (show b ≠ 0 by omega)] at h3; cases h3
      · intro b rb o h3
        by_cases e : b = 0
        · simp only [e, if_true, Option.some.injEq, Prod.mk.injEq] at h3; rw [← h3.1]; exact h2
        · simp only [if_neg e] at h3; cases h3
      · intro b cs h3
        by_cases e : b = 0
        · subst e; exact Nat.zero_lt_one
        · simp only [if_neg e] at h3; cases h3
    · have := VRel.slice (μ := fun b => if b = 0 then some (xb, xo) else none) (sz := szOf w) (b := 0) (o := 0) (s := none) (rb := xb) (off := xo) (l := len0) (c := cap0) rfl (by unfold maxLen at hm; unfold UNK; omega) hl
      simpa using this
    · intro b hb; simp only [if_neg (show b ≠ 0 by omega)]

/-! ### THE ROW's STEP: WRITTEN OUT: LEAVE IT -/
set_option maxRecDepth 100000 in
theorem lifted (os : Os) (started : os.Started) (H : Type) (enc : TypeId × Value → H) :
    ReturnsInHanded {} Tryz.checked os 5 .any (Rows.hierarchyListsSpec.pre6 enc Tryz.prog Tryz.f5 Rows.hierarchyListsRow.domain false) (Rows.hierarchyListsSpec.post enc Tryz.prog Tryz.f5 false true false false) := by
  refine returnsInHanded_of_change (C := Tryz.checked) own started (by kernel_rfl) Tryz.func5
    (ChangeSpec.witness6 (enc := enc) (C := Tryz.checked) false ⟨#[], #[.slice none 0 0, .int .i64 0], []⟩ 8 (by kernel_rfl) (by kernel_rfl) (by kernel_rfl) (by kernel_rfl)) ?_
  intro W base args ds gs before hval0 hW hcnd _
  have hval : ∀ (j : Nat) t v, Tryz.f5.params[j]? = some t → args[j]? = some v → Value.okWide Tryz.prog W .any base t v := hval0
  have hW' := hW
  obtain ⟨p, q, hA0, hV, rfl, hfz, hnd⟩ := hW
  have hA : DataW.TrodAll enc Tryz.prog W 0 (fun _ => true) true Tryz.f5.params.toList args.toList ds p := hA0
  rw [Tryz.params5] at hA hval
  obtain ⟨v0, vs0, d0, ds0, p0, q0, hargs, rfl, rfl, h0, r0⟩ := trodAll_cons hA
  obtain ⟨v1, vs1, d1, ds1, p1, q1, rfl, rfl, rfl, h1, r1⟩ := trodAll_cons r0
  obtain ⟨rfl, rfl, rfl⟩ := trodAll_nil r1
  obtain rfl : args = #[v0, v1] := by cases args; simp_all
  obtain ⟨rfl, rfl⟩ := trodVars_none hV
  obtain ⟨a0, len0, cap0, rfl⟩ := okWide_slice Tryz.underlying22 (hval 0 22 v0 rfl rfl)
  have k0 := h0
  have lt0 : ∀ x ∈ p0, x.block < W.heap.size := by obtain ⟨m, hm⟩ := k0; exact DataW.trod_lt m _ _ _ hm
  obtain ⟨z0, w0⟩ : ∃ zs, IsRow .i64 W a0 len0 cap0 zs := by
    obtain ⟨fuel, hf⟩ := h0
    rcases open_ints Tryz.underlying22 Tryz.underlying3 (by kernel_rfl) hf with ⟨hcs, _⟩ | ⟨x, l, c, zs, hcs, _, hl, hm, hz, _, hcell, hwz⟩
    · simp [Value.cells] at hcs
      obtain ⟨rfl, rfl, rfl⟩ := hcs
      exact ⟨[], .inl ⟨rfl, rfl, rfl, rfl⟩⟩
    · simp [Value.cells] at hcs
      obtain ⟨rfl, rfl, rfl⟩ := hcs
      exact ⟨zs, .inr ⟨_, rfl, hl, hm, by simpa using hz, hcell, hwz⟩⟩
  obtain ⟨a1, rfl, rfl, rfl, w1⟩ := open_int Tryz.underlying3 (hval 1 3 v1 rfl rfl) h1
  have s0 : ∀ x, a0 = some x → x.spot = none ∧ x.block < W.heap.size := by
    rintro x rfl
    have := hval 0 22 _ rfl rfl
    simp only [Value.okWide, Tryz.underlying22, Cell.okWide, Cell.ok, World.has] at this
    obtain ⟨_, _, _, h3, row, cells, h4, _⟩ := this
    refine ⟨h3, ?_⟩
    unfold World.shape? at h4
    split at h4
    · rename_i h5; exact (Array.getElem?_eq_some_iff.1 h5).1
    all_goals cases h4
  clear hA0 hval0
  refine (walk a0 len0 cap0 z0 a1 W w0 s0 w1).mono fun e W' ⟨he, bel⟩ => ?_
  subst he
  exact ⟨_, rfl, _, _, _, [], _, [], hW', trodAll_mk1 (shut_bool Tryz.underlying4 _), (trodAll_cons_mk (Below.trod laidOut (by kernel_rfl) (of_decide_eq_true (by kernel_rfl)) k0 bel lt0) (trodAll_cons_mk (shut_int Tryz.underlying3 w1) trodAll_mk0)), rfl, bel.frame _, fun h => by cases h⟩

theorem over : Rows.hierarchyListsRow.holds Tryz.pinned (OpenSpec.ofChange Rows.hierarchyListsSpec) :=
  OpenClaim.holds_of_wide 5 Tryz.f5 rfl rfl rfl rfl rfl rfl rfl ⟨rfl, rfl, rfl, rfl, rfl⟩ rfl rfl rfl rfl rfl (by kernel_rfl) Tryz.func5 (by kernel_rfl)
    (of_decide_eq_true (by kernel_rfl)) (by unfold Func.isWrapper; first | (rw [if_pos (by decide +kernel)]; kernel_rfl) | (rw [if_neg (by decide +kernel)]; exact ⟨rfl, rfl⟩))
    (fun os started H enc _ => lifted os started H enc)

/-- ████ THE STATEMENT ████ -/
theorem proved : Rows.HierarchyListsSaid := over
#print axioms proved
end Go.Proofs.YtgplcfblbkmcmaaGreat.hierarchyLists
namespace Go.Proofs.YtgplcfblbkmcmaaGreat
/-- The row, under a short name. -/
theorem hierarchyLists_holds : Rows.HierarchyListsSaid := hierarchyLists.proved
end Go.Proofs.YtgplcfblbkmcmaaGreat
