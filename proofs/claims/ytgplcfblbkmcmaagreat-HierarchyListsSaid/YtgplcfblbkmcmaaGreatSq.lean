/- slices.AppendSeq over slices.Values: a copy. (Turned from a worked text of the kit.) -/
import Derived.RangeFuncBox
import Derived.RangeFuncLeaves
import Derived.Maps.AppendAt
import Derived.Shelf.Abstract
import Derived.WalkKit
import Derived.OwnWalkIn
import Derived.TacticsInMore
import Derived.LoopNIn
import Derived.LoopIn
import Derived.Test.YtgplcfblbkmcmaaGreatProg
namespace Go.Proofs
open Go.RowKit Go.Shelf Go.Maps
def Sq.intOf : Value → Int | .int _ q => q | _ => 0

attribute [local go_sem] Oper.semAt_some

def Sq.upto {α : Type} (f : Nat → α) (k : Nat) : List α := (List.range k).map f
theorem Sq.upto_succ {α : Type} (f : Nat → α) (k : Nat) : Sq.upto f (k + 1) = Sq.upto f k ++ [f k] := by simp [Sq.upto, List.range_succ]
theorem Sq.upto_length {α : Type} (f : Nat → α) (k : Nat) : (Sq.upto f k).length = k := by simp [Sq.upto]
theorem Sq.upto_all (zs : List Int) : Sq.upto (fun j => zs[j]?.getD 0) zs.length = zs := by
  apply List.ext_getElem
  · simp [Sq.upto]
  · intro i h1 h2
    simp [Sq.upto, h2]

set_option maxRecDepth 100000 in
set_option maxHeartbeats 2000000 in
theorem Sq.values1_in (F : Fence) (n : Nat) (h187 : F.fn 187) (hro : F.round = none) (hn : 1 ≤ n) (l Bs Bo n₀ b off len cap : Nat) (zs : List Int) (hreach : len * 8 ≤ 140737488351232) (hb : b < n₀) (J Jx : List Int → World → Prop)
    (hY : ∀ pre x W, J pre W → pre.length < len → YieldAt F (n - 1) Tryz.prog l #[.int .i64 x] W fun e W' =>
      (e = .returned (.bool true) ∧ J (pre ++ [x]) W' ∧ Below n₀ W W') ∨ (e = .returned (.bool false) ∧ Jx (pre ++ [x]) W'))
    (W : World) (hBs : W.cell? ⟨Bs, Bo, none⟩ = some (.slice (some ⟨b, off, none⟩) len cap)) (hc : ∀ j, j < len → W.cell? ⟨b, off + j, none⟩ = some (.int .i64 (zs[j]?.getD 0))) (h0 : J [] W) :
    CallsIn F n Tryz.prog 187 #[.func (.yield l) #[] #[], .pointer (some ⟨Bs, Bo, none⟩)] W fun e W' => (∃ v, e = .returned v) ∧
      ((∃ ys, ys = Sq.upto (fun j => zs[j]?.getD 0) len ∧ J ys W') ∨ (∃ pre, (∃ k, k ≤ len ∧ pre = Sq.upto (fun j => zs[j]?.getD 0) k) ∧ Jx pre W')) := by
  refine callsIn_of_wp Tryz.func187 rfl h187 ?_ hro
  simp only [Tryz.ntmps187, List.size_toArray, List.length_cons, List.length_nil, Nat.reduceAdd, Nat.reduceSub, Array.replicate_succ, Array.replicate_zero, List.push_toArray, List.append_toArray, List.nil_append, List.cons_append]
  gi_wp2
  gi_loopw [7] (fun i wr => ∃ k : Nat, k ≤ len ∧ i = .int .i64 k ∧ J (Sq.upto (fun j => zs[j]?.getD 0) k) wr ∧ Below n₀ W wr)
    (fun i _ => len - (Sq.intOf i).toNat)
  case atStart => exact ⟨0, Nat.zero_le _, rfl, h0, Below.refl _ _⟩
  case round =>
    obtain ⟨k, hk, rfl, hJs, hnx⟩ := hrel
    have hcx : k < len → wr.cell? ⟨b, off + k, none⟩ = some (.int .i64 (zs[k]?.getD 0)) := fun h => (hnx.cell (p := ⟨b, off + k, none⟩) hb).trans (hc k h)
    by_cases hlt : k < len
    · obtain ⟨fn, tmps, assign, body, hy, hR⟩ := hY _ (zs[k]?.getD 0) wr hJs (by rw [Sq.upto_length]; exact hlt)
      have hcx' := hcx hlt
      gi_wp2
      refine hR.mono ?_
      rintro e W3 (⟨rfl, hJ3, hk3⟩ | ⟨rfl, hJx3⟩)
      · -- THE ROUND GOES ON
        gi_wp2
        go_roundw
        case rel => exact ⟨k + 1, by omega, by simp, by rw [Sq.upto_succ]; exact hJ3, hnx.trans hk3⟩
        case measure => simp [Sq.intOf]; omega
      · gi_wp2
        refine bodyPost_ret (results_none rfl _ _ _) rfl ?_
        exact ⟨⟨_, rfl⟩, .inr ⟨_, ⟨k + 1, by omega, (Sq.upto_succ _ _).symm⟩, hJx3⟩⟩
    · obtain rfl : k = len := by omega
      gi_wp2
      go_end0
      exact ⟨⟨_, rfl⟩, .inl ⟨_, rfl, hJs⟩⟩

theorem Sq.upto_take (zs : List Int) {k : Nat} (hk : k ≤ zs.length) : Sq.upto (fun j => zs[j]?.getD 0) k = zs.take k := by
  apply List.ext_getElem
  · simp [Sq.upto, hk]
  · intro i h1 h2
    have : i < zs.length := by simp [Sq.upto] at h1; omega
    simp [Sq.upto, this]

def Sq.Ints (n₀ : Nat) (W : World) (sv : Value) (zs : List Int) : Prop :=
  (sv = .slice none 0 0 ∧ zs = []) ∨ ∃ b off cap, sv = .slice (some ⟨b, off, none⟩) zs.length cap ∧ b < n₀ ∧ ∀ j, j < zs.length → W.cell? ⟨b, off + j, none⟩ = some (.int .i64 (zs[j]?.getD 0))
theorem Sq.Ints.below {n₀ : Nat} {A B : World} (h : Below n₀ A B) {sv : Value} {zs : List Int} : Sq.Ints n₀ A sv zs → Sq.Ints n₀ B sv zs
  | .inl e => .inl e
  | .inr ⟨b, off, cap, e, hb, hc⟩ => .inr ⟨b, off, cap, e, hb, fun j hj => (h.cell (p := ⟨b, off + j, none⟩) hb).trans (hc j hj)⟩

set_option maxRecDepth 100000 in
set_option maxHeartbeats 1000000 in
theorem Sq.values1_nil_in (F : Fence) (n : Nat) (h187 : F.fn 187) (hro : F.round = none) (l Bs Bo : Nat) (J : List Int → World → Prop) (W : World) (hBs : W.cell? ⟨Bs, Bo, none⟩ = some (.slice none 0 0)) (h0 : J [] W) :
    CallsIn F n Tryz.prog 187 #[.func (.yield l) #[] #[], .pointer (some ⟨Bs, Bo, none⟩)] W fun e W' => (∃ v, e = .returned v) ∧ J [] W' := by
  refine callsIn_of_wp Tryz.func187 rfl h187 ?_ hro
  simp only [Tryz.ntmps187, List.size_toArray, List.length_cons, List.length_nil, Nat.reduceAdd, Nat.reduceSub, Array.replicate_succ, Array.replicate_zero, List.push_toArray, List.append_toArray, List.nil_append, List.cons_append]
  gi_wp2
  gi_loopw [7] (fun i wr => i = .int .i64 0 ∧ J [] wr) (fun _ _ => 0)
  case atStart => exact ⟨rfl, h0⟩
  case round =>
    obtain ⟨rfl, hJs⟩ := hrel
    gi_wp2
    go_end0
    exact ⟨⟨_, rfl⟩, hJs⟩

theorem Sq.values_stops (F : Fence) (n : Nat) (h187 : F.fn 187) (hro : F.round = none) (hn : 1 ≤ n) (Bs Bo n₀ : Nat) (sv : Value) (zs : List Int) (hreach : zs.length * 8 ≤ 140737488351232) (w : World) (hBs : Bs < w.heap.size) (hn₀ : n₀ ≤ w.heap.size)
    (hc : w.cell? ⟨Bs, Bo, none⟩ = some sv) (hI : Sq.Ints n₀ w sv zs) :
    SeqStopsK F n Tryz.prog 187 #[.pointer (some ⟨Bs, Bo, none⟩)] (fun x : Int => #[Value.int .i64 x]) (Below n₀) (fun ys => ys = zs) (fun pre => pre <+: zs) zs.length w := fun l J Jx W hW _ _ hY h0 => by
  have hc' := (hW.cell (p := ⟨Bs, Bo, none⟩) hBs).trans hc
  rcases hI.below (hW.mono hn₀) with ⟨rfl, rfl⟩ | ⟨b, off, cap, rfl, hb, hcs⟩
  · exact (Sq.values1_nil_in F n h187 hro l Bs Bo J W hc' h0).mono fun e W' ⟨he, hj⟩ => ⟨he, .inl ⟨_, rfl, hj⟩⟩
  · refine (Sq.values1_in F n h187 hro hn l Bs Bo n₀ b off zs.length cap zs hreach hb J Jx hY W hc' hcs h0).mono ?_
    rintro e W' ⟨he, ⟨ys, rfl, hj⟩ | ⟨pre, ⟨k, hk, rfl⟩, hj⟩⟩
    · exact ⟨he, .inl ⟨_, Sq.upto_all zs, hj⟩⟩
    · exact ⟨he, .inr ⟨_, by rw [Sq.upto_take zs hk]; exact List.take_prefix _ _, hj⟩⟩


theorem Sq.cell_of_box {W : World} {B : Nat} {v : Value} {t : TypeId} (h : W.heap[B]? = some (.cells #[v] t (0, 0))) : W.cell? ⟨B, 0, none⟩ = some v ∧ W.frozen? ⟨B, 0, none⟩ = false := by
  constructor <;> simp [World.cell?, World.frozen?, h]
theorem Sq.heap_setCell_box {W : World} {B : Nat} {v : Value} {t : TypeId} (v' : Value) (h : W.heap[B]? = some (.cells #[v] t (0, 0))) : (W.setCell ⟨B, 0, none⟩ v').heap[B]? = some (.cells #[v'] t (0, 0)) := by
  obtain ⟨hlt, hk⟩ := Array.getElem?_eq_some_iff.1 h
  show (W.heap.modify B _)[B]? = _
  rw [Array.getElem?_eq_getElem (by rw [Array.size_modify]; exact hlt), Array.getElem_modify_self, hk]
  rfl
theorem Sq.grownBy_setCell0 (W : World) (b : Nat) (v : Value) : W.grownBy (W.setCell ⟨b, 0, none⟩ v) (some b) :=
  ⟨rfl, rfl, rfl, (KeepsWalks.setCell W _ v).size, fun k _ hk => Below.heap_setCell _ _ _ k (fun e => hk (by rw [e]))⟩
theorem Sq.ownsRow_cells {W : World} {base : Nat} {e : TypeId} {size : Nat} {v : Value} {k : Nat} {xs : List Value} (h : W.ownsRow base e size v k xs) : ∀ (j : Nat) (o : Obj), v.ownBlock = some j → W.heap[j]? = some o → o.isCells = true := by
  intro j o hj ho
  rcases h.2 with ⟨rfl, _⟩ | ⟨g, cap, cur, rfl, _, hgb, _⟩
  · simp [Value.ownBlock] at hj
  · have : g = j := by simpa [Value.ownBlock] using hj
    subst this; rw [hgb] at ho; cases ho; rfl
theorem Sq.ownsRow_ne {W : World} {base : Nat} {e : TypeId} {size : Nat} {v : Value} {k : Nat} {xs : List Value} (h : W.ownsRow base e size v k xs) {j : Nat} {o : Obj} (hj : W.heap[j]? = some o) (ho : ∀ cur, o ≠ .cells cur e (0, 0)) : some j ≠ v.ownBlock := by
  rcases h.2 with ⟨rfl, _⟩ | ⟨g, cap, cur, rfl, _, hg, _⟩
  · simp [Value.ownBlock]
  · intro e'
    simp [Value.ownBlock] at e'
    subst e'
    rw [hj] at hg
    exact ho _ (Option.some.inj hg)

def Sq.At (w : World) (pre : List Int) (W : World) : Prop :=
  (∃ v, W.heap[w.heap.size]? = some (.cells #[v] 22 (0, 0)) ∧ W.ownsRow w.heap.size 3 1 v pre.length (pre.map (Value.int .i64)) ∧ (v = .slice none 0 0 ↔ pre = [])) ∧ Below w.heap.size w W

theorem Sq.at_own (w : World) : OwnFrom (w.heap.size + 1) (Sq.At w) := fun s W W' row h hg hr => by
  obtain ⟨⟨v, hv, hrow, hnil⟩, hb⟩ := h
  have hr' : ∀ r, row = some r → ∃ o : Obj, W.heap[r]? = some o ∧ o.isCells = false := fun r e => (hr r e).2
  refine ⟨⟨v, (grownBy_keeps_cells hg hr' hv rfl).trans hv, ⟨hrow.1, ?_⟩, hnil⟩, hb.grown hg hb.size (fun k e => by have := (hr k e).1; omega)⟩
  rcases hrow.2 with h1 | ⟨g, cap, cur, h1, h2, h3, h4⟩
  · exact .inl h1
  · exact .inr ⟨g, cap, cur, h1, h2, (grownBy_keeps_cells hg hr' h3 rfl).trans h3, h4⟩

set_option maxRecDepth 100000 in
set_option maxHeartbeats 2000000 in
theorem Sq.appendSeq_in (F : Fence) (n : Nat) (h201 : F.fn 201) (h187 : F.fn 187) (hro : F.round = none) (hn : 3 ≤ n) (Bs Bo : Nat) (sv : Value) (zs : List Int) (hlen : zs.length ≤ maxLen) (hreach : zs.length * 8 ≤ 140737488351232) (w : World)
    (hBs : Bs < w.heap.size) (hc : w.cell? ⟨Bs, Bo, none⟩ = some sv) (hI : Sq.Ints w.heap.size w sv zs) :
    CallsIn F n Tryz.prog 201 #[.slice none 0 0, .func (.func 187) #[] #[.pointer (some ⟨Bs, Bo, none⟩)]] w fun e W' =>
      ∃ v, e = .returned v ∧ W'.ownsRow w.heap.size 3 1 v zs.length (zs.map (Value.int .i64)) ∧ (v = .slice none 0 0 ↔ zs = []) ∧ Below w.heap.size w W' := by
  have h1 : 1 ≤ n := by omega
  refine callsIn_of_wp_marks Tryz.func201 rfl h201 ?_ hro
  simp only [Tryz.ntmps201, List.size_toArray, List.length_cons, List.length_nil, Nat.reduceAdd, Nat.reduceSub, Array.replicate_succ, Array.replicate_zero, List.push_toArray, List.append_toArray, List.nil_append, List.cons_append]
  gi_wp2
  have bS := Boxed.new w 22 (.slice none 0 0)
  have hB0 : Below w.heap.size w (w.alloc (.cells #[.slice none 0 0] 22)) := (Below.refl _ w).alloc (Nat.le_refl _) _
  refine wpIn_rangeFunc_ownG hro h1 (gf := 187) (lb := #[.pointer (some ⟨Bs, Bo, none⟩)]) rfl h187 (enters_of Tryz.func187 (by kernel_rfl) rfl)
    (Sq.values_stops F (n - 1) h187 hro (by omega) Bs Bo w.heap.size sv zs hreach (w.alloc (.cells #[.slice none 0 0] 22)) (by simp; omega) (by simp) ((hB0.cell (p := ⟨Bs, Bo, none⟩) hBs).trans hc) (hI.below hB0)) belowK_t (belowK_b (by simp)) (Below.refl _ _) (fun _ => rfl)
    (Sq.At w) (fun _ _ _ => False) (by simpa using Sq.at_own w) (fun _ _ _ _ _ hs _ _ => hs)
    ⟨⟨_, World.alloc_heap_new w _, ⟨rfl, .inl ⟨rfl, rfl⟩⟩, by simp⟩, hB0⟩
    (fun x => { tmps := #[.slice none 0 0, .func (.func 187) #[] #[.pointer (some ⟨Bs, Bo, none⟩)], .pointer (some ⟨w.heap.size, 0, none⟩), undef, .slice none 0 0, .int .i64 x, .func (.func 187) #[] #[.pointer (some ⟨Bs, Bo, none⟩)], .int .i64 x, undef, undef, undef, undef, undef], defers := [] }) ?assign ?body ?done ?stop
  case assign =>
    intro l x W K hK
    gi_wp2
    exact hK
  case body =>
    rintro l pre x W ⟨⟨v, hv, hrow, hnil⟩, hB⟩ hlen'
    obtain ⟨hc2, hf2⟩ := Sq.cell_of_box hv
    have hBlt : w.heap.size < W.heap.size := (Array.getElem?_eq_some_iff.1 hv).1
    obtain ⟨i0, hi, hz0, hz1, hz2⟩ : ∃ i0, Tryz.prog.info? 3 = some i0 ∧ i0.zero = some (.int .i64 0) ∧ i0.size = 1 ∧ i0.bytes = 8 := ⟨_, rfl, rfl, rfl, rfl⟩
    gi_wp2_with (gi_at_builtin; refine wpListIn_append_own _ rfl _ _ 22 rfl w.heap.size 3 i0 (.int .i64 0) 1 8 rfl hi hz0 hz1 hz2 rfl (by decide) _ _ _ rfl (hrow.alloc _) ⟨W.heap.size, 0, none⟩ 1 1 [.int .i64 x] rfl rfl (cell_one_new _ _ _) (by simp [Value.oneCell']) (by omega) (by omega) (by have := hB.size; simp; omega) ?_; intro v' w3 hown' hg3 hnil3
                 have hv3 : w3.heap[w.heap.size]? = some (.cells #[v] 22 (0, 0)) := (hg3.block w.heap.size (by simp; omega) (Sq.ownsRow_ne hrow hv (fun cur e => by cases e))).trans ((Below.heap_alloc _ _ w.heap.size hBlt).trans hv)
                 obtain ⟨hc3, hf3⟩ := Sq.cell_of_box hv3
                 obtain ⟨g', cap', cur', rfl, hr0⟩ : ∃ g' cap' cur', v' = .slice (some ⟨g', 0, none⟩) (pre.length + 1) cap' ∧ w3.heap[g']? = some (.cells cur' 3 (0, 0)) := by
                   rcases hown'.2 with ⟨_, h0⟩ | ⟨g', cap', cur', h5, h6, h7, _⟩
                   · exact absurd h0 (by omega)
                   · exact ⟨g', cap', cur', h5, h7⟩)
    have hg3' : (W.alloc (.cells #[.int .i64 x] 3)).grownBy w3 v.ownBlock := hg3
    refine ⟨?_, ?_, ⟨_, Sq.heap_setCell_box _ hv3, ?_, by simp⟩, ?_⟩
    · exact (((KeepsOthers.alloc _ _).trans (KeepsOthers.of_grownBy hg3' (Sq.ownsRow_cells (hrow.alloc _)))).trans (KeepsOthers.setCell _ _ _)).from _
    · exact ((((Below.refl _ W).alloc (by omega) _).grown hg3' (by simp; omega) (fun k e => (hrow.lt k e).1))).setCell (p := ⟨w.heap.size, 0, none⟩) (Nat.le_refl _) _
    · have := hown'.kept (Sq.grownBy_setCell0 w3 w.heap.size (.slice (some ⟨g', 0, none⟩) (pre.length + 1) cap')) (.inr (Sq.ownsRow_ne hown' hv3 (fun cur e => by cases e)).symm)
      simpa using this
    · exact ((hB.alloc hB.size _).grown hg3' (by simp; omega) (fun k e => (hrow.lt k e).1)).setCell (p := ⟨w.heap.size, 0, none⟩) (Nat.le_refl _) _
  case done =>
    rintro D ys W hD rfl ⟨⟨v, hv, hrow, hnil⟩, hB⟩ hK
    obtain ⟨hc5, hf5⟩ := Sq.cell_of_box hv
    gi_wp2
    refine ⟨by simp, .inl ⟨_, _, rfl, run_takeDeferred hK, ?_⟩⟩
    refine ⟨_, results_tmp rfl _ _ _, v, rfl, hrow.kept (grownBy_putObj' _ D (.deferred none)) (.inr (Sq.ownsRow_ne hrow hK (fun cur e => by cases e)).symm), hnil, hB.trans (belowK_b (w := w) (Nat.le_refl _) W D _ _ (by simp at hD; omega) hK rfl rfl)⟩
  case stop =>
    rintro D c pre W _ _ h _
    exact h.elim

end Go.Proofs
