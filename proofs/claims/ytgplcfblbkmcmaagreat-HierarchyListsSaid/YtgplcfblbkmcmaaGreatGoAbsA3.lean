/- The check that an operation of the abstract machine is the machine's own, and what follows from it: operations without memory. -/
import Derived.Test.YtgplcfblbkmcmaaGreatGoAbsA2
namespace Go.Abs

/-! ### continuations taken apart -/
section
variable {R : Type} {r : R}
theorem asInt_some {k v} {K : Int → Option R} (h : asInt k v K = some r) : ∃ n, v = .int k n ∧ K n = some r := by
  unfold asInt at h
  split at h
  · rename_i k' n
    by_cases e : k' = k
    · rw [if_pos e] at h; exact ⟨n, by rw [e], h⟩
    · rw [if_neg e] at h; cases h
  · cases h
theorem asG_some {v} {K : Bool → Option R} {k : Option R} (h : asG v K k = some r) : (∃ b, v = .bool b ∧ K b = some r) ∨ (∃ x y, v = .complex .f32 x y ∧ k = some r) := by
  unfold asG at h
  split at h
  · exact .inl ⟨_, rfl, h⟩
  · exact .inr ⟨_, _, rfl, h⟩
  · cases h
theorem asBool_some {v} {K : Bool → Option R} (h : asBool v K = some r) : ∃ n, v = .bool n ∧ K n = some r := by
  unfold asBool at h
  split at h
  · exact ⟨_, rfl, h⟩
  · cases h
theorem asSl_some {v} {K : Sl → Option R} (h : asSl v K = some r) : ∃ s : Sl, v = .slice s.a s.l s.c ∧ K s = some r := by
  unfold asSl at h
  split at h
  · exact ⟨⟨_, _, _⟩, rfl, h⟩
  · cases h
theorem asPtr_some {v} {K : Addr → Option R} (h : asPtr v K = some r) : ∃ a, v = .pointer (some a) ∧ K a = some r := by
  unfold asPtr at h
  split at h
  · exact ⟨_, rfl, h⟩
  · cases h
theorem asNptr_some {v} {K : Option Addr → Option R} (h : asNptr v K = some r) : ∃ a, v = .pointer a ∧ K a = some r := by
  unfold asNptr at h
  split at h
  · exact ⟨_, rfl, h⟩
  · cases h
theorem asAgg_some {v} {K : List Value → Option R} (h : asAgg v K = some r) : ∃ a : List Value, v = .agg ⟨a⟩ ∧ K a = some r := by
  unfold asAgg at h
  split at h
  · exact ⟨_, rfl, h⟩
  · cases h
theorem asTup_some {v} {K : List Value → Option R} (h : asTup v K = some r) : ∃ a : List Value, v = .tuple ⟨a⟩ ∧ K a = some r := by
  unfold asTup at h
  split at h
  · exact ⟨_, rfl, h⟩
  · cases h
theorem castK0_some {s v} {K : Value → Option R} (h : castK0 s v K = some r) : K v = some r := by
  cases s with
  | any => exact h
  | int k => simp only [castK0] at h; obtain ⟨n, rfl, h2⟩ := asInt_some h; exact h2
  | bool => simp only [castK0] at h; obtain ⟨n, rfl, h2⟩ := asBool_some h; exact h2
  | slice => simp only [castK0] at h; obtain ⟨n, rfl, h2⟩ := asSl_some h; exact h2
  | ptr => simp only [castK0] at h; obtain ⟨n, rfl, h2⟩ := asPtr_some h; exact h2
  | nptr => simp only [castK0] at h; obtain ⟨n, rfl, h2⟩ := asNptr_some h; exact h2
theorem castsK0_some : ∀ {ss vs} {K : List Value → Option R}, castsK0 ss vs K = some r → K vs = some r
  | [], [], _, h => h
  | [], _ :: _, _, h => by cases h
  | _ :: _, [], _, h => by cases h
  | s :: ss, v :: vs, K, h => by
    have h1 := castK0_some (K := fun v' => castsK0 ss vs fun vs' => K (v' :: vs')) h
    exact castsK0_some (K := fun vs' => K (v :: vs')) h1
theorem castK1_some {s v} {K : Value → Option R} (h : castK1 s v K = some r) : K v = some r := by
  cases s with
  | one s => exact castK0_some h
  | agg l => simp only [castK1] at h; obtain ⟨n, rfl, h2⟩ := asAgg_some h; exact castsK0_some (K := fun cs => K (.agg ⟨cs⟩)) h2
theorem castsK1_some : ∀ {ss vs} {K : List Value → Option R}, castsK1 ss vs K = some r → K vs = some r
  | [], [], _, h => h
  | [], _ :: _, _, h => by cases h
  | _ :: _, [], _, h => by cases h
  | s :: ss, v :: vs, K, h => by
    have h1 := castK1_some (K := fun v' => castsK1 ss vs fun vs' => K (v' :: vs')) h
    exact castsK1_some (K := fun vs' => K (v :: vs')) h1
theorem castK2_some {s v} {K : Value → Option R} (h : castK2 s v K = some r) : K v = some r := by
  cases s with
  | one s => exact castK1_some h
  | tup l => simp only [castK2] at h; obtain ⟨n, rfl, h2⟩ := asTup_some h; exact castsK1_some (K := fun cs => K (.tuple ⟨cs⟩)) h2
theorem ldK0_some {s h b o} {K : Value → Option R} (e : ldK0 s h b o K = some r) : ∃ v, AH.cell h b o = some v ∧ K v = some r := by
  unfold ldK0 at e
  split at e
  · rename_i v hv; exact ⟨v, hv, castK0_some e⟩
  · cases e
theorem ldsK0_some : ∀ {ss h b o} {K : List Value → Option R}, ldsK0 ss h b o K = some r →
    ∃ vs : List Value, vs.length = ss.length ∧ (∀ (i : Nat) v, vs[i]? = some v → AH.cell h b (o + i) = some v) ∧ K vs = some r
  | [], h, b, o, K, e => ⟨[], rfl, fun i v hv => by simp at hv, e⟩
  | s :: ss, h, b, o, K, e => by
    obtain ⟨v, hv, e1⟩ := ldK0_some (K := fun v => ldsK0 ss h b (o + 1) fun vs => K (v :: vs)) e
    obtain ⟨vs, h1, h2, h3⟩ := ldsK0_some e1
    refine ⟨v :: vs, by simp [h1], ?_, h3⟩
    intro i u hu
    cases i with
    | zero => simp at hu; subst hu; exact hv
    | succ i => have := h2 i u (by simpa using hu); rwa [show o + (i + 1) = o + 1 + i by omega]
end

/-! ### constants, operands -/
def cv0 : Value → Value → Bool
  | .bool a, .bool b => a == b
  | .int k n, .int k' n' => decide (k = k') && decide (n = n')
  | .pointer none, .pointer none => true
  | .slice none 0 0, .slice none 0 0 => true
  | .nilFunc, .nilFunc => true
  | _, _ => false
def lcv0 : List Value → List Value → Bool
  | [], [] => true
  | x :: xs, y :: ys => cv0 x y && lcv0 xs ys
  | _, _ => false
/-- The first is the abstract machine's constant, the second the machine's. -/
def cv (v v' : Value) : Bool := match v, v' with
  | .agg xs, .agg ys => lcv0 xs.toList ys.toList
  | .tuple xs, .tuple ys => xs.toList.isEmpty && ys.toList.isEmpty
  | v, v' => cv0 v v'

theorem cv0_rel {μ sz v v'} (h : cv0 v v' = true) : VRel μ sz v v' := by
  unfold cv0 at h
  split at h
  · simp at h; subst h; exact .bool _
  · simp at h; obtain ⟨rfl, rfl⟩ := h; exact .int _ _
  · exact .nilPtr
  · exact .nilSlice
  · exact .nilFunc
  · cases h
theorem lcv0_rel {μ sz} : ∀ {v v'}, lcv0 v v' = true → LRel μ sz v v'
  | [], [], _ => LRel.nil
  | x :: xs, y :: ys, h => by
    simp [lcv0] at h
    exact LRel.cons (cv0_rel h.1) (lcv0_rel h.2)
  | [], _ :: _, h => by simp [lcv0] at h
  | _ :: _, [], h => by simp [lcv0] at h
theorem cv_rel {μ sz v v'} (h : cv v v' = true) : VRel μ sz v v' := by
  unfold cv at h
  split at h
  · rename_i xs ys
    obtain ⟨xs⟩ := xs; obtain ⟨ys⟩ := ys
    have := lcv0_rel (μ := μ) (sz := sz) h
    exact .agg this.1 this.2
  · rename_i xs ys
    obtain ⟨xs⟩ := xs
    simp at h
    obtain ⟨rfl, _⟩ := h
    exact .poison _
  · exact cv0_rel h

def okOpd : Operand → Opd → Bool
  | .tmp t, .t i => t == i
  | .const v, .c v' => cv v' v
  | .func f, .f g => f == g
  | _, _ => false

theorem getD_rel {μ sz st tmps} (t : LRel μ sz st tmps) (i : Nat) : VRel μ sz (st.getD i undef) (tmps.getD i undef) := by
  rw [List.getD_eq_getElem?_getD, List.getD_eq_getElem?_getD]
  cases hv : st[i]? with
  | none => exact .poison _
  | some v =>
    obtain ⟨v', h1, h2⟩ := t.get hv
    rw [h1]; exact h2

theorem opd_rel {μ sz st} {a : Act} (t : LRel μ sz st a.tmps.toList) {x y} (h : okOpd x y = true) : VRel μ sz (ev st y) (a.eval x) := by
  cases x <;> cases y <;> simp [okOpd] at h
  · rename_i i j
    subst h
    have := getD_rel t i
    simpa [ev, Act.eval, Array.getD_eq_getD_getElem?, List.getD_eq_getElem?_getD] using this
  · exact cv_rel h
  · subst h
    exact .func rfl (fun i h => by simp at h) rfl (fun i h => by simp at h)

def okOpds : List Operand → List Opd → Bool
  | [], [] => true
  | x :: xs, y :: ys => okOpd x y && okOpds xs ys
  | _, _ => false
theorem opds_rel {μ sz st} {a : Act} (t : LRel μ sz st a.tmps.toList) : ∀ {x y}, okOpds x y = true → LRel μ sz (y.map (ev st)) (x.map a.eval)
  | [], [], _ => LRel.nil
  | x :: xs, y :: ys, h => by
    simp [okOpds] at h
    exact LRel.cons (opd_rel t h.1) (opds_rel t h.2)
  | [], _ :: _, h => by simp [okOpds] at h
  | _ :: _, [], h => by simp [okOpds] at h

/-! ### shapes of related values -/
theorem VRel.int_inv {μ sz k n v} (h : VRel μ sz (.int k n) v) : v = .int k n := by cases h; rfl
theorem VRel.bool_inv {μ sz b v} (h : VRel μ sz (.bool b) v) : v = .bool b := by cases h; rfl
theorem VRel.ptr_inv {μ sz a v} (h : VRel μ sz (.pointer (some a)) v) : ∃ rb o, μ a.block = some (rb, o) ∧ v = .pointer (some ⟨rb, o + a.off, none⟩) := by
  cases h with
  | ptr h => exact ⟨_, _, h, rfl⟩
theorem VRel.slice_len {μ sz s v} (h : VRel μ sz (Sl.v s) v) : ∃ a c, v = .slice a s.l c ∧ (s.a.isNone = a.isNone) := by
  obtain ⟨a, l, c⟩ := s
  unfold Sl.v at h
  cases h with
  | nilSlice => exact ⟨_, _, rfl, rfl⟩
  | slice h1 h2 h3 => exact ⟨_, _, rfl, rfl⟩
  | sliceU h1 h2 h3 h4 => exact ⟨_, _, rfl, rfl⟩
theorem VRel.tuple_inv {μ sz} {xs : List Value} {v} (h : VRel μ sz (.tuple ⟨xs⟩) v) (hx : xs ≠ []) : ∃ ys : List Value, v = .tuple ⟨ys⟩ ∧ LRel μ sz xs ys := by
  cases h with
  | poison => exact absurd rfl hx
  | tuple h1 h2 => exact ⟨_, rfl, h1, h2⟩
theorem VRel.agg_inv {μ sz} {xs : List Value} {v} (h : VRel μ sz (.agg ⟨xs⟩) v) : ∃ ys : List Value, v = .agg ⟨ys⟩ ∧ LRel μ sz xs ys := by
  cases h with
  | agg h1 h2 => exact ⟨_, rfl, h1, h2⟩

theorem VRel.slice_inv {μ sz a l c v} (h : VRel μ sz (.slice a l c) v) :
    (a = none ∧ l = 0 ∧ c = 0 ∧ v = .slice none 0 0) ∨
    (∃ b o s rb off, a = some ⟨b, o, s⟩ ∧ μ b = some (rb, off) ∧ c < UNK ∧ l ≤ c ∧ v = .slice (some ⟨rb, off + o, none⟩) l c) ∨
    (∃ b o s rb off o' c' es, a = some ⟨b, o, s⟩ ∧ c = UNK + es ∧ μ b = some (rb, off) ∧ (l = 0 ∨ o' = off + o) ∧ l ≤ c' ∧ o' + c' * es ≤ sz rb ∧ v = .slice (some ⟨rb, o', none⟩) l c') := by
  generalize hq : Value.slice a l c = q at h
  cases h with
  | nilSlice => injection hq with h1 h2 h3; exact .inl ⟨h1, h2, h3, rfl⟩
  | slice g1 g2 g3 => injection hq with h1 h2 h3; subst h1 h2 h3; exact .inr (.inl ⟨_, _, _, _, _, rfl, g1, g2, g3, rfl⟩)
  | sliceU g1 g2 g3 g4 => injection hq with h1 h2 h3; subst h1 h2 h3; exact .inr (.inr ⟨_, _, _, _, _, _, _, _, rfl, rfl, g1, g2, g3, g4, rfl⟩)
  | _ => cases hq

/-- The cells of related values are related: but for poison and the mark of what was left out. -/
theorem VRel.cells {μ sz v v'} (h : VRel μ sz v v') (hp : ∀ c ∈ v.cells.toList, oneC c = true) : LRel μ sz v.cells.toList v'.cells.toList := by
  cases h with
  | poison => simp [Value.cells, oneC] at hp
  | skip => simp [Value.cells, skipv, oneC] at hp
  | agg h1 h2 => exact ⟨h1, h2⟩
  | tuple h1 h2 => simp [Value.cells, oneC] at hp
  | bool => exact LRel.cons (.bool _) LRel.nil
  | int => exact LRel.cons (.int _ _) LRel.nil
  | nilPtr => exact LRel.cons .nilPtr LRel.nil
  | ptr h => exact LRel.cons (.ptr h) LRel.nil
  | nilSlice => exact LRel.cons .nilSlice LRel.nil
  | slice h h' h2 => exact LRel.cons (.slice h h' h2) LRel.nil
  | sliceU h h1 h2 h3 => exact LRel.cons (.sliceU h h1 h2 h3) LRel.nil
  | nilFunc => exact LRel.cons .nilFunc LRel.nil
  | func h1 h2 h3 h4 => exact LRel.cons (.func h1 h2 h3 h4) LRel.nil

theorem VRel.oneCell {μ sz v v'} (h : VRel μ sz v v') (hp : oneC v = true) : v'.oneCell' = true := by
  cases h <;> simp_all [oneC, Value.oneCell', skipv]

/-! ### what an operation leaves -/
structure Ctx (fl base rbase : Nat) (μ : Mu) (h : AH) (w : World) (st : List Value) (a : Act) : Prop where
  sim : Sim base rbase μ h w
  hb : base ≤ fl
  hfl : fl ≤ h.next
  hr : rbase ≤ w.heap.size
  t : LRel μ (szOf w) st a.tmps.toList
theorem Ctx.hn {fl base rbase : Nat} {μ : Mu} {h : AH} {w : World} {st : List Value} {a : Act} (c : Ctx fl base rbase μ h w st a) : base ≤ h.next := Nat.le_trans c.hb c.hfl

def OpPost (fl base rbase : Nat) (μ : Mu) (h : AH) (w : World) (v : Value) (h1 : AH) (r : Result Next) : Prop :=
  ∃ v' μ' w', (r = .ok (.value v') w' ∨ (r = .ok .skip w' ∧ v' = undef)) ∧ Post fl base rbase μ h w μ' h1 w' ∧ VRel μ' (szOf w') v v'

theorem OpPost.still {fl base rbase μ h w v v'} (s : Sim base rbase μ h w) (hv : VRel μ (szOf w) v v') : OpPost fl base rbase μ h w v h (.ok (.value v') w) :=
  ⟨v', μ, w, .inl rfl, Post.refl s, hv⟩

end Go.Abs
