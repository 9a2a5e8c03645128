/- Tables of functions; calls by number; what a call without arguments comes to, from an empty heap. -/
import Derived.Test.YtgplcfblbkmcmaaGreatGoAbsA20
namespace Go.Abs
open Go.RowKit

theorem lookup_mem {α : Type} : ∀ {l : List (Nat × α)} {f : Nat} {a : α}, l.lookup f = some a → (f, a) ∈ l
  | [], _, _, h => by cases h
  | (g, b) :: l, f, a, h => by
    simp only [List.lookup] at h
    split at h
    · rename_i e
      injection h with h
      have : f = g := by simpa using e
      subst this; subst h; exact List.mem_cons_self
    · exact List.mem_cons_of_mem _ (lookup_mem h)

theorem cond_elim {α : Type} {b : Bool} {x y : Option α} {r : α} {Q : Prop} (e : cond b x y = some r) (h1 : x = some r → Q) (h2 : y = some r → Q) : Q := by
  cases b
  · exact h2 e
  · exact h1 e

/-- What a call by number comes to: a function of the table, or what stands outside. -/
def Says (T : FuncId → Option AFunc) (C E : Callee) (fl k f : Nat) (args : List Value) (h : AH) (r : Value × AH) : Prop :=
  E fl f args h = some r ∨ ∃ af, T f = some af ∧ runF C fl k af args h = some r

theorem leaf {T : FuncId → Option AFunc} {C E : Callee} {fl k f : Nat} {args : List Value} {h : AH} {r : Value × AH} {j : Nat} {af : AFunc} {d : Option (Value × AH)} (hT : T j = some af)
    (hd : d = some r → runF C fl k af args h = some r) (e : cond (Nat.beq f j) d (E fl f args h) = some r) : Says T C E fl k f args h r := by
  cases hb : Nat.beq f j with
  | false => rw [hb] at e; exact .inl e
  | true =>
    rw [hb] at e
    have := Nat.eq_of_beq_eq_true hb
    subst this
    exact .inr ⟨af, hT, hd e⟩

/-- Calls by number, so many deep. -/
def byNum (disp : Callee → Callee → Nat → Nat → Nat → List Value → AH → Option (Value × AH)) (E : Callee) : Nat → Callee
  | 0 => fun _ _ _ _ => none
  | k + 1 => fun fl f args h => disp (byNum disp E k) E fl k f args h

theorem runF_monoC {C C' : Callee} (hC : ∀ fl f args h r, C fl f args h = some r → C' fl f args h = some r) {fl k : Nat} {af : AFunc} {args : List Value} {h : AH} {r : Value × AH} (e : runF C fl k af args h = some r) : ∃ n, runF C' fl n af args h = some r := by
  unfold runF at e
  have := cexec_lim (C := C) (F := fun _ => C') (fun fl f args h r e => ⟨0, fun _ _ => hC _ _ _ _ _ e⟩) af.body _ h (finalK af.results) (fun _ => finalK af.results) (fun f s h e => ⟨0, fun _ _ => e⟩) e
  obtain ⟨n, hn⟩ := this
  exact ⟨n, hn n (Nat.le_refl _)⟩

theorem byNum_CC {P : Program} {T : FuncId → Option AFunc} {E : Callee} {disp : Callee → Callee → Nat → Nat → Nat → List Value → AH → Option (Value × AH)} (hT : ∀ f af, T f = some af → okF P f af = true)
    (hE : ∀ fl f args h r, E fl f args h = some r → T f = none) (hd : ∀ C fl k f args h r, disp C E fl k f args h = some r → Says T C E fl k f args h r) :
    ∀ k fl f args h r, byNum disp E k fl f args h = some r → CC (shT P T) E fl f args h = some r
  | 0, _, _, _, _, _, e => by cases e
  | k + 1, fl, f, args, h, r, e => by
    rcases hd _ _ _ _ _ _ _ e with e | ⟨af, ha, e⟩
    · refine CC_ext ?_ e
      unfold shT
      rw [hE _ _ _ _ _ e]; rfl
    · obtain ⟨n, hn⟩ := runF_monoC (C' := CC (shT P T) E) (fun fl f args h r e => byNum_CC hT hE hd k fl f args h r e) e
      exact shT_run hT ha hn

/-- What is said of a function without arguments. -/
def constE (g : FuncId) (v : Value) : Callee := fun _ f args h => if f = g ∧ args.isEmpty = true then some (v, h) else none

theorem constE_inv {g v fl f args h r} (e : constE g v fl f args h = some r) : f = g ∧ args = [] ∧ r = (v, h) := by
  unfold constE at e
  split at e
  · rename_i q
    simp only [Option.some.injEq] at e
    exact ⟨q.1, by simpa using q.2, e.symm⟩
  · cases e

theorem constE_sound {P : Program} {C : Callee} (hC : CSound P C) {g : FuncId} {b : Bool} {h1 : AH} (e : C 0 g [] ⟨0, fun _ => none⟩ = some (.bool b, h1)) : CSound P (constE g (.bool b)) where
  step fl f args h v h2 e2 := by
    obtain ⟨_, _, e3⟩ := constE_inv e2
    injection e3 with e3 e4; subst e4; exact AStep.refl _ _
  fn fl f args h v h2 e2 := by
    obtain ⟨rfl, _⟩ := constE_inv e2
    exact hC.fn _ _ _ _ _ _ e
  sound fl f args h v h2 e2 base rbase μ w args' s hb hfl hr ha hf := by
    obtain ⟨rfl, rfl, e3⟩ := constE_inv e2
    injection e3 with e3 e4; subst e3; subst e4
    have ea : args' = [] := by have := ha.1; cases args' with | nil => rfl | cons _ _ => cases this
    subst ea
    have s0 : Sim 0 w.heap.size (fun _ => none) ⟨0, fun _ => none⟩ w := { cell := fun b cs rb o h => (by cases h), own := fun b cs rb o _ h => (by cases h), inj := fun b b' cs cs' rb o o' _ h => (by cases h), lt := fun b rb o h => (by cases h), bnd := fun b cs h => (by cases h) }
    refine (hC.sound 0 f [] ⟨0, fun _ => none⟩ (.bool b) h1 e 0 w.heap.size (fun _ => none) w [] s0 (Nat.le_refl _) (Nat.le_refl _) (Nat.le_refl _) LRel.nil (fun _ _ _ => rfl)).mono ?_
    rintro e' w' ⟨v', μ', rfl, p, hv⟩
    have := hv.bool_inv
    subst this
    exact ⟨_, μ, rfl, Post.below s ⟨p.os, p.tape, p.output, p.hs, fun rb hrb => p.fr rb hrb fun b cs o _ _ h => (by cases h)⟩, .bool b⟩

/-- One of two. -/
def orE (E1 E2 : Callee) : Callee := fun fl f args h => match E1 fl f args h with
  | some r => some r
  | none => E2 fl f args h
theorem orE_inv {E1 E2 : Callee} {fl f args h r} (e : orE E1 E2 fl f args h = some r) : E1 fl f args h = some r ∨ E2 fl f args h = some r := by
  unfold orE at e
  split at e
  · rename_i r' h1; rw [h1]; exact .inl e
  · exact .inr e
theorem orE_sound {P : Program} {E1 E2 : Callee} (h1 : CSound P E1) (h2 : CSound P E2) : CSound P (orE E1 E2) where
  step fl f args h v h3 e := (orE_inv e).elim (h1.step _ _ _ _ _ _) (h2.step _ _ _ _ _ _)
  fn fl f args h v h3 e := (orE_inv e).elim (h1.fn _ _ _ _ _ _) (h2.fn _ _ _ _ _ _)
  sound fl f args h v h3 e := (orE_inv e).elim (h1.sound _ _ _ _ _ _) (h2.sound _ _ _ _ _ _)
end Go.Abs
