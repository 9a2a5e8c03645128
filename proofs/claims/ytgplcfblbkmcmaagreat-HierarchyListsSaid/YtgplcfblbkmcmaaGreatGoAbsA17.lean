/- The limit: what the abstract machine answers at some depth. -/
import Derived.Test.YtgplcfblbkmcmaaGreatGoAbsA16
namespace Go.Abs

/-- One callee says all that the other says. -/
def CLe (C C' : Callee) : Prop := ∀ fl f args h r, C fl f args h = some r → C' fl f args h = some r

theorem opK_mono {C C' : Callee} (hc : CLe C C') {fl s h o v h1} (e : opK C fl s h o K0 = some (v, h1)) : opK C' fl s h o K0 = some (v, h1) := by
  cases o with
  | call f args sh =>
    simp only [opK, callK] at e ⊢
    split at e
    · rename_i g a b hg
      split at e
      · rename_i v' h' hq
        simp only [hc _ _ _ _ _ hq]
        exact e
      · cases e
    · cases e
  | _ => exact e

section
variable {R : Type} {r : R} {C : Callee} {F : Nat → Callee} (hF : ∀ fl f args h r, C fl f args h = some r → ∃ n0, ∀ n, n0 ≤ n → F n fl f args h = some r) {fl : Nat}
include hF
theorem opK_lim {fl' : Nat} {o : AOp} {s h v h1} (e : opK C fl' s h o K0 = some (v, h1)) : ∃ n2, ∀ n, n2 ≤ n → opK (F n) fl' s h o K0 = some (v, h1) := by
  cases o with
  | call f args sh =>
    simp only [opK, callK] at e ⊢
    split at e
    · rename_i g a b hg
      split at e
      · rename_i v' h' hq
        obtain ⟨n2, hn2⟩ := hF _ _ _ _ _ hq
        exact ⟨n2, fun n hn => by simp only [hn2 n hn]; exact e⟩
      · cases e
    · cases e
  | _ => exact ⟨0, fun n _ => e⟩
/-- What one machine comes to, the machines of a growing family come to from some place on. -/
theorem regN_lim : ∀ (os : List AOper) (s : List Value) (h : AH) (K : List Value → AH → Option R) (K' : Nat → List Value → AH → Option R), (∀ s h, K s h = some r → ∃ n0, ∀ n, n0 ≤ n → K' n s h = some r) →
      regN C fl os s h K = some r → ∃ n0, ∀ n, n0 ≤ n → regN (F n) fl os s h (K' n) = some r
  | [], s, h, K, K', hK, e => hK s h e
  | o :: os, s, h, K, K', hK, e => by
    simp only [regN] at e ⊢
    obtain ⟨v, h1, g1, g2⟩ := opK_split e
    obtain ⟨n1, hn1⟩ := regN_lim os (putT s o.dst v) h1 K K' hK g2
    obtain ⟨n2, hn2⟩ := opK_lim hF g1
    exact ⟨max n1 n2, fun n hn => opK_join (hn2 n (by omega)) (hn1 n (by omega))⟩
theorem regG_lim : ∀ (os : List AItem) (s : List Value) (h : AH) (K : List Value → AH → Option R) (K' : Nat → List Value → AH → Option R), (∀ s h, K s h = some r → ∃ n0, ∀ n, n0 ≤ n → K' n s h = some r) →
      regG C fl os s h K = some r → ∃ n0, ∀ n, n0 ≤ n → regG (F n) fl os s h (K' n) = some r
  | [], s, h, K, K', hK, e => hK s h e
  | .op o :: os, s, h, K, K', hK, e => by
    simp only [regG] at e ⊢
    obtain ⟨v, h1, g1, g2⟩ := opK_split e
    obtain ⟨n1, hn1⟩ := regG_lim os (putT s o.dst v) h1 K K' hK g2
    obtain ⟨n2, hn2⟩ := opK_lim hF g1
    exact ⟨max n1 n2, fun n hn => opK_join (hn2 n (by omega)) (hn1 n (by omega))⟩
  | .grp g want os :: is, s, h, K, K', hK, e => by
    simp only [regG] at e ⊢
    rcases asG_some e with ⟨b, hb, e⟩ | ⟨x, y, hb, e⟩
    case inr =>
      simp only [hb, asG]
      exact regG_lim is _ h K K' hK e
    simp only [hb, asG]
    split at e
    · rename_i hw
      simp only [if_pos hw]
      exact regN_lim hF os _ h _ (fun n s h => regG (F n) fl is s h (K' n)) (fun s h e => regG_lim is s h K K' hK e) e
    · rename_i hw
      simp only [if_neg hw]
      exact regG_lim is _ h K K' hK e
end

open Classical in
theorem cexec_lim {R : Type} {r : R} {C : Callee} {F : Nat → Callee} (hF : ∀ fl f args h r, C fl f args h = some r → ∃ n0, ∀ n, n0 ≤ n → F n fl f args h = some r) {fl k : Nat} :
    ∀ (ac : ACode) (s : List Value) (h : AH) (K : Flow → List Value → AH → Option R) (K' : Nat → Flow → List Value → AH → Option R), (∀ f s h, K f s h = some r → ∃ n0, ∀ n, n0 ≤ n → K' n f s h = some r) →
      cexec C fl k ac s h K = some r → ∃ n0, ∀ n, n0 ≤ n → cexec (F n) fl n ac s h (K' n) = some r
  | .skip, s, h, K, K', hK, e => hK _ s h e
  | .exit id, s, h, K, K', hK, e => hK _ s h e
  | .ret, s, h, K, K', hK, e => hK _ s h e
  | .seq x y, s, h, K, K', hK, e => by
    simp only [cexec] at e ⊢
    refine cexec_lim hF x s h _ (fun n f s h => match f with | .normal => cexec (F n) fl n y s h (K' n) | .exit i => K' n (.exit i) s h | .ret => K' n .ret s h) ?_ e
    intro f s h e
    cases f with
    | normal => exact cexec_lim hF y s h K K' hK e
    | exit i => exact hK _ s h e
    | ret => exact hK _ s h e
  | .cond c x y, s, h, K, K', hK, e => by
    simp only [cexec] at e ⊢
    obtain ⟨t, ht, e⟩ := asBool_some e
    simp only [ht, asBool]
    split at e
    · rename_i hw
      obtain ⟨n0, hn⟩ := cexec_lim hF x s h K K' hK e
      exact ⟨n0, fun n h => by rw [if_pos hw]; exact hn n h⟩
    · rename_i hw
      obtain ⟨n0, hn⟩ := cexec_lim hF y s h K K' hK e
      exact ⟨n0, fun n h => by rw [if_neg hw]; exact hn n h⟩
  | .block id x, s, h, K, K', hK, e => by
    simp only [cexec] at e ⊢
    refine cexec_lim hF x s h _ (fun n f s h => match f with | .normal => K' n .normal s h | .exit i => if i = id then K' n .normal s h else K' n (.exit i) s h | .ret => K' n .ret s h) ?_ e
    intro f s h e
    cases f with
    | normal => exact hK _ s h e
    | exit i =>
      simp only at e ⊢
      split at e
      · rename_i hi; simp only [if_pos hi]; exact hK _ s h e
      · rename_i hi; simp only [if_neg hi]; exact hK _ s h e
    | ret => exact hK _ s h e
  | .loop x, s, h, K, K', hK, e => by
    simp only [cexec] at e ⊢
    have key : ∀ (m : Nat) (s : List Value) (h : AH), loopK m (fun s h next => cexec C fl k x s h fun f s h => match f with
        | .normal => next s h
        | .exit i => K (.exit i) s h
        | .ret => K .ret s h) s h = some r → ∃ n0, ∀ n, n0 ≤ n → ∀ q, m ≤ q → loopK q (fun s h next => cexec (F n) fl n x s h fun f s h => match f with
        | .normal => next s h
        | .exit i => K' n (.exit i) s h
        | .ret => K' n .ret s h) s h = some r := by
      intro m
      induction m with
      | zero => intro s h e; simp [loopK] at e
      | succ m ih =>
        intro s h e
        simp only [loopK] at e
        have := cexec_lim hF x s h _ (fun n f s h => match f with
            | .normal => if ∀ q, m ≤ q → loopK q (fun s h next => cexec (F n) fl n x s h fun f s h => match f with
              | .normal => next s h
              | .exit i => K' n (.exit i) s h
              | .ret => K' n .ret s h) s h = some r then some r else none
            | .exit i => K' n (.exit i) s h
            | .ret => K' n .ret s h) ?_ e
        · obtain ⟨n0, hn⟩ := this
          refine ⟨n0, fun n hn0 q hq => ?_⟩
          obtain ⟨q, rfl⟩ : ∃ j, q = j + 1 := ⟨q - 1, by omega⟩
          simp only [loopK]
          have h1 := hn n hn0
          -- the continuation that has been asked is the one that stands
          refine cexec_kmono x ?_ h1
          intro f s h e
          cases f with
          | normal =>
            simp only at e
            split at e
            · rename_i hall; exact hall q (by omega)
            · cases e
          | exit i => exact e
          | ret => exact e
        · intro f s h e
          cases f with
          | normal =>
            obtain ⟨n0, hn⟩ := ih s h e
            exact ⟨n0, fun n hn0 => by simp only; rw [if_pos (fun q hq => hn n hn0 q hq)]⟩
          | exit i => exact hK _ s h e
          | ret => exact hK _ s h e
    obtain ⟨n0, hn⟩ := key k s h e
    exact ⟨max n0 k, fun n h => hn n (by omega) n (by omega)⟩
  | .region al kill, s, h, K, K', hK, e => by
    simp only [cexec] at e ⊢
    exact regG_lim hF al s h _ (fun n s h => K' n .normal (killT kill s) h) (fun s h e => hK _ _ h e) e
where
  cexec_kmono {C : Callee} {fl k : Nat} : ∀ (ac : ACode) {s : List Value} {h : AH} {K K' : Flow → List Value → AH → Option R}, (∀ f s h, K f s h = some r → K' f s h = some r) →
      cexec C fl k ac s h K = some r → cexec C fl k ac s h K' = some r
  | .skip, s, h, K, K', hK, e => hK _ s h e
  | .exit id, s, h, K, K', hK, e => hK _ s h e
  | .ret, s, h, K, K', hK, e => hK _ s h e
  | .seq x y, s, h, K, K', hK, e => by
    simp only [cexec] at e ⊢
    refine cexec_kmono x ?_ e
    intro f s h e
    cases f with
    | normal => exact cexec_kmono y hK e
    | exit i => exact hK _ s h e
    | ret => exact hK _ s h e
  | .cond c x y, s, h, K, K', hK, e => by
    simp only [cexec] at e ⊢
    obtain ⟨t, ht, e⟩ := asBool_some e
    simp only [ht, asBool]
    split at e
    · rename_i hw; rw [if_pos hw]; exact cexec_kmono x hK e
    · rename_i hw; rw [if_neg hw]; exact cexec_kmono y hK e
  | .block id x, s, h, K, K', hK, e => by
    simp only [cexec] at e ⊢
    refine cexec_kmono x ?_ e
    intro f s h e
    cases f with
    | normal => exact hK _ s h e
    | exit i =>
      simp only at e ⊢
      split at e
      · rename_i hi; simp only [if_pos hi]; exact hK _ s h e
      · rename_i hi; simp only [if_neg hi]; exact hK _ s h e
    | ret => exact hK _ s h e
  | .loop x, s, h, K, K', hK, e => by
    simp only [cexec] at e ⊢
    have key : ∀ (m : Nat) (s : List Value) (h : AH), loopK m (fun s h next => cexec C fl k x s h fun f s h => match f with
        | .normal => next s h
        | .exit i => K (.exit i) s h
        | .ret => K .ret s h) s h = some r → loopK m (fun s h next => cexec C fl k x s h fun f s h => match f with
        | .normal => next s h
        | .exit i => K' (.exit i) s h
        | .ret => K' .ret s h) s h = some r := by
      intro m
      induction m with
      | zero => intro s h e; simp [loopK] at e
      | succ m ih =>
        intro s h e
        simp only [loopK] at e ⊢
        refine cexec_kmono x ?_ e
        intro f s h e
        cases f with
        | normal => exact ih s h e
        | exit i => exact hK _ s h e
        | ret => exact hK _ s h e
    exact key k s h e
  | .region al kill, s, h, K, K', hK, e => by
    simp only [cexec] at e ⊢
    have := regG_lim (C := C) (F := fun _ => C) (fun fl f args h r e => ⟨0, fun _ _ => e⟩) al s h (fun s h => K .normal (killT kill s) h) (fun _ s h => K' .normal (killT kill s) h) (fun s h e => ⟨0, fun _ _ => hK _ _ h e⟩) e
    obtain ⟨n0, hn⟩ := this
    exact hn n0 (Nat.le_refl _)

section
variable {T : FuncId → Option AFunc} {E : Callee}

theorem runF_mono {C C' : Callee} (hc : CLe C C') {fl k k' af args h r} (hk : k ≤ k') (e : runF C fl k af args h = some r) : ∃ n0, ∀ n, n0 ≤ n → runF C' fl n af args h = some r := by
  unfold runF at e ⊢
  have := cexec_lim (C := C) (F := fun _ => C') (fun fl f args h r e => ⟨0, fun _ _ => hc _ _ _ _ _ e⟩) af.body _ h (finalK af.results) (fun _ => finalK af.results) (fun f s h e => ⟨0, fun _ _ => e⟩) e
  exact this

/-- The answer at some depth. -/
def Ans (T : FuncId → Option AFunc) (E : Callee) (fl : Nat) (f : FuncId) (args : List Value) (h : AH) (r : Value × AH) : Prop := ∃ n0, ∀ n, n0 ≤ n → acall T E n fl f args h = some r

open Classical in
/-- The limit. -/
noncomputable def CC (T : FuncId → Option AFunc) (E : Callee) : Callee := fun fl f args h =>
  if x : ∃ r, Ans T E fl f args h r then some (Classical.choose x) else none

theorem CC_ans {fl f args h r} (e : CC T E fl f args h = some r) : Ans T E fl f args h r := by
  unfold CC at e
  split at e
  · rename_i x
    injection e with e
    rw [← e]
    exact Classical.choose_spec x
  · cases e

theorem CC_of {fl f args h r} (a : Ans T E fl f args h r) : CC T E fl f args h = some r := by
  unfold CC
  have x : ∃ r, Ans T E fl f args h r := ⟨r, a⟩
  rw [dif_pos x]
  congr 1
  obtain ⟨n1, h1⟩ := Classical.choose_spec x
  obtain ⟨n2, h2⟩ := a
  have e1 := h1 (max n1 n2) (by omega)
  have e2 := h2 (max n1 n2) (by omega)
  rw [e1] at e2
  injection e2

/-- A FUNCTION's ANSWER out of its code, its callees' answers given. -/
theorem CC_run {fl k f af args h r} (hT : T f = some af) (e : runF (CC T E) fl k af args h = some r) : CC T E fl f args h = some r := by
  refine CC_of ?_
  unfold runF at e
  have := cexec_lim (C := CC T E) (F := fun n => acall T E n) (fun fl f args h r e => CC_ans e) af.body _ h (finalK af.results) (fun _ => finalK af.results) (fun f s h e => ⟨0, fun _ _ => e⟩) e
  obtain ⟨n0, hn⟩ := this
  refine ⟨n0 + 1, fun n hn0 => ?_⟩
  obtain ⟨n, rfl⟩ : ∃ j, n = j + 1 := ⟨n - 1, by omega⟩
  simp only [acall, hT]
  exact hn n (by omega)

theorem CC_ext {fl f args h r} (hT : T f = none) (e : E fl f args h = some r) : CC T E fl f args h = some r :=
  CC_of ⟨1, fun n hn => by
    obtain ⟨n, rfl⟩ : ∃ j, n = j + 1 := ⟨n - 1, by omega⟩
    simp only [acall, hT]; exact e⟩

theorem CC_sound {P : Program} (hm : P.follows .mixedOrders = true) (hE : CSound P E) (hT : ∀ f af, T f = some af → okFunc P f af = true) : CSound P (CC T E) where
  step fl f args h v h1 e := by obtain ⟨n, hn⟩ := CC_ans e; exact (acall_sound hm hE hT n).step _ _ _ _ _ _ (hn n (Nat.le_refl _))
  fn fl f args h v h1 e := by obtain ⟨n, hn⟩ := CC_ans e; exact (acall_sound hm hE hT n).fn _ _ _ _ _ _ (hn n (Nat.le_refl _))
  sound fl f args h v h1 e := by obtain ⟨n, hn⟩ := CC_ans e; exact (acall_sound hm hE hT n).sound _ _ _ _ _ _ (hn n (Nat.le_refl _))
end
end Go.Abs
