/- What an operation reads; operations without memory; the check of a region that draws. -/
import Derived.Test.YtgplcfblbkmcmaaGreatGoAbsA10
namespace Go.Abs

def Opd.reads : Opd → List Nat
  | .t i => [i]
  | _ => []
def optReads : Option Opd → List Nat
  | some x => x.reads
  | none => []
def partReads : List (Nat × Nat × Opd) → List Nat
  | [] => []
  | p :: ps => p.2.2.reads ++ partReads ps
def lReads : List Opd → List Nat
  | [] => []
  | x :: xs => x.reads ++ lReads xs
def AOp.reads : AOp → List Nat
  | .mv x | .box x | .load _ x | .nilc x | .snil _ x | .not x | .neg _ x | .conv _ _ x | .faddr _ x | .extr x _ | .len x | .sidx _ _ x => x.reads
  | .pick a b c => a.reads ++ (b.reads ++ c.reads)
  | .alloc _ => []
  | .build _ ps | .bslice _ _ ps => partReads ps
  | .store _ x y | .bin _ _ x y | .sh _ _ _ x y | .cmp _ _ x y | .beq _ x y | .mkslice _ _ x y | .iaddr _ x y | .append _ _ x y | .copy _ x y | .mm _ x y => x.reads ++ y.reads
  | .mkfn _ a b => lReads a ++ lReads b
  | .slice _ x a b c => x.reads ++ (optReads a ++ (optReads b ++ optReads c))
  | .call f args _ => f.reads ++ lReads args
def AOper.reads (o : AOper) : List Nat := o.op.reads ++ (match o.guard with | some (g, _) => [g] | none => [])

def AOp.pure : AOp → Bool
  | .mv _ | .pick .. | .build .. | .nilc _ | .bin .. | .sh .. | .cmp .. | .beq .. | .snil .. | .not _ | .neg .. | .conv .. | .mkfn .. | .slice .. | .faddr .. | .iaddr .. | .extr .. | .len _ | .mm .. | .sidx .. => true
  | _ => false

def Agree (l : List Nat) (s s' : List Value) : Prop := ∀ t ∈ l, s.getD t undef = s'.getD t undef
theorem Agree.left {l l' s s'} (h : Agree (l ++ l') s s') : Agree l s s' := fun t ht => h t (List.mem_append_left _ ht)
theorem Agree.right {l l' s s'} (h : Agree (l ++ l') s s') : Agree l' s s' := fun t ht => h t (List.mem_append_right _ ht)
theorem ev_agree {x : Opd} {s s'} (h : Agree x.reads s s') : ev s x = ev s' x := by
  cases x with
  | t i => exact h i (by simp [Opd.reads])
  | c v => rfl
  | f id => rfl
theorem evs_agree : ∀ {xs : List Opd} {s s'}, Agree (lReads xs) s s' → xs.map (ev s) = xs.map (ev s')
  | [], _, _, _ => rfl
  | x :: xs, s, s', h => by
    rw [List.map_cons, List.map_cons, ev_agree h.left, evs_agree (Agree.right (l := x.reads) h)]
theorem fillA_agree : ∀ {ps : List (Nat × Nat × Opd)} {z : List Value} {s s'}, Agree (partReads ps) s s' → fillA s ps z = fillA s' ps z
  | [], _, _, _, _ => rfl
  | (off, size, x) :: ps, z, s, s', h => by
    have h1 : ev s x = ev s' x := ev_agree (Agree.left (l' := partReads ps) h)
    have h2 : ∀ z, fillA s ps z = fillA s' ps z := fun z => fillA_agree (Agree.right (l := x.reads) h)
    simp only [fillA, h1, h2]
theorem optInt_agree {R : Type} {o : Option Opd} {s s'} (h : Agree (optReads o) s s') (K : Option Int → Option R) : optInt s o K = optInt s' o K := by
  cases o with
  | none => rfl
  | some x =>
    have : ev s x = ev s' x := ev_agree h
    simp only [optInt, this]

theorem opK_agree {R : Type} {C : Callee} {fl : Nat} {s s' : List Value} {h : AH} {o : AOp} (ha : Agree o.reads s s') (K : Value → AH → Option R) : opK C fl s h o K = opK C fl s' h o K := by
  cases o <;> simp only [AOp.reads] at ha <;> simp only [opK]
  case mv x => rw [ev_agree ha]
  case pick x y z => rw [ev_agree ha.left, ev_agree ha.right.left, ev_agree ha.right.right]
  case box x => rw [ev_agree ha]
  case build z ps => rw [fillA_agree ha]
  case bslice z ps => rw [fillA_agree ha]
  case load x => rw [ev_agree ha]
  case store x y => rw [ev_agree ha.left, ev_agree ha.right]
  case nilc x => rw [ev_agree ha]
  case bin x y => rw [ev_agree ha.left, ev_agree ha.right]
  case sh x y => rw [ev_agree ha.left, ev_agree ha.right]
  case cmp x y => rw [ev_agree ha.left, ev_agree ha.right]
  case beq x y => rw [ev_agree ha.left, ev_agree ha.right]
  case snil x => rw [ev_agree ha]
  case not x => rw [ev_agree ha]
  case neg x => rw [ev_agree ha]
  case conv x => rw [ev_agree ha]
  case mkfn f a b => rw [evs_agree ha.left, evs_agree ha.right]
  case mkslice x y => rw [ev_agree ha.left, ev_agree ha.right]
  case slice x a b c =>
    rw [ev_agree ha.left]
    congr 1; funext v
    rw [optInt_agree ha.right.left]
    congr 1; funext v
    rw [optInt_agree ha.right.right.left]
    congr 1; funext v
    rw [optInt_agree ha.right.right.right]
  case faddr x => rw [ev_agree ha]
  case iaddr x y => rw [ev_agree ha.left, ev_agree ha.right]
  case extr x i => rw [ev_agree ha]
  case call f args sh => rw [ev_agree ha.left, evs_agree ha.right]
  case len x => rw [ev_agree ha]
  case append x y => rw [ev_agree ha.left, ev_agree ha.right]
  case copy x y => rw [ev_agree ha.left, ev_agree ha.right]
  case mm x y => rw [ev_agree ha.left, ev_agree ha.right]
  case sidx x => rw [ev_agree ha]

theorem opV_agree {C : Callee} {fl : Nat} {s s' : List Value} {h : AH} {o : AOper} (ha : Agree o.reads s s') : opV C fl o s h = opV C fl o s' h := by
  unfold opV
  unfold AOper.reads at ha
  split
  · rename_i hg; exact opK_agree ha.left _
  · rename_i g want hg
    rw [hg] at ha
    rw [ha.right g (by simp)]
    congr 1; funext b
    split
    · exact opK_agree ha.left _
    · rfl

theorem pure_op {C : Callee} {fl : Nat} {s : List Value} {h h1 : AH} {o : AOp} {v : Value} (hp : o.pure = true) (e : opK C fl s h o K0 = some (v, h1)) : h1 = h ∧ ∀ fl' h', opK C fl' s h' o K0 = some (v, h') := by
  have key : ∀ {v'}, K0 v' h = some (v, h1) → h1 = h ∧ v' = v := fun e => by
    simp only [K0, Option.some.injEq, Prod.mk.injEq] at e; exact ⟨e.2.symm, e.1⟩
  cases o <;> simp only [AOp.pure, Bool.false_eq_true] at hp <;> simp only [opK] at e
  case mv x => obtain ⟨h1, h2⟩ := key e; exact ⟨h1, fun _ _ => by simp only [opK, h2, K0]⟩
  case pick x y z =>
    obtain ⟨t, ht, e⟩ := asBool_some e
    split at e
    · rename_i q; obtain ⟨h1, h2⟩ := key e; exact ⟨h1, fun _ _ => by simp only [opK, ht, asBool, if_pos q, h2, K0]⟩
    · rename_i q; obtain ⟨h1, h2⟩ := key e; exact ⟨h1, fun _ _ => by simp only [opK, ht, asBool, if_neg q, h2, K0]⟩
  case build z ps =>
    split at e
    · rename_i cs q; obtain ⟨h1, h2⟩ := key e; exact ⟨h1, fun _ _ => by simp only [opK, q, h2, K0]⟩
    · cases e
  case nilc x => obtain ⟨t, ht, e⟩ := asPtr_some e; obtain ⟨h1, h2⟩ := key e; exact ⟨h1, fun _ _ => by simp only [opK, ht, asPtr, K0]; rw [h2]⟩
  case bin op k x y =>
    obtain ⟨t, ht, e⟩ := asInt_some e; obtain ⟨u, hu, e⟩ := asInt_some e
    split at e
    · rename_i n q; obtain ⟨h1, h2⟩ := key e; exact ⟨h1, fun _ _ => by simp only [opK, ht, hu, asInt, if_true, q, h2, K0]⟩
    · cases e
  case sh l k yk x y =>
    obtain ⟨t, ht, e⟩ := asInt_some e; obtain ⟨u, hu, e⟩ := asInt_some e
    split at e
    · rename_i n q; obtain ⟨h1, h2⟩ := key e; exact ⟨h1, fun _ _ => by simp only [opK, ht, hu, asInt, if_true, q, h2, K0]⟩
    · cases e
  case cmp op k x y =>
    obtain ⟨t, ht, e⟩ := asInt_some e; obtain ⟨u, hu, e⟩ := asInt_some e
    split at e
    · rename_i n q; obtain ⟨h1, h2⟩ := key e; exact ⟨h1, fun _ _ => by simp only [opK, ht, hu, asInt, if_true, q, h2, K0]⟩
    · cases e
  case beq neg x y => obtain ⟨t, ht, e⟩ := asBool_some e; obtain ⟨u, hu, e⟩ := asBool_some e; obtain ⟨h1, h2⟩ := key e; exact ⟨h1, fun _ _ => by simp only [opK, ht, hu, asBool, h2, K0]⟩
  case snil neg x => obtain ⟨t, ht, e⟩ := asSl_some e; obtain ⟨h1, h2⟩ := key e; exact ⟨h1, fun _ _ => by simp only [opK, ht, asSl, h2, K0]⟩
  case not x => obtain ⟨t, ht, e⟩ := asBool_some e; obtain ⟨h1, h2⟩ := key e; exact ⟨h1, fun _ _ => by simp only [opK, ht, asBool, h2, K0]⟩
  case neg k x => obtain ⟨t, ht, e⟩ := asInt_some e; obtain ⟨h1, h2⟩ := key e; exact ⟨h1, fun _ _ => by simp only [opK, ht, asInt, if_true, h2, K0]⟩
  case conv k k' x => obtain ⟨t, ht, e⟩ := asInt_some e; obtain ⟨h1, h2⟩ := key e; exact ⟨h1, fun _ _ => by simp only [opK, ht, asInt, if_true, h2, K0]⟩
  case mkfn f x y => obtain ⟨h1, h2⟩ := key e; exact ⟨h1, fun _ _ => by simp only [opK, h2, K0]⟩
  case slice esz x lo hi mx =>
    obtain ⟨t, ht, e⟩ := asSl_some e
    have step : ∀ (o : Option Opd) (F : Option Int → Option (Value × AH)), optInt s o F = some (v, h1) → ∃ n, F n = some (v, h1) ∧ ∀ (G : Option Int → Option (Value × AH)), optInt s o G = G n := by
      intro o F hF
      cases o with
      | none => exact ⟨none, hF, fun _ => rfl⟩
      | some x =>
        simp only [optInt] at hF
        split at hF
        · rename_i k n hn
          exact ⟨some n, hF, fun G => by simp only [optInt, hn]⟩
        · cases hF
    obtain ⟨a, e, ha⟩ := step _ _ e
    obtain ⟨b, e, hb⟩ := step _ _ e
    obtain ⟨c, e, hc⟩ := step _ _ e
    have hs' : ∀ fl (h : AH), opK C fl s h (.slice esz x lo hi mx) K0 = sub esz t a b c fun v => K0 (.slice v.a v.l v.c) h := by
      intro fl h; simp only [opK, ht, asSl, ha, hb, hc]
    unfold sub at e
    split at e
    · rename_i q1
      split at e
      · rename_i q2; obtain ⟨h1, h2⟩ := key e; exact ⟨h1, fun fl' h' => by rw [hs']; unfold sub; rw [if_pos q1, if_pos q2]; simp only [K0, h2]⟩
      · cases e
    · rename_i q1
      split at e
      · rename_i q2
        split at e
        · rename_i q3; obtain ⟨h1, h2⟩ := key e; exact ⟨h1, fun fl' h' => by rw [hs']; unfold sub; rw [if_neg q1, if_pos q2, if_pos q3]; simp only [K0, h2]⟩
        · cases e
      · cases e
  case faddr off x => obtain ⟨t, ht, e⟩ := asPtr_some e; obtain ⟨h1, h2⟩ := key e; exact ⟨h1, fun _ _ => by simp only [opK, ht, asPtr, h2, K0]⟩
  case iaddr esz x i =>
    obtain ⟨t, ht, e⟩ := asSl_some e; obtain ⟨u, hu, e⟩ := asInt_some e
    unfold idx at e
    split at e
    · rename_i p hp
      split at e
      · rename_i q1
        split at e
        · rename_i q2; obtain ⟨h1, h2⟩ := key e; exact ⟨h1, fun _ _ => by simp only [opK, ht, hu, asSl, asInt, if_true, idx, hp, if_pos q1, if_pos q2, h2, K0]⟩
        · cases e
      · cases e
    · cases e
  case extr x i =>
    obtain ⟨t, ht, e⟩ := asTup_some e
    split at e
    · rename_i n q; obtain ⟨h1, h2⟩ := key e; exact ⟨h1, fun _ _ => by simp only [opK, ht, asTup, q, h2, K0]⟩
    · cases e
  case len x => obtain ⟨t, ht, e⟩ := asSl_some e; obtain ⟨h1, h2⟩ := key e; exact ⟨h1, fun _ _ => by simp only [opK, ht, asSl, h2, K0]⟩
  case sidx k bs x =>
    obtain ⟨t, ht, e⟩ := asInt_some e
    split at e
    · rename_i q0
      split at e
      · rename_i n q; obtain ⟨h1, h2⟩ := key e; exact ⟨h1, fun _ _ => by simp only [opK, ht, asInt, if_true, if_pos q0, q, h2, K0]⟩
      · cases e
    · cases e
  case mm m x y => obtain ⟨t, ht, e⟩ := asInt_some e; obtain ⟨u, hu, e⟩ := asInt_some e; obtain ⟨h1, h2⟩ := key e; exact ⟨h1, fun _ _ => by simp only [opK, ht, hu, asInt, if_true, h2, K0]⟩

theorem pure_opV {C : Callee} {fl : Nat} {s : List Value} {h h1 : AH} {o : AOper} {v : Value} (hp : o.op.pure = true) (e : opV C fl o s h = some (v, h1)) : h1 = h ∧ ∀ fl' h', opV C fl' o s h' = some (v, h') := by
  unfold opV at e
  split at e
  · rename_i hg
    obtain ⟨h1, h2⟩ := pure_op hp e
    exact ⟨h1, fun fl' h' => by unfold opV; simp only [hg]; exact h2 _ _⟩
  · rename_i g want hg
    rcases asG_some e with ⟨b, hb, e⟩ | ⟨x, y, hb, e⟩
    case inr =>
      simp only [Option.some.injEq, Prod.mk.injEq] at e
      exact ⟨e.2.symm, fun fl' h' => by unfold opV; simp only [hg, hb, asG, e.1]⟩
    split at e
    · rename_i q
      obtain ⟨h1, h2⟩ := pure_op hp e
      exact ⟨h1, fun fl' h' => by unfold opV; simp only [hg, hb, asG, if_pos q]; exact h2 _ _⟩
    · rename_i q
      simp only [Option.some.injEq, Prod.mk.injEq] at e
      exact ⟨e.2.symm, fun fl' h' => by unfold opV; simp only [hg, hb, asG, if_neg q, e.1]⟩

/-! ### the check of a region that draws -/
def maskOf (o : Oper) (acc : List Nat) : Nat := o.after.toList.foldl (fun s e => if Region.binds .any e = true then s ||| 2 ^ e.on ||| acc.getD e.on 0 else s) 0
def befs : List Oper → List Nat → List Nat
  | [], acc => acc
  | o :: os, acc => befs os (acc ++ [maskOf o acc])
def edgesOk : Nat → List Oper → Bool
  | _, [] => true
  | i, o :: os => o.after.toList.all (fun e => !Region.binds .any e || decide (e.on < i)) && edgesOk (i + 1) os
/-- Two operations, the first ahead of the second in the text, that must not change places. -/
def mustOrder (x y : AOper) : Bool :=
  (match x.dst with | some d => y.reads.contains d || decide (y.dst = some d) | none => false) ||
  (match y.dst with | some d => x.reads.contains d | none => false) ||
  (!x.op.pure && !y.op.pure && (x.iso || y.iso))
def pairsAt (x : AOper) (i : Nat) : List AOper → List Nat → Bool
  | [], _ => true
  | _ :: _, [] => false
  | y :: ys, m :: ms => (!mustOrder x y || m.testBit i) && pairsAt x i ys ms
def pairsOk : Nat → List AOper → List Nat → Bool
  | _, [], _ => true
  | _, _ :: _, [] => false
  | i, x :: xs, _ :: ms => pairsAt x i xs ms && pairsOk (i + 1) xs ms
def okDraw (ops : Array Oper) (al : List AOper) : Bool := edgesOk 0 ops.toList && pairsOk 0 al (befs ops.toList [])

end Go.Abs
