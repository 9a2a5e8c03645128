/- Each operation of the abstract machine is the machine's own: operations but calls. -/
import Derived.Test.YtgplcfblbkmcmaaGreatGoAbsA3
import Derived.Laws.Sem
import Derived.Laws.Entries
import Derived.Laws.Slices
import Derived.Laws.CopyRow
import Derived.ChangeKeysEq
namespace Go.Abs

/-! ### the check -/
def zeroOf (P : Program) (t : TypeId) : Option (List Value) := match P.info? t with
  | some i => match i.zero with
    | some z => some z.cells.toList
    | none => none
  | none => none
def okZ (P : Program) (t : TypeId) (z : List Value) : Bool := match zeroOf P t with
  | some zs => lcv0 z zs
  | none => false
def okSize (P : Program) (t : TypeId) (n : Nat) : Bool := match P.info? t with
  | some i => i.size == n
  | none => false
def okBytes (P : Program) (t : TypeId) (n : Nat) : Bool := match P.info? t with
  | some i => i.bytes == n
  | none => false
def elemOf' (P : Program) (t : TypeId) : Option TypeId := match P.underlying t with
  | some (.slice e) => some e
  | _ => none
def isInt (P : Program) (t : TypeId) (k : IntKind) : Bool := match P.underlying t with
  | some (.int k') => decide (k' = k)
  | _ => false
def isBoolT (P : Program) (t : TypeId) : Bool := match P.underlying t with
  | some .bool => true
  | _ => false
def okParts (P : Program) (fs : Array Field) : List (Nat × Operand) → List (Nat × Nat × Opd) → Bool
  | [], [] => true
  | (i, x) :: xs, (off, size, y) :: ys => (match fs[i]? with | some f => f.offset == off && okSize P f.type size | none => false) && okOpd x y && okParts P fs xs ys
  | _, _ => false
def okSParts (size : Nat) : List (Nat × Operand) → List (Nat × Nat × Opd) → Bool
  | [], [] => true
  | (i, x) :: xs, (off, sz, y) :: ys => off == i * size && sz == size && okOpd x y && okSParts size xs ys
  | _, _ => false
def okO : Option Operand → Option Opd → Bool
  | none, none => true
  | some x, some y => okOpd x y
  | _, _ => false
def arithOp : BinOp → Bool
  | .add | .sub | .mul | .quo | .rem | .and | .or | .xor => true
  | _ => false
def cmpOp : BinOp → Bool
  | .eql | .neq | .lss | .leq | .gtr | .geq => true
  | _ => false

def okOp (P : Program) (op : Op) : AOp → Bool
  | .mv y => match op with
    | .move x => okOpd x y
    | .assign x => okOpd x y
    | _ => false
  | .pick c a b => match op with
    | .pick c' a' b' => okOpd c' c && okOpd a' a && okOpd b' b
    | _ => false
  | .box y => match op with
    | .box _ x => okOpd x y
    | _ => false
  | .alloc z => match op with
    | .alloc t => okZ P t z
    | _ => false
  | .build z ps => match op with
    | .build t parts => okZ P t z && (match P.underlying t with
      | some (.struct fs) => fs.toList.all (fun f => (P.info? f.type).isSome) && okParts P fs parts.toList ps
      | _ => false)
    | _ => false
  | .bslice len z ps => match op with
    | .buildSlice t n parts => n == len && decide (len < UNK) && (match elemOf' P t with
      | some e => match P.info? e with
        | some i => decide (len * i.size ≤ 2 ^ 24) && (match i.zero with
          | some zv => lcv0 z ((Array.range (len * i.size)).map (zv.cells[· % zv.cells.size]!)).toList
          | none => false) && okSParts i.size parts.toList ps
        | none => false
      | none => false)
    | _ => false
  | .load sh y => match op with
    | .load t x => okOpd x y && (match P.underlying t with
      | some (.struct _) => (match sh with | .agg l => okSize P t l.length | _ => false)
      | some (.array _ _) => false
      | some _ => (match sh with | .one _ => true | _ => false)
      | none => false)
    | _ => false
  | .store n a y => match op with
    | .store t a' x => okSize P t n && okOpd a' a && okOpd x y
    | _ => false
  | .nilc y => match op with
    | .nilCheck x => okOpd x y
    | _ => false
  | .bin o _ x y => match op with
    | .binOp o' _ x' y' _ => decide (o' = o) && arithOp o && okOpd x' x && okOpd y' y
    | _ => false
  | .sh left _ _ x y => match op with
    | .binOp o' _ x' y' _ => (if left then decide (o' = .shl) else decide (o' = .shr)) && okOpd x' x && okOpd y' y
    | _ => false
  | .cmp o _ x y => match op with
    | .binOp o' _ x' y' _ => decide (o' = o) && cmpOp o && okOpd x' x && okOpd y' y
    | _ => false
  | .beq neg x y => match op with
    | .binOp o' t x' y' _ => (if neg then decide (o' = .neq) else decide (o' = .eql)) && isBoolT P t && okOpd x' x && okOpd y' y
    | _ => false
  | .snil neg x => match op with
    | .binOp o' t x' (.const (.slice none 0 0)) _ => (if neg then decide (o' = .neq) else decide (o' = .eql)) && (elemOf' P t).isSome && okOpd x' x
    | _ => false
  | .not y => match op with
    | .unOp .not _ x => okOpd x y
    | _ => false
  | .neg _ y => match op with
    | .unOp .neg _ x => okOpd x y
    | _ => false
  | .conv s d y => match op with
    | .convert src dst x => isInt P src s && isInt P dst d && okOpd x y
    | _ => false
  | .mkfn f a b => match op with
    | .makeFunc (.func g) a' b' => g == f && okOpds a'.toList a && okOpds b'.toList b
    | _ => false
  | .mkslice bytes z l c => match op with
    | .makeSlice t l' c' => okOpd l' l && okOpd c' c && (match elemOf' P t with
      | some e => okBytes P e bytes && okZ P e z && okSize P e z.length && decide (0 < z.length) && decide (0 < bytes)
      | none => false)
    | _ => false
  | .slice esz y lo hi mx => match op with
    | .slice t x lo' hi' mx' => okOpd x y && okO lo' lo && okO hi' hi && okO mx' mx && (hi'.isSome || !mx'.isSome) && (match elemOf' P t with
      | some e => okSize P e esz
      | none => false)
    | _ => false
  | .faddr off y => match op with
    | .fieldAddr t x i => okOpd x y && (match P.underlying t with
      | some (.struct fs) => match fs[i]? with
        | some f => f.offset == off && (match P.info? f.type with | some i => i.size != 0 | none => false)
        | none => false
      | _ => false)
    | _ => false
  | .iaddr esz x i => match op with
    | .indexAddr t x' i' => okOpd x' x && okOpd i' i && (match elemOf' P t with
      | some e => okSize P e esz
      | none => false)
    | _ => false
  | .extr y i => match op with
    | .extract x j => okOpd x y && j == i
    | _ => false
  | .call .. => false
  | .len y => match op with
    | .call { callee := .builtin .len, args, argTypes } => (match args.toList, argTypes.toList with
      | [x], [t] => okOpd x y && (elemOf' P t).isSome
      | _, _ => false)
    | _ => false
  | .append esz bytes x y => match op with
    | .call { callee := .builtin .append, args, argTypes } => (match args.toList, argTypes.toList with
      | [x', y'], [t, t'] => okOpd x' x && okOpd y' y && decide (0 < esz) && decide (0 < bytes) && (match elemOf' P t with
        | some e => okSize P e esz && okBytes P e bytes && t' == t && (match zeroOf P e with | some z => z.length == esz | none => false)
        | none => false)
      | _, _ => false)
    | _ => false
  | .copy esz d s => match op with
    | .call { callee := .builtin .copy, args, argTypes } => (match args.toList, argTypes.toList with
      | [x', y'], t :: _ => okOpd x' d && okOpd y' s && decide (0 < esz) && (match elemOf' P t with
        | some e => okSize P e esz
        | none => false)
      | _, _ => false)
    | _ => false
  | .sidx _ bs y => match op with
    | .index t (.const (.string s)) x => okOpd x y && (match P.underlying t with | some .string => true | _ => false) && decide (s.data.toList.map (·.toNat) = bs)
    | _ => false
  | .mm isMax x y => match op with
    | .call { callee := .builtin b, args, .. } => (match args.toList with
      | [x', y'] => (if isMax then (match b with | .max => true | _ => false) else (match b with | .min => true | _ => false)) && okOpd x' x && okOpd y' y
      | _ => false)
    | _ => false

section
variable {P : Program} {C : Callee} {fl base rbase : Nat} {μ : Mu} {h h1 : AH} {w : World} {s : List Value} {a : Act} {v : Value} {o : Oper}

abbrev K0 : Value → AH → Option (Value × AH) := fun v h => some (v, h)

theorem s_mv {y} (c : Ctx fl base rbase μ h w s a) (ok : okOp P o.op (.mv y) = true) (e : opK C fl s h (.mv y) K0 = some (v, h1)) :
    OpPost fl base rbase μ h w v h1 ((execOp a.eval o).run P w) := by
  simp only [opK, K0, Option.some.injEq, Prod.mk.injEq] at e
  obtain ⟨rfl, rfl⟩ := e
  simp only [okOp] at ok
  unfold execOp
  split at ok
  · rename_i hx; rw [hx]; exact OpPost.still c.sim (opd_rel c.t ok)
  · rename_i hx; rw [hx]; exact OpPost.still c.sim (opd_rel c.t ok)
  · cases ok

theorem s_pick {x y z} (c : Ctx fl base rbase μ h w s a) (ok : okOp P o.op (.pick x y z) = true) (e : opK C fl s h (.pick x y z) K0 = some (v, h1)) :
    OpPost fl base rbase μ h w v h1 ((execOp a.eval o).run P w) := by
  simp only [opK] at e
  obtain ⟨t, ht, e⟩ := asBool_some e
  simp only [okOp] at ok
  unfold execOp
  split at ok
  · rename_i hx; rw [hx]
    simp only [Bool.and_eq_true] at ok
    obtain ⟨⟨k1, k2⟩, k3⟩ := ok
    have r1 := opd_rel c.t k1
    rw [ht] at r1
    have r1 := r1.bool_inv
    simp only [r1, Go.asBool, Sem.run_bind, Sem.run_pure, Result.andThen_ok]
    cases t with
    | true =>
      simp only [if_true, K0, Option.some.injEq, Prod.mk.injEq] at e ⊢
      obtain ⟨rfl, rfl⟩ := e
      exact OpPost.still c.sim (opd_rel c.t k2)
    | false =>
      simp only [Bool.false_eq_true, if_false, K0, Option.some.injEq, Prod.mk.injEq] at e ⊢
      obtain ⟨rfl, rfl⟩ := e
      exact OpPost.still c.sim (opd_rel c.t k3)
  · cases ok

theorem run_newRow' (t : TypeId) (c : Array Value) : (newRow t c).run P w = .ok ⟨w.heap.size, 0, none⟩ (w.alloc (.cells c t)) := rfl
theorem run_typeInfo' {t : TypeId} {i : TypeInfo} (hi : P.info? t = some i) : (typeInfo t).run P w = .ok i w := by
  simp only [typeInfo, Go.program, Sem.run_bind, Sem.run, Result.andThen_ok, hi, Sem.run_pure]
theorem run_zeroValue' {t : TypeId} {i : TypeInfo} {z : Value} (hi : P.info? t = some i) (hz : i.zero = some z) : (zeroValue t).run P w = .ok z w := by
  simp only [zeroValue, Sem.run_bind, run_typeInfo' hi, Result.andThen_ok, hz, Sem.run_pure]
theorem run_sizeOf' {t : TypeId} {i : TypeInfo} (hi : P.info? t = some i) : (sizeOf t).run P w = .ok i.size w := by
  simp only [sizeOf, Sem.run_bind, run_typeInfo' hi, Result.andThen_ok, Sem.run_pure]

theorem LRel.at_ {μ sz} {xs ys : List Value} (h : LRel μ sz xs ys) : ∀ (j : Nat) v, xs[j]? = some v → ∃ v', ys.toArray[j]? = some v' ∧ VRel μ sz v v' := fun j v hv => by
  obtain ⟨v', h1, h2⟩ := h.get hv
  exact ⟨v', by simpa using h1, h2⟩

/-- What a new block leaves. -/
theorem OpPost.new (c : Ctx fl base rbase μ h w s a) (hf : μ h.next = none) {cs : List Value} {x : Array Value} {t : TypeId} (hc : LRel μ (szOf w) cs x.toList) {v' : Value} {r : Result Next}
    (hr : r = .ok (.value v') (w.alloc (.cells x t)))
    (hv : VRel (ext μ h.next (w.heap.size, 0)) (szOf (w.alloc (.cells x t))) v v') : OpPost fl base rbase μ h w v (h.alloc cs) r := by
  refine ⟨v', _, _, .inl hr, Post.alloc c.sim c.hn c.hr hf (fun j u hu => ?_), hv⟩
  obtain ⟨u', h1, h2⟩ := hc.get hu
  exact ⟨u', by simpa using h1, h2⟩

theorem s_box {y} (c : Ctx fl base rbase μ h w s a) (hf : h.next < h1.next → μ h.next = none) (ok : okOp P o.op (.box y) = true) (e : opK C fl s h (.box y) K0 = some (v, h1)) :
    OpPost fl base rbase μ h w v h1 ((execOp a.eval o).run P w) := by
  simp only [opK, K0] at e
  split at e
  · rename_i hone
    simp only [Option.some.injEq, Prod.mk.injEq] at e
    obtain ⟨rfl, rfl⟩ := e
    simp only [okOp] at ok
    unfold execOp
    split at ok
    · rename_i t x hx; rw [hx]
      have r := (opd_rel c.t ok).cells (List.all_eq_true.1 hone)
      refine OpPost.new (t := t) c (hf (Nat.lt_succ_self _)) r (v' := .pointer (some ⟨w.heap.size, 0, none⟩)) ?_ (.ptr (ext_same _ _ _))
      simp [Instr.box, newVar, run_newRow']
    · cases ok
  · cases e

theorem s_alloc {z} (c : Ctx fl base rbase μ h w s a) (hf : h.next < h1.next → μ h.next = none) (ok : okOp P o.op (.alloc z) = true) (e : opK C fl s h (.alloc z) K0 = some (v, h1)) :
    OpPost fl base rbase μ h w v h1 ((execOp a.eval o).run P w) := by
  simp only [opK, K0, Option.some.injEq, Prod.mk.injEq] at e
  obtain ⟨rfl, rfl⟩ := e
  simp only [okOp] at ok
  unfold execOp
  split at ok
  · rename_i t hx; rw [hx]
    unfold okZ zeroOf at ok
    split at ok
    · rename_i zs hz
      split at hz
      · rename_i i hi
        split at hz
        · rename_i zv hzv
          injection hz with hz; subst hz
          refine OpPost.new (t := t) c (hf (Nat.lt_succ_self _)) (lcv0_rel ok) (v' := .pointer (some ⟨w.heap.size, 0, none⟩)) ?_ (.ptr (ext_same _ _ _))
          simp [Instr.alloc, newVar, run_newRow', run_zeroValue' hi hzv]
        · cases hz
      · cases hz
    · cases ok
  · cases ok

theorem s_nilc {y} (c : Ctx fl base rbase μ h w s a) (ok : okOp P o.op (.nilc y) = true) (e : opK C fl s h (.nilc y) K0 = some (v, h1)) :
    OpPost fl base rbase μ h w v h1 ((execOp a.eval o).run P w) := by
  simp only [opK] at e
  obtain ⟨p, hp, e⟩ := asPtr_some e
  simp only [K0, Option.some.injEq, Prod.mk.injEq] at e
  obtain ⟨rfl, rfl⟩ := e
  simp only [okOp] at ok
  unfold execOp
  split at ok
  · rename_i x hx; rw [hx]
    have r := opd_rel c.t ok
    rw [hp] at r
    obtain ⟨rb, ob, h1, h2⟩ := r.ptr_inv
    simp only [h2]
    rw [h2] at r
    exact OpPost.still c.sim r
  · cases ok

theorem s_bin {op k x y} (c : Ctx fl base rbase μ h w s a) (ok : okOp P o.op (.bin op k x y) = true) (e : opK C fl s h (.bin op k x y) K0 = some (v, h1)) :
    OpPost fl base rbase μ h w v h1 ((execOp a.eval o).run P w) := by
  simp only [opK] at e
  obtain ⟨m, hm, e⟩ := asInt_some e
  obtain ⟨n, hn, e⟩ := asInt_some e
  simp only [okOp] at ok
  unfold execOp
  split at ok
  · rename_i o' t x' y' t' hx; rw [hx]
    simp only [Bool.and_eq_true, decide_eq_true_eq] at ok
    obtain ⟨⟨⟨rfl, k0⟩, k1⟩, k2⟩ := ok
    have r1 := opd_rel c.t k1
    have r2 := opd_rel c.t k2
    rw [hm] at r1; rw [hn] at r2
    have r1 := r1.int_inv
    have r2 := r2.int_inv
    simp only [r1, r2]
    split at e
    · rename_i z hz
      simp only [K0, Option.some.injEq, Prod.mk.injEq] at e
      obtain ⟨rfl, rfl⟩ := e
      have hg : (eqGuard o' t x' y' (Value.int k m) (Value.int k n)).run P w = .ok () w := by
        cases o' <;> first | rfl | (cases k0; done)
      have hb : (binOp o' t (Value.int k m) (Value.int k n)).run P w = .ok (.int k z) w := by
        cases o' <;> simp only [arithOp, Bool.false_eq_true] at k0 <;> simp only [binInt] at hz <;> unfold binOp <;>
          simp only [ne_eq, not_true_eq_false, if_false, Op.intArith, Op.intDiv, Op.intBits]
        all_goals first
          | (injection hz with hz; subst hz; rfl)
          | (split at hz
             · cases hz
             · rename_i hne; injection hz with hz; subst hz; rw [if_neg hne]; rfl)
      simp only [Sem.run_bind, hg, hb, Result.andThen_ok, Sem.run_pure]
      exact OpPost.still c.sim (.int _ _)
    · cases e
  · cases ok

theorem s_cmp {op k x y} (c : Ctx fl base rbase μ h w s a) (ok : okOp P o.op (.cmp op k x y) = true) (e : opK C fl s h (.cmp op k x y) K0 = some (v, h1)) :
    OpPost fl base rbase μ h w v h1 ((execOp a.eval o).run P w) := by
  simp only [opK] at e
  obtain ⟨m, hm, e⟩ := asInt_some e
  obtain ⟨n, hn, e⟩ := asInt_some e
  simp only [okOp] at ok
  unfold execOp
  split at ok
  · rename_i o' t x' y' t' hx; rw [hx]
    simp only [Bool.and_eq_true, decide_eq_true_eq] at ok
    obtain ⟨⟨⟨rfl, k0⟩, k1⟩, k2⟩ := ok
    have r1 := opd_rel c.t k1
    have r2 := opd_rel c.t k2
    rw [hm] at r1; rw [hn] at r2
    have r1 := r1.int_inv
    have r2 := r2.int_inv
    simp only [r1, r2]
    split at e
    · rename_i z hz
      simp only [K0, Option.some.injEq, Prod.mk.injEq] at e
      obtain ⟨rfl, rfl⟩ := e
      have hg : (eqGuard o' t x' y' (Value.int k m) (Value.int k n)).run P w = .ok () w := by
        cases o' <;> rfl
      have hb : (binOp o' t (Value.int k m) (Value.int k n)).run P w = .ok (.bool z) w := by
        cases o' <;> simp only [cmpOp, Bool.false_eq_true] at k0 <;> simp only [cmpInt] at hz <;> unfold binOp <;>
          simp only [ne_eq, not_true_eq_false, if_false, Op.intCmp]
        all_goals (injection hz with hz; subst hz; rfl)
      simp only [Sem.run_bind, hg, hb, Result.andThen_ok, Sem.run_pure]
      exact OpPost.still c.sim (.bool _)
    · cases e
  · cases ok

theorem s_sh {left k yk x y} (c : Ctx fl base rbase μ h w s a) (ok : okOp P o.op (.sh left k yk x y) = true) (e : opK C fl s h (.sh left k yk x y) K0 = some (v, h1)) :
    OpPost fl base rbase μ h w v h1 ((execOp a.eval o).run P w) := by
  simp only [opK] at e
  obtain ⟨m, hm, e⟩ := asInt_some e
  obtain ⟨n, hn, e⟩ := asInt_some e
  simp only [okOp] at ok
  unfold execOp
  split at ok
  · rename_i o' t x' y' t' hx; rw [hx]
    simp only [Bool.and_eq_true] at ok
    obtain ⟨⟨k0, k1⟩, k2⟩ := ok
    have r1 := opd_rel c.t k1
    have r2 := opd_rel c.t k2
    rw [hm] at r1; rw [hn] at r2
    have r1 := r1.int_inv
    have r2 := r2.int_inv
    simp only [r1, r2]
    split at e
    · rename_i z hz
      simp only [K0, Option.some.injEq, Prod.mk.injEq] at e
      obtain ⟨rfl, rfl⟩ := e
      have hsh : o' = if left = true then BinOp.shl else .shr := by cases left <;> simpa using k0
      have hg : (eqGuard o' t x' y' (Value.int k m) (Value.int yk n)).run P w = .ok () w := by
        subst hsh; cases left <;> rfl
      have hb : (binOp o' t (Value.int k m) (Value.int yk n)).run P w = .ok (.int k z) w := by
        subst hsh
        unfold shInt at hz
        split at hz
        · cases hz
        · rename_i hneg
          cases left <;> simp only [Bool.false_eq_true, if_false, if_true] at hz ⊢ <;> injection hz with hz <;> subst hz <;> unfold binOp <;> simp only [Op.shift, if_neg hneg] <;> rfl
      simp only [Sem.run_bind, hg, hb, Result.andThen_ok, Sem.run_pure]
      exact OpPost.still c.sim (.int _ _)
    · cases e
  · cases ok

theorem s_not {y} (c : Ctx fl base rbase μ h w s a) (ok : okOp P o.op (.not y) = true) (e : opK C fl s h (.not y) K0 = some (v, h1)) :
    OpPost fl base rbase μ h w v h1 ((execOp a.eval o).run P w) := by
  simp only [opK] at e
  obtain ⟨m, hm, e⟩ := asBool_some e
  simp only [K0, Option.some.injEq, Prod.mk.injEq] at e
  obtain ⟨rfl, rfl⟩ := e
  simp only [okOp] at ok
  unfold execOp
  split at ok
  · rename_i t x hx; rw [hx]
    have r := opd_rel c.t ok
    rw [hm] at r
    simp only [r.bool_inv]
    exact OpPost.still c.sim (.bool _)
  · cases ok

theorem s_neg {k y} (c : Ctx fl base rbase μ h w s a) (ok : okOp P o.op (.neg k y) = true) (e : opK C fl s h (.neg k y) K0 = some (v, h1)) :
    OpPost fl base rbase μ h w v h1 ((execOp a.eval o).run P w) := by
  simp only [opK] at e
  obtain ⟨m, hm, e⟩ := asInt_some e
  simp only [K0, Option.some.injEq, Prod.mk.injEq] at e
  obtain ⟨rfl, rfl⟩ := e
  simp only [okOp] at ok
  unfold execOp
  split at ok
  · rename_i t x hx; rw [hx]
    have r := opd_rel c.t ok
    rw [hm] at r
    simp only [r.int_inv]
    exact OpPost.still c.sim (.int _ _)
  · cases ok

theorem s_extr {y i} (c : Ctx fl base rbase μ h w s a) (ok : okOp P o.op (.extr y i) = true) (e : opK C fl s h (.extr y i) K0 = some (v, h1)) :
    OpPost fl base rbase μ h w v h1 ((execOp a.eval o).run P w) := by
  simp only [opK] at e
  obtain ⟨vs, hvs, e⟩ := asTup_some e
  split at e
  · rename_i u hu
    simp only [K0, Option.some.injEq, Prod.mk.injEq] at e
    obtain ⟨rfl, rfl⟩ := e
    simp only [okOp] at ok
    unfold execOp
    split at ok
    · rename_i x j hx; rw [hx]
      simp only [Bool.and_eq_true, beq_iff_eq] at ok
      obtain ⟨k1, rfl⟩ := ok
      have r := opd_rel c.t k1
      rw [hvs] at r
      obtain ⟨ys, hy, hl⟩ := r.tuple_inv (by rintro rfl; simp at hu)
      obtain ⟨u', h1, h2⟩ := hl.get hu
      simp only [hy, Instr.extract]
      have h3 : (⟨ys⟩ : Array Value)[j]? = some u' := by simpa using h1
      simp only [h3, Sem.run_bind, Sem.run_pure, Result.andThen_ok]
      exact OpPost.still c.sim h2
    · cases ok
  · cases e
end
end Go.Abs
