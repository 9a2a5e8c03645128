/- Each operation of the abstract machine is the machine's own: composite values, addresses, loads, slices. -/
import Derived.Test.YtgplcfblbkmcmaaGreatGoAbsA4
import Derived.Laws.MakeOwn
import Derived.Great.BuildSlice
namespace Go.Abs

theorem LRel.setAll {μ sz} : ∀ {xs xs' z z' : List Value} {off : Nat}, LRel μ sz z z' → LRel μ sz xs xs' → LRel μ sz (setAll z off xs) (setAll z' off xs')
  | [], [], _, _, _, h, _ => h
  | [], _ :: _, _, _, _, _, t => by have := t.1; simp at this
  | _ :: _, [], _, _, _, _, t => by have := t.1; simp at this
  | x :: xs, x' :: xs', z, z', off, h, t => by
    have hx := t.2 0 (by simp) (by simp)
    have ht : LRel μ sz xs xs' := ⟨by have := t.1; simpa using this, fun i h1 h2 => t.2 (i + 1) (by simpa using h1) (by simpa using h2)⟩
    refine LRel.setAll (z := z.set off x) (z' := z'.set off x') (off := off + 1) ?_ ht
    refine LRel.of_get (by simp [h.1]) fun i v hv => ?_
    rw [List.getElem?_set] at hv ⊢
    have hl := h.1
    by_cases e : off = i
    · simp only [e, if_true] at hv ⊢
      split at hv
      · rename_i hlt
        injection hv with hv; subst hv
        rw [if_pos (by omega)]; exact ⟨x', rfl, hx⟩
      · cases hv
    · simp only [e, if_false] at hv ⊢
      exact h.get hv

theorem setAll_length : ∀ (xs z : List Value) (off : Nat), (setAll z off xs).length = z.length
  | [], _, _ => rfl
  | x :: xs, z, off => by rw [setAll, setAll_length xs]; simp

theorem setAll_get : ∀ (xs z : List Value) (off i : Nat), off + xs.length ≤ z.length → (setAll z off xs)[i]? = if off ≤ i ∧ i < off + xs.length then xs[i - off]? else z[i]?
  | [], z, off, i, _ => by simp [setAll]; omega
  | x :: xs, z, off, i, h => by
    simp only [List.length_cons] at h
    rw [setAll, setAll_get xs _ (off + 1) i (by simp; omega)]
    by_cases h1 : off + 1 ≤ i ∧ i < off + 1 + xs.length
    · rw [if_pos h1, if_pos (by simp; omega)]
      rw [show i - off = (i - (off + 1)) + 1 by omega, List.getElem?_cons_succ]
    · rw [if_neg h1, List.getElem?_set]
      by_cases e : off = i
      · subst e; rw [if_pos rfl, if_pos (by omega), if_pos (by simp)]; simp
      · rw [if_neg e, if_neg (by simp; omega)]

theorem foldl_setAll (off : Nat) : ∀ (xs : List Value) (k : Nat) (cells : Array Value),
    (xs.zipIdx k).foldl (fun (cs : Array Value) (c : Value × Nat) => cs.setIfInBounds (off + c.2) c.1) cells = ⟨setAll cells.toList (off + k) xs⟩
  | [], _, _ => rfl
  | x :: xs, k, cells => by
    rw [List.zipIdx_cons, List.foldl_cons, foldl_setAll off xs (k + 1)]
    simp only [setAll, Array.toList_setIfInBounds]
    rw [Nat.add_assoc]

section
variable {P : Program} {C : Callee} {fl base rbase : Nat} {μ : Mu} {h h1 : AH} {w : World} {s : List Value} {a : Act} {v : Value} {o : Oper}

theorem fill_step {sz} {y : Opd} {x : Operand} {z z' cs : List Value} {off size : Nat} {ps : List (Nat × Nat × Opd)} {place : Nat → Option (Nat × Nat)} {i : Nat} (hp : place i = some (off, size))
    (t : LRel μ sz s a.tmps.toList) (hx : okOpd x y = true) (hz : LRel μ sz z z') (e : fillA s ((off, size, y) :: ps) z = some cs) (rest : List (Nat × Value)) :
    ∃ z2 z2' : List Value, LRel μ sz z2 z2' ∧ fillA s ps z2 = some cs ∧ Instr.fill place z'.toArray ((i, a.eval x) :: rest) = Instr.fill place z2'.toArray rest := by
  simp only [fillA] at e
  split at e
  · rename_i h1
    split at e
    · rename_i h2
      split at e
      · rename_i h3
        have r := (opd_rel t hx).cells (List.all_eq_true.1 h3)
        have hl := r.1
        refine ⟨_, _, LRel.setAll (off := off) hz r, e, ?_⟩
        simp only [Instr.fill, hp]
        have hs : (a.eval x).cells.size = size := by rw [← h1, hl]; simp
        have hzl : z'.toArray.size = z.length := by simp [hz.1]
        rw [if_neg (by simp [hs]; have := hz.1; omega)]
        congr 1
        rw [← Array.foldl_toList, Array.toList_zipIdx, foldl_setAll off _ 0]
        simp
      · cases e
    · cases e
  · cases e

theorem fill_parts {sz} (fs : Array Field) (places : Array (Nat × Nat)) (hpl : ∀ (i : Nat) (f : Field) (ti : TypeInfo), fs[i]? = some f → P.info? f.type = some ti → places[i]? = some (f.offset, ti.size)) (t : LRel μ sz s a.tmps.toList) :
    ∀ {ps : List (Nat × Nat × Opd)} {parts : List (Nat × Operand)} {z z' cs : List Value}, okParts P fs parts ps = true → LRel μ sz z z' → fillA s ps z = some cs →
      ∃ cs' : List Value, Instr.fill (places[·]?) z'.toArray (parts.map fun p => (p.1, a.eval p.2)) = some cs'.toArray ∧ LRel μ sz cs cs'
  | [], [], z, z', cs, _, hz, e => by
    simp only [fillA, Option.some.injEq] at e; subst e
    exact ⟨z', rfl, hz⟩
  | (off, size, y) :: ps, (i, x) :: parts, z, z', cs, ok, hz, e => by
    simp only [okParts, Bool.and_eq_true] at ok
    obtain ⟨⟨k1, k2⟩, k3⟩ := ok
    split at k1
    · rename_i f hf
      simp only [Bool.and_eq_true, beq_iff_eq] at k1
      obtain ⟨k4, k5⟩ := k1
      unfold okSize at k5
      split at k5
      · rename_i ti hti
        simp at k5
        have hp : places[i]? = some (off, size) := by rw [hpl i f ti hf hti, k4, k5]
        obtain ⟨z2, z2', r1, r2, r3⟩ := fill_step (place := (places[·]?)) (i := i) hp t k2 hz e (parts.map fun p => (p.1, a.eval p.2))
        obtain ⟨cs', q1, q2⟩ := fill_parts fs places hpl t k3 r1 r2
        exact ⟨cs', by simp only [List.map_cons]; rw [r3]; exact q1, q2⟩
      · cases k5
    · cases k1
  | [], _ :: _, _, _, _, ok, _, _ => by simp [okParts] at ok
  | _ :: _, [], _, _, _, ok, _, _ => by simp [okParts] at ok

theorem fill_sparts {sz} (size : Nat) (t : LRel μ sz s a.tmps.toList) :
    ∀ {ps : List (Nat × Nat × Opd)} {parts : List (Nat × Operand)} {z z' cs : List Value}, okSParts size parts ps = true → LRel μ sz z z' → fillA s ps z = some cs →
      ∃ cs' : List Value, Instr.fill (fun i => some (i * size, size)) z'.toArray (parts.map fun p => (p.1, a.eval p.2)) = some cs'.toArray ∧ LRel μ sz cs cs'
  | [], [], z, z', cs, _, hz, e => by
    simp only [fillA, Option.some.injEq] at e; subst e
    exact ⟨z', rfl, hz⟩
  | (off, sz', y) :: ps, (i, x) :: parts, z, z', cs, ok, hz, e => by
    simp only [okSParts, Bool.and_eq_true, beq_iff_eq] at ok
    obtain ⟨⟨⟨rfl, rfl⟩, k2⟩, k3⟩ := ok
    obtain ⟨z2, z2', r1, r2, r3⟩ := fill_step (place := fun i => some (i * sz', sz')) (i := i) rfl t k2 hz e (parts.map fun p => (p.1, a.eval p.2))
    obtain ⟨cs', q1, q2⟩ := fill_sparts sz' t k3 r1 r2
    exact ⟨cs', by simp only [List.map_cons]; rw [r3]; exact q1, q2⟩
  | [], _ :: _, _, _, _, ok, _, _ => by simp [okSParts] at ok
  | _ :: _, [], _, _, _, ok, _, _ => by simp [okSParts] at ok

theorem places_of : ∀ (fs : List Field), fs.all (fun f => (P.info? f.type).isSome) = true →
    ∃ places, fs.mapM (fun f => (P.info? f.type).map fun i => (f.offset, i.size)) = some places ∧ ∀ (i : Nat) (f : Field) (ti : TypeInfo), fs[i]? = some f → P.info? f.type = some ti → places[i]? = some (f.offset, ti.size)
  | [], _ => ⟨[], rfl, fun i f ti h => by simp at h⟩
  | f :: fs, h => by
    simp only [List.all_cons, Bool.and_eq_true] at h
    obtain ⟨places, h1, h2⟩ := places_of fs h.2
    obtain ⟨ti, hti⟩ := Option.isSome_iff_exists.1 h.1
    refine ⟨(f.offset, ti.size) :: places, by simp [List.mapM_cons, hti, h1], ?_⟩
    intro i g tj hg hj
    cases i with
    | zero => simp at hg; subst hg; rw [hti] at hj; injection hj with hj; subst hj; rfl
    | succ i => simpa using h2 i g tj (by simpa using hg) hj

theorem s_build {z ps} (c : Ctx fl base rbase μ h w s a) (ok : okOp P o.op (.build z ps) = true) (e : opK C fl s h (.build z ps) K0 = some (v, h1)) :
    OpPost fl base rbase μ h w v h1 ((execOp a.eval o).run P w) := by
  simp only [opK] at e
  split at e
  · rename_i cs hcs
    simp only [K0, Option.some.injEq, Prod.mk.injEq] at e
    obtain ⟨rfl, rfl⟩ := e
    simp only [okOp] at ok
    unfold execOp
    split at ok
    · rename_i t parts hx; rw [hx]
      simp only [Bool.and_eq_true] at ok
      obtain ⟨k1, k2⟩ := ok
      split at k2
      · rename_i fs hfs
        simp only [Bool.and_eq_true] at k2
        obtain ⟨k3, k4⟩ := k2
        unfold okZ zeroOf at k1
        split at k1
        · rename_i zs hz
          split at hz
          · rename_i i hi
            split at hz
            · rename_i zv hzv
              injection hz with hz; subst hz
              obtain ⟨places, p1, p2⟩ := places_of fs.toList k3
              obtain ⟨cs', q1, q2⟩ := fill_parts (P := P) (a := a) fs places.toArray (fun i f ti hf hti => by simpa using p2 i f ti (by simpa using hf) hti) c.t k4 (lcv0_rel k1) hcs
              have hb : P.built t (parts.map fun (i, x) => (i, a.eval x)).toList = some cs'.toArray := by
                simp only [Program.built, hi, hfs, hzv, p1, Array.toList_map]
                simpa using q1
              simp only [Sem.run_bind, run_build w t _ _ hb, Result.andThen_ok, Sem.run_pure]
              exact OpPost.still c.sim (.agg q2.1 q2.2)
            · cases hz
          · cases hz
        · cases k1
      · cases k2
    · cases ok
  · cases e

theorem fillA_nil_len : ∀ {ps : List (Nat × Nat × Opd)} {z cs : List Value}, fillA s ps z = some cs → cs.length = z.length
  | [], z, cs, e => by simp only [fillA, Option.some.injEq] at e; rw [e]
  | (off, size, y) :: ps, z, cs, e => by
    simp only [fillA] at e
    split at e
    · split at e
      · split at e
        · rw [fillA_nil_len e, setAll_length]
        · cases e
      · cases e
    · cases e

theorem s_bslice {len z ps} (c : Ctx fl base rbase μ h w s a) (hf : h.next < h1.next → μ h.next = none) (ok : okOp P o.op (.bslice len z ps) = true) (e : opK C fl s h (.bslice len z ps) K0 = some (v, h1)) :
    OpPost fl base rbase μ h w v h1 ((execOp a.eval o).run P w) := by
  simp only [opK] at e
  split at e
  · rename_i cs hcs
    simp only [K0, Option.some.injEq, Prod.mk.injEq] at e
    obtain ⟨rfl, rfl⟩ := e
    simp only [okOp] at ok
    unfold execOp
    split at ok
    · rename_i t n parts hx; rw [hx]
      simp only [Bool.and_eq_true, beq_iff_eq, decide_eq_true_eq] at ok
      obtain ⟨⟨rfl, hlen⟩, k2⟩ := ok
      unfold elemOf' at k2
      split at k2
      · rename_i ee hee
        split at hee
        · rename_i e' hu
          injection hee with hee; subst hee
          split at k2
          · rename_i i hi
            simp only [Bool.and_eq_true, decide_eq_true_eq] at k2
            obtain ⟨⟨k3, k4⟩, k5⟩ := k2
            split at k4
            · rename_i zv hzv
              obtain ⟨cs', q1, q2⟩ := fill_sparts (a := a) i.size c.t k5 (lcv0_rel k4) hcs
              rw [Array.toArray_toList] at q1
              have hrun : (Instr.buildSlice t n (parts.map fun (i, x) => (i, a.eval x))).run P w = .ok (.slice (some ⟨w.heap.size, 0, none⟩) n n) (w.alloc (.cells cs'.toArray e')) := by
                have q3 : Instr.fill (fun j => some (j * i.size, i.size)) ((Array.range (n * i.size)).map (zv.cells[· % zv.cells.size]!)) (parts.map fun (i, x) => (i, a.eval x)).toList = some cs'.toArray := by
                  rw [Array.toList_map]; exact q1
                by_cases hz0 : n * i.size = 0
                · have h0 : ((Array.range (n * i.size)).map (zv.cells[· % zv.cells.size]!)) = #[] := by rw [hz0]; simp
                  rw [h0] at q3
                  have h0' : ¬ (n * i.size > 2 ^ 24) := by omega
                  have h00 : ((Array.range (n * i.size)).map ((#[] : Array Value)[· % (#[] : Array Value).size]!)) = #[] := by rw [hz0]; simp
                  unfold Instr.buildSlice
                  have h1' : ¬ (0 > 2 ^ 24) := by omega
                  simp only [run_underlying hu, Sem.run_bind, Result.andThen_ok, run_sizeOf' hi, hz0, if_true, Sem.run_pure, if_neg h1']
                  simp only [hz0] at h00
                  rw [h00, q3]
                  rfl
                · exact run_buildSlice w t e' n _ _ i zv hu hi hzv (by omega) hz0 q3
              refine OpPost.new (t := e') (x := cs'.toArray) c (hf (Nat.lt_succ_self _)) (by simpa using q2) (v' := .slice (some ⟨w.heap.size, 0, none⟩) n n) ?_ (.slice (ext_same _ _ _) hlen (Nat.le_refl _))
              simp only [Sem.run_bind, hrun, Result.andThen_ok, Sem.run_pure]
            · cases k4
          · cases k2
        · cases hee
      · cases k2
    · cases ok
  · cases e

/-! ### loads -/
theorem Sim.load {b o rb ob u} (sm : Sim base rbase μ h w) (hc : h.cell b o = some u) (hm : μ b = some (rb, ob)) : ∃ u', w.cell? ⟨rb, ob + o, none⟩ = some u' ∧ VRel μ (szOf w) u u' := by
  unfold AH.cell at hc
  split at hc
  · rename_i cs hb
    exact sm.cell b cs rb ob hb hm o u hc
  · cases hc

theorem s_load {sh y} (c : Ctx fl base rbase μ h w s a) (ok : okOp P o.op (.load sh y) = true) (e : opK C fl s h (.load sh y) K0 = some (v, h1)) :
    OpPost fl base rbase μ h w v h1 ((execOp a.eval o).run P w) := by
  simp only [opK] at e
  obtain ⟨p, hp, e⟩ := asPtr_some e
  simp only [okOp] at ok
  unfold execOp
  split at ok
  · rename_i t x hx; rw [hx]
    simp only [Bool.and_eq_true] at ok
    obtain ⟨k1, k2⟩ := ok
    have r := opd_rel c.t k1
    rw [hp] at r
    obtain ⟨rb, ob, m1, m2⟩ := r.ptr_inv
    simp only [m2, Instr.loadAt, Instr.sureAddr, loadVar, isAgg, Sem.run_bind, Sem.run_pure, Result.andThen_ok]
    split at k2
    · rename_i fs hu
      split at k2
      · rename_i l
        unfold okSize at k2
        split at k2
        · rename_i i hi
          simp at k2
          simp only at e
          obtain ⟨vs, l1, l2, l3⟩ := ldsK0_some (K := fun vs => K0 (.agg ⟨vs⟩) h) e
          simp only [K0, Option.some.injEq, Prod.mk.injEq] at l3
          obtain ⟨rfl, rfl⟩ := l3
          have hall : ∃ vs' : List Value, LRel μ (szOf w) vs vs' ∧ ∀ (j : Nat) u, vs'[j]? = some u → w.cell? ⟨rb, ob + p.off + j, none⟩ = some u := by
            clear e
            have key : ∀ (vs : List Value) (o' : Nat), (∀ (j : Nat) u, vs[j]? = some u → h.cell p.block (o' + j) = some u) → ∃ vs' : List Value, LRel μ (szOf w) vs vs' ∧ ∀ (j : Nat) u, vs'[j]? = some u → w.cell? ⟨rb, ob + o' + j, none⟩ = some u := by
              intro vs
              induction vs with
              | nil => intro o' _; exact ⟨[], LRel.nil, fun j u hu => by simp at hu⟩
              | cons u vs ih =>
                intro o' hh
                obtain ⟨u', g1, g2⟩ := c.sim.load (hh 0 u rfl) m1
                obtain ⟨vs', g3, g4⟩ := ih (o' + 1) (fun j q hq => by have := hh (j + 1) q (by simpa using hq); rwa [show o' + (j + 1) = o' + 1 + j by omega] at this)
                refine ⟨u' :: vs', LRel.cons g2 g3, ?_⟩
                intro j q hq
                cases j with
                | zero => simp at hq; subst hq; exact g1
                | succ j => have := g4 j q (by simpa using hq); rwa [show ob + o' + (j + 1) = ob + (o' + 1) + j by omega]
            exact key vs p.off (fun j u hu => l2 j u hu)
          obtain ⟨vs', g1, g2⟩ := hall
          have hl : (loadCells ⟨rb, ob + p.off, none⟩ i.size).run P w = .ok vs'.toArray w := by
            rw [k2, ← l1, g1.1]
            refine run_loadCells_list w _ vs' fun j u hu => ?_
            have := g2 j u hu
            unfold Addr.add
            split
            · rename_i h0; subst h0; simpa using this
            · exact this
          simp only [run_underlying hu, Result.andThen_ok, if_true, Sem.run_bind, run_sizeOf' hi, hl, Sem.run_pure]
          exact OpPost.still c.sim (.agg g1.1 g1.2)
        · cases k2
      · cases k2
    · cases k2
    · rename_i d hn1 hn2 hu
      split at k2
      · rename_i s0
        simp only at e
        obtain ⟨u, g1, g2⟩ := ldK0_some (K := fun v => K0 v h) e
        simp only [K0, Option.some.injEq, Prod.mk.injEq] at g2
        obtain ⟨rfl, rfl⟩ := g2
        obtain ⟨u', q1, q2⟩ := c.sim.load g1 m1
        have hd : ((match d with | .struct _ => pure true | .array _ _ => pure true | _ => pure false) : Sem Bool) = pure false := by
          cases d <;> first | rfl | (exact absurd rfl (hn1 _)) | (exact absurd rfl (hn2 _ _))
        simp only [run_underlying hu, Result.andThen_ok, hd, Sem.run_pure, Bool.false_eq_true, if_false, run_load, q1]
        exact OpPost.still c.sim q2
      · cases k2
    · cases k2
  · cases ok
end
end Go.Abs
