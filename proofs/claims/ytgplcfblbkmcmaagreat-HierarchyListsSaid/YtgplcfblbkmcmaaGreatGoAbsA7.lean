/- Each operation of the abstract machine is the machine's own: made slices, cuts, appends, copies. -/
import Derived.Test.YtgplcfblbkmcmaaGreatGoAbsA6
namespace Go.Abs

section
variable {P : Program} {C : Callee} {fl base rbase : Nat} {μ : Mu} {h h1 : AH} {w : World} {s : List Value} {a : Act} {v : Value} {o : Oper}

theorem Sim.loads {b rb ob : Nat} (sm : Sim base rbase μ h w) (m : μ b = some (rb, ob)) : ∀ (vs : List Value) (o' : Nat), (∀ (j : Nat) u, vs[j]? = some u → h.cell b (o' + j) = some u) →
    ∃ vs' : List Value, LRel μ (szOf w) vs vs' ∧ ∀ (j : Nat) u, vs'[j]? = some u → w.cell? ⟨rb, ob + o' + j, none⟩ = some u
  | [], _, _ => ⟨[], LRel.nil, fun j u hu => by simp at hu⟩
  | u :: vs, o', hh => by
    obtain ⟨u', g1, g2⟩ := sm.load (hh 0 u rfl) m
    obtain ⟨vs', g3, g4⟩ := Sim.loads sm m vs (o' + 1) (fun j q hq => by have := hh (j + 1) q (by simpa using hq); rwa [show o' + (j + 1) = o' + 1 + j by omega] at this)
    refine ⟨u' :: vs', LRel.cons g2 g3, ?_⟩
    intro j q hq
    cases j with
    | zero => simp at hq; subst hq; exact g1
    | succ j => have := g4 j q (by simpa using hq); rwa [show ob + o' + (j + 1) = ob + (o' + 1) + j by omega]

theorem rdN_some {R : Type} {r : R} {p : Addr} {n : Nat} {K : List Value → Option R} (e : rdN h (some p) n K = some r) :
    ∃ xs : List Value, xs.length = n ∧ K xs = some r ∧ (∃ cs, h.blk p.block = some cs) ∧ ∀ (j : Nat) u, xs[j]? = some u → h.cell p.block (p.off + j) = some u := by
  unfold rdN at e
  simp only at e
  split at e
  · rename_i cs hcs
    split at e
    · rename_i hl
      refine ⟨_, by simp; omega, e, ⟨cs, hcs⟩, ?_⟩
      intro j u hu
      rw [List.getElem?_take] at hu
      split at hu
      · rw [List.getElem?_drop] at hu
        simp [AH.cell, hcs, hu]
      · cases hu
    · cases e
  · cases e

theorem madeCells_zrow (z : List Value) (hz : 0 < z.length) (n : Nat) : (madeCells z.toArray (n * z.length)).toList = zrow z n := by
  apply List.ext_getElem?
  intro i
  have hmul : ∀ n, (List.replicate n z).flatten.length = n * z.length := by
    intro n; simp
  by_cases hi : i < n * z.length
  · have h1 : i % z.length < z.length := Nat.mod_lt _ hz
    have e1 : (madeCells z.toArray (n * z.length)).toList[i]? = some z[i % z.length] := by
      simp [madeCells, hi, h1]
    rw [e1]
    have key : ∀ (n i : Nat), i < n * z.length → (List.replicate n z).flatten[i]? = z[i % z.length]? := by
      intro n
      induction n with
      | zero => intro i h; omega
      | succ n ih =>
        intro i h
        rw [List.replicate_succ, List.flatten_cons]
        by_cases hi : i < z.length
        · rw [List.getElem?_append_left hi, Nat.mod_eq_of_lt hi]
        · rw [List.getElem?_append_right (by omega), ih (i - z.length) (by rw [Nat.succ_mul] at h; omega)]
          congr 1
          exact (Nat.mod_eq_sub_mod (by omega)).symm
    unfold zrow
    rw [key n i hi, List.getElem?_eq_getElem h1]
  · rw [List.getElem?_eq_none (by simp [madeCells]; omega), List.getElem?_eq_none (by unfold zrow; rw [hmul]; omega)]

theorem LRel.zrow {μ sz z z'} (h : LRel μ sz z z') : ∀ n, LRel μ sz (zrow z n) (zrow z' n)
  | 0 => LRel.nil
  | n + 1 => by unfold Abs.zrow; rw [List.replicate_succ, List.flatten_cons, List.replicate_succ, List.flatten_cons]; exact h.append (LRel.zrow h n)

theorem zero_i {t z} (h : okZ P t z = true) : ∃ i zv, P.info? t = some i ∧ i.zero = some zv ∧ lcv0 z zv.cells.toList = true := by
  unfold okZ zeroOf at h
  split at h
  · rename_i zs hz
    split at hz
    · rename_i i hi
      split at hz
      · rename_i zv hzv
        injection hz with hz; subst hz
        exact ⟨i, zv, hi, hzv, h⟩
      · cases hz
    · cases hz
  · cases h

theorem s_mkslice {bytes z x y} (c : Ctx fl base rbase μ h w s a) (hf : h.next < h1.next → μ h.next = none) (ok : okOp P o.op (.mkslice bytes z x y) = true) (e : opK C fl s h (.mkslice bytes z x y) K0 = some (v, h1)) :
    OpPost fl base rbase μ h w v h1 ((execOp a.eval o).run P w) := by
  simp only [opK] at e
  obtain ⟨m, hm, e⟩ := asInt_some e
  obtain ⟨n, hn, e⟩ := asInt_some e
  unfold mkSl at e
  split at e
  · rename_i hb
    simp only [K0, Option.some.injEq, Prod.mk.injEq] at e
    obtain ⟨rfl, rfl⟩ := e
    simp only [okOp] at ok
    unfold execOp
    split at ok
    · rename_i t l' c' hx; rw [hx]
      simp only [Bool.and_eq_true] at ok
      obtain ⟨⟨k1, k2⟩, k3⟩ := ok
      have r1 := opd_rel c.t k1
      have r2 := opd_rel c.t k2
      rw [hm] at r1; rw [hn] at r2
      split at k3
      · rename_i ee hee
        have hu := elem_u hee
        simp only [Bool.and_eq_true, decide_eq_true_eq] at k3
        obtain ⟨⟨⟨⟨kb, kz⟩, ks⟩, kp⟩, kbp⟩ := k3
        obtain ⟨i, zv, hi, hzv, hz⟩ := zero_i kz
        obtain ⟨i2, hi2, hsz⟩ := size_i ks
        rw [hi] at hi2; injection hi2 with hi2; subst hi2
        have hby : i.bytes = bytes := by
          unfold okBytes at kb
          rw [hi] at kb; simpa using kb
        obtain ⟨h0, h1, h2⟩ := hb
        have hroom : (n * (bytes : Int)) ≤ 2 ^ 47 := by simpa [ROOM] using h2
        have hnb : n ≤ n * (bytes : Int) := by
          have : n * 1 ≤ n * (bytes : Int) := Int.mul_le_mul_of_nonneg_left (by omega) (by omega)
          omega
        have hrun := run_make (P := P) w t ee i zv hu hi hzv .i64 .i64 m n h0 h1 (by rw [hby, Int.mul_comm]; omega) (by omega)
        have hzl := lcv0_rel (μ := μ) (sz := szOf w) hz
        have hzz : zv.cells = (zv.cells.toList).toArray := by simp
        have hcells : (madeCells zv.cells (n.toNat * i.size)).toList = zrow zv.cells.toList n.toNat := by
          rw [hsz, hzl.1]
          have := madeCells_zrow zv.cells.toList (by rw [← hzl.1]; exact kp) n.toNat
          rwa [Array.toArray_toList] at this
        refine OpPost.new (t := ee) (x := madeCells zv.cells (n.toNat * i.size)) c (hf (Nat.lt_succ_self _)) (by rw [hcells]; exact hzl.zrow _) (v' := .slice (some ⟨w.heap.size, 0, none⟩) m.toNat n.toNat) ?_ (.slice (ext_same _ _ _) ?_ (by omega))
        · simp only [r1.int_inv, r2.int_inv, Sem.run_bind, hrun, Result.andThen_ok, Sem.run_pure]
        · unfold UNK; omega
      · cases k3
    · cases ok
  · cases e

/-- A bound of a cut: related, its number. -/
theorem optInt_some {R : Type} {r : R} {μ sz} {x : Option Operand} {y : Option Opd} {K : Option Int → Option R} (t : LRel μ sz s a.tmps.toList) (ok : okO x y = true) (e : optInt s y K = some r) :
    (x = none ∧ K none = some r) ∨ ∃ x' k n, x = some x' ∧ a.eval x' = .int k n ∧ K (some n) = some r := by
  cases x <;> cases y <;> simp [okO] at ok
  · exact .inl ⟨rfl, e⟩
  · rename_i x y
    right
    simp only [optInt] at e
    split at e
    · rename_i k n hn
      have r := opd_rel t ok
      rw [hn] at r
      exact ⟨x, k, n, rfl, r.int_inv, e⟩
    · cases e

theorem run_slice_gen (t e : TypeId) (b : Option Addr) (len cap : Nat) (hu : P.underlying t = some (.slice e)) (ti : TypeInfo) (hi : P.info? e = some ti) (lo hi' mx : Option Value) (l h m : Nat)
    (hb : (Instr.sliceBounds true len cap lo hi' mx).run P w = .ok (l, h, m) w) :
    (Instr.sliceAt t (.slice b len cap) lo hi' mx).run P w = .ok (.slice (if m = l then b else b.map (·.add (l * ti.size))) (h - l) (m - l)) w := by
  simp only [Instr.sliceAt, Instr.slice, Sem.run_bind, run_underlying hu, Result.andThen_ok, hb, run_sizeOf' hi, Sem.run_pure]

theorem run_bounds {len cap : Nat} {lo hi mx : Option (IntKind × Int)} (l h m : Int) (hm : m = (mx.map (·.2)).getD (cap : Int)) (hh : h = (hi.map (·.2)).getD (len : Int)) (hl : l = (lo.map (·.2)).getD 0)
    (h0 : 0 ≤ l) (h1 : l ≤ h) (h2 : h ≤ m) (h3 : m ≤ cap) (hp : mx.isSome = true → hi.isSome = true) :
    (Instr.sliceBounds true len cap (lo.map fun x => .int x.1 x.2) (hi.map fun x => .int x.1 x.2) (mx.map fun x => .int x.1 x.2)).run P w = .ok (l.toNat, h.toNat, m.toNat) w := by
  subst hm hh hl
  have em : ∀ x : Int, 0 ≤ x → (x.toNat : Int) = x := fun x hx => Int.toNat_of_nonneg hx
  cases mx with
  | none =>
    cases hi with
    | none =>
      cases lo with
      | none => simp [Instr.sliceBounds]
      | some lo =>
        simp only [Option.map_none, Option.getD_none, Option.map_some, Option.getD_some] at *
        simp [Instr.sliceBounds, run_sliceBound (P := P) (w := w) lo.1 lo.2 _ _ h0 h1]
    | some hi =>
      simp only [Option.map_none, Option.getD_none, Option.map_some, Option.getD_some] at *
      cases lo with
      | none =>
        simp only [Option.map_none, Option.getD_none] at *
        simp [Instr.sliceBounds, run_sliceBound (P := P) (w := w) hi.1 hi.2 cap _ h1 h2]
      | some lo =>
        simp only [Option.map_some, Option.getD_some] at *
        have := run_sliceBound (P := P) (w := w) lo.1 lo.2 hi.2.toNat .sliceB h0 (by rw [em _ (by omega)]; exact h1)
        simp [Instr.sliceBounds, run_sliceBound (P := P) (w := w) hi.1 hi.2 cap _ (by omega) h2, this]
  | some mx =>
    cases hi with
    | none => simp at hp
    | some hi =>
      simp only [Option.map_some, Option.getD_some] at *
      have hmm := run_sliceBound (P := P) (w := w) mx.1 mx.2 cap .slice3Acap (by omega) h3
      have hhh := run_sliceBound (P := P) (w := w) hi.1 hi.2 mx.2.toNat .slice3B (by omega) (by rw [em _ (by omega)]; exact h2)
      cases lo with
      | none => simp [Instr.sliceBounds, hmm, hhh]
      | some lo =>
        simp only [Option.map_some, Option.getD_some] at *
        have := run_sliceBound (P := P) (w := w) lo.1 lo.2 hi.2.toNat .slice3C h0 (by rw [em _ (by omega)]; exact h1)
        simp [Instr.sliceBounds, hmm, hhh, this]

theorem s_slice {esz y lo hi mx} (c : Ctx fl base rbase μ h w s a) (ok : okOp P o.op (.slice esz y lo hi mx) = true) (e : opK C fl s h (.slice esz y lo hi mx) K0 = some (v, h1)) :
    OpPost fl base rbase μ h w v h1 ((execOp a.eval o).run P w) := by
  simp only [opK] at e
  obtain ⟨⟨ma, ml, mc⟩, hm, e⟩ := asSl_some e
  change ev s y = .slice ma ml mc at hm
  simp only [okOp] at ok
  unfold execOp
  split at ok
  · rename_i t x lo' hi' mx' hx; rw [hx]
    simp only [Bool.and_eq_true] at ok
    obtain ⟨⟨⟨⟨⟨k1, k2⟩, k3⟩, k4⟩, k5⟩, k6⟩ := ok
    have r1 := opd_rel c.t k1
    rw [hm] at r1
    split at k6
    · rename_i ee hee
      have hu := elem_u hee
      obtain ⟨ti, hti, rfl⟩ := size_i k6
      -- the bounds
      have hlo : ∃ L : Option (IntKind × Int), lo'.map a.eval = L.map (fun x => .int x.1 x.2) ∧ ∃ e', optInt s hi (fun hi => optInt s mx fun mx => sub ti.size ⟨ma, ml, mc⟩ (L.map (·.2)) hi mx fun v => K0 (.slice v.a v.l v.c) h) = some e' ∧ e' = (v, h1) := by
        rcases optInt_some c.t k2 e with ⟨rfl, e1⟩ | ⟨x', k, n, rfl, q, e1⟩
        · exact ⟨none, rfl, _, e1, rfl⟩
        · exact ⟨some (k, n), by simp [q], _, e1, rfl⟩
      obtain ⟨L, hL, e', e1, rfl⟩ := hlo
      have hhi : ∃ H : Option (IntKind × Int), hi'.map a.eval = H.map (fun x => .int x.1 x.2) ∧ H.isSome = hi'.isSome ∧ optInt s mx (fun mx => sub ti.size ⟨ma, ml, mc⟩ (L.map (·.2)) (H.map (·.2)) mx fun v => K0 (.slice v.a v.l v.c) h) = some (v, h1) := by
        rcases optInt_some c.t k3 e1 with ⟨rfl, e2⟩ | ⟨x', k, n, rfl, q, e2⟩
        · exact ⟨none, rfl, rfl, e2⟩
        · exact ⟨some (k, n), by simp [q], rfl, e2⟩
      obtain ⟨H, hH, hHs, e2⟩ := hhi
      have hmx : ∃ M : Option (IntKind × Int), mx'.map a.eval = M.map (fun x => .int x.1 x.2) ∧ M.isSome = mx'.isSome ∧ sub ti.size ⟨ma, ml, mc⟩ (L.map (·.2)) (H.map (·.2)) (M.map (·.2)) (fun v => K0 (.slice v.a v.l v.c) h) = some (v, h1) := by
        rcases optInt_some c.t k4 e2 with ⟨rfl, e3⟩ | ⟨x', k, n, rfl, q, e3⟩
        · exact ⟨none, rfl, rfl, e3⟩
        · exact ⟨some (k, n), by simp [q], rfl, e3⟩
      obtain ⟨M, hM, hMs, e3⟩ := hmx
      have hp : M.isSome = true → H.isSome = true := by
        rw [hHs, hMs]; intro hq; rw [hq] at k5; simpa using k5
      simp only [hL, hH, hM, Sem.run_bind]
      clear e e1 e2 hm
      revert r1
      generalize a.eval x = q
      intro r1
      unfold sub at e3
      simp only at e3
      split at e3
      · rename_i hex
        split at e3
        · rename_i hb
          obtain ⟨b0, b1, b2, b3⟩ := hb
          simp only [K0, Option.some.injEq, Prod.mk.injEq] at e3
          obtain ⟨rfl, rfl⟩ := e3
          rcases r1.slice_inv with ⟨rfl, rfl, rfl, rfl⟩ | ⟨b, ob, st', rb, off, rfl, g1, g2, g3, rfl⟩ | ⟨b, ob, st', rb, off, o', c', es, rfl, rfl, g1, g2, g3, g4, rfl⟩
          · rw [run_slice_gen t ee none 0 0 hu ti hti _ _ _ _ _ _ (run_bounds _ _ _ rfl rfl rfl b0 b1 b2 b3 hp)]
            simp only [Option.map_none, ite_self, Result.andThen_ok, Sem.run_pure]
            have z1 : ((M.map (·.2)).getD ((0 : Nat) : Int)) = 0 := by omega
            have z2 : ((H.map (·.2)).getD ((0 : Nat) : Int)) = 0 := by omega
            have z3 : ((L.map (·.2)).getD (0 : Int)) = 0 := by omega
            rw [z1, z2, z3]
            exact OpPost.still c.sim .nilSlice
          · rw [run_slice_gen t ee _ ml mc hu ti hti _ _ _ _ _ _ (run_bounds _ _ _ rfl rfl rfl b0 b1 b2 b3 hp)]
            simp only [Result.andThen_ok, Sem.run_pure, Option.map_some, add_none]
            generalize (M.map (·.2)).getD (mc : Int) = m at *
            generalize (H.map (·.2)).getD (ml : Int) = hh at *
            generalize (L.map (·.2)).getD (0 : Int) = l at *
            have e1 : hh.toNat - l.toNat = (hh - l).toNat := by omega
            have e2 : m.toNat - l.toNat = (m - l).toNat := by omega
            rw [e1, e2]
            refine OpPost.still c.sim ?_
            by_cases hml : m = l
            · rw [if_pos hml, if_pos (by omega)]
              exact .slice g1 (by omega) (by omega)
            · rw [if_neg hml, if_neg (by omega), Nat.add_assoc]
              exact .slice g1 (by omega) (by omega)
          · omega
        · cases e3
      · rename_i hex
        change ¬ (mc < UNK) at hex
        split at e3
        · rename_i hes
          obtain ⟨hes, hmn⟩ := hes
          change mc = UNK + ti.size at hes
          split at e3
          · rename_i hb
            obtain ⟨b0, b1, b3⟩ := hb
            simp only [K0, Option.some.injEq, Prod.mk.injEq] at e3
            obtain ⟨rfl, rfl⟩ := e3
            have hM0 : M = none := by cases M <;> simp at hmn ⊢
            subst hM0
            rcases r1.slice_inv with ⟨rfl, rfl, rfl, rfl⟩ | ⟨b, ob, st', rb, off, rfl, g1, g2, g3, rfl⟩ | ⟨b, ob, st', rb, off, o', c', es, rfl, rfl, g1, g2, g3, g4, rfl⟩
            · exact absurd (show (0 : Nat) < UNK by unfold UNK; omega) hex
            · omega
            · have hes' : es = ti.size := by omega
              subst hes'
              rw [run_slice_gen t ee _ ml c' hu ti hti _ _ _ _ _ _ (run_bounds _ _ _ rfl rfl rfl b0 b1 (by simp only [Option.map_none, Option.getD_none]; omega) (by simp) hp)]
              simp only [Result.andThen_ok, Sem.run_pure, Option.map_some, add_none, Option.map_none, Option.getD_none, Int.toNat_natCast]
              generalize (H.map (·.2)).getD (ml : Int) = hh at *
              generalize (L.map (·.2)).getD (0 : Int) = l at *
              have e1 : hh.toNat - l.toNat = (hh - l).toNat := by omega
              rw [e1]
              refine OpPost.still c.sim ?_
              obtain ⟨n, rfl⟩ := Int.eq_ofNat_of_zero_le b0
              simp only [Int.toNat_natCast]
              have hmul : n * ti.size + (c' - n) * ti.size = c' * ti.size := by rw [← Nat.add_mul]; congr 1; omega
              by_cases hml : c' = n
              · rw [if_pos hml]
                refine .sliceU g1 (.inl (by omega)) (by omega) ?_
                have : c' - n = 0 := by omega
                rw [this]; omega
              · rw [if_neg hml]
                refine .sliceU g1 ?_ (by omega) (by omega)
                rcases g2 with g2 | g2
                · left; omega
                · right; omega
          · cases e3
        · cases e3
    · cases k6
  · cases ok
end
end Go.Abs
