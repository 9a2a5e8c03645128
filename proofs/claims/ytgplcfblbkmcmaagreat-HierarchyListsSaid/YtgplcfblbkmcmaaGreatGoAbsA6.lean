/- Each operation of the abstract machine is the machine's own: stores, slices, appends, copies. -/
import Derived.Test.YtgplcfblbkmcmaaGreatGoAbsA5
namespace Go.Abs

section
variable {P : Program} {C : Callee} {fl base rbase : Nat} {μ : Mu} {h h1 : AH} {w : World} {s : List Value} {a : Act} {v : Value} {o : Oper}

theorem add_none (b o n : Nat) : (⟨b, o, none⟩ : Addr).add n = ⟨b, o + n, none⟩ := by
  unfold Addr.add
  split
  · rename_i h; subst h; rfl
  · rfl

theorem LRel.one {μ sz} {xs xs' : List Value} (r : LRel μ sz xs xs') (h : xs.all oneC = true) : ∀ u ∈ xs', u.oneCell' = true := by
  intro u hu
  obtain ⟨i, hi, rfl⟩ := List.getElem_of_mem hu
  have hi' : i < xs.length := by have := r.1; omega
  exact (r.2 i hi' hi).oneCell (List.all_eq_true.1 h _ (List.getElem_mem hi'))

theorem st_sound {R : Type} {r : R} {p : Addr} {xs xs' : List Value} {K : AH → Option R} {rb ob : Nat} (sm : Sim base rbase μ h w) (hb : base ≤ fl) (e : st fl h p xs K = some r) (hx : LRel μ (szOf w) xs xs') (m : μ p.block = some (rb, ob)) :
    ∃ c' h2, (storeCells ⟨rb, ob + p.off, none⟩ xs').run P w = .ok () (w.setRow rb c') ∧ Post fl base rbase μ h w μ h2 (w.setRow rb c') ∧ K h2 = some r ∧ h2.next = h.next ∧ fl ≤ p.block := by
  unfold st at e
  split at e
  · rename_i cs hcs
    split at e
    · rename_i hfl
      split at e
      · rename_i hpos
        split at e
        · rename_i hlen
          split at e
          · rename_i hone
            obtain ⟨_, c, t, hg⟩ := sm.own p.block cs rb ob (Nat.le_trans hb hfl) hcs m
            have hl' : xs'.length = xs.length := hx.1.symm
            -- the last cell is there
            have hsz : ob + p.off + xs'.length ≤ c.size := by
              have hlt : p.off + xs.length - 1 < cs.length := by omega
              obtain ⟨u', g1, _⟩ := sm.cell p.block cs rb ob hcs m (p.off + xs.length - 1) _ (List.getElem?_eq_getElem hlt)
              rw [cell_cells hg] at g1
              obtain ⟨g2, _⟩ := Array.getElem?_eq_some_iff.1 g1
              omega
            have hrun := run_storeCells_at (P := P) rb (ob + p.off) t xs' 0 c w hg (by omega) (hx.one hone)
            simp only [Nat.add_zero] at hrun
            refine ⟨_, _, hrun, ?_, e, rfl, hfl⟩
            refine Post.set sm hfl hb hcs m hg ?_ ?_
            · simp; omega
            · intro j u hu
              rw [setAll_get xs cs p.off j hlen] at hu
              by_cases hj : p.off ≤ j ∧ j < p.off + xs.length
              · rw [if_pos hj] at hu
                obtain ⟨u', g1, g2⟩ := hx.get hu
                refine ⟨u', ?_, g2⟩
                simp only [List.getElem?_toArray]
                rw [List.append_assoc, List.getElem?_append_right (by simp; omega), List.getElem?_append_left (by simp; omega)]
                have e1 : ob + j - (List.take (ob + p.off) c.toList).length = j - p.off := by simp; omega
                rw [e1]; exact g1
              · rw [if_neg hj] at hu
                obtain ⟨u', g1, g2⟩ := sm.cell p.block cs rb ob hcs m j u hu
                rw [cell_cells hg] at g1
                refine ⟨u', ?_, g2⟩
                obtain ⟨g3, g4⟩ := Array.getElem?_eq_some_iff.1 g1
                simp only [List.getElem?_toArray]
                by_cases hj2 : j < p.off
                · rw [List.append_assoc, List.getElem?_append_left (by simp; omega), List.getElem?_take, if_pos (by omega)]
                  simpa using g1
                · rw [List.append_assoc, List.getElem?_append_right (by simp; omega), List.getElem?_append_right (by simp; omega), List.getElem?_drop]
                  have e1 : ob + p.off + xs'.length + (ob + j - (List.take (ob + p.off) c.toList).length - xs'.length) = ob + j := by simp; omega
                  rw [e1]
                  simpa using g1
          · cases e
        · cases e
      · cases e
    · cases e
  · cases e

theorem s_store {n y z} (c : Ctx fl base rbase μ h w s a) (ok : okOp P o.op (.store n y z) = true) (e : opK C fl s h (.store n y z) K0 = some (v, h1)) :
    OpPost fl base rbase μ h w v h1 ((execOp a.eval o).run P w) := by
  simp only [opK] at e
  obtain ⟨p, hp, e⟩ := asPtr_some e
  split at e
  · rename_i hn
    simp only [okOp] at ok
    unfold execOp
    split at ok
    · rename_i t y' z' hx; rw [hx]
      simp only [Bool.and_eq_true] at ok
      obtain ⟨⟨k1, k2⟩, k3⟩ := ok
      have r1 := opd_rel c.t k2
      rw [hp] at r1
      obtain ⟨rb, ob, m1, m2⟩ := r1.ptr_inv
      have hone : (ev s z).cells.toList.all oneC = true := by
        unfold st at e
        (repeat' split at e) <;> first | assumption | cases e
      have r2 := (opd_rel c.t k3).cells (List.all_eq_true.1 hone)
      obtain ⟨c', h2, g1, g2, g3, _⟩ := st_sound (P := P) c.sim c.hb e r2 m1
      simp only [K0, Option.some.injEq, Prod.mk.injEq] at g3
      obtain ⟨rfl, rfl⟩ := g3
      unfold okSize at k1
      split at k1
      · rename_i i hi
        simp at k1
        have hs : ¬ ((a.eval z').cells.size ≠ i.size) := by
          have := r2.1
          simp only [Array.length_toList] at this hn
          omega
        simp only [m2, Instr.storeAt, Instr.sureAddr, storeVar, Sem.run_bind, Sem.run_pure, Result.andThen_ok, run_sizeOf' hi, if_neg hs, g1]
        exact ⟨undef, μ, _, .inr ⟨rfl, rfl⟩, g2, .poison _⟩
      · cases k1
    · cases ok
  · cases e

theorem eq_bool_at (d : Nat) {t m n} (hu : P.underlying t = some .bool) : (Op.equalIn (d + 1) t (Value.bool m) (Value.bool n)).run P w = .ok (m == n) w := by
  simp only [Op.equalIn, Sem.run_bind, run_underlying hu, Result.andThen_ok, Sem.run_pure]
theorem eq_slice_at (d : Nat) {t e b l c} (hu : P.underlying t = some (.slice e)) : (Op.equalIn (d + 1) t (Value.slice b l c) (Value.slice none 0 0)).run P w = .ok b.isNone w := by
  cases b <;> simp only [Op.equalIn, Sem.run_bind, run_underlying hu, Result.andThen_ok, Sem.run_pure, Option.isNone]

theorem s_beq {neg x y} (c : Ctx fl base rbase μ h w s a) (ok : okOp P o.op (.beq neg x y) = true) (e : opK C fl s h (.beq neg x y) K0 = some (v, h1)) :
    OpPost fl base rbase μ h w v h1 ((execOp a.eval o).run P w) := by
  simp only [opK] at e
  obtain ⟨m, hm, e⟩ := asBool_some e
  obtain ⟨n, hn, e⟩ := asBool_some e
  simp only [K0, Option.some.injEq, Prod.mk.injEq] at e
  obtain ⟨rfl, rfl⟩ := e
  simp only [okOp] at ok
  unfold execOp
  split at ok
  · rename_i o' t x' y' t' hx; rw [hx]
    simp only [Bool.and_eq_true] at ok
    obtain ⟨⟨⟨k0, kt⟩, k1⟩, k2⟩ := ok
    have r1 := opd_rel c.t k1
    have r2 := opd_rel c.t k2
    rw [hm] at r1; rw [hn] at r2
    have r1 := r1.bool_inv
    have r2 := r2.bool_inv
    simp only [r1, r2]
    unfold isBoolT at kt
    split at kt
    · rename_i hu
      have hsh : o' = if neg = true then BinOp.neq else .eql := by cases neg <;> simpa using k0
      have hg : (eqGuard o' t x' y' (Value.bool m) (Value.bool n)).run P w = .ok () w := by
        subst hsh; cases neg <;> rfl
      have he : (Op.equal t (Value.bool m) (Value.bool n)).run P w = .ok (m == n) w := by
        exact eq_bool_at 9999 hu
      have hb : (binOp o' t (Value.bool m) (Value.bool n)).run P w = .ok (.bool (if neg = true then !(m == n) else m == n)) w := by
        subst hsh
        cases neg <;> simp [binOp, he]
      simp only [Sem.run_bind, hg, hb, Result.andThen_ok, Sem.run_pure]
      exact OpPost.still c.sim (.bool _)
    · cases kt
  · cases ok

theorem s_snil {neg x} (c : Ctx fl base rbase μ h w s a) (ok : okOp P o.op (.snil neg x) = true) (e : opK C fl s h (.snil neg x) K0 = some (v, h1)) :
    OpPost fl base rbase μ h w v h1 ((execOp a.eval o).run P w) := by
  simp only [opK] at e
  obtain ⟨m, hm, e⟩ := asSl_some e
  simp only [K0, Option.some.injEq, Prod.mk.injEq] at e
  obtain ⟨rfl, rfl⟩ := e
  simp only [okOp] at ok
  unfold execOp
  split at ok
  · rename_i o' t x' t' hx; rw [hx]
    simp only [Bool.and_eq_true] at ok
    obtain ⟨⟨k0, kt⟩, k1⟩ := ok
    have r1 := opd_rel c.t k1
    rw [hm] at r1
    obtain ⟨b', c', q1, q2⟩ := VRel.slice_len (s := m) r1
    unfold elemOf' at kt
    split at kt
    · rename_i e' hu
      have hev : a.eval (.const (.slice none 0 0)) = .slice none 0 0 := rfl
      simp only [q1, hev]
      have hsh : o' = if neg = true then BinOp.neq else .eql := by cases neg <;> simpa using k0
      have hg : (eqGuard o' t x' (.const (.slice none 0 0)) (Value.slice b' m.l c') (.slice none 0 0)).run P w = .ok () w := by
        subst hsh; cases neg <;> rfl
      have he : (Op.equal t (Value.slice b' m.l c') (.slice none 0 0)).run P w = .ok b'.isNone w := by
        exact eq_slice_at 9999 hu
      have hb : (binOp o' t (Value.slice b' m.l c') (.slice none 0 0)).run P w = .ok (.bool (if neg = true then !m.a.isNone else m.a.isNone)) w := by
        subst hsh
        rw [q2]
        cases neg <;> simp [binOp, he]
      simp only [Sem.run_bind, hg, hb, Result.andThen_ok, Sem.run_pure]
      exact OpPost.still c.sim (.bool _)
    · cases kt
  · cases ok

theorem isInt_u {t k} (h : isInt P t k = true) : P.underlying t = some (.int k) := by
  unfold isInt at h
  split at h
  · rename_i k' hu; simp at h; rw [hu, h]
  · cases h

theorem s_conv {sk dk y} (c : Ctx fl base rbase μ h w s a) (ok : okOp P o.op (.conv sk dk y) = true) (e : opK C fl s h (.conv sk dk y) K0 = some (v, h1)) :
    OpPost fl base rbase μ h w v h1 ((execOp a.eval o).run P w) := by
  simp only [opK] at e
  obtain ⟨m, hm, e⟩ := asInt_some e
  simp only [K0, Option.some.injEq, Prod.mk.injEq] at e
  obtain ⟨rfl, rfl⟩ := e
  simp only [okOp] at ok
  unfold execOp
  split at ok
  · rename_i ts td x hx; rw [hx]
    simp only [Bool.and_eq_true] at ok
    obtain ⟨⟨k1, k2⟩, k3⟩ := ok
    have r := opd_rel c.t k3
    rw [hm] at r
    have hr : (convert ts td (Value.int sk m)).run P w = .ok (.int dk (dk.wrap m)) w := by
      simp [convert, run_underlying (isInt_u k1), run_underlying (isInt_u k2), Conv.intToInt]
    simp only [r.int_inv, Sem.run_bind, hr, Result.andThen_ok, Sem.run_pure]
    exact OpPost.still c.sim (.int _ _)
  · cases ok

theorem s_mkfn {f x y} (c : Ctx fl base rbase μ h w s a) (ok : okOp P o.op (.mkfn f x y) = true) (e : opK C fl s h (.mkfn f x y) K0 = some (v, h1)) :
    OpPost fl base rbase μ h w v h1 ((execOp a.eval o).run P w) := by
  simp only [opK, K0, Option.some.injEq, Prod.mk.injEq] at e
  obtain ⟨rfl, rfl⟩ := e
  simp only [okOp] at ok
  unfold execOp
  split at ok
  · rename_i g x' y' hx; rw [hx]
    simp only [Bool.and_eq_true, beq_iff_eq] at ok
    obtain ⟨⟨rfl, k2⟩, k3⟩ := ok
    have r1 := opds_rel c.t k2
    have r2 := opds_rel c.t k3
    have e1 : x'.map a.eval = ⟨x'.toList.map a.eval⟩ := by apply Array.ext'; simp
    have e2 : y'.map a.eval = ⟨y'.toList.map a.eval⟩ := by apply Array.ext'; simp
    simp only [e1, e2, Instr.makeFunc, Sem.run_bind, Result.andThen_ok, Sem.run_pure]
    exact OpPost.still c.sim (.func r1.1 r1.2 r2.1 r2.2)
  · cases ok

theorem s_faddr {off y} (c : Ctx fl base rbase μ h w s a) (ok : okOp P o.op (.faddr off y) = true) (e : opK C fl s h (.faddr off y) K0 = some (v, h1)) :
    OpPost fl base rbase μ h w v h1 ((execOp a.eval o).run P w) := by
  simp only [opK] at e
  obtain ⟨p, hp, e⟩ := asPtr_some e
  simp only [K0, Option.some.injEq, Prod.mk.injEq] at e
  obtain ⟨rfl, rfl⟩ := e
  simp only [okOp] at ok
  unfold execOp
  split at ok
  · rename_i t x i hx; rw [hx]
    simp only [Bool.and_eq_true] at ok
    obtain ⟨k1, k2⟩ := ok
    have r := opd_rel c.t k1
    rw [hp] at r
    obtain ⟨rb, ob, m1, m2⟩ := r.ptr_inv
    split at k2
    · rename_i fs hu
      split at k2
      · rename_i f hf
        simp only [Bool.and_eq_true, beq_iff_eq] at k2
        obtain ⟨rfl, k3⟩ := k2
        split at k3
        · rename_i ti hi
          simp only [bne_iff_ne, ne_eq] at k3
          simp only [m2, Instr.fieldAt, Instr.sureAddr, fieldPlace, Sem.run_bind, Sem.run_pure, Result.andThen_ok, run_underlying hu, hf, run_sizeOf' hi, if_neg k3, add_none]
          refine OpPost.still c.sim ?_
          rw [Nat.add_assoc]
          exact .ptr m1
        · cases k3
      · cases k2
    · cases k2
  · cases ok

theorem elem_u {t e} (h : elemOf' P t = some e) : P.underlying t = some (.slice e) := by
  unfold elemOf' at h
  split at h
  · rename_i e' hu; injection h with h; rw [hu, h]
  · cases h

theorem size_i {t n} (h : okSize P t n = true) : ∃ i, P.info? t = some i ∧ i.size = n := by
  unfold okSize at h
  split at h
  · rename_i i hi; exact ⟨i, hi, by simpa using h⟩
  · cases h

theorem s_iaddr {esz x i} (c : Ctx fl base rbase μ h w s a) (ok : okOp P o.op (.iaddr esz x i) = true) (e : opK C fl s h (.iaddr esz x i) K0 = some (v, h1)) :
    OpPost fl base rbase μ h w v h1 ((execOp a.eval o).run P w) := by
  simp only [opK] at e
  obtain ⟨⟨ma, ml, mc⟩, hm, e⟩ := asSl_some e
  obtain ⟨n, hn, e⟩ := asInt_some e
  unfold idx at e
  simp only at e hm
  split at e
  · rename_i p _
    split at e
    · rename_i h0
      split at e
      · rename_i hlt
        simp only [K0, Option.some.injEq, Prod.mk.injEq] at e
        obtain ⟨rfl, rfl⟩ := e
        simp only [okOp] at ok
        unfold execOp
        split at ok
        · rename_i t x' i' hx; rw [hx]
          simp only [Bool.and_eq_true] at ok
          obtain ⟨⟨k1, k2⟩, k3⟩ := ok
          have r1 := opd_rel c.t k1
          have r2 := opd_rel c.t k2
          rw [hm] at r1; rw [hn] at r2
          split at k3
          · rename_i ee hee
            obtain ⟨ti, hi, rfl⟩ := size_i k3
            have hu := elem_u hee
            have hreal : ∃ rb ob c', μ p.block = some (rb, ob) ∧ a.eval x' = .slice (some ⟨rb, ob + p.off, none⟩) ml c' := by
              revert r1
              generalize a.eval x' = q
              intro r1
              cases r1 with
              | slice g1 g2 g3 => exact ⟨_, _, _, g1, rfl⟩
              | sliceU g1 g2 g3 g4 =>
                rcases g2 with g2 | g2
                · omega
                · subst g2; exact ⟨_, _, _, g1, rfl⟩
            obtain ⟨rb, ob, c', q1, q2⟩ := hreal
            have hbd : 0 ≤ n ∧ n < (ml : Int) := ⟨h0, hlt⟩
            simp only [q2, r2.int_inv, Instr.indexAt, asIntOf, Sem.run_bind, Sem.run_pure, Result.andThen_ok, run_underlying hu, if_pos hbd, run_sizeOf' hi, add_none]
            refine OpPost.still c.sim ?_
            rw [Nat.add_assoc]
            exact .ptr q1
          · cases k3
        · cases ok
      · cases e
    · cases e
  · cases e

theorem args1 {args : Array Operand} {x} (h : args.toList = [x]) : args = #[x] := by apply Array.ext'; rw [h]
theorem args2 {args : Array Operand} {x y} (h : args.toList = [x, y]) : args = #[x, y] := by apply Array.ext'; rw [h]

theorem s_len {y} (c : Ctx fl base rbase μ h w s a) (ok : okOp P o.op (.len y) = true) (e : opK C fl s h (.len y) K0 = some (v, h1)) :
    OpPost fl base rbase μ h w v h1 ((execOp a.eval o).run P w) := by
  simp only [opK] at e
  obtain ⟨m, hm, e⟩ := asSl_some e
  simp only [K0, Option.some.injEq, Prod.mk.injEq] at e
  obtain ⟨rfl, rfl⟩ := e
  simp only [okOp] at ok
  unfold execOp
  split at ok
  · rename_i args tys hx; rw [hx]
    split at ok
    · rename_i x t ha ht
      have ha := args1 ha
      have ht : tys = #[t] := by apply Array.ext'; rw [ht]
      subst ha; subst ht
      simp only [Bool.and_eq_true] at ok
      obtain ⟨k1, kt⟩ := ok
      have r1 := opd_rel c.t k1
      rw [hm] at r1
      obtain ⟨b', c', q1, q2⟩ := VRel.slice_len (s := m) r1
      obtain ⟨ee, hee⟩ := Option.isSome_iff_exists.1 kt
      have hu := elem_u hee
      have hr : (Builtin.len_ #[t] o.type #[Value.slice b' m.l c']).run P w = .ok (.int .i64 m.l) w := by
        simp [Builtin.len_, run_underlying hu, goInt]
      simp only [resolve, Sem.run_bind, Sem.run_pure, Result.andThen_ok, invoke, builtin, List.map_toArray, List.map_cons, List.map_nil, q1, hr]
      exact OpPost.still c.sim (.int _ _)
    · cases ok
  · cases ok

theorem s_sidx {k bs y} (c : Ctx fl base rbase μ h w s a) (ok : okOp P o.op (.sidx k bs y) = true) (e : opK C fl s h (.sidx k bs y) K0 = some (v, h1)) :
    OpPost fl base rbase μ h w v h1 ((execOp a.eval o).run P w) := by
  simp only [opK] at e
  obtain ⟨n, hn, e⟩ := asInt_some e
  split at e
  · rename_i h0
    split at e
    · rename_i b hb
      simp only [K0, Option.some.injEq, Prod.mk.injEq] at e
      obtain ⟨rfl, rfl⟩ := e
      simp only [okOp] at ok
      unfold execOp
      split at ok
      · rename_i t sb x hx; rw [hx]
        simp only [Bool.and_eq_true, decide_eq_true_eq] at ok
        obtain ⟨⟨k1, kt⟩, rfl⟩ := ok
        have r := opd_rel c.t k1
        rw [hn] at r
        split at kt
        · rename_i hu
          have hev : a.eval (.const (.string sb)) = .string sb := rfl
          obtain ⟨u, hu1, hu2⟩ : ∃ u, sb[n.toNat]? = some u ∧ u.toNat = b := by
            rw [List.getElem?_map, Option.map_eq_some_iff] at hb
            obtain ⟨u, h1, h2⟩ := hb
            obtain ⟨hl, h3⟩ := List.getElem?_eq_some_iff.1 h1
            have hl' : n.toNat < sb.size := by simpa using hl
            refine ⟨sb[n.toNat], getElem?_pos sb n.toNat hl', ?_⟩
            rw [← h2, ← h3]; rfl
          have hr : (Instr.index t (.string sb) (.int k n)).run P w = .ok (.int .u8 b) w := by
            simp only [Instr.index, asIntOf, Sem.run_bind, Sem.run_pure, Result.andThen_ok, run_underlying hu, if_pos h0, hu1, hu2]
          simp only [hev, r.int_inv, Sem.run_bind, hr, Result.andThen_ok, Sem.run_pure]
          exact OpPost.still c.sim (.int _ _)
        · cases kt
      · cases ok
    · cases e
  · cases e

theorem s_mm {isMax x y} (c : Ctx fl base rbase μ h w s a) (ok : okOp P o.op (.mm isMax x y) = true) (e : opK C fl s h (.mm isMax x y) K0 = some (v, h1)) :
    OpPost fl base rbase μ h w v h1 ((execOp a.eval o).run P w) := by
  simp only [opK] at e
  obtain ⟨m, hm, e⟩ := asInt_some e
  obtain ⟨n, hn, e⟩ := asInt_some e
  simp only [K0, Option.some.injEq, Prod.mk.injEq] at e
  obtain ⟨rfl, rfl⟩ := e
  simp only [okOp] at ok
  unfold execOp
  split at ok
  · rename_i b args tys hx; rw [hx]
    split at ok
    · rename_i x' y' ha
      have ha := args2 ha
      subst ha
      simp only [Bool.and_eq_true] at ok
      obtain ⟨⟨k0, k1⟩, k2⟩ := ok
      have r1 := opd_rel c.t k1
      have r2 := opd_rel c.t k2
      rw [hm] at r1; rw [hn] at r2
      have r1 := r1.int_inv
      have r2 := r2.int_inv
      cases isMax with
      | true =>
        simp only [if_true] at k0
        split at k0
        · simp only [resolve, Sem.run_bind, Sem.run_pure, Result.andThen_ok, invoke, builtin, List.map_toArray, List.map_cons, List.map_nil, r1, r2, Builtin.max_, List.foldlM_cons, List.foldlM_nil, Builtin.max2, if_true]
          exact OpPost.still c.sim (.int _ _)
        · cases k0
      | false =>
        simp only [Bool.false_eq_true, if_false] at k0
        split at k0
        · simp only [resolve, Sem.run_bind, Sem.run_pure, Result.andThen_ok, invoke, builtin, List.map_toArray, List.map_cons, List.map_nil, r1, r2, Builtin.min_, List.foldlM_cons, List.foldlM_nil, Builtin.min2, Bool.false_eq_true, if_false]
          exact OpPost.still c.sim (.int _ _)
        · cases k0
    · cases ok
  · cases ok
end
end Go.Abs
