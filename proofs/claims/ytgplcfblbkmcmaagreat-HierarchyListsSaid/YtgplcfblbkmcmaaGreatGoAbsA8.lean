/- Each operation of the abstract machine is the machine's own: appends and copies. -/
import Derived.Test.YtgplcfblbkmcmaaGreatGoAbsA7
namespace Go.Abs

section
variable {P : Program} {C : Callee} {fl base rbase : Nat} {μ : Mu} {h h1 : AH} {w : World} {s : List Value} {a : Act} {v : Value} {o : Oper}

theorem run_append_fit (t ty e : TypeId) (i : TypeInfo) (ht : P.underlying t = some (.slice e)) (hi : P.info? e = some i) (b : Addr) (sLen sCap n c : Nat) (x : Option Addr) (new : List Value) {w' : World}
    (hx : (Builtin.firstCells i.size n (.slice x n c)).run P w = .ok new.toArray w) (hroom : sLen + n ≤ sCap)
    (hst : (storeCells (b.add (sLen * i.size)) new).run P w = .ok () w') :
    (Builtin.append_ #[t, t] ty #[.slice (some b) sLen sCap, .slice x n c]).run P w = .ok (.slice (some b) (sLen + n) sCap) w' := by
  simp [Builtin.append_, run_underlying ht, run_sizeOf' hi, Builtin.lenOf, hroom, hx, hst]

theorem run_append_none (t ty e : TypeId) (i : TypeInfo) (ht : P.underlying t = some (.slice e)) (hi : P.info? e = some i) (b : Option Addr) (sLen sCap c : Nat) (x : Option Addr) (hroom : sLen ≤ sCap) :
    (Builtin.append_ #[t, t] ty #[.slice b sLen sCap, .slice x 0 c]).run P w = .ok (.slice b sLen sCap) w := by
  have hx : (Builtin.firstCells i.size 0 (.slice x 0 c)).run P w = .ok #[] w := by
    cases x with
    | none => exact run_firstCells_none w _ _ _ _
    | some x => exact run_firstCells_some w i.size 0 x 0 c [] (by simp) (by simp)
  cases b <;> simp [Builtin.append_, run_underlying ht, run_sizeOf' hi, Builtin.lenOf, hroom, hx, storeCells]

theorem zero_z {t z} (h : (match zeroOf P t with | some z' => z'.length == z | none => false) = true) {i : TypeInfo} (hi : P.info? t = some i) : ∃ zv, i.zero = some zv ∧ zv.cells.size = z := by
  unfold zeroOf at h
  rw [hi] at h
  simp only at h
  split at h
  · rename_i z' hz
    split at hz
    · rename_i zv hzv
      injection hz with hz; subst hz
      exact ⟨zv, hzv, by simpa using h⟩
    · cases hz
  · cases h

theorem Ctx.vrel_read {a1 : Option Addr} {l c1 n : Nat} {v'} (sm : Sim base rbase μ h w) (r : VRel μ (szOf w) (.slice a1 l c1) v') (hl : 0 < l) :
    ∃ b o st rb off c', a1 = some ⟨b, o, st⟩ ∧ μ b = some (rb, off) ∧ v' = .slice (some ⟨rb, off + o, none⟩) l c' := by
  rcases r.slice_inv with ⟨_, rfl, _, _⟩ | ⟨b, ob, st', rb, off, rfl, g1, g2, g3, rfl⟩ | ⟨b, ob, st', rb, off, o', c', es, rfl, rfl, g1, g2, g3, g4, rfl⟩
  · omega
  · exact ⟨_, _, _, _, _, _, rfl, g1, rfl⟩
  · rcases g2 with g2 | g2
    · omega
    · subst g2; exact ⟨_, _, _, _, _, _, rfl, g1, rfl⟩

theorem Sim.drew (sm : Sim base rbase μ h w) : Post fl base rbase μ h w μ h w.drew := Post.heap sm rfl rfl rfl rfl

theorem grown_cells {e : TypeId} (zv : Value) (need old esz : Nat) (hz : zv.cells.size = esz) (xs : List Value) (hl : xs.length = need * esz) :
    (xs.toArray ++ Builtin.zeroCells zv.cells (grownCap w need old e - need)).size = grownCap w need old e * esz := by
  have h1 := grownCap_ge w need old e
  simp [Builtin.zeroCells, hz, hl]
  rw [← Nat.add_mul]; congr 1; omega

theorem s_append {esz bytes y z} (c : Ctx fl base rbase μ h w s a) (hf : h.next < h1.next → μ h.next = none) (ok : okOp P o.op (.append esz bytes y z) = true) (e : opK C fl s h (.append esz bytes y z) K0 = some (v, h1)) :
    OpPost fl base rbase μ h w v h1 ((execOp a.eval o).run P w) := by
  simp only [opK] at e
  obtain ⟨⟨sa, sl, sc⟩, hs, e⟩ := asSl_some e
  obtain ⟨⟨xa, xl, xc⟩, hx, e⟩ := asSl_some e
  change ev s y = .slice sa sl sc at hs
  change ev s z = .slice xa xl xc at hx
  simp only [okOp] at ok
  unfold execOp
  split at ok
  · rename_i args tys ho; rw [ho]
    split at ok
    · rename_i y' z' t t' ha ht
      have ha := args2 ha
      subst ha
      simp only [Bool.and_eq_true, decide_eq_true_eq] at ok
      obtain ⟨⟨⟨⟨k1, k2⟩, kpos⟩, kbp⟩, k3⟩ := ok
      split at k3
      · rename_i ee hee
        have hu := elem_u hee
        simp only [Bool.and_eq_true, beq_iff_eq] at k3
        obtain ⟨⟨⟨ks, kb⟩, rfl⟩, kz⟩ := k3
        have ht : tys = #[t', t'] := by apply Array.ext'; rw [ht]
        subst ht
        obtain ⟨i, hi, rfl⟩ := size_i ks
        have hby : i.bytes = bytes := by
          unfold okBytes at kb
          rw [hi] at kb; simpa using kb
        obtain ⟨zv, hzv, hzs⟩ := zero_z kz hi
        have r1 := opd_rel c.t k1
        have r2 := opd_rel c.t k2
        rw [hs] at r1; rw [hx] at r2
        simp only [resolve, Sem.run_bind, Sem.run_pure, Result.andThen_ok, invoke, builtin, List.map_toArray, List.map_cons, List.map_nil]
        revert r1 r2
        generalize a.eval y' = q1
        generalize a.eval z' = q2
        intro r1 r2
        clear hs hx
        unfold apnd at e
        simp only at e
        split at e
        · -- nothing is appended
          rename_i h0
          subst h0
          simp only [K0, Option.some.injEq, Prod.mk.injEq] at e
          obtain ⟨rfl, rfl⟩ := e
          have hx2 : ∃ xb xcc, q2 = .slice xb 0 xcc := by
            rcases r2.slice_inv with ⟨rfl, _, rfl, rfl⟩ | ⟨b, ob, st', rb, off, rfl, g1, g2, g3, rfl⟩ | ⟨b, ob, st', rb, off, o', c', es, rfl, rfl, g1, g2, g3, g4, rfl⟩
            · exact ⟨_, _, rfl⟩
            · exact ⟨_, _, rfl⟩
            · exact ⟨_, _, rfl⟩
          obtain ⟨xb, xcc, rfl⟩ := hx2
          have hs2 : ∃ sb scc, q1 = .slice sb sl scc ∧ sl ≤ scc := by
            rcases r1.slice_inv with ⟨rfl, rfl, rfl, rfl⟩ | ⟨b, ob, st', rb, off, rfl, g1, g2, g3, rfl⟩ | ⟨b, ob, st', rb, off, o', c', es, rfl, rfl, g1, g2, g3, g4, rfl⟩
            · exact ⟨_, _, rfl, Nat.le_refl _⟩
            · exact ⟨_, _, rfl, g3⟩
            · exact ⟨_, _, rfl, g3⟩
          obtain ⟨sb, scc, rfl, hle⟩ := hs2
          rw [run_append_none t' o.type ee i hu hi sb sl scc xcc xb hle]
          exact OpPost.still c.sim r1
        · rename_i h0
          have hxl : 0 < xl := by omega
          split at e
          · rename_i hroom
            obtain ⟨bx, ox, stx, rbx, offx, cx, rfl, mx, rfl⟩ := Ctx.vrel_read (n := 0) c.sim r2 hxl
            obtain ⟨xs, hxs1, e2, _, hxs2⟩ := rdN_some e
            clear e
            obtain ⟨xs', rx, hxs3⟩ := c.sim.loads mx xs ox hxs2
            have hl' : xs'.length = xl * i.size := by rw [← rx.1, hxs1]
            have hnews : ∀ j u, xs'[j]? = some u → w.cell? ((⟨rbx, offx + ox, none⟩ : Addr).add j) = some u := fun j u hu => by rw [add_none]; exact hxs3 j u hu
            have hfirst := run_firstCells_some (P := P) w i.size xl ⟨rbx, offx + ox, none⟩ xl cx xs' hl' hnews
            have hsmall : (sl + xl) * bytes ≤ 140737488355328 := by simpa [ROOM] using hroom
            have hsn : sl + xl ≤ 140737488355328 := Nat.le_trans (Nat.le_mul_of_pos_right _ kbp) hsmall
            rcases r1.slice_inv with ⟨rfl, rfl, rfl, rfl⟩ | ⟨b, ob, st', rb, off, rfl, g1, g2, g3, rfl⟩ | ⟨b, ob, st', rb, off, o', c', es, rfl, rfl, g1, g2, g3, g4, rfl⟩
            · -- onto nil
              simp only [and_self, if_true, K0, Option.some.injEq, Prod.mk.injEq] at e2
              obtain ⟨rfl, rfl⟩ := e2
              have hr := run_append_nil (P := P) w t' o.type ee i zv hu hi hzv ⟨rbx, offx + ox, none⟩ xl cx xs' hl' hnews hxl (by omega) (by rw [hby]; simp only [Nat.zero_add] at hsmall; omega)
              rw [hr]
              simp only [Result.andThen_ok]
              have p1 := c.sim.drew (fl := fl)
              have p2 := Post.alloc (fl := fl) (c := xs'.toArray ++ Builtin.zeroCells zv.cells (grownCap w xl 0 ee - xl)) (t := ee) p1.sim c.hn (by exact c.hr) (hf (Nat.lt_succ_self _)) (cs := xs) (fun j u hu => by
                obtain ⟨u', q1, q2⟩ := rx.get hu
                refine ⟨u', ?_, q2⟩
                rw [Array.getElem?_append_left (by have := (List.getElem?_eq_some_iff.1 q1).1; simpa using this)]
                simpa using q1)
              refine ⟨_, _, _, .inl rfl, p1.trans p2 (Nat.le_refl _), ?_⟩
              have hn := heap_alloc_new w.drew (.cells (xs'.toArray ++ Builtin.zeroCells zv.cells (grownCap w xl 0 ee - xl)) ee)
              have hsz := szOf_cells hn
              have hg := grown_cells (w := w) (e := ee) zv xl 0 i.size hzs xs' hl'
              exact .sliceU (o' := 0) (ext_same _ _ _) (.inr rfl) (grownCap_ge _ _ _ _) (by rw [Nat.zero_add]; exact Nat.le_of_eq (by rw [← hg]; exact hsz.symm))
            · -- the capacity is known
              simp only at e2
              rw [if_pos g2] at e2
              split at e2
              · rename_i hfit
                obtain ⟨cc, h2, w1, w2, w3, w4, w5⟩ := st_sound (P := P) (p := ⟨b, ob + sl * i.size, none⟩) c.sim c.hb e2 rx g1
                simp only [K0, Option.some.injEq, Prod.mk.injEq] at w3
                obtain ⟨rfl, rfl⟩ := w3
                have hr := run_append_fit (P := P) t' o.type ee i hu hi ⟨rb, off + ob, none⟩ sl sc xl cx (some ⟨rbx, offx + ox, none⟩) xs' hfirst hfit (by rw [add_none, Nat.add_assoc]; exact w1)
                rw [hr]
                simp only [Result.andThen_ok]
                refine ⟨_, _, _, .inl rfl, w2, ?_⟩
                exact .slice g1 g2 hfit
              · rename_i hfit
                obtain ⟨ys, hys1, e2, _, hys2⟩ := rdN_some e2
                simp only [K0, Option.some.injEq, Prod.mk.injEq] at e2
                obtain ⟨rfl, rfl⟩ := e2
                obtain ⟨ys', ry, hys3⟩ := c.sim.loads g1 ys ob hys2
                have hly : ys'.length = sl * i.size := by rw [← ry.1, hys1]
                have hr := run_append_grow (P := P) w t' o.type ee i zv hu hi hzv ⟨rb, off + ob, none⟩ sl sc ys' hly (fun j u hu => by rw [add_none]; exact hys3 j u hu) ⟨rbx, offx + ox, none⟩ xl cx xs' hl' hnews (by omega) (by omega) (growslice_fits (by omega) (by rw [hby]; exact hsmall))
                rw [hr]
                simp only [Result.andThen_ok]
                have p1 := c.sim.drew (fl := fl)
                have rr := ry.append rx
                have p2 := Post.alloc (fl := fl) (c := ys'.toArray ++ xs'.toArray ++ Builtin.zeroCells zv.cells (grownCap w (sl + xl) sc ee - (sl + xl))) (t := ee) p1.sim c.hn (by exact c.hr) (hf (Nat.lt_succ_self _)) (cs := ys ++ xs) (fun j u hu => by
                  obtain ⟨u', q1, q2⟩ := rr.get hu
                  refine ⟨u', ?_, q2⟩
                  have hlt := (List.getElem?_eq_some_iff.1 q1).1
                  rw [Array.getElem?_append_left (by simpa using hlt)]
                  simpa using q1)
                refine ⟨_, _, _, .inl rfl, p1.trans p2 (Nat.le_refl _), ?_⟩
                have hn := heap_alloc_new w.drew (.cells (ys'.toArray ++ xs'.toArray ++ Builtin.zeroCells zv.cells (grownCap w (sl + xl) sc ee - (sl + xl))) ee)
                have hsz := szOf_cells hn
                have hg := grown_cells (w := w) (e := ee) zv (sl + xl) sc i.size hzs (ys' ++ xs') (by rw [List.length_append, hly, hl', Nat.add_mul])
                rw [← List.append_toArray] at hg
                exact .sliceU (o' := 0) (ext_same _ _ _) (.inr rfl) (grownCap_ge _ _ _ _) (by rw [Nat.zero_add]; exact Nat.le_of_eq (by rw [← hg]; exact hsz.symm))
            · -- the capacity is not known
              simp only at e2
              rw [if_neg (by omega)] at e2
              split at e2
              · rename_i hk
                obtain ⟨hk1, hk2, hk3⟩ := hk
                change fl ≤ b at hk1
                have hes : es = i.size := by omega
                subst hes
                obtain ⟨ys, hys1, e2, ⟨cs, hcs⟩, hys2⟩ := rdN_some e2
                simp only [K0, Option.some.injEq, Prod.mk.injEq] at e2
                obtain ⟨rfl, rfl⟩ := e2
                obtain ⟨ys', ry, hys3⟩ := c.sim.loads g1 ys ob hys2
                have hly : ys'.length = sl * i.size := by rw [← ry.1, hys1]
                have hys4 : ∀ (j : Nat) u, ys'[j]? = some u → w.cell? ⟨rb, o' + j, none⟩ = some u := by
                  intro j u hu
                  have hjl := (List.getElem?_eq_some_iff.1 hu).1
                  rcases g2 with g2 | g2
                  · subst g2; simp at hly; subst hly; simp at hjl
                  · subst g2; exact hys3 j u hu
                have rr := ry.append rx
                by_cases hfit : sl + xl ≤ c'
                · -- there is room
                  obtain ⟨_, cur, tt, hg⟩ := c.sim.own b cs rb off (Nat.le_trans c.hb hk1) hcs g1
                  have hcs2 := szOf_cells hg
                  rw [hcs2] at g4
                  have hmul : (sl + xl) * i.size ≤ c' * i.size := Nat.mul_le_mul_right _ hfit
                  have hmul2 : (sl + xl) * i.size = sl * i.size + xl * i.size := Nat.add_mul _ _ _
                  have hst := run_storeCells_at (P := P) rb (o' + sl * i.size) tt xs' 0 cur w hg (by omega) (rx.one hk3)
                  simp only [Nat.add_zero] at hst
                  have hr := run_append_fit (P := P) t' o.type ee i hu hi ⟨rb, o', none⟩ sl c' xl cx (some ⟨rbx, offx + ox, none⟩) xs' hfirst hfit (by rw [add_none]; exact hst)
                  rw [hr]
                  simp only [Result.andThen_ok]
                  refine ⟨_, _, _, .inl rfl, Post.onto (o' := o') c.sim hk1 c.hb hcs g1 (hf (Nat.lt_succ_self _)) hg ?_ ?_, ?_⟩
                  · simp; omega
                  · intro j u hu
                    obtain ⟨u', q1, q2⟩ := rr.get hu
                    refine ⟨u', ?_, q2⟩
                    have hlt := (List.getElem?_eq_some_iff.1 q1).1
                    simp only [List.length_append] at hlt
                    simp only [List.getElem?_toArray]
                    by_cases hj : j < ys'.length
                    · rw [List.getElem?_append_left hj] at q1
                      have q3 := hys4 j u' q1
                      rw [cell_cells hg] at q3
                      rw [List.append_assoc, List.getElem?_append_left (by simp; omega), List.getElem?_take, if_pos (by omega)]
                      simpa using q3
                    · rw [List.getElem?_append_right (by omega)] at q1
                      rw [List.append_assoc, List.getElem?_append_right (by simp; omega), List.getElem?_append_left (by simp; omega)]
                      have e1 : o' + j - (List.take (o' + sl * i.size) cur.toList).length = j - ys'.length := by simp; omega
                      rw [e1]; exact q1
                  · refine .sliceU (o' := o') (ext_same _ _ _) (.inr rfl) hfit ?_
                    have hn := setRow_heap w rb cur (List.take (o' + sl * i.size) cur.toList ++ xs' ++ List.drop (o' + sl * i.size + xs'.length) cur.toList).toArray tt (0, 0) hg
                    rw [szOf_cells hn]
                    simp; omega
                · -- it grows
                  have hr := run_append_grow (P := P) w t' o.type ee i zv hu hi hzv ⟨rb, o', none⟩ sl c' ys' hly (fun j u hu => by rw [add_none]; exact hys4 j u hu) ⟨rbx, offx + ox, none⟩ xl cx xs' hl' hnews (by omega) (by omega) (growslice_fits (by omega) (by rw [hby]; exact hsmall))
                  rw [hr]
                  simp only [Result.andThen_ok]
                  have p1 := c.sim.drew (fl := fl)
                  have p15 := Post.kill (fl := fl) p1.sim b hk1
                  have p2 := Post.alloc (fl := fl) (c := ys'.toArray ++ xs'.toArray ++ Builtin.zeroCells zv.cells (grownCap w (sl + xl) c' ee - (sl + xl))) (t := ee) p15.sim c.hn (by exact c.hr) (hf (Nat.lt_succ_self _)) (cs := ys ++ xs) (fun j u hu => by
                    obtain ⟨u', q1, q2⟩ := rr.get hu
                    refine ⟨u', ?_, q2⟩
                    have hlt := (List.getElem?_eq_some_iff.1 q1).1
                    rw [Array.getElem?_append_left (by simpa using hlt)]
                    simpa using q1)
                  refine ⟨_, _, _, .inl rfl, p1.trans (p15.trans p2 (Nat.le_refl _)) (Nat.le_refl _), ?_⟩
                  have hn := heap_alloc_new w.drew (.cells (ys'.toArray ++ xs'.toArray ++ Builtin.zeroCells zv.cells (grownCap w (sl + xl) c' ee - (sl + xl))) ee)
                  have hsz := szOf_cells hn
                  have hg := grown_cells (w := w) (e := ee) zv (sl + xl) c' i.size hzs (ys' ++ xs') (by rw [List.length_append, hly, hl', Nat.add_mul])
                  rw [← List.append_toArray] at hg
                  exact .sliceU (o' := 0) (ext_same _ _ _) (.inr rfl) (grownCap_ge _ _ _ _) (by rw [Nat.zero_add]; exact Nat.le_of_eq (by rw [← hg]; exact hsz.symm))
              · cases e2
          · cases e
      · cases k3
    · cases ok
  · cases ok

theorem s_copy {esz y z} (c : Ctx fl base rbase μ h w s a) (ok : okOp P o.op (.copy esz y z) = true) (e : opK C fl s h (.copy esz y z) K0 = some (v, h1)) :
    OpPost fl base rbase μ h w v h1 ((execOp a.eval o).run P w) := by
  simp only [opK] at e
  obtain ⟨⟨sa, sl, sc⟩, hs, e⟩ := asSl_some e
  obtain ⟨⟨xa, xl, xc⟩, hx, e⟩ := asSl_some e
  change ev s y = .slice sa sl sc at hs
  change ev s z = .slice xa xl xc at hx
  simp only [okOp] at ok
  unfold execOp
  split at ok
  · rename_i args tys ho; rw [ho]
    split at ok
    · rename_i y' z' t tt ha ht
      have ha := args2 ha
      subst ha
      simp only [Bool.and_eq_true, decide_eq_true_eq] at ok
      obtain ⟨⟨⟨k1, k2⟩, kpos⟩, k3⟩ := ok
      split at k3
      · rename_i ee hee
        have hu := elem_u hee
        obtain ⟨i, hi, rfl⟩ := size_i k3
        have ht0 : tys[0]? = some t := by
          have : tys.toList[0]? = some t := by rw [ht]; rfl
          simpa using this
        have r1 := opd_rel c.t k1
        have r2 := opd_rel c.t k2
        rw [hs] at r1; rw [hx] at r2
        simp only [resolve, Sem.run_bind, Sem.run_pure, Result.andThen_ok, invoke, builtin, List.map_toArray, List.map_cons, List.map_nil]
        revert r1 r2
        generalize a.eval y' = q1
        generalize a.eval z' = q2
        intro r1 r2
        clear hs hx
        unfold cpy at e
        simp only at e
        have hd : ∃ db dc, q1 = .slice db sl dc := by
          rcases r1.slice_inv with ⟨rfl, rfl, rfl, rfl⟩ | ⟨b, ob, st', rb, off, rfl, g1, g2, g3, rfl⟩ | ⟨b, ob, st', rb, off, o', c', es, rfl, rfl, g1, g2, g3, g4, rfl⟩
          · exact ⟨_, _, rfl⟩
          · exact ⟨_, _, rfl⟩
          · exact ⟨_, _, rfl⟩
        have hx : ∃ db dc, q2 = .slice db xl dc := by
          rcases r2.slice_inv with ⟨rfl, rfl, rfl, rfl⟩ | ⟨b, ob, st', rb, off, rfl, g1, g2, g3, rfl⟩ | ⟨b, ob, st', rb, off, o', c', es, rfl, rfl, g1, g2, g3, g4, rfl⟩
          · exact ⟨_, _, rfl⟩
          · exact ⟨_, _, rfl⟩
          · exact ⟨_, _, rfl⟩
        split at e
        · rename_i h0
          simp only [K0, Option.some.injEq, Prod.mk.injEq] at e
          obtain ⟨rfl, rfl⟩ := e
          obtain ⟨db, dc, rfl⟩ := hd
          obtain ⟨xb, xcc, rfl⟩ := hx
          have hx : (Builtin.firstCells i.size 0 (.slice xb xl xcc)).run P w = .ok #[] w := by
            cases xb with
            | none => exact run_firstCells_none w _ _ _ _
            | some x => exact run_firstCells_some w i.size 0 x xl xcc [] (by simp) (by simp)
          have hr : (Builtin.copy_ tys o.type #[.slice db sl dc, .slice xb xl xcc]).run P w = .ok (.int .i64 0) w := by
            have h0' : Nat.min xl sl = 0 := h0
            cases db <;> simp [Builtin.copy_, ht0, run_underlying hu, run_sizeOf' hi, Builtin.lenOf, h0', hx, storeCells, goInt]
          rw [hr]
          exact OpPost.still c.sim (.int _ _)
        · rename_i h0
          have hm : min xl sl ≤ xl := Nat.min_le_left _ _
          have hm2 : min xl sl ≤ sl := Nat.min_le_right _ _
          obtain ⟨bx, ox, stx, rbx, offx, cx, rfl, mx, rfl⟩ := Ctx.vrel_read (n := 0) c.sim r2 (by omega)
          obtain ⟨bd, od, std, rbd, offd, cd, rfl, md, rfl⟩ := Ctx.vrel_read (n := 0) c.sim r1 (by omega)
          obtain ⟨xs, hxs1, e2, _, hxs2⟩ := rdN_some e
          clear e
          simp only at e2
          obtain ⟨xs', rx, hxs3⟩ := c.sim.loads mx xs ox hxs2
          have hl' : xs'.length = min xl sl * i.size := by rw [← rx.1, hxs1]
          have hfirst := run_firstCells_some (P := P) w i.size (min xl sl) ⟨rbx, offx + ox, none⟩ xl cx xs' hl' (fun j u hu => by rw [add_none]; exact hxs3 j u hu)
          obtain ⟨cc, h2, w1, w2, w3, w4, w5⟩ := st_sound (P := P) (p := ⟨bd, od, std⟩) c.sim c.hb e2 rx md
          simp only [K0, Option.some.injEq, Prod.mk.injEq] at w3
          obtain ⟨rfl, rfl⟩ := w3
          have hr : (Builtin.copy_ tys o.type #[.slice (some ⟨rbd, offd + od, none⟩) sl cd, .slice (some ⟨rbx, offx + ox, none⟩) xl cx]).run P w = .ok (.int .i64 (min xl sl : Nat)) (w.setRow rbd cc) := by
            have hfirst' : (Builtin.firstCells i.size (Nat.min xl sl) (.slice (some ⟨rbx, offx + ox, none⟩) xl cx)).run P w = .ok xs'.toArray w := hfirst
            have hmm : Nat.min xl sl = min xl sl := rfl
            simp [Builtin.copy_, ht0, run_underlying hu, run_sizeOf' hi, Builtin.lenOf, hfirst', w1, goInt, hmm]
          rw [hr]
          simp only [Result.andThen_ok]
          exact ⟨_, _, _, .inl rfl, w2, .int _ _⟩
      · cases k3
    · cases ok
  · cases ok
end
end Go.Abs
