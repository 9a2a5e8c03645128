/- A region that draws its order: one operation more; the whole region. -/
import Derived.Test.YtgplcfblbkmcmaaGreatGoAbsA13
namespace Go.Abs

section
variable {P : Program} {C : Callee} {fl base rbase : Nat} {ops : Array Oper} {al : List AOper} {S : Nat → List Value} {H : Nat → AH} {V : Nat → Value} {d : DR P C fl base rbase ops al S H V}
variable {μ0 : Mu} {w0 : World} {a0 : Act} {hend : Nat} {L : Array Bool} {a : Act} {w : World} {μ : Mu} {sE : List Value} {p : Nat}

/-- One operation more. -/
theorem DInv.step (v : DInv d μ0 w0 a0 hend L a w μ sE p) (hlen : sE.length = (S 0).length) {j : Nat} {o : Oper} (ho : ops[j]? = some o) (hj : ¬ L.getD j false = true)
    (hedge : ∀ e ∈ o.after.toList, Region.binds .any e = true → L.getD e.on false = true) {Q : Exit → Act → World → Prop} {K : Act → World → Prop}
    (hK : ∀ a' w' μ' sE' p', DInv d μ0 w0 a0 hend (L.setIfInBounds j true) a' w' μ' sE' p' → sE'.length = (S 0).length → K a' w') : wpOp P ops Q j K a w := by
  have hjo : j < ops.size := (Array.getElem?_eq_some_iff.1 ho).1
  have hjl : j < al.length := by rw [d.len]; exact hjo
  obtain ⟨x, hx⟩ : ∃ x, al[j]? = some x := ⟨al[j], List.getElem?_eq_getElem hjl⟩
  have hok := d.ok j o x ho hx
  have hdst : o.dst = x.dst := by
    unfold okA at hok
    simp only [Bool.and_eq_true, decide_eq_true_eq] at hok
    exact hok.1.1
  have hdc : DC ops fun i => i = j ∨ L.getD i false = true := by
    intro k o' ho' hk e he hb
    rcases hk with rfl | hk
    · rw [ho] at ho'; injection ho' with ho'; subst ho'
      exact .inr (hedge e he hb)
    · exact .inr (v.dc k o' ho' hk e he hb)
  have hset : ∀ i, ((L.setIfInBounds j true).getD i false = true) ↔ (i = j ∨ L.getD i false = true) := fun i => setGet L j i (by rw [v.size]; exact hjo)
  have hag := v.agree hx hj hdc
  have hrun := d.run j x hx
  have hstep := d.step1 hx
  -- what every way leaves alike
  have finish : ∀ (v' : Value) (μ' : Mu) (w' : World) (p' : Nat), VRel μ' (szOf w') (V j) v' → LRel μ' (szOf w') sE a.tmps.toList → p' ≤ al.length →
      (∀ y, al[p']? = some y → isoH y ∧ ¬ (p' = j ∨ L.getD p' false = true)) → (∀ (i : Nat) y, i < p' → al[i]? = some y → isoH y → (i = j ∨ L.getD i false = true)) →
      Post fl base rbase μ0 (H 0) w0 μ' (H p') w' → (∀ i, i < al.length → i ≠ j → ¬ L.getD i false = true → Fresh μ' (H i).next (H (i + 1)).next) → Fresh μ' (H al.length).next hend → rbase ≤ w'.heap.size →
      K (a.put o.dst v') w' := by
    intro v' μ' w' p' hv ht hple hpat hplt hpost hfr hfe hr
    refine hK _ _ μ' (putT sE x.dst (V j)) p' { size := by simp [v.size], dc := ?_, dfr := ?_, t := ?_, cut := ?_, ple := hple, pat := ?_, plt := ?_, post := hpost, fresh := ?_, frend := hfe, hr := hr } ?_
    · intro k o' ho' hk e he hb
      rw [hset] at hk ⊢
      exact hdc k o' ho' hk e he hb
    · rw [put_defers]; exact v.dfr
    · rw [hdst]; exact put_rel ht hv _
    · intro t
      obtain ⟨m, h1, h2, h3, h4⟩ := v.cuts hx hj hlen hdc t
      exact ⟨m, h1, fun i y hy hyd hi => h2 i y hy hyd ((hset i).1 hi), fun i y hy hyd hi => h3 i y hy hyd fun h => hi ((hset i).2 h), h4⟩
    · intro y hy
      obtain ⟨h1, h2⟩ := hpat y hy
      exact ⟨h1, fun h => h2 ((hset p').1 h)⟩
    · intro i y hi hy hiso
      exact (hset i).2 (hplt i y hi hy hiso)
    · intro i hi hn
      have hn' : ¬ (i = j ∨ L.getD i false = true) := fun h => hn ((hset i).2 h)
      exact hfr i hi (fun h => hn' (.inl h)) (fun h => hn' (.inr h))
    · cases x.dst <;> simp [putT, hlen]
  by_cases hpure : x.op.pure = true
  · -- no memory
    have hHp := d.pureH hx hpure
    have hV : opV C fl x sE (H p) = some (V j, H p) := by
      rw [opV_agree hag]; exact (pure_opV hpure hrun.1).2 fl (H p)
    have hpfl := d.flH v.ple
    have c : Ctx (floorOf x fl (H p)) base rbase μ (H p) w sE a := ⟨v.post.sim, Nat.le_trans d.hb (floorOf_ge hpfl), floorOf_le hpfl, v.hr, v.t⟩
    refine wpOp_sound d.hC ho hok c hV (fun b h1 h2 => by omega) fun v' μ' w' hp hv => ?_
    have hmu : μ' = μ := funext fun b => hp.mu b (by omega)
    subst hmu
    have hp' := hp.floor (floorOf_ge (o := x) hpfl)
    refine finish v' μ' w' p hv (hp.lrel v.post.sim (fun b h1 h2 => by omega) v.t) v.ple ?_ ?_ (v.post.trans hp' (Nat.le_refl _)) ?_ v.frend (Nat.le_trans v.hr hp.hs)
    · intro y hy
      obtain ⟨h1, h2⟩ := v.pat y hy
      refine ⟨h1, fun h => ?_⟩
      rcases h with h | h
      · subst h; rw [hx] at hy; injection hy with hy; subst hy; have h3 := h1.1; rw [hpure] at h3; cases h3
      · exact h2 h
    · intro i y hi hy hiso; exact .inr (v.plt i y hi hy hiso)
    · intro i hi _ hn; exact v.fresh i hi hn
  · have hpf : x.op.pure = false := by simpa using hpure
    have hV : opV C fl x sE (H j) = some (V j, H (j + 1)) := by rw [opV_agree hag]; exact hrun.1
    have hfj : Fresh μ (H j).next (H (j + 1)).next := v.fresh j hjl hj
    by_cases hiso : x.iso = true
    · -- it comes alone
      have hpj : p = j := by
        rcases Nat.lt_trichotomy p j with h | h | h
        · obtain ⟨y, hy⟩ : ∃ y, al[p]? = some y := ⟨al[p], List.getElem?_eq_getElem (by omega)⟩
          obtain ⟨h1, h2⟩ := v.pat y hy
          have := d.ord _ hdc p j y x h hy hx (mustOrder_iso h1.1 hpf (.inr hiso)) (.inl rfl)
          rcases this with h3 | h3
          · omega
          · exact absurd h3 h2
        · exact h
        · exact absurd (v.plt j x h hx ⟨hpf, hiso⟩) hj
      subst hpj
      have hfloor : floorOf x fl (H p) = fl := by unfold floorOf; rw [if_pos hiso]
      have c : Ctx (floorOf x fl (H p)) base rbase μ (H p) w sE a := by rw [hfloor]; exact ⟨v.post.sim, d.hb, d.flH v.ple, v.hr, v.t⟩
      refine wpOp_sound d.hC ho hok c hV hfj fun v' μ' w' hp hv => ?_
      rw [hfloor] at hp
      obtain ⟨p', q1, q2, q3, q4⟩ := next_iso al (al.length - (p + 1)) (p + 1) (by omega)
      -- nothing behind it that touches memory has been carried out
      have hlate : ∀ (i : Nat) y, p < i → al[i]? = some y → y.op.pure = false → ¬ L.getD i false = true := fun i y hi hy hyp hL =>
        hj (d.ord _ v.dc p i x y hi hx hy (mustOrder_iso hpf hyp (.inl hiso)) hL)
      have hfi : ∀ i, i < al.length → i ≠ p → ¬ L.getD i false = true → Fresh μ' (H i).next (H (i + 1)).next := by
        intro i hi hne hn b hb1 hb2
        have hout : ¬ ((H p).next ≤ b ∧ b < (H (p + 1)).next) := by
          rcases Nat.lt_or_ge i p with h | h
          · have := d.mono (i := i + 1) (j := p) (by omega) (by omega); omega
          · have := d.mono (i := p + 1) (j := i) (by omega) (by omega); omega
        rw [hp.mu b hout]; exact v.fresh i hi hn b hb1 hb2
      have hfr2 : Fresh μ' (H (p + 1)).next (H p').next := by
        refine d.freshRange q1 q2 fun k k1 k2 => ?_
        obtain ⟨y, hy⟩ : ∃ y, al[k]? = some y := ⟨al[k], List.getElem?_eq_getElem (by omega)⟩
        by_cases hyp : y.op.pure = true
        · rw [d.pureH hy hyp]; intro b hb1 hb2; omega
        · exact hfi k (by omega) (by omega) (hlate k y (by omega) hy (by simpa using hyp))
      have hg : Post fl base rbase μ' (H (p + 1)) w' μ' (H p') w' := Post.garbage hp.sim (d.quiet q1 q2 fun k y k1 k2 hy => q4 k y k1 k2 hy) (d.wf q2) hfr2
      refine finish v' μ' w' p' hv (hp.lrel v.post.sim hfj v.t) q2 ?_ ?_ (v.post.trans (hp.trans hg (Nat.le_refl _)) (Nat.le_refl _)) hfi ?_ (Nat.le_trans v.hr hp.hs)
      · intro y hy
        refine ⟨q3 y hy, fun h => ?_⟩
        rcases h with h | h
        · omega
        · exact hlate p' y (by omega) hy (q3 y hy).1 h
      · intro i y hi hy hyi
        rcases Nat.lt_trichotomy i p with h | h | h
        · exact .inr (v.plt i y h hy hyi)
        · exact .inl h
        · exact absurd hyi (q4 i y (by omega) hi hy)
      · intro b hb1 hb2
        have := d.mono (i := p + 1) (j := al.length) (by omega) (by omega)
        rw [hp.mu b (by omega)]; exact v.frend b hb1 hb2
    · -- a quiet one
      have hisof : x.iso = false := by simpa using hiso
      have hjp : j < p := by
        rcases Nat.lt_trichotomy p j with h | h | h
        · obtain ⟨y, hy⟩ : ∃ y, al[p]? = some y := ⟨al[p], List.getElem?_eq_getElem (by omega)⟩
          obtain ⟨h1, h2⟩ := v.pat y hy
          have := d.ord _ hdc p j y x h hy hx (mustOrder_iso h1.1 hpf (.inl h1.2)) (.inl rfl)
          rcases this with h3 | h3
          · omega
          · exact absurd h3 h2
        · subst h
          obtain ⟨h1, _⟩ := v.pat x hx
          have h3 := h1.2; rw [hisof] at h3; cases h3
        · exact h
      have hnoiso : ∀ (k : Nat) y, j ≤ k → k < p → al[k]? = some y → ¬ isoH y := by
        intro k y h1 h2 hy hyi
        have hL := v.plt k y h2 hy hyi
        rcases Nat.lt_or_ge j k with h3 | h3
        · exact hj (d.ord _ v.dc j k x y h3 hx hy (mustOrder_iso hpf hyi.1 (.inr hyi.2)) hL)
        · have : k = j := by omega
          subst this; exact hj hL
      have stj : AStep (H j).next (H j) (H p) := d.quiet (by omega) v.ple hnoiso
      have stj1 : AStep (H (j + 1)).next (H (j + 1)) (H p) := d.quiet (by omega) v.ple fun k y h1 h2 hy => hnoiso k y (by omega) h2 hy
      have sj : Sim base rbase μ (H j) w := v.post.sim.earlier stj (d.wf (by omega))
      have hfloor : floorOf x fl (H j) = (H j).next := by unfold floorOf; rw [hisof]; rfl
      have hflj := d.flH (i := j) (by omega)
      have c : Ctx (floorOf x fl (H j)) base rbase μ (H j) w sE a := by rw [hfloor]; exact ⟨sj, Nat.le_trans d.hb hflj, Nat.le_refl _, v.hr, v.t⟩
      refine wpOp_sound d.hC ho hok c hV hfj fun v' μ' w' hp hv => ?_
      rw [hfloor] at hp
      have hm := Post.merge v.post hp sj hfj stj1 stj (d.mono (Nat.zero_le _) (by omega))
      refine finish v' μ' w' p hv (hp.lrel sj hfj v.t) v.ple ?_ ?_ hm ?_ ?_ (Nat.le_trans v.hr hp.hs)
      · intro y hy
        obtain ⟨h1, h2⟩ := v.pat y hy
        refine ⟨h1, fun h => ?_⟩
        rcases h with h | h
        · omega
        · exact h2 h
      · intro i y hi hy hyi; exact .inr (v.plt i y hi hy hyi)
      · intro i hi hne hn b hb1 hb2
        have hout : ¬ ((H j).next ≤ b ∧ b < (H (j + 1)).next) := by
          rcases Nat.lt_or_ge i j with h | h
          · have := d.mono (i := i + 1) (j := j) (by omega) (by omega); omega
          · have := d.mono (i := j + 1) (j := i) (by omega) (by omega); omega
        rw [hp.mu b hout]; exact v.fresh i hi hn b hb1 hb2
      · intro b hb1 hb2
        have := d.mono (i := j + 1) (j := al.length) (by omega) (by omega)
        rw [hp.mu b (by omega)]; exact v.frend b hb1 hb2

/-- How many have not been carried out. -/
def left (L : Array Bool) : Nat := L.toList.countP (fun b => !b)

theorem left_set {L : Array Bool} {j : Nat} (hj : j < L.size) (h : ¬ L.getD j false = true) : left (L.setIfInBounds j true) + 1 = left L := by
  unfold left
  rw [Array.toList_setIfInBounds]
  have hl : j < L.toList.length := by simpa using hj
  have hf : L.toList[j] = false := by
    have : L.getD j false = false := by simpa using h
    rw [Array.getD_eq_getD_getElem?, Array.getElem?_eq_getElem hj] at this
    simpa using this
  have h1 := List.countP_set (p := fun b => !b) (l := L.toList) (a := true) hl
  rw [hf] at h1
  have hpos : 0 < L.toList.countP (fun b => !b) := by
    rw [List.countP_pos_iff]
    exact ⟨L.toList[j], List.getElem_mem hl, by rw [hf]; rfl⟩
  simp only [Bool.not_false, Bool.not_true, if_true, Bool.false_eq_true, if_false, Nat.add_zero] at h1
  omega

theorem left_zero {L : Array Bool} (h : left L = 0) {i : Nat} (hi : i < L.size) : L.getD i false = true := by
  unfold left at h
  rw [List.countP_eq_zero] at h
  have hl : i < L.toList.length := by simpa using hi
  have := h L.toList[i] (List.getElem_mem hl)
  simp at this
  rw [Array.getD_eq_getD_getElem?, Array.getElem?_eq_getElem hi]
  simpa using this

theorem mem_ready {L : Array Bool} {i : Nat} (h : i ∈ Region.ready .any ops L) : ∃ o, ops[i]? = some o ∧ (i < L.size → ¬ L.getD i false = true) ∧ ∀ e ∈ o.after.toList, Region.binds .any e = true → L.getD e.on false = true := by
  unfold Region.ready at h
  rw [List.mem_filter] at h
  obtain ⟨h1, h2⟩ := h
  simp only [List.mem_range] at h1
  simp only [Bool.and_eq_true, Bool.not_eq_true'] at h2
  have ho : ops[i]? = some ops[i] := Array.getElem?_eq_getElem h1
  refine ⟨ops[i], ho, fun hi => ?_, ?_⟩
  · have := h2.1
    rw [Array.getD_eq_getD_getElem?, Array.getElem?_eq_getElem hi] at this ⊢
    simp at this ⊢; exact this
  · have h3 := h2.2
    rw [ho] at h3
    simp only [Option.map_some, Option.getD_some, Array.all_eq_true_iff_forall_mem] at h3
    intro e he hb
    have := h3 e (by simpa using he)
    simp only [Bool.or_eq_true, Bool.not_eq_true'] at this
    rcases this with h4 | h4
    · rw [hb] at h4; cases h4
    · exact h4

theorem ready_nil (d : DR P C fl base rbase ops al S H V) {L : Array Bool} (hs : L.size = ops.size) (h : Region.ready .any ops L = []) : ∀ i, i < ops.size → L.getD i false = true := by
  intro i
  induction i using Nat.strongRecOn with
  | ind i ih =>
    intro hi
    have ho : ops[i]? = some ops[i] := Array.getElem?_eq_getElem hi
    have hn : ¬ i ∈ Region.ready .any ops L := by rw [h]; simp
    unfold Region.ready at hn
    rw [List.mem_filter] at hn
    simp only [List.mem_range, hi, true_and, Bool.and_eq_true, Bool.not_eq_true', not_and] at hn
    by_cases hL : L.getD i true = false
    · have h2 := hn hL
      rw [ho] at h2
      simp only [Option.map_some, Option.getD_some] at h2
      exfalso
      apply h2
      rw [Array.all_eq_true_iff_forall_mem]
      intro e he
      simp only [Bool.or_eq_true, Bool.not_eq_true']
      by_cases hb : Region.binds .any e = true
      · right
        have := d.edge i _ ho e (by simpa using he) hb
        exact ih e.on this (by omega)
      · left; simpa using hb
    · have : L.getD i true = true := by simpa using hL
      rw [Array.getD_eq_getD_getElem?, Array.getElem?_eq_getElem (by omega)] at this ⊢
      simpa using this

theorem draw_any {Q : Exit → Act → World → Prop} (hQ : ∀ a' w' μ', LRel μ' (szOf w') (S al.length) a'.tmps.toList → a'.defers = a0.defers → Post fl base rbase μ0 (H 0) w0 μ' (H al.length) w' → Q .normal a' w') :
    ∀ (fuel : Nat) (L : Array Bool) (a : Act) (w : World) (μ : Mu) (sE : List Value) (p : Nat), DInv d μ0 w0 a0 hend L a w μ sE p → sE.length = (S 0).length → left L ≤ fuel → wpAny P .any ops Q fuel L a w := by
  have done : ∀ (L : Array Bool) (a : Act) (w : World) (μ : Mu) (sE : List Value) (p : Nat), DInv d μ0 w0 a0 hend L a w μ sE p → sE.length = (S 0).length → (∀ i, i < ops.size → L.getD i false = true) → Q .normal a w := by
    intro L a w μ sE p v hlen hall
    have hp : p = al.length := by
      rcases Nat.lt_or_ge p al.length with h | h
      · obtain ⟨y, hy⟩ : ∃ y, al[p]? = some y := ⟨al[p], List.getElem?_eq_getElem h⟩
        exact absurd (hall p (by rw [← d.len]; exact h)) (v.pat y hy).2
      · exact Nat.le_antisymm v.ple h
    have hse : sE = S al.length := by
      apply List.ext_getElem?
      intro t
      obtain ⟨m, h1, h2, h3, h4⟩ := v.cut t
      rw [h4]
      refine cut_same d t h1 (Nat.le_refl _) fun i x hi1 hi2 hx hd => ?_
      have := h2 i x hx hd (hall i (by rw [← d.len]; exact hi2))
      omega
    have ht := v.t
    rw [hse] at ht
    have hpost := v.post
    rw [hp] at hpost
    exact hQ a w μ ht v.dfr hpost
  intro fuel
  induction fuel with
  | zero =>
    intro L a w μ sE p v hlen hle
    have hall : ∀ i, i < ops.size → L.getD i false = true := fun i hi => left_zero (by omega) (by rw [v.size]; exact hi)
    refine ⟨?_, done L a w μ sE p v hlen hall⟩
    cases hr : Region.ready .any ops L with
    | nil => rfl
    | cons i l =>
      obtain ⟨o, ho, h1, _⟩ := mem_ready (ops := ops) (L := L) (i := i) (by rw [hr]; simp)
      have hi : i < ops.size := (Array.getElem?_eq_some_iff.1 ho).1
      exact absurd (hall i hi) (h1 (by rw [v.size]; exact hi))
  | succ fuel ih =>
    intro L a w μ sE p v hlen hle
    refine ⟨fun hr => done L a w μ sE p v hlen (ready_nil d v.size hr), fun i hi => ?_⟩
    obtain ⟨o, ho, h1, h2⟩ := mem_ready hi
    have his : i < ops.size := (Array.getElem?_eq_some_iff.1 ho).1
    have hiL : i < L.size := by rw [v.size]; exact his
    refine v.step hlen ho (h1 hiL) h2 fun a' w' μ' sE' p' v' hlen' => ?_
    have := left_set hiL (h1 hiL)
    exact ih _ a' w' μ' sE' p' v' hlen' (by omega)
end
end Go.Abs
