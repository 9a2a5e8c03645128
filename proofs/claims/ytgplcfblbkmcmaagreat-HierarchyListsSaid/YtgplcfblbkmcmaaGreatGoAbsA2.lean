/- What allocation, stores and appends leave of the relation. -/
import Derived.Test.YtgplcfblbkmcmaaGreatGoAbsA1
import Derived.Laws.AppendOwn
namespace Go.Abs

def ext (μ : Mu) (b : Nat) (x : Nat × Nat) : Mu := fun c => if c = b then some x else μ c
theorem ext_same (μ b x) : ext μ b x b = some x := by simp [ext]
theorem ext_ne {μ : Mu} {b x c} (h : c ≠ b) : ext μ b x c = μ c := by simp [ext, h]
theorem ext_le {μ : Mu} {b x} (h : μ b = none) : ∀ c y, μ c = some y → ext μ b x c = some y := by
  intro c y hc
  rw [ext_ne]; exact hc
  rintro rfl; rw [h] at hc; cases hc

theorem szOf_eq {w w' : World} {rb : Nat} (h : w'.heap[rb]? = w.heap[rb]?) : szOf w' rb = szOf w rb := by simp [szOf, h]
theorem szOf_cells {w : World} {rb c t fr} (h : w.heap[rb]? = some (.cells c t fr)) : szOf w rb = c.size := by simp [szOf, h]
theorem cell_eq {w w' : World} {rb : Nat} (h : w'.heap[rb]? = w.heap[rb]?) (o : Nat) : w'.cell? ⟨rb, o, none⟩ = w.cell? ⟨rb, o, none⟩ := by simp [World.cell?, h]
theorem cell_cells {w : World} {rb c t fr} (h : w.heap[rb]? = some (.cells c t fr)) (o : Nat) : w.cell? ⟨rb, o, none⟩ = c[o]? := by simp [World.cell?, h]

/-- Worlds of one memory. -/
theorem Sim.heap {base rbase μ h w w'} (s : Sim base rbase μ h w) (e : w'.heap = w.heap) : Sim base rbase μ h w' where
  cell b cs rb o h1 h2 j v hv := by
    obtain ⟨v', a, b⟩ := s.cell b cs rb o h1 h2 j v hv
    refine ⟨v', by simpa [World.cell?, e] using a, b.mono (fun _ _ h => h) fun _ _ _ _ => by simp [szOf, e]⟩
  own b cs rb o h0 h1 h2 := by rw [e]; exact s.own b cs rb o h0 h1 h2
  inj := s.inj
  lt b rb o hb := by rw [e]; exact s.lt b rb o hb
  bnd := s.bnd

theorem Post.heap {fl base rbase μ h w w'} (s : Sim base rbase μ h w) (e : w'.heap = w.heap) (h1 : w'.os = w.os) (h2 : w'.tape = w.tape) (h3 : w'.output = w.output) : Post fl base rbase μ h w μ h w' where
  sim := s.heap e
  mu _ _ := rfl
  nx := Nat.le_refl _
  old _ _ _ := rfl
  dead _ cs _ h := ⟨cs, h⟩
  fr _ _ _ := by rw [e]
  sz _ _ := by simp [szOf, e]
  hs := by rw [e]; exact Nat.le_refl _
  os := h1
  tape := h2
  output := h3
  new b _ _ _ h1 h2 := by omega

theorem Post.alloc {fl base rbase μ h w} (s : Sim base rbase μ h w) (hb : base ≤ h.next) (hr : rbase ≤ w.heap.size) (hf : μ h.next = none) {cs : List Value} {c : Array Value} {t : TypeId}
    (hc : ∀ (j : Nat) v, cs[j]? = some v → ∃ v', c[j]? = some v' ∧ VRel μ (szOf w) v v') :
    Post fl base rbase μ h w (ext μ h.next (w.heap.size, 0)) (h.alloc cs) (w.alloc (.cells c t)) := by
  have hn : (w.alloc (.cells c t)).heap[w.heap.size]? = some (.cells c t (0, 0)) := heap_alloc_new w _
  have ho : ∀ rb, rb < w.heap.size → (w.alloc (.cells c t)).heap[rb]? = w.heap[rb]? := fun rb h => heap_alloc_old w _ rb h
  have hsz : (w.alloc (.cells c t)).heap.size = w.heap.size + 1 := by show (w.heap.push _).size = _; simp
  have hle := ext_le (x := (w.heap.size, 0)) hf
  have hszle : ∀ b rb o, μ b = some (rb, o) → szOf w rb ≤ szOf (w.alloc (.cells c t)) rb := fun b rb o hb => by rw [szOf_eq (ho rb (s.lt b rb o hb))]; exact Nat.le_refl _
  have hblk : ∀ b cs', (h.alloc cs).blk b = some cs' → (b = h.next ∧ cs' = cs) ∨ (b ≠ h.next ∧ h.blk b = some cs') := by
    intro b cs' hb
    by_cases e : b = h.next
    · simp [AH.alloc, e] at hb; exact .inl ⟨e, hb.symm⟩
    · simp [AH.alloc, e] at hb; exact .inr ⟨e, hb⟩
  refine { sim := { cell := ?_, own := ?_, inj := ?_, lt := ?_, bnd := ?_ }, mu := ?_, nx := ?_, old := ?_, dead := ?_, fr := ?_, sz := ?_, hs := ?_, os := rfl, tape := rfl, output := rfl, new := ?_ }
  · intro b cs' rb o hbk hmu j v hv
    rcases hblk b cs' hbk with ⟨rfl, rfl⟩ | ⟨hne, hbk'⟩
    · rw [ext_same] at hmu; injection hmu with hmu; injection hmu with e1 e2; subst e1; subst e2
      obtain ⟨v', h1, h2⟩ := hc j v hv
      exact ⟨v', by rw [cell_cells hn, Nat.zero_add]; exact h1, h2.mono hle hszle⟩
    · rw [ext_ne hne] at hmu
      obtain ⟨v', h1, h2⟩ := s.cell b cs' rb o hbk' hmu j v hv
      exact ⟨v', by rw [cell_eq (ho rb (s.lt b rb o hmu))]; exact h1, h2.mono hle hszle⟩
  · intro b cs' rb o hbb hbk hmu
    rcases hblk b cs' hbk with ⟨rfl, rfl⟩ | ⟨hne, hbk'⟩
    · rw [ext_same] at hmu; injection hmu with hmu; injection hmu with e1 e2; subst e1
      exact ⟨hr, c, t, hn⟩
    · rw [ext_ne hne] at hmu
      rw [ho rb (s.lt b rb o hmu)]
      exact s.own b cs' rb o hbb hbk' hmu
  · intro b b' cs1 cs2 rb o o' hbb h1 h2 m1 m2
    rcases hblk b cs1 h1 with ⟨rfl, rfl⟩ | ⟨hne, h1'⟩
    · rcases hblk b' cs2 h2 with ⟨rfl, rfl⟩ | ⟨hne', h2'⟩
      · rfl
      · rw [ext_same] at m1; injection m1 with m1; injection m1 with e1 e2; subst e1
        rw [ext_ne hne'] at m2
        exact absurd (s.lt b' _ _ m2) (by omega)
    · rw [ext_ne hne] at m1
      rcases hblk b' cs2 h2 with ⟨rfl, rfl⟩ | ⟨hne', h2'⟩
      · rw [ext_same] at m2; injection m2 with m2; injection m2 with e1 e2; subst e1
        exact absurd (s.lt b _ _ m1) (by omega)
      · rw [ext_ne hne'] at m2
        exact s.inj b b' cs1 cs2 rb o o' hbb h1' h2' m1 m2
  · intro b rb o hmu
    rw [hsz]
    by_cases e : b = h.next
    · subst e; rw [ext_same] at hmu; injection hmu with hmu; injection hmu with e1 e2; omega
    · rw [ext_ne e] at hmu; have := s.lt b rb o hmu; omega
  · intro b cs' hbk
    show b < h.next + 1
    rcases hblk b cs' hbk with ⟨rfl, rfl⟩ | ⟨hne, hbk'⟩
    · omega
    · have := s.bnd b cs' hbk'; omega
  · intro b hb
    refine ext_ne ?_
    rintro rfl
    exact hb ⟨Nat.le_refl _, Nat.lt_succ_self _⟩
  · exact Nat.le_succ _
  · intro b hb _
    simp [AH.alloc, Nat.ne_of_lt hb]
  · intro b cs' hb hbk
    rcases hblk b cs' hbk with ⟨rfl, rfl⟩ | ⟨hne, hbk'⟩
    · omega
    · exact ⟨_, hbk'⟩
  · intro rb hrb _; exact ho rb hrb
  · intro rb hrb; exact szOf_eq (ho rb hrb)
  · rw [hsz]; omega
  · intro b cs' rb o h1 h2 hmu _
    have : b = h.next := by have : b < h.next + 1 := h2; omega
    subst this
    rw [ext_same] at hmu; injection hmu with hmu; injection hmu with e1 e2; exact .inl (by omega)

theorem Post.kill {fl base rbase μ h w} (s : Sim base rbase μ h w) (b : Nat) (hb : fl ≤ b) : Post fl base rbase μ h w μ (h.put b none) w := by
  have hblk : ∀ c cs', (h.put b none).blk c = some cs' → c ≠ b ∧ h.blk c = some cs' := by
    intro c cs' hc
    by_cases e : c = b
    · simp [AH.put, e] at hc
    · simp [AH.put, e] at hc; exact ⟨e, hc⟩
  refine { sim := { cell := fun c cs' rb o h1 => s.cell c cs' rb o (hblk _ _ h1).2, own := fun c cs' rb o h0 h1 => s.own c cs' rb o h0 (hblk _ _ h1).2, inj := fun c c' cs1 cs2 rb o o' h0 h1 h2 => s.inj c c' cs1 cs2 rb o o' h0 (hblk _ _ h1).2 (hblk _ _ h2).2, lt := s.lt, bnd := fun c cs' h1 => s.bnd c cs' (hblk _ _ h1).2 }, mu := fun _ _ => rfl, nx := Nat.le_refl _, old := ?_, dead := fun c cs' _ h1 => ⟨cs', (hblk _ _ h1).2⟩, fr := fun _ _ _ => rfl, sz := fun _ _ => rfl, hs := Nat.le_refl _, os := rfl, tape := rfl, output := rfl, new := ?_ }
  · intro c _ hc
    have : c ≠ b := by omega
    simp [AH.put, this]
  · intro c _ _ _ h1 h2; have : c < h.next := h2; omega

/-- A block is written, in place. -/
theorem Post.set {fl base rbase μ h w} (s : Sim base rbase μ h w) {b rb ob : Nat} {cs cs' : List Value} {c c' : Array Value} {t : TypeId} (hb : fl ≤ b) (hbase : base ≤ fl) (hbk : h.blk b = some cs) (hmu : μ b = some (rb, ob))
    (hg : w.heap[rb]? = some (.cells c t (0, 0))) (hs : c'.size = c.size)
    (hc : ∀ (j : Nat) v, cs'[j]? = some v → ∃ v', c'[ob + j]? = some v' ∧ VRel μ (szOf w) v v') :
    Post fl base rbase μ h w μ (h.put b (some cs')) (w.setRow rb c') := by
  have hn : (w.setRow rb c').heap[rb]? = some (.cells c' t (0, 0)) := setRow_heap w rb c c' t _ hg
  have ho : ∀ r, r ≠ rb → (w.setRow rb c').heap[r]? = w.heap[r]? := fun r h => setRow_other w rb r c' h
  have hsz : ∀ r, szOf (w.setRow rb c') r = szOf w r := by
    intro r
    by_cases e : r = rb
    · subst e; rw [szOf_cells hn, szOf_cells hg, hs]
    · exact szOf_eq (ho r e)
  have hszle : ∀ d r o, μ d = some (r, o) → szOf w r ≤ szOf (w.setRow rb c') r := fun d r o _ => by rw [hsz]; exact Nat.le_refl _
  have hblk : ∀ d ds, (h.put b (some cs')).blk d = some ds → (d = b ∧ ds = cs') ∨ (d ≠ b ∧ h.blk d = some ds) := by
    intro d ds hd
    by_cases e : d = b
    · simp [AH.put, e] at hd; exact .inl ⟨e, hd.symm⟩
    · simp [AH.put, e] at hd; exact .inr ⟨e, hd⟩
  have hblk' : ∀ d ds, (h.put b (some cs')).blk d = some ds → ∃ ds', h.blk d = some ds' := by
    intro d ds hd
    rcases hblk d ds hd with ⟨rfl, _⟩ | ⟨_, h1⟩
    · exact ⟨cs, hbk⟩
    · exact ⟨ds, h1⟩
  refine { sim := { cell := ?_, own := ?_, inj := ?_, lt := ?_, bnd := ?_ }, mu := fun _ _ => rfl, nx := Nat.le_refl _, old := ?_, dead := fun d ds _ hd => hblk' d ds hd, fr := ?_, sz := fun r _ => hsz r, hs := by simp, os := rfl, tape := rfl, output := rfl, new := fun d _ _ _ h1 h2 => by have : d < h.next := h2; omega }
  · intro d ds r o hdk hdm j v hv
    rcases hblk d ds hdk with ⟨rfl, rfl⟩ | ⟨hne, hdk'⟩
    · rw [hmu] at hdm; injection hdm with hdm; injection hdm with e1 e2; subst e1; subst e2
      obtain ⟨v', h1, h2⟩ := hc j v hv
      exact ⟨v', by rw [cell_cells hn]; exact h1, h2.mono (fun _ _ h => h) hszle⟩
    · have hr : r ≠ rb := by
        rintro rfl
        exact hne (s.inj b d cs ds r ob o (Nat.le_trans hbase hb) hbk hdk' hmu hdm).symm
      obtain ⟨v', h1, h2⟩ := s.cell d ds r o hdk' hdm j v hv
      exact ⟨v', by rw [cell_eq (ho r hr)]; exact h1, h2.mono (fun _ _ h => h) hszle⟩
  · intro d ds r o hdb hdk hdm
    obtain ⟨ds', h1⟩ := hblk' d ds hdk
    obtain ⟨a1, c1, t1, a2⟩ := s.own d ds' r o hdb h1 hdm
    refine ⟨a1, ?_⟩
    by_cases e : r = rb
    · subst e; exact ⟨c', t, hn⟩
    · rw [ho r e]; exact ⟨c1, t1, a2⟩
  · intro d d' ds1 ds2 r o o' hdb h1 h2 m1 m2
    obtain ⟨_, h1'⟩ := hblk' d ds1 h1
    obtain ⟨_, h2'⟩ := hblk' d' ds2 h2
    exact s.inj d d' _ _ r o o' hdb h1' h2' m1 m2
  · intro d r o hd; simpa using s.lt d r o hd
  · intro d ds hd
    obtain ⟨_, h1⟩ := hblk' d ds hd
    exact s.bnd d _ h1
  · intro d _ hd
    have : d ≠ b := by omega
    simp [AH.put, this]
  · intro r hr hno
    refine ho r ?_
    rintro rfl
    exact hno b cs ob hb (s.bnd b cs hbk) hbk hmu

/-- An append that finds room: the old block is dead, the new one lies where it lay. -/
theorem Post.onto {fl base rbase μ h w} (s : Sim base rbase μ h w) {b rb ob o' : Nat} {cs zs : List Value} {c c' : Array Value} {t : TypeId} (hb : fl ≤ b) (hbase : base ≤ fl) (hbk : h.blk b = some cs) (hmu : μ b = some (rb, ob))
    (hf : μ h.next = none) (hg : w.heap[rb]? = some (.cells c t (0, 0))) (hs : c'.size = c.size)
    (hc : ∀ (j : Nat) v, zs[j]? = some v → ∃ v', c'[o' + j]? = some v' ∧ VRel μ (szOf w) v v') :
    Post fl base rbase μ h w (ext μ h.next (rb, o')) ((h.put b none).alloc zs) (w.setRow rb c') := by
  have hn : (w.setRow rb c').heap[rb]? = some (.cells c' t (0, 0)) := setRow_heap w rb c c' t _ hg
  have ho : ∀ r, r ≠ rb → (w.setRow rb c').heap[r]? = w.heap[r]? := fun r h => setRow_other w rb r c' h
  have hsz : ∀ r, szOf (w.setRow rb c') r = szOf w r := by
    intro r
    by_cases e : r = rb
    · subst e; rw [szOf_cells hn, szOf_cells hg, hs]
    · exact szOf_eq (ho r e)
  have hle := ext_le (x := (rb, o')) hf
  have hszle : ∀ d r o, μ d = some (r, o) → szOf w r ≤ szOf (w.setRow rb c') r := fun d r o _ => by rw [hsz]; exact Nat.le_refl _
  have hbn : b < h.next := s.bnd b cs hbk
  have hblk : ∀ d ds, ((h.put b none).alloc zs).blk d = some ds → (d = h.next ∧ ds = zs) ∨ (d ≠ h.next ∧ d ≠ b ∧ h.blk d = some ds) := by
    intro d ds hd
    by_cases e : d = h.next
    · simp [AH.alloc, AH.put, e] at hd; exact .inl ⟨e, hd.symm⟩
    · by_cases e2 : d = b
      · simp [AH.alloc, AH.put, e2, Nat.ne_of_lt hbn] at hd
      · simp [AH.alloc, AH.put, e, e2] at hd; exact .inr ⟨e, e2, hd⟩
  have hbb : base ≤ b := Nat.le_trans hbase hb
  have hother : ∀ d ds o r, d ≠ b → h.blk d = some ds → μ d = some (r, o) → r ≠ rb := by
    rintro d ds o r hne hd hm rfl
    exact hne (s.inj b d cs ds r ob o hbb hbk hd hmu hm).symm
  refine { sim := { cell := ?_, own := ?_, inj := ?_, lt := ?_, bnd := ?_ }, mu := ?_, nx := Nat.le_succ _, old := ?_, dead := ?_, fr := ?_, sz := fun r _ => hsz r, hs := by simp, os := rfl, tape := rfl, output := rfl, new := ?_ }
  · intro d ds r o hdk hdm j v hv
    rcases hblk d ds hdk with ⟨rfl, rfl⟩ | ⟨hne, hne2, hdk'⟩
    · rw [ext_same] at hdm; injection hdm with hdm; injection hdm with e1 e2; subst e1; subst e2
      obtain ⟨v', h1, h2⟩ := hc j v hv
      exact ⟨v', by rw [cell_cells hn]; exact h1, h2.mono hle hszle⟩
    · rw [ext_ne hne] at hdm
      obtain ⟨v', h1, h2⟩ := s.cell d ds r o hdk' hdm j v hv
      exact ⟨v', by rw [cell_eq (ho r (hother d ds o r hne2 hdk' hdm))]; exact h1, h2.mono hle hszle⟩
  · intro d ds r o hdb hdk hdm
    rcases hblk d ds hdk with ⟨rfl, rfl⟩ | ⟨hne, hne2, hdk'⟩
    · rw [ext_same] at hdm; injection hdm with hdm; injection hdm with e1 e2; subst e1
      exact ⟨(s.own b cs rb ob hbb hbk hmu).1, c', t, hn⟩
    · rw [ext_ne hne] at hdm
      rw [ho r (hother d ds o r hne2 hdk' hdm)]
      exact s.own d ds r o hdb hdk' hdm
  · intro d d' ds1 ds2 r o1 o2 hdb h1 h2 m1 m2
    rcases hblk d ds1 h1 with ⟨rfl, rfl⟩ | ⟨hne, hne2, h1'⟩
    · rcases hblk d' ds2 h2 with ⟨rfl, rfl⟩ | ⟨hne', hne2', h2'⟩
      · rfl
      · rw [ext_same] at m1; injection m1 with m1; injection m1 with e1 e2; subst e1
        rw [ext_ne hne'] at m2
        exact absurd rfl (hother d' ds2 o2 rb hne2' h2' m2)
    · rw [ext_ne hne] at m1
      rcases hblk d' ds2 h2 with ⟨rfl, rfl⟩ | ⟨hne', hne2', h2'⟩
      · rw [ext_same] at m2; injection m2 with m2; injection m2 with e1 e2; subst e1
        exact absurd rfl (hother d ds1 o1 rb hne2 h1' m1)
      · rw [ext_ne hne'] at m2
        exact s.inj d d' ds1 ds2 r o1 o2 hdb h1' h2' m1 m2
  · intro d r o hd
    rw [setRow_size]
    by_cases e : d = h.next
    · subst e; rw [ext_same] at hd; injection hd with hd; injection hd with e1 e2; subst e1; exact s.lt b rb ob hmu
    · rw [ext_ne e] at hd; exact s.lt d r o hd
  · intro d ds hd
    show d < h.next + 1
    rcases hblk d ds hd with ⟨rfl, rfl⟩ | ⟨_, _, h1⟩
    · omega
    · have := s.bnd d ds h1; omega
  · intro d hd
    refine ext_ne ?_
    rintro rfl
    exact hd ⟨Nat.le_refl _, Nat.lt_succ_self _⟩
  · intro d hd hdf
    have h1 : d ≠ b := by omega
    have h2 : d ≠ h.next := by omega
    simp [AH.alloc, AH.put, h1, h2]
  · intro d ds hd hdk
    rcases hblk d ds hdk with ⟨rfl, rfl⟩ | ⟨_, _, h1⟩
    · omega
    · exact ⟨ds, h1⟩
  · intro r hr hno
    refine ho r ?_
    rintro rfl
    exact hno b cs ob hb hbn hbk hmu
  · intro d ds r o h1 h2 hdm _
    have : d = h.next := by have : d < h.next + 1 := h2; omega
    subst this
    rw [ext_same] at hdm; injection hdm with hdm; injection hdm with e1 e2; subst e1
    exact .inr ⟨b, cs, ob, hb, hbn, hbk, hmu⟩

end Go.Abs
