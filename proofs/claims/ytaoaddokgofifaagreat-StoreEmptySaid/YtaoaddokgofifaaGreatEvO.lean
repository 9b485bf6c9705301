/- A region that draws its order: one operation more, and the whole. -/
import Derived.Test.YtaoaddokgofifaaGreatEvN
namespace Go.Ev
open Go.RowKit
section
variable {P : Program} {T : TT} {X : Prims} {n : Nat} {ops : Array Oper} {s last : St} {tr : List (St × Value)}
variable {ρs ρ₀ ρ : Inj} {ws w : World} {ds : List Deferred} {D : Nat → Prop} {q : Nat} {L : List Value} {a : Act}

/-- What an operation that may come up sees in the slots that it names. -/
theorem Drawn.names (tx : Text P T X n ops s last tr) (h : Drawn ops s last tr ρs ws ds D q ρ₀ ρ L a w) {j : Nat} {o : Oper} (ho : ops[j]? = some o) (hnd : ¬ D j) (hah : ∀ k, Ahead ops k j → D k) {t : Tmp} (ht : t ∈ namesOf o ++ guardSlot ops o) :
    L[t]? = (stAt tr last j).tmps[t]? := by
  refine h.slot t j (Nat.le_of_lt (Array.getElem?_eq_some_iff.1 ho).1) fun i o' ho' hd => ?_
  rcases tx.ok.slots j o ho t ht i o' ho' hd with rfl | ⟨h1, h2⟩ | ⟨h1, h2⟩
  · exact ⟨fun hh => absurd hh hnd, fun hh => absurd hh (Nat.lt_irrefl _)⟩
  · exact ⟨fun _ => h1, fun _ => hah i h2⟩
  · exact ⟨fun hh => absurd (h.down i j hh h2) hnd, fun hh => by omega⟩

theorem Drawn.env (tx : Text P T X n ops s last tr) (h : Drawn ops s last tr ρs ws ds D q ρ₀ ρ L a w) {j : Nat} {o : Oper} (ho : ops[j]? = some o) (hnd : ¬ D j) (hah : ∀ k, Ahead ops k j → D k) : ∀ x ∈ o.op.operands, envL L x = envL (stAt tr last j).tmps x := by
  intro x hx
  cases x with
  | tmp t =>
    simp only [envL, List.getD_eq_getElem?_getD]
    rw [h.names tx ho hnd hah (t := t)]
    rw [List.mem_append]
    left
    unfold namesOf
    rw [List.mem_append]
    right
    rw [List.mem_filterMap]
    exact ⟨.tmp t, by simpa using hx, rfl⟩
  | const v => rfl
  | global g => rfl
  | func f => rfl

theorem Drawn.wanted (tx : Text P T X n ops s last tr) (h : Drawn ops s last tr ρs ws ds D q ρ₀ ρ L a w) {j : Nat} {o : Oper} (ho : ops[j]? = some o) (hnd : ¬ D j) (hah : ∀ k, Ahead ops k j → D k) : wantedL ops L o = wantedL ops (stAt tr last j).tmps o := by
  rw [wantedL_eq, wantedL_eq]
  cases hg : o.guard with
  | none => rfl
  | some p =>
    simp only
    have : guardVal ops L p.1 = guardVal ops (stAt tr last j).tmps p.1 := by
      unfold guardVal
      cases hd : (ops[p.1]?).bind (·.dst) with
      | none => rfl
      | some d =>
        simp only [Option.bind_some]
        rw [h.names tx ho hnd hah (t := d)]
        rw [List.mem_append]
        right
        unfold guardSlot
        rw [hg]
        simp [hd]
    rw [this]

/-- The slots behind one operation more. -/
theorem Drawn.slots (tx : Text P T X n ops s last tr) (h : Drawn ops s last tr ρs ws ds D q ρ₀ ρ L a w) {j : Nat} {o : Oper} (ho : ops[j]? = some o) (hnd : ¬ D j) : ∀ t m, m ≤ ops.size →
    (∀ i o', ops[i]? = some o' → o'.dst = some t → ((D i ∨ i = j) ↔ i < m)) → (putL L o.dst (valAt tr j))[t]? = (stAt tr last m).tmps[t]? := by
  intro t m hm hw
  by_cases hd : o.dst = some t
  · have hj : j < m := (hw j o ho hd).1 (.inr rfl)
    have hst := tx.tmps_stay (t := t) (i := j + 1) (j := m) hj hm fun k o' hk hkm ho' hd' => by
      have hdk : D k := ((hw k o' ho' hd').2 hkm).resolve_right (by omega)
      rcases tx.ok.slots k o' ho' t (by rw [List.mem_append]; left; unfold namesOf; rw [hd']; simp) j o ho hd with h1 | ⟨_, h1⟩ | ⟨h1, _⟩
      · omega
      · exact hnd (h.down k j hdk h1)
      · omega
    rw [hst, (tx.step j o ho).2, hd]
    simp only [putL]
    have hl : (stAt tr last j).tmps.length = L.length := by rw [h.len, tx.tmps_len (Nat.le_of_lt (Array.getElem?_eq_some_iff.1 ho).1)]
    rw [List.getElem?_set, List.getElem?_set, hl]
    simp only [if_true]
  · have e : (putL L o.dst (valAt tr j))[t]? = L[t]? := by
      cases hdd : o.dst with
      | none => rfl
      | some d =>
        simp only [putL]
        rw [List.getElem?_set_ne]
        intro e; subst e; exact hd hdd
    rw [e]
    refine h.slot t m hm fun i o' ho' hd' => ?_
    rw [← hw i o' ho' hd']
    constructor
    · exact .inl
    · rintro (h1 | rfl)
      · exact h1
      · rw [ho] at ho'; cases ho'; exact absurd hd' hd

theorem Drawn.downs (h : Drawn ops s last tr ρs ws ds D q ρ₀ ρ L a w) {j : Nat} (hah : ∀ k, Ahead ops k j → D k) : ∀ i k, (D i ∨ i = j) → Ahead ops k i → (D k ∨ k = j) := by
  rintro i k (h1 | rfl) hk
  · exact .inl (h.down i k h1 hk)
  · exact .inl (hah k hk)

/-- Behind an operation that turned nothing in memory. -/
theorem Drawn.calm (tx : Text P T X n ops s last tr) (h : Drawn ops s last tr ρs ws ds D q ρ₀ ρ L a w) {j : Nat} {o : Oper} (ho : ops[j]? = some o) (hnd : ¬ D j) (hah : ∀ k, Ahead ops k j → D k) (hnl : ¬ Lay ops tr last j) (hquiet : loudOp o.op = true → False)
    {cv : Value} (hv : TV ρ (valAt tr j) cv) : Drawn ops s last tr ρs ws ds (fun i => D i ∨ i = j) q ρ₀ ρ (putL L o.dst (valAt tr j)) (a.put o.dst cv) w := by
  refine ⟨h.q_le, h.downs hah, fun i o' ho' hl => ?_, h.post, h.le, ?_, h.apart, ?_, put_tmps h.tv hv _, ?_, h.slots tx ho hnd, by rw [put_defers]; exact h.defs⟩
  · rw [← h.loud i o' ho' hl]
    constructor
    · rintro (h1 | rfl)
      · exact h1
      · rw [ho] at ho'; cases ho'; exact (hquiet hl).elim
    · exact .inl
  · intro k p hk
    rcases h.pend k p hk with h1 | ⟨i, hi, h2⟩
    · exact .inl h1
    · exact .inr ⟨i, .inl hi, h2⟩
  · intro i hi hd
    exact h.late i hi fun hh => hd (.inl hh)
  · cases o.dst <;> simp [putL, h.len]

/-- A loud operation that isn't wanted. -/
theorem Drawn.loudOff (tx : Text P T X n ops s last tr) (h : Drawn ops s last tr ρs ws ds D q ρ₀ ρ L a w) {o : Oper} (ho : ops[q]? = some o) (hnd : ¬ D q) (hah : ∀ k, Ahead ops k q → D k) (hl : loudOp o.op = true) (hw : wantedL ops (stAt tr last q).tmps o = false)
    {cv : Value} (hv : TV ρ (valAt tr q) cv) : Drawn ops s last tr ρs ws ds (fun i => D i ∨ i = q) (q + 1) ρ₀ ρ (putL L o.dst (valAt tr q)) (a.put o.dst cv) w := by
  have hq := (Array.getElem?_eq_some_iff.1 ho).1
  have hH := (tx.off ho hw).2
  have hnl : ¬ Lay ops tr last q := by
    rintro ⟨o', ho', h1, _⟩
    rw [ho] at ho'; cases ho'
    unfold loudOp at hl
    simp [h1] at hl
  have hne : ∀ {i}, Lay ops tr last i → i ≠ q := fun hi e => hnl (e ▸ hi)
  refine ⟨hq, h.downs hah, fun i o' ho' hl' => ?_, by rw [hH]; exact h.post, h.le, ?_, by rw [hH]; exact h.apart, ?_, put_tmps h.tv hv _, ?_, h.slots tx ho hnd, by rw [put_defers]; exact h.defs⟩
  · constructor
    · rintro (h1 | rfl)
      · have := (h.loud i o' ho' hl').1 h1; omega
      · omega
    · intro h1
      rcases Nat.lt_or_ge i q with h2 | h2
      · exact .inl ((h.loud i o' ho' hl').2 h2)
      · exact .inr (by omega)
  · intro k p hk
    rcases h.pend k p hk with h1 | ⟨i, hi, hqi, rfl, hp⟩
    · exact .inl h1
    · have := hne hp.1
      exact .inr ⟨i, .inl hi, by omega, rfl, by rw [hH]; exact hp⟩
  · intro i hi hd
    obtain ⟨h1, h2⟩ := h.late i hi fun hh => hd (.inl hh)
    have := hne hi
    exact ⟨h1, fun hlt => by rw [hH]; exact h2 (by omega)⟩
  · cases o.dst <;> simp [putL, h.len]

/-- Behind an operation that lays a block. -/
theorem Drawn.lays (tx : Text P T X n ops s last tr) (h : Drawn ops s last tr ρs ws ds D q ρ₀ ρ L a w) {j : Nat} {o : Oper} (ho : ops[j]? = some o) (hnd : ¬ D j) (hah : ∀ k, Ahead ops k j → D k) (hlay : laysOp o.op = true) (hwant : wantedL ops (stAt tr last j).tmps o = true)
    (hjq : j ≠ q) {obj : AObj} {O : Obj} {Lp : Nat} (hH : (stAt tr last (j + 1)).heap = (stAt tr last j).heap.alloc obj) (hor : OR (ρ.cut (stAt tr last j).heap.next) 0 Lp obj O)
    {cv : Value} (hv : TV (ρ.ext (stAt tr last j).heap.next ⟨w.heap.size, 0, Lp⟩) (valAt tr j) cv) :
    ∃ ρ₀' ρ', Drawn ops s last tr ρs ws ds (fun i => D i ∨ i = j) q ρ₀' ρ' (putL L o.dst (valAt tr j)) (a.put o.dst cv) (w.alloc O) := by
  have hj := (Array.getElem?_eq_some_iff.1 ho).1
  have hL : Lay ops tr last j := ⟨o, ho, hlay, hwant⟩
  obtain ⟨hr, hlate⟩ := h.late j hL hnd
  have hle : ρ.le (ρ.ext (stAt tr last j).heap.next ⟨w.heap.size, 0, Lp⟩) := Inj.le_ext hr
  have hheap : ∀ (b : Nat) (O' : Obj), w.heap[b]? = some O' → (w.alloc O).heap[b]? = some O' := fun b O' hb => by
    show (w.heap.push O)[b]? = _
    rw [Array.getElem?_push]
    have := (Array.getElem?_eq_some_iff.1 hb).1
    simp [Nat.ne_of_lt this, hb]
  have hloud : ∀ i o, ops[i]? = some o → loudOp o.op = true → ((D i ∨ i = j) ↔ i < q) := fun i o' ho' hl => by
    rw [← h.loud i o' ho' hl]
    constructor
    · rintro (h1 | rfl)
      · exact h1
      · rw [ho] at ho'; cases ho'
        unfold loudOp at hl; simp [hlay] at hl
    · exact .inl
  have hn0 : ρ₀ (stAt tr last j).heap.next = none := by
    cases h0 : ρ₀ (stAt tr last j).heap.next with
    | none => rfl
    | some p => rw [h.le _ _ h0] at hr; cases hr
  have hpsz : ∀ {k p}, ρ k = some p → (stAt tr last q).heap.next ≤ k → p.b < w.heap.size := fun {k p} hk hge => by
    rcases h.pend k p hk with h1 | ⟨i, _, _, _, _, obj', O', _, a2, _⟩
    · exact absurd (h.post.mr.dom _ _ h1) (Nat.not_lt.2 hge)
    · exact (Array.getElem?_eq_some_iff.1 a2).1
  have hidne : ∀ {i}, Lay ops tr last i → i ≠ j → (stAt tr last i).heap.next ≠ (stAt tr last j).heap.next := fun hi hne e => hne (tx.id_inj hi hL e)
  have tmpsOK := put_tmps (h.tv.mono fun _ _ x => x.mono hle) hv o.dst
  have late' : ∀ i, Lay ops tr last i → ¬ (D i ∨ i = j) → (ρ.ext (stAt tr last j).heap.next ⟨w.heap.size, 0, Lp⟩) (stAt tr last i).heap.next = none ∧
      (i < q → (stAt tr last q).heap.get (stAt tr last i).heap.next = (stAt tr last (i + 1)).heap.get (stAt tr last i).heap.next) := fun i hi hd => by
    obtain ⟨h1, h2⟩ := h.late i hi fun hh => hd (.inl hh)
    refine ⟨?_, h2⟩
    rw [Inj.ext_other _ _ (hidne hi fun e => hd (.inr e))]
    exact h1
  rcases Nat.lt_or_ge j q with hlt | hge
  · -- its place in the text is behind us
    have hidlt := tx.id_lt hL hlt h.q_le
    have hHeld : ¬ Held ρ₀ (stAt tr last q).heap w.heap.size := fun hh => absurd (h.post.mr.held_lt hh) (Nat.lt_irrefl _)
    have hle0 : ρ₀.le (ρ₀.ext (stAt tr last j).heap.next ⟨w.heap.size, 0, Lp⟩) := Inj.le_ext hn0
    refine ⟨ρ₀.ext (stAt tr last j).heap.next ⟨w.heap.size, 0, Lp⟩, ρ.ext (stAt tr last j).heap.next ⟨w.heap.size, 0, Lp⟩, h.q_le, h.downs hah, hloud, ?_, ?_, ?_, ?_, late', tmpsOK, ?_, h.slots tx ho hnd, by rw [put_defers]; exact h.defs⟩
    · refine (h.post.push O).place hn0 hidlt ?_ (World.alloc_heap_new w O) ?_ hHeld h.post.size
      · have := tx.mono (Nat.zero_le j) (Nat.le_of_lt hj)
        rw [tx.zero] at this; exact this
      · intro o' ho'
        rw [hlate hlt, hH, AH.get_alloc_same] at ho'
        cases ho'
        exact hor.mono (Inj.le_trans (h.cut_le tx (Nat.le_of_lt hidlt)) hle0)
    · intro k p hk
      by_cases e : k = (stAt tr last j).heap.next
      · subst e; rw [Inj.ext_same] at hk ⊢; exact hk
      · rw [Inj.ext_other _ _ e] at hk ⊢; exact h.le k p hk
    · intro k p hk
      by_cases e : k = (stAt tr last j).heap.next
      · subst e; rw [Inj.ext_same] at hk; exact .inl (by rw [Inj.ext_same]; exact hk)
      · rw [Inj.ext_other _ _ e] at hk
        rcases h.pend k p hk with h1 | ⟨i, hi, hqi, rfl, hp, obj', O', a1, a2, a3, a4, a5, a6⟩
        · exact .inl (hle0 _ _ h1)
        · refine .inr ⟨i, .inl hi, hqi, rfl, hp, obj', O', a1, hheap _ _ a2, a3, a4.mono (Inj.cut_mono hle _), ?_, a6⟩
          intro hh
          rcases held_ext hh with h1 | h1
          · have := (Array.getElem?_eq_some_iff.1 a2).1
            simp only at h1; omega
          · exact a5 h1
    · intro k k' p p' hk hk' h1 h2 hpp
      rw [Inj.ext_other _ _ (by omega)] at hk hk'
      exact h.apart k k' p p' hk hk' h1 h2 hpp
    · cases o.dst <;> simp [putL, h.len]
  · -- it comes ahead of its place
    have hgt : q < j := by omega
    have hnextle := tx.mono hge (Nat.le_of_lt hj)
    refine ⟨ρ₀, ρ.ext (stAt tr last j).heap.next ⟨w.heap.size, 0, Lp⟩, h.q_le, h.downs hah, hloud, h.post.push O, Inj.le_trans h.le hle, ?_, ?_, late', tmpsOK, ?_, h.slots tx ho hnd, by rw [put_defers]; exact h.defs⟩
    · intro k p hk
      by_cases e : k = (stAt tr last j).heap.next
      · subst e
        rw [Inj.ext_same] at hk; cases hk
        refine .inr ⟨j, .inr rfl, hge, rfl, hL, obj, O, hH, World.alloc_heap_new w O, rfl, hor.mono (Inj.cut_mono hle _), fun hh => absurd (h.post.mr.held_lt hh) (Nat.lt_irrefl _), h.post.size⟩
      · rw [Inj.ext_other _ _ e] at hk
        rcases h.pend k p hk with h1 | ⟨i, hi, hqi, rfl, hp, obj', O', a1, a2, a3, a4, a5, a6⟩
        · exact .inl h1
        · exact .inr ⟨i, .inl hi, hqi, rfl, hp, obj', O', a1, hheap _ _ a2, a3, a4.mono (Inj.cut_mono hle _), a5, a6⟩
    · intro k k' p p' hk hk' h1 h2 hpp
      by_cases e : k = (stAt tr last j).heap.next <;> by_cases e' : k' = (stAt tr last j).heap.next
      · rw [e, e']
      · exfalso
        subst e
        rw [Inj.ext_same] at hk; cases hk
        rw [Inj.ext_other _ _ e'] at hk'
        have := hpsz hk' h2
        simp only at hpp; omega
      · exfalso
        subst e'
        rw [Inj.ext_same] at hk'; cases hk'
        rw [Inj.ext_other _ _ e] at hk
        have := hpsz hk h1
        simp only at hpp; omega
      · rw [Inj.ext_other _ _ e] at hk
        rw [Inj.ext_other _ _ e'] at hk'
        exact h.apart k k' p p' hk hk' h1 h2 hpp
    · cases o.dst <;> simp [putL, h.len]

/-- Behind a loud operation. -/
theorem Drawn.louder (tx : Text P T X n ops s last tr) (h : Drawn ops s last tr ρs ws ds D q ρ₀ ρ L a w) (hms : MR ρs s.heap ws) {o : Oper} (ho : ops[q]? = some o) (hnd : ¬ D q) (hah : ∀ k, Ahead ops k q → D k) (hl : loudOp o.op = true)
    {cv : Value} {ρ₀' : Inj} {w' : World} (hv : TV ρ₀' (valAt tr q) cv) (hp : Post ρ₀ (stAt tr last q).heap w ρ₀' (stAt tr last (q + 1)).heap w') :
    ∃ ρ', Drawn ops s last tr ρs ws ds (fun i => D i ∨ i = q) (q + 1) ρ₀' ρ' (putL L o.dst (valAt tr q)) (a.put o.dst cv) w' := by
  have hq := (Array.getElem?_eq_some_iff.1 ho).1
  have hnl : ¬ Lay ops tr last q := by
    rintro ⟨o', ho', h1, _⟩
    rw [ho] at ho'; cases ho'
    unfold loudOp at hl
    simp [h1] at hl
  have hne : ∀ {i}, Lay ops tr last i → i ≠ q := fun hi e => hnl (e ▸ hi)
  let ρ' : Inj := fun k => match ρ₀' k with | some p => some p | none => ρ k
  have hρ' : ∀ k, ρ' k = match ρ₀' k with | some p => some p | none => ρ k := fun _ => rfl
  have hle0 : ρ₀'.le ρ' := fun k p hk => by rw [hρ', hk]
  have hfar : ∀ {k p}, ρ₀' k = some p → k < (stAt tr last (q + 1)).heap.next := fun hk => hp.mr.dom _ _ hk
  have hidge : ∀ {i}, Lay ops tr last i → q ≤ i → (stAt tr last (q + 1)).heap.next ≤ (stAt tr last i).heap.next := fun {i} hi hqi => by
    have := hne hi
    exact tx.mono (by omega) (Nat.le_of_lt (lay_lt hi))
  have hle : ρ.le ρ' := fun k p hk => by
    rcases h.pend k p hk with h1 | ⟨i, hi, hqi, rfl, hpk⟩
    · rw [hρ', hp.le _ _ h1]
    · have : ρ₀' (stAt tr last i).heap.next = none := by
        cases hr : ρ₀' (stAt tr last i).heap.next with
        | none => rfl
        | some p' => have := hfar hr; have := hidge hpk.1 hqi; omega
      rw [hρ', this]; exact hk
  refine ⟨ρ', hq, h.downs hah, fun i o' ho' hl' => ?_, h.post.trans hms hp, hle0, ?_, ?_, ?_, put_tmps (h.tv.mono fun _ _ x => x.mono hle) (hv.mono hle0) _, ?_, h.slots tx ho hnd, by rw [put_defers]; exact h.defs⟩
  · constructor
    · rintro (h1 | rfl)
      · have := (h.loud i o' ho' hl').1 h1; omega
      · omega
    · intro h1
      rcases Nat.lt_or_ge i q with h2 | h2
      · exact .inl ((h.loud i o' ho' hl').2 h2)
      · exact .inr (by omega)
  · intro k p hk
    rw [hρ'] at hk
    cases hr : ρ₀' k with
    | some p' => rw [hr] at hk; exact .inl hk
    | none =>
      rw [hr] at hk
      simp only at hk
      rcases h.pend k p hk with h1 | ⟨i, hi, hqi, rfl, hpk, obj', O', a1, a2, a3, a4, a5, a6⟩
      · rw [hp.le _ _ h1] at hr; cases hr
      · have hb := (Array.getElem?_eq_some_iff.1 a2).1
        have := hne hpk
        refine .inr ⟨i, .inl hi, by omega, rfl, hpk, obj', O', a1, ?_, a3, a4.mono (Inj.cut_mono hle _), ?_, a6⟩
        · rw [hp.frame _ hb a5]; exact a2
        · exact fun hh => a5 (hp.held h.post.mr hb hh)
  · intro k k' p p' hk hk' h1 h2 hpp
    have none_of : ∀ {k}, (stAt tr last (q + 1)).heap.next ≤ k → ρ₀' k = none := fun {k} hk => by
      cases hr : ρ₀' k with
      | none => rfl
      | some p' => have := hfar hr; omega
    rw [hρ', none_of h1] at hk
    rw [hρ', none_of h2] at hk'
    exact h.apart k k' p p' hk hk' (Nat.le_trans hp.next h1) (Nat.le_trans hp.next h2) hpp
  · intro i hi hd
    obtain ⟨h1, h2⟩ := h.late i hi fun hh => hd (.inl hh)
    have hiq := hne hi
    have h0 : ρ₀ (stAt tr last i).heap.next = none := by
      cases hr : ρ₀ (stAt tr last i).heap.next with
      | none => rfl
      | some p => rw [h.le _ _ hr] at h1; cases h1
    have hn : ρ₀' (stAt tr last i).heap.next = none := by
      cases hr : ρ₀' (stAt tr last i).heap.next with
      | none => rfl
      | some p =>
        have a1 := (hp.new _ _ h0 hr).1
        have a2 := hfar hr
        rcases Nat.lt_or_ge i q with h3 | h3
        · have := tx.id_lt hi h3 (Nat.le_of_lt hq); omega
        · have := hidge hi h3; omega
    refine ⟨by rw [hρ', hn]; exact h1, fun hlt => ?_⟩
    have hlt : i < q := by omega
    rw [hp.keep _ (tx.id_lt hi hlt (Nat.le_of_lt hq)) h0]
    exact h2 hlt
  · cases o.dst <;> simp [putL, h.len]

end
end Go.Ev
