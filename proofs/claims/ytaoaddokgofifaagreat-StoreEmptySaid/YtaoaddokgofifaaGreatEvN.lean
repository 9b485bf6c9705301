/- A region that draws its order, by its run in the text's order. -/
import Derived.Test.YtaoaddokgofifaaGreatEvM
namespace Go.Ev
open Go.RowKit

theorem getD_set {listed : Array Bool} {i j : Nat} (hi : i < listed.size) : (listed.setIfInBounds i true).getD j false = true ↔ listed.getD j false = true ∨ j = i := by
  simp only [Array.getD_eq_getD_getElem?, Array.getElem?_setIfInBounds]
  by_cases e : i = j
  · subst e; simp [hi]
  · rw [if_neg e]
    constructor
    · exact .inl
    · rintro (h | h)
      · exact h
      · exact absurd h.symm e

section
variable {P : Program} {T : TT} {X : Prims} {n : Nat} {ops : Array Oper} {s last : St} {tr : List (St × Value)}

/-- The run in the text's order, and what was asked of it. -/
structure Text (P : Program) (T : TT) (X : Prims) (n : Nat) (ops : Array Oper) (s last : St) (tr : List (St × Value)) : Prop where
  ok : DrawOK ops
  zero : stAt tr last 0 = s
  fin : stAt tr last ops.size = last
  step : ∀ i o, ops[i]? = some o → evOneW P T X (evCode P T X n) ops o (stAt tr last i) = some (valAt tr i, (stAt tr last (i + 1)).heap) ∧
    (stAt tr last (i + 1)).tmps = putL (stAt tr last i).tmps o.dst (valAt tr i)
  grow : ∀ i, i < ops.size → (stAt tr last i).heap.next ≤ (stAt tr last (i + 1)).heap.next
  below : ∀ i o, ops[i]? = some o → stillOp o.op = false → wantedL ops (stAt tr last i).tmps o = true → ∀ x ∈ o.op.operands, belowV (stAt tr last i).heap.next (envL (stAt tr last i).tmps x) = true
  steady : ∀ i o, ops[i]? = some o → stillOp o.op = true → pureOp o.op = false → wantedL ops (stAt tr last i).tmps o = true → ∀ p, p ≤ ops.size → (p = ops.size ∨ ∃ o', ops[p]? = some o' ∧ loudOp o'.op = true) →
    (∀ e o', ops[e]? = some o' → loudOp o'.op = true → (e < p → ¬ Ahead ops i e) ∧ (p ≤ e → ¬ Ahead ops e i)) →
    (∃ H', evOp P T (envL (stAt tr last i).tmps) o.op (stAt tr last p).heap = some (valAt tr i, H')) ∧ ∀ x ∈ o.op.operands, belowV (stAt tr last p).heap.next (envL (stAt tr last i).tmps x) = true

theorem text_of (hd : drawOK ops = true) (ht : traceW P T X (evCode P T X n) ops ops.toList s = some (tr, last)) (hs : steadyW P T ops tr last = true) (hy : tidyW ops tr last = true) : Text P T X n ops s last tr := by
  obtain ⟨h1, h2, h3⟩ := trace_spec ht
  have hlen : tr.length = ops.size := by simpa using h1
  have some_of : ∀ {i o}, ops[i]? = some o → tr[i]? = some (stAt tr last i, valAt tr i) := fun {i o} ho => by
    have hi := (Array.getElem?_eq_some_iff.1 ho).1
    have : tr[i]? = some tr[i] := List.getElem?_eq_getElem (by omega)
    unfold stAt valAt
    rw [this]
  refine ⟨drawOK_spec hd, h2, ?_, fun i o ho => h3 i o (by simpa using ho), ?_, ?_, ?_⟩
  · unfold stAt
    rw [List.getElem?_eq_none (by omega)]
  · intro i hi
    obtain ⟨o, ho⟩ : ∃ o, ops[i]? = some o := ⟨_, Array.getElem?_eq_getElem hi⟩
    have := List.all_eq_true.1 hy i (List.mem_range.2 hi)
    rw [ho, some_of ho] at this
    simp only [Bool.and_eq_true, heapAhead_eq] at this
    exact Nat.le_of_ble_eq_true this.1
  · intro i o ho hns hw x hx
    have hi := (Array.getElem?_eq_some_iff.1 ho).1
    have := List.all_eq_true.1 hy i (List.mem_range.2 hi)
    rw [ho, some_of ho] at this
    simp only [Bool.and_eq_true, hns, hw, Bool.not_true, Bool.false_or] at this
    exact List.all_eq_true.1 this.2 x (by simpa using hx)
  · intro i o ho hst hnp hw p hp hpk hall
    have hi := (Array.getElem?_eq_some_iff.1 ho).1
    have := List.all_eq_true.1 hs i (List.mem_range.2 hi)
    rw [ho, some_of ho] at this
    simp only [hst, hnp, hw, Bool.not_false, Bool.and_self, if_true] at this
    have hmem : p ∈ louds ops ++ [ops.size] := by
      rw [List.mem_append]
      rcases hpk with rfl | hk
      · right; simp
      · left; exact mem_louds.2 hk
    have := List.all_eq_true.1 this p hmem
    have hcond : ((louds ops).all fun e => if e < p then !((Region.before ops).getD e 0).testBit i else !((Region.before ops).getD i 0).testBit e) = true := by
      rw [List.all_eq_true]
      intro e he
      obtain ⟨o', ho', hl'⟩ := mem_louds.1 he
      obtain ⟨a, b⟩ := hall e o' ho' hl'
      split
      · rename_i hlt
        have := a hlt
        unfold Ahead at this
        simpa using this
      · rename_i hge
        have := b (Nat.le_of_not_lt hge)
        unfold Ahead at this
        simpa using this
    rw [if_pos hcond, heapAhead_eq] at this
    split at this
    · rename_i v' H' hv'
      simp only [Bool.and_eq_true] at this
      refine ⟨⟨H', ?_⟩, fun x hx => List.all_eq_true.1 this.2 x (by simpa using hx)⟩
      rw [hv', eqV_eq this.1]
    · cases this

/-- An operation that lays a block, and comes to do so. -/
def Lay (ops : Array Oper) (tr : List (St × Value)) (last : St) (i : Nat) : Prop := ∃ o, ops[i]? = some o ∧ laysOp o.op = true ∧ wantedL ops (stAt tr last i).tmps o = true


theorem Text.mono (tx : Text P T X n ops s last tr) : ∀ {i j : Nat}, i ≤ j → j ≤ ops.size → (stAt tr last i).heap.next ≤ (stAt tr last j).heap.next := by
  intro i j hij
  induction hij with
  | refl => intro _; exact Nat.le_refl _
  | step h ih => intro hj; exact Nat.le_trans (ih (by omega)) (tx.grow _ (by omega))

theorem Text.okOps (tx : Text P T X n ops s last tr) {i : Nat} {o : Oper} (ho : ops[i]? = some o) (hw : wantedL ops (stAt tr last i).tmps o = true) :
    o.op.operands.toList.all okOperand = true ∧ evOperW P T X (evCode P T X n) (envL (stAt tr last i).tmps) o.op (stAt tr last i).heap = some (valAt tr i, (stAt tr last (i + 1)).heap) := by
  have := (tx.step i o ho).1
  unfold evOneW at this
  rw [if_pos hw] at this
  split at this
  · rename_i h; exact ⟨h, this⟩
  · cases this

theorem Text.off (tx : Text P T X n ops s last tr) {i : Nat} {o : Oper} (ho : ops[i]? = some o) (hw : wantedL ops (stAt tr last i).tmps o = false) : valAt tr i = undef ∧ (stAt tr last (i + 1)).heap = (stAt tr last i).heap := by
  have := (tx.step i o ho).1
  unfold evOneW at this
  rw [if_neg (by rw [hw]; simp)] at this
  simp only [Option.some.injEq, Prod.mk.injEq] at this
  exact ⟨this.1.symm, this.2.symm⟩

theorem Text.still (tx : Text P T X n ops s last tr) {i : Nat} {o : Oper} (ho : ops[i]? = some o) (hs : stillOp o.op = true) : (stAt tr last (i + 1)).heap = (stAt tr last i).heap := by
  cases hw : wantedL ops (stAt tr last i).tmps o with
  | false => exact (tx.off ho hw).2
  | true =>
    have := (tx.okOps ho hw).2
    rw [still_oper hs] at this
    exact still_same hs this

theorem Text.lay (tx : Text P T X n ops s last tr) {i : Nat} (h : Lay ops tr last i) : ∃ obj, (stAt tr last (i + 1)).heap = (stAt tr last i).heap.alloc obj := by
  obtain ⟨o, ho, hl, hw⟩ := h
  have := (tx.okOps ho hw).2
  rw [lays_oper hl] at this
  exact lays_alloc hl this

theorem Text.lay_next (tx : Text P T X n ops s last tr) {i : Nat} (h : Lay ops tr last i) : (stAt tr last (i + 1)).heap.next = (stAt tr last i).heap.next + 1 := by
  obtain ⟨obj, ho⟩ := tx.lay h
  rw [ho]; simp

theorem lay_lt {i : Nat} (h : Lay ops tr last i) : i < ops.size := let ⟨_, ho, _⟩ := h; (Array.getElem?_eq_some_iff.1 ho).1

theorem Text.id_lt (tx : Text P T X n ops s last tr) {i j : Nat} (h : Lay ops tr last i) (hij : i < j) (hj : j ≤ ops.size) : (stAt tr last i).heap.next < (stAt tr last j).heap.next := by
  have := tx.mono (show i + 1 ≤ j by omega) hj
  rw [tx.lay_next h] at this
  omega

theorem Text.id_inj (tx : Text P T X n ops s last tr) {i j : Nat} (hi : Lay ops tr last i) (hj : Lay ops tr last j) (h : (stAt tr last i).heap.next = (stAt tr last j).heap.next) : i = j := by
  rcases Nat.lt_trichotomy i j with h1 | h1 | h1
  · have := tx.id_lt hi h1 (Nat.le_of_lt (lay_lt hj)); omega
  · exact h1
  · have := tx.id_lt hj h1 (Nat.le_of_lt (lay_lt hi)); omega

theorem Text.tmps_len (tx : Text P T X n ops s last tr) : ∀ {i : Nat}, i ≤ ops.size → (stAt tr last i).tmps.length = s.tmps.length
  | 0, _ => by rw [tx.zero]
  | i + 1, h => by
    obtain ⟨o, ho⟩ : ∃ o, ops[i]? = some o := ⟨_, Array.getElem?_eq_getElem (by omega)⟩
    rw [(tx.step i o ho).2, ← Text.tmps_len tx (i := i) (by omega)]
    cases o.dst <;> simp [putL]

/-- What no operation from i up to j writes stays. -/
theorem Text.tmps_stay (tx : Text P T X n ops s last tr) {i : Nat} {t : Tmp} : ∀ {j : Nat}, i ≤ j → j ≤ ops.size → (∀ k o, i ≤ k → k < j → ops[k]? = some o → o.dst ≠ some t) → (stAt tr last j).tmps[t]? = (stAt tr last i).tmps[t]? := by
  intro j hij
  induction hij with
  | refl => intro _ _; rfl
  | @step m hm ih =>
    intro hj h
    have hm : i ≤ m := hm
    obtain ⟨o, ho⟩ : ∃ o, ops[m]? = some o := ⟨_, Array.getElem?_eq_getElem (by omega)⟩
    rw [← ih (by omega) (fun k o hk hkj => h k o hk (by omega)), (tx.step m o ho).2]
    have hne := h m o hm (by omega) ho
    cases hd : o.dst with
    | none => rfl
    | some d =>
      simp only [putL]
      rw [List.getElem?_set_ne]
      intro e; subst e; exact hne hd
end

/-- A block that was laid ahead of its turn. -/
def PendOK (ops : Array Oper) (tr : List (St × Value)) (last : St) (ρ₀ ρ : Inj) (H : AH) (base : Nat) (w : World) (i : Nat) (p : Pl) : Prop :=
  Lay ops tr last i ∧ ∃ obj O, (stAt tr last (i + 1)).heap = (stAt tr last i).heap.alloc obj ∧ w.heap[p.b]? = some O ∧ p.d = 0 ∧ OR (ρ.cut (stAt tr last i).heap.next) 0 p.L obj O ∧ ¬ Held ρ₀ H p.b ∧ base ≤ p.b

/-- What holds behind the operations D, where the loud ones among them are those ahead of q. -/
structure Drawn (ops : Array Oper) (s last : St) (tr : List (St × Value)) (ρs : Inj) (ws : World) (ds : List Deferred) (D : Nat → Prop) (q : Nat) (ρ₀ ρ : Inj) (L : List Value) (a : Act) (w : World) : Prop where
  q_le : q ≤ ops.size
  down : ∀ i j, D i → Ahead ops j i → D j
  loud : ∀ i o, ops[i]? = some o → loudOp o.op = true → (D i ↔ i < q)
  post : Post ρs s.heap ws ρ₀ (stAt tr last q).heap w
  le : ρ₀.le ρ
  pend : ∀ k p, ρ k = some p → ρ₀ k = some p ∨ ∃ i, D i ∧ q ≤ i ∧ k = (stAt tr last i).heap.next ∧ PendOK ops tr last ρ₀ ρ (stAt tr last q).heap ws.heap.size w i p
  apart : ∀ k k' p p', ρ k = some p → ρ k' = some p' → (stAt tr last q).heap.next ≤ k → (stAt tr last q).heap.next ≤ k' → p.b = p'.b → k = k'
  late : ∀ i, Lay ops tr last i → ¬ D i → ρ (stAt tr last i).heap.next = none ∧ (i < q → (stAt tr last q).heap.get (stAt tr last i).heap.next = (stAt tr last (i + 1)).heap.get (stAt tr last i).heap.next)
  tv : All2 (TV ρ) L a.tmps.toList
  len : L.length = s.tmps.length
  slot : ∀ t m, m ≤ ops.size → (∀ i o, ops[i]? = some o → o.dst = some t → (D i ↔ i < m)) → L[t]? = (stAt tr last m).tmps[t]?
  defs : a.defers = ds

section
variable {P : Program} {T : TT} {X : Prims} {n : Nat} {ops : Array Oper} {s last : St} {tr : List (St × Value)}
variable {ρs ρ₀ ρ : Inj} {ws w : World} {ds : List Deferred} {D : Nat → Prop} {q : Nat} {L : List Value} {a : Act}

theorem Drawn.start (tx : Text P T X n ops s last tr) {ρs : Inj} {ws : World} {a : Act} (hm : MR ρs s.heap ws) (hl : All2 (TV ρs) s.tmps a.tmps.toList) : Drawn ops s last tr ρs ws a.defers (fun _ => False) 0 ρs ρs s.tmps a ws := by
  have h0 := tx.zero
  refine ⟨Nat.zero_le _, fun _ _ h => h.elim, fun i o _ _ => by simp, by rw [h0]; exact .refl hm, Inj.le_refl _, fun k p h => .inl h, ?_, ?_, hl, rfl, ?_, rfl⟩
  · intro k k' p p' hk _ hle
    rw [h0] at hle
    exact absurd (hm.dom k p hk) (Nat.not_lt.2 hle)
  · intro i hi _
    refine ⟨?_, fun h => absurd h (Nat.not_lt_zero _)⟩
    cases hr : ρs (stAt tr last i).heap.next with
    | none => rfl
    | some p =>
      have h1 := hm.dom _ _ hr
      have h2 := tx.mono (Nat.zero_le i) (Nat.le_of_lt (lay_lt hi))
      rw [h0] at h2
      omega
  · intro t m hm hw
    rw [← h0]
    exact (tx.tmps_stay (Nat.zero_le m) hm fun k o _ hk ho hd => (hw k o ho hd).2 hk).symm

/-- What the blocks below the next one are. -/
theorem Drawn.cut_le (tx : Text P T X n ops s last tr) (h : Drawn ops s last tr ρs ws ds D q ρ₀ ρ L a w) {m : Nat} (hm : m ≤ (stAt tr last q).heap.next) : (ρ.cut m).le ρ₀ := by
  intro k p hk
  obtain ⟨hlt, hk⟩ := Inj.cut_some.1 hk
  rcases h.pend k p hk with h1 | ⟨i, _, hqi, rfl, hp⟩
  · exact h1
  · have := tx.mono hqi (Nat.le_of_lt (lay_lt hp.1))
    omega

/-- The text's hand goes on over an operation that isn't loud. -/
theorem Drawn.advance (tx : Text P T X n ops s last tr) (h : Drawn ops s last tr ρs ws ds D q ρ₀ ρ L a w) {o : Oper} (ho : ops[q]? = some o) (hnl : loudOp o.op = false) : ∃ ρ₀', Drawn ops s last tr ρs ws ds D (q + 1) ρ₀' ρ L a w := by
  have hq := (Array.getElem?_eq_some_iff.1 ho).1
  have hloud : ∀ i o, ops[i]? = some o → loudOp o.op = true → (D i ↔ i < q + 1) := fun i o' ho' hl => by
    rw [h.loud i o' ho' hl]
    constructor
    · intro h; omega
    · intro h1
      rcases Nat.lt_or_ge i q with h2 | h2
      · exact h2
      · have : i = q := by omega
        subst this
        rw [ho] at ho'; cases ho'
        rw [hnl] at hl; cases hl
  by_cases hlay : Lay ops tr last q
  · obtain ⟨obj, hH⟩ := tx.lay hlay
    have hn0 := h.post.none_next
    have hnext : (stAt tr last (q + 1)).heap.next = (stAt tr last q).heap.next + 1 := tx.lay_next hlay
    cases hr : ρ (stAt tr last q).heap.next with
    | none =>
      refine ⟨ρ₀, hq, h.down, hloud, ?_, h.le, ?_, ?_, ?_, h.tv, h.len, h.slot, h.defs⟩
      · rw [hH]; exact h.post.lay obj
      · intro k p hk
        rcases h.pend k p hk with h1 | ⟨i, hi, hqi, rfl, hp, obj', O, a1, a2, a3, a4, a5, a6⟩
        · exact .inl h1
        · have hne : i ≠ q := fun e => by subst e; rw [hr] at hk; cases hk
          refine .inr ⟨i, hi, by omega, rfl, hp, obj', O, a1, a2, a3, a4, ?_, a6⟩
          rw [hH]
          exact fun hh => a5 (held_alloc hn0 hh)
      · intro k k' p p' hk hk' h1 h2
        exact h.apart k k' p p' hk hk' (by omega) (by omega)
      · intro i hi hd
        obtain ⟨h1, h2⟩ := h.late i hi hd
        refine ⟨h1, fun hlt => ?_⟩
        by_cases e : i = q
        · subst e; rfl
        · have hiq : i < q := by omega
          rw [← h2 hiq, hH]
          exact AH.get_alloc_other _ _ (Nat.ne_of_lt (tx.id_lt hi hiq (Nat.le_of_lt hq)))
    | some p =>
      obtain ⟨i, hi, hqi, hk, hp, obj', O, a1, a2, a3, a4, a5, a6⟩ := (h.pend _ p hr).resolve_left fun e => by rw [hn0] at e; cases e
      have hiq : i = q := (tx.id_inj hlay hp hk).symm
      subst hiq
      rw [hH] at a1
      have hobj : obj = obj' := by
        have e1 := AH.get_alloc_same (stAt tr last i).heap obj
        rw [a1, AH.get_alloc_same] at e1
        exact (Option.some.inj e1).symm
      subst hobj
      have hle0 : ρ₀.le (ρ₀.ext (stAt tr last i).heap.next p) := Inj.le_ext hn0
      have hle : (ρ₀.ext (stAt tr last i).heap.next p).le ρ := fun k q hk => by
        by_cases e : k = (stAt tr last i).heap.next
        · subst e; rw [Inj.ext_same] at hk; cases hk; exact hr
        · rw [Inj.ext_other _ _ e] at hk; exact h.le k q hk
      refine ⟨ρ₀.ext (stAt tr last i).heap.next p, hq, h.down, hloud, ?_, hle, ?_, ?_, ?_, h.tv, h.len, h.slot, h.defs⟩
      · rw [hH]
        refine (h.post.lay obj).place hn0 (by simp) (h.post.next) a2 ?_ (fun hh => a5 (held_alloc hn0 hh)) a6
        intro o' ho'
        rw [AH.get_alloc_same] at ho'; cases ho'
        rw [a3]
        exact a4.mono (Inj.le_trans (h.cut_le tx (Nat.le_refl _)) hle0)
      · intro k p' hk
        by_cases e : k = (stAt tr last i).heap.next
        · subst e
          rw [hr] at hk; cases hk
          exact .inl (Inj.ext_same _ _ _)
        · rcases h.pend k p' hk with h1 | ⟨i', hi', hqi', rfl, hp', obj', O', b1, b2, b3, b4, b5, b6⟩
          · exact .inl (hle0 _ _ h1)
          · refine .inr ⟨i', hi', ?_, rfl, hp', obj', O', b1, b2, b3, b4, ?_, b6⟩
            · rcases Nat.lt_or_ge i i' with h1 | h1
              · exact h1
              · have : i' = i := by omega
                subst this; exact absurd rfl e
            · rw [hH]
              intro hh
              rcases held_ext hh with h1 | h1
              · exact e (h.apart _ _ p' p hk hr (tx.mono hqi' (Nat.le_of_lt (lay_lt hp'))) (Nat.le_refl _) h1)
              · exact b5 (held_alloc hn0 h1)
      · intro k k' p1 p2 hk hk' h1 h2
        exact h.apart k k' p1 p2 hk hk' (by omega) (by omega)
      · intro i' hi' hd
        obtain ⟨h1, h2⟩ := h.late i' hi' hd
        refine ⟨h1, fun hlt => ?_⟩
        by_cases e : i' = i
        · subst e; rfl
        · have hiq : i' < i := by omega
          rw [← h2 hiq, hH]
          exact AH.get_alloc_other _ _ (Nat.ne_of_lt (tx.id_lt hi' hiq (Nat.le_of_lt hq)))
  · have hH : (stAt tr last (q + 1)).heap = (stAt tr last q).heap := by
      rcases kinds o.op with h1 | h1 | h1
      · exact tx.still ho h1.1
      · cases hw : wantedL ops (stAt tr last q).tmps o with
        | false => exact (tx.off ho hw).2
        | true => exact absurd ⟨o, ho, h1.1, hw⟩ hlay
      · rw [hnl] at h1; cases h1.1
    refine ⟨ρ₀, hq, h.down, hloud, by rw [hH]; exact h.post, h.le, ?_, by rw [hH]; exact h.apart, ?_, h.tv, h.len, h.slot, h.defs⟩
    · intro k p hk
      rcases h.pend k p hk with h1 | ⟨i, hi, hqi, rfl, hp⟩
      · exact .inl h1
      · refine .inr ⟨i, hi, ?_, rfl, by rw [hH]; exact hp⟩
        rcases Nat.lt_or_ge q i with h1 | h1
        · exact h1
        · have : i = q := by omega
          subst this; exact absurd hp.1 hlay
    · intro i hi hd
      obtain ⟨h1, h2⟩ := h.late i hi hd
      refine ⟨h1, fun hlt => ?_⟩
      rw [hH]
      refine h2 ?_
      rcases Nat.lt_or_ge i q with h3 | h3
      · exact h3
      · have : i = q := by omega
        subst this; exact absurd hi hlay

/-- The text's hand stands ahead of a loud operation, or at the end. -/
theorem Drawn.normal (tx : Text P T X n ops s last tr) : ∀ (k q : Nat) {ρ₀ : Inj}, Drawn ops s last tr ρs ws ds D q ρ₀ ρ L a w → ops.size ≤ q + k → ∃ q' ρ₀', Drawn ops s last tr ρs ws ds D q' ρ₀' ρ L a w ∧ (q' = ops.size ∨ ∃ o, ops[q']? = some o ∧ loudOp o.op = true)
  | 0, q, ρ₀, h, hk => ⟨q, ρ₀, h, .inl (by have := h.q_le; omega)⟩
  | k + 1, q, ρ₀, h, hk => by
    by_cases hq : q = ops.size
    · exact ⟨q, ρ₀, h, .inl hq⟩
    · have hq : q < ops.size := by have := h.q_le; omega
      have ho : ops[q]? = some ops[q] := Array.getElem?_eq_getElem hq
      cases hl : loudOp ops[q].op with
      | true => exact ⟨q, ρ₀, h, .inr ⟨_, ho, hl⟩⟩
      | false =>
        obtain ⟨ρ₀', h'⟩ := h.advance tx ho hl
        exact Drawn.normal tx k (q + 1) h' (by omega)

end
end Go.Ev
