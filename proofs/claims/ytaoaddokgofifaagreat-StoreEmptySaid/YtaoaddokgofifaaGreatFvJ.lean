/- Regions of the swifter evaluator are the evaluator's. -/
import Derived.Test.YtaoaddokgofifaaGreatFvI
namespace Go.Fv
open Go.Ev

section
variable {P : Program} {T : TT} {X : Prims} {D m : Nat}

theorem isB_eq {v : Value} {want : Bool} {a b : Ans} {r : Value × AH} (h : isB v want a b = some r) : (v = .bool want ∧ a = some r) ∨ (v ≠ .bool want ∧ b = some r) := by
  cases v
  case bool x =>
    cases x <;> cases want
    · exact .inl ⟨rfl, h⟩
    · exact .inr ⟨by simp, h⟩
    · exact .inr ⟨by simp, h⟩
    · exact .inl ⟨rfl, h⟩
  all_goals exact .inr ⟨by simp, h⟩

theorem wanted_some {ops : Array Oper} {o : Oper} {j s : Nat} {want : Bool} (hg : o.guard = some (j, want)) (hs : guardOf ops j = some s) (hm : s < m) (t : NT D) :
    wantedL ops (toL m t) o = true ↔ getN D s t = .bool want := by
  unfold wantedL
  rw [hg]
  have e : ((ops[j]?).bind (·.dst)) = some s := hs
  simp only [e, Option.bind_some, toL_get t hm]
  cases getN D s t <;> simp
theorem wanted_none {ops : Array Oper} {o : Oper} (hg : o.guard = none) (l : List Value) : wantedL ops l o = true := by
  unfold wantedL
  rw [hg]

/-- The slots behind a value. -/
def putD (d : Option Tmp) (v : Value) (t : NT D) : NT D := match d with | some i => setN D i v t | none => t
theorem cPut_eq {d : Option Tmp} {c : Ob D} (hd : dstOK m d = true) {rc : RC} {t : NT D} {H : AH} {k : Value → NT D → AH → Ans} {r : Value × AH} (h : (cPut D d c).run rc t H k = some r) :
    c.run rc t H (fun v H' => k v (putD d v t) H') = some r := by
  obtain ⟨f⟩ := c
  cases d with
  | none => exact h
  | some i =>
    simp only [cPut] at h
    cases hs : cSet D i with
    | mk w =>
      rw [hs] at h
      have e : ∀ v t k, w v t k = k (setN D i v t) := fun v t k => by
        have := cSet_run D i v t k
        rw [hs] at this; exact this
      simp only [e] at h
      exact h
theorem toL_put (hD : m ≤ 8 ^ D) {d : Option Tmp} (hd : dstOK m d = true) (t : NT D) (v : Value) : toL m (putD d v t) = putL (toL m t) d v := by
  cases d with
  | none => rfl
  | some i => exact toL_set hD t (blt_of hd) v

/-! ### what is asked where the order is drawn -/
theorem addr_below {a : Option Addr} {n : Nat} {k : Ans} {r : Value × AH} (h : Option.rec (motive := fun _ => Ans) k (fun a => iteC (Nat.blt a.block n) k none) a = some r) :
    (match a with | some a => Nat.blt a.block n | none => true) = true ∧ k = some r := by
  cases a with
  | none => exact ⟨rfl, h⟩
  | some a => exact iteC_true h
theorem below1C_eq {n : Nat} {v : Value} {k : Ans} {r : Value × AH} (h : below1C n v k = some r) : below1 n v = true ∧ k = some r := by
  cases v
  case pointer a => cases a with | none => exact ⟨rfl, h⟩ | some a => exact iteC_true h
  case slice a _ _ => cases a with | none => exact ⟨rfl, h⟩ | some a => exact iteC_true h
  case agg c => exact ⟨rfl, (iteC_true h).2⟩
  case tuple c => exact ⟨rfl, (iteC_true h).2⟩
  case bool => exact ⟨rfl, h⟩
  case int => exact ⟨rfl, h⟩
  all_goals exact iteC_true h
theorem belowL_eq {n : Nat} {k : Ans} {r : Value × AH} : ∀ {l : List Value}, belowL n l k = some r → (∀ x ∈ l, below1 n x = true ∧ (∀ c, x = .agg c → belowV n x = true) ∧ (∀ c, x = .tuple c → belowV n x = true)) ∧ k = some r
  | [], h => ⟨fun _ hx => (by cases hx), h⟩
  | x :: l, h => by
    have h' : below1C n x (belowL n l k) = some r := h
    obtain ⟨h1, h2⟩ := below1C_eq h'
    obtain ⟨h3, h4⟩ := belowL_eq h2
    refine ⟨fun y hy => ?_, h4⟩
    rcases List.mem_cons.1 hy with rfl | hy
    · refine ⟨h1, ?_, ?_⟩
      · rintro c rfl; exact (iteC_true (show iteC (belowV n (.agg c)) (belowL n l k) none = some r from h')).1
      · rintro c rfl; exact (iteC_true (show iteC (belowV n (.tuple c)) (belowL n l k) none = some r from h')).1
    · exact h3 y hy
theorem belowA_of {n : Nat} {x : Value} (h1 : below1 n x = true) (h2 : ∀ c, x = .agg c → belowV n x = true) : belowA n x = true := by
  cases x <;> first | exact h1 | exact h2 _ rfl
theorem belowC_eq {n : Nat} {v : Value} {k : Ans} {r : Value × AH} (h : belowC n v k = some r) : belowV n v = true ∧ k = some r := by
  cases v
  case pointer a => cases a with | none => exact ⟨rfl, h⟩ | some a => exact iteC_true h
  case slice a _ _ => cases a with | none => exact ⟨rfl, h⟩ | some a => exact iteC_true h
  case agg c =>
    obtain ⟨h1, h2⟩ := belowL_eq h
    exact ⟨by show c.toList.all (below1 n) = true; rw [List.all_eq_true]; exact fun x hx => (h1 x hx).1, h2⟩
  case tuple c =>
    obtain ⟨h1, h2⟩ := belowL_eq h
    refine ⟨?_, h2⟩
    show c.toList.all (belowA n) = true
    rw [List.all_eq_true]
    exact fun x hx => belowA_of (h1 x hx).1 (h1 x hx).2.1
  case bool => exact ⟨rfl, h⟩
  case int => exact ⟨rfl, h⟩
  all_goals exact iteC_true h

theorem closed_below0 {n : Nat} {v : Value} (h : closed1 v = true) : below0 n v = true ∧ below1 n v = true ∧ (∀ c, v ≠ .agg c) ∧ ∀ c, v ≠ .tuple c := by
  cases v
  case pointer a => cases a with | none => exact ⟨rfl, rfl, fun _ => by simp, fun _ => by simp⟩ | some a => cases h
  case slice a l c => cases a with | none => exact ⟨rfl, rfl, fun _ => by simp, fun _ => by simp⟩ | some a => cases h
  case map a => cases a with | none => exact ⟨rfl, rfl, fun _ => by simp, fun _ => by simp⟩ | some a => cases h
  case chan a => cases a with | none => exact ⟨rfl, rfl, fun _ => by simp, fun _ => by simp⟩ | some a => cases h
  all_goals first | (cases h; done) | exact ⟨rfl, rfl, fun _ => by simp, fun _ => by simp⟩
theorem const_below {n : Nat} {v : Value} (h : v.cells.toList.all closed1 = true) : belowV n v = true := by
  cases v
  case agg c =>
    show c.toList.all (below1 n) = true
    rw [List.all_eq_true] at h ⊢
    exact fun x hx => (closed_below0 (h x hx)).2.1
  case tuple c =>
    have : closed1 (.tuple c) = true := by simpa [Value.cells] using h
    cases this
  all_goals
    have := (closed_below0 (n := n) (by simpa [Value.cells] using h)).2.1
    exact this
theorem cBelow_eq {t : NT D} {n : Nat} {k : Ans} {r : Value × AH} : ∀ {l : List Operand}, l.all okOperand = true → (cBelow D m l).run t n k = some r → (l.all fun x => belowV n (envL (toL m t) x)) = true ∧ k = some r
  | [], _, h => ⟨rfl, h⟩
  | x :: l, ho, h => by
    simp only [List.all_cons, Bool.and_eq_true] at ho ⊢
    cases x with
    | tmp i =>
      simp only [cBelow] at h
      cases hx : cArg D m (.tmp i) with
      | mk f =>
        cases hl : cBelow D m l with
        | mk g =>
          rw [hx, hl] at h
          dsimp only at h
          obtain ⟨h1, h2⟩ := belowC_eq h
          rw [arg_of hx] at h1
          have ih := cBelow_eq (t := t) (n := n) (k := k) (r := r) ho.2
          rw [hl] at ih
          obtain ⟨h3, h4⟩ := ih h2
          exact ⟨⟨h1, h3⟩, h4⟩
    | const v =>
      obtain ⟨h3, h4⟩ := cBelow_eq (t := t) (n := n) (k := k) (r := r) ho.2 (show (cBelow D m l).run t n k = some r from h)
      exact ⟨⟨const_below ho.1, h3⟩, h4⟩
    | global g => cases ho.1
    | func f =>
      obtain ⟨h3, h4⟩ := cBelow_eq (t := t) (n := n) (k := k) (r := r) ho.2 (show (cBelow D m l).run t n k = some r from h)
      exact ⟨⟨rfl, h3⟩, h4⟩

/-- One operation of a region, and what was put. -/
theorem cOne_ok (hD : m ≤ 8 ^ D) {draw : Bool} {ops : Array Oper} {o : Oper} {rc : RC} (hrc : RCOK P T X rc) {t : NT D} {H : AH} {k : Value → NT D → AH → Ans} {r : Value × AH} (h : (cOne P T D m draw ops o).run rc t H k = some r) :
    ∃ n v t' H', evOneW P T X (evCode P T X n) ops o ⟨toL m t, H⟩ = some (v, H') ∧ toL m t' = putL (toL m t) o.dst v ∧ k v t' H' = some r ∧
      o.op.operands.toList.all okOperand = true ∧ (draw = true → H.next ≤ H'.next ∧ (stillOp o.op || !wantedL ops (toL m t) o || o.op.operands.toList.all fun x => belowV H.next (envL (toL m t) x)) = true) := by
  unfold cOne at h
  split at h
  · rename_i hc
    simp only [Bool.and_eq_true] at hc
    obtain ⟨ho, hd⟩ := hc
    -- the operation itself
    have act : ∀ {k : Value → NT D → AH → Ans}, wantedL ops (toL m t) o = true → (cPut D o.dst (cTidy D m draw o.op (cOpn P T D m o.op))).run rc t H k = some r →
        ∃ n v t' H', evOneW P T X (evCode P T X n) ops o ⟨toL m t, H⟩ = some (v, H') ∧ toL m t' = putL (toL m t) o.dst v ∧ k v t' H' = some r ∧
          o.op.operands.toList.all okOperand = true ∧ (draw = true → H.next ≤ H'.next ∧ (stillOp o.op || !wantedL ops (toL m t) o || o.op.operands.toList.all fun x => belowV H.next (envL (toL m t) x)) = true) := fun {k} hw h => by
      have h1 := cPut_eq hd h
      unfold cTidy at h1
      split at h1
      · rename_i hdr
        simp only [Bool.and_eq_true, Bool.not_eq_true'] at hdr
        cases hf : cOpn P T D m o.op with
        | mk f => cases hg : cBelow D m o.op.operands.toList with
          | mk g =>
            rw [hf, hg] at h1
            have h2 : (cBelow D m o.op.operands.toList).run t H.next (f rc t H (fun v H' => iteC (Nat.ble H.next H'.next) (k v (putD o.dst v t) H') none)) = some r := by
              rw [hg]; exact h1
            obtain ⟨h3, h4⟩ := cBelow_eq ho h2
            have hok := cOpn_ok (P := P) (T := T) (X := X) (D := D) (m := m) o.op
            rw [hf] at hok
            obtain ⟨n, v, H', h5, h6⟩ := hok rc hrc t H _ r h4
            obtain ⟨h7, h8⟩ := iteC_true h6
            refine ⟨n, v, _, H', ?_, toL_put hD hd t v, h8, ho, fun _ => ⟨ble_of h7, ?_⟩⟩
            · unfold evOneW
              rw [if_pos hw, if_pos ho]
              exact h5
            · rw [h3]; simp
      · rename_i hdr
        have hok := cOpn_ok (P := P) (T := T) (X := X) (D := D) (m := m) o.op
        obtain ⟨n, v, H', h5, h6⟩ := hok rc hrc t H _ r h1
        refine ⟨n, v, _, H', ?_, toL_put hD hd t v, h6, ho, fun hdw => ?_⟩
        · unfold evOneW
          rw [if_pos hw, if_pos ho]
          exact h5
        · have hst : stillOp o.op = true := by
            cases hs : stillOp o.op with
            | true => rfl
            | false => exact absurd (by rw [hdw, hs]; rfl) hdr
          have h5' : evOp P T (envL (toL m t)) o.op H = some (v, H') := by rw [← h5]; exact (still_oper hst).symm
          rw [still_same hst h5']
          exact ⟨Nat.le_refl _, by rw [hst]; rfl⟩
    cases hg : o.guard with
    | none =>
      cases hp : cPut D o.dst (cTidy D m draw o.op (cOpn P T D m o.op)) with
      | mk f =>
        rw [hp, hg] at h
        exact act (wanted_none hg _) (by rw [hp]; exact h)
    | some jw =>
      obtain ⟨j, want⟩ := jw
      cases hp : cPut D o.dst (cTidy D m draw o.op (cOpn P T D m o.op)) with
      | mk f =>
        rw [hp, hg] at h
        dsimp only at h
        cases hs : guardOf ops j with
        | none => rw [hs] at h; cases h
        | some s =>
          rw [hs] at h
          dsimp only at h
          split at h
          · rename_i hsm
            have hsm := blt_of hsm
            cases hgt : cGet D s with
            | mk g => cases hw : cPut D o.dst (⟨fun _ _ H k => k undef H⟩ : Ob D) with
              | mk w =>
                rw [hgt, hw] at h
                dsimp only at h
                have eg : g t = getN D s t := by
                  have := cGet_run D s t
                  rw [hgt] at this; exact this
                have hwn := wanted_some (D := D) (m := m) hg hs hsm t
                rcases isB_eq h with ⟨h1, h2⟩ | ⟨h1, h2⟩
                · rw [eg] at h1
                  exact act (hwn.2 h1) (by rw [hp]; exact h2)
                · rw [eg] at h1
                  have hnw : wantedL ops (toL m t) o = false := by
                    cases hb : wantedL ops (toL m t) o with
                    | false => rfl
                    | true => exact absurd (hwn.1 hb) h1
                  have h3 : (cPut D o.dst (⟨fun _ _ H k => k undef H⟩ : Ob D)).run rc t H k = some r := by rw [hw]; exact h2
                  have h4 := cPut_eq hd h3
                  refine ⟨0, undef, _, H, ?_, toL_put hD hd t undef, h4, ho, fun _ => ⟨Nat.le_refl _, by rw [hnw]; simp⟩⟩
                  unfold evOneW
                  rw [if_neg (by rw [hnw]; simp)]
          · cases h
  · cases h

theorem cOps_ok (hD : m ≤ 8 ^ D) {ops : Array Oper} {rc : RC} (hrc : RCOK P T X rc) {k : NT D → AH → Ans} {r : Value × AH} : ∀ {l : List Oper} {t : NT D} {H : AH}, (cOps P T D m ops l).run rc t H k = some r →
    ∃ n t' H', evOpsW P T X (evCode P T X n) ops l ⟨toL m t, H⟩ = some ⟨toL m t', H'⟩ ∧ k t' H' = some r
  | [], t, H, h => ⟨0, t, H, rfl, h⟩
  | o :: l, t, H, h => by
    simp only [cOps] at h
    cases ho : cOne P T D m false ops o with
    | mk f => cases hl : cOps P T D m ops l with
      | mk g =>
        rw [ho, hl] at h
        have h1 : (cOne P T D m false ops o).run rc t H (fun _ t' H' => g rc t' H' k) = some r := by rw [ho]; exact h
        obtain ⟨n1, v, t1, H1, h2, h3, h4, _, _⟩ := cOne_ok hD hrc h1
        have ih := cOps_ok hD (ops := ops) hrc (k := k) (r := r) (l := l) (t := t1) (H := H1)
        rw [hl] at ih
        obtain ⟨n2, t2, H2, h5, h6⟩ := ih h4
        refine ⟨max n1 n2, t2, H2, ?_, h6⟩
        unfold evOpsW
        rw [evOneW_le (evCode_le (Nat.le_max_left n1 n2)) h2]
        simp only
        rw [← h3]
        exact evOpsW_le (evCode_le (Nat.le_max_right n1 n2)) h5
end
end Go.Fv
