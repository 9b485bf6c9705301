/- Single operations of the swifter evaluator are the evaluator's: new blocks, values of parts, sums. -/
import Derived.Test.YtaoaddokgofifaaGreatFvF
namespace Go.Fv
open Go.Ev

section
variable {P : Program} {T : TT} {X : Prims} {D m : Nat}

theorem alloc_ev {e : TypeId} : EvOK P T m (cOpn P T D m (.alloc e)) (.alloc e) := by
  intro rc t H k r hr
  simp only [cOpn] at hr
  cases hz : zeroT T e with
  | none => rw [hz] at hr; cases hr
  | some z =>
    rw [hz] at hr
    have h1 := allocC_eq hr
    exact ⟨_, _, by simp only [evOp, hz], h1⟩

theorem box_ev {e : TypeId} {x : Operand} : EvOK P T m (cOpn P T D m (.box e x)) (.box e x) := by
  intro rc t H k r hr
  simp only [cOpn] at hr
  cases hx : cArg D m x with
  | mk f =>
    rw [hx] at hr
    dsimp only at hr
    have e1 := arg_of hx t
    rcases isOne_eq hr with ⟨h1, h2⟩ | h2
    · have h3 := allocC_eq h2
      rw [e1] at h1 h3
      refine ⟨_, _, ?_, h3⟩
      simp only [evOp, cells_one h1]
      rw [if_pos (by simp [h1])]
    · rcases vAgg_eq h2 with ⟨c, h3, h4⟩ | h3
      · obtain ⟨h5, h6⟩ := all1C_eq h4
        have h7 := allocC_eq h6
        rw [e1] at h3
        refine ⟨_, _, ?_, h7⟩
        have e2 : (Value.agg c).cells.toList = c.toList := rfl
        simp only [evOp, h3, e2]
        rw [if_pos h5]
      · cases h3

theorem cFill_eq {place : Nat → Option (Nat × Nat)} {k : List Value → Ans} {r : Value × AH} (t : NT D) : ∀ (ps : List (Nat × Operand)) (c : List Value), (cFill D m place ps).run t c k = some r →
    ∃ c', fillV place (ps.map fun p => (p.1, envL (toL m t) p.2)) c = some c' ∧ k c' = some r
  | [], c, h => ⟨c, rfl, h⟩
  | (i, x) :: ps, c, h => by
    simp only [cFill] at h
    cases hp : place i with
    | none => rw [hp] at h; cases h
    | some on =>
      obtain ⟨o, n⟩ := on
      cases hx : cArg D m x with
      | mk f =>
        cases hg : cFill D m place ps with
        | mk g =>
          rw [hp, hx, hg] at h
          dsimp only at h
          obtain ⟨h1, h2, h3⟩ := vCells_eq h
          obtain ⟨h4, h5⟩ := rowC_eq h3
          rw [arg_of hx] at h1 h2 h4 h5
          have ih := cFill_eq (place := place) (k := k) (r := r) t ps
          rw [hg] at ih
          obtain ⟨c', h6, h7⟩ := ih _ h5
          refine ⟨c', ?_, h7⟩
          simp only [List.map_cons, fillV, hp]
          rw [if_pos ⟨h1, by omega, h2⟩, setMany_row _ _ _ h4]
          exact h6

theorem build_ev {ty : TypeId} {ps : Array (Nat × Operand)} : EvOK P T m (cOpn P T D m (.build ty ps)) (.build ty ps) := by
  intro rc t H k r hr
  simp only [cOpn] at hr
  cases hz : zeroT T ty with
  | none => rw [hz] at hr; cases hr
  | some z =>
    cases hp : placeT T ty with
    | none => rw [hz, hp] at hr; cases hr
    | some pl =>
      rw [hz, hp] at hr
      dsimp only at hr
      cases hg : cFill D m pl ps.toList with
      | mk g =>
        rw [hg] at hr
        dsimp only at hr
        have := cFill_eq (D := D) (m := m) (place := pl) (k := fun c => k (.agg c.toArray) H) (r := r) t ps.toList z
        rw [hg] at this
        obtain ⟨c', h1, h2⟩ := this hr
        refine ⟨_, _, ?_, h2⟩
        simp only [evOp, buildV, hz]
        unfold placeT at hp
        split at hp
        · rename_i fs hu
          simp only [hu]
          split at hp
          · rename_i hall
            cases hp
            rw [if_pos hall, h1]
            rfl
          · cases hp
        · rename_i n e hu
          simp only [hu]
          split at hp
          · rename_i sz hs
            cases hp
            simp only [hs]
            rw [h1]
            rfl
          · cases hp
        · cases hp

theorem buildSlice_ev {ty : TypeId} {n : Nat} {ps : Array (Nat × Operand)} : EvOK P T m (cOpn P T D m (.buildSlice ty n ps)) (.buildSlice ty n ps) := by
  intro rc t H k r hr
  simp only [cOpn] at hr
  simp only [evOp]
  split at hr
  · rename_i e hu
    split at hr
    · rename_i sz z hs hz
      split at hr
      · rename_i hc
        cases hg : cFill D m (fun i => some (i * sz, sz)) ps.toList with
        | mk g =>
          rw [hg] at hr
          dsimp only at hr
          have := cFill_eq (D := D) (m := m) (place := fun i => some (i * sz, sz)) (r := r) t ps.toList (repeatL n z) (k := fun c => allocC (.cells c e) H (fun _ H' => k (.slice (some ⟨H.next, 0, none⟩) n (2 * n + 1)) H'))
          rw [hg] at this
          obtain ⟨c', h1, h2⟩ := this hr
          have h3 := allocC_eq h2
          simp only [hu, hs, hz]
          rw [if_pos hc, h1]
          exact ⟨_, _, rfl, h3⟩
      · cases hr
    · cases hr
  · cases hr

theorem bin_ev {op : BinOp} {ty : TypeId} {x y : Operand} {ty2 : TypeId} : EvOK P T m (cOpn P T D m (.binOp op ty x y ty2)) (.binOp op ty x y ty2) := by
  intro rc t H k r hr
  simp only [cOpn, cBin] at hr
  cases hx : cArg D m x with
  | mk f => cases hy : cArg D m y with
    | mk g =>
      rw [hx, hy] at hr
      dsimp only at hr
      have fin : (∃ v, binV P T op ty x y (f t) (g t) = some v ∧ k v H = some r) → ∃ v H', evOp P T (envL (toL m t)) (.binOp op ty x y ty2) H = some (v, H') ∧ k v H' = some r := by
        rintro ⟨v, h1, h2⟩
        rw [arg_of hx, arg_of hy] at h1
        exact ⟨v, H, by simp only [evOp, h1]; rfl, h2⟩
      have slow : optV (binV P T op ty x y (f t) (g t)) (fun v => k v H) = some r → ∃ v H', evOp P T (envL (toL m t)) (.binOp op ty x y ty2) H = some (v, H') ∧ k v H' = some r := fun h => by
        obtain ⟨v, h1, h2⟩ := optV_eq h
        exact fin ⟨v, h1, h2⟩
      cases hc : CmpOp.of op with
      | some c =>
        rw [hc] at hr
        dsimp only at hr
        rcases cmpC_eq hc x y ty (k := fun v => k v H) hr with h | h
        · exact fin h
        · exact slow h
      | none =>
        rw [hc] at hr
        dsimp only at hr
        cases ha : ArOp.of op with
        | some c =>
          rw [ha] at hr
          dsimp only at hr
          rcases arC_eq ha x y ty (k := fun v => k v H) hr with h | h
          · exact fin h
          · exact slow h
        | none =>
          rw [ha] at hr
          dsimp only at hr
          cases hs : ShOp.of op with
          | some c =>
            rw [hs] at hr
            dsimp only at hr
            rcases shC_eq hs x y ty (k := fun v => k v H) hr with h | h
            · exact fin h
            · exact slow h
          | none =>
            rw [hs] at hr
            exact slow hr

theorem un_ev {op : UnOp} {ty : TypeId} {x : Operand} : EvOK P T m (cOpn P T D m (.unOp op ty x)) (.unOp op ty x) := by
  intro rc t H k r hr
  cases hx : cArg D m x with
  | mk f =>
    have slow : optV (unV P op (f t)) (fun v => k v H) = some r → ∃ v H', evOp P T (envL (toL m t)) (.unOp op ty x) H = some (v, H') ∧ k v H' = some r := fun h => by
      obtain ⟨v, h1, h2⟩ := optV_eq h
      rw [arg_of hx] at h1
      exact ⟨v, H, by simp only [evOp, h1]; rfl, h2⟩
    cases op
    case not =>
      simp only [cOpn] at hr
      rw [hx] at hr
      dsimp only at hr
      obtain ⟨b, h1, h2⟩ := vBool_eq hr
      rw [arg_of hx] at h1
      refine ⟨_, _, ?_, h2⟩
      simp only [evOp, h1]
      cases b <;> rfl
    all_goals
      simp only [cOpn] at hr
      rw [hx] at hr
      exact slow hr

theorem conv_ev {s d : TypeId} {x : Operand} : EvOK P T m (cOpn P T D m (.convert s d x)) (.convert s d x) := by
  intro rc t H k r hr
  simp only [cOpn] at hr
  cases hx : cArg D m x with
  | mk f =>
    have slow : optVH (convV T s d (f t) H) k = some r → ∃ v H', evOp P T (envL (toL m t)) (.convert s d x) H = some (v, H') ∧ k v H' = some r := fun h => by
      obtain ⟨v, H', h1, h2⟩ := optVH_eq h
      rw [arg_of hx] at h1
      exact ⟨v, H', by simp only [evOp]; exact h1, h2⟩
    rw [hx] at hr
    split at hr
    · rename_i ds kd f' hs hd e
      cases e
      rcases vNat_eq hr with ⟨k0, n, h1, h2⟩ | h2
      · rcases iteC_eq h2 with ⟨h3, h4⟩ | ⟨_, h4⟩
        · have h3 := blt_of h3
          rw [arg_of hx] at h1
          refine ⟨_, _, ?_, h4⟩
          simp only [evOp, h1, convV, hs, hd]
          rw [show (Int.ofNat n) = (n : Int) from rfl, wrap_lim h3]
        · exact slow h4
      · exact slow h2
    · rename_i e _
      cases e
      exact slow hr
end
end Go.Fv
