/- Single operations of the swifter evaluator are the evaluator's: slices, parts, appends, calls. -/
import Derived.Test.YtaoaddokgofifaaGreatFvG
namespace Go.Fv
open Go.Ev

section
variable {P : Program} {T : TT} {X : Prims} {D m : Nat}

/-! ### slices of slices -/
/-- What a bound stands for. -/
def boundO (x : Option Value) (most d : Nat) : Option Nat := match x with | some v => bound v most | none => some d
theorem cBo_eq {x : Option Operand} {f : NT D → Nat → Nat → (Nat → Ans) → Ans} (hx : cBo D m x = ⟨f⟩) {t : NT D} {most d : Nat} {k : Nat → Ans} {r : Value × AH} (h : f t most d k = some r) :
    ∃ n, boundO (x.map (envL (toL m t))) most d = some n ∧ k n = some r := by
  cases x with
  | none => simp only [cBo] at hx; cases hx; exact ⟨d, rfl, h⟩
  | some x =>
    simp only [cBo] at hx
    cases hg : cArg D m x with
    | mk g =>
      rw [hg] at hx
      cases hx
      dsimp only at h
      rcases vNat_eq h with ⟨k0, n, h1, h2⟩ | h2
      · obtain ⟨h3, h4⟩ := iteC_true h2
        have h3 := ble_of h3
        rw [arg_of hg] at h1
        refine ⟨n, ?_, h4⟩
        simp only [Option.map_some, boundO, h1, bound]
        rw [if_pos ⟨by simp, by simpa using h3⟩]
        rfl
      · cases h2
theorem bounds_of {len cap l h mm : Nat} {lo hi mx : Option Value} (h1 : boundO mx cap cap = some mm) (h2 : boundO hi mm len = some h) (h3 : boundO lo h 0 = some l) (h4 : mx.isSome = true → hi.isSome = true) :
    bounds len cap lo hi mx = some (l, h, mm) := by
  unfold bounds
  cases mx with
  | none =>
    simp only [boundO, Option.some.injEq] at h1
    subst h1
    cases hi with
    | none =>
      simp only [boundO, Option.some.injEq] at h2
      subst h2
      cases lo with
      | none => simp only [boundO, Option.some.injEq] at h3; subst h3; rfl
      | some lo => simp only [boundO] at h3; simp [h3]
    | some hi =>
      simp only [boundO] at h2
      cases lo with
      | none => simp only [boundO, Option.some.injEq] at h3; subst h3; simp [h2]
      | some lo => simp only [boundO] at h3; simp [h2, h3]
  | some mx =>
    simp only [boundO] at h1
    cases hi with
    | none => exact absurd (h4 rfl) (by simp)
    | some hi =>
      simp only [boundO] at h2
      cases lo with
      | none => simp only [boundO, Option.some.injEq] at h3; subst h3; simp [h1, h2]
      | some lo => simp only [boundO] at h3; simp [h1, h2, h3]
theorem offC_eq (b o l mm sz : Nat) : offC b o l mm sz = ⟨b, if mm = l then o else o + l * sz, none⟩ := by
  unfold offC
  by_cases h : mm = l
  · rw [if_pos h, show Nat.beq mm l = true by subst h; exact Nat.beq_refl mm]
  · rw [if_neg h, show Nat.beq mm l = false by
      cases hb : Nat.beq mm l
      · rfl
      · exact absurd (beq_of hb) h]
    rfl

theorem rowT_slice {ty : TypeId} {sz : Nat} (h : rowT T ty = some (.slice sz)) : ∃ e, T.und ty = some (.slice e) ∧ szT T e = some sz := by
  unfold rowT at h
  split at h
  · split at h <;> cases h
  · rename_i e hu
    split at h
    · rename_i s hs; cases h; exact ⟨e, hu, hs⟩
    · cases h
  · cases h
theorem rowT_array {ty : TypeId} {n sz : Nat} (h : rowT T ty = some (.array n sz)) : ∃ e, T.und ty = some (.array n e) ∧ szT T e = some sz := by
  unfold rowT at h
  split at h
  · rename_i e hu
    split at h
    · rename_i s hs; cases h; exact ⟨e, hu, hs⟩
    · cases h
  · split at h <;> cases h
  · cases h

theorem slice_ev {ty : TypeId} {x : Operand} {lo hi mx : Option Operand} : EvOK P T m (cOpn P T D m (.slice ty x lo hi mx)) (.slice ty x lo hi mx) := by
  intro rc t H k r hr
  simp only [cOpn] at hr
  cases hx : cArg D m x with
  | mk f => cases hl : cOpt D m lo with
    | mk g => cases hh : cOpt D m hi with
      | mk h => cases hm : cOpt D m mx with
        | mk i => cases hbl : cBo D m lo with
          | mk bl => cases hbh : cBo D m hi with
            | mk bh => cases hbm : cBo D m mx with
              | mk bm =>
                have slow : optV (sliceV T ty (f t) (g t) (h t) (i t)) (fun v => k v H) = some r → ∃ v H', evOp P T (envL (toL m t)) (.slice ty x lo hi mx) H = some (v, H') ∧ k v H' = some r := fun q => by
                  obtain ⟨v, h1, h2⟩ := optV_eq q
                  rw [arg_of hx, opt_of hl, opt_of hh, opt_of hm] at h1
                  exact ⟨v, H, by simp only [evOp, h1]; rfl, h2⟩
                rw [hx, hl, hh, hm, hbl, hbh, hbm] at hr
                cases hw : rowT T ty with
                | none => rw [hw] at hr; exact slow hr
                | some w =>
                  rw [hw] at hr
                  cases w with
                  | slice sz =>
                    dsimp only at hr
                    split at hr
                    · cases hr
                    · rename_i hc
                      have h3 : (mx.map (envL (toL m t))).isSome = true → (hi.map (envL (toL m t))).isSome = true := by
                        cases mx <;> cases hi <;> simp at hc ⊢
                      obtain ⟨e, hu, hs⟩ := rowT_slice hw
                      dsimp only [slC] at hr
                      rcases vSli_eq hr with ⟨n, c, h1, h2⟩ | ⟨b, o, n, c, h1, h2⟩ | h2
                      · exact slow h2
                      · rw [arg_of hx] at h1
                        rcases iteC_eq h2 with ⟨h4, h5⟩ | ⟨h4, h5⟩
                        · have h4 := beq_of h4
                          obtain ⟨mm, h6, h7⟩ := cBo_eq hbm h5
                          obtain ⟨hv, h8, h9⟩ := cBo_eq hbh h7
                          obtain ⟨h10, h11⟩ := iteC_true h9
                          obtain ⟨l, h12, h13⟩ := cBo_eq hbl h11
                          refine ⟨_, _, ?_, h13⟩
                          simp only [evOp, h1, sliceV, hu, hs]
                          have h4' : c % 2 = 1 := h4
                          rw [if_pos h4', show bounds n (c / 2) _ _ _ = _ from bounds_of h6 h8 h12 h3, offC_eq]
                          rfl
                        · have hne : ¬ c % 2 = 1 := fun q => by
                            have : Nat.beq (Nat.mod c 2) 1 = true := by
                              rw [show Nat.mod c 2 = 1 from q]; rfl
                            rw [this] at h4; cases h4
                          obtain ⟨h6, h7⟩ := iteC_true h5
                          have h6 := beq_of h6
                          obtain ⟨mm, h8, h9⟩ := cBo_eq hbm h7
                          obtain ⟨hv, h10, h11⟩ := cBo_eq hbh h9
                          obtain ⟨h12, h13⟩ := iteC_true h11
                          obtain ⟨l, h14, h15⟩ := cBo_eq hbl h13
                          have hb := bounds_of h8 h10 h14 h3
                          have e2 : (mx.map (envL (toL m t))).isSome = mx.isSome := by cases mx <;> rfl
                          rcases iteC_eq h15 with ⟨h16, h17⟩ | ⟨h16, h17⟩
                          · refine ⟨_, _, ?_, h17⟩
                            simp only [evOp, h1, sliceV, hu, hs]
                            rw [if_neg hne, if_pos h6, hb]
                            simp only
                            rw [if_pos (by rw [e2]; exact h16), offC_eq]
                            rfl
                          · refine ⟨_, _, ?_, h17⟩
                            simp only [evOp, h1, sliceV, hu, hs]
                            rw [if_neg hne, if_pos h6, hb]
                            simp only
                            rw [if_neg (by rw [e2, h16]; simp)]
                            rfl
                      · exact slow h2
                  | array n sz =>
                    dsimp only at hr
                    split at hr
                    · cases hr
                    · rename_i hc
                      have h3 : (mx.map (envL (toL m t))).isSome = true → (hi.map (envL (toL m t))).isSome = true := by
                        cases mx <;> cases hi <;> simp at hc ⊢
                      obtain ⟨e, hu, hs⟩ := rowT_array hw
                      dsimp only [arrC] at hr
                      obtain ⟨b, o, h1, h2⟩ := vPtr_eq hr
                      rw [arg_of hx] at h1
                      obtain ⟨mm, h6, h7⟩ := cBo_eq hbm h2
                      obtain ⟨hv, h8, h9⟩ := cBo_eq hbh h7
                      obtain ⟨h10, h11⟩ := iteC_true h9
                      obtain ⟨l, h12, h13⟩ := cBo_eq hbl h11
                      refine ⟨_, _, ?_, h13⟩
                      simp only [evOp, h1, sliceV, hu, hs]
                      rw [show bounds n n _ _ _ = _ from bounds_of h6 h8 h12 h3, offC_eq]
                      rfl

theorem field_ev {s : TypeId} {x : Operand} {f : Nat} : EvOK P T m (cOpn P T D m (.field s x f)) (.field s x f) := by
  intro rc t H k r hr
  simp only [cOpn] at hr
  cases hx : cArg D m x with
  | mk g =>
    rw [hx] at hr
    cases hf : fieldT T s f with
    | none => rw [hf] at hr; cases hr
    | some p =>
      rw [hf] at hr
      obtain ⟨ag, off, n⟩ := p
      unfold fieldT at hf
      split at hf
      · rename_i fs hu
        split at hf
        · rename_i fd hfd
          split at hf
          · rename_i ha
            split at hf
            · rename_i n' hs
              cases hf
              dsimp only at hr
              rcases vAgg_eq hr with ⟨c, h1, h2⟩ | h2
              · obtain ⟨h3, h4⟩ := segC_eq h2
                rw [arg_of hx] at h1
                refine ⟨_, _, ?_, h4⟩
                simp only [evOp, h1, fieldV, hu, hfd, partV, ha, hs]
                rw [if_pos h3]
                rfl
              · cases h2
            · cases hf
          · rename_i ha
            cases hf
            dsimp only at hr
            rcases vAgg_eq hr with ⟨c, h1, h2⟩ | h2
            · obtain ⟨v, h3, h4⟩ := cellK_eq h2
              rw [arg_of hx] at h1
              refine ⟨_, _, ?_, h4⟩
              simp only [evOp, h1, fieldV, hu, hfd, partV, ha, h3]
              rfl
            · cases h2
          · cases hf
        · cases hf
      · cases hf

theorem index_ev {ty : TypeId} {x i : Operand} : EvOK P T m (cOpn P T D m (.index ty x i)) (.index ty x i) := by
  intro rc t H k r hr
  simp only [cOpn] at hr
  cases hx : cArg D m x with
  | mk f => cases hi : cArg D m i with
    | mk g =>
      have slow : optV (indexV T ty (f t) (g t)) (fun v => k v H) = some r → ∃ v H', evOp P T (envL (toL m t)) (.index ty x i) H = some (v, H') ∧ k v H' = some r := fun q => by
        obtain ⟨v, h1, h2⟩ := optV_eq q
        rw [arg_of hx, arg_of hi] at h1
        exact ⟨v, H, by simp only [evOp, h1]; rfl, h2⟩
      rw [hx, hi] at hr
      split at hr
      · rename_i n e f' g' hu ef eg
        cases ef; cases eg
        split at hr
        · rename_i sz ha hs
          dsimp only at hr
          rcases vAgg_eq hr with ⟨c, h1, h2⟩ | h2
          · rcases vNat_eq h2 with ⟨k0, j, h3, h4⟩ | h4
            · obtain ⟨h5, h6⟩ := iteC_true h4
              have h5 := blt_of h5
              obtain ⟨v, h7, h8⟩ := cellK_eq h6
              rw [arg_of hx] at h1
              rw [arg_of hi] at h3
              refine ⟨_, _, ?_, h8⟩
              simp only [evOp, h1, h3, indexV, hu]
              rw [if_pos ⟨by simp, by simpa using h5⟩]
              simp only [hs, partV, ha]
              rw [show (Int.ofNat j).toNat * sz = Nat.mul j sz from rfl, h7]
              rfl
            · cases h4
          · cases h2
        · exact slow hr
      · rename_i f' g' ef eg _
        cases ef; cases eg
        exact slow hr
end
end Go.Fv
