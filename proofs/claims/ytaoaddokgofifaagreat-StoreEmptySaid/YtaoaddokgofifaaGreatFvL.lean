/- THE SWIFTER EVALUATOR's ANSWERS ARE THE EVALUATOR's. -/
import Derived.Test.YtaoaddokgofifaaGreatFvK
namespace Go.Fv
open Go.Ev

section
variable {P : Program} {T : TT} {X : Prims} {D m : Nat}

/-- How code comes out. -/
def outK (e : Ex) (t : NT D) (H : AH) (kn : NT D → AH → Ans) (ke : Nat → NT D → AH → Ans) (kr : NT D → AH → Ans) : Ans :=
  match e with
  | .normal => kn t H
  | .exit id => ke id t H
  | .ret => kr t H

def CodeOK (P : Program) (T : TT) (X : Prims) (D m : Nat) (rc : RC) (c : Code) : Prop := ∀ t H kn ke kr r, (cCode P T D m c).run rc t H kn ke kr = some r →
  ∃ n e t' H', evCode P T X n c ⟨toL m t, H⟩ = some (e, ⟨toL m t', H'⟩) ∧ outK e t' H' kn ke kr = some r

theorem loopF_ok {rc : RC} {c : Code} (hc : CodeOK P T X D m rc c) {f : RC → NT D → AH → (NT D → AH → Ans) → (Nat → NT D → AH → Ans) → (NT D → AH → Ans) → Ans} (hf : cCode P T D m c = ⟨f⟩) {ke : Nat → NT D → AH → Ans} {kr : NT D → AH → Ans} {kn : NT D → AH → Ans} {r : Value × AH} :
    ∀ (n : Nat) (t : NT D) (H : AH), loopF f n rc t H ke kr = some r → ∃ n e t' H', evCode P T X n (.loop c) ⟨toL m t, H⟩ = some (e, ⟨toL m t', H'⟩) ∧ outK e t' H' kn ke kr = some r
  | 0, _, _, h => by cases h
  | n + 1, t, H, h => by
    have h' : f rc t H (fun t' H' => loopF f n rc t' H' ke kr) ke kr = some r := h
    obtain ⟨n1, e, t1, H1, h1, h2⟩ := hc t H (fun t' H' => loopF f n rc t' H' ke kr) ke kr r (by rw [hf]; exact h')
    cases e with
    | normal =>
      obtain ⟨n2, e2, t2, H2, h3, h4⟩ := loopF_ok hc hf n t1 H1 h2
      refine ⟨max n1 n2 + 1, e2, t2, H2, ?_, h4⟩
      simp only [evCode]
      rw [evCode_le (Nat.le_max_left n1 n2) _ _ _ h1]
      exact evCode_le (Nat.le_max_right n1 n2) _ _ _ h3
    | exit id =>
      refine ⟨n1 + 1, .exit id, t1, H1, ?_, h2⟩
      simp only [evCode]
      rw [h1]
    | ret =>
      refine ⟨n1 + 1, .ret, t1, H1, ?_, h2⟩
      simp only [evCode]
      rw [h1]

theorem all_slots (t : NT D) : ((List.range m).map Operand.tmp).map (envL (toL m t)) = toL m t := by
  apply List.ext_getElem?
  intro i
  simp only [List.map_map]
  by_cases hi : i < m
  · rw [toL_get t hi]
    simp [hi, envL, toL_get t hi]
  · rw [List.getElem?_eq_none (by simpa using hi), List.getElem?_eq_none (by rw [toL_len]; omega)]

theorem cCode_ok (hD : m ≤ 8 ^ D) {rc : RC} (hrc : RCOK P T X rc) : ∀ c : Code, CodeOK P T X D m rc c := by
  intro c
  induction c with
  | skip => intro t H kn ke kr r h; exact ⟨1, .normal, t, H, rfl, h⟩
  | ret => intro t H kn ke kr r h; exact ⟨1, .ret, t, H, rfl, h⟩
  | exit id => intro t H kn ke kr r h; exact ⟨1, .exit id, t, H, rfl, h⟩
  | seq a b iha ihb =>
    intro t H kn ke kr r h
    simp only [cCode] at h
    cases hf : cCode P T D m a with
    | mk f => cases hg : cCode P T D m b with
      | mk g =>
        rw [hf, hg] at h
        dsimp only at h
        obtain ⟨n1, e, t1, H1, h1, h2⟩ := iha t H (fun t' H' => g rc t' H' kn ke kr) ke kr r (by rw [hf]; exact h)
        cases e with
        | normal =>
          obtain ⟨n2, e2, t2, H2, h3, h4⟩ := ihb t1 H1 kn ke kr r (by rw [hg]; exact h2)
          refine ⟨max n1 n2 + 1, e2, t2, H2, ?_, h4⟩
          simp only [evCode]
          rw [evCode_le (Nat.le_max_left n1 n2) _ _ _ h1]
          exact evCode_le (Nat.le_max_right n1 n2) _ _ _ h3
        | exit id => exact ⟨n1 + 1, .exit id, t1, H1, by simp only [evCode]; rw [h1], h2⟩
        | ret => exact ⟨n1 + 1, .ret, t1, H1, by simp only [evCode]; rw [h1], h2⟩
  | cond x a b iha ihb =>
    intro t H kn ke kr r h
    simp only [cCode] at h
    cases hx : cArg D m x with
    | mk c => cases hf : cCode P T D m a with
      | mk f => cases hg : cCode P T D m b with
        | mk g =>
          rw [hx, hf, hg] at h
          dsimp only at h
          obtain ⟨v, h1, h2⟩ := vBool_eq h
          rw [arg_of hx] at h1
          rcases iteC_eq h2 with ⟨rfl, h3⟩ | ⟨rfl, h3⟩
          · obtain ⟨n1, e, t1, H1, h4, h5⟩ := iha t H kn ke kr r (by rw [hf]; exact h3)
            exact ⟨n1 + 1, e, t1, H1, by simp only [evCode, h1]; exact h4, h5⟩
          · obtain ⟨n1, e, t1, H1, h4, h5⟩ := ihb t H kn ke kr r (by rw [hg]; exact h3)
            exact ⟨n1 + 1, e, t1, H1, by simp only [evCode, h1]; exact h4, h5⟩
  | block id a iha =>
    intro t H kn ke kr r h
    simp only [cCode] at h
    cases hf : cCode P T D m a with
    | mk f =>
      rw [hf] at h
      dsimp only at h
      obtain ⟨n1, e, t1, H1, h1, h2⟩ := iha t H kn (fun i t' H' => iteC (Nat.beq i id) (kn t' H') (ke i t' H')) kr r (by rw [hf]; exact h)
      cases e with
      | normal => exact ⟨n1 + 1, .normal, t1, H1, by simp only [evCode]; rw [h1], h2⟩
      | ret => exact ⟨n1 + 1, .ret, t1, H1, by simp only [evCode]; rw [h1], h2⟩
      | exit i =>
        rcases iteC_eq (show iteC (Nat.beq i id) (kn t1 H1) (ke i t1 H1) = some r from h2) with ⟨h3, h4⟩ | ⟨h3, h4⟩
        · have h3 := beq_of h3
          exact ⟨n1 + 1, .normal, t1, H1, by simp only [evCode]; rw [h1]; simp only; rw [if_pos h3], h4⟩
        · have h3 : i ≠ id := by
            rintro rfl
            rw [Nat.beq_refl] at h3; cases h3
          exact ⟨n1 + 1, .exit i, t1, H1, by simp only [evCode]; rw [h1]; simp only; rw [if_neg h3], h4⟩
  | loop a iha =>
    intro t H kn ke kr r h
    simp only [cCode] at h
    cases hf : cCode P T D m a with
    | mk f =>
      rw [hf] at h
      exact loopF_ok iha hf 100000 t H h
  | region id ops draw =>
    intro t H kn ke kr r h
    cases draw with
    | false =>
      simp only [cCode] at h
      cases hf : cOps P T D m ops ops.toList with
      | mk f =>
        rw [hf] at h
        obtain ⟨n, t', H', h1, h2⟩ := cOps_ok hD (ops := ops) hrc (k := kn) (r := r) (l := ops.toList) (t := t) (H := H) (by rw [hf]; exact h)
        refine ⟨n + 1, .normal, t', H', ?_, h2⟩
        simp only [evCode, evRegionW, Bool.false_eq_true, if_false]
        rw [h1]; rfl
    | true =>
      simp only [cCode] at h
      have key : ∀ {k : NT D → AH → TrL D → Ans}, (cTr P T D m ops ops.toList).run rc t H [] k = some r →
          (∀ {t' : NT D} {H' : AH} {new : TrL D}, new.length = ops.toList.length → TidyS ops ops.toList (new.map (stOf m)) ⟨toL m t', H'⟩ → k t' H' (new.reverse ++ []) = some r → steadyW P T ops (new.map (stOf m)) ⟨toL m t', H'⟩ = true ∧ kn t' H' = some r) →
          ∃ n e t' H', evCode P T X n (.region id ops true) ⟨toL m t, H⟩ = some (e, ⟨toL m t', H'⟩) ∧ outK e t' H' kn ke kr = some r := fun {k} h hk => by
        obtain ⟨n, new, t', H', h1, h2, h3, h4, _⟩ := cTr_ok hD hrc h
        obtain ⟨h5, h6⟩ := hk h4 h3 h2
        refine ⟨n + 1, .normal, t', H', ?_, h6⟩
        simp only [evCode, evRegionW, if_true]
        rw [h1]
        simp only [h5, tidy_of h3, Bool.and_self, if_true]
        rfl
      cases hf : cTr P T D m ops ops.toList with
      | mk f =>
        rw [hf] at h
        cases hp : planOf ops with
        | nil =>
          rw [hp] at h
          exact key (k := fun t' H' _ => kn t' H') (by rw [hf]; exact h) fun {t' H' new} _ hT hk => ⟨steady_none hT hp, hk⟩
        | cons q qs =>
          rw [hp] at h
          dsimp only at h
          cases hg : cPlan P T D m ops (q :: qs) with
          | mk g =>
            rw [hg] at h
            dsimp only at h
            refine key (k := fun t' H' acc => g acc H' (kn t' H')) (by rw [hf]; exact h) fun {t' H' new} hlen hT hk => ?_
            rw [List.append_nil] at hk
            have := cPlan_ok (P := P) (T := T) (D := D) (m := m) (ops := ops) (acc := new.reverse) (H := H') (k := kn t' H') (r := r) (pl := q :: qs)
            rw [hg] at this
            obtain ⟨h1, h2⟩ := this hk
            exact ⟨steady_of hlen hT (by rw [hp]; exact h1), h2⟩
  | rangeFunc f ps asg body _ _ =>
    intro t H kn ke kr r h
    simp only [cCode] at h
    split at h
    · rename_i ho
      cases hx : cArg D m f with
      | mk g => cases ha : cArgs D m ((List.range m).map .tmp) with
        | mk al =>
          rw [hx, ha] at h
          dsimp only at h
          unfold rangeC at h
          have eg := arg_of hx t
          have ea : al t = toL m t := by rw [args_of ha]; exact all_slots t
          rw [eg, ea] at h
          split at h
          · rename_i fn first cap hv
            obtain ⟨h1, h2⟩ := iteC_true h
            have h3 := allocC_eq h2
            obtain ⟨n, v, H', h4, h5⟩ := hrc _ _ _ _ _ h3
            have h4 : evCallW T X (evCode P T X n) fn (.func (.yield H.next) #[] #[] :: cap.toList) (H.alloc (.loop .ready none (toL m t) ps asg body)) = some (v, H') := h4
            unfold endF at h5
            rw [getT_eq] at h5
            have hg : ∀ o, H'.tr.get H.next = o → H'.get H.next = o := fun _ e => e
            split at h5
            · cases h5
            · rename_i st pend tt pps a b hnb hgt
              have h6 := setH_eq h5
              have hst : ¬ st = LoopState.busy := fun e => by subst e; simp at hnb
              cases pend with
              | none =>
                refine ⟨n + 1, .normal, t, _, ?_, h6⟩
                simp only [evCode, ho, hv, h1, if_true]
                rw [h4]
                simp only [hg _ hgt]
                rw [if_neg hst]
              | some c =>
                cases c <;> simp only at h6 <;> first | (cases h6; done) | skip
                · refine ⟨n + 1, .exit _, t, _, ?_, h6⟩
                  simp only [evCode, ho, hv, h1, if_true]
                  rw [h4]
                  simp only [hg _ hgt]
                  rw [if_neg hst]
                · refine ⟨n + 1, .ret, t, _, ?_, h6⟩
                  simp only [evCode, ho, hv, h1, if_true]
                  rw [h4]
                  simp only [hg _ hgt]
                  rw [if_neg hst]
            · cases h5
          · cases h
    · cases h
  | _ => intro t H kn ke kr r h; cases h
end
end Go.Fv
