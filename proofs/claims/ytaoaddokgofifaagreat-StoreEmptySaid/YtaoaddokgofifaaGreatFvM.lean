/- THE SWIFTER EVALUATOR's ANSWERS ARE THE EVALUATOR's: functions, loops over functions, all. -/
import Derived.Test.YtaoaddokgofifaaGreatFvL
namespace Go.Fv
open Go.Ev

section
variable {P : Program} {T : TT} {X : Prims}

theorem depth_ok {m : Nat} (h : m ≤ 512) : m ≤ 8 ^ depthOf m := by
  unfold depthOf
  split
  · rename_i h1; exact ble_of h1
  · split
    · rename_i h1; exact ble_of h1
    · exact h

theorem vNT_eq {v : Value} {k : Ans} {r : Value × AH} (h : vNT v k = some r) : notTuple v = true ∧ k = some r := by
  cases v <;> first | exact ⟨rfl, h⟩ | (cases h; done)

theorem cRes_ok {D m : Nat} {t : NT D} {H : AH} {r : Value × AH} : ∀ {rs : List ResultVar} {k : List Value → Ans}, (cRes T D m rs).run t H k = some r → ∃ vs, resultsL T H (toL m t) rs = some vs ∧ k vs = some r
  | [], k, h => ⟨[], rfl, h⟩
  | .tmp i :: rs, k, h => by
    simp only [cRes] at h
    cases hx : cArg D m (.tmp i) with
    | mk f => cases hg : cRes T D m rs with
      | mk g =>
        rw [hx, hg] at h
        dsimp only at h
        obtain ⟨h1, h2⟩ := vNT_eq h
        have ih := cRes_ok (m := m) (t := t) (H := H) (r := r) (rs := rs) (k := fun l => k (f t :: l))
        rw [hg] at ih
        obtain ⟨vs, h3, h4⟩ := ih h2
        have e : resultV T H (toL m t) (.tmp i) = some (f t) := by rw [arg_of hx]; rfl
        exact ⟨f t :: vs, by simp only [resultsL, e]; rw [if_pos h1, h3]; rfl, h4⟩
  | .cell a ty :: rs, k, h => by
    simp only [cRes] at h
    cases hx : cArg D m (.tmp a) with
    | mk f => cases hg : cRes T D m rs with
      | mk g =>
        rw [hx, hg] at h
        have fin : ∀ {v : Value}, loadV T H ty (f t) = some v → notTuple v = true → g t H (fun l => k (v :: l)) = some r → ∃ vs, resultsL T H (toL m t) (.cell a ty :: rs) = some vs ∧ k vs = some r := fun {v} h1 h2 h3 => by
          have ih := cRes_ok (m := m) (t := t) (H := H) (r := r) (rs := rs) (k := fun l => k (v :: l))
          rw [hg] at ih
          obtain ⟨vs, h4, h5⟩ := ih h3
          have e : resultV T H (toL m t) (.cell a ty) = some v := by
            have : f t = (toL m t).getD a undef := arg_of hx t
            rw [this] at h1; exact h1
          exact ⟨v :: vs, by simp only [resultsL, e]; rw [if_pos h2, h4]; rfl, h5⟩
        cases ha : aggT T ty with
        | none =>
          rw [ha] at h
          obtain ⟨v, h1, h2⟩ := optV_eq h
          obtain ⟨h3, h4⟩ := vNT_eq h2
          exact fin h1 h3 h4
        | some b =>
          rw [ha] at h
          cases b with
          | true =>
            dsimp only at h
            cases hs : szT T ty with
            | none => rw [hs] at h; cases h
            | some n =>
              rw [hs] at h
              obtain ⟨b, o, h1, h2⟩ := vPtr_eq h
              obtain ⟨c, e, h3, h4⟩ := cellsAt_eq h2
              obtain ⟨h5, h6⟩ := segC_eq h4
              refine fin (v := .agg ((c.drop o).take n).toArray) ?_ rfl h6
              have h1 : f t = _ := h1
              rw [h1]
              simp only [loadV, h3, ha, hs]
              rw [if_pos h5]
          | false =>
            obtain ⟨b, o, h1, h2⟩ := vPtr_eq h
            obtain ⟨c, e, h3, h4⟩ := cellsAt_eq h2
            obtain ⟨v, h5, h6⟩ := cellK_eq h4
            obtain ⟨h7, h8⟩ := vNT_eq h6
            refine fin (v := v) ?_ h7 h8
            have h1 : f t = _ := h1
            rw [h1]
            simp only [loadV, h3, ha]
            exact h5

/-- Arguments in the first slots. -/
theorem cPars_ok {D m : Nat} (hD : m ≤ 8 ^ D) {k : NT D → Ans} {r : Value × AH} : ∀ {is : List Nat} {l : List Value} {t : NT D}, (∀ i ∈ is, i < m) → (cPars D is).run l t k = some r →
    ∃ t', l.length ≤ is.length ∧ toL m t' = (is.zip l).foldl (fun a p => a.set p.1 p.2) (toL m t) ∧ k t' = some r
  | [], [], t, _, h => ⟨t, Nat.le_refl _, rfl, h⟩
  | [], x :: l, t, _, h => by cases h
  | i :: is, [], t, _, h => by
    refine ⟨t, by simp, rfl, ?_⟩
    unfold cPars at h
    cases hs : cSet D i with
    | mk w => cases hg : cPars D is with
      | mk g =>
        rw [hs, hg] at h
        exact h
  | i :: is, x :: l, t, hi, h => by
    simp only [cPars] at h
    cases hs : cSet D i with
    | mk w => cases hg : cPars D is with
      | mk g =>
        rw [hs, hg] at h
        have h1 : w x t (fun t' => g l t' k) = some r := h
        have e : w x t (fun t' => g l t' k) = g l (setN D i x t) k := by
          have := cSet_run D i x t (fun t' => g l t' k)
          rw [hs] at this; exact this
        rw [e] at h1
        have ih := cPars_ok hD (k := k) (r := r) (is := is) (l := l) (t := setN D i x t) (fun j hj => hi j (List.mem_cons_of_mem _ hj))
        rw [hg] at ih
        obtain ⟨t', h2, h3, h4⟩ := ih h1
        refine ⟨t', by simpa using h2, ?_, h4⟩
        rw [h3, toL_set hD t (hi i List.mem_cons_self)]
        rfl

theorem fold_set_get : ∀ (l : List Value) (s : Nat) (a : List Value) (n : Nat), l.length ≤ n → s + l.length ≤ a.length → ∀ j, (((List.range' s n).zip l).foldl (fun a p => a.set p.1 p.2) a)[j]? = if s ≤ j ∧ j < s + l.length then l[j - s]? else a[j]?
  | [], s, a, n, _, _, j => by
    have : ¬ (s ≤ j ∧ j < s + ([] : List Value).length) := by simp
    rw [if_neg this]
    simp
  | x :: l, s, a, 0, h, _, j => by simp at h
  | x :: l, s, a, n + 1, h, ha, j => by
    simp only [List.range'_succ, List.zip_cons_cons, List.foldl_cons, List.length_cons] at h ha ⊢
    rw [fold_set_get l (s + 1) (a.set s x) n (by omega) (by simp; omega) j]
    by_cases h1 : s + 1 ≤ j ∧ j < s + 1 + l.length
    · rw [if_pos h1, if_pos (by omega), show j - s = (j - (s + 1)) + 1 by omega, List.getElem?_cons_succ]
    · rw [if_neg h1]
      by_cases h2 : j = s
      · subst h2
        rw [if_pos (by omega), List.getElem?_set_self (by omega)]
        simp
      · rw [if_neg (by omega), List.getElem?_set_ne (by omega)]

theorem blank_eq {D m : Nat} (hD : m ≤ 8 ^ D) : toL (D := D) m (blankT D) = List.replicate m undef := by
  refine toL_ofN hD (by simp) fun i hi => ?_
  rw [List.getD_eq_getElem?_getD]
  simp [hi]

theorem callF_ok {rc : RC} (hrc : RCOK P T X rc) {f : FuncId} {args : List Value} {H : AH} {k : Value → AH → Ans} {r : Value × AH} (h : callF P T X rc f args H k = some r) :
    ∃ n v H', evCallW T X (evCode P T X n) f args H = some (v, H') ∧ k v H' = some r := by
  unfold callF at h
  cases hf : cFn P T X f with
  | mk run =>
    rw [hf] at h
    dsimp only at h
    unfold cFn at hf
    cases hX : X f with
    | some p =>
      rw [hX] at hf
      cases hf
      obtain ⟨v, H', h1, h2⟩ := optVH_eq h
      exact ⟨0, v, H', by unfold evCallW; rw [hX]; exact h1, h2⟩
    | none =>
      rw [hX] at hf
      dsimp only at hf
      cases hfn : T.fn f with
      | none => rw [hfn] at hf; cases hf; cases h
      | some fn =>
        rw [hfn] at hf
        dsimp only at hf
        cases hb : fn.body with
        | none => rw [hb] at hf; cases hf; cases h
        | some c =>
          rw [hb] at hf
          dsimp only at hf
          cases hn : Nat.ble fn.ntmps 512 with
          | false =>
            rw [hn] at hf
            cases hcc : cCode P T (depthOf fn.ntmps) fn.ntmps c; cases hrr : cRes T (depthOf fn.ntmps) fn.ntmps fn.results.toList; cases hpp : cPars (depthOf fn.ntmps) (List.range (Nat.min 16 fn.ntmps))
            rw [hcc, hrr, hpp] at hf
            cases hf; cases h
          | true =>
            rw [hn] at hf
            have hD : fn.ntmps ≤ 8 ^ depthOf fn.ntmps := depth_ok (ble_of hn)
            cases hcc : cCode P T (depthOf fn.ntmps) fn.ntmps c with
            | mk code => cases hrr : cRes T (depthOf fn.ntmps) fn.ntmps fn.results.toList with
              | mk res => cases hpp : cPars (depthOf fn.ntmps) (List.range (Nat.min 16 fn.ntmps)) with
                | mk par =>
                  rw [hcc, hrr, hpp] at hf
                  dsimp only at hf
                  cases hf
                  have hlt : ∀ i ∈ List.range (Nat.min 16 fn.ntmps), i < fn.ntmps := fun i hi => Nat.lt_of_lt_of_le (List.mem_range.1 hi) (Nat.min_le_right _ _)
                  have hp := cPars_ok hD (is := List.range (Nat.min 16 fn.ntmps)) (l := args) (t := blankT (depthOf fn.ntmps)) (r := r) (k := fun t0 => code rc t0 H (fun t H' => res t H' (fun vs => k (resultOf vs) H')) (fun _ _ _ => none) (fun t H' => res t H' (fun vs => k (resultOf vs) H'))) hlt
                  rw [hpp] at hp
                  obtain ⟨t0, h1, h2, h3⟩ := hp h
                  have hlen : args.length ≤ fn.ntmps := by
                    simp only [List.length_range] at h1
                    exact Nat.le_trans h1 (Nat.min_le_right _ _)
                  have e0 : toL fn.ntmps t0 = args ++ List.replicate (fn.ntmps - args.length) undef := by
                    apply List.ext_getElem?
                    intro j
                    rw [h2, blank_eq hD, List.range_eq_range', fold_set_get args 0 _ _ (by simpa using h1) (by simp; omega) j]
                    by_cases hj : j < args.length
                    · rw [if_pos (by omega), List.getElem?_append_left hj]; rfl
                    · rw [if_neg (by omega), List.getElem?_append_right (by omega)]
                      by_cases hj2 : j < fn.ntmps
                      · simp [List.getElem?_replicate, hj2]; omega
                      · simp [List.getElem?_replicate, hj2]; omega
                  obtain ⟨n, e, t1, H1, h4, h5⟩ := cCode_ok hD hrc c t0 H _ _ _ r (by rw [hcc]; exact h3)
                  rw [e0] at h4
                  have fin : ∀ {v : List Value → Value × AH}, res t1 H1 (fun vs => k (resultOf vs) H1) = some r → ∃ vs, resultsL T H1 (toL fn.ntmps t1) fn.results.toList = some vs ∧ k (resultOf vs) H1 = some r := fun h => by
                    exact cRes_ok (D := depthOf fn.ntmps) (m := fn.ntmps) (t := t1) (H := H1) (r := r) (rs := fn.results.toList) (k := fun vs => k (resultOf vs) H1) (by rw [hrr]; exact h)
                  have go : ∀ {e : Ex}, (e = .normal ∨ e = .ret) → evCode P T X n c ⟨args ++ List.replicate (fn.ntmps - args.length) undef, H⟩ = some (e, ⟨toL fn.ntmps t1, H1⟩) → res t1 H1 (fun vs => k (resultOf vs) H1) = some r →
                      ∃ n v H', evCallW T X (evCode P T X n) f args H = some (v, H') ∧ k v H' = some r := fun {e} he h4 h5 => by
                    obtain ⟨vs, h6, h7⟩ := fin (v := fun _ => r) h5
                    refine ⟨n, resultOf vs, H1, ?_, h7⟩
                    unfold evCallW
                    rw [hX]
                    simp only [hfn, hb]
                    rw [h4]
                    rcases he with rfl | rfl
                    · simp only [h6]; rfl
                    · simp only [h6]; rfl
                  cases e with
                  | normal => exact go (.inl rfl) h4 h5
                  | ret => exact go (.inr rfl) h4 h5
                  | exit id => cases h5

theorem setPs_ok {D m : Nat} (hD : m ≤ 8 ^ D) {k : NT D → Ans} {r : Value × AH} : ∀ {ps : List Tmp} {l : List Value} {t : NT D}, setPs D m ps l t k = some r → ∃ t', toL m t' = setArgs (toL m t) (ps.zip l) ∧ k t' = some r
  | [], l, t, h => ⟨t, by simp [setArgs], h⟩
  | p :: ps, [], t, h => ⟨t, by simp [setArgs], h⟩
  | p :: ps, x :: l, t, h => by
    obtain ⟨h1, h2⟩ := iteC_true (show iteC (Nat.blt p m) ((cSet D p).run x t (fun t' => setPs D m ps l t' k)) none = some r from h)
    rw [cSet_run] at h2
    obtain ⟨t', h3, h4⟩ := setPs_ok hD (ps := ps) (l := l) h2
    refine ⟨t', ?_, h4⟩
    rw [h3, toL_set hD t (blt_of h1)]
    rfl

theorem turnF_eq {l : Nat} {st : LoopState} {j : Option Code} {b : Bool} {H : AH} {k : Value → AH → Ans} {r : Value × AH} (h : turnF l st j b H k = some r) :
    ∃ s0 p0 tt p a bd, H.get l = some (.loop s0 p0 tt p a bd) ∧ k (.bool b) (H.set l (.loop st j tt p a bd)) = some r := by
  unfold turnF at h
  rw [getT_eq] at h
  split at h
  · rename_i s0 p0 tt p a bd hg
    exact ⟨s0, p0, tt, p, a, bd, hg, setH_eq h⟩
  · cases h

/-- What a loop's body leaves. -/
def afterY (e : Ex) (l : Nat) (H2 : AH) : Option (Value × AH) :=
  match H2.get l with
  | some (.loop _ _ t p a b) =>
    match e with
    | .normal => some (.bool true, H2.set l (.loop .ready none t p a b))
    | .ret => some (.bool false, H2.set l (.loop .done (some .ret) t p a b))
    | .exit id => some (.bool false, H2.set l (.loop .done (some (.exit id)) t p a b))
  | _ => none
theorem yieldF_ok {rc : RC} (hrc : RCOK P T X rc) {l : Nat} {args : List Value} {H : AH} {k : Value → AH → Ans} {r : Value × AH} (h : yieldF P T rc l args H k = some r) :
    ∃ n v H', evYieldW (evCode P T X n) l args H = some (v, H') ∧ k v H' = some r := by
  unfold yieldF at h
  rw [getT_eq] at h
  split at h
  · rename_i st0 pe0 tmps ps asg body hg
    rw [numK_eq] at h
    obtain ⟨h1, h2⟩ := iteC_true h
    simp only [Bool.and_eq_true] at h1
    have hlen : args.length = ps.size := beq_of h1.1
    have hD : tmps.length ≤ 8 ^ depthOf tmps.length := depth_ok (ble_of h1.2)
    cases ha : cCode P T (depthOf tmps.length) tmps.length asg with
    | mk fa => cases hb : cCode P T (depthOf tmps.length) tmps.length body with
      | mk fb =>
        rw [ha, hb] at h2
        dsimp only at h2
        obtain ⟨t0, h3, h4⟩ := setPs_ok hD h2
        have e0 : toL (D := depthOf tmps.length) tmps.length (ofN (depthOf tmps.length) (fun i => getK tmps i)) = tmps := toL_ofN hD rfl fun i _ => getK_eq tmps i
        rw [e0] at h3
        obtain ⟨n1, e, t1, H1, h5, h6⟩ := cCode_ok hD hrc asg t0 H _ _ _ r (by rw [ha]; exact h4)
        rw [h3] at h5
        cases e with
        | exit id => cases h6
        | ret => cases h6
        | normal =>
          simp only [outK] at h6
          rw [getT_eq] at h6
          split at h6
          · rename_i pend tt p a b hg1
            have h7 := setH_eq h6
            obtain ⟨n2, e2, t2, H2, h8, h9⟩ := cCode_ok hD hrc body t1 (H1.set l (.loop .busy pend tt p a b)) _ _ _ r (by rw [hb]; exact h7)
            have hg' : H1.get l = some (.loop .ready pend tt p a b) := hg1
            have hg0 : H.get l = some (.loop st0 pe0 tmps ps asg body) := hg
            have main : ∀ {v : Value} {H' : AH}, afterY e2 l H2 = some (v, H') → evYieldW (evCode P T X (max n1 n2)) l args H = some (v, H') := fun hh => by
              unfold evYieldW
              simp only [hg0]
              rw [if_pos hlen, evCode_le (Nat.le_max_left n1 n2) _ _ _ h5]
              simp only [hg']
              rw [evCode_le (Nat.le_max_right n1 n2) _ _ _ h8]
              exact hh
            cases e2 with
            | normal =>
              obtain ⟨s0, p0, tt2, p2, a2, b2, h10, h11⟩ := turnF_eq h9
              exact ⟨_, _, _, main (by simp only [afterY, h10]), h11⟩
            | ret =>
              obtain ⟨s0, p0, tt2, p2, a2, b2, h10, h11⟩ := turnF_eq h9
              exact ⟨_, _, _, main (by simp only [afterY, h10]), h11⟩
            | exit id =>
              obtain ⟨s0, p0, tt2, p2, a2, b2, h10, h11⟩ := turnF_eq h9
              exact ⟨_, _, _, main (by simp only [afterY, h10]), h11⟩
          · cases h6
  · cases h

/-- THE SWIFTER EVALUATOR's ANSWERS ARE THE EVALUATOR's. -/
theorem rcAt_ok : ∀ n : Nat, RCOK P T X (rcAt P T X n)
  | 0 => fun _ _ _ _ _ h => by cases h
  | n + 1 => fun tg args H k r h => by
    cases tg with
    | fn f => exact callF_ok (rcAt_ok n) (show callF P T X (rcAt P T X n) f args H k = some r from h)
    | yd l => exact yieldF_ok (rcAt_ok n) (show yieldF P T (rcAt P T X n) l args H k = some r from h)

theorem rcAt_call {n : Nat} {f : FuncId} {args : List Value} {H : AH} {v : Value} {H' : AH} (h : rcAt P T X n (.fn f) args H (fun v H' => some (v, H')) = some (v, H')) : ∃ N, evCall P T X N f args H = some (v, H') := by
  obtain ⟨N, v1, H1, h1, h2⟩ := rcAt_ok n _ _ _ _ _ h
  cases h2
  exact ⟨N, h1⟩
end
end Go.Fv
