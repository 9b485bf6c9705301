/- Appends and calls of the swifter evaluator are the evaluator's; so is every operation. -/
import Derived.Test.YtaoaddokgofifaaGreatFvH
namespace Go.Fv
open Go.Ev

section
variable {P : Program} {T : TT} {X : Prims} {D m : Nat}

theorem takeA_eq {r : Value × AH} : ∀ {n : Nat} {new c : List Value} {k : List Value → Ans}, takeA n new c k = some r → n ≤ c.length ∧ k (c.take n ++ new) = some r
  | 0, new, c, k, h => ⟨by omega, by simpa using (show k new = some r from h)⟩
  | n + 1, new, [], k, h => by cases h
  | n + 1, new, x :: c, k, h => by
    obtain ⟨h1, h2⟩ := takeA_eq (n := n) (new := new) (c := c) (k := fun r' => k (x :: r')) h
    exact ⟨by simpa using h1, by simpa using h2⟩
theorem segA_eq {n : Nat} {r : Value × AH} : ∀ {o : Nat} {new c : List Value} {k : List Value → Ans}, segA o n new c k = some r → o + n ≤ c.length ∧ k ((c.drop o).take n ++ new) = some r
  | 0, new, c, k, h => by
    obtain ⟨h1, h2⟩ := takeA_eq (n := n) (new := new) (c := c) (k := k) h
    exact ⟨by omega, by simpa using h2⟩
  | o + 1, new, [], k, h => by cases h
  | o + 1, new, x :: c, k, h => by
    obtain ⟨h1, h2⟩ := segA_eq (o := o) (new := new) (c := c) (k := k) h
    exact ⟨by simp only [List.length_cons]; omega, by simpa using h2⟩
theorem turnC_eq {b : Nat} {o : AObj} {H : AH} {k : AH → Ans} {r : Value × AH} (h : turnC b o H k = some r) : k ((H.kill b).alloc o) = some r := by
  obtain ⟨tr, nx⟩ := H
  have h1 := putR_eq (c := fun tr1 => putR (some o) tr1 nx (fun tr' => k ⟨tr', Nat.succ nx⟩)) h
  exact putR_eq (c := fun tr' => k ⟨tr', Nat.succ nx⟩) h1

theorem srcC_eq {sz : Nat} {x : Value} {H : AH} {f : Nat → List Value → Ans} {s : Ans} {r : Value × AH} (h : srcC sz x H f s = some r) :
    (∃ n new, lenV x = some n ∧ sourceV H sz n x = some new ∧ new.all one1 = true ∧ new.length = n * sz ∧ f n new = some r) ∨ s = some r := by
  rcases vSli_eq h with ⟨n, c, rfl, h1⟩ | ⟨b, o, n, c, rfl, h1⟩ | h1
  · obtain ⟨h2, h3⟩ := iteC_true h1
    have h2 := beq_of h2
    subst h2
    exact .inl ⟨0, [], rfl, rfl, rfl, by simp, h3⟩
  · obtain ⟨cs, e, h2, h3⟩ := cellsAt_eq h1
    obtain ⟨h4, h5⟩ := segC_eq h3
    obtain ⟨h6, h7⟩ := all1C_eq h5
    have h4' : o + n * sz ≤ cs.length := h4
    refine .inl ⟨n, _, rfl, ?_, h6, ?_, h7⟩
    · simp only [sourceV, Ev.rowAt, h2]
      rw [if_pos h4']
      rfl
    · show ((cs.drop o).take (n * sz)).length = n * sz
      simp
      omega
  · exact .inr h1
theorem fitC_eq {bytes n : Nat} {k : Ans} {r : Value × AH} (h : fitC bytes n k = some r) : n * 2 * (bytes + 1) + 1024 * (bytes + 1) ≤ mostBytes ∧ k = some r := by
  obtain ⟨h1, h2⟩ := iteC_true h
  have h1 := ble_of h1
  have h3 : n * (2 * (bytes + 1)) + 1024 * (bytes + 1) ≤ mostBytes := h1
  rw [← Nat.mul_assoc] at h3
  exact ⟨h3, h2⟩

theorem appT_eq {ts : Array TypeId} {e : TypeId} {sz bytes : Nat} (h : appT T ts = some (e, sz, bytes)) :
    ∃ st i xd, ts[0]? = some st ∧ T.und st = some (.slice e) ∧ T.inf e = some i ∧ i.size = sz ∧ i.bytes = bytes ∧ (ts[1]?).bind T.und = some xd ∧ intDesc xd = false ∧ (zeroT T e).isSome = true ∧ (zeroT T e).map List.length = some i.size := by
  unfold appT at h
  split at h
  · rename_i st hst
    split at h
    · rename_i e' hu
      split at h
      · rename_i i xd hi hxd
        split at h
        · rename_i hc
          cases h
          exact ⟨st, i, xd, hst, hu, hi, rfl, rfl, hxd, hc.1, hc.2.1, hc.2.2⟩
        · cases h
      · cases h
    · cases h
  · cases h

theorem newC_eq {sz : Nat} {e : TypeId} {n : Nat} {new : List Value} {H : AH} {k : Value → AH → Ans} {r : Value × AH} (h : newC sz e n new H k = some r) :
    k (.slice (some ⟨H.next, 0, none⟩) n (2 * sz)) (H.alloc (.cells new e)) = some r := allocC_eq h

theorem appC_eq {ts : Array TypeId} {e : TypeId} {sz bytes : Nat} (ht : appT T ts = some (e, sz, bytes)) {s x : Value} {H : AH} {k : Value → AH → Ans} {slow : Ans} {r : Value × AH} (h : appC sz bytes e s x H k slow = some r) :
    (∃ v H', appendV T ts [s, x] H = some (v, H') ∧ k v H' = some r) ∨ slow = some r := by
  obtain ⟨st, i, xd, a1, a2, a3, rfl, rfl, a4, a5, a6, a7⟩ := appT_eq ht
  have key : ∀ {n len : Nat} {new : List Value} {v : Value} {H' : AH}, lenV x = some n → lenV s = some len → sourceV H i.size n x = some new → new.all one1 = true → new.length = n * i.size →
      (len + n) * 2 * (i.bytes + 1) + 1024 * (i.bytes + 1) ≤ mostBytes → appendTo i e s len n new H = some (v, H') → appendV T ts [s, x] H = some (v, H') := fun b1 b2 b3 b4 b5 b6 b7 => by
    simp only [appendV, a1, a2, a3, b1, b2, a4]
    rw [if_pos ⟨a5, b6, a6, a7⟩, b3]
    simp only
    rw [if_pos ⟨b4, b5⟩]
    exact b7
  rcases vSli_eq h with ⟨n0, c, rfl, h1⟩ | ⟨b, o, len, c, rfl, h1⟩ | h1
  · obtain ⟨h2, h3⟩ := iteC_true h1
    have h2 := beq_of h2
    subst h2
    rcases srcC_eq h3 with ⟨n, new, b1, b3, b4, b5, h4⟩ | h4
    · obtain ⟨b6, h5⟩ := fitC_eq h4
      refine .inl ?_
      cases n with
      | zero =>
        refine ⟨.slice none 0 0, H, key b1 rfl b3 b4 b5 (by rw [Nat.zero_add]; exact b6) ?_, h5⟩
        simp [appendTo]
      | succ n =>
        have h6 := newC_eq (show newC i.size e (n + 1) new H k = some r from h5)
        refine ⟨_, _, key b1 rfl b3 b4 b5 (by rw [Nat.zero_add]; exact b6) ?_, h6⟩
        simp [appendTo]
    · exact .inr h4
  · rcases srcC_eq h1 with ⟨n, new, b1, b3, b4, b5, h4⟩ | h4
    · obtain ⟨b6, h5⟩ := fitC_eq h4
      refine .inl ?_
      rcases iteC_eq h5 with ⟨h6, h7⟩ | ⟨h6, h7⟩
      · have h6 : c % 2 = 1 := beq_of h6
        rcases iteC_eq h7 with ⟨h8, h9⟩ | ⟨h8, h9⟩
        · have h8 : len + n ≤ c / 2 := ble_of h8
          obtain ⟨cs, e', h10, h11⟩ := cellsAt_eq h9
          obtain ⟨h12, h13⟩ := rowC_eq h11
          have h14 := setH_eq h13
          have h12' : o + len * i.size + new.length ≤ cs.length := h12
          refine ⟨_, _, key b1 rfl b3 b4 b5 b6 ?_, h14⟩
          simp only [appendTo]
          rw [if_pos h6, if_pos h8]
          simp only [h10]
          rw [if_pos (by rw [Nat.add_mul, ← b5]; omega), setMany_row _ _ _ h12']
          rfl
        · have h8' : ¬ len + n ≤ c / 2 := fun q => by
            rw [show Nat.ble (Nat.add len n) (Nat.div c 2) = true from Nat.ble_eq_true_of_le q] at h8; cases h8
          obtain ⟨cs, e', h10, h11⟩ := cellsAt_eq h9
          obtain ⟨h12, h13⟩ := segA_eq h11
          have h14 := newC_eq h13
          have h12' : o + len * i.size ≤ cs.length := h12
          refine ⟨_, _, key b1 rfl b3 b4 b5 b6 ?_, h14⟩
          simp only [appendTo]
          rw [if_pos h6, if_neg h8']
          simp only [Ev.rowAt, h10]
          rw [if_pos h12']
          rfl
      · have h6' : ¬ c % 2 = 1 := fun q => by
          rw [show Nat.beq (Nat.mod c 2) 1 = true by rw [show Nat.mod c 2 = 1 from q]; rfl] at h6; cases h6
        obtain ⟨h8, h9⟩ := iteC_true h7
        have h8 : c = 2 * i.size := beq_of h8
        cases n with
        | zero =>
          refine ⟨_, _, key b1 rfl b3 b4 b5 b6 ?_, h9⟩
          simp only [appendTo]
          rw [if_neg h6', if_pos h8]
          simp
        | succ n =>
          obtain ⟨cs, e', h10, h11⟩ := cellsAt_eq (show growC i.size e b o len c (n + 1) new H k = some r from h9)
          obtain ⟨h12, h13⟩ := iteC_true h11
          have h12 : e' = e := beq_of h12
          obtain ⟨h14, h15⟩ := segA_eq h13
          have h16 := turnC_eq h15
          have h14' : o + len * i.size ≤ cs.length := h14
          refine ⟨_, _, key b1 rfl b3 b4 b5 b6 ?_, h16⟩
          simp only [appendTo]
          rw [if_neg h6', if_pos h8, if_neg (by omega)]
          simp only [h10]
          rw [if_pos ⟨h12, h14'⟩]
          rfl
    · exact .inr h4
  · exact .inr h1

theorem builtin_ev {b : Builtin} {args : Array Operand} {ts : Array TypeId} : EvOK P T m (cCall P T D m { callee := .builtin b, args := args, argTypes := ts }) (.call { callee := .builtin b, args := args, argTypes := ts }) := by
  intro rc t H k r hr
  have gen : ∀ {ga : NT D → List Value}, cArgs D m args.toList = ⟨ga⟩ → optVH (builtinV P T b ts (ga t) H) k = some r → ∃ v H', evOp P T (envL (toL m t)) (.call { callee := .builtin b, args := args, argTypes := ts }) H = some (v, H') ∧ k v H' = some r := fun hg h => by
    obtain ⟨v, H', h1, h2⟩ := optVH_eq h
    rw [args_of hg] at h1
    exact ⟨v, H', h1, h2⟩
  cases b
  case len =>
    simp only [cCall] at hr
    split at hr
    · rename_i e x hu ha
      cases hx : cArg D m x with
      | mk f =>
        rw [hx] at hr
        dsimp only at hr
        obtain ⟨a, n, c, h1, h2⟩ := vLen_eq hr
        rw [arg_of hx] at h1
        refine ⟨_, _, ?_, h2⟩
        obtain ⟨t0, ht0, hu0⟩ : ∃ t0, ts[0]? = some t0 ∧ T.und t0 = some (.slice e) := by
          cases h0 : ts[0]? with
          | none => rw [h0] at hu; cases hu
          | some t0 => rw [h0] at hu; exact ⟨t0, rfl, hu⟩
        simp only [evOp, builtinV, lenB, ht0, ha, List.map_cons, List.map_nil, h1, hu0]
        rfl
    · exact slowO_ev rc t H k r hr
  case append =>
    simp only [cCall] at hr
    split at hr
    · rename_i e sz bytes s x hT ha
      cases hs : cArg D m s with
      | mk f => cases hx : cArg D m x with
        | mk g =>
          rw [hs, hx] at hr
          dsimp only at hr
          rcases appC_eq hT hr with ⟨v, H', h1, h2⟩ | h1
          · rw [arg_of hs, arg_of hx] at h1
            refine ⟨v, H', ?_, h2⟩
            simp only [evOp, builtinV, ha, List.map_cons, List.map_nil]
            exact h1
          · obtain ⟨v, H', h2, h3⟩ := optVH_eq h1
            rw [arg_of hs, arg_of hx] at h2
            refine ⟨v, H', ?_, h3⟩
            simp only [evOp, ha, List.map_cons, List.map_nil]
            exact h2
    · exact slowO_ev rc t H k r hr
  all_goals
    simp only [cCall] at hr
    cases hg : cArgs D m args.toList with
    | mk ga =>
      rw [hg] at hr
      exact gen hg hr

/-- A call of a function's value. -/
theorem value_ok {f : Operand} {args : Array Operand} {ts : Array TypeId} : ObOK P T X m (cCall P T D m { callee := .value f, args := args, argTypes := ts }) (.call { callee := .value f, args := args, argTypes := ts }) := by
  intro rc hrc t H k r hr
  simp only [cCall] at hr
  cases hg : cArgs D m args.toList with
  | mk ga =>
    rw [hg] at hr
    have dyn : ∀ {gf : NT D → Value}, cArg D m f = ⟨gf⟩ → (match gf t with
          | .func (.func g) first cap => iteC first.isEmpty (rc (.fn g) (ga t ++ cap.toList) H k) none
          | .func (.yield l) first cap => iteC (and first.isEmpty cap.isEmpty) (rc (.yd l) (ga t) H k) none
          | _ => none) = some r → ∃ n v H', evOperW P T X (evCode P T X n) (envL (toL m t)) (.call { callee := .value f, args := args, argTypes := ts }) H = some (v, H') ∧ k v H' = some r := fun hf h => by
      rw [arg_of hf, args_of hg] at h
      split at h
      · rename_i g first cap he
        obtain ⟨h1, h2⟩ := iteC_true h
        obtain ⟨n, v, H', h3, h4⟩ := hrc _ _ _ _ _ h2
        refine ⟨n, v, H', ?_, h4⟩
        simp only [evOperW, he, h1, if_true]
        exact h3
      · rename_i l first cap he
        obtain ⟨h1, h2⟩ := iteC_true h
        obtain ⟨n, v, H', h3, h4⟩ := hrc _ _ _ _ _ h2
        simp only [Bool.and_eq_true] at h1
        refine ⟨n, v, H', ?_, h4⟩
        simp only [evOperW, he]
        rw [if_pos h1]
        exact h3
      · cases h
    cases f with
    | func g =>
      dsimp only at hr
      rw [args_of hg] at hr
      obtain ⟨n, v, H', h3, h4⟩ := hrc _ _ _ _ _ hr
      refine ⟨n, v, H', ?_, h4⟩
      have h3 : evCallW T X (evCode P T X n) g (args.toList.map (envL (toL m t))) H = some (v, H') := h3
      simp only [evOperW, envL]
      simpa using h3
    | tmp i =>
      dsimp only at hr
      cases hf : cArg D m (.tmp i) with
      | mk gf => rw [hf] at hr; exact dyn hf hr
    | const c =>
      dsimp only at hr
      cases hf : cArg D m (.const c) with
      | mk gf => rw [hf] at hr; exact dyn hf hr
    | global c =>
      dsimp only at hr
      cases hf : cArg D m (.global c) with
      | mk gf => rw [hf] at hr; exact dyn hf hr

theorem ok_of_ev {c : Ob D} {o : Op} (h : isCallV o = false) (hc : EvOK P T m c o) : ObOK P T X m c o := by
  intro rc _ t H k r hr
  obtain ⟨v, H', h1, h2⟩ := hc rc t H k r hr
  exact ⟨0, v, H', by rw [plain_oper h]; exact h1, h2⟩

theorem cOpn_ok (o : Op) : ObOK P T X m (cOpn P T D m o) o := by
  cases o with
  | move x => exact ok_of_ev rfl move_ev
  | assign x => exact ok_of_ev rfl assign_ev
  | pick c a b => exact ok_of_ev rfl pick_ev
  | nilCheck x => exact ok_of_ev rfl nilCheck_ev
  | extract x i => exact ok_of_ev rfl extract_ev
  | fieldAddr s x f => exact ok_of_ev rfl fieldAddr_ev
  | indexAddr t x i => exact ok_of_ev rfl indexAddr_ev
  | load t a => exact ok_of_ev rfl load_ev
  | store t a x => exact ok_of_ev rfl store_ev
  | alloc e => exact ok_of_ev rfl alloc_ev
  | box e x => exact ok_of_ev rfl box_ev
  | build t ps => exact ok_of_ev rfl build_ev
  | buildSlice t n ps => exact ok_of_ev rfl buildSlice_ev
  | binOp op t x y t2 => exact ok_of_ev rfl bin_ev
  | unOp op t x => exact ok_of_ev rfl un_ev
  | convert s d x => exact ok_of_ev rfl conv_ev
  | slice t x lo hi mx => exact ok_of_ev rfl slice_ev
  | field s x f => exact ok_of_ev rfl field_ev
  | index t x i => exact ok_of_ev rfl index_ev
  | call c =>
    obtain ⟨callee, args, ts⟩ := c
    cases callee with
    | value f => exact value_ok
    | builtin b => exact ok_of_ev rfl builtin_ev
    | _ => exact ok_of_ev rfl slowO_ev
  | _ => exact ok_of_ev rfl slowO_ev
end
end Go.Fv
