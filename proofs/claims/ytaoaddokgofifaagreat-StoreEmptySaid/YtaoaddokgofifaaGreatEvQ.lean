/- The evaluator's answers are the model's: by how much fuel it has. -/
import Derived.Test.YtaoaddokgofifaaGreatEvP
namespace Go.Ev
open Go.RowKit
section
variable {P : Program} {T : TT} {X : Prims} {ρ : Inj} {H : AH} {w : World}

theorem CodeOut.here (hm : MR ρ H w) {st' : St} (hH : st'.heap = H) {ro : Option Nat} {a : Act} (hl : All2 (TV ρ) st'.tmps a.tmps.toList) : CodeOut ρ H w st' a.defers ro a w :=
  ⟨ρ, [], by rw [hH]; exact .refl hm, hl, rfl, ⟨List.nodup_nil, fun _ h => by cases h⟩, fun _ => rfl⟩

theorem MarksOK.post {base : Nat} {ρ₁ ρ₂ : Inj} {H₁ H₂ : AH} {w₁ w₂ : World} {rs : List Nat} (hm : MR ρ₁ H₁ w₁) (h : MarksOK base ρ₁ H₁ w₁ rs) (hp : Post ρ₁ H₁ w₁ ρ₂ H₂ w₂) : MarksOK base ρ₂ H₂ w₂ rs := by
  refine ⟨h.1, fun r hr => ?_⟩
  obtain ⟨h1, h2, h3⟩ := h.2 r hr
  have hlt := (Array.getElem?_eq_some_iff.1 h2).1
  exact ⟨h1, by rw [hp.frame r hlt h3]; exact h2, fun hh => h3 (hp.held hm hlt hh)⟩

/-- One stretch of code behind another. -/
theorem CodeOut.trans (hm : MR ρ H w) {st₁ st₂ : St} {ds : List Deferred} {ro : Option Nat} {a₁ a₂ : Act} {w₁ w₂ : World} {ρ₁ : Inj} {rs₁ : List Nat} (hp : Post ρ H w ρ₁ st₁.heap w₁) (hd : a₁.defers = rs₁.map markOf ++ ds)
    (hmk : MarksOK w.heap.size ρ₁ st₁.heap w₁ rs₁) (hro : ro.isSome = true → rs₁ = []) (h : CodeOut ρ₁ st₁.heap w₁ st₂ a₁.defers ro a₂ w₂) : CodeOut ρ H w st₂ ds ro a₂ w₂ := by
  obtain ⟨ρ₂, rs₂, h1, h2, h3, h4, h5⟩ := h
  refine ⟨ρ₂, rs₂ ++ rs₁, hp.trans hm h1, h2, by rw [h3, hd]; simp, ⟨?_, fun r hr => ?_⟩, fun hh => by rw [h5 hh, hro hh]; rfl⟩
  · rw [List.nodup_append]
    refine ⟨h4.1, hmk.1, fun x hx y hy e => ?_⟩
    subst e
    have a1 := (h4.2 x hx).1
    have a2 := (Array.getElem?_eq_some_iff.1 (hmk.2 x hy).2.1).1
    omega
  · rw [List.mem_append] at hr
    rcases hr with hr | hr
    · obtain ⟨a1, a2, a3⟩ := h4.2 r hr
      exact ⟨Nat.le_trans hp.size a1, a2, a3⟩
    · exact (hmk.post hp.mr h1).2 r hr

/-- The rounds of a loop. -/
def SimLoop (P : Program) (T : TT) (X : Prims) (n : Nat) : Prop := ∀ c st ex st', codeOK c = true → evCode P T X n (.loop c) st = some (ex, st') →
  ∀ ρ w (a : Act) ro m, MR ρ st.heap w → RoundOK ro ρ st.heap → All2 (TV ρ) st.tmps a.tmps.toList → ∀ Q : Exit → Act → World → Prop,
    (∀ a' w', CodeOut ρ st.heap w st' a.defers ro a' w' → Q (exOf ex) a' w') → Code.roundsIn (Fr ro) m P c Q n a w

theorem simLoop_succ {n : Nat} (IH : SimCode P T X n) (IL : SimLoop P T X n) : SimLoop P T X (n + 1) := by
  intro c st ex st' hok h ρ w a ro m hm hr hl Q hQ
  simp only [evCode] at h
  rw [roundsIn_succ]
  split at h
  · rename_i s' hs'
    refine wpIn_mono (IH c st .normal s' hok hs' ρ w a ro m hm hr hl) ?_
    rintro e a₁ w₁ ⟨rfl, ρ₁, rs₁, hp, hl₁, hd, hmk, hro⟩
    refine IL c s' ex st' hok h ρ₁ w₁ a₁ ro m hp.mr (hr.post hp) hl₁ Q fun a' w' ho => hQ a' w' ?_
    exact CodeOut.trans hm hp hd hmk hro ho
  · rename_i r hne
    refine wpIn_mono (IH c st ex st' hok h ρ w a ro m hm hr hl) ?_
    rintro e a₁ w₁ ⟨rfl, ho⟩
    have := hQ a₁ w₁ ho
    cases ex with
    | normal => exact absurd h (by intro e; exact hne st' (by rw [e]))
    | exit id => exact this
    | ret => exact this

theorem run_enterLoop_inner' {l₀ : Nat} {r₀ : Loop} (h : w.heap[l₀]? = some (.loop r₀)) (fn : FuncId) (tmps : Array Value) (ps : Array Tmp) (assign body : Code) :
    (Instr.enterLoop fn tmps ps assign body (some l₀)).run P w =
      .ok (w.heap.size, []) (w.alloc (.loop { state := .ready, pending := none, fn, tmps, params := ps, assign, body, defers := r₀.defers })) := by
  unfold Instr.enterLoop
  simp only [Sem.run_bind, run_getLoop h, run_newObj_alloc, Result.andThen, Sem.run_pure]

/-- What entering a loop over a function lays. -/
theorem enter_sim (hm : MR ρ H w) {ro : Option Nat} (hr : RoundOK ro ρ H) {l : List Value} {ct : Array Value} (hl : All2 (TV ρ) l ct.toList) (ps : Array Tmp) {asg body : Code} (ha : codeOK asg = true) (hb : codeOK body = true) (fn : FuncId) :
    ∃ (lo : Nat) (rs : List Nat) (w₁ : World) (ρ₁ : Inj), (Instr.enterLoop fn ct ps asg body ro).run P w = .ok (lo, rs.map markOf) w₁ ∧ Post ρ H w ρ₁ (H.alloc (.loop .ready none l ps asg body)) w₁ ∧
      ρ₁ H.next = some ⟨lo, 0, 0⟩ ∧ MarksOK w.heap.size ρ₁ (H.alloc (.loop .ready none l ps asg body)) w₁ rs ∧ (ro.isSome = true → rs = []) := by
  cases ro with
  | none =>
    have hp1 := (Post.refl hm).push (.deferred (some []))
    have hp2 := Post.alloc (L := 0) hp1.mr (OR.loop (L := 0) (st := .ready) (pend := none) (ps := ps) (a := asg) (b := body) (fn := fn) (df := w.heap.size) rfl hl ha hb)
    have hsz : (w.alloc (.deferred (some []))).heap.size = w.heap.size + 1 := by simp
    refine ⟨w.heap.size + 1, [w.heap.size], _, _, run_enterLoop_outer _ _ _ _ _, hp1.trans hm hp2, ?_, ?_, fun hh => by cases hh⟩
    · rw [Inj.ext_same, hsz]
    · refine ⟨by simp, fun r hr => ?_⟩
      simp at hr; subst hr
      refine ⟨Nat.le_refl _, ?_, ?_⟩
      · show ((w.heap.push _).push _)[w.heap.size]? = _
        simp [Array.getElem?_push]
      · intro hh
        have hne : (w.alloc (.deferred (some []))).heap.size ≠ w.heap.size := by omega
        rcases held_ext hh with h1 | h1
        · exact hne h1.symm
        · exact absurd (hm.held_lt (held_alloc (Post.refl hm).none_next h1)) (Nat.lt_irrefl _)
  | some l₀ =>
    obtain ⟨k, ⟨o, hg, hlo⟩, _, hk⟩ := hr l₀ rfl
    obtain ⟨st0, pend0, t0, ps0, a0, b0, rfl⟩ : ∃ st0 pend0 t0 ps0 a0 b0, o = .loop st0 pend0 t0 ps0 a0 b0 := by
      cases o <;> first | (cases hlo; done) | exact ⟨_, _, _, _, _, _, rfl⟩
    obtain ⟨t', fn', df', h1, _⟩ := hm.loopObj hg hk
    have hp2 := Post.alloc (L := 0) hm (OR.loop (L := 0) (st := .ready) (pend := none) (ps := ps) (a := asg) (b := body) (fn := fn) (df := df') rfl hl ha hb)
    refine ⟨w.heap.size, [], _, _, run_enterLoop_inner' h1 _ _ _ _ _, hp2, Inj.ext_same _ _ _, ⟨List.nodup_nil, fun r hr => by cases hr⟩, fun _ => rfl⟩

theorem evRange_wp (hT : T.Ok P) (hX : PrimsOk P X) (hXh : PrimsHere T X) (hC : CodesOk T) {n : Nat} (IH : SimCode P T X n) {f : Operand} {ps : Array Tmp} {asg body : Code} {st : St} {ex : Ex} {st' : St}
    (hok : codeOK (.rangeFunc f ps asg body) = true) (h : evCode P T X (n + 1) (.rangeFunc f ps asg body) st = some (ex, st')) {a : Act} {ro : Option Nat} {m : Nat} (hm : MR ρ st.heap w) (hr : RoundOK ro ρ st.heap)
    (hl : All2 (TV ρ) st.tmps a.tmps.toList) : (Code.rangeFunc f ps asg body).wpIn (Fr ro) m P (fun e a' w' => e = exOf ex ∧ CodeOut ρ st.heap w st' a.defers ro a' w') a w := by
  simp only [codeOK, Bool.and_eq_true] at hok
  simp only [evCode] at h
  split at h
  · rename_i g first cap hof hf
    split at h
    · rename_i hfirst
      have hf0 : first = #[] := by simpa using hfirst
      subst hf0
      split at h
      · rename_i v H' hcall
        have hfv := envL_sim hl hof
        rw [hf] at hfv
        obtain ⟨cc, hcc, hcap⟩ : ∃ cc, a.eval f = .func (.func g) #[] cc ∧ All2 (TV ρ) cap.toList cc.toList := by
          generalize a.eval f = cf at hfv
          cases hfv with
          | val hfv => cases hfv with
            | one hfv => cases hfv with
              | base hfv => cases hfv
              | func hc => exact ⟨_, rfl, hc.mono fun _ _ x => .base x⟩
        obtain ⟨fn, hfn⟩ : ∃ fn, T.fn g = some fn := by
          cases hXg : X g with
          | some p => exact hXh g p hXg
          | none =>
            unfold evCallW at hcall
            rw [hXg] at hcall
            simp only at hcall
            cases hq : T.fn g with
            | some fn => exact ⟨fn, rfl⟩
            | none => rw [hq] at hcall; cases hcall
        refine wpIn_rangeFunc fun fnid _ => ?_
        obtain ⟨lo, rs, w₁, ρ₁, hent, hp1, hk1, hmk, hro⟩ := enter_sim (P := P) hm hr hl ps hok.1 hok.2 fnid
        have hargs : All2 (TV ρ₁) (.func (.yield st.heap.next) #[] #[] :: cap.toList) (#[Value.func (.yield lo) #[] #[]] ++ cc).toList := by
          rw [Array.toList_append]
          exact .cons (.val (.one (.yield hk1))) (hcap.mono fun _ _ x => x.mono hp1.le)
        refine ⟨lo, rs.map markOf, w₁, _, w₁, g, #[Value.func (.yield lo) #[] #[]] ++ cc, w₁, hent, resolve_value hcc w₁, fun _ _ => trivial, ?_, fun hh => by simp [Fence.wide] at hh, ?_⟩
        · have e1 : Array.map a.eval #[Operand.const (Value.func (.yield lo) #[] #[])] = #[Value.func (.yield lo) #[] #[]] := by simp [Act.eval]
          simp only [invoke, e1]
          exact callFunc_run hT hfn _ _
        · refine CallsIn.mono (evCallW_sim (m := m - 1) hT hX hC IH hp1.mr hargs hcall) ?_
          rintro e w' ⟨cv, ρ₂, rfl, _, hp2⟩
          have hk2 := hp2.le _ _ hk1
          split at h
          · rename_i st2 pend t2 p2 a2 b2 hg2
            split at h
            · cases h
            · rename_i hnb
              obtain ⟨t', fn', df, hO, hp3⟩ := Post.loopPut (pend' := pend) hp2.mr hg2 hk2 .exhausted
              have hout : ∀ a', a' = { a with defers := rs.map markOf ++ a.defers } → CodeOut ρ st.heap w ⟨st.tmps, H'.set st.heap.next (.loop .exhausted pend t2 p2 a2 b2)⟩ a.defers ro a'
                  (w'.putObj lo (.loop { state := .exhausted, pending := pend, fn := fn', tmps := t', params := p2, assign := a2, body := b2, defers := df })) := by
                rintro a' rfl
                have hp23 := hp2.trans hp1.mr hp3
                exact ⟨ρ₂, rs, hp1.trans hm hp23, hl.mono fun _ _ x => x.mono (Inj.le_trans hp1.le hp2.le), rfl, hmk.post hp1.mr hp23, hro⟩
              refine ⟨pend, _, run_endLoop hO hnb, ?_⟩
              cases pend with
              | none =>
                cases h
                exact ⟨rfl, hout _ rfl⟩
              | some c =>
                cases c <;> simp only at h <;> first | (cases h; done) | skip
                · cases h
                  exact wpIn_exit ⟨rfl, hout _ rfl⟩
                · cases h
                  exact wpIn_ret ⟨rfl, hout _ rfl⟩
          · cases h
      · cases h
    · cases h
  · cases h

theorem simCode_succ (hT : T.Ok P) (hX : PrimsOk P X) (hXh : PrimsHere T X) (hC : CodesOk T) (hmix : P.follows .mixedOrders = true) {n : Nat} (IH : SimCode P T X n) (IL : SimLoop P T X n) : SimCode P T X (n + 1) := by
  intro c st ex st' hok h ρ w a ro m hm hr hl
  cases c with
  | skip =>
    simp only [evCode] at h; cases h
    exact wpIn_skip ⟨rfl, .here hm rfl hl⟩
  | ret =>
    simp only [evCode] at h; cases h
    exact wpIn_ret ⟨rfl, .here hm rfl hl⟩
  | exit id =>
    simp only [evCode] at h; cases h
    exact wpIn_exit ⟨rfl, .here hm rfl hl⟩
  | seq x y =>
    simp only [codeOK, Bool.and_eq_true] at hok
    simp only [evCode] at h
    refine wpIn_seq ?_
    split at h
    · rename_i s' hs'
      refine wpIn_mono (IH x st .normal s' hok.1 hs' ρ w a ro m hm hr hl) ?_
      rintro e a₁ w₁ ⟨rfl, ρ₁, rs₁, hp, hl₁, hd, hmk, hro⟩
      refine wpIn_mono (IH y s' ex st' hok.2 h ρ₁ w₁ a₁ ro m hp.mr (hr.post hp) hl₁) ?_
      rintro e a₂ w₂ ⟨rfl, ho⟩
      exact ⟨rfl, CodeOut.trans hm hp hd hmk hro ho⟩
    · rename_i r hne
      refine wpIn_mono (IH x st ex st' hok.1 h ρ w a ro m hm hr hl) ?_
      rintro e a₁ w₁ ⟨rfl, ho⟩
      cases ex with
      | normal => exact absurd h (by intro e; exact hne st' (by rw [e]))
      | exit id => exact ⟨rfl, ho⟩
      | ret => exact ⟨rfl, ho⟩
  | cond x y z =>
    simp only [codeOK, Bool.and_eq_true] at hok
    simp only [evCode] at h
    have hval : ∀ b, envL st.tmps x = .bool b → a.eval x = .bool b := fun b hb => by
      cases x with
      | tmp t =>
        have := envL_sim hl (x := .tmp t) rfl
        rw [hb] at this
        exact this.bool_inv
      | const v => exact hb
      | global g => cases hb
      | func f => cases hb
    split at h
    · rename_i hb
      exact wpIn_cond_true (hval _ hb) (IH y st ex st' hok.1 h ρ w a ro m hm hr hl)
    · rename_i hb
      exact wpIn_cond_false (hval _ hb) (IH z st ex st' hok.2 h ρ w a ro m hm hr hl)
    · cases h
  | block id x =>
    simp only [codeOK] at hok
    simp only [evCode] at h
    refine wpIn_block ?_
    split at h
    · rename_i id' s' hs'
      refine wpIn_mono (IH x st (.exit id') s' hok hs' ρ w a ro m hm hr hl) ?_
      rintro e a₁ w₁ ⟨rfl, ho⟩
      simp only [exOf, Exit.inBlock]
      split at h
      · rename_i e; cases h
        rw [if_pos e]; exact ⟨rfl, ho⟩
      · rename_i e; cases h
        rw [if_neg e]; exact ⟨rfl, ho⟩
    · rename_i r hne
      refine wpIn_mono (IH x st ex st' hok h ρ w a ro m hm hr hl) ?_
      rintro e a₁ w₁ ⟨rfl, ho⟩
      cases ex with
      | normal => exact ⟨rfl, ho⟩
      | exit id' => exact absurd h (by intro e; exact hne id' st' (by rw [e]))
      | ret => exact ⟨rfl, ho⟩
  | loop x =>
    simp only [codeOK] at hok
    exact wpIn_loop_rounds (n + 1) (simLoop_succ IH IL x st ex st' hok h ρ w a ro m hm hr hl _ fun a' w' ho => ⟨rfl, ho⟩)
  | region id ops draw =>
    simp only [evCode] at h
    obtain ⟨s', hs', h2⟩ := opt_map_some h
    simp only [Prod.mk.injEq] at h2
    obtain ⟨rfl, rfl⟩ := h2
    have fin : ∀ (a' : Act) w' ρ', Post ρ st.heap w ρ' s'.heap w' → All2 (TV ρ') s'.tmps a'.tmps.toList → a'.defers = a.defers → Exit.normal = exOf .normal ∧ CodeOut ρ st.heap w s' a.defers ro a' w' := fun a' w' ρ' h1 h2 h3 =>
      ⟨rfl, ρ', [], h1, h2, by rw [h3]; rfl, ⟨List.nodup_nil, fun _ h => by cases h⟩, fun _ => rfl⟩
    cases draw with
    | true =>
      simp only [codeOK, if_true] at hok
      exact evDraw_wp hT hX hXh hC hmix IH hok hs' hm hl fin
    | false =>
      refine wpIn_region ?_
      unfold evRegionW at hs'
      simp only [Bool.false_eq_true, if_false] at hs'
      have := evOps_wp (m := m) (ro := ro) (Q := fun e a' w' => e = exOf .normal ∧ CodeOut ρ st.heap w s' a.defers ro a' w') hT hX hXh hC IH hm (s' := s') (ds := a.defers) fin ops.toList 0 (fun j => by simp) st ρ a w hs' (.refl hm) hl rfl
      rw [List.range_eq_range']
      simpa using this
  | rangeFunc f ps asg body => exact evRange_wp hT hX hXh hC IH hok h hm hr hl
  | _ => simp [evCode] at h

/-- THE EVALUATOR's ANSWERS ARE THE MODEL's. -/
theorem sim_all (hT : T.Ok P) (hX : PrimsOk P X) (hXh : PrimsHere T X) (hC : CodesOk T) (hmix : P.follows .mixedOrders = true) : ∀ n, SimCode P T X n ∧ SimLoop P T X n
  | 0 => ⟨fun _ _ _ _ _ h => by simp [evCode] at h, fun _ _ _ _ _ h => by simp [evCode] at h⟩
  | n + 1 => by
    obtain ⟨h1, h2⟩ := sim_all hT hX hXh hC hmix n
    exact ⟨simCode_succ hT hX hXh hC hmix h1 h2, simLoop_succ h1 h2⟩

theorem evCall_sim (hT : T.Ok P) (hX : PrimsOk P X) (hXh : PrimsHere T X) (hC : CodesOk T) (hmix : P.follows .mixedOrders = true) {n : Nat} (hm : MR ρ H w) {f : FuncId} {args : List Value} {cargs : Array Value} {v : Value} {H' : AH} {m : Nat}
    (ha : All2 (TV ρ) args cargs.toList) (h : evCall P T X n f args H = some (v, H')) : CallsIn Fence.wide m P f cargs w (CallOut ρ H w v H') :=
  evCallW_sim hT hX hC (sim_all hT hX hXh hC hmix n).1 hm ha h

end
end Go.Ev
