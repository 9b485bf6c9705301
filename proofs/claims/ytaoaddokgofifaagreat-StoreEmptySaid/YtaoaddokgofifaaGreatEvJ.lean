/- Calls of functions, rounds of loops over functions, and single operations, each by what its code does. -/
import Derived.Test.YtaoaddokgofifaaGreatEvI
import Derived.LoopNIn
namespace Go.Ev
open Go.RowKit

/-- The fence of a frame: none; and of what loop it is a round. -/
abbrev Fr (ro : Option Nat) : Fence := { Fence.wide with round := ro }

def exOf : Ex → Exit
  | .normal => .normal
  | .exit id => .exit id
  | .ret => .ret

def markOf (r : Nat) : Deferred := { target := .collected r, args := #[] }

def MarksOK (base : Nat) (ρ : Inj) (H : AH) (w : World) (rs : List Nat) : Prop :=
  rs.Nodup ∧ ∀ r ∈ rs, base ≤ r ∧ w.heap[r]? = some (.deferred (some [])) ∧ ¬ Held ρ H r

def CodeOut (ρ : Inj) (H : AH) (w : World) (st' : St) (ds : List Deferred) (ro : Option Nat) (a' : Act) (w' : World) : Prop :=
  ∃ ρ' rs, Post ρ H w ρ' st'.heap w' ∧ All2 (TV ρ') st'.tmps a'.tmps.toList ∧ a'.defers = rs.map markOf ++ ds ∧ MarksOK w.heap.size ρ' st'.heap w' rs ∧ (ro.isSome = true → rs = [])

/-- A round's loop is there. -/
def RoundOK (ro : Option Nat) (ρ : Inj) (H : AH) : Prop := ∀ l, ro = some l → ∃ k, LoopAt H k ∧ k < H.next ∧ ρ k = some ⟨l, 0, 0⟩

def SimCode (P : Program) (T : TT) (X : Prims) (n : Nat) : Prop := ∀ c st ex st', codeOK c = true → evCode P T X n c st = some (ex, st') →
  ∀ ρ w (a : Act) ro m, MR ρ st.heap w → RoundOK ro ρ st.heap → All2 (TV ρ) st.tmps a.tmps.toList →
    c.wpIn (Fr ro) m P (fun e a' w' => e = exOf ex ∧ CodeOut ρ st.heap w st' a.defers ro a' w') a w

def CallOut (ρ : Inj) (H : AH) (w : World) (v : Value) (H' : AH) (e : Ending) (w' : World) : Prop :=
  ∃ cv ρ', e = .returned cv ∧ TV ρ' v cv ∧ Post ρ H w ρ' H' w'

/-- The functions that are answered by a contract of their own answer so. -/
def PrimsOk (P : Program) (X : Prims) : Prop := ∀ f p, X f = some p → ∀ args H v H', p args H = some (v, H') → ∀ ρ w (cargs : Array Value) m, MR ρ H w → All2 (TV ρ) args cargs.toList →
  CallsIn Fence.wide m P f cargs w (CallOut ρ H w v H')

/-- The code of all functions is in order. -/
def CodesOk (T : TT) : Prop := ∀ f fn c, T.fn f = some fn → fn.body = some c → codeOK c = true

section
variable {P : Program} {T : TT} {X : Prims} {ρ : Inj} {H : AH} {w : World}

theorem RoundOK.post {ro : Option Nat} {ρ' : Inj} {H' : AH} {w' : World} (h : RoundOK ro ρ H) (p : Post ρ H w ρ' H' w') : RoundOK ro ρ' H' := fun l hl =>
  let ⟨k, h1, h2, h3⟩ := h l hl
  ⟨k, p.loops k h2 h1, Nat.lt_of_lt_of_le h2 p.next, p.le _ _ h3⟩

theorem RoundOK.none : RoundOK none ρ H := fun l hl => by cases hl

/-- What no abstract block lies in, and what was not there at first, may turn. -/
theorem Post.junk {ρ' : Inj} {H' : AH} {w' : World} (h : Post ρ H w ρ' H' w') {r : Nat} (o : Obj) (hr : w.heap.size ≤ r) (hn : ¬ Held ρ' H' r) : Post ρ H w ρ' H' (w'.putObj r o) := by
  have hm : MR ρ' H' (w'.putObj r o) := by
    refine ⟨h.mr.dom, fun k x p hk hp => ?_, h.mr.inj⟩
    obtain ⟨O, h1, h2⟩ := h.mr.blk k x p hk hp
    refine ⟨O, ?_, h2⟩
    rw [World.putObj_heap_other]
    · exact h1
    · intro e; subst e; exact hn ⟨k, x, p, hk, hp, rfl⟩
  refine ⟨h.le, hm, by simpa using h.size, fun b hb hnb => ?_, h.new, h.keep, h.next, h.dead, h.loops, fun k o p O hg hk hO => ?_, h.os, h.output⟩
  rotate_left
  · obtain ⟨O', h1, h2⟩ := h.outs k o p O hg hk hO
    have := (Array.getElem?_eq_some_iff.1 hO).1
    exact ⟨O', by rw [World.putObj_heap_other (by omega)]; exact h1, h2⟩
  rw [World.putObj_heap_other (by omega)]
  exact h.frame b hb hnb

theorem MarksOK.putObj {base r : Nat} {ρ' : Inj} {H' : AH} {w' : World} {rs : List Nat} {o : Obj} (h : MarksOK base ρ' H' w' (r :: rs)) : MarksOK base ρ' H' (w'.putObj r o) rs := by
  obtain ⟨h1, h2⟩ := h
  obtain ⟨h3, h4⟩ := List.nodup_cons.1 h1
  refine ⟨h4, fun q hq => ?_⟩
  obtain ⟨h5, h6, h7⟩ := h2 q (List.mem_cons_of_mem _ hq)
  refine ⟨h5, ?_, h7⟩
  rw [World.putObj_heap_other (fun e : q = r => h3 (e ▸ hq))]
  exact h6

theorem leaves_marks {fn : Func} {tmps : Array Value} {R : Ending → World → Prop} {n : Nat} {ρ' : Inj} {H' : AH} : ∀ (rs : List Nat) (w' : World), Post ρ H w ρ' H' w' → MarksOK w.heap.size ρ' H' w' rs →
    (∀ w'', Post ρ H w ρ' H' w'' → ∃ v, (results fn tmps).run P w'' = .ok v w'' ∧ R (.returned v) w'') → LeavesInM Fence.wide n P fn tmps R (rs.map markOf) .returning w'
  | [], w', hp, _, h => h w' hp
  | r :: rs, w', hp, hm, h => by
    obtain ⟨h1, h2, h3⟩ := hm.2 r (by simp)
    refine ⟨by simp, .inl ⟨r, w'.putObj r (.deferred none), rfl, run_takeDeferred h2, ?_⟩⟩
    exact leaves_marks rs _ (hp.junk _ h1 h3) hm.putObj h

/-! ### results -/
theorem envD {l : List Value} {c : Array Value} (h : All2 (TV ρ) l c.toList) (t : Nat) : TV ρ (l.getD t undef) (c.getD t undef) := by
  rw [List.getD_eq_getElem?_getD, Array.getD_eq_getD_getElem?]
  cases hl : l[t]? with
  | none =>
    have := h.get_none t hl
    rw [Array.getElem?_toList] at this
    rw [this]; exact TV.undef
  | some v =>
    obtain ⟨v', h1, h2⟩ := h.get t v hl
    rw [Array.getElem?_toList] at h1
    rw [h1]; exact h2

def resC (c : Array Value) : ResultVar → Sem Value
  | .tmp t => pure (c.getD t undef)
  | .cell a t => do loadVar t (← asAddr (c.getD a undef))

theorem results_resC (fn : Func) (c : Array Value) : results fn c = (do let vs ← fn.results.mapM (resC c); pure (if h : vs.size = 1 then vs[0] else .tuple vs)) := by
  unfold results
  congr

theorem resultV_sim (hT : T.Ok P) (hm : MR ρ H w) {l : List Value} {c : Array Value} (hl : All2 (TV ρ) l c.toList) {r : ResultVar} {v : Value} (h : resultV T H l r = some v) :
    ∃ cv, (resC c r).run P w = .ok cv w ∧ TV ρ v cv := by
  cases r with
  | tmp t =>
    simp only [resultV, Option.some.injEq] at h
    subst h
    exact ⟨_, rfl, envD hl t⟩
  | cell a t =>
    simp only [resultV] at h
    have ha := envD hl a
    obtain ⟨cv, h1, h2⟩ := loadV_sim hT hm ha h
    refine ⟨cv, ?_, .val h2⟩
    unfold loadV at h
    split at h
    · rename_i b o hb
      rw [hb] at ha
      obtain ⟨p, hp, _⟩ := ha.ptr_inv
      simp only [resC, hp, asAddr]
      rw [hp] at h1
      simpa [Instr.loadAt, Instr.sureAddr] using h1
    · cases h

theorem resultsL_sim (hT : T.Ok P) (hm : MR ρ H w) {l : List Value} {c : Array Value} (hl : All2 (TV ρ) l c.toList) : ∀ {rs : List ResultVar} {vs : List Value}, resultsL T H l rs = some vs →
    ∃ cvs : List Value, (rs.mapM (resC c)).run P w = .ok cvs w ∧ All2 (VR ρ) vs cvs
  | [], vs, h => by
    simp only [resultsL, Option.some.injEq] at h; subst h
    exact ⟨[], by simp, .nil⟩
  | r :: rs, vs, h => by
    simp only [resultsL] at h
    split at h
    · rename_i v hv
      split at h
      · rename_i hnt
        obtain ⟨vs', h1, rfl⟩ := opt_map_some h
        obtain ⟨cv, h2, h3⟩ := resultV_sim hT hm hl hv
        obtain ⟨cvs, h4, h5⟩ := resultsL_sim hT hm hl h1
        refine ⟨cv :: cvs, ?_, .cons (notTuple_VR h3 hnt) h5⟩
        simp only [List.mapM_cons, Sem.run_bind, h2, Result.andThen_ok, h4, Sem.run_pure]
      · cases h
    · cases h

theorem results_sim (hT : T.Ok P) (hm : MR ρ H w) {fn : Func} {l : List Value} {c : Array Value} (hl : All2 (TV ρ) l c.toList) {vs : List Value} (h : resultsL T H l fn.results.toList = some vs) :
    ∃ cv, (results fn c).run P w = .ok cv w ∧ TV ρ (resultOf vs) cv := by
  obtain ⟨cvs, h1, h2⟩ := resultsL_sim hT hm hl h
  have h3 : (fn.results.mapM (resC c)).run P w = .ok cvs.toArray w := by
    rw [Array.mapM_eq_mapM_toList]
    simp only [Sem.run_map, h1, Result.andThen_ok]
  refine ⟨if h : cvs.toArray.size = 1 then cvs.toArray[0] else .tuple cvs.toArray, ?_, ?_⟩
  · rw [results_resC, Sem.run_bind, h3]
    rfl
  · cases h2 with
    | nil => exact .tuple .nil
    | cons a b =>
      cases b with
      | nil => exact .val a
      | cons a' b' => exact .tuple (.cons a (.cons a' b'))

/-! ### a call -/
theorem evCallW_sim (hT : T.Ok P) (hX : PrimsOk P X) (hC : CodesOk T) {n : Nat} (IH : SimCode P T X n) (hm : MR ρ H w) {f : FuncId} {args : List Value} {cargs : Array Value} {v : Value} {H' : AH} {m : Nat}
    (ha : All2 (TV ρ) args cargs.toList) (h : evCallW T X (evCode P T X n) f args H = some (v, H')) : CallsIn Fence.wide m P f cargs w (CallOut ρ H w v H') := by
  unfold evCallW at h
  split at h
  · rename_i p hp
    exact hX f p hp args H v H' h ρ w cargs m hm ha
  · split at h
    · rename_i fn hf
      split at h
      · rename_i c hb
        have hlen := ha.length
        have htm : All2 (TV ρ) (args ++ List.replicate (fn.ntmps - args.length) undef) (cargs ++ Array.replicate (fn.ntmps - cargs.size) undef).toList := by
          rw [Array.toList_append, Array.toList_replicate]
          refine ha.append ?_
          rw [hlen, Array.length_toList]
          exact All2.replicate TV.undef _
        have key : ∀ ex st', evCode P T X n c ⟨args ++ List.replicate (fn.ntmps - args.length) undef, H⟩ = some (ex, st') → (ex = .normal ∨ ex = .ret) →
            (resultsL T st'.heap st'.tmps fn.results.toList).map (fun vs => (resultOf vs, st'.heap)) = some (v, H') → CallsIn Fence.wide m P f cargs w (CallOut ρ H w v H') := by
          intro ex st' hev hex hres
          obtain ⟨vs, hvs, hr⟩ := opt_map_some hres
          cases hr
          refine callsIn_of_wp_marks (hT.fn f fn hf) hb trivial ?_
          refine wpIn_mono (IH c _ ex st' (hC f fn c hf hb) hev ρ w _ none m hm .none htm) ?_
          rintro e a' w' ⟨rfl, ρ', rs, hp, ht, hd, hmk, _⟩
          have hleave : LeavesInM Fence.wide m P fn a'.tmps (CallOut ρ H w (resultOf vs) st'.heap) a'.defers .returning w' := by
            rw [hd, List.append_nil]
            refine leaves_marks rs w' hp hmk fun w'' hp'' => ?_
            obtain ⟨cv, h1, h2⟩ := results_sim hT hp''.mr ht hvs
            exact ⟨cv, h1, cv, ρ', rfl, h2, hp''⟩
          rcases hex with rfl | rfl
          · exact hleave
          · exact hleave
        split at h
        · rename_i s hs; exact key _ _ hs (.inl rfl) h
        · rename_i s hs; exact key _ _ hs (.inr rfl) h
        · cases h
      · cases h
    · cases h

/-! ### a round -/
theorem setArgs_sim : ∀ {ps : List Tmp} {l cl : List Value} {vs cvs : List Value}, All2 (TV ρ) l cl → All2 (TV ρ) vs cvs → All2 (TV ρ) (setArgs l (ps.zip vs)) (setArgs cl (ps.zip cvs))
  | [], _, _, _, _, h, _ => by simpa [setArgs] using h
  | _ :: _, _, _, _, _, h, .nil => by simpa [setArgs] using h
  | p :: ps, _, _, _, _, h, .cons a b => by
    simp only [List.zip_cons_cons, setArgs]
    exact setArgs_sim (h.set a p) b

theorem foldl_setArgs : ∀ (l : List (Tmp × Value)) (t : Array Value), (l.foldl (fun (tmps : Array Value) (p : Tmp × Value) => tmps.setIfInBounds p.1 p.2) t).toList = setArgs t.toList l
  | [], _ => rfl
  | p :: l, t => by
    simp only [List.foldl_cons, setArgs]
    rw [foldl_setArgs l]
    simp

theorem Post.loopPut (hm : MR ρ H w) {k l : Nat} {st : LoopState} {pend pend' : Option Code} {t : List Value} {ps : Array Tmp} {a b : Code} (hg : H.get k = some (.loop st pend t ps a b)) (hk : ρ k = some ⟨l, 0, 0⟩) (st' : LoopState) :
    ∃ (t' : Array Value) (fn : FuncId) (df : Nat), w.heap[l]? = some (.loop { state := st, pending := pend, fn := fn, tmps := t', params := ps, assign := a, body := b, defers := df }) ∧
      Post ρ H w ρ (H.set k (.loop st' pend' t ps a b)) (w.putObj l (.loop { state := st', pending := pend', fn := fn, tmps := t', params := ps, assign := a, body := b, defers := df })) := by
  obtain ⟨t', fn, df, h1, h2, h3, h4⟩ := hm.loopObj hg hk
  exact ⟨t', fn, df, h1, Post.put hm hg hk h1 (.loop rfl h2 h3 h4)⟩

theorem evYieldW_sim {n : Nat} (IH : SimCode P T X n) (hm : MR ρ H w) {k l : Nat} (hk : ρ k = some ⟨l, 0, 0⟩) {args : List Value} {cargs : Array Value} {v : Value} {H' : AH} {m : Nat} (ro : Option Nat)
    (ha : All2 (TV ρ) args cargs.toList) (h : evYieldW (evCode P T X n) k args H = some (v, H')) :
    ∃ fn tmps asg body, (Instr.yield l cargs).run P w = .ok (.round l fn tmps asg body) w ∧ RoundIn (Fr ro) m P l fn tmps asg body w (CallOut ρ H w v H') := by
  unfold evYieldW at h
  split at h
  · rename_i st0 pend0 tmps ps asg body hg
    obtain ⟨ct, fn, df, hO, ht, hca, hcb⟩ := hm.loopObj hg hk
    split at h
    · rename_i hsz
      have hl := ha.length
      simp only [Array.length_toList] at hl
      refine ⟨fn, _, asg, body, run_yield hO (by simp; omega), ?_⟩
      have htm : All2 (TV ρ) (setArgs tmps (ps.toList.zip args)) ((ps.zip cargs).foldl (fun tmps (t, a) => tmps.setIfInBounds t a) ct).toList := by
        have e : ((ps.zip cargs).foldl (fun tmps (t, a) => tmps.setIfInBounds t a) ct).toList = setArgs ct.toList (ps.toList.zip cargs.toList) := by
          rw [← Array.foldl_toList, Array.toList_zip]
          exact foldl_setArgs _ _
        rw [e]
        exact setArgs_sim ht ha
      split at h
      · rename_i s1 hs1
        refine roundIn_of_wpIn (F := Fr ro) trivial ?_
        refine wpIn_mono (IH asg _ .normal s1 hca hs1 ρ w _ (some l) m hm (fun l' hl' => by cases hl'; exact ⟨k, ⟨_, hg, rfl⟩, hm.dom _ _ hk, hk⟩) htm) ?_
        rintro e a1 w1 ⟨rfl, ρ1, rs1, hp1, ht1, hd1, _, hrs1⟩
        have hrs := hrs1 rfl
        subst hrs
        split at h
        · rename_i pend1 t1 ps1 a1' b1 hg1
          have hk1 := hp1.le _ _ hk
          obtain ⟨ct1, fn1, df1, hO1, hp2⟩ := Post.loopPut (pend' := pend1) hp1.mr hg1 hk1 .busy
          refine ⟨_, run_beginRound hO1 rfl, ?_⟩
          split at h
          · rename_i ex s2 hs2
            have hpm : MR ρ1 (s1.heap.set k (.loop .busy pend1 t1 ps1 a1' b1)) (w1.putObj l (.loop { state := .busy, pending := pend1, fn := fn1, tmps := ct1, params := ps1, assign := a1', body := b1, defers := df1 })) := hp2.mr
            refine wpIn_mono (IH body ⟨s1.tmps, s1.heap.set k (.loop .busy pend1 t1 ps1 a1' b1)⟩ ex s2 hcb hs2 ρ1 _ a1 (some l) m hpm (fun l' hl' => by
              cases hl'
              exact ⟨k, ⟨_, AH.get_set_same .., rfl⟩, hpm.dom _ _ hk1, hk1⟩) ht1) ?_
            rintro e a2 w2 ⟨rfl, ρ2, rs2, hp3, ht2, hd2, _, _⟩
            have hk2 := hp3.le _ _ hk1
            have hpost := (hp1.trans hm hp2).trans hm hp3
            split at h
            · rename_i st3 pend3 t3 ps3 a3 b3 hg3
              have fin : ∀ (jump : Option Code) (st' : LoopState), st' = (if jump.isNone then .ready else .done) → H' = s2.heap.set k (.loop st' jump t3 ps3 a3 b3) → v = .bool jump.isNone →
                  ∃ v' w', (Instr.endRound l jump).run P w2 = .ok v' w' ∧ CallOut ρ H w v H' (.returned v') w' := by
                intro jump st' hst hH hv
                obtain ⟨ct3, fn3, df3, hO3, hp4⟩ := Post.loopPut (pend' := jump) hp3.mr hg3 hk2 st'
                refine ⟨_, _, run_endRound jump hO3, .bool jump.isNone, ρ2, rfl, ?_, ?_⟩
                · rw [hv]; exact .bool _
                · rw [hH]
                  have := hpost.trans hm hp4
                  rw [hst] at this
                  rw [hst]
                  exact this
              cases ex with
              | normal =>
                cases h
                exact fin none .ready rfl rfl rfl
              | ret =>
                cases h
                exact fin (some .ret) .done rfl rfl rfl
              | exit id =>
                cases h
                exact fin (some (.exit id)) .done rfl rfl rfl
            · cases h
          · cases h
        · cases h
      · cases h
    · cases h
  · cases h

/-! ### one operation in its frame -/
theorem wide_about (o : Oper) (w : World) (a : Act) (ro : Option Nat) : ∀ f, o.about P w a.eval = some f → (Fr ro).fn f := fun _ _ => trivial

theorem resolve_value {cenv : Operand → Value} {f : Operand} {args : Array Operand} {ats : Array TypeId} {t : TypeId} {fn : Fn} {cap : Array Value} (hf : cenv f = .func fn #[] cap) (w : World) :
    (resolve cenv { callee := .value f, args := args, argTypes := ats } t).run P w = .ok { target := .fn fn cap, args := args.map cenv } w := by
  simp [resolve, hf, Deferred.ofValue]

theorem callFunc_run (hT : T.Ok P) {f : FuncId} {fn : Func} (hf : T.fn f = some fn) (args : Array Value) (w : World) : (callFunc f args).run P w = .ok (.enter f args) w := by
  have h1 := hT.fn f fn hf
  have h2 := hT.plain f fn hf
  have h3 := hT.body f fn hf
  simp only [callFunc, Sem.run_bind, run_program, Result.andThen_ok, h1, h2, h3, Bool.false_eq_true, if_false, Sem.run_pure]

/-- Every function that the evaluator calls has a body in the program. -/
def PrimsHere (T : TT) (X : Prims) : Prop := ∀ f p, X f = some p → ∃ fn, T.fn f = some fn

theorem evOperW_wp (hT : T.Ok P) (hX : PrimsOk P X) (hXh : PrimsHere T X) (hC : CodesOk T) {n : Nat} (IH : SimCode P T X n) (hm : MR ρ H w) {env : Operand → Value} {a : Act} {o : Oper} {ro : Option Nat} {m : Nat}
    (he : ∀ x ∈ o.op.operands, TV ρ (env x) (a.eval x)) {v : Value} {H' : AH} (h : evOperW P T X (evCode P T X n) env o.op H = some (v, H')) {K : Act → World → Prop} {Q : Exit → Act → World → Prop}
    (hK : ∀ cv ρ' w', TV ρ' v cv → Post ρ H w ρ' H' w' → K (a.put o.dst cv) w') : o.wpIn (Fr ro) m P a w K Q := by
  refine ⟨wide_about o w a ro, ?_⟩
  have plain : evOp P T env o.op H = some (v, H') → (∀ c, o.op ≠ .defer c) → o.uponIn (Fr ro) m P a K Q ((o.semAt (Fr ro).round a.eval).run P w) := by
    intro h1 hnd
    rw [Oper.semAt_eq _ _ _ hnd]
    obtain ⟨r, cv, w', ρ', hrun, hput, htv, hpost⟩ := evOp_sim hT hm he h1
    rw [hrun]
    rcases hput with rfl | ⟨rfl, rfl⟩
    · exact hK cv ρ' w' htv hpost
    · exact hK undef ρ' w' htv hpost
  obtain ⟨dst, op, ty, pos, after, guard⟩ := o
  unfold evOperW at h
  simp only at h
  split at h
  · rename_i f args ats
    have hargs : All2 (TV ρ) (args.toList.map env) (args.map a.eval).toList := by
      rw [Array.toList_map]
      exact all2_map_env fun x hx => he x (by simp [Op.operands, Call.operands]; exact .inr (by simpa using hx))
    have hfv : TV ρ (env f) (a.eval f) := he f (by simp [Op.operands, Call.operands])
    rw [Oper.semAt_eq _ _ _ (by simp)]
    split at h
    · rename_i g first cap hf
      split at h
      · rename_i hfirst
        have hf0 : first = #[] := by simpa using hfirst
        subst hf0
        rw [hf] at hfv
        obtain ⟨cc, hcc, hcap⟩ : ∃ cc, a.eval f = .func (.func g) #[] cc ∧ All2 (TV ρ) cap.toList cc.toList := by
          generalize a.eval f = cf at hfv
          cases hfv with
          | val hfv => cases hfv with
            | one hfv => cases hfv with
              | base hfv => cases hfv
              | func hc => exact ⟨_, rfl, hc.mono fun _ _ x => .base x⟩
        obtain ⟨fn, hfn⟩ : ∃ fn, T.fn g = some fn := by
          cases hXg : X g with
          | some p => exact hXh g p hXg
          | none =>
            unfold evCallW at h
            rw [hXg] at h
            simp only at h
            cases hq : T.fn g with
            | some fn => exact ⟨fn, rfl⟩
            | none => rw [hq] at h; cases h
        have hrun : (execOp a.eval { dst := dst, op := .call { callee := .value f, args := args, argTypes := ats }, type := ty, pos := pos, after := after, guard := guard }).run P w = .ok (.enter g (args.map a.eval ++ cc)) w := by
          simp only [execOp, Sem.run_bind, resolve_value hcc, Result.andThen_ok, invoke, callFunc_run hT hfn]
        rw [hrun]
        refine ⟨fun hh => by simp [Fence.wide] at hh, ?_⟩
        have hall : All2 (TV ρ) (args.toList.map env ++ cap.toList) (args.map a.eval ++ cc).toList := by
          rw [Array.toList_append]
          exact hargs.append hcap
        refine CallsIn.mono (evCallW_sim (m := m - 1) hT hX hC IH hm hall h) ?_
        rintro e w' ⟨cv, ρ', rfl, h1, h2⟩
        exact hK cv ρ' w' h1 h2
      · cases h
    · rename_i l first cap hf
      split at h
      · rename_i hfirst
        have hf0 : first = #[] := by simpa using hfirst.1
        have hc0 : cap = #[] := by simpa using hfirst.2
        subst hf0 hc0
        rw [hf] at hfv
        obtain ⟨cl, hcl, hl⟩ : ∃ cl, a.eval f = .func (.yield cl) #[] #[] ∧ ρ l = some ⟨cl, 0, 0⟩ := by
          generalize a.eval f = cf at hfv
          cases hfv with
          | val hfv => cases hfv with
            | one hfv => cases hfv with
              | base hfv => cases hfv
              | yield hc => exact ⟨_, rfl, hc⟩
        obtain ⟨fn, tmps, asg, body, hy, hround⟩ := evYieldW_sim (m := m - 1) IH hm hl ro hargs h
        have hrun : (execOp a.eval { dst := dst, op := .call { callee := .value f, args := args, argTypes := ats }, type := ty, pos := pos, after := after, guard := guard }).run P w = .ok (.round cl fn tmps asg body) w := by
          simp only [execOp, Sem.run_bind, resolve_value hcl, Result.andThen_ok, invoke]
          exact hy
        rw [hrun]
        refine ⟨fun hh => by simp [Fence.wide] at hh, ?_⟩
        refine RoundIn.mono hround ?_
        rintro e w' ⟨cv, ρ', rfl, h1, h2⟩
        exact hK cv ρ' w' h1 h2
      · cases h
    · cases h
  · refine plain h fun c hc => ?_
    simp only at hc
    subst hc
    simp [evOp] at h

end
end Go.Ev
