/- Operations in a region: what they see, what they put; a region in the text's order. -/
import Derived.Test.YtaoaddokgofifaaGreatEvK
namespace Go.Ev
open Go.RowKit
section
variable {P : Program} {T : TT} {X : Prims} {ρ : Inj} {H : AH} {w : World}

/-- An operation that leaves memory alone: the world is the same behind it. -/
theorem evStill_sim (hT : T.Ok P) (hm : MR ρ H w) {env cenv : Operand → Value} {o : Oper} (he : ∀ x ∈ o.op.operands, TV ρ (env x) (cenv x)) (hs : stillOp o.op = true) {v : Value} {H' : AH} (h : evOp P T env o.op H = some (v, H')) :
    ∃ cv, (execOp cenv o).run P w = .ok (.value cv) w ∧ TV ρ v cv := by
  have same : ∀ {cv : Value}, (execOp cenv o).run P w = .ok (.value cv) w → TV ρ v cv → ∃ cv, (execOp cenv o).run P w = .ok (.value cv) w ∧ TV ρ v cv := fun h1 h2 => ⟨_, h1, h2⟩
  obtain ⟨dst, op, ty, pos, after, guard⟩ := o
  simp only at h hs he
  cases op <;> simp only [stillOp, Bool.false_eq_true] at hs
  case move x =>
    simp only [evOp] at h; cases h
    exact same (by simp [execOp]) (he x (by simp [Op.operands]))
  case assign x =>
    simp only [evOp] at h; cases h
    exact same (by simp [execOp]) (he x (by simp [Op.operands]))
  case pick c a b =>
    simp only [evOp] at h
    have hc := he c (by simp [Op.operands])
    split at h
    · rename_i t ht
      cases h
      rw [ht] at hc
      have hcc := hc.bool_inv
      cases t
      · exact same (cv := cenv b) (by simp [execOp, hcc, asBool]) (he b (by simp [Op.operands]))
      · exact same (cv := cenv a) (by simp [execOp, hcc, asBool]) (he a (by simp [Op.operands]))
    · cases h
  case build t ps =>
    simp only [evOp] at h
    obtain ⟨v', h1, h2⟩ := opt_map_some h
    cases h2
    have hps : All2 (PR ρ) (ps.toList.map fun p => (p.1, env p.2)) (ps.map fun p => (p.1, cenv p.2)).toList := by
      rw [Array.toList_map]
      have : ∀ l : List (Nat × Operand), (∀ p ∈ l, TV ρ (env p.2) (cenv p.2)) → All2 (PR ρ) (l.map fun p => (p.1, env p.2)) (l.map fun p => (p.1, cenv p.2)) := by
        intro l
        induction l with
        | nil => intro _; exact .nil
        | cons p l ih => intro hl; exact .cons (.mk (hl p (by simp))) (ih fun q hq => hl q (by simp [hq]))
      exact this _ fun p hp => he p.2 (by simp only [Op.operands, List.mem_toArray, List.mem_map]; simp; exact ⟨p.1, by simpa using hp⟩)
    obtain ⟨cv, h3, h4⟩ := buildV_sim hT hps h1 w
    exact same (by simp [execOp, h3]) (.val h4)
  case load t a =>
    simp only [evOp] at h
    obtain ⟨v', h1, h2⟩ := opt_map_some h
    cases h2
    obtain ⟨cv, h3, h4⟩ := loadV_sim hT hm (he a (by simp [Op.operands])) h1
    exact same (by simp [execOp, h3]) (.val h4)
  case nilCheck x =>
    simp only [evOp] at h
    split at h
    · rename_i a ha
      cases h
      have hx := he x (by simp [Op.operands])
      rw [ha] at hx
      obtain ⟨b', hb1, hb2⟩ := hx.pointer_shape
      cases b' with
      | none => simp at hb2
      | some q => exact same (cv := .pointer (some q)) (by simp [execOp, hb1]) (by rw [hb1] at hx; exact hx)
    · cases h
  case binOp op t x y yt =>
    simp only [evOp] at h
    obtain ⟨v', h1, h2⟩ := opt_map_some h
    cases h2
    obtain ⟨cv, h3, h4⟩ := binV_sim hT (he x (by simp [Op.operands])) (he y (by simp [Op.operands])) h1 w
    refine same (cv := cv) ?_ h4
    simp only [execOp, Sem.run_bind] at h3 ⊢
    rw [h3]
    simp
  case unOp op t x =>
    simp only [evOp] at h
    obtain ⟨v', h1, h2⟩ := opt_map_some h
    cases h2
    obtain ⟨cv, h3, h4⟩ := unV_sim (he x (by simp [Op.operands])) h1 w
    exact same (by simp [execOp, h3]) h4
  case sliceToArrayPointer t x =>
    simp only [evOp] at h
    obtain ⟨v', h1, h2⟩ := opt_map_some h
    cases h2
    obtain ⟨cv, h3, h4⟩ := arrayAtV_sim hT (he x (by simp [Op.operands])) h1 w
    exact same (by simp [execOp, h3]) h4
  case makeFunc fn first cap =>
    obtain ⟨r, cv, w', ρ', h1, h2, h3, h4⟩ := evOp_sim (o := { dst := dst, op := .makeFunc fn first cap, type := ty, pos := pos, after := after, guard := guard }) hT hm he h
    cases fn <;> simp only [evOp] at h <;> try cases h
    rename_i f
    split at h
    · rename_i hc
      cases h
      have hf : first = #[] := by simpa using hc.1
      subst hf
      refine same (cv := .func (.func f) #[] (cap.map cenv)) (by simp [execOp, Instr.makeFunc]) ?_
      refine .val (.one (.func ?_))
      simp only [Array.toList_map]
      have hcap := List.all_eq_true.1 hc.2
      have : ∀ l : List Operand, (∀ x ∈ l, TV ρ (env x) (cenv x) ∧ ∃ a, env x = .pointer (some a)) → All2 (BR ρ) (l.map env) (l.map cenv) := by
        intro l
        induction l with
        | nil => intro _; exact .nil
        | cons x l ih =>
          intro hl
          refine .cons ?_ (ih fun q hq => hl q (by simp [hq]))
          obtain ⟨h1, a, ha⟩ := hl x (by simp)
          rw [ha] at h1 ⊢
          generalize cenv x = cx at h1
          cases h1 with
          | val h1 => cases h1 with
            | one h1 => cases h1 with
              | base h1 => exact h1
      refine this _ fun x hx => ⟨he x (by simp [Op.operands]; simpa using hx), ?_⟩
      have := hcap x hx
      split at this
      · rename_i a ha; exact ⟨a, ha⟩
      · cases this
    · cases h
  case slice t x lo hi mx =>
    simp only [evOp] at h
    obtain ⟨v', h1, h2⟩ := opt_map_some h
    cases h2
    have hlo : OV ρ (lo.map env) (lo.map cenv) := ov_map fun y hy => he y (by subst hy; simp [Op.operands])
    have hhi : OV ρ (hi.map env) (hi.map cenv) := ov_map fun y hy => he y (by subst hy; simp [Op.operands])
    have hmx : OV ρ (mx.map env) (mx.map cenv) := ov_map fun y hy => he y (by subst hy; simp [Op.operands])
    obtain ⟨cv, h3, h4⟩ := sliceV_sim hT (he x (by simp [Op.operands])) hlo hhi hmx h1 w
    exact same (by simp [execOp, h3]) h4
  case fieldAddr s x f =>
    simp only [evOp] at h
    obtain ⟨v', h1, h2⟩ := opt_map_some h
    cases h2
    obtain ⟨cv, h3, h4⟩ := fieldAddrV_sim hT (he x (by simp [Op.operands])) h1 w
    exact same (by simp [execOp, h3]) h4
  case field s x f =>
    simp only [evOp] at h
    obtain ⟨v', h1, h2⟩ := opt_map_some h
    cases h2
    obtain ⟨cv, h3, h4⟩ := fieldV_sim hT (he x (by simp [Op.operands])) h1 w
    exact same (by simp [execOp, h3]) (.val h4)
  case indexAddr t x i =>
    simp only [evOp] at h
    obtain ⟨v', h1, h2⟩ := opt_map_some h
    cases h2
    obtain ⟨cv, h3, h4⟩ := indexAddrV_sim hT (he x (by simp [Op.operands])) (he i (by simp [Op.operands])) h1 w
    exact same (by simp [execOp, h3]) h4
  case index t x i =>
    simp only [evOp] at h
    obtain ⟨v', h1, h2⟩ := opt_map_some h
    cases h2
    obtain ⟨cv, h3, h4⟩ := indexV_sim hT (he x (by simp [Op.operands])) (he i (by simp [Op.operands])) h1 w
    exact same (by simp [execOp, h3]) h4
  case lookup t m k ok =>
    simp only [evOp] at h
    obtain ⟨v', h1, h2⟩ := opt_map_some h
    cases h2
    obtain ⟨cv, h3, h4⟩ := lookupV_sim hT hm (he m (by simp [Op.operands])) (he k (by simp [Op.operands])) h1
    exact same (by simp [execOp, h3]) h4
  case extract t i =>
    simp only [evOp] at h
    split at h
    · rename_i vs hvs
      obtain ⟨v', h1, h2⟩ := opt_map_some h
      cases h2
      have ht := he t (by simp [Op.operands])
      rw [hvs] at ht
      obtain ⟨c', hc1, hc2⟩ := ht.tuple_inv
      obtain ⟨cv, h3, h4⟩ := hc2.get i v (by simpa using h1)
      have h3' : c'[i]? = some cv := by simpa using h3
      exact same (cv := cv) (by simp [execOp, hc1, Instr.extract, h3']) (.val h4)
    · cases h
  case call c =>
    obtain ⟨callee, args, ats⟩ := c
    cases callee with
    | builtin b =>
      have ha : All2 (TV ρ) (args.toList.map env) (args.map cenv).toList := by
        rw [Array.toList_map]
        exact all2_map_env fun x hx => he x (by simp [Op.operands, Call.operands]; simpa using hx)
      simp only [evOp, builtinV] at h
      cases b <;> simp only [Bool.false_eq_true] at hs
      case len =>
        obtain ⟨v', h1, h2⟩ := opt_map_some h
        cases h2
        obtain ⟨h3, h4⟩ := lenB_sim (ty := ty) hT hm ha h1
        exact same (by simp [execOp, resolve, invoke, builtin, h3]) h4
      case max =>
        obtain ⟨v', h1, h2⟩ := opt_map_some h
        cases h2
        obtain ⟨h3, h4⟩ := maxV_sim (P := P) (ts := ats) (ty := ty) ha h1 w
        exact same (by simp [execOp, resolve, invoke, builtin, h3]) h4
      case min =>
        obtain ⟨v', h1, h2⟩ := opt_map_some h
        cases h2
        obtain ⟨h3, h4⟩ := minV_sim (P := P) (ts := ats) (ty := ty) ha h1 w
        exact same (by simp [execOp, resolve, invoke, builtin, h3]) h4
    | _ => simp [] at hs

/-! ### what operands are -/
theorem envL_sim {l : List Value} {a : Act} (hl : All2 (TV ρ) l a.tmps.toList) {x : Operand} (hx : okOperand x = true) : TV ρ (envL l x) (a.eval x) := by
  cases x with
  | tmp t => exact envD hl t
  | const v => exact .val (TV.closedV hx)
  | global g => cases hx
  | func f => exact .val (.one (.func .nil))

theorem env_all {l : List Value} {a : Act} (hl : All2 (TV ρ) l a.tmps.toList) {o : Op} (h : o.operands.toList.all okOperand = true) : ∀ x ∈ o.operands, TV ρ (envL l x) (a.eval x) := fun x hx =>
  envL_sim hl (List.all_eq_true.1 h x (by simpa using hx))

def boolOf : Value → Option Bool
  | .bool b => some b
  | _ => none

theorem TV.boolOf {v cv : Value} (h : TV ρ v cv) : boolOf cv = boolOf v := by
  cases h with
  | val h => cases h with
    | one h => cases h with
      | base h => cases h <;> rfl
      | func _ => rfl
      | yield _ => rfl
    | agg _ => rfl
  | tuple _ => rfl

/-- What the guard of an operation looks at. -/
def guardVal (ops : Array Oper) (l : List Value) (j : Nat) : Option Bool := (((ops[j]?).bind (·.dst)).bind (l[·]?)).bind boolOf

theorem wantedL_eq (ops : Array Oper) (l : List Value) (o : Oper) : wantedL ops l o = match o.guard with | none => true | some (j, want) => guardVal ops l j == some want := by
  unfold wantedL guardVal
  cases o.guard with
  | none => rfl
  | some p =>
    simp only
    cases ((ops[p.1]?).bind (·.dst)).bind (l[·]?) with
    | none => rfl
    | some v => cases v <;> rfl

theorem wanted_eq (ops : Array Oper) (t : Array Value) (o : Oper) : Region.wanted o (yielded ops t) = wantedL ops t.toList o := by
  rw [wantedL_eq]
  unfold Region.wanted yielded guardVal
  cases o.guard with
  | none => rfl
  | some p =>
    simp only
    have e : ((ops[p.1]?).bind (·.dst)).bind (t.toList[·]?) = ((ops[p.1]?).bind (·.dst)).bind (t[·]?) := by
      cases (ops[p.1]?).bind (·.dst) <;> simp
    rw [e]
    cases ((ops[p.1]?).bind (·.dst)).bind (t[·]?) with
    | none => rfl
    | some v => cases v <;> rfl

theorem guardVal_sim {ops : Array Oper} {l cl : List Value} (h : All2 (TV ρ) l cl) (j : Nat) : guardVal ops cl j = guardVal ops l j := by
  unfold guardVal
  cases (ops[j]?).bind (·.dst) with
  | none => rfl
  | some d =>
    simp only [Option.bind_some]
    cases hl : l[d]? with
    | none => rw [h.get_none d hl]
    | some v =>
      obtain ⟨v', h1, h2⟩ := h.get d v hl
      rw [h1]; simp [h2.boolOf]

theorem wanted_sim {ops : Array Oper} {l cl : List Value} (h : All2 (TV ρ) l cl) (o : Oper) : wantedL ops cl o = wantedL ops l o := by
  rw [wantedL_eq, wantedL_eq]
  cases o.guard with
  | none => rfl
  | some p => simp only; rw [guardVal_sim h]

theorem put_tmps {l : List Value} {a : Act} (h : All2 (TV ρ) l a.tmps.toList) {v cv : Value} (hv : TV ρ v cv) (d : Option Tmp) : All2 (TV ρ) (putL l d v) (a.put d cv).tmps.toList := by
  cases d with
  | none => exact h
  | some t =>
    simp only [putL, Act.put, Array.toList_setIfInBounds]
    exact h.set hv t

theorem put_defers (a : Act) (d : Option Tmp) (v : Value) : (a.put d v).defers = a.defers := by
  cases d <;> rfl

/-! ### a region in the text's order -/
theorem evOneW_wp (hT : T.Ok P) (hX : PrimsOk P X) (hXh : PrimsHere T X) (hC : CodesOk T) {n : Nat} (IH : SimCode P T X n) (hm : MR ρ H w) {ops : Array Oper} {o : Oper} {l : List Value} {a : Act} {ro : Option Nat} {m : Nat}
    (hl : All2 (TV ρ) l a.tmps.toList) {v : Value} {H' : AH} (h : evOneW P T X (evCode P T X n) ops o ⟨l, H⟩ = some (v, H')) {K : Act → World → Prop} {Q : Exit → Act → World → Prop}
    (hK : ∀ cv ρ' w', TV ρ' v cv → Post ρ H w ρ' H' w' → K (a.put o.dst cv) w') :
    if Region.wanted o (yielded ops a.tmps) then o.wpIn (Fr ro) m P a w K Q else (∀ f, o.about P w a.eval = some f → (Fr ro).fn f) ∧ K (a.put o.dst undef) w := by
  rw [wanted_eq, wanted_sim hl]
  unfold evOneW at h
  simp only at h
  split at h
  · rename_i hw
    rw [if_pos hw]
    split at h
    · rename_i hok
      exact evOperW_wp hT hX hXh hC IH hm (env_all hl hok) h hK
    · cases h
  · rename_i hw
    rw [if_neg hw]
    cases h
    exact ⟨wide_about o w a ro, hK undef ρ w TV.undef (.refl hm)⟩

theorem evOps_wp (hT : T.Ok P) (hX : PrimsOk P X) (hXh : PrimsHere T X) (hC : CodesOk T) {n : Nat} (IH : SimCode P T X n) {ops : Array Oper} {ro : Option Nat} {m : Nat} {Q : Exit → Act → World → Prop} {ρ₀ : Inj} {H₀ : AH} {w₀ : World}
    (hm₀ : MR ρ₀ H₀ w₀) {s' : St} {ds : List Deferred} (hQ : ∀ (a' : Act) w' ρ', Post ρ₀ H₀ w₀ ρ' s'.heap w' → All2 (TV ρ') s'.tmps a'.tmps.toList → a'.defers = ds → Q .normal a' w') :
    ∀ (l : List Oper) (k : Nat), (∀ j, l[j]? = ops[k + j]?) → ∀ (s : St) (ρ : Inj) (a : Act) (w : World), evOpsW P T X (evCode P T X n) ops l s = some s' → Post ρ₀ H₀ w₀ ρ s.heap w → All2 (TV ρ) s.tmps a.tmps.toList → a.defers = ds →
      wpOpsIn (Fr ro) m P ops Q (List.range' k l.length) a w
  | [], k, _, s, ρ, a, w, h, hp, hl, hd => by
    simp only [evOpsW, Option.some.injEq] at h
    subst h
    exact hQ a w ρ hp hl hd
  | o :: l, k, hj, s, ρ, a, w, h, hp, hl, hd => by
    simp only [evOpsW] at h
    split at h
    · rename_i v H hv
      have ho : ops[k]? = some o := by simpa using (hj 0).symm
      simp only [List.length_cons, List.range'_succ]
      rw [wpOpsIn_cons]
      unfold wpOpIn
      rw [ho]
      simp only
      refine evOneW_wp hT hX hXh hC IH hp.mr hl hv ?_
      intro cv ρ' w' htv hpost
      exact evOps_wp hT hX hXh hC IH hm₀ hQ l (k + 1) (fun j => by have := hj (j + 1); simpa [Nat.add_assoc, Nat.add_comm 1 j] using this) ⟨putL s.tmps o.dst v, H⟩ ρ' _ w' h
        (hp.trans hm₀ hpost) (put_tmps (hl.mono fun _ _ x => x.mono hpost.le) htv o.dst) (by rw [put_defers, hd])
    · cases h

end
end Go.Ev
