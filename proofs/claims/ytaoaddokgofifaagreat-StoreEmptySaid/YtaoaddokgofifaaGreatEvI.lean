/- All operations but calls of functions: the model answers what the evaluator answers. -/
import Derived.Test.YtaoaddokgofifaaGreatEvH
namespace Go.Ev
open Go.RowKit
section
variable {P : Program} {T : TT} {ρ : Inj} {H : AH} {w : World}

theorem appendV_sim (hT : T.Ok P) (hm : MR ρ H w) {ts : Array TypeId} {ty : TypeId} {args : List Value} {cargs : Array Value} {v : Value} {H' : AH} (ha : All2 (TV ρ) args cargs.toList)
    (h : appendV T ts args H = some (v, H')) : ∃ cv w' ρ', (Builtin.append_ ts ty cargs).run P w = .ok cv w' ∧ TV ρ' v cv ∧ Post ρ H w ρ' H' w' := by
  unfold appendV at h
  split at h
  · rename_i st s x ht
    obtain ⟨l⟩ := cargs
    simp only at ha
    cases ha with
    | cons hs hr =>
      cases hr with
      | cons hx hr =>
        cases hr
        split at h
        · rename_i e hu
          split at h
          · rename_i i n len xd hi hnl hll hxd
            obtain ⟨xt, hxt, hxu⟩ : ∃ xt, ts[1]? = some xt ∧ T.und xt = some xd := by
              cases hq : ts[1]? with
              | none => rw [hq] at hxd; cases hxd
              | some xt => rw [hq] at hxd; exact ⟨xt, rfl, hxd⟩
            split at h
            · rename_i hc
              obtain ⟨hno, hsmall, hzs, hzl⟩ := hc
              have hxd' : ∀ k, xd ≠ .int k := fun k hk => by subst hk; cases hno
              split at h
              · rename_i new hsv
                split at h
                · rename_i hone
                  obtain ⟨z, hz, hzc⟩ : ∃ z, i.zero = some z ∧ z.cells.size = i.size := by
                    unfold zeroT at hzl
                    rw [hi] at hzl
                    simp only at hzl
                    split at hzl
                    · rename_i z hz
                      split at hzl
                      · refine ⟨z, hz, by simpa using hzl⟩
                      · cases hzl
                    · cases hzl
                  exact appendTo_sim hT hm ht hu hi hxt hxu hxd' hs hx hnl hll hsmall hz hzc hsv hone.2 h
                · cases h
              · cases h
            · cases h
          · cases h
        · cases h
  · cases h

theorem copyV_sim (hT : T.Ok P) (hm : MR ρ H w) {ts : Array TypeId} {ty : TypeId} {args : List Value} {cargs : Array Value} {v : Value} {H' : AH} (ha : All2 (TV ρ) args cargs.toList)
    (h : copyV T ts args H = some (v, H')) : ∃ w', (Builtin.copy_ ts ty cargs).run P w = .ok v w' ∧ TV ρ v v ∧ Post ρ H w ρ H' w' := by
  unfold copyV at h
  split at h
  · rename_i dt d x ht
    obtain ⟨l⟩ := cargs
    simp only at ha
    cases ha with
    | cons hd hr =>
      cases hr with
      | cons hx hr =>
        cases hr
        rename_i cd cx
        split at h
        · rename_i e hu
          split at h
          · rename_i i m b o dl c hi hml
            split at h
            · rename_i new cs e' hsv hg
              split at h
              · rename_i hc
                cases h
                obtain ⟨p, o', c', rfl, hp, hcap, hdo, ho⟩ := hd.slice_inv
                have hmw := lenV_sim (P := P) hx hml w
                obtain ⟨arr, hsrc, har⟩ := source_sim (P := P) hm hx hml (Nat.min_le_left m dl) hsv
                have fin : ∀ w', (storeCells ⟨p.b, o', none⟩ arr 0).run P w = .ok () w' → (Builtin.copy_ ts ty #[.slice (some ⟨p.b, o', none⟩) dl c', cx]).run P w = .ok (nat1 (Nat.min m dl)) w' := by
                  intro w' hst
                  simp only [Builtin.copy_, ht, Sem.run_bind, rU hT hu, Result.andThen_ok, List.getElem?_toArray, List.getElem?_cons_zero, List.getElem?_cons_succ, hmw, rSi hT hi, hsrc, hst, Sem.run_pure, goInt, nat1]
                by_cases ho' : o' = p.d + o
                · subst ho'
                  obtain ⟨w', g1, g2⟩ := MR.storeCells (P := P) hm hg hp hc.2 har
                  exact ⟨w', fin w' g1, .int _ _, g2⟩
                · have hz := ho.resolve_left ho'
                  have hdl : dl = 0 := hz.1
                  subst hdl
                  have hn : new = [] := by
                    have hl := har.length
                    unfold sourceV at hsv
                    split at hsv
                    · split at hsv
                      · cases hsv; rfl
                      · cases hsv
                    · rename_i a l2 c2
                      have e0 : Nat.min m 0 * i.size = 0 := by simp
                      rw [e0] at hsv
                      unfold rowAt at hsv
                      split at hsv
                      · split at hsv
                        · split at hsv
                          · cases hsv; simp
                          · cases hsv
                        · cases hsv
                      · cases hsv
                    · rename_i s
                      split at hsv
                      · cases hsv
                        have : s.extract 0 (Nat.min m 0) = .empty := by simp
                        rw [this]; rfl
                      · cases hsv
                    · cases hsv
                  subst hn
                  have harr : arr = [] := by cases har; rfl
                  subst harr
                  obtain ⟨cc, fz, k1, k2, k3, k5, k4⟩ := hm.row_obj hg hp
                  exact ⟨w, fin w (by simp [storeCells]), .int _ _, Post.turn hm hg hp rfl k1 (fun _ _ => rfl) (.cells k2 k3 k5 k4) (hout := fun _ _ _ O h => by rw [k1] at h; cases h; exact .refl _ _ _)⟩
              · cases h
            · cases h
          · rename_i i m c hi hml
            cases h
            obtain ⟨rfl, _⟩ := hd.nilSlice_inv
            have hmw := lenV_sim (P := P) hx hml w
            refine ⟨w, ?_, .int _ _, .refl hm⟩
            have e0 : (Builtin.firstCells i.size (Nat.min m 0) cx).run P w = .ok #[] w := by
              rw [show Nat.min m 0 = 0 by simp]
              unfold lenV at hml
              split at hml
              · split at hml
                · cases hml; obtain ⟨rfl, _⟩ := hx.nilSlice_inv; rfl
                · cases hml
              · obtain ⟨b', c', rfl, hb'⟩ := hx.slice_shape
                cases b' with
                | none => simp at hb'
                | some a => simp [Builtin.firstCells, loadCells, loadCellsFrom]
              · obtain rfl := hx.string_inv
                simp [Builtin.firstCells]
              · cases hml
            simp only [Builtin.copy_, ht, Sem.run_bind, rU hT hu, Result.andThen_ok, List.getElem?_toArray, List.getElem?_cons_zero, List.getElem?_cons_succ, hmw, rSi hT hi, e0, Sem.run_pure, goInt, nat1]
            simp
          · cases h
        · cases h
  · cases h

/-! ### all together -/
/-- What an operation puts into its slot. -/
def Puts (r : Next) (cv : Value) : Prop := r = .value cv ∨ (r = .skip ∧ cv = undef)

def OpSim (P : Program) (cenv : Operand → Value) (o : Oper) (ρ : Inj) (H : AH) (w : World) (v : Value) (H' : AH) : Prop :=
  ∃ r cv w' ρ', (execOp cenv o).run P w = .ok r w' ∧ Puts r cv ∧ TV ρ' v cv ∧ Post ρ H w ρ' H' w'

theorem OpSim.same {cenv : Operand → Value} {o : Oper} (hm : MR ρ H w) {v cv : Value} (h : (execOp cenv o).run P w = .ok (.value cv) w) (hv : TV ρ v cv) : OpSim P cenv o ρ H w v H :=
  ⟨_, cv, w, ρ, h, .inl rfl, hv, .refl hm⟩

theorem opt_map_some {α β : Type} {f : α → β} {x : Option α} {y : β} (h : x.map f = some y) : ∃ a, x = some a ∧ f a = y := by
  cases x with
  | none => cases h
  | some a => exact ⟨a, rfl, by simpa using h⟩

theorem ov_map {env cenv : Operand → Value} {x : Option Operand} (h : ∀ y, x = some y → TV ρ (env y) (cenv y)) : OV ρ (x.map env) (x.map cenv) := by
  cases x with
  | none => exact .none
  | some y => exact .some (h y rfl)

theorem all2_map_env {env cenv : Operand → Value} : ∀ {l : List Operand}, (∀ x ∈ l, TV ρ (env x) (cenv x)) → All2 (TV ρ) (l.map env) (l.map cenv)
  | [], _ => .nil
  | x :: l, h => .cons (h x (by simp)) (all2_map_env fun y hy => h y (by simp [hy]))

theorem builtinV_sim (hT : T.Ok P) (hm : MR ρ H w) {b : Builtin} {ts : Array TypeId} {ty : TypeId} {args : List Value} {cargs : Array Value} {v : Value} {H' : AH} (ha : All2 (TV ρ) args cargs.toList)
    (h : builtinV P T b ts args H = some (v, H')) : ∃ cv w' ρ', (∀ cs, (builtin b ts ty cs cargs).run P w = .ok (.value cv) w') ∧ TV ρ' v cv ∧ Post ρ H w ρ' H' w' := by
  unfold builtinV at h
  split at h
  · obtain ⟨v', h1, h2⟩ := opt_map_some h
    cases h2
    obtain ⟨h3, h4⟩ := lenB_sim (ty := ty) hT hm ha h1
    exact ⟨_, w, ρ, fun cs => by simp [builtin, h3], h4, .refl hm⟩
  · obtain ⟨cv, w', ρ', h1, h2, h3⟩ := appendV_sim (ty := ty) hT hm ha h
    exact ⟨cv, w', ρ', fun cs => by simp [builtin, h1], h2, h3⟩
  · obtain ⟨w', h1, h2, h3⟩ := copyV_sim (ty := ty) hT hm ha h
    exact ⟨_, w', ρ, fun cs => by simp [builtin, h1], h2, h3⟩
  · obtain ⟨w', h1, h2, h3⟩ := deleteV_sim (ty := ty) hT hm ha h
    exact ⟨_, w', ρ, fun cs => by simp [builtin, h1], h2, h3⟩
  · obtain ⟨v', h1, h2⟩ := opt_map_some h
    cases h2
    obtain ⟨h3, h4⟩ := maxV_sim (P := P) (ts := ts) (ty := ty) ha h1 w
    exact ⟨_, w, ρ, fun cs => by simp [builtin, h3], h4, .refl hm⟩
  · obtain ⟨v', h1, h2⟩ := opt_map_some h
    cases h2
    obtain ⟨h3, h4⟩ := minV_sim (P := P) (ts := ts) (ty := ty) ha h1 w
    exact ⟨_, w, ρ, fun cs => by simp [builtin, h3], h4, .refl hm⟩
  · cases h

/-- An operation that only lays a block, anywhere. -/
theorem Lays.sim {env cenv : Operand → Value} {o : Oper} {v : Value} {H' : AH} (hm : MR ρ H w) (h : Lays P T env cenv o ρ H v H') : OpSim P cenv o ρ H w v H' := by
  obtain ⟨obj, O, L, mk, mkc, rfl, rfl, hor, hrun, htv, _⟩ := h
  exact ⟨_, _, _, _, hrun w, .inl rfl, htv _ _ _ (Inj.ext_same _ _ _), Post.alloc hm hor⟩

set_option maxHeartbeats 800000 in
theorem evOp_sim (hT : T.Ok P) (hm : MR ρ H w) {env cenv : Operand → Value} {o : Oper} (he : ∀ x ∈ o.op.operands, TV ρ (env x) (cenv x)) {v : Value} {H' : AH} (h : evOp P T env o.op H = some (v, H')) :
    OpSim P cenv o ρ H w v H' := by
  by_cases hl : laysOp o.op = true
  · exact (lays_sim hT he hl h).sim hm
  obtain ⟨dst, op, ty, pos, after, guard⟩ := o
  simp only at h hl he
  cases op
  case move x =>
    simp only [evOp] at h; cases h
    exact .same hm (by simp [execOp]) (he x (by simp [Op.operands]))
  case assign x =>
    simp only [evOp] at h; cases h
    exact .same hm (by simp [execOp]) (he x (by simp [Op.operands]))
  case pick c a b =>
    simp only [evOp] at h
    have hc := he c (by simp [Op.operands])
    split at h
    · rename_i t ht
      cases h
      rw [ht] at hc
      have hcc := hc.bool_inv
      cases t
      · exact .same hm (cv := cenv b) (by simp [execOp, hcc, asBool]) (he b (by simp [Op.operands]))
      · exact .same hm (cv := cenv a) (by simp [execOp, hcc, asBool]) (he a (by simp [Op.operands]))
    · cases h
  case build t ps =>
    simp only [evOp] at h
    obtain ⟨v', h1, h2⟩ := opt_map_some h
    cases h2
    have hps : All2 (PR ρ) (ps.toList.map fun p => (p.1, env p.2)) (ps.map fun p => (p.1, cenv p.2)).toList := by
      rw [Array.toList_map]
      have : ∀ l : List (Nat × Operand), (∀ p ∈ l, TV ρ (env p.2) (cenv p.2)) → All2 (PR ρ) (l.map fun p => (p.1, env p.2)) (l.map fun p => (p.1, cenv p.2)) := by
        intro l
        induction l with
        | nil => intro _; exact .nil
        | cons p l ih => intro hl; exact .cons (.mk (hl p (by simp))) (ih fun q hq => hl q (by simp [hq]))
      exact this _ fun p hp => he p.2 (by simp only [Op.operands, List.mem_toArray, List.mem_map]; simp; exact ⟨p.1, by simpa using hp⟩)
    obtain ⟨cv, h3, h4⟩ := buildV_sim hT hps h1 w
    exact .same hm (by simp [execOp, h3]) (.val h4)
  case load t a =>
    simp only [evOp] at h
    obtain ⟨v', h1, h2⟩ := opt_map_some h
    cases h2
    obtain ⟨cv, h3, h4⟩ := loadV_sim hT hm (he a (by simp [Op.operands])) h1
    exact .same hm (by simp [execOp, h3]) (.val h4)
  case store t a x =>
    simp only [evOp] at h
    obtain ⟨H1, h1, h2⟩ := opt_map_some h
    cases h2
    obtain ⟨w', h3, h4⟩ := storeV_sim hT hm (he a (by simp [Op.operands])) (he x (by simp [Op.operands])) h1
    exact ⟨.skip, undef, w', ρ, by simp [execOp, h3], .inr ⟨rfl, rfl⟩, TV.undef, h4⟩
  case nilCheck x =>
    simp only [evOp] at h
    split at h
    · rename_i a ha
      cases h
      have hx := he x (by simp [Op.operands])
      rw [ha] at hx
      obtain ⟨b', hb1, hb2⟩ := hx.pointer_shape
      cases b' with
      | none => simp at hb2
      | some q => exact .same hm (cv := .pointer (some q)) (by simp [execOp, hb1]) (by rw [hb1] at hx; exact hx)
    · cases h
  case binOp op t x y yt =>
    simp only [evOp] at h
    obtain ⟨v', h1, h2⟩ := opt_map_some h
    cases h2
    obtain ⟨cv, h3, h4⟩ := binV_sim hT (he x (by simp [Op.operands])) (he y (by simp [Op.operands])) h1 w
    refine .same hm (cv := cv) ?_ h4
    simp only [execOp, Sem.run_bind] at h3 ⊢
    rw [h3]
    simp
  case unOp op t x =>
    simp only [evOp] at h
    obtain ⟨v', h1, h2⟩ := opt_map_some h
    cases h2
    obtain ⟨cv, h3, h4⟩ := unV_sim (he x (by simp [Op.operands])) h1 w
    exact .same hm (by simp [execOp, h3]) h4
  case convert s d x =>
    simp only [evOp] at h
    obtain ⟨cv, w', ρ', h1, h2, h3⟩ := convV_sim hT hm (he x (by simp [Op.operands])) h
    exact ⟨_, cv, w', ρ', by simp [execOp, h1], .inl rfl, h2, h3⟩
  case sliceToArrayPointer t x =>
    simp only [evOp] at h
    obtain ⟨v', h1, h2⟩ := opt_map_some h
    cases h2
    obtain ⟨cv, h3, h4⟩ := arrayAtV_sim hT (he x (by simp [Op.operands])) h1 w
    exact .same hm (by simp [execOp, h3]) h4
  case makeFunc fn first cap =>
    cases fn <;> simp only [evOp] at h <;> try cases h
    rename_i f
    split at h
    · rename_i hc
      cases h
      have hf : first = #[] := by simpa using hc.1
      subst hf
      refine .same hm (cv := .func (.func f) #[] (cap.map cenv)) (by simp [execOp, Instr.makeFunc]) ?_
      refine .val (.one (.func ?_))
      simp only [Array.toList_map]
      have hcap := List.all_eq_true.1 hc.2
      have : ∀ l : List Operand, (∀ x ∈ l, TV ρ (env x) (cenv x) ∧ ∃ a, env x = .pointer (some a)) → All2 (BR ρ) (l.map env) (l.map cenv) := by
        intro l
        induction l with
        | nil => intro _; exact .nil
        | cons x l ih =>
          intro hl
          refine .cons ?_ (ih fun q hq => hl q (by simp [hq]))
          obtain ⟨h1, a, ha⟩ := hl x (by simp)
          rw [ha] at h1 ⊢
          generalize cenv x = cx at h1
          cases h1 with
          | val h1 => cases h1 with
            | one h1 => cases h1 with
              | base h1 => exact h1
      refine this _ fun x hx => ⟨he x (by simp [Op.operands]; simpa using hx), ?_⟩
      have := hcap x hx
      split at this
      · rename_i a ha; exact ⟨a, ha⟩
      · cases this
    · cases h
  case slice t x lo hi mx =>
    simp only [evOp] at h
    obtain ⟨v', h1, h2⟩ := opt_map_some h
    cases h2
    have hlo : OV ρ (lo.map env) (lo.map cenv) := ov_map fun y hy => he y (by subst hy; simp [Op.operands])
    have hhi : OV ρ (hi.map env) (hi.map cenv) := ov_map fun y hy => he y (by subst hy; simp [Op.operands])
    have hmx : OV ρ (mx.map env) (mx.map cenv) := ov_map fun y hy => he y (by subst hy; simp [Op.operands])
    obtain ⟨cv, h3, h4⟩ := sliceV_sim hT (he x (by simp [Op.operands])) hlo hhi hmx h1 w
    exact .same hm (by simp [execOp, h3]) h4
  case fieldAddr s x f =>
    simp only [evOp] at h
    obtain ⟨v', h1, h2⟩ := opt_map_some h
    cases h2
    obtain ⟨cv, h3, h4⟩ := fieldAddrV_sim hT (he x (by simp [Op.operands])) h1 w
    exact .same hm (by simp [execOp, h3]) h4
  case field s x f =>
    simp only [evOp] at h
    obtain ⟨v', h1, h2⟩ := opt_map_some h
    cases h2
    obtain ⟨cv, h3, h4⟩ := fieldV_sim hT (he x (by simp [Op.operands])) h1 w
    exact .same hm (by simp [execOp, h3]) (.val h4)
  case indexAddr t x i =>
    simp only [evOp] at h
    obtain ⟨v', h1, h2⟩ := opt_map_some h
    cases h2
    obtain ⟨cv, h3, h4⟩ := indexAddrV_sim hT (he x (by simp [Op.operands])) (he i (by simp [Op.operands])) h1 w
    exact .same hm (by simp [execOp, h3]) h4
  case index t x i =>
    simp only [evOp] at h
    obtain ⟨v', h1, h2⟩ := opt_map_some h
    cases h2
    obtain ⟨cv, h3, h4⟩ := indexV_sim hT (he x (by simp [Op.operands])) (he i (by simp [Op.operands])) h1 w
    exact .same hm (by simp [execOp, h3]) h4
  case lookup t m k ok =>
    simp only [evOp] at h
    obtain ⟨v', h1, h2⟩ := opt_map_some h
    cases h2
    obtain ⟨cv, h3, h4⟩ := lookupV_sim hT hm (he m (by simp [Op.operands])) (he k (by simp [Op.operands])) h1
    exact .same hm (by simp [execOp, h3]) h4
  case mapUpdate t m k x =>
    simp only [evOp] at h
    obtain ⟨H1, h1, h2⟩ := opt_map_some h
    cases h2
    obtain ⟨w', h3, h4⟩ := mapUpdateV_sim hT hm (he m (by simp [Op.operands])) (he k (by simp [Op.operands])) (he x (by simp [Op.operands])) h1
    exact ⟨.skip, undef, w', ρ, by simp [execOp, h3], .inr ⟨rfl, rfl⟩, TV.undef, h4⟩
  case mapEntry t m k =>
    simp only [evOp] at h
    obtain ⟨cv, w', h3, h4, h5⟩ := mapEntryV_sim hT hm (he m (by simp [Op.operands])) (he k (by simp [Op.operands])) h
    exact ⟨_, cv, w', ρ, by simp [execOp, h3], .inl rfl, h4, h5⟩
  case entryStore t m s x =>
    simp only [evOp] at h
    obtain ⟨H1, h1, h2⟩ := opt_map_some h
    cases h2
    obtain ⟨w', h3, h4⟩ := entryStoreV_sim (P := P) (t := t) hm (he m (by simp [Op.operands])) (he s (by simp [Op.operands])) (he x (by simp [Op.operands])) h1
    exact ⟨.skip, undef, w', ρ, by simp [execOp, h3], .inr ⟨rfl, rfl⟩, TV.undef, h4⟩
  case extract t i =>
    simp only [evOp] at h
    split at h
    · rename_i vs hvs
      obtain ⟨v', h1, h2⟩ := opt_map_some h
      cases h2
      have ht := he t (by simp [Op.operands])
      rw [hvs] at ht
      obtain ⟨c', hc1, hc2⟩ := ht.tuple_inv
      obtain ⟨cv, h3, h4⟩ := hc2.get i v (by simpa using h1)
      have h3' : c'[i]? = some cv := by simpa using h3
      exact .same hm (cv := cv) (by simp [execOp, hc1, Instr.extract, h3']) (.val h4)
    · cases h
  case call c =>
    obtain ⟨callee, args, ats⟩ := c
    cases callee <;> simp only [evOp] at h <;> try cases h
    rename_i b
    have ha : All2 (TV ρ) (args.toList.map env) (args.map cenv).toList := by
      rw [Array.toList_map]
      exact all2_map_env fun x hx => he x (by simp [Op.operands, Call.operands]; simpa using hx)
    obtain ⟨cv, w', ρ', h1, h2, h3⟩ := builtinV_sim (ty := ty) hT hm ha h
    exact ⟨_, cv, w', ρ', by simp [execOp, resolve, invoke, h1], .inl rfl, h2, h3⟩
  all_goals first | (exact absurd rfl hl) | (simp [evOp] at h; done)

end
end Go.Ev
