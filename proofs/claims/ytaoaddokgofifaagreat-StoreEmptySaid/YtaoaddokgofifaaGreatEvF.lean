/- Each operation of the evaluator is answered so by the model: what writes, and what lays new blocks. -/
import Derived.Test.YtaoaddokgofifaaGreatEvE
import Derived.IntWalk
namespace Go.Ev
open Go.RowKit
section
variable {P : Program} {T : TT} {ρ : Inj} {H : AH} {w : World}

/-! ### maps that are written -/
theorem toList_modify {α : Type} (xs : Array α) (i : Nat) (f : α → α) {x : α} (h : xs[i]? = some x) : (xs.modify i f).toList = xs.toList.set i (f x) := by
  apply List.ext_getElem?
  intro j
  rw [Array.getElem?_toList, Array.getElem?_modify]
  by_cases e : i = j
  · subst e
    have hlt := (Array.getElem?_eq_some_iff.1 h).1
    rw [if_pos rfl, h, List.getElem?_set_self (by simpa using hlt)]
    rfl
  · rw [if_neg e, List.getElem?_set_ne e, Array.getElem?_toList]

theorem All2.eraseIdx {α β : Type} {R : α → β → Prop} {l : List α} {r : List β} (h : All2 R l r) : ∀ i : Nat, All2 R (l.eraseIdx i) (r.eraseIdx i) := by
  induction h with
  | nil => intro i; simpa using All2.nil
  | cons x y ih =>
    intro i
    cases i with
    | zero => simpa using y
    | succ i => simpa using All2.cons x (ih i)

theorem notTuple_VR {v cv : Value} (hv : TV ρ v cv) (h : notTuple v = true) : VR ρ v cv := by
  cases hv with
  | val hv => exact hv
  | tuple _ => cases h

theorem mapUpdateV_sim (hT : T.Ok P) (hm : MR ρ H w) {t : TypeId} {m cm k ck v cv : Value} {H' : AH} (hmm : TV ρ m cm) (hk : TV ρ k ck) (hv : TV ρ v cv) (h : mapUpdateV P T t m k v H = some H') :
    ∃ w', (Instr.mapUpdate t cm ck cv).run P w = .ok () w' ∧ Post ρ H w ρ H' w' := by
  unfold mapUpdateV at h
  split at h
  · rename_i hnt
    have hv' := notTuple_VR hv hnt
    split at h
    · rename_i kt et r hu
      obtain ⟨r', rfl, hr'⟩ := hmm.map_inv
      split at h
      · rename_i es cl hg
        obtain ⟨es', h1, h2⟩ := hm.mapObj hg hr'
        have hobj := getObj_run (P := P) h1 (by simp)
        split at h
        · rename_i i v0 hfind
          split at h
          · rename_i e he
            split at h
            · rename_i hsb
              cases h
              obtain ⟨rfl, hfl, hchk, rr, hrun, hfr⟩ := findV_sim hk h2 hfind
              cases hfr with
              | some ha hb =>
                rename_i e1 e'
                rw [he] at ha; cases ha
                obtain ⟨e2, hb2, her⟩ := h2.get i e he
                rw [hb] at hb2; cases hb2
                have hb' : es'[i]? = some e' := by simpa using hb
                refine ⟨w.putObj r' (.map (es'.modify i fun e => { e with key := ck, val := cv }) cl), ?_, Post.put hm hg hr' h1 (.map rfl ?_)⟩
                · simp [Instr.mapUpdate, rU hT hu, hobj, hchk, hrun, hb', ← her.key, Instr.keyThatStays, hsb, setObj_run _ h1]
                · rw [toList_modify _ _ _ hb']
                  exact h2.set (a := { e with key := ck, val := v }) (b := { e' with key := ck, val := cv }) ⟨rfl, hfl, hv', her.born⟩ i
            · cases h
          · cases h
        · rename_i hfind
          cases h
          obtain ⟨rfl, hfl, hchk, rr, hrun, hfr⟩ := findV_sim hk h2 hfind
          cases hfr with
          | none =>
            refine ⟨w.putObj r' (.map (es'.push { key := ck, val := cv, born := cl }) (cl + 1)), ?_, Post.put hm hg hr' h1 (.map rfl ?_)⟩
            · simp [Instr.mapUpdate, rU hT hu, hobj, hchk, hrun, setObj_run _ h1]
            · rw [Array.toList_push]
              exact h2.append (.cons ⟨rfl, hfl, hv', rfl⟩ .nil)
        · cases h
      · cases h
    · cases h
  · cases h

theorem mapEntryV_sim (hT : T.Ok P) (hm : MR ρ H w) {t : TypeId} {m cm k ck v : Value} {H' : AH} (hmm : TV ρ m cm) (hk : TV ρ k ck) (h : mapEntryV P T t m k H = some (v, H')) :
    ∃ cv w', (Instr.mapEntry t cm ck).run P w = .ok cv w' ∧ TV ρ v cv ∧ Post ρ H w ρ H' w' := by
  unfold mapEntryV at h
  split at h
  · rename_i kt et r hu
    obtain ⟨r', rfl, hr'⟩ := hmm.map_inv
    split at h
    · rename_i es cl hg
      obtain ⟨es', h1, h2⟩ := hm.mapObj hg hr'
      have hobj := getObj_run (P := P) h1 (by simp)
      split at h
      · rename_i i v0 hfind
        split at h
        · rename_i e he
          split at h
          · rename_i hsb
            cases h
            obtain ⟨rfl, hfl, hchk, rr, hrun, hfr⟩ := findV_sim hk h2 hfind
            cases hfr with
            | some ha hb =>
              rename_i e1 e'
              rw [he] at ha; cases ha
              obtain ⟨e2, hb2, her⟩ := h2.get i e he
              rw [hb] at hb2; cases hb2
              have hb' : es'[i]? = some e' := by simpa using hb
              refine ⟨.tuple #[e'.val, nat1 e'.born], w.putObj r' (.map (es'.modify i fun e => { e with key := ck }) cl), ?_, ?_, Post.put hm hg hr' h1 (.map rfl ?_)⟩
              · simp [Instr.mapEntry, rU hT hu, hobj, hchk, hrun, hb', ← her.key, Instr.keyThatStays, hsb, setObj_run _ h1, goInt, nat1]
              · rw [her.born]
                exact .tuple (.cons her.val (.cons (.one (.base (.int _ _))) .nil))
              · rw [toList_modify _ _ _ hb']
                exact h2.set (a := { e with key := ck }) (b := { e' with key := ck }) ⟨rfl, hfl, her.val, her.born⟩ i
          · cases h
        · cases h
      · rename_i hfind
        split at h
        · rename_i ti hti
          split at h
          · rename_i z hz
            split at h
            · rename_i hcl
              cases h
              obtain ⟨rfl, hfl, hchk, rr, hrun, hfr⟩ := findV_sim hk h2 hfind
              cases hfr with
              | none =>
                refine ⟨.tuple #[z, nat1 cl], w.putObj r' (.map (es'.push { key := ck, val := z, born := cl }) (cl + 1)), ?_, ?_, Post.put hm hg hr' h1 (.map rfl ?_)⟩
                · simp [Instr.mapEntry, rU hT hu, hobj, hchk, hrun, setObj_run _ h1, rZi hT hti hz, goInt, nat1]
                · exact .tuple (.cons (TV.closedV hcl) (.cons (.one (.base (.int _ _))) .nil))
                · rw [Array.toList_push]
                  exact h2.append (.cons ⟨rfl, hfl, TV.closedV hcl, rfl⟩ .nil)
            · cases h
          · cases h
        · cases h
      · cases h
    · cases h
  · cases h

theorem findIdx_all2 {es es' : List MapEntry} (h : All2 (ER ρ) es es') (n : Int) : es'.findIdx? (fun e => (e.born : Int) == n) = es.findIdx? (fun e => (e.born : Int) == n) := by
  induction h with
  | nil => rfl
  | cons x _ ih => simp only [List.findIdx?_cons, x.born, ih]

theorem entryStoreV_sim (hm : MR ρ H w) {t : TypeId} {m cm s cs v cv : Value} {H' : AH} (hmm : TV ρ m cm) (hs : TV ρ s cs) (hv : TV ρ v cv) (h : entryStoreV m s v H = some H') :
    ∃ w', (Instr.entryStore t cm cs cv).run P w = .ok () w' ∧ Post ρ H w ρ H' w' := by
  unfold entryStoreV at h
  split at h
  · rename_i hnt
    have hv' := notTuple_VR hv hnt
    split at h
    · rename_i r kd born
      obtain ⟨r', rfl, hr'⟩ := hmm.map_inv
      obtain rfl := hs.int_inv
      split at h
      · rename_i es cl hg
        obtain ⟨es', h1, h2⟩ := hm.mapObj hg hr'
        have hobj := getObj_run (P := P) h1 (by simp)
        split at h
        · rename_i i hi
          split at h
          · rename_i e he
            cases h
            obtain ⟨e', hb, her⟩ := h2.get i e he
            have hb' : es'[i]? = some e' := by simpa using hb
            have hi' : es'.findIdx? (fun e => (e.born : Int) == born) = some i := by
              rw [← hi, ← findIdx_all2 h2 born]
              obtain ⟨l⟩ := es'
              exact List.findIdx?_toArray ..
            refine ⟨w.putObj r' (.map (es'.modify i fun e => { e with val := cv }) cl), ?_, Post.put hm hg hr' h1 (.map rfl ?_)⟩
            · simp [Instr.entryStore, hobj, asInt, asIntOf, hi', setObj_run _ h1]
            · rw [toList_modify _ _ _ hb']
              exact h2.set (a := { e with val := v }) (b := { e' with val := cv }) ⟨her.key, her.flat, hv', her.born⟩ i
          · cases h
        · cases h
      · cases h
    · cases h
  · cases h

theorem deleteV_sim (hT : T.Ok P) (hm : MR ρ H w) {ts : Array TypeId} {ty : TypeId} {args : List Value} {cargs : Array Value} {v : Value} {H' : AH} (ha : All2 (TV ρ) args cargs.toList)
    (h : deleteV P T ts args H = some (v, H')) : ∃ w', (Builtin.delete_ ts ty cargs).run P w = .ok v w' ∧ TV ρ v v ∧ Post ρ H w ρ H' w' := by
  unfold deleteV at h
  split at h
  · rename_i t r k ht
    obtain ⟨l⟩ := cargs
    simp only at ha
    cases ha with
    | cons hmm hr =>
      cases hr with
      | cons hk hr =>
        cases hr
        rename_i cm ck
        obtain ⟨r', rfl, hr'⟩ := hmm.map_inv
        split at h
        · rename_i kt et es cl hu hg
          obtain ⟨es', h1, h2⟩ := hm.mapObj hg hr'
          have hobj := getObj_run (P := P) h1 (by simp)
          have hemp := isEmpty_all2 h2
          split at h
          · rename_i i v0 hfind
            cases h
            obtain ⟨rfl, hfl, hchk, rr, hrun, hfr⟩ := findV_sim hk h2 hfind
            cases hfr with
            | some ha hb =>
              rename_i e e'
              have hlt : i < es'.size := by
                have := (List.getElem?_eq_some_iff.1 hb).1
                simpa using this
              refine ⟨w.putObj r' (.map (es'.eraseIdxIfInBounds i) cl), ?_, .tuple .nil, Post.put hm hg hr' h1 (.map rfl ?_)⟩
              · simp [Builtin.delete_, ht, rU hT hu, hobj, hemp, hchk, hrun, setObj_run _ h1]
              · rw [Array.eraseIdxIfInBounds, dif_pos hlt, Array.toList_eraseIdx]
                exact h2.eraseIdx i
          · rename_i hfind
            cases h
            obtain ⟨rfl, hfl, hchk, rr, hrun, hfr⟩ := findV_sim hk h2 hfind
            cases hfr with
            | none =>
              refine ⟨w.putObj r' (.map es' cl), ?_, .tuple .nil, Post.put hm hg hr' h1 (.map rfl h2)⟩
              simp [Builtin.delete_, ht, rU hT hu, hobj, hemp, hchk, hrun, setObj_run _ h1]
          · cases h
        · cases h
  · cases h

/-! ### what only lays a block -/
/-- An operation that lays one block, of what its operands say. -/
def Lays (P : Program) (T : TT) (env cenv : Operand → Value) (o : Oper) (ρ : Inj) (H : AH) (v : Value) (H' : AH) : Prop :=
  ∃ (obj : AObj) (O : Obj) (L : Nat) (mk mkc : Nat → Value), H' = H.alloc obj ∧ v = mk H.next ∧ OR ρ 0 L obj O ∧
    (∀ w, (execOp cenv o).run P w = .ok (.value (mkc w.heap.size)) (w.alloc O)) ∧
    (∀ (ρ' : Inj) (k b : Nat), ρ' k = some ⟨b, 0, L⟩ → TV ρ' (mk k) (mkc b)) ∧
    (∀ H2, evOp P T env o.op H2 = some (mk H2.next, H2.alloc obj))

theorem OR.row {c c' : List Value} (h : All2 (SR ρ) c c') (e : TypeId) : OR ρ 0 c'.length (.cells c e) (.cells c'.toArray e) :=
  .cells (fun i v hi => by
    obtain ⟨v', h1, h2⟩ := h.get i v hi
    exact ⟨v', by simpa using h1, h2⟩) (fun i _ _ => by simp) (fun _ => by rw [h.length]; omega) (by simp)

theorem TV.ptr_new {ρ' : Inj} {k b L : Nat} (h : ρ' k = some ⟨b, 0, L⟩) : TV ρ' (ptr k 0) (.pointer (some ⟨b, 0, none⟩)) := by
  have := BR.ptr (o := 0) h
  exact .base (by simpa [ptr] using this)

theorem repeat_all2 {z : List Value} (h : z.all closed1 = true) : ∀ n, (repeatL n z).all closed1 = true
  | 0 => rfl
  | n + 1 => by
    simp only [repeatL, List.all_append, Bool.and_eq_true]
    exact ⟨h, repeat_all2 h n⟩

theorem length_repeatL (z : List Value) : ∀ n, (repeatL n z).length = n * z.length
  | 0 => by simp [repeatL]
  | n + 1 => by simp [repeatL, length_repeatL z n, Nat.succ_mul, Nat.add_comm]

theorem getElem?_repeatL {z : List Value} (hz : 0 < z.length) : ∀ (n i : Nat), i < n * z.length → (repeatL n z)[i]? = z[i % z.length]?
  | 0, i, h => by simp at h
  | n + 1, i, h => by
    simp only [repeatL]
    by_cases h1 : i < z.length
    · rw [List.getElem?_append_left h1, Nat.mod_eq_of_lt h1]
    · rw [List.getElem?_append_right (by omega), getElem?_repeatL hz n (i - z.length) (by rw [Nat.succ_mul] at h; omega)]
      congr 1
      conv => rhs; rw [show i = (i - z.length) + z.length by omega]
      rw [Nat.add_mod_right]

theorem range_repeat (z : Array Value) (hz : 0 < z.size) (n : Nat) : ((Array.range (n * z.size)).map (fun i => z[i % z.size]!)).toList = repeatL n z.toList := by
  apply List.ext_getElem?
  intro i
  rw [Array.getElem?_toList, Array.getElem?_map]
  by_cases h : i < n * z.size
  · rw [getElem?_repeatL (by simpa using hz) n i (by simpa using h)]
    have hlt : i % z.size < z.size := Nat.mod_lt _ hz
    simp [h, hlt]
  · rw [List.getElem?_eq_none (by rw [length_repeatL]; simpa using Nat.le_of_not_lt h)]
    simp [h]

theorem arr0 (f : Nat → Value) : (Array.range 0).map f = #[] := by simp

theorem lays_sim (hT : T.Ok P) {env cenv : Operand → Value} {o : Oper} (he : ∀ x ∈ o.op.operands, TV ρ (env x) (cenv x)) (hl : laysOp o.op = true) {v : Value} {H' : AH}
    (h : evOp P T env o.op H = some (v, H')) : Lays P T env cenv o ρ H v H' := by
  obtain ⟨dst, op, ty, pos, after, guard⟩ := o
  simp only at h hl he
  cases op <;> simp only [laysOp, Bool.false_eq_true] at hl
  case alloc e =>
    simp only [evOp] at h
    split at h
    · rename_i z hz
      cases h
      obtain ⟨zv, hz1, hz2, hz3⟩ := rZ hT hz default
      have hz1' : ∀ w, (zeroValue e).run P w = .ok zv w := fun w => by
        obtain ⟨zv', a, b, _⟩ := rZ hT hz w
        unfold zeroT at hz
        split at hz
        · rename_i i hi
          split at hz
          · rename_i z0 hz0
            have e1 := rZi hT hi hz0 default
            rw [hz1] at e1; cases e1
            exact rZi hT hi hz0 w
          · cases hz
        · cases hz
      refine ⟨_, .cells zv.cells e, z.length, fun k => ptr k 0, fun b => .pointer (some ⟨b, 0, none⟩), rfl, rfl, ?_, ?_, fun ρ' k b hb => TV.ptr_new hb, ?_⟩
      · have := OR.row (ρ := ρ) (all2_closed hz3) e
        rw [← hz2] at this ⊢
        simpa using this
      · intro w
        simp [execOp, Instr.alloc, hz1', newVar, newRow]
      · intro H2
        simp only [evOp, hz]
    · cases h
  case box e x =>
    simp only [evOp] at h
    split at h
    · rename_i h1
      cases h
      have hx : TV ρ (env x) (cenv x) := he x (by simp [Op.operands])
      have hc := hx.cells h1
      refine ⟨_, .cells (cenv x).cells e, (cenv x).cells.toList.length, fun k => ptr k 0, fun b => .pointer (some ⟨b, 0, none⟩), rfl, rfl, ?_, ?_, fun ρ' k b hb => TV.ptr_new hb, ?_⟩
      · simpa using OR.row hc e
      · intro w
        simp [execOp, Instr.box, newVar, newRow]
      · intro H2
        simp only [evOp, h1, if_true]
    · cases h
  case buildSlice t n ps =>
    simp only [evOp] at h
    split at h
    · rename_i e hu
      split at h
      · rename_i sz z hs hz
        split at h
        · rename_i hc
          split at h
          · rename_i c hf
            cases h
            obtain ⟨zv, hz1, hz2, hz3⟩ := rZ hT hz default
            have hz1' : ∀ w, (zeroValue e).run P w = .ok zv w := fun w => by
              unfold zeroT at hz
              split at hz
              · rename_i i hi
                split at hz
                · rename_i z0 hz0
                  have e1 := rZi hT hi hz0 default
                  rw [hz1] at e1; cases e1
                  exact rZi hT hi hz0 w
                · cases hz
              · cases hz
            have hps : All2 (PR ρ) (ps.toList.map fun p => (p.1, env p.2)) (ps.map fun p => (p.1, cenv p.2)).toList := by
              rw [Array.toList_map]
              have : ∀ l : List (Nat × Operand), (∀ p ∈ l, TV ρ (env p.2) (cenv p.2)) → All2 (PR ρ) (l.map fun p => (p.1, env p.2)) (l.map fun p => (p.1, cenv p.2)) := by
                intro l
                induction l with
                | nil => intro _; exact .nil
                | cons p l ih => intro hl; exact .cons (.mk (hl p (by simp))) (ih fun q hq => hl q (by simp [hq]))
              exact this _ fun p hp => he p.2 (by simp only [Op.operands, List.mem_toArray, List.mem_map]; simp; exact ⟨p.1, by simpa using hp⟩)
            have hzs : zv.cells.size = sz := by have := hc.2.1; rw [← hz2] at this; simpa using this
            have harr : (Array.range (n * sz)).map (fun i => zv.cells[i % zv.cells.size]!) = (repeatL n z).toArray := by
              apply Array.toList_inj.1
              rw [← hzs, range_repeat zv.cells (by omega) n, hz2]
            obtain ⟨cc, g1, g2⟩ := fill_sim (cplace := fun i => some (i * sz, sz)) (cz := (repeatL n z).toArray) (fun _ _ h => h) hps (by simpa using all2_closed (ρ := ρ) (repeat_all2 hz3 n)) hf
            refine ⟨_, .cells cc e, cc.toList.length, fun k => .slice (some ⟨k, 0, none⟩) n (2 * n + 1), fun b => .slice (some ⟨b, 0, none⟩) n n, rfl, rfl, ?_, ?_, ?_, ?_⟩
            · simpa using OR.row g2 e
            · intro w
              have hle : ¬ (n * sz > 2 ^ 24) := by have := hc.2.2; omega
              by_cases h0 : n * sz = 0
              · have hn0 : n = 0 := by
                  rcases Nat.mul_eq_zero.1 h0 with h0 | h0
                  · exact h0
                  · omega
                subst hn0
                have hr0 : (repeatL 0 z).toArray = #[] := rfl
                rw [hr0] at g1
                simp only [execOp, Instr.buildSlice, Sem.run_bind, rU hT hu, Result.andThen_ok, rS hT hs, if_neg hle, if_pos h0, Sem.run_pure]
                rw [h0, arr0]
                simp only [g1, newRow, Sem.run_bind, run_newObj_alloc, Result.andThen_ok, Sem.run_pure]
              · simp only [execOp, Instr.buildSlice, Sem.run_bind, rU hT hu, Result.andThen_ok, rS hT hs, if_neg hle, if_neg h0, hz1', Sem.run_pure]
                rw [harr]
                simp only [g1, newRow, Sem.run_bind, run_newObj_alloc, Result.andThen_ok, Sem.run_pure]
            · intro ρ' k b hb
              exact TV.slice_mk hb ⟨Nat.le_refl _, fun _ => rfl, fun h => by omega⟩ (Nat.zero_le _) (.inl rfl)
            · intro H2
              simp only [evOp, hu, hs, hz, hc, and_self, if_true, hf]
          · cases h
        · cases h
      · cases h
    · cases h
  case makeMap t r =>
    cases r with
    | some _ => simp [evOp] at h
    | none =>
      simp only [evOp] at h
      cases h
      refine ⟨_, .map #[] 0, 0, fun k => .map (some k), fun b => .map (some b), rfl, rfl, .map rfl .nil, ?_, fun ρ' k b hb => .base (.map hb), fun H2 => rfl⟩
      intro w
      simp [execOp, Instr.makeMap]
  case makeChan t s =>
    have hs : TV ρ (env s) (cenv s) := he s (by simp [Op.operands])
    simp only [evOp] at h
    split at h
    · rename_i dir e k n hu hsv
      split at h
      · rename_i i hi
        split at h
        · rename_i hc
          cases h
          have hcs : cenv s = .int k n := by rw [hsv] at hs; exact hs.int_inv
          refine ⟨_, .chan n.toNat #[] false 0 0 false, 0, fun k => .chan (some k), fun b => .chan (some b), rfl, rfl, .chan rfl .nil, ?_, fun ρ' k b hb => .base (.chan hb), ?_⟩
          · intro w
            have h1 : ¬ (n < 0 ∨ n > IntKind.i64.max ∨ (i.bytes : Int) * n > 2 ^ 48 - 112) := by
              have h4 : (i.bytes : Int) * n ≤ 4096 * 4096 := by
                have ha : (0 : Int) ≤ n := hc.1
                have hb : n ≤ 4096 := hc.2.1
                have hd : (i.bytes : Int) ≤ 4096 := by have := hc.2.2; omega
                calc (i.bytes : Int) * n ≤ 4096 * n := Int.mul_le_mul_of_nonneg_right hd ha
                  _ ≤ 4096 * 4096 := Int.mul_le_mul_of_nonneg_left hb (by decide)
              have h5 : IntKind.i64.max = 9223372036854775807 := rfl
              rw [h5]
              omega
            simp only [execOp, Instr.makeChan, hcs, asInt, asIntOf, Sem.run_bind, Sem.run_pure, Result.andThen_ok, rU hT hu, rI hT hi]
            rw [if_neg h1]
            simp only [Sem.run_bind, Sem.run_pure, run_newObj_alloc, Result.andThen_ok]
          · intro H2
            simp only [evOp, hu, hsv, hi, hc, and_self, if_true]
        · cases h
      · cases h
    · cases h
  case makeSlice t l c =>
    have hl : TV ρ (env l) (cenv l) := he l (by simp [Op.operands])
    have hcc : TV ρ (env c) (cenv c) := he c (by simp [Op.operands])
    simp only [evOp] at h
    split at h
    · rename_i e k1 n1 k2 n2 hu hlv hcv
      split at h
      · rename_i i z hi hz
        split at h
        · rename_i hc
          cases h
          have e1 : cenv l = .int k1 n1 := by rw [hlv] at hl; exact hl.int_inv
          have e2 : cenv c = .int k2 n2 := by rw [hcv] at hcc; exact hcc.int_inv
          obtain ⟨zv, hz1, hz2, hz3⟩ := rZ hT hz default
          have hz1' : ∀ w, (zeroValue e).run P w = .ok zv w := fun w => by
            unfold zeroT at hz
            split at hz
            · rename_i i hi
              split at hz
              · rename_i z0 hz0
                have e1 := rZi hT hi hz0 default
                rw [hz1] at e1; cases e1
                exact rZi hT hi hz0 w
              · cases hz
            · cases hz
          have hzs : zv.cells.size = i.size := by have := hc.2.2.2.2; rw [← hz2] at this; simpa using this
          have w1 : IntKind.i64.wrap n1 = n1 := IntWalk.i64_in n1 (by omega)
          have w2 : IntKind.i64.wrap n2 = n2 := IntWalk.i64_in n2 (by omega)
          have hb : ¬ ((i.bytes : Int) * n2 > 2 ^ 48) := by
            have := hc.2.2.2.1
            unfold mostBytes at this
            have : ((i.bytes : Int) * n2) ≤ ((2 ^ 46 : Nat) : Int) := by exact_mod_cast this
            omega
          refine ⟨_, .cells (repeatL n2.toNat z).toArray e, (repeatL n2.toNat z).length,
            fun k => .slice (some ⟨k, 0, none⟩) n1.toNat (2 * n2.toNat + 1), fun b => .slice (some ⟨b, 0, none⟩) n1.toNat n2.toNat, rfl, rfl, ?_, ?_, ?_, ?_⟩
          · exact OR.row (ρ := ρ) (all2_closed (repeat_all2 hz3 n2.toNat)) e
          · intro w
            have t1 : ((n2 < 0 || decide ((i.bytes : Int) * n2 > 2 ^ 48)) || decide (n1 < 0) || decide (n1 > n2)) = false := by
              simp only [Bool.or_eq_false_iff, decide_eq_false_iff_not]
              exact ⟨⟨⟨by omega, hb⟩, by omega⟩, by omega⟩
            simp only [execOp, Instr.makeSlice, e1, e2, asInt, asIntOf, Sem.run_bind, Sem.run_pure, Result.andThen_ok, rU hT hu, rI hT hi, w1, w2, t1, Bool.false_eq_true, if_false, run_askRoom, rSi hT hi]
            by_cases h0 : n2.toNat * i.size = 0
            · have hr0 : repeatL n2.toNat z = [] := by
                apply List.length_eq_zero_iff.1
                rw [length_repeatL, hc.2.2.2.2, h0]
              rw [if_pos h0, h0]
              simp only [Sem.run_pure, Result.andThen_ok, arr0, hr0, newRow, Sem.run_bind, run_newObj_alloc]
            · have hpos : 0 < zv.cells.size := by
                rcases Nat.eq_zero_or_pos zv.cells.size with hp | hp
                · rw [hzs] at hp; rw [hp] at h0; simp at h0
                · exact hp
              have harr : (Array.range (n2.toNat * i.size)).map (fun i => zv.cells[i % zv.cells.size]!) = (repeatL n2.toNat z).toArray := by
                apply Array.toList_inj.1
                rw [← hzs, range_repeat zv.cells hpos, hz2]
              rw [if_neg h0]
              simp only [Sem.run_bind, hz1', Sem.run_pure, Result.andThen_ok]
              rw [harr]
              simp only [newRow, Sem.run_bind, run_newObj_alloc, Result.andThen_ok, Sem.run_pure]
          · intro ρ' k b hb
            exact TV.slice_mk hb ⟨by omega, fun _ => rfl, fun h => by omega⟩ (Nat.zero_le _) (.inl rfl)
          · intro H2
            simp only [evOp, hu, hlv, hcv, hi, hz, hc, and_self, if_true]
        · cases h
      · cases h
    · cases h

end
end Go.Ev
