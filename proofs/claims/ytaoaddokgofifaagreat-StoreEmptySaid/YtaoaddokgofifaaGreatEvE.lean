/- Each operation of the evaluator is answered so by the model: comparisons and arithmetic, lengths, maps, tuples. -/
import Derived.Test.YtaoaddokgofifaaGreatEvD
namespace Go.Ev
open Go.RowKit
section
variable {P : Program} {T : TT} {ρ : Inj} {H : AH} {w : World}

/-! ### comparisons with nil, arithmetic -/
theorem TV.pointer_shape {b : Option Addr} {a : Value} (h : TV ρ (.pointer b) a) : ∃ b', a = .pointer b' ∧ b'.isNone = b.isNone := by
  cases h with
  | val h => cases h with
    | one h => cases h with
      | base h => cases h with
        | nilPtr => exact ⟨_, rfl, rfl⟩
        | ptr _ => exact ⟨_, rfl, rfl⟩
theorem TV.slice_shape {b : Option Addr} {n c : Nat} {a : Value} (h : TV ρ (.slice b n c) a) : ∃ b' c', a = .slice b' n c' ∧ b'.isNone = b.isNone := by
  cases h with
  | val h => cases h with
    | one h => cases h with
      | base h => cases h with
        | nilSlice => exact ⟨_, _, rfl, rfl⟩
        | slice _ _ => exact ⟨_, _, rfl, rfl⟩
        | slice0 _ _ _ => exact ⟨_, _, rfl, rfl⟩
theorem TV.map_shape {b : Option Nat} {a : Value} (h : TV ρ (.map b) a) : ∃ b', a = .map b' ∧ b'.isNone = b.isNone := by
  cases h with
  | val h => cases h with
    | one h => cases h with
      | base h => cases h with
        | nilMap => exact ⟨_, rfl, rfl⟩
        | map _ => exact ⟨_, rfl, rfl⟩
theorem TV.nilFunc_inv {a : Value} (h : TV ρ .nilFunc a) : a = .nilFunc := by
  cases h with
  | val h => cases h with
    | one h => cases h with
      | base h => cases h with
        | nilFunc => rfl
theorem TV.func_shape {f : Fn} {x c : Array Value} {a : Value} (h : TV ρ (.func f x c) a) : ∃ f' c', a = .func f' #[] c' ∧ x = #[] := by
  cases h with
  | val h => cases h with
    | one h => cases h with
      | base h => cases h
      | func _ => exact ⟨_, _, rfl, rfl⟩
      | yield _ => exact ⟨_, _, rfl, rfl⟩

theorem isNone_of {α : Type} {b b' : Option α} (h : b'.isNone = b.isNone) (hb : b = none) : b' = none := by
  subst hb; simpa using h

theorem equal_pointer (hT : T.Ok P) {t e : TypeId} (hu : T.und t = some (.pointer e)) {a b : Option Addr} (h : (a.isNone || b.isNone) = true) (w : World) :
    (Op.equal t (.pointer a) (.pointer b)).run P w = .ok (a.isNone && b.isNone) w := by
  obtain ⟨d, hd⟩ : ∃ d, Op.maxDepth = d + 1 := ⟨9999, rfl⟩
  unfold Op.equal
  rw [hd]
  cases a <;> cases b <;> first
    | (simp at h; done)
    | (simp only [Op.equalIn, Sem.run_bind, rU hT hu, Result.andThen_ok, Sem.run_pure]; rfl)
theorem equal_slice (hT : T.Ok P) {t e : TypeId} (hu : T.und t = some (.slice e)) {a b : Option Addr} {n c n' c' : Nat} (h : (a.isNone || b.isNone) = true) (w : World) :
    (Op.equal t (.slice a n c) (.slice b n' c')).run P w = .ok (a.isNone && b.isNone) w := by
  obtain ⟨d, hd⟩ : ∃ d, Op.maxDepth = d + 1 := ⟨9999, rfl⟩
  unfold Op.equal
  rw [hd]
  cases a <;> cases b <;> first
    | (simp at h; done)
    | (simp only [Op.equalIn, Sem.run_bind, rU hT hu, Result.andThen_ok, Sem.run_pure]; rfl)
theorem equal_map (hT : T.Ok P) {t k e : TypeId} (hu : T.und t = some (.map k e)) {a b : Option Nat} (h : (a.isNone || b.isNone) = true) (w : World) :
    (Op.equal t (.map a) (.map b)).run P w = .ok (a.isNone && b.isNone) w := by
  obtain ⟨d, hd⟩ : ∃ d, Op.maxDepth = d + 1 := ⟨9999, rfl⟩
  unfold Op.equal
  rw [hd]
  cases a <;> cases b <;> first
    | (simp at h; done)
    | (simp only [Op.equalIn, Sem.run_bind, rU hT hu, Result.andThen_ok, Sem.run_pure]; rfl)
theorem equal_func (hT : T.Ok P) {t : TypeId} {ps rs : Array TypeId} {vr : Bool} (hu : T.und t = some (.func ps rs vr)) (w : World) (f : Fn) (x c : Array Value) :
    (Op.equal t .nilFunc .nilFunc).run P w = .ok true w ∧ (Op.equal t .nilFunc (.func f x c)).run P w = .ok false w ∧ (Op.equal t (.func f x c) .nilFunc).run P w = .ok false w := by
  obtain ⟨d, hd⟩ : ∃ d, Op.maxDepth = d + 1 := ⟨9999, rfl⟩
  unfold Op.equal
  rw [hd]
  refine ⟨?_, ?_, ?_⟩ <;> (simp only [Op.equalIn, Sem.run_bind, rU hT hu, Result.andThen_ok, Sem.run_pure])

theorem nilBin (hT : T.Ok P) {t : TypeId} {d : TypeDesc} (hu : T.und t = some d) {x y cx cy : Value} (hx : TV ρ x cx) (hy : TV ρ y cy) (h1 : nilKind d x = true) (h2 : nilKind d y = true) {b : Bool}
    (h : nilEq x y = some b) (w : World) : (Op.equal t cx cy).run P w = .ok b w := by
  unfold nilEq at h
  split at h
  · obtain ⟨x', rfl, hx'⟩ := hx.pointer_shape
    obtain ⟨y', rfl, hy'⟩ := hy.pointer_shape
    split at h
    · rename_i hc
      cases h
      rw [← hx', ← hy'] at hc ⊢
      cases d <;> first | (exact equal_pointer hT hu hc w) | (exfalso; cases h1; done)
    · cases h
  · obtain ⟨x', cx', rfl, hx'⟩ := hx.slice_shape
    obtain ⟨y', cy', rfl, hy'⟩ := hy.slice_shape
    split at h
    · rename_i hc
      cases h
      rw [← hx', ← hy'] at hc ⊢
      cases d <;> first | (exact equal_slice hT hu hc w) | (exfalso; cases h1; done)
    · cases h
  · obtain ⟨x', rfl, hx'⟩ := hx.map_shape
    obtain ⟨y', rfl, hy'⟩ := hy.map_shape
    split at h
    · rename_i hc
      cases h
      rw [← hx', ← hy'] at hc ⊢
      cases d <;> first | (exact equal_map hT hu hc w) | (exfalso; cases h1; done)
    · cases h
  · cases h
    obtain rfl := hx.nilFunc_inv
    obtain rfl := hy.nilFunc_inv
    cases d <;> first | (exact (equal_func hT hu w (.func 0) #[] #[]).1) | (exfalso; cases h1; done)
  · cases h
    obtain rfl := hx.nilFunc_inv
    obtain ⟨f', c', rfl, _⟩ := hy.func_shape
    cases d <;> first | (exact (equal_func hT hu w f' #[] c').2.1) | (exfalso; cases h1; done)
  · cases h
    obtain ⟨f', c', rfl, _⟩ := hx.func_shape
    obtain rfl := hy.nilFunc_inv
    cases d <;> first | (exact (equal_func hT hu w f' #[] c').2.2) | (exfalso; cases h1; done)
  · cases h

theorem nilKind_shape {d : TypeDesc} {x cx : Value} (hx : TV ρ x cx) (h : nilKind d x = true) : nilKind d cx = true := by
  cases x <;> cases d <;> simp [nilKind] at h
  · obtain ⟨_, rfl, _⟩ := hx.pointer_shape; rfl
  · obtain ⟨_, _, rfl, _⟩ := hx.slice_shape; rfl
  · obtain ⟨_, rfl, _⟩ := hx.map_shape; rfl
  · obtain ⟨_, _, rfl, _⟩ := hx.func_shape; rfl
  · obtain rfl := hx.nilFunc_inv; rfl

theorem eqGuard_nil {d : TypeDesc} {op : BinOp} {t : TypeId} {xo yo : Operand} {x y : Value} (h : nilKind d x = true) (w : World) : (eqGuard op t xo yo x y).run P w = .ok () w := by
  unfold eqGuard
  cases x <;> cases d <;> simp [nilKind] at h <;> (cases op <;> simp <;> (cases y <;> rfl))

theorem binOp_eql_nil {d : TypeDesc} {t : TypeId} {x y : Value} (h : nilKind d x = true) (h' : nilKind d y = true) : binOp .eql t x y = (do pure (.bool (← Op.equal t x y))) := by
  cases x <;> cases d <;> simp [nilKind] at h <;> cases y <;> simp [nilKind] at h' <;> rfl
theorem binOp_neq_nil {d : TypeDesc} {t : TypeId} {x y : Value} (h : nilKind d x = true) (h' : nilKind d y = true) : binOp .neq t x y = (do pure (.bool (!(← Op.equal t x y)))) := by
  cases x <;> cases d <;> simp [nilKind] at h <;> cases y <;> simp [nilKind] at h' <;> rfl

theorem binV_sim (hT : T.Ok P) {op : BinOp} {t : TypeId} {xo yo : Operand} {x y cx cy v : Value} (hx : TV ρ x cx) (hy : TV ρ y cy) (h : binV P T op t xo yo x y = some v) (w : World) :
    ∃ cv, (do eqGuard op t xo yo cx cy; binOp op t cx cy : Sem Value).run P w = .ok cv w ∧ TV ρ v cv := by
  unfold binV at h
  split at h
  · rename_i hf
    simp only [Bool.and_eq_true] at hf
    obtain rfl := hx.flat hf.1
    obtain rfl := hy.flat hf.2
    split at h
    · rename_i v' hv
      split at h
      · rename_i hfl
        cases h
        refine ⟨v, pureE_run _ _ hv w, .one ?_⟩
        unfold flat1 at hfl
        split at hfl <;> first | exact .base (.bool _) | exact .base (.int _ _) | exact .base (.string _) | cases hfl
      · cases h
    · cases h
  · split at h
    · rename_i d hu
      split at h
      · rename_i hk
        simp only [Bool.and_eq_true] at hk
        have kx := nilKind_shape hx hk.1
        have ky := nilKind_shape hy hk.2
        split at h
        · rename_i b hb
          cases h
          refine ⟨.bool b, ?_, .bool b⟩
          simp only [Sem.run_bind, eqGuard_nil kx, Result.andThen_ok, binOp_eql_nil kx ky, nilBin hT hu hx hy hk.1 hk.2 hb, Sem.run_pure]
        · rename_i b hb
          cases h
          refine ⟨.bool (!b), ?_, .bool _⟩
          simp only [Sem.run_bind, eqGuard_nil kx, Result.andThen_ok, binOp_neq_nil kx ky, nilBin hT hu hx hy hk.1 hk.2 hb, Sem.run_pure]
        · cases h
      · cases h
    · cases h

theorem SR.of_flat1 {v : Value} (h : Ev.flat1 v = true) : SR ρ v v := by
  unfold Ev.flat1 at h
  split at h <;> first | exact .base (.bool _) | exact .base (.int _ _) | exact .base (.string _) | cases h

theorem unV_sim {op : UnOp} {x cx v : Value} (hx : TV ρ x cx) (h : unV P op x = some v) (w : World) : ∃ cv, (Op.unary op cx).run P w = .ok cv w ∧ TV ρ v cv := by
  unfold unV at h
  split at h
  · rename_i hf
    have hf' : flatV x = true := by
      cases x <;> first | exact hf | cases hf
    obtain rfl := hx.flat hf'
    split at h
    · rename_i v' hv
      split at h
      · rename_i hfl
        cases h
        exact ⟨v, pureE_run _ _ hv w, .one (SR.of_flat1 hfl)⟩
      · cases h
    · cases h
  · cases h

/-! ### min, max -/
theorem max2V_run {x y v : Value} (h : max2V x y = some v) (w : World) : (Builtin.max2 x y).run P w = .ok v w ∧ flat1 v = true := by
  unfold max2V at h
  split at h
  · split at h
    · cases h; exact ⟨rfl, rfl⟩
    · cases h
  · cases h
theorem min2V_run {x y v : Value} (h : min2V x y = some v) (w : World) : (Builtin.min2 x y).run P w = .ok v w ∧ flat1 v = true := by
  unfold min2V at h
  split at h
  · split at h
    · cases h; exact ⟨rfl, rfl⟩
    · cases h
  · cases h

theorem max2V_flat {x y v : Value} (h : max2V x y = some v) : flatV x = true ∧ flatV y = true := by
  unfold max2V at h
  split at h
  · exact ⟨rfl, rfl⟩
  · cases h
theorem min2V_flat {x y v : Value} (h : min2V x y = some v) : flatV x = true ∧ flatV y = true := by
  unfold min2V at h
  split at h
  · exact ⟨rfl, rfl⟩
  · cases h

theorem foldV_sim {f : Value → Value → Option Value} {g : Value → Value → Sem Value} (hfl : ∀ x y v, f x y = some v → flatV x = true ∧ flatV y = true)
    (hrun : ∀ x y v, f x y = some v → ∀ w, (g x y).run P w = .ok v w ∧ flat1 v = true) (w : World) : ∀ {l cl : List Value} {x v : Value}, All2 (TV ρ) l cl → (l ≠ [] ∨ flat1 x = true) → foldV f x l = some v →
    (cl.foldlM g x).run P w = .ok v w ∧ flat1 v = true
  | _, _, x, v, .nil, hx, h => by
    simp only [foldV, Option.some.injEq] at h; subst h
    exact ⟨by simp, hx.resolve_left (by simp)⟩
  | _, _, x, v, .cons (a := y) (b := cy) (l := l) (r := cl) hy hr, _, h => by
    simp only [foldV] at h
    split at h
    · rename_i z hz
      obtain rfl := hy.flat (hfl _ _ _ hz).2
      obtain ⟨h1, h2⟩ := hrun _ _ _ hz w
      obtain ⟨h3, h4⟩ := foldV_sim hfl hrun w hr (.inr h2) h
      exact ⟨by simp only [List.foldlM_cons, Sem.run_bind, h1, Result.andThen_ok, h3], h4⟩
    · cases h

theorem foldV_head_flat {f : Value → Value → Option Value} (hfl : ∀ x y v, f x y = some v → flatV x = true ∧ flatV y = true) {x y v : Value} {r : List Value} (h : foldV f x (y :: r) = some v) : flatV x = true := by
  simp only [foldV] at h
  split at h
  · rename_i z hz; exact (hfl _ _ _ hz).1
  · cases h

theorem maxV_sim {ts : Array TypeId} {ty : TypeId} {args : List Value} {cargs : Array Value} {v : Value} (ha : All2 (TV ρ) args cargs.toList) (h : manyV max2V args = some v) (w : World) :
    (Builtin.max_ ts ty cargs).run P w = .ok v w ∧ TV ρ v v := by
  unfold manyV at h
  split at h
  · rename_i x y r
    unfold Builtin.max_
    generalize cargs.toList = l at ha
    cases ha with
    | cons hx hr =>
      obtain rfl := hx.flat (foldV_head_flat (fun _ _ _ => max2V_flat) h)
      obtain ⟨h1, h2⟩ := foldV_sim (P := P) (g := Builtin.max2) (fun _ _ _ => max2V_flat) (fun _ _ _ h w => max2V_run h w) w hr (.inl (by simp)) h
      exact ⟨h1, .one (SR.of_flat1 h2)⟩
  · cases h
theorem minV_sim {ts : Array TypeId} {ty : TypeId} {args : List Value} {cargs : Array Value} {v : Value} (ha : All2 (TV ρ) args cargs.toList) (h : manyV min2V args = some v) (w : World) :
    (Builtin.min_ ts ty cargs).run P w = .ok v w ∧ TV ρ v v := by
  unfold manyV at h
  split at h
  · rename_i x y r
    unfold Builtin.min_
    generalize cargs.toList = l at ha
    cases ha with
    | cons hx hr =>
      obtain rfl := hx.flat (foldV_head_flat (fun _ _ _ => min2V_flat) h)
      obtain ⟨h1, h2⟩ := foldV_sim (P := P) (g := Builtin.min2) (fun _ _ _ => min2V_flat) (fun _ _ _ h w => min2V_run h w) w hr (.inl (by simp)) h
      exact ⟨h1, .one (SR.of_flat1 h2)⟩
  · cases h

/-! ### objects -/
theorem MR.mapObj (hm : MR ρ H w) {r r' : Nat} {es : List MapEntry} {cl : Nat} (hg : H.get r = some (.map es cl)) (hr : ρ r = some ⟨r', 0, 0⟩) :
    ∃ es' : Array MapEntry, w.heap[r']? = some (.map es' cl) ∧ All2 (ER ρ) es es'.toList := by
  obtain ⟨O, hO, hR⟩ := hm.blk r _ _ hg hr
  cases hR with
  | map _ h => exact ⟨_, hO, h⟩
theorem MR.chanObj (hm : MR ρ H w) {r r' cap s rc : Nat} {buf : List Value} (hg : H.get r = some (.chan cap buf s rc)) (hr : ρ r = some ⟨r', 0, 0⟩) :
    ∃ buf' : Array Value, w.heap[r']? = some (.chan cap buf' false s rc false) ∧ All2 (VR ρ) buf buf'.toList := by
  obtain ⟨O, hO, hR⟩ := hm.blk r _ _ hg hr
  cases hR with
  | chan _ h => exact ⟨_, hO, h⟩
theorem MR.loopObj (hm : MR ρ H w) {r r' : Nat} {st : LoopState} {pend : Option Code} {t : List Value} {ps : Array Tmp} {a b : Code} (hg : H.get r = some (.loop st pend t ps a b)) (hr : ρ r = some ⟨r', 0, 0⟩) :
    ∃ (t' : Array Value) (fn : FuncId) (df : Nat), w.heap[r']? = some (.loop { state := st, pending := pend, fn := fn, tmps := t', params := ps, assign := a, body := b, defers := df }) ∧ All2 (TV ρ) t t'.toList ∧ codeOK a = true ∧ codeOK b = true := by
  obtain ⟨O, hO, hR⟩ := hm.blk r _ _ hg hr
  cases hR with
  | loop _ h h1 h2 => exact ⟨_, _, _, hO, h, h1, h2⟩

theorem getObj_run {o : Obj} {r : Nat} (h : w.heap[r]? = some o) (hc : ∀ c e fz, o ≠ .cells c e fz) : (getObj r).run P w = .ok o w := by
  cases o <;> first | exact absurd rfl (hc _ _ _) | simp [getObj, Sem.run, h]
theorem setObj_run {o : Obj} {r : Nat} (o' : Obj) (h : w.heap[r]? = some o) (hc : ∀ c e fz, o ≠ .cells c e fz) : (setObj r o').run P w = .ok () (w.putObj r o') := by
  cases o <;> first | exact absurd rfl (hc _ _ _) | simp [setObj, Sem.run, h, World.putObj]

/-- An object that is no row of cells is turned on both sides. -/
theorem Post.put (hm : MR ρ H w) {k b : Nat} {o o' : AObj} {O O' : Obj} (hg : H.get k = some o) (hk : ρ k = some ⟨b, 0, 0⟩) (hO : w.heap[b]? = some O) (ho : OR ρ 0 0 o' O') (hl : o.isLoop = true → o'.isLoop = true := by intro h; first | exact h | cases h)
    (hnc : ∀ c e, o ≠ .cells c e := by intro c e h; cases h) : Post ρ H w ρ (H.set k o') (w.putObj b O') :=
  Post.turn hm hg hk (by simp) (World.putObj_heap_same (Array.getElem?_eq_some_iff.1 hO).1) (fun _ hj => World.putObj_heap_other hj) ho hl (hout := fun c e h => absurd h (hnc c e))

theorem lenB_sim (hT : T.Ok P) (hm : MR ρ H w) {ts : Array TypeId} {ty : TypeId} {args : List Value} {cargs : Array Value} {v : Value} (ha : All2 (TV ρ) args cargs.toList) (h : lenB T ts args H = some v) :
    (Builtin.len_ ts ty cargs).run P w = .ok v w ∧ TV ρ v v := by
  unfold lenB at h
  split at h
  · rename_i t x ht
    obtain ⟨l⟩ := cargs
    simp only at ha
    cases ha with
    | cons hx hr =>
      cases hr
      rename_i cx
      split at h
      · rename_i s hu
        cases h
        obtain rfl := hx.string_inv
        exact ⟨by simp [Builtin.len_, ht, rU hT hu, goInt, nat1], .int _ _⟩
      · rename_i e a n c hu
        cases h
        obtain ⟨b', c', rfl, _⟩ := hx.slice_shape
        exact ⟨by simp [Builtin.len_, ht, rU hT hu, goInt, nat1], .int _ _⟩
      · rename_i n e _ hu
        cases h
        exact ⟨by simp [Builtin.len_, ht, rU hT hu, goInt, nat1], .int _ _⟩
      · rename_i k e hu
        cases h
        obtain ⟨b', rfl, hb⟩ := hx.map_shape
        obtain rfl := isNone_of hb rfl
        exact ⟨by simp [Builtin.len_, ht, rU hT hu, goInt, nat1], .int _ _⟩
      · rename_i k e r hu
        obtain ⟨r', rfl, hr'⟩ := hx.map_inv
        split at h
        · rename_i es cl hg
          cases h
          obtain ⟨es', h1, h2⟩ := hm.mapObj hg hr'
          have hl := h2.length
          simp only [Array.length_toList] at hl
          exact ⟨by simp [Builtin.len_, ht, rU hT hu, getObj_run h1 (by simp), goInt, nat1, hl], .int _ _⟩
        · cases h
      · rename_i k e r hu
        obtain ⟨r', rfl, hr'⟩ := hx.chan_inv
        split at h
        · rename_i cap buf s rc hg
          cases h
          obtain ⟨buf', h1, h2⟩ := hm.chanObj hg hr'
          have hl := h2.length
          simp only [Array.length_toList] at hl
          exact ⟨by simp [Builtin.len_, ht, rU hT hu, getObj_run h1 (by simp), goInt, nat1, hl], .int _ _⟩
        · cases h
      · cases h
  · cases h

/-! ### keys -/
theorem pureE_bind {α β : Type} (P : Program) : ∀ (s : Sem α) (f : α → Sem β), pureE P (s >>= f) = (pureE P s).bind fun a => pureE P (f a)
  | .pure _, _ => rfl
  | .program k, f => pureE_bind P (k P) f
  | .load .., _ => rfl
  | .store .., _ => rfl
  | .new .., _ => rfl
  | .shape .., _ => rfl
  | .freeze .., _ => rfl
  | .frozen .., _ => rfl
  | .getObj .., _ => rfl
  | .setObj .., _ => rfl
  | .choose .., _ => rfl
  | .sys .., _ => rfl
  | .mark .., _ => rfl
  | .halt _, _ => rfl

/-- What a search finds, on both sides. -/
inductive FR (es es' : List MapEntry) : Option (Nat × Value) → Option (Nat × Value) → Prop where
  | none : FR es es' none none
  | some {i : Nat} {e e' : MapEntry} : es[i]? = some e → es'[i]? = some e' → FR es es' (some (i, e.val)) (some (i, e'.val))

inductive FRn (n : Nat) (es es' : List MapEntry) : Option (Nat × Value) → Option (Nat × Value) → Prop where
  | none : FRn n es es' none none
  | some {i : Nat} {e e' : MapEntry} : es[i]? = some e → es'[i]? = some e' → FRn n es es' (some (n + i, e.val)) (some (n + i, e'.val))

theorem FRn.shift {n : Nat} {es es' : List MapEntry} {e e' : MapEntry} {r r' : Option (Nat × Value)} (h : FRn (n + 1) es es' r r') : FRn n (e :: es) (e' :: es') r r' := by
  cases h with
  | none => exact .none
  | some h1 h2 =>
    rename_i i x x'
    have := FRn.some (n := n) (es := e :: es) (es' := e' :: es') (i := i + 1) (e := x) (e' := x') (by simpa using h1) (by simpa using h2)
    rwa [show n + (i + 1) = n + 1 + i by omega] at this

theorem findNow_sim {kind : TypeDesc} {k : Value} : ∀ {es es' : List MapEntry} {n : Nat}, All2 (ER ρ) es es' →
    (Instr.findNow kind k es n = none ∧ Instr.findNow kind k es' n = none) ∨ ∃ r r', Instr.findNow kind k es n = some r ∧ Instr.findNow kind k es' n = some r' ∧ FRn n es es' r r'
  | _, _, n, .nil => .inr ⟨none, none, rfl, rfl, .none⟩
  | _, _, n, .cons (a := e) (b := e') he hr => by
    simp only [Instr.findNow, ← he.key]
    cases Instr.sameNow kind k e.key with
    | none => exact .inl ⟨rfl, rfl⟩
    | some b =>
      cases b with
      | true => exact .inr ⟨_, _, rfl, rfl, FRn.some (i := 0) rfl rfl⟩
      | false =>
        rcases findNow_sim (kind := kind) (k := k) (n := n + 1) hr with ⟨h1, h2⟩ | ⟨r, r', h1, h2, h3⟩
        · exact .inl ⟨h1, h2⟩
        · exact .inr ⟨r, r', h1, h2, h3.shift⟩

theorem findAsking_sim {kt : TypeId} {k : Value} : ∀ {es es' : List MapEntry} {n : Nat} {r : Option (Nat × Value)}, All2 (ER ρ) es es' → pureE P (Instr.findAsking kt k es n) = some r →
    ∃ r', pureE P (Instr.findAsking kt k es' n) = some r' ∧ FRn n es es' r r'
  | _, _, n, r, .nil, h => by
    simp only [Instr.findAsking] at h
    have : r = none := by simpa [pureE, pure] using h.symm
    subst this
    exact ⟨none, rfl, .none⟩
  | _, _, n, r, .cons (a := e) (b := e') (l := es) (r := es') he hr, h => by
    simp only [Instr.findAsking, pureE_bind] at h ⊢
    rw [← he.key]
    cases hq : pureE P (Op.equal kt k e.key) with
    | none => rw [hq] at h; cases h
    | some b =>
      rw [hq] at h
      simp only [Option.bind_some] at h ⊢
      cases b with
      | true =>
        simp only [if_true] at h ⊢
        have : r = some (n, e.val) := by simpa [pureE, pure] using h.symm
        subst this
        exact ⟨some (n, e'.val), rfl, FRn.some (i := 0) rfl rfl⟩
      | false =>
        simp only [Bool.false_eq_true, if_false] at h ⊢
        obtain ⟨r', h1, h2⟩ := findAsking_sim hr h
        exact ⟨r', h1, h2.shift⟩

theorem findV_sim {kt : TypeId} {empty : Bool} {k ck : Value} {es : List MapEntry} {es' : Array MapEntry} {r : Option (Nat × Value)} (hk : TV ρ k ck) (he : All2 (ER ρ) es es'.toList)
    (h : findV P kt empty k es = some r) : ck = k ∧ flatV k = true ∧ (∀ w, (Instr.checkKey empty 10000 kt k).run P w = .ok () w) ∧
      ∃ r', (∀ w, (Instr.findKey kt k es'.toList).run P w = .ok r' w) ∧ FR es es'.toList r r' := by
  unfold findV at h
  split at h
  · rename_i hf
    simp only [Bool.and_eq_true] at hf
    obtain rfl := hk.flat hf.1
    refine ⟨rfl, hf.1, ?_⟩
    simp only [pureE_bind] at h
    cases hc : pureE P (Instr.checkKey empty 10000 kt k) with
    | none => rw [hc] at h; cases h
    | some u =>
      rw [hc] at h
      refine ⟨fun w => pureE_run _ _ hc w, ?_⟩
      simp only [Option.bind_some, Instr.findKey, pureE_bind] at h
      cases hu : pureE P (underlying kt) with
      | none => rw [hu] at h; cases h
      | some d =>
        rw [hu] at h
        simp only [Option.bind_some] at h
        have key : ∃ r', pureE P (Instr.findKey kt k es'.toList) = some r' ∧ FRn 0 es es'.toList r r' := by
          simp only [Instr.findKey, pureE_bind, hu, Option.bind_some]
          rcases findNow_sim (kind := d) (k := k) (n := 0) he with ⟨h1, h2⟩ | ⟨r1, r1', h1, h2, h3⟩
          · rw [h1] at h; rw [h2]
            exact findAsking_sim he h
          · rw [h1] at h; rw [h2]
            have : r = r1 := by simpa [pureE, pure] using h.symm
            subst this
            exact ⟨r1', rfl, h3⟩
        obtain ⟨r', h1, h2⟩ := key
        refine ⟨r', fun w => pureE_run _ _ h1 w, ?_⟩
        cases h2 with
        | none => exact .none
        | some a b => rw [Nat.zero_add]; exact .some a b
  · cases h

theorem isEmpty_all2 {α β : Type} {R : α → β → Prop} {l : List α} {r : Array β} (h : All2 R l r.toList) : r.isEmpty = l.isEmpty := by
  obtain ⟨r⟩ := r
  cases h <;> rfl

theorem lookupV_sim (hT : T.Ok P) (hm : MR ρ H w) {t : TypeId} {m cm k ck v : Value} {ok : Bool} (hmm : TV ρ m cm) (hk : TV ρ k ck) (h : lookupV P T t m k ok H = some v) :
    ∃ cv, (Instr.lookup t cm ck ok).run P w = .ok cv w ∧ TV ρ v cv := by
  unfold lookupV at h
  split at h
  · rename_i kt et r hu
    obtain ⟨r', rfl, hr'⟩ := hmm.map_inv
    split at h
    · rename_i es cl hg
      obtain ⟨es', h1, h2⟩ := hm.mapObj hg hr'
      have hemp := isEmpty_all2 h2
      have fin : ∀ {v cv : Value}, VR ρ v cv → ∀ b, TV ρ (if ok = true then .tuple #[v, .bool b] else v) (if ok = true then .tuple #[cv, .bool b] else cv) := fun {v cv} hv b => by
        cases ok
        · exact .val hv
        · exact .tuple (.cons hv (.cons (.one (.base (.bool b))) .nil))
      have hobj := getObj_run (P := P) h1 (by simp)
      split at h
      · rename_i i v0 hfind
        cases h
        obtain ⟨rfl, _, hchk, rr, hrun, hfr⟩ := findV_sim hk h2 hfind
        cases hfr with
        | some ha hb =>
          rename_i e e'
          obtain ⟨e2, hb2, her⟩ := h2.get i e ha
          rw [hb] at hb2; cases hb2
          refine ⟨_, ?_, fin her.val true⟩
          simp [Instr.lookup, rU hT hu, hobj, hemp, hchk, hrun]
      · rename_i hfind
        split at h
        · rename_i ti hti
          split at h
          · rename_i z hz
            split at h
            · rename_i hcl
              cases h
              obtain ⟨rfl, _, hchk, rr, hrun, hfr⟩ := findV_sim hk h2 hfind
              cases hfr with
              | none =>
                refine ⟨_, ?_, fin (TV.closedV hcl) false⟩
                simp [Instr.lookup, rU hT hu, hobj, hemp, hchk, hrun, rZi hT hti hz]
            · cases h
          · cases h
        · cases h
      · cases h
    · cases h
  · cases h

end
end Go.Ev
