/- Each operation of the evaluator is answered so by the model, in whatever world says the same: what only calculates, and what looks into cells. -/
import Derived.Test.YtaoaddokgofifaaGreatEvB
namespace Go.Ev
open Go.RowKit

theorem pureE_run {α : Type} {P : Program} : ∀ (s : Sem α) (a : α), pureE P s = some a → ∀ w, s.run P w = .ok a w
  | .pure b, a, h, w => by simp only [pureE, Option.some.injEq] at h; subst h; rfl
  | .program k, a, h, w => by simp only [pureE] at h; exact pureE_run (k P) a h w
  | .load .., _, h, _ => by cases h
  | .store .., _, h, _ => by cases h
  | .new .., _, h, _ => by cases h
  | .shape .., _, h, _ => by cases h
  | .freeze .., _, h, _ => by cases h
  | .frozen .., _, h, _ => by cases h
  | .getObj .., _, h, _ => by cases h
  | .setObj .., _, h, _ => by cases h
  | .choose .., _, h, _ => by cases h
  | .sys .., _, h, _ => by cases h
  | .mark .., _, h, _ => by cases h
  | .halt _, _, h, _ => by cases h

section
variable {P : Program} {T : TT}
theorem rU (hT : T.Ok P) {t : TypeId} {d : TypeDesc} (h : T.und t = some d) (w : World) : (underlying t).run P w = .ok d w := run_underlying (hT.und t d h) w
theorem rI (hT : T.Ok P) {t : TypeId} {i : TypeInfo} (h : T.inf t = some i) (w : World) : (typeInfo t).run P w = .ok i w := (by simp [typeInfo, hT.inf t i h])
theorem rS (hT : T.Ok P) {t : TypeId} {n : Nat} (h : szT T t = some n) (w : World) : (sizeOf t).run P w = .ok n w := by
  unfold szT at h
  split at h
  · rename_i i hi
    cases h
    simp [sizeOf, rI hT hi]
  · cases h
theorem rSi (hT : T.Ok P) {t : TypeId} {i : TypeInfo} (h : T.inf t = some i) (w : World) : (sizeOf t).run P w = .ok i.size w := by
  simp [sizeOf, rI hT h]
theorem rA (hT : T.Ok P) {t : TypeId} {b : Bool} (h : aggT T t = some b) (w : World) : (isAgg t).run P w = .ok b w := by
  unfold aggT at h
  split at h
  · rename_i f hf; cases h; simp [isAgg, rU hT hf]
  · rename_i n e hf; cases h; simp [isAgg, rU hT hf]
  · rename_i d h1 h2 hf
    cases h
    simp only [isAgg, Sem.run_bind, rU hT hf, Result.andThen_ok]
    cases d <;> first | rfl | exact absurd rfl (h1 _) | exact absurd rfl (h2 _ _)
  · cases h
theorem rZi (hT : T.Ok P) {t : TypeId} {i : TypeInfo} {z : Value} (h : T.inf t = some i) (hz : i.zero = some z) (w : World) : (zeroValue t).run P w = .ok z w := by
  simp [zeroValue, rI hT h, hz]
theorem rZ (hT : T.Ok P) {t : TypeId} {z : List Value} (h : zeroT T t = some z) (w : World) : ∃ zv : Value, (zeroValue t).run P w = .ok zv w ∧ zv.cells.toList = z ∧ z.all closed1 = true := by
  unfold zeroT at h
  split at h
  · rename_i i hi
    split at h
    · rename_i zv hz
      split at h
      · rename_i hc
        cases h
        exact ⟨zv, rZi hT hi hz w, rfl, hc⟩
      · cases h
    · cases h
  · cases h
end

section
variable {P : Program} {T : TT} {ρ : Inj} {H : AH} {w : World}

theorem TV.ptr_inv {b o : Nat} {a : Value} (h : TV ρ (.pointer (some ⟨b, o, none⟩)) a) : ∃ p : Pl, a = .pointer (some ⟨p.b, p.d + o, none⟩) ∧ ρ b = some p := by
  cases h with
  | val h => cases h with
    | one h => cases h with
      | base h => cases h with
        | ptr e => exact ⟨_, rfl, e⟩

theorem TV.int_inv {k : IntKind} {n : Int} {a : Value} (h : TV ρ (.int k n) a) : a = .int k n := (TV.flat h rfl).symm
theorem TV.bool_inv {b : Bool} {a : Value} (h : TV ρ (.bool b) a) : a = .bool b := (TV.flat h rfl).symm
theorem TV.string_inv {s : ByteArray} {a : Value} (h : TV ρ (.string s) a) : a = .string s := (TV.flat h rfl).symm
theorem TV.map_inv {r : Nat} {a : Value} (h : TV ρ (.map (some r)) a) : ∃ r', a = .map (some r') ∧ ρ r = some ⟨r', 0, 0⟩ := by
  cases h with
  | val h => cases h with
    | one h => cases h with
      | base h => cases h with
        | map e => exact ⟨_, rfl, e⟩
theorem TV.chan_inv {r : Nat} {a : Value} (h : TV ρ (.chan (some r)) a) : ∃ r', a = .chan (some r') ∧ ρ r = some ⟨r', 0, 0⟩ := by
  cases h with
  | val h => cases h with
    | one h => cases h with
      | base h => cases h with
        | chan e => exact ⟨_, rfl, e⟩
theorem TV.agg_inv {c : Array Value} {a : Value} (h : TV ρ (.agg c) a) : ∃ c', a = .agg c' ∧ All2 (SR ρ) c.toList c'.toList := by
  cases h with
  | val h => cases h with
    | one h => exact absurd (SR.one1 h).1 (by simp [one1])
    | agg h => exact ⟨_, rfl, h⟩
theorem TV.tuple_inv {c : Array Value} {a : Value} (h : TV ρ (.tuple c) a) : ∃ c', a = .tuple c' ∧ All2 (VR ρ) c.toList c'.toList := by
  cases h with
  | val h => cases h with
    | one h => exact absurd (SR.one1 h).1 (by simp [one1])
  | tuple h => exact ⟨_, rfl, h⟩
theorem TV.nilSlice_inv {n c : Nat} {a : Value} (h : TV ρ (.slice none n c) a) : a = .slice none 0 0 ∧ n = 0 := by
  cases h with
  | val h => cases h with
    | one h => cases h with
      | base h => cases h with
        | nilSlice => exact ⟨rfl, rfl⟩
theorem TV.slice_inv {b o n c : Nat} {a : Value} (h : TV ρ (.slice (some ⟨b, o, none⟩) n c) a) :
    ∃ (p : Pl) (o' c' : Nat), a = .slice (some ⟨p.b, o', none⟩) n c' ∧ ρ b = some p ∧ capR c n c' o' p.L ∧ p.d ≤ o' ∧ (o' = p.d + o ∨ n = 0 ∧ (c % 2 = 1 → c' = 0)) := by
  cases h with
  | val h => cases h with
    | one h => cases h with
      | base h => cases h with
        | slice e k => exact ⟨_, _, _, rfl, e, k, by omega, .inl rfl⟩
        | slice0 e k l m => exact ⟨_, _, _, rfl, e, l, k, .inr ⟨rfl, m⟩⟩

/-- A slice of the world that says what one of the evaluator says. -/
theorem TV.slice_mk {b o n c c' o' : Nat} {p : Pl} (hp : ρ b = some p) (hc : capR c n c' o' p.L) (hd : p.d ≤ o') (ho : o' = p.d + o ∨ n = 0 ∧ (c % 2 = 1 → c' = 0)) :
    TV ρ (.slice (some ⟨b, o, none⟩) n c) (.slice (some ⟨p.b, o', none⟩) n c') := by
  rcases ho with rfl | ⟨rfl, h0⟩
  · exact .val (.one (.base (.slice hp hc)))
  · exact .val (.one (.base (.slice0 hp hd hc h0)))

theorem TV.one {v v' : Value} (h : SR ρ v v') : TV ρ v v' := .val (.one h)
theorem TV.base {v v' : Value} (h : BR ρ v v') : TV ρ v v' := .val (.one (.base h))
theorem TV.int (k : IntKind) (n : Int) : TV ρ (.int k n) (.int k n) := .base (.int k n)
theorem TV.bool (b : Bool) : TV ρ (.bool b) (.bool b) := .base (.bool b)

/-! ### load, store -/
theorem loadV_sim (hT : T.Ok P) (hm : MR ρ H w) {t : TypeId} {a ca v : Value} (ha : TV ρ a ca) (h : loadV T H t a = some v) :
    ∃ cv, (Instr.loadAt t ca).run P w = .ok cv w ∧ VR ρ v cv := by
  unfold loadV at h
  split at h
  · rename_i b o
    obtain ⟨p, rfl, hb⟩ := ha.ptr_inv
    split at h
    · rename_i c e hg
      have hl : (Instr.loadAt t (.pointer (some ⟨p.b, p.d + o, none⟩))).run P w = (loadVar t ⟨p.b, p.d + o, none⟩).run P w := by
        simp [Instr.loadAt, Instr.sureAddr]
      rw [hl]
      split at h
      · rename_i hA
        split at h
        · rename_i n hn
          split at h
          · rename_i hlen
            cases h
            obtain ⟨arr, h1, h2⟩ := hm.row (P := P) hg hb hlen
            exact ⟨.agg arr.toArray, by simp [loadVar, rA hT hA, rS hT hn, h1], .of_cells_agg h2⟩
          · cases h
        · cases h
      · rename_i hA
        obtain ⟨v', h1, h2⟩ := hm.cell hg hb h
        exact ⟨v', by simp [loadVar, rA hT hA, h1], .one h2⟩
      · cases h
    · cases h
  · cases h

theorem storeV_sim (hT : T.Ok P) (hm : MR ρ H w) {t : TypeId} {a ca v cv : Value} (ha : TV ρ a ca) (hv : TV ρ v cv) {H' : AH} (h : storeV T H t a v = some H') :
    ∃ w', (Instr.storeAt t ca cv).run P w = .ok () w' ∧ Post ρ H w ρ H' w' := by
  unfold storeV at h
  split at h
  · rename_i b o
    obtain ⟨p, rfl, hb⟩ := ha.ptr_inv
    split at h
    · rename_i c e hg
      split at h
      · rename_i n hn
        split at h
        · rename_i hc
          obtain ⟨hlen, hfit, hone⟩ := hc
          cases h
          have hcells := hv.cells hone
          have hfit' : o + v.cells.toList.length ≤ c.length := by rw [hlen]; exact hfit
          obtain ⟨w', h1, h2⟩ := MR.storeCells (P := P) hm hg hb hfit' hcells
          refine ⟨w', ?_, h2⟩
          have hsz : cv.cells.size = n := by
            have := hcells.length
            simp only [Array.length_toList] at this hlen
            omega
          simp only [Instr.storeAt, Instr.sureAddr, Sem.run_bind, Sem.run_pure, Result.andThen_ok, storeVar, rS hT hn]
          simp only [hsz, ne_eq, not_true, if_false]
          simpa using h1
        · cases h
      · cases h
    · cases h
  · cases h

/-! ### parts of aggregates -/
theorem partV_sim (hT : T.Ok P) {t : TypeId} {c : List Value} {c' : Array Value} {o : Nat} {v : Value} (hc : All2 (SR ρ) c c'.toList) (h : partV T t c o = some v) (w : World) :
    ∃ cv, (part t c' o).run P w = .ok cv w ∧ VR ρ v cv := by
  unfold partV at h
  split at h
  · rename_i hA
    split at h
    · rename_i n hn
      split at h
      · rename_i hlen
        cases h
        refine ⟨.agg (c'.extract o (o + n)), by simp [part, rA hT hA, rS hT hn], .agg ?_⟩
        have h1 : (c'.extract o (o + n)).toList = (c'.toList.drop o).take n := by
          rw [Array.toList_extract, List.extract_eq_take_drop]
          simp
        rw [h1]
        simpa using (hc.drop o).take n
      · cases h
    · cases h
  · rename_i hA
    obtain ⟨v', h1, h2⟩ := hc.get o v h
    have h1' : c'[o]? = some v' := by simpa using h1
    exact ⟨v', by simp [part, rA hT hA, h1'], .one h2⟩
  · cases h

theorem fieldV_sim (hT : T.Ok P) {s : TypeId} {x cx : Value} {f : Nat} {v : Value} (hx : TV ρ x cx) (h : fieldV T s x f = some v) (w : World) :
    ∃ cv, (Instr.field s cx f).run P w = .ok cv w ∧ VR ρ v cv := by
  unfold fieldV at h
  split at h
  · rename_i cs fs hu
    obtain ⟨c', rfl, hc⟩ := hx.agg_inv
    split at h
    · rename_i fd hfd
      obtain ⟨cv, h1, h2⟩ := partV_sim hT hc h w
      exact ⟨cv, by simp [Instr.field, rU hT hu, hfd, asAgg, h1], h2⟩
    · cases h
  · cases h

theorem fieldAddrV_sim (hT : T.Ok P) {s : TypeId} {x cx : Value} {f : Nat} {v : Value} (hx : TV ρ x cx) (h : fieldAddrV T s x f = some v) (w : World) :
    ∃ cv, (Instr.fieldAt s cx f).run P w = .ok cv w ∧ TV ρ v cv := by
  unfold fieldAddrV at h
  split at h
  · rename_i b o fs hu
    obtain ⟨p, rfl, hb⟩ := hx.ptr_inv
    split at h
    · rename_i fd hfd
      split at h
      · rename_i n hn
        cases h
        refine ⟨.pointer (some ⟨p.b, p.d + (o + fd.offset), none⟩), ?_, .base (.ptr hb)⟩
        simp [Instr.fieldAt, rU hT hu, hfd, Instr.sureAddr, fieldPlace, rS hT hn, Addr.add_mk, Nat.add_assoc]
      · cases h
    · cases h
  · cases h

theorem indexAddrV_sim (hT : T.Ok P) {t : TypeId} {x cx i ci : Value} {v : Value} (hx : TV ρ x cx) (hi : TV ρ i ci) (h : indexAddrV T t x i = some v) (w : World) :
    ∃ cv, (Instr.indexAt t cx ci).run P w = .ok cv w ∧ TV ρ v cv := by
  unfold indexAddrV at h
  split at h
  · rename_i k n
    obtain rfl := hi.int_inv
    split at h
    · rename_i len e b o hu
      obtain ⟨p, rfl, hb⟩ := hx.ptr_inv
      split at h
      · rename_i hlt
        split at h
        · rename_i sz hs
          cases h
          refine ⟨.pointer (some ⟨p.b, p.d + (o + n.toNat * sz), none⟩), ?_, .base (.ptr hb)⟩
          simp [Instr.indexAt, asIntOf, rU hT hu, Instr.sureAddr, hlt.1, hlt.2, rS hT hs, Addr.add_mk, Nat.add_assoc]
        · cases h
      · cases h
    · rename_i e b o len c hu
      obtain ⟨p, o', c', rfl, hb, hcap, hd, ho⟩ := hx.slice_inv
      split at h
      · rename_i hlt
        split at h
        · rename_i sz hs
          cases h
          have ho' : o' = p.d + o := by
            rcases ho with ho | ho
            · exact ho
            · omega
          subst ho'
          refine ⟨.pointer (some ⟨p.b, p.d + (o + n.toNat * sz), none⟩), ?_, .base (.ptr hb)⟩
          simp [Instr.indexAt, asIntOf, rU hT hu, hlt.1, hlt.2, rS hT hs, Addr.add_mk, Nat.add_assoc]
        · cases h
      · cases h
    · cases h
  · cases h

theorem indexV_sim (hT : T.Ok P) {t : TypeId} {x cx i ci : Value} {v : Value} (hx : TV ρ x cx) (hi : TV ρ i ci) (h : indexV T t x i = some v) (w : World) :
    ∃ cv, (Instr.index t cx ci).run P w = .ok cv w ∧ TV ρ v cv := by
  unfold indexV at h
  split at h
  · rename_i k n
    obtain rfl := hi.int_inv
    split at h
    · rename_i len e cs hu
      obtain ⟨c', rfl, hc⟩ := hx.agg_inv
      split at h
      · rename_i hlt
        split at h
        · rename_i sz hs
          obtain ⟨cv, h1, h2⟩ := partV_sim hT hc h w
          exact ⟨cv, by simp [Instr.index, asIntOf, rU hT hu, hlt.1, hlt.2, rS hT hs, h1], .val h2⟩
        · cases h
      · cases h
    · rename_i s hu
      obtain rfl := hx.string_inv
      split at h
      · rename_i h0
        split at h
        · rename_i b hb
          cases h
          exact ⟨_, by simp [Instr.index, asIntOf, rU hT hu, h0, hb], .int _ _⟩
        · cases h
      · cases h
    · cases h
  · cases h

theorem arrayAtV_sim (hT : T.Ok P) {t : TypeId} {x cx v : Value} (hx : TV ρ x cx) (h : arrayAtV T t x = some v) (w : World) :
    ∃ cv, (Instr.arrayAt t cx).run P w = .ok cv w ∧ TV ρ v cv := by
  unfold arrayAtV at h
  split at h
  · rename_i n e b o len c hu
    obtain ⟨p, o', c', rfl, hb, hcap, hd, ho⟩ := hx.slice_inv
    split at h
    · rename_i hlt
      cases h
      have ho' : o' = p.d + o := by
        rcases ho with ho | ho
        · exact ho
        · omega
      subst ho'
      refine ⟨_, ?_, .base (.ptr hb)⟩
      have : ¬ len < n := by omega
      simp [Instr.arrayAt, rU hT hu, this]
    · cases h
  · cases h

/-! ### slices -/
theorem bound_sim {x cx : Value} {m k : Nat} (hx : TV ρ x cx) (h : bound x m = some k) (code : BoundsCode) (w : World) : (Instr.sliceBound cx m code).run P w = .ok k w ∧ k ≤ m := by
  unfold bound at h
  split at h
  · rename_i kk i
    obtain rfl := hx.int_inv
    split at h
    · rename_i hb
      cases h
      refine ⟨by simp [Instr.sliceBound, asIntOf, hb.1, hb.2], by omega⟩
    · cases h
  · cases h

theorem TVo.none_iff {x cx : Option Value} (h : match x, cx with | some a, some b => TV ρ a b | none, none => True | _, _ => False) : x.isSome = cx.isSome := by
  cases x <;> cases cx <;> simp_all

/-- The operands of a slice expression, laid side by side. -/
inductive OV (ρ : Inj) : Option Value → Option Value → Prop where
  | none : OV ρ none none
  | some {a b : Value} : TV ρ a b → OV ρ (some a) (some b)

theorem bounds_sim {len cap : Nat} {lo hi mx clo chi cmx : Option Value} {l h m : Nat} (hlo : OV ρ lo clo) (hhi : OV ρ hi chi) (hmx : OV ρ mx cmx)
    (hb : bounds len cap lo hi mx = some (l, h, m)) (s : Bool) (w : World) :
    (Instr.sliceBounds s len cap clo chi cmx).run P w = .ok (l, h, m) w ∧ l ≤ h ∧ m ≤ cap ∧ (hi = none → h = len) ∧ (mx = none → m = cap) ∧ (hi ≠ none → h ≤ m) := by
  unfold bounds at hb
  split at hb
  · rename_i m' hm'
    split at hb
    · rename_i h' hh'
      split at hb
      · rename_i l' hl'
        cases hb
        cases hmx with
        | none =>
          simp only [Option.some.injEq] at hm'
          subst hm'
          cases hhi with
          | none =>
            simp only [Option.isSome_none, Bool.false_eq_true, if_false, Option.some.injEq] at hh'
            subst hh'
            cases hlo with
            | none =>
              simp only [Option.some.injEq] at hl'
              subst hl'
              exact ⟨by simp [Instr.sliceBounds], by omega, Nat.le_refl _, fun _ => rfl, fun _ => rfl, fun h => absurd rfl h⟩
            | some h1 =>
              have := bound_sim (P := P) h1 hl' .sliceB w
              exact ⟨by simp [Instr.sliceBounds, this.1], this.2, Nat.le_refl _, fun _ => rfl, fun _ => rfl, fun h => absurd rfl h⟩
          | some h2 =>
            simp only [Option.isSome_none, Bool.false_eq_true, if_false] at hh'
            have e2 := bound_sim (P := P) h2 hh' (if s then .sliceAcap else .sliceAlen) w
            cases hlo with
            | none =>
              simp only [Option.some.injEq] at hl'
              subst hl'
              exact ⟨by simp [Instr.sliceBounds, e2.1], by omega, Nat.le_refl _, fun h => (by cases h), fun _ => rfl, fun _ => e2.2⟩
            | some h1 =>
              have := bound_sim (P := P) h1 hl' .sliceB w
              exact ⟨by simp [Instr.sliceBounds, e2.1, this.1], this.2, Nat.le_refl _, fun h => (by cases h), fun _ => rfl, fun _ => e2.2⟩
        | some h3 =>
          have e3 := bound_sim (P := P) h3 hm' (if s then .slice3Acap else .slice3Alen) w
          cases hhi with
          | none => simp at hh'
          | some h2 =>
            simp only [Option.isSome_some, if_true] at hh'
            have e2 := bound_sim (P := P) h2 hh' .slice3B w
            cases hlo with
            | none =>
              simp only [Option.some.injEq] at hl'
              subst hl'
              exact ⟨by simp [Instr.sliceBounds, e3.1, e2.1], by omega, e3.2, fun h => (by cases h), fun h => (by cases h), fun _ => e2.2⟩
            | some h1 =>
              have := bound_sim (P := P) h1 hl' .slice3C w
              exact ⟨by simp [Instr.sliceBounds, e3.1, e2.1, this.1], this.2, e3.2, fun h => (by cases h), fun h => (by cases h), fun _ => e2.2⟩
      · cases hb
    · cases hb
  · cases hb

end
end Go.Ev
