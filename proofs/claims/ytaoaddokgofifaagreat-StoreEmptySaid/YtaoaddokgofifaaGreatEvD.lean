/- Each operation of the evaluator is answered so by the model: slices, aggregates, numbers, maps' reading. -/
import Derived.Test.YtaoaddokgofifaaGreatEvC
namespace Go.Ev
open Go.RowKit
section
variable {P : Program} {T : TT} {ρ : Inj} {H : AH} {w : World}

theorem bounds_more {len cap cap' : Nat} {lo hi mx : Option Value} {l h m : Nat} (hb : bounds len cap lo hi mx = some (l, h, m)) (hle : cap ≤ cap') :
    bounds len cap' lo hi mx = some (l, h, if mx.isSome then m else cap') := by
  have up : ∀ {v : Value} {a b k : Nat}, bound v a = some k → a ≤ b → bound v b = some k := fun {v a b k} h1 h2 => by
    unfold bound at *
    cases v with
    | int kk i =>
      simp only at h1 ⊢
      split at h1
      · rename_i hc
        rw [if_pos ⟨hc.1, by omega⟩]; exact h1
      · cases h1
    | _ => cases h1
  unfold bounds at hb ⊢
  cases mx with
  | none =>
    simp only at hb ⊢
    cases hi with
    | none =>
      simp only [Option.isSome_none, Bool.false_eq_true, if_false] at hb ⊢
      cases lo with
      | none => simp only [Option.some.injEq, Prod.mk.injEq] at hb ⊢; exact ⟨hb.1, hb.2.1, trivial⟩
      | some v =>
        simp only at hb ⊢
        cases hv : bound v len with
        | none => rw [hv] at hb; cases hb
        | some k => rw [hv] at hb; simp only [Option.some.injEq, Prod.mk.injEq] at hb ⊢; exact ⟨hb.1, hb.2.1, trivial⟩
    | some u =>
      simp only [Option.isSome_none, Bool.false_eq_true, if_false] at hb ⊢
      cases hu : bound u cap with
      | none => rw [hu] at hb; cases hb
      | some k =>
        rw [hu] at hb; rw [up hu hle]
        simp only at hb ⊢
        cases lo with
        | none => simp only [Option.some.injEq, Prod.mk.injEq] at hb ⊢; exact ⟨hb.1, hb.2.1, trivial⟩
        | some v =>
          simp only at hb ⊢
          cases hv : bound v k with
          | none => rw [hv] at hb; cases hb
          | some k => rw [hv] at hb; simp only [Option.some.injEq, Prod.mk.injEq] at hb ⊢; exact ⟨hb.1, hb.2.1, trivial⟩
  | some x =>
    simp only at hb ⊢
    cases hx : bound x cap with
    | none => rw [hx] at hb; cases hb
    | some k =>
      rw [hx] at hb; rw [up hx hle]
      simp only [Option.isSome_some, if_true] at hb ⊢
      rw [hb]

theorem bounds_no_hi (len cap : Nat) (lo : Option Value) (q : Value) : bounds len cap lo none (some q) = none := by
  unfold bounds
  cases h : bound q cap <;> simp [h]

theorem addOpt (m l b o n : Nat) : (if m = l then (some ⟨b, o, none⟩ : Option Addr) else (some ⟨b, o, none⟩ : Option Addr).map (·.add n)) = some ⟨b, if m = l then o else o + n, none⟩ := by
  split <;> simp [Addr.add_mk]

theorem sliceV_sim (hT : T.Ok P) {t : TypeId} {x cx : Value} {lo hi mx clo chi cmx : Option Value} {v : Value} (hx : TV ρ x cx) (hlo : OV ρ lo clo) (hhi : OV ρ hi chi) (hmx : OV ρ mx cmx)
    (h : sliceV T t x lo hi mx = some v) (w : World) : ∃ cv, (Instr.sliceAt t cx clo chi cmx).run P w = .ok cv w ∧ TV ρ v cv := by
  unfold sliceV at h
  split at h
  · rename_i hu
    split at h
    · rename_i s
      obtain rfl := hx.string_inv
      split at h
      · rename_i l h' m hb
        cases h
        cases hmx
        obtain ⟨h1, _⟩ := bounds_sim (P := P) hlo hhi .none hb false w
        exact ⟨_, by simp [Instr.sliceAt, rU hT hu, Instr.slice, h1], .base (.string _)⟩
      · cases h
    · cases h
  · rename_i e hu
    split at h
    · rename_i sz hs
      split at h
      · rename_i n c
        split at h
        · rename_i hn
          subst hn
          split at h
          · rename_i r hb
            cases h
            obtain ⟨rfl, _⟩ := hx.nilSlice_inv
            obtain ⟨l, h', m⟩ := r
            obtain ⟨h1, h2, h3, h4, h5, h6⟩ := bounds_sim (P := P) hlo hhi hmx hb true w
            have e1 : h' = 0 := by
              cases hi with
              | none => exact h4 rfl
              | some a => have := h6 (by simp); omega
            have e2 : m = 0 := by omega
            have e3 : l = 0 := by omega
            subst e1 e2 e3
            exact ⟨.slice none 0 0, by simp [Instr.sliceAt, rU hT hu, Instr.slice, h1, rS hT hs], .base .nilSlice⟩
          · cases h
        · cases h
      · rename_i b o n c
        obtain ⟨p, o', c', rfl, hp, hcap, hd, ho⟩ := hx.slice_inv
        have fin : ∀ {l h' m : Nat}, l ≤ h' → h' ≤ m → m ≤ c' → o' = p.d + o ∨ m = 0 →
            TV ρ (.slice (some ⟨b, if m = l then o else o + l * sz, none⟩) (h' - l) (2 * (m - l) + 1)) (.slice (some ⟨p.b, if m = l then o' else o' + l * sz, none⟩) (h' - l) (m - l)) := by
          intro l h' m h1 h2 h3 h4
          refine TV.slice_mk hp ⟨by omega, fun _ => rfl, fun h => by omega⟩ (by split <;> omega) ?_
          rcases h4 with h4 | h4
          · left; split <;> omega
          · right; exact ⟨by omega, fun _ => by omega⟩
        split at h
        · rename_i hodd
          have hc := hcap.2.1 hodd
          have hc2 : c / 2 = c' := by omega
          rw [hc2] at h
          split at h
          · rename_i l h' m hb
            cases h
            obtain ⟨h1, h2, h3, h4, h5, h6⟩ := bounds_sim (P := P) hlo hhi hmx hb true w
            have hhm : h' ≤ m := by
              cases hi with
              | some a => exact h6 (by simp)
              | none =>
                cases mx with
                | none => rw [h4 rfl, h5 rfl]; exact hcap.1
                | some q => rw [bounds_no_hi] at hb; cases hb
            refine ⟨_, ?_, fin h2 hhm h3 (ho.imp id fun hh => by have := hh.2 hodd; omega)⟩
            simp only [Instr.sliceAt, Instr.slice, Sem.run_bind, rU hT hu, Result.andThen_ok, h1, rS hT hs, addOpt, Sem.run_pure]
          · cases h
        · rename_i hodd
          split at h
          · rename_i hcsz
            split at h
            · rename_i l h' m hb
              have hb2 := bounds_more hb hcap.1
              obtain ⟨h1, h2, h3, h4, h5, h6⟩ := bounds_sim (P := P) hlo hhi hmx hb2 true w
              obtain ⟨_, _, g3, g4, g5, g6⟩ := bounds_sim (P := P) hlo hhi hmx hb true w
              have hn : h' ≤ n := by
                cases hi with
                | none => exact Nat.le_of_eq (h4 rfl)
                | some a => exact Nat.le_trans (g6 (by simp)) g3
              split at h
              · rename_i hsome
                cases h
                simp only [hsome, if_true] at h1
                have hhm : h' ≤ m := by
                  cases hi with
                  | some a => exact g6 (by simp)
                  | none =>
                    cases mx with
                    | none => cases hsome
                    | some q => rw [bounds_no_hi] at hb; cases hb
                refine ⟨_, ?_, fin h2 hhm (Nat.le_trans g3 hcap.1) (ho.imp id fun hh => by omega)⟩
                simp only [Instr.sliceAt, Instr.slice, Sem.run_bind, rU hT hu, Result.andThen_ok, h1, rS hT hs, addOpt, Sem.run_pure]
              · rename_i hnone
                cases h
                have hnone' : mx.isSome = false := by simpa using hnone
                simp only [hnone', Bool.false_eq_true, if_false] at h1
                refine ⟨.slice (some ⟨p.b, if c' = l then o' else o' + l * sz, none⟩) (h' - l) (c' - l), ?_, ?_⟩
                · simp only [Instr.sliceAt, Instr.slice, Sem.run_bind, rU hT hu, Result.andThen_ok, h1, rS hT hs, addOpt, Sem.run_pure]
                · have hc := hcap.1
                  have hL := hcap.2.2 (by omega)
                  have hdiv : c / 2 = sz := by omega
                  rw [hdiv] at hL
                  have hLs : (if c' = l then o' else o' + l * sz) + (c' - l) * sz ≤ p.L := by
                    split
                    · rename_i e
                      subst e
                      simp only [Nat.sub_self, Nat.zero_mul, Nat.add_zero]
                      have : 0 ≤ c' * sz := Nat.zero_le _
                      omega
                    · have hle : l ≤ c' := by omega
                      rw [Nat.sub_mul]
                      have : l * sz ≤ c' * sz := Nat.mul_le_mul_right _ hle
                      omega
                  refine TV.slice_mk hp ⟨by omega, fun h => by omega, fun _ => by rw [hdiv]; exact hLs⟩ (by split <;> omega) ?_
                  rcases ho with ho | ho
                  · by_cases hz : h' - l = 0
                    · right; exact ⟨hz, fun h => by omega⟩
                    · left
                      rw [if_neg (by omega), ho, Nat.add_assoc]
                  · right; exact ⟨by omega, fun h => by omega⟩
            · cases h
          · cases h
      · cases h
    · cases h
  · rename_i n e hu
    split at h
    · rename_i sz hs
      split at h
      · rename_i b o
        obtain ⟨p, rfl, hb'⟩ := hx.ptr_inv
        split at h
        · rename_i l h' m hb
          cases h
          obtain ⟨h1, h2, h3, h4, h5, h6⟩ := bounds_sim (P := P) hlo hhi hmx hb false w
          refine ⟨.slice (some ⟨p.b, if m = l then p.d + o else p.d + o + l * sz, none⟩) (h' - l) (m - l), ?_, ?_⟩
          · simp only [Instr.sliceAt, Instr.sureAddr, Sem.run_bind, rU hT hu, Result.andThen_ok, h1, rS hT hs, Sem.run_pure, Addr.add_mk]
            split <;> rfl
          · have hhm : h' ≤ m := by
              cases hi with
              | some a => exact h6 (by simp)
              | none =>
                cases mx with
                | none => rw [h4 rfl, h5 rfl]; exact Nat.le_refl _
                | some q => rw [bounds_no_hi] at hb; cases hb
            exact TV.slice_mk hb' ⟨by omega, fun _ => rfl, fun h => by omega⟩ (by split <;> omega) (.inl (by split <;> omega))
        · cases h
      · cases h
    · cases h
  · cases h

/-! ### aggregates that are built -/
theorem foldl_set (off : Nat) : ∀ (l : List Value) (k : Nat) (c : Array Value),
    ((l.zipIdx k).foldl (fun cs (p : Value × Nat) => cs.setIfInBounds (off + p.2) p.1) c).toList = setMany c.toList (off + k) l
  | [], _, _ => rfl
  | v :: l, k, c => by
    simp only [List.zipIdx_cons, List.foldl_cons, setMany]
    rw [foldl_set off l (k + 1)]
    simp [Nat.add_assoc]

theorem setMany_all2 : ∀ {vs vs' : List Value} {c c' : List Value} (o : Nat), All2 (SR ρ) c c' → All2 (SR ρ) vs vs' → All2 (SR ρ) (setMany c o vs) (setMany c' o vs')
  | _, _, _, _, _, hc, .nil => hc
  | _, _, _, _, o, hc, .cons hv hvs => setMany_all2 (o + 1) (hc.set hv o) hvs

inductive PR (ρ : Inj) : Nat × Value → Nat × Value → Prop where
  | mk {i : Nat} {v v' : Value} : TV ρ v v' → PR ρ (i, v) (i, v')

theorem fill_sim {place cplace : Nat → Option (Nat × Nat)} (hp : ∀ i p, place i = some p → cplace i = some p) : ∀ {ps cps : List (Nat × Value)} {z : List Value} {cz : Array Value} {c : List Value},
    All2 (PR ρ) ps cps → All2 (SR ρ) z cz.toList → fillV place ps z = some c → ∃ cc : Array Value, Instr.fill cplace cz cps = some cc ∧ All2 (SR ρ) c cc.toList
  | _, _, _, cz, _, .nil, hz, h => by
    simp only [fillV, Option.some.injEq] at h; subst h
    exact ⟨cz, rfl, hz⟩
  | _, _, z, cz, c, .cons (.mk (i := i) (v := v) (v' := v') hv) hvs, hz, h => by
    simp only [fillV] at h
    split at h
    · rename_i o n hpl
      split at h
      · rename_i hc
        have hcells := hv.cells hc.2.2
        have hl := hcells.length
        have hlz := hz.length
        simp only [Array.length_toList] at hl hlz
        have hz' : All2 (SR ρ) (setMany z o v.cells.toList) ((v'.cells.zipIdx.foldl (fun cs (c, j) => cs.setIfInBounds (o + j) c) cz)).toList := by
          have := foldl_set o v'.cells.toList 0 cz
          rw [Nat.add_zero] at this
          have e : (v'.cells.zipIdx.foldl (fun cs (c, j) => cs.setIfInBounds (o + j) c) cz) = ((v'.cells.toList.zipIdx 0).foldl (fun cs (p : Value × Nat) => cs.setIfInBounds (o + p.2) p.1) cz) := by
            rw [← Array.foldl_toList]
            simp
          rw [e, this]
          exact setMany_all2 o hz hcells
        obtain ⟨cc, h1, h2⟩ := fill_sim hp hvs hz' h
        refine ⟨cc, ?_, h2⟩
        simp only [Instr.fill, hp _ _ hpl]
        have e1 : v'.cells.size = n := by have := hc.1; simp only [Array.length_toList] at this; omega
        have e2 : ¬ (o + v'.cells.size > cz.size) := by have := hc.2.1; omega
        simp only [e1, ne_eq, not_true, decide_false, Bool.false_or, decide_eq_true_eq]
        rw [if_neg (by rw [e1] at e2; exact e2)]
        exact h1
      · cases h
    · cases h

theorem places_sim (hT : T.Ok P) (w : World) : ∀ (fs : List Field), fs.all (fun (f : Field) => (szT T f.type).isSome) = true →
    ∃ pl : List (Nat × Nat), (fs.mapM fun (f : Field) => (do pure (f.offset, ← sizeOf f.type) : Sem (Nat × Nat))).run P w = .ok pl w ∧
      ∀ (i : Nat) (p : Nat × Nat), fieldPl T fs.toArray i = some p → pl[i]? = some p
  | [], _ => ⟨[], by simp, fun i p h => by simp [fieldPl] at h⟩
  | f :: fs, h => by
    simp only [List.all_cons, Bool.and_eq_true] at h
    obtain ⟨pl, h1, h2⟩ := places_sim hT w fs h.2
    obtain ⟨n, hn⟩ := Option.isSome_iff_exists.1 h.1
    refine ⟨(f.offset, n) :: pl, ?_, ?_⟩
    · simp only [List.mapM_cons, Sem.run_bind, rS hT hn, Result.andThen_ok, Sem.run_pure, h1]
    · intro i p hp
      cases i with
      | zero => simpa [fieldPl, hn] using hp
      | succ i => simpa using h2 i p (by simpa [fieldPl] using hp)

theorem buildV_sim (hT : T.Ok P) {t : TypeId} {ps : List (Nat × Value)} {cps : Array (Nat × Value)} {v : Value} (hps : All2 (PR ρ) ps cps.toList) (h : buildV T t ps = some v) (w : World) :
    ∃ cv, (Instr.build t cps).run P w = .ok cv w ∧ VR ρ v cv := by
  unfold buildV at h
  split at h
  · rename_i z hz
    obtain ⟨zv, hz1, hz2, hz3⟩ := rZ hT hz w
    have hzz : All2 (SR ρ) z zv.cells.toList := by rw [hz2]; exact all2_closed hz3
    split at h
    · rename_i fs hu
      split at h
      · rename_i hall
        obtain ⟨pl, hp1, hp2⟩ := places_sim hT w fs.toList hall
        cases hf : fillV (fieldPl T fs) ps z with
        | none => rw [hf] at h; cases h
        | some c =>
          rw [hf] at h; cases h
          have hpl : ∀ i p, fieldPl T fs i = some p → (pl.toArray[i]? : Option (Nat × Nat)) = some p := fun i p hh => by
            have := hp2 i p (by simpa using hh)
            simpa using this
          obtain ⟨cc, h1, h2⟩ := fill_sim hpl hps hzz hf
          refine ⟨.agg cc, ?_, .agg (by simpa using h2)⟩
          have e : (fs.mapM fun (f : Field) => (do pure (f.offset, ← sizeOf f.type) : Sem (Nat × Nat))).run P w = .ok pl.toArray w := by
            rw [Array.mapM_eq_mapM_toList]
            simp only [Sem.run_map, hp1, Result.andThen_ok]
          simp only [Instr.build, Sem.run_bind, hz1, Result.andThen_ok, rU hT hu, e, h1, Sem.run_pure]
      · cases h
    · rename_i n e hu
      split at h
      · rename_i sz hs
        cases hf : fillV (fun i => some (i * sz, sz)) ps z with
        | none => rw [hf] at h; cases h
        | some c =>
          rw [hf] at h; cases h
          obtain ⟨cc, h1, h2⟩ := fill_sim (cplace := fun i => some (i * sz, sz)) (fun _ _ h => h) hps hzz hf
          refine ⟨.agg cc, ?_, .agg (by simpa using h2)⟩
          simp only [Instr.build, Sem.run_bind, hz1, Result.andThen_ok, rU hT hu, rS hT hs, h1, Sem.run_pure]
      · cases h
    · cases h
  · cases h

end
end Go.Ev
