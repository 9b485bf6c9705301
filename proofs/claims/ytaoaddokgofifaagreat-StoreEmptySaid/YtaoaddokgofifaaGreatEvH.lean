/- Each operation of the evaluator is answered so by the model: append, copy; all operations together. -/
import Derived.Test.YtaoaddokgofifaaGreatEvG
namespace Go.Ev
open Go.RowKit
section
variable {P : Program} {T : TT} {ρ : Inj} {H : AH} {w : World}

theorem lenV_sim {x cx : Value} {n : Nat} (hx : TV ρ x cx) (h : lenV x = some n) (w : World) : (Builtin.lenOf cx).run P w = .ok n w := by
  unfold lenV at h
  split at h
  · split at h
    · rename_i h0; cases h
      obtain ⟨rfl, _⟩ := hx.nilSlice_inv
      rfl
    · cases h
  · cases h
    obtain ⟨b', c', rfl, _⟩ := hx.slice_shape
    rfl
  · cases h
    obtain rfl := hx.string_inv
    rfl
  · cases h

theorem source_sim (hm : MR ρ H w) {x cx : Value} {sz n m : Nat} {new : List Value} (hx : TV ρ x cx) (hl : lenV x = some m) (hn : n ≤ m) (h : sourceV H sz n x = some new) :
    ∃ arr : List Value, (Builtin.firstCells sz n cx).run P w = .ok arr.toArray w ∧ All2 (SR ρ) new arr := by
  unfold sourceV at h
  split at h
  · split at h
    · cases h
      obtain ⟨rfl, _⟩ := hx.nilSlice_inv
      exact ⟨[], rfl, .nil⟩
    · cases h
  · rename_i a len c
    have ha : ∃ b o, a = ⟨b, o, none⟩ := by
      unfold rowAt at h
      split at h
      · exact ⟨_, _, rfl⟩
      · cases h
    obtain ⟨b, o, rfl⟩ := ha
    simp only [lenV, Option.some.injEq] at hl
    subst hl
    obtain ⟨ad, c', arr, rfl, h1, h2⟩ := rowAt_sim (P := P) hm hx (by
      rcases Nat.eq_zero_or_pos len with h0 | h0
      · left; rw [show n = 0 by omega]; simp
      · right; exact h0) h
    exact ⟨arr, h1, h2⟩
  · rename_i s
    split at h
    · rename_i h1
      cases h
      obtain rfl := hx.string_inv
      refine ⟨_, by simp only [Builtin.firstCells, Sem.run_pure]; rw [← Array.toArray_toList (xs := Array.map _ _)], ?_⟩
      rw [Array.toList_map]
      exact All2.of_eq fun v hv => by
        obtain ⟨b, _, rfl⟩ := List.mem_map.1 hv
        exact SR.of_flat1 rfl
    · cases h
  · cases h

/-- There is room: the new cells go behind the old ones. -/
theorem append_room (hT : T.Ok P) {ts : Array TypeId} {st e xt : TypeId} (h0 : ts[0]? = some st) (hu : T.und st = some (.slice e)) {i : TypeInfo} (hi : T.inf e = some i) {xd : TypeDesc}
    (hxt : ts[1]? = some xt) (hxu : T.und xt = some xd) (hxd' : ∀ k, xd ≠ .int k) {ty : TypeId} {base : Option Addr} {sLen sCap n : Nat} {cx : Value} (hn : (Builtin.lenOf cx).run P w = .ok n w)
    (hfit : sLen + n ≤ sCap) {arr : List Value} (hsrc : (Builtin.firstCells i.size n cx).run P w = .ok arr.toArray w) {w' : World}
    (hst : match base with | some a => (storeCells (a.add (sLen * i.size)) arr 0).run P w = .ok () w' | none => w' = w) :
    (Builtin.append_ ts ty #[.slice base sLen sCap, cx]).run P w = .ok (.slice base (sLen + n) sCap) w' := by
  simp only [Builtin.append_, h0, Sem.run_bind, rU hT hu, Result.andThen_ok, rSi hT hi, hxt, rU hT hxu, List.getElem?_toArray, List.getElem?_cons_zero, List.getElem?_cons_succ, Sem.run_pure,
    Bool.false_eq_true, if_false, hn, Bool.not_false, if_true]
  rw [if_pos hfit]
  simp only [Sem.run_bind, hsrc, Result.andThen_ok]
  cases base with
  | none =>
    simp only at hst
    subst hst
    rfl
  | some a =>
    simp only at hst
    simp only [Sem.run_bind, hst, Result.andThen_ok, Sem.run_pure]

theorem growBy_le (need : Nat) : ∀ (k c : Nat), c ≤ 2 * need + 1024 → Builtin.growBy need k c ≤ 2 * need + 1024
  | 0, c, h => h
  | k + 1, c, h => by
    unfold Builtin.growBy
    split
    · exact h
    · exact growBy_le need k _ (by omega)

theorem nextslicecap_le {need cap : Nat} (h : cap < need) : Builtin.nextslicecap need cap ≤ 2 * need + 1024 := by
  unfold Builtin.nextslicecap
  split
  · omega
  · split
    · omega
    · exact growBy_le need 4 cap (by omega)

/-- There is none: a new row, of a capacity that the tape says. -/
theorem append_grow (hT : T.Ok P) {ts : Array TypeId} {st e xt : TypeId} (h0 : ts[0]? = some st) (hu : T.und st = some (.slice e)) {i : TypeInfo} (hi : T.inf e = some i) {xd : TypeDesc}
    (hxt : ts[1]? = some xt) (hxu : T.und xt = some xd) (hxd' : ∀ k, xd ≠ .int k) {ty : TypeId} {base : Option Addr} {sLen sCap n : Nat} {cx : Value} (hn : (Builtin.lenOf cx).run P w = .ok n w)
    (hfit : ¬ sLen + n ≤ sCap) (hsmall : (sLen + n) * 2 * (i.bytes + 1) + 1024 * (i.bytes + 1) ≤ mostBytes) {z : Value} (hz : i.zero = some z)
    {old new : List Value} (hold : (Builtin.firstCells i.size sLen (.slice base sLen sCap)).run P w.drew = .ok old.toArray w.drew)
    (hsrc : (Builtin.firstCells i.size n cx).run P w.drew = .ok new.toArray w.drew) :
    ∃ (cap : Nat) (rest : Array Value), sLen + n ≤ cap ∧ rest.size = (cap - (sLen + n)) * z.cells.size ∧
      (Builtin.append_ ts ty #[.slice base sLen sCap, cx]).run P w = .ok (.slice (some ⟨w.heap.size, 0, none⟩) (sLen + n) cap) (w.drew.alloc (.cells (old.toArray ++ new.toArray ++ rest) e)) := by
  have hch : (choose (.appendCap (sLen + n) sCap e)).run P w = .ok (sLen + n + w.tape w.drawn (.appendCap (sLen + n) sCap e) % (2 ^ 63 - (sLen + n))) w.drew := rfl
  generalize hcap : sLen + n + w.tape w.drawn (.appendCap (sLen + n) sCap e) % (2 ^ 63 - (sLen + n)) = cap at hch
  unfold mostBytes at hsmall
  have hb1 : ¬ (((sLen + n : Nat) : Int) > IntKind.i64.max ∧ (False ∨ i.bytes = 0)) := by
    intro hh
    have h5 : IntKind.i64.max = 9223372036854775807 := rfl
    rw [h5] at hh
    have : (sLen + n) * 2 * 1 ≤ (sLen + n) * 2 * (i.bytes + 1) := Nat.mul_le_mul_left _ (by omega)
    omega
  have hb2 : ¬ (Builtin.nextslicecap (sLen + n) sCap * i.bytes > 2 ^ 48) := by
    have h1 := nextslicecap_le (need := sLen + n) (cap := sCap) (by omega)
    have h2 : Builtin.nextslicecap (sLen + n) sCap * i.bytes ≤ (2 * (sLen + n) + 1024) * i.bytes := Nat.mul_le_mul_right _ h1
    have h3 : (2 * (sLen + n) + 1024) * i.bytes ≤ (sLen + n) * 2 * (i.bytes + 1) + 1024 * (i.bytes + 1) := by
      rw [Nat.add_mul, Nat.mul_comm 2]
      exact Nat.add_le_add (Nat.mul_le_mul_left _ (by omega)) (Nat.mul_le_mul_left _ (by omega))
    omega
  refine ⟨cap, Builtin.zeroCells z.cells (cap - (sLen + n)), by omega, by simp [Builtin.zeroCells], ?_⟩
  simp only [Builtin.append_, h0, Sem.run_bind, rU hT hu, Result.andThen_ok, rSi hT hi, hxt, rU hT hxu, List.getElem?_toArray, List.getElem?_cons_zero, List.getElem?_cons_succ, Sem.run_pure,
    Bool.false_eq_true, if_false, hn, Bool.not_false, if_true]
  rw [if_neg hfit]
  simp only [Sem.run_bind, rI hT hi, Result.andThen_ok]
  rw [if_neg hb1]
  simp only [Sem.run_bind, rI hT hi, Result.andThen_ok]
  rw [if_neg hb2]
  simp only [Sem.run_bind, rI hT hi, Result.andThen_ok, hch, run_askRoom, hold, hsrc, rZi hT hi hz, newRow, run_newObj_alloc, Sem.run_pure, World.size_drew]

theorem appendTo_sim (hT : T.Ok P) (hm : MR ρ H w) {ts : Array TypeId} {st e xt : TypeId} (h0 : ts[0]? = some st) (hu : T.und st = some (.slice e)) {i : TypeInfo} (hi : T.inf e = some i) {xd : TypeDesc}
    (hxt : ts[1]? = some xt) (hxu : T.und xt = some xd) (hxd' : ∀ k, xd ≠ .int k) {ty : TypeId} {s cs x cx : Value} {len n : Nat} (hs : TV ρ s cs) (hx : TV ρ x cx) (hnl : lenV x = some n) (hll : lenV s = some len)
    (hsmall : (len + n) * 2 * (i.bytes + 1) + 1024 * (i.bytes + 1) ≤ mostBytes) {z : Value} (hz : i.zero = some z) (hzs : z.cells.size = i.size) {new : List Value} (hsv : sourceV H i.size n x = some new)
    (hlen : new.length = n * i.size) {v : Value} {H' : AH} (h : appendTo i e s len n new H = some (v, H')) :
    ∃ cv w' ρ', (Builtin.append_ ts ty #[cs, cx]).run P w = .ok cv w' ∧ TV ρ' v cv ∧ Post ρ H w ρ' H' w' := by
  have hnw := lenV_sim (P := P) hx hnl w
  obtain ⟨arr, hsrc, har⟩ := source_sim (P := P) hm hx hnl (Nat.le_refl _) hsv
  have hmd : MR ρ H w.drew := hm.heap rfl
  obtain ⟨arrd, hsrcd, hard⟩ := source_sim (P := P) hmd hx hnl (Nat.le_refl _) hsv
  have hal := har.length
  have hadl := hard.length
  -- the new row, laid
  have grown : ∀ {sl : Option Addr} {sc : Nat} {old oldc : List Value}, cs = .slice sl len sc → ¬ len + n ≤ sc → All2 (SR ρ) old oldc → old.length = len * i.size →
      (Builtin.firstCells i.size len (.slice sl len sc)).run P w.drew = .ok oldc.toArray w.drew →
      ∃ cv w' ρ', (Builtin.append_ ts ty #[cs, cx]).run P w = .ok cv w' ∧ TV ρ' (.slice (some ⟨H.next, 0, none⟩) (len + n) (2 * i.size)) cv ∧ Post ρ H w ρ' (H.alloc (.cells (old ++ new) e)) w' := by
    intro sl sc old oldc hcs hfit hold holdl hrun
    subst hcs
    obtain ⟨cap, rest, hcap, hrest, hap⟩ := append_grow (ty := ty) hT h0 hu hi hxt hxu hxd' hnw hfit hsmall hz hrun hsrcd
    have hL : (oldc.toArray ++ arrd.toArray ++ rest).size = cap * i.size := by
      have e1 := hold.length
      simp only [Array.size_append, List.size_toArray, hrest, hzs]
      rw [← e1, ← hadl, holdl, hlen, ← Nat.add_mul, ← Nat.add_mul]
      congr 1; omega
    have hor : OR ρ 0 (cap * i.size) (.cells (old ++ new) e) (.cells (oldc.toArray ++ arrd.toArray ++ rest) e) := by
      have hlen' : (old ++ new).length ≤ cap * i.size := by
        rw [← hL]
        simp only [Array.size_append, List.size_toArray, List.length_append]
        have e1 := hold.length
        have e2 := hard.length
        omega
      refine .cells ?_ (fun j _ _ => by simp) (fun _ => by rw [Nat.zero_add]; exact hlen') (Nat.le_of_eq hL.symm)
      intro j v hj
      obtain ⟨v', k1, k2⟩ := (hold.append hard).get j v hj
      refine ⟨v', ?_, k2⟩
      have hlt := (List.getElem?_eq_some_iff.1 k1).1
      rw [Nat.zero_add, Array.getElem?_append_left (by simpa using hlt)]
      simpa using k1
    have hp := Post.alloc hm hor
    refine ⟨_, _, _, hap, ?_, hp.heap' rfl⟩
    have hpl : (ρ.ext H.next ⟨w.heap.size, 0, cap * i.size⟩) H.next = some ⟨w.heap.size, 0, cap * i.size⟩ := Inj.ext_same _ _ _
    refine TV.slice_mk hpl ⟨hcap, fun hh => by omega, fun _ => ?_⟩ (Nat.zero_le _) (.inl rfl)
    show 0 + cap * (2 * i.size / 2) ≤ cap * i.size
    rw [show 2 * i.size / 2 = i.size by omega]; omega
  unfold appendTo at h
  split at h
  · rename_i a c
    obtain ⟨rfl, _⟩ := hs.nilSlice_inv
    have hl0 : len = 0 := by
      obtain ⟨_, ha⟩ := hs.nilSlice_inv
      subst ha
      simpa [lenV] using hll.symm
    subst hl0
    split at h
    · rename_i hn0
      cases h
      subst hn0
      have := append_room (ty := ty) (w' := w) hT h0 hu hi hxt hxu hxd' (base := none) (sLen := 0) (sCap := 0) hnw (Nat.le_refl _) hsrc rfl
      exact ⟨_, _, _, this, .base .nilSlice, .refl hm⟩
    · rename_i hn0
      cases h
      have := grown (sl := none) (sc := 0) (old := []) (oldc := []) rfl (by omega) .nil (by simp) (by simp [Builtin.firstCells])
      simpa using this
  · rename_i b o len' c
    have hlen' : len' = len := by simpa [lenV] using hll
    subst hlen'
    obtain ⟨p, o', c', rfl, hp, hcap, hd, ho⟩ := hs.slice_inv
    split at h
    · rename_i hodd
      have hc := hcap.2.1 hodd
      have hc2 : c / 2 = c' := by omega
      rw [hc2] at h
      split at h
      · rename_i hroom
        split at h
        · rename_i cells e' hg
          split at h
          · rename_i hfit
            cases h
            by_cases ho' : o' = p.d + o
            · subst ho'
              have hfit' : o + len' * i.size + new.length ≤ cells.length := by rw [hlen, Nat.add_assoc, ← Nat.add_mul]; exact hfit
              obtain ⟨w', g1, g2⟩ := MR.storeCells (P := P) hm hg hp hfit' har
              have := append_room (ty := ty) (w' := w') hT h0 hu hi hxt hxu hxd' (base := some ⟨p.b, p.d + o, none⟩) (sLen := len') (sCap := c') hnw hroom hsrc (by
                simp only [Addr.add_mk]
                rw [Nat.add_assoc]; exact g1)
              refine ⟨_, _, _, this, ?_, g2⟩
              exact TV.slice_mk hp ⟨hroom, fun _ => hc, fun hh => by omega⟩ (by omega) (.inl rfl)
            · have hz0 := ho.resolve_left ho'
              have hc0 : c' = 0 := hz0.2 hodd
              have hn0 : n = 0 := by omega
              have hl0 : len' = 0 := by omega
              subst hn0 hl0
              have hnew : new = [] := by apply List.length_eq_zero_iff.1; rw [hlen]; simp
              subst hnew
              have harr : arr = [] := by cases har; rfl
              subst harr
              have := append_room (ty := ty) (w' := w) hT h0 hu hi hxt hxu hxd' (base := some ⟨p.b, o', none⟩) (sLen := 0) (sCap := c') hnw hroom hsrc (by simp [storeCells])
              obtain ⟨cc, fz, k1, k2, k3, k5, k4⟩ := hm.row_obj hg hp
              refine ⟨_, _, ρ, this, ?_, ?_⟩
              · exact TV.slice_mk hp ⟨hroom, fun _ => hc, fun hh => by omega⟩ (by omega) (.inr ⟨rfl, fun _ => hc0⟩)
              · exact Post.turn hm hg hp rfl k1 (fun _ _ => rfl) (.cells k2 k3 k5 k4) (hout := fun _ _ _ O h => by rw [k1] at h; cases h; exact .refl _ _ _)
          · cases h
        · cases h
      · rename_i hroom
        split at h
        · rename_i old hold
          cases h
          obtain ⟨a, c2, arr2, hcs2, hrun2, hall2⟩ := rowAt_sim (P := P) hmd hs (by
            rcases Nat.eq_zero_or_pos len' with h0 | h0
            · left; rw [h0]; simp
            · right; exact h0) hold
          cases hcs2
          have hol : old.length = len' * i.size := by
            simp only [rowAt] at hold
            split at hold
            · split at hold
              · rename_i hq
                cases hold
                simp only [List.length_take, List.length_drop]
                omega
              · cases hold
            · cases hold
          exact grown rfl hroom hall2 hol hrun2
        · cases h
    · rename_i hodd
      split at h
      · rename_i hcz
        split at h
        · rename_i hn0
          cases h
          subst hn0
          have hnew : new = [] := by apply List.length_eq_zero_iff.1; rw [hlen]; simp
          subst hnew
          have harr : arr = [] := by cases har; rfl
          subst harr
          have := append_room (ty := ty) (w' := w) hT h0 hu hi hxt hxu hxd' (base := some ⟨p.b, o', none⟩) (sLen := len') (sCap := c') hnw hcap.1 hsrc (by simp [storeCells])
          exact ⟨_, _, ρ, this, hs, .refl hm⟩
        · rename_i hn0
          split at h
          · rename_i cells e' hg
            split at h
            · rename_i hfit
              obtain ⟨he', hfit⟩ := hfit
              subst he'
              cases h
              have hL := hcap.2.2 (by omega)
              rw [hcz, show 2 * i.size / 2 = i.size by omega] at hL
              obtain ⟨cc, fz, k1, k2, k3, k5, k4⟩ := hm.row_obj hg hp
              by_cases hroom : len' + n ≤ c'
              · -- in place: the row's block goes on under a new number
                have hcs : (len' + n) * i.size ≤ c' * i.size := Nat.mul_le_mul_right _ hroom
                have hcs' : len' * i.size + n * i.size = (len' + n) * i.size := by rw [Nat.add_mul]
                obtain ⟨w', g1, g2, g3, g4, g5, g6⟩ := run_storeCells (P := P) (o := o' + len' * i.size) arr 0 cc w k1 (by refine Nat.le_trans ?_ k4; rw [← hal, hlen]; omega)
                  (fun j hj hj' => k3 j (by omega) (by rw [← hal, hlen] at hj'; omega)) (all2_one har).2
                have happ := append_room (ty := ty) (w' := w') hT h0 hu hi hxt hxu hxd' (base := some ⟨p.b, o', none⟩) (sLen := len') (sCap := c') hnw hroom hsrc (by
                  simp only [Addr.add_mk]; exact g1)
                have hnone : ρ H.next = none := by
                  cases hr : ρ H.next with
                  | none => rfl
                  | some q => exact absurd (hm.dom _ _ hr) (Nat.lt_irrefl _)
                have hle := Inj.le_ext (p := ⟨p.b, o', p.L⟩) hnone
                have hpl : (ρ.ext H.next ⟨p.b, o', p.L⟩) H.next = some ⟨p.b, o', p.L⟩ := Inj.ext_same _ _ _
                have getk : ∀ {k x}, ((H.kill b).alloc (.cells ((cells.drop o).take (len' * i.size) ++ new) e')).get k = some x → k ≠ H.next → H.get k = some x ∧ k ≠ b := by
                  intro k x hk hne
                  rw [AH.get_alloc_other _ _ (by simpa using hne)] at hk
                  by_cases eb : b = k
                  · subst eb; rw [AH.get_kill_same] at hk; cases hk
                  · rw [AH.get_kill_other _ eb] at hk; exact ⟨hk, Ne.symm eb⟩
                refine ⟨_, w', ρ.ext H.next ⟨p.b, o', p.L⟩, happ, TV.slice_mk (p := ⟨p.b, o', p.L⟩) hpl ⟨hroom, fun hh => by omega, fun _ => ?_⟩ (Nat.le_refl _) (.inl rfl), ?_⟩
                · rw [hcz, show 2 * i.size / 2 = i.size by omega]; exact hL
                refine ⟨hle, ⟨?_, ?_, ?_⟩, Nat.le_of_eq g4.symm, ?_, ?_, ?_, by simp, ?_, ?_, ?_, g5, g6⟩
                · intro k q hk
                  unfold Inj.ext at hk
                  split at hk
                  · rename_i ek; subst ek; simp
                  · exact Nat.lt_succ_of_lt (hm.dom k q hk)
                · intro k x q hk hq
                  by_cases ek : k = H.next
                  · subst ek
                    rw [hpl] at hq; cases hq
                    have : ((H.kill b).alloc (.cells ((cells.drop o).take (len' * i.size) ++ new) e')).get H.next = some _ := AH.get_alloc_same (H.kill b) _
                    rw [this] at hk; cases hk
                    refine ⟨_, g2, .cells ?_ (fun j hj hj' => k3 j (Nat.le_trans hd hj) hj') (fun _ => ?_) (by simpa [length_setMany] using k4)⟩
                    rotate_left
                    · simp only [List.length_append, List.length_take, List.length_drop, hlen]; omega
                    intro j v hj
                    simp only [List.getElem?_toArray, Nat.add_zero]
                    have hsz : p.L ≤ cc.toList.length := by rw [Array.length_toList]; exact k4
                    rw [getElem?_setMany _ _ _ _ (by refine Nat.le_trans ?_ hsz; rw [← hal, hlen]; omega)]
                    have hdl : ((cells.drop o).take (len' * i.size)).length = len' * i.size := by simp only [List.length_take, List.length_drop]; omega
                    by_cases hjl : j < len' * i.size
                    · rw [List.getElem?_append_left (by rw [hdl]; exact hjl), List.getElem?_take, if_pos hjl, List.getElem?_drop] at hj
                      have hlp : 0 < len' := by
                        rcases Nat.eq_zero_or_pos len' with hz0 | hz0
                        · rw [hz0] at hjl; simp at hjl
                        · exact hz0
                      have ho' : o' = p.d + o := by
                        rcases ho with ho | ho
                        · exact ho
                        · omega
                      obtain ⟨v', m1, m2⟩ := k2 (o + j) v hj
                      refine ⟨v', ?_, m2.mono hle⟩
                      rw [if_neg (by omega), Array.getElem?_toList, ho', Nat.add_assoc]
                      exact m1
                    · rw [List.getElem?_append_right (by rw [hdl]; omega), hdl] at hj
                      obtain ⟨v', m1, m2⟩ := har.get _ v hj
                      have hlt := (List.getElem?_eq_some_iff.1 m1).1
                      refine ⟨v', ?_, m2.mono hle⟩
                      rw [if_pos (by omega), show o' + j - (o' + len' * i.size) = j - len' * i.size by omega]
                      exact m1
                  · obtain ⟨hk1, hkb⟩ := getk hk ek
                    rw [Inj.ext_other _ _ ek] at hq
                    obtain ⟨O, m1, m2⟩ := hm.blk k x q hk1 hq
                    refine ⟨O, ?_, m2.mono hle⟩
                    rw [g3 q.b (fun eb => hkb (hm.inj k b x _ q p hk1 hg hq hp eb))]
                    exact m1
                · intro k k' x x' q q' hk hk' hq hq' hqq
                  by_cases ek : k = H.next <;> by_cases ek' : k' = H.next
                  · rw [ek, ek']
                  · exfalso
                    obtain ⟨hk1, hkb⟩ := getk hk' ek'
                    rw [Inj.ext_other _ _ ek'] at hq'
                    subst ek
                    rw [hpl] at hq; cases hq
                    exact hkb (hm.inj k' b x' _ q' p hk1 hg hq' hp hqq.symm)
                  · exfalso
                    obtain ⟨hk1, hkb⟩ := getk hk ek
                    rw [Inj.ext_other _ _ ek] at hq
                    subst ek'
                    rw [hpl] at hq'; cases hq'
                    exact hkb (hm.inj k b x _ q p hk1 hg hq hp hqq)
                  · obtain ⟨hk1, _⟩ := getk hk ek
                    obtain ⟨hk2, _⟩ := getk hk' ek'
                    rw [Inj.ext_other _ _ ek] at hq
                    rw [Inj.ext_other _ _ ek'] at hq'
                    exact hm.inj k k' x x' q q' hk1 hk2 hq hq' hqq
                · intro j _ hj
                  exact g3 j fun ej => hj (ej ▸ ⟨b, _, p, hg, hp, rfl⟩)
                · intro k q hk hq
                  by_cases ek : k = H.next
                  · subst ek
                    rw [hpl] at hq; cases hq
                    exact ⟨Nat.le_refl _, .inr ⟨b, _, p, hg, hp, rfl, hd, Nat.le_refl _⟩⟩
                  · rw [Inj.ext_other _ _ ek, hk] at hq; cases hq
                · intro k hk hr
                  rw [AH.get_alloc_other _ _ (by simp; omega)]
                  exact AH.get_kill_other _ (fun eb => by subst eb; rw [hp] at hr; cases hr)
                · intro k hk hr
                  rw [AH.get_alloc_other _ _ (by simp; omega)]
                  by_cases eb : b = k
                  · subst eb; exact AH.get_kill_same _ _
                  · rw [AH.get_kill_other _ eb]; exact hr
                · intro k hk hr
                  obtain ⟨x, hx, hx2⟩ := hr
                  refine ⟨x, ?_, hx2⟩
                  rw [AH.get_alloc_other _ _ (by simp; omega)]
                  by_cases eb : b = k
                  · subst eb; rw [hg] at hx; cases hx; cases hx2
                  · rw [AH.get_kill_other _ eb]; exact hx
                · intro k x q O hgk hkq hO
                  by_cases eb : q.b = p.b
                  · have ek := hm.inj k b x _ q p hgk hg hkq hp eb
                    subst ek
                    rw [hp] at hkq; cases hkq
                    rw [k1] at hO; cases hO
                    refine ⟨_, g2, ?_⟩
                    refine outs_setMany _ _ (Nat.le_trans ?_ k4) (Nat.le_trans hd (by omega)) ?_
                    · rw [← hal, hlen]; omega
                    · rw [← hal, hlen]; omega
                  · exact ⟨O, (g3 q.b eb).trans hO, .refl _ _ _⟩
              · -- a new row
                have hrow : rowAt H ⟨b, o, none⟩ (len' * i.size) = some ((cells.drop o).take (len' * i.size)) := by
                  simp only [rowAt, hg, if_pos hfit]
                obtain ⟨a, c2, arr2, hcs2, hrun2, hall2⟩ := rowAt_sim (P := P) hmd hs (by
                  rcases Nat.eq_zero_or_pos len' with h0 | h0
                  · left; rw [h0]; simp
                  · right; exact h0) hrow
                cases hcs2
                have hol : ((cells.drop o).take (len' * i.size)).length = len' * i.size := by simp only [List.length_take, List.length_drop]; omega
                obtain ⟨cv, w', ρ', m1, m2, m3⟩ := grown rfl hroom hall2 hol hrun2
                rw [hcz]
                exact ⟨cv, w', ρ', m1, m2, Post.kill hm hg rfl hp m3⟩
            · cases h
          · cases h
      · cases h
  · cases h

end
end Go.Ev
