/- Each operation of the evaluator is answered so by the model: conversions, append, copy. -/
import Derived.Test.YtaoaddokgofifaaGreatEvF
namespace Go.Ev
open Go.RowKit
section
variable {P : Program} {T : TT} {ρ : Inj} {H : AH} {w : World}

/-! ### rows that are read -/
theorem rowAt_sim (hm : MR ρ H w) {b o n len c : Nat} {cx : Value} {l : List Value} (hx : TV ρ (.slice (some ⟨b, o, none⟩) len c) cx) (hn : n = 0 ∨ 0 < len) (h : rowAt H ⟨b, o, none⟩ n = some l) :
    ∃ (a : Addr) (c' : Nat) (arr : List Value), cx = .slice (some a) len c' ∧ (loadCells a n).run P w = .ok arr.toArray w ∧ All2 (SR ρ) l arr := by
  obtain ⟨p, o', c', rfl, hp, hcap, hd, ho⟩ := hx.slice_inv
  simp only [rowAt] at h
  split at h
  · rename_i cs e hg
    split at h
    · rename_i hfit
      cases h
      by_cases h0 : n = 0
      · subst h0
        exact ⟨_, _, [], rfl, by simp [loadCells, loadCellsFrom], by simpa using All2.nil⟩
      · have ho' : o' = p.d + o := by
          rcases ho with ho | ho
          · exact ho
          · omega
        subst ho'
        obtain ⟨arr, h1, h2⟩ := hm.row (P := P) hg hp hfit
        exact ⟨_, _, arr, rfl, h1, h2⟩
    · cases h
  · cases h

/-! ### conversions -/
theorem bytesV_cons {v : Value} {c : List Value} {l : List UInt8} (h : bytesV (v :: c) = some l) : ∃ n l', v = .int .u8 n ∧ bytesV c = some l' ∧ l = UInt8.ofNat n.toNat :: l' := by
  cases v with
  | int k n =>
    cases k with
    | u8 =>
      simp only [bytesV] at h
      cases hr : bytesV c with
      | none => rw [hr] at h; cases h
      | some l' => rw [hr] at h; cases h; exact ⟨n, l', rfl, rfl, rfl⟩
    | _ => cases h
  | _ => cases h

theorem bytesV_flat : ∀ {c : List Value} {l : List UInt8}, bytesV c = some l → c.all flat1 = true
  | [], _, _ => rfl
  | v :: c, l, h => by
    obtain ⟨n, l', rfl, h2, _⟩ := bytesV_cons h
    simp [flat1, bytesV_flat h2]

theorem bytesV_run {f : Value → ByteArray → Sem (ForInStep ByteArray)} (hf : ∀ n s, f (.int .u8 n) s = pure (.yield (s.push (UInt8.ofNat n.toNat)))) {c : List Value} : ∀ {l : List UInt8}, bytesV c = some l → ∀ (s : ByteArray) (w : World),
    (forIn c s f).run P w = .ok ⟨s.data ++ l.toArray⟩ w := by
  induction c with
  | nil =>
    intro l h s w
    simp only [bytesV, Option.some.injEq] at h; subst h
    simp
  | cons v c ih =>
    intro l h s w
    obtain ⟨n, l', rfl, h2, rfl⟩ := bytesV_cons h
    simp only [List.forIn_cons, Sem.run_bind, hf, Sem.run_pure, Result.andThen_ok]
    rw [ih h2]
    congr 1
    simp [ByteArray.push]

theorem freeze_heap {w : World} {O : Obj} {c : Array Value} {e : TypeId} (hO : O = .cells c e) : ((w.alloc O).freeze ⟨w.heap.size, c.size, none⟩ 1).heap = (w.alloc (.cells c e (c.size, c.size + 1))).heap := by
  subst hO
  unfold World.freeze
  rw [if_neg (by decide)]
  apply Array.ext_getElem?
  intro j
  show (Array.modify (w.heap.push _) w.heap.size _)[j]? = (w.heap.push _)[j]?
  rw [Array.getElem?_modify]
  by_cases hj : w.heap.size = j
  · subst hj
    simp
  · rw [if_neg hj]
    simp only [Array.getElem?_push]
    rw [if_neg (Ne.symm hj), if_neg (Ne.symm hj)]

theorem convV_sim (hT : T.Ok P) (hm : MR ρ H w) {src dst : TypeId} {x cx v : Value} {H' : AH} (hx : TV ρ x cx) (h : convV T src dst x H = some (v, H')) :
    ∃ cv w' ρ', (convert src dst cx).run P w = .ok cv w' ∧ TV ρ' v cv ∧ Post ρ H w ρ' H' w' := by
  unfold convV at h
  split at h
  · rename_i d k k2 n h1 h2
    cases h
    obtain rfl := hx.int_inv
    refine ⟨.int k (k.wrap n), w, ρ, ?_, .int _ _, .refl hm⟩
    simp only [convert, Sem.run_bind, rU hT h1, rU hT h2, Result.andThen_ok]
    rfl
  · rename_i d s h1 h2
    cases h
    obtain rfl := hx.string_inv
    refine ⟨.string s, w, ρ, ?_, .base (.string _), .refl hm⟩
    simp only [convert, Sem.run_bind, rU hT h1, rU hT h2, Result.andThen_ok]
    rfl
  · rename_i e s h1 h2
    split at h
    · rename_i h3
      cases h
      obtain rfl := hx.string_inv
      obtain ⟨cap, hcap, hrun⟩ : ∃ cap, s.size ≤ cap ∧ (choose (.appendCap s.size 0 e)).run P w = .ok cap w.drew := by
        exact ⟨s.size + w.tape w.drawn (.appendCap s.size 0 e) % (2 ^ 63 - s.size), Nat.le_add_right _ _, rfl⟩
      let arr : Array Value := (s.data.map fun b => Value.int .u8 b.toNat) ++ Array.replicate (cap - s.size) (.int .u8 0)
      have hsz : arr.size = cap := by simp [arr]; show s.size + (cap - s.size) = cap; omega
      have hor : OR ρ 0 cap (.cells (s.data.toList.map fun b => Value.int .u8 b.toNat) e) (.cells arr e (cap, cap + 1)) := by
        refine .cells ?_ (fun i _ hi => by simp; omega) (fun _ => by simpa using hcap) (Nat.le_of_eq hsz.symm)
        intro i v hi
        refine ⟨v, ?_, SR.of_flat1 ?_⟩
        · rw [Nat.zero_add]
          have hlt : i < s.data.size := by
            have := (List.getElem?_eq_some_iff.1 hi).1
            simpa using this
          simp only [arr]
          rw [Array.getElem?_append_left (by simpa using hlt)]
          simpa using hi
        · rw [List.getElem?_map] at hi
          cases hb : s.data.toList[i]? with
          | none => rw [hb] at hi; cases hi
          | some b => rw [hb] at hi; cases hi; rfl
      have hpost := Post.alloc hm hor
      refine ⟨.slice (some ⟨w.heap.size, 0, none⟩) s.size cap, (w.drew.alloc (.cells arr e)).freeze ⟨w.heap.size, cap, none⟩ 1, _, ?_, ?_, hpost.heap' ?_⟩
      · simp only [convert, Sem.run_bind, rU hT h1, rU hT h2, Result.andThen_ok, rU hT h3, Conv.stringToBytes, hrun]
        have hshape : (w.drew.alloc (.cells arr e)).shape? w.heap.size = some (e, cap) := by
          simp only [World.shape?]
          have := World.alloc_heap_new w.drew (.cells arr e)
          rw [World.size_drew] at this
          rw [this]
          simp [hsz]
        simp only [newRow, Sem.run_bind, run_newObj_alloc, Result.andThen_ok, Sem.run_pure, markStringish, run_shape, World.size_drew]
        rw [show (w.drew.alloc (Obj.cells ((s.data.map fun b => Value.int .u8 ↑b.toNat) ++ Array.replicate (cap - s.size) (.int .u8 0)) e)).shape? w.heap.size = some (e, cap) from hshape]
        simp only [run_freeze, Result.andThen_ok]
        rfl
      · have hp : (ρ.ext H.next ⟨w.heap.size, 0, cap⟩) H.next = some ⟨w.heap.size, 0, cap⟩ := Inj.ext_same _ _ _
        exact TV.slice_mk hp ⟨hcap, fun h => (by cases h), fun _ => (by show 0 + cap * 1 ≤ cap; omega)⟩ (Nat.zero_le _) (.inl rfl)
      · have := freeze_heap (w := w.drew) (O := .cells arr e) (c := arr) (e := e) rfl
        rw [hsz] at this
        exact this
    · cases h
  · rename_i e a n c h1 h2
    split at h
    · rename_i h3
      split at h
      · split at h
        · rename_i hn
          cases h
          obtain ⟨rfl, _⟩ := hx.nilSlice_inv
          refine ⟨.string .empty, w, ρ, ?_, .base (.string _), .refl hm⟩
          simp only [convert, Sem.run_bind, rU hT h1, rU hT h2, Result.andThen_ok, rU hT h3]
          rfl
        · cases h
      · rename_i a'
        split at h
        · rename_i cs hrow
          cases hb : bytesV cs with
          | none => rw [hb] at h; cases h
          | some l =>
            rw [hb] at h; cases h
            have ha : ∃ b o, a' = ⟨b, o, none⟩ := by
              unfold rowAt at hrow
              split at hrow
              · exact ⟨_, _, rfl⟩
              · cases hrow
            obtain ⟨b, o, rfl⟩ := ha
            obtain ⟨ad, c', arr, rfl, hl, har⟩ := rowAt_sim (P := P) hm hx (by omega) hrow
            have heq := all2_flat har (bytesV_flat hb)
            subst heq
            refine ⟨.string ⟨l.toArray⟩, w, ρ, ?_, .base (.string _), .refl hm⟩
            simp only [convert, Sem.run_bind, rU hT h1, rU hT h2, Result.andThen_ok, rU hT h3, Conv.bytesToString, hl]
            have e0 : (⟨ByteArray.empty.data ++ l.toArray⟩ : ByteArray) = ⟨l.toArray⟩ := by
              congr 1
              show (#[] ++ l.toArray : Array UInt8) = _
              simp
            simp only [← Array.forIn_toList]
            rw [bytesV_run (P := P) (fun n s => rfl) hb .empty w, e0]
            rfl
        · cases h
    · cases h
  · cases h

end
end Go.Ev
