/- From the logic to every world: a function that answers true for flat arguments and one slice of flat rows, and leaves what was there. -/
import Derived.Test.YtaoaddokgofifaaGreatWpC
import Derived.Test.YtaoaddokgofifaaGreatMmM
import Derived.Test.YtaoaddokgofifaaGreatPrD
namespace Go.Rw
open Go Go.Proofs Go.Ev Go.Fv Go.Wp Go.Pr Go.RowKit

/-- All that was there is as it was. -/
def Kept (w w' : World) : Prop := w'.os = w.os ∧ w'.output = w.output ∧ w.heap.size ≤ w'.heap.size ∧ ∀ b, b < w.heap.size → w'.heap[b]? = w.heap[b]?

/-- Rows of W flat cells each. -/
structure Flat (W : Nat) (F : Nat → List Value) : Prop where
  len : ∀ i, (F i).length = W
  flat : ∀ i, (F i).all flat1 = true
/-- The rows lie where a slice says. -/
def RowsAt (W : Nat) (H : AH) (a : Option Addr) (n : Nat) (F : Nat → List Value) : Prop :=
  ∀ i, i < n → ∃ b o cs e, a = some ⟨b, o, none⟩ ∧ b < H.next ∧ H.get b = some (.cells cs e) ∧ o + i * W + W ≤ cs.length ∧ (cs.drop (o + i * W)).take W = F i
theorem RowsAt.ext {W : Nat} {H H' : AH} {a : Option Addr} {n : Nat} {F : Nat → List Value} (h : RowsAt W H a n F) (hx : Ext H H') : RowsAt W H' a n F := fun i hi => by
  obtain ⟨b, o, cs, e, h1, h2, h3, h4⟩ := h i hi
  exact ⟨b, o, cs, e, h1, Nat.lt_of_lt_of_le h2 hx.1, hx.get h2 h3, h4⟩

def rowL (F : Nat → List Value) (n : Nat) : List Value := (List.range n).flatMap F
section
variable {W : Nat} {F : Nat → List Value} (hF : Flat W F)
theorem rowL_succ (F : Nat → List Value) (n : Nat) : rowL F (n + 1) = rowL F n ++ F n := by
  simp [rowL, List.range_succ]
include hF
theorem rowL_len (n : Nat) : (rowL F n).length = n * W := by
  induction n with
  | zero => simp [rowL]
  | succ n ih => rw [rowL_succ, List.length_append, ih, hF.len, Nat.succ_mul]
theorem rowL_at {n i : Nat} (hi : i < n) : ((rowL F n).drop (i * W)).take W = F i := by
  induction n with
  | zero => omega
  | succ n ih =>
    have hl := rowL_len hF n
    rw [rowL_succ]
    rcases Nat.lt_or_eq_of_le (Nat.le_of_lt_succ hi) with h | rfl
    · have h1 : i * W + W ≤ n * W := by rw [← Nat.succ_mul]; exact Nat.mul_le_mul_right W h
      rw [List.drop_append_of_le_length (by omega), List.take_append_of_le_length (by rw [List.length_drop]; omega)]
      exact ih h
    · rw [← hl, List.drop_left]
      exact List.take_of_length_le (by rw [hF.len]; exact Nat.le_refl _)
theorem rowL_flat (n : Nat) {j : Nat} {v : Value} (h : (rowL F n)[j]? = some v) : flat1 v = true ∧ ∃ i k, i < n ∧ k < W ∧ j = i * W + k ∧ (F i)[k]? = some v := by
  have hj : j < n * W := by rw [← rowL_len hF n]; exact (List.getElem?_eq_some_iff.1 h).1
  have hW : 0 < W := by
    rcases Nat.eq_zero_or_pos W with h0 | h0
    · subst h0; omega
    · exact h0
  have hjn : j / W < n := by rw [Nat.div_lt_iff_lt_mul hW]; exact hj
  have h1 := rowL_at hF (n := n) (i := j / W) hjn
  have hm := Nat.mod_lt j hW
  have hdm := Nat.div_add_mod j W
  have h2 : (F (j / W))[j % W]? = some v := by
    rw [← h1, List.getElem?_take, if_pos hm, List.getElem?_drop, show j / W * W + j % W = j by rw [Nat.mul_comm]; exact hdm]
    exact h
  exact ⟨List.all_eq_true.1 (hF.flat _) v (List.mem_of_getElem? h2), j / W, j % W, hjn, hm, by rw [Nat.mul_comm]; exact hdm.symm, h2⟩
end

theorem tv_flat {ρ : Inj} {v : Value} (h : flatV v = true) : TV ρ v v := by
  cases v <;> first | (cases h; done) | exact .val (.one (.base (.bool _))) | exact .val (.one (.base (.int _ _))) | exact .val (.one (.base (.string _))) | skip
  rename_i c
  refine .val (.agg (All2.of_eq fun a ha => ?_))
  have := List.all_eq_true.1 h a ha
  cases a <;> first | exact .base (.bool _) | exact .base (.int _ _) | exact .base (.string _) | (cases this; done)
theorem tv_flats {ρ : Inj} {vs : List Value} (h : vs.all flatV = true) : All2 (TV ρ) vs vs :=
  All2.of_eq fun a ha => tv_flat (List.all_eq_true.1 h a ha)

section
variable {X : Prims} (hX : PrimsOk P0 X) (hXh : PrimsHere T0 X) {f : FuncId} {pre post : List Value} (hpre : pre.all flatV = true) (hpost : post.all flatV = true)
include hX hXh hpre hpost
/-- Without a slice, or with one that is nil. -/
theorem rows_nil {s : List Value} (hs : s = [] ∨ s = [Value.slice none 0 0]) (hrun : ∀ H, C P0 T0 X f (pre ++ s ++ post) H fun v H' => v = .bool true ∧ Ext H H') (w : World) (m : Nat) :
    CallsIn Fence.wide m P0 f (pre ++ s ++ post).toArray w fun e w' => e = .returned (.bool true) ∧ Kept w w' := by
  obtain ⟨N, v, H', h1, rfl, hx⟩ := hrun E0
  have hargs : All2 (TV (fun _ => none)) (pre ++ s ++ post) (pre ++ s ++ post).toArray.toList := by
    refine ((tv_flats hpre).append ?_).append (tv_flats hpost)
    rcases hs with rfl | rfl
    · exact .nil
    · exact .cons (.val (.one (.base .nilSlice))) .nil
  refine CallsIn.mono (evCall_sim (n := N) t0_ok hX hXh c0_ok mixed_ok (mr_empty w) hargs h1) ?_
  rintro e w' ⟨cv, ρ', rfl, htv, hp⟩
  refine ⟨by rw [← htv.flat rfl], hp.os, hp.output, hp.size, fun b hb => hp.frame b hb ?_⟩
  rintro ⟨k, o, p, h2, h3, _⟩
  cases h3

/-- With a slice of rows. -/
theorem rows_some {W : Nat} {F : Nat → List Value} (hF : Flat W F) (hW : 0 < W) {n : Nat} (hrun : ∀ H a c, RowsAt W H a n F → C P0 T0 X f (pre ++ [Value.slice a n c] ++ post) H fun v H' => v = .bool true ∧ Ext H H') (w : World) (m : Nat)
    {b off cp : Nat} {c : Array Value} {t : TypeId} {fz : Nat × Nat} (hb : w.heap[b]? = some (.cells c t fz)) (hcap : n ≤ cp)
    (hrow : ∀ i k v, i < n → (F i)[k]? = some v → c[off + (i * W + k)]? = some v) (hfz : ∀ j, j < n * W → ¬ (fz.1 ≤ off + j ∧ off + j < fz.2)) :
    CallsIn Fence.wide m P0 f (pre ++ [Value.slice (some ⟨b, off, none⟩) n cp] ++ post).toArray w fun e w' => e = .returned (.bool true) ∧ Kept w w' := by
  have hcells : ∀ j v, (rowL F n)[j]? = some v → c[off + j]? = some v := fun j v h => by
    obtain ⟨_, i, k, h1, h2, rfl, h3⟩ := rowL_flat hF n h
    exact hrow i k v h1 h3
  let L := if n = 0 then 0 else off + n * W
  have hL : L ≤ c.size := by
    show (if n = 0 then 0 else off + n * W) ≤ c.size
    split
    · omega
    · have hk : (F (n - 1))[W - 1]? = some ((F (n - 1))[W - 1]'(by rw [hF.len]; omega)) := List.getElem?_eq_getElem _
      have := hrow (n - 1) (W - 1) _ (by omega) hk
      have := (Array.getElem?_eq_some_iff.1 this).1
      have e : (n - 1) * W + W = n * W := by rw [← Nat.succ_mul]; congr 1; omega
      omega
  let ρ : Inj := fun k => if k = 0 then some ⟨b, off, L⟩ else none
  have hρ : ρ 0 = some ⟨b, off, L⟩ := rfl
  let H0 : AH := E0.alloc (.cells (rowL F n) t)
  have hg : H0.get 0 = some (.cells (rowL F n) t) := AH.get_alloc_same E0 _
  have hρi : ∀ {k p}, ρ k = some p → k = 0 ∧ p = ⟨b, off, L⟩ := fun {k p} h => by
    by_cases e : k = 0
    · subst e; cases h; exact ⟨rfl, rfl⟩
    · have h : (if k = 0 then some ⟨b, off, L⟩ else none) = some p := h
      rw [if_neg e] at h; cases h
  have hm : MR ρ H0 w := by
    refine ⟨fun k p h => ?_, fun k o p h1 h2 => ?_, fun k k' o o' p p' _ _ h1 h2 _ => ?_⟩
    · rw [(hρi h).1]; exact Nat.zero_lt_one
    · obtain ⟨rfl, rfl⟩ := hρi h2
      rw [hg] at h1; cases h1
      refine ⟨_, hb, .cells (fun i v hv => ?_) (fun i h3 h4 => ?_) (fun h => ?_) hL⟩
      · refine ⟨v, hcells i v hv, ?_⟩
        have := (rowL_flat hF n hv).1
        cases v <;> first | exact .base (.bool _) | exact .base (.int _ _) | exact .base (.string _) | (cases this; done)
      · have h4 : i < (if n = 0 then 0 else off + n * W) := h4
        have h3 : off ≤ i := h3
        split at h4
        · omega
        · have := hfz (i - off) (by omega)
          rwa [show off + (i - off) = i by omega] at this
      · rw [rowL_len hF] at h ⊢
        show off + n * W ≤ (if n = 0 then 0 else off + n * W)
        rw [if_neg (by intro h0; subst h0; simp at h)]; exact Nat.le_refl _
    · rw [(hρi h1).1, (hρi h2).1]
  obtain ⟨N, v, H', h1, rfl, hx⟩ := hrun H0 (some ⟨0, 0, none⟩) (2 * cp + 1) fun i hi => ⟨0, 0, _, _, rfl, Nat.zero_lt_one, hg, by
    rw [rowL_len hF, Nat.zero_add, ← Nat.succ_mul]
    exact Nat.mul_le_mul_right W hi, by rw [Nat.zero_add]; exact rowL_at hF hi⟩
  have hargs : All2 (TV ρ) (pre ++ [Value.slice (some ⟨0, 0, none⟩) n (2 * cp + 1)] ++ post) (pre ++ [Value.slice (some ⟨b, off, none⟩) n cp] ++ post).toArray.toList :=
    ((tv_flats hpre).append (.cons (TV.base (.slice (o := 0) hρ ⟨hcap, fun _ => rfl, fun h => by omega⟩)) .nil)).append (tv_flats hpost)
  refine CallsIn.mono (evCall_sim (n := N) t0_ok hX hXh c0_ok mixed_ok hm hargs h1) ?_
  rintro e w' ⟨cv, ρ', rfl, htv, hp⟩
  refine ⟨by rw [← htv.flat rfl], hp.os, hp.output, hp.size, fun q hq => ?_⟩
  by_cases e : q = b
  · subst e
    obtain ⟨O', h1, h2⟩ := hp.outs 0 _ _ _ hg hρ hb
    obtain ⟨c2, rfl, h3, h4⟩ := h2 c t fz rfl
    have hg' : H'.get 0 = some (.cells (rowL F n) t) := hx.get Nat.zero_lt_one hg
    obtain ⟨O2, h5, h6⟩ := hp.mr.blk 0 _ _ hg' (hp.le 0 _ hρ)
    have h1 : w'.heap[q]? = some (.cells c2 t fz) := h1
    have h5 : w'.heap[q]? = some O2 := h5
    rw [h1] at h5; cases h5
    rw [h1, hb]
    have : c2 = c := by
      apply Array.ext_getElem?
      intro j
      by_cases hj : j < off ∨ L ≤ j
      · exact h4 j hj
      · have hj' : j < (if n = 0 then 0 else off + n * W) := by
          have : ¬ (if n = 0 then 0 else off + n * W) ≤ j := fun h => hj (.inr h)
          omega
        split at hj'
        · omega
        · have hlt : j - off < (rowL F n).length := by rw [rowL_len hF]; omega
          have h7 : (rowL F n)[j - off]? = some (rowL F n)[j - off] := List.getElem?_eq_getElem hlt
          cases h6 with
          | cells k1 k2 k3 k4 =>
            obtain ⟨v', k5, k6⟩ := k1 _ _ h7
            have := k6.flat1 (rowL_flat hF n h7).1
            subst this
            have k8 := hcells _ _ h7
            have e1 : off + (j - off) = j := by omega
            rw [e1] at k8
            have k5 : c2[off + (j - off)]? = _ := k5
            rw [e1] at k5
            rw [k5, k8]
    rw [this]
  · refine hp.frame q hq ?_
    rintro ⟨k, o, p, h2, h3, h4⟩
    obtain ⟨rfl, rfl⟩ := hρi h3
    exact e h4.symm
end
end Go.Rw
