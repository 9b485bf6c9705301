/- AuditKinds in any world: it answers true, and leaves what was there as it was. -/
import Derived.Test.YtaoaddokgofifaaGreatAkD
import Derived.Test.YtaoaddokgofifaaGreatAnA
namespace Go.Ak
open Go Go.Proofs Go.Ev Go.Fv Go.Wp Go.Pr Go.RowKit

def yesPrim : List Value → AH → Option (Value × AH)
  | [], H => some (.bool true, H)
  | _, _ => none
noncomputable def X1 : Prims := fun f => if f = 12 then some yesPrim else X0 f

theorem yes_ok {ρ : Inj} {H : AH} {w : World} {args : List Value} {v : Value} {H' : AH} (h : yesPrim args H = some (v, H')) {cargs : Array Value} (m : Nat) (hm : MR ρ H w) (ha : All2 (TV ρ) args cargs.toList) : CallsIn Fence.wide m P0 12 cargs w (CallOut ρ H w v H') := by
  unfold yesPrim at h
  split at h
  · cases h
    obtain ⟨l⟩ := cargs
    cases ha
    refine CallsIn.mono (anchor26 w m) ?_
    rintro e w' ⟨rfl, h1, h2, h3, h4⟩
    exact ⟨_, ρ, rfl, .bool _, post_of_frame hm h1 h2 h3 h4⟩
  · cases h
theorem x1_ok : PrimsOk P0 X1 := by
  intro f p h args H v H' hp ρ w cargs m hm ha
  unfold X1 at h
  split at h
  · rename_i e; cases h; subst e; exact yes_ok hp m hm ha
  · exact x0_ok f p h args H v H' hp ρ w cargs m hm ha
theorem x1_here : PrimsHere T0 X1 := by
  intro f p h
  unfold X1 at h
  split at h
  · rename_i e; subst e; exact ⟨Tryz.f12, by kernel_rfl⟩
  · exact x0_here f p h
theorem x1_4 : X1 4 = none := by kernel_rfl
theorem x1_12 : X1 12 = some yesPrim := by kernel_rfl
theorem x1_13 : X1 13 = none := by kernel_rfl
theorem x1_14 : X1 14 = none := by kernel_rfl
theorem x1_49 : X1 49 = none := by kernel_rfl

/-- All that was there is as it was. -/
def Kept (w w' : World) : Prop := w'.os = w.os ∧ w'.output = w.output ∧ w.heap.size ≤ w'.heap.size ∧ ∀ b, b < w.heap.size → w'.heap[b]? = w.heap[b]?

theorem kinds_run {ρ : Inj} {H0 : AH} {w : World} (hm : MR ρ H0 w) {a : Option Addr} {n c : Nat} {kind stop : Int} {F : Nat → Int × Int × Int} (hr : RowsAt H0 a n F) {cs : Value} (hs : TV ρ (.slice a n c) cs) (m : Nat) :
    CallsIn Fence.wide m P0 4 #[cs, .int .i64 kind, .int .i64 stop] w fun e w' => e = .returned (.bool true) ∧ ∃ ρ' H', Ext H0 H' ∧ Post ρ H0 w ρ' H' w' := by
  obtain ⟨N, v, H', h1, rfl, hx⟩ := kinds_fn (X := X1) (c := c) (kind := kind) (stop := stop) x1_4 x1_12 (fun _ => rfl) x1_13 x1_14 x1_49 hr
  refine CallsIn.mono (evCall_sim (n := N) t0_ok x1_ok x1_here c0_ok mixed_ok hm (.cons hs (.cons (TV.int _ _) (.cons (TV.int _ _) .nil))) h1) ?_
  rintro e w' ⟨cv, ρ', rfl, htv, hp⟩
  exact ⟨by rw [← htv.flat rfl], ρ', H', hx, hp⟩

theorem kinds_nil (kind stop : Int) (w : World) (m : Nat) : CallsIn Fence.wide m P0 4 #[.slice none 0 0, .int .i64 kind, .int .i64 stop] w fun e w' => e = .returned (.bool true) ∧ Kept w w' := by
  refine CallsIn.mono (kinds_run (mr_empty w) (a := none) (n := 0) (c := 0) (F := fun _ => (0, 0, 0)) (fun i hi => absurd hi (Nat.not_lt_zero _)) (TV.base .nilSlice) m) ?_
  rintro e w' ⟨rfl, ρ', H', hx, hp⟩
  refine ⟨rfl, hp.os, hp.output, hp.size, fun b hb => hp.frame b hb ?_⟩
  rintro ⟨k, o, p, h2, h3, _⟩
  cases h3

/-- The cells of the first findings. -/
def rowL (F : Nat → Int × Int × Int) (n : Nat) : List Value := (List.range n).flatMap fun i => cl3 (F i)
theorem rowL_succ (F : Nat → Int × Int × Int) (n : Nat) : rowL F (n + 1) = rowL F n ++ cl3 (F n) := by
  simp [rowL, List.range_succ]
theorem rowL_len (F : Nat → Int × Int × Int) (n : Nat) : (rowL F n).length = n * 3 := by
  induction n with
  | zero => rfl
  | succ n ih => rw [rowL_succ, List.length_append, ih]; simp [cl3]; omega
theorem rowL_at (F : Nat → Int × Int × Int) {n i : Nat} (hi : i < n) : ((rowL F n).drop (i * 3)).take 3 = cl3 (F i) := by
  induction n with
  | zero => omega
  | succ n ih =>
    have hl := rowL_len F n
    rw [rowL_succ]
    rcases Nat.lt_or_eq_of_le (Nat.le_of_lt_succ hi) with h | rfl
    · rw [List.drop_append_of_le_length (by omega), List.take_append_of_le_length (by rw [List.length_drop]; omega)]
      exact ih h
    · rw [← hl, List.drop_left]
      rfl
theorem rowL_flat (F : Nat → Int × Int × Int) (n : Nat) {j : Nat} {v : Value} (h : (rowL F n)[j]? = some v) : flat1 v = true ∧ ∃ i k, i < n ∧ k < 3 ∧ j = i * 3 + k ∧ (cl3 (F i))[k]? = some v := by
  have hj : j < n * 3 := by rw [← rowL_len F n]; exact (List.getElem?_eq_some_iff.1 h).1
  have h1 := rowL_at F (n := n) (i := j / 3) (by omega)
  have h2 : (cl3 (F (j / 3)))[j % 3]? = some v := by
    rw [← h1, List.getElem?_take, if_pos (by omega), List.getElem?_drop, show j / 3 * 3 + j % 3 = j by omega]
    exact h
  refine ⟨?_, j / 3, j % 3, by omega, by omega, by omega, h2⟩
  have h3 := List.mem_of_getElem? h2
  simp only [cl3, List.mem_cons, List.not_mem_nil, or_false] at h3
  rcases h3 with rfl | rfl | rfl <;> rfl

theorem kinds_some (kind stop : Int) (w : World) (m : Nat) {b off n cp : Nat} {F : Nat → Int × Int × Int} {c : Array Value} {t : TypeId} {fz : Nat × Nat} (hb : w.heap[b]? = some (.cells c t fz)) (hcap : n ≤ cp)
    (hrow : ∀ i k v, i < n → (cl3 (F i))[k]? = some v → c[off + (i * 3 + k)]? = some v) (hfz : ∀ j, j < n * 3 → ¬ (fz.1 ≤ off + j ∧ off + j < fz.2)) :
    CallsIn Fence.wide m P0 4 #[.slice (some ⟨b, off, none⟩) n cp, .int .i64 kind, .int .i64 stop] w fun e w' => e = .returned (.bool true) ∧ Kept w w' := by
  have hcells : ∀ j v, (rowL F n)[j]? = some v → c[off + j]? = some v := fun j v h => by
    obtain ⟨_, i, k, h1, h2, rfl, h3⟩ := rowL_flat F n h
    exact hrow i k v h1 h3
  let L := if n = 0 then 0 else off + n * 3
  have hL : L ≤ c.size := by
    show (if n = 0 then 0 else off + n * 3) ≤ c.size
    split
    · omega
    · have := hrow (n - 1) 2 _ (by omega) rfl
      have := (Array.getElem?_eq_some_iff.1 this).1
      omega
  let ρ : Inj := fun k => if k = 0 then some ⟨b, off, L⟩ else none
  have hρ : ρ 0 = some ⟨b, off, L⟩ := rfl
  let H0 : AH := E0.alloc (.cells (rowL F n) t)
  have hg : H0.get 0 = some (.cells (rowL F n) t) := AH.get_alloc_same E0 _
  have hρi : ∀ {k p}, ρ k = some p → k = 0 ∧ p = ⟨b, off, L⟩ := fun {k p} h => by
    by_cases e : k = 0
    · subst e; cases h; exact ⟨rfl, rfl⟩
    · have h : (if k = 0 then some ⟨b, off, L⟩ else none) = some p := h
      rw [if_neg e] at h; cases h
  have hm : MR ρ H0 w := by
    refine ⟨fun k p h => ?_, fun k o p h1 h2 => ?_, fun k k' o o' p p' _ _ h1 h2 _ => ?_⟩
    · rw [(hρi h).1]; exact Nat.zero_lt_one
    · obtain ⟨rfl, rfl⟩ := hρi h2
      rw [hg] at h1; cases h1
      refine ⟨_, hb, .cells (fun i v hv => ?_) (fun i h3 h4 => ?_) (fun h => ?_) hL⟩
      · refine ⟨v, hcells i v hv, ?_⟩
        have := (rowL_flat F n hv).1
        cases v <;> first | exact .base (.bool _) | exact .base (.int _ _) | exact .base (.string _) | (cases this; done)
      · have h4 : i < (if n = 0 then 0 else off + n * 3) := h4
        have h3 : off ≤ i := h3
        split at h4
        · omega
        · have := hfz (i - off) (by omega)
          rwa [show off + (i - off) = i by omega] at this
      · rw [rowL_len] at h ⊢
        show off + n * 3 ≤ (if n = 0 then 0 else off + n * 3)
        rw [if_neg (by omega)]; exact Nat.le_refl _
    · rw [(hρi h1).1, (hρi h2).1]
  refine CallsIn.mono (kinds_run hm (a := some ⟨0, 0, none⟩) (n := n) (c := 2 * cp + 1) (F := F) (fun i hi => ⟨0, 0, _, _, rfl, Nat.zero_lt_one, hg, by rw [rowL_len]; omega, by rw [Nat.zero_add]; exact rowL_at F hi⟩)
    (TV.base (.slice (o := 0) hρ ⟨hcap, fun _ => rfl, fun h => by omega⟩)) m) ?_
  rintro e w' ⟨rfl, ρ', H', hx, hp⟩
  refine ⟨rfl, hp.os, hp.output, hp.size, fun q hq => ?_⟩
  by_cases e : q = b
  · subst e
    obtain ⟨O', h1, h2⟩ := hp.outs 0 _ _ _ hg hρ hb
    obtain ⟨c2, rfl, h3, h4⟩ := h2 c t fz rfl
    have hg' : H'.get 0 = some (.cells (rowL F n) t) := hx.get Nat.zero_lt_one hg
    obtain ⟨O2, h5, h6⟩ := hp.mr.blk 0 _ _ hg' (hp.le 0 _ hρ)
    have h1 : w'.heap[q]? = some (.cells c2 t fz) := h1
    have h5 : w'.heap[q]? = some O2 := h5
    rw [h1] at h5; cases h5
    rw [h1, hb]
    have : c2 = c := by
      apply Array.ext_getElem?
      intro j
      by_cases hj : j < off ∨ L ≤ j
      · exact h4 j hj
      · have hj' : j < (if n = 0 then 0 else off + n * 3) := by
          have : ¬ (if n = 0 then 0 else off + n * 3) ≤ j := fun h => hj (.inr h)
          omega
        split at hj'
        · omega
        · have hlt : j - off < (rowL F n).length := by rw [rowL_len]; omega
          have h7 : (rowL F n)[j - off]? = some (rowL F n)[j - off] := List.getElem?_eq_getElem hlt
          cases h6 with
          | cells k1 k2 k3 k4 =>
            obtain ⟨v', k5, k6⟩ := k1 _ _ h7
            have := k6.flat1 (rowL_flat F n h7).1
            subst this
            have k8 := hcells _ _ h7
            have e1 : off + (j - off) = j := by omega
            rw [e1] at k8
            have k5 : c2[off + (j - off)]? = _ := k5
            rw [e1] at k5
            rw [k5, k8]
    rw [this]
  · refine hp.frame q hq ?_
    rintro ⟨k, o, p, h2, h3, h4⟩
    obtain ⟨rfl, rfl⟩ := hρi h3
    exact e h4.symm
end Go.Ak
