/- The statement's own function: whatever row comes in, it returns true. -/
import Derived.Test.YtieponoccflocaaDoorC
namespace Go.Proofs.YtieponoccflocaaDoor
open Go Go.RowKit Go.Lib

/-- What the listed variables hold. -/
structure Tabs (w : World) : Prop where
  tab : TabIs Tryd.prog w "internal/strconv.uint64pow10" .u64 pow10Tab
  ro : ∀ r, r < 6 → w.cell? ⟨0, r, none⟩ = some (.string (rw' r))
  st : ∀ s, s < 5 → w.cell? ⟨1, s, none⟩ = some (.string (sw s))
theorem Tabs.below {w w' : World} (h : Tabs w) (hb : Below w.heap.size w w') : Tabs w' :=
  ⟨tab_below h.tab hb, fun r hr => cell_keep hb (h.ro r hr), fun s hs => cell_keep hb (h.st s hs)⟩

/-- A row's line, either way. -/
def lineOf (z d r s l v : Int) : ByteArray := if noB z d r s l v then ⟨#[]⟩ else lineS z.toNat d.toNat r.toNat s.toNat l.toNat v.toNat

def I64 (n : Int) : Prop := -9223372036854775808 ≤ n ∧ n ≤ 9223372036854775807

theorem rline_any (z d r s l v : Int) (hz : I64 z) (hd : I64 d) (hl : I64 l) (hv : I64 v) (w : World) (ht : Tabs w) :
    Calls Tryd.prog 5 #[row z d r s l v] w fun e w' => e = .returned (.string (lineOf z d r s l v)) ∧ Below w.heap.size w w' := by
  unfold lineOf
  by_cases h : noB z d r s l v = true
  · rw [if_pos h]; exact rline_no z d r s l v h w
  · rw [if_neg h]
    simp only [noB, Bool.or_eq_true, decide_eq_true_eq] at h
    obtain ⟨z, rfl⟩ : ∃ k : Nat, z = k := ⟨z.toNat, by omega⟩
    obtain ⟨d, rfl⟩ : ∃ k : Nat, d = k := ⟨d.toNat, by omega⟩
    obtain ⟨r, rfl⟩ : ∃ k : Nat, r = k := ⟨r.toNat, by omega⟩
    obtain ⟨s, rfl⟩ : ∃ k : Nat, s = k := ⟨s.toNat, by omega⟩
    obtain ⟨l, rfl⟩ : ∃ k : Nat, l = k := ⟨l.toNat, by omega⟩
    obtain ⟨v, rfl⟩ : ∃ k : Nat, v = k := ⟨v.toNat, by omega⟩
    exact rline_yes z d r s l v hz.2 hd.2 hl.2 hv.2 (by omega) (by omega) (by omega) w ht.tab (ht.ro r (by omega)) (ht.st s (by omega))

theorem line_any (z d r s l v : Int) (hz : I64 z) (hd : I64 d) (hl : I64 l) (hv : I64 v) (w : World) :
    Calls Tryd.prog 6 #[row z d r s l v] w fun e w' => e = .returned (.string (lineOf z d r s l v)) ∧ Below w.heap.size w w' := by
  unfold lineOf
  by_cases h : noB z d r s l v = true
  · rw [if_pos h]; exact line_no z d r s l v h w
  · rw [if_neg h]
    simp only [noB, Bool.or_eq_true, decide_eq_true_eq] at h
    obtain ⟨z, rfl⟩ : ∃ k : Nat, z = k := ⟨z.toNat, by omega⟩
    obtain ⟨d, rfl⟩ : ∃ k : Nat, d = k := ⟨d.toNat, by omega⟩
    obtain ⟨r, rfl⟩ : ∃ k : Nat, r = k := ⟨r.toNat, by omega⟩
    obtain ⟨s, rfl⟩ : ∃ k : Nat, s = k := ⟨s.toNat, by omega⟩
    obtain ⟨l, rfl⟩ : ∃ k : Nat, l = k := ⟨l.toNat, by omega⟩
    obtain ⟨v, rfl⟩ : ∃ k : Nat, v = k := ⟨v.toNat, by omega⟩
    exact line_yes z d r s l v hz.2 hd.2 hl.2 hv.2 (by omega) (by omega) (by omega) w

theorem lineOf_anchor : lineOf 3 0 1 0 0 0 = ⟨#[51, 32, 48, 32, 102, 114, 101, 101, 32, 101, 109, 112, 116, 121, 32, 48, 32, 48, 10]⟩ := by
  have e : noB 3 0 1 0 0 0 = false := by decide
  unfold lineOf
  rw [e]
  rw [if_neg (by decide)]
  show lineS 3 0 1 0 0 0 = _
  simp only [lineS, dg, decDigits_one (show 3 < 10 by omega), decDigits_one (show 0 < 10 by omega)]
  rfl

theorem anchor_true (w : World) (ht : Tabs w) : Calls Tryd.prog 4 #[] w fun e w' => e = .returned (.bool true) ∧ Below w.heap.size w w' := by
  have i0 : ∀ n : Nat, n < 100 → I64 n := fun n hn => ⟨by omega, by omega⟩
  have c := rline_any 3 0 1 0 0 0 (i0 3 (by omega)) (i0 0 (by omega)) (i0 0 (by omega)) (i0 0 (by omega)) w ht
  rw [lineOf_anchor] at c
  unfold row at c
  clear i0
  go_enter Tryd.func4, Tryd.ntmps4
  go_wp2_with (go_at_call 5; refine c.mono ?_; rintro e w2 ⟨rfl, hb2⟩)
  go_ret
  exact ⟨rfl, hb2⟩

set_option maxHeartbeats 2000000 in
set_option maxRecDepth 100000 in
theorem law_true (z d r s l v : Int) (hz : I64 z) (hd : I64 d) (hl : I64 l) (hv : I64 v) (w : World) (ht : Tabs w) :
    Calls Tryd.prog 3 #[row z d r s l v] w fun e w' => e = .returned (.bool true) ∧ Below w.heap.size w w' := by
  have c1 := fun w ht => rline_any z d r s l v hz hd hl hv w ht
  have c2 := fun w => line_any z d r s l v hz hd hl hv w
  have hA : Tabs (w.alloc (.cells #[.int .i64 z, .int .i64 d, .int .i64 r, .int .i64 s, .int .i64 l, .int .i64 v] 23)) := ht.below ((Below.refl _ w).alloc (Nat.le_refl _) _)
  unfold row at c1 c2 ⊢
  go_enter Tryd.func3, Tryd.ntmps3
  go_wp2_with (go_at_call 4; refine (anchor_true _ hA).mono ?_; rintro e w2 ⟨rfl, hb2⟩)
  have k0 : w2.cell? ⟨w.heap.size, 0, none⟩ = some (.int .i64 z) := cell_keep hb2 (by simp)
  have k1 : w2.cell? ⟨w.heap.size, 1, none⟩ = some (.int .i64 d) := cell_keep hb2 (by simp)
  have k2 : w2.cell? ⟨w.heap.size, 2, none⟩ = some (.int .i64 r) := cell_keep hb2 (by simp)
  have k3 : w2.cell? ⟨w.heap.size, 3, none⟩ = some (.int .i64 s) := cell_keep hb2 (by simp)
  have k4 : w2.cell? ⟨w.heap.size, 4, none⟩ = some (.int .i64 l) := cell_keep hb2 (by simp)
  have k5 : w2.cell? ⟨w.heap.size, 5, none⟩ = some (.int .i64 v) := cell_keep hb2 (by simp)
  have ht2 : Tabs w2 := hA.below hb2
  have hb3 : Below w.heap.size w w2 := then' ((Below.refl _ w).alloc (Nat.le_refl _) _) hb2
  clear hA hb2
  go_region_held3 (fun w' => w'.cell? ⟨w.heap.size, 0, none⟩ = some (.int .i64 z) ∧ w'.cell? ⟨w.heap.size, 1, none⟩ = some (.int .i64 d) ∧ w'.cell? ⟨w.heap.size, 2, none⟩ = some (.int .i64 r) ∧
      w'.cell? ⟨w.heap.size, 3, none⟩ = some (.int .i64 s) ∧ w'.cell? ⟨w.heap.size, 4, none⟩ = some (.int .i64 l) ∧ w'.cell? ⟨w.heap.size, 5, none⟩ = some (.int .i64 v) ∧ Tabs w')
    (first
      | (go_split_ands; refine ⟨?_, ?_, ?_, ?_, ?_, ?_, ?_⟩ <;> first | exact cell_keep hb (by assumption) | exact Tabs.below (by assumption) hb)
      | exact ⟨k0, k1, k2, k3, k4, k5, ht2.tab, ht2.ro, ht2.st⟩)
    (first
      | (go_at_call 5; refine (c1 _ ?_).mono ?_; (go_split_ands; assumption); rintro e w' ⟨rfl, hb⟩)
      | (go_at_call 6; refine (c2 _).mono ?_; rintro e w' ⟨rfl, hb⟩))
  rename_i w1 b1 hH
  have hw : Below w.heap.size w w' := then' (then' hb3.drew b1) hb
  clear hH hb b1 hb3 ht2 k0 k1 k2 k3 k4 k5 c1 c2
  go_wp2
  go_ret
  exact ⟨rfl, hw⟩
end Go.Proofs.YtieponoccflocaaDoor
