/- A row's line, as the program makes it. -/
import Derived.Test.YtieponoccflocaaDoorB
import Derived.Test.YtieponoccflocaaDoorShelf
import Derived.Lib.LaidTab
import Derived.Lib.ItoaMem
import Derived.Deep.RegionHeld3
import Derived.Laws.Pointers
import Derived.StillTactics
namespace Go.Proofs.YtieponoccflocaaDoor
open Go Go.RowKit Go.Lib

theorem tab_below {P : Program} {w w' : World} {name : String} {k : IntKind} {zs : List Int} (h : TabIs P w name k zs) (hb : Below w.heap.size w w') : TabIs P w' name k zs := by
  unfold TabIs World.var? at *
  cases hg : P.globalNamed name with
  | none => simp [hg] at h
  | some g =>
    simp only [hg, Option.bind_some] at h ⊢
    have hlt : g < w.heap.size := by
      rcases Nat.lt_or_ge g w.heap.size with h' | h'
      · exact h'
      · rw [Array.getElem?_eq_none h'] at h; simp at h
    rw [hb.block g hlt]
    exact h
theorem below_grow' (w : World) (k : Nat) (os : Array Obj) : Below w.heap.size w (Sort.grow (w.drewN k) os) := by
  refine (below_drewN (Below.refl _ w) k).trans ⟨rfl, rfl, rfl, ?_, fun j hj => ?_⟩
  · show _ ≤ (_ ++ os).size
    rw [Array.size_append]; omega
  · show (_ ++ os)[j]? = _
    rw [Array.getElem?_append_left (by simpa using hj)]
theorem then' {a b c : World} (h : Below a.heap.size a b) (k : Below b.heap.size b c) : Below a.heap.size a c := h.trans (k.mono h.size)
theorem cell_keep {w w' : World} {b o : Nat} {v : Value} (hb : Below w.heap.size w w') (h : w.cell? ⟨b, o, none⟩ = some v) : w'.cell? ⟨b, o, none⟩ = some v := by
  rw [hb.cell (p := ⟨b, o, none⟩) (World.block_lt_of_cell? w _ h), h]

theorem cell_more {w : World} {b o : Nat} {v : Value} (h : w.cell? ⟨b, o, none⟩ = some v) (O : Obj) : (w.alloc O).cell? ⟨b, o, none⟩ = some v := by
  rw [World.cell?_alloc_past _ _ _ (World.block_lt_of_cell? w _ h), h]
theorem itoa_dg (n : Nat) (h1 : (n : Int) ≤ 9223372036854775807) (w : World) (htab : Lib.TabIs Tryd.prog w "internal/strconv.uint64pow10" .u64 Lib.pow10Tab) :
    Calls Tryd.prog 7 #[.int .i64 n] w fun e w' => e = .returned (.string (dg n)) ∧ Below w.heap.size w w' :=
  (Tryd.strconv_Itoa n (by omega) h1 w htab).mono fun e w' ⟨he, k, os, hw⟩ => ⟨by rw [he, itoa_nonneg]; rfl, hw ▸ below_grow' w k os⟩

/-- The least of four numbers. -/
theorem min_four (z d l v : Int) : ∃ m : Int, (m < 0 ↔ z < 0 ∨ d < 0 ∨ l < 0 ∨ v < 0) ∧
    ∀ w, (Builtin.min_ #[3, 3, 3, 3] 3 #[.int .i64 z, .int .i64 d, .int .i64 l, .int .i64 v]).run Tryd.prog w = .ok (.int .i64 m) w := by
  refine ⟨_, ?_, fun w => by simp [Builtin.min_, Builtin.min2]; rfl⟩
  split <;> split <;> split <;> omega

def joined (a b c d e f : ByteArray) : ByteArray := a ++ sp ++ b ++ sp ++ c ++ sp ++ d ++ sp ++ e ++ sp ++ f
theorem join6 (w : World) (a b c d e f : ByteArray) (h : a.size + b.size + c.size + d.size + e.size + f.size ≤ 1000) :
    Calls Tryd.prog 8 #[.slice (some ⟨w.heap.size, 0, none⟩) 6 6, .string ⟨#[32]⟩] (w.alloc (.cells #[.string a, .string b, .string c, .string d, .string e, .string f] 9))
      fun x w' => x = .returned (.string (joined a b c d e f)) ∧ Below w.heap.size w w' := by
  have e1 : ∀ x : ByteArray, x.data.toList.length = x.size := fun _ => rfl
  have := Tryd.strings_Join w.heap.size 0 6 [a, b, c, d, e, f] ⟨#[32]⟩ (w.alloc (.cells #[.string a, .string b, .string c, .string d, .string e, .string f] 9)) (fun j x hx => by
      rw [World.cell?_alloc_at _ _ _ _ rfl]
      rcases j with _ | _ | _ | _ | _ | _ | j <;> first | (cases hx; rfl) | (simp at hx)) (by simp) (by simp) (by simp) (by
      simp only [List.map_cons, List.map_nil, Lib.join_cons, Lib.joinTail, List.flatten_cons, List.flatten_nil, List.length_append, e1]
      simp
      omega)
  refine this.mono fun x w' ⟨h1, h2⟩ => ⟨?_, ((Below.refl _ w).alloc (Nat.le_refl _) _).trans (h2.mono (by simp))⟩
  rw [h1]
  refine (ret_string ?_).symm
  simp [joined, Lib.join_cons, Lib.joinTail, sp, ByteArray.data_append]

/-- What is held of the world while the line is made. -/
def RowAt (N : Nat) (z d r s l v : Nat) (w' : World) : Prop :=
  w'.cell? ⟨N, 0, none⟩ = some (.int .i64 z) ∧ w'.cell? ⟨N, 1, none⟩ = some (.int .i64 d) ∧ w'.cell? ⟨N, 2, none⟩ = some (.int .i64 r) ∧
      w'.cell? ⟨N, 3, none⟩ = some (.int .i64 s) ∧ w'.cell? ⟨N, 4, none⟩ = some (.int .i64 l) ∧ w'.cell? ⟨N, 5, none⟩ = some (.int .i64 v)

set_option maxHeartbeats 4000000 in
set_option maxRecDepth 100000 in
theorem rline_yes (z d r s l v : Nat) (hz : (z : Int) ≤ 9223372036854775807) (hd : (d : Int) ≤ 9223372036854775807) (hl : (l : Int) ≤ 9223372036854775807) (hv : (v : Int) ≤ 9223372036854775807)
    (hr1 : 1 ≤ r) (hr2 : r ≤ 5) (hs : s ≤ 4) (w : World) (htab : Lib.TabIs Tryd.prog w "internal/strconv.uint64pow10" .u64 Lib.pow10Tab)
    (hro : w.cell? ⟨0, r, none⟩ = some (.string (rw' r))) (hst : w.cell? ⟨1, s, none⟩ = some (.string (sw s))) :
    Calls Tryd.prog 5 #[row z d r s l v] w fun e w' => e = .returned (.string (lineS z d r s l v)) ∧ Below w.heap.size w w' := by
  unfold row
  have a1 : decide ((r : Int) < 1) = false := by simp; omega
  have a2 : decide ((5 : Int) < r) = false := by simp; omega
  have a3 : decide ((s : Int) < 0) = false := by simp
  have a4 : decide ((4 : Int) < s) = false := by simp; omega
  have r0 : 0 ≤ (r : Int) := by omega
  have r6 : (r : Int) < 6 := by omega
  have s0 : 0 ≤ (s : Int) := by omega
  have s5 : (s : Int) < 5 := by omega
  obtain ⟨m, hm, hmin⟩ := min_four z d l v
  have m0 : decide (m < 0) = false := by simp; omega
  clear hm
  have htw : ∀ o, TabIs Tryd.prog (w.alloc o) "internal/strconv.uint64pow10" .u64 pow10Tab := fun o => tabIs_alloc htab o
  have hb0 : (0 : Nat) < w.heap.size := World.block_lt_of_cell? w _ hro
  have hb1 : (1 : Nat) < w.heap.size := World.block_lt_of_cell? w _ hst
  go_enter Tryd.func5, Tryd.ntmps5
  go_wp2
  go_outline
  go_region_held3 (fun w' => w'.cell? ⟨w.heap.size, 0, none⟩ = some (.int .i64 z) ∧ w'.cell? ⟨w.heap.size, 1, none⟩ = some (.int .i64 d) ∧ w'.cell? ⟨w.heap.size, 2, none⟩ = some (.int .i64 r) ∧
      w'.cell? ⟨w.heap.size, 3, none⟩ = some (.int .i64 s) ∧ w'.cell? ⟨w.heap.size, 4, none⟩ = some (.int .i64 l) ∧ w'.cell? ⟨w.heap.size, 5, none⟩ = some (.int .i64 v) ∧
      w'.cell? ⟨0, r, none⟩ = some (.string (rw' r)) ∧ w'.cell? ⟨1, s, none⟩ = some (.string (sw s)) ∧ Lib.TabIs Tryd.prog w' "internal/strconv.uint64pow10" .u64 Lib.pow10Tab)
    (first
      | (go_split_ands; refine ⟨?_, ?_, ?_, ?_, ?_, ?_, ?_, ?_, ?_⟩ <;> first | exact cell_keep hb (by assumption) | exact tab_below (by assumption) hb)
      | (go_split_ands; refine ⟨?_, ?_, ?_, ?_, ?_, ?_, ?_, ?_, ?_⟩ <;> first | exact cell_more (by assumption) _ | exact tabIs_alloc (by assumption) _)
      | (refine ⟨?_, ?_, ?_, ?_, ?_, ?_, ?_, ?_, ?_⟩ <;> first | exact htw _ | go_keep))
    (first | (go_at_call 7; refine (itoa_dg _ (by omega) _ ?_).mono ?_; (go_split_ands; assumption); rintro e w' ⟨rfl, hb⟩))
  have q1 := dg_size z hz
  have q2 := dg_size d hd
  have q3 := rw_size r (by omega)
  have q4 := sw_size s (by omega)
  have q5 := dg_size l hl
  have q6 := dg_size v hv
  rename_i w1 k1 w2 k2 w3 k3 hH
  clear hH hmin htw
  have hbw : Below w.heap.size w w' := then' (then' (then' (then' ((Below.refl _ w).alloc (Nat.le_refl _) _).drew k1) k2) k3) hb
  clear hb k1 k2 k3
  have g : (joined (dg z) (dg d) (rw' r) (sw s) (dg l) (dg v)).size + 1 ≤ 9223372036854775807 := by
    unfold joined
    simp only [ByteArray.size_append]; have : sp.size = 1 := rfl; omega
  go_wp2_with (go_at_call 8; refine (join6 _ _ _ _ _ _ _ (by omega)).mono ?_; rintro e w2 ⟨rfl, hb2⟩)
  go_ret
  exact ⟨rfl, then' hbw hb2⟩

set_option maxRecDepth 100000 in
theorem rline_no (z d r s l v : Int) (h : noB z d r s l v = true) (w : World) :
    Calls Tryd.prog 5 #[row z d r s l v] w fun e w' => e = .returned (.string ⟨#[]⟩) ∧ Below w.heap.size w w' := by
  unfold row
  obtain ⟨m, hm, hmin⟩ := min_four z d l v
  by_cases h0 : r < 1
  · go_enter Tryd.func5, Tryd.ntmps5
    go_wp2
    go_ret
    exact ⟨rfl, (Below.refl _ _).alloc (Nat.le_refl _) _⟩
  by_cases h1 : 5 < r
  · go_enter Tryd.func5, Tryd.ntmps5
    go_wp2
    go_ret
    exact ⟨rfl, (Below.refl _ _).alloc (Nat.le_refl _) _⟩
  by_cases h2 : s < 0
  · go_enter Tryd.func5, Tryd.ntmps5
    go_wp2
    go_ret
    exact ⟨rfl, (Below.refl _ _).alloc (Nat.le_refl _) _⟩
  by_cases h3 : 4 < s
  · go_enter Tryd.func5, Tryd.ntmps5
    go_wp2
    go_ret
    exact ⟨rfl, (Below.refl _ _).alloc (Nat.le_refl _) _⟩
  have h4 : m < 0 := by
    rw [hm]
    simp only [noB, Bool.or_eq_true, decide_eq_true_eq] at h
    omega
  clear h hm
  go_enter Tryd.func5, Tryd.ntmps5
  go_wp2
  go_ret
  exact ⟨rfl, (Below.refl _ _).alloc (Nat.le_refl _) _⟩
end Go.Proofs.YtieponoccflocaaDoor
