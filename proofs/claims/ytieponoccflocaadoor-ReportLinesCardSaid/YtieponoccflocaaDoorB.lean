/- The document's line of a row, as the statement's own function makes it. -/
import Derived.Test.YtieponoccflocaaDoorA
import Derived.Below
import Derived.WalkSmall
import Derived.Deep.QuietTactic
import Derived.BigQuiet
import Derived.BigGuard
import Derived.Deep.RegionHeld3
import Derived.Laws.Pointers
import Derived.StillTactics
namespace Go.Proofs.YtieponoccflocaaDoor
open Go Go.RowKit Go.Lib

def row (z d r s l v : Int) : Value := .agg #[.int .i64 z, .int .i64 d, .int .i64 r, .int .i64 s, .int .i64 l, .int .i64 v]
def dg (n : Nat) : ByteArray := ⟨(decDigits n).toArray⟩
theorem dg_size (n : Nat) (h1 : (n : Int) ≤ 9223372036854775807) : (dg n).size ≤ 19 := by
  have := decDigits_le n h1
  show (decDigits n).toArray.size ≤ 19
  simpa using this
theorem number_dg (n : Nat) (h1 : (n : Int) ≤ 9223372036854775807) (w : World) :
    Calls Tryd.prog 9 #[.int .i64 n] w fun e w' => e = .returned (.string (dg n)) ∧ w' = w :=
  number_any n h1 w

def roles : Array Value := #[Value.string { data := #[] }, Value.string { data := #[102, 114, 101, 101] },
    Value.string { data := #[111, 112, 101, 110] }, Value.string { data := #[97, 114, 101, 97] },
    Value.string { data := #[98, 97, 100] }, Value.string { data := #[99, 108, 111, 115, 101, 100] }]
def states : Array Value := #[Value.string { data := #[101, 109, 112, 116, 121] }, Value.string { data := #[111, 112, 101, 110] },
    Value.string { data := #[102, 117, 108, 108] }, Value.string { data := #[114, 101, 97, 100, 111, 110, 108, 121] },
    Value.string { data := #[111, 102, 102, 108, 105, 110, 101] }]
def strOf : Value → ByteArray
  | .string s => s
  | _ => ⟨#[]⟩
def rw' (r : Nat) : ByteArray := strOf (roles.getD r undef)
def sw (s : Nat) : ByteArray := strOf (states.getD s undef)

theorem roles_get (r : Nat) (h : r < 6) : roles[r]? = some (.string (rw' r)) := by
  rcases r with _ | _ | _ | _ | _ | _ | r <;> first | rfl | omega
theorem states_get (s : Nat) (h : s < 5) : states[s]? = some (.string (sw s)) := by
  rcases s with _ | _ | _ | _ | _ | s <;> first | rfl | omega
theorem rw_size (r : Nat) (h : r < 6) : (rw' r).size ≤ 6 := by
  have : ∀ r : Fin 6, (rw' r.val).size ≤ 6 := by decide +kernel
  exact this ⟨r, h⟩
theorem sw_size (s : Nat) (h : s < 5) : (sw s).size ≤ 8 := by
  have : ∀ r : Fin 5, (sw r.val).size ≤ 8 := by decide +kernel
  exact this ⟨s, h⟩
def sp : ByteArray := ⟨#[32]⟩
def nl : ByteArray := ⟨#[10]⟩
/-- The document's line. -/
def lineS (z d r s l v : Nat) : ByteArray := dg z ++ sp ++ dg d ++ sp ++ rw' r ++ sp ++ sw s ++ sp ++ dg l ++ sp ++ dg v ++ nl

set_option maxHeartbeats 2000000 in
set_option maxRecDepth 100000 in
theorem line_yes (z d r s l v : Nat) (hz : (z : Int) ≤ 9223372036854775807) (hd : (d : Int) ≤ 9223372036854775807) (hl : (l : Int) ≤ 9223372036854775807) (hv : (v : Int) ≤ 9223372036854775807)
    (hr1 : 1 ≤ r) (hr2 : r ≤ 5) (hs : s ≤ 4) (w : World) :
    Calls Tryd.prog 6 #[row z d r s l v] w fun e w' => e = .returned (.string (lineS z d r s l v)) ∧ Below w.heap.size w w' := by
  unfold row
  have a1 : decide ((r : Int) < 1) = false := by simp; omega
  have a2 : decide ((5 : Int) < r) = false := by simp; omega
  have a3 : decide ((s : Int) < 0) = false := by simp
  have a4 : decide ((4 : Int) < s) = false := by simp; omega
  have z1 : decide ((z : Int) < 0) = false := by simp
  have d1 : decide ((d : Int) < 0) = false := by simp
  have l1 : decide ((l : Int) < 0) = false := by simp
  have v1 : decide ((v : Int) < 0) = false := by simp
  have r0 : 0 ≤ (r : Int) := by omega
  have r6 : (r : Int) < 6 := by omega
  have s0 : 0 ≤ (s : Int) := by omega
  have s5 : (s : Int) < 5 := by omega
  have cr : ∀ o1 o2, (((w.alloc o1).alloc (.cells roles 29)).alloc o2).cell? ⟨w.heap.size + 1, r, none⟩ = some (.string (rw' r)) := fun o1 o2 => by
    rw [World.cell?_alloc_past _ _ _ (by simp), World.cell?_alloc_at _ _ _ _ (by simp), roles_get r (by omega)]
  have cs : ∀ o1 o2, (((w.alloc o1).alloc o2).alloc (.cells states 30)).cell? ⟨w.heap.size + 1 + 1, s, none⟩ = some (.string (sw s)) := fun o1 o2 => by
    rw [World.cell?_alloc_at _ _ _ _ (by simp), states_get s (by omega)]
  unfold roles at cr
  unfold states at cs
  have q1 := dg_size z hz
  have q2 := dg_size d hd
  have q3 := rw_size r (by omega)
  have q4 := sw_size s (by omega)
  have q5 := dg_size l hl
  have q6 := dg_size v hv
  have g0 : (dg z).size + 1 ≤ 9223372036854775807 := by omega
  have g1 : (dg z).size + 1 + (dg d).size ≤ 9223372036854775807 := by omega
  have g2 : (dg z).size + 1 + (dg d).size + 1 ≤ 9223372036854775807 := by omega
  have g3 : (dg z).size + 1 + (dg d).size + 1 + (rw' r).size ≤ 9223372036854775807 := by omega
  have g4 : (dg z).size + 1 + (dg d).size + 1 + (rw' r).size + 1 ≤ 9223372036854775807 := by omega
  have g5 : (dg z).size + 1 + (dg d).size + 1 + (rw' r).size + 1 + (sw s).size ≤ 9223372036854775807 := by omega
  have g6 : (dg z).size + 1 + (dg d).size + 1 + (rw' r).size + 1 + (sw s).size + 1 ≤ 9223372036854775807 := by omega
  have g7 : (dg z).size + 1 + (dg d).size + 1 + (rw' r).size + 1 + (sw s).size + 1 + (dg l).size ≤ 9223372036854775807 := by omega
  have g8 : (dg z).size + 1 + (dg d).size + 1 + (rw' r).size + 1 + (sw s).size + 1 + (dg l).size + 1 ≤ 9223372036854775807 := by omega
  have g9 : (dg z).size + 1 + (dg d).size + 1 + (rw' r).size + 1 + (sw s).size + 1 + (dg l).size + 1 + (dg v).size ≤ 9223372036854775807 := by omega
  have g10 : (dg z).size + 1 + (dg d).size + 1 + (rw' r).size + 1 + (sw s).size + 1 + (dg l).size + 1 + (dg v).size + 1 ≤ 9223372036854775807 := by omega
  clear q1 q2 q3 q4 q5 q6
  go_enter Tryd.func6, Tryd.ntmps6
  go_wp2
  go_quiet ((go_at_call 9; exact Calls.quiet_of_same (number_dg _ (by omega) _)))
  go_wp2
  go_ret
  exact ⟨rfl, below_drewN ((((Below.refl _ _).alloc (Nat.le_refl _) _).alloc (by simp) _).alloc (by simp; omega) _) _⟩

def noB (z d r s l v : Int) : Bool := decide (r < 1) || decide (5 < r) || decide (s < 0) || decide (4 < s) || decide (z < 0) || decide (d < 0) || decide (l < 0) || decide (v < 0)
theorem line_no (z d r s l v : Int) (h : noB z d r s l v = true) (w : World) :
    Calls Tryd.prog 6 #[row z d r s l v] w fun e w' => e = .returned (.string ⟨#[]⟩) ∧ Below w.heap.size w w' := by
  unfold row
  unfold noB at h
  go_enter Tryd.func6, Tryd.ntmps6
  go_wp2
  all_goals
    go_ret
    exact ⟨rfl, (((Below.refl _ _).alloc (Nat.le_refl _) _).alloc (by simp) _).alloc (by simp; omega) _⟩
end Go.Proofs.YtieponoccflocaaDoor
