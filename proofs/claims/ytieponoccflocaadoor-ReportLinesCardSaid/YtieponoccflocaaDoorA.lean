/- A number's digits, as the document's reference makes them: for a number of at least 0 they are the decimal numeral. -/
import Derived.Test.YtieponoccflocaaDoorChecked
import Derived.Lib.ItoaNum
import Derived.Lib.Hide
import Derived.LoopTactic
import Derived.WalkKit
import Derived.WalkSpells
import Derived.Lib.Walk
import Derived.IntWalk
import Derived.KernelRfl
namespace Go.Proofs.YtieponoccflocaaDoor
open Go Go.RowKit Go.Lib

/-- The digits 0 to 9. -/
def tens : ByteArray := ⟨#[48, 49, 50, 51, 52, 53, 54, 55, 56, 57]⟩
theorem tens_piece : ∀ i : Fin 10, (tens.extract i.val (i.val + 1)).data.toList = decDigits i.val := by
  intro i
  rw [decDigits_one i.isLt]
  revert i
  decide +kernel

theorem tens_of {k : Nat} (h : k < 10) : (tens.extract k (k + 1)).data.toList = decDigits k := tens_piece ⟨k, h⟩

theorem nDigits_le : ∀ (m u : Nat), u < 10 ^ (m + 1) → nDigits u ≤ m + 1
  | 0, u, h => by rw [nDigits_small (by simpa using h)]; omega
  | m + 1, u, h => by
    by_cases hu : u < 10
    · rw [nDigits_small hu]; omega
    · rw [nDigits_big hu]
      have := nDigits_le m (u / 10) (by rw [Nat.div_lt_iff_lt_mul (by omega)]; rwa [Nat.pow_succ] at h)
      omega
theorem decDigits_le (u : Nat) (h : (u : Int) ≤ 9223372036854775807) : (decDigits u).length ≤ 19 := by
  rw [decDigits_length]
  exact nDigits_le 18 u (by omega)
theorem decDigits_big {u : Nat} (h : ¬ u < 10) : decDigits u = decDigits (u / 10) ++ decDigits (u % 10) := by
  rw [decDigits, dif_neg h, decDigits_one (i := u % 10) (by omega)]
theorem ret_string {a : ByteArray} {b : List UInt8} (h : a.data.toList = b) : Ending.returned (.string a) = .returned (.string ⟨b.toArray⟩) := by
  subst h; rfl

theorem number_any (n : Nat) (h1 : (n : Int) ≤ 9223372036854775807) (w : World) :
    Calls Tryd.prog 9 #[.int .i64 n] w fun e w' => e = .returned (.string ⟨(decDigits n).toArray⟩) ∧ w' = w := by
  have hl := decDigits_le n h1
  go_enter Tryd.func9, Tryd.ntmps9
  go_wp2
  go_loop [0, 3] (fun a s => ∃ (k : Nat) (t : ByteArray), k ≤ n ∧ a = .int .i64 k ∧ s = .string t ∧ Hid (decDigits n = decDigits k ++ t.data.toList)) (fun a _ => (Lib.intOf a).toNat)
  case atStart => exact ⟨n, _, Nat.le_refl _, rfl, rfl, Lib.hid (by simp)⟩
  case round =>
    obtain ⟨k, t, hk, rfl, rfl, H⟩ := hrel
    have hts : t.size ≤ 19 := by
      have := congrArg List.length H.out
      rw [List.length_append] at this
      have e : t.size = t.data.toList.length := rfl
      omega
    have hsz : min (k % 10 + 1) 10 - k % 10 + t.size ≤ 9223372036854775807 := by omega
    have hx := tens_of (k := k % 10) (by omega)
    have HX := Lib.hid hx
    clear hx
    by_cases hlt : k < 10
    · have hz : (((k : Int) / 10) == 0) = true := by simp; omega
      go_wp2
      go_ret
      refine ⟨ret_string ?_, rfl⟩
      rw [H.out]
      show ((tens.extract (k % 10) (k % 10 + 1)) ++ t).data.toList = _
      rw [ByteArray.data_append, Array.toList_append, HX.out, Nat.mod_eq_of_lt hlt]
    · have hz : (((k : Int) / 10) == 0) = false := by simp; omega
      go_wp2
      go_round
      case rel =>
        refine ⟨k / 10, _, by omega, by simp, rfl, Lib.hid ?_⟩
        rw [H.out, decDigits_big hlt]
        show _ = _ ++ ((tens.extract (k % 10) (k % 10 + 1)) ++ t).data.toList
        rw [ByteArray.data_append, Array.toList_append, HX.out, List.append_assoc]
      case measure => simp [Lib.intOf]; omega
end Go.Proofs.YtieponoccflocaaDoor
