/- What the loop over the findings gathers: plain law; single operations on findings. -/
import Derived.Test.YtaoaddokgofifaaGreatAkB
import Derived.Test.YtaoaddokgofifaaGreatWpC
namespace Go.Ak
open Go Go.Proofs Go.Ev Go.Fv Go.Wp Go.Pr

/-! ### the gathered findings -/
/-- Of the first ones, those of a kind. -/
def pre (F : Nat → Int × Int × Int) (kind : Int) : Nat → List (Int × Int × Int)
  | 0 => []
  | i + 1 => if (F i).1 = kind then pre F kind i ++ [F i] else pre F kind i
/-- Of the first ones, how many are of a kind. -/
def cnt (F : Nat → Int × Int × Int) (kind : Int) : Nat → Nat
  | 0 => 0
  | i + 1 => if (F i).1 = kind then cnt F kind i + 1 else cnt F kind i
section
variable {F : Nat → Int × Int × Int} {kind : Int}
theorem pre_succ (i : Nat) : pre F kind (i + 1) = if (F i).1 = kind then pre F kind i ++ [F i] else pre F kind i := rfl
theorem cnt_succ (i : Nat) : cnt F kind (i + 1) = if (F i).1 = kind then cnt F kind i + 1 else cnt F kind i := rfl
theorem pre_yes {i : Nat} (h : (F i).1 = kind) : pre F kind (i + 1) = pre F kind i ++ [F i] := by simp [pre, h]
theorem pre_no {i : Nat} (h : (F i).1 ≠ kind) : pre F kind (i + 1) = pre F kind i := by simp [pre, h]
theorem pre_le (i : Nat) : (pre F kind i).length ≤ i := by
  induction i with
  | zero => simp [pre]
  | succ i ih =>
    rw [pre_succ]; split
    · simp; exact ih
    · omega
theorem pre_more {i n : Nat} (h : i ≤ n) : ∃ t, pre F kind n = pre F kind i ++ t := by
  induction n with
  | zero => obtain rfl : i = 0 := by omega
            exact ⟨[], by simp⟩
  | succ n ih =>
    rcases Nat.lt_or_eq_of_le h with h' | rfl
    · obtain ⟨t, ht⟩ := ih (by omega)
      rw [pre_succ n]; split
      · exact ⟨t ++ [F n], by rw [ht]; simp⟩
      · exact ⟨t, ht⟩
    · exact ⟨[], by simp⟩
theorem flat_len (l : List (Int × Int × Int)) : (l.flatMap cl3).length = l.length * 3 := by
  induction l with
  | nil => rfl
  | cons a l ih => simp only [List.flatMap_cons, List.length_append, ih, List.length_cons]; simp [cl3]; omega
/-- The next gathered finding is the one at hand. -/
theorem pre_at {i n : Nat} (hi : i < n) (h : (F i).1 = kind) : (pre F kind i).length < (pre F kind n).length ∧ (((pre F kind n).flatMap cl3).drop ((pre F kind i).length * 3)).take 3 = cl3 (F i) := by
  obtain ⟨t, ht⟩ := pre_more (F := F) (kind := kind) (show i + 1 ≤ n from hi)
  rw [pre_yes h] at ht
  refine ⟨by rw [ht]; simp, ?_⟩
  rw [ht, List.append_assoc, List.flatMap_append, List.drop_append_of_le_length (by rw [flat_len]; exact Nat.le_refl _), List.drop_of_length_le (by rw [flat_len]; exact Nat.le_refl _), List.nil_append, List.singleton_append, List.flatMap_cons]
  rw [List.take_append_of_le_length (by simp [cl3]), List.take_of_length_le (by simp [cl3])]
theorem cnt_le (i : Nat) : cnt F kind i ≤ i := by
  induction i with
  | zero => simp [cnt]
  | succ i ih => rw [cnt_succ]; split <;> omega
theorem cnt_pos (n : Nat) : 0 < cnt F kind n ↔ Has F n kind := by
  induction n with
  | zero => simp [cnt, Has]
  | succ n ih =>
    rw [cnt_succ]
    by_cases h : (F n).1 = kind
    · rw [if_pos h]; exact ⟨fun _ => ⟨n, by omega, h⟩, fun _ => by omega⟩
    · rw [if_neg h, ih]
      constructor
      · rintro ⟨j, hj, hk⟩; exact ⟨j, by omega, hk⟩
      · rintro ⟨j, hj, hk⟩
        rcases Nat.lt_or_eq_of_le (Nat.le_of_lt_succ hj) with h' | rfl
        · exact ⟨j, h', hk⟩
        · exact absurd hk h
end
/-- How many of each kind are there. -/
def thereL (F : Nat → Int × Int × Int) (i : Nat) : List Value := [nat1 0, nat1 (cnt F 1 i), nat1 (cnt F 2 i), nat1 (cnt F 3 i), nat1 (cnt F 4 i), nat1 (cnt F 5 i)]
theorem there_no {F : Nat → Int × Int × Int} {i : Nat} (h : ¬ (1 ≤ (F i).1 ∧ (F i).1 ≤ 5)) : thereL F (i + 1) = thereL F i := by
  have e : ∀ k : Int, 1 ≤ k → k ≤ 5 → cnt F k (i + 1) = cnt F k i := fun k h1 h2 => by
    rw [cnt_succ, if_neg (by rintro rfl; exact h ⟨h1, h2⟩)]
  simp only [thereL, e 1 (by decide) (by decide), e 2 (by decide) (by decide), e 3 (by decide) (by decide), e 4 (by decide) (by decide), e 5 (by decide) (by decide)]
theorem there_yes {F : Nat → Int × Int × Int} {i j : Nat} (hj : (F i).1 = (j : Int)) (h1 : 1 ≤ j) (h2 : j ≤ 5) : ∃ m, m ≤ i ∧ (thereL F i)[j]? = some (nat1 m) ∧ setMany (thereL F i) j [nat1 (m + 1)] = thereL F (i + 1) := by
  have e : ∀ k : Int, cnt F k (i + 1) = if (j : Int) = k then cnt F k i + 1 else cnt F k i := fun k => by rw [← hj]; rfl
  refine ⟨cnt F j i, cnt_le i, ?_⟩
  simp only [thereL, e]
  obtain rfl | rfl | rfl | rfl | rfl : j = 1 ∨ j = 2 ∨ j = 3 ∨ j = 4 ∨ j = 5 := by omega
  all_goals exact ⟨rfl, by simp [setMany]⟩

/-- The kinds, up to the worst. -/
def kN : Nat → Nat
  | 0 => 4
  | 1 => 5
  | 2 => 1
  | 3 => 3
  | _ => 2
theorem kN_there (F : Nat → Int × Int × Int) (n i : Nat) (hi : i < 5) : kN i < 6 ∧ (thereL F n)[kN i]? = some (nat1 (cnt F (kN i) n)) := by
  match i, hi with
  | 0, _ => exact ⟨by decide, rfl⟩
  | 1, _ => exact ⟨by decide, rfl⟩
  | 2, _ => exact ⟨by decide, rfl⟩
  | 3, _ => exact ⟨by decide, rfl⟩
  | 4, _ => exact ⟨by decide, rfl⟩
/-- The last of the first kinds that is there. -/
def LastOf (F : Nat → Int × Int × Int) (n i : Nat) (w : Int) : Prop :=
  (∃ i', i' < i ∧ w = (kN i' : Int) ∧ Has F n (kN i') ∧ ∀ i2, i' < i2 → i2 < i → ¬ Has F n (kN i2)) ∨ (w = 0 ∧ ∀ i', i' < i → ¬ Has F n (kN i'))
theorem LastOf.yes {F : Nat → Int × Int × Int} {n i : Nat} (h : Has F n (kN i)) : LastOf F n (i + 1) (kN i) := .inl ⟨i, by omega, rfl, h, fun i2 h1 h2 => by omega⟩
theorem LastOf.no {F : Nat → Int × Int × Int} {n i : Nat} {w : Int} (h : ¬ Has F n (kN i)) (k : LastOf F n i w) : LastOf F n (i + 1) w := by
  rcases k with ⟨i', h1, h2, h3, h4⟩ | ⟨h1, h2⟩
  · refine .inl ⟨i', by omega, h2, h3, fun i2 k1 k2 => ?_⟩
    rcases Nat.lt_or_eq_of_le (Nat.le_of_lt_succ k2) with k | rfl
    · exact h4 i2 k1 k
    · exact h
  · refine .inr ⟨h1, fun i' hi => ?_⟩
    rcases Nat.lt_or_eq_of_le (Nat.le_of_lt_succ hi) with k | rfl
    · exact h2 i' k
    · exact h
/-- The worst one is the last of them. -/
theorem worst_last {F : Nat → Int × Int × Int} {n : Nat} {w w' : Int} (h : IsWorst F n w) (k : LastOf F n 5 w') : w = w' := by
  have e : ∀ i, i < 5 → kAt i = (kN (4 - i) : Int) := fun i hi => by
    match i, hi with
    | 0, _ => rfl
    | 1, _ => rfl
    | 2, _ => rfl
    | 3, _ => rfl
    | 4, _ => rfl
  rcases h with ⟨i, hi, rfl, hh, hno⟩ | ⟨rfl, hno⟩ <;> rcases k with ⟨j, hj, rfl, hk, hno'⟩ | ⟨rfl, hno'⟩
  · have e1 : ¬ (4 - i < j) := fun hlt => by
      have := hno (4 - j) (by omega)
      rw [e _ (by omega), show 4 - (4 - j) = j by omega] at this
      exact this hk
    have e2 : ¬ (j < 4 - i) := fun hlt => by
      have := hno' (4 - i) hlt (by omega)
      rw [← e i hi] at this
      exact this hh
    rw [e i hi, show 4 - i = j by omega]
  · have := hno' (4 - i) (by omega)
    rw [← e i hi] at this
    exact absurd hh this
  · have := hno (4 - j) (by omega)
    rw [e _ (by omega), show 4 - (4 - j) = j by omega] at this
    exact absurd hk this
  · rfl

/-! ### operations on findings -/
noncomputable def i51 : TypeInfo := (T0.inf 51).get (by kernel_rfl)
theorem inf51 : T0.inf 51 = some i51 := (Option.some_get _).symm
theorem i51_size : i51.size = 3 := by kernel_rfl
theorem i51_bytes : i51.bytes = 24 := by kernel_rfl

theorem ev_slice1 {ρ : Operand → Value} {H : AH} {x : Operand} {f : Int × Int × Int} (hx : ρ x = .agg (cl3 f).toArray) :
    evOp P0 T0 ρ (.buildSlice 48 1 #[(0, x)]) H = some (.slice (some ⟨H.next, 0, none⟩) 1 3, H.alloc (.cells (cl3 f) 51)) := by
  simp only [evOp, t48, s51, z51, List.map, hx]
  rfl

theorem one1_cl3 (f : Int × Int × Int) : (cl3 f).all one1 = true := rfl

theorem ev_append_nil {ρ : Operand → Value} {H : AH} {x y : Operand} {b c c' : Nat} {f : Int × Int × Int} (hx : ρ x = .slice none 0 c') (hy : ρ y = .slice (some ⟨b, 0, none⟩) 1 c) (hb : H.get b = some (.cells (cl3 f) 51)) :
    evOp P0 T0 ρ (.call { callee := .builtin .append, args := #[x, y], argTypes := #[48, 48] }) H = some (.slice (some ⟨H.next, 0, none⟩) 1 6, H.alloc (.cells (cl3 f) 51)) := by
  have h0 : (#[48, 48] : Array TypeId)[0]? = some 48 := rfl
  have h1 : ((#[48, 48] : Array TypeId)[1]?).bind T0.und = some (.slice 51) := t48
  have hsrc : sourceV H 3 1 (.slice (some ⟨b, 0, none⟩) 1 c) = some (cl3 f) := by
    simp only [sourceV, Ev.rowAt, hb]; rfl
  have hsz : (zeroT T0 51).map List.length = some 3 := by rw [z51]; rfl
  have hzs : (zeroT T0 51).isSome = true := by rw [z51]; rfl
  show appendV T0 #[48, 48] [ρ x, ρ y] H = _
  unfold appendV
  simp only [h0, h1, hx, hy, t48, inf51, lenV, if_true, i51_size, i51_bytes, hsrc, hsz, hzs, intDesc, one1_cl3]
  rfl

theorem ev_append {ρ : Operand → Value} {H : AH} {x y : Operand} {b bw m c : Nat} {f : Int × Int × Int} {cs : List Value} (hx : ρ x = .slice (some ⟨bw, 0, none⟩) m 6) (hy : ρ y = .slice (some ⟨b, 0, none⟩) 1 c) (hb : H.get b = some (.cells (cl3 f) 51))
    (hw : H.get bw = some (.cells cs 51)) (hl : cs.length = m * 3) (hm : m ≤ 1000) :
    evOp P0 T0 ρ (.call { callee := .builtin .append, args := #[x, y], argTypes := #[48, 48] }) H = some (.slice (some ⟨H.next, 0, none⟩) (m + 1) 6, (H.kill bw).alloc (.cells (cs ++ cl3 f) 51)) := by
  have h0 : (#[48, 48] : Array TypeId)[0]? = some 48 := rfl
  have h1 : ((#[48, 48] : Array TypeId)[1]?).bind T0.und = some (.slice 51) := t48
  have hsrc : sourceV H 3 1 (.slice (some ⟨b, 0, none⟩) 1 c) = some (cl3 f) := by
    simp only [sourceV, Ev.rowAt, hb]; rfl
  have hsz : (zeroT T0 51).map List.length = some 3 := by rw [z51]; rfl
  have hzs : (zeroT T0 51).isSome = true := by rw [z51]; rfl
  have hfit : (m + 1) * 2 * (24 + 1) + 1024 * (24 + 1) ≤ mostBytes := by
    have : mostBytes = 70368744177664 := rfl
    omega
  have hto : appendTo i51 51 (.slice (some ⟨bw, 0, none⟩) m 6) m 1 (cl3 f) H = some (.slice (some ⟨H.next, 0, none⟩) (m + 1) 6, (H.kill bw).alloc (.cells (cs ++ cl3 f) 51)) := by
    have e1 : 51 = 51 ∧ 0 + m * 3 ≤ cs.length := ⟨rfl, by omega⟩
    simp only [appendTo, i51_size, hw]
    rw [if_neg (by decide), if_pos (by decide), if_neg (by decide), if_pos ⟨trivial, e1.2⟩, List.drop_zero, List.take_of_length_le (by omega)]
  show appendV T0 #[48, 48] [ρ x, ρ y] H = _
  unfold appendV
  simp only [h0, h1, hx, hy, t48, inf51, lenV, i51_size, i51_bytes, hsrc, hsz, hzs, intDesc, one1_cl3]
  rw [if_pos ⟨trivial, hfit, trivial, trivial⟩, if_pos ⟨trivial, rfl⟩]
  exact hto

/-! ### findings that are the same -/
theorem eq3 (d : Nat) (a b : Int) : pureE P0 (Op.equalIn (d + 1) 3 (.int .i64 a) (.int .i64 b)) = some (a == b) := by kernel_rfl
theorem guard51 (x y : Operand) (f g : Int × Int × Int) : pureE P0 (eqGuard .neq 51 x y (.agg (cl3 f).toArray) (.agg (cl3 g).toArray)) = some () := by kernel_rfl
theorem stood51 : P0.stoodInHeld 51 = false := by kernel_rfl
noncomputable def fs51 : Array Field := match P0.underlying 51 with | some (.struct fs) => fs | _ => #[]
theorem fs51_eq : fs51.toList.map (fun f => (decide (f.name = "_"), f.type, f.offset)) = [(false, 3, 0), (false, 3, 1), (false, 3, 2)] := by kernel_rfl
theorem part51 (f : Int × Int × Int) : pureE P0 (part 3 (cl3 f).toArray 0) = some (.int .i64 f.1) ∧ pureE P0 (part 3 (cl3 f).toArray 1) = some (.int .i64 f.2.1) ∧ pureE P0 (part 3 (cl3 f).toArray 2) = some (.int .i64 f.2.2) := ⟨by kernel_rfl, by kernel_rfl, by kernel_rfl⟩
theorem pureU : pureE P0 (underlying 51) = some (.struct fs51) := by kernel_rfl
theorem equal51 (d : Nat) (f : Int × Int × Int) : pureE P0 (Op.equalIn (d + 2) 51 (.agg (cl3 f).toArray) (.agg (cl3 f).toArray)) = some true := by
  refine equal_fields (d + 1) (fun g hg => ?_) pureU stood51
  have h := fs51_eq
  have hm := List.mem_map_of_mem (f := fun f : Field => (decide (f.name = "_"), f.type, f.offset)) hg
  rw [h] at hm
  obtain ⟨p1, p2, p3⟩ := part51 f
  simp only [List.mem_cons, Prod.mk.injEq, decide_eq_false_iff_not, List.not_mem_nil, or_false] at hm
  rcases hm with ⟨h1, h2, h3⟩ | ⟨h1, h2, h3⟩ | ⟨h1, h2, h3⟩
  · rw [h2, h3]; exact ⟨h1, _, _, p1, p1, by rw [eq3]; simp⟩
  · rw [h2, h3]; exact ⟨h1, _, _, p2, p2, by rw [eq3]; simp⟩
  · rw [h2, h3]; exact ⟨h1, _, _, p3, p3, by rw [eq3]; simp⟩
/-- Findings of three numbers that are the same. -/
theorem neq51 (x y : Operand) (f : Int × Int × Int) : binV P0 T0 .neq 51 x y (.agg (cl3 f).toArray) (.agg (cl3 f).toArray) = some (.bool false) := by
  have hfl : flatV (.agg (cl3 f).toArray) = true := rfl
  have hb : pureE P0 (binOp .neq 51 (.agg (cl3 f).toArray) (.agg (cl3 f).toArray)) = some (.bool false) := by
    have e : binOp .neq 51 (.agg (cl3 f).toArray) (.agg (cl3 f).toArray) = (Op.equal 51 (.agg (cl3 f).toArray) (.agg (cl3 f).toArray) >>= fun r => pure (.bool (!r))) := rfl
    have e2 : pureE P0 (Op.equal 51 (.agg (cl3 f).toArray) (.agg (cl3 f).toArray)) = some true := equal51 9998 f
    rw [e, pureE_bind, e2]; rfl
  unfold binV
  rw [hfl]
  simp only [Bool.and_self, if_true]
  rw [pureE_bind, guard51]
  dsimp only [Option.bind_some]
  rw [hb]
  rfl
end Go.Ak
