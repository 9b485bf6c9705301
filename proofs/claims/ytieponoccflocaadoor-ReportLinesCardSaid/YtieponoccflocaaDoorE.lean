/- 'ReportLines': whatever row comes in, the call returns true, and the row reads as it did: the program's line of a row is the document's. Conditions: the package's variables hold what the program's text lays (the card ties that). -/
import Derived.Test.YtieponoccflocaaDoorRows
import Derived.Test.YtieponoccflocaaDoorCards
import Derived.Test.YtieponoccflocaaDoorTie
import Derived.Test.YtieponoccflocaaDoorD
import Derived.ChangeSame
import Derived.ChangeVars
import Derived.JoinedOf
import Derived.RowKit
import Derived.LaidLaws
import Derived.Stop.Joined
import Derived.Lib.SmallJoins
import Derived.SevenTiedAt
namespace Go.Proofs.YtieponoccflocaaDoor
open Go Go.Joins Go.ChangeShapes Go.WideShapes Go.RowKit Go.Deep Go.Lib

/-! ### What the listed variables give -/
theorem own : ownKnob Tryd.prog.godebug = none := by kernel_rfl
theorem g0 : Tryd.prog.globalNamed "revetment/report.roles" = some 0 := by kernel_rfl
theorem g1 : Tryd.prog.globalNamed "revetment/report.states" = some 1 := by kernel_rfl
theorem y0 : (Tryd.prog.globals[0]?).map (·.type) = some 29 := by kernel_rfl
theorem y1 : (Tryd.prog.globals[1]?).map (·.type) = some 30 := by kernel_rfl
theorem c9 : Tryd.prog.cellsOf 9 = 1 := by kernel_rfl
theorem c29 : Tryd.prog.cellsOf 29 = 6 := by kernel_rfl
theorem c30 : Tryd.prog.cellsOf 30 = 5 := by kernel_rfl
theorem c45 : Tryd.prog.cellsOf 45 = 1 := by kernel_rfl
theorem c55 : Tryd.prog.cellsOf 55 = 20 := by kernel_rfl

theorem cells_of_strs {H : Type} {enc : TypeId × Value → H} {P : Program} {w : World} {base : Nat} {sp : Nat → Bool} {held : Bool} {fuel : Nat} {t e : TypeId} {n : Nat} {cs : List Value} {zs : List ByteArray} {p : List MemPlace}
    (ht : P.underlying t = some (.array n e)) (he : P.underlying e = some .string) (hce : P.cellsOf e = 1) (hct : P.cellsOf t = n)
    (h : DataW.trod enc P w base sp held fuel t cs = some (.agg (zs.map fun z => .lit (.string z.data.toList)), p)) : cs = zs.map fun z => Value.string z := by
  cases fuel with
  | zero => simp [DataW.trod] at h
  | succ fuel =>
    simp only [DataW.trod, ht, hce, hct, Nat.mul_one] at h
    split at h
    · rename_i hl
      obtain ⟨xs, hm, hx⟩ := Option.map_eq_some_iff.1 h
      have hxs : xs.map (·.1) = zs.map fun z => (DataW.lit (.string z.data.toList) : DataW H) := by
        have := congrArg Prod.fst hx
        simpa using this
      have hxl : xs.length = n := by simpa using mapM_length hm
      have hzl : zs.length = n := by
        have := congrArg List.length hxs
        simp at this
        omega
      apply List.ext_getElem?
      intro i
      by_cases hi : i < n
      · obtain ⟨b, hb, hf⟩ := mapM_at hm i i (by simp [hi])
        obtain ⟨z, hc, rfl, _⟩ := DataW.trod_string he hf
        have h1 : cs[i]? = some (.string z) := by
          have := congrArg (·[0]?) hc
          simpa [List.getElem?_take, List.getElem?_drop] using this
        have h2 : (xs.map (·.1))[i]? = some (DataW.lit (.string z.data.toList) : DataW H) := by simp [hb]
        rw [hxs] at h2
        simp only [List.getElem?_map, Option.map_eq_some_iff, DataW.lit.injEq, Lit.string.injEq] at h2
        obtain ⟨z', hz', e'⟩ := h2
        have : z' = z := by
          cases z; cases z'
          simpa using e'
        subst this
        simp [h1, hz']
      · rw [List.getElem?_eq_none (by omega), List.getElem?_eq_none (by simp; omega)]
    · cases h

theorem laid_tail {P : Program} {x : String × DataW Unit} {r : List (String × DataW Unit)} {w : World} (h : laidMet P (x :: r) w) : laidMet P r w := by
  obtain ⟨ps, hv, hnd, hrows⟩ := h
  obtain ⟨n, d⟩ := x
  obtain ⟨g, t, cs, fuel, p, q, _, _, _, _, hq, rfl⟩ := hv
  exact ⟨q, hq, List.Nodup.sublist (List.sublist_append_right _ _) hnd, fun b off hm => hrows b off (List.mem_append_right _ hm)⟩

def strs (a : Array Value) : List ByteArray := a.toList.map strOf
theorem strs_roles : (strs roles).map Value.string = roles.toList := rfl
theorem strs_states : (strs states).map Value.string = states.toList := rfl
theorem g2 : Tryd.prog.globalNamed "internal/strconv.uint64pow10" = some 2 := by kernel_rfl
theorem y2 : (Tryd.prog.globals[2]?).map (·.type) = some 55 := by kernel_rfl

theorem tabs_of_laid {W : World} (h : laidMet Tryd.prog Rows.reportLinesRow.laid W) : Tabs W := by
  have h1 : laidMet Tryd.prog (("internal/strconv.uint64pow10", tabData .u64 pow10Tab) :: ("revetment/report.roles", .agg ((strs roles).map fun z => .lit (.string z.data.toList))) ::
      ("revetment/report.states", .agg ((strs states).map fun z => .lit (.string z.data.toList))) :: []) W := laid_tail (laid_tail h)
  refine ⟨tabIs_of_head g2 y2 Tryd.underlying55 Tryd.underlying45 c45 c55 h1, fun r hr => ?_, fun s hs => ?_⟩
  · obtain ⟨ps, ⟨g', t', cs, fuel, p, q, hg', ht', hvar, hd, _, _⟩, _⟩ := laid_tail h1
    obtain rfl := Option.some.inj (g0.symm.trans hg')
    obtain rfl := Option.some.inj (y0.symm.trans ht')
    have e := cells_of_strs Tryd.underlying29 Tryd.underlying9 c9 c29 hd
    rw [World.var?_cell g0 hvar r, ← Array.getElem?_toList, e, strs_roles, Array.getElem?_toList]
    exact roles_get r hr
  · obtain ⟨ps, ⟨g', t', cs, fuel, p, q, hg', ht', hvar, hd, _, _⟩, _⟩ := laid_tail (laid_tail h1)
    obtain rfl := Option.some.inj (g1.symm.trans hg')
    obtain rfl := Option.some.inj (y1.symm.trans ht')
    have e := cells_of_strs Tryd.underlying30 Tryd.underlying9 c9 c30 hd
    rw [World.var?_cell g1 hvar s, ← Array.getElem?_toList, e, strs_states, Array.getElem?_toList]
    exact states_get s hs

/-! ### A world that meets the condition -/
def cellOf : DataW Unit → Value
  | .lit (.int k z) => .int k z
  | .lit (.string l) => .string ⟨l.toArray⟩
  | _ => undef
def cellsOfDatum : DataW Unit → Array Value
  | .agg l => (l.map cellOf).toArray
  | _ => #[]
def lay (h : Array Obj) (g : Nat) (d : DataW Unit) : Array Obj := h.modify g fun
  | .cells _ t frozen => .cells (cellsOfDatum d) t frozen
  | o => o
noncomputable def laidWorld (os : Os) : World :=
  let w0 := World.holding Tryd.prog os ⟨#[], #[], []⟩
  { w0 with heap := lay (lay (lay (lay (lay w0.heap 0 Rows.laid_revetment_report_roles) 1 Rows.laid_revetment_report_states) 2 Rows.laid_internal_strconv_uint64pow10) 4 Rows.laid_math_bits_deBruijn32tab) 5 Rows.laid_math_bits_deBruijn64tab }
theorem laidWorld_met (os : Os) (args : Array Value) : laidMetH Tryd.prog Rows.reportLinesRow.laid ((laidWorld os).forCall (fun _ _ => 0) ⟨#[], args, []⟩).memory :=
  laidMet_of_run' 8 (by kernel_rfl) (by kernel_rfl)

section
variable {H : Type} {enc : TypeId × Value → H} {P : Program} {w : World} {base : Nat} {spare : Nat → Bool} {held : Bool}
theorem open_agg6 {r : Reach} {b0 : Nat} {t : TypeId} {f0 f1 f2 f3 f4 f5 : Field} {v : Value} {d : DataW H} {p : List MemPlace} (hs : P.underlying t = some (.struct #[f0, f1, f2, f3, f4, f5])) (hone : oneCellFields P #[f0, f1, f2, f3, f4, f5] = true) (hC : P.cellsOf t = 6)
    (hv : Value.okWide P w r b0 t v) (h : DataW.Trod enc P w base spare held t v d p) :
    ∃ (v0 v1 v2 v3 v4 v5 : Value) (y0 y1 y2 y3 y4 y5 : DataW H × List MemPlace) (n : Nat), v = .agg #[v0, v1, v2, v3, v4, v5] ∧ d = .agg [y0.1, y1.1, y2.1, y3.1, y4.1, y5.1] ∧ p = y0.2 ++ (y1.2 ++ (y2.2 ++ (y3.2 ++ (y4.2 ++ y5.2)))) ∧
      DataW.trod enc P w base spare held n f0.type [v0] = some y0 ∧ DataW.trod enc P w base spare held n f1.type [v1] = some y1 ∧ DataW.trod enc P w base spare held n f2.type [v2] = some y2 ∧ DataW.trod enc P w base spare held n f3.type [v3] = some y3 ∧ DataW.trod enc P w base spare held n f4.type [v4] = some y4 ∧ DataW.trod enc P w base spare held n f5.type [v5] = some y5 := by
  obtain ⟨cs, rfl, hsz⟩ := okWide_struct hs hv
  obtain ⟨l⟩ := cs
  match l, hsz.trans hC with
  | [c0, c1, c2, c3, c4, c5], _ =>
    obtain ⟨fuel, hf⟩ := h
    obtain ⟨xs, n, _, hx, _, hlen, hg⟩ := DataW.trod_struct hs hf
    obtain ⟨o0, k0⟩ := hone_of hone 0 f0 rfl
    obtain ⟨o1, k1⟩ := hone_of hone 1 f1 rfl
    obtain ⟨o2, k2⟩ := hone_of hone 2 f2 rfl
    obtain ⟨o3, k3⟩ := hone_of hone 3 f3 rfl
    obtain ⟨o4, k4⟩ := hone_of hone 4 f4 rfl
    obtain ⟨o5, k5⟩ := hone_of hone 5 f5 rfl
    match xs, hlen with
    | [y0, y1, y2, y3, y4, y5], _ =>
      simp only [Prod.mk.injEq] at hx
      exact ⟨c0, c1, c2, c3, c4, c5, y0, y1, y2, y3, y4, y5, n, rfl, by simpa using hx.1, by simpa using hx.2, by simpa [Value.cells, o0, k0] using hg 0 f0 rfl, by simpa [Value.cells, o1, k1] using hg 1 f1 rfl, by simpa [Value.cells, o2, k2] using hg 2 f2 rfl, by simpa [Value.cells, o3, k3] using hg 3 f3 rfl, by simpa [Value.cells, o4, k4] using hg 4 f4 rfl, by simpa [Value.cells, o5, k5] using hg 5 f5 rfl⟩
end

def lit6 {H : Type} (z d r s l v : Int) : DataW H := .agg [.lit (.int .i64 z), .lit (.int .i64 d), .lit (.int .i64 r), .lit (.int .i64 s), .lit (.int .i64 l), .lit (.int .i64 v)]
theorem c3 : Tryd.prog.cellsOf 3 = 1 := by kernel_rfl
theorem c23 : Tryd.prog.cellsOf 23 = 6 := by kernel_rfl
theorem shut_row {H : Type} {enc : TypeId × Value → H} {w : World} {base : Nat} {spare : Nat → Bool} {held : Bool} (z d r s l v : Int) (hz : (Lit.int .i64 z).wf = true) (hd : (Lit.int .i64 d).wf = true) (hr : (Lit.int .i64 r).wf = true)
    (hs : (Lit.int .i64 s).wf = true) (hl : (Lit.int .i64 l).wf = true) (hv : (Lit.int .i64 v).wf = true) : DataW.Trod enc Tryd.prog w base spare held 23 (row z d r s l v) (lit6 z d r s l v) [] :=
  ⟨2, by simp [DataW.trod, row, lit6, Value.cells, Tryd.underlying23, Tryd.underlying3, c3, c23, hz, hd, hr, hs, hl, hv]⟩
theorem i64_of {n : Int} (h : (Lit.int .i64 n).wf = true) : I64 n := by
  have e1 : IntKind.i64.min = -9223372036854775808 := by decide
  have e2 : IntKind.i64.max = 9223372036854775807 := by decide
  simp [Lit.wf, e1, e2] at h
  unfold I64
  omega

set_option maxRecDepth 100000 in
theorem law_lifted (os : Os) (started : os.Started) (H : Type) (enc : TypeId × Value → H) :
    ReturnsInHanded {} Tryd.checked os 3 .any (fun w args => (Rows.reportLinesSpec.pre enc Tryd.prog Tryd.f3 [] false w args ∧ laidMetH Tryd.prog Rows.reportLinesRow.laid w) ∧ sizedMet enc Tryd.prog Tryd.f3 (OpenSpec.ofChange Rows.reportLinesSpec) false w args)
      (Rows.reportLinesSpec.post enc Tryd.prog Tryd.f3 false true false false) := by
  refine returnsInHanded_of_change_and (C := Tryd.checked) (X := fun w _ => laidMetH Tryd.prog Rows.reportLinesRow.laid w) (fun _ _ _ hh h => h.of_heap hh) own started (by kernel_rfl) Tryd.func3
    (ChangeSpec.witness_at (enc := enc) (C := Tryd.checked) (os := os) (X := fun w _ => laidMetH Tryd.prog Rows.reportLinesRow.laid w) false (laidWorld os) #[row 0 0 0 0 0 0] 8 rfl (by kernel_rfl) (by kernel_rfl) (by kernel_rfl) (by kernel_rfl) (by kernel_rfl) (laidWorld_met os _)) ?_
  intro W base args ds gs before hval0 hW _ _ hL _
  have hval : ∀ (j : Nat) t v, Tryd.f3.params[j]? = some t → args[j]? = some v → Value.okWide Tryd.prog W .any base t v := hval0
  have hW' := hW
  obtain ⟨p, q, hA0, hV0, rfl, hfz, hnd⟩ := hW
  have hA : DataW.TrodAll enc Tryd.prog W 0 (fun _ => true) true Tryd.f3.params.toList args.toList ds p := hA0
  have hV : DataW.TrodVars enc Tryd.prog W (fun _ => true) [] gs q := hV0
  rw [Tryd.params3] at hA hval
  obtain ⟨v0, d0, rfl, rfl, h0⟩ := trodAll_one hA
  obtain ⟨c0, c1, c2, c3, c4, c5, y0, y1, y2, y3, y4, y5, n, rfl, rfl, rfl, t0, t1, t2, t3, t4, t5⟩ := open_agg6 Tryd.underlying23 (by kernel_rfl) (by kernel_rfl) (hval 0 23 v0 rfl rfl) h0
  obtain ⟨z, e0, rfl, hz⟩ := DataW.trod_int Tryd.underlying3 t0
  obtain ⟨d, e1, rfl, hd⟩ := DataW.trod_int Tryd.underlying3 t1
  obtain ⟨r, e2, rfl, hr⟩ := DataW.trod_int Tryd.underlying3 t2
  obtain ⟨s, e3, rfl, hs⟩ := DataW.trod_int Tryd.underlying3 t3
  obtain ⟨l, e4, rfl, hl⟩ := DataW.trod_int Tryd.underlying3 t4
  obtain ⟨v, e5, rfl, hv⟩ := DataW.trod_int Tryd.underlying3 t5
  cases e0; cases e1; cases e2; cases e3; cases e4; cases e5
  obtain ⟨rfl, rfl⟩ : gs = [] ∧ q = [] := by
    cases gs with
    | nil => exact ⟨rfl, hV⟩
    | cons g r => exact absurd hV (by intro h; cases h)
  have ht : Tabs W := tabs_of_laid hL
  have e1 : Rows.reportLinesSpec.fn H ([lit6 z d r s l v] ++ []) = { results := [.lit (.bool true)], args := [lit6 z d r s l v] } := rfl
  refine (law_true z d r s l v (i64_of hz) (i64_of hd) (i64_of hl) (i64_of hv) W ht).mono fun e W' ⟨he, hw⟩ => ?_
  subst he
  refine ⟨_, rfl, _, _, _, [], [], [], hW', ?_, ?_, ?_, hw.frame _, fun h => by cases h⟩
  · exact trodAll_mk1 (shut_bool Tryd.underlying4 true)
  · exact trodAll_mk1 (shut_row z d r s l v hz hd hr hs hl hv)
  · rfl

theorem row_holds : Rows.ReportLinesSaid :=
  OpenClaim.holds_of_wide 3 Tryd.f3 rfl rfl rfl rfl rfl rfl rfl ⟨rfl, rfl, rfl, rfl, rfl⟩ rfl rfl rfl rfl rfl (by kernel_rfl) Tryd.func3 (by kernel_rfl)
    (of_decide_eq_true (by kernel_rfl)) (by unfold Func.isWrapper; rw [if_neg (of_decide_eq_false (by kernel_rfl))]; exact ⟨rfl, rfl⟩)
    (fun os started H enc _ => law_lifted os started H enc)

/-- 'revetmentlaw25.ReportLines': the tied card. -/
theorem reportLines_holds : Rows.ReportLinesCardSaid :=
  Claim7.holds_tied_plain_at .later [] [.data, .data, .data, .data, .data] true (true, "a013da24422a136296b72521c62e64820fdd4293c061eb0c2b58974293571eab") false
    row_holds (fun _ h => by cases h) (by kernel_rfl) (fun _ h => by cases h) reportLines_row_tie rfl ⟨rfl, rfl⟩ (by kernel_rfl) rfl
    (fun f fn hf hfn => by
      obtain rfl : f = 3 := Option.some.inj ((show Tryd.prog.funcNamed "revetment/revetmentlaw25.ReportLines" = some 3 by kernel_rfl).symm.trans hf) |>.symm
      obtain rfl : fn = Tryd.f3 := (Option.some.inj (Tryd.func3.symm.trans hfn)).symm
      exact ⟨by kernel_rfl, fun j t ht => by
        rw [Tryd.params3] at ht
        have h3 : t = 23 := by
          rcases j with _ | j
          · simpa using ht.symm
          · simp at ht
        subst h3
        exact (show Tryd.prog.wantsStandIn 23 = false by kernel_rfl)⟩)
    (by kernel_rfl)
#print axioms reportLines_holds
end Go.Proofs.YtieponoccflocaaDoor
