/- 'StoreEmpty': whatever geometry and operations come in, the call returns true, and they read as they did. Conditions: none. -/
import Derived.Test.YtaoaddokgofifaaGreatRows
import Derived.Test.YtaoaddokgofifaaGreatSeG
import Derived.Test.YtaoaddokgofifaaGreatRwB
namespace Go.Proofs.YtaoaddokgofifaaGreat
open Go Go.ChangeShapes Go.WideShapes Go.ChangeAt Go.RowKit Go.Deep Go.Rw Go.Se Go.Ev Go.Wp Go.Pr

theorem ownE : ownKnob Tryz.prog.godebug = none := by kernel_rfl
theorem laidE : laidOutB Tryz.prog = true := by kernel_rfl
theorem rec23 : Tryz.prog.readableRec 23 = true := by kernel_rfl
theorem row23 : 23 < Tryz.prog.types.size := of_decide_eq_true (by kernel_rfl)
theorem rec24 : Tryz.prog.readableRec 24 = true := by kernel_rfl
theorem row24 : 24 < Tryz.prog.types.size := of_decide_eq_true (by kernel_rfl)
theorem cells23 : Tryz.prog.cellsOf 23 = 6 := by kernel_rfl
theorem cells31 : Tryz.prog.cellsOf 31 = 4 := by kernel_rfl

noncomputable def fsG : Array Field := match Tryz.prog.underlying 23 with | some (.struct fs) => fs | _ => #[]
noncomputable def fsO : Array Field := match Tryz.prog.underlying 31 with | some (.struct fs) => fs | _ => #[]
theorem uG : Tryz.prog.underlying 23 = some (.struct fsG) := by kernel_rfl
theorem uO : Tryz.prog.underlying 31 = some (.struct fsO) := by kernel_rfl
theorem nG : fsG.size = 6 := by kernel_rfl
theorem nO : fsO.size = 4 := by kernel_rfl
theorem oneG : oneCellFields Tryz.prog fsG = true := by kernel_rfl
theorem oneO : oneCellFields Tryz.prog fsO = true := by kernel_rfl
theorem allG : fsG.toList.all (fun f => Nat.beq f.type 3) = true := by kernel_rfl
theorem allO : fsO.toList.all (fun f => Nat.beq f.type 3) = true := by kernel_rfl
theorem cG : Tryz.prog.cellsOf 23 = fsG.size := by kernel_rfl
theorem cO : Tryz.prog.cellsOf 31 = fsO.size := by kernel_rfl

theorem empty_rows (g : Geo) (F : Nat → List Value) (n : Nat) (hF : ∀ i, ∃ zs : List Int, zs.length = 4 ∧ F i = zs.map (fun z => Value.int .i64 z)) (H : AH) (a : Option Addr) (c : Nat) (hr : RowsAt 4 H a n F) :
    C P0 T0 XS 3 ([g.v] ++ [Value.slice a n c] ++ []) H fun v H' => v = .bool true ∧ Ext H H' := by
  have hz := fun i => Classical.choose_spec (hF i)
  refine empty_fn g (F := fun i => ((Classical.choose (hF i)).getD 0 0, (Classical.choose (hF i)).getD 1 0, (Classical.choose (hF i)).getD 2 0, (Classical.choose (hF i)).getD 3 0)) fun i hi => ?_
  obtain ⟨b, o, cs, e, k1, k2, k3, k4, k5⟩ := hr i hi
  refine ⟨b, o, cs, e, k1, k2, k3, k4, k5.trans ?_⟩
  have hz := hz i
  rw [hz.2]
  dsimp only
  generalize Classical.choose (hF i) = z at hz ⊢
  match z, hz.1 with
  | [a, b, c, d], _ => rfl

theorem six_of {zs : List Int} (h : zs.length = 6) : ∃ g : Geo, (Value.agg ⟨zs.map (fun z => Value.int .i64 z)⟩) = g.v :=
  match zs, h with
  | [a, b, c, d, e, f], _ => ⟨⟨a, b, c, d, e, f⟩, rfl⟩

set_option maxRecDepth 100000 in
theorem empty_law {H : Type} {enc : TypeId × Value → H} {W : World} {base : Nat} (g : Geo) {v1 : Value} {d1 : DataW H} {p1 q : List MemPlace} (hval : Value.okWide Tryz.prog W .any base 24 v1) (h1 : DataW.Trod enc Tryz.prog W 0 (fun _ => true) true 24 v1 d1 p1) (hq : ∀ pl ∈ p1, pl ∈ q) (hfz : W.noneFrozen q) :
    Calls Tryz.prog 3 #[g.v, v1] W fun e W' => e = .returned (.bool true) ∧ Kept W W' :=
  rows_law xs_ok xs_here (pre := [g.v]) (post := []) rfl rfl 4 nO Tryz.underlying24 uO oneO cO (by decide) Tryz.underlying3 allO (empty_rows g) hval h1 hq hfz

set_option maxRecDepth 100000 in
theorem empty_lifted (os : Os) (started : os.Started) (H : Type) (enc : TypeId × Value → H) :
    ReturnsInHanded {} Tryz.checked os 3 .any (Rows.storeEmptySpec.pre6 enc Tryz.prog Tryz.f3 Rows.storeEmptyRow.domain false) (Rows.storeEmptySpec.post enc Tryz.prog Tryz.f3 false true false false) := by
  refine returnsInHanded_of_change (C := Tryz.checked) ownE started (by kernel_rfl) Tryz.func3
    (ChangeSpec.witness6 (enc := enc) (C := Tryz.checked) false ⟨#[], #[.agg #[.int .i64 0, .int .i64 0, .int .i64 0, .int .i64 0, .int .i64 0, .int .i64 0], .slice none 0 0], []⟩ 8 (by kernel_rfl) (by kernel_rfl) (by kernel_rfl) (by kernel_rfl)) ?_
  intro W base args ds gs before hval0 hW hcnd _
  have hval : ∀ (j : Nat) t v, Tryz.f3.params[j]? = some t → args[j]? = some v → Value.okWide Tryz.prog W .any base t v := hval0
  have hW' := hW
  obtain ⟨p, q, hA0, hV, rfl, hfz, hnd⟩ := hW
  have hA : DataW.TrodAll enc Tryz.prog W 0 (fun _ => true) true Tryz.f3.params.toList args.toList ds p := hA0
  rw [Tryz.params3] at hA hval
  obtain ⟨v0, v1, d0, d1, p0, p1, rfl, rfl, rfl, h0, h1⟩ := trodAll_two hA
  obtain ⟨rfl, rfl⟩ := trodVars_none hV
  obtain ⟨zs, hzl, hv0⟩ := struct_ints 6 nG uG oneG cG Tryz.underlying3 allG (hval 0 23 v0 rfl rfl) h0
  obtain ⟨g, hg⟩ := six_of hzl
  rw [hg] at hv0
  subst hv0
  have hlt := hW'.lt
  simp only [List.append_nil] at hW' hfz hlt
  refine (empty_law g (hval 1 24 v1 rfl rfl) h1 (fun pl hpl => List.mem_append_right _ hpl) hfz).mono fun e W' ⟨he, hos, hop, hsz, hblk⟩ => ?_
  subst he
  have hbel : Below W.heap.size W { W' with tape := W.tape } := ⟨hos, rfl, hop, hsz, hblk⟩
  have h0' : ∀ sp : Nat → Bool, (∀ p ∈ p0, sp p.block = true) → DataW.Trod enc Tryz.prog W' 0 sp true 23 _ d0 p0 := fun sp hsp =>
    WideElems.Trod_stays (P := Tryz.prog) laidE rec23 row23 h0 (fun p hp => hbel.same (hlt p (List.mem_append_left _ hp))) hsp
  have h1' : ∀ sp : Nat → Bool, (∀ p ∈ p1, sp p.block = true) → DataW.Trod enc Tryz.prog W' 0 sp true 24 v1 d1 p1 := fun sp hsp =>
    WideElems.Trod_stays (P := Tryz.prog) laidE rec24 row24 h1 (fun p hp => hbel.same (hlt p (List.mem_append_right _ hp))) hsp
  have hold : ∀ p ∈ p0 ++ p1, (fun b => decide (b < W.heap.size)) p.block = true := fun p hp => by simpa using hlt p hp
  refine ⟨_, rfl, _, _, _, [], p0 ++ p1, [], hW', ?_, ?_, ?_, ?_, fun h => by cases h⟩
  · exact trodAll_mk1 (shut_bool Tryz.underlying4 true)
  · exact trodAll_mk2 (h0' _ fun p hp => hold p (List.mem_append_left _ hp)) (h1' _ fun p hp => hold p (List.mem_append_right _ hp))
  · rfl
  · have := hbel.frame (fun p => p ∈ p0 ++ p1 ∧ (p ∈ ([] : List MemPlace) ∨ p ∈ p0 ++ p1 ∨ p ∈ ([] : List MemPlace)))
    unfold World.keptBut at this ⊢
    exact this
end Go.Proofs.YtaoaddokgofifaaGreat
