/- What arguments read as data are: structs of whole numbers, and slices of them. -/
import Derived.Test.YtaoaddokgofifaaGreatRwA
import Derived.ProofKit
import Derived.WideKeyArgs
import Derived.Deep.Slices
import Derived.Deep.Fields
namespace Go.Rw
open Go Go.Proofs Go.Ev Go.Fv Go.Wp Go.Pr Go.RowKit Go.ChangeShapes Go.WideShapes Go.ChangeAt Go.Deep

section
variable {H : Type} {enc : TypeId × Value → H} {P : Program} {w : World} {base : Nat} {spare : Nat → Bool} {held : Bool}
theorem open_slice_fields {t e : TypeId} {fs : Array Field} {fuel : Nat} {cs : List Value} {x : DataW H × List MemPlace} (ht : P.underlying t = some (.slice e)) (he : P.underlying e = some (.struct fs))
    (hone : oneCellFields P fs = true) (hC : P.cellsOf e = fs.size) (h : DataW.trod enc P w base spare held fuel t cs = some x) :
    (cs = [.slice none 0 0] ∧ x = (.nil, [])) ∨
    ∃ (a : Addr) (len cap m : Nat) (D : Nat → DataW H) (Pl : Nat → List MemPlace), cs = [.slice (some a) len cap] ∧ base ≤ a.block ∧ len ≤ cap ∧ cap ≤ maxLen ∧ m = (if spare a.block then cap else len) ∧
      x = (.slice ((List.range len).map D) ((List.range (m - len)).map fun j => D (len + j)), MemPlace.row a (m * fs.size) ++ (List.range m).flatMap Pl) ∧
      ∀ i, i < m → ∃ (ys : List (DataW H × List MemPlace)) (n : Nat), D i = .agg (ys.map (·.1)) ∧ Pl i = ys.flatMap (·.2) ∧ ys.length = fs.size ∧
        ∀ (j : Nat) (f : Field), fs[j]? = some f → ∃ (v : Value) (y : DataW H × List MemPlace), w.cell? (a.add (i * fs.size + j)) = some v ∧ ys[j]? = some y ∧ DataW.trod enc P w base spare held n f.type [v] = some y := by
  rcases open_slice ht h with h0 | ⟨a, len, cap, m, n, D, Pl, hcs, hb, hl, hm, hmm, hx, hi⟩
  · exact .inl h0
  · refine .inr ⟨a, len, cap, m, D, Pl, hcs, hb, hl, hm, hmm, by rw [hC] at hx; exact hx, fun i him => ?_⟩
    obtain ⟨cs', hc, ht'⟩ := hi i him
    rw [hC] at hc
    obtain ⟨ys, n', hn', hy, hlen, hyl, hf⟩ := DataW.trod_struct he ht'
    obtain ⟨_, hcl, hat⟩ := World.cells?_some hc
    simp only [Prod.mk.injEq] at hy
    refine ⟨ys, n', hy.1, hy.2, hyl, fun j f hj => ?_⟩
    obtain ⟨ho, hk⟩ := hone_of hone j f hj
    have hjl : j < fs.size := (Array.getElem?_eq_some_iff.1 hj).1
    have hcell := hat j hjl
    have hv : cs'[j]? = some (cs'[j]'(by omega)) := List.getElem?_eq_getElem (by omega)
    have h1 := hf j f hj
    rw [ho, hk] at h1
    have hone' : (cs'.drop j).take 1 = [cs'[j]'(by omega)] := by
      rw [List.drop_eq_getElem_cons (by omega)]
      rfl
    rw [hone'] at h1
    have hys : ys[j]? = some (ys[j]'(by omega)) := List.getElem?_eq_getElem (by omega)
    refine ⟨_, _, ?_, hys, h1.trans hys⟩
    rw [← Go.Deep.add_add, hcell, hv]

/-- A struct of whole numbers. -/
theorem struct_ints {t u : TypeId} {fs : Array Field} (N : Nat) (hN : fs.size = N) (ht : P.underlying t = some (.struct fs)) (hone : oneCellFields P fs = true) (hC : P.cellsOf t = fs.size) (hu : P.underlying u = some (.int .i64)) (hall : fs.toList.all (fun f => Nat.beq f.type u) = true)
    {r : Reach} {b0 : Nat} {v : Value} {d : DataW H} {ps : List MemPlace} (hval : Value.okWide P w r b0 t v) (hd : DataW.Trod enc P w base spare held t v d ps) : ∃ zs : List Int, zs.length = N ∧ v = .agg ⟨zs.map (fun z => Value.int .i64 z)⟩ := by
  subst hN
  unfold Value.okWide at hval
  rw [ht] at hval
  obtain ⟨cs, rfl, _, _⟩ := hval
  obtain ⟨fuel, hf⟩ := hd
  obtain ⟨ys, n, _, _, hlen, hyl, hfl⟩ := DataW.trod_struct ht hf
  have hlen : cs.toList.length = P.cellsOf t := hlen
  have key : ∀ j, j < fs.size → ∃ z, cs.toList[j]? = some (.int .i64 z) := fun j hj => by
    have hj' : fs[j]? = some fs[j] := Array.getElem?_eq_getElem hj
    obtain ⟨ho, hk⟩ := hone_of hone j _ hj'
    have h1 := hfl j _ hj'
    have hcj : j < cs.toList.length := by rw [hlen, hC]; exact hj
    have hone' : (cs.toList.drop j).take 1 = [cs.toList[j]] := by rw [List.drop_eq_getElem_cons hcj]; rfl
    have h1 : DataW.trod enc P w base spare held n fs[j].type ((cs.toList.drop fs[j].offset).take (P.cellsOf fs[j].type)) = ys[j]? := h1
    rw [ho, hk, hone', List.getElem?_eq_getElem (by omega)] at h1
    have htu : fs[j].type = u := Nat.eq_of_beq_eq_true (List.all_eq_true.1 hall _ (by simp))
    rw [htu] at h1
    obtain ⟨z, e, _⟩ := DataW.trod_int hu h1
    refine ⟨z, ?_⟩
    rw [List.getElem?_eq_getElem hcj]
    simp only [List.cons.injEq, and_true] at e
    rw [e]
  let zs : List Int := (List.range fs.size).map fun j => match cs.toList[j]? with | some (Value.int _ z) => z | _ => 0
  refine ⟨zs, by simp [zs], ?_⟩
  congr 1
  apply arr_eq
  show cs.toList = zs.map (fun z => Value.int .i64 z)
  apply List.ext_getElem?
  intro j
  by_cases hj : j < fs.size
  · obtain ⟨z, hz⟩ := key j hj
    rw [hz]
    simp only [zs, List.map_map, List.getElem?_map, List.getElem?_range hj, Option.map_some, Function.comp, hz]
  · rw [List.getElem?_eq_none (by rw [hlen, hC]; omega), List.getElem?_eq_none (by simp [zs]; omega)]
end

theorem cell_of {W : World} {b off k : Nat} {c : Array Value} {t : TypeId} {fz : Nat × Nat} {v : Value} (hb : W.heap[b]? = some (.cells c t fz)) (h : W.cell? ((⟨b, off, none⟩ : Addr).add k) = some v) : c[off + k]? = some v := by
  have h : W.cell? ⟨b, off + k, none⟩ = some v := by rw [← h]; exact congrArg W.cell? (by simp [Addr.add])
  simpa [World.cell?, hb] using h

section
variable {X : Prims} (hX : PrimsOk P0 X) (hXh : PrimsHere T0 X) {f : FuncId} {pre post : List Value} (hpre : pre.all flatV = true) (hpost : post.all flatV = true)
include hX hXh hpre hpost
set_option maxRecDepth 100000 in
/-- A function of flat arguments and a slice of structs of whole numbers, that answers true in the logic: so it answers in every world in which they can be read. -/
theorem rows_law {H : Type} {enc : TypeId × Value → H} {W : World} {base : Nat} {t e u : TypeId} {fs : Array Field} (N : Nat) (hN : fs.size = N) (ht : Tryz.prog.underlying t = some (.slice e)) (he : Tryz.prog.underlying e = some (.struct fs)) (hone : oneCellFields Tryz.prog fs = true) (hC : Tryz.prog.cellsOf e = fs.size) (hpos : 0 < N)
    (hu : Tryz.prog.underlying u = some (.int .i64)) (hall : fs.toList.all (fun f => Nat.beq f.type u) = true)
    (hrun : ∀ (F : Nat → List Value) n, (∀ i, ∃ zs : List Int, zs.length = N ∧ F i = zs.map (fun z => Value.int .i64 z)) → ∀ H a c, RowsAt N H a n F → C P0 T0 X f (pre ++ [Value.slice a n c] ++ post) H fun v H' => v = .bool true ∧ Ext H H')
    {v0 : Value} {d0 : DataW H} {p0 q : List MemPlace} (hval : Value.okWide Tryz.prog W .any base t v0) (h0 : DataW.Trod enc Tryz.prog W 0 (fun _ => true) true t v0 d0 p0) (hfz : ∀ pl ∈ p0, pl ∈ q) (hnf : W.noneFrozen q) :
    Calls Tryz.prog f (pre ++ [v0] ++ post).toArray W fun e W' => e = .returned (.bool true) ∧ Kept W W' := by
  subst hN
  refine (callsIn_wide (n := 0)).1 ?_
  obtain ⟨sa, len, cap, rfl⟩ := okWide_slice ht hval
  obtain ⟨fuel, hf⟩ := h0
  rcases open_slice_fields ht he hone hC hf with ⟨hc, _⟩ | ⟨a, len', cap', m, D, Pl, hc, _, hle, _, hm, hx, hi⟩
  · have hc : [Value.slice sa len cap] = [.slice none 0 0] := hc
    cases hc
    refine rows_nil hX hXh hpre hpost (.inr rfl) (fun H => ?_) W 0
    refine hrun (fun _ => (List.replicate fs.size 0).map fun z => Value.int .i64 z) 0 (fun _ => ⟨List.replicate fs.size 0, by simp, rfl⟩) H none 0 fun i hi => absurd hi (Nat.not_lt_zero i)
  · have hc : [Value.slice sa len cap] = [.slice (some a) len' cap'] := hc
    cases hc
    have hm : m = cap := hm
    subst hm
    have hok : Cell.ok Tryz.prog W .any base t (.slice (some a) len m) := by
      have h := hval
      unfold Value.okWide at h
      rw [ht] at h
      unfold Cell.okWide at h
      rw [ht] at h
      exact h
    unfold Cell.ok at hok
    rw [ht] at hok
    obtain ⟨_, _, _, hspot, row, cells, hshape, _⟩ := hok
    obtain ⟨b, off, spot⟩ := a
    have hspot : spot = none := hspot
    subst hspot
    obtain ⟨c, tt, fz, hb⟩ : ∃ c t fz, W.heap[b]? = some (.cells c t fz) := by
      unfold World.shape? at hshape
      split at hshape
      · rename_i c t fz hb
        exact ⟨c, t, fz, hb⟩
      · cases hshape
    have key : ∀ i, ∃ zs : List Int, zs.length = fs.size ∧ (i < len → ∀ k v, (zs.map (fun z => Value.int .i64 z))[k]? = some v → c[off + (i * fs.size + k)]? = some v) := fun i => by
      by_cases hin : i < len
      · obtain ⟨ys, n, _, _, _, hfs⟩ := hi i (by omega)
        have each : ∀ k, k < fs.size → ∃ z, c[off + (i * fs.size + k)]? = some (.int .i64 z) := fun k hk => by
          obtain ⟨v, y, hcv, _, htv⟩ := hfs k _ (Array.getElem?_eq_getElem hk)
          have htu : fs[k].type = u := Nat.eq_of_beq_eq_true (List.all_eq_true.1 hall _ (by simp))
          rw [htu] at htv
          obtain ⟨z, ez, _⟩ := DataW.trod_int hu htv
          cases ez
          exact ⟨z, cell_of hb hcv⟩
        refine ⟨(List.range fs.size).map fun k => match c[off + (i * fs.size + k)]? with | some (Value.int _ z) => z | _ => 0, by simp, fun _ k v hk => ?_⟩
        have hk' : k < fs.size := by
          have := (List.getElem?_eq_some_iff.1 hk).1
          simpa using this
        obtain ⟨z, hz⟩ := each k hk'
        simp only [List.map_map, List.getElem?_map, List.getElem?_range hk', Option.map_some, Function.comp, hz, Option.some.injEq] at hk
        rw [hz, hk]
      · exact ⟨List.replicate fs.size 0, by simp, fun h => absurd h hin⟩
    have hF := fun i => Classical.choose_spec (key i)
    have hflat : Flat fs.size fun i => (Classical.choose (key i)).map fun z => Value.int .i64 z := ⟨fun i => (by rw [List.length_map]; exact (hF i).1), fun i => (by rw [List.all_map]; exact List.all_eq_true.2 fun _ _ => rfl)⟩
    refine rows_some hX hXh hpre hpost hflat hpos (fun H a c hr => hrun _ len (fun i => ⟨_, (hF i).1, rfl⟩) H a c hr) W 0 hb hle (fun i k v hi hk => (hF i).2 hi k v hk) (fun j hj => ?_)
    have hp : p0 = MemPlace.row ⟨b, off, none⟩ (m * fs.size) ++ (List.range m).flatMap Pl := congrArg Prod.snd hx
    have hmem : MemPlace.cell b (off + j) ∈ p0 := by
      rw [hp]
      refine List.mem_append_left _ ?_
      unfold MemPlace.row
      exact List.mem_map.2 ⟨j, by rw [List.mem_range]; have := Nat.mul_le_mul_right fs.size hle; omega, rfl⟩
    have := hnf b (off + j) (hfz _ hmem)
    simp only [World.frozen?, hb] at this
    rintro ⟨h1, h2⟩
    simp [h1, h2] at this
end
end Go.Rw
