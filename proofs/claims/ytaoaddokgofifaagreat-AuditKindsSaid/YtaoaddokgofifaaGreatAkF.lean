/- 'AuditKinds': whatever findings, kind and stop come in, the call returns true, and the findings read as they did. Conditions: none. -/
import Derived.Test.YtaoaddokgofifaaGreatRows
import Derived.Test.YtaoaddokgofifaaGreatAkE
import Derived.ProofKit
import Derived.WideKeyArgs
import Derived.Deep.Slices
import Derived.Deep.Fields
namespace Go.Proofs.YtaoaddokgofifaaGreat
open Go Go.ChangeShapes Go.WideShapes Go.ChangeAt Go.RowKit Go.Deep Go.Ak

section
variable {H : Type} {enc : TypeId × Value → H} {P : Program} {w : World} {base : Nat} {spare : Nat → Bool} {held : Bool}
theorem open_slice_fields {t e : TypeId} {fs : Array Field} {fuel : Nat} {cs : List Value} {x : DataW H × List MemPlace} (ht : P.underlying t = some (.slice e)) (he : P.underlying e = some (.struct fs))
    (hone : oneCellFields P fs = true) (hC : P.cellsOf e = fs.size) (h : DataW.trod enc P w base spare held fuel t cs = some x) :
    (cs = [.slice none 0 0] ∧ x = (.nil, [])) ∨
    ∃ (a : Addr) (len cap m : Nat) (D : Nat → DataW H) (Pl : Nat → List MemPlace), cs = [.slice (some a) len cap] ∧ base ≤ a.block ∧ len ≤ cap ∧ cap ≤ maxLen ∧ m = (if spare a.block then cap else len) ∧
      x = (.slice ((List.range len).map D) ((List.range (m - len)).map fun j => D (len + j)), MemPlace.row a (m * fs.size) ++ (List.range m).flatMap Pl) ∧
      ∀ i, i < m → ∃ (ys : List (DataW H × List MemPlace)) (n : Nat), D i = .agg (ys.map (·.1)) ∧ Pl i = ys.flatMap (·.2) ∧ ys.length = fs.size ∧
        ∀ (j : Nat) (f : Field), fs[j]? = some f → ∃ (v : Value) (y : DataW H × List MemPlace), w.cell? (a.add (i * fs.size + j)) = some v ∧ ys[j]? = some y ∧ DataW.trod enc P w base spare held n f.type [v] = some y := by
  rcases open_slice ht h with h0 | ⟨a, len, cap, m, n, D, Pl, hcs, hb, hl, hm, hmm, hx, hi⟩
  · exact .inl h0
  · refine .inr ⟨a, len, cap, m, D, Pl, hcs, hb, hl, hm, hmm, by rw [hC] at hx; exact hx, fun i him => ?_⟩
    obtain ⟨cs', hc, ht'⟩ := hi i him
    rw [hC] at hc
    obtain ⟨ys, n', hn', hy, hlen, hyl, hf⟩ := DataW.trod_struct he ht'
    obtain ⟨_, hcl, hat⟩ := World.cells?_some hc
    simp only [Prod.mk.injEq] at hy
    refine ⟨ys, n', hy.1, hy.2, hyl, fun j f hj => ?_⟩
    obtain ⟨ho, hk⟩ := hone_of hone j f hj
    have hjl : j < fs.size := (Array.getElem?_eq_some_iff.1 hj).1
    have hcell := hat j hjl
    have hv : cs'[j]? = some (cs'[j]'(by omega)) := List.getElem?_eq_getElem (by omega)
    have h1 := hf j f hj
    rw [ho, hk] at h1
    have hone' : (cs'.drop j).take 1 = [cs'[j]'(by omega)] := by
      rw [List.drop_eq_getElem_cons (by omega)]
      rfl
    rw [hone'] at h1
    have hys : ys[j]? = some (ys[j]'(by omega)) := List.getElem?_eq_getElem (by omega)
    refine ⟨_, _, ?_, hys, h1.trans hys⟩
    rw [← Go.Deep.add_add, hcell, hv]
end

theorem own26 : ownKnob Tryz.prog.godebug = none := by kernel_rfl
theorem laid26 : laidOutB Tryz.prog = true := by kernel_rfl
theorem rec48 : Tryz.prog.readableRec 48 = true := by kernel_rfl
theorem row48 : 48 < Tryz.prog.types.size := of_decide_eq_true (by kernel_rfl)
theorem cells51 : Tryz.prog.cellsOf 51 = 3 := by kernel_rfl

theorem cell_of {W : World} {b off k : Nat} {c : Array Value} {t : TypeId} {fz : Nat × Nat} {v : Value} (hb : W.heap[b]? = some (.cells c t fz)) (h : W.cell? ((⟨b, off, none⟩ : Addr).add k) = some v) : c[off + k]? = some v := by
  have h : W.cell? ⟨b, off + k, none⟩ = some v := by rw [← h]; exact congrArg W.cell? (by simp [Addr.add])
  simpa [World.cell?, hb] using h

set_option maxRecDepth 100000 in
/-- The call, from what the arguments read as. -/
theorem kinds_law {H : Type} {enc : TypeId × Value → H} {W : World} {base : Nat} {v0 : Value} {d0 : DataW H} {p0 q : List MemPlace} (kind stop : Int) (hval : Value.okWide Tryz.prog W .any base 48 v0)
    (h0 : DataW.Trod enc Tryz.prog W 0 (fun _ => true) true 48 v0 d0 p0) (hfz : W.noneFrozen (p0 ++ q)) :
    Calls Tryz.prog 4 #[v0, .int .i64 kind, .int .i64 stop] W fun e W' => e = .returned (.bool true) ∧ Kept W W' := by
  refine (callsIn_wide (n := 0)).1 ?_
  obtain ⟨sa, len, cap, rfl⟩ := okWide_slice Tryz.underlying48 hval
  obtain ⟨fuel, hf⟩ := h0
  rcases open_slice_fields Tryz.underlying48 Tryz.underlying51 (by kernel_rfl) (by kernel_rfl) hf with ⟨hc, _⟩ | ⟨a, len', cap', m, D, Pl, hc, _, hle, _, hm, hx, hi⟩
  · have hc : [Value.slice sa len cap] = [.slice none 0 0] := hc
    cases hc
    exact kinds_nil kind stop W 0
  · have hc : [Value.slice sa len cap] = [.slice (some a) len' cap'] := hc
    cases hc
    have hm : m = cap := hm
    subst hm
    have hok : Cell.ok Tryz.prog W .any base 48 (.slice (some a) len m) := by
      have h := hval
      unfold Value.okWide at h
      rw [Tryz.underlying48] at h
      unfold Cell.okWide at h
      rw [Tryz.underlying48] at h
      exact h
    unfold Cell.ok at hok
    rw [Tryz.underlying48] at hok
    obtain ⟨_, _, _, hspot, row, cells, hshape, _⟩ := hok
    obtain ⟨b, off, spot⟩ := a
    have hspot : spot = none := hspot
    subst hspot
    obtain ⟨c, t, fz, hb⟩ : ∃ c t fz, W.heap[b]? = some (.cells c t fz) := by
      unfold World.shape? at hshape
      split at hshape
      · rename_i c t fz hb
        exact ⟨c, t, fz, hb⟩
      · cases hshape
    have key : ∀ i, ∃ f : Int × Int × Int, i < len → ∀ k v, (cl3 f)[k]? = some v → c[off + (i * 3 + k)]? = some v := fun i => by
      by_cases hin : i < len
      · obtain ⟨ys, n, _, _, _, hfs⟩ := hi i (by omega)
        obtain ⟨u0, y0, hc0, _, ht0⟩ := hfs 0 _ rfl
        obtain ⟨u1, y1, hc1, _, ht1⟩ := hfs 1 _ rfl
        obtain ⟨u2, y2, hc2, _, ht2⟩ := hfs 2 _ rfl
        obtain ⟨z0, e0, _⟩ := DataW.trod_int Tryz.underlying3 ht0
        obtain ⟨z1, e1, _⟩ := DataW.trod_int Tryz.underlying3 ht1
        obtain ⟨z2, e2, _⟩ := DataW.trod_int Tryz.underlying3 ht2
        cases e0; cases e1; cases e2
        refine ⟨(z0, z1, z2), fun _ k v hk => ?_⟩
        match k, hk with
        | 0, hk => cases hk; exact cell_of hb hc0
        | 1, hk => cases hk; exact cell_of hb hc1
        | 2, hk => cases hk; exact cell_of hb hc2
      · exact ⟨(0, 0, 0), fun h => absurd h hin⟩
    have hF := fun i => Classical.choose_spec (key i)
    refine kinds_some kind stop W 0 hb hle (F := fun i => Classical.choose (key i)) (fun i k v hi hk => hF i hi k v hk) (fun j hj => ?_)
    have hp : p0 = MemPlace.row ⟨b, off, none⟩ (m * 3) ++ (List.range m).flatMap Pl := congrArg Prod.snd hx
    have hmem : MemPlace.cell b (off + j) ∈ p0 ++ q := by
      rw [hp, List.append_assoc]
      refine List.mem_append_left _ ?_
      unfold MemPlace.row
      exact List.mem_map.2 ⟨j, by rw [List.mem_range]; have := Nat.mul_le_mul_right 3 hle; omega, rfl⟩
    have := hfz b (off + j) hmem
    simp only [World.frozen?, hb] at this
    rintro ⟨h1, h2⟩
    simp [h1, h2] at this

set_option maxRecDepth 100000 in
theorem kinds_lifted (os : Os) (started : os.Started) (H : Type) (enc : TypeId × Value → H) :
    ReturnsInHanded {} Tryz.checked os 4 .any (Rows.auditKindsSpec.pre6 enc Tryz.prog Tryz.f4 Rows.auditKindsRow.domain false) (Rows.auditKindsSpec.post enc Tryz.prog Tryz.f4 false true false false) := by
  refine returnsInHanded_of_change (C := Tryz.checked) own26 started (by kernel_rfl) Tryz.func4
    (ChangeSpec.witness6 (enc := enc) (C := Tryz.checked) false ⟨#[], #[.slice none 0 0, .int .i64 0, .int .i64 0], []⟩ 8 (by kernel_rfl) (by kernel_rfl) (by kernel_rfl) (by kernel_rfl)) ?_
  intro W base args ds gs before hval0 hW hcnd _
  have hval : ∀ (j : Nat) t v, Tryz.f4.params[j]? = some t → args[j]? = some v → Value.okWide Tryz.prog W .any base t v := hval0
  have hW' := hW
  obtain ⟨p, q, hA0, hV, rfl, hfz, hnd⟩ := hW
  have hA : DataW.TrodAll enc Tryz.prog W 0 (fun _ => true) true Tryz.f4.params.toList args.toList ds p := hA0
  rw [Tryz.params4] at hA hval
  obtain ⟨v0, v1, v2, d0, d1, d2, p0, p1, p2, rfl, rfl, rfl, h0, h1, h2⟩ := trodAll_three hA
  obtain ⟨rfl, rfl⟩ := trodVars_none hV
  obtain ⟨kind, rfl, rfl, rfl, wk⟩ := open_int Tryz.underlying3 (hval 1 3 v1 rfl rfl) h1
  obtain ⟨stop, rfl, rfl, rfl, ws⟩ := open_int Tryz.underlying3 (hval 2 3 v2 rfl rfl) h2
  have hlt := hW'.lt
  simp only [List.append_nil] at hW' hfz hlt
  refine (kinds_law (q := []) kind stop (hval 0 48 v0 rfl rfl) h0 (by rw [List.append_nil]; exact hfz)).mono fun e W' ⟨he, hos, hop, hsz, hblk⟩ => ?_
  subst he
  have hbel : Below W.heap.size W { W' with tape := W.tape } := ⟨hos, rfl, hop, hsz, hblk⟩
  have hkept : W.keptBut W' (· ∈ p0) := hbel.frame _
  have h0' : ∀ sp : Nat → Bool, (∀ p ∈ p0, sp p.block = true) → DataW.Trod enc Tryz.prog W' 0 sp true 48 v0 d0 p0 := fun sp hsp =>
    WideElems.Trod_stays (P := Tryz.prog) laid26 rec48 row48 h0 (fun p hp => hbel.same (hlt p hp)) hsp
  have hold : ∀ p ∈ p0, (fun b => decide (b < W.heap.size)) p.block = true := fun p hp => by simpa using hlt p hp
  refine ⟨_, rfl, _, _, _, [], p0 ++ ([] ++ []), [], hW', ?_, ?_, ?_, ?_, fun h => by cases h⟩
  · exact trodAll_mk1 (shut_bool Tryz.underlying4 true)
  · exact trodAll_mk3 (h0' _ hold) (shut_int Tryz.underlying3 wk) (shut_int Tryz.underlying3 ws)
  · rfl
  · have := hbel.frame (fun p => p ∈ p0 ∧ (p ∈ ([] : List MemPlace) ∨ p ∈ p0 ++ ([] ++ []) ∨ p ∈ ([] : List MemPlace)))
    unfold World.keptBut at this ⊢
    exact this

end Go.Proofs.YtaoaddokgofifaaGreat
