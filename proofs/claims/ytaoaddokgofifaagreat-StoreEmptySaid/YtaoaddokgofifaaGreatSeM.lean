/- Geometries: the reference's answer, and small functions of them. -/
import Derived.Test.YtaoaddokgofifaaGreatVcT
import Derived.Test.YtaoaddokgofifaaGreatVcM
import Derived.Test.YtaoaddokgofifaaGreatPrD
namespace Go.Se
open Go Go.Proofs Go.Ev Go.Fv Go.Wp Go.Pr Go.Vc
set_option maxRecDepth 10000

/-- The anchor's answer. -/
def yesPrim : List Value → AH → Option (Value × AH)
  | [], H => some (.bool true, H)
  | _, _ => none
/-- The functions that are answered by a contract of their own, and the anchor. -/
noncomputable def XS : Prims := fun f => if f = 5 then some yesPrim else X0 f

structure Geo where
  d : Int
  z : Int
  s : Int
  b : Int
  p : Int
  o : Int
def Geo.cs (g : Geo) : List Value := [.int .i64 g.d, .int .i64 g.z, .int .i64 g.s, .int .i64 g.b, .int .i64 g.p, .int .i64 g.o]
def Geo.v (g : Geo) : Value := .agg ⟨g.cs⟩
/-- All numbers are small. -/
def Geo.Small (g : Geo) : Prop := 3 ≤ g.d ∧ g.d ≤ 8 ∧ 1 ≤ g.z ∧ g.z ≤ 64 ∧ 4 ≤ g.s ∧ g.s ≤ 64 ∧ 1 ≤ g.b ∧ g.b ≤ 256 ∧ 0 ≤ g.p ∧ g.p ≤ 4 ∧ 4 ≤ g.o ∧ g.o ≤ 64

theorem wr {n : Int} (h0 : -9223372036854775808 ≤ n) (h : n < 9223372036854775808) : IntKind.i64.wrap n = n := wrap_i64 h0 h

theorem all_fn (g : Geo) (H : AH) : C P0 T0 XS 24 [g.v] H fun v H' => v = .int .i64 (IntKind.i64.wrap (g.d * g.z)) ∧ Ext H H' := by
  refine enter s0_ok (f := 24) (fn := Tryz.f24) (by kernel_rfl) (by kernel_rfl) rfl (by kernel_rfl) ?_
  refine al' rfl fun b H1 hx _ _ hb => ?_
  refine ld hb rfl ?_
  refine ld hb rfl ?_
  exact ⟨rfl, hx⟩

theorem half_fn (n : Int) (H : AH) : C P0 T0 XS 107 [.int .i64 n] H fun v H' => (∃ m, v = .int .i64 m) ∧ Ext H H' := by
  refine enter s0_ok (f := 107) (fn := Tryz.f107) (by kernel_rfl) (by kernel_rfl) rfl (by kernel_rfl) ?_
  refine cmp (fun h => ?_) (fun h => ?_)
  · refine su (by decide) ?_
    exact ⟨⟨_, rfl⟩, Ext.refl H⟩
  · refine su (by decide) ?_
    exact ⟨⟨_, rfl⟩, Ext.refl H⟩

theorem rparts_fn {g : Geo} (hg : g.Small) (H : AH) : C P0 T0 XS 58 [g.v] H fun v H' => (∃ m, v = .int .i64 m) ∧ Ext H H' := by
  refine enter s0_ok (f := 58) (fn := Tryz.f58) (by kernel_rfl) (by kernel_rfl) rfl (by kernel_rfl) ?_
  refine al' rfl fun b H1 hx _ _ hb => ?_
  refine lp s0_ok (ι := Nat × Int) 14 (fun i => 300 - i.1) (fun i => [(1, ptr b 0), (3, .int .i64 i.2), (4, .int .i64 i.1)]) (fun i H2 => i.1 < 300 ∧ H2 = H1) (0, 1) rfl rfl ⟨rfl, rfl, rfl, trivial⟩ ⟨by omega, rfl⟩ ?_
  rintro ⟨i, m⟩ l0 H2 ⟨hi, rfl⟩
  refine ld hb rfl ?_
  refine cmp (fun h => ?_) (fun h => ?_)
  · have hb' := hg.2.2.2.2.2.2.2.1
    refine ⟨(i + 2, _), ?_, rfl, ⟨rfl, rfl, ?_, trivial⟩, ?_, rfl⟩
    · show 300 - (i + 2) < 300 - i; omega
    · exact congrArg _ (wr (by omega) (by omega))
    · show i + 2 < 300; omega
  · exact ⟨⟨_, rfl⟩, hx⟩

theorem rseg_fn (g : Geo) (H : AH) : C P0 T0 XS 59 [g.v] H fun v H' => (∃ m, v = .int .i64 m) ∧ Ext H H' := by
  refine enter s0_ok (f := 59) (fn := Tryz.f59) (by kernel_rfl) (by kernel_rfl) rfl (by kernel_rfl) ?_
  refine al' rfl fun b H1 hx hbn hn hb => ?_
  refine ld hb rfl (ld hb rfl (ld hb rfl (ld hb rfl (ld hb rfl (ld hb rfl ?_)))))
  have hst : Stab H1.next [(b, .cells g.cs 66)] H1 := .cons (by omega) hb .nil
  refine cmp (fun h => ?_) (fun h => ?_) <;>
  · refine drw s0_ok hst rfl ?_
    refine bel rfl (cl (half_fn _ _) ?_)
    rintro _ H2 ⟨⟨m, rfl⟩, hx2⟩
    refine keep hst hx2 ?_
    refine dld (.head _) rfl rfl (dld (.head _) rfl rfl ?_)
    exact ⟨⟨_, rfl⟩, hx.trans hx2⟩

theorem rright_fn (g : Geo) (H : AH) : C P0 T0 XS 22 [g.v] H fun v H' => (∃ b, v = .bool b ∧ (b = true → g.Small)) ∧ Ext H H' := by
  refine enter s0_ok (f := 22) (fn := Tryz.f22) (by kernel_rfl) (by kernel_rfl) rfl (by kernel_rfl) ?_
  refine al' rfl fun b H1 hx hbn hn hb => ?_
  have no : ∀ {b : Bool}, b = false → ∃ b', Value.bool b = .bool b' ∧ (b' = true → g.Small) := fun h => ⟨_, rfl, fun e => by rw [h] at e; cases e⟩
  refine ld hb rfl (cmp (fun _ => ⟨no rfl, hx⟩) fun h1 => ld hb rfl (cmp (fun _ => ⟨no rfl, hx⟩) fun h2 => ?_))
  refine ld hb rfl (cmp (fun _ => ⟨no rfl, hx⟩) fun h3 => ld hb rfl (cmp (fun _ => ⟨no rfl, hx⟩) fun h4 => ?_))
  refine ld hb rfl (cmp (fun _ => ⟨no rfl, hx⟩) fun h5 => ld hb rfl (cmp (fun _ => ⟨no rfl, hx⟩) fun h6 => ?_))
  refine ld hb rfl (cmp (fun _ => ⟨no rfl, hx⟩) fun h7 => ld hb rfl (cmp (fun _ => ⟨no rfl, hx⟩) fun h8 => ?_))
  refine ld hb rfl (cmp (fun _ => ⟨no rfl, hx⟩) fun h9 => ld hb rfl (cmp (fun _ => ⟨no rfl, hx⟩) fun h10 => ?_))
  refine ld hb rfl (cmp (fun _ => ⟨no rfl, hx⟩) fun h11 => ld hb rfl (cmp (fun _ => ⟨no rfl, hx⟩) fun h12 => ?_))
  have hg : g.Small := ⟨by omega, by omega, by omega, by omega, by omega, by omega, by omega, by omega, by omega, by omega, by omega, by omega⟩
  have hst : Stab H1.next [(b, .cells g.cs 66)] H1 := .cons (by omega) hb .nil
  refine drw s0_ok hst rfl ?_
  refine dldA (.head _) (Nat.le_refl 6) rfl rfl ?_
  refine bel rfl (cl (rparts_fn hg _) ?_)
  rintro _ H2 ⟨⟨m, rfl⟩, hx2⟩
  refine keep hst hx2 (dld (.head _) rfl rfl ?_)
  refine cmp (fun h => ?_) (fun h => ⟨no rfl, hx.trans hx2⟩)
  refine dld (.head _) rfl rfl (dld (.head _) rfl rfl (dldA (.head _) (Nat.le_refl 6) rfl rfl ?_))
  refine bel rfl (cl (rseg_fn g _) ?_)
  rintro _ H3 ⟨⟨m, rfl⟩, hx3⟩
  refine keep (hst.ext hx2) hx3 ?_
  exact cmp (fun h => ⟨⟨true, rfl, fun _ => hg⟩, hx.trans (hx2.trans hx3)⟩) (fun h => ⟨no rfl, hx.trans (hx2.trans hx3)⟩)
end Go.Se

namespace Go.Se
open Go Go.Proofs Go.Ev Go.Fv Go.Wp Go.Pr Go.Vc
set_option maxRecDepth 10000

theorem zwithin_fn (n m : Int) (H : AH) : C P0 T0 XS 108 [.int .i64 n, .int .i64 m] H fun v H' => v = .bool (decide (1 ≤ n ∧ n ≤ m)) ∧ H = H' := by
  refine enter s0_ok (f := 108) (fn := Tryz.f108) (by kernel_rfl) (by kernel_rfl) rfl (by kernel_rfl) ?_
  refine cmp (fun h => cmp (fun h2 => ?_) (fun h2 => ?_)) (fun h => ?_)
  · exact ⟨congrArg _ (decide_eq_true ⟨h, h2⟩).symm, rfl⟩
  · exact ⟨congrArg _ (decide_eq_false (fun hh => h2 hh.2)).symm, rfl⟩
  · exact ⟨congrArg _ (decide_eq_false (fun hh => h hh.1)).symm, rfl⟩

/-- A new zone. -/
def zoneC (s : Int) : List Value := [.slice none 0 0, .int .i64 s, .int .i64 0, .int .i64 0, .bool false]
theorem znew_fn {s : Int} (h1 : 1 ≤ s) (h2 : s ≤ 64) (H : AH) : C P0 T0 XS 109 [.int .i64 s] H fun v H' => Ext H H' ∧ ∃ z, v = .tuple #[ptr z 0, .int .i64 0] := by
  refine enter s0_ok (f := 109) (fn := Tryz.f109) (by kernel_rfl) (by kernel_rfl) rfl (by kernel_rfl) ?_
  refine cf (by omega) (cf (by omega) ?_)
  exact al' rfl fun b H1 hx _ _ _ => ⟨hx, b, rfl⟩

/-- A new device. -/
theorem dnew_fn {n s o : Int} (hn : 1 ≤ n ∧ n ≤ 64) (hs : 1 ≤ s ∧ s ≤ 64) (ho : 1 ≤ o ∧ o ≤ 64) (H : AH) : C P0 T0 XS 60 [.int .i64 n, .int .i64 s, .int .i64 o] H fun v H' =>
    Ext H H' ∧ ∃ b a l c e, v = .tuple #[ptr b 0, .int .i64 0] ∧ H.next ≤ b ∧ b < H'.next ∧ H'.get b = some (.cells [.slice a l c, .int .i64 s, .int .i64 o, .int .i64 0, .bool false] e) := by
  refine enter s0_ok (f := 60) (fn := Tryz.f60) (by kernel_rfl) (by kernel_rfl) rfl (by kernel_rfl) ?_
  refine cl (zwithin_fn _ _ _) ?_
  rintro _ _ ⟨rfl, rfl⟩
  rw [decide_eq_true (show (1 : Int) ≤ n ∧ n ≤ 512 by omega)]
  refine cl (zwithin_fn _ _ _) ?_
  rintro _ _ ⟨rfl, rfl⟩
  rw [decide_eq_true ho]
  refine al' rfl fun b H1 hx hbn hn1 hb => ?_
  refine lp s0_ok (ι := Nat × Value) 46 (fun i => n.toNat - i.1) (fun i => [(0, .int .i64 n), (1, .int .i64 s), (2, .int .i64 o), (8, ptr b 0), (23, .int .i64 n), (24, .int .i64 i.1)])
    (fun i H2 => (i.1 : Int) ≤ n ∧ Ext H H2 ∧ b < H2.next ∧ ∃ e, H2.get b = some (.cells [i.2, .int .i64 s, .int .i64 o, .int .i64 0, .bool false] e) ∧
      ((i.1 = 0 ∧ i.2 = .slice none 0 0) ∨ ∃ z cs, i.1 ≠ 0 ∧ i.2 = .slice (some ⟨z, 0, none⟩) i.1 2 ∧ H.next ≤ z ∧ z ≠ b ∧ z < H2.next ∧ H2.get z = some (.cells cs 205) ∧ cs.length = i.1 ∧ cs.all one1 = true)) (0, .slice none 0 0) rfl rfl ⟨rfl, rfl, rfl, rfl, rfl, rfl, trivial⟩
    ⟨by show (0 : Int) ≤ n; omega, hx, by omega, _, hb, .inl ⟨rfl, rfl⟩⟩ ?_
  rintro ⟨i, sl⟩ l0 H2 ⟨hi, hx2, hb2, e, hg, hsl⟩
  dsimp only at hi hg hsl
  refine cmp (fun h => ?_) (fun h => ?_)
  · refine cl (znew_fn hs.1 hs.2 H2) ?_
    rintro _ H3 ⟨hx3, z, rfl⟩
    refine cf (fun h => h rfl) ?_
    have hg3 := hx3.get hb2 hg
    refine ld hg3 rfl ?_
    refine nw fun r H4 hx4 hr hr1 hr4 => ?_
    have hr4 : H4.get r = some (.cells [ptr z 0] 205) := hr4
    have hg4 := hx4.get (Nat.lt_of_lt_of_le hb2 hx3.1) hg3
    have hnx := hx3.1
    have hnx4 := hx4.1
    have hHb := hx.1
    have hin : (i : Int) + 1 ≤ n := by have : (i : Int) < n := h; omega
    have hx24 := hx2.trans (hx3.trans hx4)
    rcases hsl with ⟨h0, rfl⟩ | ⟨z0, cs, h0, rfl, hz0, hzb, hzn, hz0', hcs, hc1⟩
    · subst h0
      refine app0 hr4 (Nat.le_refl 1) rfl rfl (by decide) (by decide) fun q H5 hx5 hq hq1 hq5 => ?_
      have hg5 := hx5.get (by omega) hg4
      refine st' hg5 rfl (lb rfl) rfl fun H6 hx6 hn6 hg6 => ?_
      refine ⟨(1, _), ?_, rfl, ⟨rfl, rfl, rfl, rfl, rfl, rfl, trivial⟩, ?_, ?_, ?_, e, hg6, .inr ⟨q, _, by simp, rfl, by omega, by omega, by omega, hx6.get (by omega) (by omega) hq5, rfl, rfl⟩⟩
      · show n.toNat - 1 < n.toNat - 0; omega
      · show (1 : Int) ≤ n; omega
      · exact hx6.ext (hx24.trans hx5) (by omega)
      · omega
    · have hz4 := hx4.get (Nat.lt_of_lt_of_le hzn hx3.1) (hx3.get hzn hz0')
      refine appO hr4 (Nat.le_refl 1) rfl rfl (by decide) (by show (i + 1) * 2 * (8 + 1) + 1024 * (8 + 1) ≤ 2 ^ 46; omega) hz4 (by omega) fun q H5 hx5 hq hq1 hq5 => ?_
      have hg5 := hx5.get (by omega) (Ne.symm hzb) hg4
      refine st' hg5 rfl (lb rfl) rfl fun H6 hx6 hn6 hg6 => ?_
      refine ⟨(i + 1, _), ?_, rfl, ⟨rfl, rfl, rfl, rfl, rfl, congrArg _ (wr (by omega) (by omega)), trivial⟩, ?_, ?_, ?_, e, hg6, .inr ⟨q, _, by simp, rfl, by omega, by omega, by omega, hx6.get (by omega) (by omega) hq5, ?_, ?_⟩⟩
      · show n.toNat - (i + 1) < n.toNat - i; omega
      · show ((i + 1 : Nat) : Int) ≤ n; omega
      · exact hx6.ext (hx5.ext hx24 hz0) (by omega)
      · omega
      · simp [hcs]
      · simp only [List.all_append, Bool.and_eq_true]
        exact ⟨by simpa [List.all_eq_true] using fun x hx => List.all_eq_true.1 hc1 x (List.mem_of_mem_take hx), rfl⟩
  · refine ⟨hx2, b, ?_⟩
    rcases hsl with ⟨_, rfl⟩ | ⟨z, cs, _, rfl, _⟩
    · exact ⟨none, 0, 0, e, rfl, by omega, hb2, hg⟩
    · exact ⟨some ⟨z, 0, none⟩, i, 2, e, rfl, by omega, hb2, hg⟩

/-- A drive without events, and its device. -/
def driveC (dv m : Nat) : List Value := [ptr dv 0, .slice none 0 0, .slice none 0 0, .map (some m)]
def devC (a : Option Addr) (l c : Nat) (s o : Int) : List Value := [.slice a l c, .int .i64 s, .int .i64 o, .int .i64 0, .bool false]
theorem pnew_fn {n s o : Int} (hn : 1 ≤ n ∧ n ≤ 64) (hs : 1 ≤ s ∧ s ≤ 64) (ho : 1 ≤ o ∧ o ≤ 64) (H : AH) : C P0 T0 XS 23 [.int .i64 n, .int .i64 s, .int .i64 o] H fun v H' =>
    Ext H H' ∧ ∃ d dv m a l c e e', v = .tuple #[ptr d 0, .int .i64 0] ∧ H.next ≤ d ∧ d < H'.next ∧ H.next ≤ dv ∧ dv < H'.next ∧ H'.get d = some (.cells (driveC dv m) e) ∧ H'.get dv = some (.cells (devC a l c s o) e') := by
  refine enter s0_ok (f := 23) (fn := Tryz.f23) (by kernel_rfl) (by kernel_rfl) rfl (by kernel_rfl) ?_
  refine cl (dnew_fn hn hs ho H) ?_
  rintro _ H1 ⟨hx, dv, a, l, c, e', rfl, h1, h2, h3⟩
  refine cf (fun h => h rfl) ?_
  refine nw fun m H2 hx2 hm hm1 hm2 => ?_
  refine al' rfl fun d H3 hx3 hd hd1 hd2 => ?_
  have g1 := hx.1
  have g2 := hx2.1
  exact ⟨hx.trans (hx2.trans hx3), d, dv, m, a, l, c, _, e', rfl, by omega, by omega, h1, by omega, hd2, hx3.get (by omega) (hx2.get h2 h3)⟩

theorem qnew_fn {n : Int} (hn : 1 ≤ n ∧ n ≤ 4096) (H : AH) : C P0 T0 XS 164 [.int .i64 n] H fun v H' => Ext H H' ∧ ∃ q, v = .tuple #[ptr q 0, .int .i64 0] := by
  refine enter s0_ok (f := 164) (fn := Tryz.f164) (by kernel_rfl) (by kernel_rfl) rfl (by kernel_rfl) ?_
  refine cf (by omega) (cf (by omega) ?_)
  refine evC (ev_makeChan' (by kernel_rfl) rfl (by omega) (by omega)) fun ch H2 hx2 _ _ _ => ?_
  exact al' rfl fun q H3 hx3 _ _ _ => ⟨hx2.trans hx3, q, rfl⟩

theorem gwithin_fn (n a b : Int) (H : AH) : C P0 T0 XS 177 [.int .i64 n, .int .i64 a, .int .i64 b] H fun v H' => (∃ t, v = .bool t ∧ (t = true → a ≤ n ∧ n ≤ b)) ∧ H = H' := by
  refine enter s0_ok (f := 177) (fn := Tryz.f177) (by kernel_rfl) (by kernel_rfl) rfl (by kernel_rfl) ?_
  refine cmp (fun h => cmp (fun h2 => ?_) (fun h2 => ?_)) (fun h => ?_)
  · exact ⟨⟨true, rfl, fun _ => ⟨h, h2⟩⟩, rfl⟩
  · exact ⟨⟨false, rfl, fun h => by cases h⟩, rfl⟩
  · exact ⟨⟨false, rfl, fun h => by cases h⟩, rfl⟩

theorem gsmall_fn (g : Geo) (H : AH) : C P0 T0 XS 129 [g.v] H fun v H' => (∃ t, v = .bool t ∧ (t = true → g.Small)) ∧ Ext H H' := by
  refine enter s0_ok (f := 129) (fn := Tryz.f129) (by kernel_rfl) (by kernel_rfl) rfl (by kernel_rfl) ?_
  refine al' rfl fun b H1 hx hbn hn hb => ?_
  have no : ∃ t, Value.bool false = .bool t ∧ (t = true → g.Small) := ⟨false, rfl, fun h => by cases h⟩
  refine ld hb rfl (cl (gwithin_fn _ _ _ _) ?_)
  rintro _ _ ⟨⟨t1, rfl, h1⟩, rfl⟩
  cases t1
  · exact ⟨no, hx⟩
  refine ld hb rfl (cl (gwithin_fn _ _ _ _) ?_)
  rintro _ _ ⟨⟨t2, rfl, h2⟩, rfl⟩
  cases t2
  · exact ⟨no, hx⟩
  refine ld hb rfl (cl (gwithin_fn _ _ _ _) ?_)
  rintro _ _ ⟨⟨t3, rfl, h3⟩, rfl⟩
  cases t3
  · exact ⟨no, hx⟩
  refine ld hb rfl (cl (gwithin_fn _ _ _ _) ?_)
  rintro _ _ ⟨⟨t4, rfl, h4⟩, rfl⟩
  cases t4
  · exact ⟨no, hx⟩
  refine ld hb rfl (cl (gwithin_fn _ _ _ _) ?_)
  rintro _ _ ⟨⟨t5, rfl, h5⟩, rfl⟩
  cases t5
  · exact ⟨no, hx⟩
  refine ld hb rfl (cl (gwithin_fn _ _ _ _) ?_)
  rintro _ _ ⟨⟨t6, rfl, h6⟩, rfl⟩
  exact ⟨⟨t6, rfl, fun h => ⟨(h1 rfl).1, (h1 rfl).2, (h2 rfl).1, (h2 rfl).2, (h3 rfl).1, (h3 rfl).2, (h4 rfl).1, (h4 rfl).2, (h5 rfl).1, (h5 rfl).2, (h6 h).1, (h6 h).2⟩⟩, hx⟩

theorem gparts_fn (g : Geo) (H : AH) : C P0 T0 XS 130 [g.v] H fun v H' => (∃ m, v = .int .i64 m) ∧ Ext H H' := by
  refine enter s0_ok (f := 130) (fn := Tryz.f130) (by kernel_rfl) (by kernel_rfl) rfl (by kernel_rfl) ?_
  refine al' rfl fun b H1 hx hbn hn hb => ?_
  refine ld hb rfl (su (by decide) ?_)
  exact ⟨⟨_, rfl⟩, hx⟩
theorem gres_fn (g : Geo) (H : AH) : C P0 T0 XS 80 [g.v] H fun v H' => (∃ m, v = .int .i64 m) ∧ Ext H H' := by
  refine enter s0_ok (f := 80) (fn := Tryz.f80) (by kernel_rfl) (by kernel_rfl) rfl (by kernel_rfl) ?_
  refine al' rfl fun b H1 hx hbn hn hb => ?_
  refine ld hb rfl (ld hb rfl ?_)
  exact ⟨⟨_, rfl⟩, hx⟩
theorem gseg_fn (g : Geo) (H : AH) : C P0 T0 XS 131 [g.v] H fun v H' => (∃ m, v = .int .i64 m) ∧ Ext H H' := by
  refine enter s0_ok (f := 131) (fn := Tryz.f131) (by kernel_rfl) (by kernel_rfl) rfl (by kernel_rfl) ?_
  refine al' rfl fun b H1 hx hbn hn hb => ?_
  have hst : Stab H1.next [(b, .cells g.cs 23)] H1 := .cons (by omega) hb .nil
  refine drw s0_ok hst rfl ?_
  refine dld (.head _) rfl rfl (dld (.head _) rfl rfl (dldA (.head _) (Nat.le_refl 6) rfl rfl ?_))
  refine bel rfl (cl (gres_fn g _) ?_)
  rintro _ H2 ⟨⟨m, rfl⟩, hx2⟩
  refine keep hst hx2 ?_
  have hb2 := hx2.get (by omega) hb
  refine ld hb2 rfl (ld hb2 rfl ?_)
  refine su (by decide) (ld hb2 rfl (ld hb2 rfl ?_))
  exact ⟨⟨_, rfl⟩, hx.trans hx2⟩
theorem gright_fn (g : Geo) (H : AH) : C P0 T0 XS 74 [g.v] H fun v H' => (∃ t, v = .bool t ∧ (t = true → g.Small)) ∧ Ext H H' := by
  refine enter s0_ok (f := 74) (fn := Tryz.f74) (by kernel_rfl) (by kernel_rfl) rfl (by kernel_rfl) ?_
  refine al' rfl fun b H1 hx hbn hn hb => ?_
  have no : ∃ t, Value.bool false = .bool t ∧ (t = true → g.Small) := ⟨false, rfl, fun h => by cases h⟩
  have hst : Stab H1.next [(b, .cells g.cs 23)] H1 := .cons (by omega) hb .nil
  refine drw s0_ok hst rfl ?_
  refine dldA (.head _) (Nat.le_refl 6) rfl rfl ?_
  refine bel rfl (cl (gsmall_fn g _) ?_)
  rintro _ H2 ⟨⟨t, rfl, hs⟩, hx2⟩
  refine keep hst hx2 ?_
  have hst2 := hst.ext hx2
  cases t
  · exact ⟨no, hx.trans hx2⟩
  refine dldA (.head _) (Nat.le_refl 6) rfl rfl ?_
  refine bel rfl (cl (gparts_fn g _) ?_)
  rintro _ H3 ⟨⟨m, rfl⟩, hx3⟩
  refine keep hst2 hx3 (dld (.head _) rfl rfl ?_)
  have hst3 := hst2.ext hx3
  refine cmp (fun h => ?_) (fun h => ⟨no, hx.trans (hx2.trans hx3)⟩)
  refine dld (.head _) rfl rfl (dld (.head _) rfl rfl (dldA (.head _) (Nat.le_refl 6) rfl rfl ?_))
  refine bel rfl (cl (gseg_fn g _) ?_)
  rintro _ H4 ⟨⟨m, rfl⟩, hx4⟩
  refine keep hst3 hx4 ?_
  exact cmp (fun h => ⟨⟨true, rfl, fun _ => hs rfl⟩, hx.trans (hx2.trans (hx3.trans hx4))⟩) (fun h => ⟨no, hx.trans (hx2.trans (hx3.trans hx4))⟩)
end Go.Se

namespace Go.Se
open Go Go.Proofs Go.Ev Go.Fv Go.Wp Go.Pr Go.Vc
set_option maxRecDepth 10000
set_option maxHeartbeats 400000

theorem plnew_fn (g : Geo) (H : AH) : C P0 T0 XS 110 [g.v] H fun v H' => Ext H H' ∧ (v = .tuple #[.pointer none, .int .i64 20] ∨ (g.Small ∧ ∃ p, v = .tuple #[ptr p 0, .int .i64 0] ∧ p < H'.next)) := by
  refine enter s0_ok (f := 110) (fn := Tryz.f110) (by kernel_rfl) (by kernel_rfl) rfl (by kernel_rfl) ?_
  refine al' rfl fun b H1 hx hbn hn hb => ?_
  refine ldA hb (Nat.le_refl 6) rfl (cl (gright_fn g _) ?_)
  rintro _ H2 ⟨⟨t, rfl, hs⟩, hx2⟩
  cases t
  · exact ⟨hx.trans hx2, .inl rfl⟩
  have hs := hs rfl
  have hb2 := hx2.get (by omega) hb
  have g1 := hx.1
  have g2 := hx2.1
  refine ldA hb2 (Nat.le_refl 6) rfl (al' rfl fun p H3 hx3 hp hp1 hp2 => ?_)
  have hb3 := hx3.get (by omega) hb2
  refine ld hb3 rfl ?_
  have hd := hs.2.1
  refine lp s0_ok (ι := Nat × Value) 38 (fun i => g.d.toNat - i.1) (fun i => [(1, ptr b 0), (4, ptr p 0), (14, .int .i64 g.d), (15, .int .i64 i.1)])
    (fun i H2 => (i.1 : Int) ≤ g.d ∧ Ext H H2 ∧ p < H2.next ∧ H2.get b = some (.cells g.cs 23) ∧ ∃ e, H2.get p = some (.cells (g.cs ++ [i.2]) e) ∧
      ((i.1 = 0 ∧ i.2 = .slice none 0 0) ∨ ∃ z cs, i.1 ≠ 0 ∧ i.2 = .slice (some ⟨z, 0, none⟩) i.1 2 ∧ H.next ≤ z ∧ z ≠ p ∧ z ≠ b ∧ z < H2.next ∧ H2.get z = some (.cells cs 141) ∧ cs.length = i.1 ∧ cs.all one1 = true)) (0, .slice none 0 0) rfl rfl ⟨rfl, rfl, rfl, rfl, trivial⟩
    ⟨by show (0 : Int) ≤ g.d; have := hs.1; omega, hx.trans (hx2.trans hx3), by omega, hb3, _, hp2, .inl ⟨rfl, rfl⟩⟩ ?_
  rintro ⟨i, sl⟩ l0 H4 ⟨hi, hx4, hp4, hb4, e, hg, hsl⟩
  dsimp only at hi hg hsl
  have hzz := hs.2.2.1
  have hzz2 := hs.2.2.2.1
  refine cmp (fun h => ?_) (fun h => ⟨hx4, .inr ⟨hs, p, rfl, hp4⟩⟩)
  have hin : (i : Int) + 1 ≤ g.d := by have : (i : Int) < g.d := h; omega
  refine ld hb4 rfl (cl (qnew_fn (by omega) H4) ?_)
  rintro _ H5 ⟨hx5, q, rfl⟩
  refine cf (fun h => h rfl) ?_
  have hb5 := hx5.get (by omega) hb4
  have hg5 := hx5.get hp4 hg
  have n5 := hx5.1
  refine ld hg5 rfl (nw fun r H6 hx6 hr hr1 hr6 => ?_)
  have hr6 : H6.get r = some (.cells [ptr q 0] 141) := hr6
  have hb6 := hx6.get (by omega) hb5
  have hg6 := hx6.get (by omega) hg5
  have hx46 := hx4.trans (hx5.trans hx6)
  have n6 := hx6.1
  rcases hsl with ⟨h0, rfl⟩ | ⟨z0, cs, h0, rfl, hz0, hzp, hzb, hzn, hz0', hcs, hc1⟩
  · subst h0
    refine app0 hr6 (Nat.le_refl 1) rfl rfl (by decide) (by decide) fun s H7 hx7 hs hs1 hs7 => ?_
    have hg7 := hx7.get (by omega) hg6
    refine st' hg7 rfl (lb rfl) rfl fun H8 hx8 hn8 hg8 => ?_
    refine ⟨(1, _), ?_, rfl, ⟨rfl, rfl, rfl, rfl, trivial⟩, ?_, hx8.ext (hx46.trans hx7) (by omega), by omega, hx8.get (by omega) (by omega) (hx7.get (by omega) hb6), e, hg8, .inr ⟨s, _, by simp, rfl, by omega, by omega, by omega, by omega, hx8.get (by omega) (by omega) hs7, rfl, rfl⟩⟩
    · show g.d.toNat - 1 < g.d.toNat - 0; omega
    · show (1 : Int) ≤ g.d; omega
  · have hz6 := hx6.get (by omega) (hx5.get hzn hz0')
    refine appO hr6 (Nat.le_refl 1) rfl rfl (by decide) (by show (i + 1) * 2 * (8 + 1) + 1024 * (8 + 1) ≤ 2 ^ 46; omega) hz6 (by omega) fun s H7 hx7 hs hs1 hs7 => ?_
    have hg7 := hx7.get (by omega) (Ne.symm hzp) hg6
    refine st' hg7 rfl (lb rfl) rfl fun H8 hx8 hn8 hg8 => ?_
    refine ⟨(i + 1, _), ?_, rfl, ⟨rfl, rfl, rfl, congrArg _ (wr (by omega) (by omega)), trivial⟩, ?_, hx8.ext (hx7.ext hx46 hz0) (by omega), by omega, hx8.get (by omega) (by omega) (hx7.get (by omega) (Ne.symm hzb) hb6), e, hg8,
      .inr ⟨s, _, by simp, rfl, by omega, by omega, by omega, by omega, hx8.get (by omega) (by omega) hs7, ?_, ?_⟩⟩
    · show g.d.toNat - (i + 1) < g.d.toNat - i; omega
    · show ((i + 1 : Nat) : Int) ≤ g.d; omega
    · simp [hcs]
    · simp only [List.all_append, Bool.and_eq_true]
      exact ⟨by simpa [List.all_eq_true] using fun x hx => List.all_eq_true.1 hc1 x (List.mem_of_mem_take hx), rfl⟩

theorem Geo.Small.all {g : Geo} (h : g.Small) : 1 ≤ g.d * g.z ∧ g.d * g.z ≤ 512 ∧ IntKind.i64.wrap (g.d * g.z) = g.d * g.z := by
  have h1 : 1 * 1 ≤ g.d * g.z := Int.mul_le_mul (by have := h.1; omega) h.2.2.1 (by decide) (by have := h.1; omega)
  have h2 : g.d * g.z ≤ 8 * 64 := Int.mul_le_mul h.2.1 h.2.2.2.1 (by have := h.2.2.1; omega) (by decide)
  exact ⟨by omega, by omega, wr (by omega) (by omega)⟩

theorem dev_fn {H : AH} {d dv m : Nat} {e : TypeId} (hd : H.get d = some (.cells (driveC dv m) e)) : C P0 T0 XS 7 [ptr d 0] H fun r H' => r = ptr dv 0 ∧ H = H' := by
  refine enter s0_ok (f := 7) (fn := Tryz.f7) (by kernel_rfl) (by kernel_rfl) rfl (by kernel_rfl) ?_
  exact ld hd rfl ⟨rfl, rfl⟩
theorem cnt_fn {H : AH} {d l c : Nat} {a : Option Addr} {s o : Int} {e : TypeId} (hd : H.get d = some (.cells (devC a l c s o) e)) : C P0 T0 XS 8 [ptr d 0] H fun r H' => r = .int .i64 0 ∧ H = H' := by
  refine enter s0_ok (f := 8) (fn := Tryz.f8) (by kernel_rfl) (by kernel_rfl) rfl (by kernel_rfl) ?_
  exact ld hd rfl ⟨rfl, rfl⟩
theorem dzones_fn {H : AH} {d l c : Nat} {a : Option Addr} {s o : Int} {e : TypeId} (hd : H.get d = some (.cells (devC a l c s o) e)) : C P0 T0 XS 111 [ptr d 0] H fun r H' => r = .int .i64 l ∧ H = H' := by
  refine enter s0_ok (f := 111) (fn := Tryz.f111) (by kernel_rfl) (by kernel_rfl) rfl (by kernel_rfl) ?_
  exact ld hd rfl ⟨rfl, rfl⟩
theorem dsize_fn {H : AH} {d l c : Nat} {a : Option Addr} {s o : Int} {e : TypeId} (hd : H.get d = some (.cells (devC a l c s o) e)) : C P0 T0 XS 112 [ptr d 0] H fun r H' => r = .int .i64 s ∧ H = H' := by
  refine enter s0_ok (f := 112) (fn := Tryz.f112) (by kernel_rfl) (by kernel_rfl) rfl (by kernel_rfl) ?_
  exact ld hd rfl ⟨rfl, rfl⟩
theorem crcnew_fn (H : AH) : C P0 T0 XS 62 [] H fun r H' => r = .agg tabV.toArray ∧ H = H' :=
  C.prim (p := newPrim) (by kernel_rfl) rfl ⟨rfl, rfl⟩

theorem tab_below (n : Nat) : tabV.all (below1 n) = true := by
  have h : tabV.all flat1 = true := by kernel_rfl
  rw [List.all_eq_true] at h ⊢
  intro x hx
  have := h x hx
  cases x <;> first | rfl | (cases this; done)
theorem tab_one : tabV.all one1 = true := by kernel_rfl
/-- A new drive, and its device. -/
def DriveAt (H : AH) (d : Nat) : Prop := ∃ dv m a l c s o e e', d < H.next ∧ dv < H.next ∧ H.get d = some (.cells (driveC dv m) e) ∧ H.get dv = some (.cells (devC a l c s o) e')
theorem DriveAt.ext {H H' : AH} {d : Nat} (h : DriveAt H d) (hx : Ext H H') : DriveAt H' d := by
  obtain ⟨dv, m, a, l, c, s, o, e, e', h1, h2, h3, h4⟩ := h
  have := hx.1
  exact ⟨dv, m, a, l, c, s, o, e, e', by omega, by omega, hx.get h1 h3, hx.get h2 h4⟩

theorem mnew_fn (g : Geo) {d : Nat} (H : AH) (hd : DriveAt H d) : C P0 T0 XS 61 [ptr d 0, g.v, .agg tabV.toArray] H fun v H' => Ext H H' ∧ (v = .tuple #[.pointer none, .int .i64 20] ∨ ∃ p, v = .tuple #[ptr p 0, .int .i64 0]) := by
  refine enter s0_ok (f := 61) (fn := Tryz.f61) (by kernel_rfl) (by kernel_rfl) rfl (by kernel_rfl) ?_
  refine al' rfl fun b H1 hx hbn hn hb => al' (by kernel_rfl) fun t H2 hx2 htn hn2 ht => ?_
  have hb2 := hx2.get (by omega) hb
  have n1 := hx.1
  refine ldA hb2 (Nat.le_refl 6) rfl (cl (plnew_fn g _) ?_)
  rintro _ H3 ⟨hx3, rfl | ⟨hs, p, rfl, hpn⟩⟩
  · refine drw s0_ok (Stab.nil (H := H3)) rfl ?_
    refine ct (by decide) ?_
    exact ⟨hx.trans (hx2.trans hx3), .inl rfl⟩
  · have hx03 := hx.trans (hx2.trans hx3)
    have n3 := hx3.1
    obtain ⟨dv, m, a, l, c, s, o, e, e', h1, h2, h3, h4⟩ := hd.ext hx03
    have hb3 := hx3.get (by omega) hb2
    have ht3 := hx3.get (by omega) ht
    have hst : Stab H3.next [(b, .cells g.cs 23), (t, .cells tabV 125)] H3 := .cons (by omega) hb3 (.cons (by omega) ht3 .nil)
    refine drw s0_ok hst rfl ?_
    refine cf (fun h => h rfl) ?_
    refine bel (bel_cons rfl (bel_cons (below_ptr h1) rfl)) (cl (dev_fn h3) ?_)
    rintro _ _ ⟨rfl, rfl⟩
    refine keep hst (.refl _) (bel (bel_cons rfl (bel_cons (below_ptr h2) rfl)) (cl (dzones_fn h4) ?_))
    rintro _ _ ⟨rfl, rfl⟩
    refine keep hst (.refl _) (dldA (.head _) (Nat.le_refl 6) rfl rfl (bel rfl (cl (all_fn g _) ?_)))
    rintro _ H4 ⟨rfl, hx4⟩
    refine keep hst hx4 ?_
    have n4 := hx4.1
    refine cmp (fun h => ⟨hx03.trans hx4, .inl rfl⟩) (fun h => ?_)
    refine bel (bel_cons rfl (bel_cons (below_ptr (by omega)) rfl)) (cl (dev_fn (hx4.get h1 h3)) ?_)
    rintro _ _ ⟨rfl, rfl⟩
    refine keep (hst.ext hx4) (.refl _) (bel (bel_cons rfl (bel_cons (below_ptr (by omega)) rfl)) (cl (dsize_fn (hx4.get h2 h4)) ?_))
    rintro _ _ ⟨rfl, rfl⟩
    refine keep (hst.ext hx4) (.refl _) (dld (.head _) rfl rfl ?_)
    refine cmp (fun h => ⟨hx03.trans hx4, .inl rfl⟩) (fun h => ?_)
    have hst4 : Stab H4.next [(b, .cells g.cs 23), (t, .cells tabV 125)] H4 := .cons (by omega) (hx4.get (by omega) hb3) (.cons (by omega) (hx4.get (by omega) ht3) .nil)
    refine drw s0_ok hst4 rfl ?_
    refine dldA (.head _) (Nat.le_refl 6) rfl rfl ?_
    refine dldA (n := 256) (vs := tabV) (.tail _ (.head _)) (by rw [show tabV.length = 256 by kernel_rfl]; exact Nat.le_refl _) (by rw [List.drop_zero]; exact List.take_of_length_le (by rw [show tabV.length = 256 by kernel_rfl]; exact Nat.le_refl _)) (by kernel_rfl) ?_
    refine dldA (.head _) (Nat.le_refl 6) rfl rfl (bel rfl (cl (all_fn g _) ?_))
    rintro _ H5 ⟨rfl, hx5⟩
    refine keep hst4 hx5 ?_
    obtain ⟨q1, q2, q3⟩ := hs.all
    rw [q3]
    refine bel rfl ?_
    refine mks (by omega) (by omega) (by show 8 * _ ≤ ((2 ^ 46 : Nat) : Int); omega) fun r H6 hx6 hr hr1 hr6 => ?_
    refine keep (hst4.ext hx5) hx6 ?_
    have n4 := hx4.1
    have n5 := hx5.1
    have n6 := hx6.1
    refine bel (bel_cons (bel_agg (all_rowS (all_rowS (all_rowS (all_rowS (all_rowS (all_rowS (all_rowS rfl (all_one (below_ptr (by omega)))) rfl) ?_) (all_one (below_ptr (by omega)))) (all_one (below_slice (m := (g.d * g.z).toNat) (c := 2 * (g.d * g.z).toNat + 1) (by omega)))) rfl) rfl)) rfl) ?_
    · exact tab_below _
    refine al' (all_arr (all_rowS (all_rowS (all_rowS (all_rowS (all_rowS (all_rowS (all_rowS rfl rfl) rfl) ?_) rfl) rfl) rfl) rfl)) fun mi H7 hx7 _ _ _ => ?_
    · exact tab_one
    refine keep ((hst4.ext hx5).ext hx6) hx7 ?_
    exact ⟨hx03.trans (hx4.trans (hx5.trans (hx6.trans hx7))), .inr ⟨mi, rfl⟩⟩

/-- A store that isn't up, on a drive. -/
def storeC (g : Geo) (d : Nat) : List Value := ptr d 0 :: (g.cs ++ [.pointer none])
theorem snew_fn (g : Geo) {d : Nat} (H : AH) (hd : DriveAt H d) : C P0 T0 XS 25 [ptr d 0, g.v] H fun v H' => Ext H H' ∧ (v = .tuple #[.pointer none, .int .i64 20] ∨ ∃ s e, v = .tuple #[ptr s 0, .int .i64 0] ∧ s < H'.next ∧ H'.get s = some (.cells (storeC g d) e)) := by
  refine enter s0_ok (f := 25) (fn := Tryz.f25) (by kernel_rfl) (by kernel_rfl) rfl (by kernel_rfl) ?_
  refine al' rfl fun b H1 hx hbn hn hb => ?_
  have hst : Stab H1.next [(b, .cells g.cs 23)] H1 := .cons (by omega) hb .nil
  refine drw s0_ok hst rfl ?_
  refine dldA (.head _) (Nat.le_refl 6) rfl rfl (bel rfl (cl (crcnew_fn _) ?_))
  rintro _ _ ⟨rfl, rfl⟩
  have hd1 := hd.ext hx
  have hdn : d < H1.next := by obtain ⟨_, _, _, _, _, _, _, _, _, h, _⟩ := hd1; exact h
  refine keep hst (.refl _) (bel (bel_cons rfl (bel_cons (below_ptr hdn) (bel_cons rfl (bel_cons (bel_agg (tab_below _)) rfl)))) (cl (mnew_fn g _ hd1) ?_))
  rintro _ H2 ⟨hx2, rfl | ⟨p, rfl⟩⟩
  · refine keep hst hx2 (ct (by decide) ?_)
    exact ⟨hx.trans hx2, .inl rfl⟩
  · refine keep hst hx2 (cf (fun h => h rfl) ?_)
    refine ldA (hx2.get (by omega) hb) (Nat.le_refl 6) rfl (al' rfl fun s H3 hx3 hs hs1 hs2 => ?_)
    exact ⟨hx.trans (hx2.trans hx3), .inr ⟨s, _, rfl, by omega, hs2⟩⟩

theorem started_fn (g : Geo) (H : AH) : C P0 T0 XS 6 [g.v] H fun v H' => Ext H H' ∧ (v = .tuple #[.pointer none, .pointer none] ∨ ∃ s d e, v = .tuple #[ptr s 0, ptr d 0] ∧ s < H'.next ∧ H'.get s = some (.cells (storeC g d) e) ∧ DriveAt H' d ∧ H.next ≤ d) := by
  refine enter s0_ok (f := 6) (fn := Tryz.f6) (by kernel_rfl) (by kernel_rfl) rfl (by kernel_rfl) ?_
  refine al' rfl fun b H1 hx hbn hn hb => ?_
  refine ldA hb (Nat.le_refl 6) rfl (cl (rright_fn g _) ?_)
  rintro _ H2 ⟨⟨t, rfl, hs⟩, hx2⟩
  cases t
  · exact ⟨hx.trans hx2, .inl rfl⟩
  have hs := hs rfl
  obtain ⟨q1, q2, q3⟩ := hs.all
  have hb2 := hx2.get (by omega) hb
  have n2 := hx2.1
  refine ld hb2 rfl (ld hb2 rfl ?_)
  refine cmp (fun h => ⟨hx.trans hx2, .inl rfl⟩) (fun h => ?_)
  have hst : Stab H2.next [(b, .cells g.cs 23)] H2 := .cons (by omega) hb2 .nil
  refine drw s0_ok hst rfl ?_
  refine dldA (.head _) (Nat.le_refl 6) rfl rfl (bel rfl (cl (all_fn g _) ?_))
  rintro _ H3 ⟨rfl, hx3⟩
  refine keep hst hx3 (dld (.head _) rfl rfl (dld (.head _) rfl rfl ?_))
  rw [q3]
  obtain ⟨s1, s2, s3, s4, s5, s6, s7, s8, s9, s10, s11, s12⟩ := hs
  refine bel rfl (cl (pnew_fn ⟨by omega, by omega⟩ ⟨by omega, by omega⟩ ⟨by omega, by omega⟩ _) ?_)
  rintro _ H4 ⟨hx4, d, dv, m, a, l, c, e, e', rfl, g1, g2, g3, g4, g5, g6⟩
  refine keep (hst.ext hx3) hx4 (cf (fun h => h rfl) ?_)
  have hb4 := (hx3.trans hx4).get (by omega) hb2
  refine ldA hb4 (Nat.le_refl 6) rfl (cl (snew_fn g H4 ⟨dv, m, a, l, c, _, _, e, e', g2, g4, g5, g6⟩) ?_)
  have hx04 := hx.trans (hx2.trans (hx3.trans hx4))
  rintro _ H5 ⟨hx5, rfl | ⟨s, es, rfl, g7, g8⟩⟩
  · exact ct (by decide) ⟨hx04.trans hx5, .inl rfl⟩
  · refine cf (fun h => h rfl) ?_
    exact ⟨hx04.trans hx5, .inr ⟨s, d, es, rfl, g7, g8, DriveAt.ext ⟨dv, m, a, l, c, _, _, e, e', g2, g4, g5, g6⟩ hx5, by have := hx.1; have := hx3.1; omega⟩⟩
end Go.Se

namespace Go.Se
open Go Go.Proofs Go.Ev Go.Fv Go.Wp Go.Pr Go.Vc
set_option maxRecDepth 10000
set_option maxHeartbeats 400000

theorem ext_of_but {x : Nat} {H H' : AH} {o : AObj} (h : But x H H') (hx : H.get x = some o) (hx' : H'.get x = some o) : Ext H H' :=
  ⟨h.1, fun b hb => if e : b = x then by subst e; rw [hx, hx'] else h.2 b hb e⟩

section
variable {g : Geo} {d s : Nat} {e : TypeId} {H : AH} (hs : H.get s = some (.cells (storeC g d) e))
include hs
theorem fall_fn : C P0 T0 XS 32 [ptr s 0] H fun v H' => v = .tuple #[] ∧ Ext H H' := by
  refine enter s0_ok (f := 32) (fn := Tryz.f32) (by kernel_rfl) (by kernel_rfl) rfl (by kernel_rfl) ?_
  exact st' hs rfl (lb rfl) rfl fun H1 hx _ h1 => ⟨rfl, ext_of_but hx hs h1⟩
theorem ckpt_fn : C P0 T0 XS 29 [ptr s 0] H fun v H' => v = .int .i64 43 ∧ H = H' := by
  refine enter s0_ok (f := 29) (fn := Tryz.f29) (by kernel_rfl) (by kernel_rfl) rfl (by kernel_rfl) ?_
  exact ld hs rfl ⟨rfl, rfl⟩
theorem unmount_fn : C P0 T0 XS 18 [ptr s 0] H fun v H' => v = .int .i64 43 ∧ H = H' := by
  refine enter s0_ok (f := 18) (fn := Tryz.f18) (by kernel_rfl) (by kernel_rfl) rfl (by kernel_rfl) ?_
  refine cl (ckpt_fn hs) ?_
  rintro _ _ ⟨rfl, rfl⟩
  exact cf (by decide) ⟨rfl, rfl⟩
theorem read_fn (x y : Int) : C P0 T0 XS 20 [ptr s 0, .int .i64 x, .int .i64 y] H fun v H' => v = .tuple #[.slice none 0 0, .int .i64 43] ∧ H = H' := by
  refine enter s0_ok (f := 20) (fn := Tryz.f20) (by kernel_rfl) (by kernel_rfl) rfl (by kernel_rfl) ?_
  exact ld hs rfl ⟨rfl, rfl⟩
theorem write_fn (x : Int) (a : Option Addr) (n c : Nat) : C P0 T0 XS 16 [ptr s 0, .int .i64 x, .slice a n c] H fun v H' => v = .int .i64 43 ∧ H = H' := by
  refine enter s0_ok (f := 16) (fn := Tryz.f16) (by kernel_rfl) (by kernel_rfl) rfl (by kernel_rfl) ?_
  exact su (by decide) (ld hs rfl ⟨rfl, rfl⟩)
theorem trim_fn (x y : Int) : C P0 T0 XS 27 [ptr s 0, .int .i64 x, .int .i64 y] H fun v H' => v = .int .i64 43 ∧ H = H' := by
  refine enter s0_ok (f := 27) (fn := Tryz.f27) (by kernel_rfl) (by kernel_rfl) rfl (by kernel_rfl) ?_
  exact ld hs rfl ⟨rfl, rfl⟩
theorem flush_fn : C P0 T0 XS 28 [ptr s 0] H fun v H' => v = .int .i64 43 ∧ H = H' := by
  refine enter s0_ok (f := 28) (fn := Tryz.f28) (by kernel_rfl) (by kernel_rfl) rfl (by kernel_rfl) ?_
  exact ld hs rfl ⟨rfl, rfl⟩
theorem scrub_fn : C P0 T0 XS 30 [ptr s 0] H fun v H' => v = .tuple #[.bool false, .int .i64 43] ∧ H = H' := by
  refine enter s0_ok (f := 30) (fn := Tryz.f30) (by kernel_rfl) (by kernel_rfl) rfl (by kernel_rfl) ?_
  exact ld hs rfl ⟨rfl, rfl⟩
theorem clean_fn : C P0 T0 XS 31 [ptr s 0] H fun v H' => v = .tuple #[.bool false, .int .i64 43] ∧ H = H' := by
  refine enter s0_ok (f := 31) (fn := Tryz.f31) (by kernel_rfl) (by kernel_rfl) rfl (by kernel_rfl) ?_
  exact ld hs rfl ⟨rfl, rfl⟩

/-- The status of nothing. -/
def statusC : List Value := [.bool false, .int .i64 0, .int .i64 0, .int .i64 0, .int .i64 0, .int .i64 0, .int .i64 0, .int .i64 0, .int .i64 0, .int .i64 0, .bool false]
theorem status_fn (hn : s < H.next) : C P0 T0 XS 10 [ptr s 0] H fun v H' => v = .agg ⟨statusC⟩ ∧ Ext H H' := by
  refine enter s0_ok (f := 10) (fn := Tryz.f10) (by kernel_rfl) (by kernel_rfl) rfl (by kernel_rfl) ?_
  refine al' rfl fun b H1 hx hb hb1 hb2 => ?_
  refine ld (hx.get hn hs) rfl ?_
  refine st' hb2 rfl (lb rfl) rfl fun H2 hx2 _ h2 => ?_
  exact ldA h2 (Nat.le_refl 11) rfl ⟨rfl, hx2.ext hx (by omega)⟩
end

/-- An operation. -/
def opC (k x y z : Int) : List Value := [.int .i64 k, .int .i64 x, .int .i64 y, .int .i64 z]
theorem bytes_fn (k x y z : Int) (H : AH) : C P0 T0 XS 26 [.agg ⟨opC k x y z⟩] H fun v H' => Ext H H' ∧ ∃ r n c, v = .slice (some ⟨r, 0, none⟩) n c ∧ r < H'.next := by
  refine enter s0_ok (f := 26) (fn := Tryz.f26) (by kernel_rfl) (by kernel_rfl) rfl (by kernel_rfl) ?_
  refine al' rfl fun b H1 hx hb hb1 hb2 => ?_
  refine ld hb2 rfl ?_
  have hm : 0 ≤ max (min z 1000) 0 ∧ max (min z 1000) 0 ≤ 1000 := by omega
  refine mks (n := max (min z 1000) 0) hm.1 (by omega) (by show 1 * _ ≤ ((2 ^ 46 : Nat) : Int); omega) fun r H2 hx2 hr hr1 hr2 => ?_
  generalize max (min z 1000) 0 = n at hm hr2 ⊢
  have hb3 := hx2.get (by omega) hb2
  have hlen : (repeatL n.toNat [Value.int .u8 0]).length = n.toNat := by
    have : ∀ m, (repeatL m [Value.int .u8 0]).length = m := by
      intro m
      induction m with
      | zero => rfl
      | succ m ih => simp [repeatL, ih]
    exact this _
  refine lp s0_ok (ι := Nat) 28 (fun i => n.toNat - i) (fun i => [(1, ptr b 0), (4, .slice (some ⟨r, 0, none⟩) n.toNat (2 * n.toNat + 1)), (13, .int .i64 n.toNat), (14, .int .i64 i)])
    (fun i H3 => i ≤ n.toNat ∧ Ext H H3 ∧ H2.next ≤ H3.next ∧ H3.get b = some (.cells (opC k x y z) 31) ∧ ∃ cs e, H3.get r = some (.cells cs e) ∧ cs.length = n.toNat) 0 rfl rfl ⟨rfl, rfl, rfl, rfl, trivial⟩
    ⟨Nat.zero_le _, hx.trans hx2, Nat.le_refl _, hb3, _, _, hr2, hlen⟩ ?_
  rintro i l0 H3 ⟨hi, hx3, hn3, hb4, cs, e, hr3, hcs⟩
  have n1 := hx.1
  refine cmp (fun h => ?_) (fun h => ⟨hx3, _, _, _, rfl, by omega⟩)
  have h : i < n.toNat := by omega
  refine ld hb4 rfl (su (by decide) (ix rfl h ?_))
  refine st' hr3 rfl (by rw [hcs]; show 0 + i * 1 + 1 ≤ _; omega) rfl fun H4 hx4 hn4 hr4 => ?_
  refine ⟨i + 1, by omega, rfl, ⟨rfl, rfl, rfl, congrArg _ (wr (by omega) (by omega)), trivial⟩, by omega, hx4.ext hx3 (by omega), by omega, hx4.get (by omega) (by omega) hb4, _, e, hr4, ?_⟩
  rw [length_setMany, hcs]
end Go.Se

namespace Go.Se
open Go Go.Proofs Go.Ev Go.Fv Go.Wp Go.Pr Go.Vc
set_option maxRecDepth 10000
set_option maxHeartbeats 1000000

theorem do_fn {g : Geo} {d s : Nat} {e : TypeId} {H : AH} (hn : s < H.next) (hs : H.get s = some (.cells (storeC g d) e)) (k x y z : Int) (hk : 2 < k) : C P0 T0 XS 9 [.agg ⟨opC k x y z⟩, ptr s 0] H fun v H' => Ext H H' ∧ ∃ er, v = .tuple #[.slice none 0 0, .int .i64 er] := by
  refine enter s0_ok (f := 9) (fn := Tryz.f9) (by kernel_rfl) (by kernel_rfl) rfl (by kernel_rfl) ?_
  refine al' rfl fun b H1 hx hb hb1 hb2 => ?_
  have hs1 := hx.get hn hs
  refine ld hb2 rfl (cf (by omega) (cf (by omega) (cmp (fun _ => ?_) fun _ => cmp (fun _ => ?_) fun _ => cmp (fun _ => ?_) fun _ => cmp (fun _ => ?_) fun _ => cmp (fun _ => ?_) fun _ => cmp (fun _ => ?_) fun _ => cmp (fun _ => ?_) fun _ => cmp (fun _ => ?_) fun _ => cmp (fun _ => ?_) fun _ => ?_)))
  · refine cl (unmount_fn hs1) ?_
    rintro _ _ ⟨rfl, rfl⟩
    exact ⟨hx, _, rfl⟩
  · refine ld hb2 rfl (ld hb2 rfl (cl (read_fn hs1 _ _) ?_))
    rintro _ _ ⟨rfl, rfl⟩
    exact ⟨hx, _, rfl⟩
  · have hst : Stab H1.next [(b, .cells (opC k x y z) 31)] H1 := .cons (by omega) hb2 .nil
    refine drw s0_ok hst rfl ?_
    refine dld (.head _) rfl rfl (dldA (.head _) (Nat.le_refl 4) rfl rfl ?_)
    refine bel rfl (cl (bytes_fn k x y z _) ?_)
    rintro _ H2 ⟨hx2, r, n, c, rfl, hr⟩
    have n2 := hx2.1
    have n1 := hx.1
    refine keep hst hx2 (bel (bel_cons rfl (bel_cons (below_ptr (by omega)) (bel_cons rfl (bel_cons (below_slice hr) rfl)))) (cl (write_fn (hx2.get (by omega) hs1) _ _ _ _) ?_))
    rintro _ _ ⟨rfl, rfl⟩
    refine keep (hst.ext hx2) (.refl _) ?_
    exact ⟨hx.trans hx2, _, rfl⟩
  · refine ld hb2 rfl (ld hb2 rfl (cl (trim_fn hs1 _ _) ?_))
    rintro _ _ ⟨rfl, rfl⟩
    exact ⟨hx, _, rfl⟩
  · refine cl (flush_fn hs1) ?_
    rintro _ _ ⟨rfl, rfl⟩
    exact ⟨hx, _, rfl⟩
  · refine cl (ckpt_fn hs1) ?_
    rintro _ _ ⟨rfl, rfl⟩
    exact ⟨hx, _, rfl⟩
  · refine cl (scrub_fn hs1) ?_
    rintro _ _ ⟨rfl, rfl⟩
    exact ⟨hx, _, rfl⟩
  · refine cl (clean_fn hs1) ?_
    rintro _ _ ⟨rfl, rfl⟩
    exact ⟨hx, _, rfl⟩
  · refine cl (fall_fn hs1) ?_
    rintro _ _ ⟨rfl, hx2⟩
    exact ⟨hx.trans hx2, _, rfl⟩
  · exact ⟨hx, _, rfl⟩

/-- A crash. -/
noncomputable def crashC : List Value := .int .i64 0 :: .int .i64 4 :: .int .i64 0 :: .int .i64 0 :: runL 64 (.int .u8 0) []
theorem evright_fn (H : AH) : C P0 T0 XS 43 [.agg ⟨crashC⟩] H fun v H' => v = .bool true ∧ Ext H H' := by
  refine enter s0_ok (f := 43) (fn := Tryz.f43) (by kernel_rfl) (by kernel_rfl) rfl (by kernel_rfl) ?_
  refine al' rfl fun b H1 hx hb hb1 hb2 => ?_
  refine ld hb2 rfl (ct (by decide) (ld hb2 rfl (ct (by decide) (ld hb2 rfl (ct (by decide) ?_)))))
  exact ⟨rfl, hx⟩
theorem insert_fn {b : Nat} {H : AH} {e : TypeId} {c : Nat} (hb : H.get b = some (.cells crashC e)) : C P0 T0 XS 44 [.slice none 0 0, .int .i64 0, .slice (some ⟨b, 0, none⟩) 1 c] H fun v H' => Ext H H' ∧ ∃ q n c, v = .slice (some ⟨q, 0, none⟩) n c ∧ q < H'.next := by
  refine enter s0_ok (f := 44) (fn := Tryz.f44) (by kernel_rfl) (by kernel_rfl) rfl (by kernel_rfl) ?_
  refine ev (ev_slice (v := .slice none 0 0) (by kernel_rfl)) ?_
  refine cf (by decide) (ct (by decide) ?_)
  refine app0 hb (lb rfl) rfl rfl (by decide) (by decide) fun q H1 hx hq hq1 hq2 => ?_
  exact ⟨hx, _, _, _, rfl, by omega⟩
theorem plan_fn {d dv m : Nat} {H : AH} {e : TypeId} (hn : d < H.next) (hd : H.get d = some (.cells (driveC dv m) e)) : C P0 T0 XS 11 [ptr d 0, .agg ⟨crashC⟩] H fun v H' => v = .int .i64 0 ∧ ∀ H0, Ext H0 H → H0.next ≤ d → Ext H0 H' := by
  refine enter s0_ok (f := 11) (fn := Tryz.f11) (by kernel_rfl) (by kernel_rfl) rfl (by kernel_rfl) ?_
  refine al' rfl fun b H1 hx hb hb1 hb2 => ?_
  refine ldA hb2 (Nat.le_refl 68) rfl (cl (evright_fn _) ?_)
  rintro _ H2 ⟨rfl, hx2⟩
  have hd2 := hx2.get (by have := hx.1; omega) (hx.get hn hd)
  have n1 := hx.1
  have n2 := hx2.1
  refine ld hd2 rfl (cf (by decide) (ld hd2 rfl ?_))
  refine lp s0_ok (ι := Unit) 51 (fun _ => 0) (fun _ => [(0, ptr d 0), (3, ptr b 0), (5, .int .i64 0)]) (fun _ H3 => H2 = H3) () rfl rfl ⟨rfl, rfl, rfl, trivial⟩ rfl ?_
  rintro _ l0 _ rfl
  refine drw s0_ok (Stab.nil (H := H2)) rfl (cf (by decide) ?_)
  have hb3 := hx2.get (by omega) hb2
  have hst : Stab H2.next [(d, .cells (driveC dv m) e), (b, .cells crashC 46)] H2 := .cons (by omega) hd2 (.cons (by omega) hb3 .nil)
  refine drwG s0_ok 11 (by kernel_rfl) hst rfl ?_
  refine dld (.head _) rfl rfl (dldA (.tail _ (.head _)) (Nat.le_refl 68) rfl (by kernel_rfl) ?_)
  refine bel rfl (nw fun r H3 hx3 hr hr1 hr2 => ?_)
  refine keep hst hx3 (bel (bel_cons rfl (bel_cons rfl (bel_cons rfl (bel_cons (below_slice (by omega)) rfl)))) ?_)
  refine cl (insert_fn (b := r) (e := 46) hr2) ?_
  rintro _ H4 ⟨hx4, q, n, c, rfl, hq⟩
  refine keep (hst.ext hx3) hx4 ?_
  have n3 := hx3.1
  have n4 := hx4.1
  refine bel (bel_cons (below_ptr (by omega)) (bel_cons (below_slice hq) rfl)) ?_
  refine st' (hx4.get (by omega) (hx3.get (by omega) hd2)) rfl (lb rfl) rfl fun H5 hx5 hn5 _ => ?_
  exact nx (by omega) ⟨rfl, fun H0 h0 hd => hx5.ext (h0.trans (hx.trans (hx2.trans (hx3.trans hx4)))) hd⟩
end Go.Se

namespace Go.Se
open Go Go.Proofs Go.Ev Go.Fv Go.Wp Go.Pr Go.Vc
set_option maxRecDepth 10000
set_option maxHeartbeats 1000000

/-- The operations lie in a row. -/
def OpsAt (H : AH) (a : Option Addr) (n : Nat) (F : Nat → Int × Int × Int × Int) : Prop :=
  ∀ i, i < n → ∃ b o cs e, a = some ⟨b, o, none⟩ ∧ b < H.next ∧ H.get b = some (.cells cs e) ∧ o + i * 4 + 4 ≤ cs.length ∧ (cs.drop (o + i * 4)).take 4 = opC (F i).1 (F i).2.1 (F i).2.2.1 (F i).2.2.2
theorem eqI3 (d : Nat) (a b : Int) : pureE P0 (Op.equalIn (d + 1) 3 (.int .i64 a) (.int .i64 b)) = some (a == b) := by kernel_rfl
theorem eqB4 (d : Nat) (a b : Bool) : pureE P0 (Op.equalIn (d + 1) 4 (.bool a) (.bool b)) = some (a == b) := by kernel_rfl
theorem guard40 (x y : Operand) : pureE P0 (eqGuard .neq 40 x y (.agg ⟨statusC⟩) (.agg ⟨statusC⟩)) = some () := by kernel_rfl
theorem stood40 : P0.stoodInHeld 40 = false := by kernel_rfl
noncomputable def fs40 : Array Field := match P0.underlying 40 with | some (.struct fs) => fs | _ => #[]
theorem fs40_eq : fs40.toList.map (fun f => (decide (f.name = "_"), f.type, f.offset)) = [(false, 4, 0), (false, 3, 1), (false, 3, 2), (false, 3, 3), (false, 3, 4), (false, 3, 5), (false, 3, 6), (false, 3, 7), (false, 3, 8), (false, 3, 9), (false, 4, 10)] := by kernel_rfl
theorem part40 : pureE P0 (part 4 ⟨statusC⟩ 0) = some (.bool false) ∧ pureE P0 (part 4 ⟨statusC⟩ 10) = some (.bool false) ∧ pureE P0 (part 3 ⟨statusC⟩ 1) = some (.int .i64 0) ∧ pureE P0 (part 3 ⟨statusC⟩ 2) = some (.int .i64 0) ∧ pureE P0 (part 3 ⟨statusC⟩ 3) = some (.int .i64 0) ∧
    pureE P0 (part 3 ⟨statusC⟩ 4) = some (.int .i64 0) ∧ pureE P0 (part 3 ⟨statusC⟩ 5) = some (.int .i64 0) ∧ pureE P0 (part 3 ⟨statusC⟩ 6) = some (.int .i64 0) ∧ pureE P0 (part 3 ⟨statusC⟩ 7) = some (.int .i64 0) ∧ pureE P0 (part 3 ⟨statusC⟩ 8) = some (.int .i64 0) ∧ pureE P0 (part 3 ⟨statusC⟩ 9) = some (.int .i64 0) :=
  ⟨by kernel_rfl, by kernel_rfl, by kernel_rfl, by kernel_rfl, by kernel_rfl, by kernel_rfl, by kernel_rfl, by kernel_rfl, by kernel_rfl, by kernel_rfl, by kernel_rfl⟩
theorem pureU40 : pureE P0 (underlying 40) = some (.struct fs40) := by kernel_rfl
theorem equal40 (d : Nat) : pureE P0 (Op.equalIn (d + 2) 40 (.agg ⟨statusC⟩) (.agg ⟨statusC⟩)) = some true := by
  refine equal_fields (d + 1) (fun g hg => ?_) pureU40 stood40
  have hm := List.mem_map_of_mem (f := fun f : Field => (decide (f.name = "_"), f.type, f.offset)) hg
  rw [fs40_eq] at hm
  obtain ⟨p0, p10, p1, p2, p3, p4, p5, p6, p7, p8, p9⟩ := part40
  simp only [List.mem_cons, Prod.mk.injEq, decide_eq_false_iff_not, List.not_mem_nil, or_false] at hm
  rcases hm with ⟨h1, h2, h3⟩ | ⟨h1, h2, h3⟩ | ⟨h1, h2, h3⟩ | ⟨h1, h2, h3⟩ | ⟨h1, h2, h3⟩ | ⟨h1, h2, h3⟩ | ⟨h1, h2, h3⟩ | ⟨h1, h2, h3⟩ | ⟨h1, h2, h3⟩ | ⟨h1, h2, h3⟩ | ⟨h1, h2, h3⟩ <;> rw [h2, h3]
  · exact ⟨h1, _, _, p0, p0, by rw [eqB4]; rfl⟩
  · exact ⟨h1, _, _, p1, p1, by rw [eqI3]; rfl⟩
  · exact ⟨h1, _, _, p2, p2, by rw [eqI3]; rfl⟩
  · exact ⟨h1, _, _, p3, p3, by rw [eqI3]; rfl⟩
  · exact ⟨h1, _, _, p4, p4, by rw [eqI3]; rfl⟩
  · exact ⟨h1, _, _, p5, p5, by rw [eqI3]; rfl⟩
  · exact ⟨h1, _, _, p6, p6, by rw [eqI3]; rfl⟩
  · exact ⟨h1, _, _, p7, p7, by rw [eqI3]; rfl⟩
  · exact ⟨h1, _, _, p8, p8, by rw [eqI3]; rfl⟩
  · exact ⟨h1, _, _, p9, p9, by rw [eqI3]; rfl⟩
  · exact ⟨h1, _, _, p10, p10, by rw [eqB4]; rfl⟩
theorem status_eq (x y : Operand) : binV P0 T0 .neq 40 x y (.agg ⟨statusC⟩) (.agg ⟨statusC⟩) = some (.bool false) := by
  have hfl : flatV (.agg ⟨statusC⟩) = true := rfl
  have hb : pureE P0 (binOp .neq 40 (.agg ⟨statusC⟩) (.agg ⟨statusC⟩)) = some (.bool false) := by
    have e : binOp .neq 40 (.agg ⟨statusC⟩) (.agg ⟨statusC⟩) = (Op.equal 40 (.agg ⟨statusC⟩) (.agg ⟨statusC⟩) >>= fun r => pure (.bool (!r))) := rfl
    have e2 : pureE P0 (Op.equal 40 (.agg ⟨statusC⟩) (.agg ⟨statusC⟩)) = some true := equal40 9998
    rw [e, pureE_bind, e2]; rfl
  unfold binV
  rw [hfl]
  simp only [Bool.and_self, if_true]
  rw [pureE_bind, guard40]
  dsimp only [Option.bind_some]
  rw [hb]
  rfl

theorem empty_fn (g : Geo) {a : Option Addr} {n c : Nat} {F : Nat → Int × Int × Int × Int} {H : AH} (hr : OpsAt H a n F) : C P0 T0 XS 3 [g.v, .slice a n c] H fun v H' => v = .bool true ∧ Ext H H' := by
  refine enter s0_ok (f := 3) (fn := Tryz.f3) (by kernel_rfl) (by kernel_rfl) rfl (by kernel_rfl) ?_
  refine al' rfl fun b H1 hx hb hb1 hb2 => ?_
  refine cl (C.prim (p := yesPrim) (by kernel_rfl) rfl (Q := fun v H' => v = .bool true ∧ H1 = H') ⟨rfl, rfl⟩) ?_
  rintro _ _ ⟨rfl, rfl⟩
  refine ldA hb2 (Nat.le_refl 6) rfl (cl (started_fn g H1) ?_)
  rintro _ H2 ⟨hx2, rfl | ⟨s, d, e, rfl, hs1, hs2, hd, hd2⟩⟩
  · exact ⟨rfl, hx.trans hx2⟩
  refine cmp (fun _ => ⟨rfl, hx.trans hx2⟩) fun hn => ?_
  have hn : n ≤ 80 := by omega
  have hx12 := hx.trans hx2
  refine lp s0_ok (ι := Nat) 65 (fun i => n - i) (fun i => [(5, ptr s 0), (6, ptr d 0), (26, .slice a n c), (27, .int .i64 n), (28, .int .i64 i)])
    (fun i H3 => i ≤ n ∧ Ext H2 H3) 0 rfl rfl ⟨rfl, rfl, rfl, rfl, rfl, trivial⟩ ⟨Nat.zero_le _, .refl _⟩ ?_
  rintro i l0 H3 ⟨hi, hx3⟩
  have hs3 := hx3.get hs1 hs2
  have hx03 := hx12.trans hx3
  obtain ⟨dv, m, da, dl, dc, ds, dO, e1, e2, d1, d2, d3, d4⟩ := hd.ext hx3
  have n2 := hx2.1
  have n3 := hx3.1
  refine cmp (fun h => ?_) (fun h => ?_)
  · have h : i < n := by omega
    obtain ⟨b0, o0, cs, ec, rfl, g1, g2, g3, g4⟩ := hr i h
    have hend : ∀ {H4 : AH} {j : Int}, j = ((i + 1 : Nat) : Int) → True := fun _ => trivial
    refine ix rfl h (ldA (hx03.get g1 g2) g3 g4 ?_)
    refine al' rfl fun t H4 hx4 ht ht1 ht2 => ?_
    refine st' ht2 rfl (lb rfl) rfl fun H5 hx5 hn5 ht5 => ?_
    have ht5 : H5.get t = some (.cells (opC (F i).1 (F i).2.1 (F i).2.2.1 (F i).2.2.2) 31) := ht5
    have hx35 := hx5.ext hx4 (by omega)
    refine ld ht5 rfl (cmp (fun _ => ?_) fun hk => ?_)
    · refine ⟨i + 1, by omega, rfl, ⟨rfl, rfl, rfl, rfl, congrArg _ (wr (by omega) (by omega)), trivial⟩, by omega, hx3.trans hx35⟩
    · refine cl (dev_fn (hx35.get d1 d3)) ?_
      rintro _ _ ⟨rfl, rfl⟩
      refine cl (cnt_fn (hx35.get d2 d4)) ?_
      rintro _ _ ⟨rfl, rfl⟩
      refine ldA ht5 (Nat.le_refl 4) rfl (cl (do_fn (by have := hx35.1; omega) (hx35.get (by omega) hs3) _ _ _ _ (by omega)) ?_)
      rintro _ H6 ⟨hx6, er, rfl⟩
      have hx36 := hx35.trans hx6
      refine cl (dev_fn (hx36.get d1 d3)) ?_
      rintro _ _ ⟨rfl, rfl⟩
      refine cl (cnt_fn (hx36.get d2 d4)) ?_
      rintro _ _ ⟨rfl, rfl⟩
      refine cf (fun h => h rfl) (cf (fun h => h rfl) ?_)
      refine cl (status_fn (hx36.get (by omega) hs3) (by have := hx36.1; omega)) ?_
      rintro _ H7 ⟨rfl, hx7⟩
      refine ev (ev_bin (status_eq _ _)) ?_
      refine ⟨i + 1, by omega, rfl, ⟨rfl, rfl, rfl, rfl, congrArg _ (wr (by omega) (by omega)), trivial⟩, by omega, hx3.trans (hx36.trans hx7)⟩
  · refine cl (plan_fn d1 d3) ?_
    rintro _ H4 ⟨rfl, hx4⟩
    refine ct rfl ?_
    exact ⟨rfl, hx4 H hx03 (by have := hx.1; omega)⟩
end Go.Se
