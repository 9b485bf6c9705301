/- Of and Worst. -/
import Derived.Test.YtaoaddokgofifaaGreatAkA
namespace Go.Ak
open Go Go.Proofs Go.Ev Go.Fv Go.Wp Go.Pr

theorem f13_fn : T0.fn 13 = some Tryz.f13 := by kernel_rfl
theorem f14_fn : T0.fn 14 = some Tryz.f14 := by kernel_rfl
theorem t55 : T0.und 55 = some (.array 5 3) := by kernel_rfl
theorem z3 : zeroT T0 3 = some [.int .i64 0] := by kernel_rfl
theorem kinds_row : buildV T0 55 [(0, .int .i64 2), (1, .int .i64 3), (2, .int .i64 1), (3, .int .i64 5), (4, .int .i64 4)] = some (.agg #[.int .i64 2, .int .i64 3, .int .i64 1, .int .i64 5, .int .i64 4]) := by kernel_rfl

/-- The findings of a slice. -/
def RowsAt (H : AH) (a : Option Addr) (n : Nat) (F : Nat → Int × Int × Int) : Prop :=
  ∀ i, i < n → ∃ b0 o0 cs e, a = some ⟨b0, o0, none⟩ ∧ b0 < H.next ∧ H.get b0 = some (.cells cs e) ∧ o0 + i * 3 + 3 ≤ cs.length ∧ (cs.drop (o0 + i * 3)).take 3 = cl3 (F i)
theorem RowsAt.ext {H H' : AH} {a : Option Addr} {n : Nat} {F : Nat → Int × Int × Int} (h : RowsAt H a n F) (k : Ext H H') : RowsAt H' a n F := fun i hi => by
  obtain ⟨b0, o0, cs, e, h1, h2, h3, h4, h5⟩ := h i hi
  exact ⟨b0, o0, cs, e, h1, Nat.lt_of_lt_of_le h2 k.1, k.get h2 h3, h4, h5⟩

/-- The kinds, from the worst on. -/
def kAt : Nat → Int
  | 0 => 2
  | 1 => 3
  | 2 => 1
  | 3 => 5
  | _ => 4
def Has (F : Nat → Int × Int × Int) (n : Nat) (k : Int) : Prop := ∃ j, j < n ∧ (F j).1 = k
def IsWorst (F : Nat → Int × Int × Int) (n : Nat) (w : Int) : Prop :=
  (∃ i, i < 5 ∧ w = kAt i ∧ Has F n (kAt i) ∧ ∀ i', i' < i → ¬ Has F n (kAt i')) ∨ (w = 0 ∧ ∀ i', i' < 5 → ¬ Has F n (kAt i'))

section
variable {X : Prims}

theorem of_fn (hX : X 13 = none) {a : Option Addr} {n c : Nat} {kind : Int} {H : AH} :
    C P0 T0 X 13 [.slice a n c, .int .i64 kind] H fun v H' => v = .func (.func 49) #[] #[ptr H.next 0, ptr (H.next + 1) 0] ∧ H' = (H.alloc (.cells [.slice a n c] 48)).alloc (.cells [.int .i64 kind] 3) := by
  refine C.fn hX f13_fn rfl ?_
  generalize hl0 : ([Value.slice a n c, .int .i64 kind] ++ List.replicate (Tryz.f13.ntmps - [Value.slice a n c, .int .i64 kind].length) undef) = l
  have hl : l.length = 6 := by subst hl0; rfl
  have l0 : sl l 0 = .slice a n c := by subst hl0; rfl
  have l1 : sl l 1 = .int .i64 kind := by subst hl0; rfl
  clear hl0
  refine W.seq (W.region ?_)
  refine Os.op rfl rfl rfl (ev_box (vs := [.slice a n c]) (by rw [show envL l (Operand.tmp 0) = _ from l0]; rfl) rfl) ?_
  refine Os.op rfl rfl rfl (ev_box (vs := [.int .i64 kind]) (by rw [show envL _ (Operand.tmp 1) = _ from (by simp +decide only [put_some, env_tmp, sl_ne, l1] <;> rfl)]; rfl) rfl) ?_
  refine Os.op rfl rfl rfl (ev_assign _) ?_
  refine Os.nil (on_n ?_)
  refine W.seq (W.region ?_)
  refine Os.op rfl rfl rfl (ev_func2 (by simp +decide only [put_some, env_tmp, env_const, sl_same, sl_ne, hl] <;> rfl) (by simp +decide only [put_some, env_tmp, env_const, sl_same, sl_ne, List.length_set, hl] <;> rfl)) ?_
  refine Os.op rfl rfl rfl (ev_assign _) ?_
  refine Os.nil (on_n (W.ret ⟨fun i => by simp, [.func (.func 49) #[] #[ptr H.next 0, ptr (H.next + 1) 0]], ?_, rfl, rfl⟩))
  have : ∀ l' : List Value, sl l' 4 = .func (.func 49) #[] #[ptr H.next 0, ptr (H.next + 1) 0] → resultsL T0 ((H.alloc (.cells [.slice a n c] 48)).alloc (.cells [.int .i64 kind] 3)) l' [.tmp 4] = some [.func (.func 49) #[] #[ptr H.next 0, ptr (H.next + 1) 0]] := fun l' h => by
    have h : l'.getD 4 undef = _ := h
    simp only [resultsL, resultV, h]; rfl
  exact this _ (by simp +decide only [put_some, env_tmp, env_const, sl_same, List.length_set, hl] <;> rfl)

theorem worst_fn (hX : X 14 = none) (hX13 : X 13 = none) (hX49 : X 49 = none) {a : Option Addr} {n c : Nat} {F : Nat → Int × Int × Int} {B : AH} (hn : n < 4611686018427387904) (hr : RowsAt B a n F) :
    C P0 T0 X 14 [.slice a n c] B fun v H' => Ext B H' ∧ ∃ w, v = .int .i64 w ∧ IsWorst F n w := by
  refine C.fn hX f14_fn rfl ?_
  generalize hl0 : ([Value.slice a n c] ++ List.replicate (Tryz.f14.ntmps - [Value.slice a n c].length) undef) = l
  have hl : l.length = 15 := by subst hl0; rfl
  have l0 : sl l 0 = .slice a n c := by subst hl0; rfl
  clear hl0
  refine W.seq (W.region ?_)
  refine Os.op rfl rfl rfl (ev_alloc z3) ?_
  refine Os.nil (on_n ?_)
  refine W.seq (W.seq (W.region ?_))
  refine Os.op rfl rfl rfl (ev_build rfl kinds_row) ?_
  refine Os.op rfl rfl rfl (ev_move _) ?_
  refine Os.nil (on_n ?_)
  refine W.block ?_
  refine W.loop_inv (fun d l H => ∃ i, d = 5 - i ∧ i ≤ 5 ∧ l.length = 15 ∧ sl l 0 = .slice a n c ∧ sl l 2 = ptr B.next 0 ∧ sl l 5 = .agg #[.int .i64 2, .int .i64 3, .int .i64 1, .int .i64 5, .int .i64 4] ∧ sl l 6 = nat1 i ∧
    Ext B H ∧ B.next < H.next ∧ H.get B.next = some (.cells [.int .i64 0] 3) ∧ ∀ i', i' < i → ¬ Has F n (kAt i')) ?_ 5 _ _
    ⟨0, by omega, by omega, (by simp +decide only [put_some, List.length_set, hl]), (by simp +decide only [put_some, env_const, sl_ne, l0] <;> rfl), (by simp +decide only [put_some, env_const, sl_same, sl_ne, hl] <;> rfl), (by simp +decide only [put_some, env_const, sl_same, sl_ne, List.length_set, hl] <;> rfl), (by simp +decide only [put_some, env_const, sl_same, List.length_set, hl, nat1] <;> rfl), Ext.alloc _ _, Nat.lt_succ_self _, AH.get_alloc_same _ _, fun i' h => absurd h (Nat.not_lt_zero _)⟩
  clear l0 hl l
  rintro d l H ⟨i, hd, hi, hl, l0, l2, l5, l6, hext, hnx, hres, hno⟩
  refine W.seq (W.region ?_)
  refine Os.op rfl rfl rfl (ev_bin (v := .bool (decide (i < 5))) (by rw [env_tmp, l6]; refine (bin_lss _ _ _ _ _ _ _ _).trans ?_; congr 2; rw [Bool.eq_iff_iff]; simp; omega)) ?_
  refine Os.nil (on_n ?_)
  refine W.seq (W.cond (by simp +decide only [put_some, env_tmp, sl_same, hl] <;> rfl) (fun ht => W.skip (on_n ?_)) (fun hf => W.exit (on_x (on_x (blk_x (on_n ?_))))))
  rotate_left
  · -- none of any kind
    have : i = 5 := by
      have := of_decide_eq_false hf
      omega
    subst this
    refine W.seq (W.region ?_)
    refine Os.op rfl rfl rfl (ev_store (vs := [.int .i64 0]) (by simp +decide only [put_some, env_tmp, sl_ne, l2] <;> rfl) hres s3 rfl rfl (Nat.le_refl 1) rfl) ?_
    exact Os.nil (on_n (W.ret ⟨fun i => by simp, [.int .i64 0], res_cell (by simp +decide only [put_some, put_none, sl_ne, l2] <;> rfl) (AH.get_set_same _ _ _) a3 rfl rfl, hext.set (Nat.le_refl _), 0, rfl, .inr ⟨rfl, hno⟩⟩))
  have hin : i < 5 := of_decide_eq_true ht
  clear ht
  refine W.seq (W.block (W.seq (W.region ?_)))
  have hk : (#[Value.int .i64 2, .int .i64 3, .int .i64 1, .int .i64 5, .int .i64 4] : Array Value).toList[i * 1]? = some (.int .i64 (kAt i)) := by
    match i, hin with
    | 0, _ => rfl
    | 1, _ => rfl
    | 2, _ => rfl
    | 3, _ => rfl
    | 4, _ => rfl
  refine Os.op rfl rfl rfl (ev_index t55 s3 a3 (by simp +decide only [put_some, env_tmp, sl_ne, l5] <;> rfl) (j := i) (by simp +decide only [put_some, env_tmp, sl_ne, l6, nat1] <;> rfl) hin hk) ?_
  refine Os.op rfl rfl rfl (ev_alloc z3) ?_
  refine Os.op rfl rfl rfl (ev_store (vs := [.int .i64 (kAt i)]) (by simp +decide only [put_some, env_tmp, sl_same, List.length_set, hl] <;> rfl) (AH.get_alloc_same H _) s3 (by rw [show envL _ (Operand.tmp 8) = _ from (by simp +decide only [put_some, env_tmp, sl_same, sl_ne, List.length_set, hl] <;> rfl)]; rfl) rfl (Nat.le_refl 1) rfl) ?_
  refine Os.nil (on_n ?_)
  rw [alloc_set]
  have e0 : setMany [Value.int IntKind.i64 0] 0 [.int .i64 (kAt i)] = [.int .i64 (kAt i)] := rfl
  rw [e0]
  refine W.seq (W.region ?_)
  refine Os.op rfl rfl rfl (ev_move _) ?_
  refine Os.op rfl rfl rfl (ev_load (by simp +decide only [put_some, put_none, env_tmp, sl_same, sl_ne, List.length_set, hl] <;> rfl) (AH.get_alloc_same H _) a3 rfl) ?_
  refine Os.call rfl rfl rfl (g := 13) (cap := #[]) rfl (args2 (u := .slice a n c) (v := .int .i64 (kAt i)) (by simp +decide only [put_some, put_none, env_tmp, sl_same, sl_ne, List.length_set, hl, l0] <;> rfl) (by simp +decide only [put_some, put_none, env_tmp, sl_same, sl_ne, List.length_set, hl] <;> rfl)) ?_
  refine (of_fn hX13).mono ?_
  rintro v H' ⟨rfl, rfl⟩
  refine Os.nil (on_n ?_)
  refine W.abs (fun l => l.length = 15 ∧ sl l 0 = .slice a n c ∧ sl l 2 = ptr B.next 0 ∧ sl l 4 = ptr H.next 0 ∧ sl l 5 = .agg #[.int .i64 2, .int .i64 3, .int .i64 1, .int .i64 5, .int .i64 4] ∧ sl l 6 = nat1 i ∧
    sl l 11 = .func (.func 49) #[] #[ptr (H.next + 1) 0, ptr (H.next + 2) 0]) ⟨(by simp +decide only [put_some, put_none, List.length_set, hl]), (by simp +decide only [put_some, put_none, env_tmp, sl_ne, l0] <;> rfl), (by simp +decide only [put_some, put_none, env_tmp, sl_ne, l2] <;> rfl), (by simp +decide only [put_some, put_none, env_tmp, sl_same, sl_ne, List.length_set, hl] <;> rfl), (by simp +decide only [put_some, put_none, env_tmp, sl_ne, l5] <;> rfl), (by simp +decide only [put_some, put_none, env_tmp, sl_ne, l6] <;> rfl), (by simp +decide only [put_some, put_none, env_tmp, sl_same, sl_ne, List.length_set, hl, next_alloc] <;> rfl)⟩ ?_
  clear l0 l2 l5 l6 hl l
  rintro l ⟨hl, l0, l2, l4, l5, l6, l11⟩
  refine W.absH (fun H2 => Ext H H2 ∧ H2.next = H.next + 3 ∧ H2.get H.next = some (.cells [.int .i64 (kAt i)] 3) ∧ H2.get (H.next + 1) = some (.cells [.slice a n c] 48) ∧ H2.get (H.next + 2) = some (.cells [.int .i64 (kAt i)] 3))
    ⟨((Ext.alloc _ _).trans (Ext.alloc _ _)).trans (Ext.alloc _ _), rfl, by simp [get_alloc], by simp [get_alloc], by simp [get_alloc]⟩ ?_
  rintro H2 ⟨hx2, hn2, hb4, hb1, hb2⟩
  refine W.block (W.range rfl l11 ?_)
  generalize hbody : (Code.block 3 _) = body
  have hxb : Ext H2 (H2.alloc (.loop .ready none l #[12] .skip body)) := Ext.alloc _ _
  have hkk : (H2.alloc (.loop .ready none l #[12] .skip body)).get H2.next = some (.loop .ready none l #[12] .skip body) := AH.get_alloc_same _ _
  have hnb : (H2.alloc (.loop .ready none l #[12] .skip body)).next = H2.next + 1 := rfl
  generalize H2.alloc (.loop .ready none l #[12] .skip body) = Hb at hxb hkk hnb
  have hxB : Ext B Hb := (hext.trans hx2).trans hxb
  refine (of_loop hX49 (bs := H.next + 1) (bk := H.next + 2) (kind := kAt i) (F := F) (J := fun j H' => Ext Hb H' ∧ ∀ j', j' < j → (F j').1 ≠ kAt i)
    (D := fun H' => Ext B H' ∧ B.next < H'.next ∧ H'.get B.next = some (.cells [.int .i64 (kAt i)] 3) ∧ Has F n (kAt i) ∧ ∃ t p a b, H'.get H2.next = some (.loop .done (some .ret) t p a b))
    hn (hxb.get (by omega) hb1) ⟨Ext.refl _, fun j' h => absurd h (Nat.not_lt_zero _)⟩ ?_ ?_ ?_ ?_).mono ?_
  · rintro j H' ⟨hx', hnn⟩ hj
    obtain ⟨b0, o0, cs, e, q1, q2, q3, q4, q5⟩ := (hr.ext (hxB.trans hx')) j hj
    exact ⟨⟨b0, o0, cs, e, q1, q3, q4, q5⟩, 3, hx'.get (by omega) (hxb.get (by omega) hb2)⟩
  · rintro j H' o ⟨hx', hnn⟩
    exact ⟨hx'.trans (Ext.alloc _ _), hnn⟩
  · rintro j H' ⟨hx', hnn⟩ hj hne
    refine ⟨hx', fun j' hj' => ?_⟩
    rcases Nat.lt_or_eq_of_le (Nat.le_of_lt_succ hj') with h | rfl
    · exact hnn j' h
    · exact hne
  · rintro j H' ⟨hx', hnn⟩ hj heq
    have hkk' : H'.get H2.next = some (.loop .ready none l #[12] .skip body) := hx'.get (by omega) hkk
    refine Y.body hkk' rfl (W.skip ⟨rfl, none, l, #[12], .skip, body, hkk', ?_⟩)
    rw [← hbody]
    rw [show setArgs l ((#[12] : Array Tmp).toList.zip [Value.agg (cl3 (F j)).toArray]) = l.set 12 (Value.agg (cl3 (F j)).toArray) from rfl]
    have hne : H2.next ≠ B.next := by have := hext.1; omega
    have hr1 : (H'.set H2.next (.loop .busy none l #[12] .skip body)).get B.next = some (.cells [.int .i64 0] 3) := by
      rw [get_set, if_neg (Ne.symm hne)]
      exact hx'.get (by omega) (hxb.get (by omega) (hx2.get hnx hres))
    have hr4 : (H'.set H2.next (.loop .busy none l #[12] .skip body)).get H.next = some (.cells [.int .i64 (kAt i)] 3) := by
      rw [get_set, if_neg (by omega)]
      exact hx'.get (by omega) (hxb.get (by omega) hb4)
    rw [hbody]
    rw [← hbody]
    refine W.block (W.seq (W.region ?_))
    rw [hbody]
    refine Os.op rfl rfl rfl (ev_load (by simp +decide only [env_tmp, sl_ne, l4] <;> rfl) hr4 a3 rfl) ?_
    refine Os.op rfl rfl rfl (ev_store (vs := [.int .i64 (kAt i)]) (by simp +decide only [put_some, env_tmp, sl_ne, l2] <;> rfl) hr1 s3 (by rw [show envL _ (Operand.tmp 13) = _ from (by simp +decide only [put_some, env_tmp, sl_same, List.length_set, hl] <;> rfl)]; rfl) rfl (Nat.le_refl 1) rfl) ?_
    have e1 : setMany [Value.int IntKind.i64 0] 0 [.int .i64 (kAt i)] = [.int .i64 (kAt i)] := rfl
    rw [e1]
    refine Os.nil (on_n (W.ret (blk_r ⟨.busy, none, l, #[12], .skip, body, by rw [get_set, if_neg hne, get_set, if_pos rfl], .inr ⟨rfl, ?_⟩⟩)))
    refine ⟨(((hxB.trans hx').set ?_).set (Nat.le_refl _)).set ?_, ?_, ?_, ⟨j, hj, heq⟩, _, _, _, _, AH.get_set_same _ _ _⟩
    · have := hext.1; omega
    · have := hext.1; omega
    · show B.next < H'.next
      have := hx'.1; omega
    · rw [get_set, if_neg (Ne.symm hne), get_set, if_pos rfl]
  · rintro v H' (⟨hx', hnn⟩ | ⟨hx', hnx', hrr, hhas, t, p, a', b', hdone⟩)
    · -- none of this kind
      refine ⟨.ready, none, l, #[12], .skip, body, hx'.get (by omega) hkk, by simp, ?_⟩
      refine blk_n (blk_n (on_n ?_))
      refine W.region ?_
      refine Os.op rfl rfl rfl (ev_bin (v := nat1 (i + 1)) (by rw [show envL _ (Operand.tmp 6) = _ from (by simp +decide only [env_tmp, l6] <;> rfl)]; exact (bin_add _ _ _ _ _ _ _ _).trans (by rw [wrap_i64 (by omega) (by omega)]; rfl))) ?_
      refine Os.op rfl rfl rfl (ev_move _) ?_
      have hB : Ext B (H'.set H2.next (.loop .exhausted none l #[12] .skip body)) := (hxB.trans hx').set (by have := hext.1; omega)
      refine Os.nil (on_n ⟨5 - (i + 1), by omega, i + 1, rfl, by omega, (by simp +decide only [put_some, List.length_set, hl]), (by simp +decide only [put_some, env_tmp, sl_same, sl_ne, hl, l0] <;> rfl), (by simp +decide only [put_some, env_tmp, sl_same, sl_ne, hl, l2] <;> rfl), (by simp +decide only [put_some, env_tmp, sl_same, sl_ne, hl, l5] <;> rfl), (by simp +decide only [put_some, env_tmp, sl_same, List.length_set, hl] <;> rfl), hB, ?_, ?_, ?_⟩)
      · show B.next < H'.next
        have := hx'.1; omega
      · rw [get_set, if_neg (by omega)]
        exact hx'.get (by omega) (hxb.get (by omega) (hx2.get hnx hres))
      · intro i' hi'
        rcases Nat.lt_or_eq_of_le (Nat.le_of_lt_succ hi') with h | rfl
        · exact hno i' h
        · rintro ⟨j, hj, hjk⟩
          exact hnn j hj hjk
    · refine ⟨.done, some .ret, t, p, a', b', hdone, by simp, ?_⟩
      refine blk_r (blk_r (on_r (on_r (blk_r (on_r ⟨fun i => by simp, [.int .i64 (kAt i)], res_cell (c := [.int .i64 (kAt i)]) (e := 3) (by simp +decide only [l2] <;> rfl) ?_ a3 rfl rfl, ?_, kAt i, rfl, .inl ⟨i, hin, rfl, hhas, hno⟩⟩)))))
      · rw [get_set, if_neg (by have := hext.1; omega)]; exact hrr
      · exact hx'.set (by have := hext.1; omega)
end
end Go.Ak
