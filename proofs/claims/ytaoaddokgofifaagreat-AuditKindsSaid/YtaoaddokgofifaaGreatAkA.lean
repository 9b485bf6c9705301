/- The loop over the findings of a kind. -/
import Derived.Test.YtaoaddokgofifaaGreatWpB
import Derived.Test.YtaoaddokgofifaaGreatPrD
namespace Go.Ak
open Go Go.Proofs Go.Ev Go.Fv Go.Wp Go.Pr

theorem f49_fn : T0.fn 49 = some Tryz.f49 := by kernel_rfl
theorem t48 : T0.und 48 = some (.slice 51) := by kernel_rfl
theorem a48 : aggT T0 48 = some false := by kernel_rfl
theorem a3 : aggT T0 3 = some false := by kernel_rfl
theorem a51 : aggT T0 51 = some true := by kernel_rfl
theorem s51 : szT T0 51 = some 3 := by kernel_rfl
theorem s3 : szT T0 3 = some 1 := by kernel_rfl
theorem z51 : zeroT T0 51 = some [.int .i64 0, .int .i64 0, .int .i64 0] := by kernel_rfl

theorem o51 : offT T0 51 0 = some 0 := by kernel_rfl

/-- The cells of a finding. -/
def cl3 (f : Int × Int × Int) : List Value := [.int .i64 f.1, .int .i64 f.2.1, .int .i64 f.2.2]

section
variable {X : Prims}

/-- The loop over the findings of a kind: from what holds ahead of each, and of what is done with each. -/
theorem of_loop (hX : X 49 = none) {k bs bk n c : Nat} {a : Option Addr} {e1 : TypeId} {kind : Int} {F : Nat → Int × Int × Int} {J : Nat → AH → Prop} {D : AH → Prop} {H : AH} (hn : n < 4611686018427387904)
    (hs : H.get bs = some (.cells [.slice a n c] e1)) (h0 : J 0 H)
    (hJ : ∀ i H, J i H → i < n → (∃ b0 o0 cs e, a = some ⟨b0, o0, none⟩ ∧ H.get b0 = some (.cells cs e) ∧ o0 + i * 3 + 3 ≤ cs.length ∧ (cs.drop (o0 + i * 3)).take 3 = cl3 (F i)) ∧
      ∃ e, H.get bk = some (.cells [.int .i64 kind] e))
    (hA : ∀ i H o, J i H → J i (H.alloc o))
    (hno : ∀ i H, J i H → i < n → (F i).1 ≠ kind → J (i + 1) H)
    (hY : ∀ i H, J i H → i < n → (F i).1 = kind → Y P0 T0 X k [.agg (cl3 (F i)).toArray] H fun v H' => (v = .bool true ∧ J (i + 1) H') ∨ (v = .bool false ∧ D H')) :
    C P0 T0 X 49 [.func (.yield k) #[] #[], ptr bs 0, ptr bk 0] H fun _ H' => J n H' ∨ D H' := by
  refine C.fn hX f49_fn rfl ?_
  generalize hl0 : ([Value.func (Fn.yield k) #[] #[], ptr bs 0, ptr bk 0] ++ List.replicate (Tryz.f49.ntmps - [Value.func (Fn.yield k) #[] #[], ptr bs 0, ptr bk 0].length) undef) = l
  have hl : l.length = 23 := by subst hl0; rfl
  have l0 : sl l 0 = .func (.yield k) #[] #[] := by subst hl0; rfl
  have l1 : sl l 1 = ptr bs 0 := by subst hl0; rfl
  have l2 : sl l 2 = ptr bk 0 := by subst hl0; rfl
  clear hl0
  refine W.seq (W.region ?_)
  refine Os.op rfl rfl rfl (ev_load l1 hs a48 rfl) ?_
  refine Os.op rfl rfl rfl (ev_len rfl t48 (by simp +decide only [put_some, env_tmp, sl_same, hl] <;> rfl)) ?_
  refine Os.op rfl rfl rfl (ev_move _) ?_
  refine Os.nil ?_
  simp only [put_some]
  refine on_n ?_
  refine W.block ?_
  refine W.loop_inv (fun d l H => ∃ i, d = n - i ∧ i ≤ n ∧ l.length = 23 ∧ sl l 0 = .func (.yield k) #[] #[] ∧ sl l 2 = ptr bk 0 ∧ sl l 6 = .slice a n c ∧ sl l 7 = nat1 n ∧ sl l 8 = nat1 i ∧ J i H) ?_ n _ _
    ⟨0, by omega, by omega, by simp [hl], by simp [l0], by simp [l2], by simp [hl], by simp [hl], by simp [hl, nat1], h0⟩
  clear h0 hs l0 l1 l2 hl
  clear l H
  rintro d l H ⟨i, hd, hi, hl, l0, l2, l6, l7, l8, hj⟩
  refine W.seq (W.region ?_)
  refine Os.op rfl rfl rfl (ev_bin (v := .bool (decide (i < n))) (by rw [env_tmp, env_tmp, l7, l8]; refine (bin_lss _ _ _ _ _ _ _ _).trans ?_; congr 2; rw [Bool.eq_iff_iff]; simp)) ?_
  refine Os.nil ?_
  simp only [put_some]
  refine on_n ?_
  refine W.seq (W.cond (by simp +decide only [env_tmp, sl_same, hl] <;> rfl) (fun ht => W.skip ?_) (fun hf => W.exit ?_))
  rotate_left
  · -- the end
    have : i = n := by
      have := of_decide_eq_false hf
      omega
    subst this
    refine on_x (on_x (blk_x ?_))
    refine ⟨fun i => by simp, [], rfl, .inl hj⟩
  have hin : i < n := of_decide_eq_true ht
  clear ht
  obtain ⟨⟨b0, o0, cs, e, ha, hb0, hfit, hcells⟩, e2, hbk⟩ := hJ i H hj hin
  refine on_n ?_
  refine W.seq (W.block (W.seq (W.region ?_)))
  refine Os.op rfl rfl rfl (ev_indexS t48 s51 (by rw [← ha]; exact (by simp +decide only [env_tmp, sl_ne, l6] <;> rfl)) (j := i) (by simp +decide only [env_tmp, sl_ne, l8, nat1] <;> rfl) hin) ?_
  refine Os.op rfl rfl rfl (ev_loadA (by simp +decide only [put_some, env_tmp, sl_same, List.length_set, hl] <;> rfl) hb0 a51 s51 hfit hcells) ?_
  refine Os.op rfl rfl rfl (ev_alloc z51) ?_
  refine Os.op rfl rfl rfl (ev_store (vs := cl3 (F i)) (by simp +decide only [put_some, env_tmp, sl_same, List.length_set, hl] <;> rfl) (AH.get_alloc_same H _) s51 (by simp +decide only [put_some, env_tmp, sl_same, sl_ne, List.length_set, hl] <;> rfl) rfl (Nat.le_refl 3) rfl) ?_
  refine Os.nil ?_
  rw [alloc_set]
  have hj' := hA i H (.cells (cl3 (F i)) 51) hj
  have hnew := AH.get_alloc_same H (.cells (cl3 (F i)) 51)
  obtain ⟨_, e3, hbk'⟩ := hJ i _ hj' hin
  simp only [put_some, put_none]
  have e0 : setMany [Value.int IntKind.i64 0, Value.int IntKind.i64 0, Value.int IntKind.i64 0] 0 (cl3 (F i)) = cl3 (F i) := rfl
  rw [e0]
  generalize hnb : H.next = nb at hnew
  generalize hHH : H.alloc (.cells (cl3 (F i)) 51) = H1 at hj' hnew hbk'
  refine on_n ?_
  refine W.seq (W.region ?_)
  refine Os.op rfl rfl rfl (ev_fieldAddr (by simp +decide only [env_tmp, sl_same, List.length_set, hl] <;> rfl) o51) ?_
  refine Os.op rfl rfl rfl (ev_load (by simp +decide only [put_some, env_tmp, sl_same, List.length_set, hl] <;> rfl) hnew a3 rfl) ?_
  refine Os.op rfl rfl rfl (ev_load (by simp +decide only [put_some, env_tmp, sl_ne, l2] <;> rfl) hbk' a3 rfl) ?_
  by_cases hk : (F i).1 = kind
  · refine Os.op rfl rfl rfl (ev_bin (v := .bool true) (by rw [show envL _ (Operand.tmp 13) = _ from (by simp +decide only [put_some, env_tmp, sl_same, sl_ne, List.length_set, hl] <;> rfl), show envL _ (Operand.tmp 14) = _ from (by simp +decide only [put_some, env_tmp, sl_same, List.length_set, hl] <;> rfl)]; exact bin_eql_yes hk)) ?_
    refine Os.op rfl rfl rfl (ev_move _) ?_
    refine Os.op (wanted_yes rfl rfl (by simp +decide only [put_some, List.length_set, hl]) (by simp +decide only [put_some, env_tmp, sl_same, List.length_set, hl] <;> rfl)) rfl rfl (ev_move _) ?_
    refine Os.op (wanted_yes rfl rfl (by simp +decide only [put_some, List.length_set, hl]) (by simp +decide only [put_some, env_tmp, sl_same, sl_ne, List.length_set, hl] <;> rfl)) rfl rfl (ev_loadA (vs := cl3 (F i)) (by simp +decide only [put_some, env_tmp, sl_same, sl_ne, List.length_set, hl] <;> rfl) hnew a51 s51 (Nat.le_refl 3) rfl) ?_
    refine Os.yield rfl (wanted_yes rfl rfl (by simp +decide only [put_some, List.length_set, hl]) (by simp +decide only [put_some, env_tmp, sl_same, sl_ne, List.length_set, hl] <;> rfl)) rfl (k := k) (by simp +decide only [put_some, env_tmp, sl_same, sl_ne, List.length_set, hl, l0] <;> rfl) (args1 (by simp +decide only [put_some, env_tmp, sl_same, sl_ne, List.length_set, hl] <;> rfl)) ?_
    refine (hY i H1 hj' hin hk).mono ?_
    rintro v H' (⟨rfl, hj1⟩ | ⟨rfl, hd1⟩)
    · refine Os.op (wanted_yes rfl rfl (by simp +decide only [put_some, List.length_set, hl]) (by simp +decide only [put_some, env_tmp, sl_same, sl_ne, List.length_set, hl] <;> rfl)) rfl rfl (ev_un (by rw [show envL _ (Operand.tmp 19) = _ from (by simp +decide only [put_some, env_tmp, sl_same, sl_ne, List.length_set, hl] <;> rfl)]; exact un_not _ _)) ?_
      refine Os.op rfl rfl rfl (ev_pick (t := true) (by simp +decide only [put_some, env_tmp, sl_same, sl_ne, List.length_set, hl] <;> rfl)) ?_
      refine Os.nil (on_n ?_)
      refine W.cond (t := false) (by simp +decide only [put_some, env_tmp, env_const, sl_same, sl_ne, List.length_set, hl] <;> rfl) (fun h => by cases h) (fun _ => W.skip (blk_n (on_n ?_)))
      refine W.region ?_
      refine Os.op rfl rfl rfl (ev_bin (v := nat1 (i + 1)) (by rw [show envL _ (Operand.tmp 8) = _ from (by simp +decide only [put_some, env_tmp, env_const, sl_same, sl_ne, List.length_set, hl, l8] <;> rfl)]; exact (bin_add _ _ _ _ _ _ _ _).trans (by rw [wrap_i64 (by omega) (by omega)]; rfl))) ?_
      refine Os.op rfl rfl rfl (ev_move _) ?_
      refine Os.nil (on_n ⟨n - (i + 1), by omega, i + 1, rfl, by omega, (by simp +decide only [put_some, List.length_set, hl]), (by simp +decide only [put_some, env_tmp, env_const, sl_same, sl_ne, List.length_set, hl, l0] <;> rfl), (by simp +decide only [put_some, env_tmp, env_const, sl_same, sl_ne, List.length_set, hl, l2] <;> rfl), (by simp +decide only [put_some, env_tmp, env_const, sl_same, sl_ne, List.length_set, hl, l6] <;> rfl), (by simp +decide only [put_some, env_tmp, env_const, sl_same, sl_ne, List.length_set, hl, l7] <;> rfl), (by simp +decide only [put_some, env_tmp, env_const, sl_same, sl_ne, List.length_set, hl] <;> rfl), hj1⟩)
    · refine Os.op (wanted_yes rfl rfl (by simp +decide only [put_some, List.length_set, hl]) (by simp +decide only [put_some, env_tmp, sl_same, sl_ne, List.length_set, hl] <;> rfl)) rfl rfl (ev_un (by rw [show envL _ (Operand.tmp 19) = _ from (by simp +decide only [put_some, env_tmp, sl_same, sl_ne, List.length_set, hl] <;> rfl)]; exact un_not _ _)) ?_
      refine Os.op rfl rfl rfl (ev_pick (t := true) (by simp +decide only [put_some, env_tmp, sl_same, sl_ne, List.length_set, hl] <;> rfl)) ?_
      refine Os.nil (on_n ?_)
      refine W.cond (t := true) (by simp +decide only [put_some, env_tmp, env_const, sl_same, sl_ne, List.length_set, hl] <;> rfl) (fun _ => W.ret (blk_r (on_r (on_r (blk_r ⟨fun i => by simp, [], rfl, .inr hd1⟩))))) (fun h => by cases h)
  · refine Os.op rfl rfl rfl (ev_bin (v := .bool false) (by rw [show envL _ (Operand.tmp 13) = _ from (by simp +decide only [put_some, env_tmp, sl_same, sl_ne, List.length_set, hl] <;> rfl), show envL _ (Operand.tmp 14) = _ from (by simp +decide only [put_some, env_tmp, sl_same, List.length_set, hl] <;> rfl)]; exact bin_eql_no hk)) ?_
    refine Os.op rfl rfl rfl (ev_move _) ?_
    refine Os.pass (wanted_no rfl rfl (by simp +decide only [put_some, List.length_set, hl]) (by simp +decide only [put_some, env_tmp, sl_same, List.length_set, hl] <;> rfl)) ?_
    refine Os.pass (wanted_no rfl rfl (by simp +decide only [put_some, List.length_set, hl]) (by simp +decide only [put_some, env_tmp, sl_same, sl_ne, List.length_set, hl] <;> rfl)) ?_
    refine Os.pass (wanted_no rfl rfl (by simp +decide only [put_some, List.length_set, hl]) (by simp +decide only [put_some, env_tmp, sl_same, sl_ne, List.length_set, hl] <;> rfl)) ?_
    refine Os.pass (wanted_no rfl rfl (by simp +decide only [put_some, List.length_set, hl]) (by simp +decide only [put_some, env_tmp, sl_same, sl_ne, List.length_set, hl] <;> rfl)) ?_
    refine Os.op rfl rfl rfl (ev_pick (t := false) (by simp +decide only [put_some, env_tmp, sl_same, sl_ne, List.length_set, hl] <;> rfl)) ?_
    refine Os.nil (on_n ?_)
    refine W.cond (t := false) (by simp +decide only [put_some, env_tmp, env_const, sl_same, List.length_set, hl] <;> rfl) (fun h => by cases h) (fun _ => W.skip (blk_n (on_n ?_)))
    refine W.region ?_
    refine Os.op rfl rfl rfl (ev_bin (v := nat1 (i + 1)) (by rw [show envL _ (Operand.tmp 8) = _ from (by simp +decide only [put_some, env_tmp, env_const, sl_same, sl_ne, List.length_set, hl, l8] <;> rfl)]; exact (bin_add _ _ _ _ _ _ _ _).trans (by rw [wrap_i64 (by omega) (by omega)]; rfl))) ?_
    refine Os.op rfl rfl rfl (ev_move _) ?_
    refine Os.nil (on_n ⟨n - (i + 1), by omega, i + 1, rfl, by omega, (by simp +decide only [put_some, List.length_set, hl]), (by simp +decide only [put_some, env_tmp, env_const, sl_same, sl_ne, List.length_set, hl, l0] <;> rfl), (by simp +decide only [put_some, env_tmp, env_const, sl_same, sl_ne, List.length_set, hl, l2] <;> rfl), (by simp +decide only [put_some, env_tmp, env_const, sl_same, sl_ne, List.length_set, hl, l6] <;> rfl), (by simp +decide only [put_some, env_tmp, env_const, sl_same, sl_ne, List.length_set, hl, l7] <;> rfl), (by simp +decide only [put_some, env_tmp, env_const, sl_same, List.length_set, hl] <;> rfl), hno i H1 hj' hin hk⟩)
end
end Go.Ak
