/- The law's function: AuditKinds answers true. -/
import Derived.Test.YtaoaddokgofifaaGreatAkC
namespace Go.Ak
open Go Go.Proofs Go.Ev Go.Fv Go.Wp Go.Pr

theorem f4_fn : T0.fn 4 = some Tryz.f4 := by kernel_rfl
theorem z4 : zeroT T0 4 = some [.bool false] := by kernel_rfl
theorem z48 : zeroT T0 48 = some [.slice none 0 0] := by kernel_rfl
theorem z49 : zeroT T0 49 = some [nat1 0, nat1 0, nat1 0, nat1 0, nat1 0, nat1 0] := by kernel_rfl
theorem t49 : T0.und 49 = some (.array 6 3) := by kernel_rfl
theorem s4 : szT T0 4 = some 1 := by kernel_rfl
theorem s48 : szT T0 48 = some 1 := by kernel_rfl
theorem s49 : szT T0 49 = some 6 := by kernel_rfl
theorem a4 : aggT T0 4 = some false := by kernel_rfl
theorem kinds_up : buildV T0 55 [(0, .int .i64 4), (1, .int .i64 5), (2, .int .i64 1), (3, .int .i64 3), (4, .int .i64 2)] = some (.agg #[nat1 4, nat1 5, nat1 1, nat1 3, nat1 2]) := by kernel_rfl
theorem b49 : buildV T0 49 [] = some (.agg #[nat1 0, nat1 0, nat1 0, nat1 0, nat1 0, nat1 0]) := by kernel_rfl

/-- Where the gathered findings lie. -/
def WantAt (H : AH) (F : Nat → Int × Int × Int) (kind : Int) (i N : Nat) (v : Value) : Prop :=
  (pre F kind i = [] ∧ v = .slice none 0 0) ∨ ∃ bw, v = .slice (some ⟨bw, 0, none⟩) (pre F kind i).length 6 ∧ N < bw ∧ bw < H.next ∧ H.get bw = some (.cells ((pre F kind i).flatMap cl3) 51)
/-- Memory in the first loop. -/
structure M1 (H0 H : AH) (F : Nat → Int × Int × Int) (kind stop : Int) (iw it : Nat) (wv : Value) : Prop where
  ext : Ext H0 H
  nx : H0.next + 4 ≤ H.next
  stop : H.get H0.next = some (.cells [.int .i64 stop] 3)
  res : H.get (H0.next + 1) = some (.cells [.bool false] 4)
  want : H.get (H0.next + 2) = some (.cells [wv] 48)
  there : H.get (H0.next + 3) = some (.cells (thereL F it) 49)
  row : WantAt H F kind iw (H0.next + 3) wv
theorem WantAt.ext {H H' : AH} {F : Nat → Int × Int × Int} {kind : Int} {i N : Nat} {v : Value} (h : WantAt H F kind i N v) (k : Ext H H') : WantAt H' F kind i N v := by
  rcases h with h | ⟨bw, h1, h2, h3, h4⟩
  · exact .inl h
  · exact .inr ⟨bw, h1, h2, Nat.lt_of_lt_of_le h3 k.1, k.get h3 h4⟩
theorem M1.more {H0 H H' : AH} {F : Nat → Int × Int × Int} {kind stop : Int} {iw it : Nat} {wv : Value} (h : M1 H0 H F kind stop iw it wv) (k : Ext H H') : M1 H0 H' F kind stop iw it wv :=
  ⟨h.ext.trans k, Nat.le_trans h.nx k.1, k.get (by have := h.nx; omega) h.stop, k.get (by have := h.nx; omega) h.res, k.get (by have := h.nx; omega) h.want, k.get (by have := h.nx; omega) h.there, h.row.ext k⟩

theorem M1.set {H0 H : AH} {F : Nat → Int × Int × Int} {kind stop : Int} {iw it : Nat} {wv : Value} {k : Nat} {o : AObj} (h : M1 H0 H F kind stop iw it wv) (hk : H0.next + 4 ≤ k) (hw : ∀ bw m, wv = .slice (some ⟨bw, 0, none⟩) m 6 → bw ≠ k) : M1 H0 (H.set k o) F kind stop iw it wv := by
  refine ⟨h.ext.set (by omega), h.nx, ?_, ?_, ?_, ?_, ?_⟩
  · rw [get_set, if_neg (by omega)]; exact h.stop
  · rw [get_set, if_neg (by omega)]; exact h.res
  · rw [get_set, if_neg (by omega)]; exact h.want
  · rw [get_set, if_neg (by omega)]; exact h.there
  · rcases h.row with q | ⟨bw, q1, q2, q3, q4⟩
    · exact .inl q
    · exact .inr ⟨bw, q1, q2, q3, by rw [get_set, if_neg (hw bw _ q1)]; exact q4⟩

section
variable {X : Prims}

theorem kinds_fn (hX : X 4 = none) {p12 : List Value → AH → Option (Value × AH)} (hX12 : X 12 = some p12) (hp12 : ∀ H, p12 [] H = some (.bool true, H)) (hX13 : X 13 = none) (hX14 : X 14 = none) (hX49 : X 49 = none) {a : Option Addr} {n c : Nat} {kind stop : Int} {F : Nat → Int × Int × Int} {H0 : AH} (hr : RowsAt H0 a n F) :
    C P0 T0 X 4 [.slice a n c, .int .i64 kind, .int .i64 stop] H0 fun v H' => v = .bool true ∧ Ext H0 H' := by
  refine C.fn hX f4_fn rfl ?_
  generalize hl0 : ([Value.slice a n c, .int .i64 kind, .int .i64 stop] ++ List.replicate (Tryz.f4.ntmps - [Value.slice a n c, .int .i64 kind, .int .i64 stop].length) undef) = l
  have hl : l.length = 97 := by subst hl0; rfl
  have l0 : sl l 0 = .slice a n c := by subst hl0; rfl
  have l1 : sl l 1 = .int .i64 kind := by subst hl0; rfl
  have l2 : sl l 2 = .int .i64 stop := by subst hl0; rfl
  clear hl0
  refine W.seq (W.region ?_)
  refine Os.op rfl rfl rfl (ev_box (vs := [.int .i64 stop]) (by rw [show envL l (Operand.tmp 2) = _ from l2]; rfl) rfl) ?_
  refine Os.op rfl rfl rfl (ev_alloc z4) ?_
  refine Os.nil (on_n ?_)
  refine W.seq (W.seq (W.region ?_))
  refine Os.call rfl rfl rfl (g := 12) (cap := #[]) rfl args0 ?_
  refine C.prim hX12 (hp12 _) ?_
  refine Os.op rfl rfl rfl (ev_un (by rw [show envL _ (Operand.tmp 16) = _ from (by simp +decide only [put_some, env_tmp, sl_same, List.length_set, hl] <;> rfl)]; exact un_not _ _)) ?_
  refine Os.nil (on_n ?_)
  refine W.cond (t := false) (by simp +decide only [put_some, env_tmp, sl_same, List.length_set, hl] <;> rfl) (fun h => by cases h) (fun _ => W.skip (on_n ?_))
  refine W.seq (W.seq (W.region ?_))
  refine Os.op rfl rfl rfl (ev_move _) ?_
  refine Os.op rfl rfl rfl (ev_len rfl t48 (x := .tmp 18) (a := a) (n := n) (c := c) (by simp +decide only [put_some, env_tmp, sl_same, sl_ne, List.length_set, hl, l0] <;> rfl)) ?_
  refine Os.op rfl rfl rfl (ev_bin (v := .bool (decide ((100 : Int) < n))) (by rw [show envL _ (Operand.tmp 19) = _ from (by simp +decide only [put_some, env_tmp, sl_same, sl_ne, List.length_set, hl] <;> rfl)]; exact bin_gtr _ _ _ _ _ _ _ _)) ?_
  refine Os.nil (on_n ?_)
  refine W.abs (fun l => l.length = 97 ∧ sl l 0 = .slice a n c ∧ sl l 1 = .int .i64 kind ∧ sl l 5 = ptr H0.next 0 ∧ sl l 6 = ptr (H0.next + 1) 0 ∧ sl l 20 = .bool (decide ((100 : Int) < n))) ⟨(by simp +decide only [put_some, List.length_set, hl]), (by simp +decide only [put_some, env_tmp, sl_ne, l0] <;> rfl), (by simp +decide only [put_some, env_tmp, sl_ne, l1] <;> rfl), (by simp +decide only [put_some, env_tmp, sl_same, sl_ne, hl] <;> rfl), (by simp +decide only [put_some, env_tmp, sl_same, sl_ne, List.length_set, hl, next_alloc] <;> rfl), (by simp +decide only [put_some, env_tmp, sl_same, sl_ne, List.length_set, hl] <;> rfl)⟩ ?_
  clear l0 l1 l2 hl l
  rintro l ⟨hl, l0, l1, l5, l6, l20⟩
  refine W.absH (fun H => Ext H0 H ∧ H.next = H0.next + 2 ∧ H.get H0.next = some (.cells [.int .i64 stop] 3) ∧ H.get (H0.next + 1) = some (.cells [.bool false] 4)) ⟨(Ext.alloc _ _).trans (Ext.alloc _ _), rfl, by simp [get_alloc], by simp [get_alloc]⟩ ?_
  rintro H ⟨hx, hnx, hst, hrs⟩
  refine W.cond (by simp +decide only [env_tmp, l20] <;> rfl) (fun _ => W.seq (W.region ?_)) (fun hn => W.skip (on_n ?_))
  · -- more than a hundred
    refine Os.op rfl rfl rfl (ev_store (vs := [.bool true]) (by simp +decide only [env_tmp, l6] <;> rfl) hrs s4 rfl rfl (Nat.le_refl 1) rfl) ?_
    exact Os.nil (on_n (W.ret (on_r ⟨fun i => by simp, [.bool true], res_cell (by simp +decide only [put_none, l6] <;> rfl) (AH.get_set_same _ _ _) a4 rfl rfl, rfl, hx.set (by omega)⟩)))
  have hn : n ≤ 100 := by have := of_decide_eq_false hn; omega
  refine W.seq (W.region ?_)
  refine Os.op rfl rfl rfl (ev_alloc z48) ?_
  refine Os.nil (on_n ?_)
  refine W.seq (W.region ?_)
  refine Os.op rfl rfl rfl (ev_build rfl b49) ?_
  refine Os.op rfl rfl rfl (ev_alloc z49) ?_
  refine Os.op rfl rfl rfl (ev_store (vs := thereL F 0) (by simp +decide only [put_some, env_tmp, sl_same, List.length_set, hl] <;> rfl) (AH.get_alloc_same _ _) s49 (by rw [show envL _ (Operand.tmp 21) = _ from (by simp +decide only [put_some, env_tmp, sl_same, sl_ne, List.length_set, hl] <;> rfl)]; rfl) rfl (Nat.le_refl 6) rfl) ?_
  refine Os.nil (on_n ?_)
  rw [alloc_set]
  refine W.seq (W.seq (W.region ?_))
  refine Os.op rfl rfl rfl (ev_move _) ?_
  refine Os.op rfl rfl rfl (ev_len rfl t48 (x := .tmp 22) (a := a) (n := n) (c := c) (by simp +decide only [put_some, put_none, env_tmp, sl_same, sl_ne, List.length_set, hl, l0] <;> rfl)) ?_
  refine Os.op rfl rfl rfl (ev_move _) ?_
  refine Os.nil (on_n ?_)
  have hm : M1 H0 ((H.alloc (.cells [.slice none 0 0] 48)).alloc (.cells (thereL F 0) 49)) F kind stop 0 0 (.slice none 0 0) := by
    refine ⟨(hx.trans (Ext.alloc _ _)).trans (Ext.alloc _ _), ?_, ?_, ?_, ?_, ?_, .inl ⟨rfl, rfl⟩⟩
    · show H0.next + 4 ≤ H.next + 2
      omega
    · rw [get_alloc, if_neg (by rw [next_alloc]; omega), get_alloc, if_neg (by omega)]; exact hst
    · rw [get_alloc, if_neg (by rw [next_alloc]; omega), get_alloc, if_neg (by omega)]; exact hrs
    · rw [get_alloc, if_neg (by rw [next_alloc]; omega), get_alloc, if_pos (by omega)]
    · rw [get_alloc, if_pos (by rw [next_alloc]; omega)]
  have hset : setMany [nat1 0, nat1 0, nat1 0, nat1 0, nat1 0, nat1 0] 0 (thereL F 0) = thereL F 0 := rfl
  rw [hset]
  refine W.cut (fun l H => l.length = 97 ∧ sl l 0 = .slice a n c ∧ sl l 1 = .int .i64 kind ∧ sl l 5 = ptr H0.next 0 ∧ sl l 6 = ptr (H0.next + 1) 0 ∧ sl l 7 = ptr (H0.next + 2) 0 ∧ sl l 8 = ptr (H0.next + 3) 0 ∧
    ∃ wv, M1 H0 H F kind stop n n wv) ?_ ?_
  · refine W.block ?_
    refine W.loop_inv (fun d l H => ∃ i, d = n - i ∧ i ≤ n ∧ l.length = 97 ∧ sl l 0 = .slice a n c ∧ sl l 1 = .int .i64 kind ∧ sl l 5 = ptr H0.next 0 ∧ sl l 6 = ptr (H0.next + 1) 0 ∧ sl l 7 = ptr (H0.next + 2) 0 ∧ sl l 8 = ptr (H0.next + 3) 0 ∧
      sl l 22 = .slice a n c ∧ sl l 23 = nat1 n ∧ sl l 24 = nat1 i ∧ ∃ wv, M1 H0 H F kind stop i i wv) ?_ n _ _
      ⟨0, by omega, by omega, (by simp +decide only [put_some, put_none, List.length_set, hl]), (by simp +decide only [put_some, put_none, env_tmp, env_const, sl_ne, l0] <;> rfl), (by simp +decide only [put_some, put_none, env_tmp, env_const, sl_ne, l1] <;> rfl), (by simp +decide only [put_some, put_none, env_tmp, env_const, sl_ne, l5] <;> rfl), (by simp +decide only [put_some, put_none, env_tmp, env_const, sl_ne, l6] <;> rfl), by rw [← hnx]; exact (by simp +decide only [put_some, put_none, env_tmp, env_const, sl_same, sl_ne, hl] <;> rfl), by rw [show H0.next + 3 = (H.alloc (.cells [.slice none 0 0] 48)).next by rw [next_alloc, hnx]]; exact (by simp +decide only [put_some, put_none, env_tmp, env_const, sl_same, sl_ne, List.length_set, hl] <;> rfl), (by simp +decide only [put_some, put_none, env_tmp, env_const, sl_same, sl_ne, List.length_set, hl, l0] <;> rfl), (by simp +decide only [put_some, put_none, env_tmp, env_const, sl_same, sl_ne, List.length_set, hl] <;> rfl), (by simp +decide only [put_some, put_none, env_tmp, env_const, sl_same, sl_ne, List.length_set, hl, nat1] <;> rfl), _, hm⟩
    clear hm hset l0 l1 l5 l6 l20 hl hx hnx hst hrs l H
    rintro d l H ⟨i, hd, hi, hl, l0, l1, l5, l6, l7, l8, l22, l23, l24, wv, hm⟩
    refine W.seq (W.region ?_)
    refine Os.op rfl rfl rfl (ev_bin (v := .bool (decide (i < n))) (by rw [env_tmp, env_tmp, l23, l24]; exact bin_lss_nat _ _)) ?_
    refine Os.nil (on_n ?_)
    refine W.seq (W.cond (by simp +decide only [put_some, env_tmp, sl_same, hl] <;> rfl) (fun ht => W.skip (on_n ?_)) (fun hf => W.exit (on_x (on_x (blk_x ⟨rfl, ?_⟩)))))
    rotate_left
    · have : i = n := by
        have := of_decide_eq_false hf
        omega
      subst this
      exact ⟨(by simp +decide only [put_some, List.length_set, hl]), (by simp +decide only [put_some, sl_ne, l0] <;> rfl), (by simp +decide only [put_some, sl_ne, l1] <;> rfl), (by simp +decide only [put_some, sl_ne, l5] <;> rfl), (by simp +decide only [put_some, sl_ne, l6] <;> rfl), (by simp +decide only [put_some, sl_ne, l7] <;> rfl), (by simp +decide only [put_some, sl_ne, l8] <;> rfl), wv, hm⟩
    have hin : i < n := of_decide_eq_true ht
    clear ht
    obtain ⟨b0, o0, cs, e, ha, hb0n, hb0, hfit, hcells⟩ := (hr.ext hm.ext) i hin
    refine W.seq (W.block (W.seq (W.region ?_)))
    refine Os.op rfl rfl rfl (ev_indexS t48 s51 (b := b0) (o := o0) (n := n) (c := c) (by rw [← ha]; exact (by simp +decide only [put_some, env_tmp, sl_ne, l22] <;> rfl)) (j := i) (by simp +decide only [put_some, env_tmp, sl_ne, l24, nat1] <;> rfl) hin) ?_
    refine Os.op rfl rfl rfl (ev_loadA (by simp +decide only [put_some, env_tmp, sl_same, List.length_set, hl] <;> rfl) hb0 a51 s51 hfit hcells) ?_
    refine Os.op rfl rfl rfl (ev_alloc z51) ?_
    refine Os.op rfl rfl rfl (ev_store (vs := cl3 (F i)) (by simp +decide only [put_some, env_tmp, sl_same, List.length_set, hl] <;> rfl) (AH.get_alloc_same H _) s51 (by rw [show envL _ (Operand.tmp 27) = _ from (by simp +decide only [put_some, env_tmp, sl_same, sl_ne, List.length_set, hl] <;> rfl)]; rfl) rfl (Nat.le_refl 3) rfl) ?_
    refine Os.nil (on_n ?_)
    rw [alloc_set]
    have e0 : setMany [Value.int IntKind.i64 0, Value.int IntKind.i64 0, Value.int IntKind.i64 0] 0 (cl3 (F i)) = cl3 (F i) := rfl
    rw [e0]
    refine W.abs (fun l => l.length = 97 ∧ sl l 0 = .slice a n c ∧ sl l 1 = .int .i64 kind ∧ sl l 5 = ptr H0.next 0 ∧ sl l 6 = ptr (H0.next + 1) 0 ∧ sl l 7 = ptr (H0.next + 2) 0 ∧ sl l 8 = ptr (H0.next + 3) 0 ∧
      sl l 22 = .slice a n c ∧ sl l 23 = nat1 n ∧ sl l 24 = nat1 i ∧ sl l 10 = ptr H.next 0) ⟨(by simp +decide only [put_some, put_none, List.length_set, hl]), (by simp +decide only [put_some, put_none, sl_ne, l0] <;> rfl), (by simp +decide only [put_some, put_none, sl_ne, l1] <;> rfl), (by simp +decide only [put_some, put_none, sl_ne, l5] <;> rfl), (by simp +decide only [put_some, put_none, sl_ne, l6] <;> rfl), (by simp +decide only [put_some, put_none, sl_ne, l7] <;> rfl), (by simp +decide only [put_some, put_none, sl_ne, l8] <;> rfl), (by simp +decide only [put_some, put_none, sl_ne, l22] <;> rfl), (by simp +decide only [put_some, put_none, sl_ne, l23] <;> rfl), (by simp +decide only [put_some, put_none, sl_ne, l24] <;> rfl), (by simp +decide only [put_some, put_none, sl_same, List.length_set, hl] <;> rfl)⟩ ?_
    clear l0 l1 l5 l6 l7 l8 l22 l23 l24 hl l
    rintro l ⟨hl, l0, l1, l5, l6, l7, l8, l22, l23, l24, l10⟩
    have hbf0 := hm.nx
    have hwb : ∀ bw m, wv = .slice (some ⟨bw, 0, none⟩) m 6 → bw ≠ H.next := fun bw m hw => by
      rcases hm.row with ⟨_, h⟩ | ⟨b', h1, _, h3, _⟩
      · rw [hw] at h; cases h
      · rw [hw] at h1; cases h1; omega
    refine W.absH (fun H' => M1 H0 H' F kind stop i i wv ∧ H'.next = H.next + 1 ∧ H'.get H.next = some (.cells (cl3 (F i)) 51)) ⟨hm.more (Ext.alloc _ _), rfl, AH.get_alloc_same _ _⟩ ?_
    clear hm hb0 hb0n hcells hfit
    generalize H.next = bf at l10 hbf0 hwb
    clear H
    rintro H ⟨hm, hnx, hbf⟩
    refine W.seq (W.cut (fun l H => l.length = 97 ∧ sl l 0 = .slice a n c ∧ sl l 1 = .int .i64 kind ∧ sl l 5 = ptr H0.next 0 ∧ sl l 6 = ptr (H0.next + 1) 0 ∧ sl l 7 = ptr (H0.next + 2) 0 ∧ sl l 8 = ptr (H0.next + 3) 0 ∧
      sl l 22 = .slice a n c ∧ sl l 23 = nat1 n ∧ sl l 24 = nat1 i ∧ sl l 10 = ptr bf 0 ∧ bf < H.next ∧ H.get bf = some (.cells (cl3 (F i)) 51) ∧ ∃ wv, M1 H0 H F kind stop (i + 1) i wv) ?_ ?_)
    · -- one more of the kind
      refine W.seq (W.region ?_)
      refine Os.op rfl rfl rfl (ev_fieldAddr (by simp +decide only [env_tmp, l10] <;> rfl) o51) ?_
      refine Os.op rfl rfl rfl (ev_load (by simp +decide only [put_some, env_tmp, sl_same, hl] <;> rfl) hbf a3 rfl) ?_
      refine Os.op rfl rfl rfl (ev_move _) ?_
      refine Os.op rfl rfl rfl (ev_bin (v := .bool (decide ((F i).1 = kind))) (by rw [show envL _ (Operand.tmp 29) = _ from (by simp +decide only [put_some, env_tmp, sl_same, sl_ne, List.length_set, hl] <;> rfl), show envL _ (Operand.tmp 30) = _ from (by simp +decide only [put_some, env_tmp, sl_same, sl_ne, List.length_set, hl, l1] <;> rfl)]; exact bin_eql _ _ _ _ _ _ _ _)) ?_
      refine Os.nil (on_n ?_)
      refine W.cond (by simp +decide only [put_some, env_tmp, sl_same, sl_ne, List.length_set, hl] <;> rfl) (fun hk => W.region ?_) (fun hk => W.skip ⟨rfl, (by simp +decide only [put_some, List.length_set, hl]), (by simp +decide only [put_some, env_tmp, sl_ne, l0] <;> rfl), (by simp +decide only [put_some, env_tmp, sl_ne, l1] <;> rfl), (by simp +decide only [put_some, env_tmp, sl_ne, l5] <;> rfl), (by simp +decide only [put_some, env_tmp, sl_ne, l6] <;> rfl), (by simp +decide only [put_some, env_tmp, sl_ne, l7] <;> rfl), (by simp +decide only [put_some, env_tmp, sl_ne, l8] <;> rfl), (by simp +decide only [put_some, env_tmp, sl_ne, l22] <;> rfl), (by simp +decide only [put_some, env_tmp, sl_ne, l23] <;> rfl), (by simp +decide only [put_some, env_tmp, sl_ne, l24] <;> rfl), (by simp +decide only [put_some, env_tmp, sl_ne, l10] <;> rfl), by omega, hbf, wv, ?_⟩)
      · have hk : (F i).1 = kind := of_decide_eq_true hk
        refine Os.op rfl rfl rfl (ev_load (by simp +decide only [put_some, env_tmp, sl_ne, l7] <;> rfl) hm.want a48 rfl) ?_
        refine Os.op rfl rfl rfl (ev_loadA (vs := cl3 (F i)) (by simp +decide only [put_some, env_tmp, sl_ne, l10] <;> rfl) hbf a51 s51 (Nat.le_refl 3) rfl) ?_
        refine Os.op rfl rfl rfl (ev_slice1 (by simp +decide only [put_some, env_tmp, sl_same, sl_ne, List.length_set, hl] <;> rfl)) ?_
        have hm' := hm.more (Ext.alloc H (.cells (cl3 (F i)) 51))
        have hlt : bf < H.next := by omega
        have hbf' : (H.alloc (.cells (cl3 (F i)) 51)).get bf = some (.cells (cl3 (F i)) 51) := (Ext.alloc H _).get hlt hbf
        have hbn : (H.alloc (.cells (cl3 (F i)) 51)).get H.next = some (.cells (cl3 (F i)) 51) := AH.get_alloc_same _ _
        have hnn : (H.alloc (.cells (cl3 (F i)) 51)).next = H.next + 1 := rfl
        generalize H.alloc (.cells (cl3 (F i)) 51) = H1 at hm' hbf' hbn hnn
        have hnx1 := hm'.nx
        rcases hm'.row with ⟨hp, rfl⟩ | ⟨bw, rfl, q1, q2, q3⟩
        · refine Os.op rfl rfl rfl (ev_append_nil (c' := 0) (by simp +decide only [put_some, env_tmp, sl_same, sl_ne, List.length_set, hl] <;> rfl) (by simp +decide only [put_some, env_tmp, sl_same, sl_ne, List.length_set, hl] <;> rfl) hbn) ?_
          have hx2 := Ext.alloc H1 (.cells (cl3 (F i)) 51)
          refine Os.op rfl rfl rfl (ev_store (vs := [.slice (some ⟨H1.next, 0, none⟩) 1 6]) (by simp +decide only [put_some, env_tmp, sl_ne, l7] <;> rfl) (hx2.get (by omega) hm'.want) s48 (by rw [show envL _ (Operand.tmp 35) = _ from (by simp +decide only [put_some, env_tmp, sl_same, sl_ne, List.length_set, hl] <;> rfl)]; rfl) rfl (Nat.le_refl 1) rfl) ?_
          refine Os.nil ⟨rfl, (by simp +decide only [put_some, put_none, List.length_set, hl]), (by simp +decide only [put_some, put_none, env_tmp, sl_ne, l0] <;> rfl), (by simp +decide only [put_some, put_none, env_tmp, sl_ne, l1] <;> rfl), (by simp +decide only [put_some, put_none, env_tmp, sl_ne, l5] <;> rfl), (by simp +decide only [put_some, put_none, env_tmp, sl_ne, l6] <;> rfl), (by simp +decide only [put_some, put_none, env_tmp, sl_ne, l7] <;> rfl), (by simp +decide only [put_some, put_none, env_tmp, sl_ne, l8] <;> rfl), (by simp +decide only [put_some, put_none, env_tmp, sl_ne, l22] <;> rfl), (by simp +decide only [put_some, put_none, env_tmp, sl_ne, l23] <;> rfl), (by simp +decide only [put_some, put_none, env_tmp, sl_ne, l24] <;> rfl), (by simp +decide only [put_some, put_none, env_tmp, sl_ne, l10] <;> rfl), ?_, ?_, .slice (some ⟨H1.next, 0, none⟩) 1 6, ?_⟩
          · show bf < H1.next + 1
            omega
          · rw [get_set, if_neg (by omega)]; exact hx2.get (by omega) hbf'
          · have hm2 := hm'.more hx2
            refine ⟨hm2.ext.set (by omega), hm2.nx, ?_, ?_, by rw [get_set, if_pos rfl]; rfl, ?_, .inr ⟨H1.next, ?_, by omega, Nat.lt_succ_self _, ?_⟩⟩
            · rw [get_set, if_neg (by omega)]; exact hm2.stop
            · rw [get_set, if_neg (by omega)]; exact hm2.res
            · rw [get_set, if_neg (by omega)]; exact hm2.there
            · rw [pre_yes hk, hp]; rfl
            · rw [get_set, if_neg (by omega), AH.get_alloc_same, pre_yes hk, hp]; rfl
        · have hpl := pre_le (F := F) (kind := kind) i
          refine Os.op rfl rfl rfl (ev_append (by simp +decide only [put_some, env_tmp, sl_same, sl_ne, List.length_set, hl] <;> rfl) (by simp +decide only [put_some, env_tmp, sl_same, sl_ne, List.length_set, hl] <;> rfl) hbn q3 (flat_len _) (by omega)) ?_
          have gk : ∀ b o, b ≠ bw → b < H1.next → H1.get b = some o → ((H1.kill bw).alloc (.cells ((pre F kind i).flatMap cl3 ++ cl3 (F i)) 51)).get b = some o := fun b o h1 h2 h3 => by
            rw [get_alloc, if_neg (by rw [next_kill]; omega), get_kill, if_neg h1]; exact h3
          have hbw : bw ≠ bf := hwb bw _ rfl
          refine Os.op rfl rfl rfl (ev_store (vs := [.slice (some ⟨H1.next, 0, none⟩) ((pre F kind i).length + 1) 6]) (by simp +decide only [put_some, env_tmp, sl_ne, l7] <;> rfl) (gk _ _ (by omega) (by omega) hm'.want) s48 (by rw [show envL _ (Operand.tmp 35) = _ from (by simp +decide only [put_some, env_tmp, sl_same, sl_ne, List.length_set, hl] <;> rfl)]; rfl) rfl (Nat.le_refl 1) rfl) ?_
          refine Os.nil ⟨rfl, (by simp +decide only [put_some, put_none, List.length_set, hl]), (by simp +decide only [put_some, put_none, env_tmp, sl_ne, l0] <;> rfl), (by simp +decide only [put_some, put_none, env_tmp, sl_ne, l1] <;> rfl), (by simp +decide only [put_some, put_none, env_tmp, sl_ne, l5] <;> rfl), (by simp +decide only [put_some, put_none, env_tmp, sl_ne, l6] <;> rfl), (by simp +decide only [put_some, put_none, env_tmp, sl_ne, l7] <;> rfl), (by simp +decide only [put_some, put_none, env_tmp, sl_ne, l8] <;> rfl), (by simp +decide only [put_some, put_none, env_tmp, sl_ne, l22] <;> rfl), (by simp +decide only [put_some, put_none, env_tmp, sl_ne, l23] <;> rfl), (by simp +decide only [put_some, put_none, env_tmp, sl_ne, l24] <;> rfl), (by simp +decide only [put_some, put_none, env_tmp, sl_ne, l10] <;> rfl), ?_, ?_, .slice (some ⟨H1.next, 0, none⟩) ((pre F kind i).length + 1) 6, ?_⟩
          · show bf < H1.next + 1
            omega
          · rw [get_set, if_neg (by omega)]; exact gk _ _ (Ne.symm hbw) (by omega) hbf'
          · have hx2 : Ext H0 ((H1.kill bw).alloc (.cells ((pre F kind i).flatMap cl3 ++ cl3 (F i)) 51)) := (hm'.ext.kill (by omega)).trans (Ext.alloc _ _)
            refine ⟨hx2.set (by omega), ?_, ?_, ?_, by rw [get_set, if_pos rfl]; rfl, ?_, .inr ⟨H1.next, ?_, by omega, Nat.lt_succ_self _, ?_⟩⟩
            · show H0.next + 4 ≤ H1.next + 1
              omega
            · rw [get_set, if_neg (by omega)]; exact gk _ _ (by omega) (by omega) hm'.stop
            · rw [get_set, if_neg (by omega)]; exact gk _ _ (by omega) (by omega) hm'.res
            · rw [get_set, if_neg (by omega)]; exact gk _ _ (by omega) (by omega) hm'.there
            · rw [pre_yes hk]; simp
            · rw [get_set, if_neg (by omega)]
              rw [show H1.next = (H1.kill bw).next from rfl, AH.get_alloc_same, pre_yes hk]; simp
      · have hk : (F i).1 ≠ kind := of_decide_eq_false hk
        refine ⟨hm.ext, hm.nx, hm.stop, hm.res, hm.want, hm.there, ?_⟩
        unfold WantAt
        rw [pre_no hk]
        exact hm.row
    clear l0 l1 l5 l6 l7 l8 l22 l23 l24 l10 hl l hwb hm hbf hnx
    clear H wv
    rintro l H ⟨hl, l0, l1, l5, l6, l7, l8, l22, l23, l24, l10, hbn, hbf, wv, hm⟩
    refine W.cutN (fun l H => l.length = 97 ∧ sl l 0 = .slice a n c ∧ sl l 1 = .int .i64 kind ∧ sl l 5 = ptr H0.next 0 ∧ sl l 6 = ptr (H0.next + 1) 0 ∧ sl l 7 = ptr (H0.next + 2) 0 ∧ sl l 8 = ptr (H0.next + 3) 0 ∧
      sl l 22 = .slice a n c ∧ sl l 23 = nat1 n ∧ sl l 24 = nat1 i ∧ ∃ wv, M1 H0 H F kind stop (i + 1) (i + 1) wv) ?_ ?_
    rotate_left
    · clear l0 l1 l5 l6 l7 l8 l22 l23 l24 l10 hl l hm hbf hbn
      clear H wv
      rintro l H ⟨hl, l0, l1, l5, l6, l7, l8, l22, l23, l24, wv, hm⟩
      refine blk_n (on_n (W.region ?_))
      refine Os.op rfl rfl rfl (ev_bin (v := nat1 (i + 1)) (by rw [show envL _ (Operand.tmp 24) = _ from (by simp +decide only [env_tmp, l24] <;> rfl)]; exact (bin_add _ _ _ _ _ _ _ _).trans (by rw [wrap_i64 (by omega) (by omega)]; rfl))) ?_
      refine Os.op rfl rfl rfl (ev_move _) ?_
      exact Os.nil (on_n ⟨n - (i + 1), by omega, i + 1, rfl, by omega, (by simp +decide only [put_some, List.length_set, hl]), (by simp +decide only [put_some, env_tmp, sl_same, sl_ne, hl, l0] <;> rfl), (by simp +decide only [put_some, env_tmp, sl_same, sl_ne, hl, l1] <;> rfl), (by simp +decide only [put_some, env_tmp, sl_same, sl_ne, hl, l5] <;> rfl), (by simp +decide only [put_some, env_tmp, sl_same, sl_ne, hl, l6] <;> rfl), (by simp +decide only [put_some, env_tmp, sl_same, sl_ne, hl, l7] <;> rfl), (by simp +decide only [put_some, env_tmp, sl_same, sl_ne, hl, l8] <;> rfl), (by simp +decide only [put_some, env_tmp, sl_same, sl_ne, hl, l22] <;> rfl), (by simp +decide only [put_some, env_tmp, sl_same, sl_ne, hl, l23] <;> rfl), (by simp +decide only [put_some, env_tmp, sl_same, List.length_set, hl] <;> rfl), wv, hm⟩)
    refine W.seq (W.region ?_)
    refine Os.op rfl rfl rfl (ev_fieldAddr (by simp +decide only [env_tmp, l10] <;> rfl) o51) ?_
    refine Os.op rfl rfl rfl (ev_load (by simp +decide only [put_some, env_tmp, sl_same, hl] <;> rfl) hbf a3 rfl) ?_
    refine Os.op rfl rfl rfl (ev_bin (v := .bool (decide (1 ≤ (F i).1))) (by rw [show envL _ (Operand.tmp 37) = _ from (by simp +decide only [put_some, env_tmp, sl_same, List.length_set, hl] <;> rfl)]; exact bin_geq _ _ _ _ _ _ _ _)) ?_
    refine Os.op rfl rfl rfl (ev_move _) ?_
    by_cases h1 : 1 ≤ (F i).1
    · rw [decide_eq_true h1]
      refine Os.op (wanted_yes rfl rfl (by simp +decide only [put_some, List.length_set, hl]) (by simp +decide only [put_some, env_tmp, sl_same, List.length_set, hl] <;> rfl)) rfl rfl (ev_fieldAddr (by simp +decide only [put_some, env_tmp, sl_same, sl_ne, List.length_set, hl, l10] <;> rfl) o51) ?_
      refine Os.op (wanted_yes rfl rfl (by simp +decide only [put_some, List.length_set, hl]) (by simp +decide only [put_some, env_tmp, sl_same, sl_ne, List.length_set, hl] <;> rfl)) rfl rfl (ev_load (by simp +decide only [put_some, env_tmp, sl_same, List.length_set, hl] <;> rfl) hbf a3 rfl) ?_
      refine Os.op (wanted_yes rfl rfl (by simp +decide only [put_some, List.length_set, hl]) (by simp +decide only [put_some, env_tmp, sl_same, sl_ne, List.length_set, hl] <;> rfl)) rfl rfl (ev_bin (v := .bool (decide ((F i).1 ≤ 5))) (by rw [show envL _ (Operand.tmp 41) = _ from (by simp +decide only [put_some, env_tmp, sl_same, List.length_set, hl] <;> rfl)]; exact bin_leq _ _ _ _ _ _ _ _)) ?_
      refine Os.op rfl rfl rfl (ev_pick (t := true) (by simp +decide only [put_some, env_tmp, sl_same, sl_ne, List.length_set, hl] <;> rfl)) ?_
      refine Os.nil (on_n ?_)
      refine W.cond (t := decide ((F i).1 ≤ 5)) (by simp +decide only [put_some, env_tmp, env_const, sl_same, List.length_set, hl] <;> rfl) (fun h2 => W.region ?_) (fun h2 => W.skip ⟨rfl, (by simp +decide only [put_some, List.length_set, hl]), (by simp +decide only [put_some, env_tmp, env_const, sl_same, sl_ne, List.length_set, hl, l0] <;> rfl), (by simp +decide only [put_some, env_tmp, env_const, sl_same, sl_ne, List.length_set, hl, l1] <;> rfl), (by simp +decide only [put_some, env_tmp, env_const, sl_same, sl_ne, List.length_set, hl, l5] <;> rfl), (by simp +decide only [put_some, env_tmp, env_const, sl_same, sl_ne, List.length_set, hl, l6] <;> rfl), (by simp +decide only [put_some, env_tmp, env_const, sl_same, sl_ne, List.length_set, hl, l7] <;> rfl), (by simp +decide only [put_some, env_tmp, env_const, sl_same, sl_ne, List.length_set, hl, l8] <;> rfl), (by simp +decide only [put_some, env_tmp, env_const, sl_same, sl_ne, List.length_set, hl, l22] <;> rfl), (by simp +decide only [put_some, env_tmp, env_const, sl_same, sl_ne, List.length_set, hl, l23] <;> rfl), (by simp +decide only [put_some, env_tmp, env_const, sl_same, sl_ne, List.length_set, hl, l24] <;> rfl), wv, ?_⟩)
      · have h2 : (F i).1 ≤ 5 := of_decide_eq_true h2
        obtain ⟨j, hj⟩ : ∃ j : Nat, (F i).1 = j := ⟨(F i).1.toNat, by omega⟩
        obtain ⟨m, hmi, hmj, hmset⟩ := there_yes hj (by omega) (by omega)
        refine Os.op rfl rfl rfl (ev_fieldAddr (by simp +decide only [put_some, env_tmp, env_const, sl_same, sl_ne, List.length_set, hl, l10] <;> rfl) o51) ?_
        refine Os.op rfl rfl rfl (ev_load (by simp +decide only [put_some, env_tmp, env_const, sl_same, List.length_set, hl] <;> rfl) hbf a3 rfl) ?_
        refine Os.op rfl rfl rfl (ev_indexA t49 s3 (by simp +decide only [put_some, env_tmp, env_const, sl_same, sl_ne, List.length_set, hl, l8] <;> rfl) (k := .i64) (j := j) (by rw [show envL _ (Operand.tmp 45) = _ from (by simp +decide only [put_some, env_tmp, env_const, sl_same, List.length_set, hl] <;> rfl), hj]) (by omega)) ?_
        refine Os.op rfl rfl rfl (ev_load (v := nat1 m) (by simp +decide only [put_some, env_tmp, env_const, sl_same, List.length_set, hl] <;> rfl) hm.there a3 (by rw [Nat.zero_add, Nat.mul_one]; exact hmj)) ?_
        refine Os.op rfl rfl rfl (ev_bin (v := nat1 (m + 1)) (by rw [show envL _ (Operand.tmp 47) = _ from (by simp +decide only [put_some, env_tmp, env_const, sl_same, List.length_set, hl] <;> rfl)]; exact (bin_add _ _ _ _ _ _ _ _).trans (by rw [wrap_i64 (by omega) (by omega)]; rfl))) ?_
        refine Os.op rfl rfl rfl (ev_indexA t49 s3 (by simp +decide only [put_some, env_tmp, env_const, sl_same, sl_ne, List.length_set, hl, l8] <;> rfl) (k := .i64) (j := j) (by rw [show envL _ (Operand.tmp 45) = _ from (by simp +decide only [put_some, env_tmp, env_const, sl_same, sl_ne, List.length_set, hl] <;> rfl), hj]) (by omega)) ?_
        refine Os.op rfl rfl rfl (ev_store (vs := [nat1 (m + 1)]) (by simp +decide only [put_some, env_tmp, env_const, sl_same, List.length_set, hl] <;> rfl) hm.there s3 (by rw [show envL _ (Operand.tmp 48) = _ from (by simp +decide only [put_some, env_tmp, env_const, sl_same, sl_ne, List.length_set, hl] <;> rfl)]; rfl) rfl (by show 0 + j * 1 + 1 ≤ 6; omega) rfl) ?_
        have hnx := hm.nx
        refine Os.nil ⟨rfl, (by simp +decide only [put_some, put_none, List.length_set, hl]), (by simp +decide only [put_some, put_none, env_tmp, env_const, sl_same, sl_ne, List.length_set, hl, l0] <;> rfl), (by simp +decide only [put_some, put_none, env_tmp, env_const, sl_same, sl_ne, List.length_set, hl, l1] <;> rfl), (by simp +decide only [put_some, put_none, env_tmp, env_const, sl_same, sl_ne, List.length_set, hl, l5] <;> rfl), (by simp +decide only [put_some, put_none, env_tmp, env_const, sl_same, sl_ne, List.length_set, hl, l6] <;> rfl), (by simp +decide only [put_some, put_none, env_tmp, env_const, sl_same, sl_ne, List.length_set, hl, l7] <;> rfl), (by simp +decide only [put_some, put_none, env_tmp, env_const, sl_same, sl_ne, List.length_set, hl, l8] <;> rfl), (by simp +decide only [put_some, put_none, env_tmp, env_const, sl_same, sl_ne, List.length_set, hl, l22] <;> rfl), (by simp +decide only [put_some, put_none, env_tmp, env_const, sl_same, sl_ne, List.length_set, hl, l23] <;> rfl), (by simp +decide only [put_some, put_none, env_tmp, env_const, sl_same, sl_ne, List.length_set, hl, l24] <;> rfl), wv, ?_⟩
        rw [Nat.zero_add, Nat.mul_one, hmset]
        refine ⟨hm.ext.set (by omega), hm.nx, ?_, ?_, ?_, AH.get_set_same _ _ _, ?_⟩
        · rw [get_set, if_neg (by omega)]; exact hm.stop
        · rw [get_set, if_neg (by omega)]; exact hm.res
        · rw [get_set, if_neg (by omega)]; exact hm.want
        · rcases hm.row with h | ⟨bw, q1, q2, q3, q4⟩
          · exact .inl h
          · exact .inr ⟨bw, q1, q2, q3, by rw [get_set, if_neg (by omega)]; exact q4⟩
      · have h2 : ¬ (F i).1 ≤ 5 := of_decide_eq_false h2
        exact ⟨hm.ext, hm.nx, hm.stop, hm.res, hm.want, by rw [there_no (fun h => h2 h.2)]; exact hm.there, hm.row⟩
    · rw [decide_eq_false h1]
      refine Os.pass (wanted_no rfl rfl (by simp +decide only [put_some, List.length_set, hl]) (by simp +decide only [put_some, env_tmp, sl_same, List.length_set, hl] <;> rfl)) ?_
      refine Os.pass (wanted_no rfl rfl (by simp +decide only [put_some, List.length_set, hl]) (by simp +decide only [put_some, env_tmp, sl_same, sl_ne, List.length_set, hl] <;> rfl)) ?_
      refine Os.pass (wanted_no rfl rfl (by simp +decide only [put_some, List.length_set, hl]) (by simp +decide only [put_some, env_tmp, sl_same, sl_ne, List.length_set, hl] <;> rfl)) ?_
      refine Os.op rfl rfl rfl (ev_pick (t := false) (by simp +decide only [put_some, env_tmp, sl_same, sl_ne, List.length_set, hl] <;> rfl)) ?_
      refine Os.nil (on_n ?_)
      refine W.cond (t := false) (by simp +decide only [put_some, env_tmp, env_const, sl_same, List.length_set, hl] <;> rfl) (fun h => by cases h) (fun h2 => W.skip ⟨rfl, (by simp +decide only [put_some, List.length_set, hl]), (by simp +decide only [put_some, env_tmp, env_const, sl_same, sl_ne, List.length_set, hl, l0] <;> rfl), (by simp +decide only [put_some, env_tmp, env_const, sl_same, sl_ne, List.length_set, hl, l1] <;> rfl), (by simp +decide only [put_some, env_tmp, env_const, sl_same, sl_ne, List.length_set, hl, l5] <;> rfl), (by simp +decide only [put_some, env_tmp, env_const, sl_same, sl_ne, List.length_set, hl, l6] <;> rfl), (by simp +decide only [put_some, env_tmp, env_const, sl_same, sl_ne, List.length_set, hl, l7] <;> rfl), (by simp +decide only [put_some, env_tmp, env_const, sl_same, sl_ne, List.length_set, hl, l8] <;> rfl), (by simp +decide only [put_some, env_tmp, env_const, sl_same, sl_ne, List.length_set, hl, l22] <;> rfl), (by simp +decide only [put_some, env_tmp, env_const, sl_same, sl_ne, List.length_set, hl, l23] <;> rfl), (by simp +decide only [put_some, env_tmp, env_const, sl_same, sl_ne, List.length_set, hl, l24] <;> rfl), wv, ?_⟩)
      exact ⟨hm.ext, hm.nx, hm.stop, hm.res, hm.want, by rw [there_no (fun h => h1 h.1)]; exact hm.there, hm.row⟩
  · clear hm hset l0 l1 l5 l6 l20 hl hx hnx hst hrs l H
    rintro l H ⟨hl, l0, l1, l5, l6, l7, l8, wv, hm⟩
    have hN := hm.nx
    have hwb : ∀ bw m, wv = .slice (some ⟨bw, 0, none⟩) m 6 → bw < H.next := fun bw m hw => by
      rcases hm.row with ⟨_, h⟩ | ⟨b', h1, _, h3, _⟩
      · rw [hw] at h; cases h
      · rw [hw] at h1; cases h1; exact h3
    refine W.seq (W.region ?_)
    refine Os.op rfl rfl rfl (ev_alloc z3) ?_
    refine Os.op rfl rfl rfl (ev_store (vs := [nat1 0]) (by simp +decide only [put_some, env_tmp, sl_same, hl] <;> rfl) (AH.get_alloc_same H _) s3 rfl rfl (Nat.le_refl 1) rfl) ?_
    rw [alloc_set]
    have e1 : setMany [Value.int IntKind.i64 0] 0 [nat1 0] = [nat1 0] := rfl
    rw [e1]
    refine Os.nil (on_n ?_)
    refine W.seq (W.seq (W.region ?_))
    refine Os.op rfl rfl rfl (ev_move _) ?_
    refine Os.op rfl rfl rfl (ev_move _) ?_
    refine Os.call rfl rfl rfl (g := 13) (cap := #[]) rfl (args2 (u := .slice a n c) (v := .int .i64 kind) (by simp +decide only [put_some, put_none, env_tmp, sl_same, sl_ne, List.length_set, hl, l0] <;> rfl) (by simp +decide only [put_some, put_none, env_tmp, sl_same, sl_ne, List.length_set, hl, l1] <;> rfl)) ?_
    refine (of_fn hX13).mono ?_
    rintro v H' ⟨rfl, rfl⟩
    refine Os.nil (on_n ?_)
    refine W.abs (fun l => l.length = 97 ∧ sl l 0 = .slice a n c ∧ sl l 5 = ptr H0.next 0 ∧ sl l 6 = ptr (H0.next + 1) 0 ∧ sl l 7 = ptr (H0.next + 2) 0 ∧ sl l 8 = ptr (H0.next + 3) 0 ∧ sl l 11 = ptr H.next 0 ∧
      sl l 53 = .func (.func 49) #[] #[ptr (H.next + 1) 0, ptr (H.next + 2) 0]) ⟨(by simp +decide only [put_some, put_none, List.length_set, hl]), (by simp +decide only [put_some, put_none, env_tmp, sl_ne, l0] <;> rfl), (by simp +decide only [put_some, put_none, env_tmp, sl_ne, l5] <;> rfl), (by simp +decide only [put_some, put_none, env_tmp, sl_ne, l6] <;> rfl), (by simp +decide only [put_some, put_none, env_tmp, sl_ne, l7] <;> rfl), (by simp +decide only [put_some, put_none, env_tmp, sl_ne, l8] <;> rfl), (by simp +decide only [put_some, put_none, env_tmp, sl_same, sl_ne, hl] <;> rfl), (by simp +decide only [put_some, put_none, env_tmp, sl_same, sl_ne, List.length_set, hl, next_alloc] <;> rfl)⟩ ?_
    clear l0 l1 l5 l6 l7 l8 hl l
    rintro l ⟨hl, l0, l5, l6, l7, l8, l11, l53⟩
    refine W.absH (fun H2 => M1 H0 H2 F kind stop n n wv ∧ H2.next = H.next + 3 ∧ H2.get H.next = some (.cells [nat1 0] 3) ∧ H2.get (H.next + 1) = some (.cells [.slice a n c] 48) ∧ H2.get (H.next + 2) = some (.cells [.int .i64 kind] 3))
      ⟨hm.more (((Ext.alloc _ _).trans (Ext.alloc _ _)).trans (Ext.alloc _ _)), rfl,
        by rw [get_alloc, if_neg (by simp only [next_alloc]; omega), get_alloc, if_neg (by simp only [next_alloc]; omega)]; exact AH.get_alloc_same _ _, by rw [get_alloc, if_neg (by simp only [next_alloc]; omega)]; exact AH.get_alloc_same _ _, AH.get_alloc_same _ _⟩ ?_
    clear hm
    generalize H.next = b11 at hN hwb l11 l53
    clear H
    rintro H ⟨hm, hnx, hb11, hb1, hb2⟩
    refine W.cut (fun l H => l.length = 97 ∧ sl l 0 = .slice a n c ∧ sl l 5 = ptr H0.next 0 ∧ sl l 6 = ptr (H0.next + 1) 0 ∧ sl l 7 = ptr (H0.next + 2) 0 ∧ sl l 8 = ptr (H0.next + 3) 0 ∧ sl l 11 = ptr b11 0 ∧
      M1 H0 H F kind stop n n wv ∧ b11 < H.next ∧ ∃ m : Nat, H.get b11 = some (.cells [nat1 m] 3) ∧ (m = (pre F kind n).length ∨ (m : Int) = stop)) ?_ ?_
    · refine W.block (W.range rfl l53 ?_)
      generalize hasg : (Code.region 17 _ _) = asg
      generalize hbody : (Code.block 3 _) = body
      have hxb : Ext H (H.alloc (.loop .ready none l #[54] asg body)) := Ext.alloc _ _
      have hkk : (H.alloc (.loop .ready none l #[54] asg body)).get H.next = some (.loop .ready none l #[54] asg body) := AH.get_alloc_same _ _
      have hnb : (H.alloc (.loop .ready none l #[54] asg body)).next = H.next + 1 := rfl
      generalize H.alloc (.loop .ready none l #[54] asg body) = Hb at hxb hkk hnb
      generalize hkn : H.next = kk at hkk hnb hnx
      refine (of_loop hX49 (bs := b11 + 1) (bk := b11 + 2) (kind := kind) (F := F)
        (J := fun j H' => M1 H0 H' F kind stop n n wv ∧ kk < H'.next ∧ H'.get b11 = some (.cells [nat1 (pre F kind j).length] 3) ∧ H'.get (b11 + 2) = some (.cells [.int .i64 kind] 3) ∧ H'.get kk = some (.loop .ready none l #[54] asg body))
        (D := fun H' => M1 H0 H' F kind stop n n wv ∧ kk < H'.next ∧ (∃ m : Nat, H'.get b11 = some (.cells [nat1 m] 3) ∧ (m : Int) = stop) ∧ ∃ t p a b, H'.get kk = some (.loop .done (some (.exit 2)) t p a b))
        (by omega) (hxb.get (by omega) hb1) ⟨hm.more hxb, by omega, hxb.get (by omega) hb11, hxb.get (by omega) hb2, hkk⟩ ?_ ?_ ?_ ?_).mono ?_
      · rintro j H' ⟨hm', hk', g11, g2, gk⟩ hj
        obtain ⟨b0, o0, cs, e, q1, q2, q3, q4, q5⟩ := (hr.ext hm'.ext) j hj
        exact ⟨⟨b0, o0, cs, e, q1, q3, q4, q5⟩, 3, g2⟩
      · rintro j H' o ⟨hm', hk', g11, g2, gk⟩
        have hx := Ext.alloc H' o
        exact ⟨hm'.more hx, Nat.lt_succ_of_lt hk', hx.get (by omega) g11, hx.get (by omega) g2, hx.get (by omega) gk⟩
      · rintro j H' ⟨hm', hk', g11, g2, gk⟩ hj hne
        exact ⟨hm', hk', by rw [pre_no hne]; exact g11, g2, gk⟩
      · rintro j H' ⟨hm', hk', g11, g2, gk⟩ hj heq
        refine Y.body gk rfl ?_
        rw [show setArgs l ((#[54] : Array Tmp).toList.zip [Value.agg (cl3 (F j)).toArray]) = l.set 54 (Value.agg (cl3 (F j)).toArray) from rfl]
        rw [← hasg]
        refine W.region ?_
        rw [hasg]
        refine Os.op rfl rfl rfl (ev_alloc z51) ?_
        refine Os.op rfl rfl rfl (ev_store (vs := cl3 (F j)) (by simp +decide only [put_some, env_tmp, sl_same, List.length_set, hl] <;> rfl) (AH.get_alloc_same H' _) s51 (by rw [show envL _ (Operand.tmp 54) = _ from (by simp +decide only [put_some, env_tmp, sl_same, sl_ne, hl] <;> rfl)]; rfl) rfl (Nat.le_refl 3) rfl) ?_
        rw [alloc_set]
        have e0 : setMany [Value.int IntKind.i64 0, Value.int IntKind.i64 0, Value.int IntKind.i64 0] 0 (cl3 (F j)) = cl3 (F j) := rfl
        rw [e0]
        have hx := Ext.alloc H' (.cells (cl3 (F j)) 51)
        refine Os.nil ⟨rfl, none, l, #[54], asg, body, hx.get (by omega) gk, ?_⟩
        have hpj := pre_at hj heq
        have hpl := pre_le (F := F) (kind := kind) n
        refine W.abs (fun l => l.length = 97 ∧ sl l 5 = ptr H0.next 0 ∧ sl l 6 = ptr (H0.next + 1) 0 ∧ sl l 7 = ptr (H0.next + 2) 0 ∧ sl l 11 = ptr b11 0 ∧ sl l 12 = ptr H'.next 0) ⟨(by simp +decide only [put_some, put_none, List.length_set, hl]), (by simp +decide only [put_some, put_none, sl_ne, l5] <;> rfl), (by simp +decide only [put_some, put_none, sl_ne, l6] <;> rfl), (by simp +decide only [put_some, put_none, sl_ne, l7] <;> rfl), (by simp +decide only [put_some, put_none, sl_ne, l11] <;> rfl), (by simp +decide only [put_some, put_none, sl_same, List.length_set, hl] <;> rfl)⟩ ?_
        rintro l' ⟨hl, l5, l6, l7, l11, l12⟩
        refine W.absH (fun H2 => M1 H0 H2 F kind stop n n wv ∧ H2.next = H'.next + 1 ∧ H2.get H'.next = some (.cells (cl3 (F j)) 51) ∧ H2.get b11 = some (.cells [nat1 (pre F kind j).length] 3) ∧ H2.get (b11 + 2) = some (.cells [.int .i64 kind] 3) ∧ H2.get kk = some (.loop .busy none l #[54] asg body)) ?_ ?_
        · have g : ∀ b o, b ≠ kk → b < H'.next → H'.get b = some o → ((H'.alloc (.cells (cl3 (F j)) 51)).set kk (.loop .busy none l #[54] asg body)).get b = some o := fun b o h1 h2 h3 => by
            rw [get_set, if_neg h1]; exact hx.get h2 h3
          refine ⟨(hm'.more hx).set (by omega) (fun bw m hw => by have := hwb bw m hw; omega), rfl, ?_, g _ _ (by omega) (by omega) g11, g _ _ (by omega) (by omega) g2, AH.get_set_same _ _ _⟩
          rw [get_set, if_neg (by omega)]; exact AH.get_alloc_same _ _
        clear g11 g2 gk hm' hx
        generalize H'.next = b12 at l12 hk'
        clear H'
        rintro H' ⟨hm', hn', g12, g11, g2, gk⟩
        rcases hm'.row with ⟨hp, _⟩ | ⟨bw, hwv, q2, q3, q4⟩
        · rw [hp] at hpj; exact absurd hpj.1 (Nat.not_lt_zero _)
        have hbw := hwb _ _ hwv
        subst hwv
        have he3 : eqV (.agg (cl3 (F j)).toArray) (.agg (cl3 (F j)).toArray) = true := by simp [eqV, eqL, eq1, cl3]
        have hfl := flat_len (pre F kind n)
        generalize hm0 : (pre F kind j).length = m0 at g11 hpj
        generalize hM : (pre F kind n).length = M at hpl hpj hfl hwb
        rw [← hbody]
        refine W.block (W.seq (W.seq (W.still ?_)))
        rw [hbody]
        refine Ds.op rfl rfl rfl rfl (ev_load (by simp +decide only [env_tmp, l11] <;> rfl) g11 a3 rfl) (fun _ => ⟨eqV_int _ _, all1 (by rw [show envL _ (Operand.tmp 11) = _ from (by simp +decide only [env_tmp, l11] <;> rfl)]; exact below_ptr (by omega))⟩) ?_
        refine Ds.op rfl rfl rfl rfl (ev_load (by simp +decide only [put_some, env_tmp, sl_ne, l7] <;> rfl) hm'.want a48 rfl) (fun _ => ⟨eqV_slice _ _ _, all1 (by rw [show envL _ (Operand.tmp 7) = _ from (by simp +decide only [put_some, env_tmp, sl_ne, l7] <;> rfl)]; exact below_ptr (by omega))⟩) ?_
        refine Ds.op rfl rfl rfl rfl (ev_len rfl t48 (by simp +decide only [put_some, env_tmp, sl_same, List.length_set, hl] <;> rfl)) (fun _ => ⟨eqV_int _ _, all1 (x := .tmp 56) (by rw [show envL _ (Operand.tmp 56) = _ from (by simp +decide only [put_some, env_tmp, sl_same, List.length_set, hl] <;> rfl)]; exact below_slice (by omega))⟩) ?_
        refine Ds.op rfl rfl rfl rfl (ev_bin (v := .bool false) (by rw [show envL _ (Operand.tmp 55) = _ from (by simp +decide only [put_some, env_tmp, sl_same, sl_ne, hl] <;> rfl), show envL _ (Operand.tmp 57) = _ from (by simp +decide only [put_some, env_tmp, sl_same, List.length_set, hl] <;> rfl)]; exact (bin_geq _ _ _ _ _ _ _ _).trans (by rw [hM, decide_eq_false (by omega)]))) (fun h => by cases h) ?_
        refine Ds.op rfl rfl rfl rfl (ev_move _) (fun h => by cases h) ?_
        refine Ds.op (wanted_yes rfl rfl (by simp +decide only [put_some, List.length_set, hl]) (by simp +decide only [put_some, env_tmp, sl_same, List.length_set, hl] <;> rfl)) rfl rfl rfl (ev_load (by simp +decide only [put_some, env_tmp, sl_same, sl_ne, List.length_set, hl, l7] <;> rfl) hm'.want a48 rfl) (fun _ => ⟨eqV_slice _ _ _, all1 (by rw [show envL _ (Operand.tmp 7) = _ from (by simp +decide only [put_some, env_tmp, sl_same, sl_ne, List.length_set, hl, l7] <;> rfl)]; exact below_ptr (by omega))⟩) ?_
        refine Ds.op (wanted_yes rfl rfl (by simp +decide only [put_some, List.length_set, hl]) (by simp +decide only [put_some, env_tmp, sl_same, sl_ne, List.length_set, hl] <;> rfl)) rfl rfl rfl (ev_load (by simp +decide only [put_some, env_tmp, sl_same, sl_ne, List.length_set, hl, l11] <;> rfl) g11 a3 rfl) (fun _ => ⟨eqV_int _ _, all1 (by rw [show envL _ (Operand.tmp 11) = _ from (by simp +decide only [put_some, env_tmp, sl_same, sl_ne, List.length_set, hl, l11] <;> rfl)]; exact below_ptr (by omega))⟩) ?_
        refine Ds.op (wanted_yes rfl rfl (by simp +decide only [put_some, List.length_set, hl]) (by simp +decide only [put_some, env_tmp, sl_same, sl_ne, List.length_set, hl] <;> rfl)) rfl rfl rfl (ev_indexS t48 s51 (by simp +decide only [put_some, env_tmp, sl_same, sl_ne, List.length_set, hl] <;> rfl) (j := m0) (by simp +decide only [put_some, env_tmp, sl_same, List.length_set, hl, nat1] <;> rfl) (by omega)) (fun h => by cases h) ?_
        refine Ds.op (wanted_yes rfl rfl (by simp +decide only [put_some, List.length_set, hl]) (by simp +decide only [put_some, env_tmp, sl_same, sl_ne, List.length_set, hl] <;> rfl)) rfl rfl rfl (ev_loadA (vs := cl3 (F j)) (by simp +decide only [put_some, env_tmp, sl_same, List.length_set, hl] <;> rfl) q4 a51 s51 (by omega) (by rw [Nat.zero_add]; exact hpj.2)) (fun _ => ⟨he3, all1 (by rw [show envL _ (Operand.tmp 62) = _ from (by simp +decide only [put_some, env_tmp, sl_same, List.length_set, hl] <;> rfl)]; exact below_ptr (by omega))⟩) ?_
        refine Ds.op (wanted_yes rfl rfl (by simp +decide only [put_some, List.length_set, hl]) (by simp +decide only [put_some, env_tmp, sl_same, sl_ne, List.length_set, hl] <;> rfl)) rfl rfl rfl (ev_loadA (vs := cl3 (F j)) (by simp +decide only [put_some, env_tmp, sl_same, sl_ne, List.length_set, hl, l12] <;> rfl) g12 a51 s51 (Nat.le_refl 3) rfl) (fun _ => ⟨he3, all1 (by rw [show envL _ (Operand.tmp 12) = _ from (by simp +decide only [put_some, env_tmp, sl_same, sl_ne, List.length_set, hl, l12] <;> rfl)]; exact below_ptr (by omega))⟩) ?_
        refine Ds.op (wanted_yes rfl rfl (by simp +decide only [put_some, List.length_set, hl]) (by simp +decide only [put_some, env_tmp, sl_same, sl_ne, List.length_set, hl] <;> rfl)) rfl rfl rfl (ev_bin (v := .bool false) (by rw [show envL _ (Operand.tmp 63) = _ from (by simp +decide only [put_some, env_tmp, sl_same, sl_ne, List.length_set, hl] <;> rfl), show envL _ (Operand.tmp 64) = _ from (by simp +decide only [put_some, env_tmp, sl_same, List.length_set, hl] <;> rfl)]; exact neq51 _ _ _)) (fun h => by cases h) ?_
        refine Ds.op rfl rfl rfl rfl (ev_pick (t := false) (by simp +decide only [put_some, env_tmp, sl_same, sl_ne, List.length_set, hl] <;> rfl)) (fun h => by cases h) ?_
        refine Ds.nil (on_n ?_)
        refine W.cond (t := false) (by simp +decide only [put_some, env_tmp, env_const, sl_same, List.length_set, hl] <;> rfl) (fun h => by cases h) (fun _ => W.skip (on_n ?_))
        refine W.seq (W.region ?_)
        refine Os.op rfl rfl rfl (ev_load (by simp +decide only [put_some, env_tmp, env_const, sl_same, sl_ne, List.length_set, hl, l11] <;> rfl) g11 a3 rfl) ?_
        refine Os.op rfl rfl rfl (ev_bin (v := nat1 (m0 + 1)) (by rw [show envL _ (Operand.tmp 67) = _ from (by simp +decide only [put_some, env_tmp, env_const, sl_same, List.length_set, hl] <;> rfl)]; exact (bin_add _ _ _ _ _ _ _ _).trans (by rw [wrap_i64 (by omega) (by omega)]; rfl))) ?_
        refine Os.op rfl rfl rfl (ev_store (vs := [nat1 (m0 + 1)]) (by simp +decide only [put_some, env_tmp, env_const, sl_same, sl_ne, List.length_set, hl, l11] <;> rfl) g11 s3 (by rw [show envL _ (Operand.tmp 68) = _ from (by simp +decide only [put_some, env_tmp, env_const, sl_same, List.length_set, hl] <;> rfl)]; rfl) rfl (Nat.le_refl 1) rfl) ?_
        have e2 : setMany [nat1 m0] 0 [nat1 (m0 + 1)] = [nat1 (m0 + 1)] := rfl
        rw [e2]
        refine Os.nil (on_n ?_)
        have g : ∀ b o, b ≠ b11 → H'.get b = some o → (H'.set b11 (.cells [nat1 (m0 + 1)] 3)).get b = some o := fun b o h1 h3 => by
          rw [get_set, if_neg h1]; exact h3
        have gs := g _ _ (by omega) hm'.stop
        have gb2 := g _ _ (by omega) g2
        have gkk := g _ _ (by omega) gk
        have g11' := AH.get_set_same H' (.cells [nat1 (m0 + 1)] 3) b11
        have hm2 : M1 H0 (H'.set b11 (.cells [nat1 (m0 + 1)] 3)) F kind stop n n (.slice (some ⟨bw, 0, none⟩) M 6) := by
          rw [← hM]
          rw [← hM] at hwb
          exact hm'.set (by omega) (fun bw' m hw => by cases hw; omega)
        have hnx2 : (H'.set b11 (.cells [nat1 (m0 + 1)] 3)).next = b12 + 1 := hn'
        generalize H'.set b11 (.cells [nat1 (m0 + 1)] 3) = H2 at gs gb2 gkk g11' hm2 hnx2
        refine W.seq (W.region ?_)
        refine Os.op rfl rfl rfl (ev_load (by simp +decide only [put_some, put_none, env_tmp, env_const, sl_same, sl_ne, List.length_set, hl, l11] <;> rfl) g11' a3 rfl) ?_
        refine Os.op rfl rfl rfl (ev_load (by simp +decide only [put_some, put_none, env_tmp, env_const, sl_same, sl_ne, List.length_set, hl, l5] <;> rfl) gs a3 rfl) ?_
        refine Os.op rfl rfl rfl (ev_bin (v := .bool (decide (((m0 + 1 : Nat) : Int) = stop))) (by rw [show envL _ (Operand.tmp 69) = _ from (by simp +decide only [put_some, put_none, env_tmp, env_const, sl_same, sl_ne, List.length_set, hl] <;> rfl), show envL _ (Operand.tmp 70) = _ from (by simp +decide only [put_some, put_none, env_tmp, env_const, sl_same, List.length_set, hl] <;> rfl)]; exact bin_eql _ _ _ _ _ _ _ _)) ?_
        refine Os.nil (on_n ?_)
        refine W.cond (by simp +decide only [put_some, put_none, env_tmp, env_const, sl_same, List.length_set, hl] <;> rfl) (fun hs => W.exit (blk_o (by decide) ⟨.busy, none, l, #[54], asg, body, gkk, .inr ⟨rfl, ?_⟩⟩)) (fun hs => W.skip (blk_n ⟨.busy, none, l, #[54], asg, body, gkk, .inl ⟨rfl, ?_⟩⟩))
        · refine ⟨hm2.set (by omega) (fun bw' m hw => by cases hw; omega), by show kk < H2.next; omega, ⟨m0 + 1, by rw [get_set, if_neg (by omega)]; exact g11', of_decide_eq_true hs⟩, _, _, _, _, AH.get_set_same _ _ _⟩
        · refine ⟨hm2.set (by omega) (fun bw' m hw => by cases hw; omega), by show kk < H2.next; omega, ?_, by rw [get_set, if_neg (by omega)]; exact gb2, AH.get_set_same _ _ _⟩
          rw [get_set, if_neg (by omega), pre_yes heq, List.length_append, hm0]; exact g11'
      · rintro v H' (⟨hm', hk', g11, g2, gk⟩ | ⟨hm', hk', ⟨m, g11, hms⟩, t, p, a', b', gk⟩)
        · refine ⟨.ready, none, l, #[54], asg, body, gk, by simp, ?_⟩
          refine blk_n ⟨rfl, hl, l0, l5, l6, l7, l8, l11, hm'.set (by omega) (fun bw m hw => by have := hwb bw m hw; omega), by show b11 < H'.next; omega, _, by rw [get_set, if_neg (by omega)]; exact g11, .inl rfl⟩
        · refine ⟨.done, some (.exit 2), t, p, a', b', gk, by simp, ?_⟩
          refine blk_x ⟨rfl, hl, l0, l5, l6, l7, l8, l11, hm'.set (by omega) (fun bw m hw => by have := hwb bw m hw; omega), by show b11 < H'.next; omega, _, by rw [get_set, if_neg (by omega)]; exact g11, .inr hms⟩
    · clear hm hnx hb11 hb1 hb2 l0 l5 l6 l7 l8 l11 l53 hl
      clear l H
      rintro l H ⟨hl, l0, l5, l6, l7, l8, l11, hm, hb11n, m, hb11, hmm⟩
      refine W.seq (W.region ?_)
      refine Os.op rfl rfl rfl (ev_assign _) ?_
      refine Os.nil (on_n ?_)
      refine W.seq (W.seq (W.region ?_))
      refine Os.op rfl rfl rfl (ev_build rfl kinds_up) ?_
      refine Os.op rfl rfl rfl (ev_move _) ?_
      refine Os.nil (on_n ?_)
      refine W.cut (fun l H => l.length = 97 ∧ sl l 0 = .slice a n c ∧ sl l 5 = ptr H0.next 0 ∧ sl l 6 = ptr (H0.next + 1) 0 ∧ sl l 7 = ptr (H0.next + 2) 0 ∧ sl l 11 = ptr b11 0 ∧
        M1 H0 H F kind stop n n wv ∧ b11 < H.next ∧ H.get b11 = some (.cells [nat1 m] 3) ∧ ∃ w, sl l 13 = .int .i64 w ∧ LastOf F n 5 w) ?_ ?_
      · refine W.block ?_
        refine W.loop_inv (fun d l H => ∃ i, d = 5 - i ∧ i ≤ 5 ∧ l.length = 97 ∧ sl l 0 = .slice a n c ∧ sl l 5 = ptr H0.next 0 ∧ sl l 6 = ptr (H0.next + 1) 0 ∧ sl l 7 = ptr (H0.next + 2) 0 ∧ sl l 8 = ptr (H0.next + 3) 0 ∧ sl l 11 = ptr b11 0 ∧
          sl l 72 = .agg #[nat1 4, nat1 5, nat1 1, nat1 3, nat1 2] ∧ sl l 73 = nat1 i ∧
          M1 H0 H F kind stop n n wv ∧ b11 < H.next ∧ H.get b11 = some (.cells [nat1 m] 3) ∧ ∃ w, sl l 13 = .int .i64 w ∧ LastOf F n i w) ?_ 5 _ _
          ⟨0, by omega, by omega, (by simp +decide only [put_some, List.length_set, hl]), (by simp +decide only [put_some, env_const, sl_ne, l0] <;> rfl), (by simp +decide only [put_some, env_const, sl_ne, l5] <;> rfl), (by simp +decide only [put_some, env_const, sl_ne, l6] <;> rfl), (by simp +decide only [put_some, env_const, sl_ne, l7] <;> rfl), (by simp +decide only [put_some, env_const, sl_ne, l8] <;> rfl), (by simp +decide only [put_some, env_const, sl_ne, l11] <;> rfl), (by simp +decide only [put_some, env_const, sl_same, sl_ne, List.length_set, hl] <;> rfl), (by simp +decide only [put_some, env_const, sl_same, List.length_set, hl, nat1] <;> rfl), hm, hb11n, hb11, 0, (by simp +decide only [put_some, env_const, sl_same, sl_ne, hl] <;> rfl), .inr ⟨rfl, fun i' h => absurd h (Nat.not_lt_zero _)⟩⟩
        clear hm hb11n hb11 l0 l5 l6 l7 l8 l11 hl l H
        rintro d l H ⟨i, hd, hi, hl, l0, l5, l6, l7, l8, l11, l72, l73, hm, hb11n, hb11, w, l13, hw⟩
        refine W.seq (W.region ?_)
        refine Os.op rfl rfl rfl (ev_bin (v := .bool (decide (i < 5))) (by rw [env_tmp, l73]; exact bin_lss_nat _ _)) ?_
        refine Os.nil (on_n ?_)
        refine W.seq (W.cond (by simp +decide only [put_some, env_tmp, sl_same, hl] <;> rfl) (fun ht => W.skip (on_n ?_)) (fun hf => W.exit (on_x (on_x (blk_x ⟨rfl, ?_⟩)))))
        rotate_left
        · have : i = 5 := by
            have := of_decide_eq_false hf
            omega
          subst this
          exact ⟨(by simp +decide only [put_some, List.length_set, hl]), (by simp +decide only [put_some, sl_ne, l0] <;> rfl), (by simp +decide only [put_some, sl_ne, l5] <;> rfl), (by simp +decide only [put_some, sl_ne, l6] <;> rfl), (by simp +decide only [put_some, sl_ne, l7] <;> rfl), (by simp +decide only [put_some, sl_ne, l11] <;> rfl), hm, hb11n, hb11, w, (by simp +decide only [put_some, sl_ne, l13] <;> rfl), hw⟩
        have hin : i < 5 := of_decide_eq_true ht
        clear ht
        obtain ⟨hk6, hth⟩ := kN_there F n i hin
        have hrow : (#[nat1 4, nat1 5, nat1 1, nat1 3, nat1 2] : Array Value).toList[i * 1]? = some (nat1 (kN i)) := by
          match i, hin with
          | 0, _ => rfl
          | 1, _ => rfl
          | 2, _ => rfl
          | 3, _ => rfl
          | 4, _ => rfl
        refine W.seq (W.cut (fun l H => l.length = 97 ∧ sl l 0 = .slice a n c ∧ sl l 5 = ptr H0.next 0 ∧ sl l 6 = ptr (H0.next + 1) 0 ∧ sl l 7 = ptr (H0.next + 2) 0 ∧ sl l 8 = ptr (H0.next + 3) 0 ∧ sl l 11 = ptr b11 0 ∧
          sl l 72 = .agg #[nat1 4, nat1 5, nat1 1, nat1 3, nat1 2] ∧ sl l 73 = nat1 i ∧
          M1 H0 H F kind stop n n wv ∧ b11 < H.next ∧ H.get b11 = some (.cells [nat1 m] 3) ∧ ∃ w, sl l 13 = .int .i64 w ∧ LastOf F n (i + 1) w) ?_ ?_)
        · refine W.block (W.seq (W.region ?_))
          refine Os.op rfl rfl rfl (ev_index t55 s3 a3 (by simp +decide only [put_some, env_tmp, sl_ne, l72] <;> rfl) (j := i) (by simp +decide only [put_some, env_tmp, sl_ne, l73, nat1] <;> rfl) hin hrow) ?_
          refine Os.op rfl rfl rfl (ev_assign _) ?_
          refine Os.nil (on_n ?_)
          refine W.seq (W.region ?_)
          refine Os.op rfl rfl rfl (ev_move _) ?_
          refine Os.op rfl rfl rfl (ev_indexA t49 s3 (by simp +decide only [put_some, env_tmp, sl_same, sl_ne, List.length_set, hl, l8] <;> rfl) (k := .i64) (j := kN i) (by simp +decide only [put_some, env_tmp, sl_same, List.length_set, hl] <;> rfl) hk6) ?_
          refine Os.op rfl rfl rfl (ev_load (by simp +decide only [put_some, env_tmp, sl_same, List.length_set, hl] <;> rfl) hm.there a3 (by rw [Nat.zero_add, Nat.mul_one]; exact hth)) ?_
          refine Os.op rfl rfl rfl (ev_bin (v := .bool (decide (0 < cnt F (kN i) n))) (by rw [show envL _ (Operand.tmp 78) = _ from (by simp +decide only [put_some, env_tmp, sl_same, List.length_set, hl] <;> rfl)]; refine (bin_gtr _ _ _ _ _ _ _ _).trans ?_; congr 2; rw [Bool.eq_iff_iff]; simp)) ?_
          refine Os.nil (on_n ?_)
          refine W.cond (by simp +decide only [put_some, env_tmp, sl_same, List.length_set, hl] <;> rfl) (fun hc => W.region ?_) (fun hc => W.skip (blk_n ⟨rfl, (by simp +decide only [put_some, List.length_set, hl]), (by simp +decide only [put_some, env_tmp, sl_same, sl_ne, List.length_set, hl, l0] <;> rfl), (by simp +decide only [put_some, env_tmp, sl_same, sl_ne, List.length_set, hl, l5] <;> rfl), (by simp +decide only [put_some, env_tmp, sl_same, sl_ne, List.length_set, hl, l6] <;> rfl), (by simp +decide only [put_some, env_tmp, sl_same, sl_ne, List.length_set, hl, l7] <;> rfl), (by simp +decide only [put_some, env_tmp, sl_same, sl_ne, List.length_set, hl, l8] <;> rfl), (by simp +decide only [put_some, env_tmp, sl_same, sl_ne, List.length_set, hl, l11] <;> rfl), (by simp +decide only [put_some, env_tmp, sl_same, sl_ne, List.length_set, hl, l72] <;> rfl), (by simp +decide only [put_some, env_tmp, sl_same, sl_ne, List.length_set, hl, l73] <;> rfl), hm, hb11n, hb11, w, (by simp +decide only [put_some, env_tmp, sl_same, sl_ne, List.length_set, hl, l13] <;> rfl), hw.no ?_⟩))
          · refine Os.op rfl rfl rfl (ev_move _) ?_
            refine Os.op rfl rfl rfl (ev_assign _) ?_
            exact Os.nil (blk_n ⟨rfl, (by simp +decide only [put_some, List.length_set, hl]), (by simp +decide only [put_some, env_tmp, sl_same, sl_ne, List.length_set, hl, l0] <;> rfl), (by simp +decide only [put_some, env_tmp, sl_same, sl_ne, List.length_set, hl, l5] <;> rfl), (by simp +decide only [put_some, env_tmp, sl_same, sl_ne, List.length_set, hl, l6] <;> rfl), (by simp +decide only [put_some, env_tmp, sl_same, sl_ne, List.length_set, hl, l7] <;> rfl), (by simp +decide only [put_some, env_tmp, sl_same, sl_ne, List.length_set, hl, l8] <;> rfl), (by simp +decide only [put_some, env_tmp, sl_same, sl_ne, List.length_set, hl, l11] <;> rfl), (by simp +decide only [put_some, env_tmp, sl_same, sl_ne, List.length_set, hl, l72] <;> rfl), (by simp +decide only [put_some, env_tmp, sl_same, sl_ne, List.length_set, hl, l73] <;> rfl), hm, hb11n, hb11, _, (by simp +decide only [put_some, env_tmp, sl_same, sl_ne, List.length_set, hl, nat1] <;> rfl), .yes ((cnt_pos n).1 (of_decide_eq_true hc))⟩)
          · intro h
            exact of_decide_eq_false hc ((cnt_pos n).2 h)
        · clear hm hb11n hb11 l0 l5 l6 l7 l8 l11 l72 l73 hl hw l13 l H w
          rintro l H ⟨hl, l0, l5, l6, l7, l8, l11, l72, l73, hm, hb11n, hb11, w, l13, hw⟩
          refine W.region ?_
          refine Os.op rfl rfl rfl (ev_bin (v := nat1 (i + 1)) (by rw [show envL _ (Operand.tmp 73) = _ from (by simp +decide only [env_tmp, l73] <;> rfl)]; exact (bin_add _ _ _ _ _ _ _ _).trans (by rw [wrap_i64 (by omega) (by omega)]; rfl))) ?_
          refine Os.op rfl rfl rfl (ev_move _) ?_
          exact Os.nil (on_n ⟨5 - (i + 1), by omega, i + 1, rfl, by omega, (by simp +decide only [put_some, List.length_set, hl]), (by simp +decide only [put_some, env_tmp, sl_same, sl_ne, hl, l0] <;> rfl), (by simp +decide only [put_some, env_tmp, sl_same, sl_ne, hl, l5] <;> rfl), (by simp +decide only [put_some, env_tmp, sl_same, sl_ne, hl, l6] <;> rfl), (by simp +decide only [put_some, env_tmp, sl_same, sl_ne, hl, l7] <;> rfl), (by simp +decide only [put_some, env_tmp, sl_same, sl_ne, hl, l8] <;> rfl), (by simp +decide only [put_some, env_tmp, sl_same, sl_ne, hl, l11] <;> rfl), (by simp +decide only [put_some, env_tmp, sl_same, sl_ne, hl, l72] <;> rfl), (by simp +decide only [put_some, env_tmp, sl_same, List.length_set, hl] <;> rfl), hm, hb11n, hb11, w, (by simp +decide only [put_some, env_tmp, sl_same, sl_ne, hl, l13] <;> rfl), hw⟩)
      · clear hm hb11n hb11 l0 l5 l6 l7 l8 l11 hl l H
        rintro l H ⟨hl, l0, l5, l6, l7, l11, hm, hb11n, hb11, w, l13, hw⟩
        have hlenM : ∃ a' c', wv = .slice a' (pre F kind n).length c' := by
          rcases hm.row with ⟨h1, h2⟩ | ⟨bw, h1, _⟩
          · exact ⟨none, 0, by rw [h1]; exact h2⟩
          · exact ⟨_, _, h1⟩
        obtain ⟨a', c', hwv⟩ := hlenM
        generalize hM : (pre F kind n).length = M at hmm hwv
        refine W.seq (W.region ?_)
        refine Os.op rfl rfl rfl (ev_load (by simp +decide only [env_tmp, l11] <;> rfl) hb11 a3 rfl) ?_
        refine Os.op rfl rfl rfl (ev_load (by simp +decide only [put_some, env_tmp, sl_ne, l7] <;> rfl) hm.want a48 rfl) ?_
        refine Os.op rfl rfl rfl (ev_len rfl t48 (x := .tmp 83) (a := a') (n := M) (c := c') (by rw [← hwv]; exact (by simp +decide only [put_some, env_tmp, sl_same, List.length_set, hl] <;> rfl))) ?_
        refine Os.op rfl rfl rfl (ev_bin (v := .bool (decide (m = M))) (by rw [show envL _ (Operand.tmp 82) = _ from (by simp +decide only [put_some, env_tmp, sl_same, sl_ne, hl] <;> rfl), show envL _ (Operand.tmp 84) = _ from (by simp +decide only [put_some, env_tmp, sl_same, List.length_set, hl] <;> rfl)]; exact bin_eql_nat _ _)) ?_
        refine Os.op rfl rfl rfl (ev_move _) ?_
        refine Os.maybe (v0 := nat1 m) (wanted_is (b := decide (m = M)) rfl rfl (by simp +decide only [put_some, env_tmp, sl_same, List.length_set, hl] <;> rfl) (by simp +decide only [put_some, List.length_set, hl])) rfl rfl (fun _ => ev_load (by simp +decide only [put_some, env_tmp, sl_same, sl_ne, List.length_set, hl, l11] <;> rfl) hb11 a3 rfl) (fun v1 hv1 => ?_)
        refine Os.maybe (v0 := .int .i64 stop) (wanted_is (b := decide (m = M)) rfl rfl (by simp +decide only [put_some, env_tmp, sl_same, sl_ne, List.length_set, hl] <;> rfl) (by simp +decide only [put_some, List.length_set, hl])) rfl rfl (fun _ => ev_load (by simp +decide only [put_some, env_tmp, sl_same, sl_ne, List.length_set, hl, l5] <;> rfl) hm.stop a3 rfl) (fun v2 hv2 => ?_)
        refine Os.maybe (v0 := .bool true) (wanted_is (b := decide (m = M)) rfl rfl (by simp +decide only [put_some, env_tmp, sl_same, sl_ne, List.length_set, hl] <;> rfl) (by simp +decide only [put_some, List.length_set, hl])) rfl rfl (fun hb => ?_) (fun v3 hv3 => ?_)
        · rw [hv1 hb, hv2 hb]
          refine ev_bin ?_
          rw [show envL _ (Operand.tmp 87) = _ from (by simp +decide only [put_some, env_tmp, sl_same, sl_ne, List.length_set, hl] <;> rfl), show envL _ (Operand.tmp 88) = _ from (by simp +decide only [put_some, env_tmp, sl_same, List.length_set, hl] <;> rfl)]
          refine (bin_eql _ _ _ _ _ _ _ _).trans ?_
          rcases hmm with h | h
          · rw [decide_eq_true h] at hb; cases hb
          · rw [decide_eq_true h]
        have hv3' : (if decide (m = M) then Value.bool true else v3) = .bool true := by
          by_cases h : m = M
          · rw [decide_eq_true h]; rfl
          · rw [decide_eq_false h]
            exact hv3 (by rw [decide_eq_false h]; rfl)
        refine Os.op rfl rfl rfl (v := .bool true) ((ev_pick (t := decide (m = M)) (by simp +decide only [put_some, env_tmp, sl_same, sl_ne, List.length_set, hl] <;> rfl)).trans (by rw [show envL _ (Operand.tmp 89) = v3 from (by simp +decide only [put_some, env_tmp, sl_same, List.length_set, hl] <;> rfl), env_const, hv3'])) ?_
        refine Os.op rfl rfl rfl (ev_move _) ?_
        refine Os.op (wanted_yes rfl rfl (by simp +decide only [put_some, List.length_set, hl]) (by simp +decide only [put_some, env_tmp, sl_same, List.length_set, hl] <;> rfl)) rfl rfl (ev_move _) ?_
        refine Os.call rfl (wanted_yes rfl rfl (by simp +decide only [put_some, List.length_set, hl]) (by simp +decide only [put_some, env_tmp, sl_same, sl_ne, List.length_set, hl] <;> rfl)) rfl (g := 14) (cap := #[]) rfl (args1 (v := .slice a n c) (by simp +decide only [put_some, env_tmp, sl_same, sl_ne, List.length_set, hl, l0] <;> rfl)) ?_
        refine (worst_fn hX14 hX13 hX49 (by omega) (hr.ext hm.ext)).mono ?_
        rintro v H' ⟨hx, w', rfl, hw'⟩
        obtain rfl := worst_last hw' hw
        have hm2 := hm.more hx
        have hnx2 := hm2.nx
        refine Os.op (wanted_yes rfl rfl (by simp +decide only [put_some, List.length_set, hl]) (by simp +decide only [put_some, env_tmp, sl_same, sl_ne, List.length_set, hl] <;> rfl)) rfl rfl (ev_move _) ?_
        refine Os.op (wanted_yes rfl rfl (by simp +decide only [put_some, List.length_set, hl]) (by simp +decide only [put_some, env_tmp, sl_same, sl_ne, List.length_set, hl] <;> rfl)) rfl rfl (ev_bin (v := .bool true) (by rw [show envL _ (Operand.tmp 93) = _ from (by simp +decide only [put_some, env_tmp, sl_same, sl_ne, List.length_set, hl] <;> rfl), show envL _ (Operand.tmp 94) = _ from (by simp +decide only [put_some, env_tmp, sl_same, sl_ne, List.length_set, hl, l13] <;> rfl)]; exact bin_eql_yes rfl)) ?_
        refine Os.op rfl rfl rfl (ev_pick (t := true) (by simp +decide only [put_some, env_tmp, sl_same, sl_ne, List.length_set, hl] <;> rfl)) ?_
        refine Os.op rfl rfl rfl (ev_store (vs := [.bool true]) (by simp +decide only [put_some, env_tmp, env_const, sl_same, sl_ne, List.length_set, hl, l6] <;> rfl) hm2.res s4 (by rw [show envL _ (Operand.tmp 96) = _ from (by simp +decide only [put_some, env_tmp, env_const, sl_same, sl_ne, List.length_set, hl] <;> rfl)]; rfl) rfl (Nat.le_refl 1) rfl) ?_
        exact Os.nil (on_n (W.ret ⟨fun i => by simp, [.bool true], res_cell (by simp +decide only [put_some, put_none, env_tmp, env_const, sl_same, sl_ne, List.length_set, hl, l6] <;> rfl) (AH.get_set_same _ _ _) a4 rfl rfl, rfl, hm2.ext.set (by omega)⟩))
end
end Go.Ak
