/- A queue's Put and Take: one case of a select, and its default. -/
import Derived.Test.YtaoaddokgofifaaGreatChecked
import Derived.Conc.LoneSelect
import Derived.KernelRfl
import Derived.Laws.Rows
import Derived.Laws.Runes
import Derived.Laws.Tables
namespace Go.Pr
open Go Go.Proofs Go.Conc Go.RowKit

set_option maxRecDepth 100000 in
theorem put_room (B O c cap s r : Nat) (buf : Array Value) (n : Int) (w : World) (hq : w.cell? ⟨B, O, none⟩ = some (.chan (some c))) (hc : w.heap[c]? = some (.chan cap buf false s r false)) (hroom : buf.size < cap) :
    Calls Tryz.prog 224 #[.pointer (some ⟨B, O, none⟩), .int .i64 n] w fun e w' => e = .returned (.int .i64 0) ∧ w' = w.setChan c cap (buf.push (.int .i64 n)) false (s + 1) r false := by
  refine calls_of_loneTo fun cs => ?_
  have e : Frame.enter Tryz.prog 224 #[.pointer (some ⟨B, O, none⟩), .int .i64 n] .normal = (base 224).at ⟨#[.pointer (some ⟨B, O, none⟩), .int .i64 n, undef, undef, undef, undef, undef, undef, undef, undef, undef, undef, undef], []⟩ [.code (Tryz.f224.body.getD .skip)] := by
    simp [Frame.enter, Frame.at, Tryz.func224, base, Tryz.f224]
  rw [e]
  refine LoneTo.goes (n := 18) ?_
  simp only [Tryz.f224, Option.getD_some]
  s_c stepG_seq
  s_reg
  s_op
  s_c stepG_region_end
  s_c stepG_seq
  s_c stepG_seq
  s_reg
  s_op
  s_op
  s_op
  s_op
  s_c stepG_region_end
  s_reg
  s_op
  s_c stepG_region_end
  s_c stepG_seq
  s_reg
  s_stop
  refine LoneTo.step (step_lone_select_send_room (c := c) (cap := cap) (buf := buf) (s := s) (r := r) (tm := false) (stepG_comm (cases := #[scase c (.int .i64 n) (.int .i64 0)]) (blocking := false) (shape := .select) (w' := w) rfl rfl (by decide) (by simp [go_sem, execOp, scase, Act.eval])) hc hroom) ?_
  rw [Frame.finish_at]
  walk_nrm
  refine LoneTo.goes (n := 20) ?_
  s_op
  s_op
  s_c stepG_region_end
  s_c stepG_block
  s_cond true
  s_c stepG_seq
  s_reg
  s_op
  s_c stepG_region_end
  s_c stepG_ret'
  s_stop
  exact LoneTo.done ⟨.returned (.int .i64 0), _, rfl, ⟨rfl, rfl⟩, rfl, rfl, rfl, rfl, _, Tryz.func224, by simp [results, Tryz.f224, Frame.at]⟩

set_option maxRecDepth 100000 in
theorem put_full (B O c cap s r : Nat) (buf : Array Value) (n : Int) (w : World) (hq : w.cell? ⟨B, O, none⟩ = some (.chan (some c))) (hc : w.heap[c]? = some (.chan cap buf false s r false)) (hfull : cap ≤ buf.size) :
    Calls Tryz.prog 224 #[.pointer (some ⟨B, O, none⟩), .int .i64 n] w fun e w' => e = .returned (.int .i64 17) ∧ w' = w := by
  refine calls_of_loneTo fun cs => ?_
  have e : Frame.enter Tryz.prog 224 #[.pointer (some ⟨B, O, none⟩), .int .i64 n] .normal = (base 224).at ⟨#[.pointer (some ⟨B, O, none⟩), .int .i64 n, undef, undef, undef, undef, undef, undef, undef, undef, undef, undef, undef], []⟩ [.code (Tryz.f224.body.getD .skip)] := by
    simp [Frame.enter, Frame.at, Tryz.func224, base, Tryz.f224]
  rw [e]
  refine LoneTo.goes (n := 18) ?_
  simp only [Tryz.f224, Option.getD_some]
  s_c stepG_seq
  s_reg
  s_op
  s_c stepG_region_end
  s_c stepG_seq
  s_c stepG_seq
  s_reg
  s_op
  s_op
  s_op
  s_op
  s_c stepG_region_end
  s_reg
  s_op
  s_c stepG_region_end
  s_c stepG_seq
  s_reg
  s_stop
  refine LoneTo.step (step_lone_select_send_full (c := c) (cap := cap) (buf := buf) (s := s) (r := r) (tm := false) (stepG_comm (cases := #[scase c (.int .i64 n) (.int .i64 0)]) (blocking := false) (shape := .select) (w' := w) rfl rfl (by decide) (by simp [go_sem, execOp, scase, Act.eval])) hc hfull) ?_
  rw [Frame.finish_at]
  walk_nrm
  refine LoneTo.goes (n := 20) ?_
  s_op
  s_op
  s_c stepG_region_end
  s_c stepG_block
  s_cond false
  s_c stepG_seq
  s_reg
  s_op
  s_c stepG_region_end
  s_c stepG_ret'
  s_stop
  exact LoneTo.done ⟨.returned (.int .i64 17), _, rfl, ⟨rfl, rfl⟩, rfl, rfl, rfl, rfl, _, Tryz.func224, by simp [results, Tryz.f224, Frame.at]⟩

set_option maxRecDepth 100000 in
theorem take_some (B O c cap s r : Nat) (buf : Array Value) (n : Int) (w : World) (hq : w.cell? ⟨B, O, none⟩ = some (.chan (some c))) (hc : w.heap[c]? = some (.chan cap buf false s r false)) (hsome : 0 < buf.size) (hx : buf.getD 0 undef = .int .i64 n) :
    Calls Tryz.prog 142 #[.pointer (some ⟨B, O, none⟩)] w fun e w' => e = .returned (.tuple #[.int .i64 n, .int .i64 0]) ∧ w' = w.setChan c cap (buf.extract 1 buf.size) false s (r + 1) false := by
  refine calls_of_loneTo fun cs => ?_
  have e : Frame.enter Tryz.prog 142 #[.pointer (some ⟨B, O, none⟩)] .normal = (base 142).at ⟨#[.pointer (some ⟨B, O, none⟩), undef, undef, undef, undef, undef, undef, undef, undef, undef, undef, undef, undef, undef, undef, undef], []⟩ [.code (Tryz.f142.body.getD .skip)] := by
    simp [Frame.enter, Frame.at, Tryz.func142, base, Tryz.f142]
  rw [e]
  refine LoneTo.goes (n := 15) ?_
  simp only [Tryz.f142, Option.getD_some]
  s_c stepG_seq
  s_reg
  s_op
  s_op
  s_c stepG_region_end
  s_c stepG_seq
  s_reg
  s_op
  s_op
  s_op
  s_op
  s_c stepG_region_end
  s_c stepG_seq
  s_reg
  s_stop
  refine LoneTo.step (step_lone_select_recv_buf (c := c) (z := .int .i64 0) (cap := cap) (buf := buf) (closed := false) (s := s) (r := r) (tm := false) (stepG_comm (cases := #[rcase c (.int .i64 0)]) (blocking := false) (shape := .select) (w' := w) rfl rfl (by decide) (by simp [go_sem, execOp, rcase, Act.eval])) hc hsome) ?_
  rw [Frame.finish_at, hx]
  walk_nrm
  refine LoneTo.goes (n := 20) ?_
  s_op
  s_op
  s_c stepG_region_end
  s_c stepG_block
  s_cond true
  s_c stepG_seq
  s_reg
  s_op
  s_op
  s_c stepG_region_end
  s_c stepG_seq
  s_reg
  s_op
  s_op
  s_op
  s_c stepG_region_end
  s_c stepG_ret'
  s_stop
  exact LoneTo.done ⟨.returned (.tuple #[.int .i64 n, .int .i64 0]), _, rfl, ⟨rfl, rfl⟩, rfl, rfl, rfl, rfl, _, Tryz.func142, by simp [results, Tryz.f142, Frame.at]⟩

set_option maxRecDepth 100000 in
theorem take_none (B O c cap s r : Nat) (w : World) (hq : w.cell? ⟨B, O, none⟩ = some (.chan (some c))) (hc : w.heap[c]? = some (.chan cap #[] false s r false)) :
    Calls Tryz.prog 142 #[.pointer (some ⟨B, O, none⟩)] w fun e w' => e = .returned (.tuple #[.int .i64 0, .int .i64 15]) ∧ w' = w := by
  refine calls_of_loneTo fun cs => ?_
  have e : Frame.enter Tryz.prog 142 #[.pointer (some ⟨B, O, none⟩)] .normal = (base 142).at ⟨#[.pointer (some ⟨B, O, none⟩), undef, undef, undef, undef, undef, undef, undef, undef, undef, undef, undef, undef, undef, undef, undef], []⟩ [.code (Tryz.f142.body.getD .skip)] := by
    simp [Frame.enter, Frame.at, Tryz.func142, base, Tryz.f142]
  rw [e]
  refine LoneTo.goes (n := 15) ?_
  simp only [Tryz.f142, Option.getD_some]
  s_c stepG_seq
  s_reg
  s_op
  s_op
  s_c stepG_region_end
  s_c stepG_seq
  s_reg
  s_op
  s_op
  s_op
  s_op
  s_c stepG_region_end
  s_c stepG_seq
  s_reg
  s_stop
  refine LoneTo.step (step_lone_select_default (c := c) (z := .int .i64 0) (cap := cap) (s := s) (r := r) (tm := false) (stepG_comm (cases := #[rcase c (.int .i64 0)]) (blocking := false) (shape := .select) (w' := w) rfl rfl (by decide) (by simp [go_sem, execOp, rcase, Act.eval])) hc) ?_
  rw [Frame.finish_at]
  walk_nrm
  refine LoneTo.goes (n := 20) ?_
  s_op
  s_op
  s_c stepG_region_end
  s_c stepG_block
  s_cond false
  s_c stepG_seq
  s_reg
  s_op
  s_c stepG_region_end
  s_c stepG_seq
  s_reg
  s_op
  s_op
  s_op
  s_c stepG_region_end
  s_c stepG_ret'
  s_stop
  exact LoneTo.done ⟨.returned (.tuple #[.int .i64 0, .int .i64 15]), _, rfl, ⟨rfl, rfl⟩, rfl, rfl, rfl, rfl, _, Tryz.func142, by simp [results, Tryz.f142, Frame.at]⟩
end Go.Pr
