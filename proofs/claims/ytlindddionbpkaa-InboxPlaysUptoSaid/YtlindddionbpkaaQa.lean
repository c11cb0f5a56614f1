/- inbox: its functions in the machine: one goroutine, channels that never wait. -/
import Derived.Test.YtlindddionbpkaaProg
import Derived.Test.YtlindddionbpkaaRd
import Derived.Conc.LoneSelect
import Derived.Conc.LoneSelectN
import Derived.KernelRfl
import Derived.Laws.Rows
import Derived.Laws.Runes
import Derived.Laws.Tables
namespace Go.Proofs.Ytlindddionbpkaa.Qa
open Go Go.Conc Go.RowKit Ra
set_option linter.unusedVariables false
set_option linter.unusedSimpArgs false
/-- An inbox in memory: its struct's block, its channel's block. -/
structure InbAt (w : World) (bx c cap : Nat) (buf : Array Value) (closed : Bool) (s q : Nat) : Prop where
  hx : ∃ e, w.heap[bx]? = some (.cells #[.chan (some c), .bool closed] e (0, 0))
  hc : w.heap[c]? = some (.chan cap buf closed s q false)
section
variable {w : World} {bx c cap s q : Nat} {buf : Array Value} {closed : Bool}
theorem InbAt.c0 (h : InbAt w bx c cap buf closed s q) : w.cell? ⟨bx, 0, none⟩ = some (.chan (some c)) := by
  obtain ⟨e, hx⟩ := h.hx
  simp [World.cell?, hx]
theorem InbAt.c1 (h : InbAt w bx c cap buf closed s q) : w.cell? ⟨bx, 1, none⟩ = some (.bool closed) := by
  obtain ⟨e, hx⟩ := h.hx
  simp [World.cell?, hx]
set_option maxRecDepth 100000 in
theorem take_some (h : InbAt w bx c cap buf closed s q) (x : Value) (hx : buf[0]? = some x) : Calls Try.prog 11 #[.pointer (some ⟨bx, 0, none⟩)] w fun e w' => e = .returned (.tuple #[x, .int .i64 0]) ∧ w' = w.setChan c cap (buf.extract 1 buf.size) closed s (q + 1) false := by
  have hb : 0 < buf.size := (Array.getElem?_eq_some_iff.1 hx).1
  have hg : buf.getD 0 undef = x := by simp [hx]
  refine calls_of_loneTo fun cs => ?_
  have e : Frame.enter Try.prog 11 #[.pointer (some ⟨bx, 0, none⟩)] .normal = (base 11).at ⟨#[.pointer (some ⟨bx, 0, none⟩), undef, undef, undef, undef, undef, undef, undef, undef, undef, undef, undef, undef, undef, undef, undef, undef, undef], []⟩ [.code (Try.f11.body.getD .skip)] := by
    simp [Frame.enter, Frame.at, Try.func11, base, Try.f11]
  rw [e]
  refine LoneTo.goes (n := 40) ?_
  simp only [Try.f11, Option.getD_some]
  s_c stepG_seq
  s_reg
  s_op
  s_op
  s_c stepG_region_end
  s_c stepG_seq
  s_reg
  s_op
  s_op
  have hl0 := h.c0
  s_op
  s_op
  s_c stepG_region_end
  s_c stepG_seq
  s_reg
  s_stop
  refine LoneTo.step (step_lone_select_recv_buf (c := c) (z := .slice none 0 0) (stepG_comm (cases := #[rcase c (.slice none 0 0)]) (blocking := false) (shape := .select) (w' := w) rfl rfl (by decide) (by simp [go_sem, execOp, rcase, Act.eval])) h.hc hb) ?_
  rw [Frame.finish_at, hg]
  walk_nrm
  refine LoneTo.goes (n := 40) ?_
  s_op
  s_op
  s_c stepG_region_end
  s_c stepG_block
  s_cond true
  s_c stepG_seq
  s_reg
  s_op
  s_op
  s_op
  s_op
  s_c stepG_region_end
  s_c stepG_seq
  s_c stepG_seq
  s_reg
  s_op
  s_op
  s_c stepG_region_end
  s_cond false
  s_c stepG_skip
  s_c stepG_seq
  s_reg
  s_op
  s_op
  s_op
  s_c stepG_region_end
  s_c stepG_ret'
  s_stop
  refine LoneTo.done ⟨.returned (.tuple #[x, .int .i64 0]), _, rfl, ⟨rfl, rfl⟩, rfl, rfl, rfl, rfl, _, Try.func11, by simp [results, Try.f11, Frame.at]⟩
set_option maxRecDepth 100000 in
theorem take_shut (h : InbAt w bx c cap #[] true s q) : Calls Try.prog 11 #[.pointer (some ⟨bx, 0, none⟩)] w fun e w' => e = .returned (.tuple #[.slice none 0 0, .int .i64 260]) ∧ w' = w := by
  refine calls_of_loneTo fun cs => ?_
  have e : Frame.enter Try.prog 11 #[.pointer (some ⟨bx, 0, none⟩)] .normal = (base 11).at ⟨#[.pointer (some ⟨bx, 0, none⟩), undef, undef, undef, undef, undef, undef, undef, undef, undef, undef, undef, undef, undef, undef, undef, undef, undef], []⟩ [.code (Try.f11.body.getD .skip)] := by
    simp [Frame.enter, Frame.at, Try.func11, base, Try.f11]
  rw [e]
  refine LoneTo.goes (n := 40) ?_
  simp only [Try.f11, Option.getD_some]
  s_c stepG_seq
  s_reg
  s_op
  s_op
  s_c stepG_region_end
  s_c stepG_seq
  s_reg
  s_op
  s_op
  have hl0 := h.c0
  s_op
  s_op
  s_c stepG_region_end
  s_c stepG_seq
  s_reg
  s_stop
  refine LoneTo.step (step_lone_select_recv_shut (c := c) (z := .slice none 0 0) (stepG_comm (cases := #[rcase c (.slice none 0 0)]) (blocking := false) (shape := .select) (w' := w) rfl rfl (by decide) (by simp [go_sem, execOp, rcase, Act.eval])) h.hc) ?_
  rw [Frame.finish_at]
  walk_nrm
  refine LoneTo.goes (n := 40) ?_
  s_op
  s_op
  s_c stepG_region_end
  s_c stepG_block
  s_cond true
  s_c stepG_seq
  s_reg
  s_op
  s_op
  s_op
  s_op
  s_c stepG_region_end
  s_c stepG_seq
  s_c stepG_seq
  s_reg
  s_op
  s_op
  s_c stepG_region_end
  s_cond true
  s_c stepG_seq
  s_reg
  s_op
  s_op
  s_c stepG_region_end
  s_c stepG_ret'
  s_stop
  refine LoneTo.done ⟨.returned (.tuple #[.slice none 0 0, .int .i64 260]), _, rfl, ⟨rfl, rfl⟩, rfl, rfl, rfl, rfl, _, Try.func11, by simp [results, Try.f11, Frame.at]⟩
set_option maxRecDepth 100000 in
theorem take_none (h : InbAt w bx c cap #[] false s q) : Calls Try.prog 11 #[.pointer (some ⟨bx, 0, none⟩)] w fun e w' => e = .returned (.tuple #[.slice none 0 0, .int .i64 183]) ∧ w' = w := by
  refine calls_of_loneTo fun cs => ?_
  have e : Frame.enter Try.prog 11 #[.pointer (some ⟨bx, 0, none⟩)] .normal = (base 11).at ⟨#[.pointer (some ⟨bx, 0, none⟩), undef, undef, undef, undef, undef, undef, undef, undef, undef, undef, undef, undef, undef, undef, undef, undef, undef], []⟩ [.code (Try.f11.body.getD .skip)] := by
    simp [Frame.enter, Frame.at, Try.func11, base, Try.f11]
  rw [e]
  refine LoneTo.goes (n := 40) ?_
  simp only [Try.f11, Option.getD_some]
  s_c stepG_seq
  s_reg
  s_op
  s_op
  s_c stepG_region_end
  s_c stepG_seq
  s_reg
  s_op
  s_op
  have hl0 := h.c0
  s_op
  s_op
  s_c stepG_region_end
  s_c stepG_seq
  s_reg
  s_stop
  refine LoneTo.step (step_lone_select_default (c := c) (z := .slice none 0 0) (stepG_comm (cases := #[rcase c (.slice none 0 0)]) (blocking := false) (shape := .select) (w' := w) rfl rfl (by decide) (by simp [go_sem, execOp, rcase, Act.eval])) h.hc) ?_
  rw [Frame.finish_at]
  walk_nrm
  refine LoneTo.goes (n := 40) ?_
  s_op
  s_op
  s_c stepG_region_end
  s_c stepG_block
  s_cond false
  s_c stepG_seq
  s_reg
  s_op
  s_op
  s_c stepG_region_end
  s_c stepG_ret'
  s_stop
  refine LoneTo.done ⟨.returned (.tuple #[.slice none 0 0, .int .i64 183]), _, rfl, ⟨rfl, rfl⟩, rfl, rfl, rfl, rfl, _, Try.func11, by simp [results, Try.f11, Frame.at]⟩
end
end Go.Proofs.Ytlindddionbpkaa.Qa
