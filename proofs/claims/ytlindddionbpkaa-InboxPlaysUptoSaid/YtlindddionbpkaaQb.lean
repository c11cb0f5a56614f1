/- inbox: New, Len, Room, Closed, Close in the machine. -/
import Derived.Test.YtlindddionbpkaaQa
import Derived.WalkKit
import Derived.ProofKit
import Derived.BigQuiet
import Derived.Deep.QuietTactic
namespace Go.Proofs.Ytlindddionbpkaa.Qa
open Go Go.Conc Go.RowKit Ra
set_option linter.unusedVariables false
set_option linter.unusedSimpArgs false
section
variable {w : World} {bx c cap s q : Nat} {buf : Array Value} {closed : Bool}
set_option maxRecDepth 100000 in
theorem len_calls (h : InbAt w bx c cap buf closed s q) : Calls Try.prog 12 #[.pointer (some ⟨bx, 0, none⟩)] w fun e w' => e = .returned (.int .i64 buf.size) ∧ w' = w := by
  have hl0 := h.c0
  have hlen := fun ty => run_len_chan (P := Try.prog) 52 ty Try.underlying52 h.hc
  go_enter Try.func12, Try.ntmps12
  go_wp2
  go_ret
  exact ⟨rfl, rfl⟩
set_option maxRecDepth 100000 in
theorem closed_calls (h : InbAt w bx c cap buf closed s q) : Calls Try.prog 21 #[.pointer (some ⟨bx, 0, none⟩)] w fun e w' => e = .returned (.bool closed) ∧ w' = w := by
  have hl1 := h.c1
  go_enter Try.func21, Try.ntmps21
  go_wp2
  go_ret
  exact ⟨rfl, rfl⟩
theorem bytesC : ∃ i, Try.prog.info? 27 = some i ∧ i.bytes = 24 := by
  have h : (Try.prog.info? 27).map (·.bytes) = some 24 := by kernel_rfl
  obtain ⟨i, hi, hb⟩ := Option.map_eq_some_iff.1 h
  exact ⟨i, hi, hb⟩
theorem mkC (w : World) (n : Nat) (hn : n ≤ 64) : (Instr.makeChan 52 (.int .i64 n)).run Try.prog w = .ok (.chan (some w.heap.size)) (w.alloc (.chan n #[] false 0 0 false)) := by
  obtain ⟨i, hi, hb⟩ := bytesC
  simpa using run_makeChan (P := Try.prog) (w := w) Try.underlying52 hi .i64 n (by omega) (by rw [hb]; omega)
theorem bldI (w : World) (c : Nat) : (Instr.build 54 #[(0, .chan (some c))]).run Try.prog w = .ok (.agg #[.chan (some c), .bool false]) w := run_build w 54 _ _ (by kernel_rfl)
/-- The places that count. -/
def plc (n : Int) : Nat := (min (max n 1) 64).toNat
set_option maxRecDepth 100000 in
theorem new_calls (n : Int) : Calls Try.prog 6 #[.int .i64 n] w fun e w' => e = .returned (.pointer (some ⟨w.heap.size + 1, 0, none⟩)) ∧ w' = (w.alloc (.chan (plc n) #[] false 0 0 false)).alloc (.cells #[.chan (some w.heap.size), .bool false] 54) := by
  have hbd := fun w => bldI w
  have hb : (plc n : Int) = min (max n 1) 64 := by unfold plc; omega
  obtain ⟨k, hk⟩ : ∃ k, plc n = k := ⟨_, rfl⟩
  rw [hk] at hb ⊢
  have hm := mkC w k (by omega)
  by_cases h1 : n < 1
  · skip
    have e1 : (k : Int) = 1 := by omega
    rw [e1] at hm
    refine calls_of_loneTo fun cs => ?_
    have e : Frame.enter Try.prog 6 #[.int .i64 n] .normal = (base 6).at ⟨#[.int .i64 n, undef, undef, undef, undef, undef, undef, undef, undef], []⟩ [.code (Try.f6.body.getD .skip)] := by
      simp [Frame.enter, Frame.at, Try.func6, base, Try.f6]
    rw [e]
    refine LoneTo.goes (n := 40) ?_
    simp only [Try.f6, Option.getD_some]
    s_c stepG_seq
    s_reg
    s_op
    s_c stepG_region_end
    s_c stepG_seq
    s_reg
    s_op
    s_op
    s_op
    s_op
    s_op
    s_op
    s_op
    s_c stepG_region_end
    s_c stepG_ret'
    s_stop
    refine LoneTo.done ⟨.returned (.pointer (some ⟨w.heap.size + 1, 0, none⟩)), _, rfl, ⟨rfl, rfl⟩, rfl, rfl, rfl, rfl, _, Try.func6, by simp [results, Try.f6, Frame.at]⟩
  by_cases h2 : 64 < n
  · skip
    have e1 : (k : Int) = 64 := by omega
    rw [e1] at hm
    refine calls_of_loneTo fun cs => ?_
    have e : Frame.enter Try.prog 6 #[.int .i64 n] .normal = (base 6).at ⟨#[.int .i64 n, undef, undef, undef, undef, undef, undef, undef, undef], []⟩ [.code (Try.f6.body.getD .skip)] := by
      simp [Frame.enter, Frame.at, Try.func6, base, Try.f6]
    rw [e]
    refine LoneTo.goes (n := 40) ?_
    simp only [Try.f6, Option.getD_some]
    s_c stepG_seq
    s_reg
    s_op
    s_c stepG_region_end
    s_c stepG_seq
    s_reg
    s_op
    s_op
    s_op
    s_op
    s_op
    s_op
    s_op
    s_c stepG_region_end
    s_c stepG_ret'
    s_stop
    refine LoneTo.done ⟨.returned (.pointer (some ⟨w.heap.size + 1, 0, none⟩)), _, rfl, ⟨rfl, rfl⟩, rfl, rfl, rfl, rfl, _, Try.func6, by simp [results, Try.f6, Frame.at]⟩
  · skip
    have e1 : (k : Int) = n := by omega
    rw [e1] at hm
    refine calls_of_loneTo fun cs => ?_
    have e : Frame.enter Try.prog 6 #[.int .i64 n] .normal = (base 6).at ⟨#[.int .i64 n, undef, undef, undef, undef, undef, undef, undef, undef], []⟩ [.code (Try.f6.body.getD .skip)] := by
      simp [Frame.enter, Frame.at, Try.func6, base, Try.f6]
    rw [e]
    refine LoneTo.goes (n := 40) ?_
    simp only [Try.f6, Option.getD_some]
    s_c stepG_seq
    s_reg
    s_op
    s_c stepG_region_end
    s_c stepG_seq
    s_reg
    s_op
    s_op
    s_op
    s_op
    s_op
    s_op
    s_op
    s_c stepG_region_end
    s_c stepG_ret'
    s_stop
    refine LoneTo.done ⟨.returned (.pointer (some ⟨w.heap.size + 1, 0, none⟩)), _, rfl, ⟨rfl, rfl⟩, rfl, rfl, rfl, rfl, _, Try.func6, by simp [results, Try.f6, Frame.at]⟩
set_option maxRecDepth 100000 in
theorem room_calls (h : InbAt w bx c cap buf closed s q) (hs : cap ≤ 64 ∧ buf.size ≤ cap) : Calls Try.prog 10 #[.pointer (some ⟨bx, 0, none⟩)] w fun e w' => e = .returned (.int .i64 (if closed = true then 0 else (cap : Int) - buf.size)) ∧ ∃ m, w' = w.drewN m := by
  have hl0 := h.c0
  have hl1 := h.c1
  have hlen := fun m ty => run_len_chan (w := w.drewN m) (P := Try.prog) 52 ty Try.underlying52 (show (w.drewN m).heap[c]? = _ from h.hc)
  have hcap := fun m ty => run_cap_chan (w := w.drewN m) (P := Try.prog) 52 ty Try.underlying52 (show (w.drewN m).heap[c]? = _ from h.hc)
  have hwr : IntKind.i64.wrap ((cap : Int) - (buf.size : Int)) = (cap : Int) - buf.size := by rw [IntKind.wrap_i64]; omega
  cases closed with
  | true =>
    go_enter Try.func10, Try.ntmps10
    go_wp2
    go_ret
    exact ⟨rfl, 0, rfl⟩
  | false =>
    go_enter Try.func10, Try.ntmps10
    go_wp2
    go_quiet (fail)
    go_wp2
    go_ret
    exact ⟨by simp, _, rfl⟩
/-- Shut already. -/
theorem close_shut (h : InbAt w bx c cap buf true s q) : Calls Try.prog 13 #[.pointer (some ⟨bx, 0, none⟩)] w fun e w' => e = .returned (.tuple #[]) ∧ w' = w := by
  have hl0 := h.c0
  have hl1 := h.c1
  go_enter Try.func13, Try.ntmps13
  go_wp2
  go_end0
  exact ⟨rfl, rfl⟩
set_option maxRecDepth 100000 in
theorem close_open (h : InbAt w bx c cap buf false s q) : Calls Try.prog 13 #[.pointer (some ⟨bx, 0, none⟩)] w fun e w' => e = .returned (.tuple #[]) ∧ w' = (w.setRow bx #[.chan (some c), .bool true]).setChan c cap buf true s q false := by
  have hl0 := h.c0
  have hl1 := h.c1
  obtain ⟨eb, hx⟩ := h.hx
  have hset := setCell_eq_setRow w bx 1 _ _ _ (.bool true) hx
  have hfz : w.frozen? ⟨bx, 1, none⟩ = false := by simp [World.frozen?, hx]
  have hbc : c ≠ bx := fun e => by have := h.hc; rw [e, hx] at this; cases this
  have hc2 : (w.setRow bx #[.chan (some c), .bool true]).heap[c]? = some (.chan cap buf false s q false) := (setRow_other w bx c _ hbc).trans h.hc
  have hc2x : (w.setRow bx #[.chan (some c), .bool true]).heap[bx]? = some (.cells #[.chan (some c), .bool true] eb (0, 0)) := setRow_heap w bx _ _ _ _ hx
  have hl2 : (w.setRow bx #[.chan (some c), .bool true]).cell? ⟨bx, 0, none⟩ = some (.chan (some c)) := by simp [World.cell?, hc2x]
  have hev := fun ats ty => events_close_open (P := Try.prog) (w := w.setRow bx #[.chan (some c), .bool true]) (es := #[]) ats ty hc2
  have hcl := fun ats ty => run_close_open (P := Try.prog) (w := w.setRow bx #[.chan (some c), .bool true]) ats ty hc2
  refine calls_of_loneTo fun cs => ?_
  have e : Frame.enter Try.prog 13 #[.pointer (some ⟨bx, 0, none⟩)] .normal = (base 13).at ⟨#[.pointer (some ⟨bx, 0, none⟩), undef, undef, undef, undef, undef, undef, undef, undef, undef, undef, undef, undef, undef], []⟩ [.code (Try.f13.body.getD .skip)] := by
    simp [Frame.enter, Frame.at, Try.func13, base, Try.f13]
  rw [e]
  refine LoneTo.goes (n := 40) ?_
  simp only [Try.f13, Option.getD_some]
  s_c stepG_seq
  s_reg
  s_op
  s_op
  s_op
  s_op
  s_op
  s_c stepG_region_end
  s_cond true
  s_c stepG_seq
  s_reg
  s_op
  s_op
  s_op
  s_op
  s_c stepG_region_end
  s_reg
  s_op
  s_op
  s_op
  s_op
  s_op
  s_c stepG_region_end
  s_c stepG_end
  s_stop
  refine LoneTo.done ⟨.returned (.tuple #[]), _, rfl, ⟨rfl, by simp [World.setChan, World.setRow]⟩, rfl, rfl, rfl, rfl, _, Try.func13, by simp [results, Try.f13, Frame.at]⟩
end
end Go.Proofs.Ytlindddionbpkaa.Qa
