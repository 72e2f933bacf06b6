/- (*node).put, where it refuses. -/
import Derived.Test.YtfbcdhcgmncklaaDoorLk
import Derived.Laws.CopyOwn
import Derived.Maps.AppendAt
namespace Go.Proofs.YtfbcdhcgmncklaaDoor
open Go Go.RowKit Go.Nd Go.Maps Go.MuLone Go.RwLone
set_option maxRecDepth 100000

set_option maxHeartbeats 4000000 in
theorem put_kind {w : World} {nb : Nat} {a : Int} {f : Inf} {kv bv : Value} {T : TypeId} (hn : row w nb = some (nodeC a f kv bv, T)) {off : Int}  (da : Option Addr) {dl : Nat} (dc : Nat) (h : isDir f.mode = true) :
    Calls Tryd.prog 45 #[.pointer (some ⟨nb, 0, none⟩), .int .u64 off, .slice da dl dc] w fun e w' => e = .returned (.int .i64 81) ∧ w = w' := by
  have hnl := row_lt hn
  have c5 : w.cell? ⟨nb, 5, none⟩ = some (.int .u32 f.mode) := cell_row hn
  clear hn
  have t : (bits .and .u32 f.mode 2147483648 != 0) = true := h
  clear h
  · go_enter Tryd.func45, Tryd.ntmps45
    go_wp2_with fail
    go_ret
    exact ⟨rfl, rfl⟩

set_option maxHeartbeats 4000000 in
theorem put_block {w : World} {nb : Nat} {a : Int} {f : Inf} {kv bv : Value} {T : TypeId} (hn : row w nb = some (nodeC a f kv bv, T)) {off : Int} (o0 : 0 ≤ off) (o1 : off < 18446744073709551616) (da : Option Addr) {dl : Nat} (dc : Nat) (hd : dl ≤ 4611686018427387904) (h : isDir f.mode = false) (h2 : dl = 0 ∨ 256 - off % 256 < (dl : Int)) :
    Calls Tryd.prog 45 #[.pointer (some ⟨nb, 0, none⟩), .int .u64 off, .slice da dl dc] w fun e w' => e = .returned (.int .i64 84) ∧ w = w' := by
  have hnl := row_lt hn
  have c5 : w.cell? ⟨nb, 5, none⟩ = some (.int .u32 f.mode) := cell_row hn
  clear hn
  have t : (bits .and .u32 f.mode 2147483648 != 0) = false := h
  clear h
  by_cases h0 : dl = 0
  · subst h0
    clear h2
    go_enter Tryd.func45, Tryd.ntmps45
    go_wp2_with fail
    go_ret
    exact ⟨rfl, rfl⟩
  · have h3 : 256 - off % 256 < (dl : Int) := h2.resolve_left h0
    clear h2
    have e0 : ((dl : Int) == 0) = false := by rw [beq_eq_false_iff_ne]; omega
    go_enter Tryd.func45, Tryd.ntmps45
    go_wp2_with fail
    go_ret
    exact ⟨rfl, rfl⟩

set_option maxHeartbeats 4000000 in
theorem put_big {w : World} {nb : Nat} {a : Int} {f : Inf} {kv bv : Value} {T : TypeId} (hn : row w nb = some (nodeC a f kv bv, T)) {off : Int} (o0 : 0 ≤ off) (o1 : off < 18446744073709551616) (da : Option Addr) {dl : Nat} (dc : Nat) (h : isDir f.mode = false) (h0 : dl ≠ 0) (h2 : (dl : Int) ≤ 256 - off % 256) (h3 : 65536 - (dl : Int) < off) :
    Calls Tryd.prog 45 #[.pointer (some ⟨nb, 0, none⟩), .int .u64 off, .slice da dl dc] w fun e w' => e = .returned (.int .i64 86) ∧ w = w' := by
  have hnl := row_lt hn
  have c5 : w.cell? ⟨nb, 5, none⟩ = some (.int .u32 f.mode) := cell_row hn
  clear hn
  have t : (bits .and .u32 f.mode 2147483648 != 0) = false := h
  clear h
  · have e0 : ((dl : Int) == 0) = false := by rw [beq_eq_false_iff_ne]; omega
    go_enter Tryd.func45, Tryd.ntmps45
    go_wp2_with fail
    go_ret
    exact ⟨rfl, rfl⟩
end Go.Proofs.YtfbcdhcgmncklaaDoor
