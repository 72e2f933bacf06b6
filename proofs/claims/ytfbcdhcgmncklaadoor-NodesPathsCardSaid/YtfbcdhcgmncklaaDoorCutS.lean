/- (*node).cut, (*node).opens as a node's operations. -/
import Derived.Test.YtfbcdhcgmncklaaDoorCut
namespace Go.Proofs.YtfbcdhcgmncklaaDoor
open Go Go.RowKit Go.Nd Go.Maps Go.MuLone Go.RwLone
set_option maxRecDepth 100000

theorem cutData_zero {d : Nat → Int} {n i : Nat} (h : d i = 0) : cutData d n i = 0 := by
  unfold cutData; split
  · exact h
  · rfl
theorem cut_node {w : World} {own : Own} {e : Ent} {nb : Nat} {kv bv : Value} {bs : List (Option Nat)} (hn : row w nb = some (nodeC 1 e.inf kv bv, 92)) (hno : own nb = some (Role.node e.inf.path)) (hb : BytesRep w own e bv bs)
    (dom : ∀ b, own b ≠ none → b < w.heap.size) {len : Int} (l0 : 0 ≤ len) :
    Calls Tryd.prog 44 #[.pointer (some ⟨nb, 0, none⟩), .int .u64 len] w fun r w' =>
      r = .returned (.int .i64 (e.cut len).1) ∧ ∃ own' bv' bs', NodeOp w w' own own' e (e.cut len).2 nb kv bv' bs' := by
  have hsame := NodeOp.same hn hb dom
  cases h1 : isDir e.inf.mode with
  | true =>
    have ee : e.cut len = (81, e) := by simp [Ent.cut, h1]
    rw [ee]
    exact (cut_kind hn len h1).mono fun _ _ ⟨h, h'⟩ => ⟨h, own, bv, bs, h' ▸ hsame⟩
  | false =>
  by_cases h2 : 65536 < len
  · have ee : e.cut len = (86, e) := by unfold Ent.cut; rw [if_neg (by simp [h1]), if_pos h2]
    rw [ee]
    exact (cut_big hn h1 h2).mono fun _ _ ⟨h, h'⟩ => ⟨h, own, bv, bs, h' ▸ hsame⟩
  have ee : e.cut len = (0, ⟨{ e.inf with len := len }, cutData e.data len.toNat⟩) := by unfold Ent.cut; rw [if_neg (by simp [h1]), if_neg h2]
  rw [ee]
  obtain ⟨q, hq⟩ : ∃ q : Nat, len / 256 = q := ⟨(len / 256).toNat, by omega⟩
  obtain ⟨r, hr⟩ : ∃ r : Nat, len % 256 = r := ⟨(len % 256).toNat, by omega⟩
  refine (cut_ok (d := e.data) hn l0 (by omega) hq hr hb.blen hb.brow (fun h => by have := hb.bown _ h; rw [hno] at this; cases this)
    (fun b hb2 => ⟨(hb.bsome q b hb2).2, (fun h => by have := (hb.bsome q b hb2).1; rw [h, hno] at this; cases this), (fun h => by have := (hb.bsome q b hb2).1; rw [hb.bown _ h] at this; cases this)⟩) h1).mono ?_
  rintro x w' ⟨rfl, bv', ck⟩
  obtain ⟨k, hk⟩ : ∃ k, k = (if 0 < r then q + 1 else q) := ⟨_, rfl⟩
  have hbr := ck.brow
  rw [← hk] at hbr
  have hk2 : len ≤ 256 * (k : Int) := by rw [hk]; split <;> omega
  have hk3 : k ≤ q + 1 := by rw [hk]; split <;> omega
  have hget : ∀ {i : Nat} {o : Option Nat}, (bs.take k)[i]? = some o → bs[i]? = some o ∧ i < k := fun {i o} h => by
    rw [List.getElem?_take] at h
    split at h
    · exact ⟨h, by assumption⟩
    · cases h
  refine ⟨rfl, own, bv', bs.take k, { nrow := ck.nrow, bytes := { brow := hbr, bown := fun g hg => hb.bown g (ck.bloc ▸ hg), blen := by have := hb.blen; rw [List.length_take]; omega, bnone := fun i hi j hj => ?_, bsome := fun i b hi => ?_, bbey := fun i hi => ?_ }, old := fun _ _ h => h, dom := fun b h => Nat.lt_of_lt_of_le (dom b h) ck.keep.size, fresh := fun _ h => .inl h, keep := ck.keep.mono (fun b _ h => ?_) }⟩
  · exact cutData_zero (hb.bnone i (hget hi).1 j hj)
  · obtain ⟨hi1, hi2⟩ := hget hi
    refine ⟨(hb.bsome i b hi1).1, ?_⟩
    by_cases hiq : i = q
    · subst hiq
      have hr0 : 0 < r := by rw [hk] at hi2; split at hi2 <;> omega
      exact ck.drow b hr0 hi1
    · have e1 : dataCells (cutData e.data len.toNat) i = dataCells e.data i := by
        unfold dataCells
        congr 1
        apply List.map_congr_left
        intro j hj
        rw [List.mem_range] at hj
        unfold cutData
        rw [if_pos (by omega)]
      show row w' b = some (dataCells (cutData e.data len.toNat) i, _)
      rw [e1]
      refine ck.keep.row (hb.bsome i b hi1).2 (fun hS => ?_)
      have hbo := (hb.bsome i b hi1).1
      rcases hS with h' | h' | ⟨_, h'⟩
      · rw [h', hno] at hbo; cases hbo
      · have := hb.bown _ h'; rw [hbo] at this; cases this
      · have := (hb.bsome q b h').1; rw [hbo] at this; injection this with this; injection this with _ this; exact hiq this
  · show cutData _ _ _ = 0
    rw [List.length_take] at hi
    by_cases hkb : k ≤ bs.length
    · unfold cutData; rw [if_neg (by omega)]
    · exact cutData_zero (hb.bbey _ (by omega))
  · rcases h with h | h | ⟨_, h⟩
    · exact .inl h
    · exact .inr (.inl (hb.bown _ h))
    · exact .inr (.inr ⟨q, (hb.bsome q b h).1⟩)

/-- A node of which only what is known has turned. -/
theorem inf_op {w w' : World} {own : Own} {e : Ent} {nb : Nat} {kv bv : Value} {bs : List (Option Nat)} {f : Inf} (hno : own nb = some (Role.node e.inf.path)) (hb : BytesRep w own e bv bs) (dom : ∀ b, own b ≠ none → b < w.heap.size)
    (hn : row w' nb = some (nodeC 1 f kv bv, 92)) (hp : f.path = e.inf.path) (k : Keep w w' (· = nb)) : NodeOp w w' own own e ⟨f, e.data⟩ nb kv bv bs := by
  have hb' := hb.keepB k (fun b hb h => by
    have h' : b = nb := h
    rw [h', hno] at hb
    rcases hb with h | ⟨_, h⟩ <;> cases h)
  refine ⟨hn, ⟨hb'.brow, fun g hg => ?_, hb'.blen, hb'.bnone, fun i b hi => ?_, hb'.bbey⟩, fun _ _ h => h, fun b h => Nat.lt_of_lt_of_le (dom b h) k.size, fun _ h => .inl h, k.mono (fun _ _ h => .inl h)⟩
  · show own g = some (Role.blocks f.path); rw [hp]; exact hb'.bown g hg
  · show own b = some (Role.data f.path i) ∧ _; rw [hp]; exact hb'.bsome i b hi

set_option maxHeartbeats 4000000 in
theorem open_node {w : World} {own : Own} {e : Ent} {nb : Nat} {kv bv : Value} {bs : List (Option Nat)} (hn : row w nb = some (nodeC 1 e.inf kv bv, 92)) (hno : own nb = some (Role.node e.inf.path)) (hb : BytesRep w own e bv bs)
    (dom : ∀ b, own b ≠ none → b < w.heap.size) (he : EntOk e) (n : Int) :
    Calls Tryd.prog 46 #[.pointer (some ⟨nb, 0, none⟩), .int .i64 n] w fun r w' =>
      r = .returned (.int .i64 (e.opening n).1) ∧ ∃ own' bv' bs', NodeOp w w' own own' e (e.opening n).2 nb kv bv' bs' := by
  have hsame := NodeOp.same hn hb dom
  have o0 := he.opens0
  have o1 := he.opens1
  have c13 : w.cell? ⟨nb, 13, none⟩ = some (.int .i64 e.inf.opens) := cell_row hn
  have f13 : w.frozen? ⟨nb, 13, none⟩ = false := frozen_row hn
  have HS := Lib.hid (And.intro hn (And.intro hb (And.intro dom hsame)))
  clear hn hb dom hsame
  by_cases h1 : n < -e.inf.opens
  · have ee : e.opening n = (87, e) := by unfold Ent.opening; rw [if_pos (.inl h1)]
    rw [ee]
    go_enter Tryd.func46, Tryd.ntmps46
    go_wp2_with fail
    go_ret
    exact ⟨rfl, own, bv, bs, HS.out.2.2.2⟩
  by_cases h2 : 2147483647 - e.inf.opens < n
  · have ee : e.opening n = (87, e) := by unfold Ent.opening; rw [if_pos (.inr h2)]
    rw [ee]
    go_enter Tryd.func46, Tryd.ntmps46
    go_wp2_with fail
    go_ret
    exact ⟨rfl, own, bv, bs, HS.out.2.2.2⟩
  have ee : e.opening n = (0, { e with inf := { e.inf with opens := e.inf.opens + n } }) := by unfold Ent.opening; rw [if_neg (by omega)]
  rw [ee]
  go_enter Tryd.func46, Tryd.ntmps46
  go_wp2_with fail
  go_ret
  refine ⟨rfl, own, bv, bs, inf_op hno HS.out.2.1 HS.out.2.2.1 ?_ rfl (Keep.setCell w _ _ _ (fun _ => rfl))⟩
  rw [row_setCell HS.out.1]; rfl
end Go.Proofs.YtfbcdhcgmncklaaDoor
