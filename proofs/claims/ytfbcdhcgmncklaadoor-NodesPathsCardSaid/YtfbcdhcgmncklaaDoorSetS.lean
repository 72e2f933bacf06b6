/- (*node).set as a node's operation. -/
import Derived.Test.YtfbcdhcgmncklaaDoorSet
namespace Go.Proofs.YtfbcdhcgmncklaaDoor
open Go Go.RowKit Go.Nd Go.Maps Go.MuLone Go.RwLone
set_option maxRecDepth 100000

theorem set_any {w : World} {nb : Nat} {e : Ent} {kv bv : Value} (hn : row w nb = some (nodeC 1 e.inf kv bv, 92)) {B : Nat} (hB : GB B w) {m : Int} {g : Inf} (hg : InfOk g) :
    Calls Tryd.prog 43 #[.pointer (some ⟨nb, 0, none⟩), .int .u8 m, .agg g.cells.toArray] w fun r w' => r = .returned (.int .i64 (e.set m g).1) ∧ row w' nb = some (nodeC 1 (e.set m g).2.inf kv bv, 92) ∧ Keep w w' (· = nb) := by
  cases h0 : sS0 m with
  | true => rw [set_refuse1 (.inl h0)]; exact set_w0 hn hB hg h0
  | false =>
  cases h1 : sS1 m g with
  | true => rw [set_refuse1 (.inr (.inl h1))]; exact set_w1 hn hB hg h0 h1
  | false =>
  cases h2 : sS2 m g with
  | true => rw [set_refuse1 (.inr (.inr (.inl h2)))]; exact set_w2 hn hB hg h0 h1 h2
  | false =>
  cases h3 : sS3 m g with
  | true => rw [set_refuse1 (.inr (.inr (.inr (.inl h3))))]; exact set_w3 hn hB hg h0 h1 h2 h3
  | false =>
  cases h4 : sS4 m g with
  | true => rw [set_refuse1 (.inr (.inr (.inr (.inr h4))))]; exact set_w4 hn hB hg h0 h1 h2 h3 h4
  | false =>
  cases h5 : sS5 m g e.inf with
  | true => rw [set_refuse2 h0 h1 h2 h3 h4 h5]; exact set_w5 hn hB hg h0 h1 h2 h3 h4 h5
  | false => rw [set_done h0 h1 h2 h3 h4 h5]; exact set_w6 hn hB hg h0 h1 h2 h3 h4 h5
theorem set_data (e : Ent) (m : Int) (g : Inf) : (e.set m g).2.data = e.data := by
  unfold Ent.set
  split
  · rfl
  split
  · rfl
  · rfl
theorem set_node {w : World} {own : Own} {e : Ent} {nb : Nat} {kv bv : Value} {bs : List (Option Nat)} (hn : row w nb = some (nodeC 1 e.inf kv bv, 92)) (hno : own nb = some (Role.node e.inf.path)) (hb : BytesRep w own e bv bs)
    (dom : ∀ b, own b ≠ none → b < w.heap.size) {B : Nat} (hB : GB B w) {m : Int} {g : Inf} (hg : InfOk g) :
    Calls Tryd.prog 43 #[.pointer (some ⟨nb, 0, none⟩), .int .u8 m, .agg g.cells.toArray] w fun r w' =>
      r = .returned (.int .i64 (e.set m g).1) ∧ ∃ own' bv' bs', NodeOp w w' own own' e (e.set m g).2 nb kv bv' bs' := by
  refine (set_any hn hB hg).mono ?_
  rintro r w' ⟨rfl, hr, hk⟩
  have h := inf_op hno hb dom hr (set_alike e m g).path hk
  have e1 : (⟨(e.set m g).2.inf, e.data⟩ : Ent) = (e.set m g).2 := by rw [← set_data e m g]
  rw [e1] at h
  exact ⟨rfl, own, bv, bs, h⟩
end Go.Proofs.YtfbcdhcgmncklaaDoor
