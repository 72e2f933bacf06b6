/- clear, on a row of cells; parts of rows. -/
import Derived.Test.YtfbcdhcgmncklaaDoorPutS
import Derived.Lib.SliceRun
import Derived.Laws.IdiomCopy
namespace Go.Nd
open Go Go.RowKit
theorem setRow_self {w : World} {b : Nat} {c : Array Value} {T : TypeId} (h : row w b = some (c, T)) : w.setRow b c = w := by
  have hh := row_iff.1 h
  unfold World.setRow
  have : (w.heap.modify b fun | .cells _ t frozen => .cells c t frozen | o => o) = w.heap := by
    apply Array.ext_getElem?
    intro i
    rw [Array.getElem?_modify]
    split
    · rename_i e; subst e; rw [hh]; rfl
    · rfl
  exact (congrArg (fun h => ({ w with heap := h } : World)) this)
theorem setCell_setRow (w : World) (b o : Nat) (v : Value) (X : Array Value) : (w.setCell ⟨b, o, none⟩ v).setRow b X = w.setRow b X := by
  unfold World.setRow World.setCell
  congr 1
  apply Array.ext_getElem?
  intro i
  simp only [Array.getElem?_modify]
  by_cases e : b = i
  · subst e
    simp only [if_true]
    cases w.heap[b]? with
    | none => rfl
    | some o' => cases o' <;> rfl
  · simp [e]
theorem setCells_setRow : ∀ (vs : List Value) (o : Nat) (w : World) {b : Nat} {c : Array Value} {T : TypeId}, row w b = some (c, T) → o + vs.length ≤ c.size →
    w.setCells b o vs = w.setRow b (c.toList.take o ++ vs ++ c.toList.drop (o + vs.length)).toArray
  | [], o, w, b, c, T, h, _ => by
    have e : (c.toList.take o ++ [] ++ c.toList.drop (o + ([] : List Value).length)).toArray = c := by simp
    rw [e]
    exact (setRow_self h).symm
  | v :: r, o, w, b, c, T, h, hb => by
    have hlen : o + 1 + r.length ≤ c.size := by simp at hb; omega
    have ih := setCells_setRow r (o + 1) (w.setCell ⟨b, o, none⟩ v) (row_setCell h) (by simpa using hlen)
    show (w.setCell ⟨b, o, none⟩ v).setCells b (o + 1) r = _
    rw [ih, setCell_setRow]
    congr 2
    rw [Array.toList_setIfInBounds]
    have h1 : (c.toList.set o v).take (o + 1) = c.toList.take o ++ [v] := by
      rw [List.take_set, List.take_succ_eq_append_getElem (by simpa using (by omega : o < c.size))]
      rw [List.set_append_right _ _ (by simp; omega)]
      have : o - (List.take o c.toList).length = 0 := by simp; omega
      rw [this]; rfl
    have h2 : (c.toList.set o v).drop (o + 1 + r.length) = c.toList.drop (o + (v :: r).length) := by
      rw [List.drop_set_of_lt (by omega)]
      congr 1
      simp; omega
    rw [h1, h2]
    simp
theorem run_clear_row {P : Program} (w : World) {t e : TypeId} {z : Value} (ht : P.underlying t = some (.slice e)) (hv : ∀ w, (zeroValue e).run P w = .ok z w) (hz : z.cells = #[z]) (h1 : z.oneCell' = true) {b : Nat} {c : Array Value} {T : TypeId} (h : row w b = some (c, T)) (o n cap : Nat) (hn : 0 < n) (hb : o + n ≤ c.size) (ty : TypeId) :
    (Builtin.clear_ #[t] ty #[.slice (some ⟨b, o, none⟩) n cap]).run P w = .ok (.tuple #[]) (w.setRow b (c.toList.take o ++ List.replicate n z ++ c.toList.drop (o + n)).toArray) := by
  rw [Lib.run_clear_slice w t e ty z ht hv hz h1 b o n cap hn (fun j hj => ?_) (fun j _ => frozen_row h), setCells_setRow _ _ _ h (by simpa using hb)]
  · simp
  · rw [cell_row h, Array.getElem?_eq_getElem (by omega)]; rfl
/-- The first k of a list that a slice owns. -/
theorem ownsRow_take {w : World} {base n k : Nat} {e : TypeId} {g cap : Nat} {xs : List Value} (h : w.ownsRow base e 1 (.slice (some ⟨g, 0, none⟩) n cap) n xs) (hk : k ≤ n) : w.ownsRow base e 1 (.slice (some ⟨g, 0, none⟩) k cap) k (xs.take k) := by
  obtain ⟨hl, h2⟩ := h
  refine ⟨by simp; omega, ?_⟩
  rcases h2 with ⟨h3, _⟩ | ⟨g', cap', cur, h3, h4, h5, h6, h7, h8, h9⟩
  · cases h3
  · cases h3
    refine .inr ⟨g, cap, cur, rfl, h4, h5, by omega, h7, h8, ?_⟩
    rw [← h9, List.take_take]
    congr 1
    omega
theorem ownsRow_row {w : World} {base n : Nat} {e : TypeId} {g cap : Nat} {xs : List Value} (h : w.ownsRow base e 1 (.slice (some ⟨g, 0, none⟩) n cap) n xs) : ∃ cur, row w g = some (cur, e) ∧ cur.size = cap ∧ n ≤ cap ∧ cap ≤ maxLen ∧ cur.toList.take n = xs ∧ base ≤ g := by
  obtain ⟨hl, h2⟩ := h
  rcases h2 with ⟨h3, _⟩ | ⟨g', cap', cur, h3, h4, h5, h6, h7, h8, h9⟩
  · cases h3
  · cases h3
    exact ⟨cur, row_iff.2 h5, by omega, h6, h7, by simpa using h9, h4⟩
theorem ownsRow_of {w : World} {base n : Nat} {e : TypeId} {g cap : Nat} {cur : Array Value} (h : row w g = some (cur, e)) (hc : cur.size = cap) (hn : n ≤ cap) (hm : cap ≤ maxLen) (hb : base ≤ g) : w.ownsRow base e 1 (.slice (some ⟨g, 0, none⟩) n cap) n (cur.toList.take n) :=
  ⟨by simp; omega, .inr ⟨g, cap, cur, rfl, hb, row_iff.1 h, hn, hm, by omega, by simp⟩⟩
end Go.Nd
