/- A store without one of its nodes; a node called by another name: plain facts. -/
import Derived.Test.YtfbcdhcgmncklaaDoorAfter
namespace Go.Proofs.YtfbcdhcgmncklaaDoor
open Go Go.RowKit Go.Nd Go.Maps Go.MuLone Go.RwLone
set_option maxRecDepth 100000

/-- The list without the node of path p. -/
def _root_.Go.Nd.less (l : List Ent) (p : Int) : List Ent := l.filter (fun x => x.inf.path != p)
theorem less_mem {l : List Ent} {p : Int} {x : Ent} : x ∈ less l p ↔ x ∈ l ∧ x.inf.path ≠ p := by
  unfold less; rw [List.mem_filter]; simp
theorem kids_less (l : List Ent) (p q : Int) : kids (less l p) q = (kids l q).filter (· != p) := by
  unfold kids less
  rw [List.filter_map, List.filter_filter, List.filter_filter]
  congr 1
  apply List.filter_congr
  intro x _
  simp only [Function.comp]
  exact Bool.and_comm _ _
theorem find_less (l : List Ent) (p q : Int) : find (less l p) q = if q = p then none else find l q := by
  unfold find less
  rw [List.find?_filter]
  split
  · rename_i h
    subst h
    rw [List.find?_eq_none]
    intro x _
    simp
  · rename_i h
    congr 1
    funext x
    by_cases hx : x.inf.path = q
    · have : x.inf.path ≠ p := fun e => h (hx.symm.trans e)
      simp [hx, h]
    · simp [hx]
theorem paths_less (l : List Ent) (p : Int) : (less l p).map (·.inf.path) = (l.map (·.inf.path)).filter (· != p) := by
  unfold less
  rw [List.filter_map]
  rfl
theorem child_less {A : St} (hA : StOk A) {e : Ent} (he : e ∈ A.l) (h1 : e.inf.path ≠ 1) (q : Int) (s : ByteArray) : child (less A.l e.inf.path) q s = if q = e.inf.parent ∧ s = e.inf.name then none else child A.l q s := by
  unfold child less
  rw [List.find?_filter]
  split
  · rename_i h
    obtain ⟨rfl, rfl⟩ := h
    rw [List.find?_eq_none.2, Option.map_none]
    intro x hx hh
    have hh := of_decide_eq_true hh
    simp only [Bool.and_eq_true, bne_iff_ne, Ent.kidOf, beq_iff_eq] at hh
    obtain ⟨h2, ⟨h3, h4⟩, h5⟩ := hh
    have := hA.name x hx e he h4 h1 h3 ((MapKept.bytes_beq _ _).1 h5)
    exact h2 (by rw [this])
  · rename_i h
    have : A.l.find? (fun x => decide ((x.inf.path != e.inf.path) = true ∧ (x.kidOf q && x.inf.name == s) = true)) = A.l.find? (fun x => x.kidOf q && x.inf.name == s) := by
      have hh : ∀ x ∈ A.l, (decide ((x.inf.path != e.inf.path) = true ∧ (x.kidOf q && x.inf.name == s) = true)) = (x.kidOf q && x.inf.name == s) := fun x hx => by
        by_cases hp : x.inf.path = e.inf.path
        · obtain rfl := path_inj hA hx he hp
          have : (x.kidOf q && x.inf.name == s) = false := by
            rw [Bool.and_eq_false_iff]
            by_cases hq : q = x.inf.parent
            · right
              cases hb : x.inf.name == s with
              | false => rfl
              | true => exact absurd ⟨hq, ((MapKept.bytes_beq _ _).1 hb).symm⟩ h
            · left
              have : (x.inf.parent == q) = false := by rw [beq_eq_false_iff_ne]; exact Ne.symm hq
              simp [Ent.kidOf, this]
          rw [this]; simp
        · have : (x.inf.path != e.inf.path) = true := by simpa using hp
          rw [this]; simp
      clear h he h1 hA
      generalize A.l = l at hh
      induction l with
      | nil => rfl
      | cons a l ih => rw [List.find?_cons, List.find?_cons, hh a (by simp), ih (fun x hx => hh x (by simp [hx]))]
    rw [this]
theorem drop_l {A : St} {e : Ent} (h1 : e.inf.path ≠ 1) (h2 : kids A.l e.inf.path = []) : A.drop e = ((e.inf.path, 0), { A with l := less A.l e.inf.path }) := by
  unfold St.drop
  rw [if_neg h1, if_neg (by rw [h2]; simp)]
  rfl
theorem less_len {A : St} (hA : StOk A) {e : Ent} (he : e ∈ A.l) : (less A.l e.inf.path).length + 1 = A.l.length := by
  have h1 : (A.l.map (fun x : Ent => x.inf.path)).Pairwise (· < ·) := List.pairwise_map.2 hA.rise
  have hm : e.inf.path ∈ A.l.map (fun x : Ent => x.inf.path) := List.mem_map.2 ⟨e, he, rfl⟩
  obtain ⟨hh1, hh2⟩ := hit_of_mem h1 hm
  have := congrArg List.length (erase_eq h1 hh1 hh2)
  rw [← paths_less, List.length_map] at this
  rw [List.length_map] at hh1
  rw [← this]
  simp
  omega
theorem stOk_drop {A : St} (h : StOk A) {e : Ent} (he : e ∈ A.l) (h1 : e.inf.path ≠ 1) (h2 : kids A.l e.inf.path = []) : StOk { A with l := less A.l e.inf.path } := by
  have mem := fun x => @less_mem A.l e.inf.path x
  refine { most0 := h.most0, most1 := h.most1, len := ?_, next0 := h.next0, rise := ?_, below := ?_, ok := ?_, root := ?_, parent := ?_, name := ?_ }
  · have := less_len h he
    have := h.len
    show ((less A.l e.inf.path).length : Int) ≤ A.most
    omega
  · exact List.Pairwise.filter _ h.rise
  · exact fun x hx => h.below x ((mem x).1 hx).1
  · exact fun x hx => h.ok x ((mem x).1 hx).1
  · obtain ⟨r, t, h3, h4, h5, h6⟩ := h.root
    refine ⟨r, t.filter (fun x => x.inf.path != e.inf.path), ?_, h4, h5, h6⟩
    show less A.l e.inf.path = _
    unfold less
    rw [h3, List.filter_cons, if_pos (by rw [h4]; simpa using Ne.symm h1)]
  · intro x hx hn
    obtain ⟨hx1, hx2⟩ := (mem x).1 hx
    obtain ⟨q, hq, h3, h4, h5⟩ := h.parent x hx1 hn
    refine ⟨q, (mem q).2 ⟨hq, fun e1 => ?_⟩, h3, h4, h5⟩
    have hk : x.inf.path ∈ kids A.l e.inf.path := by
      unfold kids
      refine List.mem_map.2 ⟨x, List.mem_filter.2 ⟨hx1, ?_⟩, rfl⟩
      simp only [Ent.kidOf, Bool.and_eq_true, beq_iff_eq, bne_iff_ne]
      exact ⟨by rw [← h3, e1], hn⟩
    rw [h2] at hk
    cases hk
  · exact fun a ha b hb => h.name a ((mem a).1 ha).1 b ((mem b).1 hb).1
end Go.Proofs.YtfbcdhcgmncklaaDoor
