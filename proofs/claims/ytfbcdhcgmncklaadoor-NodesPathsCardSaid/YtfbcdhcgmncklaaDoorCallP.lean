/- A node called by another name: plain facts. -/
import Derived.Test.YtfbcdhcgmncklaaDoorDropS
namespace Go.Proofs.YtfbcdhcgmncklaaDoor
open Go Go.RowKit Go.Nd Go.Maps Go.MuLone Go.RwLone
set_option maxRecDepth 100000

/-- The node, called so. -/
def _root_.Go.Nd.Ent.named (e : Ent) (s : ByteArray) : Ent := { e with inf := { e.inf with name := s } }
theorem call_l {A : St} (hA : StOk A) {e : Ent} (he : e ∈ A.l) {s : ByteArray} (h1 : e.inf.path ≠ 1) (h2 : nameOk s = true) (h3 : (child A.l e.inf.parent s).any (· != e.inf.path) = false) : A.call e s = ((e.inf.path, 0), A.now e (e.named s)) := by
  unfold St.call
  rw [if_neg h1, if_neg (by rw [h2]; simp), if_neg (by rw [h3]; simp)]
  exact congrArg _ (now_upd hA he (fun x => x.named s))
theorem named_hg {A : St} (hA : StOk A) {e : Ent} (he : e ∈ A.l) (s : ByteArray) : ∀ x ∈ A.l, x.inf.path = e.inf.path → ((fun _ => e.named s) x : Ent).inf.path = x.inf.path ∧ ((fun _ => e.named s) x : Ent).inf.parent = x.inf.parent := fun x hx hp => by
  obtain rfl := path_inj hA hx he hp
  exact ⟨rfl, rfl⟩
theorem now_mem {A : St} {e e' : Ent} {x : Ent} (hx : x ∈ (A.now e e').l) : x = e' ∨ (x ∈ A.l ∧ x.inf.path ≠ e.inf.path) := by
  obtain ⟨y, hy, h1 | h1⟩ := upd_mem hx
  · exact .inl h1.2
  · exact .inr ⟨h1.2 ▸ hy, h1.2 ▸ h1.1⟩
theorem now_mem' {A : St} {e e' : Ent} {x : Ent} (hx : x ∈ A.l) (hp : x.inf.path ≠ e.inf.path) : x ∈ (A.now e e').l := by
  refine List.mem_map.2 ⟨x, hx, ?_⟩
  rw [if_neg (by simpa using hp)]
theorem now_self_mem {A : St} {e e' : Ent} (he : e ∈ A.l) : e' ∈ (A.now e e').l := by
  refine List.mem_map.2 ⟨e, he, ?_⟩
  rw [if_pos (by simp)]
theorem child_hit {A : St} (hA : StOk A) {x : Ent} (hx : x ∈ A.l) (h1 : x.inf.path ≠ 1) : child A.l x.inf.parent x.inf.name = some x.inf.path := by
  unfold child
  cases hf : A.l.find? (fun e => e.kidOf x.inf.parent && e.inf.name == x.inf.name) with
  | none =>
    rw [List.find?_eq_none] at hf
    have := hf x hx
    simp [Ent.kidOf, h1, (MapKept.bytes_beq x.inf.name x.inf.name).2 rfl] at this
  | some y =>
    have hy := List.mem_of_find?_eq_some hf
    have hm := List.find?_some hf
    simp only [Bool.and_eq_true, Ent.kidOf, beq_iff_eq, bne_iff_ne] at hm
    have := hA.name y hy x hx hm.1.2 h1 hm.1.1 ((MapKept.bytes_beq _ _).1 hm.2)
    rw [this]; rfl
theorem call_free {A : St} (hA : StOk A) {e : Ent} {s : ByteArray} (h3 : (child A.l e.inf.parent s).any (· != e.inf.path) = false) {x : Ent} (hx : x ∈ A.l) (hx1 : x.inf.path ≠ 1) (hp : x.inf.parent = e.inf.parent) (hn : x.inf.name = s) : x.inf.path = e.inf.path := by
  have := child_hit hA hx hx1
  rw [hp, hn] at this
  rw [this] at h3
  simpa using h3
theorem stOk_call {A : St} (h : StOk A) {e : Ent} (he : e ∈ A.l) {s : ByteArray} (h1 : e.inf.path ≠ 1) (h2 : nameOk s = true) (h3 : (child A.l e.inf.parent s).any (· != e.inf.path) = false) : StOk (A.now e (e.named s)) := by
  have hg := named_hg h he s
  have ho : EntOk (e.named s) := { h.ok e he with name := nameOk_size h2 }
  have mem := fun x (hx : x ∈ (A.now e (e.named s)).l) => now_mem hx
  refine { most0 := h.most0, most1 := h.most1, len := ?_, next0 := h.next0, rise := ?_, below := ?_, ok := ?_, root := ?_, parent := ?_, name := ?_ }
  · have : (A.now e (e.named s)).l.length = A.l.length := upd_len
    rw [this]; exact h.len
  · have h1 : (A.l.map (fun x : Ent => x.inf.path)).Pairwise (fun (a b : Int) => a < b) := List.pairwise_map.2 h.rise
    rw [← upd_path hg] at h1
    exact List.pairwise_map.1 h1
  · intro x hx
    rcases mem x hx with rfl | ⟨hx, _⟩
    · exact h.below e he
    · exact h.below x hx
  · intro x hx
    rcases mem x hx with rfl | ⟨hx, _⟩
    · exact ho
    · exact h.ok x hx
  · obtain ⟨r, t, g1, g2, g3, g4⟩ := h.root
    refine ⟨r, upd t e.inf.path (fun _ => e.named s), ?_, g2, g3, g4⟩
    unfold St.now upd
    rw [g1, List.map_cons, if_neg (by rw [g2]; simpa using Ne.symm h1)]
  · have par : ∀ y ∈ A.l, y.inf.path ≠ 1 → ∃ p ∈ (A.now e (e.named s)).l, p.inf.path = y.inf.parent ∧ isDir p.inf.mode = true ∧ p.inf.path < y.inf.path := fun y hy hn => by
      obtain ⟨q, hq, g1, g2, g3⟩ := h.parent y hy hn
      by_cases hqe : q.inf.path = e.inf.path
      · obtain rfl := path_inj h hq he hqe
        exact ⟨q.named s, now_self_mem hq, g1, g2, g3⟩
      · exact ⟨q, now_mem' hq hqe, g1, g2, g3⟩
    intro x hx hn
    rcases mem x hx with rfl | ⟨hx, _⟩
    · exact par e he hn
    · exact par x hx hn
  · intro x hx z hz hx1 hz1 hp hn
    rcases mem x hx with rfl | ⟨hx, hxp⟩
    · rcases mem z hz with rfl | ⟨hz, hzp⟩
      · rfl
      · exact absurd (call_free h h3 hz hz1 hp.symm hn.symm) hzp
    · rcases mem z hz with rfl | ⟨hz, hzp⟩
      · exact absurd (call_free h h3 hx hx1 hp hn) hxp
      · exact h.name x hx z hz hx1 hz1 hp hn

theorem childF_named {A : St} (h : StOk A) {e : Ent} (he : e ∈ A.l) {s : ByteArray} (h1 : e.inf.path ≠ 1) (h2 : nameOk s = true) (h3 : (child A.l e.inf.parent s).any (· != e.inf.path) = false) :
    childF (A.now e (e.named s)).l (.agg #[.int .u64 e.inf.parent, .string s]) = some (.int .u64 e.inf.path) ∧
    ∀ x, x ≠ .agg #[.int .u64 e.inf.parent, .string s] → childF (A.now e (e.named s)).l x = childF (less A.l e.inf.path) x := by
  refine ⟨?_, fun x hx => ?_⟩
  · have := child_hit (stOk_call h he h1 h2 h3) (now_self_mem (e' := e.named s) he) h1
    show (child _ _ _).map _ = _
    rw [show child (A.now e (e.named s)).l e.inf.parent s = some e.inf.path from this]; rfl
  · unfold childF
    cases hk : keyParts x with
    | none => rfl
    | some y =>
      obtain ⟨q, u⟩ := y
      have hxe := keyParts_inv hk
      simp only [Option.bind]
      congr 1
      have hne : ¬ (e.inf.parent = q ∧ s = u) := fun hh => hx (by rw [hxe, hh.1, hh.2])
      unfold child less St.now upd
      congr 1
      have hh : ∀ y ∈ A.l, ((fun x : Ent => x.kidOf q && x.inf.name == u) (if (y.inf.path == e.inf.path) = true then e.named s else y)) = (y.inf.path != e.inf.path && (y.kidOf q && y.inf.name == u)) ∧ (y.inf.path ≠ e.inf.path → (if (y.inf.path == e.inf.path) = true then e.named s else y) = y) := fun y hy => by
        by_cases hp : y.inf.path = e.inf.path
        · refine ⟨?_, fun hh => absurd hp hh⟩
          have e1 : (y.inf.path == e.inf.path) = true := by simpa using hp
          have e2 : (y.inf.path != e.inf.path) = false := by simpa using hp
          rw [if_pos e1, e2, Bool.false_and]
          show ((e.named s).kidOf q && s == u) = false
          rw [Bool.and_eq_false_iff]
          by_cases hq : e.inf.parent = q
          · right
            cases hb : s == u with
            | false => rfl
            | true => exact absurd ⟨hq, (MapKept.bytes_beq _ _).1 hb⟩ hne
          · left
            have : ((e.named s).inf.parent == q) = false := by rw [beq_eq_false_iff_ne]; exact hq
            simp [Ent.kidOf, this]
        · have e1 : (y.inf.path == e.inf.path) = false := by simpa using hp
          have e2 : (y.inf.path != e.inf.path) = true := by simpa using hp
          rw [e1, e2]
          exact ⟨by simp, fun _ => by simp⟩
      clear hx hk hxe hne h3 h2 h1 he h
      generalize A.l = l at hh
      induction l with
      | nil => rfl
      | cons a l ih =>
        have ha := hh a (by simp)
        rw [List.map_cons, List.find?_cons, List.filter_cons]
        dsimp only at ha ⊢
        rw [ha.1]
        by_cases hp : a.inf.path = e.inf.path
        · have e2 : (a.inf.path != e.inf.path) = false := by simpa using hp
          rw [e2, Bool.false_and, if_neg Bool.false_ne_true]
          exact ih (fun y hy => hh y (by simp [hy]))
        · have e2 : (a.inf.path != e.inf.path) = true := by simpa using hp
          rw [e2, Bool.true_and, if_pos rfl, List.find?_cons, ha.2 hp]
          have := ih (fun y hy => hh y (by simp [hy]))
          dsimp only at this
          rw [this]
end Go.Proofs.YtfbcdhcgmncklaaDoor
