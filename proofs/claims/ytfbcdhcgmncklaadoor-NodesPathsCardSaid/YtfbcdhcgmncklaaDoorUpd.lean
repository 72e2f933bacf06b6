/- A store one of whose nodes has turned (not its path, its parent, its name). -/
import Derived.Test.YtfbcdhcgmncklaaDoorMade
namespace Go.Proofs.YtfbcdhcgmncklaaDoor
open Go Go.RowKit Go.Nd Go.Maps Go.MuLone Go.RwLone
set_option maxRecDepth 100000

section
variable {l : List Ent} {p : Int} {g : Ent → Ent} (hg : ∀ x ∈ l, x.inf.path = p → (g x).inf.path = x.inf.path ∧ (g x).inf.parent = x.inf.parent)
theorem upd_mem {x : Ent} (h : x ∈ upd l p g) : ∃ y ∈ l, (y.inf.path = p ∧ x = g y) ∨ (y.inf.path ≠ p ∧ x = y) := by
  unfold upd at h
  obtain ⟨y, hy, rfl⟩ := List.mem_map.1 h
  refine ⟨y, hy, ?_⟩
  by_cases hp : y.inf.path = p
  · simp [hp]
  · right; simp [hp]
theorem upd_len : (upd l p g).length = l.length := by simp [upd]
include hg
theorem upd_path : (upd l p g).map (·.inf.path) = l.map (·.inf.path) := by
  unfold upd
  rw [List.map_map]
  apply List.map_congr_left
  intro x hx
  simp only [Function.comp]
  split
  · rename_i h; exact (hg x hx (by simpa using h)).1
  · rfl
theorem upd_kids (q : Int) : kids (upd l p g) q = kids l q := by
  unfold kids upd
  rw [List.filter_map, List.map_map]
  have e : l.filter ((fun x => x.kidOf q) ∘ fun e => if (e.inf.path == p) = true then g e else e) = l.filter (·.kidOf q) := by
    apply List.filter_congr
    intro x hx
    simp only [Function.comp]
    split
    · rename_i h
      obtain ⟨h1, h2⟩ := hg x hx (by simpa using h)
      simp [Ent.kidOf, h1, h2]
    · rfl
  rw [e]
  apply List.map_congr_left
  intro x hx
  simp only [Function.comp]
  split
  · rename_i h; exact (hg x (List.mem_filter.1 hx).1 (by simpa using h)).1
  · rfl
theorem upd_find (q : Int) : find (upd l p g) q = (find l q).map (fun x => if x.inf.path == p then g x else x) := by
  unfold find upd
  rw [List.find?_map]
  congr 1
  have : ∀ x ∈ l, ((fun e => e.inf.path == q) ∘ fun e => if (e.inf.path == p) = true then g e else e) x = (x.inf.path == q) := by
    intro x hx
    simp only [Function.comp]
    split
    · rename_i h; rw [(hg x hx (by simpa using h)).1]
    · rfl
  clear hg
  induction l with
  | nil => rfl
  | cons a l ih =>
    rw [List.find?_cons, List.find?_cons, this a (by simp), ih (fun x hx => this x (by simp [hx]))]
theorem upd_child (hn : ∀ x ∈ l, x.inf.path = p → (g x).inf.name = x.inf.name) (q : Int) (s : ByteArray) : child (upd l p g) q s = child l q s := by
  unfold child upd
  rw [List.find?_map, Option.map_map]
  have : ∀ x ∈ l, ((fun e => e.kidOf q && e.inf.name == s) ∘ fun e => if (e.inf.path == p) = true then g e else e) x = (x.kidOf q && x.inf.name == s) := by
    intro x hx
    simp only [Function.comp]
    split
    · rename_i h
      obtain ⟨h1, h2⟩ := hg x hx (by simpa using h)
      simp [Ent.kidOf, h1, h2, hn x hx (by simpa using h)]
    · rfl
  have e : l.find? ((fun e => e.kidOf q && e.inf.name == s) ∘ fun e => if (e.inf.path == p) = true then g e else e) = l.find? (fun e => e.kidOf q && e.inf.name == s) := by
    clear hg hn
    induction l with
    | nil => rfl
    | cons a l ih =>
      rw [List.find?_cons, List.find?_cons, this a (by simp), ih (fun x hx => this x (by simp [hx]))]
  rw [e]
  cases hf : l.find? (fun e => e.kidOf q && e.inf.name == s) with
  | none => rfl
  | some x =>
    simp only [Option.map_some, Function.comp]
    split
    · rename_i h; rw [(hg x (List.mem_of_find?_eq_some hf) (by simpa using h)).1]
    · rfl
end

/-- The node e has become e'. -/
def _root_.Go.Nd.St.now (A : St) (e e' : Ent) : St := { A with l := upd A.l e.inf.path (fun _ => e') }
structure Alike (e e' : Ent) : Prop where
  path : e'.inf.path = e.inf.path
  parent : e'.inf.parent = e.inf.parent
  name : e'.inf.name = e.inf.name
  dir : isDir e'.inf.mode = isDir e.inf.mode

theorem now_upd {A : St} (h : StOk A) {e : Ent} (he : e ∈ A.l) (g : Ent → Ent) : { A with l := upd A.l e.inf.path g } = A.now e (g e) := by
  unfold St.now upd
  congr 1
  apply List.map_congr_left
  intro x hx
  split
  · rename_i hp
    rw [path_inj h hx he (by simpa using hp)]
  · rfl
theorem now_hg {A : St} (h : StOk A) {e e' : Ent} (he : e ∈ A.l) (a : Alike e e') : ∀ x ∈ A.l, x.inf.path = e.inf.path → ((fun _ => e') x : Ent).inf.path = x.inf.path ∧ ((fun _ => e') x : Ent).inf.parent = x.inf.parent := fun x hx hp => by
  obtain rfl := path_inj h hx he hp
  exact ⟨a.path, a.parent⟩

theorem stOk_now {A : St} (h : StOk A) {e e' : Ent} (he : e ∈ A.l) (a : Alike e e') (ho : EntOk e') : StOk (A.now e e') := by
  have hg := now_hg h he a
  have mem : ∀ x ∈ (A.now e e').l, ∃ y ∈ A.l, Alike y x ∧ (x = y ∨ x = e') := fun x hx => by
    obtain ⟨y, hy, h1 | h1⟩ := upd_mem hx
    · obtain rfl := path_inj h hy he h1.1
      exact ⟨y, hy, h1.2 ▸ a, .inr h1.2⟩
    · exact ⟨y, hy, h1.2 ▸ ⟨rfl, rfl, rfl, rfl⟩, .inl h1.2⟩
  have mem' : ∀ y ∈ A.l, ∃ x ∈ (A.now e e').l, Alike y x := fun y hy => by
    by_cases hp : y.inf.path = e.inf.path
    · obtain rfl := path_inj h hy he hp
      exact ⟨e', List.mem_map.2 ⟨y, hy, by simp⟩, a⟩
    · exact ⟨y, List.mem_map.2 ⟨y, hy, by simp [hp]⟩, ⟨rfl, rfl, rfl, rfl⟩⟩
  refine { most0 := h.most0, most1 := h.most1, len := ?_, next0 := h.next0, rise := ?_, below := ?_, ok := ?_, root := ?_, parent := ?_, name := ?_ }
  · have : (A.now e e').l.length = A.l.length := upd_len
    rw [this]; exact h.len
  · have h1 : (A.l.map (fun x : Ent => x.inf.path)).Pairwise (fun (a b : Int) => a < b) := List.pairwise_map.2 h.rise
    rw [← upd_path hg] at h1
    exact List.pairwise_map.1 h1
  · intro x hx
    obtain ⟨y, hy, ha, _⟩ := mem x hx
    rw [ha.path]; exact h.below y hy
  · intro x hx
    obtain ⟨y, hy, _, rfl | rfl⟩ := mem x hx
    · exact h.ok _ hy
    · exact ho
  · obtain ⟨r, t, h1, h2, h3, h4⟩ := h.root
    refine ⟨if r.inf.path == e.inf.path then e' else r, upd t e.inf.path (fun _ => e'), ?_, ?_⟩
    · unfold St.now upd; rw [h1]; rfl
    · split
      · rename_i hp
        obtain rfl := path_inj h (by rw [h1]; simp) he (by simpa using hp : r.inf.path = e.inf.path)
        exact ⟨a.path.trans h2, a.parent.trans h3, a.dir.trans h4⟩
      · exact ⟨h2, h3, h4⟩
  · intro x hx hn
    obtain ⟨y, hy, ha, _⟩ := mem x hx
    obtain ⟨q, hq, h1, h2, h3⟩ := h.parent y hy (ha.path ▸ hn)
    obtain ⟨q', hq', hb⟩ := mem' q hq
    exact ⟨q', hq', by rw [hb.path, ha.parent]; exact h1, by rw [hb.dir]; exact h2, by rw [hb.path, ha.path]; exact h3⟩
  · intro x hx z hz hx1 hz1 hp hnm
    obtain ⟨y, hy, ha, hy2⟩ := mem x hx
    obtain ⟨v, hv, hb, hv2⟩ := mem z hz
    have := h.name y hy v hv (ha.path ▸ hx1) (hb.path ▸ hz1) (by rw [← ha.parent, ← hb.parent]; exact hp) (by rw [← ha.name, ← hb.name]; exact hnm)
    subst this
    obtain ⟨y1, _, h1 | h1⟩ := upd_mem hx
    · obtain ⟨y2, _, h2 | h2⟩ := upd_mem hz
      · rw [h1.2, h2.2]
      · exact absurd ((h2.2 ▸ hb.path.trans (ha.path.symm.trans (h1.2 ▸ a.path))) : y2.inf.path = e.inf.path) h2.1
    · obtain ⟨y2, _, h2 | h2⟩ := upd_mem hz
      · exact absurd ((h1.2 ▸ ha.path.trans (hb.path.symm.trans (h2.2 ▸ a.path))) : y1.inf.path = e.inf.path) h1.1
      · rcases hy2 with rfl | rfl
        · rcases hv2 with rfl | rfl
          · rfl
          · exact absurd (h2.2 ▸ a.path) h2.1
        · exact absurd (h1.2 ▸ a.path) h1.1

theorem now_store {w w' : World} {own own' : Own} {s : Nat} {A : St} (hA : StOk A) {mb cb : Nat} {ov : Value} {nb : Int → Nat} (hr : StoreRep w own s A mb cb ov nb) {e e' : Ent} (he : e ∈ A.l) (a : Alike e e')
    {S : Nat → Prop} (k : Keep w w' S) (hS : ∀ b, S b → b = nb e.inf.path ∨ own b = some (Role.blocks e.inf.path) ∨ (∃ j, own b = some (Role.data e.inf.path j)) ∨ own b = none)
    (ho : ∀ b r, own b = some r → own' b = some r) (dom : ∀ b, own' b ≠ none → b < w'.heap.size) {kv bv' : Value} {bs' : List (Option Nat)} (hn : NodeRep w' own' A.l e' (nb e.inf.path) kv bv' bs') :
    StoreRep w' own' s (A.now e e') mb cb ov nb := by
  have hg := now_hg hA he a
  obtain ⟨kv0, bv0, bs0, he0⟩ := hr.node e he
  have hS2 : ∀ b r, own b = some r → r.of ≠ some e.inf.path → ¬ S b := fun b r hb hro h => by
    rcases hS b h with rfl | h | ⟨j, h⟩ | h
    · rw [he0.nown] at hb; cases hb; exact hro rfl
    · rw [h] at hb; cases hb; exact hro rfl
    · rw [h] at hb; cases hb; exact hro rfl
    · rw [h] at hb; cases hb
  have hlen : (A.now e e').l.length = A.l.length := upd_len
  have hnn : ∀ x ∈ A.l, x.inf.path = e.inf.path → ((fun _ => e') x : Ent).inf.name = x.inf.name := fun x hx hp => by
    obtain rfl := path_inj hA hx he hp
    exact a.name
  have hnf : nodesF (A.now e e').l nb = nodesF A.l nb := by
    funext v
    unfold nodesF
    split
    · show Option.map _ (find (upd _ _ _) _) = _
      rw [upd_find hg, Option.map_map]; rfl
    · rfl
  have hcf : childF (A.now e e').l = childF A.l := by
    funext v
    unfold childF
    congr 1
    funext x
    show Option.map _ (child (upd _ _ _) _ _) = _
    rw [upd_child hg hnn]
  refine { dom := dom, sown := ho _ _ hr.sown, srow := k.row hr.srow (hS2 _ _ hr.sown (by simp [Role.of])), mown := ho _ _ hr.mown, mmap := ?_, cown := ho _ _ hr.cown, cmap := ?_, orow := ?_, oown := fun g hg => ho _ _ (hr.oown g hg), node := ?_ }
  · rw [hlen, hnf]; exact hr.mmap.keep k (hS2 _ _ hr.mown (by simp [Role.of]))
  · obtain ⟨n, h⟩ := hr.cmap
    rw [hcf]; exact ⟨n, h.keep k (hS2 _ _ hr.cown (by simp [Role.of]))⟩
  · have hp : (A.now e e').l.map (·.inf.path) = A.l.map (·.inf.path) := upd_path hg
    rw [hlen, hp]; exact ownsRow_keep k hr.orow (fun g hg => hS2 _ _ (hr.oown g hg) (by simp [Role.of]))
  · intro x hx
    have hk : ∀ q, kids (A.now e e').l q = kids A.l q := fun q => upd_kids hg q
    obtain ⟨y, hy, h1 | h1⟩ := upd_mem hx
    · obtain rfl := path_inj hA hy he h1.1
      have hxe : x = e' := h1.2
      subst hxe
      rw [a.path]
      exact ⟨kv, bv', bs', ⟨hn.nown, hn.nrow, by rw [hk]; exact hn.nkids, hn.kown, hn.bytes⟩⟩
    · obtain ⟨_, rfl⟩ := h1
      obtain ⟨kv2, bv2, bs2, h2⟩ := hr.node x hy
      have h3 := h2.keep k (fun b r hb hro => hS2 b r hb (by rw [hro]; intro h; injection h with h; rename_i hne; exact hne h))
      exact ⟨kv2, bv2, bs2, ⟨ho _ _ h3.nown, h3.nrow, by rw [hk]; exact h3.nkids, fun g hg => ho _ _ (h3.kown g hg), h3.bytes.own ho⟩⟩
end Go.Proofs.YtfbcdhcgmncklaaDoor
