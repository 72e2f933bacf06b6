/- A store with a node more; (*Store).makes as a store's operation. -/
import Derived.Test.YtfbcdhcgmncklaaDoorMakesE
namespace Go.Proofs.YtfbcdhcgmncklaaDoor
open Go Go.RowKit Go.Nd Go.Maps Go.MuLone Go.RwLone
set_option maxRecDepth 100000

/-- What an operation does to the world beyond its store. -/
structure Steps (w w' : World) (own own' : Own) : Prop where
  keep : Keep w w' (fun b => own b ≠ none)
  fresh : ∀ b, own' b ≠ none → own b ≠ none ∨ w.heap.size ≤ b
theorem Steps.refl (w : World) (own : Own) : Steps w w own own := ⟨Keep.refl _ _, fun _ h => .inl h⟩
theorem Steps.of_keep {w w' : World} (own : Own) (h : Keep w w' (fun _ => False)) : Steps w w' own own := ⟨h.mono (fun _ _ h => h.elim), fun _ h => .inl h⟩
theorem Steps.trans {a b c : World} {o1 o2 o3 : Own} (h : Steps a b o1 o2) (k : Steps b c o2 o3) : Steps a c o1 o3 := by
  refine ⟨h.keep.trans k.keep (fun i hi h2 => ?_), fun i h3 => ?_⟩
  · rcases h.fresh i h2 with h | h
    · exact h
    · omega
  · rcases k.fresh i h3 with h4 | h4
    · exact h.fresh i h4
    · exact .inr (Nat.le_trans h.keep.size h4)

theorem BytesRep.own {w : World} {own own' : Own} {e : Ent} {bv : Value} {bs : List (Option Nat)} (h : BytesRep w own e bv bs) (ho : ∀ b r, own b = some r → own' b = some r) : BytesRep w own' e bv bs :=
  ⟨h.brow, fun g hg => ho _ _ (h.bown g hg), h.blen, h.bnone, fun k b hb => ⟨ho _ _ (h.bsome k b hb).1, (h.bsome k b hb).2⟩, h.bbey⟩
theorem BytesRep.keepB {w w' : World} {S : Nat → Prop} (k : Keep w w' S) {own : Own} {e : Ent} {bv : Value} {bs : List (Option Nat)} (h : BytesRep w own e bv bs) (hS : ∀ b, (own b = some (Role.blocks e.inf.path) ∨ ∃ k, own b = some (Role.data e.inf.path k)) → ¬ S b) : BytesRep w' own e bv bs :=
  ⟨ownsRow_keep k h.brow (fun g hg => hS g (.inl (h.bown g hg))), h.bown, h.blen, h.bnone,
   fun i b hb => ⟨(h.bsome i b hb).1, k.row (h.bsome i b hb).2 (hS b (.inr ⟨_, (h.bsome i b hb).1⟩))⟩, h.bbey⟩
theorem path_inj {A : St} (h : StOk A) {a b : Ent} (ha : a ∈ A.l) (hb : b ∈ A.l) (e : a.inf.path = b.inf.path) : a = b := by
  have := h.rise
  revert ha hb
  generalize A.l = l at this
  intro ha hb
  induction l with
  | nil => cases ha
  | cons x l ih =>
    rw [List.pairwise_cons] at this
    rcases List.mem_cons.1 ha with h1 | h1
    · rcases List.mem_cons.1 hb with h2 | h2
      · rw [h1, h2]
      · have := this.1 _ h2; rw [h1] at e; omega
    · rcases List.mem_cons.1 hb with h2 | h2
      · have := this.1 _ h1; rw [h2] at e; omega
      · exact ih this.2 h1 h2
theorem find_mem {A : St} (h : StOk A) {e : Ent} (he : e ∈ A.l) : find A.l e.inf.path = some e := by
  cases hf : find A.l e.inf.path with
  | some x =>
    obtain ⟨hx, hp⟩ := find_path hf
    rw [path_inj h hx he hp]
  | none =>
    unfold find at hf
    rw [List.find?_eq_none] at hf
    have := hf e he
    simp at this
theorem find_next {A : St} (h : StOk A) : find A.l A.next = none := by
  unfold find
  rw [List.find?_eq_none]
  intro e he
  have := h.below e he
  simp; omega
theorem parent_below {A : St} (h : StOk A) {e : Ent} (he : e ∈ A.l) : e.inf.parent < A.next := by
  by_cases h1 : e.inf.path = 1
  · obtain ⟨r, t, h2, h3, h4, _⟩ := h.root
    have hr : r ∈ A.l := by rw [h2]; simp
    rw [path_inj h he hr (by omega), h4]
    have := h.next0
    omega
  · obtain ⟨p, hp, h2, _, h3⟩ := h.parent e he h1
    have := h.below e he
    omega
theorem kids_next {A : St} (h : StOk A) : kids A.l A.next = [] := by
  unfold kids
  rw [List.map_eq_nil_iff, List.filter_eq_nil_iff]
  intro e he
  have := parent_below h he
  have h2 : (e.inf.parent == A.next) = false := by rw [beq_eq_false_iff_ne]; omega
  simp [Ent.kidOf, h2]

theorem u64s_append (a b : List Int) : u64s (a ++ b) = u64s a ++ u64s b := by simp [u64s]

/-- The nodes' places with one more. -/
def nbMore (nb : Int → Nat) (p : Int) (g : Nat) : Int → Nat := fun q => if q = p then g else nb q

theorem nodesF_more {A : St} (h : StOk A) (nb : Int → Nat) (d : Int) (f : Inf) (g : Nat) :
    nodesF (A.l ++ [newEnt A.next d f]) (nbMore nb A.next g) (.int .u64 A.next) = some (.pointer (some ⟨g, 0, none⟩)) := by
  simp only [nodesF]
  rw [find_append (fun e he => by have := h.below e he; simp [newEnt]; omega)]
  simp [newEnt, nbMore]
theorem nodesF_other {A : St} (h : StOk A) (nb : Int → Nat) (d : Int) (f : Inf) (g : Nat) (x : Value) (hx : x ≠ .int .u64 A.next) :
    nodesF (A.l ++ [newEnt A.next d f]) (nbMore nb A.next g) x = nodesF A.l nb x := by
  unfold nodesF
  split
  · rename_i p
    have hp : p ≠ A.next := fun e => hx (by rw [e])
    rw [find_append (fun e he => by have := h.below e he; simp [newEnt]; omega), if_neg (by simpa [newEnt] using hp)]
    simp [nbMore, hp]
  · rfl
theorem childF_more {A : St} (h : StOk A) {d : Int} {f : Inf} (hc : child A.l d f.name = none) :
    childF (A.l ++ [newEnt A.next d f]) (.agg #[.int .u64 d, .string f.name]) = some (.int .u64 A.next) := by
  have hn := h.next0
  simp only [childF, keyParts, Option.bind]
  rw [child_append, hc, newEnt_kidOf (by omega)]
  simp [newEnt, (MapKept.bytes_beq f.name f.name).2 rfl]
theorem childF_other {A : St} (h : StOk A) {d : Int} {f : Inf} (x : Value) (hx : x ≠ .agg #[.int .u64 d, .string f.name]) :
    childF (A.l ++ [newEnt A.next d f]) x = childF A.l x := by
  have hn := h.next0
  unfold childF
  cases hk : keyParts x with
  | none => rfl
  | some y =>
    obtain ⟨p, s⟩ := y
    have hxe := keyParts_inv hk
    simp only [Option.bind]
    rw [child_append, newEnt_kidOf (by omega)]
    have : ((d == p) && (newEnt A.next d f).inf.name == s) = false := by
      rw [Bool.and_eq_false_iff]
      by_cases hp : d = p
      · right
        subst hp
        cases hb : (newEnt A.next d f).inf.name == s with
        | false => rfl
        | true =>
          have := (MapKept.bytes_beq _ _).1 hb
          exact absurd hxe (by rw [← this]; exact hx)
      · left; simpa using hp
    rw [this]
    simp

def ownMore (own : Own) (z g : Nat) (p dp : Int) (ov kv : Value) : Own := fun b =>
  if b < z then own b else if b = g then some (Role.node p) else if ov.ownBlock = some b then some Role.order else if kv.ownBlock = some b then some (Role.kids dp) else none

theorem made_store {w w1 w2 w3 : World} {own : Own} {s : Nat} {A : St} (hA : StOk A) {mb cb : Nat} {ov : Value} {nb : Int → Nat} (hr : StoreRep w own s A mb cb ov nb) (t1 : Turn w w1 s)
    {d : Ent} (hd : d ∈ A.l) {kv bv : Value} {bs : List (Option Nat)} (hdr : NodeRep w own A.l d (nb d.inf.path) kv bv bs) {f : Inf} {m g : Nat} {ov' kv' : Value}
    (mk : MadeOk w1 w2 s mb cb (nb d.inf.path) A.l.length (kids A.l d.inf.path).length m A.most A.next ov kv bv d.inf f (fun g => nodesF (A.l ++ [newEnt A.next d.inf.path f]) (nbMore nb A.next g)) (childF A.l) (childF (A.l ++ [newEnt A.next d.inf.path f])) (u64s (A.l.map (·.inf.path))) (u64s (kids A.l d.inf.path)) g ov' kv')
    (t3 : Turn w2 w3 s) (r3 : row w3 s = some (storeC 0 0 A.most (A.next + 1) mb ov' cb, 101)) :
    ∃ own', StoreRep w3 own' s { A with next := A.next + 1, l := A.l ++ [newEnt A.next d.inf.path f] } mb cb ov' (nbMore nb A.next g) ∧ Steps w w3 own own' := by
  have z1 : w1.heap.size = w.heap.size := t1.size
  have z2 := mk.keep.size
  have z3 : w3.heap.size = w2.heap.size := t3.size
  have hg0 := mk.g0
  have hg1 := row_lt mk.erow
  have dlt : ∀ b r, own b = some r → b < w.heap.size := fun b r h => hr.dom b (by rw [h]; simp)
  have hs := dlt _ _ hr.sown
  have hmb := dlt _ _ hr.mown
  have hcb := dlt _ _ hr.cown
  have hnb := dlt _ _ hdr.nown
  have hms : mb ≠ s := fun e => by have := hr.mown; rw [e, hr.sown] at this; cases this
  have hcs : cb ≠ s := fun e => by have := hr.cown; rw [e, hr.sown] at this; cases this
  have hns : nb d.inf.path ≠ s := fun e => by have := hdr.nown; rw [e, hr.sown] at this; cases this
  have hgs : g ≠ s := by omega
  have old : ∀ b r, own b = some r → ownMore own w.heap.size g A.next d.inf.path ov' kv' b = some r := fun b r h => by
    unfold ownMore; rw [if_pos (dlt b r h)]; exact h
  have oloc : ∀ x, ov'.ownBlock = some x → ownMore own w.heap.size g A.next d.inf.path ov' kv' x = some Role.order ∧ x ≠ s := fun x hx => by
    rcases mk.oloc with h | ⟨y, h, h1, h2⟩
    · rw [h] at hx
      have := hr.oown x hx
      exact ⟨old _ _ this, fun e => by rw [e, hr.sown] at this; cases this⟩
    · rw [h] at hx; cases hx
      refine ⟨?_, by omega⟩
      unfold ownMore
      rw [if_neg (by omega), if_neg (by omega), if_pos h]
  have kloc : ∀ x, kv'.ownBlock = some x → ownMore own w.heap.size g A.next d.inf.path ov' kv' x = some (Role.kids d.inf.path) ∧ x ≠ s := fun x hx => by
    rcases mk.kloc with h | ⟨y, h, h1, h2, h3⟩
    · rw [h] at hx
      have := hdr.kown x hx
      exact ⟨old _ _ this, fun e => by rw [e, hr.sown] at this; cases this⟩
    · rw [h] at hx; cases hx
      refine ⟨?_, by omega⟩
      unfold ownMore
      rw [if_neg (by omega), if_neg (by omega), if_neg h3, if_pos h]
  have kAll : Keep w w3 (fun b => b = s ∨ b = mb ∨ b = cb ∨ b = nb d.inf.path ∨ ov.ownBlock = some b ∨ kv.ownBlock = some b) :=
    ((t1.keep.mono (fun _ _ h => .inl h)).trans mk.keep (fun _ _ h => h)).trans (t3.keep.mono (S' := fun b => b = s ∨ b = mb ∨ b = cb ∨ b = nb d.inf.path ∨ ov.ownBlock = some b ∨ kv.ownBlock = some b) (fun _ _ h => .inl h)) (fun _ _ h => h)
  have own_of : ∀ b, (b = s ∨ b = mb ∨ b = cb ∨ b = nb d.inf.path ∨ ov.ownBlock = some b ∨ kv.ownBlock = some b) → (∃ r, own b = some r ∧ (r.of = none ∨ r.of = some d.inf.path)) := fun b h => by
    rcases h with rfl | rfl | rfl | rfl | h | h
    · exact ⟨_, hr.sown, .inl rfl⟩
    · exact ⟨_, hr.mown, .inl rfl⟩
    · exact ⟨_, hr.cown, .inl rfl⟩
    · exact ⟨_, hdr.nown, .inr rfl⟩
    · exact ⟨_, hr.oown _ h, .inl rfl⟩
    · exact ⟨_, hdr.kown _ h, .inr rfl⟩
  have hpn : ∀ e ∈ A.l, e.inf.path ≠ A.next := fun e he => by have := hA.below e he; omega
  refine ⟨ownMore own w.heap.size g A.next d.inf.path ov' kv', { dom := ?_, sown := old _ _ hr.sown, srow := r3, mown := old _ _ hr.mown, mmap := ?_, cown := old _ _ hr.cown, cmap := ?_, orow := ?_, oown := fun x hx => (oloc x hx).1, node := ?_ }, ⟨kAll.mono (fun b _ h => by obtain ⟨r, h, _⟩ := own_of b h; rw [h]; simp), fun b hb => ?_⟩⟩
  · intro b hb
    unfold ownMore at hb
    split at hb
    · omega
    split at hb
    · omega
    split at hb
    · rename_i h; have := (mk.order.lt b h).2; omega
    split at hb
    · rename_i h; have := (mk.kids.lt b h).2; omega
    · exact absurd rfl hb
  · have := mk.nodes.keep t3.keep hms
    simpa using this
  · obtain ⟨m', h⟩ := mk.child
    exact ⟨m', h.keep t3.keep hcs⟩
  · have := ownsRow_keep t3.keep mk.order (fun x hx => (oloc x hx).2)
    simpa [u64s, newEnt] using this
  · intro e he
    rcases List.mem_append.1 he with he | he
    · have hne := hpn e he
      have hnbe : nbMore nb A.next g e.inf.path = nb e.inf.path := by simp [nbMore, hne]
      rw [hnbe]
      by_cases hed : e.inf.path = d.inf.path
      · obtain rfl := path_inj hA he hd hed
        have hk : kids (A.l ++ [newEnt A.next e.inf.path f]) e.inf.path = kids A.l e.inf.path ++ [A.next] := by
          have := hA.next0
          rw [kids_append, newEnt_kidOf (by omega)]; simp [newEnt]
        refine ⟨kv', bv, bs, ⟨old _ _ hdr.nown, t3.keep.row mk.nrow hns, ?_, fun x hx => (kloc x hx).1, ?_⟩⟩
        · have := ownsRow_keep t3.keep mk.kids (fun x hx => (kloc x hx).2)
          rw [hk, u64s_append]
          simpa [u64s] using this
        · refine (hdr.bytes.keepB kAll (fun b hb h => ?_)).own old
          have hb2 : own b ≠ some Role.store ∧ own b ≠ some Role.nodes ∧ own b ≠ some Role.child ∧ own b ≠ some Role.order ∧ own b ≠ some (Role.node e.inf.path) ∧ own b ≠ some (Role.kids e.inf.path) := by
            rcases hb with hb | ⟨k, hb⟩ <;> rw [hb] <;> simp
          rcases h with rfl | rfl | rfl | rfl | h | h
          · exact hb2.1 hr.sown
          · exact hb2.2.1 hr.mown
          · exact hb2.2.2.1 hr.cown
          · exact hb2.2.2.2.2.1 hdr.nown
          · exact hb2.2.2.2.1 (hr.oown _ h)
          · exact hb2.2.2.2.2.2 (hdr.kown _ h)
      · obtain ⟨kv2, bv2, bs2, h2⟩ := hr.node e he
        have hk : kids (A.l ++ [newEnt A.next d.inf.path f]) e.inf.path = kids A.l e.inf.path := by
          have := hA.next0
          rw [kids_append, newEnt_kidOf (by omega)]
          have : (d.inf.path == e.inf.path) = false := by rw [beq_eq_false_iff_ne]; exact fun h => hed h.symm
          simp [this]
        have h3 := h2.keep kAll (fun b r hb hro h => by
          obtain ⟨r', h', ho⟩ := own_of b h
          rw [hb] at h'; cases h'
          rcases ho with ho | ho
          · rw [ho] at hro; cases hro
          · rw [ho] at hro; injection hro with hro; exact hed hro.symm)
        refine ⟨kv2, bv2, bs2, ⟨old _ _ h3.nown, h3.nrow, by rw [hk]; exact h3.nkids, fun x hx => old _ _ (h3.kown x hx), h3.bytes.own old⟩⟩
    · simp at he; subst he
      have hkx : kids (A.l ++ [newEnt A.next d.inf.path f]) A.next = [] := by
        have h0 := hA.next0
        have h1 := hA.below d hd
        rw [kids_append, newEnt_kidOf (by omega), kids_next hA]
        have : (d.inf.path == A.next) = false := by rw [beq_eq_false_iff_ne]; omega
        simp [this]
      have hnbg : nbMore nb A.next g A.next = g := by simp [nbMore]
      have hpx : (newEnt A.next d.inf.path f).inf.path = A.next := rfl
      rw [hpx, hnbg]
      refine ⟨.slice none 0 0, .slice none 0 0, [], ⟨?_, ?_, ?_, fun x hx => (by cases hx), ⟨World.ownsRow_nil _ _ _ _, fun x hx => (by cases hx), Nat.zero_le _, fun k h => by simp at h, fun k b h => by simp at h, fun _ _ => rfl⟩⟩⟩
      · rw [hpx]; unfold ownMore; rw [if_neg (by omega), if_pos rfl]
      · exact t3.keep.row mk.erow hgs
      · rw [hpx, hkx]; exact World.ownsRow_nil _ _ _ _
  · unfold ownMore at hb
    split at hb
    · exact .inl hb
    · exact .inr (by omega)
end Go.Proofs.YtfbcdhcgmncklaaDoor
