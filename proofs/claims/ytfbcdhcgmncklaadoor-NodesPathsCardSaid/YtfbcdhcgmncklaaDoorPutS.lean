/- (*node).put as a node's operation. -/
import Derived.Test.YtfbcdhcgmncklaaDoorPut1
import Derived.Test.YtfbcdhcgmncklaaDoorUpd
namespace Go.Proofs.YtfbcdhcgmncklaaDoor
open Go Go.RowKit Go.Nd Go.Maps Go.MuLone Go.RwLone
set_option maxRecDepth 100000

/-- What an operation upon one node (its lock held) leaves behind. -/
structure NodeOp (w w' : World) (own own' : Own) (e e' : Ent) (nb : Nat) (kv bv' : Value) (bs' : List (Option Nat)) : Prop where
  nrow : row w' nb = some (nodeC 1 e'.inf kv bv', 92)
  bytes : BytesRep w' own' e' bv' bs'
  old : ∀ b r, own b = some r → own' b = some r
  dom : ∀ b, own' b ≠ none → b < w'.heap.size
  fresh : ∀ b, own' b ≠ none → own b ≠ none ∨ w.heap.size ≤ b
  keep : Keep w w' (fun b => b = nb ∨ own b = some (Role.blocks e.inf.path) ∨ ∃ j, own b = some (Role.data e.inf.path j))

theorem NodeOp.same {w : World} {own : Own} {e : Ent} {nb : Nat} {kv bv : Value} {bs : List (Option Nat)} (hn : row w nb = some (nodeC 1 e.inf kv bv, 92)) (hb : BytesRep w own e bv bs) (dom : ∀ b, own b ≠ none → b < w.heap.size) : NodeOp w w own own e e nb kv bv bs :=
  ⟨hn, hb, fun _ _ h => h, dom, fun _ h => .inl h, Keep.refl _ _⟩

/-- Bytes that are lent. -/
def DataAt (w : World) (own : Own) (l : List Int) (dv : Value) : Prop :=
  ∃ da dc, dv = .slice da l.length dc ∧ (∀ v ∈ l, 0 ≤ v ∧ v < 256) ∧ (l.length : Int) ≤ 4611686018427387904 ∧ (l ≠ [] → ∃ sb so, da = some ⟨sb, so, none⟩ ∧ own sb = none ∧ ∀ j v, (u8s l)[j]? = some v → w.cell? ((⟨sb, so, none⟩ : Addr).add j) = some v)
theorem DataAt.keep {w w' : World} {own : Own} {l : List Int} {dv : Value} {S : Nat → Prop} (h : DataAt w own l dv) (k : Keep w w' S) (hS : ∀ b, S b → own b ≠ none) : DataAt w' own l dv := by
  obtain ⟨da, dc, h1, h2, h3, h4⟩ := h
  refine ⟨da, dc, h1, h2, h3, fun hne => ?_⟩
  obtain ⟨sb, so, e, h5, h6⟩ := h4 hne
  exact ⟨sb, so, e, h5, fun j v hv => by
    have := h6 j v hv
    rw [addp] at this ⊢
    exact k.cell this (fun h => hS _ h h5)⟩

theorem putData_off {d : Nat → Int} {off : Nat} {l : List Int} {i : Nat} (h : i < off ∨ off + l.length ≤ i) : putData d off l i = d i := by
  unfold putData
  rw [if_neg (by omega)]
theorem entOk_put {e : Ent} (h : EntOk e) {off : Int} {l : List Int} (o0 : 0 ≤ off) (hl : ∀ v ∈ l, 0 ≤ v ∧ v < 256) (hd : isDir e.inf.mode = false) (h3 : off ≤ 65536 - (l.length : Int)) : EntOk ⟨{ e.inf with len := max e.inf.len (off + l.length) }, putData e.data off.toNat l⟩ := by
  have hg : ∀ i, i < l.length → 0 ≤ l.getD i 0 ∧ l.getD i 0 < 256 := fun i hi => by
    have : l.getD i 0 = l[i] := by simp [List.getD, hi]
    rw [this]; exact hl _ (List.getElem_mem hi)
  have := h.len0
  have := h.len1
  refine { path0 := h.path0, parent0 := h.parent0, name := h.name, mode0 := h.mode0, mode1 := h.mode1, uid := h.uid, gid := h.gid, muid := h.muid, atime0 := h.atime0, atime1 := h.atime1, mtime0 := h.mtime0, mtime1 := h.mtime1, vers0 := h.vers0, vers1 := h.vers1, len0 := ?_, len1 := ?_, opens0 := h.opens0, opens1 := h.opens1, kids := h.kids, dir := fun hh => ?_, byte0 := fun i => ?_, byte1 := fun i => ?_, beyond := fun i hi => ?_ }
  · show 0 ≤ max e.inf.len _; omega
  · show max e.inf.len _ ≤ 65536; omega
  · have hh' : isDir e.inf.mode = true := hh
    rw [hd] at hh'; cases hh'
  · show 0 ≤ putData _ _ _ _
    unfold putData
    split
    · exact (hg _ (by omega)).1
    · exact h.byte0 i
  · show putData _ _ _ _ < 256
    unfold putData
    split
    · exact (hg _ (by omega)).2
    · exact h.byte1 i
  · have hi' : max e.inf.len (off + l.length) ≤ i := hi
    show putData _ _ _ _ = 0
    rw [putData_off (by omega)]
    exact h.beyond i (by omega)

theorem put_node {w : World} {own : Own} {e : Ent} {nb : Nat} {kv bv : Value} {bs : List (Option Nat)} (hn : row w nb = some (nodeC 1 e.inf kv bv, 92)) (hno : own nb = some (Role.node e.inf.path)) (hb : BytesRep w own e bv bs)
    (dom : ∀ b, own b ≠ none → b < w.heap.size) {off : Int} (o0 : 0 ≤ off) (o1 : off < 18446744073709551616) {l : List Int} {dv : Value} (hd : DataAt w own l dv) :
    Calls Tryd.prog 45 #[.pointer (some ⟨nb, 0, none⟩), .int .u64 off, dv] w fun r w' =>
      r = .returned (.int .i64 (e.put off l).1) ∧ ∃ own' bv' bs', NodeOp w w' own own' e (e.put off l).2 nb kv bv' bs' := by
  obtain ⟨da, dc, rfl, hl, hll, hsrc⟩ := hd
  have hsame := NodeOp.same hn hb dom
  cases h1 : isDir e.inf.mode with
  | true =>
    have ee : e.put off l = (81, e) := by simp [Ent.put, h1]
    rw [ee]
    exact (put_kind hn da dc h1).mono fun _ _ ⟨h, h'⟩ => ⟨h, own, bv, bs, h' ▸ hsame⟩
  | false =>
  by_cases h2 : l.length = 0 ∨ 256 - off % 256 < (l.length : Int)
  · have ee : e.put off l = (84, e) := by unfold Ent.put; rw [if_neg (by simp [h1]), if_pos h2]
    rw [ee]
    exact (put_block hn o0 o1 da dc (by omega) h1 h2).mono fun _ _ ⟨h, h'⟩ => ⟨h, own, bv, bs, h' ▸ hsame⟩
  by_cases h3 : 65536 - (l.length : Int) < off
  · have ee : e.put off l = (86, e) := by unfold Ent.put; rw [if_neg (by simp [h1]), if_neg h2, if_pos h3]
    rw [ee]
    exact (put_big hn o0 o1 da dc h1 (by omega) (by omega) h3).mono fun _ _ ⟨h, h'⟩ => ⟨h, own, bv, bs, h' ▸ hsame⟩
  have ee : e.put off l = (0, ⟨{ e.inf with len := max e.inf.len (off + l.length) }, putData e.data off.toNat l⟩) := by unfold Ent.put; rw [if_neg (by simp [h1]), if_neg h2, if_neg h3]
  rw [ee]
  obtain ⟨sb, so, rfl, hsb, hcells⟩ := hsrc (fun h => h2 (.inl (by rw [h]; rfl)))
  obtain ⟨q, hq⟩ : ∃ q : Nat, off / 256 = q := ⟨(off / 256).toNat, by omega⟩
  obtain ⟨r, hr⟩ : ∃ r : Nat, off % 256 = r := ⟨(off % 256).toNat, by omega⟩
  have hsl : sb < w.heap.size := by
    have h0 : 0 < l.length := by omega
    have := hcells 0 (.int .u8 l[0]) (by simp [u8s])
    rw [addp] at this
    exact World.block_lt_of_cell? w ⟨sb, so + 0, none⟩ this
  refine (put_ok (d := e.data) hn o0 o1 hq hr hb.blen hb.brow (fun h => by have := hb.bown _ h; rw [hno] at this; cases this) (l := l) rfl dc hcells (fun h => by rw [h, hno] at hsb; cases hsb) (fun h => by rw [hb.bown _ h] at hsb; cases hsb) hsl
    (fun b hb2 => ⟨(hb.bsome q b hb2).2, (fun h => by have := (hb.bsome q b hb2).1; rw [h, hno] at this; cases this), (fun h => by have := (hb.bsome q b hb2).1; rw [hb.bown _ h] at this; cases this)⟩)
    (fun hno2 j hj => ?_) h1 (by omega) (by omega) (by omega)).mono ?_
  · cases hbq : bs[q]? with
    | none => exact hb.bbey _ (by have := List.getElem?_eq_none_iff.1 hbq; omega)
    | some o =>
      cases o with
      | none => exact hb.bnone q hbq j hj
      | some b => exact absurd hbq (hno2 b)
  rintro x w' ⟨rfl, bv', bs', db, pk⟩
  refine ⟨rfl, fun b => if b < w.heap.size then own b else if bv'.ownBlock = some b then some (Role.blocks e.inf.path) else if b = db then some (Role.data e.inf.path q) else none, bv', bs', ?_⟩
  have hnl := row_lt hn
  have hqn : q < bs'.length := (List.getElem?_eq_some_iff.1 pk.at_q).1
  have hbl := pk.ge
  have off' : ∀ i : Nat, i / 256 ≠ q → putData e.data off.toNat l i = e.data i := fun i hi => putData_off (by omega)
  have odb : (if db < w.heap.size then own db else if bv'.ownBlock = some db then some (Role.blocks e.inf.path) else if db = db then some (Role.data e.inf.path q) else none) = some (Role.data e.inf.path q) := by
    rcases pk.dnew with h | ⟨_, h, _⟩
    · have := (hb.bsome q db h).1
      rw [if_pos (dom db (by rw [this]; simp)), this]
    · rw [if_neg (by omega), if_neg, if_pos rfl]
      intro hx
      rcases pk.bloc with h' | ⟨y, h', h1', h2', h3'⟩
      · rw [h'] at hx
        have := dom db (by rw [hb.bown _ hx]; simp)
        omega
      · rw [h'] at hx; cases hx; exact h3' rfl
  refine { nrow := pk.nrow, bytes := { brow := pk.brow, bown := fun g hg => ?_, blen := pk.len, bnone := fun k hk j hj => ?_, bsome := fun k b hk => ?_, bbey := fun i hi => ?_ }, old := fun b r h => ?_, dom := fun b h => ?_, fresh := fun b h => ?_, keep := pk.keep.mono (fun b _ h => ?_) }
  · show (if g < w.heap.size then own g else if bv'.ownBlock = some g then some (Role.blocks e.inf.path) else if g = db then some (Role.data e.inf.path q) else none) = _
    rcases pk.bloc with h | ⟨y, h, h1', _⟩
    · have := hb.bown g (h ▸ hg)
      rw [if_pos (dom g (by rw [this]; simp)), this]
    · rw [h] at hg; cases hg
      rw [if_neg (by omega), if_pos h]
  · have hkq : k ≠ q := fun h => by rw [h, pk.at_q] at hk; cases hk
    show putData _ _ _ _ = 0
    rw [off' _ (by omega)]
    rcases pk.off_q k hkq with h | ⟨h, _⟩
    · exact hb.bnone k (h ▸ hk) j hj
    · exact hb.bbey _ (by omega)
  · by_cases hkq : k = q
    · subst hkq
      rw [pk.at_q] at hk; cases hk
      exact ⟨odb, pk.drow⟩
    · rcases pk.off_q k hkq with h | ⟨_, h⟩
      · have hbk := hb.bsome k b (h ▸ hk)
        have hblt := dom b (by rw [hbk.1]; simp)
        refine ⟨?_, ?_⟩
        · show (if b < w.heap.size then own b else _) = _
          rw [if_pos hblt, hbk.1]
        · have e1 : dataCells (putData e.data off.toNat l) k = dataCells e.data k := by
            unfold dataCells
            congr 1
            apply List.map_congr_left
            intro j hj
            rw [List.mem_range] at hj
            rw [off' _ (by omega)]
          show row w' b = some (dataCells (putData e.data off.toNat l) k, _)
          rw [e1]
          refine pk.keep.row hbk.2 (fun hS => ?_)
          rcases hS with h' | h' | h'
          · rw [h', hno] at hbk; cases hbk.1
          · have := hb.bown _ h'; rw [hbk.1] at this; cases this
          · have := (hb.bsome q b h').1; rw [hbk.1] at this; injection this with this; injection this with _ this; exact hkq this
      · rw [h] at hk; cases hk
  · show putData _ _ _ _ = 0
    rw [off' _ (by omega)]
    exact hb.bbey _ (by omega)
  · show (if b < w.heap.size then own b else _) = _
    rw [if_pos (dom b (by rw [h]; simp)), h]
  · have := pk.keep.size
    replace h : (if b < w.heap.size then own b else if bv'.ownBlock = some b then some (Role.blocks e.inf.path) else if b = db then some (Role.data e.inf.path q) else none) ≠ none := h
    split at h
    · omega
    split at h
    · rename_i hx; exact (pk.brow.lt _ hx).2
    split at h
    · rename_i hx; rw [hx]; exact row_lt pk.drow
    · exact absurd rfl h
  · replace h : (if b < w.heap.size then own b else if bv'.ownBlock = some b then some (Role.blocks e.inf.path) else if b = db then some (Role.data e.inf.path q) else none) ≠ none := h
    split at h
    · exact .inl h
    · exact .inr (by omega)
  · rcases h with h | h | h
    · exact .inl h
    · exact .inr (.inl (hb.bown _ h))
    · exact .inr (.inr ⟨q, (hb.bsome q b h).1⟩)
end Go.Proofs.YtfbcdhcgmncklaaDoor
