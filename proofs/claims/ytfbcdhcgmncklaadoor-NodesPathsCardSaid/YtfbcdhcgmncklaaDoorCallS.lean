/- (*Store).call as a store's operation. -/
import Derived.Test.YtfbcdhcgmncklaaDoorCall
namespace Go.Proofs.YtfbcdhcgmncklaaDoor
open Go Go.RowKit Go.Nd Go.Maps Go.MuLone Go.RwLone
set_option maxRecDepth 100000

theorem called_store {w w1 w2 w3 : World} {own : Own} {s : Nat} {A : St} (hA : StOk A) {mb cb m' : Nat} {ov : Value} {nb : Int → Nat} (hr : StoreRep w own s A mb cb ov nb) (t1 : Turn w w1 s)
    {e : Ent} (he : e ∈ A.l) {nm : ByteArray} {kv bv : Value} {bs : List (Option Nat)} (her : NodeRep w own A.l e (nb e.inf.path) kv bv bs)
    (h1 : row w2 (nb e.inf.path) = some (nodeC 0 { e.inf with name := nm } kv bv, 92)) (h2 : MapIs Tryd.prog 121 w2 cb m' (childF (A.now e (e.named nm)).l)) (h3 : Keep w1 w2 (fun b => b = cb ∨ b = nb e.inf.path))
    (t3 : Turn w2 w3 s) (r3 : row w3 s = some (storeC 0 0 A.most A.next mb ov cb, 101)) :
    StoreRep w3 own s (A.now e (e.named nm)) mb cb ov nb ∧ Keep w w3 (fun b => own b ≠ none) := by
  have hg := named_hg hA he nm
  have kS : Keep w w3 (fun b => b = s ∨ b = cb ∨ b = nb e.inf.path) :=
    ((t1.keep.mono (fun _ _ h => .inl h)).trans h3 (fun _ _ h => .inr h)).trans t3.keep (fun _ _ h => .inl h)
  have kO : Keep w w3 (fun b => own b ≠ none) := kS.mono (fun b _ h => by
    rcases h with h | h | h
    · rw [h, hr.sown]; simp
    · rw [h, hr.cown]; simp
    · rw [h, her.nown]; simp)
  have nS : ∀ b r, own b = some r → r ≠ .store → r ≠ .child → r ≠ .node e.inf.path → ¬ (b = s ∨ b = cb ∨ b = nb e.inf.path) := fun b r hb h2 h3 h4 h => by
    rcases h with h | h | h
    · rw [h, hr.sown] at hb; cases hb; exact h2 rfl
    · rw [h, hr.cown] at hb; cases hb; exact h3 rfl
    · rw [h, her.nown] at hb; cases hb; exact h4 rfl
  have hcs : cb ≠ s := fun e => by have := hr.cown; rw [e, hr.sown] at this; cases this
  have hns : nb e.inf.path ≠ s := fun e => by have := her.nown; rw [e, hr.sown] at this; cases this
  have hlen : (A.now e (e.named nm)).l.length = A.l.length := upd_len
  have hnf : nodesF (A.now e (e.named nm)).l nb = nodesF A.l nb := by
    funext v
    unfold nodesF
    split
    · show Option.map _ (find (upd _ _ _) _) = _
      rw [upd_find hg, Option.map_map]; rfl
    · rfl
  refine ⟨{ dom := fun b hb => Nat.lt_of_lt_of_le (hr.dom b hb) kS.size, sown := hr.sown, srow := r3, mown := hr.mown, mmap := ?_, cown := hr.cown, cmap := ⟨m', h2.keep t3.keep hcs⟩, orow := ?_, oown := hr.oown, node := ?_ }, kO⟩
  · rw [hlen, hnf]; exact hr.mmap.keep kS (nS _ _ hr.mown (by simp) (by simp) (by simp))
  · have hp : (A.now e (e.named nm)).l.map (·.inf.path) = A.l.map (·.inf.path) := upd_path hg
    rw [hlen, hp]; exact ownsRow_keep kS hr.orow (fun g hg => nS _ _ (hr.oown g hg) (by simp) (by simp) (by simp))
  · intro x hx
    have hk : ∀ q, kids (A.now e (e.named nm)).l q = kids A.l q := fun q => upd_kids hg q
    have bk : ∀ {y : Ent} {bv2 : Value} {bs2 : List (Option Nat)}, BytesRep w own y bv2 bs2 → BytesRep w3 own y bv2 bs2 := fun hb => hb.keepB kS (fun b hb2 => by
      rcases hb2 with hb2 | ⟨j, hb2⟩
      · exact nS _ _ hb2 (by simp) (by simp) (by simp)
      · exact nS _ _ hb2 (by simp) (by simp) (by simp))
    rcases now_mem hx with rfl | ⟨hx1, hx2⟩
    · refine ⟨kv, bv, bs, { nown := her.nown, nrow := t3.keep.row h1 hns, nkids := ?_, kown := her.kown, bytes := ?_ }⟩
      · rw [hk]
        exact ownsRow_keep kS her.nkids (fun g hg => nS _ _ (her.kown g hg) (by simp) (by simp) (by simp))
      · have := bk her.bytes
        exact ⟨this.brow, this.bown, this.blen, this.bnone, this.bsome, this.bbey⟩
    · obtain ⟨kv2, bv2, bs2, h5⟩ := hr.node x hx1
      refine ⟨kv2, bv2, bs2, { nown := h5.nown, nrow := kS.row h5.nrow (nS _ _ h5.nown (by simp) (by simp) (fun h => by injection h with h; exact hx2 h)), nkids := ?_, kown := h5.kown, bytes := bk h5.bytes }⟩
      rw [hk]
      exact ownsRow_keep kS h5.nkids (fun g hg => nS _ _ (h5.kown g hg) (by simp) (by simp) (by simp))

theorem call_st {w w1 : World} {B : Nat} {own : Own} {s : Nat} {A : St} (hA : StOk A) {mb cb : Nat} {ov : Value} {nb : Int → Nat} (hr : StoreRep w own s A mb cb ov nb) (t1 : Turn w w1 s)
    (r1 : row w1 s = some (storeC 1 (-1073741824) A.most A.next mb ov cb, 101)) (hB : GB B w1) (hx : A.next ≤ 18446744073709551615) {e : Ent} (he : e ∈ A.l) {nm : ByteArray} (hnm : nm.size ≤ 4611686018427387904) :
    Calls Tryd.prog 67 #[.pointer (some ⟨s, 0, none⟩), .pointer (some ⟨nb e.inf.path, 0, none⟩), .string nm] w1 fun x w2 =>
      x = .returned (.tuple #[.int .u64 (A.call e nm).1.1, .int .i64 (A.call e nm).1.2]) ∧ Then w w2 own s (A.call e nm).2 := by
  obtain ⟨kv, bv, bs, her⟩ := hr.node e he
  obtain ⟨m, hcm⟩ := hr.cmap
  have ne_of : ∀ {a b : Nat} {r r' : Role}, own a = some r → own b = some r' → r ≠ r' → a ≠ b := fun h h' hn e => hn (by rw [e, h'] at h; injection h with h; exact h.symm)
  have hcs := ne_of hr.cown hr.sown (by simp)
  have hns := ne_of her.nown hr.sown (by simp)
  have hcn := ne_of hr.cown her.nown (by simp)
  have hb := hA.below e he
  have hp0 := (hA.ok e he).path0
  have hq0 := (hA.ok e he).parent0
  have hqb := parent_below hA he
  have hold := (hA.ok e he).name
  have at' : CallAt w1 s (nb e.inf.path) cb m mb A.most A.next ov kv bv e.inf (childF A.l) nm B :=
    { srow := r1, nrow := t1.keep.row her.nrow hns, cmap := hcm.keep t1.keep hcs, gb := hB, p0 := by omega, p1 := by omega, q0 := by omega, q1 := by omega, nm := hnm, old := by unfold maxLen; omega }
  have hsame := fun w2 k => then_same (w2 := w2) hA hr t1 r1 k
  by_cases h1 : e.inf.path = 1
  · have ee : A.call e nm = ((0, 81), A) := by unfold St.call; rw [if_pos h1]
    rw [ee]
    exact (call_root at' h1).mono fun _ _ ⟨h, hk⟩ => ⟨h, hsame _ hk⟩
  cases h2 : nameOk nm with
  | false =>
    have ee : A.call e nm = ((0, 50), A) := by unfold St.call; rw [if_neg h1, h2]; rfl
    rw [ee]
    exact (call_name at' h1 h2).mono fun _ _ ⟨h, hk⟩ => ⟨h, hsame _ hk⟩
  | true =>
  cases h3 : (child A.l e.inf.parent nm).any (· != e.inf.path) with
  | true =>
    have ee : A.call e nm = ((0, 82), A) := by unfold St.call; rw [if_neg h1, h2, h3]; rfl
    rw [ee]
    cases hc : child A.l e.inf.parent nm with
    | none => rw [hc] at h3; cases h3
    | some q =>
      rw [hc] at h3
      have hC : childF A.l (.agg #[.int .u64 e.inf.parent, .string nm]) = some (.int .u64 q) := by simp [childF, keyParts, hc]
      exact (call_twice at' h1 h2 hC (by simpa using h3)).mono fun _ _ ⟨h, hk⟩ => ⟨h, hsame _ hk⟩
  | false =>
    have ee := call_l hA he h1 h2 h3
    rw [ee]
    have hls := childF_less hA he h1
    have hnd := childF_named hA he h1 h2 h3
    have fin : ∀ x w2, (x = Ending.returned (.tuple #[.int .u64 e.inf.path, .int .i64 0]) ∧ ∃ m', row w2 s = some (storeC 1 (-1073741824) A.most A.next mb ov cb, 101) ∧ row w2 (nb e.inf.path) = some (nodeC 0 { e.inf with name := nm } kv bv, 92) ∧
        MapIs Tryd.prog 121 w2 cb m' (childF (A.now e (e.named nm)).l) ∧ Keep w1 w2 (fun b => b = cb ∨ b = nb e.inf.path)) →
        x = .returned (.tuple #[.int .u64 e.inf.path, .int .i64 0]) ∧ Then w w2 own s (A.now e (e.named nm)) := fun x w2 ⟨hx, m', g1, g2, g3, g4⟩ => by
      refine ⟨hx, mb, cb, ov, A.next, g1, ?_, fun w3 t3 r3 => ?_⟩
      · refine (t1.keep.mono (fun b _ h => ?_)).trans g4 (fun b _ h => ?_)
        · rw [show b = s from h, hr.sown]; simp
        · rcases h with h | h
          · rw [h, hr.cown]; simp
          · rw [h, her.nown]; simp
      · obtain ⟨q1, q2⟩ := called_store hA hr t1 he her g2 g3 g4 t3 r3
        exact ⟨own, ⟨stOk_call hA he h1 h2 h3, _, _, _, _, q1⟩, q2, fun _ h => .inl h⟩
    cases hc : child A.l e.inf.parent nm with
    | none =>
      have hC : childF A.l (.agg #[.int .u64 e.inf.parent, .string nm]) = none := by simp [childF, keyParts, hc]
      exact (call_new at' h1 h2 hC hls.1 hls.2 hnd.1 hnd.2 hcs hcn (Ne.symm hns)).mono fin
    | some q =>
      rw [hc] at h3
      obtain rfl : q = e.inf.path := by simpa using h3
      have hC : childF A.l (.agg #[.int .u64 e.inf.parent, .string nm]) = some (.int .u64 e.inf.path) := by simp [childF, keyParts, hc]
      exact (call_same at' h1 h2 hC hls.1 hls.2 hnd.1 hnd.2 hcs hcn (Ne.symm hns)).mono fin
end Go.Proofs.YtfbcdhcgmncklaaDoor
