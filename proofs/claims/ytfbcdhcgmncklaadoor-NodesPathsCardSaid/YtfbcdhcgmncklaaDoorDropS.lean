/- (*Store).drop as a store's operation. -/
import Derived.Test.YtfbcdhcgmncklaaDoorDrop
namespace Go.Proofs.YtfbcdhcgmncklaaDoor
open Go Go.RowKit Go.Nd Go.Maps Go.MuLone Go.RwLone
set_option maxRecDepth 100000

theorem nodesF_less (l : List Ent) (nb : Int → Nat) (p : Int) : nodesF (less l p) nb (.int .u64 p) = none ∧ ∀ x, x ≠ .int .u64 p → nodesF (less l p) nb x = nodesF l nb x := by
  refine ⟨by simp [nodesF, find_less], fun x hx => ?_⟩
  unfold nodesF
  split
  · rename_i q
    rw [find_less, if_neg (fun e => hx (by rw [e]))]
  · rfl
theorem childF_less {A : St} (hA : StOk A) {e : Ent} (he : e ∈ A.l) (h1 : e.inf.path ≠ 1) :
    childF (less A.l e.inf.path) (.agg #[.int .u64 e.inf.parent, .string e.inf.name]) = none ∧ ∀ x, x ≠ .agg #[.int .u64 e.inf.parent, .string e.inf.name] → childF (less A.l e.inf.path) x = childF A.l x := by
  refine ⟨by simp [childF, keyParts, child_less hA he h1], fun x hx => ?_⟩
  unfold childF
  cases hk : keyParts x with
  | none => rfl
  | some y =>
    have hxe := keyParts_inv hk
    simp only [Option.bind]
    rw [child_less hA he h1, if_neg (fun hh => hx (by rw [hxe, hh.1, hh.2]))]

theorem dropped_store {w w1 w2 w3 : World} {own : Own} {s : Nat} {A : St} (hA : StOk A) {mb cb m' : Nat} {ov ov' kv' : Value} {nb : Int → Nat} (hr : StoreRep w own s A mb cb ov nb) (t1 : Turn w w1 s)
    {e d : Ent} (he : e ∈ A.l) (h1 : e.inf.path ≠ 1) (hd : d ∈ A.l) (hpd : d.inf.path = e.inf.parent) {kv bv : Value} {bs : List (Option Nat)} (hdr : NodeRep w own A.l d (nb d.inf.path) kv bv bs)
    (dk : DropOk w1 w2 s mb cb (nb d.inf.path) (A.l.length - 1) m' A.most A.next ov kv bv d.inf (nodesF (less A.l e.inf.path) nb) (childF (less A.l e.inf.path)) ((A.l.map (·.inf.path)).filter (· != e.inf.path)) ((kids A.l d.inf.path).filter (· != e.inf.path)) ov' kv')
    (hne : d.inf.path ≠ e.inf.path) (t3 : Turn w2 w3 s) (r3 : row w3 s = some (storeC 0 0 A.most A.next mb ov' cb, 101)) :
    StoreRep w3 own s { A with l := less A.l e.inf.path } mb cb ov' nb ∧ Keep w w3 (fun b => own b ≠ none) := by
  have kS : Keep w w3 (fun b => b = s ∨ b = mb ∨ b = cb ∨ b = nb d.inf.path ∨ ov.ownBlock = some b ∨ kv.ownBlock = some b) :=
    ((t1.keep.mono (fun _ _ h => .inl h)).trans dk.keep (fun _ _ h => h)).trans t3.keep (fun _ _ h => .inl h)
  have kO : Keep w w3 (fun b => own b ≠ none) := kS.mono (fun b _ h => by
    rcases h with h | h | h | h | h | h
    · rw [h, hr.sown]; simp
    · rw [h, hr.mown]; simp
    · rw [h, hr.cown]; simp
    · rw [h, hdr.nown]; simp
    · rw [hr.oown _ h]; simp
    · rw [hdr.kown _ h]; simp)
  have rS : ∀ b r, own b = some r → (∀ q, r.of = some q → q ≠ d.inf.path) → r ≠ .store → r ≠ .nodes → r ≠ .child → r ≠ .order → ¬ (b = s ∨ b = mb ∨ b = cb ∨ b = nb d.inf.path ∨ ov.ownBlock = some b ∨ kv.ownBlock = some b) := fun b r hb h2 h3 h4 h5 h6 h => by
    rcases h with h | h | h | h | h | h
    · rw [h, hr.sown] at hb; cases hb; exact h3 rfl
    · rw [h, hr.mown] at hb; cases hb; exact h4 rfl
    · rw [h, hr.cown] at hb; cases hb; exact h5 rfl
    · rw [h, hdr.nown] at hb; cases hb; exact h2 _ rfl rfl
    · rw [hr.oown _ h] at hb; cases hb; exact h6 rfl
    · rw [hdr.kown _ h] at hb; cases hb; exact h2 _ rfl rfl
  have hms : mb ≠ s := fun e => by have := hr.mown; rw [e, hr.sown] at this; cases this
  have hcs : cb ≠ s := fun e => by have := hr.cown; rw [e, hr.sown] at this; cases this
  have hds : nb d.inf.path ≠ s := fun e => by have := hdr.nown; rw [e, hr.sown] at this; cases this
  have hlen := less_len hA he
  refine ⟨{ dom := fun b hb => Nat.lt_of_lt_of_le (hr.dom b hb) kS.size, sown := hr.sown, srow := r3, mown := hr.mown, mmap := ?_, cown := hr.cown, cmap := ?_, orow := ?_, oown := fun g hg => hr.oown g (dk.oloc ▸ hg), node := ?_ }, kO⟩
  · have := dk.mmap.keep t3.keep hms
    have e1 : A.l.length - 1 = (less A.l e.inf.path).length := by omega
    rw [e1] at this
    exact this
  · exact ⟨m', dk.cmap.keep t3.keep hcs⟩
  · have := ownsRow_keep t3.keep dk.orow (fun g hg h => by
      have h' := hr.oown g (dk.oloc ▸ hg)
      have hgs : g = s := h
      rw [hgs, hr.sown] at h'; cases h')
    rw [← paths_less] at this
    show w3.ownsRow 0 _ 1 ov' (less A.l e.inf.path).length _
    rw [List.length_map] at this
    exact this
  · intro x hx
    obtain ⟨hx1, hx2⟩ := less_mem.1 hx
    by_cases hxd : x.inf.path = d.inf.path
    · obtain rfl := path_inj hA hx1 hd hxd
      refine ⟨kv', bv, bs, { nown := hdr.nown, nrow := t3.keep.row dk.drow hds, nkids := ?_, kown := fun g hg => hdr.kown g (dk.kloc ▸ hg), bytes := ?_ }⟩
      · show w3.ownsRow 0 _ 1 kv' (kids (less A.l e.inf.path) x.inf.path).length (u64s (kids (less A.l e.inf.path) x.inf.path))
        rw [kids_less]
        exact ownsRow_keep t3.keep dk.krow (fun g hg h => by
          have h' := hdr.kown g (dk.kloc ▸ hg)
          have hgs : g = s := h
          rw [hgs, hr.sown] at h'; cases h')
      · refine hdr.bytes.keepB kS (fun b hb h => ?_)
        rcases hb with hb | ⟨j, hb⟩
        · rcases h with h | h | h | h | h | h
          · rw [h, hr.sown] at hb; cases hb
          · rw [h, hr.mown] at hb; cases hb
          · rw [h, hr.cown] at hb; cases hb
          · rw [h, hdr.nown] at hb; cases hb
          · rw [hr.oown _ h] at hb; cases hb
          · rw [hdr.kown _ h] at hb; cases hb
        · rcases h with h | h | h | h | h | h
          · rw [h, hr.sown] at hb; cases hb
          · rw [h, hr.mown] at hb; cases hb
          · rw [h, hr.cown] at hb; cases hb
          · rw [h, hdr.nown] at hb; cases hb
          · rw [hr.oown _ h] at hb; cases hb
          · rw [hdr.kown _ h] at hb; cases hb
    · obtain ⟨kx, bx, bsx, hxr⟩ := hr.node x hx1
      have hk : kids (less A.l e.inf.path) x.inf.path = kids A.l x.inf.path := by
        rw [kids_less, List.filter_eq_self]
        intro q hq
        unfold kids at hq
        obtain ⟨y, hy, rfl⟩ := List.mem_map.1 hq
        rw [List.mem_filter] at hy
        obtain ⟨hy1, hy2⟩ := hy
        simp only [Ent.kidOf, Bool.and_eq_true, beq_iff_eq, bne_iff_ne] at hy2
        simp only [bne_iff_ne]
        intro hye
        obtain rfl := path_inj hA hy1 he hye
        exact hxd (by rw [← hy2.1, hpd])
      have h3 := hxr.keep kS (fun b r hb hro => rS b r hb (fun q hq => by rw [hro] at hq; cases hq; exact hxd) (fun e => by rw [e] at hro; cases hro) (fun e => by rw [e] at hro; cases hro) (fun e => by rw [e] at hro; cases hro) (fun e => by rw [e] at hro; cases hro))
      refine ⟨kx, bx, bsx, { nown := h3.nown, nrow := h3.nrow, nkids := ?_, kown := h3.kown, bytes := h3.bytes }⟩
      show w3.ownsRow 0 _ 1 kx (kids (less A.l e.inf.path) x.inf.path).length (u64s (kids (less A.l e.inf.path) x.inf.path))
      rw [hk]
      exact h3.nkids

theorem drop_st {w w1 : World} {own : Own} {s : Nat} {A : St} (hA : StOk A) {mb cb : Nat} {ov : Value} {nb : Int → Nat} (hr : StoreRep w own s A mb cb ov nb) (t1 : Turn w w1 s)
    (r1 : row w1 s = some (storeC 1 (-1073741824) A.most A.next mb ov cb, 101)) (hx : A.next ≤ 18446744073709551615) {e : Ent} (he : e ∈ A.l) :
    Calls Tryd.prog 66 #[.pointer (some ⟨s, 0, none⟩), .pointer (some ⟨nb e.inf.path, 0, none⟩)] w1 fun x w2 =>
      x = .returned (.tuple #[.int .u64 (A.drop e).1.1, .int .i64 (A.drop e).1.2]) ∧ Then w w2 own s (A.drop e).2 := by
  obtain ⟨kn, bn, bsn, her⟩ := hr.node e he
  have hns : nb e.inf.path ≠ s := fun h => by have := her.nown; rw [h, hr.sown] at this; cases this
  have hn1 : row w1 (nb e.inf.path) = some (nodeC 0 e.inf kn bn, 92) := t1.keep.row her.nrow hns
  have hsame := then_same hA hr t1 r1 (Keep.refl w1 _)
  by_cases h1 : e.inf.path = 1
  · have ee : A.drop e = ((0, 81), A) := by unfold St.drop; rw [if_pos h1]
    rw [ee]
    exact (drop_root hn1 h1).mono fun _ _ ⟨h, h'⟩ => ⟨h, h' ▸ hsame⟩
  obtain ⟨ka, kc, rfl⟩ := ownsRow_slice her.nkids
  by_cases h2 : 0 < (kids A.l e.inf.path).length
  · have ee : A.drop e = ((0, 85), A) := by unfold St.drop; rw [if_neg h1, if_pos h2]
    rw [ee]
    exact (drop_kids hn1 h1 h2).mono fun _ _ ⟨h, h'⟩ => ⟨h, h' ▸ hsame⟩
  have hk0 : kids A.l e.inf.path = [] := List.length_eq_zero_iff.1 (by omega)
  obtain ⟨d, hd, hpd, hdd, hdl⟩ := hA.parent e he h1
  obtain ⟨kv, bv, bs, hdr⟩ := hr.node d hd
  obtain ⟨m, hcm⟩ := hr.cmap
  have ne_of : ∀ {a b : Nat} {r r' : Role}, own a = some r → own b = some r' → r ≠ r' → a ≠ b := fun h h' hn e => hn (by rw [e, h'] at h; injection h with h; exact h.symm)
  have hms := ne_of hr.mown hr.sown (by simp)
  have hcs := ne_of hr.cown hr.sown (by simp)
  have hds := ne_of hdr.nown hr.sown (by simp)
  have hed : nb e.inf.path ≠ nb d.inf.path := ne_of her.nown hdr.nown (fun h => by injection h with h; omega)
  have hb := hA.below e he
  have hp0 := (hA.ok e he).path0
  have hq0 := (hA.ok e he).parent0
  have hqb := parent_below hA he
  have hnm := (hA.ok e he).name
  have hkp : e.inf.path ∈ kids A.l d.inf.path := by
    unfold kids
    refine List.mem_map.2 ⟨e, List.mem_filter.2 ⟨he, ?_⟩, rfl⟩
    simp only [Ent.kidOf, Bool.and_eq_true, beq_iff_eq, bne_iff_ne]
    exact ⟨hpd.symm, h1⟩
  have hlen := hA.len
  have hmost := hA.most1
  have hkl := kids_len A d.inf.path
  have hfe : find A.l e.inf.path = some e := find_mem hA he
  have hfd : find A.l e.inf.parent = some d := hpd ▸ find_mem hA hd
  have hdr' := hdr
  refine (drop_ok (m := m) (F := nodesF A.l nb) (C := childF A.l) (F' := nodesF (less A.l e.inf.path) nb) (C' := childF (less A.l e.inf.path)) (ps := A.l.map (·.inf.path)) (ks := kids A.l d.inf.path) (db := nb d.inf.path) r1 hn1
    (t1.keep.row hdr.nrow hds) (hr.mmap.keep t1.keep hms) (hcm.keep t1.keep hcs)
    (by have := ownsRow_keep t1.keep hr.orow (fun g hg h => by have := hr.oown g hg; rw [show g = s from h, hr.sown] at this; cases this); rw [List.length_map]; exact this)
    (ownsRow_keep t1.keep hdr.nkids (fun g hg h => by have := hdr.kown g hg; rw [show g = s from h, hr.sown] at this; cases this))
    h1 (by omega) (by omega) (by omega) (by omega) (by unfold maxLen; omega) ⟨ka, kc, by rw [hk0]; rfl⟩
    (List.pairwise_map.2 hA.rise) (kids_rise hA _) (by rw [List.length_map]; omega) (by omega) (List.mem_map.2 ⟨e, he, rfl⟩) hkp
    (by simp [nodesF, hfd, hpd]) (by simp [nodesF, hfe])
    (nodesF_less A.l nb e.inf.path).1 (nodesF_less A.l nb e.inf.path).2 (childF_less hA he h1).1 (childF_less hA he h1).2
    (Ne.symm hns) (Ne.symm hds) hed hms (ne_of hr.mown hdr.nown (by simp)) hcs (ne_of hr.cown her.nown (by simp)) (ne_of hr.cown hdr.nown (by simp)) (ne_of hr.cown hr.mown (by simp))
    (fun g hg => ⟨ne_of (hr.oown g hg) hr.sown (by simp), ne_of (hr.oown g hg) her.nown (by simp), ne_of (hr.oown g hg) hdr.nown (by simp), ne_of (hr.oown g hg) hr.mown (by simp), ne_of (hr.oown g hg) hr.cown (by simp), fun h => by have := hdr.kown g h; rw [hr.oown g hg] at this; cases this⟩)
    (fun g hg => ⟨ne_of (hdr.kown g hg) hr.sown (by simp), ne_of (hdr.kown g hg) her.nown (by simp), ne_of (hdr.kown g hg) hdr.nown (by simp), ne_of (hdr.kown g hg) hr.mown (by simp), ne_of (hdr.kown g hg) hr.cown (by simp)⟩)).mono ?_
  rintro x w2 ⟨rfl, ov', kv', m', dk⟩
  rw [drop_l h1 hk0]
  refine ⟨rfl, mb, cb, ov', A.next, dk.srow, ?_, fun w3 t3 r3 => ?_⟩
  · refine (t1.keep.mono (fun b _ h => ?_)).trans dk.keep (fun b _ h => ?_)
    · rw [show b = s from h, hr.sown]; simp
    · rcases h with h | h | h | h | h | h
      · rw [h, hr.sown]; simp
      · rw [h, hr.mown]; simp
      · rw [h, hr.cown]; simp
      · rw [h, hdr.nown]; simp
      · rw [hr.oown _ h]; simp
      · rw [hdr.kown _ h]; simp
  · obtain ⟨g1, g2⟩ := dropped_store hA hr t1 he h1 hd hpd hdr dk (by omega) t3 r3
    exact ⟨own, ⟨stOk_drop hA he h1 hk0, _, _, _, _, g1⟩, g2, fun _ h => .inl h⟩
end Go.Proofs.YtfbcdhcgmncklaaDoor
