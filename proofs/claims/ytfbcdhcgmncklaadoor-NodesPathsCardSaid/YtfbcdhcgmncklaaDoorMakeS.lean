/- (*Store).makes as a store's operation. -/
import Derived.Test.YtfbcdhcgmncklaaDoorMade
namespace Go.Proofs.YtfbcdhcgmncklaaDoor
open Go Go.RowKit Go.Nd Go.Maps Go.MuLone Go.RwLone
set_option maxRecDepth 100000

/-- What a store under its lock comes to once the lock is let go. -/
def Then (w w2 : World) (own : Own) (s : Nat) (A : St) : Prop :=
  ∃ mb cb ov nx, row w2 s = some (storeC 1 (-1073741824) A.most nx mb ov cb, 101) ∧ Keep w w2 (fun b => own b ≠ none) ∧
    ∀ w3, Turn w2 w3 s → row w3 s = some (storeC 0 0 A.most nx mb ov cb, 101) → ∃ own', Store w3 own' s A ∧ Steps w w3 own own'

theorem then_same {w w1 w2 : World} {own : Own} {s : Nat} {A : St} (hA : StOk A) {mb cb : Nat} {ov : Value} {nb : Int → Nat} (hr : StoreRep w own s A mb cb ov nb) (t1 : Turn w w1 s)
    (r1 : row w1 s = some (storeC 1 (-1073741824) A.most A.next mb ov cb, 101)) (k : Keep w1 w2 (fun _ => False)) : Then w w2 own s A := by
  refine ⟨mb, cb, ov, A.next, k.row r1 (fun h => h), (t1.keep.trans k (fun _ _ h => h.elim)).mono (fun b _ h => by subst h; rw [hr.sown]; simp), fun w3 t3 r3 => ?_⟩
  have hk : Keep w w3 (· = s) := (t1.keep.trans k (fun _ _ h => h.elim)).trans t3.keep (fun _ _ h => h)
  have hk2 : Keep w w3 (fun _ => False) := hk.back hr.srow r3 _
  exact ⟨own, ⟨hA, mb, cb, ov, nb, hr.keep hk2 (fun _ _ h => h)⟩, Steps.of_keep own hk2⟩

theorem makes_st {w w1 : World} {B : Nat} {own : Own} {s : Nat} {A : St} (hA : StOk A) {mb cb : Nat} {ov : Value} {nb : Int → Nat} (hr : StoreRep w own s A mb cb ov nb) (t1 : Turn w w1 s)
    (r1 : row w1 s = some (storeC 1 (-1073741824) A.most A.next mb ov cb, 101)) (hB : GB B w1) {d : Ent} (hd : d ∈ A.l) {f : Inf} (hf : InfOk f) (hx : A.next < 18446744073709551615) :
    Calls Tryd.prog 65 #[.pointer (some ⟨s, 0, none⟩), .pointer (some ⟨nb d.inf.path, 0, none⟩), .agg f.cells.toArray] w1 fun e w2 =>
      e = .returned (.tuple #[.int .u64 (A.make d f).1.1, .int .i64 (A.make d f).1.2]) ∧ Then w w2 own s (A.make d f).2 := by
  obtain ⟨kv, bv, bs, hdr⟩ := hr.node d hd
  obtain ⟨m, hcm⟩ := hr.cmap
  have hdp := (hA.ok d hd).path0
  have hdb := hA.below d hd
  have hms : mb ≠ s := fun e => by have := hr.mown; rw [e, hr.sown] at this; cases this
  have hcs : cb ≠ s := fun e => by have := hr.cown; rw [e, hr.sown] at this; cases this
  have hns : nb d.inf.path ≠ s := fun e => by have := hdr.nown; rw [e, hr.sown] at this; cases this
  have hn1 : row w1 (nb d.inf.path) = some (nodeC 0 d.inf kv bv, 92) := t1.keep.row hdr.nrow hns
  have hm1 := hr.mmap.keep t1.keep hms
  have hc1 := hcm.keep t1.keep hcs
  have hsame := fun w2 k => then_same (w2 := w2) hA hr t1 r1 k
  have d1 : d.inf.path < 18446744073709551616 := by omega
  have d0 : 0 ≤ d.inf.path := by omega
  cases h1 : isDir d.inf.mode with
  | false =>
    have e : A.make d f = ((0, 81), A) := by simp [St.make, h1]
    rw [e]
    exact (makes_kind hB r1 hn1 hm1 hc1 d0 d1 hf.name hf.uid hf.gid hf.muid h1).mono fun _ _ ⟨he, hk⟩ => ⟨he, hsame _ hk⟩
  | true =>
  cases h2 : modeOk f.mode with
  | false =>
    have e : A.make d f = ((0, 1), A) := by simp [St.make, h1, h2]
    rw [e]
    exact (makes_mode hB r1 hn1 hm1 hc1 d0 d1 hf.name hf.uid hf.gid hf.muid h1 h2).mono fun _ _ ⟨he, hk⟩ => ⟨he, hsame _ hk⟩
  | true =>
  cases h3 : userOk f.uid with
  | false =>
    have e : A.make d f = ((0, 1), A) := by simp [St.make, h1, h3]
    rw [e]
    exact (makes_uid hB r1 hn1 hm1 hc1 d0 d1 hf.name hf.uid hf.gid hf.muid h1 h2 h3).mono fun _ _ ⟨he, hk⟩ => ⟨he, hsame _ hk⟩
  | true =>
  cases h4 : userOk f.gid with
  | false =>
    have e : A.make d f = ((0, 1), A) := by simp [St.make, h1, h4]
    rw [e]
    exact (makes_gid hB r1 hn1 hm1 hc1 d0 d1 hf.name hf.uid hf.gid hf.muid h1 h2 h3 h4).mono fun _ _ ⟨he, hk⟩ => ⟨he, hsame _ hk⟩
  | true =>
  cases h5 : userOk f.muid with
  | false =>
    have e : A.make d f = ((0, 1), A) := by simp [St.make, h1, h5]
    rw [e]
    exact (makes_muid hB r1 hn1 hm1 hc1 d0 d1 hf.name hf.uid hf.gid hf.muid h1 h2 h3 h4 h5).mono fun _ _ ⟨he, hk⟩ => ⟨he, hsame _ hk⟩
  | true =>
  cases h6 : nameOk f.name with
  | false =>
    have e : A.make d f = ((0, 50), A) := by simp [St.make, h1, h2, h3, h4, h5, h6]
    rw [e]
    exact (makes_name hB r1 hn1 hm1 hc1 d0 d1 hf.name hf.uid hf.gid hf.muid h1 h2 h3 h4 h5 h6).mono fun _ _ ⟨he, hk⟩ => ⟨he, hsame _ hk⟩
  | true =>
  cases h7 : child A.l d.inf.path f.name with
  | some q =>
    have e : A.make d f = ((0, 82), A) := by simp [St.make, h1, h2, h3, h4, h5, h6, h7]
    have hC : childF A.l (.agg #[.int .u64 d.inf.path, .string f.name]) = some (.int .u64 q) := by simp [childF, keyParts, h7]
    rw [e]
    exact (makes_twice hB r1 hn1 hm1 hc1 d0 d1 hf.name hf.uid hf.gid hf.muid h1 h2 h3 h4 h5 h6 hC).mono fun _ _ ⟨he, hk⟩ => ⟨he, hsame _ hk⟩
  | none =>
  have hC : childF A.l (.agg #[.int .u64 d.inf.path, .string f.name]) = none := by simp [childF, keyParts, h7]
  by_cases h8 : A.most ≤ (A.l.length : Int)
  · have e : A.make d f = ((0, 83), A) := by simp [St.make, h1, h2, h3, h4, h5, h6, h7, h8]
    rw [e]
    exact (makes_full hB r1 hn1 hm1 hc1 d0 d1 hf.name hf.uid hf.gid hf.muid h1 h2 h3 h4 h5 h6 h8 hC).mono fun _ _ ⟨he, hk⟩ => ⟨he, hsame _ hk⟩
  have e : A.make d f = ((A.next, 0), { A with next := A.next + 1, l := A.l ++ [newEnt A.next d.inf.path f] }) := by simp [St.make, h1, h2, h3, h4, h5, h6, h7, h8]
  have hok := stOk_make hA hd hf
  rw [e] at hok ⊢
  have ne_of : ∀ {a b : Nat} {r r' : Role}, own a = some r → own b = some r' → r ≠ r' → a ≠ b := fun h h' hn e => hn (by rw [e, h'] at h; injection h with h; exact h.symm)
  have hlen : (kids A.l d.inf.path).length ≤ A.l.length := by
    unfold kids; rw [List.length_map]; exact List.length_filter_le _ _
  have hmost := hA.most1
  refine (makes_ok (F' := fun g => nodesF (A.l ++ [newEnt A.next d.inf.path f]) (nbMore nb A.next g)) (C' := childF (A.l ++ [newEnt A.next d.inf.path f])) hB r1 hn1 hm1 hc1 d0 d1 (nameOk_size h6) h1 h2 h3 h4 h5 h6 hf.uid hf.gid hf.muid (by omega)
    (fun g => nodesF_more hA nb _ f g) (fun g x hx => nodesF_other hA nb _ f g x hx)
    (ownsRow_keep t1.keep hr.orow (fun g hg h => by have := hr.oown g hg; rw [h, hr.sown] at this; cases this))
    (ownsRow_keep t1.keep hdr.nkids (fun g hg h => by have := hdr.kown g hg; rw [h, hr.sown] at this; cases this))
    (fun g hg => ⟨ne_of (hr.oown g hg) hr.sown (by simp), ne_of (hr.oown g hg) hr.mown (by simp), ne_of (hr.oown g hg) hr.cown (by simp), ne_of (hr.oown g hg) hdr.nown (by simp), fun h => by have := hdr.kown g h; rw [hr.oown g hg] at this; cases this⟩)
    (fun g hg => ⟨ne_of (hdr.kown g hg) hr.sown (by simp), ne_of (hdr.kown g hg) hr.mown (by simp), ne_of (hdr.kown g hg) hr.cown (by simp), ne_of (hdr.kown g hg) hdr.nown (by simp)⟩)
    (ne_of hdr.nown hr.mown (by simp)) (ne_of hr.cown hr.mown (by simp)) (by simp [nodesF, find_next hA]) (by omega) (by omega) (childF_more hA h7) (fun x hx => childF_other hA x hx)
    (ne_of hdr.nown hr.cown (by simp)) hns hms hcs (by have := hA.next0; omega) hx hC).mono ?_
  rintro e w2 ⟨rfl, g, ov', kv', mk⟩
  refine ⟨rfl, mb, cb, ov', A.next + 1, mk.srow, ?_, fun w3 t3 r3 => ?_⟩
  · refine (t1.keep.mono (fun b _ h => ?_)).trans mk.keep (fun b _ h => ?_)
    · subst h; rw [hr.sown]; simp
    · rcases h with rfl | rfl | rfl | rfl | h | h
      · rw [hr.sown]; simp
      · rw [hr.mown]; simp
      · rw [hr.cown]; simp
      · rw [hdr.nown]; simp
      · rw [hr.oown _ h]; simp
      · rw [hdr.kown _ h]; simp
  · obtain ⟨own', h1, h2⟩ := made_store hA hr t1 hd hdr mk t3 r3
    exact ⟨own', ⟨hok, _, _, _, _, h1⟩, h2⟩
end Go.Proofs.YtfbcdhcgmncklaaDoor
