/- NodesPaths: plain facts. -/
import Derived.Test.YtfbcdhcgmncklaaDoorTurn2
namespace Go.Nd
open Go Go.RowKit
theorem Keep.cellA {w w' : World} (h : Keep w w' (fun _ => False)) {a : Addr} {v : Value} (hc : w.cell? a = some v) : w'.cell? a = some v := by
  obtain ⟨b, o, sp⟩ := a
  have hb : b < w.heap.size := World.block_lt_of_cell? w ⟨b, o, sp⟩ hc
  have := h.block b hb (fun x => x)
  unfold World.cell? at hc ⊢
  rw [this]; exact hc
end Go.Nd
namespace Go.Proofs.YtfbcdhcgmncklaaDoor
open Go Go.RowKit Go.Nd Go.Maps Go.MuLone Go.RwLone
set_option maxRecDepth 100000

/-- The name of the node of step k. -/
def nm3 (k : Nat) : ByteArray := ⟨#[UInt8.ofNat (97 + k % 26), UInt8.ofNat (97 + k / 26 % 26), UInt8.ofNat (97 + k / 676 % 26)]⟩
theorem nm3_ok' : ((List.range 2000).all fun k => nameOk (nm3 k)) = true := by kernel_rfl
theorem nm3_ok {k : Nat} (h : k < 2000) : nameOk (nm3 k) = true := List.all_eq_true.1 nm3_ok' k (List.mem_range.2 h)
theorem nm3_size (k : Nat) : (nm3 k).size = 3 := rfl
theorem ofNat_inj {a b : Nat} (ha : a < 256) (hb : b < 256) (h : UInt8.ofNat a = UInt8.ofNat b) : a = b := by
  have := congrArg UInt8.toNat h
  simpa [Nat.mod_eq_of_lt ha, Nat.mod_eq_of_lt hb] using this
theorem nm3_inj {i j : Nat} (hi : i < 17576) (hj : j < 17576) (h : nm3 i = nm3 j) : i = j := by
  unfold nm3 at h
  simp only [ByteArray.mk.injEq, Array.mk.injEq, List.cons.injEq, and_true] at h
  obtain ⟨h1, h2, h3⟩ := h
  have := ofNat_inj (by omega) (by omega) h1
  have := ofNat_inj (by omega) (by omega) h2
  have := ofNat_inj (by omega) (by omega) h3
  omega

def dropOpe (p : Int) : Ope := ⟨2, p, ByteArray.empty, 0, Inf.zero, 0, [], 0⟩
theorem built_drop (p : Int) : Tryd.prog.built 53 [(0, .int .u8 2), (1, .int .u64 p)] = some (opC (dropOpe p) (.slice none 0 0)) := by kernel_rfl
theorem opeOk_drop {p : Int} (p0 : 0 ≤ p) (p1 : p < 18446744073709551616) : OpeOk (dropOpe p) :=
  { p0 := p0, p1 := p1, name := by show ByteArray.empty.size ≤ _; decide, o0 := Int.le_refl _, o1 := by show (0 : Int) < _; omega
    node := { mode0 := Int.le_refl _, mode1 := by show (0 : Int) < _; omega, atime0 := Int.le_refl _, atime1 := by show (0 : Int) < _; omega, mtime0 := Int.le_refl _, mtime1 := by show (0 : Int) < _; omega, name := by show ByteArray.empty.size ≤ _; decide, uid := by show ByteArray.empty.size ≤ _; decide, gid := by show ByteArray.empty.size ≤ _; decide, muid := by show ByteArray.empty.size ≤ _; decide } }
theorem opeOk_mak {p : Int} (p0 : 0 ≤ p) (p1 : p < 18446744073709551616) {s : ByteArray} (hs : s.size ≤ 255) {m : Int} (m0 : 0 ≤ m) (m1 : m < 4294967296) : OpeOk (makOpe p s m) :=
  { p0 := p0, p1 := p1, name := by show ByteArray.empty.size ≤ _; decide, o0 := Int.le_refl _, o1 := by show (0 : Int) < _; omega, node := infOk_mak p hs m0 m1 }
theorem dataAt_nil (w : World) (own : Own) : DataAt w own [] (.slice none 0 0) := ⟨none, 0, rfl, (fun _ h => by cases h), by decide, fun h => absurd rfl h⟩
structure PathsInv (A : St) (live : List Int) (last : Int) (k : Nat) : Prop where
  most : A.most = 40
  kids : kids A.l 1 = live
  len : A.l.length = 1 + live.length
  nokids : ∀ p ∈ live, Nd.kids A.l p = []
  names : ∀ e ∈ A.l, e.inf.path ≠ 1 → ∃ j, j < k ∧ e.inf.name = nm3 j
  last0 : 0 ≤ last
  lastn : last < A.next
  next : A.next ≤ 2 + k
  live39 : live.length ≤ 39

theorem paths_start : PathsInv (St.new (lawConf 40)) [] 1 0 :=
  { most := rfl, kids := rfl, len := rfl, nokids := by simp
    names := fun e he hp => by
      have h' : (St.new (lawConf 40)).l = [rootEnt (lawConf 40)] := rfl
      rw [h', List.mem_singleton] at he
      subst he; exact absurd rfl hp
    last0 := by decide, lastn := by decide, next := by decide, live39 := by simp }
theorem paths_mem {A : St} {live : List Int} {last : Int} {k : Nat} (h : PathsInv A live last k) {p : Int} (hp : p ∈ live) : ∃ e ∈ A.l, e.inf.path = p ∧ p ≠ 1 := by
  rw [← h.kids] at hp
  unfold Nd.kids at hp
  obtain ⟨e, he, rfl⟩ := List.mem_map.1 hp
  rw [List.mem_filter] at he
  refine ⟨e, he.1, rfl, ?_⟩
  have := he.2
  simp only [Ent.kidOf, Bool.and_eq_true, bne_iff_ne] at this
  exact this.2
theorem paths_bound {A : St} (hA : StOk A) {live : List Int} {last : Int} {k : Nat} (h : PathsInv A live last k) {p : Int} (hp : p ∈ live) : 0 ≤ p ∧ p < 2 + k := by
  obtain ⟨e, he, hep, _⟩ := paths_mem h hp
  have := (hA.ok e he).path0
  have := hA.below e he
  have := h.next
  omega
theorem paths_drop {A : St} (hA : StOk A) {live : List Int} {last : Int} {k i : Nat} (h : PathsInv A live last k) (hi : i < live.length) :
    (A.does (dropOpe (live.getD i 0))).1 = (live.getD i 0, 0) ∧ PathsInv (A.does (dropOpe (live.getD i 0))).2 (live.take i ++ live.drop (i + 1)) last (k + 1) := by
  obtain ⟨p, hp⟩ : ∃ p, p = live.getD i 0 := ⟨_, rfl⟩
  have hpm : p ∈ live := by rw [hp, getD_lt hi]; exact List.getElem_mem hi
  obtain ⟨e, he, hep, h1⟩ := paths_mem h hpm
  have hk : kids A.l e.inf.path = [] := by rw [hep]; exact h.nokids p hpm
  have hdo : A.does (dropOpe p) = ((p, 0), { A with l := less A.l p }) := by
    have hf : find A.l p = some e := hep ▸ find_mem hA he
    have : A.does (dropOpe p) = A.drop e := by simp [St.does, dropOpe, hf]
    rw [this, drop_l (by rw [hep]; exact h1) hk, hep]
  have hr : live.Pairwise (· < ·) := h.kids ▸ kids_rise hA 1
  rw [← hp, hdo, erase_eq hr hi hp.symm]
  have hll := less_len hA he
  rw [hep] at hll
  have hfl : (live.filter (· != p)).length + 1 = live.length := by
    have := congrArg List.length (erase_eq hr hi hp.symm)
    simp at this
    omega
  refine ⟨rfl, { most := h.most, kids := ?_, len := ?_, nokids := fun q hq => ?_, names := fun x hx hx1 => ?_, last0 := h.last0, lastn := h.lastn, next := ?_, live39 := ?_ }⟩
  · show Nd.kids (less A.l p) 1 = _
    rw [kids_less, h.kids]
  · show (less A.l p).length = _
    have := h.len
    omega
  · show Nd.kids (less A.l p) q = []
    rw [kids_less, h.nokids q (List.mem_filter.1 hq).1]; rfl
  · obtain ⟨j, hj, hn⟩ := h.names x (less_mem.1 hx).1 hx1
    exact ⟨j, by omega, hn⟩
  · have := h.next
    show A.next ≤ 2 + ((k + 1 : Nat) : Int)
    omega
  · have := h.live39; omega
theorem paths_make {A : St} (hA : StOk A) {live : List Int} {last : Int} {k : Nat} (h : PathsInv A live last k) (hk : k < 2000) (hl : live.length ≠ 39) :
    (A.does (makOpe 1 (nm3 k) 384)).1 = (A.next, 0) ∧ PathsInv (A.does (makOpe 1 (nm3 k) 384)).2 (live ++ [A.next]) A.next (k + 1) := by
  obtain ⟨r, t, hrt, hr1, hr2, hr3⟩ := hA.root
  have hrm : r ∈ A.l := by rw [hrt]; simp
  have hf : find A.l 1 = some r := hr1 ▸ find_mem hA hrm
  have hc : child A.l r.inf.path (nm3 k) = none := by
    unfold child
    rw [Option.map_eq_none_iff, List.find?_eq_none]
    intro e he hh
    simp only [Bool.and_eq_true, Ent.kidOf, bne_iff_ne, beq_iff_eq] at hh
    obtain ⟨j, hj, hn⟩ := h.names e he hh.1.2
    have := nm3_inj (by omega) (by omega) (hn.symm.trans ((MapKept.bytes_beq _ _).1 hh.2))
    omega
  have hml : ¬ A.most ≤ (A.l.length : Int) := by
    have := h.most
    have := h.len
    have := h.live39
    omega
  have hmo : modeOk 384 = true := by kernel_rfl
  have hdo : A.does (makOpe 1 (nm3 k) 384) = ((A.next, 0), { A with next := A.next + 1, l := A.l ++ [newEnt A.next r.inf.path (makOpe 1 (nm3 k) 384).node] }) := by
    have e1 : A.does (makOpe 1 (nm3 k) 384) = A.make r (makOpe 1 (nm3 k) 384).node := by
      unfold St.does
      rw [if_neg (by show ¬ ((1 : Int) < 1 ∨ (7 : Int) < 1); omega)]
      show (match find A.l 1 with | none => _ | some e => _) = _
      rw [hf]
      rfl
    rw [e1]
    unfold St.make
    rw [hr3]
    show (if (!true) = true then _ else if (!modeOk 384 || !userOk annB || !userOk staffB || !userOk annB) = true then _ else if (!nameOk (nm3 k)) = true then _ else if (child A.l r.inf.path (nm3 k)).isSome = true then _ else _) = _
    rw [hmo, ann_ok, staff_ok, nm3_ok hk, hc, if_neg (by simp), if_neg (by simp), if_neg (by simp), if_neg (by simp), if_neg hml]
  rw [hdo]
  have hn0 := hA.next0
  have hko : ∀ q, (newEnt A.next r.inf.path (makOpe 1 (nm3 k) 384).node).kidOf q = (r.inf.path == q) := fun q => newEnt_kidOf (by omega) q
  refine ⟨rfl, { most := h.most, kids := ?_, len := ?_, nokids := fun q hq => ?_, names := fun x hx hx1 => ?_, last0 := ?_, lastn := ?_, next := ?_, live39 := ?_ }⟩
  · show Nd.kids (A.l ++ [newEnt A.next r.inf.path (makOpe 1 (nm3 k) 384).node]) 1 = _
    rw [kids_append, hko, h.kids, hr1]
    rfl
  · show (A.l ++ [_]).length = _
    have := h.len
    simp
    omega
  · show Nd.kids (A.l ++ [newEnt A.next r.inf.path (makOpe 1 (nm3 k) 384).node]) q = []
    rw [kids_append, hko, hr1]
    have hq1 : q ≠ 1 := by
      rcases List.mem_append.1 hq with hq | hq
      · obtain ⟨_, _, _, hh⟩ := paths_mem h hq; exact hh
      · rw [List.mem_singleton] at hq; omega
    have e2 : ((1 : Int) == q) = false := by rw [beq_eq_false_iff_ne]; exact Ne.symm hq1
    rw [e2]
    rcases List.mem_append.1 hq with hq | hq
    · rw [h.nokids q hq]; rfl
    · rw [List.mem_singleton] at hq
      rw [hq, kids_next hA]; rfl
  · rcases List.mem_append.1 hx with hx | hx
    · obtain ⟨j, hj, hn⟩ := h.names x hx hx1
      exact ⟨j, by omega, hn⟩
    · rw [List.mem_singleton] at hx
      subst hx
      exact ⟨k, by omega, rfl⟩
  · show 0 ≤ A.next; omega
  · show A.next < A.next + 1; omega
  · have := h.next
    show A.next + 1 ≤ 2 + ((k + 1 : Nat) : Int)
    omega
  · have := h.live39
    simp
    omega
end Go.Proofs.YtfbcdhcgmncklaaDoor
