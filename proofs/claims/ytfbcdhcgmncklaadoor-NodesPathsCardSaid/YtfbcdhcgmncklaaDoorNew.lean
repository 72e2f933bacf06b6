/- nodes.New: a store of the root alone. -/
import Derived.Test.YtfbcdhcgmncklaaDoorText
import Derived.Test.YtfbcdhcgmncklaaDoorRep
import Derived.Test.YtfbcdhcgmncklaaDoorPure
namespace Go.Proofs.YtfbcdhcgmncklaaDoor
open Go Go.RowKit Go.Nd Go.Maps
set_option maxRecDepth 100000

theorem ins41 (p q : Int) (s u g v : ByteArray) (m : Int) : Tryd.prog.built 41 [(0, .int .u64 p), (1, .int .u64 q), (2, .string s), (3, .int .u32 m), (4, .string u), (5, .string g), (6, .string v)] =
    some #[.int .u64 p, .int .u64 q, .string s, .int .u32 m, .string u, .string g, .string v, .int .u32 0, .int .u32 0, .int .u32 0, .int .u64 0, .int .i64 0, .int .i64 0] := by kernel_rfl
theorem ins92 (c0 c1 c2 c3 c4 c5 c6 c7 c8 c9 c10 c11 c12 : Value) : Tryd.prog.built 92 [(1, .agg #[c0, c1, c2, c3, c4, c5, c6, c7, c8, c9, c10, c11, c12])] =
    some #[.int .i32 0, .int .u32 0, c0, c1, c2, c3, c4, c5, c6, c7, c8, c9, c10, c11, c12, .slice none 0 0, .slice none 0 0] := by kernel_rfl
theorem ins101 (n k : Int) (m c : Option Nat) (a : Option Addr) (l cp : Nat) : Tryd.prog.built 101 [(1, .int .i64 n), (2, .int .u64 k), (3, .map m), (4, .slice a l cp), (5, .map c)] =
    some #[.int .i32 0, .int .u32 0, .int .u32 0, .int .u32 0, .int .i32 0, .int .i32 0, .int .i64 n, .int .u64 k, .map m, .slice a l cp, .map c] := by kernel_rfl

set_option maxHeartbeats 2000000 in
theorem new_bad1 (c : Conf) (w : World) (h1 : c.nodes < 1 ∨ 4096 < c.nodes ∨ (bits .andNot .u32 c.perm 511 == 0) = false) :
    Calls Tryd.prog 13 #[.agg c.cells.toArray] w fun e w' => e = .returned (.tuple #[.pointer none, .int .i64 1]) ∧ Below w.heap.size w w' := by
  simp only [Conf.cells]
  have t1 : (decide (c.nodes < 1) || decide (4096 < c.nodes) || (bits .andNot .u32 c.perm 511 != 0)) = true := by
    rcases h1 with h | h | h
    · simp [h]
    · simp [h]
    · simp [bne, h]
  by_cases a1 : c.nodes < 1
  · go_enter Tryd.func13, Tryd.ntmps13
    go_wp2_with fail
    go_ret2
    exact ⟨rfl, (Below.refl _ _).alloc (Nat.le_refl _) _⟩
  · by_cases a2 : 4096 < c.nodes
    · go_enter Tryd.func13, Tryd.ntmps13
      go_wp2_with fail
      go_ret2
      exact ⟨rfl, (Below.refl _ _).alloc (Nat.le_refl _) _⟩
    · have a3 : (bits .andNot .u32 c.perm 511 == 0) = false := by
        rcases h1 with h | h | h
        · exact absurd h a1
        · exact absurd h a2
        · exact h
      have a4 : (bits .andNot .u32 c.perm 511 != 0) = true := by simp [bne, a3]
      clear t1 h1
      go_enter Tryd.func13, Tryd.ntmps13
      go_wp2_with fail
      go_ret2
      exact ⟨rfl, (Below.refl _ _).alloc (Nat.le_refl _) _⟩

set_option maxHeartbeats 4000000 in
theorem new_bad2 (c : Conf) (w : World) (B : Nat) (hB : GB B w) (so : c.owner.size ≤ 4611686018427387904) (sg : c.group.size ≤ 4611686018427387904) (h1 : 1 ≤ c.nodes) (h2 : c.nodes ≤ 4096) (h3 : (bits .andNot .u32 c.perm 511 == 0) = true)
    (h4 : c.owner.toList.isEmpty = true ∨ c.group.toList.isEmpty = true ∨ userOk c.owner = false ∨ userOk c.group = false) :
    Calls Tryd.prog 13 #[.agg c.cells.toArray] w fun e w' => e = .returned (.tuple #[.pointer none, .int .i64 1]) ∧ Below w.heap.size w w' := by
  simp only [Conf.cells]
  have h3' : (bits .andNot .u32 c.perm 511 != 0) = false := by simp [bne, h3]
  have hB1 : ∀ o, GB B (w.alloc o) := fun o => hB.below ((Below.refl _ _).alloc (Nat.le_refl _) o)
  have HB := Lib.hid hB1
  clear hB1 hB
  cases e1 : c.owner.toList.isEmpty with
  | true =>
    clear h4
    go_enter Tryd.func13, Tryd.ntmps13
    go_wp2_with fail
    go_ret2
    exact ⟨rfl, (Below.refl _ _).alloc (Nat.le_refl _) _⟩
  | false =>
    cases e2 : c.group.toList.isEmpty with
    | true =>
      clear h4
      go_enter Tryd.func13, Tryd.ntmps13
      go_wp2_with fail
      go_ret2
      exact ⟨rfl, (Below.refl _ _).alloc (Nat.le_refl _) _⟩
    | false =>
      cases e3 : userOk c.owner with
      | false =>
        clear h4
        go_enter Tryd.func13, Tryd.ntmps13
        go_wp2_with fail
        refine (mayUser_any _ _ B (HB.out _) so).mono ?_
        rintro e w' ⟨rfl, hb⟩
        go_wp2_with fail
        go_ret2
        exact ⟨rfl, ((Below.refl _ w).alloc (Nat.le_refl _) _).trans (hb.mono (by simp))⟩
      | true =>
        have e4 : userOk c.group = false := by
          rcases h4 with h | h | h | h
          · rw [e1] at h; cases h
          · rw [e2] at h; cases h
          · rw [e3] at h; cases h
          · exact h
        clear h4
        go_enter Tryd.func13, Tryd.ntmps13
        go_wp2_with fail
        refine (mayUser_any _ _ B (HB.out _) so).mono ?_
        rintro e w' ⟨rfl, hb⟩
        obtain ⟨b1, b2, b3⟩ := bcell hb
        have hz := hb.size
        rw [World.size_alloc] at hz
        go_wp2_with fail
        refine (mayUser_any _ _ B ((HB.out _).below hb) sg).mono ?_
        rintro e w'' ⟨rfl, hb'⟩
        go_wp2_with fail
        go_ret2
        exact ⟨rfl, (((Below.refl _ w).alloc (Nat.le_refl _) _).trans (hb.mono (by simp))).trans (hb'.mono (by omega))⟩


/-- The parts of a new store: what each block is for. -/
def newOwn (n : Nat) : Own := fun b =>
  if b = n then some (Role.node 1) else if b = n + 1 then some Role.nodes else if b = n + 2 then some Role.order else if b = n + 3 then some Role.child else if b = n + 4 then some Role.store else none
theorem newOwn_ge {n b : Nat} (h : newOwn n b ≠ none) : n ≤ b ∧ b < n + 5 := by
  unfold newOwn at h
  repeat' split at h
  all_goals first | omega | (exact absurd rfl h)

theorem newRep (c : Conf) (hc : c.ok = true) (w2 w3 w4 : World)
    (hm : MapIs Tryd.prog 30 w3 (w2.heap.size + 1) 1 (nodesF [rootEnt c] (fun _ => w2.heap.size)))
    (hk : Keep ((w2.alloc (.cells (nodeCells (rootEnt c).inf (.slice none 0 0) (.slice none 0 0)) 92)).alloc (.map #[] 0)) w3 (· = w2.heap.size + 1))
    (hs : w3.heap.size = w2.heap.size + 2)
    (h4 : w4 = ((w3.alloc (.cells #[.int .u64 1] 30)).alloc (.map #[] 0)).alloc (.cells (storeCells c.nodes 2 (w2.heap.size + 1) (.slice (some ⟨w2.heap.size + 2, 0, none⟩) 1 1) (w2.heap.size + 3)) 101)) :
    Store w4 (newOwn w2.heap.size) (w2.heap.size + 4) (St.new c) ∧ w4.heap.size = w2.heap.size + 5 := by
  have hsz : w4.heap.size = w2.heap.size + 5 := by subst h4; simp [hs]
  have k4 : Keep w3 w4 (fun _ => False) := by
    subst h4
    exact ((Keep.alloc _ _ _).trans (Keep.alloc _ _ _) (fun _ _ h => h)).trans (Keep.alloc _ _ _) (fun _ _ h => h)
  have rn : Nd.row w4 w2.heap.size = some (nodeCells (rootEnt c).inf (.slice none 0 0) (.slice none 0 0), 92) := by
    refine k4.row (hk.row ?_ (by omega)) (fun h => h)
    rw [row_alloc_past _ _ _ (by simp)]
    exact row_alloc_at _ _ _ _ rfl
  have ro : Nd.row w4 (w2.heap.size + 2) = some (#[.int .u64 1], 30) := by
    subst h4
    rw [row_alloc_past _ _ _ (by simp [hs]), row_alloc_past _ _ _ (by simp [hs])]
    exact row_alloc_at _ _ _ _ hs.symm
  have rs : Nd.row w4 (w2.heap.size + 4) = some (storeCells c.nodes 2 (w2.heap.size + 1) (.slice (some ⟨w2.heap.size + 2, 0, none⟩) 1 1) (w2.heap.size + 3), 101) := by
    subst h4
    exact row_alloc_at _ _ _ _ (by simp [hs])
  have hcm : MapIs Tryd.prog 121 w4 (w2.heap.size + 3) 0 (fun _ => none) := by
    subst h4
    exact (MapIs.new' _ _ _ (by simp [hs])).keep (Keep.alloc _ _ (fun _ => False)) (fun h => h)
  have hcf : childF (St.new c).l = fun _ => none := by
    funext v
    unfold childF
    cases keyParts v with
    | none => rfl
    | some x => simp [child, St.new, Ent.kidOf, rootEnt]
  have hkids : kids (St.new c).l (rootEnt c).inf.path = [] := by simp [kids, St.new, Ent.kidOf, rootEnt]
  refine ⟨⟨stOk_new c hc, w2.heap.size + 1, w2.heap.size + 3, .slice (some ⟨w2.heap.size + 2, 0, none⟩) 1 1, fun _ => w2.heap.size, ?_⟩, hsz⟩
  refine { dom := fun b hb => by have := newOwn_ge hb; omega, sown := by simp [newOwn], srow := rs, mown := by simp [newOwn], mmap := hm.keep k4 (fun h => h), cown := by simp [newOwn], cmap := ⟨0, hcf ▸ hcm⟩, orow := ?_, oown := ?_, node := ?_ }
  · refine ⟨by simp [u64s, St.new], .inr ⟨w2.heap.size + 2, 1, #[.int .u64 1], rfl, Nat.zero_le _, row_iff.1 ro, Nat.le_refl _, by decide, rfl, by simp [u64s, St.new, rootEnt]⟩⟩
  · intro g hg
    simp [Value.ownBlock] at hg
    subst hg
    simp [newOwn]
  · intro e he
    simp [St.new] at he
    subst he
    refine ⟨.slice none 0 0, .slice none 0 0, [], { nown := by simp [newOwn, rootEnt], nrow := rn, nkids := ?_, kown := fun g hg => by simp [Value.ownBlock] at hg, bytes := { brow := World.ownsRow_nil _ _ _ _, bown := fun g hg => by simp [Value.ownBlock] at hg, blen := by simp, bnone := fun k hk => by simp at hk, bsome := fun k b hk => by simp at hk, bbey := fun _ _ => rfl } }⟩
    rw [hkids]
    exact World.ownsRow_nil _ _ _ _

theorem nodesF_root (c : Conf) (n : Nat) (x : Value) (h : x ≠ .int .u64 1) : nodesF [rootEnt c] (fun _ => n) x = none := by
  unfold nodesF
  split
  · rename_i p
    have : p ≠ 1 := fun e => h (by rw [e])
    simp [find, rootEnt, Ne.symm this]
  · rfl

set_option maxHeartbeats 8000000 in
theorem new_ok (c : Conf) (w : World) (B : Nat) (hB : GB B w) (so : c.owner.size ≤ 4611686018427387904) (sg : c.group.size ≤ 4611686018427387904) (h1 : 1 ≤ c.nodes) (h2 : c.nodes ≤ 4096) (h3 : (bits .andNot .u32 c.perm 511 == 0) = true)
    (e1 : c.owner.toList.isEmpty = false) (e2 : c.group.toList.isEmpty = false) (e3 : userOk c.owner = true) (e4 : userOk c.group = true) :
    Calls Tryd.prog 13 #[.agg c.cells.toArray] w fun e w' => ∃ s own, e = .returned (.tuple #[.pointer (some ⟨s, 0, none⟩), .int .i64 0]) ∧ Below w.heap.size w w' ∧ Store w' own s (St.new c) ∧ ∀ b, own b ≠ none → w.heap.size ≤ b := by
  have hok : c.ok = true := by simp [Conf.ok, h1, h2, h3, e1, e2, e3, e4]
  have HK := Lib.hid hok
  clear hok
  simp only [Conf.cells]
  have h3' : (bits .andNot .u32 c.perm 511 != 0) = false := by simp [bne, h3]
  have hB1 : ∀ o, GB B (w.alloc o) := fun o => hB.below ((Below.refl _ _).alloc (Nat.le_refl _) o)
  have HB := Lib.hid hB1
  clear hB1 hB
  go_enter Tryd.func13, Tryd.ntmps13
  go_wp2_with fail
  refine (mayUser_any _ _ B (HB.out _) so).mono ?_
  rintro e w1 ⟨rfl, hb⟩
  obtain ⟨b1, b2, b3⟩ := bcell hb
  have hz := hb.size
  rw [World.size_alloc] at hz
  go_wp2_with fail
  refine (mayUser_any _ _ B ((HB.out _).below hb) sg).mono ?_
  rintro e w2 ⟨rfl, hb'⟩
  have hb2 := hb.trans (hb'.mono (by simp; omega))
  obtain ⟨b4, b5, b6⟩ := bcell hb2
  have hz2 : w.heap.size < w2.heap.size := by have := hb'.size; omega
  clear b1 b2 b3 hb' hb
  have hmm := @run_makeMap Tryd.prog
  go_wp2_with (first
    | ((with_reducible apply wpList_buildS (ins41 _ _ _ _ _ _ _)); · rfl)
    | ((with_reducible apply wpList_buildS (ins92 _ _ _ _ _ _ _ _ _ _ _ _ _)); · rfl)
    | ((with_reducible apply wpList_buildS (ins101 _ _ _ _ _ _ _)); · rfl)
    | ((with_reducible refine wpList_insertM (b := w2.heap.size + 1) (key := .int .u64 1) (val := .pointer (some ⟨w2.heap.size, 0, none⟩)) (n := 0) (f := fun _ => none) (f' := nodesF [rootEnt c] (fun _ => w2.heap.size)) ?_ lawU Tryd.underlying93 ?_ ?_ ?_ (keyU (by omega) (by omega)) ?_ ?_ ?_); (· exact MapIs.new' _ _ _ (by simp)); (· rfl); (· rfl); (· rfl); (· rfl); (· exact fun x hx => nodesF_root c _ x hx)
       intro w3 hm3 hk3 hs3))
  have hs3' : w3.heap.size = w2.heap.size + 2 := by simpa using hs3
  obtain ⟨hst, hsz⟩ := newRep c HK.out w2 w3 _ hm3 hk3 hs3' rfl
  refine bodyPost_ret (results_tmp2 rfl _ _ _) rfl ⟨w2.heap.size + 4, newOwn w2.heap.size, ?_, ?_, ?_, ?_⟩
  · rfl
  · have k1 : Below w.heap.size w w2 := ((Below.refl _ w).alloc (Nat.le_refl _) _).trans (hb2.mono (by simp))
    have k2 := (Keep.alloc w2 (.cells (nodeCells (rootEnt c).inf (.slice none 0 0) (.slice none 0 0)) 92) (fun b => w.heap.size ≤ b)).trans (Keep.alloc _ (.map #[] 0) (fun b => w.heap.size ≤ b)) (fun _ _ h => h)
    have k3 := k2.trans hk3 (fun i _ h => by have h' : i = w2.heap.size + 1 := h; omega)
    exact k1.trans ((((k3.thenAlloc _).thenAlloc _).thenAlloc _).belowOf (by omega))
  · exact hst
  · intro b hb
    have := newOwn_ge hb
    omega
end Go.Proofs.YtfbcdhcgmncklaaDoor
