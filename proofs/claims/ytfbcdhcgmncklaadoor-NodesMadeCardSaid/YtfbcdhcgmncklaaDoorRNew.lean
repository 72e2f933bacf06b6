/- The reference's New, and its Node of the root. -/
import Derived.Test.YtfbcdhcgmncklaaDoorRGood
import Derived.Test.YtfbcdhcgmncklaaDoorEq
import Derived.Test.YtfbcdhcgmncklaaDoorWorks
namespace Go.Proofs.YtfbcdhcgmncklaaDoor
open Go Go.RowKit Go.Nd Go.Maps
set_option maxRecDepth 100000

theorem low9 (i : Nat) (h : i < 32) : (511#32).getLsbD i = decide (i < 9) := by
  have : ∀ j : Fin 32, (511#32).getLsbD j.val = decide (j.val < 9) := by decide
  exact this ⟨i, h⟩
theorem perm_iff {p : Int} (h0 : 0 ≤ p) (h1 : p < 4294967296) : (bits .andNot .u32 p 511 == 0) = decide (p ≤ 511) := by
  obtain ⟨n, rfl⟩ : ∃ n : Nat, p = n := ⟨p.toNat, by omega⟩
  have e2 : BitVec.ofInt 32 511 = 511#32 := by decide
  have e : bits .andNot .u32 (n : Int) 511 = ((BitVec.ofNat 32 n &&& ~~~511#32).toNat : Int) := by
    show IntKind.u32.wrap (((BitVec.ofInt 32 n) &&& ~~~(BitVec.ofInt 32 511)).toNat : Int) = _
    rw [e2, BitVec.ofInt_natCast, wrap_u32 (by omega) (by have := ((BitVec.ofNat 32 n) &&& ~~~511#32).isLt; omega)]
  rw [e, Bool.eq_iff_iff, beq_iff_eq, decide_eq_true_iff]
  have hn : (BitVec.ofNat 32 n).toNat = n := by rw [BitVec.toNat_ofNat, Nat.mod_eq_of_lt (by omega)]
  constructor
  · intro h
    have hz : BitVec.ofNat 32 n &&& ~~~511#32 = 0#32 := by apply BitVec.eq_of_toNat_eq; simpa using h
    have hlt : n < 2 ^ 9 := by
      apply Nat.lt_pow_two_of_testBit
      intro i hi
      by_cases hi2 : i < 32
      · have hb := congrArg (fun x => BitVec.getLsbD x i) hz
        simp only [BitVec.getLsbD_and, BitVec.getLsbD_not, low9 i hi2, hi2, decide_true, Bool.true_and, BitVec.getLsbD_zero] at hb
        rw [decide_eq_false (by omega), Bool.not_false, Bool.and_true] at hb
        have : (BitVec.ofNat 32 n).getLsbD i = (BitVec.ofNat 32 n).toNat.testBit i := rfl
        rw [this, hn] at hb
        exact hb
      · exact Nat.testBit_lt_two_pow (Nat.lt_of_lt_of_le (by omega : n < 2 ^ 32) (Nat.pow_le_pow_right (by decide) (by omega)))
    omega
  · intro h
    have hz : BitVec.ofNat 32 n &&& ~~~511#32 = 0#32 := by
      apply BitVec.eq_of_getLsbD_eq
      intro i hi
      simp only [BitVec.getLsbD_and, BitVec.getLsbD_not, low9 i hi, hi, decide_true, Bool.true_and, BitVec.getLsbD_zero]
      by_cases h9 : i < 9
      · rw [decide_eq_true h9]; simp
      · have : (BitVec.ofNat 32 n).getLsbD i = (BitVec.ofNat 32 n).toNat.testBit i := rfl
        rw [this, hn, Nat.testBit_lt_two_pow (Nat.lt_of_lt_of_le (by omega : n < 2 ^ 9) (Nat.pow_le_pow_right (by decide) (by omega)))]
        rfl
    rw [hz]; rfl

theorem rins103 (f : Inf) : Tryd.prog.built 103 [(0, .agg f.cells.toArray)] = some (f.cells ++ [Value.slice none 0 0]).toArray := by kernel_rfl
theorem rins106 (n k : Int) (a : Option Addr) (l cp : Nat) : Tryd.prog.built 106 [(0, .int .i64 n), (1, .int .u64 k), (2, .slice a l cp)] = some #[.int .i64 n, .int .u64 k, .slice a l cp] := by kernel_rfl

set_option maxHeartbeats 8000000 in
theorem newR_ok (c : Conf) (w : World) (so : c.owner.size ≤ 4611686018427387904) (sg : c.group.size ≤ 4611686018427387904) (h1 : 1 ≤ c.nodes) (h2 : c.nodes ≤ 4096) (h3 : c.perm ≤ 511)
    (e1 : c.owner.toList.isEmpty = false) (e2 : c.group.toList.isEmpty = false) (e3 : userOk c.owner = true) (e4 : userOk c.group = true) :
    Calls Tryd.prog 14 #[.agg c.cells.toArray] w fun e w' => ∃ s g, e = .returned (.tuple #[.pointer (some ⟨s, 0, none⟩), .int .i64 0]) ∧ Keep w w' (fun _ => False) ∧
      row w' s = some (#[.int .i64 c.nodes, .int .u64 2, .slice (some ⟨g, 0, none⟩) 1 1], 106) ∧ row w' g = some (((rootEnt c).inf.cells ++ [Value.slice none 0 0]).toArray, 103) ∧ w.heap.size ≤ s ∧ w.heap.size ≤ g := by
  simp only [Conf.cells]
  have d1 : decide (c.nodes < 1) = false := by rw [decide_eq_false_iff_not]; omega
  have d2 : decide (4096 < c.nodes) = false := by rw [decide_eq_false_iff_not]; omega
  have d3 : decide (511 < c.perm) = false := by rw [decide_eq_false_iff_not]; omega
  go_enter Tryd.func14, Tryd.ntmps14
  go_wp2_with (first
    | (go_at_call 35; refine (userR_any _ _ (by assumption)).mono ?_; rintro e w' ⟨rfl, rfl⟩)
    | ((with_reducible apply wpList_buildS (ins41 _ _ _ _ _ _ _)); · rfl)
    | ((with_reducible apply wpList_storeS size41); (· rfl); (· rfl); (· rfl); (· rfl); (· simp [go_sem])))
  refine bodyPost_ret (results_tmp2 rfl _ _ _) rfl ⟨w.heap.size + 1 + 1 + 1, w.heap.size + 1 + 1, rfl, (((Keep.alloc _ _ _).thenAlloc _).thenAlloc _).thenAlloc _, ?_, ?_, by omega, by omega⟩
  · exact row_alloc_at _ _ _ _ (by simp)
  · rw [row_alloc_past _ _ _ (by simp)]; exact row_alloc_at _ _ _ _ (by simp)

/-- What the reference's New asks. -/
def Conf.okR (c : Conf) : Bool :=
  !(decide (c.nodes < 1) || decide (4096 < c.nodes) || decide (511 < c.perm) || !userOk c.owner || !userOk c.group || c.owner.toList.isEmpty || c.group.toList.isEmpty)

set_option maxHeartbeats 8000000 in
theorem newR_bad (c : Conf) (w : World) (so : c.owner.size ≤ 4611686018427387904) (sg : c.group.size ≤ 4611686018427387904) (h : Conf.okR c = false) :
    Calls Tryd.prog 14 #[.agg c.cells.toArray] w fun e w' => e = .returned (.tuple #[.pointer none, .int .i64 1]) ∧ Keep w w' (fun _ => False) := by
  simp only [Conf.cells]
  have H := Lib.hid h
  clear h
  cases d1 : decide (c.nodes < 1) with
  | true =>
    go_enter Tryd.func14, Tryd.ntmps14
    go_wp2_with (go_at_call 35; refine (userR_any _ _ (by assumption)).mono ?_; rintro e w' ⟨rfl, rfl⟩)
    go_ret2
    exact ⟨rfl, Keep.alloc _ _ _⟩
  | false =>
  cases d2 : decide (4096 < c.nodes) with
  | true =>
    go_enter Tryd.func14, Tryd.ntmps14
    go_wp2_with (go_at_call 35; refine (userR_any _ _ (by assumption)).mono ?_; rintro e w' ⟨rfl, rfl⟩)
    go_ret2
    exact ⟨rfl, Keep.alloc _ _ _⟩
  | false =>
  cases d3 : decide (511 < c.perm) with
  | true =>
    go_enter Tryd.func14, Tryd.ntmps14
    go_wp2_with (go_at_call 35; refine (userR_any _ _ (by assumption)).mono ?_; rintro e w' ⟨rfl, rfl⟩)
    go_ret2
    exact ⟨rfl, Keep.alloc _ _ _⟩
  | false =>
  cases d4 : userOk c.owner with
  | false =>
    go_enter Tryd.func14, Tryd.ntmps14
    go_wp2_with (go_at_call 35; refine (userR_any _ _ (by assumption)).mono ?_; rintro e w' ⟨rfl, rfl⟩)
    go_ret2
    exact ⟨rfl, Keep.alloc _ _ _⟩
  | true =>
  cases d5 : userOk c.group with
  | false =>
    go_enter Tryd.func14, Tryd.ntmps14
    go_wp2_with (go_at_call 35; refine (userR_any _ _ (by assumption)).mono ?_; rintro e w' ⟨rfl, rfl⟩)
    go_ret2
    exact ⟨rfl, Keep.alloc _ _ _⟩
  | true =>
  cases d6 : c.owner.toList.isEmpty with
  | true =>
    go_enter Tryd.func14, Tryd.ntmps14
    go_wp2_with (go_at_call 35; refine (userR_any _ _ (by assumption)).mono ?_; rintro e w' ⟨rfl, rfl⟩)
    go_ret2
    exact ⟨rfl, Keep.alloc _ _ _⟩
  | false =>
  cases d7 : c.group.toList.isEmpty with
  | true =>
    go_enter Tryd.func14, Tryd.ntmps14
    go_wp2_with (go_at_call 35; refine (userR_any _ _ (by assumption)).mono ?_; rintro e w' ⟨rfl, rfl⟩)
    go_ret2
    exact ⟨rfl, Keep.alloc _ _ _⟩
  | false =>
    have := H.out
    simp only [Conf.okR, d1, d2, d3, d4, d5, d6, d7] at this
    cases this

theorem okR_ok {c : Conf} (p0 : 0 ≤ c.perm) (p1 : c.perm < 4294967296) : Conf.okR c = c.ok := by
  have h := perm_iff p0 p1
  unfold Conf.okR Conf.ok
  rw [h]
  by_cases a : c.nodes < 1 <;> by_cases b : 4096 < c.nodes <;> by_cases d : 511 < c.perm <;>
    cases userOk c.owner <;> cases userOk c.group <;> cases c.owner.toList.isEmpty <;> cases c.group.toList.isEmpty <;>
    simp [a, b, d, show (1 ≤ c.nodes) ↔ ¬ c.nodes < 1 by omega, show (c.nodes ≤ 4096) ↔ ¬ 4096 < c.nodes by omega, show (c.perm ≤ 511) ↔ ¬ 511 < c.perm by omega]

set_option maxHeartbeats 4000000 in
theorem atR_root (w : World) (s g n : Nat) (hn : 1 ≤ n) (hn2 : n ≤ 4611686018427387904) (c2 : w.cell? ⟨s, 2, none⟩ = some (.slice (some ⟨g, 0, none⟩) n n)) (c0 : w.cell? ⟨g, 0, none⟩ = some (.int .u64 1)) :
    Calls Tryd.prog 39 #[.pointer (some ⟨s, 0, none⟩), .int .u64 1] w fun e w' => e = .returned (.int .i64 0) ∧ w = w' := by
  have hn0 : (0 : Int) < n := by omega
  have hn3 : 0 < n := hn
  go_enter Tryd.func39, Tryd.ntmps39
  go_wp2_with fail
  go_loop [5] (fun i => i = .int .i64 0) (fun _ => 0)
  case atStart => rfl
  case round =>
    subst hrel
    go_wp2_with fail
    go_ret
    exact ⟨rfl, rfl⟩

theorem ent_all (f : Inf) (rest : List Value) (T : TypeId) : (((some ((f.cells ++ rest).toArray, T)).getD (#[], 0)).1).extract 0 (0 + 13) = f.cells.toArray := by
  apply Array.ext'
  simp [Inf.cells]

set_option maxHeartbeats 4000000 in
/-- Node(1) of a reference's store whose first node is the root. -/
theorem nodeR_root (w : World) (f : Inf) (s g n : Nat) (most next : Int) (rest : List Value) (hf : f.path = 1) (hn : 1 ≤ n) (hn2 : n ≤ 4611686018427387904)
    (hs : row w s = some (#[.int .i64 most, .int .u64 next, .slice (some ⟨g, 0, none⟩) n n], 106)) (hg : row w g = some ((f.cells ++ rest).toArray, 103)) :
    Calls Tryd.prog 16 #[.pointer (some ⟨s, 0, none⟩), .int .u64 1] w fun e w' => e = .returned (.tuple #[.agg f.cells.toArray, .bool true]) ∧ Keep w w' (fun _ => False) := by
  have hsl := row_lt hs
  have hgl := row_lt hg
  obtain ⟨W0, hW0⟩ : ∃ W0, W0 = w.alloc (.cells Inf.zero.cells.toArray 41) := ⟨_, rfl⟩
  have k0 : Keep w W0 (fun _ => False) := by rw [hW0]; exact Keep.alloc _ _ _
  have rs := k0.row hs (fun h => h)
  have rg := k0.row hg (fun h => h)
  have rz : row W0 w.heap.size = some (Inf.zero.cells.toArray, 41) := by rw [hW0]; exact row_alloc_at _ _ _ _ rfl
  have c2 : W0.cell? ⟨s, 2, none⟩ = some (.slice (some ⟨g, 0, none⟩) n n) := cell_row rs
  have c0 : W0.cell? ⟨g, 0, none⟩ = some (.int .u64 1) := by rw [cell_row rg, ← hf]; simp [Inf.cells]
  have hzz : W0.heap.size = w.heap.size + 1 := by rw [hW0, World.size_alloc]
  have hn0 : (0 : Int) < n := by omega
  have H := Lib.hid (And.intro k0 (And.intro rg (And.intro rz hzz)))
  clear hs hg k0 rs rg rz hzz
  go_enter Tryd.func16, Tryd.ntmps16
  go_wp2_with fail
  have hW1 : w.alloc (.cells #[.int .u64 0, .int .u64 0, .string { data := #[] }, .int .u32 0, .string { data := #[] }, .string { data := #[] }, .string { data := #[] }, .int .u32 0, .int .u32 0, .int .u32 0, .int .u64 0, .int .i64 0, .int .i64 0] 41) = W0 := hW0.symm
  rw [hW1]
  clear hW0 hW1
  refine (atR_root W0 s g n hn hn2 c2 c0).mono ?_
  rintro e w' ⟨rfl, rfl⟩
  go_wp2_with (first
    | ((with_reducible apply wpList_loadS Tryd.isAgg41 Tryd.sizeOf41); (· rfl); (· rw [H.out.2.1]; simp [Inf.cells]); (rw [H.out.2.1, ent_all]))
    | ((with_reducible apply wpList_storeS size41); (· rfl); (· rfl); (· rfl); (· rfl); (· rw [H.out.2.2.1]; rfl)))
  refine bodyPost_ret (results_cellS2 (n := 13) (cs := f.cells.toArray) (T := 41) rfl rfl (Tryd.isAgg41 _) (Tryd.sizeOf41 _) ?_ rfl) rfl ⟨rfl, ?_⟩
  · rw [row_setRow_eq, H.out.2.2.1]; rfl
  · exact H.out.1.thenRow _ _ (fun h => absurd h (Nat.lt_irrefl _))
end Go.Proofs.YtfbcdhcgmncklaaDoor
