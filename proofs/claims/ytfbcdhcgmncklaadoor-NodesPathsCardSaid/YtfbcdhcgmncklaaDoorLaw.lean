/- The laws' own small functions: mak, store. -/
import Derived.Test.YtfbcdhcgmncklaaDoorReadS
import Derived.Test.YtfbcdhcgmncklaaDoorNew
namespace Go.Proofs.YtfbcdhcgmncklaaDoor
open Go Go.RowKit Go.Nd Go.Maps Go.MuLone Go.RwLone
set_option maxRecDepth 100000

def annB : ByteArray := ⟨#[97, 110, 110]⟩
def staffB : ByteArray := ⟨#[115, 116, 97, 102, 102]⟩
/-- What mak makes. -/
def makOpe (p : Int) (s : ByteArray) (m : Int) : Ope := ⟨1, p, ByteArray.empty, 0, ⟨0, 0, s, m, annB, staffB, annB, 0, 0, 0, 0, 0, 0⟩, 0, [], 0⟩

theorem built_node (s : ByteArray) (m : Int) : Tryd.prog.built 41 [(2, .string s), (3, .int .u32 m), (4, .string annB), (5, .string staffB), (6, .string annB)] =
    some #[.int .u64 0, .int .u64 0, .string s, .int .u32 m, .string annB, .string staffB, .string annB, .int .u32 0, .int .u32 0, .int .u32 0, .int .u64 0, .int .i64 0, .int .i64 0] := by kernel_rfl
theorem built_op (p : Int) (s : ByteArray) (m : Int) : Tryd.prog.built 53 [(0, .int .u8 1), (1, .int .u64 p), (4, .agg #[.int .u64 0, .int .u64 0, .string s, .int .u32 m, .string annB, .string staffB, .string annB, .int .u32 0, .int .u32 0, .int .u32 0, .int .u64 0, .int .i64 0, .int .i64 0])] =
    some (opC (makOpe p s m) (.slice none 0 0)) := by kernel_rfl
theorem size53 : (Tryd.prog.info? 53).map (·.size) = some 20 := by kernel_rfl

set_option maxHeartbeats 4000000 in
theorem mak_any (w : World) (p : Int) (s : ByteArray) (m : Int) :
    Calls Tryd.prog 21 #[.int .u64 p, .string s, .int .u32 m] w fun e w' => e = .returned (.agg (opC (makOpe p s m) (.slice none 0 0))) ∧ Keep w w' (fun _ => False) := by
  go_enter Tryd.func21, Tryd.ntmps21
  go_wp2_with (first
    | ((with_reducible apply wpList_buildS (built_node s m)); · rfl)
    | ((with_reducible apply wpList_buildS (built_op p s m)); · rfl)
    | ((with_reducible apply wpList_storeS size53); (· rfl); (· rfl); (· rfl); (· rfl); (· simp [go_sem])))
  refine bodyPost_ret (results_cellS (n := 20) (cs := opC (makOpe p s m) (.slice none 0 0)) (T := 53) rfl rfl (Tryd.isAgg53 _) (Tryd.sizeOf53 _) ?_ rfl) rfl ?_
  · rw [row_setRow_eq, row_alloc_at _ _ _ _ rfl]; rfl
  · exact ⟨rfl, (Keep.alloc _ _ _).thenRow _ _ (fun h => absurd h (Nat.lt_irrefl _))⟩

/-- What store makes a store of. -/
def lawConf (most : Int) : Conf := ⟨ByteArray.empty, annB, staffB, 493, 0, 0, 0, 0, most, 0⟩
theorem built_conf (most : Int) : Tryd.prog.built 32 [(8, .int .i64 most), (3, .int .u32 493), (1, .string annB), (2, .string staffB)] = some (lawConf most).cells.toArray := by kernel_rfl
theorem ann_ok : userOk annB = true := by kernel_rfl
theorem staff_ok : userOk staffB = true := by kernel_rfl

set_option maxHeartbeats 4000000 in
theorem law_store (w : World) (B : Nat) (hB : GB B w) {most : Int} (h1 : 1 ≤ most) (h2 : most ≤ 4096) :
    Calls Tryd.prog 19 #[.int .i64 most] w fun e w' => ∃ s own, e = .returned (.pointer (some ⟨s, 0, none⟩)) ∧ Below w.heap.size w w' ∧ Store w' own s (St.new (lawConf most)) ∧ ∀ b, own b ≠ none → w.heap.size ≤ b := by
  have hnew := new_ok (lawConf most) w B hB (show annB.size ≤ 4611686018427387904 by decide) (show staffB.size ≤ 4611686018427387904 by decide) h1 h2 (by kernel_rfl) (by kernel_rfl) (by kernel_rfl) ann_ok staff_ok
  have HN := Lib.hid hnew
  clear hnew hB
  go_enter Tryd.func19, Tryd.ntmps19
  go_wp2_with (first
    | ((with_reducible apply wpList_buildS (built_conf most)); · rfl))
  refine HN.out.mono ?_
  rintro e w1 ⟨s, own, rfl, hb, hst, ho⟩
  have H := Lib.hid (And.intro hb (And.intro hst ho))
  clear hb hst ho HN
  go_wp2_with fail
  go_ret
  exact ⟨s, own, rfl, H.out.1, H.out.2.1, H.out.2.2⟩
end Go.Proofs.YtfbcdhcgmncklaaDoor
