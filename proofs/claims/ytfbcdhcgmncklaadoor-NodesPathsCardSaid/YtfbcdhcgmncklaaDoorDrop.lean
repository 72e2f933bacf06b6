/- (*Store).drop, walked. -/
import Derived.Test.YtfbcdhcgmncklaaDoorDropP
import Derived.Deep.RegionHeld3
import Derived.Deep.DeepCutAuto
namespace Go.Nd
open Go Go.RowKit Go.Maps Go.MapKept Go.ChangeMaps
section
variable {P : Program} {k e t : TypeId} {w : World} {b n : Nat} {f : Value → Option Value} {ops : Array Oper} {rest : List Oper} {a : Act} {Q : Exit → Act → World → Prop}
/-- 'delete(m, key)', at the operation. -/
theorem wpList_dropM {o : Oper} {m x : Operand} (hg : o.guard = none) (hop : o.op = Op.call { callee := Callee.builtin Builtin.delete, args := #[m, x], argTypes := #[t, k] })
    (h : MapIs P k w b n f) (K : Keyed P k) (ht : P.underlying t = some (.map k e)) (hm : a.eval m = .map (some b)) {key : Value} {kl : Lit} (hx : a.eval x = key) (hkey : keyOf P k key = some kl) {f' : Value → Option Value}
    (hf : f' key = none) (hf' : ∀ x, x ≠ key → f' x = f x)
    (hK : ∀ w', MapIs P k w' b (if (f key).isSome then n - 1 else n) f' → Keep w w' (· = b) → w'.heap.size = w.heap.size → wpList P ops Q rest (a.put o.dst (.tuple #[])) w') : wpList P ops Q (o :: rest) a w := by
  refine wpList_plain hg fun K' hK' => ?_
  obtain ⟨w', hr, h1, h2, h3⟩ := h.drop K ht (ty := o.type) hkey hf hf'
  unfold Oper.wp
  simp [execOp, hop, resolve, invoke, builtin, hm, hx, hr, Result.andThen]
  exact hK' _ _ (hK w' h1 h2 h3)
theorem upon_dropM {o : Oper} {K' : Act → World → Prop} {ty : TypeId} (h : MapIs P k w b n f) (K : Keyed P k) (ht : P.underlying t = some (.map k e)) {key : Value} {kl : Lit} (hkey : keyOf P k key = some kl) {f' : Value → Option Value}
    (hf : f' key = none) (hf' : ∀ x, x ≠ key → f' x = f x)
    (hK : ∀ w', MapIs P k w' b (if (f key).isSome then n - 1 else n) f' → Keep w w' (· = b) → w'.heap.size = w.heap.size → K' (a.put o.dst (.tuple #[])) w') :
    o.upon P a K' Q ((Sem.run P (Builtin.delete_ #[t, k] ty #[.map (some b), key]) w).andThen fun v w' => Result.ok (Next.value v) w') := by
  obtain ⟨w', hr, h1, h2, h3⟩ := h.drop K ht (ty := ty) hkey hf hf'
  rw [hr]
  exact hK w' h1 h2 h3
end
end Go.Nd
namespace Go.Proofs.YtfbcdhcgmncklaaDoor
open Go Go.RowKit Go.Nd Go.Maps Go.MuLone Go.RwLone
set_option maxRecDepth 100000

set_option maxHeartbeats 4000000 in
theorem drop_root {w : World} {s nb : Nat} {a : Int} {f : Inf} {kv bv : Value} {T : TypeId} (hn : row w nb = some (nodeC a f kv bv, T)) (h : f.path = 1) :
    Calls Tryd.prog 66 #[.pointer (some ⟨s, 0, none⟩), .pointer (some ⟨nb, 0, none⟩)] w fun e w' => e = .returned (.tuple #[.int .u64 0, .int .i64 81]) ∧ w = w' := by
  have c2 : w.cell? ⟨nb, 2, none⟩ = some (.int .u64 f.path) := cell_row hn
  rw [h] at c2
  clear h hn
  go_enter Tryd.func66, Tryd.ntmps66
  go_wp2_with fail
  go_ret2
  exact ⟨rfl, rfl⟩
set_option maxHeartbeats 4000000 in
theorem drop_kids {w : World} {s nb kl : Nat} {a : Int} {f : Inf} {ka : Option Addr} {kc : Nat} {bv : Value} {T : TypeId} (hn : row w nb = some (nodeC a f (.slice ka kl kc) bv, T)) (h : f.path ≠ 1) (hk : 0 < kl) :
    Calls Tryd.prog 66 #[.pointer (some ⟨s, 0, none⟩), .pointer (some ⟨nb, 0, none⟩)] w fun e w' => e = .returned (.tuple #[.int .u64 0, .int .i64 85]) ∧ w = w' := by
  have c2 : w.cell? ⟨nb, 2, none⟩ = some (.int .u64 f.path) := cell_row hn
  have c15 : w.cell? ⟨nb, 15, none⟩ = some (.slice ka kl kc) := cell_row hn
  have h1 : (f.path == 1) = false := by rw [beq_eq_false_iff_ne]; exact h
  have hk2 : (0 : Int) < kl := by omega
  clear h hn
  go_enter Tryd.func66, Tryd.ntmps66
  go_wp2_with fail
  go_ret2
  exact ⟨rfl, rfl⟩

/-- Behind a drop: the rows, the maps, the lists. -/
structure DropOk (w w' : World) (s mb cb db : Nat) (n m : Nat) (most next : Int) (ov kv bv : Value) (d : Inf) (F' C' : Value → Option Value) (ps ks : List Int) (ov' kv' : Value) : Prop where
  srow : row w' s = some (storeC 1 (-1073741824) most next mb ov' cb, 101)
  drow : row w' db = some (nodeC 0 d kv' bv, 92)
  mmap : MapIs Tryd.prog 30 w' mb n F'
  cmap : MapIs Tryd.prog 121 w' cb m C'
  orow : w'.ownsRow 0 30 1 ov' ps.length (u64s ps)
  krow : w'.ownsRow 0 30 1 kv' ks.length (u64s ks)
  oloc : ov'.ownBlock = ov.ownBlock
  kloc : kv'.ownBlock = kv.ownBlock
  keep : Keep w w' (fun b => b = s ∨ b = mb ∨ b = cb ∨ b = db ∨ ov.ownBlock = some b ∨ kv.ownBlock = some b)

set_option maxHeartbeats 8000000 in
theorem drop_ok {w : World} {s nb mb cb db n m : Nat} {most next : Int} {ov kv bv kn bn : Value} {e d : Inf} {F C F' C' : Value → Option Value} {ps ks : List Int}
    (hs : row w s = some (storeC 1 (-1073741824) most next mb ov cb, 101)) (hn : row w nb = some (nodeC 0 e kn bn, 92)) (hd : row w db = some (nodeC 0 d kv bv, 92))
    (hm : MapIs Tryd.prog 30 w mb n F) (hc : MapIs Tryd.prog 121 w cb m C) (ho : w.ownsRow 0 30 1 ov ps.length (u64s ps)) (hk : w.ownsRow 0 30 1 kv ks.length (u64s ks))
    (e1 : e.path ≠ 1) (p0 : 0 ≤ e.path) (p1 : e.path < 18446744073709551616) (q0 : 0 ≤ e.parent) (q1 : e.parent < 18446744073709551616) (hnm : e.name.size ≤ maxLen) (hkn : ∃ ka kc, kn = .slice ka 0 kc)
    (hps : ps.Pairwise (· < ·)) (hks : ks.Pairwise (· < ·)) (lps : ps.length ≤ 4611686018427387904) (lks : ks.length ≤ 4611686018427387904) (ip : e.path ∈ ps) (ik : e.path ∈ ks)
    (hF : F (.int .u64 e.parent) = some (.pointer (some ⟨db, 0, none⟩))) (hFe : (F (.int .u64 e.path)).isSome = true)
    (hF1 : F' (.int .u64 e.path) = none) (hF2 : ∀ x, x ≠ .int .u64 e.path → F' x = F x) (hC1 : C' (.agg #[.int .u64 e.parent, .string e.name]) = none) (hC2 : ∀ x, x ≠ .agg #[.int .u64 e.parent, .string e.name] → C' x = C x)
    (hsn : s ≠ nb) (hsd : s ≠ db) (hnd : nb ≠ db) (hms : mb ≠ s) (hmd : mb ≠ db) (hcs : cb ≠ s) (hcn : cb ≠ nb) (hcd : cb ≠ db) (hcm : cb ≠ mb)
    (oloc : ∀ g, ov.ownBlock = some g → g ≠ s ∧ g ≠ nb ∧ g ≠ db ∧ g ≠ mb ∧ g ≠ cb ∧ kv.ownBlock ≠ some g) (kloc : ∀ g, kv.ownBlock = some g → g ≠ s ∧ g ≠ nb ∧ g ≠ db ∧ g ≠ mb ∧ g ≠ cb) :
    Calls Tryd.prog 66 #[.pointer (some ⟨s, 0, none⟩), .pointer (some ⟨nb, 0, none⟩)] w fun x w' => x = .returned (.tuple #[.int .u64 e.path, .int .i64 0]) ∧
      ∃ ov' kv' m', DropOk w w' s mb cb db (n - 1) m' most next ov kv bv d F' C' (ps.filter (· != e.path)) (ks.filter (· != e.path)) ov' kv' := by
  obtain ⟨ka, kc, rfl⟩ := hkn
  have c2 : w.cell? ⟨nb, 2, none⟩ = some (.int .u64 e.path) := cell_row hn
  have c3 : w.cell? ⟨nb, 3, none⟩ = some (.int .u64 e.parent) := cell_row hn
  have c15 : w.cell? ⟨nb, 15, none⟩ = some (.slice ka 0 kc) := cell_row hn
  have c8 : w.cell? ⟨s, 8, none⟩ = some (.map (some mb)) := cell_row hs
  have hlk := fun k => (hm.keep (Keep.drewN w k (fun _ => False)) (fun h => h)).look false lawU Tryd.underlying93 (zeroPN _) (keyU q0 q1)
  simp only [hF] at hlk
  have h1 : (e.path == 1) = false := by rw [beq_eq_false_iff_ne]; exact e1
  obtain ⟨kl, hkl⟩ := keyK q0 q1 hnm
  have H := Lib.hid (And.intro hs (And.intro hn (And.intro hd (And.intro hm (And.intro hc (And.intro ho hk))))))
  have HP := Lib.hid (And.intro hps (And.intro hks (And.intro ip ik)))
  have HF := Lib.hid (And.intro hF1 (And.intro hF2 (And.intro hC1 (And.intro hC2 hFe))))
  have HK := Lib.hid hkl
  clear hs hn hd hm hc ho hk hps hks ip ik hF1 hF2 hC1 hC2 hFe hF hkl e1
  go_enter Tryd.func66, Tryd.ntmps66
  go_wp2_with fail
  go_quiet (fail)
  generalize hV : World.drewN w _ = W1
  have kV : Keep w W1 (fun _ => False) := by rw [← hV]; exact Keep.drewN _ _ _
  have rs1 := kV.row H.out.1 (fun h => h)
  have rn1 := kV.row H.out.2.1 (fun h => h)
  have rd1 := kV.row H.out.2.2.1 (fun h => h)
  have k15 : W1.cell? ⟨db, 15, none⟩ = some kv := cell_row rd1
  have hw1 := without_any W1 (ownsRow_keep kV H.out.2.2.2.2.2.2 (fun _ _ h => h)) HP.out.2.1 lks HP.out.2.2.2
  have H1 := Lib.hid (And.intro kV (And.intro rs1 (And.intro rn1 (And.intro rd1 hw1))))
  clear hV kV rs1 rn1 rd1 hw1 hlk c2 c3 c15 c8
  go_wp2_with fail
  refine H1.out.2.2.2.2.mono ?_
  rintro x W2 ⟨kv', rfl, hk2, hkb2, kk2⟩
  obtain ⟨va, vc, rfl⟩ := ownsRow_slice hk2
  have rd2 := kk2.row H1.out.2.2.2.1 (fun h => (kloc _ h).2.2.1 rfl)
  have rs2 := kk2.row H1.out.2.1 (fun h => (kloc _ h).1 rfl)
  have rn2 := kk2.row H1.out.2.2.1 (fun h => (kloc _ h).2.1 rfl)
  have k15 : W2.cell? ⟨db, 15, none⟩ = some kv := cell_row rd2
  have z15 : W2.frozen? ⟨db, 15, none⟩ = false := frozen_row rd2
  obtain ⟨W3, hW3⟩ : ∃ W3, W3 = W2.setCell ⟨db, 15, none⟩ (.slice va (ks.filter (· != e.path)).length vc) := ⟨_, rfl⟩
  have kk3 : Keep W1 W3 (fun b => kv.ownBlock = some b ∨ b = db) := by rw [hW3]; exact (kk2.mono (fun _ _ h => .inl h)).thenCell _ _ (fun _ => .inr rfl)
  have rd3 : row W3 db = some (nodeC 0 d (.slice va (ks.filter (· != e.path)).length vc) bv, 92) := by rw [hW3]; exact row_setCell rd2
  have rs3 : row W3 s = some (storeC 1 (-1073741824) most next mb ov cb, 101) := by rw [hW3, row_setCell_ne _ _ _ _ hsd]; exact rs2
  have rn3 : row W3 nb = some (nodeC 0 e (.slice ka 0 kc) bn, 92) := by rw [hW3, row_setCell_ne _ _ _ _ hnd]; exact rn2
  have hk3 := ownsRow_keep (Keep.setCell W2 ⟨db, 15, none⟩ (.slice va (ks.filter (· != e.path)).length vc) (· = db) (fun _ => rfl)) hk2 (fun g hg h => (kloc g (hkb2 ▸ hg)).2.2.1 h)
  rw [← hW3] at hk3
  have kall3 : Keep w W3 (fun b => kv.ownBlock = some b ∨ b = db) := (H1.out.1.mono (fun _ _ h => h.elim)).trans kk3 (fun _ _ h => h)
  have ho3 := ownsRow_keep kall3 H.out.2.2.2.2.2.1 (fun g hg h => h.elim (oloc g hg).2.2.2.2.2 (oloc g hg).2.2.1)
  have hw3 := without_any W3 ho3 HP.out.1 lps HP.out.2.2.1
  have s9 : W2.cell? ⟨s, 9, none⟩ = some ov := cell_row rs2
  have H3 := Lib.hid (And.intro kall3 (And.intro rs3 (And.intro rn3 (And.intro rd3 (And.intro hk3 (And.intro hw3 (And.intro hW3 hkb2)))))))
  clear rd2 rs2 rn2 hk2 kk2 kk3 rd3 rs3 rn3 hk3 kall3 ho3 hw3 hkb2 hW3
  go_wp2_with fail
  rw [← H3.out.2.2.2.2.2.2.1]
  refine H3.out.2.2.2.2.2.1.mono ?_
  rintro x W4 ⟨ov', rfl, ho4, hob4, kk4⟩
  obtain ⟨ua, uc, rfl⟩ := ownsRow_slice ho4
  have rd4 := kk4.row H3.out.2.2.2.1 (fun h => (oloc _ h).2.2.1 rfl)
  have rs4 := kk4.row H3.out.2.1 (fun h => (oloc _ h).1 rfl)
  have rn4 := kk4.row H3.out.2.2.1 (fun h => (oloc _ h).2.1 rfl)
  have hk4 := ownsRow_keep kk4 H3.out.2.2.2.2.1 (fun g hg h => (oloc g h).2.2.2.2.2 (by rw [← H3.out.2.2.2.2.2.2.2]; exact hg))
  have s9 : W4.cell? ⟨s, 9, none⟩ = some ov := cell_row rs4
  have z9 : W4.frozen? ⟨s, 9, none⟩ = false := frozen_row rs4
  obtain ⟨W5, hW5⟩ : ∃ W5, W5 = W4.setCell ⟨s, 9, none⟩ (.slice ua (ps.filter (· != e.path)).length uc) := ⟨_, rfl⟩
  have kS : Keep W4 W5 (· = s) := by rw [hW5]; exact Keep.setCell _ _ _ _ (fun _ => rfl)
  have rs5 : row W5 s = some (storeC 1 (-1073741824) most next mb (.slice ua (ps.filter (· != e.path)).length uc) cb, 101) := by rw [hW5]; exact row_setCell rs4
  have rd5 := kS.row rd4 (Ne.symm hsd)
  have rn5 := kS.row rn4 (Ne.symm hsn)
  have hk5 := ownsRow_keep kS hk4 (fun g hg h => (kloc g (by rw [← H3.out.2.2.2.2.2.2.2]; exact hg)).1 h)
  have ho5 := ownsRow_keep kS ho4 (fun g hg h => (oloc g (hob4 ▸ hg)).1 h)
  have kall5 : Keep w W5 (fun b => b = s ∨ b = db ∨ ov.ownBlock = some b ∨ kv.ownBlock = some b) :=
    ((H3.out.1.mono (fun _ _ h => h.elim (fun h => .inr (.inr (.inr h))) (fun h => .inr (.inl h)))).trans kk4 (fun _ _ h => .inr (.inr (.inl h)))).trans kS (fun _ _ h => .inl h)
  have hc5 := H.out.2.2.2.2.1.keep kall5 (fun h => by
    rcases h with h | h | h | h
    · exact hcs h
    · exact hcd h
    · exact (oloc _ h).2.2.2.2.1 rfl
    · exact (kloc _ h).2.2.2.2 rfl)
  have hm5 := H.out.2.2.2.1.keep kall5 (fun h => by
    rcases h with h | h | h | h
    · exact hms h
    · exact hmd h
    · exact (oloc _ h).2.2.2.1 rfl
    · exact (kloc _ h).2.2.2.1 rfl)
  have H5 := Lib.hid (And.intro kall5 (And.intro rs5 (And.intro rn5 (And.intro rd5 (And.intro hk5 (And.intro ho5 (And.intro hc5 (And.intro hm5 (And.intro hW5 hob4)))))))))
  clear kk4 rd4 rs4 rn4 hk4 hW5 kS rs5 rd5 rn5 hk5 ho5 kall5 hc5 hm5 ho4 hob4
  go_upto_region 9 with fail
  rw [← H5.out.2.2.2.2.2.2.2.2.1]
  clear s9 z9
  have s10 : W5.cell? ⟨s, 10, none⟩ = some (.map (some cb)) := cell_row H5.out.2.1
  have n3 : W5.cell? ⟨nb, 3, none⟩ = some (.int .u64 e.parent) := cell_row H5.out.2.2.1
  have n4 : W5.cell? ⟨nb, 4, none⟩ = some (.string e.name) := cell_row H5.out.2.2.1
  go_region_held3 (fun w' => w'.cell? ⟨s, 10, none⟩ = some (.map (some cb)) ∧ w'.cell? ⟨nb, 3, none⟩ = some (.int .u64 e.parent) ∧ w'.cell? ⟨nb, 4, none⟩ = some (.string e.name))
    (first | go_keep | exact ⟨kk6.cell s10 (Ne.symm hcs), kk6.cell n3 (Ne.symm hcn), kk6.cell n4 (Ne.symm hcn)⟩)
    (first
      | ((with_reducible apply wpList_buildS (built_key _ _)); · rfl)
      | (refine upon_dropM (n := m) (f := C) (f' := C') ?_ lawK Tryd.underlying94 HK.out HF.out.2.2.1 HF.out.2.2.2.1 ?_
         · exact H5.out.2.2.2.2.2.2.1.keep (Keep.drew W5 (fun _ => False)) (fun h => h)
         intro w6 hm6 hk6 hz6
         have kk6 : Keep W5 w6 (· = cb) := hk6.after (fun _ _ h => h) (Keep.drew W5 (· = cb))))
  have kk6 : Keep W5 w6 (· = cb) := hk6.after (fun _ _ h => h) (Keep.drew W5 (· = cb))
  have rs6 := kk6.row H5.out.2.1 (Ne.symm hcs)
  have rd6 := kk6.row H5.out.2.2.2.1 (Ne.symm hcd)
  have hm6' := H5.out.2.2.2.2.2.2.2.1.keep kk6 (Ne.symm hcm)
  have hk6' := ownsRow_keep kk6 H5.out.2.2.2.2.1 (fun g hg h => (kloc g (by rw [← H3.out.2.2.2.2.2.2.2]; exact hg)).2.2.2.2 h)
  have ho6' := ownsRow_keep kk6 H5.out.2.2.2.2.2.1 (fun g hg h => (oloc g (by rw [← H5.out.2.2.2.2.2.2.2.2.2]; exact hg)).2.2.2.2.1 h)
  have s8 : w6.cell? ⟨s, 8, none⟩ = some (.map (some mb)) := cell_row rs6
  have H6 := Lib.hid (And.intro kk6 (And.intro rs6 (And.intro rd6 (And.intro hm6' (And.intro hk6' (And.intro ho6' hm6))))))
  clear hk6 hz6 hm6 kk6 rs6 rd6 hm6' hk6' ho6' s10 n3 n4
  go_wp2_with (first
    | (refine wpList_dropM (m := .tmp 69) (x := .tmp 70) (b := mb) (n := n) (f := F) (f' := F') (key := .int .u64 e.path) (t := 93) (k := 30) rfl rfl H6.out.2.2.2.1 lawU Tryd.underlying93 rfl rfl (keyU p0 p1) HF.out.1 HF.out.2.1 ?_
       intro w7 hm7 hk7 hz7))
  go_ret2
  have hmf : (if (F (.int .u64 e.path)).isSome then n - 1 else n) = n - 1 := if_pos HF.out.2.2.2.2
  rw [hmf] at hm7
  obtain ⟨j1, j2, j3, j4, j5, j6, j7⟩ := H6.out
  refine ⟨rfl, _, _, _, { srow := hk7.row j2 (Ne.symm hms), drow := hk7.row j3 (Ne.symm hmd), mmap := hm7, cmap := j7.keep hk7 hcm, orow := ?_, krow := ?_, oloc := H5.out.2.2.2.2.2.2.2.2.2, kloc := H3.out.2.2.2.2.2.2.2, keep := ?_ }⟩
  · exact ownsRow_keep hk7 j6 (fun g hg h => (oloc g (by rw [← H5.out.2.2.2.2.2.2.2.2.2]; exact hg)).2.2.2.1 h)
  · exact ownsRow_keep hk7 j5 (fun g hg h => (kloc g (by rw [← H3.out.2.2.2.2.2.2.2]; exact hg)).2.2.2.1 h)
  · refine ((H5.out.1.mono (fun b _ h => ?_)).trans j1 (fun b _ h => .inr (.inr (.inl h)))).trans hk7 (fun b _ h => .inr (.inl h))
    rcases h with h | h | h | h
    · exact .inl h
    · exact .inr (.inr (.inr (.inl h)))
    · exact .inr (.inr (.inr (.inr (.inl h))))
    · exact .inr (.inr (.inr (.inr (.inr h))))
end Go.Proofs.YtfbcdhcgmncklaaDoor
