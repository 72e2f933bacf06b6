/- Maps whose entries are values as they lie: a block is a map that holds f. No dump. -/
import Derived.Maps.OwnSet
import Derived.Test.YtfbcdhcgmncklaaDoorBase
namespace Go.Nd
open Go Go.RowKit Go.Maps Go.MapKept Go.ChangeMaps

/-- Block b of w is a map of n entries (its keys of type k): at each key it holds what f says. -/
def MapIs (P : Program) (k : TypeId) (w : World) (b n : Nat) (f : Value → Option Value) : Prop :=
  ∃ es clock, w.heap[b]? = some (.map es clock) ∧ Stamped es clock ∧ (∀ e ∈ es.toList, ∃ l, keyOf P k e.key = some l) ∧ es.size = n ∧
    (∀ e ∈ es.toList, f e.key = some e.val) ∧ (∀ key v, f key = some v → ∃ e ∈ es.toList, e.key = key ∧ e.val = v)

section
variable {P : Program} {k e t : TypeId} {w : World} {b n : Nat} {f : Value → Option Value}

theorem MapIs.lt (h : MapIs P k w b n f) : b < w.heap.size := by
  obtain ⟨es, c, hb, _⟩ := h
  exact (Array.getElem?_eq_some_iff.1 hb).1
theorem MapIs.congr {w' : World} (h : MapIs P k w b n f) (hb : w'.heap[b]? = w.heap[b]?) : MapIs P k w' b n f := by
  obtain ⟨es, c, h1, h2⟩ := h
  exact ⟨es, c, hb.trans h1, h2⟩
theorem MapIs.keep {w' : World} {S : Nat → Prop} (h : MapIs P k w b n f) (hk : Keep w w' S) (hS : ¬ S b) : MapIs P k w' b n f :=
  h.congr (hk.block b h.lt hS)
theorem MapIs.new (w : World) (P : Program) (k : TypeId) : MapIs P k (w.alloc (.map #[] 0)) w.heap.size 0 (fun _ => none) :=
  ⟨#[], 0, heap_alloc_new w _, stamped_empty 0, by simp, rfl, by simp, by simp⟩

theorem MapIs.new' (w : World) (P : Program) (k : TypeId) {b : Nat} (hb : b = w.heap.size) : MapIs P k (w.alloc (.map #[] 0)) b 0 (fun _ => none) := by subst hb; exact MapIs.new w P k

theorem MapIs.look (c : Bool) (h : MapIs P k w b n f) (K : Keyed P k) (ht : P.underlying t = some (.map k e)) {z : Value} (hz : (zeroValue e).run P w = .ok z w) {key : Value} {kl : Lit} (hkey : keyOf P k key = some kl) :
    (Instr.lookup t (.map (some b)) key c).run P w = .ok (if c then .tuple #[(f key).getD z, .bool (f key).isSome] else (f key).getD z) w := by
  obtain ⟨es, clock, hb, _, hks, _, h1, h2⟩ := h
  rcases K.find w hkey es.toList hks with ⟨g1, g2⟩ | ⟨j, e0, g1, g2, g3⟩
  · have hf : f key = none := by
      cases hfk : f key with
      | none => rfl
      | some v =>
        obtain ⟨e, he, hk, _⟩ := h2 key v hfk
        exact absurd hk (g2 e he)
    simp [Instr.lookup, run_underlying ht, MapKept.run_getObj_map hb, K.check w _ hkey, g1, hz, Result.andThen, hf]
  · have hm0 : e0 ∈ es.toList := List.mem_of_getElem? g2
    have hf : f key = some e0.val := g3 ▸ h1 e0 hm0
    simp [Instr.lookup, run_underlying ht, MapKept.run_getObj_map hb, K.check w _ hkey, g1, Result.andThen, hf]

theorem MapIs.len (h : MapIs P k w b n f) {t ty : TypeId} (ht : P.underlying t = some (.map k e)) : (Builtin.len_ #[t] ty #[.map (some b)]).run P w = .ok (.int .i64 n) w := by
  obtain ⟨es, clock, hb, _, _, hn, _⟩ := h
  subst hn
  simp [Builtin.len_, run_underlying ht, MapKept.run_getObj_map hb, Result.andThen, goInt]

theorem setBlock_keep (hb : b < w.heap.size) (o : Obj) : Keep w (setBlock w b o) (· = b) := by
  obtain ⟨x, hx⟩ : ∃ x, w.heap[b]? = some x := ⟨_, Array.getElem?_eq_getElem hb⟩
  refine ⟨rfl, rfl, rfl, by simp [setBlock], fun i _ hi => ?_⟩
  simp only [setBlock, Array.getElem?_setIfInBounds]
  rw [if_neg (fun e => hi e.symm)]
theorem heap_setBlock' (hb : b < w.heap.size) (o : Obj) : (setBlock w b o).heap[b]? = some o := by
  simp [setBlock, hb]

/-- 'm[key] = val'. -/
theorem MapIs.store (h : MapIs P k w b n f) (K : Keyed P k) (ht : P.underlying t = some (.map k e)) {key val : Value} {kl : Lit} (hkey : keyOf P k key = some kl) {f' : Value → Option Value}
    (hf : f' key = some val) (hf' : ∀ x, x ≠ key → f' x = f x) :
    ∃ w', (Instr.mapUpdate t (.map (some b)) key val).run P w = .ok () w' ∧ MapIs P k w' b (if (f key).isSome then n else n + 1) f' ∧ Keep w w' (· = b) ∧ w'.heap.size = w.heap.size := by
  have hlt := h.lt
  obtain ⟨es, clock, hb, hst, hks, hn, h1, h2⟩ := h
  rcases K.find w hkey es.toList hks with ⟨g1, g2⟩ | ⟨j, e0, g1, g2, g3⟩
  · have hfk : f key = none := by
      cases hfk : f key with
      | none => rfl
      | some v =>
        obtain ⟨e, he, hk, _⟩ := h2 key v hfk
        exact absurd hk (g2 e he)
    refine ⟨setBlock w b (.map (es.push ⟨key, val, clock⟩) (clock + 1)), ?_, ⟨es.push ⟨key, val, clock⟩, clock + 1, heap_setBlock' hlt _, stamped_push hst g2, ?_, ?_, ?_, ?_⟩, setBlock_keep hlt _, by simp [setBlock]⟩
    · simp [Instr.mapUpdate, run_underlying ht, MapKept.run_getObj_map hb, K.check w false hkey, g1, MapKept.run_setObj_map _ hb, Result.andThen, setBlock]
    · intro x hx
      simp only [Array.toList_push, List.mem_append, List.mem_singleton] at hx
      rcases hx with hx | rfl
      · exact hks x hx
      · exact ⟨_, hkey⟩
    · simp [hfk, hn]
    · intro x hx
      simp only [Array.toList_push, List.mem_append, List.mem_singleton] at hx
      rcases hx with hx | rfl
      · rw [hf' _ (g2 x hx)]; exact h1 x hx
      · exact hf
    · intro x v hx
      simp only [Array.toList_push, List.mem_append, List.mem_singleton]
      by_cases hxk : x = key
      · subst hxk
        rw [hf] at hx
        exact ⟨_, .inr rfl, rfl, Option.some.inj hx⟩
      · rw [hf' x hxk] at hx
        obtain ⟨e, he, e1, e2⟩ := h2 x v hx
        exact ⟨e, .inl he, e1, e2⟩
  · have hj : es[j]? = some e0 := by simpa using g2
    have hm0 : e0 ∈ es.toList := List.mem_of_getElem? g2
    have hfk : f key = some e0.val := g3 ▸ h1 e0 hm0
    have hlist : (es.modify j (fun e' => { e' with key := key, val := val })).toList = es.toList.set j { e0 with key := key, val := val } := by rw [Array.toList_modify, modify_eq_set _ _ _ _ g2]
    have hdist := ((stamped_iff es clock).1 hst).2.2
    have hjl : j < es.toList.length := (List.getElem?_eq_some_iff.1 g2).1
    have who : ∀ x ∈ es.toList.set j { e0 with key := key, val := val }, x = { e0 with key := key, val := val } ∨ (x ∈ es.toList ∧ x.key ≠ key) := by
      intro x hx
      obtain ⟨i, hi, ex⟩ := List.getElem_of_mem hx
      rw [List.getElem_set] at ex
      split at ex
      · exact Or.inl ex.symm
      · rename_i hne
        have hi' : i < es.toList.length := by simpa using hi
        refine Or.inr ⟨ex ▸ List.getElem_mem hi', ?_⟩
        have hj0 : es.toList[j] = e0 := (List.getElem?_eq_some_iff.1 g2).2
        rw [List.pairwise_iff_getElem] at hdist
        have g3' : es.toList[j].key = key := by rw [hj0]; exact g3
        rw [← ex]
        rcases Nat.lt_or_gt_of_ne hne with hlt' | hgt
        · exact fun e => hdist j i hjl hi' hlt' (g3'.trans e.symm)
        · exact fun e => hdist i j hi' hjl hgt (e.trans g3'.symm)
    refine ⟨setBlock w b (.map (es.modify j (fun e' => { e' with key := key, val := val })) clock), ?_, ⟨_, clock, heap_setBlock' hlt _, stamped_modify hst _ _ (fun _ _ => rfl) (fun e' _ he' => by rw [hj] at he'; cases he'; exact g3.symm), ?_, ?_, ?_, ?_⟩, setBlock_keep hlt _, by simp [setBlock]⟩
    · simp [Instr.mapUpdate, run_underlying ht, MapKept.run_getObj_map hb, K.check w false hkey, g1, hj, g3, K.stays w hkey, MapKept.run_setObj_map _ hb, Result.andThen, setBlock]
    · intro x hx
      rw [hlist] at hx
      rcases who x hx with rfl | ⟨hx, _⟩
      · exact ⟨_, hkey⟩
      · exact hks x hx
    · simp [hfk, hn]
    · intro x hx
      rw [hlist] at hx
      rcases who x hx with rfl | ⟨hx, hne⟩
      · exact hf
      · rw [hf' _ hne]; exact h1 x hx
    · intro x v hx
      rw [hlist]
      by_cases hxk : x = key
      · subst hxk
        rw [hf] at hx
        exact ⟨{ e0 with key := x, val := val }, List.mem_iff_getElem.2 ⟨j, by simpa using hjl, by simp⟩, rfl, Option.some.inj hx⟩
      · rw [hf' x hxk] at hx
        obtain ⟨e, he, e1, e2⟩ := h2 x v hx
        refine ⟨e, ?_, e1, e2⟩
        obtain ⟨i, hi, ei⟩ := List.getElem_of_mem he
        refine List.mem_iff_getElem.2 ⟨i, by simpa using hi, ?_⟩
        rw [List.getElem_set]
        split
        · rename_i hji
          subst hji
          exfalso
          rw [List.getElem?_eq_getElem hi, ei] at g2
          cases g2
          exact hxk (e1.symm.trans g3)
        · exact ei

/-- 'delete(m, key)'. -/
theorem MapIs.drop (h : MapIs P k w b n f) (K : Keyed P k) (ht : P.underlying t = some (.map k e)) {ty : TypeId} {key : Value} {kl : Lit} (hkey : keyOf P k key = some kl) {f' : Value → Option Value}
    (hf : f' key = none) (hf' : ∀ x, x ≠ key → f' x = f x) :
    ∃ w', (Builtin.delete_ #[t, k] ty #[.map (some b), key]).run P w = .ok (.tuple #[]) w' ∧ MapIs P k w' b (if (f key).isSome then n - 1 else n) f' ∧ Keep w w' (· = b) ∧ w'.heap.size = w.heap.size := by
  have hlt := h.lt
  obtain ⟨es, clock, hb, hst, hks, hn, h1, h2⟩ := h
  rcases K.find w hkey es.toList hks with ⟨g1, g2⟩ | ⟨j, e0, g1, g2, g3⟩
  · have hfk : f key = none := by
      cases hfk : f key with
      | none => rfl
      | some v =>
        obtain ⟨e, he, hk, _⟩ := h2 key v hfk
        exact absurd hk (g2 e he)
    have hff : ∀ x, f' x = f x := fun x => by
      by_cases hx : x = key
      · subst hx; rw [hf, hfk]
      · exact hf' x hx
    refine ⟨setBlock w b (.map es clock), ?_, ⟨es, clock, heap_setBlock' hlt _, hst, hks, by simp [hfk, hn], fun x hx => (hff _).trans (h1 x hx), fun x v hx => h2 x v ((hff x).symm.trans hx)⟩, setBlock_keep hlt _, by simp [setBlock]⟩
    simp [Builtin.delete_, run_underlying ht, MapKept.run_getObj_map hb, K.check w _ hkey, g1, MapKept.run_setObj_map _ hb, Result.andThen, setBlock]
  · have hm0 : e0 ∈ es.toList := List.mem_of_getElem? g2
    have hfk : f key = some e0.val := g3 ▸ h1 e0 hm0
    have hjl : j < es.toList.length := (List.getElem?_eq_some_iff.1 g2).1
    have hjs : j < es.size := by simpa using hjl
    have hdist := ((stamped_iff es clock).1 hst).2.2
    have hsub : (es.eraseIdxIfInBounds j).toList = es.toList.eraseIdx j := by
      unfold Array.eraseIdxIfInBounds
      rw [dif_pos hjs]
      simp
    have hj0 : es.toList[j] = e0 := (List.getElem?_eq_some_iff.1 g2).2
    have who : ∀ x, x ∈ es.toList.eraseIdx j ↔ x ∈ es.toList ∧ x.key ≠ key := by
      intro x
      rw [List.mem_eraseIdx_iff_getElem?]
      constructor
      · rintro ⟨i, hne, hi⟩
        have hi' : i < es.toList.length := (List.getElem?_eq_some_iff.1 hi).1
        have hix : es.toList[i] = x := (List.getElem?_eq_some_iff.1 hi).2
        refine ⟨List.mem_of_getElem? hi, ?_⟩
        rw [List.pairwise_iff_getElem] at hdist
        have g3' : es.toList[j].key = key := by rw [hj0]; exact g3
        rw [← hix]
        rcases Nat.lt_or_gt_of_ne hne with hlt' | hgt
        · exact fun e => hdist i j hi' hjl hlt' (e.trans g3'.symm)
        · exact fun e => hdist j i hjl hi' hgt (g3'.trans e.symm)
      · rintro ⟨hx, hne⟩
        obtain ⟨i, hi, ei⟩ := List.getElem_of_mem hx
        refine ⟨i, ?_, by rw [List.getElem?_eq_getElem hi, ei]⟩
        rintro rfl
        exact hne (by rw [← ei, hj0]; exact g3)
    refine ⟨setBlock w b (.map (es.eraseIdxIfInBounds j) clock), ?_, ⟨_, clock, heap_setBlock' hlt _, stamped_erase hst j, ?_, ?_, ?_, ?_⟩, setBlock_keep hlt _, by simp [setBlock]⟩
    · simp [Builtin.delete_, run_underlying ht, MapKept.run_getObj_map hb, K.check w _ hkey, g1, MapKept.run_setObj_map _ hb, Result.andThen, setBlock]
    · intro x hx
      rw [hsub] at hx
      exact hks x ((who x).1 hx).1
    · rw [if_pos (by simp [hfk]), ← hn, ← Array.length_toList, hsub, List.length_eraseIdx_of_lt hjl]; simp
    · intro x hx
      rw [hsub] at hx
      rw [hf' _ ((who x).1 hx).2]
      exact h1 x ((who x).1 hx).1
    · intro x v hx
      rw [hsub]
      have hxk : x ≠ key := fun e => by subst e; rw [hf] at hx; cases hx
      rw [hf' x hxk] at hx
      obtain ⟨e, he, e1, e2⟩ := h2 x v hx
      exact ⟨e, (who e).2 ⟨he, e1 ▸ hxk⟩, e1, e2⟩
end

/-! ### at the operation -/
section
variable {P : Program} {k e t : TypeId} {w : World} {b n : Nat} {f : Value → Option Value} {ops : Array Oper} {rest : List Oper} {a : Act} {Q : Exit → Act → World → Prop} {dst : Option Tmp} {tt : TypeId} {m x y : Operand} {pos : String} {after : Array Edge}
theorem wp_storeM {o : Oper} {K' : Act → World → Prop} (ho : o.op = .mapUpdate t m x y) (h : MapIs P k w b n f) (K : Keyed P k) (ht : P.underlying t = some (.map k e)) (hm : a.eval m = .map (some b)) {key val : Value} {kl : Lit} (hx : a.eval x = key) (hy : a.eval y = val) (hkey : keyOf P k key = some kl) {f' : Value → Option Value}
    (hf : f' key = some val) (hf' : ∀ x, x ≠ key → f' x = f x)
    (hK : ∀ w', MapIs P k w' b (if (f key).isSome then n else n + 1) f' → Keep w w' (· = b) → w'.heap.size = w.heap.size → K' (a.put o.dst undef) w') : o.wp P a w K' Q := by
  obtain ⟨w', hr, h1, h2, h3⟩ := h.store K ht hkey hf hf'
  unfold Oper.wp
  simp [execOp, ho, hm, hx, hy, hr, Result.andThen]
  exact hK w' h1 h2 h3
theorem step_storeM {o : Oper} {K' : Act → World → Prop} {E : Prop} (hgd : o.guard = none) (ho : o.op = .mapUpdate t m x y) (h : MapIs P k w b n f) (K : Keyed P k) (ht : P.underlying t = some (.map k e)) (hm : a.eval m = .map (some b)) {key val : Value} {kl : Lit} (hx : a.eval x = key) (hy : a.eval y = val) (hkey : keyOf P k key = some kl) {f' : Value → Option Value}
    (hf : f' key = some val) (hf' : ∀ x, x ≠ key → f' x = f x)
    (hK : ∀ w', MapIs P k w' b (if (f key).isSome then n else n + 1) f' → Keep w w' (· = b) → w'.heap.size = w.heap.size → K' (a.put o.dst undef) w') :
    if Region.wanted o (yielded ops a.tmps) = true then o.wp P a w K' Q else E := by
  rw [if_pos (by simp [Region.wanted, hgd])]
  exact wp_storeM ho h K ht hm hx hy hkey hf hf' hK
theorem upon_storeM {o : Oper} {K' : Act → World → Prop} (h : MapIs P k w b n f) (K : Keyed P k) (ht : P.underlying t = some (.map k e)) {key val : Value} {kl : Lit} (hkey : keyOf P k key = some kl) {f' : Value → Option Value}
    (hf : f' key = some val) (hf' : ∀ x, x ≠ key → f' x = f x)
    (hK : ∀ w', MapIs P k w' b (if (f key).isSome then n else n + 1) f' → Keep w w' (· = b) → w'.heap.size = w.heap.size → K' (a.put o.dst undef) w') :
    o.upon P a K' Q ((Sem.run P (Instr.mapUpdate t (.map (some b)) key val) w).andThen fun _ w' => Result.ok Next.skip w') := by
  obtain ⟨w', hr, h1, h2, h3⟩ := h.store K ht hkey hf hf'
  rw [hr]
  exact hK w' h1 h2 h3
theorem wpList_storeM (h : MapIs P k w b n f) (K : Keyed P k) (ht : P.underlying t = some (.map k e)) (hm : a.eval m = .map (some b)) {key val : Value} {kl : Lit} (hx : a.eval x = key) (hy : a.eval y = val) (hkey : keyOf P k key = some kl) {f' : Value → Option Value}
    (hf : f' key = some val) (hf' : ∀ x, x ≠ key → f' x = f x)
    (hK : ∀ w', MapIs P k w' b (if (f key).isSome then n else n + 1) f' → Keep w w' (· = b) → w'.heap.size = w.heap.size → wpList P ops Q rest (a.put dst undef) w') : wpList P ops Q (⟨dst, .mapUpdate t m x y, tt, pos, after, none⟩ :: rest) a w := by
  refine wpList_plain rfl fun K' hK' => ?_
  obtain ⟨w', hr, h1, h2, h3⟩ := h.store K ht hkey hf hf'
  unfold Oper.wp
  simp [execOp, hm, hx, hy, hr, Result.andThen]
  exact hK' _ _ (hK w' h1 h2 h3)
theorem wpList_insertM (h : MapIs P k w b n f) (K : Keyed P k) (ht : P.underlying t = some (.map k e)) (hm : a.eval m = .map (some b)) {key val : Value} {kl : Lit} (hx : a.eval x = key) (hy : a.eval y = val) (hkey : keyOf P k key = some kl) {f' : Value → Option Value}
    (hf : f' key = some val) (hf' : ∀ x, x ≠ key → f' x = f x)
    (hK : ∀ w', MapIs P k w' b (if (f key).isSome then n else n + 1) f' → Keep w w' (· = b) → w'.heap.size = w.heap.size → wpList P ops Q rest (a.put dst undef) w') : wpList P ops Q (⟨dst, .insert t m x y, tt, pos, after, none⟩ :: rest) a w := by
  refine wpList_plain rfl fun K' hK' => ?_
  obtain ⟨w', hr, h1, h2, h3⟩ := h.store K ht hkey hf hf'
  unfold Oper.wp
  simp [execOp, hm, hx, hy, hr, Result.andThen]
  exact hK' _ _ (hK w' h1 h2 h3)
end
end Go.Nd
