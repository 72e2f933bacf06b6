/- What is so of every store: it is so of a new one, and stays. No dump. -/
import Derived.Test.YtfbcdhcgmncklaaDoorBits
import Derived.MapKept
namespace Go.Nd
open Go

theorem userOk_size {s : ByteArray} (h : userOk s = true) : s.size ≤ 32 := by
  unfold userOk at h; simp at h; exact h.1
theorem nameOk_size {s : ByteArray} (h : nameOk s = true) : s.size ≤ 255 := by
  unfold nameOk at h; simp at h; exact h.1.1.2
theorem mode_bits_or (p : Int) : 0 ≤ bits .or .u32 2147483648 p ∧ bits .or .u32 2147483648 p < 4294967296 := bits_u32 _ _ _

theorem stOk_new (c : Conf) (h : c.ok = true) : StOk (St.new c) := by
  simp only [Conf.ok, Bool.and_eq_true, decide_eq_true_eq] at h
  obtain ⟨⟨⟨⟨⟨⟨h1, h2⟩, _⟩, _⟩, _⟩, h3⟩, h4⟩ := h
  have hr : EntOk (rootEnt c) := by
    have k1 := mode_bits_or c.perm
    exact { path0 := by simp [rootEnt], parent0 := by simp [rootEnt], name := (show (1 : Nat) ≤ 255 by omega), mode0 := k1.1, mode1 := k1.2, uid := userOk_size h3, gid := userOk_size h4, muid := userOk_size h3, atime0 := by simp [rootEnt], atime1 := by simp [rootEnt], mtime0 := by simp [rootEnt], mtime1 := by simp [rootEnt], vers0 := by simp [rootEnt], vers1 := by simp [rootEnt], len0 := by simp [rootEnt], len1 := by simp [rootEnt], opens0 := by simp [rootEnt], opens1 := by simp [rootEnt], kids := rfl, dir := fun _ => rfl, byte0 := fun _ => by simp [rootEnt], byte1 := fun _ => by simp [rootEnt], beyond := fun _ _ => rfl }
  refine ⟨h1, h2, by simpa [St.new] using h1, by simp [St.new], by simp [St.new], ?_, ?_, ⟨rootEnt c, [], rfl, rfl, rfl, isDir_or _⟩, ?_, ?_⟩
  · intro e he; simp [St.new] at he; subst he; simp [St.new, rootEnt]
  · intro e he; simp [St.new] at he; subst he; exact hr
  · intro e he hne; simp [St.new] at he; subst he; exact absurd rfl hne
  · intro a ha b hb; simp [St.new] at ha hb; subst ha; subst hb; intros; rfl

/-! ### a node more -/
theorem find_append {l : List Ent} {x : Ent} {p : Int} (h : ∀ e ∈ l, e.inf.path ≠ x.inf.path) : find (l ++ [x]) p = if p = x.inf.path then some x else find l p := by
  unfold find
  rw [List.find?_append]
  by_cases hp : p = x.inf.path
  · subst hp
    have : l.find? (fun e => e.inf.path == x.inf.path) = none := by
      rw [List.find?_eq_none]; intro e he; simpa using h e he
    rw [this]; simp
  · rw [if_neg hp]
    have : (x.inf.path == p) = false := by simpa using Ne.symm hp
    simp [this]
theorem kids_append (l : List Ent) (x : Ent) (p : Int) : kids (l ++ [x]) p = kids l p ++ (if x.kidOf p then [x.inf.path] else []) := by
  unfold kids
  rw [List.filter_append, List.map_append]
  congr 1
  cases h : x.kidOf p <;> simp [h]
theorem child_append (l : List Ent) (x : Ent) (p : Int) (s : ByteArray) : child (l ++ [x]) p s = (child l p s).or (if x.kidOf p && x.inf.name == s then some x.inf.path else none) := by
  unfold child
  rw [List.find?_append]
  cases h : l.find? (fun e => e.kidOf p && e.inf.name == s) with
  | some e => simp
  | none =>
    cases h2 : (x.kidOf p && x.inf.name == s) <;> simp [h2]
theorem newEnt_kidOf {next d : Int} {f : Inf} (h : next ≠ 1) (p : Int) : (newEnt next d f).kidOf p = (d == p) := by
  simp [Ent.kidOf, newEnt, h]

structure InfOk (f : Inf) : Prop where
  mode0 : 0 ≤ f.mode
  mode1 : f.mode < 4294967296
  atime0 : 0 ≤ f.atime
  atime1 : f.atime < 4294967296
  mtime0 : 0 ≤ f.mtime
  mtime1 : f.mtime < 4294967296
  name : f.name.size ≤ 4611686018427387904
  uid : f.uid.size ≤ 4611686018427387904
  gid : f.gid.size ≤ 4611686018427387904
  muid : f.muid.size ≤ 4611686018427387904

theorem entOk_new {next d : Int} {f : Inf} (h0 : 1 ≤ next) (hd : 1 ≤ d) (hf : InfOk f) (h3 : userOk f.uid = true) (h4 : userOk f.gid = true) (h5 : userOk f.muid = true) (h6 : nameOk f.name = true) : EntOk (newEnt next d f) :=
  { path0 := h0, parent0 := hd, name := nameOk_size h6, mode0 := hf.mode0, mode1 := hf.mode1, uid := userOk_size h3, gid := userOk_size h4, muid := userOk_size h5, atime0 := hf.atime0, atime1 := hf.atime1, mtime0 := hf.mtime0, mtime1 := hf.mtime1, vers0 := Int.le_refl _, vers1 := by simp [newEnt], len0 := Int.le_refl _, len1 := by simp [newEnt], opens0 := Int.le_refl _, opens1 := by simp [newEnt], kids := rfl, dir := fun _ => rfl, byte0 := fun _ => Int.le_refl _, byte1 := fun _ => by simp [newEnt], beyond := fun _ _ => rfl }

theorem child_none {l : List Ent} {p : Int} {s : ByteArray} (h : child l p s = none) : ∀ e ∈ l, e.kidOf p = true → e.inf.name ≠ s := by
  intro e he hk hn
  unfold child at h
  rw [Option.map_eq_none_iff, List.find?_eq_none] at h
  have := h e he
  rw [hk, hn, (MapKept.bytes_beq s s).2 rfl] at this
  exact this rfl

theorem stOk_make {A : St} (h : StOk A) {d : Ent} (hd : d ∈ A.l) {f : Inf} (hf : InfOk f) : StOk (A.make d f).2 := by
  unfold St.make
  split
  · exact h
  rename_i h1
  split
  · exact h
  rename_i h2
  split
  · exact h
  rename_i h3
  split
  · exact h
  rename_i h4
  split
  · exact h
  rename_i h5
  simp only [Bool.not_eq_true, Bool.not_eq_false', Bool.or_eq_false_iff, Option.isSome_eq_false_iff, Option.isNone_iff_eq_none] at h1 h2 h3 h4
  obtain ⟨⟨⟨h2a, h2b⟩, h2c⟩, h2d⟩ := h2
  have hdp := (h.ok d hd).path0
  have hdn := h.below d hd
  have hn0 := h.next0
  have hne := entOk_new (next := A.next) (d := d.inf.path) (by omega) hdp hf h2b h2c h2d h3
  have hbel : ∀ e ∈ A.l, e.inf.path ≠ A.next := fun e he => by have := h.below e he; omega
  have hpn : (newEnt A.next d.inf.path f).inf.path = A.next := rfl
  refine { most0 := h.most0, most1 := h.most1, len := by simp; omega, next0 := by simp; omega, rise := ?_, below := ?_, ok := ?_, root := ?_, parent := ?_, name := ?_ }
  · rw [List.pairwise_append]
    refine ⟨h.rise, by simp, fun a ha b hb => ?_⟩
    simp at hb; subst hb
    exact h.below a ha
  · intro e he
    rcases List.mem_append.1 he with he | he
    · have := h.below e he; simp; omega
    · simp at he; subst he; rw [hpn]; simp; omega
  · intro e he
    rcases List.mem_append.1 he with he | he
    · exact h.ok e he
    · simp at he; subst he; exact hne
  · obtain ⟨r, t, e1, e2⟩ := h.root
    exact ⟨r, t ++ [newEnt A.next d.inf.path f], by rw [e1]; rfl, e2⟩
  · intro e he hn
    rcases List.mem_append.1 he with he | he
    · obtain ⟨p, hp, hr⟩ := h.parent e he hn
      exact ⟨p, List.mem_append_left _ hp, hr⟩
    · simp at he; subst he
      exact ⟨d, List.mem_append_left _ hd, rfl, h1, by rw [hpn]; exact hdn⟩
  · intro a ha b hb ha1 hb1 hpp hnn
    have key : ∀ e ∈ A.l, e.inf.path ≠ 1 → e.inf.parent = d.inf.path → e.inf.name = f.name → False := fun e he h1' hp hn => by
      refine child_none h4 e he ?_ hn
      simp [Ent.kidOf, hp, h1']
    rcases List.mem_append.1 ha with ha | ha
    · rcases List.mem_append.1 hb with hb | hb
      · exact h.name a ha b hb ha1 hb1 hpp hnn
      · simp at hb; subst hb
        exact (key a ha ha1 hpp hnn).elim
    · simp at ha; subst ha
      rcases List.mem_append.1 hb with hb | hb
      · exact (key b hb hb1 hpp.symm hnn.symm).elim
      · simp at hb; exact hb.symm
end Go.Nd
