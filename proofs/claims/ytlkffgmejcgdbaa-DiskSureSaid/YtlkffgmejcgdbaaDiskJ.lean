/- What acts leave of a disk, in plain Lean. -/
import Derived.Test.YtlkffgmejcgdbaaDiskI
namespace Go.Proofs.Ytlkffgmejcgdbaa
set_option linter.all false
-- bundled

set_option maxRecDepth 100000
set_option pp.deepTerms.threshold 50

theorem mem_with {l : List GFile} (hu : upF l) {f g : GFile} (h : f ∈ withF l g) : f = g ∨ f ∈ withoutF l g.name := by
  rcases part_of hu g.name with ⟨A, B, x, rfl, _, _, hx, hA, hB⟩ | ⟨A, B, rfl, _, _, hA, hB⟩
  · rw [with_there hx hA hB] at h
    rw [without_there hx hA hB]
    simp only [List.mem_append, List.mem_cons] at h ⊢
    rcases h with h | h | h
    · exact .inr (.inl h)
    · exact .inl h
    · exact .inr (.inr h)
  · rw [with_none hA hB] at h
    have e : withoutF (A ++ B) g.name = A ++ B := without_none fun f hf => by
      rcases List.mem_append.1 hf with hf | hf
      · exact lt_ne (hA f hf)
      · exact (lt_ne (hB f hf)).symm
    rw [e]
    simp only [List.mem_append, List.mem_cons] at h ⊢
    rcases h with h | h | h
    · exact .inr (.inl h)
    · exact .inl h
    · exact .inr (.inr h)
theorem mem_without {l : List GFile} {s : List UInt8} {f : GFile} (h : f ∈ withoutF l s) : f ∈ l ∧ f.name ≠ s := by
  simp only [withoutF, List.mem_filter, Bool.not_eq_true', beq_eq_false_iff_ne] at h
  exact h
theorem with_len {l : List GFile} (hu : upF l) (g : GFile) : (withF l g).length = (withoutF l g.name).length + 1 := by
  rcases part_of hu g.name with ⟨A, B, x, rfl, _, _, hx, hA, hB⟩ | ⟨A, B, rfl, _, _, hA, hB⟩
  · rw [with_there hx hA hB, without_there hx hA hB]
    simp
    omega
  · rw [with_none hA hB, without_none (fun f hf => by
      rcases List.mem_append.1 hf with hf | hf
      · exact lt_ne (hA f hf)
      · exact (lt_ne (hB f hf)).symm)]
    simp
    omega
theorem without_len (l : List GFile) (s : List UInt8) : (withoutF l s).length ≤ l.length := List.length_filter_le _ _
theorem get_mem {l : List GFile} {s : List UInt8} {f : GFile} (h : getF l s = some f) : f ∈ l ∧ f.name = s := by
  unfold getF at h
  exact ⟨List.mem_of_find?_eq_some h, by have := List.find?_some h; simpa using this⟩
theorem get_self {l : List GFile} (hu : upF l) {f : GFile} (hf : f ∈ l) : getF l f.name = some f := by
  rcases part_of hu f.name with ⟨A, B, x, rfl, _, _, hx, hA, hB⟩ | ⟨A, B, rfl, _, _, hA, hB⟩
  · rw [getF_there hx hA]
    rcases List.mem_append.1 hf with h | h
    · exact absurd rfl (lt_ne (hA f h))
    · rcases List.mem_cons.1 h with h | h
      · rw [h]
      · exact absurd rfl (lt_ne (hB f h))
  · rcases List.mem_append.1 hf with h | h
    · exact absurd rfl (lt_ne (hA f h))
    · exact absurd rfl (lt_ne (hB f h))
theorem get_with {l : List GFile} (hu : upF l) (g : GFile) (s : List UInt8) : getF (withF l g) s = if g.name = s then some g else getF l s := by
  have hw := upF_with hu g
  have key : ∀ (A B : List GFile), withF l g = A ++ g :: B → (∀ f, f ∈ A ++ B → f ∈ withoutF l g.name) → (∀ f, f ∈ withoutF l g.name → f ∈ A ++ B) → getF (withF l g) s = if g.name = s then some g else getF l s := fun A B hAB h1 h2 => by
    by_cases hs : g.name = s
    · rw [if_pos hs]
      have hm : g ∈ withF l g := by rw [hAB]; simp
      rw [← hs]
      exact get_self hw hm
    · rw [if_neg hs]
      cases hg : getF l s with
      | some f =>
        obtain ⟨m1, m2⟩ := get_mem hg
        have : f ∈ withF l g := by
          rw [hAB]
          have h3 : f ∈ A ++ B := h2 f (by simp only [withoutF, List.mem_filter, Bool.not_eq_true', beq_eq_false_iff_ne]; exact ⟨m1, fun e => hs (by rw [← e, m2])⟩)
          simp only [List.mem_append, List.mem_cons] at h3 ⊢
          rcases h3 with h | h
          · exact .inl h
          · exact .inr (.inr h)
        rw [← m2]
        exact get_self hw this
      | none =>
        cases hg2 : getF (withF l g) s with
        | none => rfl
        | some f =>
          exfalso
          obtain ⟨m1, m2⟩ := get_mem hg2
          have h3 : f ∈ A ++ B := by
            rw [hAB] at m1
            simp only [List.mem_append, List.mem_cons] at m1 ⊢
            rcases m1 with h | h | h
            · exact .inl h
            · exact absurd (by rw [← h, m2]) hs
            · exact .inr h
          have h4 := (mem_without (h1 f h3)).1
          have := get_self hu h4
          rw [m2, hg] at this
          cases this
  rcases part_of hu g.name with ⟨A, B, x, rfl, _, _, hx, hA, hB⟩ | ⟨A, B, rfl, _, _, hA, hB⟩
  · refine key A B (with_there hx hA hB) ?_ ?_ <;> rw [without_there hx hA hB] <;> exact fun f hf => hf
  · have e : withoutF (A ++ B) g.name = A ++ B := without_none fun f hf => by
      rcases List.mem_append.1 hf with hf | hf
      · exact lt_ne (hA f hf)
      · exact (lt_ne (hB f hf)).symm
    refine key A B (with_none hA hB) ?_ ?_ <;> rw [e] <;> exact fun f hf => hf
theorem used_app (A B : List GFile) : usedF (A ++ B) = usedF A + usedF B := by simp [usedF]
theorem used_cons (f : GFile) (B : List GFile) : usedF (f :: B) = f.data.length + usedF B := by simp [usedF]
theorem used_with {l : List GFile} (hu : upF l) (g : GFile) : usedF (withF l g) = usedF (withoutF l g.name) + g.data.length := by
  rcases part_of hu g.name with ⟨A, B, x, rfl, _, _, hx, hA, hB⟩ | ⟨A, B, rfl, _, _, hA, hB⟩
  · rw [with_there hx hA hB, without_there hx hA hB]
    simp only [used_app, used_cons]
    omega
  · rw [with_none hA hB, without_none (fun f hf => by
      rcases List.mem_append.1 hf with hf | hf
      · exact lt_ne (hA f hf)
      · exact (lt_ne (hB f hf)).symm)]
    simp only [used_app, used_cons]
    omega
theorem used_without {l : List GFile} (hu : upF l) {s : List UInt8} {f : GFile} (h : getF l s = some f) : usedF l = usedF (withoutF l s) + f.data.length := by
  rcases part_of hu s with ⟨A, B, x, rfl, _, _, hx, hA, hB⟩ | ⟨A, B, rfl, _, _, hA, hB⟩
  · rw [getF_there hx hA] at h
    cases h
    rw [without_there hx hA hB]
    simp only [used_app, used_cons]
    omega
  · rw [getF_none hA hB] at h
    cases h
theorem used_without_le (l : List GFile) (s : List UInt8) : usedF (withoutF l s) ≤ usedF l := by
  induction l with
  | nil => exact Nat.le_refl _
  | cons f l ih =>
    unfold withoutF at ih ⊢
    rw [List.filter_cons]
    split
    · rw [used_cons, used_cons]
      omega
    · rw [used_cons]
      omega

/-- What each act makes of files that are fine. -/
theorem FineL.mono {n m : Nat} {l : List GFile} (h : FineL n l) (hm : n ≤ m) : FineL m l := ⟨h.up, h.ok, by have := h.len; omega, fun f hf => by have := h.data f hf; omega⟩
theorem FineL.with {n : Nat} {l : List GFile} (h : FineL n l) {g : GFile} (hg : okFB g = true) (hd : g.data.length ≤ 100 * (n + 1)) : FineL (n + 1) (withF l g) := by
  refine ⟨upF_with h.up g, fun f hf => ?_, ?_, fun f hf => ?_⟩
  · rcases mem_with h.up hf with rfl | hf
    · exact hg
    · exact h.ok f (mem_without hf).1
  · have := with_len h.up g
    have := without_len l g.name
    have := h.len
    omega
  · rcases mem_with h.up hf with rfl | hf
    · exact hd
    · have := h.data f (mem_without hf).1
      omega
theorem FineL.without {n : Nat} {l : List GFile} (h : FineL n l) (s : List UInt8) : FineL n (withoutF l s) :=
  ⟨upF_without h.up s, fun f hf => h.ok f (mem_without hf).1, by have := without_len l s; have := h.len; omega, fun f hf => h.data f (mem_without hf).1⟩
theorem FineL.got {n : Nat} {l : List GFile} (h : FineL n l) {s : List UInt8} {f : GFile} (hg : getF l s = some f) : f.name = s ∧ namedB f.name = true ∧ 0 ≤ f.sure ∧ f.sure ≤ f.data.length ∧ f.data.length ≤ 100 * n :=
  ⟨(get_mem hg).2, ((okFB_iff f).1 (h.ok f (get_mem hg).1)).1, ((okFB_iff f).1 (h.ok f (get_mem hg).1)).2.1, ((okFB_iff f).1 (h.ok f (get_mem hg).1)).2.2, h.data f (get_mem hg).1⟩

/-- What is known of what an act makes of files, where it does. -/
structure Acts (n : Nat) (l : List GFile) (R : List GFile × Int) : Prop where
  fine : R.2 = 0 → FineL (n + 1) R.1
  err : R.2 ≠ 10
theorem create_acts {n : Nat} {l : List GFile} (h : FineL n l) (name : List UInt8) : Acts n l (createA l name) := by
  unfold createA
  cases h1 : namedB name
  · exact ⟨fun h => absurd h (show ¬ (1 : Int) = 0 by decide), show (1 : Int) ≠ 10 by decide⟩
  cases h2 : getF l name with
  | some f => exact ⟨fun h => absurd h (show ¬ (8 : Int) = 0 by decide), show (8 : Int) ≠ 10 by decide⟩
  | none => exact ⟨fun _ => h.with ((okFB_iff _).2 ⟨h1, Int.le_refl _, Int.le_refl _⟩) (Nat.zero_le _), show (0 : Int) ≠ 10 by decide⟩
theorem append_acts {n : Nat} {l : List GFile} (h : FineL n l) (cap : Int) (name data : List UInt8) (hd : data.length ≤ 100) : Acts n l (appendA l cap name data) := by
  unfold appendA
  cases h2 : getF l name with
  | none => exact ⟨fun h => absurd h (show ¬ (7 : Int) = 0 by decide), show (7 : Int) ≠ 10 by decide⟩
  | some f =>
    obtain ⟨k1, k2, k3, k4, k5⟩ := h.got h2
    dsimp only
    split
    · exact ⟨fun h => absurd h (show ¬ (9 : Int) = 0 by decide), show (9 : Int) ≠ 10 by decide⟩
    · refine ⟨fun _ => h.with ((okFB_iff _).2 ⟨k2, k3, ?_⟩) ?_, show (0 : Int) ≠ 10 by decide⟩
      · simp only [List.length_append]; omega
      · simp only [List.length_append]; omega
theorem sync_acts {n : Nat} {l : List GFile} (h : FineL n l) (name : List UInt8) : Acts n l (syncA l name) := by
  unfold syncA
  cases h2 : getF l name with
  | none => exact ⟨fun h => absurd h (show ¬ (7 : Int) = 0 by decide), show (7 : Int) ≠ 10 by decide⟩
  | some f =>
    obtain ⟨k1, k2, k3, k4, k5⟩ := h.got h2
    exact ⟨fun _ => h.with ((okFB_iff _).2 ⟨k2, by dsimp only; omega, Int.le_refl _⟩) (by dsimp only; omega), show (0 : Int) ≠ 10 by decide⟩
theorem cut_acts {n : Nat} {l : List GFile} (h : FineL n l) (name : List UInt8) (m : Int) : Acts n l (cutA l name m) := by
  unfold cutA
  cases h2 : getF l name with
  | none => exact ⟨fun h => absurd h (show ¬ (7 : Int) = 0 by decide), show (7 : Int) ≠ 10 by decide⟩
  | some f =>
    obtain ⟨k1, k2, k3, k4, k5⟩ := h.got h2
    dsimp only
    split
    · exact ⟨fun h => absurd h (show ¬ (6 : Int) = 0 by decide), show (6 : Int) ≠ 10 by decide⟩
    · rename_i h3
      refine ⟨fun _ => h.with ((okFB_iff _).2 ⟨k2, ?_, ?_⟩) ?_, show (0 : Int) ≠ 10 by decide⟩
      · dsimp only; omega
      · simp only [List.length_take]; omega
      · simp only [List.length_take]; omega
theorem rename_acts {n : Nat} {l : List GFile} (h : FineL n l) (name to : List UInt8) : Acts n l (renameA l name to) := by
  unfold renameA
  cases h2 : getF l name with
  | none => exact ⟨fun h => absurd h (show ¬ (7 : Int) = 0 by decide), show (7 : Int) ≠ 10 by decide⟩
  | some f =>
    obtain ⟨k1, k2, k3, k4, k5⟩ := h.got h2
    dsimp only
    cases h1 : namedB to
    · exact ⟨fun h => absurd h (show ¬ (1 : Int) = 0 by decide), show (1 : Int) ≠ 10 by decide⟩
    · exact ⟨fun _ => (h.without name).with ((okFB_iff _).2 ⟨h1, k3, k4⟩) (by dsimp only; omega), show (0 : Int) ≠ 10 by decide⟩
theorem delete_acts {n : Nat} {l : List GFile} (h : FineL n l) (name : List UInt8) : Acts n l (deleteA l name) := by
  unfold deleteA
  cases h2 : getF l name with
  | none => exact ⟨fun h => absurd h (show ¬ (7 : Int) = 0 by decide), show (7 : Int) ≠ 10 by decide⟩
  | some f => exact ⟨fun _ => (h.without name).mono (by omega), show (0 : Int) ≠ 10 by decide⟩

/-- The acts on files. -/
def actA (d : GDisk) (a : GAct) : List GFile × Int :=
  if a.kind = 0 then createA d.files a.name else
  if a.kind = 1 then appendA d.files d.cap a.name a.to' else
  if a.kind = 2 then syncA d.files a.name else
  if a.kind = 3 then cutA d.files a.name a.n else
  if a.kind = 4 then renameA d.files a.name a.to' else deleteA d.files a.name
theorem do_act {d : GDisk} {a : GAct} (h : 0 ≤ a.kind ∧ a.kind ≤ 5) : doM d a = changeM d (actA d a) := by
  unfold doM actA
  by_cases k0 : a.kind = 0
  · simp only [if_pos k0]
  by_cases k1 : a.kind = 1
  · simp only [if_neg k0, if_pos k1]
  by_cases k2 : a.kind = 2
  · simp only [if_neg k0, if_neg k1, if_pos k2]
  by_cases k3 : a.kind = 3
  · simp only [if_neg k0, if_neg k1, if_neg k2, if_pos k3]
  by_cases k4 : a.kind = 4
  · simp only [if_neg k0, if_neg k1, if_neg k2, if_neg k3, if_pos k4]
  by_cases k5 : a.kind = 5
  · simp only [if_neg k0, if_neg k1, if_neg k2, if_neg k3, if_neg k4, if_pos k5]
  omega
theorem act_acts {n : Nat} {d : GDisk} (h : FineL n d.files) {a : GAct} (ha : ShortA a) : Acts n d.files (actA d a) := by
  unfold actA
  split
  · exact create_acts h _
  split
  · exact append_acts h _ _ _ ha.to
  split
  · exact sync_acts h _
  split
  · exact cut_acts h _ _
  split
  · exact rename_acts h _ _
  · exact delete_acts h _
theorem do_arm {d : GDisk} {a : GAct} (h : a.kind = 6) : doM d a = (armM d a.n, 0) := by
  unfold doM
  rw [h]
  rfl
theorem do_limit {d : GDisk} {a : GAct} (h : a.kind = 7) : doM d a = (limitM d a.n, 0) := by
  unfold doM
  rw [h]
  rfl
theorem do_crash {d : GDisk} {a : GAct} (h : a.kind < 0 ∨ 7 < a.kind) : doM d a = (crashM d a.keep, 0) := by
  unfold doM
  rw [if_neg (by omega), if_neg (by omega), if_neg (by omega), if_neg (by omega), if_neg (by omega), if_neg (by omega), if_neg (by omega), if_neg (by omega)]

theorem Fine.mono {n m : Nat} {d : GDisk} (h : Fine n d) (hm : n ≤ m) : Fine m d := ⟨h.files.mono hm, h.cap, h.left⟩
theorem change_fine {n : Nat} {d : GDisk} (h : Fine n d) {R : List GFile × Int} (hR : R.2 = 0 → FineL (n + 1) R.1) : Fine (n + 1) (changeM d R).1 := by
  have h0 := h.mono (Nat.le_succ n)
  obtain ⟨hl1, hl2⟩ := h.left
  unfold changeM
  cases h1 : d.down
  case true => exact h0
  cases h2 : (R.2 == 0)
  case false => exact h0
  have h2' : R.2 = 0 := by simpa using h2
  cases h3 : d.armed
  case false => exact ⟨hR h2', h.cap, h.left⟩
  cases h4 : (d.left == 0)
  case true => exact ⟨h0.files, h.cap, h.left⟩
  have h4' : d.left ≠ 0 := by simpa using h4
  refine ⟨hR h2', h.cap, ?_⟩
  show okInt .i64 (d.left - 1) ∧ 0 ≤ d.left - 1
  simp only [okInt, min_i64, max_i64] at hl1 ⊢
  omega
theorem crash_mem : ∀ (l : List GFile) (k : List Int) (f : GFile), f ∈ crashF l k → ∃ g c, g ∈ l ∧ f = crash1 g c
  | [], _, f, h => by cases h
  | g :: l, k, f, h => by
    simp only [crashF, List.mem_cons] at h
    rcases h with h | h
    · exact ⟨g, k.headD 0, by simp, h⟩
    · obtain ⟨g', c, h1, h2⟩ := crash_mem l k.tail f h
      exact ⟨g', c, by simp [h1], h2⟩
theorem crash_up : ∀ (l : List GFile) (k : List Int), upF l → upF (crashF l k)
  | [], _, _ => List.Pairwise.nil
  | g :: l, k, h => by
    obtain ⟨h1, h2⟩ := List.pairwise_cons.1 h
    refine List.pairwise_cons.2 ⟨fun f hf => ?_, crash_up l k.tail h2⟩
    obtain ⟨g', c, m, rfl⟩ := crash_mem l k.tail f hf
    exact h1 g' m
theorem crash1_ok {g : GFile} (h : okFB g = true) (c : Int) : okFB (crash1 g c) = true ∧ (crash1 g c).data.length ≤ g.data.length ∧ (crash1 g c).sure = (crash1 g c).data.length ∧ g.sure ≤ (crash1 g c).sure ∧ (crash1 g c).data = g.data.take (crash1 g c).data.length := by
  obtain ⟨h1, h2, h3⟩ := (okFB_iff g).1 h
  have e : (crash1 g c).sure = (crash1 g c).data.length := by
    simp only [crash1, List.length_take]
    omega
  refine ⟨(okFB_iff _).2 ⟨h1, ?_, by omega⟩, ?_, e, ?_, ?_⟩
  · rw [e]; omega
  · simp only [crash1, List.length_take]; omega
  · simp only [crash1]; omega
  · simp only [crash1, List.length_take]
    rw [Nat.min_eq_left (by omega)]
theorem crash_fine {n : Nat} {l : List GFile} (h : FineL n l) (k : List Int) : FineL n (crashF l k) := by
  refine ⟨crash_up l k h.up, fun f hf => ?_, by rw [crashF_len]; exact h.len, fun f hf => ?_⟩
  · obtain ⟨g, c, m, rfl⟩ := crash_mem l k f hf
    exact (crash1_ok (h.ok g m) c).1
  · obtain ⟨g, c, m, rfl⟩ := crash_mem l k f hf
    have := (crash1_ok (h.ok g m) c).2.1
    have := h.data g m
    omega
theorem do_fine {n : Nat} {d : GDisk} (h : Fine n d) {a : GAct} (ha : ShortA a) : Fine (n + 1) (doM d a).1 := by
  have hn := ha.ok.2.1
  simp only [okInt, min_i64, max_i64] at hn
  by_cases h1 : 0 ≤ a.kind ∧ a.kind ≤ 5
  · rw [do_act h1]
    exact change_fine h (act_acts h.files ha).fine
  by_cases h2 : a.kind = 6
  · rw [do_arm h2]
    refine ⟨h.files.mono (by omega), h.cap, ?_⟩
    show okInt .i64 (max a.n 0) ∧ 0 ≤ max a.n 0
    simp only [okInt, min_i64, max_i64]
    omega
  by_cases h3 : a.kind = 7
  · rw [do_limit h3]
    refine ⟨h.files.mono (by omega), ?_, h.left⟩
    show okInt .i64 (max a.n 0) ∧ 0 ≤ max a.n 0
    simp only [okInt, min_i64, max_i64]
    omega
  · rw [do_crash (by omega)]
    refine ⟨(crash_fine h.files a.keep).mono (by omega), h.cap, ?_⟩
    show okInt .i64 0 ∧ (0 : Int) ≤ 0
    simp only [okInt, min_i64, max_i64]
    omega

/-- May it be: told by its files. -/
theorem rightL_up : ∀ (s : List UInt8) (l : List GFile), rightL s l = true → upF l ∧ ∀ f, f ∈ l → lt s f.name = true
  | _, [], _ => ⟨List.Pairwise.nil, fun f hf => by cases hf⟩
  | s, g :: l, h => by
    simp only [rightL, Bool.and_eq_true] at h
    obtain ⟨h1, h2⟩ := rightL_up g.name l h.2
    refine ⟨List.pairwise_cons.2 ⟨h2, h1⟩, fun f hf => ?_⟩
    rcases List.mem_cons.1 hf with rfl | hf
    · exact h.1.2
    · exact lt_trans h.1.2 (h2 f hf)
theorem up_rightL : ∀ (s : List UInt8) (l : List GFile), upF l → (∀ f, f ∈ l → okFB f = true) → (∀ f, f ∈ l → lt s f.name = true) → rightL s l = true
  | _, [], _, _, _ => rfl
  | s, g :: l, h, ho, hs => by
    obtain ⟨h1, h2⟩ := List.pairwise_cons.1 h
    simp only [rightL, Bool.and_eq_true]
    exact ⟨⟨ho g (by simp), hs g (by simp)⟩, up_rightL g.name l h2 (fun f hf => ho f (by simp [hf])) h1⟩
theorem fine_right {n : Nat} {d : GDisk} (h : Fine n d) : rightM d = true := by
  unfold rightM
  rw [up_rightL [] d.files h.files.up h.files.ok (fun f hf => lt_nil ((okFB_iff f).1 (h.files.ok f hf)).1), decide_eq_true h.cap.2, decide_eq_true h.left.2]
  rfl
theorem right_fine {d : GDisk} (hd : d.ok) (h : rightM d = true) (hf : fewB d.files = true) : Fine 40 d := by
  simp only [rightM, Bool.and_eq_true, decide_eq_true_eq] at h
  simp only [fewB, Bool.and_eq_true, decide_eq_true_eq, List.all_eq_true] at hf
  exact ⟨⟨(rightL_up [] d.files h.1).1, rightL_all [] d.files h.1, hf.1, fun f hm => by have := (hf.2 f hm).1; omega⟩, ⟨hd.2.1, h.2.1⟩, ⟨hd.2.2.2.1, h.2.2⟩⟩
def zeroDisk : GDisk := ⟨[], 0, false, 0, false⟩
theorem zero_fine : Fine 0 zeroDisk := ⟨⟨List.Pairwise.nil, fun f hf => (by cases hf), Nat.le_refl _, fun f hf => (by cases hf)⟩, ⟨⟨by decide, by decide⟩, by decide⟩, ⟨⟨by decide, by decide⟩, by decide⟩⟩

end Go.Proofs.Ytlkffgmejcgdbaa
