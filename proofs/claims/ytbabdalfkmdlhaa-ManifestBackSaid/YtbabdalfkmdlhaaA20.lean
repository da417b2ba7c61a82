/- What an abstract operation reads and writes of the blocks. Of no program. -/
import Derived.Test.YtbabdalfkmdlhaaA19
namespace Go.Proofs.Ytbabdalfkmdlhaa
set_option linter.all false

def ids1 : D → List Nat
  | .ref b _ _ _ => [b]
  | .ptr b _ => [b]
  | _ => []

def aReads (ev : Operand → D) : Op → List Nat
  | .load _ a => ids1 (ev a)
  | .slice _ x _ _ _ => ids1 (ev x)
  | .convert _ _ x => ids1 (ev x)
  | .call { callee := .builtin .append, args, .. } => args.toList.flatMap fun x => ids1 (ev x)
  | .call { callee := .builtin .copy, args, .. } => args.toList.flatMap fun x => ids1 (ev x)
  | _ => []

def aWrites (τ : Ty) (ev : Operand → D) (slot : Nat) : Op → List Nat
  | .store _ a _ => ids1 (ev a)
  | .alloc _ | .box _ _ | .buildSlice _ _ _ | .makeSlice _ _ _ => [slot]
  | .convert _ dst _ => bif (τ dst).td.isSlice then [slot] else []
  | .call { callee := .builtin .append, args, .. } => slot :: args.toList.flatMap fun x => ids1 (ev x)
  | .call { callee := .builtin .copy, args, .. } => args.toList.flatMap fun x => ids1 (ev x)
  | _ => []

/-- Nothing of the blocks is read or written. -/
def Quiet (f : AHeap → R) : Prop := ∀ H H', (f H).ob → f H' = ⟨(f H).ob, (f H).d, H'⟩ ∧ (f H).H = H

/-- Only 'Rs' and 'Ws' are read, only 'Ws' are written. -/
def Local (Rs Ws : List Nat) (f : AHeap → R) : Prop :=
  ∀ H H', H'.length = H.length → (∀ b, b ∈ Rs ∨ b ∈ Ws → H'[b]? = H[b]?) → (f H).ob →
    (f H').ob ∧ (f H').d = (f H).d ∧ (f H').H.length = H'.length ∧ (∀ b, b ∈ Ws → (f H').H[b]? = (f H).H[b]?) ∧ ∀ b, b ∉ Ws → (f H').H[b]? = H'[b]?

theorem Quiet.loc {f : AHeap → R} (h : Quiet f) (Rs Ws : List Nat) : Local Rs Ws f := fun H H' _ he ho => by
  obtain ⟨h1, h2⟩ := h H H' ho
  rw [h1]
  exact ⟨ho, by trivial, by trivial, fun b hb => by rw [h2]; exact he b (.inr hb), fun b _ => rfl⟩

theorem quiet_bad : Quiet fun _ => bad := fun _ _ h => h.elim

theorem q_int (op : BinOp) (k : IntKind) (a : Int) (k' : IntKind) (b : Int) : Quiet (aInt op k a k' b) := fun H H' _ => by
  cases op <;> exact ⟨by trivial, by trivial⟩
theorem q_str (op : BinOp) (a b : List UInt8) : Quiet (aStr op a b) := fun H H' h => by
  cases op <;> first | exact h.elim | exact ⟨by trivial, by trivial⟩
theorem q_bin (τ : Ty) (op : BinOp) (t : TypeId) (x y : D) : Quiet (aBin τ op t x y) := fun H H' h => by
  cases x <;> try exact h.elim
  · cases y <;> first | exact h.elim | exact q_int _ _ _ _ _ H H' h
  · cases y <;> first | exact h.elim | (cases op <;> first | exact h.elim | exact ⟨by trivial, by trivial⟩)
  · cases y <;> first | exact h.elim | exact q_str _ _ _ H H' h
  · cases y <;> first | exact h.elim | (cases op <;> first | exact h.elim | exact ⟨by trivial, by trivial⟩)
theorem q_un (op : UnOp) (x : D) : Quiet (aUn op x) := fun H H' h => by
  cases op <;> cases x <;> first | exact h.elim | exact ⟨by trivial, by trivial⟩
theorem q_indexAddr (τ : Ty) (t : TypeId) (x ix : D) : Quiet (aIndexAddr τ t x ix) := fun H H' h => by
  cases ix <;> try exact h.elim
  unfold aIndexAddr at *
  cases ht : (τ t).td <;> simp only [ht] at h ⊢ <;> try exact h.elim
  · cases x <;> first | exact h.elim | exact ⟨by trivial, by trivial⟩
  · cases x <;> first | exact h.elim | exact ⟨by trivial, by trivial⟩
theorem q_fieldAddr (τ : Ty) (t : TypeId) (x : D) (f : Nat) : Quiet (aFieldAddr τ t x f) := fun H H' h => by
  unfold aFieldAddr at *
  cases ht : (τ t).td <;> simp only [ht] at h ⊢ <;> try exact h.elim
  rename_i fs
  cases hf : fs[f]? <;> simp only [hf] at h ⊢ <;> try exact h.elim
  cases x <;> first | exact h.elim | exact ⟨by trivial, by trivial⟩
theorem q_field (τ : Ty) (t : TypeId) (x : D) (f : Nat) : Quiet (aField τ t x f) := fun H H' h => by
  unfold aField at *
  cases ht : (τ t).td <;> simp only [ht] at h ⊢ <;> try exact h.elim
  rename_i fs
  cases hf : fs[f]? <;> simp only [hf] at h ⊢ <;> try exact h.elim
  cases x <;> first | exact h.elim | exact ⟨by trivial, by trivial⟩
theorem q_index (τ : Ty) (t : TypeId) (x ix : D) : Quiet (aIndex τ t x ix) := fun H H' h => by
  cases ix <;> try exact h.elim
  cases x <;> try exact h.elim
  · exact ⟨by trivial, by trivial⟩
  · unfold aIndex at *
    cases ht : (τ t).td <;> simp only [ht] at h ⊢ <;> first | exact h.elim | exact ⟨by trivial, by trivial⟩
theorem q_build (τ : Ty) (t : TypeId) (ps : List (Nat × D)) : Quiet (aBuild τ t ps) := fun H H' h => by
  unfold aBuild at *
  cases ht : (τ t).td <;> simp only [ht] at h ⊢ <;> try exact h.elim
  · split at h
    · rename_i hs; simp only [hs]; exact ⟨trivial, trivial⟩
    · exact h.elim
  · split at h
    · rename_i hs; simp only [hs]; exact ⟨trivial, trivial⟩
    · exact h.elim
theorem q_len (τ : Ty) (t : TypeId) (x : D) : Quiet (aLen τ t x) := fun H H' h => by
  unfold aLen at *
  cases ht : (τ t).td <;> simp only [ht] at h ⊢ <;> first | exact h.elim | exact ⟨by trivial, by trivial⟩ | (cases x <;> first | exact h.elim | exact ⟨by trivial, by trivial⟩)

theorem l_set {Rs Ws : List Nat} {f : AHeap → R} {b : Nat} (hb : b ∈ Ws) (h : ∀ H H', H'.length = H.length → (∀ b, b ∈ Rs ∨ b ∈ Ws → H'[b]? = H[b]?) → (f H).ob → (f H').ob ∧ (f H').d = (f H).d ∧ ∃ x, (f H).H = H.set b x ∧ (f H').H = H'.set b x) : Local Rs Ws f := fun H H' hl he ho => by
  obtain ⟨h1, h2, x, h3, h4⟩ := h H H' hl he ho
  refine ⟨h1, h2, by rw [h4]; simp, fun c hc => ?_, fun c hc => ?_⟩
  · rw [h3, h4]
    by_cases e : b = c
    · subst e
      by_cases hlt : b < H.length
      · rw [List.getElem?_set_self hlt, List.getElem?_set_self (by omega)]
      · rw [List.getElem?_eq_none (by simp; omega), List.getElem?_eq_none (by simp; omega)]
    · rw [List.getElem?_set_ne e, List.getElem?_set_ne e]; exact he c (.inr hc)
  · rw [h4, List.getElem?_set_ne (fun (e : b = c) => hc (e ▸ hb))]

theorem cellsAt_congr {H H' : AHeap} {b : Nat} (h : H'[b]? = H[b]?) : cellsAt H' b = cellsAt H b := by
  unfold cellsAt; rw [h]

theorem l_load (τ : Ty) (t : TypeId) (x : D) : Local (ids1 x) [] (aLoad τ t x) := fun H H' hl he ho => by
  cases x <;> try exact ho.elim
  · exact ⟨ho, by trivial, by trivial, fun b hb => absurd hb (by simp), fun b _ => by trivial⟩
  · rename_i b o
    have := cellsAt_congr (he b (.inl (by simp [ids1])))
    unfold aLoad at *
    simp only [this] at ho ⊢
    cases hc : cellsAt H b <;> simp only [hc] at ho ⊢
    · exact ho.elim
    · exact ⟨ho, by trivial, by trivial, fun b hb => absurd hb (by simp), fun b _ => by trivial⟩

theorem l_store (τ : Ty) (t : TypeId) (x v : D) : Local [] (ids1 x) (aStore τ t x v) := by
  cases x
  case ptr b o =>
    refine l_set (b := b) (by simp [ids1]) fun H H' hl he ho => ?_
    have := he b (.inr (by simp [ids1]))
    unfold aStore at *
    simp only [this] at ho ⊢
    split at ho
    · rename_i cs hs
      simp only [hs]
      exact ⟨ho, by trivial, _, rfl, rfl⟩
    · exact ho.elim
  all_goals exact Quiet.loc quiet_bad _ _

theorem l_alloc (τ : Ty) (t : TypeId) (s : Nat) : Local [] [s] (aAlloc τ t s) :=
  l_set (b := s) (by simp) fun H H' _ _ ho => ⟨ho, rfl, _, rfl, rfl⟩
theorem l_box (v : D) (s : Nat) : Local [] [s] (aBox v s) :=
  l_set (b := s) (by simp) fun H H' _ _ ho => ⟨ho, rfl, _, rfl, rfl⟩
theorem l_buildSlice (τ : Ty) (t : TypeId) (n : Nat) (ps : List (Nat × D)) (s : Nat) : Local [] [s] (aBuildSlice τ t n ps s) :=
  l_set (b := s) (by simp) fun H H' _ _ ho => by
    unfold aBuildSlice at *
    cases ht : (τ t).td <;> simp only [ht] at ho ⊢ <;> try exact ho.elim
    split at ho
    · rename_i hs; simp only [hs]; exact ⟨ho, by trivial, _, rfl, rfl⟩
    · exact ho.elim
theorem l_makeSlice (τ : Ty) (t : TypeId) (x y : D) (s : Nat) : Local [] [s] (aMakeSlice τ t x y s) :=
  l_set (b := s) (by simp) fun H H' _ _ ho => by
    unfold aMakeSlice at *
    cases ht : (τ t).td <;> simp only [ht] at ho ⊢ <;> try exact ho.elim
    cases x <;> try exact ho.elim
    cases y <;> try exact ho.elim
    exact ⟨ho, by trivial, _, rfl, rfl⟩

theorem l_conv (τ : Ty) (src dst : TypeId) (x : D) (s : Nat) : Local (ids1 x) (bif (τ dst).td.isSlice then [s] else []) (aConv τ src dst x s) := by
  unfold aConv
  cases ht : (τ dst).td
  case int k => cases x <;> first | exact Quiet.loc quiet_bad _ _ | exact Quiet.loc (fun H H' h => ⟨rfl, rfl⟩) _ _
  case str =>
    cases x
    case ref b o len sz =>
      intro H H' hl he ho
      have := cellsAt_congr (he b (.inl (by simp [ids1])))
      simp only [this] at ho ⊢
      cases hc : cellsAt H b <;> simp only [hc] at ho ⊢
      · exact ho.elim
      · exact ⟨ho, by trivial, by trivial, fun b hb => absurd hb (by simp [TD.isSlice]), fun b _ => by trivial⟩
    all_goals first | exact Quiet.loc quiet_bad _ _ | exact Quiet.loc (fun H H' h => ⟨rfl, rfl⟩) _ _
  case slice e =>
    cases x
    case str => exact l_set (b := s) (by simp [TD.isSlice]) fun H H' _ _ ho => ⟨ho, rfl, _, rfl, rfl⟩
    all_goals exact Quiet.loc quiet_bad _ _
  all_goals exact Quiet.loc quiet_bad _ _

theorem l_slice (τ : Ty) (t : TypeId) (x : D) (lo hi mx : Option D) : Local (ids1 x) [] (aSlice τ t x lo hi mx) := by
  unfold aSlice
  cases asNat? lo <;> try exact Quiet.loc quiet_bad _ _
  cases asNat? hi <;> try exact Quiet.loc quiet_bad _ _
  cases asNat? mx <;> try exact Quiet.loc quiet_bad _ _
  cases x
  case ptr b o =>
    intro H H' hl he ho
    have := cellsAt_congr (he b (.inl (by simp [ids1])))
    cases ht : (τ t).td <;> simp only [ht] at ho ⊢ <;> try exact ho.elim
    simp only [this]
    exact ⟨ho, by trivial, by trivial, fun b hb => absurd hb (by simp), fun b _ => by trivial⟩
  all_goals first | exact Quiet.loc quiet_bad _ _ | exact Quiet.loc (fun H H' h => ⟨rfl, rfl⟩) _ _

theorem elemCells_congr {H H' : AHeap} {x : D} (h : ∀ b, b ∈ ids1 x → H'[b]? = H[b]?) : elemCells H' x = elemCells H x := by
  cases x <;> try rfl
  simp only [elemCells, cellsAt_congr (h _ (List.mem_singleton.2 rfl))]

theorem l_append (τ : Ty) (ts : List TypeId) (s x : D) (slot : Nat) {Rs Ws : List Nat} (h1 : ∀ b, b ∈ ids1 x → b ∈ Rs ∨ b ∈ Ws) (h2 : ∀ b, b ∈ ids1 s → b ∈ Ws) (h3 : slot ∈ Ws) : Local Rs Ws (aAppend τ ts s x slot) := by
  intro H H' hl he ho
  have hx := elemCells_congr (H := H) (H' := H') (x := x) fun b hb => he b (h1 b hb)
  unfold aAppend at *
  split at ho
  · split at ho
    · rename_i t t' e ht
      simp only [ht, hx] at ho ⊢
      cases hc : elemCells H x <;> simp only [hc] at ho ⊢
      · exact ho.elim
      · rename_i xs
        obtain ⟨xs, n⟩ := xs
        simp only at ho ⊢
        cases s
        case nil =>
          refine l_set (Rs := Rs) (Ws := Ws) (b := slot) (f := fun H => ⟨_, .ref slot 0 n (τ e).size, H.set slot (.live xs)⟩) h3 (fun H H' _ _ ho => ⟨ho, rfl, _, rfl, rfl⟩) H H' hl he ho
        case ref b o len sz =>
          have hb := he b (.inr (h2 b (by simp [ids1])))
          simp only [hb] at ho ⊢
          split at ho
          · rename_i cs hs
            simp only [hs]
            refine ⟨ho, by trivial, by simp, fun c hc => ?_, fun c hc => ?_⟩
            · have hlt : b < H.length := (List.getElem?_eq_some_iff.1 hs).1
              have hc' := he c (.inr hc)
              by_cases e1 : slot = c
              · subst e1
                by_cases hlt : slot < H.length
                · rw [List.getElem?_set_self (by simp; omega), List.getElem?_set_self (by simpa using hlt)]
                · rw [List.getElem?_eq_none (by simp; omega), List.getElem?_eq_none (by simp; omega)]
              · rw [List.getElem?_set_ne e1, List.getElem?_set_ne e1]
                by_cases e2 : b = c
                · subst e2
                  rw [List.getElem?_set_self hlt, List.getElem?_set_self (by omega)]
                · rw [List.getElem?_set_ne e2, List.getElem?_set_ne e2]; exact hc'
            · rw [List.getElem?_set_ne (fun (e : slot = c) => hc (e ▸ h3)), List.getElem?_set_ne (fun (e : b = c) => hc (e ▸ h2 b (by simp [ids1])))]
          · exact ho.elim
        case sl sz es t =>
          cases t
          · exact ho.elim
          · exact ⟨ho, by trivial, by trivial, fun b hb => he b (.inr hb), fun b _ => rfl⟩
        all_goals exact ho.elim
    · exact ho.elim
  · exact ho.elim

theorem l_copy (τ : Ty) (ts : List TypeId) (dst src : D) {Rs Ws : List Nat} (h1 : ∀ b, b ∈ ids1 src → b ∈ Rs ∨ b ∈ Ws) (h2 : ∀ b, b ∈ ids1 dst → b ∈ Ws) : Local Rs Ws (aCopy τ ts dst src) := by
  intro H H' hl he ho
  have hx := elemCells_congr (H := H) (H' := H') (x := src) fun b hb => he b (h1 b hb)
  cases ts with
  | nil => exact ho.elim
  | cons t r =>
    simp only [aCopy] at ho ⊢
    cases ht : (τ t).td <;> simp only [ht] at ho ⊢ <;> try exact ho.elim
    rename_i e
    cases dst <;> try exact ho.elim
    rename_i b o len sz
    have hb := he b (.inr (h2 b (by simp [ids1])))
    simp only [hb, hx] at ho ⊢
    split at ho
    · rename_i cs xs n hs hxs
      simp only [hs, hxs]
      obtain ⟨k1, _, k3, k4, k5⟩ := l_set (Rs := Rs) (Ws := Ws) (b := b) (f := fun H => ⟨_, .int .i64 (min n len : Nat), H.set b _⟩) (h2 b (by simp [ids1])) (fun H H' _ _ ho => ⟨ho, by trivial, _, rfl, rfl⟩) H H' hl he ho
      exact ⟨k1, trivial, k3, k4, k5⟩
    · exact ho.elim

theorem aop_local (τ : Ty) (ev : Operand → D) (slot : Nat) (op : Op) : Local (aReads ev op) (aWrites τ ev slot op) fun H => aop τ ev slot H op := by
  cases op
  case move x => exact Quiet.loc (fun H H' h => ⟨rfl, rfl⟩) _ _
  case assign x => exact Quiet.loc (fun H H' h => ⟨rfl, rfl⟩) _ _
  case pick c a b => exact Quiet.loc (fun H H' h => by simp only [aop] at *; split at h <;> first | exact h.elim | exact ⟨by trivial, by trivial⟩) _ _
  case alloc t => exact l_alloc τ t slot
  case box t v => exact l_box _ slot
  case build t ps => exact Quiet.loc (q_build _ _ _) _ _
  case buildSlice t n ps => exact l_buildSlice _ _ _ _ _
  case load t a => exact l_load _ _ _
  case store t a v => exact l_store _ _ _ _
  case nilCheck x => exact Quiet.loc (fun H H' h => by simp only [aop] at *; split at h <;> first | exact h.elim | exact ⟨by trivial, by trivial⟩) _ _
  case binOp op t x y t' => exact Quiet.loc (q_bin _ _ _ _ _) _ _
  case unOp op t x => exact Quiet.loc (q_un _ _) _ _
  case convert src dst x => exact l_conv _ _ _ _ _
  case makeFunc fn first cap => cases fn <;> first | exact Quiet.loc quiet_bad _ _ | exact Quiet.loc (fun H H' h => ⟨rfl, rfl⟩) _ _
  case makeSlice t l c => exact l_makeSlice _ _ _ _ _
  case slice t x lo hi mx => exact l_slice _ _ _ _ _ _
  case fieldAddr t x f => exact Quiet.loc (q_fieldAddr _ _ _ _) _ _
  case field t x f => exact Quiet.loc (q_field _ _ _ _) _ _
  case indexAddr t x i => exact Quiet.loc (q_indexAddr _ _ _ _) _ _
  case index t x i => exact Quiet.loc (q_index _ _ _ _) _ _
  case extract x i => exact Quiet.loc (fun H H' h => by simp only [aop] at *; split at h <;> first | exact h.elim | exact ⟨by trivial, by trivial⟩) _ _
  case call c =>
    obtain ⟨callee, args, ts⟩ := c
    cases callee <;> try exact Quiet.loc quiet_bad _ _
    rename_i b
    cases b <;> try exact Quiet.loc quiet_bad _ _
    case append =>
      have mem : ∀ (x : Operand), x ∈ args.toList → ∀ b, b ∈ ids1 (ev x) → b ∈ args.toList.flatMap fun x => ids1 (ev x) := fun x hx b hb => List.mem_flatMap.2 ⟨x, hx, hb⟩
      simp only [aop, aBuiltin, aReads, aWrites]
      generalize args.toList = l at mem
      match l with
      | [] => exact Quiet.loc quiet_bad _ _
      | [_] => exact Quiet.loc quiet_bad _ _
      | _ :: _ :: _ :: _ => exact Quiet.loc quiet_bad _ _
      | [s, x] => exact l_append _ _ _ _ _ (fun b hb => .inl (mem x (by simp) b hb)) (fun b hb => List.mem_cons_of_mem _ (mem s (by simp) b hb)) (by simp)
    case copy =>
      have mem : ∀ (x : Operand), x ∈ args.toList → ∀ b, b ∈ ids1 (ev x) → b ∈ args.toList.flatMap fun x => ids1 (ev x) := fun x hx b hb => List.mem_flatMap.2 ⟨x, hx, hb⟩
      simp only [aop, aBuiltin, aReads, aWrites]
      generalize args.toList = l at mem
      match l with
      | [] => exact Quiet.loc quiet_bad _ _
      | [_] => exact Quiet.loc quiet_bad _ _
      | _ :: _ :: _ :: _ => exact Quiet.loc quiet_bad _ _
      | [s, x] => exact l_copy _ _ _ _ (fun b hb => .inl (mem x (by simp) b hb)) (fun b hb => mem s (by simp) b hb)
    case len =>
      simp only [aop, aBuiltin]
      generalize args.toList.map ev = l
      generalize ts.toList = tl
      rcases tl with _ | ⟨t, _ | ⟨_, _⟩⟩
      · exact Quiet.loc quiet_bad _ _
      · rcases l with _ | ⟨x, _ | ⟨_, _⟩⟩
        · exact Quiet.loc quiet_bad _ _
        · exact Quiet.loc (q_len _ _ _) _ _
        · exact Quiet.loc quiet_bad _ _
      · exact Quiet.loc quiet_bad _ _
    case max =>
      simp only [aop, aBuiltin]
      generalize args.toList.map ev = l
      rcases l with _ | ⟨x, r⟩
      · exact Quiet.loc quiet_bad _ _
      · refine Quiet.loc (fun H H' h => ?_) _ _
        simp only at h ⊢
        cases hm : aMax x r
        · rw [hm] at h; exact h.elim
        · exact ⟨by trivial, by trivial⟩
    case min =>
      simp only [aop, aBuiltin]
      generalize args.toList.map ev = l
      rcases l with _ | ⟨x, r⟩
      · exact Quiet.loc quiet_bad _ _
      · refine Quiet.loc (fun H H' h => ?_) _ _
        simp only at h ⊢
        cases hm : aMin x r
        · rw [hm] at h; exact h.elim
        · exact ⟨by trivial, by trivial⟩
  all_goals exact Quiet.loc quiet_bad _ _

end Go.Proofs.Ytbabdalfkmdlhaa
