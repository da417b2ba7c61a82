/- What loops and returns ask, by its shape. Of no program. -/
import Derived.Test.YtbabdalfkmdlhaaA18
import Derived.IntWalk
namespace Go.Proofs.Ytbabdalfkmdlhaa
set_option linter.all false

mutual
theorem D.ren_noIds (ρ : List Nat) : ∀ (d : D), d.noIds = true → d.ren ρ = d
  | .agg cs, h => by simp only [D.noIds] at h; simp only [D.ren, D.renL_noIds ρ cs h]
  | .sl _ cs _, h => by simp only [D.noIds] at h; simp only [D.ren, D.renL_noIds ρ cs h]
  | .cp cs, h => by simp only [D.noIds] at h; simp only [D.ren, D.renL_noIds ρ cs h]
  | .fn _ cs, h => by simp only [D.noIds] at h; simp only [D.ren, D.renL_noIds ρ cs h]
  | .tup cs, h => by simp only [D.noIds] at h; simp only [D.ren, D.renL_noIds ρ cs h]
  | .iface _ d, h => by simp only [D.noIds] at h; simp only [D.ren, D.ren_noIds ρ d h]
  | .ref _ _ _ _, h => by simp [D.noIds] at h
  | .ptr _ _, h => by simp [D.noIds] at h
  | .any, _ => rfl
  | .int _ _, _ => rfl
  | .bool _, _ => rfl
  | .str _, _ => rfl
  | .nil, _ => rfl
  | .nilp, _ => rfl
  | .nilf, _ => rfl
  | .niface, _ => rfl
theorem D.renL_noIds (ρ : List Nat) : ∀ (l : List D), D.noIdsL l = true → D.renL ρ l = l
  | [], _ => rfl
  | d :: l, h => by
    simp only [D.noIdsL, Bool.and_eq_true] at h
    simp only [D.renL, D.ren_noIds ρ d h.1, D.renL_noIds ρ l h.2]
end

mutual
theorem D.bnd_noIds (n : Nat) : ∀ (d : D), d.noIds = true → d.bnd n = true
  | .agg cs, h => by simp only [D.noIds] at h; simp only [D.bnd, D.bndL_noIds n cs h]
  | .sl _ cs _, h => by simp only [D.noIds] at h; simp only [D.bnd, D.bndL_noIds n cs h]
  | .cp cs, h => by simp only [D.noIds] at h; simp only [D.bnd, D.bndL_noIds n cs h]
  | .fn _ cs, h => by simp only [D.noIds] at h; simp only [D.bnd, D.bndL_noIds n cs h]
  | .tup cs, h => by simp only [D.noIds] at h; simp only [D.bnd, D.bndL_noIds n cs h]
  | .iface _ d, h => by simp only [D.noIds] at h; simp only [D.bnd, D.bnd_noIds n d h]
  | .ref _ _ _ _, h => by simp [D.noIds] at h
  | .ptr _ _, h => by simp [D.noIds] at h
  | .any, _ => rfl
  | .int _ _, _ => rfl
  | .bool _, _ => rfl
  | .str _, _ => rfl
  | .nil, _ => rfl
  | .nilp, _ => rfl
  | .nilf, _ => rfl
  | .niface, _ => rfl
theorem D.bndL_noIds (n : Nat) : ∀ (l : List D), D.noIdsL l = true → D.bndL n l = true
  | [], _ => rfl
  | d :: l, h => by
    simp only [D.noIdsL, Bool.and_eq_true] at h
    simp only [D.bndL, D.bnd_noIds n d h.1, D.bndL_noIds n l h.2, Bool.and_self]
end

theorem ni_any : D.any.noIds = false := rfl
theorem ni_int (k : IntKind) (n : Int) : (D.int k n).noIds = true := by simp only [D.noIds, D.noIdsL]
theorem ni_bool (b : Bool) : (D.bool b).noIds = true := by simp only [D.noIds, D.noIdsL]
theorem ni_str (s : List UInt8) : (D.str s).noIds = true := by simp only [D.noIds, D.noIdsL]
theorem ni_agg (l : List D) : (D.agg l).noIds = D.noIdsL l := by simp only [D.noIds, D.noIdsL]
theorem ni_nil : D.nil.noIds = true := by simp only [D.noIds, D.noIdsL]
theorem ni_sl (z : Nat) (l : List D) (t : Bool) : (D.sl z l t).noIds = D.noIdsL l := by simp only [D.noIds, D.noIdsL]
theorem ni_cp (l : List D) : (D.cp l).noIds = D.noIdsL l := by simp only [D.noIds, D.noIdsL]
theorem ni_nilp : D.nilp.noIds = true := by simp only [D.noIds, D.noIdsL]
theorem ni_fn (g : Fn) (l : List D) : (D.fn g l).noIds = D.noIdsL l := by simp only [D.noIds, D.noIdsL]
theorem ni_nilf : D.nilf.noIds = true := by simp only [D.noIds, D.noIdsL]
theorem ni_tup (l : List D) : (D.tup l).noIds = D.noIdsL l := by simp only [D.noIds, D.noIdsL]
theorem ni_niface : D.niface.noIds = true := by simp only [D.noIds, D.noIdsL]
theorem ni_iface (t : TypeId) (d : D) : (D.iface t d).noIds = d.noIds := by simp only [D.noIds, D.noIdsL]
theorem ni_nilL : D.noIdsL [] = true := by simp only [D.noIds, D.noIdsL]
theorem ni_consL (d : D) (l : List D) : D.noIdsL (d :: l) = (d.noIds && D.noIdsL l) := by simp only [D.noIds, D.noIdsL]

section
variable (ρ : List Nat) (env : Env) (t : Nat) (r : Env)
theorem fe_nil : fitsEnv ρ env [] = True := rfl
theorem fe_data (d : D) (h : d.noIds = true) : fitsEnv ρ env ((t, d) :: r) = (get env t = d ∧ fitsEnv ρ env r) := by
  simp [fitsEnv, D.bnd_noIds _ d h, D.ren_noIds _ d h]
theorem fe_ref (b o n z : Nat) : fitsEnv ρ env ((t, .ref b o n z) :: r) = ((b < ρ.length ∧ get env t = .ref (ρ.getD b 0) o n z) ∧ fitsEnv ρ env r) := by
  simp [fitsEnv, D.bnd, D.ren]
theorem fe_ptr (b o : Nat) : fitsEnv ρ env ((t, .ptr b o) :: r) = ((b < ρ.length ∧ get env t = .ptr (ρ.getD b 0) o) ∧ fitsEnv ρ env r) := by
  simp [fitsEnv, D.bnd, D.ren]
end

section
variable (ρ ρ' : List Nat) (H G : AHeap) (x : Nat)
theorem fh_nil : fitsHeap ρ H [] [] = True := rfl
theorem fh_dead : fitsHeap ρ H (x :: ρ') (.dead :: G) = fitsHeap ρ H ρ' G := by simp [fitsHeap]
theorem fh_live (cs : List D) (h : D.noIdsL cs = true) : fitsHeap ρ H (x :: ρ') (.live cs :: G) = (H[x]? = some (.live cs) ∧ fitsHeap ρ H ρ' G) := by
  have h1 : cs.all (D.bnd ρ.length) = true := by rw [← D.bndL_eq]; exact D.bndL_noIds _ _ h
  have h2 : cs.map (D.ren ρ) = cs := by rw [← D.renL_eq]; exact D.renL_noIds _ _ h
  simp [fitsHeap, bndBlk, renBlk, h2, -List.all_eq_true, h1]
theorem fh_froz (cs : List D) (h : D.noIdsL cs = true) : fitsHeap ρ H (x :: ρ') (.froz cs :: G) = (H[x]? = some (.froz cs) ∧ fitsHeap ρ H ρ' G) := by
  have h1 : cs.all (D.bnd ρ.length) = true := by rw [← D.bndL_eq]; exact D.bndL_noIds _ _ h
  have h2 : cs.map (D.ren ρ) = cs := by rw [← D.renL_eq]; exact D.renL_noIds _ _ h
  simp [fitsHeap, bndBlk, renBlk, h2, -List.all_eq_true, h1]
theorem fh_live' (cs : List D) : fitsHeap ρ H (x :: ρ') (.live cs :: G) = ((cs.all (D.bnd ρ.length) = true ∧ H[x]? = some (.live (cs.map (D.ren ρ)))) ∧ fitsHeap ρ H ρ' G) := rfl
end

/-- What is told at a round's head, by which of the blocks stand for which. -/
theorem fitsR {n0 : Nat} (ρ : List Nat) {env : Env} {H : AHeap} {E : Env} {G : AHeap} (h1 : fitsEnv ρ env E) (h2 : fitsHeap ρ H ρ G) (h3 : (liveIds ρ G).Nodup) (h4 : ρ.take n0 = List.range n0) : Fits n0 env H E G :=
  .ren ρ env H E G h1 h2 h3 h4

/-- Cell by cell. -/
def Subs (H : AHeap) : List D → List D → Prop
  | [], [] => True
  | x :: xs, y :: ys => Sub H x y ∧ Subs H xs ys
  | _, _ => False

theorem Subs.refl {H : AHeap} : ∀ {l : List D}, D.noIdsL l = true → Subs H l l
  | [], _ => trivial
  | d :: l, h => by
    simp only [D.noIdsL, Bool.and_eq_true] at h
    exact ⟨Sub.refl h.1, Subs.refl h.2⟩

theorem Subs.get {H : AHeap} : ∀ {xs ys : List D}, Subs H xs ys → xs.length = ys.length ∧ ∀ (i : Nat) (x y : D), xs[i]? = some x → ys[i]? = some y → Sub H x y
  | [], [], _ => ⟨rfl, fun i x y h => by simp at h⟩
  | x :: xs, y :: ys, h => by
    obtain ⟨h1, h2⟩ := Subs.get h.2
    refine ⟨by simp [h1], fun i a b ha hb => ?_⟩
    cases i with
    | zero => simp at ha hb; subst ha; subst hb; exact h.1
    | succ i => exact h2 i a b (by simpa using ha) (by simpa using hb)
  | [], _ :: _, h => h.elim
  | _ :: _, [], h => h.elim

theorem noIds_of_mem {l : List D} (h : ∀ d, d ∈ l → d.noIds = true) : D.noIdsL l = true := by
  rw [D.noIdsL_eq, List.all_eq_true]; exact h

/-- A slice of a block for good is data. -/
theorem Sub.sl {H : AHeap} {b o len sz : Nat} {cs es : List D} (hb : H[b]? = some (.froz cs)) (h1 : es.length = len) (h2 : ∀ e, e ∈ es → e.cells.length = sz) (h3 : o + len * sz ≤ cs.length)
    (h4 : Subs H ((cs.drop o).take (len * sz)) (es.flatMap D.cells)) : Sub H (.ref b o len sz) (.sl sz es false) := by
  subst h1
  obtain ⟨h5, h6⟩ := h4.get
  have cell : ∀ (i j : Nat) (e d : D), es[i]? = some e → e.cells[j]? = some d → i * sz + j < es.length * sz ∧ ∃ c, cs[o + (i * sz + j)]? = some c ∧ Sub H c d := fun i j e d he hd => by
    have h7 := flat_of sz es h2 i j e d he hd
    have h8 : i * sz + j < es.length * sz := by
      have := (List.getElem?_eq_some_iff.1 h7).1
      rwa [flat_length sz es h2] at this
    have h9 : o + (i * sz + j) < cs.length := by omega
    refine ⟨h8, cs[o + (i * sz + j)], List.getElem?_eq_getElem h9, h6 (i * sz + j) _ d ?_ h7⟩
    rw [List.getElem?_take_of_lt h8, List.getElem?_drop]
    exact List.getElem?_eq_getElem h9
  constructor
  · simp only [D.noIds]
    refine noIds_of_mem fun e he => ?_
    obtain ⟨i, hi⟩ := List.getElem?_of_mem he
    have hall : ∀ d, d ∈ e.cells → d.noIds = true := fun d hd => by
      obtain ⟨j, hj⟩ := List.getElem?_of_mem hd
      obtain ⟨_, c, _, hs⟩ := cell i j e d hi hj
      exact hs.1
    cases e <;> first | rfl | (simp only [D.noIds]; exact noIds_of_mem hall) | exact hall _ (List.mem_singleton.2 rfl)
  · intro w S β v hI hr
    generalize hL : es.length = L at hr
    cases hr with
    | refEmpty b o sz a =>
      have : es = [] := List.eq_nil_of_length_eq_zero hL
      subst this
      cases a with
      | none => exact .slNone _ _
      | some ad => exact .sl sz [] false ad 0 (fun _ => default) (Nat.le_refl _) (Nat.zero_le _) (fun h => by cases h) (fun e h => by simp at h) (fun i h => by simp at h) (fun i e j d h => by simp at h)
    | ref b o len sz blk off cap k1 k2 k3 T n k4 k5 =>
      subst hL
      rcases hI.froz b cs hb with ⟨_, k6⟩ | ⟨blk', off', vs, T', fr, k6, k7, k8⟩
      · unfold Bk at k1; rw [k6] at k1; cases k1
      · unfold Bk at k1 k6; rw [k6] at k1; cases k1
        have hcell : ∀ i, w.cell? (Addr.add ⟨blk, off + o, none⟩ i) = vs[off + o + i]? := fun i => by
          by_cases e : i = 0
          · subst e; simp [World.cell?, Addr.add, k8.heap]
          · simp [World.cell?, Addr.add, e, k8.heap]
        have hget : ∀ i, i < es.length * sz → ∃ v, vs[off + (o + i)]? = some v := fun i hi => by
          have : o + i < cs.length := by omega
          obtain ⟨v, h7, _⟩ := k8.cell (o + i) _ (List.getElem?_eq_getElem this)
          exact ⟨v, h7⟩
        refine .sl sz es false ⟨blk, off + o, none⟩ cap (fun i => vs.getD (off + (o + i)) undef) k2 k3 (fun h => by cases h) h2 (fun i hi => ?_) (fun i e j d he hd => ?_)
        · obtain ⟨v, hv⟩ := hget i hi
          refine ⟨k7, ?_, ?_⟩
          · rw [hcell, Nat.add_assoc, hv]; simp [Array.getD_eq_getD_getElem?, hv]
          · simp only [Array.getD_eq_getD_getElem?, hv, Option.getD_some]
            exact k8.one (o + i) v (by omega) hv
        · obtain ⟨h8, c, hc, hs⟩ := cell i j e d he hd
          obtain ⟨v, hv, hrel⟩ := k8.cell _ c hc
          simp only [Array.getD_eq_getD_getElem?, hv, Option.getD_some]
          exact hs.2 w S β v hI hrel

/-- A slice of bytes, of integers, of what stands in one cell. -/
theorem Sub.sl1 {H : AHeap} {b o len : Nat} {cs es : List D} (hb : H[b]? = some (.froz cs)) (h1 : es.length = len) (h2 : ∀ e, e ∈ es → e.cells = [e]) (h3 : o + len ≤ cs.length)
    (h4 : (cs.drop o).take len = es) (h5 : D.noIdsL es = true) : Sub H (.ref b o len 1) (.sl 1 es false) := by
  have hf : es.flatMap D.cells = es := by
    clear h1 h4 h5
    induction es with
    | nil => rfl
    | cons e es ih => simp [h2 e (by simp), ih (fun e he => h2 e (by simp [he]))]
  refine Sub.sl hb h1 (fun e he => by rw [h2 e he]; rfl) (by omega) ?_
  rw [hf, Nat.mul_one, h4]
  exact Subs.refl h5

theorem Sub.agg {H : AHeap} {xs ys : List D} (h : Subs H xs ys) : Sub H (.agg xs) (.agg ys) := by
  obtain ⟨h1, h2⟩ := h.get
  constructor
  · simp only [D.noIds]
    refine noIds_of_mem fun y hy => ?_
    obtain ⟨i, hi⟩ := List.getElem?_of_mem hy
    have hlt : i < xs.length := by rw [h1]; exact (List.getElem?_eq_some_iff.1 hi).1
    exact (h2 i _ y (List.getElem?_eq_getElem hlt) hi).1
  · intro w S β v hI hr
    cases hr with
    | agg _ vs k1 k0 k2 =>
      refine .agg ys vs (by rw [k1, h1]) k0 fun i d v hd hv => ?_
      have hlt : i < xs.length := by rw [h1]; exact (List.getElem?_eq_some_iff.1 hd).1
      exact (h2 i _ d (List.getElem?_eq_getElem hlt) hd).2 w S β v hI (k2 i _ v (List.getElem?_eq_getElem hlt) hv)

theorem Sub.tup {H : AHeap} {xs ys : List D} (h : Subs H xs ys) : Sub H (.tup xs) (.tup ys) := by
  obtain ⟨h1, h2⟩ := h.get
  constructor
  · simp only [D.noIds]
    refine noIds_of_mem fun y hy => ?_
    obtain ⟨i, hi⟩ := List.getElem?_of_mem hy
    have hlt : i < xs.length := by rw [h1]; exact (List.getElem?_eq_some_iff.1 hi).1
    exact (h2 i _ y (List.getElem?_eq_getElem hlt) hi).1
  · intro w S β v hI hr
    cases hr with
    | tup _ vs k1 k2 =>
      refine .tup ys vs (by rw [k1, h1]) fun i d v hd hv => ?_
      have hlt : i < xs.length := by rw [h1]; exact (List.getElem?_eq_some_iff.1 hd).1
      exact (h2 i _ d (List.getElem?_eq_getElem hlt) hd).2 w S β v hI (k2 i _ v (List.getElem?_eq_getElem hlt) hv)

/-- The nil slice is an empty one. -/
theorem Sub.nil {H : AHeap} (sz : Nat) (t : Bool) : Sub H .nil (.sl sz [] t) := by
  refine ⟨rfl, fun w S β v hI hr => ?_⟩
  cases hr
  exact .slNone _ _

/-- What is told of room is no more than needed. -/
theorem Sub.loose {H : AHeap} {sz : Nat} {es : List D} {t : Bool} (h : D.noIdsL es = true) : Sub H (.sl sz es t) (.sl sz es false) := by
  refine ⟨h, fun w S β v hI hr => ?_⟩
  cases hr with
  | slNone => exact .slNone _ _
  | sl sz es t ad cap vf h1 h2 h3 h4 h5 h6 => exact .sl sz es false ad cap vf h1 h2 (fun h => by cases h) h4 h5 h6

theorem Sub.of_eq {H : AHeap} {r d : D} (h : r = d) (hn : d.noIds = true) : Sub H r d := by subst h; exact Sub.refl hn
theorem Sub.bool {H : AHeap} {a b : Bool} (h : a = b) : Sub H (.bool a) (.bool b) := h ▸ Sub.refl (ni_bool _)
theorem Sub.int {H : AHeap} {k : IntKind} {a b : Int} (h : a = b) : Sub H (.int k a) (.int k b) := h ▸ Sub.refl (ni_int _ _)
theorem Sub.str {H : AHeap} {a b : List UInt8} (h : a = b) : Sub H (.str a) (.str b) := h ▸ Sub.refl (ni_str _)

theorem fz_live (cs : List D) : Blk.fz (.live cs) = .froz cs := rfl
theorem fz_froz (cs : List D) : Blk.fz (.froz cs) = .froz cs := rfl

theorem min_i8 : IntKind.i8.min = -128 := rfl
theorem max_i8 : IntKind.i8.max = 127 := rfl
theorem bits_i8 : IntKind.i8.bits = 8 := rfl
theorem min_i16 : IntKind.i16.min = -32768 := rfl
theorem max_i16 : IntKind.i16.max = 32767 := rfl
theorem bits_i16 : IntKind.i16.bits = 16 := rfl
theorem min_i32 : IntKind.i32.min = -2147483648 := rfl
theorem max_i32 : IntKind.i32.max = 2147483647 := rfl
theorem bits_i32 : IntKind.i32.bits = 32 := rfl
theorem min_i64 : IntKind.i64.min = -9223372036854775808 := rfl
theorem max_i64 : IntKind.i64.max = 9223372036854775807 := rfl
theorem bits_i64 : IntKind.i64.bits = 64 := rfl
theorem min_u8 : IntKind.u8.min = 0 := rfl
theorem max_u8 : IntKind.u8.max = 255 := rfl
theorem bits_u8 : IntKind.u8.bits = 8 := rfl
theorem min_u16 : IntKind.u16.min = 0 := rfl
theorem max_u16 : IntKind.u16.max = 65535 := rfl
theorem bits_u16 : IntKind.u16.bits = 16 := rfl
theorem min_u32 : IntKind.u32.min = 0 := rfl
theorem max_u32 : IntKind.u32.max = 4294967295 := rfl
theorem bits_u32 : IntKind.u32.bits = 32 := rfl
theorem min_u64 : IntKind.u64.min = 0 := rfl
theorem max_u64 : IntKind.u64.max = 18446744073709551615 := rfl
theorem bits_u64 : IntKind.u64.bits = 64 := rfl

/-- The operations on known values, one lemma each: nothing is unfolded ahead of its operands. -/
theorem aBin_ii (τ : Ty) (op : BinOp) (t : TypeId) (k k' : IntKind) (a b : Int) (H : AHeap) : aBin τ op t (.int k a) (.int k' b) H = aInt op k a k' b H := rfl
theorem aBin_ss (τ : Ty) (op : BinOp) (t : TypeId) (a b : List UInt8) (H : AHeap) : aBin τ op t (.str a) (.str b) H = aStr op a b H := rfl
theorem aBin_be (τ : Ty) (t : TypeId) (a b : Bool) (H : AHeap) : aBin τ .eql t (.bool a) (.bool b) H = ⟨(τ t).td = .bool, .bool (a == b), H⟩ := rfl
theorem aBin_bn (τ : Ty) (t : TypeId) (a b : Bool) (H : AHeap) : aBin τ .neq t (.bool a) (.bool b) H = ⟨(τ t).td = .bool, .bool (!(a == b)), H⟩ := rfl
theorem aBin_ae (τ : Ty) (t : TypeId) (xs ys : List D) (H : AHeap) : aBin τ .eql t (.agg xs) (.agg ys) H = ⟨∃ fs, (τ t).td = .struct fs ∧ (τ t).eq = true ∧ flatTD τ fs 0 xs = true ∧ flatTD τ fs 0 ys = true, .bool (eqCells xs ys), H⟩ := rfl
theorem aBin_an (τ : Ty) (t : TypeId) (xs ys : List D) (H : AHeap) : aBin τ .neq t (.agg xs) (.agg ys) H = ⟨∃ fs, (τ t).td = .struct fs ∧ (τ t).eq = true ∧ flatTD τ fs 0 xs = true ∧ flatTD τ fs 0 ys = true, .bool (!eqCells xs ys), H⟩ := rfl
theorem aUn_not (b : Bool) (H : AHeap) : aUn .not (.bool b) H = ⟨True, .bool (!b), H⟩ := rfl
theorem aUn_i64 (n : Int) (H : AHeap) : aUn .neg (.int .i64 n) H = ⟨True, .int .i64 (IntKind.i64.wrap (0 - n)), H⟩ := rfl

end Go.Proofs.Ytbabdalfkmdlhaa
