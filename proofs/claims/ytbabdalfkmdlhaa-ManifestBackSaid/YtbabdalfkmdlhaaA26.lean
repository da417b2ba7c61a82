/- Calls of functions of data on blocks of one's own. Of no program. -/
import Derived.Test.YtbabdalfkmdlhaaA25
namespace Go.Proofs.Ytbabdalfkmdlhaa
set_option linter.all false

theorem maxLen_lit : maxLen = 9223372036854775807 := by decide

theorem one_int (k : IntKind) (n : Int) : (D.int k n).one = true := rfl
theorem one_bool (b : Bool) : (D.bool b).one = true := rfl
theorem one_str (s : List UInt8) : (D.str s).one = true := rfl
theorem one_nil : D.nil.one = true := rfl
theorem one_sl (z : Nat) (l : List D) (t : Bool) : (D.sl z l t).one = true := rfl
theorem one_ref (b o n z : Nat) : (D.ref b o n z).one = true := rfl
theorem one_cp (l : List D) : (D.cp l).one = true := rfl
theorem one_ptr (b o : Nat) : (D.ptr b o).one = true := rfl
theorem one_nilp : D.nilp.one = true := rfl
theorem one_fn (g : Fn) (l : List D) : (D.fn g l).one = true := rfl
theorem one_nilf : D.nilf.one = true := rfl
theorem one_niface : D.niface.one = true := rfl
theorem one_iface (t : TypeId) (d : D) : (D.iface t d).one = true := rfl

section
variable {P : Program} {τ : Ty} {f : Fit} {d : Drw} {all : List Oper} {k : List It} {Q : AQ} {rest : List Oper} {s : Nat} {env : Env} {dst : Option Tmp} {g : FuncId} {args pargs : List D} {H : AHeap} {z : List WR}

theorem an_go {ob : Prop} {v : D} {H' : AHeap} (h1 : ob) : an P τ f d all k Q rest s env dst ⟨ob, v, H'⟩ = ar P τ f d all k Q rest s (put env dst v) H' := propext ⟨fun h => h.2, fun h => ⟨h1, h⟩⟩
theorem tn_go {ob : Prop} {v : D} {H' : AHeap} {y : WR} (h1 : ob) : tn P τ f d all k Q rest s env dst ⟨ob, v, H'⟩ y z = tr P τ f d all k Q rest s (put env dst v) H' (y :: z) := propext ⟨fun h => h.2, fun h => ⟨h1, h⟩⟩

theorem Subs.nth {xs ys : List D} (h : Subs H xs ys) (i : Nat) (x y : D) (hx : xs[i]? = some x) (hy : ys[i]? = some y) : Sub H x y := h.get.2 i x y hx hy

/-- A call of a function of data, its arguments being told as data. -/
theorem callSub {x : D} (hF : PureF P g pargs x) (hs : Subs H args pargs) (h : ar P τ f d all k Q rest s (put env dst x) H) : acallS P τ f d all k Q rest s env dst g args H :=
  pcall_sub hF hs.get.1 hs.get.2 h

/-- Ahead of a call a block becomes one for good. -/
theorem callFroz (b : Nat) {cs : List D} (hb : H[b]? = some (.live cs)) (h : acallS P τ f d all k Q rest s env dst g args (H.set b (.froz cs))) : acallS P τ f d all k Q rest s env dst g args H :=
  acall_froz b hb h

/-- In an open order: on blocks for good. -/
theorem tcSub {x : D} (R : List Nat) (hF : PureF P g pargs x) (hs : ∀ H' : AHeap, (∀ b, b ∈ R → H'[b]? = H[b]?) → Subs H' args pargs) (h : tr P τ f d all k Q rest s (put env dst x) H ((R, []) :: z)) : tcS P τ f d all k Q rest s env dst g args H z :=
  ⟨R, [], x, H, ⟨fun H' _ he => pcall_sub hF (hs H' fun b hb => he b (.inl hb)).get.1 (hs H' fun b hb => he b (.inl hb)).get.2 ⟨rfl, rfl, fun b hb => absurd hb (by simp), fun b _ => rfl⟩, rfl, fun b _ => rfl⟩, h⟩

/-- In an open order: a block of one's own becomes one for good, and is read. -/
theorem tcFroz {x : D} (b : Nat) {cs : List D} (hb : H[b]? = some (.live cs)) (hF : PureF P g pargs x) (hs : ∀ H' : AHeap, H'[b]? = some (.froz cs) → Subs H' args pargs)
    (h : tr P τ f d all k Q rest s (put env dst x) (H.set b (.froz cs)) (([], [b]) :: z)) : tcS P τ f d all k Q rest s env dst g args H z := by
  have hlt : b < H.length := (List.getElem?_eq_some_iff.1 hb).1
  refine ⟨[], [b], x, H.set b (.froz cs), ⟨fun H' hl he => ?_, by simp, fun c hc => ?_⟩, h⟩
  · have hb' : H'[b]? = some (.live cs) := by rw [he b (.inr (by simp))]; exact hb
    have hself : (H'.set b (.froz cs))[b]? = some (.froz cs) := List.getElem?_set_self (by omega)
    refine acall_froz b hb' (pcall_sub hF (hs _ hself).get.1 (hs _ hself).get.2 ⟨rfl, by simp, fun c hc => ?_, fun c hc => ?_⟩)
    · have : c = b := by simpa using hc
      subst this
      rw [hself, List.getElem?_set_self hlt]
    · exact List.getElem?_set_ne (fun e => hc (by simp [e]))
  · exact List.getElem?_set_ne (fun e => hc (by simp [e]))

theorem Sub.list {α : Type} {b o len sz : Nat} {cs : List D} (l : List α) (f : α → D) (hb : H[b]? = some (.froz cs)) (h1 : l.length = len) (h2 : ∀ x, x ∈ l → (f x).cells.length = sz) (h3 : o + len * sz ≤ cs.length)
    (h4 : (cs.drop o).take (len * sz) = (l.map f).flatMap D.cells) (h5 : ∀ x, x ∈ l → D.noIdsL (f x).cells = true) : Sub H (.ref b o len sz) (.sl sz (l.map f) false) := by
  refine Sub.sl hb (by simpa using h1) (fun e he => ?_) h3 ?_
  · obtain ⟨x, hx, rfl⟩ := List.mem_map.1 he
    exact h2 x hx
  · rw [h4]
    refine Subs.refl (noIds_of_mem fun d hd => ?_)
    obtain ⟨e, he, hd⟩ := List.mem_flatMap.1 hd
    obtain ⟨x, hx, rfl⟩ := List.mem_map.1 he
    have := h5 x hx
    rw [D.noIdsL_eq, List.all_eq_true] at this
    exact this d hd

theorem Sub.loose' {sz : Nat} {es : List D} {t : Bool} (h : D.noIdsL es = true) : Sub H (.sl sz es t) (.sl sz es false) := Sub.loose h

end
end Go.Proofs.Ytbabdalfkmdlhaa
