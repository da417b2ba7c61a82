/- The abstract operations are sound, fourth part: indexes, lengths, cuts. Of no program. -/
import Derived.Test.YtbabdalfkmdlhaaA6
import Derived.Lib.Strings
namespace Go.Proofs.Ytbabdalfkmdlhaa
set_option linter.all false
section
variable {P : Program} {τ : Ty} {w : World} {S : Nat → Prop} {β : Bmap} {H : AHeap}

theorem byteD_rel (b : UInt8) : Rel w S β (byteD b) (.int .u8 b.toNat) := by
  have := b.toNat_lt
  exact .int .u8 _ (by simp [IntKind.min, IntKind.signed]) (by simp [IntKind.max, IntKind.signed, IntKind.bits]; omega)

theorem index_ok (hT : TyOk P τ) (hI : AInv w S β H) {t : TypeId} {x ix : D} {v vi : Value} (hx : Rel w S β x v) (hi : Rel w S β ix vi) : OpOk P w S β H (Instr.index t v vi) (aIndex τ t x ix H) := by
  cases hi <;> simp only [aIndex] <;> first | exact OpOk.bad | skip
  rename_i k i hi1 hi2
  cases hx <;> simp only <;> first | exact OpOk.bad | skip
  · rename_i s hs
    refine OpOk.same hI fun ho => ?_
    obtain ⟨htd, p0, p1⟩ := ho
    have hu := (hT t (by rw [htd]; rfl)).str htd
    have hlt : i.toNat < s.length := by omega
    refine ⟨.int .u8 (s.getD i.toNat 0).toNat, ?_, byteD_rel _⟩
    have hg : (⟨⟨s⟩⟩ : ByteArray)[i.toNat]? = some (s.getD i.toNat 0) := by
      rw [ByteArray.getElem?_lt' _ _ (by simpa [ByteArray.size] using hlt)]
      simp [List.getD, List.getElem?_eq_getElem hlt]
      rfl
    simp [Instr.index, asIntOf, run_underlying hu, p0, hg]
  · rename_i cs vs h1 h0 h2
    cases htd : (τ t).td <;> simp only <;> first | exact OpOk.bad | skip
    rename_i n e
    have hu := (hT t (by rw [htd]; rfl)).array htd
    refine OpOk.same hI fun ho => ?_
    obtain ⟨p0, p1, hp⟩ := ho
    have hs := (hT e hp.1).run_sizeOf w
    obtain ⟨v, h3, h4⟩ := part_ok (P := P) hT (.agg cs vs h1 h0 h2) hp
    exact ⟨v, by simp [Instr.index, asIntOf, run_underlying hu, p0, p1, hs, h3], h4⟩

theorem goInt_rel {n : Nat} (h : n ≤ maxLen) : Rel w S β (.int .i64 n) (goInt n) := by
  unfold maxLen at h
  exact .int .i64 _ (by simp [IntKind.min, IntKind.signed, IntKind.bits] <;> omega) (by simp [IntKind.max, IntKind.signed, IntKind.bits] <;> omega)

theorem len_ok (hT : TyOk P τ) (hI : AInv w S β H) {t ty : TypeId} {x : D} {v : Value} (hx : Rel w S β x v) : OpOk P w S β H (Builtin.len_ #[t] ty #[v]) (aLen τ t x H) := by
  cases htd : (τ t).td <;> simp only [aLen, htd] <;> first | exact OpOk.bad | skip
  · have hu := (hT t (by rw [htd]; rfl)).str htd
    cases hx <;> simp only <;> first | exact OpOk.bad | skip
    rename_i s hs
    refine OpOk.same hI fun _ => ⟨_, ?_, goInt_rel hs⟩
    have hsz : (⟨⟨s⟩⟩ : ByteArray).size = s.length := rfl
    simp [Builtin.len_, run_underlying hu, hsz]
  · have hu := (hT t (by rw [htd]; rfl)).slice htd
    cases hx <;> simp only <;> first | exact OpOk.bad | skip
    · refine OpOk.same hI fun _ => ⟨_, ?_, goInt_rel (Nat.zero_le _)⟩
      simp [Builtin.len_, run_underlying hu]
    · refine OpOk.same hI fun _ => ⟨_, ?_, goInt_rel (Nat.zero_le _)⟩
      simp [Builtin.len_, run_underlying hu]
    · rename_i sz es tight ad cap vf h1 h2 h3 h4 h5 h6
      refine OpOk.same hI fun _ => ⟨_, ?_, goInt_rel (Nat.le_trans h1 h2)⟩
      simp [Builtin.len_, run_underlying hu]
    · rename_i b o len sz blk off cap h1 h2 h3 T n h4 h5
      refine OpOk.same hI fun _ => ⟨_, ?_, goInt_rel (Nat.le_trans h2 h3)⟩
      simp [Builtin.len_, run_underlying hu]
    · refine OpOk.same hI fun _ => ⟨_, ?_, goInt_rel (Nat.zero_le _)⟩
      simp [Builtin.len_, run_underlying hu]
  · have hu := (hT t (by rw [htd]; rfl)).array htd
    refine OpOk.same hI fun ho => ⟨_, ?_, goInt_rel ho⟩
    simp [Builtin.len_, run_underlying hu]

theorem max_ok : ∀ (ds : List D) (vs : List Value) (x : D) (v : Value), Rel w S β x v → vs.length = ds.length → (∀ (i : Nat) (d : D) (v : Value), ds[i]? = some d → vs[i]? = some v → Rel w S β d v) →
    ∀ d, aMax x ds = some d → ∃ r, (vs.foldlM Builtin.max2 v).run P w = .ok r w ∧ Rel w S β d r
  | [], [], x, v, hx, _, _, d, h => by
    cases hx with
    | int k a h1 h2 =>
      simp only [aMax, Option.some.injEq] at h
      subst h
      exact ⟨_, rfl, .int _ _ h1 h2⟩
    | _ => simp [aMax] at h
  | y :: ds, u :: vs, x, v, hx, hl, hr, d, h => by
    have hy := hr 0 y u rfl rfl
    cases hx with
    | int k a h1 h2 =>
      cases hy with
      | int k' b h3 h4 =>
        simp only [aMax] at h
        split at h
        · rename_i hk
          subst hk
          have := max_ok ds vs (.int k (if b > a then b else a)) (.int k (if b > a then b else a)) (.int _ _ (by split <;> assumption) (by split <;> assumption)) (by simpa using hl) (fun i d v h5 h6 => hr (i + 1) d v (by simpa using h5) (by simpa using h6)) d h
          obtain ⟨r, h5, h6⟩ := this
          exact ⟨r, by simpa [List.foldlM, Builtin.max2] using h5, h6⟩
        · cases h
      | _ => simp [aMax] at h
    | _ => simp [aMax] at h
  | [], _ :: _, _, _, _, hl, _, _, _ => by simp at hl
  | _ :: _, [], _, _, _, hl, _, _, _ => by simp at hl

theorem min_ok : ∀ (ds : List D) (vs : List Value) (x : D) (v : Value), Rel w S β x v → vs.length = ds.length → (∀ (i : Nat) (d : D) (v : Value), ds[i]? = some d → vs[i]? = some v → Rel w S β d v) →
    ∀ d, aMin x ds = some d → ∃ r, (vs.foldlM Builtin.min2 v).run P w = .ok r w ∧ Rel w S β d r
  | [], [], x, v, hx, _, _, d, h => by
    cases hx with
    | int k a h1 h2 =>
      simp only [aMin, Option.some.injEq] at h
      subst h
      exact ⟨_, rfl, .int _ _ h1 h2⟩
    | _ => simp [aMin] at h
  | y :: ds, u :: vs, x, v, hx, hl, hr, d, h => by
    have hy := hr 0 y u rfl rfl
    cases hx with
    | int k a h1 h2 =>
      cases hy with
      | int k' b h3 h4 =>
        simp only [aMin] at h
        split at h
        · rename_i hk
          subst hk
          have := min_ok ds vs (.int k (if b < a then b else a)) (.int k (if b < a then b else a)) (.int _ _ (by split <;> assumption) (by split <;> assumption)) (by simpa using hl) (fun i d v h5 h6 => hr (i + 1) d v (by simpa using h5) (by simpa using h6)) d h
          obtain ⟨r, h5, h6⟩ := this
          exact ⟨r, by simpa [List.foldlM, Builtin.min2] using h5, h6⟩
        · cases h
      | _ => simp [aMin] at h
    | _ => simp [aMin] at h
  | [], _ :: _, _, _, _, hl, _, _, _ => by simp at hl
  | _ :: _, [], _, _, _, hl, _, _, _ => by simp at hl

/-- An operand that may be left out: a number. -/
inductive OptRel (w : World) (S : Nat → Prop) (β : Bmap) : Option D → Option Value → Prop
  | none : OptRel w S β none none
  | some (d : D) (v : Value) (h : Rel w S β d v) : OptRel w S β (some d) (some v)

inductive OInt : Option Int → Option Value → Prop
  | none : OInt none none
  | some (k : IntKind) (n : Int) : OInt (some n) (some (.int k n))

theorem OptRel.int {o : Option D} {v : Option Value} (h : OptRel w S β o v) {x : Option Int} (e : asNat? o = Option.some x) : OInt x v ∧ o.isNone = x.isNone := by
  cases h with
  | none => simp [asNat?] at e; subst e; exact ⟨.none, rfl⟩
  | some d v h => cases h <;> simp [asNat?] at e; subst e; exact ⟨.some _ _, rfl⟩

theorem sliceBounds_ok {isS : Bool} {len cap : Nat} {l h m : Option Int} {vl vh vm : Option Value} (hl : OInt l vl) (hh : OInt h vh) (hm : OInt m vm)
    (h0 : 0 ≤ l.getD 0) (h1 : l.getD 0 ≤ h.getD len) (h2 : h.getD len ≤ m.getD cap) (h3 : m.getD cap ≤ cap) (h4 : h.isNone = true → m.isNone = true) :
    (Instr.sliceBounds isS len cap vl vh vm).run P w = .ok ((l.getD 0).toNat, (h.getD len).toNat, (m.getD cap).toNat) w := by
  have sb : ∀ (k : IntKind) (n : Int) (y : Nat) (c : BoundsCode), 0 ≤ n → n ≤ y → (Instr.sliceBound (.int k n) y c).run P w = .ok n.toNat w := fun k n y c a b => by
    simp [Instr.sliceBound, asIntOf, a, b]
  cases hm with
  | none =>
    simp only [Option.getD_none] at h2 h3
    cases hh with
    | none =>
      simp only [Option.getD_none] at h1 h2
      cases hl with
      | none => simp [Instr.sliceBounds]
      | some kl nl => simp only [Option.getD_some] at h0 h1; simp [Instr.sliceBounds, sb _ _ _ _ h0 h1]
    | some kh nh =>
      simp only [Option.getD_some] at h1 h2
      cases hl with
      | none => simp only [Option.getD_none] at h0 h1; simp [Instr.sliceBounds, sb _ _ _ _ h1 h2]
      | some kl nl =>
        simp only [Option.getD_some] at h0 h1
        simp [Instr.sliceBounds, sb _ nh _ _ (by omega) h2, sb _ nl nh.toNat _ h0 (by omega)]
  | some km nm =>
    cases hh with
    | none => simp at h4
    | some kh nh =>
      simp only [Option.getD_some] at h1 h2 h3
      cases hl with
      | none =>
        simp only [Option.getD_none] at h0 h1
        simp [Instr.sliceBounds, sb _ nm _ _ (by omega) h3, sb _ nh nm.toNat _ h1 (by omega)]
      | some kl nl =>
        simp only [Option.getD_some] at h0 h1
        simp [Instr.sliceBounds, sb _ nm _ _ (by omega) h3, sb _ nh nm.toNat _ (by omega) (by omega), sb _ nl nh.toNat _ h0 (by omega)]

theorem cut_sl (sz : Nat) (es : List D) (tight tight' : Bool) {v : Value} (hx : Rel w S β (.sl sz es tight) v) (l h : Nat) (m : Nat → Nat) (hl : l ≤ h) (hh : h ≤ es.length) (hm : ∀ cap, es.length ≤ cap → h ≤ m cap ∧ m cap ≤ cap)
    (ht : tight' = true → ∀ cap, es.length ≤ cap → (tight = true → cap = es.length) → m cap = h) :
    ∃ a cap, v = .slice a es.length cap ∧ es.length ≤ cap ∧ Rel w S β (.sl sz ((es.take h).drop l) tight') (.slice (if m cap = l then a else a.map (·.add (l * sz))) (h - l) (m cap - l)) := by
  have hlen : ((es.take h).drop l).length = h - l := by simp; omega
  cases hx with
  | slNone =>
    simp only [List.length_nil] at *
    have h1 := hm 0 (by omega)
    refine ⟨none, 0, rfl, Nat.le_refl _, ?_⟩
    have : l = 0 := by omega
    subst this
    have : h = 0 := by omega
    subst this
    have : m 0 = 0 := by omega
    rw [this]
    simpa using Rel.slNone sz tight'
  | sl _ _ _ ad cap vf h1 h2 h3 h4 h5 h6 =>
    refine ⟨some ad, cap, rfl, h1, ?_⟩
    have hm' := hm cap h1
    have mem : ∀ e, e ∈ (es.take h).drop l → e ∈ es := fun e he => List.mem_of_mem_take (List.mem_of_mem_drop he)
    have get : ∀ (i : Nat) (e : D), ((es.take h).drop l)[i]? = some e → es[l + i]? = some e := fun i e he => by
      rw [List.getElem?_drop, List.getElem?_take] at he
      split at he
      · exact he
      · cases he
    have tt : tight' = true → m cap - l = ((es.take h).drop l).length := fun e => by rw [hlen, ht e cap h1 h3]
    rw [← hlen]
    split
    · rename_i hml
      have he : (es.take h).drop l = [] := List.eq_nil_of_length_eq_zero (by omega)
      have := Rel.sl (w := w) (S := S) (β := β) sz ((es.take h).drop l) tight' ad (m cap - l) vf (by omega) (by omega) tt (fun e he => h4 e (mem e he))
        (fun i hi => by rw [he] at hi; simp at hi) (fun i e j d he' _ => by rw [he] at he'; simp at he')
      exact this
    · simp only [Option.map_some]
      refine Rel.sl (w := w) (S := S) (β := β) sz ((es.take h).drop l) tight' (ad.add (l * sz)) (m cap - l) (fun i => vf (l * sz + i)) (by omega) (by omega) tt (fun e he => h4 e (mem e he)) (fun i hi => ?_) (fun i e j d he hd => ?_)
      · rw [hlen] at hi
        have hb : l * sz + i < es.length * sz := by
          have h7 : (l + (h - l)) * sz ≤ es.length * sz := Nat.mul_le_mul_right _ (by omega)
          rw [Nat.add_mul] at h7
          omega
        have := h5 _ hb
        exact ⟨by rw [addr_block]; exact this.1, by rw [addr_add]; exact this.2.1, this.2.2⟩
      · have := h6 (l + i) e j d (get i e he) hd
        rw [Nat.add_mul, Nat.add_assoc] at this
        exact this

theorem slice_ok (hT : TyOk P τ) (hI : AInv w S β H) {t : TypeId} {x : D} {lo hi mx : Option D} {v : Value} {vl vh vm : Option Value} (hx : Rel w S β x v) (hlo : OptRel w S β lo vl) (hhi : OptRel w S β hi vh) (hmx : OptRel w S β mx vm) :
    OpOk P w S β H (Instr.sliceAt t v vl vh vm) (aSlice τ t x lo hi mx H) := by
  unfold aSlice
  cases e1 : asNat? lo with
  | none => exact OpOk.bad
  | some l =>
  cases e2 : asNat? hi with
  | none => exact OpOk.bad
  | some h =>
  cases e3 : asNat? mx with
  | none => exact OpOk.bad
  | some m =>
  obtain ⟨il, nl⟩ := hlo.int e1
  obtain ⟨ih, nh⟩ := hhi.int e2
  obtain ⟨im, nm⟩ := hmx.int e3
  cases x <;> simp only <;> first | exact OpOk.bad | skip
  · -- a string
    rename_i s
    cases hx with
    | str _ hs =>
    refine OpOk.same hI fun ho => ?_
    obtain ⟨htd, hmn, h0, h1, h2⟩ := ho
    have hu := (hT t (by rw [htd]; rfl)).str htd
    cases im with
    | some _ _ => rw [nm] at hmn; simp at hmn
    | none =>
    have hb := sliceBounds_ok (P := P) (w := w) (isS := false) (len := s.length) (cap := s.length) il ih .none h0 h1 (by simpa using h2) (by simp) (fun _ => rfl)
    refine ⟨.string ⟨⟨(s.take (h.getD s.length).toNat).drop (l.getD 0).toNat⟩⟩, ?_, .str _ ?_⟩
    · have hsz : (⟨⟨s⟩⟩ : ByteArray).size = s.length := rfl
      have hex : (⟨⟨s⟩⟩ : ByteArray).extract (l.getD 0).toNat (h.getD s.length).toNat = ⟨⟨(s.take (h.getD s.length).toNat).drop (l.getD 0).toNat⟩⟩ := by
        have := Lib.extract_data (⟨⟨s⟩⟩ : ByteArray) (l.getD 0).toNat (h.getD s.length).toNat
        have e : ∀ (b : ByteArray) (r : List UInt8), b.data.toList = r → b = ⟨⟨r⟩⟩ := fun ⟨⟨x⟩⟩ r h => by simp at h; rw [h]
        refine e _ _ ?_
        rw [this, List.drop_take]
      simp [Instr.sliceAt, Instr.slice, run_underlying hu, hsz, hb, hex]
    · simp; omega
  · -- nil
    cases hx with
    | nil =>
    refine OpOk.same hI fun ho => ?_
    obtain ⟨⟨e, htd, hke⟩, h0, h1, h2, h3⟩ := ho
    have hu := (hT t (by rw [htd]; rfl)).slice htd
    have hb := sliceBounds_ok (P := P) (w := w) (isS := true) (len := 0) (cap := 0) il ih im (by omega) (by simp; omega) (by simp; omega) (by simp; omega) (by rw [nh, nm] at h3; exact h3)
    refine ⟨.slice none 0 0, ?_, .nil⟩
    have e1 : (l.getD 0).toNat = 0 := by omega
    have e2 : (h.getD ((0 : Nat) : Int)).toNat = 0 := by simp; omega
    have e3 : (m.getD ((0 : Nat) : Int)).toNat = 0 := by simp; omega
    rw [e1, e2, e3] at hb
    simp [Instr.sliceAt, Instr.slice, run_underlying hu, hb, (hT e hke).run_sizeOf]
  · -- a slice for good
    rename_i sz es tight
    refine OpOk.same hI fun ho => ?_
    obtain ⟨⟨e, htd, hsz, hke⟩, h0, h1, h2, h3, h4⟩ := ho
    have hu := (hT t (by rw [htd]; rfl)).slice htd
    have hmc : ∀ cap, es.length ≤ cap → h.getD es.length ≤ m.getD cap ∧ m.getD cap ≤ cap := fun cap hc => by
      cases m with
      | none => simp only [Option.getD_none] at h2 h3 ⊢; omega
      | some mm => simp only [Option.getD_some] at h2 h3 ⊢; omega
    obtain ⟨a, cap, rfl, hc, hrel⟩ := cut_sl sz es tight (cutTight tight m h) hx (l.getD 0).toNat (h.getD es.length).toNat (fun cap => (m.getD cap).toNat) (by omega) (by omega)
      (fun cap hc => by have := hmc cap hc; omega)
      
      (fun ht cap hc htc => by
        cases m with
        | none =>
          cases h with
          | none => simp only [cutTight] at ht; simp [htc ht]
          | some hh => simp [cutTight] at ht
        | some mm =>
          cases h with
          | none => rw [nh, nm] at h4; simp at h4
          | some hh => simp [cutTight] at ht; simp [ht])
    have hb := sliceBounds_ok (P := P) (w := w) (isS := true) (len := es.length) (cap := cap) il ih im h0 h1 (hmc cap hc).1 (hmc cap hc).2 (by rw [nh, nm] at h4; exact h4)
    refine ⟨_, ?_, hrel⟩
    simp [Instr.sliceAt, Instr.slice, run_underlying hu, hb, (hT e hke).run_sizeOf, hsz]
  · -- a slice into a block
    rename_i b o len sz
    refine OpOk.same hI fun ho => ?_
    obtain ⟨⟨e, htd, hsz, hke⟩, h0, h1, h2, h3, h4⟩ := ho
    have hu := (hT t (by rw [htd]; rfl)).slice htd
    have hmc : ∀ cap : Nat, len ≤ cap → h.getD len ≤ m.getD cap ∧ m.getD cap ≤ cap := fun cap hc => by
      cases m with
      | none => simp only [Option.getD_none] at h2 h3 ⊢; omega
      | some mm => simp only [Option.getD_some] at h2 h3 ⊢; omega
    cases hx with
    | ref _ _ _ _ blk off cap g1 g2 g3 T n g4 g5 =>
      have hb := sliceBounds_ok (P := P) (w := w) (isS := true) (len := len) (cap := cap) il ih im h0 h1 (hmc cap g2).1 (hmc cap g2).2 (by rw [nh, nm] at h4; exact h4)
      have hm := hmc cap g2
      refine ⟨_, by simp [Instr.sliceAt, Instr.slice, run_underlying hu, hb, (hT e hke).run_sizeOf, hsz]; rfl, ?_⟩
      split
      · rename_i hml
        have e1 : (h.getD len).toNat - (l.getD 0).toNat = 0 := by omega
        have e2 : (m.getD cap).toNat - (l.getD 0).toNat = 0 := by omega
        rw [e1, e2]
        exact .refEmpty _ _ _ _
      · rw [addr_at, Nat.add_assoc]
        refine .ref b _ _ sz blk off _ g1 (by omega) (by omega) T n g4 ?_
        have h7 : ((m.getD cap).toNat - (l.getD 0).toNat) * sz + (l.getD 0).toNat * sz ≤ cap * sz := by
          rw [← Nat.add_mul]; exact Nat.mul_le_mul_right _ (by omega)
        omega
    | refEmpty _ _ _ a =>
      have hb := sliceBounds_ok (P := P) (w := w) (isS := true) (len := 0) (cap := 0) il ih im h0 h1 (hmc 0 (Nat.le_refl _)).1 (hmc 0 (Nat.le_refl _)).2 (by rw [nh, nm] at h4; exact h4)
      have hm := hmc 0 (Nat.le_refl _)
      have e1 : (l.getD 0).toNat = 0 := by omega
      have e2 : (h.getD ((0 : Nat) : Int)).toNat = 0 := by omega
      have e3 : (m.getD ((0 : Nat) : Int)).toNat = 0 := by omega
      rw [e1, e2, e3] at hb
      refine ⟨.slice a 0 0, by simp [Instr.sliceAt, Instr.slice, run_underlying hu, hb, (hT e hke).run_sizeOf], ?_⟩
      rw [e1, e2]
      exact .refEmpty _ _ _ _
  · -- an array in a block
    rename_i b o
    cases htd : (τ t).td <;> simp only <;> first | exact OpOk.bad | skip
    rename_i n e
    refine OpOk.same hI fun ho => ?_
    obtain ⟨h0, h1, h2, hmn, hn, hke, hpos, cs, hcs, hfit⟩ := ho
    have hu := (hT t (by rw [htd]; rfl)).array htd
    cases hx with
    | ptr _ _ blk off hk =>
    cases im with
    | some _ _ => rw [nm] at hmn; simp at hmn
    | none =>
    have hb := sliceBounds_ok (P := P) (w := w) (isS := false) (len := n) (cap := n) il ih .none h0 h1 (by simpa using h2) (by simp) (fun _ => rfl)
    simp only [Option.getD_none, Int.toNat_natCast] at hb
    refine ⟨_, by simp [Instr.sliceAt, Instr.sureAddr, run_underlying hu, hb, (hT e hke).run_sizeOf]; rfl, ?_⟩
    split
    · rename_i hml
      have e1 : (h.getD n).toNat - (l.getD 0).toNat = 0 := by omega
      have e2 : n - (l.getD 0).toNat = 0 := by omega
      rw [e1, e2]
      exact .refEmpty _ _ _ _
    · rw [addr_at, Nat.add_assoc]
      have hlast : cs.length - 1 < cs.length := by omega
      obtain ⟨v, hv, _⟩ := hI.cellsAt hcs hk (cs.length - 1) _ (List.getElem?_eq_getElem hlast)
      have hsh : ∃ T m, w.shape? blk = some (T, m) ∧ off + (cs.length - 1) < m := by
        unfold World.cell? at hv
        cases hh : w.heap[blk]? with
        | none => rw [hh] at hv; cases hv
        | some ob =>
          rw [hh] at hv
          cases ob <;> simp at hv
          rename_i c T fr
          refine ⟨T, c.size, by simp [World.shape?, hh], ?_⟩
          rcases Nat.lt_or_ge (off + (cs.length - 1)) c.size with h' | h'
          · exact h'
          · simp [Array.getElem?_eq_none h'] at hv
      obtain ⟨T, mm, hsh, hlt⟩ := hsh
      refine .ref b _ _ _ blk off _ hk (by omega) (by omega) T mm hsh ?_
      have h7 : (n - (l.getD 0).toNat) * (τ e).size + (l.getD 0).toNat * (τ e).size ≤ n * (τ e).size := by
        rw [← Nat.add_mul]; exact Nat.mul_le_mul_right _ (by omega)
      omega
end
end Go.Proofs.Ytbabdalfkmdlhaa
