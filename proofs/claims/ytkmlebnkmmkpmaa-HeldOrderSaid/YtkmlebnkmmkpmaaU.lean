/- The data types of this translation, and the rows of its laws, from functions of data. PRINTED by a program of this session (wip/tools/gendata.py). -/
import Derived.Test.YtkmlebnkmmkpmaaT
import Derived.Test.YtkmlebnkmmkpmaaL4
import Derived.Test.YtkmlebnkmmkpmaaRows
namespace Go.Proofs.Ytkmlebnkmmkpmaa
set_option linter.all false
open Go.ChangeShapes Go.WideShapes Go.ChangeAt Go.RowKit

structure GRec where
  at' : Int
  time : Int
  data : (List UInt8)
def GRec.cells (x : GRec) : List D := [.int .i64 x.at', .int .i64 x.time, .str x.data]
def GRec.d (x : GRec) : D := .agg [.int .i64 x.at', .int .i64 x.time, .str x.data]
def GRec.ok (x : GRec) : Prop := (okInt .i64) x.at' ∧ (okInt .i64) x.time ∧ okStr x.data
theorem GRec.noIds (x : GRec) : x.d.noIds = true := by
  simp only [GRec.d, dl, byteD, ni_agg, ni_consL, ni_nilL, ni_int, ni_bool, ni_str, ni_sl, Bool.and_self]
theorem dec_26 {n : Nat} {xs : List D} (h : TypedC ty n 26 xs) : ∃ x : GRec, x.ok ∧ xs = x.cells := by
  obtain ⟨n, hl, hf⟩ := struct_of (fs := [(0, 3), (1, 3), (2, 9)]) rfl h
  have hl : xs.length = 3 := hl
  match xs, hl, hf with
  | [a0, a1, a2], _, hf =>
    obtain ⟨x0, k0, e0⟩ := dec_int rfl (hf (0, 3) (by simp))
    have e0 : [a0] = [.int .i64 x0] := e0
    cases e0
    obtain ⟨x1, k1, e1⟩ := dec_int rfl (hf (1, 3) (by simp))
    have e1 : [a1] = [.int .i64 x1] := e1
    cases e1
    obtain ⟨x2, k2, e2⟩ := dec_str rfl (hf (2, 9) (by simp))
    have e2 : [a2] = [.str x2] := e2
    cases e2
    exact ⟨⟨x0, x1, x2⟩, ⟨k0, k1, k2⟩, rfl⟩
structure GAsk where
  h : (List (List GRec))
  l : (List GRec)
  next : Int
  most : Int
  bytes : Int
def GAsk.cells (x : GAsk) : List D := [dl 1 (dl 3 GRec.d) x.h, dl 3 GRec.d x.l, .int .i64 x.next, .int .i64 x.most, .int .i64 x.bytes]
def GAsk.d (x : GAsk) : D := .agg [dl 1 (dl 3 GRec.d) x.h, dl 3 GRec.d x.l, .int .i64 x.next, .int .i64 x.most, .int .i64 x.bytes]
def GAsk.ok (x : GAsk) : Prop := (okL (okL GRec.ok)) x.h ∧ (okL GRec.ok) x.l ∧ (okInt .i64) x.next ∧ (okInt .i64) x.most ∧ (okInt .i64) x.bytes
theorem GAsk.noIds (x : GAsk) : x.d.noIds = true := by
  simp only [GAsk.d, dl, byteD, ni_agg, ni_consL, ni_nilL, ni_int, ni_bool, ni_str, ni_sl, Bool.and_self, noL _ (ni_dl _ GRec.noIds), noL _ GRec.noIds]
theorem dec_33 {n : Nat} {xs : List D} (h : TypedC ty n 33 xs) : ∃ x : GAsk, x.ok ∧ xs = x.cells := by
  obtain ⟨n, hl, hf⟩ := struct_of (fs := [(0, 31), (1, 22), (2, 3), (3, 3), (4, 3)]) rfl h
  have hl : xs.length = 5 := hl
  match xs, hl, hf with
  | [a0, a1, a2, a3, a4], _, hf =>
    obtain ⟨x0, k0, e0⟩ := dec_slice (f := (dl 3 GRec.d)) (p := (okL GRec.ok)) rfl (fun n ys h => by obtain ⟨x, k, rfl⟩ := dec_slice (f := GRec.d) (p := GRec.ok) rfl (fun n ys h => by obtain ⟨x, k, rfl⟩ := dec_26 h; exact ⟨x, k, rfl⟩) h; exact ⟨x, k, rfl⟩) (hf (0, 31) (by simp))
    have e0 : [a0] = [dl 1 (dl 3 GRec.d) x0] := e0
    cases e0
    obtain ⟨x1, k1, e1⟩ := dec_slice (f := GRec.d) (p := GRec.ok) rfl (fun n ys h => by obtain ⟨x, k, rfl⟩ := dec_26 h; exact ⟨x, k, rfl⟩) (hf (1, 22) (by simp))
    have e1 : [a1] = [dl 3 GRec.d x1] := e1
    cases e1
    obtain ⟨x2, k2, e2⟩ := dec_int rfl (hf (2, 3) (by simp))
    have e2 : [a2] = [.int .i64 x2] := e2
    cases e2
    obtain ⟨x3, k3, e3⟩ := dec_int rfl (hf (3, 3) (by simp))
    have e3 : [a3] = [.int .i64 x3] := e3
    cases e3
    obtain ⟨x4, k4, e4⟩ := dec_int rfl (hf (4, 3) (by simp))
    have e4 : [a4] = [.int .i64 x4] := e4
    cases e4
    exact ⟨⟨x0, x1, x2, x3, x4⟩, ⟨k0, k1, k2, k3, k4⟩, rfl⟩
structure GPair where
  key : UInt8
  val : (List UInt8)
def GPair.cells (x : GPair) : List D := [byteD x.key, .str x.val]
def GPair.d (x : GPair) : D := .agg [byteD x.key, .str x.val]
def GPair.ok (x : GPair) : Prop := okT x.key ∧ okStr x.val
theorem GPair.noIds (x : GPair) : x.d.noIds = true := by
  simp only [GPair.d, dl, byteD, ni_agg, ni_consL, ni_nilL, ni_int, ni_bool, ni_str, ni_sl, Bool.and_self]
theorem dec_55 {n : Nat} {xs : List D} (h : TypedC ty n 55 xs) : ∃ x : GPair, x.ok ∧ xs = x.cells := by
  obtain ⟨n, hl, hf⟩ := struct_of (fs := [(0, 5), (1, 9)]) rfl h
  have hl : xs.length = 2 := hl
  match xs, hl, hf with
  | [a0, a1], _, hf =>
    obtain ⟨x0, k0, e0⟩ := dec_u8 rfl (hf (0, 5) (by simp))
    have e0 : [a0] = [byteD x0] := e0
    cases e0
    obtain ⟨x1, k1, e1⟩ := dec_str rfl (hf (1, 9) (by simp))
    have e1 : [a1] = [.str x1] := e1
    cases e1
    exact ⟨⟨x0, x1⟩, ⟨k0, k1⟩, rfl⟩
structure GS7 where
  x : Int
  y : Int
  signed : Bool
  code : UInt8
def GS7.cells (x : GS7) : List D := [.int .i64 x.x, .int .i64 x.y, .bool x.signed, byteD x.code]
def GS7.d (x : GS7) : D := .agg [.int .i64 x.x, .int .i64 x.y, .bool x.signed, byteD x.code]
def GS7.ok (x : GS7) : Prop := (okInt .i64) x.x ∧ (okInt .i64) x.y ∧ okT x.signed ∧ okT x.code
theorem GS7.noIds (x : GS7) : x.d.noIds = true := by
  simp only [GS7.d, dl, byteD, ni_agg, ni_consL, ni_nilL, ni_int, ni_bool, ni_str, ni_sl, Bool.and_self]
theorem dec_7 {n : Nat} {xs : List D} (h : TypedC ty n 7 xs) : ∃ x : GS7, x.ok ∧ xs = x.cells := by
  obtain ⟨n, hl, hf⟩ := struct_of (fs := [(0, 2), (1, 3), (2, 4), (3, 6)]) rfl h
  have hl : xs.length = 4 := hl
  match xs, hl, hf with
  | [a0, a1, a2, a3], _, hf =>
    obtain ⟨x0, k0, e0⟩ := dec_int rfl (hf (0, 2) (by simp))
    have e0 : [a0] = [.int .i64 x0] := e0
    cases e0
    obtain ⟨x1, k1, e1⟩ := dec_int rfl (hf (1, 3) (by simp))
    have e1 : [a1] = [.int .i64 x1] := e1
    cases e1
    obtain ⟨x2, k2, e2⟩ := dec_bool rfl (hf (2, 4) (by simp))
    have e2 : [a2] = [.bool x2] := e2
    cases e2
    obtain ⟨x3, k3, e3⟩ := dec_u8 rfl (hf (3, 6) (by simp))
    have e3 : [a3] = [byteD x3] := e3
    cases e3
    exact ⟨⟨x0, x1, x2, x3⟩, ⟨k0, k1, k2, k3⟩, rfl⟩
structure GBoundsError where
  x : Int
  y : Int
  signed : Bool
  code : UInt8
def GBoundsError.cells (x : GBoundsError) : List D := [.int .i64 x.x, .int .i64 x.y, .bool x.signed, byteD x.code]
def GBoundsError.d (x : GBoundsError) : D := .agg [.int .i64 x.x, .int .i64 x.y, .bool x.signed, byteD x.code]
def GBoundsError.ok (x : GBoundsError) : Prop := (okInt .i64) x.x ∧ (okInt .i64) x.y ∧ okT x.signed ∧ okT x.code
theorem GBoundsError.noIds (x : GBoundsError) : x.d.noIds = true := by
  simp only [GBoundsError.d, dl, byteD, ni_agg, ni_consL, ni_nilL, ni_int, ni_bool, ni_str, ni_sl, Bool.and_self]
theorem dec_8 {n : Nat} {xs : List D} (h : TypedC ty n 8 xs) : ∃ x : GBoundsError, x.ok ∧ xs = x.cells := by
  obtain ⟨n, hl, hf⟩ := struct_of (fs := [(0, 2), (1, 3), (2, 4), (3, 6)]) rfl h
  have hl : xs.length = 4 := hl
  match xs, hl, hf with
  | [a0, a1, a2, a3], _, hf =>
    obtain ⟨x0, k0, e0⟩ := dec_int rfl (hf (0, 2) (by simp))
    have e0 : [a0] = [.int .i64 x0] := e0
    cases e0
    obtain ⟨x1, k1, e1⟩ := dec_int rfl (hf (1, 3) (by simp))
    have e1 : [a1] = [.int .i64 x1] := e1
    cases e1
    obtain ⟨x2, k2, e2⟩ := dec_bool rfl (hf (2, 4) (by simp))
    have e2 : [a2] = [.bool x2] := e2
    cases e2
    obtain ⟨x3, k3, e3⟩ := dec_u8 rfl (hf (3, 6) (by simp))
    have e3 : [a3] = [byteD x3] := e3
    cases e3
    exact ⟨⟨x0, x1, x2, x3⟩, ⟨k0, k1, k2, k3⟩, rfl⟩
structure GS13 where
  msg : (List UInt8)
  addr : Int
def GS13.cells (x : GS13) : List D := [.str x.msg, .int .u64 x.addr]
def GS13.d (x : GS13) : D := .agg [.str x.msg, .int .u64 x.addr]
def GS13.ok (x : GS13) : Prop := okStr x.msg ∧ (okInt .u64) x.addr
theorem GS13.noIds (x : GS13) : x.d.noIds = true := by
  simp only [GS13.d, dl, byteD, ni_agg, ni_consL, ni_nilL, ni_int, ni_bool, ni_str, ni_sl, Bool.and_self]
theorem dec_13 {n : Nat} {xs : List D} (h : TypedC ty n 13 xs) : ∃ x : GS13, x.ok ∧ xs = x.cells := by
  obtain ⟨n, hl, hf⟩ := struct_of (fs := [(0, 9), (1, 12)]) rfl h
  have hl : xs.length = 2 := hl
  match xs, hl, hf with
  | [a0, a1], _, hf =>
    obtain ⟨x0, k0, e0⟩ := dec_str rfl (hf (0, 9) (by simp))
    have e0 : [a0] = [.str x0] := e0
    cases e0
    obtain ⟨x1, k1, e1⟩ := dec_int rfl (hf (1, 12) (by simp))
    have e1 : [a1] = [.int .u64 x1] := e1
    cases e1
    exact ⟨⟨x0, x1⟩, ⟨k0, k1⟩, rfl⟩
structure GErrorAddressString where
  msg : (List UInt8)
  addr : Int
def GErrorAddressString.cells (x : GErrorAddressString) : List D := [.str x.msg, .int .u64 x.addr]
def GErrorAddressString.d (x : GErrorAddressString) : D := .agg [.str x.msg, .int .u64 x.addr]
def GErrorAddressString.ok (x : GErrorAddressString) : Prop := okStr x.msg ∧ (okInt .u64) x.addr
theorem GErrorAddressString.noIds (x : GErrorAddressString) : x.d.noIds = true := by
  simp only [GErrorAddressString.d, dl, byteD, ni_agg, ni_consL, ni_nilL, ni_int, ni_bool, ni_str, ni_sl, Bool.and_self]
theorem dec_14 {n : Nat} {xs : List D} (h : TypedC ty n 14 xs) : ∃ x : GErrorAddressString, x.ok ∧ xs = x.cells := by
  obtain ⟨n, hl, hf⟩ := struct_of (fs := [(0, 9), (1, 12)]) rfl h
  have hl : xs.length = 2 := hl
  match xs, hl, hf with
  | [a0, a1], _, hf =>
    obtain ⟨x0, k0, e0⟩ := dec_str rfl (hf (0, 9) (by simp))
    have e0 : [a0] = [.str x0] := e0
    cases e0
    obtain ⟨x1, k1, e1⟩ := dec_int rfl (hf (1, 12) (by simp))
    have e1 : [a1] = [.int .u64 x1] := e1
    cases e1
    exact ⟨⟨x0, x1⟩, ⟨k0, k1⟩, rfl⟩
structure GS25 where
  at' : Int
  time : Int
  data : (List UInt8)
def GS25.cells (x : GS25) : List D := [.int .i64 x.at', .int .i64 x.time, .str x.data]
def GS25.d (x : GS25) : D := .agg [.int .i64 x.at', .int .i64 x.time, .str x.data]
def GS25.ok (x : GS25) : Prop := (okInt .i64) x.at' ∧ (okInt .i64) x.time ∧ okStr x.data
theorem GS25.noIds (x : GS25) : x.d.noIds = true := by
  simp only [GS25.d, dl, byteD, ni_agg, ni_consL, ni_nilL, ni_int, ni_bool, ni_str, ni_sl, Bool.and_self]
theorem dec_25 {n : Nat} {xs : List D} (h : TypedC ty n 25 xs) : ∃ x : GS25, x.ok ∧ xs = x.cells := by
  obtain ⟨n, hl, hf⟩ := struct_of (fs := [(0, 3), (1, 3), (2, 9)]) rfl h
  have hl : xs.length = 3 := hl
  match xs, hl, hf with
  | [a0, a1, a2], _, hf =>
    obtain ⟨x0, k0, e0⟩ := dec_int rfl (hf (0, 3) (by simp))
    have e0 : [a0] = [.int .i64 x0] := e0
    cases e0
    obtain ⟨x1, k1, e1⟩ := dec_int rfl (hf (1, 3) (by simp))
    have e1 : [a1] = [.int .i64 x1] := e1
    cases e1
    obtain ⟨x2, k2, e2⟩ := dec_str rfl (hf (2, 9) (by simp))
    have e2 : [a2] = [.str x2] := e2
    cases e2
    exact ⟨⟨x0, x1, x2⟩, ⟨k0, k1, k2⟩, rfl⟩
structure GS32 where
  h : (List (List GRec))
  l : (List GRec)
  next : Int
  most : Int
  bytes : Int
def GS32.cells (x : GS32) : List D := [dl 1 (dl 3 GRec.d) x.h, dl 3 GRec.d x.l, .int .i64 x.next, .int .i64 x.most, .int .i64 x.bytes]
def GS32.d (x : GS32) : D := .agg [dl 1 (dl 3 GRec.d) x.h, dl 3 GRec.d x.l, .int .i64 x.next, .int .i64 x.most, .int .i64 x.bytes]
def GS32.ok (x : GS32) : Prop := (okL (okL GRec.ok)) x.h ∧ (okL GRec.ok) x.l ∧ (okInt .i64) x.next ∧ (okInt .i64) x.most ∧ (okInt .i64) x.bytes
theorem GS32.noIds (x : GS32) : x.d.noIds = true := by
  simp only [GS32.d, dl, byteD, ni_agg, ni_consL, ni_nilL, ni_int, ni_bool, ni_str, ni_sl, Bool.and_self, noL _ (ni_dl _ GRec.noIds), noL _ GRec.noIds]
theorem dec_32 {n : Nat} {xs : List D} (h : TypedC ty n 32 xs) : ∃ x : GS32, x.ok ∧ xs = x.cells := by
  obtain ⟨n, hl, hf⟩ := struct_of (fs := [(0, 31), (1, 22), (2, 3), (3, 3), (4, 3)]) rfl h
  have hl : xs.length = 5 := hl
  match xs, hl, hf with
  | [a0, a1, a2, a3, a4], _, hf =>
    obtain ⟨x0, k0, e0⟩ := dec_slice (f := (dl 3 GRec.d)) (p := (okL GRec.ok)) rfl (fun n ys h => by obtain ⟨x, k, rfl⟩ := dec_slice (f := GRec.d) (p := GRec.ok) rfl (fun n ys h => by obtain ⟨x, k, rfl⟩ := dec_26 h; exact ⟨x, k, rfl⟩) h; exact ⟨x, k, rfl⟩) (hf (0, 31) (by simp))
    have e0 : [a0] = [dl 1 (dl 3 GRec.d) x0] := e0
    cases e0
    obtain ⟨x1, k1, e1⟩ := dec_slice (f := GRec.d) (p := GRec.ok) rfl (fun n ys h => by obtain ⟨x, k, rfl⟩ := dec_26 h; exact ⟨x, k, rfl⟩) (hf (1, 22) (by simp))
    have e1 : [a1] = [dl 3 GRec.d x1] := e1
    cases e1
    obtain ⟨x2, k2, e2⟩ := dec_int rfl (hf (2, 3) (by simp))
    have e2 : [a2] = [.int .i64 x2] := e2
    cases e2
    obtain ⟨x3, k3, e3⟩ := dec_int rfl (hf (3, 3) (by simp))
    have e3 : [a3] = [.int .i64 x3] := e3
    cases e3
    obtain ⟨x4, k4, e4⟩ := dec_int rfl (hf (4, 3) (by simp))
    have e4 : [a4] = [.int .i64 x4] := e4
    cases e4
    exact ⟨⟨x0, x1, x2, x3, x4⟩, ⟨k0, k1, k2, k3, k4⟩, rfl⟩
structure GS54 where
  key : UInt8
  val : (List UInt8)
def GS54.cells (x : GS54) : List D := [byteD x.key, .str x.val]
def GS54.d (x : GS54) : D := .agg [byteD x.key, .str x.val]
def GS54.ok (x : GS54) : Prop := okT x.key ∧ okStr x.val
theorem GS54.noIds (x : GS54) : x.d.noIds = true := by
  simp only [GS54.d, dl, byteD, ni_agg, ni_consL, ni_nilL, ni_int, ni_bool, ni_str, ni_sl, Bool.and_self]
theorem dec_54 {n : Nat} {xs : List D} (h : TypedC ty n 54 xs) : ∃ x : GS54, x.ok ∧ xs = x.cells := by
  obtain ⟨n, hl, hf⟩ := struct_of (fs := [(0, 5), (1, 9)]) rfl h
  have hl : xs.length = 2 := hl
  match xs, hl, hf with
  | [a0, a1], _, hf =>
    obtain ⟨x0, k0, e0⟩ := dec_u8 rfl (hf (0, 5) (by simp))
    have e0 : [a0] = [byteD x0] := e0
    cases e0
    obtain ⟨x1, k1, e1⟩ := dec_str rfl (hf (1, 9) (by simp))
    have e1 : [a1] = [.str x1] := e1
    cases e1
    exact ⟨⟨x0, x1⟩, ⟨k0, k1⟩, rfl⟩

theorem mixed : Try.prog.follows .mixedOrders = true := by decide
theorem Try.own : ownKnob Try.prog.godebug = none := by kernel_rfl
theorem Try.laidOut : laidOutB Try.prog = true := by kernel_rfl

theorem args_FoldLast {n : Nat} {Ds : List D} (h : TypedAll ty n [22] Ds) : ∃ (p0 : (List GRec)), ((okL GRec.ok) p0) ∧ Ds = [(dl 3 GRec.d) p0] := by
  match Ds, h with
  | [e0], h =>
    obtain ⟨⟨y0, h0, g0⟩, _⟩ := h
    obtain ⟨p0, k0, rfl⟩ := dec_slice (f := GRec.d) (p := GRec.ok) rfl (fun n ys h => by obtain ⟨x, k, rfl⟩ := dec_26 h; exact ⟨x, k, rfl⟩) h0
    subst g0
    exact ⟨p0, k0, rfl⟩

theorem lift_FoldLast (h : ∀ (p0 : (List GRec)), (okL GRec.ok) p0 → PureF Try.prog 3 [(dl 3 GRec.d) p0] (.bool true)) (os : Os) (started : os.Started) (H : Type) (enc : TypeId × Value → H) :
    ReturnsInHanded {} Try.checked os 3 .any (Rows.foldLastSpec.pre6 enc Try.prog Try.f3 Rows.foldLastRow.domain false) (Rows.foldLastSpec.post enc Try.prog Try.f3 false true false false) :=
  lifted (C := Try.checked) (τ := ty) (t := 4) 16 Try.own started (by kernel_rfl) Try.func3
    (ChangeSpec.witness6 (enc := enc) (C := Try.checked) false ⟨#[], #[(.slice none 0 0)], []⟩ 16 (by kernel_rfl) (by kernel_rfl) (by kernel_rfl) (by kernel_rfl))
    tyOk Try.laidOut (by kernel_rfl) (by kernel_rfl) rfl (fun ds hd => by
      match ds, hd with
      | [_], _ => rfl) rfl Try.underlying4 (fun Ds hDs => by
      obtain ⟨p0, k0, rfl⟩ := args_FoldLast hDs
      exact h p0 k0)

theorem args_HeldTells {n : Nat} {Ds : List D} (h : TypedAll ty n [33] Ds) : ∃ (p0 : GAsk), (GAsk.ok p0) ∧ Ds = [GAsk.d p0] := by
  match Ds, h with
  | [e0], h =>
    obtain ⟨⟨y0, h0, g0⟩, _⟩ := h
    obtain ⟨p0, k0, rfl⟩ := dec_33 h0
    subst g0
    exact ⟨p0, k0, rfl⟩

theorem lift_HeldTells (h : ∀ (p0 : GAsk), GAsk.ok p0 → PureF Try.prog 4 [GAsk.d p0] (.bool true)) (os : Os) (started : os.Started) (H : Type) (enc : TypeId × Value → H) :
    ReturnsInHanded {} Try.checked os 4 .any (Rows.heldTellsSpec.pre6 enc Try.prog Try.f4 Rows.heldTellsRow.domain false) (Rows.heldTellsSpec.post enc Try.prog Try.f4 false true false false) :=
  lifted (C := Try.checked) (τ := ty) (t := 4) 16 Try.own started (by kernel_rfl) Try.func4
    (ChangeSpec.witness6 (enc := enc) (C := Try.checked) false ⟨#[], #[(.agg #[.slice none 0 0, .slice none 0 0, .int .i64 0, .int .i64 0, .int .i64 0])], []⟩ 16 (by kernel_rfl) (by kernel_rfl) (by kernel_rfl) (by kernel_rfl))
    tyOk Try.laidOut (by kernel_rfl) (by kernel_rfl) rfl (fun ds hd => by
      match ds, hd with
      | [_], _ => rfl) rfl Try.underlying4 (fun Ds hDs => by
      obtain ⟨p0, k0, rfl⟩ := args_HeldTells hDs
      exact h p0 k0)

theorem args_HeldRow {n : Nat} {Ds : List D} (h : TypedAll ty n [33] Ds) : ∃ (p0 : GAsk), (GAsk.ok p0) ∧ Ds = [GAsk.d p0] := by
  match Ds, h with
  | [e0], h =>
    obtain ⟨⟨y0, h0, g0⟩, _⟩ := h
    obtain ⟨p0, k0, rfl⟩ := dec_33 h0
    subst g0
    exact ⟨p0, k0, rfl⟩

theorem lift_HeldRow (h : ∀ (p0 : GAsk), GAsk.ok p0 → PureF Try.prog 5 [GAsk.d p0] (.bool true)) (os : Os) (started : os.Started) (H : Type) (enc : TypeId × Value → H) :
    ReturnsInHanded {} Try.checked os 5 .any (Rows.heldRowSpec.pre6 enc Try.prog Try.f5 Rows.heldRowRow.domain false) (Rows.heldRowSpec.post enc Try.prog Try.f5 false true false false) :=
  lifted (C := Try.checked) (τ := ty) (t := 4) 16 Try.own started (by kernel_rfl) Try.func5
    (ChangeSpec.witness6 (enc := enc) (C := Try.checked) false ⟨#[], #[(.agg #[.slice none 0 0, .slice none 0 0, .int .i64 0, .int .i64 0, .int .i64 0])], []⟩ 16 (by kernel_rfl) (by kernel_rfl) (by kernel_rfl) (by kernel_rfl))
    tyOk Try.laidOut (by kernel_rfl) (by kernel_rfl) rfl (fun ds hd => by
      match ds, hd with
      | [_], _ => rfl) rfl Try.underlying4 (fun Ds hDs => by
      obtain ⟨p0, k0, rfl⟩ := args_HeldRow hDs
      exact h p0 k0)

theorem args_HeldOrder {n : Nat} {Ds : List D} (h : TypedAll ty n [41, 42, 42] Ds) : ∃ (p0 : Int) (p1 : (List UInt8)) (p2 : (List UInt8)), ((okInt .u16) p0 ∧ (okL okT) p1 ∧ (okL okT) p2) ∧ Ds = [(D.int .u16) p0, (dl 1 byteD) p1, (dl 1 byteD) p2] := by
  match Ds, h with
  | [e0, e1, e2], h =>
    obtain ⟨⟨y0, h0, g0⟩, ⟨y1, h1, g1⟩, ⟨y2, h2, g2⟩, _⟩ := h
    obtain ⟨p0, k0, rfl⟩ := dec_int rfl h0
    subst g0
    obtain ⟨p1, k1, rfl⟩ := dec_slice (f := byteD) (p := okT) rfl (fun n ys h => by obtain ⟨x, k, rfl⟩ := dec_u8 rfl h; exact ⟨x, k, rfl⟩) h1
    subst g1
    obtain ⟨p2, k2, rfl⟩ := dec_slice (f := byteD) (p := okT) rfl (fun n ys h => by obtain ⟨x, k, rfl⟩ := dec_u8 rfl h; exact ⟨x, k, rfl⟩) h2
    subst g2
    exact ⟨p0, p1, p2, ⟨k0, k1, k2⟩, rfl⟩

theorem lift_HeldOrder (h : ∀ (p0 : Int) (p1 : (List UInt8)) (p2 : (List UInt8)), (okInt .u16) p0 → (okL okT) p1 → (okL okT) p2 → PureF Try.prog 6 [(D.int .u16) p0, (dl 1 byteD) p1, (dl 1 byteD) p2] (.bool true)) (os : Os) (started : os.Started) (H : Type) (enc : TypeId × Value → H) :
    ReturnsInHanded {} Try.checked os 6 .any (Rows.heldOrderSpec.pre6 enc Try.prog Try.f6 Rows.heldOrderRow.domain false) (Rows.heldOrderSpec.post enc Try.prog Try.f6 false true false false) :=
  lifted (C := Try.checked) (τ := ty) (t := 4) 16 Try.own started (by kernel_rfl) Try.func6
    (ChangeSpec.witness6 (enc := enc) (C := Try.checked) false ⟨#[], #[(.int .u16 0), (.slice none 0 0), (.slice none 0 0)], []⟩ 16 (by kernel_rfl) (by kernel_rfl) (by kernel_rfl) (by kernel_rfl))
    tyOk Try.laidOut (by kernel_rfl) (by kernel_rfl) rfl (fun ds hd => by
      match ds, hd with
      | [_, _, _], _ => rfl) rfl Try.underlying4 (fun Ds hDs => by
      obtain ⟨p0, p1, p2, ⟨k0, k1, k2⟩, rfl⟩ := args_HeldOrder hDs
      exact h p0 p1 p2 k0 k1 k2)

theorem args_HeldBound {n : Nat} {Ds : List D} (h : TypedAll ty n [31, 5, 5] Ds) : ∃ (p0 : (List (List GRec))) (p1 : UInt8) (p2 : UInt8), ((okL (okL GRec.ok)) p0 ∧ okT p1 ∧ okT p2) ∧ Ds = [(dl 1 (dl 3 GRec.d)) p0, byteD p1, byteD p2] := by
  match Ds, h with
  | [e0, e1, e2], h =>
    obtain ⟨⟨y0, h0, g0⟩, ⟨y1, h1, g1⟩, ⟨y2, h2, g2⟩, _⟩ := h
    obtain ⟨p0, k0, rfl⟩ := dec_slice (f := (dl 3 GRec.d)) (p := (okL GRec.ok)) rfl (fun n ys h => by obtain ⟨x, k, rfl⟩ := dec_slice (f := GRec.d) (p := GRec.ok) rfl (fun n ys h => by obtain ⟨x, k, rfl⟩ := dec_26 h; exact ⟨x, k, rfl⟩) h; exact ⟨x, k, rfl⟩) h0
    subst g0
    obtain ⟨p1, k1, rfl⟩ := dec_u8 rfl h1
    subst g1
    obtain ⟨p2, k2, rfl⟩ := dec_u8 rfl h2
    subst g2
    exact ⟨p0, p1, p2, ⟨k0, k1, k2⟩, rfl⟩

theorem lift_HeldBound (h : ∀ (p0 : (List (List GRec))) (p1 : UInt8) (p2 : UInt8), (okL (okL GRec.ok)) p0 → okT p1 → okT p2 → PureF Try.prog 7 [(dl 1 (dl 3 GRec.d)) p0, byteD p1, byteD p2] (.bool true)) (os : Os) (started : os.Started) (H : Type) (enc : TypeId × Value → H) :
    ReturnsInHanded {} Try.checked os 7 .any (Rows.heldBoundSpec.pre6 enc Try.prog Try.f7 Rows.heldBoundRow.domain false) (Rows.heldBoundSpec.post enc Try.prog Try.f7 false true false false) :=
  lifted (C := Try.checked) (τ := ty) (t := 4) 16 Try.own started (by kernel_rfl) Try.func7
    (ChangeSpec.witness6 (enc := enc) (C := Try.checked) false ⟨#[], #[(.slice none 0 0), (.int .u8 0), (.int .u8 0)], []⟩ 16 (by kernel_rfl) (by kernel_rfl) (by kernel_rfl) (by kernel_rfl))
    tyOk Try.laidOut (by kernel_rfl) (by kernel_rfl) rfl (fun ds hd => by
      match ds, hd with
      | [_, _, _], _ => rfl) rfl Try.underlying4 (fun Ds hDs => by
      obtain ⟨p0, p1, p2, ⟨k0, k1, k2⟩, rfl⟩ := args_HeldBound hDs
      exact h p0 p1 p2 k0 k1 k2)

theorem args_HeldOnce {n : Nat} {Ds : List D} (h : TypedAll ty n [33] Ds) : ∃ (p0 : GAsk), (GAsk.ok p0) ∧ Ds = [GAsk.d p0] := by
  match Ds, h with
  | [e0], h =>
    obtain ⟨⟨y0, h0, g0⟩, _⟩ := h
    obtain ⟨p0, k0, rfl⟩ := dec_33 h0
    subst g0
    exact ⟨p0, k0, rfl⟩

theorem lift_HeldOnce (h : ∀ (p0 : GAsk), GAsk.ok p0 → PureF Try.prog 8 [GAsk.d p0] (.bool true)) (os : Os) (started : os.Started) (H : Type) (enc : TypeId × Value → H) :
    ReturnsInHanded {} Try.checked os 8 .any (Rows.heldOnceSpec.pre6 enc Try.prog Try.f8 Rows.heldOnceRow.domain false) (Rows.heldOnceSpec.post enc Try.prog Try.f8 false true false false) :=
  lifted (C := Try.checked) (τ := ty) (t := 4) 16 Try.own started (by kernel_rfl) Try.func8
    (ChangeSpec.witness6 (enc := enc) (C := Try.checked) false ⟨#[], #[(.agg #[.slice none 0 0, .slice none 0 0, .int .i64 0, .int .i64 0, .int .i64 0])], []⟩ 16 (by kernel_rfl) (by kernel_rfl) (by kernel_rfl) (by kernel_rfl))
    tyOk Try.laidOut (by kernel_rfl) (by kernel_rfl) rfl (fun ds hd => by
      match ds, hd with
      | [_], _ => rfl) rfl Try.underlying4 (fun Ds hDs => by
      obtain ⟨p0, k0, rfl⟩ := args_HeldOnce hDs
      exact h p0 k0)

theorem args_FoldTells {n : Nat} {Ds : List D} (h : TypedAll ty n [28, 9] Ds) : ∃ (p0 : (List GPair)) (p1 : (List UInt8)), ((okL GPair.ok) p0 ∧ okStr p1) ∧ Ds = [(dl 2 GPair.d) p0, D.str p1] := by
  match Ds, h with
  | [e0, e1], h =>
    obtain ⟨⟨y0, h0, g0⟩, ⟨y1, h1, g1⟩, _⟩ := h
    obtain ⟨p0, k0, rfl⟩ := dec_slice (f := GPair.d) (p := GPair.ok) rfl (fun n ys h => by obtain ⟨x, k, rfl⟩ := dec_55 h; exact ⟨x, k, rfl⟩) h0
    subst g0
    obtain ⟨p1, k1, rfl⟩ := dec_str rfl h1
    subst g1
    exact ⟨p0, p1, ⟨k0, k1⟩, rfl⟩

theorem lift_FoldTells (h : ∀ (p0 : (List GPair)) (p1 : (List UInt8)), (okL GPair.ok) p0 → okStr p1 → PureF Try.prog 9 [(dl 2 GPair.d) p0, D.str p1] (.bool true)) (os : Os) (started : os.Started) (H : Type) (enc : TypeId × Value → H) :
    ReturnsInHanded {} Try.checked os 9 .any (Rows.foldTellsSpec.pre6 enc Try.prog Try.f9 Rows.foldTellsRow.domain false) (Rows.foldTellsSpec.post enc Try.prog Try.f9 false true false false) :=
  lifted (C := Try.checked) (τ := ty) (t := 4) 16 Try.own started (by kernel_rfl) Try.func9
    (ChangeSpec.witness6 (enc := enc) (C := Try.checked) false ⟨#[], #[(.slice none 0 0), (.string ByteArray.empty)], []⟩ 16 (by kernel_rfl) (by kernel_rfl) (by kernel_rfl) (by kernel_rfl))
    tyOk Try.laidOut (by kernel_rfl) (by kernel_rfl) rfl (fun ds hd => by
      match ds, hd with
      | [_, _], _ => rfl) rfl Try.underlying4 (fun Ds hDs => by
      obtain ⟨p0, p1, ⟨k0, k1⟩, rfl⟩ := args_FoldTells hDs
      exact h p0 p1 k0 k1)

theorem args_FoldParses {n : Nat} {Ds : List D} (h : TypedAll ty n [9] Ds) : ∃ (p0 : (List UInt8)), (okStr p0) ∧ Ds = [D.str p0] := by
  match Ds, h with
  | [e0], h =>
    obtain ⟨⟨y0, h0, g0⟩, _⟩ := h
    obtain ⟨p0, k0, rfl⟩ := dec_str rfl h0
    subst g0
    exact ⟨p0, k0, rfl⟩

theorem lift_FoldParses (h : ∀ (p0 : (List UInt8)), okStr p0 → PureF Try.prog 10 [D.str p0] (.bool true)) (os : Os) (started : os.Started) (H : Type) (enc : TypeId × Value → H) :
    ReturnsInHanded {} Try.checked os 10 .any (Rows.foldParsesSpec.pre6 enc Try.prog Try.f10 Rows.foldParsesRow.domain false) (Rows.foldParsesSpec.post enc Try.prog Try.f10 false true false false) :=
  lifted (C := Try.checked) (τ := ty) (t := 4) 16 Try.own started (by kernel_rfl) Try.func10
    (ChangeSpec.witness6 (enc := enc) (C := Try.checked) false ⟨#[], #[(.string ByteArray.empty)], []⟩ 16 (by kernel_rfl) (by kernel_rfl) (by kernel_rfl) (by kernel_rfl))
    tyOk Try.laidOut (by kernel_rfl) (by kernel_rfl) rfl (fun ds hd => by
      match ds, hd with
      | [_], _ => rfl) rfl Try.underlying4 (fun Ds hDs => by
      obtain ⟨p0, k0, rfl⟩ := args_FoldParses hDs
      exact h p0 k0)

theorem args_FoldBack {n : Nat} {Ds : List D} (h : TypedAll ty n [22, 5] Ds) : ∃ (p0 : (List GRec)) (p1 : UInt8), ((okL GRec.ok) p0 ∧ okT p1) ∧ Ds = [(dl 3 GRec.d) p0, byteD p1] := by
  match Ds, h with
  | [e0, e1], h =>
    obtain ⟨⟨y0, h0, g0⟩, ⟨y1, h1, g1⟩, _⟩ := h
    obtain ⟨p0, k0, rfl⟩ := dec_slice (f := GRec.d) (p := GRec.ok) rfl (fun n ys h => by obtain ⟨x, k, rfl⟩ := dec_26 h; exact ⟨x, k, rfl⟩) h0
    subst g0
    obtain ⟨p1, k1, rfl⟩ := dec_u8 rfl h1
    subst g1
    exact ⟨p0, p1, ⟨k0, k1⟩, rfl⟩

theorem lift_FoldBack (h : ∀ (p0 : (List GRec)) (p1 : UInt8), (okL GRec.ok) p0 → okT p1 → PureF Try.prog 11 [(dl 3 GRec.d) p0, byteD p1] (.bool true)) (os : Os) (started : os.Started) (H : Type) (enc : TypeId × Value → H) :
    ReturnsInHanded {} Try.checked os 11 .any (Rows.foldBackSpec.pre6 enc Try.prog Try.f11 Rows.foldBackRow.domain false) (Rows.foldBackSpec.post enc Try.prog Try.f11 false true false false) :=
  lifted (C := Try.checked) (τ := ty) (t := 4) 16 Try.own started (by kernel_rfl) Try.func11
    (ChangeSpec.witness6 (enc := enc) (C := Try.checked) false ⟨#[], #[(.slice none 0 0), (.int .u8 0)], []⟩ 16 (by kernel_rfl) (by kernel_rfl) (by kernel_rfl) (by kernel_rfl))
    tyOk Try.laidOut (by kernel_rfl) (by kernel_rfl) rfl (fun ds hd => by
      match ds, hd with
      | [_, _], _ => rfl) rfl Try.underlying4 (fun Ds hDs => by
      obtain ⟨p0, p1, ⟨k0, k1⟩, rfl⟩ := args_FoldBack hDs
      exact h p0 p1 k0 k1)

end Go.Proofs.Ytkmlebnkmmkpmaa
