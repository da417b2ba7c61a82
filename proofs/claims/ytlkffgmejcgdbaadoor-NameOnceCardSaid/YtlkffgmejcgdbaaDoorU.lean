/- The data types of this translation, and the rows of its laws, from functions of data. PRINTED by a program of this session (wip/tools/gendata.py). -/
import Derived.Test.YtlkffgmejcgdbaaDoorT
import Derived.Test.YtlkffgmejcgdbaaDoorL4
import Derived.Test.YtlkffgmejcgdbaaDoorRows
namespace Go.Proofs.YtlkffgmejcgdbaaDoor
set_option linter.all false
open Go.ChangeShapes Go.WideShapes Go.ChangeAt Go.RowKit

structure GS7 where
  x : Int
  y : Int
  signed : Bool
  code : UInt8
def GS7.cells (x : GS7) : List D := [.int .i64 x.x, .int .i64 x.y, .bool x.signed, byteD x.code]
def GS7.d (x : GS7) : D := .agg [.int .i64 x.x, .int .i64 x.y, .bool x.signed, byteD x.code]
def GS7.ok (x : GS7) : Prop := (okInt .i64) x.x ∧ (okInt .i64) x.y ∧ okT x.signed ∧ okT x.code
theorem GS7.noIds (x : GS7) : x.d.noIds = true := by
  simp only [GS7.d, dl, byteD, ni_agg, ni_consL, ni_nilL, ni_int, ni_bool, ni_str, ni_sl, Bool.and_self]
theorem dec_7 {n : Nat} {xs : List D} (h : TypedC ty n 7 xs) : ∃ x : GS7, x.ok ∧ xs = x.cells := by
  obtain ⟨n, hl, hf⟩ := struct_of (fs := [(0, 2), (1, 3), (2, 4), (3, 6)]) rfl h
  have hl : xs.length = 4 := hl
  match xs, hl, hf with
  | [a0, a1, a2, a3], _, hf =>
    obtain ⟨x0, k0, e0⟩ := dec_int rfl (hf (0, 2) (by simp))
    have e0 : [a0] = [.int .i64 x0] := e0
    cases e0
    obtain ⟨x1, k1, e1⟩ := dec_int rfl (hf (1, 3) (by simp))
    have e1 : [a1] = [.int .i64 x1] := e1
    cases e1
    obtain ⟨x2, k2, e2⟩ := dec_bool rfl (hf (2, 4) (by simp))
    have e2 : [a2] = [.bool x2] := e2
    cases e2
    obtain ⟨x3, k3, e3⟩ := dec_u8 rfl (hf (3, 6) (by simp))
    have e3 : [a3] = [byteD x3] := e3
    cases e3
    exact ⟨⟨x0, x1, x2, x3⟩, ⟨k0, k1, k2, k3⟩, rfl⟩
structure GBoundsError where
  x : Int
  y : Int
  signed : Bool
  code : UInt8
def GBoundsError.cells (x : GBoundsError) : List D := [.int .i64 x.x, .int .i64 x.y, .bool x.signed, byteD x.code]
def GBoundsError.d (x : GBoundsError) : D := .agg [.int .i64 x.x, .int .i64 x.y, .bool x.signed, byteD x.code]
def GBoundsError.ok (x : GBoundsError) : Prop := (okInt .i64) x.x ∧ (okInt .i64) x.y ∧ okT x.signed ∧ okT x.code
theorem GBoundsError.noIds (x : GBoundsError) : x.d.noIds = true := by
  simp only [GBoundsError.d, dl, byteD, ni_agg, ni_consL, ni_nilL, ni_int, ni_bool, ni_str, ni_sl, Bool.and_self]
theorem dec_8 {n : Nat} {xs : List D} (h : TypedC ty n 8 xs) : ∃ x : GBoundsError, x.ok ∧ xs = x.cells := by
  obtain ⟨n, hl, hf⟩ := struct_of (fs := [(0, 2), (1, 3), (2, 4), (3, 6)]) rfl h
  have hl : xs.length = 4 := hl
  match xs, hl, hf with
  | [a0, a1, a2, a3], _, hf =>
    obtain ⟨x0, k0, e0⟩ := dec_int rfl (hf (0, 2) (by simp))
    have e0 : [a0] = [.int .i64 x0] := e0
    cases e0
    obtain ⟨x1, k1, e1⟩ := dec_int rfl (hf (1, 3) (by simp))
    have e1 : [a1] = [.int .i64 x1] := e1
    cases e1
    obtain ⟨x2, k2, e2⟩ := dec_bool rfl (hf (2, 4) (by simp))
    have e2 : [a2] = [.bool x2] := e2
    cases e2
    obtain ⟨x3, k3, e3⟩ := dec_u8 rfl (hf (3, 6) (by simp))
    have e3 : [a3] = [byteD x3] := e3
    cases e3
    exact ⟨⟨x0, x1, x2, x3⟩, ⟨k0, k1, k2, k3⟩, rfl⟩
structure GS13 where
  msg : (List UInt8)
  addr : Int
def GS13.cells (x : GS13) : List D := [.str x.msg, .int .u64 x.addr]
def GS13.d (x : GS13) : D := .agg [.str x.msg, .int .u64 x.addr]
def GS13.ok (x : GS13) : Prop := okStr x.msg ∧ (okInt .u64) x.addr
theorem GS13.noIds (x : GS13) : x.d.noIds = true := by
  simp only [GS13.d, dl, byteD, ni_agg, ni_consL, ni_nilL, ni_int, ni_bool, ni_str, ni_sl, Bool.and_self]
theorem dec_13 {n : Nat} {xs : List D} (h : TypedC ty n 13 xs) : ∃ x : GS13, x.ok ∧ xs = x.cells := by
  obtain ⟨n, hl, hf⟩ := struct_of (fs := [(0, 9), (1, 12)]) rfl h
  have hl : xs.length = 2 := hl
  match xs, hl, hf with
  | [a0, a1], _, hf =>
    obtain ⟨x0, k0, e0⟩ := dec_str rfl (hf (0, 9) (by simp))
    have e0 : [a0] = [.str x0] := e0
    cases e0
    obtain ⟨x1, k1, e1⟩ := dec_int rfl (hf (1, 12) (by simp))
    have e1 : [a1] = [.int .u64 x1] := e1
    cases e1
    exact ⟨⟨x0, x1⟩, ⟨k0, k1⟩, rfl⟩
structure GErrorAddressString where
  msg : (List UInt8)
  addr : Int
def GErrorAddressString.cells (x : GErrorAddressString) : List D := [.str x.msg, .int .u64 x.addr]
def GErrorAddressString.d (x : GErrorAddressString) : D := .agg [.str x.msg, .int .u64 x.addr]
def GErrorAddressString.ok (x : GErrorAddressString) : Prop := okStr x.msg ∧ (okInt .u64) x.addr
theorem GErrorAddressString.noIds (x : GErrorAddressString) : x.d.noIds = true := by
  simp only [GErrorAddressString.d, dl, byteD, ni_agg, ni_consL, ni_nilL, ni_int, ni_bool, ni_str, ni_sl, Bool.and_self]
theorem dec_14 {n : Nat} {xs : List D} (h : TypedC ty n 14 xs) : ∃ x : GErrorAddressString, x.ok ∧ xs = x.cells := by
  obtain ⟨n, hl, hf⟩ := struct_of (fs := [(0, 9), (1, 12)]) rfl h
  have hl : xs.length = 2 := hl
  match xs, hl, hf with
  | [a0, a1], _, hf =>
    obtain ⟨x0, k0, e0⟩ := dec_str rfl (hf (0, 9) (by simp))
    have e0 : [a0] = [.str x0] := e0
    cases e0
    obtain ⟨x1, k1, e1⟩ := dec_int rfl (hf (1, 12) (by simp))
    have e1 : [a1] = [.int .u64 x1] := e1
    cases e1
    exact ⟨⟨x0, x1⟩, ⟨k0, k1⟩, rfl⟩
structure GS54 where
  s : (List UInt8)
def GS54.cells (x : GS54) : List D := [.str x.s]
def GS54.d (x : GS54) : D := .agg [.str x.s]
def GS54.ok (x : GS54) : Prop := okStr x.s
theorem GS54.noIds (x : GS54) : x.d.noIds = true := by
  simp only [GS54.d, dl, byteD, ni_agg, ni_consL, ni_nilL, ni_int, ni_bool, ni_str, ni_sl, Bool.and_self]
theorem dec_54 {n : Nat} {xs : List D} (h : TypedC ty n 54 xs) : ∃ x : GS54, x.ok ∧ xs = x.cells := by
  obtain ⟨n, hl, hf⟩ := struct_of (fs := [(0, 9)]) rfl h
  have hl : xs.length = 1 := hl
  match xs, hl, hf with
  | [a0], _, hf =>
    obtain ⟨x0, k0, e0⟩ := dec_str rfl (hf (0, 9) (by simp))
    have e0 : [a0] = [.str x0] := e0
    cases e0
    exact ⟨⟨x0⟩, k0, rfl⟩
structure GErrorString where
  s : (List UInt8)
def GErrorString.cells (x : GErrorString) : List D := [.str x.s]
def GErrorString.d (x : GErrorString) : D := .agg [.str x.s]
def GErrorString.ok (x : GErrorString) : Prop := okStr x.s
theorem GErrorString.noIds (x : GErrorString) : x.d.noIds = true := by
  simp only [GErrorString.d, dl, byteD, ni_agg, ni_consL, ni_nilL, ni_int, ni_bool, ni_str, ni_sl, Bool.and_self]
theorem dec_55 {n : Nat} {xs : List D} (h : TypedC ty n 55 xs) : ∃ x : GErrorString, x.ok ∧ xs = x.cells := by
  obtain ⟨n, hl, hf⟩ := struct_of (fs := [(0, 9)]) rfl h
  have hl : xs.length = 1 := hl
  match xs, hl, hf with
  | [a0], _, hf =>
    obtain ⟨x0, k0, e0⟩ := dec_str rfl (hf (0, 9) (by simp))
    have e0 : [a0] = [.str x0] := e0
    cases e0
    exact ⟨⟨x0⟩, k0, rfl⟩

theorem mixed : Tryd.prog.follows .mixedOrders = true := by decide
theorem Tryd.own : ownKnob Tryd.prog.godebug = none := by kernel_rfl
theorem Tryd.laidOut : laidOutB Tryd.prog = true := by kernel_rfl

theorem args_NameTells {n : Nat} {Ds : List D} (h : TypedAll ty n [3, 9] Ds) : ∃ (p0 : Int) (p1 : (List UInt8)), ((okInt .i64) p0 ∧ okStr p1) ∧ Ds = [(D.int .i64) p0, D.str p1] := by
  match Ds, h with
  | [e0, e1], h =>
    obtain ⟨⟨y0, h0, g0⟩, ⟨y1, h1, g1⟩, _⟩ := h
    obtain ⟨p0, k0, rfl⟩ := dec_int rfl h0
    subst g0
    obtain ⟨p1, k1, rfl⟩ := dec_str rfl h1
    subst g1
    exact ⟨p0, p1, ⟨k0, k1⟩, rfl⟩

theorem args_NameBack {n : Nat} {Ds : List D} (h : TypedAll ty n [3, 3] Ds) : ∃ (p0 : Int) (p1 : Int), ((okInt .i64) p0 ∧ (okInt .i64) p1) ∧ Ds = [(D.int .i64) p0, (D.int .i64) p1] := by
  match Ds, h with
  | [e0, e1], h =>
    obtain ⟨⟨y0, h0, g0⟩, ⟨y1, h1, g1⟩, _⟩ := h
    obtain ⟨p0, k0, rfl⟩ := dec_int rfl h0
    subst g0
    obtain ⟨p1, k1, rfl⟩ := dec_int rfl h1
    subst g1
    exact ⟨p0, p1, ⟨k0, k1⟩, rfl⟩

theorem args_NameOnce {n : Nat} {Ds : List D} (h : TypedAll ty n [9] Ds) : ∃ (p0 : (List UInt8)), (okStr p0) ∧ Ds = [D.str p0] := by
  match Ds, h with
  | [e0], h =>
    obtain ⟨⟨y0, h0, g0⟩, _⟩ := h
    obtain ⟨p0, k0, rfl⟩ := dec_str rfl h0
    subst g0
    exact ⟨p0, k0, rfl⟩

end Go.Proofs.YtlkffgmejcgdbaaDoor
