/- The data types of this translation, and the rows of its laws, from functions of data. PRINTED by a program of this session (wip/tools/gendata.py). -/
import Derived.Test.YtbabdalfkmdlhaaT
import Derived.Test.YtbabdalfkmdlhaaL4
import Derived.Test.YtbabdalfkmdlhaaRows
namespace Go.Proofs.Ytbabdalfkmdlhaa
set_option linter.all false
open Go.ChangeShapes Go.WideShapes Go.ChangeAt Go.RowKit

structure GMan where
  ver : Int
  segs : (List Int)
  size : Int
  sum : Int
def GMan.cells (x : GMan) : List D := [.int .i64 x.ver, dl 1 (D.int .i64) x.segs, .int .i64 x.size, .int .u32 x.sum]
def GMan.d (x : GMan) : D := .agg [.int .i64 x.ver, dl 1 (D.int .i64) x.segs, .int .i64 x.size, .int .u32 x.sum]
def GMan.ok (x : GMan) : Prop := (okInt .i64) x.ver ∧ (okL (okInt .i64)) x.segs ∧ (okInt .i64) x.size ∧ (okInt .u32) x.sum
theorem GMan.noIds (x : GMan) : x.d.noIds = true := by
  simp only [GMan.d, dl, byteD, ni_agg, ni_consL, ni_nilL, ni_int, ni_bool, ni_str, ni_sl, Bool.and_self, noL _ (ni_int _)]
theorem dec_38 {n : Nat} {xs : List D} (h : TypedC ty n 38 xs) : ∃ x : GMan, x.ok ∧ xs = x.cells := by
  obtain ⟨n, hl, hf⟩ := struct_of (fs := [(0, 3), (1, 35), (2, 3), (3, 36)]) rfl h
  have hl : xs.length = 4 := hl
  match xs, hl, hf with
  | [a0, a1, a2, a3], _, hf =>
    obtain ⟨x0, k0, e0⟩ := dec_int rfl (hf (0, 3) (by simp))
    have e0 : [a0] = [.int .i64 x0] := e0
    cases e0
    obtain ⟨x1, k1, e1⟩ := dec_slice (f := (D.int .i64)) (p := (okInt .i64)) rfl (fun n ys h => by obtain ⟨x, k, rfl⟩ := dec_int rfl h; exact ⟨x, k, rfl⟩) (hf (1, 35) (by simp))
    have e1 : [a1] = [dl 1 (D.int .i64) x1] := e1
    cases e1
    obtain ⟨x2, k2, e2⟩ := dec_int rfl (hf (2, 3) (by simp))
    have e2 : [a2] = [.int .i64 x2] := e2
    cases e2
    obtain ⟨x3, k3, e3⟩ := dec_int rfl (hf (3, 36) (by simp))
    have e3 : [a3] = [.int .u32 x3] := e3
    cases e3
    exact ⟨⟨x0, x1, x2, x3⟩, ⟨k0, k1, k2, k3⟩, rfl⟩
structure GOp where
  kind : Int
  node : Int
  n : Int
  k : Int
  data : (List UInt8)
  keep : (List Int)
def GOp.cells (x : GOp) : List D := [.int .i64 x.kind, .int .i64 x.node, .int .i64 x.n, .int .i64 x.k, .str x.data, dl 1 (D.int .i64) x.keep]
def GOp.d (x : GOp) : D := .agg [.int .i64 x.kind, .int .i64 x.node, .int .i64 x.n, .int .i64 x.k, .str x.data, dl 1 (D.int .i64) x.keep]
def GOp.ok (x : GOp) : Prop := (okInt .i64) x.kind ∧ (okInt .i64) x.node ∧ (okInt .i64) x.n ∧ (okInt .i64) x.k ∧ okStr x.data ∧ (okL (okInt .i64)) x.keep
theorem GOp.noIds (x : GOp) : x.d.noIds = true := by
  simp only [GOp.d, dl, byteD, ni_agg, ni_consL, ni_nilL, ni_int, ni_bool, ni_str, ni_sl, Bool.and_self, noL _ (ni_int _)]
theorem dec_73 {n : Nat} {xs : List D} (h : TypedC ty n 73 xs) : ∃ x : GOp, x.ok ∧ xs = x.cells := by
  obtain ⟨n, hl, hf⟩ := struct_of (fs := [(0, 3), (1, 3), (2, 3), (3, 3), (4, 9), (5, 35)]) rfl h
  have hl : xs.length = 6 := hl
  match xs, hl, hf with
  | [a0, a1, a2, a3, a4, a5], _, hf =>
    obtain ⟨x0, k0, e0⟩ := dec_int rfl (hf (0, 3) (by simp))
    have e0 : [a0] = [.int .i64 x0] := e0
    cases e0
    obtain ⟨x1, k1, e1⟩ := dec_int rfl (hf (1, 3) (by simp))
    have e1 : [a1] = [.int .i64 x1] := e1
    cases e1
    obtain ⟨x2, k2, e2⟩ := dec_int rfl (hf (2, 3) (by simp))
    have e2 : [a2] = [.int .i64 x2] := e2
    cases e2
    obtain ⟨x3, k3, e3⟩ := dec_int rfl (hf (3, 3) (by simp))
    have e3 : [a3] = [.int .i64 x3] := e3
    cases e3
    obtain ⟨x4, k4, e4⟩ := dec_str rfl (hf (4, 9) (by simp))
    have e4 : [a4] = [.str x4] := e4
    cases e4
    obtain ⟨x5, k5, e5⟩ := dec_slice (f := (D.int .i64)) (p := (okInt .i64)) rfl (fun n ys h => by obtain ⟨x, k, rfl⟩ := dec_int rfl h; exact ⟨x, k, rfl⟩) (hf (5, 35) (by simp))
    have e5 : [a5] = [dl 1 (D.int .i64) x5] := e5
    cases e5
    exact ⟨⟨x0, x1, x2, x3, x4, x5⟩, ⟨k0, k1, k2, k3, k4, k5⟩, rfl⟩
structure GS7 where
  x : Int
  y : Int
  signed : Bool
  code : UInt8
def GS7.cells (x : GS7) : List D := [.int .i64 x.x, .int .i64 x.y, .bool x.signed, byteD x.code]
def GS7.d (x : GS7) : D := .agg [.int .i64 x.x, .int .i64 x.y, .bool x.signed, byteD x.code]
def GS7.ok (x : GS7) : Prop := (okInt .i64) x.x ∧ (okInt .i64) x.y ∧ okT x.signed ∧ okT x.code
theorem GS7.noIds (x : GS7) : x.d.noIds = true := by
  simp only [GS7.d, dl, byteD, ni_agg, ni_consL, ni_nilL, ni_int, ni_bool, ni_str, ni_sl, Bool.and_self]
theorem dec_7 {n : Nat} {xs : List D} (h : TypedC ty n 7 xs) : ∃ x : GS7, x.ok ∧ xs = x.cells := by
  obtain ⟨n, hl, hf⟩ := struct_of (fs := [(0, 2), (1, 3), (2, 4), (3, 6)]) rfl h
  have hl : xs.length = 4 := hl
  match xs, hl, hf with
  | [a0, a1, a2, a3], _, hf =>
    obtain ⟨x0, k0, e0⟩ := dec_int rfl (hf (0, 2) (by simp))
    have e0 : [a0] = [.int .i64 x0] := e0
    cases e0
    obtain ⟨x1, k1, e1⟩ := dec_int rfl (hf (1, 3) (by simp))
    have e1 : [a1] = [.int .i64 x1] := e1
    cases e1
    obtain ⟨x2, k2, e2⟩ := dec_bool rfl (hf (2, 4) (by simp))
    have e2 : [a2] = [.bool x2] := e2
    cases e2
    obtain ⟨x3, k3, e3⟩ := dec_u8 rfl (hf (3, 6) (by simp))
    have e3 : [a3] = [byteD x3] := e3
    cases e3
    exact ⟨⟨x0, x1, x2, x3⟩, ⟨k0, k1, k2, k3⟩, rfl⟩
structure GBoundsError where
  x : Int
  y : Int
  signed : Bool
  code : UInt8
def GBoundsError.cells (x : GBoundsError) : List D := [.int .i64 x.x, .int .i64 x.y, .bool x.signed, byteD x.code]
def GBoundsError.d (x : GBoundsError) : D := .agg [.int .i64 x.x, .int .i64 x.y, .bool x.signed, byteD x.code]
def GBoundsError.ok (x : GBoundsError) : Prop := (okInt .i64) x.x ∧ (okInt .i64) x.y ∧ okT x.signed ∧ okT x.code
theorem GBoundsError.noIds (x : GBoundsError) : x.d.noIds = true := by
  simp only [GBoundsError.d, dl, byteD, ni_agg, ni_consL, ni_nilL, ni_int, ni_bool, ni_str, ni_sl, Bool.and_self]
theorem dec_8 {n : Nat} {xs : List D} (h : TypedC ty n 8 xs) : ∃ x : GBoundsError, x.ok ∧ xs = x.cells := by
  obtain ⟨n, hl, hf⟩ := struct_of (fs := [(0, 2), (1, 3), (2, 4), (3, 6)]) rfl h
  have hl : xs.length = 4 := hl
  match xs, hl, hf with
  | [a0, a1, a2, a3], _, hf =>
    obtain ⟨x0, k0, e0⟩ := dec_int rfl (hf (0, 2) (by simp))
    have e0 : [a0] = [.int .i64 x0] := e0
    cases e0
    obtain ⟨x1, k1, e1⟩ := dec_int rfl (hf (1, 3) (by simp))
    have e1 : [a1] = [.int .i64 x1] := e1
    cases e1
    obtain ⟨x2, k2, e2⟩ := dec_bool rfl (hf (2, 4) (by simp))
    have e2 : [a2] = [.bool x2] := e2
    cases e2
    obtain ⟨x3, k3, e3⟩ := dec_u8 rfl (hf (3, 6) (by simp))
    have e3 : [a3] = [byteD x3] := e3
    cases e3
    exact ⟨⟨x0, x1, x2, x3⟩, ⟨k0, k1, k2, k3⟩, rfl⟩
structure GS13 where
  msg : (List UInt8)
  addr : Int
def GS13.cells (x : GS13) : List D := [.str x.msg, .int .u64 x.addr]
def GS13.d (x : GS13) : D := .agg [.str x.msg, .int .u64 x.addr]
def GS13.ok (x : GS13) : Prop := okStr x.msg ∧ (okInt .u64) x.addr
theorem GS13.noIds (x : GS13) : x.d.noIds = true := by
  simp only [GS13.d, dl, byteD, ni_agg, ni_consL, ni_nilL, ni_int, ni_bool, ni_str, ni_sl, Bool.and_self]
theorem dec_13 {n : Nat} {xs : List D} (h : TypedC ty n 13 xs) : ∃ x : GS13, x.ok ∧ xs = x.cells := by
  obtain ⟨n, hl, hf⟩ := struct_of (fs := [(0, 9), (1, 12)]) rfl h
  have hl : xs.length = 2 := hl
  match xs, hl, hf with
  | [a0, a1], _, hf =>
    obtain ⟨x0, k0, e0⟩ := dec_str rfl (hf (0, 9) (by simp))
    have e0 : [a0] = [.str x0] := e0
    cases e0
    obtain ⟨x1, k1, e1⟩ := dec_int rfl (hf (1, 12) (by simp))
    have e1 : [a1] = [.int .u64 x1] := e1
    cases e1
    exact ⟨⟨x0, x1⟩, ⟨k0, k1⟩, rfl⟩
structure GErrorAddressString where
  msg : (List UInt8)
  addr : Int
def GErrorAddressString.cells (x : GErrorAddressString) : List D := [.str x.msg, .int .u64 x.addr]
def GErrorAddressString.d (x : GErrorAddressString) : D := .agg [.str x.msg, .int .u64 x.addr]
def GErrorAddressString.ok (x : GErrorAddressString) : Prop := okStr x.msg ∧ (okInt .u64) x.addr
theorem GErrorAddressString.noIds (x : GErrorAddressString) : x.d.noIds = true := by
  simp only [GErrorAddressString.d, dl, byteD, ni_agg, ni_consL, ni_nilL, ni_int, ni_bool, ni_str, ni_sl, Bool.and_self]
theorem dec_14 {n : Nat} {xs : List D} (h : TypedC ty n 14 xs) : ∃ x : GErrorAddressString, x.ok ∧ xs = x.cells := by
  obtain ⟨n, hl, hf⟩ := struct_of (fs := [(0, 9), (1, 12)]) rfl h
  have hl : xs.length = 2 := hl
  match xs, hl, hf with
  | [a0, a1], _, hf =>
    obtain ⟨x0, k0, e0⟩ := dec_str rfl (hf (0, 9) (by simp))
    have e0 : [a0] = [.str x0] := e0
    cases e0
    obtain ⟨x1, k1, e1⟩ := dec_int rfl (hf (1, 12) (by simp))
    have e1 : [a1] = [.int .u64 x1] := e1
    cases e1
    exact ⟨⟨x0, x1⟩, ⟨k0, k1⟩, rfl⟩
structure GS37 where
  ver : Int
  segs : (List Int)
  size : Int
  sum : Int
def GS37.cells (x : GS37) : List D := [.int .i64 x.ver, dl 1 (D.int .i64) x.segs, .int .i64 x.size, .int .u32 x.sum]
def GS37.d (x : GS37) : D := .agg [.int .i64 x.ver, dl 1 (D.int .i64) x.segs, .int .i64 x.size, .int .u32 x.sum]
def GS37.ok (x : GS37) : Prop := (okInt .i64) x.ver ∧ (okL (okInt .i64)) x.segs ∧ (okInt .i64) x.size ∧ (okInt .u32) x.sum
theorem GS37.noIds (x : GS37) : x.d.noIds = true := by
  simp only [GS37.d, dl, byteD, ni_agg, ni_consL, ni_nilL, ni_int, ni_bool, ni_str, ni_sl, Bool.and_self, noL _ (ni_int _)]
theorem dec_37 {n : Nat} {xs : List D} (h : TypedC ty n 37 xs) : ∃ x : GS37, x.ok ∧ xs = x.cells := by
  obtain ⟨n, hl, hf⟩ := struct_of (fs := [(0, 3), (1, 35), (2, 3), (3, 36)]) rfl h
  have hl : xs.length = 4 := hl
  match xs, hl, hf with
  | [a0, a1, a2, a3], _, hf =>
    obtain ⟨x0, k0, e0⟩ := dec_int rfl (hf (0, 3) (by simp))
    have e0 : [a0] = [.int .i64 x0] := e0
    cases e0
    obtain ⟨x1, k1, e1⟩ := dec_slice (f := (D.int .i64)) (p := (okInt .i64)) rfl (fun n ys h => by obtain ⟨x, k, rfl⟩ := dec_int rfl h; exact ⟨x, k, rfl⟩) (hf (1, 35) (by simp))
    have e1 : [a1] = [dl 1 (D.int .i64) x1] := e1
    cases e1
    obtain ⟨x2, k2, e2⟩ := dec_int rfl (hf (2, 3) (by simp))
    have e2 : [a2] = [.int .i64 x2] := e2
    cases e2
    obtain ⟨x3, k3, e3⟩ := dec_int rfl (hf (3, 36) (by simp))
    have e3 : [a3] = [.int .u32 x3] := e3
    cases e3
    exact ⟨⟨x0, x1, x2, x3⟩, ⟨k0, k1, k2, k3⟩, rfl⟩
structure GS67 where
  s : (List UInt8)
  at' : Int
  bad : Bool
def GS67.cells (x : GS67) : List D := [.str x.s, .int .i64 x.at', .bool x.bad]
def GS67.d (x : GS67) : D := .agg [.str x.s, .int .i64 x.at', .bool x.bad]
def GS67.ok (x : GS67) : Prop := okStr x.s ∧ (okInt .i64) x.at' ∧ okT x.bad
theorem GS67.noIds (x : GS67) : x.d.noIds = true := by
  simp only [GS67.d, dl, byteD, ni_agg, ni_consL, ni_nilL, ni_int, ni_bool, ni_str, ni_sl, Bool.and_self]
theorem dec_67 {n : Nat} {xs : List D} (h : TypedC ty n 67 xs) : ∃ x : GS67, x.ok ∧ xs = x.cells := by
  obtain ⟨n, hl, hf⟩ := struct_of (fs := [(0, 9), (1, 3), (2, 4)]) rfl h
  have hl : xs.length = 3 := hl
  match xs, hl, hf with
  | [a0, a1, a2], _, hf =>
    obtain ⟨x0, k0, e0⟩ := dec_str rfl (hf (0, 9) (by simp))
    have e0 : [a0] = [.str x0] := e0
    cases e0
    obtain ⟨x1, k1, e1⟩ := dec_int rfl (hf (1, 3) (by simp))
    have e1 : [a1] = [.int .i64 x1] := e1
    cases e1
    obtain ⟨x2, k2, e2⟩ := dec_bool rfl (hf (2, 4) (by simp))
    have e2 : [a2] = [.bool x2] := e2
    cases e2
    exact ⟨⟨x0, x1, x2⟩, ⟨k0, k1, k2⟩, rfl⟩
structure GReader where
  s : (List UInt8)
  at' : Int
  bad : Bool
def GReader.cells (x : GReader) : List D := [.str x.s, .int .i64 x.at', .bool x.bad]
def GReader.d (x : GReader) : D := .agg [.str x.s, .int .i64 x.at', .bool x.bad]
def GReader.ok (x : GReader) : Prop := okStr x.s ∧ (okInt .i64) x.at' ∧ okT x.bad
theorem GReader.noIds (x : GReader) : x.d.noIds = true := by
  simp only [GReader.d, dl, byteD, ni_agg, ni_consL, ni_nilL, ni_int, ni_bool, ni_str, ni_sl, Bool.and_self]
theorem dec_68 {n : Nat} {xs : List D} (h : TypedC ty n 68 xs) : ∃ x : GReader, x.ok ∧ xs = x.cells := by
  obtain ⟨n, hl, hf⟩ := struct_of (fs := [(0, 9), (1, 3), (2, 4)]) rfl h
  have hl : xs.length = 3 := hl
  match xs, hl, hf with
  | [a0, a1, a2], _, hf =>
    obtain ⟨x0, k0, e0⟩ := dec_str rfl (hf (0, 9) (by simp))
    have e0 : [a0] = [.str x0] := e0
    cases e0
    obtain ⟨x1, k1, e1⟩ := dec_int rfl (hf (1, 3) (by simp))
    have e1 : [a1] = [.int .i64 x1] := e1
    cases e1
    obtain ⟨x2, k2, e2⟩ := dec_bool rfl (hf (2, 4) (by simp))
    have e2 : [a2] = [.bool x2] := e2
    cases e2
    exact ⟨⟨x0, x1, x2⟩, ⟨k0, k1, k2⟩, rfl⟩
structure GS72 where
  kind : Int
  node : Int
  n : Int
  k : Int
  data : (List UInt8)
  keep : (List Int)
def GS72.cells (x : GS72) : List D := [.int .i64 x.kind, .int .i64 x.node, .int .i64 x.n, .int .i64 x.k, .str x.data, dl 1 (D.int .i64) x.keep]
def GS72.d (x : GS72) : D := .agg [.int .i64 x.kind, .int .i64 x.node, .int .i64 x.n, .int .i64 x.k, .str x.data, dl 1 (D.int .i64) x.keep]
def GS72.ok (x : GS72) : Prop := (okInt .i64) x.kind ∧ (okInt .i64) x.node ∧ (okInt .i64) x.n ∧ (okInt .i64) x.k ∧ okStr x.data ∧ (okL (okInt .i64)) x.keep
theorem GS72.noIds (x : GS72) : x.d.noIds = true := by
  simp only [GS72.d, dl, byteD, ni_agg, ni_consL, ni_nilL, ni_int, ni_bool, ni_str, ni_sl, Bool.and_self, noL _ (ni_int _)]
theorem dec_72 {n : Nat} {xs : List D} (h : TypedC ty n 72 xs) : ∃ x : GS72, x.ok ∧ xs = x.cells := by
  obtain ⟨n, hl, hf⟩ := struct_of (fs := [(0, 3), (1, 3), (2, 3), (3, 3), (4, 9), (5, 35)]) rfl h
  have hl : xs.length = 6 := hl
  match xs, hl, hf with
  | [a0, a1, a2, a3, a4, a5], _, hf =>
    obtain ⟨x0, k0, e0⟩ := dec_int rfl (hf (0, 3) (by simp))
    have e0 : [a0] = [.int .i64 x0] := e0
    cases e0
    obtain ⟨x1, k1, e1⟩ := dec_int rfl (hf (1, 3) (by simp))
    have e1 : [a1] = [.int .i64 x1] := e1
    cases e1
    obtain ⟨x2, k2, e2⟩ := dec_int rfl (hf (2, 3) (by simp))
    have e2 : [a2] = [.int .i64 x2] := e2
    cases e2
    obtain ⟨x3, k3, e3⟩ := dec_int rfl (hf (3, 3) (by simp))
    have e3 : [a3] = [.int .i64 x3] := e3
    cases e3
    obtain ⟨x4, k4, e4⟩ := dec_str rfl (hf (4, 9) (by simp))
    have e4 : [a4] = [.str x4] := e4
    cases e4
    obtain ⟨x5, k5, e5⟩ := dec_slice (f := (D.int .i64)) (p := (okInt .i64)) rfl (fun n ys h => by obtain ⟨x, k, rfl⟩ := dec_int rfl h; exact ⟨x, k, rfl⟩) (hf (5, 35) (by simp))
    have e5 : [a5] = [dl 1 (D.int .i64) x5] := e5
    cases e5
    exact ⟨⟨x0, x1, x2, x3, x4, x5⟩, ⟨k0, k1, k2, k3, k4, k5⟩, rfl⟩

theorem mixed : Try.prog.follows .mixedOrders = true := by decide
theorem Try.own : ownKnob Try.prog.godebug = none := by kernel_rfl
theorem Try.laidOut : laidOutB Try.prog = true := by kernel_rfl

theorem args_VarintTells {n : Nat} {Ds : List D} (h : TypedAll ty n [3, 9, 3] Ds) : ∃ (p0 : Int) (p1 : (List UInt8)) (p2 : Int), ((okInt .i64) p0 ∧ okStr p1 ∧ (okInt .i64) p2) ∧ Ds = [(D.int .i64) p0, D.str p1, (D.int .i64) p2] := by
  match Ds, h with
  | [e0, e1, e2], h =>
    obtain ⟨⟨y0, h0, g0⟩, ⟨y1, h1, g1⟩, ⟨y2, h2, g2⟩, _⟩ := h
    obtain ⟨p0, k0, rfl⟩ := dec_int rfl h0
    subst g0
    obtain ⟨p1, k1, rfl⟩ := dec_str rfl h1
    subst g1
    obtain ⟨p2, k2, rfl⟩ := dec_int rfl h2
    subst g2
    exact ⟨p0, p1, p2, ⟨k0, k1, k2⟩, rfl⟩

theorem lift_VarintTells (h : ∀ (p0 : Int) (p1 : (List UInt8)) (p2 : Int), (okInt .i64) p0 → okStr p1 → (okInt .i64) p2 → PureF Try.prog 3 [(D.int .i64) p0, D.str p1, (D.int .i64) p2] (.bool true)) (os : Os) (started : os.Started) (H : Type) (enc : TypeId × Value → H) :
    ReturnsInHanded {} Try.checked os 3 .any (Rows.varintTellsSpec.pre6 enc Try.prog Try.f3 Rows.varintTellsRow.domain false) (Rows.varintTellsSpec.post enc Try.prog Try.f3 false true false false) :=
  lifted (C := Try.checked) (τ := ty) (t := 4) 16 Try.own started (by kernel_rfl) Try.func3
    (ChangeSpec.witness6 (enc := enc) (C := Try.checked) false ⟨#[], #[(.int .i64 0), (.string ByteArray.empty), (.int .i64 0)], []⟩ 16 (by kernel_rfl) (by kernel_rfl) (by kernel_rfl) (by kernel_rfl))
    tyOk Try.laidOut (by kernel_rfl) (by kernel_rfl) rfl (fun ds hd => by
      match ds, hd with
      | [_, _, _], _ => rfl) rfl Try.underlying4 (fun Ds hDs => by
      obtain ⟨p0, p1, p2, ⟨k0, k1, k2⟩, rfl⟩ := args_VarintTells hDs
      exact h p0 p1 p2 k0 k1 k2)

theorem args_VarintBack {n : Nat} {Ds : List D} (h : TypedAll ty n [3, 9, 9] Ds) : ∃ (p0 : Int) (p1 : (List UInt8)) (p2 : (List UInt8)), ((okInt .i64) p0 ∧ okStr p1 ∧ okStr p2) ∧ Ds = [(D.int .i64) p0, D.str p1, D.str p2] := by
  match Ds, h with
  | [e0, e1, e2], h =>
    obtain ⟨⟨y0, h0, g0⟩, ⟨y1, h1, g1⟩, ⟨y2, h2, g2⟩, _⟩ := h
    obtain ⟨p0, k0, rfl⟩ := dec_int rfl h0
    subst g0
    obtain ⟨p1, k1, rfl⟩ := dec_str rfl h1
    subst g1
    obtain ⟨p2, k2, rfl⟩ := dec_str rfl h2
    subst g2
    exact ⟨p0, p1, p2, ⟨k0, k1, k2⟩, rfl⟩

theorem lift_VarintBack (h : ∀ (p0 : Int) (p1 : (List UInt8)) (p2 : (List UInt8)), (okInt .i64) p0 → okStr p1 → okStr p2 → PureF Try.prog 4 [(D.int .i64) p0, D.str p1, D.str p2] (.bool true)) (os : Os) (started : os.Started) (H : Type) (enc : TypeId × Value → H) :
    ReturnsInHanded {} Try.checked os 4 .any (Rows.varintBackSpec.pre6 enc Try.prog Try.f4 Rows.varintBackRow.domain false) (Rows.varintBackSpec.post enc Try.prog Try.f4 false true false false) :=
  lifted (C := Try.checked) (τ := ty) (t := 4) 16 Try.own started (by kernel_rfl) Try.func4
    (ChangeSpec.witness6 (enc := enc) (C := Try.checked) false ⟨#[], #[(.int .i64 0), (.string ByteArray.empty), (.string ByteArray.empty)], []⟩ 16 (by kernel_rfl) (by kernel_rfl) (by kernel_rfl) (by kernel_rfl))
    tyOk Try.laidOut (by kernel_rfl) (by kernel_rfl) rfl (fun ds hd => by
      match ds, hd with
      | [_, _, _], _ => rfl) rfl Try.underlying4 (fun Ds hDs => by
      obtain ⟨p0, p1, p2, ⟨k0, k1, k2⟩, rfl⟩ := args_VarintBack hDs
      exact h p0 p1 p2 k0 k1 k2)

theorem args_VarintOnce {n : Nat} {Ds : List D} (h : TypedAll ty n [9, 3] Ds) : ∃ (p0 : (List UInt8)) (p1 : Int), (okStr p0 ∧ (okInt .i64) p1) ∧ Ds = [D.str p0, (D.int .i64) p1] := by
  match Ds, h with
  | [e0, e1], h =>
    obtain ⟨⟨y0, h0, g0⟩, ⟨y1, h1, g1⟩, _⟩ := h
    obtain ⟨p0, k0, rfl⟩ := dec_str rfl h0
    subst g0
    obtain ⟨p1, k1, rfl⟩ := dec_int rfl h1
    subst g1
    exact ⟨p0, p1, ⟨k0, k1⟩, rfl⟩

theorem lift_VarintOnce (h : ∀ (p0 : (List UInt8)) (p1 : Int), okStr p0 → (okInt .i64) p1 → PureF Try.prog 5 [D.str p0, (D.int .i64) p1] (.bool true)) (os : Os) (started : os.Started) (H : Type) (enc : TypeId × Value → H) :
    ReturnsInHanded {} Try.checked os 5 .any (Rows.varintOnceSpec.pre6 enc Try.prog Try.f5 Rows.varintOnceRow.domain false) (Rows.varintOnceSpec.post enc Try.prog Try.f5 false true false false) :=
  lifted (C := Try.checked) (τ := ty) (t := 4) 16 Try.own started (by kernel_rfl) Try.func5
    (ChangeSpec.witness6 (enc := enc) (C := Try.checked) false ⟨#[], #[(.string ByteArray.empty), (.int .i64 0)], []⟩ 16 (by kernel_rfl) (by kernel_rfl) (by kernel_rfl) (by kernel_rfl))
    tyOk Try.laidOut (by kernel_rfl) (by kernel_rfl) rfl (fun ds hd => by
      match ds, hd with
      | [_, _], _ => rfl) rfl Try.underlying4 (fun Ds hDs => by
      obtain ⟨p0, p1, ⟨k0, k1⟩, rfl⟩ := args_VarintOnce hDs
      exact h p0 p1 k0 k1)

theorem args_VarintRises {n : Nat} {Ds : List D} (h : TypedAll ty n [3, 3] Ds) : ∃ (p0 : Int) (p1 : Int), ((okInt .i64) p0 ∧ (okInt .i64) p1) ∧ Ds = [(D.int .i64) p0, (D.int .i64) p1] := by
  match Ds, h with
  | [e0, e1], h =>
    obtain ⟨⟨y0, h0, g0⟩, ⟨y1, h1, g1⟩, _⟩ := h
    obtain ⟨p0, k0, rfl⟩ := dec_int rfl h0
    subst g0
    obtain ⟨p1, k1, rfl⟩ := dec_int rfl h1
    subst g1
    exact ⟨p0, p1, ⟨k0, k1⟩, rfl⟩

theorem lift_VarintRises (h : ∀ (p0 : Int) (p1 : Int), (okInt .i64) p0 → (okInt .i64) p1 → PureF Try.prog 6 [(D.int .i64) p0, (D.int .i64) p1] (.bool true)) (os : Os) (started : os.Started) (H : Type) (enc : TypeId × Value → H) :
    ReturnsInHanded {} Try.checked os 6 .any (Rows.varintRisesSpec.pre6 enc Try.prog Try.f6 Rows.varintRisesRow.domain false) (Rows.varintRisesSpec.post enc Try.prog Try.f6 false true false false) :=
  lifted (C := Try.checked) (τ := ty) (t := 4) 16 Try.own started (by kernel_rfl) Try.func6
    (ChangeSpec.witness6 (enc := enc) (C := Try.checked) false ⟨#[], #[(.int .i64 0), (.int .i64 0)], []⟩ 16 (by kernel_rfl) (by kernel_rfl) (by kernel_rfl) (by kernel_rfl))
    tyOk Try.laidOut (by kernel_rfl) (by kernel_rfl) rfl (fun ds hd => by
      match ds, hd with
      | [_, _], _ => rfl) rfl Try.underlying4 (fun Ds hDs => by
      obtain ⟨p0, p1, ⟨k0, k1⟩, rfl⟩ := args_VarintRises hDs
      exact h p0 p1 k0 k1)

theorem args_VarintJoins {n : Nat} {Ds : List D} (h : TypedAll ty n [31] Ds) : ∃ (p0 : (List Int)), ((okL (okInt .u64)) p0) ∧ Ds = [(dl 1 (D.int .u64)) p0] := by
  match Ds, h with
  | [e0], h =>
    obtain ⟨⟨y0, h0, g0⟩, _⟩ := h
    obtain ⟨p0, k0, rfl⟩ := dec_slice (f := (D.int .u64)) (p := (okInt .u64)) rfl (fun n ys h => by obtain ⟨x, k, rfl⟩ := dec_int rfl h; exact ⟨x, k, rfl⟩) h0
    subst g0
    exact ⟨p0, k0, rfl⟩

theorem lift_VarintJoins (h : ∀ (p0 : (List Int)), (okL (okInt .u64)) p0 → PureF Try.prog 7 [(dl 1 (D.int .u64)) p0] (.bool true)) (os : Os) (started : os.Started) (H : Type) (enc : TypeId × Value → H) :
    ReturnsInHanded {} Try.checked os 7 .any (Rows.varintJoinsSpec.pre6 enc Try.prog Try.f7 Rows.varintJoinsRow.domain false) (Rows.varintJoinsSpec.post enc Try.prog Try.f7 false true false false) :=
  lifted (C := Try.checked) (τ := ty) (t := 4) 16 Try.own started (by kernel_rfl) Try.func7
    (ChangeSpec.witness6 (enc := enc) (C := Try.checked) false ⟨#[], #[(.slice none 0 0)], []⟩ 16 (by kernel_rfl) (by kernel_rfl) (by kernel_rfl) (by kernel_rfl))
    tyOk Try.laidOut (by kernel_rfl) (by kernel_rfl) rfl (fun ds hd => by
      match ds, hd with
      | [_], _ => rfl) rfl Try.underlying4 (fun Ds hDs => by
      obtain ⟨p0, k0, rfl⟩ := args_VarintJoins hDs
      exact h p0 k0)

theorem args_ManifestTells {n : Nat} {Ds : List D} (h : TypedAll ty n [38, 9] Ds) : ∃ (p0 : GMan) (p1 : (List UInt8)), (GMan.ok p0 ∧ okStr p1) ∧ Ds = [GMan.d p0, D.str p1] := by
  match Ds, h with
  | [e0, e1], h =>
    obtain ⟨⟨y0, h0, g0⟩, ⟨y1, h1, g1⟩, _⟩ := h
    obtain ⟨p0, k0, rfl⟩ := dec_38 h0
    subst g0
    obtain ⟨p1, k1, rfl⟩ := dec_str rfl h1
    subst g1
    exact ⟨p0, p1, ⟨k0, k1⟩, rfl⟩

theorem lift_ManifestTells (h : ∀ (p0 : GMan) (p1 : (List UInt8)), GMan.ok p0 → okStr p1 → PureF Try.prog 8 [GMan.d p0, D.str p1] (.bool true)) (os : Os) (started : os.Started) (H : Type) (enc : TypeId × Value → H) :
    ReturnsInHanded {} Try.checked os 8 .any (Rows.manifestTellsSpec.pre6 enc Try.prog Try.f8 Rows.manifestTellsRow.domain false) (Rows.manifestTellsSpec.post enc Try.prog Try.f8 false true false false) :=
  lifted (C := Try.checked) (τ := ty) (t := 4) 16 Try.own started (by kernel_rfl) Try.func8
    (ChangeSpec.witness6 (enc := enc) (C := Try.checked) false ⟨#[], #[(.agg #[.int .i64 0, .slice none 0 0, .int .i64 0, .int .u32 0]), (.string ByteArray.empty)], []⟩ 16 (by kernel_rfl) (by kernel_rfl) (by kernel_rfl) (by kernel_rfl))
    tyOk Try.laidOut (by kernel_rfl) (by kernel_rfl) rfl (fun ds hd => by
      match ds, hd with
      | [_, _], _ => rfl) rfl Try.underlying4 (fun Ds hDs => by
      obtain ⟨p0, p1, ⟨k0, k1⟩, rfl⟩ := args_ManifestTells hDs
      exact h p0 p1 k0 k1)

theorem args_ManifestFramed {n : Nat} {Ds : List D} (h : TypedAll ty n [9, 9] Ds) : ∃ (p0 : (List UInt8)) (p1 : (List UInt8)), (okStr p0 ∧ okStr p1) ∧ Ds = [D.str p0, D.str p1] := by
  match Ds, h with
  | [e0, e1], h =>
    obtain ⟨⟨y0, h0, g0⟩, ⟨y1, h1, g1⟩, _⟩ := h
    obtain ⟨p0, k0, rfl⟩ := dec_str rfl h0
    subst g0
    obtain ⟨p1, k1, rfl⟩ := dec_str rfl h1
    subst g1
    exact ⟨p0, p1, ⟨k0, k1⟩, rfl⟩

theorem lift_ManifestFramed (h : ∀ (p0 : (List UInt8)) (p1 : (List UInt8)), okStr p0 → okStr p1 → PureF Try.prog 9 [D.str p0, D.str p1] (.bool true)) (os : Os) (started : os.Started) (H : Type) (enc : TypeId × Value → H) :
    ReturnsInHanded {} Try.checked os 9 .any (Rows.manifestFramedSpec.pre6 enc Try.prog Try.f9 Rows.manifestFramedRow.domain false) (Rows.manifestFramedSpec.post enc Try.prog Try.f9 false true false false) :=
  lifted (C := Try.checked) (τ := ty) (t := 4) 16 Try.own started (by kernel_rfl) Try.func9
    (ChangeSpec.witness6 (enc := enc) (C := Try.checked) false ⟨#[], #[(.string ByteArray.empty), (.string ByteArray.empty)], []⟩ 16 (by kernel_rfl) (by kernel_rfl) (by kernel_rfl) (by kernel_rfl))
    tyOk Try.laidOut (by kernel_rfl) (by kernel_rfl) rfl (fun ds hd => by
      match ds, hd with
      | [_, _], _ => rfl) rfl Try.underlying4 (fun Ds hDs => by
      obtain ⟨p0, p1, ⟨k0, k1⟩, rfl⟩ := args_ManifestFramed hDs
      exact h p0 p1 k0 k1)

theorem args_ManifestBack {n : Nat} {Ds : List D} (h : TypedAll ty n [38, 49] Ds) : ∃ (p0 : GMan) (p1 : Int), (GMan.ok p0 ∧ (okInt .u16) p1) ∧ Ds = [GMan.d p0, (D.int .u16) p1] := by
  match Ds, h with
  | [e0, e1], h =>
    obtain ⟨⟨y0, h0, g0⟩, ⟨y1, h1, g1⟩, _⟩ := h
    obtain ⟨p0, k0, rfl⟩ := dec_38 h0
    subst g0
    obtain ⟨p1, k1, rfl⟩ := dec_int rfl h1
    subst g1
    exact ⟨p0, p1, ⟨k0, k1⟩, rfl⟩

theorem lift_ManifestBack (h : ∀ (p0 : GMan) (p1 : Int), GMan.ok p0 → (okInt .u16) p1 → PureF Try.prog 10 [GMan.d p0, (D.int .u16) p1] (.bool true)) (os : Os) (started : os.Started) (H : Type) (enc : TypeId × Value → H) :
    ReturnsInHanded {} Try.checked os 10 .any (Rows.manifestBackSpec.pre6 enc Try.prog Try.f10 Rows.manifestBackRow.domain false) (Rows.manifestBackSpec.post enc Try.prog Try.f10 false true false false) :=
  lifted (C := Try.checked) (τ := ty) (t := 4) 16 Try.own started (by kernel_rfl) Try.func10
    (ChangeSpec.witness6 (enc := enc) (C := Try.checked) false ⟨#[], #[(.agg #[.int .i64 0, .slice none 0 0, .int .i64 0, .int .u32 0]), (.int .u16 0)], []⟩ 16 (by kernel_rfl) (by kernel_rfl) (by kernel_rfl) (by kernel_rfl))
    tyOk Try.laidOut (by kernel_rfl) (by kernel_rfl) rfl (fun ds hd => by
      match ds, hd with
      | [_, _], _ => rfl) rfl Try.underlying4 (fun Ds hDs => by
      obtain ⟨p0, p1, ⟨k0, k1⟩, rfl⟩ := args_ManifestBack hDs
      exact h p0 p1 k0 k1)

theorem args_ScriptTells {n : Nat} {Ds : List D} (h : TypedAll ty n [51, 9] Ds) : ∃ (p0 : (List GOp)) (p1 : (List UInt8)), ((okL GOp.ok) p0 ∧ okStr p1) ∧ Ds = [(dl 6 GOp.d) p0, D.str p1] := by
  match Ds, h with
  | [e0, e1], h =>
    obtain ⟨⟨y0, h0, g0⟩, ⟨y1, h1, g1⟩, _⟩ := h
    obtain ⟨p0, k0, rfl⟩ := dec_slice (f := GOp.d) (p := GOp.ok) rfl (fun n ys h => by obtain ⟨x, k, rfl⟩ := dec_73 h; exact ⟨x, k, rfl⟩) h0
    subst g0
    obtain ⟨p1, k1, rfl⟩ := dec_str rfl h1
    subst g1
    exact ⟨p0, p1, ⟨k0, k1⟩, rfl⟩

theorem lift_ScriptTells (h : ∀ (p0 : (List GOp)) (p1 : (List UInt8)), (okL GOp.ok) p0 → okStr p1 → PureF Try.prog 11 [(dl 6 GOp.d) p0, D.str p1] (.bool true)) (os : Os) (started : os.Started) (H : Type) (enc : TypeId × Value → H) :
    ReturnsInHanded {} Try.checked os 11 .any (Rows.scriptTellsSpec.pre6 enc Try.prog Try.f11 Rows.scriptTellsRow.domain false) (Rows.scriptTellsSpec.post enc Try.prog Try.f11 false true false false) :=
  lifted (C := Try.checked) (τ := ty) (t := 4) 16 Try.own started (by kernel_rfl) Try.func11
    (ChangeSpec.witness6 (enc := enc) (C := Try.checked) false ⟨#[], #[(.slice none 0 0), (.string ByteArray.empty)], []⟩ 16 (by kernel_rfl) (by kernel_rfl) (by kernel_rfl) (by kernel_rfl))
    tyOk Try.laidOut (by kernel_rfl) (by kernel_rfl) rfl (fun ds hd => by
      match ds, hd with
      | [_, _], _ => rfl) rfl Try.underlying4 (fun Ds hDs => by
      obtain ⟨p0, p1, ⟨k0, k1⟩, rfl⟩ := args_ScriptTells hDs
      exact h p0 p1 k0 k1)

theorem args_ScriptFramed {n : Nat} {Ds : List D} (h : TypedAll ty n [58] Ds) : ∃ (p0 : (List (List UInt8))), ((okL okStr) p0) ∧ Ds = [(dl 1 D.str) p0] := by
  match Ds, h with
  | [e0], h =>
    obtain ⟨⟨y0, h0, g0⟩, _⟩ := h
    obtain ⟨p0, k0, rfl⟩ := dec_slice (f := D.str) (p := okStr) rfl (fun n ys h => by obtain ⟨x, k, rfl⟩ := dec_str rfl h; exact ⟨x, k, rfl⟩) h0
    subst g0
    exact ⟨p0, k0, rfl⟩

theorem lift_ScriptFramed (h : ∀ (p0 : (List (List UInt8))), (okL okStr) p0 → PureF Try.prog 12 [(dl 1 D.str) p0] (.bool true)) (os : Os) (started : os.Started) (H : Type) (enc : TypeId × Value → H) :
    ReturnsInHanded {} Try.checked os 12 .any (Rows.scriptFramedSpec.pre6 enc Try.prog Try.f12 Rows.scriptFramedRow.domain false) (Rows.scriptFramedSpec.post enc Try.prog Try.f12 false true false false) :=
  lifted (C := Try.checked) (τ := ty) (t := 4) 16 Try.own started (by kernel_rfl) Try.func12
    (ChangeSpec.witness6 (enc := enc) (C := Try.checked) false ⟨#[], #[(.slice none 0 0)], []⟩ 16 (by kernel_rfl) (by kernel_rfl) (by kernel_rfl) (by kernel_rfl))
    tyOk Try.laidOut (by kernel_rfl) (by kernel_rfl) rfl (fun ds hd => by
      match ds, hd with
      | [_], _ => rfl) rfl Try.underlying4 (fun Ds hDs => by
      obtain ⟨p0, k0, rfl⟩ := args_ScriptFramed hDs
      exact h p0 k0)

theorem args_ScriptBack {n : Nat} {Ds : List D} (h : TypedAll ty n [51, 9, 49] Ds) : ∃ (p0 : (List GOp)) (p1 : (List UInt8)) (p2 : Int), ((okL GOp.ok) p0 ∧ okStr p1 ∧ (okInt .u16) p2) ∧ Ds = [(dl 6 GOp.d) p0, D.str p1, (D.int .u16) p2] := by
  match Ds, h with
  | [e0, e1, e2], h =>
    obtain ⟨⟨y0, h0, g0⟩, ⟨y1, h1, g1⟩, ⟨y2, h2, g2⟩, _⟩ := h
    obtain ⟨p0, k0, rfl⟩ := dec_slice (f := GOp.d) (p := GOp.ok) rfl (fun n ys h => by obtain ⟨x, k, rfl⟩ := dec_73 h; exact ⟨x, k, rfl⟩) h0
    subst g0
    obtain ⟨p1, k1, rfl⟩ := dec_str rfl h1
    subst g1
    obtain ⟨p2, k2, rfl⟩ := dec_int rfl h2
    subst g2
    exact ⟨p0, p1, p2, ⟨k0, k1, k2⟩, rfl⟩

theorem lift_ScriptBack (h : ∀ (p0 : (List GOp)) (p1 : (List UInt8)) (p2 : Int), (okL GOp.ok) p0 → okStr p1 → (okInt .u16) p2 → PureF Try.prog 13 [(dl 6 GOp.d) p0, D.str p1, (D.int .u16) p2] (.bool true)) (os : Os) (started : os.Started) (H : Type) (enc : TypeId × Value → H) :
    ReturnsInHanded {} Try.checked os 13 .any (Rows.scriptBackSpec.pre6 enc Try.prog Try.f13 Rows.scriptBackRow.domain false) (Rows.scriptBackSpec.post enc Try.prog Try.f13 false true false false) :=
  lifted (C := Try.checked) (τ := ty) (t := 4) 16 Try.own started (by kernel_rfl) Try.func13
    (ChangeSpec.witness6 (enc := enc) (C := Try.checked) false ⟨#[], #[(.slice none 0 0), (.string ByteArray.empty), (.int .u16 0)], []⟩ 16 (by kernel_rfl) (by kernel_rfl) (by kernel_rfl) (by kernel_rfl))
    tyOk Try.laidOut (by kernel_rfl) (by kernel_rfl) rfl (fun ds hd => by
      match ds, hd with
      | [_, _, _], _ => rfl) rfl Try.underlying4 (fun Ds hDs => by
      obtain ⟨p0, p1, p2, ⟨k0, k1, k2⟩, rfl⟩ := args_ScriptBack hDs
      exact h p0 p1 p2 k0 k1 k2)

theorem args_ScriptJoins {n : Nat} {Ds : List D} (h : TypedAll ty n [51, 51] Ds) : ∃ (p0 : (List GOp)) (p1 : (List GOp)), ((okL GOp.ok) p0 ∧ (okL GOp.ok) p1) ∧ Ds = [(dl 6 GOp.d) p0, (dl 6 GOp.d) p1] := by
  match Ds, h with
  | [e0, e1], h =>
    obtain ⟨⟨y0, h0, g0⟩, ⟨y1, h1, g1⟩, _⟩ := h
    obtain ⟨p0, k0, rfl⟩ := dec_slice (f := GOp.d) (p := GOp.ok) rfl (fun n ys h => by obtain ⟨x, k, rfl⟩ := dec_73 h; exact ⟨x, k, rfl⟩) h0
    subst g0
    obtain ⟨p1, k1, rfl⟩ := dec_slice (f := GOp.d) (p := GOp.ok) rfl (fun n ys h => by obtain ⟨x, k, rfl⟩ := dec_73 h; exact ⟨x, k, rfl⟩) h1
    subst g1
    exact ⟨p0, p1, ⟨k0, k1⟩, rfl⟩

theorem lift_ScriptJoins (h : ∀ (p0 : (List GOp)) (p1 : (List GOp)), (okL GOp.ok) p0 → (okL GOp.ok) p1 → PureF Try.prog 14 [(dl 6 GOp.d) p0, (dl 6 GOp.d) p1] (.bool true)) (os : Os) (started : os.Started) (H : Type) (enc : TypeId × Value → H) :
    ReturnsInHanded {} Try.checked os 14 .any (Rows.scriptJoinsSpec.pre6 enc Try.prog Try.f14 Rows.scriptJoinsRow.domain false) (Rows.scriptJoinsSpec.post enc Try.prog Try.f14 false true false false) :=
  lifted (C := Try.checked) (τ := ty) (t := 4) 16 Try.own started (by kernel_rfl) Try.func14
    (ChangeSpec.witness6 (enc := enc) (C := Try.checked) false ⟨#[], #[(.slice none 0 0), (.slice none 0 0)], []⟩ 16 (by kernel_rfl) (by kernel_rfl) (by kernel_rfl) (by kernel_rfl))
    tyOk Try.laidOut (by kernel_rfl) (by kernel_rfl) rfl (fun ds hd => by
      match ds, hd with
      | [_, _], _ => rfl) rfl Try.underlying4 (fun Ds hDs => by
      obtain ⟨p0, p1, ⟨k0, k1⟩, rfl⟩ := args_ScriptJoins hDs
      exact h p0 p1 k0 k1)

end Go.Proofs.Ytbabdalfkmdlhaa
