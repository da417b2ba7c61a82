/- The data types of this translation, and the rows of its laws, from functions of data. PRINTED by a program of this session (wip/tools/gendata.py). -/
import Derived.Test.YtlkffgmejcgdbaaT
import Derived.Test.YtlkffgmejcgdbaaL4
import Derived.Test.YtlkffgmejcgdbaaRows
namespace Go.Proofs.Ytlkffgmejcgdbaa
set_option linter.all false
open Go.ChangeShapes Go.WideShapes Go.ChangeAt Go.RowKit

structure GAct where
  kind : Int
  n : Int
  name : (List UInt8)
  to' : (List UInt8)
  keep : (List Int)
def GAct.cells (x : GAct) : List D := [.int .i64 x.kind, .int .i64 x.n, .str x.name, .str x.to', dl 1 (D.int .i64) x.keep]
def GAct.d (x : GAct) : D := .agg [.int .i64 x.kind, .int .i64 x.n, .str x.name, .str x.to', dl 1 (D.int .i64) x.keep]
def GAct.ok (x : GAct) : Prop := (okInt .i64) x.kind ∧ (okInt .i64) x.n ∧ okStr x.name ∧ okStr x.to' ∧ (okL (okInt .i64)) x.keep
theorem GAct.noIds (x : GAct) : x.d.noIds = true := by
  simp only [GAct.d, dl, byteD, ni_agg, ni_consL, ni_nilL, ni_int, ni_bool, ni_str, ni_sl, Bool.and_self, noL _ (ni_int _)]
theorem dec_33 {n : Nat} {xs : List D} (h : TypedC ty n 33 xs) : ∃ x : GAct, x.ok ∧ xs = x.cells := by
  obtain ⟨n, hl, hf⟩ := struct_of (fs := [(0, 3), (1, 3), (2, 9), (3, 9), (4, 31)]) rfl h
  have hl : xs.length = 5 := hl
  match xs, hl, hf with
  | [a0, a1, a2, a3, a4], _, hf =>
    obtain ⟨x0, k0, e0⟩ := dec_int rfl (hf (0, 3) (by simp))
    have e0 : [a0] = [.int .i64 x0] := e0
    cases e0
    obtain ⟨x1, k1, e1⟩ := dec_int rfl (hf (1, 3) (by simp))
    have e1 : [a1] = [.int .i64 x1] := e1
    cases e1
    obtain ⟨x2, k2, e2⟩ := dec_str rfl (hf (2, 9) (by simp))
    have e2 : [a2] = [.str x2] := e2
    cases e2
    obtain ⟨x3, k3, e3⟩ := dec_str rfl (hf (3, 9) (by simp))
    have e3 : [a3] = [.str x3] := e3
    cases e3
    obtain ⟨x4, k4, e4⟩ := dec_slice (f := (D.int .i64)) (p := (okInt .i64)) rfl (fun n ys h => by obtain ⟨x, k, rfl⟩ := dec_int rfl h; exact ⟨x, k, rfl⟩) (hf (4, 31) (by simp))
    have e4 : [a4] = [dl 1 (D.int .i64) x4] := e4
    cases e4
    exact ⟨⟨x0, x1, x2, x3, x4⟩, ⟨k0, k1, k2, k3, k4⟩, rfl⟩
structure GFile where
  name : (List UInt8)
  data : (List UInt8)
  sure : Int
def GFile.cells (x : GFile) : List D := [.str x.name, .str x.data, .int .i64 x.sure]
def GFile.d (x : GFile) : D := .agg [.str x.name, .str x.data, .int .i64 x.sure]
def GFile.ok (x : GFile) : Prop := okStr x.name ∧ okStr x.data ∧ (okInt .i64) x.sure
theorem GFile.noIds (x : GFile) : x.d.noIds = true := by
  simp only [GFile.d, dl, byteD, ni_agg, ni_consL, ni_nilL, ni_int, ni_bool, ni_str, ni_sl, Bool.and_self]
theorem dec_37 {n : Nat} {xs : List D} (h : TypedC ty n 37 xs) : ∃ x : GFile, x.ok ∧ xs = x.cells := by
  obtain ⟨n, hl, hf⟩ := struct_of (fs := [(0, 9), (1, 9), (2, 3)]) rfl h
  have hl : xs.length = 3 := hl
  match xs, hl, hf with
  | [a0, a1, a2], _, hf =>
    obtain ⟨x0, k0, e0⟩ := dec_str rfl (hf (0, 9) (by simp))
    have e0 : [a0] = [.str x0] := e0
    cases e0
    obtain ⟨x1, k1, e1⟩ := dec_str rfl (hf (1, 9) (by simp))
    have e1 : [a1] = [.str x1] := e1
    cases e1
    obtain ⟨x2, k2, e2⟩ := dec_int rfl (hf (2, 3) (by simp))
    have e2 : [a2] = [.int .i64 x2] := e2
    cases e2
    exact ⟨⟨x0, x1, x2⟩, ⟨k0, k1, k2⟩, rfl⟩
structure GDisk where
  files : (List GFile)
  cap : Int
  armed : Bool
  left : Int
  down : Bool
def GDisk.cells (x : GDisk) : List D := [dl 3 GFile.d x.files, .int .i64 x.cap, .bool x.armed, .int .i64 x.left, .bool x.down]
def GDisk.d (x : GDisk) : D := .agg [dl 3 GFile.d x.files, .int .i64 x.cap, .bool x.armed, .int .i64 x.left, .bool x.down]
def GDisk.ok (x : GDisk) : Prop := (okL GFile.ok) x.files ∧ (okInt .i64) x.cap ∧ okT x.armed ∧ (okInt .i64) x.left ∧ okT x.down
theorem GDisk.noIds (x : GDisk) : x.d.noIds = true := by
  simp only [GDisk.d, dl, byteD, ni_agg, ni_consL, ni_nilL, ni_int, ni_bool, ni_str, ni_sl, Bool.and_self, noL _ GFile.noIds]
theorem dec_27 {n : Nat} {xs : List D} (h : TypedC ty n 27 xs) : ∃ x : GDisk, x.ok ∧ xs = x.cells := by
  obtain ⟨n, hl, hf⟩ := struct_of (fs := [(0, 25), (1, 3), (2, 4), (3, 3), (4, 4)]) rfl h
  have hl : xs.length = 5 := hl
  match xs, hl, hf with
  | [a0, a1, a2, a3, a4], _, hf =>
    obtain ⟨x0, k0, e0⟩ := dec_slice (f := GFile.d) (p := GFile.ok) rfl (fun n ys h => by obtain ⟨x, k, rfl⟩ := dec_37 h; exact ⟨x, k, rfl⟩) (hf (0, 25) (by simp))
    have e0 : [a0] = [dl 3 GFile.d x0] := e0
    cases e0
    obtain ⟨x1, k1, e1⟩ := dec_int rfl (hf (1, 3) (by simp))
    have e1 : [a1] = [.int .i64 x1] := e1
    cases e1
    obtain ⟨x2, k2, e2⟩ := dec_bool rfl (hf (2, 4) (by simp))
    have e2 : [a2] = [.bool x2] := e2
    cases e2
    obtain ⟨x3, k3, e3⟩ := dec_int rfl (hf (3, 3) (by simp))
    have e3 : [a3] = [.int .i64 x3] := e3
    cases e3
    obtain ⟨x4, k4, e4⟩ := dec_bool rfl (hf (4, 4) (by simp))
    have e4 : [a4] = [.bool x4] := e4
    cases e4
    exact ⟨⟨x0, x1, x2, x3, x4⟩, ⟨k0, k1, k2, k3, k4⟩, rfl⟩
structure GS7 where
  x : Int
  y : Int
  signed : Bool
  code : UInt8
def GS7.cells (x : GS7) : List D := [.int .i64 x.x, .int .i64 x.y, .bool x.signed, byteD x.code]
def GS7.d (x : GS7) : D := .agg [.int .i64 x.x, .int .i64 x.y, .bool x.signed, byteD x.code]
def GS7.ok (x : GS7) : Prop := (okInt .i64) x.x ∧ (okInt .i64) x.y ∧ okT x.signed ∧ okT x.code
theorem GS7.noIds (x : GS7) : x.d.noIds = true := by
  simp only [GS7.d, dl, byteD, ni_agg, ni_consL, ni_nilL, ni_int, ni_bool, ni_str, ni_sl, Bool.and_self]
theorem dec_7 {n : Nat} {xs : List D} (h : TypedC ty n 7 xs) : ∃ x : GS7, x.ok ∧ xs = x.cells := by
  obtain ⟨n, hl, hf⟩ := struct_of (fs := [(0, 2), (1, 3), (2, 4), (3, 6)]) rfl h
  have hl : xs.length = 4 := hl
  match xs, hl, hf with
  | [a0, a1, a2, a3], _, hf =>
    obtain ⟨x0, k0, e0⟩ := dec_int rfl (hf (0, 2) (by simp))
    have e0 : [a0] = [.int .i64 x0] := e0
    cases e0
    obtain ⟨x1, k1, e1⟩ := dec_int rfl (hf (1, 3) (by simp))
    have e1 : [a1] = [.int .i64 x1] := e1
    cases e1
    obtain ⟨x2, k2, e2⟩ := dec_bool rfl (hf (2, 4) (by simp))
    have e2 : [a2] = [.bool x2] := e2
    cases e2
    obtain ⟨x3, k3, e3⟩ := dec_u8 rfl (hf (3, 6) (by simp))
    have e3 : [a3] = [byteD x3] := e3
    cases e3
    exact ⟨⟨x0, x1, x2, x3⟩, ⟨k0, k1, k2, k3⟩, rfl⟩
structure GBoundsError where
  x : Int
  y : Int
  signed : Bool
  code : UInt8
def GBoundsError.cells (x : GBoundsError) : List D := [.int .i64 x.x, .int .i64 x.y, .bool x.signed, byteD x.code]
def GBoundsError.d (x : GBoundsError) : D := .agg [.int .i64 x.x, .int .i64 x.y, .bool x.signed, byteD x.code]
def GBoundsError.ok (x : GBoundsError) : Prop := (okInt .i64) x.x ∧ (okInt .i64) x.y ∧ okT x.signed ∧ okT x.code
theorem GBoundsError.noIds (x : GBoundsError) : x.d.noIds = true := by
  simp only [GBoundsError.d, dl, byteD, ni_agg, ni_consL, ni_nilL, ni_int, ni_bool, ni_str, ni_sl, Bool.and_self]
theorem dec_8 {n : Nat} {xs : List D} (h : TypedC ty n 8 xs) : ∃ x : GBoundsError, x.ok ∧ xs = x.cells := by
  obtain ⟨n, hl, hf⟩ := struct_of (fs := [(0, 2), (1, 3), (2, 4), (3, 6)]) rfl h
  have hl : xs.length = 4 := hl
  match xs, hl, hf with
  | [a0, a1, a2, a3], _, hf =>
    obtain ⟨x0, k0, e0⟩ := dec_int rfl (hf (0, 2) (by simp))
    have e0 : [a0] = [.int .i64 x0] := e0
    cases e0
    obtain ⟨x1, k1, e1⟩ := dec_int rfl (hf (1, 3) (by simp))
    have e1 : [a1] = [.int .i64 x1] := e1
    cases e1
    obtain ⟨x2, k2, e2⟩ := dec_bool rfl (hf (2, 4) (by simp))
    have e2 : [a2] = [.bool x2] := e2
    cases e2
    obtain ⟨x3, k3, e3⟩ := dec_u8 rfl (hf (3, 6) (by simp))
    have e3 : [a3] = [byteD x3] := e3
    cases e3
    exact ⟨⟨x0, x1, x2, x3⟩, ⟨k0, k1, k2, k3⟩, rfl⟩
structure GS13 where
  msg : (List UInt8)
  addr : Int
def GS13.cells (x : GS13) : List D := [.str x.msg, .int .u64 x.addr]
def GS13.d (x : GS13) : D := .agg [.str x.msg, .int .u64 x.addr]
def GS13.ok (x : GS13) : Prop := okStr x.msg ∧ (okInt .u64) x.addr
theorem GS13.noIds (x : GS13) : x.d.noIds = true := by
  simp only [GS13.d, dl, byteD, ni_agg, ni_consL, ni_nilL, ni_int, ni_bool, ni_str, ni_sl, Bool.and_self]
theorem dec_13 {n : Nat} {xs : List D} (h : TypedC ty n 13 xs) : ∃ x : GS13, x.ok ∧ xs = x.cells := by
  obtain ⟨n, hl, hf⟩ := struct_of (fs := [(0, 9), (1, 12)]) rfl h
  have hl : xs.length = 2 := hl
  match xs, hl, hf with
  | [a0, a1], _, hf =>
    obtain ⟨x0, k0, e0⟩ := dec_str rfl (hf (0, 9) (by simp))
    have e0 : [a0] = [.str x0] := e0
    cases e0
    obtain ⟨x1, k1, e1⟩ := dec_int rfl (hf (1, 12) (by simp))
    have e1 : [a1] = [.int .u64 x1] := e1
    cases e1
    exact ⟨⟨x0, x1⟩, ⟨k0, k1⟩, rfl⟩
structure GErrorAddressString where
  msg : (List UInt8)
  addr : Int
def GErrorAddressString.cells (x : GErrorAddressString) : List D := [.str x.msg, .int .u64 x.addr]
def GErrorAddressString.d (x : GErrorAddressString) : D := .agg [.str x.msg, .int .u64 x.addr]
def GErrorAddressString.ok (x : GErrorAddressString) : Prop := okStr x.msg ∧ (okInt .u64) x.addr
theorem GErrorAddressString.noIds (x : GErrorAddressString) : x.d.noIds = true := by
  simp only [GErrorAddressString.d, dl, byteD, ni_agg, ni_consL, ni_nilL, ni_int, ni_bool, ni_str, ni_sl, Bool.and_self]
theorem dec_14 {n : Nat} {xs : List D} (h : TypedC ty n 14 xs) : ∃ x : GErrorAddressString, x.ok ∧ xs = x.cells := by
  obtain ⟨n, hl, hf⟩ := struct_of (fs := [(0, 9), (1, 12)]) rfl h
  have hl : xs.length = 2 := hl
  match xs, hl, hf with
  | [a0, a1], _, hf =>
    obtain ⟨x0, k0, e0⟩ := dec_str rfl (hf (0, 9) (by simp))
    have e0 : [a0] = [.str x0] := e0
    cases e0
    obtain ⟨x1, k1, e1⟩ := dec_int rfl (hf (1, 12) (by simp))
    have e1 : [a1] = [.int .u64 x1] := e1
    cases e1
    exact ⟨⟨x0, x1⟩, ⟨k0, k1⟩, rfl⟩
structure GS26 where
  files : (List GFile)
  cap : Int
  armed : Bool
  left : Int
  down : Bool
def GS26.cells (x : GS26) : List D := [dl 3 GFile.d x.files, .int .i64 x.cap, .bool x.armed, .int .i64 x.left, .bool x.down]
def GS26.d (x : GS26) : D := .agg [dl 3 GFile.d x.files, .int .i64 x.cap, .bool x.armed, .int .i64 x.left, .bool x.down]
def GS26.ok (x : GS26) : Prop := (okL GFile.ok) x.files ∧ (okInt .i64) x.cap ∧ okT x.armed ∧ (okInt .i64) x.left ∧ okT x.down
theorem GS26.noIds (x : GS26) : x.d.noIds = true := by
  simp only [GS26.d, dl, byteD, ni_agg, ni_consL, ni_nilL, ni_int, ni_bool, ni_str, ni_sl, Bool.and_self, noL _ GFile.noIds]
theorem dec_26 {n : Nat} {xs : List D} (h : TypedC ty n 26 xs) : ∃ x : GS26, x.ok ∧ xs = x.cells := by
  obtain ⟨n, hl, hf⟩ := struct_of (fs := [(0, 25), (1, 3), (2, 4), (3, 3), (4, 4)]) rfl h
  have hl : xs.length = 5 := hl
  match xs, hl, hf with
  | [a0, a1, a2, a3, a4], _, hf =>
    obtain ⟨x0, k0, e0⟩ := dec_slice (f := GFile.d) (p := GFile.ok) rfl (fun n ys h => by obtain ⟨x, k, rfl⟩ := dec_37 h; exact ⟨x, k, rfl⟩) (hf (0, 25) (by simp))
    have e0 : [a0] = [dl 3 GFile.d x0] := e0
    cases e0
    obtain ⟨x1, k1, e1⟩ := dec_int rfl (hf (1, 3) (by simp))
    have e1 : [a1] = [.int .i64 x1] := e1
    cases e1
    obtain ⟨x2, k2, e2⟩ := dec_bool rfl (hf (2, 4) (by simp))
    have e2 : [a2] = [.bool x2] := e2
    cases e2
    obtain ⟨x3, k3, e3⟩ := dec_int rfl (hf (3, 3) (by simp))
    have e3 : [a3] = [.int .i64 x3] := e3
    cases e3
    obtain ⟨x4, k4, e4⟩ := dec_bool rfl (hf (4, 4) (by simp))
    have e4 : [a4] = [.bool x4] := e4
    cases e4
    exact ⟨⟨x0, x1, x2, x3, x4⟩, ⟨k0, k1, k2, k3, k4⟩, rfl⟩
structure GS32 where
  kind : Int
  n : Int
  name : (List UInt8)
  to' : (List UInt8)
  keep : (List Int)
def GS32.cells (x : GS32) : List D := [.int .i64 x.kind, .int .i64 x.n, .str x.name, .str x.to', dl 1 (D.int .i64) x.keep]
def GS32.d (x : GS32) : D := .agg [.int .i64 x.kind, .int .i64 x.n, .str x.name, .str x.to', dl 1 (D.int .i64) x.keep]
def GS32.ok (x : GS32) : Prop := (okInt .i64) x.kind ∧ (okInt .i64) x.n ∧ okStr x.name ∧ okStr x.to' ∧ (okL (okInt .i64)) x.keep
theorem GS32.noIds (x : GS32) : x.d.noIds = true := by
  simp only [GS32.d, dl, byteD, ni_agg, ni_consL, ni_nilL, ni_int, ni_bool, ni_str, ni_sl, Bool.and_self, noL _ (ni_int _)]
theorem dec_32 {n : Nat} {xs : List D} (h : TypedC ty n 32 xs) : ∃ x : GS32, x.ok ∧ xs = x.cells := by
  obtain ⟨n, hl, hf⟩ := struct_of (fs := [(0, 3), (1, 3), (2, 9), (3, 9), (4, 31)]) rfl h
  have hl : xs.length = 5 := hl
  match xs, hl, hf with
  | [a0, a1, a2, a3, a4], _, hf =>
    obtain ⟨x0, k0, e0⟩ := dec_int rfl (hf (0, 3) (by simp))
    have e0 : [a0] = [.int .i64 x0] := e0
    cases e0
    obtain ⟨x1, k1, e1⟩ := dec_int rfl (hf (1, 3) (by simp))
    have e1 : [a1] = [.int .i64 x1] := e1
    cases e1
    obtain ⟨x2, k2, e2⟩ := dec_str rfl (hf (2, 9) (by simp))
    have e2 : [a2] = [.str x2] := e2
    cases e2
    obtain ⟨x3, k3, e3⟩ := dec_str rfl (hf (3, 9) (by simp))
    have e3 : [a3] = [.str x3] := e3
    cases e3
    obtain ⟨x4, k4, e4⟩ := dec_slice (f := (D.int .i64)) (p := (okInt .i64)) rfl (fun n ys h => by obtain ⟨x, k, rfl⟩ := dec_int rfl h; exact ⟨x, k, rfl⟩) (hf (4, 31) (by simp))
    have e4 : [a4] = [dl 1 (D.int .i64) x4] := e4
    cases e4
    exact ⟨⟨x0, x1, x2, x3, x4⟩, ⟨k0, k1, k2, k3, k4⟩, rfl⟩
structure GS36 where
  name : (List UInt8)
  data : (List UInt8)
  sure : Int
def GS36.cells (x : GS36) : List D := [.str x.name, .str x.data, .int .i64 x.sure]
def GS36.d (x : GS36) : D := .agg [.str x.name, .str x.data, .int .i64 x.sure]
def GS36.ok (x : GS36) : Prop := okStr x.name ∧ okStr x.data ∧ (okInt .i64) x.sure
theorem GS36.noIds (x : GS36) : x.d.noIds = true := by
  simp only [GS36.d, dl, byteD, ni_agg, ni_consL, ni_nilL, ni_int, ni_bool, ni_str, ni_sl, Bool.and_self]
theorem dec_36 {n : Nat} {xs : List D} (h : TypedC ty n 36 xs) : ∃ x : GS36, x.ok ∧ xs = x.cells := by
  obtain ⟨n, hl, hf⟩ := struct_of (fs := [(0, 9), (1, 9), (2, 3)]) rfl h
  have hl : xs.length = 3 := hl
  match xs, hl, hf with
  | [a0, a1, a2], _, hf =>
    obtain ⟨x0, k0, e0⟩ := dec_str rfl (hf (0, 9) (by simp))
    have e0 : [a0] = [.str x0] := e0
    cases e0
    obtain ⟨x1, k1, e1⟩ := dec_str rfl (hf (1, 9) (by simp))
    have e1 : [a1] = [.str x1] := e1
    cases e1
    obtain ⟨x2, k2, e2⟩ := dec_int rfl (hf (2, 3) (by simp))
    have e2 : [a2] = [.int .i64 x2] := e2
    cases e2
    exact ⟨⟨x0, x1, x2⟩, ⟨k0, k1, k2⟩, rfl⟩

theorem mixed : Try.prog.follows .mixedOrders = true := by decide
theorem Try.own : ownKnob Try.prog.godebug = none := by kernel_rfl
theorem Try.laidOut : laidOutB Try.prog = true := by kernel_rfl

theorem args_DiskPlays {n : Nat} {Ds : List D} (h : TypedAll ty n [22] Ds) : ∃ (p0 : (List GAct)), ((okL GAct.ok) p0) ∧ Ds = [(dl 5 GAct.d) p0] := by
  match Ds, h with
  | [e0], h =>
    obtain ⟨⟨y0, h0, g0⟩, _⟩ := h
    obtain ⟨p0, k0, rfl⟩ := dec_slice (f := GAct.d) (p := GAct.ok) rfl (fun n ys h => by obtain ⟨x, k, rfl⟩ := dec_33 h; exact ⟨x, k, rfl⟩) h0
    subst g0
    exact ⟨p0, k0, rfl⟩

theorem lift_DiskPlays (h : ∀ (p0 : (List GAct)), (okL GAct.ok) p0 → PureF Try.prog 3 [(dl 5 GAct.d) p0] (.bool true)) (os : Os) (started : os.Started) (H : Type) (enc : TypeId × Value → H) :
    ReturnsInHanded {} Try.checked os 3 .any (Rows.diskPlaysSpec.pre6 enc Try.prog Try.f3 Rows.diskPlaysRow.domain false) (Rows.diskPlaysSpec.post enc Try.prog Try.f3 false true false false) :=
  lifted (C := Try.checked) (τ := ty) (t := 4) 16 Try.own started (by kernel_rfl) Try.func3
    (ChangeSpec.witness6 (enc := enc) (C := Try.checked) false ⟨#[], #[(.slice none 0 0)], []⟩ 16 (by kernel_rfl) (by kernel_rfl) (by kernel_rfl) (by kernel_rfl))
    tyOk Try.laidOut (by kernel_rfl) (by kernel_rfl) rfl (fun ds hd => by
      match ds, hd with
      | [_], _ => rfl) rfl Try.underlying4 (fun Ds hDs => by
      obtain ⟨p0, k0, rfl⟩ := args_DiskPlays hDs
      exact h p0 k0)

theorem args_DiskSure {n : Nat} {Ds : List D} (h : TypedAll ty n [22, 31] Ds) : ∃ (p0 : (List GAct)) (p1 : (List Int)), ((okL GAct.ok) p0 ∧ (okL (okInt .i64)) p1) ∧ Ds = [(dl 5 GAct.d) p0, (dl 1 (D.int .i64)) p1] := by
  match Ds, h with
  | [e0, e1], h =>
    obtain ⟨⟨y0, h0, g0⟩, ⟨y1, h1, g1⟩, _⟩ := h
    obtain ⟨p0, k0, rfl⟩ := dec_slice (f := GAct.d) (p := GAct.ok) rfl (fun n ys h => by obtain ⟨x, k, rfl⟩ := dec_33 h; exact ⟨x, k, rfl⟩) h0
    subst g0
    obtain ⟨p1, k1, rfl⟩ := dec_slice (f := (D.int .i64)) (p := (okInt .i64)) rfl (fun n ys h => by obtain ⟨x, k, rfl⟩ := dec_int rfl h; exact ⟨x, k, rfl⟩) h1
    subst g1
    exact ⟨p0, p1, ⟨k0, k1⟩, rfl⟩

theorem lift_DiskSure (h : ∀ (p0 : (List GAct)) (p1 : (List Int)), (okL GAct.ok) p0 → (okL (okInt .i64)) p1 → PureF Try.prog 4 [(dl 5 GAct.d) p0, (dl 1 (D.int .i64)) p1] (.bool true)) (os : Os) (started : os.Started) (H : Type) (enc : TypeId × Value → H) :
    ReturnsInHanded {} Try.checked os 4 .any (Rows.diskSureSpec.pre6 enc Try.prog Try.f4 Rows.diskSureRow.domain false) (Rows.diskSureSpec.post enc Try.prog Try.f4 false true false false) :=
  lifted (C := Try.checked) (τ := ty) (t := 4) 16 Try.own started (by kernel_rfl) Try.func4
    (ChangeSpec.witness6 (enc := enc) (C := Try.checked) false ⟨#[], #[(.slice none 0 0), (.slice none 0 0)], []⟩ 16 (by kernel_rfl) (by kernel_rfl) (by kernel_rfl) (by kernel_rfl))
    tyOk Try.laidOut (by kernel_rfl) (by kernel_rfl) rfl (fun ds hd => by
      match ds, hd with
      | [_, _], _ => rfl) rfl Try.underlying4 (fun Ds hDs => by
      obtain ⟨p0, p1, ⟨k0, k1⟩, rfl⟩ := args_DiskSure hDs
      exact h p0 p1 k0 k1)

theorem args_DiskFull {n : Nat} {Ds : List D} (h : TypedAll ty n [22, 5] Ds) : ∃ (p0 : (List GAct)) (p1 : UInt8), ((okL GAct.ok) p0 ∧ okT p1) ∧ Ds = [(dl 5 GAct.d) p0, byteD p1] := by
  match Ds, h with
  | [e0, e1], h =>
    obtain ⟨⟨y0, h0, g0⟩, ⟨y1, h1, g1⟩, _⟩ := h
    obtain ⟨p0, k0, rfl⟩ := dec_slice (f := GAct.d) (p := GAct.ok) rfl (fun n ys h => by obtain ⟨x, k, rfl⟩ := dec_33 h; exact ⟨x, k, rfl⟩) h0
    subst g0
    obtain ⟨p1, k1, rfl⟩ := dec_u8 rfl h1
    subst g1
    exact ⟨p0, p1, ⟨k0, k1⟩, rfl⟩

theorem lift_DiskFull (h : ∀ (p0 : (List GAct)) (p1 : UInt8), (okL GAct.ok) p0 → okT p1 → PureF Try.prog 5 [(dl 5 GAct.d) p0, byteD p1] (.bool true)) (os : Os) (started : os.Started) (H : Type) (enc : TypeId × Value → H) :
    ReturnsInHanded {} Try.checked os 5 .any (Rows.diskFullSpec.pre6 enc Try.prog Try.f5 Rows.diskFullRow.domain false) (Rows.diskFullSpec.post enc Try.prog Try.f5 false true false false) :=
  lifted (C := Try.checked) (τ := ty) (t := 4) 16 Try.own started (by kernel_rfl) Try.func5
    (ChangeSpec.witness6 (enc := enc) (C := Try.checked) false ⟨#[], #[(.slice none 0 0), (.int .u8 0)], []⟩ 16 (by kernel_rfl) (by kernel_rfl) (by kernel_rfl) (by kernel_rfl))
    tyOk Try.laidOut (by kernel_rfl) (by kernel_rfl) rfl (fun ds hd => by
      match ds, hd with
      | [_, _], _ => rfl) rfl Try.underlying4 (fun Ds hDs => by
      obtain ⟨p0, p1, ⟨k0, k1⟩, rfl⟩ := args_DiskFull hDs
      exact h p0 p1 k0 k1)

theorem args_DiskFuse {n : Nat} {Ds : List D} (h : TypedAll ty n [22, 5] Ds) : ∃ (p0 : (List GAct)) (p1 : UInt8), ((okL GAct.ok) p0 ∧ okT p1) ∧ Ds = [(dl 5 GAct.d) p0, byteD p1] := by
  match Ds, h with
  | [e0, e1], h =>
    obtain ⟨⟨y0, h0, g0⟩, ⟨y1, h1, g1⟩, _⟩ := h
    obtain ⟨p0, k0, rfl⟩ := dec_slice (f := GAct.d) (p := GAct.ok) rfl (fun n ys h => by obtain ⟨x, k, rfl⟩ := dec_33 h; exact ⟨x, k, rfl⟩) h0
    subst g0
    obtain ⟨p1, k1, rfl⟩ := dec_u8 rfl h1
    subst g1
    exact ⟨p0, p1, ⟨k0, k1⟩, rfl⟩

theorem lift_DiskFuse (h : ∀ (p0 : (List GAct)) (p1 : UInt8), (okL GAct.ok) p0 → okT p1 → PureF Try.prog 6 [(dl 5 GAct.d) p0, byteD p1] (.bool true)) (os : Os) (started : os.Started) (H : Type) (enc : TypeId × Value → H) :
    ReturnsInHanded {} Try.checked os 6 .any (Rows.diskFuseSpec.pre6 enc Try.prog Try.f6 Rows.diskFuseRow.domain false) (Rows.diskFuseSpec.post enc Try.prog Try.f6 false true false false) :=
  lifted (C := Try.checked) (τ := ty) (t := 4) 16 Try.own started (by kernel_rfl) Try.func6
    (ChangeSpec.witness6 (enc := enc) (C := Try.checked) false ⟨#[], #[(.slice none 0 0), (.int .u8 0)], []⟩ 16 (by kernel_rfl) (by kernel_rfl) (by kernel_rfl) (by kernel_rfl))
    tyOk Try.laidOut (by kernel_rfl) (by kernel_rfl) rfl (fun ds hd => by
      match ds, hd with
      | [_, _], _ => rfl) rfl Try.underlying4 (fun Ds hDs => by
      obtain ⟨p0, p1, ⟨k0, k1⟩, rfl⟩ := args_DiskFuse hDs
      exact h p0 p1 k0 k1)

theorem args_DiskTells {n : Nat} {Ds : List D} (h : TypedAll ty n [27, 33] Ds) : ∃ (p0 : GDisk) (p1 : GAct), (GDisk.ok p0 ∧ GAct.ok p1) ∧ Ds = [GDisk.d p0, GAct.d p1] := by
  match Ds, h with
  | [e0, e1], h =>
    obtain ⟨⟨y0, h0, g0⟩, ⟨y1, h1, g1⟩, _⟩ := h
    obtain ⟨p0, k0, rfl⟩ := dec_27 h0
    subst g0
    obtain ⟨p1, k1, rfl⟩ := dec_33 h1
    subst g1
    exact ⟨p0, p1, ⟨k0, k1⟩, rfl⟩

theorem lift_DiskTells (h : ∀ (p0 : GDisk) (p1 : GAct), GDisk.ok p0 → GAct.ok p1 → PureF Try.prog 7 [GDisk.d p0, GAct.d p1] (.bool true)) (os : Os) (started : os.Started) (H : Type) (enc : TypeId × Value → H) :
    ReturnsInHanded {} Try.checked os 7 .any (Rows.diskTellsSpec.pre6 enc Try.prog Try.f7 Rows.diskTellsRow.domain false) (Rows.diskTellsSpec.post enc Try.prog Try.f7 false true false false) :=
  lifted (C := Try.checked) (τ := ty) (t := 4) 16 Try.own started (by kernel_rfl) Try.func7
    (ChangeSpec.witness6 (enc := enc) (C := Try.checked) false ⟨#[], #[(.agg #[.slice none 0 0, .int .i64 0, .bool false, .int .i64 0, .bool false]), (.agg #[.int .i64 0, .int .i64 0, .string ByteArray.empty, .string ByteArray.empty, .slice none 0 0])], []⟩ 16 (by kernel_rfl) (by kernel_rfl) (by kernel_rfl) (by kernel_rfl))
    tyOk Try.laidOut (by kernel_rfl) (by kernel_rfl) rfl (fun ds hd => by
      match ds, hd with
      | [_, _], _ => rfl) rfl Try.underlying4 (fun Ds hDs => by
      obtain ⟨p0, p1, ⟨k0, k1⟩, rfl⟩ := args_DiskTells hDs
      exact h p0 p1 k0 k1)

end Go.Proofs.Ytlkffgmejcgdbaa
