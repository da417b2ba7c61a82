/- The data types of this translation, and the rows of its laws, from functions of data. PRINTED by a program of this session (wip/tools/gendata.py). -/
import Derived.Test.YtlpbhmhkobhkeaaT
import Derived.Test.YtlpbhmhkobhkeaaA27
import Derived.Test.YtlpbhmhkobhkeaaRows
namespace Go.Proofs.Ytlpbhmhkobhkeaa
set_option linter.all false
open Go.ChangeShapes Go.WideShapes Go.ChangeAt Go.RowKit

structure GPeer where
  inc : Int
  seq : Int
  have' : Int
  heard : Int
def GPeer.cells (x : GPeer) : List D := [.int .i64 x.inc, .int .i64 x.seq, .int .i64 x.have', .int .i64 x.heard]
def GPeer.d (x : GPeer) : D := .agg [.int .i64 x.inc, .int .i64 x.seq, .int .i64 x.have', .int .i64 x.heard]
def GPeer.ok (x : GPeer) : Prop := (okInt .i64) x.inc ∧ (okInt .i64) x.seq ∧ (okInt .i64) x.have' ∧ (okInt .i64) x.heard
theorem GPeer.noIds (x : GPeer) : x.d.noIds = true := by
  simp only [GPeer.d, dl, byteD, ni_agg, ni_consL, ni_nilL, ni_int, ni_bool, ni_str, ni_sl, Bool.and_self]
theorem dec_30 {n : Nat} {xs : List D} (h : TypedC ty n 30 xs) : ∃ x : GPeer, x.ok ∧ xs = x.cells := by
  obtain ⟨n, hl, hf⟩ := struct_of (fs := [(0, 3), (1, 3), (2, 3), (3, 3)]) rfl h
  have hl : xs.length = 4 := hl
  match xs, hl, hf with
  | [a0, a1, a2, a3], _, hf =>
    obtain ⟨x0, k0, e0⟩ := dec_int rfl (hf (0, 3) (by simp))
    have e0 : [a0] = [.int .i64 x0] := e0
    cases e0
    obtain ⟨x1, k1, e1⟩ := dec_int rfl (hf (1, 3) (by simp))
    have e1 : [a1] = [.int .i64 x1] := e1
    cases e1
    obtain ⟨x2, k2, e2⟩ := dec_int rfl (hf (2, 3) (by simp))
    have e2 : [a2] = [.int .i64 x2] := e2
    cases e2
    obtain ⟨x3, k3, e3⟩ := dec_int rfl (hf (3, 3) (by simp))
    have e3 : [a3] = [.int .i64 x3] := e3
    cases e3
    exact ⟨⟨x0, x1, x2, x3⟩, ⟨k0, k1, k2, k3⟩, rfl⟩
structure GArr2i64 where
  x0 : Int
  x1 : Int
def GArr2i64.cells (x : GArr2i64) : List D := [.int .i64 x.x0, .int .i64 x.x1]
def GArr2i64.d (x : GArr2i64) : D := .agg [.int .i64 x.x0, .int .i64 x.x1]
def GArr2i64.ok (x : GArr2i64) : Prop := (okInt .i64) x.x0 ∧ (okInt .i64) x.x1
theorem GArr2i64.noIds (x : GArr2i64) : x.d.noIds = true := by
  simp only [GArr2i64.d, dl, byteD, ni_agg, ni_consL, ni_nilL, ni_int, ni_bool, ni_str, ni_sl, Bool.and_self]
theorem dec_23 {n : Nat} {xs : List D} (h : TypedC ty n 23 xs) : ∃ x : GArr2i64, x.ok ∧ xs = x.cells := by
  obtain ⟨n, hl, hf⟩ := array_of (k := 2) (t' := 3) rfl h
  have hl : xs.length = 2 := hl
  match xs, hl, hf with
  | [a0, a1], _, hf =>
    obtain ⟨x0, k0, e0⟩ := dec_int rfl (hf 0 (by decide))
    have e0 : [a0] = [.int .i64 x0] := e0
    cases e0
    obtain ⟨x1, k1, e1⟩ := dec_int rfl (hf 1 (by decide))
    have e1 : [a1] = [.int .i64 x1] := e1
    cases e1
    exact ⟨⟨x0, x1⟩, ⟨k0, k1⟩, rfl⟩
structure GArr3i64 where
  x0 : Int
  x1 : Int
  x2 : Int
def GArr3i64.cells (x : GArr3i64) : List D := [.int .i64 x.x0, .int .i64 x.x1, .int .i64 x.x2]
def GArr3i64.d (x : GArr3i64) : D := .agg [.int .i64 x.x0, .int .i64 x.x1, .int .i64 x.x2]
def GArr3i64.ok (x : GArr3i64) : Prop := (okInt .i64) x.x0 ∧ (okInt .i64) x.x1 ∧ (okInt .i64) x.x2
theorem GArr3i64.noIds (x : GArr3i64) : x.d.noIds = true := by
  simp only [GArr3i64.d, dl, byteD, ni_agg, ni_consL, ni_nilL, ni_int, ni_bool, ni_str, ni_sl, Bool.and_self]
theorem dec_24 {n : Nat} {xs : List D} (h : TypedC ty n 24 xs) : ∃ x : GArr3i64, x.ok ∧ xs = x.cells := by
  obtain ⟨n, hl, hf⟩ := array_of (k := 3) (t' := 3) rfl h
  have hl : xs.length = 3 := hl
  match xs, hl, hf with
  | [a0, a1, a2], _, hf =>
    obtain ⟨x0, k0, e0⟩ := dec_int rfl (hf 0 (by decide))
    have e0 : [a0] = [.int .i64 x0] := e0
    cases e0
    obtain ⟨x1, k1, e1⟩ := dec_int rfl (hf 1 (by decide))
    have e1 : [a1] = [.int .i64 x1] := e1
    cases e1
    obtain ⟨x2, k2, e2⟩ := dec_int rfl (hf 2 (by decide))
    have e2 : [a2] = [.int .i64 x2] := e2
    cases e2
    exact ⟨⟨x0, x1, x2⟩, ⟨k0, k1, k2⟩, rfl⟩
structure GAsk where
  l : (List GPeer)
  sure : Int
  t : GArr2i64
  m : GArr3i64
  more : UInt8
def GAsk.cells (x : GAsk) : List D := [dl 4 GPeer.d x.l, .int .i64 x.sure, .int .i64 x.t.x0, .int .i64 x.t.x1, .int .i64 x.m.x0, .int .i64 x.m.x1, .int .i64 x.m.x2, byteD x.more]
def GAsk.d (x : GAsk) : D := .agg [dl 4 GPeer.d x.l, .int .i64 x.sure, .int .i64 x.t.x0, .int .i64 x.t.x1, .int .i64 x.m.x0, .int .i64 x.m.x1, .int .i64 x.m.x2, byteD x.more]
def GAsk.ok (x : GAsk) : Prop := (okL GPeer.ok) x.l ∧ (okInt .i64) x.sure ∧ GArr2i64.ok x.t ∧ GArr3i64.ok x.m ∧ okT x.more
theorem GAsk.noIds (x : GAsk) : x.d.noIds = true := by
  simp only [GAsk.d, dl, byteD, ni_agg, ni_consL, ni_nilL, ni_int, ni_bool, ni_str, ni_sl, Bool.and_self, noL _ GPeer.noIds]
theorem dec_26 {n : Nat} {xs : List D} (h : TypedC ty n 26 xs) : ∃ x : GAsk, x.ok ∧ xs = x.cells := by
  obtain ⟨n, hl, hf⟩ := struct_of (fs := [(0, 22), (1, 3), (2, 23), (4, 24), (7, 5)]) rfl h
  have hl : xs.length = 8 := hl
  match xs, hl, hf with
  | [a0, a1, a2, a3, a4, a5, a6, a7], _, hf =>
    obtain ⟨x0, k0, e0⟩ := dec_slice (f := GPeer.d) (p := GPeer.ok) rfl (fun n ys h => by obtain ⟨x, k, rfl⟩ := dec_30 h; exact ⟨x, k, rfl⟩) (hf (0, 22) (by simp))
    have e0 : [a0] = [dl 4 GPeer.d x0] := e0
    cases e0
    obtain ⟨x1, k1, e1⟩ := dec_int rfl (hf (1, 3) (by simp))
    have e1 : [a1] = [.int .i64 x1] := e1
    cases e1
    obtain ⟨x2, k2, e2⟩ := dec_23 (hf (2, 23) (by simp))
    have e2 : [a2, a3] = [.int .i64 x2.x0, .int .i64 x2.x1] := e2
    cases e2
    obtain ⟨x3, k3, e3⟩ := dec_24 (hf (4, 24) (by simp))
    have e3 : [a4, a5, a6] = [.int .i64 x3.x0, .int .i64 x3.x1, .int .i64 x3.x2] := e3
    cases e3
    obtain ⟨x4, k4, e4⟩ := dec_u8 rfl (hf (7, 5) (by simp))
    have e4 : [a7] = [byteD x4] := e4
    cases e4
    exact ⟨⟨x0, x1, x2, x3, x4⟩, ⟨k0, k1, k2, k3, k4⟩, rfl⟩
structure GSeg where
  base : Int
  n : Int
  size : Int
def GSeg.cells (x : GSeg) : List D := [.int .i64 x.base, .int .i64 x.n, .int .i64 x.size]
def GSeg.d (x : GSeg) : D := .agg [.int .i64 x.base, .int .i64 x.n, .int .i64 x.size]
def GSeg.ok (x : GSeg) : Prop := (okInt .i64) x.base ∧ (okInt .i64) x.n ∧ (okInt .i64) x.size
theorem GSeg.noIds (x : GSeg) : x.d.noIds = true := by
  simp only [GSeg.d, dl, byteD, ni_agg, ni_consL, ni_nilL, ni_int, ni_bool, ni_str, ni_sl, Bool.and_self]
theorem dec_42 {n : Nat} {xs : List D} (h : TypedC ty n 42 xs) : ∃ x : GSeg, x.ok ∧ xs = x.cells := by
  obtain ⟨n, hl, hf⟩ := struct_of (fs := [(0, 3), (1, 3), (2, 3)]) rfl h
  have hl : xs.length = 3 := hl
  match xs, hl, hf with
  | [a0, a1, a2], _, hf =>
    obtain ⟨x0, k0, e0⟩ := dec_int rfl (hf (0, 3) (by simp))
    have e0 : [a0] = [.int .i64 x0] := e0
    cases e0
    obtain ⟨x1, k1, e1⟩ := dec_int rfl (hf (1, 3) (by simp))
    have e1 : [a1] = [.int .i64 x1] := e1
    cases e1
    obtain ⟨x2, k2, e2⟩ := dec_int rfl (hf (2, 3) (by simp))
    have e2 : [a2] = [.int .i64 x2] := e2
    cases e2
    exact ⟨⟨x0, x1, x2⟩, ⟨k0, k1, k2⟩, rfl⟩
structure GArr2u16 where
  x0 : Int
  x1 : Int
def GArr2u16.cells (x : GArr2u16) : List D := [.int .u16 x.x0, .int .u16 x.x1]
def GArr2u16.d (x : GArr2u16) : D := .agg [.int .u16 x.x0, .int .u16 x.x1]
def GArr2u16.ok (x : GArr2u16) : Prop := (okInt .u16) x.x0 ∧ (okInt .u16) x.x1
theorem GArr2u16.noIds (x : GArr2u16) : x.d.noIds = true := by
  simp only [GArr2u16.d, dl, byteD, ni_agg, ni_consL, ni_nilL, ni_int, ni_bool, ni_str, ni_sl, Bool.and_self]
theorem dec_44 {n : Nat} {xs : List D} (h : TypedC ty n 44 xs) : ∃ x : GArr2u16, x.ok ∧ xs = x.cells := by
  obtain ⟨n, hl, hf⟩ := array_of (k := 2) (t' := 43) rfl h
  have hl : xs.length = 2 := hl
  match xs, hl, hf with
  | [a0, a1], _, hf =>
    obtain ⟨x0, k0, e0⟩ := dec_int rfl (hf 0 (by decide))
    have e0 : [a0] = [.int .u16 x0] := e0
    cases e0
    obtain ⟨x1, k1, e1⟩ := dec_int rfl (hf 1 (by decide))
    have e1 : [a1] = [.int .u16 x1] := e1
    cases e1
    exact ⟨⟨x0, x1⟩, ⟨k0, k1⟩, rfl⟩
structure GMore where
  l : (List GSeg)
  keep : Int
  count : Int
  by' : GArr2u16
def GMore.cells (x : GMore) : List D := [dl 3 GSeg.d x.l, .int .i64 x.keep, .int .i64 x.count, .int .u16 x.by'.x0, .int .u16 x.by'.x1]
def GMore.d (x : GMore) : D := .agg [dl 3 GSeg.d x.l, .int .i64 x.keep, .int .i64 x.count, .int .u16 x.by'.x0, .int .u16 x.by'.x1]
def GMore.ok (x : GMore) : Prop := (okL GSeg.ok) x.l ∧ (okInt .i64) x.keep ∧ (okInt .i64) x.count ∧ GArr2u16.ok x.by'
theorem GMore.noIds (x : GMore) : x.d.noIds = true := by
  simp only [GMore.d, dl, byteD, ni_agg, ni_consL, ni_nilL, ni_int, ni_bool, ni_str, ni_sl, Bool.and_self, noL _ GSeg.noIds]
theorem dec_46 {n : Nat} {xs : List D} (h : TypedC ty n 46 xs) : ∃ x : GMore, x.ok ∧ xs = x.cells := by
  obtain ⟨n, hl, hf⟩ := struct_of (fs := [(0, 36), (1, 3), (2, 3), (3, 44)]) rfl h
  have hl : xs.length = 5 := hl
  match xs, hl, hf with
  | [a0, a1, a2, a3, a4], _, hf =>
    obtain ⟨x0, k0, e0⟩ := dec_slice (f := GSeg.d) (p := GSeg.ok) rfl (fun n ys h => by obtain ⟨x, k, rfl⟩ := dec_42 h; exact ⟨x, k, rfl⟩) (hf (0, 36) (by simp))
    have e0 : [a0] = [dl 3 GSeg.d x0] := e0
    cases e0
    obtain ⟨x1, k1, e1⟩ := dec_int rfl (hf (1, 3) (by simp))
    have e1 : [a1] = [.int .i64 x1] := e1
    cases e1
    obtain ⟨x2, k2, e2⟩ := dec_int rfl (hf (2, 3) (by simp))
    have e2 : [a2] = [.int .i64 x2] := e2
    cases e2
    obtain ⟨x3, k3, e3⟩ := dec_44 (hf (3, 44) (by simp))
    have e3 : [a3, a4] = [.int .u16 x3.x0, .int .u16 x3.x1] := e3
    cases e3
    exact ⟨⟨x0, x1, x2, x3⟩, ⟨k0, k1, k2, k3⟩, rfl⟩
structure GLink where
  from' : Int
  to' : Int
  q : (List (List UInt8))
def GLink.cells (x : GLink) : List D := [.int .i64 x.from', .int .i64 x.to', dl 1 D.str x.q]
def GLink.d (x : GLink) : D := .agg [.int .i64 x.from', .int .i64 x.to', dl 1 D.str x.q]
def GLink.ok (x : GLink) : Prop := (okInt .i64) x.from' ∧ (okInt .i64) x.to' ∧ (okL okStr) x.q
theorem GLink.noIds (x : GLink) : x.d.noIds = true := by
  simp only [GLink.d, dl, byteD, ni_agg, ni_consL, ni_nilL, ni_int, ni_bool, ni_str, ni_sl, Bool.and_self, noL _ ni_str]
theorem dec_50 {n : Nat} {xs : List D} (h : TypedC ty n 50 xs) : ∃ x : GLink, x.ok ∧ xs = x.cells := by
  obtain ⟨n, hl, hf⟩ := struct_of (fs := [(0, 3), (1, 3), (2, 48)]) rfl h
  have hl : xs.length = 3 := hl
  match xs, hl, hf with
  | [a0, a1, a2], _, hf =>
    obtain ⟨x0, k0, e0⟩ := dec_int rfl (hf (0, 3) (by simp))
    have e0 : [a0] = [.int .i64 x0] := e0
    cases e0
    obtain ⟨x1, k1, e1⟩ := dec_int rfl (hf (1, 3) (by simp))
    have e1 : [a1] = [.int .i64 x1] := e1
    cases e1
    obtain ⟨x2, k2, e2⟩ := dec_slice (f := D.str) (p := okStr) rfl (fun n ys h => by obtain ⟨x, k, rfl⟩ := dec_str rfl h; exact ⟨x, k, rfl⟩) (hf (2, 48) (by simp))
    have e2 : [a2] = [dl 1 D.str x2] := e2
    cases e2
    exact ⟨⟨x0, x1, x2⟩, ⟨k0, k1, k2⟩, rfl⟩
structure GWagonerlaw17Ask where
  l : GLink
  s : (List UInt8)
  k : Int
  most : Int
def GWagonerlaw17Ask.cells (x : GWagonerlaw17Ask) : List D := [.int .i64 x.l.from', .int .i64 x.l.to', dl 1 D.str x.l.q, .str x.s, .int .i64 x.k, .int .i64 x.most]
def GWagonerlaw17Ask.d (x : GWagonerlaw17Ask) : D := .agg [.int .i64 x.l.from', .int .i64 x.l.to', dl 1 D.str x.l.q, .str x.s, .int .i64 x.k, .int .i64 x.most]
def GWagonerlaw17Ask.ok (x : GWagonerlaw17Ask) : Prop := GLink.ok x.l ∧ okStr x.s ∧ (okInt .i64) x.k ∧ (okInt .i64) x.most
theorem GWagonerlaw17Ask.noIds (x : GWagonerlaw17Ask) : x.d.noIds = true := by
  simp only [GWagonerlaw17Ask.d, dl, byteD, ni_agg, ni_consL, ni_nilL, ni_int, ni_bool, ni_str, ni_sl, Bool.and_self, noL _ ni_str]
theorem dec_52 {n : Nat} {xs : List D} (h : TypedC ty n 52 xs) : ∃ x : GWagonerlaw17Ask, x.ok ∧ xs = x.cells := by
  obtain ⟨n, hl, hf⟩ := struct_of (fs := [(0, 50), (3, 9), (4, 3), (5, 3)]) rfl h
  have hl : xs.length = 6 := hl
  match xs, hl, hf with
  | [a0, a1, a2, a3, a4, a5], _, hf =>
    obtain ⟨x0, k0, e0⟩ := dec_50 (hf (0, 50) (by simp))
    have e0 : [a0, a1, a2] = [.int .i64 x0.from', .int .i64 x0.to', dl 1 D.str x0.q] := e0
    cases e0
    obtain ⟨x1, k1, e1⟩ := dec_str rfl (hf (3, 9) (by simp))
    have e1 : [a3] = [.str x1] := e1
    cases e1
    obtain ⟨x2, k2, e2⟩ := dec_int rfl (hf (4, 3) (by simp))
    have e2 : [a4] = [.int .i64 x2] := e2
    cases e2
    obtain ⟨x3, k3, e3⟩ := dec_int rfl (hf (5, 3) (by simp))
    have e3 : [a5] = [.int .i64 x3] := e3
    cases e3
    exact ⟨⟨x0, x1, x2, x3⟩, ⟨k0, k1, k2, k3⟩, rfl⟩
structure GAct where
  kind : UInt8
  k : UInt8
def GAct.cells (x : GAct) : List D := [byteD x.kind, byteD x.k]
def GAct.d (x : GAct) : D := .agg [byteD x.kind, byteD x.k]
def GAct.ok (x : GAct) : Prop := okT x.kind ∧ okT x.k
theorem GAct.noIds (x : GAct) : x.d.noIds = true := by
  simp only [GAct.d, dl, byteD, ni_agg, ni_consL, ni_nilL, ni_int, ni_bool, ni_str, ni_sl, Bool.and_self]
theorem dec_63 {n : Nat} {xs : List D} (h : TypedC ty n 63 xs) : ∃ x : GAct, x.ok ∧ xs = x.cells := by
  obtain ⟨n, hl, hf⟩ := struct_of (fs := [(0, 5), (1, 5)]) rfl h
  have hl : xs.length = 2 := hl
  match xs, hl, hf with
  | [a0, a1], _, hf =>
    obtain ⟨x0, k0, e0⟩ := dec_u8 rfl (hf (0, 5) (by simp))
    have e0 : [a0] = [byteD x0] := e0
    cases e0
    obtain ⟨x1, k1, e1⟩ := dec_u8 rfl (hf (1, 5) (by simp))
    have e1 : [a1] = [byteD x1] := e1
    cases e1
    exact ⟨⟨x0, x1⟩, ⟨k0, k1⟩, rfl⟩
structure GMark where
  off : Int
  pos : Int
def GMark.cells (x : GMark) : List D := [.int .i64 x.off, .int .i64 x.pos]
def GMark.d (x : GMark) : D := .agg [.int .i64 x.off, .int .i64 x.pos]
def GMark.ok (x : GMark) : Prop := (okInt .i64) x.off ∧ (okInt .i64) x.pos
theorem GMark.noIds (x : GMark) : x.d.noIds = true := by
  simp only [GMark.d, dl, byteD, ni_agg, ni_consL, ni_nilL, ni_int, ni_bool, ni_str, ni_sl, Bool.and_self]
theorem dec_77 {n : Nat} {xs : List D} (h : TypedC ty n 77 xs) : ∃ x : GMark, x.ok ∧ xs = x.cells := by
  obtain ⟨n, hl, hf⟩ := struct_of (fs := [(0, 3), (1, 3)]) rfl h
  have hl : xs.length = 2 := hl
  match xs, hl, hf with
  | [a0, a1], _, hf =>
    obtain ⟨x0, k0, e0⟩ := dec_int rfl (hf (0, 3) (by simp))
    have e0 : [a0] = [.int .i64 x0] := e0
    cases e0
    obtain ⟨x1, k1, e1⟩ := dec_int rfl (hf (1, 3) (by simp))
    have e1 : [a1] = [.int .i64 x1] := e1
    cases e1
    exact ⟨⟨x0, x1⟩, ⟨k0, k1⟩, rfl⟩
structure GArr2byteD where
  x0 : UInt8
  x1 : UInt8
def GArr2byteD.cells (x : GArr2byteD) : List D := [byteD x.x0, byteD x.x1]
def GArr2byteD.d (x : GArr2byteD) : D := .agg [byteD x.x0, byteD x.x1]
def GArr2byteD.ok (x : GArr2byteD) : Prop := okT x.x0 ∧ okT x.x1
theorem GArr2byteD.noIds (x : GArr2byteD) : x.d.noIds = true := by
  simp only [GArr2byteD.d, dl, byteD, ni_agg, ni_consL, ni_nilL, ni_int, ni_bool, ni_str, ni_sl, Bool.and_self]
theorem dec_78 {n : Nat} {xs : List D} (h : TypedC ty n 78 xs) : ∃ x : GArr2byteD, x.ok ∧ xs = x.cells := by
  obtain ⟨n, hl, hf⟩ := array_of (k := 2) (t' := 5) rfl h
  have hl : xs.length = 2 := hl
  match xs, hl, hf with
  | [a0, a1], _, hf =>
    obtain ⟨x0, k0, e0⟩ := dec_u8 rfl (hf 0 (by decide))
    have e0 : [a0] = [byteD x0] := e0
    cases e0
    obtain ⟨x1, k1, e1⟩ := dec_u8 rfl (hf 1 (by decide))
    have e1 : [a1] = [byteD x1] := e1
    cases e1
    exact ⟨⟨x0, x1⟩, ⟨k0, k1⟩, rfl⟩
structure GWagonerlaw08Ask where
  l : (List GMark)
  m : GMark
  off : Int
  how : GArr2byteD
def GWagonerlaw08Ask.cells (x : GWagonerlaw08Ask) : List D := [dl 2 GMark.d x.l, .int .i64 x.m.off, .int .i64 x.m.pos, .int .i64 x.off, byteD x.how.x0, byteD x.how.x1]
def GWagonerlaw08Ask.d (x : GWagonerlaw08Ask) : D := .agg [dl 2 GMark.d x.l, .int .i64 x.m.off, .int .i64 x.m.pos, .int .i64 x.off, byteD x.how.x0, byteD x.how.x1]
def GWagonerlaw08Ask.ok (x : GWagonerlaw08Ask) : Prop := (okL GMark.ok) x.l ∧ GMark.ok x.m ∧ (okInt .i64) x.off ∧ GArr2byteD.ok x.how
theorem GWagonerlaw08Ask.noIds (x : GWagonerlaw08Ask) : x.d.noIds = true := by
  simp only [GWagonerlaw08Ask.d, dl, byteD, ni_agg, ni_consL, ni_nilL, ni_int, ni_bool, ni_str, ni_sl, Bool.and_self, noL _ GMark.noIds]
theorem dec_80 {n : Nat} {xs : List D} (h : TypedC ty n 80 xs) : ∃ x : GWagonerlaw08Ask, x.ok ∧ xs = x.cells := by
  obtain ⟨n, hl, hf⟩ := struct_of (fs := [(0, 75), (1, 77), (3, 3), (4, 78)]) rfl h
  have hl : xs.length = 6 := hl
  match xs, hl, hf with
  | [a0, a1, a2, a3, a4, a5], _, hf =>
    obtain ⟨x0, k0, e0⟩ := dec_slice (f := GMark.d) (p := GMark.ok) rfl (fun n ys h => by obtain ⟨x, k, rfl⟩ := dec_77 h; exact ⟨x, k, rfl⟩) (hf (0, 75) (by simp))
    have e0 : [a0] = [dl 2 GMark.d x0] := e0
    cases e0
    obtain ⟨x1, k1, e1⟩ := dec_77 (hf (1, 77) (by simp))
    have e1 : [a1, a2] = [.int .i64 x1.off, .int .i64 x1.pos] := e1
    cases e1
    obtain ⟨x2, k2, e2⟩ := dec_int rfl (hf (3, 3) (by simp))
    have e2 : [a3] = [.int .i64 x2] := e2
    cases e2
    obtain ⟨x3, k3, e3⟩ := dec_78 (hf (4, 78) (by simp))
    have e3 : [a4, a5] = [byteD x3.x0, byteD x3.x1] := e3
    cases e3
    exact ⟨⟨x0, x1, x2, x3⟩, ⟨k0, k1, k2, k3⟩, rfl⟩
structure GS7 where
  x : Int
  y : Int
  signed : Bool
  code : UInt8
def GS7.cells (x : GS7) : List D := [.int .i64 x.x, .int .i64 x.y, .bool x.signed, byteD x.code]
def GS7.d (x : GS7) : D := .agg [.int .i64 x.x, .int .i64 x.y, .bool x.signed, byteD x.code]
def GS7.ok (x : GS7) : Prop := (okInt .i64) x.x ∧ (okInt .i64) x.y ∧ okT x.signed ∧ okT x.code
theorem GS7.noIds (x : GS7) : x.d.noIds = true := by
  simp only [GS7.d, dl, byteD, ni_agg, ni_consL, ni_nilL, ni_int, ni_bool, ni_str, ni_sl, Bool.and_self]
theorem dec_7 {n : Nat} {xs : List D} (h : TypedC ty n 7 xs) : ∃ x : GS7, x.ok ∧ xs = x.cells := by
  obtain ⟨n, hl, hf⟩ := struct_of (fs := [(0, 2), (1, 3), (2, 4), (3, 6)]) rfl h
  have hl : xs.length = 4 := hl
  match xs, hl, hf with
  | [a0, a1, a2, a3], _, hf =>
    obtain ⟨x0, k0, e0⟩ := dec_int rfl (hf (0, 2) (by simp))
    have e0 : [a0] = [.int .i64 x0] := e0
    cases e0
    obtain ⟨x1, k1, e1⟩ := dec_int rfl (hf (1, 3) (by simp))
    have e1 : [a1] = [.int .i64 x1] := e1
    cases e1
    obtain ⟨x2, k2, e2⟩ := dec_bool rfl (hf (2, 4) (by simp))
    have e2 : [a2] = [.bool x2] := e2
    cases e2
    obtain ⟨x3, k3, e3⟩ := dec_u8 rfl (hf (3, 6) (by simp))
    have e3 : [a3] = [byteD x3] := e3
    cases e3
    exact ⟨⟨x0, x1, x2, x3⟩, ⟨k0, k1, k2, k3⟩, rfl⟩
structure GBoundsError where
  x : Int
  y : Int
  signed : Bool
  code : UInt8
def GBoundsError.cells (x : GBoundsError) : List D := [.int .i64 x.x, .int .i64 x.y, .bool x.signed, byteD x.code]
def GBoundsError.d (x : GBoundsError) : D := .agg [.int .i64 x.x, .int .i64 x.y, .bool x.signed, byteD x.code]
def GBoundsError.ok (x : GBoundsError) : Prop := (okInt .i64) x.x ∧ (okInt .i64) x.y ∧ okT x.signed ∧ okT x.code
theorem GBoundsError.noIds (x : GBoundsError) : x.d.noIds = true := by
  simp only [GBoundsError.d, dl, byteD, ni_agg, ni_consL, ni_nilL, ni_int, ni_bool, ni_str, ni_sl, Bool.and_self]
theorem dec_8 {n : Nat} {xs : List D} (h : TypedC ty n 8 xs) : ∃ x : GBoundsError, x.ok ∧ xs = x.cells := by
  obtain ⟨n, hl, hf⟩ := struct_of (fs := [(0, 2), (1, 3), (2, 4), (3, 6)]) rfl h
  have hl : xs.length = 4 := hl
  match xs, hl, hf with
  | [a0, a1, a2, a3], _, hf =>
    obtain ⟨x0, k0, e0⟩ := dec_int rfl (hf (0, 2) (by simp))
    have e0 : [a0] = [.int .i64 x0] := e0
    cases e0
    obtain ⟨x1, k1, e1⟩ := dec_int rfl (hf (1, 3) (by simp))
    have e1 : [a1] = [.int .i64 x1] := e1
    cases e1
    obtain ⟨x2, k2, e2⟩ := dec_bool rfl (hf (2, 4) (by simp))
    have e2 : [a2] = [.bool x2] := e2
    cases e2
    obtain ⟨x3, k3, e3⟩ := dec_u8 rfl (hf (3, 6) (by simp))
    have e3 : [a3] = [byteD x3] := e3
    cases e3
    exact ⟨⟨x0, x1, x2, x3⟩, ⟨k0, k1, k2, k3⟩, rfl⟩
structure GS13 where
  msg : (List UInt8)
  addr : Int
def GS13.cells (x : GS13) : List D := [.str x.msg, .int .u64 x.addr]
def GS13.d (x : GS13) : D := .agg [.str x.msg, .int .u64 x.addr]
def GS13.ok (x : GS13) : Prop := okStr x.msg ∧ (okInt .u64) x.addr
theorem GS13.noIds (x : GS13) : x.d.noIds = true := by
  simp only [GS13.d, dl, byteD, ni_agg, ni_consL, ni_nilL, ni_int, ni_bool, ni_str, ni_sl, Bool.and_self]
theorem dec_13 {n : Nat} {xs : List D} (h : TypedC ty n 13 xs) : ∃ x : GS13, x.ok ∧ xs = x.cells := by
  obtain ⟨n, hl, hf⟩ := struct_of (fs := [(0, 9), (1, 12)]) rfl h
  have hl : xs.length = 2 := hl
  match xs, hl, hf with
  | [a0, a1], _, hf =>
    obtain ⟨x0, k0, e0⟩ := dec_str rfl (hf (0, 9) (by simp))
    have e0 : [a0] = [.str x0] := e0
    cases e0
    obtain ⟨x1, k1, e1⟩ := dec_int rfl (hf (1, 12) (by simp))
    have e1 : [a1] = [.int .u64 x1] := e1
    cases e1
    exact ⟨⟨x0, x1⟩, ⟨k0, k1⟩, rfl⟩
structure GErrorAddressString where
  msg : (List UInt8)
  addr : Int
def GErrorAddressString.cells (x : GErrorAddressString) : List D := [.str x.msg, .int .u64 x.addr]
def GErrorAddressString.d (x : GErrorAddressString) : D := .agg [.str x.msg, .int .u64 x.addr]
def GErrorAddressString.ok (x : GErrorAddressString) : Prop := okStr x.msg ∧ (okInt .u64) x.addr
theorem GErrorAddressString.noIds (x : GErrorAddressString) : x.d.noIds = true := by
  simp only [GErrorAddressString.d, dl, byteD, ni_agg, ni_consL, ni_nilL, ni_int, ni_bool, ni_str, ni_sl, Bool.and_self]
theorem dec_14 {n : Nat} {xs : List D} (h : TypedC ty n 14 xs) : ∃ x : GErrorAddressString, x.ok ∧ xs = x.cells := by
  obtain ⟨n, hl, hf⟩ := struct_of (fs := [(0, 9), (1, 12)]) rfl h
  have hl : xs.length = 2 := hl
  match xs, hl, hf with
  | [a0, a1], _, hf =>
    obtain ⟨x0, k0, e0⟩ := dec_str rfl (hf (0, 9) (by simp))
    have e0 : [a0] = [.str x0] := e0
    cases e0
    obtain ⟨x1, k1, e1⟩ := dec_int rfl (hf (1, 12) (by simp))
    have e1 : [a1] = [.int .u64 x1] := e1
    cases e1
    exact ⟨⟨x0, x1⟩, ⟨k0, k1⟩, rfl⟩
structure GS25 where
  l : (List GPeer)
  sure : Int
  t : GArr2i64
  m : GArr3i64
  more : UInt8
def GS25.cells (x : GS25) : List D := [dl 4 GPeer.d x.l, .int .i64 x.sure, .int .i64 x.t.x0, .int .i64 x.t.x1, .int .i64 x.m.x0, .int .i64 x.m.x1, .int .i64 x.m.x2, byteD x.more]
def GS25.d (x : GS25) : D := .agg [dl 4 GPeer.d x.l, .int .i64 x.sure, .int .i64 x.t.x0, .int .i64 x.t.x1, .int .i64 x.m.x0, .int .i64 x.m.x1, .int .i64 x.m.x2, byteD x.more]
def GS25.ok (x : GS25) : Prop := (okL GPeer.ok) x.l ∧ (okInt .i64) x.sure ∧ GArr2i64.ok x.t ∧ GArr3i64.ok x.m ∧ okT x.more
theorem GS25.noIds (x : GS25) : x.d.noIds = true := by
  simp only [GS25.d, dl, byteD, ni_agg, ni_consL, ni_nilL, ni_int, ni_bool, ni_str, ni_sl, Bool.and_self, noL _ GPeer.noIds]
theorem dec_25 {n : Nat} {xs : List D} (h : TypedC ty n 25 xs) : ∃ x : GS25, x.ok ∧ xs = x.cells := by
  obtain ⟨n, hl, hf⟩ := struct_of (fs := [(0, 22), (1, 3), (2, 23), (4, 24), (7, 5)]) rfl h
  have hl : xs.length = 8 := hl
  match xs, hl, hf with
  | [a0, a1, a2, a3, a4, a5, a6, a7], _, hf =>
    obtain ⟨x0, k0, e0⟩ := dec_slice (f := GPeer.d) (p := GPeer.ok) rfl (fun n ys h => by obtain ⟨x, k, rfl⟩ := dec_30 h; exact ⟨x, k, rfl⟩) (hf (0, 22) (by simp))
    have e0 : [a0] = [dl 4 GPeer.d x0] := e0
    cases e0
    obtain ⟨x1, k1, e1⟩ := dec_int rfl (hf (1, 3) (by simp))
    have e1 : [a1] = [.int .i64 x1] := e1
    cases e1
    obtain ⟨x2, k2, e2⟩ := dec_23 (hf (2, 23) (by simp))
    have e2 : [a2, a3] = [.int .i64 x2.x0, .int .i64 x2.x1] := e2
    cases e2
    obtain ⟨x3, k3, e3⟩ := dec_24 (hf (4, 24) (by simp))
    have e3 : [a4, a5, a6] = [.int .i64 x3.x0, .int .i64 x3.x1, .int .i64 x3.x2] := e3
    cases e3
    obtain ⟨x4, k4, e4⟩ := dec_u8 rfl (hf (7, 5) (by simp))
    have e4 : [a7] = [byteD x4] := e4
    cases e4
    exact ⟨⟨x0, x1, x2, x3, x4⟩, ⟨k0, k1, k2, k3, k4⟩, rfl⟩
structure GS29 where
  inc : Int
  seq : Int
  have' : Int
  heard : Int
def GS29.cells (x : GS29) : List D := [.int .i64 x.inc, .int .i64 x.seq, .int .i64 x.have', .int .i64 x.heard]
def GS29.d (x : GS29) : D := .agg [.int .i64 x.inc, .int .i64 x.seq, .int .i64 x.have', .int .i64 x.heard]
def GS29.ok (x : GS29) : Prop := (okInt .i64) x.inc ∧ (okInt .i64) x.seq ∧ (okInt .i64) x.have' ∧ (okInt .i64) x.heard
theorem GS29.noIds (x : GS29) : x.d.noIds = true := by
  simp only [GS29.d, dl, byteD, ni_agg, ni_consL, ni_nilL, ni_int, ni_bool, ni_str, ni_sl, Bool.and_self]
theorem dec_29 {n : Nat} {xs : List D} (h : TypedC ty n 29 xs) : ∃ x : GS29, x.ok ∧ xs = x.cells := by
  obtain ⟨n, hl, hf⟩ := struct_of (fs := [(0, 3), (1, 3), (2, 3), (3, 3)]) rfl h
  have hl : xs.length = 4 := hl
  match xs, hl, hf with
  | [a0, a1, a2, a3], _, hf =>
    obtain ⟨x0, k0, e0⟩ := dec_int rfl (hf (0, 3) (by simp))
    have e0 : [a0] = [.int .i64 x0] := e0
    cases e0
    obtain ⟨x1, k1, e1⟩ := dec_int rfl (hf (1, 3) (by simp))
    have e1 : [a1] = [.int .i64 x1] := e1
    cases e1
    obtain ⟨x2, k2, e2⟩ := dec_int rfl (hf (2, 3) (by simp))
    have e2 : [a2] = [.int .i64 x2] := e2
    cases e2
    obtain ⟨x3, k3, e3⟩ := dec_int rfl (hf (3, 3) (by simp))
    have e3 : [a3] = [.int .i64 x3] := e3
    cases e3
    exact ⟨⟨x0, x1, x2, x3⟩, ⟨k0, k1, k2, k3⟩, rfl⟩
structure GS41 where
  base : Int
  n : Int
  size : Int
def GS41.cells (x : GS41) : List D := [.int .i64 x.base, .int .i64 x.n, .int .i64 x.size]
def GS41.d (x : GS41) : D := .agg [.int .i64 x.base, .int .i64 x.n, .int .i64 x.size]
def GS41.ok (x : GS41) : Prop := (okInt .i64) x.base ∧ (okInt .i64) x.n ∧ (okInt .i64) x.size
theorem GS41.noIds (x : GS41) : x.d.noIds = true := by
  simp only [GS41.d, dl, byteD, ni_agg, ni_consL, ni_nilL, ni_int, ni_bool, ni_str, ni_sl, Bool.and_self]
theorem dec_41 {n : Nat} {xs : List D} (h : TypedC ty n 41 xs) : ∃ x : GS41, x.ok ∧ xs = x.cells := by
  obtain ⟨n, hl, hf⟩ := struct_of (fs := [(0, 3), (1, 3), (2, 3)]) rfl h
  have hl : xs.length = 3 := hl
  match xs, hl, hf with
  | [a0, a1, a2], _, hf =>
    obtain ⟨x0, k0, e0⟩ := dec_int rfl (hf (0, 3) (by simp))
    have e0 : [a0] = [.int .i64 x0] := e0
    cases e0
    obtain ⟨x1, k1, e1⟩ := dec_int rfl (hf (1, 3) (by simp))
    have e1 : [a1] = [.int .i64 x1] := e1
    cases e1
    obtain ⟨x2, k2, e2⟩ := dec_int rfl (hf (2, 3) (by simp))
    have e2 : [a2] = [.int .i64 x2] := e2
    cases e2
    exact ⟨⟨x0, x1, x2⟩, ⟨k0, k1, k2⟩, rfl⟩
structure GS45 where
  l : (List GSeg)
  keep : Int
  count : Int
  by' : GArr2u16
def GS45.cells (x : GS45) : List D := [dl 3 GSeg.d x.l, .int .i64 x.keep, .int .i64 x.count, .int .u16 x.by'.x0, .int .u16 x.by'.x1]
def GS45.d (x : GS45) : D := .agg [dl 3 GSeg.d x.l, .int .i64 x.keep, .int .i64 x.count, .int .u16 x.by'.x0, .int .u16 x.by'.x1]
def GS45.ok (x : GS45) : Prop := (okL GSeg.ok) x.l ∧ (okInt .i64) x.keep ∧ (okInt .i64) x.count ∧ GArr2u16.ok x.by'
theorem GS45.noIds (x : GS45) : x.d.noIds = true := by
  simp only [GS45.d, dl, byteD, ni_agg, ni_consL, ni_nilL, ni_int, ni_bool, ni_str, ni_sl, Bool.and_self, noL _ GSeg.noIds]
theorem dec_45 {n : Nat} {xs : List D} (h : TypedC ty n 45 xs) : ∃ x : GS45, x.ok ∧ xs = x.cells := by
  obtain ⟨n, hl, hf⟩ := struct_of (fs := [(0, 36), (1, 3), (2, 3), (3, 44)]) rfl h
  have hl : xs.length = 5 := hl
  match xs, hl, hf with
  | [a0, a1, a2, a3, a4], _, hf =>
    obtain ⟨x0, k0, e0⟩ := dec_slice (f := GSeg.d) (p := GSeg.ok) rfl (fun n ys h => by obtain ⟨x, k, rfl⟩ := dec_42 h; exact ⟨x, k, rfl⟩) (hf (0, 36) (by simp))
    have e0 : [a0] = [dl 3 GSeg.d x0] := e0
    cases e0
    obtain ⟨x1, k1, e1⟩ := dec_int rfl (hf (1, 3) (by simp))
    have e1 : [a1] = [.int .i64 x1] := e1
    cases e1
    obtain ⟨x2, k2, e2⟩ := dec_int rfl (hf (2, 3) (by simp))
    have e2 : [a2] = [.int .i64 x2] := e2
    cases e2
    obtain ⟨x3, k3, e3⟩ := dec_44 (hf (3, 44) (by simp))
    have e3 : [a3, a4] = [.int .u16 x3.x0, .int .u16 x3.x1] := e3
    cases e3
    exact ⟨⟨x0, x1, x2, x3⟩, ⟨k0, k1, k2, k3⟩, rfl⟩
structure GS49 where
  from' : Int
  to' : Int
  q : (List (List UInt8))
def GS49.cells (x : GS49) : List D := [.int .i64 x.from', .int .i64 x.to', dl 1 D.str x.q]
def GS49.d (x : GS49) : D := .agg [.int .i64 x.from', .int .i64 x.to', dl 1 D.str x.q]
def GS49.ok (x : GS49) : Prop := (okInt .i64) x.from' ∧ (okInt .i64) x.to' ∧ (okL okStr) x.q
theorem GS49.noIds (x : GS49) : x.d.noIds = true := by
  simp only [GS49.d, dl, byteD, ni_agg, ni_consL, ni_nilL, ni_int, ni_bool, ni_str, ni_sl, Bool.and_self, noL _ ni_str]
theorem dec_49 {n : Nat} {xs : List D} (h : TypedC ty n 49 xs) : ∃ x : GS49, x.ok ∧ xs = x.cells := by
  obtain ⟨n, hl, hf⟩ := struct_of (fs := [(0, 3), (1, 3), (2, 48)]) rfl h
  have hl : xs.length = 3 := hl
  match xs, hl, hf with
  | [a0, a1, a2], _, hf =>
    obtain ⟨x0, k0, e0⟩ := dec_int rfl (hf (0, 3) (by simp))
    have e0 : [a0] = [.int .i64 x0] := e0
    cases e0
    obtain ⟨x1, k1, e1⟩ := dec_int rfl (hf (1, 3) (by simp))
    have e1 : [a1] = [.int .i64 x1] := e1
    cases e1
    obtain ⟨x2, k2, e2⟩ := dec_slice (f := D.str) (p := okStr) rfl (fun n ys h => by obtain ⟨x, k, rfl⟩ := dec_str rfl h; exact ⟨x, k, rfl⟩) (hf (2, 48) (by simp))
    have e2 : [a2] = [dl 1 D.str x2] := e2
    cases e2
    exact ⟨⟨x0, x1, x2⟩, ⟨k0, k1, k2⟩, rfl⟩
structure GS51 where
  l : GLink
  s : (List UInt8)
  k : Int
  most : Int
def GS51.cells (x : GS51) : List D := [.int .i64 x.l.from', .int .i64 x.l.to', dl 1 D.str x.l.q, .str x.s, .int .i64 x.k, .int .i64 x.most]
def GS51.d (x : GS51) : D := .agg [.int .i64 x.l.from', .int .i64 x.l.to', dl 1 D.str x.l.q, .str x.s, .int .i64 x.k, .int .i64 x.most]
def GS51.ok (x : GS51) : Prop := GLink.ok x.l ∧ okStr x.s ∧ (okInt .i64) x.k ∧ (okInt .i64) x.most
theorem GS51.noIds (x : GS51) : x.d.noIds = true := by
  simp only [GS51.d, dl, byteD, ni_agg, ni_consL, ni_nilL, ni_int, ni_bool, ni_str, ni_sl, Bool.and_self, noL _ ni_str]
theorem dec_51 {n : Nat} {xs : List D} (h : TypedC ty n 51 xs) : ∃ x : GS51, x.ok ∧ xs = x.cells := by
  obtain ⟨n, hl, hf⟩ := struct_of (fs := [(0, 50), (3, 9), (4, 3), (5, 3)]) rfl h
  have hl : xs.length = 6 := hl
  match xs, hl, hf with
  | [a0, a1, a2, a3, a4, a5], _, hf =>
    obtain ⟨x0, k0, e0⟩ := dec_50 (hf (0, 50) (by simp))
    have e0 : [a0, a1, a2] = [.int .i64 x0.from', .int .i64 x0.to', dl 1 D.str x0.q] := e0
    cases e0
    obtain ⟨x1, k1, e1⟩ := dec_str rfl (hf (3, 9) (by simp))
    have e1 : [a3] = [.str x1] := e1
    cases e1
    obtain ⟨x2, k2, e2⟩ := dec_int rfl (hf (4, 3) (by simp))
    have e2 : [a4] = [.int .i64 x2] := e2
    cases e2
    obtain ⟨x3, k3, e3⟩ := dec_int rfl (hf (5, 3) (by simp))
    have e3 : [a5] = [.int .i64 x3] := e3
    cases e3
    exact ⟨⟨x0, x1, x2, x3⟩, ⟨k0, k1, k2, k3⟩, rfl⟩
structure GS62 where
  kind : UInt8
  k : UInt8
def GS62.cells (x : GS62) : List D := [byteD x.kind, byteD x.k]
def GS62.d (x : GS62) : D := .agg [byteD x.kind, byteD x.k]
def GS62.ok (x : GS62) : Prop := okT x.kind ∧ okT x.k
theorem GS62.noIds (x : GS62) : x.d.noIds = true := by
  simp only [GS62.d, dl, byteD, ni_agg, ni_consL, ni_nilL, ni_int, ni_bool, ni_str, ni_sl, Bool.and_self]
theorem dec_62 {n : Nat} {xs : List D} (h : TypedC ty n 62 xs) : ∃ x : GS62, x.ok ∧ xs = x.cells := by
  obtain ⟨n, hl, hf⟩ := struct_of (fs := [(0, 5), (1, 5)]) rfl h
  have hl : xs.length = 2 := hl
  match xs, hl, hf with
  | [a0, a1], _, hf =>
    obtain ⟨x0, k0, e0⟩ := dec_u8 rfl (hf (0, 5) (by simp))
    have e0 : [a0] = [byteD x0] := e0
    cases e0
    obtain ⟨x1, k1, e1⟩ := dec_u8 rfl (hf (1, 5) (by simp))
    have e1 : [a1] = [byteD x1] := e1
    cases e1
    exact ⟨⟨x0, x1⟩, ⟨k0, k1⟩, rfl⟩
structure GS76 where
  off : Int
  pos : Int
def GS76.cells (x : GS76) : List D := [.int .i64 x.off, .int .i64 x.pos]
def GS76.d (x : GS76) : D := .agg [.int .i64 x.off, .int .i64 x.pos]
def GS76.ok (x : GS76) : Prop := (okInt .i64) x.off ∧ (okInt .i64) x.pos
theorem GS76.noIds (x : GS76) : x.d.noIds = true := by
  simp only [GS76.d, dl, byteD, ni_agg, ni_consL, ni_nilL, ni_int, ni_bool, ni_str, ni_sl, Bool.and_self]
theorem dec_76 {n : Nat} {xs : List D} (h : TypedC ty n 76 xs) : ∃ x : GS76, x.ok ∧ xs = x.cells := by
  obtain ⟨n, hl, hf⟩ := struct_of (fs := [(0, 3), (1, 3)]) rfl h
  have hl : xs.length = 2 := hl
  match xs, hl, hf with
  | [a0, a1], _, hf =>
    obtain ⟨x0, k0, e0⟩ := dec_int rfl (hf (0, 3) (by simp))
    have e0 : [a0] = [.int .i64 x0] := e0
    cases e0
    obtain ⟨x1, k1, e1⟩ := dec_int rfl (hf (1, 3) (by simp))
    have e1 : [a1] = [.int .i64 x1] := e1
    cases e1
    exact ⟨⟨x0, x1⟩, ⟨k0, k1⟩, rfl⟩
structure GS79 where
  l : (List GMark)
  m : GMark
  off : Int
  how : GArr2byteD
def GS79.cells (x : GS79) : List D := [dl 2 GMark.d x.l, .int .i64 x.m.off, .int .i64 x.m.pos, .int .i64 x.off, byteD x.how.x0, byteD x.how.x1]
def GS79.d (x : GS79) : D := .agg [dl 2 GMark.d x.l, .int .i64 x.m.off, .int .i64 x.m.pos, .int .i64 x.off, byteD x.how.x0, byteD x.how.x1]
def GS79.ok (x : GS79) : Prop := (okL GMark.ok) x.l ∧ GMark.ok x.m ∧ (okInt .i64) x.off ∧ GArr2byteD.ok x.how
theorem GS79.noIds (x : GS79) : x.d.noIds = true := by
  simp only [GS79.d, dl, byteD, ni_agg, ni_consL, ni_nilL, ni_int, ni_bool, ni_str, ni_sl, Bool.and_self, noL _ GMark.noIds]
theorem dec_79 {n : Nat} {xs : List D} (h : TypedC ty n 79 xs) : ∃ x : GS79, x.ok ∧ xs = x.cells := by
  obtain ⟨n, hl, hf⟩ := struct_of (fs := [(0, 75), (1, 77), (3, 3), (4, 78)]) rfl h
  have hl : xs.length = 6 := hl
  match xs, hl, hf with
  | [a0, a1, a2, a3, a4, a5], _, hf =>
    obtain ⟨x0, k0, e0⟩ := dec_slice (f := GMark.d) (p := GMark.ok) rfl (fun n ys h => by obtain ⟨x, k, rfl⟩ := dec_77 h; exact ⟨x, k, rfl⟩) (hf (0, 75) (by simp))
    have e0 : [a0] = [dl 2 GMark.d x0] := e0
    cases e0
    obtain ⟨x1, k1, e1⟩ := dec_77 (hf (1, 77) (by simp))
    have e1 : [a1, a2] = [.int .i64 x1.off, .int .i64 x1.pos] := e1
    cases e1
    obtain ⟨x2, k2, e2⟩ := dec_int rfl (hf (3, 3) (by simp))
    have e2 : [a3] = [.int .i64 x2] := e2
    cases e2
    obtain ⟨x3, k3, e3⟩ := dec_78 (hf (4, 78) (by simp))
    have e3 : [a4, a5] = [byteD x3.x0, byteD x3.x1] := e3
    cases e3
    exact ⟨⟨x0, x1, x2, x3⟩, ⟨k0, k1, k2, k3⟩, rfl⟩

theorem mixed : Try.prog.follows .mixedOrders = true := by decide
theorem Try.own : ownKnob Try.prog.godebug = none := by kernel_rfl
theorem Try.laidOut : laidOutB Try.prog = true := by kernel_rfl

theorem args_DetectTells {n : Nat} {Ds : List D} (h : TypedAll ty n [26] Ds) : ∃ (p0 : GAsk), (GAsk.ok p0) ∧ Ds = [GAsk.d p0] := by
  match Ds, h with
  | [e0], h =>
    obtain ⟨⟨y0, h0, g0⟩, _⟩ := h
    obtain ⟨p0, k0, rfl⟩ := dec_26 h0
    subst g0
    exact ⟨p0, k0, rfl⟩

theorem lift_DetectTells (h : ∀ (p0 : GAsk), GAsk.ok p0 → PureF Try.prog 3 [GAsk.d p0] (.bool true)) (os : Os) (started : os.Started) (H : Type) (enc : TypeId × Value → H) :
    ReturnsInHanded {} Try.checked os 3 .any (Rows.detectTellsSpec.pre6 enc Try.prog Try.f3 Rows.detectTellsRow.domain false) (Rows.detectTellsSpec.post enc Try.prog Try.f3 false true false false) :=
  lifted (C := Try.checked) (τ := ty) (t := 4) 16 Try.own started (by kernel_rfl) Try.func3
    (ChangeSpec.witness6 (enc := enc) (C := Try.checked) false ⟨#[], #[(.agg #[.slice none 0 0, .int .i64 0, .int .i64 0, .int .i64 0, .int .i64 0, .int .i64 0, .int .i64 0, .int .u8 0])], []⟩ 16 (by kernel_rfl) (by kernel_rfl) (by kernel_rfl) (by kernel_rfl))
    tyOk Try.laidOut (by kernel_rfl) (by kernel_rfl) rfl (fun ds hd => by
      match ds, hd with
      | [_], _ => rfl) rfl Try.underlying4 (fun Ds hDs => by
      obtain ⟨p0, k0, rfl⟩ := args_DetectTells hDs
      exact h p0 k0)

theorem args_RetainTells {n : Nat} {Ds : List D} (h : TypedAll ty n [36, 3, 3] Ds) : ∃ (p0 : (List GSeg)) (p1 : Int) (p2 : Int), ((okL GSeg.ok) p0 ∧ (okInt .i64) p1 ∧ (okInt .i64) p2) ∧ Ds = [(dl 3 GSeg.d) p0, (D.int .i64) p1, (D.int .i64) p2] := by
  match Ds, h with
  | [e0, e1, e2], h =>
    obtain ⟨⟨y0, h0, g0⟩, ⟨y1, h1, g1⟩, ⟨y2, h2, g2⟩, _⟩ := h
    obtain ⟨p0, k0, rfl⟩ := dec_slice (f := GSeg.d) (p := GSeg.ok) rfl (fun n ys h => by obtain ⟨x, k, rfl⟩ := dec_42 h; exact ⟨x, k, rfl⟩) h0
    subst g0
    obtain ⟨p1, k1, rfl⟩ := dec_int rfl h1
    subst g1
    obtain ⟨p2, k2, rfl⟩ := dec_int rfl h2
    subst g2
    exact ⟨p0, p1, p2, ⟨k0, k1, k2⟩, rfl⟩

theorem lift_RetainTells (h : ∀ (p0 : (List GSeg)) (p1 : Int) (p2 : Int), (okL GSeg.ok) p0 → (okInt .i64) p1 → (okInt .i64) p2 → PureF Try.prog 4 [(dl 3 GSeg.d) p0, (D.int .i64) p1, (D.int .i64) p2] (.bool true)) (os : Os) (started : os.Started) (H : Type) (enc : TypeId × Value → H) :
    ReturnsInHanded {} Try.checked os 4 .any (Rows.retainTellsSpec.pre6 enc Try.prog Try.f4 Rows.retainTellsRow.domain false) (Rows.retainTellsSpec.post enc Try.prog Try.f4 false true false false) :=
  lifted (C := Try.checked) (τ := ty) (t := 4) 16 Try.own started (by kernel_rfl) Try.func4
    (ChangeSpec.witness6 (enc := enc) (C := Try.checked) false ⟨#[], #[(.slice none 0 0), (.int .i64 0), (.int .i64 0)], []⟩ 16 (by kernel_rfl) (by kernel_rfl) (by kernel_rfl) (by kernel_rfl))
    tyOk Try.laidOut (by kernel_rfl) (by kernel_rfl) rfl (fun ds hd => by
      match ds, hd with
      | [_, _, _], _ => rfl) rfl Try.underlying4 (fun Ds hDs => by
      obtain ⟨p0, p1, p2, ⟨k0, k1, k2⟩, rfl⟩ := args_RetainTells hDs
      exact h p0 p1 p2 k0 k1 k2)

theorem args_RetainLeast {n : Nat} {Ds : List D} (h : TypedAll ty n [36, 3, 3] Ds) : ∃ (p0 : (List GSeg)) (p1 : Int) (p2 : Int), ((okL GSeg.ok) p0 ∧ (okInt .i64) p1 ∧ (okInt .i64) p2) ∧ Ds = [(dl 3 GSeg.d) p0, (D.int .i64) p1, (D.int .i64) p2] := by
  match Ds, h with
  | [e0, e1, e2], h =>
    obtain ⟨⟨y0, h0, g0⟩, ⟨y1, h1, g1⟩, ⟨y2, h2, g2⟩, _⟩ := h
    obtain ⟨p0, k0, rfl⟩ := dec_slice (f := GSeg.d) (p := GSeg.ok) rfl (fun n ys h => by obtain ⟨x, k, rfl⟩ := dec_42 h; exact ⟨x, k, rfl⟩) h0
    subst g0
    obtain ⟨p1, k1, rfl⟩ := dec_int rfl h1
    subst g1
    obtain ⟨p2, k2, rfl⟩ := dec_int rfl h2
    subst g2
    exact ⟨p0, p1, p2, ⟨k0, k1, k2⟩, rfl⟩

theorem lift_RetainLeast (h : ∀ (p0 : (List GSeg)) (p1 : Int) (p2 : Int), (okL GSeg.ok) p0 → (okInt .i64) p1 → (okInt .i64) p2 → PureF Try.prog 5 [(dl 3 GSeg.d) p0, (D.int .i64) p1, (D.int .i64) p2] (.bool true)) (os : Os) (started : os.Started) (H : Type) (enc : TypeId × Value → H) :
    ReturnsInHanded {} Try.checked os 5 .any (Rows.retainLeastSpec.pre6 enc Try.prog Try.f5 Rows.retainLeastRow.domain false) (Rows.retainLeastSpec.post enc Try.prog Try.f5 false true false false) :=
  lifted (C := Try.checked) (τ := ty) (t := 4) 16 Try.own started (by kernel_rfl) Try.func5
    (ChangeSpec.witness6 (enc := enc) (C := Try.checked) false ⟨#[], #[(.slice none 0 0), (.int .i64 0), (.int .i64 0)], []⟩ 16 (by kernel_rfl) (by kernel_rfl) (by kernel_rfl) (by kernel_rfl))
    tyOk Try.laidOut (by kernel_rfl) (by kernel_rfl) rfl (fun ds hd => by
      match ds, hd with
      | [_, _, _], _ => rfl) rfl Try.underlying4 (fun Ds hDs => by
      obtain ⟨p0, p1, p2, ⟨k0, k1, k2⟩, rfl⟩ := args_RetainLeast hDs
      exact h p0 p1 p2 k0 k1 k2)

theorem args_RetainRises {n : Nat} {Ds : List D} (h : TypedAll ty n [46] Ds) : ∃ (p0 : GMore), (GMore.ok p0) ∧ Ds = [GMore.d p0] := by
  match Ds, h with
  | [e0], h =>
    obtain ⟨⟨y0, h0, g0⟩, _⟩ := h
    obtain ⟨p0, k0, rfl⟩ := dec_46 h0
    subst g0
    exact ⟨p0, k0, rfl⟩

theorem lift_RetainRises (h : ∀ (p0 : GMore), GMore.ok p0 → PureF Try.prog 6 [GMore.d p0] (.bool true)) (os : Os) (started : os.Started) (H : Type) (enc : TypeId × Value → H) :
    ReturnsInHanded {} Try.checked os 6 .any (Rows.retainRisesSpec.pre6 enc Try.prog Try.f6 Rows.retainRisesRow.domain false) (Rows.retainRisesSpec.post enc Try.prog Try.f6 false true false false) :=
  lifted (C := Try.checked) (τ := ty) (t := 4) 16 Try.own started (by kernel_rfl) Try.func6
    (ChangeSpec.witness6 (enc := enc) (C := Try.checked) false ⟨#[], #[(.agg #[.slice none 0 0, .int .i64 0, .int .i64 0, .int .u16 0, .int .u16 0])], []⟩ 16 (by kernel_rfl) (by kernel_rfl) (by kernel_rfl) (by kernel_rfl))
    tyOk Try.laidOut (by kernel_rfl) (by kernel_rfl) rfl (fun ds hd => by
      match ds, hd with
      | [_], _ => rfl) rfl Try.underlying4 (fun Ds hDs => by
      obtain ⟨p0, k0, rfl⟩ := args_RetainRises hDs
      exact h p0 k0)

theorem args_LinkTells {n : Nat} {Ds : List D} (h : TypedAll ty n [52] Ds) : ∃ (p0 : GWagonerlaw17Ask), (GWagonerlaw17Ask.ok p0) ∧ Ds = [GWagonerlaw17Ask.d p0] := by
  match Ds, h with
  | [e0], h =>
    obtain ⟨⟨y0, h0, g0⟩, _⟩ := h
    obtain ⟨p0, k0, rfl⟩ := dec_52 h0
    subst g0
    exact ⟨p0, k0, rfl⟩

theorem lift_LinkTells (h : ∀ (p0 : GWagonerlaw17Ask), GWagonerlaw17Ask.ok p0 → PureF Try.prog 7 [GWagonerlaw17Ask.d p0] (.bool true)) (os : Os) (started : os.Started) (H : Type) (enc : TypeId × Value → H) :
    ReturnsInHanded {} Try.checked os 7 .any (Rows.linkTellsSpec.pre6 enc Try.prog Try.f7 Rows.linkTellsRow.domain false) (Rows.linkTellsSpec.post enc Try.prog Try.f7 false true false false) :=
  lifted (C := Try.checked) (τ := ty) (t := 4) 16 Try.own started (by kernel_rfl) Try.func7
    (ChangeSpec.witness6 (enc := enc) (C := Try.checked) false ⟨#[], #[(.agg #[.int .i64 0, .int .i64 0, .slice none 0 0, .string ByteArray.empty, .int .i64 0, .int .i64 0])], []⟩ 16 (by kernel_rfl) (by kernel_rfl) (by kernel_rfl) (by kernel_rfl))
    tyOk Try.laidOut (by kernel_rfl) (by kernel_rfl) rfl (fun ds hd => by
      match ds, hd with
      | [_], _ => rfl) rfl Try.underlying4 (fun Ds hDs => by
      obtain ⟨p0, k0, rfl⟩ := args_LinkTells hDs
      exact h p0 k0)

theorem args_LinkPlays {n : Nat} {Ds : List D} (h : TypedAll ty n [61, 5] Ds) : ∃ (p0 : (List GAct)) (p1 : UInt8), ((okL GAct.ok) p0 ∧ okT p1) ∧ Ds = [(dl 2 GAct.d) p0, byteD p1] := by
  match Ds, h with
  | [e0, e1], h =>
    obtain ⟨⟨y0, h0, g0⟩, ⟨y1, h1, g1⟩, _⟩ := h
    obtain ⟨p0, k0, rfl⟩ := dec_slice (f := GAct.d) (p := GAct.ok) rfl (fun n ys h => by obtain ⟨x, k, rfl⟩ := dec_63 h; exact ⟨x, k, rfl⟩) h0
    subst g0
    obtain ⟨p1, k1, rfl⟩ := dec_u8 rfl h1
    subst g1
    exact ⟨p0, p1, ⟨k0, k1⟩, rfl⟩

theorem lift_LinkPlays (h : ∀ (p0 : (List GAct)) (p1 : UInt8), (okL GAct.ok) p0 → okT p1 → PureF Try.prog 8 [(dl 2 GAct.d) p0, byteD p1] (.bool true)) (os : Os) (started : os.Started) (H : Type) (enc : TypeId × Value → H) :
    ReturnsInHanded {} Try.checked os 8 .any (Rows.linkPlaysSpec.pre6 enc Try.prog Try.f8 Rows.linkPlaysRow.domain false) (Rows.linkPlaysSpec.post enc Try.prog Try.f8 false true false false) :=
  lifted (C := Try.checked) (τ := ty) (t := 4) 16 Try.own started (by kernel_rfl) Try.func8
    (ChangeSpec.witness6 (enc := enc) (C := Try.checked) false ⟨#[], #[(.slice none 0 0), (.int .u8 0)], []⟩ 16 (by kernel_rfl) (by kernel_rfl) (by kernel_rfl) (by kernel_rfl))
    tyOk Try.laidOut (by kernel_rfl) (by kernel_rfl) rfl (fun ds hd => by
      match ds, hd with
      | [_, _], _ => rfl) rfl Try.underlying4 (fun Ds hDs => by
      obtain ⟨p0, p1, ⟨k0, k1⟩, rfl⟩ := args_LinkPlays hDs
      exact h p0 p1 k0 k1)

theorem args_CrcTells {n : Nat} {Ds : List D} (h : TypedAll ty n [48, 66] Ds) : ∃ (p0 : (List (List UInt8))) (p1 : Int), ((okL okStr) p0 ∧ (okInt .u32) p1) ∧ Ds = [(dl 1 D.str) p0, (D.int .u32) p1] := by
  match Ds, h with
  | [e0, e1], h =>
    obtain ⟨⟨y0, h0, g0⟩, ⟨y1, h1, g1⟩, _⟩ := h
    obtain ⟨p0, k0, rfl⟩ := dec_slice (f := D.str) (p := okStr) rfl (fun n ys h => by obtain ⟨x, k, rfl⟩ := dec_str rfl h; exact ⟨x, k, rfl⟩) h0
    subst g0
    obtain ⟨p1, k1, rfl⟩ := dec_int rfl h1
    subst g1
    exact ⟨p0, p1, ⟨k0, k1⟩, rfl⟩

theorem lift_CrcTells (h : ∀ (p0 : (List (List UInt8))) (p1 : Int), (okL okStr) p0 → (okInt .u32) p1 → PureF Try.prog 9 [(dl 1 D.str) p0, (D.int .u32) p1] (.bool true)) (os : Os) (started : os.Started) (H : Type) (enc : TypeId × Value → H) :
    ReturnsInHanded {} Try.checked os 9 .any (Rows.crcTellsSpec.pre6 enc Try.prog Try.f9 Rows.crcTellsRow.domain false) (Rows.crcTellsSpec.post enc Try.prog Try.f9 false true false false) :=
  lifted (C := Try.checked) (τ := ty) (t := 4) 16 Try.own started (by kernel_rfl) Try.func9
    (ChangeSpec.witness6 (enc := enc) (C := Try.checked) false ⟨#[], #[(.slice none 0 0), (.int .u32 0)], []⟩ 16 (by kernel_rfl) (by kernel_rfl) (by kernel_rfl) (by kernel_rfl))
    tyOk Try.laidOut (by kernel_rfl) (by kernel_rfl) rfl (fun ds hd => by
      match ds, hd with
      | [_, _], _ => rfl) rfl Try.underlying4 (fun Ds hDs => by
      obtain ⟨p0, p1, ⟨k0, k1⟩, rfl⟩ := args_CrcTells hDs
      exact h p0 p1 k0 k1)

theorem args_CrcParts {n : Nat} {Ds : List D} (h : TypedAll ty n [9, 9, 9] Ds) : ∃ (p0 : (List UInt8)) (p1 : (List UInt8)) (p2 : (List UInt8)), (okStr p0 ∧ okStr p1 ∧ okStr p2) ∧ Ds = [D.str p0, D.str p1, D.str p2] := by
  match Ds, h with
  | [e0, e1, e2], h =>
    obtain ⟨⟨y0, h0, g0⟩, ⟨y1, h1, g1⟩, ⟨y2, h2, g2⟩, _⟩ := h
    obtain ⟨p0, k0, rfl⟩ := dec_str rfl h0
    subst g0
    obtain ⟨p1, k1, rfl⟩ := dec_str rfl h1
    subst g1
    obtain ⟨p2, k2, rfl⟩ := dec_str rfl h2
    subst g2
    exact ⟨p0, p1, p2, ⟨k0, k1, k2⟩, rfl⟩

theorem lift_CrcParts (h : ∀ (p0 : (List UInt8)) (p1 : (List UInt8)) (p2 : (List UInt8)), okStr p0 → okStr p1 → okStr p2 → PureF Try.prog 10 [D.str p0, D.str p1, D.str p2] (.bool true)) (os : Os) (started : os.Started) (H : Type) (enc : TypeId × Value → H) :
    ReturnsInHanded {} Try.checked os 10 .any (Rows.crcPartsSpec.pre6 enc Try.prog Try.f10 Rows.crcPartsRow.domain false) (Rows.crcPartsSpec.post enc Try.prog Try.f10 false true false false) :=
  lifted (C := Try.checked) (τ := ty) (t := 4) 16 Try.own started (by kernel_rfl) Try.func10
    (ChangeSpec.witness6 (enc := enc) (C := Try.checked) false ⟨#[], #[(.string ByteArray.empty), (.string ByteArray.empty), (.string ByteArray.empty)], []⟩ 16 (by kernel_rfl) (by kernel_rfl) (by kernel_rfl) (by kernel_rfl))
    tyOk Try.laidOut (by kernel_rfl) (by kernel_rfl) rfl (fun ds hd => by
      match ds, hd with
      | [_, _, _], _ => rfl) rfl Try.underlying4 (fun Ds hDs => by
      obtain ⟨p0, p1, p2, ⟨k0, k1, k2⟩, rfl⟩ := args_CrcParts hDs
      exact h p0 p1 p2 k0 k1 k2)

theorem args_CrcBurst {n : Nat} {Ds : List D} (h : TypedAll ty n [9, 43, 66] Ds) : ∃ (p0 : (List UInt8)) (p1 : Int) (p2 : Int), (okStr p0 ∧ (okInt .u16) p1 ∧ (okInt .u32) p2) ∧ Ds = [D.str p0, (D.int .u16) p1, (D.int .u32) p2] := by
  match Ds, h with
  | [e0, e1, e2], h =>
    obtain ⟨⟨y0, h0, g0⟩, ⟨y1, h1, g1⟩, ⟨y2, h2, g2⟩, _⟩ := h
    obtain ⟨p0, k0, rfl⟩ := dec_str rfl h0
    subst g0
    obtain ⟨p1, k1, rfl⟩ := dec_int rfl h1
    subst g1
    obtain ⟨p2, k2, rfl⟩ := dec_int rfl h2
    subst g2
    exact ⟨p0, p1, p2, ⟨k0, k1, k2⟩, rfl⟩

theorem lift_CrcBurst (h : ∀ (p0 : (List UInt8)) (p1 : Int) (p2 : Int), okStr p0 → (okInt .u16) p1 → (okInt .u32) p2 → PureF Try.prog 11 [D.str p0, (D.int .u16) p1, (D.int .u32) p2] (.bool true)) (os : Os) (started : os.Started) (H : Type) (enc : TypeId × Value → H) :
    ReturnsInHanded {} Try.checked os 11 .any (Rows.crcBurstSpec.pre6 enc Try.prog Try.f11 Rows.crcBurstRow.domain false) (Rows.crcBurstSpec.post enc Try.prog Try.f11 false true false false) :=
  lifted (C := Try.checked) (τ := ty) (t := 4) 16 Try.own started (by kernel_rfl) Try.func11
    (ChangeSpec.witness6 (enc := enc) (C := Try.checked) false ⟨#[], #[(.string ByteArray.empty), (.int .u16 0), (.int .u32 0)], []⟩ 16 (by kernel_rfl) (by kernel_rfl) (by kernel_rfl) (by kernel_rfl))
    tyOk Try.laidOut (by kernel_rfl) (by kernel_rfl) rfl (fun ds hd => by
      match ds, hd with
      | [_, _, _], _ => rfl) rfl Try.underlying4 (fun Ds hDs => by
      obtain ⟨p0, p1, p2, ⟨k0, k1, k2⟩, rfl⟩ := args_CrcBurst hDs
      exact h p0 p1 p2 k0 k1 k2)

theorem args_SparseTells {n : Nat} {Ds : List D} (h : TypedAll ty n [80] Ds) : ∃ (p0 : GWagonerlaw08Ask), (GWagonerlaw08Ask.ok p0) ∧ Ds = [GWagonerlaw08Ask.d p0] := by
  match Ds, h with
  | [e0], h =>
    obtain ⟨⟨y0, h0, g0⟩, _⟩ := h
    obtain ⟨p0, k0, rfl⟩ := dec_80 h0
    subst g0
    exact ⟨p0, k0, rfl⟩

theorem lift_SparseTells (h : ∀ (p0 : GWagonerlaw08Ask), GWagonerlaw08Ask.ok p0 → PureF Try.prog 12 [GWagonerlaw08Ask.d p0] (.bool true)) (os : Os) (started : os.Started) (H : Type) (enc : TypeId × Value → H) :
    ReturnsInHanded {} Try.checked os 12 .any (Rows.sparseTellsSpec.pre6 enc Try.prog Try.f12 Rows.sparseTellsRow.domain false) (Rows.sparseTellsSpec.post enc Try.prog Try.f12 false true false false) :=
  lifted (C := Try.checked) (τ := ty) (t := 4) 16 Try.own started (by kernel_rfl) Try.func12
    (ChangeSpec.witness6 (enc := enc) (C := Try.checked) false ⟨#[], #[(.agg #[.slice none 0 0, .int .i64 0, .int .i64 0, .int .i64 0, .int .u8 0, .int .u8 0])], []⟩ 16 (by kernel_rfl) (by kernel_rfl) (by kernel_rfl) (by kernel_rfl))
    tyOk Try.laidOut (by kernel_rfl) (by kernel_rfl) rfl (fun ds hd => by
      match ds, hd with
      | [_], _ => rfl) rfl Try.underlying4 (fun Ds hDs => by
      obtain ⟨p0, k0, rfl⟩ := args_SparseTells hDs
      exact h p0 k0)

theorem args_SparseKeeps {n : Nat} {Ds : List D} (h : TypedAll ty n [43, 5, 64] Ds) : ∃ (p0 : Int) (p1 : UInt8) (p2 : (List UInt8)), ((okInt .u16) p0 ∧ okT p1 ∧ (okL okT) p2) ∧ Ds = [(D.int .u16) p0, byteD p1, (dl 1 byteD) p2] := by
  match Ds, h with
  | [e0, e1, e2], h =>
    obtain ⟨⟨y0, h0, g0⟩, ⟨y1, h1, g1⟩, ⟨y2, h2, g2⟩, _⟩ := h
    obtain ⟨p0, k0, rfl⟩ := dec_int rfl h0
    subst g0
    obtain ⟨p1, k1, rfl⟩ := dec_u8 rfl h1
    subst g1
    obtain ⟨p2, k2, rfl⟩ := dec_slice (f := byteD) (p := okT) rfl (fun n ys h => by obtain ⟨x, k, rfl⟩ := dec_u8 rfl h; exact ⟨x, k, rfl⟩) h2
    subst g2
    exact ⟨p0, p1, p2, ⟨k0, k1, k2⟩, rfl⟩

theorem lift_SparseKeeps (h : ∀ (p0 : Int) (p1 : UInt8) (p2 : (List UInt8)), (okInt .u16) p0 → okT p1 → (okL okT) p2 → PureF Try.prog 13 [(D.int .u16) p0, byteD p1, (dl 1 byteD) p2] (.bool true)) (os : Os) (started : os.Started) (H : Type) (enc : TypeId × Value → H) :
    ReturnsInHanded {} Try.checked os 13 .any (Rows.sparseKeepsSpec.pre6 enc Try.prog Try.f13 Rows.sparseKeepsRow.domain false) (Rows.sparseKeepsSpec.post enc Try.prog Try.f13 false true false false) :=
  lifted (C := Try.checked) (τ := ty) (t := 4) 16 Try.own started (by kernel_rfl) Try.func13
    (ChangeSpec.witness6 (enc := enc) (C := Try.checked) false ⟨#[], #[(.int .u16 0), (.int .u8 0), (.slice none 0 0)], []⟩ 16 (by kernel_rfl) (by kernel_rfl) (by kernel_rfl) (by kernel_rfl))
    tyOk Try.laidOut (by kernel_rfl) (by kernel_rfl) rfl (fun ds hd => by
      match ds, hd with
      | [_, _, _], _ => rfl) rfl Try.underlying4 (fun Ds hDs => by
      obtain ⟨p0, p1, p2, ⟨k0, k1, k2⟩, rfl⟩ := args_SparseKeeps hDs
      exact h p0 p1 p2 k0 k1 k2)

theorem args_SparseSplits {n : Nat} {Ds : List D} (h : TypedAll ty n [75, 3] Ds) : ∃ (p0 : (List GMark)) (p1 : Int), ((okL GMark.ok) p0 ∧ (okInt .i64) p1) ∧ Ds = [(dl 2 GMark.d) p0, (D.int .i64) p1] := by
  match Ds, h with
  | [e0, e1], h =>
    obtain ⟨⟨y0, h0, g0⟩, ⟨y1, h1, g1⟩, _⟩ := h
    obtain ⟨p0, k0, rfl⟩ := dec_slice (f := GMark.d) (p := GMark.ok) rfl (fun n ys h => by obtain ⟨x, k, rfl⟩ := dec_77 h; exact ⟨x, k, rfl⟩) h0
    subst g0
    obtain ⟨p1, k1, rfl⟩ := dec_int rfl h1
    subst g1
    exact ⟨p0, p1, ⟨k0, k1⟩, rfl⟩

theorem lift_SparseSplits (h : ∀ (p0 : (List GMark)) (p1 : Int), (okL GMark.ok) p0 → (okInt .i64) p1 → PureF Try.prog 14 [(dl 2 GMark.d) p0, (D.int .i64) p1] (.bool true)) (os : Os) (started : os.Started) (H : Type) (enc : TypeId × Value → H) :
    ReturnsInHanded {} Try.checked os 14 .any (Rows.sparseSplitsSpec.pre6 enc Try.prog Try.f14 Rows.sparseSplitsRow.domain false) (Rows.sparseSplitsSpec.post enc Try.prog Try.f14 false true false false) :=
  lifted (C := Try.checked) (τ := ty) (t := 4) 16 Try.own started (by kernel_rfl) Try.func14
    (ChangeSpec.witness6 (enc := enc) (C := Try.checked) false ⟨#[], #[(.slice none 0 0), (.int .i64 0)], []⟩ 16 (by kernel_rfl) (by kernel_rfl) (by kernel_rfl) (by kernel_rfl))
    tyOk Try.laidOut (by kernel_rfl) (by kernel_rfl) rfl (fun ds hd => by
      match ds, hd with
      | [_, _], _ => rfl) rfl Try.underlying4 (fun Ds hDs => by
      obtain ⟨p0, p1, ⟨k0, k1⟩, rfl⟩ := args_SparseSplits hDs
      exact h p0 p1 k0 k1)

end Go.Proofs.Ytlpbhmhkobhkeaa
