/- The table of the types of this translation, as the abstract walk asks for them, tied to the loaded program. Written by a program of this session (wip/tools/gentypes.py). -/
import Derived.Test.YtlkffgmejcgdbaaDoorProg
import Derived.KernelRfl
import Derived.Test.YtlkffgmejcgdbaaDoorL2
namespace Go.Proofs.YtlkffgmejcgdbaaDoor
set_option linter.all false

def ty : Ty := fun t => match t with
  | 1 => ⟨.other, 1, 8, .nilFunc, false⟩
  | 2 => ⟨.int .i64, 1, 8, .int .i64 0, false⟩
  | 3 => ⟨.int .i64, 1, 8, .int .i64 0, false⟩
  | 4 => ⟨.bool, 1, 1, .bool false, false⟩
  | 5 => ⟨.int .u8, 1, 1, .int .u8 0, false⟩
  | 6 => ⟨.int .u8, 1, 1, .int .u8 0, true⟩
  | 7 => ⟨.struct [(0, 2), (1, 3), (2, 4), (3, 6)], 4, 24, .agg #[.int .i64 0, .int .i64 0, .bool false, .int .u8 0], false⟩
  | 8 => ⟨.struct [(0, 2), (1, 3), (2, 4), (3, 6)], 4, 24, .agg #[.int .i64 0, .int .i64 0, .bool false, .int .u8 0], false⟩
  | 9 => ⟨.str, 1, 16, .string ByteArray.empty, false⟩
  | 10 => ⟨.str, 1, 16, .string ByteArray.empty, false⟩
  | 11 => ⟨.str, 1, 16, .string ByteArray.empty, false⟩
  | 12 => ⟨.int .u64, 1, 8, .int .u64 0, false⟩
  | 13 => ⟨.struct [(0, 9), (1, 12)], 2, 24, .agg #[.string ByteArray.empty, .int .u64 0], false⟩
  | 14 => ⟨.struct [(0, 9), (1, 12)], 2, 24, .agg #[.string ByteArray.empty, .int .u64 0], false⟩
  | 15 => ⟨.ptr 74, 1, 8, .pointer none, false⟩
  | 16 => ⟨.ptr 77, 1, 8, .pointer none, false⟩
  | 17 => ⟨.ptr 85, 1, 8, .pointer none, false⟩
  | 18 => ⟨.struct [(0, 17)], 1, 8, .agg #[.pointer none], false⟩
  | 19 => ⟨.struct [(0, 17)], 1, 8, .agg #[.pointer none], false⟩
  | 20 => ⟨.iface, 1, 16, .nilIface, false⟩
  | 21 => ⟨.int .i32, 1, 4, .int .i32 0, false⟩
  | 22 => ⟨.other, 1, 8, .nilFunc, false⟩
  | 24 => ⟨.other, 1, 8, .nilFunc, false⟩
  | 25 => ⟨.other, 1, 8, .nilFunc, false⟩
  | 26 => ⟨.other, 1, 8, .nilFunc, false⟩
  | 27 => ⟨.other, 1, 8, .nilFunc, false⟩
  | 28 => ⟨.slice 5, 1, 24, .slice none 0 0, false⟩
  | 29 => ⟨.other, 1, 8, .nilFunc, false⟩
  | 30 => ⟨.iface, 1, 16, .nilIface, false⟩
  | 31 => ⟨.iface, 1, 16, .nilIface, false⟩
  | 33 => ⟨.other, 1, 8, .nilFunc, false⟩
  | 34 => ⟨.other, 1, 8, .nilFunc, false⟩
  | 35 => ⟨.other, 1, 8, .nilFunc, false⟩
  | 36 => ⟨.int .u64, 1, 8, .int .u64 0, false⟩
  | 37 => ⟨.array 14 5, 14, 14, .agg #[.int .u8 0, .int .u8 0, .int .u8 0, .int .u8 0, .int .u8 0, .int .u8 0, .int .u8 0, .int .u8 0, .int .u8 0, .int .u8 0, .int .u8 0, .int .u8 0, .int .u8 0, .int .u8 0], false⟩
  | 38 => ⟨.int .i64, 1, 8, .int .i64 0, true⟩
  | 40 => ⟨.other, 1, 8, .nilFunc, false⟩
  | 41 => ⟨.ptr 49, 1, 8, .pointer none, false⟩
  | 42 => ⟨.other, 1, 8, .nilFunc, false⟩
  | 43 => ⟨.other, 1, 8, .nilFunc, false⟩
  | 44 => ⟨.int .u64, 1, 8, .int .u64 0, false⟩
  | 46 => ⟨.other, 1, 8, .nilFunc, false⟩
  | 47 => ⟨.other, 1, 8, .nilFunc, false⟩
  | 48 => ⟨.struct [(0, 9), (1, 9), (2, 31)], 3, 48, .agg #[.string ByteArray.empty, .string ByteArray.empty, .nilIface], false⟩
  | 49 => ⟨.struct [(0, 9), (1, 9), (2, 31)], 3, 48, .agg #[.string ByteArray.empty, .string ByteArray.empty, .nilIface], false⟩
  | 50 => ⟨.other, 1, 8, .nilFunc, false⟩
  | 51 => ⟨.other, 1, 8, .nilFunc, false⟩
  | 52 => ⟨.ptr 5, 1, 8, .pointer none, false⟩
  | 53 => ⟨.ptr 55, 1, 8, .pointer none, false⟩
  | 54 => ⟨.struct [(0, 9)], 1, 16, .agg #[.string ByteArray.empty], false⟩
  | 55 => ⟨.struct [(0, 9)], 1, 16, .agg #[.string ByteArray.empty], false⟩
  | 56 => ⟨.other, 1, 8, .nilFunc, false⟩
  | 57 => ⟨.array 24 5, 24, 24, .agg #[.int .u8 0, .int .u8 0, .int .u8 0, .int .u8 0, .int .u8 0, .int .u8 0, .int .u8 0, .int .u8 0, .int .u8 0, .int .u8 0, .int .u8 0, .int .u8 0, .int .u8 0, .int .u8 0, .int .u8 0, .int .u8 0, .int .u8 0, .int .u8 0, .int .u8 0, .int .u8 0, .int .u8 0, .int .u8 0, .int .u8 0, .int .u8 0], false⟩
  | 58 => ⟨.other, 1, 8, .nilFunc, false⟩
  | 59 => ⟨.other, 1, 8, .nilFunc, false⟩
  | 61 => ⟨.other, 1, 8, .nilFunc, false⟩
  | 62 => ⟨.other, 1, 8, .nilFunc, false⟩
  | 63 => ⟨.other, 1, 8, .nilFunc, false⟩
  | 64 => ⟨.array 20 44, 20, 160, .agg #[.int .u64 0, .int .u64 0, .int .u64 0, .int .u64 0, .int .u64 0, .int .u64 0, .int .u64 0, .int .u64 0, .int .u64 0, .int .u64 0, .int .u64 0, .int .u64 0, .int .u64 0, .int .u64 0, .int .u64 0, .int .u64 0, .int .u64 0, .int .u64 0, .int .u64 0, .int .u64 0], false⟩
  | 65 => ⟨.int .u32, 1, 4, .int .u32 0, false⟩
  | 66 => ⟨.array 65 5, 65, 65, .agg #[.int .u8 0, .int .u8 0, .int .u8 0, .int .u8 0, .int .u8 0, .int .u8 0, .int .u8 0, .int .u8 0, .int .u8 0, .int .u8 0, .int .u8 0, .int .u8 0, .int .u8 0, .int .u8 0, .int .u8 0, .int .u8 0, .int .u8 0, .int .u8 0, .int .u8 0, .int .u8 0, .int .u8 0, .int .u8 0, .int .u8 0, .int .u8 0, .int .u8 0, .int .u8 0, .int .u8 0, .int .u8 0, .int .u8 0, .int .u8 0, .int .u8 0, .int .u8 0, .int .u8 0, .int .u8 0, .int .u8 0, .int .u8 0, .int .u8 0, .int .u8 0, .int .u8 0, .int .u8 0, .int .u8 0, .int .u8 0, .int .u8 0, .int .u8 0, .int .u8 0, .int .u8 0, .int .u8 0, .int .u8 0, .int .u8 0, .int .u8 0, .int .u8 0, .int .u8 0, .int .u8 0, .int .u8 0, .int .u8 0, .int .u8 0, .int .u8 0, .int .u8 0, .int .u8 0, .int .u8 0, .int .u8 0, .int .u8 0, .int .u8 0, .int .u8 0, .int .u8 0], false⟩
  | 67 => ⟨.other, 1, 8, .nilFunc, false⟩
  | 68 => ⟨.other, 1, 8, .nilFunc, false⟩
  | 69 => ⟨.other, 1, 8, .nilFunc, false⟩
  | 70 => ⟨.array 32 5, 32, 32, .agg #[.int .u8 0, .int .u8 0, .int .u8 0, .int .u8 0, .int .u8 0, .int .u8 0, .int .u8 0, .int .u8 0, .int .u8 0, .int .u8 0, .int .u8 0, .int .u8 0, .int .u8 0, .int .u8 0, .int .u8 0, .int .u8 0, .int .u8 0, .int .u8 0, .int .u8 0, .int .u8 0, .int .u8 0, .int .u8 0, .int .u8 0, .int .u8 0, .int .u8 0, .int .u8 0, .int .u8 0, .int .u8 0, .int .u8 0, .int .u8 0, .int .u8 0, .int .u8 0], false⟩
  | 71 => ⟨.array 64 5, 64, 64, .agg #[.int .u8 0, .int .u8 0, .int .u8 0, .int .u8 0, .int .u8 0, .int .u8 0, .int .u8 0, .int .u8 0, .int .u8 0, .int .u8 0, .int .u8 0, .int .u8 0, .int .u8 0, .int .u8 0, .int .u8 0, .int .u8 0, .int .u8 0, .int .u8 0, .int .u8 0, .int .u8 0, .int .u8 0, .int .u8 0, .int .u8 0, .int .u8 0, .int .u8 0, .int .u8 0, .int .u8 0, .int .u8 0, .int .u8 0, .int .u8 0, .int .u8 0, .int .u8 0, .int .u8 0, .int .u8 0, .int .u8 0, .int .u8 0, .int .u8 0, .int .u8 0, .int .u8 0, .int .u8 0, .int .u8 0, .int .u8 0, .int .u8 0, .int .u8 0, .int .u8 0, .int .u8 0, .int .u8 0, .int .u8 0, .int .u8 0, .int .u8 0, .int .u8 0, .int .u8 0, .int .u8 0, .int .u8 0, .int .u8 0, .int .u8 0, .int .u8 0, .int .u8 0, .int .u8 0, .int .u8 0, .int .u8 0, .int .u8 0, .int .u8 0, .int .u8 0], false⟩
  | 72 => ⟨.other, 1, 8, .nilFunc, false⟩
  | 73 => ⟨.struct [(0, 17), (1, 17), (2, 17), (3, 9)], 4, 40, .agg #[.pointer none, .pointer none, .pointer none, .string ByteArray.empty], false⟩
  | 74 => ⟨.struct [(0, 17), (1, 17), (2, 17), (3, 9)], 4, 40, .agg #[.pointer none, .pointer none, .pointer none, .string ByteArray.empty], false⟩
  | 75 => ⟨.array 0 16, 0, 0, .agg #[], false⟩
  | 76 => ⟨.struct [(0, 75)], 0, 0, .agg #[], false⟩
  | 77 => ⟨.struct [(0, 75)], 0, 0, .agg #[], false⟩
  | 78 => ⟨.other, 1, 8, .nilFunc, false⟩
  | 79 => ⟨.int .u8, 1, 1, .int .u8 0, true⟩
  | 80 => ⟨.int .u8, 1, 1, .int .u8 0, true⟩
  | 81 => ⟨.other, 1, 8, .nilFunc, false⟩
  | 82 => ⟨.int .i32, 1, 4, .int .i32 0, true⟩
  | 83 => ⟨.int .i32, 1, 4, .int .i32 0, true⟩
  | 84 => ⟨.struct [(0, 12), (1, 12), (2, 65), (3, 79), (4, 5), (5, 5), (6, 80), (7, 81), (8, 52), (9, 82), (10, 83)], 11, 48, .agg #[.int .u64 0, .int .u64 0, .int .u32 0, .int .u8 0, .int .u8 0, .int .u8 0, .int .u8 0, .nilFunc, .pointer none, .int .i32 0, .int .i32 0], false⟩
  | 85 => ⟨.struct [(0, 12), (1, 12), (2, 65), (3, 79), (4, 5), (5, 5), (6, 80), (7, 81), (8, 52), (9, 82), (10, 83)], 11, 48, .agg #[.int .u64 0, .int .u64 0, .int .u32 0, .int .u8 0, .int .u8 0, .int .u8 0, .int .u8 0, .nilFunc, .pointer none, .int .i32 0, .int .i32 0], false⟩
  | _ => ⟨.none, 0, 0, .nilIface, false⟩
theorem ty_1 : ty 1 = ⟨.other, 1, 8, .nilFunc, false⟩ := rfl
theorem ty_2 : ty 2 = ⟨.int .i64, 1, 8, .int .i64 0, false⟩ := rfl
theorem ty_3 : ty 3 = ⟨.int .i64, 1, 8, .int .i64 0, false⟩ := rfl
theorem ty_4 : ty 4 = ⟨.bool, 1, 1, .bool false, false⟩ := rfl
theorem ty_5 : ty 5 = ⟨.int .u8, 1, 1, .int .u8 0, false⟩ := rfl
theorem ty_6 : ty 6 = ⟨.int .u8, 1, 1, .int .u8 0, true⟩ := rfl
theorem ty_7 : ty 7 = ⟨.struct [(0, 2), (1, 3), (2, 4), (3, 6)], 4, 24, .agg #[.int .i64 0, .int .i64 0, .bool false, .int .u8 0], false⟩ := rfl
theorem ty_8 : ty 8 = ⟨.struct [(0, 2), (1, 3), (2, 4), (3, 6)], 4, 24, .agg #[.int .i64 0, .int .i64 0, .bool false, .int .u8 0], false⟩ := rfl
theorem ty_9 : ty 9 = ⟨.str, 1, 16, .string ByteArray.empty, false⟩ := rfl
theorem ty_10 : ty 10 = ⟨.str, 1, 16, .string ByteArray.empty, false⟩ := rfl
theorem ty_11 : ty 11 = ⟨.str, 1, 16, .string ByteArray.empty, false⟩ := rfl
theorem ty_12 : ty 12 = ⟨.int .u64, 1, 8, .int .u64 0, false⟩ := rfl
theorem ty_13 : ty 13 = ⟨.struct [(0, 9), (1, 12)], 2, 24, .agg #[.string ByteArray.empty, .int .u64 0], false⟩ := rfl
theorem ty_14 : ty 14 = ⟨.struct [(0, 9), (1, 12)], 2, 24, .agg #[.string ByteArray.empty, .int .u64 0], false⟩ := rfl
theorem ty_15 : ty 15 = ⟨.ptr 74, 1, 8, .pointer none, false⟩ := rfl
theorem ty_16 : ty 16 = ⟨.ptr 77, 1, 8, .pointer none, false⟩ := rfl
theorem ty_17 : ty 17 = ⟨.ptr 85, 1, 8, .pointer none, false⟩ := rfl
theorem ty_18 : ty 18 = ⟨.struct [(0, 17)], 1, 8, .agg #[.pointer none], false⟩ := rfl
theorem ty_19 : ty 19 = ⟨.struct [(0, 17)], 1, 8, .agg #[.pointer none], false⟩ := rfl
theorem ty_20 : ty 20 = ⟨.iface, 1, 16, .nilIface, false⟩ := rfl
theorem ty_21 : ty 21 = ⟨.int .i32, 1, 4, .int .i32 0, false⟩ := rfl
theorem ty_22 : ty 22 = ⟨.other, 1, 8, .nilFunc, false⟩ := rfl
theorem ty_24 : ty 24 = ⟨.other, 1, 8, .nilFunc, false⟩ := rfl
theorem ty_25 : ty 25 = ⟨.other, 1, 8, .nilFunc, false⟩ := rfl
theorem ty_26 : ty 26 = ⟨.other, 1, 8, .nilFunc, false⟩ := rfl
theorem ty_27 : ty 27 = ⟨.other, 1, 8, .nilFunc, false⟩ := rfl
theorem ty_28 : ty 28 = ⟨.slice 5, 1, 24, .slice none 0 0, false⟩ := rfl
theorem ty_29 : ty 29 = ⟨.other, 1, 8, .nilFunc, false⟩ := rfl
theorem ty_30 : ty 30 = ⟨.iface, 1, 16, .nilIface, false⟩ := rfl
theorem ty_31 : ty 31 = ⟨.iface, 1, 16, .nilIface, false⟩ := rfl
theorem ty_33 : ty 33 = ⟨.other, 1, 8, .nilFunc, false⟩ := rfl
theorem ty_34 : ty 34 = ⟨.other, 1, 8, .nilFunc, false⟩ := rfl
theorem ty_35 : ty 35 = ⟨.other, 1, 8, .nilFunc, false⟩ := rfl
theorem ty_36 : ty 36 = ⟨.int .u64, 1, 8, .int .u64 0, false⟩ := rfl
theorem ty_37 : ty 37 = ⟨.array 14 5, 14, 14, .agg #[.int .u8 0, .int .u8 0, .int .u8 0, .int .u8 0, .int .u8 0, .int .u8 0, .int .u8 0, .int .u8 0, .int .u8 0, .int .u8 0, .int .u8 0, .int .u8 0, .int .u8 0, .int .u8 0], false⟩ := rfl
theorem ty_38 : ty 38 = ⟨.int .i64, 1, 8, .int .i64 0, true⟩ := rfl
theorem ty_40 : ty 40 = ⟨.other, 1, 8, .nilFunc, false⟩ := rfl
theorem ty_41 : ty 41 = ⟨.ptr 49, 1, 8, .pointer none, false⟩ := rfl
theorem ty_42 : ty 42 = ⟨.other, 1, 8, .nilFunc, false⟩ := rfl
theorem ty_43 : ty 43 = ⟨.other, 1, 8, .nilFunc, false⟩ := rfl
theorem ty_44 : ty 44 = ⟨.int .u64, 1, 8, .int .u64 0, false⟩ := rfl
theorem ty_46 : ty 46 = ⟨.other, 1, 8, .nilFunc, false⟩ := rfl
theorem ty_47 : ty 47 = ⟨.other, 1, 8, .nilFunc, false⟩ := rfl
theorem ty_48 : ty 48 = ⟨.struct [(0, 9), (1, 9), (2, 31)], 3, 48, .agg #[.string ByteArray.empty, .string ByteArray.empty, .nilIface], false⟩ := rfl
theorem ty_49 : ty 49 = ⟨.struct [(0, 9), (1, 9), (2, 31)], 3, 48, .agg #[.string ByteArray.empty, .string ByteArray.empty, .nilIface], false⟩ := rfl
theorem ty_50 : ty 50 = ⟨.other, 1, 8, .nilFunc, false⟩ := rfl
theorem ty_51 : ty 51 = ⟨.other, 1, 8, .nilFunc, false⟩ := rfl
theorem ty_52 : ty 52 = ⟨.ptr 5, 1, 8, .pointer none, false⟩ := rfl
theorem ty_53 : ty 53 = ⟨.ptr 55, 1, 8, .pointer none, false⟩ := rfl
theorem ty_54 : ty 54 = ⟨.struct [(0, 9)], 1, 16, .agg #[.string ByteArray.empty], false⟩ := rfl
theorem ty_55 : ty 55 = ⟨.struct [(0, 9)], 1, 16, .agg #[.string ByteArray.empty], false⟩ := rfl
theorem ty_56 : ty 56 = ⟨.other, 1, 8, .nilFunc, false⟩ := rfl
theorem ty_57 : ty 57 = ⟨.array 24 5, 24, 24, .agg #[.int .u8 0, .int .u8 0, .int .u8 0, .int .u8 0, .int .u8 0, .int .u8 0, .int .u8 0, .int .u8 0, .int .u8 0, .int .u8 0, .int .u8 0, .int .u8 0, .int .u8 0, .int .u8 0, .int .u8 0, .int .u8 0, .int .u8 0, .int .u8 0, .int .u8 0, .int .u8 0, .int .u8 0, .int .u8 0, .int .u8 0, .int .u8 0], false⟩ := rfl
theorem ty_58 : ty 58 = ⟨.other, 1, 8, .nilFunc, false⟩ := rfl
theorem ty_59 : ty 59 = ⟨.other, 1, 8, .nilFunc, false⟩ := rfl
theorem ty_61 : ty 61 = ⟨.other, 1, 8, .nilFunc, false⟩ := rfl
theorem ty_62 : ty 62 = ⟨.other, 1, 8, .nilFunc, false⟩ := rfl
theorem ty_63 : ty 63 = ⟨.other, 1, 8, .nilFunc, false⟩ := rfl
theorem ty_64 : ty 64 = ⟨.array 20 44, 20, 160, .agg #[.int .u64 0, .int .u64 0, .int .u64 0, .int .u64 0, .int .u64 0, .int .u64 0, .int .u64 0, .int .u64 0, .int .u64 0, .int .u64 0, .int .u64 0, .int .u64 0, .int .u64 0, .int .u64 0, .int .u64 0, .int .u64 0, .int .u64 0, .int .u64 0, .int .u64 0, .int .u64 0], false⟩ := rfl
theorem ty_65 : ty 65 = ⟨.int .u32, 1, 4, .int .u32 0, false⟩ := rfl
theorem ty_66 : ty 66 = ⟨.array 65 5, 65, 65, .agg #[.int .u8 0, .int .u8 0, .int .u8 0, .int .u8 0, .int .u8 0, .int .u8 0, .int .u8 0, .int .u8 0, .int .u8 0, .int .u8 0, .int .u8 0, .int .u8 0, .int .u8 0, .int .u8 0, .int .u8 0, .int .u8 0, .int .u8 0, .int .u8 0, .int .u8 0, .int .u8 0, .int .u8 0, .int .u8 0, .int .u8 0, .int .u8 0, .int .u8 0, .int .u8 0, .int .u8 0, .int .u8 0, .int .u8 0, .int .u8 0, .int .u8 0, .int .u8 0, .int .u8 0, .int .u8 0, .int .u8 0, .int .u8 0, .int .u8 0, .int .u8 0, .int .u8 0, .int .u8 0, .int .u8 0, .int .u8 0, .int .u8 0, .int .u8 0, .int .u8 0, .int .u8 0, .int .u8 0, .int .u8 0, .int .u8 0, .int .u8 0, .int .u8 0, .int .u8 0, .int .u8 0, .int .u8 0, .int .u8 0, .int .u8 0, .int .u8 0, .int .u8 0, .int .u8 0, .int .u8 0, .int .u8 0, .int .u8 0, .int .u8 0, .int .u8 0, .int .u8 0], false⟩ := rfl
theorem ty_67 : ty 67 = ⟨.other, 1, 8, .nilFunc, false⟩ := rfl
theorem ty_68 : ty 68 = ⟨.other, 1, 8, .nilFunc, false⟩ := rfl
theorem ty_69 : ty 69 = ⟨.other, 1, 8, .nilFunc, false⟩ := rfl
theorem ty_70 : ty 70 = ⟨.array 32 5, 32, 32, .agg #[.int .u8 0, .int .u8 0, .int .u8 0, .int .u8 0, .int .u8 0, .int .u8 0, .int .u8 0, .int .u8 0, .int .u8 0, .int .u8 0, .int .u8 0, .int .u8 0, .int .u8 0, .int .u8 0, .int .u8 0, .int .u8 0, .int .u8 0, .int .u8 0, .int .u8 0, .int .u8 0, .int .u8 0, .int .u8 0, .int .u8 0, .int .u8 0, .int .u8 0, .int .u8 0, .int .u8 0, .int .u8 0, .int .u8 0, .int .u8 0, .int .u8 0, .int .u8 0], false⟩ := rfl
theorem ty_71 : ty 71 = ⟨.array 64 5, 64, 64, .agg #[.int .u8 0, .int .u8 0, .int .u8 0, .int .u8 0, .int .u8 0, .int .u8 0, .int .u8 0, .int .u8 0, .int .u8 0, .int .u8 0, .int .u8 0, .int .u8 0, .int .u8 0, .int .u8 0, .int .u8 0, .int .u8 0, .int .u8 0, .int .u8 0, .int .u8 0, .int .u8 0, .int .u8 0, .int .u8 0, .int .u8 0, .int .u8 0, .int .u8 0, .int .u8 0, .int .u8 0, .int .u8 0, .int .u8 0, .int .u8 0, .int .u8 0, .int .u8 0, .int .u8 0, .int .u8 0, .int .u8 0, .int .u8 0, .int .u8 0, .int .u8 0, .int .u8 0, .int .u8 0, .int .u8 0, .int .u8 0, .int .u8 0, .int .u8 0, .int .u8 0, .int .u8 0, .int .u8 0, .int .u8 0, .int .u8 0, .int .u8 0, .int .u8 0, .int .u8 0, .int .u8 0, .int .u8 0, .int .u8 0, .int .u8 0, .int .u8 0, .int .u8 0, .int .u8 0, .int .u8 0, .int .u8 0, .int .u8 0, .int .u8 0, .int .u8 0], false⟩ := rfl
theorem ty_72 : ty 72 = ⟨.other, 1, 8, .nilFunc, false⟩ := rfl
theorem ty_73 : ty 73 = ⟨.struct [(0, 17), (1, 17), (2, 17), (3, 9)], 4, 40, .agg #[.pointer none, .pointer none, .pointer none, .string ByteArray.empty], false⟩ := rfl
theorem ty_74 : ty 74 = ⟨.struct [(0, 17), (1, 17), (2, 17), (3, 9)], 4, 40, .agg #[.pointer none, .pointer none, .pointer none, .string ByteArray.empty], false⟩ := rfl
theorem ty_75 : ty 75 = ⟨.array 0 16, 0, 0, .agg #[], false⟩ := rfl
theorem ty_76 : ty 76 = ⟨.struct [(0, 75)], 0, 0, .agg #[], false⟩ := rfl
theorem ty_77 : ty 77 = ⟨.struct [(0, 75)], 0, 0, .agg #[], false⟩ := rfl
theorem ty_78 : ty 78 = ⟨.other, 1, 8, .nilFunc, false⟩ := rfl
theorem ty_79 : ty 79 = ⟨.int .u8, 1, 1, .int .u8 0, true⟩ := rfl
theorem ty_80 : ty 80 = ⟨.int .u8, 1, 1, .int .u8 0, true⟩ := rfl
theorem ty_81 : ty 81 = ⟨.other, 1, 8, .nilFunc, false⟩ := rfl
theorem ty_82 : ty 82 = ⟨.int .i32, 1, 4, .int .i32 0, true⟩ := rfl
theorem ty_83 : ty 83 = ⟨.int .i32, 1, 4, .int .i32 0, true⟩ := rfl
theorem ty_84 : ty 84 = ⟨.struct [(0, 12), (1, 12), (2, 65), (3, 79), (4, 5), (5, 5), (6, 80), (7, 81), (8, 52), (9, 82), (10, 83)], 11, 48, .agg #[.int .u64 0, .int .u64 0, .int .u32 0, .int .u8 0, .int .u8 0, .int .u8 0, .int .u8 0, .nilFunc, .pointer none, .int .i32 0, .int .i32 0], false⟩ := rfl
theorem ty_85 : ty 85 = ⟨.struct [(0, 12), (1, 12), (2, 65), (3, 79), (4, 5), (5, 5), (6, 80), (7, 81), (8, 52), (9, 82), (10, 83)], 11, 48, .agg #[.int .u64 0, .int .u64 0, .int .u32 0, .int .u8 0, .int .u8 0, .int .u8 0, .int .u8 0, .nilFunc, .pointer none, .int .i32 0, .int .i32 0], false⟩ := rfl
theorem und_1 : (Tryd.prog.underlying 1).map TD.of = some (.other) := by kernel_rfl
theorem info_1 : (Tryd.prog.info? 1).map (fun i => (i.zero, i.size, i.bytes)) = some (some (.nilFunc), 1, 8) := by kernel_rfl
theorem und_2 : (Tryd.prog.underlying 2).map TD.of = some (.int .i64) := by kernel_rfl
theorem info_2 : (Tryd.prog.info? 2).map (fun i => (i.zero, i.size, i.bytes)) = some (some (.int .i64 0), 1, 8) := by kernel_rfl
theorem und_3 : (Tryd.prog.underlying 3).map TD.of = some (.int .i64) := by kernel_rfl
theorem info_3 : (Tryd.prog.info? 3).map (fun i => (i.zero, i.size, i.bytes)) = some (some (.int .i64 0), 1, 8) := by kernel_rfl
theorem und_4 : (Tryd.prog.underlying 4).map TD.of = some (.bool) := by kernel_rfl
theorem info_4 : (Tryd.prog.info? 4).map (fun i => (i.zero, i.size, i.bytes)) = some (some (.bool false), 1, 1) := by kernel_rfl
theorem und_5 : (Tryd.prog.underlying 5).map TD.of = some (.int .u8) := by kernel_rfl
theorem info_5 : (Tryd.prog.info? 5).map (fun i => (i.zero, i.size, i.bytes)) = some (some (.int .u8 0), 1, 1) := by kernel_rfl
theorem und_6 : (Tryd.prog.underlying 6).map TD.of = some (.int .u8) := by kernel_rfl
theorem info_6 : (Tryd.prog.info? 6).map (fun i => (i.zero, i.size, i.bytes)) = some (some (.int .u8 0), 1, 1) := by kernel_rfl
theorem cmp_6 : (Tryd.prog.info? 6).map (·.comparable) = some true := by kernel_rfl
theorem und_7 : (Tryd.prog.underlying 7).map TD.of = some (.struct [(0, 2), (1, 3), (2, 4), (3, 6)]) := by kernel_rfl
theorem info_7 : (Tryd.prog.info? 7).map (fun i => (i.zero, i.size, i.bytes)) = some (some (.agg #[.int .i64 0, .int .i64 0, .bool false, .int .u8 0]), 4, 24) := by kernel_rfl
theorem und_8 : (Tryd.prog.underlying 8).map TD.of = some (.struct [(0, 2), (1, 3), (2, 4), (3, 6)]) := by kernel_rfl
theorem info_8 : (Tryd.prog.info? 8).map (fun i => (i.zero, i.size, i.bytes)) = some (some (.agg #[.int .i64 0, .int .i64 0, .bool false, .int .u8 0]), 4, 24) := by kernel_rfl
theorem und_9 : (Tryd.prog.underlying 9).map TD.of = some (.str) := by kernel_rfl
theorem info_9 : (Tryd.prog.info? 9).map (fun i => (i.zero, i.size, i.bytes)) = some (some (.string ByteArray.empty), 1, 16) := by kernel_rfl
theorem und_10 : (Tryd.prog.underlying 10).map TD.of = some (.str) := by kernel_rfl
theorem info_10 : (Tryd.prog.info? 10).map (fun i => (i.zero, i.size, i.bytes)) = some (some (.string ByteArray.empty), 1, 16) := by kernel_rfl
theorem und_11 : (Tryd.prog.underlying 11).map TD.of = some (.str) := by kernel_rfl
theorem info_11 : (Tryd.prog.info? 11).map (fun i => (i.zero, i.size, i.bytes)) = some (some (.string ByteArray.empty), 1, 16) := by kernel_rfl
theorem und_12 : (Tryd.prog.underlying 12).map TD.of = some (.int .u64) := by kernel_rfl
theorem info_12 : (Tryd.prog.info? 12).map (fun i => (i.zero, i.size, i.bytes)) = some (some (.int .u64 0), 1, 8) := by kernel_rfl
theorem und_13 : (Tryd.prog.underlying 13).map TD.of = some (.struct [(0, 9), (1, 12)]) := by kernel_rfl
theorem info_13 : (Tryd.prog.info? 13).map (fun i => (i.zero, i.size, i.bytes)) = some (some (.agg #[.string ByteArray.empty, .int .u64 0]), 2, 24) := by kernel_rfl
theorem und_14 : (Tryd.prog.underlying 14).map TD.of = some (.struct [(0, 9), (1, 12)]) := by kernel_rfl
theorem info_14 : (Tryd.prog.info? 14).map (fun i => (i.zero, i.size, i.bytes)) = some (some (.agg #[.string ByteArray.empty, .int .u64 0]), 2, 24) := by kernel_rfl
theorem und_15 : (Tryd.prog.underlying 15).map TD.of = some (.ptr 74) := by kernel_rfl
theorem info_15 : (Tryd.prog.info? 15).map (fun i => (i.zero, i.size, i.bytes)) = some (some (.pointer none), 1, 8) := by kernel_rfl
theorem und_16 : (Tryd.prog.underlying 16).map TD.of = some (.ptr 77) := by kernel_rfl
theorem info_16 : (Tryd.prog.info? 16).map (fun i => (i.zero, i.size, i.bytes)) = some (some (.pointer none), 1, 8) := by kernel_rfl
theorem und_17 : (Tryd.prog.underlying 17).map TD.of = some (.ptr 85) := by kernel_rfl
theorem info_17 : (Tryd.prog.info? 17).map (fun i => (i.zero, i.size, i.bytes)) = some (some (.pointer none), 1, 8) := by kernel_rfl
theorem und_18 : (Tryd.prog.underlying 18).map TD.of = some (.struct [(0, 17)]) := by kernel_rfl
theorem info_18 : (Tryd.prog.info? 18).map (fun i => (i.zero, i.size, i.bytes)) = some (some (.agg #[.pointer none]), 1, 8) := by kernel_rfl
theorem und_19 : (Tryd.prog.underlying 19).map TD.of = some (.struct [(0, 17)]) := by kernel_rfl
theorem info_19 : (Tryd.prog.info? 19).map (fun i => (i.zero, i.size, i.bytes)) = some (some (.agg #[.pointer none]), 1, 8) := by kernel_rfl
theorem und_20 : (Tryd.prog.underlying 20).map TD.of = some (.iface) := by kernel_rfl
theorem info_20 : (Tryd.prog.info? 20).map (fun i => (i.zero, i.size, i.bytes)) = some (some (.nilIface), 1, 16) := by kernel_rfl
theorem und_21 : (Tryd.prog.underlying 21).map TD.of = some (.int .i32) := by kernel_rfl
theorem info_21 : (Tryd.prog.info? 21).map (fun i => (i.zero, i.size, i.bytes)) = some (some (.int .i32 0), 1, 4) := by kernel_rfl
theorem und_22 : (Tryd.prog.underlying 22).map TD.of = some (.other) := by kernel_rfl
theorem info_22 : (Tryd.prog.info? 22).map (fun i => (i.zero, i.size, i.bytes)) = some (some (.nilFunc), 1, 8) := by kernel_rfl
theorem und_24 : (Tryd.prog.underlying 24).map TD.of = some (.other) := by kernel_rfl
theorem info_24 : (Tryd.prog.info? 24).map (fun i => (i.zero, i.size, i.bytes)) = some (some (.nilFunc), 1, 8) := by kernel_rfl
theorem und_25 : (Tryd.prog.underlying 25).map TD.of = some (.other) := by kernel_rfl
theorem info_25 : (Tryd.prog.info? 25).map (fun i => (i.zero, i.size, i.bytes)) = some (some (.nilFunc), 1, 8) := by kernel_rfl
theorem und_26 : (Tryd.prog.underlying 26).map TD.of = some (.other) := by kernel_rfl
theorem info_26 : (Tryd.prog.info? 26).map (fun i => (i.zero, i.size, i.bytes)) = some (some (.nilFunc), 1, 8) := by kernel_rfl
theorem und_27 : (Tryd.prog.underlying 27).map TD.of = some (.other) := by kernel_rfl
theorem info_27 : (Tryd.prog.info? 27).map (fun i => (i.zero, i.size, i.bytes)) = some (some (.nilFunc), 1, 8) := by kernel_rfl
theorem und_28 : (Tryd.prog.underlying 28).map TD.of = some (.slice 5) := by kernel_rfl
theorem info_28 : (Tryd.prog.info? 28).map (fun i => (i.zero, i.size, i.bytes)) = some (some (.slice none 0 0), 1, 24) := by kernel_rfl
theorem und_29 : (Tryd.prog.underlying 29).map TD.of = some (.other) := by kernel_rfl
theorem info_29 : (Tryd.prog.info? 29).map (fun i => (i.zero, i.size, i.bytes)) = some (some (.nilFunc), 1, 8) := by kernel_rfl
theorem und_30 : (Tryd.prog.underlying 30).map TD.of = some (.iface) := by kernel_rfl
theorem info_30 : (Tryd.prog.info? 30).map (fun i => (i.zero, i.size, i.bytes)) = some (some (.nilIface), 1, 16) := by kernel_rfl
theorem und_31 : (Tryd.prog.underlying 31).map TD.of = some (.iface) := by kernel_rfl
theorem info_31 : (Tryd.prog.info? 31).map (fun i => (i.zero, i.size, i.bytes)) = some (some (.nilIface), 1, 16) := by kernel_rfl
theorem und_33 : (Tryd.prog.underlying 33).map TD.of = some (.other) := by kernel_rfl
theorem info_33 : (Tryd.prog.info? 33).map (fun i => (i.zero, i.size, i.bytes)) = some (some (.nilFunc), 1, 8) := by kernel_rfl
theorem und_34 : (Tryd.prog.underlying 34).map TD.of = some (.other) := by kernel_rfl
theorem info_34 : (Tryd.prog.info? 34).map (fun i => (i.zero, i.size, i.bytes)) = some (some (.nilFunc), 1, 8) := by kernel_rfl
theorem und_35 : (Tryd.prog.underlying 35).map TD.of = some (.other) := by kernel_rfl
theorem info_35 : (Tryd.prog.info? 35).map (fun i => (i.zero, i.size, i.bytes)) = some (some (.nilFunc), 1, 8) := by kernel_rfl
theorem und_36 : (Tryd.prog.underlying 36).map TD.of = some (.int .u64) := by kernel_rfl
theorem info_36 : (Tryd.prog.info? 36).map (fun i => (i.zero, i.size, i.bytes)) = some (some (.int .u64 0), 1, 8) := by kernel_rfl
theorem und_37 : (Tryd.prog.underlying 37).map TD.of = some (.array 14 5) := by kernel_rfl
theorem info_37 : (Tryd.prog.info? 37).map (fun i => (i.zero, i.size, i.bytes)) = some (some (.agg #[.int .u8 0, .int .u8 0, .int .u8 0, .int .u8 0, .int .u8 0, .int .u8 0, .int .u8 0, .int .u8 0, .int .u8 0, .int .u8 0, .int .u8 0, .int .u8 0, .int .u8 0, .int .u8 0]), 14, 14) := by kernel_rfl
theorem und_38 : (Tryd.prog.underlying 38).map TD.of = some (.int .i64) := by kernel_rfl
theorem info_38 : (Tryd.prog.info? 38).map (fun i => (i.zero, i.size, i.bytes)) = some (some (.int .i64 0), 1, 8) := by kernel_rfl
theorem cmp_38 : (Tryd.prog.info? 38).map (·.comparable) = some true := by kernel_rfl
theorem und_40 : (Tryd.prog.underlying 40).map TD.of = some (.other) := by kernel_rfl
theorem info_40 : (Tryd.prog.info? 40).map (fun i => (i.zero, i.size, i.bytes)) = some (some (.nilFunc), 1, 8) := by kernel_rfl
theorem und_41 : (Tryd.prog.underlying 41).map TD.of = some (.ptr 49) := by kernel_rfl
theorem info_41 : (Tryd.prog.info? 41).map (fun i => (i.zero, i.size, i.bytes)) = some (some (.pointer none), 1, 8) := by kernel_rfl
theorem und_42 : (Tryd.prog.underlying 42).map TD.of = some (.other) := by kernel_rfl
theorem info_42 : (Tryd.prog.info? 42).map (fun i => (i.zero, i.size, i.bytes)) = some (some (.nilFunc), 1, 8) := by kernel_rfl
theorem und_43 : (Tryd.prog.underlying 43).map TD.of = some (.other) := by kernel_rfl
theorem info_43 : (Tryd.prog.info? 43).map (fun i => (i.zero, i.size, i.bytes)) = some (some (.nilFunc), 1, 8) := by kernel_rfl
theorem und_44 : (Tryd.prog.underlying 44).map TD.of = some (.int .u64) := by kernel_rfl
theorem info_44 : (Tryd.prog.info? 44).map (fun i => (i.zero, i.size, i.bytes)) = some (some (.int .u64 0), 1, 8) := by kernel_rfl
theorem und_46 : (Tryd.prog.underlying 46).map TD.of = some (.other) := by kernel_rfl
theorem info_46 : (Tryd.prog.info? 46).map (fun i => (i.zero, i.size, i.bytes)) = some (some (.nilFunc), 1, 8) := by kernel_rfl
theorem und_47 : (Tryd.prog.underlying 47).map TD.of = some (.other) := by kernel_rfl
theorem info_47 : (Tryd.prog.info? 47).map (fun i => (i.zero, i.size, i.bytes)) = some (some (.nilFunc), 1, 8) := by kernel_rfl
theorem und_48 : (Tryd.prog.underlying 48).map TD.of = some (.struct [(0, 9), (1, 9), (2, 31)]) := by kernel_rfl
theorem info_48 : (Tryd.prog.info? 48).map (fun i => (i.zero, i.size, i.bytes)) = some (some (.agg #[.string ByteArray.empty, .string ByteArray.empty, .nilIface]), 3, 48) := by kernel_rfl
theorem und_49 : (Tryd.prog.underlying 49).map TD.of = some (.struct [(0, 9), (1, 9), (2, 31)]) := by kernel_rfl
theorem info_49 : (Tryd.prog.info? 49).map (fun i => (i.zero, i.size, i.bytes)) = some (some (.agg #[.string ByteArray.empty, .string ByteArray.empty, .nilIface]), 3, 48) := by kernel_rfl
theorem und_50 : (Tryd.prog.underlying 50).map TD.of = some (.other) := by kernel_rfl
theorem info_50 : (Tryd.prog.info? 50).map (fun i => (i.zero, i.size, i.bytes)) = some (some (.nilFunc), 1, 8) := by kernel_rfl
theorem und_51 : (Tryd.prog.underlying 51).map TD.of = some (.other) := by kernel_rfl
theorem info_51 : (Tryd.prog.info? 51).map (fun i => (i.zero, i.size, i.bytes)) = some (some (.nilFunc), 1, 8) := by kernel_rfl
theorem und_52 : (Tryd.prog.underlying 52).map TD.of = some (.ptr 5) := by kernel_rfl
theorem info_52 : (Tryd.prog.info? 52).map (fun i => (i.zero, i.size, i.bytes)) = some (some (.pointer none), 1, 8) := by kernel_rfl
theorem und_53 : (Tryd.prog.underlying 53).map TD.of = some (.ptr 55) := by kernel_rfl
theorem info_53 : (Tryd.prog.info? 53).map (fun i => (i.zero, i.size, i.bytes)) = some (some (.pointer none), 1, 8) := by kernel_rfl
theorem und_54 : (Tryd.prog.underlying 54).map TD.of = some (.struct [(0, 9)]) := by kernel_rfl
theorem info_54 : (Tryd.prog.info? 54).map (fun i => (i.zero, i.size, i.bytes)) = some (some (.agg #[.string ByteArray.empty]), 1, 16) := by kernel_rfl
theorem und_55 : (Tryd.prog.underlying 55).map TD.of = some (.struct [(0, 9)]) := by kernel_rfl
theorem info_55 : (Tryd.prog.info? 55).map (fun i => (i.zero, i.size, i.bytes)) = some (some (.agg #[.string ByteArray.empty]), 1, 16) := by kernel_rfl
theorem und_56 : (Tryd.prog.underlying 56).map TD.of = some (.other) := by kernel_rfl
theorem info_56 : (Tryd.prog.info? 56).map (fun i => (i.zero, i.size, i.bytes)) = some (some (.nilFunc), 1, 8) := by kernel_rfl
theorem und_57 : (Tryd.prog.underlying 57).map TD.of = some (.array 24 5) := by kernel_rfl
theorem info_57 : (Tryd.prog.info? 57).map (fun i => (i.zero, i.size, i.bytes)) = some (some (.agg #[.int .u8 0, .int .u8 0, .int .u8 0, .int .u8 0, .int .u8 0, .int .u8 0, .int .u8 0, .int .u8 0, .int .u8 0, .int .u8 0, .int .u8 0, .int .u8 0, .int .u8 0, .int .u8 0, .int .u8 0, .int .u8 0, .int .u8 0, .int .u8 0, .int .u8 0, .int .u8 0, .int .u8 0, .int .u8 0, .int .u8 0, .int .u8 0]), 24, 24) := by kernel_rfl
theorem und_58 : (Tryd.prog.underlying 58).map TD.of = some (.other) := by kernel_rfl
theorem info_58 : (Tryd.prog.info? 58).map (fun i => (i.zero, i.size, i.bytes)) = some (some (.nilFunc), 1, 8) := by kernel_rfl
theorem und_59 : (Tryd.prog.underlying 59).map TD.of = some (.other) := by kernel_rfl
theorem info_59 : (Tryd.prog.info? 59).map (fun i => (i.zero, i.size, i.bytes)) = some (some (.nilFunc), 1, 8) := by kernel_rfl
theorem und_61 : (Tryd.prog.underlying 61).map TD.of = some (.other) := by kernel_rfl
theorem info_61 : (Tryd.prog.info? 61).map (fun i => (i.zero, i.size, i.bytes)) = some (some (.nilFunc), 1, 8) := by kernel_rfl
theorem und_62 : (Tryd.prog.underlying 62).map TD.of = some (.other) := by kernel_rfl
theorem info_62 : (Tryd.prog.info? 62).map (fun i => (i.zero, i.size, i.bytes)) = some (some (.nilFunc), 1, 8) := by kernel_rfl
theorem und_63 : (Tryd.prog.underlying 63).map TD.of = some (.other) := by kernel_rfl
theorem info_63 : (Tryd.prog.info? 63).map (fun i => (i.zero, i.size, i.bytes)) = some (some (.nilFunc), 1, 8) := by kernel_rfl
theorem und_64 : (Tryd.prog.underlying 64).map TD.of = some (.array 20 44) := by kernel_rfl
theorem info_64 : (Tryd.prog.info? 64).map (fun i => (i.zero, i.size, i.bytes)) = some (some (.agg #[.int .u64 0, .int .u64 0, .int .u64 0, .int .u64 0, .int .u64 0, .int .u64 0, .int .u64 0, .int .u64 0, .int .u64 0, .int .u64 0, .int .u64 0, .int .u64 0, .int .u64 0, .int .u64 0, .int .u64 0, .int .u64 0, .int .u64 0, .int .u64 0, .int .u64 0, .int .u64 0]), 20, 160) := by kernel_rfl
theorem und_65 : (Tryd.prog.underlying 65).map TD.of = some (.int .u32) := by kernel_rfl
theorem info_65 : (Tryd.prog.info? 65).map (fun i => (i.zero, i.size, i.bytes)) = some (some (.int .u32 0), 1, 4) := by kernel_rfl
theorem und_66 : (Tryd.prog.underlying 66).map TD.of = some (.array 65 5) := by kernel_rfl
theorem info_66 : (Tryd.prog.info? 66).map (fun i => (i.zero, i.size, i.bytes)) = some (some (.agg #[.int .u8 0, .int .u8 0, .int .u8 0, .int .u8 0, .int .u8 0, .int .u8 0, .int .u8 0, .int .u8 0, .int .u8 0, .int .u8 0, .int .u8 0, .int .u8 0, .int .u8 0, .int .u8 0, .int .u8 0, .int .u8 0, .int .u8 0, .int .u8 0, .int .u8 0, .int .u8 0, .int .u8 0, .int .u8 0, .int .u8 0, .int .u8 0, .int .u8 0, .int .u8 0, .int .u8 0, .int .u8 0, .int .u8 0, .int .u8 0, .int .u8 0, .int .u8 0, .int .u8 0, .int .u8 0, .int .u8 0, .int .u8 0, .int .u8 0, .int .u8 0, .int .u8 0, .int .u8 0, .int .u8 0, .int .u8 0, .int .u8 0, .int .u8 0, .int .u8 0, .int .u8 0, .int .u8 0, .int .u8 0, .int .u8 0, .int .u8 0, .int .u8 0, .int .u8 0, .int .u8 0, .int .u8 0, .int .u8 0, .int .u8 0, .int .u8 0, .int .u8 0, .int .u8 0, .int .u8 0, .int .u8 0, .int .u8 0, .int .u8 0, .int .u8 0, .int .u8 0]), 65, 65) := by kernel_rfl
theorem und_67 : (Tryd.prog.underlying 67).map TD.of = some (.other) := by kernel_rfl
theorem info_67 : (Tryd.prog.info? 67).map (fun i => (i.zero, i.size, i.bytes)) = some (some (.nilFunc), 1, 8) := by kernel_rfl
theorem und_68 : (Tryd.prog.underlying 68).map TD.of = some (.other) := by kernel_rfl
theorem info_68 : (Tryd.prog.info? 68).map (fun i => (i.zero, i.size, i.bytes)) = some (some (.nilFunc), 1, 8) := by kernel_rfl
theorem und_69 : (Tryd.prog.underlying 69).map TD.of = some (.other) := by kernel_rfl
theorem info_69 : (Tryd.prog.info? 69).map (fun i => (i.zero, i.size, i.bytes)) = some (some (.nilFunc), 1, 8) := by kernel_rfl
theorem und_70 : (Tryd.prog.underlying 70).map TD.of = some (.array 32 5) := by kernel_rfl
theorem info_70 : (Tryd.prog.info? 70).map (fun i => (i.zero, i.size, i.bytes)) = some (some (.agg #[.int .u8 0, .int .u8 0, .int .u8 0, .int .u8 0, .int .u8 0, .int .u8 0, .int .u8 0, .int .u8 0, .int .u8 0, .int .u8 0, .int .u8 0, .int .u8 0, .int .u8 0, .int .u8 0, .int .u8 0, .int .u8 0, .int .u8 0, .int .u8 0, .int .u8 0, .int .u8 0, .int .u8 0, .int .u8 0, .int .u8 0, .int .u8 0, .int .u8 0, .int .u8 0, .int .u8 0, .int .u8 0, .int .u8 0, .int .u8 0, .int .u8 0, .int .u8 0]), 32, 32) := by kernel_rfl
theorem und_71 : (Tryd.prog.underlying 71).map TD.of = some (.array 64 5) := by kernel_rfl
theorem info_71 : (Tryd.prog.info? 71).map (fun i => (i.zero, i.size, i.bytes)) = some (some (.agg #[.int .u8 0, .int .u8 0, .int .u8 0, .int .u8 0, .int .u8 0, .int .u8 0, .int .u8 0, .int .u8 0, .int .u8 0, .int .u8 0, .int .u8 0, .int .u8 0, .int .u8 0, .int .u8 0, .int .u8 0, .int .u8 0, .int .u8 0, .int .u8 0, .int .u8 0, .int .u8 0, .int .u8 0, .int .u8 0, .int .u8 0, .int .u8 0, .int .u8 0, .int .u8 0, .int .u8 0, .int .u8 0, .int .u8 0, .int .u8 0, .int .u8 0, .int .u8 0, .int .u8 0, .int .u8 0, .int .u8 0, .int .u8 0, .int .u8 0, .int .u8 0, .int .u8 0, .int .u8 0, .int .u8 0, .int .u8 0, .int .u8 0, .int .u8 0, .int .u8 0, .int .u8 0, .int .u8 0, .int .u8 0, .int .u8 0, .int .u8 0, .int .u8 0, .int .u8 0, .int .u8 0, .int .u8 0, .int .u8 0, .int .u8 0, .int .u8 0, .int .u8 0, .int .u8 0, .int .u8 0, .int .u8 0, .int .u8 0, .int .u8 0, .int .u8 0]), 64, 64) := by kernel_rfl
theorem und_72 : (Tryd.prog.underlying 72).map TD.of = some (.other) := by kernel_rfl
theorem info_72 : (Tryd.prog.info? 72).map (fun i => (i.zero, i.size, i.bytes)) = some (some (.nilFunc), 1, 8) := by kernel_rfl
theorem und_73 : (Tryd.prog.underlying 73).map TD.of = some (.struct [(0, 17), (1, 17), (2, 17), (3, 9)]) := by kernel_rfl
theorem info_73 : (Tryd.prog.info? 73).map (fun i => (i.zero, i.size, i.bytes)) = some (some (.agg #[.pointer none, .pointer none, .pointer none, .string ByteArray.empty]), 4, 40) := by kernel_rfl
theorem und_74 : (Tryd.prog.underlying 74).map TD.of = some (.struct [(0, 17), (1, 17), (2, 17), (3, 9)]) := by kernel_rfl
theorem info_74 : (Tryd.prog.info? 74).map (fun i => (i.zero, i.size, i.bytes)) = some (some (.agg #[.pointer none, .pointer none, .pointer none, .string ByteArray.empty]), 4, 40) := by kernel_rfl
theorem und_75 : (Tryd.prog.underlying 75).map TD.of = some (.array 0 16) := by kernel_rfl
theorem info_75 : (Tryd.prog.info? 75).map (fun i => (i.zero, i.size, i.bytes)) = some (some (.agg #[]), 0, 0) := by kernel_rfl
theorem und_76 : (Tryd.prog.underlying 76).map TD.of = some (.struct [(0, 75)]) := by kernel_rfl
theorem info_76 : (Tryd.prog.info? 76).map (fun i => (i.zero, i.size, i.bytes)) = some (some (.agg #[]), 0, 0) := by kernel_rfl
theorem und_77 : (Tryd.prog.underlying 77).map TD.of = some (.struct [(0, 75)]) := by kernel_rfl
theorem info_77 : (Tryd.prog.info? 77).map (fun i => (i.zero, i.size, i.bytes)) = some (some (.agg #[]), 0, 0) := by kernel_rfl
theorem und_78 : (Tryd.prog.underlying 78).map TD.of = some (.other) := by kernel_rfl
theorem info_78 : (Tryd.prog.info? 78).map (fun i => (i.zero, i.size, i.bytes)) = some (some (.nilFunc), 1, 8) := by kernel_rfl
theorem und_79 : (Tryd.prog.underlying 79).map TD.of = some (.int .u8) := by kernel_rfl
theorem info_79 : (Tryd.prog.info? 79).map (fun i => (i.zero, i.size, i.bytes)) = some (some (.int .u8 0), 1, 1) := by kernel_rfl
theorem cmp_79 : (Tryd.prog.info? 79).map (·.comparable) = some true := by kernel_rfl
theorem und_80 : (Tryd.prog.underlying 80).map TD.of = some (.int .u8) := by kernel_rfl
theorem info_80 : (Tryd.prog.info? 80).map (fun i => (i.zero, i.size, i.bytes)) = some (some (.int .u8 0), 1, 1) := by kernel_rfl
theorem cmp_80 : (Tryd.prog.info? 80).map (·.comparable) = some true := by kernel_rfl
theorem und_81 : (Tryd.prog.underlying 81).map TD.of = some (.other) := by kernel_rfl
theorem info_81 : (Tryd.prog.info? 81).map (fun i => (i.zero, i.size, i.bytes)) = some (some (.nilFunc), 1, 8) := by kernel_rfl
theorem und_82 : (Tryd.prog.underlying 82).map TD.of = some (.int .i32) := by kernel_rfl
theorem info_82 : (Tryd.prog.info? 82).map (fun i => (i.zero, i.size, i.bytes)) = some (some (.int .i32 0), 1, 4) := by kernel_rfl
theorem cmp_82 : (Tryd.prog.info? 82).map (·.comparable) = some true := by kernel_rfl
theorem und_83 : (Tryd.prog.underlying 83).map TD.of = some (.int .i32) := by kernel_rfl
theorem info_83 : (Tryd.prog.info? 83).map (fun i => (i.zero, i.size, i.bytes)) = some (some (.int .i32 0), 1, 4) := by kernel_rfl
theorem cmp_83 : (Tryd.prog.info? 83).map (·.comparable) = some true := by kernel_rfl
theorem und_84 : (Tryd.prog.underlying 84).map TD.of = some (.struct [(0, 12), (1, 12), (2, 65), (3, 79), (4, 5), (5, 5), (6, 80), (7, 81), (8, 52), (9, 82), (10, 83)]) := by kernel_rfl
theorem info_84 : (Tryd.prog.info? 84).map (fun i => (i.zero, i.size, i.bytes)) = some (some (.agg #[.int .u64 0, .int .u64 0, .int .u32 0, .int .u8 0, .int .u8 0, .int .u8 0, .int .u8 0, .nilFunc, .pointer none, .int .i32 0, .int .i32 0]), 11, 48) := by kernel_rfl
theorem und_85 : (Tryd.prog.underlying 85).map TD.of = some (.struct [(0, 12), (1, 12), (2, 65), (3, 79), (4, 5), (5, 5), (6, 80), (7, 81), (8, 52), (9, 82), (10, 83)]) := by kernel_rfl
theorem info_85 : (Tryd.prog.info? 85).map (fun i => (i.zero, i.size, i.bytes)) = some (some (.agg #[.int .u64 0, .int .u64 0, .int .u32 0, .int .u8 0, .int .u8 0, .int .u8 0, .int .u8 0, .nilFunc, .pointer none, .int .i32 0, .int .i32 0]), 11, 48) := by kernel_rfl

theorem tyAt {t : TypeId} {r : TyRow} (e : ty t = r) (h1 : (Tryd.prog.underlying t).map TD.of = some r.td) (h2 : (Tryd.prog.info? t).map (fun i => (i.zero, i.size, i.bytes)) = some (some r.zero, r.size, r.bytes))
    (h4 : r.eq = true → r.td.isAgg = false → (Tryd.prog.info? t).map (·.comparable) = some true) (h3 : r.eq = true → r.td.isAgg = true → (Tryd.prog.stoodInHeld t, Tryd.prog.eqGuardType Tryd.prog.depth t, (Tryd.prog.fieldsOf t).toList.all (fun f => f.name != "_"), (match Tryd.prog.underlying t with | some (.struct _) => true | _ => false)) = (false, false, true, true)) : TyAt Tryd.prog ty t := by
  subst e
  refine ⟨h1, ?_, h4, fun he hag => ?_⟩
  · cases hi : Tryd.prog.info? t with
    | none => rw [hi] at h2; cases h2
    | some i =>
      rw [hi] at h2
      simp only [Option.map_some, Option.some.injEq, Prod.mk.injEq] at h2
      exact ⟨i, rfl, h2.1, h2.2.1, h2.2.2⟩
  · have := h3 he hag
    simp only [Prod.mk.injEq] at this
    obtain ⟨a, b, c, d⟩ := this
    refine ⟨a, b, ?_, c⟩
    unfold Program.fieldsOf
    cases hu : Tryd.prog.underlying t with
    | none => rw [hu] at d; cases d
    | some x => rw [hu] at d; cases x <;> first | rfl | (cases d)

theorem tyOk : TyOk Tryd.prog ty := by
  intro t h
  unfold ty at h
  split at h
  · exact tyAt ty_1 und_1 info_1 (fun h => by cases h) (fun h => by cases h)
  · exact tyAt ty_2 und_2 info_2 (fun h => by cases h) (fun h => by cases h)
  · exact tyAt ty_3 und_3 info_3 (fun h => by cases h) (fun h => by cases h)
  · exact tyAt ty_4 und_4 info_4 (fun h => by cases h) (fun h => by cases h)
  · exact tyAt ty_5 und_5 info_5 (fun h => by cases h) (fun h => by cases h)
  · exact tyAt ty_6 und_6 info_6 (fun _ _ => cmp_6) (fun _ h => by cases h)
  · exact tyAt ty_7 und_7 info_7 (fun h => by cases h) (fun h => by cases h)
  · exact tyAt ty_8 und_8 info_8 (fun h => by cases h) (fun h => by cases h)
  · exact tyAt ty_9 und_9 info_9 (fun h => by cases h) (fun h => by cases h)
  · exact tyAt ty_10 und_10 info_10 (fun h => by cases h) (fun h => by cases h)
  · exact tyAt ty_11 und_11 info_11 (fun h => by cases h) (fun h => by cases h)
  · exact tyAt ty_12 und_12 info_12 (fun h => by cases h) (fun h => by cases h)
  · exact tyAt ty_13 und_13 info_13 (fun h => by cases h) (fun h => by cases h)
  · exact tyAt ty_14 und_14 info_14 (fun h => by cases h) (fun h => by cases h)
  · exact tyAt ty_15 und_15 info_15 (fun h => by cases h) (fun h => by cases h)
  · exact tyAt ty_16 und_16 info_16 (fun h => by cases h) (fun h => by cases h)
  · exact tyAt ty_17 und_17 info_17 (fun h => by cases h) (fun h => by cases h)
  · exact tyAt ty_18 und_18 info_18 (fun h => by cases h) (fun h => by cases h)
  · exact tyAt ty_19 und_19 info_19 (fun h => by cases h) (fun h => by cases h)
  · exact tyAt ty_20 und_20 info_20 (fun h => by cases h) (fun h => by cases h)
  · exact tyAt ty_21 und_21 info_21 (fun h => by cases h) (fun h => by cases h)
  · exact tyAt ty_22 und_22 info_22 (fun h => by cases h) (fun h => by cases h)
  · exact tyAt ty_24 und_24 info_24 (fun h => by cases h) (fun h => by cases h)
  · exact tyAt ty_25 und_25 info_25 (fun h => by cases h) (fun h => by cases h)
  · exact tyAt ty_26 und_26 info_26 (fun h => by cases h) (fun h => by cases h)
  · exact tyAt ty_27 und_27 info_27 (fun h => by cases h) (fun h => by cases h)
  · exact tyAt ty_28 und_28 info_28 (fun h => by cases h) (fun h => by cases h)
  · exact tyAt ty_29 und_29 info_29 (fun h => by cases h) (fun h => by cases h)
  · exact tyAt ty_30 und_30 info_30 (fun h => by cases h) (fun h => by cases h)
  · exact tyAt ty_31 und_31 info_31 (fun h => by cases h) (fun h => by cases h)
  · exact tyAt ty_33 und_33 info_33 (fun h => by cases h) (fun h => by cases h)
  · exact tyAt ty_34 und_34 info_34 (fun h => by cases h) (fun h => by cases h)
  · exact tyAt ty_35 und_35 info_35 (fun h => by cases h) (fun h => by cases h)
  · exact tyAt ty_36 und_36 info_36 (fun h => by cases h) (fun h => by cases h)
  · exact tyAt ty_37 und_37 info_37 (fun h => by cases h) (fun h => by cases h)
  · exact tyAt ty_38 und_38 info_38 (fun _ _ => cmp_38) (fun _ h => by cases h)
  · exact tyAt ty_40 und_40 info_40 (fun h => by cases h) (fun h => by cases h)
  · exact tyAt ty_41 und_41 info_41 (fun h => by cases h) (fun h => by cases h)
  · exact tyAt ty_42 und_42 info_42 (fun h => by cases h) (fun h => by cases h)
  · exact tyAt ty_43 und_43 info_43 (fun h => by cases h) (fun h => by cases h)
  · exact tyAt ty_44 und_44 info_44 (fun h => by cases h) (fun h => by cases h)
  · exact tyAt ty_46 und_46 info_46 (fun h => by cases h) (fun h => by cases h)
  · exact tyAt ty_47 und_47 info_47 (fun h => by cases h) (fun h => by cases h)
  · exact tyAt ty_48 und_48 info_48 (fun h => by cases h) (fun h => by cases h)
  · exact tyAt ty_49 und_49 info_49 (fun h => by cases h) (fun h => by cases h)
  · exact tyAt ty_50 und_50 info_50 (fun h => by cases h) (fun h => by cases h)
  · exact tyAt ty_51 und_51 info_51 (fun h => by cases h) (fun h => by cases h)
  · exact tyAt ty_52 und_52 info_52 (fun h => by cases h) (fun h => by cases h)
  · exact tyAt ty_53 und_53 info_53 (fun h => by cases h) (fun h => by cases h)
  · exact tyAt ty_54 und_54 info_54 (fun h => by cases h) (fun h => by cases h)
  · exact tyAt ty_55 und_55 info_55 (fun h => by cases h) (fun h => by cases h)
  · exact tyAt ty_56 und_56 info_56 (fun h => by cases h) (fun h => by cases h)
  · exact tyAt ty_57 und_57 info_57 (fun h => by cases h) (fun h => by cases h)
  · exact tyAt ty_58 und_58 info_58 (fun h => by cases h) (fun h => by cases h)
  · exact tyAt ty_59 und_59 info_59 (fun h => by cases h) (fun h => by cases h)
  · exact tyAt ty_61 und_61 info_61 (fun h => by cases h) (fun h => by cases h)
  · exact tyAt ty_62 und_62 info_62 (fun h => by cases h) (fun h => by cases h)
  · exact tyAt ty_63 und_63 info_63 (fun h => by cases h) (fun h => by cases h)
  · exact tyAt ty_64 und_64 info_64 (fun h => by cases h) (fun h => by cases h)
  · exact tyAt ty_65 und_65 info_65 (fun h => by cases h) (fun h => by cases h)
  · exact tyAt ty_66 und_66 info_66 (fun h => by cases h) (fun h => by cases h)
  · exact tyAt ty_67 und_67 info_67 (fun h => by cases h) (fun h => by cases h)
  · exact tyAt ty_68 und_68 info_68 (fun h => by cases h) (fun h => by cases h)
  · exact tyAt ty_69 und_69 info_69 (fun h => by cases h) (fun h => by cases h)
  · exact tyAt ty_70 und_70 info_70 (fun h => by cases h) (fun h => by cases h)
  · exact tyAt ty_71 und_71 info_71 (fun h => by cases h) (fun h => by cases h)
  · exact tyAt ty_72 und_72 info_72 (fun h => by cases h) (fun h => by cases h)
  · exact tyAt ty_73 und_73 info_73 (fun h => by cases h) (fun h => by cases h)
  · exact tyAt ty_74 und_74 info_74 (fun h => by cases h) (fun h => by cases h)
  · exact tyAt ty_75 und_75 info_75 (fun h => by cases h) (fun h => by cases h)
  · exact tyAt ty_76 und_76 info_76 (fun h => by cases h) (fun h => by cases h)
  · exact tyAt ty_77 und_77 info_77 (fun h => by cases h) (fun h => by cases h)
  · exact tyAt ty_78 und_78 info_78 (fun h => by cases h) (fun h => by cases h)
  · exact tyAt ty_79 und_79 info_79 (fun _ _ => cmp_79) (fun _ h => by cases h)
  · exact tyAt ty_80 und_80 info_80 (fun _ _ => cmp_80) (fun _ h => by cases h)
  · exact tyAt ty_81 und_81 info_81 (fun h => by cases h) (fun h => by cases h)
  · exact tyAt ty_82 und_82 info_82 (fun _ _ => cmp_82) (fun _ h => by cases h)
  · exact tyAt ty_83 und_83 info_83 (fun _ _ => cmp_83) (fun _ h => by cases h)
  · exact tyAt ty_84 und_84 info_84 (fun h => by cases h) (fun h => by cases h)
  · exact tyAt ty_85 und_85 info_85 (fun h => by cases h) (fun h => by cases h)
  · cases h
end Go.Proofs.YtlkffgmejcgdbaaDoor
