/- Part T2 of the proof: own text. -/
import Derived.Test.YtknejocjkjpfmaaAmEq
import Derived.Test.YtknejocjkjpfmaaProg
import Derived.KernelRfl
set_option linter.all false
set_option maxRecDepth 20000
namespace Go.Proofs.AMT
open Go.AM
def ty : Ty := fun t => match t with
  | 2 => some ⟨.int .i64, 1, 8, false, [.int .i64 0], []⟩
  | 3 => some ⟨.int .i64, 1, 8, false, [.int .i64 0], []⟩
  | 4 => some ⟨.bool, 1, 1, false, [.bool false], []⟩
  | 5 => some ⟨.int .u8, 1, 1, false, [.int .u8 0], []⟩
  | 9 => some ⟨.str, 1, 16, false, [.string ⟨#[]⟩], []⟩
  | 10 => some ⟨.str, 1, 16, false, [.string ⟨#[]⟩], []⟩
  | 11 => some ⟨.str, 1, 16, false, [.string ⟨#[]⟩], []⟩
  | 22 => some ⟨.int .u32, 1, 4, false, [.int .u32 0], []⟩
  | 24 => some ⟨.float .f32, 1, 4, false, [.float .f32 0], []⟩
  | 26 => some ⟨.int .u64, 1, 8, false, [.int .u64 0], []⟩
  | 27 => some ⟨.arr 4 26, 4, 32, true, [.int .u64 0, .int .u64 0, .int .u64 0, .int .u64 0], [.int .u64, .int .u64, .int .u64, .int .u64]⟩
  | 28 => some ⟨.arr 4 26, 4, 32, true, [.int .u64 0, .int .u64 0, .int .u64 0, .int .u64 0], [.int .u64, .int .u64, .int .u64, .int .u64]⟩
  | 29 => some ⟨.int .i64, 1, 8, false, [.int .i64 0], []⟩
  | 33 => some ⟨.float .f64, 1, 8, false, [.float .f64 0], []⟩
  | 42 => some ⟨.slice 26, 1, 24, false, [.slice none 0 0], []⟩
  | 53 => some ⟨.struct [(0, 3), (1, 4), (2, 4), (3, 3), (4, 28)], 8, 56, true, [.int .i64 0, .bool false, .bool false, .int .i64 0, .int .u64 0, .int .u64 0, .int .u64 0, .int .u64 0], []⟩
  | 58 => some ⟨.struct [(0, 3), (1, 9), (2, 3), (3, 3), (4, 3), (5, 3), (6, 3), (7, 3), (8, 3), (9, 4)], 10, 88, true, [.int .i64 0, .string ⟨#[]⟩, .int .i64 0, .int .i64 0, .int .i64 0, .int .i64 0, .int .i64 0, .int .i64 0, .int .i64 0, .bool false], []⟩
  | 72 => some ⟨.int .u64, 1, 8, false, [.int .u64 0], []⟩
  | 91 => some ⟨.struct [(0, 3), (1, 9), (2, 3), (3, 3), (4, 3), (5, 3), (6, 3), (7, 3), (8, 3), (9, 4)], 10, 88, true, [.int .i64 0, .string ⟨#[]⟩, .int .i64 0, .int .i64 0, .int .i64 0, .int .i64 0, .int .i64 0, .int .i64 0, .int .i64 0, .bool false], []⟩
  | 99 => some ⟨.slice 58, 1, 24, false, [.slice none 0 0], []⟩
  | _ => none
theorem ty_2 : ty 2 = some ⟨.int .i64, 1, 8, false, [.int .i64 0], []⟩ := rfl
theorem tyok_2 : TyOk Try.prog 2 ⟨.int .i64, 1, 8, false, [.int .i64 0], []⟩ := by
  have hu : Try.prog.underlying 2 = _ := (by kernel_rfl : Try.prog.underlying 2 = some (TypeDesc.int IntKind.i64))
  refine ⟨⟨Try.t2, by kernel_rfl, rfl, rfl, _, rfl, rfl⟩, ⟨rfl, rfl⟩, ⟨hu, rfl, rfl, rfl⟩, ?_⟩
  exact fun h => absurd rfl h
theorem ty_3 : ty 3 = some ⟨.int .i64, 1, 8, false, [.int .i64 0], []⟩ := rfl
theorem tyok_3 : TyOk Try.prog 3 ⟨.int .i64, 1, 8, false, [.int .i64 0], []⟩ := by
  have hu : Try.prog.underlying 3 = _ := (by kernel_rfl : Try.prog.underlying 3 = some (TypeDesc.int IntKind.i64))
  refine ⟨⟨Try.t3, by kernel_rfl, rfl, rfl, _, rfl, rfl⟩, ⟨rfl, rfl⟩, ⟨hu, rfl, rfl, rfl⟩, ?_⟩
  exact fun h => absurd rfl h
theorem ty_4 : ty 4 = some ⟨.bool, 1, 1, false, [.bool false], []⟩ := rfl
theorem tyok_4 : TyOk Try.prog 4 ⟨.bool, 1, 1, false, [.bool false], []⟩ := by
  have hu : Try.prog.underlying 4 = _ := (by kernel_rfl : Try.prog.underlying 4 = some (TypeDesc.bool ))
  refine ⟨⟨Try.t4, by kernel_rfl, rfl, rfl, _, rfl, rfl⟩, ⟨rfl, rfl⟩, ⟨hu, rfl⟩, ?_⟩
  exact fun h => absurd rfl h
theorem ty_5 : ty 5 = some ⟨.int .u8, 1, 1, false, [.int .u8 0], []⟩ := rfl
theorem tyok_5 : TyOk Try.prog 5 ⟨.int .u8, 1, 1, false, [.int .u8 0], []⟩ := by
  have hu : Try.prog.underlying 5 = _ := (by kernel_rfl : Try.prog.underlying 5 = some (TypeDesc.int IntKind.u8))
  refine ⟨⟨Try.t5, by kernel_rfl, rfl, rfl, _, rfl, rfl⟩, ⟨rfl, rfl⟩, ⟨hu, rfl, rfl, rfl⟩, ?_⟩
  exact fun h => absurd rfl h
theorem ty_9 : ty 9 = some ⟨.str, 1, 16, false, [.string ⟨#[]⟩], []⟩ := rfl
theorem tyok_9 : TyOk Try.prog 9 ⟨.str, 1, 16, false, [.string ⟨#[]⟩], []⟩ := by
  have hu : Try.prog.underlying 9 = _ := (by kernel_rfl : Try.prog.underlying 9 = some (TypeDesc.string ))
  refine ⟨⟨Try.t9, by kernel_rfl, rfl, rfl, _, rfl, rfl⟩, ⟨rfl, rfl⟩, ⟨hu, rfl⟩, ?_⟩
  exact fun h => absurd rfl h
theorem ty_10 : ty 10 = some ⟨.str, 1, 16, false, [.string ⟨#[]⟩], []⟩ := rfl
theorem tyok_10 : TyOk Try.prog 10 ⟨.str, 1, 16, false, [.string ⟨#[]⟩], []⟩ := by
  have hu : Try.prog.underlying 10 = _ := (by kernel_rfl : Try.prog.underlying 10 = some (TypeDesc.string ))
  refine ⟨⟨Try.t10, by kernel_rfl, rfl, rfl, _, rfl, rfl⟩, ⟨rfl, rfl⟩, ⟨hu, rfl⟩, ?_⟩
  exact fun h => absurd rfl h
theorem ty_11 : ty 11 = some ⟨.str, 1, 16, false, [.string ⟨#[]⟩], []⟩ := rfl
theorem tyok_11 : TyOk Try.prog 11 ⟨.str, 1, 16, false, [.string ⟨#[]⟩], []⟩ := by
  have hu : Try.prog.underlying 11 = _ := (by kernel_rfl : Try.prog.underlying 11 = some (TypeDesc.string ))
  refine ⟨⟨Try.t11, by kernel_rfl, rfl, rfl, _, rfl, rfl⟩, ⟨rfl, rfl⟩, ⟨hu, rfl⟩, ?_⟩
  exact fun h => absurd rfl h
theorem ty_22 : ty 22 = some ⟨.int .u32, 1, 4, false, [.int .u32 0], []⟩ := rfl
theorem tyok_22 : TyOk Try.prog 22 ⟨.int .u32, 1, 4, false, [.int .u32 0], []⟩ := by
  have hu : Try.prog.underlying 22 = _ := (by kernel_rfl : Try.prog.underlying 22 = some (TypeDesc.int IntKind.u32))
  refine ⟨⟨Try.t22, by kernel_rfl, rfl, rfl, _, rfl, rfl⟩, ⟨rfl, rfl⟩, ⟨hu, rfl, rfl, rfl⟩, ?_⟩
  exact fun h => absurd rfl h
theorem ty_24 : ty 24 = some ⟨.float .f32, 1, 4, false, [.float .f32 0], []⟩ := rfl
theorem tyok_24 : TyOk Try.prog 24 ⟨.float .f32, 1, 4, false, [.float .f32 0], []⟩ := by
  have hu : Try.prog.underlying 24 = _ := (by kernel_rfl : Try.prog.underlying 24 = some (TypeDesc.float FloatKind.f32))
  refine ⟨⟨Try.t24, by kernel_rfl, rfl, rfl, _, rfl, rfl⟩, ⟨rfl, rfl⟩, ⟨hu, rfl⟩, ?_⟩
  exact fun h => absurd rfl h
theorem ty_26 : ty 26 = some ⟨.int .u64, 1, 8, false, [.int .u64 0], []⟩ := rfl
theorem tyok_26 : TyOk Try.prog 26 ⟨.int .u64, 1, 8, false, [.int .u64 0], []⟩ := by
  have hu : Try.prog.underlying 26 = _ := (by kernel_rfl : Try.prog.underlying 26 = some (TypeDesc.int IntKind.u64))
  refine ⟨⟨Try.t26, by kernel_rfl, rfl, rfl, _, rfl, rfl⟩, ⟨rfl, rfl⟩, ⟨hu, rfl, rfl, rfl⟩, ?_⟩
  exact fun h => absurd rfl h
theorem ty_27 : ty 27 = some ⟨.arr 4 26, 4, 32, true, [.int .u64 0, .int .u64 0, .int .u64 0, .int .u64 0], [.int .u64, .int .u64, .int .u64, .int .u64]⟩ := rfl
theorem tyok_27 : TyOk Try.prog 27 ⟨.arr 4 26, 4, 32, true, [.int .u64 0, .int .u64 0, .int .u64 0, .int .u64 0], [.int .u64, .int .u64, .int .u64, .int .u64]⟩ := by
  have hu : Try.prog.underlying 27 = _ := (by kernel_rfl : Try.prog.underlying 27 = some (TypeDesc.array 4 26))
  refine ⟨⟨Try.t27, by kernel_rfl, rfl, rfl, _, rfl, rfl⟩, ⟨rfl, rfl⟩, ⟨hu, rfl⟩, ?_⟩
  exact fun _ => ⟨by kernel_rfl, eq4_ok hu tyok_26.kind.1 tyok_26.run_size tyok_26.run_isAgg⟩
theorem ty_28 : ty 28 = some ⟨.arr 4 26, 4, 32, true, [.int .u64 0, .int .u64 0, .int .u64 0, .int .u64 0], [.int .u64, .int .u64, .int .u64, .int .u64]⟩ := rfl
theorem tyok_28 : TyOk Try.prog 28 ⟨.arr 4 26, 4, 32, true, [.int .u64 0, .int .u64 0, .int .u64 0, .int .u64 0], [.int .u64, .int .u64, .int .u64, .int .u64]⟩ := by
  have hu : Try.prog.underlying 28 = _ := (by kernel_rfl : Try.prog.underlying 28 = some (TypeDesc.array 4 26))
  refine ⟨⟨Try.t28, by kernel_rfl, rfl, rfl, _, rfl, rfl⟩, ⟨rfl, rfl⟩, ⟨hu, rfl⟩, ?_⟩
  exact fun _ => ⟨by kernel_rfl, eq4_ok hu tyok_26.kind.1 tyok_26.run_size tyok_26.run_isAgg⟩
theorem ty_29 : ty 29 = some ⟨.int .i64, 1, 8, false, [.int .i64 0], []⟩ := rfl
theorem tyok_29 : TyOk Try.prog 29 ⟨.int .i64, 1, 8, false, [.int .i64 0], []⟩ := by
  have hu : Try.prog.underlying 29 = _ := (by kernel_rfl : Try.prog.underlying 29 = some (TypeDesc.int IntKind.i64))
  refine ⟨⟨Try.t29, by kernel_rfl, rfl, rfl, _, rfl, rfl⟩, ⟨rfl, rfl⟩, ⟨hu, rfl, rfl, rfl⟩, ?_⟩
  exact fun h => absurd rfl h
theorem ty_33 : ty 33 = some ⟨.float .f64, 1, 8, false, [.float .f64 0], []⟩ := rfl
theorem tyok_33 : TyOk Try.prog 33 ⟨.float .f64, 1, 8, false, [.float .f64 0], []⟩ := by
  have hu : Try.prog.underlying 33 = _ := (by kernel_rfl : Try.prog.underlying 33 = some (TypeDesc.float FloatKind.f64))
  refine ⟨⟨Try.t33, by kernel_rfl, rfl, rfl, _, rfl, rfl⟩, ⟨rfl, rfl⟩, ⟨hu, rfl⟩, ?_⟩
  exact fun h => absurd rfl h
theorem ty_42 : ty 42 = some ⟨.slice 26, 1, 24, false, [.slice none 0 0], []⟩ := rfl
theorem tyok_42 : TyOk Try.prog 42 ⟨.slice 26, 1, 24, false, [.slice none 0 0], []⟩ := by
  have hu : Try.prog.underlying 42 = _ := (by kernel_rfl : Try.prog.underlying 42 = some (TypeDesc.slice 26))
  refine ⟨⟨Try.t42, by kernel_rfl, rfl, rfl, _, rfl, rfl⟩, ⟨rfl, rfl⟩, ⟨hu, rfl⟩, ?_⟩
  exact fun h => absurd rfl h
theorem ty_53 : ty 53 = some ⟨.struct [(0, 3), (1, 4), (2, 4), (3, 3), (4, 28)], 8, 56, true, [.int .i64 0, .bool false, .bool false, .int .i64 0, .int .u64 0, .int .u64 0, .int .u64 0, .int .u64 0], []⟩ := rfl
theorem tyok_53 : TyOk Try.prog 53 ⟨.struct [(0, 3), (1, 4), (2, 4), (3, 3), (4, 28)], 8, 56, true, [.int .i64 0, .bool false, .bool false, .int .i64 0, .int .u64 0, .int .u64 0, .int .u64 0, .int .u64 0], []⟩ := by
  have hu : Try.prog.underlying 53 = _ := (by kernel_rfl : Try.prog.underlying 53 = some (TypeDesc.struct #[{ name := "Class", type := 3, offset := 0, embedded := false, tag := "", pkgPath := "", byteOffset := 0 }, { name := "Sign", type := 4, offset := 1, embedded := false, tag := "", pkgPath := "", byteOffset := 8 }, { name := "Signal", type := 4, offset := 2, embedded := false, tag := "", pkgPath := "", byteOffset := 9 }, { name := "Exp", type := 3, offset := 3, embedded := false, tag := "", pkgPath := "", byteOffset := 16 }, { name := "Coef", type := 28, offset := 4, embedded := false, tag := "", pkgPath := "", byteOffset := 24 }]))
  refine ⟨⟨Try.t53, by kernel_rfl, rfl, rfl, _, rfl, rfl⟩, ⟨rfl, rfl⟩, ⟨rfl, _, hu, rfl, fun f hf => by
    simp only [List.mem_toArray, List.mem_cons, List.not_mem_nil, or_false] at hf
    rcases hf with rfl | rfl | rfl | rfl | rfl
    all_goals first | exact ⟨_, (by kernel_rfl : Try.prog.info? 28 = some Try.t28), by decide⟩ | exact ⟨_, (by kernel_rfl : Try.prog.info? 3 = some Try.t3), by decide⟩ | exact ⟨_, (by kernel_rfl : Try.prog.info? 4 = some Try.t4), by decide⟩⟩, ?_⟩
  exact fun h => absurd rfl h
theorem ty_58 : ty 58 = some ⟨.struct [(0, 3), (1, 9), (2, 3), (3, 3), (4, 3), (5, 3), (6, 3), (7, 3), (8, 3), (9, 4)], 10, 88, true, [.int .i64 0, .string ⟨#[]⟩, .int .i64 0, .int .i64 0, .int .i64 0, .int .i64 0, .int .i64 0, .int .i64 0, .int .i64 0, .bool false], []⟩ := rfl
theorem tyok_58 : TyOk Try.prog 58 ⟨.struct [(0, 3), (1, 9), (2, 3), (3, 3), (4, 3), (5, 3), (6, 3), (7, 3), (8, 3), (9, 4)], 10, 88, true, [.int .i64 0, .string ⟨#[]⟩, .int .i64 0, .int .i64 0, .int .i64 0, .int .i64 0, .int .i64 0, .int .i64 0, .int .i64 0, .bool false], []⟩ := by
  have hu : Try.prog.underlying 58 = _ := (by kernel_rfl : Try.prog.underlying 58 = some (TypeDesc.struct #[{ name := "Number", type := 3, offset := 0, embedded := false, tag := "", pkgPath := "", byteOffset := 0 }, { name := "Name", type := 9, offset := 1, embedded := false, tag := "", pkgPath := "", byteOffset := 8 }, { name := "Base", type := 3, offset := 2, embedded := false, tag := "", pkgPath := "", byteOffset := 24 }, { name := "Width", type := 3, offset := 3, embedded := false, tag := "", pkgPath := "", byteOffset := 32 }, { name := "Precision", type := 3, offset := 4, embedded := false, tag := "", pkgPath := "", byteOffset := 40 }, { name := "Exponent", type := 3, offset := 5, embedded := false, tag := "", pkgPath := "", byteOffset := 48 }, { name := "Least", type := 3, offset := 6, embedded := false, tag := "", pkgPath := "", byteOffset := 56 }, { name := "Most", type := 3, offset := 7, embedded := false, tag := "", pkgPath := "", byteOffset := 64 }, { name := "Payload", type := 3, offset := 8, embedded := false, tag := "", pkgPath := "", byteOffset := 72 }, { name := "Dense", type := 4, offset := 9, embedded := false, tag := "", pkgPath := "", byteOffset := 80 }]))
  refine ⟨⟨Try.t58, by kernel_rfl, rfl, rfl, _, rfl, rfl⟩, ⟨rfl, rfl⟩, ⟨rfl, _, hu, rfl, fun f hf => by
    simp only [List.mem_toArray, List.mem_cons, List.not_mem_nil, or_false] at hf
    rcases hf with rfl | rfl | rfl | rfl | rfl | rfl | rfl | rfl | rfl | rfl
    all_goals first | exact ⟨_, (by kernel_rfl : Try.prog.info? 3 = some Try.t3), by decide⟩ | exact ⟨_, (by kernel_rfl : Try.prog.info? 4 = some Try.t4), by decide⟩ | exact ⟨_, (by kernel_rfl : Try.prog.info? 9 = some Try.t9), by decide⟩⟩, ?_⟩
  exact fun h => absurd rfl h
theorem ty_72 : ty 72 = some ⟨.int .u64, 1, 8, false, [.int .u64 0], []⟩ := rfl
theorem tyok_72 : TyOk Try.prog 72 ⟨.int .u64, 1, 8, false, [.int .u64 0], []⟩ := by
  have hu : Try.prog.underlying 72 = _ := (by kernel_rfl : Try.prog.underlying 72 = some (TypeDesc.int IntKind.u64))
  refine ⟨⟨Try.t72, by kernel_rfl, rfl, rfl, _, rfl, rfl⟩, ⟨rfl, rfl⟩, ⟨hu, rfl, rfl, rfl⟩, ?_⟩
  exact fun h => absurd rfl h
theorem ty_91 : ty 91 = some ⟨.struct [(0, 3), (1, 9), (2, 3), (3, 3), (4, 3), (5, 3), (6, 3), (7, 3), (8, 3), (9, 4)], 10, 88, true, [.int .i64 0, .string ⟨#[]⟩, .int .i64 0, .int .i64 0, .int .i64 0, .int .i64 0, .int .i64 0, .int .i64 0, .int .i64 0, .bool false], []⟩ := rfl
theorem tyok_91 : TyOk Try.prog 91 ⟨.struct [(0, 3), (1, 9), (2, 3), (3, 3), (4, 3), (5, 3), (6, 3), (7, 3), (8, 3), (9, 4)], 10, 88, true, [.int .i64 0, .string ⟨#[]⟩, .int .i64 0, .int .i64 0, .int .i64 0, .int .i64 0, .int .i64 0, .int .i64 0, .int .i64 0, .bool false], []⟩ := by
  have hu : Try.prog.underlying 91 = _ := (by kernel_rfl : Try.prog.underlying 91 = some (TypeDesc.struct #[{ name := "Number", type := 3, offset := 0, embedded := false, tag := "", pkgPath := "", byteOffset := 0 }, { name := "Name", type := 9, offset := 1, embedded := false, tag := "", pkgPath := "", byteOffset := 8 }, { name := "Base", type := 3, offset := 2, embedded := false, tag := "", pkgPath := "", byteOffset := 24 }, { name := "Width", type := 3, offset := 3, embedded := false, tag := "", pkgPath := "", byteOffset := 32 }, { name := "Precision", type := 3, offset := 4, embedded := false, tag := "", pkgPath := "", byteOffset := 40 }, { name := "Exponent", type := 3, offset := 5, embedded := false, tag := "", pkgPath := "", byteOffset := 48 }, { name := "Least", type := 3, offset := 6, embedded := false, tag := "", pkgPath := "", byteOffset := 56 }, { name := "Most", type := 3, offset := 7, embedded := false, tag := "", pkgPath := "", byteOffset := 64 }, { name := "Payload", type := 3, offset := 8, embedded := false, tag := "", pkgPath := "", byteOffset := 72 }, { name := "Dense", type := 4, offset := 9, embedded := false, tag := "", pkgPath := "", byteOffset := 80 }]))
  refine ⟨⟨Try.t91, by kernel_rfl, rfl, rfl, _, rfl, rfl⟩, ⟨rfl, rfl⟩, ⟨rfl, _, hu, rfl, fun f hf => by
    simp only [List.mem_toArray, List.mem_cons, List.not_mem_nil, or_false] at hf
    rcases hf with rfl | rfl | rfl | rfl | rfl | rfl | rfl | rfl | rfl | rfl
    all_goals first | exact ⟨_, (by kernel_rfl : Try.prog.info? 3 = some Try.t3), by decide⟩ | exact ⟨_, (by kernel_rfl : Try.prog.info? 4 = some Try.t4), by decide⟩ | exact ⟨_, (by kernel_rfl : Try.prog.info? 9 = some Try.t9), by decide⟩⟩, ?_⟩
  exact fun h => absurd rfl h
theorem ty_99 : ty 99 = some ⟨.slice 58, 1, 24, false, [.slice none 0 0], []⟩ := rfl
theorem tyok_99 : TyOk Try.prog 99 ⟨.slice 58, 1, 24, false, [.slice none 0 0], []⟩ := by
  have hu : Try.prog.underlying 99 = _ := (by kernel_rfl : Try.prog.underlying 99 = some (TypeDesc.slice 58))
  refine ⟨⟨Try.t99, by kernel_rfl, rfl, rfl, _, rfl, rfl⟩, ⟨rfl, rfl⟩, ⟨hu, rfl⟩, ?_⟩
  exact fun h => absurd rfl h
theorem tysOk : TysOk Try.prog ty := by
  intro t i h
  unfold ty at h
  split at h
  · cases h; exact tyok_2
  · cases h; exact tyok_3
  · cases h; exact tyok_4
  · cases h; exact tyok_5
  · cases h; exact tyok_9
  · cases h; exact tyok_10
  · cases h; exact tyok_11
  · cases h; exact tyok_22
  · cases h; exact tyok_24
  · cases h; exact tyok_26
  · cases h; exact tyok_27
  · cases h; exact tyok_28
  · cases h; exact tyok_29
  · cases h; exact tyok_33
  · cases h; exact tyok_42
  · cases h; exact tyok_53
  · cases h; exact tyok_58
  · cases h; exact tyok_72
  · cases h; exact tyok_91
  · cases h; exact tyok_99
  · cases h
end Go.Proofs.AMT
