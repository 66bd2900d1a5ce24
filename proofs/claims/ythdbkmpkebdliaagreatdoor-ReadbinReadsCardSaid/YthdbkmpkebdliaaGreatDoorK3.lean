/- Part 3 of the proof: own text. -/
import Derived.Test.YthdbkmpkebdliaaGreatDoorProg
import Derived.KernelRfl
import Derived.Shelf.Unicode.DecodeSlow
import Derived.Lib.LaidTab
import Derived.Below
import Derived.Lib.ItoaNum
import Derived.Laws.Externs
import Derived.WalkKit
import Derived.Lib.SliceRun
import Derived.Test.YthdbkmpkebdliaaGreatDoorK2
set_option linter.all false
set_option maxHeartbeats 20000000
set_option maxRecDepth 20000
namespace Go.Proofs.AMT
open Go.AM
theorem tab_below {P : Program} {w w' : World} {n : String} {k : IntKind} {zs : List Int} (hs : (P.globalNamed n).isSome = true) (h : Lib.TabIs P w n k zs) (hb : Go.RowKit.Below w.heap.size w w') : Lib.TabIs P w' n k zs := by
  obtain ⟨g, hg⟩ := Option.isSome_iff_exists.1 hs
  unfold Lib.TabIs World.var? at h ⊢
  rw [hg] at h ⊢
  simp only [Option.bind_some] at h ⊢
  have hlt : g < w.heap.size := by
    rcases Nat.lt_or_ge g w.heap.size with h1 | h1
    · exact h1
    · rw [Array.getElem?_eq_none h1] at h; cases h
  rw [hb.block g hlt]; exact h
noncomputable instance : Lay := ⟨fun w => Lib.Utf8Tabs 7 8 w ∧ Lib.TabIs Tryz.prog w "internal/strconv.uint64pow10" .u64 Lib.pow10Tab, fun h hb => ⟨Utf8Tabs_below h.1 hb, tab_below (by kernel_rfl) h.2 hb⟩⟩
def ty : Ty := fun t => match t with
  | 2 => some ⟨.int .i64, 1, 8, false, [.int .i64 0], []⟩
  | 3 => some ⟨.int .i64, 1, 8, false, [.int .i64 0], []⟩
  | 4 => some ⟨.bool, 1, 1, false, [.bool false], []⟩
  | 5 => some ⟨.int .u8, 1, 1, false, [.int .u8 0], []⟩
  | 9 => some ⟨.str, 1, 16, false, [.string ⟨#[]⟩], []⟩
  | 22 => some ⟨.int .u64, 1, 8, false, [.int .u64 0], []⟩
  | 26 => some ⟨.int .i64, 1, 8, false, [.int .i64 0], []⟩
  | 42 => some ⟨.struct [(0, 3), (1, 4), (2, 4), (3, 9), (4, 3)], 5, 40, true, [.int .i64 0, .bool false, .bool false, .string ⟨#[]⟩, .int .i64 0], []⟩
  | 50 => some ⟨.slice 22, 1, 24, false, [.slice none 0 0], []⟩
  | 58 => some ⟨.int .i16, 1, 2, false, [.int .i16 0], []⟩
  | 62 => some ⟨.struct [(0, 3), (1, 9), (2, 3), (3, 3), (4, 3), (5, 3), (6, 3), (7, 3), (8, 3), (9, 4)], 10, 88, true, [.int .i64 0, .string ⟨#[]⟩, .int .i64 0, .int .i64 0, .int .i64 0, .int .i64 0, .int .i64 0, .int .i64 0, .int .i64 0, .bool false], []⟩
  | 68 => some ⟨.int .u32, 1, 4, false, [.int .u32 0], []⟩
  | 70 => some ⟨.float .f32, 1, 4, false, [.float .f32 0], []⟩
  | 72 => some ⟨.float .f64, 1, 8, false, [.float .f64 0], []⟩
  | 75 => some ⟨.int .u64, 1, 8, false, [.int .u64 0], []⟩
  | 95 => some ⟨.struct [(0, 3), (1, 9), (2, 3), (3, 3), (4, 3), (5, 3), (6, 3), (7, 3), (8, 3), (9, 4)], 10, 88, true, [.int .i64 0, .string ⟨#[]⟩, .int .i64 0, .int .i64 0, .int .i64 0, .int .i64 0, .int .i64 0, .int .i64 0, .int .i64 0, .bool false], []⟩
  | 131 => some ⟨.slice 5, 1, 24, false, [.slice none 0 0], []⟩
  | 156 => some ⟨.slice 95, 1, 24, false, [.slice none 0 0], []⟩
  | 23 => some ⟨.arr 4 22, 4, 32, true, [.int .u64 0, .int .u64 0, .int .u64 0, .int .u64 0], [.int .u64, .int .u64, .int .u64, .int .u64]⟩
  | 24 => some ⟨.arr 4 22, 4, 32, true, [.int .u64 0, .int .u64 0, .int .u64 0, .int .u64 0], [.int .u64, .int .u64, .int .u64, .int .u64]⟩
  | 33 => some ⟨.struct [(0, 3), (1, 4), (2, 4), (3, 3), (4, 24)], 8, 56, true, [.int .i64 0, .bool false, .bool false, .int .i64 0, .int .u64 0, .int .u64 0, .int .u64 0, .int .u64 0], [.int .i64, .bool, .bool, .int .i64, .int .u64, .int .u64, .int .u64, .int .u64]⟩
  | 44 => some ⟨.struct [(0, 3), (1, 4), (2, 4), (3, 9), (4, 3)], 5, 40, true, [.int .i64 0, .bool false, .bool false, .string ⟨#[]⟩, .int .i64 0], [.int .i64, .bool, .bool, .str, .int .i64]⟩
  | _ => none
theorem tyok_2 : TyOk Tryz.prog 2 ⟨.int .i64, 1, 8, false, [.int .i64 0], []⟩ := by
  have hu := Tryz.underlying2
  refine ⟨⟨Tryz.t2, by kernel_rfl, rfl, rfl, _, rfl, rfl⟩, ⟨rfl, rfl⟩, ⟨hu, rfl, rfl, rfl⟩, ?_⟩
  exact fun h => absurd rfl h
theorem ty_3 : ty 3 = some ⟨.int .i64, 1, 8, false, [.int .i64 0], []⟩ := rfl
theorem tyok_3 : TyOk Tryz.prog 3 ⟨.int .i64, 1, 8, false, [.int .i64 0], []⟩ := by
  have hu := Tryz.underlying3
  refine ⟨⟨Tryz.t3, by kernel_rfl, rfl, rfl, _, rfl, rfl⟩, ⟨rfl, rfl⟩, ⟨hu, rfl, rfl, rfl⟩, ?_⟩
  exact fun h => absurd rfl h
theorem ty_4 : ty 4 = some ⟨.bool, 1, 1, false, [.bool false], []⟩ := rfl
theorem tyok_4 : TyOk Tryz.prog 4 ⟨.bool, 1, 1, false, [.bool false], []⟩ := by
  have hu := Tryz.underlying4
  refine ⟨⟨Tryz.t4, by kernel_rfl, rfl, rfl, _, rfl, rfl⟩, ⟨rfl, rfl⟩, ⟨hu, rfl⟩, ?_⟩
  exact fun h => absurd rfl h
theorem ty_5 : ty 5 = some ⟨.int .u8, 1, 1, false, [.int .u8 0], []⟩ := rfl
theorem tyok_5 : TyOk Tryz.prog 5 ⟨.int .u8, 1, 1, false, [.int .u8 0], []⟩ := by
  have hu := Tryz.underlying5
  refine ⟨⟨Tryz.t5, by kernel_rfl, rfl, rfl, _, rfl, rfl⟩, ⟨rfl, rfl⟩, ⟨hu, rfl, rfl, rfl⟩, ?_⟩
  exact fun h => absurd rfl h
theorem ty_9 : ty 9 = some ⟨.str, 1, 16, false, [.string ⟨#[]⟩], []⟩ := rfl
theorem tyok_9 : TyOk Tryz.prog 9 ⟨.str, 1, 16, false, [.string ⟨#[]⟩], []⟩ := by
  have hu := Tryz.underlying9
  refine ⟨⟨Tryz.t9, by kernel_rfl, rfl, rfl, _, rfl, rfl⟩, ⟨rfl, rfl⟩, ⟨hu, rfl⟩, ?_⟩
  exact fun h => absurd rfl h
theorem ty_22 : ty 22 = some ⟨.int .u64, 1, 8, false, [.int .u64 0], []⟩ := rfl
theorem tyok_22 : TyOk Tryz.prog 22 ⟨.int .u64, 1, 8, false, [.int .u64 0], []⟩ := by
  have hu := Tryz.underlying22
  refine ⟨⟨Tryz.t22, by kernel_rfl, rfl, rfl, _, rfl, rfl⟩, ⟨rfl, rfl⟩, ⟨hu, rfl, rfl, rfl⟩, ?_⟩
  exact fun h => absurd rfl h
theorem ty_26 : ty 26 = some ⟨.int .i64, 1, 8, false, [.int .i64 0], []⟩ := rfl
theorem tyok_26 : TyOk Tryz.prog 26 ⟨.int .i64, 1, 8, false, [.int .i64 0], []⟩ := by
  have hu := Tryz.underlying26
  refine ⟨⟨Tryz.t26, by kernel_rfl, rfl, rfl, _, rfl, rfl⟩, ⟨rfl, rfl⟩, ⟨hu, rfl, rfl, rfl⟩, ?_⟩
  exact fun h => absurd rfl h
theorem ty_42 : ty 42 = some ⟨.struct [(0, 3), (1, 4), (2, 4), (3, 9), (4, 3)], 5, 40, true, [.int .i64 0, .bool false, .bool false, .string ⟨#[]⟩, .int .i64 0], []⟩ := rfl
theorem tyok_42 : TyOk Tryz.prog 42 ⟨.struct [(0, 3), (1, 4), (2, 4), (3, 9), (4, 3)], 5, 40, true, [.int .i64 0, .bool false, .bool false, .string ⟨#[]⟩, .int .i64 0], []⟩ := by
  have hu := Tryz.underlying42
  refine ⟨⟨Tryz.t42, by kernel_rfl, rfl, rfl, _, rfl, rfl⟩, ⟨rfl, rfl⟩, ⟨rfl, _, hu, rfl, fun f hf => by
    simp only [List.mem_toArray, List.mem_cons, List.not_mem_nil, or_false] at hf
    rcases hf with rfl | rfl | rfl | rfl | rfl
    all_goals first | exact ⟨_, (by kernel_rfl : Tryz.prog.info? 3 = some Tryz.t3), by decide⟩ | exact ⟨_, (by kernel_rfl : Tryz.prog.info? 4 = some Tryz.t4), by decide⟩ | exact ⟨_, (by kernel_rfl : Tryz.prog.info? 9 = some Tryz.t9), by decide⟩⟩, ?_⟩
  exact fun h => absurd rfl h
theorem ty_50 : ty 50 = some ⟨.slice 22, 1, 24, false, [.slice none 0 0], []⟩ := rfl
theorem tyok_50 : TyOk Tryz.prog 50 ⟨.slice 22, 1, 24, false, [.slice none 0 0], []⟩ := by
  have hu := Tryz.underlying50
  refine ⟨⟨Tryz.t50, by kernel_rfl, rfl, rfl, _, rfl, rfl⟩, ⟨rfl, rfl⟩, ⟨hu, rfl⟩, ?_⟩
  exact fun h => absurd rfl h
theorem tyok_58 : TyOk Tryz.prog 58 ⟨.int .i16, 1, 2, false, [.int .i16 0], []⟩ := by
  have hu := Tryz.underlying58
  refine ⟨⟨Tryz.t58, by kernel_rfl, rfl, rfl, _, rfl, rfl⟩, ⟨rfl, rfl⟩, ⟨hu, rfl, rfl, rfl⟩, ?_⟩
  exact fun h => absurd rfl h
theorem ty_62 : ty 62 = some ⟨.struct [(0, 3), (1, 9), (2, 3), (3, 3), (4, 3), (5, 3), (6, 3), (7, 3), (8, 3), (9, 4)], 10, 88, true, [.int .i64 0, .string ⟨#[]⟩, .int .i64 0, .int .i64 0, .int .i64 0, .int .i64 0, .int .i64 0, .int .i64 0, .int .i64 0, .bool false], []⟩ := rfl
theorem tyok_62 : TyOk Tryz.prog 62 ⟨.struct [(0, 3), (1, 9), (2, 3), (3, 3), (4, 3), (5, 3), (6, 3), (7, 3), (8, 3), (9, 4)], 10, 88, true, [.int .i64 0, .string ⟨#[]⟩, .int .i64 0, .int .i64 0, .int .i64 0, .int .i64 0, .int .i64 0, .int .i64 0, .int .i64 0, .bool false], []⟩ := by
  have hu := Tryz.underlying62
  refine ⟨⟨Tryz.t62, by kernel_rfl, rfl, rfl, _, rfl, rfl⟩, ⟨rfl, rfl⟩, ⟨rfl, _, hu, rfl, fun f hf => by
    simp only [List.mem_toArray, List.mem_cons, List.not_mem_nil, or_false] at hf
    rcases hf with rfl | rfl | rfl | rfl | rfl | rfl | rfl | rfl | rfl | rfl
    all_goals first | exact ⟨_, (by kernel_rfl : Tryz.prog.info? 3 = some Tryz.t3), by decide⟩ | exact ⟨_, (by kernel_rfl : Tryz.prog.info? 4 = some Tryz.t4), by decide⟩ | exact ⟨_, (by kernel_rfl : Tryz.prog.info? 9 = some Tryz.t9), by decide⟩⟩, ?_⟩
  exact fun h => absurd rfl h
theorem tyok_68 : TyOk Tryz.prog 68 ⟨.int .u32, 1, 4, false, [.int .u32 0], []⟩ := by
  have hu := Tryz.underlying68
  refine ⟨⟨Tryz.t68, by kernel_rfl, rfl, rfl, _, rfl, rfl⟩, ⟨rfl, rfl⟩, ⟨hu, rfl, rfl, rfl⟩, ?_⟩
  exact fun h => absurd rfl h
theorem tyok_70 : TyOk Tryz.prog 70 ⟨.float .f32, 1, 4, false, [.float .f32 0], []⟩ := by
  have hu := Tryz.underlying70
  refine ⟨⟨Tryz.t70, by kernel_rfl, rfl, rfl, _, rfl, rfl⟩, ⟨rfl, rfl⟩, ⟨hu, rfl⟩, ?_⟩
  exact fun h => absurd rfl h
theorem tyok_72 : TyOk Tryz.prog 72 ⟨.float .f64, 1, 8, false, [.float .f64 0], []⟩ := by
  have hu := Tryz.underlying72
  refine ⟨⟨Tryz.t72, by kernel_rfl, rfl, rfl, _, rfl, rfl⟩, ⟨rfl, rfl⟩, ⟨hu, rfl⟩, ?_⟩
  exact fun h => absurd rfl h
theorem ty_75 : ty 75 = some ⟨.int .u64, 1, 8, false, [.int .u64 0], []⟩ := rfl
theorem tyok_75 : TyOk Tryz.prog 75 ⟨.int .u64, 1, 8, false, [.int .u64 0], []⟩ := by
  have hu := Tryz.underlying75
  refine ⟨⟨Tryz.t75, by kernel_rfl, rfl, rfl, _, rfl, rfl⟩, ⟨rfl, rfl⟩, ⟨hu, rfl, rfl, rfl⟩, ?_⟩
  exact fun h => absurd rfl h
theorem ty_95 : ty 95 = some ⟨.struct [(0, 3), (1, 9), (2, 3), (3, 3), (4, 3), (5, 3), (6, 3), (7, 3), (8, 3), (9, 4)], 10, 88, true, [.int .i64 0, .string ⟨#[]⟩, .int .i64 0, .int .i64 0, .int .i64 0, .int .i64 0, .int .i64 0, .int .i64 0, .int .i64 0, .bool false], []⟩ := rfl
theorem tyok_95 : TyOk Tryz.prog 95 ⟨.struct [(0, 3), (1, 9), (2, 3), (3, 3), (4, 3), (5, 3), (6, 3), (7, 3), (8, 3), (9, 4)], 10, 88, true, [.int .i64 0, .string ⟨#[]⟩, .int .i64 0, .int .i64 0, .int .i64 0, .int .i64 0, .int .i64 0, .int .i64 0, .int .i64 0, .bool false], []⟩ := by
  have hu := Tryz.underlying95
  refine ⟨⟨Tryz.t95, by kernel_rfl, rfl, rfl, _, rfl, rfl⟩, ⟨rfl, rfl⟩, ⟨rfl, _, hu, rfl, fun f hf => by
    simp only [List.mem_toArray, List.mem_cons, List.not_mem_nil, or_false] at hf
    rcases hf with rfl | rfl | rfl | rfl | rfl | rfl | rfl | rfl | rfl | rfl
    all_goals first | exact ⟨_, (by kernel_rfl : Tryz.prog.info? 3 = some Tryz.t3), by decide⟩ | exact ⟨_, (by kernel_rfl : Tryz.prog.info? 4 = some Tryz.t4), by decide⟩ | exact ⟨_, (by kernel_rfl : Tryz.prog.info? 9 = some Tryz.t9), by decide⟩⟩, ?_⟩
  exact fun h => absurd rfl h
theorem tyok_131 : TyOk Tryz.prog 131 ⟨.slice 5, 1, 24, false, [.slice none 0 0], []⟩ := by
  have hu := Tryz.underlying131
  refine ⟨⟨Tryz.t131, by kernel_rfl, rfl, rfl, _, rfl, rfl⟩, ⟨rfl, rfl⟩, ⟨hu, rfl⟩, ?_⟩
  exact fun h => absurd rfl h
theorem ty_156 : ty 156 = some ⟨.slice 95, 1, 24, false, [.slice none 0 0], []⟩ := rfl
theorem tyok_156 : TyOk Tryz.prog 156 ⟨.slice 95, 1, 24, false, [.slice none 0 0], []⟩ := by
  have hu := Tryz.underlying156
  refine ⟨⟨Tryz.t156, by kernel_rfl, rfl, rfl, _, rfl, rfl⟩, ⟨rfl, rfl⟩, ⟨hu, rfl⟩, ?_⟩
  exact fun h => absurd rfl h
theorem ty_23 : ty 23 = some ⟨.arr 4 22, 4, 32, true, [.int .u64 0, .int .u64 0, .int .u64 0, .int .u64 0], [.int .u64, .int .u64, .int .u64, .int .u64]⟩ := rfl
theorem tyok_23 : TyOk Tryz.prog 23 ⟨.arr 4 22, 4, 32, true, [.int .u64 0, .int .u64 0, .int .u64 0, .int .u64 0], [.int .u64, .int .u64, .int .u64, .int .u64]⟩ := by
  have hu := Tryz.underlying23
  refine ⟨⟨Tryz.t23, by kernel_rfl, rfl, rfl, _, rfl, rfl⟩, ⟨rfl, rfl⟩, ⟨hu, rfl⟩, ?_⟩
  exact fun _ => ⟨by kernel_rfl, eq4_ok hu tyok_22.kind.1 tyok_22.run_size tyok_22.run_isAgg⟩
theorem ty_24 : ty 24 = some ⟨.arr 4 22, 4, 32, true, [.int .u64 0, .int .u64 0, .int .u64 0, .int .u64 0], [.int .u64, .int .u64, .int .u64, .int .u64]⟩ := rfl
theorem tyok_24 : TyOk Tryz.prog 24 ⟨.arr 4 22, 4, 32, true, [.int .u64 0, .int .u64 0, .int .u64 0, .int .u64 0], [.int .u64, .int .u64, .int .u64, .int .u64]⟩ := by
  have hu := Tryz.underlying24
  refine ⟨⟨Tryz.t24, by kernel_rfl, rfl, rfl, _, rfl, rfl⟩, ⟨rfl, rfl⟩, ⟨hu, rfl⟩, ?_⟩
  exact fun _ => ⟨by kernel_rfl, eq4_ok hu tyok_22.kind.1 tyok_22.run_size tyok_22.run_isAgg⟩
theorem ty_33 : ty 33 = some ⟨.struct [(0, 3), (1, 4), (2, 4), (3, 3), (4, 24)], 8, 56, true, [.int .i64 0, .bool false, .bool false, .int .i64 0, .int .u64 0, .int .u64 0, .int .u64 0, .int .u64 0], [.int .i64, .bool, .bool, .int .i64, .int .u64, .int .u64, .int .u64, .int .u64]⟩ := rfl
theorem tyok_33 : TyOk Tryz.prog 33 ⟨.struct [(0, 3), (1, 4), (2, 4), (3, 3), (4, 24)], 8, 56, true, [.int .i64 0, .bool false, .bool false, .int .i64 0, .int .u64 0, .int .u64 0, .int .u64 0, .int .u64 0], [.int .i64, .bool, .bool, .int .i64, .int .u64, .int .u64, .int .u64, .int .u64]⟩ := by
  have hu := Tryz.underlying33
  refine ⟨⟨Tryz.t33, by kernel_rfl, rfl, rfl, _, rfl, rfl⟩, ⟨rfl, rfl⟩, ⟨rfl, _, hu, rfl, fun f hf => by
    simp only [List.mem_toArray, List.mem_cons, List.not_mem_nil, or_false] at hf
    rcases hf with rfl | rfl | rfl | rfl | rfl
    all_goals first | exact ⟨_, (by kernel_rfl : Tryz.prog.info? 24 = some Tryz.t24), by decide⟩ | exact ⟨_, (by kernel_rfl : Tryz.prog.info? 3 = some Tryz.t3), by decide⟩ | exact ⟨_, (by kernel_rfl : Tryz.prog.info? 4 = some Tryz.t4), by decide⟩⟩, ?_⟩
  exact fun _ => ⟨by kernel_rfl, eqS_ok hu (by kernel_rfl) (FA_one (by decide) rfl ⟨tyok_3.kind.1, tyok_3.run_size, tyok_3.run_isAgg⟩ (FA_one (by decide) rfl ⟨tyok_4.kind.1, tyok_4.run_size, tyok_4.run_isAgg⟩ (FA_one (by decide) rfl ⟨tyok_4.kind.1, tyok_4.run_size, tyok_4.run_isAgg⟩ (FA_one (by decide) rfl ⟨tyok_3.kind.1, tyok_3.run_size, tyok_3.run_isAgg⟩ (FA_arr (by decide) rfl tyok_24.kind.1 tyok_22.kind.1 tyok_22.run_size tyok_22.run_isAgg tyok_24.run_size tyok_24.run_isAgg (FA_nil))))))⟩
theorem ty_44 : ty 44 = some ⟨.struct [(0, 3), (1, 4), (2, 4), (3, 9), (4, 3)], 5, 40, true, [.int .i64 0, .bool false, .bool false, .string ⟨#[]⟩, .int .i64 0], [.int .i64, .bool, .bool, .str, .int .i64]⟩ := rfl
theorem tyok_44 : TyOk Tryz.prog 44 ⟨.struct [(0, 3), (1, 4), (2, 4), (3, 9), (4, 3)], 5, 40, true, [.int .i64 0, .bool false, .bool false, .string ⟨#[]⟩, .int .i64 0], [.int .i64, .bool, .bool, .str, .int .i64]⟩ := by
  have hu := Tryz.underlying44
  refine ⟨⟨Tryz.t44, by kernel_rfl, rfl, rfl, _, rfl, rfl⟩, ⟨rfl, rfl⟩, ⟨rfl, _, hu, rfl, fun f hf => by
    simp only [List.mem_toArray, List.mem_cons, List.not_mem_nil, or_false] at hf
    rcases hf with rfl | rfl | rfl | rfl | rfl
    all_goals first | exact ⟨_, (by kernel_rfl : Tryz.prog.info? 3 = some Tryz.t3), by decide⟩ | exact ⟨_, (by kernel_rfl : Tryz.prog.info? 4 = some Tryz.t4), by decide⟩ | exact ⟨_, (by kernel_rfl : Tryz.prog.info? 9 = some Tryz.t9), by decide⟩⟩, ?_⟩
  exact fun _ => ⟨by kernel_rfl, eqS_ok hu (by kernel_rfl) (FA_one (by decide) rfl ⟨tyok_3.kind.1, tyok_3.run_size, tyok_3.run_isAgg⟩ (FA_one (by decide) rfl ⟨tyok_4.kind.1, tyok_4.run_size, tyok_4.run_isAgg⟩ (FA_one (by decide) rfl ⟨tyok_4.kind.1, tyok_4.run_size, tyok_4.run_isAgg⟩ (FA_one (by decide) rfl ⟨tyok_9.kind.1, tyok_9.run_size, tyok_9.run_isAgg⟩ (FA_one (by decide) rfl ⟨tyok_3.kind.1, tyok_3.run_size, tyok_3.run_isAgg⟩ (FA_nil))))))⟩
theorem tysOk : TysOk Tryz.prog ty := by
  intro t i h
  unfold ty at h
  split at h
  · cases h; exact tyok_2
  · cases h; exact tyok_3
  · cases h; exact tyok_4
  · cases h; exact tyok_5
  · cases h; exact tyok_9
  · cases h; exact tyok_22
  · cases h; exact tyok_26
  · cases h; exact tyok_42
  · cases h; exact tyok_50
  · cases h; exact tyok_58
  · cases h; exact tyok_62
  · cases h; exact tyok_68
  · cases h; exact tyok_70
  · cases h; exact tyok_72
  · cases h; exact tyok_75
  · cases h; exact tyok_95
  · cases h; exact tyok_131
  · cases h; exact tyok_156
  · cases h; exact tyok_23
  · cases h; exact tyok_24
  · cases h; exact tyok_33
  · cases h; exact tyok_44
  · cases h
end Go.Proofs.AMT
namespace Go.AM
variable [Lay]
variable {P : Program}
def sF64bits : Cs := fun ds => match ds with
  | [.v (.float .f64 b)] => some (True, .one (.v (.int .u64 b)))
  | _ => none
def sF32bits : Cs := fun ds => match ds with
  | [.v (.float .f32 b)] => some (True, .one (.v (.int .u32 b)))
  | _ => none
def sF32from : Cs := fun ds => match ds with
  | [.v (.int .u32 n)] => some (True, .one (.v (.float .f32 n.toNat)))
  | _ => none
def sAdd64 : Cs := fun ds => match ds with
  | [.v (.int .u64 x), .v (.int .u64 y), .v (.int .u64 c)] => some (0 ≤ x ∧ 0 ≤ y ∧ 0 ≤ c ∧ c ≤ 1, .many [.v (.int .u64 ((x + y + c) % 18446744073709551616)), .v (.int .u64 ((x + y + c) / 18446744073709551616))])
  | _ => none
def sSub64 : Cs := fun ds => match ds with
  | [.v (.int .u64 x), .v (.int .u64 y), .v (.int .u64 c)] => some (0 ≤ x ∧ x < 18446744073709551616 ∧ 0 ≤ y ∧ y < 18446744073709551616 ∧ 0 ≤ c ∧ c ≤ 1, .many [.v (.int .u64 ((x - y - c) % 18446744073709551616)), .v (.int .u64 (if x < y + c then 1 else 0))])
  | _ => none
def sAdd64B : Cs := fun ds => match ds with
  | [.v (.int .u64 x), .v (.int .u64 y), .v (.int .u64 c)] => if 0 ≤ x ∧ 0 ≤ y ∧ 0 ≤ c ∧ c ≤ 1 then some (True, .many [.v (.int .u64 ((x + y + c) % 18446744073709551616)), .v (.int .u64 ((x + y + c) / 18446744073709551616))]) else none
  | _ => none
def sSub64B : Cs := fun ds => match ds with
  | [.v (.int .u64 x), .v (.int .u64 y), .v (.int .u64 c)] => if 0 ≤ x ∧ x < 18446744073709551616 ∧ 0 ≤ y ∧ y < 18446744073709551616 ∧ 0 ≤ c ∧ c ≤ 1 then some (True, .many [.v (.int .u64 ((x - y - c) % 18446744073709551616)), .v (.int .u64 (if x < y + c then 1 else 0))]) else none
  | _ => none
theorem RepDs.v1 {w : World} {x : Value} {vs : List Value} (h : RepDs w [.v x] vs) : vs = [x] := by
  match vs, h with
  | [v], ⟨h1, _⟩ => exact congrArg (fun z => [z]) h1
theorem RepDs.v3 {w : World} {x y z : Value} {vs : List Value} (h : RepDs w [.v x, .v y, .v z] vs) : vs = [x, y, z] := by
  match vs, h with
  | [v1, v2, v3], ⟨h1, h2, h3, _⟩ =>
    have e1 : v1 = x := h1
    have e2 : v2 = y := h2
    have e3 : v3 = z := h3
    rw [e1, e2, e3]
section
variable {f : Nat} {fn : Func} {e : Array Value → Sem Value}
theorem ext1 (hf : P.funcs[f]? = some fn) (hname : (fn.name == "runtime.NumGoroutine") = false) (hb : fn.body.isNone = true) (hn : Extern.findNext fn = none) (he : Extern.find fn = some e) {spec : Cs}
    (H : ∀ ds p r, spec ds = some (p, r) → p → ∃ x y, ds = [.v x] ∧ r = .one (.v y) ∧ ∀ w, (e #[x]).run P w = .ok y w) : Sound P f .ext spec := by
  intro ds p r hs hp w vs hr
  obtain ⟨x, y, rfl, rfl, h⟩ := H ds p r hs hp
  obtain rfl := hr.v1
  refine ⟨y, ?_, rfl, trivial⟩
  rw [run_callFunc_extern hf hname hb hn he]
  have := h w
  simp only [List.toArray] at this ⊢
  simp [this]
theorem ext3 (hf : P.funcs[f]? = some fn) (hname : (fn.name == "runtime.NumGoroutine") = false) (hb : fn.body.isNone = true) (hn : Extern.findNext fn = none) (he : Extern.find fn = some e) {spec : Cs}
    (H : ∀ ds p r, spec ds = some (p, r) → p → ∃ x y z u v, ds = [.v x, .v y, .v z] ∧ r = .many [.v u, .v v] ∧ ∀ w, (e #[x, y, z]).run P w = .ok (.tuple #[u, v]) w) : Sound P f .ext spec := by
  intro ds p r hs hp w vs hr
  obtain ⟨x, y, z, u, v, rfl, rfl, h⟩ := H ds p r hs hp
  obtain rfl := hr.v3
  refine ⟨.tuple #[u, v], ?_, ⟨[u, v], rfl, ⟨rfl, rfl, trivial⟩, by simp [freshBs]⟩, fun r hr => by
    simp only [List.mem_cons, List.not_mem_nil, or_false] at hr
    rcases hr with rfl | rfl
    · exact ⟨u, rfl⟩
    · exact ⟨v, rfl⟩⟩
  rw [run_callFunc_extern hf hname hb hn he]
  have := h w
  simp [this]
end
def sub64Entry : Array Value → Sem Value := fun args => do
  let (x, y, b) ← Extern.MathBitsCarry.three "Sub64" args
  pure (Extern.MathBitsCarry.pair ((x + Extern.MathBitsCarry.m64 - y - b) % Extern.MathBitsCarry.m64) (if x < y + b then 1 else 0))
theorem run_sub64 {P : Program} (x y c : Int) (hx : 0 ≤ x) (hx1 : x < 18446744073709551616) (hy : 0 ≤ y) (hy1 : y < 18446744073709551616) (hc0 : 0 ≤ c) (hc : c ≤ 1) (w : World) :
    (sub64Entry #[.int .u64 x, .int .u64 y, .int .u64 c]).run P w =
      .ok (.tuple #[.int .u64 ((x - y - c) % 18446744073709551616), .int .u64 (if x < y + c then 1 else 0)]) w := by
  have key : ∀ k : Nat, k ≤ 1 → (sub64Entry #[.int .u64 x, .int .u64 y, .int .u64 (k : Int)]).run P w =
      .ok (Extern.MathBitsCarry.pair ((x.toNat + Extern.MathBitsCarry.m64 - y.toNat - k) % Extern.MathBitsCarry.m64) (if x.toNat < y.toNat + k then 1 else 0)) w := by
    intro k hk
    have : k = 0 ∨ k = 1 := by omega
    rcases this with rfl | rfl <;> rfl
  obtain ⟨k, rfl⟩ := Int.eq_ofNat_of_zero_le hc0
  rw [key k (by omega)]
  obtain ⟨X, rfl⟩ := Int.eq_ofNat_of_zero_le hx
  obtain ⟨Y, rfl⟩ := Int.eq_ofNat_of_zero_le hy
  simp only [Extern.MathBitsCarry.pair, Extern.MathBitsCarry.m64, Int.toNat_natCast]
  have h1 : Int.ofNat ((X + 2 ^ 64 - Y - k) % 2 ^ 64) = ((X : Int) - Y - k) % 18446744073709551616 := by
    have : ((X + 2 ^ 64 - Y - k : Nat) : Int) = X - Y - k + 18446744073709551616 := by omega
    show ((((X + 2 ^ 64 - Y - k) % 2 ^ 64 : Nat)) : Int) = _
    rw [Int.natCast_emod, this]
    show ((X : Int) - Y - k + 18446744073709551616) % 18446744073709551616 = _
    omega
  have h2 : Int.ofNat (if X < Y + k then 1 else 0) = if (X : Int) < Y + k then 1 else 0 := by
    by_cases h : X < Y + k
    · rw [if_pos h, if_pos (by omega)]; rfl
    · rw [if_neg h, if_neg (by omega)]; rfl
  rw [h1, h2]
section
variable {f : Nat} {fn : Func}
theorem sound_f64bits (hf : P.funcs[f]? = some fn) (hname : (fn.name == "runtime.NumGoroutine") = false) (hb : fn.body.isNone = true) (hn : Extern.findNext fn = none) (he : Extern.find fn = some Extern.MathFloatBits.float64bits) : Sound P f .ext sF64bits :=
  ext1 hf hname hb hn he fun ds p r hs hp => by
    unfold sF64bits at hs
    split at hs
    · cases hs; exact ⟨_, _, rfl, rfl, fun w => rfl⟩
    · cases hs
theorem sound_f32bits (hf : P.funcs[f]? = some fn) (hname : (fn.name == "runtime.NumGoroutine") = false) (hb : fn.body.isNone = true) (hn : Extern.findNext fn = none) (he : Extern.find fn = some Extern.MathFloatBits.float32bits) : Sound P f .ext sF32bits :=
  ext1 hf hname hb hn he fun ds p r hs hp => by
    unfold sF32bits at hs
    split at hs
    · cases hs; exact ⟨_, _, rfl, rfl, fun w => rfl⟩
    · cases hs
theorem sound_f32from (hf : P.funcs[f]? = some fn) (hname : (fn.name == "runtime.NumGoroutine") = false) (hb : fn.body.isNone = true) (hn : Extern.findNext fn = none) (he : Extern.find fn = some Extern.MathFloatBits.float32frombits) : Sound P f .ext sF32from :=
  ext1 hf hname hb hn he fun ds p r hs hp => by
    unfold sF32from at hs
    split at hs
    · cases hs; exact ⟨_, _, rfl, rfl, fun w => rfl⟩
    · cases hs
theorem sound_add64 (hf : P.funcs[f]? = some fn) (hname : (fn.name == "runtime.NumGoroutine") = false) (hb : fn.body.isNone = true) (hn : Extern.findNext fn = none) (he : Extern.find fn = some add64Entry) : Sound P f .ext sAdd64 :=
  ext3 hf hname hb hn he fun ds p r hs hp => by
    unfold sAdd64 at hs
    split at hs
    · cases hs
      obtain ⟨h1, h2, h3, h4⟩ := hp
      exact ⟨_, _, _, _, _, rfl, rfl, fun w => run_add64 _ _ _ h1 h2 h3 h4 w⟩
    · cases hs
theorem sound_sub64 (hf : P.funcs[f]? = some fn) (hname : (fn.name == "runtime.NumGoroutine") = false) (hb : fn.body.isNone = true) (hn : Extern.findNext fn = none) (he : Extern.find fn = some sub64Entry) : Sound P f .ext sSub64 :=
  ext3 hf hname hb hn he fun ds p r hs hp => by
    unfold sSub64 at hs
    split at hs
    · cases hs
      obtain ⟨h1, h2, h3, h4, h5, h6⟩ := hp
      exact ⟨_, _, _, _, _, rfl, rfl, fun w => run_sub64 _ _ _ h1 h2 h3 h4 h5 h6 w⟩
    · cases hs
end
theorem sound_weaken {f : Nat} {fk : Fk} {spec spec' : Cs} (h : Sound P f fk spec) (hs : ∀ ds p r, spec' ds = some (p, r) → p → ∃ q, spec ds = some (q, r) ∧ q) : Sound P f fk spec' := by
  cases fk with
  | body =>
    obtain ⟨fn, h1, h2, h3, h4⟩ := h
    refine ⟨fn, h1, h2, h3, fun ds p r h5 h6 => ?_⟩
    obtain ⟨q, h7, h8⟩ := hs ds p r h5 h6
    exact h4 ds q r h7 h8
  | ext =>
    intro ds p r h5 h6
    obtain ⟨q, h7, h8⟩ := hs ds p r h5 h6
    exact h ds q r h7 h8
theorem sound_add64B {f : Nat} (h : Sound P f .ext sAdd64) : Sound P f .ext sAdd64B := sound_weaken h fun ds p r hs hp => by
  unfold sAdd64B at hs
  split at hs
  · split at hs
    · rename_i hc; cases hs; exact ⟨_, rfl, hc⟩
    · cases hs
  · cases hs
theorem sound_sub64B {f : Nat} (h : Sound P f .ext sSub64) : Sound P f .ext sSub64B := sound_weaken h fun ds p r hs hp => by
  unfold sSub64B at hs
  split at hs
  · split at hs
    · rename_i hc; cases hs; exact ⟨_, rfl, hc⟩
    · cases hs
  · cases hs
theorem sF64bits_free {ds : List DV} {p : Prop} {r : Res} (h : sF64bits ds = some (p, r)) : p := by
  unfold sF64bits at h
  split at h <;> cases h
  trivial
theorem sF32bits_free {ds : List DV} {p : Prop} {r : Res} (h : sF32bits ds = some (p, r)) : p := by
  unfold sF32bits at h
  split at h <;> cases h
  trivial
theorem sF32from_free {ds : List DV} {p : Prop} {r : Res} (h : sF32from ds = some (p, r)) : p := by
  unfold sF32from at h
  split at h <;> cases h
  trivial
theorem sAdd64B_free {ds : List DV} {p : Prop} {r : Res} (h : sAdd64B ds = some (p, r)) : p := by
  unfold sAdd64B at h
  split at h
  · split at h <;> cases h
    trivial
  · cases h
theorem sSub64B_free {ds : List DV} {p : Prop} {r : Res} (h : sSub64B ds = some (p, r)) : p := by
  unfold sSub64B at h
  split at h
  · split at h <;> cases h
    trivial
  · cases h
end Go.AM
set_option maxRecDepth 20000
namespace Go.Proofs.AMT
open Go.AM
open Go.RowKit (Below)
def sClone : Cs := fun ds => match ds with
  | [.sl .u64 l] => some (l.length ≤ 100000000, .one (.fresh .u64 l))
  | [.v (.slice none 0 0)] => some (True, .one (.fresh .u64 []))
  | _ => none
def sCloneB : Cs := fun ds => match ds with
  | [.sl .u64 l] => if l.length ≤ 100000000 then some (True, .one (.fresh .u64 l)) else none
  | [.v (.slice none 0 0)] => some (True, .one (.fresh .u64 []))
  | _ => none
theorem wpList_app_run {P : Program} {w w' : World} {ops : Array Oper} {rest : List Oper} {o : Oper} {a : Act} {Q : Exit → Act → World → Prop} (hgd : o.guard = none) (x y : Operand) (t : TypeId)
    (ho : o.op = .call { callee := .builtin .append, args := #[x, y], argTypes := #[t, t] }) {v : Value}
    (h : (Builtin.append_ #[t, t] o.type #[a.eval x, a.eval y]).run P w = .ok v w') (h2 : wpList P ops Q rest (a.put o.dst v) w') : wpList P ops Q (o :: rest) a w := by
  refine wpList_plain hgd fun K hK => ?_
  unfold Oper.wp execOp
  simp only [ho, resolve, invoke, builtin, Sem.run_bind, Sem.run_pure, Result.andThen_ok, List.map_toArray, List.map_cons, List.map_nil, h]
  exact hK _ _ h2
theorem clone_nil (w : World) (n c : Nat) : Calls Tryz.prog 192 #[.slice none n c] w fun e w' => e = .returned (.slice none 0 0) ∧ w' = w := by
  have q42 : ∀ (w : World) (a : Option Addr) (n c n' c' : Nat), (binOp .eql 50 (.slice a n c) (.slice none n' c')).run Tryz.prog w = .ok (.bool a.isNone) w := fun w a n c n' c' => Lib.run_eql_slice_nil w _ _ a n c n' c' Tryz.underlying50
  go_enter Tryz.func192, Tryz.ntmps192
  go_wp2
  go_ret
  exact ⟨rfl, rfl⟩
theorem clone_some (w : World) (ad : Addr) (n c : Nat) {v : Value} {w' : World} (hrun : (Builtin.append_ #[50, 50] 50 #[.slice (some ⟨w.heap.size, 0, none⟩) 0 0, .slice (some ad) n c]).run Tryz.prog (w.alloc (Obj.cells #[] 22)) = .ok v w') :
    Calls Tryz.prog 192 #[.slice (some ad) n c] w fun e w2 => e = .returned v ∧ w2 = w' := by
  have q42 : ∀ (w : World) (a : Option Addr) (n c n' c' : Nat), (binOp .eql 50 (.slice a n c) (.slice none n' c')).run Tryz.prog w = .ok (.bool a.isNone) w := fun w a n c n' c' => Lib.run_eql_slice_nil w _ _ a n c n' c' Tryz.underlying50
  go_enter Tryz.func192, Tryz.ntmps192
  go_wp2_with (at_builtin; refine wpList_app_run rfl _ _ 50 rfl hrun ?_)
  go_ret
  exact ⟨rfl, rfl⟩
theorem clone_sound : Sound Tryz.prog 192 .body sClone := by
  refine ⟨Tryz.f192, Tryz.func192, by kernel_rfl, by kernel_rfl, fun ds p r hs hp w vs _ hrep => ?_⟩
  have hi : Tryz.prog.info? 22 = some Tryz.t22 := by kernel_rfl
  have nilCase : ∀ (l : List Int) (n c : Nat), l = [] → vs = [.slice none n c] → Calls Tryz.prog 192 vs.toArray w (fun e w' => ∃ v, e = .returned v ∧ Below w.heap.size w w' ∧ RepRes w w' vs (.one (.fresh .u64 l)) v) := by
    rintro l n c rfl rfl
    refine (clone_nil w n c).mono fun e w' ⟨he, hw⟩ => ?_
    subst hw
    exact ⟨_, he, Below.refl _ _, .inl ⟨rfl, rfl⟩⟩
  unfold sClone at hs
  split at hs
  · rename_i l
    cases hs
    match vs, hrep with
    | [v], ⟨⟨A, cap, hv, h1, h2, h3⟩, _⟩ =>
    subst hv
    cases A with
    | none =>
      have hl : l = [] := Classical.byContradiction fun hne => by obtain ⟨ad, h4, _⟩ := h3 hne; cases h4
      subst hl
      exact nilCase [] 0 cap rfl rfl
    | some ad =>
      by_cases hl : l = []
      · subst hl
        refine (clone_some w ad 0 cap (run_app_zero _ 50 50 22 Tryz.t22 Tryz.underlying50 hi (by kernel_rfl) _ _ 0 0 cap (Nat.le_refl _))).mono fun e w' ⟨he, hw⟩ => ?_
        subst hw
        exact ⟨_, he, (Below.refl _ w).alloc (Nat.le_refl _) _, .inr ⟨w.heap.size, 0, #[], 22, [], rfl, Nat.le_refl _, ⟨Nat.zero_le _, Nat.zero_le _⟩, Nat.le_refl _, heap_alloc_new w _, rfl⟩⟩
      · obtain ⟨ad', h4, h5⟩ := h3 hl
        cases h4
        have hpos : 0 < l.length := List.length_pos_iff.2 hl
        have hb : Tryz.t22.bytes = 8 := by kernel_rfl
        have hz1 : Tryz.t22.size = 1 := by kernel_rfl
        have hg : grownCap (w.alloc (Obj.cells #[] 22)) l.length 0 22 ≤ maxLen := grownCap_le_maxLen _ _ _ _ (by simp only [maxLen]; omega)
        have hg2 := grownCap_ge (w.alloc (Obj.cells #[] 22)) l.length 0 22
        have hrun := run_append_grow (P := Tryz.prog) (w.alloc (Obj.cells #[] 22)) 50 50 22 Tryz.t22 (.int .u64 0) Tryz.underlying50 hi (by kernel_rfl) ⟨w.heap.size, 0, none⟩ 0 0 [] (by simp) (by intro j v h; simp at h) ad l.length cap (l.map (.int .u64)) (by simp [hz1]) (by
          intro j u hj
          obtain ⟨hj1, hj2⟩ := List.getElem?_eq_some_iff.1 hj
          simp only [List.length_map] at hj1
          rw [Lib.cell?_alloc_some _ (h5 j hj1)]
          simp at hj2
          rw [← hj2, List.getD, List.getElem?_eq_getElem hj1]
          rfl) (by omega) (by omega) (by rw [hb, show 0 + l.length = l.length by omega, nextslicecap_zero hpos]; omega)
        simp only [Nat.zero_add] at hrun
        refine (clone_some w ad l.length cap hrun).mono fun e w' ⟨he, hw⟩ => ?_
        subst hw
        have hlen : (w.alloc (Obj.cells #[] 22)).drew.heap.size = w.heap.size + 1 := by simp
        refine ⟨_, he, ?_, .inr ⟨w.heap.size + 1, grownCap (w.alloc (Obj.cells #[] 22)) l.length 0 22, _, 22, _, by simp, hg2, ⟨hg, ?_⟩, by omega, by rw [← hlen]; exact heap_alloc_new _ _, by simp; rfl⟩⟩
        · exact (((Below.refl _ w).alloc (Nat.le_refl _) _).drew).alloc (by simp) _
        · have hz : (Value.int IntKind.u64 0).cells.size = 1 := rfl
          simp [size_zc, hz]
          omega
  · cases hs
    match vs, hrep with
    | [v], ⟨hv, _⟩ => exact nilCase [] 0 0 rfl (by rw [show v = .slice none 0 0 from hv])
  · cases hs
theorem clone_soundB : Sound Tryz.prog 192 .body sCloneB := sound_weaken clone_sound fun ds p r h1 h2 => by
  unfold sCloneB at h1
  split at h1
  · split at h1
    · rename_i h; cases h1; exact ⟨_, rfl, h⟩
    · cases h1
  · cases h1; exact ⟨True, rfl, trivial⟩
  · cases h1
theorem sCloneB_free {ds : List DV} {p : Prop} {r : Res} (h : sCloneB ds = some (p, r)) : p := by
  unfold sCloneB at h
  split at h
  · split at h
    · cases h; trivial
    · cases h
  · cases h; trivial
  · cases h
end Go.Proofs.AMT
set_option maxRecDepth 20000
namespace Go.Proofs.AMT
open Go.AM
theorem ext_221 : Sound Tryz.prog 221 .ext sF32from := sound_f32from Tryz.func221 (by kernel_rfl) (by kernel_rfl) (by kernel_rfl) (by kernel_rfl)
theorem ext_51 : Sound Tryz.prog 51 .ext sF64bits := sound_f64bits Tryz.func51 (by kernel_rfl) (by kernel_rfl) (by kernel_rfl) (by kernel_rfl)
theorem ext_50 : Sound Tryz.prog 50 .ext sF32bits := sound_f32bits Tryz.func50 (by kernel_rfl) (by kernel_rfl) (by kernel_rfl) (by kernel_rfl)
theorem ext_153 : Sound Tryz.prog 153 .ext sSub64 := sound_sub64 Tryz.func153 (by kernel_rfl) (by kernel_rfl) (by kernel_rfl) (by kernel_rfl)
theorem ext_107 : Sound Tryz.prog 107 .ext sAdd64 := sound_add64 Tryz.func107 (by kernel_rfl) (by kernel_rfl) (by kernel_rfl) (by kernel_rfl)
def extB : Gam := [(221, .ext, sF32from), (51, .ext, sF64bits), (50, .ext, sF32bits), (153, .ext, sSub64B), (107, .ext, sAdd64B), (192, .body, sCloneB)]
theorem extB_ok : Gk Tryz.prog extB := by
  intro f fk spec h
  have h := lk_mem h
  simp only [extB, List.mem_cons, Prod.mk.injEq, List.not_mem_nil, or_false] at h
  rcases h with ⟨rfl, rfl, rfl⟩ | ⟨rfl, rfl, rfl⟩ | ⟨rfl, rfl, rfl⟩ | ⟨rfl, rfl, rfl⟩ | ⟨rfl, rfl, rfl⟩ | ⟨rfl, rfl, rfl⟩
  · exact ext_221
  · exact ext_51
  · exact ext_50
  · exact sound_sub64B ext_153
  · exact sound_add64B ext_107
  · exact clone_soundB
theorem extB_free : Free extB := by
  intro f fk spec ds p r h hs
  have h := lk_mem h
  simp only [extB, List.mem_cons, Prod.mk.injEq, List.not_mem_nil, or_false] at h
  rcases h with ⟨rfl, rfl, rfl⟩ | ⟨rfl, rfl, rfl⟩ | ⟨rfl, rfl, rfl⟩ | ⟨rfl, rfl, rfl⟩ | ⟨rfl, rfl, rfl⟩ | ⟨rfl, rfl, rfl⟩
  · exact sF32from_free hs
  · exact sF64bits_free hs
  · exact sF32bits_free hs
  · exact sSub64B_free hs
  · exact sAdd64B_free hs
  · exact sCloneB_free hs
noncomputable def bodies : Bodies := [(74, Tryz.f74), (135, Tryz.f135), (194, Tryz.f194), (195, Tryz.f195), (46, Tryz.f46)]
theorem bodies_ok : BodiesOk Tryz.prog bodies := by
  intro p h
  simp only [bodies, List.mem_cons, List.not_mem_nil, or_false] at h
  rcases h with rfl | rfl | rfl | rfl | rfl
  · exact ⟨Tryz.func74, by kernel_rfl, dstsB_ok (by kernel_rfl)⟩
  · exact ⟨Tryz.func135, by kernel_rfl, dstsB_ok (by kernel_rfl)⟩
  · exact ⟨Tryz.func194, by kernel_rfl, dstsB_ok (by kernel_rfl)⟩
  · exact ⟨Tryz.func195, by kernel_rfl, dstsB_ok (by kernel_rfl)⟩
  · exact ⟨Tryz.func46, by kernel_rfl, dstsB_ok (by kernel_rfl)⟩
theorem bodies_some : ∀ p ∈ bodies, p.2.body.isSome = true := by
  intro p h
  simp only [bodies, List.mem_cons, List.not_mem_nil, or_false] at h
  rcases h with rfl | rfl | rfl | rfl | rfl <;> rfl
end Go.Proofs.AMT
namespace Go.AM.LN
def val : List Int → Nat
  | [] => 0
  | x :: r => x.toNat + 18446744073709551616 * val r
def lim (a : List Int) : Prop := ∀ x ∈ a, 0 ≤ x ∧ x < 18446744073709551616
def sz : List Int → Nat
  | [] => 0
  | x :: r => if sz r = 0 then (if x = 0 then 0 else 1) else sz r + 1
def limbsF : Nat → Nat → List Int
  | 0, _ => []
  | k + 1, n => if n = 0 then [] else ((n % 18446744073709551616 : Nat) : Int) :: limbsF k (n / 18446744073709551616)
def limbs (n : Nat) : List Int := limbsF n n
def blen (n : Nat) : Nat := if n = 0 then 0 else n.log2 + 1

theorem limbsF_eq : ∀ (k n : Nat), n ≤ k → limbsF k n = limbs n := by
  have key : ∀ (k j n : Nat), n ≤ k → n ≤ j → limbsF k n = limbsF j n := by
    intro k
    induction k with
    | zero => intro j n h _; have : n = 0 := by omega
              subst this; cases j <;> simp [limbsF]
    | succ k ih =>
      intro j n h hj
      cases j with
      | zero => have : n = 0 := by omega
                subst this; simp [limbsF]
      | succ j =>
        simp only [limbsF]
        split
        · rfl
        · rw [ih j _ (by omega) (by omega)]
  intro k n h
  exact key k n n h (Nat.le_refl _)
theorem limbs_zero : limbs 0 = [] := rfl
theorem limbs_pos {n : Nat} (h : n ≠ 0) : limbs n = ((n % 18446744073709551616 : Nat) : Int) :: limbs (n / 18446744073709551616) := by
  obtain ⟨m, rfl⟩ : ∃ m, n = m + 1 := ⟨n - 1, by omega⟩
  show limbsF (m + 1) (m + 1) = _
  simp only [limbsF, h, if_false]
  rw [limbsF_eq _ _ (by omega)]
theorem Vl : ∀ n : Nat, val (limbs n) = n := by
  intro n
  induction n using Nat.strongRecOn with
  | _ n ih =>
    by_cases h : n = 0
    · subst h; rfl
    · rw [limbs_pos h, val, ih _ (by omega)]
      omega
theorem Ml : ∀ n : Nat, lim (limbs n) := by
  intro n
  induction n using Nat.strongRecOn with
  | _ n ih =>
    by_cases h : n = 0
    · subst h; intro x hx; cases hx
    · rw [limbs_pos h]
      intro x hx
      rcases List.mem_cons.1 hx with rfl | hx
      · omega
      · exact ih _ (by omega) x hx
theorem lim_cons {x : Int} {r : List Int} : lim (x :: r) ↔ (0 ≤ x ∧ x < 18446744073709551616) ∧ lim r := by
  simp [lim]
theorem lim_app {a b : List Int} : lim (a ++ b) ↔ lim a ∧ lim b := by
  simp only [lim, List.mem_append]
  exact ⟨fun h => ⟨fun x hx => h x (.inl hx), fun x hx => h x (.inr hx)⟩, fun h x hx => hx.elim (h.1 x) (h.2 x)⟩
theorem lim_take {a : List Int} (h : lim a) (n : Nat) : lim (a.take n) := fun x hx => h x (List.mem_of_mem_take hx)
theorem lim_drop {a : List Int} (h : lim a) (n : Nat) : lim (a.drop n) := fun x hx => h x (List.mem_of_mem_drop hx)
theorem lim_rep (n : Nat) : lim (List.replicate n 0) := fun x hx => by
  have := List.eq_of_mem_replicate hx; omega
theorem Mg {a : List Int} (h : lim a) {i : Nat} : 0 ≤ a.getD i 0 ∧ a.getD i 0 < 18446744073709551616 := by
  by_cases hi : i < a.length
  · have : a.getD i 0 = a[i] := by simp [List.getD, List.getElem?_eq_getElem hi]
    rw [this]; exact h _ (List.getElem_mem hi)
  · have : a.getD i 0 = 0 := by simp [List.getD, List.getElem?_eq_none (by omega : a.length ≤ i)]
    rw [this]; omega
theorem lim_set {a : List Int} (h : lim a) {x : Int} (hx : 0 ≤ x ∧ x < 18446744073709551616) (i : Nat) : lim (a.set i x) := by
  intro y hy
  rcases List.mem_or_eq_of_mem_set hy with h1 | rfl
  · exact h y h1
  · exact hx
theorem p64 (n : Nat) : (2:Nat) ^ (64 * (n + 1)) = 18446744073709551616 * 2 ^ (64 * n) := by
  rw [show 64 * (n + 1) = 64 + 64 * n by omega, Nat.pow_add]
theorem val_app : ∀ (a b : List Int), val (a ++ b) = val a + 2 ^ (64 * a.length) * val b
  | [], b => by simp [val]
  | x :: r, b => by
    simp only [List.cons_append, val, List.length_cons, val_app r b, p64]
    rw [Nat.mul_add, Nat.mul_assoc]
    omega
theorem val_lt : ∀ {a : List Int}, lim a → val a < 2 ^ (64 * a.length)
  | [], _ => by simp [val]
  | x :: r, h => by
    rw [lim_cons] at h
    have := val_lt h.2
    simp only [val, List.length_cons, p64]
    omega
theorem val_rep : ∀ n : Nat, val (List.replicate n 0) = 0
  | 0 => rfl
  | n + 1 => by simp [List.replicate_succ, val, val_rep n]
theorem sz_le : ∀ a : List Int, sz a ≤ a.length
  | [] => Nat.le_refl _
  | x :: r => by
    have := sz_le r
    simp only [sz, List.length_cons]
    split
    · split <;> omega
    · omega
theorem sz_zero : ∀ {a : List Int}, lim a → (sz a = 0 ↔ val a = 0)
  | [], _ => by simp [sz, val]
  | x :: r, h => by
    rw [lim_cons] at h
    have := sz_zero h.2
    simp only [sz, val]
    split
    · split <;> omega
    · omega
theorem Ts : ∀ {a : List Int}, lim a → a.take (sz a) = limbs (val a)
  | [], _ => rfl
  | x :: r, h => by
    rw [lim_cons] at h
    have h1 := sz_zero h.2
    have h2 := Ts h.2
    simp only [sz, val]
    split
    · rename_i h0
      have hv := h1.1 h0
      rw [hv]
      split
      · rename_i hx; subst hx; rfl
      · rename_i hx
        rw [limbs_pos (by omega)]
        have e1 : (x.toNat + 18446744073709551616 * 0) / 18446744073709551616 = 0 := by omega
        rw [e1, limbs_zero]
        simp
        omega
    · rename_i h0
      rw [limbs_pos (by omega)]
      have e1 : (x.toNat + 18446744073709551616 * val r) / 18446744073709551616 = val r := by omega
      rw [e1, List.take_succ_cons, h2]
      congr 1
      omega
theorem sz_limbs : ∀ n : Nat, sz (limbs n) = (limbs n).length := by
  intro n
  induction n using Nat.strongRecOn with
  | _ n ih =>
    by_cases h : n = 0
    · subst h; rfl
    · rw [limbs_pos h]
      have := ih (n / 18446744073709551616) (by omega)
      have h1 := sz_zero (Ml (n / 18446744073709551616))
      rw [Vl] at h1
      simp only [sz, List.length_cons]
      split
      · rename_i h0
        have := h1.1 h0
        split
        · omega
        · rw [this, limbs_zero]; rfl
      · omega
theorem Lz {a : List Int} (h : lim a) : (limbs (val a)).length = sz a := by
  rw [← Ts h, List.length_take]; have := sz_le a; omega
theorem limbs_of_lt {n : Nat} (h0 : n ≠ 0) (h : n < 18446744073709551616) : limbs n = [(n : Int)] := by
  rw [limbs_pos h0, Nat.mod_eq_of_lt h, Nat.div_eq_of_lt h, limbs_zero]
theorem sz_eq {a : List Int} (n : Nat) (hn : n ≤ a.length) (h0 : ∀ i, n ≤ i → a.getD i 0 = 0) (h1 : n = 0 ∨ a.getD (n - 1) 0 ≠ 0) : sz a = n := by
  induction a generalizing n with
  | nil => simp at hn; simp [sz, hn]
  | cons x r ih =>
    cases n with
    | zero =>
      have := ih 0 (Nat.zero_le _) (fun i _ => by simpa using h0 (i + 1) (by omega)) (.inl rfl)
      have hx := h0 0 (by omega)
      simp at hx
      simp [sz, this, hx]
    | succ n =>
      have h2 : n = 0 ∨ r.getD (n - 1) 0 ≠ 0 := by
        cases n with
        | zero => exact .inl rfl
        | succ n => right; rcases h1 with h1 | h1; omega
                    simpa using h1
      have := ih n (by simpa using hn) (fun i hi => by simpa using h0 (i + 1) (by omega)) h2
      simp only [sz, this]
      split
      · rename_i hz; subst hz
        rcases h1 with h1 | h1
        · omega
        · simp at h1; simp [h1]
      · rfl
theorem sz_top {a : List Int} (h : sz a ≠ 0) : a.getD (sz a - 1) 0 ≠ 0 := by
  induction a with
  | nil => simp [sz] at h
  | cons x r ih =>
    simp only [sz] at h ⊢
    split
    · rename_i h0
      rw [if_pos h0] at h
      split
      · rename_i hx; rw [if_pos hx] at h; exact absurd rfl h
      · rename_i hx; simpa using hx
    · rename_i h0
      have := ih h0
      rw [show sz r + 1 - 1 = (sz r - 1) + 1 by omega]
      simpa using this
theorem blen_lt {n k : Nat} : blen n ≤ k ↔ n < 2 ^ k := by
  unfold blen
  split
  · rename_i h; subst h; exact ⟨fun _ => Nat.two_pow_pos k, fun _ => Nat.zero_le _⟩
  · rename_i h
    rw [← Nat.log2_lt h]
    omega
theorem blen_le {n k : Nat} : k < blen n ↔ 2 ^ k ≤ n := by
  have := @blen_lt n k
  omega
theorem blen_zero {n : Nat} : blen n = 0 ↔ n = 0 := by
  have := @blen_lt n 0
  omega
theorem blen_eq {n k : Nat} (h1 : 2 ^ k ≤ n) (h2 : n < 2 ^ (k + 1)) : blen n = k + 1 := by
  have a := blen_le.2 h1
  have b := blen_lt.2 h2
  omega
theorem blen_mul {n : Nat} (h : n ≠ 0) (k : Nat) : blen (n * 2 ^ k) = blen n + k := by
  obtain ⟨j, hj⟩ : ∃ j, blen n = j + 1 := ⟨blen n - 1, by have := @blen_zero n; omega⟩
  have h1 : 2 ^ j ≤ n := blen_le.1 (by omega)
  have h2 : n < 2 ^ (j + 1) := blen_lt.1 (by omega)
  rw [blen_eq (k := j + k), hj]
  · omega
  · rw [Nat.pow_add]; exact Nat.mul_le_mul_right _ h1
  · rw [show j + k + 1 = (j + 1) + k by omega, Nat.pow_add]
    exact Nat.mul_lt_mul_of_pos_right h2 (Nat.two_pow_pos k)
theorem blen_mono {m n : Nat} (h : m ≤ n) : blen m ≤ blen n := by
  rw [blen_lt]; exact Nat.lt_of_le_of_lt h (blen_lt.1 (Nat.le_refl _))
theorem len_limbs (n : Nat) : (limbs n).length = (blen n + 63) / 64 := by
  induction n using Nat.strongRecOn with
  | _ n ih =>
    by_cases h : n = 0
    · subst h; rfl
    · rw [limbs_pos h, List.length_cons, ih _ (by omega)]
      by_cases h2 : n / 18446744073709551616 = 0
      · have h3 : blen n ≤ 64 := blen_lt.2 (by omega)
        have h4 : blen n ≠ 0 := fun hh => h (blen_zero.1 hh)
        rw [h2]
        have : blen 0 = 0 := rfl
        omega
      · have : blen n = blen (n / 18446744073709551616) + 64 := by
          obtain ⟨j, hj⟩ : ∃ j, blen (n / 18446744073709551616) = j + 1 := ⟨blen (n / 18446744073709551616) - 1, by have := @blen_zero (n / 18446744073709551616); omega⟩
          have h1 : 2 ^ j ≤ n / 18446744073709551616 := blen_le.1 (by omega)
          have h3 : n / 18446744073709551616 < 2 ^ (j + 1) := blen_lt.1 (by omega)
          rw [hj, show j + 1 + 64 = (j + 64) + 1 by omega]
          apply blen_eq
          · rw [Nat.pow_add]; have := Nat.div_add_mod n 18446744073709551616
            have e : (2:Nat) ^ 64 = 18446744073709551616 := rfl
            rw [e]; omega
          · rw [show j + 64 + 1 = (j + 1) + 64 by omega, Nat.pow_add]
            have e : (2:Nat) ^ 64 = 18446744073709551616 := rfl
            rw [e]; omega
        omega
theorem val_getD : ∀ (a : List Int) (i : Nat), lim a → val a / 2 ^ (64 * i) % 18446744073709551616 = (a.getD i 0).toNat
  | [], i, _ => by simp [val]
  | x :: r, i, h => by
    rw [lim_cons] at h
    cases i with
    | zero => simp [val]; omega
    | succ i =>
      simp only [val, List.getD_cons_succ, p64]
      rw [← Nat.div_div_eq_div_mul, show (x.toNat + 18446744073709551616 * val r) / 18446744073709551616 = val r by omega]
      exact val_getD r i h.2
theorem val_take : ∀ (a : List Int) (i : Nat), lim a → val (a.take i) = val a % 2 ^ (64 * i)
  | a, 0, _ => by simp [val, Nat.mod_one]
  | [], i + 1, _ => by simp [val]
  | x :: r, i + 1, h => by
    rw [lim_cons] at h
    simp only [List.take_succ_cons, val, p64, val_take r i h.2]
    rw [Nat.mod_mul, show (x.toNat + 18446744073709551616 * val r) % 18446744073709551616 = x.toNat by omega, show (x.toNat + 18446744073709551616 * val r) / 18446744073709551616 = val r by omega]
theorem val_drop : ∀ (a : List Int) (i : Nat), lim a → val (a.drop i) = val a / 2 ^ (64 * i)
  | a, 0, _ => by simp
  | [], i + 1, _ => by simp [val]
  | x :: r, i + 1, h => by
    rw [lim_cons] at h
    simp only [List.drop_succ_cons, val, p64, val_drop r i h.2]
    rw [← Nat.div_div_eq_div_mul, show (x.toNat + 18446744073709551616 * val r) / 18446744073709551616 = val r by omega]
theorem val_snoc (a : List Int) (x : Int) : val (a ++ [x]) = val a + 2 ^ (64 * a.length) * x.toNat := by
  rw [val_app]; simp [val]
theorem take_succ {a : List Int} {i : Nat} (h : i < a.length) : a.take (i + 1) = a.take i ++ [a.getD i 0] := by
  rw [List.take_succ, List.getD, List.getElem?_eq_getElem h]; simp
theorem val_take_succ {a : List Int} {i : Nat} (h : i < a.length) : val (a.take (i + 1)) = val (a.take i) + 2 ^ (64 * i) * (a.getD i 0).toNat := by
  rw [take_succ h, val_snoc, List.length_take]
  congr 4
  omega
end Go.AM.LN
namespace Go.AM
variable [Lay]
variable {ty : Ty} {Γ : Gam}
theorem awp_seq_j {Q : Post} {env : List (Nat × AV)} {mem : List (Nat × Ct × Bool)} {a b : Code} {ι : Type} (E : ι → List (Nat × AV)) (M : ι → List (Nat × Ct × Bool)) (hb : ∀ j, awp ty Γ b Q (E j) (M j))
    (ha : ∀ K : List (Nat × AV) → List (Nat × Ct × Bool) → Prop, (∀ env mem j, Ent env mem (E j) (M j) → K env mem) → awp ty Γ a (thenP K Q) env mem) : awp ty Γ (.seq a b) Q env mem := by
  refine awp_mono (c := a) (Q' := thenP (awp ty Γ b Q) Q) (fun x e m hx => ?_) (ha (fun e m => ∃ j, Ent e m (E j) (M j)) fun e m j h => ⟨j, h⟩)
  cases x with
  | normal =>
    obtain ⟨e0, m0, h0, j, h1⟩ := hx
    exact ⟨E j, M j, h0.trans h1, hb j⟩
  | exit j => exact hx
  | ret => exact hx
theorem awp_seq_e {Q : Post} {env : List (Nat × AV)} {mem : List (Nat × Ct × Bool)} {a b : Code} (E : List (Nat × AV)) (M : List (Nat × Ct × Bool)) (hb : awp ty Γ b Q E M)
    (ha : ∀ K : List (Nat × AV) → List (Nat × Ct × Bool) → Prop, (∀ env mem, Ent env mem E M → K env mem) → awp ty Γ a (thenP K Q) env mem) : awp ty Γ (.seq a b) Q env mem :=
  awp_seq_j (ι := Unit) (fun _ => E) (fun _ => M) (fun _ => hb) fun K hK => ha K fun env mem h => hK env mem () h
def unrP (c : Code) (Q : Post) : Nat → Post
  | 0 => fun e env mem => match e with
    | .normal => False
    | e => Q e env mem
  | n + 1 => fun e env mem => match e with
    | .normal => awp ty Γ c (unrP c Q n) env mem
    | e => Q e env mem
theorem awp_unroll {c : Code} {Q : Post} (n : Nat) {env : List (Nat × AV)} {mem : List (Nat × Ct × Bool)} (h : awp ty Γ c (unrP (ty := ty) (Γ := Γ) c Q n) env mem) : awp ty Γ (.loop c) Q env mem := by
  refine ⟨{x : List (Nat × AV) × List (Nat × Ct × Bool) × Nat // awp ty Γ c (unrP (ty := ty) (Γ := Γ) c Q x.2.2) x.1 x.2.1}, fun x => x.1.1, fun x => x.1.2.1, fun x => x.1.2.2, ⟨(env, mem, n), h⟩, fun _ _ _ _ _ hr => hr, fun i => ?_⟩
  obtain ⟨⟨e, m, k⟩, hi⟩ := i
  refine awp_mono (fun x e' m' hx => ?_) hi
  cases k with
  | zero =>
    cases x with
    | normal => exact hx.elim
    | exit j => exact hx
    | ret => exact hx
  | succ k =>
    cases x with
    | normal => exact ⟨⟨(e', m', k), hx⟩, fun _ _ _ _ _ hr => hr, Nat.lt_succ_self k⟩
    | exit j => exact hx
    | ret => exact hx
end Go.AM
namespace Go.AM
variable [Lay]
section
variable {ty : Ty} {Γ : Gam} {env : List (Nat × AV)} {mem : List (Nat × Ct × Bool)} {d : Nat} {tt : TypeId} {pos : String} {after : Array Edge} {g : Option (Nat × Bool)} {k : List (Nat × AV) → List (Nat × Ct × Bool) → Prop}
theorem aOne_move {x : Operand} : aOne ty Γ ⟨some d, .move x, tt, pos, after, g⟩ env mem k = bindO (aStep ty Γ ⟨lk env, lk mem⟩ d (.move x)) fun a m => Chk (Fr (lk mem) d m) (k ((d, a) :: env) (m ++ mem)) := aOne_dst rfl
theorem aOne_assign {x : Operand} : aOne ty Γ ⟨some d, .assign x, tt, pos, after, g⟩ env mem k = bindO (aStep ty Γ ⟨lk env, lk mem⟩ d (.assign x)) fun a m => Chk (Fr (lk mem) d m) (k ((d, a) :: env) (m ++ mem)) := aOne_dst rfl
theorem aOne_pick {x y z : Operand} : aOne ty Γ ⟨some d, .pick x y z, tt, pos, after, g⟩ env mem k = bindO (aStep ty Γ ⟨lk env, lk mem⟩ d (.pick x y z)) fun a m => Chk (Fr (lk mem) d m) (k ((d, a) :: env) (m ++ mem)) := aOne_dst rfl
theorem aOne_alloc {t1 : TypeId} : aOne ty Γ ⟨some d, .alloc t1, tt, pos, after, g⟩ env mem k = bindO (aStep ty Γ ⟨lk env, lk mem⟩ d (.alloc t1)) fun a m => Chk (Fr (lk mem) d m) (k ((d, a) :: env) (m ++ mem)) := aOne_dst rfl
theorem aOne_box {t1 : TypeId} {x : Operand} : aOne ty Γ ⟨some d, .box t1 x, tt, pos, after, g⟩ env mem k = bindO (aStep ty Γ ⟨lk env, lk mem⟩ d (.box t1 x)) fun a m => Chk (Fr (lk mem) d m) (k ((d, a) :: env) (m ++ mem)) := aOne_dst rfl
theorem aOne_build {t1 : TypeId} {x : Array (Nat × Operand)} : aOne ty Γ ⟨some d, .build t1 x, tt, pos, after, g⟩ env mem k = bindO (aStep ty Γ ⟨lk env, lk mem⟩ d (.build t1 x)) fun a m => Chk (Fr (lk mem) d m) (k ((d, a) :: env) (m ++ mem)) := aOne_dst rfl
theorem aOne_buildSlice {t1 : TypeId} {n : Nat} {x : Array (Nat × Operand)} : aOne ty Γ ⟨some d, .buildSlice t1 n x, tt, pos, after, g⟩ env mem k = bindO (aStep ty Γ ⟨lk env, lk mem⟩ d (.buildSlice t1 n x)) fun a m => Chk (Fr (lk mem) d m) (k ((d, a) :: env) (m ++ mem)) := aOne_dst rfl
theorem aOne_load {t1 : TypeId} {x : Operand} : aOne ty Γ ⟨some d, .load t1 x, tt, pos, after, g⟩ env mem k = bindO (aStep ty Γ ⟨lk env, lk mem⟩ d (.load t1 x)) fun a m => Chk (Fr (lk mem) d m) (k ((d, a) :: env) (m ++ mem)) := aOne_dst rfl
theorem aOne_bin {o : BinOp} {t1 u : TypeId} {x y : Operand} : aOne ty Γ ⟨some d, .binOp o t1 x y u, tt, pos, after, g⟩ env mem k = bindO (aStep ty Γ ⟨lk env, lk mem⟩ d (.binOp o t1 x y u)) fun a m => Chk (Fr (lk mem) d m) (k ((d, a) :: env) (m ++ mem)) := aOne_dst rfl
theorem aOne_un {o : UnOp} {t1 : TypeId} {x : Operand} : aOne ty Γ ⟨some d, .unOp o t1 x, tt, pos, after, g⟩ env mem k = bindO (aStep ty Γ ⟨lk env, lk mem⟩ d (.unOp o t1 x)) fun a m => Chk (Fr (lk mem) d m) (k ((d, a) :: env) (m ++ mem)) := aOne_dst rfl
theorem aOne_conv {t1 u : TypeId} {x : Operand} : aOne ty Γ ⟨some d, .convert t1 u x, tt, pos, after, g⟩ env mem k = bindO (aStep ty Γ ⟨lk env, lk mem⟩ d (.convert t1 u x)) fun a m => Chk (Fr (lk mem) d m) (k ((d, a) :: env) (m ++ mem)) := aOne_dst rfl
theorem aOne_make {t1 : TypeId} {x y : Operand} : aOne ty Γ ⟨some d, .makeSlice t1 x y, tt, pos, after, g⟩ env mem k = bindO (aStep ty Γ ⟨lk env, lk mem⟩ d (.makeSlice t1 x y)) fun a m => Chk (Fr (lk mem) d m) (k ((d, a) :: env) (m ++ mem)) := aOne_dst rfl
theorem aOne_slice {t1 : TypeId} {x : Operand} {l h m : Option Operand} : aOne ty Γ ⟨some d, .slice t1 x l h m, tt, pos, after, g⟩ env mem k = bindO (aStep ty Γ ⟨lk env, lk mem⟩ d (.slice t1 x l h m)) fun a m => Chk (Fr (lk mem) d m) (k ((d, a) :: env) (m ++ mem)) := aOne_dst rfl
theorem aOne_fieldAddr {t1 : TypeId} {x : Operand} {f : Nat} : aOne ty Γ ⟨some d, .fieldAddr t1 x f, tt, pos, after, g⟩ env mem k = bindO (aStep ty Γ ⟨lk env, lk mem⟩ d (.fieldAddr t1 x f)) fun a m => Chk (Fr (lk mem) d m) (k ((d, a) :: env) (m ++ mem)) := aOne_dst rfl
theorem aOne_field {t1 : TypeId} {x : Operand} {f : Nat} : aOne ty Γ ⟨some d, .field t1 x f, tt, pos, after, g⟩ env mem k = bindO (aStep ty Γ ⟨lk env, lk mem⟩ d (.field t1 x f)) fun a m => Chk (Fr (lk mem) d m) (k ((d, a) :: env) (m ++ mem)) := aOne_dst rfl
theorem aOne_indexAddr {t1 : TypeId} {x i : Operand} : aOne ty Γ ⟨some d, .indexAddr t1 x i, tt, pos, after, g⟩ env mem k = bindO (aStep ty Γ ⟨lk env, lk mem⟩ d (.indexAddr t1 x i)) fun a m => Chk (Fr (lk mem) d m) (k ((d, a) :: env) (m ++ mem)) := aOne_dst rfl
theorem aOne_index {t1 : TypeId} {x i : Operand} : aOne ty Γ ⟨some d, .index t1 x i, tt, pos, after, g⟩ env mem k = bindO (aStep ty Γ ⟨lk env, lk mem⟩ d (.index t1 x i)) fun a m => Chk (Fr (lk mem) d m) (k ((d, a) :: env) (m ++ mem)) := aOne_dst rfl
theorem aOne_extract {x : Operand} {f : Nat} : aOne ty Γ ⟨some d, .extract x f, tt, pos, after, g⟩ env mem k = bindO (aStep ty Γ ⟨lk env, lk mem⟩ d (.extract x f)) fun a m => Chk (Fr (lk mem) d m) (k ((d, a) :: env) (m ++ mem)) := aOne_dst rfl
theorem aOne_func {v : Operand} {a : Array Operand} {ts : Array TypeId} : aOne ty Γ ⟨some d, .call ⟨.value v, a, ts⟩, tt, pos, after, g⟩ env mem k = bindO (aStep ty Γ ⟨lk env, lk mem⟩ d (.call ⟨.value v, a, ts⟩)) fun a m => Chk (Fr (lk mem) d m) (k ((d, a) :: env) (m ++ mem)) := aOne_dst rfl
theorem aOne_len {a : Array Operand} {ts : Array TypeId} : aOne ty Γ ⟨some d, .call ⟨.builtin .len, a, ts⟩, tt, pos, after, g⟩ env mem k = bindO (aStep ty Γ ⟨lk env, lk mem⟩ d (.call ⟨.builtin .len, a, ts⟩)) fun a m => Chk (Fr (lk mem) d m) (k ((d, a) :: env) (m ++ mem)) := aOne_dst rfl
theorem aOne_max {a : Array Operand} {ts : Array TypeId} : aOne ty Γ ⟨some d, .call ⟨.builtin .max, a, ts⟩, tt, pos, after, g⟩ env mem k = bindO (aStep ty Γ ⟨lk env, lk mem⟩ d (.call ⟨.builtin .max, a, ts⟩)) fun a m => Chk (Fr (lk mem) d m) (k ((d, a) :: env) (m ++ mem)) := aOne_dst rfl
theorem aOne_min {a : Array Operand} {ts : Array TypeId} : aOne ty Γ ⟨some d, .call ⟨.builtin .min, a, ts⟩, tt, pos, after, g⟩ env mem k = bindO (aStep ty Γ ⟨lk env, lk mem⟩ d (.call ⟨.builtin .min, a, ts⟩)) fun a m => Chk (Fr (lk mem) d m) (k ((d, a) :: env) (m ++ mem)) := aOne_dst rfl
end
end Go.AM
namespace Go.AM
theorem ofInt_toNat {k : IntKind} {a : Int} (h0 : 0 ≤ a) (h1 : a < 2 ^ k.bits) : (BitVec.ofInt k.bits a).toNat = a.toNat := by
  rw [BitVec.toNat_ofInt]
  congr 1
  rw [Int.emod_eq_of_lt h0]
  exact_mod_cast h1
theorem wrap_u64 {n : Nat} (h : n < 18446744073709551616) : IntKind.u64.wrap (n : Int) = n := by
  simp only [IntKind.wrap]
  simp [IntKind.bits, IntKind.signed]
  omega
theorem and_u64 {a b : Int} (ha : 0 ≤ a ∧ a < 18446744073709551616) (hb : 0 ≤ b ∧ b < 18446744073709551616) : bits .and .u64 a b = ((a.toNat &&& b.toNat : Nat) : Int) := by
  simp only [bits]
  rw [BitVec.toNat_and, ofInt_toNat ha.1 (by simpa [IntKind.bits] using ha.2), ofInt_toNat hb.1 (by simpa [IntKind.bits] using hb.2)]
  exact wrap_u64 (Nat.lt_of_le_of_lt Nat.and_le_left (by omega))
theorem or_u64 {a b : Int} (ha : 0 ≤ a ∧ a < 18446744073709551616) (hb : 0 ≤ b ∧ b < 18446744073709551616) : bits .or .u64 a b = ((a.toNat ||| b.toNat : Nat) : Int) := by
  simp only [bits]
  rw [BitVec.toNat_or, ofInt_toNat ha.1 (by simpa [IntKind.bits] using ha.2), ofInt_toNat hb.1 (by simpa [IntKind.bits] using hb.2)]
  exact wrap_u64 (Nat.or_lt_two_pow (n := 64) (by omega) (by omega))
theorem and_mask {a : Int} (n : Nat) (ha : 0 ≤ a ∧ a < 18446744073709551616) (hn : n ≤ 64) : bits .and .u64 a (2 ^ n - 1 : Int) = a % 2 ^ n := by
  have h1 : (2:Int) ^ n ≤ 2 ^ 64 := by exact_mod_cast Nat.pow_le_pow_right (by omega) hn
  have h2 : (1:Int) ≤ 2 ^ n := by exact_mod_cast Nat.one_le_two_pow
  have h64 : (2:Int) ^ 64 = 18446744073709551616 := by decide
  rw [and_u64 ha ⟨by omega, by omega⟩]
  have e : ((2:Int) ^ n - 1).toNat = 2 ^ n - 1 := by
    have : ((2:Int) ^ n - 1) = ((2 ^ n - 1 : Nat) : Int) := by
      rw [Int.natCast_sub Nat.one_le_two_pow]; simp
    rw [this]; rfl
  rw [e, Nat.and_two_pow_sub_one_eq_mod]
  have h3 : ((a.toNat : Nat) : Int) = a := by omega
  rw [Int.natCast_emod, h3]
  simp
end Go.AM
namespace Go.AM
variable [Lay]
section
variable {ty : Ty} {Γ : Gam} {env : List (Nat × AV)} {mem mem0 : List (Nat × Ct × Bool)} {all r : List Oper} {K : List (Nat × AV) → List (Nat × Ct × Bool) → Prop} {rd wr : NNs} {i : Nat} {o : Oper}
theorem awpD_cons : awpD ty Γ all mem0 K i rd wr (o :: r) env mem = Bg (aGuard all ⟨lk env, lk mem⟩ o.guard)
      (dOne ty Γ mem0 i o rd wr env mem fun rd wr env mem => awpD ty Γ all mem0 K (i + 1) rd wr r env mem)
      (dOne ty Γ mem0 i o rd wr (gset all o.guard true ++ env) mem fun rd wr env mem => awpD ty Γ all mem0 K (i + 1) rd wr r env mem)
      (awpD ty Γ all mem0 K (i + 1) rd wr r (skipE o.dst (gset all o.guard false ++ env)) mem)
      (awpD ty Γ all mem0 K (i + 1) rd wr r (skipE o.dst env) mem) := rfl
def keysB (mem0 : List (Nat × Ct × Bool)) (env : List (Nat × AV)) (wr : NNs) (o : Oper) : Prop := (keysAt mem0 (lk env) (tmpsOf o.op) && clash wr o (rdKeys (lk env) (tmpsOf o.op))) = true
def keysC (mem0 : List (Nat × Ct × Bool)) (env : List (Nat × AV)) (op : Op) : Prop := keysAt mem0 (lk env) (tmpsOf op) = true
def rdN (env : List (Nat × AV)) (i : Nat) (op : Op) (rd : NNs) : NNs := (rdKeys (lk env) (tmpsOf op)).map (fun x => (i, x)) ++ rd
theorem dOne_dst {d : Nat} {op : Op} {t : TypeId} {pos : String} {after : Array Edge} {g : Option (Nat × Bool)} {k : DK} :
    dOne ty Γ mem0 i ⟨some d, op, t, pos, after, g⟩ rd wr env mem k = Chk (keysB mem0 env wr ⟨some d, op, t, pos, after, g⟩) (bindO (aStep ty Γ ⟨lk env, lk mem⟩ d op) fun a m => Chk (Fr (lk mem) d m ∧ noFz m) (k (rdN env i op rd) wr ((d, a) :: env) (m ++ mem))) := rfl
theorem dOne_store {t t' : TypeId} {x y : Operand} {pos : String} {after : Array Edge} {g : Option (Nat × Bool)} {k : DK} :
    dOne ty Γ mem0 i ⟨none, .store t' x y, t, pos, after, g⟩ rd wr env mem k = Chk (keysB mem0 env wr ⟨none, .store t' x y, t, pos, after, g⟩) (bindS (aStore ty ⟨lk env, lk mem⟩ t' x y) fun key c => Chk (clashK rd ⟨none, .store t' x y, t, pos, after, g⟩ key = true) (k (rdN env i (.store t' x y) rd) ((i, key) :: wr) env ((key, c, false) :: mem))) := rfl
theorem awpD_congr {env' : List (Nat × AV)} {mem' : List (Nat × Ct × Bool)} (h : env = env') (h' : mem = mem') : awpD ty Γ all mem0 K i rd wr r env mem = awpD ty Γ all mem0 K i rd wr r env' mem' := by rw [h, h']
theorem dOne_congr {env' : List (Nat × AV)} {mem' : List (Nat × Ct × Bool)} {k : DK} (h : env = env') (h' : mem = mem') : dOne ty Γ mem0 i o rd wr env mem k = dOne ty Γ mem0 i o rd wr env' mem' k := by rw [h, h']
theorem ZJ {wr : NNs} (h : (keysAt mem0 (lk env) (tmpsOf o.op) && clash wr o (rdKeys (lk env) (tmpsOf o.op))) = true) : keysB mem0 env wr o := h
theorem noFz_nil : noFz [] = True := rfl
theorem noFz_cons {k : Nat} {c : Ct} {fr : Bool} {r : List (Nat × Ct × Bool)} : noFz ((k, c, fr) :: r) = (fr = false ∧ noFz r) := rfl
theorem keysB_congr {env' : List (Nat × AV)} (h : env = env') : keysB mem0 env wr o = keysB mem0 env' wr o := by rw [h]
theorem ZN {Q : Post} {id : Nat} {l : List Oper} (h : ∀ all, all = l → ∀ K : List (Nat × AV) → List (Nat × Ct × Bool) → Prop, (∀ env mem, Q .normal env mem → K env mem) → awpOps ty Γ all K l env mem) : awp ty Γ (.region id l.toArray false) Q env mem := h _ rfl _ fun _ _ h => h
theorem Da {Q : Post} {id : Nat} {l : List Oper} (hd : drawOk l = true) (h : ∀ all, all = l → ∀ K : List (Nat × AV) → List (Nat × Ct × Bool) → Prop, (∀ env mem, Q .normal env mem → K env mem) → awpD ty Γ all mem K 0 [] [] l env mem) : awp ty Γ (.region id l.toArray true) Q env mem := ⟨hd, h _ rfl _ fun _ _ h => h⟩
theorem ZA (h : ∀ X : List (Nat × AV) → List (Nat × Ct × Bool) → Prop, (∀ env mem, awpOps ty Γ all K r env mem → X env mem) → Bg (aGuard all ⟨lk env, lk mem⟩ o.guard) (aOne ty Γ o env mem X) (aOne ty Γ o (gset all o.guard true ++ env) mem X) (X (skipE o.dst (gset all o.guard false ++ env)) mem) (X (skipE o.dst env) mem)) : awpOps ty Γ all K (o :: r) env mem := h _ fun _ _ h => h
theorem ZC (h : ∀ X : DK, (∀ rd wr env mem, awpD ty Γ all mem0 K (i + 1) rd wr r env mem → X rd wr env mem) → Bg (aGuard all ⟨lk env, lk mem⟩ o.guard)
      (dOne ty Γ mem0 i o rd wr env mem X)
      (dOne ty Γ mem0 i o rd wr (gset all o.guard true ++ env) mem X)
      (X rd wr (skipE o.dst (gset all o.guard false ++ env)) mem)
      (X rd wr (skipE o.dst env) mem)) : awpD ty Γ all mem0 K i rd wr (o :: r) env mem := h _ fun _ _ _ _ h => h
theorem ZG (h : K env mem) : awpOps ty Γ all K [] env mem := h
theorem ZI (h : K env mem) : awpD ty Γ all mem0 K i rd wr [] env mem := h
theorem aGuard_none {s : St} : aGuard all s none = .no := rfl
theorem aGuard_some {s : St} {j : Nat} {b : Bool} : aGuard all s (some (j, b)) = match (all[j]?).bind (·.dst) with
    | some sl => match s.e sl with
      | some (.v (.bool c)) => .tt (c == b)
      | some (.v (.tuple _)) => .off
      | _ => .bad
    | none => .bad := rfl
theorem gset_none {t : Bool} : gset all none t = [] := rfl
theorem gset_some {j : Nat} {b t : Bool} : gset all (some (j, b)) t = [(((all[j]?).bind (·.dst)).getD 0, .v (.bool (if t then b else !b)))] := rfl
theorem undef_eq : undef = Value.tuple #[] := rfl
theorem beqT (b : Bool) : (b == true) = b := by cases b <;> rfl
theorem beqF (b : Bool) : (b == false) = !b := by cases b <;> rfl
def nOne (ty : Ty) (Γ : Gam) (mem0 : List (Nat × Ct × Bool)) (o : Oper) (env : List (Nat × AV)) (mem : List (Nat × Ct × Bool)) (k : List (Nat × AV) → List (Nat × Ct × Bool) → Prop) : Prop :=
  match o.dst, o.op with
  | some d, op => Chk (keysAt mem0 (lk env) (tmpsOf op) = true) (bindO (aStep ty Γ ⟨lk env, lk mem⟩ d op) fun a m => Chk (Fr (lk mem) d m ∧ noFz m) (k ((d, a) :: env) (m ++ mem)))
  | none, _ => False
def awpN (ty : Ty) (Γ : Gam) (all : List Oper) (mem0 : List (Nat × Ct × Bool)) (K : List (Nat × AV) → List (Nat × Ct × Bool) → Prop) : List Oper → List (Nat × AV) → List (Nat × Ct × Bool) → Prop
  | [], env, mem => K env mem
  | o :: r, env, mem => Bg (aGuard all ⟨lk env, lk mem⟩ o.guard)
      (nOne ty Γ mem0 o env mem fun env mem => awpN ty Γ all mem0 K r env mem)
      (nOne ty Γ mem0 o (gset all o.guard true ++ env) mem fun env mem => awpN ty Γ all mem0 K r env mem)
      (awpN ty Γ all mem0 K r (skipE o.dst (gset all o.guard false ++ env)) mem)
      (awpN ty Γ all mem0 K r (skipE o.dst env) mem)
theorem nOne_ok {k : List (Nat × AV) → List (Nat × Ct × Bool) → Prop} {k' : DK} (hk : ∀ rd env mem, k env mem → k' rd [] env mem) (h : nOne ty Γ mem0 o env mem k) : dOne ty Γ mem0 i o rd [] env mem k' := by
  unfold nOne at h
  unfold dOne
  split at h
  · rename_i d op hd
    refine ⟨by rw [h.1]; rfl, ?_⟩
    rw [hd]
    refine bindO_mono h.2 (fun a m h2 => ?_)
    exact ⟨h2.1, hk _ _ _ h2.2⟩
  · exact h.elim
theorem awpN_ok : ∀ {r : List Oper} {i : Nat} {rd : NNs} {env : List (Nat × AV)} {mem : List (Nat × Ct × Bool)}, awpN ty Γ all mem0 K r env mem → awpD ty Γ all mem0 K i rd [] r env mem
  | [], i, rd, env, mem, h => h
  | o :: r, i, rd, env, mem, h => by
    rw [awpD_cons]
    unfold awpN at h
    refine bindG_mono h (nOne_ok (fun rd e m => awpN_ok (r := r))) (nOne_ok (fun rd e m => awpN_ok (r := r))) (awpN_ok (r := r)) (awpN_ok (r := r))
theorem ZO {Q : Post} {id : Nat} {l : List Oper} (hd : drawOk l = true) (h : ∀ all, all = l → ∀ K : List (Nat × AV) → List (Nat × Ct × Bool) → Prop, (∀ env mem, Q .normal env mem → K env mem) → awpN ty Γ all mem K l env mem) : awp ty Γ (.region id l.toArray true) Q env mem := ⟨hd, awpN_ok (h _ rfl _ fun _ _ h => h)⟩
theorem ZB (h : ∀ X : List (Nat × AV) → List (Nat × Ct × Bool) → Prop, (∀ env mem, awpN ty Γ all mem0 K r env mem → X env mem) → Bg (aGuard all ⟨lk env, lk mem⟩ o.guard) (nOne ty Γ mem0 o env mem X) (nOne ty Γ mem0 o (gset all o.guard true ++ env) mem X) (X (skipE o.dst (gset all o.guard false ++ env)) mem) (X (skipE o.dst env) mem)) : awpN ty Γ all mem0 K (o :: r) env mem := h _ fun _ _ h => h
theorem ZH (h : K env mem) : awpN ty Γ all mem0 K [] env mem := h
theorem nOne_dst {d : Nat} {op : Op} {t : TypeId} {pos : String} {after : Array Edge} {g : Option (Nat × Bool)} {k : List (Nat × AV) → List (Nat × Ct × Bool) → Prop} :
    nOne ty Γ mem0 ⟨some d, op, t, pos, after, g⟩ env mem k = Chk (keysC mem0 env op) (bindO (aStep ty Γ ⟨lk env, lk mem⟩ d op) fun a m => Chk (Fr (lk mem) d m ∧ noFz m) (k ((d, a) :: env) (m ++ mem))) := rfl
theorem nOne_congr {env' : List (Nat × AV)} {mem' : List (Nat × Ct × Bool)} {k : List (Nat × AV) → List (Nat × Ct × Bool) → Prop} (h : env = env') (h' : mem = mem') : nOne ty Γ mem0 o env mem k = nOne ty Γ mem0 o env' mem' k := by rw [h, h']
theorem ZK {op : Op} (h : keysAt mem0 (lk env) (tmpsOf op) = true) : keysC mem0 env op := h
end
end Go.AM
namespace Go.AM
variable [Lay]
variable {ty : Ty} {Γ : Gam} {Q : Post} {env : List (Nat × AV)} {mem : List (Nat × Ct × Bool)}
def Kp (live : List Nat) (env : List (Nat × AV)) : List (Nat × AV) := live.filterMap fun t => (lk env t).map fun a => (t, a)
theorem lk_keepL {env : List (Nat × AV)} {t : Nat} {a : AV} : ∀ {live : List Nat}, lk (Kp live env) t = some a → lk env t = some a
  | [], h => by cases h
  | x :: r, h => by
    cases hx : lk env x with
    | none =>
      have e : Kp (x :: r) env = Kp r env := by simp [Kp, hx]
      rw [e] at h; exact lk_keepL h
    | some b =>
      have e : Kp (x :: r) env = (x, b) :: Kp r env := by simp [Kp, hx]
      rw [e] at h
      simp only [lk] at h
      split at h
      · rename_i ht; subst ht; cases h; exact hx
      · exact lk_keepL h
def dedM : List (Nat × Ct × Bool) → List Nat → List (Nat × Ct × Bool)
  | [], _ => []
  | (k, c) :: r, seen => if seen.contains k then dedM r seen else (k, c) :: dedM r (k :: seen)
theorem lk_dedM : ∀ {mem : List (Nat × Ct × Bool)} {seen : List Nat} {t : Nat}, seen.contains t = false → lk (dedM mem seen) t = lk mem t
  | [], seen, t, h => rfl
  | (k, c) :: r, seen, t, h => by
    unfold dedM
    split
    · rename_i hk
      have hne : t ≠ k := fun e => by subst e; rw [hk] at h; cases h
      simp only [lk, if_neg hne]
      exact lk_dedM h
    · rename_i hk
      by_cases ht : t = k
      · subst ht; simp [lk]
      · simp only [lk, if_neg ht]
        exact lk_dedM (by simp only [List.contains_cons, h, Bool.or_false]; simpa using ht)
theorem ent_keep (live : List Nat) (env : List (Nat × AV)) (mem : List (Nat × Ct × Bool)) : Ent env mem (Kp live env) (dedM mem []) := by
  rintro V w0 N a w ⟨β, h⟩
  have hm : lk (dedM mem []) = lk mem := by funext t; exact lk_dedM rfl
  rw [hm]
  exact ⟨β, h.fresh, h.below, h.size, h.defers, h.mem, h.inj, fun t av ht => h.slots t av (lk_keepL ht)⟩
theorem Zh (live : List Nat) {a b : Code} (h : ∀ K : List (Nat × AV) → List (Nat × Ct × Bool) → Prop, (∀ env mem, awp ty Γ b Q (Kp live env) (dedM mem []) → K env mem) → awp ty Γ a (thenP K Q) env mem) : awp ty Γ (.seq a b) Q env mem := by
  refine awp_mono (c := a) (Q' := thenP (awp ty Γ b Q) Q) (fun x e m hx => ?_) (h (fun e m => awp ty Γ b Q (Kp live e) (dedM m [])) fun e m h => h)
  cases x with
  | normal =>
    obtain ⟨e0, m0, h0, h1⟩ := hx
    exact ⟨Kp live e0, dedM m0 [], h0.trans (ent_keep live e0 m0), h1⟩
  | exit j => exact hx
  | ret => exact hx
theorem awp_loop_s {c : Code} {σ : Type} (I : σ → Prop) (E : σ → List (Nat × AV)) (M : σ → List (Nat × Ct × Bool)) (μ : σ → Nat) (s0 : σ) (hI : I s0) (h0 : Ent env mem (E s0) (M s0))
    (h : ∀ s, I s → awp ty Γ c (fun e env' mem' => match e with | .normal => ∃ s', Ent env' mem' (E s') (M s') ∧ I s' ∧ μ s' < μ s | e => Q e env' mem') (E s) (M s)) : awp ty Γ (.loop c) Q env mem := by
  refine ⟨{s // I s}, fun i => E i.1, fun i => M i.1, fun i => μ i.1, ⟨s0, hI⟩, h0, fun i => awp_mono (fun x e m hx => ?_) (h i.1 i.2)⟩
  cases x with
  | normal =>
    obtain ⟨s', h1, h2, h3⟩ := hx
    exact ⟨⟨s', h2⟩, h1, h3⟩
  | exit j => exact hx
  | ret => exact hx
def lpP {σ : Type} (I : σ → Prop) (E : σ → List (Nat × AV)) (M : σ → List (Nat × Ct × Bool)) (μ : σ → Nat) (s : σ) (Q : Post) : Post := fun e env' mem' => match e with | .normal => ∃ s', Ent env' mem' (E s') (M s') ∧ I s' ∧ μ s' < μ s | e => Q e env' mem'
theorem Za {σ : Type} {I : σ → Prop} {E : σ → List (Nat × AV)} {M : σ → List (Nat × Ct × Bool)} {μ : σ → Nat} {s : σ} (h : ∃ s', Ent env mem (E s') (M s') ∧ I s' ∧ μ s' < μ s) : lpP I E M μ s Q .normal env mem := h
theorem awp_lp {c : Code} {σ : Type} (I : σ → Prop) (E : σ → List (Nat × AV)) (M : σ → List (Nat × Ct × Bool)) (μ : σ → Nat) (s0 : σ) (hI : I s0) (h0 : Ent env mem (E s0) (M s0))
    (h : ∀ s, I s → awp ty Γ c (lpP I E M μ s Q) (E s) (M s)) : awp ty Γ (.loop c) Q env mem := awp_loop_s I E M μ s0 hI h0 fun s hs => awp_mono (fun x e m hx => by cases x <;> exact hx) (h s hs)
def code (f : Func) : Code := f.body.getD .skip
theorem minLit (n : Nat) (h : n ≤ 64 := by decide) : min n 64 = n := Nat.min_eq_left h
theorem aOne_copy {d : Nat} {x y : Operand} {t u tt : TypeId} {pos : String} {after : Array Edge} {g : Option (Nat × Bool)} {k : List (Nat × AV) → List (Nat × Ct × Bool) → Prop} : aOne ty Γ ⟨some d, .call ⟨.builtin .copy, ⟨[x, y]⟩, ⟨[t, u]⟩⟩, tt, pos, after, g⟩ env mem k = bindP (spCopy ty env mem d x y t) fun s => k ((d, s.av) :: s.env) ((s.key, s.ct, false) :: mem) := aOne_sp rfl
theorem bindP_some (s : Sp) (k : Sp → Prop) : bindP (some s) k = Chk s.pre (k s) := rfl
def nrmD : DV → DV
  | .v (.slice none 0 0) => .sl .u64 []
  | d => d
def norm (s : Cs) : Cs := fun ds => s (ds.map nrmD)
theorem nrmD_rep {w : World} {d : DV} {v : Value} (h : RepD w d v) : RepD w (nrmD d) v := by
  unfold nrmD
  split
  · have hv : v = .slice none 0 0 := h
    exact ⟨none, 0, hv, Nat.le_refl _, Nat.zero_le _, fun hn => absurd rfl hn⟩
  · exact h
theorem nrmDs_rep {w : World} : ∀ {ds : List DV} {vs : List Value}, RepDs w ds vs → RepDs w (ds.map nrmD) vs
  | [], [], _ => trivial
  | [], _ :: _, h => h.elim
  | _ :: _, [], h => h.elim
  | _ :: _, _ :: _, h => ⟨nrmD_rep h.1, nrmDs_rep h.2⟩
theorem Sn {P : Program} {f : Nat} {fk : Fk} {spec : Cs} (h : Sound P f fk spec) : Sound P f fk (norm spec) := by
  cases fk with
  | body =>
    obtain ⟨fn, h1, h2, h3, h4⟩ := h
    exact ⟨fn, h1, h2, h3, fun ds p r h5 h6 w vs hT h7 => h4 _ p r h5 h6 w vs hT (nrmDs_rep h7)⟩
  | ext => exact fun ds p r h5 h6 w vs h7 => h _ p r h5 h6 w vs (nrmDs_rep h7)
theorem Gc {P : Program} {f : Nat} {fk : Fk} {spec : Cs} (h : Sound P f fk spec) (hΓ : Gk P Γ) : Gk P ((f, fk, spec) :: Γ) := by
  intro f' fk' spec' h'
  simp only [lk] at h'
  split at h'
  · rename_i he; subst he; cases h'; exact h
  · exact hΓ _ _ _ h'
end Go.AM
namespace Go.AM
variable [Lay]
variable {ty : Ty} {Γ : Gam} {Q : Post} {env : List (Nat × AV)} {mem : List (Nat × Ct × Bool)}
theorem ZW {f : List (Nat × AV) → List (Nat × Ct × Bool) → Prop} (h : Q .ret env mem) : thenP f Q .ret env mem := h
theorem ZX {f : List (Nat × AV) → List (Nat × Ct × Bool) → Prop} {i : Nat} (h : Q (.exit i) env mem) : thenP f Q (.exit i) env mem := h
theorem Ze {id : Nat} (h : Q .normal env mem) : blockP id Q .normal env mem := h
theorem Zf {id : Nat} (h : Q .ret env mem) : blockP id Q .ret env mem := h
theorem Zg {id j : Nat} (h : if j = id then Q .normal env mem else Q (.exit j) env mem) : blockP id Q (.exit j) env mem := h
theorem ZD {x : Operand} {a b : Code} (h : aCond (opd ⟨lk env, lk mem⟩ x) (awp ty Γ a Q env mem) (awp ty Γ b Q env mem)) : awp ty Γ (.cond x a b) Q env mem := h
theorem ZE {vs : List ResultVar} {rs : Res} (h : resOk ty (lk env) (lk mem) vs rs) : retP ty vs rs .ret env mem := h
theorem ZF {vs : List ResultVar} {rs : Res} (h : resOk ty (lk env) (lk mem) vs rs) : retP ty vs rs .normal env mem := h
theorem ZY {σ : Type} {I : σ → Prop} {E : σ → List (Nat × AV)} {M : σ → List (Nat × Ct × Bool)} {μ : σ → Nat} {s : σ} (h : Q .ret env mem) : lpP I E M μ s Q .ret env mem := h
theorem ZZ {σ : Type} {I : σ → Prop} {E : σ → List (Nat × AV)} {M : σ → List (Nat × Ct × Bool)} {μ : σ → Nat} {s : σ} {j : Nat} (h : Q (.exit j) env mem) : lpP I E M μ s Q (.exit j) env mem := h
theorem Zb {c : Code} {n : Nat} (h : awp ty Γ c (unrP (ty := ty) (Γ := Γ) c Q n) env mem) : unrP (ty := ty) (Γ := Γ) c Q (Nat.succ n) .normal env mem := h
theorem Zd {c : Code} {n j : Nat} (h : Q (.exit j) env mem) : unrP (ty := ty) (Γ := Γ) c Q n (.exit j) env mem := by cases n <;> exact h
theorem Zc {c : Code} {n : Nat} (h : Q .ret env mem) : unrP (ty := ty) (Γ := Γ) c Q n .ret env mem := by cases n <;> exact h
theorem aOne_append {Γ : Gam} {d : Nat} {x y : Operand} {t u tt : TypeId} {pos : String} {after : Array Edge} {g : Option (Nat × Bool)} {k : List (Nat × AV) → List (Nat × Ct × Bool) → Prop} : aOne ty Γ ⟨some d, .call ⟨.builtin .append, ⟨[x, y]⟩, ⟨[t, u]⟩⟩, tt, pos, after, g⟩ env mem k = bindP (if t = u then spAppend ty env mem d x y t else none) fun s => k ((d, s.av) :: s.env) ((s.key, s.ct, false) :: mem) := aOne_sp rfl
end Go.AM
namespace Go.AM
variable [Lay]
def S1 := And.intro @nOne_dst <| And.intro @noFz_nil <| And.intro @noFz_cons <| And.intro @pow2.eq_1 <| And.intro @pow2.eq_2 <| And.intro @pow2.eq_3 <| And.intro @pow2.eq_4 <| And.intro @pow2.eq_5 <| And.intro @pow2.eq_6 <| And.intro @pow2.eq_7 <| And.intro @pow2.eq_8 <| And.intro @eq_self.{1} <| And.intro @entry.eq_1 <| And.intro @entry.eq_2 <| And.intro @entry.eq_3 <| And.intro @Chk_true <| And.intro @Brk_true <| And.intro @Brk_false <| And.intro @bindO_some <| And.intro @bindS_some <| And.intro @bindG_no <| And.intro @bindG_off <| And.intro @bindG_tt <| And.intro @awpOps_nil <| And.intro @aOne_move <| And.intro @aOne_assign <| And.intro @aOne_pick <| And.intro @aOne_alloc <| And.intro @aOne_box <| And.intro @aOne_build <| And.intro @aOne_buildSlice <| And.intro @aOne_load <| And.intro @aOne_bin <| And.intro @aOne_un <| And.intro @aOne_conv <| And.intro @aOne_make <| And.intro @aOne_slice <| And.intro @aOne_fieldAddr <| And.intro @aOne_field <| @aOne_indexAddr
def S2 := And.intro @aOne_index <| And.intro @aOne_extract <| And.intro @aOne_func <| And.intro @aOne_len <| And.intro @aOne_max <| And.intro @aOne_min <| And.intro @aOne_store <| And.intro @Option.getD_some.{0} <| And.intro @Option.getD_none.{0} <| And.intro @aGuard_none <| And.intro @aGuard_some <| And.intro @gset_none <| And.intro @gset_some <| And.intro @skipE.eq_1 <| And.intro @skipE.eq_2 <| And.intro @aStep.eq_1 <| And.intro @aStep.eq_2 <| And.intro @aStep.eq_3 <| And.intro @aStep.eq_4 <| And.intro @aStep.eq_5 <| And.intro @aStep.eq_6 <| And.intro @aStep.eq_7 <| And.intro @aStep.eq_8 <| And.intro @aStep.eq_9 <| And.intro @aStep.eq_10 <| And.intro @aStep.eq_11 <| And.intro @aStep.eq_12 <| And.intro @aStep.eq_13 <| And.intro @aStep.eq_14 <| And.intro @aStep.eq_15 <| And.intro @aStep.eq_16 <| And.intro @aStep.eq_17 <| And.intro @aStep.eq_18 <| And.intro @aStep.eq_19 <| And.intro @aStep.eq_20 <| And.intro @aStep.eq_21 <| And.intro @aStep.eq_22 <| And.intro @aStep.eq_23 <| And.intro @aStore.eq_1 <| @opd.eq_1
def S3 := And.intro @opd.eq_2 <| And.intro @opd.eq_3 <| And.intro @lk.eq_1 <| And.intro @lk.eq_2 <| And.intro @valOf.eq_1 <| And.intro @valOf.eq_2 <| And.intro @intOf.eq_1 <| And.intro @intOf.eq_2 <| And.intro @vcells.eq_1 <| And.intro @vcells.eq_2 <| And.intro @ldAt.eq_1 <| And.intro @ldAt.eq_2 <| And.intro @stAt.eq_1 <| And.intro @stAt.eq_2 <| And.intro @stAt.eq_3 <| And.intro @setL.eq_1 <| And.intro @setL.eq_2 <| And.intro @fillParts.eq_1 <| And.intro @fillParts.eq_2 <| And.intro @slLen.eq_1 <| And.intro @slLen.eq_2 <| And.intro @slLen.eq_3 <| And.intro @slLen.eq_4 <| And.intro @slLen.eq_5 <| And.intro @slInts.eq_1 <| And.intro @slInts.eq_2 <| And.intro @slInts.eq_3 <| And.intro @slInts.eq_4 <| And.intro @slInts.eq_5 <| And.intro @Ct.len.eq_1 <| And.intro @Ct.len.eq_2 <| And.intro @Ct.intsOf.eq_1 <| And.intro @Ct.intsOf.eq_2 <| And.intro @Ct.cells.eq_1 <| And.intro @Ct.cells.eq_2 <| And.intro @dvs.eq_1 <| And.intro @dvs.eq_2 <| And.intro @dvOf.eq_1 <| And.intro @dvOf.eq_2 <| @dvOf.eq_3
def S4 := And.intro @dvOf.eq_4 <| And.intro @dvOf.eq_5 <| And.intro @plainV.eq_1 <| And.intro @plainV.eq_2 <| And.intro @outRV.eq_1 <| And.intro @outRV.eq_2 <| And.intro @outRV.eq_3 <| And.intro @outRV.eq_4 <| And.intro @outMem.eq_1 <| And.intro @outMem.eq_2 <| And.intro @outMem.eq_3 <| And.intro @outAVs.eq_1 <| And.intro @outAVs.eq_2 <| And.intro @outMems.eq_1 <| And.intro @outMems.eq_2 <| And.intro @RV.isView.eq_1 <| And.intro @RV.isView.eq_2 <| And.intro @RV.isFresh.eq_1 <| And.intro @RV.isFresh.eq_2 <| And.intro @RV.isFresh.eq_3 <| And.intro @freezes.eq_1 <| And.intro @freezes.eq_2 <| And.intro @keyOf.eq_1 <| And.intro @keyOf.eq_2 <| And.intro @keyOf.eq_3 <| And.intro @bin.eq_1 <| And.intro @bin.eq_2 <| And.intro @bin.eq_3 <| And.intro @bin.eq_4 <| And.intro @bin.eq_5 <| And.intro @bin.eq_6 <| And.intro @bin.eq_7 <| And.intro @bin.eq_8 <| And.intro @bin.eq_9 <| And.intro @bin.eq_10 <| And.intro @bin.eq_11 <| And.intro @bin.eq_12 <| And.intro @bin.eq_13 <| And.intro @bin.eq_14 <| @bin.eq_15
def S5 := And.intro @bin.eq_16 <| And.intro @bin.eq_17 <| And.intro @bin.eq_18 <| And.intro @bin.eq_19 <| And.intro @bin.eq_20 <| And.intro @bin.eq_21 <| And.intro @bin.eq_22 <| And.intro @bin.eq_23 <| And.intro @bin.eq_24 <| And.intro @bin.eq_25 <| And.intro @bin.eq_26 <| And.intro @bin.eq_27 <| And.intro @un.eq_1 <| And.intro @un.eq_2 <| And.intro @un.eq_3 <| And.intro @un.eq_4 <| And.intro @conv.eq_1 <| And.intro @conv.eq_2 <| And.intro @conv.eq_3 <| And.intro @convF.eq_1 <| And.intro @convF.eq_2 <| And.intro @convF.eq_3 <| And.intro @fbin.eq_1 <| And.intro @fbin.eq_2 <| And.intro @fbin.eq_3 <| And.intro @fbin.eq_4 <| And.intro @fbin.eq_5 <| And.intro @fbin.eq_6 <| And.intro @fbin.eq_7 <| And.intro @fbin.eq_8 <| And.intro @fbin.eq_9 <| And.intro @fbin.eq_10 <| And.intro @fbin.eq_11 <| And.intro @arr.eq_1 <| And.intro @sgn.eq_1 <| And.intro @sgn.eq_2 <| And.intro @sgn.eq_3 <| And.intro @sgn.eq_4 <| And.intro @sgn.eq_5 <| @pickAV.eq_1
def S6 := And.intro @pickAV.eq_2 <| And.intro @lo?.eq_1 <| And.intro @lo?.eq_2 <| And.intro @hi?.eq_1 <| And.intro @hi?.eq_2 <| And.intro @stBuild.eq_1 <| And.intro @stCells.eq_1 <| And.intro @stBuildSlice.eq_1 <| And.intro @stLoad.eq_1 <| And.intro @stBin.eq_1 <| And.intro @stBin.eq_2 <| And.intro @stBin.eq_3 <| And.intro @stBin.eq_4 <| And.intro @stBin.eq_5 <| And.intro @stUn.eq_1 <| And.intro @stUn.eq_2 <| And.intro @stConv.eq_1 <| And.intro @stMake.eq_1 <| And.intro @stSlice.eq_1 <| And.intro @stSlice.eq_2 <| And.intro @stSlice.eq_3 <| And.intro @stSlice.eq_4 <| And.intro @stSlice.eq_5 <| And.intro @stSlice.eq_6 <| And.intro @stSlice.eq_7 <| And.intro @stFieldAddr.eq_1 <| And.intro @stField.eq_1 <| And.intro @stIndexAddr.eq_1 <| And.intro @stIndex.eq_1 <| And.intro @stExtract.eq_1 <| And.intro @stExtract.eq_2 <| And.intro @stLen.eq_1 <| And.intro @stLen.eq_2 <| And.intro @stMax.eq_1 <| And.intro @stMax.eq_2 <| And.intro @stMin.eq_1 <| And.intro @stMin.eq_2 <| And.intro @bindRes.eq_1 <| And.intro @bindRes.eq_2 <| @stCall.eq_1
def S7 := And.intro @slTy.eq_1 <| And.intro @strTy.eq_1 <| And.intro @boolOk.eq_1 <| And.intro @boolOk.eq_2 <| And.intro @places.eq_1 <| And.intro @bracket.eq_1 <| And.intro @Fr.eq_1 <| And.intro @Fr.eq_2 <| And.intro @Oc.eq_1 <| And.intro @Oc.eq_2 <| And.intro @Oc.eq_3 <| And.intro @Oc.eq_4 <| And.intro @fits.eq_1 <| And.intro @fits.eq_2 <| And.intro @fits.eq_3 <| And.intro @fits.eq_4 <| And.intro @fits.eq_5 <| And.intro @leafEq.eq_1 <| And.intro @leafEq.eq_2 <| And.intro @leafEq.eq_3 <| And.intro @leafEq.eq_4 <| And.intro @leafEq.eq_5 <| And.intro @Option.map_some.{0, 0} <| And.intro @Option.map_none.{0, 0} <| And.intro @Option.bind_some.{0, 0} <| And.intro @Option.bind_none.{0, 0} <| And.intro @Option.some.injEq.{0} <| And.intro @List.any_cons.{0} <| And.intro @List.any_nil.{0} <| And.intro @Bool.or_false <| And.intro @Bool.or_true <| And.intro @Bool.false_or <| And.intro @Bool.true_or <| And.intro @Bool.and_true <| And.intro @Bool.true_and <| And.intro @Bool.and_false <| And.intro @Bool.false_and <| And.intro @List.length_cons.{0} <| And.intro @List.length_nil.{0} <| @List.length_set.{0}
def S8 := And.intro @List.append_nil.{0} <| And.intro @List.nil_append.{0} <| And.intro @List.cons_append.{0} <| And.intro @Nat.zero_add <| And.intro @Nat.add_zero <| And.intro @Nat.le_refl <| And.intro @List.drop_zero.{0} <| And.intro @List.drop_succ_cons.{0} <| And.intro @List.take_succ_cons.{0} <| And.intro @List.take_zero.{0} <| And.intro @List.set_cons_zero.{0} <| And.intro @List.set_cons_succ.{0} <| And.intro @List.getD_cons_zero.{0} <| And.intro @List.getD_cons_succ.{0} <| And.intro @List.getElem?_cons_zero.{0} <| And.intro @List.getElem?_cons_succ.{0} <| And.intro @Bool.false_eq_true <| And.intro @beq_self_eq_true.{0} <| And.intro @bne_self_eq_false.{0} <| And.intro @bne.eq_1.{0} <| And.intro @undef_eq <| And.intro @beqT <| And.intro @Bool.true_beq <| And.intro @beqF <| And.intro @Bool.false_beq <| And.intro @Int.cast_ofNat_Int <| And.intro @Bool.not_true <| And.intro @Bool.not_false <| And.intro @List.getElem_toArray.{0} <| And.intro @Int.toNat_zero <| And.intro @Int.toNat_natCast <| And.intro @Nat.sub_zero <| And.intro @false_implies <| And.intro @and_self <| And.intro @and_true <| And.intro @true_and <| And.intro @or_true <| And.intro @true_or <| And.intro @or_false <| @false_or
def S9 := And.intro @not_true_eq_false <| And.intro @not_false_eq_true <| And.intro @ne_eq.{1} <| And.intro @List.replicate.eq_1.{0} <| And.intro @List.replicate.eq_2.{0} <| And.intro @Nat.zero_mul <| And.intro @decide_true <| And.intro @decide_false <| And.intro @Kp.eq_1 <| And.intro @dedM.eq_1 <| And.intro @dedM.eq_2 <| And.intro @List.filterMap_cons.{0, 0} <| And.intro @List.filterMap_nil.{0, 0} <| And.intro @List.contains_cons.{0} <| And.intro @List.contains_nil.{0} <| And.intro @dOne_dst <| And.intro @dOne_store <| And.intro @Option.isSome_some.{0} <| And.intro @resOk.eq_1 <| And.intro @resOk.eq_2 <| And.intro @resOk.eq_3 <| And.intro @rvOk.eq_1 <| And.intro @rvOk.eq_2 <| And.intro @rvOk.eq_3 <| And.intro @rvOk.eq_4 <| And.intro @rvOk.eq_5 <| And.intro @rvOk.eq_6 <| And.intro @rvsOk.eq_1 <| And.intro @rvsOk.eq_2 <| And.intro @rvsOk.eq_3 <| And.intro @rKeys.eq_1 <| And.intro @rKeys.eq_2 <| And.intro @rKeys.eq_3 <| And.intro @rKeys.eq_4 <| And.intro @nodupN.eq_1 <| And.intro @nodupN.eq_2 <| @aCond_bool
def SS := And.intro @S1 <| And.intro @S2 <| And.intro @S3 <| And.intro @S4 <| And.intro @S5 <| And.intro @S6 <| And.intro @S7 <| And.intro @S8 <| @S9
def HQ := And.intro @decide_eq_true_eq <| And.intro @decide_eq_false_iff_not <| And.intro @gt_iff_lt.{0} <| And.intro @ge_iff_le.{0} <| And.intro @Int.not_lt <| And.intro @Int.not_le <| And.intro @beq_iff_eq.{0} <| And.intro @beq_eq_false_iff_ne.{0} <| And.intro @Bool.not_eq_true' <| And.intro @Bool.not_eq_false' <| And.intro @Bool.and_eq_true <| And.intro @Bool.or_eq_true <| And.intro @Bool.and_eq_false_imp <| And.intro @Bool.or_eq_false_iff <| And.intro @ne_eq.{1} <| @Classical.not_not
section
variable [Lay]
variable {ty : Ty} {Γ : Gam} {Q : Post} {env : List (Nat × AV)} {mem : List (Nat × Ct × Bool)}
theorem qr (id : Nat) (live : List Nat) {o : Array Oper} {d : Bool} {b : Code} (h : ∀ K : List (Nat × AV) → List (Nat × Ct × Bool) → Prop, (∀ env mem, awp ty Γ b Q (Kp live env) (dedM mem []) → K env mem) → awp ty Γ (.region id o d) (thenP K Q) env mem) : awp ty Γ (.seq (.region id o d) b) Q env mem := Zh live h
theorem qb (id : Nat) (live : List Nat) {c b : Code} (h : ∀ K : List (Nat × AV) → List (Nat × Ct × Bool) → Prop, (∀ env mem, awp ty Γ b Q (Kp live env) (dedM mem []) → K env mem) → awp ty Γ (.block id c) (thenP K Q) env mem) : awp ty Γ (.seq (.block id c) b) Q env mem := Zh live h
end
end Go.AM
set_option maxRecDepth 20000
namespace Go.Proofs.AMT
open Go.AM Go.AM.LN
attribute [local congr] bindO_congr bindS_congr bindG_congr awpOps_congr aOne_congr awp_congr aCond_congr awpD_congr dOne_congr keysB_congr nOne_congr thenP_congr blockP_congr Chk_congr Brk_congr
theorem sSub64_eq (x y c : Int) : sSub64 [.v (.int .u64 x), .v (.int .u64 y), .v (.int .u64 c)] = some (0 ≤ x ∧ x < 18446744073709551616 ∧ 0 ≤ y ∧ y < 18446744073709551616 ∧ 0 ≤ c ∧ c ≤ 1, .many [.v (.int .u64 ((x - y - c) % 18446744073709551616)), .v (.int .u64 (if x < y + c then 1 else 0))]) := rfl
theorem sAdd64_eq (x y c : Int) : sAdd64 [.v (.int .u64 x), .v (.int .u64 y), .v (.int .u64 c)] = some (0 ≤ x ∧ 0 ≤ y ∧ 0 ≤ c ∧ c ≤ 1, .many [.v (.int .u64 ((x + y + c) % 18446744073709551616)), .v (.int .u64 ((x + y + c) / 18446744073709551616))]) := rfl
theorem sClone_eq (l : List Int) : norm sClone [.sl .u64 l] = some (l.length ≤ 100000000, .one (.fresh .u64 l)) := rfl
theorem sClone_nil : norm sClone [.v (.slice none 0 0)] = some (([] : List Int).length ≤ 100000000, .one (.fresh .u64 [])) := rfl
theorem clone_n : Sound Tryz.prog 192 .body (norm sClone) := Sn clone_sound
theorem Gn {P : Program} : Gk P [] := fun _ _ _ h => by cases h
theorem mo : Tryz.prog.follows .mixedOrders = true := by kernel_rfl
theorem sb {f : Nat} {fn : Func} {s : Cs} {Γ : Gam} (hf : Tryz.prog.funcs[f]? = some fn) (hb : fn.body = some (code fn)) (hn : (fn.name == "runtime.NumGoroutine") = false) (hΓ : Gk Tryz.prog Γ) (hN : dstsLt fn.ntmps (code fn) = true)
    (H : ∀ ds p r, s ds = some (p, r) → p → ds.length ≤ fn.ntmps ∧ awp ty Γ (code fn) (retP ty fn.results.toList r) (entry 0 ds) []) : Sound Tryz.prog f .body (norm s) := Sn (sound_body hf hb hn tysOk hΓ (drawOk_ok mo tysOk hΓ) hN H)
end Go.Proofs.AMT
namespace Go.AM.LN
def cmpI (x y : Nat) : Int := if x < y then -1 else if x = y then 0 else 1
theorem val_split {a : List Int} {i : Nat} (h : i < a.length) : val a = val (a.take i) + 2 ^ (64 * i) * ((a.getD i 0).toNat + 18446744073709551616 * val (a.drop (i + 1))) := by
  have e : a = a.take i ++ (a.getD i 0 :: a.drop (i + 1)) := by
    have : a.drop i = a.getD i 0 :: a.drop (i + 1) := by
      rw [List.drop_eq_getElem_cons h, List.getD, List.getElem?_eq_getElem h]; rfl
    rw [← this, List.take_append_drop]
  have hl : (a.take i).length = i := by rw [List.length_take]; omega
  calc val a = val (a.take i ++ (a.getD i 0 :: a.drop (i + 1))) := by rw [← e]
    _ = _ := by rw [val_app, hl, val]
theorem val_take_lt {a : List Int} (h : lim a) (i : Nat) : val (a.take i) < 2 ^ (64 * i) := by
  rw [val_take a i h]; exact Nat.mod_lt _ (Nat.two_pow_pos _)
theorem cmp_lt {a b : List Int} (la : lim a) (lb : lim b) {i : Nat} (hi : i < a.length) (hj : i < b.length) (hd : a.drop (i + 1) = b.drop (i + 1)) (hx : a.getD i 0 < b.getD i 0) : val a < val b := by
  rw [val_split hi, val_split hj, hd]
  have h1 := val_take_lt la i
  have h2 := Mg la (i := i)
  have h3 : 2 ^ (64 * i) * ((a.getD i 0).toNat + 1 + 18446744073709551616 * val (b.drop (i + 1))) ≤ 2 ^ (64 * i) * ((b.getD i 0).toNat + 18446744073709551616 * val (b.drop (i + 1))) := Nat.mul_le_mul_left _ (by omega)
  rw [show (a.getD i 0).toNat + 1 + 18446744073709551616 * val (b.drop (i + 1)) = ((a.getD i 0).toNat + 18446744073709551616 * val (b.drop (i + 1))) + 1 by omega, Nat.mul_add] at h3
  omega
theorem len_lt {x y : Nat} (h : (limbs x).length < (limbs y).length) : x < y := by
  apply Classical.byContradiction
  intro hn
  have := blen_mono (show y ≤ x by omega)
  rw [len_limbs, len_limbs] at h
  omega
theorem drop_step {a b : List Int} {i : Nat} (hi : i < a.length) (hj : i < b.length) (hd : a.drop (i + 1) = b.drop (i + 1)) (hx : a.getD i 0 = b.getD i 0) : a.drop i = b.drop i := by
  have e1 : a.drop i = a.getD i 0 :: a.drop (i + 1) := by rw [List.drop_eq_getElem_cons hi, List.getD, List.getElem?_eq_getElem hi]; rfl
  have e2 : b.drop i = b.getD i 0 :: b.drop (i + 1) := by rw [List.drop_eq_getElem_cons hj, List.getD, List.getElem?_eq_getElem hj]; rfl
  rw [e1, e2, hd, hx]
theorem limbs_inj {x y : Nat} (h : limbs x = limbs y) : x = y := by rw [← Vl x, h, Vl]
theorem cmpI_lt {x y : Nat} (h : x < y) : cmpI x y = -1 := if_pos h
theorem cmpI_gt {x y : Nat} (h : y < x) : cmpI x y = 1 := by unfold cmpI; rw [if_neg (by omega), if_neg (by omega)]
theorem cmpI_eq {x y : Nat} (h : x = y) : cmpI x y = 0 := by unfold cmpI; rw [if_neg (by omega), if_pos h]
theorem cmpI_neg {x y : Nat} : cmpI x y < 0 ↔ x < y := by unfold cmpI; split <;> (try split) <;> omega
theorem sz_one {n : Int} : val [n] = n.toNat := by simp [val]
theorem lim_one {n : Int} (h : 0 ≤ n ∧ n < 18446744073709551616) : lim [n] := fun x hx => by
  rw [List.mem_singleton] at hx; subst hx; exact h
theorem getD_out {a : List Int} {i : Nat} (h : a.length ≤ i) : a.getD i 0 = 0 := by simp [List.getD, List.getElem?_eq_none h]
theorem Vt (a : List Int) (i : Nat) : val (a.take (i + 1)) = val (a.take i) + 2 ^ (64 * i) * (a.getD i 0).toNat := by
  by_cases h : i < a.length
  · exact val_take_succ h
  · rw [List.take_of_length_le (by omega), List.take_of_length_le (by omega), getD_out (by omega)]; simp
theorem take_set_succ {o : List Int} {i : Nat} (h : i < o.length) (v : Int) : (o.set i v).take (i + 1) = o.take i ++ [v] := by
  rw [take_succ (by simpa using h)]
  congr 1
  · rw [List.take_set_of_le (Nat.le_refl i)]
  · simp [List.getD, h]
theorem val_take_set {o : List Int} {i : Nat} (h : i < o.length) (v : Int) : val ((o.set i v).take (i + 1)) = val (o.take i) + 2 ^ (64 * i) * v.toNat := by
  rw [take_set_succ h, val_snoc, List.length_take, Nat.min_eq_left (by omega)]
theorem val_set_last {o : List Int} {n : Nat} (h : o.length = n + 1) (v : Int) : val (o.set n v) = val (o.take n) + 2 ^ (64 * n) * v.toNat := by
  rw [← val_take_set (by omega) v, List.take_of_length_le (by simp; omega)]
theorem add_step {x y o : List Int} {i c : Nat} (lx : lim x) (ly : lim y) (ho : i < o.length) (h : val (o.take i) + c * 2 ^ (64 * i) = val (x.take i) + val (y.take i)) :
    val ((o.set i ((x.getD i 0 + y.getD i 0 + (c : Int)) % 18446744073709551616)).take (i + 1)) + ((x.getD i 0 + y.getD i 0 + (c : Int)) / 18446744073709551616).toNat * 2 ^ (64 * (i + 1)) = val (x.take (i + 1)) + val (y.take (i + 1)) := by
  rw [val_take_set ho, Vt, Vt, p64]
  have h1 := Mg lx (i := i)
  have h2 := Mg ly (i := i)
  generalize x.getD i 0 = p at *
  generalize y.getD i 0 = q at *
  have e1 : ((p + q + (c : Int)) % 18446744073709551616).toNat = (p.toNat + q.toNat + c) % 18446744073709551616 := by omega
  have e2 : ((p + q + (c : Int)) / 18446744073709551616).toNat = (p.toNat + q.toNat + c) / 18446744073709551616 := by omega
  rw [e1, e2]
  generalize 2 ^ (64 * i) = P at *
  have e3 := Nat.div_add_mod (p.toNat + q.toNat + c) 18446744073709551616
  generalize (p.toNat + q.toNat + c) / 18446744073709551616 = d at *
  generalize (p.toNat + q.toNat + c) % 18446744073709551616 = m at *
  have e4 : P * m + d * (18446744073709551616 * P) = P * (p.toNat + q.toNat + c) := by
    rw [← e3, Nat.mul_add, Nat.add_comm]; congr 1
    exact (by ac_rfl)
  rw [Nat.mul_add, Nat.mul_add] at e4
  rw [Nat.mul_comm c P] at h
  omega
theorem sub_step {a b o : List Int} {i c : Nat} (lo : lim o) (lb : lim b) (hc : c ≤ 1) (ho : i < o.length) (hd : o.drop i = a.drop i) (hl : o.length = a.length) (h : val (o.take i) + val (b.take i) = val (a.take i) + c * 2 ^ (64 * i)) :
    val ((o.set i ((o.getD i 0 - b.getD i 0 - (c : Int)) % 18446744073709551616)).take (i + 1)) + val (b.take (i + 1)) = val (a.take (i + 1)) + (if o.getD i 0 < b.getD i 0 + (c : Int) then 1 else 0) * 2 ^ (64 * (i + 1)) := by
  have ha : a.getD i 0 = o.getD i 0 := by
    have h1 : o.drop i = o.getD i 0 :: o.drop (i + 1) := by rw [List.drop_eq_getElem_cons ho, List.getD, List.getElem?_eq_getElem ho]; rfl
    have h2 : a.drop i = a.getD i 0 :: a.drop (i + 1) := by rw [List.drop_eq_getElem_cons (by omega : i < a.length), List.getD, List.getElem?_eq_getElem (by omega : i < a.length)]; rfl
    rw [h1, h2] at hd
    exact (List.cons.inj hd).1.symm
  rw [val_take_set ho, Vt, Vt, p64, ha]
  have h1 := Mg lo (i := i)
  have h2 := Mg lb (i := i)
  generalize o.getD i 0 = p at *
  generalize b.getD i 0 = q at *
  generalize 2 ^ (64 * i) = P at *
  have e1 : ((p - q - (c : Int)) % 18446744073709551616).toNat + (q.toNat + c) = p.toNat + (if p < q + (c : Int) then 1 else 0) * 18446744073709551616 := by
    split <;> omega
  generalize ((p - q - (c : Int)) % 18446744073709551616).toNat = m at *
  generalize (if p < q + (c : Int) then 1 else 0) = d at *
  have e2 : P * m + P * q.toNat + c * P = P * p.toNat + d * (18446744073709551616 * P) := by
    have := congrArg (P * ·) e1
    simp only [Nat.mul_add] at this
    rw [Nat.mul_comm c P, Nat.mul_comm d, Nat.mul_comm 18446744073709551616 P, Nat.mul_assoc, Nat.mul_comm 18446744073709551616 d]
    omega
  omega
theorem drop_set_succ {o : List Int} {i : Nat} (v : Int) : (o.set i v).drop (i + 1) = o.drop (i + 1) := by
  rw [List.drop_set_of_lt (by omega)]
theorem drop_succ_of {o a : List Int} {i : Nat} (h : o.drop i = a.drop i) : o.drop (i + 1) = a.drop (i + 1) := by
  have := congrArg (List.drop 1) h
  simpa [List.drop_drop, Nat.add_comm] using this
theorem sub_fin {a b o : List Int} {c : Nat} (la : lim a) (lo : lim o) (lb : lim b) (hl : o.length = a.length) (hb : val b ≤ val a) (h : val o + val (b.take a.length) = val a + c * 2 ^ (64 * a.length)) : val o = val a - val b := by
  have h1 := val_lt la
  have h2 := val_lt lo
  rw [hl] at h2
  rw [val_take b _ lb, Nat.mod_eq_of_lt (by omega)] at h
  have hc : c = 0 := by
    apply Classical.byContradiction
    intro hn
    have : 1 * 2 ^ (64 * a.length) ≤ c * 2 ^ (64 * a.length) := Nat.mul_le_mul_right _ (by omega)
    omega
  subst hc
  omega
end Go.AM.LN
namespace Go.AM
open LN
def tabB (T : ByteArray) : Bool := T.size == 256 && (List.range 256).all fun j => (T.data.toList.getD j 0).toNat == blen j
theorem tab_size {T : ByteArray} (h : tabB T = true) : T.size = 256 := by
  simp only [tabB, Bool.and_eq_true, beq_iff_eq] at h; exact h.1
theorem tab_at {T : ByteArray} (h : tabB T = true) {j : Int} (h0 : 0 ≤ j) (h1 : j < 256) : bt T j = (blen j.toNat : Int) := by
  simp only [tabB, Bool.and_eq_true, beq_iff_eq, List.all_eq_true, List.mem_range] at h
  unfold bt
  rw [h.2 j.toNat (by omega)]
def strOp : Op → Option ByteArray
  | .index _ (.const (.string s)) _ => some s
  | _ => none
def strIn : Code → Option ByteArray
  | .seq a b => (strIn a).or (strIn b)
  | .cond _ a b => (strIn a).or (strIn b)
  | .block _ a => strIn a
  | .loop a => strIn a
  | .region _ ops _ => ops.toList.findSome? fun o => strOp o.op
  | _ => none
namespace LN
theorem blen_div {x k : Nat} (h : 2 ^ k ≤ x) : blen x = blen (x / 2 ^ k) + k := by
  obtain ⟨j, hj⟩ : ∃ j, blen (x / 2 ^ k) = j + 1 := ⟨blen (x / 2 ^ k) - 1, by
    have := @blen_zero (x / 2 ^ k)
    have h2 : 1 ≤ x / 2 ^ k := (Nat.le_div_iff_mul_le (Nat.two_pow_pos k)).2 (by omega)
    omega⟩
  have h1 : 2 ^ j ≤ x / 2 ^ k := blen_le.1 (by omega)
  have h2 : x / 2 ^ k < 2 ^ (j + 1) := blen_lt.1 (by omega)
  rw [hj, show j + 1 + k = (j + k) + 1 by omega]
  apply blen_eq
  · rw [Nat.pow_add]; exact (Nat.le_div_iff_mul_le (Nat.two_pow_pos k)).1 h1
  · rw [show j + k + 1 = (j + 1) + k by omega, Nat.pow_add]
    exact (Nat.div_lt_iff_lt_mul (Nat.two_pow_pos k)).1 h2
theorem blen_small {x : Nat} (h : x < 256) : blen x ≤ 8 := blen_lt.2 h
theorem blen_top {a : List Int} (la : lim a) (h : sz a ≠ 0) : blen (val a) = 64 * (sz a - 1) + blen (a.getD (sz a - 1) 0).toNat := by
  have hz := sz_le a
  have h0 := sz_top h
  have hg := Mg la (i := sz a - 1)
  have hd : val (a.drop (sz a)) = 0 := by
    rw [val_drop a _ la]
    apply Nat.div_eq_of_lt
    have := val_lt (Ml (val a))
    rw [Vl, Lz la] at this
    exact this
  have hs := val_split (a := a) (i := sz a - 1) (by omega)
  rw [show sz a - 1 + 1 = sz a by omega, hd] at hs
  have ht := val_take_lt la (sz a - 1)
  generalize hx : (a.getD (sz a - 1) 0).toNat = x at *
  have hx0 : x ≠ 0 := by omega
  obtain ⟨j, hj⟩ : ∃ j, blen x = j + 1 := ⟨blen x - 1, by have := @blen_zero x; omega⟩
  have h1 : 2 ^ j ≤ x := blen_le.1 (by omega)
  have h2 : x < 2 ^ (j + 1) := blen_lt.1 (by omega)
  rw [hj, show 64 * (sz a - 1) + (j + 1) = (64 * (sz a - 1) + j) + 1 by omega]
  apply blen_eq
  · rw [hs, Nat.pow_add]
    have := Nat.mul_le_mul_left (2 ^ (64 * (sz a - 1))) h1
    rw [Nat.mul_zero, Nat.add_zero]
    omega
  · rw [hs, show 64 * (sz a - 1) + j + 1 = 64 * (sz a - 1) + (j + 1) by omega, Nat.pow_add, Nat.mul_zero, Nat.add_zero]
    have := Nat.mul_le_mul_left (2 ^ (64 * (sz a - 1))) (show x + 1 ≤ 2 ^ (j + 1) by omega)
    rw [Nat.mul_add] at this
    omega
end LN
end Go.AM
set_option maxRecDepth 20000
namespace Go.Proofs.AMT
open Go.AM Go.AM.LN
attribute [local congr] bindO_congr bindS_congr bindG_congr awpOps_congr aOne_congr awp_congr aCond_congr awpD_congr dOne_congr keysB_congr nOne_congr thenP_congr blockP_congr Chk_congr Brk_congr
noncomputable def s112 : Cs := fun ds => match ds with
  | [.v (.int .u64 x)] => some (0 ≤ x ∧ x < 18446744073709551616, .one (.v (.int .i64 (blen x.toNat))))
  | _ => none
theorem s112_eq (x : Int) : norm s112 [.v (.int .u64 x)] = s112 [.v (.int .u64 x)] := rfl
noncomputable def G112 : Gam := []
theorem G112_ok : Gk Tryz.prog G112 := Gn
theorem wk112 (x : Int) (hp : 0 ≤ x ∧ x < 18446744073709551616) : awp ty G112 (code Tryz.f112) (retP ty Tryz.f112.results.toList (.one (.v (.int .i64 (blen x.toNat))))) (entry 0 [.v (.int .u64 x)]) [] := by
  unfold code
  simp only [Tryz.f112, Option.getD_some]
  obtain ⟨T, hT⟩ : ∃ T, some T = strIn (code Tryz.f112) := ⟨_, rfl⟩
  have hk : tabB T = true := by rw [Option.some.inj hT]; kernel_rfl
  simp only [code, Tryz.f112, Option.getD_some, strIn, strOp, List.findSome?_cons, List.findSome?_nil, Option.none_or, Option.or_none, Option.some.injEq] at hT
  simp only [← hT]
  clear hT
  have hsz := tab_size hk
  have bs : ∀ {j : Int}, 0 ≤ j → j < 256 → bt T j = (blen j.toNat : Int) ∧ blen j.toNat ≤ 8 := fun h0 h1 => ⟨tab_at hk h0 h1, blen_small (by omega)⟩
  all_goals repeat' (first
 | ((with_reducible first | (refine ZA ?_; intro X hX) | (show awp _ _ _ _ (Kp _ _) _) | refine ZD ?_ | refine ZE ?_ | refine ZF ?_ | ((show Bg _ _ _ _ _); simp only [hall]) | (refine ZR ?_ ?_ <;> intro hb <;> (try simp only [hb]) <;> have hq := hb <;> try simp only [HQ] at hq)) <;> try simp only [Go.AM.SS, Nat.reduceAdd, Nat.reduceMul, Nat.reduceSub, ↓reduceIte, Nat.reduceEqDiff, Nat.reduceLT, Nat.reduceLeDiff, reduceCtorEq, Int.reduceBEq, Int.reduceBNe, Nat.reduceBEq, Int.reduceEq, Int.reduceToNat, Int.reduceLE, Int.reduceLT, Nat.reduceDiv, Int.reduceAdd, Int.reduceSub, Int.reduceMul, Int.reduceNeg, Int.reduceGT, Int.reduceGE, Nat.reduceMod, ty_3, ty_5, ty_9, ty_22, ty_75, IntKind.bits, Int.reducePow, minLit])
 | with_reducible first
 | (refine hX _ _ ?_; clear hX X)
 | (refine ZG ?_; try clear hall all)
 | (refine hK _ _ ?_; clear hK K)
 | refine ZL ?_
 | (refine v_0 _ _ ?_; try clear v_0 V_0)
 | (refine v_1 _ _ ?_; try clear v_1 V_1)
 | ((first | refine qr 10 [2] ?_ | refine Zh (a := .seq (.region 7 _ _) _) [0,2] ?_ | refine Zh (a := .seq (.region 4 _ _) _) [0,2] ?_ | refine Zh (a := .seq (.region 1 _ _) _) [0,2] ?_ | refine qr 0 [0,2] ?_); intro V_0 v_0)
 | ((first | refine qr 8 [0,2] ?_ | refine qr 7 [0,2,14] ?_ | refine qr 5 [0,2] ?_ | refine qr 4 [0,2,8] ?_ | refine qr 2 [0] ?_ | refine qr 1 [0,2,4] ?_); intro V_1 v_1)
 | (refine ZM ?_; intro K hK)
 | (refine ZN ?_; intro all hall K hK)
 | (refine ZQ ?_ ?_)
 | refine ZT ?_ | refine ZU ?_ | refine ZW ?_)
  all_goals try clear v_1 V_1
  all_goals try clear v_0 V_0
  all_goals have b0 := bs (j := x % 256) (by omega) (by omega)
  all_goals have c0 : x < 256 → blen (x % 256).toNat = blen (x.toNat / 2 ^ 0) := fun h => by congr 1; omega
  all_goals have d0 : blen x.toNat = blen (x.toNat / 2 ^ 0) := by rw [Nat.pow_zero, Nat.div_one]
  all_goals have b1 := bs (j := x / 256 % 256) (by omega) (by omega)
  all_goals have c1 : x < 65536 → blen (x / 256 % 256).toNat = blen (x.toNat / 2 ^ 8) := fun h => by congr 1; omega
  all_goals have d1 : 256 ≤ x → blen x.toNat = blen (x.toNat / 2 ^ 8) + 8 := fun h => blen_div (by omega)
  all_goals have b2 := bs (j := x / 65536 % 256) (by omega) (by omega)
  all_goals have c2 : x < 16777216 → blen (x / 65536 % 256).toNat = blen (x.toNat / 2 ^ 16) := fun h => by congr 1; omega
  all_goals have d2 : 65536 ≤ x → blen x.toNat = blen (x.toNat / 2 ^ 16) + 16 := fun h => blen_div (by omega)
  all_goals have b3 := bs (j := x / 65536 / 256 % 256) (by omega) (by omega)
  all_goals have c3 : x < 4294967296 → blen (x / 65536 / 256 % 256).toNat = blen (x.toNat / 2 ^ 24) := fun h => by congr 1; omega
  all_goals have d3 : 16777216 ≤ x → blen x.toNat = blen (x.toNat / 2 ^ 24) + 24 := fun h => blen_div (by omega)
  all_goals have b4 := bs (j := x / 4294967296 % 256) (by omega) (by omega)
  all_goals have c4 : x < 1099511627776 → blen (x / 4294967296 % 256).toNat = blen (x.toNat / 2 ^ 32) := fun h => by congr 1; omega
  all_goals have d4 : 4294967296 ≤ x → blen x.toNat = blen (x.toNat / 2 ^ 32) + 32 := fun h => blen_div (by omega)
  all_goals have b5 := bs (j := x / 4294967296 / 256 % 256) (by omega) (by omega)
  all_goals have c5 : x < 281474976710656 → blen (x / 4294967296 / 256 % 256).toNat = blen (x.toNat / 2 ^ 40) := fun h => by congr 1; omega
  all_goals have d5 : 1099511627776 ≤ x → blen x.toNat = blen (x.toNat / 2 ^ 40) + 40 := fun h => blen_div (by omega)
  all_goals have b6 := bs (j := x / 4294967296 / 65536 % 256) (by omega) (by omega)
  all_goals have c6 : x < 72057594037927936 → blen (x / 4294967296 / 65536 % 256).toNat = blen (x.toNat / 2 ^ 48) := fun h => by congr 1; omega
  all_goals have d6 : 281474976710656 ≤ x → blen x.toNat = blen (x.toNat / 2 ^ 48) + 48 := fun h => blen_div (by omega)
  all_goals have b7 := bs (j := x / 4294967296 / 65536 / 256 % 256) (by omega) (by omega)
  all_goals have c7 : x < 18446744073709551616 → blen (x / 4294967296 / 65536 / 256 % 256).toNat = blen (x.toNat / 2 ^ 56) := fun h => by congr 1; omega
  all_goals have d7 : 72057594037927936 ≤ x → blen x.toNat = blen (x.toNat / 2 ^ 56) + 56 := fun h => blen_div (by omega)
  all_goals (try simp only [inR, hsz])
  all_goals first
    | omega
    | (refine congrArg _ ?_; omega)
theorem sound_112 : Sound Tryz.prog 112 .body (norm s112) := by
  refine sb Tryz.func112 rfl (by kernel_rfl) G112_ok (by kernel_rfl) fun ds p r hs hp => ?_
  unfold s112 at hs
  split at hs
  · cases hs; exact ⟨Nat.le_of_ble_eq_true (by kernel_rfl), wk112 _ hp⟩
  · cases hs
end Go.Proofs.AMT
namespace Go.AM.LN
theorem mul_mod_div {x s : Nat} (hx : x < 18446744073709551616) (hs : s ≤ 64) : (x * 2 ^ s) % 18446744073709551616 + 18446744073709551616 * (x / 2 ^ (64 - s)) = x * 2 ^ s := by
  have e : (18446744073709551616 : Nat) = 2 ^ (64 - s) * 2 ^ s := by rw [← Nat.pow_add, show 64 - s + s = 64 by omega]
  have h1 : x * 2 ^ s / 18446744073709551616 = x / 2 ^ (64 - s) := by
    rw [e, Nat.mul_div_mul_right _ _ (Nat.two_pow_pos s)]
  rw [← h1]
  have := Nat.div_add_mod (x * 2 ^ s) 18446744073709551616
  omega
theorem or_shl {x y s : Nat} (hs : s ≤ 64) (hy : y < 2 ^ s) : (x * 2 ^ s) % 18446744073709551616 ||| y = (x * 2 ^ s) % 18446744073709551616 + y := by
  have e : (18446744073709551616 : Nat) = 2 ^ (64 - s) * 2 ^ s := by rw [← Nat.pow_add, show 64 - s + s = 64 by omega]
  rw [e, Nat.mul_mod_mul_right, Nat.mul_comm, ← Nat.two_pow_add_eq_or_of_lt hy]
theorem hi_lt {x s : Nat} (hx : x < 18446744073709551616) (hs : s ≤ 64) : x / 2 ^ (64 - s) < 2 ^ s := by
  rw [Nat.div_lt_iff_lt_mul (Nat.two_pow_pos _), ← Nat.pow_add, show s + (64 - s) = 64 by omega]
  exact hx
theorem shl_word {x y : Int} {s : Nat} (hx : 0 ≤ x ∧ x < 18446744073709551616) (hy : 0 ≤ y ∧ y < 18446744073709551616) (hs : s ≤ 64) :
    bits .or .u64 (x * 2 ^ s % 18446744073709551616) (y / 2 ^ (64 - s)) = (((x.toNat * 2 ^ s) % 18446744073709551616 + y.toNat / 2 ^ (64 - s) : Nat) : Int) := by
  obtain ⟨x, rfl⟩ := Int.eq_ofNat_of_zero_le hx.1
  obtain ⟨y, rfl⟩ := Int.eq_ofNat_of_zero_le hy.1
  have e1 : (x : Int) * 2 ^ s % 18446744073709551616 = ((x * 2 ^ s % 18446744073709551616 : Nat) : Int) := by
    rw [Int.natCast_emod, Int.natCast_mul, Int.natCast_pow]; rfl
  have e2 : (y : Int) / 2 ^ (64 - s) = ((y / 2 ^ (64 - s) : Nat) : Int) := by
    rw [Int.natCast_ediv, Int.natCast_pow]; rfl
  have h1 := hi_lt (x := y) (by omega) hs
  have h2 : y / 2 ^ (64 - s) ≤ y := Nat.div_le_self _ _
  have h3 := or_shl (x := x) hs h1
  rw [e1, e2]
  simp only [Int.toNat_natCast]
  rw [← h3]
  generalize y / 2 ^ (64 - s) = q at *
  generalize x * 2 ^ s = p at *
  rw [or_u64 ⟨by omega, by omega⟩ ⟨by omega, by omega⟩]
  simp only [Int.toNat_natCast]
theorem drop_cons {a : List Int} {i : Nat} (h : i < a.length) : a.drop i = a.getD i 0 :: a.drop (i + 1) := by
  rw [List.drop_eq_getElem_cons h, List.getD, List.getElem?_eq_getElem h]; rfl
theorem drop_set_cons {o : List Int} {i : Nat} (h : i < o.length) (v : Int) : (o.set i v).drop i = v :: o.drop (i + 1) := by
  rw [drop_cons (by simpa using h), drop_set_succ]
  congr 1
  simp [List.getD, h]
theorem shl_step {o o0 : List Int} {i s : Nat} (l0 : lim o0) (hi : i < o.length) (hl : o.length = o0.length) (hs : s ≤ 64)
    (h : val (o.drop (i + 1)) = val (o0.drop (i + 1)) * 2 ^ s + (o0.getD i 0).toNat / 2 ^ (64 - s)) (z : Nat) :
    val ((o.set i ((((o0.getD i 0).toNat * 2 ^ s) % 18446744073709551616 + z : Nat) : Int)).drop i) = val (o0.drop i) * 2 ^ s + z := by
  have hx := Mg l0 (i := i)
  rw [drop_set_cons hi, drop_cons (a := o0) (i := i) (by omega)]
  simp only [val, h, Int.toNat_natCast]
  have := mul_mod_div (x := (o0.getD i 0).toNat) (s := s) (by omega) hs
  rw [Nat.mul_add, Nat.add_mul, Nat.mul_assoc]
  omega
theorem take_getD {o o0 : List Int} {n i : Nat} (h : o.take n = o0.take n) (hi : i < n) : o.getD i 0 = o0.getD i 0 := by
  have h1 : (o.take n).getD i 0 = o.getD i 0 := by simp [List.getD, hi]
  have h2 : (o0.take n).getD i 0 = o0.getD i 0 := by simp [List.getD, hi]
  rw [← h1, ← h2, h]
theorem take_le_of {o o0 : List Int} {n m : Nat} (h : o.take n = o0.take n) (hm : m ≤ n) : o.take m = o0.take m := by
  have := congrArg (List.take m) h
  rwa [List.take_take, List.take_take, Nat.min_eq_left hm] at this
theorem val_take_drop (o : List Int) (w : Nat) (hw : w ≤ o.length) : val o = val (o.take w) + 2 ^ (64 * w) * val (o.drop w) := by
  have := val_app (o.take w) (o.drop w)
  rwa [List.take_append_drop, List.length_take, Nat.min_eq_left hw] at this
theorem wrap_lim (e : Int) : 0 ≤ IntKind.u64.wrap e ∧ IntKind.u64.wrap e < 18446744073709551616 := by
  simp only [IntKind.wrap]
  simp [IntKind.bits, IntKind.signed]
  omega
theorem or_lim (x y : Int) : 0 ≤ bits .or .u64 x y ∧ bits .or .u64 x y < 18446744073709551616 := wrap_lim _
structure Shl0 (va w N : Nat) (o0 : List Int) : Prop where
  len : o0.length = N
  lm : lim o0
  vl : val o0 = 2 ^ (64 * w) * va
  low : val (o0.take w) = 0
  top : o0.getD (N - 1) 0 = 0
  wN : w < N
theorem shl0_mk {va w N : Nat} (hN : N = w + ((limbs va).length + 1)) : Shl0 va w N (List.replicate w 0 ++ limbs va ++ [0]) := by
  refine ⟨by simp [hN], ?_, ?_, ?_, ?_, by omega⟩
  · rw [lim_app, lim_app]; exact ⟨⟨lim_rep _, Ml _⟩, lim_one ⟨by omega, by omega⟩⟩
  · rw [List.append_assoc, val_app, val_rep, List.length_replicate, val_app, Vl, sz_one]; simp
  · rw [List.append_assoc, List.take_append_of_le_length (by simp), List.take_of_length_le (by simp), val_rep]
  · rw [hN, List.getD, List.getElem?_append_right (by simp)]
    simp
theorem copy0 {va w N : Nat} (hN : N = w + ((limbs va).length + 1)) : List.take w (List.replicate N (0 : Int)) ++ List.take (N - w) (limbs va) ++ List.drop (w + (List.take (N - w) (limbs va)).length) (List.replicate N 0) = List.replicate w 0 ++ limbs va ++ [0] := by
  rw [List.take_of_length_le (l := limbs va) (by omega), List.take_replicate, List.drop_replicate, hN]
  rw [Nat.min_eq_left (by omega), show w + ((limbs va).length + 1) - (w + (limbs va).length) = 1 by omega]
  rfl
theorem shl_val {va w N s : Nat} {o0 o : List Int} (h0 : Shl0 va w N o0) (hl : o.length = N) (ht : o.take w = o0.take w) (hd : val (o.drop w) = val (o0.drop w) * 2 ^ s) : val o = va * 2 ^ (64 * w + s) := by
  rw [val_take_drop o w (by have := h0.wN; omega), ht, h0.low, hd]
  have := val_take_drop o0 w (by have := h0.wN; have := h0.len; omega)
  rw [h0.low, h0.vl, Nat.zero_add] at this
  have hp : 0 < 2 ^ (64 * w) := Nat.two_pow_pos _
  have e := Nat.eq_of_mul_eq_mul_left hp this
  rw [← e, Nat.pow_add]
  rw [Nat.zero_add]
  ac_rfl
theorem shl_last {o o0 : List Int} {w s : Nat} (l0 : lim o0) (hw : w < o.length) (hl : o.length = o0.length) (hs : s ≤ 64) (ht : o.take (w + 1) = o0.take (w + 1))
    (h : val (o.drop (w + 1)) = val (o0.drop (w + 1)) * 2 ^ s + (o0.getD w 0).toNat / 2 ^ (64 - s)) :
    o.set w (o.getD w 0 * 2 ^ s % 18446744073709551616) = o.set w ((((o0.getD w 0).toNat * 2 ^ s) % 18446744073709551616 + 0 : Nat) : Int) ∧ val ((o.set w (o.getD w 0 * 2 ^ s % 18446744073709551616)).drop w) = val (o0.drop w) * 2 ^ s ∧ (0 ≤ o.getD w 0 * 2 ^ s % 18446744073709551616 ∧ o.getD w 0 * 2 ^ s % 18446744073709551616 < 18446744073709551616) := by
  have e1 := take_getD ht (i := w) (by omega)
  have hx := Mg l0 (i := w)
  obtain ⟨x, hx2⟩ := Int.eq_ofNat_of_zero_le hx.1
  have e2 : o.getD w 0 * 2 ^ s % 18446744073709551616 = ((((o0.getD w 0).toNat * 2 ^ s) % 18446744073709551616 + 0 : Nat) : Int) := by
    rw [e1, hx2, Nat.add_zero, Int.natCast_emod, Int.natCast_mul, Int.natCast_pow]; rfl
  have h1 := shl_step l0 hw hl hs h 0
  rw [e2]
  exact ⟨rfl, h1, by omega, by omega⟩
theorem take_set_lt {o : List Int} {i n : Nat} (h : n ≤ i) (v : Int) : (o.set i v).take n = o.take n := List.take_set_of_le h
theorem dm_add (x y q r : Nat) (hy : 0 < y) (hr : r < y) (h : x = q * y + r) : x / y = q ∧ x % y = r := by
  subst h
  exact ⟨by rw [Nat.add_comm, Nat.add_mul_div_right _ _ hy, Nat.div_eq_of_lt hr, Nat.zero_add], by rw [Nat.add_comm, Nat.add_mul_mod_self_right, Nat.mod_eq_of_lt hr]⟩
theorem nat_lim {n : Nat} (h : n < 18446744073709551616) : 0 ≤ (n : Int) ∧ (n : Int) < 18446744073709551616 := by omega
theorem word_step {a o : List Int} {i n r : Nat} (la : lim a) (hn : 0 < n) (hr : r < n) (hi : i < a.length) (hl : o.length = a.length)
    (h : val (o.drop (i + 1)) = val (a.drop (i + 1)) / n ∧ r = val (a.drop (i + 1)) % n) :
    val ((o.set i (((r * 18446744073709551616 + (a.getD i 0).toNat) / n : Nat) : Int)).drop i) = val (a.drop i) / n ∧ (r * 18446744073709551616 + (a.getD i 0).toNat) % n = val (a.drop i) % n := by
  rw [drop_set_cons (by omega), drop_cons hi]
  simp only [val, Int.toNat_natCast]
  rw [h.1]
  have e := Nat.div_add_mod (val (a.drop (i + 1))) n
  rw [← h.2] at e
  generalize val (a.drop (i + 1)) = d at *
  generalize (a.getD i 0).toNat = x at *
  have e2 := Nat.div_add_mod (r * 18446744073709551616 + x) n
  have e3 := Nat.mod_lt (r * 18446744073709551616 + x) hn
  have key : x + 18446744073709551616 * d = ((r * 18446744073709551616 + x) / n + 18446744073709551616 * (d / n)) * n + (r * 18446744073709551616 + x) % n := by
    have : 18446744073709551616 * d = 18446744073709551616 * (n * (d / n)) + 18446744073709551616 * r := by rw [← Nat.mul_add, e]
    rw [Nat.add_mul, this, Nat.mul_comm _ n, show 18446744073709551616 * (d / n) * n = 18446744073709551616 * (n * (d / n)) by ac_rfl]
    omega
  have := dm_add _ n _ _ hn e3 key
  exact ⟨this.1.symm, this.2.symm⟩
theorem word_lt {x r n : Nat} (hn : 0 < n) (hr : r < n) (hx : x < 18446744073709551616) : (r * 18446744073709551616 + x) / n < 18446744073709551616 := by
  rw [Nat.div_lt_iff_lt_mul hn]
  have : (r + 1) * 18446744073709551616 ≤ n * 18446744073709551616 := Nat.mul_le_mul_right _ hr
  rw [Nat.mul_comm 18446744073709551616 n]
  omega
theorem len_mono {x y : Nat} (h : x ≤ y) : (limbs x).length ≤ (limbs y).length := by
  rw [len_limbs, len_limbs]; have := blen_mono h; omega
theorem len_zero {x : Nat} : (limbs x).length = 0 ↔ x = 0 := by
  rw [len_limbs]; have := @blen_zero x; omega
theorem limbs_getD0 (n : Nat) : (limbs n).getD 0 0 = ((n % 18446744073709551616 : Nat) : Int) := by
  by_cases h : n = 0
  · subst h; rfl
  · rw [limbs_pos h]; rfl
theorem odd_eq (q : Nat) : (bits .and .u64 ((limbs q).getD 0 0) 1 == 1) = (q % 2 == 1) := by
  have h := and_mask (a := (limbs q).getD 0 0) 1 (Mg (Ml q)) (by omega)
  rw [show (2 : Int) ^ 1 - 1 = 1 by decide, show (2 : Int) ^ 1 = 2 by decide] at h
  rw [h, limbs_getD0, Bool.eq_iff_iff]
  simp
  omega
theorem len_le_of {n k : Nat} (h : n < 2 ^ (64 * k)) : (limbs n).length ≤ k := by
  rw [len_limbs]; have := blen_lt.2 h; omega
theorem lt_of_len {n k : Nat} (h : (limbs n).length ≤ k) : n < 2 ^ (64 * k) := by
  rw [len_limbs] at h; exact blen_lt.1 (by omega)
theorem bits_list {a : List Int} (h : a.length ≤ 4) : List.map (Value.int .u64) (List.take 4 a) ++ List.drop (List.take 4 a).length [Value.int .u64 0, Value.int .u64 0, Value.int .u64 0, Value.int .u64 0] = [Value.int .u64 (a.getD 0 0), Value.int .u64 (a.getD 1 0), Value.int .u64 (a.getD 2 0), Value.int .u64 (a.getD 3 0)] := by
  match a, h with
  | [], _ => rfl
  | [_], _ => rfl
  | [_, _], _ => rfl
  | [_, _, _], _ => rfl
  | [_, _, _, _], _ => rfl
theorem shr_word {x y : Int} {s : Nat} (hx : 0 ≤ x ∧ x < 18446744073709551616) (hy : 0 ≤ y ∧ y < 18446744073709551616) (hs : s ≤ 64) :
    bits .or .u64 (x / 2 ^ s) (y * 2 ^ (64 - s) % 18446744073709551616) = ((x.toNat / 2 ^ s + (y.toNat * 2 ^ (64 - s)) % 18446744073709551616 : Nat) : Int) := by
  have h := shl_word (x := y) (y := x) (s := 64 - s) hy hx (by omega)
  rw [show 64 - (64 - s) = s by omega] at h
  have hc : bits .or .u64 (x / 2 ^ s) (y * 2 ^ (64 - s) % 18446744073709551616) = bits .or .u64 (y * 2 ^ (64 - s) % 18446744073709551616) (x / 2 ^ s) := by
    simp only [bits]; rw [BitVec.or_comm]
  rw [hc, h, Nat.add_comm]
theorem shr_val {x d s : Nat} (hs : s ≤ 64) : (x + 18446744073709551616 * d) / 2 ^ s = x / 2 ^ s + d * 2 ^ (64 - s) := by
  have e : (18446744073709551616 : Nat) = 2 ^ s * 2 ^ (64 - s) := by rw [← Nat.pow_add, show s + (64 - s) = 64 by omega]
  rw [e, Nat.mul_assoc, Nat.add_mul_div_left _ _ (Nat.two_pow_pos s), Nat.mul_comm d]
theorem shr_step {a o : List Int} {i s : Nat} (la : lim a) (hi : i < a.length) (hl : o.length = a.length) (hs : s ≤ 64)
    (h : val (o.take i) + 2 ^ (64 * i) * (val (a.drop i) / 2 ^ s) = val a / 2 ^ s) :
    val ((o.set i (((a.getD i 0).toNat / 2 ^ s + ((a.getD (i + 1) 0).toNat * 2 ^ (64 - s)) % 18446744073709551616 : Nat) : Int)).take (i + 1)) + 2 ^ (64 * (i + 1)) * (val (a.drop (i + 1)) / 2 ^ s) = val a / 2 ^ s := by
  rw [val_take_set (by omega), Int.toNat_natCast, p64, ← h, drop_cons hi]
  simp only [val]
  rw [shr_val hs]
  have hy : (val (a.drop (i + 1)) * 2 ^ (64 - s)) % 18446744073709551616 = ((a.getD (i + 1) 0).toNat * 2 ^ (64 - s)) % 18446744073709551616 := by
    have : val (a.drop (i + 1)) % 18446744073709551616 = (a.getD (i + 1) 0).toNat := by
      rw [val_drop a _ la, val_getD a _ la]
    rw [Nat.mul_mod, this, ← Nat.mul_mod_mod]
    rw [Nat.mod_mod]
    rw [Nat.mul_mod, Nat.mod_mod, ← Nat.mul_mod]
  have hd : (val (a.drop (i + 1)) * 2 ^ (64 - s)) / 18446744073709551616 = val (a.drop (i + 1)) / 2 ^ s := by
    have e : (18446744073709551616 : Nat) = 2 ^ s * 2 ^ (64 - s) := by rw [← Nat.pow_add, show s + (64 - s) = 64 by omega]
    rw [e, Nat.mul_div_mul_right _ _ (Nat.two_pow_pos _)]
  have e := Nat.div_add_mod (val (a.drop (i + 1)) * 2 ^ (64 - s)) 18446744073709551616
  rw [hy, hd] at e
  rw [← e, Nat.mul_add, Nat.mul_add, Nat.mul_add]
  have : 2 ^ (64 * i) * (18446744073709551616 * (val (a.drop (i + 1)) / 2 ^ s)) = 18446744073709551616 * 2 ^ (64 * i) * (val (a.drop (i + 1)) / 2 ^ s) := by ac_rfl
  rw [this]
  omega
theorem mod_word {a : List Int} {s : Nat} (la : lim a) (hs : s ≤ 64) : val a % 2 ^ s = (a.getD 0 0).toNat % 2 ^ s := by
  cases a with
  | nil => simp [val]
  | cons x r =>
    simp only [val, List.getD_cons_zero]
    have e : (18446744073709551616 : Nat) = 2 ^ s * 2 ^ (64 - s) := by rw [← Nat.pow_add, show s + (64 - s) = 64 by omega]
    rw [e, Nat.mul_assoc, Nat.add_mul_mod_self_left]
theorem getD_of_drop {o a : List Int} {i : Nat} (h : o.drop i = a.drop i) (ho : i < o.length) (ha : i < a.length) : o.getD i 0 = a.getD i 0 := by
  rw [drop_cons ho, drop_cons ha] at h
  exact (List.cons.inj h).1
theorem getD_set_self {o : List Int} {i : Nat} (h : i < o.length) (v : Int) : (o.set i v).getD i 0 = v := by simp [List.getD, h]
theorem shr_next {a o : List Int} {i s : Nat} (la : lim a) (hi : i < a.length) (hl : o.length = a.length) (hs : s ≤ 64) (lo : lim o) (hd : o.drop i = a.drop i)
    (h : val (o.take i) + 2 ^ (64 * i) * (val (a.drop i) / 2 ^ s) = val a / 2 ^ s) :
    (o.set i (o.getD i 0 / 2 ^ s)).set i (bits .or .u64 ((o.set i (o.getD i 0 / 2 ^ s)).getD i 0) (a.getD (i + 1) 0 * 2 ^ (64 - s) % 18446744073709551616)) = o.set i (((a.getD i 0).toNat / 2 ^ s + ((a.getD (i + 1) 0).toNat * 2 ^ (64 - s)) % 18446744073709551616 : Nat) : Int) ∧
    (a.length ≤ i + 1 → o.set i (o.getD i 0 / 2 ^ s) = o.set i (((a.getD i 0).toNat / 2 ^ s + ((a.getD (i + 1) 0).toNat * 2 ^ (64 - s)) % 18446744073709551616 : Nat) : Int)) ∧
    (0 ≤ (((a.getD i 0).toNat / 2 ^ s + ((a.getD (i + 1) 0).toNat * 2 ^ (64 - s)) % 18446744073709551616 : Nat) : Int) ∧ (((a.getD i 0).toNat / 2 ^ s + ((a.getD (i + 1) 0).toNat * 2 ^ (64 - s)) % 18446744073709551616 : Nat) : Int) < 18446744073709551616) ∧
    (o.set i (((a.getD i 0).toNat / 2 ^ s + ((a.getD (i + 1) 0).toNat * 2 ^ (64 - s)) % 18446744073709551616 : Nat) : Int)).drop (i + 1) = a.drop (i + 1) := by
  have hg := getD_of_drop hd (by omega) hi
  have h1 := shr_word (x := a.getD i 0) (y := a.getD (i + 1) 0) (s := s) (Mg la) (Mg la) hs
  have h2 := or_lim (a.getD i 0 / 2 ^ s) (a.getD (i + 1) 0 * 2 ^ (64 - s) % 18446744073709551616)
  rw [h1] at h2
  refine ⟨?_, fun hle => ?_, h2, ?_⟩
  · rw [List.set_set, getD_set_self (by omega), hg, h1]
  · rw [hg]
    have hx := Mg la (i := i)
    obtain ⟨x, hx2⟩ := Int.eq_ofNat_of_zero_le hx.1
    rw [getD_out hle, hx2, Int.toNat_zero, Nat.zero_mul, Nat.zero_mod, Nat.add_zero, Int.natCast_ediv, Int.natCast_pow]
    rfl
  · rw [drop_set_succ]; exact drop_succ_of hd
end Go.AM.LN
namespace Go.AM
variable {ty : Ty} {Γ : Gam} {Q : Post} {env : List (Nat × AV)} {mem : List (Nat × Ct × Bool)} {c : Code}
namespace LN
def w4 (n i : Nat) : Int := ((n / 2 ^ (64 * i) % 18446744073709551616 : Nat) : Int)
def V4 (a b c d : Int) : Nat := val [a, b, c, d]
theorem Wl (n i : Nat) : 0 ≤ w4 n i ∧ w4 n i < 18446744073709551616 := by unfold w4; omega
theorem V4_lt {a b c d : Int} (ha : 0 ≤ a ∧ a < 18446744073709551616) (hb : 0 ≤ b ∧ b < 18446744073709551616) (hc : 0 ≤ c ∧ c < 18446744073709551616) (hd : 0 ≤ d ∧ d < 18446744073709551616) : V4 a b c d < 2 ^ 256 := by
  have h : lim [a, b, c, d] := by
    intro x hx
    simp only [List.mem_cons, List.not_mem_nil, or_false] at hx
    rcases hx with rfl | rfl | rfl | rfl <;> assumption
  exact val_lt h
theorem lim4 {a b c d : Int} (ha : 0 ≤ a ∧ a < 18446744073709551616) (hb : 0 ≤ b ∧ b < 18446744073709551616) (hc : 0 ≤ c ∧ c < 18446744073709551616) (hd : 0 ≤ d ∧ d < 18446744073709551616) : lim [a, b, c, d] := by
  intro x hx
  simp only [List.mem_cons, List.not_mem_nil, or_false] at hx
  rcases hx with rfl | rfl | rfl | rfl <;> assumption
theorem w4_V4 {a b c d : Int} (ha : 0 ≤ a ∧ a < 18446744073709551616) (hb : 0 ≤ b ∧ b < 18446744073709551616) (hc : 0 ≤ c ∧ c < 18446744073709551616) (hd : 0 ≤ d ∧ d < 18446744073709551616) :
    w4 (V4 a b c d) 0 = a ∧ w4 (V4 a b c d) 1 = b ∧ w4 (V4 a b c d) 2 = c ∧ w4 (V4 a b c d) 3 = d := by
  have h := lim4 ha hb hc hd
  have e : ∀ i, w4 (V4 a b c d) i = (([a, b, c, d].getD i 0).toNat : Int) := fun i => by unfold w4 V4; rw [val_getD _ i h]
  rw [e, e, e, e]
  simp
  omega
theorem V4_w4 {n : Nat} (h : n < 2 ^ 256) : V4 (w4 n 0) (w4 n 1) (w4 n 2) (w4 n 3) = n := by
  unfold V4 w4
  simp only [val, Int.toNat_natCast]
  have e1 : n / 2 ^ (64 * 1) = n / 18446744073709551616 := rfl
  have e2 : n / 2 ^ (64 * 2) = n / 18446744073709551616 / 18446744073709551616 := by rw [Nat.div_div_eq_div_mul]
  have e3 : n / 2 ^ (64 * 3) = n / 18446744073709551616 / 18446744073709551616 / 18446744073709551616 := by rw [Nat.div_div_eq_div_mul, Nat.div_div_eq_div_mul]
  have e0 : n / 2 ^ (64 * 0) = n := by simp
  rw [e0, e1, e2, e3]
  have h' : n < 115792089237316195423570985008687907853269984665640564039457584007913129639936 := h
  omega
theorem and_w4 (x y i : Nat) : AM.bits .and .u64 (w4 x i) (w4 y i) = w4 (x &&& y) i := by
  rw [and_u64 (Wl x i) (Wl y i)]
  unfold w4
  simp only [Int.toNat_natCast]
  congr 1
  have e : (18446744073709551616 : Nat) = 2 ^ 64 := rfl
  rw [e]
  apply Nat.eq_of_testBit_eq
  intro j
  simp only [Nat.testBit_and, Nat.testBit_mod_two_pow, Nat.testBit_div_two_pow]
  cases decide (j < 64) <;> simp
theorem or_w4 (x y i : Nat) : AM.bits .or .u64 (w4 x i) (w4 y i) = w4 (x ||| y) i := by
  rw [or_u64 (Wl x i) (Wl y i)]
  unfold w4
  simp only [Int.toNat_natCast]
  congr 1
  have e : (18446744073709551616 : Nat) = 2 ^ 64 := rfl
  rw [e]
  apply Nat.eq_of_testBit_eq
  intro j
  simp only [Nat.testBit_or, Nat.testBit_mod_two_pow, Nat.testBit_div_two_pow]
  cases decide (j < 64) <;> simp
end LN
end Go.AM
namespace Go.AM.LN
theorem lin4 {a0 a1 a2 a3 b0 b1 b2 b3 c0 c1 c2 c3 d0 d1 d2 d3 : Int} (e0 : a0 + 18446744073709551616 * c0 = b0 + d0) (e1 : a1 + 18446744073709551616 * c1 = b1 + c0 + d1) (e2 : a2 + 18446744073709551616 * c2 = b2 + c1 + d2) (e3 : a3 + 18446744073709551616 * c3 = b3 + c2 + d3) :
    (a0 + 18446744073709551616 * (a1 + 18446744073709551616 * (a2 + 18446744073709551616 * a3))) + 115792089237316195423570985008687907853269984665640564039457584007913129639936 * c3 = (b0 + 18446744073709551616 * (b1 + 18446744073709551616 * (b2 + 18446744073709551616 * b3))) + (d0 + 18446744073709551616 * (d1 + 18446744073709551616 * (d2 + 18446744073709551616 * d3))) := by omega
theorem V4_int {a b c d : Int} (ha : 0 ≤ a) (hb : 0 ≤ b) (hc : 0 ≤ c) (hd : 0 ≤ d) : (V4 a b c d : Int) = a + 18446744073709551616 * (b + 18446744073709551616 * (c + 18446744073709551616 * d)) := by
  unfold V4
  simp only [val]
  obtain ⟨x, rfl⟩ := Int.eq_ofNat_of_zero_le ha
  obtain ⟨y, rfl⟩ := Int.eq_ofNat_of_zero_le hb
  obtain ⟨z, rfl⟩ := Int.eq_ofNat_of_zero_le hc
  obtain ⟨t, rfl⟩ := Int.eq_ofNat_of_zero_le hd
  simp only [Int.toNat_natCast]
  omega
theorem sub4 {a0 a1 a2 a3 b0 b1 b2 b3 c0 c1 c2 c3 : Int} (ha0 : 0 ≤ a0 ∧ a0 < 18446744073709551616) (ha1 : 0 ≤ a1 ∧ a1 < 18446744073709551616) (ha2 : 0 ≤ a2 ∧ a2 < 18446744073709551616) (ha3 : 0 ≤ a3 ∧ a3 < 18446744073709551616)
    (hb0 : 0 ≤ b0 ∧ b0 < 18446744073709551616) (hb1 : 0 ≤ b1 ∧ b1 < 18446744073709551616) (hb2 : 0 ≤ b2 ∧ b2 < 18446744073709551616) (hb3 : 0 ≤ b3 ∧ b3 < 18446744073709551616)
    (h0 : (a0 < b0 → c0 = 1) ∧ (¬ a0 < b0 → c0 = 0)) (h1 : (a1 < b1 + c0 → c1 = 1) ∧ (¬ a1 < b1 + c0 → c1 = 0)) (h2 : (a2 < b2 + c1 → c2 = 1) ∧ (¬ a2 < b2 + c1 → c2 = 0)) (h3 : (a3 < b3 + c2 → c3 = 1) ∧ (¬ a3 < b3 + c2 → c3 = 0)) (hle : V4 b0 b1 b2 b3 ≤ V4 a0 a1 a2 a3) :
    (a0 - b0) % 18446744073709551616 = w4 (V4 a0 a1 a2 a3 - V4 b0 b1 b2 b3) 0 ∧ (a1 - b1 - c0) % 18446744073709551616 = w4 (V4 a0 a1 a2 a3 - V4 b0 b1 b2 b3) 1 ∧ (a2 - b2 - c1) % 18446744073709551616 = w4 (V4 a0 a1 a2 a3 - V4 b0 b1 b2 b3) 2 ∧ (a3 - b3 - c2) % 18446744073709551616 = w4 (V4 a0 a1 a2 a3 - V4 b0 b1 b2 b3) 3 ∧ c3 = 0 := by
  obtain ⟨d0, hd0⟩ : ∃ d, d = (a0 - b0) % 18446744073709551616 := ⟨_, rfl⟩
  obtain ⟨d1, hd1⟩ : ∃ d, d = (a1 - b1 - c0) % 18446744073709551616 := ⟨_, rfl⟩
  obtain ⟨d2, hd2⟩ : ∃ d, d = (a2 - b2 - c1) % 18446744073709551616 := ⟨_, rfl⟩
  obtain ⟨d3, hd3⟩ : ∃ d, d = (a3 - b3 - c2) % 18446744073709551616 := ⟨_, rfl⟩
  have e0 : a0 + 18446744073709551616 * c0 = b0 + d0 := by omega
  have e1 : a1 + 18446744073709551616 * c1 = b1 + c0 + d1 := by omega
  have e2 : a2 + 18446744073709551616 * c2 = b2 + c1 + d2 := by omega
  have e3 : a3 + 18446744073709551616 * c3 = b3 + c2 + d3 := by omega
  have r0 : 0 ≤ d0 ∧ d0 < 18446744073709551616 := by omega
  have r1 : 0 ≤ d1 ∧ d1 < 18446744073709551616 := by omega
  have r2 : 0 ≤ d2 ∧ d2 < 18446744073709551616 := by omega
  have r3 : 0 ≤ d3 ∧ d3 < 18446744073709551616 := by omega
  have k3 : c3 = 0 ∨ c3 = 1 := by omega
  rw [← hd0, ← hd1, ← hd2, ← hd3]
  clear hd0 hd1 hd2 hd3 h0 h1 h2 h3
  have hl := lin4 e0 e1 e2 e3
  rw [← V4_int ha0.1 ha1.1 ha2.1 ha3.1, ← V4_int hb0.1 hb1.1 hb2.1 hb3.1, ← V4_int r0.1 r1.1 r2.1 r3.1] at hl
  have hA := V4_lt ha0 ha1 ha2 ha3
  have hD := V4_lt r0 r1 r2 r3
  have e256 : (2 : Nat) ^ 256 = 115792089237316195423570985008687907853269984665640564039457584007913129639936 := rfl
  rw [e256] at hA hD
  have hv : V4 a0 a1 a2 a3 - V4 b0 b1 b2 b3 = V4 d0 d1 d2 d3 ∧ c3 = 0 := by
    generalize V4 a0 a1 a2 a3 = x at *
    generalize V4 b0 b1 b2 b3 = y at *
    generalize V4 d0 d1 d2 d3 = z at *
    clear e0 e1 e2 e3 ha0 ha1 ha2 ha3 hb0 hb1 hb2 hb3 r0 r1 r2 r3
    omega
  rw [hv.1]
  obtain ⟨f0, f1, f2, f3⟩ := w4_V4 r0 r1 r2 r3
  exact ⟨f0.symm, f1.symm, f2.symm, f3.symm, hv.2⟩
theorem ite01 {p : Prop} [Decidable p] : (p → (if p then (1 : Int) else 0) = 1) ∧ (¬ p → (if p then (1 : Int) else 0) = 0) := ⟨fun h => if_pos h, fun h => if_neg h⟩
theorem blen_V4 {a b c d : Int} (ha : 0 ≤ a ∧ a < 18446744073709551616) (hb : 0 ≤ b ∧ b < 18446744073709551616) (hc : 0 ≤ c ∧ c < 18446744073709551616) (hd : 0 ≤ d ∧ d < 18446744073709551616) :
    (¬ d = 0 → blen (V4 a b c d) = 192 + blen d.toNat) ∧ (d = 0 → ¬ c = 0 → blen (V4 a b c d) = 128 + blen c.toNat) ∧ (d = 0 → c = 0 → ¬ b = 0 → blen (V4 a b c d) = 64 + blen b.toNat) ∧ (d = 0 → c = 0 → b = 0 → blen (V4 a b c d) = blen a.toNat) := by
  have l := lim4 ha hb hc hd
  refine ⟨fun h => ?_, fun h1 h => ?_, fun h1 h2 h => ?_, fun h1 h2 h3 => ?_⟩
  · have hs : sz [a, b, c, d] = 4 := by simp [sz, h]
    have := blen_top l (by rw [hs]; omega)
    rw [hs] at this
    exact this
  · subst h1
    have hs : sz [a, b, c, 0] = 3 := by simp [sz, h]
    have := blen_top l (by rw [hs]; omega)
    rw [hs] at this
    exact this
  · subst h1 h2
    have hs : sz [a, b, 0, 0] = 2 := by simp [sz, h]
    have := blen_top l (by rw [hs]; omega)
    rw [hs] at this
    exact this
  · subst h1 h2 h3
    unfold V4; simp [val]
end Go.AM.LN
set_option maxRecDepth 20000
namespace Go.Proofs.AMT
open Go.AM Go.AM.LN
attribute [local congr] bindO_congr bindS_congr bindG_congr awpOps_congr aOne_congr awp_congr aCond_congr awpD_congr dOne_congr keysB_congr nOne_congr thenP_congr blockP_congr Chk_congr Brk_congr
noncomputable def s64 : Cs := fun ds => match ds with
  | [.v (.agg ⟨[.int .u64 a0, .int .u64 a1, .int .u64 a2, .int .u64 a3]⟩)] => some ((0 ≤ a0 ∧ a0 < 18446744073709551616) ∧ (0 ≤ a1 ∧ a1 < 18446744073709551616) ∧ (0 ≤ a2 ∧ a2 < 18446744073709551616) ∧ (0 ≤ a3 ∧ a3 < 18446744073709551616), .one (.v (.int .i64 (blen (V4 a0 a1 a2 a3)))))
  | _ => none
theorem s64_eq (a0 a1 a2 a3 : Int) : norm s64 [.v (.agg #[.int .u64 a0, .int .u64 a1, .int .u64 a2, .int .u64 a3])] = s64 [.v (.agg #[.int .u64 a0, .int .u64 a1, .int .u64 a2, .int .u64 a3])] := rfl
noncomputable def G64 : Gam := [(112, .body, norm s112)]
theorem G64_ok : Gk Tryz.prog G64 := Gc sound_112 Gn
theorem k64_112 : lk G64 112 = some (.body, norm s112) := rfl
theorem wk64 (a0 a1 a2 a3 : Int) (hp : (0 ≤ a0 ∧ a0 < 18446744073709551616) ∧ (0 ≤ a1 ∧ a1 < 18446744073709551616) ∧ (0 ≤ a2 ∧ a2 < 18446744073709551616) ∧ (0 ≤ a3 ∧ a3 < 18446744073709551616)) : awp ty G64 (code Tryz.f64) (retP ty Tryz.f64.results.toList (.one (.v (.int .i64 (blen (V4 a0 a1 a2 a3)))))) (entry 0 [.v (.agg #[.int .u64 a0, .int .u64 a1, .int .u64 a2, .int .u64 a3])]) [] := by
  unfold code
  simp only [Tryz.f64, Option.getD_some]
  have hl := blen_V4 hp.1 hp.2.1 hp.2.2.1 hp.2.2.2
  have z0 : a0 = 0 → blen a0.toNat = 0 := fun h => by rw [h]; rfl
  have q0 : blen a0.toNat ≤ 64 := blen_lt.2 (by omega)
  have q1 : blen a1.toNat ≤ 64 := blen_lt.2 (by omega)
  have q2 : blen a2.toNat ≤ 64 := blen_lt.2 (by omega)
  have q3 : blen a3.toNat ≤ 64 := blen_lt.2 (by omega)
  all_goals repeat' (first
 | ((with_reducible first | (refine ZA ?_; intro X hX) | (show awp _ _ _ _ (Kp _ _) _) | refine ZD ?_ | refine ZE ?_ | refine ZF ?_ | ((show Bg _ _ _ _ _); simp only [hall]) | (refine ZR ?_ ?_ <;> intro hb <;> (try simp only [hb]) <;> have hq := hb <;> try simp only [HQ] at hq)) <;> try simp only [Go.AM.SS, Nat.reduceAdd, Nat.reduceMul, Nat.reduceSub, ↓reduceIte, Nat.reduceEqDiff, Nat.reduceLT, Nat.reduceLeDiff, reduceCtorEq, Int.reduceBEq, Int.reduceBNe, Nat.reduceBEq, Int.reduceEq, Int.reduceToNat, Int.reduceLE, Int.reduceLT, Nat.reduceDiv, Int.reduceAdd, Int.reduceSub, Int.reduceMul, Int.reduceNeg, Int.reduceGT, Int.reduceGE, Nat.reduceMod, k64_112, s112.eq_1, s112_eq, ty_3, ty_22, ty_23, Int.mul_zero])
 | with_reducible first
 | (refine hX _ _ ?_; clear hX X)
 | (refine ZG ?_; try clear hall all)
 | (refine hK _ _ ?_; clear hK K)
 | refine ZL ?_
 | (refine v_0 _ _ ?_; try clear v_0 V_0)
 | (refine v_1 _ _ ?_; try clear v_1 V_1)
 | (refine v_2 _ _ ?_; try clear v_2 V_2)
    | (with_reducible refine awp_unroll (Nat.succ (Nat.succ (Nat.succ (Nat.succ (Nat.succ Nat.zero))))) ?_)
 | ((first | refine qr 6 [2] ?_ | refine Zh (a := .seq (.region 1 _ _) _) [] ?_ | refine qr 0 [1] ?_); intro V_0 v_0)
 | ((first | refine qb 1 [1,3] ?_ | refine Zh (a := .seq (.region 2 _ _) _) [1,3] ?_ | refine qr 1 [1,3] ?_); intro V_1 v_1)
 | ((first | refine qr 5 [2] ?_ | refine qr 4 [1,3,14] ?_ | refine qr 2 [1,3,8] ?_); intro V_2 v_2)
 | (refine ZM ?_; intro K hK)
 | (refine ZN ?_; intro all hall K hK)
 | (refine ZQ ?_ ?_)
 | (refine Zg ?_; simp only [↓reduceIte, Nat.reduceEqDiff])
 | refine ZS ?_ | refine ZT ?_ | refine ZU ?_ | refine ZV ?_ | refine ZW ?_ | refine ZX ?_ | refine ZY ?_ | refine ZZ ?_ | refine Za ?_ | refine Zb ?_ | refine Zc ?_ | refine Zd ?_ | refine Ze ?_ | refine Zf ?_)
  all_goals try clear v_2 V_2
  all_goals try clear v_1 V_1
  all_goals try clear v_0 V_0
  all_goals (try simp only [inR])
  all_goals first
    | omega
    | (refine congrArg _ ?_; omega)
theorem sound_64 : Sound Tryz.prog 64 .body (norm s64) := by
  refine sb Tryz.func64 rfl (by kernel_rfl) G64_ok (by kernel_rfl) fun ds p r hs hp => ?_
  unfold s64 at hs
  split at hs
  · cases hs; exact ⟨Nat.le_of_ble_eq_true (by kernel_rfl), wk64 _ _ _ _ hp⟩
  · cases hs
end Go.Proofs.AMT
