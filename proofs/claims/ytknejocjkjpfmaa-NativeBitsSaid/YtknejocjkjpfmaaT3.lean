/- Part T3 of the proof: own text. -/
import Derived.Test.YtknejocjkjpfmaaTC
set_option linter.all false
set_option maxRecDepth 20000
namespace Go.Proofs.AMT
open Go.AM
theorem ext_9 : Sound Try.prog 9 .ext sF32from := sound_f32from Try.func9 (by kernel_rfl) (by kernel_rfl) (by kernel_rfl) (by kernel_rfl)
theorem ext_11 : Sound Try.prog 11 .ext sF64bits := sound_f64bits Try.func11 (by kernel_rfl) (by kernel_rfl) (by kernel_rfl) (by kernel_rfl)
theorem ext_12 : Sound Try.prog 12 .ext sF64from := sound_f64from Try.func12 (by kernel_rfl) (by kernel_rfl) (by kernel_rfl) (by kernel_rfl)
theorem ext_14 : Sound Try.prog 14 .ext sF32bits := sound_f32bits Try.func14 (by kernel_rfl) (by kernel_rfl) (by kernel_rfl) (by kernel_rfl)
theorem ext_98 : Sound Try.prog 98 .ext sSub64 := sound_sub64 Try.func98 (by kernel_rfl) (by kernel_rfl) (by kernel_rfl) (by kernel_rfl)
theorem ext_99 : Sound Try.prog 99 .ext sAdd64 := sound_add64 Try.func99 (by kernel_rfl) (by kernel_rfl) (by kernel_rfl) (by kernel_rfl)
def extB : Gam := [(9, .ext, sF32from), (11, .ext, sF64bits), (12, .ext, sF64from), (14, .ext, sF32bits), (98, .ext, sSub64B), (99, .ext, sAdd64B), (70, .body, sCloneB)]
theorem extB_ok : GamOk Try.prog extB := by
  intro f fk spec h
  have h := lk_mem h
  simp only [extB, List.mem_cons, Prod.mk.injEq, List.not_mem_nil, or_false] at h
  rcases h with ⟨rfl, rfl, rfl⟩ | ⟨rfl, rfl, rfl⟩ | ⟨rfl, rfl, rfl⟩ | ⟨rfl, rfl, rfl⟩ | ⟨rfl, rfl, rfl⟩ | ⟨rfl, rfl, rfl⟩ | ⟨rfl, rfl, rfl⟩
  · exact ext_9
  · exact ext_11
  · exact ext_12
  · exact ext_14
  · exact sound_sub64B ext_98
  · exact sound_add64B ext_99
  · exact clone_soundB
theorem extB_free : Free extB := by
  intro f fk spec ds p r h hs
  have h := lk_mem h
  simp only [extB, List.mem_cons, Prod.mk.injEq, List.not_mem_nil, or_false] at h
  rcases h with ⟨rfl, rfl, rfl⟩ | ⟨rfl, rfl, rfl⟩ | ⟨rfl, rfl, rfl⟩ | ⟨rfl, rfl, rfl⟩ | ⟨rfl, rfl, rfl⟩ | ⟨rfl, rfl, rfl⟩ | ⟨rfl, rfl, rfl⟩
  · exact sF32from_free hs
  · exact sF64bits_free hs
  · exact sF64from_free hs
  · exact sF32bits_free hs
  · exact sSub64B_free hs
  · exact sAdd64B_free hs
  · exact sCloneB_free hs
noncomputable def bodies : Bodies := [(3, Try.f3), (4, Try.f4), (5, Try.f5), (6, Try.f6), (7, Try.f7), (8, Try.f8), (10, Try.f10), (13, Try.f13), (15, Try.f15), (16, Try.f16), (17, Try.f17), (18, Try.f18), (19, Try.f19), (20, Try.f20), (21, Try.f21), (22, Try.f22), (23, Try.f23), (24, Try.f24), (25, Try.f25), (26, Try.f26), (27, Try.f27), (28, Try.f28), (29, Try.f29), (30, Try.f30), (31, Try.f31), (32, Try.f32), (33, Try.f33), (34, Try.f34), (35, Try.f35), (36, Try.f36), (37, Try.f37), (38, Try.f38), (39, Try.f39), (40, Try.f40), (41, Try.f41), (42, Try.f42), (43, Try.f43), (44, Try.f44), (45, Try.f45), (46, Try.f46), (47, Try.f47), (48, Try.f48), (49, Try.f49), (50, Try.f50), (51, Try.f51), (52, Try.f52), (53, Try.f53), (54, Try.f54), (55, Try.f55), (56, Try.f56), (57, Try.f57), (58, Try.f58), (59, Try.f59), (60, Try.f60), (61, Try.f61), (62, Try.f62), (63, Try.f63), (64, Try.f64), (65, Try.f65), (66, Try.f66), (67, Try.f67), (68, Try.f68), (69, Try.f69), (71, Try.f71), (72, Try.f72), (73, Try.f73), (74, Try.f74), (75, Try.f75), (76, Try.f76), (77, Try.f77), (78, Try.f78), (79, Try.f79), (80, Try.f80), (81, Try.f81), (82, Try.f82), (83, Try.f83), (84, Try.f84), (85, Try.f85), (86, Try.f86), (87, Try.f87), (88, Try.f88), (89, Try.f89), (90, Try.f90), (91, Try.f91), (92, Try.f92), (93, Try.f93), (94, Try.f94), (95, Try.f95), (96, Try.f96), (97, Try.f97), (100, Try.f100), (101, Try.f101), (102, Try.f102), (103, Try.f103), (104, Try.f104), (105, Try.f105), (106, Try.f106), (107, Try.f107), (108, Try.f108)]
theorem bodies_ok : BodiesOk Try.prog bodies := by
  intro p h
  simp only [bodies, List.mem_cons, List.not_mem_nil, or_false] at h
  rcases h with rfl | rfl | rfl | rfl | rfl | rfl | rfl | rfl | rfl | rfl | rfl | rfl | rfl | rfl | rfl | rfl | rfl | rfl | rfl | rfl | rfl | rfl | rfl | rfl | rfl | rfl | rfl | rfl | rfl | rfl | rfl | rfl | rfl | rfl | rfl | rfl | rfl | rfl | rfl | rfl | rfl | rfl | rfl | rfl | rfl | rfl | rfl | rfl | rfl | rfl | rfl | rfl | rfl | rfl | rfl | rfl | rfl | rfl | rfl | rfl | rfl | rfl | rfl | rfl | rfl | rfl | rfl | rfl | rfl | rfl | rfl | rfl | rfl | rfl | rfl | rfl | rfl | rfl | rfl | rfl | rfl | rfl | rfl | rfl | rfl | rfl | rfl | rfl | rfl | rfl | rfl | rfl | rfl | rfl | rfl | rfl | rfl | rfl | rfl
  · exact ⟨Try.func3, by kernel_rfl, dstsB_ok (by kernel_rfl)⟩
  · exact ⟨Try.func4, by kernel_rfl, dstsB_ok (by kernel_rfl)⟩
  · exact ⟨Try.func5, by kernel_rfl, dstsB_ok (by kernel_rfl)⟩
  · exact ⟨Try.func6, by kernel_rfl, dstsB_ok (by kernel_rfl)⟩
  · exact ⟨Try.func7, by kernel_rfl, dstsB_ok (by kernel_rfl)⟩
  · exact ⟨Try.func8, by kernel_rfl, dstsB_ok (by kernel_rfl)⟩
  · exact ⟨Try.func10, by kernel_rfl, dstsB_ok (by kernel_rfl)⟩
  · exact ⟨Try.func13, by kernel_rfl, dstsB_ok (by kernel_rfl)⟩
  · exact ⟨Try.func15, by kernel_rfl, dstsB_ok (by kernel_rfl)⟩
  · exact ⟨Try.func16, by kernel_rfl, dstsB_ok (by kernel_rfl)⟩
  · exact ⟨Try.func17, by kernel_rfl, dstsB_ok (by kernel_rfl)⟩
  · exact ⟨Try.func18, by kernel_rfl, dstsB_ok (by kernel_rfl)⟩
  · exact ⟨Try.func19, by kernel_rfl, dstsB_ok (by kernel_rfl)⟩
  · exact ⟨Try.func20, by kernel_rfl, dstsB_ok (by kernel_rfl)⟩
  · exact ⟨Try.func21, by kernel_rfl, dstsB_ok (by kernel_rfl)⟩
  · exact ⟨Try.func22, by kernel_rfl, dstsB_ok (by kernel_rfl)⟩
  · exact ⟨Try.func23, by kernel_rfl, dstsB_ok (by kernel_rfl)⟩
  · exact ⟨Try.func24, by kernel_rfl, dstsB_ok (by kernel_rfl)⟩
  · exact ⟨Try.func25, by kernel_rfl, dstsB_ok (by kernel_rfl)⟩
  · exact ⟨Try.func26, by kernel_rfl, dstsB_ok (by kernel_rfl)⟩
  · exact ⟨Try.func27, by kernel_rfl, dstsB_ok (by kernel_rfl)⟩
  · exact ⟨Try.func28, by kernel_rfl, dstsB_ok (by kernel_rfl)⟩
  · exact ⟨Try.func29, by kernel_rfl, dstsB_ok (by kernel_rfl)⟩
  · exact ⟨Try.func30, by kernel_rfl, dstsB_ok (by kernel_rfl)⟩
  · exact ⟨Try.func31, by kernel_rfl, dstsB_ok (by kernel_rfl)⟩
  · exact ⟨Try.func32, by kernel_rfl, dstsB_ok (by kernel_rfl)⟩
  · exact ⟨Try.func33, by kernel_rfl, dstsB_ok (by kernel_rfl)⟩
  · exact ⟨Try.func34, by kernel_rfl, dstsB_ok (by kernel_rfl)⟩
  · exact ⟨Try.func35, by kernel_rfl, dstsB_ok (by kernel_rfl)⟩
  · exact ⟨Try.func36, by kernel_rfl, dstsB_ok (by kernel_rfl)⟩
  · exact ⟨Try.func37, by kernel_rfl, dstsB_ok (by kernel_rfl)⟩
  · exact ⟨Try.func38, by kernel_rfl, dstsB_ok (by kernel_rfl)⟩
  · exact ⟨Try.func39, by kernel_rfl, dstsB_ok (by kernel_rfl)⟩
  · exact ⟨Try.func40, by kernel_rfl, dstsB_ok (by kernel_rfl)⟩
  · exact ⟨Try.func41, by kernel_rfl, dstsB_ok (by kernel_rfl)⟩
  · exact ⟨Try.func42, by kernel_rfl, dstsB_ok (by kernel_rfl)⟩
  · exact ⟨Try.func43, by kernel_rfl, dstsB_ok (by kernel_rfl)⟩
  · exact ⟨Try.func44, by kernel_rfl, dstsB_ok (by kernel_rfl)⟩
  · exact ⟨Try.func45, by kernel_rfl, dstsB_ok (by kernel_rfl)⟩
  · exact ⟨Try.func46, by kernel_rfl, dstsB_ok (by kernel_rfl)⟩
  · exact ⟨Try.func47, by kernel_rfl, dstsB_ok (by kernel_rfl)⟩
  · exact ⟨Try.func48, by kernel_rfl, dstsB_ok (by kernel_rfl)⟩
  · exact ⟨Try.func49, by kernel_rfl, dstsB_ok (by kernel_rfl)⟩
  · exact ⟨Try.func50, by kernel_rfl, dstsB_ok (by kernel_rfl)⟩
  · exact ⟨Try.func51, by kernel_rfl, dstsB_ok (by kernel_rfl)⟩
  · exact ⟨Try.func52, by kernel_rfl, dstsB_ok (by kernel_rfl)⟩
  · exact ⟨Try.func53, by kernel_rfl, dstsB_ok (by kernel_rfl)⟩
  · exact ⟨Try.func54, by kernel_rfl, dstsB_ok (by kernel_rfl)⟩
  · exact ⟨Try.func55, by kernel_rfl, dstsB_ok (by kernel_rfl)⟩
  · exact ⟨Try.func56, by kernel_rfl, dstsB_ok (by kernel_rfl)⟩
  · exact ⟨Try.func57, by kernel_rfl, dstsB_ok (by kernel_rfl)⟩
  · exact ⟨Try.func58, by kernel_rfl, dstsB_ok (by kernel_rfl)⟩
  · exact ⟨Try.func59, by kernel_rfl, dstsB_ok (by kernel_rfl)⟩
  · exact ⟨Try.func60, by kernel_rfl, dstsB_ok (by kernel_rfl)⟩
  · exact ⟨Try.func61, by kernel_rfl, dstsB_ok (by kernel_rfl)⟩
  · exact ⟨Try.func62, by kernel_rfl, dstsB_ok (by kernel_rfl)⟩
  · exact ⟨Try.func63, by kernel_rfl, dstsB_ok (by kernel_rfl)⟩
  · exact ⟨Try.func64, by kernel_rfl, dstsB_ok (by kernel_rfl)⟩
  · exact ⟨Try.func65, by kernel_rfl, dstsB_ok (by kernel_rfl)⟩
  · exact ⟨Try.func66, by kernel_rfl, dstsB_ok (by kernel_rfl)⟩
  · exact ⟨Try.func67, by kernel_rfl, dstsB_ok (by kernel_rfl)⟩
  · exact ⟨Try.func68, by kernel_rfl, dstsB_ok (by kernel_rfl)⟩
  · exact ⟨Try.func69, by kernel_rfl, dstsB_ok (by kernel_rfl)⟩
  · exact ⟨Try.func71, by kernel_rfl, dstsB_ok (by kernel_rfl)⟩
  · exact ⟨Try.func72, by kernel_rfl, dstsB_ok (by kernel_rfl)⟩
  · exact ⟨Try.func73, by kernel_rfl, dstsB_ok (by kernel_rfl)⟩
  · exact ⟨Try.func74, by kernel_rfl, dstsB_ok (by kernel_rfl)⟩
  · exact ⟨Try.func75, by kernel_rfl, dstsB_ok (by kernel_rfl)⟩
  · exact ⟨Try.func76, by kernel_rfl, dstsB_ok (by kernel_rfl)⟩
  · exact ⟨Try.func77, by kernel_rfl, dstsB_ok (by kernel_rfl)⟩
  · exact ⟨Try.func78, by kernel_rfl, dstsB_ok (by kernel_rfl)⟩
  · exact ⟨Try.func79, by kernel_rfl, dstsB_ok (by kernel_rfl)⟩
  · exact ⟨Try.func80, by kernel_rfl, dstsB_ok (by kernel_rfl)⟩
  · exact ⟨Try.func81, by kernel_rfl, dstsB_ok (by kernel_rfl)⟩
  · exact ⟨Try.func82, by kernel_rfl, dstsB_ok (by kernel_rfl)⟩
  · exact ⟨Try.func83, by kernel_rfl, dstsB_ok (by kernel_rfl)⟩
  · exact ⟨Try.func84, by kernel_rfl, dstsB_ok (by kernel_rfl)⟩
  · exact ⟨Try.func85, by kernel_rfl, dstsB_ok (by kernel_rfl)⟩
  · exact ⟨Try.func86, by kernel_rfl, dstsB_ok (by kernel_rfl)⟩
  · exact ⟨Try.func87, by kernel_rfl, dstsB_ok (by kernel_rfl)⟩
  · exact ⟨Try.func88, by kernel_rfl, dstsB_ok (by kernel_rfl)⟩
  · exact ⟨Try.func89, by kernel_rfl, dstsB_ok (by kernel_rfl)⟩
  · exact ⟨Try.func90, by kernel_rfl, dstsB_ok (by kernel_rfl)⟩
  · exact ⟨Try.func91, by kernel_rfl, dstsB_ok (by kernel_rfl)⟩
  · exact ⟨Try.func92, by kernel_rfl, dstsB_ok (by kernel_rfl)⟩
  · exact ⟨Try.func93, by kernel_rfl, dstsB_ok (by kernel_rfl)⟩
  · exact ⟨Try.func94, by kernel_rfl, dstsB_ok (by kernel_rfl)⟩
  · exact ⟨Try.func95, by kernel_rfl, dstsB_ok (by kernel_rfl)⟩
  · exact ⟨Try.func96, by kernel_rfl, dstsB_ok (by kernel_rfl)⟩
  · exact ⟨Try.func97, by kernel_rfl, dstsB_ok (by kernel_rfl)⟩
  · exact ⟨Try.func100, by kernel_rfl, dstsB_ok (by kernel_rfl)⟩
  · exact ⟨Try.func101, by kernel_rfl, dstsB_ok (by kernel_rfl)⟩
  · exact ⟨Try.func102, by kernel_rfl, dstsB_ok (by kernel_rfl)⟩
  · exact ⟨Try.func103, by kernel_rfl, dstsB_ok (by kernel_rfl)⟩
  · exact ⟨Try.func104, by kernel_rfl, dstsB_ok (by kernel_rfl)⟩
  · exact ⟨Try.func105, by kernel_rfl, dstsB_ok (by kernel_rfl)⟩
  · exact ⟨Try.func106, by kernel_rfl, dstsB_ok (by kernel_rfl)⟩
  · exact ⟨Try.func107, by kernel_rfl, dstsB_ok (by kernel_rfl)⟩
  · exact ⟨Try.func108, by kernel_rfl, dstsB_ok (by kernel_rfl)⟩
theorem bodies_some : ∀ p ∈ bodies, p.2.body.isSome = true := by
  intro p h
  simp only [bodies, List.mem_cons, List.not_mem_nil, or_false] at h
  rcases h with rfl | rfl | rfl | rfl | rfl | rfl | rfl | rfl | rfl | rfl | rfl | rfl | rfl | rfl | rfl | rfl | rfl | rfl | rfl | rfl | rfl | rfl | rfl | rfl | rfl | rfl | rfl | rfl | rfl | rfl | rfl | rfl | rfl | rfl | rfl | rfl | rfl | rfl | rfl | rfl | rfl | rfl | rfl | rfl | rfl | rfl | rfl | rfl | rfl | rfl | rfl | rfl | rfl | rfl | rfl | rfl | rfl | rfl | rfl | rfl | rfl | rfl | rfl | rfl | rfl | rfl | rfl | rfl | rfl | rfl | rfl | rfl | rfl | rfl | rfl | rfl | rfl | rfl | rfl | rfl | rfl | rfl | rfl | rfl | rfl | rfl | rfl | rfl | rfl | rfl | rfl | rfl | rfl | rfl | rfl | rfl | rfl | rfl | rfl <;> exact dstsB_some (by kernel_rfl)
theorem gam (n : Nat) : GamOk Try.prog (GamN ty 100000 bodies extB n) ∧ Free (GamN ty 100000 bodies extB n) := GamN_ok (by kernel_rfl) tysOk extB_ok extB_free bodies_ok bodies_some n
end Go.Proofs.AMT
