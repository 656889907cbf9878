/- The tables of the abstract machine for this program: the types and the functions that the awake call comes to, and that they are the program's own. Printed by a program of ours (wip/tools/mktab2.py). No condition. -/
import Derived.Test.YtdmfdclkpdliaaaGreatDoorExj
import Derived.Test.YtdmfdclkpdliaaaGreatDoorProg
import Derived.KernelRfl
namespace Go.Proofs.YtdmfdclkpdliaaaGreatDoor
namespace Am
open Go
def TrAll {α : Type} (p : Nat → α → Prop) : Tr α → (Nat → Nat) → Prop
  | .lf, _ => True
  | .nd l v r, g => TrAll p l (fun k => g (2 * k + 1)) ∧ (∀ x, v = some x → p (g 0) x) ∧ TrAll p r (fun k => g (2 * k + 2))
noncomputable def ti3 : TI := ⟨.int .i64, 1, 8, [.int .i64 0], false, false⟩
theorem ti3_eq : tiGet Tryz.prog 3 = some ti3 := by kernel_rfl
noncomputable def ti4 : TI := ⟨.bool, 1, 1, [.bool false], false, false⟩
theorem ti4_eq : tiGet Tryz.prog 4 = some ti4 := by kernel_rfl
noncomputable def ti5 : TI := ⟨.int .u8, 1, 1, [.int .u8 0], false, false⟩
theorem ti5_eq : tiGet Tryz.prog 5 = some ti5 := by kernel_rfl
noncomputable def ti9 : TI := ⟨.string, 1, 16, [.str []], false, false⟩
theorem ti9_eq : tiGet Tryz.prog 9 = some ti9 := by kernel_rfl
noncomputable def ti22 : TI := ⟨.slice 81, 1, 24, [.nilslice], false, false⟩
theorem ti22_eq : tiGet Tryz.prog 22 = some ti22 := by kernel_rfl
noncomputable def ti24 : TI := ⟨.struct [(0, 22, false)], 1, 24, [.nilslice], true, true⟩
theorem ti24_eq : tiGet Tryz.prog 24 = some ti24 := by kernel_rfl
noncomputable def ti25 : TI := ⟨.slice 3, 1, 24, [.nilslice], false, false⟩
theorem ti25_eq : tiGet Tryz.prog 25 = some ti25 := by kernel_rfl
noncomputable def ti26 : TI := ⟨.int .u32, 1, 4, [.int .u32 0], false, false⟩
theorem ti26_eq : tiGet Tryz.prog 26 = some ti26 := by kernel_rfl
noncomputable def ti28 : TI := ⟨.struct [(0, 26, false), (1, 3, false)], 2, 16, [.int .u32 0, .int .i64 0], true, true⟩
theorem ti28_eq : tiGet Tryz.prog 28 = some ti28 := by kernel_rfl
noncomputable def ti30 : TI := ⟨.struct [(0, 3, false), (1, 3, false)], 2, 16, [.int .i64 0, .int .i64 0], true, true⟩
theorem ti30_eq : tiGet Tryz.prog 30 = some ti30 := by kernel_rfl
noncomputable def ti32 : TI := ⟨.struct [(0, 28, false), (2, 28, false), (4, 3, false), (5, 30, false), (7, 30, false)], 9, 72, [.int .u32 0, .int .i64 0, .int .u32 0, .int .i64 0, .int .i64 0, .int .i64 0, .int .i64 0, .int .i64 0, .int .i64 0], true, true⟩
theorem ti32_eq : tiGet Tryz.prog 32 = some ti32 := by kernel_rfl
noncomputable def ti34 : TI := ⟨.struct [(0, 3, false), (1, 9, false), (2, 9, false), (3, 9, false), (4, 9, false), (5, 9, false), (6, 28, false), (8, 28, false), (10, 32, false), (19, 3, false)], 20, 200, [.int .i64 0, .str [], .str [], .str [], .str [], .str [], .int .u32 0, .int .i64 0, .int .u32 0, .int .i64 0, .int .u32 0, .int .i64 0, .int .u32 0, .int .i64 0, .int .i64 0, .int .i64 0, .int .i64 0, .int .i64 0, .int .i64 0, .int .i64 0], true, true⟩
theorem ti34_eq : tiGet Tryz.prog 34 = some ti34 := by kernel_rfl
noncomputable def ti36 : TI := ⟨.struct [(0, 26, false), (1, 26, false), (2, 3, false), (3, 3, false), (4, 3, false)], 5, 32, [.int .u32 0, .int .u32 0, .int .i64 0, .int .i64 0, .int .i64 0], true, true⟩
theorem ti36_eq : tiGet Tryz.prog 36 = some ti36 := by kernel_rfl
noncomputable def ti39 : TI := ⟨.slice 181, 1, 24, [.nilslice], false, false⟩
theorem ti39_eq : tiGet Tryz.prog 39 = some ti39 := by kernel_rfl
noncomputable def ti41 : TI := ⟨.struct [(0, 39, false), (1, 25, false)], 2, 48, [.nilslice, .nilslice], true, true⟩
theorem ti41_eq : tiGet Tryz.prog 41 = some ti41 := by kernel_rfl
noncomputable def ti43 : TI := ⟨.struct [(0, 24, false), (1, 41, false), (3, 25, false)], 4, 96, [.nilslice, .nilslice, .nilslice, .nilslice], true, true⟩
theorem ti43_eq : tiGet Tryz.prog 43 = some ti43 := by kernel_rfl
noncomputable def ti44 : TI := ⟨.slice 167, 1, 24, [.nilslice], false, false⟩
theorem ti44_eq : tiGet Tryz.prog 44 = some ti44 := by kernel_rfl
noncomputable def ti46 : TI := ⟨.struct [(0, 3, false), (1, 3, false)], 2, 16, [.int .i64 0, .int .i64 0], true, true⟩
theorem ti46_eq : tiGet Tryz.prog 46 = some ti46 := by kernel_rfl
noncomputable def ti48 : TI := ⟨.struct [(0, 46, false), (2, 46, false), (4, 3, false)], 5, 40, [.int .i64 0, .int .i64 0, .int .i64 0, .int .i64 0, .int .i64 0], true, true⟩
theorem ti48_eq : tiGet Tryz.prog 48 = some ti48 := by kernel_rfl
noncomputable def ti58 : TI := ⟨.struct [(0, 46, false), (2, 36, false)], 7, 48, [.int .i64 0, .int .i64 0, .int .u32 0, .int .u32 0, .int .i64 0, .int .i64 0, .int .i64 0], true, true⟩
theorem ti58_eq : tiGet Tryz.prog 58 = some ti58 := by kernel_rfl
noncomputable def ti59 : TI := ⟨.slice 95, 1, 24, [.nilslice], false, false⟩
theorem ti59_eq : tiGet Tryz.prog 59 = some ti59 := by kernel_rfl
noncomputable def ti61 : TI := ⟨.struct [(0, 3, false), (1, 25, false), (2, 58, false), (9, 59, false), (10, 3, false), (11, 36, false)], 16, 144, [.int .i64 0, .nilslice, .int .i64 0, .int .i64 0, .int .u32 0, .int .u32 0, .int .i64 0, .int .i64 0, .int .i64 0, .nilslice, .int .i64 0, .int .u32 0, .int .u32 0, .int .i64 0, .int .i64 0, .int .i64 0], true, true⟩
theorem ti61_eq : tiGet Tryz.prog 61 = some ti61 := by kernel_rfl
noncomputable def ti62 : TI := ⟨.slice 83, 1, 24, [.nilslice], false, false⟩
theorem ti62_eq : tiGet Tryz.prog 62 = some ti62 := by kernel_rfl
noncomputable def ti63 : TI := ⟨.slice 244, 1, 24, [.nilslice], false, false⟩
theorem ti63_eq : tiGet Tryz.prog 63 = some ti63 := by kernel_rfl
noncomputable def ti64 : TI := ⟨.slice 251, 1, 24, [.nilslice], false, false⟩
theorem ti64_eq : tiGet Tryz.prog 64 = some ti64 := by kernel_rfl
noncomputable def ti65 : TI := ⟨.slice 258, 1, 24, [.nilslice], false, false⟩
theorem ti65_eq : tiGet Tryz.prog 65 = some ti65 := by kernel_rfl
noncomputable def ti66 : TI := ⟨.slice 266, 1, 24, [.nilslice], false, false⟩
theorem ti66_eq : tiGet Tryz.prog 66 = some ti66 := by kernel_rfl
noncomputable def ti67 : TI := ⟨.slice 269, 1, 24, [.nilslice], false, false⟩
theorem ti67_eq : tiGet Tryz.prog 67 = some ti67 := by kernel_rfl
noncomputable def ti68 : TI := ⟨.slice 272, 1, 24, [.nilslice], false, false⟩
theorem ti68_eq : tiGet Tryz.prog 68 = some ti68 := by kernel_rfl
noncomputable def ti69 : TI := ⟨.slice 275, 1, 24, [.nilslice], false, false⟩
theorem ti69_eq : tiGet Tryz.prog 69 = some ti69 := by kernel_rfl
noncomputable def ti71 : TI := ⟨.struct [(0, 4, false), (1, 3, false), (2, 68, false), (3, 69, false)], 4, 64, [.bool false, .int .i64 0, .nilslice, .nilslice], true, true⟩
theorem ti71_eq : tiGet Tryz.prog 71 = some ti71 := by kernel_rfl
noncomputable def ti73 : TI := ⟨.struct [(0, 4, false), (1, 3, false), (2, 9, false), (3, 9, false), (4, 69, false)], 5, 72, [.bool false, .int .i64 0, .str [], .str [], .nilslice], true, true⟩
theorem ti73_eq : tiGet Tryz.prog 73 = some ti73 := by kernel_rfl
noncomputable def ti74 : TI := ⟨.slice 278, 1, 24, [.nilslice], false, false⟩
theorem ti74_eq : tiGet Tryz.prog 74 = some ti74 := by kernel_rfl
noncomputable def ti75 : TI := ⟨.slice 28, 1, 24, [.nilslice], false, false⟩
theorem ti75_eq : tiGet Tryz.prog 75 = some ti75 := by kernel_rfl
noncomputable def ti76 : TI := ⟨.slice 282, 1, 24, [.nilslice], false, false⟩
theorem ti76_eq : tiGet Tryz.prog 76 = some ti76 := by kernel_rfl
noncomputable def ti77 : TI := ⟨.slice 285, 1, 24, [.nilslice], false, false⟩
theorem ti77_eq : tiGet Tryz.prog 77 = some ti77 := by kernel_rfl
noncomputable def ti79 : TI := ⟨.struct [(0, 4, false), (1, 3, false), (2, 3, false), (3, 74, false), (4, 75, false), (5, 76, false), (6, 77, false), (7, 69, false)], 8, 144, [.bool false, .int .i64 0, .int .i64 0, .nilslice, .nilslice, .nilslice, .nilslice, .nilslice], true, true⟩
theorem ti79_eq : tiGet Tryz.prog 79 = some ti79 := by kernel_rfl
noncomputable def ti81 : TI := ⟨.struct [(0, 9, false), (1, 3, false), (2, 62, false), (3, 63, false), (4, 64, false), (5, 65, false), (6, 66, false), (7, 67, false), (8, 71, false), (12, 73, false), (17, 79, false)], 25, 448, [.str [], .int .i64 0, .nilslice, .nilslice, .nilslice, .nilslice, .nilslice, .nilslice, .bool false, .int .i64 0, .nilslice, .nilslice, .bool false, .int .i64 0, .str [], .str [], .nilslice, .bool false, .int .i64 0, .int .i64 0, .nilslice, .nilslice, .nilslice, .nilslice, .nilslice], true, true⟩
theorem ti81_eq : tiGet Tryz.prog 81 = some ti81 := by kernel_rfl
noncomputable def ti83 : TI := ⟨.struct [(0, 9, false), (1, 26, false), (2, 3, false), (3, 3, false), (4, 4, false), (5, 4, false), (6, 3, false), (7, 3, false), (8, 4, false), (9, 9, false), (10, 9, false), (11, 3, false)], 12, 112, [.str [], .int .u32 0, .int .i64 0, .int .i64 0, .bool false, .bool false, .int .i64 0, .int .i64 0, .bool false, .str [], .str [], .int .i64 0], true, true⟩
theorem ti83_eq : tiGet Tryz.prog 83 = some ti83 := by kernel_rfl
noncomputable def ti84 : TI := ⟨.slice 9, 1, 24, [.nilslice], false, false⟩
theorem ti84_eq : tiGet Tryz.prog 84 = some ti84 := by kernel_rfl
noncomputable def ti95 : TI := ⟨.struct [(0, 3, false), (1, 46, false), (3, 36, false)], 8, 56, [.int .i64 0, .int .i64 0, .int .i64 0, .int .u32 0, .int .u32 0, .int .i64 0, .int .i64 0, .int .i64 0], true, true⟩
theorem ti95_eq : tiGet Tryz.prog 95 = some ti95 := by kernel_rfl
noncomputable def ti104 : TI := ⟨.slice 58, 1, 24, [.nilslice], false, false⟩
theorem ti104_eq : tiGet Tryz.prog 104 = some ti104 := by kernel_rfl
noncomputable def ti105 : TI := ⟨.slice 25, 1, 24, [.nilslice], false, false⟩
theorem ti105_eq : tiGet Tryz.prog 105 = some ti105 := by kernel_rfl
noncomputable def ti106 : TI := ⟨.slice 113, 1, 24, [.nilslice], false, false⟩
theorem ti106_eq : tiGet Tryz.prog 106 = some ti106 := by kernel_rfl
noncomputable def ti108 : TI := ⟨.struct [(0, 104, false), (1, 105, false), (2, 106, false), (3, 4, false)], 4, 80, [.nilslice, .nilslice, .nilslice, .bool false], true, true⟩
theorem ti108_eq : tiGet Tryz.prog 108 = some ti108 := by kernel_rfl
noncomputable def ti113 : TI := ⟨.struct [(0, 3, false), (1, 46, false)], 3, 24, [.int .i64 0, .int .i64 0, .int .i64 0], true, true⟩
theorem ti113_eq : tiGet Tryz.prog 113 = some ti113 := by kernel_rfl
noncomputable def ti150 : TI := ⟨.map 58 3, 1, 8, [.nilmap], false, false⟩
theorem ti150_eq : tiGet Tryz.prog 150 = some ti150 := by kernel_rfl
noncomputable def ti158 : TI := ⟨.slice 4, 1, 24, [.nilslice], false, false⟩
theorem ti158_eq : tiGet Tryz.prog 158 = some ti158 := by kernel_rfl
noncomputable def ti160 : TI := ⟨.slice 166, 1, 24, [.nilslice], false, false⟩
theorem ti160_eq : tiGet Tryz.prog 160 = some ti160 := by kernel_rfl
noncomputable def ti162 : TI := ⟨.struct [(0, 3, false), (1, 3, false), (2, 3, false), (3, 160, false)], 4, 48, [.int .i64 0, .int .i64 0, .int .i64 0, .nilslice], true, true⟩
theorem ti162_eq : tiGet Tryz.prog 162 = some ti162 := by kernel_rfl
noncomputable def ti164 : TI := ⟨.slice 219, 1, 24, [.nilslice], false, false⟩
theorem ti164_eq : tiGet Tryz.prog 164 = some ti164 := by kernel_rfl
noncomputable def ti166 : TI := ⟨.struct [(0, 164, false), (1, 164, false), (2, 164, false), (3, 164, false)], 4, 96, [.nilslice, .nilslice, .nilslice, .nilslice], true, true⟩
theorem ti166_eq : tiGet Tryz.prog 166 = some ti166 := by kernel_rfl
noncomputable def ti167 : TI := ⟨.slice 203, 1, 24, [.nilslice], false, false⟩
theorem ti167_eq : tiGet Tryz.prog 167 = some ti167 := by kernel_rfl
noncomputable def ti175 : TI := ⟨.slice 5, 1, 24, [.nilslice], false, false⟩
theorem ti175_eq : tiGet Tryz.prog 175 = some ti175 := by kernel_rfl
noncomputable def ti179 : TI := ⟨.slice 46, 1, 24, [.nilslice], false, false⟩
theorem ti179_eq : tiGet Tryz.prog 179 = some ti179 := by kernel_rfl
noncomputable def ti181 : TI := ⟨.struct [(0, 28, false), (2, 3, false), (3, 179, false)], 4, 48, [.int .u32 0, .int .i64 0, .int .i64 0, .nilslice], true, true⟩
theorem ti181_eq : tiGet Tryz.prog 181 = some ti181 := by kernel_rfl
noncomputable def ti189 : TI := ⟨.int .u64, 1, 8, [.int .u64 0], false, false⟩
theorem ti189_eq : tiGet Tryz.prog 189 = some ti189 := by kernel_rfl
noncomputable def ti201 : TI := ⟨.slice 205, 1, 24, [.nilslice], false, false⟩
theorem ti201_eq : tiGet Tryz.prog 201 = some ti201 := by kernel_rfl
noncomputable def ti203 : TI := ⟨.struct [(0, 28, false), (2, 201, false), (3, 4, false)], 4, 48, [.int .u32 0, .int .i64 0, .nilslice, .bool false], true, true⟩
theorem ti203_eq : tiGet Tryz.prog 203 = some ti203 := by kernel_rfl
noncomputable def ti205 : TI := ⟨.struct [(0, 3, false), (1, 26, false)], 2, 16, [.int .i64 0, .int .u32 0], true, true⟩
theorem ti205_eq : tiGet Tryz.prog 205 = some ti205 := by kernel_rfl
noncomputable def ti212 : TI := ⟨.slice 160, 1, 24, [.nilslice], false, false⟩
theorem ti212_eq : tiGet Tryz.prog 212 = some ti212 := by kernel_rfl
noncomputable def ti213 : TI := ⟨.int .u64, 1, 8, [.int .u64 0], false, false⟩
theorem ti213_eq : tiGet Tryz.prog 213 = some ti213 := by kernel_rfl
noncomputable def ti215 : TI := ⟨.slice 213, 1, 24, [.nilslice], false, false⟩
theorem ti215_eq : tiGet Tryz.prog 215 = some ti215 := by kernel_rfl
noncomputable def ti219 : TI := ⟨.struct [(0, 28, false), (2, 3, false), (3, 3, false), (4, 3, false), (5, 3, false), (6, 3, false), (7, 3, false), (8, 3, false), (9, 25, false), (10, 26, false), (11, 26, false), (12, 201, false), (13, 4, false)], 14, 136, [.int .u32 0, .int .i64 0, .int .i64 0, .int .i64 0, .int .i64 0, .int .i64 0, .int .i64 0, .int .i64 0, .int .i64 0, .nilslice, .int .u32 0, .int .u32 0, .nilslice, .bool false], true, true⟩
theorem ti219_eq : tiGet Tryz.prog 219 = some ti219 := by kernel_rfl
noncomputable def ti232 : TI := ⟨.func, 1, 8, [.nilfunc], false, false⟩
theorem ti232_eq : tiGet Tryz.prog 232 = some ti232 := by kernel_rfl
noncomputable def ti234 : TI := ⟨.map 237 3, 1, 8, [.nilmap], false, false⟩
theorem ti234_eq : tiGet Tryz.prog 234 = some ti234 := by kernel_rfl
noncomputable def ti237 : TI := ⟨.struct [(0, 28, false), (2, 3, false)], 3, 24, [.int .u32 0, .int .i64 0, .int .i64 0], true, true⟩
theorem ti237_eq : tiGet Tryz.prog 237 = some ti237 := by kernel_rfl
noncomputable def ti312 : TI := ⟨.slice 164, 1, 24, [.nilslice], false, false⟩
theorem ti312_eq : tiGet Tryz.prog 312 = some ti312 := by kernel_rfl
noncomputable def ti329 : TI := ⟨.slice 232, 1, 24, [.nilslice], false, false⟩
theorem ti329_eq : tiGet Tryz.prog 329 = some ti329 := by kernel_rfl
noncomputable def ti429 : TI := ⟨.slice 433, 1, 24, [.nilslice], false, false⟩
theorem ti429_eq : tiGet Tryz.prog 429 = some ti429 := by kernel_rfl
noncomputable def ti431 : TI := ⟨.struct [(0, 43, false), (4, 3, false), (5, 429, false)], 6, 128, [.nilslice, .nilslice, .nilslice, .nilslice, .int .i64 0, .nilslice], true, true⟩
theorem ti431_eq : tiGet Tryz.prog 431 = some ti431 := by kernel_rfl
noncomputable def ti433 : TI := ⟨.pointer, 1, 8, [.nilptr], false, false⟩
theorem ti433_eq : tiGet Tryz.prog 433 = some ti433 := by kernel_rfl
noncomputable def tiTab : Tr TI := (.nd (.nd (.nd (.nd (.nd (.nd (.nd .lf (some ti63) .lf) none (.nd .lf (some ti95) .lf)) none (.nd (.nd .lf (some ti79) .lf) none (.nd (.nd .lf (some ti175) (.nd .lf (some ti431) .lf)) none .lf))) none (.nd (.nd (.nd .lf (some ti71) .lf) (some ti39) (.nd (.nd .lf (some ti167) .lf) none .lf)) none (.nd (.nd .lf none (.nd .lf (some ti215) .lf)) none .lf))) (some ti3) (.nd (.nd (.nd (.nd .lf (some ti67) .lf) none .lf) none (.nd (.nd .lf (some ti83) .lf) none (.nd (.nd .lf (some ti179) .lf) none .lf))) none (.nd (.nd (.nd .lf (some ti75) (.nd .lf (some ti203) .lf)) (some ti43) .lf) none (.nd (.nd .lf none (.nd .lf (some ti219) .lf)) (some ti59) .lf)))) none (.nd (.nd (.nd (.nd (.nd .lf (some ti65) .lf) none .lf) none (.nd (.nd .lf (some ti81) .lf) none (.nd (.nd .lf none (.nd .lf (some ti433) .lf)) (some ti113) .lf))) (some ti9) (.nd (.nd (.nd .lf (some ti73) (.nd (.nd .lf (some ti329) .lf) (some ti201) .lf)) (some ti41) (.nd .lf (some ti105) .lf)) (some ti25) .lf)) (some ti5) (.nd (.nd (.nd (.nd .lf (some ti69) .lf) none .lf) none (.nd (.nd .lf none (.nd .lf (some ti213) .lf)) none (.nd (.nd .lf (some ti181) .lf) none .lf))) none (.nd (.nd (.nd .lf (some ti77) (.nd .lf (some ti205) .lf)) none (.nd (.nd .lf none (.nd .lf (some ti429) .lf)) none (.nd .lf (some ti237) .lf))) none (.nd .lf (some ti61) (.nd (.nd .lf (some ti189) .lf) none .lf)))))) none (.nd (.nd (.nd (.nd (.nd (.nd .lf (some ti64) .lf) (some ti32) (.nd (.nd .lf (some ti160) .lf) none .lf)) none (.nd .lf (some ti48) .lf)) none (.nd (.nd .lf none (.nd .lf (some ti104) (.nd .lf (some ti232) .lf))) (some ti24) (.nd .lf none (.nd (.nd (.nd .lf (some ti312) .lf) none .lf) none .lf)))) (some ti4) (.nd (.nd (.nd (.nd .lf (some ti68) .lf) (some ti36) (.nd (.nd .lf (some ti164) .lf) none .lf)) none (.nd (.nd .lf (some ti84) (.nd .lf (some ti212) .lf)) none .lf)) none (.nd (.nd (.nd .lf (some ti76) .lf) (some ti44) (.nd .lf (some ti108) .lf)) (some ti28) .lf))) none (.nd (.nd (.nd (.nd (.nd .lf (some ti66) .lf) (some ti34) (.nd (.nd .lf (some ti162) .lf) none .lf)) none .lf) none (.nd (.nd (.nd .lf (some ti74) .lf) none (.nd .lf (some ti106) (.nd .lf (some ti234) .lf))) (some ti26) (.nd .lf (some ti58) .lf))) none (.nd (.nd (.nd .lf none (.nd (.nd .lf (some ti166) .lf) none .lf)) (some ti22) (.nd (.nd (.nd .lf (some ti150) .lf) none .lf) none .lf)) none (.nd (.nd .lf (some ti46) .lf) (some ti30) (.nd (.nd (.nd .lf (some ti158) .lf) none .lf) (some ti62) .lf))))))
noncomputable def fnTab : Tr (Func × List Tmp) := (.nd (.nd (.nd (.nd (.nd (.nd (.nd (.nd .lf (some (Tryz.f127, [])) (.nd .lf (some (Tryz.f383, [])) .lf)) (some (Tryz.f63, [])) (.nd .lf (some (Tryz.f191, [])) .lf)) none (.nd (.nd (.nd .lf (some (Tryz.f287, [])) .lf) none .lf) (some (Tryz.f95, [])) (.nd .lf (some (Tryz.f223, [])) .lf))) (some (Tryz.f15, [])) (.nd .lf (some (Tryz.f47, [])) (.nd (.nd .lf (some (Tryz.f175, [])) .lf) (some (Tryz.f111, [])) .lf))) none (.nd (.nd (.nd .lf (some (Tryz.f71, [])) .lf) (some (Tryz.f39, [])) (.nd (.nd .lf (some (Tryz.f167, [])) .lf) (some (Tryz.f103, [])) (.nd .lf (some (Tryz.f231, [])) .lf))) none (.nd (.nd (.nd (.nd .lf (some (Tryz.f279, [])) .lf) none .lf) (some (Tryz.f87, [])) .lf) (some (Tryz.f55, [])) (.nd (.nd .lf (some (Tryz.f183, [])) .lf) (some (Tryz.f119, [])) .lf)))) none (.nd (.nd (.nd (.nd (.nd .lf (some (Tryz.f131, [])) .lf) (some (Tryz.f67, [])) .lf) (some (Tryz.f35, [])) (.nd .lf (some (Tryz.f99, [])) (.nd .lf (some (Tryz.f227, [])) .lf))) (some (Tryz.f19, [])) (.nd (.nd (.nd (.nd .lf (some (Tryz.f275, [])) .lf) none .lf) (some (Tryz.f83, [])) .lf) (some (Tryz.f51, [])) (.nd (.nd (.nd .lf (some (Tryz.f307, [])) .lf) none .lf) (some (Tryz.f115, [])) .lf))) none (.nd (.nd (.nd (.nd .lf (some (Tryz.f139, [])) .lf) (some (Tryz.f75, [])) .lf) none (.nd (.nd .lf (some (Tryz.f171, [])) .lf) (some (Tryz.f107, [5])) (.nd .lf (some (Tryz.f235, [])) .lf))) (some (Tryz.f27, [])) (.nd (.nd (.nd (.nd .lf (some (Tryz.f283, [])) .lf) (some (Tryz.f155, [])) .lf) (some (Tryz.f91, [])) (.nd .lf (some (Tryz.f219, [])) .lf)) (some (Tryz.f59, [])) (.nd (.nd .lf (some (Tryz.f187, [])) .lf) (some (Tryz.f123, [])) .lf))))) none (.nd (.nd (.nd (.nd (.nd (.nd .lf (some (Tryz.f129, [])) .lf) (some (Tryz.f65, [])) .lf) (some (Tryz.f33, [])) (.nd .lf none (.nd .lf (some (Tryz.f225, [])) .lf))) none (.nd (.nd (.nd .lf (some (Tryz.f145, [])) .lf) (some (Tryz.f81, [])) .lf) none .lf)) (some (Tryz.f9, [12])) (.nd (.nd (.nd (.nd (.nd .lf (some (Tryz.f265, [54, 17])) .lf) (some (Tryz.f137, [])) .lf) (some (Tryz.f73, [])) .lf) none (.nd (.nd .lf (some (Tryz.f169, [])) .lf) (some (Tryz.f105, [])) .lf)) none (.nd (.nd .lf (some (Tryz.f89, [3])) (.nd (.nd .lf (some (Tryz.f345, [])) .lf) none .lf)) (some (Tryz.f57, [])) (.nd (.nd (.nd .lf (some (Tryz.f313, [9])) .lf) (some (Tryz.f185, [])) .lf) (some (Tryz.f121, [])) .lf)))) (some (Tryz.f5, [])) (.nd (.nd (.nd (.nd (.nd .lf (some (Tryz.f133, [])) .lf) none .lf) (some (Tryz.f37, [])) (.nd (.nd .lf (some (Tryz.f165, [])) .lf) (some (Tryz.f101, [])) (.nd .lf (some (Tryz.f229, [])) .lf))) (some (Tryz.f21, [])) (.nd (.nd .lf (some (Tryz.f85, [])) .lf) none (.nd (.nd .lf (some (Tryz.f181, [7])) .lf) none .lf))) (some (Tryz.f13, [])) (.nd (.nd (.nd (.nd (.nd .lf (some (Tryz.f269, [])) .lf) none .lf) none .lf) (some (Tryz.f45, [])) (.nd .lf none (.nd (.nd .lf (some (Tryz.f365, [])) .lf) (some (Tryz.f237, [])) .lf))) (some (Tryz.f29, [])) (.nd (.nd (.nd (.nd .lf (some (Tryz.f285, [])) .lf) none .lf) (some (Tryz.f93, [])) (.nd .lf (some (Tryz.f221, [])) .lf)) (some (Tryz.f61, [])) (.nd (.nd .lf (some (Tryz.f189, [])) .lf) (some (Tryz.f125, [])) .lf)))))) none (.nd (.nd (.nd (.nd (.nd (.nd (.nd .lf (some (Tryz.f128, [])) .lf) (some (Tryz.f64, [])) (.nd .lf (some (Tryz.f192, [])) .lf)) none (.nd .lf (some (Tryz.f96, [])) (.nd .lf (some (Tryz.f224, [])) .lf))) (some (Tryz.f16, [])) (.nd (.nd .lf none (.nd (.nd .lf (some (Tryz.f336, [])) .lf) none .lf)) (some (Tryz.f48, [])) (.nd .lf (some (Tryz.f112, [])) .lf))) none (.nd (.nd (.nd (.nd .lf (some (Tryz.f136, [])) .lf) none .lf) (some (Tryz.f40, [])) (.nd (.nd .lf (some (Tryz.f168, [])) .lf) (some (Tryz.f104, [])) .lf)) none (.nd (.nd (.nd (.nd .lf (some (Tryz.f280, [])) .lf) none .lf) (some (Tryz.f88, [])) (.nd (.nd .lf (some (Tryz.f344, [])) .lf) none .lf)) (some (Tryz.f56, [])) (.nd (.nd (.nd .lf (some (Tryz.f312, [])) .lf) (some (Tryz.f184, [])) .lf) none .lf)))) none (.nd (.nd (.nd (.nd (.nd .lf (some (Tryz.f132, [])) .lf) (some (Tryz.f68, [])) (.nd .lf (some (Tryz.f196, [])) .lf)) (some (Tryz.f36, [])) (.nd (.nd .lf (some (Tryz.f164, [])) .lf) (some (Tryz.f100, [])) (.nd .lf (some (Tryz.f228, [])) .lf))) (some (Tryz.f20, [])) (.nd (.nd (.nd (.nd .lf (some (Tryz.f276, [])) .lf) none .lf) none .lf) none (.nd (.nd (.nd .lf (some (Tryz.f308, [])) .lf) none .lf) none (.nd .lf (some (Tryz.f244, [])) .lf)))) none (.nd (.nd (.nd (.nd .lf (some (Tryz.f140, [])) .lf) (some (Tryz.f76, [])) .lf) (some (Tryz.f44, [])) (.nd (.nd .lf (some (Tryz.f172, [])) .lf) none .lf)) (some (Tryz.f28, [])) (.nd (.nd (.nd (.nd .lf (some (Tryz.f284, [])) .lf) (some (Tryz.f156, [])) .lf) (some (Tryz.f92, [])) (.nd .lf (some (Tryz.f220, [18])) .lf)) (some (Tryz.f60, [])) (.nd (.nd .lf (some (Tryz.f188, [])) .lf) none .lf))))) none (.nd (.nd (.nd (.nd (.nd (.nd .lf (some (Tryz.f130, [])) .lf) (some (Tryz.f66, [])) .lf) none (.nd .lf (some (Tryz.f98, [])) (.nd .lf (some (Tryz.f226, [])) .lf))) none (.nd (.nd .lf (some (Tryz.f82, [])) (.nd (.nd .lf (some (Tryz.f338, [])) .lf) none .lf)) (some (Tryz.f50, [])) (.nd (.nd (.nd .lf (some (Tryz.f306, [])) .lf) none .lf) (some (Tryz.f114, [])) (.nd (.nd .lf (some (Tryz.f370, [])) .lf) none .lf)))) (some (Tryz.f10, [])) (.nd (.nd (.nd (.nd (.nd .lf (some (Tryz.f266, [])) .lf) (some (Tryz.f138, [])) .lf) (some (Tryz.f74, [])) .lf) none (.nd (.nd .lf (some (Tryz.f170, [])) .lf) (some (Tryz.f106, [])) (.nd .lf (some (Tryz.f234, [])) .lf))) (some (Tryz.f26, [])) (.nd (.nd (.nd (.nd .lf (some (Tryz.f282, [])) .lf) none .lf) (some (Tryz.f90, [3])) .lf) (some (Tryz.f58, [])) (.nd (.nd (.nd .lf (some (Tryz.f314, [])) .lf) (some (Tryz.f186, [])) .lf) none .lf)))) (some (Tryz.f6, [])) (.nd (.nd (.nd (.nd (.nd .lf (some (Tryz.f134, [])) .lf) none .lf) (some (Tryz.f38, [])) (.nd (.nd .lf (some (Tryz.f166, [])) .lf) (some (Tryz.f102, [])) (.nd .lf (some (Tryz.f230, [])) .lf))) none (.nd (.nd .lf (some (Tryz.f86, [])) .lf) (some (Tryz.f54, [])) (.nd (.nd .lf (some (Tryz.f182, [])) .lf) (some (Tryz.f118, [])) .lf))) (some (Tryz.f14, [])) (.nd (.nd .lf (some (Tryz.f46, [])) (.nd (.nd .lf (some (Tryz.f174, [])) .lf) none .lf)) none (.nd (.nd (.nd (.nd .lf (some (Tryz.f286, [])) .lf) none .lf) none (.nd (.nd .lf (some (Tryz.f350, [])) .lf) (some (Tryz.f222, [])) .lf)) none (.nd (.nd .lf (some (Tryz.f190, [])) .lf) (some (Tryz.f126, [])) .lf)))))))
theorem tiTab_all : TrAll (fun t i => tiGet Tryz.prog t = some i) tiTab id := ⟨⟨⟨⟨⟨⟨⟨trivial, (fun _ h => Option.some.inj h ▸ ti63_eq), trivial⟩, (fun _ h => by cases h), ⟨trivial, (fun _ h => Option.some.inj h ▸ ti95_eq), trivial⟩⟩, (fun _ h => by cases h), ⟨⟨trivial, (fun _ h => Option.some.inj h ▸ ti79_eq), trivial⟩, (fun _ h => by cases h), ⟨⟨trivial, (fun _ h => Option.some.inj h ▸ ti175_eq), ⟨trivial, (fun _ h => Option.some.inj h ▸ ti431_eq), trivial⟩⟩, (fun _ h => by cases h), trivial⟩⟩⟩, (fun _ h => by cases h), ⟨⟨⟨trivial, (fun _ h => Option.some.inj h ▸ ti71_eq), trivial⟩, (fun _ h => Option.some.inj h ▸ ti39_eq), ⟨⟨trivial, (fun _ h => Option.some.inj h ▸ ti167_eq), trivial⟩, (fun _ h => by cases h), trivial⟩⟩, (fun _ h => by cases h), ⟨⟨trivial, (fun _ h => by cases h), ⟨trivial, (fun _ h => Option.some.inj h ▸ ti215_eq), trivial⟩⟩, (fun _ h => by cases h), trivial⟩⟩⟩, (fun _ h => Option.some.inj h ▸ ti3_eq), ⟨⟨⟨⟨trivial, (fun _ h => Option.some.inj h ▸ ti67_eq), trivial⟩, (fun _ h => by cases h), trivial⟩, (fun _ h => by cases h), ⟨⟨trivial, (fun _ h => Option.some.inj h ▸ ti83_eq), trivial⟩, (fun _ h => by cases h), ⟨⟨trivial, (fun _ h => Option.some.inj h ▸ ti179_eq), trivial⟩, (fun _ h => by cases h), trivial⟩⟩⟩, (fun _ h => by cases h), ⟨⟨⟨trivial, (fun _ h => Option.some.inj h ▸ ti75_eq), ⟨trivial, (fun _ h => Option.some.inj h ▸ ti203_eq), trivial⟩⟩, (fun _ h => Option.some.inj h ▸ ti43_eq), trivial⟩, (fun _ h => by cases h), ⟨⟨trivial, (fun _ h => by cases h), ⟨trivial, (fun _ h => Option.some.inj h ▸ ti219_eq), trivial⟩⟩, (fun _ h => Option.some.inj h ▸ ti59_eq), trivial⟩⟩⟩⟩, (fun _ h => by cases h), ⟨⟨⟨⟨⟨trivial, (fun _ h => Option.some.inj h ▸ ti65_eq), trivial⟩, (fun _ h => by cases h), trivial⟩, (fun _ h => by cases h), ⟨⟨trivial, (fun _ h => Option.some.inj h ▸ ti81_eq), trivial⟩, (fun _ h => by cases h), ⟨⟨trivial, (fun _ h => by cases h), ⟨trivial, (fun _ h => Option.some.inj h ▸ ti433_eq), trivial⟩⟩, (fun _ h => Option.some.inj h ▸ ti113_eq), trivial⟩⟩⟩, (fun _ h => Option.some.inj h ▸ ti9_eq), ⟨⟨⟨trivial, (fun _ h => Option.some.inj h ▸ ti73_eq), ⟨⟨trivial, (fun _ h => Option.some.inj h ▸ ti329_eq), trivial⟩, (fun _ h => Option.some.inj h ▸ ti201_eq), trivial⟩⟩, (fun _ h => Option.some.inj h ▸ ti41_eq), ⟨trivial, (fun _ h => Option.some.inj h ▸ ti105_eq), trivial⟩⟩, (fun _ h => Option.some.inj h ▸ ti25_eq), trivial⟩⟩, (fun _ h => Option.some.inj h ▸ ti5_eq), ⟨⟨⟨⟨trivial, (fun _ h => Option.some.inj h ▸ ti69_eq), trivial⟩, (fun _ h => by cases h), trivial⟩, (fun _ h => by cases h), ⟨⟨trivial, (fun _ h => by cases h), ⟨trivial, (fun _ h => Option.some.inj h ▸ ti213_eq), trivial⟩⟩, (fun _ h => by cases h), ⟨⟨trivial, (fun _ h => Option.some.inj h ▸ ti181_eq), trivial⟩, (fun _ h => by cases h), trivial⟩⟩⟩, (fun _ h => by cases h), ⟨⟨⟨trivial, (fun _ h => Option.some.inj h ▸ ti77_eq), ⟨trivial, (fun _ h => Option.some.inj h ▸ ti205_eq), trivial⟩⟩, (fun _ h => by cases h), ⟨⟨trivial, (fun _ h => by cases h), ⟨trivial, (fun _ h => Option.some.inj h ▸ ti429_eq), trivial⟩⟩, (fun _ h => by cases h), ⟨trivial, (fun _ h => Option.some.inj h ▸ ti237_eq), trivial⟩⟩⟩, (fun _ h => by cases h), ⟨trivial, (fun _ h => Option.some.inj h ▸ ti61_eq), ⟨⟨trivial, (fun _ h => Option.some.inj h ▸ ti189_eq), trivial⟩, (fun _ h => by cases h), trivial⟩⟩⟩⟩⟩⟩, (fun _ h => by cases h), ⟨⟨⟨⟨⟨⟨trivial, (fun _ h => Option.some.inj h ▸ ti64_eq), trivial⟩, (fun _ h => Option.some.inj h ▸ ti32_eq), ⟨⟨trivial, (fun _ h => Option.some.inj h ▸ ti160_eq), trivial⟩, (fun _ h => by cases h), trivial⟩⟩, (fun _ h => by cases h), ⟨trivial, (fun _ h => Option.some.inj h ▸ ti48_eq), trivial⟩⟩, (fun _ h => by cases h), ⟨⟨trivial, (fun _ h => by cases h), ⟨trivial, (fun _ h => Option.some.inj h ▸ ti104_eq), ⟨trivial, (fun _ h => Option.some.inj h ▸ ti232_eq), trivial⟩⟩⟩, (fun _ h => Option.some.inj h ▸ ti24_eq), ⟨trivial, (fun _ h => by cases h), ⟨⟨⟨trivial, (fun _ h => Option.some.inj h ▸ ti312_eq), trivial⟩, (fun _ h => by cases h), trivial⟩, (fun _ h => by cases h), trivial⟩⟩⟩⟩, (fun _ h => Option.some.inj h ▸ ti4_eq), ⟨⟨⟨⟨trivial, (fun _ h => Option.some.inj h ▸ ti68_eq), trivial⟩, (fun _ h => Option.some.inj h ▸ ti36_eq), ⟨⟨trivial, (fun _ h => Option.some.inj h ▸ ti164_eq), trivial⟩, (fun _ h => by cases h), trivial⟩⟩, (fun _ h => by cases h), ⟨⟨trivial, (fun _ h => Option.some.inj h ▸ ti84_eq), ⟨trivial, (fun _ h => Option.some.inj h ▸ ti212_eq), trivial⟩⟩, (fun _ h => by cases h), trivial⟩⟩, (fun _ h => by cases h), ⟨⟨⟨trivial, (fun _ h => Option.some.inj h ▸ ti76_eq), trivial⟩, (fun _ h => Option.some.inj h ▸ ti44_eq), ⟨trivial, (fun _ h => Option.some.inj h ▸ ti108_eq), trivial⟩⟩, (fun _ h => Option.some.inj h ▸ ti28_eq), trivial⟩⟩⟩, (fun _ h => by cases h), ⟨⟨⟨⟨⟨trivial, (fun _ h => Option.some.inj h ▸ ti66_eq), trivial⟩, (fun _ h => Option.some.inj h ▸ ti34_eq), ⟨⟨trivial, (fun _ h => Option.some.inj h ▸ ti162_eq), trivial⟩, (fun _ h => by cases h), trivial⟩⟩, (fun _ h => by cases h), trivial⟩, (fun _ h => by cases h), ⟨⟨⟨trivial, (fun _ h => Option.some.inj h ▸ ti74_eq), trivial⟩, (fun _ h => by cases h), ⟨trivial, (fun _ h => Option.some.inj h ▸ ti106_eq), ⟨trivial, (fun _ h => Option.some.inj h ▸ ti234_eq), trivial⟩⟩⟩, (fun _ h => Option.some.inj h ▸ ti26_eq), ⟨trivial, (fun _ h => Option.some.inj h ▸ ti58_eq), trivial⟩⟩⟩, (fun _ h => by cases h), ⟨⟨⟨trivial, (fun _ h => by cases h), ⟨⟨trivial, (fun _ h => Option.some.inj h ▸ ti166_eq), trivial⟩, (fun _ h => by cases h), trivial⟩⟩, (fun _ h => Option.some.inj h ▸ ti22_eq), ⟨⟨⟨trivial, (fun _ h => Option.some.inj h ▸ ti150_eq), trivial⟩, (fun _ h => by cases h), trivial⟩, (fun _ h => by cases h), trivial⟩⟩, (fun _ h => by cases h), ⟨⟨trivial, (fun _ h => Option.some.inj h ▸ ti46_eq), trivial⟩, (fun _ h => Option.some.inj h ▸ ti30_eq), ⟨⟨⟨trivial, (fun _ h => Option.some.inj h ▸ ti158_eq), trivial⟩, (fun _ h => by cases h), trivial⟩, (fun _ h => Option.some.inj h ▸ ti62_eq), trivial⟩⟩⟩⟩⟩⟩
theorem fn5_ok : Tryz.prog.funcs[5]? = some Tryz.f5 ∧ (Tryz.f5.name == "runtime.NumGoroutine") = false := ⟨Tryz.func5, by kernel_rfl⟩
theorem fn6_ok : Tryz.prog.funcs[6]? = some Tryz.f6 ∧ (Tryz.f6.name == "runtime.NumGoroutine") = false := ⟨Tryz.func6, by kernel_rfl⟩
theorem fn9_ok : Tryz.prog.funcs[9]? = some Tryz.f9 ∧ (Tryz.f9.name == "runtime.NumGoroutine") = false := ⟨Tryz.func9, by kernel_rfl⟩
theorem fn10_ok : Tryz.prog.funcs[10]? = some Tryz.f10 ∧ (Tryz.f10.name == "runtime.NumGoroutine") = false := ⟨Tryz.func10, by kernel_rfl⟩
theorem fn13_ok : Tryz.prog.funcs[13]? = some Tryz.f13 ∧ (Tryz.f13.name == "runtime.NumGoroutine") = false := ⟨Tryz.func13, by kernel_rfl⟩
theorem fn14_ok : Tryz.prog.funcs[14]? = some Tryz.f14 ∧ (Tryz.f14.name == "runtime.NumGoroutine") = false := ⟨Tryz.func14, by kernel_rfl⟩
theorem fn15_ok : Tryz.prog.funcs[15]? = some Tryz.f15 ∧ (Tryz.f15.name == "runtime.NumGoroutine") = false := ⟨Tryz.func15, by kernel_rfl⟩
theorem fn16_ok : Tryz.prog.funcs[16]? = some Tryz.f16 ∧ (Tryz.f16.name == "runtime.NumGoroutine") = false := ⟨Tryz.func16, by kernel_rfl⟩
theorem fn19_ok : Tryz.prog.funcs[19]? = some Tryz.f19 ∧ (Tryz.f19.name == "runtime.NumGoroutine") = false := ⟨Tryz.func19, by kernel_rfl⟩
theorem fn20_ok : Tryz.prog.funcs[20]? = some Tryz.f20 ∧ (Tryz.f20.name == "runtime.NumGoroutine") = false := ⟨Tryz.func20, by kernel_rfl⟩
theorem fn21_ok : Tryz.prog.funcs[21]? = some Tryz.f21 ∧ (Tryz.f21.name == "runtime.NumGoroutine") = false := ⟨Tryz.func21, by kernel_rfl⟩
theorem fn26_ok : Tryz.prog.funcs[26]? = some Tryz.f26 ∧ (Tryz.f26.name == "runtime.NumGoroutine") = false := ⟨Tryz.func26, by kernel_rfl⟩
theorem fn27_ok : Tryz.prog.funcs[27]? = some Tryz.f27 ∧ (Tryz.f27.name == "runtime.NumGoroutine") = false := ⟨Tryz.func27, by kernel_rfl⟩
theorem fn28_ok : Tryz.prog.funcs[28]? = some Tryz.f28 ∧ (Tryz.f28.name == "runtime.NumGoroutine") = false := ⟨Tryz.func28, by kernel_rfl⟩
theorem fn29_ok : Tryz.prog.funcs[29]? = some Tryz.f29 ∧ (Tryz.f29.name == "runtime.NumGoroutine") = false := ⟨Tryz.func29, by kernel_rfl⟩
theorem fn33_ok : Tryz.prog.funcs[33]? = some Tryz.f33 ∧ (Tryz.f33.name == "runtime.NumGoroutine") = false := ⟨Tryz.func33, by kernel_rfl⟩
theorem fn35_ok : Tryz.prog.funcs[35]? = some Tryz.f35 ∧ (Tryz.f35.name == "runtime.NumGoroutine") = false := ⟨Tryz.func35, by kernel_rfl⟩
theorem fn36_ok : Tryz.prog.funcs[36]? = some Tryz.f36 ∧ (Tryz.f36.name == "runtime.NumGoroutine") = false := ⟨Tryz.func36, by kernel_rfl⟩
theorem fn37_ok : Tryz.prog.funcs[37]? = some Tryz.f37 ∧ (Tryz.f37.name == "runtime.NumGoroutine") = false := ⟨Tryz.func37, by kernel_rfl⟩
theorem fn38_ok : Tryz.prog.funcs[38]? = some Tryz.f38 ∧ (Tryz.f38.name == "runtime.NumGoroutine") = false := ⟨Tryz.func38, by kernel_rfl⟩
theorem fn39_ok : Tryz.prog.funcs[39]? = some Tryz.f39 ∧ (Tryz.f39.name == "runtime.NumGoroutine") = false := ⟨Tryz.func39, by kernel_rfl⟩
theorem fn40_ok : Tryz.prog.funcs[40]? = some Tryz.f40 ∧ (Tryz.f40.name == "runtime.NumGoroutine") = false := ⟨Tryz.func40, by kernel_rfl⟩
theorem fn44_ok : Tryz.prog.funcs[44]? = some Tryz.f44 ∧ (Tryz.f44.name == "runtime.NumGoroutine") = false := ⟨Tryz.func44, by kernel_rfl⟩
theorem fn45_ok : Tryz.prog.funcs[45]? = some Tryz.f45 ∧ (Tryz.f45.name == "runtime.NumGoroutine") = false := ⟨Tryz.func45, by kernel_rfl⟩
theorem fn46_ok : Tryz.prog.funcs[46]? = some Tryz.f46 ∧ (Tryz.f46.name == "runtime.NumGoroutine") = false := ⟨Tryz.func46, by kernel_rfl⟩
theorem fn47_ok : Tryz.prog.funcs[47]? = some Tryz.f47 ∧ (Tryz.f47.name == "runtime.NumGoroutine") = false := ⟨Tryz.func47, by kernel_rfl⟩
theorem fn48_ok : Tryz.prog.funcs[48]? = some Tryz.f48 ∧ (Tryz.f48.name == "runtime.NumGoroutine") = false := ⟨Tryz.func48, by kernel_rfl⟩
theorem fn50_ok : Tryz.prog.funcs[50]? = some Tryz.f50 ∧ (Tryz.f50.name == "runtime.NumGoroutine") = false := ⟨Tryz.func50, by kernel_rfl⟩
theorem fn51_ok : Tryz.prog.funcs[51]? = some Tryz.f51 ∧ (Tryz.f51.name == "runtime.NumGoroutine") = false := ⟨Tryz.func51, by kernel_rfl⟩
theorem fn54_ok : Tryz.prog.funcs[54]? = some Tryz.f54 ∧ (Tryz.f54.name == "runtime.NumGoroutine") = false := ⟨Tryz.func54, by kernel_rfl⟩
theorem fn55_ok : Tryz.prog.funcs[55]? = some Tryz.f55 ∧ (Tryz.f55.name == "runtime.NumGoroutine") = false := ⟨Tryz.func55, by kernel_rfl⟩
theorem fn56_ok : Tryz.prog.funcs[56]? = some Tryz.f56 ∧ (Tryz.f56.name == "runtime.NumGoroutine") = false := ⟨Tryz.func56, by kernel_rfl⟩
theorem fn57_ok : Tryz.prog.funcs[57]? = some Tryz.f57 ∧ (Tryz.f57.name == "runtime.NumGoroutine") = false := ⟨Tryz.func57, by kernel_rfl⟩
theorem fn58_ok : Tryz.prog.funcs[58]? = some Tryz.f58 ∧ (Tryz.f58.name == "runtime.NumGoroutine") = false := ⟨Tryz.func58, by kernel_rfl⟩
theorem fn59_ok : Tryz.prog.funcs[59]? = some Tryz.f59 ∧ (Tryz.f59.name == "runtime.NumGoroutine") = false := ⟨Tryz.func59, by kernel_rfl⟩
theorem fn60_ok : Tryz.prog.funcs[60]? = some Tryz.f60 ∧ (Tryz.f60.name == "runtime.NumGoroutine") = false := ⟨Tryz.func60, by kernel_rfl⟩
theorem fn61_ok : Tryz.prog.funcs[61]? = some Tryz.f61 ∧ (Tryz.f61.name == "runtime.NumGoroutine") = false := ⟨Tryz.func61, by kernel_rfl⟩
theorem fn63_ok : Tryz.prog.funcs[63]? = some Tryz.f63 ∧ (Tryz.f63.name == "runtime.NumGoroutine") = false := ⟨Tryz.func63, by kernel_rfl⟩
theorem fn64_ok : Tryz.prog.funcs[64]? = some Tryz.f64 ∧ (Tryz.f64.name == "runtime.NumGoroutine") = false := ⟨Tryz.func64, by kernel_rfl⟩
theorem fn65_ok : Tryz.prog.funcs[65]? = some Tryz.f65 ∧ (Tryz.f65.name == "runtime.NumGoroutine") = false := ⟨Tryz.func65, by kernel_rfl⟩
theorem fn66_ok : Tryz.prog.funcs[66]? = some Tryz.f66 ∧ (Tryz.f66.name == "runtime.NumGoroutine") = false := ⟨Tryz.func66, by kernel_rfl⟩
theorem fn67_ok : Tryz.prog.funcs[67]? = some Tryz.f67 ∧ (Tryz.f67.name == "runtime.NumGoroutine") = false := ⟨Tryz.func67, by kernel_rfl⟩
theorem fn68_ok : Tryz.prog.funcs[68]? = some Tryz.f68 ∧ (Tryz.f68.name == "runtime.NumGoroutine") = false := ⟨Tryz.func68, by kernel_rfl⟩
theorem fn71_ok : Tryz.prog.funcs[71]? = some Tryz.f71 ∧ (Tryz.f71.name == "runtime.NumGoroutine") = false := ⟨Tryz.func71, by kernel_rfl⟩
theorem fn73_ok : Tryz.prog.funcs[73]? = some Tryz.f73 ∧ (Tryz.f73.name == "runtime.NumGoroutine") = false := ⟨Tryz.func73, by kernel_rfl⟩
theorem fn74_ok : Tryz.prog.funcs[74]? = some Tryz.f74 ∧ (Tryz.f74.name == "runtime.NumGoroutine") = false := ⟨Tryz.func74, by kernel_rfl⟩
theorem fn75_ok : Tryz.prog.funcs[75]? = some Tryz.f75 ∧ (Tryz.f75.name == "runtime.NumGoroutine") = false := ⟨Tryz.func75, by kernel_rfl⟩
theorem fn76_ok : Tryz.prog.funcs[76]? = some Tryz.f76 ∧ (Tryz.f76.name == "runtime.NumGoroutine") = false := ⟨Tryz.func76, by kernel_rfl⟩
theorem fn81_ok : Tryz.prog.funcs[81]? = some Tryz.f81 ∧ (Tryz.f81.name == "runtime.NumGoroutine") = false := ⟨Tryz.func81, by kernel_rfl⟩
theorem fn82_ok : Tryz.prog.funcs[82]? = some Tryz.f82 ∧ (Tryz.f82.name == "runtime.NumGoroutine") = false := ⟨Tryz.func82, by kernel_rfl⟩
theorem fn83_ok : Tryz.prog.funcs[83]? = some Tryz.f83 ∧ (Tryz.f83.name == "runtime.NumGoroutine") = false := ⟨Tryz.func83, by kernel_rfl⟩
theorem fn85_ok : Tryz.prog.funcs[85]? = some Tryz.f85 ∧ (Tryz.f85.name == "runtime.NumGoroutine") = false := ⟨Tryz.func85, by kernel_rfl⟩
theorem fn86_ok : Tryz.prog.funcs[86]? = some Tryz.f86 ∧ (Tryz.f86.name == "runtime.NumGoroutine") = false := ⟨Tryz.func86, by kernel_rfl⟩
theorem fn87_ok : Tryz.prog.funcs[87]? = some Tryz.f87 ∧ (Tryz.f87.name == "runtime.NumGoroutine") = false := ⟨Tryz.func87, by kernel_rfl⟩
theorem fn88_ok : Tryz.prog.funcs[88]? = some Tryz.f88 ∧ (Tryz.f88.name == "runtime.NumGoroutine") = false := ⟨Tryz.func88, by kernel_rfl⟩
theorem fn89_ok : Tryz.prog.funcs[89]? = some Tryz.f89 ∧ (Tryz.f89.name == "runtime.NumGoroutine") = false := ⟨Tryz.func89, by kernel_rfl⟩
theorem fn90_ok : Tryz.prog.funcs[90]? = some Tryz.f90 ∧ (Tryz.f90.name == "runtime.NumGoroutine") = false := ⟨Tryz.func90, by kernel_rfl⟩
theorem fn91_ok : Tryz.prog.funcs[91]? = some Tryz.f91 ∧ (Tryz.f91.name == "runtime.NumGoroutine") = false := ⟨Tryz.func91, by kernel_rfl⟩
theorem fn92_ok : Tryz.prog.funcs[92]? = some Tryz.f92 ∧ (Tryz.f92.name == "runtime.NumGoroutine") = false := ⟨Tryz.func92, by kernel_rfl⟩
theorem fn93_ok : Tryz.prog.funcs[93]? = some Tryz.f93 ∧ (Tryz.f93.name == "runtime.NumGoroutine") = false := ⟨Tryz.func93, by kernel_rfl⟩
theorem fn95_ok : Tryz.prog.funcs[95]? = some Tryz.f95 ∧ (Tryz.f95.name == "runtime.NumGoroutine") = false := ⟨Tryz.func95, by kernel_rfl⟩
theorem fn96_ok : Tryz.prog.funcs[96]? = some Tryz.f96 ∧ (Tryz.f96.name == "runtime.NumGoroutine") = false := ⟨Tryz.func96, by kernel_rfl⟩
theorem fn98_ok : Tryz.prog.funcs[98]? = some Tryz.f98 ∧ (Tryz.f98.name == "runtime.NumGoroutine") = false := ⟨Tryz.func98, by kernel_rfl⟩
theorem fn99_ok : Tryz.prog.funcs[99]? = some Tryz.f99 ∧ (Tryz.f99.name == "runtime.NumGoroutine") = false := ⟨Tryz.func99, by kernel_rfl⟩
theorem fn100_ok : Tryz.prog.funcs[100]? = some Tryz.f100 ∧ (Tryz.f100.name == "runtime.NumGoroutine") = false := ⟨Tryz.func100, by kernel_rfl⟩
theorem fn101_ok : Tryz.prog.funcs[101]? = some Tryz.f101 ∧ (Tryz.f101.name == "runtime.NumGoroutine") = false := ⟨Tryz.func101, by kernel_rfl⟩
theorem fn102_ok : Tryz.prog.funcs[102]? = some Tryz.f102 ∧ (Tryz.f102.name == "runtime.NumGoroutine") = false := ⟨Tryz.func102, by kernel_rfl⟩
theorem fn103_ok : Tryz.prog.funcs[103]? = some Tryz.f103 ∧ (Tryz.f103.name == "runtime.NumGoroutine") = false := ⟨Tryz.func103, by kernel_rfl⟩
theorem fn104_ok : Tryz.prog.funcs[104]? = some Tryz.f104 ∧ (Tryz.f104.name == "runtime.NumGoroutine") = false := ⟨Tryz.func104, by kernel_rfl⟩
theorem fn105_ok : Tryz.prog.funcs[105]? = some Tryz.f105 ∧ (Tryz.f105.name == "runtime.NumGoroutine") = false := ⟨Tryz.func105, by kernel_rfl⟩
theorem fn106_ok : Tryz.prog.funcs[106]? = some Tryz.f106 ∧ (Tryz.f106.name == "runtime.NumGoroutine") = false := ⟨Tryz.func106, by kernel_rfl⟩
theorem fn107_ok : Tryz.prog.funcs[107]? = some Tryz.f107 ∧ (Tryz.f107.name == "runtime.NumGoroutine") = false := ⟨Tryz.func107, by kernel_rfl⟩
theorem fn111_ok : Tryz.prog.funcs[111]? = some Tryz.f111 ∧ (Tryz.f111.name == "runtime.NumGoroutine") = false := ⟨Tryz.func111, by kernel_rfl⟩
theorem fn112_ok : Tryz.prog.funcs[112]? = some Tryz.f112 ∧ (Tryz.f112.name == "runtime.NumGoroutine") = false := ⟨Tryz.func112, by kernel_rfl⟩
theorem fn114_ok : Tryz.prog.funcs[114]? = some Tryz.f114 ∧ (Tryz.f114.name == "runtime.NumGoroutine") = false := ⟨Tryz.func114, by kernel_rfl⟩
theorem fn115_ok : Tryz.prog.funcs[115]? = some Tryz.f115 ∧ (Tryz.f115.name == "runtime.NumGoroutine") = false := ⟨Tryz.func115, by kernel_rfl⟩
theorem fn118_ok : Tryz.prog.funcs[118]? = some Tryz.f118 ∧ (Tryz.f118.name == "runtime.NumGoroutine") = false := ⟨Tryz.func118, by kernel_rfl⟩
theorem fn119_ok : Tryz.prog.funcs[119]? = some Tryz.f119 ∧ (Tryz.f119.name == "runtime.NumGoroutine") = false := ⟨Tryz.func119, by kernel_rfl⟩
theorem fn121_ok : Tryz.prog.funcs[121]? = some Tryz.f121 ∧ (Tryz.f121.name == "runtime.NumGoroutine") = false := ⟨Tryz.func121, by kernel_rfl⟩
theorem fn123_ok : Tryz.prog.funcs[123]? = some Tryz.f123 ∧ (Tryz.f123.name == "runtime.NumGoroutine") = false := ⟨Tryz.func123, by kernel_rfl⟩
theorem fn125_ok : Tryz.prog.funcs[125]? = some Tryz.f125 ∧ (Tryz.f125.name == "runtime.NumGoroutine") = false := ⟨Tryz.func125, by kernel_rfl⟩
theorem fn126_ok : Tryz.prog.funcs[126]? = some Tryz.f126 ∧ (Tryz.f126.name == "runtime.NumGoroutine") = false := ⟨Tryz.func126, by kernel_rfl⟩
theorem fn127_ok : Tryz.prog.funcs[127]? = some Tryz.f127 ∧ (Tryz.f127.name == "runtime.NumGoroutine") = false := ⟨Tryz.func127, by kernel_rfl⟩
theorem fn128_ok : Tryz.prog.funcs[128]? = some Tryz.f128 ∧ (Tryz.f128.name == "runtime.NumGoroutine") = false := ⟨Tryz.func128, by kernel_rfl⟩
theorem fn129_ok : Tryz.prog.funcs[129]? = some Tryz.f129 ∧ (Tryz.f129.name == "runtime.NumGoroutine") = false := ⟨Tryz.func129, by kernel_rfl⟩
theorem fn130_ok : Tryz.prog.funcs[130]? = some Tryz.f130 ∧ (Tryz.f130.name == "runtime.NumGoroutine") = false := ⟨Tryz.func130, by kernel_rfl⟩
theorem fn131_ok : Tryz.prog.funcs[131]? = some Tryz.f131 ∧ (Tryz.f131.name == "runtime.NumGoroutine") = false := ⟨Tryz.func131, by kernel_rfl⟩
theorem fn132_ok : Tryz.prog.funcs[132]? = some Tryz.f132 ∧ (Tryz.f132.name == "runtime.NumGoroutine") = false := ⟨Tryz.func132, by kernel_rfl⟩
theorem fn133_ok : Tryz.prog.funcs[133]? = some Tryz.f133 ∧ (Tryz.f133.name == "runtime.NumGoroutine") = false := ⟨Tryz.func133, by kernel_rfl⟩
theorem fn134_ok : Tryz.prog.funcs[134]? = some Tryz.f134 ∧ (Tryz.f134.name == "runtime.NumGoroutine") = false := ⟨Tryz.func134, by kernel_rfl⟩
theorem fn136_ok : Tryz.prog.funcs[136]? = some Tryz.f136 ∧ (Tryz.f136.name == "runtime.NumGoroutine") = false := ⟨Tryz.func136, by kernel_rfl⟩
theorem fn137_ok : Tryz.prog.funcs[137]? = some Tryz.f137 ∧ (Tryz.f137.name == "runtime.NumGoroutine") = false := ⟨Tryz.func137, by kernel_rfl⟩
theorem fn138_ok : Tryz.prog.funcs[138]? = some Tryz.f138 ∧ (Tryz.f138.name == "runtime.NumGoroutine") = false := ⟨Tryz.func138, by kernel_rfl⟩
theorem fn139_ok : Tryz.prog.funcs[139]? = some Tryz.f139 ∧ (Tryz.f139.name == "runtime.NumGoroutine") = false := ⟨Tryz.func139, by kernel_rfl⟩
theorem fn140_ok : Tryz.prog.funcs[140]? = some Tryz.f140 ∧ (Tryz.f140.name == "runtime.NumGoroutine") = false := ⟨Tryz.func140, by kernel_rfl⟩
theorem fn145_ok : Tryz.prog.funcs[145]? = some Tryz.f145 ∧ (Tryz.f145.name == "runtime.NumGoroutine") = false := ⟨Tryz.func145, by kernel_rfl⟩
theorem fn155_ok : Tryz.prog.funcs[155]? = some Tryz.f155 ∧ (Tryz.f155.name == "runtime.NumGoroutine") = false := ⟨Tryz.func155, by kernel_rfl⟩
theorem fn156_ok : Tryz.prog.funcs[156]? = some Tryz.f156 ∧ (Tryz.f156.name == "runtime.NumGoroutine") = false := ⟨Tryz.func156, by kernel_rfl⟩
theorem fn164_ok : Tryz.prog.funcs[164]? = some Tryz.f164 ∧ (Tryz.f164.name == "runtime.NumGoroutine") = false := ⟨Tryz.func164, by kernel_rfl⟩
theorem fn165_ok : Tryz.prog.funcs[165]? = some Tryz.f165 ∧ (Tryz.f165.name == "runtime.NumGoroutine") = false := ⟨Tryz.func165, by kernel_rfl⟩
theorem fn166_ok : Tryz.prog.funcs[166]? = some Tryz.f166 ∧ (Tryz.f166.name == "runtime.NumGoroutine") = false := ⟨Tryz.func166, by kernel_rfl⟩
theorem fn167_ok : Tryz.prog.funcs[167]? = some Tryz.f167 ∧ (Tryz.f167.name == "runtime.NumGoroutine") = false := ⟨Tryz.func167, by kernel_rfl⟩
theorem fn168_ok : Tryz.prog.funcs[168]? = some Tryz.f168 ∧ (Tryz.f168.name == "runtime.NumGoroutine") = false := ⟨Tryz.func168, by kernel_rfl⟩
theorem fn169_ok : Tryz.prog.funcs[169]? = some Tryz.f169 ∧ (Tryz.f169.name == "runtime.NumGoroutine") = false := ⟨Tryz.func169, by kernel_rfl⟩
theorem fn170_ok : Tryz.prog.funcs[170]? = some Tryz.f170 ∧ (Tryz.f170.name == "runtime.NumGoroutine") = false := ⟨Tryz.func170, by kernel_rfl⟩
theorem fn171_ok : Tryz.prog.funcs[171]? = some Tryz.f171 ∧ (Tryz.f171.name == "runtime.NumGoroutine") = false := ⟨Tryz.func171, by kernel_rfl⟩
theorem fn172_ok : Tryz.prog.funcs[172]? = some Tryz.f172 ∧ (Tryz.f172.name == "runtime.NumGoroutine") = false := ⟨Tryz.func172, by kernel_rfl⟩
theorem fn174_ok : Tryz.prog.funcs[174]? = some Tryz.f174 ∧ (Tryz.f174.name == "runtime.NumGoroutine") = false := ⟨Tryz.func174, by kernel_rfl⟩
theorem fn175_ok : Tryz.prog.funcs[175]? = some Tryz.f175 ∧ (Tryz.f175.name == "runtime.NumGoroutine") = false := ⟨Tryz.func175, by kernel_rfl⟩
theorem fn181_ok : Tryz.prog.funcs[181]? = some Tryz.f181 ∧ (Tryz.f181.name == "runtime.NumGoroutine") = false := ⟨Tryz.func181, by kernel_rfl⟩
theorem fn182_ok : Tryz.prog.funcs[182]? = some Tryz.f182 ∧ (Tryz.f182.name == "runtime.NumGoroutine") = false := ⟨Tryz.func182, by kernel_rfl⟩
theorem fn183_ok : Tryz.prog.funcs[183]? = some Tryz.f183 ∧ (Tryz.f183.name == "runtime.NumGoroutine") = false := ⟨Tryz.func183, by kernel_rfl⟩
theorem fn184_ok : Tryz.prog.funcs[184]? = some Tryz.f184 ∧ (Tryz.f184.name == "runtime.NumGoroutine") = false := ⟨Tryz.func184, by kernel_rfl⟩
theorem fn185_ok : Tryz.prog.funcs[185]? = some Tryz.f185 ∧ (Tryz.f185.name == "runtime.NumGoroutine") = false := ⟨Tryz.func185, by kernel_rfl⟩
theorem fn186_ok : Tryz.prog.funcs[186]? = some Tryz.f186 ∧ (Tryz.f186.name == "runtime.NumGoroutine") = false := ⟨Tryz.func186, by kernel_rfl⟩
theorem fn187_ok : Tryz.prog.funcs[187]? = some Tryz.f187 ∧ (Tryz.f187.name == "runtime.NumGoroutine") = false := ⟨Tryz.func187, by kernel_rfl⟩
theorem fn188_ok : Tryz.prog.funcs[188]? = some Tryz.f188 ∧ (Tryz.f188.name == "runtime.NumGoroutine") = false := ⟨Tryz.func188, by kernel_rfl⟩
theorem fn189_ok : Tryz.prog.funcs[189]? = some Tryz.f189 ∧ (Tryz.f189.name == "runtime.NumGoroutine") = false := ⟨Tryz.func189, by kernel_rfl⟩
theorem fn190_ok : Tryz.prog.funcs[190]? = some Tryz.f190 ∧ (Tryz.f190.name == "runtime.NumGoroutine") = false := ⟨Tryz.func190, by kernel_rfl⟩
theorem fn191_ok : Tryz.prog.funcs[191]? = some Tryz.f191 ∧ (Tryz.f191.name == "runtime.NumGoroutine") = false := ⟨Tryz.func191, by kernel_rfl⟩
theorem fn192_ok : Tryz.prog.funcs[192]? = some Tryz.f192 ∧ (Tryz.f192.name == "runtime.NumGoroutine") = false := ⟨Tryz.func192, by kernel_rfl⟩
theorem fn196_ok : Tryz.prog.funcs[196]? = some Tryz.f196 ∧ (Tryz.f196.name == "runtime.NumGoroutine") = false := ⟨Tryz.func196, by kernel_rfl⟩
theorem fn219_ok : Tryz.prog.funcs[219]? = some Tryz.f219 ∧ (Tryz.f219.name == "runtime.NumGoroutine") = false := ⟨Tryz.func219, by kernel_rfl⟩
theorem fn220_ok : Tryz.prog.funcs[220]? = some Tryz.f220 ∧ (Tryz.f220.name == "runtime.NumGoroutine") = false := ⟨Tryz.func220, by kernel_rfl⟩
theorem fn221_ok : Tryz.prog.funcs[221]? = some Tryz.f221 ∧ (Tryz.f221.name == "runtime.NumGoroutine") = false := ⟨Tryz.func221, by kernel_rfl⟩
theorem fn222_ok : Tryz.prog.funcs[222]? = some Tryz.f222 ∧ (Tryz.f222.name == "runtime.NumGoroutine") = false := ⟨Tryz.func222, by kernel_rfl⟩
theorem fn223_ok : Tryz.prog.funcs[223]? = some Tryz.f223 ∧ (Tryz.f223.name == "runtime.NumGoroutine") = false := ⟨Tryz.func223, by kernel_rfl⟩
theorem fn224_ok : Tryz.prog.funcs[224]? = some Tryz.f224 ∧ (Tryz.f224.name == "runtime.NumGoroutine") = false := ⟨Tryz.func224, by kernel_rfl⟩
theorem fn225_ok : Tryz.prog.funcs[225]? = some Tryz.f225 ∧ (Tryz.f225.name == "runtime.NumGoroutine") = false := ⟨Tryz.func225, by kernel_rfl⟩
theorem fn226_ok : Tryz.prog.funcs[226]? = some Tryz.f226 ∧ (Tryz.f226.name == "runtime.NumGoroutine") = false := ⟨Tryz.func226, by kernel_rfl⟩
theorem fn227_ok : Tryz.prog.funcs[227]? = some Tryz.f227 ∧ (Tryz.f227.name == "runtime.NumGoroutine") = false := ⟨Tryz.func227, by kernel_rfl⟩
theorem fn228_ok : Tryz.prog.funcs[228]? = some Tryz.f228 ∧ (Tryz.f228.name == "runtime.NumGoroutine") = false := ⟨Tryz.func228, by kernel_rfl⟩
theorem fn229_ok : Tryz.prog.funcs[229]? = some Tryz.f229 ∧ (Tryz.f229.name == "runtime.NumGoroutine") = false := ⟨Tryz.func229, by kernel_rfl⟩
theorem fn230_ok : Tryz.prog.funcs[230]? = some Tryz.f230 ∧ (Tryz.f230.name == "runtime.NumGoroutine") = false := ⟨Tryz.func230, by kernel_rfl⟩
theorem fn231_ok : Tryz.prog.funcs[231]? = some Tryz.f231 ∧ (Tryz.f231.name == "runtime.NumGoroutine") = false := ⟨Tryz.func231, by kernel_rfl⟩
theorem fn234_ok : Tryz.prog.funcs[234]? = some Tryz.f234 ∧ (Tryz.f234.name == "runtime.NumGoroutine") = false := ⟨Tryz.func234, by kernel_rfl⟩
theorem fn235_ok : Tryz.prog.funcs[235]? = some Tryz.f235 ∧ (Tryz.f235.name == "runtime.NumGoroutine") = false := ⟨Tryz.func235, by kernel_rfl⟩
theorem fn237_ok : Tryz.prog.funcs[237]? = some Tryz.f237 ∧ (Tryz.f237.name == "runtime.NumGoroutine") = false := ⟨Tryz.func237, by kernel_rfl⟩
theorem fn244_ok : Tryz.prog.funcs[244]? = some Tryz.f244 ∧ (Tryz.f244.name == "runtime.NumGoroutine") = false := ⟨Tryz.func244, by kernel_rfl⟩
theorem fn265_ok : Tryz.prog.funcs[265]? = some Tryz.f265 ∧ (Tryz.f265.name == "runtime.NumGoroutine") = false := ⟨Tryz.func265, by kernel_rfl⟩
theorem fn266_ok : Tryz.prog.funcs[266]? = some Tryz.f266 ∧ (Tryz.f266.name == "runtime.NumGoroutine") = false := ⟨Tryz.func266, by kernel_rfl⟩
theorem fn269_ok : Tryz.prog.funcs[269]? = some Tryz.f269 ∧ (Tryz.f269.name == "runtime.NumGoroutine") = false := ⟨Tryz.func269, by kernel_rfl⟩
theorem fn275_ok : Tryz.prog.funcs[275]? = some Tryz.f275 ∧ (Tryz.f275.name == "runtime.NumGoroutine") = false := ⟨Tryz.func275, by kernel_rfl⟩
theorem fn276_ok : Tryz.prog.funcs[276]? = some Tryz.f276 ∧ (Tryz.f276.name == "runtime.NumGoroutine") = false := ⟨Tryz.func276, by kernel_rfl⟩
theorem fn279_ok : Tryz.prog.funcs[279]? = some Tryz.f279 ∧ (Tryz.f279.name == "runtime.NumGoroutine") = false := ⟨Tryz.func279, by kernel_rfl⟩
theorem fn280_ok : Tryz.prog.funcs[280]? = some Tryz.f280 ∧ (Tryz.f280.name == "runtime.NumGoroutine") = false := ⟨Tryz.func280, by kernel_rfl⟩
theorem fn282_ok : Tryz.prog.funcs[282]? = some Tryz.f282 ∧ (Tryz.f282.name == "runtime.NumGoroutine") = false := ⟨Tryz.func282, by kernel_rfl⟩
theorem fn283_ok : Tryz.prog.funcs[283]? = some Tryz.f283 ∧ (Tryz.f283.name == "runtime.NumGoroutine") = false := ⟨Tryz.func283, by kernel_rfl⟩
theorem fn284_ok : Tryz.prog.funcs[284]? = some Tryz.f284 ∧ (Tryz.f284.name == "runtime.NumGoroutine") = false := ⟨Tryz.func284, by kernel_rfl⟩
theorem fn285_ok : Tryz.prog.funcs[285]? = some Tryz.f285 ∧ (Tryz.f285.name == "runtime.NumGoroutine") = false := ⟨Tryz.func285, by kernel_rfl⟩
theorem fn286_ok : Tryz.prog.funcs[286]? = some Tryz.f286 ∧ (Tryz.f286.name == "runtime.NumGoroutine") = false := ⟨Tryz.func286, by kernel_rfl⟩
theorem fn287_ok : Tryz.prog.funcs[287]? = some Tryz.f287 ∧ (Tryz.f287.name == "runtime.NumGoroutine") = false := ⟨Tryz.func287, by kernel_rfl⟩
theorem fn306_ok : Tryz.prog.funcs[306]? = some Tryz.f306 ∧ (Tryz.f306.name == "runtime.NumGoroutine") = false := ⟨Tryz.func306, by kernel_rfl⟩
theorem fn307_ok : Tryz.prog.funcs[307]? = some Tryz.f307 ∧ (Tryz.f307.name == "runtime.NumGoroutine") = false := ⟨Tryz.func307, by kernel_rfl⟩
theorem fn308_ok : Tryz.prog.funcs[308]? = some Tryz.f308 ∧ (Tryz.f308.name == "runtime.NumGoroutine") = false := ⟨Tryz.func308, by kernel_rfl⟩
theorem fn312_ok : Tryz.prog.funcs[312]? = some Tryz.f312 ∧ (Tryz.f312.name == "runtime.NumGoroutine") = false := ⟨Tryz.func312, by kernel_rfl⟩
theorem fn313_ok : Tryz.prog.funcs[313]? = some Tryz.f313 ∧ (Tryz.f313.name == "runtime.NumGoroutine") = false := ⟨Tryz.func313, by kernel_rfl⟩
theorem fn314_ok : Tryz.prog.funcs[314]? = some Tryz.f314 ∧ (Tryz.f314.name == "runtime.NumGoroutine") = false := ⟨Tryz.func314, by kernel_rfl⟩
theorem fn336_ok : Tryz.prog.funcs[336]? = some Tryz.f336 ∧ (Tryz.f336.name == "runtime.NumGoroutine") = false := ⟨Tryz.func336, by kernel_rfl⟩
theorem fn338_ok : Tryz.prog.funcs[338]? = some Tryz.f338 ∧ (Tryz.f338.name == "runtime.NumGoroutine") = false := ⟨Tryz.func338, by kernel_rfl⟩
theorem fn344_ok : Tryz.prog.funcs[344]? = some Tryz.f344 ∧ (Tryz.f344.name == "runtime.NumGoroutine") = false := ⟨Tryz.func344, by kernel_rfl⟩
theorem fn345_ok : Tryz.prog.funcs[345]? = some Tryz.f345 ∧ (Tryz.f345.name == "runtime.NumGoroutine") = false := ⟨Tryz.func345, by kernel_rfl⟩
theorem fn350_ok : Tryz.prog.funcs[350]? = some Tryz.f350 ∧ (Tryz.f350.name == "runtime.NumGoroutine") = false := ⟨Tryz.func350, by kernel_rfl⟩
theorem fn365_ok : Tryz.prog.funcs[365]? = some Tryz.f365 ∧ (Tryz.f365.name == "runtime.NumGoroutine") = false := ⟨Tryz.func365, by kernel_rfl⟩
theorem fn370_ok : Tryz.prog.funcs[370]? = some Tryz.f370 ∧ (Tryz.f370.name == "runtime.NumGoroutine") = false := ⟨Tryz.func370, by kernel_rfl⟩
theorem fn383_ok : Tryz.prog.funcs[383]? = some Tryz.f383 ∧ (Tryz.f383.name == "runtime.NumGoroutine") = false := ⟨Tryz.func383, by kernel_rfl⟩
theorem fnTab_all : TrAll (fun f x => Tryz.prog.funcs[f]? = some x.1 ∧ (x.1.name == "runtime.NumGoroutine") = false) fnTab id := ⟨⟨⟨⟨⟨⟨⟨⟨trivial, (fun _ h => Option.some.inj h ▸ fn127_ok), ⟨trivial, (fun _ h => Option.some.inj h ▸ fn383_ok), trivial⟩⟩, (fun _ h => Option.some.inj h ▸ fn63_ok), ⟨trivial, (fun _ h => Option.some.inj h ▸ fn191_ok), trivial⟩⟩, (fun _ h => by cases h), ⟨⟨⟨trivial, (fun _ h => Option.some.inj h ▸ fn287_ok), trivial⟩, (fun _ h => by cases h), trivial⟩, (fun _ h => Option.some.inj h ▸ fn95_ok), ⟨trivial, (fun _ h => Option.some.inj h ▸ fn223_ok), trivial⟩⟩⟩, (fun _ h => Option.some.inj h ▸ fn15_ok), ⟨trivial, (fun _ h => Option.some.inj h ▸ fn47_ok), ⟨⟨trivial, (fun _ h => Option.some.inj h ▸ fn175_ok), trivial⟩, (fun _ h => Option.some.inj h ▸ fn111_ok), trivial⟩⟩⟩, (fun _ h => by cases h), ⟨⟨⟨trivial, (fun _ h => Option.some.inj h ▸ fn71_ok), trivial⟩, (fun _ h => Option.some.inj h ▸ fn39_ok), ⟨⟨trivial, (fun _ h => Option.some.inj h ▸ fn167_ok), trivial⟩, (fun _ h => Option.some.inj h ▸ fn103_ok), ⟨trivial, (fun _ h => Option.some.inj h ▸ fn231_ok), trivial⟩⟩⟩, (fun _ h => by cases h), ⟨⟨⟨⟨trivial, (fun _ h => Option.some.inj h ▸ fn279_ok), trivial⟩, (fun _ h => by cases h), trivial⟩, (fun _ h => Option.some.inj h ▸ fn87_ok), trivial⟩, (fun _ h => Option.some.inj h ▸ fn55_ok), ⟨⟨trivial, (fun _ h => Option.some.inj h ▸ fn183_ok), trivial⟩, (fun _ h => Option.some.inj h ▸ fn119_ok), trivial⟩⟩⟩⟩, (fun _ h => by cases h), ⟨⟨⟨⟨⟨trivial, (fun _ h => Option.some.inj h ▸ fn131_ok), trivial⟩, (fun _ h => Option.some.inj h ▸ fn67_ok), trivial⟩, (fun _ h => Option.some.inj h ▸ fn35_ok), ⟨trivial, (fun _ h => Option.some.inj h ▸ fn99_ok), ⟨trivial, (fun _ h => Option.some.inj h ▸ fn227_ok), trivial⟩⟩⟩, (fun _ h => Option.some.inj h ▸ fn19_ok), ⟨⟨⟨⟨trivial, (fun _ h => Option.some.inj h ▸ fn275_ok), trivial⟩, (fun _ h => by cases h), trivial⟩, (fun _ h => Option.some.inj h ▸ fn83_ok), trivial⟩, (fun _ h => Option.some.inj h ▸ fn51_ok), ⟨⟨⟨trivial, (fun _ h => Option.some.inj h ▸ fn307_ok), trivial⟩, (fun _ h => by cases h), trivial⟩, (fun _ h => Option.some.inj h ▸ fn115_ok), trivial⟩⟩⟩, (fun _ h => by cases h), ⟨⟨⟨⟨trivial, (fun _ h => Option.some.inj h ▸ fn139_ok), trivial⟩, (fun _ h => Option.some.inj h ▸ fn75_ok), trivial⟩, (fun _ h => by cases h), ⟨⟨trivial, (fun _ h => Option.some.inj h ▸ fn171_ok), trivial⟩, (fun _ h => Option.some.inj h ▸ fn107_ok), ⟨trivial, (fun _ h => Option.some.inj h ▸ fn235_ok), trivial⟩⟩⟩, (fun _ h => Option.some.inj h ▸ fn27_ok), ⟨⟨⟨⟨trivial, (fun _ h => Option.some.inj h ▸ fn283_ok), trivial⟩, (fun _ h => Option.some.inj h ▸ fn155_ok), trivial⟩, (fun _ h => Option.some.inj h ▸ fn91_ok), ⟨trivial, (fun _ h => Option.some.inj h ▸ fn219_ok), trivial⟩⟩, (fun _ h => Option.some.inj h ▸ fn59_ok), ⟨⟨trivial, (fun _ h => Option.some.inj h ▸ fn187_ok), trivial⟩, (fun _ h => Option.some.inj h ▸ fn123_ok), trivial⟩⟩⟩⟩⟩, (fun _ h => by cases h), ⟨⟨⟨⟨⟨⟨trivial, (fun _ h => Option.some.inj h ▸ fn129_ok), trivial⟩, (fun _ h => Option.some.inj h ▸ fn65_ok), trivial⟩, (fun _ h => Option.some.inj h ▸ fn33_ok), ⟨trivial, (fun _ h => by cases h), ⟨trivial, (fun _ h => Option.some.inj h ▸ fn225_ok), trivial⟩⟩⟩, (fun _ h => by cases h), ⟨⟨⟨trivial, (fun _ h => Option.some.inj h ▸ fn145_ok), trivial⟩, (fun _ h => Option.some.inj h ▸ fn81_ok), trivial⟩, (fun _ h => by cases h), trivial⟩⟩, (fun _ h => Option.some.inj h ▸ fn9_ok), ⟨⟨⟨⟨⟨trivial, (fun _ h => Option.some.inj h ▸ fn265_ok), trivial⟩, (fun _ h => Option.some.inj h ▸ fn137_ok), trivial⟩, (fun _ h => Option.some.inj h ▸ fn73_ok), trivial⟩, (fun _ h => by cases h), ⟨⟨trivial, (fun _ h => Option.some.inj h ▸ fn169_ok), trivial⟩, (fun _ h => Option.some.inj h ▸ fn105_ok), trivial⟩⟩, (fun _ h => by cases h), ⟨⟨trivial, (fun _ h => Option.some.inj h ▸ fn89_ok), ⟨⟨trivial, (fun _ h => Option.some.inj h ▸ fn345_ok), trivial⟩, (fun _ h => by cases h), trivial⟩⟩, (fun _ h => Option.some.inj h ▸ fn57_ok), ⟨⟨⟨trivial, (fun _ h => Option.some.inj h ▸ fn313_ok), trivial⟩, (fun _ h => Option.some.inj h ▸ fn185_ok), trivial⟩, (fun _ h => Option.some.inj h ▸ fn121_ok), trivial⟩⟩⟩⟩, (fun _ h => Option.some.inj h ▸ fn5_ok), ⟨⟨⟨⟨⟨trivial, (fun _ h => Option.some.inj h ▸ fn133_ok), trivial⟩, (fun _ h => by cases h), trivial⟩, (fun _ h => Option.some.inj h ▸ fn37_ok), ⟨⟨trivial, (fun _ h => Option.some.inj h ▸ fn165_ok), trivial⟩, (fun _ h => Option.some.inj h ▸ fn101_ok), ⟨trivial, (fun _ h => Option.some.inj h ▸ fn229_ok), trivial⟩⟩⟩, (fun _ h => Option.some.inj h ▸ fn21_ok), ⟨⟨trivial, (fun _ h => Option.some.inj h ▸ fn85_ok), trivial⟩, (fun _ h => by cases h), ⟨⟨trivial, (fun _ h => Option.some.inj h ▸ fn181_ok), trivial⟩, (fun _ h => by cases h), trivial⟩⟩⟩, (fun _ h => Option.some.inj h ▸ fn13_ok), ⟨⟨⟨⟨⟨trivial, (fun _ h => Option.some.inj h ▸ fn269_ok), trivial⟩, (fun _ h => by cases h), trivial⟩, (fun _ h => by cases h), trivial⟩, (fun _ h => Option.some.inj h ▸ fn45_ok), ⟨trivial, (fun _ h => by cases h), ⟨⟨trivial, (fun _ h => Option.some.inj h ▸ fn365_ok), trivial⟩, (fun _ h => Option.some.inj h ▸ fn237_ok), trivial⟩⟩⟩, (fun _ h => Option.some.inj h ▸ fn29_ok), ⟨⟨⟨⟨trivial, (fun _ h => Option.some.inj h ▸ fn285_ok), trivial⟩, (fun _ h => by cases h), trivial⟩, (fun _ h => Option.some.inj h ▸ fn93_ok), ⟨trivial, (fun _ h => Option.some.inj h ▸ fn221_ok), trivial⟩⟩, (fun _ h => Option.some.inj h ▸ fn61_ok), ⟨⟨trivial, (fun _ h => Option.some.inj h ▸ fn189_ok), trivial⟩, (fun _ h => Option.some.inj h ▸ fn125_ok), trivial⟩⟩⟩⟩⟩⟩, (fun _ h => by cases h), ⟨⟨⟨⟨⟨⟨⟨trivial, (fun _ h => Option.some.inj h ▸ fn128_ok), trivial⟩, (fun _ h => Option.some.inj h ▸ fn64_ok), ⟨trivial, (fun _ h => Option.some.inj h ▸ fn192_ok), trivial⟩⟩, (fun _ h => by cases h), ⟨trivial, (fun _ h => Option.some.inj h ▸ fn96_ok), ⟨trivial, (fun _ h => Option.some.inj h ▸ fn224_ok), trivial⟩⟩⟩, (fun _ h => Option.some.inj h ▸ fn16_ok), ⟨⟨trivial, (fun _ h => by cases h), ⟨⟨trivial, (fun _ h => Option.some.inj h ▸ fn336_ok), trivial⟩, (fun _ h => by cases h), trivial⟩⟩, (fun _ h => Option.some.inj h ▸ fn48_ok), ⟨trivial, (fun _ h => Option.some.inj h ▸ fn112_ok), trivial⟩⟩⟩, (fun _ h => by cases h), ⟨⟨⟨⟨trivial, (fun _ h => Option.some.inj h ▸ fn136_ok), trivial⟩, (fun _ h => by cases h), trivial⟩, (fun _ h => Option.some.inj h ▸ fn40_ok), ⟨⟨trivial, (fun _ h => Option.some.inj h ▸ fn168_ok), trivial⟩, (fun _ h => Option.some.inj h ▸ fn104_ok), trivial⟩⟩, (fun _ h => by cases h), ⟨⟨⟨⟨trivial, (fun _ h => Option.some.inj h ▸ fn280_ok), trivial⟩, (fun _ h => by cases h), trivial⟩, (fun _ h => Option.some.inj h ▸ fn88_ok), ⟨⟨trivial, (fun _ h => Option.some.inj h ▸ fn344_ok), trivial⟩, (fun _ h => by cases h), trivial⟩⟩, (fun _ h => Option.some.inj h ▸ fn56_ok), ⟨⟨⟨trivial, (fun _ h => Option.some.inj h ▸ fn312_ok), trivial⟩, (fun _ h => Option.some.inj h ▸ fn184_ok), trivial⟩, (fun _ h => by cases h), trivial⟩⟩⟩⟩, (fun _ h => by cases h), ⟨⟨⟨⟨⟨trivial, (fun _ h => Option.some.inj h ▸ fn132_ok), trivial⟩, (fun _ h => Option.some.inj h ▸ fn68_ok), ⟨trivial, (fun _ h => Option.some.inj h ▸ fn196_ok), trivial⟩⟩, (fun _ h => Option.some.inj h ▸ fn36_ok), ⟨⟨trivial, (fun _ h => Option.some.inj h ▸ fn164_ok), trivial⟩, (fun _ h => Option.some.inj h ▸ fn100_ok), ⟨trivial, (fun _ h => Option.some.inj h ▸ fn228_ok), trivial⟩⟩⟩, (fun _ h => Option.some.inj h ▸ fn20_ok), ⟨⟨⟨⟨trivial, (fun _ h => Option.some.inj h ▸ fn276_ok), trivial⟩, (fun _ h => by cases h), trivial⟩, (fun _ h => by cases h), trivial⟩, (fun _ h => by cases h), ⟨⟨⟨trivial, (fun _ h => Option.some.inj h ▸ fn308_ok), trivial⟩, (fun _ h => by cases h), trivial⟩, (fun _ h => by cases h), ⟨trivial, (fun _ h => Option.some.inj h ▸ fn244_ok), trivial⟩⟩⟩⟩, (fun _ h => by cases h), ⟨⟨⟨⟨trivial, (fun _ h => Option.some.inj h ▸ fn140_ok), trivial⟩, (fun _ h => Option.some.inj h ▸ fn76_ok), trivial⟩, (fun _ h => Option.some.inj h ▸ fn44_ok), ⟨⟨trivial, (fun _ h => Option.some.inj h ▸ fn172_ok), trivial⟩, (fun _ h => by cases h), trivial⟩⟩, (fun _ h => Option.some.inj h ▸ fn28_ok), ⟨⟨⟨⟨trivial, (fun _ h => Option.some.inj h ▸ fn284_ok), trivial⟩, (fun _ h => Option.some.inj h ▸ fn156_ok), trivial⟩, (fun _ h => Option.some.inj h ▸ fn92_ok), ⟨trivial, (fun _ h => Option.some.inj h ▸ fn220_ok), trivial⟩⟩, (fun _ h => Option.some.inj h ▸ fn60_ok), ⟨⟨trivial, (fun _ h => Option.some.inj h ▸ fn188_ok), trivial⟩, (fun _ h => by cases h), trivial⟩⟩⟩⟩⟩, (fun _ h => by cases h), ⟨⟨⟨⟨⟨⟨trivial, (fun _ h => Option.some.inj h ▸ fn130_ok), trivial⟩, (fun _ h => Option.some.inj h ▸ fn66_ok), trivial⟩, (fun _ h => by cases h), ⟨trivial, (fun _ h => Option.some.inj h ▸ fn98_ok), ⟨trivial, (fun _ h => Option.some.inj h ▸ fn226_ok), trivial⟩⟩⟩, (fun _ h => by cases h), ⟨⟨trivial, (fun _ h => Option.some.inj h ▸ fn82_ok), ⟨⟨trivial, (fun _ h => Option.some.inj h ▸ fn338_ok), trivial⟩, (fun _ h => by cases h), trivial⟩⟩, (fun _ h => Option.some.inj h ▸ fn50_ok), ⟨⟨⟨trivial, (fun _ h => Option.some.inj h ▸ fn306_ok), trivial⟩, (fun _ h => by cases h), trivial⟩, (fun _ h => Option.some.inj h ▸ fn114_ok), ⟨⟨trivial, (fun _ h => Option.some.inj h ▸ fn370_ok), trivial⟩, (fun _ h => by cases h), trivial⟩⟩⟩⟩, (fun _ h => Option.some.inj h ▸ fn10_ok), ⟨⟨⟨⟨⟨trivial, (fun _ h => Option.some.inj h ▸ fn266_ok), trivial⟩, (fun _ h => Option.some.inj h ▸ fn138_ok), trivial⟩, (fun _ h => Option.some.inj h ▸ fn74_ok), trivial⟩, (fun _ h => by cases h), ⟨⟨trivial, (fun _ h => Option.some.inj h ▸ fn170_ok), trivial⟩, (fun _ h => Option.some.inj h ▸ fn106_ok), ⟨trivial, (fun _ h => Option.some.inj h ▸ fn234_ok), trivial⟩⟩⟩, (fun _ h => Option.some.inj h ▸ fn26_ok), ⟨⟨⟨⟨trivial, (fun _ h => Option.some.inj h ▸ fn282_ok), trivial⟩, (fun _ h => by cases h), trivial⟩, (fun _ h => Option.some.inj h ▸ fn90_ok), trivial⟩, (fun _ h => Option.some.inj h ▸ fn58_ok), ⟨⟨⟨trivial, (fun _ h => Option.some.inj h ▸ fn314_ok), trivial⟩, (fun _ h => Option.some.inj h ▸ fn186_ok), trivial⟩, (fun _ h => by cases h), trivial⟩⟩⟩⟩, (fun _ h => Option.some.inj h ▸ fn6_ok), ⟨⟨⟨⟨⟨trivial, (fun _ h => Option.some.inj h ▸ fn134_ok), trivial⟩, (fun _ h => by cases h), trivial⟩, (fun _ h => Option.some.inj h ▸ fn38_ok), ⟨⟨trivial, (fun _ h => Option.some.inj h ▸ fn166_ok), trivial⟩, (fun _ h => Option.some.inj h ▸ fn102_ok), ⟨trivial, (fun _ h => Option.some.inj h ▸ fn230_ok), trivial⟩⟩⟩, (fun _ h => by cases h), ⟨⟨trivial, (fun _ h => Option.some.inj h ▸ fn86_ok), trivial⟩, (fun _ h => Option.some.inj h ▸ fn54_ok), ⟨⟨trivial, (fun _ h => Option.some.inj h ▸ fn182_ok), trivial⟩, (fun _ h => Option.some.inj h ▸ fn118_ok), trivial⟩⟩⟩, (fun _ h => Option.some.inj h ▸ fn14_ok), ⟨⟨trivial, (fun _ h => Option.some.inj h ▸ fn46_ok), ⟨⟨trivial, (fun _ h => Option.some.inj h ▸ fn174_ok), trivial⟩, (fun _ h => by cases h), trivial⟩⟩, (fun _ h => by cases h), ⟨⟨⟨⟨trivial, (fun _ h => Option.some.inj h ▸ fn286_ok), trivial⟩, (fun _ h => by cases h), trivial⟩, (fun _ h => by cases h), ⟨⟨trivial, (fun _ h => Option.some.inj h ▸ fn350_ok), trivial⟩, (fun _ h => Option.some.inj h ▸ fn222_ok), trivial⟩⟩, (fun _ h => by cases h), ⟨⟨trivial, (fun _ h => Option.some.inj h ▸ fn190_ok), trivial⟩, (fun _ h => Option.some.inj h ▸ fn126_ok), trivial⟩⟩⟩⟩⟩⟩⟩
end Am
end Go.Proofs.YtdmfdclkpdliaaaGreatDoor
