/- The code of some functions of the program, stripped to what counts, and facts on its types; written by gen.py. -/
import Derived.Test.YtjcjoeechmlpgaaGreatCA
namespace Go.Eng.Tryz
open Go.Proofs
set_option maxRecDepth 100000
set_option linter.unusedVariables false


theorem bs107 : ∀ fr ps, buildV Tryz.prog 107 fr ps = match fillV Tryz.prog 107 fr ps [.nilm, .nilm, .int .i64 0] with | some (g, cs) => some (g, .agg cs) | none => none := fun fr ps => by simp only [buildV]; rfl
theorem bs110 : ∀ fr ps, buildV Tryz.prog 110 fr ps = match fillV Tryz.prog 110 fr ps [.int .i64 0, .str [], .str [], .bool false, .int .i64 0, .int .i64 0, .int .i64 0, .int .i64 0, .int .i64 0, .int .i64 0, .nils, .str [], .bool false, .int .i64 0, .int .i64 0, .int .i64 0, .bool false, .nils] with | some (g, cs) => some (g, .agg cs) | none => none := fun fr ps => by simp only [buildV]; rfl
theorem bs112 : ∀ fr ps, buildV Tryz.prog 112 fr ps = match fillV Tryz.prog 112 fr ps [.int .i64 0, .int .i64 0] with | some (g, cs) => some (g, .agg cs) | none => none := fun fr ps => by simp only [buildV]; rfl
theorem bs135 : ∀ fr ps, buildV Tryz.prog 135 fr ps = match fillV Tryz.prog 135 fr ps [.int .i64 0, .nils, .bool false] with | some (g, cs) => some (g, .agg cs) | none => none := fun fr ps => by simp only [buildV]; rfl
theorem bs136 : ∀ fr ps, buildV Tryz.prog 136 fr ps = match fillV Tryz.prog 136 fr ps [.int .i64 0, .nils, .bool false] with | some (g, cs) => some (g, .agg cs) | none => none := fun fr ps => by simp only [buildV]; rfl
theorem bs176 : ∀ fr ps, buildV Tryz.prog 176 fr ps = match fillV Tryz.prog 176 fr ps [.int .i64 0, .nils] with | some (g, cs) => some (g, .agg cs) | none => none := fun fr ps => by simp only [buildV]; rfl
theorem bs39 : ∀ fr ps, buildV Tryz.prog 39 fr ps = match fillV Tryz.prog 39 fr ps [.str [], .bool false, .int .i64 0, .int .i64 0, .int .i64 0, .int .i64 0, .int .i64 0, .int .i64 0, .nils, .str [], .bool false] with | some (g, cs) => some (g, .agg cs) | none => none := fun fr ps => by simp only [buildV]; rfl
theorem bs43 : ∀ fr ps, buildV Tryz.prog 43 fr ps = match fillV Tryz.prog 43 fr ps [.int .i64 0, .str [], .bool false, .int .i64 0, .int .i64 0, .int .i64 0, .int .i64 0, .int .i64 0, .int .i64 0, .nils, .str [], .bool false, .int .i64 0, .int .i64 0, .int .i64 0] with | some (g, cs) => some (g, .agg cs) | none => none := fun fr ps => by simp only [buildV]; rfl
theorem bs57 : ∀ fr ps, buildV Tryz.prog 57 fr ps = match fillV Tryz.prog 57 fr ps [.int .i64 0, .str [], .str [], .bool false, .int .i64 0, .int .i64 0, .int .i64 0, .int .i64 0, .int .i64 0, .int .i64 0, .nils, .str [], .bool false, .int .i64 0, .int .i64 0, .int .i64 0, .bool false] with | some (g, cs) => some (g, .agg cs) | none => none := fun fr ps => by simp only [buildV]; rfl
theorem bs61 : ∀ fr ps, buildV Tryz.prog 61 fr ps = match fillV Tryz.prog 61 fr ps [.int .i64 0, .nils] with | some (g, cs) => some (g, .agg cs) | none => none := fun fr ps => by simp only [buildV]; rfl
theorem bs67 : ∀ fr ps, buildV Tryz.prog 67 fr ps = match fillV Tryz.prog 67 fr ps [.nils, .int .i64 0] with | some (g, cs) => some (g, .agg cs) | none => none := fun fr ps => by simp only [buildV]; rfl
theorem bs74 : ∀ fr ps, buildV Tryz.prog 74 fr ps = match fillV Tryz.prog 74 fr ps [.int .i64 0, .int .i64 0, .int .i64 0] with | some (g, cs) => some (g, .agg cs) | none => none := fun fr ps => by simp only [buildV]; rfl
theorem bs95 : ∀ fr ps, buildV Tryz.prog 95 fr ps = match fillV Tryz.prog 95 fr ps [.nils] with | some (g, cs) => some (g, .agg cs) | none => none := fun fr ps => by simp only [buildV]; rfl
theorem el135 : ElemOk Tryz.prog 135 3 40 := ElemOk.of (by kernel_rfl)
theorem el136 : ElemOk Tryz.prog 136 3 40 := ElemOk.of (by kernel_rfl)
theorem el2 : ElemOk Tryz.prog 2 1 8 := ElemOk.of (by kernel_rfl)
theorem el41 : ElemOk Tryz.prog 41 2 16 := ElemOk.of (by kernel_rfl)
theorem el47 : ElemOk Tryz.prog 47 25 240 := ElemOk.of (by kernel_rfl)
theorem el57 : ElemOk Tryz.prog 57 17 176 := ElemOk.of (by kernel_rfl)
theorem el9 : ElemOk Tryz.prog 9 1 16 := ElemOk.of (by kernel_rfl)
theorem eq103a : eqV Tryz.prog 8 103 .nilp .nilp = some true := by kernel_rfl
theorem eq103b : ∀ (o k : Nat), eqV Tryz.prog 8 103 .nilp (.ptr o k) = some false := fun o k => by kernel_rfl
theorem eq103c : ∀ (o k : Nat), eqV Tryz.prog 8 103 (.ptr o k) .nilp = some false := fun o k => by kernel_rfl
theorem eq25a : eqV Tryz.prog 8 25 .nilp .nilp = some true := by kernel_rfl
theorem eq25b : ∀ (o k : Nat), eqV Tryz.prog 8 25 .nilp (.ptr o k) = some false := fun o k => by kernel_rfl
theorem eq25c : ∀ (o k : Nat), eqV Tryz.prog 8 25 (.ptr o k) .nilp = some false := fun o k => by kernel_rfl
theorem eq64a : eqV Tryz.prog 8 64 .nilp .nilp = some true := by kernel_rfl
theorem eq64b : ∀ (o k : Nat), eqV Tryz.prog 8 64 .nilp (.ptr o k) = some false := fun o k => by kernel_rfl
theorem eq64c : ∀ (o k : Nat), eqV Tryz.prog 8 64 (.ptr o k) .nilp = some false := fun o k => by kernel_rfl
theorem fi107_0 : fieldInfo Tryz.prog 107 0 = some (0, ⟨.map 2 103, 1, false⟩) := by kernel_rfl
theorem fi107_1 : fieldInfo Tryz.prog 107 1 = some (1, ⟨.map 9 112, 1, false⟩) := by kernel_rfl
theorem fi107_2 : fieldInfo Tryz.prog 107 2 = some (2, ⟨.int .i64, 1, false⟩) := by kernel_rfl
theorem fi110_0 : fieldInfo Tryz.prog 110 0 = some (0, ⟨(Tryz.prog.underlying 57).getD .invalid, 17, true⟩) := by kernel_rfl
theorem fi110_1 : fieldInfo Tryz.prog 110 1 = some (17, ⟨(Tryz.prog.underlying 95).getD .invalid, 1, true⟩) := by kernel_rfl
theorem fi112_0 : fieldInfo Tryz.prog 112 0 = some (0, ⟨.int .i64, 1, false⟩) := by kernel_rfl
theorem fi112_1 : fieldInfo Tryz.prog 112 1 = some (1, ⟨.int .i64, 1, false⟩) := by kernel_rfl
theorem fi133_0 : fieldInfo Tryz.prog 133 0 = some (0, ⟨.slice 9, 1, false⟩) := by kernel_rfl
theorem fi133_1 : fieldInfo Tryz.prog 133 1 = some (1, ⟨.bool, 1, false⟩) := by kernel_rfl
theorem fi135_0 : fieldInfo Tryz.prog 135 0 = some (0, ⟨.int .i64, 1, false⟩) := by kernel_rfl
theorem fi135_1 : fieldInfo Tryz.prog 135 1 = some (1, ⟨.slice 9, 1, false⟩) := by kernel_rfl
theorem fi135_2 : fieldInfo Tryz.prog 135 2 = some (2, ⟨.bool, 1, false⟩) := by kernel_rfl
theorem fi136_0 : fieldInfo Tryz.prog 136 0 = some (0, ⟨.int .i64, 1, false⟩) := by kernel_rfl
theorem fi136_1 : fieldInfo Tryz.prog 136 1 = some (1, ⟨.slice 9, 1, false⟩) := by kernel_rfl
theorem fi136_2 : fieldInfo Tryz.prog 136 2 = some (2, ⟨.bool, 1, false⟩) := by kernel_rfl
theorem fi176_0 : fieldInfo Tryz.prog 176 0 = some (0, ⟨.int .i64, 1, false⟩) := by kernel_rfl
theorem fi176_1 : fieldInfo Tryz.prog 176 1 = some (1, ⟨.slice 135, 1, false⟩) := by kernel_rfl
theorem fi39_9 : fieldInfo Tryz.prog 39 9 = some (10, ⟨.bool, 1, false⟩) := by kernel_rfl
theorem fi43_0 : fieldInfo Tryz.prog 43 0 = some (0, ⟨.int .i64, 1, false⟩) := by kernel_rfl
theorem fi43_1 : fieldInfo Tryz.prog 43 1 = some (1, ⟨(Tryz.prog.underlying 39).getD .invalid, 11, true⟩) := by kernel_rfl
theorem fi43_3 : fieldInfo Tryz.prog 43 3 = some (14, ⟨.int .i64, 1, false⟩) := by kernel_rfl
theorem fi45_0 : fieldInfo Tryz.prog 45 0 = some (0, ⟨.int .i64, 1, false⟩) := by kernel_rfl
theorem fi45_1 : fieldInfo Tryz.prog 45 1 = some (1, ⟨.int .i64, 1, false⟩) := by kernel_rfl
theorem fi45_2 : fieldInfo Tryz.prog 45 2 = some (2, ⟨.int .i64, 1, false⟩) := by kernel_rfl
theorem fi47_1 : fieldInfo Tryz.prog 47 1 = some (1, ⟨.string, 1, false⟩) := by kernel_rfl
theorem fi47_2 : fieldInfo Tryz.prog 47 2 = some (2, ⟨(Tryz.prog.underlying 43).getD .invalid, 15, true⟩) := by kernel_rfl
theorem fi47_3 : fieldInfo Tryz.prog 47 3 = some (17, ⟨(Tryz.prog.underlying 45).getD .invalid, 3, true⟩) := by kernel_rfl
theorem fi47_4 : fieldInfo Tryz.prog 47 4 = some (20, ⟨.int .i64, 1, false⟩) := by kernel_rfl
theorem fi47_5 : fieldInfo Tryz.prog 47 5 = some (21, ⟨(Tryz.prog.underlying 41).getD .invalid, 2, true⟩) := by kernel_rfl
theorem fi47_6 : fieldInfo Tryz.prog 47 6 = some (23, ⟨.int .i64, 1, false⟩) := by kernel_rfl
theorem fi47_7 : fieldInfo Tryz.prog 47 7 = some (24, ⟨.int .i64, 1, false⟩) := by kernel_rfl
theorem fi57_0 : fieldInfo Tryz.prog 57 0 = some (0, ⟨.int .i64, 1, false⟩) := by kernel_rfl
theorem fi57_1 : fieldInfo Tryz.prog 57 1 = some (1, ⟨.string, 1, false⟩) := by kernel_rfl
theorem fi57_2 : fieldInfo Tryz.prog 57 2 = some (2, ⟨(Tryz.prog.underlying 39).getD .invalid, 11, true⟩) := by kernel_rfl
theorem fi57_3 : fieldInfo Tryz.prog 57 3 = some (13, ⟨.int .i64, 1, false⟩) := by kernel_rfl
theorem fi57_4 : fieldInfo Tryz.prog 57 4 = some (14, ⟨.int .i64, 1, false⟩) := by kernel_rfl
theorem fi57_5 : fieldInfo Tryz.prog 57 5 = some (15, ⟨.int .i64, 1, false⟩) := by kernel_rfl
theorem fi57_6 : fieldInfo Tryz.prog 57 6 = some (16, ⟨.bool, 1, false⟩) := by kernel_rfl
theorem fi61_0 : fieldInfo Tryz.prog 61 0 = some (0, ⟨.int .i64, 1, false⟩) := by kernel_rfl
theorem fi61_1 : fieldInfo Tryz.prog 61 1 = some (1, ⟨.slice 133, 1, false⟩) := by kernel_rfl
theorem fi67_0 : fieldInfo Tryz.prog 67 0 = some (0, ⟨.slice 136, 1, false⟩) := by kernel_rfl
theorem fi67_1 : fieldInfo Tryz.prog 67 1 = some (1, ⟨.int .i64, 1, false⟩) := by kernel_rfl
theorem fi74_0 : fieldInfo Tryz.prog 74 0 = some (0, ⟨.int .i64, 1, false⟩) := by kernel_rfl
theorem fi74_1 : fieldInfo Tryz.prog 74 1 = some (1, ⟨.int .i64, 1, false⟩) := by kernel_rfl
theorem fi74_2 : fieldInfo Tryz.prog 74 2 = some (2, ⟨.int .i64, 1, false⟩) := by kernel_rfl
theorem fi95_0 : fieldInfo Tryz.prog 95 0 = some (0, ⟨.slice 41, 1, false⟩) := by kernel_rfl
theorem ti104 : ti Tryz.prog 104 = some ⟨.map 2 103, 1, false⟩ := by kernel_rfl
theorem ti105 : ti Tryz.prog 105 = some ⟨.map 9 112, 1, false⟩ := by kernel_rfl
theorem ti112 : ti Tryz.prog 112 = some ⟨(Tryz.prog.underlying 112).getD .invalid, 2, true⟩ := by kernel_rfl
theorem ti131 : ti Tryz.prog 131 = some ⟨.slice 135, 1, false⟩ := by kernel_rfl
theorem ti133 : ti Tryz.prog 133 = some ⟨(Tryz.prog.underlying 133).getD .invalid, 2, true⟩ := by kernel_rfl
theorem ti135 : ti Tryz.prog 135 = some ⟨(Tryz.prog.underlying 135).getD .invalid, 3, true⟩ := by kernel_rfl
theorem ti136 : ti Tryz.prog 136 = some ⟨(Tryz.prog.underlying 136).getD .invalid, 3, true⟩ := by kernel_rfl
theorem ti25 : ti Tryz.prog 25 = some ⟨.pointer 107, 1, false⟩ := by kernel_rfl
theorem ti39 : ti Tryz.prog 39 = some ⟨(Tryz.prog.underlying 39).getD .invalid, 11, true⟩ := by kernel_rfl
theorem ti41 : ti Tryz.prog 41 = some ⟨(Tryz.prog.underlying 41).getD .invalid, 2, true⟩ := by kernel_rfl
theorem ti43 : ti Tryz.prog 43 = some ⟨(Tryz.prog.underlying 43).getD .invalid, 15, true⟩ := by kernel_rfl
theorem ti45 : ti Tryz.prog 45 = some ⟨(Tryz.prog.underlying 45).getD .invalid, 3, true⟩ := by kernel_rfl
theorem ti47 : ti Tryz.prog 47 = some ⟨(Tryz.prog.underlying 47).getD .invalid, 25, true⟩ := by kernel_rfl
theorem ti52 : ti Tryz.prog 52 = some ⟨.slice 41, 1, false⟩ := by kernel_rfl
theorem ti57 : ti Tryz.prog 57 = some ⟨(Tryz.prog.underlying 57).getD .invalid, 17, true⟩ := by kernel_rfl
theorem ti59 : ti Tryz.prog 59 = some ⟨.slice 133, 1, false⟩ := by kernel_rfl
theorem ti65 : ti Tryz.prog 65 = some ⟨.slice 136, 1, false⟩ := by kernel_rfl
theorem ti67 : ti Tryz.prog 67 = some ⟨(Tryz.prog.underlying 67).getD .invalid, 2, true⟩ := by kernel_rfl
theorem ti74 : ti Tryz.prog 74 = some ⟨(Tryz.prog.underlying 74).getD .invalid, 3, true⟩ := by kernel_rfl
theorem ti95 : ti Tryz.prog 95 = some ⟨(Tryz.prog.underlying 95).getD .invalid, 1, true⟩ := by kernel_rfl
theorem und103 : Tryz.prog.underlying 103 = some (.pointer 110) := by kernel_rfl
theorem und104 : Tryz.prog.underlying 104 = some (.map 2 103) := by kernel_rfl
theorem und105 : Tryz.prog.underlying 105 = some (.map 9 112) := by kernel_rfl
theorem und131 : Tryz.prog.underlying 131 = some (.slice 135) := by kernel_rfl
theorem und152 : Tryz.prog.underlying 152 = some (.func #[93] #[] false) := by kernel_rfl
theorem und162 : Tryz.prog.underlying 162 = some (.func #[95, 95] #[95] false) := by kernel_rfl
theorem und22 : Tryz.prog.underlying 22 = some (.slice 47) := by kernel_rfl
theorem und25 : Tryz.prog.underlying 25 = some (.pointer 107) := by kernel_rfl
theorem und51 : Tryz.prog.underlying 51 = some (.slice 57) := by kernel_rfl
theorem und52 : Tryz.prog.underlying 52 = some (.slice 41) := by kernel_rfl
theorem und59 : Tryz.prog.underlying 59 = some (.slice 133) := by kernel_rfl
theorem und64 : Tryz.prog.underlying 64 = some (.pointer 176) := by kernel_rfl
theorem und65 : Tryz.prog.underlying 65 = some (.slice 136) := by kernel_rfl
theorem und89 : Tryz.prog.underlying 89 = some (.slice 2) := by kernel_rfl
theorem und93 : Tryz.prog.underlying 93 = some (.func #[2] #[4] false) := by kernel_rfl
theorem zero103 : zeroV Tryz.prog 103 = some (.nilp) := by kernel_rfl
theorem zero107 : zeroV Tryz.prog 107 = some (.agg [.nilm, .nilm, .int .i64 0]) := by kernel_rfl
theorem zero110 : zeroV Tryz.prog 110 = some (.agg [.int .i64 0, .str [], .str [], .bool false, .int .i64 0, .int .i64 0, .int .i64 0, .int .i64 0, .int .i64 0, .int .i64 0, .nils, .str [], .bool false, .int .i64 0, .int .i64 0, .int .i64 0, .bool false, .nils]) := by kernel_rfl
theorem zero112 : zeroV Tryz.prog 112 = some (.agg [.int .i64 0, .int .i64 0]) := by kernel_rfl
theorem zero133 : zeroV Tryz.prog 133 = some (.agg [.nils, .bool false]) := by kernel_rfl
theorem zero135 : zeroV Tryz.prog 135 = some (.agg [.int .i64 0, .nils, .bool false]) := by kernel_rfl
theorem zero136 : zeroV Tryz.prog 136 = some (.agg [.int .i64 0, .nils, .bool false]) := by kernel_rfl
theorem zero176 : zeroV Tryz.prog 176 = some (.agg [.int .i64 0, .nils]) := by kernel_rfl
theorem zero2 : zeroV Tryz.prog 2 = some (.int .i64 0) := by kernel_rfl
theorem zero39 : zeroV Tryz.prog 39 = some (.agg [.str [], .bool false, .int .i64 0, .int .i64 0, .int .i64 0, .int .i64 0, .int .i64 0, .int .i64 0, .nils, .str [], .bool false]) := by kernel_rfl
theorem zero41 : zeroV Tryz.prog 41 = some (.agg [.int .i64 0, .int .i64 0]) := by kernel_rfl
theorem zero43 : zeroV Tryz.prog 43 = some (.agg [.int .i64 0, .str [], .bool false, .int .i64 0, .int .i64 0, .int .i64 0, .int .i64 0, .int .i64 0, .int .i64 0, .nils, .str [], .bool false, .int .i64 0, .int .i64 0, .int .i64 0]) := by kernel_rfl
theorem zero47 : zeroV Tryz.prog 47 = some (.agg [.int .u8 0, .str [], .int .i64 0, .str [], .bool false, .int .i64 0, .int .i64 0, .int .i64 0, .int .i64 0, .int .i64 0, .int .i64 0, .nils, .str [], .bool false, .int .i64 0, .int .i64 0, .int .i64 0, .int .i64 0, .int .i64 0, .int .i64 0, .int .i64 0, .int .i64 0, .int .i64 0, .int .i64 0, .int .i64 0]) := by kernel_rfl
theorem zero57 : zeroV Tryz.prog 57 = some (.agg [.int .i64 0, .str [], .str [], .bool false, .int .i64 0, .int .i64 0, .int .i64 0, .int .i64 0, .int .i64 0, .int .i64 0, .nils, .str [], .bool false, .int .i64 0, .int .i64 0, .int .i64 0, .bool false]) := by kernel_rfl
theorem zero61 : zeroV Tryz.prog 61 = some (.agg [.int .i64 0, .nils]) := by kernel_rfl
theorem zero67 : zeroV Tryz.prog 67 = some (.agg [.nils, .int .i64 0]) := by kernel_rfl
theorem zero74 : zeroV Tryz.prog 74 = some (.agg [.int .i64 0, .int .i64 0, .int .i64 0]) := by kernel_rfl
theorem zero9 : zeroV Tryz.prog 9 = some (.str []) := by kernel_rfl
theorem zero95 : zeroV Tryz.prog 95 = some (.agg [.nils]) := by kernel_rfl

/-- mandoline/entry.count -/
def c76 : SC := (.seq (.reg [⟨some 2, none, .assign (.const (.bool false))⟩])
  (.seq (.reg [⟨some 3, none, .move (.tmp 0)⟩,
    ⟨some 4, none, .binOp .geq 2 (.tmp 3) (.const (.int .i64 0)) 2⟩,
    ⟨some 5, none, .move (.tmp 4)⟩,
    ⟨some 6, some (5, true), .move (.tmp 0)⟩,
    ⟨some 7, some (5, true), .binOp .leq 2 (.tmp 6) (.const (.int .i64 1099511627776)) 2⟩,
    ⟨some 8, none, .pick (.tmp 5) (.tmp 7) (.const (.bool false))⟩,
    ⟨some 2, none, .assign (.tmp 8)⟩])
  .ret))
theorem ok76 : FnOk Tryz.prog 76 9 [.tmp 2] c76 := ⟨hmix, Tryz.f76, Tryz.func76, by kernel_rfl, rfl, rfl, by kernel_rfl, by kernel_rfl⟩

/-- (mandoline/entry.Asked).right -/
def c77 : SC := (.seq (.reg [⟨some 1, none, .box 74 (.tmp 0)⟩,
    ⟨some 2, none, .assign (.const (.bool false))⟩])
  (.seq (.reg [⟨some 3, none, .fieldAddr 74 (.tmp 1) 0⟩,
    ⟨some 4, none, .load 2 (.tmp 3)⟩,
    ⟨some 5, none, .call ⟨.value (.func 76), #[.tmp 4], #[2]⟩⟩,
    ⟨some 6, none, .move (.tmp 5)⟩,
    ⟨some 7, some (6, true), .fieldAddr 74 (.tmp 1) 1⟩,
    ⟨some 8, some (6, true), .load 2 (.tmp 7)⟩,
    ⟨some 9, some (6, true), .call ⟨.value (.func 76), #[.tmp 8], #[2]⟩⟩,
    ⟨some 10, none, .pick (.tmp 6) (.tmp 9) (.const (.bool false))⟩,
    ⟨some 11, none, .move (.tmp 10)⟩,
    ⟨some 12, some (11, true), .fieldAddr 74 (.tmp 1) 2⟩,
    ⟨some 13, some (11, true), .load 2 (.tmp 12)⟩,
    ⟨some 14, some (11, true), .call ⟨.value (.func 76), #[.tmp 13], #[2]⟩⟩,
    ⟨some 15, none, .pick (.tmp 11) (.tmp 14) (.const (.bool false))⟩,
    ⟨some 2, none, .assign (.tmp 15)⟩])
  .ret))
theorem ok77 : FnOk Tryz.prog 77 16 [.tmp 2] c77 := ⟨hmix, Tryz.f77, Tryz.func77, by kernel_rfl, rfl, rfl, by kernel_rfl, by kernel_rfl⟩

/-- mandoline/fresh.Said -/
def c78 : SC := (.seq (.reg [⟨some 4, none, .assign (.const (.int .i64 0))⟩])
  (.seq (.reg [⟨some 5, none, .move (.tmp 0)⟩,
    ⟨some 6, none, .call ⟨.value (.func 68), #[.tmp 5], #[2]⟩⟩,
    ⟨some 7, none, .move (.tmp 1)⟩,
    ⟨some 8, none, .call ⟨.value (.func 68), #[.tmp 7], #[2]⟩⟩,
    ⟨some 9, none, .binOp .sub 2 (.tmp 6) (.tmp 8) 2⟩,
    ⟨some 10, none, .call ⟨.builtin .max, #[.tmp 9, .const (.int .i64 0)], #[2, 2]⟩⟩,
    ⟨some 4, none, .assign (.tmp 10)⟩])
  .ret))
theorem ok78 : FnOk Tryz.prog 78 11 [.tmp 4] c78 := ⟨hmix, Tryz.f78, Tryz.func78, by kernel_rfl, rfl, rfl, by kernel_rfl, by kernel_rfl⟩

/-- slices.Clone[[]string,string] -/
def c90 : SC := (.seq (.reg [⟨some 2, none, .assign (.const (.slice .none 0 0))⟩])
  (.seq (.seq (.reg [⟨some 3, none, .move (.tmp 0)⟩,
    ⟨some 4, none, .binOp .eql 37 (.tmp 3) (.const (.slice .none 0 0)) 37⟩])
  (.cond (.tmp 4)
  (.seq (.reg [⟨some 2, none, .assign (.const (.slice .none 0 0))⟩])
  .ret)
  .skip))
  (.seq (.reg [⟨some 5, none, .buildSlice 37 0 #[]⟩,
    ⟨some 6, none, .move (.tmp 0)⟩,
    ⟨some 7, none, .call ⟨.builtin .append, #[.tmp 5, .tmp 6], #[37, 37]⟩⟩,
    ⟨some 2, none, .assign (.tmp 7)⟩])
  .ret)))
theorem ok90 : FnOk Tryz.prog 90 8 [.tmp 2] c90 := ⟨hmix, Tryz.f90, Tryz.func90, by kernel_rfl, rfl, rfl, by kernel_rfl, by kernel_rfl⟩

/-- mandoline/entry.copied -/
def c40 : SC := (.seq (.reg [⟨some 1, none, .box 39 (.tmp 0)⟩,
    ⟨some 2, none, .alloc 39⟩])
  (.seq (.reg [⟨some 3, none, .fieldAddr 39 (.tmp 1) 7⟩,
    ⟨some 4, none, .load 37 (.tmp 3)⟩,
    ⟨some 5, none, .call ⟨.value (.func 90), #[.tmp 4], #[37]⟩⟩,
    ⟨some 6, none, .fieldAddr 39 (.tmp 1) 7⟩,
    ⟨none, none, .store 37 (.tmp 6) (.tmp 5)⟩])
  (.seq (.reg [⟨some 7, none, .load 39 (.tmp 1)⟩,
    ⟨none, none, .store 39 (.tmp 2) (.tmp 7)⟩])
  .ret)))
theorem ok40 : FnOk Tryz.prog 40 8 [.cell 2 39] c40 := ⟨hmix, Tryz.f40, Tryz.func40, by kernel_rfl, rfl, rfl, by kernel_rfl, by kernel_rfl⟩

/-- mandoline/mandolinelaw42.asked -/
def c19 : SC := (.seq (.reg [⟨some 1, none, .box 45 (.tmp 0)⟩,
    ⟨some 2, none, .alloc 74⟩])
  (.seq (.reg [⟨some 3, none, .fieldAddr 45 (.tmp 1) 0⟩,
    ⟨some 4, none, .load 2 (.tmp 3)⟩,
    ⟨some 5, none, .fieldAddr 45 (.tmp 1) 1⟩,
    ⟨some 6, none, .load 2 (.tmp 5)⟩,
    ⟨some 7, none, .fieldAddr 45 (.tmp 1) 2⟩,
    ⟨some 8, none, .load 2 (.tmp 7)⟩,
    ⟨some 9, none, .build 74 #[(0, .tmp 4), (1, .tmp 6), (2, .tmp 8)]⟩,
    ⟨none, none, .store 74 (.tmp 2) (.tmp 9)⟩])
  .ret))
theorem ok19 : FnOk Tryz.prog 19 10 [.cell 2 74] c19 := ⟨hmix, Tryz.f19, Tryz.func19, by kernel_rfl, rfl, rfl, by kernel_rfl, by kernel_rfl⟩

/-- mandoline/mandolinelaw42.meta -/
def c36 : SC := (.seq (.reg [⟨some 2, none, .alloc 39⟩])
  (.seq (.reg [⟨some 3, none, .move (.tmp 0)⟩,
    ⟨some 4, none, .build 36 #[(0, .tmp 3)]⟩,
    ⟨some 5, none, .build 39 #[(0, .tmp 4), (1, .const (.int .i64 (-1))), (2, .const (.int .i64 4)), (3, .const (.int .i64 4)), (4, .const (.int .i64 9)), (9, .const (.bool true))]⟩,
    ⟨none, none, .store 39 (.tmp 2) (.tmp 5)⟩])
  .ret))
theorem ok36 : FnOk Tryz.prog 36 6 [.cell 2 39] c36 := ⟨hmix, Tryz.f36, Tryz.func36, by kernel_rfl, rfl, rfl, by kernel_rfl, by kernel_rfl⟩

/-- (mandoline/ranges.Set).Len -/
def c35 : SC := (.seq (.reg [⟨some 1, none, .box 95 (.tmp 0)⟩,
    ⟨some 2, none, .assign (.const (.int .i64 0))⟩])
  (.seq (.reg [⟨some 3, none, .assign (.const (.int .i64 0))⟩])
  (.seq (.seq (.reg [⟨some 6, none, .fieldAddr 95 (.tmp 1) 0⟩,
    ⟨some 7, none, .load 52 (.tmp 6)⟩,
    ⟨some 8, none, .call ⟨.builtin .len, #[.tmp 7], #[52]⟩⟩,
    ⟨some 9, none, .move (.const (.int .i64 0))⟩])
  (.block 0 (.loop (.seq (.reg [⟨some 10, none, .binOp .lss 3 (.tmp 9) (.tmp 8) 3⟩])
  (.seq (.cond (.tmp 10)
  .skip
  (.exit 0))
  (.seq (.block 1 (.seq (.reg [⟨some 11, none, .indexAddr 52 (.tmp 7) (.tmp 9)⟩,
    ⟨some 12, none, .load 41 (.tmp 11)⟩,
    ⟨some 5, none, .alloc 41⟩,
    ⟨none, none, .store 41 (.tmp 5) (.tmp 12)⟩])
  (.seq (.seq (.reg [⟨some 13, none, .fieldAddr 41 (.tmp 5) 1⟩,
    ⟨some 14, none, .load 2 (.tmp 13)⟩,
    ⟨some 15, none, .binOp .eql 2 (.tmp 14) (.const (.int .i64 4611686018427387904)) 2⟩])
  (.cond (.tmp 15)
  (.seq (.reg [⟨some 2, none, .assign (.const (.int .i64 4611686018427387904))⟩])
  .ret)
  .skip))
  (.reg [⟨some 16, none, .move (.tmp 3)⟩,
    ⟨some 17, none, .fieldAddr 41 (.tmp 5) 1⟩,
    ⟨some 18, none, .load 2 (.tmp 17)⟩,
    ⟨some 19, none, .fieldAddr 41 (.tmp 5) 0⟩,
    ⟨some 20, none, .load 2 (.tmp 19)⟩,
    ⟨some 21, none, .binOp .sub 2 (.tmp 18) (.tmp 20) 2⟩,
    ⟨some 22, none, .binOp .add 2 (.tmp 16) (.tmp 21) 2⟩,
    ⟨some 3, none, .assign (.tmp 22)⟩]))))
  (.reg [⟨some 23, none, .binOp .add 3 (.tmp 9) (.const (.int .i64 1)) 3⟩,
    ⟨some 9, none, .move (.tmp 23)⟩])))))))
  (.seq (.reg [⟨some 24, none, .move (.tmp 3)⟩,
    ⟨some 2, none, .assign (.tmp 24)⟩])
  .ret))))
theorem ok35 : FnOk Tryz.prog 35 25 [.tmp 2] c35 := ⟨hmix, Tryz.f35, Tryz.func35, by kernel_rfl, rfl, rfl, by kernel_rfl, by kernel_rfl⟩

/-- mandoline/entry.empty -/
def c38 : SC := (.seq (.reg [⟨some 2, none, .assign (.const (.pointer .none))⟩])
  (.seq (.reg [⟨some 3, none, .makeMap 104 .none⟩,
    ⟨some 4, none, .makeMap 105 .none⟩,
    ⟨some 5, none, .move (.tmp 0)⟩,
    ⟨some 6, none, .build 107 #[(0, .tmp 3), (1, .tmp 4), (2, .tmp 5)]⟩,
    ⟨some 7, none, .box 107 (.tmp 6)⟩,
    ⟨some 2, none, .assign (.tmp 7)⟩])
  .ret))
theorem ok38 : FnOk Tryz.prog 38 8 [.tmp 2] c38 := ⟨hmix, Tryz.f38, Tryz.func38, by kernel_rfl, rfl, rfl, by kernel_rfl, by kernel_rfl⟩

/-- (*mandoline/entry.Table).turned -/
def c65 : SC := (.seq (.reg [⟨some 3, none, .box 57 (.tmp 1)⟩,
    ⟨some 4, none, .assign (.const (.bool false))⟩])
  (.seq (.draw #[⟨some 5, .move (.tmp 0), 25, "entry.go:84", #[], none⟩,
    ⟨some 6, .nilCheck (.tmp 5), 0, "entry.go:84", #[⟨0, .data⟩], none⟩,
    ⟨some 7, .fieldAddr 107 (.tmp 6) 1, 0, "entry.go:84", #[⟨1, .data⟩], none⟩,
    ⟨some 8, .load 105 (.tmp 7), 105, "entry.go:84", #[⟨2, .data⟩], none⟩,
    ⟨some 9, .fieldAddr 57 (.tmp 3) 1, 0, "entry.go:84", #[], none⟩,
    ⟨some 10, .load 9 (.tmp 9), 9, "entry.go:84", #[⟨4, .data⟩], none⟩,
    ⟨some 11, .lookup 105 (.tmp 8) (.tmp 10) false, 112, "entry.go:84", #[⟨3, .data⟩, ⟨5, .data⟩], none⟩,
    ⟨some 12, .field 112 (.tmp 11) 1, 2, "entry.go:84", #[⟨6, .data⟩], none⟩,
    ⟨some 13, .fieldAddr 57 (.tmp 3) 0, 0, "entry.go:84", #[], none⟩,
    ⟨some 14, .load 2 (.tmp 13), 2, "entry.go:84", #[⟨8, .data⟩], none⟩,
    ⟨some 15, .binOp .neq 2 (.tmp 12) (.tmp 14) 2, 4, "entry.go:84", #[⟨7, .data⟩, ⟨9, .data⟩], none⟩,
    ⟨some 4, .assign (.tmp 15), 4, "entry.go:84", #[⟨10, .data⟩, ⟨0, .phase⟩, ⟨1, .phase⟩, ⟨2, .phase⟩, ⟨3, .phase⟩, ⟨4, .phase⟩, ⟨5, .phase⟩, ⟨6, .phase⟩, ⟨7, .phase⟩, ⟨8, .phase⟩, ⟨9, .phase⟩, ⟨10, .phase⟩], none⟩]
    [⟨some 5, none, .move (.tmp 0)⟩,
    ⟨some 6, none, .nilCheck (.tmp 5)⟩,
    ⟨some 7, none, .fieldAddr 107 (.tmp 6) 1⟩,
    ⟨some 8, none, .load 105 (.tmp 7)⟩,
    ⟨some 9, none, .fieldAddr 57 (.tmp 3) 1⟩,
    ⟨some 10, none, .load 9 (.tmp 9)⟩,
    ⟨some 11, none, .lookup 105 (.tmp 8) (.tmp 10) false⟩,
    ⟨some 12, none, .field 112 (.tmp 11) 1⟩,
    ⟨some 13, none, .fieldAddr 57 (.tmp 3) 0⟩,
    ⟨some 14, none, .load 2 (.tmp 13)⟩,
    ⟨some 15, none, .binOp .neq 2 (.tmp 12) (.tmp 14) 2⟩,
    ⟨some 4, none, .assign (.tmp 15)⟩])
  .ret))
theorem ok65 : FnOk Tryz.prog 65 16 [.tmp 4] c65 := ⟨hmix, Tryz.f65, Tryz.func65, by kernel_rfl, rfl, rfl, by kernel_rfl, by kernel_rfl⟩

/-- (*mandoline/entry.Table).take -/
def c84 : SC := (.seq (.reg [⟨some 7, none, .box 74 (.tmp 3)⟩])
  (.seq (.reg [⟨some 11, none, .move (.tmp 0)⟩,
    ⟨some 12, none, .nilCheck (.tmp 11)⟩,
    ⟨some 13, none, .fieldAddr 107 (.tmp 12) 1⟩,
    ⟨some 14, none, .load 105 (.tmp 13)⟩,
    ⟨some 15, none, .move (.tmp 1)⟩,
    ⟨some 16, none, .lookup 105 (.tmp 14) (.tmp 15) true⟩,
    ⟨some 10, none, .move (.tmp 16)⟩,
    ⟨some 17, none, .extract (.tmp 10) 0⟩,
    ⟨some 18, none, .extract (.tmp 10) 1⟩,
    ⟨some 8, none, .alloc 112⟩,
    ⟨none, none, .store 112 (.tmp 8) (.tmp 17)⟩,
    ⟨some 9, none, .assign (.tmp 18)⟩])
  (.seq (.reg [⟨some 19, none, .move (.tmp 9)⟩,
    ⟨some 20, none, .unOp .not 4 (.tmp 19)⟩,
    ⟨some 21, none, .move (.tmp 20)⟩,
    ⟨some 22, some (21, false), .fieldAddr 74 (.tmp 7) 1⟩,
    ⟨some 23, some (21, false), .load 2 (.tmp 22)⟩,
    ⟨some 24, some (21, false), .fieldAddr 112 (.tmp 8) 0⟩,
    ⟨some 25, some (21, false), .load 2 (.tmp 24)⟩,
    ⟨some 26, some (21, false), .binOp .geq 2 (.tmp 23) (.tmp 25) 2⟩,
    ⟨some 27, none, .pick (.tmp 21) (.const (.bool true)) (.tmp 26)⟩])
  (.cond (.tmp 27)
  (.draw #[⟨some 28, .move (.tmp 0), 25, "entry.go:89", #[], none⟩,
    ⟨some 29, .nilCheck (.tmp 28), 0, "entry.go:89", #[⟨0, .data⟩], none⟩,
    ⟨some 30, .fieldAddr 107 (.tmp 29) 1, 0, "entry.go:89", #[⟨1, .data⟩], none⟩,
    ⟨some 31, .load 105 (.tmp 30), 105, "entry.go:89", #[⟨2, .data⟩], none⟩,
    ⟨some 32, .move (.tmp 1), 9, "entry.go:89", #[], none⟩,
    ⟨some 33, .fieldAddr 74 (.tmp 7) 1, 0, "entry.go:89", #[], none⟩,
    ⟨some 34, .load 2 (.tmp 33), 2, "entry.go:89", #[⟨5, .data⟩], none⟩,
    ⟨some 35, .move (.tmp 2), 2, "entry.go:89", #[], none⟩,
    ⟨some 36, .build 112 #[(0, .tmp 34), (1, .tmp 35)], 112, "entry.go:89", #[⟨6, .data⟩, ⟨7, .data⟩], none⟩,
    ⟨none, .mapUpdate 105 (.tmp 31) (.tmp 32) (.tmp 36), 0, "entry.go:89", #[⟨3, .data⟩, ⟨4, .data⟩, ⟨8, .data⟩, ⟨0, .phase⟩, ⟨1, .phase⟩, ⟨2, .phase⟩, ⟨3, .phase⟩, ⟨4, .phase⟩, ⟨5, .phase⟩, ⟨6, .phase⟩, ⟨7, .phase⟩, ⟨8, .phase⟩], none⟩]
    [⟨some 28, none, .move (.tmp 0)⟩,
    ⟨some 29, none, .nilCheck (.tmp 28)⟩,
    ⟨some 30, none, .fieldAddr 107 (.tmp 29) 1⟩,
    ⟨some 31, none, .load 105 (.tmp 30)⟩,
    ⟨some 32, none, .move (.tmp 1)⟩,
    ⟨some 33, none, .fieldAddr 74 (.tmp 7) 1⟩,
    ⟨some 34, none, .load 2 (.tmp 33)⟩,
    ⟨some 35, none, .move (.tmp 2)⟩,
    ⟨some 36, none, .build 112 #[(0, .tmp 34), (1, .tmp 35)]⟩,
    ⟨none, none, .mapUpdate 105 (.tmp 31) (.tmp 32) (.tmp 36)⟩])
  .skip))))
theorem ok84 : FnOk Tryz.prog 84 37 [] c84 := ⟨hmix, Tryz.f84, Tryz.func84, by kernel_rfl, rfl, rfl, by kernel_rfl, by kernel_rfl⟩

/-- (*mandoline/entry.known).say -/
def c83 : SC := (.seq (.reg [⟨some 5, none, .box 74 (.tmp 2)⟩])
  (.seq (.draw #[⟨some 6, .fieldAddr 74 (.tmp 5) 1, 0, "entry.go:95", #[], none⟩,
    ⟨some 7, .load 2 (.tmp 6), 2, "entry.go:95", #[⟨0, .data⟩], none⟩,
    ⟨some 8, .move (.tmp 0), 103, "entry.go:95", #[], none⟩,
    ⟨some 9, .nilCheck (.tmp 8), 0, "entry.go:95", #[⟨2, .data⟩], none⟩,
    ⟨some 10, .fieldAddr 110 (.tmp 9) 0, 0, "entry.go:95", #[⟨3, .data⟩], none⟩,
    ⟨some 11, .fieldAddr 57 (.tmp 10) 4, 0, "entry.go:95", #[⟨4, .data⟩], none⟩,
    ⟨some 12, .load 2 (.tmp 11), 2, "entry.go:95", #[⟨5, .data⟩], none⟩,
    ⟨some 13, .binOp .geq 2 (.tmp 7) (.tmp 12) 2, 4, "entry.go:95", #[⟨1, .data⟩, ⟨6, .data⟩], none⟩]
    [⟨some 6, none, .fieldAddr 74 (.tmp 5) 1⟩,
    ⟨some 7, none, .load 2 (.tmp 6)⟩,
    ⟨some 8, none, .move (.tmp 0)⟩,
    ⟨some 9, none, .nilCheck (.tmp 8)⟩,
    ⟨some 10, none, .fieldAddr 110 (.tmp 9) 0⟩,
    ⟨some 11, none, .fieldAddr 57 (.tmp 10) 4⟩,
    ⟨some 12, none, .load 2 (.tmp 11)⟩,
    ⟨some 13, none, .binOp .geq 2 (.tmp 7) (.tmp 12) 2⟩])
  (.cond (.tmp 13)
  (.draw #[⟨some 14, .move (.tmp 0), 103, "entry.go:96", #[], none⟩,
    ⟨some 15, .move (.tmp 0), 103, "entry.go:96", #[⟨11, .gcOnly .lateStores⟩], none⟩,
    ⟨some 16, .move (.tmp 0), 103, "entry.go:96", #[⟨15, .gcOnly .lateStores⟩], none⟩,
    ⟨some 17, .move (.tmp 1), 2, "entry.go:96", #[], none⟩,
    ⟨some 18, .fieldAddr 74 (.tmp 5) 1, 0, "entry.go:96", #[⟨11, .gcOnly .lateStores⟩], none⟩,
    ⟨some 19, .load 2 (.tmp 18), 2, "entry.go:96", #[⟨4, .data⟩, ⟨11, .gcOnly .lateStores⟩], none⟩,
    ⟨some 20, .fieldAddr 74 (.tmp 5) 2, 0, "entry.go:96", #[⟨15, .gcOnly .lateStores⟩], none⟩,
    ⟨some 21, .load 2 (.tmp 20), 2, "entry.go:96", #[⟨6, .data⟩, ⟨15, .gcOnly .lateStores⟩], none⟩,
    ⟨some 22, .nilCheck (.tmp 14), 0, "entry.go:96", #[⟨0, .data⟩, ⟨0, .phase⟩, ⟨1, .textOnly .lateStores⟩, ⟨2, .textOnly .lateStores⟩, ⟨3, .phase⟩, ⟨4, .textOnly .lateStores⟩, ⟨5, .textOnly .lateStores⟩, ⟨6, .textOnly .lateStores⟩, ⟨7, .textOnly .lateStores⟩], none⟩,
    ⟨some 23, .fieldAddr 110 (.tmp 22) 0, 0, "entry.go:96", #[⟨8, .data⟩, ⟨0, .phase⟩, ⟨1, .textOnly .lateStores⟩, ⟨2, .textOnly .lateStores⟩, ⟨3, .phase⟩, ⟨4, .textOnly .lateStores⟩, ⟨5, .textOnly .lateStores⟩, ⟨6, .textOnly .lateStores⟩, ⟨7, .textOnly .lateStores⟩], none⟩,
    ⟨some 24, .fieldAddr 57 (.tmp 23) 3, 0, "entry.go:96", #[⟨9, .data⟩, ⟨0, .phase⟩, ⟨1, .textOnly .lateStores⟩, ⟨2, .textOnly .lateStores⟩, ⟨3, .phase⟩, ⟨4, .textOnly .lateStores⟩, ⟨5, .textOnly .lateStores⟩, ⟨6, .textOnly .lateStores⟩, ⟨7, .textOnly .lateStores⟩], none⟩,
    ⟨none, .store 2 (.tmp 24) (.tmp 17), 0, "entry.go:96", #[⟨10, .data⟩, ⟨3, .data⟩, ⟨0, .phase⟩, ⟨1, .textOnly .lateStores⟩, ⟨2, .textOnly .lateStores⟩, ⟨3, .phase⟩, ⟨4, .textOnly .lateStores⟩, ⟨5, .textOnly .lateStores⟩, ⟨6, .textOnly .lateStores⟩, ⟨7, .textOnly .lateStores⟩], none⟩,
    ⟨some 25, .nilCheck (.tmp 15), 0, "entry.go:96", #[⟨1, .data⟩, ⟨0, .phase⟩, ⟨1, .phase⟩, ⟨2, .textOnly .lateStores⟩, ⟨3, .phase⟩, ⟨4, .phase⟩, ⟨5, .phase⟩, ⟨6, .textOnly .lateStores⟩, ⟨7, .textOnly .lateStores⟩, ⟨8, .phase⟩, ⟨9, .phase⟩, ⟨10, .phase⟩, ⟨11, .phase⟩], none⟩,
    ⟨some 26, .fieldAddr 110 (.tmp 25) 0, 0, "entry.go:96", #[⟨12, .data⟩, ⟨0, .phase⟩, ⟨1, .phase⟩, ⟨2, .textOnly .lateStores⟩, ⟨3, .phase⟩, ⟨4, .phase⟩, ⟨5, .phase⟩, ⟨6, .textOnly .lateStores⟩, ⟨7, .textOnly .lateStores⟩, ⟨8, .phase⟩, ⟨9, .phase⟩, ⟨10, .phase⟩, ⟨11, .phase⟩], none⟩,
    ⟨some 27, .fieldAddr 57 (.tmp 26) 4, 0, "entry.go:96", #[⟨13, .data⟩, ⟨0, .phase⟩, ⟨1, .phase⟩, ⟨2, .textOnly .lateStores⟩, ⟨3, .phase⟩, ⟨4, .phase⟩, ⟨5, .phase⟩, ⟨6, .textOnly .lateStores⟩, ⟨7, .textOnly .lateStores⟩, ⟨8, .phase⟩, ⟨9, .phase⟩, ⟨10, .phase⟩, ⟨11, .phase⟩], none⟩,
    ⟨none, .store 2 (.tmp 27) (.tmp 19), 0, "entry.go:96", #[⟨14, .data⟩, ⟨5, .data⟩, ⟨11, .chain⟩, ⟨0, .phase⟩, ⟨1, .phase⟩, ⟨2, .textOnly .lateStores⟩, ⟨3, .phase⟩, ⟨4, .phase⟩, ⟨5, .phase⟩, ⟨6, .textOnly .lateStores⟩, ⟨7, .textOnly .lateStores⟩, ⟨8, .phase⟩, ⟨9, .phase⟩, ⟨10, .phase⟩, ⟨11, .phase⟩], none⟩,
    ⟨some 28, .nilCheck (.tmp 16), 0, "entry.go:96", #[⟨2, .data⟩, ⟨0, .phase⟩, ⟨1, .phase⟩, ⟨2, .phase⟩, ⟨3, .phase⟩, ⟨4, .phase⟩, ⟨5, .phase⟩, ⟨6, .phase⟩, ⟨7, .phase⟩, ⟨8, .phase⟩, ⟨9, .phase⟩, ⟨10, .phase⟩, ⟨11, .phase⟩, ⟨12, .phase⟩, ⟨13, .phase⟩, ⟨14, .phase⟩, ⟨15, .phase⟩], none⟩,
    ⟨some 29, .fieldAddr 110 (.tmp 28) 0, 0, "entry.go:96", #[⟨16, .data⟩, ⟨0, .phase⟩, ⟨1, .phase⟩, ⟨2, .phase⟩, ⟨3, .phase⟩, ⟨4, .phase⟩, ⟨5, .phase⟩, ⟨6, .phase⟩, ⟨7, .phase⟩, ⟨8, .phase⟩, ⟨9, .phase⟩, ⟨10, .phase⟩, ⟨11, .phase⟩, ⟨12, .phase⟩, ⟨13, .phase⟩, ⟨14, .phase⟩, ⟨15, .phase⟩], none⟩,
    ⟨some 30, .fieldAddr 57 (.tmp 29) 5, 0, "entry.go:96", #[⟨17, .data⟩, ⟨0, .phase⟩, ⟨1, .phase⟩, ⟨2, .phase⟩, ⟨3, .phase⟩, ⟨4, .phase⟩, ⟨5, .phase⟩, ⟨6, .phase⟩, ⟨7, .phase⟩, ⟨8, .phase⟩, ⟨9, .phase⟩, ⟨10, .phase⟩, ⟨11, .phase⟩, ⟨12, .phase⟩, ⟨13, .phase⟩, ⟨14, .phase⟩, ⟨15, .phase⟩], none⟩,
    ⟨none, .store 2 (.tmp 30) (.tmp 21), 0, "entry.go:96", #[⟨18, .data⟩, ⟨7, .data⟩, ⟨15, .chain⟩, ⟨0, .phase⟩, ⟨1, .phase⟩, ⟨2, .phase⟩, ⟨3, .phase⟩, ⟨4, .phase⟩, ⟨5, .phase⟩, ⟨6, .phase⟩, ⟨7, .phase⟩, ⟨8, .phase⟩, ⟨9, .phase⟩, ⟨10, .phase⟩, ⟨11, .phase⟩, ⟨12, .phase⟩, ⟨13, .phase⟩, ⟨14, .phase⟩, ⟨15, .phase⟩], none⟩]
    [⟨some 14, none, .move (.tmp 0)⟩,
    ⟨some 15, none, .move (.tmp 0)⟩,
    ⟨some 16, none, .move (.tmp 0)⟩,
    ⟨some 17, none, .move (.tmp 1)⟩,
    ⟨some 18, none, .fieldAddr 74 (.tmp 5) 1⟩,
    ⟨some 19, none, .load 2 (.tmp 18)⟩,
    ⟨some 20, none, .fieldAddr 74 (.tmp 5) 2⟩,
    ⟨some 21, none, .load 2 (.tmp 20)⟩,
    ⟨some 22, none, .nilCheck (.tmp 14)⟩,
    ⟨some 23, none, .fieldAddr 110 (.tmp 22) 0⟩,
    ⟨some 24, none, .fieldAddr 57 (.tmp 23) 3⟩,
    ⟨none, none, .store 2 (.tmp 24) (.tmp 17)⟩,
    ⟨some 25, none, .nilCheck (.tmp 15)⟩,
    ⟨some 26, none, .fieldAddr 110 (.tmp 25) 0⟩,
    ⟨some 27, none, .fieldAddr 57 (.tmp 26) 4⟩,
    ⟨none, none, .store 2 (.tmp 27) (.tmp 19)⟩,
    ⟨some 28, none, .nilCheck (.tmp 16)⟩,
    ⟨some 29, none, .fieldAddr 110 (.tmp 28) 0⟩,
    ⟨some 30, none, .fieldAddr 57 (.tmp 29) 5⟩,
    ⟨none, none, .store 2 (.tmp 30) (.tmp 21)⟩])
  .skip)))
theorem ok83 : FnOk Tryz.prog 83 31 [] c83 := ⟨hmix, Tryz.f83, Tryz.func83, by kernel_rfl, rfl, rfl, by kernel_rfl, by kernel_rfl⟩

/-- (*mandoline/entry.Table).Last -/
def c25 : SC := (.seq (.reg [⟨some 4, none, .assign (.const (.int .i64 0))⟩,
    ⟨some 5, none, .assign (.const (.bool false))⟩])
  (.seq (.seq (.reg [⟨some 9, none, .move (.tmp 0)⟩,
    ⟨some 10, none, .binOp .eql 25 (.tmp 9) (.const (.pointer .none)) 25⟩])
  (.cond (.tmp 10)
  (.seq (.reg [⟨some 4, none, .assign (.const (.int .i64 0))⟩,
    ⟨some 5, none, .assign (.const (.bool false))⟩])
  .ret)
  .skip))
  (.seq (.reg [⟨some 11, none, .move (.tmp 0)⟩,
    ⟨some 12, none, .nilCheck (.tmp 11)⟩,
    ⟨some 13, none, .fieldAddr 107 (.tmp 12) 1⟩,
    ⟨some 14, none, .load 105 (.tmp 13)⟩,
    ⟨some 15, none, .move (.tmp 1)⟩,
    ⟨some 16, none, .lookup 105 (.tmp 14) (.tmp 15) false⟩,
    ⟨some 6, none, .alloc 112⟩,
    ⟨none, none, .store 112 (.tmp 6) (.tmp 16)⟩])
  (.seq (.seq (.draw #[⟨some 18, .move (.tmp 0), 25, "entry.go:229", #[], none⟩,
    ⟨some 19, .nilCheck (.tmp 18), 0, "entry.go:229", #[⟨0, .data⟩], none⟩,
    ⟨some 20, .fieldAddr 107 (.tmp 19) 0, 0, "entry.go:229", #[⟨1, .data⟩], none⟩,
    ⟨some 21, .load 104 (.tmp 20), 104, "entry.go:229", #[⟨2, .data⟩], none⟩,
    ⟨some 22, .fieldAddr 112 (.tmp 6) 1, 0, "entry.go:229", #[], none⟩,
    ⟨some 23, .load 2 (.tmp 22), 2, "entry.go:229", #[⟨4, .data⟩], none⟩,
    ⟨some 24, .lookup 104 (.tmp 21) (.tmp 23) true, 146, "entry.go:229", #[⟨3, .data⟩, ⟨5, .data⟩], none⟩,
    ⟨some 17, .move (.tmp 24), 146, "entry.go:229", #[⟨6, .data⟩], none⟩,
    ⟨some 25, .extract (.tmp 17) 0, 103, "entry.go:229", #[⟨7, .data⟩], none⟩,
    ⟨some 26, .extract (.tmp 17) 1, 4, "entry.go:229", #[⟨7, .data⟩, ⟨10, .gcOnly .lateStores⟩], none⟩,
    ⟨some 7, .assign (.tmp 25), 103, "entry.go:229", #[⟨8, .data⟩, ⟨0, .phase⟩, ⟨1, .phase⟩, ⟨2, .phase⟩, ⟨3, .phase⟩, ⟨4, .phase⟩, ⟨5, .phase⟩, ⟨6, .phase⟩, ⟨7, .phase⟩, ⟨8, .phase⟩, ⟨9, .textOnly .lateStores⟩], none⟩,
    ⟨some 8, .assign (.tmp 26), 4, "entry.go:229", #[⟨9, .data⟩, ⟨10, .chain⟩, ⟨0, .phase⟩, ⟨1, .phase⟩, ⟨2, .phase⟩, ⟨3, .phase⟩, ⟨4, .phase⟩, ⟨5, .phase⟩, ⟨6, .phase⟩, ⟨7, .phase⟩, ⟨8, .phase⟩, ⟨9, .phase⟩, ⟨10, .phase⟩], none⟩]
    [⟨some 18, none, .move (.tmp 0)⟩,
    ⟨some 19, none, .nilCheck (.tmp 18)⟩,
    ⟨some 20, none, .fieldAddr 107 (.tmp 19) 0⟩,
    ⟨some 21, none, .load 104 (.tmp 20)⟩,
    ⟨some 22, none, .fieldAddr 112 (.tmp 6) 1⟩,
    ⟨some 23, none, .load 2 (.tmp 22)⟩,
    ⟨some 24, none, .lookup 104 (.tmp 21) (.tmp 23) true⟩,
    ⟨some 17, none, .move (.tmp 24)⟩,
    ⟨some 25, none, .extract (.tmp 17) 0⟩,
    ⟨some 26, none, .extract (.tmp 17) 1⟩,
    ⟨some 7, none, .assign (.tmp 25)⟩,
    ⟨some 8, none, .assign (.tmp 26)⟩])
  (.seq (.reg [⟨some 27, none, .move (.tmp 8)⟩,
    ⟨some 28, none, .unOp .not 4 (.tmp 27)⟩])
  (.cond (.tmp 28)
  (.seq (.reg [⟨some 4, none, .assign (.const (.int .i64 0))⟩,
    ⟨some 5, none, .assign (.const (.bool false))⟩])
  .ret)
  .skip)))
  (.seq (.reg [⟨some 29, none, .fieldAddr 112 (.tmp 6) 1⟩,
    ⟨some 30, none, .load 2 (.tmp 29)⟩,
    ⟨some 4, none, .assign (.tmp 30)⟩,
    ⟨some 5, none, .assign (.const (.bool true))⟩])
  .ret)))))
theorem ok25 : FnOk Tryz.prog 25 31 [.tmp 4, .tmp 5] c25 := ⟨hmix, Tryz.f25, Tryz.func25, by kernel_rfl, rfl, rfl, by kernel_rfl, by kernel_rfl⟩

/-- (*mandoline/entry.Table).Get -/
def c20 : SC := (.seq (.reg [⟨some 4, none, .alloc 57⟩,
    ⟨some 5, none, .assign (.const (.bool false))⟩])
  (.seq (.seq (.reg [⟨some 9, none, .move (.tmp 0)⟩,
    ⟨some 10, none, .binOp .eql 25 (.tmp 9) (.const (.pointer .none)) 25⟩])
  (.cond (.tmp 10)
  (.seq (.reg [⟨some 11, none, .build 57 #[]⟩,
    ⟨none, none, .store 57 (.tmp 4) (.tmp 11)⟩,
    ⟨some 5, none, .assign (.const (.bool false))⟩])
  .ret)
  .skip))
  (.seq (.reg [⟨some 13, none, .move (.tmp 0)⟩,
    ⟨some 14, none, .nilCheck (.tmp 13)⟩,
    ⟨some 15, none, .fieldAddr 107 (.tmp 14) 0⟩,
    ⟨some 16, none, .load 104 (.tmp 15)⟩,
    ⟨some 17, none, .move (.tmp 1)⟩,
    ⟨some 18, none, .lookup 104 (.tmp 16) (.tmp 17) true⟩,
    ⟨some 12, none, .move (.tmp 18)⟩,
    ⟨some 19, none, .extract (.tmp 12) 0⟩,
    ⟨some 20, none, .extract (.tmp 12) 1⟩,
    ⟨some 6, none, .assign (.tmp 19)⟩,
    ⟨some 7, none, .assign (.tmp 20)⟩])
  (.seq (.seq (.reg [⟨some 21, none, .move (.tmp 7)⟩,
    ⟨some 22, none, .unOp .not 4 (.tmp 21)⟩])
  (.cond (.tmp 22)
  (.seq (.reg [⟨some 23, none, .build 57 #[]⟩,
    ⟨none, none, .store 57 (.tmp 4) (.tmp 23)⟩,
    ⟨some 5, none, .assign (.const (.bool false))⟩])
  .ret)
  .skip))
  (.seq (.reg [⟨some 24, none, .move (.tmp 6)⟩,
    ⟨some 25, none, .nilCheck (.tmp 24)⟩,
    ⟨some 26, none, .fieldAddr 110 (.tmp 25) 0⟩,
    ⟨some 27, none, .load 57 (.tmp 26)⟩,
    ⟨some 8, none, .alloc 57⟩,
    ⟨none, none, .store 57 (.tmp 8) (.tmp 27)⟩])
  (.seq (.draw #[⟨some 28, .fieldAddr 57 (.tmp 8) 2, 0, "entry.go:219", #[], none⟩,
    ⟨some 29, .load 39 (.tmp 28), 39, "entry.go:219", #[⟨0, .data⟩], none⟩,
    ⟨some 30, .call ⟨.value (.func 40), #[.tmp 29], #[39]⟩, 39, "entry.go:219", #[⟨1, .data⟩], none⟩,
    ⟨some 31, .move (.tmp 0), 25, "entry.go:219", #[], none⟩,
    ⟨some 32, .load 57 (.tmp 8), 57, "entry.go:219", #[], none⟩,
    ⟨some 33, .call ⟨.value (.func 65), #[.tmp 31, .tmp 32], #[25, 57]⟩, 4, "entry.go:219", #[⟨3, .data⟩, ⟨4, .data⟩, ⟨2, .chain⟩], none⟩,
    ⟨some 34, .fieldAddr 57 (.tmp 8) 2, 0, "entry.go:219", #[⟨0, .phase⟩, ⟨1, .phase⟩, ⟨2, .phase⟩, ⟨3, .textOnly .lateStores⟩, ⟨4, .phase⟩, ⟨5, .textOnly .lateStoresUnsure⟩], none⟩,
    ⟨none, .store 39 (.tmp 34) (.tmp 30), 0, "entry.go:219", #[⟨6, .data⟩, ⟨2, .data⟩, ⟨5, .chain⟩, ⟨0, .phase⟩, ⟨1, .phase⟩, ⟨2, .phase⟩, ⟨3, .textOnly .lateStores⟩, ⟨4, .phase⟩, ⟨5, .textOnly .lateStoresUnsure⟩], none⟩,
    ⟨some 35, .fieldAddr 57 (.tmp 8) 6, 0, "entry.go:219", #[⟨0, .phase⟩, ⟨1, .phase⟩, ⟨2, .phase⟩, ⟨3, .phase⟩, ⟨4, .phase⟩, ⟨5, .phase⟩, ⟨6, .phase⟩, ⟨7, .phase⟩], none⟩,
    ⟨none, .store 4 (.tmp 35) (.tmp 33), 0, "entry.go:219", #[⟨8, .data⟩, ⟨5, .data⟩, ⟨7, .chain⟩, ⟨0, .phase⟩, ⟨1, .phase⟩, ⟨2, .phase⟩, ⟨3, .phase⟩, ⟨4, .phase⟩, ⟨5, .phase⟩, ⟨6, .phase⟩, ⟨7, .phase⟩], none⟩]
    [⟨some 28, none, .fieldAddr 57 (.tmp 8) 2⟩,
    ⟨some 29, none, .load 39 (.tmp 28)⟩,
    ⟨some 30, none, .call ⟨.value (.func 40), #[.tmp 29], #[39]⟩⟩,
    ⟨some 31, none, .move (.tmp 0)⟩,
    ⟨some 32, none, .load 57 (.tmp 8)⟩,
    ⟨some 33, none, .call ⟨.value (.func 65), #[.tmp 31, .tmp 32], #[25, 57]⟩⟩,
    ⟨some 34, none, .fieldAddr 57 (.tmp 8) 2⟩,
    ⟨none, none, .store 39 (.tmp 34) (.tmp 30)⟩,
    ⟨some 35, none, .fieldAddr 57 (.tmp 8) 6⟩,
    ⟨none, none, .store 4 (.tmp 35) (.tmp 33)⟩])
  (.seq (.reg [⟨some 36, none, .load 57 (.tmp 8)⟩,
    ⟨none, none, .store 57 (.tmp 4) (.tmp 36)⟩,
    ⟨some 5, none, .assign (.const (.bool true))⟩])
  .ret)))))))
theorem ok20 : FnOk Tryz.prog 20 37 [.cell 4 57, .tmp 5] c20 := ⟨hmix, Tryz.f20, Tryz.func20, by kernel_rfl, rfl, rfl, by kernel_rfl, by kernel_rfl⟩

/-- mandoline/meta.Joins -/
def c80 : SC := (.seq (.reg [⟨some 1, none, .box 39 (.tmp 0)⟩,
    ⟨some 2, none, .assign (.const (.bool false))⟩])
  (.seq (.reg [⟨some 3, none, .fieldAddr 39 (.tmp 1) 0⟩,
    ⟨some 4, none, .load 36 (.tmp 3)⟩,
    ⟨some 5, none, .call ⟨.value (.func 126), #[.tmp 4], #[36]⟩⟩,
    ⟨some 6, none, .move (.tmp 5)⟩,
    ⟨some 7, some (6, true), .fieldAddr 39 (.tmp 1) 0⟩,
    ⟨some 8, some (6, true), .fieldAddr 36 (.tmp 7) 1⟩,
    ⟨some 9, some (6, true), .load 4 (.tmp 8)⟩,
    ⟨some 10, some (6, true), .unOp .not 4 (.tmp 9)⟩,
    ⟨some 11, none, .pick (.tmp 6) (.tmp 10) (.const (.bool false))⟩,
    ⟨some 2, none, .assign (.tmp 11)⟩])
  .ret))
theorem ok80 : FnOk Tryz.prog 80 12 [.tmp 2] c80 := ⟨hmix, Tryz.f80, Tryz.func80, by kernel_rfl, rfl, rfl, by kernel_rfl, by kernel_rfl⟩

/-- mandoline/tag.Strong -/
def c81 : SC := (.seq (.reg [⟨some 2, none, .box 36 (.tmp 0)⟩,
    ⟨some 3, none, .box 36 (.tmp 1)⟩,
    ⟨some 4, none, .assign (.const (.bool false))⟩])
  (.seq (.reg [⟨some 5, none, .load 36 (.tmp 2)⟩,
    ⟨some 6, none, .load 36 (.tmp 3)⟩,
    ⟨some 7, none, .call ⟨.value (.func 127), #[.tmp 5, .tmp 6], #[36, 36]⟩⟩,
    ⟨some 8, none, .move (.tmp 7)⟩,
    ⟨some 9, some (8, true), .fieldAddr 36 (.tmp 2) 1⟩,
    ⟨some 10, some (8, true), .load 4 (.tmp 9)⟩,
    ⟨some 11, some (8, true), .unOp .not 4 (.tmp 10)⟩,
    ⟨some 12, none, .pick (.tmp 8) (.tmp 11) (.const (.bool false))⟩,
    ⟨some 13, none, .move (.tmp 12)⟩,
    ⟨some 14, some (13, true), .fieldAddr 36 (.tmp 3) 1⟩,
    ⟨some 15, some (13, true), .load 4 (.tmp 14)⟩,
    ⟨some 16, some (13, true), .unOp .not 4 (.tmp 15)⟩,
    ⟨some 17, none, .pick (.tmp 13) (.tmp 16) (.const (.bool false))⟩,
    ⟨some 4, none, .assign (.tmp 17)⟩])
  .ret))
theorem ok81 : FnOk Tryz.prog 81 18 [.tmp 4] c81 := ⟨hmix, Tryz.f81, Tryz.func81, by kernel_rfl, rfl, rfl, by kernel_rfl, by kernel_rfl⟩

/-- mandoline/meta.Follows -/
def c82 : SC := (.seq (.reg [⟨some 2, none, .box 39 (.tmp 0)⟩,
    ⟨some 3, none, .box 39 (.tmp 1)⟩,
    ⟨some 4, none, .assign (.const (.bool false))⟩])
  (.seq (.seq (.reg [⟨some 5, none, .load 39 (.tmp 2)⟩,
    ⟨some 6, none, .call ⟨.value (.func 75), #[.tmp 5], #[39]⟩⟩,
    ⟨some 7, none, .unOp .not 4 (.tmp 6)⟩,
    ⟨some 8, none, .move (.tmp 7)⟩,
    ⟨some 9, some (8, false), .load 39 (.tmp 3)⟩,
    ⟨some 10, some (8, false), .call ⟨.value (.func 75), #[.tmp 9], #[39]⟩⟩,
    ⟨some 11, some (8, false), .unOp .not 4 (.tmp 10)⟩,
    ⟨some 12, none, .pick (.tmp 8) (.const (.bool true)) (.tmp 11)⟩,
    ⟨some 13, none, .move (.tmp 12)⟩,
    ⟨some 14, some (13, false), .load 39 (.tmp 2)⟩,
    ⟨some 15, some (13, false), .call ⟨.value (.func 80), #[.tmp 14], #[39]⟩⟩,
    ⟨some 16, some (13, false), .unOp .not 4 (.tmp 15)⟩,
    ⟨some 17, none, .pick (.tmp 13) (.const (.bool true)) (.tmp 16)⟩,
    ⟨some 18, none, .move (.tmp 17)⟩,
    ⟨some 19, some (18, false), .fieldAddr 39 (.tmp 2) 0⟩,
    ⟨some 20, some (18, false), .load 36 (.tmp 19)⟩,
    ⟨some 21, some (18, false), .fieldAddr 39 (.tmp 3) 0⟩,
    ⟨some 22, some (18, false), .load 36 (.tmp 21)⟩,
    ⟨some 23, some (18, false), .call ⟨.value (.func 81), #[.tmp 20, .tmp 22], #[36, 36]⟩⟩,
    ⟨some 24, some (18, false), .unOp .not 4 (.tmp 23)⟩,
    ⟨some 25, none, .pick (.tmp 18) (.const (.bool true)) (.tmp 24)⟩,
    ⟨some 26, none, .move (.tmp 25)⟩,
    ⟨some 27, some (26, false), .fieldAddr 39 (.tmp 2) 1⟩,
    ⟨some 28, some (26, false), .load 2 (.tmp 27)⟩,
    ⟨some 29, some (26, false), .fieldAddr 39 (.tmp 3) 1⟩,
    ⟨some 30, some (26, false), .load 2 (.tmp 29)⟩,
    ⟨some 31, some (26, false), .binOp .neq 2 (.tmp 28) (.tmp 30) 2⟩,
    ⟨some 32, none, .pick (.tmp 26) (.const (.bool true)) (.tmp 31)⟩])
  (.cond (.tmp 32)
  (.seq (.reg [⟨some 4, none, .assign (.const (.bool false))⟩])
  .ret)
  .skip))
  (.seq (.seq (.reg [⟨some 33, none, .fieldAddr 39 (.tmp 2) 2⟩,
    ⟨some 34, none, .load 2 (.tmp 33)⟩,
    ⟨some 35, none, .binOp .geq 2 (.tmp 34) (.const (.int .i64 0)) 2⟩])
  (.cond (.tmp 35)
  (.seq (.reg [⟨some 36, none, .fieldAddr 39 (.tmp 2) 2⟩,
    ⟨some 37, none, .load 2 (.tmp 36)⟩,
    ⟨some 38, none, .fieldAddr 39 (.tmp 3) 2⟩,
    ⟨some 39, none, .load 2 (.tmp 38)⟩,
    ⟨some 40, none, .binOp .eql 2 (.tmp 37) (.tmp 39) 2⟩,
    ⟨some 4, none, .assign (.tmp 40)⟩])
  .ret)
  .skip))
  (.seq (.reg [⟨some 41, none, .fieldAddr 39 (.tmp 3) 3⟩,
    ⟨some 42, none, .load 2 (.tmp 41)⟩,
    ⟨some 43, none, .fieldAddr 39 (.tmp 2) 3⟩,
    ⟨some 44, none, .load 2 (.tmp 43)⟩,
    ⟨some 45, none, .binOp .geq 2 (.tmp 42) (.tmp 44) 2⟩,
    ⟨some 4, none, .assign (.tmp 45)⟩])
  .ret))))
theorem ok82 : FnOk Tryz.prog 82 46 [.tmp 4] c82 := ⟨hmix, Tryz.f82, Tryz.func82, by kernel_rfl, rfl, rfl, by kernel_rfl, by kernel_rfl⟩

/-- (*mandoline/entry.Table).ids -/
def c79 : SC := (.seq (.reg [⟨some 4, none, .assign (.const (.slice .none 0 0))⟩])
  (.seq (.reg [⟨some 5, none, .assign (.const (.slice .none 0 0))⟩])
  (.seq (.seq (.reg [⟨some 8, none, .move (.tmp 0)⟩,
    ⟨some 9, none, .nilCheck (.tmp 8)⟩,
    ⟨some 10, none, .fieldAddr 107 (.tmp 9) 0⟩,
    ⟨some 11, none, .load 104 (.tmp 10)⟩,
    ⟨some 12, none, .call ⟨.value (.func 70), #[.tmp 11], #[104]⟩⟩,
    ⟨some 13, none, .call ⟨.value (.func 69), #[.tmp 12], #[152]⟩⟩,
    ⟨some 14, none, .call ⟨.builtin .len, #[.tmp 13], #[89]⟩⟩,
    ⟨some 15, none, .move (.const (.int .i64 0))⟩])
  (.block 0 (.loop (.seq (.reg [⟨some 16, none, .binOp .lss 3 (.tmp 15) (.tmp 14) 3⟩])
  (.seq (.cond (.tmp 16)
  .skip
  (.exit 0))
  (.seq (.block 1 (.seq (.reg [⟨some 17, none, .indexAddr 89 (.tmp 13) (.tmp 15)⟩,
    ⟨some 18, none, .load 2 (.tmp 17)⟩,
    ⟨some 7, none, .assign (.tmp 18)⟩])
  (.seq (.reg [⟨some 19, none, .move (.tmp 0)⟩,
    ⟨some 20, none, .nilCheck (.tmp 19)⟩,
    ⟨some 21, none, .fieldAddr 107 (.tmp 20) 0⟩,
    ⟨some 22, none, .load 104 (.tmp 21)⟩,
    ⟨some 23, none, .move (.tmp 7)⟩,
    ⟨some 24, none, .lookup 104 (.tmp 22) (.tmp 23) false⟩,
    ⟨some 25, none, .nilCheck (.tmp 24)⟩,
    ⟨some 26, none, .fieldAddr 110 (.tmp 25) 0⟩,
    ⟨some 27, none, .fieldAddr 57 (.tmp 26) 1⟩,
    ⟨some 28, none, .load 9 (.tmp 27)⟩,
    ⟨some 29, none, .move (.tmp 1)⟩,
    ⟨some 30, none, .binOp .eql 9 (.tmp 28) (.tmp 29) 9⟩])
  (.cond (.tmp 30)
  (.reg [⟨some 31, none, .move (.tmp 5)⟩,
    ⟨some 32, none, .move (.tmp 7)⟩,
    ⟨some 33, none, .buildSlice 89 1 #[(0, .tmp 32)]⟩,
    ⟨some 34, none, .call ⟨.builtin .append, #[.tmp 31, .tmp 33], #[89, 89]⟩⟩,
    ⟨some 5, none, .assign (.tmp 34)⟩])
  .skip))))
  (.reg [⟨some 35, none, .binOp .add 3 (.tmp 15) (.const (.int .i64 1)) 3⟩,
    ⟨some 15, none, .move (.tmp 35)⟩])))))))
  (.seq (.reg [⟨some 36, none, .move (.tmp 5)⟩,
    ⟨some 4, none, .assign (.tmp 36)⟩])
  .ret))))
theorem ok79 : FnOk Tryz.prog 79 37 [.tmp 4] c79 := ⟨hmix, Tryz.f79, Tryz.func79, by kernel_rfl, rfl, rfl, by kernel_rfl, by kernel_rfl⟩

/-- slices.Sorted[int64] -/
def c69 : SC := (.seq (.reg [⟨some 2, none, .assign (.const (.slice .none 0 0))⟩])
  (.seq (.reg [⟨some 4, none, .move (.tmp 0)⟩,
    ⟨some 5, none, .call ⟨.value (.func 118), #[.tmp 4], #[152]⟩⟩,
    ⟨some 3, none, .assign (.tmp 5)⟩])
  (.seq (.reg [⟨some 6, none, .move (.tmp 3)⟩,
    ⟨some 7, none, .call ⟨.value (.func 119), #[.tmp 6], #[89]⟩⟩])
  (.seq (.reg [⟨some 8, none, .move (.tmp 3)⟩,
    ⟨some 2, none, .assign (.tmp 8)⟩])
  .ret))))
theorem ok69 : FnOk Tryz.prog 69 9 [.tmp 2] c69 := ⟨hmix, Tryz.f69, Tryz.func69, by kernel_rfl, rfl, rfl, by kernel_rfl, by kernel_rfl⟩

/-- maps.Keys[map[int64]*mandoline/entry.known,int64,*mandoline/entry.known] -/
def c70 : SC := (.seq (.reg [⟨some 1, none, .box 104 (.tmp 0)⟩,
    ⟨some 2, none, .assign (.const .nilFunc)⟩])
  (.seq (.reg [⟨some 3, none, .makeFunc (.func 120) #[] #[.tmp 1]⟩,
    ⟨some 2, none, .assign (.tmp 3)⟩])
  .ret))
theorem ok70 : FnOk Tryz.prog 70 4 [.tmp 2] c70 := ⟨hmix, Tryz.f70, Tryz.func70, by kernel_rfl, rfl, rfl, by kernel_rfl, by kernel_rfl⟩

/-- mandoline/mandolinelaw38.Small -/
def c37 : SC := (.seq (.reg [⟨some 1, none, .box 43 (.tmp 0)⟩,
    ⟨some 2, none, .assign (.const (.bool false))⟩])
  (.seq (.seq (.reg [⟨some 5, none, .fieldAddr 43 (.tmp 1) 1⟩,
    ⟨some 6, none, .fieldAddr 39 (.tmp 5) 0⟩,
    ⟨some 7, none, .fieldAddr 36 (.tmp 6) 0⟩,
    ⟨some 8, none, .load 9 (.tmp 7)⟩,
    ⟨some 9, none, .call ⟨.builtin .len, #[.tmp 8], #[9]⟩⟩,
    ⟨some 10, none, .binOp .gtr 3 (.tmp 9) (.const (.int .i64 200)) 3⟩,
    ⟨some 11, none, .move (.tmp 10)⟩,
    ⟨some 12, some (11, false), .fieldAddr 43 (.tmp 1) 1⟩,
    ⟨some 13, some (11, false), .fieldAddr 39 (.tmp 12) 7⟩,
    ⟨some 14, some (11, false), .load 37 (.tmp 13)⟩,
    ⟨some 15, some (11, false), .call ⟨.builtin .len, #[.tmp 14], #[37]⟩⟩,
    ⟨some 16, some (11, false), .binOp .gtr 3 (.tmp 15) (.const (.int .i64 40)) 3⟩,
    ⟨some 17, none, .pick (.tmp 11) (.const (.bool true)) (.tmp 16)⟩,
    ⟨some 18, none, .move (.tmp 17)⟩,
    ⟨some 19, some (18, false), .fieldAddr 43 (.tmp 1) 1⟩,
    ⟨some 20, some (18, false), .fieldAddr 39 (.tmp 19) 8⟩,
    ⟨some 21, some (18, false), .load 9 (.tmp 20)⟩,
    ⟨some 22, some (18, false), .call ⟨.builtin .len, #[.tmp 21], #[9]⟩⟩,
    ⟨some 23, some (18, false), .binOp .gtr 3 (.tmp 22) (.const (.int .i64 100)) 3⟩,
    ⟨some 24, none, .pick (.tmp 18) (.const (.bool true)) (.tmp 23)⟩])
  (.cond (.tmp 24)
  (.seq (.reg [⟨some 2, none, .assign (.const (.bool false))⟩])
  .ret)
  .skip))
  (.seq (.seq (.reg [⟨some 25, none, .fieldAddr 43 (.tmp 1) 1⟩,
    ⟨some 26, none, .fieldAddr 39 (.tmp 25) 7⟩,
    ⟨some 27, none, .load 37 (.tmp 26)⟩,
    ⟨some 28, none, .call ⟨.builtin .len, #[.tmp 27], #[37]⟩⟩,
    ⟨some 29, none, .move (.const (.int .i64 0))⟩])
  (.block 0 (.loop (.seq (.reg [⟨some 30, none, .binOp .lss 3 (.tmp 29) (.tmp 28) 3⟩])
  (.seq (.cond (.tmp 30)
  .skip
  (.exit 0))
  (.seq (.block 1 (.seq (.reg [⟨some 31, none, .indexAddr 37 (.tmp 27) (.tmp 29)⟩,
    ⟨some 32, none, .load 9 (.tmp 31)⟩,
    ⟨some 4, none, .assign (.tmp 32)⟩])
  (.seq (.reg [⟨some 33, none, .move (.tmp 4)⟩,
    ⟨some 34, none, .call ⟨.builtin .len, #[.tmp 33], #[9]⟩⟩,
    ⟨some 35, none, .binOp .gtr 3 (.tmp 34) (.const (.int .i64 300)) 3⟩])
  (.cond (.tmp 35)
  (.seq (.reg [⟨some 2, none, .assign (.const (.bool false))⟩])
  .ret)
  .skip))))
  (.reg [⟨some 36, none, .binOp .add 3 (.tmp 29) (.const (.int .i64 1)) 3⟩,
    ⟨some 29, none, .move (.tmp 36)⟩])))))))
  (.seq (.reg [⟨some 2, none, .assign (.const (.bool true))⟩])
  .ret))))
theorem ok37 : FnOk Tryz.prog 37 37 [.tmp 2] c37 := ⟨hmix, Tryz.f37, Tryz.func37, by kernel_rfl, rfl, rfl, by kernel_rfl, by kernel_rfl⟩

/-- mandoline/mandolinelaw42.small -/
def c10 : SC := (.seq (.reg [⟨some 2, none, .assign (.const (.bool false))⟩])
  (.seq (.seq (.reg [⟨some 5, none, .move (.tmp 0)⟩,
    ⟨some 6, none, .call ⟨.builtin .len, #[.tmp 5], #[22]⟩⟩,
    ⟨some 7, none, .move (.const (.int .i64 0))⟩])
  (.block 0 (.loop (.seq (.reg [⟨some 8, none, .binOp .lss 3 (.tmp 7) (.tmp 6) 3⟩])
  (.seq (.cond (.tmp 8)
  .skip
  (.exit 0))
  (.seq (.block 1 (.seq (.reg [⟨some 9, none, .indexAddr 22 (.tmp 5) (.tmp 7)⟩,
    ⟨some 10, none, .load 47 (.tmp 9)⟩,
    ⟨some 4, none, .alloc 47⟩,
    ⟨none, none, .store 47 (.tmp 4) (.tmp 10)⟩])
  (.seq (.reg [⟨some 11, none, .fieldAddr 47 (.tmp 4) 1⟩,
    ⟨some 12, none, .load 9 (.tmp 11)⟩,
    ⟨some 13, none, .call ⟨.builtin .len, #[.tmp 12], #[9]⟩⟩,
    ⟨some 14, none, .binOp .gtr 3 (.tmp 13) (.const (.int .i64 300)) 3⟩,
    ⟨some 15, none, .move (.tmp 14)⟩,
    ⟨some 16, some (15, false), .fieldAddr 47 (.tmp 4) 2⟩,
    ⟨some 17, some (15, false), .load 43 (.tmp 16)⟩,
    ⟨some 18, some (15, false), .call ⟨.value (.func 37), #[.tmp 17], #[43]⟩⟩,
    ⟨some 19, some (15, false), .unOp .not 4 (.tmp 18)⟩,
    ⟨some 20, none, .pick (.tmp 15) (.const (.bool true)) (.tmp 19)⟩])
  (.cond (.tmp 20)
  (.seq (.reg [⟨some 2, none, .assign (.const (.bool false))⟩])
  .ret)
  .skip))))
  (.reg [⟨some 21, none, .binOp .add 3 (.tmp 7) (.const (.int .i64 1)) 3⟩,
    ⟨some 7, none, .move (.tmp 21)⟩])))))))
  (.seq (.reg [⟨some 22, none, .move (.tmp 0)⟩,
    ⟨some 23, none, .call ⟨.builtin .len, #[.tmp 22], #[22]⟩⟩,
    ⟨some 24, none, .binOp .leq 3 (.tmp 23) (.const (.int .i64 30)) 3⟩,
    ⟨some 2, none, .assign (.tmp 24)⟩])
  .ret)))
theorem ok10 : FnOk Tryz.prog 10 25 [.tmp 2] c10 := ⟨hmix, Tryz.f10, Tryz.func10, by kernel_rfl, rfl, rfl, by kernel_rfl, by kernel_rfl⟩

/-- mandoline/mandolinelaw42.log -/
def c16 : SC := (.seq (.reg [⟨some 1, none, .box 61 (.tmp 0)⟩,
    ⟨some 2, none, .assign (.const (.pointer .none))⟩,
    ⟨some 3, none, .alloc 67⟩,
    ⟨some 4, none, .assign (.const (.bool false))⟩])
  (.seq (.reg [⟨some 14, none, .fieldAddr 61 (.tmp 1) 0⟩,
    ⟨some 15, none, .load 2 (.tmp 14)⟩,
    ⟨some 16, none, .build 67 #[(1, .tmp 15)]⟩,
    ⟨some 5, none, .alloc 67⟩,
    ⟨none, none, .store 67 (.tmp 5) (.tmp 16)⟩])
  (.seq (.reg [⟨some 6, none, .assign (.const (.slice .none 0 0))⟩])
  (.seq (.seq (.reg [⟨some 17, none, .fieldAddr 61 (.tmp 1) 0⟩,
    ⟨some 18, none, .load 2 (.tmp 17)⟩,
    ⟨some 19, none, .binOp .lss 2 (.tmp 18) (.const (.int .i64 0)) 2⟩,
    ⟨some 20, none, .move (.tmp 19)⟩,
    ⟨some 21, some (20, false), .fieldAddr 61 (.tmp 1) 0⟩,
    ⟨some 22, some (20, false), .load 2 (.tmp 21)⟩,
    ⟨some 23, some (20, false), .binOp .gtr 2 (.tmp 22) (.const (.int .i64 1000)) 2⟩,
    ⟨some 24, none, .pick (.tmp 20) (.const (.bool true)) (.tmp 23)⟩,
    ⟨some 25, none, .move (.tmp 24)⟩,
    ⟨some 26, some (25, false), .fieldAddr 61 (.tmp 1) 1⟩,
    ⟨some 27, some (25, false), .load 59 (.tmp 26)⟩,
    ⟨some 28, some (25, false), .call ⟨.builtin .len, #[.tmp 27], #[59]⟩⟩,
    ⟨some 29, some (25, false), .binOp .gtr 3 (.tmp 28) (.const (.int .i64 20)) 3⟩,
    ⟨some 30, none, .pick (.tmp 25) (.const (.bool true)) (.tmp 29)⟩])
  (.cond (.tmp 30)
  (.seq (.draw #[⟨some 31, .load 67 (.tmp 5), 67, "law.go:175", #[⟨1, .gcOnly .lateStores⟩], none⟩,
    ⟨some 2, .assign (.const (.pointer .none)), 64, "law.go:175", #[⟨0, .textOnly .lateStores⟩], none⟩,
    ⟨none, .store 67 (.tmp 3) (.tmp 31), 0, "law.go:175", #[⟨0, .data⟩, ⟨1, .chain⟩, ⟨0, .phase⟩, ⟨1, .phase⟩], none⟩,
    ⟨some 4, .assign (.const (.bool false)), 4, "law.go:175", #[⟨2, .chain⟩, ⟨0, .phase⟩, ⟨1, .phase⟩, ⟨2, .phase⟩], none⟩]
    [⟨some 31, none, .load 67 (.tmp 5)⟩,
    ⟨some 2, none, .assign (.const (.pointer .none))⟩,
    ⟨none, none, .store 67 (.tmp 3) (.tmp 31)⟩,
    ⟨some 4, none, .assign (.const (.bool false))⟩])
  .ret)
  .skip))
  (.seq (.seq (.reg [⟨some 32, none, .fieldAddr 61 (.tmp 1) 1⟩,
    ⟨some 33, none, .load 59 (.tmp 32)⟩,
    ⟨some 34, none, .call ⟨.builtin .len, #[.tmp 33], #[59]⟩⟩,
    ⟨some 35, none, .move (.const (.int .i64 0))⟩])
  (.block 0 (.loop (.seq (.reg [⟨some 36, none, .binOp .lss 3 (.tmp 35) (.tmp 34) 3⟩])
  (.seq (.cond (.tmp 36)
  .skip
  (.exit 0))
  (.seq (.block 1 (.seq (.reg [⟨some 37, none, .move (.tmp 35)⟩,
    ⟨some 38, none, .indexAddr 59 (.tmp 33) (.tmp 35)⟩,
    ⟨some 39, none, .load 133 (.tmp 38)⟩,
    ⟨some 8, none, .alloc 133⟩,
    ⟨some 7, none, .assign (.tmp 37)⟩,
    ⟨none, none, .store 133 (.tmp 8) (.tmp 39)⟩])
  (.seq (.seq (.reg [⟨some 40, none, .fieldAddr 133 (.tmp 8) 0⟩,
    ⟨some 41, none, .load 37 (.tmp 40)⟩,
    ⟨some 42, none, .call ⟨.builtin .len, #[.tmp 41], #[37]⟩⟩,
    ⟨some 43, none, .binOp .gtr 3 (.tmp 42) (.const (.int .i64 40)) 3⟩])
  (.cond (.tmp 43)
  (.seq (.draw #[⟨some 44, .load 67 (.tmp 5), 67, "law.go:179", #[⟨1, .gcOnly .lateStores⟩], none⟩,
    ⟨some 2, .assign (.const (.pointer .none)), 64, "law.go:179", #[⟨0, .textOnly .lateStores⟩], none⟩,
    ⟨none, .store 67 (.tmp 3) (.tmp 44), 0, "law.go:179", #[⟨0, .data⟩, ⟨1, .chain⟩, ⟨0, .phase⟩, ⟨1, .phase⟩], none⟩,
    ⟨some 4, .assign (.const (.bool false)), 4, "law.go:179", #[⟨2, .chain⟩, ⟨0, .phase⟩, ⟨1, .phase⟩, ⟨2, .phase⟩], none⟩]
    [⟨some 44, none, .load 67 (.tmp 5)⟩,
    ⟨some 2, none, .assign (.const (.pointer .none))⟩,
    ⟨none, none, .store 67 (.tmp 3) (.tmp 44)⟩,
    ⟨some 4, none, .assign (.const (.bool false))⟩])
  .ret)
  .skip))
  (.seq (.seq (.reg [⟨some 45, none, .fieldAddr 133 (.tmp 8) 0⟩,
    ⟨some 46, none, .load 37 (.tmp 45)⟩,
    ⟨some 47, none, .call ⟨.builtin .len, #[.tmp 46], #[37]⟩⟩,
    ⟨some 48, none, .move (.const (.int .i64 0))⟩])
  (.block 2 (.loop (.seq (.reg [⟨some 49, none, .binOp .lss 3 (.tmp 48) (.tmp 47) 3⟩])
  (.seq (.cond (.tmp 49)
  .skip
  (.exit 2))
  (.seq (.block 3 (.seq (.reg [⟨some 50, none, .indexAddr 37 (.tmp 46) (.tmp 48)⟩,
    ⟨some 51, none, .load 9 (.tmp 50)⟩,
    ⟨some 10, none, .assign (.tmp 51)⟩])
  (.seq (.reg [⟨some 52, none, .move (.tmp 10)⟩,
    ⟨some 53, none, .call ⟨.builtin .len, #[.tmp 52], #[9]⟩⟩,
    ⟨some 54, none, .binOp .gtr 3 (.tmp 53) (.const (.int .i64 300)) 3⟩])
  (.cond (.tmp 54)
  (.seq (.draw #[⟨some 55, .load 67 (.tmp 5), 67, "law.go:183", #[⟨1, .gcOnly .lateStores⟩], none⟩,
    ⟨some 2, .assign (.const (.pointer .none)), 64, "law.go:183", #[⟨0, .textOnly .lateStores⟩], none⟩,
    ⟨none, .store 67 (.tmp 3) (.tmp 55), 0, "law.go:183", #[⟨0, .data⟩, ⟨1, .chain⟩, ⟨0, .phase⟩, ⟨1, .phase⟩], none⟩,
    ⟨some 4, .assign (.const (.bool false)), 4, "law.go:183", #[⟨2, .chain⟩, ⟨0, .phase⟩, ⟨1, .phase⟩, ⟨2, .phase⟩], none⟩]
    [⟨some 55, none, .load 67 (.tmp 5)⟩,
    ⟨some 2, none, .assign (.const (.pointer .none))⟩,
    ⟨none, none, .store 67 (.tmp 3) (.tmp 55)⟩,
    ⟨some 4, none, .assign (.const (.bool false))⟩])
  .ret)
  .skip))))
  (.reg [⟨some 56, none, .binOp .add 3 (.tmp 48) (.const (.int .i64 1)) 3⟩,
    ⟨some 48, none, .move (.tmp 56)⟩])))))))
  (.seq (.reg [⟨some 57, none, .fieldAddr 61 (.tmp 1) 0⟩,
    ⟨some 58, none, .load 2 (.tmp 57)⟩,
    ⟨some 59, none, .move (.tmp 7)⟩,
    ⟨some 60, none, .binOp .add 2 (.tmp 58) (.tmp 59) 2⟩,
    ⟨some 61, none, .binOp .add 2 (.tmp 60) (.const (.int .i64 1)) 2⟩,
    ⟨some 11, none, .assign (.tmp 61)⟩])
  (.seq (.reg [⟨some 62, none, .move (.tmp 6)⟩,
    ⟨some 63, none, .move (.tmp 11)⟩,
    ⟨some 64, none, .fieldAddr 133 (.tmp 8) 0⟩,
    ⟨some 65, none, .load 37 (.tmp 64)⟩,
    ⟨some 66, none, .fieldAddr 133 (.tmp 8) 1⟩,
    ⟨some 67, none, .load 4 (.tmp 66)⟩,
    ⟨some 68, none, .build 135 #[(0, .tmp 63), (1, .tmp 65), (2, .tmp 67)]⟩,
    ⟨some 69, none, .buildSlice 131 1 #[(0, .tmp 68)]⟩,
    ⟨some 70, none, .call ⟨.builtin .append, #[.tmp 62, .tmp 69], #[131, 131]⟩⟩,
    ⟨some 6, none, .assign (.tmp 70)⟩])
  (.reg [⟨some 71, none, .fieldAddr 67 (.tmp 5) 0⟩,
    ⟨some 72, none, .load 65 (.tmp 71)⟩,
    ⟨some 73, none, .move (.tmp 11)⟩,
    ⟨some 74, none, .fieldAddr 133 (.tmp 8) 0⟩,
    ⟨some 75, none, .load 37 (.tmp 74)⟩,
    ⟨some 76, none, .fieldAddr 133 (.tmp 8) 1⟩,
    ⟨some 77, none, .load 4 (.tmp 76)⟩,
    ⟨some 78, none, .build 136 #[(0, .tmp 73), (1, .tmp 75), (2, .tmp 77)]⟩,
    ⟨some 79, none, .buildSlice 65 1 #[(0, .tmp 78)]⟩,
    ⟨some 80, none, .call ⟨.builtin .append, #[.tmp 72, .tmp 79], #[65, 65]⟩⟩,
    ⟨some 81, none, .fieldAddr 67 (.tmp 5) 0⟩,
    ⟨none, none, .store 65 (.tmp 81) (.tmp 80)⟩])))))))
  (.reg [⟨some 82, none, .binOp .add 3 (.tmp 35) (.const (.int .i64 1)) 3⟩,
    ⟨some 35, none, .move (.tmp 82)⟩])))))))
  (.seq (.reg [⟨some 84, none, .move (.tmp 6)⟩,
    ⟨some 85, none, .fieldAddr 61 (.tmp 1) 0⟩,
    ⟨some 86, none, .load 2 (.tmp 85)⟩,
    ⟨some 87, none, .call ⟨.value (.func 57), #[.tmp 84, .tmp 86], #[131, 2]⟩⟩,
    ⟨some 83, none, .move (.tmp 87)⟩,
    ⟨some 88, none, .extract (.tmp 83) 0⟩,
    ⟨some 89, none, .extract (.tmp 83) 1⟩,
    ⟨some 12, none, .assign (.tmp 88)⟩,
    ⟨some 13, none, .assign (.tmp 89)⟩])
  (.seq (.draw #[⟨some 90, .move (.tmp 12), 64, "law.go:191", #[], none⟩,
    ⟨some 91, .load 67 (.tmp 5), 67, "law.go:191", #[⟨8, .gcOnly .lateStores⟩], none⟩,
    ⟨some 92, .move (.tmp 13), 26, "law.go:191", #[], none⟩,
    ⟨some 93, .binOp .eql 26 (.tmp 92) (.const (.int .i64 0)) 26, 4, "law.go:191", #[⟨2, .data⟩], none⟩,
    ⟨some 94, .move (.tmp 93), 4, "law.go:191", #[⟨3, .data⟩], none⟩,
    ⟨some 95, .move (.tmp 12), 64, "law.go:191", #[⟨4, .guard⟩, ⟨9, .gcOnly .lateStores⟩], some (4, true)⟩,
    ⟨some 96, .binOp .neq 64 (.tmp 95) (.const (.pointer .none)) 64, 4, "law.go:191", #[⟨5, .data⟩, ⟨4, .guard⟩, ⟨9, .gcOnly .lateStores⟩], some (4, true)⟩,
    ⟨some 97, .pick (.tmp 94) (.tmp 96) (.const (.bool false)), 4, "law.go:191", #[⟨4, .data⟩, ⟨6, .data⟩, ⟨9, .gcOnly .lateStores⟩], none⟩,
    ⟨some 2, .assign (.tmp 90), 64, "law.go:191", #[⟨0, .data⟩, ⟨4, .chain⟩, ⟨0, .phase⟩, ⟨1, .textOnly .lateStores⟩, ⟨2, .textOnly .lateStores⟩, ⟨3, .textOnly .lateStores⟩, ⟨4, .textOnly .lateStores⟩, ⟨5, .textOnly .lateStores⟩, ⟨6, .textOnly .lateStores⟩, ⟨7, .textOnly .lateStores⟩], none⟩,
    ⟨none, .store 67 (.tmp 3) (.tmp 91), 0, "law.go:191", #[⟨1, .data⟩, ⟨8, .chain⟩, ⟨0, .phase⟩, ⟨1, .phase⟩, ⟨2, .textOnly .lateStores⟩, ⟨3, .textOnly .lateStores⟩, ⟨4, .textOnly .lateStores⟩, ⟨5, .textOnly .lateStores⟩, ⟨6, .textOnly .lateStores⟩, ⟨7, .textOnly .lateStores⟩, ⟨8, .phase⟩], none⟩,
    ⟨some 4, .assign (.tmp 97), 4, "law.go:191", #[⟨7, .data⟩, ⟨9, .chain⟩, ⟨0, .phase⟩, ⟨1, .phase⟩, ⟨2, .phase⟩, ⟨3, .phase⟩, ⟨4, .phase⟩, ⟨5, .phase⟩, ⟨6, .phase⟩, ⟨7, .phase⟩, ⟨8, .phase⟩, ⟨9, .phase⟩], none⟩]
    [⟨some 90, none, .move (.tmp 12)⟩,
    ⟨some 91, none, .load 67 (.tmp 5)⟩,
    ⟨some 92, none, .move (.tmp 13)⟩,
    ⟨some 93, none, .binOp .eql 26 (.tmp 92) (.const (.int .i64 0)) 26⟩,
    ⟨some 94, none, .move (.tmp 93)⟩,
    ⟨some 95, some (94, true), .move (.tmp 12)⟩,
    ⟨some 96, some (94, true), .binOp .neq 64 (.tmp 95) (.const (.pointer .none)) 64⟩,
    ⟨some 97, none, .pick (.tmp 94) (.tmp 96) (.const (.bool false))⟩,
    ⟨some 2, none, .assign (.tmp 90)⟩,
    ⟨none, none, .store 67 (.tmp 3) (.tmp 91)⟩,
    ⟨some 4, none, .assign (.tmp 97)⟩])
  .ret)))))))
theorem ok16 : FnOk Tryz.prog 16 98 [.tmp 2, .cell 3 67, .tmp 4] c16 := ⟨hmix, Tryz.f16, Tryz.func16, by kernel_rfl, rfl, rfl, by kernel_rfl, by kernel_rfl⟩

/-- mandoline/purge.Load -/
def c57 : SC := (.seq (.reg [⟨some 4, none, .assign (.const (.pointer .none))⟩,
    ⟨some 5, none, .assign (.const (.int .i64 0))⟩])
  (.seq (.seq (.reg [⟨some 9, none, .move (.tmp 1)⟩,
    ⟨some 10, none, .binOp .lss 2 (.tmp 9) (.const (.int .i64 0)) 2⟩,
    ⟨some 11, none, .move (.tmp 10)⟩,
    ⟨some 12, some (11, false), .move (.tmp 1)⟩,
    ⟨some 13, some (11, false), .binOp .gtr 2 (.tmp 12) (.const (.int .i64 1099511627776)) 2⟩,
    ⟨some 14, none, .pick (.tmp 11) (.const (.bool true)) (.tmp 13)⟩])
  (.cond (.tmp 14)
  (.seq (.reg [⟨some 4, none, .assign (.const (.pointer .none))⟩,
    ⟨some 5, none, .assign (.const (.int .i64 1))⟩])
  .ret)
  .skip))
  (.seq (.reg [⟨some 15, none, .move (.tmp 1)⟩,
    ⟨some 16, none, .build 176 #[(0, .tmp 15)]⟩,
    ⟨some 17, none, .box 176 (.tmp 16)⟩,
    ⟨some 6, none, .assign (.tmp 17)⟩])
  (.seq (.seq (.reg [⟨some 18, none, .move (.tmp 0)⟩,
    ⟨some 19, none, .call ⟨.builtin .len, #[.tmp 18], #[131]⟩⟩,
    ⟨some 20, none, .move (.const (.int .i64 0))⟩])
  (.block 0 (.loop (.seq (.reg [⟨some 21, none, .binOp .lss 3 (.tmp 20) (.tmp 19) 3⟩])
  (.seq (.cond (.tmp 21)
  .skip
  (.exit 0))
  (.seq (.block 1 (.seq (.reg [⟨some 22, none, .indexAddr 131 (.tmp 18) (.tmp 20)⟩,
    ⟨some 23, none, .load 135 (.tmp 22)⟩,
    ⟨some 8, none, .alloc 135⟩,
    ⟨none, none, .store 135 (.tmp 8) (.tmp 23)⟩])
  (.seq (.seq (.draw #[⟨some 24, .load 135 (.tmp 8), 135, "purge.go:158", #[], none⟩,
    ⟨some 25, .call ⟨.value (.func 109), #[.tmp 24], #[135]⟩, 4, "purge.go:158", #[⟨0, .data⟩], none⟩,
    ⟨some 26, .unOp .not 4 (.tmp 25), 4, "purge.go:158", #[⟨1, .data⟩], none⟩,
    ⟨some 27, .move (.tmp 26), 4, "purge.go:158", #[⟨2, .data⟩, ⟨1, .chain⟩], none⟩,
    ⟨some 28, .fieldAddr 135 (.tmp 8) 0, 0, "purge.go:158", #[⟨3, .guard⟩], some (3, false)⟩,
    ⟨some 29, .load 2 (.tmp 28), 2, "purge.go:158", #[⟨4, .data⟩, ⟨3, .guard⟩], some (3, false)⟩,
    ⟨some 30, .move (.tmp 6), 64, "purge.go:158", #[⟨3, .guard⟩], some (3, false)⟩,
    ⟨some 31, .call ⟨.value (.func 110), #[.tmp 30], #[64]⟩, 2, "purge.go:158", #[⟨6, .data⟩, ⟨3, .chain⟩, ⟨3, .guard⟩], some (3, false)⟩,
    ⟨some 32, .binOp .add 2 (.tmp 31) (.const (.int .i64 1)) 2, 2, "purge.go:158", #[⟨7, .data⟩, ⟨3, .guard⟩], some (3, false)⟩,
    ⟨some 33, .binOp .neq 2 (.tmp 29) (.tmp 32) 2, 4, "purge.go:158", #[⟨5, .data⟩, ⟨8, .data⟩, ⟨3, .guard⟩], some (3, false)⟩,
    ⟨some 34, .pick (.tmp 27) (.const (.bool true)) (.tmp 33), 4, "purge.go:158", #[⟨3, .data⟩, ⟨9, .data⟩], none⟩]
    [⟨some 24, none, .load 135 (.tmp 8)⟩,
    ⟨some 25, none, .call ⟨.value (.func 109), #[.tmp 24], #[135]⟩⟩,
    ⟨some 26, none, .unOp .not 4 (.tmp 25)⟩,
    ⟨some 27, none, .move (.tmp 26)⟩,
    ⟨some 28, some (27, false), .fieldAddr 135 (.tmp 8) 0⟩,
    ⟨some 29, some (27, false), .load 2 (.tmp 28)⟩,
    ⟨some 30, some (27, false), .move (.tmp 6)⟩,
    ⟨some 31, some (27, false), .call ⟨.value (.func 110), #[.tmp 30], #[64]⟩⟩,
    ⟨some 32, some (27, false), .binOp .add 2 (.tmp 31) (.const (.int .i64 1)) 2⟩,
    ⟨some 33, some (27, false), .binOp .neq 2 (.tmp 29) (.tmp 32) 2⟩,
    ⟨some 34, none, .pick (.tmp 27) (.const (.bool true)) (.tmp 33)⟩])
  (.cond (.tmp 34)
  (.seq (.reg [⟨some 4, none, .assign (.const (.pointer .none))⟩,
    ⟨some 5, none, .assign (.const (.int .i64 2))⟩])
  .ret)
  .skip))
  (.draw #[⟨some 35, .move (.tmp 6), 64, "purge.go:161", #[], none⟩,
    ⟨some 36, .move (.tmp 6), 64, "purge.go:161", #[], none⟩,
    ⟨some 37, .nilCheck (.tmp 36), 0, "purge.go:161", #[⟨1, .data⟩], none⟩,
    ⟨some 38, .fieldAddr 176 (.tmp 37) 1, 0, "purge.go:161", #[⟨2, .data⟩], none⟩,
    ⟨some 39, .load 131 (.tmp 38), 131, "purge.go:161", #[⟨3, .data⟩], none⟩,
    ⟨some 40, .load 135 (.tmp 8), 135, "purge.go:161", #[], none⟩,
    ⟨some 41, .call ⟨.value (.func 111), #[.tmp 40], #[135]⟩, 135, "purge.go:161", #[⟨5, .data⟩], none⟩,
    ⟨some 42, .buildSlice 131 1 #[(0, .tmp 41)], 131, "purge.go:161", #[⟨6, .data⟩], none⟩,
    ⟨some 43, .call ⟨.builtin .append, #[.tmp 39, .tmp 42], #[131, 131]⟩, 131, "purge.go:161", #[⟨4, .data⟩, ⟨7, .data⟩, ⟨6, .chain⟩], none⟩,
    ⟨some 44, .nilCheck (.tmp 35), 0, "purge.go:161", #[⟨0, .data⟩, ⟨0, .phase⟩, ⟨1, .phase⟩, ⟨2, .phase⟩, ⟨3, .phase⟩, ⟨4, .phase⟩, ⟨5, .phase⟩, ⟨6, .phase⟩, ⟨7, .phase⟩, ⟨8, .phase⟩], none⟩,
    ⟨some 45, .fieldAddr 176 (.tmp 44) 1, 0, "purge.go:161", #[⟨9, .data⟩, ⟨0, .phase⟩, ⟨1, .phase⟩, ⟨2, .phase⟩, ⟨3, .phase⟩, ⟨4, .phase⟩, ⟨5, .phase⟩, ⟨6, .phase⟩, ⟨7, .phase⟩, ⟨8, .phase⟩], none⟩,
    ⟨none, .store 131 (.tmp 45) (.tmp 43), 0, "purge.go:161", #[⟨10, .data⟩, ⟨8, .data⟩, ⟨8, .chain⟩, ⟨0, .phase⟩, ⟨1, .phase⟩, ⟨2, .phase⟩, ⟨3, .phase⟩, ⟨4, .phase⟩, ⟨5, .phase⟩, ⟨6, .phase⟩, ⟨7, .phase⟩, ⟨8, .phase⟩], none⟩]
    [⟨some 35, none, .move (.tmp 6)⟩,
    ⟨some 36, none, .move (.tmp 6)⟩,
    ⟨some 37, none, .nilCheck (.tmp 36)⟩,
    ⟨some 38, none, .fieldAddr 176 (.tmp 37) 1⟩,
    ⟨some 39, none, .load 131 (.tmp 38)⟩,
    ⟨some 40, none, .load 135 (.tmp 8)⟩,
    ⟨some 41, none, .call ⟨.value (.func 111), #[.tmp 40], #[135]⟩⟩,
    ⟨some 42, none, .buildSlice 131 1 #[(0, .tmp 41)]⟩,
    ⟨some 43, none, .call ⟨.builtin .append, #[.tmp 39, .tmp 42], #[131, 131]⟩⟩,
    ⟨some 44, none, .nilCheck (.tmp 35)⟩,
    ⟨some 45, none, .fieldAddr 176 (.tmp 44) 1⟩,
    ⟨none, none, .store 131 (.tmp 45) (.tmp 43)⟩]))))
  (.reg [⟨some 46, none, .binOp .add 3 (.tmp 20) (.const (.int .i64 1)) 3⟩,
    ⟨some 20, none, .move (.tmp 46)⟩])))))))
  (.seq (.reg [⟨some 47, none, .move (.tmp 6)⟩,
    ⟨some 4, none, .assign (.tmp 47)⟩,
    ⟨some 5, none, .assign (.const (.int .i64 0))⟩])
  .ret)))))
theorem ok57 : FnOk Tryz.prog 57 48 [.tmp 4, .tmp 5] c57 := ⟨hmix, Tryz.f57, Tryz.func57, by kernel_rfl, rfl, rfl, by kernel_rfl, by kernel_rfl⟩

/-- (*mandoline/entry.Table).Land -/
def c27 : SC := (.seq (.reg [⟨some 6, none, .box 43 (.tmp 2)⟩,
    ⟨some 7, none, .box 74 (.tmp 3)⟩,
    ⟨some 8, none, .assign (.const (.int .i64 0))⟩,
    ⟨some 9, none, .assign (.const (.bool false))⟩])
  (.seq (.seq (.reg [⟨some 15, none, .move (.tmp 0)⟩,
    ⟨some 16, none, .binOp .eql 25 (.tmp 15) (.const (.pointer .none)) 25⟩,
    ⟨some 17, none, .move (.tmp 16)⟩,
    ⟨some 18, some (17, false), .move (.tmp 1)⟩,
    ⟨some 19, some (17, false), .call ⟨.value (.func 74), #[.tmp 18], #[9]⟩⟩,
    ⟨some 20, some (17, false), .unOp .not 4 (.tmp 19)⟩,
    ⟨some 21, none, .pick (.tmp 17) (.const (.bool true)) (.tmp 20)⟩,
    ⟨some 22, none, .move (.tmp 21)⟩,
    ⟨some 23, some (22, false), .fieldAddr 43 (.tmp 6) 1⟩,
    ⟨some 24, some (22, false), .load 39 (.tmp 23)⟩,
    ⟨some 25, some (22, false), .call ⟨.value (.func 75), #[.tmp 24], #[39]⟩⟩,
    ⟨some 26, some (22, false), .unOp .not 4 (.tmp 25)⟩,
    ⟨some 27, none, .pick (.tmp 22) (.const (.bool true)) (.tmp 26)⟩,
    ⟨some 28, none, .move (.tmp 27)⟩,
    ⟨some 29, some (28, false), .fieldAddr 43 (.tmp 6) 3⟩,
    ⟨some 30, some (28, false), .load 2 (.tmp 29)⟩,
    ⟨some 31, some (28, false), .call ⟨.value (.func 76), #[.tmp 30], #[2]⟩⟩,
    ⟨some 32, some (28, false), .unOp .not 4 (.tmp 31)⟩,
    ⟨some 33, none, .pick (.tmp 28) (.const (.bool true)) (.tmp 32)⟩,
    ⟨some 34, none, .move (.tmp 33)⟩,
    ⟨some 35, some (34, false), .load 74 (.tmp 7)⟩,
    ⟨some 36, some (34, false), .call ⟨.value (.func 77), #[.tmp 35], #[74]⟩⟩,
    ⟨some 37, some (34, false), .unOp .not 4 (.tmp 36)⟩,
    ⟨some 38, none, .pick (.tmp 34) (.const (.bool true)) (.tmp 37)⟩])
  (.cond (.tmp 38)
  (.seq (.reg [⟨some 8, none, .assign (.const (.int .i64 0))⟩,
    ⟨some 9, none, .assign (.const (.bool false))⟩])
  .ret)
  .skip))
  (.seq (.reg [⟨some 39, none, .fieldAddr 74 (.tmp 7) 0⟩,
    ⟨some 40, none, .load 2 (.tmp 39)⟩,
    ⟨some 41, none, .fieldAddr 43 (.tmp 6) 3⟩,
    ⟨some 42, none, .load 2 (.tmp 41)⟩,
    ⟨some 43, none, .call ⟨.value (.func 78), #[.tmp 40, .tmp 42], #[2, 2]⟩⟩,
    ⟨some 10, none, .assign (.tmp 43)⟩])
  (.seq (.seq (.reg [⟨some 44, none, .move (.tmp 0)⟩,
    ⟨some 45, none, .move (.tmp 1)⟩,
    ⟨some 46, none, .call ⟨.value (.func 79), #[.tmp 44, .tmp 45], #[25, 9]⟩⟩,
    ⟨some 47, none, .call ⟨.builtin .len, #[.tmp 46], #[89]⟩⟩,
    ⟨some 48, none, .move (.const (.int .i64 0))⟩])
  (.block 0 (.loop (.seq (.reg [⟨some 49, none, .binOp .lss 3 (.tmp 48) (.tmp 47) 3⟩])
  (.seq (.cond (.tmp 49)
  .skip
  (.exit 0))
  (.seq (.block 1 (.seq (.reg [⟨some 50, none, .indexAddr 89 (.tmp 46) (.tmp 48)⟩,
    ⟨some 51, none, .load 2 (.tmp 50)⟩,
    ⟨some 12, none, .assign (.tmp 51)⟩])
  (.seq (.reg [⟨some 52, none, .move (.tmp 0)⟩,
    ⟨some 53, none, .nilCheck (.tmp 52)⟩,
    ⟨some 54, none, .fieldAddr 107 (.tmp 53) 0⟩,
    ⟨some 55, none, .load 104 (.tmp 54)⟩,
    ⟨some 56, none, .move (.tmp 12)⟩,
    ⟨some 57, none, .lookup 104 (.tmp 55) (.tmp 56) false⟩,
    ⟨some 13, none, .assign (.tmp 57)⟩])
  (.seq (.seq (.draw #[⟨some 58, .move (.tmp 13), 103, "entry.go:108", #[], none⟩,
    ⟨some 59, .nilCheck (.tmp 58), 0, "entry.go:108", #[⟨0, .data⟩], none⟩,
    ⟨some 60, .fieldAddr 110 (.tmp 59) 0, 0, "entry.go:108", #[⟨1, .data⟩], none⟩,
    ⟨some 61, .fieldAddr 57 (.tmp 60) 2, 0, "entry.go:108", #[⟨2, .data⟩], none⟩,
    ⟨some 62, .load 39 (.tmp 61), 39, "entry.go:108", #[⟨3, .data⟩], none⟩,
    ⟨some 63, .call ⟨.value (.func 80), #[.tmp 62], #[39]⟩, 4, "entry.go:108", #[⟨4, .data⟩], none⟩,
    ⟨some 64, .unOp .not 4 (.tmp 63), 4, "entry.go:108", #[⟨5, .data⟩], none⟩,
    ⟨some 65, .move (.tmp 64), 4, "entry.go:108", #[⟨6, .data⟩, ⟨5, .chain⟩], none⟩,
    ⟨some 66, .move (.tmp 13), 103, "entry.go:108", #[⟨7, .guard⟩], some (7, false)⟩,
    ⟨some 67, .nilCheck (.tmp 66), 0, "entry.go:108", #[⟨8, .data⟩, ⟨7, .guard⟩], some (7, false)⟩,
    ⟨some 68, .fieldAddr 110 (.tmp 67) 0, 0, "entry.go:108", #[⟨9, .data⟩, ⟨7, .guard⟩], some (7, false)⟩,
    ⟨some 69, .fieldAddr 57 (.tmp 68) 2, 0, "entry.go:108", #[⟨10, .data⟩, ⟨7, .guard⟩], some (7, false)⟩,
    ⟨some 70, .fieldAddr 39 (.tmp 69) 0, 0, "entry.go:108", #[⟨11, .data⟩, ⟨7, .guard⟩], some (7, false)⟩,
    ⟨some 71, .load 36 (.tmp 70), 36, "entry.go:108", #[⟨12, .data⟩, ⟨7, .guard⟩], some (7, false)⟩,
    ⟨some 72, .fieldAddr 43 (.tmp 6) 1, 0, "entry.go:108", #[⟨7, .guard⟩], some (7, false)⟩,
    ⟨some 73, .fieldAddr 39 (.tmp 72) 0, 0, "entry.go:108", #[⟨14, .data⟩, ⟨7, .guard⟩], some (7, false)⟩,
    ⟨some 74, .load 36 (.tmp 73), 36, "entry.go:108", #[⟨15, .data⟩, ⟨7, .guard⟩], some (7, false)⟩,
    ⟨some 75, .call ⟨.value (.func 81), #[.tmp 71, .tmp 74], #[36, 36]⟩, 4, "entry.go:108", #[⟨13, .data⟩, ⟨16, .data⟩, ⟨7, .chain⟩, ⟨7, .guard⟩], some (7, false)⟩,
    ⟨some 76, .unOp .not 4 (.tmp 75), 4, "entry.go:108", #[⟨17, .data⟩, ⟨7, .guard⟩], some (7, false)⟩,
    ⟨some 77, .pick (.tmp 65) (.const (.bool true)) (.tmp 76), 4, "entry.go:108", #[⟨7, .data⟩, ⟨18, .data⟩], none⟩]
    [⟨some 58, none, .move (.tmp 13)⟩,
    ⟨some 59, none, .nilCheck (.tmp 58)⟩,
    ⟨some 60, none, .fieldAddr 110 (.tmp 59) 0⟩,
    ⟨some 61, none, .fieldAddr 57 (.tmp 60) 2⟩,
    ⟨some 62, none, .load 39 (.tmp 61)⟩,
    ⟨some 63, none, .call ⟨.value (.func 80), #[.tmp 62], #[39]⟩⟩,
    ⟨some 64, none, .unOp .not 4 (.tmp 63)⟩,
    ⟨some 65, none, .move (.tmp 64)⟩,
    ⟨some 66, some (65, false), .move (.tmp 13)⟩,
    ⟨some 67, some (65, false), .nilCheck (.tmp 66)⟩,
    ⟨some 68, some (65, false), .fieldAddr 110 (.tmp 67) 0⟩,
    ⟨some 69, some (65, false), .fieldAddr 57 (.tmp 68) 2⟩,
    ⟨some 70, some (65, false), .fieldAddr 39 (.tmp 69) 0⟩,
    ⟨some 71, some (65, false), .load 36 (.tmp 70)⟩,
    ⟨some 72, some (65, false), .fieldAddr 43 (.tmp 6) 1⟩,
    ⟨some 73, some (65, false), .fieldAddr 39 (.tmp 72) 0⟩,
    ⟨some 74, some (65, false), .load 36 (.tmp 73)⟩,
    ⟨some 75, some (65, false), .call ⟨.value (.func 81), #[.tmp 71, .tmp 74], #[36, 36]⟩⟩,
    ⟨some 76, some (65, false), .unOp .not 4 (.tmp 75)⟩,
    ⟨some 77, none, .pick (.tmp 65) (.const (.bool true)) (.tmp 76)⟩])
  (.cond (.tmp 77)
  (.exit 1)
  .skip))
  (.seq (.seq (.draw #[⟨some 78, .move (.tmp 13), 103, "entry.go:111", #[], none⟩,
    ⟨some 79, .nilCheck (.tmp 78), 0, "entry.go:111", #[⟨0, .data⟩], none⟩,
    ⟨some 80, .fieldAddr 110 (.tmp 79) 0, 0, "entry.go:111", #[⟨1, .data⟩], none⟩,
    ⟨some 81, .fieldAddr 57 (.tmp 80) 2, 0, "entry.go:111", #[⟨2, .data⟩], none⟩,
    ⟨some 82, .load 39 (.tmp 81), 39, "entry.go:111", #[⟨3, .data⟩], none⟩,
    ⟨some 83, .fieldAddr 43 (.tmp 6) 1, 0, "entry.go:111", #[], none⟩,
    ⟨some 84, .load 39 (.tmp 83), 39, "entry.go:111", #[⟨5, .data⟩], none⟩,
    ⟨some 85, .call ⟨.value (.func 82), #[.tmp 82, .tmp 84], #[39, 39]⟩, 4, "entry.go:111", #[⟨4, .data⟩, ⟨6, .data⟩], none⟩]
    [⟨some 78, none, .move (.tmp 13)⟩,
    ⟨some 79, none, .nilCheck (.tmp 78)⟩,
    ⟨some 80, none, .fieldAddr 110 (.tmp 79) 0⟩,
    ⟨some 81, none, .fieldAddr 57 (.tmp 80) 2⟩,
    ⟨some 82, none, .load 39 (.tmp 81)⟩,
    ⟨some 83, none, .fieldAddr 43 (.tmp 6) 1⟩,
    ⟨some 84, none, .load 39 (.tmp 83)⟩,
    ⟨some 85, none, .call ⟨.value (.func 82), #[.tmp 82, .tmp 84], #[39, 39]⟩⟩])
  (.cond (.tmp 85)
  (.reg [⟨some 86, none, .move (.tmp 13)⟩,
    ⟨some 87, none, .fieldAddr 43 (.tmp 6) 1⟩,
    ⟨some 88, none, .load 39 (.tmp 87)⟩,
    ⟨some 89, none, .call ⟨.value (.func 40), #[.tmp 88], #[39]⟩⟩,
    ⟨some 90, none, .nilCheck (.tmp 86)⟩,
    ⟨some 91, none, .fieldAddr 110 (.tmp 90) 0⟩,
    ⟨some 92, none, .fieldAddr 57 (.tmp 91) 2⟩,
    ⟨none, none, .store 39 (.tmp 92) (.tmp 89)⟩])
  .skip))
  (.seq (.reg [⟨some 93, none, .move (.tmp 13)⟩,
    ⟨some 94, none, .move (.tmp 10)⟩,
    ⟨some 95, none, .load 74 (.tmp 7)⟩,
    ⟨some 96, none, .call ⟨.value (.func 83), #[.tmp 93, .tmp 94, .tmp 95], #[103, 2, 74]⟩⟩])
  (.seq (.reg [⟨some 97, none, .move (.tmp 0)⟩,
    ⟨some 98, none, .move (.tmp 1)⟩,
    ⟨some 99, none, .move (.tmp 12)⟩,
    ⟨some 100, none, .load 74 (.tmp 7)⟩,
    ⟨some 101, none, .call ⟨.value (.func 84), #[.tmp 97, .tmp 98, .tmp 99, .tmp 100], #[25, 9, 2, 74]⟩⟩])
  (.seq (.reg [⟨some 102, none, .move (.tmp 12)⟩,
    ⟨some 8, none, .assign (.tmp 102)⟩,
    ⟨some 9, none, .assign (.const (.bool false))⟩])
  .ret))))))))
  (.reg [⟨some 103, none, .binOp .add 3 (.tmp 48) (.const (.int .i64 1)) 3⟩,
    ⟨some 48, none, .move (.tmp 103)⟩])))))))
  (.seq (.reg [⟨some 104, none, .move (.tmp 0)⟩,
    ⟨some 105, none, .nilCheck (.tmp 104)⟩,
    ⟨some 106, none, .fieldAddr 107 (.tmp 105) 2⟩,
    ⟨some 107, none, .load 2 (.tmp 106)⟩,
    ⟨some 14, none, .assign (.tmp 107)⟩])
  (.seq (.reg [⟨some 108, none, .move (.tmp 0)⟩,
    ⟨some 109, none, .nilCheck (.tmp 108)⟩,
    ⟨some 110, none, .fieldAddr 107 (.tmp 109) 2⟩,
    ⟨some 111, none, .load 2 (.tmp 110)⟩,
    ⟨some 112, none, .binOp .add 2 (.tmp 111) (.const (.int .i64 1)) 2⟩,
    ⟨some 113, none, .nilCheck (.tmp 108)⟩,
    ⟨some 114, none, .fieldAddr 107 (.tmp 113) 2⟩,
    ⟨none, none, .store 2 (.tmp 114) (.tmp 112)⟩])
  (.seq (.draw #[⟨some 115, .move (.tmp 0), 25, "entry.go:120", #[], none⟩,
    ⟨some 116, .nilCheck (.tmp 115), 0, "entry.go:120", #[⟨0, .data⟩], none⟩,
    ⟨some 117, .fieldAddr 107 (.tmp 116) 0, 0, "entry.go:120", #[⟨1, .data⟩], none⟩,
    ⟨some 118, .load 104 (.tmp 117), 104, "entry.go:120", #[⟨2, .data⟩], none⟩,
    ⟨some 119, .move (.tmp 14), 2, "entry.go:120", #[], none⟩,
    ⟨some 120, .move (.tmp 14), 2, "entry.go:120", #[], none⟩,
    ⟨some 121, .move (.tmp 1), 9, "entry.go:120", #[], none⟩,
    ⟨some 122, .fieldAddr 43 (.tmp 6) 1, 0, "entry.go:120", #[], none⟩,
    ⟨some 123, .load 39 (.tmp 122), 39, "entry.go:120", #[⟨7, .data⟩], none⟩,
    ⟨some 124, .call ⟨.value (.func 40), #[.tmp 123], #[39]⟩, 39, "entry.go:120", #[⟨8, .data⟩], none⟩,
    ⟨some 125, .move (.tmp 10), 2, "entry.go:120", #[], none⟩,
    ⟨some 126, .fieldAddr 74 (.tmp 7) 1, 0, "entry.go:120", #[], none⟩,
    ⟨some 127, .load 2 (.tmp 126), 2, "entry.go:120", #[⟨11, .data⟩], none⟩,
    ⟨some 128, .fieldAddr 74 (.tmp 7) 2, 0, "entry.go:120", #[], none⟩,
    ⟨some 129, .load 2 (.tmp 128), 2, "entry.go:120", #[⟨13, .data⟩], none⟩,
    ⟨some 130, .build 57 #[(0, .tmp 120), (1, .tmp 121), (2, .tmp 124), (3, .tmp 125), (4, .tmp 127), (5, .tmp 129)], 57, "entry.go:120", #[⟨5, .data⟩, ⟨6, .data⟩, ⟨9, .data⟩, ⟨10, .data⟩, ⟨12, .data⟩, ⟨14, .data⟩], none⟩,
    ⟨some 131, .build 110 #[(0, .tmp 130)], 110, "entry.go:120", #[⟨15, .data⟩], none⟩,
    ⟨some 132, .box 110 (.tmp 131), 103, "entry.go:120", #[⟨16, .data⟩], none⟩,
    ⟨none, .mapUpdate 104 (.tmp 118) (.tmp 119) (.tmp 132), 0, "entry.go:120", #[⟨3, .data⟩, ⟨4, .data⟩, ⟨17, .data⟩, ⟨9, .chain⟩, ⟨0, .phase⟩, ⟨1, .phase⟩, ⟨2, .phase⟩, ⟨3, .phase⟩, ⟨4, .phase⟩, ⟨5, .phase⟩, ⟨6, .phase⟩, ⟨7, .phase⟩, ⟨8, .phase⟩, ⟨9, .phase⟩, ⟨10, .phase⟩, ⟨11, .phase⟩, ⟨12, .phase⟩, ⟨13, .phase⟩, ⟨14, .phase⟩, ⟨15, .phase⟩, ⟨16, .phase⟩, ⟨17, .phase⟩], none⟩]
    [⟨some 115, none, .move (.tmp 0)⟩,
    ⟨some 116, none, .nilCheck (.tmp 115)⟩,
    ⟨some 117, none, .fieldAddr 107 (.tmp 116) 0⟩,
    ⟨some 118, none, .load 104 (.tmp 117)⟩,
    ⟨some 119, none, .move (.tmp 14)⟩,
    ⟨some 120, none, .move (.tmp 14)⟩,
    ⟨some 121, none, .move (.tmp 1)⟩,
    ⟨some 122, none, .fieldAddr 43 (.tmp 6) 1⟩,
    ⟨some 123, none, .load 39 (.tmp 122)⟩,
    ⟨some 124, none, .call ⟨.value (.func 40), #[.tmp 123], #[39]⟩⟩,
    ⟨some 125, none, .move (.tmp 10)⟩,
    ⟨some 126, none, .fieldAddr 74 (.tmp 7) 1⟩,
    ⟨some 127, none, .load 2 (.tmp 126)⟩,
    ⟨some 128, none, .fieldAddr 74 (.tmp 7) 2⟩,
    ⟨some 129, none, .load 2 (.tmp 128)⟩,
    ⟨some 130, none, .build 57 #[(0, .tmp 120), (1, .tmp 121), (2, .tmp 124), (3, .tmp 125), (4, .tmp 127), (5, .tmp 129)]⟩,
    ⟨some 131, none, .build 110 #[(0, .tmp 130)]⟩,
    ⟨some 132, none, .box 110 (.tmp 131)⟩,
    ⟨none, none, .mapUpdate 104 (.tmp 118) (.tmp 119) (.tmp 132)⟩])
  (.seq (.reg [⟨some 133, none, .move (.tmp 0)⟩,
    ⟨some 134, none, .move (.tmp 1)⟩,
    ⟨some 135, none, .move (.tmp 14)⟩,
    ⟨some 136, none, .load 74 (.tmp 7)⟩,
    ⟨some 137, none, .call ⟨.value (.func 84), #[.tmp 133, .tmp 134, .tmp 135, .tmp 136], #[25, 9, 2, 74]⟩⟩])
  (.seq (.reg [⟨some 138, none, .move (.tmp 14)⟩,
    ⟨some 8, none, .assign (.tmp 138)⟩,
    ⟨some 9, none, .assign (.const (.bool true))⟩])
  .ret)))))))))
theorem ok27 : FnOk Tryz.prog 27 139 [.tmp 8, .tmp 9] c27 := ⟨hmix, Tryz.f27, Tryz.func27, by kernel_rfl, rfl, rfl, by kernel_rfl, by kernel_rfl⟩

/-- (*mandoline/entry.Table).Use -/
def c18 : SC := (.seq (.reg [⟨some 6, none, .box 74 (.tmp 2)⟩,
    ⟨some 8, none, .assign (.const (.int .i64 0))⟩,
    ⟨some 9, none, .assign (.const (.int .i64 0))⟩])
  (.seq (.seq (.reg [⟨some 16, none, .move (.tmp 0)⟩,
    ⟨some 17, none, .binOp .eql 25 (.tmp 16) (.const (.pointer .none)) 25⟩])
  (.cond (.tmp 17)
  (.seq (.reg [⟨some 8, none, .assign (.const (.int .i64 0))⟩,
    ⟨some 9, none, .assign (.const (.int .i64 4))⟩])
  .ret)
  .skip))
  (.seq (.seq (.reg [⟨some 19, none, .move (.tmp 0)⟩,
    ⟨some 20, none, .move (.tmp 1)⟩,
    ⟨some 21, none, .load 74 (.tmp 6)⟩,
    ⟨some 22, none, .move (.tmp 3)⟩,
    ⟨some 23, none, .call ⟨.value (.func 58), #[.tmp 19, .tmp 20, .tmp 21, .tmp 22], #[25, 9, 74, 64]⟩⟩,
    ⟨some 18, none, .move (.tmp 23)⟩,
    ⟨some 24, none, .extract (.tmp 18) 0⟩,
    ⟨some 25, none, .extract (.tmp 18) 1⟩,
    ⟨some 10, none, .assign (.tmp 24)⟩,
    ⟨some 11, none, .assign (.tmp 25)⟩])
  (.seq (.reg [⟨some 26, none, .move (.tmp 11)⟩])
  (.cond (.tmp 26)
  (.seq (.reg [⟨some 27, none, .move (.tmp 10)⟩,
    ⟨some 8, none, .assign (.tmp 27)⟩,
    ⟨some 9, none, .assign (.const (.int .i64 1))⟩])
  .ret)
  .skip)))
  (.seq (.reg [⟨some 29, none, .move (.tmp 0)⟩,
    ⟨some 30, none, .move (.tmp 1)⟩,
    ⟨some 31, none, .call ⟨.value (.func 25), #[.tmp 29, .tmp 30], #[25, 9]⟩⟩,
    ⟨some 28, none, .move (.tmp 31)⟩,
    ⟨some 32, none, .extract (.tmp 28) 0⟩,
    ⟨some 33, none, .extract (.tmp 28) 1⟩,
    ⟨some 12, none, .assign (.tmp 32)⟩,
    ⟨some 13, none, .assign (.tmp 33)⟩])
  (.seq (.seq (.reg [⟨some 34, none, .move (.tmp 13)⟩,
    ⟨some 35, none, .unOp .not 4 (.tmp 34)⟩])
  (.cond (.tmp 35)
  (.seq (.reg [⟨some 8, none, .assign (.const (.int .i64 0))⟩,
    ⟨some 9, none, .assign (.const (.int .i64 4))⟩])
  .ret)
  .skip))
  (.seq (.reg [⟨some 36, none, .move (.tmp 0)⟩,
    ⟨some 37, none, .nilCheck (.tmp 36)⟩,
    ⟨some 38, none, .fieldAddr 107 (.tmp 37) 0⟩,
    ⟨some 39, none, .load 104 (.tmp 38)⟩,
    ⟨some 40, none, .move (.tmp 12)⟩,
    ⟨some 41, none, .lookup 104 (.tmp 39) (.tmp 40) false⟩,
    ⟨some 42, none, .nilCheck (.tmp 41)⟩,
    ⟨some 43, none, .fieldAddr 110 (.tmp 42) 0⟩,
    ⟨some 44, none, .load 57 (.tmp 43)⟩,
    ⟨some 14, none, .alloc 57⟩,
    ⟨none, none, .store 57 (.tmp 14) (.tmp 44)⟩])
  (.seq (.seq (.reg [⟨some 45, none, .fieldAddr 57 (.tmp 14) 2⟩,
    ⟨some 46, none, .fieldAddr 39 (.tmp 45) 9⟩,
    ⟨some 47, none, .load 4 (.tmp 46)⟩,
    ⟨some 48, none, .unOp .not 4 (.tmp 47)⟩,
    ⟨some 49, none, .move (.tmp 48)⟩,
    ⟨some 50, some (49, false), .load 57 (.tmp 14)⟩,
    ⟨some 51, some (49, false), .move (.tmp 3)⟩,
    ⟨some 52, some (49, false), .load 74 (.tmp 6)⟩,
    ⟨some 53, some (49, false), .call ⟨.value (.func 59), #[.tmp 50, .tmp 51, .tmp 52], #[57, 64, 74]⟩⟩,
    ⟨some 54, none, .pick (.tmp 49) (.const (.bool true)) (.tmp 53)⟩])
  (.cond (.tmp 54)
  (.seq (.reg [⟨some 8, none, .assign (.const (.int .i64 0))⟩,
    ⟨some 9, none, .assign (.const (.int .i64 4))⟩])
  .ret)
  .skip))
  (.seq (.reg [⟨some 55, none, .fieldAddr 57 (.tmp 14) 2⟩,
    ⟨some 56, none, .load 39 (.tmp 55)⟩,
    ⟨some 57, none, .fieldAddr 57 (.tmp 14) 3⟩,
    ⟨some 58, none, .load 2 (.tmp 57)⟩,
    ⟨some 59, none, .fieldAddr 74 (.tmp 6) 0⟩,
    ⟨some 60, none, .load 2 (.tmp 59)⟩,
    ⟨some 61, none, .call ⟨.value (.func 60), #[.tmp 56, .tmp 58, .tmp 60], #[39, 2, 2]⟩⟩,
    ⟨some 15, none, .assign (.tmp 61)⟩])
  (.seq (.seq (.draw #[⟨some 62, .move (.tmp 3), 64, "entry.go:200", #[], none⟩,
    ⟨some 63, .load 57 (.tmp 14), 57, "entry.go:200", #[], none⟩,
    ⟨some 64, .call ⟨.value (.func 62), #[.tmp 63], #[57]⟩, 37, "entry.go:200", #[⟨1, .data⟩], none⟩,
    ⟨some 65, .fieldAddr 57 (.tmp 14) 5, 0, "entry.go:200", #[], none⟩,
    ⟨some 66, .load 2 (.tmp 65), 2, "entry.go:200", #[⟨3, .data⟩], none⟩,
    ⟨some 67, .fieldAddr 74 (.tmp 6) 2, 0, "entry.go:200", #[], none⟩,
    ⟨some 68, .load 2 (.tmp 67), 2, "entry.go:200", #[⟨5, .data⟩], none⟩,
    ⟨some 69, .call ⟨.value (.func 61), #[.tmp 62, .tmp 64, .tmp 66, .tmp 68, .const (.bool false)], #[64, 37, 2, 2, 4]⟩, 2, "entry.go:200", #[⟨0, .data⟩, ⟨2, .data⟩, ⟨4, .data⟩, ⟨6, .data⟩, ⟨2, .chain⟩], none⟩,
    ⟨some 70, .binOp .gtr 2 (.tmp 69) (.const (.int .i64 0)) 2, 4, "entry.go:200", #[⟨7, .data⟩], none⟩]
    [⟨some 62, none, .move (.tmp 3)⟩,
    ⟨some 63, none, .load 57 (.tmp 14)⟩,
    ⟨some 64, none, .call ⟨.value (.func 62), #[.tmp 63], #[57]⟩⟩,
    ⟨some 65, none, .fieldAddr 57 (.tmp 14) 5⟩,
    ⟨some 66, none, .load 2 (.tmp 65)⟩,
    ⟨some 67, none, .fieldAddr 74 (.tmp 6) 2⟩,
    ⟨some 68, none, .load 2 (.tmp 67)⟩,
    ⟨some 69, none, .call ⟨.value (.func 61), #[.tmp 62, .tmp 64, .tmp 66, .tmp 68, .const (.bool false)], #[64, 37, 2, 2, 4]⟩⟩,
    ⟨some 70, none, .binOp .gtr 2 (.tmp 69) (.const (.int .i64 0)) 2⟩])
  (.cond (.tmp 70)
  (.draw #[⟨some 71, .fieldAddr 57 (.tmp 14) 2, 0, "entry.go:201", #[], none⟩,
    ⟨some 72, .load 39 (.tmp 71), 39, "entry.go:201", #[⟨0, .data⟩], none⟩,
    ⟨some 73, .fieldAddr 57 (.tmp 14) 3, 0, "entry.go:201", #[], none⟩,
    ⟨some 74, .load 2 (.tmp 73), 2, "entry.go:201", #[⟨2, .data⟩], none⟩,
    ⟨some 75, .fieldAddr 74 (.tmp 6) 0, 0, "entry.go:201", #[], none⟩,
    ⟨some 76, .load 2 (.tmp 75), 2, "entry.go:201", #[⟨4, .data⟩], none⟩,
    ⟨some 77, .call ⟨.value (.func 64), #[.tmp 74, .tmp 76], #[2, 2]⟩, 2, "entry.go:201", #[⟨3, .data⟩, ⟨5, .data⟩], none⟩,
    ⟨some 78, .call ⟨.value (.func 63), #[.tmp 72, .tmp 77], #[39, 2]⟩, 3, "entry.go:201", #[⟨1, .data⟩, ⟨6, .data⟩, ⟨6, .chain⟩], none⟩,
    ⟨some 15, .assign (.tmp 78), 3, "entry.go:201", #[⟨7, .data⟩, ⟨7, .chain⟩, ⟨0, .phase⟩, ⟨1, .phase⟩, ⟨2, .phase⟩, ⟨3, .phase⟩, ⟨4, .phase⟩, ⟨5, .phase⟩, ⟨6, .phase⟩, ⟨7, .phase⟩], none⟩]
    [⟨some 71, none, .fieldAddr 57 (.tmp 14) 2⟩,
    ⟨some 72, none, .load 39 (.tmp 71)⟩,
    ⟨some 73, none, .fieldAddr 57 (.tmp 14) 3⟩,
    ⟨some 74, none, .load 2 (.tmp 73)⟩,
    ⟨some 75, none, .fieldAddr 74 (.tmp 6) 0⟩,
    ⟨some 76, none, .load 2 (.tmp 75)⟩,
    ⟨some 77, none, .call ⟨.value (.func 64), #[.tmp 74, .tmp 76], #[2, 2]⟩⟩,
    ⟨some 78, none, .call ⟨.value (.func 63), #[.tmp 72, .tmp 77], #[39, 2]⟩⟩,
    ⟨some 15, none, .assign (.tmp 78)⟩])
  .skip))
  (.seq (.seq (.reg [⟨some 79, none, .move (.tmp 15)⟩,
    ⟨some 80, none, .binOp .eql 3 (.tmp 79) (.const (.int .i64 4)) 3⟩])
  (.cond (.tmp 80)
  (.seq (.reg [⟨some 8, none, .assign (.const (.int .i64 0))⟩,
    ⟨some 9, none, .assign (.const (.int .i64 4))⟩])
  .ret)
  .skip))
  (.seq (.reg [⟨some 81, none, .move (.tmp 12)⟩,
    ⟨some 82, none, .move (.tmp 15)⟩,
    ⟨some 8, none, .assign (.tmp 81)⟩,
    ⟨some 9, none, .assign (.tmp 82)⟩])
  .ret)))))))))))
theorem ok18 : FnOk Tryz.prog 18 83 [.tmp 8, .tmp 9] c18 := ⟨hmix, Tryz.f18, Tryz.func18, by kernel_rfl, rfl, rfl, by kernel_rfl, by kernel_rfl⟩

/-- (*mandoline/entry.Table).Confirm -/
def c28 : SC := (.seq (.reg [⟨some 5, none, .box 74 (.tmp 2)⟩,
    ⟨some 6, none, .assign (.const (.int .i64 0))⟩])
  (.seq (.seq (.reg [⟨some 9, none, .move (.tmp 0)⟩,
    ⟨some 10, none, .binOp .eql 25 (.tmp 9) (.const (.pointer .none)) 25⟩,
    ⟨some 11, none, .move (.tmp 10)⟩,
    ⟨some 12, some (11, false), .load 74 (.tmp 5)⟩,
    ⟨some 13, some (11, false), .call ⟨.value (.func 77), #[.tmp 12], #[74]⟩⟩,
    ⟨some 14, some (11, false), .unOp .not 4 (.tmp 13)⟩,
    ⟨some 15, none, .pick (.tmp 11) (.const (.bool true)) (.tmp 14)⟩])
  (.cond (.tmp 15)
  (.seq (.reg [⟨some 6, none, .assign (.const (.int .i64 1))⟩])
  .ret)
  .skip))
  (.seq (.reg [⟨some 17, none, .move (.tmp 0)⟩,
    ⟨some 18, none, .nilCheck (.tmp 17)⟩,
    ⟨some 19, none, .fieldAddr 107 (.tmp 18) 0⟩,
    ⟨some 20, none, .load 104 (.tmp 19)⟩,
    ⟨some 21, none, .move (.tmp 1)⟩,
    ⟨some 22, none, .lookup 104 (.tmp 20) (.tmp 21) true⟩,
    ⟨some 16, none, .move (.tmp 22)⟩,
    ⟨some 23, none, .extract (.tmp 16) 0⟩,
    ⟨some 24, none, .extract (.tmp 16) 1⟩,
    ⟨some 7, none, .assign (.tmp 23)⟩,
    ⟨some 8, none, .assign (.tmp 24)⟩])
  (.seq (.seq (.reg [⟨some 25, none, .move (.tmp 8)⟩,
    ⟨some 26, none, .unOp .not 4 (.tmp 25)⟩])
  (.cond (.tmp 26)
  (.seq (.reg [⟨some 6, none, .assign (.const (.int .i64 6))⟩])
  .ret)
  .skip))
  (.seq (.reg [⟨some 27, none, .move (.tmp 7)⟩,
    ⟨some 28, none, .fieldAddr 74 (.tmp 5) 0⟩,
    ⟨some 29, none, .load 2 (.tmp 28)⟩,
    ⟨some 30, none, .load 74 (.tmp 5)⟩,
    ⟨some 31, none, .call ⟨.value (.func 83), #[.tmp 27, .tmp 29, .tmp 30], #[103, 2, 74]⟩⟩])
  (.seq (.draw #[⟨some 32, .move (.tmp 0), 25, "entry.go:141", #[], none⟩,
    ⟨some 33, .move (.tmp 7), 103, "entry.go:141", #[], none⟩,
    ⟨some 34, .nilCheck (.tmp 33), 0, "entry.go:141", #[⟨1, .data⟩], none⟩,
    ⟨some 35, .fieldAddr 110 (.tmp 34) 0, 0, "entry.go:141", #[⟨2, .data⟩], none⟩,
    ⟨some 36, .fieldAddr 57 (.tmp 35) 1, 0, "entry.go:141", #[⟨3, .data⟩], none⟩,
    ⟨some 37, .load 9 (.tmp 36), 9, "entry.go:141", #[⟨4, .data⟩], none⟩,
    ⟨some 38, .move (.tmp 1), 2, "entry.go:141", #[], none⟩,
    ⟨some 39, .load 74 (.tmp 5), 74, "entry.go:141", #[], none⟩,
    ⟨some 40, .call ⟨.value (.func 84), #[.tmp 32, .tmp 37, .tmp 38, .tmp 39], #[25, 9, 2, 74]⟩, 0, "entry.go:141", #[⟨0, .data⟩, ⟨5, .data⟩, ⟨6, .data⟩, ⟨7, .data⟩], none⟩]
    [⟨some 32, none, .move (.tmp 0)⟩,
    ⟨some 33, none, .move (.tmp 7)⟩,
    ⟨some 34, none, .nilCheck (.tmp 33)⟩,
    ⟨some 35, none, .fieldAddr 110 (.tmp 34) 0⟩,
    ⟨some 36, none, .fieldAddr 57 (.tmp 35) 1⟩,
    ⟨some 37, none, .load 9 (.tmp 36)⟩,
    ⟨some 38, none, .move (.tmp 1)⟩,
    ⟨some 39, none, .load 74 (.tmp 5)⟩,
    ⟨some 40, none, .call ⟨.value (.func 84), #[.tmp 32, .tmp 37, .tmp 38, .tmp 39], #[25, 9, 2, 74]⟩⟩])
  (.seq (.reg [⟨some 6, none, .assign (.const (.int .i64 0))⟩])
  .ret)))))))
theorem ok28 : FnOk Tryz.prog 28 41 [.tmp 6] c28 := ⟨hmix, Tryz.f28, Tryz.func28, by kernel_rfl, rfl, rfl, by kernel_rfl, by kernel_rfl⟩

/-- (*mandoline/entry.Table).Gone -/
def c29 : SC := (.seq (.reg [⟨some 3, none, .box 25 (.tmp 0)⟩,
    ⟨some 5, none, .box 74 (.tmp 2)⟩,
    ⟨some 6, none, .assign (.const (.slice .none 0 0))⟩])
  (.seq (.seq (.reg [⟨some 10, none, .load 25 (.tmp 3)⟩,
    ⟨some 11, none, .binOp .eql 25 (.tmp 10) (.const (.pointer .none)) 25⟩,
    ⟨some 12, none, .move (.tmp 11)⟩,
    ⟨some 13, some (12, false), .load 74 (.tmp 5)⟩,
    ⟨some 14, some (12, false), .call ⟨.value (.func 77), #[.tmp 13], #[74]⟩⟩,
    ⟨some 15, some (12, false), .unOp .not 4 (.tmp 14)⟩,
    ⟨some 16, none, .pick (.tmp 12) (.const (.bool true)) (.tmp 15)⟩])
  (.cond (.tmp 16)
  (.seq (.reg [⟨some 6, none, .assign (.const (.slice .none 0 0))⟩])
  .ret)
  .skip))
  (.seq (.reg [⟨some 7, none, .assign (.const (.slice .none 0 0))⟩])
  (.seq (.seq (.reg [⟨some 17, none, .load 25 (.tmp 3)⟩,
    ⟨some 18, none, .move (.tmp 1)⟩,
    ⟨some 19, none, .call ⟨.value (.func 79), #[.tmp 17, .tmp 18], #[25, 9]⟩⟩,
    ⟨some 20, none, .call ⟨.builtin .len, #[.tmp 19], #[89]⟩⟩,
    ⟨some 21, none, .move (.const (.int .i64 0))⟩])
  (.block 0 (.loop (.seq (.reg [⟨some 22, none, .binOp .lss 3 (.tmp 21) (.tmp 20) 3⟩])
  (.seq (.cond (.tmp 22)
  .skip
  (.exit 0))
  (.seq (.block 1 (.seq (.reg [⟨some 23, none, .indexAddr 89 (.tmp 19) (.tmp 21)⟩,
    ⟨some 24, none, .load 2 (.tmp 23)⟩,
    ⟨some 9, none, .assign (.tmp 24)⟩])
  (.seq (.draw #[⟨some 25, .load 25 (.tmp 3), 25, "entry.go:152", #[], none⟩,
    ⟨some 26, .load 25 (.tmp 3), 25, "entry.go:152", #[], none⟩,
    ⟨some 27, .nilCheck (.tmp 26), 0, "entry.go:152", #[⟨1, .data⟩], none⟩,
    ⟨some 28, .fieldAddr 107 (.tmp 27) 0, 0, "entry.go:152", #[⟨2, .data⟩], none⟩,
    ⟨some 29, .load 104 (.tmp 28), 104, "entry.go:152", #[⟨3, .data⟩], none⟩,
    ⟨some 30, .move (.tmp 9), 2, "entry.go:152", #[], none⟩,
    ⟨some 31, .lookup 104 (.tmp 29) (.tmp 30) false, 103, "entry.go:152", #[⟨4, .data⟩, ⟨5, .data⟩], none⟩,
    ⟨some 32, .nilCheck (.tmp 31), 0, "entry.go:152", #[⟨6, .data⟩], none⟩,
    ⟨some 33, .fieldAddr 110 (.tmp 32) 0, 0, "entry.go:152", #[⟨7, .data⟩], none⟩,
    ⟨some 34, .load 57 (.tmp 33), 57, "entry.go:152", #[⟨8, .data⟩], none⟩,
    ⟨some 35, .call ⟨.value (.func 65), #[.tmp 25, .tmp 34], #[25, 57]⟩, 4, "entry.go:152", #[⟨0, .data⟩, ⟨9, .data⟩], none⟩,
    ⟨some 36, .unOp .not 4 (.tmp 35), 4, "entry.go:152", #[⟨10, .data⟩], none⟩]
    [⟨some 25, none, .load 25 (.tmp 3)⟩,
    ⟨some 26, none, .load 25 (.tmp 3)⟩,
    ⟨some 27, none, .nilCheck (.tmp 26)⟩,
    ⟨some 28, none, .fieldAddr 107 (.tmp 27) 0⟩,
    ⟨some 29, none, .load 104 (.tmp 28)⟩,
    ⟨some 30, none, .move (.tmp 9)⟩,
    ⟨some 31, none, .lookup 104 (.tmp 29) (.tmp 30) false⟩,
    ⟨some 32, none, .nilCheck (.tmp 31)⟩,
    ⟨some 33, none, .fieldAddr 110 (.tmp 32) 0⟩,
    ⟨some 34, none, .load 57 (.tmp 33)⟩,
    ⟨some 35, none, .call ⟨.value (.func 65), #[.tmp 25, .tmp 34], #[25, 57]⟩⟩,
    ⟨some 36, none, .unOp .not 4 (.tmp 35)⟩])
  (.cond (.tmp 36)
  (.reg [⟨some 37, none, .move (.tmp 7)⟩,
    ⟨some 38, none, .move (.tmp 9)⟩,
    ⟨some 39, none, .buildSlice 89 1 #[(0, .tmp 38)]⟩,
    ⟨some 40, none, .call ⟨.builtin .append, #[.tmp 37, .tmp 39], #[89, 89]⟩⟩,
    ⟨some 7, none, .assign (.tmp 40)⟩])
  .skip))))
  (.reg [⟨some 41, none, .binOp .add 3 (.tmp 21) (.const (.int .i64 1)) 3⟩,
    ⟨some 21, none, .move (.tmp 41)⟩])))))))
  (.seq (.reg [⟨some 42, none, .load 25 (.tmp 3)⟩,
    ⟨some 43, none, .move (.tmp 1)⟩,
    ⟨some 44, none, .load 74 (.tmp 5)⟩,
    ⟨some 45, none, .call ⟨.value (.func 84), #[.tmp 42, .tmp 43, .const (.int .i64 0), .tmp 44], #[25, 9, 2, 74]⟩⟩])
  (.seq (.reg [⟨some 46, none, .move (.tmp 7)⟩,
    ⟨some 47, none, .makeFunc (.func 86) #[] #[.tmp 3]⟩,
    ⟨some 48, none, .call ⟨.value (.func 85), #[.tmp 46, .tmp 47], #[89, 93]⟩⟩,
    ⟨some 6, none, .assign (.tmp 48)⟩])
  .ret))))))
theorem ok29 : FnOk Tryz.prog 29 49 [.tmp 6] c29 := ⟨hmix, Tryz.f29, Tryz.func29, by kernel_rfl, rfl, rfl, by kernel_rfl, by kernel_rfl⟩

/-- (*mandoline/entry.Table).change -/
def c87 : SC := (.seq (.reg [⟨some 6, none, .box 41 (.tmp 2)⟩,
    ⟨some 8, none, .assign (.const (.int .i64 0))⟩])
  (.seq (.seq (.reg [⟨some 11, none, .move (.tmp 0)⟩,
    ⟨some 12, none, .binOp .eql 25 (.tmp 11) (.const (.pointer .none)) 25⟩,
    ⟨some 13, none, .move (.tmp 12)⟩,
    ⟨some 14, some (13, false), .load 41 (.tmp 6)⟩,
    ⟨some 15, some (13, false), .call ⟨.value (.func 129), #[.tmp 14], #[41]⟩⟩,
    ⟨some 16, some (13, false), .unOp .not 4 (.tmp 15)⟩,
    ⟨some 17, none, .pick (.tmp 13) (.const (.bool true)) (.tmp 16)⟩])
  (.cond (.tmp 17)
  (.seq (.reg [⟨some 8, none, .assign (.const (.int .i64 1))⟩])
  .ret)
  .skip))
  (.seq (.reg [⟨some 19, none, .move (.tmp 0)⟩,
    ⟨some 20, none, .nilCheck (.tmp 19)⟩,
    ⟨some 21, none, .fieldAddr 107 (.tmp 20) 0⟩,
    ⟨some 22, none, .load 104 (.tmp 21)⟩,
    ⟨some 23, none, .move (.tmp 1)⟩,
    ⟨some 24, none, .lookup 104 (.tmp 22) (.tmp 23) true⟩,
    ⟨some 18, none, .move (.tmp 24)⟩,
    ⟨some 25, none, .extract (.tmp 18) 0⟩,
    ⟨some 26, none, .extract (.tmp 18) 1⟩,
    ⟨some 9, none, .assign (.tmp 25)⟩,
    ⟨some 10, none, .assign (.tmp 26)⟩])
  (.seq (.seq (.reg [⟨some 27, none, .move (.tmp 10)⟩,
    ⟨some 28, none, .unOp .not 4 (.tmp 27)⟩])
  (.cond (.tmp 28)
  (.seq (.reg [⟨some 8, none, .assign (.const (.int .i64 6))⟩])
  .ret)
  .skip))
  (.seq (.draw #[⟨some 29, .move (.tmp 9), 103, "entry.go:244", #[], none⟩,
    ⟨some 30, .move (.tmp 3), 162, "entry.go:244", #[], none⟩,
    ⟨some 31, .move (.tmp 9), 103, "entry.go:244", #[], none⟩,
    ⟨some 32, .nilCheck (.tmp 31), 0, "entry.go:244", #[⟨2, .data⟩], none⟩,
    ⟨some 33, .fieldAddr 110 (.tmp 32) 1, 0, "entry.go:244", #[⟨3, .data⟩], none⟩,
    ⟨some 34, .load 95 (.tmp 33), 95, "entry.go:244", #[⟨4, .data⟩], none⟩,
    ⟨some 35, .load 41 (.tmp 6), 41, "entry.go:244", #[], none⟩,
    ⟨some 36, .buildSlice 52 1 #[(0, .tmp 35)], 52, "entry.go:244", #[⟨6, .data⟩], none⟩,
    ⟨some 37, .call ⟨.value (.func 130), #[.tmp 36], #[52]⟩, 95, "entry.go:244", #[⟨7, .data⟩], none⟩,
    ⟨some 38, .call ⟨.value (.tmp 30), #[.tmp 34, .tmp 37], #[95, 95]⟩, 95, "entry.go:244", #[⟨1, .data⟩, ⟨5, .data⟩, ⟨8, .data⟩, ⟨8, .chain⟩], none⟩,
    ⟨some 39, .nilCheck (.tmp 29), 0, "entry.go:244", #[⟨0, .data⟩, ⟨0, .phase⟩, ⟨1, .phase⟩, ⟨2, .phase⟩, ⟨3, .phase⟩, ⟨4, .phase⟩, ⟨5, .phase⟩, ⟨6, .phase⟩, ⟨7, .phase⟩, ⟨8, .phase⟩, ⟨9, .phase⟩], none⟩,
    ⟨some 40, .fieldAddr 110 (.tmp 39) 1, 0, "entry.go:244", #[⟨10, .data⟩, ⟨0, .phase⟩, ⟨1, .phase⟩, ⟨2, .phase⟩, ⟨3, .phase⟩, ⟨4, .phase⟩, ⟨5, .phase⟩, ⟨6, .phase⟩, ⟨7, .phase⟩, ⟨8, .phase⟩, ⟨9, .phase⟩], none⟩,
    ⟨none, .store 95 (.tmp 40) (.tmp 38), 0, "entry.go:244", #[⟨11, .data⟩, ⟨9, .data⟩, ⟨9, .chain⟩, ⟨0, .phase⟩, ⟨1, .phase⟩, ⟨2, .phase⟩, ⟨3, .phase⟩, ⟨4, .phase⟩, ⟨5, .phase⟩, ⟨6, .phase⟩, ⟨7, .phase⟩, ⟨8, .phase⟩, ⟨9, .phase⟩], none⟩]
    [⟨some 29, none, .move (.tmp 9)⟩,
    ⟨some 30, none, .move (.tmp 3)⟩,
    ⟨some 31, none, .move (.tmp 9)⟩,
    ⟨some 32, none, .nilCheck (.tmp 31)⟩,
    ⟨some 33, none, .fieldAddr 110 (.tmp 32) 1⟩,
    ⟨some 34, none, .load 95 (.tmp 33)⟩,
    ⟨some 35, none, .load 41 (.tmp 6)⟩,
    ⟨some 36, none, .buildSlice 52 1 #[(0, .tmp 35)]⟩,
    ⟨some 37, none, .call ⟨.value (.func 130), #[.tmp 36], #[52]⟩⟩,
    ⟨some 38, none, .call ⟨.value (.tmp 30), #[.tmp 34, .tmp 37], #[95, 95]⟩⟩,
    ⟨some 39, none, .nilCheck (.tmp 29)⟩,
    ⟨some 40, none, .fieldAddr 110 (.tmp 39) 1⟩,
    ⟨none, none, .store 95 (.tmp 40) (.tmp 38)⟩])
  (.seq (.reg [⟨some 8, none, .assign (.const (.int .i64 0))⟩])
  .ret))))))
theorem ok87 : FnOk Tryz.prog 87 41 [.tmp 8] c87 := ⟨hmix, Tryz.f87, Tryz.func87, by kernel_rfl, rfl, rfl, by kernel_rfl, by kernel_rfl⟩

/-- (*mandoline/entry.Table).Fill -/
def c30 : SC := (.seq (.reg [⟨some 5, none, .box 41 (.tmp 2)⟩,
    ⟨some 6, none, .assign (.const (.int .i64 0))⟩])
  (.seq (.reg [⟨some 7, none, .move (.tmp 0)⟩,
    ⟨some 8, none, .move (.tmp 1)⟩,
    ⟨some 9, none, .load 41 (.tmp 5)⟩,
    ⟨some 10, none, .call ⟨.value (.func 87), #[.tmp 7, .tmp 8, .tmp 9, .func 88], #[25, 2, 41, 162]⟩⟩,
    ⟨some 6, none, .assign (.tmp 10)⟩])
  .ret))
theorem ok30 : FnOk Tryz.prog 30 11 [.tmp 6] c30 := ⟨hmix, Tryz.f30, Tryz.func30, by kernel_rfl, rfl, rfl, by kernel_rfl, by kernel_rfl⟩

/-- (*mandoline/entry.Table).Lose -/
def c31 : SC := (.seq (.reg [⟨some 5, none, .box 41 (.tmp 2)⟩,
    ⟨some 6, none, .assign (.const (.int .i64 0))⟩])
  (.seq (.reg [⟨some 7, none, .move (.tmp 0)⟩,
    ⟨some 8, none, .move (.tmp 1)⟩,
    ⟨some 9, none, .load 41 (.tmp 5)⟩,
    ⟨some 10, none, .call ⟨.value (.func 87), #[.tmp 7, .tmp 8, .tmp 9, .func 89], #[25, 2, 41, 162]⟩⟩,
    ⟨some 6, none, .assign (.tmp 10)⟩])
  .ret))
theorem ok31 : FnOk Tryz.prog 31 11 [.tmp 6] c31 := ⟨hmix, Tryz.f31, Tryz.func31, by kernel_rfl, rfl, rfl, by kernel_rfl, by kernel_rfl⟩

/-- (*mandoline/entry.Table).Has -/
def c34 : SC := (.seq (.reg [⟨some 4, none, .alloc 95⟩])
  (.seq (.seq (.reg [⟨some 7, none, .move (.tmp 0)⟩,
    ⟨some 8, none, .binOp .eql 25 (.tmp 7) (.const (.pointer .none)) 25⟩])
  (.cond (.tmp 8)
  (.seq (.reg [⟨some 9, none, .build 95 #[]⟩,
    ⟨none, none, .store 95 (.tmp 4) (.tmp 9)⟩])
  .ret)
  .skip))
  (.seq (.seq (.reg [⟨some 11, none, .move (.tmp 0)⟩,
    ⟨some 12, none, .nilCheck (.tmp 11)⟩,
    ⟨some 13, none, .fieldAddr 107 (.tmp 12) 0⟩,
    ⟨some 14, none, .load 104 (.tmp 13)⟩,
    ⟨some 15, none, .move (.tmp 1)⟩,
    ⟨some 16, none, .lookup 104 (.tmp 14) (.tmp 15) true⟩,
    ⟨some 10, none, .move (.tmp 16)⟩,
    ⟨some 17, none, .extract (.tmp 10) 0⟩,
    ⟨some 18, none, .extract (.tmp 10) 1⟩,
    ⟨some 5, none, .assign (.tmp 17)⟩,
    ⟨some 6, none, .assign (.tmp 18)⟩])
  (.seq (.reg [⟨some 19, none, .move (.tmp 6)⟩])
  (.cond (.tmp 19)
  (.seq (.reg [⟨some 20, none, .move (.tmp 5)⟩,
    ⟨some 21, none, .nilCheck (.tmp 20)⟩,
    ⟨some 22, none, .fieldAddr 110 (.tmp 21) 1⟩,
    ⟨some 23, none, .load 95 (.tmp 22)⟩,
    ⟨none, none, .store 95 (.tmp 4) (.tmp 23)⟩])
  .ret)
  .skip)))
  (.seq (.reg [⟨some 24, none, .build 95 #[]⟩,
    ⟨none, none, .store 95 (.tmp 4) (.tmp 24)⟩])
  .ret))))
theorem ok34 : FnOk Tryz.prog 34 25 [.cell 4 95] c34 := ⟨hmix, Tryz.f34, Tryz.func34, by kernel_rfl, rfl, rfl, by kernel_rfl, by kernel_rfl⟩

/-- (*mandoline/entry.Table).Learn -/
def c32 : SC := (.seq (.reg [⟨some 8, none, .assign (.const (.int .i64 0))⟩])
  (.seq (.seq (.reg [⟨some 12, none, .move (.tmp 0)⟩,
    ⟨some 13, none, .binOp .eql 25 (.tmp 12) (.const (.pointer .none)) 25⟩])
  (.cond (.tmp 13)
  (.seq (.reg [⟨some 8, none, .assign (.const (.int .i64 1))⟩])
  .ret)
  .skip))
  (.seq (.reg [⟨some 15, none, .move (.tmp 0)⟩,
    ⟨some 16, none, .nilCheck (.tmp 15)⟩,
    ⟨some 17, none, .fieldAddr 107 (.tmp 16) 0⟩,
    ⟨some 18, none, .load 104 (.tmp 17)⟩,
    ⟨some 19, none, .move (.tmp 1)⟩,
    ⟨some 20, none, .lookup 104 (.tmp 18) (.tmp 19) true⟩,
    ⟨some 14, none, .move (.tmp 20)⟩,
    ⟨some 21, none, .extract (.tmp 14) 0⟩,
    ⟨some 22, none, .extract (.tmp 14) 1⟩,
    ⟨some 9, none, .assign (.tmp 21)⟩,
    ⟨some 10, none, .assign (.tmp 22)⟩])
  (.seq (.seq (.reg [⟨some 23, none, .move (.tmp 10)⟩,
    ⟨some 24, none, .unOp .not 4 (.tmp 23)⟩])
  (.cond (.tmp 24)
  (.seq (.reg [⟨some 8, none, .assign (.const (.int .i64 6))⟩])
  .ret)
  .skip))
  (.seq (.reg [⟨some 25, none, .move (.tmp 9)⟩,
    ⟨some 26, none, .nilCheck (.tmp 25)⟩,
    ⟨some 27, none, .fieldAddr 110 (.tmp 26) 0⟩,
    ⟨some 28, none, .fieldAddr 57 (.tmp 27) 2⟩,
    ⟨some 29, none, .load 39 (.tmp 28)⟩,
    ⟨some 30, none, .call ⟨.value (.func 40), #[.tmp 29], #[39]⟩⟩,
    ⟨some 11, none, .alloc 39⟩,
    ⟨none, none, .store 39 (.tmp 11) (.tmp 30)⟩])
  (.seq (.reg [⟨some 31, none, .move (.tmp 2)⟩,
    ⟨some 32, none, .move (.tmp 3)⟩,
    ⟨some 33, none, .fieldAddr 39 (.tmp 11) 3⟩,
    ⟨none, none, .store 2 (.tmp 33) (.tmp 31)⟩,
    ⟨some 34, none, .fieldAddr 39 (.tmp 11) 2⟩,
    ⟨none, none, .store 2 (.tmp 34) (.tmp 32)⟩])
  (.seq (.seq (.draw #[⟨some 35, .load 39 (.tmp 11), 39, "entry.go:276", #[], none⟩,
    ⟨some 36, .call ⟨.value (.func 75), #[.tmp 35], #[39]⟩, 4, "entry.go:276", #[⟨0, .data⟩], none⟩,
    ⟨some 37, .unOp .not 4 (.tmp 36), 4, "entry.go:276", #[⟨1, .data⟩], none⟩,
    ⟨some 38, .move (.tmp 37), 4, "entry.go:276", #[⟨2, .data⟩, ⟨1, .chain⟩], none⟩,
    ⟨some 39, .move (.tmp 9), 103, "entry.go:276", #[⟨3, .guard⟩], some (3, false)⟩,
    ⟨some 40, .nilCheck (.tmp 39), 0, "entry.go:276", #[⟨4, .data⟩, ⟨3, .guard⟩], some (3, false)⟩,
    ⟨some 41, .fieldAddr 110 (.tmp 40) 0, 0, "entry.go:276", #[⟨5, .data⟩, ⟨3, .guard⟩], some (3, false)⟩,
    ⟨some 42, .fieldAddr 57 (.tmp 41) 2, 0, "entry.go:276", #[⟨6, .data⟩, ⟨3, .guard⟩], some (3, false)⟩,
    ⟨some 43, .load 39 (.tmp 42), 39, "entry.go:276", #[⟨7, .data⟩, ⟨3, .guard⟩], some (3, false)⟩,
    ⟨some 44, .load 39 (.tmp 11), 39, "entry.go:276", #[⟨3, .guard⟩], some (3, false)⟩,
    ⟨some 45, .call ⟨.value (.func 82), #[.tmp 43, .tmp 44], #[39, 39]⟩, 4, "entry.go:276", #[⟨8, .data⟩, ⟨9, .data⟩, ⟨3, .chain⟩, ⟨3, .guard⟩], some (3, false)⟩,
    ⟨some 46, .unOp .not 4 (.tmp 45), 4, "entry.go:276", #[⟨10, .data⟩, ⟨3, .guard⟩], some (3, false)⟩,
    ⟨some 47, .pick (.tmp 38) (.const (.bool true)) (.tmp 46), 4, "entry.go:276", #[⟨3, .data⟩, ⟨11, .data⟩], none⟩]
    [⟨some 35, none, .load 39 (.tmp 11)⟩,
    ⟨some 36, none, .call ⟨.value (.func 75), #[.tmp 35], #[39]⟩⟩,
    ⟨some 37, none, .unOp .not 4 (.tmp 36)⟩,
    ⟨some 38, none, .move (.tmp 37)⟩,
    ⟨some 39, some (38, false), .move (.tmp 9)⟩,
    ⟨some 40, some (38, false), .nilCheck (.tmp 39)⟩,
    ⟨some 41, some (38, false), .fieldAddr 110 (.tmp 40) 0⟩,
    ⟨some 42, some (38, false), .fieldAddr 57 (.tmp 41) 2⟩,
    ⟨some 43, some (38, false), .load 39 (.tmp 42)⟩,
    ⟨some 44, some (38, false), .load 39 (.tmp 11)⟩,
    ⟨some 45, some (38, false), .call ⟨.value (.func 82), #[.tmp 43, .tmp 44], #[39, 39]⟩⟩,
    ⟨some 46, some (38, false), .unOp .not 4 (.tmp 45)⟩,
    ⟨some 47, none, .pick (.tmp 38) (.const (.bool true)) (.tmp 46)⟩])
  (.cond (.tmp 47)
  (.seq (.reg [⟨some 8, none, .assign (.const (.int .i64 12))⟩])
  .ret)
  .skip))
  (.seq (.reg [⟨some 48, none, .move (.tmp 9)⟩,
    ⟨some 49, none, .load 39 (.tmp 11)⟩,
    ⟨some 50, none, .nilCheck (.tmp 48)⟩,
    ⟨some 51, none, .fieldAddr 110 (.tmp 50) 0⟩,
    ⟨some 52, none, .fieldAddr 57 (.tmp 51) 2⟩,
    ⟨none, none, .store 39 (.tmp 52) (.tmp 49)⟩])
  (.seq (.reg [⟨some 8, none, .assign (.const (.int .i64 0))⟩])
  .ret)))))))))
theorem ok32 : FnOk Tryz.prog 32 53 [.tmp 8] c32 := ⟨hmix, Tryz.f32, Tryz.func32, by kernel_rfl, rfl, rfl, by kernel_rfl, by kernel_rfl⟩

/-- (*mandoline/entry.Table).Drop -/
def c33 : SC := (.seq (.reg [⟨some 4, none, .assign (.const (.bool false))⟩])
  (.seq (.seq (.reg [⟨some 7, none, .move (.tmp 0)⟩,
    ⟨some 8, none, .binOp .eql 25 (.tmp 7) (.const (.pointer .none)) 25⟩])
  (.cond (.tmp 8)
  (.seq (.reg [⟨some 4, none, .assign (.const (.bool false))⟩])
  .ret)
  .skip))
  (.seq (.reg [⟨some 10, none, .move (.tmp 0)⟩,
    ⟨some 11, none, .nilCheck (.tmp 10)⟩,
    ⟨some 12, none, .fieldAddr 107 (.tmp 11) 0⟩,
    ⟨some 13, none, .load 104 (.tmp 12)⟩,
    ⟨some 14, none, .move (.tmp 1)⟩,
    ⟨some 15, none, .lookup 104 (.tmp 13) (.tmp 14) true⟩,
    ⟨some 9, none, .move (.tmp 15)⟩,
    ⟨some 16, none, .extract (.tmp 9) 0⟩,
    ⟨some 17, none, .extract (.tmp 9) 1⟩,
    ⟨some 5, none, .assign (.tmp 16)⟩,
    ⟨some 6, none, .assign (.tmp 17)⟩])
  (.seq (.reg [⟨some 18, none, .move (.tmp 0)⟩,
    ⟨some 19, none, .nilCheck (.tmp 18)⟩,
    ⟨some 20, none, .fieldAddr 107 (.tmp 19) 0⟩,
    ⟨some 21, none, .load 104 (.tmp 20)⟩,
    ⟨some 22, none, .move (.tmp 1)⟩,
    ⟨none, none, .call ⟨.builtin .delete, #[.tmp 21, .tmp 22], #[104, 2]⟩⟩])
  (.seq (.reg [⟨some 23, none, .move (.tmp 6)⟩,
    ⟨some 4, none, .assign (.tmp 23)⟩])
  .ret)))))
theorem ok33 : FnOk Tryz.prog 33 24 [.tmp 4] c33 := ⟨hmix, Tryz.f33, Tryz.func33, by kernel_rfl, rfl, rfl, by kernel_rfl, by kernel_rfl⟩

/-- (*mandoline/entry.Table).All -/
def c24 : SC := (.seq (.reg [⟨some 2, none, .assign (.const (.slice .none 0 0))⟩])
  (.seq (.seq (.reg [⟨some 8, none, .move (.tmp 0)⟩,
    ⟨some 9, none, .binOp .eql 25 (.tmp 8) (.const (.pointer .none)) 25⟩])
  (.cond (.tmp 9)
  (.seq (.reg [⟨some 2, none, .assign (.const (.slice .none 0 0))⟩])
  .ret)
  .skip))
  (.seq (.reg [⟨some 3, none, .assign (.const (.slice .none 0 0))⟩])
  (.seq (.seq (.reg [⟨some 10, none, .move (.tmp 0)⟩,
    ⟨some 11, none, .nilCheck (.tmp 10)⟩,
    ⟨some 12, none, .fieldAddr 107 (.tmp 11) 0⟩,
    ⟨some 13, none, .load 104 (.tmp 12)⟩,
    ⟨some 14, none, .call ⟨.value (.func 70), #[.tmp 13], #[104]⟩⟩,
    ⟨some 15, none, .call ⟨.value (.func 69), #[.tmp 14], #[152]⟩⟩,
    ⟨some 16, none, .call ⟨.builtin .len, #[.tmp 15], #[89]⟩⟩,
    ⟨some 17, none, .move (.const (.int .i64 0))⟩])
  (.block 0 (.loop (.seq (.reg [⟨some 18, none, .binOp .lss 3 (.tmp 17) (.tmp 16) 3⟩])
  (.seq (.cond (.tmp 18)
  .skip
  (.exit 0))
  (.seq (.block 1 (.seq (.reg [⟨some 19, none, .indexAddr 89 (.tmp 15) (.tmp 17)⟩,
    ⟨some 20, none, .load 2 (.tmp 19)⟩,
    ⟨some 5, none, .assign (.tmp 20)⟩])
  (.seq (.reg [⟨some 22, none, .move (.tmp 0)⟩,
    ⟨some 23, none, .move (.tmp 5)⟩,
    ⟨some 24, none, .call ⟨.value (.func 20), #[.tmp 22, .tmp 23], #[25, 2]⟩⟩,
    ⟨some 21, none, .move (.tmp 24)⟩,
    ⟨some 25, none, .extract (.tmp 21) 0⟩,
    ⟨some 26, none, .extract (.tmp 21) 1⟩,
    ⟨some 6, none, .alloc 57⟩,
    ⟨none, none, .store 57 (.tmp 6) (.tmp 25)⟩,
    ⟨some 7, none, .assign (.tmp 26)⟩])
  (.reg [⟨some 27, none, .move (.tmp 3)⟩,
    ⟨some 28, none, .load 57 (.tmp 6)⟩,
    ⟨some 29, none, .buildSlice 51 1 #[(0, .tmp 28)]⟩,
    ⟨some 30, none, .call ⟨.builtin .append, #[.tmp 27, .tmp 29], #[51, 51]⟩⟩,
    ⟨some 3, none, .assign (.tmp 30)⟩]))))
  (.reg [⟨some 31, none, .binOp .add 3 (.tmp 17) (.const (.int .i64 1)) 3⟩,
    ⟨some 17, none, .move (.tmp 31)⟩])))))))
  (.seq (.reg [⟨some 32, none, .move (.tmp 3)⟩,
    ⟨some 2, none, .assign (.tmp 32)⟩])
  .ret)))))
theorem ok24 : FnOk Tryz.prog 24 33 [.tmp 2] c24 := ⟨hmix, Tryz.f24, Tryz.func24, by kernel_rfl, rfl, rfl, by kernel_rfl, by kernel_rfl⟩

/-- mandoline/mandolinelaw42.EntryNil -/
def c8 : SC := (.seq (.reg [⟨some 1, none, .box 47 (.tmp 0)⟩,
    ⟨some 2, none, .assign (.const (.bool false))⟩])
  (.seq (.seq (.reg [⟨some 15, none, .call ⟨.value (.func 9), #[], #[]⟩⟩,
    ⟨some 16, none, .unOp .not 4 (.tmp 15)⟩])
  (.cond (.tmp 16)
  (.seq (.reg [⟨some 2, none, .assign (.const (.bool false))⟩])
  .ret)
  .skip))
  (.seq (.seq (.reg [⟨some 17, none, .load 47 (.tmp 1)⟩,
    ⟨some 18, none, .buildSlice 22 1 #[(0, .tmp 17)]⟩,
    ⟨some 19, none, .call ⟨.value (.func 10), #[.tmp 18], #[22]⟩⟩,
    ⟨some 20, none, .unOp .not 4 (.tmp 19)⟩])
  (.cond (.tmp 20)
  (.seq (.reg [⟨some 2, none, .assign (.const (.bool true))⟩])
  .ret)
  .skip))
  (.seq (.reg [⟨some 3, none, .assign (.const (.pointer .none))⟩])
  (.seq (.reg [⟨some 22, none, .build 61 #[]⟩,
    ⟨some 23, none, .call ⟨.value (.func 16), #[.tmp 22], #[61]⟩⟩,
    ⟨some 21, none, .move (.tmp 23)⟩,
    ⟨some 24, none, .extract (.tmp 21) 0⟩,
    ⟨some 25, none, .extract (.tmp 21) 1⟩,
    ⟨some 26, none, .extract (.tmp 21) 2⟩,
    ⟨some 5, none, .alloc 67⟩,
    ⟨some 4, none, .assign (.tmp 24)⟩,
    ⟨none, none, .store 67 (.tmp 5) (.tmp 25)⟩,
    ⟨some 6, none, .assign (.tmp 26)⟩])
  (.seq (.seq (.reg [⟨some 27, none, .move (.tmp 6)⟩,
    ⟨some 28, none, .unOp .not 4 (.tmp 27)⟩])
  (.cond (.tmp 28)
  (.seq (.reg [⟨some 2, none, .assign (.const (.bool false))⟩])
  .ret)
  .skip))
  (.seq (.draw #[⟨some 30, .move (.tmp 3), 25, "law.go:350", #[], none⟩,
    ⟨some 31, .fieldAddr 47 (.tmp 1) 1, 0, "law.go:350", #[], none⟩,
    ⟨some 32, .load 9 (.tmp 31), 9, "law.go:350", #[⟨1, .data⟩], none⟩,
    ⟨some 33, .fieldAddr 47 (.tmp 1) 2, 0, "law.go:350", #[], none⟩,
    ⟨some 34, .load 43 (.tmp 33), 43, "law.go:350", #[⟨3, .data⟩], none⟩,
    ⟨some 35, .fieldAddr 47 (.tmp 1) 3, 0, "law.go:350", #[], none⟩,
    ⟨some 36, .load 45 (.tmp 35), 45, "law.go:350", #[⟨5, .data⟩], none⟩,
    ⟨some 37, .call ⟨.value (.func 19), #[.tmp 36], #[45]⟩, 74, "law.go:350", #[⟨6, .data⟩], none⟩,
    ⟨some 38, .call ⟨.value (.func 27), #[.tmp 30, .tmp 32, .tmp 34, .tmp 37], #[25, 9, 43, 74]⟩, 83, "law.go:350", #[⟨0, .data⟩, ⟨2, .data⟩, ⟨4, .data⟩, ⟨7, .data⟩, ⟨7, .chain⟩], none⟩,
    ⟨some 29, .move (.tmp 38), 83, "law.go:350", #[⟨8, .data⟩], none⟩,
    ⟨some 39, .extract (.tmp 29) 0, 2, "law.go:350", #[⟨9, .data⟩], none⟩,
    ⟨some 40, .extract (.tmp 29) 1, 4, "law.go:350", #[⟨9, .data⟩, ⟨12, .gcOnly .lateStores⟩], none⟩,
    ⟨some 7, .assign (.tmp 39), 2, "law.go:350", #[⟨10, .data⟩, ⟨8, .chain⟩, ⟨0, .phase⟩, ⟨1, .phase⟩, ⟨2, .phase⟩, ⟨3, .phase⟩, ⟨4, .phase⟩, ⟨5, .phase⟩, ⟨6, .phase⟩, ⟨7, .phase⟩, ⟨8, .phase⟩, ⟨9, .phase⟩, ⟨10, .phase⟩, ⟨11, .textOnly .lateStores⟩], none⟩,
    ⟨some 8, .assign (.tmp 40), 4, "law.go:350", #[⟨11, .data⟩, ⟨12, .chain⟩, ⟨0, .phase⟩, ⟨1, .phase⟩, ⟨2, .phase⟩, ⟨3, .phase⟩, ⟨4, .phase⟩, ⟨5, .phase⟩, ⟨6, .phase⟩, ⟨7, .phase⟩, ⟨8, .phase⟩, ⟨9, .phase⟩, ⟨10, .phase⟩, ⟨11, .phase⟩, ⟨12, .phase⟩], none⟩]
    [⟨some 30, none, .move (.tmp 3)⟩,
    ⟨some 31, none, .fieldAddr 47 (.tmp 1) 1⟩,
    ⟨some 32, none, .load 9 (.tmp 31)⟩,
    ⟨some 33, none, .fieldAddr 47 (.tmp 1) 2⟩,
    ⟨some 34, none, .load 43 (.tmp 33)⟩,
    ⟨some 35, none, .fieldAddr 47 (.tmp 1) 3⟩,
    ⟨some 36, none, .load 45 (.tmp 35)⟩,
    ⟨some 37, none, .call ⟨.value (.func 19), #[.tmp 36], #[45]⟩⟩,
    ⟨some 38, none, .call ⟨.value (.func 27), #[.tmp 30, .tmp 32, .tmp 34, .tmp 37], #[25, 9, 43, 74]⟩⟩,
    ⟨some 29, none, .move (.tmp 38)⟩,
    ⟨some 39, none, .extract (.tmp 29) 0⟩,
    ⟨some 40, none, .extract (.tmp 29) 1⟩,
    ⟨some 7, none, .assign (.tmp 39)⟩,
    ⟨some 8, none, .assign (.tmp 40)⟩])
  (.seq (.draw #[⟨some 42, .move (.tmp 3), 25, "law.go:351", #[], none⟩,
    ⟨some 43, .fieldAddr 47 (.tmp 1) 1, 0, "law.go:351", #[], none⟩,
    ⟨some 44, .load 9 (.tmp 43), 9, "law.go:351", #[⟨1, .data⟩], none⟩,
    ⟨some 45, .fieldAddr 47 (.tmp 1) 3, 0, "law.go:351", #[], none⟩,
    ⟨some 46, .load 45 (.tmp 45), 45, "law.go:351", #[⟨3, .data⟩], none⟩,
    ⟨some 47, .call ⟨.value (.func 19), #[.tmp 46], #[45]⟩, 74, "law.go:351", #[⟨4, .data⟩], none⟩,
    ⟨some 48, .move (.tmp 4), 64, "law.go:351", #[], none⟩,
    ⟨some 49, .call ⟨.value (.func 18), #[.tmp 42, .tmp 44, .tmp 47, .tmp 48], #[25, 9, 74, 64]⟩, 72, "law.go:351", #[⟨0, .data⟩, ⟨2, .data⟩, ⟨5, .data⟩, ⟨6, .data⟩, ⟨5, .chain⟩], none⟩,
    ⟨some 41, .move (.tmp 49), 72, "law.go:351", #[⟨7, .data⟩], none⟩,
    ⟨some 50, .extract (.tmp 41) 0, 2, "law.go:351", #[⟨8, .data⟩], none⟩,
    ⟨some 51, .extract (.tmp 41) 1, 3, "law.go:351", #[⟨8, .data⟩, ⟨11, .gcOnly .lateStores⟩], none⟩,
    ⟨some 9, .assign (.tmp 50), 2, "law.go:351", #[⟨9, .data⟩, ⟨7, .chain⟩, ⟨0, .phase⟩, ⟨1, .phase⟩, ⟨2, .phase⟩, ⟨3, .phase⟩, ⟨4, .phase⟩, ⟨5, .phase⟩, ⟨6, .phase⟩, ⟨7, .phase⟩, ⟨8, .phase⟩, ⟨9, .phase⟩, ⟨10, .textOnly .lateStores⟩], none⟩,
    ⟨some 10, .assign (.tmp 51), 3, "law.go:351", #[⟨10, .data⟩, ⟨11, .chain⟩, ⟨0, .phase⟩, ⟨1, .phase⟩, ⟨2, .phase⟩, ⟨3, .phase⟩, ⟨4, .phase⟩, ⟨5, .phase⟩, ⟨6, .phase⟩, ⟨7, .phase⟩, ⟨8, .phase⟩, ⟨9, .phase⟩, ⟨10, .phase⟩, ⟨11, .phase⟩], none⟩]
    [⟨some 42, none, .move (.tmp 3)⟩,
    ⟨some 43, none, .fieldAddr 47 (.tmp 1) 1⟩,
    ⟨some 44, none, .load 9 (.tmp 43)⟩,
    ⟨some 45, none, .fieldAddr 47 (.tmp 1) 3⟩,
    ⟨some 46, none, .load 45 (.tmp 45)⟩,
    ⟨some 47, none, .call ⟨.value (.func 19), #[.tmp 46], #[45]⟩⟩,
    ⟨some 48, none, .move (.tmp 4)⟩,
    ⟨some 49, none, .call ⟨.value (.func 18), #[.tmp 42, .tmp 44, .tmp 47, .tmp 48], #[25, 9, 74, 64]⟩⟩,
    ⟨some 41, none, .move (.tmp 49)⟩,
    ⟨some 50, none, .extract (.tmp 41) 0⟩,
    ⟨some 51, none, .extract (.tmp 41) 1⟩,
    ⟨some 9, none, .assign (.tmp 50)⟩,
    ⟨some 10, none, .assign (.tmp 51)⟩])
  (.seq (.reg [⟨some 53, none, .move (.tmp 3)⟩,
    ⟨some 54, none, .fieldAddr 47 (.tmp 1) 4⟩,
    ⟨some 55, none, .load 2 (.tmp 54)⟩,
    ⟨some 56, none, .call ⟨.value (.func 20), #[.tmp 53, .tmp 55], #[25, 2]⟩⟩,
    ⟨some 52, none, .move (.tmp 56)⟩,
    ⟨some 57, none, .extract (.tmp 52) 0⟩,
    ⟨some 58, none, .extract (.tmp 52) 1⟩,
    ⟨some 11, none, .alloc 57⟩,
    ⟨none, none, .store 57 (.tmp 11) (.tmp 57)⟩,
    ⟨some 12, none, .assign (.tmp 58)⟩])
  (.seq (.reg [⟨some 60, none, .move (.tmp 3)⟩,
    ⟨some 61, none, .fieldAddr 47 (.tmp 1) 1⟩,
    ⟨some 62, none, .load 9 (.tmp 61)⟩,
    ⟨some 63, none, .call ⟨.value (.func 25), #[.tmp 60, .tmp 62], #[25, 9]⟩⟩,
    ⟨some 59, none, .move (.tmp 63)⟩,
    ⟨some 64, none, .extract (.tmp 59) 0⟩,
    ⟨some 65, none, .extract (.tmp 59) 1⟩,
    ⟨some 13, none, .assign (.tmp 64)⟩,
    ⟨some 14, none, .assign (.tmp 65)⟩])
  (.seq (.draw #[⟨some 66, .move (.tmp 7), 2, "law.go:354", #[], none⟩,
    ⟨some 67, .binOp .eql 2 (.tmp 66) (.const (.int .i64 0)) 2, 4, "law.go:354", #[⟨0, .data⟩], none⟩,
    ⟨some 68, .move (.tmp 67), 4, "law.go:354", #[⟨1, .data⟩], none⟩,
    ⟨some 69, .move (.tmp 8), 4, "law.go:354", #[⟨2, .guard⟩], some (2, true)⟩,
    ⟨some 70, .unOp .not 4 (.tmp 69), 4, "law.go:354", #[⟨3, .data⟩, ⟨2, .guard⟩], some (2, true)⟩,
    ⟨some 71, .pick (.tmp 68) (.tmp 70) (.const (.bool false)), 4, "law.go:354", #[⟨2, .data⟩, ⟨4, .data⟩], none⟩,
    ⟨some 72, .move (.tmp 71), 4, "law.go:354", #[⟨5, .data⟩, ⟨2, .chain⟩], none⟩,
    ⟨some 73, .move (.tmp 9), 2, "law.go:354", #[⟨6, .guard⟩], some (6, true)⟩,
    ⟨some 74, .binOp .eql 2 (.tmp 73) (.const (.int .i64 0)) 2, 4, "law.go:354", #[⟨7, .data⟩, ⟨6, .guard⟩], some (6, true)⟩,
    ⟨some 75, .pick (.tmp 72) (.tmp 74) (.const (.bool false)), 4, "law.go:354", #[⟨6, .data⟩, ⟨8, .data⟩], none⟩,
    ⟨some 76, .move (.tmp 75), 4, "law.go:354", #[⟨9, .data⟩, ⟨6, .chain⟩], none⟩,
    ⟨some 77, .move (.tmp 10), 3, "law.go:354", #[⟨10, .guard⟩], some (10, true)⟩,
    ⟨some 78, .binOp .eql 3 (.tmp 77) (.const (.int .i64 4)) 3, 4, "law.go:354", #[⟨11, .data⟩, ⟨10, .guard⟩], some (10, true)⟩,
    ⟨some 79, .pick (.tmp 76) (.tmp 78) (.const (.bool false)), 4, "law.go:354", #[⟨10, .data⟩, ⟨12, .data⟩], none⟩,
    ⟨some 80, .move (.tmp 79), 4, "law.go:354", #[⟨13, .data⟩, ⟨10, .chain⟩], none⟩,
    ⟨some 81, .move (.tmp 12), 4, "law.go:354", #[⟨14, .guard⟩], some (14, true)⟩,
    ⟨some 82, .unOp .not 4 (.tmp 81), 4, "law.go:354", #[⟨15, .data⟩, ⟨14, .guard⟩], some (14, true)⟩,
    ⟨some 83, .pick (.tmp 80) (.tmp 82) (.const (.bool false)), 4, "law.go:354", #[⟨14, .data⟩, ⟨16, .data⟩], none⟩,
    ⟨some 84, .move (.tmp 83), 4, "law.go:354", #[⟨17, .data⟩, ⟨14, .chain⟩], none⟩,
    ⟨some 85, .move (.tmp 13), 2, "law.go:354", #[⟨18, .guard⟩], some (18, true)⟩,
    ⟨some 86, .binOp .eql 2 (.tmp 85) (.const (.int .i64 0)) 2, 4, "law.go:354", #[⟨19, .data⟩, ⟨18, .guard⟩], some (18, true)⟩,
    ⟨some 87, .pick (.tmp 84) (.tmp 86) (.const (.bool false)), 4, "law.go:354", #[⟨18, .data⟩, ⟨20, .data⟩], none⟩,
    ⟨some 88, .move (.tmp 87), 4, "law.go:354", #[⟨21, .data⟩, ⟨18, .chain⟩], none⟩,
    ⟨some 89, .move (.tmp 14), 4, "law.go:354", #[⟨22, .guard⟩], some (22, true)⟩,
    ⟨some 90, .unOp .not 4 (.tmp 89), 4, "law.go:354", #[⟨23, .data⟩, ⟨22, .guard⟩], some (22, true)⟩,
    ⟨some 91, .pick (.tmp 88) (.tmp 90) (.const (.bool false)), 4, "law.go:354", #[⟨22, .data⟩, ⟨24, .data⟩], none⟩,
    ⟨some 92, .move (.tmp 91), 4, "law.go:354", #[⟨25, .data⟩, ⟨22, .chain⟩], none⟩,
    ⟨some 93, .move (.tmp 3), 25, "law.go:354", #[⟨26, .guard⟩], some (26, true)⟩,
    ⟨some 94, .fieldAddr 47 (.tmp 1) 4, 0, "law.go:354", #[⟨26, .guard⟩], some (26, true)⟩,
    ⟨some 95, .load 2 (.tmp 94), 2, "law.go:354", #[⟨28, .data⟩, ⟨26, .guard⟩], some (26, true)⟩,
    ⟨some 96, .fieldAddr 47 (.tmp 1) 3, 0, "law.go:354", #[⟨26, .guard⟩], some (26, true)⟩,
    ⟨some 97, .load 45 (.tmp 96), 45, "law.go:354", #[⟨30, .data⟩, ⟨26, .guard⟩], some (26, true)⟩,
    ⟨some 98, .call ⟨.value (.func 19), #[.tmp 97], #[45]⟩, 74, "law.go:354", #[⟨31, .data⟩, ⟨26, .chain⟩, ⟨26, .guard⟩], some (26, true)⟩,
    ⟨some 99, .call ⟨.value (.func 28), #[.tmp 93, .tmp 95, .tmp 98], #[25, 2, 74]⟩, 26, "law.go:354", #[⟨27, .data⟩, ⟨29, .data⟩, ⟨32, .data⟩, ⟨32, .chain⟩, ⟨26, .guard⟩], some (26, true)⟩,
    ⟨some 100, .binOp .eql 26 (.tmp 99) (.const (.int .i64 1)) 26, 4, "law.go:354", #[⟨33, .data⟩, ⟨26, .guard⟩], some (26, true)⟩,
    ⟨some 101, .pick (.tmp 92) (.tmp 100) (.const (.bool false)), 4, "law.go:354", #[⟨26, .data⟩, ⟨34, .data⟩], none⟩,
    ⟨some 102, .move (.tmp 101), 4, "law.go:354", #[⟨35, .data⟩, ⟨33, .chain⟩], none⟩,
    ⟨some 103, .move (.tmp 3), 25, "law.go:354", #[⟨36, .guard⟩], some (36, true)⟩,
    ⟨some 104, .fieldAddr 47 (.tmp 1) 1, 0, "law.go:354", #[⟨36, .guard⟩], some (36, true)⟩,
    ⟨some 105, .load 9 (.tmp 104), 9, "law.go:354", #[⟨38, .data⟩, ⟨36, .guard⟩], some (36, true)⟩,
    ⟨some 106, .fieldAddr 47 (.tmp 1) 3, 0, "law.go:354", #[⟨36, .guard⟩], some (36, true)⟩,
    ⟨some 107, .load 45 (.tmp 106), 45, "law.go:354", #[⟨40, .data⟩, ⟨36, .guard⟩], some (36, true)⟩,
    ⟨some 108, .call ⟨.value (.func 19), #[.tmp 107], #[45]⟩, 74, "law.go:354", #[⟨41, .data⟩, ⟨36, .chain⟩, ⟨36, .guard⟩], some (36, true)⟩,
    ⟨some 109, .call ⟨.value (.func 29), #[.tmp 103, .tmp 105, .tmp 108], #[25, 9, 74]⟩, 89, "law.go:354", #[⟨37, .data⟩, ⟨39, .data⟩, ⟨42, .data⟩, ⟨42, .chain⟩, ⟨36, .guard⟩], some (36, true)⟩,
    ⟨some 110, .call ⟨.builtin .len, #[.tmp 109], #[89]⟩, 3, "law.go:354", #[⟨43, .data⟩, ⟨36, .guard⟩], some (36, true)⟩,
    ⟨some 111, .binOp .eql 3 (.tmp 110) (.const (.int .i64 0)) 3, 4, "law.go:354", #[⟨44, .data⟩, ⟨36, .guard⟩], some (36, true)⟩,
    ⟨some 112, .pick (.tmp 102) (.tmp 111) (.const (.bool false)), 4, "law.go:354", #[⟨36, .data⟩, ⟨45, .data⟩], none⟩,
    ⟨some 113, .move (.tmp 112), 4, "law.go:354", #[⟨46, .data⟩, ⟨43, .chain⟩], none⟩,
    ⟨some 114, .move (.tmp 3), 25, "law.go:354", #[⟨47, .guard⟩], some (47, true)⟩,
    ⟨some 115, .fieldAddr 47 (.tmp 1) 4, 0, "law.go:354", #[⟨47, .guard⟩], some (47, true)⟩,
    ⟨some 116, .load 2 (.tmp 115), 2, "law.go:354", #[⟨49, .data⟩, ⟨47, .guard⟩], some (47, true)⟩,
    ⟨some 117, .fieldAddr 47 (.tmp 1) 5, 0, "law.go:354", #[⟨47, .guard⟩], some (47, true)⟩,
    ⟨some 118, .load 41 (.tmp 117), 41, "law.go:354", #[⟨51, .data⟩, ⟨47, .guard⟩], some (47, true)⟩,
    ⟨some 119, .call ⟨.value (.func 30), #[.tmp 114, .tmp 116, .tmp 118], #[25, 2, 41]⟩, 26, "law.go:354", #[⟨48, .data⟩, ⟨50, .data⟩, ⟨52, .data⟩, ⟨47, .chain⟩, ⟨47, .guard⟩], some (47, true)⟩,
    ⟨some 120, .binOp .eql 26 (.tmp 119) (.const (.int .i64 1)) 26, 4, "law.go:354", #[⟨53, .data⟩, ⟨47, .guard⟩], some (47, true)⟩,
    ⟨some 121, .pick (.tmp 113) (.tmp 120) (.const (.bool false)), 4, "law.go:354", #[⟨47, .data⟩, ⟨54, .data⟩], none⟩,
    ⟨some 122, .move (.tmp 121), 4, "law.go:354", #[⟨55, .data⟩, ⟨53, .chain⟩], none⟩,
    ⟨some 123, .move (.tmp 3), 25, "law.go:354", #[⟨56, .guard⟩], some (56, true)⟩,
    ⟨some 124, .fieldAddr 47 (.tmp 1) 4, 0, "law.go:354", #[⟨56, .guard⟩], some (56, true)⟩,
    ⟨some 125, .load 2 (.tmp 124), 2, "law.go:354", #[⟨58, .data⟩, ⟨56, .guard⟩], some (56, true)⟩,
    ⟨some 126, .fieldAddr 47 (.tmp 1) 5, 0, "law.go:354", #[⟨56, .guard⟩], some (56, true)⟩,
    ⟨some 127, .load 41 (.tmp 126), 41, "law.go:354", #[⟨60, .data⟩, ⟨56, .guard⟩], some (56, true)⟩,
    ⟨some 128, .call ⟨.value (.func 31), #[.tmp 123, .tmp 125, .tmp 127], #[25, 2, 41]⟩, 26, "law.go:354", #[⟨57, .data⟩, ⟨59, .data⟩, ⟨61, .data⟩, ⟨56, .chain⟩, ⟨56, .guard⟩], some (56, true)⟩,
    ⟨some 129, .binOp .eql 26 (.tmp 128) (.const (.int .i64 1)) 26, 4, "law.go:354", #[⟨62, .data⟩, ⟨56, .guard⟩], some (56, true)⟩,
    ⟨some 130, .pick (.tmp 122) (.tmp 129) (.const (.bool false)), 4, "law.go:354", #[⟨56, .data⟩, ⟨63, .data⟩], none⟩,
    ⟨some 131, .move (.tmp 130), 4, "law.go:354", #[⟨64, .data⟩, ⟨62, .chain⟩], none⟩,
    ⟨some 132, .move (.tmp 3), 25, "law.go:354", #[⟨65, .guard⟩], some (65, true)⟩,
    ⟨some 133, .fieldAddr 47 (.tmp 1) 4, 0, "law.go:354", #[⟨65, .guard⟩], some (65, true)⟩,
    ⟨some 134, .load 2 (.tmp 133), 2, "law.go:354", #[⟨67, .data⟩, ⟨65, .guard⟩], some (65, true)⟩,
    ⟨some 135, .fieldAddr 47 (.tmp 1) 6, 0, "law.go:354", #[⟨65, .guard⟩], some (65, true)⟩,
    ⟨some 136, .load 2 (.tmp 135), 2, "law.go:354", #[⟨69, .data⟩, ⟨65, .guard⟩], some (65, true)⟩,
    ⟨some 137, .fieldAddr 47 (.tmp 1) 7, 0, "law.go:354", #[⟨65, .guard⟩], some (65, true)⟩,
    ⟨some 138, .load 2 (.tmp 137), 2, "law.go:354", #[⟨71, .data⟩, ⟨65, .guard⟩], some (65, true)⟩,
    ⟨some 139, .call ⟨.value (.func 32), #[.tmp 132, .tmp 134, .tmp 136, .tmp 138], #[25, 2, 2, 2]⟩, 26, "law.go:354", #[⟨66, .data⟩, ⟨68, .data⟩, ⟨70, .data⟩, ⟨72, .data⟩, ⟨65, .chain⟩, ⟨65, .guard⟩], some (65, true)⟩,
    ⟨some 140, .binOp .eql 26 (.tmp 139) (.const (.int .i64 1)) 26, 4, "law.go:354", #[⟨73, .data⟩, ⟨65, .guard⟩], some (65, true)⟩,
    ⟨some 141, .pick (.tmp 131) (.tmp 140) (.const (.bool false)), 4, "law.go:354", #[⟨65, .data⟩, ⟨74, .data⟩], none⟩,
    ⟨some 142, .move (.tmp 141), 4, "law.go:354", #[⟨75, .data⟩, ⟨73, .chain⟩], none⟩,
    ⟨some 143, .move (.tmp 3), 25, "law.go:354", #[⟨76, .guard⟩], some (76, true)⟩,
    ⟨some 144, .fieldAddr 47 (.tmp 1) 4, 0, "law.go:354", #[⟨76, .guard⟩], some (76, true)⟩,
    ⟨some 145, .load 2 (.tmp 144), 2, "law.go:354", #[⟨78, .data⟩, ⟨76, .guard⟩], some (76, true)⟩,
    ⟨some 146, .call ⟨.value (.func 33), #[.tmp 143, .tmp 145], #[25, 2]⟩, 4, "law.go:354", #[⟨77, .data⟩, ⟨79, .data⟩, ⟨76, .chain⟩, ⟨76, .guard⟩], some (76, true)⟩,
    ⟨some 147, .unOp .not 4 (.tmp 146), 4, "law.go:354", #[⟨80, .data⟩, ⟨76, .guard⟩], some (76, true)⟩,
    ⟨some 148, .pick (.tmp 142) (.tmp 147) (.const (.bool false)), 4, "law.go:354", #[⟨76, .data⟩, ⟨81, .data⟩], none⟩,
    ⟨some 149, .move (.tmp 148), 4, "law.go:354", #[⟨82, .data⟩, ⟨80, .chain⟩], none⟩,
    ⟨some 150, .move (.tmp 3), 25, "law.go:354", #[⟨83, .guard⟩], some (83, true)⟩,
    ⟨some 151, .call ⟨.value (.func 24), #[.tmp 150], #[25]⟩, 51, "law.go:354", #[⟨84, .data⟩, ⟨83, .chain⟩, ⟨83, .guard⟩], some (83, true)⟩,
    ⟨some 152, .call ⟨.builtin .len, #[.tmp 151], #[51]⟩, 3, "law.go:354", #[⟨85, .data⟩, ⟨83, .guard⟩], some (83, true)⟩,
    ⟨some 153, .binOp .eql 3 (.tmp 152) (.const (.int .i64 0)) 3, 4, "law.go:354", #[⟨86, .data⟩, ⟨83, .guard⟩], some (83, true)⟩,
    ⟨some 154, .pick (.tmp 149) (.tmp 153) (.const (.bool false)), 4, "law.go:354", #[⟨83, .data⟩, ⟨87, .data⟩], none⟩,
    ⟨some 155, .move (.tmp 154), 4, "law.go:354", #[⟨88, .data⟩, ⟨85, .chain⟩], none⟩,
    ⟨some 156, .move (.tmp 3), 25, "law.go:354", #[⟨89, .guard⟩], some (89, true)⟩,
    ⟨some 157, .fieldAddr 47 (.tmp 1) 4, 0, "law.go:354", #[⟨89, .guard⟩], some (89, true)⟩,
    ⟨some 158, .load 2 (.tmp 157), 2, "law.go:354", #[⟨91, .data⟩, ⟨89, .guard⟩], some (89, true)⟩,
    ⟨some 159, .call ⟨.value (.func 34), #[.tmp 156, .tmp 158], #[25, 2]⟩, 95, "law.go:354", #[⟨90, .data⟩, ⟨92, .data⟩, ⟨89, .chain⟩, ⟨89, .guard⟩], some (89, true)⟩,
    ⟨some 160, .call ⟨.value (.func 35), #[.tmp 159], #[95]⟩, 2, "law.go:354", #[⟨93, .data⟩, ⟨93, .chain⟩, ⟨89, .guard⟩], some (89, true)⟩,
    ⟨some 161, .binOp .eql 2 (.tmp 160) (.const (.int .i64 0)) 2, 4, "law.go:354", #[⟨94, .data⟩, ⟨89, .guard⟩], some (89, true)⟩,
    ⟨some 162, .pick (.tmp 155) (.tmp 161) (.const (.bool false)), 4, "law.go:354", #[⟨89, .data⟩, ⟨95, .data⟩], none⟩,
    ⟨some 2, .assign (.tmp 162), 4, "law.go:354", #[⟨96, .data⟩, ⟨94, .chain⟩, ⟨0, .phase⟩, ⟨1, .phase⟩, ⟨2, .phase⟩, ⟨3, .phase⟩, ⟨4, .phase⟩, ⟨5, .phase⟩, ⟨6, .phase⟩, ⟨7, .phase⟩, ⟨8, .phase⟩, ⟨9, .phase⟩, ⟨10, .phase⟩, ⟨11, .phase⟩, ⟨12, .phase⟩, ⟨13, .phase⟩, ⟨14, .phase⟩, ⟨15, .phase⟩, ⟨16, .phase⟩, ⟨17, .phase⟩, ⟨18, .phase⟩, ⟨19, .phase⟩, ⟨20, .phase⟩, ⟨21, .phase⟩, ⟨22, .phase⟩, ⟨23, .phase⟩, ⟨24, .phase⟩, ⟨25, .phase⟩, ⟨26, .phase⟩, ⟨27, .phase⟩, ⟨28, .phase⟩, ⟨29, .phase⟩, ⟨30, .phase⟩, ⟨31, .phase⟩, ⟨32, .phase⟩, ⟨33, .phase⟩, ⟨34, .phase⟩, ⟨35, .phase⟩, ⟨36, .phase⟩, ⟨37, .phase⟩, ⟨38, .phase⟩, ⟨39, .phase⟩, ⟨40, .phase⟩, ⟨41, .phase⟩, ⟨42, .phase⟩, ⟨43, .phase⟩, ⟨44, .phase⟩, ⟨45, .phase⟩, ⟨46, .phase⟩, ⟨47, .phase⟩, ⟨48, .phase⟩, ⟨49, .phase⟩, ⟨50, .phase⟩, ⟨51, .phase⟩, ⟨52, .phase⟩, ⟨53, .phase⟩, ⟨54, .phase⟩, ⟨55, .phase⟩, ⟨56, .phase⟩, ⟨57, .phase⟩, ⟨58, .phase⟩, ⟨59, .phase⟩, ⟨60, .phase⟩, ⟨61, .phase⟩, ⟨62, .phase⟩, ⟨63, .phase⟩, ⟨64, .phase⟩, ⟨65, .phase⟩, ⟨66, .phase⟩, ⟨67, .phase⟩, ⟨68, .phase⟩, ⟨69, .phase⟩, ⟨70, .phase⟩, ⟨71, .phase⟩, ⟨72, .phase⟩, ⟨73, .phase⟩, ⟨74, .phase⟩, ⟨75, .phase⟩, ⟨76, .phase⟩, ⟨77, .phase⟩, ⟨78, .phase⟩, ⟨79, .phase⟩, ⟨80, .phase⟩, ⟨81, .phase⟩, ⟨82, .phase⟩, ⟨83, .phase⟩, ⟨84, .phase⟩, ⟨85, .phase⟩, ⟨86, .phase⟩, ⟨87, .phase⟩, ⟨88, .phase⟩, ⟨89, .phase⟩, ⟨90, .phase⟩, ⟨91, .phase⟩, ⟨92, .phase⟩, ⟨93, .phase⟩, ⟨94, .phase⟩, ⟨95, .phase⟩, ⟨96, .phase⟩], none⟩]
    [⟨some 66, none, .move (.tmp 7)⟩,
    ⟨some 67, none, .binOp .eql 2 (.tmp 66) (.const (.int .i64 0)) 2⟩,
    ⟨some 68, none, .move (.tmp 67)⟩,
    ⟨some 69, some (68, true), .move (.tmp 8)⟩,
    ⟨some 70, some (68, true), .unOp .not 4 (.tmp 69)⟩,
    ⟨some 71, none, .pick (.tmp 68) (.tmp 70) (.const (.bool false))⟩,
    ⟨some 72, none, .move (.tmp 71)⟩,
    ⟨some 73, some (72, true), .move (.tmp 9)⟩,
    ⟨some 74, some (72, true), .binOp .eql 2 (.tmp 73) (.const (.int .i64 0)) 2⟩,
    ⟨some 75, none, .pick (.tmp 72) (.tmp 74) (.const (.bool false))⟩,
    ⟨some 76, none, .move (.tmp 75)⟩,
    ⟨some 77, some (76, true), .move (.tmp 10)⟩,
    ⟨some 78, some (76, true), .binOp .eql 3 (.tmp 77) (.const (.int .i64 4)) 3⟩,
    ⟨some 79, none, .pick (.tmp 76) (.tmp 78) (.const (.bool false))⟩,
    ⟨some 80, none, .move (.tmp 79)⟩,
    ⟨some 81, some (80, true), .move (.tmp 12)⟩,
    ⟨some 82, some (80, true), .unOp .not 4 (.tmp 81)⟩,
    ⟨some 83, none, .pick (.tmp 80) (.tmp 82) (.const (.bool false))⟩,
    ⟨some 84, none, .move (.tmp 83)⟩,
    ⟨some 85, some (84, true), .move (.tmp 13)⟩,
    ⟨some 86, some (84, true), .binOp .eql 2 (.tmp 85) (.const (.int .i64 0)) 2⟩,
    ⟨some 87, none, .pick (.tmp 84) (.tmp 86) (.const (.bool false))⟩,
    ⟨some 88, none, .move (.tmp 87)⟩,
    ⟨some 89, some (88, true), .move (.tmp 14)⟩,
    ⟨some 90, some (88, true), .unOp .not 4 (.tmp 89)⟩,
    ⟨some 91, none, .pick (.tmp 88) (.tmp 90) (.const (.bool false))⟩,
    ⟨some 92, none, .move (.tmp 91)⟩,
    ⟨some 93, some (92, true), .move (.tmp 3)⟩,
    ⟨some 94, some (92, true), .fieldAddr 47 (.tmp 1) 4⟩,
    ⟨some 95, some (92, true), .load 2 (.tmp 94)⟩,
    ⟨some 96, some (92, true), .fieldAddr 47 (.tmp 1) 3⟩,
    ⟨some 97, some (92, true), .load 45 (.tmp 96)⟩,
    ⟨some 98, some (92, true), .call ⟨.value (.func 19), #[.tmp 97], #[45]⟩⟩,
    ⟨some 99, some (92, true), .call ⟨.value (.func 28), #[.tmp 93, .tmp 95, .tmp 98], #[25, 2, 74]⟩⟩,
    ⟨some 100, some (92, true), .binOp .eql 26 (.tmp 99) (.const (.int .i64 1)) 26⟩,
    ⟨some 101, none, .pick (.tmp 92) (.tmp 100) (.const (.bool false))⟩,
    ⟨some 102, none, .move (.tmp 101)⟩,
    ⟨some 103, some (102, true), .move (.tmp 3)⟩,
    ⟨some 104, some (102, true), .fieldAddr 47 (.tmp 1) 1⟩,
    ⟨some 105, some (102, true), .load 9 (.tmp 104)⟩,
    ⟨some 106, some (102, true), .fieldAddr 47 (.tmp 1) 3⟩,
    ⟨some 107, some (102, true), .load 45 (.tmp 106)⟩,
    ⟨some 108, some (102, true), .call ⟨.value (.func 19), #[.tmp 107], #[45]⟩⟩,
    ⟨some 109, some (102, true), .call ⟨.value (.func 29), #[.tmp 103, .tmp 105, .tmp 108], #[25, 9, 74]⟩⟩,
    ⟨some 110, some (102, true), .call ⟨.builtin .len, #[.tmp 109], #[89]⟩⟩,
    ⟨some 111, some (102, true), .binOp .eql 3 (.tmp 110) (.const (.int .i64 0)) 3⟩,
    ⟨some 112, none, .pick (.tmp 102) (.tmp 111) (.const (.bool false))⟩,
    ⟨some 113, none, .move (.tmp 112)⟩,
    ⟨some 114, some (113, true), .move (.tmp 3)⟩,
    ⟨some 115, some (113, true), .fieldAddr 47 (.tmp 1) 4⟩,
    ⟨some 116, some (113, true), .load 2 (.tmp 115)⟩,
    ⟨some 117, some (113, true), .fieldAddr 47 (.tmp 1) 5⟩,
    ⟨some 118, some (113, true), .load 41 (.tmp 117)⟩,
    ⟨some 119, some (113, true), .call ⟨.value (.func 30), #[.tmp 114, .tmp 116, .tmp 118], #[25, 2, 41]⟩⟩,
    ⟨some 120, some (113, true), .binOp .eql 26 (.tmp 119) (.const (.int .i64 1)) 26⟩,
    ⟨some 121, none, .pick (.tmp 113) (.tmp 120) (.const (.bool false))⟩,
    ⟨some 122, none, .move (.tmp 121)⟩,
    ⟨some 123, some (122, true), .move (.tmp 3)⟩,
    ⟨some 124, some (122, true), .fieldAddr 47 (.tmp 1) 4⟩,
    ⟨some 125, some (122, true), .load 2 (.tmp 124)⟩,
    ⟨some 126, some (122, true), .fieldAddr 47 (.tmp 1) 5⟩,
    ⟨some 127, some (122, true), .load 41 (.tmp 126)⟩,
    ⟨some 128, some (122, true), .call ⟨.value (.func 31), #[.tmp 123, .tmp 125, .tmp 127], #[25, 2, 41]⟩⟩,
    ⟨some 129, some (122, true), .binOp .eql 26 (.tmp 128) (.const (.int .i64 1)) 26⟩,
    ⟨some 130, none, .pick (.tmp 122) (.tmp 129) (.const (.bool false))⟩,
    ⟨some 131, none, .move (.tmp 130)⟩,
    ⟨some 132, some (131, true), .move (.tmp 3)⟩,
    ⟨some 133, some (131, true), .fieldAddr 47 (.tmp 1) 4⟩,
    ⟨some 134, some (131, true), .load 2 (.tmp 133)⟩,
    ⟨some 135, some (131, true), .fieldAddr 47 (.tmp 1) 6⟩,
    ⟨some 136, some (131, true), .load 2 (.tmp 135)⟩,
    ⟨some 137, some (131, true), .fieldAddr 47 (.tmp 1) 7⟩,
    ⟨some 138, some (131, true), .load 2 (.tmp 137)⟩,
    ⟨some 139, some (131, true), .call ⟨.value (.func 32), #[.tmp 132, .tmp 134, .tmp 136, .tmp 138], #[25, 2, 2, 2]⟩⟩,
    ⟨some 140, some (131, true), .binOp .eql 26 (.tmp 139) (.const (.int .i64 1)) 26⟩,
    ⟨some 141, none, .pick (.tmp 131) (.tmp 140) (.const (.bool false))⟩,
    ⟨some 142, none, .move (.tmp 141)⟩,
    ⟨some 143, some (142, true), .move (.tmp 3)⟩,
    ⟨some 144, some (142, true), .fieldAddr 47 (.tmp 1) 4⟩,
    ⟨some 145, some (142, true), .load 2 (.tmp 144)⟩,
    ⟨some 146, some (142, true), .call ⟨.value (.func 33), #[.tmp 143, .tmp 145], #[25, 2]⟩⟩,
    ⟨some 147, some (142, true), .unOp .not 4 (.tmp 146)⟩,
    ⟨some 148, none, .pick (.tmp 142) (.tmp 147) (.const (.bool false))⟩,
    ⟨some 149, none, .move (.tmp 148)⟩,
    ⟨some 150, some (149, true), .move (.tmp 3)⟩,
    ⟨some 151, some (149, true), .call ⟨.value (.func 24), #[.tmp 150], #[25]⟩⟩,
    ⟨some 152, some (149, true), .call ⟨.builtin .len, #[.tmp 151], #[51]⟩⟩,
    ⟨some 153, some (149, true), .binOp .eql 3 (.tmp 152) (.const (.int .i64 0)) 3⟩,
    ⟨some 154, none, .pick (.tmp 149) (.tmp 153) (.const (.bool false))⟩,
    ⟨some 155, none, .move (.tmp 154)⟩,
    ⟨some 156, some (155, true), .move (.tmp 3)⟩,
    ⟨some 157, some (155, true), .fieldAddr 47 (.tmp 1) 4⟩,
    ⟨some 158, some (155, true), .load 2 (.tmp 157)⟩,
    ⟨some 159, some (155, true), .call ⟨.value (.func 34), #[.tmp 156, .tmp 158], #[25, 2]⟩⟩,
    ⟨some 160, some (155, true), .call ⟨.value (.func 35), #[.tmp 159], #[95]⟩⟩,
    ⟨some 161, some (155, true), .binOp .eql 2 (.tmp 160) (.const (.int .i64 0)) 2⟩,
    ⟨some 162, none, .pick (.tmp 155) (.tmp 161) (.const (.bool false))⟩,
    ⟨some 2, none, .assign (.tmp 162)⟩])
  .ret)))))))))))
theorem ok8 : FnOk Tryz.prog 8 163 [.tmp 2] c8 := ⟨hmix, Tryz.f8, Tryz.func8, by kernel_rfl, rfl, rfl, by kernel_rfl, by kernel_rfl⟩

/-- mandoline/mandolinelaw42.wakes -/
def c9 : SC := (.seq (.reg [⟨some 0, none, .assign (.const (.bool false))⟩])
  (.seq (.reg [⟨some 14, none, .call ⟨.value (.func 11), #[.const (.slice .none 0 0), .const (.int .i64 1)], #[51, 2]⟩⟩,
    ⟨some 13, none, .move (.tmp 14)⟩,
    ⟨some 15, none, .extract (.tmp 13) 0⟩,
    ⟨some 16, none, .extract (.tmp 13) 1⟩,
    ⟨some 1, none, .assign (.tmp 15)⟩,
    ⟨some 2, none, .assign (.tmp 16)⟩])
  (.seq (.seq (.reg [⟨some 17, none, .move (.tmp 2)⟩,
    ⟨some 18, none, .binOp .neq 26 (.tmp 17) (.const (.int .i64 0)) 26⟩,
    ⟨some 19, none, .move (.tmp 18)⟩,
    ⟨some 20, some (19, false), .move (.tmp 1)⟩,
    ⟨some 21, some (19, false), .binOp .eql 25 (.tmp 20) (.const (.pointer .none)) 25⟩,
    ⟨some 22, none, .pick (.tmp 19) (.const (.bool true)) (.tmp 21)⟩])
  (.cond (.tmp 22)
  (.seq (.reg [⟨some 0, none, .assign (.const (.bool false))⟩])
  .ret)
  .skip))
  (.seq (.reg [⟨some 24, none, .move (.tmp 1)⟩,
    ⟨some 25, none, .call ⟨.value (.func 36), #[.const (.string ⟨#[118, 49]⟩)], #[9]⟩⟩,
    ⟨some 26, none, .build 43 #[(0, .const (.int .i64 200)), (1, .tmp 25)]⟩,
    ⟨some 27, none, .build 74 #[(1, .const (.int .i64 5))]⟩,
    ⟨some 28, none, .call ⟨.value (.func 27), #[.tmp 24, .const (.string ⟨#[47, 111]⟩), .tmp 26, .tmp 27], #[25, 9, 43, 74]⟩⟩,
    ⟨some 23, none, .move (.tmp 28)⟩,
    ⟨some 29, none, .extract (.tmp 23) 0⟩,
    ⟨some 30, none, .extract (.tmp 23) 1⟩,
    ⟨some 3, none, .assign (.tmp 29)⟩,
    ⟨some 4, none, .assign (.tmp 30)⟩])
  (.seq (.reg [⟨some 32, none, .move (.tmp 1)⟩,
    ⟨some 33, none, .call ⟨.value (.func 36), #[.const (.string ⟨#[118, 50]⟩)], #[9]⟩⟩,
    ⟨some 34, none, .build 43 #[(0, .const (.int .i64 200)), (1, .tmp 33)]⟩,
    ⟨some 35, none, .build 74 #[(1, .const (.int .i64 9))]⟩,
    ⟨some 36, none, .call ⟨.value (.func 27), #[.tmp 32, .const (.string ⟨#[47, 111]⟩), .tmp 34, .tmp 35], #[25, 9, 43, 74]⟩⟩,
    ⟨some 31, none, .move (.tmp 36)⟩,
    ⟨some 37, none, .extract (.tmp 31) 0⟩,
    ⟨some 38, none, .extract (.tmp 31) 1⟩,
    ⟨some 5, none, .assign (.tmp 37)⟩,
    ⟨some 6, none, .assign (.tmp 38)⟩])
  (.seq (.reg [⟨some 40, none, .move (.tmp 1)⟩,
    ⟨some 41, none, .call ⟨.value (.func 36), #[.const (.string ⟨#[118, 49]⟩)], #[9]⟩⟩,
    ⟨some 42, none, .build 43 #[(0, .const (.int .i64 200)), (1, .tmp 41)]⟩,
    ⟨some 43, none, .build 74 #[(1, .const (.int .i64 7))]⟩,
    ⟨some 44, none, .call ⟨.value (.func 27), #[.tmp 40, .const (.string ⟨#[47, 111]⟩), .tmp 42, .tmp 43], #[25, 9, 43, 74]⟩⟩,
    ⟨some 39, none, .move (.tmp 44)⟩,
    ⟨some 45, none, .extract (.tmp 39) 0⟩,
    ⟨some 46, none, .extract (.tmp 39) 1⟩,
    ⟨some 7, none, .assign (.tmp 45)⟩,
    ⟨some 8, none, .assign (.tmp 46)⟩])
  (.seq (.reg [⟨some 48, none, .move (.tmp 1)⟩,
    ⟨some 49, none, .call ⟨.value (.func 25), #[.tmp 48, .const (.string ⟨#[47, 111]⟩)], #[25, 9]⟩⟩,
    ⟨some 47, none, .move (.tmp 49)⟩,
    ⟨some 50, none, .extract (.tmp 47) 0⟩,
    ⟨some 51, none, .extract (.tmp 47) 1⟩,
    ⟨some 9, none, .assign (.tmp 50)⟩,
    ⟨some 10, none, .assign (.tmp 51)⟩])
  (.seq (.reg [⟨some 53, none, .move (.tmp 1)⟩,
    ⟨some 54, none, .call ⟨.value (.func 20), #[.tmp 53, .const (.int .i64 1)], #[25, 2]⟩⟩,
    ⟨some 52, none, .move (.tmp 54)⟩,
    ⟨some 55, none, .extract (.tmp 52) 0⟩,
    ⟨some 56, none, .extract (.tmp 52) 1⟩,
    ⟨some 11, none, .alloc 57⟩,
    ⟨none, none, .store 57 (.tmp 11) (.tmp 55)⟩,
    ⟨some 12, none, .assign (.tmp 56)⟩])
  (.seq (.reg [⟨some 57, none, .move (.tmp 3)⟩,
    ⟨some 58, none, .binOp .eql 2 (.tmp 57) (.const (.int .i64 1)) 2⟩,
    ⟨some 59, none, .move (.tmp 58)⟩,
    ⟨some 60, some (59, true), .move (.tmp 4)⟩,
    ⟨some 61, none, .pick (.tmp 59) (.tmp 60) (.const (.bool false))⟩,
    ⟨some 62, none, .move (.tmp 61)⟩,
    ⟨some 63, some (62, true), .move (.tmp 5)⟩,
    ⟨some 64, some (62, true), .binOp .eql 2 (.tmp 63) (.const (.int .i64 2)) 2⟩,
    ⟨some 65, none, .pick (.tmp 62) (.tmp 64) (.const (.bool false))⟩,
    ⟨some 66, none, .move (.tmp 65)⟩,
    ⟨some 67, some (66, true), .move (.tmp 6)⟩,
    ⟨some 68, none, .pick (.tmp 66) (.tmp 67) (.const (.bool false))⟩,
    ⟨some 69, none, .move (.tmp 68)⟩,
    ⟨some 70, some (69, true), .move (.tmp 7)⟩,
    ⟨some 71, some (69, true), .binOp .eql 2 (.tmp 70) (.const (.int .i64 1)) 2⟩,
    ⟨some 72, none, .pick (.tmp 69) (.tmp 71) (.const (.bool false))⟩,
    ⟨some 73, none, .move (.tmp 72)⟩,
    ⟨some 74, some (73, true), .move (.tmp 8)⟩,
    ⟨some 75, some (73, true), .unOp .not 4 (.tmp 74)⟩,
    ⟨some 76, none, .pick (.tmp 73) (.tmp 75) (.const (.bool false))⟩,
    ⟨some 77, none, .move (.tmp 76)⟩,
    ⟨some 78, some (77, true), .move (.tmp 9)⟩,
    ⟨some 79, some (77, true), .binOp .eql 2 (.tmp 78) (.const (.int .i64 2)) 2⟩,
    ⟨some 80, none, .pick (.tmp 77) (.tmp 79) (.const (.bool false))⟩,
    ⟨some 81, none, .move (.tmp 80)⟩,
    ⟨some 82, some (81, true), .move (.tmp 10)⟩,
    ⟨some 83, none, .pick (.tmp 81) (.tmp 82) (.const (.bool false))⟩,
    ⟨some 84, none, .move (.tmp 83)⟩,
    ⟨some 85, some (84, true), .move (.tmp 12)⟩,
    ⟨some 86, none, .pick (.tmp 84) (.tmp 85) (.const (.bool false))⟩,
    ⟨some 87, none, .move (.tmp 86)⟩,
    ⟨some 88, some (87, true), .fieldAddr 57 (.tmp 11) 4⟩,
    ⟨some 89, some (87, true), .load 2 (.tmp 88)⟩,
    ⟨some 90, some (87, true), .binOp .eql 2 (.tmp 89) (.const (.int .i64 7)) 2⟩,
    ⟨some 91, none, .pick (.tmp 87) (.tmp 90) (.const (.bool false))⟩,
    ⟨some 92, none, .move (.tmp 91)⟩,
    ⟨some 93, some (92, true), .fieldAddr 57 (.tmp 11) 6⟩,
    ⟨some 94, some (92, true), .load 4 (.tmp 93)⟩,
    ⟨some 95, none, .pick (.tmp 92) (.tmp 94) (.const (.bool false))⟩,
    ⟨some 0, none, .assign (.tmp 95)⟩])
  .ret)))))))))
theorem ok9 : FnOk Tryz.prog 9 96 [.tmp 0] c9 := ⟨hmix, Tryz.f9, Tryz.func9, by kernel_rfl, rfl, rfl, by kernel_rfl, by kernel_rfl⟩

/-- mandoline/entry.Load -/
def c11 : SC := (.seq (.reg [⟨some 4, none, .assign (.const (.pointer .none))⟩,
    ⟨some 5, none, .assign (.const (.int .i64 0))⟩])
  (.seq (.seq (.reg [⟨some 11, none, .move (.tmp 1)⟩,
    ⟨some 12, none, .binOp .lss 2 (.tmp 11) (.const (.int .i64 1)) 2⟩,
    ⟨some 13, none, .move (.tmp 12)⟩,
    ⟨some 14, some (13, false), .move (.tmp 1)⟩,
    ⟨some 15, some (13, false), .binOp .gtr 2 (.tmp 14) (.const (.int .i64 1099511627776)) 2⟩,
    ⟨some 16, none, .pick (.tmp 13) (.const (.bool true)) (.tmp 15)⟩])
  (.cond (.tmp 16)
  (.seq (.reg [⟨some 4, none, .assign (.const (.pointer .none))⟩,
    ⟨some 5, none, .assign (.const (.int .i64 1))⟩])
  .ret)
  .skip))
  (.seq (.reg [⟨some 17, none, .move (.tmp 1)⟩,
    ⟨some 18, none, .call ⟨.value (.func 38), #[.tmp 17], #[2]⟩⟩,
    ⟨some 6, none, .assign (.tmp 18)⟩])
  (.seq (.seq (.reg [⟨some 19, none, .move (.tmp 0)⟩,
    ⟨some 20, none, .call ⟨.builtin .len, #[.tmp 19], #[51]⟩⟩,
    ⟨some 21, none, .move (.const (.int .i64 0))⟩])
  (.block 0 (.loop (.seq (.reg [⟨some 22, none, .binOp .lss 3 (.tmp 21) (.tmp 20) 3⟩])
  (.seq (.cond (.tmp 22)
  .skip
  (.exit 0))
  (.seq (.block 1 (.seq (.reg [⟨some 23, none, .indexAddr 51 (.tmp 19) (.tmp 21)⟩,
    ⟨some 24, none, .load 57 (.tmp 23)⟩,
    ⟨some 8, none, .alloc 57⟩,
    ⟨none, none, .store 57 (.tmp 8) (.tmp 24)⟩])
  (.seq (.seq (.draw #[⟨some 25, .load 57 (.tmp 8), 57, "entry.go:364", #[], none⟩,
    ⟨some 26, .call ⟨.value (.func 39), #[.tmp 25], #[57]⟩, 4, "entry.go:364", #[⟨0, .data⟩], none⟩,
    ⟨some 27, .unOp .not 4 (.tmp 26), 4, "entry.go:364", #[⟨1, .data⟩], none⟩,
    ⟨some 28, .move (.tmp 27), 4, "entry.go:364", #[⟨2, .data⟩, ⟨1, .chain⟩], none⟩,
    ⟨some 29, .fieldAddr 57 (.tmp 8) 0, 0, "entry.go:364", #[⟨3, .guard⟩], some (3, false)⟩,
    ⟨some 30, .load 2 (.tmp 29), 2, "entry.go:364", #[⟨4, .data⟩, ⟨3, .guard⟩], some (3, false)⟩,
    ⟨some 31, .move (.tmp 1), 2, "entry.go:364", #[⟨3, .guard⟩], some (3, false)⟩,
    ⟨some 32, .binOp .geq 2 (.tmp 30) (.tmp 31) 2, 4, "entry.go:364", #[⟨5, .data⟩, ⟨6, .data⟩, ⟨3, .guard⟩], some (3, false)⟩,
    ⟨some 33, .pick (.tmp 28) (.const (.bool true)) (.tmp 32), 4, "entry.go:364", #[⟨3, .data⟩, ⟨7, .data⟩], none⟩,
    ⟨some 34, .move (.tmp 33), 4, "entry.go:364", #[⟨8, .data⟩, ⟨3, .chain⟩], none⟩,
    ⟨some 35, .move (.tmp 6), 25, "entry.go:364", #[⟨9, .guard⟩], some (9, false)⟩,
    ⟨some 36, .nilCheck (.tmp 35), 0, "entry.go:364", #[⟨10, .data⟩, ⟨9, .guard⟩], some (9, false)⟩,
    ⟨some 37, .fieldAddr 107 (.tmp 36) 0, 0, "entry.go:364", #[⟨11, .data⟩, ⟨9, .guard⟩], some (9, false)⟩,
    ⟨some 38, .load 104 (.tmp 37), 104, "entry.go:364", #[⟨12, .data⟩, ⟨9, .guard⟩], some (9, false)⟩,
    ⟨some 39, .fieldAddr 57 (.tmp 8) 0, 0, "entry.go:364", #[⟨9, .guard⟩], some (9, false)⟩,
    ⟨some 40, .load 2 (.tmp 39), 2, "entry.go:364", #[⟨14, .data⟩, ⟨9, .guard⟩], some (9, false)⟩,
    ⟨some 41, .lookup 104 (.tmp 38) (.tmp 40) false, 103, "entry.go:364", #[⟨13, .data⟩, ⟨15, .data⟩, ⟨9, .guard⟩], some (9, false)⟩,
    ⟨some 42, .binOp .neq 103 (.tmp 41) (.const (.pointer .none)) 103, 4, "entry.go:364", #[⟨16, .data⟩, ⟨9, .guard⟩], some (9, false)⟩,
    ⟨some 43, .pick (.tmp 34) (.const (.bool true)) (.tmp 42), 4, "entry.go:364", #[⟨9, .data⟩, ⟨17, .data⟩], none⟩]
    [⟨some 25, none, .load 57 (.tmp 8)⟩,
    ⟨some 26, none, .call ⟨.value (.func 39), #[.tmp 25], #[57]⟩⟩,
    ⟨some 27, none, .unOp .not 4 (.tmp 26)⟩,
    ⟨some 28, none, .move (.tmp 27)⟩,
    ⟨some 29, some (28, false), .fieldAddr 57 (.tmp 8) 0⟩,
    ⟨some 30, some (28, false), .load 2 (.tmp 29)⟩,
    ⟨some 31, some (28, false), .move (.tmp 1)⟩,
    ⟨some 32, some (28, false), .binOp .geq 2 (.tmp 30) (.tmp 31) 2⟩,
    ⟨some 33, none, .pick (.tmp 28) (.const (.bool true)) (.tmp 32)⟩,
    ⟨some 34, none, .move (.tmp 33)⟩,
    ⟨some 35, some (34, false), .move (.tmp 6)⟩,
    ⟨some 36, some (34, false), .nilCheck (.tmp 35)⟩,
    ⟨some 37, some (34, false), .fieldAddr 107 (.tmp 36) 0⟩,
    ⟨some 38, some (34, false), .load 104 (.tmp 37)⟩,
    ⟨some 39, some (34, false), .fieldAddr 57 (.tmp 8) 0⟩,
    ⟨some 40, some (34, false), .load 2 (.tmp 39)⟩,
    ⟨some 41, some (34, false), .lookup 104 (.tmp 38) (.tmp 40) false⟩,
    ⟨some 42, some (34, false), .binOp .neq 103 (.tmp 41) (.const (.pointer .none)) 103⟩,
    ⟨some 43, none, .pick (.tmp 34) (.const (.bool true)) (.tmp 42)⟩])
  (.cond (.tmp 43)
  (.seq (.reg [⟨some 4, none, .assign (.const (.pointer .none))⟩,
    ⟨some 5, none, .assign (.const (.int .i64 1))⟩])
  .ret)
  .skip))
  (.seq (.reg [⟨some 44, none, .fieldAddr 57 (.tmp 8) 2⟩,
    ⟨some 45, none, .load 39 (.tmp 44)⟩,
    ⟨some 46, none, .call ⟨.value (.func 40), #[.tmp 45], #[39]⟩⟩,
    ⟨some 47, none, .fieldAddr 57 (.tmp 8) 4⟩,
    ⟨none, none, .store 2 (.tmp 47) (.const (.int .i64 0))⟩,
    ⟨some 48, none, .fieldAddr 57 (.tmp 8) 6⟩,
    ⟨none, none, .store 4 (.tmp 48) (.const (.bool false))⟩,
    ⟨some 49, none, .fieldAddr 57 (.tmp 8) 2⟩,
    ⟨none, none, .store 39 (.tmp 49) (.tmp 46)⟩])
  (.seq (.draw #[⟨some 50, .move (.tmp 6), 25, "entry.go:368", #[], none⟩,
    ⟨some 51, .nilCheck (.tmp 50), 0, "entry.go:368", #[⟨0, .data⟩], none⟩,
    ⟨some 52, .fieldAddr 107 (.tmp 51) 0, 0, "entry.go:368", #[⟨1, .data⟩], none⟩,
    ⟨some 53, .load 104 (.tmp 52), 104, "entry.go:368", #[⟨2, .data⟩], none⟩,
    ⟨some 54, .fieldAddr 57 (.tmp 8) 0, 0, "entry.go:368", #[], none⟩,
    ⟨some 55, .load 2 (.tmp 54), 2, "entry.go:368", #[⟨4, .data⟩], none⟩,
    ⟨some 56, .load 57 (.tmp 8), 57, "entry.go:368", #[], none⟩,
    ⟨some 57, .build 110 #[(0, .tmp 56)], 110, "entry.go:368", #[⟨6, .data⟩], none⟩,
    ⟨some 58, .box 110 (.tmp 57), 103, "entry.go:368", #[⟨7, .data⟩], none⟩,
    ⟨none, .mapUpdate 104 (.tmp 53) (.tmp 55) (.tmp 58), 0, "entry.go:368", #[⟨3, .data⟩, ⟨5, .data⟩, ⟨8, .data⟩, ⟨0, .phase⟩, ⟨1, .phase⟩, ⟨2, .phase⟩, ⟨3, .phase⟩, ⟨4, .phase⟩, ⟨5, .phase⟩, ⟨6, .phase⟩, ⟨7, .phase⟩, ⟨8, .phase⟩], none⟩]
    [⟨some 50, none, .move (.tmp 6)⟩,
    ⟨some 51, none, .nilCheck (.tmp 50)⟩,
    ⟨some 52, none, .fieldAddr 107 (.tmp 51) 0⟩,
    ⟨some 53, none, .load 104 (.tmp 52)⟩,
    ⟨some 54, none, .fieldAddr 57 (.tmp 8) 0⟩,
    ⟨some 55, none, .load 2 (.tmp 54)⟩,
    ⟨some 56, none, .load 57 (.tmp 8)⟩,
    ⟨some 57, none, .build 110 #[(0, .tmp 56)]⟩,
    ⟨some 58, none, .box 110 (.tmp 57)⟩,
    ⟨none, none, .mapUpdate 104 (.tmp 53) (.tmp 55) (.tmp 58)⟩])
  (.seq (.draw #[⟨some 60, .move (.tmp 6), 25, "entry.go:369", #[], none⟩,
    ⟨some 61, .nilCheck (.tmp 60), 0, "entry.go:369", #[⟨0, .data⟩], none⟩,
    ⟨some 62, .fieldAddr 107 (.tmp 61) 1, 0, "entry.go:369", #[⟨1, .data⟩], none⟩,
    ⟨some 63, .load 105 (.tmp 62), 105, "entry.go:369", #[⟨2, .data⟩], none⟩,
    ⟨some 64, .fieldAddr 57 (.tmp 8) 1, 0, "entry.go:369", #[], none⟩,
    ⟨some 65, .load 9 (.tmp 64), 9, "entry.go:369", #[⟨4, .data⟩], none⟩,
    ⟨some 66, .lookup 105 (.tmp 63) (.tmp 65) true, 113, "entry.go:369", #[⟨3, .data⟩, ⟨5, .data⟩], none⟩,
    ⟨some 59, .move (.tmp 66), 113, "entry.go:369", #[⟨6, .data⟩], none⟩,
    ⟨some 67, .extract (.tmp 59) 0, 112, "entry.go:369", #[⟨7, .data⟩], none⟩,
    ⟨some 68, .extract (.tmp 59) 1, 4, "entry.go:369", #[⟨7, .data⟩, ⟨11, .gcOnly .lateStores⟩], none⟩,
    ⟨some 9, .alloc 112, 0, "entry.go:369", #[], none⟩,
    ⟨none, .store 112 (.tmp 9) (.tmp 67), 0, "entry.go:369", #[⟨10, .data⟩, ⟨8, .data⟩, ⟨0, .phase⟩, ⟨1, .phase⟩, ⟨2, .phase⟩, ⟨3, .phase⟩, ⟨4, .phase⟩, ⟨5, .phase⟩, ⟨6, .phase⟩, ⟨7, .phase⟩, ⟨8, .phase⟩, ⟨9, .textOnly .lateStores⟩, ⟨10, .phase⟩], none⟩,
    ⟨some 10, .assign (.tmp 68), 4, "entry.go:369", #[⟨9, .data⟩, ⟨11, .chain⟩, ⟨0, .phase⟩, ⟨1, .phase⟩, ⟨2, .phase⟩, ⟨3, .phase⟩, ⟨4, .phase⟩, ⟨5, .phase⟩, ⟨6, .phase⟩, ⟨7, .phase⟩, ⟨8, .phase⟩, ⟨9, .phase⟩, ⟨10, .phase⟩, ⟨11, .phase⟩], none⟩]
    [⟨some 60, none, .move (.tmp 6)⟩,
    ⟨some 61, none, .nilCheck (.tmp 60)⟩,
    ⟨some 62, none, .fieldAddr 107 (.tmp 61) 1⟩,
    ⟨some 63, none, .load 105 (.tmp 62)⟩,
    ⟨some 64, none, .fieldAddr 57 (.tmp 8) 1⟩,
    ⟨some 65, none, .load 9 (.tmp 64)⟩,
    ⟨some 66, none, .lookup 105 (.tmp 63) (.tmp 65) true⟩,
    ⟨some 59, none, .move (.tmp 66)⟩,
    ⟨some 67, none, .extract (.tmp 59) 0⟩,
    ⟨some 68, none, .extract (.tmp 59) 1⟩,
    ⟨some 9, none, .alloc 112⟩,
    ⟨none, none, .store 112 (.tmp 9) (.tmp 67)⟩,
    ⟨some 10, none, .assign (.tmp 68)⟩])
  (.seq (.draw #[⟨some 69, .move (.tmp 10), 4, "entry.go:370", #[], none⟩,
    ⟨some 70, .unOp .not 4 (.tmp 69), 4, "entry.go:370", #[⟨0, .data⟩], none⟩,
    ⟨some 71, .move (.tmp 70), 4, "entry.go:370", #[⟨1, .data⟩], none⟩,
    ⟨some 72, .load 57 (.tmp 8), 57, "entry.go:370", #[⟨2, .guard⟩], some (2, false)⟩,
    ⟨some 73, .move (.tmp 6), 25, "entry.go:370", #[⟨2, .guard⟩], some (2, false)⟩,
    ⟨some 74, .nilCheck (.tmp 73), 0, "entry.go:370", #[⟨4, .data⟩, ⟨2, .guard⟩], some (2, false)⟩,
    ⟨some 75, .fieldAddr 107 (.tmp 74) 0, 0, "entry.go:370", #[⟨5, .data⟩, ⟨2, .guard⟩], some (2, false)⟩,
    ⟨some 76, .load 104 (.tmp 75), 104, "entry.go:370", #[⟨6, .data⟩, ⟨2, .guard⟩], some (2, false)⟩,
    ⟨some 77, .fieldAddr 112 (.tmp 9) 1, 0, "entry.go:370", #[⟨2, .guard⟩], some (2, false)⟩,
    ⟨some 78, .load 2 (.tmp 77), 2, "entry.go:370", #[⟨8, .data⟩, ⟨2, .guard⟩], some (2, false)⟩,
    ⟨some 79, .lookup 104 (.tmp 76) (.tmp 78) false, 103, "entry.go:370", #[⟨7, .data⟩, ⟨9, .data⟩, ⟨2, .guard⟩], some (2, false)⟩,
    ⟨some 80, .nilCheck (.tmp 79), 0, "entry.go:370", #[⟨10, .data⟩, ⟨2, .guard⟩], some (2, false)⟩,
    ⟨some 81, .fieldAddr 110 (.tmp 80) 0, 0, "entry.go:370", #[⟨11, .data⟩, ⟨2, .guard⟩], some (2, false)⟩,
    ⟨some 82, .load 57 (.tmp 81), 57, "entry.go:370", #[⟨12, .data⟩, ⟨2, .guard⟩], some (2, false)⟩,
    ⟨some 83, .call ⟨.value (.func 41), #[.tmp 72, .tmp 82], #[57, 57]⟩, 3, "entry.go:370", #[⟨3, .data⟩, ⟨13, .data⟩, ⟨2, .chain⟩, ⟨2, .guard⟩], some (2, false)⟩,
    ⟨some 84, .binOp .gtr 3 (.tmp 83) (.const (.int .i64 0)) 3, 4, "entry.go:370", #[⟨14, .data⟩, ⟨2, .guard⟩], some (2, false)⟩,
    ⟨some 85, .pick (.tmp 71) (.const (.bool true)) (.tmp 84), 4, "entry.go:370", #[⟨2, .data⟩, ⟨15, .data⟩], none⟩]
    [⟨some 69, none, .move (.tmp 10)⟩,
    ⟨some 70, none, .unOp .not 4 (.tmp 69)⟩,
    ⟨some 71, none, .move (.tmp 70)⟩,
    ⟨some 72, some (71, false), .load 57 (.tmp 8)⟩,
    ⟨some 73, some (71, false), .move (.tmp 6)⟩,
    ⟨some 74, some (71, false), .nilCheck (.tmp 73)⟩,
    ⟨some 75, some (71, false), .fieldAddr 107 (.tmp 74) 0⟩,
    ⟨some 76, some (71, false), .load 104 (.tmp 75)⟩,
    ⟨some 77, some (71, false), .fieldAddr 112 (.tmp 9) 1⟩,
    ⟨some 78, some (71, false), .load 2 (.tmp 77)⟩,
    ⟨some 79, some (71, false), .lookup 104 (.tmp 76) (.tmp 78) false⟩,
    ⟨some 80, some (71, false), .nilCheck (.tmp 79)⟩,
    ⟨some 81, some (71, false), .fieldAddr 110 (.tmp 80) 0⟩,
    ⟨some 82, some (71, false), .load 57 (.tmp 81)⟩,
    ⟨some 83, some (71, false), .call ⟨.value (.func 41), #[.tmp 72, .tmp 82], #[57, 57]⟩⟩,
    ⟨some 84, some (71, false), .binOp .gtr 3 (.tmp 83) (.const (.int .i64 0)) 3⟩,
    ⟨some 85, none, .pick (.tmp 71) (.const (.bool true)) (.tmp 84)⟩])
  (.cond (.tmp 85)
  (.draw #[⟨some 86, .move (.tmp 6), 25, "entry.go:371", #[], none⟩,
    ⟨some 87, .nilCheck (.tmp 86), 0, "entry.go:371", #[⟨0, .data⟩], none⟩,
    ⟨some 88, .fieldAddr 107 (.tmp 87) 1, 0, "entry.go:371", #[⟨1, .data⟩], none⟩,
    ⟨some 89, .load 105 (.tmp 88), 105, "entry.go:371", #[⟨2, .data⟩], none⟩,
    ⟨some 90, .fieldAddr 57 (.tmp 8) 1, 0, "entry.go:371", #[], none⟩,
    ⟨some 91, .load 9 (.tmp 90), 9, "entry.go:371", #[⟨4, .data⟩], none⟩,
    ⟨some 92, .fieldAddr 57 (.tmp 8) 0, 0, "entry.go:371", #[], none⟩,
    ⟨some 93, .load 2 (.tmp 92), 2, "entry.go:371", #[⟨6, .data⟩], none⟩,
    ⟨some 94, .build 112 #[(0, .const (.int .i64 0)), (1, .tmp 93)], 112, "entry.go:371", #[⟨7, .data⟩], none⟩,
    ⟨none, .mapUpdate 105 (.tmp 89) (.tmp 91) (.tmp 94), 0, "entry.go:371", #[⟨3, .data⟩, ⟨5, .data⟩, ⟨8, .data⟩, ⟨0, .phase⟩, ⟨1, .phase⟩, ⟨2, .phase⟩, ⟨3, .phase⟩, ⟨4, .phase⟩, ⟨5, .phase⟩, ⟨6, .phase⟩, ⟨7, .phase⟩, ⟨8, .phase⟩], none⟩]
    [⟨some 86, none, .move (.tmp 6)⟩,
    ⟨some 87, none, .nilCheck (.tmp 86)⟩,
    ⟨some 88, none, .fieldAddr 107 (.tmp 87) 1⟩,
    ⟨some 89, none, .load 105 (.tmp 88)⟩,
    ⟨some 90, none, .fieldAddr 57 (.tmp 8) 1⟩,
    ⟨some 91, none, .load 9 (.tmp 90)⟩,
    ⟨some 92, none, .fieldAddr 57 (.tmp 8) 0⟩,
    ⟨some 93, none, .load 2 (.tmp 92)⟩,
    ⟨some 94, none, .build 112 #[(0, .const (.int .i64 0)), (1, .tmp 93)]⟩,
    ⟨none, none, .mapUpdate 105 (.tmp 89) (.tmp 91) (.tmp 94)⟩])
  .skip))))))))
  (.reg [⟨some 95, none, .binOp .add 3 (.tmp 21) (.const (.int .i64 1)) 3⟩,
    ⟨some 21, none, .move (.tmp 95)⟩])))))))
  (.seq (.reg [⟨some 96, none, .move (.tmp 6)⟩,
    ⟨some 4, none, .assign (.tmp 96)⟩,
    ⟨some 5, none, .assign (.const (.int .i64 0))⟩])
  .ret)))))
theorem ok11 : FnOk Tryz.prog 11 97 [.tmp 4, .tmp 5] c11 := ⟨hmix, Tryz.f11, Tryz.func11, by kernel_rfl, rfl, rfl, by kernel_rfl, by kernel_rfl⟩

/-- mandoline/fresh.held -/
def c68 : SC := (.seq (.reg [⟨some 2, none, .assign (.const (.int .i64 0))⟩])
  (.seq (.reg [⟨some 3, none, .move (.tmp 0)⟩,
    ⟨some 4, none, .call ⟨.builtin .max, #[.tmp 3, .const (.int .i64 0)], #[2, 2]⟩⟩,
    ⟨some 5, none, .call ⟨.builtin .min, #[.tmp 4, .const (.int .i64 1099511627776)], #[2, 2]⟩⟩,
    ⟨some 2, none, .assign (.tmp 5)⟩])
  .ret))
theorem ok68 : FnOk Tryz.prog 68 6 [.tmp 2] c68 := ⟨hmix, Tryz.f68, Tryz.func68, by kernel_rfl, rfl, rfl, by kernel_rfl, by kernel_rfl⟩

/-- slices.Clone[[]mandoline/api.Span,mandoline/api.Span] -/
def c108 : SC := (.seq (.reg [⟨some 2, none, .assign (.const (.slice .none 0 0))⟩])
  (.seq (.seq (.reg [⟨some 3, none, .move (.tmp 0)⟩,
    ⟨some 4, none, .binOp .eql 52 (.tmp 3) (.const (.slice .none 0 0)) 52⟩])
  (.cond (.tmp 4)
  (.seq (.reg [⟨some 2, none, .assign (.const (.slice .none 0 0))⟩])
  .ret)
  .skip))
  (.seq (.reg [⟨some 5, none, .buildSlice 52 0 #[]⟩,
    ⟨some 6, none, .move (.tmp 0)⟩,
    ⟨some 7, none, .call ⟨.builtin .append, #[.tmp 5, .tmp 6], #[52, 52]⟩⟩,
    ⟨some 2, none, .assign (.tmp 7)⟩])
  .ret)))
theorem ok108 : FnOk Tryz.prog 108 8 [.tmp 2] c108 := ⟨hmix, Tryz.f108, Tryz.func108, by kernel_rfl, rfl, rfl, by kernel_rfl, by kernel_rfl⟩
end Go.Eng.Tryz
