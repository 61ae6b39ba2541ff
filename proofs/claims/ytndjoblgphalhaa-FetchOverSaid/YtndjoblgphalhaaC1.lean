/- The code of some functions of the program, stripped to what counts, and facts on its types; written by gen.py. -/
import Derived.Test.YtndjoblgphalhaaE19
import Derived.Test.YtndjoblgphalhaaProg
namespace Go.Eng.Try
open Go.Proofs
set_option maxRecDepth 100000
set_option linter.unusedVariables false

theorem hmix : Try.prog.follows .mixedOrders = true := by kernel_rfl

theorem bs23 : ∀ fr ps, buildV Try.prog 23 fr ps = match fillV Try.prog 23 fr ps [.int .i64 0, .int .i64 0] with | some (g, cs) => some (g, .agg cs) | none => none := fun fr ps => by simp only [buildV]; rfl
theorem bs25 : ∀ fr ps, buildV Try.prog 25 fr ps = match fillV Try.prog 25 fr ps [.str [], .bool false] with | some (g, cs) => some (g, .agg cs) | none => none := fun fr ps => by simp only [buildV]; rfl
theorem bs27 : ∀ fr ps, buildV Try.prog 27 fr ps = match fillV Try.prog 27 fr ps [.str [], .int .i64 0, .int .i64 0, .str [], .bool false, .str [], .bool false] with | some (g, cs) => some (g, .agg cs) | none => none := fun fr ps => by simp only [buildV]; rfl
theorem bs30 : ∀ fr ps, buildV Try.prog 30 fr ps = match fillV Try.prog 30 fr ps [.str [], .bool false, .int .i64 0, .int .i64 0, .int .i64 0, .int .i64 0, .int .i64 0, .int .i64 0, .lst [], .str [], .bool false] with | some (g, cs) => some (g, .agg cs) | none => none := fun fr ps => by simp only [buildV]; rfl
theorem bs32 : ∀ fr ps, buildV Try.prog 32 fr ps = match fillV Try.prog 32 fr ps [.int .i64 0, .str [], .bool false, .int .i64 0, .int .i64 0, .int .i64 0, .int .i64 0, .int .i64 0, .int .i64 0, .lst [], .str [], .bool false, .int .i64 0, .int .i64 0, .int .i64 0] with | some (g, cs) => some (g, .agg cs) | none => none := fun fr ps => by simp only [buildV]; rfl
theorem bs46 : ∀ fr ps, buildV Try.prog 46 fr ps = match fillV Try.prog 46 fr ps [.str [], .int .i64 0, .int .i64 0, .str [], .bool false, .str [], .bool false, .int .i64 0, .int .i64 0, .int .i64 0] with | some (g, cs) => some (g, .agg cs) | none => none := fun fr ps => by simp only [buildV]; rfl
theorem bs74 : ∀ fr ps, buildV Try.prog 74 fr ps = match fillV Try.prog 74 fr ps [.str [], .int .i64 0, .int .i64 0, .str [], .bool false, .str [], .bool false, .int .i64 0, .int .i64 0, .int .i64 0] with | some (g, cs) => some (g, .agg cs) | none => none := fun fr ps => by simp only [buildV]; rfl
theorem eg23 : Try.prog.eqGuardType Try.prog.depth 23 = false := by kernel_rfl
theorem eg25 : Try.prog.eqGuardType Try.prog.depth 25 = false := by kernel_rfl
theorem eq23 : ∀ (a0 b0 : Int) (a1 b1 : Int), eqV Try.prog 8 23 (.agg [.int .i64 a0, .int .i64 a1]) (.agg [.int .i64 b0, .int .i64 b1]) = some ((a0 == b0) && ((a1 == b1) && true)) := fun a0 b0 a1 b1 => by kernel_rfl
theorem eq25 : ∀ (a0 b0 : List UInt8) (a1 b1 : Bool), eqV Try.prog 8 25 (.agg [.str a0, .bool a1]) (.agg [.str b0, .bool b1]) = some ((a0 == b0) && ((a1 == b1) && true)) := fun a0 b0 a1 b1 => by kernel_rfl
theorem eq4 : ∀ (a b : Bool), eqV Try.prog 8 4 (.bool a) (.bool b) = some (a == b) := fun a b => by kernel_rfl
theorem eq41a : eqV Try.prog 8 41 .nilp .nilp = some true := by kernel_rfl
theorem eq41b : ∀ (o k : Nat), eqV Try.prog 8 41 .nilp (.ptr o k) = some false := fun o k => by kernel_rfl
theorem eq41c : ∀ (o k : Nat), eqV Try.prog 8 41 (.ptr o k) .nilp = some false := fun o k => by kernel_rfl
theorem fi23_0 : fieldInfo Try.prog 23 0 = some (0, ⟨.int .i64, 1, false⟩) := by kernel_rfl
theorem fi23_1 : fieldInfo Try.prog 23 1 = some (1, ⟨.int .i64, 1, false⟩) := by kernel_rfl
theorem fi25_0 : fieldInfo Try.prog 25 0 = some (0, ⟨.string, 1, false⟩) := by kernel_rfl
theorem fi25_1 : fieldInfo Try.prog 25 1 = some (1, ⟨.bool, 1, false⟩) := by kernel_rfl
theorem fi27_0 : fieldInfo Try.prog 27 0 = some (0, ⟨.string, 1, false⟩) := by kernel_rfl
theorem fi27_1 : fieldInfo Try.prog 27 1 = some (1, ⟨(Try.prog.underlying 23).getD .invalid, 2, true⟩) := by kernel_rfl
theorem fi27_2 : fieldInfo Try.prog 27 2 = some (3, ⟨(Try.prog.underlying 25).getD .invalid, 2, true⟩) := by kernel_rfl
theorem fi27_3 : fieldInfo Try.prog 27 3 = some (5, ⟨(Try.prog.underlying 25).getD .invalid, 2, true⟩) := by kernel_rfl
theorem fi30_0 : fieldInfo Try.prog 30 0 = some (0, ⟨(Try.prog.underlying 25).getD .invalid, 2, true⟩) := by kernel_rfl
theorem fi30_1 : fieldInfo Try.prog 30 1 = some (2, ⟨.int .i64, 1, false⟩) := by kernel_rfl
theorem fi30_2 : fieldInfo Try.prog 30 2 = some (3, ⟨.int .i64, 1, false⟩) := by kernel_rfl
theorem fi30_3 : fieldInfo Try.prog 30 3 = some (4, ⟨.int .i64, 1, false⟩) := by kernel_rfl
theorem fi30_4 : fieldInfo Try.prog 30 4 = some (5, ⟨.int .i64, 1, false⟩) := by kernel_rfl
theorem fi30_5 : fieldInfo Try.prog 30 5 = some (6, ⟨.int .i64, 1, false⟩) := by kernel_rfl
theorem fi30_6 : fieldInfo Try.prog 30 6 = some (7, ⟨.int .i64, 1, false⟩) := by kernel_rfl
theorem fi30_7 : fieldInfo Try.prog 30 7 = some (8, ⟨.slice 9, 1, false⟩) := by kernel_rfl
theorem fi30_8 : fieldInfo Try.prog 30 8 = some (9, ⟨.string, 1, false⟩) := by kernel_rfl
theorem fi32_0 : fieldInfo Try.prog 32 0 = some (0, ⟨.int .i64, 1, false⟩) := by kernel_rfl
theorem fi32_1 : fieldInfo Try.prog 32 1 = some (1, ⟨(Try.prog.underlying 30).getD .invalid, 11, true⟩) := by kernel_rfl
theorem fi32_2 : fieldInfo Try.prog 32 2 = some (12, ⟨(Try.prog.underlying 23).getD .invalid, 2, true⟩) := by kernel_rfl
theorem fi32_3 : fieldInfo Try.prog 32 3 = some (14, ⟨.int .i64, 1, false⟩) := by kernel_rfl
theorem fi40_0 : fieldInfo Try.prog 40 0 = some (0, ⟨.int .u8, 1, false⟩) := by kernel_rfl
theorem fi40_1 : fieldInfo Try.prog 40 1 = some (1, ⟨(Try.prog.underlying 32).getD .invalid, 15, true⟩) := by kernel_rfl
theorem fi40_2 : fieldInfo Try.prog 40 2 = some (16, ⟨.int .i64, 1, false⟩) := by kernel_rfl
theorem fi40_3 : fieldInfo Try.prog 40 3 = some (17, ⟨.bool, 1, false⟩) := by kernel_rfl
theorem fi46_0 : fieldInfo Try.prog 46 0 = some (0, ⟨(Try.prog.underlying 27).getD .invalid, 7, true⟩) := by kernel_rfl
theorem fi46_1 : fieldInfo Try.prog 46 1 = some (7, ⟨.int .i64, 1, false⟩) := by kernel_rfl
theorem fi46_2 : fieldInfo Try.prog 46 2 = some (8, ⟨(Try.prog.underlying 23).getD .invalid, 2, true⟩) := by kernel_rfl
theorem fi74_0 : fieldInfo Try.prog 74 0 = some (0, ⟨(Try.prog.underlying 27).getD .invalid, 7, true⟩) := by kernel_rfl
theorem fi74_1 : fieldInfo Try.prog 74 1 = some (7, ⟨.int .i64, 1, false⟩) := by kernel_rfl
theorem fi74_2 : fieldInfo Try.prog 74 2 = some (8, ⟨(Try.prog.underlying 23).getD .invalid, 2, true⟩) := by kernel_rfl
theorem ti2 : ti Try.prog 2 = some ⟨.int .i64, 1, false⟩ := by kernel_rfl
theorem ti23 : ti Try.prog 23 = some ⟨(Try.prog.underlying 23).getD .invalid, 2, true⟩ := by kernel_rfl
theorem ti25 : ti Try.prog 25 = some ⟨(Try.prog.underlying 25).getD .invalid, 2, true⟩ := by kernel_rfl
theorem ti27 : ti Try.prog 27 = some ⟨(Try.prog.underlying 27).getD .invalid, 7, true⟩ := by kernel_rfl
theorem ti28 : ti Try.prog 28 = some ⟨.slice 9, 1, false⟩ := by kernel_rfl
theorem ti3 : ti Try.prog 3 = some ⟨.int .i64, 1, false⟩ := by kernel_rfl
theorem ti30 : ti Try.prog 30 = some ⟨(Try.prog.underlying 30).getD .invalid, 11, true⟩ := by kernel_rfl
theorem ti32 : ti Try.prog 32 = some ⟨(Try.prog.underlying 32).getD .invalid, 15, true⟩ := by kernel_rfl
theorem ti4 : ti Try.prog 4 = some ⟨.bool, 1, false⟩ := by kernel_rfl
theorem ti40 : ti Try.prog 40 = some ⟨(Try.prog.underlying 40).getD .invalid, 18, true⟩ := by kernel_rfl
theorem ti46 : ti Try.prog 46 = some ⟨(Try.prog.underlying 46).getD .invalid, 10, true⟩ := by kernel_rfl
theorem ti5 : ti Try.prog 5 = some ⟨.int .u8, 1, false⟩ := by kernel_rfl
theorem ti9 : ti Try.prog 9 = some ⟨.string, 1, false⟩ := by kernel_rfl
theorem und2 : Try.prog.underlying 2 = some (.int .i64) := by kernel_rfl
theorem und21 : Try.prog.underlying 21 = some (.int .i32) := by kernel_rfl
theorem und28 : Try.prog.underlying 28 = some (.slice 9) := by kernel_rfl
theorem und3 : Try.prog.underlying 3 = some (.int .i64) := by kernel_rfl
theorem und38 : Try.prog.underlying 38 = some (.slice 40) := by kernel_rfl
theorem und4 : Try.prog.underlying 4 = some .bool := by kernel_rfl
theorem und41 : Try.prog.underlying 41 = some (.pointer 74) := by kernel_rfl
theorem und63 : Try.prog.underlying 63 = some (.slice 2) := by kernel_rfl
theorem und78 : Try.prog.underlying 78 = some (.map 9 4) := by kernel_rfl
theorem und81 : Try.prog.underlying 81 = some (.func #[21] #[4] false) := by kernel_rfl
theorem und9 : Try.prog.underlying 9 = some .string := by kernel_rfl
theorem zero23 : zeroV Try.prog 23 = some (.agg [.int .i64 0, .int .i64 0]) := by kernel_rfl
theorem zero25 : zeroV Try.prog 25 = some (.agg [.str [], .bool false]) := by kernel_rfl
theorem zero27 : zeroV Try.prog 27 = some (.agg [.str [], .int .i64 0, .int .i64 0, .str [], .bool false, .str [], .bool false]) := by kernel_rfl
theorem zero30 : zeroV Try.prog 30 = some (.agg [.str [], .bool false, .int .i64 0, .int .i64 0, .int .i64 0, .int .i64 0, .int .i64 0, .int .i64 0, .lst [], .str [], .bool false]) := by kernel_rfl
theorem zero32 : zeroV Try.prog 32 = some (.agg [.int .i64 0, .str [], .bool false, .int .i64 0, .int .i64 0, .int .i64 0, .int .i64 0, .int .i64 0, .int .i64 0, .lst [], .str [], .bool false, .int .i64 0, .int .i64 0, .int .i64 0]) := by kernel_rfl
theorem zero4 : zeroV Try.prog 4 = some (.bool false) := by kernel_rfl
theorem zero40 : zeroV Try.prog 40 = some (.agg [.int .u8 0, .int .i64 0, .str [], .bool false, .int .i64 0, .int .i64 0, .int .i64 0, .int .i64 0, .int .i64 0, .int .i64 0, .lst [], .str [], .bool false, .int .i64 0, .int .i64 0, .int .i64 0, .int .i64 0, .bool false]) := by kernel_rfl
theorem zero46 : zeroV Try.prog 46 = some (.agg [.str [], .int .i64 0, .int .i64 0, .str [], .bool false, .str [], .bool false, .int .i64 0, .int .i64 0, .int .i64 0]) := by kernel_rfl
theorem zero74 : zeroV Try.prog 74 = some (.agg [.str [], .int .i64 0, .int .i64 0, .str [], .bool false, .str [], .bool false, .int .i64 0, .int .i64 0, .int .i64 0]) := by kernel_rfl

/-- mandoline/mandolinelaw38.FetchReads -/
def c3 : SC := (.seq (.reg [⟨some 2, none, .box 27 (.tmp 0)⟩,
    ⟨some 3, none, .box 32 (.tmp 1)⟩,
    ⟨some 4, none, .assign (.const (.bool false))⟩])
  (.seq (.seq (.reg [⟨some 5, none, .call ⟨.value (.func 9), #[], #[]⟩⟩,
    ⟨some 6, none, .unOp .not 4 (.tmp 5)⟩])
  (.cond (.tmp 6)
  (.seq (.reg [⟨some 4, none, .assign (.const (.bool false))⟩])
  .ret)
  .skip))
  (.seq (.seq (.reg [⟨some 7, none, .load 27 (.tmp 2)⟩,
    ⟨some 8, none, .call ⟨.value (.func 10), #[.tmp 7], #[27]⟩⟩,
    ⟨some 9, none, .unOp .not 4 (.tmp 8)⟩,
    ⟨some 10, none, .move (.tmp 9)⟩,
    ⟨some 11, some (10, false), .load 32 (.tmp 3)⟩,
    ⟨some 12, some (10, false), .call ⟨.value (.func 11), #[.tmp 11], #[32]⟩⟩,
    ⟨some 13, some (10, false), .unOp .not 4 (.tmp 12)⟩,
    ⟨some 14, none, .pick (.tmp 10) (.const (.bool true)) (.tmp 13)⟩])
  (.cond (.tmp 14)
  (.seq (.reg [⟨some 4, none, .assign (.const (.bool true))⟩])
  .ret)
  .skip))
  (.seq (.draw #[⟨some 15, .load 27 (.tmp 2), 27, "law.go:54", #[], none⟩,
    ⟨some 16, .call ⟨.value (.func 12), #[.tmp 15], #[27]⟩, 4, "law.go:54", #[⟨0, .data⟩], none⟩,
    ⟨some 17, .load 27 (.tmp 2), 27, "law.go:54", #[], none⟩,
    ⟨some 18, .call ⟨.value (.func 13), #[.tmp 17], #[27]⟩, 4, "law.go:54", #[⟨2, .data⟩, ⟨1, .chain⟩], none⟩,
    ⟨some 19, .binOp .eql 4 (.tmp 16) (.tmp 18) 4, 4, "law.go:54", #[⟨1, .data⟩, ⟨3, .data⟩], none⟩,
    ⟨some 20, .move (.tmp 19), 4, "law.go:54", #[⟨4, .data⟩, ⟨3, .chain⟩], none⟩,
    ⟨some 21, .load 27 (.tmp 2), 27, "law.go:54", #[⟨5, .guard⟩], some (5, true)⟩,
    ⟨some 22, .load 32 (.tmp 3), 32, "law.go:54", #[⟨5, .guard⟩], some (5, true)⟩,
    ⟨some 23, .call ⟨.value (.func 14), #[.tmp 21, .tmp 22], #[27, 32]⟩, 3, "law.go:54", #[⟨6, .data⟩, ⟨7, .data⟩, ⟨5, .chain⟩, ⟨5, .guard⟩], some (5, true)⟩,
    ⟨some 24, .load 27 (.tmp 2), 27, "law.go:54", #[⟨5, .guard⟩], some (5, true)⟩,
    ⟨some 25, .load 32 (.tmp 3), 32, "law.go:54", #[⟨5, .guard⟩], some (5, true)⟩,
    ⟨some 26, .call ⟨.value (.func 15), #[.tmp 24, .tmp 25], #[27, 32]⟩, 3, "law.go:54", #[⟨9, .data⟩, ⟨10, .data⟩, ⟨8, .chain⟩, ⟨5, .guard⟩], some (5, true)⟩,
    ⟨some 27, .binOp .eql 3 (.tmp 23) (.tmp 26) 3, 4, "law.go:54", #[⟨8, .data⟩, ⟨11, .data⟩, ⟨5, .guard⟩], some (5, true)⟩,
    ⟨some 28, .pick (.tmp 20) (.tmp 27) (.const (.bool false)), 4, "law.go:54", #[⟨5, .data⟩, ⟨12, .data⟩], none⟩,
    ⟨some 4, .assign (.tmp 28), 4, "law.go:54", #[⟨13, .data⟩, ⟨11, .chain⟩, ⟨0, .phase⟩, ⟨1, .phase⟩, ⟨2, .phase⟩, ⟨3, .phase⟩, ⟨4, .phase⟩, ⟨5, .phase⟩, ⟨6, .phase⟩, ⟨7, .phase⟩, ⟨8, .phase⟩, ⟨9, .phase⟩, ⟨10, .phase⟩, ⟨11, .phase⟩, ⟨12, .phase⟩, ⟨13, .phase⟩], none⟩]
    [⟨some 15, none, .load 27 (.tmp 2)⟩,
    ⟨some 16, none, .call ⟨.value (.func 12), #[.tmp 15], #[27]⟩⟩,
    ⟨some 17, none, .load 27 (.tmp 2)⟩,
    ⟨some 18, none, .call ⟨.value (.func 13), #[.tmp 17], #[27]⟩⟩,
    ⟨some 19, none, .binOp .eql 4 (.tmp 16) (.tmp 18) 4⟩,
    ⟨some 20, none, .move (.tmp 19)⟩,
    ⟨some 21, some (20, true), .load 27 (.tmp 2)⟩,
    ⟨some 22, some (20, true), .load 32 (.tmp 3)⟩,
    ⟨some 23, some (20, true), .call ⟨.value (.func 14), #[.tmp 21, .tmp 22], #[27, 32]⟩⟩,
    ⟨some 24, some (20, true), .load 27 (.tmp 2)⟩,
    ⟨some 25, some (20, true), .load 32 (.tmp 3)⟩,
    ⟨some 26, some (20, true), .call ⟨.value (.func 15), #[.tmp 24, .tmp 25], #[27, 32]⟩⟩,
    ⟨some 27, some (20, true), .binOp .eql 3 (.tmp 23) (.tmp 26) 3⟩,
    ⟨some 28, none, .pick (.tmp 20) (.tmp 27) (.const (.bool false))⟩,
    ⟨some 4, none, .assign (.tmp 28)⟩])
  .ret))))
theorem ok3 : FnOk Try.prog 3 29 [.tmp 4] c3 := ⟨hmix, Try.f3, Try.func3, by kernel_rfl, rfl, rfl, by kernel_rfl, by kernel_rfl⟩

/-- mandoline/mandolinelaw38.FetchPlays -/
def c4 : SC := (.seq (.reg [⟨some 2, none, .box 27 (.tmp 0)⟩,
    ⟨some 4, none, .assign (.const (.bool false))⟩])
  (.seq (.seq (.reg [⟨some 30, none, .call ⟨.value (.func 9), #[], #[]⟩⟩,
    ⟨some 31, none, .unOp .not 4 (.tmp 30)⟩])
  (.cond (.tmp 31)
  (.seq (.reg [⟨some 4, none, .assign (.const (.bool false))⟩])
  .ret)
  .skip))
  (.seq (.seq (.reg [⟨some 32, none, .load 27 (.tmp 2)⟩,
    ⟨some 33, none, .call ⟨.value (.func 10), #[.tmp 32], #[27]⟩⟩,
    ⟨some 34, none, .unOp .not 4 (.tmp 33)⟩,
    ⟨some 35, none, .move (.tmp 34)⟩,
    ⟨some 36, some (35, false), .move (.tmp 1)⟩,
    ⟨some 37, some (35, false), .call ⟨.builtin .len, #[.tmp 36], #[38]⟩⟩,
    ⟨some 38, some (35, false), .binOp .gtr 3 (.tmp 37) (.const (.int .i64 40)) 3⟩,
    ⟨some 39, none, .pick (.tmp 35) (.const (.bool true)) (.tmp 38)⟩])
  (.cond (.tmp 39)
  (.seq (.reg [⟨some 4, none, .assign (.const (.bool true))⟩])
  .ret)
  .skip))
  (.seq (.seq (.reg [⟨some 40, none, .move (.tmp 1)⟩,
    ⟨some 41, none, .call ⟨.builtin .len, #[.tmp 40], #[38]⟩⟩,
    ⟨some 42, none, .move (.const (.int .i64 0))⟩])
  (.block 0 (.loop (.seq (.reg [⟨some 43, none, .binOp .lss 3 (.tmp 42) (.tmp 41) 3⟩])
  (.seq (.cond (.tmp 43)
  .skip
  (.exit 0))
  (.seq (.block 1 (.seq (.reg [⟨some 44, none, .indexAddr 38 (.tmp 40) (.tmp 42)⟩,
    ⟨some 45, none, .load 40 (.tmp 44)⟩,
    ⟨some 6, none, .alloc 40⟩,
    ⟨none, none, .store 40 (.tmp 6) (.tmp 45)⟩])
  (.seq (.reg [⟨some 46, none, .fieldAddr 40 (.tmp 6) 1⟩,
    ⟨some 47, none, .load 32 (.tmp 46)⟩,
    ⟨some 48, none, .call ⟨.value (.func 11), #[.tmp 47], #[32]⟩⟩,
    ⟨some 49, none, .unOp .not 4 (.tmp 48)⟩])
  (.cond (.tmp 49)
  (.seq (.reg [⟨some 4, none, .assign (.const (.bool true))⟩])
  .ret)
  .skip))))
  (.reg [⟨some 50, none, .binOp .add 3 (.tmp 42) (.const (.int .i64 1)) 3⟩,
    ⟨some 42, none, .move (.tmp 50)⟩])))))))
  (.seq (.reg [⟨some 52, none, .load 27 (.tmp 2)⟩,
    ⟨some 53, none, .call ⟨.value (.func 16), #[.tmp 52], #[27]⟩⟩,
    ⟨some 51, none, .move (.tmp 53)⟩,
    ⟨some 54, none, .extract (.tmp 51) 0⟩,
    ⟨some 55, none, .extract (.tmp 51) 1⟩,
    ⟨some 7, none, .assign (.tmp 54)⟩,
    ⟨some 8, none, .assign (.tmp 55)⟩])
  (.seq (.reg [⟨some 57, none, .load 27 (.tmp 2)⟩,
    ⟨some 58, none, .call ⟨.value (.func 17), #[.tmp 57], #[27]⟩⟩,
    ⟨some 56, none, .move (.tmp 58)⟩,
    ⟨some 59, none, .extract (.tmp 56) 0⟩,
    ⟨some 60, none, .extract (.tmp 56) 1⟩,
    ⟨some 9, none, .alloc 46⟩,
    ⟨none, none, .store 46 (.tmp 9) (.tmp 59)⟩,
    ⟨some 10, none, .assign (.tmp 60)⟩])
  (.seq (.seq (.reg [⟨some 61, none, .move (.tmp 8)⟩,
    ⟨some 62, none, .move (.tmp 10)⟩,
    ⟨some 63, none, .binOp .neq 42 (.tmp 61) (.tmp 62) 42⟩,
    ⟨some 64, none, .move (.tmp 63)⟩,
    ⟨some 65, some (64, false), .move (.tmp 8)⟩,
    ⟨some 66, some (64, false), .binOp .neq 42 (.tmp 65) (.const (.int .i64 0)) 42⟩,
    ⟨some 67, none, .pick (.tmp 64) (.const (.bool true)) (.tmp 66)⟩])
  (.cond (.tmp 67)
  (.seq (.reg [⟨some 68, none, .move (.tmp 8)⟩,
    ⟨some 69, none, .move (.tmp 10)⟩,
    ⟨some 70, none, .binOp .eql 42 (.tmp 68) (.tmp 69) 42⟩,
    ⟨some 71, none, .move (.tmp 70)⟩,
    ⟨some 72, some (71, true), .move (.tmp 7)⟩,
    ⟨some 73, some (71, true), .binOp .eql 41 (.tmp 72) (.const (.pointer .none)) 41⟩,
    ⟨some 74, none, .pick (.tmp 71) (.tmp 73) (.const (.bool false))⟩,
    ⟨some 4, none, .assign (.tmp 74)⟩])
  .ret)
  .skip))
  (.seq (.seq (.reg [⟨some 75, none, .move (.tmp 1)⟩,
    ⟨some 76, none, .call ⟨.builtin .len, #[.tmp 75], #[38]⟩⟩,
    ⟨some 77, none, .move (.const (.int .i64 0))⟩])
  (.block 2 (.loop (.seq (.reg [⟨some 78, none, .binOp .lss 3 (.tmp 77) (.tmp 76) 3⟩])
  (.seq (.cond (.tmp 78)
  .skip
  (.exit 2))
  (.seq (.block 3 (.seq (.reg [⟨some 79, none, .indexAddr 38 (.tmp 75) (.tmp 77)⟩,
    ⟨some 80, none, .load 40 (.tmp 79)⟩,
    ⟨some 12, none, .alloc 40⟩,
    ⟨none, none, .store 40 (.tmp 12) (.tmp 80)⟩])
  (.seq (.seq (.reg [⟨some 81, none, .fieldAddr 40 (.tmp 12) 0⟩,
    ⟨some 82, none, .load 5 (.tmp 81)⟩,
    ⟨some 83, none, .binOp .rem 5 (.tmp 82) (.const (.int .u8 3)) 5⟩])
  (.block 4 (.seq (.reg [⟨some 100, none, .binOp .eql 5 (.tmp 83) (.const (.int .u8 0)) 5⟩,
    ⟨some 99, none, .assign (.tmp 100)⟩])
  (.cond (.tmp 99)
  (.seq (.reg [⟨some 102, none, .move (.tmp 7)⟩,
    ⟨some 103, none, .fieldAddr 40 (.tmp 12) 1⟩,
    ⟨some 104, none, .load 32 (.tmp 103)⟩,
    ⟨some 105, none, .call ⟨.value (.func 18), #[.tmp 102, .tmp 104], #[41, 32]⟩⟩,
    ⟨some 101, none, .move (.tmp 105)⟩,
    ⟨some 106, none, .extract (.tmp 101) 0⟩,
    ⟨some 107, none, .extract (.tmp 101) 1⟩,
    ⟨some 13, none, .assign (.tmp 106)⟩,
    ⟨some 14, none, .assign (.tmp 107)⟩])
  (.seq (.reg [⟨some 109, none, .load 46 (.tmp 9)⟩,
    ⟨some 110, none, .fieldAddr 40 (.tmp 12) 1⟩,
    ⟨some 111, none, .load 32 (.tmp 110)⟩,
    ⟨some 112, none, .call ⟨.value (.func 19), #[.tmp 109, .tmp 111], #[46, 32]⟩⟩,
    ⟨some 108, none, .move (.tmp 112)⟩,
    ⟨some 113, none, .extract (.tmp 108) 0⟩,
    ⟨some 114, none, .extract (.tmp 108) 1⟩,
    ⟨some 115, none, .extract (.tmp 108) 2⟩,
    ⟨some 15, none, .alloc 46⟩,
    ⟨none, none, .store 46 (.tmp 15) (.tmp 113)⟩,
    ⟨some 16, none, .assign (.tmp 114)⟩,
    ⟨some 17, none, .assign (.tmp 115)⟩])
  (.seq (.reg [⟨some 116, none, .load 46 (.tmp 15)⟩,
    ⟨none, none, .store 46 (.tmp 9) (.tmp 116)⟩])
  (.seq (.reg [⟨some 117, none, .move (.tmp 13)⟩,
    ⟨some 118, none, .move (.tmp 16)⟩,
    ⟨some 119, none, .binOp .neq 3 (.tmp 117) (.tmp 118) 3⟩,
    ⟨some 120, none, .move (.tmp 119)⟩,
    ⟨some 121, some (120, false), .move (.tmp 14)⟩,
    ⟨some 122, some (120, false), .move (.tmp 17)⟩,
    ⟨some 123, some (120, false), .binOp .neq 42 (.tmp 121) (.tmp 122) 42⟩,
    ⟨some 124, none, .pick (.tmp 120) (.const (.bool true)) (.tmp 123)⟩])
  (.cond (.tmp 124)
  (.seq (.reg [⟨some 4, none, .assign (.const (.bool false))⟩])
  .ret)
  .skip)))))
  (.seq (.reg [⟨some 126, none, .binOp .eql 5 (.tmp 83) (.const (.int .u8 1)) 5⟩,
    ⟨some 125, none, .assign (.tmp 126)⟩])
  (.cond (.tmp 125)
  (.seq (.reg [⟨some 128, none, .move (.tmp 7)⟩,
    ⟨some 129, none, .fieldAddr 40 (.tmp 12) 2⟩,
    ⟨some 130, none, .load 2 (.tmp 129)⟩,
    ⟨some 131, none, .call ⟨.value (.func 20), #[.tmp 128, .tmp 130], #[41, 2]⟩⟩,
    ⟨some 127, none, .move (.tmp 131)⟩,
    ⟨some 132, none, .extract (.tmp 127) 0⟩,
    ⟨some 133, none, .extract (.tmp 127) 1⟩,
    ⟨some 18, none, .alloc 23⟩,
    ⟨none, none, .store 23 (.tmp 18) (.tmp 132)⟩,
    ⟨some 19, none, .assign (.tmp 133)⟩])
  (.seq (.reg [⟨some 135, none, .load 46 (.tmp 9)⟩,
    ⟨some 136, none, .fieldAddr 40 (.tmp 12) 2⟩,
    ⟨some 137, none, .load 2 (.tmp 136)⟩,
    ⟨some 138, none, .call ⟨.value (.func 21), #[.tmp 135, .tmp 137], #[46, 2]⟩⟩,
    ⟨some 134, none, .move (.tmp 138)⟩,
    ⟨some 139, none, .extract (.tmp 134) 0⟩,
    ⟨some 140, none, .extract (.tmp 134) 1⟩,
    ⟨some 141, none, .extract (.tmp 134) 2⟩,
    ⟨some 20, none, .alloc 46⟩,
    ⟨some 21, none, .alloc 23⟩,
    ⟨none, none, .store 46 (.tmp 20) (.tmp 139)⟩,
    ⟨none, none, .store 23 (.tmp 21) (.tmp 140)⟩,
    ⟨some 22, none, .assign (.tmp 141)⟩])
  (.seq (.reg [⟨some 142, none, .load 46 (.tmp 20)⟩,
    ⟨none, none, .store 46 (.tmp 9) (.tmp 142)⟩])
  (.seq (.reg [⟨some 143, none, .load 23 (.tmp 18)⟩,
    ⟨some 144, none, .load 23 (.tmp 21)⟩,
    ⟨some 145, none, .binOp .neq 23 (.tmp 143) (.tmp 144) 23⟩,
    ⟨some 146, none, .move (.tmp 145)⟩,
    ⟨some 147, some (146, false), .move (.tmp 19)⟩,
    ⟨some 148, some (146, false), .move (.tmp 22)⟩,
    ⟨some 149, some (146, false), .binOp .neq 42 (.tmp 147) (.tmp 148) 42⟩,
    ⟨some 150, none, .pick (.tmp 146) (.const (.bool true)) (.tmp 149)⟩])
  (.cond (.tmp 150)
  (.seq (.reg [⟨some 4, none, .assign (.const (.bool false))⟩])
  .ret)
  .skip)))))
  (.seq (.reg [⟨some 84, none, .move (.tmp 7)⟩,
    ⟨some 85, none, .fieldAddr 40 (.tmp 12) 3⟩,
    ⟨some 86, none, .load 4 (.tmp 85)⟩,
    ⟨some 87, none, .call ⟨.value (.func 22), #[.tmp 84, .tmp 86], #[41, 4]⟩⟩,
    ⟨some 23, none, .assign (.tmp 87)⟩])
  (.seq (.reg [⟨some 89, none, .load 46 (.tmp 9)⟩,
    ⟨some 90, none, .fieldAddr 40 (.tmp 12) 3⟩,
    ⟨some 91, none, .load 4 (.tmp 90)⟩,
    ⟨some 92, none, .call ⟨.value (.func 23), #[.tmp 89, .tmp 91], #[46, 4]⟩⟩,
    ⟨some 88, none, .move (.tmp 92)⟩,
    ⟨some 93, none, .extract (.tmp 88) 0⟩,
    ⟨some 94, none, .extract (.tmp 88) 1⟩,
    ⟨some 24, none, .alloc 46⟩,
    ⟨none, none, .store 46 (.tmp 24) (.tmp 93)⟩,
    ⟨some 25, none, .assign (.tmp 94)⟩])
  (.seq (.reg [⟨some 95, none, .load 46 (.tmp 24)⟩,
    ⟨none, none, .store 46 (.tmp 9) (.tmp 95)⟩])
  (.seq (.reg [⟨some 96, none, .move (.tmp 23)⟩,
    ⟨some 97, none, .move (.tmp 25)⟩,
    ⟨some 98, none, .binOp .neq 42 (.tmp 96) (.tmp 97) 42⟩])
  (.cond (.tmp 98)
  (.seq (.reg [⟨some 4, none, .assign (.const (.bool false))⟩])
  .ret)
  .skip)))))))))))
  (.seq (.reg [⟨some 152, none, .move (.tmp 7)⟩,
    ⟨some 153, none, .call ⟨.value (.func 24), #[.tmp 152], #[41]⟩⟩,
    ⟨some 151, none, .move (.tmp 153)⟩,
    ⟨some 154, none, .extract (.tmp 151) 0⟩,
    ⟨some 155, none, .extract (.tmp 151) 1⟩,
    ⟨some 26, none, .alloc 23⟩,
    ⟨none, none, .store 23 (.tmp 26) (.tmp 154)⟩,
    ⟨some 27, none, .assign (.tmp 155)⟩])
  (.seq (.reg [⟨some 157, none, .load 46 (.tmp 9)⟩,
    ⟨some 158, none, .call ⟨.value (.func 25), #[.tmp 157], #[46]⟩⟩,
    ⟨some 156, none, .move (.tmp 158)⟩,
    ⟨some 159, none, .extract (.tmp 156) 0⟩,
    ⟨some 160, none, .extract (.tmp 156) 1⟩,
    ⟨some 28, none, .alloc 23⟩,
    ⟨none, none, .store 23 (.tmp 28) (.tmp 159)⟩,
    ⟨some 29, none, .assign (.tmp 160)⟩])
  (.seq (.draw #[⟨some 161, .load 23 (.tmp 26), 23, "law.go:109", #[], none⟩,
    ⟨some 162, .load 23 (.tmp 28), 23, "law.go:109", #[], none⟩,
    ⟨some 163, .binOp .neq 23 (.tmp 161) (.tmp 162) 23, 4, "law.go:109", #[⟨0, .data⟩, ⟨1, .data⟩], none⟩,
    ⟨some 164, .move (.tmp 163), 4, "law.go:109", #[⟨2, .data⟩], none⟩,
    ⟨some 165, .move (.tmp 27), 4, "law.go:109", #[⟨3, .guard⟩], some (3, false)⟩,
    ⟨some 166, .move (.tmp 29), 4, "law.go:109", #[⟨3, .guard⟩], some (3, false)⟩,
    ⟨some 167, .binOp .neq 4 (.tmp 165) (.tmp 166) 4, 4, "law.go:109", #[⟨4, .data⟩, ⟨5, .data⟩, ⟨3, .guard⟩], some (3, false)⟩,
    ⟨some 168, .pick (.tmp 164) (.const (.bool true)) (.tmp 167), 4, "law.go:109", #[⟨3, .data⟩, ⟨6, .data⟩], none⟩,
    ⟨some 169, .move (.tmp 168), 4, "law.go:109", #[⟨7, .data⟩, ⟨3, .chain⟩], none⟩,
    ⟨some 170, .move (.tmp 7), 41, "law.go:109", #[⟨8, .guard⟩], some (8, false)⟩,
    ⟨some 171, .call ⟨.value (.func 26), #[.tmp 170], #[41]⟩, 4, "law.go:109", #[⟨9, .data⟩, ⟨8, .chain⟩, ⟨8, .guard⟩], some (8, false)⟩,
    ⟨some 172, .fieldAddr 46 (.tmp 9) 1, 0, "law.go:109", #[⟨8, .guard⟩], some (8, false)⟩,
    ⟨some 173, .load 3 (.tmp 172), 3, "law.go:109", #[⟨11, .data⟩, ⟨8, .guard⟩], some (8, false)⟩,
    ⟨some 174, .binOp .eql 3 (.tmp 173) (.const (.int .i64 2)) 3, 4, "law.go:109", #[⟨12, .data⟩, ⟨8, .guard⟩], some (8, false)⟩,
    ⟨some 175, .binOp .neq 4 (.tmp 171) (.tmp 174) 4, 4, "law.go:109", #[⟨10, .data⟩, ⟨13, .data⟩, ⟨8, .guard⟩], some (8, false)⟩,
    ⟨some 176, .pick (.tmp 169) (.const (.bool true)) (.tmp 175), 4, "law.go:109", #[⟨8, .data⟩, ⟨14, .data⟩], none⟩]
    [⟨some 161, none, .load 23 (.tmp 26)⟩,
    ⟨some 162, none, .load 23 (.tmp 28)⟩,
    ⟨some 163, none, .binOp .neq 23 (.tmp 161) (.tmp 162) 23⟩,
    ⟨some 164, none, .move (.tmp 163)⟩,
    ⟨some 165, some (164, false), .move (.tmp 27)⟩,
    ⟨some 166, some (164, false), .move (.tmp 29)⟩,
    ⟨some 167, some (164, false), .binOp .neq 4 (.tmp 165) (.tmp 166) 4⟩,
    ⟨some 168, none, .pick (.tmp 164) (.const (.bool true)) (.tmp 167)⟩,
    ⟨some 169, none, .move (.tmp 168)⟩,
    ⟨some 170, some (169, false), .move (.tmp 7)⟩,
    ⟨some 171, some (169, false), .call ⟨.value (.func 26), #[.tmp 170], #[41]⟩⟩,
    ⟨some 172, some (169, false), .fieldAddr 46 (.tmp 9) 1⟩,
    ⟨some 173, some (169, false), .load 3 (.tmp 172)⟩,
    ⟨some 174, some (169, false), .binOp .eql 3 (.tmp 173) (.const (.int .i64 2)) 3⟩,
    ⟨some 175, some (169, false), .binOp .neq 4 (.tmp 171) (.tmp 174) 4⟩,
    ⟨some 176, none, .pick (.tmp 169) (.const (.bool true)) (.tmp 175)⟩])
  (.cond (.tmp 176)
  (.seq (.reg [⟨some 4, none, .assign (.const (.bool false))⟩])
  .ret)
  .skip)))))))
  (.reg [⟨some 177, none, .binOp .add 3 (.tmp 77) (.const (.int .i64 1)) 3⟩,
    ⟨some 77, none, .move (.tmp 177)⟩])))))))
  (.seq (.reg [⟨some 4, none, .assign (.const (.bool true))⟩])
  .ret)))))))))
theorem ok4 : FnOk Try.prog 4 178 [.tmp 4] c4 := ⟨hmix, Try.f4, Try.func4, by kernel_rfl, rfl, rfl, by kernel_rfl, by kernel_rfl⟩

/-- mandoline/mandolinelaw38.FetchGoes -/
def c5 : SC := (.seq (.reg [⟨some 3, none, .box 27 (.tmp 0)⟩,
    ⟨some 4, none, .box 32 (.tmp 1)⟩,
    ⟨some 6, none, .assign (.const (.bool false))⟩])
  (.seq (.seq (.reg [⟨some 16, none, .call ⟨.value (.func 9), #[], #[]⟩⟩,
    ⟨some 17, none, .unOp .not 4 (.tmp 16)⟩])
  (.cond (.tmp 17)
  (.seq (.reg [⟨some 6, none, .assign (.const (.bool false))⟩])
  .ret)
  .skip))
  (.seq (.seq (.reg [⟨some 18, none, .load 27 (.tmp 3)⟩,
    ⟨some 19, none, .call ⟨.value (.func 10), #[.tmp 18], #[27]⟩⟩,
    ⟨some 20, none, .unOp .not 4 (.tmp 19)⟩,
    ⟨some 21, none, .move (.tmp 20)⟩,
    ⟨some 22, some (21, false), .load 32 (.tmp 4)⟩,
    ⟨some 23, some (21, false), .call ⟨.value (.func 11), #[.tmp 22], #[32]⟩⟩,
    ⟨some 24, some (21, false), .unOp .not 4 (.tmp 23)⟩,
    ⟨some 25, none, .pick (.tmp 21) (.const (.bool true)) (.tmp 24)⟩,
    ⟨some 26, none, .move (.tmp 25)⟩,
    ⟨some 27, some (26, false), .move (.tmp 2)⟩,
    ⟨some 28, some (26, false), .call ⟨.builtin .len, #[.tmp 27], #[63]⟩⟩,
    ⟨some 29, some (26, false), .binOp .gtr 3 (.tmp 28) (.const (.int .i64 60)) 3⟩,
    ⟨some 30, none, .pick (.tmp 26) (.const (.bool true)) (.tmp 29)⟩,
    ⟨some 31, none, .move (.tmp 30)⟩,
    ⟨some 32, some (31, false), .load 27 (.tmp 3)⟩,
    ⟨some 33, some (31, false), .load 32 (.tmp 4)⟩,
    ⟨some 34, some (31, false), .call ⟨.value (.func 15), #[.tmp 32, .tmp 33], #[27, 32]⟩⟩,
    ⟨some 35, some (31, false), .binOp .neq 3 (.tmp 34) (.const (.int .i64 1)) 3⟩,
    ⟨some 36, none, .pick (.tmp 31) (.const (.bool true)) (.tmp 35)⟩])
  (.cond (.tmp 36)
  (.seq (.reg [⟨some 6, none, .assign (.const (.bool true))⟩])
  .ret)
  .skip))
  (.seq (.reg [⟨some 38, none, .load 27 (.tmp 3)⟩,
    ⟨some 39, none, .call ⟨.value (.func 16), #[.tmp 38], #[27]⟩⟩,
    ⟨some 37, none, .move (.tmp 39)⟩,
    ⟨some 40, none, .extract (.tmp 37) 0⟩,
    ⟨some 41, none, .extract (.tmp 37) 1⟩,
    ⟨some 7, none, .assign (.tmp 40)⟩,
    ⟨some 8, none, .assign (.tmp 41)⟩])
  (.seq (.seq (.reg [⟨some 42, none, .move (.tmp 8)⟩,
    ⟨some 43, none, .binOp .neq 42 (.tmp 42) (.const (.int .i64 0)) 42⟩,
    ⟨some 44, none, .move (.tmp 43)⟩,
    ⟨some 45, some (44, false), .move (.tmp 7)⟩,
    ⟨some 46, some (44, false), .binOp .eql 41 (.tmp 45) (.const (.pointer .none)) 41⟩,
    ⟨some 47, none, .pick (.tmp 44) (.const (.bool true)) (.tmp 46)⟩])
  (.cond (.tmp 47)
  (.seq (.reg [⟨some 6, none, .assign (.const (.bool false))⟩])
  .ret)
  .skip))
  (.seq (.reg [⟨some 48, none, .move (.tmp 7)⟩,
    ⟨some 49, none, .load 32 (.tmp 4)⟩,
    ⟨some 50, none, .call ⟨.value (.func 18), #[.tmp 48, .tmp 49], #[41, 32]⟩⟩])
  (.seq (.reg [⟨some 51, none, .fieldAddr 32 (.tmp 4) 2⟩,
    ⟨some 52, none, .fieldAddr 23 (.tmp 51) 0⟩,
    ⟨some 53, none, .load 2 (.tmp 52)⟩,
    ⟨some 9, none, .assign (.tmp 53)⟩])
  (.seq (.seq (.reg [⟨some 54, none, .move (.tmp 2)⟩,
    ⟨some 55, none, .call ⟨.builtin .len, #[.tmp 54], #[63]⟩⟩,
    ⟨some 56, none, .move (.const (.int .i64 0))⟩])
  (.block 0 (.loop (.seq (.reg [⟨some 57, none, .binOp .lss 3 (.tmp 56) (.tmp 55) 3⟩])
  (.seq (.cond (.tmp 57)
  .skip
  (.exit 0))
  (.seq (.block 1 (.seq (.reg [⟨some 58, none, .indexAddr 63 (.tmp 54) (.tmp 56)⟩,
    ⟨some 59, none, .load 2 (.tmp 58)⟩,
    ⟨some 11, none, .assign (.tmp 59)⟩])
  (.seq (.reg [⟨some 61, none, .move (.tmp 7)⟩,
    ⟨some 62, none, .move (.tmp 11)⟩,
    ⟨some 63, none, .call ⟨.value (.func 20), #[.tmp 61, .tmp 62], #[41, 2]⟩⟩,
    ⟨some 60, none, .move (.tmp 63)⟩,
    ⟨some 64, none, .extract (.tmp 60) 0⟩,
    ⟨some 65, none, .extract (.tmp 60) 1⟩,
    ⟨some 12, none, .alloc 23⟩,
    ⟨none, none, .store 23 (.tmp 12) (.tmp 64)⟩,
    ⟨some 13, none, .assign (.tmp 65)⟩])
  (.seq (.seq (.reg [⟨some 66, none, .move (.tmp 13)⟩,
    ⟨some 67, none, .binOp .neq 42 (.tmp 66) (.const (.int .i64 0)) 42⟩])
  (.cond (.tmp 67)
  (.seq (.seq (.reg [⟨some 68, none, .move (.tmp 11)⟩,
    ⟨some 69, none, .binOp .geq 2 (.tmp 68) (.const (.int .i64 1)) 2⟩,
    ⟨some 70, none, .move (.tmp 69)⟩,
    ⟨some 71, some (70, true), .move (.tmp 11)⟩,
    ⟨some 72, some (70, true), .fieldAddr 32 (.tmp 4) 2⟩,
    ⟨some 73, some (70, true), .fieldAddr 23 (.tmp 72) 1⟩,
    ⟨some 74, some (70, true), .load 2 (.tmp 73)⟩,
    ⟨some 75, some (70, true), .move (.tmp 9)⟩,
    ⟨some 76, some (70, true), .binOp .sub 2 (.tmp 74) (.tmp 75) 2⟩,
    ⟨some 77, some (70, true), .binOp .leq 2 (.tmp 71) (.tmp 76) 2⟩,
    ⟨some 78, none, .pick (.tmp 70) (.tmp 77) (.const (.bool false))⟩])
  (.cond (.tmp 78)
  (.seq (.reg [⟨some 6, none, .assign (.const (.bool false))⟩])
  .ret)
  .skip))
  (.exit 1))
  .skip))
  (.seq (.seq (.reg [⟨some 79, none, .move (.tmp 11)⟩,
    ⟨some 80, none, .binOp .lss 2 (.tmp 79) (.const (.int .i64 1)) 2⟩,
    ⟨some 81, none, .move (.tmp 80)⟩,
    ⟨some 82, some (81, false), .fieldAddr 23 (.tmp 12) 0⟩,
    ⟨some 83, some (81, false), .load 2 (.tmp 82)⟩,
    ⟨some 84, some (81, false), .move (.tmp 9)⟩,
    ⟨some 85, some (81, false), .binOp .neq 2 (.tmp 83) (.tmp 84) 2⟩,
    ⟨some 86, none, .pick (.tmp 81) (.const (.bool true)) (.tmp 85)⟩,
    ⟨some 87, none, .move (.tmp 86)⟩,
    ⟨some 88, some (87, false), .fieldAddr 23 (.tmp 12) 1⟩,
    ⟨some 89, some (87, false), .load 2 (.tmp 88)⟩,
    ⟨some 90, some (87, false), .fieldAddr 23 (.tmp 12) 0⟩,
    ⟨some 91, some (87, false), .load 2 (.tmp 90)⟩,
    ⟨some 92, some (87, false), .binOp .sub 2 (.tmp 89) (.tmp 91) 2⟩,
    ⟨some 93, some (87, false), .move (.tmp 11)⟩,
    ⟨some 94, some (87, false), .binOp .neq 2 (.tmp 92) (.tmp 93) 2⟩,
    ⟨some 95, none, .pick (.tmp 87) (.const (.bool true)) (.tmp 94)⟩,
    ⟨some 96, none, .move (.tmp 95)⟩,
    ⟨some 97, some (96, false), .fieldAddr 23 (.tmp 12) 1⟩,
    ⟨some 98, some (96, false), .load 2 (.tmp 97)⟩,
    ⟨some 99, some (96, false), .fieldAddr 32 (.tmp 4) 2⟩,
    ⟨some 100, some (96, false), .fieldAddr 23 (.tmp 99) 1⟩,
    ⟨some 101, some (96, false), .load 2 (.tmp 100)⟩,
    ⟨some 102, some (96, false), .binOp .gtr 2 (.tmp 98) (.tmp 101) 2⟩,
    ⟨some 103, none, .pick (.tmp 96) (.const (.bool true)) (.tmp 102)⟩])
  (.cond (.tmp 103)
  (.seq (.reg [⟨some 6, none, .assign (.const (.bool false))⟩])
  .ret)
  .skip))
  (.reg [⟨some 104, none, .fieldAddr 23 (.tmp 12) 1⟩,
    ⟨some 105, none, .load 2 (.tmp 104)⟩,
    ⟨some 9, none, .assign (.tmp 105)⟩]))))))
  (.reg [⟨some 106, none, .binOp .add 3 (.tmp 56) (.const (.int .i64 1)) 3⟩,
    ⟨some 56, none, .move (.tmp 106)⟩])))))))
  (.seq (.reg [⟨some 108, none, .move (.tmp 7)⟩,
    ⟨some 109, none, .call ⟨.value (.func 24), #[.tmp 108], #[41]⟩⟩,
    ⟨some 107, none, .move (.tmp 109)⟩,
    ⟨some 110, none, .extract (.tmp 107) 0⟩,
    ⟨some 111, none, .extract (.tmp 107) 1⟩,
    ⟨some 14, none, .alloc 23⟩,
    ⟨none, none, .store 23 (.tmp 14) (.tmp 110)⟩,
    ⟨some 15, none, .assign (.tmp 111)⟩])
  (.seq (.seq (.reg [⟨some 112, none, .move (.tmp 15)⟩,
    ⟨some 113, none, .move (.tmp 9)⟩,
    ⟨some 114, none, .fieldAddr 32 (.tmp 4) 2⟩,
    ⟨some 115, none, .fieldAddr 23 (.tmp 114) 1⟩,
    ⟨some 116, none, .load 2 (.tmp 115)⟩,
    ⟨some 117, none, .binOp .lss 2 (.tmp 113) (.tmp 116) 2⟩,
    ⟨some 118, none, .binOp .neq 4 (.tmp 112) (.tmp 117) 4⟩,
    ⟨some 119, none, .move (.tmp 118)⟩,
    ⟨some 120, some (119, false), .move (.tmp 15)⟩,
    ⟨some 121, some (119, false), .move (.tmp 120)⟩,
    ⟨some 122, some (121, true), .fieldAddr 23 (.tmp 14) 0⟩,
    ⟨some 123, some (121, true), .load 2 (.tmp 122)⟩,
    ⟨some 124, some (121, true), .move (.tmp 9)⟩,
    ⟨some 125, some (121, true), .binOp .neq 2 (.tmp 123) (.tmp 124) 2⟩,
    ⟨some 126, some (121, true), .move (.tmp 125)⟩,
    ⟨some 127, some (126, false), .fieldAddr 23 (.tmp 14) 1⟩,
    ⟨some 128, some (126, false), .load 2 (.tmp 127)⟩,
    ⟨some 129, some (126, false), .fieldAddr 32 (.tmp 4) 2⟩,
    ⟨some 130, some (126, false), .fieldAddr 23 (.tmp 129) 1⟩,
    ⟨some 131, some (126, false), .load 2 (.tmp 130)⟩,
    ⟨some 132, some (126, false), .binOp .neq 2 (.tmp 128) (.tmp 131) 2⟩,
    ⟨some 133, some (121, true), .pick (.tmp 126) (.const (.bool true)) (.tmp 132)⟩,
    ⟨some 134, some (119, false), .pick (.tmp 121) (.tmp 133) (.const (.bool false))⟩,
    ⟨some 135, none, .pick (.tmp 119) (.const (.bool true)) (.tmp 134)⟩])
  (.cond (.tmp 135)
  (.seq (.reg [⟨some 6, none, .assign (.const (.bool false))⟩])
  .ret)
  .skip))
  (.seq (.draw #[⟨some 136, .move (.tmp 7), 41, "law.go:147", #[], none⟩,
    ⟨some 137, .call ⟨.value (.func 22), #[.tmp 136, .const (.bool true)], #[41, 4]⟩, 42, "law.go:147", #[⟨0, .data⟩], none⟩,
    ⟨some 138, .binOp .eql 42 (.tmp 137) (.const (.int .i64 0)) 42, 4, "law.go:147", #[⟨1, .data⟩], none⟩,
    ⟨some 139, .move (.tmp 9), 2, "law.go:147", #[], none⟩,
    ⟨some 140, .fieldAddr 32 (.tmp 4) 2, 0, "law.go:147", #[], none⟩,
    ⟨some 141, .fieldAddr 23 (.tmp 140) 1, 0, "law.go:147", #[⟨4, .data⟩], none⟩,
    ⟨some 142, .load 2 (.tmp 141), 2, "law.go:147", #[⟨5, .data⟩], none⟩,
    ⟨some 143, .binOp .eql 2 (.tmp 139) (.tmp 142) 2, 4, "law.go:147", #[⟨3, .data⟩, ⟨6, .data⟩], none⟩,
    ⟨some 144, .move (.tmp 143), 4, "law.go:147", #[⟨7, .data⟩, ⟨1, .chain⟩], none⟩,
    ⟨some 145, .fieldAddr 32 (.tmp 4) 2, 0, "law.go:147", #[⟨8, .guard⟩], some (8, false)⟩,
    ⟨some 146, .fieldAddr 23 (.tmp 145) 1, 0, "law.go:147", #[⟨9, .data⟩, ⟨8, .guard⟩], some (8, false)⟩,
    ⟨some 147, .load 2 (.tmp 146), 2, "law.go:147", #[⟨10, .data⟩, ⟨8, .guard⟩], some (8, false)⟩,
    ⟨some 148, .binOp .eql 2 (.tmp 147) (.const (.int .i64 4611686018427387904)) 2, 4, "law.go:147", #[⟨11, .data⟩, ⟨8, .guard⟩], some (8, false)⟩,
    ⟨some 149, .pick (.tmp 144) (.const (.bool true)) (.tmp 148), 4, "law.go:147", #[⟨8, .data⟩, ⟨12, .data⟩], none⟩,
    ⟨some 150, .binOp .eql 4 (.tmp 138) (.tmp 149) 4, 4, "law.go:147", #[⟨2, .data⟩, ⟨13, .data⟩], none⟩,
    ⟨some 6, .assign (.tmp 150), 4, "law.go:147", #[⟨14, .data⟩, ⟨8, .chain⟩, ⟨0, .phase⟩, ⟨1, .phase⟩, ⟨2, .phase⟩, ⟨3, .phase⟩, ⟨4, .phase⟩, ⟨5, .phase⟩, ⟨6, .phase⟩, ⟨7, .phase⟩, ⟨8, .phase⟩, ⟨9, .phase⟩, ⟨10, .phase⟩, ⟨11, .phase⟩, ⟨12, .phase⟩, ⟨13, .phase⟩, ⟨14, .phase⟩], none⟩]
    [⟨some 136, none, .move (.tmp 7)⟩,
    ⟨some 137, none, .call ⟨.value (.func 22), #[.tmp 136, .const (.bool true)], #[41, 4]⟩⟩,
    ⟨some 138, none, .binOp .eql 42 (.tmp 137) (.const (.int .i64 0)) 42⟩,
    ⟨some 139, none, .move (.tmp 9)⟩,
    ⟨some 140, none, .fieldAddr 32 (.tmp 4) 2⟩,
    ⟨some 141, none, .fieldAddr 23 (.tmp 140) 1⟩,
    ⟨some 142, none, .load 2 (.tmp 141)⟩,
    ⟨some 143, none, .binOp .eql 2 (.tmp 139) (.tmp 142) 2⟩,
    ⟨some 144, none, .move (.tmp 143)⟩,
    ⟨some 145, some (144, false), .fieldAddr 32 (.tmp 4) 2⟩,
    ⟨some 146, some (144, false), .fieldAddr 23 (.tmp 145) 1⟩,
    ⟨some 147, some (144, false), .load 2 (.tmp 146)⟩,
    ⟨some 148, some (144, false), .binOp .eql 2 (.tmp 147) (.const (.int .i64 4611686018427387904)) 2⟩,
    ⟨some 149, none, .pick (.tmp 144) (.const (.bool true)) (.tmp 148)⟩,
    ⟨some 150, none, .binOp .eql 4 (.tmp 138) (.tmp 149) 4⟩,
    ⟨some 6, none, .assign (.tmp 150)⟩])
  .ret)))))))))))
theorem ok5 : FnOk Try.prog 5 151 [.tmp 6] c5 := ⟨hmix, Try.f5, Try.func5, by kernel_rfl, rfl, rfl, by kernel_rfl, by kernel_rfl⟩

/-- mandoline/mandolinelaw38.FetchAsked -/
def c6 : SC := (.seq (.reg [⟨some 2, none, .box 27 (.tmp 0)⟩,
    ⟨some 3, none, .box 32 (.tmp 1)⟩,
    ⟨some 4, none, .assign (.const (.bool false))⟩])
  (.seq (.seq (.reg [⟨some 5, none, .call ⟨.value (.func 9), #[], #[]⟩⟩,
    ⟨some 6, none, .unOp .not 4 (.tmp 5)⟩])
  (.cond (.tmp 6)
  (.seq (.reg [⟨some 4, none, .assign (.const (.bool false))⟩])
  .ret)
  .skip))
  (.seq (.seq (.reg [⟨some 7, none, .load 27 (.tmp 2)⟩,
    ⟨some 8, none, .call ⟨.value (.func 10), #[.tmp 7], #[27]⟩⟩,
    ⟨some 9, none, .unOp .not 4 (.tmp 8)⟩,
    ⟨some 10, none, .move (.tmp 9)⟩,
    ⟨some 11, some (10, false), .load 32 (.tmp 3)⟩,
    ⟨some 12, some (10, false), .call ⟨.value (.func 11), #[.tmp 11], #[32]⟩⟩,
    ⟨some 13, some (10, false), .unOp .not 4 (.tmp 12)⟩,
    ⟨some 14, none, .pick (.tmp 10) (.const (.bool true)) (.tmp 13)⟩,
    ⟨some 15, none, .move (.tmp 14)⟩,
    ⟨some 16, some (15, false), .load 27 (.tmp 2)⟩,
    ⟨some 17, some (15, false), .load 32 (.tmp 3)⟩,
    ⟨some 18, some (15, false), .call ⟨.value (.func 14), #[.tmp 16, .tmp 17], #[27, 32]⟩⟩,
    ⟨some 19, some (15, false), .binOp .neq 3 (.tmp 18) (.const (.int .i64 1)) 3⟩,
    ⟨some 20, none, .pick (.tmp 15) (.const (.bool true)) (.tmp 19)⟩])
  (.cond (.tmp 20)
  (.seq (.reg [⟨some 4, none, .assign (.const (.bool true))⟩])
  .ret)
  .skip))
  (.seq (.seq (.reg [⟨some 21, none, .fieldAddr 27 (.tmp 2) 2⟩,
    ⟨some 22, none, .fieldAddr 25 (.tmp 21) 0⟩,
    ⟨some 23, none, .load 9 (.tmp 22)⟩,
    ⟨some 24, none, .binOp .neq 9 (.tmp 23) (.const (.string ⟨#[]⟩)) 9⟩,
    ⟨some 25, none, .move (.tmp 24)⟩,
    ⟨some 26, some (25, true), .fieldAddr 32 (.tmp 3) 1⟩,
    ⟨some 27, some (25, true), .fieldAddr 30 (.tmp 26) 0⟩,
    ⟨some 28, some (25, true), .fieldAddr 25 (.tmp 27) 1⟩,
    ⟨some 29, some (25, true), .load 4 (.tmp 28)⟩,
    ⟨some 30, some (25, true), .move (.tmp 29)⟩,
    ⟨some 31, some (30, false), .fieldAddr 32 (.tmp 3) 1⟩,
    ⟨some 32, some (30, false), .fieldAddr 30 (.tmp 31) 0⟩,
    ⟨some 33, some (30, false), .fieldAddr 25 (.tmp 32) 0⟩,
    ⟨some 34, some (30, false), .load 9 (.tmp 33)⟩,
    ⟨some 35, some (30, false), .fieldAddr 27 (.tmp 2) 2⟩,
    ⟨some 36, some (30, false), .fieldAddr 25 (.tmp 35) 0⟩,
    ⟨some 37, some (30, false), .load 9 (.tmp 36)⟩,
    ⟨some 38, some (30, false), .binOp .neq 9 (.tmp 34) (.tmp 37) 9⟩,
    ⟨some 39, some (25, true), .pick (.tmp 30) (.const (.bool true)) (.tmp 38)⟩,
    ⟨some 40, none, .pick (.tmp 25) (.tmp 39) (.const (.bool false))⟩])
  (.cond (.tmp 40)
  (.seq (.reg [⟨some 4, none, .assign (.const (.bool false))⟩])
  .ret)
  .skip))
  (.seq (.seq (.reg [⟨some 41, none, .fieldAddr 32 (.tmp 3) 0⟩,
    ⟨some 42, none, .load 3 (.tmp 41)⟩,
    ⟨some 43, none, .binOp .eql 3 (.tmp 42) (.const (.int .i64 200)) 3⟩])
  (.cond (.tmp 43)
  (.seq (.reg [⟨some 44, none, .fieldAddr 32 (.tmp 3) 2⟩,
    ⟨some 45, none, .fieldAddr 23 (.tmp 44) 0⟩,
    ⟨some 46, none, .load 2 (.tmp 45)⟩,
    ⟨some 47, none, .binOp .eql 2 (.tmp 46) (.const (.int .i64 0)) 2⟩,
    ⟨some 48, none, .move (.tmp 47)⟩,
    ⟨some 49, some (48, true), .fieldAddr 32 (.tmp 3) 2⟩,
    ⟨some 50, some (48, true), .fieldAddr 23 (.tmp 49) 1⟩,
    ⟨some 51, some (48, true), .load 2 (.tmp 50)⟩,
    ⟨some 52, some (48, true), .fieldAddr 32 (.tmp 3) 1⟩,
    ⟨some 53, some (48, true), .fieldAddr 30 (.tmp 52) 2⟩,
    ⟨some 54, some (48, true), .load 2 (.tmp 53)⟩,
    ⟨some 55, some (48, true), .binOp .eql 2 (.tmp 51) (.tmp 54) 2⟩,
    ⟨some 56, some (48, true), .move (.tmp 55)⟩,
    ⟨some 57, some (56, false), .fieldAddr 32 (.tmp 3) 1⟩,
    ⟨some 58, some (56, false), .fieldAddr 30 (.tmp 57) 2⟩,
    ⟨some 59, some (56, false), .load 2 (.tmp 58)⟩,
    ⟨some 60, some (56, false), .binOp .eql 2 (.tmp 59) (.const (.int .i64 (-1))) 2⟩,
    ⟨some 61, some (56, false), .move (.tmp 60)⟩,
    ⟨some 62, some (61, true), .fieldAddr 32 (.tmp 3) 2⟩,
    ⟨some 63, some (61, true), .fieldAddr 23 (.tmp 62) 1⟩,
    ⟨some 64, some (61, true), .load 2 (.tmp 63)⟩,
    ⟨some 65, some (61, true), .binOp .eql 2 (.tmp 64) (.const (.int .i64 4611686018427387904)) 2⟩,
    ⟨some 66, some (56, false), .pick (.tmp 61) (.tmp 65) (.const (.bool false))⟩,
    ⟨some 67, some (48, true), .pick (.tmp 56) (.const (.bool true)) (.tmp 66)⟩,
    ⟨some 68, none, .pick (.tmp 48) (.tmp 67) (.const (.bool false))⟩,
    ⟨some 4, none, .assign (.tmp 68)⟩])
  .ret)
  .skip))
  (.seq (.reg [⟨some 69, none, .fieldAddr 32 (.tmp 3) 0⟩,
    ⟨some 70, none, .load 3 (.tmp 69)⟩,
    ⟨some 71, none, .binOp .eql 3 (.tmp 70) (.const (.int .i64 206)) 3⟩,
    ⟨some 72, none, .move (.tmp 71)⟩,
    ⟨some 73, some (72, true), .fieldAddr 32 (.tmp 3) 2⟩,
    ⟨some 74, some (72, true), .fieldAddr 23 (.tmp 73) 0⟩,
    ⟨some 75, some (72, true), .load 2 (.tmp 74)⟩,
    ⟨some 76, some (72, true), .fieldAddr 27 (.tmp 2) 1⟩,
    ⟨some 77, some (72, true), .fieldAddr 23 (.tmp 76) 0⟩,
    ⟨some 78, some (72, true), .load 2 (.tmp 77)⟩,
    ⟨some 79, some (72, true), .binOp .eql 2 (.tmp 75) (.tmp 78) 2⟩,
    ⟨some 80, none, .pick (.tmp 72) (.tmp 79) (.const (.bool false))⟩,
    ⟨some 81, none, .move (.tmp 80)⟩,
    ⟨some 82, some (81, true), .fieldAddr 32 (.tmp 3) 2⟩,
    ⟨some 83, some (81, true), .fieldAddr 23 (.tmp 82) 1⟩,
    ⟨some 84, some (81, true), .load 2 (.tmp 83)⟩,
    ⟨some 85, some (81, true), .fieldAddr 27 (.tmp 2) 1⟩,
    ⟨some 86, some (81, true), .fieldAddr 23 (.tmp 85) 1⟩,
    ⟨some 87, some (81, true), .load 2 (.tmp 86)⟩,
    ⟨some 88, some (81, true), .binOp .leq 2 (.tmp 84) (.tmp 87) 2⟩,
    ⟨some 89, none, .pick (.tmp 81) (.tmp 88) (.const (.bool false))⟩,
    ⟨some 90, none, .move (.tmp 89)⟩,
    ⟨some 91, some (90, true), .fieldAddr 32 (.tmp 3) 2⟩,
    ⟨some 92, some (90, true), .fieldAddr 23 (.tmp 91) 0⟩,
    ⟨some 93, some (90, true), .load 2 (.tmp 92)⟩,
    ⟨some 94, some (90, true), .fieldAddr 32 (.tmp 3) 2⟩,
    ⟨some 95, some (90, true), .fieldAddr 23 (.tmp 94) 1⟩,
    ⟨some 96, some (90, true), .load 2 (.tmp 95)⟩,
    ⟨some 97, some (90, true), .binOp .lss 2 (.tmp 93) (.tmp 96) 2⟩,
    ⟨some 98, none, .pick (.tmp 90) (.tmp 97) (.const (.bool false))⟩,
    ⟨some 4, none, .assign (.tmp 98)⟩])
  .ret))))))
theorem ok6 : FnOk Try.prog 6 99 [.tmp 4] c6 := ⟨hmix, Try.f6, Try.func6, by kernel_rfl, rfl, rfl, by kernel_rfl, by kernel_rfl⟩

/-- mandoline/mandolinelaw38.FetchOver -/
def c7 : SC := (.seq (.reg [⟨some 3, none, .box 27 (.tmp 0)⟩,
    ⟨some 4, none, .box 32 (.tmp 1)⟩,
    ⟨some 5, none, .box 40 (.tmp 2)⟩,
    ⟨some 6, none, .assign (.const (.bool false))⟩])
  (.seq (.seq (.reg [⟨some 17, none, .call ⟨.value (.func 9), #[], #[]⟩⟩,
    ⟨some 18, none, .unOp .not 4 (.tmp 17)⟩])
  (.cond (.tmp 18)
  (.seq (.reg [⟨some 6, none, .assign (.const (.bool false))⟩])
  .ret)
  .skip))
  (.seq (.seq (.reg [⟨some 19, none, .load 27 (.tmp 3)⟩,
    ⟨some 20, none, .call ⟨.value (.func 10), #[.tmp 19], #[27]⟩⟩,
    ⟨some 21, none, .unOp .not 4 (.tmp 20)⟩,
    ⟨some 22, none, .move (.tmp 21)⟩,
    ⟨some 23, some (22, false), .load 32 (.tmp 4)⟩,
    ⟨some 24, some (22, false), .call ⟨.value (.func 11), #[.tmp 23], #[32]⟩⟩,
    ⟨some 25, some (22, false), .unOp .not 4 (.tmp 24)⟩,
    ⟨some 26, none, .pick (.tmp 22) (.const (.bool true)) (.tmp 25)⟩,
    ⟨some 27, none, .move (.tmp 26)⟩,
    ⟨some 28, some (27, false), .fieldAddr 40 (.tmp 5) 1⟩,
    ⟨some 29, some (27, false), .load 32 (.tmp 28)⟩,
    ⟨some 30, some (27, false), .call ⟨.value (.func 11), #[.tmp 29], #[32]⟩⟩,
    ⟨some 31, some (27, false), .unOp .not 4 (.tmp 30)⟩,
    ⟨some 32, none, .pick (.tmp 27) (.const (.bool true)) (.tmp 31)⟩,
    ⟨some 33, none, .move (.tmp 32)⟩,
    ⟨some 34, some (33, false), .load 27 (.tmp 3)⟩,
    ⟨some 35, some (33, false), .call ⟨.value (.func 13), #[.tmp 34], #[27]⟩⟩,
    ⟨some 36, some (33, false), .unOp .not 4 (.tmp 35)⟩,
    ⟨some 37, none, .pick (.tmp 33) (.const (.bool true)) (.tmp 36)⟩])
  (.cond (.tmp 37)
  (.seq (.reg [⟨some 6, none, .assign (.const (.bool true))⟩])
  .ret)
  .skip))
  (.seq (.reg [⟨some 39, none, .load 27 (.tmp 3)⟩,
    ⟨some 40, none, .call ⟨.value (.func 16), #[.tmp 39], #[27]⟩⟩,
    ⟨some 38, none, .move (.tmp 40)⟩,
    ⟨some 41, none, .extract (.tmp 38) 0⟩,
    ⟨some 42, none, .extract (.tmp 38) 1⟩,
    ⟨some 7, none, .assign (.tmp 41)⟩,
    ⟨some 8, none, .assign (.tmp 42)⟩])
  (.seq (.seq (.reg [⟨some 43, none, .move (.tmp 8)⟩,
    ⟨some 44, none, .binOp .neq 42 (.tmp 43) (.const (.int .i64 0)) 42⟩,
    ⟨some 45, none, .move (.tmp 44)⟩,
    ⟨some 46, some (45, false), .move (.tmp 7)⟩,
    ⟨some 47, some (45, false), .binOp .eql 41 (.tmp 46) (.const (.pointer .none)) 41⟩,
    ⟨some 48, none, .pick (.tmp 45) (.const (.bool true)) (.tmp 47)⟩])
  (.cond (.tmp 48)
  (.seq (.reg [⟨some 6, none, .assign (.const (.bool false))⟩])
  .ret)
  .skip))
  (.seq (.reg [⟨some 50, none, .move (.tmp 7)⟩,
    ⟨some 51, none, .load 32 (.tmp 4)⟩,
    ⟨some 52, none, .call ⟨.value (.func 18), #[.tmp 50, .tmp 51], #[41, 32]⟩⟩,
    ⟨some 49, none, .move (.tmp 52)⟩,
    ⟨some 53, none, .extract (.tmp 49) 0⟩,
    ⟨some 54, none, .extract (.tmp 49) 1⟩,
    ⟨some 9, none, .assign (.tmp 53)⟩,
    ⟨some 10, none, .assign (.tmp 54)⟩])
  (.seq (.seq (.reg [⟨some 55, none, .move (.tmp 9)⟩,
    ⟨some 56, none, .binOp .eql 3 (.tmp 55) (.const (.int .i64 1)) 3⟩])
  (.cond (.tmp 56)
  (.reg [⟨some 57, none, .move (.tmp 7)⟩,
    ⟨some 58, none, .fieldAddr 40 (.tmp 5) 3⟩,
    ⟨some 59, none, .load 4 (.tmp 58)⟩,
    ⟨some 60, none, .call ⟨.value (.func 22), #[.tmp 57, .tmp 59], #[41, 4]⟩⟩])
  .skip))
  (.seq (.reg [⟨some 62, none, .move (.tmp 7)⟩,
    ⟨some 63, none, .fieldAddr 40 (.tmp 5) 1⟩,
    ⟨some 64, none, .load 32 (.tmp 63)⟩,
    ⟨some 65, none, .call ⟨.value (.func 18), #[.tmp 62, .tmp 64], #[41, 32]⟩⟩,
    ⟨some 61, none, .move (.tmp 65)⟩,
    ⟨some 66, none, .extract (.tmp 61) 0⟩,
    ⟨some 67, none, .extract (.tmp 61) 1⟩,
    ⟨some 11, none, .assign (.tmp 66)⟩,
    ⟨some 12, none, .assign (.tmp 67)⟩])
  (.seq (.reg [⟨some 69, none, .move (.tmp 7)⟩,
    ⟨some 70, none, .fieldAddr 40 (.tmp 5) 2⟩,
    ⟨some 71, none, .load 2 (.tmp 70)⟩,
    ⟨some 72, none, .call ⟨.value (.func 20), #[.tmp 69, .tmp 71], #[41, 2]⟩⟩,
    ⟨some 68, none, .move (.tmp 72)⟩,
    ⟨some 73, none, .extract (.tmp 68) 0⟩,
    ⟨some 74, none, .extract (.tmp 68) 1⟩,
    ⟨some 13, none, .alloc 23⟩,
    ⟨none, none, .store 23 (.tmp 13) (.tmp 73)⟩,
    ⟨some 14, none, .assign (.tmp 74)⟩])
  (.seq (.reg [⟨some 76, none, .move (.tmp 7)⟩,
    ⟨some 77, none, .call ⟨.value (.func 24), #[.tmp 76], #[41]⟩⟩,
    ⟨some 75, none, .move (.tmp 77)⟩,
    ⟨some 78, none, .extract (.tmp 75) 0⟩,
    ⟨some 79, none, .extract (.tmp 75) 1⟩,
    ⟨some 15, none, .alloc 23⟩,
    ⟨none, none, .store 23 (.tmp 15) (.tmp 78)⟩,
    ⟨some 16, none, .assign (.tmp 79)⟩])
  (.seq (.reg [⟨some 80, none, .move (.tmp 7)⟩,
    ⟨some 81, none, .call ⟨.value (.func 26), #[.tmp 80], #[41]⟩⟩,
    ⟨some 82, none, .move (.tmp 81)⟩,
    ⟨some 83, some (82, true), .move (.tmp 12)⟩,
    ⟨some 84, some (82, true), .binOp .eql 42 (.tmp 83) (.const (.int .i64 11)) 42⟩,
    ⟨some 85, none, .pick (.tmp 82) (.tmp 84) (.const (.bool false))⟩,
    ⟨some 86, none, .move (.tmp 85)⟩,
    ⟨some 87, some (86, true), .move (.tmp 14)⟩,
    ⟨some 88, some (86, true), .binOp .eql 42 (.tmp 87) (.const (.int .i64 11)) 42⟩,
    ⟨some 89, none, .pick (.tmp 86) (.tmp 88) (.const (.bool false))⟩,
    ⟨some 90, none, .move (.tmp 89)⟩,
    ⟨some 91, some (90, true), .move (.tmp 7)⟩,
    ⟨some 92, some (90, true), .call ⟨.value (.func 22), #[.tmp 91, .const (.bool true)], #[41, 4]⟩⟩,
    ⟨some 93, some (90, true), .binOp .eql 42 (.tmp 92) (.const (.int .i64 11)) 42⟩,
    ⟨some 94, none, .pick (.tmp 90) (.tmp 93) (.const (.bool false))⟩,
    ⟨some 95, none, .move (.tmp 94)⟩,
    ⟨some 96, some (95, true), .move (.tmp 16)⟩,
    ⟨some 97, some (95, true), .unOp .not 4 (.tmp 96)⟩,
    ⟨some 98, none, .pick (.tmp 95) (.tmp 97) (.const (.bool false))⟩,
    ⟨some 6, none, .assign (.tmp 98)⟩])
  .ret)))))))))))
theorem ok7 : FnOk Try.prog 7 99 [.tmp 6] c7 := ⟨hmix, Try.f7, Try.func7, by kernel_rfl, rfl, rfl, by kernel_rfl, by kernel_rfl⟩

/-- mandoline/mandolinelaw38.FetchNil -/
def c8 : SC := (.seq (.reg [⟨some 1, none, .box 40 (.tmp 0)⟩,
    ⟨some 2, none, .assign (.const (.bool false))⟩])
  (.seq (.seq (.reg [⟨some 10, none, .call ⟨.value (.func 9), #[], #[]⟩⟩,
    ⟨some 11, none, .unOp .not 4 (.tmp 10)⟩])
  (.cond (.tmp 11)
  (.seq (.reg [⟨some 2, none, .assign (.const (.bool false))⟩])
  .ret)
  .skip))
  (.seq (.seq (.reg [⟨some 12, none, .fieldAddr 40 (.tmp 1) 1⟩,
    ⟨some 13, none, .load 32 (.tmp 12)⟩,
    ⟨some 14, none, .call ⟨.value (.func 11), #[.tmp 13], #[32]⟩⟩,
    ⟨some 15, none, .unOp .not 4 (.tmp 14)⟩])
  (.cond (.tmp 15)
  (.seq (.reg [⟨some 2, none, .assign (.const (.bool true))⟩])
  .ret)
  .skip))
  (.seq (.reg [⟨some 3, none, .assign (.const (.pointer .none))⟩])
  (.seq (.reg [⟨some 17, none, .move (.tmp 3)⟩,
    ⟨some 18, none, .fieldAddr 40 (.tmp 1) 1⟩,
    ⟨some 19, none, .load 32 (.tmp 18)⟩,
    ⟨some 20, none, .call ⟨.value (.func 18), #[.tmp 17, .tmp 19], #[41, 32]⟩⟩,
    ⟨some 16, none, .move (.tmp 20)⟩,
    ⟨some 21, none, .extract (.tmp 16) 0⟩,
    ⟨some 22, none, .extract (.tmp 16) 1⟩,
    ⟨some 4, none, .assign (.tmp 21)⟩,
    ⟨some 5, none, .assign (.tmp 22)⟩])
  (.seq (.reg [⟨some 24, none, .move (.tmp 3)⟩,
    ⟨some 25, none, .fieldAddr 40 (.tmp 1) 2⟩,
    ⟨some 26, none, .load 2 (.tmp 25)⟩,
    ⟨some 27, none, .call ⟨.value (.func 20), #[.tmp 24, .tmp 26], #[41, 2]⟩⟩,
    ⟨some 23, none, .move (.tmp 27)⟩,
    ⟨some 28, none, .extract (.tmp 23) 0⟩,
    ⟨some 29, none, .extract (.tmp 23) 1⟩,
    ⟨some 6, none, .alloc 23⟩,
    ⟨none, none, .store 23 (.tmp 6) (.tmp 28)⟩,
    ⟨some 7, none, .assign (.tmp 29)⟩])
  (.seq (.reg [⟨some 31, none, .move (.tmp 3)⟩,
    ⟨some 32, none, .call ⟨.value (.func 24), #[.tmp 31], #[41]⟩⟩,
    ⟨some 30, none, .move (.tmp 32)⟩,
    ⟨some 33, none, .extract (.tmp 30) 0⟩,
    ⟨some 34, none, .extract (.tmp 30) 1⟩,
    ⟨some 8, none, .alloc 23⟩,
    ⟨none, none, .store 23 (.tmp 8) (.tmp 33)⟩,
    ⟨some 9, none, .assign (.tmp 34)⟩])
  (.seq (.reg [⟨some 35, none, .move (.tmp 4)⟩,
    ⟨some 36, none, .binOp .eql 3 (.tmp 35) (.const (.int .i64 0)) 3⟩,
    ⟨some 37, none, .move (.tmp 36)⟩,
    ⟨some 38, some (37, true), .move (.tmp 5)⟩,
    ⟨some 39, some (37, true), .binOp .eql 42 (.tmp 38) (.const (.int .i64 11)) 42⟩,
    ⟨some 40, none, .pick (.tmp 37) (.tmp 39) (.const (.bool false))⟩,
    ⟨some 41, none, .move (.tmp 40)⟩,
    ⟨some 42, some (41, true), .load 23 (.tmp 6)⟩,
    ⟨some 43, some (41, true), .build 23 #[]⟩,
    ⟨some 44, some (41, true), .binOp .eql 23 (.tmp 42) (.tmp 43) 23⟩,
    ⟨some 45, none, .pick (.tmp 41) (.tmp 44) (.const (.bool false))⟩,
    ⟨some 46, none, .move (.tmp 45)⟩,
    ⟨some 47, some (46, true), .move (.tmp 7)⟩,
    ⟨some 48, some (46, true), .binOp .eql 42 (.tmp 47) (.const (.int .i64 11)) 42⟩,
    ⟨some 49, none, .pick (.tmp 46) (.tmp 48) (.const (.bool false))⟩,
    ⟨some 50, none, .move (.tmp 49)⟩,
    ⟨some 51, some (50, true), .load 23 (.tmp 8)⟩,
    ⟨some 52, some (50, true), .build 23 #[]⟩,
    ⟨some 53, some (50, true), .binOp .eql 23 (.tmp 51) (.tmp 52) 23⟩,
    ⟨some 54, none, .pick (.tmp 50) (.tmp 53) (.const (.bool false))⟩,
    ⟨some 55, none, .move (.tmp 54)⟩,
    ⟨some 56, some (55, true), .move (.tmp 9)⟩,
    ⟨some 57, some (55, true), .unOp .not 4 (.tmp 56)⟩,
    ⟨some 58, none, .pick (.tmp 55) (.tmp 57) (.const (.bool false))⟩,
    ⟨some 59, none, .move (.tmp 58)⟩,
    ⟨some 60, some (59, true), .move (.tmp 3)⟩,
    ⟨some 61, some (59, true), .fieldAddr 40 (.tmp 1) 3⟩,
    ⟨some 62, some (59, true), .load 4 (.tmp 61)⟩,
    ⟨some 63, some (59, true), .call ⟨.value (.func 22), #[.tmp 60, .tmp 62], #[41, 4]⟩⟩,
    ⟨some 64, some (59, true), .binOp .eql 42 (.tmp 63) (.const (.int .i64 11)) 42⟩,
    ⟨some 65, none, .pick (.tmp 59) (.tmp 64) (.const (.bool false))⟩,
    ⟨some 66, none, .move (.tmp 65)⟩,
    ⟨some 67, some (66, true), .move (.tmp 3)⟩,
    ⟨some 68, some (66, true), .call ⟨.value (.func 26), #[.tmp 67], #[41]⟩⟩,
    ⟨some 69, none, .pick (.tmp 66) (.tmp 68) (.const (.bool false))⟩,
    ⟨some 2, none, .assign (.tmp 69)⟩])
  .ret))))))))
theorem ok8 : FnOk Try.prog 8 70 [.tmp 2] c8 := ⟨hmix, Try.f8, Try.func8, by kernel_rfl, rfl, rfl, by kernel_rfl, by kernel_rfl⟩

/-- mandoline/mandolinelaw38.wakes -/
def c9 : SC := (.seq (.reg [⟨some 0, none, .assign (.const (.bool false))⟩])
  (.seq (.reg [⟨some 10, none, .build 23 #[(0, .const (.int .i64 8)), (1, .const (.int .i64 16))]⟩,
    ⟨some 11, none, .build 27 #[(0, .const (.string ⟨#[47, 111]⟩)), (1, .tmp 10)]⟩,
    ⟨some 1, none, .alloc 27⟩,
    ⟨none, none, .store 27 (.tmp 1) (.tmp 11)⟩])
  (.seq (.reg [⟨some 13, none, .load 27 (.tmp 1)⟩,
    ⟨some 14, none, .call ⟨.value (.func 16), #[.tmp 13], #[27]⟩⟩,
    ⟨some 12, none, .move (.tmp 14)⟩,
    ⟨some 15, none, .extract (.tmp 12) 0⟩,
    ⟨some 16, none, .extract (.tmp 12) 1⟩,
    ⟨some 2, none, .assign (.tmp 15)⟩,
    ⟨some 3, none, .assign (.tmp 16)⟩])
  (.seq (.seq (.reg [⟨some 17, none, .move (.tmp 3)⟩,
    ⟨some 18, none, .binOp .neq 42 (.tmp 17) (.const (.int .i64 0)) 42⟩,
    ⟨some 19, none, .move (.tmp 18)⟩,
    ⟨some 20, some (19, false), .move (.tmp 2)⟩,
    ⟨some 21, some (19, false), .binOp .eql 41 (.tmp 20) (.const (.pointer .none)) 41⟩,
    ⟨some 22, none, .pick (.tmp 19) (.const (.bool true)) (.tmp 21)⟩])
  (.cond (.tmp 22)
  (.seq (.reg [⟨some 0, none, .assign (.const (.bool false))⟩])
  .ret)
  .skip))
  (.seq (.reg [⟨some 24, none, .move (.tmp 2)⟩,
    ⟨some 25, none, .call ⟨.value (.func 27), #[.const (.int .i64 12)], #[2]⟩⟩,
    ⟨some 26, none, .build 23 #[(0, .const (.int .i64 8)), (1, .const (.int .i64 12))]⟩,
    ⟨some 27, none, .build 32 #[(0, .const (.int .i64 206)), (1, .tmp 25), (2, .tmp 26)]⟩,
    ⟨some 28, none, .call ⟨.value (.func 18), #[.tmp 24, .tmp 27], #[41, 32]⟩⟩,
    ⟨some 23, none, .move (.tmp 28)⟩,
    ⟨some 29, none, .extract (.tmp 23) 0⟩,
    ⟨some 30, none, .extract (.tmp 23) 1⟩,
    ⟨some 4, none, .assign (.tmp 29)⟩,
    ⟨some 5, none, .assign (.tmp 30)⟩])
  (.seq (.reg [⟨some 32, none, .move (.tmp 2)⟩,
    ⟨some 33, none, .call ⟨.value (.func 20), #[.tmp 32, .const (.int .i64 3)], #[41, 2]⟩⟩,
    ⟨some 31, none, .move (.tmp 33)⟩,
    ⟨some 34, none, .extract (.tmp 31) 0⟩,
    ⟨some 35, none, .extract (.tmp 31) 1⟩,
    ⟨some 6, none, .alloc 23⟩,
    ⟨none, none, .store 23 (.tmp 6) (.tmp 34)⟩,
    ⟨some 7, none, .assign (.tmp 35)⟩])
  (.seq (.reg [⟨some 37, none, .move (.tmp 2)⟩,
    ⟨some 38, none, .call ⟨.value (.func 24), #[.tmp 37], #[41]⟩⟩,
    ⟨some 36, none, .move (.tmp 38)⟩,
    ⟨some 39, none, .extract (.tmp 36) 0⟩,
    ⟨some 40, none, .extract (.tmp 36) 1⟩,
    ⟨some 8, none, .alloc 23⟩,
    ⟨none, none, .store 23 (.tmp 8) (.tmp 39)⟩,
    ⟨some 9, none, .assign (.tmp 40)⟩])
  (.seq (.reg [⟨some 41, none, .move (.tmp 4)⟩,
    ⟨some 42, none, .binOp .eql 3 (.tmp 41) (.const (.int .i64 1)) 3⟩,
    ⟨some 43, none, .move (.tmp 42)⟩,
    ⟨some 44, some (43, true), .move (.tmp 5)⟩,
    ⟨some 45, some (43, true), .binOp .eql 42 (.tmp 44) (.const (.int .i64 0)) 42⟩,
    ⟨some 46, none, .pick (.tmp 43) (.tmp 45) (.const (.bool false))⟩,
    ⟨some 47, none, .move (.tmp 46)⟩,
    ⟨some 48, some (47, true), .load 23 (.tmp 6)⟩,
    ⟨some 49, some (47, true), .build 23 #[(0, .const (.int .i64 8)), (1, .const (.int .i64 11))]⟩,
    ⟨some 50, some (47, true), .binOp .eql 23 (.tmp 48) (.tmp 49) 23⟩,
    ⟨some 51, none, .pick (.tmp 47) (.tmp 50) (.const (.bool false))⟩,
    ⟨some 52, none, .move (.tmp 51)⟩,
    ⟨some 53, some (52, true), .move (.tmp 7)⟩,
    ⟨some 54, some (52, true), .binOp .eql 42 (.tmp 53) (.const (.int .i64 0)) 42⟩,
    ⟨some 55, none, .pick (.tmp 52) (.tmp 54) (.const (.bool false))⟩,
    ⟨some 56, none, .move (.tmp 55)⟩,
    ⟨some 57, some (56, true), .move (.tmp 9)⟩,
    ⟨some 58, none, .pick (.tmp 56) (.tmp 57) (.const (.bool false))⟩,
    ⟨some 59, none, .move (.tmp 58)⟩,
    ⟨some 60, some (59, true), .load 23 (.tmp 8)⟩,
    ⟨some 61, some (59, true), .build 23 #[(0, .const (.int .i64 11)), (1, .const (.int .i64 12))]⟩,
    ⟨some 62, some (59, true), .binOp .eql 23 (.tmp 60) (.tmp 61) 23⟩,
    ⟨some 63, none, .pick (.tmp 59) (.tmp 62) (.const (.bool false))⟩,
    ⟨some 64, none, .move (.tmp 63)⟩,
    ⟨some 65, some (64, true), .move (.tmp 2)⟩,
    ⟨some 66, some (64, true), .call ⟨.value (.func 22), #[.tmp 65, .const (.bool true)], #[41, 4]⟩⟩,
    ⟨some 67, some (64, true), .binOp .eql 42 (.tmp 66) (.const (.int .i64 13)) 42⟩,
    ⟨some 68, none, .pick (.tmp 64) (.tmp 67) (.const (.bool false))⟩,
    ⟨some 69, none, .move (.tmp 68)⟩,
    ⟨some 70, some (69, true), .move (.tmp 2)⟩,
    ⟨some 71, some (69, true), .call ⟨.value (.func 26), #[.tmp 70], #[41]⟩⟩,
    ⟨some 72, none, .pick (.tmp 69) (.tmp 71) (.const (.bool false))⟩,
    ⟨some 0, none, .assign (.tmp 72)⟩])
  .ret))))))))
theorem ok9 : FnOk Try.prog 9 73 [.tmp 0] c9 := ⟨hmix, Try.f9, Try.func9, by kernel_rfl, rfl, rfl, by kernel_rfl, by kernel_rfl⟩

/-- mandoline/mandolinelaw38.small -/
def c10 : SC := (.seq (.reg [⟨some 1, none, .box 27 (.tmp 0)⟩,
    ⟨some 2, none, .assign (.const (.bool false))⟩])
  (.seq (.reg [⟨some 3, none, .fieldAddr 27 (.tmp 1) 0⟩,
    ⟨some 4, none, .load 9 (.tmp 3)⟩,
    ⟨some 5, none, .call ⟨.builtin .len, #[.tmp 4], #[9]⟩⟩,
    ⟨some 6, none, .binOp .leq 3 (.tmp 5) (.const (.int .i64 300)) 3⟩,
    ⟨some 7, none, .move (.tmp 6)⟩,
    ⟨some 8, some (7, true), .fieldAddr 27 (.tmp 1) 2⟩,
    ⟨some 9, some (7, true), .fieldAddr 25 (.tmp 8) 0⟩,
    ⟨some 10, some (7, true), .load 9 (.tmp 9)⟩,
    ⟨some 11, some (7, true), .call ⟨.builtin .len, #[.tmp 10], #[9]⟩⟩,
    ⟨some 12, some (7, true), .binOp .leq 3 (.tmp 11) (.const (.int .i64 200)) 3⟩,
    ⟨some 13, none, .pick (.tmp 7) (.tmp 12) (.const (.bool false))⟩,
    ⟨some 14, none, .move (.tmp 13)⟩,
    ⟨some 15, some (14, true), .fieldAddr 27 (.tmp 1) 3⟩,
    ⟨some 16, some (14, true), .fieldAddr 25 (.tmp 15) 0⟩,
    ⟨some 17, some (14, true), .load 9 (.tmp 16)⟩,
    ⟨some 18, some (14, true), .call ⟨.builtin .len, #[.tmp 17], #[9]⟩⟩,
    ⟨some 19, some (14, true), .binOp .leq 3 (.tmp 18) (.const (.int .i64 200)) 3⟩,
    ⟨some 20, none, .pick (.tmp 14) (.tmp 19) (.const (.bool false))⟩,
    ⟨some 2, none, .assign (.tmp 20)⟩])
  .ret))
theorem ok10 : FnOk Try.prog 10 21 [.tmp 2] c10 := ⟨hmix, Try.f10, Try.func10, by kernel_rfl, rfl, rfl, by kernel_rfl, by kernel_rfl⟩

/-- mandoline/mandolinelaw38.Small -/
def c11 : SC := (.seq (.reg [⟨some 1, none, .box 32 (.tmp 0)⟩,
    ⟨some 2, none, .assign (.const (.bool false))⟩])
  (.seq (.seq (.reg [⟨some 5, none, .fieldAddr 32 (.tmp 1) 1⟩,
    ⟨some 6, none, .fieldAddr 30 (.tmp 5) 0⟩,
    ⟨some 7, none, .fieldAddr 25 (.tmp 6) 0⟩,
    ⟨some 8, none, .load 9 (.tmp 7)⟩,
    ⟨some 9, none, .call ⟨.builtin .len, #[.tmp 8], #[9]⟩⟩,
    ⟨some 10, none, .binOp .gtr 3 (.tmp 9) (.const (.int .i64 200)) 3⟩,
    ⟨some 11, none, .move (.tmp 10)⟩,
    ⟨some 12, some (11, false), .fieldAddr 32 (.tmp 1) 1⟩,
    ⟨some 13, some (11, false), .fieldAddr 30 (.tmp 12) 7⟩,
    ⟨some 14, some (11, false), .load 28 (.tmp 13)⟩,
    ⟨some 15, some (11, false), .call ⟨.builtin .len, #[.tmp 14], #[28]⟩⟩,
    ⟨some 16, some (11, false), .binOp .gtr 3 (.tmp 15) (.const (.int .i64 40)) 3⟩,
    ⟨some 17, none, .pick (.tmp 11) (.const (.bool true)) (.tmp 16)⟩,
    ⟨some 18, none, .move (.tmp 17)⟩,
    ⟨some 19, some (18, false), .fieldAddr 32 (.tmp 1) 1⟩,
    ⟨some 20, some (18, false), .fieldAddr 30 (.tmp 19) 8⟩,
    ⟨some 21, some (18, false), .load 9 (.tmp 20)⟩,
    ⟨some 22, some (18, false), .call ⟨.builtin .len, #[.tmp 21], #[9]⟩⟩,
    ⟨some 23, some (18, false), .binOp .gtr 3 (.tmp 22) (.const (.int .i64 100)) 3⟩,
    ⟨some 24, none, .pick (.tmp 18) (.const (.bool true)) (.tmp 23)⟩])
  (.cond (.tmp 24)
  (.seq (.reg [⟨some 2, none, .assign (.const (.bool false))⟩])
  .ret)
  .skip))
  (.seq (.seq (.reg [⟨some 25, none, .fieldAddr 32 (.tmp 1) 1⟩,
    ⟨some 26, none, .fieldAddr 30 (.tmp 25) 7⟩,
    ⟨some 27, none, .load 28 (.tmp 26)⟩,
    ⟨some 28, none, .call ⟨.builtin .len, #[.tmp 27], #[28]⟩⟩,
    ⟨some 29, none, .move (.const (.int .i64 0))⟩])
  (.block 0 (.loop (.seq (.reg [⟨some 30, none, .binOp .lss 3 (.tmp 29) (.tmp 28) 3⟩])
  (.seq (.cond (.tmp 30)
  .skip
  (.exit 0))
  (.seq (.block 1 (.seq (.reg [⟨some 31, none, .indexAddr 28 (.tmp 27) (.tmp 29)⟩,
    ⟨some 32, none, .load 9 (.tmp 31)⟩,
    ⟨some 4, none, .assign (.tmp 32)⟩])
  (.seq (.reg [⟨some 33, none, .move (.tmp 4)⟩,
    ⟨some 34, none, .call ⟨.builtin .len, #[.tmp 33], #[9]⟩⟩,
    ⟨some 35, none, .binOp .gtr 3 (.tmp 34) (.const (.int .i64 300)) 3⟩])
  (.cond (.tmp 35)
  (.seq (.reg [⟨some 2, none, .assign (.const (.bool false))⟩])
  .ret)
  .skip))))
  (.reg [⟨some 36, none, .binOp .add 3 (.tmp 29) (.const (.int .i64 1)) 3⟩,
    ⟨some 29, none, .move (.tmp 36)⟩])))))))
  (.seq (.reg [⟨some 2, none, .assign (.const (.bool true))⟩])
  .ret))))
theorem ok11 : FnOk Try.prog 11 37 [.tmp 2] c11 := ⟨hmix, Try.f11, Try.func11, by kernel_rfl, rfl, rfl, by kernel_rfl, by kernel_rfl⟩

/-- mandoline/fetch.Right -/
def c12 : SC := (.seq (.reg [⟨some 1, none, .box 27 (.tmp 0)⟩,
    ⟨some 2, none, .assign (.const (.bool false))⟩])
  (.seq (.reg [⟨some 4, none, .build 25 #[]⟩,
    ⟨some 3, none, .alloc 25⟩,
    ⟨none, none, .store 25 (.tmp 3) (.tmp 4)⟩])
  (.seq (.reg [⟨some 5, none, .fieldAddr 27 (.tmp 1) 0⟩,
    ⟨some 6, none, .load 9 (.tmp 5)⟩,
    ⟨some 7, none, .call ⟨.value (.func 28), #[.tmp 6], #[9]⟩⟩,
    ⟨some 8, none, .move (.tmp 7)⟩,
    ⟨some 9, some (8, true), .fieldAddr 27 (.tmp 1) 1⟩,
    ⟨some 10, some (8, true), .load 23 (.tmp 9)⟩,
    ⟨some 11, some (8, true), .call ⟨.value (.func 29), #[.tmp 10], #[23]⟩⟩,
    ⟨some 12, none, .pick (.tmp 8) (.tmp 11) (.const (.bool false))⟩,
    ⟨some 13, none, .move (.tmp 12)⟩,
    ⟨some 14, some (13, true), .fieldAddr 27 (.tmp 1) 1⟩,
    ⟨some 15, some (13, true), .fieldAddr 23 (.tmp 14) 0⟩,
    ⟨some 16, some (13, true), .load 2 (.tmp 15)⟩,
    ⟨some 17, some (13, true), .fieldAddr 27 (.tmp 1) 1⟩,
    ⟨some 18, some (13, true), .fieldAddr 23 (.tmp 17) 1⟩,
    ⟨some 19, some (13, true), .load 2 (.tmp 18)⟩,
    ⟨some 20, some (13, true), .binOp .lss 2 (.tmp 16) (.tmp 19) 2⟩,
    ⟨some 21, none, .pick (.tmp 13) (.tmp 20) (.const (.bool false))⟩,
    ⟨some 22, none, .move (.tmp 21)⟩,
    ⟨some 23, some (22, true), .fieldAddr 27 (.tmp 1) 2⟩,
    ⟨some 24, some (22, true), .load 25 (.tmp 23)⟩,
    ⟨some 25, some (22, true), .call ⟨.value (.func 30), #[.tmp 24], #[25]⟩⟩,
    ⟨some 26, none, .pick (.tmp 22) (.tmp 25) (.const (.bool false))⟩,
    ⟨some 27, none, .move (.tmp 26)⟩,
    ⟨some 28, some (27, true), .fieldAddr 27 (.tmp 1) 3⟩,
    ⟨some 29, some (27, true), .load 25 (.tmp 28)⟩,
    ⟨some 30, some (27, true), .call ⟨.value (.func 30), #[.tmp 29], #[25]⟩⟩,
    ⟨some 31, none, .pick (.tmp 27) (.tmp 30) (.const (.bool false))⟩,
    ⟨some 32, none, .move (.tmp 31)⟩,
    ⟨some 33, some (32, true), .fieldAddr 27 (.tmp 1) 2⟩,
    ⟨some 34, some (32, true), .load 25 (.tmp 33)⟩,
    ⟨some 35, some (32, true), .load 25 (.tmp 3)⟩,
    ⟨some 36, some (32, true), .binOp .eql 25 (.tmp 34) (.tmp 35) 25⟩,
    ⟨some 37, some (32, true), .move (.tmp 36)⟩,
    ⟨some 38, some (37, false), .fieldAddr 27 (.tmp 1) 3⟩,
    ⟨some 39, some (37, false), .load 25 (.tmp 38)⟩,
    ⟨some 40, some (37, false), .load 25 (.tmp 3)⟩,
    ⟨some 41, some (37, false), .binOp .eql 25 (.tmp 39) (.tmp 40) 25⟩,
    ⟨some 42, some (32, true), .pick (.tmp 37) (.const (.bool true)) (.tmp 41)⟩,
    ⟨some 43, none, .pick (.tmp 32) (.tmp 42) (.const (.bool false))⟩,
    ⟨some 2, none, .assign (.tmp 43)⟩])
  .ret)))
theorem ok12 : FnOk Try.prog 12 44 [.tmp 2] c12 := ⟨hmix, Try.f12, Try.func12, by kernel_rfl, rfl, rfl, by kernel_rfl, by kernel_rfl⟩

/-- mandoline/mandolineref38.Right -/
def c13 : SC := (.seq (.reg [⟨some 1, none, .box 27 (.tmp 0)⟩,
    ⟨some 2, none, .assign (.const (.bool false))⟩])
  (.seq (.seq (.reg [⟨some 3, none, .fieldAddr 27 (.tmp 1) 0⟩,
    ⟨some 4, none, .load 9 (.tmp 3)⟩,
    ⟨some 5, none, .call ⟨.value (.func 31), #[.tmp 4], #[9]⟩⟩,
    ⟨some 6, none, .unOp .not 4 (.tmp 5)⟩,
    ⟨some 7, none, .move (.tmp 6)⟩,
    ⟨some 8, some (7, false), .fieldAddr 27 (.tmp 1) 1⟩,
    ⟨some 9, some (7, false), .load 23 (.tmp 8)⟩,
    ⟨some 10, some (7, false), .call ⟨.value (.func 32), #[.tmp 9], #[23]⟩⟩,
    ⟨some 11, some (7, false), .unOp .not 4 (.tmp 10)⟩,
    ⟨some 12, none, .pick (.tmp 7) (.const (.bool true)) (.tmp 11)⟩,
    ⟨some 13, none, .move (.tmp 12)⟩,
    ⟨some 14, some (13, false), .fieldAddr 27 (.tmp 1) 1⟩,
    ⟨some 15, some (13, false), .fieldAddr 23 (.tmp 14) 0⟩,
    ⟨some 16, some (13, false), .load 2 (.tmp 15)⟩,
    ⟨some 17, some (13, false), .fieldAddr 27 (.tmp 1) 1⟩,
    ⟨some 18, some (13, false), .fieldAddr 23 (.tmp 17) 1⟩,
    ⟨some 19, some (13, false), .load 2 (.tmp 18)⟩,
    ⟨some 20, some (13, false), .binOp .eql 2 (.tmp 16) (.tmp 19) 2⟩,
    ⟨some 21, none, .pick (.tmp 13) (.const (.bool true)) (.tmp 20)⟩])
  (.cond (.tmp 21)
  (.seq (.reg [⟨some 2, none, .assign (.const (.bool false))⟩])
  .ret)
  .skip))
  (.seq (.reg [⟨some 22, none, .fieldAddr 27 (.tmp 1) 2⟩,
    ⟨some 23, none, .load 25 (.tmp 22)⟩,
    ⟨some 24, none, .call ⟨.value (.func 33), #[.tmp 23], #[25]⟩⟩,
    ⟨some 25, none, .move (.tmp 24)⟩,
    ⟨some 26, some (25, true), .fieldAddr 27 (.tmp 1) 3⟩,
    ⟨some 27, some (25, true), .load 25 (.tmp 26)⟩,
    ⟨some 28, some (25, true), .call ⟨.value (.func 33), #[.tmp 27], #[25]⟩⟩,
    ⟨some 29, none, .pick (.tmp 25) (.tmp 28) (.const (.bool false))⟩,
    ⟨some 30, none, .move (.tmp 29)⟩,
    ⟨some 31, some (30, true), .fieldAddr 27 (.tmp 1) 2⟩,
    ⟨some 32, some (30, true), .load 25 (.tmp 31)⟩,
    ⟨some 33, some (30, true), .call ⟨.value (.func 34), #[.tmp 32], #[25]⟩⟩,
    ⟨some 34, some (30, true), .move (.tmp 33)⟩,
    ⟨some 35, some (34, true), .fieldAddr 27 (.tmp 1) 3⟩,
    ⟨some 36, some (34, true), .load 25 (.tmp 35)⟩,
    ⟨some 37, some (34, true), .call ⟨.value (.func 34), #[.tmp 36], #[25]⟩⟩,
    ⟨some 38, some (30, true), .pick (.tmp 34) (.tmp 37) (.const (.bool false))⟩,
    ⟨some 39, some (30, true), .unOp .not 4 (.tmp 38)⟩,
    ⟨some 40, none, .pick (.tmp 30) (.tmp 39) (.const (.bool false))⟩,
    ⟨some 2, none, .assign (.tmp 40)⟩])
  .ret)))
theorem ok13 : FnOk Try.prog 13 41 [.tmp 2] c13 := ⟨hmix, Try.f13, Try.func13, by kernel_rfl, rfl, rfl, by kernel_rfl, by kernel_rfl⟩

/-- mandoline/fetch.Read -/
def c14 : SC := (.seq (.reg [⟨some 2, none, .box 27 (.tmp 0)⟩,
    ⟨some 3, none, .box 32 (.tmp 1)⟩,
    ⟨some 4, none, .assign (.const (.int .i64 0))⟩])
  (.seq (.reg [⟨some 6, none, .build 25 #[]⟩,
    ⟨some 5, none, .alloc 25⟩,
    ⟨none, none, .store 25 (.tmp 5) (.tmp 6)⟩])
  (.seq (.seq (.reg [⟨some 7, none, .load 27 (.tmp 2)⟩,
    ⟨some 8, none, .call ⟨.value (.func 12), #[.tmp 7], #[27]⟩⟩,
    ⟨some 9, none, .unOp .not 4 (.tmp 8)⟩])
  (.cond (.tmp 9)
  (.seq (.reg [⟨some 4, none, .assign (.const (.int .i64 6))⟩])
  .ret)
  .skip))
  (.seq (.seq (.reg [⟨some 10, none, .fieldAddr 32 (.tmp 3) 3⟩,
    ⟨some 11, none, .load 2 (.tmp 10)⟩,
    ⟨some 12, none, .binOp .lss 2 (.tmp 11) (.const (.int .i64 0)) 2⟩,
    ⟨some 13, none, .move (.tmp 12)⟩,
    ⟨some 14, some (13, false), .fieldAddr 32 (.tmp 3) 3⟩,
    ⟨some 15, some (13, false), .load 2 (.tmp 14)⟩,
    ⟨some 16, some (13, false), .binOp .gtr 2 (.tmp 15) (.const (.int .i64 1099511627776)) 2⟩,
    ⟨some 17, none, .pick (.tmp 13) (.const (.bool true)) (.tmp 16)⟩])
  (.cond (.tmp 17)
  (.seq (.reg [⟨some 4, none, .assign (.const (.int .i64 6))⟩])
  .ret)
  .skip))
  (.seq (.seq (.reg [⟨some 18, none, .fieldAddr 32 (.tmp 3) 0⟩,
    ⟨some 19, none, .load 3 (.tmp 18)⟩])
  (.block 0 (.seq (.seq (.reg [⟨some 21, none, .binOp .eql 3 (.tmp 19) (.const (.int .i64 200)) 3⟩,
    ⟨some 20, none, .assign (.tmp 21)⟩])
  (.cond (.tmp 20)
  .skip
  (.reg [⟨some 22, none, .binOp .eql 3 (.tmp 19) (.const (.int .i64 206)) 3⟩,
    ⟨some 20, none, .assign (.tmp 22)⟩])))
  (.cond (.tmp 20)
  (.seq (.reg [⟨some 23, none, .fieldAddr 32 (.tmp 3) 1⟩,
    ⟨some 24, none, .load 30 (.tmp 23)⟩,
    ⟨some 25, none, .call ⟨.value (.func 35), #[.tmp 24], #[30]⟩⟩,
    ⟨some 26, none, .move (.tmp 25)⟩,
    ⟨some 27, some (26, true), .fieldAddr 27 (.tmp 2) 2⟩,
    ⟨some 28, some (26, true), .load 25 (.tmp 27)⟩,
    ⟨some 29, some (26, true), .load 25 (.tmp 5)⟩,
    ⟨some 30, some (26, true), .binOp .eql 25 (.tmp 28) (.tmp 29) 25⟩,
    ⟨some 31, some (26, true), .move (.tmp 30)⟩,
    ⟨some 32, some (31, false), .fieldAddr 27 (.tmp 2) 2⟩,
    ⟨some 33, some (31, false), .load 25 (.tmp 32)⟩,
    ⟨some 34, some (31, false), .fieldAddr 32 (.tmp 3) 1⟩,
    ⟨some 35, some (31, false), .fieldAddr 30 (.tmp 34) 0⟩,
    ⟨some 36, some (31, false), .load 25 (.tmp 35)⟩,
    ⟨some 37, some (31, false), .call ⟨.value (.func 36), #[.tmp 33, .tmp 36], #[25, 25]⟩⟩,
    ⟨some 38, some (26, true), .pick (.tmp 31) (.const (.bool true)) (.tmp 37)⟩,
    ⟨some 39, none, .pick (.tmp 26) (.tmp 38) (.const (.bool false))⟩,
    ⟨some 40, none, .move (.tmp 39)⟩,
    ⟨some 41, some (40, true), .load 27 (.tmp 2)⟩,
    ⟨some 42, some (40, true), .load 32 (.tmp 3)⟩,
    ⟨some 43, some (40, true), .call ⟨.value (.func 37), #[.tmp 41, .tmp 42], #[27, 32]⟩⟩,
    ⟨some 44, none, .pick (.tmp 40) (.tmp 43) (.const (.bool false))⟩])
  (.cond (.tmp 44)
  (.seq (.reg [⟨some 4, none, .assign (.const (.int .i64 1))⟩])
  .ret)
  .skip))
  (.seq (.reg [⟨some 46, none, .binOp .eql 3 (.tmp 19) (.const (.int .i64 304)) 3⟩,
    ⟨some 45, none, .assign (.tmp 46)⟩])
  (.cond (.tmp 45)
  (.seq (.reg [⟨some 47, none, .fieldAddr 27 (.tmp 2) 3⟩,
    ⟨some 48, none, .load 25 (.tmp 47)⟩,
    ⟨some 49, none, .load 25 (.tmp 5)⟩,
    ⟨some 50, none, .binOp .neq 25 (.tmp 48) (.tmp 49) 25⟩,
    ⟨some 51, none, .move (.tmp 50)⟩,
    ⟨some 52, some (51, true), .fieldAddr 32 (.tmp 3) 1⟩,
    ⟨some 53, some (51, true), .fieldAddr 30 (.tmp 52) 0⟩,
    ⟨some 54, some (51, true), .load 25 (.tmp 53)⟩,
    ⟨some 55, some (51, true), .load 25 (.tmp 5)⟩,
    ⟨some 56, some (51, true), .binOp .eql 25 (.tmp 54) (.tmp 55) 25⟩,
    ⟨some 57, some (51, true), .move (.tmp 56)⟩,
    ⟨some 58, some (57, false), .fieldAddr 27 (.tmp 2) 3⟩,
    ⟨some 59, some (57, false), .load 25 (.tmp 58)⟩,
    ⟨some 60, some (57, false), .fieldAddr 32 (.tmp 3) 1⟩,
    ⟨some 61, some (57, false), .fieldAddr 30 (.tmp 60) 0⟩,
    ⟨some 62, some (57, false), .load 25 (.tmp 61)⟩,
    ⟨some 63, some (57, false), .call ⟨.value (.func 36), #[.tmp 59, .tmp 62], #[25, 25]⟩⟩,
    ⟨some 64, some (51, true), .pick (.tmp 57) (.const (.bool true)) (.tmp 63)⟩,
    ⟨some 65, none, .pick (.tmp 51) (.tmp 64) (.const (.bool false))⟩])
  (.cond (.tmp 65)
  (.seq (.reg [⟨some 4, none, .assign (.const (.int .i64 2))⟩])
  .ret)
  .skip))
  (.seq (.reg [⟨some 67, none, .binOp .eql 3 (.tmp 19) (.const (.int .i64 412)) 3⟩,
    ⟨some 66, none, .assign (.tmp 67)⟩])
  (.cond (.tmp 66)
  (.seq (.reg [⟨some 68, none, .fieldAddr 27 (.tmp 2) 2⟩,
    ⟨some 69, none, .load 25 (.tmp 68)⟩,
    ⟨some 70, none, .load 25 (.tmp 5)⟩,
    ⟨some 71, none, .binOp .neq 25 (.tmp 69) (.tmp 70) 25⟩])
  (.cond (.tmp 71)
  (.seq (.reg [⟨some 4, none, .assign (.const (.int .i64 3))⟩])
  .ret)
  .skip))
  (.seq (.seq (.reg [⟨some 73, none, .binOp .eql 3 (.tmp 19) (.const (.int .i64 404)) 3⟩,
    ⟨some 72, none, .assign (.tmp 73)⟩])
  (.cond (.tmp 72)
  .skip
  (.reg [⟨some 74, none, .binOp .eql 3 (.tmp 19) (.const (.int .i64 410)) 3⟩,
    ⟨some 72, none, .assign (.tmp 74)⟩])))
  (.cond (.tmp 72)
  (.seq (.reg [⟨some 4, none, .assign (.const (.int .i64 4))⟩])
  .ret)
  (.seq (.reg [⟨some 76, none, .binOp .eql 3 (.tmp 19) (.const (.int .i64 416)) 3⟩,
    ⟨some 75, none, .assign (.tmp 76)⟩])
  (.cond (.tmp 75)
  (.seq (.reg [⟨some 77, none, .fieldAddr 32 (.tmp 3) 1⟩,
    ⟨some 78, none, .load 30 (.tmp 77)⟩,
    ⟨some 79, none, .call ⟨.value (.func 35), #[.tmp 78], #[30]⟩⟩,
    ⟨some 80, none, .move (.tmp 79)⟩,
    ⟨some 81, some (80, true), .fieldAddr 27 (.tmp 2) 1⟩,
    ⟨some 82, some (80, true), .fieldAddr 23 (.tmp 81) 0⟩,
    ⟨some 83, some (80, true), .load 2 (.tmp 82)⟩,
    ⟨some 84, some (80, true), .fieldAddr 32 (.tmp 3) 1⟩,
    ⟨some 85, some (80, true), .fieldAddr 30 (.tmp 84) 3⟩,
    ⟨some 86, some (80, true), .load 2 (.tmp 85)⟩,
    ⟨some 87, some (80, true), .binOp .geq 2 (.tmp 83) (.tmp 86) 2⟩,
    ⟨some 88, none, .pick (.tmp 80) (.tmp 87) (.const (.bool false))⟩])
  (.cond (.tmp 88)
  (.seq (.reg [⟨some 4, none, .assign (.const (.int .i64 5))⟩])
  .ret)
  .skip))
  .skip))))))))))))
  (.seq (.reg [⟨some 4, none, .assign (.const (.int .i64 6))⟩])
  .ret))))))
theorem ok14 : FnOk Try.prog 14 89 [.tmp 4] c14 := ⟨hmix, Try.f14, Try.func14, by kernel_rfl, rfl, rfl, by kernel_rfl, by kernel_rfl⟩

/-- mandoline/mandolineref38.Read -/
def c15 : SC := (.seq (.reg [⟨some 2, none, .box 27 (.tmp 0)⟩,
    ⟨some 3, none, .box 32 (.tmp 1)⟩,
    ⟨some 4, none, .assign (.const (.int .i64 0))⟩])
  (.seq (.seq (.reg [⟨some 5, none, .load 27 (.tmp 2)⟩,
    ⟨some 6, none, .call ⟨.value (.func 13), #[.tmp 5], #[27]⟩⟩,
    ⟨some 7, none, .unOp .not 4 (.tmp 6)⟩,
    ⟨some 8, none, .move (.tmp 7)⟩,
    ⟨some 9, some (8, false), .fieldAddr 32 (.tmp 3) 3⟩,
    ⟨some 10, some (8, false), .load 2 (.tmp 9)⟩,
    ⟨some 11, some (8, false), .binOp .lss 2 (.tmp 10) (.const (.int .i64 0)) 2⟩,
    ⟨some 12, none, .pick (.tmp 8) (.const (.bool true)) (.tmp 11)⟩,
    ⟨some 13, none, .move (.tmp 12)⟩,
    ⟨some 14, some (13, false), .fieldAddr 32 (.tmp 3) 3⟩,
    ⟨some 15, some (13, false), .load 2 (.tmp 14)⟩,
    ⟨some 16, some (13, false), .binOp .gtr 2 (.tmp 15) (.const (.int .i64 1099511627776)) 2⟩,
    ⟨some 17, none, .pick (.tmp 13) (.const (.bool true)) (.tmp 16)⟩])
  (.cond (.tmp 17)
  (.seq (.reg [⟨some 4, none, .assign (.const (.int .i64 6))⟩])
  .ret)
  .skip))
  (.seq (.seq (.reg [⟨some 18, none, .fieldAddr 32 (.tmp 3) 0⟩,
    ⟨some 19, none, .load 3 (.tmp 18)⟩])
  (.block 0 (.seq (.seq (.reg [⟨some 21, none, .binOp .eql 3 (.tmp 19) (.const (.int .i64 200)) 3⟩,
    ⟨some 20, none, .assign (.tmp 21)⟩])
  (.cond (.tmp 20)
  .skip
  (.reg [⟨some 22, none, .binOp .eql 3 (.tmp 19) (.const (.int .i64 206)) 3⟩,
    ⟨some 20, none, .assign (.tmp 22)⟩])))
  (.cond (.tmp 20)
  (.seq (.reg [⟨some 23, none, .load 27 (.tmp 2)⟩,
    ⟨some 24, none, .load 32 (.tmp 3)⟩,
    ⟨some 25, none, .call ⟨.value (.func 38), #[.tmp 23, .tmp 24], #[27, 32]⟩⟩])
  (.cond (.tmp 25)
  (.seq (.reg [⟨some 4, none, .assign (.const (.int .i64 1))⟩])
  .ret)
  .skip))
  (.seq (.reg [⟨some 27, none, .binOp .eql 3 (.tmp 19) (.const (.int .i64 304)) 3⟩,
    ⟨some 26, none, .assign (.tmp 27)⟩])
  (.cond (.tmp 26)
  (.seq (.reg [⟨some 28, none, .fieldAddr 27 (.tmp 2) 3⟩,
    ⟨some 29, none, .load 25 (.tmp 28)⟩,
    ⟨some 30, none, .call ⟨.value (.func 34), #[.tmp 29], #[25]⟩⟩,
    ⟨some 31, none, .move (.tmp 30)⟩,
    ⟨some 32, some (31, true), .fieldAddr 32 (.tmp 3) 1⟩,
    ⟨some 33, some (31, true), .fieldAddr 30 (.tmp 32) 0⟩,
    ⟨some 34, some (31, true), .load 25 (.tmp 33)⟩,
    ⟨some 35, some (31, true), .call ⟨.value (.func 34), #[.tmp 34], #[25]⟩⟩,
    ⟨some 36, some (31, true), .unOp .not 4 (.tmp 35)⟩,
    ⟨some 37, some (31, true), .move (.tmp 36)⟩,
    ⟨some 38, some (37, false), .fieldAddr 27 (.tmp 2) 3⟩,
    ⟨some 39, some (37, false), .load 25 (.tmp 38)⟩,
    ⟨some 40, some (37, false), .fieldAddr 32 (.tmp 3) 1⟩,
    ⟨some 41, some (37, false), .fieldAddr 30 (.tmp 40) 0⟩,
    ⟨some 42, some (37, false), .load 25 (.tmp 41)⟩,
    ⟨some 43, some (37, false), .call ⟨.value (.func 39), #[.tmp 39, .tmp 42], #[25, 25]⟩⟩,
    ⟨some 44, some (31, true), .pick (.tmp 37) (.const (.bool true)) (.tmp 43)⟩,
    ⟨some 45, none, .pick (.tmp 31) (.tmp 44) (.const (.bool false))⟩])
  (.cond (.tmp 45)
  (.seq (.reg [⟨some 4, none, .assign (.const (.int .i64 2))⟩])
  .ret)
  .skip))
  (.seq (.reg [⟨some 47, none, .binOp .eql 3 (.tmp 19) (.const (.int .i64 412)) 3⟩,
    ⟨some 46, none, .assign (.tmp 47)⟩])
  (.cond (.tmp 46)
  (.seq (.reg [⟨some 48, none, .fieldAddr 27 (.tmp 2) 2⟩,
    ⟨some 49, none, .load 25 (.tmp 48)⟩,
    ⟨some 50, none, .call ⟨.value (.func 34), #[.tmp 49], #[25]⟩⟩])
  (.cond (.tmp 50)
  (.seq (.reg [⟨some 4, none, .assign (.const (.int .i64 3))⟩])
  .ret)
  .skip))
  (.seq (.seq (.reg [⟨some 52, none, .binOp .eql 3 (.tmp 19) (.const (.int .i64 404)) 3⟩,
    ⟨some 51, none, .assign (.tmp 52)⟩])
  (.cond (.tmp 51)
  .skip
  (.reg [⟨some 53, none, .binOp .eql 3 (.tmp 19) (.const (.int .i64 410)) 3⟩,
    ⟨some 51, none, .assign (.tmp 53)⟩])))
  (.cond (.tmp 51)
  (.seq (.reg [⟨some 4, none, .assign (.const (.int .i64 4))⟩])
  .ret)
  (.seq (.reg [⟨some 55, none, .binOp .eql 3 (.tmp 19) (.const (.int .i64 416)) 3⟩,
    ⟨some 54, none, .assign (.tmp 55)⟩])
  (.cond (.tmp 54)
  (.seq (.reg [⟨some 56, none, .fieldAddr 32 (.tmp 3) 1⟩,
    ⟨some 57, none, .load 30 (.tmp 56)⟩,
    ⟨some 58, none, .call ⟨.value (.func 40), #[.tmp 57], #[30]⟩⟩,
    ⟨some 59, none, .move (.tmp 58)⟩,
    ⟨some 60, some (59, true), .fieldAddr 27 (.tmp 2) 1⟩,
    ⟨some 61, some (59, true), .fieldAddr 23 (.tmp 60) 0⟩,
    ⟨some 62, some (59, true), .load 2 (.tmp 61)⟩,
    ⟨some 63, some (59, true), .fieldAddr 32 (.tmp 3) 1⟩,
    ⟨some 64, some (59, true), .fieldAddr 30 (.tmp 63) 3⟩,
    ⟨some 65, some (59, true), .load 2 (.tmp 64)⟩,
    ⟨some 66, some (59, true), .binOp .geq 2 (.tmp 62) (.tmp 65) 2⟩,
    ⟨some 67, none, .pick (.tmp 59) (.tmp 66) (.const (.bool false))⟩])
  (.cond (.tmp 67)
  (.seq (.reg [⟨some 4, none, .assign (.const (.int .i64 5))⟩])
  .ret)
  .skip))
  .skip))))))))))))
  (.seq (.reg [⟨some 4, none, .assign (.const (.int .i64 6))⟩])
  .ret))))
theorem ok15 : FnOk Try.prog 15 68 [.tmp 4] c15 := ⟨hmix, Try.f15, Try.func15, by kernel_rfl, rfl, rfl, by kernel_rfl, by kernel_rfl⟩

/-- mandoline/fetch.Begin -/
def c16 : SC := (.seq (.reg [⟨some 1, none, .box 27 (.tmp 0)⟩,
    ⟨some 2, none, .assign (.const (.pointer .none))⟩,
    ⟨some 3, none, .assign (.const (.int .i64 0))⟩])
  (.seq (.seq (.reg [⟨some 4, none, .load 27 (.tmp 1)⟩,
    ⟨some 5, none, .call ⟨.value (.func 12), #[.tmp 4], #[27]⟩⟩,
    ⟨some 6, none, .unOp .not 4 (.tmp 5)⟩])
  (.cond (.tmp 6)
  (.seq (.reg [⟨some 2, none, .assign (.const (.pointer .none))⟩,
    ⟨some 3, none, .assign (.const (.int .i64 1))⟩])
  .ret)
  .skip))
  (.seq (.reg [⟨some 7, none, .load 27 (.tmp 1)⟩,
    ⟨some 8, none, .build 74 #[(0, .tmp 7)]⟩,
    ⟨some 9, none, .box 74 (.tmp 8)⟩,
    ⟨some 2, none, .assign (.tmp 9)⟩,
    ⟨some 3, none, .assign (.const (.int .i64 0))⟩])
  .ret)))
theorem ok16 : FnOk Try.prog 16 10 [.tmp 2, .tmp 3] c16 := ⟨hmix, Try.f16, Try.func16, by kernel_rfl, rfl, rfl, by kernel_rfl, by kernel_rfl⟩

/-- mandoline/mandolineref38.Begin -/
def c17 : SC := (.seq (.reg [⟨some 1, none, .box 27 (.tmp 0)⟩,
    ⟨some 2, none, .alloc 46⟩,
    ⟨some 3, none, .assign (.const (.int .i64 0))⟩])
  (.seq (.seq (.reg [⟨some 4, none, .load 27 (.tmp 1)⟩,
    ⟨some 5, none, .call ⟨.value (.func 13), #[.tmp 4], #[27]⟩⟩,
    ⟨some 6, none, .unOp .not 4 (.tmp 5)⟩])
  (.cond (.tmp 6)
  (.seq (.reg [⟨some 7, none, .build 46 #[]⟩,
    ⟨none, none, .store 46 (.tmp 2) (.tmp 7)⟩,
    ⟨some 3, none, .assign (.const (.int .i64 1))⟩])
  .ret)
  .skip))
  (.seq (.reg [⟨some 8, none, .load 27 (.tmp 1)⟩,
    ⟨some 9, none, .build 46 #[(0, .tmp 8)]⟩,
    ⟨none, none, .store 46 (.tmp 2) (.tmp 9)⟩,
    ⟨some 3, none, .assign (.const (.int .i64 0))⟩])
  .ret)))
theorem ok17 : FnOk Try.prog 17 10 [.cell 2 46, .tmp 3] c17 := ⟨hmix, Try.f17, Try.func17, by kernel_rfl, rfl, rfl, by kernel_rfl, by kernel_rfl⟩

/-- (*mandoline/fetch.Fetch).Reply -/
def c18 : SC := (.seq (.reg [⟨some 3, none, .box 32 (.tmp 1)⟩,
    ⟨some 4, none, .assign (.const (.int .i64 0))⟩,
    ⟨some 5, none, .assign (.const (.int .i64 0))⟩])
  (.seq (.seq (.reg [⟨some 7, none, .move (.tmp 0)⟩,
    ⟨some 8, none, .call ⟨.value (.func 41), #[.tmp 7, .const (.int .i64 0)], #[41, 3]⟩⟩,
    ⟨some 9, none, .unOp .not 4 (.tmp 8)⟩])
  (.cond (.tmp 9)
  (.seq (.reg [⟨some 4, none, .assign (.const (.int .i64 0))⟩,
    ⟨some 5, none, .assign (.const (.int .i64 11))⟩])
  .ret)
  .skip))
  (.seq (.draw #[⟨some 10, .move (.tmp 0), 41, "fetch.go:109", #[], none⟩,
    ⟨some 11, .nilCheck (.tmp 10), 0, "fetch.go:109", #[⟨0, .data⟩], none⟩,
    ⟨some 12, .fieldAddr 74 (.tmp 11) 0, 0, "fetch.go:109", #[⟨1, .data⟩], none⟩,
    ⟨some 13, .load 27 (.tmp 12), 27, "fetch.go:109", #[⟨2, .data⟩], none⟩,
    ⟨some 14, .load 32 (.tmp 3), 32, "fetch.go:109", #[], none⟩,
    ⟨some 15, .call ⟨.value (.func 14), #[.tmp 13, .tmp 14], #[27, 32]⟩, 3, "fetch.go:109", #[⟨3, .data⟩, ⟨4, .data⟩], none⟩,
    ⟨some 6, .assign (.tmp 15), 3, "fetch.go:109", #[⟨5, .data⟩, ⟨5, .chain⟩, ⟨0, .phase⟩, ⟨1, .phase⟩, ⟨2, .phase⟩, ⟨3, .phase⟩, ⟨4, .phase⟩, ⟨5, .phase⟩], none⟩]
    [⟨some 10, none, .move (.tmp 0)⟩,
    ⟨some 11, none, .nilCheck (.tmp 10)⟩,
    ⟨some 12, none, .fieldAddr 74 (.tmp 11) 0⟩,
    ⟨some 13, none, .load 27 (.tmp 12)⟩,
    ⟨some 14, none, .load 32 (.tmp 3)⟩,
    ⟨some 15, none, .call ⟨.value (.func 14), #[.tmp 13, .tmp 14], #[27, 32]⟩⟩,
    ⟨some 6, none, .assign (.tmp 15)⟩])
  (.seq (.reg [⟨some 16, none, .move (.tmp 0)⟩,
    ⟨some 17, none, .nilCheck (.tmp 16)⟩,
    ⟨some 18, none, .fieldAddr 74 (.tmp 17) 1⟩,
    ⟨none, none, .store 3 (.tmp 18) (.const (.int .i64 2))⟩])
  (.seq (.seq (.reg [⟨some 19, none, .move (.tmp 6)⟩,
    ⟨some 20, none, .binOp .eql 3 (.tmp 19) (.const (.int .i64 1)) 3⟩])
  (.cond (.tmp 20)
  (.draw #[⟨some 21, .move (.tmp 0), 41, "fetch.go:112", #[], none⟩,
    ⟨some 22, .move (.tmp 0), 41, "fetch.go:112", #[⟨6, .gcOnly .lateStores⟩], none⟩,
    ⟨some 23, .fieldAddr 32 (.tmp 3) 2, 0, "fetch.go:112", #[⟨6, .gcOnly .lateStores⟩], none⟩,
    ⟨some 24, .load 23 (.tmp 23), 23, "fetch.go:112", #[⟨2, .data⟩, ⟨6, .gcOnly .lateStores⟩], none⟩,
    ⟨some 25, .nilCheck (.tmp 21), 0, "fetch.go:112", #[⟨0, .data⟩, ⟨0, .phase⟩, ⟨1, .textOnly .lateStores⟩, ⟨2, .textOnly .lateStores⟩, ⟨3, .textOnly .lateStores⟩], none⟩,
    ⟨some 26, .fieldAddr 74 (.tmp 25) 1, 0, "fetch.go:112", #[⟨4, .data⟩, ⟨0, .phase⟩, ⟨1, .textOnly .lateStores⟩, ⟨2, .textOnly .lateStores⟩, ⟨3, .textOnly .lateStores⟩], none⟩,
    ⟨none, .store 3 (.tmp 26) (.const (.int .i64 1)), 0, "fetch.go:112", #[⟨5, .data⟩, ⟨0, .phase⟩, ⟨1, .textOnly .lateStores⟩, ⟨2, .textOnly .lateStores⟩, ⟨3, .textOnly .lateStores⟩], none⟩,
    ⟨some 27, .nilCheck (.tmp 22), 0, "fetch.go:112", #[⟨1, .data⟩, ⟨0, .phase⟩, ⟨1, .phase⟩, ⟨2, .phase⟩, ⟨3, .phase⟩, ⟨4, .phase⟩, ⟨5, .phase⟩, ⟨6, .phase⟩], none⟩,
    ⟨some 28, .fieldAddr 74 (.tmp 27) 2, 0, "fetch.go:112", #[⟨7, .data⟩, ⟨0, .phase⟩, ⟨1, .phase⟩, ⟨2, .phase⟩, ⟨3, .phase⟩, ⟨4, .phase⟩, ⟨5, .phase⟩, ⟨6, .phase⟩], none⟩,
    ⟨none, .store 23 (.tmp 28) (.tmp 24), 0, "fetch.go:112", #[⟨8, .data⟩, ⟨3, .data⟩, ⟨6, .chain⟩, ⟨0, .phase⟩, ⟨1, .phase⟩, ⟨2, .phase⟩, ⟨3, .phase⟩, ⟨4, .phase⟩, ⟨5, .phase⟩, ⟨6, .phase⟩], none⟩]
    [⟨some 21, none, .move (.tmp 0)⟩,
    ⟨some 22, none, .move (.tmp 0)⟩,
    ⟨some 23, none, .fieldAddr 32 (.tmp 3) 2⟩,
    ⟨some 24, none, .load 23 (.tmp 23)⟩,
    ⟨some 25, none, .nilCheck (.tmp 21)⟩,
    ⟨some 26, none, .fieldAddr 74 (.tmp 25) 1⟩,
    ⟨none, none, .store 3 (.tmp 26) (.const (.int .i64 1))⟩,
    ⟨some 27, none, .nilCheck (.tmp 22)⟩,
    ⟨some 28, none, .fieldAddr 74 (.tmp 27) 2⟩,
    ⟨none, none, .store 23 (.tmp 28) (.tmp 24)⟩])
  .skip))
  (.seq (.reg [⟨some 29, none, .move (.tmp 6)⟩,
    ⟨some 4, none, .assign (.tmp 29)⟩,
    ⟨some 5, none, .assign (.const (.int .i64 0))⟩])
  .ret))))))
theorem ok18 : FnOk Try.prog 18 30 [.tmp 4, .tmp 5] c18 := ⟨hmix, Try.f18, Try.func18, by kernel_rfl, rfl, rfl, by kernel_rfl, by kernel_rfl⟩

/-- mandoline/mandolineref38.Reply -/
def c19 : SC := (.seq (.reg [⟨some 2, none, .box 46 (.tmp 0)⟩,
    ⟨some 3, none, .box 32 (.tmp 1)⟩,
    ⟨some 4, none, .alloc 46⟩,
    ⟨some 5, none, .assign (.const (.int .i64 0))⟩,
    ⟨some 6, none, .assign (.const (.int .i64 0))⟩])
  (.seq (.seq (.reg [⟨some 8, none, .fieldAddr 46 (.tmp 2) 1⟩,
    ⟨some 9, none, .load 3 (.tmp 8)⟩,
    ⟨some 10, none, .binOp .neq 3 (.tmp 9) (.const (.int .i64 0)) 3⟩])
  (.cond (.tmp 10)
  (.seq (.reg [⟨some 11, none, .load 46 (.tmp 2)⟩,
    ⟨none, none, .store 46 (.tmp 4) (.tmp 11)⟩,
    ⟨some 5, none, .assign (.const (.int .i64 0))⟩,
    ⟨some 6, none, .assign (.const (.int .i64 11))⟩])
  .ret)
  .skip))
  (.seq (.reg [⟨some 12, none, .fieldAddr 46 (.tmp 2) 0⟩,
    ⟨some 13, none, .load 27 (.tmp 12)⟩,
    ⟨some 14, none, .load 32 (.tmp 3)⟩,
    ⟨some 15, none, .call ⟨.value (.func 15), #[.tmp 13, .tmp 14], #[27, 32]⟩⟩,
    ⟨some 7, none, .assign (.tmp 15)⟩])
  (.seq (.reg [⟨some 16, none, .fieldAddr 46 (.tmp 2) 1⟩,
    ⟨none, none, .store 3 (.tmp 16) (.const (.int .i64 2))⟩])
  (.seq (.seq (.reg [⟨some 17, none, .move (.tmp 7)⟩,
    ⟨some 18, none, .binOp .eql 3 (.tmp 17) (.const (.int .i64 1)) 3⟩])
  (.cond (.tmp 18)
  (.seq (.reg [⟨some 19, none, .fieldAddr 46 (.tmp 2) 1⟩,
    ⟨none, none, .store 3 (.tmp 19) (.const (.int .i64 1))⟩])
  (.reg [⟨some 20, none, .fieldAddr 32 (.tmp 3) 2⟩,
    ⟨some 21, none, .load 23 (.tmp 20)⟩,
    ⟨some 22, none, .fieldAddr 46 (.tmp 2) 2⟩,
    ⟨none, none, .store 23 (.tmp 22) (.tmp 21)⟩]))
  .skip))
  (.seq (.reg [⟨some 23, none, .load 46 (.tmp 2)⟩,
    ⟨some 24, none, .move (.tmp 7)⟩,
    ⟨none, none, .store 46 (.tmp 4) (.tmp 23)⟩,
    ⟨some 5, none, .assign (.tmp 24)⟩,
    ⟨some 6, none, .assign (.const (.int .i64 0))⟩])
  .ret))))))
theorem ok19 : FnOk Try.prog 19 25 [.cell 4 46, .tmp 5, .tmp 6] c19 := ⟨hmix, Try.f19, Try.func19, by kernel_rfl, rfl, rfl, by kernel_rfl, by kernel_rfl⟩

/-- (*mandoline/fetch.Fetch).Data -/
def c20 : SC := (.seq (.reg [⟨some 4, none, .alloc 23⟩,
    ⟨some 5, none, .assign (.const (.int .i64 0))⟩])
  (.seq (.block 0 (.seq (.reg [⟨some 8, none, .move (.tmp 0)⟩,
    ⟨some 9, none, .call ⟨.value (.func 41), #[.tmp 8, .const (.int .i64 1)], #[41, 3]⟩⟩,
    ⟨some 10, none, .unOp .not 4 (.tmp 9)⟩,
    ⟨some 7, none, .assign (.tmp 10)⟩])
  (.cond (.tmp 7)
  (.seq (.reg [⟨some 11, none, .build 23 #[]⟩,
    ⟨none, none, .store 23 (.tmp 4) (.tmp 11)⟩,
    ⟨some 5, none, .assign (.const (.int .i64 11))⟩])
  .ret)
  (.seq (.reg [⟨some 13, none, .move (.tmp 1)⟩,
    ⟨some 14, none, .binOp .lss 2 (.tmp 13) (.const (.int .i64 1)) 2⟩,
    ⟨some 12, none, .assign (.tmp 14)⟩])
  (.cond (.tmp 12)
  (.seq (.reg [⟨some 15, none, .build 23 #[]⟩,
    ⟨none, none, .store 23 (.tmp 4) (.tmp 15)⟩,
    ⟨some 5, none, .assign (.const (.int .i64 1))⟩])
  .ret)
  (.seq (.draw #[⟨some 17, .move (.tmp 1), 2, "fetch.go:124", #[], none⟩,
    ⟨some 18, .move (.tmp 0), 41, "fetch.go:124", #[], none⟩,
    ⟨some 19, .nilCheck (.tmp 18), 0, "fetch.go:124", #[⟨1, .data⟩], none⟩,
    ⟨some 20, .fieldAddr 74 (.tmp 19) 2, 0, "fetch.go:124", #[⟨2, .data⟩], none⟩,
    ⟨some 21, .fieldAddr 23 (.tmp 20) 1, 0, "fetch.go:124", #[⟨3, .data⟩], none⟩,
    ⟨some 22, .load 2 (.tmp 21), 2, "fetch.go:124", #[⟨4, .data⟩], none⟩,
    ⟨some 23, .move (.tmp 0), 41, "fetch.go:124", #[], none⟩,
    ⟨some 24, .nilCheck (.tmp 23), 0, "fetch.go:124", #[⟨6, .data⟩], none⟩,
    ⟨some 25, .fieldAddr 74 (.tmp 24) 2, 0, "fetch.go:124", #[⟨7, .data⟩], none⟩,
    ⟨some 26, .fieldAddr 23 (.tmp 25) 0, 0, "fetch.go:124", #[⟨8, .data⟩], none⟩,
    ⟨some 27, .load 2 (.tmp 26), 2, "fetch.go:124", #[⟨9, .data⟩], none⟩,
    ⟨some 28, .binOp .sub 2 (.tmp 22) (.tmp 27) 2, 2, "fetch.go:124", #[⟨5, .data⟩, ⟨10, .data⟩], none⟩,
    ⟨some 29, .binOp .gtr 2 (.tmp 17) (.tmp 28) 2, 4, "fetch.go:124", #[⟨0, .data⟩, ⟨11, .data⟩], none⟩,
    ⟨some 16, .assign (.tmp 29), 4, "fetch.go:124", #[⟨12, .data⟩], none⟩]
    [⟨some 17, none, .move (.tmp 1)⟩,
    ⟨some 18, none, .move (.tmp 0)⟩,
    ⟨some 19, none, .nilCheck (.tmp 18)⟩,
    ⟨some 20, none, .fieldAddr 74 (.tmp 19) 2⟩,
    ⟨some 21, none, .fieldAddr 23 (.tmp 20) 1⟩,
    ⟨some 22, none, .load 2 (.tmp 21)⟩,
    ⟨some 23, none, .move (.tmp 0)⟩,
    ⟨some 24, none, .nilCheck (.tmp 23)⟩,
    ⟨some 25, none, .fieldAddr 74 (.tmp 24) 2⟩,
    ⟨some 26, none, .fieldAddr 23 (.tmp 25) 0⟩,
    ⟨some 27, none, .load 2 (.tmp 26)⟩,
    ⟨some 28, none, .binOp .sub 2 (.tmp 22) (.tmp 27) 2⟩,
    ⟨some 29, none, .binOp .gtr 2 (.tmp 17) (.tmp 28) 2⟩,
    ⟨some 16, none, .assign (.tmp 29)⟩])
  (.cond (.tmp 16)
  (.seq (.reg [⟨some 30, none, .build 23 #[]⟩,
    ⟨none, none, .store 23 (.tmp 4) (.tmp 30)⟩,
    ⟨some 5, none, .assign (.const (.int .i64 4))⟩])
  .ret)
  .skip)))))))
  (.seq (.draw #[⟨some 31, .move (.tmp 0), 41, "fetch.go:127", #[], none⟩,
    ⟨some 32, .nilCheck (.tmp 31), 0, "fetch.go:127", #[⟨0, .data⟩], none⟩,
    ⟨some 33, .fieldAddr 74 (.tmp 32) 2, 0, "fetch.go:127", #[⟨1, .data⟩], none⟩,
    ⟨some 34, .fieldAddr 23 (.tmp 33) 0, 0, "fetch.go:127", #[⟨2, .data⟩], none⟩,
    ⟨some 35, .load 2 (.tmp 34), 2, "fetch.go:127", #[⟨3, .data⟩], none⟩,
    ⟨some 36, .move (.tmp 0), 41, "fetch.go:127", #[], none⟩,
    ⟨some 37, .nilCheck (.tmp 36), 0, "fetch.go:127", #[⟨5, .data⟩], none⟩,
    ⟨some 38, .fieldAddr 74 (.tmp 37) 2, 0, "fetch.go:127", #[⟨6, .data⟩], none⟩,
    ⟨some 39, .fieldAddr 23 (.tmp 38) 0, 0, "fetch.go:127", #[⟨7, .data⟩], none⟩,
    ⟨some 40, .load 2 (.tmp 39), 2, "fetch.go:127", #[⟨8, .data⟩], none⟩,
    ⟨some 41, .move (.tmp 1), 2, "fetch.go:127", #[], none⟩,
    ⟨some 42, .binOp .add 2 (.tmp 40) (.tmp 41) 2, 2, "fetch.go:127", #[⟨9, .data⟩, ⟨10, .data⟩], none⟩,
    ⟨some 43, .build 23 #[(0, .tmp 35), (1, .tmp 42)], 23, "fetch.go:127", #[⟨4, .data⟩, ⟨11, .data⟩], none⟩,
    ⟨some 6, .alloc 23, 0, "fetch.go:127", #[], none⟩,
    ⟨none, .store 23 (.tmp 6) (.tmp 43), 0, "fetch.go:127", #[⟨13, .data⟩, ⟨12, .data⟩, ⟨0, .phase⟩, ⟨1, .phase⟩, ⟨2, .phase⟩, ⟨3, .phase⟩, ⟨4, .phase⟩, ⟨5, .phase⟩, ⟨6, .phase⟩, ⟨7, .phase⟩, ⟨8, .phase⟩, ⟨9, .phase⟩, ⟨10, .phase⟩, ⟨11, .phase⟩, ⟨12, .phase⟩, ⟨13, .phase⟩], none⟩]
    [⟨some 31, none, .move (.tmp 0)⟩,
    ⟨some 32, none, .nilCheck (.tmp 31)⟩,
    ⟨some 33, none, .fieldAddr 74 (.tmp 32) 2⟩,
    ⟨some 34, none, .fieldAddr 23 (.tmp 33) 0⟩,
    ⟨some 35, none, .load 2 (.tmp 34)⟩,
    ⟨some 36, none, .move (.tmp 0)⟩,
    ⟨some 37, none, .nilCheck (.tmp 36)⟩,
    ⟨some 38, none, .fieldAddr 74 (.tmp 37) 2⟩,
    ⟨some 39, none, .fieldAddr 23 (.tmp 38) 0⟩,
    ⟨some 40, none, .load 2 (.tmp 39)⟩,
    ⟨some 41, none, .move (.tmp 1)⟩,
    ⟨some 42, none, .binOp .add 2 (.tmp 40) (.tmp 41) 2⟩,
    ⟨some 43, none, .build 23 #[(0, .tmp 35), (1, .tmp 42)]⟩,
    ⟨some 6, none, .alloc 23⟩,
    ⟨none, none, .store 23 (.tmp 6) (.tmp 43)⟩])
  (.seq (.reg [⟨some 44, none, .move (.tmp 0)⟩,
    ⟨some 45, none, .fieldAddr 23 (.tmp 6) 1⟩,
    ⟨some 46, none, .load 2 (.tmp 45)⟩,
    ⟨some 47, none, .nilCheck (.tmp 44)⟩,
    ⟨some 48, none, .fieldAddr 74 (.tmp 47) 2⟩,
    ⟨some 49, none, .fieldAddr 23 (.tmp 48) 0⟩,
    ⟨none, none, .store 2 (.tmp 49) (.tmp 46)⟩])
  (.seq (.reg [⟨some 50, none, .load 23 (.tmp 6)⟩,
    ⟨none, none, .store 23 (.tmp 4) (.tmp 50)⟩,
    ⟨some 5, none, .assign (.const (.int .i64 0))⟩])
  .ret)))))
theorem ok20 : FnOk Try.prog 20 51 [.cell 4 23, .tmp 5] c20 := ⟨hmix, Try.f20, Try.func20, by kernel_rfl, rfl, rfl, by kernel_rfl, by kernel_rfl⟩

/-- mandoline/mandolineref38.Data -/
def c21 : SC := (.seq (.reg [⟨some 2, none, .box 46 (.tmp 0)⟩,
    ⟨some 4, none, .alloc 46⟩,
    ⟨some 5, none, .alloc 23⟩,
    ⟨some 6, none, .assign (.const (.int .i64 0))⟩])
  (.seq (.seq (.reg [⟨some 8, none, .fieldAddr 46 (.tmp 2) 1⟩,
    ⟨some 9, none, .load 3 (.tmp 8)⟩,
    ⟨some 10, none, .binOp .neq 3 (.tmp 9) (.const (.int .i64 1)) 3⟩])
  (.cond (.tmp 10)
  (.seq (.reg [⟨some 11, none, .load 46 (.tmp 2)⟩,
    ⟨some 12, none, .build 23 #[]⟩,
    ⟨none, none, .store 46 (.tmp 4) (.tmp 11)⟩,
    ⟨none, none, .store 23 (.tmp 5) (.tmp 12)⟩,
    ⟨some 6, none, .assign (.const (.int .i64 11))⟩])
  .ret)
  .skip))
  (.seq (.seq (.reg [⟨some 13, none, .move (.tmp 1)⟩,
    ⟨some 14, none, .binOp .lss 2 (.tmp 13) (.const (.int .i64 1)) 2⟩])
  (.cond (.tmp 14)
  (.seq (.reg [⟨some 15, none, .load 46 (.tmp 2)⟩,
    ⟨some 16, none, .build 23 #[]⟩,
    ⟨none, none, .store 46 (.tmp 4) (.tmp 15)⟩,
    ⟨none, none, .store 23 (.tmp 5) (.tmp 16)⟩,
    ⟨some 6, none, .assign (.const (.int .i64 1))⟩])
  .ret)
  .skip))
  (.seq (.seq (.reg [⟨some 17, none, .move (.tmp 1)⟩,
    ⟨some 18, none, .fieldAddr 46 (.tmp 2) 2⟩,
    ⟨some 19, none, .fieldAddr 23 (.tmp 18) 1⟩,
    ⟨some 20, none, .load 2 (.tmp 19)⟩,
    ⟨some 21, none, .fieldAddr 46 (.tmp 2) 2⟩,
    ⟨some 22, none, .fieldAddr 23 (.tmp 21) 0⟩,
    ⟨some 23, none, .load 2 (.tmp 22)⟩,
    ⟨some 24, none, .binOp .sub 2 (.tmp 20) (.tmp 23) 2⟩,
    ⟨some 25, none, .binOp .gtr 2 (.tmp 17) (.tmp 24) 2⟩])
  (.cond (.tmp 25)
  (.seq (.reg [⟨some 26, none, .load 46 (.tmp 2)⟩,
    ⟨some 27, none, .build 23 #[]⟩,
    ⟨none, none, .store 46 (.tmp 4) (.tmp 26)⟩,
    ⟨none, none, .store 23 (.tmp 5) (.tmp 27)⟩,
    ⟨some 6, none, .assign (.const (.int .i64 4))⟩])
  .ret)
  .skip))
  (.seq (.reg [⟨some 28, none, .fieldAddr 46 (.tmp 2) 2⟩,
    ⟨some 29, none, .fieldAddr 23 (.tmp 28) 0⟩,
    ⟨some 30, none, .load 2 (.tmp 29)⟩,
    ⟨some 31, none, .fieldAddr 46 (.tmp 2) 2⟩,
    ⟨some 32, none, .fieldAddr 23 (.tmp 31) 0⟩,
    ⟨some 33, none, .load 2 (.tmp 32)⟩,
    ⟨some 34, none, .move (.tmp 1)⟩,
    ⟨some 35, none, .binOp .add 2 (.tmp 33) (.tmp 34) 2⟩,
    ⟨some 36, none, .build 23 #[(0, .tmp 30), (1, .tmp 35)]⟩,
    ⟨some 7, none, .alloc 23⟩,
    ⟨none, none, .store 23 (.tmp 7) (.tmp 36)⟩])
  (.seq (.reg [⟨some 37, none, .fieldAddr 23 (.tmp 7) 1⟩,
    ⟨some 38, none, .load 2 (.tmp 37)⟩,
    ⟨some 39, none, .fieldAddr 46 (.tmp 2) 2⟩,
    ⟨some 40, none, .fieldAddr 23 (.tmp 39) 0⟩,
    ⟨none, none, .store 2 (.tmp 40) (.tmp 38)⟩])
  (.seq (.draw #[⟨some 41, .load 46 (.tmp 2), 46, "ref.go:116", #[], none⟩,
    ⟨some 42, .load 23 (.tmp 7), 23, "ref.go:116", #[⟨2, .gcOnly .lateStores⟩], none⟩,
    ⟨none, .store 46 (.tmp 4) (.tmp 41), 0, "ref.go:116", #[⟨0, .data⟩, ⟨0, .phase⟩, ⟨1, .textOnly .lateStores⟩], none⟩,
    ⟨none, .store 23 (.tmp 5) (.tmp 42), 0, "ref.go:116", #[⟨1, .data⟩, ⟨2, .chain⟩, ⟨0, .phase⟩, ⟨1, .phase⟩, ⟨2, .phase⟩], none⟩,
    ⟨some 6, .assign (.const (.int .i64 0)), 42, "ref.go:116", #[⟨3, .chain⟩, ⟨0, .phase⟩, ⟨1, .phase⟩, ⟨2, .phase⟩, ⟨3, .phase⟩], none⟩]
    [⟨some 41, none, .load 46 (.tmp 2)⟩,
    ⟨some 42, none, .load 23 (.tmp 7)⟩,
    ⟨none, none, .store 46 (.tmp 4) (.tmp 41)⟩,
    ⟨none, none, .store 23 (.tmp 5) (.tmp 42)⟩,
    ⟨some 6, none, .assign (.const (.int .i64 0))⟩])
  .ret)))))))
theorem ok21 : FnOk Try.prog 21 43 [.cell 4 46, .cell 5 23, .tmp 6] c21 := ⟨hmix, Try.f21, Try.func21, by kernel_rfl, rfl, rfl, by kernel_rfl, by kernel_rfl⟩

/-- (*mandoline/fetch.Fetch).Close -/
def c22 : SC := (.seq (.reg [⟨some 4, none, .assign (.const (.int .i64 0))⟩])
  (.seq (.seq (.reg [⟨some 6, none, .move (.tmp 0)⟩,
    ⟨some 7, none, .binOp .eql 41 (.tmp 6) (.const (.pointer .none)) 41⟩,
    ⟨some 8, none, .move (.tmp 7)⟩,
    ⟨some 9, some (8, false), .move (.tmp 0)⟩,
    ⟨some 10, some (8, false), .nilCheck (.tmp 9)⟩,
    ⟨some 11, some (8, false), .fieldAddr 74 (.tmp 10) 1⟩,
    ⟨some 12, some (8, false), .load 3 (.tmp 11)⟩,
    ⟨some 13, some (8, false), .binOp .eql 3 (.tmp 12) (.const (.int .i64 2)) 3⟩,
    ⟨some 14, none, .pick (.tmp 8) (.const (.bool true)) (.tmp 13)⟩])
  (.cond (.tmp 14)
  (.seq (.reg [⟨some 4, none, .assign (.const (.int .i64 11))⟩])
  .ret)
  .skip))
  (.seq (.draw #[⟨some 15, .move (.tmp 0), 41, "fetch.go:137", #[], none⟩,
    ⟨some 16, .nilCheck (.tmp 15), 0, "fetch.go:137", #[⟨0, .data⟩], none⟩,
    ⟨some 17, .fieldAddr 74 (.tmp 16) 1, 0, "fetch.go:137", #[⟨1, .data⟩], none⟩,
    ⟨some 18, .load 3 (.tmp 17), 3, "fetch.go:137", #[⟨2, .data⟩], none⟩,
    ⟨some 19, .binOp .eql 3 (.tmp 18) (.const (.int .i64 1)) 3, 4, "fetch.go:137", #[⟨3, .data⟩], none⟩,
    ⟨some 20, .move (.tmp 19), 4, "fetch.go:137", #[⟨4, .data⟩], none⟩,
    ⟨some 21, .move (.tmp 0), 41, "fetch.go:137", #[⟨5, .guard⟩], some (5, true)⟩,
    ⟨some 22, .nilCheck (.tmp 21), 0, "fetch.go:137", #[⟨6, .data⟩, ⟨5, .guard⟩], some (5, true)⟩,
    ⟨some 23, .fieldAddr 74 (.tmp 22) 2, 0, "fetch.go:137", #[⟨7, .data⟩, ⟨5, .guard⟩], some (5, true)⟩,
    ⟨some 24, .fieldAddr 23 (.tmp 23) 0, 0, "fetch.go:137", #[⟨8, .data⟩, ⟨5, .guard⟩], some (5, true)⟩,
    ⟨some 25, .load 2 (.tmp 24), 2, "fetch.go:137", #[⟨9, .data⟩, ⟨5, .guard⟩], some (5, true)⟩,
    ⟨some 26, .move (.tmp 0), 41, "fetch.go:137", #[⟨5, .guard⟩], some (5, true)⟩,
    ⟨some 27, .nilCheck (.tmp 26), 0, "fetch.go:137", #[⟨11, .data⟩, ⟨5, .guard⟩], some (5, true)⟩,
    ⟨some 28, .fieldAddr 74 (.tmp 27) 2, 0, "fetch.go:137", #[⟨12, .data⟩, ⟨5, .guard⟩], some (5, true)⟩,
    ⟨some 29, .fieldAddr 23 (.tmp 28) 1, 0, "fetch.go:137", #[⟨13, .data⟩, ⟨5, .guard⟩], some (5, true)⟩,
    ⟨some 30, .load 2 (.tmp 29), 2, "fetch.go:137", #[⟨14, .data⟩, ⟨5, .guard⟩], some (5, true)⟩,
    ⟨some 31, .binOp .eql 2 (.tmp 25) (.tmp 30) 2, 4, "fetch.go:137", #[⟨10, .data⟩, ⟨15, .data⟩, ⟨5, .guard⟩], some (5, true)⟩,
    ⟨some 32, .move (.tmp 31), 4, "fetch.go:137", #[⟨16, .data⟩, ⟨5, .chain⟩, ⟨5, .guard⟩], some (5, true)⟩,
    ⟨some 33, .move (.tmp 0), 41, "fetch.go:137", #[⟨17, .guard⟩], some (17, false)⟩,
    ⟨some 34, .nilCheck (.tmp 33), 0, "fetch.go:137", #[⟨18, .data⟩, ⟨17, .guard⟩], some (17, false)⟩,
    ⟨some 35, .fieldAddr 74 (.tmp 34) 2, 0, "fetch.go:137", #[⟨19, .data⟩, ⟨17, .guard⟩], some (17, false)⟩,
    ⟨some 36, .fieldAddr 23 (.tmp 35) 1, 0, "fetch.go:137", #[⟨20, .data⟩, ⟨17, .guard⟩], some (17, false)⟩,
    ⟨some 37, .load 2 (.tmp 36), 2, "fetch.go:137", #[⟨21, .data⟩, ⟨17, .guard⟩], some (17, false)⟩,
    ⟨some 38, .binOp .eql 2 (.tmp 37) (.const (.int .i64 4611686018427387904)) 2, 4, "fetch.go:137", #[⟨22, .data⟩, ⟨17, .guard⟩], some (17, false)⟩,
    ⟨some 39, .pick (.tmp 32) (.const (.bool true)) (.tmp 38), 4, "fetch.go:137", #[⟨17, .data⟩, ⟨23, .data⟩, ⟨5, .guard⟩], some (5, true)⟩,
    ⟨some 40, .pick (.tmp 20) (.tmp 39) (.const (.bool false)), 4, "fetch.go:137", #[⟨5, .data⟩, ⟨24, .data⟩], none⟩,
    ⟨some 5, .assign (.tmp 40), 4, "fetch.go:137", #[⟨25, .data⟩, ⟨17, .chain⟩, ⟨0, .phase⟩, ⟨1, .phase⟩, ⟨2, .phase⟩, ⟨3, .phase⟩, ⟨4, .phase⟩, ⟨5, .phase⟩, ⟨6, .phase⟩, ⟨7, .phase⟩, ⟨8, .phase⟩, ⟨9, .phase⟩, ⟨10, .phase⟩, ⟨11, .phase⟩, ⟨12, .phase⟩, ⟨13, .phase⟩, ⟨14, .phase⟩, ⟨15, .phase⟩, ⟨16, .phase⟩, ⟨17, .phase⟩, ⟨18, .phase⟩, ⟨19, .phase⟩, ⟨20, .phase⟩, ⟨21, .phase⟩, ⟨22, .phase⟩, ⟨23, .phase⟩, ⟨24, .phase⟩, ⟨25, .phase⟩], none⟩]
    [⟨some 15, none, .move (.tmp 0)⟩,
    ⟨some 16, none, .nilCheck (.tmp 15)⟩,
    ⟨some 17, none, .fieldAddr 74 (.tmp 16) 1⟩,
    ⟨some 18, none, .load 3 (.tmp 17)⟩,
    ⟨some 19, none, .binOp .eql 3 (.tmp 18) (.const (.int .i64 1)) 3⟩,
    ⟨some 20, none, .move (.tmp 19)⟩,
    ⟨some 21, some (20, true), .move (.tmp 0)⟩,
    ⟨some 22, some (20, true), .nilCheck (.tmp 21)⟩,
    ⟨some 23, some (20, true), .fieldAddr 74 (.tmp 22) 2⟩,
    ⟨some 24, some (20, true), .fieldAddr 23 (.tmp 23) 0⟩,
    ⟨some 25, some (20, true), .load 2 (.tmp 24)⟩,
    ⟨some 26, some (20, true), .move (.tmp 0)⟩,
    ⟨some 27, some (20, true), .nilCheck (.tmp 26)⟩,
    ⟨some 28, some (20, true), .fieldAddr 74 (.tmp 27) 2⟩,
    ⟨some 29, some (20, true), .fieldAddr 23 (.tmp 28) 1⟩,
    ⟨some 30, some (20, true), .load 2 (.tmp 29)⟩,
    ⟨some 31, some (20, true), .binOp .eql 2 (.tmp 25) (.tmp 30) 2⟩,
    ⟨some 32, some (20, true), .move (.tmp 31)⟩,
    ⟨some 33, some (32, false), .move (.tmp 0)⟩,
    ⟨some 34, some (32, false), .nilCheck (.tmp 33)⟩,
    ⟨some 35, some (32, false), .fieldAddr 74 (.tmp 34) 2⟩,
    ⟨some 36, some (32, false), .fieldAddr 23 (.tmp 35) 1⟩,
    ⟨some 37, some (32, false), .load 2 (.tmp 36)⟩,
    ⟨some 38, some (32, false), .binOp .eql 2 (.tmp 37) (.const (.int .i64 4611686018427387904)) 2⟩,
    ⟨some 39, some (20, true), .pick (.tmp 32) (.const (.bool true)) (.tmp 38)⟩,
    ⟨some 40, none, .pick (.tmp 20) (.tmp 39) (.const (.bool false))⟩,
    ⟨some 5, none, .assign (.tmp 40)⟩])
  (.seq (.reg [⟨some 41, none, .move (.tmp 0)⟩,
    ⟨some 42, none, .nilCheck (.tmp 41)⟩,
    ⟨some 43, none, .fieldAddr 74 (.tmp 42) 1⟩,
    ⟨none, none, .store 3 (.tmp 43) (.const (.int .i64 2))⟩])
  (.seq (.seq (.reg [⟨some 44, none, .move (.tmp 1)⟩,
    ⟨some 45, none, .unOp .not 4 (.tmp 44)⟩,
    ⟨some 46, none, .move (.tmp 45)⟩,
    ⟨some 47, some (46, false), .move (.tmp 5)⟩,
    ⟨some 48, some (46, false), .unOp .not 4 (.tmp 47)⟩,
    ⟨some 49, none, .pick (.tmp 46) (.const (.bool true)) (.tmp 48)⟩])
  (.cond (.tmp 49)
  (.seq (.reg [⟨some 4, none, .assign (.const (.int .i64 13))⟩])
  .ret)
  .skip))
  (.seq (.reg [⟨some 4, none, .assign (.const (.int .i64 0))⟩])
  .ret))))))
theorem ok22 : FnOk Try.prog 22 50 [.tmp 4] c22 := ⟨hmix, Try.f22, Try.func22, by kernel_rfl, rfl, rfl, by kernel_rfl, by kernel_rfl⟩

/-- mandoline/mandolineref38.Close -/
def c23 : SC := (.seq (.reg [⟨some 2, none, .box 46 (.tmp 0)⟩,
    ⟨some 4, none, .alloc 46⟩,
    ⟨some 5, none, .assign (.const (.int .i64 0))⟩])
  (.seq (.seq (.reg [⟨some 7, none, .fieldAddr 46 (.tmp 2) 1⟩,
    ⟨some 8, none, .load 3 (.tmp 7)⟩,
    ⟨some 9, none, .binOp .eql 3 (.tmp 8) (.const (.int .i64 2)) 3⟩])
  (.cond (.tmp 9)
  (.seq (.reg [⟨some 10, none, .load 46 (.tmp 2)⟩,
    ⟨none, none, .store 46 (.tmp 4) (.tmp 10)⟩,
    ⟨some 5, none, .assign (.const (.int .i64 11))⟩])
  .ret)
  .skip))
  (.seq (.reg [⟨some 11, none, .fieldAddr 46 (.tmp 2) 1⟩,
    ⟨some 12, none, .load 3 (.tmp 11)⟩,
    ⟨some 13, none, .binOp .eql 3 (.tmp 12) (.const (.int .i64 1)) 3⟩,
    ⟨some 14, none, .move (.tmp 13)⟩,
    ⟨some 15, some (14, true), .move (.tmp 1)⟩,
    ⟨some 16, none, .pick (.tmp 14) (.tmp 15) (.const (.bool false))⟩,
    ⟨some 17, none, .move (.tmp 16)⟩,
    ⟨some 18, some (17, true), .fieldAddr 46 (.tmp 2) 2⟩,
    ⟨some 19, some (17, true), .fieldAddr 23 (.tmp 18) 0⟩,
    ⟨some 20, some (17, true), .load 2 (.tmp 19)⟩,
    ⟨some 21, some (17, true), .fieldAddr 46 (.tmp 2) 2⟩,
    ⟨some 22, some (17, true), .fieldAddr 23 (.tmp 21) 1⟩,
    ⟨some 23, some (17, true), .load 2 (.tmp 22)⟩,
    ⟨some 24, some (17, true), .binOp .eql 2 (.tmp 20) (.tmp 23) 2⟩,
    ⟨some 25, some (17, true), .move (.tmp 24)⟩,
    ⟨some 26, some (25, false), .fieldAddr 46 (.tmp 2) 2⟩,
    ⟨some 27, some (25, false), .fieldAddr 23 (.tmp 26) 1⟩,
    ⟨some 28, some (25, false), .load 2 (.tmp 27)⟩,
    ⟨some 29, some (25, false), .binOp .eql 2 (.tmp 28) (.const (.int .i64 4611686018427387904)) 2⟩,
    ⟨some 30, some (17, true), .pick (.tmp 25) (.const (.bool true)) (.tmp 29)⟩,
    ⟨some 31, none, .pick (.tmp 17) (.tmp 30) (.const (.bool false))⟩,
    ⟨some 6, none, .assign (.tmp 31)⟩])
  (.seq (.reg [⟨some 32, none, .fieldAddr 46 (.tmp 2) 1⟩,
    ⟨none, none, .store 3 (.tmp 32) (.const (.int .i64 2))⟩])
  (.seq (.seq (.reg [⟨some 33, none, .move (.tmp 6)⟩])
  (.cond (.tmp 33)
  (.seq (.reg [⟨some 34, none, .load 46 (.tmp 2)⟩,
    ⟨none, none, .store 46 (.tmp 4) (.tmp 34)⟩,
    ⟨some 5, none, .assign (.const (.int .i64 0))⟩])
  .ret)
  .skip))
  (.seq (.reg [⟨some 35, none, .load 46 (.tmp 2)⟩,
    ⟨none, none, .store 46 (.tmp 4) (.tmp 35)⟩,
    ⟨some 5, none, .assign (.const (.int .i64 13))⟩])
  .ret))))))
theorem ok23 : FnOk Try.prog 23 36 [.cell 4 46, .tmp 5] c23 := ⟨hmix, Try.f23, Try.func23, by kernel_rfl, rfl, rfl, by kernel_rfl, by kernel_rfl⟩

/-- (*mandoline/fetch.Fetch).Rest -/
def c24 : SC := (.seq (.reg [⟨some 2, none, .alloc 23⟩,
    ⟨some 3, none, .assign (.const (.bool false))⟩])
  (.seq (.seq (.draw #[⟨some 4, .move (.tmp 0), 41, "fetch.go:147", #[], none⟩,
    ⟨some 5, .call ⟨.value (.func 41), #[.tmp 4, .const (.int .i64 1)], #[41, 3]⟩, 4, "fetch.go:147", #[⟨0, .data⟩], none⟩,
    ⟨some 6, .unOp .not 4 (.tmp 5), 4, "fetch.go:147", #[⟨1, .data⟩], none⟩,
    ⟨some 7, .move (.tmp 6), 4, "fetch.go:147", #[⟨2, .data⟩, ⟨1, .chain⟩], none⟩,
    ⟨some 8, .move (.tmp 0), 41, "fetch.go:147", #[⟨3, .guard⟩], some (3, false)⟩,
    ⟨some 9, .nilCheck (.tmp 8), 0, "fetch.go:147", #[⟨4, .data⟩, ⟨3, .guard⟩], some (3, false)⟩,
    ⟨some 10, .fieldAddr 74 (.tmp 9) 2, 0, "fetch.go:147", #[⟨5, .data⟩, ⟨3, .guard⟩], some (3, false)⟩,
    ⟨some 11, .fieldAddr 23 (.tmp 10) 0, 0, "fetch.go:147", #[⟨6, .data⟩, ⟨3, .guard⟩], some (3, false)⟩,
    ⟨some 12, .load 2 (.tmp 11), 2, "fetch.go:147", #[⟨7, .data⟩, ⟨3, .guard⟩], some (3, false)⟩,
    ⟨some 13, .move (.tmp 0), 41, "fetch.go:147", #[⟨3, .guard⟩], some (3, false)⟩,
    ⟨some 14, .nilCheck (.tmp 13), 0, "fetch.go:147", #[⟨9, .data⟩, ⟨3, .guard⟩], some (3, false)⟩,
    ⟨some 15, .fieldAddr 74 (.tmp 14) 2, 0, "fetch.go:147", #[⟨10, .data⟩, ⟨3, .guard⟩], some (3, false)⟩,
    ⟨some 16, .fieldAddr 23 (.tmp 15) 1, 0, "fetch.go:147", #[⟨11, .data⟩, ⟨3, .guard⟩], some (3, false)⟩,
    ⟨some 17, .load 2 (.tmp 16), 2, "fetch.go:147", #[⟨12, .data⟩, ⟨3, .guard⟩], some (3, false)⟩,
    ⟨some 18, .binOp .eql 2 (.tmp 12) (.tmp 17) 2, 4, "fetch.go:147", #[⟨8, .data⟩, ⟨13, .data⟩, ⟨3, .guard⟩], some (3, false)⟩,
    ⟨some 19, .pick (.tmp 7) (.const (.bool true)) (.tmp 18), 4, "fetch.go:147", #[⟨3, .data⟩, ⟨14, .data⟩], none⟩]
    [⟨some 4, none, .move (.tmp 0)⟩,
    ⟨some 5, none, .call ⟨.value (.func 41), #[.tmp 4, .const (.int .i64 1)], #[41, 3]⟩⟩,
    ⟨some 6, none, .unOp .not 4 (.tmp 5)⟩,
    ⟨some 7, none, .move (.tmp 6)⟩,
    ⟨some 8, some (7, false), .move (.tmp 0)⟩,
    ⟨some 9, some (7, false), .nilCheck (.tmp 8)⟩,
    ⟨some 10, some (7, false), .fieldAddr 74 (.tmp 9) 2⟩,
    ⟨some 11, some (7, false), .fieldAddr 23 (.tmp 10) 0⟩,
    ⟨some 12, some (7, false), .load 2 (.tmp 11)⟩,
    ⟨some 13, some (7, false), .move (.tmp 0)⟩,
    ⟨some 14, some (7, false), .nilCheck (.tmp 13)⟩,
    ⟨some 15, some (7, false), .fieldAddr 74 (.tmp 14) 2⟩,
    ⟨some 16, some (7, false), .fieldAddr 23 (.tmp 15) 1⟩,
    ⟨some 17, some (7, false), .load 2 (.tmp 16)⟩,
    ⟨some 18, some (7, false), .binOp .eql 2 (.tmp 12) (.tmp 17) 2⟩,
    ⟨some 19, none, .pick (.tmp 7) (.const (.bool true)) (.tmp 18)⟩])
  (.cond (.tmp 19)
  (.seq (.reg [⟨some 20, none, .build 23 #[]⟩,
    ⟨none, none, .store 23 (.tmp 2) (.tmp 20)⟩,
    ⟨some 3, none, .assign (.const (.bool false))⟩])
  .ret)
  .skip))
  (.seq (.reg [⟨some 21, none, .move (.tmp 0)⟩,
    ⟨some 22, none, .nilCheck (.tmp 21)⟩,
    ⟨some 23, none, .fieldAddr 74 (.tmp 22) 2⟩,
    ⟨some 24, none, .load 23 (.tmp 23)⟩,
    ⟨none, none, .store 23 (.tmp 2) (.tmp 24)⟩,
    ⟨some 3, none, .assign (.const (.bool true))⟩])
  .ret)))
theorem ok24 : FnOk Try.prog 24 25 [.cell 2 23, .tmp 3] c24 := ⟨hmix, Try.f24, Try.func24, by kernel_rfl, rfl, rfl, by kernel_rfl, by kernel_rfl⟩

/-- mandoline/mandolineref38.Rest -/
def c25 : SC := (.seq (.reg [⟨some 1, none, .box 46 (.tmp 0)⟩,
    ⟨some 2, none, .alloc 23⟩,
    ⟨some 3, none, .assign (.const (.bool false))⟩])
  (.seq (.seq (.reg [⟨some 4, none, .fieldAddr 46 (.tmp 1) 1⟩,
    ⟨some 5, none, .load 3 (.tmp 4)⟩,
    ⟨some 6, none, .binOp .neq 3 (.tmp 5) (.const (.int .i64 1)) 3⟩,
    ⟨some 7, none, .move (.tmp 6)⟩,
    ⟨some 8, some (7, false), .fieldAddr 46 (.tmp 1) 2⟩,
    ⟨some 9, some (7, false), .fieldAddr 23 (.tmp 8) 0⟩,
    ⟨some 10, some (7, false), .load 2 (.tmp 9)⟩,
    ⟨some 11, some (7, false), .fieldAddr 46 (.tmp 1) 2⟩,
    ⟨some 12, some (7, false), .fieldAddr 23 (.tmp 11) 1⟩,
    ⟨some 13, some (7, false), .load 2 (.tmp 12)⟩,
    ⟨some 14, some (7, false), .binOp .eql 2 (.tmp 10) (.tmp 13) 2⟩,
    ⟨some 15, none, .pick (.tmp 7) (.const (.bool true)) (.tmp 14)⟩])
  (.cond (.tmp 15)
  (.seq (.reg [⟨some 16, none, .build 23 #[]⟩,
    ⟨none, none, .store 23 (.tmp 2) (.tmp 16)⟩,
    ⟨some 3, none, .assign (.const (.bool false))⟩])
  .ret)
  .skip))
  (.seq (.reg [⟨some 17, none, .fieldAddr 46 (.tmp 1) 2⟩,
    ⟨some 18, none, .load 23 (.tmp 17)⟩,
    ⟨none, none, .store 23 (.tmp 2) (.tmp 18)⟩,
    ⟨some 3, none, .assign (.const (.bool true))⟩])
  .ret)))
theorem ok25 : FnOk Try.prog 25 19 [.cell 2 23, .tmp 3] c25 := ⟨hmix, Try.f25, Try.func25, by kernel_rfl, rfl, rfl, by kernel_rfl, by kernel_rfl⟩

/-- (*mandoline/fetch.Fetch).Over -/
def c26 : SC := (.seq (.reg [⟨some 2, none, .assign (.const (.bool false))⟩])
  (.seq (.reg [⟨some 3, none, .move (.tmp 0)⟩,
    ⟨some 4, none, .binOp .eql 41 (.tmp 3) (.const (.pointer .none)) 41⟩,
    ⟨some 5, none, .move (.tmp 4)⟩,
    ⟨some 6, some (5, false), .move (.tmp 0)⟩,
    ⟨some 7, some (5, false), .nilCheck (.tmp 6)⟩,
    ⟨some 8, some (5, false), .fieldAddr 74 (.tmp 7) 1⟩,
    ⟨some 9, some (5, false), .load 3 (.tmp 8)⟩,
    ⟨some 10, some (5, false), .binOp .eql 3 (.tmp 9) (.const (.int .i64 2)) 3⟩,
    ⟨some 11, none, .pick (.tmp 5) (.const (.bool true)) (.tmp 10)⟩,
    ⟨some 2, none, .assign (.tmp 11)⟩])
  .ret))
theorem ok26 : FnOk Try.prog 26 12 [.tmp 2] c26 := ⟨hmix, Try.f26, Try.func26, by kernel_rfl, rfl, rfl, by kernel_rfl, by kernel_rfl⟩

/-- mandoline/mandolinelaw38.meta -/
def c27 : SC := (.seq (.reg [⟨some 2, none, .alloc 30⟩])
  (.seq (.reg [⟨some 3, none, .build 25 #[(0, .const (.string ⟨#[118]⟩))]⟩,
    ⟨some 4, none, .move (.tmp 0)⟩,
    ⟨some 5, none, .move (.tmp 0)⟩,
    ⟨some 6, none, .build 30 #[(0, .tmp 3), (1, .const (.int .i64 (-1))), (2, .tmp 4), (3, .tmp 5)]⟩,
    ⟨none, none, .store 30 (.tmp 2) (.tmp 6)⟩])
  .ret))
theorem ok27 : FnOk Try.prog 27 7 [.cell 2 30] c27 := ⟨hmix, Try.f27, Try.func27, by kernel_rfl, rfl, rfl, by kernel_rfl, by kernel_rfl⟩

/-- mandoline/head.Object -/
def c28 : SC := (.seq (.reg [⟨some 2, none, .assign (.const (.bool false))⟩])
  (.seq (.seq (.reg [⟨some 4, none, .move (.tmp 0)⟩,
    ⟨some 5, none, .binOp .eql 9 (.tmp 4) (.const (.string ⟨#[]⟩)) 9⟩,
    ⟨some 6, none, .move (.tmp 5)⟩,
    ⟨some 7, some (6, false), .move (.tmp 0)⟩,
    ⟨some 8, some (6, false), .call ⟨.builtin .len, #[.tmp 7], #[9]⟩⟩,
    ⟨some 9, some (6, false), .binOp .gtr 3 (.tmp 8) (.const (.int .i64 200)) 3⟩,
    ⟨some 10, none, .pick (.tmp 6) (.const (.bool true)) (.tmp 9)⟩,
    ⟨some 11, none, .move (.tmp 10)⟩,
    ⟨some 12, some (11, false), .move (.tmp 0)⟩,
    ⟨some 13, some (11, false), .index 9 (.tmp 12) (.const (.int .i64 0))⟩,
    ⟨some 14, some (11, false), .binOp .neq 5 (.tmp 13) (.const (.int .u8 47)) 5⟩,
    ⟨some 15, none, .pick (.tmp 11) (.const (.bool true)) (.tmp 14)⟩])
  (.cond (.tmp 15)
  (.seq (.reg [⟨some 2, none, .assign (.const (.bool false))⟩])
  .ret)
  .skip))
  (.seq (.seq (.reg [⟨some 16, none, .move (.tmp 0)⟩,
    ⟨some 17, none, .call ⟨.builtin .len, #[.tmp 16], #[9]⟩⟩,
    ⟨some 18, none, .move (.const (.int .i64 0))⟩])
  (.block 0 (.loop (.seq (.reg [⟨some 19, none, .binOp .lss 3 (.tmp 18) (.tmp 17) 3⟩])
  (.seq (.cond (.tmp 19)
  .skip
  (.exit 0))
  (.seq (.block 1 (.seq (.reg [⟨some 20, none, .move (.tmp 18)⟩,
    ⟨some 3, none, .assign (.tmp 20)⟩])
  (.seq (.reg [⟨some 21, none, .move (.tmp 0)⟩,
    ⟨some 22, none, .move (.tmp 3)⟩,
    ⟨some 23, none, .index 9 (.tmp 21) (.tmp 22)⟩,
    ⟨some 24, none, .binOp .lss 5 (.tmp 23) (.const (.int .u8 33)) 5⟩,
    ⟨some 25, none, .move (.tmp 24)⟩,
    ⟨some 26, some (25, false), .move (.tmp 0)⟩,
    ⟨some 27, some (25, false), .move (.tmp 3)⟩,
    ⟨some 28, some (25, false), .index 9 (.tmp 26) (.tmp 27)⟩,
    ⟨some 29, some (25, false), .binOp .gtr 5 (.tmp 28) (.const (.int .u8 126)) 5⟩,
    ⟨some 30, none, .pick (.tmp 25) (.const (.bool true)) (.tmp 29)⟩])
  (.cond (.tmp 30)
  (.seq (.reg [⟨some 2, none, .assign (.const (.bool false))⟩])
  .ret)
  .skip))))
  (.reg [⟨some 31, none, .binOp .add 3 (.tmp 18) (.const (.int .i64 1)) 3⟩,
    ⟨some 18, none, .move (.tmp 31)⟩])))))))
  (.seq (.reg [⟨some 2, none, .assign (.const (.bool true))⟩])
  .ret))))
theorem ok28 : FnOk Try.prog 28 32 [.tmp 2] c28 := ⟨hmix, Try.f28, Try.func28, by kernel_rfl, rfl, rfl, by kernel_rfl, by kernel_rfl⟩

/-- mandoline/span.Right -/
def c29 : SC := (.seq (.reg [⟨some 1, none, .box 23 (.tmp 0)⟩,
    ⟨some 2, none, .assign (.const (.bool false))⟩])
  (.seq (.reg [⟨some 3, none, .fieldAddr 23 (.tmp 1) 0⟩,
    ⟨some 4, none, .load 2 (.tmp 3)⟩,
    ⟨some 5, none, .binOp .leq 2 (.const (.int .i64 0)) (.tmp 4) 2⟩,
    ⟨some 6, none, .move (.tmp 5)⟩,
    ⟨some 7, some (6, true), .fieldAddr 23 (.tmp 1) 0⟩,
    ⟨some 8, some (6, true), .load 2 (.tmp 7)⟩,
    ⟨some 9, some (6, true), .fieldAddr 23 (.tmp 1) 1⟩,
    ⟨some 10, some (6, true), .load 2 (.tmp 9)⟩,
    ⟨some 11, some (6, true), .binOp .leq 2 (.tmp 8) (.tmp 10) 2⟩,
    ⟨some 12, none, .pick (.tmp 6) (.tmp 11) (.const (.bool false))⟩,
    ⟨some 13, none, .move (.tmp 12)⟩,
    ⟨some 14, some (13, true), .fieldAddr 23 (.tmp 1) 1⟩,
    ⟨some 15, some (13, true), .load 2 (.tmp 14)⟩,
    ⟨some 16, some (13, true), .binOp .leq 2 (.tmp 15) (.const (.int .i64 4611686018427387904)) 2⟩,
    ⟨some 17, none, .pick (.tmp 13) (.tmp 16) (.const (.bool false))⟩,
    ⟨some 2, none, .assign (.tmp 17)⟩])
  .ret))
theorem ok29 : FnOk Try.prog 29 18 [.tmp 2] c29 := ⟨hmix, Try.f29, Try.func29, by kernel_rfl, rfl, rfl, by kernel_rfl, by kernel_rfl⟩

/-- mandoline/fetch.strong -/
def c30 : SC := (.seq (.reg [⟨some 1, none, .box 25 (.tmp 0)⟩,
    ⟨some 2, none, .assign (.const (.bool false))⟩])
  (.seq (.reg [⟨some 3, none, .load 25 (.tmp 1)⟩,
    ⟨some 4, none, .build 25 #[]⟩,
    ⟨some 5, none, .binOp .eql 25 (.tmp 3) (.tmp 4) 25⟩,
    ⟨some 6, none, .move (.tmp 5)⟩,
    ⟨some 7, some (6, false), .load 25 (.tmp 1)⟩,
    ⟨some 8, some (6, false), .call ⟨.value (.func 42), #[.tmp 7], #[25]⟩⟩,
    ⟨some 9, some (6, false), .move (.tmp 8)⟩,
    ⟨some 10, some (9, true), .fieldAddr 25 (.tmp 1) 1⟩,
    ⟨some 11, some (9, true), .load 4 (.tmp 10)⟩,
    ⟨some 12, some (9, true), .unOp .not 4 (.tmp 11)⟩,
    ⟨some 13, some (6, false), .pick (.tmp 9) (.tmp 12) (.const (.bool false))⟩,
    ⟨some 14, none, .pick (.tmp 6) (.const (.bool true)) (.tmp 13)⟩,
    ⟨some 2, none, .assign (.tmp 14)⟩])
  .ret))
theorem ok30 : FnOk Try.prog 30 15 [.tmp 2] c30 := ⟨hmix, Try.f30, Try.func30, by kernel_rfl, rfl, rfl, by kernel_rfl, by kernel_rfl⟩

/-- mandoline/mandolineref12.Object -/
def c31 : SC := (.seq (.reg [⟨some 2, none, .assign (.const (.bool false))⟩])
  (.seq (.seq (.reg [⟨some 4, none, .move (.tmp 0)⟩,
    ⟨some 5, none, .call ⟨.builtin .len, #[.tmp 4], #[9]⟩⟩,
    ⟨some 6, none, .binOp .lss 3 (.tmp 5) (.const (.int .i64 1)) 3⟩,
    ⟨some 7, none, .move (.tmp 6)⟩,
    ⟨some 8, some (7, false), .move (.tmp 0)⟩,
    ⟨some 9, some (7, false), .call ⟨.builtin .len, #[.tmp 8], #[9]⟩⟩,
    ⟨some 10, some (7, false), .binOp .gtr 3 (.tmp 9) (.const (.int .i64 200)) 3⟩,
    ⟨some 11, none, .pick (.tmp 7) (.const (.bool true)) (.tmp 10)⟩,
    ⟨some 12, none, .move (.tmp 11)⟩,
    ⟨some 13, some (12, false), .move (.tmp 0)⟩,
    ⟨some 14, some (12, false), .index 9 (.tmp 13) (.const (.int .i64 0))⟩,
    ⟨some 15, some (12, false), .binOp .neq 5 (.tmp 14) (.const (.int .u8 47)) 5⟩,
    ⟨some 16, none, .pick (.tmp 12) (.const (.bool true)) (.tmp 15)⟩])
  (.cond (.tmp 16)
  (.seq (.reg [⟨some 2, none, .assign (.const (.bool false))⟩])
  .ret)
  .skip))
  (.seq (.seq (.reg [⟨some 3, none, .assign (.const (.int .i64 0))⟩])
  (.block 0 (.loop (.seq (.seq (.reg [⟨some 17, none, .move (.tmp 3)⟩,
    ⟨some 18, none, .move (.tmp 0)⟩,
    ⟨some 19, none, .call ⟨.builtin .len, #[.tmp 18], #[9]⟩⟩,
    ⟨some 20, none, .binOp .lss 3 (.tmp 17) (.tmp 19) 3⟩])
  (.cond (.tmp 20)
  .skip
  (.exit 0)))
  (.seq (.block 1 (.seq (.reg [⟨some 23, none, .move (.tmp 0)⟩,
    ⟨some 24, none, .move (.tmp 3)⟩,
    ⟨some 25, none, .index 9 (.tmp 23) (.tmp 24)⟩,
    ⟨some 26, none, .binOp .leq 5 (.tmp 25) (.const (.int .u8 32)) 5⟩,
    ⟨some 27, none, .move (.tmp 26)⟩,
    ⟨some 28, some (27, false), .move (.tmp 0)⟩,
    ⟨some 29, some (27, false), .move (.tmp 3)⟩,
    ⟨some 30, some (27, false), .index 9 (.tmp 28) (.tmp 29)⟩,
    ⟨some 31, some (27, false), .binOp .gtr 5 (.tmp 30) (.const (.int .u8 126)) 5⟩,
    ⟨some 32, none, .pick (.tmp 27) (.const (.bool true)) (.tmp 31)⟩])
  (.cond (.tmp 32)
  (.seq (.reg [⟨some 2, none, .assign (.const (.bool false))⟩])
  .ret)
  .skip)))
  (.reg [⟨some 21, none, .move (.tmp 3)⟩,
    ⟨some 22, none, .binOp .add 3 (.tmp 21) (.const (.int .i64 1)) 3⟩,
    ⟨some 3, none, .assign (.tmp 22)⟩]))))))
  (.seq (.reg [⟨some 2, none, .assign (.const (.bool true))⟩])
  .ret))))
theorem ok31 : FnOk Try.prog 31 33 [.tmp 2] c31 := ⟨hmix, Try.f31, Try.func31, by kernel_rfl, rfl, rfl, by kernel_rfl, by kernel_rfl⟩

/-- mandoline/mandolineref01.Right -/
def c32 : SC := (.seq (.reg [⟨some 1, none, .box 23 (.tmp 0)⟩,
    ⟨some 2, none, .assign (.const (.bool false))⟩])
  (.seq (.draw #[⟨some 3, .fieldAddr 23 (.tmp 1) 0, 0, "ref.go:10", #[], none⟩,
    ⟨some 4, .load 2 (.tmp 3), 2, "ref.go:10", #[⟨0, .data⟩], none⟩,
    ⟨some 5, .binOp .geq 2 (.tmp 4) (.const (.int .i64 0)) 2, 4, "ref.go:10", #[⟨1, .data⟩], none⟩,
    ⟨some 6, .move (.tmp 5), 4, "ref.go:10", #[⟨2, .data⟩], none⟩,
    ⟨some 7, .fieldAddr 23 (.tmp 1) 0, 0, "ref.go:10", #[⟨3, .guard⟩], some (3, true)⟩,
    ⟨some 8, .load 2 (.tmp 7), 2, "ref.go:10", #[⟨4, .data⟩, ⟨3, .guard⟩], some (3, true)⟩,
    ⟨some 9, .fieldAddr 23 (.tmp 1) 1, 0, "ref.go:10", #[⟨3, .guard⟩], some (3, true)⟩,
    ⟨some 10, .load 2 (.tmp 9), 2, "ref.go:10", #[⟨6, .data⟩, ⟨3, .guard⟩], some (3, true)⟩,
    ⟨some 11, .binOp .leq 2 (.tmp 8) (.tmp 10) 2, 4, "ref.go:10", #[⟨5, .data⟩, ⟨7, .data⟩, ⟨3, .guard⟩], some (3, true)⟩,
    ⟨some 12, .pick (.tmp 6) (.tmp 11) (.const (.bool false)), 4, "ref.go:10", #[⟨3, .data⟩, ⟨8, .data⟩], none⟩,
    ⟨some 13, .move (.tmp 12), 4, "ref.go:10", #[⟨9, .data⟩, ⟨3, .chain⟩], none⟩,
    ⟨some 14, .fieldAddr 23 (.tmp 1) 1, 0, "ref.go:10", #[⟨10, .guard⟩], some (10, true)⟩,
    ⟨some 15, .load 2 (.tmp 14), 2, "ref.go:10", #[⟨11, .data⟩, ⟨10, .guard⟩], some (10, true)⟩,
    ⟨some 16, .call ⟨.value (.func 43), #[], #[]⟩, 2, "ref.go:10", #[⟨10, .chain⟩, ⟨10, .guard⟩], some (10, true)⟩,
    ⟨some 17, .binOp .leq 2 (.tmp 15) (.tmp 16) 2, 4, "ref.go:10", #[⟨12, .data⟩, ⟨13, .data⟩, ⟨10, .guard⟩], some (10, true)⟩,
    ⟨some 18, .pick (.tmp 13) (.tmp 17) (.const (.bool false)), 4, "ref.go:10", #[⟨10, .data⟩, ⟨14, .data⟩], none⟩,
    ⟨some 2, .assign (.tmp 18), 4, "ref.go:10", #[⟨15, .data⟩, ⟨13, .chain⟩, ⟨0, .phase⟩, ⟨1, .phase⟩, ⟨2, .phase⟩, ⟨3, .phase⟩, ⟨4, .phase⟩, ⟨5, .phase⟩, ⟨6, .phase⟩, ⟨7, .phase⟩, ⟨8, .phase⟩, ⟨9, .phase⟩, ⟨10, .phase⟩, ⟨11, .phase⟩, ⟨12, .phase⟩, ⟨13, .phase⟩, ⟨14, .phase⟩, ⟨15, .phase⟩], none⟩]
    [⟨some 3, none, .fieldAddr 23 (.tmp 1) 0⟩,
    ⟨some 4, none, .load 2 (.tmp 3)⟩,
    ⟨some 5, none, .binOp .geq 2 (.tmp 4) (.const (.int .i64 0)) 2⟩,
    ⟨some 6, none, .move (.tmp 5)⟩,
    ⟨some 7, some (6, true), .fieldAddr 23 (.tmp 1) 0⟩,
    ⟨some 8, some (6, true), .load 2 (.tmp 7)⟩,
    ⟨some 9, some (6, true), .fieldAddr 23 (.tmp 1) 1⟩,
    ⟨some 10, some (6, true), .load 2 (.tmp 9)⟩,
    ⟨some 11, some (6, true), .binOp .leq 2 (.tmp 8) (.tmp 10) 2⟩,
    ⟨some 12, none, .pick (.tmp 6) (.tmp 11) (.const (.bool false))⟩,
    ⟨some 13, none, .move (.tmp 12)⟩,
    ⟨some 14, some (13, true), .fieldAddr 23 (.tmp 1) 1⟩,
    ⟨some 15, some (13, true), .load 2 (.tmp 14)⟩,
    ⟨some 16, some (13, true), .call ⟨.value (.func 43), #[], #[]⟩⟩,
    ⟨some 17, some (13, true), .binOp .leq 2 (.tmp 15) (.tmp 16) 2⟩,
    ⟨some 18, none, .pick (.tmp 13) (.tmp 17) (.const (.bool false))⟩,
    ⟨some 2, none, .assign (.tmp 18)⟩])
  .ret))
theorem ok32 : FnOk Try.prog 32 19 [.tmp 2] c32 := ⟨hmix, Try.f32, Try.func32, by kernel_rfl, rfl, rfl, by kernel_rfl, by kernel_rfl⟩

/-- mandoline/mandolineref38.strict -/
def c33 : SC := (.seq (.reg [⟨some 1, none, .box 25 (.tmp 0)⟩,
    ⟨some 2, none, .assign (.const (.bool false))⟩])
  (.seq (.reg [⟨some 3, none, .load 25 (.tmp 1)⟩,
    ⟨some 4, none, .call ⟨.value (.func 34), #[.tmp 3], #[25]⟩⟩,
    ⟨some 5, none, .unOp .not 4 (.tmp 4)⟩,
    ⟨some 6, none, .move (.tmp 5)⟩,
    ⟨some 7, some (6, false), .load 25 (.tmp 1)⟩,
    ⟨some 8, some (6, false), .call ⟨.value (.func 44), #[.tmp 7], #[25]⟩⟩,
    ⟨some 9, some (6, false), .move (.tmp 8)⟩,
    ⟨some 10, some (9, true), .fieldAddr 25 (.tmp 1) 1⟩,
    ⟨some 11, some (9, true), .load 4 (.tmp 10)⟩,
    ⟨some 12, some (9, true), .unOp .not 4 (.tmp 11)⟩,
    ⟨some 13, some (6, false), .pick (.tmp 9) (.tmp 12) (.const (.bool false))⟩,
    ⟨some 14, none, .pick (.tmp 6) (.const (.bool true)) (.tmp 13)⟩,
    ⟨some 2, none, .assign (.tmp 14)⟩])
  .ret))
theorem ok33 : FnOk Try.prog 33 15 [.tmp 2] c33 := ⟨hmix, Try.f33, Try.func33, by kernel_rfl, rfl, rfl, by kernel_rfl, by kernel_rfl⟩

/-- mandoline/mandolineref38.there -/
def c34 : SC := (.seq (.reg [⟨some 1, none, .box 25 (.tmp 0)⟩,
    ⟨some 2, none, .assign (.const (.bool false))⟩])
  (.seq (.reg [⟨some 3, none, .fieldAddr 25 (.tmp 1) 0⟩,
    ⟨some 4, none, .load 9 (.tmp 3)⟩,
    ⟨some 5, none, .binOp .neq 9 (.tmp 4) (.const (.string ⟨#[]⟩)) 9⟩,
    ⟨some 6, none, .move (.tmp 5)⟩,
    ⟨some 7, some (6, false), .fieldAddr 25 (.tmp 1) 1⟩,
    ⟨some 8, some (6, false), .load 4 (.tmp 7)⟩,
    ⟨some 9, none, .pick (.tmp 6) (.const (.bool true)) (.tmp 8)⟩,
    ⟨some 2, none, .assign (.tmp 9)⟩])
  .ret))
theorem ok34 : FnOk Try.prog 34 10 [.tmp 2] c34 := ⟨hmix, Try.f34, Try.func34, by kernel_rfl, rfl, rfl, by kernel_rfl, by kernel_rfl⟩

/-- mandoline/meta.Right -/
def c35 : SC := (.seq (.reg [⟨some 1, none, .box 30 (.tmp 0)⟩,
    ⟨some 2, none, .assign (.const (.bool false))⟩])
  (.seq (.block 0 (.seq (.seq (.reg [⟨some 26, none, .fieldAddr 30 (.tmp 1) 0⟩,
    ⟨some 27, none, .load 25 (.tmp 26)⟩,
    ⟨some 28, none, .call ⟨.value (.func 45), #[.tmp 27], #[25]⟩⟩,
    ⟨some 29, none, .unOp .not 4 (.tmp 28)⟩,
    ⟨some 25, none, .assign (.tmp 29)⟩])
  (.cond (.tmp 25)
  .skip
  (.seq (.reg [⟨some 30, none, .fieldAddr 30 (.tmp 1) 1⟩,
    ⟨some 31, none, .load 2 (.tmp 30)⟩,
    ⟨some 32, none, .binOp .lss 2 (.tmp 31) (.const (.int .i64 (-1))) 2⟩,
    ⟨some 25, none, .assign (.tmp 32)⟩])
  (.cond (.tmp 25)
  .skip
  (.reg [⟨some 33, none, .fieldAddr 30 (.tmp 1) 1⟩,
    ⟨some 34, none, .load 2 (.tmp 33)⟩,
    ⟨some 35, none, .binOp .gtr 2 (.tmp 34) (.const (.int .i64 253402300799)) 2⟩,
    ⟨some 25, none, .assign (.tmp 35)⟩])))))
  (.cond (.tmp 25)
  .skip
  (.seq (.seq (.reg [⟨some 37, none, .fieldAddr 30 (.tmp 1) 2⟩,
    ⟨some 38, none, .load 2 (.tmp 37)⟩,
    ⟨some 39, none, .call ⟨.value (.func 46), #[.tmp 38, .const (.int .i64 (-1))], #[2, 2]⟩⟩,
    ⟨some 40, none, .unOp .not 4 (.tmp 39)⟩,
    ⟨some 36, none, .assign (.tmp 40)⟩])
  (.cond (.tmp 36)
  .skip
  (.seq (.reg [⟨some 41, none, .fieldAddr 30 (.tmp 1) 3⟩,
    ⟨some 42, none, .load 2 (.tmp 41)⟩,
    ⟨some 43, none, .call ⟨.value (.func 46), #[.tmp 42, .const (.int .i64 0)], #[2, 2]⟩⟩,
    ⟨some 44, none, .unOp .not 4 (.tmp 43)⟩,
    ⟨some 36, none, .assign (.tmp 44)⟩])
  (.cond (.tmp 36)
  .skip
  (.reg [⟨some 45, none, .fieldAddr 30 (.tmp 1) 2⟩,
    ⟨some 46, none, .load 2 (.tmp 45)⟩,
    ⟨some 47, none, .binOp .geq 2 (.tmp 46) (.const (.int .i64 0)) 2⟩,
    ⟨some 48, none, .move (.tmp 47)⟩,
    ⟨some 49, some (48, true), .fieldAddr 30 (.tmp 1) 3⟩,
    ⟨some 50, some (48, true), .load 2 (.tmp 49)⟩,
    ⟨some 51, some (48, true), .fieldAddr 30 (.tmp 1) 2⟩,
    ⟨some 52, some (48, true), .load 2 (.tmp 51)⟩,
    ⟨some 53, some (48, true), .binOp .neq 2 (.tmp 50) (.tmp 52) 2⟩,
    ⟨some 54, none, .pick (.tmp 48) (.tmp 53) (.const (.bool false))⟩,
    ⟨some 36, none, .assign (.tmp 54)⟩])))))
  (.cond (.tmp 36)
  .skip
  (.seq (.seq (.reg [⟨some 56, none, .fieldAddr 30 (.tmp 1) 4⟩,
    ⟨some 57, none, .load 2 (.tmp 56)⟩,
    ⟨some 58, none, .call ⟨.value (.func 46), #[.tmp 57, .const (.int .i64 0)], #[2, 2]⟩⟩,
    ⟨some 59, none, .unOp .not 4 (.tmp 58)⟩,
    ⟨some 55, none, .assign (.tmp 59)⟩])
  (.cond (.tmp 55)
  .skip
  (.seq (.reg [⟨some 60, none, .fieldAddr 30 (.tmp 1) 5⟩,
    ⟨some 61, none, .load 2 (.tmp 60)⟩,
    ⟨some 62, none, .call ⟨.value (.func 46), #[.tmp 61, .const (.int .i64 0)], #[2, 2]⟩⟩,
    ⟨some 63, none, .unOp .not 4 (.tmp 62)⟩,
    ⟨some 55, none, .assign (.tmp 63)⟩])
  (.cond (.tmp 55)
  .skip
  (.reg [⟨some 64, none, .fieldAddr 30 (.tmp 1) 6⟩,
    ⟨some 65, none, .load 2 (.tmp 64)⟩,
    ⟨some 66, none, .call ⟨.value (.func 46), #[.tmp 65, .const (.int .i64 0)], #[2, 2]⟩⟩,
    ⟨some 67, none, .unOp .not 4 (.tmp 66)⟩,
    ⟨some 55, none, .assign (.tmp 67)⟩])))))
  (.cond (.tmp 55)
  .skip
  (.seq (.seq (.reg [⟨some 69, none, .fieldAddr 30 (.tmp 1) 7⟩,
    ⟨some 70, none, .load 28 (.tmp 69)⟩,
    ⟨some 71, none, .call ⟨.builtin .len, #[.tmp 70], #[28]⟩⟩,
    ⟨some 72, none, .binOp .gtr 3 (.tmp 71) (.const (.int .i64 32)) 3⟩,
    ⟨some 68, none, .assign (.tmp 72)⟩])
  (.cond (.tmp 68)
  .skip
  (.reg [⟨some 73, none, .fieldAddr 30 (.tmp 1) 8⟩,
    ⟨some 74, none, .load 9 (.tmp 73)⟩,
    ⟨some 75, none, .call ⟨.value (.func 47), #[.tmp 74], #[9]⟩⟩,
    ⟨some 76, none, .unOp .not 4 (.tmp 75)⟩,
    ⟨some 68, none, .assign (.tmp 76)⟩])))
  (.cond (.tmp 68)
  .skip
  (.seq (.reg [⟨some 6, none, .makeMap 78 .none⟩,
    ⟨some 3, none, .assign (.tmp 6)⟩])
  (.seq (.seq (.reg [⟨some 7, none, .fieldAddr 30 (.tmp 1) 7⟩,
    ⟨some 8, none, .load 28 (.tmp 7)⟩,
    ⟨some 9, none, .call ⟨.builtin .len, #[.tmp 8], #[28]⟩⟩,
    ⟨some 10, none, .move (.const (.int .i64 0))⟩])
  (.block 1 (.loop (.seq (.reg [⟨some 11, none, .binOp .lss 3 (.tmp 10) (.tmp 9) 3⟩])
  (.seq (.cond (.tmp 11)
  .skip
  (.exit 1))
  (.seq (.block 2 (.seq (.reg [⟨some 12, none, .indexAddr 28 (.tmp 8) (.tmp 10)⟩,
    ⟨some 13, none, .load 9 (.tmp 12)⟩,
    ⟨some 5, none, .assign (.tmp 13)⟩])
  (.seq (.seq (.reg [⟨some 14, none, .move (.tmp 5)⟩,
    ⟨some 15, none, .call ⟨.value (.func 48), #[.tmp 14], #[9]⟩⟩,
    ⟨some 16, none, .unOp .not 4 (.tmp 15)⟩,
    ⟨some 17, none, .move (.tmp 16)⟩,
    ⟨some 18, some (17, false), .move (.tmp 3)⟩,
    ⟨some 19, some (17, false), .move (.tmp 5)⟩,
    ⟨some 20, some (17, false), .lookup 78 (.tmp 18) (.tmp 19) false⟩,
    ⟨some 21, none, .pick (.tmp 17) (.const (.bool true)) (.tmp 20)⟩])
  (.cond (.tmp 21)
  (.seq (.reg [⟨some 2, none, .assign (.const (.bool false))⟩])
  .ret)
  .skip))
  (.reg [⟨some 22, none, .move (.tmp 3)⟩,
    ⟨some 23, none, .move (.tmp 5)⟩,
    ⟨none, none, .mapUpdate 78 (.tmp 22) (.tmp 23) (.const (.bool true))⟩]))))
  (.reg [⟨some 24, none, .binOp .add 3 (.tmp 10) (.const (.int .i64 1)) 3⟩,
    ⟨some 10, none, .move (.tmp 24)⟩])))))))
  (.seq (.reg [⟨some 2, none, .assign (.const (.bool true))⟩])
  .ret))))))))))))
  (.seq (.reg [⟨some 2, none, .assign (.const (.bool false))⟩])
  .ret)))
theorem ok35 : FnOk Try.prog 35 77 [.tmp 2] c35 := ⟨hmix, Try.f35, Try.func35, by kernel_rfl, rfl, rfl, by kernel_rfl, by kernel_rfl⟩

/-- mandoline/tag.Strong -/
def c36 : SC := (.seq (.reg [⟨some 2, none, .box 25 (.tmp 0)⟩,
    ⟨some 3, none, .box 25 (.tmp 1)⟩,
    ⟨some 4, none, .assign (.const (.bool false))⟩])
  (.seq (.reg [⟨some 5, none, .load 25 (.tmp 2)⟩,
    ⟨some 6, none, .load 25 (.tmp 3)⟩,
    ⟨some 7, none, .call ⟨.value (.func 49), #[.tmp 5, .tmp 6], #[25, 25]⟩⟩,
    ⟨some 8, none, .move (.tmp 7)⟩,
    ⟨some 9, some (8, true), .fieldAddr 25 (.tmp 2) 1⟩,
    ⟨some 10, some (8, true), .load 4 (.tmp 9)⟩,
    ⟨some 11, some (8, true), .unOp .not 4 (.tmp 10)⟩,
    ⟨some 12, none, .pick (.tmp 8) (.tmp 11) (.const (.bool false))⟩,
    ⟨some 13, none, .move (.tmp 12)⟩,
    ⟨some 14, some (13, true), .fieldAddr 25 (.tmp 3) 1⟩,
    ⟨some 15, some (13, true), .load 4 (.tmp 14)⟩,
    ⟨some 16, some (13, true), .unOp .not 4 (.tmp 15)⟩,
    ⟨some 17, none, .pick (.tmp 13) (.tmp 16) (.const (.bool false))⟩,
    ⟨some 4, none, .assign (.tmp 17)⟩])
  .ret))
theorem ok36 : FnOk Try.prog 36 18 [.tmp 4] c36 := ⟨hmix, Try.f36, Try.func36, by kernel_rfl, rfl, rfl, by kernel_rfl, by kernel_rfl⟩

/-- mandoline/fetch.brings -/
def c37 : SC := (.seq (.reg [⟨some 2, none, .box 27 (.tmp 0)⟩,
    ⟨some 3, none, .box 32 (.tmp 1)⟩,
    ⟨some 4, none, .assign (.const (.bool false))⟩])
  (.seq (.reg [⟨some 7, none, .fieldAddr 32 (.tmp 3) 1⟩,
    ⟨some 8, none, .fieldAddr 30 (.tmp 7) 2⟩,
    ⟨some 9, none, .load 2 (.tmp 8)⟩,
    ⟨some 5, none, .assign (.tmp 9)⟩])
  (.seq (.seq (.reg [⟨some 10, none, .move (.tmp 5)⟩,
    ⟨some 11, none, .binOp .lss 2 (.tmp 10) (.const (.int .i64 0)) 2⟩])
  (.cond (.tmp 11)
  (.reg [⟨some 5, none, .assign (.const (.int .i64 4611686018427387904))⟩])
  .skip))
  (.seq (.reg [⟨some 12, none, .fieldAddr 32 (.tmp 3) 2⟩,
    ⟨some 13, none, .load 23 (.tmp 12)⟩,
    ⟨some 6, none, .alloc 23⟩,
    ⟨none, none, .store 23 (.tmp 6) (.tmp 13)⟩])
  (.seq (.seq (.reg [⟨some 14, none, .fieldAddr 32 (.tmp 3) 0⟩,
    ⟨some 15, none, .load 3 (.tmp 14)⟩,
    ⟨some 16, none, .binOp .eql 3 (.tmp 15) (.const (.int .i64 200)) 3⟩])
  (.cond (.tmp 16)
  (.seq (.reg [⟨some 17, none, .load 23 (.tmp 6)⟩,
    ⟨some 18, none, .move (.tmp 5)⟩,
    ⟨some 19, none, .build 23 #[(1, .tmp 18)]⟩,
    ⟨some 20, none, .binOp .eql 23 (.tmp 17) (.tmp 19) 23⟩,
    ⟨some 4, none, .assign (.tmp 20)⟩])
  .ret)
  .skip))
  (.seq (.reg [⟨some 21, none, .load 23 (.tmp 6)⟩,
    ⟨some 22, none, .call ⟨.value (.func 29), #[.tmp 21], #[23]⟩⟩,
    ⟨some 23, none, .move (.tmp 22)⟩,
    ⟨some 24, some (23, true), .fieldAddr 23 (.tmp 6) 0⟩,
    ⟨some 25, some (23, true), .load 2 (.tmp 24)⟩,
    ⟨some 26, some (23, true), .fieldAddr 23 (.tmp 6) 1⟩,
    ⟨some 27, some (23, true), .load 2 (.tmp 26)⟩,
    ⟨some 28, some (23, true), .binOp .lss 2 (.tmp 25) (.tmp 27) 2⟩,
    ⟨some 29, none, .pick (.tmp 23) (.tmp 28) (.const (.bool false))⟩,
    ⟨some 30, none, .move (.tmp 29)⟩,
    ⟨some 31, some (30, true), .fieldAddr 23 (.tmp 6) 0⟩,
    ⟨some 32, some (30, true), .load 2 (.tmp 31)⟩,
    ⟨some 33, some (30, true), .fieldAddr 27 (.tmp 2) 1⟩,
    ⟨some 34, some (30, true), .fieldAddr 23 (.tmp 33) 0⟩,
    ⟨some 35, some (30, true), .load 2 (.tmp 34)⟩,
    ⟨some 36, some (30, true), .binOp .eql 2 (.tmp 32) (.tmp 35) 2⟩,
    ⟨some 37, none, .pick (.tmp 30) (.tmp 36) (.const (.bool false))⟩,
    ⟨some 38, none, .move (.tmp 37)⟩,
    ⟨some 39, some (38, true), .fieldAddr 23 (.tmp 6) 1⟩,
    ⟨some 40, some (38, true), .load 2 (.tmp 39)⟩,
    ⟨some 41, some (38, true), .fieldAddr 27 (.tmp 2) 1⟩,
    ⟨some 42, some (38, true), .fieldAddr 23 (.tmp 41) 1⟩,
    ⟨some 43, some (38, true), .load 2 (.tmp 42)⟩,
    ⟨some 44, some (38, true), .binOp .leq 2 (.tmp 40) (.tmp 43) 2⟩,
    ⟨some 45, none, .pick (.tmp 38) (.tmp 44) (.const (.bool false))⟩,
    ⟨some 46, none, .move (.tmp 45)⟩,
    ⟨some 47, some (46, true), .fieldAddr 23 (.tmp 6) 1⟩,
    ⟨some 48, some (46, true), .load 2 (.tmp 47)⟩,
    ⟨some 49, some (46, true), .move (.tmp 5)⟩,
    ⟨some 50, some (46, true), .binOp .leq 2 (.tmp 48) (.tmp 49) 2⟩,
    ⟨some 51, none, .pick (.tmp 46) (.tmp 50) (.const (.bool false))⟩,
    ⟨some 4, none, .assign (.tmp 51)⟩])
  .ret))))))
theorem ok37 : FnOk Try.prog 37 52 [.tmp 4] c37 := ⟨hmix, Try.f37, Try.func37, by kernel_rfl, rfl, rfl, by kernel_rfl, by kernel_rfl⟩

/-- mandoline/mandolineref38.fresh -/
def c38 : SC := (.seq (.reg [⟨some 2, none, .box 27 (.tmp 0)⟩,
    ⟨some 3, none, .box 32 (.tmp 1)⟩,
    ⟨some 4, none, .assign (.const (.bool false))⟩])
  (.seq (.seq (.reg [⟨some 6, none, .fieldAddr 32 (.tmp 3) 1⟩,
    ⟨some 7, none, .load 30 (.tmp 6)⟩,
    ⟨some 8, none, .call ⟨.value (.func 40), #[.tmp 7], #[30]⟩⟩,
    ⟨some 9, none, .unOp .not 4 (.tmp 8)⟩,
    ⟨some 10, none, .move (.tmp 9)⟩,
    ⟨some 11, some (10, false), .fieldAddr 27 (.tmp 2) 2⟩,
    ⟨some 12, some (10, false), .load 25 (.tmp 11)⟩,
    ⟨some 13, some (10, false), .call ⟨.value (.func 34), #[.tmp 12], #[25]⟩⟩,
    ⟨some 14, some (10, false), .move (.tmp 13)⟩,
    ⟨some 15, some (14, true), .fieldAddr 27 (.tmp 2) 2⟩,
    ⟨some 16, some (14, true), .load 25 (.tmp 15)⟩,
    ⟨some 17, some (14, true), .fieldAddr 32 (.tmp 3) 1⟩,
    ⟨some 18, some (14, true), .fieldAddr 30 (.tmp 17) 0⟩,
    ⟨some 19, some (14, true), .load 25 (.tmp 18)⟩,
    ⟨some 20, some (14, true), .call ⟨.value (.func 39), #[.tmp 16, .tmp 19], #[25, 25]⟩⟩,
    ⟨some 21, some (14, true), .unOp .not 4 (.tmp 20)⟩,
    ⟨some 22, some (10, false), .pick (.tmp 14) (.tmp 21) (.const (.bool false))⟩,
    ⟨some 23, none, .pick (.tmp 10) (.const (.bool true)) (.tmp 22)⟩])
  (.cond (.tmp 23)
  (.seq (.reg [⟨some 4, none, .assign (.const (.bool false))⟩])
  .ret)
  .skip))
  (.seq (.reg [⟨some 24, none, .fieldAddr 32 (.tmp 3) 2⟩,
    ⟨some 25, none, .load 23 (.tmp 24)⟩,
    ⟨some 5, none, .alloc 23⟩,
    ⟨none, none, .store 23 (.tmp 5) (.tmp 25)⟩])
  (.seq (.seq (.reg [⟨some 26, none, .fieldAddr 32 (.tmp 3) 0⟩,
    ⟨some 27, none, .load 3 (.tmp 26)⟩,
    ⟨some 28, none, .binOp .eql 3 (.tmp 27) (.const (.int .i64 200)) 3⟩])
  (.cond (.tmp 28)
  (.seq (.seq (.reg [⟨some 29, none, .fieldAddr 32 (.tmp 3) 1⟩,
    ⟨some 30, none, .fieldAddr 30 (.tmp 29) 2⟩,
    ⟨some 31, none, .load 2 (.tmp 30)⟩,
    ⟨some 32, none, .binOp .lss 2 (.tmp 31) (.const (.int .i64 0)) 2⟩])
  (.cond (.tmp 32)
  (.seq (.reg [⟨some 33, none, .fieldAddr 23 (.tmp 5) 0⟩,
    ⟨some 34, none, .load 2 (.tmp 33)⟩,
    ⟨some 35, none, .binOp .eql 2 (.tmp 34) (.const (.int .i64 0)) 2⟩,
    ⟨some 36, none, .move (.tmp 35)⟩,
    ⟨some 37, some (36, true), .fieldAddr 23 (.tmp 5) 1⟩,
    ⟨some 38, some (36, true), .load 2 (.tmp 37)⟩,
    ⟨some 39, some (36, true), .binOp .eql 2 (.tmp 38) (.const (.int .i64 4611686018427387904)) 2⟩,
    ⟨some 40, none, .pick (.tmp 36) (.tmp 39) (.const (.bool false))⟩,
    ⟨some 4, none, .assign (.tmp 40)⟩])
  .ret)
  .skip))
  (.seq (.reg [⟨some 41, none, .fieldAddr 23 (.tmp 5) 0⟩,
    ⟨some 42, none, .load 2 (.tmp 41)⟩,
    ⟨some 43, none, .binOp .eql 2 (.tmp 42) (.const (.int .i64 0)) 2⟩,
    ⟨some 44, none, .move (.tmp 43)⟩,
    ⟨some 45, some (44, true), .fieldAddr 23 (.tmp 5) 1⟩,
    ⟨some 46, some (44, true), .load 2 (.tmp 45)⟩,
    ⟨some 47, some (44, true), .fieldAddr 32 (.tmp 3) 1⟩,
    ⟨some 48, some (44, true), .fieldAddr 30 (.tmp 47) 2⟩,
    ⟨some 49, some (44, true), .load 2 (.tmp 48)⟩,
    ⟨some 50, some (44, true), .binOp .eql 2 (.tmp 46) (.tmp 49) 2⟩,
    ⟨some 51, none, .pick (.tmp 44) (.tmp 50) (.const (.bool false))⟩,
    ⟨some 4, none, .assign (.tmp 51)⟩])
  .ret))
  .skip))
  (.seq (.seq (.reg [⟨some 52, none, .load 23 (.tmp 5)⟩,
    ⟨some 53, none, .call ⟨.value (.func 32), #[.tmp 52], #[23]⟩⟩,
    ⟨some 54, none, .unOp .not 4 (.tmp 53)⟩,
    ⟨some 55, none, .move (.tmp 54)⟩,
    ⟨some 56, some (55, false), .fieldAddr 23 (.tmp 5) 0⟩,
    ⟨some 57, some (55, false), .load 2 (.tmp 56)⟩,
    ⟨some 58, some (55, false), .fieldAddr 23 (.tmp 5) 1⟩,
    ⟨some 59, some (55, false), .load 2 (.tmp 58)⟩,
    ⟨some 60, some (55, false), .binOp .eql 2 (.tmp 57) (.tmp 59) 2⟩,
    ⟨some 61, none, .pick (.tmp 55) (.const (.bool true)) (.tmp 60)⟩,
    ⟨some 62, none, .move (.tmp 61)⟩,
    ⟨some 63, some (62, false), .fieldAddr 23 (.tmp 5) 0⟩,
    ⟨some 64, some (62, false), .load 2 (.tmp 63)⟩,
    ⟨some 65, some (62, false), .fieldAddr 27 (.tmp 2) 1⟩,
    ⟨some 66, some (62, false), .fieldAddr 23 (.tmp 65) 0⟩,
    ⟨some 67, some (62, false), .load 2 (.tmp 66)⟩,
    ⟨some 68, some (62, false), .binOp .neq 2 (.tmp 64) (.tmp 67) 2⟩,
    ⟨some 69, none, .pick (.tmp 62) (.const (.bool true)) (.tmp 68)⟩,
    ⟨some 70, none, .move (.tmp 69)⟩,
    ⟨some 71, some (70, false), .fieldAddr 23 (.tmp 5) 1⟩,
    ⟨some 72, some (70, false), .load 2 (.tmp 71)⟩,
    ⟨some 73, some (70, false), .fieldAddr 27 (.tmp 2) 1⟩,
    ⟨some 74, some (70, false), .fieldAddr 23 (.tmp 73) 1⟩,
    ⟨some 75, some (70, false), .load 2 (.tmp 74)⟩,
    ⟨some 76, some (70, false), .binOp .gtr 2 (.tmp 72) (.tmp 75) 2⟩,
    ⟨some 77, none, .pick (.tmp 70) (.const (.bool true)) (.tmp 76)⟩])
  (.cond (.tmp 77)
  (.seq (.reg [⟨some 4, none, .assign (.const (.bool false))⟩])
  .ret)
  .skip))
  (.seq (.reg [⟨some 78, none, .fieldAddr 32 (.tmp 3) 1⟩,
    ⟨some 79, none, .fieldAddr 30 (.tmp 78) 2⟩,
    ⟨some 80, none, .load 2 (.tmp 79)⟩,
    ⟨some 81, none, .binOp .lss 2 (.tmp 80) (.const (.int .i64 0)) 2⟩,
    ⟨some 82, none, .move (.tmp 81)⟩,
    ⟨some 83, some (82, false), .fieldAddr 23 (.tmp 5) 1⟩,
    ⟨some 84, some (82, false), .load 2 (.tmp 83)⟩,
    ⟨some 85, some (82, false), .fieldAddr 32 (.tmp 3) 1⟩,
    ⟨some 86, some (82, false), .fieldAddr 30 (.tmp 85) 2⟩,
    ⟨some 87, some (82, false), .load 2 (.tmp 86)⟩,
    ⟨some 88, some (82, false), .binOp .leq 2 (.tmp 84) (.tmp 87) 2⟩,
    ⟨some 89, none, .pick (.tmp 82) (.const (.bool true)) (.tmp 88)⟩,
    ⟨some 4, none, .assign (.tmp 89)⟩])
  .ret))))))
theorem ok38 : FnOk Try.prog 38 90 [.tmp 4] c38 := ⟨hmix, Try.f38, Try.func38, by kernel_rfl, rfl, rfl, by kernel_rfl, by kernel_rfl⟩

/-- mandoline/mandolineref05.Strong -/
def c39 : SC := (.seq (.reg [⟨some 2, none, .box 25 (.tmp 0)⟩,
    ⟨some 3, none, .box 25 (.tmp 1)⟩,
    ⟨some 4, none, .assign (.const (.bool false))⟩])
  (.seq (.reg [⟨some 5, none, .load 25 (.tmp 2)⟩,
    ⟨some 6, none, .load 25 (.tmp 3)⟩,
    ⟨some 7, none, .call ⟨.value (.func 50), #[.tmp 5, .tmp 6], #[25, 25]⟩⟩,
    ⟨some 8, none, .move (.tmp 7)⟩,
    ⟨some 9, some (8, true), .fieldAddr 25 (.tmp 2) 1⟩,
    ⟨some 10, some (8, true), .load 4 (.tmp 9)⟩,
    ⟨some 11, some (8, true), .unOp .not 4 (.tmp 10)⟩,
    ⟨some 12, none, .pick (.tmp 8) (.tmp 11) (.const (.bool false))⟩,
    ⟨some 13, none, .move (.tmp 12)⟩,
    ⟨some 14, some (13, true), .fieldAddr 25 (.tmp 3) 1⟩,
    ⟨some 15, some (13, true), .load 4 (.tmp 14)⟩,
    ⟨some 16, some (13, true), .unOp .not 4 (.tmp 15)⟩,
    ⟨some 17, none, .pick (.tmp 13) (.tmp 16) (.const (.bool false))⟩,
    ⟨some 4, none, .assign (.tmp 17)⟩])
  .ret))
theorem ok39 : FnOk Try.prog 39 18 [.tmp 4] c39 := ⟨hmix, Try.f39, Try.func39, by kernel_rfl, rfl, rfl, by kernel_rfl, by kernel_rfl⟩

/-- mandoline/mandolineref14.Right -/
def c40 : SC := (.seq (.reg [⟨some 1, none, .box 30 (.tmp 0)⟩,
    ⟨some 2, none, .assign (.const (.bool false))⟩])
  (.seq (.seq (.reg [⟨some 4, none, .fieldAddr 30 (.tmp 1) 0⟩,
    ⟨some 5, none, .load 25 (.tmp 4)⟩,
    ⟨some 6, none, .call ⟨.value (.func 51), #[.tmp 5], #[25]⟩⟩,
    ⟨some 7, none, .unOp .not 4 (.tmp 6)⟩,
    ⟨some 8, none, .move (.tmp 7)⟩,
    ⟨some 9, some (8, true), .fieldAddr 30 (.tmp 1) 0⟩,
    ⟨some 10, some (8, true), .load 25 (.tmp 9)⟩,
    ⟨some 11, some (8, true), .call ⟨.value (.func 44), #[.tmp 10], #[25]⟩⟩,
    ⟨some 12, some (8, true), .unOp .not 4 (.tmp 11)⟩,
    ⟨some 13, none, .pick (.tmp 8) (.tmp 12) (.const (.bool false))⟩])
  (.cond (.tmp 13)
  (.seq (.reg [⟨some 2, none, .assign (.const (.bool false))⟩])
  .ret)
  .skip))
  (.seq (.seq (.reg [⟨some 3, none, .assign (.const (.int .i64 0))⟩])
  (.block 0 (.loop (.seq (.seq (.reg [⟨some 14, none, .move (.tmp 3)⟩,
    ⟨some 15, none, .fieldAddr 30 (.tmp 1) 0⟩,
    ⟨some 16, none, .fieldAddr 25 (.tmp 15) 0⟩,
    ⟨some 17, none, .load 9 (.tmp 16)⟩,
    ⟨some 18, none, .call ⟨.builtin .len, #[.tmp 17], #[9]⟩⟩,
    ⟨some 19, none, .binOp .lss 3 (.tmp 14) (.tmp 18) 3⟩])
  (.cond (.tmp 19)
  .skip
  (.exit 0)))
  (.seq (.block 1 (.seq (.reg [⟨some 22, none, .fieldAddr 30 (.tmp 1) 0⟩,
    ⟨some 23, none, .fieldAddr 25 (.tmp 22) 0⟩,
    ⟨some 24, none, .load 9 (.tmp 23)⟩,
    ⟨some 25, none, .move (.tmp 3)⟩,
    ⟨some 26, none, .index 9 (.tmp 24) (.tmp 25)⟩,
    ⟨some 27, none, .binOp .gtr 5 (.tmp 26) (.const (.int .u8 126)) 5⟩])
  (.cond (.tmp 27)
  (.seq (.reg [⟨some 2, none, .assign (.const (.bool false))⟩])
  .ret)
  .skip)))
  (.reg [⟨some 20, none, .move (.tmp 3)⟩,
    ⟨some 21, none, .binOp .add 3 (.tmp 20) (.const (.int .i64 1)) 3⟩,
    ⟨some 3, none, .assign (.tmp 21)⟩]))))))
  (.seq (.seq (.reg [⟨some 28, none, .fieldAddr 30 (.tmp 1) 1⟩,
    ⟨some 29, none, .load 2 (.tmp 28)⟩,
    ⟨some 30, none, .binOp .lss 2 (.tmp 29) (.const (.int .i64 (-1))) 2⟩,
    ⟨some 31, none, .move (.tmp 30)⟩,
    ⟨some 32, some (31, false), .fieldAddr 30 (.tmp 1) 1⟩,
    ⟨some 33, some (31, false), .load 2 (.tmp 32)⟩,
    ⟨some 34, some (31, false), .binOp .gtr 2 (.tmp 33) (.const (.int .i64 253402300799)) 2⟩,
    ⟨some 35, none, .pick (.tmp 31) (.const (.bool true)) (.tmp 34)⟩,
    ⟨some 36, none, .move (.tmp 35)⟩,
    ⟨some 37, some (36, false), .fieldAddr 30 (.tmp 1) 2⟩,
    ⟨some 38, some (36, false), .load 2 (.tmp 37)⟩,
    ⟨some 39, some (36, false), .binOp .lss 2 (.tmp 38) (.const (.int .i64 (-1))) 2⟩,
    ⟨some 40, none, .pick (.tmp 36) (.const (.bool true)) (.tmp 39)⟩,
    ⟨some 41, none, .move (.tmp 40)⟩,
    ⟨some 42, some (41, false), .fieldAddr 30 (.tmp 1) 2⟩,
    ⟨some 43, some (41, false), .load 2 (.tmp 42)⟩,
    ⟨some 44, some (41, false), .binOp .gtr 2 (.tmp 43) (.const (.int .i64 1099511627776)) 2⟩,
    ⟨some 45, none, .pick (.tmp 41) (.const (.bool true)) (.tmp 44)⟩,
    ⟨some 46, none, .move (.tmp 45)⟩,
    ⟨some 47, some (46, false), .fieldAddr 30 (.tmp 1) 3⟩,
    ⟨some 48, some (46, false), .load 2 (.tmp 47)⟩,
    ⟨some 49, some (46, false), .binOp .lss 2 (.tmp 48) (.const (.int .i64 0)) 2⟩,
    ⟨some 50, none, .pick (.tmp 46) (.const (.bool true)) (.tmp 49)⟩,
    ⟨some 51, none, .move (.tmp 50)⟩,
    ⟨some 52, some (51, false), .fieldAddr 30 (.tmp 1) 3⟩,
    ⟨some 53, some (51, false), .load 2 (.tmp 52)⟩,
    ⟨some 54, some (51, false), .binOp .gtr 2 (.tmp 53) (.const (.int .i64 1099511627776)) 2⟩,
    ⟨some 55, none, .pick (.tmp 51) (.const (.bool true)) (.tmp 54)⟩,
    ⟨some 56, none, .move (.tmp 55)⟩,
    ⟨some 57, some (56, false), .fieldAddr 30 (.tmp 1) 2⟩,
    ⟨some 58, some (56, false), .load 2 (.tmp 57)⟩,
    ⟨some 59, some (56, false), .binOp .geq 2 (.tmp 58) (.const (.int .i64 0)) 2⟩,
    ⟨some 60, some (56, false), .move (.tmp 59)⟩,
    ⟨some 61, some (60, true), .fieldAddr 30 (.tmp 1) 3⟩,
    ⟨some 62, some (60, true), .load 2 (.tmp 61)⟩,
    ⟨some 63, some (60, true), .fieldAddr 30 (.tmp 1) 2⟩,
    ⟨some 64, some (60, true), .load 2 (.tmp 63)⟩,
    ⟨some 65, some (60, true), .binOp .neq 2 (.tmp 62) (.tmp 64) 2⟩,
    ⟨some 66, some (56, false), .pick (.tmp 60) (.tmp 65) (.const (.bool false))⟩,
    ⟨some 67, none, .pick (.tmp 56) (.const (.bool true)) (.tmp 66)⟩])
  (.cond (.tmp 67)
  (.seq (.reg [⟨some 2, none, .assign (.const (.bool false))⟩])
  .ret)
  .skip))
  (.seq (.seq (.reg [⟨some 68, none, .fieldAddr 30 (.tmp 1) 4⟩,
    ⟨some 69, none, .load 2 (.tmp 68)⟩,
    ⟨some 70, none, .binOp .lss 2 (.tmp 69) (.const (.int .i64 0)) 2⟩,
    ⟨some 71, none, .move (.tmp 70)⟩,
    ⟨some 72, some (71, false), .fieldAddr 30 (.tmp 1) 4⟩,
    ⟨some 73, some (71, false), .load 2 (.tmp 72)⟩,
    ⟨some 74, some (71, false), .binOp .gtr 2 (.tmp 73) (.const (.int .i64 1099511627776)) 2⟩,
    ⟨some 75, none, .pick (.tmp 71) (.const (.bool true)) (.tmp 74)⟩,
    ⟨some 76, none, .move (.tmp 75)⟩,
    ⟨some 77, some (76, false), .fieldAddr 30 (.tmp 1) 5⟩,
    ⟨some 78, some (76, false), .load 2 (.tmp 77)⟩,
    ⟨some 79, some (76, false), .binOp .lss 2 (.tmp 78) (.const (.int .i64 0)) 2⟩,
    ⟨some 80, none, .pick (.tmp 76) (.const (.bool true)) (.tmp 79)⟩,
    ⟨some 81, none, .move (.tmp 80)⟩,
    ⟨some 82, some (81, false), .fieldAddr 30 (.tmp 1) 5⟩,
    ⟨some 83, some (81, false), .load 2 (.tmp 82)⟩,
    ⟨some 84, some (81, false), .binOp .gtr 2 (.tmp 83) (.const (.int .i64 1099511627776)) 2⟩,
    ⟨some 85, none, .pick (.tmp 81) (.const (.bool true)) (.tmp 84)⟩,
    ⟨some 86, none, .move (.tmp 85)⟩,
    ⟨some 87, some (86, false), .fieldAddr 30 (.tmp 1) 6⟩,
    ⟨some 88, some (86, false), .load 2 (.tmp 87)⟩,
    ⟨some 89, some (86, false), .binOp .lss 2 (.tmp 88) (.const (.int .i64 0)) 2⟩,
    ⟨some 90, none, .pick (.tmp 86) (.const (.bool true)) (.tmp 89)⟩,
    ⟨some 91, none, .move (.tmp 90)⟩,
    ⟨some 92, some (91, false), .fieldAddr 30 (.tmp 1) 6⟩,
    ⟨some 93, some (91, false), .load 2 (.tmp 92)⟩,
    ⟨some 94, some (91, false), .binOp .gtr 2 (.tmp 93) (.const (.int .i64 1099511627776)) 2⟩,
    ⟨some 95, none, .pick (.tmp 91) (.const (.bool true)) (.tmp 94)⟩])
  (.cond (.tmp 95)
  (.seq (.reg [⟨some 2, none, .assign (.const (.bool false))⟩])
  .ret)
  .skip))
  (.seq (.reg [⟨some 96, none, .fieldAddr 30 (.tmp 1) 7⟩,
    ⟨some 97, none, .load 28 (.tmp 96)⟩,
    ⟨some 98, none, .call ⟨.value (.func 52), #[.tmp 97], #[28]⟩⟩,
    ⟨some 99, none, .move (.tmp 98)⟩,
    ⟨some 100, some (99, true), .fieldAddr 30 (.tmp 1) 8⟩,
    ⟨some 101, some (99, true), .load 9 (.tmp 100)⟩,
    ⟨some 102, some (99, true), .call ⟨.value (.func 53), #[.tmp 101], #[9]⟩⟩,
    ⟨some 103, none, .pick (.tmp 99) (.tmp 102) (.const (.bool false))⟩,
    ⟨some 2, none, .assign (.tmp 103)⟩])
  .ret))))))
theorem ok40 : FnOk Try.prog 40 104 [.tmp 2] c40 := ⟨hmix, Try.f40, Try.func40, by kernel_rfl, rfl, rfl, by kernel_rfl, by kernel_rfl⟩

/-- (*mandoline/fetch.Fetch).in -/
def c41 : SC := (.seq (.reg [⟨some 4, none, .assign (.const (.bool false))⟩])
  (.seq (.reg [⟨some 5, none, .move (.tmp 0)⟩,
    ⟨some 6, none, .binOp .neq 41 (.tmp 5) (.const (.pointer .none)) 41⟩,
    ⟨some 7, none, .move (.tmp 6)⟩,
    ⟨some 8, some (7, true), .move (.tmp 0)⟩,
    ⟨some 9, some (7, true), .nilCheck (.tmp 8)⟩,
    ⟨some 10, some (7, true), .fieldAddr 74 (.tmp 9) 1⟩,
    ⟨some 11, some (7, true), .load 3 (.tmp 10)⟩,
    ⟨some 12, some (7, true), .move (.tmp 1)⟩,
    ⟨some 13, some (7, true), .binOp .eql 3 (.tmp 11) (.tmp 12) 3⟩,
    ⟨some 14, none, .pick (.tmp 7) (.tmp 13) (.const (.bool false))⟩,
    ⟨some 4, none, .assign (.tmp 14)⟩])
  .ret))
theorem ok41 : FnOk Try.prog 41 15 [.tmp 4] c41 := ⟨hmix, Try.f41, Try.func41, by kernel_rfl, rfl, rfl, by kernel_rfl, by kernel_rfl⟩

/-- mandoline/tag.Right -/
def c42 : SC := (.seq (.reg [⟨some 1, none, .box 25 (.tmp 0)⟩,
    ⟨some 2, none, .assign (.const (.bool false))⟩])
  (.seq (.seq (.reg [⟨some 5, none, .fieldAddr 25 (.tmp 1) 0⟩,
    ⟨some 6, none, .load 9 (.tmp 5)⟩,
    ⟨some 7, none, .call ⟨.builtin .len, #[.tmp 6], #[9]⟩⟩,
    ⟨some 8, none, .move (.const (.int .i64 0))⟩])
  (.block 0 (.loop (.seq (.reg [⟨some 9, none, .binOp .lss 3 (.tmp 8) (.tmp 7) 3⟩])
  (.seq (.cond (.tmp 9)
  .skip
  (.exit 0))
  (.seq (.block 1 (.seq (.reg [⟨some 10, none, .move (.tmp 8)⟩,
    ⟨some 3, none, .assign (.tmp 10)⟩])
  (.seq (.reg [⟨some 11, none, .fieldAddr 25 (.tmp 1) 0⟩,
    ⟨some 12, none, .load 9 (.tmp 11)⟩,
    ⟨some 13, none, .move (.tmp 3)⟩,
    ⟨some 14, none, .index 9 (.tmp 12) (.tmp 13)⟩,
    ⟨some 4, none, .assign (.tmp 14)⟩])
  (.seq (.reg [⟨some 15, none, .move (.tmp 4)⟩,
    ⟨some 16, none, .binOp .neq 5 (.tmp 15) (.const (.int .u8 33)) 5⟩,
    ⟨some 17, none, .move (.tmp 16)⟩,
    ⟨some 18, some (17, true), .move (.tmp 4)⟩,
    ⟨some 19, some (17, true), .binOp .lss 5 (.tmp 18) (.const (.int .u8 35)) 5⟩,
    ⟨some 20, some (17, true), .move (.tmp 19)⟩,
    ⟨some 21, some (20, false), .move (.tmp 4)⟩,
    ⟨some 22, some (20, false), .binOp .gtr 5 (.tmp 21) (.const (.int .u8 126)) 5⟩,
    ⟨some 23, some (17, true), .pick (.tmp 20) (.const (.bool true)) (.tmp 22)⟩,
    ⟨some 24, none, .pick (.tmp 17) (.tmp 23) (.const (.bool false))⟩])
  (.cond (.tmp 24)
  (.seq (.reg [⟨some 2, none, .assign (.const (.bool false))⟩])
  .ret)
  .skip)))))
  (.reg [⟨some 25, none, .binOp .add 3 (.tmp 8) (.const (.int .i64 1)) 3⟩,
    ⟨some 8, none, .move (.tmp 25)⟩])))))))
  (.seq (.reg [⟨some 26, none, .fieldAddr 25 (.tmp 1) 0⟩,
    ⟨some 27, none, .load 9 (.tmp 26)⟩,
    ⟨some 28, none, .call ⟨.builtin .len, #[.tmp 27], #[9]⟩⟩,
    ⟨some 29, none, .binOp .gtr 3 (.tmp 28) (.const (.int .i64 0)) 3⟩,
    ⟨some 30, none, .move (.tmp 29)⟩,
    ⟨some 31, some (30, true), .fieldAddr 25 (.tmp 1) 0⟩,
    ⟨some 32, some (30, true), .load 9 (.tmp 31)⟩,
    ⟨some 33, some (30, true), .call ⟨.builtin .len, #[.tmp 32], #[9]⟩⟩,
    ⟨some 34, some (30, true), .binOp .leq 3 (.tmp 33) (.const (.int .i64 100)) 3⟩,
    ⟨some 35, none, .pick (.tmp 30) (.tmp 34) (.const (.bool false))⟩,
    ⟨some 2, none, .assign (.tmp 35)⟩])
  .ret)))
theorem ok42 : FnOk Try.prog 42 36 [.tmp 2] c42 := ⟨hmix, Try.f42, Try.func42, by kernel_rfl, rfl, rfl, by kernel_rfl, by kernel_rfl⟩

/-- mandoline/mandolineref01.end -/
def c43 : SC := (.seq (.reg [⟨some 0, none, .assign (.const (.int .i64 0))⟩])
  (.seq (.reg [⟨some 0, none, .assign (.const (.int .i64 4611686018427387904))⟩])
  .ret))
theorem ok43 : FnOk Try.prog 43 1 [.tmp 0] c43 := ⟨hmix, Try.f43, Try.func43, by kernel_rfl, rfl, rfl, by kernel_rfl, by kernel_rfl⟩

/-- mandoline/mandolineref05.Right -/
def c44 : SC := (.seq (.reg [⟨some 1, none, .box 25 (.tmp 0)⟩,
    ⟨some 2, none, .assign (.const (.bool false))⟩])
  (.seq (.seq (.reg [⟨some 5, none, .fieldAddr 25 (.tmp 1) 0⟩,
    ⟨some 6, none, .load 9 (.tmp 5)⟩,
    ⟨some 7, none, .call ⟨.builtin .len, #[.tmp 6], #[9]⟩⟩,
    ⟨some 8, none, .binOp .lss 3 (.tmp 7) (.const (.int .i64 1)) 3⟩,
    ⟨some 9, none, .move (.tmp 8)⟩,
    ⟨some 10, some (9, false), .fieldAddr 25 (.tmp 1) 0⟩,
    ⟨some 11, some (9, false), .load 9 (.tmp 10)⟩,
    ⟨some 12, some (9, false), .call ⟨.builtin .len, #[.tmp 11], #[9]⟩⟩,
    ⟨some 13, some (9, false), .binOp .gtr 3 (.tmp 12) (.const (.int .i64 100)) 3⟩,
    ⟨some 14, none, .pick (.tmp 9) (.const (.bool true)) (.tmp 13)⟩])
  (.cond (.tmp 14)
  (.seq (.reg [⟨some 2, none, .assign (.const (.bool false))⟩])
  .ret)
  .skip))
  (.seq (.seq (.reg [⟨some 3, none, .assign (.const (.int .i64 0))⟩])
  (.block 0 (.loop (.seq (.seq (.reg [⟨some 15, none, .move (.tmp 3)⟩,
    ⟨some 16, none, .fieldAddr 25 (.tmp 1) 0⟩,
    ⟨some 17, none, .load 9 (.tmp 16)⟩,
    ⟨some 18, none, .call ⟨.builtin .len, #[.tmp 17], #[9]⟩⟩,
    ⟨some 19, none, .binOp .lss 3 (.tmp 15) (.tmp 18) 3⟩])
  (.cond (.tmp 19)
  .skip
  (.exit 0)))
  (.seq (.block 1 (.seq (.reg [⟨some 22, none, .fieldAddr 25 (.tmp 1) 0⟩,
    ⟨some 23, none, .load 9 (.tmp 22)⟩,
    ⟨some 24, none, .move (.tmp 3)⟩,
    ⟨some 25, none, .index 9 (.tmp 23) (.tmp 24)⟩,
    ⟨some 4, none, .assign (.tmp 25)⟩])
  (.seq (.reg [⟨some 26, none, .move (.tmp 4)⟩,
    ⟨some 27, none, .binOp .lss 5 (.tmp 26) (.const (.int .u8 33)) 5⟩,
    ⟨some 28, none, .move (.tmp 27)⟩,
    ⟨some 29, some (28, false), .move (.tmp 4)⟩,
    ⟨some 30, some (28, false), .binOp .eql 5 (.tmp 29) (.const (.int .u8 34)) 5⟩,
    ⟨some 31, none, .pick (.tmp 28) (.const (.bool true)) (.tmp 30)⟩,
    ⟨some 32, none, .move (.tmp 31)⟩,
    ⟨some 33, some (32, false), .move (.tmp 4)⟩,
    ⟨some 34, some (32, false), .binOp .gtr 5 (.tmp 33) (.const (.int .u8 126)) 5⟩,
    ⟨some 35, none, .pick (.tmp 32) (.const (.bool true)) (.tmp 34)⟩])
  (.cond (.tmp 35)
  (.seq (.reg [⟨some 2, none, .assign (.const (.bool false))⟩])
  .ret)
  .skip))))
  (.reg [⟨some 20, none, .move (.tmp 3)⟩,
    ⟨some 21, none, .binOp .add 3 (.tmp 20) (.const (.int .i64 1)) 3⟩,
    ⟨some 3, none, .assign (.tmp 21)⟩]))))))
  (.seq (.reg [⟨some 2, none, .assign (.const (.bool true))⟩])
  .ret))))
theorem ok44 : FnOk Try.prog 44 36 [.tmp 2] c44 := ⟨hmix, Try.f44, Try.func44, by kernel_rfl, rfl, rfl, by kernel_rfl, by kernel_rfl⟩

/-- mandoline/meta.tagged -/
def c45 : SC := (.seq (.reg [⟨some 1, none, .box 25 (.tmp 0)⟩,
    ⟨some 2, none, .assign (.const (.bool false))⟩])
  (.seq (.reg [⟨some 3, none, .load 25 (.tmp 1)⟩,
    ⟨some 4, none, .build 25 #[]⟩,
    ⟨some 5, none, .binOp .eql 25 (.tmp 3) (.tmp 4) 25⟩,
    ⟨some 6, none, .move (.tmp 5)⟩,
    ⟨some 7, some (6, false), .load 25 (.tmp 1)⟩,
    ⟨some 8, some (6, false), .call ⟨.value (.func 42), #[.tmp 7], #[25]⟩⟩,
    ⟨some 9, some (6, false), .move (.tmp 8)⟩,
    ⟨some 10, some (9, true), .fieldAddr 25 (.tmp 1) 0⟩,
    ⟨some 11, some (9, true), .load 9 (.tmp 10)⟩,
    ⟨some 12, some (9, true), .call ⟨.value (.func 54), #[.tmp 11, .func 55], #[9, 81]⟩⟩,
    ⟨some 13, some (9, true), .binOp .lss 3 (.tmp 12) (.const (.int .i64 0)) 3⟩,
    ⟨some 14, some (6, false), .pick (.tmp 9) (.tmp 13) (.const (.bool false))⟩,
    ⟨some 15, none, .pick (.tmp 6) (.const (.bool true)) (.tmp 14)⟩,
    ⟨some 2, none, .assign (.tmp 15)⟩])
  .ret))
theorem ok45 : FnOk Try.prog 45 16 [.tmp 2] c45 := ⟨hmix, Try.f45, Try.func45, by kernel_rfl, rfl, rfl, by kernel_rfl, by kernel_rfl⟩

/-- mandoline/meta.within -/
def c46 : SC := (.seq (.reg [⟨some 4, none, .assign (.const (.bool false))⟩])
  (.seq (.reg [⟨some 5, none, .move (.tmp 0)⟩,
    ⟨some 6, none, .move (.tmp 1)⟩,
    ⟨some 7, none, .binOp .geq 2 (.tmp 5) (.tmp 6) 2⟩,
    ⟨some 8, none, .move (.tmp 7)⟩,
    ⟨some 9, some (8, true), .move (.tmp 0)⟩,
    ⟨some 10, some (8, true), .binOp .leq 2 (.tmp 9) (.const (.int .i64 1099511627776)) 2⟩,
    ⟨some 11, none, .pick (.tmp 8) (.tmp 10) (.const (.bool false))⟩,
    ⟨some 4, none, .assign (.tmp 11)⟩])
  .ret))
theorem ok46 : FnOk Try.prog 46 12 [.tmp 4] c46 := ⟨hmix, Try.f46, Try.func46, by kernel_rfl, rfl, rfl, by kernel_rfl, by kernel_rfl⟩

/-- mandoline/meta.tenant -/
def c47 : SC := (.seq (.reg [⟨some 2, none, .assign (.const (.bool false))⟩])
  (.seq (.reg [⟨some 3, none, .assign (.func 56)⟩])
  (.seq (.reg [⟨some 4, none, .move (.tmp 0)⟩,
    ⟨some 5, none, .call ⟨.builtin .len, #[.tmp 4], #[9]⟩⟩,
    ⟨some 6, none, .binOp .leq 3 (.tmp 5) (.const (.int .i64 40)) 3⟩,
    ⟨some 7, none, .move (.tmp 6)⟩,
    ⟨some 8, some (7, true), .move (.tmp 0)⟩,
    ⟨some 9, some (7, true), .move (.tmp 3)⟩,
    ⟨some 10, some (7, true), .call ⟨.value (.func 54), #[.tmp 8, .tmp 9], #[9, 81]⟩⟩,
    ⟨some 11, some (7, true), .binOp .lss 3 (.tmp 10) (.const (.int .i64 0)) 3⟩,
    ⟨some 12, none, .pick (.tmp 7) (.tmp 11) (.const (.bool false))⟩,
    ⟨some 13, none, .move (.tmp 12)⟩,
    ⟨some 14, some (13, true), .move (.tmp 0)⟩,
    ⟨some 15, some (13, true), .call ⟨.value (.func 57), #[.tmp 14, .const (.string ⟨#[45]⟩)], #[9, 9]⟩⟩,
    ⟨some 16, some (13, true), .unOp .not 4 (.tmp 15)⟩,
    ⟨some 17, none, .pick (.tmp 13) (.tmp 16) (.const (.bool false))⟩,
    ⟨some 2, none, .assign (.tmp 17)⟩])
  .ret)))
theorem ok47 : FnOk Try.prog 47 18 [.tmp 2] c47 := ⟨hmix, Try.f47, Try.func47, by kernel_rfl, rfl, rfl, by kernel_rfl, by kernel_rfl⟩

/-- mandoline/meta.key -/
def c48 : SC := (.seq (.reg [⟨some 2, none, .assign (.const (.bool false))⟩])
  (.seq (.reg [⟨some 3, none, .move (.tmp 0)⟩,
    ⟨some 4, none, .binOp .neq 9 (.tmp 3) (.const (.string ⟨#[]⟩)) 9⟩,
    ⟨some 5, none, .move (.tmp 4)⟩,
    ⟨some 6, some (5, true), .move (.tmp 0)⟩,
    ⟨some 7, some (5, true), .call ⟨.builtin .len, #[.tmp 6], #[9]⟩⟩,
    ⟨some 8, some (5, true), .binOp .leq 3 (.tmp 7) (.const (.int .i64 200)) 3⟩,
    ⟨some 9, none, .pick (.tmp 5) (.tmp 8) (.const (.bool false))⟩,
    ⟨some 10, none, .move (.tmp 9)⟩,
    ⟨some 11, some (10, true), .move (.tmp 0)⟩,
    ⟨some 12, some (10, true), .call ⟨.value (.func 54), #[.tmp 11, .func 58], #[9, 81]⟩⟩,
    ⟨some 13, some (10, true), .binOp .lss 3 (.tmp 12) (.const (.int .i64 0)) 3⟩,
    ⟨some 14, none, .pick (.tmp 10) (.tmp 13) (.const (.bool false))⟩,
    ⟨some 2, none, .assign (.tmp 14)⟩])
  .ret))
theorem ok48 : FnOk Try.prog 48 15 [.tmp 2] c48 := ⟨hmix, Try.f48, Try.func48, by kernel_rfl, rfl, rfl, by kernel_rfl, by kernel_rfl⟩

/-- mandoline/tag.Weak -/
def c49 : SC := (.seq (.reg [⟨some 2, none, .box 25 (.tmp 0)⟩,
    ⟨some 3, none, .box 25 (.tmp 1)⟩,
    ⟨some 4, none, .assign (.const (.bool false))⟩])
  (.seq (.reg [⟨some 5, none, .load 25 (.tmp 2)⟩,
    ⟨some 6, none, .call ⟨.value (.func 42), #[.tmp 5], #[25]⟩⟩,
    ⟨some 7, none, .move (.tmp 6)⟩,
    ⟨some 8, some (7, true), .load 25 (.tmp 3)⟩,
    ⟨some 9, some (7, true), .call ⟨.value (.func 42), #[.tmp 8], #[25]⟩⟩,
    ⟨some 10, none, .pick (.tmp 7) (.tmp 9) (.const (.bool false))⟩,
    ⟨some 11, none, .move (.tmp 10)⟩,
    ⟨some 12, some (11, true), .fieldAddr 25 (.tmp 2) 0⟩,
    ⟨some 13, some (11, true), .load 9 (.tmp 12)⟩,
    ⟨some 14, some (11, true), .fieldAddr 25 (.tmp 3) 0⟩,
    ⟨some 15, some (11, true), .load 9 (.tmp 14)⟩,
    ⟨some 16, some (11, true), .binOp .eql 9 (.tmp 13) (.tmp 15) 9⟩,
    ⟨some 17, none, .pick (.tmp 11) (.tmp 16) (.const (.bool false))⟩,
    ⟨some 4, none, .assign (.tmp 17)⟩])
  .ret))
theorem ok49 : FnOk Try.prog 49 18 [.tmp 4] c49 := ⟨hmix, Try.f49, Try.func49, by kernel_rfl, rfl, rfl, by kernel_rfl, by kernel_rfl⟩

/-- mandoline/mandolineref05.Weak -/
def c50 : SC := (.seq (.reg [⟨some 2, none, .box 25 (.tmp 0)⟩,
    ⟨some 3, none, .box 25 (.tmp 1)⟩,
    ⟨some 4, none, .assign (.const (.bool false))⟩])
  (.seq (.reg [⟨some 5, none, .load 25 (.tmp 2)⟩,
    ⟨some 6, none, .call ⟨.value (.func 44), #[.tmp 5], #[25]⟩⟩,
    ⟨some 7, none, .move (.tmp 6)⟩,
    ⟨some 8, some (7, true), .load 25 (.tmp 3)⟩,
    ⟨some 9, some (7, true), .call ⟨.value (.func 44), #[.tmp 8], #[25]⟩⟩,
    ⟨some 10, none, .pick (.tmp 7) (.tmp 9) (.const (.bool false))⟩,
    ⟨some 11, none, .move (.tmp 10)⟩,
    ⟨some 12, some (11, true), .fieldAddr 25 (.tmp 2) 0⟩,
    ⟨some 13, some (11, true), .load 9 (.tmp 12)⟩,
    ⟨some 14, some (11, true), .fieldAddr 25 (.tmp 3) 0⟩,
    ⟨some 15, some (11, true), .load 9 (.tmp 14)⟩,
    ⟨some 16, some (11, true), .binOp .eql 9 (.tmp 13) (.tmp 15) 9⟩,
    ⟨some 17, none, .pick (.tmp 11) (.tmp 16) (.const (.bool false))⟩,
    ⟨some 4, none, .assign (.tmp 17)⟩])
  .ret))
theorem ok50 : FnOk Try.prog 50 18 [.tmp 4] c50 := ⟨hmix, Try.f50, Try.func50, by kernel_rfl, rfl, rfl, by kernel_rfl, by kernel_rfl⟩

/-- mandoline/mandolineref14.none -/
def c51 : SC := (.seq (.reg [⟨some 1, none, .box 25 (.tmp 0)⟩,
    ⟨some 2, none, .assign (.const (.bool false))⟩])
  (.seq (.reg [⟨some 3, none, .fieldAddr 25 (.tmp 1) 0⟩,
    ⟨some 4, none, .load 9 (.tmp 3)⟩,
    ⟨some 5, none, .binOp .eql 9 (.tmp 4) (.const (.string ⟨#[]⟩)) 9⟩,
    ⟨some 6, none, .move (.tmp 5)⟩,
    ⟨some 7, some (6, true), .fieldAddr 25 (.tmp 1) 1⟩,
    ⟨some 8, some (6, true), .load 4 (.tmp 7)⟩,
    ⟨some 9, some (6, true), .unOp .not 4 (.tmp 8)⟩,
    ⟨some 10, none, .pick (.tmp 6) (.tmp 9) (.const (.bool false))⟩,
    ⟨some 2, none, .assign (.tmp 10)⟩])
  .ret))
theorem ok51 : FnOk Try.prog 51 11 [.tmp 2] c51 := ⟨hmix, Try.f51, Try.func51, by kernel_rfl, rfl, rfl, by kernel_rfl, by kernel_rfl⟩

/-- mandoline/mandolineref14.keys -/
def c52 : SC := (.seq (.reg [⟨some 2, none, .assign (.const (.bool false))⟩])
  (.seq (.seq (.reg [⟨some 5, none, .move (.tmp 0)⟩,
    ⟨some 6, none, .call ⟨.builtin .len, #[.tmp 5], #[28]⟩⟩,
    ⟨some 7, none, .binOp .gtr 3 (.tmp 6) (.const (.int .i64 32)) 3⟩])
  (.cond (.tmp 7)
  (.seq (.reg [⟨some 2, none, .assign (.const (.bool false))⟩])
  .ret)
  .skip))
  (.seq (.seq (.reg [⟨some 3, none, .assign (.const (.int .i64 0))⟩])
  (.block 0 (.loop (.seq (.seq (.reg [⟨some 8, none, .move (.tmp 3)⟩,
    ⟨some 9, none, .move (.tmp 0)⟩,
    ⟨some 10, none, .call ⟨.builtin .len, #[.tmp 9], #[28]⟩⟩,
    ⟨some 11, none, .binOp .lss 3 (.tmp 8) (.tmp 10) 3⟩])
  (.cond (.tmp 11)
  .skip
  (.exit 0)))
  (.seq (.block 1 (.seq (.seq (.reg [⟨some 14, none, .move (.tmp 0)⟩,
    ⟨some 15, none, .move (.tmp 3)⟩,
    ⟨some 16, none, .indexAddr 28 (.tmp 14) (.tmp 15)⟩,
    ⟨some 17, none, .load 9 (.tmp 16)⟩,
    ⟨some 18, none, .call ⟨.value (.func 59), #[.tmp 17], #[9]⟩⟩,
    ⟨some 19, none, .unOp .not 4 (.tmp 18)⟩])
  (.cond (.tmp 19)
  (.seq (.reg [⟨some 2, none, .assign (.const (.bool false))⟩])
  .ret)
  .skip))
  (.seq (.reg [⟨some 4, none, .assign (.const (.int .i64 0))⟩])
  (.block 2 (.loop (.seq (.seq (.reg [⟨some 20, none, .move (.tmp 4)⟩,
    ⟨some 21, none, .move (.tmp 3)⟩,
    ⟨some 22, none, .binOp .lss 3 (.tmp 20) (.tmp 21) 3⟩])
  (.cond (.tmp 22)
  .skip
  (.exit 2)))
  (.seq (.block 3 (.seq (.draw #[⟨some 25, .move (.tmp 0), 28, "ref.go:46", #[], none⟩,
    ⟨some 26, .move (.tmp 4), 3, "ref.go:46", #[], none⟩,
    ⟨some 27, .indexAddr 28 (.tmp 25) (.tmp 26), 0, "ref.go:46", #[⟨0, .data⟩, ⟨1, .data⟩], none⟩,
    ⟨some 28, .load 9 (.tmp 27), 9, "ref.go:46", #[⟨2, .data⟩], none⟩,
    ⟨some 29, .move (.tmp 0), 28, "ref.go:46", #[], none⟩,
    ⟨some 30, .move (.tmp 3), 3, "ref.go:46", #[], none⟩,
    ⟨some 31, .indexAddr 28 (.tmp 29) (.tmp 30), 0, "ref.go:46", #[⟨4, .data⟩, ⟨5, .data⟩], none⟩,
    ⟨some 32, .load 9 (.tmp 31), 9, "ref.go:46", #[⟨6, .data⟩], none⟩,
    ⟨some 33, .binOp .eql 9 (.tmp 28) (.tmp 32) 9, 4, "ref.go:46", #[⟨3, .data⟩, ⟨7, .data⟩], none⟩]
    [⟨some 25, none, .move (.tmp 0)⟩,
    ⟨some 26, none, .move (.tmp 4)⟩,
    ⟨some 27, none, .indexAddr 28 (.tmp 25) (.tmp 26)⟩,
    ⟨some 28, none, .load 9 (.tmp 27)⟩,
    ⟨some 29, none, .move (.tmp 0)⟩,
    ⟨some 30, none, .move (.tmp 3)⟩,
    ⟨some 31, none, .indexAddr 28 (.tmp 29) (.tmp 30)⟩,
    ⟨some 32, none, .load 9 (.tmp 31)⟩,
    ⟨some 33, none, .binOp .eql 9 (.tmp 28) (.tmp 32) 9⟩])
  (.cond (.tmp 33)
  (.seq (.reg [⟨some 2, none, .assign (.const (.bool false))⟩])
  .ret)
  .skip)))
  (.reg [⟨some 23, none, .move (.tmp 4)⟩,
    ⟨some 24, none, .binOp .add 3 (.tmp 23) (.const (.int .i64 1)) 3⟩,
    ⟨some 4, none, .assign (.tmp 24)⟩]))))))))
  (.reg [⟨some 12, none, .move (.tmp 3)⟩,
    ⟨some 13, none, .binOp .add 3 (.tmp 12) (.const (.int .i64 1)) 3⟩,
    ⟨some 3, none, .assign (.tmp 13)⟩]))))))
  (.seq (.reg [⟨some 2, none, .assign (.const (.bool true))⟩])
  .ret))))
theorem ok52 : FnOk Try.prog 52 34 [.tmp 2] c52 := ⟨hmix, Try.f52, Try.func52, by kernel_rfl, rfl, rfl, by kernel_rfl, by kernel_rfl⟩

/-- mandoline/mandolineref14.Tenant -/
def c53 : SC := (.seq (.reg [⟨some 2, none, .assign (.const (.bool false))⟩])
  (.seq (.seq (.reg [⟨some 3, none, .assign (.const (.int .i64 0))⟩])
  (.block 0 (.loop (.seq (.seq (.reg [⟨some 5, none, .move (.tmp 3)⟩,
    ⟨some 6, none, .move (.tmp 0)⟩,
    ⟨some 7, none, .call ⟨.builtin .len, #[.tmp 6], #[9]⟩⟩,
    ⟨some 8, none, .binOp .lss 3 (.tmp 5) (.tmp 7) 3⟩])
  (.cond (.tmp 8)
  .skip
  (.exit 0)))
  (.seq (.block 1 (.seq (.reg [⟨some 11, none, .move (.tmp 0)⟩,
    ⟨some 12, none, .move (.tmp 3)⟩,
    ⟨some 13, none, .index 9 (.tmp 11) (.tmp 12)⟩,
    ⟨some 4, none, .assign (.tmp 13)⟩])
  (.seq (.reg [⟨some 14, none, .move (.tmp 4)⟩,
    ⟨some 15, none, .binOp .lss 5 (.tmp 14) (.const (.int .u8 97)) 5⟩,
    ⟨some 16, none, .move (.tmp 15)⟩,
    ⟨some 17, some (16, false), .move (.tmp 4)⟩,
    ⟨some 18, some (16, false), .binOp .gtr 5 (.tmp 17) (.const (.int .u8 122)) 5⟩,
    ⟨some 19, none, .pick (.tmp 16) (.const (.bool true)) (.tmp 18)⟩,
    ⟨some 20, none, .move (.tmp 19)⟩,
    ⟨some 21, some (20, true), .move (.tmp 4)⟩,
    ⟨some 22, some (20, true), .binOp .lss 5 (.tmp 21) (.const (.int .u8 65)) 5⟩,
    ⟨some 23, some (20, true), .move (.tmp 22)⟩,
    ⟨some 24, some (23, false), .move (.tmp 4)⟩,
    ⟨some 25, some (23, false), .binOp .gtr 5 (.tmp 24) (.const (.int .u8 90)) 5⟩,
    ⟨some 26, some (20, true), .pick (.tmp 23) (.const (.bool true)) (.tmp 25)⟩,
    ⟨some 27, none, .pick (.tmp 20) (.tmp 26) (.const (.bool false))⟩,
    ⟨some 28, none, .move (.tmp 27)⟩,
    ⟨some 29, some (28, true), .move (.tmp 4)⟩,
    ⟨some 30, some (28, true), .binOp .lss 5 (.tmp 29) (.const (.int .u8 48)) 5⟩,
    ⟨some 31, some (28, true), .move (.tmp 30)⟩,
    ⟨some 32, some (31, false), .move (.tmp 4)⟩,
    ⟨some 33, some (31, false), .binOp .gtr 5 (.tmp 32) (.const (.int .u8 57)) 5⟩,
    ⟨some 34, some (28, true), .pick (.tmp 31) (.const (.bool true)) (.tmp 33)⟩,
    ⟨some 35, none, .pick (.tmp 28) (.tmp 34) (.const (.bool false))⟩,
    ⟨some 36, none, .move (.tmp 35)⟩,
    ⟨some 37, some (36, true), .move (.tmp 4)⟩,
    ⟨some 38, some (36, true), .binOp .neq 5 (.tmp 37) (.const (.int .u8 95)) 5⟩,
    ⟨some 39, none, .pick (.tmp 36) (.tmp 38) (.const (.bool false))⟩,
    ⟨some 40, none, .move (.tmp 39)⟩,
    ⟨some 41, some (40, true), .move (.tmp 4)⟩,
    ⟨some 42, some (40, true), .binOp .neq 5 (.tmp 41) (.const (.int .u8 45)) 5⟩,
    ⟨some 43, some (40, true), .move (.tmp 42)⟩,
    ⟨some 44, some (43, false), .move (.tmp 3)⟩,
    ⟨some 45, some (43, false), .binOp .eql 3 (.tmp 44) (.const (.int .i64 0)) 3⟩,
    ⟨some 46, some (40, true), .pick (.tmp 43) (.const (.bool true)) (.tmp 45)⟩,
    ⟨some 47, none, .pick (.tmp 40) (.tmp 46) (.const (.bool false))⟩])
  (.cond (.tmp 47)
  (.seq (.reg [⟨some 2, none, .assign (.const (.bool false))⟩])
  .ret)
  .skip))))
  (.reg [⟨some 9, none, .move (.tmp 3)⟩,
    ⟨some 10, none, .binOp .add 3 (.tmp 9) (.const (.int .i64 1)) 3⟩,
    ⟨some 3, none, .assign (.tmp 10)⟩]))))))
  (.seq (.reg [⟨some 48, none, .move (.tmp 0)⟩,
    ⟨some 49, none, .call ⟨.builtin .len, #[.tmp 48], #[9]⟩⟩,
    ⟨some 50, none, .binOp .leq 3 (.tmp 49) (.const (.int .i64 40)) 3⟩,
    ⟨some 2, none, .assign (.tmp 50)⟩])
  .ret)))
theorem ok53 : FnOk Try.prog 53 51 [.tmp 2] c53 := ⟨hmix, Try.f53, Try.func53, by kernel_rfl, rfl, rfl, by kernel_rfl, by kernel_rfl⟩

/-- strings.IndexFunc -/
def c54 : SC := (.seq (.reg [⟨some 4, none, .assign (.const (.int .i64 0))⟩])
  (.seq (.reg [⟨some 5, none, .move (.tmp 0)⟩,
    ⟨some 6, none, .move (.tmp 1)⟩,
    ⟨some 7, none, .call ⟨.value (.func 60), #[.tmp 5, .tmp 6, .const (.bool true)], #[9, 81, 4]⟩⟩,
    ⟨some 4, none, .assign (.tmp 7)⟩])
  .ret))
theorem ok54 : FnOk Try.prog 54 8 [.tmp 4] c54 := ⟨hmix, Try.f54, Try.func54, by kernel_rfl, rfl, rfl, by kernel_rfl, by kernel_rfl⟩

/-- mandoline/meta.tagged$1 -/
def c55 : SC := (.seq (.reg [⟨some 2, none, .assign (.const (.bool false))⟩])
  (.seq (.reg [⟨some 3, none, .move (.tmp 0)⟩,
    ⟨some 4, none, .binOp .gtr 21 (.tmp 3) (.const (.int .i32 126)) 21⟩,
    ⟨some 2, none, .assign (.tmp 4)⟩])
  .ret))
theorem ok55 : FnOk Try.prog 55 5 [.tmp 2] c55 := ⟨hmix, Try.f55, Try.func55, by kernel_rfl, rfl, rfl, by kernel_rfl, by kernel_rfl⟩

/-- mandoline/meta.tenant$1 -/
def c56 : SC := (.seq (.reg [⟨some 2, none, .assign (.const (.bool false))⟩])
  (.seq (.reg [⟨some 3, none, .move (.tmp 0)⟩,
    ⟨some 4, none, .binOp .or 21 (.tmp 3) (.const (.int .i32 32)) 21⟩,
    ⟨some 5, none, .binOp .geq 21 (.tmp 4) (.const (.int .i32 97)) 21⟩,
    ⟨some 6, none, .move (.tmp 5)⟩,
    ⟨some 7, some (6, true), .move (.tmp 0)⟩,
    ⟨some 8, some (6, true), .binOp .or 21 (.tmp 7) (.const (.int .i32 32)) 21⟩,
    ⟨some 9, some (6, true), .binOp .leq 21 (.tmp 8) (.const (.int .i32 122)) 21⟩,
    ⟨some 10, none, .pick (.tmp 6) (.tmp 9) (.const (.bool false))⟩,
    ⟨some 11, none, .move (.tmp 10)⟩,
    ⟨some 12, some (11, false), .move (.tmp 0)⟩,
    ⟨some 13, some (11, false), .binOp .geq 21 (.tmp 12) (.const (.int .i32 48)) 21⟩,
    ⟨some 14, some (11, false), .move (.tmp 13)⟩,
    ⟨some 15, some (14, true), .move (.tmp 0)⟩,
    ⟨some 16, some (14, true), .binOp .leq 21 (.tmp 15) (.const (.int .i32 57)) 21⟩,
    ⟨some 17, some (11, false), .pick (.tmp 14) (.tmp 16) (.const (.bool false))⟩,
    ⟨some 18, none, .pick (.tmp 11) (.const (.bool true)) (.tmp 17)⟩,
    ⟨some 19, none, .move (.tmp 18)⟩,
    ⟨some 20, some (19, false), .move (.tmp 0)⟩,
    ⟨some 21, some (19, false), .binOp .eql 21 (.tmp 20) (.const (.int .i32 45)) 21⟩,
    ⟨some 22, none, .pick (.tmp 19) (.const (.bool true)) (.tmp 21)⟩,
    ⟨some 23, none, .move (.tmp 22)⟩,
    ⟨some 24, some (23, false), .move (.tmp 0)⟩,
    ⟨some 25, some (23, false), .binOp .eql 21 (.tmp 24) (.const (.int .i32 95)) 21⟩,
    ⟨some 26, none, .pick (.tmp 23) (.const (.bool true)) (.tmp 25)⟩,
    ⟨some 27, none, .unOp .not 4 (.tmp 26)⟩,
    ⟨some 2, none, .assign (.tmp 27)⟩])
  .ret))
theorem ok56 : FnOk Try.prog 56 28 [.tmp 2] c56 := ⟨hmix, Try.f56, Try.func56, by kernel_rfl, rfl, rfl, by kernel_rfl, by kernel_rfl⟩

/-- strings.HasPrefix -/
def c57 : SC := (.seq (.reg [⟨some 4, none, .assign (.const (.bool false))⟩])
  (.seq (.reg [⟨some 5, none, .move (.tmp 0)⟩,
    ⟨some 6, none, .move (.tmp 1)⟩,
    ⟨some 7, none, .call ⟨.value (.func 61), #[.tmp 5, .tmp 6], #[9, 9]⟩⟩,
    ⟨some 4, none, .assign (.tmp 7)⟩])
  .ret))
theorem ok57 : FnOk Try.prog 57 8 [.tmp 4] c57 := ⟨hmix, Try.f57, Try.func57, by kernel_rfl, rfl, rfl, by kernel_rfl, by kernel_rfl⟩

/-- mandoline/meta.key$1 -/
def c58 : SC := (.seq (.reg [⟨some 2, none, .assign (.const (.bool false))⟩])
  (.seq (.reg [⟨some 3, none, .move (.tmp 0)⟩,
    ⟨some 4, none, .binOp .lss 21 (.tmp 3) (.const (.int .i32 33)) 21⟩,
    ⟨some 5, none, .move (.tmp 4)⟩,
    ⟨some 6, some (5, false), .move (.tmp 0)⟩,
    ⟨some 7, some (5, false), .binOp .gtr 21 (.tmp 6) (.const (.int .i32 126)) 21⟩,
    ⟨some 8, none, .pick (.tmp 5) (.const (.bool true)) (.tmp 7)⟩,
    ⟨some 2, none, .assign (.tmp 8)⟩])
  .ret))
theorem ok58 : FnOk Try.prog 58 9 [.tmp 2] c58 := ⟨hmix, Try.f58, Try.func58, by kernel_rfl, rfl, rfl, by kernel_rfl, by kernel_rfl⟩

/-- mandoline/mandolineref14.Key -/
def c59 : SC := (.seq (.reg [⟨some 2, none, .assign (.const (.bool false))⟩])
  (.seq (.seq (.reg [⟨some 3, none, .assign (.const (.int .i64 0))⟩])
  (.block 0 (.loop (.seq (.seq (.reg [⟨some 4, none, .move (.tmp 3)⟩,
    ⟨some 5, none, .move (.tmp 0)⟩,
    ⟨some 6, none, .call ⟨.builtin .len, #[.tmp 5], #[9]⟩⟩,
    ⟨some 7, none, .binOp .lss 3 (.tmp 4) (.tmp 6) 3⟩])
  (.cond (.tmp 7)
  .skip
  (.exit 0)))
  (.seq (.block 1 (.seq (.reg [⟨some 10, none, .move (.tmp 0)⟩,
    ⟨some 11, none, .move (.tmp 3)⟩,
    ⟨some 12, none, .index 9 (.tmp 10) (.tmp 11)⟩,
    ⟨some 13, none, .binOp .lss 5 (.tmp 12) (.const (.int .u8 33)) 5⟩,
    ⟨some 14, none, .move (.tmp 13)⟩,
    ⟨some 15, some (14, false), .move (.tmp 0)⟩,
    ⟨some 16, some (14, false), .move (.tmp 3)⟩,
    ⟨some 17, some (14, false), .index 9 (.tmp 15) (.tmp 16)⟩,
    ⟨some 18, some (14, false), .binOp .gtr 5 (.tmp 17) (.const (.int .u8 126)) 5⟩,
    ⟨some 19, none, .pick (.tmp 14) (.const (.bool true)) (.tmp 18)⟩])
  (.cond (.tmp 19)
  (.seq (.reg [⟨some 2, none, .assign (.const (.bool false))⟩])
  .ret)
  .skip)))
  (.reg [⟨some 8, none, .move (.tmp 3)⟩,
    ⟨some 9, none, .binOp .add 3 (.tmp 8) (.const (.int .i64 1)) 3⟩,
    ⟨some 3, none, .assign (.tmp 9)⟩]))))))
  (.seq (.reg [⟨some 20, none, .move (.tmp 0)⟩,
    ⟨some 21, none, .call ⟨.builtin .len, #[.tmp 20], #[9]⟩⟩,
    ⟨some 22, none, .binOp .gtr 3 (.tmp 21) (.const (.int .i64 0)) 3⟩,
    ⟨some 23, none, .move (.tmp 22)⟩,
    ⟨some 24, some (23, true), .move (.tmp 0)⟩,
    ⟨some 25, some (23, true), .call ⟨.builtin .len, #[.tmp 24], #[9]⟩⟩,
    ⟨some 26, some (23, true), .binOp .leq 3 (.tmp 25) (.const (.int .i64 200)) 3⟩,
    ⟨some 27, none, .pick (.tmp 23) (.tmp 26) (.const (.bool false))⟩,
    ⟨some 2, none, .assign (.tmp 27)⟩])
  .ret)))
theorem ok59 : FnOk Try.prog 59 28 [.tmp 2] c59 := ⟨hmix, Try.f59, Try.func59, by kernel_rfl, rfl, rfl, by kernel_rfl, by kernel_rfl⟩

/-- strings.indexFunc -/
def c60 : SC := (.seq (.reg [⟨some 6, none, .assign (.const (.int .i64 0))⟩])
  (.seq (.seq (.reg [⟨some 9, none, .move (.tmp 0)⟩,
    ⟨some 10, none, .range 9 (.tmp 9)⟩])
  (.block 0 (.loop (.seq (.reg [⟨some 11, none, .next (.tmp 10) true⟩,
    ⟨some 12, none, .extract (.tmp 11) 0⟩])
  (.seq (.cond (.tmp 12)
  .skip
  (.exit 0))
  (.block 1 (.seq (.reg [⟨some 13, none, .extract (.tmp 11) 1⟩,
    ⟨some 14, none, .extract (.tmp 11) 2⟩,
    ⟨some 7, none, .assign (.tmp 13)⟩,
    ⟨some 8, none, .assign (.tmp 14)⟩])
  (.seq (.reg [⟨some 15, none, .move (.tmp 1)⟩,
    ⟨some 16, none, .move (.tmp 8)⟩,
    ⟨some 17, none, .call ⟨.value (.tmp 15), #[.tmp 16], #[21]⟩⟩,
    ⟨some 18, none, .move (.tmp 2)⟩,
    ⟨some 19, none, .binOp .eql 4 (.tmp 17) (.tmp 18) 4⟩])
  (.cond (.tmp 19)
  (.seq (.reg [⟨some 20, none, .move (.tmp 7)⟩,
    ⟨some 6, none, .assign (.tmp 20)⟩])
  .ret)
  .skip)))))))))
  (.seq (.reg [⟨some 6, none, .assign (.const (.int .i64 (-1)))⟩])
  .ret)))
theorem ok60 : FnOk Try.prog 60 21 [.tmp 6] c60 := ⟨hmix, Try.f60, Try.func60, by kernel_rfl, rfl, rfl, by kernel_rfl, by kernel_rfl⟩

/-- internal/stringslite.HasPrefix -/
def c61 : SC := (.seq (.reg [⟨some 4, none, .assign (.const (.bool false))⟩])
  (.seq (.reg [⟨some 5, none, .move (.tmp 0)⟩,
    ⟨some 6, none, .call ⟨.builtin .len, #[.tmp 5], #[9]⟩⟩,
    ⟨some 7, none, .move (.tmp 1)⟩,
    ⟨some 8, none, .call ⟨.builtin .len, #[.tmp 7], #[9]⟩⟩,
    ⟨some 9, none, .binOp .geq 3 (.tmp 6) (.tmp 8) 3⟩,
    ⟨some 10, none, .move (.tmp 9)⟩,
    ⟨some 11, some (10, true), .move (.tmp 0)⟩,
    ⟨some 12, some (10, true), .move (.tmp 1)⟩,
    ⟨some 13, some (10, true), .call ⟨.builtin .len, #[.tmp 12], #[9]⟩⟩,
    ⟨some 14, some (10, true), .slice 9 (.tmp 11) .none (.some (.tmp 13)) .none⟩,
    ⟨some 15, some (10, true), .move (.tmp 1)⟩,
    ⟨some 16, some (10, true), .binOp .eql 9 (.tmp 14) (.tmp 15) 9⟩,
    ⟨some 17, none, .pick (.tmp 10) (.tmp 16) (.const (.bool false))⟩,
    ⟨some 4, none, .assign (.tmp 17)⟩])
  .ret))
theorem ok61 : FnOk Try.prog 61 18 [.tmp 4] c61 := ⟨hmix, Try.f61, Try.func61, by kernel_rfl, rfl, rfl, by kernel_rfl, by kernel_rfl⟩
end Go.Eng.Try
