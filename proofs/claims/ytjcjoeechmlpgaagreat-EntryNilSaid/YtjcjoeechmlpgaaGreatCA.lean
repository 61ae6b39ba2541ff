/- The code of some functions of the program, stripped to what counts, and facts on its types; written by gen.py. -/
import Derived.Test.YtjcjoeechmlpgaaGreatEC
import Derived.Test.YtjcjoeechmlpgaaGreatProg
namespace Go.Eng.Tryz
open Go.Proofs
set_option maxRecDepth 100000
set_option linter.unusedVariables false

theorem hmix : Tryz.prog.follows .mixedOrders = true := by kernel_rfl

theorem bs36 : ∀ fr ps, buildV Tryz.prog 36 fr ps = match fillV Tryz.prog 36 fr ps [.str [], .bool false] with | some (g, cs) => some (g, .agg cs) | none => none := fun fr ps => by simp only [buildV]; rfl
theorem eg36 : Tryz.prog.eqGuardType Tryz.prog.depth 36 = false := by kernel_rfl
theorem eq36 : ∀ (a0 b0 : List UInt8) (a1 b1 : Bool), eqV Tryz.prog 8 36 (.agg [.str a0, .bool a1]) (.agg [.str b0, .bool b1]) = some ((a0 == b0) && ((a1 == b1) && true)) := fun a0 b0 a1 b1 => by kernel_rfl
theorem eq4 : ∀ (a b : Bool), eqV Tryz.prog 8 4 (.bool a) (.bool b) = some (a == b) := fun a b => by kernel_rfl
theorem fi36_0 : fieldInfo Tryz.prog 36 0 = some (0, ⟨.string, 1, false⟩) := by kernel_rfl
theorem fi36_1 : fieldInfo Tryz.prog 36 1 = some (1, ⟨.bool, 1, false⟩) := by kernel_rfl
theorem fi39_0 : fieldInfo Tryz.prog 39 0 = some (0, ⟨(Tryz.prog.underlying 36).getD .invalid, 2, true⟩) := by kernel_rfl
theorem fi39_1 : fieldInfo Tryz.prog 39 1 = some (2, ⟨.int .i64, 1, false⟩) := by kernel_rfl
theorem fi39_2 : fieldInfo Tryz.prog 39 2 = some (3, ⟨.int .i64, 1, false⟩) := by kernel_rfl
theorem fi39_3 : fieldInfo Tryz.prog 39 3 = some (4, ⟨.int .i64, 1, false⟩) := by kernel_rfl
theorem fi39_4 : fieldInfo Tryz.prog 39 4 = some (5, ⟨.int .i64, 1, false⟩) := by kernel_rfl
theorem fi39_5 : fieldInfo Tryz.prog 39 5 = some (6, ⟨.int .i64, 1, false⟩) := by kernel_rfl
theorem fi39_6 : fieldInfo Tryz.prog 39 6 = some (7, ⟨.int .i64, 1, false⟩) := by kernel_rfl
theorem fi39_7 : fieldInfo Tryz.prog 39 7 = some (8, ⟨.slice 9, 1, false⟩) := by kernel_rfl
theorem fi39_8 : fieldInfo Tryz.prog 39 8 = some (9, ⟨.string, 1, false⟩) := by kernel_rfl
theorem fi41_0 : fieldInfo Tryz.prog 41 0 = some (0, ⟨.int .i64, 1, false⟩) := by kernel_rfl
theorem fi41_1 : fieldInfo Tryz.prog 41 1 = some (1, ⟨.int .i64, 1, false⟩) := by kernel_rfl
theorem ti2 : ti Tryz.prog 2 = some ⟨.int .i64, 1, false⟩ := by kernel_rfl
theorem ti36 : ti Tryz.prog 36 = some ⟨(Tryz.prog.underlying 36).getD .invalid, 2, true⟩ := by kernel_rfl
theorem ti37 : ti Tryz.prog 37 = some ⟨.slice 9, 1, false⟩ := by kernel_rfl
theorem ti4 : ti Tryz.prog 4 = some ⟨.bool, 1, false⟩ := by kernel_rfl
theorem ti9 : ti Tryz.prog 9 = some ⟨.string, 1, false⟩ := by kernel_rfl
theorem und186 : Tryz.prog.underlying 186 = some (.map 9 4) := by kernel_rfl
theorem und2 : Tryz.prog.underlying 2 = some (.int .i64) := by kernel_rfl
theorem und203 : Tryz.prog.underlying 203 = some (.func #[21] #[4] false) := by kernel_rfl
theorem und21 : Tryz.prog.underlying 21 = some (.int .i32) := by kernel_rfl
theorem und37 : Tryz.prog.underlying 37 = some (.slice 9) := by kernel_rfl
theorem und4 : Tryz.prog.underlying 4 = some .bool := by kernel_rfl
theorem und9 : Tryz.prog.underlying 9 = some .string := by kernel_rfl
theorem zero36 : zeroV Tryz.prog 36 = some (.agg [.str [], .bool false]) := by kernel_rfl
theorem zero4 : zeroV Tryz.prog 4 = some (.bool false) := by kernel_rfl

/-- mandoline/head.Object -/
def c74 : SC := (.seq (.reg [⟨some 2, none, .assign (.const (.bool false))⟩])
  (.seq (.seq (.reg [⟨some 4, none, .move (.tmp 0)⟩,
    ⟨some 5, none, .binOp .eql 9 (.tmp 4) (.const (.string ⟨#[]⟩)) 9⟩,
    ⟨some 6, none, .move (.tmp 5)⟩,
    ⟨some 7, some (6, false), .move (.tmp 0)⟩,
    ⟨some 8, some (6, false), .call ⟨.builtin .len, #[.tmp 7], #[9]⟩⟩,
    ⟨some 9, some (6, false), .binOp .gtr 3 (.tmp 8) (.const (.int .i64 200)) 3⟩,
    ⟨some 10, none, .pick (.tmp 6) (.const (.bool true)) (.tmp 9)⟩,
    ⟨some 11, none, .move (.tmp 10)⟩,
    ⟨some 12, some (11, false), .move (.tmp 0)⟩,
    ⟨some 13, some (11, false), .index 9 (.tmp 12) (.const (.int .i64 0))⟩,
    ⟨some 14, some (11, false), .binOp .neq 5 (.tmp 13) (.const (.int .u8 47)) 5⟩,
    ⟨some 15, none, .pick (.tmp 11) (.const (.bool true)) (.tmp 14)⟩])
  (.cond (.tmp 15)
  (.seq (.reg [⟨some 2, none, .assign (.const (.bool false))⟩])
  .ret)
  .skip))
  (.seq (.seq (.reg [⟨some 16, none, .move (.tmp 0)⟩,
    ⟨some 17, none, .call ⟨.builtin .len, #[.tmp 16], #[9]⟩⟩,
    ⟨some 18, none, .move (.const (.int .i64 0))⟩])
  (.block 0 (.loop (.seq (.reg [⟨some 19, none, .binOp .lss 3 (.tmp 18) (.tmp 17) 3⟩])
  (.seq (.cond (.tmp 19)
  .skip
  (.exit 0))
  (.seq (.block 1 (.seq (.reg [⟨some 20, none, .move (.tmp 18)⟩,
    ⟨some 3, none, .assign (.tmp 20)⟩])
  (.seq (.reg [⟨some 21, none, .move (.tmp 0)⟩,
    ⟨some 22, none, .move (.tmp 3)⟩,
    ⟨some 23, none, .index 9 (.tmp 21) (.tmp 22)⟩,
    ⟨some 24, none, .binOp .lss 5 (.tmp 23) (.const (.int .u8 33)) 5⟩,
    ⟨some 25, none, .move (.tmp 24)⟩,
    ⟨some 26, some (25, false), .move (.tmp 0)⟩,
    ⟨some 27, some (25, false), .move (.tmp 3)⟩,
    ⟨some 28, some (25, false), .index 9 (.tmp 26) (.tmp 27)⟩,
    ⟨some 29, some (25, false), .binOp .gtr 5 (.tmp 28) (.const (.int .u8 126)) 5⟩,
    ⟨some 30, none, .pick (.tmp 25) (.const (.bool true)) (.tmp 29)⟩])
  (.cond (.tmp 30)
  (.seq (.reg [⟨some 2, none, .assign (.const (.bool false))⟩])
  .ret)
  .skip))))
  (.reg [⟨some 31, none, .binOp .add 3 (.tmp 18) (.const (.int .i64 1)) 3⟩,
    ⟨some 18, none, .move (.tmp 31)⟩])))))))
  (.seq (.reg [⟨some 2, none, .assign (.const (.bool true))⟩])
  .ret))))
theorem ok74 : FnOk Tryz.prog 74 32 [.tmp 2] c74 := ⟨hmix, Tryz.f74, Tryz.func74, by kernel_rfl, rfl, rfl, by kernel_rfl, by kernel_rfl⟩

/-- internal/stringslite.HasPrefix -/
def c172 : SC := (.seq (.reg [⟨some 4, none, .assign (.const (.bool false))⟩])
  (.seq (.reg [⟨some 5, none, .move (.tmp 0)⟩,
    ⟨some 6, none, .call ⟨.builtin .len, #[.tmp 5], #[9]⟩⟩,
    ⟨some 7, none, .move (.tmp 1)⟩,
    ⟨some 8, none, .call ⟨.builtin .len, #[.tmp 7], #[9]⟩⟩,
    ⟨some 9, none, .binOp .geq 3 (.tmp 6) (.tmp 8) 3⟩,
    ⟨some 10, none, .move (.tmp 9)⟩,
    ⟨some 11, some (10, true), .move (.tmp 0)⟩,
    ⟨some 12, some (10, true), .move (.tmp 1)⟩,
    ⟨some 13, some (10, true), .call ⟨.builtin .len, #[.tmp 12], #[9]⟩⟩,
    ⟨some 14, some (10, true), .slice 9 (.tmp 11) .none (.some (.tmp 13)) .none⟩,
    ⟨some 15, some (10, true), .move (.tmp 1)⟩,
    ⟨some 16, some (10, true), .binOp .eql 9 (.tmp 14) (.tmp 15) 9⟩,
    ⟨some 17, none, .pick (.tmp 10) (.tmp 16) (.const (.bool false))⟩,
    ⟨some 4, none, .assign (.tmp 17)⟩])
  .ret))
theorem ok172 : FnOk Tryz.prog 172 18 [.tmp 4] c172 := ⟨hmix, Tryz.f172, Tryz.func172, by kernel_rfl, rfl, rfl, by kernel_rfl, by kernel_rfl⟩

/-- mandoline/mandolineref01.Right -/
def c104 : SC := (.seq (.reg [⟨some 1, none, .box 41 (.tmp 0)⟩,
    ⟨some 2, none, .assign (.const (.bool false))⟩])
  (.seq (.draw #[⟨some 3, .fieldAddr 41 (.tmp 1) 0, 0, "ref.go:10", #[], none⟩,
    ⟨some 4, .load 2 (.tmp 3), 2, "ref.go:10", #[⟨0, .data⟩], none⟩,
    ⟨some 5, .binOp .geq 2 (.tmp 4) (.const (.int .i64 0)) 2, 4, "ref.go:10", #[⟨1, .data⟩], none⟩,
    ⟨some 6, .move (.tmp 5), 4, "ref.go:10", #[⟨2, .data⟩], none⟩,
    ⟨some 7, .fieldAddr 41 (.tmp 1) 0, 0, "ref.go:10", #[⟨3, .guard⟩], some (3, true)⟩,
    ⟨some 8, .load 2 (.tmp 7), 2, "ref.go:10", #[⟨4, .data⟩, ⟨3, .guard⟩], some (3, true)⟩,
    ⟨some 9, .fieldAddr 41 (.tmp 1) 1, 0, "ref.go:10", #[⟨3, .guard⟩], some (3, true)⟩,
    ⟨some 10, .load 2 (.tmp 9), 2, "ref.go:10", #[⟨6, .data⟩, ⟨3, .guard⟩], some (3, true)⟩,
    ⟨some 11, .binOp .leq 2 (.tmp 8) (.tmp 10) 2, 4, "ref.go:10", #[⟨5, .data⟩, ⟨7, .data⟩, ⟨3, .guard⟩], some (3, true)⟩,
    ⟨some 12, .pick (.tmp 6) (.tmp 11) (.const (.bool false)), 4, "ref.go:10", #[⟨3, .data⟩, ⟨8, .data⟩], none⟩,
    ⟨some 13, .move (.tmp 12), 4, "ref.go:10", #[⟨9, .data⟩, ⟨3, .chain⟩], none⟩,
    ⟨some 14, .fieldAddr 41 (.tmp 1) 1, 0, "ref.go:10", #[⟨10, .guard⟩], some (10, true)⟩,
    ⟨some 15, .load 2 (.tmp 14), 2, "ref.go:10", #[⟨11, .data⟩, ⟨10, .guard⟩], some (10, true)⟩,
    ⟨some 16, .call ⟨.value (.func 138), #[], #[]⟩, 2, "ref.go:10", #[⟨10, .chain⟩, ⟨10, .guard⟩], some (10, true)⟩,
    ⟨some 17, .binOp .leq 2 (.tmp 15) (.tmp 16) 2, 4, "ref.go:10", #[⟨12, .data⟩, ⟨13, .data⟩, ⟨10, .guard⟩], some (10, true)⟩,
    ⟨some 18, .pick (.tmp 13) (.tmp 17) (.const (.bool false)), 4, "ref.go:10", #[⟨10, .data⟩, ⟨14, .data⟩], none⟩,
    ⟨some 2, .assign (.tmp 18), 4, "ref.go:10", #[⟨15, .data⟩, ⟨13, .chain⟩, ⟨0, .phase⟩, ⟨1, .phase⟩, ⟨2, .phase⟩, ⟨3, .phase⟩, ⟨4, .phase⟩, ⟨5, .phase⟩, ⟨6, .phase⟩, ⟨7, .phase⟩, ⟨8, .phase⟩, ⟨9, .phase⟩, ⟨10, .phase⟩, ⟨11, .phase⟩, ⟨12, .phase⟩, ⟨13, .phase⟩, ⟨14, .phase⟩, ⟨15, .phase⟩], none⟩]
    [⟨some 3, none, .fieldAddr 41 (.tmp 1) 0⟩,
    ⟨some 4, none, .load 2 (.tmp 3)⟩,
    ⟨some 5, none, .binOp .geq 2 (.tmp 4) (.const (.int .i64 0)) 2⟩,
    ⟨some 6, none, .move (.tmp 5)⟩,
    ⟨some 7, some (6, true), .fieldAddr 41 (.tmp 1) 0⟩,
    ⟨some 8, some (6, true), .load 2 (.tmp 7)⟩,
    ⟨some 9, some (6, true), .fieldAddr 41 (.tmp 1) 1⟩,
    ⟨some 10, some (6, true), .load 2 (.tmp 9)⟩,
    ⟨some 11, some (6, true), .binOp .leq 2 (.tmp 8) (.tmp 10) 2⟩,
    ⟨some 12, none, .pick (.tmp 6) (.tmp 11) (.const (.bool false))⟩,
    ⟨some 13, none, .move (.tmp 12)⟩,
    ⟨some 14, some (13, true), .fieldAddr 41 (.tmp 1) 1⟩,
    ⟨some 15, some (13, true), .load 2 (.tmp 14)⟩,
    ⟨some 16, some (13, true), .call ⟨.value (.func 138), #[], #[]⟩⟩,
    ⟨some 17, some (13, true), .binOp .leq 2 (.tmp 15) (.tmp 16) 2⟩,
    ⟨some 18, none, .pick (.tmp 13) (.tmp 17) (.const (.bool false))⟩,
    ⟨some 2, none, .assign (.tmp 18)⟩])
  .ret))
theorem ok104 : FnOk Tryz.prog 104 19 [.tmp 2] c104 := ⟨hmix, Tryz.f104, Tryz.func104, by kernel_rfl, rfl, rfl, by kernel_rfl, by kernel_rfl⟩

/-- mandoline/mandolineref01.end -/
def c138 : SC := (.seq (.reg [⟨some 0, none, .assign (.const (.int .i64 0))⟩])
  (.seq (.reg [⟨some 0, none, .assign (.const (.int .i64 4611686018427387904))⟩])
  .ret))
theorem ok138 : FnOk Tryz.prog 138 1 [.tmp 0] c138 := ⟨hmix, Tryz.f138, Tryz.func138, by kernel_rfl, rfl, rfl, by kernel_rfl, by kernel_rfl⟩

/-- mandoline/mandolineref05.Right -/
def c134 : SC := (.seq (.reg [⟨some 1, none, .box 36 (.tmp 0)⟩,
    ⟨some 2, none, .assign (.const (.bool false))⟩])
  (.seq (.seq (.reg [⟨some 5, none, .fieldAddr 36 (.tmp 1) 0⟩,
    ⟨some 6, none, .load 9 (.tmp 5)⟩,
    ⟨some 7, none, .call ⟨.builtin .len, #[.tmp 6], #[9]⟩⟩,
    ⟨some 8, none, .binOp .lss 3 (.tmp 7) (.const (.int .i64 1)) 3⟩,
    ⟨some 9, none, .move (.tmp 8)⟩,
    ⟨some 10, some (9, false), .fieldAddr 36 (.tmp 1) 0⟩,
    ⟨some 11, some (9, false), .load 9 (.tmp 10)⟩,
    ⟨some 12, some (9, false), .call ⟨.builtin .len, #[.tmp 11], #[9]⟩⟩,
    ⟨some 13, some (9, false), .binOp .gtr 3 (.tmp 12) (.const (.int .i64 100)) 3⟩,
    ⟨some 14, none, .pick (.tmp 9) (.const (.bool true)) (.tmp 13)⟩])
  (.cond (.tmp 14)
  (.seq (.reg [⟨some 2, none, .assign (.const (.bool false))⟩])
  .ret)
  .skip))
  (.seq (.seq (.reg [⟨some 3, none, .assign (.const (.int .i64 0))⟩])
  (.block 0 (.loop (.seq (.seq (.reg [⟨some 15, none, .move (.tmp 3)⟩,
    ⟨some 16, none, .fieldAddr 36 (.tmp 1) 0⟩,
    ⟨some 17, none, .load 9 (.tmp 16)⟩,
    ⟨some 18, none, .call ⟨.builtin .len, #[.tmp 17], #[9]⟩⟩,
    ⟨some 19, none, .binOp .lss 3 (.tmp 15) (.tmp 18) 3⟩])
  (.cond (.tmp 19)
  .skip
  (.exit 0)))
  (.seq (.block 1 (.seq (.reg [⟨some 22, none, .fieldAddr 36 (.tmp 1) 0⟩,
    ⟨some 23, none, .load 9 (.tmp 22)⟩,
    ⟨some 24, none, .move (.tmp 3)⟩,
    ⟨some 25, none, .index 9 (.tmp 23) (.tmp 24)⟩,
    ⟨some 4, none, .assign (.tmp 25)⟩])
  (.seq (.reg [⟨some 26, none, .move (.tmp 4)⟩,
    ⟨some 27, none, .binOp .lss 5 (.tmp 26) (.const (.int .u8 33)) 5⟩,
    ⟨some 28, none, .move (.tmp 27)⟩,
    ⟨some 29, some (28, false), .move (.tmp 4)⟩,
    ⟨some 30, some (28, false), .binOp .eql 5 (.tmp 29) (.const (.int .u8 34)) 5⟩,
    ⟨some 31, none, .pick (.tmp 28) (.const (.bool true)) (.tmp 30)⟩,
    ⟨some 32, none, .move (.tmp 31)⟩,
    ⟨some 33, some (32, false), .move (.tmp 4)⟩,
    ⟨some 34, some (32, false), .binOp .gtr 5 (.tmp 33) (.const (.int .u8 126)) 5⟩,
    ⟨some 35, none, .pick (.tmp 32) (.const (.bool true)) (.tmp 34)⟩])
  (.cond (.tmp 35)
  (.seq (.reg [⟨some 2, none, .assign (.const (.bool false))⟩])
  .ret)
  .skip))))
  (.reg [⟨some 20, none, .move (.tmp 3)⟩,
    ⟨some 21, none, .binOp .add 3 (.tmp 20) (.const (.int .i64 1)) 3⟩,
    ⟨some 3, none, .assign (.tmp 21)⟩]))))))
  (.seq (.reg [⟨some 2, none, .assign (.const (.bool true))⟩])
  .ret))))
theorem ok134 : FnOk Tryz.prog 134 36 [.tmp 2] c134 := ⟨hmix, Tryz.f134, Tryz.func134, by kernel_rfl, rfl, rfl, by kernel_rfl, by kernel_rfl⟩

/-- mandoline/mandolineref05.Weak -/
def c137 : SC := (.seq (.reg [⟨some 2, none, .box 36 (.tmp 0)⟩,
    ⟨some 3, none, .box 36 (.tmp 1)⟩,
    ⟨some 4, none, .assign (.const (.bool false))⟩])
  (.seq (.reg [⟨some 5, none, .load 36 (.tmp 2)⟩,
    ⟨some 6, none, .call ⟨.value (.func 134), #[.tmp 5], #[36]⟩⟩,
    ⟨some 7, none, .move (.tmp 6)⟩,
    ⟨some 8, some (7, true), .load 36 (.tmp 3)⟩,
    ⟨some 9, some (7, true), .call ⟨.value (.func 134), #[.tmp 8], #[36]⟩⟩,
    ⟨some 10, none, .pick (.tmp 7) (.tmp 9) (.const (.bool false))⟩,
    ⟨some 11, none, .move (.tmp 10)⟩,
    ⟨some 12, some (11, true), .fieldAddr 36 (.tmp 2) 0⟩,
    ⟨some 13, some (11, true), .load 9 (.tmp 12)⟩,
    ⟨some 14, some (11, true), .fieldAddr 36 (.tmp 3) 0⟩,
    ⟨some 15, some (11, true), .load 9 (.tmp 14)⟩,
    ⟨some 16, some (11, true), .binOp .eql 9 (.tmp 13) (.tmp 15) 9⟩,
    ⟨some 17, none, .pick (.tmp 11) (.tmp 16) (.const (.bool false))⟩,
    ⟨some 4, none, .assign (.tmp 17)⟩])
  .ret))
theorem ok137 : FnOk Tryz.prog 137 18 [.tmp 4] c137 := ⟨hmix, Tryz.f137, Tryz.func137, by kernel_rfl, rfl, rfl, by kernel_rfl, by kernel_rfl⟩

/-- mandoline/mandolineref12.Object -/
def c93 : SC := (.seq (.reg [⟨some 2, none, .assign (.const (.bool false))⟩])
  (.seq (.seq (.reg [⟨some 4, none, .move (.tmp 0)⟩,
    ⟨some 5, none, .call ⟨.builtin .len, #[.tmp 4], #[9]⟩⟩,
    ⟨some 6, none, .binOp .lss 3 (.tmp 5) (.const (.int .i64 1)) 3⟩,
    ⟨some 7, none, .move (.tmp 6)⟩,
    ⟨some 8, some (7, false), .move (.tmp 0)⟩,
    ⟨some 9, some (7, false), .call ⟨.builtin .len, #[.tmp 8], #[9]⟩⟩,
    ⟨some 10, some (7, false), .binOp .gtr 3 (.tmp 9) (.const (.int .i64 200)) 3⟩,
    ⟨some 11, none, .pick (.tmp 7) (.const (.bool true)) (.tmp 10)⟩,
    ⟨some 12, none, .move (.tmp 11)⟩,
    ⟨some 13, some (12, false), .move (.tmp 0)⟩,
    ⟨some 14, some (12, false), .index 9 (.tmp 13) (.const (.int .i64 0))⟩,
    ⟨some 15, some (12, false), .binOp .neq 5 (.tmp 14) (.const (.int .u8 47)) 5⟩,
    ⟨some 16, none, .pick (.tmp 12) (.const (.bool true)) (.tmp 15)⟩])
  (.cond (.tmp 16)
  (.seq (.reg [⟨some 2, none, .assign (.const (.bool false))⟩])
  .ret)
  .skip))
  (.seq (.seq (.reg [⟨some 3, none, .assign (.const (.int .i64 0))⟩])
  (.block 0 (.loop (.seq (.seq (.reg [⟨some 17, none, .move (.tmp 3)⟩,
    ⟨some 18, none, .move (.tmp 0)⟩,
    ⟨some 19, none, .call ⟨.builtin .len, #[.tmp 18], #[9]⟩⟩,
    ⟨some 20, none, .binOp .lss 3 (.tmp 17) (.tmp 19) 3⟩])
  (.cond (.tmp 20)
  .skip
  (.exit 0)))
  (.seq (.block 1 (.seq (.reg [⟨some 23, none, .move (.tmp 0)⟩,
    ⟨some 24, none, .move (.tmp 3)⟩,
    ⟨some 25, none, .index 9 (.tmp 23) (.tmp 24)⟩,
    ⟨some 26, none, .binOp .leq 5 (.tmp 25) (.const (.int .u8 32)) 5⟩,
    ⟨some 27, none, .move (.tmp 26)⟩,
    ⟨some 28, some (27, false), .move (.tmp 0)⟩,
    ⟨some 29, some (27, false), .move (.tmp 3)⟩,
    ⟨some 30, some (27, false), .index 9 (.tmp 28) (.tmp 29)⟩,
    ⟨some 31, some (27, false), .binOp .gtr 5 (.tmp 30) (.const (.int .u8 126)) 5⟩,
    ⟨some 32, none, .pick (.tmp 27) (.const (.bool true)) (.tmp 31)⟩])
  (.cond (.tmp 32)
  (.seq (.reg [⟨some 2, none, .assign (.const (.bool false))⟩])
  .ret)
  .skip)))
  (.reg [⟨some 21, none, .move (.tmp 3)⟩,
    ⟨some 22, none, .binOp .add 3 (.tmp 21) (.const (.int .i64 1)) 3⟩,
    ⟨some 3, none, .assign (.tmp 22)⟩]))))))
  (.seq (.reg [⟨some 2, none, .assign (.const (.bool true))⟩])
  .ret))))
theorem ok93 : FnOk Tryz.prog 93 33 [.tmp 2] c93 := ⟨hmix, Tryz.f93, Tryz.func93, by kernel_rfl, rfl, rfl, by kernel_rfl, by kernel_rfl⟩

/-- mandoline/mandolineref14.Key -/
def c156 : SC := (.seq (.reg [⟨some 2, none, .assign (.const (.bool false))⟩])
  (.seq (.seq (.reg [⟨some 3, none, .assign (.const (.int .i64 0))⟩])
  (.block 0 (.loop (.seq (.seq (.reg [⟨some 4, none, .move (.tmp 3)⟩,
    ⟨some 5, none, .move (.tmp 0)⟩,
    ⟨some 6, none, .call ⟨.builtin .len, #[.tmp 5], #[9]⟩⟩,
    ⟨some 7, none, .binOp .lss 3 (.tmp 4) (.tmp 6) 3⟩])
  (.cond (.tmp 7)
  .skip
  (.exit 0)))
  (.seq (.block 1 (.seq (.reg [⟨some 10, none, .move (.tmp 0)⟩,
    ⟨some 11, none, .move (.tmp 3)⟩,
    ⟨some 12, none, .index 9 (.tmp 10) (.tmp 11)⟩,
    ⟨some 13, none, .binOp .lss 5 (.tmp 12) (.const (.int .u8 33)) 5⟩,
    ⟨some 14, none, .move (.tmp 13)⟩,
    ⟨some 15, some (14, false), .move (.tmp 0)⟩,
    ⟨some 16, some (14, false), .move (.tmp 3)⟩,
    ⟨some 17, some (14, false), .index 9 (.tmp 15) (.tmp 16)⟩,
    ⟨some 18, some (14, false), .binOp .gtr 5 (.tmp 17) (.const (.int .u8 126)) 5⟩,
    ⟨some 19, none, .pick (.tmp 14) (.const (.bool true)) (.tmp 18)⟩])
  (.cond (.tmp 19)
  (.seq (.reg [⟨some 2, none, .assign (.const (.bool false))⟩])
  .ret)
  .skip)))
  (.reg [⟨some 8, none, .move (.tmp 3)⟩,
    ⟨some 9, none, .binOp .add 3 (.tmp 8) (.const (.int .i64 1)) 3⟩,
    ⟨some 3, none, .assign (.tmp 9)⟩]))))))
  (.seq (.reg [⟨some 20, none, .move (.tmp 0)⟩,
    ⟨some 21, none, .call ⟨.builtin .len, #[.tmp 20], #[9]⟩⟩,
    ⟨some 22, none, .binOp .gtr 3 (.tmp 21) (.const (.int .i64 0)) 3⟩,
    ⟨some 23, none, .move (.tmp 22)⟩,
    ⟨some 24, some (23, true), .move (.tmp 0)⟩,
    ⟨some 25, some (23, true), .call ⟨.builtin .len, #[.tmp 24], #[9]⟩⟩,
    ⟨some 26, some (23, true), .binOp .leq 3 (.tmp 25) (.const (.int .i64 200)) 3⟩,
    ⟨some 27, none, .pick (.tmp 23) (.tmp 26) (.const (.bool false))⟩,
    ⟨some 2, none, .assign (.tmp 27)⟩])
  .ret)))
theorem ok156 : FnOk Tryz.prog 156 28 [.tmp 2] c156 := ⟨hmix, Tryz.f156, Tryz.func156, by kernel_rfl, rfl, rfl, by kernel_rfl, by kernel_rfl⟩

/-- mandoline/mandolineref14.Right -/
def c94 : SC := (.seq (.reg [⟨some 1, none, .box 39 (.tmp 0)⟩,
    ⟨some 2, none, .assign (.const (.bool false))⟩])
  (.seq (.seq (.reg [⟨some 4, none, .fieldAddr 39 (.tmp 1) 0⟩,
    ⟨some 5, none, .load 36 (.tmp 4)⟩,
    ⟨some 6, none, .call ⟨.value (.func 133), #[.tmp 5], #[36]⟩⟩,
    ⟨some 7, none, .unOp .not 4 (.tmp 6)⟩,
    ⟨some 8, none, .move (.tmp 7)⟩,
    ⟨some 9, some (8, true), .fieldAddr 39 (.tmp 1) 0⟩,
    ⟨some 10, some (8, true), .load 36 (.tmp 9)⟩,
    ⟨some 11, some (8, true), .call ⟨.value (.func 134), #[.tmp 10], #[36]⟩⟩,
    ⟨some 12, some (8, true), .unOp .not 4 (.tmp 11)⟩,
    ⟨some 13, none, .pick (.tmp 8) (.tmp 12) (.const (.bool false))⟩])
  (.cond (.tmp 13)
  (.seq (.reg [⟨some 2, none, .assign (.const (.bool false))⟩])
  .ret)
  .skip))
  (.seq (.seq (.reg [⟨some 3, none, .assign (.const (.int .i64 0))⟩])
  (.block 0 (.loop (.seq (.seq (.reg [⟨some 14, none, .move (.tmp 3)⟩,
    ⟨some 15, none, .fieldAddr 39 (.tmp 1) 0⟩,
    ⟨some 16, none, .fieldAddr 36 (.tmp 15) 0⟩,
    ⟨some 17, none, .load 9 (.tmp 16)⟩,
    ⟨some 18, none, .call ⟨.builtin .len, #[.tmp 17], #[9]⟩⟩,
    ⟨some 19, none, .binOp .lss 3 (.tmp 14) (.tmp 18) 3⟩])
  (.cond (.tmp 19)
  .skip
  (.exit 0)))
  (.seq (.block 1 (.seq (.reg [⟨some 22, none, .fieldAddr 39 (.tmp 1) 0⟩,
    ⟨some 23, none, .fieldAddr 36 (.tmp 22) 0⟩,
    ⟨some 24, none, .load 9 (.tmp 23)⟩,
    ⟨some 25, none, .move (.tmp 3)⟩,
    ⟨some 26, none, .index 9 (.tmp 24) (.tmp 25)⟩,
    ⟨some 27, none, .binOp .gtr 5 (.tmp 26) (.const (.int .u8 126)) 5⟩])
  (.cond (.tmp 27)
  (.seq (.reg [⟨some 2, none, .assign (.const (.bool false))⟩])
  .ret)
  .skip)))
  (.reg [⟨some 20, none, .move (.tmp 3)⟩,
    ⟨some 21, none, .binOp .add 3 (.tmp 20) (.const (.int .i64 1)) 3⟩,
    ⟨some 3, none, .assign (.tmp 21)⟩]))))))
  (.seq (.seq (.reg [⟨some 28, none, .fieldAddr 39 (.tmp 1) 1⟩,
    ⟨some 29, none, .load 2 (.tmp 28)⟩,
    ⟨some 30, none, .binOp .lss 2 (.tmp 29) (.const (.int .i64 (-1))) 2⟩,
    ⟨some 31, none, .move (.tmp 30)⟩,
    ⟨some 32, some (31, false), .fieldAddr 39 (.tmp 1) 1⟩,
    ⟨some 33, some (31, false), .load 2 (.tmp 32)⟩,
    ⟨some 34, some (31, false), .binOp .gtr 2 (.tmp 33) (.const (.int .i64 253402300799)) 2⟩,
    ⟨some 35, none, .pick (.tmp 31) (.const (.bool true)) (.tmp 34)⟩,
    ⟨some 36, none, .move (.tmp 35)⟩,
    ⟨some 37, some (36, false), .fieldAddr 39 (.tmp 1) 2⟩,
    ⟨some 38, some (36, false), .load 2 (.tmp 37)⟩,
    ⟨some 39, some (36, false), .binOp .lss 2 (.tmp 38) (.const (.int .i64 (-1))) 2⟩,
    ⟨some 40, none, .pick (.tmp 36) (.const (.bool true)) (.tmp 39)⟩,
    ⟨some 41, none, .move (.tmp 40)⟩,
    ⟨some 42, some (41, false), .fieldAddr 39 (.tmp 1) 2⟩,
    ⟨some 43, some (41, false), .load 2 (.tmp 42)⟩,
    ⟨some 44, some (41, false), .binOp .gtr 2 (.tmp 43) (.const (.int .i64 1099511627776)) 2⟩,
    ⟨some 45, none, .pick (.tmp 41) (.const (.bool true)) (.tmp 44)⟩,
    ⟨some 46, none, .move (.tmp 45)⟩,
    ⟨some 47, some (46, false), .fieldAddr 39 (.tmp 1) 3⟩,
    ⟨some 48, some (46, false), .load 2 (.tmp 47)⟩,
    ⟨some 49, some (46, false), .binOp .lss 2 (.tmp 48) (.const (.int .i64 0)) 2⟩,
    ⟨some 50, none, .pick (.tmp 46) (.const (.bool true)) (.tmp 49)⟩,
    ⟨some 51, none, .move (.tmp 50)⟩,
    ⟨some 52, some (51, false), .fieldAddr 39 (.tmp 1) 3⟩,
    ⟨some 53, some (51, false), .load 2 (.tmp 52)⟩,
    ⟨some 54, some (51, false), .binOp .gtr 2 (.tmp 53) (.const (.int .i64 1099511627776)) 2⟩,
    ⟨some 55, none, .pick (.tmp 51) (.const (.bool true)) (.tmp 54)⟩,
    ⟨some 56, none, .move (.tmp 55)⟩,
    ⟨some 57, some (56, false), .fieldAddr 39 (.tmp 1) 2⟩,
    ⟨some 58, some (56, false), .load 2 (.tmp 57)⟩,
    ⟨some 59, some (56, false), .binOp .geq 2 (.tmp 58) (.const (.int .i64 0)) 2⟩,
    ⟨some 60, some (56, false), .move (.tmp 59)⟩,
    ⟨some 61, some (60, true), .fieldAddr 39 (.tmp 1) 3⟩,
    ⟨some 62, some (60, true), .load 2 (.tmp 61)⟩,
    ⟨some 63, some (60, true), .fieldAddr 39 (.tmp 1) 2⟩,
    ⟨some 64, some (60, true), .load 2 (.tmp 63)⟩,
    ⟨some 65, some (60, true), .binOp .neq 2 (.tmp 62) (.tmp 64) 2⟩,
    ⟨some 66, some (56, false), .pick (.tmp 60) (.tmp 65) (.const (.bool false))⟩,
    ⟨some 67, none, .pick (.tmp 56) (.const (.bool true)) (.tmp 66)⟩])
  (.cond (.tmp 67)
  (.seq (.reg [⟨some 2, none, .assign (.const (.bool false))⟩])
  .ret)
  .skip))
  (.seq (.seq (.reg [⟨some 68, none, .fieldAddr 39 (.tmp 1) 4⟩,
    ⟨some 69, none, .load 2 (.tmp 68)⟩,
    ⟨some 70, none, .binOp .lss 2 (.tmp 69) (.const (.int .i64 0)) 2⟩,
    ⟨some 71, none, .move (.tmp 70)⟩,
    ⟨some 72, some (71, false), .fieldAddr 39 (.tmp 1) 4⟩,
    ⟨some 73, some (71, false), .load 2 (.tmp 72)⟩,
    ⟨some 74, some (71, false), .binOp .gtr 2 (.tmp 73) (.const (.int .i64 1099511627776)) 2⟩,
    ⟨some 75, none, .pick (.tmp 71) (.const (.bool true)) (.tmp 74)⟩,
    ⟨some 76, none, .move (.tmp 75)⟩,
    ⟨some 77, some (76, false), .fieldAddr 39 (.tmp 1) 5⟩,
    ⟨some 78, some (76, false), .load 2 (.tmp 77)⟩,
    ⟨some 79, some (76, false), .binOp .lss 2 (.tmp 78) (.const (.int .i64 0)) 2⟩,
    ⟨some 80, none, .pick (.tmp 76) (.const (.bool true)) (.tmp 79)⟩,
    ⟨some 81, none, .move (.tmp 80)⟩,
    ⟨some 82, some (81, false), .fieldAddr 39 (.tmp 1) 5⟩,
    ⟨some 83, some (81, false), .load 2 (.tmp 82)⟩,
    ⟨some 84, some (81, false), .binOp .gtr 2 (.tmp 83) (.const (.int .i64 1099511627776)) 2⟩,
    ⟨some 85, none, .pick (.tmp 81) (.const (.bool true)) (.tmp 84)⟩,
    ⟨some 86, none, .move (.tmp 85)⟩,
    ⟨some 87, some (86, false), .fieldAddr 39 (.tmp 1) 6⟩,
    ⟨some 88, some (86, false), .load 2 (.tmp 87)⟩,
    ⟨some 89, some (86, false), .binOp .lss 2 (.tmp 88) (.const (.int .i64 0)) 2⟩,
    ⟨some 90, none, .pick (.tmp 86) (.const (.bool true)) (.tmp 89)⟩,
    ⟨some 91, none, .move (.tmp 90)⟩,
    ⟨some 92, some (91, false), .fieldAddr 39 (.tmp 1) 6⟩,
    ⟨some 93, some (91, false), .load 2 (.tmp 92)⟩,
    ⟨some 94, some (91, false), .binOp .gtr 2 (.tmp 93) (.const (.int .i64 1099511627776)) 2⟩,
    ⟨some 95, none, .pick (.tmp 91) (.const (.bool true)) (.tmp 94)⟩])
  (.cond (.tmp 95)
  (.seq (.reg [⟨some 2, none, .assign (.const (.bool false))⟩])
  .ret)
  .skip))
  (.seq (.reg [⟨some 96, none, .fieldAddr 39 (.tmp 1) 7⟩,
    ⟨some 97, none, .load 37 (.tmp 96)⟩,
    ⟨some 98, none, .call ⟨.value (.func 135), #[.tmp 97], #[37]⟩⟩,
    ⟨some 99, none, .move (.tmp 98)⟩,
    ⟨some 100, some (99, true), .fieldAddr 39 (.tmp 1) 8⟩,
    ⟨some 101, some (99, true), .load 9 (.tmp 100)⟩,
    ⟨some 102, some (99, true), .call ⟨.value (.func 136), #[.tmp 101], #[9]⟩⟩,
    ⟨some 103, none, .pick (.tmp 99) (.tmp 102) (.const (.bool false))⟩,
    ⟨some 2, none, .assign (.tmp 103)⟩])
  .ret))))))
theorem ok94 : FnOk Tryz.prog 94 104 [.tmp 2] c94 := ⟨hmix, Tryz.f94, Tryz.func94, by kernel_rfl, rfl, rfl, by kernel_rfl, by kernel_rfl⟩

/-- mandoline/mandolineref14.Tenant -/
def c136 : SC := (.seq (.reg [⟨some 2, none, .assign (.const (.bool false))⟩])
  (.seq (.seq (.reg [⟨some 3, none, .assign (.const (.int .i64 0))⟩])
  (.block 0 (.loop (.seq (.seq (.reg [⟨some 5, none, .move (.tmp 3)⟩,
    ⟨some 6, none, .move (.tmp 0)⟩,
    ⟨some 7, none, .call ⟨.builtin .len, #[.tmp 6], #[9]⟩⟩,
    ⟨some 8, none, .binOp .lss 3 (.tmp 5) (.tmp 7) 3⟩])
  (.cond (.tmp 8)
  .skip
  (.exit 0)))
  (.seq (.block 1 (.seq (.reg [⟨some 11, none, .move (.tmp 0)⟩,
    ⟨some 12, none, .move (.tmp 3)⟩,
    ⟨some 13, none, .index 9 (.tmp 11) (.tmp 12)⟩,
    ⟨some 4, none, .assign (.tmp 13)⟩])
  (.seq (.reg [⟨some 14, none, .move (.tmp 4)⟩,
    ⟨some 15, none, .binOp .lss 5 (.tmp 14) (.const (.int .u8 97)) 5⟩,
    ⟨some 16, none, .move (.tmp 15)⟩,
    ⟨some 17, some (16, false), .move (.tmp 4)⟩,
    ⟨some 18, some (16, false), .binOp .gtr 5 (.tmp 17) (.const (.int .u8 122)) 5⟩,
    ⟨some 19, none, .pick (.tmp 16) (.const (.bool true)) (.tmp 18)⟩,
    ⟨some 20, none, .move (.tmp 19)⟩,
    ⟨some 21, some (20, true), .move (.tmp 4)⟩,
    ⟨some 22, some (20, true), .binOp .lss 5 (.tmp 21) (.const (.int .u8 65)) 5⟩,
    ⟨some 23, some (20, true), .move (.tmp 22)⟩,
    ⟨some 24, some (23, false), .move (.tmp 4)⟩,
    ⟨some 25, some (23, false), .binOp .gtr 5 (.tmp 24) (.const (.int .u8 90)) 5⟩,
    ⟨some 26, some (20, true), .pick (.tmp 23) (.const (.bool true)) (.tmp 25)⟩,
    ⟨some 27, none, .pick (.tmp 20) (.tmp 26) (.const (.bool false))⟩,
    ⟨some 28, none, .move (.tmp 27)⟩,
    ⟨some 29, some (28, true), .move (.tmp 4)⟩,
    ⟨some 30, some (28, true), .binOp .lss 5 (.tmp 29) (.const (.int .u8 48)) 5⟩,
    ⟨some 31, some (28, true), .move (.tmp 30)⟩,
    ⟨some 32, some (31, false), .move (.tmp 4)⟩,
    ⟨some 33, some (31, false), .binOp .gtr 5 (.tmp 32) (.const (.int .u8 57)) 5⟩,
    ⟨some 34, some (28, true), .pick (.tmp 31) (.const (.bool true)) (.tmp 33)⟩,
    ⟨some 35, none, .pick (.tmp 28) (.tmp 34) (.const (.bool false))⟩,
    ⟨some 36, none, .move (.tmp 35)⟩,
    ⟨some 37, some (36, true), .move (.tmp 4)⟩,
    ⟨some 38, some (36, true), .binOp .neq 5 (.tmp 37) (.const (.int .u8 95)) 5⟩,
    ⟨some 39, none, .pick (.tmp 36) (.tmp 38) (.const (.bool false))⟩,
    ⟨some 40, none, .move (.tmp 39)⟩,
    ⟨some 41, some (40, true), .move (.tmp 4)⟩,
    ⟨some 42, some (40, true), .binOp .neq 5 (.tmp 41) (.const (.int .u8 45)) 5⟩,
    ⟨some 43, some (40, true), .move (.tmp 42)⟩,
    ⟨some 44, some (43, false), .move (.tmp 3)⟩,
    ⟨some 45, some (43, false), .binOp .eql 3 (.tmp 44) (.const (.int .i64 0)) 3⟩,
    ⟨some 46, some (40, true), .pick (.tmp 43) (.const (.bool true)) (.tmp 45)⟩,
    ⟨some 47, none, .pick (.tmp 40) (.tmp 46) (.const (.bool false))⟩])
  (.cond (.tmp 47)
  (.seq (.reg [⟨some 2, none, .assign (.const (.bool false))⟩])
  .ret)
  .skip))))
  (.reg [⟨some 9, none, .move (.tmp 3)⟩,
    ⟨some 10, none, .binOp .add 3 (.tmp 9) (.const (.int .i64 1)) 3⟩,
    ⟨some 3, none, .assign (.tmp 10)⟩]))))))
  (.seq (.reg [⟨some 48, none, .move (.tmp 0)⟩,
    ⟨some 49, none, .call ⟨.builtin .len, #[.tmp 48], #[9]⟩⟩,
    ⟨some 50, none, .binOp .leq 3 (.tmp 49) (.const (.int .i64 40)) 3⟩,
    ⟨some 2, none, .assign (.tmp 50)⟩])
  .ret)))
theorem ok136 : FnOk Tryz.prog 136 51 [.tmp 2] c136 := ⟨hmix, Tryz.f136, Tryz.func136, by kernel_rfl, rfl, rfl, by kernel_rfl, by kernel_rfl⟩

/-- mandoline/mandolineref14.keys -/
def c135 : SC := (.seq (.reg [⟨some 2, none, .assign (.const (.bool false))⟩])
  (.seq (.seq (.reg [⟨some 5, none, .move (.tmp 0)⟩,
    ⟨some 6, none, .call ⟨.builtin .len, #[.tmp 5], #[37]⟩⟩,
    ⟨some 7, none, .binOp .gtr 3 (.tmp 6) (.const (.int .i64 32)) 3⟩])
  (.cond (.tmp 7)
  (.seq (.reg [⟨some 2, none, .assign (.const (.bool false))⟩])
  .ret)
  .skip))
  (.seq (.seq (.reg [⟨some 3, none, .assign (.const (.int .i64 0))⟩])
  (.block 0 (.loop (.seq (.seq (.reg [⟨some 8, none, .move (.tmp 3)⟩,
    ⟨some 9, none, .move (.tmp 0)⟩,
    ⟨some 10, none, .call ⟨.builtin .len, #[.tmp 9], #[37]⟩⟩,
    ⟨some 11, none, .binOp .lss 3 (.tmp 8) (.tmp 10) 3⟩])
  (.cond (.tmp 11)
  .skip
  (.exit 0)))
  (.seq (.block 1 (.seq (.seq (.reg [⟨some 14, none, .move (.tmp 0)⟩,
    ⟨some 15, none, .move (.tmp 3)⟩,
    ⟨some 16, none, .indexAddr 37 (.tmp 14) (.tmp 15)⟩,
    ⟨some 17, none, .load 9 (.tmp 16)⟩,
    ⟨some 18, none, .call ⟨.value (.func 156), #[.tmp 17], #[9]⟩⟩,
    ⟨some 19, none, .unOp .not 4 (.tmp 18)⟩])
  (.cond (.tmp 19)
  (.seq (.reg [⟨some 2, none, .assign (.const (.bool false))⟩])
  .ret)
  .skip))
  (.seq (.reg [⟨some 4, none, .assign (.const (.int .i64 0))⟩])
  (.block 2 (.loop (.seq (.seq (.reg [⟨some 20, none, .move (.tmp 4)⟩,
    ⟨some 21, none, .move (.tmp 3)⟩,
    ⟨some 22, none, .binOp .lss 3 (.tmp 20) (.tmp 21) 3⟩])
  (.cond (.tmp 22)
  .skip
  (.exit 2)))
  (.seq (.block 3 (.seq (.draw #[⟨some 25, .move (.tmp 0), 37, "ref.go:46", #[], none⟩,
    ⟨some 26, .move (.tmp 4), 3, "ref.go:46", #[], none⟩,
    ⟨some 27, .indexAddr 37 (.tmp 25) (.tmp 26), 0, "ref.go:46", #[⟨0, .data⟩, ⟨1, .data⟩], none⟩,
    ⟨some 28, .load 9 (.tmp 27), 9, "ref.go:46", #[⟨2, .data⟩], none⟩,
    ⟨some 29, .move (.tmp 0), 37, "ref.go:46", #[], none⟩,
    ⟨some 30, .move (.tmp 3), 3, "ref.go:46", #[], none⟩,
    ⟨some 31, .indexAddr 37 (.tmp 29) (.tmp 30), 0, "ref.go:46", #[⟨4, .data⟩, ⟨5, .data⟩], none⟩,
    ⟨some 32, .load 9 (.tmp 31), 9, "ref.go:46", #[⟨6, .data⟩], none⟩,
    ⟨some 33, .binOp .eql 9 (.tmp 28) (.tmp 32) 9, 4, "ref.go:46", #[⟨3, .data⟩, ⟨7, .data⟩], none⟩]
    [⟨some 25, none, .move (.tmp 0)⟩,
    ⟨some 26, none, .move (.tmp 4)⟩,
    ⟨some 27, none, .indexAddr 37 (.tmp 25) (.tmp 26)⟩,
    ⟨some 28, none, .load 9 (.tmp 27)⟩,
    ⟨some 29, none, .move (.tmp 0)⟩,
    ⟨some 30, none, .move (.tmp 3)⟩,
    ⟨some 31, none, .indexAddr 37 (.tmp 29) (.tmp 30)⟩,
    ⟨some 32, none, .load 9 (.tmp 31)⟩,
    ⟨some 33, none, .binOp .eql 9 (.tmp 28) (.tmp 32) 9⟩])
  (.cond (.tmp 33)
  (.seq (.reg [⟨some 2, none, .assign (.const (.bool false))⟩])
  .ret)
  .skip)))
  (.reg [⟨some 23, none, .move (.tmp 4)⟩,
    ⟨some 24, none, .binOp .add 3 (.tmp 23) (.const (.int .i64 1)) 3⟩,
    ⟨some 4, none, .assign (.tmp 24)⟩]))))))))
  (.reg [⟨some 12, none, .move (.tmp 3)⟩,
    ⟨some 13, none, .binOp .add 3 (.tmp 12) (.const (.int .i64 1)) 3⟩,
    ⟨some 3, none, .assign (.tmp 13)⟩]))))))
  (.seq (.reg [⟨some 2, none, .assign (.const (.bool true))⟩])
  .ret))))
theorem ok135 : FnOk Tryz.prog 135 34 [.tmp 2] c135 := ⟨hmix, Tryz.f135, Tryz.func135, by kernel_rfl, rfl, rfl, by kernel_rfl, by kernel_rfl⟩

/-- mandoline/mandolineref14.none -/
def c133 : SC := (.seq (.reg [⟨some 1, none, .box 36 (.tmp 0)⟩,
    ⟨some 2, none, .assign (.const (.bool false))⟩])
  (.seq (.reg [⟨some 3, none, .fieldAddr 36 (.tmp 1) 0⟩,
    ⟨some 4, none, .load 9 (.tmp 3)⟩,
    ⟨some 5, none, .binOp .eql 9 (.tmp 4) (.const (.string ⟨#[]⟩)) 9⟩,
    ⟨some 6, none, .move (.tmp 5)⟩,
    ⟨some 7, some (6, true), .fieldAddr 36 (.tmp 1) 1⟩,
    ⟨some 8, some (6, true), .load 4 (.tmp 7)⟩,
    ⟨some 9, some (6, true), .unOp .not 4 (.tmp 8)⟩,
    ⟨some 10, none, .pick (.tmp 6) (.tmp 9) (.const (.bool false))⟩,
    ⟨some 2, none, .assign (.tmp 10)⟩])
  .ret))
theorem ok133 : FnOk Tryz.prog 133 11 [.tmp 2] c133 := ⟨hmix, Tryz.f133, Tryz.func133, by kernel_rfl, rfl, rfl, by kernel_rfl, by kernel_rfl⟩

/-- mandoline/meta.Right -/
def c75 : SC := (.seq (.reg [⟨some 1, none, .box 39 (.tmp 0)⟩,
    ⟨some 2, none, .assign (.const (.bool false))⟩])
  (.seq (.block 0 (.seq (.seq (.reg [⟨some 26, none, .fieldAddr 39 (.tmp 1) 0⟩,
    ⟨some 27, none, .load 36 (.tmp 26)⟩,
    ⟨some 28, none, .call ⟨.value (.func 122), #[.tmp 27], #[36]⟩⟩,
    ⟨some 29, none, .unOp .not 4 (.tmp 28)⟩,
    ⟨some 25, none, .assign (.tmp 29)⟩])
  (.cond (.tmp 25)
  .skip
  (.seq (.reg [⟨some 30, none, .fieldAddr 39 (.tmp 1) 1⟩,
    ⟨some 31, none, .load 2 (.tmp 30)⟩,
    ⟨some 32, none, .binOp .lss 2 (.tmp 31) (.const (.int .i64 (-1))) 2⟩,
    ⟨some 25, none, .assign (.tmp 32)⟩])
  (.cond (.tmp 25)
  .skip
  (.reg [⟨some 33, none, .fieldAddr 39 (.tmp 1) 1⟩,
    ⟨some 34, none, .load 2 (.tmp 33)⟩,
    ⟨some 35, none, .binOp .gtr 2 (.tmp 34) (.const (.int .i64 253402300799)) 2⟩,
    ⟨some 25, none, .assign (.tmp 35)⟩])))))
  (.cond (.tmp 25)
  .skip
  (.seq (.seq (.reg [⟨some 37, none, .fieldAddr 39 (.tmp 1) 2⟩,
    ⟨some 38, none, .load 2 (.tmp 37)⟩,
    ⟨some 39, none, .call ⟨.value (.func 123), #[.tmp 38, .const (.int .i64 (-1))], #[2, 2]⟩⟩,
    ⟨some 40, none, .unOp .not 4 (.tmp 39)⟩,
    ⟨some 36, none, .assign (.tmp 40)⟩])
  (.cond (.tmp 36)
  .skip
  (.seq (.reg [⟨some 41, none, .fieldAddr 39 (.tmp 1) 3⟩,
    ⟨some 42, none, .load 2 (.tmp 41)⟩,
    ⟨some 43, none, .call ⟨.value (.func 123), #[.tmp 42, .const (.int .i64 0)], #[2, 2]⟩⟩,
    ⟨some 44, none, .unOp .not 4 (.tmp 43)⟩,
    ⟨some 36, none, .assign (.tmp 44)⟩])
  (.cond (.tmp 36)
  .skip
  (.reg [⟨some 45, none, .fieldAddr 39 (.tmp 1) 2⟩,
    ⟨some 46, none, .load 2 (.tmp 45)⟩,
    ⟨some 47, none, .binOp .geq 2 (.tmp 46) (.const (.int .i64 0)) 2⟩,
    ⟨some 48, none, .move (.tmp 47)⟩,
    ⟨some 49, some (48, true), .fieldAddr 39 (.tmp 1) 3⟩,
    ⟨some 50, some (48, true), .load 2 (.tmp 49)⟩,
    ⟨some 51, some (48, true), .fieldAddr 39 (.tmp 1) 2⟩,
    ⟨some 52, some (48, true), .load 2 (.tmp 51)⟩,
    ⟨some 53, some (48, true), .binOp .neq 2 (.tmp 50) (.tmp 52) 2⟩,
    ⟨some 54, none, .pick (.tmp 48) (.tmp 53) (.const (.bool false))⟩,
    ⟨some 36, none, .assign (.tmp 54)⟩])))))
  (.cond (.tmp 36)
  .skip
  (.seq (.seq (.reg [⟨some 56, none, .fieldAddr 39 (.tmp 1) 4⟩,
    ⟨some 57, none, .load 2 (.tmp 56)⟩,
    ⟨some 58, none, .call ⟨.value (.func 123), #[.tmp 57, .const (.int .i64 0)], #[2, 2]⟩⟩,
    ⟨some 59, none, .unOp .not 4 (.tmp 58)⟩,
    ⟨some 55, none, .assign (.tmp 59)⟩])
  (.cond (.tmp 55)
  .skip
  (.seq (.reg [⟨some 60, none, .fieldAddr 39 (.tmp 1) 5⟩,
    ⟨some 61, none, .load 2 (.tmp 60)⟩,
    ⟨some 62, none, .call ⟨.value (.func 123), #[.tmp 61, .const (.int .i64 0)], #[2, 2]⟩⟩,
    ⟨some 63, none, .unOp .not 4 (.tmp 62)⟩,
    ⟨some 55, none, .assign (.tmp 63)⟩])
  (.cond (.tmp 55)
  .skip
  (.reg [⟨some 64, none, .fieldAddr 39 (.tmp 1) 6⟩,
    ⟨some 65, none, .load 2 (.tmp 64)⟩,
    ⟨some 66, none, .call ⟨.value (.func 123), #[.tmp 65, .const (.int .i64 0)], #[2, 2]⟩⟩,
    ⟨some 67, none, .unOp .not 4 (.tmp 66)⟩,
    ⟨some 55, none, .assign (.tmp 67)⟩])))))
  (.cond (.tmp 55)
  .skip
  (.seq (.seq (.reg [⟨some 69, none, .fieldAddr 39 (.tmp 1) 7⟩,
    ⟨some 70, none, .load 37 (.tmp 69)⟩,
    ⟨some 71, none, .call ⟨.builtin .len, #[.tmp 70], #[37]⟩⟩,
    ⟨some 72, none, .binOp .gtr 3 (.tmp 71) (.const (.int .i64 32)) 3⟩,
    ⟨some 68, none, .assign (.tmp 72)⟩])
  (.cond (.tmp 68)
  .skip
  (.reg [⟨some 73, none, .fieldAddr 39 (.tmp 1) 8⟩,
    ⟨some 74, none, .load 9 (.tmp 73)⟩,
    ⟨some 75, none, .call ⟨.value (.func 124), #[.tmp 74], #[9]⟩⟩,
    ⟨some 76, none, .unOp .not 4 (.tmp 75)⟩,
    ⟨some 68, none, .assign (.tmp 76)⟩])))
  (.cond (.tmp 68)
  .skip
  (.seq (.reg [⟨some 6, none, .makeMap 186 .none⟩,
    ⟨some 3, none, .assign (.tmp 6)⟩])
  (.seq (.seq (.reg [⟨some 7, none, .fieldAddr 39 (.tmp 1) 7⟩,
    ⟨some 8, none, .load 37 (.tmp 7)⟩,
    ⟨some 9, none, .call ⟨.builtin .len, #[.tmp 8], #[37]⟩⟩,
    ⟨some 10, none, .move (.const (.int .i64 0))⟩])
  (.block 1 (.loop (.seq (.reg [⟨some 11, none, .binOp .lss 3 (.tmp 10) (.tmp 9) 3⟩])
  (.seq (.cond (.tmp 11)
  .skip
  (.exit 1))
  (.seq (.block 2 (.seq (.reg [⟨some 12, none, .indexAddr 37 (.tmp 8) (.tmp 10)⟩,
    ⟨some 13, none, .load 9 (.tmp 12)⟩,
    ⟨some 5, none, .assign (.tmp 13)⟩])
  (.seq (.seq (.reg [⟨some 14, none, .move (.tmp 5)⟩,
    ⟨some 15, none, .call ⟨.value (.func 125), #[.tmp 14], #[9]⟩⟩,
    ⟨some 16, none, .unOp .not 4 (.tmp 15)⟩,
    ⟨some 17, none, .move (.tmp 16)⟩,
    ⟨some 18, some (17, false), .move (.tmp 3)⟩,
    ⟨some 19, some (17, false), .move (.tmp 5)⟩,
    ⟨some 20, some (17, false), .lookup 186 (.tmp 18) (.tmp 19) false⟩,
    ⟨some 21, none, .pick (.tmp 17) (.const (.bool true)) (.tmp 20)⟩])
  (.cond (.tmp 21)
  (.seq (.reg [⟨some 2, none, .assign (.const (.bool false))⟩])
  .ret)
  .skip))
  (.reg [⟨some 22, none, .move (.tmp 3)⟩,
    ⟨some 23, none, .move (.tmp 5)⟩,
    ⟨none, none, .mapUpdate 186 (.tmp 22) (.tmp 23) (.const (.bool true))⟩]))))
  (.reg [⟨some 24, none, .binOp .add 3 (.tmp 10) (.const (.int .i64 1)) 3⟩,
    ⟨some 10, none, .move (.tmp 24)⟩])))))))
  (.seq (.reg [⟨some 2, none, .assign (.const (.bool true))⟩])
  .ret))))))))))))
  (.seq (.reg [⟨some 2, none, .assign (.const (.bool false))⟩])
  .ret)))
theorem ok75 : FnOk Tryz.prog 75 77 [.tmp 2] c75 := ⟨hmix, Tryz.f75, Tryz.func75, by kernel_rfl, rfl, rfl, by kernel_rfl, by kernel_rfl⟩

/-- mandoline/meta.key -/
def c125 : SC := (.seq (.reg [⟨some 2, none, .assign (.const (.bool false))⟩])
  (.seq (.reg [⟨some 3, none, .move (.tmp 0)⟩,
    ⟨some 4, none, .binOp .neq 9 (.tmp 3) (.const (.string ⟨#[]⟩)) 9⟩,
    ⟨some 5, none, .move (.tmp 4)⟩,
    ⟨some 6, some (5, true), .move (.tmp 0)⟩,
    ⟨some 7, some (5, true), .call ⟨.builtin .len, #[.tmp 6], #[9]⟩⟩,
    ⟨some 8, some (5, true), .binOp .leq 3 (.tmp 7) (.const (.int .i64 200)) 3⟩,
    ⟨some 9, none, .pick (.tmp 5) (.tmp 8) (.const (.bool false))⟩,
    ⟨some 10, none, .move (.tmp 9)⟩,
    ⟨some 11, some (10, true), .move (.tmp 0)⟩,
    ⟨some 12, some (10, true), .call ⟨.value (.func 148), #[.tmp 11, .func 152], #[9, 203]⟩⟩,
    ⟨some 13, some (10, true), .binOp .lss 3 (.tmp 12) (.const (.int .i64 0)) 3⟩,
    ⟨some 14, none, .pick (.tmp 10) (.tmp 13) (.const (.bool false))⟩,
    ⟨some 2, none, .assign (.tmp 14)⟩])
  .ret))
theorem ok125 : FnOk Tryz.prog 125 15 [.tmp 2] c125 := ⟨hmix, Tryz.f125, Tryz.func125, by kernel_rfl, rfl, rfl, by kernel_rfl, by kernel_rfl⟩

/-- mandoline/meta.key$1 -/
def c152 : SC := (.seq (.reg [⟨some 2, none, .assign (.const (.bool false))⟩])
  (.seq (.reg [⟨some 3, none, .move (.tmp 0)⟩,
    ⟨some 4, none, .binOp .lss 21 (.tmp 3) (.const (.int .i32 33)) 21⟩,
    ⟨some 5, none, .move (.tmp 4)⟩,
    ⟨some 6, some (5, false), .move (.tmp 0)⟩,
    ⟨some 7, some (5, false), .binOp .gtr 21 (.tmp 6) (.const (.int .i32 126)) 21⟩,
    ⟨some 8, none, .pick (.tmp 5) (.const (.bool true)) (.tmp 7)⟩,
    ⟨some 2, none, .assign (.tmp 8)⟩])
  .ret))
theorem ok152 : FnOk Tryz.prog 152 9 [.tmp 2] c152 := ⟨hmix, Tryz.f152, Tryz.func152, by kernel_rfl, rfl, rfl, by kernel_rfl, by kernel_rfl⟩

/-- mandoline/meta.tagged -/
def c122 : SC := (.seq (.reg [⟨some 1, none, .box 36 (.tmp 0)⟩,
    ⟨some 2, none, .assign (.const (.bool false))⟩])
  (.seq (.reg [⟨some 3, none, .load 36 (.tmp 1)⟩,
    ⟨some 4, none, .build 36 #[]⟩,
    ⟨some 5, none, .binOp .eql 36 (.tmp 3) (.tmp 4) 36⟩,
    ⟨some 6, none, .move (.tmp 5)⟩,
    ⟨some 7, some (6, false), .load 36 (.tmp 1)⟩,
    ⟨some 8, some (6, false), .call ⟨.value (.func 126), #[.tmp 7], #[36]⟩⟩,
    ⟨some 9, some (6, false), .move (.tmp 8)⟩,
    ⟨some 10, some (9, true), .fieldAddr 36 (.tmp 1) 0⟩,
    ⟨some 11, some (9, true), .load 9 (.tmp 10)⟩,
    ⟨some 12, some (9, true), .call ⟨.value (.func 148), #[.tmp 11, .func 149], #[9, 203]⟩⟩,
    ⟨some 13, some (9, true), .binOp .lss 3 (.tmp 12) (.const (.int .i64 0)) 3⟩,
    ⟨some 14, some (6, false), .pick (.tmp 9) (.tmp 13) (.const (.bool false))⟩,
    ⟨some 15, none, .pick (.tmp 6) (.const (.bool true)) (.tmp 14)⟩,
    ⟨some 2, none, .assign (.tmp 15)⟩])
  .ret))
theorem ok122 : FnOk Tryz.prog 122 16 [.tmp 2] c122 := ⟨hmix, Tryz.f122, Tryz.func122, by kernel_rfl, rfl, rfl, by kernel_rfl, by kernel_rfl⟩

/-- mandoline/meta.tagged$1 -/
def c149 : SC := (.seq (.reg [⟨some 2, none, .assign (.const (.bool false))⟩])
  (.seq (.reg [⟨some 3, none, .move (.tmp 0)⟩,
    ⟨some 4, none, .binOp .gtr 21 (.tmp 3) (.const (.int .i32 126)) 21⟩,
    ⟨some 2, none, .assign (.tmp 4)⟩])
  .ret))
theorem ok149 : FnOk Tryz.prog 149 5 [.tmp 2] c149 := ⟨hmix, Tryz.f149, Tryz.func149, by kernel_rfl, rfl, rfl, by kernel_rfl, by kernel_rfl⟩

/-- mandoline/meta.tenant -/
def c124 : SC := (.seq (.reg [⟨some 2, none, .assign (.const (.bool false))⟩])
  (.seq (.reg [⟨some 3, none, .assign (.func 150)⟩])
  (.seq (.reg [⟨some 4, none, .move (.tmp 0)⟩,
    ⟨some 5, none, .call ⟨.builtin .len, #[.tmp 4], #[9]⟩⟩,
    ⟨some 6, none, .binOp .leq 3 (.tmp 5) (.const (.int .i64 40)) 3⟩,
    ⟨some 7, none, .move (.tmp 6)⟩,
    ⟨some 8, some (7, true), .move (.tmp 0)⟩,
    ⟨some 9, some (7, true), .move (.tmp 3)⟩,
    ⟨some 10, some (7, true), .call ⟨.value (.func 148), #[.tmp 8, .tmp 9], #[9, 203]⟩⟩,
    ⟨some 11, some (7, true), .binOp .lss 3 (.tmp 10) (.const (.int .i64 0)) 3⟩,
    ⟨some 12, none, .pick (.tmp 7) (.tmp 11) (.const (.bool false))⟩,
    ⟨some 13, none, .move (.tmp 12)⟩,
    ⟨some 14, some (13, true), .move (.tmp 0)⟩,
    ⟨some 15, some (13, true), .call ⟨.value (.func 151), #[.tmp 14, .const (.string ⟨#[45]⟩)], #[9, 9]⟩⟩,
    ⟨some 16, some (13, true), .unOp .not 4 (.tmp 15)⟩,
    ⟨some 17, none, .pick (.tmp 13) (.tmp 16) (.const (.bool false))⟩,
    ⟨some 2, none, .assign (.tmp 17)⟩])
  .ret)))
theorem ok124 : FnOk Tryz.prog 124 18 [.tmp 2] c124 := ⟨hmix, Tryz.f124, Tryz.func124, by kernel_rfl, rfl, rfl, by kernel_rfl, by kernel_rfl⟩

/-- mandoline/meta.tenant$1 -/
def c150 : SC := (.seq (.reg [⟨some 2, none, .assign (.const (.bool false))⟩])
  (.seq (.reg [⟨some 3, none, .move (.tmp 0)⟩,
    ⟨some 4, none, .binOp .or 21 (.tmp 3) (.const (.int .i32 32)) 21⟩,
    ⟨some 5, none, .binOp .geq 21 (.tmp 4) (.const (.int .i32 97)) 21⟩,
    ⟨some 6, none, .move (.tmp 5)⟩,
    ⟨some 7, some (6, true), .move (.tmp 0)⟩,
    ⟨some 8, some (6, true), .binOp .or 21 (.tmp 7) (.const (.int .i32 32)) 21⟩,
    ⟨some 9, some (6, true), .binOp .leq 21 (.tmp 8) (.const (.int .i32 122)) 21⟩,
    ⟨some 10, none, .pick (.tmp 6) (.tmp 9) (.const (.bool false))⟩,
    ⟨some 11, none, .move (.tmp 10)⟩,
    ⟨some 12, some (11, false), .move (.tmp 0)⟩,
    ⟨some 13, some (11, false), .binOp .geq 21 (.tmp 12) (.const (.int .i32 48)) 21⟩,
    ⟨some 14, some (11, false), .move (.tmp 13)⟩,
    ⟨some 15, some (14, true), .move (.tmp 0)⟩,
    ⟨some 16, some (14, true), .binOp .leq 21 (.tmp 15) (.const (.int .i32 57)) 21⟩,
    ⟨some 17, some (11, false), .pick (.tmp 14) (.tmp 16) (.const (.bool false))⟩,
    ⟨some 18, none, .pick (.tmp 11) (.const (.bool true)) (.tmp 17)⟩,
    ⟨some 19, none, .move (.tmp 18)⟩,
    ⟨some 20, some (19, false), .move (.tmp 0)⟩,
    ⟨some 21, some (19, false), .binOp .eql 21 (.tmp 20) (.const (.int .i32 45)) 21⟩,
    ⟨some 22, none, .pick (.tmp 19) (.const (.bool true)) (.tmp 21)⟩,
    ⟨some 23, none, .move (.tmp 22)⟩,
    ⟨some 24, some (23, false), .move (.tmp 0)⟩,
    ⟨some 25, some (23, false), .binOp .eql 21 (.tmp 24) (.const (.int .i32 95)) 21⟩,
    ⟨some 26, none, .pick (.tmp 23) (.const (.bool true)) (.tmp 25)⟩,
    ⟨some 27, none, .unOp .not 4 (.tmp 26)⟩,
    ⟨some 2, none, .assign (.tmp 27)⟩])
  .ret))
theorem ok150 : FnOk Tryz.prog 150 28 [.tmp 2] c150 := ⟨hmix, Tryz.f150, Tryz.func150, by kernel_rfl, rfl, rfl, by kernel_rfl, by kernel_rfl⟩

/-- mandoline/meta.within -/
def c123 : SC := (.seq (.reg [⟨some 4, none, .assign (.const (.bool false))⟩])
  (.seq (.reg [⟨some 5, none, .move (.tmp 0)⟩,
    ⟨some 6, none, .move (.tmp 1)⟩,
    ⟨some 7, none, .binOp .geq 2 (.tmp 5) (.tmp 6) 2⟩,
    ⟨some 8, none, .move (.tmp 7)⟩,
    ⟨some 9, some (8, true), .move (.tmp 0)⟩,
    ⟨some 10, some (8, true), .binOp .leq 2 (.tmp 9) (.const (.int .i64 1099511627776)) 2⟩,
    ⟨some 11, none, .pick (.tmp 8) (.tmp 10) (.const (.bool false))⟩,
    ⟨some 4, none, .assign (.tmp 11)⟩])
  .ret))
theorem ok123 : FnOk Tryz.prog 123 12 [.tmp 4] c123 := ⟨hmix, Tryz.f123, Tryz.func123, by kernel_rfl, rfl, rfl, by kernel_rfl, by kernel_rfl⟩

/-- mandoline/span.Right -/
def c129 : SC := (.seq (.reg [⟨some 1, none, .box 41 (.tmp 0)⟩,
    ⟨some 2, none, .assign (.const (.bool false))⟩])
  (.seq (.reg [⟨some 3, none, .fieldAddr 41 (.tmp 1) 0⟩,
    ⟨some 4, none, .load 2 (.tmp 3)⟩,
    ⟨some 5, none, .binOp .leq 2 (.const (.int .i64 0)) (.tmp 4) 2⟩,
    ⟨some 6, none, .move (.tmp 5)⟩,
    ⟨some 7, some (6, true), .fieldAddr 41 (.tmp 1) 0⟩,
    ⟨some 8, some (6, true), .load 2 (.tmp 7)⟩,
    ⟨some 9, some (6, true), .fieldAddr 41 (.tmp 1) 1⟩,
    ⟨some 10, some (6, true), .load 2 (.tmp 9)⟩,
    ⟨some 11, some (6, true), .binOp .leq 2 (.tmp 8) (.tmp 10) 2⟩,
    ⟨some 12, none, .pick (.tmp 6) (.tmp 11) (.const (.bool false))⟩,
    ⟨some 13, none, .move (.tmp 12)⟩,
    ⟨some 14, some (13, true), .fieldAddr 41 (.tmp 1) 1⟩,
    ⟨some 15, some (13, true), .load 2 (.tmp 14)⟩,
    ⟨some 16, some (13, true), .binOp .leq 2 (.tmp 15) (.const (.int .i64 4611686018427387904)) 2⟩,
    ⟨some 17, none, .pick (.tmp 13) (.tmp 16) (.const (.bool false))⟩,
    ⟨some 2, none, .assign (.tmp 17)⟩])
  .ret))
theorem ok129 : FnOk Tryz.prog 129 18 [.tmp 2] c129 := ⟨hmix, Tryz.f129, Tryz.func129, by kernel_rfl, rfl, rfl, by kernel_rfl, by kernel_rfl⟩

/-- strings.HasPrefix -/
def c151 : SC := (.seq (.reg [⟨some 4, none, .assign (.const (.bool false))⟩])
  (.seq (.reg [⟨some 5, none, .move (.tmp 0)⟩,
    ⟨some 6, none, .move (.tmp 1)⟩,
    ⟨some 7, none, .call ⟨.value (.func 172), #[.tmp 5, .tmp 6], #[9, 9]⟩⟩,
    ⟨some 4, none, .assign (.tmp 7)⟩])
  .ret))
theorem ok151 : FnOk Tryz.prog 151 8 [.tmp 4] c151 := ⟨hmix, Tryz.f151, Tryz.func151, by kernel_rfl, rfl, rfl, by kernel_rfl, by kernel_rfl⟩

/-- strings.IndexFunc -/
def c148 : SC := (.seq (.reg [⟨some 4, none, .assign (.const (.int .i64 0))⟩])
  (.seq (.reg [⟨some 5, none, .move (.tmp 0)⟩,
    ⟨some 6, none, .move (.tmp 1)⟩,
    ⟨some 7, none, .call ⟨.value (.func 171), #[.tmp 5, .tmp 6, .const (.bool true)], #[9, 203, 4]⟩⟩,
    ⟨some 4, none, .assign (.tmp 7)⟩])
  .ret))
theorem ok148 : FnOk Tryz.prog 148 8 [.tmp 4] c148 := ⟨hmix, Tryz.f148, Tryz.func148, by kernel_rfl, rfl, rfl, by kernel_rfl, by kernel_rfl⟩

/-- strings.indexFunc -/
def c171 : SC := (.seq (.reg [⟨some 6, none, .assign (.const (.int .i64 0))⟩])
  (.seq (.seq (.reg [⟨some 9, none, .move (.tmp 0)⟩,
    ⟨some 10, none, .range 9 (.tmp 9)⟩])
  (.block 0 (.loop (.seq (.reg [⟨some 11, none, .next (.tmp 10) true⟩,
    ⟨some 12, none, .extract (.tmp 11) 0⟩])
  (.seq (.cond (.tmp 12)
  .skip
  (.exit 0))
  (.block 1 (.seq (.reg [⟨some 13, none, .extract (.tmp 11) 1⟩,
    ⟨some 14, none, .extract (.tmp 11) 2⟩,
    ⟨some 7, none, .assign (.tmp 13)⟩,
    ⟨some 8, none, .assign (.tmp 14)⟩])
  (.seq (.reg [⟨some 15, none, .move (.tmp 1)⟩,
    ⟨some 16, none, .move (.tmp 8)⟩,
    ⟨some 17, none, .call ⟨.value (.tmp 15), #[.tmp 16], #[21]⟩⟩,
    ⟨some 18, none, .move (.tmp 2)⟩,
    ⟨some 19, none, .binOp .eql 4 (.tmp 17) (.tmp 18) 4⟩])
  (.cond (.tmp 19)
  (.seq (.reg [⟨some 20, none, .move (.tmp 7)⟩,
    ⟨some 6, none, .assign (.tmp 20)⟩])
  .ret)
  .skip)))))))))
  (.seq (.reg [⟨some 6, none, .assign (.const (.int .i64 (-1)))⟩])
  .ret)))
theorem ok171 : FnOk Tryz.prog 171 21 [.tmp 6] c171 := ⟨hmix, Tryz.f171, Tryz.func171, by kernel_rfl, rfl, rfl, by kernel_rfl, by kernel_rfl⟩

/-- mandoline/tag.Right -/
def c126 : SC := (.seq (.reg [⟨some 1, none, .box 36 (.tmp 0)⟩,
    ⟨some 2, none, .assign (.const (.bool false))⟩])
  (.seq (.seq (.reg [⟨some 5, none, .fieldAddr 36 (.tmp 1) 0⟩,
    ⟨some 6, none, .load 9 (.tmp 5)⟩,
    ⟨some 7, none, .call ⟨.builtin .len, #[.tmp 6], #[9]⟩⟩,
    ⟨some 8, none, .move (.const (.int .i64 0))⟩])
  (.block 0 (.loop (.seq (.reg [⟨some 9, none, .binOp .lss 3 (.tmp 8) (.tmp 7) 3⟩])
  (.seq (.cond (.tmp 9)
  .skip
  (.exit 0))
  (.seq (.block 1 (.seq (.reg [⟨some 10, none, .move (.tmp 8)⟩,
    ⟨some 3, none, .assign (.tmp 10)⟩])
  (.seq (.reg [⟨some 11, none, .fieldAddr 36 (.tmp 1) 0⟩,
    ⟨some 12, none, .load 9 (.tmp 11)⟩,
    ⟨some 13, none, .move (.tmp 3)⟩,
    ⟨some 14, none, .index 9 (.tmp 12) (.tmp 13)⟩,
    ⟨some 4, none, .assign (.tmp 14)⟩])
  (.seq (.reg [⟨some 15, none, .move (.tmp 4)⟩,
    ⟨some 16, none, .binOp .neq 5 (.tmp 15) (.const (.int .u8 33)) 5⟩,
    ⟨some 17, none, .move (.tmp 16)⟩,
    ⟨some 18, some (17, true), .move (.tmp 4)⟩,
    ⟨some 19, some (17, true), .binOp .lss 5 (.tmp 18) (.const (.int .u8 35)) 5⟩,
    ⟨some 20, some (17, true), .move (.tmp 19)⟩,
    ⟨some 21, some (20, false), .move (.tmp 4)⟩,
    ⟨some 22, some (20, false), .binOp .gtr 5 (.tmp 21) (.const (.int .u8 126)) 5⟩,
    ⟨some 23, some (17, true), .pick (.tmp 20) (.const (.bool true)) (.tmp 22)⟩,
    ⟨some 24, none, .pick (.tmp 17) (.tmp 23) (.const (.bool false))⟩])
  (.cond (.tmp 24)
  (.seq (.reg [⟨some 2, none, .assign (.const (.bool false))⟩])
  .ret)
  .skip)))))
  (.reg [⟨some 25, none, .binOp .add 3 (.tmp 8) (.const (.int .i64 1)) 3⟩,
    ⟨some 8, none, .move (.tmp 25)⟩])))))))
  (.seq (.reg [⟨some 26, none, .fieldAddr 36 (.tmp 1) 0⟩,
    ⟨some 27, none, .load 9 (.tmp 26)⟩,
    ⟨some 28, none, .call ⟨.builtin .len, #[.tmp 27], #[9]⟩⟩,
    ⟨some 29, none, .binOp .gtr 3 (.tmp 28) (.const (.int .i64 0)) 3⟩,
    ⟨some 30, none, .move (.tmp 29)⟩,
    ⟨some 31, some (30, true), .fieldAddr 36 (.tmp 1) 0⟩,
    ⟨some 32, some (30, true), .load 9 (.tmp 31)⟩,
    ⟨some 33, some (30, true), .call ⟨.builtin .len, #[.tmp 32], #[9]⟩⟩,
    ⟨some 34, some (30, true), .binOp .leq 3 (.tmp 33) (.const (.int .i64 100)) 3⟩,
    ⟨some 35, none, .pick (.tmp 30) (.tmp 34) (.const (.bool false))⟩,
    ⟨some 2, none, .assign (.tmp 35)⟩])
  .ret)))
theorem ok126 : FnOk Tryz.prog 126 36 [.tmp 2] c126 := ⟨hmix, Tryz.f126, Tryz.func126, by kernel_rfl, rfl, rfl, by kernel_rfl, by kernel_rfl⟩

/-- mandoline/tag.Weak -/
def c127 : SC := (.seq (.reg [⟨some 2, none, .box 36 (.tmp 0)⟩,
    ⟨some 3, none, .box 36 (.tmp 1)⟩,
    ⟨some 4, none, .assign (.const (.bool false))⟩])
  (.seq (.reg [⟨some 5, none, .load 36 (.tmp 2)⟩,
    ⟨some 6, none, .call ⟨.value (.func 126), #[.tmp 5], #[36]⟩⟩,
    ⟨some 7, none, .move (.tmp 6)⟩,
    ⟨some 8, some (7, true), .load 36 (.tmp 3)⟩,
    ⟨some 9, some (7, true), .call ⟨.value (.func 126), #[.tmp 8], #[36]⟩⟩,
    ⟨some 10, none, .pick (.tmp 7) (.tmp 9) (.const (.bool false))⟩,
    ⟨some 11, none, .move (.tmp 10)⟩,
    ⟨some 12, some (11, true), .fieldAddr 36 (.tmp 2) 0⟩,
    ⟨some 13, some (11, true), .load 9 (.tmp 12)⟩,
    ⟨some 14, some (11, true), .fieldAddr 36 (.tmp 3) 0⟩,
    ⟨some 15, some (11, true), .load 9 (.tmp 14)⟩,
    ⟨some 16, some (11, true), .binOp .eql 9 (.tmp 13) (.tmp 15) 9⟩,
    ⟨some 17, none, .pick (.tmp 11) (.tmp 16) (.const (.bool false))⟩,
    ⟨some 4, none, .assign (.tmp 17)⟩])
  .ret))
theorem ok127 : FnOk Tryz.prog 127 18 [.tmp 4] c127 := ⟨hmix, Tryz.f127, Tryz.func127, by kernel_rfl, rfl, rfl, by kernel_rfl, by kernel_rfl⟩
end Go.Eng.Tryz
