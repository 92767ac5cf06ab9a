/- The types' sizes, places and zeros, each asked of the loaded program: by a program of this claim's own. -/
import Derived.Test.YtkcdcogmnplhjaaDoorT
import Derived.KernelRfl
import Derived.Test.YtkcdcogmnplhjaaDoorChecked
namespace Go.Proofs.YtkcdcogmnplhjaaDoor
open Go
@[simp] theorem qem25 : elemT Tryd.prog 25 = some (3, 1, 8, [(.int .i64 0)]) := by kernel_rfl
@[simp] theorem qel25 : elO Tryd.prog 25 = some (none, 3, 1) := by kernel_rfl
@[simp] theorem qty3 : tyK Tryd.prog 3 = some none := by kernel_rfl
@[simp] theorem qbl30 : bldK Tryd.prog 30 = some ([(.int .i64 0), (.int .i64 0), (.int .u32 0), (.int .u32 0), (.int .u32 0), (.int .u32 0), (.int .u32 0), (.int .u32 0), (.int .u32 0), (.int .u32 0), (.int .u32 0), (.int .u32 0), (.int .u32 0), (.int .u32 0), (.int .u32 0), (.int .u32 0), (.int .u32 0), (.int .u32 0), (.int .u32 0), (.int .u32 0), (.int .u32 0), (.int .u32 0), (.int .u32 0), (.int .u32 0), (.int .u32 0), (.int .u32 0), (.int .u32 0), (.int .u32 0), (.int .u32 0), (.int .u32 0), (.int .u32 0), (.int .u32 0), (.int .u32 0), (.int .u32 0), (.int .u32 0), (.int .u32 0), (.int .u32 0), (.int .u32 0), (.int .u32 0), (.int .u32 0)], fun i => ([(0, 1), (1, 1), (2, 1), (3, 32), (35, 5)] : List (Nat × Nat))[i]?) := by kernel_rfl
@[simp] theorem qem23 : elemT Tryd.prog 23 = some (30, 40, 168, [(.int .i64 0), (.int .i64 0), (.int .u32 0), (.int .u32 0), (.int .u32 0), (.int .u32 0), (.int .u32 0), (.int .u32 0), (.int .u32 0), (.int .u32 0), (.int .u32 0), (.int .u32 0), (.int .u32 0), (.int .u32 0), (.int .u32 0), (.int .u32 0), (.int .u32 0), (.int .u32 0), (.int .u32 0), (.int .u32 0), (.int .u32 0), (.int .u32 0), (.int .u32 0), (.int .u32 0), (.int .u32 0), (.int .u32 0), (.int .u32 0), (.int .u32 0), (.int .u32 0), (.int .u32 0), (.int .u32 0), (.int .u32 0), (.int .u32 0), (.int .u32 0), (.int .u32 0), (.int .u32 0), (.int .u32 0), (.int .u32 0), (.int .u32 0), (.int .u32 0)]) := by kernel_rfl
@[simp] theorem qel23 : elO Tryd.prog 23 = some (none, 30, 40) := by kernel_rfl
@[simp] theorem qty30 : tyK Tryd.prog 30 = some (some 40) := by kernel_rfl
@[simp] theorem qzr30 : zeroT Tryd.prog 30 = some (.agg ⟨[(.int .i64 0), (.int .i64 0), (.int .u32 0), (.int .u32 0), (.int .u32 0), (.int .u32 0), (.int .u32 0), (.int .u32 0), (.int .u32 0), (.int .u32 0), (.int .u32 0), (.int .u32 0), (.int .u32 0), (.int .u32 0), (.int .u32 0), (.int .u32 0), (.int .u32 0), (.int .u32 0), (.int .u32 0), (.int .u32 0), (.int .u32 0), (.int .u32 0), (.int .u32 0), (.int .u32 0), (.int .u32 0), (.int .u32 0), (.int .u32 0), (.int .u32 0), (.int .u32 0), (.int .u32 0), (.int .u32 0), (.int .u32 0), (.int .u32 0), (.int .u32 0), (.int .u32 0), (.int .u32 0), (.int .u32 0), (.int .u32 0), (.int .u32 0), (.int .u32 0)]⟩) := by kernel_rfl
@[simp] theorem qun32 : Tryd.prog.underlying 32 = some (.pointer 47) := by kernel_rfl
@[simp] theorem qfl30_0 : fldO Tryd.prog 30 0 = some (0, 3) := by kernel_rfl
@[simp] theorem qzr27 : zeroT Tryd.prog 27 = some (.agg ⟨[(.int .u32 0), (.int .u32 0), (.int .u32 0), (.int .u32 0), (.int .u32 0), (.int .u32 0), (.int .u32 0), (.int .u32 0), (.int .u32 0), (.int .u32 0), (.int .u32 0), (.int .u32 0), (.int .u32 0), (.int .u32 0), (.int .u32 0), (.int .u32 0), (.int .u32 0), (.int .u32 0), (.int .u32 0), (.int .u32 0), (.int .u32 0), (.int .u32 0), (.int .u32 0), (.int .u32 0), (.int .u32 0), (.int .u32 0), (.int .u32 0), (.int .u32 0), (.int .u32 0), (.int .u32 0), (.int .u32 0), (.int .u32 0)]⟩) := by kernel_rfl
@[simp] theorem qzr28 : zeroT Tryd.prog 28 = some (.agg ⟨[(.int .u32 0), (.int .u32 0), (.int .u32 0), (.int .u32 0), (.int .u32 0)]⟩) := by kernel_rfl
@[simp] theorem qty27 : tyK Tryd.prog 27 = some (some 32) := by kernel_rfl
@[simp] theorem qty28 : tyK Tryd.prog 28 = some (some 5) := by kernel_rfl
@[simp] theorem qek27 : eqK Tryd.prog 27 = some (some (32, .u32), []) := by kernel_rfl
@[simp] theorem qek28 : eqK Tryd.prog 28 = some (some (5, .u32), []) := by kernel_rfl
@[simp] theorem qun4 : Tryd.prog.underlying 4 = some .bool := by kernel_rfl
@[simp] theorem qfl30_1 : fldO Tryd.prog 30 1 = some (1, 3) := by kernel_rfl
@[simp] theorem qfl42_0 : fldO Tryd.prog 42 0 = some (0, 40) := by kernel_rfl
@[simp] theorem qty40 : tyK Tryd.prog 40 = some none := by kernel_rfl
@[simp] theorem qfl30_2 : fldO Tryd.prog 30 2 = some (2, 26) := by kernel_rfl
@[simp] theorem qty26 : tyK Tryd.prog 26 = some none := by kernel_rfl
@[simp] theorem qfl30_3 : fldO Tryd.prog 30 3 = some (3, 27) := by kernel_rfl
@[simp] theorem qfl30_4 : fldO Tryd.prog 30 4 = some (35, 28) := by kernel_rfl
@[simp] theorem qin3 : intT Tryd.prog 3 = some .i64 := by kernel_rfl
@[simp] theorem qin26 : intT Tryd.prog 26 = some .u32 := by kernel_rfl
@[simp] theorem qel27 : elO Tryd.prog 27 = some (some 32, 26, 1) := by kernel_rfl
@[simp] theorem qel28 : elO Tryd.prog 28 = some (some 5, 26, 1) := by kernel_rfl
@[simp] theorem qbl28 : bldK Tryd.prog 28 = some ([(.int .u32 0), (.int .u32 0), (.int .u32 0), (.int .u32 0), (.int .u32 0)], fun j => some (j * 1, 1)) := by kernel_rfl
@[simp] theorem qbl47 : bldK Tryd.prog 47 = some ([(.pointer none), (.int .i64 0)], fun i => ([(0, 1), (1, 1)] : List (Nat × Nat))[i]?) := by kernel_rfl
@[simp] theorem qfl47_0 : fldO Tryd.prog 47 0 = some (0, 44) := by kernel_rfl
@[simp] theorem qty44 : tyK Tryd.prog 44 = some none := by kernel_rfl
@[simp] theorem qbl42 : bldK Tryd.prog 42 = some ([(.pointer none), (.int .i64 0)], fun i => ([(0, 1), (1, 1)] : List (Nat × Nat))[i]?) := by kernel_rfl
@[simp] theorem qem51 : elemT Tryd.prog 51 = some (26, 1, 4, [(.int .u32 0)]) := by kernel_rfl
@[simp] theorem qzr54 : zeroT Tryd.prog 54 = some (.agg ⟨[(.int .u32 0), (.int .u32 0), (.int .u32 0), (.int .u32 0), (.int .u32 0), (.int .u32 0), (.int .u32 0), (.int .u32 0), (.int .u32 0), (.int .u32 0), (.int .u32 0), (.int .u32 0), (.int .u32 0), (.int .u32 0), (.int .u32 0), (.int .u32 0), (.int .u32 0), (.int .u32 0), (.int .u32 0), (.int .u32 0), (.int .u32 0), (.int .u32 0), (.int .u32 0), (.int .u32 0), (.int .u32 0), (.int .u32 0), (.int .u32 0), (.int .u32 0), (.int .u32 0), (.int .u32 0), (.int .u32 0), (.int .u32 0), (.int .u32 0), (.int .u32 0), (.int .u32 0), (.int .u32 0), (.int .u32 0), (.int .u32 0), (.int .u32 0)]⟩) := by kernel_rfl
@[simp] theorem qty54 : tyK Tryd.prog 54 = some (some 39) := by kernel_rfl
@[simp] theorem qbl27 : bldK Tryd.prog 27 = some ([(.int .u32 0), (.int .u32 0), (.int .u32 0), (.int .u32 0), (.int .u32 0), (.int .u32 0), (.int .u32 0), (.int .u32 0), (.int .u32 0), (.int .u32 0), (.int .u32 0), (.int .u32 0), (.int .u32 0), (.int .u32 0), (.int .u32 0), (.int .u32 0), (.int .u32 0), (.int .u32 0), (.int .u32 0), (.int .u32 0), (.int .u32 0), (.int .u32 0), (.int .u32 0), (.int .u32 0), (.int .u32 0), (.int .u32 0), (.int .u32 0), (.int .u32 0), (.int .u32 0), (.int .u32 0), (.int .u32 0), (.int .u32 0)], fun j => some (j * 1, 1)) := by kernel_rfl
@[simp] theorem qel54 : elO Tryd.prog 54 = some (some 39, 26, 1) := by kernel_rfl
@[simp] theorem qel51 : elO Tryd.prog 51 = some (none, 26, 1) := by kernel_rfl
@[simp] theorem qfl47_1 : fldO Tryd.prog 47 1 = some (1, 3) := by kernel_rfl
@[simp] theorem qfl42_1 : fldO Tryd.prog 42 1 = some (1, 3) := by kernel_rfl
@[simp] theorem qfl62_0 : fldO Tryd.prog 62 0 = some (0, 60) := by kernel_rfl
@[simp] theorem qty60 : tyK Tryd.prog 60 = some none := by kernel_rfl
@[simp] theorem qel60 : elO Tryd.prog 60 = some (none, 63, 1) := by kernel_rfl
@[simp] theorem qty63 : tyK Tryd.prog 63 = some none := by kernel_rfl
@[simp] theorem qin64 : intT Tryd.prog 64 = some .u64 := by kernel_rfl
@[simp] theorem qem60 : elemT Tryd.prog 60 = some (63, 1, 8, [(.int .u64 0)]) := by kernel_rfl
@[simp] theorem qbl66 : bldK Tryd.prog 66 = some ([(.slice none 0 0), (.int .i64 0)], fun i => ([(0, 1), (1, 1)] : List (Nat × Nat))[i]?) := by kernel_rfl
@[simp] theorem qfl66_0 : fldO Tryd.prog 66 0 = some (0, 60) := by kernel_rfl
@[simp] theorem qbl62 : bldK Tryd.prog 62 = some ([(.slice none 0 0), (.int .i64 0)], fun i => ([(0, 1), (1, 1)] : List (Nat × Nat))[i]?) := by kernel_rfl
@[simp] theorem qfl66_1 : fldO Tryd.prog 66 1 = some (1, 3) := by kernel_rfl
@[simp] theorem qfl62_1 : fldO Tryd.prog 62 1 = some (1, 3) := by kernel_rfl
@[simp] theorem qin63 : intT Tryd.prog 63 = some .u64 := by kernel_rfl
@[simp] theorem qel73 : elO Tryd.prog 73 = some (some 39, 5, 1) := by kernel_rfl
@[simp] theorem qty5 : tyK Tryd.prog 5 = some none := by kernel_rfl
@[simp] theorem qin5 : intT Tryd.prog 5 = some .u8 := by kernel_rfl
@[simp] theorem qzr73 : zeroT Tryd.prog 73 = some (.agg ⟨[(.int .u8 0), (.int .u8 0), (.int .u8 0), (.int .u8 0), (.int .u8 0), (.int .u8 0), (.int .u8 0), (.int .u8 0), (.int .u8 0), (.int .u8 0), (.int .u8 0), (.int .u8 0), (.int .u8 0), (.int .u8 0), (.int .u8 0), (.int .u8 0), (.int .u8 0), (.int .u8 0), (.int .u8 0), (.int .u8 0), (.int .u8 0), (.int .u8 0), (.int .u8 0), (.int .u8 0), (.int .u8 0), (.int .u8 0), (.int .u8 0), (.int .u8 0), (.int .u8 0), (.int .u8 0), (.int .u8 0), (.int .u8 0), (.int .u8 0), (.int .u8 0), (.int .u8 0), (.int .u8 0), (.int .u8 0), (.int .u8 0), (.int .u8 0)]⟩) := by kernel_rfl
@[simp] theorem qty73 : tyK Tryd.prog 73 = some (some 39) := by kernel_rfl
@[simp] theorem qbl73 : bldK Tryd.prog 73 = some ([(.int .u8 0), (.int .u8 0), (.int .u8 0), (.int .u8 0), (.int .u8 0), (.int .u8 0), (.int .u8 0), (.int .u8 0), (.int .u8 0), (.int .u8 0), (.int .u8 0), (.int .u8 0), (.int .u8 0), (.int .u8 0), (.int .u8 0), (.int .u8 0), (.int .u8 0), (.int .u8 0), (.int .u8 0), (.int .u8 0), (.int .u8 0), (.int .u8 0), (.int .u8 0), (.int .u8 0), (.int .u8 0), (.int .u8 0), (.int .u8 0), (.int .u8 0), (.int .u8 0), (.int .u8 0), (.int .u8 0), (.int .u8 0), (.int .u8 0), (.int .u8 0), (.int .u8 0), (.int .u8 0), (.int .u8 0), (.int .u8 0), (.int .u8 0)], fun j => some (j * 1, 1)) := by kernel_rfl
@[simp] theorem qel75 : elO Tryd.prog 75 = some (some 64, 5, 1) := by kernel_rfl
@[simp] theorem qbl75 : bldK Tryd.prog 75 = some ([(.int .u8 0), (.int .u8 0), (.int .u8 0), (.int .u8 0), (.int .u8 0), (.int .u8 0), (.int .u8 0), (.int .u8 0), (.int .u8 0), (.int .u8 0), (.int .u8 0), (.int .u8 0), (.int .u8 0), (.int .u8 0), (.int .u8 0), (.int .u8 0), (.int .u8 0), (.int .u8 0), (.int .u8 0), (.int .u8 0), (.int .u8 0), (.int .u8 0), (.int .u8 0), (.int .u8 0), (.int .u8 0), (.int .u8 0), (.int .u8 0), (.int .u8 0), (.int .u8 0), (.int .u8 0), (.int .u8 0), (.int .u8 0), (.int .u8 0), (.int .u8 0), (.int .u8 0), (.int .u8 0), (.int .u8 0), (.int .u8 0), (.int .u8 0), (.int .u8 0), (.int .u8 0), (.int .u8 0), (.int .u8 0), (.int .u8 0), (.int .u8 0), (.int .u8 0), (.int .u8 0), (.int .u8 0), (.int .u8 0), (.int .u8 0), (.int .u8 0), (.int .u8 0), (.int .u8 0), (.int .u8 0), (.int .u8 0), (.int .u8 0), (.int .u8 0), (.int .u8 0), (.int .u8 0), (.int .u8 0), (.int .u8 0), (.int .u8 0), (.int .u8 0), (.int .u8 0)], fun j => some (j * 1, 1)) := by kernel_rfl
@[simp] theorem qty75 : tyK Tryd.prog 75 = some (some 64) := by kernel_rfl
end Go.Proofs.YtkcdcogmnplhjaaDoor
