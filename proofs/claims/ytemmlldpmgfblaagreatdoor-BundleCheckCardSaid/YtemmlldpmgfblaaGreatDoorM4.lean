/- Texts F, H1, H2, C8, H3, H4, C10, S1, N1, H5, H6, N4, joined. -/
import Derived.Test.YtemmlldpmgfblaaGreatDoorM3
import Derived.Test.YtemmlldpmgfblaaGreatDoorRows
import Derived.KernelRfl
import Derived.Lib.LaidTab

/- Closed facts on the types of this seat's program, each by the kernel (written by facts.py off the given translation). -/
namespace Go.Proofs.YtemmlldpmgfblaaGreatDoor
open Go.Ab

theorem mixed : Tryz.prog.follows .mixedOrders = true := by kernel_rfl
@[go_sem] theorem zt1 : ztree Tryz.prog 1 = some (.lit .nilFunc) := by kernel_rfl
@[go_sem] theorem tq1 : tyInfo Tryz.prog 1 = some (false, 1) ∧ byteTy Tryz.prog 1 = false ∧ Program.concrete Tryz.prog 1 = true ∧ strTy Tryz.prog 1 = false ∧ nilKind Tryz.prog 1 = 3 := by and_intros <;> kernel_rfl
@[go_sem] theorem it2 : intTy Tryz.prog 2 = some .i64 := by kernel_rfl
@[go_sem] theorem zt2 : ztree Tryz.prog 2 = some (.lit (.int .i64 0)) := by kernel_rfl
@[go_sem] theorem tq2 : tyInfo Tryz.prog 2 = some (false, 1) ∧ byteTy Tryz.prog 2 = false ∧ Program.concrete Tryz.prog 2 = true ∧ strTy Tryz.prog 2 = false := by and_intros <;> kernel_rfl
@[go_sem] theorem it3 : intTy Tryz.prog 3 = some .i64 := by kernel_rfl
@[go_sem] theorem zt3 : ztree Tryz.prog 3 = some (.lit (.int .i64 0)) := by kernel_rfl
@[go_sem] theorem tq3 : tyInfo Tryz.prog 3 = some (false, 1) ∧ byteTy Tryz.prog 3 = false ∧ Program.concrete Tryz.prog 3 = true ∧ strTy Tryz.prog 3 = false := by and_intros <;> kernel_rfl
@[go_sem] theorem bt4 : boolTy Tryz.prog 4 = true := by kernel_rfl
@[go_sem] theorem zt4 : ztree Tryz.prog 4 = some (.lit (.bool false)) := by kernel_rfl
@[go_sem] theorem tq4 : tyInfo Tryz.prog 4 = some (false, 1) ∧ byteTy Tryz.prog 4 = false ∧ Program.concrete Tryz.prog 4 = true ∧ strTy Tryz.prog 4 = false := by and_intros <;> kernel_rfl
@[go_sem] theorem it5 : intTy Tryz.prog 5 = some .u8 := by kernel_rfl
@[go_sem] theorem by5 : byteTy Tryz.prog 5 = true := by kernel_rfl
@[go_sem] theorem sz1_5 : sizeIs Tryz.prog 5 1 = true := by kernel_rfl
@[go_sem] theorem zt5 : ztree Tryz.prog 5 = some (.lit (.int .u8 0)) := by kernel_rfl
@[go_sem] theorem tq5 : tyInfo Tryz.prog 5 = some (false, 1) ∧ Program.concrete Tryz.prog 5 = true ∧ strTy Tryz.prog 5 = false := by and_intros <;> kernel_rfl
@[go_sem] theorem st9 : strTy Tryz.prog 9 = true := by kernel_rfl
@[go_sem] theorem zt9 : ztree Tryz.prog 9 = some (.lit (.string ByteArray.empty)) := by kernel_rfl
@[go_sem] theorem tq9 : tyInfo Tryz.prog 9 = some (false, 1) ∧ byteTy Tryz.prog 9 = false ∧ Program.concrete Tryz.prog 9 = true := by and_intros <;> kernel_rfl
@[go_sem] theorem it12 : intTy Tryz.prog 12 = some .u64 := by kernel_rfl
@[go_sem] theorem zt12 : ztree Tryz.prog 12 = some (.lit (.int .u64 0)) := by kernel_rfl
@[go_sem] theorem tq12 : tyInfo Tryz.prog 12 = some (false, 1) ∧ byteTy Tryz.prog 12 = false ∧ Program.concrete Tryz.prog 12 = true ∧ strTy Tryz.prog 12 = false := by and_intros <;> kernel_rfl
@[go_sem] theorem zt13 : ztree Tryz.prog 13 = some (.agg [(.lit (.string ByteArray.empty)), (.lit (.int .u64 0))]) := by kernel_rfl
@[go_sem] theorem tq13 : tyInfo Tryz.prog 13 = some (true, 2) ∧ byteTy Tryz.prog 13 = false ∧ Program.concrete Tryz.prog 13 = true ∧ strTy Tryz.prog 13 = false ∧ splaces Tryz.prog 13 = some [(0, 1), (1, 1)] ∧ fieldOff Tryz.prog 13 0 = some 0 ∧ fieldOff Tryz.prog 13 1 = some 1 := by and_intros <;> kernel_rfl
@[go_sem] theorem zt20 : ztree Tryz.prog 20 = some (.lit .nilIface) := by kernel_rfl
@[go_sem] theorem tq20 : tyInfo Tryz.prog 20 = some (false, 1) ∧ byteTy Tryz.prog 20 = false ∧ strTy Tryz.prog 20 = false := by and_intros <;> kernel_rfl
@[go_sem] theorem it21 : intTy Tryz.prog 21 = some .i32 := by kernel_rfl
@[go_sem] theorem zt21 : ztree Tryz.prog 21 = some (.lit (.int .i32 0)) := by kernel_rfl
@[go_sem] theorem tq21 : tyInfo Tryz.prog 21 = some (false, 1) ∧ byteTy Tryz.prog 21 = false ∧ Program.concrete Tryz.prog 21 = true ∧ strTy Tryz.prog 21 = false := by and_intros <;> kernel_rfl
@[go_sem] theorem zt22 : ztree Tryz.prog 22 = some (.agg [(.lit (.int .i64 0)), (.lit (.int .i64 0))]) := by kernel_rfl
@[go_sem] theorem tq22 : tyInfo Tryz.prog 22 = some (true, 2) ∧ byteTy Tryz.prog 22 = false ∧ Program.concrete Tryz.prog 22 = true ∧ strTy Tryz.prog 22 = false ∧ splaces Tryz.prog 22 = some [(0, 1), (1, 1)] ∧ fieldOff Tryz.prog 22 0 = some 0 ∧ fieldOff Tryz.prog 22 1 = some 1 := by and_intros <;> kernel_rfl
@[go_sem] theorem eq23 : eqTop Tryz.prog 23 = some (.agg [.int, .int]) := by kernel_rfl
@[go_sem] theorem zt23 : ztree Tryz.prog 23 = some (.agg [(.lit (.int .i64 0)), (.lit (.int .i64 0))]) := by kernel_rfl
@[go_sem] theorem tq23 : tyInfo Tryz.prog 23 = some (true, 2) ∧ byteTy Tryz.prog 23 = false ∧ Program.concrete Tryz.prog 23 = true ∧ strTy Tryz.prog 23 = false ∧ splaces Tryz.prog 23 = some [(0, 1), (1, 1)] ∧ fieldOff Tryz.prog 23 0 = some 0 ∧ fieldOff Tryz.prog 23 1 = some 1 := by and_intros <;> kernel_rfl
@[go_sem] theorem sl24 : sliceTy Tryz.prog 24 = some 120 := by kernel_rfl
@[go_sem] theorem si24 : sliceInfo Tryz.prog 24 = some (120, 10, 120, (.agg [(.lit (.bool false)), (.agg [(.lit (.int .i64 0)), (.lit (.int .u64 0)), (.lit (.int .i64 0)), (.lit (.int .i64 0)), (.lit (.string ByteArray.empty)), (.lit (.int .i64 0))]), (.lit (.int .i64 0)), .nils, .nils])) := by kernel_rfl
@[go_sem] theorem zt24 : ztree Tryz.prog 24 = some .nils := by kernel_rfl
@[go_sem] theorem tq24 : tyInfo Tryz.prog 24 = some (false, 1) ∧ byteTy Tryz.prog 24 = false ∧ Program.concrete Tryz.prog 24 = true ∧ strTy Tryz.prog 24 = false ∧ nilKind Tryz.prog 24 = 1 := by and_intros <;> kernel_rfl
@[go_sem] theorem pa25 : ptrArr Tryz.prog 25 = some (32, 5, 1) := by kernel_rfl
@[go_sem] theorem ar25 : arrInfo Tryz.prog 25 = some (32, 5, 1) := by kernel_rfl
@[go_sem] theorem sp25 : splaces Tryz.prog 25 = none := by kernel_rfl
@[go_sem] theorem zt25 : ztree Tryz.prog 25 = some (.agg ((List.replicate 32 (0 : UInt8)).map byteAV)) := by kernel_rfl
@[go_sem] theorem tq25 : tyInfo Tryz.prog 25 = some (true, 32) ∧ byteTy Tryz.prog 25 = false ∧ Program.concrete Tryz.prog 25 = true ∧ strTy Tryz.prog 25 = false := by and_intros <;> kernel_rfl
@[go_sem] theorem eq26 : eqTop Tryz.prog 26 = some (.bytes 32) := by kernel_rfl
@[go_sem] theorem pa26 : ptrArr Tryz.prog 26 = some (32, 5, 1) := by kernel_rfl
@[go_sem] theorem ar26 : arrInfo Tryz.prog 26 = some (32, 5, 1) := by kernel_rfl
@[go_sem] theorem sp26 : splaces Tryz.prog 26 = none := by kernel_rfl
@[go_sem] theorem zt26 : ztree Tryz.prog 26 = some (.agg ((List.replicate 32 (0 : UInt8)).map byteAV)) := by kernel_rfl
@[go_sem] theorem tq26 : tyInfo Tryz.prog 26 = some (true, 32) ∧ byteTy Tryz.prog 26 = false ∧ Program.concrete Tryz.prog 26 = true ∧ strTy Tryz.prog 26 = false := by and_intros <;> kernel_rfl
@[go_sem] theorem sl27 : sliceTy Tryz.prog 27 = some 70 := by kernel_rfl
@[go_sem] theorem si27 : sliceInfo Tryz.prog 27 = some (70, 34, 80, (.agg [.nils, .nils, (.agg ((List.replicate 32 (0 : UInt8)).map byteAV))])) := by kernel_rfl
@[go_sem] theorem zt27 : ztree Tryz.prog 27 = some .nils := by kernel_rfl
@[go_sem] theorem tq27 : tyInfo Tryz.prog 27 = some (false, 1) ∧ byteTy Tryz.prog 27 = false ∧ Program.concrete Tryz.prog 27 = true ∧ strTy Tryz.prog 27 = false ∧ nilKind Tryz.prog 27 = 1 := by and_intros <;> kernel_rfl
@[go_sem] theorem zt28 : ztree Tryz.prog 28 = some (.agg [(.agg [(.lit (.int .i64 0)), (.lit (.int .i64 0))]), (.lit (.int .i64 0)), (.lit (.int .i64 0)), .nils, (.agg ((List.replicate 32 (0 : UInt8)).map byteAV)), .nils]) := by kernel_rfl
@[go_sem] theorem tq28 : tyInfo Tryz.prog 28 = some (true, 38) ∧ byteTy Tryz.prog 28 = false ∧ Program.concrete Tryz.prog 28 = true ∧ strTy Tryz.prog 28 = false ∧ splaces Tryz.prog 28 = some [(0, 2), (2, 1), (3, 1), (4, 1), (5, 32), (37, 1)] ∧ fieldOff Tryz.prog 28 0 = some 0 ∧ fieldOff Tryz.prog 28 1 = some 2 ∧ fieldOff Tryz.prog 28 2 = some 3 ∧ fieldOff Tryz.prog 28 3 = some 4 ∧ fieldOff Tryz.prog 28 4 = some 5 ∧ fieldOff Tryz.prog 28 5 = some 37 := by and_intros <;> kernel_rfl
@[go_sem] theorem zt29 : ztree Tryz.prog 29 = some (.agg [(.agg [(.lit (.int .i64 0)), (.lit (.int .i64 0))]), (.lit (.int .i64 0)), (.lit (.int .i64 0)), .nils, (.agg ((List.replicate 32 (0 : UInt8)).map byteAV)), .nils]) := by kernel_rfl
@[go_sem] theorem tq29 : tyInfo Tryz.prog 29 = some (true, 38) ∧ byteTy Tryz.prog 29 = false ∧ Program.concrete Tryz.prog 29 = true ∧ strTy Tryz.prog 29 = false ∧ splaces Tryz.prog 29 = some [(0, 2), (2, 1), (3, 1), (4, 1), (5, 32), (37, 1)] ∧ fieldOff Tryz.prog 29 0 = some 0 ∧ fieldOff Tryz.prog 29 1 = some 2 ∧ fieldOff Tryz.prog 29 2 = some 3 ∧ fieldOff Tryz.prog 29 3 = some 4 ∧ fieldOff Tryz.prog 29 4 = some 5 ∧ fieldOff Tryz.prog 29 5 = some 37 := by and_intros <;> kernel_rfl
@[go_sem] theorem sl30 : sliceTy Tryz.prog 30 = some 3 := by kernel_rfl
@[go_sem] theorem si30 : sliceInfo Tryz.prog 30 = some (3, 1, 8, (.lit (.int .i64 0))) := by kernel_rfl
@[go_sem] theorem zt30 : ztree Tryz.prog 30 = some .nils := by kernel_rfl
@[go_sem] theorem tq30 : tyInfo Tryz.prog 30 = some (false, 1) ∧ byteTy Tryz.prog 30 = false ∧ Program.concrete Tryz.prog 30 = true ∧ strTy Tryz.prog 30 = false ∧ nilKind Tryz.prog 30 = 1 := by and_intros <;> kernel_rfl
@[go_sem] theorem zt31 : ztree Tryz.prog 31 = some (.lit .nilFunc) := by kernel_rfl
@[go_sem] theorem tq31 : tyInfo Tryz.prog 31 = some (false, 1) ∧ byteTy Tryz.prog 31 = false ∧ Program.concrete Tryz.prog 31 = true ∧ strTy Tryz.prog 31 = false ∧ nilKind Tryz.prog 31 = 3 := by and_intros <;> kernel_rfl
@[go_sem] theorem zt32 : ztree Tryz.prog 32 = some (.lit .nilFunc) := by kernel_rfl
@[go_sem] theorem tq32 : tyInfo Tryz.prog 32 = some (false, 1) ∧ byteTy Tryz.prog 32 = false ∧ Program.concrete Tryz.prog 32 = true ∧ strTy Tryz.prog 32 = false ∧ nilKind Tryz.prog 32 = 3 := by and_intros <;> kernel_rfl
@[go_sem] theorem sl33 : sliceTy Tryz.prog 33 = some 160 := by kernel_rfl
@[go_sem] theorem si33 : sliceInfo Tryz.prog 33 = some (160, 65, 88, (.agg [(.agg ((List.replicate 32 (0 : UInt8)).map byteAV)), .nils, (.agg ((List.replicate 32 (0 : UInt8)).map byteAV))])) := by kernel_rfl
@[go_sem] theorem zt33 : ztree Tryz.prog 33 = some .nils := by kernel_rfl
@[go_sem] theorem tq33 : tyInfo Tryz.prog 33 = some (false, 1) ∧ byteTy Tryz.prog 33 = false ∧ Program.concrete Tryz.prog 33 = true ∧ strTy Tryz.prog 33 = false ∧ nilKind Tryz.prog 33 = 1 := by and_intros <;> kernel_rfl
@[go_sem] theorem sl34 : sliceTy Tryz.prog 34 = some 162 := by kernel_rfl
@[go_sem] theorem si34 : sliceInfo Tryz.prog 34 = some (162, 35, 88, (.agg [(.agg ((List.replicate 32 (0 : UInt8)).map byteAV)), (.lit (.int .i64 0)), .nils, .nils])) := by kernel_rfl
@[go_sem] theorem zt34 : ztree Tryz.prog 34 = some .nils := by kernel_rfl
@[go_sem] theorem tq34 : tyInfo Tryz.prog 34 = some (false, 1) ∧ byteTy Tryz.prog 34 = false ∧ Program.concrete Tryz.prog 34 = true ∧ strTy Tryz.prog 34 = false ∧ nilKind Tryz.prog 34 = 1 := by and_intros <;> kernel_rfl
@[go_sem] theorem zt35 : ztree Tryz.prog 35 = some (.agg [(.lit (.bool false)), (.agg ((List.replicate 32 (0 : UInt8)).map byteAV)), (.lit (.int .i64 0)), .nils, .nils]) := by kernel_rfl
@[go_sem] theorem tq35 : tyInfo Tryz.prog 35 = some (true, 36) ∧ byteTy Tryz.prog 35 = false ∧ Program.concrete Tryz.prog 35 = true ∧ strTy Tryz.prog 35 = false ∧ splaces Tryz.prog 35 = some [(0, 1), (1, 32), (33, 1), (34, 1), (35, 1)] ∧ fieldOff Tryz.prog 35 0 = some 0 ∧ fieldOff Tryz.prog 35 1 = some 1 ∧ fieldOff Tryz.prog 35 2 = some 33 ∧ fieldOff Tryz.prog 35 3 = some 34 ∧ fieldOff Tryz.prog 35 4 = some 35 := by and_intros <;> kernel_rfl
@[go_sem] theorem zt36 : ztree Tryz.prog 36 = some (.agg [(.lit (.bool false)), (.agg ((List.replicate 32 (0 : UInt8)).map byteAV)), (.lit (.int .i64 0)), .nils, .nils]) := by kernel_rfl
@[go_sem] theorem tq36 : tyInfo Tryz.prog 36 = some (true, 36) ∧ byteTy Tryz.prog 36 = false ∧ Program.concrete Tryz.prog 36 = true ∧ strTy Tryz.prog 36 = false ∧ splaces Tryz.prog 36 = some [(0, 1), (1, 32), (33, 1), (34, 1), (35, 1)] ∧ fieldOff Tryz.prog 36 0 = some 0 ∧ fieldOff Tryz.prog 36 1 = some 1 ∧ fieldOff Tryz.prog 36 2 = some 33 ∧ fieldOff Tryz.prog 36 3 = some 34 ∧ fieldOff Tryz.prog 36 4 = some 35 := by and_intros <;> kernel_rfl
@[go_sem] theorem sl37 : sliceTy Tryz.prog 37 = some 177 := by kernel_rfl
@[go_sem] theorem si37 : sliceInfo Tryz.prog 37 = some (177, 33, 40, (.agg [(.lit (.int .i64 0)), (.agg ((List.replicate 32 (0 : UInt8)).map byteAV))])) := by kernel_rfl
@[go_sem] theorem zt37 : ztree Tryz.prog 37 = some .nils := by kernel_rfl
@[go_sem] theorem tq37 : tyInfo Tryz.prog 37 = some (false, 1) ∧ byteTy Tryz.prog 37 = false ∧ Program.concrete Tryz.prog 37 = true ∧ strTy Tryz.prog 37 = false ∧ nilKind Tryz.prog 37 = 1 := by and_intros <;> kernel_rfl
@[go_sem] theorem zt38 : ztree Tryz.prog 38 = some (.agg [.nils, (.lit (.int .i64 0))]) := by kernel_rfl
@[go_sem] theorem tq38 : tyInfo Tryz.prog 38 = some (true, 2) ∧ byteTy Tryz.prog 38 = false ∧ Program.concrete Tryz.prog 38 = true ∧ strTy Tryz.prog 38 = false ∧ splaces Tryz.prog 38 = some [(0, 1), (1, 1)] ∧ fieldOff Tryz.prog 38 0 = some 0 ∧ fieldOff Tryz.prog 38 1 = some 1 := by and_intros <;> kernel_rfl
@[go_sem] theorem zt39 : ztree Tryz.prog 39 = some (.agg [.nils, (.lit (.int .i64 0))]) := by kernel_rfl
@[go_sem] theorem tq39 : tyInfo Tryz.prog 39 = some (true, 2) ∧ byteTy Tryz.prog 39 = false ∧ Program.concrete Tryz.prog 39 = true ∧ strTy Tryz.prog 39 = false ∧ splaces Tryz.prog 39 = some [(0, 1), (1, 1)] ∧ fieldOff Tryz.prog 39 0 = some 0 ∧ fieldOff Tryz.prog 39 1 = some 1 := by and_intros <;> kernel_rfl
@[go_sem] theorem sl40 : sliceTy Tryz.prog 40 = some 149 := by kernel_rfl
@[go_sem] theorem si40 : sliceInfo Tryz.prog 40 = some (149, 2, 24, (.agg [(.lit (.string ByteArray.empty)), (.lit (.int .i64 0))])) := by kernel_rfl
@[go_sem] theorem zt40 : ztree Tryz.prog 40 = some .nils := by kernel_rfl
@[go_sem] theorem tq40 : tyInfo Tryz.prog 40 = some (false, 1) ∧ byteTy Tryz.prog 40 = false ∧ Program.concrete Tryz.prog 40 = true ∧ strTy Tryz.prog 40 = false ∧ nilKind Tryz.prog 40 = 1 := by and_intros <;> kernel_rfl
@[go_sem] theorem zt41 : ztree Tryz.prog 41 = some (.agg [(.lit (.int .i64 0)), (.agg ((List.replicate 32 (0 : UInt8)).map byteAV)), .nils]) := by kernel_rfl
@[go_sem] theorem tq41 : tyInfo Tryz.prog 41 = some (true, 34) ∧ byteTy Tryz.prog 41 = false ∧ Program.concrete Tryz.prog 41 = true ∧ strTy Tryz.prog 41 = false ∧ splaces Tryz.prog 41 = some [(0, 1), (1, 32), (33, 1)] ∧ fieldOff Tryz.prog 41 0 = some 0 ∧ fieldOff Tryz.prog 41 1 = some 1 ∧ fieldOff Tryz.prog 41 2 = some 33 := by and_intros <;> kernel_rfl
@[go_sem] theorem zt42 : ztree Tryz.prog 42 = some (.agg [(.lit (.int .i64 0)), (.agg ((List.replicate 32 (0 : UInt8)).map byteAV)), .nils]) := by kernel_rfl
@[go_sem] theorem tq42 : tyInfo Tryz.prog 42 = some (true, 34) ∧ byteTy Tryz.prog 42 = false ∧ Program.concrete Tryz.prog 42 = true ∧ strTy Tryz.prog 42 = false ∧ splaces Tryz.prog 42 = some [(0, 1), (1, 32), (33, 1)] ∧ fieldOff Tryz.prog 42 0 = some 0 ∧ fieldOff Tryz.prog 42 1 = some 1 ∧ fieldOff Tryz.prog 42 2 = some 33 := by and_intros <;> kernel_rfl
@[go_sem] theorem zt43 : ztree Tryz.prog 43 = some (.agg [(.lit (.int .i64 0)), (.lit (.int .i64 0)), .nils, (.agg ((List.replicate 32 (0 : UInt8)).map byteAV))]) := by kernel_rfl
@[go_sem] theorem tq43 : tyInfo Tryz.prog 43 = some (true, 35) ∧ byteTy Tryz.prog 43 = false ∧ Program.concrete Tryz.prog 43 = true ∧ strTy Tryz.prog 43 = false ∧ splaces Tryz.prog 43 = some [(0, 1), (1, 1), (2, 1), (3, 32)] ∧ fieldOff Tryz.prog 43 0 = some 0 ∧ fieldOff Tryz.prog 43 1 = some 1 ∧ fieldOff Tryz.prog 43 2 = some 2 ∧ fieldOff Tryz.prog 43 3 = some 3 := by and_intros <;> kernel_rfl
@[go_sem] theorem zt44 : ztree Tryz.prog 44 = some (.agg [(.lit (.int .i64 0)), (.lit (.int .i64 0)), .nils, (.agg ((List.replicate 32 (0 : UInt8)).map byteAV))]) := by kernel_rfl
@[go_sem] theorem tq44 : tyInfo Tryz.prog 44 = some (true, 35) ∧ byteTy Tryz.prog 44 = false ∧ Program.concrete Tryz.prog 44 = true ∧ strTy Tryz.prog 44 = false ∧ splaces Tryz.prog 44 = some [(0, 1), (1, 1), (2, 1), (3, 32)] ∧ fieldOff Tryz.prog 44 0 = some 0 ∧ fieldOff Tryz.prog 44 1 = some 1 ∧ fieldOff Tryz.prog 44 2 = some 2 ∧ fieldOff Tryz.prog 44 3 = some 3 := by and_intros <;> kernel_rfl
@[go_sem] theorem sl45 : sliceTy Tryz.prog 45 = some 66 := by kernel_rfl
@[go_sem] theorem si45 : sliceInfo Tryz.prog 45 = some (66, 34, 80, (.agg [.nils, .nils, (.agg ((List.replicate 32 (0 : UInt8)).map byteAV))])) := by kernel_rfl
@[go_sem] theorem zt45 : ztree Tryz.prog 45 = some .nils := by kernel_rfl
@[go_sem] theorem tq45 : tyInfo Tryz.prog 45 = some (false, 1) ∧ byteTy Tryz.prog 45 = false ∧ Program.concrete Tryz.prog 45 = true ∧ strTy Tryz.prog 45 = false ∧ nilKind Tryz.prog 45 = 1 := by and_intros <;> kernel_rfl
@[go_sem] theorem zt46 : ztree Tryz.prog 46 = some (.agg [(.agg [(.lit (.bool false)), (.agg ((List.replicate 32 (0 : UInt8)).map byteAV)), (.lit (.int .i64 0)), .nils, .nils]), (.agg [.nils, (.lit (.int .i64 0))]), (.agg [(.lit (.int .i64 0)), (.agg ((List.replicate 32 (0 : UInt8)).map byteAV)), .nils]), (.agg [(.lit (.int .i64 0)), (.lit (.int .i64 0)), .nils, (.agg ((List.replicate 32 (0 : UInt8)).map byteAV))]), .nils, (.agg [(.lit (.int .i64 0)), (.lit (.int .i64 0))]), (.lit (.string ByteArray.empty)), (.lit (.int .i64 0))]) := by kernel_rfl
@[go_sem] theorem tq46 : tyInfo Tryz.prog 46 = some (true, 112) ∧ byteTy Tryz.prog 46 = false ∧ Program.concrete Tryz.prog 46 = true ∧ strTy Tryz.prog 46 = false ∧ splaces Tryz.prog 46 = some [(0, 36), (36, 2), (38, 34), (72, 35), (107, 1), (108, 2), (110, 1), (111, 1)] ∧ fieldOff Tryz.prog 46 0 = some 0 ∧ fieldOff Tryz.prog 46 1 = some 36 ∧ fieldOff Tryz.prog 46 2 = some 38 ∧ fieldOff Tryz.prog 46 3 = some 72 ∧ fieldOff Tryz.prog 46 4 = some 107 ∧ fieldOff Tryz.prog 46 5 = some 108 ∧ fieldOff Tryz.prog 46 6 = some 110 ∧ fieldOff Tryz.prog 46 7 = some 111 := by and_intros <;> kernel_rfl
@[go_sem] theorem zt47 : ztree Tryz.prog 47 = some (.agg [(.agg [(.lit (.bool false)), (.agg ((List.replicate 32 (0 : UInt8)).map byteAV)), (.lit (.int .i64 0)), .nils, .nils]), (.agg [.nils, (.lit (.int .i64 0))]), (.agg [(.lit (.int .i64 0)), (.agg ((List.replicate 32 (0 : UInt8)).map byteAV)), .nils]), (.agg [(.lit (.int .i64 0)), (.lit (.int .i64 0)), .nils, (.agg ((List.replicate 32 (0 : UInt8)).map byteAV))]), .nils, (.agg [(.lit (.int .i64 0)), (.lit (.int .i64 0))]), (.lit (.string ByteArray.empty)), (.lit (.int .i64 0))]) := by kernel_rfl
@[go_sem] theorem tq47 : tyInfo Tryz.prog 47 = some (true, 112) ∧ byteTy Tryz.prog 47 = false ∧ Program.concrete Tryz.prog 47 = true ∧ strTy Tryz.prog 47 = false ∧ splaces Tryz.prog 47 = some [(0, 36), (36, 2), (38, 34), (72, 35), (107, 1), (108, 2), (110, 1), (111, 1)] ∧ fieldOff Tryz.prog 47 0 = some 0 ∧ fieldOff Tryz.prog 47 1 = some 36 ∧ fieldOff Tryz.prog 47 2 = some 38 ∧ fieldOff Tryz.prog 47 3 = some 72 ∧ fieldOff Tryz.prog 47 4 = some 107 ∧ fieldOff Tryz.prog 47 5 = some 108 ∧ fieldOff Tryz.prog 47 6 = some 110 ∧ fieldOff Tryz.prog 47 7 = some 111 := by and_intros <;> kernel_rfl
@[go_sem] theorem zt48 : ztree Tryz.prog 48 = some (.lit (.pointer none)) := by kernel_rfl
@[go_sem] theorem tq48 : tyInfo Tryz.prog 48 = some (false, 1) ∧ byteTy Tryz.prog 48 = false ∧ Program.concrete Tryz.prog 48 = true ∧ strTy Tryz.prog 48 = false ∧ nilKind Tryz.prog 48 = 2 := by and_intros <;> kernel_rfl
@[go_sem] theorem zt50 : ztree Tryz.prog 50 = some (.lit .nilFunc) := by kernel_rfl
@[go_sem] theorem tq50 : tyInfo Tryz.prog 50 = some (false, 1) ∧ byteTy Tryz.prog 50 = false ∧ Program.concrete Tryz.prog 50 = true ∧ strTy Tryz.prog 50 = false ∧ nilKind Tryz.prog 50 = 3 := by and_intros <;> kernel_rfl
@[go_sem] theorem zt51 : ztree Tryz.prog 51 = some (.lit .nilFunc) := by kernel_rfl
@[go_sem] theorem tq51 : tyInfo Tryz.prog 51 = some (false, 1) ∧ byteTy Tryz.prog 51 = false ∧ Program.concrete Tryz.prog 51 = true ∧ strTy Tryz.prog 51 = false ∧ nilKind Tryz.prog 51 = 3 := by and_intros <;> kernel_rfl
@[go_sem] theorem zt52 : ztree Tryz.prog 52 = some (.lit .nilFunc) := by kernel_rfl
@[go_sem] theorem tq52 : tyInfo Tryz.prog 52 = some (false, 1) ∧ byteTy Tryz.prog 52 = false ∧ Program.concrete Tryz.prog 52 = true ∧ strTy Tryz.prog 52 = false ∧ nilKind Tryz.prog 52 = 3 := by and_intros <;> kernel_rfl
@[go_sem] theorem it53 : intTy Tryz.prog 53 = some .i64 := by kernel_rfl
@[go_sem] theorem zt53 : ztree Tryz.prog 53 = some (.lit (.int .i64 0)) := by kernel_rfl
@[go_sem] theorem tq53 : tyInfo Tryz.prog 53 = some (false, 1) ∧ byteTy Tryz.prog 53 = false ∧ Program.concrete Tryz.prog 53 = true ∧ strTy Tryz.prog 53 = false := by and_intros <;> kernel_rfl
@[go_sem] theorem zt54 : ztree Tryz.prog 54 = some (.lit .nilFunc) := by kernel_rfl
@[go_sem] theorem tq54 : tyInfo Tryz.prog 54 = some (false, 1) ∧ byteTy Tryz.prog 54 = false ∧ Program.concrete Tryz.prog 54 = true ∧ strTy Tryz.prog 54 = false ∧ nilKind Tryz.prog 54 = 3 := by and_intros <;> kernel_rfl
@[go_sem] theorem zt55 : ztree Tryz.prog 55 = some (.lit .nilFunc) := by kernel_rfl
@[go_sem] theorem tq55 : tyInfo Tryz.prog 55 = some (false, 1) ∧ byteTy Tryz.prog 55 = false ∧ Program.concrete Tryz.prog 55 = true ∧ strTy Tryz.prog 55 = false ∧ nilKind Tryz.prog 55 = 3 := by and_intros <;> kernel_rfl
@[go_sem] theorem sl56 : sliceTy Tryz.prog 56 = some 29 := by kernel_rfl
@[go_sem] theorem si56 : sliceInfo Tryz.prog 56 = some (29, 38, 112, (.agg [(.agg [(.lit (.int .i64 0)), (.lit (.int .i64 0))]), (.lit (.int .i64 0)), (.lit (.int .i64 0)), .nils, (.agg ((List.replicate 32 (0 : UInt8)).map byteAV)), .nils])) := by kernel_rfl
@[go_sem] theorem zt56 : ztree Tryz.prog 56 = some .nils := by kernel_rfl
@[go_sem] theorem tq56 : tyInfo Tryz.prog 56 = some (false, 1) ∧ byteTy Tryz.prog 56 = false ∧ Program.concrete Tryz.prog 56 = true ∧ strTy Tryz.prog 56 = false ∧ nilKind Tryz.prog 56 = 1 := by and_intros <;> kernel_rfl
@[go_sem] theorem sl57 : sliceTy Tryz.prog 57 = some 5 := by kernel_rfl
@[go_sem] theorem si57 : sliceInfo Tryz.prog 57 = some (5, 1, 1, (.lit (.int .u8 0))) := by kernel_rfl
@[go_sem] theorem zt57 : ztree Tryz.prog 57 = some .nils := by kernel_rfl
@[go_sem] theorem tq57 : tyInfo Tryz.prog 57 = some (false, 1) ∧ byteTy Tryz.prog 57 = false ∧ Program.concrete Tryz.prog 57 = true ∧ strTy Tryz.prog 57 = false ∧ nilKind Tryz.prog 57 = 1 := by and_intros <;> kernel_rfl
@[go_sem] theorem zt59 : ztree Tryz.prog 59 = some (.lit .nilFunc) := by kernel_rfl
@[go_sem] theorem tq59 : tyInfo Tryz.prog 59 = some (false, 1) ∧ byteTy Tryz.prog 59 = false ∧ Program.concrete Tryz.prog 59 = true ∧ strTy Tryz.prog 59 = false ∧ nilKind Tryz.prog 59 = 3 := by and_intros <;> kernel_rfl
@[go_sem] theorem zt61 : ztree Tryz.prog 61 = some (.lit .nilFunc) := by kernel_rfl
@[go_sem] theorem tq61 : tyInfo Tryz.prog 61 = some (false, 1) ∧ byteTy Tryz.prog 61 = false ∧ Program.concrete Tryz.prog 61 = true ∧ strTy Tryz.prog 61 = false ∧ nilKind Tryz.prog 61 = 3 := by and_intros <;> kernel_rfl
@[go_sem] theorem zt62 : ztree Tryz.prog 62 = some (.lit .nilFunc) := by kernel_rfl
@[go_sem] theorem tq62 : tyInfo Tryz.prog 62 = some (false, 1) ∧ byteTy Tryz.prog 62 = false ∧ Program.concrete Tryz.prog 62 = true ∧ strTy Tryz.prog 62 = false ∧ nilKind Tryz.prog 62 = 3 := by and_intros <;> kernel_rfl
@[go_sem] theorem sl63 : sliceTy Tryz.prog 63 = some 26 := by kernel_rfl
@[go_sem] theorem si63 : sliceInfo Tryz.prog 63 = some (26, 32, 32, (.agg ((List.replicate 32 (0 : UInt8)).map byteAV))) := by kernel_rfl
@[go_sem] theorem zt63 : ztree Tryz.prog 63 = some .nils := by kernel_rfl
@[go_sem] theorem tq63 : tyInfo Tryz.prog 63 = some (false, 1) ∧ byteTy Tryz.prog 63 = false ∧ Program.concrete Tryz.prog 63 = true ∧ strTy Tryz.prog 63 = false ∧ nilKind Tryz.prog 63 = 1 := by and_intros <;> kernel_rfl
@[go_sem] theorem sl64 : sliceTy Tryz.prog 64 = some 110 := by kernel_rfl
@[go_sem] theorem si64 : sliceInfo Tryz.prog 64 = some (110, 6, 56, (.agg [(.lit (.int .i64 0)), (.lit (.int .u64 0)), (.lit (.int .i64 0)), (.lit (.int .i64 0)), (.lit (.string ByteArray.empty)), (.lit (.int .i64 0))])) := by kernel_rfl
@[go_sem] theorem zt64 : ztree Tryz.prog 64 = some .nils := by kernel_rfl
@[go_sem] theorem tq64 : tyInfo Tryz.prog 64 = some (false, 1) ∧ byteTy Tryz.prog 64 = false ∧ Program.concrete Tryz.prog 64 = true ∧ strTy Tryz.prog 64 = false ∧ nilKind Tryz.prog 64 = 1 := by and_intros <;> kernel_rfl
@[go_sem] theorem zt65 : ztree Tryz.prog 65 = some (.agg [.nils, .nils, (.agg ((List.replicate 32 (0 : UInt8)).map byteAV))]) := by kernel_rfl
@[go_sem] theorem tq65 : tyInfo Tryz.prog 65 = some (true, 34) ∧ byteTy Tryz.prog 65 = false ∧ Program.concrete Tryz.prog 65 = true ∧ strTy Tryz.prog 65 = false ∧ splaces Tryz.prog 65 = some [(0, 1), (1, 1), (2, 32)] ∧ fieldOff Tryz.prog 65 0 = some 0 ∧ fieldOff Tryz.prog 65 1 = some 1 ∧ fieldOff Tryz.prog 65 2 = some 2 := by and_intros <;> kernel_rfl
@[go_sem] theorem zt66 : ztree Tryz.prog 66 = some (.agg [.nils, .nils, (.agg ((List.replicate 32 (0 : UInt8)).map byteAV))]) := by kernel_rfl
@[go_sem] theorem tq66 : tyInfo Tryz.prog 66 = some (true, 34) ∧ byteTy Tryz.prog 66 = false ∧ Program.concrete Tryz.prog 66 = true ∧ strTy Tryz.prog 66 = false ∧ splaces Tryz.prog 66 = some [(0, 1), (1, 1), (2, 32)] ∧ fieldOff Tryz.prog 66 0 = some 0 ∧ fieldOff Tryz.prog 66 1 = some 1 ∧ fieldOff Tryz.prog 66 2 = some 2 := by and_intros <;> kernel_rfl
@[go_sem] theorem zt68 : ztree Tryz.prog 68 = some (.lit .nilFunc) := by kernel_rfl
@[go_sem] theorem tq68 : tyInfo Tryz.prog 68 = some (false, 1) ∧ byteTy Tryz.prog 68 = false ∧ Program.concrete Tryz.prog 68 = true ∧ strTy Tryz.prog 68 = false ∧ nilKind Tryz.prog 68 = 3 := by and_intros <;> kernel_rfl
@[go_sem] theorem zt69 : ztree Tryz.prog 69 = some (.agg [.nils, .nils, (.agg ((List.replicate 32 (0 : UInt8)).map byteAV))]) := by kernel_rfl
@[go_sem] theorem tq69 : tyInfo Tryz.prog 69 = some (true, 34) ∧ byteTy Tryz.prog 69 = false ∧ Program.concrete Tryz.prog 69 = true ∧ strTy Tryz.prog 69 = false ∧ splaces Tryz.prog 69 = some [(0, 1), (1, 1), (2, 32)] ∧ fieldOff Tryz.prog 69 0 = some 0 ∧ fieldOff Tryz.prog 69 1 = some 1 ∧ fieldOff Tryz.prog 69 2 = some 2 := by and_intros <;> kernel_rfl
@[go_sem] theorem zt70 : ztree Tryz.prog 70 = some (.agg [.nils, .nils, (.agg ((List.replicate 32 (0 : UInt8)).map byteAV))]) := by kernel_rfl
@[go_sem] theorem tq70 : tyInfo Tryz.prog 70 = some (true, 34) ∧ byteTy Tryz.prog 70 = false ∧ Program.concrete Tryz.prog 70 = true ∧ strTy Tryz.prog 70 = false ∧ splaces Tryz.prog 70 = some [(0, 1), (1, 1), (2, 32)] ∧ fieldOff Tryz.prog 70 0 = some 0 ∧ fieldOff Tryz.prog 70 1 = some 1 ∧ fieldOff Tryz.prog 70 2 = some 2 := by and_intros <;> kernel_rfl
@[go_sem] theorem zt71 : ztree Tryz.prog 71 = some (.lit .nilFunc) := by kernel_rfl
@[go_sem] theorem tq71 : tyInfo Tryz.prog 71 = some (false, 1) ∧ byteTy Tryz.prog 71 = false ∧ Program.concrete Tryz.prog 71 = true ∧ strTy Tryz.prog 71 = false ∧ nilKind Tryz.prog 71 = 3 := by and_intros <;> kernel_rfl
@[go_sem] theorem zt72 : ztree Tryz.prog 72 = some (.agg [(.lit (.int .i64 0)), (.lit (.int .i64 0))]) := by kernel_rfl
@[go_sem] theorem tq72 : tyInfo Tryz.prog 72 = some (true, 2) ∧ byteTy Tryz.prog 72 = false ∧ Program.concrete Tryz.prog 72 = true ∧ strTy Tryz.prog 72 = false ∧ splaces Tryz.prog 72 = some [(0, 1), (1, 1)] ∧ fieldOff Tryz.prog 72 0 = some 0 ∧ fieldOff Tryz.prog 72 1 = some 1 := by and_intros <;> kernel_rfl
@[go_sem] theorem eq73 : eqTop Tryz.prog 73 = some (.agg [.int, .int]) := by kernel_rfl
@[go_sem] theorem zt73 : ztree Tryz.prog 73 = some (.agg [(.lit (.int .i64 0)), (.lit (.int .i64 0))]) := by kernel_rfl
@[go_sem] theorem tq73 : tyInfo Tryz.prog 73 = some (true, 2) ∧ byteTy Tryz.prog 73 = false ∧ Program.concrete Tryz.prog 73 = true ∧ strTy Tryz.prog 73 = false ∧ splaces Tryz.prog 73 = some [(0, 1), (1, 1)] ∧ fieldOff Tryz.prog 73 0 = some 0 ∧ fieldOff Tryz.prog 73 1 = some 1 := by and_intros <;> kernel_rfl
@[go_sem] theorem zt74 : ztree Tryz.prog 74 = some (.lit .nilFunc) := by kernel_rfl
@[go_sem] theorem tq74 : tyInfo Tryz.prog 74 = some (false, 1) ∧ byteTy Tryz.prog 74 = false ∧ Program.concrete Tryz.prog 74 = true ∧ strTy Tryz.prog 74 = false ∧ nilKind Tryz.prog 74 = 3 := by and_intros <;> kernel_rfl
@[go_sem] theorem zt75 : ztree Tryz.prog 75 = some (.lit .nilFunc) := by kernel_rfl
@[go_sem] theorem tq75 : tyInfo Tryz.prog 75 = some (false, 1) ∧ byteTy Tryz.prog 75 = false ∧ Program.concrete Tryz.prog 75 = true ∧ strTy Tryz.prog 75 = false ∧ nilKind Tryz.prog 75 = 3 := by and_intros <;> kernel_rfl
@[go_sem] theorem zt76 : ztree Tryz.prog 76 = some (.lit .nilFunc) := by kernel_rfl
@[go_sem] theorem tq76 : tyInfo Tryz.prog 76 = some (false, 1) ∧ byteTy Tryz.prog 76 = false ∧ Program.concrete Tryz.prog 76 = true ∧ strTy Tryz.prog 76 = false ∧ nilKind Tryz.prog 76 = 3 := by and_intros <;> kernel_rfl
@[go_sem] theorem zt77 : ztree Tryz.prog 77 = some (.lit .nilFunc) := by kernel_rfl
@[go_sem] theorem tq77 : tyInfo Tryz.prog 77 = some (false, 1) ∧ byteTy Tryz.prog 77 = false ∧ Program.concrete Tryz.prog 77 = true ∧ strTy Tryz.prog 77 = false ∧ nilKind Tryz.prog 77 = 3 := by and_intros <;> kernel_rfl
@[go_sem] theorem zt78 : ztree Tryz.prog 78 = some (.agg [(.lit (.int .i64 0)), (.agg ((List.replicate 32 (0 : UInt8)).map byteAV)), .nils]) := by kernel_rfl
@[go_sem] theorem tq78 : tyInfo Tryz.prog 78 = some (true, 34) ∧ byteTy Tryz.prog 78 = false ∧ Program.concrete Tryz.prog 78 = true ∧ strTy Tryz.prog 78 = false ∧ splaces Tryz.prog 78 = some [(0, 1), (1, 32), (33, 1)] ∧ fieldOff Tryz.prog 78 0 = some 0 ∧ fieldOff Tryz.prog 78 1 = some 1 ∧ fieldOff Tryz.prog 78 2 = some 33 := by and_intros <;> kernel_rfl
@[go_sem] theorem zt79 : ztree Tryz.prog 79 = some (.agg [(.lit (.int .i64 0)), (.agg ((List.replicate 32 (0 : UInt8)).map byteAV)), .nils]) := by kernel_rfl
@[go_sem] theorem tq79 : tyInfo Tryz.prog 79 = some (true, 34) ∧ byteTy Tryz.prog 79 = false ∧ Program.concrete Tryz.prog 79 = true ∧ strTy Tryz.prog 79 = false ∧ splaces Tryz.prog 79 = some [(0, 1), (1, 32), (33, 1)] ∧ fieldOff Tryz.prog 79 0 = some 0 ∧ fieldOff Tryz.prog 79 1 = some 1 ∧ fieldOff Tryz.prog 79 2 = some 33 := by and_intros <;> kernel_rfl
@[go_sem] theorem zt81 : ztree Tryz.prog 81 = some (.lit .nilFunc) := by kernel_rfl
@[go_sem] theorem tq81 : tyInfo Tryz.prog 81 = some (false, 1) ∧ byteTy Tryz.prog 81 = false ∧ Program.concrete Tryz.prog 81 = true ∧ strTy Tryz.prog 81 = false ∧ nilKind Tryz.prog 81 = 3 := by and_intros <;> kernel_rfl
@[go_sem] theorem zt83 : ztree Tryz.prog 83 = some (.lit .nilFunc) := by kernel_rfl
@[go_sem] theorem tq83 : tyInfo Tryz.prog 83 = some (false, 1) ∧ byteTy Tryz.prog 83 = false ∧ Program.concrete Tryz.prog 83 = true ∧ strTy Tryz.prog 83 = false ∧ nilKind Tryz.prog 83 = 3 := by and_intros <;> kernel_rfl
@[go_sem] theorem zt84 : ztree Tryz.prog 84 = some (.lit .nilFunc) := by kernel_rfl
@[go_sem] theorem tq84 : tyInfo Tryz.prog 84 = some (false, 1) ∧ byteTy Tryz.prog 84 = false ∧ Program.concrete Tryz.prog 84 = true ∧ strTy Tryz.prog 84 = false ∧ nilKind Tryz.prog 84 = 3 := by and_intros <;> kernel_rfl
@[go_sem] theorem zt85 : ztree Tryz.prog 85 = some (.lit .nilFunc) := by kernel_rfl
@[go_sem] theorem tq85 : tyInfo Tryz.prog 85 = some (false, 1) ∧ byteTy Tryz.prog 85 = false ∧ Program.concrete Tryz.prog 85 = true ∧ strTy Tryz.prog 85 = false ∧ nilKind Tryz.prog 85 = 3 := by and_intros <;> kernel_rfl
@[go_sem] theorem zt86 : ztree Tryz.prog 86 = some (.lit .nilFunc) := by kernel_rfl
@[go_sem] theorem tq86 : tyInfo Tryz.prog 86 = some (false, 1) ∧ byteTy Tryz.prog 86 = false ∧ Program.concrete Tryz.prog 86 = true ∧ strTy Tryz.prog 86 = false ∧ nilKind Tryz.prog 86 = 3 := by and_intros <;> kernel_rfl
@[go_sem] theorem zt87 : ztree Tryz.prog 87 = some (.lit .nilFunc) := by kernel_rfl
@[go_sem] theorem tq87 : tyInfo Tryz.prog 87 = some (false, 1) ∧ byteTy Tryz.prog 87 = false ∧ Program.concrete Tryz.prog 87 = true ∧ strTy Tryz.prog 87 = false ∧ nilKind Tryz.prog 87 = 3 := by and_intros <;> kernel_rfl
@[go_sem] theorem zt88 : ztree Tryz.prog 88 = some (.lit .nilFunc) := by kernel_rfl
@[go_sem] theorem tq88 : tyInfo Tryz.prog 88 = some (false, 1) ∧ byteTy Tryz.prog 88 = false ∧ Program.concrete Tryz.prog 88 = true ∧ strTy Tryz.prog 88 = false ∧ nilKind Tryz.prog 88 = 3 := by and_intros <;> kernel_rfl
@[go_sem] theorem it89 : intTy Tryz.prog 89 = some .u16 := by kernel_rfl
@[go_sem] theorem zt89 : ztree Tryz.prog 89 = some (.lit (.int .u16 0)) := by kernel_rfl
@[go_sem] theorem tq89 : tyInfo Tryz.prog 89 = some (false, 1) ∧ byteTy Tryz.prog 89 = false ∧ Program.concrete Tryz.prog 89 = true ∧ strTy Tryz.prog 89 = false := by and_intros <;> kernel_rfl
@[go_sem] theorem zt90 : ztree Tryz.prog 90 = some (.lit .nilFunc) := by kernel_rfl
@[go_sem] theorem tq90 : tyInfo Tryz.prog 90 = some (false, 1) ∧ byteTy Tryz.prog 90 = false ∧ Program.concrete Tryz.prog 90 = true ∧ strTy Tryz.prog 90 = false ∧ nilKind Tryz.prog 90 = 3 := by and_intros <;> kernel_rfl
@[go_sem] theorem sl91 : sliceTy Tryz.prog 91 = some 57 := by kernel_rfl
@[go_sem] theorem si91 : sliceInfo Tryz.prog 91 = some (57, 1, 24, .nils) := by kernel_rfl
@[go_sem] theorem zt91 : ztree Tryz.prog 91 = some .nils := by kernel_rfl
@[go_sem] theorem tq91 : tyInfo Tryz.prog 91 = some (false, 1) ∧ byteTy Tryz.prog 91 = false ∧ Program.concrete Tryz.prog 91 = true ∧ strTy Tryz.prog 91 = false ∧ nilKind Tryz.prog 91 = 1 := by and_intros <;> kernel_rfl
@[go_sem] theorem zt93 : ztree Tryz.prog 93 = some (.lit .nilFunc) := by kernel_rfl
@[go_sem] theorem tq93 : tyInfo Tryz.prog 93 = some (false, 1) ∧ byteTy Tryz.prog 93 = false ∧ Program.concrete Tryz.prog 93 = true ∧ strTy Tryz.prog 93 = false ∧ nilKind Tryz.prog 93 = 3 := by and_intros <;> kernel_rfl
@[go_sem] theorem zt94 : ztree Tryz.prog 94 = some (.lit .nilFunc) := by kernel_rfl
@[go_sem] theorem tq94 : tyInfo Tryz.prog 94 = some (false, 1) ∧ byteTy Tryz.prog 94 = false ∧ Program.concrete Tryz.prog 94 = true ∧ strTy Tryz.prog 94 = false ∧ nilKind Tryz.prog 94 = 3 := by and_intros <;> kernel_rfl
@[go_sem] theorem zt95 : ztree Tryz.prog 95 = some (.lit .nilFunc) := by kernel_rfl
@[go_sem] theorem tq95 : tyInfo Tryz.prog 95 = some (false, 1) ∧ byteTy Tryz.prog 95 = false ∧ Program.concrete Tryz.prog 95 = true ∧ strTy Tryz.prog 95 = false ∧ nilKind Tryz.prog 95 = 3 := by and_intros <;> kernel_rfl
@[go_sem] theorem zt96 : ztree Tryz.prog 96 = some (.lit .nilFunc) := by kernel_rfl
@[go_sem] theorem tq96 : tyInfo Tryz.prog 96 = some (false, 1) ∧ byteTy Tryz.prog 96 = false ∧ Program.concrete Tryz.prog 96 = true ∧ strTy Tryz.prog 96 = false ∧ nilKind Tryz.prog 96 = 3 := by and_intros <;> kernel_rfl
@[go_sem] theorem sl97 : sliceTy Tryz.prog 97 = some 44 := by kernel_rfl
@[go_sem] theorem si97 : sliceInfo Tryz.prog 97 = some (44, 35, 72, (.agg [(.lit (.int .i64 0)), (.lit (.int .i64 0)), .nils, (.agg ((List.replicate 32 (0 : UInt8)).map byteAV))])) := by kernel_rfl
@[go_sem] theorem zt97 : ztree Tryz.prog 97 = some .nils := by kernel_rfl
@[go_sem] theorem tq97 : tyInfo Tryz.prog 97 = some (false, 1) ∧ byteTy Tryz.prog 97 = false ∧ Program.concrete Tryz.prog 97 = true ∧ strTy Tryz.prog 97 = false ∧ nilKind Tryz.prog 97 = 1 := by and_intros <;> kernel_rfl
@[go_sem] theorem sl98 : sliceTy Tryz.prog 98 = some 23 := by kernel_rfl
@[go_sem] theorem si98 : sliceInfo Tryz.prog 98 = some (23, 2, 16, (.agg [(.lit (.int .i64 0)), (.lit (.int .i64 0))])) := by kernel_rfl
@[go_sem] theorem zt98 : ztree Tryz.prog 98 = some .nils := by kernel_rfl
@[go_sem] theorem tq98 : tyInfo Tryz.prog 98 = some (false, 1) ∧ byteTy Tryz.prog 98 = false ∧ Program.concrete Tryz.prog 98 = true ∧ strTy Tryz.prog 98 = false ∧ nilKind Tryz.prog 98 = 1 := by and_intros <;> kernel_rfl
@[go_sem] theorem zt100 : ztree Tryz.prog 100 = some (.lit .nilFunc) := by kernel_rfl
@[go_sem] theorem tq100 : tyInfo Tryz.prog 100 = some (false, 1) ∧ byteTy Tryz.prog 100 = false ∧ Program.concrete Tryz.prog 100 = true ∧ strTy Tryz.prog 100 = false ∧ nilKind Tryz.prog 100 = 3 := by and_intros <;> kernel_rfl
@[go_sem] theorem zt101 : ztree Tryz.prog 101 = some (.lit .nilFunc) := by kernel_rfl
@[go_sem] theorem tq101 : tyInfo Tryz.prog 101 = some (false, 1) ∧ byteTy Tryz.prog 101 = false ∧ Program.concrete Tryz.prog 101 = true ∧ strTy Tryz.prog 101 = false ∧ nilKind Tryz.prog 101 = 3 := by and_intros <;> kernel_rfl
@[go_sem] theorem sl102 : sliceTy Tryz.prog 102 = some 9 := by kernel_rfl
@[go_sem] theorem si102 : sliceInfo Tryz.prog 102 = some (9, 1, 16, (.lit (.string ByteArray.empty))) := by kernel_rfl
@[go_sem] theorem zt102 : ztree Tryz.prog 102 = some .nils := by kernel_rfl
@[go_sem] theorem tq102 : tyInfo Tryz.prog 102 = some (false, 1) ∧ byteTy Tryz.prog 102 = false ∧ Program.concrete Tryz.prog 102 = true ∧ strTy Tryz.prog 102 = false ∧ nilKind Tryz.prog 102 = 1 := by and_intros <;> kernel_rfl
@[go_sem] theorem zt103 : ztree Tryz.prog 103 = some (.lit .nilFunc) := by kernel_rfl
@[go_sem] theorem tq103 : tyInfo Tryz.prog 103 = some (false, 1) ∧ byteTy Tryz.prog 103 = false ∧ Program.concrete Tryz.prog 103 = true ∧ strTy Tryz.prog 103 = false ∧ nilKind Tryz.prog 103 = 3 := by and_intros <;> kernel_rfl
@[go_sem] theorem zt104 : ztree Tryz.prog 104 = some (.lit .nilFunc) := by kernel_rfl
@[go_sem] theorem tq104 : tyInfo Tryz.prog 104 = some (false, 1) ∧ byteTy Tryz.prog 104 = false ∧ Program.concrete Tryz.prog 104 = true ∧ strTy Tryz.prog 104 = false ∧ nilKind Tryz.prog 104 = 3 := by and_intros <;> kernel_rfl
@[go_sem] theorem zt105 : ztree Tryz.prog 105 = some (.lit .nilFunc) := by kernel_rfl
@[go_sem] theorem tq105 : tyInfo Tryz.prog 105 = some (false, 1) ∧ byteTy Tryz.prog 105 = false ∧ Program.concrete Tryz.prog 105 = true ∧ strTy Tryz.prog 105 = false ∧ nilKind Tryz.prog 105 = 3 := by and_intros <;> kernel_rfl
@[go_sem] theorem zt106 : ztree Tryz.prog 106 = some (.lit .nilFunc) := by kernel_rfl
@[go_sem] theorem tq106 : tyInfo Tryz.prog 106 = some (false, 1) ∧ byteTy Tryz.prog 106 = false ∧ Program.concrete Tryz.prog 106 = true ∧ strTy Tryz.prog 106 = false ∧ nilKind Tryz.prog 106 = 3 := by and_intros <;> kernel_rfl
@[go_sem] theorem zt107 : ztree Tryz.prog 107 = some (.lit .nilFunc) := by kernel_rfl
@[go_sem] theorem tq107 : tyInfo Tryz.prog 107 = some (false, 1) ∧ byteTy Tryz.prog 107 = false ∧ Program.concrete Tryz.prog 107 = true ∧ strTy Tryz.prog 107 = false ∧ nilKind Tryz.prog 107 = 3 := by and_intros <;> kernel_rfl
@[go_sem] theorem it108 : intTy Tryz.prog 108 = some .u64 := by kernel_rfl
@[go_sem] theorem zt108 : ztree Tryz.prog 108 = some (.lit (.int .u64 0)) := by kernel_rfl
@[go_sem] theorem tq108 : tyInfo Tryz.prog 108 = some (false, 1) ∧ byteTy Tryz.prog 108 = false ∧ Program.concrete Tryz.prog 108 = true ∧ strTy Tryz.prog 108 = false := by and_intros <;> kernel_rfl
@[go_sem] theorem zt109 : ztree Tryz.prog 109 = some (.agg [(.lit (.int .i64 0)), (.lit (.int .u64 0)), (.lit (.int .i64 0)), (.lit (.int .i64 0)), (.lit (.string ByteArray.empty)), (.lit (.int .i64 0))]) := by kernel_rfl
@[go_sem] theorem tq109 : tyInfo Tryz.prog 109 = some (true, 6) ∧ byteTy Tryz.prog 109 = false ∧ Program.concrete Tryz.prog 109 = true ∧ strTy Tryz.prog 109 = false ∧ splaces Tryz.prog 109 = some [(0, 1), (1, 1), (2, 1), (3, 1), (4, 1), (5, 1)] ∧ fieldOff Tryz.prog 109 0 = some 0 ∧ fieldOff Tryz.prog 109 1 = some 1 ∧ fieldOff Tryz.prog 109 2 = some 2 ∧ fieldOff Tryz.prog 109 3 = some 3 ∧ fieldOff Tryz.prog 109 4 = some 4 ∧ fieldOff Tryz.prog 109 5 = some 5 := by and_intros <;> kernel_rfl
@[go_sem] theorem eq110 : eqTop Tryz.prog 110 = some (.agg [.int, .int, .int, .int, .str, .int]) := by kernel_rfl
@[go_sem] theorem zt110 : ztree Tryz.prog 110 = some (.agg [(.lit (.int .i64 0)), (.lit (.int .u64 0)), (.lit (.int .i64 0)), (.lit (.int .i64 0)), (.lit (.string ByteArray.empty)), (.lit (.int .i64 0))]) := by kernel_rfl
@[go_sem] theorem tq110 : tyInfo Tryz.prog 110 = some (true, 6) ∧ byteTy Tryz.prog 110 = false ∧ Program.concrete Tryz.prog 110 = true ∧ strTy Tryz.prog 110 = false ∧ splaces Tryz.prog 110 = some [(0, 1), (1, 1), (2, 1), (3, 1), (4, 1), (5, 1)] ∧ fieldOff Tryz.prog 110 0 = some 0 ∧ fieldOff Tryz.prog 110 1 = some 1 ∧ fieldOff Tryz.prog 110 2 = some 2 ∧ fieldOff Tryz.prog 110 3 = some 3 ∧ fieldOff Tryz.prog 110 4 = some 4 ∧ fieldOff Tryz.prog 110 5 = some 5 := by and_intros <;> kernel_rfl
@[go_sem] theorem zt111 : ztree Tryz.prog 111 = some (.lit .nilFunc) := by kernel_rfl
@[go_sem] theorem tq111 : tyInfo Tryz.prog 111 = some (false, 1) ∧ byteTy Tryz.prog 111 = false ∧ Program.concrete Tryz.prog 111 = true ∧ strTy Tryz.prog 111 = false ∧ nilKind Tryz.prog 111 = 3 := by and_intros <;> kernel_rfl
@[go_sem] theorem zt113 : ztree Tryz.prog 113 = some (.lit .nilFunc) := by kernel_rfl
@[go_sem] theorem tq113 : tyInfo Tryz.prog 113 = some (false, 1) ∧ byteTy Tryz.prog 113 = false ∧ Program.concrete Tryz.prog 113 = true ∧ strTy Tryz.prog 113 = false ∧ nilKind Tryz.prog 113 = 3 := by and_intros <;> kernel_rfl
@[go_sem] theorem zt114 : ztree Tryz.prog 114 = some (.lit .nilFunc) := by kernel_rfl
@[go_sem] theorem tq114 : tyInfo Tryz.prog 114 = some (false, 1) ∧ byteTy Tryz.prog 114 = false ∧ Program.concrete Tryz.prog 114 = true ∧ strTy Tryz.prog 114 = false ∧ nilKind Tryz.prog 114 = 3 := by and_intros <;> kernel_rfl
@[go_sem] theorem zt115 : ztree Tryz.prog 115 = some (.lit .nilFunc) := by kernel_rfl
@[go_sem] theorem tq115 : tyInfo Tryz.prog 115 = some (false, 1) ∧ byteTy Tryz.prog 115 = false ∧ Program.concrete Tryz.prog 115 = true ∧ strTy Tryz.prog 115 = false ∧ nilKind Tryz.prog 115 = 3 := by and_intros <;> kernel_rfl
@[go_sem] theorem zt116 : ztree Tryz.prog 116 = some (.lit .nilFunc) := by kernel_rfl
@[go_sem] theorem tq116 : tyInfo Tryz.prog 116 = some (false, 1) ∧ byteTy Tryz.prog 116 = false ∧ Program.concrete Tryz.prog 116 = true ∧ strTy Tryz.prog 116 = false ∧ nilKind Tryz.prog 116 = 3 := by and_intros <;> kernel_rfl
@[go_sem] theorem zt117 : ztree Tryz.prog 117 = some (.lit .nilFunc) := by kernel_rfl
@[go_sem] theorem tq117 : tyInfo Tryz.prog 117 = some (false, 1) ∧ byteTy Tryz.prog 117 = false ∧ Program.concrete Tryz.prog 117 = true ∧ strTy Tryz.prog 117 = false ∧ nilKind Tryz.prog 117 = 3 := by and_intros <;> kernel_rfl
@[go_sem] theorem zt118 : ztree Tryz.prog 118 = some (.lit .nilFunc) := by kernel_rfl
@[go_sem] theorem tq118 : tyInfo Tryz.prog 118 = some (false, 1) ∧ byteTy Tryz.prog 118 = false ∧ Program.concrete Tryz.prog 118 = true ∧ strTy Tryz.prog 118 = false ∧ nilKind Tryz.prog 118 = 3 := by and_intros <;> kernel_rfl
@[go_sem] theorem zt119 : ztree Tryz.prog 119 = some (.agg [(.lit (.bool false)), (.agg [(.lit (.int .i64 0)), (.lit (.int .u64 0)), (.lit (.int .i64 0)), (.lit (.int .i64 0)), (.lit (.string ByteArray.empty)), (.lit (.int .i64 0))]), (.lit (.int .i64 0)), .nils, .nils]) := by kernel_rfl
@[go_sem] theorem tq119 : tyInfo Tryz.prog 119 = some (true, 10) ∧ byteTy Tryz.prog 119 = false ∧ Program.concrete Tryz.prog 119 = true ∧ strTy Tryz.prog 119 = false ∧ splaces Tryz.prog 119 = some [(0, 1), (1, 6), (7, 1), (8, 1), (9, 1)] ∧ fieldOff Tryz.prog 119 0 = some 0 ∧ fieldOff Tryz.prog 119 1 = some 1 ∧ fieldOff Tryz.prog 119 2 = some 7 ∧ fieldOff Tryz.prog 119 3 = some 8 ∧ fieldOff Tryz.prog 119 4 = some 9 := by and_intros <;> kernel_rfl
@[go_sem] theorem zt120 : ztree Tryz.prog 120 = some (.agg [(.lit (.bool false)), (.agg [(.lit (.int .i64 0)), (.lit (.int .u64 0)), (.lit (.int .i64 0)), (.lit (.int .i64 0)), (.lit (.string ByteArray.empty)), (.lit (.int .i64 0))]), (.lit (.int .i64 0)), .nils, .nils]) := by kernel_rfl
@[go_sem] theorem tq120 : tyInfo Tryz.prog 120 = some (true, 10) ∧ byteTy Tryz.prog 120 = false ∧ Program.concrete Tryz.prog 120 = true ∧ strTy Tryz.prog 120 = false ∧ splaces Tryz.prog 120 = some [(0, 1), (1, 6), (7, 1), (8, 1), (9, 1)] ∧ fieldOff Tryz.prog 120 0 = some 0 ∧ fieldOff Tryz.prog 120 1 = some 1 ∧ fieldOff Tryz.prog 120 2 = some 7 ∧ fieldOff Tryz.prog 120 3 = some 8 ∧ fieldOff Tryz.prog 120 4 = some 9 := by and_intros <;> kernel_rfl
@[go_sem] theorem zt121 : ztree Tryz.prog 121 = some (.lit .nilFunc) := by kernel_rfl
@[go_sem] theorem tq121 : tyInfo Tryz.prog 121 = some (false, 1) ∧ byteTy Tryz.prog 121 = false ∧ Program.concrete Tryz.prog 121 = true ∧ strTy Tryz.prog 121 = false ∧ nilKind Tryz.prog 121 = 3 := by and_intros <;> kernel_rfl
@[go_sem] theorem zt122 : ztree Tryz.prog 122 = some (.agg [.nils, (.lit (.int .i64 0))]) := by kernel_rfl
@[go_sem] theorem tq122 : tyInfo Tryz.prog 122 = some (true, 2) ∧ byteTy Tryz.prog 122 = false ∧ Program.concrete Tryz.prog 122 = true ∧ strTy Tryz.prog 122 = false ∧ splaces Tryz.prog 122 = some [(0, 1), (1, 1)] ∧ fieldOff Tryz.prog 122 0 = some 0 ∧ fieldOff Tryz.prog 122 1 = some 1 := by and_intros <;> kernel_rfl
@[go_sem] theorem zt123 : ztree Tryz.prog 123 = some (.agg [.nils, (.lit (.int .i64 0))]) := by kernel_rfl
@[go_sem] theorem tq123 : tyInfo Tryz.prog 123 = some (true, 2) ∧ byteTy Tryz.prog 123 = false ∧ Program.concrete Tryz.prog 123 = true ∧ strTy Tryz.prog 123 = false ∧ splaces Tryz.prog 123 = some [(0, 1), (1, 1)] ∧ fieldOff Tryz.prog 123 0 = some 0 ∧ fieldOff Tryz.prog 123 1 = some 1 := by and_intros <;> kernel_rfl
@[go_sem] theorem zt124 : ztree Tryz.prog 124 = some (.lit .nilFunc) := by kernel_rfl
@[go_sem] theorem tq124 : tyInfo Tryz.prog 124 = some (false, 1) ∧ byteTy Tryz.prog 124 = false ∧ Program.concrete Tryz.prog 124 = true ∧ strTy Tryz.prog 124 = false ∧ nilKind Tryz.prog 124 = 3 := by and_intros <;> kernel_rfl
@[go_sem] theorem zt125 : ztree Tryz.prog 125 = some (.lit .nilFunc) := by kernel_rfl
@[go_sem] theorem tq125 : tyInfo Tryz.prog 125 = some (false, 1) ∧ byteTy Tryz.prog 125 = false ∧ Program.concrete Tryz.prog 125 = true ∧ strTy Tryz.prog 125 = false ∧ nilKind Tryz.prog 125 = 3 := by and_intros <;> kernel_rfl
@[go_sem] theorem zt126 : ztree Tryz.prog 126 = some (.lit .nilFunc) := by kernel_rfl
@[go_sem] theorem tq126 : tyInfo Tryz.prog 126 = some (false, 1) ∧ byteTy Tryz.prog 126 = false ∧ Program.concrete Tryz.prog 126 = true ∧ strTy Tryz.prog 126 = false ∧ nilKind Tryz.prog 126 = 3 := by and_intros <;> kernel_rfl
@[go_sem] theorem zt127 : ztree Tryz.prog 127 = some (.lit .nilFunc) := by kernel_rfl
@[go_sem] theorem tq127 : tyInfo Tryz.prog 127 = some (false, 1) ∧ byteTy Tryz.prog 127 = false ∧ Program.concrete Tryz.prog 127 = true ∧ strTy Tryz.prog 127 = false ∧ nilKind Tryz.prog 127 = 3 := by and_intros <;> kernel_rfl
@[go_sem] theorem zt128 : ztree Tryz.prog 128 = some (.lit .nilFunc) := by kernel_rfl
@[go_sem] theorem tq128 : tyInfo Tryz.prog 128 = some (false, 1) ∧ byteTy Tryz.prog 128 = false ∧ Program.concrete Tryz.prog 128 = true ∧ strTy Tryz.prog 128 = false ∧ nilKind Tryz.prog 128 = 3 := by and_intros <;> kernel_rfl
@[go_sem] theorem zt129 : ztree Tryz.prog 129 = some (.lit (.pointer none)) := by kernel_rfl
@[go_sem] theorem tq129 : tyInfo Tryz.prog 129 = some (false, 1) ∧ byteTy Tryz.prog 129 = false ∧ Program.concrete Tryz.prog 129 = true ∧ strTy Tryz.prog 129 = false ∧ nilKind Tryz.prog 129 = 2 := by and_intros <;> kernel_rfl
@[go_sem] theorem zt130 : ztree Tryz.prog 130 = some (.lit .nilFunc) := by kernel_rfl
@[go_sem] theorem tq130 : tyInfo Tryz.prog 130 = some (false, 1) ∧ byteTy Tryz.prog 130 = false ∧ Program.concrete Tryz.prog 130 = true ∧ strTy Tryz.prog 130 = false ∧ nilKind Tryz.prog 130 = 3 := by and_intros <;> kernel_rfl
@[go_sem] theorem zt131 : ztree Tryz.prog 131 = some (.lit .nilFunc) := by kernel_rfl
@[go_sem] theorem tq131 : tyInfo Tryz.prog 131 = some (false, 1) ∧ byteTy Tryz.prog 131 = false ∧ Program.concrete Tryz.prog 131 = true ∧ strTy Tryz.prog 131 = false ∧ nilKind Tryz.prog 131 = 3 := by and_intros <;> kernel_rfl
@[go_sem] theorem zt133 : ztree Tryz.prog 133 = some (.lit .nilFunc) := by kernel_rfl
@[go_sem] theorem tq133 : tyInfo Tryz.prog 133 = some (false, 1) ∧ byteTy Tryz.prog 133 = false ∧ Program.concrete Tryz.prog 133 = true ∧ strTy Tryz.prog 133 = false ∧ nilKind Tryz.prog 133 = 3 := by and_intros <;> kernel_rfl
@[go_sem] theorem zt134 : ztree Tryz.prog 134 = some (.lit .nilFunc) := by kernel_rfl
@[go_sem] theorem tq134 : tyInfo Tryz.prog 134 = some (false, 1) ∧ byteTy Tryz.prog 134 = false ∧ Program.concrete Tryz.prog 134 = true ∧ strTy Tryz.prog 134 = false ∧ nilKind Tryz.prog 134 = 3 := by and_intros <;> kernel_rfl
@[go_sem] theorem zt136 : ztree Tryz.prog 136 = some (.lit .nilFunc) := by kernel_rfl
@[go_sem] theorem tq136 : tyInfo Tryz.prog 136 = some (false, 1) ∧ byteTy Tryz.prog 136 = false ∧ Program.concrete Tryz.prog 136 = true ∧ strTy Tryz.prog 136 = false ∧ nilKind Tryz.prog 136 = 3 := by and_intros <;> kernel_rfl
@[go_sem] theorem zt137 : ztree Tryz.prog 137 = some (.lit .nilFunc) := by kernel_rfl
@[go_sem] theorem tq137 : tyInfo Tryz.prog 137 = some (false, 1) ∧ byteTy Tryz.prog 137 = false ∧ Program.concrete Tryz.prog 137 = true ∧ strTy Tryz.prog 137 = false ∧ nilKind Tryz.prog 137 = 3 := by and_intros <;> kernel_rfl
@[go_sem] theorem zt138 : ztree Tryz.prog 138 = some (.lit .nilFunc) := by kernel_rfl
@[go_sem] theorem tq138 : tyInfo Tryz.prog 138 = some (false, 1) ∧ byteTy Tryz.prog 138 = false ∧ Program.concrete Tryz.prog 138 = true ∧ strTy Tryz.prog 138 = false ∧ nilKind Tryz.prog 138 = 3 := by and_intros <;> kernel_rfl
@[go_sem] theorem zt139 : ztree Tryz.prog 139 = some (.lit .nilFunc) := by kernel_rfl
@[go_sem] theorem tq139 : tyInfo Tryz.prog 139 = some (false, 1) ∧ byteTy Tryz.prog 139 = false ∧ Program.concrete Tryz.prog 139 = true ∧ strTy Tryz.prog 139 = false ∧ nilKind Tryz.prog 139 = 3 := by and_intros <;> kernel_rfl
@[go_sem] theorem zt141 : ztree Tryz.prog 141 = some (.lit .nilFunc) := by kernel_rfl
@[go_sem] theorem tq141 : tyInfo Tryz.prog 141 = some (false, 1) ∧ byteTy Tryz.prog 141 = false ∧ Program.concrete Tryz.prog 141 = true ∧ strTy Tryz.prog 141 = false ∧ nilKind Tryz.prog 141 = 3 := by and_intros <;> kernel_rfl
@[go_sem] theorem zt142 : ztree Tryz.prog 142 = some (.lit .nilFunc) := by kernel_rfl
@[go_sem] theorem tq142 : tyInfo Tryz.prog 142 = some (false, 1) ∧ byteTy Tryz.prog 142 = false ∧ Program.concrete Tryz.prog 142 = true ∧ strTy Tryz.prog 142 = false ∧ nilKind Tryz.prog 142 = 3 := by and_intros <;> kernel_rfl
@[go_sem] theorem zt143 : ztree Tryz.prog 143 = some (.lit .nilFunc) := by kernel_rfl
@[go_sem] theorem tq143 : tyInfo Tryz.prog 143 = some (false, 1) ∧ byteTy Tryz.prog 143 = false ∧ Program.concrete Tryz.prog 143 = true ∧ strTy Tryz.prog 143 = false ∧ nilKind Tryz.prog 143 = 3 := by and_intros <;> kernel_rfl
@[go_sem] theorem zt144 : ztree Tryz.prog 144 = some (.lit .nilFunc) := by kernel_rfl
@[go_sem] theorem tq144 : tyInfo Tryz.prog 144 = some (false, 1) ∧ byteTy Tryz.prog 144 = false ∧ Program.concrete Tryz.prog 144 = true ∧ strTy Tryz.prog 144 = false ∧ nilKind Tryz.prog 144 = 3 := by and_intros <;> kernel_rfl
@[go_sem] theorem zt145 : ztree Tryz.prog 145 = some (.lit .nilFunc) := by kernel_rfl
@[go_sem] theorem tq145 : tyInfo Tryz.prog 145 = some (false, 1) ∧ byteTy Tryz.prog 145 = false ∧ Program.concrete Tryz.prog 145 = true ∧ strTy Tryz.prog 145 = false ∧ nilKind Tryz.prog 145 = 3 := by and_intros <;> kernel_rfl
@[go_sem] theorem zt147 : ztree Tryz.prog 147 = some (.lit .nilFunc) := by kernel_rfl
@[go_sem] theorem tq147 : tyInfo Tryz.prog 147 = some (false, 1) ∧ byteTy Tryz.prog 147 = false ∧ Program.concrete Tryz.prog 147 = true ∧ strTy Tryz.prog 147 = false ∧ nilKind Tryz.prog 147 = 3 := by and_intros <;> kernel_rfl
@[go_sem] theorem zt148 : ztree Tryz.prog 148 = some (.agg [(.lit (.string ByteArray.empty)), (.lit (.int .i64 0))]) := by kernel_rfl
@[go_sem] theorem tq148 : tyInfo Tryz.prog 148 = some (true, 2) ∧ byteTy Tryz.prog 148 = false ∧ Program.concrete Tryz.prog 148 = true ∧ strTy Tryz.prog 148 = false ∧ splaces Tryz.prog 148 = some [(0, 1), (1, 1)] ∧ fieldOff Tryz.prog 148 0 = some 0 ∧ fieldOff Tryz.prog 148 1 = some 1 := by and_intros <;> kernel_rfl
@[go_sem] theorem eq149 : eqTop Tryz.prog 149 = some (.agg [.str, .int]) := by kernel_rfl
@[go_sem] theorem zt149 : ztree Tryz.prog 149 = some (.agg [(.lit (.string ByteArray.empty)), (.lit (.int .i64 0))]) := by kernel_rfl
@[go_sem] theorem tq149 : tyInfo Tryz.prog 149 = some (true, 2) ∧ byteTy Tryz.prog 149 = false ∧ Program.concrete Tryz.prog 149 = true ∧ strTy Tryz.prog 149 = false ∧ splaces Tryz.prog 149 = some [(0, 1), (1, 1)] ∧ fieldOff Tryz.prog 149 0 = some 0 ∧ fieldOff Tryz.prog 149 1 = some 1 := by and_intros <;> kernel_rfl
@[go_sem] theorem zt151 : ztree Tryz.prog 151 = some (.lit .nilFunc) := by kernel_rfl
@[go_sem] theorem tq151 : tyInfo Tryz.prog 151 = some (false, 1) ∧ byteTy Tryz.prog 151 = false ∧ Program.concrete Tryz.prog 151 = true ∧ strTy Tryz.prog 151 = false ∧ nilKind Tryz.prog 151 = 3 := by and_intros <;> kernel_rfl
@[go_sem] theorem zt152 : ztree Tryz.prog 152 = some (.lit .nilFunc) := by kernel_rfl
@[go_sem] theorem tq152 : tyInfo Tryz.prog 152 = some (false, 1) ∧ byteTy Tryz.prog 152 = false ∧ Program.concrete Tryz.prog 152 = true ∧ strTy Tryz.prog 152 = false ∧ nilKind Tryz.prog 152 = 3 := by and_intros <;> kernel_rfl
@[go_sem] theorem zt153 : ztree Tryz.prog 153 = some (.lit .nilFunc) := by kernel_rfl
@[go_sem] theorem tq153 : tyInfo Tryz.prog 153 = some (false, 1) ∧ byteTy Tryz.prog 153 = false ∧ Program.concrete Tryz.prog 153 = true ∧ strTy Tryz.prog 153 = false ∧ nilKind Tryz.prog 153 = 3 := by and_intros <;> kernel_rfl
@[go_sem] theorem zt154 : ztree Tryz.prog 154 = some (.lit .nilFunc) := by kernel_rfl
@[go_sem] theorem tq154 : tyInfo Tryz.prog 154 = some (false, 1) ∧ byteTy Tryz.prog 154 = false ∧ Program.concrete Tryz.prog 154 = true ∧ strTy Tryz.prog 154 = false ∧ nilKind Tryz.prog 154 = 3 := by and_intros <;> kernel_rfl
@[go_sem] theorem zt155 : ztree Tryz.prog 155 = some (.lit .nilFunc) := by kernel_rfl
@[go_sem] theorem tq155 : tyInfo Tryz.prog 155 = some (false, 1) ∧ byteTy Tryz.prog 155 = false ∧ Program.concrete Tryz.prog 155 = true ∧ strTy Tryz.prog 155 = false ∧ nilKind Tryz.prog 155 = 3 := by and_intros <;> kernel_rfl
@[go_sem] theorem zt156 : ztree Tryz.prog 156 = some (.lit .nilFunc) := by kernel_rfl
@[go_sem] theorem tq156 : tyInfo Tryz.prog 156 = some (false, 1) ∧ byteTy Tryz.prog 156 = false ∧ Program.concrete Tryz.prog 156 = true ∧ strTy Tryz.prog 156 = false ∧ nilKind Tryz.prog 156 = 3 := by and_intros <;> kernel_rfl
@[go_sem] theorem zt157 : ztree Tryz.prog 157 = some (.lit .nilFunc) := by kernel_rfl
@[go_sem] theorem tq157 : tyInfo Tryz.prog 157 = some (false, 1) ∧ byteTy Tryz.prog 157 = false ∧ Program.concrete Tryz.prog 157 = true ∧ strTy Tryz.prog 157 = false ∧ nilKind Tryz.prog 157 = 3 := by and_intros <;> kernel_rfl
@[go_sem] theorem zt158 : ztree Tryz.prog 158 = some (.lit .nilFunc) := by kernel_rfl
@[go_sem] theorem tq158 : tyInfo Tryz.prog 158 = some (false, 1) ∧ byteTy Tryz.prog 158 = false ∧ Program.concrete Tryz.prog 158 = true ∧ strTy Tryz.prog 158 = false ∧ nilKind Tryz.prog 158 = 3 := by and_intros <;> kernel_rfl
@[go_sem] theorem zt159 : ztree Tryz.prog 159 = some (.agg [(.agg ((List.replicate 32 (0 : UInt8)).map byteAV)), .nils, (.agg ((List.replicate 32 (0 : UInt8)).map byteAV))]) := by kernel_rfl
@[go_sem] theorem tq159 : tyInfo Tryz.prog 159 = some (true, 65) ∧ byteTy Tryz.prog 159 = false ∧ Program.concrete Tryz.prog 159 = true ∧ strTy Tryz.prog 159 = false ∧ splaces Tryz.prog 159 = some [(0, 32), (32, 1), (33, 32)] ∧ fieldOff Tryz.prog 159 0 = some 0 ∧ fieldOff Tryz.prog 159 1 = some 32 ∧ fieldOff Tryz.prog 159 2 = some 33 := by and_intros <;> kernel_rfl
@[go_sem] theorem zt160 : ztree Tryz.prog 160 = some (.agg [(.agg ((List.replicate 32 (0 : UInt8)).map byteAV)), .nils, (.agg ((List.replicate 32 (0 : UInt8)).map byteAV))]) := by kernel_rfl
@[go_sem] theorem tq160 : tyInfo Tryz.prog 160 = some (true, 65) ∧ byteTy Tryz.prog 160 = false ∧ Program.concrete Tryz.prog 160 = true ∧ strTy Tryz.prog 160 = false ∧ splaces Tryz.prog 160 = some [(0, 32), (32, 1), (33, 32)] ∧ fieldOff Tryz.prog 160 0 = some 0 ∧ fieldOff Tryz.prog 160 1 = some 32 ∧ fieldOff Tryz.prog 160 2 = some 33 := by and_intros <;> kernel_rfl
@[go_sem] theorem zt161 : ztree Tryz.prog 161 = some (.agg [(.agg ((List.replicate 32 (0 : UInt8)).map byteAV)), (.lit (.int .i64 0)), .nils, .nils]) := by kernel_rfl
@[go_sem] theorem tq161 : tyInfo Tryz.prog 161 = some (true, 35) ∧ byteTy Tryz.prog 161 = false ∧ Program.concrete Tryz.prog 161 = true ∧ strTy Tryz.prog 161 = false ∧ splaces Tryz.prog 161 = some [(0, 32), (32, 1), (33, 1), (34, 1)] ∧ fieldOff Tryz.prog 161 0 = some 0 ∧ fieldOff Tryz.prog 161 1 = some 32 ∧ fieldOff Tryz.prog 161 2 = some 33 ∧ fieldOff Tryz.prog 161 3 = some 34 := by and_intros <;> kernel_rfl
@[go_sem] theorem zt162 : ztree Tryz.prog 162 = some (.agg [(.agg ((List.replicate 32 (0 : UInt8)).map byteAV)), (.lit (.int .i64 0)), .nils, .nils]) := by kernel_rfl
@[go_sem] theorem tq162 : tyInfo Tryz.prog 162 = some (true, 35) ∧ byteTy Tryz.prog 162 = false ∧ Program.concrete Tryz.prog 162 = true ∧ strTy Tryz.prog 162 = false ∧ splaces Tryz.prog 162 = some [(0, 32), (32, 1), (33, 1), (34, 1)] ∧ fieldOff Tryz.prog 162 0 = some 0 ∧ fieldOff Tryz.prog 162 1 = some 32 ∧ fieldOff Tryz.prog 162 2 = some 33 ∧ fieldOff Tryz.prog 162 3 = some 34 := by and_intros <;> kernel_rfl
@[go_sem] theorem zt163 : ztree Tryz.prog 163 = some (.lit .nilFunc) := by kernel_rfl
@[go_sem] theorem tq163 : tyInfo Tryz.prog 163 = some (false, 1) ∧ byteTy Tryz.prog 163 = false ∧ Program.concrete Tryz.prog 163 = true ∧ strTy Tryz.prog 163 = false ∧ nilKind Tryz.prog 163 = 3 := by and_intros <;> kernel_rfl
@[go_sem] theorem zt164 : ztree Tryz.prog 164 = some (.lit (.pointer none)) := by kernel_rfl
@[go_sem] theorem tq164 : tyInfo Tryz.prog 164 = some (false, 1) ∧ byteTy Tryz.prog 164 = false ∧ Program.concrete Tryz.prog 164 = true ∧ strTy Tryz.prog 164 = false ∧ nilKind Tryz.prog 164 = 2 := by and_intros <;> kernel_rfl
@[go_sem] theorem zt165 : ztree Tryz.prog 165 = some (.agg [.nils, (.lit (.int .i64 0))]) := by kernel_rfl
@[go_sem] theorem tq165 : tyInfo Tryz.prog 165 = some (true, 2) ∧ byteTy Tryz.prog 165 = false ∧ Program.concrete Tryz.prog 165 = true ∧ strTy Tryz.prog 165 = false ∧ splaces Tryz.prog 165 = some [(0, 1), (1, 1)] ∧ fieldOff Tryz.prog 165 0 = some 0 ∧ fieldOff Tryz.prog 165 1 = some 1 := by and_intros <;> kernel_rfl
@[go_sem] theorem zt166 : ztree Tryz.prog 166 = some (.agg [.nils, (.lit (.int .i64 0))]) := by kernel_rfl
@[go_sem] theorem tq166 : tyInfo Tryz.prog 166 = some (true, 2) ∧ byteTy Tryz.prog 166 = false ∧ Program.concrete Tryz.prog 166 = true ∧ strTy Tryz.prog 166 = false ∧ splaces Tryz.prog 166 = some [(0, 1), (1, 1)] ∧ fieldOff Tryz.prog 166 0 = some 0 ∧ fieldOff Tryz.prog 166 1 = some 1 := by and_intros <;> kernel_rfl
@[go_sem] theorem zt167 : ztree Tryz.prog 167 = some (.lit (.pointer none)) := by kernel_rfl
@[go_sem] theorem tq167 : tyInfo Tryz.prog 167 = some (false, 1) ∧ byteTy Tryz.prog 167 = false ∧ Program.concrete Tryz.prog 167 = true ∧ strTy Tryz.prog 167 = false ∧ nilKind Tryz.prog 167 = 2 := by and_intros <;> kernel_rfl
@[go_sem] theorem zt168 : ztree Tryz.prog 168 = some (.agg [.nils, (.lit (.int .i64 0)), (.lit (.int .i64 0))]) := by kernel_rfl
@[go_sem] theorem tq168 : tyInfo Tryz.prog 168 = some (true, 3) ∧ byteTy Tryz.prog 168 = false ∧ Program.concrete Tryz.prog 168 = true ∧ strTy Tryz.prog 168 = false ∧ splaces Tryz.prog 168 = some [(0, 1), (1, 1), (2, 1)] ∧ fieldOff Tryz.prog 168 0 = some 0 ∧ fieldOff Tryz.prog 168 1 = some 1 ∧ fieldOff Tryz.prog 168 2 = some 2 := by and_intros <;> kernel_rfl
@[go_sem] theorem zt169 : ztree Tryz.prog 169 = some (.agg [.nils, (.lit (.int .i64 0)), (.lit (.int .i64 0))]) := by kernel_rfl
@[go_sem] theorem tq169 : tyInfo Tryz.prog 169 = some (true, 3) ∧ byteTy Tryz.prog 169 = false ∧ Program.concrete Tryz.prog 169 = true ∧ strTy Tryz.prog 169 = false ∧ splaces Tryz.prog 169 = some [(0, 1), (1, 1), (2, 1)] ∧ fieldOff Tryz.prog 169 0 = some 0 ∧ fieldOff Tryz.prog 169 1 = some 1 ∧ fieldOff Tryz.prog 169 2 = some 2 := by and_intros <;> kernel_rfl
@[go_sem] theorem zt170 : ztree Tryz.prog 170 = some (.lit .nilFunc) := by kernel_rfl
@[go_sem] theorem tq170 : tyInfo Tryz.prog 170 = some (false, 1) ∧ byteTy Tryz.prog 170 = false ∧ Program.concrete Tryz.prog 170 = true ∧ strTy Tryz.prog 170 = false ∧ nilKind Tryz.prog 170 = 3 := by and_intros <;> kernel_rfl
@[go_sem] theorem zt171 : ztree Tryz.prog 171 = some (.lit .nilFunc) := by kernel_rfl
@[go_sem] theorem tq171 : tyInfo Tryz.prog 171 = some (false, 1) ∧ byteTy Tryz.prog 171 = false ∧ Program.concrete Tryz.prog 171 = true ∧ strTy Tryz.prog 171 = false ∧ nilKind Tryz.prog 171 = 3 := by and_intros <;> kernel_rfl
@[go_sem] theorem zt172 : ztree Tryz.prog 172 = some (.lit .nilFunc) := by kernel_rfl
@[go_sem] theorem tq172 : tyInfo Tryz.prog 172 = some (false, 1) ∧ byteTy Tryz.prog 172 = false ∧ Program.concrete Tryz.prog 172 = true ∧ strTy Tryz.prog 172 = false ∧ nilKind Tryz.prog 172 = 3 := by and_intros <;> kernel_rfl
@[go_sem] theorem zt173 : ztree Tryz.prog 173 = some (.lit .nilFunc) := by kernel_rfl
@[go_sem] theorem tq173 : tyInfo Tryz.prog 173 = some (false, 1) ∧ byteTy Tryz.prog 173 = false ∧ Program.concrete Tryz.prog 173 = true ∧ strTy Tryz.prog 173 = false ∧ nilKind Tryz.prog 173 = 3 := by and_intros <;> kernel_rfl
@[go_sem] theorem zt174 : ztree Tryz.prog 174 = some (.lit .nilFunc) := by kernel_rfl
@[go_sem] theorem tq174 : tyInfo Tryz.prog 174 = some (false, 1) ∧ byteTy Tryz.prog 174 = false ∧ Program.concrete Tryz.prog 174 = true ∧ strTy Tryz.prog 174 = false ∧ nilKind Tryz.prog 174 = 3 := by and_intros <;> kernel_rfl
@[go_sem] theorem zt175 : ztree Tryz.prog 175 = some (.lit .nilFunc) := by kernel_rfl
@[go_sem] theorem tq175 : tyInfo Tryz.prog 175 = some (false, 1) ∧ byteTy Tryz.prog 175 = false ∧ Program.concrete Tryz.prog 175 = true ∧ strTy Tryz.prog 175 = false ∧ nilKind Tryz.prog 175 = 3 := by and_intros <;> kernel_rfl
@[go_sem] theorem zt176 : ztree Tryz.prog 176 = some (.agg [(.lit (.int .i64 0)), (.agg ((List.replicate 32 (0 : UInt8)).map byteAV))]) := by kernel_rfl
@[go_sem] theorem tq176 : tyInfo Tryz.prog 176 = some (true, 33) ∧ byteTy Tryz.prog 176 = false ∧ Program.concrete Tryz.prog 176 = true ∧ strTy Tryz.prog 176 = false ∧ splaces Tryz.prog 176 = some [(0, 1), (1, 32)] ∧ fieldOff Tryz.prog 176 0 = some 0 ∧ fieldOff Tryz.prog 176 1 = some 1 := by and_intros <;> kernel_rfl
@[go_sem] theorem eq177 : eqTop Tryz.prog 177 = some (.agg [.int, (.bytes 32)]) := by kernel_rfl
@[go_sem] theorem zt177 : ztree Tryz.prog 177 = some (.agg [(.lit (.int .i64 0)), (.agg ((List.replicate 32 (0 : UInt8)).map byteAV))]) := by kernel_rfl
@[go_sem] theorem tq177 : tyInfo Tryz.prog 177 = some (true, 33) ∧ byteTy Tryz.prog 177 = false ∧ Program.concrete Tryz.prog 177 = true ∧ strTy Tryz.prog 177 = false ∧ splaces Tryz.prog 177 = some [(0, 1), (1, 32)] ∧ fieldOff Tryz.prog 177 0 = some 0 ∧ fieldOff Tryz.prog 177 1 = some 1 := by and_intros <;> kernel_rfl
@[go_sem] theorem zt179 : ztree Tryz.prog 179 = some (.lit .nilFunc) := by kernel_rfl
@[go_sem] theorem tq179 : tyInfo Tryz.prog 179 = some (false, 1) ∧ byteTy Tryz.prog 179 = false ∧ Program.concrete Tryz.prog 179 = true ∧ strTy Tryz.prog 179 = false ∧ nilKind Tryz.prog 179 = 3 := by and_intros <;> kernel_rfl
@[go_sem] theorem zt180 : ztree Tryz.prog 180 = some (.lit .nilFunc) := by kernel_rfl
@[go_sem] theorem tq180 : tyInfo Tryz.prog 180 = some (false, 1) ∧ byteTy Tryz.prog 180 = false ∧ Program.concrete Tryz.prog 180 = true ∧ strTy Tryz.prog 180 = false ∧ nilKind Tryz.prog 180 = 3 := by and_intros <;> kernel_rfl
@[go_sem] theorem zt181 : ztree Tryz.prog 181 = some (.lit .nilFunc) := by kernel_rfl
@[go_sem] theorem tq181 : tyInfo Tryz.prog 181 = some (false, 1) ∧ byteTy Tryz.prog 181 = false ∧ Program.concrete Tryz.prog 181 = true ∧ strTy Tryz.prog 181 = false ∧ nilKind Tryz.prog 181 = 3 := by and_intros <;> kernel_rfl
@[go_sem] theorem zt182 : ztree Tryz.prog 182 = some (.lit .nilFunc) := by kernel_rfl
@[go_sem] theorem tq182 : tyInfo Tryz.prog 182 = some (false, 1) ∧ byteTy Tryz.prog 182 = false ∧ Program.concrete Tryz.prog 182 = true ∧ strTy Tryz.prog 182 = false ∧ nilKind Tryz.prog 182 = 3 := by and_intros <;> kernel_rfl
@[go_sem] theorem zt183 : ztree Tryz.prog 183 = some (.lit .nilFunc) := by kernel_rfl
@[go_sem] theorem tq183 : tyInfo Tryz.prog 183 = some (false, 1) ∧ byteTy Tryz.prog 183 = false ∧ Program.concrete Tryz.prog 183 = true ∧ strTy Tryz.prog 183 = false ∧ nilKind Tryz.prog 183 = 3 := by and_intros <;> kernel_rfl
@[go_sem] theorem zt184 : ztree Tryz.prog 184 = some (.lit .nilFunc) := by kernel_rfl
@[go_sem] theorem tq184 : tyInfo Tryz.prog 184 = some (false, 1) ∧ byteTy Tryz.prog 184 = false ∧ Program.concrete Tryz.prog 184 = true ∧ strTy Tryz.prog 184 = false ∧ nilKind Tryz.prog 184 = 3 := by and_intros <;> kernel_rfl
@[go_sem] theorem zt185 : ztree Tryz.prog 185 = some (.lit .nilFunc) := by kernel_rfl
@[go_sem] theorem tq185 : tyInfo Tryz.prog 185 = some (false, 1) ∧ byteTy Tryz.prog 185 = false ∧ Program.concrete Tryz.prog 185 = true ∧ strTy Tryz.prog 185 = false ∧ nilKind Tryz.prog 185 = 3 := by and_intros <;> kernel_rfl
@[go_sem] theorem zt186 : ztree Tryz.prog 186 = some (.lit .nilFunc) := by kernel_rfl
@[go_sem] theorem tq186 : tyInfo Tryz.prog 186 = some (false, 1) ∧ byteTy Tryz.prog 186 = false ∧ Program.concrete Tryz.prog 186 = true ∧ strTy Tryz.prog 186 = false ∧ nilKind Tryz.prog 186 = 3 := by and_intros <;> kernel_rfl
@[go_sem] theorem it187 : intTy Tryz.prog 187 = some .u64 := by kernel_rfl
@[go_sem] theorem zt187 : ztree Tryz.prog 187 = some (.lit (.int .u64 0)) := by kernel_rfl
@[go_sem] theorem tq187 : tyInfo Tryz.prog 187 = some (false, 1) ∧ byteTy Tryz.prog 187 = false ∧ Program.concrete Tryz.prog 187 = true ∧ strTy Tryz.prog 187 = false := by and_intros <;> kernel_rfl
@[go_sem] theorem zt188 : ztree Tryz.prog 188 = some (.lit .nilFunc) := by kernel_rfl
@[go_sem] theorem tq188 : tyInfo Tryz.prog 188 = some (false, 1) ∧ byteTy Tryz.prog 188 = false ∧ Program.concrete Tryz.prog 188 = true ∧ strTy Tryz.prog 188 = false ∧ nilKind Tryz.prog 188 = 3 := by and_intros <;> kernel_rfl
@[go_sem] theorem zt189 : ztree Tryz.prog 189 = some (.lit .nilFunc) := by kernel_rfl
@[go_sem] theorem tq189 : tyInfo Tryz.prog 189 = some (false, 1) ∧ byteTy Tryz.prog 189 = false ∧ Program.concrete Tryz.prog 189 = true ∧ strTy Tryz.prog 189 = false ∧ nilKind Tryz.prog 189 = 3 := by and_intros <;> kernel_rfl
@[go_sem] theorem zt190 : ztree Tryz.prog 190 = some (.lit .nilFunc) := by kernel_rfl
@[go_sem] theorem tq190 : tyInfo Tryz.prog 190 = some (false, 1) ∧ byteTy Tryz.prog 190 = false ∧ Program.concrete Tryz.prog 190 = true ∧ strTy Tryz.prog 190 = false ∧ nilKind Tryz.prog 190 = 3 := by and_intros <;> kernel_rfl
@[go_sem] theorem zt191 : ztree Tryz.prog 191 = some (.lit (.pointer none)) := by kernel_rfl
@[go_sem] theorem tq191 : tyInfo Tryz.prog 191 = some (false, 1) ∧ byteTy Tryz.prog 191 = false ∧ Program.concrete Tryz.prog 191 = true ∧ strTy Tryz.prog 191 = false ∧ nilKind Tryz.prog 191 = 2 := by and_intros <;> kernel_rfl
@[go_sem] theorem zt192 : ztree Tryz.prog 192 = some (.lit .nilFunc) := by kernel_rfl
@[go_sem] theorem tq192 : tyInfo Tryz.prog 192 = some (false, 1) ∧ byteTy Tryz.prog 192 = false ∧ Program.concrete Tryz.prog 192 = true ∧ strTy Tryz.prog 192 = false ∧ nilKind Tryz.prog 192 = 3 := by and_intros <;> kernel_rfl
@[go_sem] theorem zt193 : ztree Tryz.prog 193 = some (.lit .nilFunc) := by kernel_rfl
@[go_sem] theorem tq193 : tyInfo Tryz.prog 193 = some (false, 1) ∧ byteTy Tryz.prog 193 = false ∧ Program.concrete Tryz.prog 193 = true ∧ strTy Tryz.prog 193 = false ∧ nilKind Tryz.prog 193 = 3 := by and_intros <;> kernel_rfl
@[go_sem] theorem zt194 : ztree Tryz.prog 194 = some (.lit .nilFunc) := by kernel_rfl
@[go_sem] theorem tq194 : tyInfo Tryz.prog 194 = some (false, 1) ∧ byteTy Tryz.prog 194 = false ∧ Program.concrete Tryz.prog 194 = true ∧ strTy Tryz.prog 194 = false ∧ nilKind Tryz.prog 194 = 3 := by and_intros <;> kernel_rfl
@[go_sem] theorem zt195 : ztree Tryz.prog 195 = some (.lit .nilFunc) := by kernel_rfl
@[go_sem] theorem tq195 : tyInfo Tryz.prog 195 = some (false, 1) ∧ byteTy Tryz.prog 195 = false ∧ Program.concrete Tryz.prog 195 = true ∧ strTy Tryz.prog 195 = false ∧ nilKind Tryz.prog 195 = 3 := by and_intros <;> kernel_rfl
@[go_sem] theorem zt196 : ztree Tryz.prog 196 = some (.lit .nilFunc) := by kernel_rfl
@[go_sem] theorem tq196 : tyInfo Tryz.prog 196 = some (false, 1) ∧ byteTy Tryz.prog 196 = false ∧ Program.concrete Tryz.prog 196 = true ∧ strTy Tryz.prog 196 = false ∧ nilKind Tryz.prog 196 = 3 := by and_intros <;> kernel_rfl
@[go_sem] theorem zt197 : ztree Tryz.prog 197 = some (.lit .nilFunc) := by kernel_rfl
@[go_sem] theorem tq197 : tyInfo Tryz.prog 197 = some (false, 1) ∧ byteTy Tryz.prog 197 = false ∧ Program.concrete Tryz.prog 197 = true ∧ strTy Tryz.prog 197 = false ∧ nilKind Tryz.prog 197 = 3 := by and_intros <;> kernel_rfl
@[go_sem] theorem zt198 : ztree Tryz.prog 198 = some (.lit .nilFunc) := by kernel_rfl
@[go_sem] theorem tq198 : tyInfo Tryz.prog 198 = some (false, 1) ∧ byteTy Tryz.prog 198 = false ∧ Program.concrete Tryz.prog 198 = true ∧ strTy Tryz.prog 198 = false ∧ nilKind Tryz.prog 198 = 3 := by and_intros <;> kernel_rfl
@[go_sem] theorem zt199 : ztree Tryz.prog 199 = some (.lit .nilFunc) := by kernel_rfl
@[go_sem] theorem tq199 : tyInfo Tryz.prog 199 = some (false, 1) ∧ byteTy Tryz.prog 199 = false ∧ Program.concrete Tryz.prog 199 = true ∧ strTy Tryz.prog 199 = false ∧ nilKind Tryz.prog 199 = 3 := by and_intros <;> kernel_rfl
@[go_sem] theorem zt200 : ztree Tryz.prog 200 = some (.lit .nilFunc) := by kernel_rfl
@[go_sem] theorem tq200 : tyInfo Tryz.prog 200 = some (false, 1) ∧ byteTy Tryz.prog 200 = false ∧ Program.concrete Tryz.prog 200 = true ∧ strTy Tryz.prog 200 = false ∧ nilKind Tryz.prog 200 = 3 := by and_intros <;> kernel_rfl
@[go_sem] theorem zt201 : ztree Tryz.prog 201 = some (.lit .nilFunc) := by kernel_rfl
@[go_sem] theorem tq201 : tyInfo Tryz.prog 201 = some (false, 1) ∧ byteTy Tryz.prog 201 = false ∧ Program.concrete Tryz.prog 201 = true ∧ strTy Tryz.prog 201 = false ∧ nilKind Tryz.prog 201 = 3 := by and_intros <;> kernel_rfl
@[go_sem] theorem zt202 : ztree Tryz.prog 202 = some (.lit .nilFunc) := by kernel_rfl
@[go_sem] theorem tq202 : tyInfo Tryz.prog 202 = some (false, 1) ∧ byteTy Tryz.prog 202 = false ∧ Program.concrete Tryz.prog 202 = true ∧ strTy Tryz.prog 202 = false ∧ nilKind Tryz.prog 202 = 3 := by and_intros <;> kernel_rfl
@[go_sem] theorem zt203 : ztree Tryz.prog 203 = some (.lit .nilFunc) := by kernel_rfl
@[go_sem] theorem tq203 : tyInfo Tryz.prog 203 = some (false, 1) ∧ byteTy Tryz.prog 203 = false ∧ Program.concrete Tryz.prog 203 = true ∧ strTy Tryz.prog 203 = false ∧ nilKind Tryz.prog 203 = 3 := by and_intros <;> kernel_rfl
@[go_sem] theorem zt204 : ztree Tryz.prog 204 = some (.lit .nilFunc) := by kernel_rfl
@[go_sem] theorem tq204 : tyInfo Tryz.prog 204 = some (false, 1) ∧ byteTy Tryz.prog 204 = false ∧ Program.concrete Tryz.prog 204 = true ∧ strTy Tryz.prog 204 = false ∧ nilKind Tryz.prog 204 = 3 := by and_intros <;> kernel_rfl
@[go_sem] theorem zt205 : ztree Tryz.prog 205 = some (.agg [(.agg [(.lit (.bool false)), (.agg ((List.replicate 32 (0 : UInt8)).map byteAV)), (.lit (.int .i64 0)), .nils, .nils]), (.lit (.int .i64 0))]) := by kernel_rfl
@[go_sem] theorem tq205 : tyInfo Tryz.prog 205 = some (true, 37) ∧ byteTy Tryz.prog 205 = false ∧ Program.concrete Tryz.prog 205 = true ∧ strTy Tryz.prog 205 = false ∧ splaces Tryz.prog 205 = some [(0, 36), (36, 1)] ∧ fieldOff Tryz.prog 205 0 = some 0 ∧ fieldOff Tryz.prog 205 1 = some 36 := by and_intros <;> kernel_rfl
@[go_sem] theorem zt206 : ztree Tryz.prog 206 = some (.agg [(.agg [(.lit (.bool false)), (.agg ((List.replicate 32 (0 : UInt8)).map byteAV)), (.lit (.int .i64 0)), .nils, .nils]), (.lit (.int .i64 0))]) := by kernel_rfl
@[go_sem] theorem tq206 : tyInfo Tryz.prog 206 = some (true, 37) ∧ byteTy Tryz.prog 206 = false ∧ Program.concrete Tryz.prog 206 = true ∧ strTy Tryz.prog 206 = false ∧ splaces Tryz.prog 206 = some [(0, 36), (36, 1)] ∧ fieldOff Tryz.prog 206 0 = some 0 ∧ fieldOff Tryz.prog 206 1 = some 36 := by and_intros <;> kernel_rfl
@[go_sem] theorem zt207 : ztree Tryz.prog 207 = some (.lit .nilFunc) := by kernel_rfl
@[go_sem] theorem tq207 : tyInfo Tryz.prog 207 = some (false, 1) ∧ byteTy Tryz.prog 207 = false ∧ Program.concrete Tryz.prog 207 = true ∧ strTy Tryz.prog 207 = false ∧ nilKind Tryz.prog 207 = 3 := by and_intros <;> kernel_rfl
@[go_sem] theorem zt208 : ztree Tryz.prog 208 = some (.lit .nilFunc) := by kernel_rfl
@[go_sem] theorem tq208 : tyInfo Tryz.prog 208 = some (false, 1) ∧ byteTy Tryz.prog 208 = false ∧ Program.concrete Tryz.prog 208 = true ∧ strTy Tryz.prog 208 = false ∧ nilKind Tryz.prog 208 = 3 := by and_intros <;> kernel_rfl
@[go_sem] theorem zt210 : ztree Tryz.prog 210 = some (.lit .nilFunc) := by kernel_rfl
@[go_sem] theorem tq210 : tyInfo Tryz.prog 210 = some (false, 1) ∧ byteTy Tryz.prog 210 = false ∧ Program.concrete Tryz.prog 210 = true ∧ strTy Tryz.prog 210 = false ∧ nilKind Tryz.prog 210 = 3 := by and_intros <;> kernel_rfl
@[go_sem] theorem zt211 : ztree Tryz.prog 211 = some (.lit .nilFunc) := by kernel_rfl
@[go_sem] theorem tq211 : tyInfo Tryz.prog 211 = some (false, 1) ∧ byteTy Tryz.prog 211 = false ∧ Program.concrete Tryz.prog 211 = true ∧ strTy Tryz.prog 211 = false ∧ nilKind Tryz.prog 211 = 3 := by and_intros <;> kernel_rfl
@[go_sem] theorem zt212 : ztree Tryz.prog 212 = some (.lit .nilFunc) := by kernel_rfl
@[go_sem] theorem tq212 : tyInfo Tryz.prog 212 = some (false, 1) ∧ byteTy Tryz.prog 212 = false ∧ Program.concrete Tryz.prog 212 = true ∧ strTy Tryz.prog 212 = false ∧ nilKind Tryz.prog 212 = 3 := by and_intros <;> kernel_rfl
@[go_sem] theorem zt213 : ztree Tryz.prog 213 = some (.lit .nilFunc) := by kernel_rfl
@[go_sem] theorem tq213 : tyInfo Tryz.prog 213 = some (false, 1) ∧ byteTy Tryz.prog 213 = false ∧ Program.concrete Tryz.prog 213 = true ∧ strTy Tryz.prog 213 = false ∧ nilKind Tryz.prog 213 = 3 := by and_intros <;> kernel_rfl
@[go_sem] theorem zt214 : ztree Tryz.prog 214 = some (.lit .nilFunc) := by kernel_rfl
@[go_sem] theorem tq214 : tyInfo Tryz.prog 214 = some (false, 1) ∧ byteTy Tryz.prog 214 = false ∧ Program.concrete Tryz.prog 214 = true ∧ strTy Tryz.prog 214 = false ∧ nilKind Tryz.prog 214 = 3 := by and_intros <;> kernel_rfl
@[go_sem] theorem pa215 : ptrArr Tryz.prog 215 = some (8, 3, 1) := by kernel_rfl
@[go_sem] theorem ar215 : arrInfo Tryz.prog 215 = some (8, 3, 1) := by kernel_rfl
@[go_sem] theorem sp215 : splaces Tryz.prog 215 = none := by kernel_rfl
@[go_sem] theorem zt215 : ztree Tryz.prog 215 = some (.agg (List.replicate 8 (.lit (.int .i64 0)))) := by kernel_rfl
@[go_sem] theorem tq215 : tyInfo Tryz.prog 215 = some (true, 8) ∧ byteTy Tryz.prog 215 = false ∧ Program.concrete Tryz.prog 215 = true ∧ strTy Tryz.prog 215 = false := by and_intros <;> kernel_rfl
@[go_sem] theorem zt216 : ztree Tryz.prog 216 = some (.lit .nilFunc) := by kernel_rfl
@[go_sem] theorem tq216 : tyInfo Tryz.prog 216 = some (false, 1) ∧ byteTy Tryz.prog 216 = false ∧ Program.concrete Tryz.prog 216 = true ∧ strTy Tryz.prog 216 = false ∧ nilKind Tryz.prog 216 = 3 := by and_intros <;> kernel_rfl
@[go_sem] theorem zt217 : ztree Tryz.prog 217 = some (.lit .nilFunc) := by kernel_rfl
@[go_sem] theorem tq217 : tyInfo Tryz.prog 217 = some (false, 1) ∧ byteTy Tryz.prog 217 = false ∧ Program.concrete Tryz.prog 217 = true ∧ strTy Tryz.prog 217 = false ∧ nilKind Tryz.prog 217 = 3 := by and_intros <;> kernel_rfl
@[go_sem] theorem zt218 : ztree Tryz.prog 218 = some (.lit .nilFunc) := by kernel_rfl
@[go_sem] theorem tq218 : tyInfo Tryz.prog 218 = some (false, 1) ∧ byteTy Tryz.prog 218 = false ∧ Program.concrete Tryz.prog 218 = true ∧ strTy Tryz.prog 218 = false ∧ nilKind Tryz.prog 218 = 3 := by and_intros <;> kernel_rfl
@[go_sem] theorem zt219 : ztree Tryz.prog 219 = some (.lit .nilFunc) := by kernel_rfl
@[go_sem] theorem tq219 : tyInfo Tryz.prog 219 = some (false, 1) ∧ byteTy Tryz.prog 219 = false ∧ Program.concrete Tryz.prog 219 = true ∧ strTy Tryz.prog 219 = false ∧ nilKind Tryz.prog 219 = 3 := by and_intros <;> kernel_rfl
@[go_sem] theorem zt220 : ztree Tryz.prog 220 = some (.lit .nilFunc) := by kernel_rfl
@[go_sem] theorem tq220 : tyInfo Tryz.prog 220 = some (false, 1) ∧ byteTy Tryz.prog 220 = false ∧ Program.concrete Tryz.prog 220 = true ∧ strTy Tryz.prog 220 = false ∧ nilKind Tryz.prog 220 = 3 := by and_intros <;> kernel_rfl
@[go_sem] theorem zt221 : ztree Tryz.prog 221 = some (.lit .nilFunc) := by kernel_rfl
@[go_sem] theorem tq221 : tyInfo Tryz.prog 221 = some (false, 1) ∧ byteTy Tryz.prog 221 = false ∧ Program.concrete Tryz.prog 221 = true ∧ strTy Tryz.prog 221 = false ∧ nilKind Tryz.prog 221 = 3 := by and_intros <;> kernel_rfl
@[go_sem] theorem zt222 : ztree Tryz.prog 222 = some (.lit .nilFunc) := by kernel_rfl
@[go_sem] theorem tq222 : tyInfo Tryz.prog 222 = some (false, 1) ∧ byteTy Tryz.prog 222 = false ∧ Program.concrete Tryz.prog 222 = true ∧ strTy Tryz.prog 222 = false ∧ nilKind Tryz.prog 222 = 3 := by and_intros <;> kernel_rfl
@[go_sem] theorem zt224 : ztree Tryz.prog 224 = some (.lit .nilFunc) := by kernel_rfl
@[go_sem] theorem tq224 : tyInfo Tryz.prog 224 = some (false, 1) ∧ byteTy Tryz.prog 224 = false ∧ Program.concrete Tryz.prog 224 = true ∧ strTy Tryz.prog 224 = false ∧ nilKind Tryz.prog 224 = 3 := by and_intros <;> kernel_rfl
@[go_sem] theorem zt226 : ztree Tryz.prog 226 = some (.lit .nilFunc) := by kernel_rfl
@[go_sem] theorem tq226 : tyInfo Tryz.prog 226 = some (false, 1) ∧ byteTy Tryz.prog 226 = false ∧ Program.concrete Tryz.prog 226 = true ∧ strTy Tryz.prog 226 = false ∧ nilKind Tryz.prog 226 = 3 := by and_intros <;> kernel_rfl
@[go_sem] theorem zt228 : ztree Tryz.prog 228 = some (.lit .nilFunc) := by kernel_rfl
@[go_sem] theorem tq228 : tyInfo Tryz.prog 228 = some (false, 1) ∧ byteTy Tryz.prog 228 = false ∧ Program.concrete Tryz.prog 228 = true ∧ strTy Tryz.prog 228 = false ∧ nilKind Tryz.prog 228 = 3 := by and_intros <;> kernel_rfl
@[go_sem] theorem zt230 : ztree Tryz.prog 230 = some (.lit .nilFunc) := by kernel_rfl
@[go_sem] theorem tq230 : tyInfo Tryz.prog 230 = some (false, 1) ∧ byteTy Tryz.prog 230 = false ∧ Program.concrete Tryz.prog 230 = true ∧ strTy Tryz.prog 230 = false ∧ nilKind Tryz.prog 230 = 3 := by and_intros <;> kernel_rfl
@[go_sem] theorem zt231 : ztree Tryz.prog 231 = some (.lit .nilFunc) := by kernel_rfl
@[go_sem] theorem tq231 : tyInfo Tryz.prog 231 = some (false, 1) ∧ byteTy Tryz.prog 231 = false ∧ Program.concrete Tryz.prog 231 = true ∧ strTy Tryz.prog 231 = false ∧ nilKind Tryz.prog 231 = 3 := by and_intros <;> kernel_rfl
@[go_sem] theorem zt232 : ztree Tryz.prog 232 = some (.lit .nilFunc) := by kernel_rfl
@[go_sem] theorem tq232 : tyInfo Tryz.prog 232 = some (false, 1) ∧ byteTy Tryz.prog 232 = false ∧ Program.concrete Tryz.prog 232 = true ∧ strTy Tryz.prog 232 = false ∧ nilKind Tryz.prog 232 = 3 := by and_intros <;> kernel_rfl
@[go_sem] theorem zt233 : ztree Tryz.prog 233 = some (.lit .nilFunc) := by kernel_rfl
@[go_sem] theorem tq233 : tyInfo Tryz.prog 233 = some (false, 1) ∧ byteTy Tryz.prog 233 = false ∧ Program.concrete Tryz.prog 233 = true ∧ strTy Tryz.prog 233 = false ∧ nilKind Tryz.prog 233 = 3 := by and_intros <;> kernel_rfl
@[go_sem] theorem zt235 : ztree Tryz.prog 235 = some (.lit .nilFunc) := by kernel_rfl
@[go_sem] theorem tq235 : tyInfo Tryz.prog 235 = some (false, 1) ∧ byteTy Tryz.prog 235 = false ∧ Program.concrete Tryz.prog 235 = true ∧ strTy Tryz.prog 235 = false ∧ nilKind Tryz.prog 235 = 3 := by and_intros <;> kernel_rfl
@[go_sem] theorem zt236 : ztree Tryz.prog 236 = some (.lit .nilFunc) := by kernel_rfl
@[go_sem] theorem tq236 : tyInfo Tryz.prog 236 = some (false, 1) ∧ byteTy Tryz.prog 236 = false ∧ Program.concrete Tryz.prog 236 = true ∧ strTy Tryz.prog 236 = false ∧ nilKind Tryz.prog 236 = 3 := by and_intros <;> kernel_rfl
@[go_sem] theorem zt237 : ztree Tryz.prog 237 = some (.lit .nilFunc) := by kernel_rfl
@[go_sem] theorem tq237 : tyInfo Tryz.prog 237 = some (false, 1) ∧ byteTy Tryz.prog 237 = false ∧ Program.concrete Tryz.prog 237 = true ∧ strTy Tryz.prog 237 = false ∧ nilKind Tryz.prog 237 = 3 := by and_intros <;> kernel_rfl
@[go_sem] theorem zt238 : ztree Tryz.prog 238 = some (.lit .nilFunc) := by kernel_rfl
@[go_sem] theorem tq238 : tyInfo Tryz.prog 238 = some (false, 1) ∧ byteTy Tryz.prog 238 = false ∧ Program.concrete Tryz.prog 238 = true ∧ strTy Tryz.prog 238 = false ∧ nilKind Tryz.prog 238 = 3 := by and_intros <;> kernel_rfl
@[go_sem] theorem zt239 : ztree Tryz.prog 239 = some (.lit .nilFunc) := by kernel_rfl
@[go_sem] theorem tq239 : tyInfo Tryz.prog 239 = some (false, 1) ∧ byteTy Tryz.prog 239 = false ∧ Program.concrete Tryz.prog 239 = true ∧ strTy Tryz.prog 239 = false ∧ nilKind Tryz.prog 239 = 3 := by and_intros <;> kernel_rfl
@[go_sem] theorem zt240 : ztree Tryz.prog 240 = some (.lit .nilFunc) := by kernel_rfl
@[go_sem] theorem tq240 : tyInfo Tryz.prog 240 = some (false, 1) ∧ byteTy Tryz.prog 240 = false ∧ Program.concrete Tryz.prog 240 = true ∧ strTy Tryz.prog 240 = false ∧ nilKind Tryz.prog 240 = 3 := by and_intros <;> kernel_rfl
@[go_sem] theorem zt241 : ztree Tryz.prog 241 = some (.lit .nilFunc) := by kernel_rfl
@[go_sem] theorem tq241 : tyInfo Tryz.prog 241 = some (false, 1) ∧ byteTy Tryz.prog 241 = false ∧ Program.concrete Tryz.prog 241 = true ∧ strTy Tryz.prog 241 = false ∧ nilKind Tryz.prog 241 = 3 := by and_intros <;> kernel_rfl
@[go_sem] theorem zt242 : ztree Tryz.prog 242 = some (.lit .nilFunc) := by kernel_rfl
@[go_sem] theorem tq242 : tyInfo Tryz.prog 242 = some (false, 1) ∧ byteTy Tryz.prog 242 = false ∧ Program.concrete Tryz.prog 242 = true ∧ strTy Tryz.prog 242 = false ∧ nilKind Tryz.prog 242 = 3 := by and_intros <;> kernel_rfl
@[go_sem] theorem zt243 : ztree Tryz.prog 243 = some (.agg []) := by kernel_rfl
@[go_sem] theorem tq243 : tyInfo Tryz.prog 243 = some (true, 0) ∧ byteTy Tryz.prog 243 = false ∧ Program.concrete Tryz.prog 243 = true ∧ strTy Tryz.prog 243 = false ∧ splaces Tryz.prog 243 = some [] := by and_intros <;> kernel_rfl
@[go_sem] theorem eq244 : eqTop Tryz.prog 244 = some (.agg []) := by kernel_rfl
@[go_sem] theorem zt244 : ztree Tryz.prog 244 = some (.agg []) := by kernel_rfl
@[go_sem] theorem tq244 : tyInfo Tryz.prog 244 = some (true, 0) ∧ byteTy Tryz.prog 244 = false ∧ Program.concrete Tryz.prog 244 = true ∧ strTy Tryz.prog 244 = false ∧ splaces Tryz.prog 244 = some [] := by and_intros <;> kernel_rfl
@[go_sem] theorem zt246 : ztree Tryz.prog 246 = some (.lit .nilFunc) := by kernel_rfl
@[go_sem] theorem tq246 : tyInfo Tryz.prog 246 = some (false, 1) ∧ byteTy Tryz.prog 246 = false ∧ Program.concrete Tryz.prog 246 = true ∧ strTy Tryz.prog 246 = false ∧ nilKind Tryz.prog 246 = 3 := by and_intros <;> kernel_rfl
@[go_sem] theorem zt247 : ztree Tryz.prog 247 = some (.lit .nilFunc) := by kernel_rfl
@[go_sem] theorem tq247 : tyInfo Tryz.prog 247 = some (false, 1) ∧ byteTy Tryz.prog 247 = false ∧ Program.concrete Tryz.prog 247 = true ∧ strTy Tryz.prog 247 = false ∧ nilKind Tryz.prog 247 = 3 := by and_intros <;> kernel_rfl
@[go_sem] theorem zt248 : ztree Tryz.prog 248 = some (.lit .nilFunc) := by kernel_rfl
@[go_sem] theorem tq248 : tyInfo Tryz.prog 248 = some (false, 1) ∧ byteTy Tryz.prog 248 = false ∧ Program.concrete Tryz.prog 248 = true ∧ strTy Tryz.prog 248 = false ∧ nilKind Tryz.prog 248 = 3 := by and_intros <;> kernel_rfl
@[go_sem] theorem zt249 : ztree Tryz.prog 249 = some (.lit .nilFunc) := by kernel_rfl
@[go_sem] theorem tq249 : tyInfo Tryz.prog 249 = some (false, 1) ∧ byteTy Tryz.prog 249 = false ∧ Program.concrete Tryz.prog 249 = true ∧ strTy Tryz.prog 249 = false ∧ nilKind Tryz.prog 249 = 3 := by and_intros <;> kernel_rfl
@[go_sem] theorem it250 : intTy Tryz.prog 250 = some .u32 := by kernel_rfl
@[go_sem] theorem zt250 : ztree Tryz.prog 250 = some (.lit (.int .u32 0)) := by kernel_rfl
@[go_sem] theorem tq250 : tyInfo Tryz.prog 250 = some (false, 1) ∧ byteTy Tryz.prog 250 = false ∧ Program.concrete Tryz.prog 250 = true ∧ strTy Tryz.prog 250 = false := by and_intros <;> kernel_rfl
@[go_sem] theorem pa251 : ptrArr Tryz.prog 251 = some (8, 250, 1) := by kernel_rfl
@[go_sem] theorem ar251 : arrInfo Tryz.prog 251 = some (8, 250, 1) := by kernel_rfl
@[go_sem] theorem sp251 : splaces Tryz.prog 251 = none := by kernel_rfl
@[go_sem] theorem zt251 : ztree Tryz.prog 251 = some (.agg (List.replicate 8 (.lit (.int .u32 0)))) := by kernel_rfl
@[go_sem] theorem tq251 : tyInfo Tryz.prog 251 = some (true, 8) ∧ byteTy Tryz.prog 251 = false ∧ Program.concrete Tryz.prog 251 = true ∧ strTy Tryz.prog 251 = false := by and_intros <;> kernel_rfl
@[go_sem] theorem zt252 : ztree Tryz.prog 252 = some (.agg [(.agg (List.replicate 8 (.lit (.int .u32 0)))), .nils, (.lit (.int .i64 0))]) := by kernel_rfl
@[go_sem] theorem tq252 : tyInfo Tryz.prog 252 = some (true, 10) ∧ byteTy Tryz.prog 252 = false ∧ Program.concrete Tryz.prog 252 = true ∧ strTy Tryz.prog 252 = false ∧ splaces Tryz.prog 252 = some [(0, 8), (8, 1), (9, 1)] ∧ fieldOff Tryz.prog 252 0 = some 0 ∧ fieldOff Tryz.prog 252 1 = some 8 ∧ fieldOff Tryz.prog 252 2 = some 9 := by and_intros <;> kernel_rfl
@[go_sem] theorem zt253 : ztree Tryz.prog 253 = some (.agg [(.agg (List.replicate 8 (.lit (.int .u32 0)))), .nils, (.lit (.int .i64 0))]) := by kernel_rfl
@[go_sem] theorem tq253 : tyInfo Tryz.prog 253 = some (true, 10) ∧ byteTy Tryz.prog 253 = false ∧ Program.concrete Tryz.prog 253 = true ∧ strTy Tryz.prog 253 = false ∧ splaces Tryz.prog 253 = some [(0, 8), (8, 1), (9, 1)] ∧ fieldOff Tryz.prog 253 0 = some 0 ∧ fieldOff Tryz.prog 253 1 = some 8 ∧ fieldOff Tryz.prog 253 2 = some 9 := by and_intros <;> kernel_rfl
@[go_sem] theorem zt254 : ztree Tryz.prog 254 = some (.lit .nilFunc) := by kernel_rfl
@[go_sem] theorem tq254 : tyInfo Tryz.prog 254 = some (false, 1) ∧ byteTy Tryz.prog 254 = false ∧ Program.concrete Tryz.prog 254 = true ∧ strTy Tryz.prog 254 = false ∧ nilKind Tryz.prog 254 = 3 := by and_intros <;> kernel_rfl
@[go_sem] theorem zt255 : ztree Tryz.prog 255 = some (.lit .nilFunc) := by kernel_rfl
@[go_sem] theorem tq255 : tyInfo Tryz.prog 255 = some (false, 1) ∧ byteTy Tryz.prog 255 = false ∧ Program.concrete Tryz.prog 255 = true ∧ strTy Tryz.prog 255 = false ∧ nilKind Tryz.prog 255 = 3 := by and_intros <;> kernel_rfl
@[go_sem] theorem zt256 : ztree Tryz.prog 256 = some (.lit .nilFunc) := by kernel_rfl
@[go_sem] theorem tq256 : tyInfo Tryz.prog 256 = some (false, 1) ∧ byteTy Tryz.prog 256 = false ∧ Program.concrete Tryz.prog 256 = true ∧ strTy Tryz.prog 256 = false ∧ nilKind Tryz.prog 256 = 3 := by and_intros <;> kernel_rfl
@[go_sem] theorem zt257 : ztree Tryz.prog 257 = some (.lit .nilFunc) := by kernel_rfl
@[go_sem] theorem tq257 : tyInfo Tryz.prog 257 = some (false, 1) ∧ byteTy Tryz.prog 257 = false ∧ Program.concrete Tryz.prog 257 = true ∧ strTy Tryz.prog 257 = false ∧ nilKind Tryz.prog 257 = 3 := by and_intros <;> kernel_rfl
@[go_sem] theorem zt258 : ztree Tryz.prog 258 = some (.lit .nilFunc) := by kernel_rfl
@[go_sem] theorem tq258 : tyInfo Tryz.prog 258 = some (false, 1) ∧ byteTy Tryz.prog 258 = false ∧ Program.concrete Tryz.prog 258 = true ∧ strTy Tryz.prog 258 = false ∧ nilKind Tryz.prog 258 = 3 := by and_intros <;> kernel_rfl
@[go_sem] theorem pa259 : ptrArr Tryz.prog 259 = some (2, 57, 1) := by kernel_rfl
@[go_sem] theorem ar259 : arrInfo Tryz.prog 259 = some (2, 57, 1) := by kernel_rfl
@[go_sem] theorem sp259 : splaces Tryz.prog 259 = none := by kernel_rfl
@[go_sem] theorem zt259 : ztree Tryz.prog 259 = some (.agg (List.replicate 2 .nils)) := by kernel_rfl
@[go_sem] theorem tq259 : tyInfo Tryz.prog 259 = some (true, 2) ∧ byteTy Tryz.prog 259 = false ∧ Program.concrete Tryz.prog 259 = true ∧ strTy Tryz.prog 259 = false := by and_intros <;> kernel_rfl
@[go_sem] theorem zt260 : ztree Tryz.prog 260 = some (.lit .nilFunc) := by kernel_rfl
@[go_sem] theorem tq260 : tyInfo Tryz.prog 260 = some (false, 1) ∧ byteTy Tryz.prog 260 = false ∧ Program.concrete Tryz.prog 260 = true ∧ strTy Tryz.prog 260 = false ∧ nilKind Tryz.prog 260 = 3 := by and_intros <;> kernel_rfl
@[go_sem] theorem zt261 : ztree Tryz.prog 261 = some (.lit .nilFunc) := by kernel_rfl
@[go_sem] theorem tq261 : tyInfo Tryz.prog 261 = some (false, 1) ∧ byteTy Tryz.prog 261 = false ∧ Program.concrete Tryz.prog 261 = true ∧ strTy Tryz.prog 261 = false ∧ nilKind Tryz.prog 261 = 3 := by and_intros <;> kernel_rfl
@[go_sem] theorem zt262 : ztree Tryz.prog 262 = some (.lit .nilFunc) := by kernel_rfl
@[go_sem] theorem tq262 : tyInfo Tryz.prog 262 = some (false, 1) ∧ byteTy Tryz.prog 262 = false ∧ Program.concrete Tryz.prog 262 = true ∧ strTy Tryz.prog 262 = false ∧ nilKind Tryz.prog 262 = 3 := by and_intros <;> kernel_rfl
@[go_sem] theorem zt263 : ztree Tryz.prog 263 = some (.lit .nilFunc) := by kernel_rfl
@[go_sem] theorem tq263 : tyInfo Tryz.prog 263 = some (false, 1) ∧ byteTy Tryz.prog 263 = false ∧ Program.concrete Tryz.prog 263 = true ∧ strTy Tryz.prog 263 = false ∧ nilKind Tryz.prog 263 = 3 := by and_intros <;> kernel_rfl
@[go_sem] theorem zt264 : ztree Tryz.prog 264 = some (.lit .nilFunc) := by kernel_rfl
@[go_sem] theorem tq264 : tyInfo Tryz.prog 264 = some (false, 1) ∧ byteTy Tryz.prog 264 = false ∧ Program.concrete Tryz.prog 264 = true ∧ strTy Tryz.prog 264 = false ∧ nilKind Tryz.prog 264 = 3 := by and_intros <;> kernel_rfl
@[go_sem] theorem zt265 : ztree Tryz.prog 265 = some (.lit .nilFunc) := by kernel_rfl
@[go_sem] theorem tq265 : tyInfo Tryz.prog 265 = some (false, 1) ∧ byteTy Tryz.prog 265 = false ∧ Program.concrete Tryz.prog 265 = true ∧ strTy Tryz.prog 265 = false ∧ nilKind Tryz.prog 265 = 3 := by and_intros <;> kernel_rfl
@[go_sem] theorem zt266 : ztree Tryz.prog 266 = some (.lit (.pointer none)) := by kernel_rfl
@[go_sem] theorem tq266 : tyInfo Tryz.prog 266 = some (false, 1) ∧ byteTy Tryz.prog 266 = false ∧ Program.concrete Tryz.prog 266 = true ∧ strTy Tryz.prog 266 = false ∧ nilKind Tryz.prog 266 = 2 := by and_intros <;> kernel_rfl
@[go_sem] theorem zt267 : ztree Tryz.prog 267 = some (.agg [.nils, (.lit (.int .i64 0))]) := by kernel_rfl
@[go_sem] theorem tq267 : tyInfo Tryz.prog 267 = some (true, 2) ∧ byteTy Tryz.prog 267 = false ∧ Program.concrete Tryz.prog 267 = true ∧ strTy Tryz.prog 267 = false ∧ splaces Tryz.prog 267 = some [(0, 1), (1, 1)] ∧ fieldOff Tryz.prog 267 0 = some 0 ∧ fieldOff Tryz.prog 267 1 = some 1 := by and_intros <;> kernel_rfl
@[go_sem] theorem zt268 : ztree Tryz.prog 268 = some (.agg [.nils, (.lit (.int .i64 0))]) := by kernel_rfl
@[go_sem] theorem tq268 : tyInfo Tryz.prog 268 = some (true, 2) ∧ byteTy Tryz.prog 268 = false ∧ Program.concrete Tryz.prog 268 = true ∧ strTy Tryz.prog 268 = false ∧ splaces Tryz.prog 268 = some [(0, 1), (1, 1)] ∧ fieldOff Tryz.prog 268 0 = some 0 ∧ fieldOff Tryz.prog 268 1 = some 1 := by and_intros <;> kernel_rfl
@[go_sem] theorem zt269 : ztree Tryz.prog 269 = some (.agg [(.agg [.nils, (.lit (.int .i64 0))]), (.lit (.int .i64 0))]) := by kernel_rfl
@[go_sem] theorem tq269 : tyInfo Tryz.prog 269 = some (true, 3) ∧ byteTy Tryz.prog 269 = false ∧ Program.concrete Tryz.prog 269 = true ∧ strTy Tryz.prog 269 = false ∧ splaces Tryz.prog 269 = some [(0, 2), (2, 1)] ∧ fieldOff Tryz.prog 269 0 = some 0 ∧ fieldOff Tryz.prog 269 1 = some 2 := by and_intros <;> kernel_rfl
@[go_sem] theorem zt270 : ztree Tryz.prog 270 = some (.agg [(.agg [.nils, (.lit (.int .i64 0))]), (.lit (.int .i64 0))]) := by kernel_rfl
@[go_sem] theorem tq270 : tyInfo Tryz.prog 270 = some (true, 3) ∧ byteTy Tryz.prog 270 = false ∧ Program.concrete Tryz.prog 270 = true ∧ strTy Tryz.prog 270 = false ∧ splaces Tryz.prog 270 = some [(0, 2), (2, 1)] ∧ fieldOff Tryz.prog 270 0 = some 0 ∧ fieldOff Tryz.prog 270 1 = some 2 := by and_intros <;> kernel_rfl
@[go_sem] theorem zt271 : ztree Tryz.prog 271 = some (.lit (.pointer none)) := by kernel_rfl
@[go_sem] theorem tq271 : tyInfo Tryz.prog 271 = some (false, 1) ∧ byteTy Tryz.prog 271 = false ∧ Program.concrete Tryz.prog 271 = true ∧ strTy Tryz.prog 271 = false ∧ nilKind Tryz.prog 271 = 2 := by and_intros <;> kernel_rfl
@[go_sem] theorem zt272 : ztree Tryz.prog 272 = some (.agg [.nils, (.lit (.int .i64 0)), (.lit (.int .i64 0))]) := by kernel_rfl
@[go_sem] theorem tq272 : tyInfo Tryz.prog 272 = some (true, 3) ∧ byteTy Tryz.prog 272 = false ∧ Program.concrete Tryz.prog 272 = true ∧ strTy Tryz.prog 272 = false ∧ splaces Tryz.prog 272 = some [(0, 1), (1, 1), (2, 1)] ∧ fieldOff Tryz.prog 272 0 = some 0 ∧ fieldOff Tryz.prog 272 1 = some 1 ∧ fieldOff Tryz.prog 272 2 = some 2 := by and_intros <;> kernel_rfl
@[go_sem] theorem zt273 : ztree Tryz.prog 273 = some (.agg [.nils, (.lit (.int .i64 0)), (.lit (.int .i64 0))]) := by kernel_rfl
@[go_sem] theorem tq273 : tyInfo Tryz.prog 273 = some (true, 3) ∧ byteTy Tryz.prog 273 = false ∧ Program.concrete Tryz.prog 273 = true ∧ strTy Tryz.prog 273 = false ∧ splaces Tryz.prog 273 = some [(0, 1), (1, 1), (2, 1)] ∧ fieldOff Tryz.prog 273 0 = some 0 ∧ fieldOff Tryz.prog 273 1 = some 1 ∧ fieldOff Tryz.prog 273 2 = some 2 := by and_intros <;> kernel_rfl
@[go_sem] theorem zt274 : ztree Tryz.prog 274 = some (.lit .nilFunc) := by kernel_rfl
@[go_sem] theorem tq274 : tyInfo Tryz.prog 274 = some (false, 1) ∧ byteTy Tryz.prog 274 = false ∧ Program.concrete Tryz.prog 274 = true ∧ strTy Tryz.prog 274 = false ∧ nilKind Tryz.prog 274 = 3 := by and_intros <;> kernel_rfl
@[go_sem] theorem pa275 : ptrArr Tryz.prog 275 = some (64, 250, 1) := by kernel_rfl
@[go_sem] theorem ar275 : arrInfo Tryz.prog 275 = some (64, 250, 1) := by kernel_rfl
@[go_sem] theorem sp275 : splaces Tryz.prog 275 = none := by kernel_rfl
@[go_sem] theorem zt275 : ztree Tryz.prog 275 = some (.agg (List.replicate 64 (.lit (.int .u32 0)))) := by kernel_rfl
@[go_sem] theorem tq275 : tyInfo Tryz.prog 275 = some (true, 64) ∧ byteTy Tryz.prog 275 = false ∧ Program.concrete Tryz.prog 275 = true ∧ strTy Tryz.prog 275 = false := by and_intros <;> kernel_rfl
@[go_sem] theorem zt276 : ztree Tryz.prog 276 = some (.lit .nilFunc) := by kernel_rfl
@[go_sem] theorem tq276 : tyInfo Tryz.prog 276 = some (false, 1) ∧ byteTy Tryz.prog 276 = false ∧ Program.concrete Tryz.prog 276 = true ∧ strTy Tryz.prog 276 = false ∧ nilKind Tryz.prog 276 = 3 := by and_intros <;> kernel_rfl
@[go_sem] theorem zt277 : ztree Tryz.prog 277 = some (.lit .nilFunc) := by kernel_rfl
@[go_sem] theorem tq277 : tyInfo Tryz.prog 277 = some (false, 1) ∧ byteTy Tryz.prog 277 = false ∧ Program.concrete Tryz.prog 277 = true ∧ strTy Tryz.prog 277 = false ∧ nilKind Tryz.prog 277 = 3 := by and_intros <;> kernel_rfl
@[go_sem] theorem zt278 : ztree Tryz.prog 278 = some (.lit .nilFunc) := by kernel_rfl
@[go_sem] theorem tq278 : tyInfo Tryz.prog 278 = some (false, 1) ∧ byteTy Tryz.prog 278 = false ∧ Program.concrete Tryz.prog 278 = true ∧ strTy Tryz.prog 278 = false ∧ nilKind Tryz.prog 278 = 3 := by and_intros <;> kernel_rfl
@[go_sem] theorem zt279 : ztree Tryz.prog 279 = some (.lit .nilFunc) := by kernel_rfl
@[go_sem] theorem tq279 : tyInfo Tryz.prog 279 = some (false, 1) ∧ byteTy Tryz.prog 279 = false ∧ Program.concrete Tryz.prog 279 = true ∧ strTy Tryz.prog 279 = false ∧ nilKind Tryz.prog 279 = 3 := by and_intros <;> kernel_rfl
@[go_sem] theorem zt280 : ztree Tryz.prog 280 = some (.lit .nilFunc) := by kernel_rfl
@[go_sem] theorem tq280 : tyInfo Tryz.prog 280 = some (false, 1) ∧ byteTy Tryz.prog 280 = false ∧ Program.concrete Tryz.prog 280 = true ∧ strTy Tryz.prog 280 = false ∧ nilKind Tryz.prog 280 = 3 := by and_intros <;> kernel_rfl
@[go_sem] theorem zt281 : ztree Tryz.prog 281 = some (.lit .nilFunc) := by kernel_rfl
@[go_sem] theorem tq281 : tyInfo Tryz.prog 281 = some (false, 1) ∧ byteTy Tryz.prog 281 = false ∧ Program.concrete Tryz.prog 281 = true ∧ strTy Tryz.prog 281 = false ∧ nilKind Tryz.prog 281 = 3 := by and_intros <;> kernel_rfl
@[go_sem] theorem zt282 : ztree Tryz.prog 282 = some (.lit (.pointer none)) := by kernel_rfl
@[go_sem] theorem tq282 : tyInfo Tryz.prog 282 = some (false, 1) ∧ byteTy Tryz.prog 282 = false ∧ Program.concrete Tryz.prog 282 = true ∧ strTy Tryz.prog 282 = false ∧ nilKind Tryz.prog 282 = 2 := by and_intros <;> kernel_rfl
@[go_sem] theorem zt291 : ztree Tryz.prog 291 = some (.lit (.pointer none)) := by kernel_rfl
@[go_sem] theorem tq291 : tyInfo Tryz.prog 291 = some (false, 1) ∧ byteTy Tryz.prog 291 = false ∧ Program.concrete Tryz.prog 291 = true ∧ strTy Tryz.prog 291 = false ∧ nilKind Tryz.prog 291 = 2 := by and_intros <;> kernel_rfl
end Go.Proofs.YtemmlldpmgfblaaGreatDoor

/- SHA-256: words, rotations. -/
namespace Go.Proofs.YtemmlldpmgfblaaGreatDoor
open Go.Ab
attribute [local irreducible] Go.Ab.tyAV Go.Ab.aw Go.Ab.aops Go.Ab.kReg Go.Ab.aThen Go.Ab.aBlk Go.Ab.acond Go.Ab.aguard Go.Ab.astep Go.Ab.AStepX Go.Ab.aRet

/-- The operations on words, under names that nobody can look behind (a product with a great numeral must never be compared with anything). -/
structure W32 where
  cv : Int → Int
  shw : Nat → Int → Int
  o32 : Int → Int → Int
  x32 : Int → Int → Int
  n32 : Int → Int → Int
  rotr : Int → Nat → Int
  cv_h : ∀ x, IntKind.u32.wrap x = cv x
  shw_h : ∀ n x, IntKind.u32.wrap (x * 2 ^ n) = shw n x
  o32_h : ∀ a b, bits .or .u32 a b = o32 a b
  x32_h : ∀ a b, bits .xor .u32 a b = x32 a b
  n32_h : ∀ a b, bits .and .u32 a b = n32 a b
  rotr_h : ∀ x n, bits .or .u32 (IntKind.u32.wrap (x * 2 ^ (32 - n))) (x.fdiv (2 ^ n)) = rotr x n
attribute [class] W32
/-- They are there. -/
@[reducible] def w32 : W32 where
  cv x := IntKind.u32.wrap x
  shw n x := IntKind.u32.wrap (x * 2 ^ n)
  o32 a b := bits .or .u32 a b
  x32 a b := bits .xor .u32 a b
  n32 a b := bits .and .u32 a b
  rotr x n := bits .or .u32 (IntKind.u32.wrap (x * 2 ^ (32 - n))) (x.fdiv (2 ^ n))
  cv_h _ := rfl
  shw_h _ _ := rfl
  o32_h _ _ := rfl
  x32_h _ _ := rfl
  n32_h _ _ := rfl
  rotr_h _ _ := rfl
def rot0 (x : Int) (n : Nat) : Int := bits .or .u32 (IntKind.u32.wrap (x * 2 ^ (32 - n))) (x.fdiv (2 ^ n))
theorem or32_comm (a b : Int) : bits .or .u32 a b = bits .or .u32 b a := by simp [bits, BitVec.or_comm]
theorem rot_and : (bits .and .u64 18446744073709551614 31 = 30) ∧ (bits .and .u64 18446744073709551610 31 = 26) ∧ (bits .and .u64 18446744073709551609 31 = 25) ∧ (bits .and .u64 18446744073709551605 31 = 21) ∧ (bits .and .u64 18446744073709551603 31 = 19) ∧ (bits .and .u64 18446744073709551599 31 = 15) ∧ (bits .and .u64 18446744073709551598 31 = 14) ∧ (bits .and .u64 18446744073709551597 31 = 13) ∧ (bits .and .u64 18446744073709551594 31 = 10) ∧ (bits .and .u64 18446744073709551591 31 = 7) := by decide
theorem left_spec32 (x : Int) (n : Nat) (hn : n = 2 ∨ n = 6 ∨ n = 7 ∨ n = 11 ∨ n = 13 ∨ n = 17 ∨ n = 18 ∨ n = 19 ∨ n = 22 ∨ n = 25) (k : Nat) :
    ACall Tryz.prog 232 [.lit (.int .u32 x), .lit (.int .i64 (-(n : Int)))] k [] (.lit (.int .u32 (rot0 x n))) [] := by
  obtain ⟨r1, r2, r3, r4, r5, r6, r7, r8, r9, r10⟩ := rot_and
  unfold rot0
  rcases hn with rfl | rfl | rfl | rfl | rfl | rfl | rfl | rfl | rfl | rfl
  all_goals (
    simp only [Nat.reduceSub, Int.reducePow]
    refine Bd Tryz.func232 Tryz.ntmps232 fun σ N hp hpn hk hkn hfree => ?_
    exact W0)
theorem refrot_spec0 (x : Int) (n : Nat) (hn : n = 2 ∨ n = 6 ∨ n = 7 ∨ n = 11 ∨ n = 13 ∨ n = 17 ∨ n = 18 ∨ n = 19 ∨ n = 22 ∨ n = 25) (k : Nat) :
    ACall Tryz.prog 224 [.lit (.int .u32 x), .lit (.int .u64 n)] k [] (.lit (.int .u32 (rot0 x n))) [] := by
  unfold rot0
  rw [or32_comm]
  rcases hn with rfl | rfl | rfl | rfl | rfl | rfl | rfl | rfl | rfl | rfl
  all_goals (
    simp only [Nat.reduceSub, Int.reducePow]
    refine Bd Tryz.func224 Tryz.ntmps224 fun σ N hp hpn hk hkn hfree => ?_
    exact W0)
section
variable [W : W32]
open W32
theorem refrot_spec (x : Int) (n : Nat) (hn : n = 2 ∨ n = 6 ∨ n = 7 ∨ n = 11 ∨ n = 13 ∨ n = 17 ∨ n = 18 ∨ n = 19 ∨ n = 22 ∨ n = 25) (k : Nat) :
    ACall Tryz.prog 224 [.lit (.int .u32 x), .lit (.int .u64 n)] k [] (.lit (.int .u32 (W.rotr x n))) [] := by
  rw [← W.rotr_h]; exact refrot_spec0 x n hn k
@[go_sem] theorem cv_eq (x : Int) : IntKind.u32.wrap x = W.cv x := W.cv_h x
@[go_sem] theorem o32_eq (a b : Int) : bits .or .u32 a b = W.o32 a b := W.o32_h a b
@[go_sem] theorem x32_eq (a b : Int) : bits .xor .u32 a b = W.x32 a b := W.x32_h a b
@[go_sem] theorem n32_eq (a b : Int) : bits .and .u32 a b = W.n32 a b := W.n32_h a b
theorem shl32 (P : Program) (t : TypeId) (a : Int) (k : IntKind) (z : Int) (n : Nat) (hz : z = n) (hn : n ≤ 32) : evBin P .shl t (.lit (.int .u32 a)) (.lit (.int k z)) = some ⟨[], .lit (.int .u32 (W.shw n a)), []⟩ := by
  subst hz
  rw [← W.shw_h, evBin]
  have h1 : min n 32 = n := by omega
  simp [litBin, h1, IntKind.bits]
@[go_sem high] theorem shl32_24 (P : Program) (t : TypeId) (a : Int) (k : IntKind) : evBin P .shl t (.lit (.int .u32 a)) (.lit (.int k 24)) = some ⟨[], .lit (.int .u32 (W.shw 24 a)), []⟩ := shl32 P t a k _ _ rfl (by omega)
@[go_sem high] theorem shl32_16 (P : Program) (t : TypeId) (a : Int) (k : IntKind) : evBin P .shl t (.lit (.int .u32 a)) (.lit (.int k 16)) = some ⟨[], .lit (.int .u32 (W.shw 16 a)), []⟩ := shl32 P t a k _ _ rfl (by omega)
@[go_sem high] theorem shl32_8 (P : Program) (t : TypeId) (a : Int) (k : IntKind) : evBin P .shl t (.lit (.int .u32 a)) (.lit (.int k 8)) = some ⟨[], .lit (.int .u32 (W.shw 8 a)), []⟩ := shl32 P t a k _ _ rfl (by omega)
end
end Go.Proofs.YtemmlldpmgfblaaGreatDoor

/- SHA-256: arrays of words, the words of a block. -/
namespace Go.Proofs.YtemmlldpmgfblaaGreatDoor
open Go.Ab
attribute [local irreducible] Go.Ab.tyAV Go.Ab.aw Go.Ab.aops Go.Ab.kReg Go.Ab.aThen Go.Ab.aBlk Go.Ab.acond Go.Ab.aguard Go.Ab.astep Go.Ab.AStepX Go.Ab.aRet

def uAV (x : Int) : AV := .lit (.int .u32 x)
@[go_sem] theorem uAV_un (x : Int) : uAV x = .lit (.int .u32 x) := rfl
/-- An array of words. -/
def uuAV (L : List Int) : AV := .agg (L.map uAV)
@[go_sem] theorem szl_us (L : List Int) : AV.szl (L.map uAV) = L.length := by
  rw [AV.szl_uniform _ 1 fun x hx => by obtain ⟨b, _, rfl⟩ := List.mem_map.1 hx; rfl]; simp
@[go_sem] theorem szl_take_us (L : List Int) (i : Nat) : AV.szl ((L.map uAV).take i) = min i L.length := by rw [← List.map_take, szl_us, List.length_take]
theorem celll_us (L : List Int) : AV.celll (L.map uAV) = true := by
  rw [AV.celll_all, List.all_eq_true]; intro x hx; obtain ⟨b, _, rfl⟩ := List.mem_map.1 hx; rfl
@[go_sem] theorem uuAV_sz (L : List Int) : (uuAV L).sz = L.length := szl_us L
@[go_sem] theorem uuAV_isAgg (L : List Int) : (uuAV L).isAgg = true := rfl
@[go_sem] theorem uuAV_cell (L : List Int) : (uuAV L).cell = true := celll_us L
@[go_sem] theorem renl_us (f : Nat → Option Nat) (L : List Int) : AV.renl f (L.map uAV) = L.map uAV := by
  rw [AV.renl_map, List.map_map]; rfl
@[go_sem] theorem uuAV_ren (f : Nat → Option Nat) (L : List Int) : (uuAV L).ren f = uuAV L := by
  simp only [uuAV, AV.ren, renl_us]
theorem uu_get (L : List Int) (i : Nat) (h : i < L.length) : (uuAV L).get [i] = some (.lit (.int .u32 L[i])) := by
  simp [uuAV, AV.get, h, uAV]
theorem uu_getD (L : List Int) (i : Nat) (h : i < L.length) : (uuAV L).get [i] = some (.lit (.int .u32 (L.getD i 0))) := by
  rw [uu_get L i h, List.getD_eq_getElem?_getD, List.getElem?_eq_getElem h]; rfl
theorem uu_offs (L : List Int) (i : Nat) (h : i < L.length) : (uuAV L).offs [i] = i := by
  simp only [uuAV, AV.offs, szl_take_us, List.getElem?_map, List.getElem?_eq_getElem h, Option.map_some]
  omega
theorem uu_put (L : List Int) (i : Nat) (z : Int) (h : i < L.length) : (uuAV L).put [i] (.lit (.int .u32 z)) = uuAV (L.set i z) := by
  simp [uuAV, AV.put, h, uAV, List.map_set]
attribute [go_sem] uu_get uu_offs uu_put
@[go_sem] theorem agg_us (L : List Int) : AV.agg (L.map uAV) = uuAV L := by simp only [uuAV]
@[go_sem] theorem agg_rep64 : AV.agg (List.replicate 64 (.lit (.int .u32 0))) = uuAV (List.replicate 64 0) := by
  rw [uuAV, List.map_replicate]; rfl

theorem bget (b : List UInt8) (i : Nat) (h : i < b.length) : b[i] = b.getD i 0 := by
  rw [List.getD_eq_getElem?_getD, List.getElem?_eq_getElem h]; rfl
section
variable [W : W32]
def sg0 (x : Int) : Int := W.x32 (W.x32 (W.rotr x 7) (W.rotr x 18)) (x.fdiv 8)
def sg1 (x : Int) : Int := W.x32 (W.x32 (W.rotr x 17) (W.rotr x 19)) (x.fdiv 1024)
def word (b : List UInt8) (t : Nat) : Int := W.o32 (W.o32 (W.o32 (W.shw 24 (W.cv ((b.getD (4 * t) 0).toNat : Int))) (W.shw 16 (W.cv ((b.getD (4 * t + 1) 0).toNat : Int)))) (W.shw 8 (W.cv ((b.getD (4 * t + 2) 0).toNat : Int)))) (W.cv ((b.getD (4 * t + 3) 0).toNat : Int))
def nextW (L : List Int) (t : Nat) : Int := W.cv (W.cv (W.cv (sg1 (L.getD (t - 2) 0) + L.getD (t - 7) 0) + sg0 (L.getD (t - 15) 0)) + L.getD (t - 16) 0)
/-- The words of a block, the first n of them. -/
def Wd (b : List UInt8) : Nat → List Int
  | 0 => List.replicate 64 0
  | n + 1 => (Wd b n).set n (if n < 16 then word b n else nextW (Wd b n) n)
theorem Wd_len (b : List UInt8) : ∀ n, (Wd b n).length = 64
  | 0 => by simp [Wd]
  | n + 1 => by simp [Wd, Wd_len b n]
theorem Wd_lo (b : List UInt8) (n : Nat) (h : n < 16) : Wd b (n + 1) = (Wd b n).set n (word b n) := by rw [Wd, if_pos h]
theorem Wd_hi (b : List UInt8) (n : Nat) (h : ¬ n < 16) : Wd b (n + 1) = (Wd b n).set n (nextW (Wd b n) n) := by rw [Wd, if_neg h]

theorem word_at {b : List UInt8} {t : Nat} (h : 4 * t + 3 < b.length) {c0 c1 c2 c3 : UInt8} (h0 : b[4 * t] = c0) (h1 : b[4 * t + 1] = c1) (h2 : b[4 * t + 2] = c2) (h3 : b[4 * t + 3] = c3) :
    W.o32 (W.o32 (W.o32 (W.shw 24 (W.cv (c0.toNat : Int))) (W.shw 16 (W.cv (c1.toNat : Int)))) (W.shw 8 (W.cv (c2.toNat : Int)))) (W.cv (c3.toNat : Int)) = word b t := by
  unfold word
  rw [← bget b (4 * t) (by omega), ← bget b (4 * t + 1) (by omega), ← bget b (4 * t + 2) (by omega), ← bget b (4 * t + 3) (by omega), h0, h1, h2, h3]
theorem nextW_at {L : List Int} {t : Nat} (h : t < L.length) (ht : 16 ≤ t) {x2 x7 x15 x16 : Int} (h2 : L[t - 2] = x2) (h7 : L[t - 7] = x7) (h15 : L[t - 15] = x15) (h16 : L[t - 16] = x16) :
    nextW L t = W.cv (W.cv (W.cv (sg1 x2 + x7) + sg0 x15) + x16) := by
  have key : ∀ (i : Nat) (hi : i < L.length), L.getD i 0 = L[i] := fun i hi => by rw [List.getD_eq_getElem?_getD, List.getElem?_eq_getElem hi]; rfl
  unfold nextW
  rw [key (t - 2) (by omega), key (t - 7) (by omega), key (t - 15) (by omega), key (t - 16) (by omega), h2, h7, h15, h16]
attribute [irreducible] Wd word nextW sg0 sg1
end
end Go.Proofs.YtemmlldpmgfblaaGreatDoor

/- From a law's contract to what its statement asks, where a package-level array is read. -/
namespace Go.Ab
open Go.RowKit

theorem rep_tab {w : World} {h : Nat} {k : IntKind} {zs : List Int} (hpos : 0 < zs.length) (hc : ∀ i, i < zs.length → w.cell? ⟨h, i, none⟩ = some (.int k (zs.getD i 0))) : Rep (g0 w) (.view (.agg (zs.map fun z => .lit (.int k z)))) (.pointer (some ⟨h, 0, none⟩)) := by
  have hb : h < w.heap.size := World.block_lt_of_cell? w ⟨h, 0, none⟩ (hc 0 hpos)
  have hfl : flat (zs.map fun z => Value.int k z) = zs.map fun z => Value.int k z := flat_lits _ fun v hv => by obtain ⟨z, _, rfl⟩ := List.mem_map.1 hv; rfl
  refine .view _ (.agg (flat (zs.map fun z => Value.int k z)).toArray) h 0 (.agg _ (zs.map fun z => Value.int k z) (by simp) fun i x v hx hv => ?_) fun j u hu => ?_
  · rw [List.getElem?_map] at hx hv
    cases hz : zs[i]? with
    | none => rw [hz] at hx; cases hx
    | some z => rw [hz] at hx hv; cases hx; cases hv; exact .lit _ rfl
  · simp only [Value.cells, List.toList_toArray] at hu
    rw [hfl, List.getElem?_map] at hu
    cases hz : zs[j]? with
    | none => rw [hz] at hu; cases hu
    | some z =>
      rw [hz] at hu; cases hu
      have hj := (List.getElem?_eq_some_iff.1 hz).1
      have := hc j hj
      rw [List.getD_eq_getElem?_getD, hz] at this
      simp only [g0, if_pos hb, Nat.zero_add]
      exact this

/-- All that was there, at the call; number 1 is in use. -/
def g1w (w : World) : Ghost := { g0 w with mr := fun i => if i = 1 then some (0, .bool true) else none }
theorem g1w_le (w : World) : (g0 w).le (g1w w) := ⟨fun _ _ _ h => h, fun _ _ h => h, fun _ _ h => (by cases h), fun _ _ h => (by cases h)⟩
theorem g1w_blk (w : World) (i b : Nat) : (g1w w).blk i ≠ some b := by
  unfold Ghost.blk g1w g0
  simp only
  by_cases h : i = 1
  · simp [h, Value.ownBlock]
  · simp [h]
theorem sim1 (w : World) (h : Nat) (X : AV) (hX : Rep (g0 w) (.view X) (.pointer (some ⟨h, 0, none⟩))) : Sim w (g1w w) (upd (fun _ => .none) 1 (.glob h X)) 2 w where
  below := Below.refl _ _
  imm := (sim0 w).imm
  bound := fun i hi => by rw [upd_ne _ _ _ _ (show i ≠ 1 by omega)]
  ents := fun i => by
    by_cases hi : i = 1
    · subst hi; rw [upd_same]; exact ⟨rfl, rfl, rfl, ⟨(0, .bool true), by simp [g1w], rfl⟩, hX.mono (g1w_le w)⟩
    · rw [upd_ne _ _ _ _ hi]; exact ⟨rfl, rfl, rfl, by simp [g1w, hi]⟩
  sep := fun i j b h _ => absurd h (g1w_blk w i b)
  fresh := fun i b h => absurd h (g1w_blk w i b)

theorem ACall.walksG {P : Program} {f : FuncId} {args : List AV} {v : Value} {h : Nat} {X : AV} (hcall : ACall P f args 0 [(1, .glob h X)] (.lit v) []) (w : World) (hX : Rep (g0 w) (.view X) (.pointer (some ⟨h, 0, none⟩))) {vals : List Value} (hr : Reps (g0 w) args vals) :
    Calls P f vals.toArray w fun e w' => e = .returned v ∧ Below w.heap.size w w' := by
  refine (hcall.2.2.2 w (g1w w) _ 2 w vals (sim1 w h X hX) hr.at.1 (fun i x u hx hu => (hr.at.2 i x u hx hu).mono (g1w_le w)) (upd_ne _ _ _ _ (by omega)) (by omega) (fun p hp => by simp at hp; subst hp; simp [upd_same])).mono ?_
  rintro e w' ⟨u, rfl, g', _, hS, hu⟩
  rw [rep_lit_inv hu]
  exact ⟨rfl, hS.below⟩

/-! ### Two package-level arrays -/
end Go.Ab

/- SHA-256: the rounds. -/
namespace Go.Proofs.YtemmlldpmgfblaaGreatDoor
open Go.Ab
attribute [local irreducible] Go.Ab.tyAV Go.Ab.aw Go.Ab.aops Go.Ab.kReg Go.Ab.aThen Go.Ab.aBlk Go.Ab.acond Go.Ab.aguard Go.Ab.astep Go.Ab.AStepX Go.Ab.aRet

def shaZ : List Int := [1116352408, 1899447441, 3049323471, 3921009573, 961987163, 1508970993, 2453635748, 2870763221, 3624381080, 310598401, 607225278, 1426881987, 1925078388, 2162078206, 2614888103, 3248222580, 3835390401, 4022224774, 264347078, 604807628, 770255983, 1249150122, 1555081692, 1996064986, 2554220882, 2821834349, 2952996808, 3210313671, 3336571891, 3584528711, 113926993, 338241895, 666307205, 773529912, 1294757372, 1396182291, 1695183700, 1986661051, 2177026350, 2456956037, 2730485921, 2820302411, 3259730800, 3345764771, 3516065817, 3600352804, 4094571909, 275423344, 430227734, 506948616, 659060556, 883997877, 958139571, 1322822218, 1537002063, 1747873779, 1955562222, 2024104815, 2227730452, 2361852424, 2428436474, 2756734187, 3204031479, 3329325298]
def shaL : List AV := shaZ.map fun z => .lit (.int .u32 z)
/-- The package-level table of constants. -/
def shaG : Ent := .glob 1 (.agg shaL)
@[simp, go_sem] theorem shaG_ne : (shaG = .none) = False := by simp [shaG]
theorem shaZ_len : shaZ.length = 64 := by simp only [shaZ, List.length_cons, List.length_nil]
attribute [irreducible] shaZ shaL

/-- The eight words of the state. -/
structure V8 where
  a : Int
  b : Int
  c : Int
  d : Int
  e : Int
  f : Int
  g : Int
  h : Int
def V8.l (v : V8) : List Int := [v.a, v.b, v.c, v.d, v.e, v.f, v.g, v.h]
def v8AV (v : V8) : AV := uuAV v.l
@[go_sem] theorem agg_u8 (a b c d e f g h : Int) : AV.agg [.lit (.int .u32 a), .lit (.int .u32 b), .lit (.int .u32 c), .lit (.int .u32 d), .lit (.int .u32 e), .lit (.int .u32 f), .lit (.int .u32 g), .lit (.int .u32 h)] = uuAV [a, b, c, d, e, f, g, h] := rfl
@[go_sem] theorem set_u8 (a b c d e f g h : Int) : AV.agg (((((((((List.replicate 8 (AV.lit (.int .u32 0))).set 0 (.lit (.int .u32 a))).set 1 (.lit (.int .u32 b))).set 2 (.lit (.int .u32 c))).set 3 (.lit (.int .u32 d))).set 4 (.lit (.int .u32 e))).set 5 (.lit (.int .u32 f))).set 6 (.lit (.int .u32 g))).set 7 (.lit (.int .u32 h))) = uuAV [a, b, c, d, e, f, g, h] := rfl
def iv8 : V8 := ⟨1779033703, 3144134277, 1013904242, 2773480762, 1359893119, 2600822924, 528734635, 1541459225⟩

@[go_sem] theorem not32 : (if IntKind.u32.signed = true then (-1 : Int) else IntKind.u32.max) = 4294967295 := rfl
section
variable [W : W32]
def S1 (e : Int) : Int := W.x32 (W.x32 (W.rotr e 6) (W.rotr e 11)) (W.rotr e 25)
def S0 (a : Int) : Int := W.x32 (W.x32 (W.rotr a 2) (W.rotr a 13)) (W.rotr a 22)
def Ch (e f g : Int) : Int := W.x32 (W.n32 e f) (W.n32 (W.x32 4294967295 e) g)
def Maj (a b c : Int) : Int := W.x32 (W.x32 (W.n32 a b) (W.n32 a c)) (W.n32 b c)
def T1 (v : V8) (k w : Int) : Int := W.cv (W.cv (W.cv (W.cv (v.h + S1 v.e) + Ch v.e v.f v.g) + k) + w)
def T2 (v : V8) : Int := W.cv (S0 v.a + Maj v.a v.b v.c)
def rnd (v : V8) (k w : Int) : V8 := ⟨W.cv (T1 v k w + T2 v), v.a, v.b, v.c, W.cv (v.d + T1 v k w), v.e, v.f, v.g⟩
/-- The state after n rounds. -/
def Rd (w : List Int) (v : V8) : Nat → V8
  | 0 => v
  | n + 1 => rnd (Rd w v n) (shaZ.getD n 0) (w.getD n 0)
def addV (v o : V8) : V8 := ⟨W.cv (v.a + o.a), W.cv (v.b + o.b), W.cv (v.c + o.c), W.cv (v.d + o.d), W.cv (v.e + o.e), W.cv (v.f + o.f), W.cv (v.g + o.g), W.cv (v.h + o.h)⟩
/-- The first n words, added. -/
def Ad (v o : List Int) : Nat → List Int
  | 0 => v
  | n + 1 => (Ad v o n).set n (W.cv ((Ad v o n).getD n 0 + o.getD n 0))
theorem Ad_len (v o : List Int) : ∀ n, (Ad v o n).length = v.length
  | 0 => rfl
  | n + 1 => by simp [Ad, Ad_len v o n]
theorem Ad_8' (v o : V8) : Ad v.l o.l 8 = (addV o v).l := by simp [Ad, V8.l, addV, Int.add_comm]
def chg (o : V8) (b : List UInt8) : V8 := addV (Rd (Wd b 64) o 64) o
attribute [irreducible] S1 S0 Ch Maj
end
end Go.Proofs.YtemmlldpmgfblaaGreatDoor

/- SHA-256: the reference's block. -/
namespace Go.Proofs.YtemmlldpmgfblaaGreatDoor
open Go.Ab
attribute [local irreducible] Go.Ab.tyAV Go.Ab.aw Go.Ab.aops Go.Ab.kReg Go.Ab.aThen Go.Ab.aBlk Go.Ab.acond Go.Ab.aguard Go.Ab.astep Go.Ab.AStepX Go.Ab.aRet

theorem constants_spec (k : Nat) : ACall Tryz.prog 225 [] k [] (uuAV shaZ) [] := by
  refine Bd Tryz.func225 Tryz.ntmps225 fun σ N hp hpn hk hkn hfree => ?_
  repeat (first | apply go_nil | apply go_kreg | apply go_kreg0 | apply go_kreg1 | (apply go_kregT; · (first | (simp [addT, CF, CFy, Ind, DisjF]; done) | (simp only [addT, CF, CFy, Ind]; repeat' (first | exact trivial | apply And.intro | exact Or.inl (by decide +kernel) | (refine Or.inr ⟨?_, ?_⟩ <;> (simp; try omega)))))) | apply go_then | apply go_then_exit | apply go_then_ret | apply go_blk | apply go_blk_ret | apply go_blk_here | (apply go_blk_there; · rfl) | apply go_seq | (apply go_region; · (simp only [List.length_cons, List.length_nil, Nat.reduceAdd, Nat.add_assoc]; rfl)) | apply go_skip | apply go_block | apply go_scope | apply go_label | apply go_exit | apply go_ret)
  apply go_new
  · rfl
  · (simp (disch := omega) [go_sem, *, -List.reduceReplicate]; try first | rfl | exact ⟨rfl, rfl⟩ | exact ⟨rfl, rfl, rfl⟩)
  repeat (first | apply go_nil | apply go_kreg | apply go_kreg0 | apply go_kreg1 | (apply go_kregT; · (first | (simp [addT, CF, CFy, Ind, DisjF]; done) | (simp only [addT, CF, CFy, Ind]; repeat' (first | exact trivial | apply And.intro | exact Or.inl (by decide +kernel) | (refine Or.inr ⟨?_, ?_⟩ <;> (simp; try omega)))))) | apply go_then | apply go_then_exit | apply go_then_ret | apply go_blk | apply go_blk_ret | apply go_blk_here | (apply go_blk_there; · rfl) | apply go_seq | (apply go_region; · (simp only [List.length_cons, List.length_nil, Nat.reduceAdd, Nat.add_assoc]; rfl)) | apply go_skip | apply go_block | apply go_scope | apply go_label | apply go_exit | apply go_ret)
  refine go_pure (v := uuAV shaZ) rfl (by kernel_rfl) ?_
  have hzl := shaZ_len
  exact W0
section
variable [W : W32]
set_option maxHeartbeats 4000000 in
theorem refblock_spec (o : V8) (b : List UInt8) (hb : b.length = 64) (k : Nat) :
    ACall Tryz.prog 214 [v8AV o, .slice none (b.map byteAV)] k [] (v8AV (chg o b)) [] := by
  obtain ⟨w, hw⟩ : ∃ w, Wd b 64 = w := ⟨_, rfl⟩
  have hwl : w.length = 64 := by rw [← hw]; exact Wd_len b 64
  have hz : List.replicate 64 (0 : Int) = Wd b 0 := by unfold Wd; rfl
  obtain ⟨Z, hZ⟩ : ∃ Z, Wd b 0 = Z := ⟨_, rfl⟩
  have hZl : Z.length = 64 := by rw [← hZ]; exact Wd_len b 0
  rw [hZ] at hz
  have c1 := constants_spec
  obtain ⟨v, hv⟩ : ∃ v, Rd w o 64 = v := ⟨_, rfl⟩
  have hR : chg o b = addV v o := by rw [chg, hw, hv]
  rw [hR, v8AV, v8AV, ← Ad_8']
  clear hR
  obtain ⟨ol, hol⟩ : ∃ l, o.l = l := ⟨_, rfl⟩
  have holl : ol.length = 8 := by rw [← hol]; rfl
  rw [hol]
  refine Bd Tryz.func214 Tryz.ntmps214 fun σ N hp hpn hk hkn hfree => ?_
  refine Wk ?_
  refine go_loopF mixed (by kernel_rfl) [6, 22, 23, 24, 25, 26, 27, 28, 29, 30, 31, 32, 33, 34, 35, 36, 37, 38, 39, 40, 41, 42, 43, 44, 45, 46, 47, 48, 49, 50, 51, 52, 53, 54, 55, 56, 57, 58, 59, 60] [N+2] (fun m_ s_ σ_ n_ => ∃ (t : Nat) (L : List Int), m_ = 16 - t ∧ s_ 6 = .lit (.int .i64 t) ∧ σ_ (N+2) = .box 275 (uuAV L) ∧ (t ≤ 16) ∧ (Wd b t = L)) ⟨_, 0, Z, rfl, WF, WF, WC, WC⟩ ?_
  intro m_1 s_1 σ_1 n_1 hs_1 hf_1 hn_1 hI_1
  obtain ⟨t, L, hm_1, h1_6, e1_0, ht, hL⟩ := hI_1
  have h1_1 := KS hs_1 1
  have h1_2 := KS hs_1 2
  have h1_4 := KS hs_1 4
  have h1_5 := KS hs_1 5
  have k1_0 := KE hf_1 (N)
  have k1_1 := KE hf_1 (N+1)
  have hlow := KL (N := N) (σ := σ) hf_1
  have hlen : L.length = 64 := by rw [← hL]; exact Wd_len b t
  by_cases h16 : t < 16
  · have h16' : (t : Int) < 16 := by omega
    have htl : t < 64 := by omega
    have hw := Wd_lo b t h16
    rw [hL] at hw
    have i0 : (4 * (t : Int)).toNat = 4 * t := by omega
    have i1 : (4 * (t : Int) + 1).toNat = 4 * t + 1 := by omega
    have i2 : (4 * (t : Int) + 2).toNat = 4 * t + 2 := by omega
    have i3 : (4 * (t : Int) + 3).toNat = 4 * t + 3 := by omega
    have hlt0 : 4 * t < b.length := by omega
    have hlt1 : 4 * t + 1 < b.length := by omega
    have hlt2 : 4 * t + 2 < b.length := by omega
    have hlt3 : 4 * t + 3 < b.length := by omega
    obtain ⟨c0, g0⟩ : ∃ c, b[4 * t] = c := ⟨_, rfl⟩
    obtain ⟨c1, g1⟩ : ∃ c, b[4 * t + 1] = c := ⟨_, rfl⟩
    obtain ⟨c2, g2⟩ : ∃ c, b[4 * t + 2] = c := ⟨_, rfl⟩
    obtain ⟨c3, g3⟩ : ∃ c, b[4 * t + 3] = c := ⟨_, rfl⟩
    have hwd := word_at hlt3 g0 g1 g2 g3
    generalize word b t = wt at *
    have e0 : byteAV c0 = .lit (.int .u8 c0.toNat) := rfl
    have e1 : byteAV c1 = .lit (.int .u8 c1.toNat) := rfl
    have e2 : byteAV c2 = .lit (.int .u8 c2.toNat) := rfl
    have e3 : byteAV c3 = .lit (.int .u8 c3.toNat) := rfl
    clear hL
    refine Wk ?_
    clear hwd e0 e1 e2 e3 g0 g1 g2 g3 i0 i1 i2 i3
    exact ⟨WS, WG, WN, _, (show 16 - (t + 1) < m_1 by omega), t + 1, L.set t wt, rfl, WF, WF, WC, WC⟩
  · have ht16 : t = 16 := by omega
    subst ht16
    clear h16 ht
    refine Wk ?_
    refine go_loopF mixed (by kernel_rfl) [7, 8, 9, 61, 62, 63, 64, 65, 66, 67, 68, 69, 70, 71, 72, 73, 74, 75, 76, 77, 78, 79, 80, 81, 82, 83, 84, 85, 86, 87, 88, 89, 90, 91, 92, 93, 94, 95, 96, 97, 98, 99, 100, 101] [N+2] (fun m_ s_ σ_ n_ => ∃ (t : Nat) (L : List Int), m_ = 64 - t ∧ s_ 7 = .lit (.int .i64 t) ∧ σ_ (N+2) = .box 275 (uuAV L) ∧ (t ≤ 64) ∧ (¬ t < 16) ∧ (Wd b t = L)) ⟨_, 16, L, rfl, WF, WF, WC, WC, WC⟩ ?_
    intro m_2 s_2 σ_2 n_2 hs_2 hf_2 hn_2 hI_2
    obtain ⟨t, L, hm_2, h2_7, e2_0, ht, h16, hL⟩ := hI_2
    have h2_2 := KS hs_2 2
    have h2_4 := KS hs_2 4
    have h2_5 := KS hs_2 5
    have k2_0 := KE hf_2 (N)
    have k2_1 := KE hf_2 (N+1)
    have hlow := KL (N := N) (σ := σ) hf_2
    have hlen : L.length = 64 := by rw [← hL]; exact Wd_len b t
    by_cases ht64 : t = 64
    · subst ht64
      rw [hw] at hL
      subst hL
      have hcs := And.intro c1 True.intro
      have hR0 : Rd w o 0 = o := rfl
      have hzl := shaZ_len
      refine Wk ?_
      refine go_loopF mixed (by kernel_rfl) (12 :: 13 :: 14 :: 15 :: 16 :: 17 :: 18 :: 19 :: 20 :: 104 :: 105 :: 106 :: 107 :: 108 :: 109 :: 110 :: 111 :: 112 :: 113 :: 114 :: 115 :: 116 :: 117 :: 118 :: 119 :: 120 :: 121 :: 122 :: 123 :: 124 :: 125 :: 126 :: 127 :: 128 :: 129 :: 130 :: 131 :: 132 :: 133 :: 134 :: 135 :: 136 :: 137 :: 138 :: 139 :: 140 :: 141 :: 142 :: 143 :: 144 :: 145 :: 146 :: 147 :: 148 :: 149 :: 150 :: 151 :: 152 :: 153 :: 154 :: 155 :: 156 :: 157 :: 158 :: 159 :: 160 :: 161 :: 162 :: 163 :: 164 :: 165 :: 166 :: 167 :: 168 :: 169 :: 170 :: 171 :: 172 :: 173 :: 174 :: 175 :: 176 :: 177 :: 178 :: 179 :: 180 :: 181 :: 182 :: 183 :: 184 :: 185 :: 186 :: 187 :: []) [n_2+6] (fun m_ s_ σ_ n_ => ∃ (t : Nat) (x : V8), m_ = 64 - t ∧ s_ 12 = .lit (.int .i64 t) ∧ σ_ (n_2+6) = .box 251 (uuAV x.l) ∧ (t ≤ 64) ∧ (Rd w o t = x)) ⟨_, 0, o, rfl, WF, WF, WC, WC⟩ ?_
      intro m_3 s_3 σ_3 n_3 hs_3 hf_3 hn_3 hI_3
      obtain ⟨t, x, hm_3, h3_12, e3_0, ht, hx⟩ := hI_3
      have h3_2 := KS hs_3 2
      have h3_4 := KS hs_3 4
      have h3_5 := KS hs_3 5
      have h3_10 := KS hs_3 10
      have h3_11 := KS hs_3 11
      have k3_0 := KE hf_3 (N)
      have k3_1 := KE hf_3 (N+1)
      have k3_2 := KE hf_3 (N+2)
      have k3_3 := KE hf_3 (n_2+3)
      have hlow := KL (N := N) (σ := σ) hf_3
      by_cases ht64 : t = 64
      · subst ht64
        rw [hv] at hx
        subst hx
        generalize hvl : V8.l v = vl at *
        have hvll : vl.length = 8 := by rw [← hvl]; rfl
        have hR0 : Ad ol vl 0 = ol := rfl
        refine Wk ?_
        refine go_loopF mixed (by kernel_rfl) [21, 188, 189, 190, 191, 192, 193, 194, 195, 196, 197, 198, 199, 200] [N] (fun m_ s_ σ_ n_ => ∃ (t : Nat) (L : List Int), m_ = 8 - t ∧ s_ 21 = .lit (.int .i64 t) ∧ σ_ (N) = .box 251 (uuAV L) ∧ (t ≤ 8) ∧ (Ad ol vl t = L)) ⟨_, 0, ol, rfl, WF, WF, WC, WC⟩ ?_
        intro m_4 s_4 σ_4 n_4 hs_4 hf_4 hn_4 hI_4
        obtain ⟨t, L, hm_4, h4_21, e4_0, ht, hL⟩ := hI_4
        have h4_2 := KS hs_4 2
        have h4_4 := KS hs_4 4
        have h4_11 := KS hs_4 11
        have k4_0 := KE hf_4 (N+1)
        have k4_1 := KE hf_4 (n_2+6)
        have hlow := KL (N := N) (σ := σ) hf_4
        have hlen : L.length = 8 := by rw [← hL, Ad_len, holl]
        by_cases ht8 : t = 8
        · subst ht8
          subst hL
          exact W0
        · have htl : (t : Int) < 8 := by omega
          have htl' : t < 8 := by omega
          have htn : t < L.length := by omega
          have htn' : t < vl.length := by omega
          obtain ⟨p, hp⟩ : ∃ x, L[t] = x := ⟨_, rfl⟩
          obtain ⟨q, hq⟩ : ∃ x, vl[t] = x := ⟨_, rfl⟩
          have hS : Ad ol vl (t + 1) = L.set t (W.cv (p + q)) := by
            rw [Ad, hL, List.getD_eq_getElem?_getD, List.getElem?_eq_getElem htn, List.getD_eq_getElem?_getD, List.getElem?_eq_getElem htn', hp, hq]; rfl
          clear hL
          refine Wk ?_
          exact ⟨WS, WG, WN, _, (show 8 - (t + 1) < m_4 by omega), t + 1, L.set t (W.cv (p + q)), rfl, WF, WF, WC, WC⟩
      · have htl : (t : Int) < 64 := by omega
        have htn : t < 64 := by omega
        have htw : t < w.length := by omega
        have htz : t < shaZ.length := by omega
        have hkd : shaZ.getD t 0 = shaZ[t] := by
          rw [List.getD_eq_getElem?_getD, List.getElem?_eq_getElem htz]; rfl
        have hwd : w.getD t 0 = w[t] := by
          rw [List.getD_eq_getElem?_getD, List.getElem?_eq_getElem htw]; rfl
        obtain ⟨kt, hkt⟩ : ∃ x, shaZ[t] = x := ⟨_, rfl⟩
        rw [hkt] at hkd
        obtain ⟨wt, hwt⟩ : ∃ x, w[t] = x := ⟨_, rfl⟩
        rw [hwt] at hwd
        have hS : Rd w o (t + 1) = rnd x kt wt := by rw [Rd, hx, hkd, hwd]
        clear hkd hwd hx
        obtain ⟨xa, xb, xc, xd, xe, xf, xg, xh⟩ := x
        simp only [V8.l] at *
        obtain ⟨s1, hs1⟩ : ∃ z, W.x32 (W.x32 (W.rotr xe 6) (W.rotr xe 11)) (W.rotr xe 25) = z := ⟨_, rfl⟩
        obtain ⟨s0, hs0⟩ : ∃ z, W.x32 (W.x32 (W.rotr xa 2) (W.rotr xa 13)) (W.rotr xa 22) = z := ⟨_, rfl⟩
        obtain ⟨ch, hch⟩ : ∃ z, W.x32 (W.n32 xe xf) (W.n32 (W.x32 4294967295 xe) xg) = z := ⟨_, rfl⟩
        obtain ⟨mj, hmj⟩ : ∃ z, W.x32 (W.x32 (W.n32 xa xb) (W.n32 xa xc)) (W.n32 xb xc) = z := ⟨_, rfl⟩
        obtain ⟨t1, ht1⟩ : ∃ z, W.cv (W.cv (W.cv (W.cv (xh + s1) + ch) + kt) + wt) = z := ⟨_, rfl⟩
        obtain ⟨t2, ht2⟩ : ∃ z, W.cv (s0 + mj) = z := ⟨_, rfl⟩
        have hS' : rnd ⟨xa, xb, xc, xd, xe, xf, xg, xh⟩ kt wt = ⟨W.cv (t1 + t2), xa, xb, xc, W.cv (xd + t1), xe, xf, xg⟩ := by
          unfold rnd T1 T2 S1 S0 Ch Maj
          simp only [hs1, hs0, hch, hmj, ht1, ht2]
        rw [hS'] at hS
        clear hS'
        have r1 := refrot_spec xe 6 (by omega)
        have r2 := refrot_spec xe 11 (by omega)
        have r3 := refrot_spec xe 25 (by omega)
        have r4 := refrot_spec xa 2 (by omega)
        have r5 := refrot_spec xa 13 (by omega)
        have r6 := refrot_spec xa 22 (by omega)
        have hcs := And.intro r1 (And.intro r2 (And.intro r3 (And.intro r4 (And.intro r5 (And.intro r6 True.intro)))))
        clear r1 r2 r3 r4 r5 r6 hZ hzl hol
        refine Wk ?_
        exact ⟨WS, WG, WN, _, (show 64 - (t + 1) < m_3 by omega), t + 1, V8.mk (W.cv (t1 + t2)) xa xb xc (W.cv (xd + t1)) xe xf xg, rfl, WF, WF, WC, WC⟩
    · have htl : t < 64 := by omega
      have htl' : (t : Int) < 64 := by omega
      have hw := Wd_hi b t h16
      rw [hL] at hw
      have j15 : ((t : Int) - 15).toNat = t - 15 := by omega
      have j2 : ((t : Int) - 2).toNat = t - 2 := by omega
      have j7 : ((t : Int) - 7).toNat = t - 7 := by omega
      have j16 : ((t : Int) - 16).toNat = t - 16 := by omega
      have l15 : t - 15 < L.length := by omega
      have l2 : t - 2 < L.length := by omega
      have l7 : t - 7 < L.length := by omega
      have l16 : t - 16 < L.length := by omega
      obtain ⟨x15, g15⟩ : ∃ x, L[t - 15] = x := ⟨_, rfl⟩
      obtain ⟨x2, g2⟩ : ∃ x, L[t - 2] = x := ⟨_, rfl⟩
      obtain ⟨x7, g7⟩ : ∃ x, L[t - 7] = x := ⟨_, rfl⟩
      obtain ⟨x16, g16⟩ : ∃ x, L[t - 16] = x := ⟨_, rfl⟩
      rw [nextW_at (by omega) (by omega) g2 g7 g15 g16] at hw
      have r1 := refrot_spec x2 17 (by omega)
      have r2 := refrot_spec x2 19 (by omega)
      have r3 := refrot_spec x15 7 (by omega)
      have r4 := refrot_spec x15 18 (by omega)
      have s0 : W.x32 (W.x32 (W.rotr x15 7) (W.rotr x15 18)) (x15.fdiv 8) = sg0 x15 := by unfold sg0; rfl
      have s1 : W.x32 (W.x32 (W.rotr x2 17) (W.rotr x2 19)) (x2.fdiv 1024) = sg1 x2 := by unfold sg1; rfl
      have hcs := And.intro r1 (And.intro r2 (And.intro r3 (And.intro r4 True.intro)))
      clear r1 r2 r3 r4 hL
      refine Wk ?_
      exact ⟨WS, WG, WN, _, (show 64 - (t + 1) < m_2 by omega), t + 1, L.set t (W.cv (W.cv (W.cv (sg1 x2 + x7) + sg0 x15) + x16)), rfl, WF, WF, WC, WC, WC⟩
end
end Go.Proofs.YtemmlldpmgfblaaGreatDoor

/- append(nil, make([]T, n)...): a row that is written later (slices.Grow). -/
namespace Go.Ab
open Go.RowKit
attribute [local irreducible] Go.Ab.tyAV Go.Ab.aw Go.Ab.aops Go.Ab.kReg Go.Ab.aThen Go.Ab.aBlk Go.Ab.acond Go.Ab.aguard Go.Ab.astep Go.Ab.AStepX Go.Ab.aRet

section
variable {P : Program} {o : Oper} {s : Slots} {id : Nat}
end

def evMutZ (P : Program) (id : Nat) (t tn : TypeId) (u v : AV) : Option Step :=
  match sliceInfo P t, intTy P tn, u, v with
  | some (e, size, bytes, z), some _, .nils, .lit (.int _ m) => if 0 < m ∧ m.toNat * bytes ≤ 140737488355328 ∧ m.toNat ≤ 140737488355328 then
      some ⟨[], .ms id 0 size 0 m.toNat, [(id, .mrow 0 e size (List.replicate m.toNat z))]⟩ else none
  | _, _, _, _ => none
attribute [go_sem] evMutZ
section
variable {P : Program} {ops : Array Oper} {m i n : Nat} {T : Trace} {k : Cfg → Trace → Prop} {ty : TypeId} {pos : String} {after : Array Edge} {r : List Oper} {s : Slots} {σ : Nat → Ent}
end
end Go.Ab

/- Shared: comparing bytes, arguments cut at a length. -/
namespace Go.Proofs.YtemmlldpmgfblaaGreatDoor
open Go.Ab
attribute [local irreducible] Go.Ab.tyAV Go.Ab.aw Go.Ab.aops Go.Ab.kReg Go.Ab.aThen Go.Ab.aBlk Go.Ab.acond Go.Ab.aguard Go.Ab.astep Go.Ab.AStepX Go.Ab.aRet

theorem Same_spec (cs bs : List UInt8) (ha : cs.length ≤ 100000000) (k : Nat) : ACall Tryz.prog 24 [.slice none (cs.map byteAV), .slice none (bs.map byteAV)] k [] (.lit (.bool (decide (cs = bs)))) [] := by
  by_cases hl : cs.length = bs.length
  · refine Bd Tryz.func24 Tryz.ntmps24 fun σ N hp hpn hk hkn hfree => ?_
    refine Wk ?_
    refine go_loop (aloop mixed (by kernel_rfl) (fun c => ∃ (u : Nat), c.s 0 = .slice none (cs.map byteAV) ∧ c.s 1 = .slice none (bs.map byteAV) ∧ c.s 5 = .lit (.int .i64 u) ∧ (∀ id, id < N → c.σ id = σ id) ∧ N ≤ c.n ∧ u ≤ cs.length ∧ cs.take u = bs.take u)
      (fun c => match c.s 5 with | .lit (.int _ m) => cs.length - m.toNat | _ => 0) ⟨0, by simp (disch := omega) [go_sem, *, -List.reduceReplicate], by simp (disch := omega) [go_sem, *, -List.reduceReplicate], by simp (disch := omega) [go_sem, *, -List.reduceReplicate], (fun id hid => by simp (disch := omega) only [upd_ne, wr_cons, wr_nil]; try exact hlow id hid), by simp only; omega, by omega, by simp⟩ ?_)
    rintro ⟨s, σ', n'⟩ ⟨u, h0, h1, h5, hlow, hn', hu, heq⟩
    simp only at h0 h1 h5 hlow hn'
    by_cases hul : u = cs.length
    · have hr : decide (cs = bs) = true := by
        rw [hul, List.take_length, hl, List.take_length] at heq
        simp [heq]
      rw [hr]
      exact W0
    · have hua : u < cs.length := by omega
      have hub : u < bs.length := by omega
      obtain ⟨x, hx⟩ : ∃ x, cs[u] = x := ⟨_, rfl⟩
      obtain ⟨y, hy⟩ : ∃ y, bs[u] = y := ⟨_, rfl⟩
      have hxx : byteAV x = .lit (.int .u8 x.toNat) := rfl
      have hyy : byteAV y = .lit (.int .u8 y.toNat) := rfl
      refine Wk ?_
      by_cases hxy : x = y
      · subst hxy
        refine Wk ?_
        refine ⟨⟨u + 1, by simp (disch := omega) [go_sem, *, -List.reduceReplicate], by simp (disch := omega) [go_sem, *, -List.reduceReplicate], by simp (disch := omega) [go_sem, *, -List.reduceReplicate], (fun id hid => by simp (disch := omega) only [upd_ne, wr_cons, wr_nil]; try exact hlow id hid), by simp only; omega, by omega, ?_⟩, ?_⟩
        · rw [List.take_add_one, List.take_add_one, heq, List.getElem?_eq_getElem hua, List.getElem?_eq_getElem hub, hx, hy]
        · simp (disch := omega) [go_sem, *, -List.reduceReplicate]
          omega
      · have hne : ¬ x.toNat = y.toNat := fun h => hxy (UInt8.toNat_inj.1 h)
        have hr : decide (cs = bs) = false := by
          have : cs ≠ bs := fun h => by subst h; rw [hx] at hy; exact hxy hy
          simp [this]
        rw [hr]
        exact W0
  · have hr : decide (cs = bs) = false := by
      have : cs ≠ bs := fun h => hl (by rw [h])
      simp [this]
    rw [hr]
    refine Bd Tryz.func24 Tryz.ntmps24 fun σ N hp hpn hk hkn hfree => ?_
    exact W0

end Go.Proofs.YtemmlldpmgfblaaGreatDoor

/- Shared: slices.Clone of bytes, the bytes of a number, varint.Append. -/
namespace Go.Proofs.YtemmlldpmgfblaaGreatDoor
open Go.Ab
attribute [local irreducible] Go.Ab.tyAV Go.Ab.aw Go.Ab.aops Go.Ab.kReg Go.Ab.aThen Go.Ab.aBlk Go.Ab.acond Go.Ab.aguard Go.Ab.astep Go.Ab.AStepX Go.Ab.aRet

attribute [go_sem] bytes_all1 bytes_all2 List.isEmpty_map

theorem SClone_cons (bs : List UInt8) (he : bs.isEmpty = false) (hl : bs.length ≤ 100000000) (k : Nat) :
    ACall Tryz.prog 211 [.slice none (bs.map byteAV)] k [] (.slice (some k) (bs.map byteAV)) [(k, .row 5 1 bs.length)] := by
  refine Bd Tryz.func211 Tryz.ntmps211 fun σ N hp hpn hk hkn hfree => ?_
  refine Wk ?_
  refine go_result1 (r0 := N+3) (by simp (disch := omega) [go_sem, *, -List.reduceReplicate]; rfl) (by omega) (by simp (disch := omega) [go_sem]; try rfl) (fun id hid => by simp (disch := omega) only [upd_ne, wr_cons, wr_nil]; try exact hlow id hid) (by simp (disch := omega) only [upd_same, upd_ne]; rfl) (by simp (disch := omega) [go_sem])

theorem SClone_nil (c k : Nat) : ACall Tryz.prog 211 [.lit (.slice none 0 c)] k [] .nils [] := by
  refine Bd Tryz.func211 Tryz.ntmps211 fun σ N hp hpn hk hkn hfree => ?_
  exact W0

theorem SClone_empty (A : Addr) (c k : Nat) : ACall Tryz.prog 211 [.lit (.slice (some A) 0 c)] k [] (.slice (some k) []) [(k, .row 5 1 0)] := by
  refine Bd Tryz.func211 Tryz.ntmps211 fun σ N hp hpn hk hkn hfree => ?_
  refine Wk ?_
  refine go_result1 (r0 := N+3) (by simp (disch := omega) [go_sem, *, -List.reduceReplicate]; rfl) (by omega) (by simp (disch := omega) [go_sem]; try rfl) (fun id hid => by simp (disch := omega) only [upd_ne, wr_cons, wr_nil]; try exact hlow id hid) (by simp (disch := omega) only [upd_same, upd_ne]; rfl) (by simp (disch := omega) [go_sem])

theorem SClone_spec (bs : List UInt8) (hl : bs.length ≤ 100000000) (k : Nat) :
    ACall Tryz.prog 211 [.slice none (bs.map byteAV)] k [] (.slice (some k) (bs.map byteAV)) [(k, .row 5 1 bs.length)] := by
  cases bs with
  | cons b r => exact SClone_cons (b :: r) rfl hl k
  | nil =>
    refine ACall.empty fun A c => ?_
    cases A with
    | none => exact ACall.nilrow (SClone_nil c k)
    | some A => exact SClone_empty A c k

/-- The byte of a number. -/
def u8 (n : Nat) : UInt8 := UInt8.ofNat n
def leb (n : Nat) : List UInt8 := if h : n < 128 then [u8 n] else u8 (n % 128 + 128) :: leb (n / 128)
termination_by n

theorem leb_small {n : Nat} (h : n < 128) : leb n = [u8 n] := by rw [leb, dif_pos h]
theorem leb_big {n : Nat} (h : ¬ n < 128) : leb n = u8 (n % 128 + 128) :: leb (n / 128) := by rw [leb, dif_neg h]
theorem leb_len (n : Nat) : ∀ k, n < 128 ^ k → (leb n).length ≤ k + 1 := by
  induction n using Nat.strongRecOn with
  | _ n ih =>
    intro k hk
    by_cases h : n < 128
    · rw [leb_small h]; simp
    · rw [leb_big h]
      cases k with
      | zero => simp at hk; omega
      | succ k =>
        have := ih (n / 128) (by omega) k (by rw [Nat.pow_succ] at hk; omega)
        simp; omega
theorem byteAV_ofNat {n : Nat} (h : n < 256) : byteAV (u8 n) = .lit (.int .u8 n) := by
  simp only [byteAV, u8]
  rw [UInt8.toNat_ofNat', Nat.mod_eq_of_lt h]

theorem Number_spec (n k : Nat) (hn : n < 128 ^ 9) : ACall Tryz.prog 75 [.lit (.int .i64 n)] k [] (.slice (some k) ((leb n).map byteAV)) [(k, .row 5 1 (leb n).length)] := by
  have hl := leb_len n 9 hn
  refine Bd Tryz.func75 Tryz.ntmps75 fun σ N hp hpn hk hkn hfree => ?_
  refine Wk ?_
  refine go_loop (ALoop.nilrow 3 5 1 (by simp (disch := omega) [go_sem, *, -List.reduceReplicate]) ?_)
  refine aloop mixed (by kernel_rfl) (fun c => ∃ (m : Nat) (acc : List UInt8), c.s 0 = .lit (.int .i64 m) ∧ c.s 3 = .slice (some (N + 2)) (acc.map byteAV) ∧ c.σ (N + 2) = .row 5 1 acc.length ∧ N + 3 ≤ c.n ∧ (∀ id, id < N → c.σ id = σ id) ∧ acc ++ leb m = leb n ∧ m < 128 ^ 9)
    (fun c => match c.s 0 with | .lit (.int _ m) => m.toNat | _ => 0) ⟨n, [], by simp (disch := omega) [go_sem, *, -List.reduceReplicate], by simp (disch := omega) [go_sem, *, -List.reduceReplicate], by simp (disch := omega) [go_sem, *, -List.reduceReplicate], by simp, by intro id hid; simp (disch := omega) only [upd_ne], rfl, hn⟩ ?_
  rintro ⟨s, σ', n'⟩ ⟨m, acc, h0, h3, hr, hn', hlow, hacc, hm⟩
  simp only at h0 h3 hr hn' hlow
  have hal : acc.length ≤ 10 := by rw [← hacc, List.length_append] at hl; omega
  refine Wk ?_
  by_cases h : m < 128
  · refine go_condF (by simp (disch := omega) [go_sem, *, -List.reduceReplicate]; try first | rfl | omega) ?_
    refine Wk ?_
    have hfin : (leb n).map byteAV = acc.map byteAV ++ [.lit (.int .u8 (IntKind.u8.wrap (m : Int)))] := by
      rw [← hacc, leb_small h, List.map_append, List.map_cons, List.map_nil, byteAV_ofNat (by omega), IntKind.wrap_u8, Int.emod_eq_of_lt (by omega) (by omega)]
    have hlen : (leb n).length = acc.length + 1 := by rw [← hacc, leb_small h]; simp
    rw [hfin, hlen]
    refine go_result1 (r0 := N+2) (by simp (disch := omega) [go_sem, *, -List.reduceReplicate]; rfl) (by omega) (by simp (disch := omega) [go_sem]; try rfl) (fun id hid => by simp (disch := omega) only [upd_ne, wr_cons, wr_nil]; try exact hlow id hid) (by simp (disch := omega) only [upd_same, upd_ne]; rfl) (by simp (disch := omega) [go_sem])
  · have ht : (m : Int).tmod 128 = (m : Int) % 128 := Int.tmod_eq_emod_of_nonneg (by omega)
    have hb : IntKind.u8.wrap ((m : Int) % 128 + 128) = (m : Int) % 128 + 128 := by rw [IntKind.wrap_u8]; omega
    have hbv : byteAV (u8 (m % 128 + 128)) = .lit (.int .u8 ((m : Int) % 128 + 128)) := by rw [byteAV_ofNat (by omega)]; simp
    refine Wk ?_
    refine ⟨⟨m / 128, acc ++ [u8 (m % 128 + 128)], by simp (disch := omega) [go_sem, *, -List.reduceReplicate], by simp (disch := omega) [go_sem, *, -List.reduceReplicate], by simp (disch := omega) [go_sem, *, -List.reduceReplicate], by simp only; omega, (fun id hid => by simp (disch := omega) only [upd_ne, wr_cons, wr_nil]; try exact hlow id hid), by rw [← hacc, leb_big h]; simp, by omega⟩, ?_⟩
    simp (disch := omega) [go_sem, *, -List.reduceReplicate]
    omega

theorem Append_ok (bs : List UInt8) (hb : bs.length ≤ 10000000) (n : Nat) (h : n ≤ 281474976710656) (k : Nat) :
    ACall Tryz.prog 174 [.slice none (bs.map byteAV), .lit (.int .i64 n)] k [] (.tup [.slice (some k) ((bs ++ leb n).map byteAV), .lit (.int .i64 0)]) [(k, .row 5 1 (bs.length + (leb n).length))] := by
  have hl := leb_len n 7 (by omega)
  have hc := SClone_spec bs (by omega)
  refine Bd Tryz.func174 Tryz.ntmps174 fun σ N hp hpn hk hkn hfree => ?_
  have g1 : ¬ (n : Int) < 0 := by omega
  have g2 : ¬ (281474976710656 : Int) < n := by omega
  have hcs := And.intro hc True.intro
  refine Wk ?_
  refine go_loop (aloop mixed (by kernel_rfl) (fun c => ∃ (m : Nat) (acc : List UInt8), c.s 1 = .lit (.int .i64 m) ∧ c.s 6 = .slice (some (N + 9)) ((bs ++ acc).map byteAV) ∧ c.σ (N + 9) = .row 5 1 (bs.length + acc.length) ∧ N + 10 ≤ c.n ∧ (∀ id, id < N → c.σ id = σ id) ∧ acc ++ leb m = leb n ∧ m ≤ 281474976710656)
    (fun c => match c.s 1 with | .lit (.int _ m) => m.toNat | _ => 0) ⟨n, [], by simp (disch := omega) [go_sem, *, -List.reduceReplicate], by simp (disch := omega) [go_sem, *, -List.reduceReplicate], by simp (disch := omega) [go_sem, *, -List.reduceReplicate], by simp, (fun id hid => by simp (disch := omega) only [upd_ne, wr_cons, wr_nil]; try exact hlow id hid), rfl, h⟩ ?_)
  rintro ⟨s, σ', n'⟩ ⟨m, acc, h0, h3, hr, hn', hlow, hacc, hm⟩
  simp only at h0 h3 hr hn' hlow
  have hal : acc.length ≤ 10 := by rw [← hacc, List.length_append] at hl; omega
  by_cases h : m < 128
  · refine Wk ?_
    have hfin : (bs ++ leb n).map byteAV = (bs ++ acc).map byteAV ++ [.lit (.int .u8 (IntKind.u8.wrap (m : Int)))] := by
      rw [← hacc, leb_small h, ← List.append_assoc, List.map_append, List.map_cons, List.map_nil, byteAV_ofNat (by omega), IntKind.wrap_u8, Int.emod_eq_of_lt (by omega) (by omega)]
    have hlen : bs.length + (leb n).length = bs.length + acc.length + 1 := by rw [← hacc, leb_small h]; simp; omega
    rw [hfin, hlen]
    refine go_result1 (r0 := N+9) (by simp (disch := omega) [go_sem, *, -List.reduceReplicate]; rfl) (by omega) (by simp (disch := omega) [go_sem]; try rfl) (fun id hid => by simp (disch := omega) only [upd_ne, wr_cons, wr_nil]; try exact hlow id hid) (by simp (disch := omega) only [upd_same, upd_ne]; rfl) (by simp (disch := omega) [go_sem])
  · have ha : bits .and .i64 (m : Int) 127 = (m : Int) % 128 := i64_and127 _ (by omega) (by omega)
    have ho : bits .or .i64 ((m : Int) % 128) 128 = (m : Int) % 128 + 128 := i64_or128 _ (by omega) (by omega)
    have hs : (m : Int).fdiv 128 = (m : Int) / 128 := by rw [Int.fdiv_eq_ediv]; simp
    have hb : IntKind.u8.wrap ((m : Int) % 128 + 128) = (m : Int) % 128 + 128 := by rw [IntKind.wrap_u8]; omega
    have hbv : byteAV (u8 (m % 128 + 128)) = .lit (.int .u8 ((m : Int) % 128 + 128)) := by rw [byteAV_ofNat (by omega)]; simp
    refine Wk ?_
    refine ⟨⟨m / 128, acc ++ [u8 (m % 128 + 128)], by simp (disch := omega) [go_sem, *, -List.reduceReplicate], by simp (disch := omega) [go_sem, *, -List.reduceReplicate], by simp (disch := omega) [go_sem, *, -List.reduceReplicate]; omega, by simp only; omega, (fun id hid => by simp (disch := omega) only [upd_ne, wr_cons, wr_nil]; try exact hlow id hid), by rw [← hacc, leb_big h]; simp, by omega⟩, ?_⟩
    simp (disch := omega) [go_sem, *, -List.reduceReplicate]
    omega

theorem Number_spec_f (n k : Nat) (hn : n < 128 ^ 9) : ACall Tryz.prog 75 [.lit (.int .i64 n)] k [] (.slice none ((leb n).map byteAV)) [] := by
  have hl := leb_len n 9 hn
  refine Bd Tryz.func75 Tryz.ntmps75 fun σ N hp hpn hk hkn hfree => ?_
  refine Wk ?_
  refine go_loop (ALoop.nilrow 3 5 1 (by simp (disch := omega) [go_sem, *, -List.reduceReplicate]) ?_)
  refine aloop mixed (by kernel_rfl) (fun c => ∃ (m : Nat) (acc : List UInt8), c.s 0 = .lit (.int .i64 m) ∧ c.s 3 = .slice (some (N + 2)) (acc.map byteAV) ∧ c.σ (N + 2) = .row 5 1 acc.length ∧ N + 3 ≤ c.n ∧ (∀ id, id < N → c.σ id = σ id) ∧ acc ++ leb m = leb n ∧ m < 128 ^ 9)
    (fun c => match c.s 0 with | .lit (.int _ m) => m.toNat | _ => 0) ⟨n, [], by simp (disch := omega) [go_sem, *, -List.reduceReplicate], by simp (disch := omega) [go_sem, *, -List.reduceReplicate], by simp (disch := omega) [go_sem, *, -List.reduceReplicate], by simp, by intro id hid; simp (disch := omega) only [upd_ne], rfl, hn⟩ ?_
  rintro ⟨s, σ', n'⟩ ⟨m, acc, h0, h3, hr, hn', hlow, hacc, hm⟩
  simp only at h0 h3 hr hn' hlow
  have hal : acc.length ≤ 10 := by rw [← hacc, List.length_append] at hl; omega
  refine Wk ?_
  by_cases h : m < 128
  · refine go_condF (by simp (disch := omega) [go_sem, *, -List.reduceReplicate]; try first | rfl | omega) ?_
    refine Wk ?_
    have hfin : (leb n).map byteAV = acc.map byteAV ++ [.lit (.int .u8 (IntKind.u8.wrap (m : Int)))] := by
      rw [← hacc, leb_small h, List.map_append, List.map_cons, List.map_nil, byteAV_ofNat (by omega), IntKind.wrap_u8, Int.emod_eq_of_lt (by omega) (by omega)]
    have hlen : (leb n).length = acc.length + 1 := by rw [← hacc, leb_small h]; simp
    rw [hfin]
    refine go_resultI (by simp (disch := omega) [go_sem, *, -List.reduceReplicate]; rfl) (by first | exact AV.le_refl _ | ((first | apply AV.le_slices | apply AV.le_nilsE | apply AV.le_clipE); first | rfl | (simp (disch := omega) [go_sem, *, -List.reduceReplicate]; done))) (by simp (disch := omega) [go_sem]; try rfl) (fun id hid => by simp (disch := omega) only [upd_ne, wr_cons, wr_nil]; try exact hlow id hid)
  · have ht : (m : Int).tmod 128 = (m : Int) % 128 := Int.tmod_eq_emod_of_nonneg (by omega)
    have hb : IntKind.u8.wrap ((m : Int) % 128 + 128) = (m : Int) % 128 + 128 := by rw [IntKind.wrap_u8]; omega
    have hbv : byteAV (u8 (m % 128 + 128)) = .lit (.int .u8 ((m : Int) % 128 + 128)) := by rw [byteAV_ofNat (by omega)]; simp
    refine Wk ?_
    refine ⟨⟨m / 128, acc ++ [u8 (m % 128 + 128)], by simp (disch := omega) [go_sem, *, -List.reduceReplicate], by simp (disch := omega) [go_sem, *, -List.reduceReplicate], by simp (disch := omega) [go_sem, *, -List.reduceReplicate], by simp only; omega, (fun id hid => by simp (disch := omega) only [upd_ne, wr_cons, wr_nil]; try exact hlow id hid), by rw [← hacc, leb_big h]; simp, by omega⟩, ?_⟩
    simp (disch := omega) [go_sem, *, -List.reduceReplicate]
    omega

end Go.Proofs.YtemmlldpmgfblaaGreatDoor

/- SHA-256: slices.Concat of two byte strings. -/
namespace Go.Proofs.YtemmlldpmgfblaaGreatDoor
open Go.Ab
attribute [local irreducible] Go.Ab.tyAV Go.Ab.aw Go.Ab.aops Go.Ab.kReg Go.Ab.aThen Go.Ab.aBlk Go.Ab.acond Go.Ab.aguard Go.Ab.astep Go.Ab.AStepX Go.Ab.aRet

@[go_sem] theorem renl_rep0 (f : Nat → Option Nat) (n : Nat) (v : Value) : AV.renl f (List.replicate n (.lit v)) = List.replicate n (.lit v) := by
  rw [AV.renl_map, List.map_replicate]; rfl
end Go.Proofs.YtemmlldpmgfblaaGreatDoor

/- SHA-256: Write and New. -/
namespace Go.Proofs.YtemmlldpmgfblaaGreatDoor
open Go.Ab
attribute [local irreducible] Go.Ab.tyAV Go.Ab.aw Go.Ab.aops Go.Ab.kReg Go.Ab.aThen Go.Ab.aBlk Go.Ab.acond Go.Ab.aguard Go.Ab.astep Go.Ab.AStepX Go.Ab.aRet

theorem V8_len (v : V8) : v.l.length = 8 := rfl
@[go_sem] theorem v8_sz (v : V8) : (v8AV v).sz = 8 := by rw [v8AV, uuAV_sz, V8_len]
@[go_sem] theorem v8_isAgg (v : V8) : (v8AV v).isAgg = true := by rw [v8AV, uuAV_isAgg]
@[go_sem] theorem v8_cell (v : V8) : (v8AV v).cell = true := by rw [v8AV, uuAV_cell]
@[go_sem] theorem v8_ren (f : Nat → Option Nat) (v : V8) : (v8AV v).ren f = v8AV v := by rw [v8AV, uuAV_ren]
attribute [local irreducible] v8AV shaG
section
variable [W : W32]
/-- The state after q blocks. -/
def comp : Nat → V8 → List UInt8 → V8
  | 0, h, _ => h
  | q + 1, h, L => comp q (chg h (L.take 64)) (L.drop 64)
theorem comp_step (h : V8) (L : List UInt8) (hl : 64 ≤ L.length) : comp (L.length / 64) h L = comp ((L.drop 64).length / 64) (chg h (L.take 64)) (L.drop 64) := by
  have : L.length / 64 = (L.drop 64).length / 64 + 1 := by rw [List.length_drop]; omega
  rw [this, comp]
end
end Go.Proofs.YtemmlldpmgfblaaGreatDoor

/- Shared: the eight bytes of a number. -/
namespace Go.Proofs.YtemmlldpmgfblaaGreatDoor
open Go.Ab
attribute [local irreducible] Go.Ab.tyAV Go.Ab.aw Go.Ab.aops Go.Ab.kReg Go.Ab.aThen Go.Ab.aBlk Go.Ab.acond Go.Ab.aguard Go.Ab.astep Go.Ab.AStepX Go.Ab.aRet

def sh8 (m : Int) (s : Nat) : UInt8 := UInt8.ofNat ((m / (2 : Int) ^ s) % 256).toNat
theorem sh8_toNat (m : Int) (s : Nat) : ((sh8 m s).toNat : Int) = (m / (2 : Int) ^ s) % 256 := by
  unfold sh8
  rw [UInt8.toNat_ofNat']
  omega
theorem sh8_wrap (m : Int) (s : Nat) : IntKind.u8.wrap (m.fdiv ((2 : Int) ^ s)) = ((sh8 m s).toNat : Int) := by
  have hp : (0 : Int) ≤ 2 ^ s := Int.le_of_lt (Int.pow_pos (by decide))
  rw [sh8_toNat, IntKind.wrap_u8, Int.fdiv_eq_ediv, if_pos (.inl hp), Int.sub_zero]
def eightB (m : Int) : List UInt8 := [sh8 m 56, sh8 m 48, sh8 m 40, sh8 m 32, sh8 m 24, sh8 m 16, sh8 m 8, sh8 m 0]
theorem eightB_len (m : Int) : (eightB m).length = 8 := rfl

attribute [go_sem] ren_byteAV
theorem Eight_spec (m : Int) (m0 : 0 ≤ m) (m1 : m < 18446744073709551616) (k : Nat) :
    ACall Tryz.prog 144 [.lit (.int .u64 m)] k [] (.slice none ((eightB m).map byteAV)) [] := by
  have e7 := sh8_wrap m 56
  have e6 := sh8_wrap m 48
  have e5 := sh8_wrap m 40
  have e4 := sh8_wrap m 32
  have e3 := sh8_wrap m 24
  have e2 := sh8_wrap m 16
  have e1 := sh8_wrap m 8
  have e0 := sh8_wrap m 0
  simp only [Int.reducePow, Int.pow_zero, Int.fdiv_one] at e7 e6 e5 e4 e3 e2 e1 e0
  unfold eightB
  generalize sh8 m 56 = b7 at *
  generalize sh8 m 48 = b6 at *
  generalize sh8 m 40 = b5 at *
  generalize sh8 m 32 = b4 at *
  generalize sh8 m 24 = b3 at *
  generalize sh8 m 16 = b2 at *
  generalize sh8 m 8 = b1 at *
  generalize sh8 m 0 = b0 at *
  refine Bd Tryz.func144 Tryz.ntmps144 fun σ N hp hpn hk hkn hfree => ?_
  refine Wk ?_
  refine ALoop.nilrow 3 5 1 (by simp (disch := omega) [go_sem, *, -List.reduceReplicate]) ?_
  refine go_loopB (N) mixed (by kernel_rfl) [3, 4, 5, 6, 7, 8, 9, 10, 11, 12, 13, 14, 15, 16] [] (fun m_ s_ σ_ n_ => ∃ (u : Nat) (q : Nat) (acc : List UInt8), m_ = 8 - u ∧ s_ 4 = .lit (.int .i64 (56 - 8 * (u : Int))) ∧ s_ 3 = .slice (some q) (acc.map byteAV) ∧ σ_ (q) = .row 5 1 acc.length ∧ (u ≤ 8) ∧ (N ≤ q) ∧ (q < n_) ∧ (acc = [b7, b6, b5, b4, b3, b2, b1, b0].take u)) ⟨_, 0, _, [], rfl, WF, WF, WF, WC, WC, WC, WC⟩ ?_
  intro m_1 s_1 σ_1 n_1 hs_1 hf_1 hn_1 hI_1
  obtain ⟨u, q, acc, hm_1, h1_4, h1_3, e1_0, hu, hq, hqn, hacc⟩ := hI_1
  have h1_0 := KS hs_1 0
  have h1_2 := KS hs_1 2
  have hlow := KL (N := N) (σ := σ) hf_1
  have hb7 : byteAV b7 = .lit (.int .u8 b7.toNat) := rfl
  have hb6 : byteAV b6 = .lit (.int .u8 b6.toNat) := rfl
  have hb5 : byteAV b5 = .lit (.int .u8 b5.toNat) := rfl
  have hb4 : byteAV b4 = .lit (.int .u8 b4.toNat) := rfl
  have hb3 : byteAV b3 = .lit (.int .u8 b3.toNat) := rfl
  have hb2 : byteAV b2 = .lit (.int .u8 b2.toNat) := rfl
  have hb1 : byteAV b1 = .lit (.int .u8 b1.toNat) := rfl
  have hb0 : byteAV b0 = .lit (.int .u8 b0.toNat) := rfl
  have hcase : u = 0 ∨ u = 1 ∨ u = 2 ∨ u = 3 ∨ u = 4 ∨ u = 5 ∨ u = 6 ∨ u = 7 ∨ u = 8 := by omega
  rcases hcase with rfl | hcase
  · simp only [List.take_succ_cons, List.take_zero] at hacc
    subst hacc
    refine Wk ?_
    exact ⟨WS, WG, WN, _, (show 8 - (1) < m_1 by omega), 1, q, [b7], rfl, WF, WF, WF, WC, WC, WC, WC⟩
  rcases hcase with rfl | hcase
  · simp only [List.take_succ_cons, List.take_zero] at hacc
    subst hacc
    refine Wk ?_
    exact ⟨WS, WG, WN, _, (show 8 - (2) < m_1 by omega), 2, q, [b7, b6], rfl, WF, WF, WF, WC, WC, WC, WC⟩
  rcases hcase with rfl | hcase
  · simp only [List.take_succ_cons, List.take_zero] at hacc
    subst hacc
    refine Wk ?_
    exact ⟨WS, WG, WN, _, (show 8 - (3) < m_1 by omega), 3, q, [b7, b6, b5], rfl, WF, WF, WF, WC, WC, WC, WC⟩
  rcases hcase with rfl | hcase
  · simp only [List.take_succ_cons, List.take_zero] at hacc
    subst hacc
    refine Wk ?_
    exact ⟨WS, WG, WN, _, (show 8 - (4) < m_1 by omega), 4, q, [b7, b6, b5, b4], rfl, WF, WF, WF, WC, WC, WC, WC⟩
  rcases hcase with rfl | hcase
  · simp only [List.take_succ_cons, List.take_zero] at hacc
    subst hacc
    refine Wk ?_
    exact ⟨WS, WG, WN, _, (show 8 - (5) < m_1 by omega), 5, q, [b7, b6, b5, b4, b3], rfl, WF, WF, WF, WC, WC, WC, WC⟩
  rcases hcase with rfl | hcase
  · simp only [List.take_succ_cons, List.take_zero] at hacc
    subst hacc
    refine Wk ?_
    exact ⟨WS, WG, WN, _, (show 8 - (6) < m_1 by omega), 6, q, [b7, b6, b5, b4, b3, b2], rfl, WF, WF, WF, WC, WC, WC, WC⟩
  rcases hcase with rfl | hcase
  · simp only [List.take_succ_cons, List.take_zero] at hacc
    subst hacc
    refine Wk ?_
    exact ⟨WS, WG, WN, _, (show 8 - (7) < m_1 by omega), 7, q, [b7, b6, b5, b4, b3, b2, b1], rfl, WF, WF, WF, WC, WC, WC, WC⟩
  rcases hcase with rfl | hcase
  · simp only [List.take_succ_cons, List.take_zero] at hacc
    subst hacc
    refine Wk ?_
    exact ⟨WS, WG, WN, _, (show 8 - (8) < m_1 by omega), 8, q, [b7, b6, b5, b4, b3, b2, b1, b0], rfl, WF, WF, WF, WC, WC, WC, WC⟩
  subst hcase
  simp only [List.take_succ_cons, List.take_zero] at hacc
  subst hacc
  exact WM
end Go.Proofs.YtemmlldpmgfblaaGreatDoor
