/- Closed facts on the types of this seat's program, each by the kernel (written by facts.py off the given translation). -/
import Derived.Test.YtaelnglalpiemaaDoorRows
import Derived.Test.YtaelnglalpiemaaDoorC1
import Derived.KernelRfl
namespace Go.Proofs.YtaelnglalpiemaaDoor
open Go.Ab

theorem mixed : Tryd.prog.follows .mixedOrders = true := by kernel_rfl
@[go_sem] theorem ty1 : tyInfo Tryd.prog 1 = some (false, 1) := by kernel_rfl
@[go_sem] theorem by1 : byteTy Tryd.prog 1 = false := by kernel_rfl
@[go_sem] theorem cc1 : Program.concrete Tryd.prog 1 = true := by kernel_rfl
@[go_sem] theorem st1 : strTy Tryd.prog 1 = false := by kernel_rfl
@[go_sem] theorem nk1 : nilKind Tryd.prog 1 = 3 := by kernel_rfl
@[go_sem] theorem zt1 : ztree Tryd.prog 1 = some (.lit .nilFunc) := by kernel_rfl
@[go_sem] theorem ty2 : tyInfo Tryd.prog 2 = some (false, 1) := by kernel_rfl
@[go_sem] theorem it2 : intTy Tryd.prog 2 = some .i64 := by kernel_rfl
@[go_sem] theorem by2 : byteTy Tryd.prog 2 = false := by kernel_rfl
@[go_sem] theorem cc2 : Program.concrete Tryd.prog 2 = true := by kernel_rfl
@[go_sem] theorem st2 : strTy Tryd.prog 2 = false := by kernel_rfl
@[go_sem] theorem zt2 : ztree Tryd.prog 2 = some (.lit (.int .i64 0)) := by kernel_rfl
@[go_sem] theorem ty3 : tyInfo Tryd.prog 3 = some (false, 1) := by kernel_rfl
@[go_sem] theorem it3 : intTy Tryd.prog 3 = some .i64 := by kernel_rfl
@[go_sem] theorem by3 : byteTy Tryd.prog 3 = false := by kernel_rfl
@[go_sem] theorem cc3 : Program.concrete Tryd.prog 3 = true := by kernel_rfl
@[go_sem] theorem st3 : strTy Tryd.prog 3 = false := by kernel_rfl
@[go_sem] theorem zt3 : ztree Tryd.prog 3 = some (.lit (.int .i64 0)) := by kernel_rfl
@[go_sem] theorem ty4 : tyInfo Tryd.prog 4 = some (false, 1) := by kernel_rfl
@[go_sem] theorem by4 : byteTy Tryd.prog 4 = false := by kernel_rfl
@[go_sem] theorem cc4 : Program.concrete Tryd.prog 4 = true := by kernel_rfl
@[go_sem] theorem st4 : strTy Tryd.prog 4 = false := by kernel_rfl
@[go_sem] theorem bt4 : boolTy Tryd.prog 4 = true := by kernel_rfl
@[go_sem] theorem zt4 : ztree Tryd.prog 4 = some (.lit (.bool false)) := by kernel_rfl
@[go_sem] theorem ty5 : tyInfo Tryd.prog 5 = some (false, 1) := by kernel_rfl
@[go_sem] theorem it5 : intTy Tryd.prog 5 = some .u8 := by kernel_rfl
@[go_sem] theorem by5 : byteTy Tryd.prog 5 = true := by kernel_rfl
@[go_sem] theorem sz1_5 : sizeIs Tryd.prog 5 1 = true := by kernel_rfl
@[go_sem] theorem cc5 : Program.concrete Tryd.prog 5 = true := by kernel_rfl
@[go_sem] theorem st5 : strTy Tryd.prog 5 = false := by kernel_rfl
@[go_sem] theorem zt5 : ztree Tryd.prog 5 = some (.lit (.int .u8 0)) := by kernel_rfl
@[go_sem] theorem ty9 : tyInfo Tryd.prog 9 = some (false, 1) := by kernel_rfl
@[go_sem] theorem by9 : byteTy Tryd.prog 9 = false := by kernel_rfl
@[go_sem] theorem cc9 : Program.concrete Tryd.prog 9 = true := by kernel_rfl
@[go_sem] theorem st9 : strTy Tryd.prog 9 = true := by kernel_rfl
@[go_sem] theorem zt9 : ztree Tryd.prog 9 = some (.lit (.string ByteArray.empty)) := by kernel_rfl
@[go_sem] theorem ty12 : tyInfo Tryd.prog 12 = some (false, 1) := by kernel_rfl
@[go_sem] theorem it12 : intTy Tryd.prog 12 = some .u64 := by kernel_rfl
@[go_sem] theorem by12 : byteTy Tryd.prog 12 = false := by kernel_rfl
@[go_sem] theorem cc12 : Program.concrete Tryd.prog 12 = true := by kernel_rfl
@[go_sem] theorem st12 : strTy Tryd.prog 12 = false := by kernel_rfl
@[go_sem] theorem zt12 : ztree Tryd.prog 12 = some (.lit (.int .u64 0)) := by kernel_rfl
@[go_sem] theorem ty13 : tyInfo Tryd.prog 13 = some (true, 2) := by kernel_rfl
@[go_sem] theorem by13 : byteTy Tryd.prog 13 = false := by kernel_rfl
@[go_sem] theorem cc13 : Program.concrete Tryd.prog 13 = true := by kernel_rfl
@[go_sem] theorem st13 : strTy Tryd.prog 13 = false := by kernel_rfl
@[go_sem] theorem zt13 : ztree Tryd.prog 13 = some (.agg [(.lit (.string ByteArray.empty)), (.lit (.int .u64 0))]) := by kernel_rfl
@[go_sem] theorem sp13 : splaces Tryd.prog 13 = some [(0, 1), (1, 1)] := by kernel_rfl
@[go_sem] theorem fo13_0 : fieldOff Tryd.prog 13 0 = some 0 := by kernel_rfl
@[go_sem] theorem fo13_1 : fieldOff Tryd.prog 13 1 = some 1 := by kernel_rfl
@[go_sem] theorem ty20 : tyInfo Tryd.prog 20 = some (false, 1) := by kernel_rfl
@[go_sem] theorem by20 : byteTy Tryd.prog 20 = false := by kernel_rfl
@[go_sem] theorem st20 : strTy Tryd.prog 20 = false := by kernel_rfl
@[go_sem] theorem zt20 : ztree Tryd.prog 20 = some (.lit .nilIface) := by kernel_rfl
@[go_sem] theorem ty21 : tyInfo Tryd.prog 21 = some (false, 1) := by kernel_rfl
@[go_sem] theorem it21 : intTy Tryd.prog 21 = some .i32 := by kernel_rfl
@[go_sem] theorem by21 : byteTy Tryd.prog 21 = false := by kernel_rfl
@[go_sem] theorem cc21 : Program.concrete Tryd.prog 21 = true := by kernel_rfl
@[go_sem] theorem st21 : strTy Tryd.prog 21 = false := by kernel_rfl
@[go_sem] theorem zt21 : ztree Tryd.prog 21 = some (.lit (.int .i32 0)) := by kernel_rfl
@[go_sem] theorem ty22 : tyInfo Tryd.prog 22 = some (false, 1) := by kernel_rfl
@[go_sem] theorem it22 : intTy Tryd.prog 22 = some .u64 := by kernel_rfl
@[go_sem] theorem by22 : byteTy Tryd.prog 22 = false := by kernel_rfl
@[go_sem] theorem cc22 : Program.concrete Tryd.prog 22 = true := by kernel_rfl
@[go_sem] theorem st22 : strTy Tryd.prog 22 = false := by kernel_rfl
@[go_sem] theorem zt22 : ztree Tryd.prog 22 = some (.lit (.int .u64 0)) := by kernel_rfl
@[go_sem] theorem ty23 : tyInfo Tryd.prog 23 = some (true, 6) := by kernel_rfl
@[go_sem] theorem by23 : byteTy Tryd.prog 23 = false := by kernel_rfl
@[go_sem] theorem cc23 : Program.concrete Tryd.prog 23 = true := by kernel_rfl
@[go_sem] theorem st23 : strTy Tryd.prog 23 = false := by kernel_rfl
@[go_sem] theorem zt23 : ztree Tryd.prog 23 = some (.agg [(.lit (.int .i64 0)), (.lit (.int .u64 0)), (.lit (.int .i64 0)), (.lit (.int .i64 0)), (.lit (.string ByteArray.empty)), (.lit (.int .i64 0))]) := by kernel_rfl
@[go_sem] theorem sp23 : splaces Tryd.prog 23 = some [(0, 1), (1, 1), (2, 1), (3, 1), (4, 1), (5, 1)] := by kernel_rfl
@[go_sem] theorem fo23_0 : fieldOff Tryd.prog 23 0 = some 0 := by kernel_rfl
@[go_sem] theorem fo23_1 : fieldOff Tryd.prog 23 1 = some 1 := by kernel_rfl
@[go_sem] theorem fo23_2 : fieldOff Tryd.prog 23 2 = some 2 := by kernel_rfl
@[go_sem] theorem fo23_3 : fieldOff Tryd.prog 23 3 = some 3 := by kernel_rfl
@[go_sem] theorem fo23_4 : fieldOff Tryd.prog 23 4 = some 4 := by kernel_rfl
@[go_sem] theorem fo23_5 : fieldOff Tryd.prog 23 5 = some 5 := by kernel_rfl
@[go_sem] theorem ty24 : tyInfo Tryd.prog 24 = some (true, 6) := by kernel_rfl
@[go_sem] theorem by24 : byteTy Tryd.prog 24 = false := by kernel_rfl
@[go_sem] theorem cc24 : Program.concrete Tryd.prog 24 = true := by kernel_rfl
@[go_sem] theorem eq24 : eqTop Tryd.prog 24 = some (.agg [.int, .int, .int, .int, .str, .int]) := by kernel_rfl
@[go_sem] theorem st24 : strTy Tryd.prog 24 = false := by kernel_rfl
@[go_sem] theorem zt24 : ztree Tryd.prog 24 = some (.agg [(.lit (.int .i64 0)), (.lit (.int .u64 0)), (.lit (.int .i64 0)), (.lit (.int .i64 0)), (.lit (.string ByteArray.empty)), (.lit (.int .i64 0))]) := by kernel_rfl
@[go_sem] theorem sp24 : splaces Tryd.prog 24 = some [(0, 1), (1, 1), (2, 1), (3, 1), (4, 1), (5, 1)] := by kernel_rfl
@[go_sem] theorem fo24_0 : fieldOff Tryd.prog 24 0 = some 0 := by kernel_rfl
@[go_sem] theorem fo24_1 : fieldOff Tryd.prog 24 1 = some 1 := by kernel_rfl
@[go_sem] theorem fo24_2 : fieldOff Tryd.prog 24 2 = some 2 := by kernel_rfl
@[go_sem] theorem fo24_3 : fieldOff Tryd.prog 24 3 = some 3 := by kernel_rfl
@[go_sem] theorem fo24_4 : fieldOff Tryd.prog 24 4 = some 4 := by kernel_rfl
@[go_sem] theorem fo24_5 : fieldOff Tryd.prog 24 5 = some 5 := by kernel_rfl
@[go_sem] theorem ty25 : tyInfo Tryd.prog 25 = some (false, 1) := by kernel_rfl
@[go_sem] theorem by25 : byteTy Tryd.prog 25 = false := by kernel_rfl
@[go_sem] theorem cc25 : Program.concrete Tryd.prog 25 = true := by kernel_rfl
@[go_sem] theorem st25 : strTy Tryd.prog 25 = false := by kernel_rfl
@[go_sem] theorem sl25 : sliceTy Tryd.prog 25 = some 5 := by kernel_rfl
@[go_sem] theorem si25 : sliceInfo Tryd.prog 25 = some (5, 1, 1, (.lit (.int .u8 0))) := by kernel_rfl
@[go_sem] theorem nk25 : nilKind Tryd.prog 25 = 1 := by kernel_rfl
@[go_sem] theorem zt25 : ztree Tryd.prog 25 = some .nils := by kernel_rfl
@[go_sem] theorem ty26 : tyInfo Tryd.prog 26 = some (true, 10) := by kernel_rfl
@[go_sem] theorem by26 : byteTy Tryd.prog 26 = false := by kernel_rfl
@[go_sem] theorem cc26 : Program.concrete Tryd.prog 26 = true := by kernel_rfl
@[go_sem] theorem st26 : strTy Tryd.prog 26 = false := by kernel_rfl
@[go_sem] theorem zt26 : ztree Tryd.prog 26 = some (.agg [(.lit (.bool false)), (.agg [(.lit (.int .i64 0)), (.lit (.int .u64 0)), (.lit (.int .i64 0)), (.lit (.int .i64 0)), (.lit (.string ByteArray.empty)), (.lit (.int .i64 0))]), (.lit (.int .i64 0)), .nils, .nils]) := by kernel_rfl
@[go_sem] theorem sp26 : splaces Tryd.prog 26 = some [(0, 1), (1, 6), (7, 1), (8, 1), (9, 1)] := by kernel_rfl
@[go_sem] theorem fo26_0 : fieldOff Tryd.prog 26 0 = some 0 := by kernel_rfl
@[go_sem] theorem fo26_1 : fieldOff Tryd.prog 26 1 = some 1 := by kernel_rfl
@[go_sem] theorem fo26_2 : fieldOff Tryd.prog 26 2 = some 7 := by kernel_rfl
@[go_sem] theorem fo26_3 : fieldOff Tryd.prog 26 3 = some 8 := by kernel_rfl
@[go_sem] theorem fo26_4 : fieldOff Tryd.prog 26 4 = some 9 := by kernel_rfl
@[go_sem] theorem ty27 : tyInfo Tryd.prog 27 = some (true, 10) := by kernel_rfl
@[go_sem] theorem by27 : byteTy Tryd.prog 27 = false := by kernel_rfl
@[go_sem] theorem cc27 : Program.concrete Tryd.prog 27 = true := by kernel_rfl
@[go_sem] theorem st27 : strTy Tryd.prog 27 = false := by kernel_rfl
@[go_sem] theorem zt27 : ztree Tryd.prog 27 = some (.agg [(.lit (.bool false)), (.agg [(.lit (.int .i64 0)), (.lit (.int .u64 0)), (.lit (.int .i64 0)), (.lit (.int .i64 0)), (.lit (.string ByteArray.empty)), (.lit (.int .i64 0))]), (.lit (.int .i64 0)), .nils, .nils]) := by kernel_rfl
@[go_sem] theorem sp27 : splaces Tryd.prog 27 = some [(0, 1), (1, 6), (7, 1), (8, 1), (9, 1)] := by kernel_rfl
@[go_sem] theorem fo27_0 : fieldOff Tryd.prog 27 0 = some 0 := by kernel_rfl
@[go_sem] theorem fo27_1 : fieldOff Tryd.prog 27 1 = some 1 := by kernel_rfl
@[go_sem] theorem fo27_2 : fieldOff Tryd.prog 27 2 = some 7 := by kernel_rfl
@[go_sem] theorem fo27_3 : fieldOff Tryd.prog 27 3 = some 8 := by kernel_rfl
@[go_sem] theorem fo27_4 : fieldOff Tryd.prog 27 4 = some 9 := by kernel_rfl
@[go_sem] theorem ty28 : tyInfo Tryd.prog 28 = some (false, 1) := by kernel_rfl
@[go_sem] theorem by28 : byteTy Tryd.prog 28 = false := by kernel_rfl
@[go_sem] theorem cc28 : Program.concrete Tryd.prog 28 = true := by kernel_rfl
@[go_sem] theorem st28 : strTy Tryd.prog 28 = false := by kernel_rfl
@[go_sem] theorem sl28 : sliceTy Tryd.prog 28 = some 3 := by kernel_rfl
@[go_sem] theorem si28 : sliceInfo Tryd.prog 28 = some (3, 1, 8, (.lit (.int .i64 0))) := by kernel_rfl
@[go_sem] theorem nk28 : nilKind Tryd.prog 28 = 1 := by kernel_rfl
@[go_sem] theorem zt28 : ztree Tryd.prog 28 = some .nils := by kernel_rfl
@[go_sem] theorem ty29 : tyInfo Tryd.prog 29 = some (false, 1) := by kernel_rfl
@[go_sem] theorem by29 : byteTy Tryd.prog 29 = false := by kernel_rfl
@[go_sem] theorem cc29 : Program.concrete Tryd.prog 29 = true := by kernel_rfl
@[go_sem] theorem st29 : strTy Tryd.prog 29 = false := by kernel_rfl
@[go_sem] theorem nk29 : nilKind Tryd.prog 29 = 3 := by kernel_rfl
@[go_sem] theorem zt29 : ztree Tryd.prog 29 = some (.lit .nilFunc) := by kernel_rfl
@[go_sem] theorem ty30 : tyInfo Tryd.prog 30 = some (false, 1) := by kernel_rfl
@[go_sem] theorem by30 : byteTy Tryd.prog 30 = false := by kernel_rfl
@[go_sem] theorem cc30 : Program.concrete Tryd.prog 30 = true := by kernel_rfl
@[go_sem] theorem st30 : strTy Tryd.prog 30 = false := by kernel_rfl
@[go_sem] theorem nk30 : nilKind Tryd.prog 30 = 2 := by kernel_rfl
@[go_sem] theorem zt30 : ztree Tryd.prog 30 = some (.lit (.pointer none)) := by kernel_rfl
@[go_sem] theorem ty31 : tyInfo Tryd.prog 31 = some (false, 1) := by kernel_rfl
@[go_sem] theorem by31 : byteTy Tryd.prog 31 = false := by kernel_rfl
@[go_sem] theorem cc31 : Program.concrete Tryd.prog 31 = true := by kernel_rfl
@[go_sem] theorem st31 : strTy Tryd.prog 31 = false := by kernel_rfl
@[go_sem] theorem nk31 : nilKind Tryd.prog 31 = 3 := by kernel_rfl
@[go_sem] theorem zt31 : ztree Tryd.prog 31 = some (.lit .nilFunc) := by kernel_rfl
@[go_sem] theorem ty32 : tyInfo Tryd.prog 32 = some (false, 1) := by kernel_rfl
@[go_sem] theorem by32 : byteTy Tryd.prog 32 = false := by kernel_rfl
@[go_sem] theorem cc32 : Program.concrete Tryd.prog 32 = true := by kernel_rfl
@[go_sem] theorem st32 : strTy Tryd.prog 32 = false := by kernel_rfl
@[go_sem] theorem nk32 : nilKind Tryd.prog 32 = 3 := by kernel_rfl
@[go_sem] theorem zt32 : ztree Tryd.prog 32 = some (.lit .nilFunc) := by kernel_rfl
@[go_sem] theorem ty33 : tyInfo Tryd.prog 33 = some (false, 1) := by kernel_rfl
@[go_sem] theorem by33 : byteTy Tryd.prog 33 = false := by kernel_rfl
@[go_sem] theorem cc33 : Program.concrete Tryd.prog 33 = true := by kernel_rfl
@[go_sem] theorem st33 : strTy Tryd.prog 33 = false := by kernel_rfl
@[go_sem] theorem nk33 : nilKind Tryd.prog 33 = 3 := by kernel_rfl
@[go_sem] theorem zt33 : ztree Tryd.prog 33 = some (.lit .nilFunc) := by kernel_rfl
@[go_sem] theorem ty34 : tyInfo Tryd.prog 34 = some (false, 1) := by kernel_rfl
@[go_sem] theorem by34 : byteTy Tryd.prog 34 = false := by kernel_rfl
@[go_sem] theorem cc34 : Program.concrete Tryd.prog 34 = true := by kernel_rfl
@[go_sem] theorem st34 : strTy Tryd.prog 34 = false := by kernel_rfl
@[go_sem] theorem sl34 : sliceTy Tryd.prog 34 = some 27 := by kernel_rfl
@[go_sem] theorem si34 : sliceInfo Tryd.prog 34 = some (27, 10, 120, (.agg [(.lit (.bool false)), (.agg [(.lit (.int .i64 0)), (.lit (.int .u64 0)), (.lit (.int .i64 0)), (.lit (.int .i64 0)), (.lit (.string ByteArray.empty)), (.lit (.int .i64 0))]), (.lit (.int .i64 0)), .nils, .nils])) := by kernel_rfl
@[go_sem] theorem nk34 : nilKind Tryd.prog 34 = 1 := by kernel_rfl
@[go_sem] theorem zt34 : ztree Tryd.prog 34 = some .nils := by kernel_rfl
@[go_sem] theorem ty35 : tyInfo Tryd.prog 35 = some (false, 1) := by kernel_rfl
@[go_sem] theorem by35 : byteTy Tryd.prog 35 = false := by kernel_rfl
@[go_sem] theorem cc35 : Program.concrete Tryd.prog 35 = true := by kernel_rfl
@[go_sem] theorem st35 : strTy Tryd.prog 35 = false := by kernel_rfl
@[go_sem] theorem nk35 : nilKind Tryd.prog 35 = 3 := by kernel_rfl
@[go_sem] theorem zt35 : ztree Tryd.prog 35 = some (.lit .nilFunc) := by kernel_rfl
@[go_sem] theorem ty36 : tyInfo Tryd.prog 36 = some (false, 1) := by kernel_rfl
@[go_sem] theorem by36 : byteTy Tryd.prog 36 = false := by kernel_rfl
@[go_sem] theorem cc36 : Program.concrete Tryd.prog 36 = true := by kernel_rfl
@[go_sem] theorem st36 : strTy Tryd.prog 36 = false := by kernel_rfl
@[go_sem] theorem nk36 : nilKind Tryd.prog 36 = 3 := by kernel_rfl
@[go_sem] theorem zt36 : ztree Tryd.prog 36 = some (.lit .nilFunc) := by kernel_rfl
@[go_sem] theorem ty37 : tyInfo Tryd.prog 37 = some (false, 1) := by kernel_rfl
@[go_sem] theorem by37 : byteTy Tryd.prog 37 = false := by kernel_rfl
@[go_sem] theorem cc37 : Program.concrete Tryd.prog 37 = true := by kernel_rfl
@[go_sem] theorem st37 : strTy Tryd.prog 37 = false := by kernel_rfl
@[go_sem] theorem sl37 : sliceTy Tryd.prog 37 = some 24 := by kernel_rfl
@[go_sem] theorem si37 : sliceInfo Tryd.prog 37 = some (24, 6, 56, (.agg [(.lit (.int .i64 0)), (.lit (.int .u64 0)), (.lit (.int .i64 0)), (.lit (.int .i64 0)), (.lit (.string ByteArray.empty)), (.lit (.int .i64 0))])) := by kernel_rfl
@[go_sem] theorem nk37 : nilKind Tryd.prog 37 = 1 := by kernel_rfl
@[go_sem] theorem zt37 : ztree Tryd.prog 37 = some .nils := by kernel_rfl
@[go_sem] theorem ty38 : tyInfo Tryd.prog 38 = some (false, 1) := by kernel_rfl
@[go_sem] theorem by38 : byteTy Tryd.prog 38 = false := by kernel_rfl
@[go_sem] theorem cc38 : Program.concrete Tryd.prog 38 = true := by kernel_rfl
@[go_sem] theorem st38 : strTy Tryd.prog 38 = false := by kernel_rfl
@[go_sem] theorem nk38 : nilKind Tryd.prog 38 = 3 := by kernel_rfl
@[go_sem] theorem zt38 : ztree Tryd.prog 38 = some (.lit .nilFunc) := by kernel_rfl
@[go_sem] theorem ty39 : tyInfo Tryd.prog 39 = some (false, 1) := by kernel_rfl
@[go_sem] theorem by39 : byteTy Tryd.prog 39 = false := by kernel_rfl
@[go_sem] theorem cc39 : Program.concrete Tryd.prog 39 = true := by kernel_rfl
@[go_sem] theorem st39 : strTy Tryd.prog 39 = false := by kernel_rfl
@[go_sem] theorem nk39 : nilKind Tryd.prog 39 = 3 := by kernel_rfl
@[go_sem] theorem zt39 : ztree Tryd.prog 39 = some (.lit .nilFunc) := by kernel_rfl
@[go_sem] theorem ty40 : tyInfo Tryd.prog 40 = some (false, 1) := by kernel_rfl
@[go_sem] theorem by40 : byteTy Tryd.prog 40 = false := by kernel_rfl
@[go_sem] theorem cc40 : Program.concrete Tryd.prog 40 = true := by kernel_rfl
@[go_sem] theorem st40 : strTy Tryd.prog 40 = false := by kernel_rfl
@[go_sem] theorem nk40 : nilKind Tryd.prog 40 = 3 := by kernel_rfl
@[go_sem] theorem zt40 : ztree Tryd.prog 40 = some (.lit .nilFunc) := by kernel_rfl
@[go_sem] theorem ty41 : tyInfo Tryd.prog 41 = some (false, 1) := by kernel_rfl
@[go_sem] theorem by41 : byteTy Tryd.prog 41 = false := by kernel_rfl
@[go_sem] theorem cc41 : Program.concrete Tryd.prog 41 = true := by kernel_rfl
@[go_sem] theorem st41 : strTy Tryd.prog 41 = false := by kernel_rfl
@[go_sem] theorem nk41 : nilKind Tryd.prog 41 = 3 := by kernel_rfl
@[go_sem] theorem zt41 : ztree Tryd.prog 41 = some (.lit .nilFunc) := by kernel_rfl
@[go_sem] theorem ty42 : tyInfo Tryd.prog 42 = some (false, 1) := by kernel_rfl
@[go_sem] theorem it42 : intTy Tryd.prog 42 = some .u16 := by kernel_rfl
@[go_sem] theorem by42 : byteTy Tryd.prog 42 = false := by kernel_rfl
@[go_sem] theorem cc42 : Program.concrete Tryd.prog 42 = true := by kernel_rfl
@[go_sem] theorem st42 : strTy Tryd.prog 42 = false := by kernel_rfl
@[go_sem] theorem zt42 : ztree Tryd.prog 42 = some (.lit (.int .u16 0)) := by kernel_rfl
@[go_sem] theorem ty43 : tyInfo Tryd.prog 43 = some (false, 1) := by kernel_rfl
@[go_sem] theorem it43 : intTy Tryd.prog 43 = some .i64 := by kernel_rfl
@[go_sem] theorem by43 : byteTy Tryd.prog 43 = false := by kernel_rfl
@[go_sem] theorem cc43 : Program.concrete Tryd.prog 43 = true := by kernel_rfl
@[go_sem] theorem st43 : strTy Tryd.prog 43 = false := by kernel_rfl
@[go_sem] theorem zt43 : ztree Tryd.prog 43 = some (.lit (.int .i64 0)) := by kernel_rfl
@[go_sem] theorem ty45 : tyInfo Tryd.prog 45 = some (false, 1) := by kernel_rfl
@[go_sem] theorem by45 : byteTy Tryd.prog 45 = false := by kernel_rfl
@[go_sem] theorem cc45 : Program.concrete Tryd.prog 45 = true := by kernel_rfl
@[go_sem] theorem st45 : strTy Tryd.prog 45 = false := by kernel_rfl
@[go_sem] theorem nk45 : nilKind Tryd.prog 45 = 3 := by kernel_rfl
@[go_sem] theorem zt45 : ztree Tryd.prog 45 = some (.lit .nilFunc) := by kernel_rfl
@[go_sem] theorem ty46 : tyInfo Tryd.prog 46 = some (false, 1) := by kernel_rfl
@[go_sem] theorem by46 : byteTy Tryd.prog 46 = false := by kernel_rfl
@[go_sem] theorem cc46 : Program.concrete Tryd.prog 46 = true := by kernel_rfl
@[go_sem] theorem st46 : strTy Tryd.prog 46 = false := by kernel_rfl
@[go_sem] theorem nk46 : nilKind Tryd.prog 46 = 3 := by kernel_rfl
@[go_sem] theorem zt46 : ztree Tryd.prog 46 = some (.lit .nilFunc) := by kernel_rfl
@[go_sem] theorem ty47 : tyInfo Tryd.prog 47 = some (true, 2) := by kernel_rfl
@[go_sem] theorem by47 : byteTy Tryd.prog 47 = false := by kernel_rfl
@[go_sem] theorem cc47 : Program.concrete Tryd.prog 47 = true := by kernel_rfl
@[go_sem] theorem st47 : strTy Tryd.prog 47 = false := by kernel_rfl
@[go_sem] theorem ar47 : arrInfo Tryd.prog 47 = some (2, 25, 1) := by kernel_rfl
@[go_sem] theorem sp47 : splaces Tryd.prog 47 = none := by kernel_rfl
@[go_sem] theorem zt47 : ztree Tryd.prog 47 = some (.agg (List.replicate 2 .nils)) := by kernel_rfl
@[go_sem] theorem ty48 : tyInfo Tryd.prog 48 = some (true, 8) := by kernel_rfl
@[go_sem] theorem by48 : byteTy Tryd.prog 48 = false := by kernel_rfl
@[go_sem] theorem cc48 : Program.concrete Tryd.prog 48 = true := by kernel_rfl
@[go_sem] theorem st48 : strTy Tryd.prog 48 = false := by kernel_rfl
@[go_sem] theorem zt48 : ztree Tryd.prog 48 = some (.agg [(.agg (List.replicate 2 .nils)), (.lit (.int .i64 0)), (.lit (.int .i64 0)), (.lit (.int .i64 0)), (.lit (.int .i64 0)), (.lit (.int .i64 0)), (.lit (.bool false))]) := by kernel_rfl
@[go_sem] theorem sp48 : splaces Tryd.prog 48 = some [(0, 2), (2, 1), (3, 1), (4, 1), (5, 1), (6, 1), (7, 1)] := by kernel_rfl
@[go_sem] theorem fo48_0 : fieldOff Tryd.prog 48 0 = some 0 := by kernel_rfl
@[go_sem] theorem fo48_1 : fieldOff Tryd.prog 48 1 = some 2 := by kernel_rfl
@[go_sem] theorem fo48_2 : fieldOff Tryd.prog 48 2 = some 3 := by kernel_rfl
@[go_sem] theorem fo48_3 : fieldOff Tryd.prog 48 3 = some 4 := by kernel_rfl
@[go_sem] theorem fo48_4 : fieldOff Tryd.prog 48 4 = some 5 := by kernel_rfl
@[go_sem] theorem fo48_5 : fieldOff Tryd.prog 48 5 = some 6 := by kernel_rfl
@[go_sem] theorem fo48_6 : fieldOff Tryd.prog 48 6 = some 7 := by kernel_rfl
@[go_sem] theorem ty49 : tyInfo Tryd.prog 49 = some (true, 8) := by kernel_rfl
@[go_sem] theorem by49 : byteTy Tryd.prog 49 = false := by kernel_rfl
@[go_sem] theorem cc49 : Program.concrete Tryd.prog 49 = true := by kernel_rfl
@[go_sem] theorem st49 : strTy Tryd.prog 49 = false := by kernel_rfl
@[go_sem] theorem zt49 : ztree Tryd.prog 49 = some (.agg [(.agg (List.replicate 2 .nils)), (.lit (.int .i64 0)), (.lit (.int .i64 0)), (.lit (.int .i64 0)), (.lit (.int .i64 0)), (.lit (.int .i64 0)), (.lit (.bool false))]) := by kernel_rfl
@[go_sem] theorem sp49 : splaces Tryd.prog 49 = some [(0, 2), (2, 1), (3, 1), (4, 1), (5, 1), (6, 1), (7, 1)] := by kernel_rfl
@[go_sem] theorem fo49_0 : fieldOff Tryd.prog 49 0 = some 0 := by kernel_rfl
@[go_sem] theorem fo49_1 : fieldOff Tryd.prog 49 1 = some 2 := by kernel_rfl
@[go_sem] theorem fo49_2 : fieldOff Tryd.prog 49 2 = some 3 := by kernel_rfl
@[go_sem] theorem fo49_3 : fieldOff Tryd.prog 49 3 = some 4 := by kernel_rfl
@[go_sem] theorem fo49_4 : fieldOff Tryd.prog 49 4 = some 5 := by kernel_rfl
@[go_sem] theorem fo49_5 : fieldOff Tryd.prog 49 5 = some 6 := by kernel_rfl
@[go_sem] theorem fo49_6 : fieldOff Tryd.prog 49 6 = some 7 := by kernel_rfl
@[go_sem] theorem ty51 : tyInfo Tryd.prog 51 = some (false, 1) := by kernel_rfl
@[go_sem] theorem by51 : byteTy Tryd.prog 51 = false := by kernel_rfl
@[go_sem] theorem cc51 : Program.concrete Tryd.prog 51 = true := by kernel_rfl
@[go_sem] theorem st51 : strTy Tryd.prog 51 = false := by kernel_rfl
@[go_sem] theorem nk51 : nilKind Tryd.prog 51 = 3 := by kernel_rfl
@[go_sem] theorem zt51 : ztree Tryd.prog 51 = some (.lit .nilFunc) := by kernel_rfl
@[go_sem] theorem ty52 : tyInfo Tryd.prog 52 = some (false, 1) := by kernel_rfl
@[go_sem] theorem by52 : byteTy Tryd.prog 52 = false := by kernel_rfl
@[go_sem] theorem cc52 : Program.concrete Tryd.prog 52 = true := by kernel_rfl
@[go_sem] theorem st52 : strTy Tryd.prog 52 = false := by kernel_rfl
@[go_sem] theorem nk52 : nilKind Tryd.prog 52 = 3 := by kernel_rfl
@[go_sem] theorem zt52 : ztree Tryd.prog 52 = some (.lit .nilFunc) := by kernel_rfl
@[go_sem] theorem ty53 : tyInfo Tryd.prog 53 = some (false, 1) := by kernel_rfl
@[go_sem] theorem by53 : byteTy Tryd.prog 53 = false := by kernel_rfl
@[go_sem] theorem cc53 : Program.concrete Tryd.prog 53 = true := by kernel_rfl
@[go_sem] theorem st53 : strTy Tryd.prog 53 = false := by kernel_rfl
@[go_sem] theorem nk53 : nilKind Tryd.prog 53 = 3 := by kernel_rfl
@[go_sem] theorem zt53 : ztree Tryd.prog 53 = some (.lit .nilFunc) := by kernel_rfl
@[go_sem] theorem ty54 : tyInfo Tryd.prog 54 = some (false, 1) := by kernel_rfl
@[go_sem] theorem by54 : byteTy Tryd.prog 54 = false := by kernel_rfl
@[go_sem] theorem cc54 : Program.concrete Tryd.prog 54 = true := by kernel_rfl
@[go_sem] theorem st54 : strTy Tryd.prog 54 = false := by kernel_rfl
@[go_sem] theorem sl54 : sliceTy Tryd.prog 54 = some 25 := by kernel_rfl
@[go_sem] theorem si54 : sliceInfo Tryd.prog 54 = some (25, 1, 24, .nils) := by kernel_rfl
@[go_sem] theorem nk54 : nilKind Tryd.prog 54 = 1 := by kernel_rfl
@[go_sem] theorem zt54 : ztree Tryd.prog 54 = some .nils := by kernel_rfl
@[go_sem] theorem ty56 : tyInfo Tryd.prog 56 = some (false, 1) := by kernel_rfl
@[go_sem] theorem by56 : byteTy Tryd.prog 56 = false := by kernel_rfl
@[go_sem] theorem cc56 : Program.concrete Tryd.prog 56 = true := by kernel_rfl
@[go_sem] theorem st56 : strTy Tryd.prog 56 = false := by kernel_rfl
@[go_sem] theorem nk56 : nilKind Tryd.prog 56 = 3 := by kernel_rfl
@[go_sem] theorem zt56 : ztree Tryd.prog 56 = some (.lit .nilFunc) := by kernel_rfl
@[go_sem] theorem ty57 : tyInfo Tryd.prog 57 = some (false, 1) := by kernel_rfl
@[go_sem] theorem by57 : byteTy Tryd.prog 57 = false := by kernel_rfl
@[go_sem] theorem cc57 : Program.concrete Tryd.prog 57 = true := by kernel_rfl
@[go_sem] theorem st57 : strTy Tryd.prog 57 = false := by kernel_rfl
@[go_sem] theorem nk57 : nilKind Tryd.prog 57 = 3 := by kernel_rfl
@[go_sem] theorem zt57 : ztree Tryd.prog 57 = some (.lit .nilFunc) := by kernel_rfl
@[go_sem] theorem ty58 : tyInfo Tryd.prog 58 = some (false, 1) := by kernel_rfl
@[go_sem] theorem by58 : byteTy Tryd.prog 58 = false := by kernel_rfl
@[go_sem] theorem cc58 : Program.concrete Tryd.prog 58 = true := by kernel_rfl
@[go_sem] theorem st58 : strTy Tryd.prog 58 = false := by kernel_rfl
@[go_sem] theorem nk58 : nilKind Tryd.prog 58 = 3 := by kernel_rfl
@[go_sem] theorem zt58 : ztree Tryd.prog 58 = some (.lit .nilFunc) := by kernel_rfl
@[go_sem] theorem ty60 : tyInfo Tryd.prog 60 = some (false, 1) := by kernel_rfl
@[go_sem] theorem by60 : byteTy Tryd.prog 60 = false := by kernel_rfl
@[go_sem] theorem cc60 : Program.concrete Tryd.prog 60 = true := by kernel_rfl
@[go_sem] theorem st60 : strTy Tryd.prog 60 = false := by kernel_rfl
@[go_sem] theorem nk60 : nilKind Tryd.prog 60 = 3 := by kernel_rfl
@[go_sem] theorem zt60 : ztree Tryd.prog 60 = some (.lit .nilFunc) := by kernel_rfl
@[go_sem] theorem ty61 : tyInfo Tryd.prog 61 = some (false, 1) := by kernel_rfl
@[go_sem] theorem by61 : byteTy Tryd.prog 61 = false := by kernel_rfl
@[go_sem] theorem cc61 : Program.concrete Tryd.prog 61 = true := by kernel_rfl
@[go_sem] theorem st61 : strTy Tryd.prog 61 = false := by kernel_rfl
@[go_sem] theorem nk61 : nilKind Tryd.prog 61 = 3 := by kernel_rfl
@[go_sem] theorem zt61 : ztree Tryd.prog 61 = some (.lit .nilFunc) := by kernel_rfl
@[go_sem] theorem ty62 : tyInfo Tryd.prog 62 = some (false, 1) := by kernel_rfl
@[go_sem] theorem by62 : byteTy Tryd.prog 62 = false := by kernel_rfl
@[go_sem] theorem cc62 : Program.concrete Tryd.prog 62 = true := by kernel_rfl
@[go_sem] theorem st62 : strTy Tryd.prog 62 = false := by kernel_rfl
@[go_sem] theorem nk62 : nilKind Tryd.prog 62 = 3 := by kernel_rfl
@[go_sem] theorem zt62 : ztree Tryd.prog 62 = some (.lit .nilFunc) := by kernel_rfl
@[go_sem] theorem ty63 : tyInfo Tryd.prog 63 = some (false, 1) := by kernel_rfl
@[go_sem] theorem by63 : byteTy Tryd.prog 63 = false := by kernel_rfl
@[go_sem] theorem cc63 : Program.concrete Tryd.prog 63 = true := by kernel_rfl
@[go_sem] theorem st63 : strTy Tryd.prog 63 = false := by kernel_rfl
@[go_sem] theorem nk63 : nilKind Tryd.prog 63 = 3 := by kernel_rfl
@[go_sem] theorem zt63 : ztree Tryd.prog 63 = some (.lit .nilFunc) := by kernel_rfl
@[go_sem] theorem ty64 : tyInfo Tryd.prog 64 = some (false, 1) := by kernel_rfl
@[go_sem] theorem by64 : byteTy Tryd.prog 64 = false := by kernel_rfl
@[go_sem] theorem cc64 : Program.concrete Tryd.prog 64 = true := by kernel_rfl
@[go_sem] theorem st64 : strTy Tryd.prog 64 = false := by kernel_rfl
@[go_sem] theorem nk64 : nilKind Tryd.prog 64 = 3 := by kernel_rfl
@[go_sem] theorem zt64 : ztree Tryd.prog 64 = some (.lit .nilFunc) := by kernel_rfl
@[go_sem] theorem ty65 : tyInfo Tryd.prog 65 = some (false, 1) := by kernel_rfl
@[go_sem] theorem by65 : byteTy Tryd.prog 65 = false := by kernel_rfl
@[go_sem] theorem cc65 : Program.concrete Tryd.prog 65 = true := by kernel_rfl
@[go_sem] theorem st65 : strTy Tryd.prog 65 = false := by kernel_rfl
@[go_sem] theorem nk65 : nilKind Tryd.prog 65 = 3 := by kernel_rfl
@[go_sem] theorem zt65 : ztree Tryd.prog 65 = some (.lit .nilFunc) := by kernel_rfl
@[go_sem] theorem ty66 : tyInfo Tryd.prog 66 = some (false, 1) := by kernel_rfl
@[go_sem] theorem by66 : byteTy Tryd.prog 66 = false := by kernel_rfl
@[go_sem] theorem cc66 : Program.concrete Tryd.prog 66 = true := by kernel_rfl
@[go_sem] theorem st66 : strTy Tryd.prog 66 = false := by kernel_rfl
@[go_sem] theorem sl66 : sliceTy Tryd.prog 66 = some 49 := by kernel_rfl
@[go_sem] theorem si66 : sliceInfo Tryd.prog 66 = some (49, 8, 96, (.agg [(.agg (List.replicate 2 .nils)), (.lit (.int .i64 0)), (.lit (.int .i64 0)), (.lit (.int .i64 0)), (.lit (.int .i64 0)), (.lit (.int .i64 0)), (.lit (.bool false))])) := by kernel_rfl
@[go_sem] theorem nk66 : nilKind Tryd.prog 66 = 1 := by kernel_rfl
@[go_sem] theorem zt66 : ztree Tryd.prog 66 = some .nils := by kernel_rfl
@[go_sem] theorem ty67 : tyInfo Tryd.prog 67 = some (false, 1) := by kernel_rfl
@[go_sem] theorem by67 : byteTy Tryd.prog 67 = false := by kernel_rfl
@[go_sem] theorem cc67 : Program.concrete Tryd.prog 67 = true := by kernel_rfl
@[go_sem] theorem st67 : strTy Tryd.prog 67 = false := by kernel_rfl
@[go_sem] theorem nk67 : nilKind Tryd.prog 67 = 3 := by kernel_rfl
@[go_sem] theorem zt67 : ztree Tryd.prog 67 = some (.lit .nilFunc) := by kernel_rfl
@[go_sem] theorem ty68 : tyInfo Tryd.prog 68 = some (false, 1) := by kernel_rfl
@[go_sem] theorem by68 : byteTy Tryd.prog 68 = false := by kernel_rfl
@[go_sem] theorem cc68 : Program.concrete Tryd.prog 68 = true := by kernel_rfl
@[go_sem] theorem st68 : strTy Tryd.prog 68 = false := by kernel_rfl
@[go_sem] theorem nk68 : nilKind Tryd.prog 68 = 3 := by kernel_rfl
@[go_sem] theorem zt68 : ztree Tryd.prog 68 = some (.lit .nilFunc) := by kernel_rfl
@[go_sem] theorem ty69 : tyInfo Tryd.prog 69 = some (false, 1) := by kernel_rfl
@[go_sem] theorem by69 : byteTy Tryd.prog 69 = false := by kernel_rfl
@[go_sem] theorem cc69 : Program.concrete Tryd.prog 69 = true := by kernel_rfl
@[go_sem] theorem st69 : strTy Tryd.prog 69 = false := by kernel_rfl
@[go_sem] theorem nk69 : nilKind Tryd.prog 69 = 3 := by kernel_rfl
@[go_sem] theorem zt69 : ztree Tryd.prog 69 = some (.lit .nilFunc) := by kernel_rfl
@[go_sem] theorem ty70 : tyInfo Tryd.prog 70 = some (false, 1) := by kernel_rfl
@[go_sem] theorem by70 : byteTy Tryd.prog 70 = false := by kernel_rfl
@[go_sem] theorem cc70 : Program.concrete Tryd.prog 70 = true := by kernel_rfl
@[go_sem] theorem st70 : strTy Tryd.prog 70 = false := by kernel_rfl
@[go_sem] theorem nk70 : nilKind Tryd.prog 70 = 3 := by kernel_rfl
@[go_sem] theorem zt70 : ztree Tryd.prog 70 = some (.lit .nilFunc) := by kernel_rfl
@[go_sem] theorem ty71 : tyInfo Tryd.prog 71 = some (false, 1) := by kernel_rfl
@[go_sem] theorem by71 : byteTy Tryd.prog 71 = false := by kernel_rfl
@[go_sem] theorem cc71 : Program.concrete Tryd.prog 71 = true := by kernel_rfl
@[go_sem] theorem st71 : strTy Tryd.prog 71 = false := by kernel_rfl
@[go_sem] theorem nk71 : nilKind Tryd.prog 71 = 3 := by kernel_rfl
@[go_sem] theorem zt71 : ztree Tryd.prog 71 = some (.lit .nilFunc) := by kernel_rfl
@[go_sem] theorem ty73 : tyInfo Tryd.prog 73 = some (false, 1) := by kernel_rfl
@[go_sem] theorem by73 : byteTy Tryd.prog 73 = false := by kernel_rfl
@[go_sem] theorem cc73 : Program.concrete Tryd.prog 73 = true := by kernel_rfl
@[go_sem] theorem st73 : strTy Tryd.prog 73 = false := by kernel_rfl
@[go_sem] theorem nk73 : nilKind Tryd.prog 73 = 3 := by kernel_rfl
@[go_sem] theorem zt73 : ztree Tryd.prog 73 = some (.lit .nilFunc) := by kernel_rfl
@[go_sem] theorem ty74 : tyInfo Tryd.prog 74 = some (false, 1) := by kernel_rfl
@[go_sem] theorem by74 : byteTy Tryd.prog 74 = false := by kernel_rfl
@[go_sem] theorem cc74 : Program.concrete Tryd.prog 74 = true := by kernel_rfl
@[go_sem] theorem st74 : strTy Tryd.prog 74 = false := by kernel_rfl
@[go_sem] theorem nk74 : nilKind Tryd.prog 74 = 3 := by kernel_rfl
@[go_sem] theorem zt74 : ztree Tryd.prog 74 = some (.lit .nilFunc) := by kernel_rfl
@[go_sem] theorem ty75 : tyInfo Tryd.prog 75 = some (false, 1) := by kernel_rfl
@[go_sem] theorem by75 : byteTy Tryd.prog 75 = false := by kernel_rfl
@[go_sem] theorem cc75 : Program.concrete Tryd.prog 75 = true := by kernel_rfl
@[go_sem] theorem st75 : strTy Tryd.prog 75 = false := by kernel_rfl
@[go_sem] theorem nk75 : nilKind Tryd.prog 75 = 3 := by kernel_rfl
@[go_sem] theorem zt75 : ztree Tryd.prog 75 = some (.lit .nilFunc) := by kernel_rfl
@[go_sem] theorem ty76 : tyInfo Tryd.prog 76 = some (false, 1) := by kernel_rfl
@[go_sem] theorem by76 : byteTy Tryd.prog 76 = false := by kernel_rfl
@[go_sem] theorem cc76 : Program.concrete Tryd.prog 76 = true := by kernel_rfl
@[go_sem] theorem st76 : strTy Tryd.prog 76 = false := by kernel_rfl
@[go_sem] theorem nk76 : nilKind Tryd.prog 76 = 3 := by kernel_rfl
@[go_sem] theorem zt76 : ztree Tryd.prog 76 = some (.lit .nilFunc) := by kernel_rfl
@[go_sem] theorem ty77 : tyInfo Tryd.prog 77 = some (true, 2) := by kernel_rfl
@[go_sem] theorem by77 : byteTy Tryd.prog 77 = false := by kernel_rfl
@[go_sem] theorem cc77 : Program.concrete Tryd.prog 77 = true := by kernel_rfl
@[go_sem] theorem st77 : strTy Tryd.prog 77 = false := by kernel_rfl
@[go_sem] theorem zt77 : ztree Tryd.prog 77 = some (.agg [.nils, (.lit (.int .i64 0))]) := by kernel_rfl
@[go_sem] theorem sp77 : splaces Tryd.prog 77 = some [(0, 1), (1, 1)] := by kernel_rfl
@[go_sem] theorem fo77_0 : fieldOff Tryd.prog 77 0 = some 0 := by kernel_rfl
@[go_sem] theorem fo77_1 : fieldOff Tryd.prog 77 1 = some 1 := by kernel_rfl
@[go_sem] theorem ty78 : tyInfo Tryd.prog 78 = some (true, 2) := by kernel_rfl
@[go_sem] theorem by78 : byteTy Tryd.prog 78 = false := by kernel_rfl
@[go_sem] theorem cc78 : Program.concrete Tryd.prog 78 = true := by kernel_rfl
@[go_sem] theorem st78 : strTy Tryd.prog 78 = false := by kernel_rfl
@[go_sem] theorem zt78 : ztree Tryd.prog 78 = some (.agg [.nils, (.lit (.int .i64 0))]) := by kernel_rfl
@[go_sem] theorem sp78 : splaces Tryd.prog 78 = some [(0, 1), (1, 1)] := by kernel_rfl
@[go_sem] theorem fo78_0 : fieldOff Tryd.prog 78 0 = some 0 := by kernel_rfl
@[go_sem] theorem fo78_1 : fieldOff Tryd.prog 78 1 = some 1 := by kernel_rfl
@[go_sem] theorem ty79 : tyInfo Tryd.prog 79 = some (false, 1) := by kernel_rfl
@[go_sem] theorem by79 : byteTy Tryd.prog 79 = false := by kernel_rfl
@[go_sem] theorem cc79 : Program.concrete Tryd.prog 79 = true := by kernel_rfl
@[go_sem] theorem st79 : strTy Tryd.prog 79 = false := by kernel_rfl
@[go_sem] theorem nk79 : nilKind Tryd.prog 79 = 3 := by kernel_rfl
@[go_sem] theorem zt79 : ztree Tryd.prog 79 = some (.lit .nilFunc) := by kernel_rfl
@[go_sem] theorem ty80 : tyInfo Tryd.prog 80 = some (false, 1) := by kernel_rfl
@[go_sem] theorem by80 : byteTy Tryd.prog 80 = false := by kernel_rfl
@[go_sem] theorem cc80 : Program.concrete Tryd.prog 80 = true := by kernel_rfl
@[go_sem] theorem st80 : strTy Tryd.prog 80 = false := by kernel_rfl
@[go_sem] theorem nk80 : nilKind Tryd.prog 80 = 3 := by kernel_rfl
@[go_sem] theorem zt80 : ztree Tryd.prog 80 = some (.lit .nilFunc) := by kernel_rfl
@[go_sem] theorem ty81 : tyInfo Tryd.prog 81 = some (false, 1) := by kernel_rfl
@[go_sem] theorem by81 : byteTy Tryd.prog 81 = false := by kernel_rfl
@[go_sem] theorem cc81 : Program.concrete Tryd.prog 81 = true := by kernel_rfl
@[go_sem] theorem st81 : strTy Tryd.prog 81 = false := by kernel_rfl
@[go_sem] theorem nk81 : nilKind Tryd.prog 81 = 3 := by kernel_rfl
@[go_sem] theorem zt81 : ztree Tryd.prog 81 = some (.lit .nilFunc) := by kernel_rfl
@[go_sem] theorem ty82 : tyInfo Tryd.prog 82 = some (false, 1) := by kernel_rfl
@[go_sem] theorem by82 : byteTy Tryd.prog 82 = false := by kernel_rfl
@[go_sem] theorem cc82 : Program.concrete Tryd.prog 82 = true := by kernel_rfl
@[go_sem] theorem st82 : strTy Tryd.prog 82 = false := by kernel_rfl
@[go_sem] theorem nk82 : nilKind Tryd.prog 82 = 3 := by kernel_rfl
@[go_sem] theorem zt82 : ztree Tryd.prog 82 = some (.lit .nilFunc) := by kernel_rfl
@[go_sem] theorem ty83 : tyInfo Tryd.prog 83 = some (false, 1) := by kernel_rfl
@[go_sem] theorem by83 : byteTy Tryd.prog 83 = false := by kernel_rfl
@[go_sem] theorem cc83 : Program.concrete Tryd.prog 83 = true := by kernel_rfl
@[go_sem] theorem st83 : strTy Tryd.prog 83 = false := by kernel_rfl
@[go_sem] theorem nk83 : nilKind Tryd.prog 83 = 3 := by kernel_rfl
@[go_sem] theorem zt83 : ztree Tryd.prog 83 = some (.lit .nilFunc) := by kernel_rfl
@[go_sem] theorem ty84 : tyInfo Tryd.prog 84 = some (false, 1) := by kernel_rfl
@[go_sem] theorem by84 : byteTy Tryd.prog 84 = false := by kernel_rfl
@[go_sem] theorem cc84 : Program.concrete Tryd.prog 84 = true := by kernel_rfl
@[go_sem] theorem st84 : strTy Tryd.prog 84 = false := by kernel_rfl
@[go_sem] theorem nk84 : nilKind Tryd.prog 84 = 3 := by kernel_rfl
@[go_sem] theorem zt84 : ztree Tryd.prog 84 = some (.lit .nilFunc) := by kernel_rfl
@[go_sem] theorem ty85 : tyInfo Tryd.prog 85 = some (false, 1) := by kernel_rfl
@[go_sem] theorem by85 : byteTy Tryd.prog 85 = false := by kernel_rfl
@[go_sem] theorem cc85 : Program.concrete Tryd.prog 85 = true := by kernel_rfl
@[go_sem] theorem st85 : strTy Tryd.prog 85 = false := by kernel_rfl
@[go_sem] theorem nk85 : nilKind Tryd.prog 85 = 3 := by kernel_rfl
@[go_sem] theorem zt85 : ztree Tryd.prog 85 = some (.lit .nilFunc) := by kernel_rfl
@[go_sem] theorem ty86 : tyInfo Tryd.prog 86 = some (true, 32) := by kernel_rfl
@[go_sem] theorem by86 : byteTy Tryd.prog 86 = false := by kernel_rfl
@[go_sem] theorem cc86 : Program.concrete Tryd.prog 86 = true := by kernel_rfl
@[go_sem] theorem st86 : strTy Tryd.prog 86 = false := by kernel_rfl
@[go_sem] theorem ar86 : arrInfo Tryd.prog 86 = some (32, 5, 1) := by kernel_rfl
@[go_sem] theorem sp86 : splaces Tryd.prog 86 = none := by kernel_rfl
@[go_sem] theorem zt86 : ztree Tryd.prog 86 = some (.agg ((List.replicate 32 (0 : UInt8)).map byteAV)) := by kernel_rfl
@[go_sem] theorem ty87 : tyInfo Tryd.prog 87 = some (true, 32) := by kernel_rfl
@[go_sem] theorem by87 : byteTy Tryd.prog 87 = false := by kernel_rfl
@[go_sem] theorem cc87 : Program.concrete Tryd.prog 87 = true := by kernel_rfl
@[go_sem] theorem eq87 : eqTop Tryd.prog 87 = some (.bytes 32) := by kernel_rfl
@[go_sem] theorem st87 : strTy Tryd.prog 87 = false := by kernel_rfl
@[go_sem] theorem ar87 : arrInfo Tryd.prog 87 = some (32, 5, 1) := by kernel_rfl
@[go_sem] theorem sp87 : splaces Tryd.prog 87 = none := by kernel_rfl
@[go_sem] theorem zt87 : ztree Tryd.prog 87 = some (.agg ((List.replicate 32 (0 : UInt8)).map byteAV)) := by kernel_rfl
@[go_sem] theorem ty88 : tyInfo Tryd.prog 88 = some (false, 1) := by kernel_rfl
@[go_sem] theorem by88 : byteTy Tryd.prog 88 = false := by kernel_rfl
@[go_sem] theorem cc88 : Program.concrete Tryd.prog 88 = true := by kernel_rfl
@[go_sem] theorem st88 : strTy Tryd.prog 88 = false := by kernel_rfl
@[go_sem] theorem nk88 : nilKind Tryd.prog 88 = 3 := by kernel_rfl
@[go_sem] theorem zt88 : ztree Tryd.prog 88 = some (.lit .nilFunc) := by kernel_rfl
@[go_sem] theorem ty89 : tyInfo Tryd.prog 89 = some (false, 1) := by kernel_rfl
@[go_sem] theorem it89 : intTy Tryd.prog 89 = some .u64 := by kernel_rfl
@[go_sem] theorem by89 : byteTy Tryd.prog 89 = false := by kernel_rfl
@[go_sem] theorem cc89 : Program.concrete Tryd.prog 89 = true := by kernel_rfl
@[go_sem] theorem st89 : strTy Tryd.prog 89 = false := by kernel_rfl
@[go_sem] theorem zt89 : ztree Tryd.prog 89 = some (.lit (.int .u64 0)) := by kernel_rfl
@[go_sem] theorem ty90 : tyInfo Tryd.prog 90 = some (false, 1) := by kernel_rfl
@[go_sem] theorem by90 : byteTy Tryd.prog 90 = false := by kernel_rfl
@[go_sem] theorem cc90 : Program.concrete Tryd.prog 90 = true := by kernel_rfl
@[go_sem] theorem st90 : strTy Tryd.prog 90 = false := by kernel_rfl
@[go_sem] theorem nk90 : nilKind Tryd.prog 90 = 3 := by kernel_rfl
@[go_sem] theorem zt90 : ztree Tryd.prog 90 = some (.lit .nilFunc) := by kernel_rfl
@[go_sem] theorem ty91 : tyInfo Tryd.prog 91 = some (false, 1) := by kernel_rfl
@[go_sem] theorem by91 : byteTy Tryd.prog 91 = false := by kernel_rfl
@[go_sem] theorem cc91 : Program.concrete Tryd.prog 91 = true := by kernel_rfl
@[go_sem] theorem st91 : strTy Tryd.prog 91 = false := by kernel_rfl
@[go_sem] theorem nk91 : nilKind Tryd.prog 91 = 3 := by kernel_rfl
@[go_sem] theorem zt91 : ztree Tryd.prog 91 = some (.lit .nilFunc) := by kernel_rfl
@[go_sem] theorem ty93 : tyInfo Tryd.prog 93 = some (false, 1) := by kernel_rfl
@[go_sem] theorem by93 : byteTy Tryd.prog 93 = false := by kernel_rfl
@[go_sem] theorem cc93 : Program.concrete Tryd.prog 93 = true := by kernel_rfl
@[go_sem] theorem st93 : strTy Tryd.prog 93 = false := by kernel_rfl
@[go_sem] theorem nk93 : nilKind Tryd.prog 93 = 3 := by kernel_rfl
@[go_sem] theorem zt93 : ztree Tryd.prog 93 = some (.lit .nilFunc) := by kernel_rfl
@[go_sem] theorem ty94 : tyInfo Tryd.prog 94 = some (false, 1) := by kernel_rfl
@[go_sem] theorem by94 : byteTy Tryd.prog 94 = false := by kernel_rfl
@[go_sem] theorem cc94 : Program.concrete Tryd.prog 94 = true := by kernel_rfl
@[go_sem] theorem st94 : strTy Tryd.prog 94 = false := by kernel_rfl
@[go_sem] theorem nk94 : nilKind Tryd.prog 94 = 3 := by kernel_rfl
@[go_sem] theorem zt94 : ztree Tryd.prog 94 = some (.lit .nilFunc) := by kernel_rfl
@[go_sem] theorem ty95 : tyInfo Tryd.prog 95 = some (false, 1) := by kernel_rfl
@[go_sem] theorem by95 : byteTy Tryd.prog 95 = false := by kernel_rfl
@[go_sem] theorem cc95 : Program.concrete Tryd.prog 95 = true := by kernel_rfl
@[go_sem] theorem st95 : strTy Tryd.prog 95 = false := by kernel_rfl
@[go_sem] theorem nk95 : nilKind Tryd.prog 95 = 3 := by kernel_rfl
@[go_sem] theorem zt95 : ztree Tryd.prog 95 = some (.lit .nilFunc) := by kernel_rfl
@[go_sem] theorem ty96 : tyInfo Tryd.prog 96 = some (false, 1) := by kernel_rfl
@[go_sem] theorem by96 : byteTy Tryd.prog 96 = false := by kernel_rfl
@[go_sem] theorem cc96 : Program.concrete Tryd.prog 96 = true := by kernel_rfl
@[go_sem] theorem st96 : strTy Tryd.prog 96 = false := by kernel_rfl
@[go_sem] theorem nk96 : nilKind Tryd.prog 96 = 3 := by kernel_rfl
@[go_sem] theorem zt96 : ztree Tryd.prog 96 = some (.lit .nilFunc) := by kernel_rfl
@[go_sem] theorem ty97 : tyInfo Tryd.prog 97 = some (false, 1) := by kernel_rfl
@[go_sem] theorem by97 : byteTy Tryd.prog 97 = false := by kernel_rfl
@[go_sem] theorem cc97 : Program.concrete Tryd.prog 97 = true := by kernel_rfl
@[go_sem] theorem st97 : strTy Tryd.prog 97 = false := by kernel_rfl
@[go_sem] theorem nk97 : nilKind Tryd.prog 97 = 2 := by kernel_rfl
@[go_sem] theorem zt97 : ztree Tryd.prog 97 = some (.lit (.pointer none)) := by kernel_rfl
@[go_sem] theorem ty98 : tyInfo Tryd.prog 98 = some (true, 2) := by kernel_rfl
@[go_sem] theorem by98 : byteTy Tryd.prog 98 = false := by kernel_rfl
@[go_sem] theorem cc98 : Program.concrete Tryd.prog 98 = true := by kernel_rfl
@[go_sem] theorem st98 : strTy Tryd.prog 98 = false := by kernel_rfl
@[go_sem] theorem zt98 : ztree Tryd.prog 98 = some (.agg [.nils, (.lit (.int .i64 0))]) := by kernel_rfl
@[go_sem] theorem sp98 : splaces Tryd.prog 98 = some [(0, 1), (1, 1)] := by kernel_rfl
@[go_sem] theorem fo98_0 : fieldOff Tryd.prog 98 0 = some 0 := by kernel_rfl
@[go_sem] theorem fo98_1 : fieldOff Tryd.prog 98 1 = some 1 := by kernel_rfl
@[go_sem] theorem ty99 : tyInfo Tryd.prog 99 = some (true, 2) := by kernel_rfl
@[go_sem] theorem by99 : byteTy Tryd.prog 99 = false := by kernel_rfl
@[go_sem] theorem cc99 : Program.concrete Tryd.prog 99 = true := by kernel_rfl
@[go_sem] theorem st99 : strTy Tryd.prog 99 = false := by kernel_rfl
@[go_sem] theorem zt99 : ztree Tryd.prog 99 = some (.agg [.nils, (.lit (.int .i64 0))]) := by kernel_rfl
@[go_sem] theorem sp99 : splaces Tryd.prog 99 = some [(0, 1), (1, 1)] := by kernel_rfl
@[go_sem] theorem fo99_0 : fieldOff Tryd.prog 99 0 = some 0 := by kernel_rfl
@[go_sem] theorem fo99_1 : fieldOff Tryd.prog 99 1 = some 1 := by kernel_rfl
@[go_sem] theorem ty100 : tyInfo Tryd.prog 100 = some (true, 3) := by kernel_rfl
@[go_sem] theorem by100 : byteTy Tryd.prog 100 = false := by kernel_rfl
@[go_sem] theorem cc100 : Program.concrete Tryd.prog 100 = true := by kernel_rfl
@[go_sem] theorem st100 : strTy Tryd.prog 100 = false := by kernel_rfl
@[go_sem] theorem zt100 : ztree Tryd.prog 100 = some (.agg [(.agg [.nils, (.lit (.int .i64 0))]), (.lit (.int .i64 0))]) := by kernel_rfl
@[go_sem] theorem sp100 : splaces Tryd.prog 100 = some [(0, 2), (2, 1)] := by kernel_rfl
@[go_sem] theorem fo100_0 : fieldOff Tryd.prog 100 0 = some 0 := by kernel_rfl
@[go_sem] theorem fo100_1 : fieldOff Tryd.prog 100 1 = some 2 := by kernel_rfl
@[go_sem] theorem ty101 : tyInfo Tryd.prog 101 = some (true, 3) := by kernel_rfl
@[go_sem] theorem by101 : byteTy Tryd.prog 101 = false := by kernel_rfl
@[go_sem] theorem cc101 : Program.concrete Tryd.prog 101 = true := by kernel_rfl
@[go_sem] theorem st101 : strTy Tryd.prog 101 = false := by kernel_rfl
@[go_sem] theorem zt101 : ztree Tryd.prog 101 = some (.agg [(.agg [.nils, (.lit (.int .i64 0))]), (.lit (.int .i64 0))]) := by kernel_rfl
@[go_sem] theorem sp101 : splaces Tryd.prog 101 = some [(0, 2), (2, 1)] := by kernel_rfl
@[go_sem] theorem fo101_0 : fieldOff Tryd.prog 101 0 = some 0 := by kernel_rfl
@[go_sem] theorem fo101_1 : fieldOff Tryd.prog 101 1 = some 2 := by kernel_rfl
@[go_sem] theorem ty102 : tyInfo Tryd.prog 102 = some (false, 1) := by kernel_rfl
@[go_sem] theorem by102 : byteTy Tryd.prog 102 = false := by kernel_rfl
@[go_sem] theorem cc102 : Program.concrete Tryd.prog 102 = true := by kernel_rfl
@[go_sem] theorem st102 : strTy Tryd.prog 102 = false := by kernel_rfl
@[go_sem] theorem nk102 : nilKind Tryd.prog 102 = 3 := by kernel_rfl
@[go_sem] theorem zt102 : ztree Tryd.prog 102 = some (.lit .nilFunc) := by kernel_rfl
@[go_sem] theorem ty103 : tyInfo Tryd.prog 103 = some (false, 1) := by kernel_rfl
@[go_sem] theorem by103 : byteTy Tryd.prog 103 = false := by kernel_rfl
@[go_sem] theorem cc103 : Program.concrete Tryd.prog 103 = true := by kernel_rfl
@[go_sem] theorem st103 : strTy Tryd.prog 103 = false := by kernel_rfl
@[go_sem] theorem nk103 : nilKind Tryd.prog 103 = 3 := by kernel_rfl
@[go_sem] theorem zt103 : ztree Tryd.prog 103 = some (.lit .nilFunc) := by kernel_rfl
@[go_sem] theorem ty104 : tyInfo Tryd.prog 104 = some (false, 1) := by kernel_rfl
@[go_sem] theorem by104 : byteTy Tryd.prog 104 = false := by kernel_rfl
@[go_sem] theorem cc104 : Program.concrete Tryd.prog 104 = true := by kernel_rfl
@[go_sem] theorem st104 : strTy Tryd.prog 104 = false := by kernel_rfl
@[go_sem] theorem nk104 : nilKind Tryd.prog 104 = 3 := by kernel_rfl
@[go_sem] theorem zt104 : ztree Tryd.prog 104 = some (.lit .nilFunc) := by kernel_rfl
@[go_sem] theorem ty105 : tyInfo Tryd.prog 105 = some (false, 1) := by kernel_rfl
@[go_sem] theorem by105 : byteTy Tryd.prog 105 = false := by kernel_rfl
@[go_sem] theorem cc105 : Program.concrete Tryd.prog 105 = true := by kernel_rfl
@[go_sem] theorem st105 : strTy Tryd.prog 105 = false := by kernel_rfl
@[go_sem] theorem nk105 : nilKind Tryd.prog 105 = 2 := by kernel_rfl
@[go_sem] theorem zt105 : ztree Tryd.prog 105 = some (.lit (.pointer none)) := by kernel_rfl
@[go_sem] theorem ty106 : tyInfo Tryd.prog 106 = some (true, 3) := by kernel_rfl
@[go_sem] theorem by106 : byteTy Tryd.prog 106 = false := by kernel_rfl
@[go_sem] theorem cc106 : Program.concrete Tryd.prog 106 = true := by kernel_rfl
@[go_sem] theorem st106 : strTy Tryd.prog 106 = false := by kernel_rfl
@[go_sem] theorem zt106 : ztree Tryd.prog 106 = some (.agg [.nils, (.lit (.int .i64 0)), (.lit (.int .i64 0))]) := by kernel_rfl
@[go_sem] theorem sp106 : splaces Tryd.prog 106 = some [(0, 1), (1, 1), (2, 1)] := by kernel_rfl
@[go_sem] theorem fo106_0 : fieldOff Tryd.prog 106 0 = some 0 := by kernel_rfl
@[go_sem] theorem fo106_1 : fieldOff Tryd.prog 106 1 = some 1 := by kernel_rfl
@[go_sem] theorem fo106_2 : fieldOff Tryd.prog 106 2 = some 2 := by kernel_rfl
@[go_sem] theorem ty107 : tyInfo Tryd.prog 107 = some (true, 3) := by kernel_rfl
@[go_sem] theorem by107 : byteTy Tryd.prog 107 = false := by kernel_rfl
@[go_sem] theorem cc107 : Program.concrete Tryd.prog 107 = true := by kernel_rfl
@[go_sem] theorem st107 : strTy Tryd.prog 107 = false := by kernel_rfl
@[go_sem] theorem zt107 : ztree Tryd.prog 107 = some (.agg [.nils, (.lit (.int .i64 0)), (.lit (.int .i64 0))]) := by kernel_rfl
@[go_sem] theorem sp107 : splaces Tryd.prog 107 = some [(0, 1), (1, 1), (2, 1)] := by kernel_rfl
@[go_sem] theorem fo107_0 : fieldOff Tryd.prog 107 0 = some 0 := by kernel_rfl
@[go_sem] theorem fo107_1 : fieldOff Tryd.prog 107 1 = some 1 := by kernel_rfl
@[go_sem] theorem fo107_2 : fieldOff Tryd.prog 107 2 = some 2 := by kernel_rfl
@[go_sem] theorem ty108 : tyInfo Tryd.prog 108 = some (false, 1) := by kernel_rfl
@[go_sem] theorem by108 : byteTy Tryd.prog 108 = false := by kernel_rfl
@[go_sem] theorem cc108 : Program.concrete Tryd.prog 108 = true := by kernel_rfl
@[go_sem] theorem st108 : strTy Tryd.prog 108 = false := by kernel_rfl
@[go_sem] theorem nk108 : nilKind Tryd.prog 108 = 3 := by kernel_rfl
@[go_sem] theorem zt108 : ztree Tryd.prog 108 = some (.lit .nilFunc) := by kernel_rfl
@[go_sem] theorem ty109 : tyInfo Tryd.prog 109 = some (false, 1) := by kernel_rfl
@[go_sem] theorem by109 : byteTy Tryd.prog 109 = false := by kernel_rfl
@[go_sem] theorem cc109 : Program.concrete Tryd.prog 109 = true := by kernel_rfl
@[go_sem] theorem st109 : strTy Tryd.prog 109 = false := by kernel_rfl
@[go_sem] theorem nk109 : nilKind Tryd.prog 109 = 3 := by kernel_rfl
@[go_sem] theorem zt109 : ztree Tryd.prog 109 = some (.lit .nilFunc) := by kernel_rfl
@[go_sem] theorem ty110 : tyInfo Tryd.prog 110 = some (false, 1) := by kernel_rfl
@[go_sem] theorem by110 : byteTy Tryd.prog 110 = false := by kernel_rfl
@[go_sem] theorem cc110 : Program.concrete Tryd.prog 110 = true := by kernel_rfl
@[go_sem] theorem st110 : strTy Tryd.prog 110 = false := by kernel_rfl
@[go_sem] theorem nk110 : nilKind Tryd.prog 110 = 3 := by kernel_rfl
@[go_sem] theorem zt110 : ztree Tryd.prog 110 = some (.lit .nilFunc) := by kernel_rfl
@[go_sem] theorem ty111 : tyInfo Tryd.prog 111 = some (false, 1) := by kernel_rfl
@[go_sem] theorem by111 : byteTy Tryd.prog 111 = false := by kernel_rfl
@[go_sem] theorem cc111 : Program.concrete Tryd.prog 111 = true := by kernel_rfl
@[go_sem] theorem st111 : strTy Tryd.prog 111 = false := by kernel_rfl
@[go_sem] theorem nk111 : nilKind Tryd.prog 111 = 3 := by kernel_rfl
@[go_sem] theorem zt111 : ztree Tryd.prog 111 = some (.lit .nilFunc) := by kernel_rfl
@[go_sem] theorem ty112 : tyInfo Tryd.prog 112 = some (true, 8) := by kernel_rfl
@[go_sem] theorem by112 : byteTy Tryd.prog 112 = false := by kernel_rfl
@[go_sem] theorem cc112 : Program.concrete Tryd.prog 112 = true := by kernel_rfl
@[go_sem] theorem st112 : strTy Tryd.prog 112 = false := by kernel_rfl
@[go_sem] theorem ar112 : arrInfo Tryd.prog 112 = some (8, 3, 1) := by kernel_rfl
@[go_sem] theorem sp112 : splaces Tryd.prog 112 = none := by kernel_rfl
@[go_sem] theorem zt112 : ztree Tryd.prog 112 = some (.agg (List.replicate 8 (.lit (.int .i64 0)))) := by kernel_rfl
@[go_sem] theorem ty113 : tyInfo Tryd.prog 113 = some (false, 1) := by kernel_rfl
@[go_sem] theorem by113 : byteTy Tryd.prog 113 = false := by kernel_rfl
@[go_sem] theorem cc113 : Program.concrete Tryd.prog 113 = true := by kernel_rfl
@[go_sem] theorem st113 : strTy Tryd.prog 113 = false := by kernel_rfl
@[go_sem] theorem nk113 : nilKind Tryd.prog 113 = 3 := by kernel_rfl
@[go_sem] theorem zt113 : ztree Tryd.prog 113 = some (.lit .nilFunc) := by kernel_rfl
@[go_sem] theorem ty114 : tyInfo Tryd.prog 114 = some (false, 1) := by kernel_rfl
@[go_sem] theorem by114 : byteTy Tryd.prog 114 = false := by kernel_rfl
@[go_sem] theorem cc114 : Program.concrete Tryd.prog 114 = true := by kernel_rfl
@[go_sem] theorem st114 : strTy Tryd.prog 114 = false := by kernel_rfl
@[go_sem] theorem nk114 : nilKind Tryd.prog 114 = 3 := by kernel_rfl
@[go_sem] theorem zt114 : ztree Tryd.prog 114 = some (.lit .nilFunc) := by kernel_rfl
@[go_sem] theorem ty115 : tyInfo Tryd.prog 115 = some (false, 1) := by kernel_rfl
@[go_sem] theorem it115 : intTy Tryd.prog 115 = some .u32 := by kernel_rfl
@[go_sem] theorem by115 : byteTy Tryd.prog 115 = false := by kernel_rfl
@[go_sem] theorem cc115 : Program.concrete Tryd.prog 115 = true := by kernel_rfl
@[go_sem] theorem st115 : strTy Tryd.prog 115 = false := by kernel_rfl
@[go_sem] theorem zt115 : ztree Tryd.prog 115 = some (.lit (.int .u32 0)) := by kernel_rfl
@[go_sem] theorem ty116 : tyInfo Tryd.prog 116 = some (true, 8) := by kernel_rfl
@[go_sem] theorem by116 : byteTy Tryd.prog 116 = false := by kernel_rfl
@[go_sem] theorem cc116 : Program.concrete Tryd.prog 116 = true := by kernel_rfl
@[go_sem] theorem st116 : strTy Tryd.prog 116 = false := by kernel_rfl
@[go_sem] theorem ar116 : arrInfo Tryd.prog 116 = some (8, 115, 1) := by kernel_rfl
@[go_sem] theorem sp116 : splaces Tryd.prog 116 = none := by kernel_rfl
@[go_sem] theorem zt116 : ztree Tryd.prog 116 = some (.agg (List.replicate 8 (.lit (.int .u32 0)))) := by kernel_rfl
@[go_sem] theorem ty117 : tyInfo Tryd.prog 117 = some (true, 10) := by kernel_rfl
@[go_sem] theorem by117 : byteTy Tryd.prog 117 = false := by kernel_rfl
@[go_sem] theorem cc117 : Program.concrete Tryd.prog 117 = true := by kernel_rfl
@[go_sem] theorem st117 : strTy Tryd.prog 117 = false := by kernel_rfl
@[go_sem] theorem zt117 : ztree Tryd.prog 117 = some (.agg [(.agg (List.replicate 8 (.lit (.int .u32 0)))), .nils, (.lit (.int .i64 0))]) := by kernel_rfl
@[go_sem] theorem sp117 : splaces Tryd.prog 117 = some [(0, 8), (8, 1), (9, 1)] := by kernel_rfl
@[go_sem] theorem fo117_0 : fieldOff Tryd.prog 117 0 = some 0 := by kernel_rfl
@[go_sem] theorem fo117_1 : fieldOff Tryd.prog 117 1 = some 8 := by kernel_rfl
@[go_sem] theorem fo117_2 : fieldOff Tryd.prog 117 2 = some 9 := by kernel_rfl
@[go_sem] theorem ty118 : tyInfo Tryd.prog 118 = some (true, 10) := by kernel_rfl
@[go_sem] theorem by118 : byteTy Tryd.prog 118 = false := by kernel_rfl
@[go_sem] theorem cc118 : Program.concrete Tryd.prog 118 = true := by kernel_rfl
@[go_sem] theorem st118 : strTy Tryd.prog 118 = false := by kernel_rfl
@[go_sem] theorem zt118 : ztree Tryd.prog 118 = some (.agg [(.agg (List.replicate 8 (.lit (.int .u32 0)))), .nils, (.lit (.int .i64 0))]) := by kernel_rfl
@[go_sem] theorem sp118 : splaces Tryd.prog 118 = some [(0, 8), (8, 1), (9, 1)] := by kernel_rfl
@[go_sem] theorem fo118_0 : fieldOff Tryd.prog 118 0 = some 0 := by kernel_rfl
@[go_sem] theorem fo118_1 : fieldOff Tryd.prog 118 1 = some 8 := by kernel_rfl
@[go_sem] theorem fo118_2 : fieldOff Tryd.prog 118 2 = some 9 := by kernel_rfl
@[go_sem] theorem ty119 : tyInfo Tryd.prog 119 = some (false, 1) := by kernel_rfl
@[go_sem] theorem by119 : byteTy Tryd.prog 119 = false := by kernel_rfl
@[go_sem] theorem cc119 : Program.concrete Tryd.prog 119 = true := by kernel_rfl
@[go_sem] theorem st119 : strTy Tryd.prog 119 = false := by kernel_rfl
@[go_sem] theorem nk119 : nilKind Tryd.prog 119 = 3 := by kernel_rfl
@[go_sem] theorem zt119 : ztree Tryd.prog 119 = some (.lit .nilFunc) := by kernel_rfl
@[go_sem] theorem ty120 : tyInfo Tryd.prog 120 = some (false, 1) := by kernel_rfl
@[go_sem] theorem by120 : byteTy Tryd.prog 120 = false := by kernel_rfl
@[go_sem] theorem cc120 : Program.concrete Tryd.prog 120 = true := by kernel_rfl
@[go_sem] theorem st120 : strTy Tryd.prog 120 = false := by kernel_rfl
@[go_sem] theorem nk120 : nilKind Tryd.prog 120 = 3 := by kernel_rfl
@[go_sem] theorem zt120 : ztree Tryd.prog 120 = some (.lit .nilFunc) := by kernel_rfl
@[go_sem] theorem ty121 : tyInfo Tryd.prog 121 = some (false, 1) := by kernel_rfl
@[go_sem] theorem by121 : byteTy Tryd.prog 121 = false := by kernel_rfl
@[go_sem] theorem cc121 : Program.concrete Tryd.prog 121 = true := by kernel_rfl
@[go_sem] theorem st121 : strTy Tryd.prog 121 = false := by kernel_rfl
@[go_sem] theorem nk121 : nilKind Tryd.prog 121 = 3 := by kernel_rfl
@[go_sem] theorem zt121 : ztree Tryd.prog 121 = some (.lit .nilFunc) := by kernel_rfl
@[go_sem] theorem ty122 : tyInfo Tryd.prog 122 = some (false, 1) := by kernel_rfl
@[go_sem] theorem by122 : byteTy Tryd.prog 122 = false := by kernel_rfl
@[go_sem] theorem cc122 : Program.concrete Tryd.prog 122 = true := by kernel_rfl
@[go_sem] theorem st122 : strTy Tryd.prog 122 = false := by kernel_rfl
@[go_sem] theorem nk122 : nilKind Tryd.prog 122 = 3 := by kernel_rfl
@[go_sem] theorem zt122 : ztree Tryd.prog 122 = some (.lit .nilFunc) := by kernel_rfl
@[go_sem] theorem ty123 : tyInfo Tryd.prog 123 = some (false, 1) := by kernel_rfl
@[go_sem] theorem by123 : byteTy Tryd.prog 123 = false := by kernel_rfl
@[go_sem] theorem cc123 : Program.concrete Tryd.prog 123 = true := by kernel_rfl
@[go_sem] theorem st123 : strTy Tryd.prog 123 = false := by kernel_rfl
@[go_sem] theorem nk123 : nilKind Tryd.prog 123 = 3 := by kernel_rfl
@[go_sem] theorem zt123 : ztree Tryd.prog 123 = some (.lit .nilFunc) := by kernel_rfl
@[go_sem] theorem ty124 : tyInfo Tryd.prog 124 = some (false, 1) := by kernel_rfl
@[go_sem] theorem by124 : byteTy Tryd.prog 124 = false := by kernel_rfl
@[go_sem] theorem cc124 : Program.concrete Tryd.prog 124 = true := by kernel_rfl
@[go_sem] theorem st124 : strTy Tryd.prog 124 = false := by kernel_rfl
@[go_sem] theorem nk124 : nilKind Tryd.prog 124 = 3 := by kernel_rfl
@[go_sem] theorem zt124 : ztree Tryd.prog 124 = some (.lit .nilFunc) := by kernel_rfl
@[go_sem] theorem ty125 : tyInfo Tryd.prog 125 = some (false, 1) := by kernel_rfl
@[go_sem] theorem by125 : byteTy Tryd.prog 125 = false := by kernel_rfl
@[go_sem] theorem cc125 : Program.concrete Tryd.prog 125 = true := by kernel_rfl
@[go_sem] theorem st125 : strTy Tryd.prog 125 = false := by kernel_rfl
@[go_sem] theorem nk125 : nilKind Tryd.prog 125 = 3 := by kernel_rfl
@[go_sem] theorem zt125 : ztree Tryd.prog 125 = some (.lit .nilFunc) := by kernel_rfl
@[go_sem] theorem ty127 : tyInfo Tryd.prog 127 = some (false, 1) := by kernel_rfl
@[go_sem] theorem by127 : byteTy Tryd.prog 127 = false := by kernel_rfl
@[go_sem] theorem cc127 : Program.concrete Tryd.prog 127 = true := by kernel_rfl
@[go_sem] theorem st127 : strTy Tryd.prog 127 = false := by kernel_rfl
@[go_sem] theorem nk127 : nilKind Tryd.prog 127 = 3 := by kernel_rfl
@[go_sem] theorem zt127 : ztree Tryd.prog 127 = some (.lit .nilFunc) := by kernel_rfl
@[go_sem] theorem ty129 : tyInfo Tryd.prog 129 = some (false, 1) := by kernel_rfl
@[go_sem] theorem by129 : byteTy Tryd.prog 129 = false := by kernel_rfl
@[go_sem] theorem cc129 : Program.concrete Tryd.prog 129 = true := by kernel_rfl
@[go_sem] theorem st129 : strTy Tryd.prog 129 = false := by kernel_rfl
@[go_sem] theorem nk129 : nilKind Tryd.prog 129 = 3 := by kernel_rfl
@[go_sem] theorem zt129 : ztree Tryd.prog 129 = some (.lit .nilFunc) := by kernel_rfl
@[go_sem] theorem ty131 : tyInfo Tryd.prog 131 = some (false, 1) := by kernel_rfl
@[go_sem] theorem by131 : byteTy Tryd.prog 131 = false := by kernel_rfl
@[go_sem] theorem cc131 : Program.concrete Tryd.prog 131 = true := by kernel_rfl
@[go_sem] theorem st131 : strTy Tryd.prog 131 = false := by kernel_rfl
@[go_sem] theorem nk131 : nilKind Tryd.prog 131 = 3 := by kernel_rfl
@[go_sem] theorem zt131 : ztree Tryd.prog 131 = some (.lit .nilFunc) := by kernel_rfl
@[go_sem] theorem ty132 : tyInfo Tryd.prog 132 = some (false, 1) := by kernel_rfl
@[go_sem] theorem by132 : byteTy Tryd.prog 132 = false := by kernel_rfl
@[go_sem] theorem cc132 : Program.concrete Tryd.prog 132 = true := by kernel_rfl
@[go_sem] theorem st132 : strTy Tryd.prog 132 = false := by kernel_rfl
@[go_sem] theorem sl132 : sliceTy Tryd.prog 132 = some 9 := by kernel_rfl
@[go_sem] theorem si132 : sliceInfo Tryd.prog 132 = some (9, 1, 16, (.lit (.string ByteArray.empty))) := by kernel_rfl
@[go_sem] theorem nk132 : nilKind Tryd.prog 132 = 1 := by kernel_rfl
@[go_sem] theorem zt132 : ztree Tryd.prog 132 = some .nils := by kernel_rfl
@[go_sem] theorem ty133 : tyInfo Tryd.prog 133 = some (false, 1) := by kernel_rfl
@[go_sem] theorem by133 : byteTy Tryd.prog 133 = false := by kernel_rfl
@[go_sem] theorem cc133 : Program.concrete Tryd.prog 133 = true := by kernel_rfl
@[go_sem] theorem st133 : strTy Tryd.prog 133 = false := by kernel_rfl
@[go_sem] theorem nk133 : nilKind Tryd.prog 133 = 3 := by kernel_rfl
@[go_sem] theorem zt133 : ztree Tryd.prog 133 = some (.lit .nilFunc) := by kernel_rfl
@[go_sem] theorem ty134 : tyInfo Tryd.prog 134 = some (true, 64) := by kernel_rfl
@[go_sem] theorem by134 : byteTy Tryd.prog 134 = false := by kernel_rfl
@[go_sem] theorem cc134 : Program.concrete Tryd.prog 134 = true := by kernel_rfl
@[go_sem] theorem st134 : strTy Tryd.prog 134 = false := by kernel_rfl
@[go_sem] theorem ar134 : arrInfo Tryd.prog 134 = some (64, 115, 1) := by kernel_rfl
@[go_sem] theorem sp134 : splaces Tryd.prog 134 = none := by kernel_rfl
@[go_sem] theorem zt134 : ztree Tryd.prog 134 = some (.agg (List.replicate 64 (.lit (.int .u32 0)))) := by kernel_rfl
@[go_sem] theorem ty135 : tyInfo Tryd.prog 135 = some (false, 1) := by kernel_rfl
@[go_sem] theorem by135 : byteTy Tryd.prog 135 = false := by kernel_rfl
@[go_sem] theorem cc135 : Program.concrete Tryd.prog 135 = true := by kernel_rfl
@[go_sem] theorem st135 : strTy Tryd.prog 135 = false := by kernel_rfl
@[go_sem] theorem nk135 : nilKind Tryd.prog 135 = 3 := by kernel_rfl
@[go_sem] theorem zt135 : ztree Tryd.prog 135 = some (.lit .nilFunc) := by kernel_rfl
@[go_sem] theorem ty136 : tyInfo Tryd.prog 136 = some (false, 1) := by kernel_rfl
@[go_sem] theorem by136 : byteTy Tryd.prog 136 = false := by kernel_rfl
@[go_sem] theorem cc136 : Program.concrete Tryd.prog 136 = true := by kernel_rfl
@[go_sem] theorem st136 : strTy Tryd.prog 136 = false := by kernel_rfl
@[go_sem] theorem nk136 : nilKind Tryd.prog 136 = 3 := by kernel_rfl
@[go_sem] theorem zt136 : ztree Tryd.prog 136 = some (.lit .nilFunc) := by kernel_rfl
@[go_sem] theorem ty137 : tyInfo Tryd.prog 137 = some (false, 1) := by kernel_rfl
@[go_sem] theorem by137 : byteTy Tryd.prog 137 = false := by kernel_rfl
@[go_sem] theorem cc137 : Program.concrete Tryd.prog 137 = true := by kernel_rfl
@[go_sem] theorem st137 : strTy Tryd.prog 137 = false := by kernel_rfl
@[go_sem] theorem nk137 : nilKind Tryd.prog 137 = 2 := by kernel_rfl
@[go_sem] theorem zt137 : ztree Tryd.prog 137 = some (.lit (.pointer none)) := by kernel_rfl
@[go_sem] theorem ty138 : tyInfo Tryd.prog 138 = some (false, 1) := by kernel_rfl
@[go_sem] theorem by138 : byteTy Tryd.prog 138 = false := by kernel_rfl
@[go_sem] theorem cc138 : Program.concrete Tryd.prog 138 = true := by kernel_rfl
@[go_sem] theorem st138 : strTy Tryd.prog 138 = false := by kernel_rfl
@[go_sem] theorem nk138 : nilKind Tryd.prog 138 = 2 := by kernel_rfl
@[go_sem] theorem zt138 : ztree Tryd.prog 138 = some (.lit (.pointer none)) := by kernel_rfl
@[go_sem] theorem ty139 : tyInfo Tryd.prog 139 = some (true, 3) := by kernel_rfl
@[go_sem] theorem by139 : byteTy Tryd.prog 139 = false := by kernel_rfl
@[go_sem] theorem cc139 : Program.concrete Tryd.prog 139 = true := by kernel_rfl
@[go_sem] theorem st139 : strTy Tryd.prog 139 = false := by kernel_rfl
@[go_sem] theorem zt139 : ztree Tryd.prog 139 = some (.agg [.nils, (.lit (.int .i64 0)), (.lit (.int .i64 0))]) := by kernel_rfl
@[go_sem] theorem sp139 : splaces Tryd.prog 139 = some [(0, 1), (1, 1), (2, 1)] := by kernel_rfl
@[go_sem] theorem fo139_0 : fieldOff Tryd.prog 139 0 = some 0 := by kernel_rfl
@[go_sem] theorem fo139_1 : fieldOff Tryd.prog 139 1 = some 1 := by kernel_rfl
@[go_sem] theorem fo139_2 : fieldOff Tryd.prog 139 2 = some 2 := by kernel_rfl
@[go_sem] theorem ty140 : tyInfo Tryd.prog 140 = some (true, 3) := by kernel_rfl
@[go_sem] theorem by140 : byteTy Tryd.prog 140 = false := by kernel_rfl
@[go_sem] theorem cc140 : Program.concrete Tryd.prog 140 = true := by kernel_rfl
@[go_sem] theorem st140 : strTy Tryd.prog 140 = false := by kernel_rfl
@[go_sem] theorem zt140 : ztree Tryd.prog 140 = some (.agg [.nils, (.lit (.int .i64 0)), (.lit (.int .i64 0))]) := by kernel_rfl
@[go_sem] theorem sp140 : splaces Tryd.prog 140 = some [(0, 1), (1, 1), (2, 1)] := by kernel_rfl
@[go_sem] theorem fo140_0 : fieldOff Tryd.prog 140 0 = some 0 := by kernel_rfl
@[go_sem] theorem fo140_1 : fieldOff Tryd.prog 140 1 = some 1 := by kernel_rfl
@[go_sem] theorem fo140_2 : fieldOff Tryd.prog 140 2 = some 2 := by kernel_rfl
@[go_sem] theorem ty141 : tyInfo Tryd.prog 141 = some (false, 1) := by kernel_rfl
@[go_sem] theorem by141 : byteTy Tryd.prog 141 = false := by kernel_rfl
@[go_sem] theorem cc141 : Program.concrete Tryd.prog 141 = true := by kernel_rfl
@[go_sem] theorem st141 : strTy Tryd.prog 141 = false := by kernel_rfl
@[go_sem] theorem nk141 : nilKind Tryd.prog 141 = 3 := by kernel_rfl
@[go_sem] theorem zt141 : ztree Tryd.prog 141 = some (.lit .nilFunc) := by kernel_rfl
@[go_sem] theorem ty142 : tyInfo Tryd.prog 142 = some (false, 1) := by kernel_rfl
@[go_sem] theorem by142 : byteTy Tryd.prog 142 = false := by kernel_rfl
@[go_sem] theorem cc142 : Program.concrete Tryd.prog 142 = true := by kernel_rfl
@[go_sem] theorem st142 : strTy Tryd.prog 142 = false := by kernel_rfl
@[go_sem] theorem nk142 : nilKind Tryd.prog 142 = 3 := by kernel_rfl
@[go_sem] theorem zt142 : ztree Tryd.prog 142 = some (.lit .nilFunc) := by kernel_rfl
@[go_sem] theorem ty143 : tyInfo Tryd.prog 143 = some (false, 1) := by kernel_rfl
@[go_sem] theorem by143 : byteTy Tryd.prog 143 = false := by kernel_rfl
@[go_sem] theorem cc143 : Program.concrete Tryd.prog 143 = true := by kernel_rfl
@[go_sem] theorem st143 : strTy Tryd.prog 143 = false := by kernel_rfl
@[go_sem] theorem nk143 : nilKind Tryd.prog 143 = 3 := by kernel_rfl
@[go_sem] theorem zt143 : ztree Tryd.prog 143 = some (.lit .nilFunc) := by kernel_rfl
@[go_sem] theorem ty144 : tyInfo Tryd.prog 144 = some (false, 1) := by kernel_rfl
@[go_sem] theorem by144 : byteTy Tryd.prog 144 = false := by kernel_rfl
@[go_sem] theorem cc144 : Program.concrete Tryd.prog 144 = true := by kernel_rfl
@[go_sem] theorem st144 : strTy Tryd.prog 144 = false := by kernel_rfl
@[go_sem] theorem nk144 : nilKind Tryd.prog 144 = 3 := by kernel_rfl
@[go_sem] theorem zt144 : ztree Tryd.prog 144 = some (.lit .nilFunc) := by kernel_rfl
@[go_sem] theorem ty153 : tyInfo Tryd.prog 153 = some (false, 1) := by kernel_rfl
@[go_sem] theorem by153 : byteTy Tryd.prog 153 = false := by kernel_rfl
@[go_sem] theorem cc153 : Program.concrete Tryd.prog 153 = true := by kernel_rfl
@[go_sem] theorem st153 : strTy Tryd.prog 153 = false := by kernel_rfl
@[go_sem] theorem nk153 : nilKind Tryd.prog 153 = 2 := by kernel_rfl
@[go_sem] theorem zt153 : ztree Tryd.prog 153 = some (.lit (.pointer none)) := by kernel_rfl
end Go.Proofs.YtaelnglalpiemaaDoor
